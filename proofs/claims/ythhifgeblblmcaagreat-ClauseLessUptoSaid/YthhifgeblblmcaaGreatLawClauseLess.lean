import Derived.Test.YthhifgeblblmcaaGreatGc
import Derived.Test.YthhifgeblblmcaaGreatGa
import Derived.Test.YthhifgeblblmcaaGreatRows
import Derived.Test.YthhifgeblblmcaaGreatAMd
import Derived.JoinedCond
import Derived.OpenShut
/- ClauseLess is true of every input of bulk at most 1048576: the statement's second form; no further condition. -/
set_option linter.unusedVariables false
set_option linter.unusedSimpArgs false
set_option linter.unusedSectionVars false
namespace Go.Proofs.YthhifgeblblmcaaGreat
open Go Go.AM Go.RowKit Go.ChangeShapes Go.WideShapes Go.ChangeAt
set_option linter.unusedVariables false
theorem own:ownKnob Tryz.prog.godebug=none:=by kernel_rfl
theorem laidOut:laidOutB Tryz.prog=true:=by kernel_rfl
theorem follows:Tryz.prog.follows .mixedOrders=true:=by kernel_rfl
mutual
theorem zmW{H:Type}: ∀d:DataW H,Qr d≤Rows.uptoBulk d
 | .lit l=>by cases l<;>simp[Qr,Rows.uptoBulk]
 | .nil=>by simp[Qr,Rows.uptoBulk]
 | .ptr d=>by simp only[Qr,Rows.uptoBulk];have:=zmW d;omega
 | .slice a b=>by simp only[Qr,Rows.uptoBulk];have:=zeh a;have:=zeh b;omega
 | .agg a=>by simp only[Qr,Rows.uptoBulk];have:=zeh a;omega
 | .iface t d=>by simp only[Qr,Rows.uptoBulk];have:=zmW d;omega
 | .map es=>by simp[Qr,Rows.uptoBulk]
 | .held h=>by simp[Qr,Rows.uptoBulk]
theorem zeh{H:Type}: ∀ds:List (DataW H),XO ds≤Rows.uptoBulkAll ds
 |[]=>by simp[XO,Rows.uptoBulkAll]
 |d::ds=>by simp only[XO,Rows.uptoBulkAll];have:=zmW d;have:=zeh ds;omega
end
variable(cfg:Cfg)(ext:Ext)
namespace clauseLess
def Pure:Prop:= ∀us,zlt Tryz.prog [22,23,3,30,39] us→Yc us≤1048576→ ∃m st,(XJ Tryz.prog cfg ext m).call 5 us []=some (.ret (.bool true),st)
set_option maxRecDepth 100000 in
theorem lifted(hE:zia Tryz.prog cfg ext)(hp:Pure cfg ext)(os:Os)(started:os.Started)(H:Type)(enc:TypeId×Value→H)(F:Stop.Interp):
  ReturnsInHanded {} Tryz.checked os 5 .any ((Rows.OpenSpec.upto Rows.clauseLessSpec).pre6 enc Tryz.prog Tryz.f5 Rows.clauseLessUptoRow.domain false) (((Rows.OpenSpec.upto Rows.clauseLessSpec).at F).post enc Tryz.prog Tryz.f5 false true false false):=by
 refine returnsInHanded_of_cond (C:=Tryz.checked) (s:=Rows.OpenSpec.upto Rows.clauseLessSpec) (k:=Rows.uptoSmall) rfl own started (by kernel_rfl) Tryz.func5
  (OpenSpec.witness (enc:=enc) (C:=Tryz.checked) (s:=Rows.OpenSpec.upto Rows.clauseLessSpec) (k:=Rows.uptoSmall) rfl false ⟨#[], #[.slice none 0 0, .slice none 0 0, .int .i64 0, .agg #[.slice none 0 0, .slice none 0 0, .int .i64 0, .int .i64 0, .slice none 0 0, .slice none 0 0, .int .i64 0, .int .i64 0, .slice none 0 0], .agg #[.string ByteArray.empty, .slice none 0 0, .slice none 0 0, .slice none 0 0, .int .i64 0, .int .i64 0, .slice none 0 0, .slice none 0 0, .int .i64 0, .int .i64 0, .slice none 0 0, .bool false, .slice none 0 0]],[]⟩ 8 (by kernel_rfl) (by kernel_rfl) (by kernel_rfl)
   (x:=([.nil, .nil, .lit (.int .i64 0), .agg [.nil, .nil, .agg [.lit (.int .i64 0), .lit (.int .i64 0), .nil], .nil, .agg [.lit (.int .i64 0), .lit (.int .i64 0), .nil]], .agg [.lit (.string []), .nil, .nil, .nil, .agg [.lit (.int .i64 0), .lit (.int .i64 0), .nil], .nil, .agg [.lit (.int .i64 0), .lit (.int .i64 0), .nil], .lit (.bool false), .nil]],[],[])) (by kernel_rfl) rfl (by kernel_rfl)) ?_
 intro W base args ds gs before hval hW _ hk _
 refine zm4 (s:=Rows.clauseLessSpec) (H:=H) (S:=[22,116,9,27,25,3,23,39,24,47,4,37,30,28,43]) (ts:=[22,23,3,30,39]) (rt:=4) (B:=1048576) follows CL.plainNames hE laidOut (by kernel_rfl) (by rw[Tryz.params5]) (by decide) (by kernel_rfl) rfl Tryz.underlying4 hp rfl (fun hl=> ?_) hval hW (Nat.le_trans (zeh _) (of_decide_eq_true hk))
 match ds,hl with
 |[d0,d1,d2,d3,d4],_=>rfl
theorem over(hE:zia Tryz.prog cfg ext)(hp:Pure cfg ext):Rows.clauseLessUptoRow.holds Tryz.pinned (Rows.OpenSpec.upto Rows.clauseLessSpec):=
 OpenClaim.holds_of_cond 5 Tryz.f5 rfl rfl rfl rfl rfl rfl rfl ⟨rfl,rfl,rfl,rfl,rfl⟩ rfl rfl rfl rfl rfl (by kernel_rfl) Tryz.func5 (by kernel_rfl)
  (of_decide_eq_true (by kernel_rfl)) (by unfold Func.isWrapper;first|(rw[if_pos (by decide+kernel)];kernel_rfl)|(rw[if_neg (by decide+kernel)];exact⟨rfl,rfl⟩))
  (fun os started H enc _ F=>lifted cfg ext hE hp os started H enc F)
theorem proved(hE:zia Tryz.prog cfg ext)(hp:Pure cfg ext):Rows.ClauseLessUptoSaid:=over cfg ext hE hp
end clauseLess
theorem clauseLess_holds:Rows.ClauseLessUptoSaid:=clauseLess.proved CL.cfg CL.ext CL.extOK CL.pure_ClauseLess
end Go.Proofs.YthhifgeblblmcaaGreat
