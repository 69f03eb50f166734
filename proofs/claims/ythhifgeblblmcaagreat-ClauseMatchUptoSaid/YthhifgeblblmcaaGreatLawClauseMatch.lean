import Derived.Test.YthhifgeblblmcaaGreatGd
import Derived.Test.YthhifgeblblmcaaGreatGa
import Derived.Test.YthhifgeblblmcaaGreatRows
import Derived.Test.YthhifgeblblmcaaGreatAMd
import Derived.JoinedCond
import Derived.OpenShut
/- ClauseMatch is true of every input of bulk at most 1048576: the statement's second form; no further condition. -/
set_option linter.unusedVariables false
set_option linter.unusedSimpArgs false
set_option linter.unusedSectionVars false
namespace Go.Proofs.YthhifgeblblmcaaGreat
open Go Go.AM Go.RowKit Go.ChangeShapes Go.WideShapes Go.ChangeAt
set_option linter.unusedVariables false
theorem own:ownKnob Tryz.prog.godebug=none:=by kernel_rfl
theorem laidOut:laidOutB Tryz.prog=true:=by kernel_rfl
theorem follows:Tryz.prog.follows .mixedOrders=true:=by kernel_rfl
mutual
theorem zo8{H:Type}: ∀d:DataW H,QG d≤Rows.uptoBulk d
 | .lit l=>by cases l<;>simp[QG,Rows.uptoBulk]
 | .nil=>by simp[QG,Rows.uptoBulk]
 | .ptr d=>by simp only[QG,Rows.uptoBulk];have:=zo8 d;omega
 | .slice a b=>by simp only[QG,Rows.uptoBulk];have:=zfe a;have:=zfe b;omega
 | .agg a=>by simp only[QG,Rows.uptoBulk];have:=zfe a;omega
 | .iface t d=>by simp only[QG,Rows.uptoBulk];have:=zo8 d;omega
 | .map es=>by simp[QG,Rows.uptoBulk]
 | .held h=>by simp[QG,Rows.uptoBulk]
theorem zfe{H:Type}: ∀ds:List (DataW H),Qh ds≤Rows.uptoBulkAll ds
 |[]=>by simp[Qh,Rows.uptoBulkAll]
 |d::ds=>by simp only[Qh,Rows.uptoBulkAll];have:=zo8 d;have:=zfe ds;omega
end
variable(cfg:Cfg)(ext:Ext)
namespace clauseMatch
def Pure:Prop:= ∀us,zmP Tryz.prog [22,23,3,30,25,25] us→ZY us≤1048576→ ∃m st,(Qa Tryz.prog cfg ext m).call 7 us []=some (.ret (.bool true),st)
set_option maxRecDepth 100000 in
theorem lifted(hE:zjl Tryz.prog cfg ext)(hp:Pure cfg ext)(os:Os)(started:os.Started)(H:Type)(enc:TypeId×Value→H)(F:Stop.Interp):
  ReturnsInHanded {} Tryz.checked os 7 .any ((Rows.OpenSpec.upto Rows.clauseMatchSpec).pre6 enc Tryz.prog Tryz.f7 Rows.clauseMatchUptoRow.domain false) (((Rows.OpenSpec.upto Rows.clauseMatchSpec).at F).post enc Tryz.prog Tryz.f7 false true false false):=by
 refine returnsInHanded_of_cond (C:=Tryz.checked) (s:=Rows.OpenSpec.upto Rows.clauseMatchSpec) (k:=Rows.uptoSmall) rfl own started (by kernel_rfl) Tryz.func7
  (OpenSpec.witness (enc:=enc) (C:=Tryz.checked) (s:=Rows.OpenSpec.upto Rows.clauseMatchSpec) (k:=Rows.uptoSmall) rfl false ⟨#[], #[.slice none 0 0, .slice none 0 0, .int .i64 0, .agg #[.slice none 0 0, .slice none 0 0, .int .i64 0, .int .i64 0, .slice none 0 0, .slice none 0 0, .int .i64 0, .int .i64 0, .slice none 0 0], .slice none 0 0, .slice none 0 0],[]⟩ 8 (by kernel_rfl) (by kernel_rfl) (by kernel_rfl)
   (x:=([.nil, .nil, .lit (.int .i64 0), .agg [.nil, .nil, .agg [.lit (.int .i64 0), .lit (.int .i64 0), .nil], .nil, .agg [.lit (.int .i64 0), .lit (.int .i64 0), .nil]], .nil, .nil],[],[])) (by kernel_rfl) rfl (by kernel_rfl)) ?_
 intro W base args ds gs before hval hW _ hk _
 refine zob (s:=Rows.clauseMatchSpec) (H:=H) (S:=[22,116,9,27,25,3,23,39,24,47,4,37,30,28,43]) (ts:=[22,23,3,30,25,25]) (rt:=4) (B:=1048576) follows CL.plainNames hE laidOut (by kernel_rfl) (by rw[Tryz.params7]) (by decide) (by kernel_rfl) rfl Tryz.underlying4 hp rfl (fun hl=> ?_) hval hW (Nat.le_trans (zfe _) (of_decide_eq_true hk))
 match ds,hl with
 |[d0,d1,d2,d3,d4,d5],_=>rfl
theorem over(hE:zjl Tryz.prog cfg ext)(hp:Pure cfg ext):Rows.clauseMatchUptoRow.holds Tryz.pinned (Rows.OpenSpec.upto Rows.clauseMatchSpec):=
 OpenClaim.holds_of_cond 7 Tryz.f7 rfl rfl rfl rfl rfl rfl rfl ⟨rfl,rfl,rfl,rfl,rfl⟩ rfl rfl rfl rfl rfl (by kernel_rfl) Tryz.func7 (by kernel_rfl)
  (of_decide_eq_true (by kernel_rfl)) (by unfold Func.isWrapper;first|(rw[if_pos (by decide+kernel)];kernel_rfl)|(rw[if_neg (by decide+kernel)];exact⟨rfl,rfl⟩))
  (fun os started H enc _ F=>lifted cfg ext hE hp os started H enc F)
theorem proved(hE:zjl Tryz.prog cfg ext)(hp:Pure cfg ext):Rows.ClauseMatchUptoSaid:=over cfg ext hE hp
end clauseMatch
theorem clauseMatch_holds:Rows.ClauseMatchUptoSaid:=clauseMatch.proved CL.cfg CL.ext CL.extOK CL.pure_ClauseMatch
end Go.Proofs.YthhifgeblblmcaaGreat
