import Derived.Test.YthhifgeblblmcaaGreatGc
import Derived.Test.YthhifgeblblmcaaGreatGa
import Derived.Test.YthhifgeblblmcaaGreatRows
import Derived.Test.YthhifgeblblmcaaGreatAMd
import Derived.JoinedCond
import Derived.OpenShut
/- ClauseSchema is true of every input of bulk at most 1048576: the statement's second form; no further condition. -/
set_option linter.unusedVariables false
set_option linter.unusedSimpArgs false
set_option linter.unusedSectionVars false
namespace Go.Proofs.YthhifgeblblmcaaGreat
open Go Go.AM Go.RowKit Go.ChangeShapes Go.WideShapes Go.ChangeAt
set_option linter.unusedVariables false
theorem own:ownKnob Tryz.prog.godebug=none:=by kernel_rfl
theorem laidOut:laidOutB Tryz.prog=true:=by kernel_rfl
theorem follows:Tryz.prog.follows .mixedOrders=true:=by kernel_rfl
mutual
theorem zk4{H:Type}: ∀d:DataW H,XO d≤Rows.uptoBulk d
 | .lit l=>by cases l<;>simp[XO,Rows.uptoBulk]
 | .nil=>by simp[XO,Rows.uptoBulk]
 | .ptr d=>by simp only[XO,Rows.uptoBulk];have:=zk4 d;omega
 | .slice a b=>by simp only[XO,Rows.uptoBulk];have:=zdh a;have:=zdh b;omega
 | .agg a=>by simp only[XO,Rows.uptoBulk];have:=zdh a;omega
 | .iface t d=>by simp only[XO,Rows.uptoBulk];have:=zk4 d;omega
 | .map es=>by simp[XO,Rows.uptoBulk]
 | .held h=>by simp[XO,Rows.uptoBulk]
theorem zdh{H:Type}: ∀ds:List (DataW H),Xx ds≤Rows.uptoBulkAll ds
 |[]=>by simp[Xx,Rows.uptoBulkAll]
 |d::ds=>by simp only[Xx,Rows.uptoBulkAll];have:=zk4 d;have:=zdh ds;omega
end
variable(cfg:Cfg)(ext:Ext)
namespace clauseSchema
def Pure:Prop:= ∀us,zje Tryz.prog [22,24,39,39,43] us→ZL us≤1048576→ ∃m st,(Xr Tryz.prog cfg ext m).call 6 us []=some (.ret (.bool true),st)
set_option maxRecDepth 100000 in
theorem lifted(hE:zgy Tryz.prog cfg ext)(hp:Pure cfg ext)(os:Os)(started:os.Started)(H:Type)(enc:TypeId×Value→H)(F:Stop.Interp):
  ReturnsInHanded {} Tryz.checked os 6 .any ((Rows.OpenSpec.upto Rows.clauseSchemaSpec).pre6 enc Tryz.prog Tryz.f6 Rows.clauseSchemaUptoRow.domain false) (((Rows.OpenSpec.upto Rows.clauseSchemaSpec).at F).post enc Tryz.prog Tryz.f6 false true false false):=by
 refine returnsInHanded_of_cond (C:=Tryz.checked) (s:=Rows.OpenSpec.upto Rows.clauseSchemaSpec) (k:=Rows.uptoSmall) rfl own started (by kernel_rfl) Tryz.func6
  (OpenSpec.witness (enc:=enc) (C:=Tryz.checked) (s:=Rows.OpenSpec.upto Rows.clauseSchemaSpec) (k:=Rows.uptoSmall) rfl false ⟨#[], #[.slice none 0 0, .slice none 0 0, .agg #[.string ByteArray.empty, .slice none 0 0, .slice none 0 0, .slice none 0 0, .int .i64 0, .int .i64 0, .slice none 0 0, .slice none 0 0, .int .i64 0, .int .i64 0, .slice none 0 0, .bool false, .slice none 0 0], .agg #[.string ByteArray.empty, .slice none 0 0, .slice none 0 0, .slice none 0 0, .int .i64 0, .int .i64 0, .slice none 0 0, .slice none 0 0, .int .i64 0, .int .i64 0, .slice none 0 0, .bool false, .slice none 0 0], .agg #[.int .i64 0, .slice none 0 0, .slice none 0 0, .int .i64 0, .int .i64 0, .slice none 0 0]],[]⟩ 8 (by kernel_rfl) (by kernel_rfl) (by kernel_rfl)
   (x:=([.nil, .nil, .agg [.lit (.string []), .nil, .nil, .nil, .agg [.lit (.int .i64 0), .lit (.int .i64 0), .nil], .nil, .agg [.lit (.int .i64 0), .lit (.int .i64 0), .nil], .lit (.bool false), .nil], .agg [.lit (.string []), .nil, .nil, .nil, .agg [.lit (.int .i64 0), .lit (.int .i64 0), .nil], .nil, .agg [.lit (.int .i64 0), .lit (.int .i64 0), .nil], .lit (.bool false), .nil], .agg [.lit (.int .i64 0), .nil, .nil, .agg [.lit (.int .i64 0), .lit (.int .i64 0), .nil]]],[],[])) (by kernel_rfl) rfl (by kernel_rfl)) ?_
 intro W base args ds gs before hval hW _ hk _
 refine zkj (s:=Rows.clauseSchemaSpec) (H:=H) (S:=[22,116,9,27,25,3,24,47,4,39,37,30,28,43]) (ts:=[22,24,39,39,43]) (rt:=4) (B:=1048576) follows CL.plainNames hE laidOut (by kernel_rfl) (by rw[Tryz.params6]) (by decide) (by kernel_rfl) rfl Tryz.underlying4 hp rfl (fun hl=> ?_) hval hW (Nat.le_trans (zdh _) (of_decide_eq_true hk))
 match ds,hl with
 |[d0,d1,d2,d3,d4],_=>rfl
theorem over(hE:zgy Tryz.prog cfg ext)(hp:Pure cfg ext):Rows.clauseSchemaUptoRow.holds Tryz.pinned (Rows.OpenSpec.upto Rows.clauseSchemaSpec):=
 OpenClaim.holds_of_cond 6 Tryz.f6 rfl rfl rfl rfl rfl rfl rfl ⟨rfl,rfl,rfl,rfl,rfl⟩ rfl rfl rfl rfl rfl (by kernel_rfl) Tryz.func6 (by kernel_rfl)
  (of_decide_eq_true (by kernel_rfl)) (by unfold Func.isWrapper;first|(rw[if_pos (by decide+kernel)];kernel_rfl)|(rw[if_neg (by decide+kernel)];exact⟨rfl,rfl⟩))
  (fun os started H enc _ F=>lifted cfg ext hE hp os started H enc F)
theorem proved(hE:zgy Tryz.prog cfg ext)(hp:Pure cfg ext):Rows.ClauseSchemaUptoSaid:=over cfg ext hE hp
end clauseSchema
theorem clauseSchema_holds:Rows.ClauseSchemaUptoSaid:=clauseSchema.proved CL.cfg CL.ext CL.extOK CL.pure_ClauseSchema
end Go.Proofs.YthhifgeblblmcaaGreat
