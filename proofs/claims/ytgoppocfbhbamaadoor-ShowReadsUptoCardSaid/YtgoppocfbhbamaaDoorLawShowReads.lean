import Derived.Test.YtgoppocfbhbamaaDoorGb
import Derived.Test.YtgoppocfbhbamaaDoorCards
import Derived.Test.YtgoppocfbhbamaaDoorTie
import Derived.WalkKit
import Derived.ProofKit
import Derived.Deep.DeepHandedRow
import Derived.Lib.LaidTab
import Derived.Test.YtgoppocfbhbamaaDoorGa
import Derived.Test.YtgoppocfbhbamaaDoorRows
import Derived.Test.YtgoppocfbhbamaaDoorAMd
import Derived.JoinedCond
import Derived.OpenShut
/- ShowReads is true of every input of bulk at most 1048576: the statement's second form; no further condition. -/
set_option linter.unusedVariables false
set_option linter.unusedSimpArgs false
set_option linter.unusedSectionVars false
namespace Go.Proofs.YtgoppocfbhbamaaDoor
open Go Go.AM Go.RowKit Go.ChangeShapes Go.WideShapes Go.ChangeAt
set_option linter.unusedVariables false
theorem own:ownKnob Tryd.prog.godebug=none:=by kernel_rfl
theorem laidOut:laidOutB Tryd.prog=true:=by kernel_rfl
theorem follows:Tryd.prog.follows .mixedOrders=true:=by kernel_rfl
mutual
theorem ziY{H:Type}: ∀d:DataW H,XE d≤Rows.uptoBulk d
 | .lit l=>by cases l<;>simp[XE,Rows.uptoBulk]
 | .nil=>by simp[XE,Rows.uptoBulk]
 | .ptr d=>by simp only[XE,Rows.uptoBulk];have:=ziY d;omega
 | .slice a b=>by simp only[XE,Rows.uptoBulk];have:=zcs a;have:=zcs b;omega
 | .agg a=>by simp only[XE,Rows.uptoBulk];have:=zcs a;omega
 | .iface t d=>by simp only[XE,Rows.uptoBulk];have:=ziY d;omega
 | .map es=>by simp[XE,Rows.uptoBulk]
 | .held h=>by simp[XE,Rows.uptoBulk]
theorem zcs{H:Type}: ∀ds:List (DataW H),Xr ds≤Rows.uptoBulkAll ds
 |[]=>by simp[Xr,Rows.uptoBulkAll]
 |d::ds=>by simp only[Xr,Rows.uptoBulkAll];have:=ziY d;have:=zcs ds;omega
end
variable(cfg:Cfg)(ext:Ext)
namespace showReads
def Pure:Prop:= ∀us,zh6 Tryd.prog [29] us→YH us≤1048576→ ∃m st,(Xh Tryd.prog cfg ext m).call 6 us []=some (.ret (.bool true),st)
noncomputable def zeS(os:Os):World:={World.holding Tryd.prog os ⟨#[], #[],[]⟩with heap:=((((World.holding Tryd.prog os ⟨#[], #[],[]⟩).heap.modify 2 fun| .cells _ t frozen=> .cells #[.int .u8 0, .int .u8 1, .int .u8 28, .int .u8 2, .int .u8 29, .int .u8 14, .int .u8 24, .int .u8 3, .int .u8 30, .int .u8 22, .int .u8 20, .int .u8 15, .int .u8 25, .int .u8 17, .int .u8 4, .int .u8 8, .int .u8 31, .int .u8 27, .int .u8 13, .int .u8 23, .int .u8 21, .int .u8 19, .int .u8 16, .int .u8 7, .int .u8 26, .int .u8 12, .int .u8 18, .int .u8 6, .int .u8 11, .int .u8 5, .int .u8 10, .int .u8 9] t frozen|o=>o).modify 3 fun| .cells _ t frozen=> .cells #[.int .u8 0, .int .u8 1, .int .u8 56, .int .u8 2, .int .u8 57, .int .u8 49, .int .u8 28, .int .u8 3, .int .u8 61, .int .u8 58, .int .u8 42, .int .u8 50, .int .u8 38, .int .u8 29, .int .u8 17, .int .u8 4, .int .u8 62, .int .u8 47, .int .u8 59, .int .u8 36, .int .u8 45, .int .u8 43, .int .u8 51, .int .u8 22, .int .u8 53, .int .u8 39, .int .u8 33, .int .u8 30, .int .u8 24, .int .u8 18, .int .u8 12, .int .u8 5, .int .u8 63, .int .u8 55, .int .u8 48, .int .u8 27, .int .u8 60, .int .u8 41, .int .u8 37, .int .u8 16, .int .u8 46, .int .u8 35, .int .u8 44, .int .u8 21, .int .u8 52, .int .u8 32, .int .u8 23, .int .u8 11, .int .u8 54, .int .u8 26, .int .u8 40, .int .u8 15, .int .u8 34, .int .u8 20, .int .u8 31, .int .u8 10, .int .u8 25, .int .u8 14, .int .u8 19, .int .u8 9, .int .u8 13, .int .u8 8, .int .u8 7, .int .u8 6] t frozen|o=>o).modify 1 fun| .cells _ t frozen=> .cells #[.int .u64 1, .int .u64 10, .int .u64 100, .int .u64 1000, .int .u64 10000, .int .u64 100000, .int .u64 1000000, .int .u64 10000000, .int .u64 100000000, .int .u64 1000000000, .int .u64 10000000000, .int .u64 100000000000, .int .u64 1000000000000, .int .u64 10000000000000, .int .u64 100000000000000, .int .u64 1000000000000000, .int .u64 10000000000000000, .int .u64 100000000000000000, .int .u64 1000000000000000000, .int .u64 10000000000000000000] t frozen|o=>o)}
set_option maxRecDepth 100000 in
theorem zo0(os:Os):laidMet Tryd.prog Rows.showReadsUptoRow.laid ((zeS os).forCall (fun _ _=>0) ⟨#[], #[.slice none 0 0],[]⟩).memory:=laidMet_of_run' 8 (by kernel_rfl) (by kernel_rfl)
set_option maxRecDepth 100000 in
theorem reads(os:Os){H:Type}(enc:TypeId×Value→H): ∃places,DataW.whole enc Tryd.prog ((zeS os).forCall (fun _ _=>0) ⟨#[], #[.slice none 0 0],[]⟩).memory Tryd.f6.params.toList Rows.showReadsSpec.vars false #[.slice none 0 0].toList 8=some ([.nil],[],places):=⟨[],by kernel_rfl⟩
set_option maxRecDepth 100000 in
theorem lifted(hE:zfm Tryd.prog cfg ext)(hp:Pure cfg ext)(os:Os)(started:os.Started)(H:Type)(enc:TypeId×Value→H)(F:Stop.Interp):
  ReturnsInHanded {} Tryd.checked os 6 .any ((Rows.OpenSpec.upto Rows.showReadsSpec).preRow enc Tryd.prog Tryd.f6 Rows.showReadsUptoRow.domain false Rows.showReadsUptoRow.laid) (((Rows.OpenSpec.upto Rows.showReadsSpec).at F).post enc Tryd.prog Tryd.f6 false true false false):=by
 obtain⟨places,hx⟩:=reads os enc
 refine returnsInHanded_of_row (C:=Tryd.checked) (s:=Rows.OpenSpec.upto Rows.showReadsSpec) own started (by kernel_rfl) Tryd.func6
  (witness_row_at (enc:=enc) (C:=Tryd.checked) false (zeS os) #[.slice none 0 0] rfl (by kernel_rfl) (by kernel_rfl) (by kernel_rfl)
   (OpenSpec.preRow_of_cond 8 hx (by kernel_rfl) (fun k hk=>by cases hk;kernel_rfl) (by kernel_rfl) (zo0 os))) ?_
 intro W base args ds gs before hval hW _ hcond _ _ _ _
 have hk:=hcond _ rfl
 refine ziE (s:=Rows.showReadsSpec) (H:=H) (S:=[29,5]) (ts:=[29]) (rt:=4) (B:=1048576) follows SW.plainNames hE laidOut (by kernel_rfl) (by rw[Tryd.params6]) (by decide) (by kernel_rfl) rfl Tryd.underlying4 hp rfl (fun hl=> ?_) hval hW (Nat.le_trans (zcs _) (of_decide_eq_true hk))
 match ds,hl with
 |[d0],_=>rfl
theorem over(hE:zfm Tryd.prog cfg ext)(hp:Pure cfg ext):Rows.showReadsUptoRow.holds Tryd.pinned (Rows.OpenSpec.upto Rows.showReadsSpec):=
 OpenClaim.holds_of_cond 6 Tryd.f6 rfl rfl rfl rfl rfl rfl rfl ⟨rfl,rfl,rfl,rfl,rfl⟩ rfl rfl rfl rfl rfl (by kernel_rfl) Tryd.func6 (by kernel_rfl)
  (of_decide_eq_true (by kernel_rfl)) (by unfold Func.isWrapper;first|(rw[if_pos (by decide+kernel)];kernel_rfl)|(rw[if_neg (by decide+kernel)];exact⟨rfl,rfl⟩))
  (fun os started H enc _ F=>by rw[OpenClaim.pre_eq_preRow];exact lifted cfg ext hE hp os started H enc F)
theorem proved(hE:zfm Tryd.prog cfg ext)(hp:Pure cfg ext):Rows.ShowReadsUptoSaid:=over cfg ext hE hp
end showReads
theorem zf0(f:FuncId)(fn:Func)(hf:Tryd.pinned.checked.prog.funcNamed "amanuensis/amanuensislaw15.ShowReads" =some f)(hfn:Tryd.pinned.checked.prog.funcs[f]? =some fn):
  false=Tryd.pinned.checked.prog.looks []∧ ∀(j:Nat) t,fn.params[j]? =some t→Tryd.pinned.checked.prog.wantsStandIn t=false:=by
 obtain rfl:f=6:=Option.some.inj ((show Tryd.prog.funcNamed "amanuensis/amanuensislaw15.ShowReads" =some 6 by kernel_rfl).symm.trans hf)|>.symm
 obtain rfl:fn=Tryd.f6:=(Option.some.inj (Tryd.func6.symm.trans hfn)).symm
 refine⟨by kernel_rfl,fun j t ht=> ?_⟩
 rw[Tryd.params6]at ht
 have hm:=Array.mem_of_getElem? ht
 simp at hm
 rcases hm with rfl
 ·exact(show Tryd.prog.wantsStandIn 29=false by kernel_rfl)
theorem showReads_holds:Rows.ShowReadsUptoCardSaid:=
 Claim7.holds_tied_plain_at .later [] _ _ _ _ (showReads.proved SW.cfg SW.ext SW.extOK SW.pure_ShowReads) (fun _ h=>by cases h) (by kernel_rfl) (fun _ h=>by cases h) showReadsUpto_row_tie rfl ⟨rfl,rfl⟩ (by kernel_rfl) rfl zf0 (by kernel_rfl)
end Go.Proofs.YtgoppocfbhbamaaDoor
