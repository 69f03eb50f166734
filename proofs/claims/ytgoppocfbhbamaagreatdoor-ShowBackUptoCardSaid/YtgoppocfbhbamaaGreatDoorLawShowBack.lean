import Derived.Test.YtgoppocfbhbamaaGreatDoorGc
import Derived.Test.YtgoppocfbhbamaaGreatDoorCards
import Derived.Test.YtgoppocfbhbamaaGreatDoorTie
import Derived.WalkKit
import Derived.ProofKit
import Derived.Deep.DeepHandedRow
import Derived.Lib.LaidTab
import Derived.Test.YtgoppocfbhbamaaGreatDoorGa
import Derived.Test.YtgoppocfbhbamaaGreatDoorRows
import Derived.Test.YtgoppocfbhbamaaGreatDoorAMd
import Derived.JoinedCond
import Derived.OpenShut
/- ShowBack is true of every input of bulk at most 1048576: the statement's second form; no further condition. -/
set_option linter.unusedVariables false
set_option linter.unusedSimpArgs false
set_option linter.unusedSectionVars false
namespace Go.Proofs.YtgoppocfbhbamaaGreatDoor
open Go Go.AM Go.RowKit Go.ChangeShapes Go.WideShapes Go.ChangeAt
set_option linter.unusedVariables false
theorem own:ownKnob Tryz.prog.godebug=none:=by kernel_rfl
theorem laidOut:laidOutB Tryz.prog=true:=by kernel_rfl
theorem follows:Tryz.prog.follows .mixedOrders=true:=by kernel_rfl
mutual
theorem zmD{H:Type}: ∀d:DataW H,Qp d≤Rows.uptoBulk d
 | .lit l=>by cases l<;>simp[Qp,Rows.uptoBulk]
 | .nil=>by simp[Qp,Rows.uptoBulk]
 | .ptr d=>by simp only[Qp,Rows.uptoBulk];have:=zmD d;omega
 | .slice a b=>by simp only[Qp,Rows.uptoBulk];have:=zea a;have:=zea b;omega
 | .agg a=>by simp only[Qp,Rows.uptoBulk];have:=zea a;omega
 | .iface t d=>by simp only[Qp,Rows.uptoBulk];have:=zmD d;omega
 | .map es=>by simp[Qp,Rows.uptoBulk]
 | .held h=>by simp[Qp,Rows.uptoBulk]
theorem zea{H:Type}: ∀ds:List (DataW H),XK ds≤Rows.uptoBulkAll ds
 |[]=>by simp[XK,Rows.uptoBulkAll]
 |d::ds=>by simp only[XK,Rows.uptoBulkAll];have:=zmD d;have:=zea ds;omega
end
variable(cfg:Cfg)(ext:Ext)
namespace showBack
def Pure:Prop:= ∀us,zkC Tryz.prog [22] us→Ys us≤1048576→ ∃m st,(XB Tryz.prog cfg ext m).call 4 us []=some (.ret (.bool true),st)
noncomputable def zht(os:Os):World:={World.holding Tryz.prog os ⟨#[], #[],[]⟩with heap:=((((World.holding Tryz.prog os ⟨#[], #[],[]⟩).heap.modify 2 fun| .cells _ t frozen=> .cells #[.int .u8 0, .int .u8 1, .int .u8 28, .int .u8 2, .int .u8 29, .int .u8 14, .int .u8 24, .int .u8 3, .int .u8 30, .int .u8 22, .int .u8 20, .int .u8 15, .int .u8 25, .int .u8 17, .int .u8 4, .int .u8 8, .int .u8 31, .int .u8 27, .int .u8 13, .int .u8 23, .int .u8 21, .int .u8 19, .int .u8 16, .int .u8 7, .int .u8 26, .int .u8 12, .int .u8 18, .int .u8 6, .int .u8 11, .int .u8 5, .int .u8 10, .int .u8 9] t frozen|o=>o).modify 3 fun| .cells _ t frozen=> .cells #[.int .u8 0, .int .u8 1, .int .u8 56, .int .u8 2, .int .u8 57, .int .u8 49, .int .u8 28, .int .u8 3, .int .u8 61, .int .u8 58, .int .u8 42, .int .u8 50, .int .u8 38, .int .u8 29, .int .u8 17, .int .u8 4, .int .u8 62, .int .u8 47, .int .u8 59, .int .u8 36, .int .u8 45, .int .u8 43, .int .u8 51, .int .u8 22, .int .u8 53, .int .u8 39, .int .u8 33, .int .u8 30, .int .u8 24, .int .u8 18, .int .u8 12, .int .u8 5, .int .u8 63, .int .u8 55, .int .u8 48, .int .u8 27, .int .u8 60, .int .u8 41, .int .u8 37, .int .u8 16, .int .u8 46, .int .u8 35, .int .u8 44, .int .u8 21, .int .u8 52, .int .u8 32, .int .u8 23, .int .u8 11, .int .u8 54, .int .u8 26, .int .u8 40, .int .u8 15, .int .u8 34, .int .u8 20, .int .u8 31, .int .u8 10, .int .u8 25, .int .u8 14, .int .u8 19, .int .u8 9, .int .u8 13, .int .u8 8, .int .u8 7, .int .u8 6] t frozen|o=>o).modify 1 fun| .cells _ t frozen=> .cells #[.int .u64 1, .int .u64 10, .int .u64 100, .int .u64 1000, .int .u64 10000, .int .u64 100000, .int .u64 1000000, .int .u64 10000000, .int .u64 100000000, .int .u64 1000000000, .int .u64 10000000000, .int .u64 100000000000, .int .u64 1000000000000, .int .u64 10000000000000, .int .u64 100000000000000, .int .u64 1000000000000000, .int .u64 10000000000000000, .int .u64 100000000000000000, .int .u64 1000000000000000000, .int .u64 10000000000000000000] t frozen|o=>o)}
set_option maxRecDepth 100000 in
theorem ztK(os:Os):laidMet Tryz.prog Rows.showBackUptoRow.laid ((zht os).forCall (fun _ _=>0) ⟨#[], #[.slice none 0 0],[]⟩).memory:=laidMet_of_run' 8 (by kernel_rfl) (by kernel_rfl)
set_option maxRecDepth 100000 in
theorem reads(os:Os){H:Type}(enc:TypeId×Value→H): ∃places,DataW.whole enc Tryz.prog ((zht os).forCall (fun _ _=>0) ⟨#[], #[.slice none 0 0],[]⟩).memory Tryz.f4.params.toList Rows.showBackSpec.vars false #[.slice none 0 0].toList 8=some ([.nil],[],places):=⟨[],by kernel_rfl⟩
set_option maxRecDepth 100000 in
theorem lifted(hE:zhE Tryz.prog cfg ext)(hp:Pure cfg ext)(os:Os)(started:os.Started)(H:Type)(enc:TypeId×Value→H)(F:Stop.Interp):
  ReturnsInHanded {} Tryz.checked os 4 .any ((Rows.OpenSpec.upto Rows.showBackSpec).preRow enc Tryz.prog Tryz.f4 Rows.showBackUptoRow.domain false Rows.showBackUptoRow.laid) (((Rows.OpenSpec.upto Rows.showBackSpec).at F).post enc Tryz.prog Tryz.f4 false true false false):=by
 obtain⟨places,hx⟩:=reads os enc
 refine returnsInHanded_of_row (C:=Tryz.checked) (s:=Rows.OpenSpec.upto Rows.showBackSpec) own started (by kernel_rfl) Tryz.func4
  (witness_row_at (enc:=enc) (C:=Tryz.checked) false (zht os) #[.slice none 0 0] rfl (by kernel_rfl) (by kernel_rfl) (by kernel_rfl)
   (OpenSpec.preRow_of_cond 8 hx (by kernel_rfl) (fun k hk=>by cases hk;kernel_rfl) (by kernel_rfl) (ztK os))) ?_
 intro W base args ds gs before hval hW _ hcond _ _ _ _
 have hk:=hcond _ rfl
 refine zlZ (s:=Rows.showBackSpec) (H:=H) (S:=[22,46,9,25,23,3]) (ts:=[22]) (rt:=4) (B:=1048576) follows SZ.plainNames hE laidOut (by kernel_rfl) (by rw[Tryz.params4]) (by decide) (by kernel_rfl) rfl Tryz.underlying4 hp rfl (fun hl=> ?_) hval hW (Nat.le_trans (zea _) (of_decide_eq_true hk))
 match ds,hl with
 |[d0],_=>rfl
theorem over(hE:zhE Tryz.prog cfg ext)(hp:Pure cfg ext):Rows.showBackUptoRow.holds Tryz.pinned (Rows.OpenSpec.upto Rows.showBackSpec):=
 OpenClaim.holds_of_cond 4 Tryz.f4 rfl rfl rfl rfl rfl rfl rfl ⟨rfl,rfl,rfl,rfl,rfl⟩ rfl rfl rfl rfl rfl (by kernel_rfl) Tryz.func4 (by kernel_rfl)
  (of_decide_eq_true (by kernel_rfl)) (by unfold Func.isWrapper;first|(rw[if_pos (by decide+kernel)];kernel_rfl)|(rw[if_neg (by decide+kernel)];exact⟨rfl,rfl⟩))
  (fun os started H enc _ F=>by rw[OpenClaim.pre_eq_preRow];exact lifted cfg ext hE hp os started H enc F)
theorem proved(hE:zhE Tryz.prog cfg ext)(hp:Pure cfg ext):Rows.ShowBackUptoSaid:=over cfg ext hE hp
end showBack
theorem zjA(f:FuncId)(fn:Func)(hf:Tryz.pinned.checked.prog.funcNamed "amanuensis/amanuensislaw15.ShowBack" =some f)(hfn:Tryz.pinned.checked.prog.funcs[f]? =some fn):
  true=Tryz.pinned.checked.prog.looks []∧ ∀(j:Nat) t,fn.params[j]? =some t→Tryz.pinned.checked.prog.wantsStandIn t=false:=by
 obtain rfl:f=4:=Option.some.inj ((show Tryz.prog.funcNamed "amanuensis/amanuensislaw15.ShowBack" =some 4 by kernel_rfl).symm.trans hf)|>.symm
 obtain rfl:fn=Tryz.f4:=(Option.some.inj (Tryz.func4.symm.trans hfn)).symm
 refine⟨by kernel_rfl,fun j t ht=> ?_⟩
 rw[Tryz.params4]at ht
 have hm:=Array.mem_of_getElem? ht
 simp at hm
 rcases hm with rfl
 ·exact(show Tryz.prog.wantsStandIn 22=false by kernel_rfl)
theorem showBack_holds:Rows.ShowBackUptoCardSaid:=
 Claim7.holds_tied_plain_at .later [] _ _ _ _ (showBack.proved SZ.cfg SZ.ext SZ.extOK SZ.pure_ShowBack) (fun _ h=>by cases h) (by kernel_rfl) (fun _ h=>by cases h) showBackUpto_row_tie rfl ⟨rfl,rfl⟩ (by kernel_rfl) rfl zjA (by kernel_rfl)
end Go.Proofs.YtgoppocfbhbamaaGreatDoor
