import Derived.Test.YtimpnjmegmpgdaaGc
import Derived.Test.YtimpnjmegmpgdaaGa
import Derived.Test.YtimpnjmegmpgdaaRows
import Derived.Test.YtimpnjmegmpgdaaAMd
import Derived.JoinedCond
import Derived.OpenShut
/- GeneralTyped is true of every input of bulk at most 1048576: the statement's second form; no further condition. -/
set_option linter.unusedVariables false
set_option linter.unusedSimpArgs false
set_option linter.unusedSectionVars false
namespace Go.Proofs.Ytimpnjmegmpgdaa
open Go Go.AM Go.RowKit Go.ChangeShapes Go.WideShapes Go.ChangeAt
set_option linter.unusedVariables false

theorem own : ownKnob Try.prog.godebug = none := by kernel_rfl
theorem laidOut : laidOutB Try.prog = true := by kernel_rfl
theorem follows : Try.prog.follows .mixedOrders = true := by kernel_rfl
mutual
theorem bulk_le {H : Type} : ∀ d : DataW H, bulkD d ≤ Rows.uptoBulk d
  | .lit l => by cases l <;> simp [bulkD, Rows.uptoBulk]
  | .nil => by simp [bulkD, Rows.uptoBulk]
  | .ptr d => by simp only [bulkD, Rows.uptoBulk]; have := bulk_le d; omega
  | .slice a b => by simp only [bulkD, Rows.uptoBulk]; have := bulk_les a; have := bulk_les b; omega
  | .agg a => by simp only [bulkD, Rows.uptoBulk]; have := bulk_les a; omega
  | .iface t d => by simp only [bulkD, Rows.uptoBulk]; have := bulk_le d; omega
  | .map es => by simp [bulkD, Rows.uptoBulk]
  | .held h => by simp [bulkD, Rows.uptoBulk]
theorem bulk_les {H : Type} : ∀ ds : List (DataW H), bulkDs ds ≤ Rows.uptoBulkAll ds
  | [] => by simp [bulkDs, Rows.uptoBulkAll]
  | d :: ds => by simp only [bulkDs, Rows.uptoBulkAll]; have := bulk_le d; have := bulk_les ds; omega
end

variable (cfg : Cfg) (ext : Ext)
namespace generalTyped
/-- The pure law. -/
def Pure : Prop := ∀ us, WArgs Try.prog [22, 23, 25] us → bulkL us ≤ 1048576 → ∃ m st, (fuelO Try.prog cfg ext m).call 3 us [] = some (.ret (.bool true), st)

set_option maxRecDepth 100000 in
theorem lifted (hE : ExtOK Try.prog cfg ext) (hp : Pure cfg ext) (os : Os) (started : os.Started) (H : Type) (enc : TypeId × Value → H) (F : Stop.Interp) :
    ReturnsInHanded {} Try.checked os 3 .any ((Rows.OpenSpec.upto Rows.generalTypedSpec).pre6 enc Try.prog Try.f3 Rows.generalTypedUptoRow.domain false) (((Rows.OpenSpec.upto Rows.generalTypedSpec).at F).post enc Try.prog Try.f3 false true false false) := by
  refine returnsInHanded_of_cond (C := Try.checked) (s := Rows.OpenSpec.upto Rows.generalTypedSpec) (k := Rows.uptoSmall) rfl own started (by kernel_rfl) Try.func3
    (OpenSpec.witness (enc := enc) (C := Try.checked) (s := Rows.OpenSpec.upto Rows.generalTypedSpec) (k := Rows.uptoSmall) rfl false ⟨#[], #[.slice none 0 0, .slice none 0 0, .agg #[.int .i64 0, .int .i64 0, .slice none 0 0]], []⟩ 8 (by kernel_rfl) (by kernel_rfl) (by kernel_rfl)
      (x := ([.nil, .nil, .agg [.lit (.int .i64 0), .lit (.int .i64 0), .nil]], [], [])) (by kernel_rfl) rfl (by kernel_rfl)) ?_
  intro W base args ds gs before hval hW _ hk _
  refine law_contract (s := Rows.generalTypedSpec) (H := H) (S := [22, 49, 9, 25, 23, 3]) (ts := [22, 23, 25]) (rt := 4) (B := 1048576) follows GT.plainNames hE laidOut (by kernel_rfl) (by rw [Try.params3]) (by decide) (by kernel_rfl) rfl Try.underlying4 hp rfl (fun hl => ?_) hval hW (Nat.le_trans (bulk_les _) (of_decide_eq_true hk))
  match ds, hl with
  | [d0, d1, d2], _ => rfl

theorem over (hE : ExtOK Try.prog cfg ext) (hp : Pure cfg ext) : Rows.generalTypedUptoRow.holds Try.pinned (Rows.OpenSpec.upto Rows.generalTypedSpec) :=
  OpenClaim.holds_of_cond 3 Try.f3 rfl rfl rfl rfl rfl rfl rfl ⟨rfl, rfl, rfl, rfl, rfl⟩ rfl rfl rfl rfl rfl (by kernel_rfl) Try.func3 (by kernel_rfl)
    (of_decide_eq_true (by kernel_rfl)) (by unfold Func.isWrapper; first | (rw [if_pos (by decide +kernel)]; kernel_rfl) | (rw [if_neg (by decide +kernel)]; exact ⟨rfl, rfl⟩))
    (fun os started H enc _ F => lifted cfg ext hE hp os started H enc F)

theorem proved (hE : ExtOK Try.prog cfg ext) (hp : Pure cfg ext) : Rows.GeneralTypedUptoSaid := over cfg ext hE hp
end generalTyped
theorem generalTyped_holds : Rows.GeneralTypedUptoSaid := generalTyped.proved GT.cfg GT.ext GT.extOK GT.pure_GeneralTyped
end Go.Proofs.Ytimpnjmegmpgdaa
