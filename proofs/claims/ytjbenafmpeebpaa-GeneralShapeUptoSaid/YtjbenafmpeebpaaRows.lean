/-
  NARROWER THAN 'FOR EVERY INPUT', by the rows' own cells (each row's printed sentence says how): GeneralTells: loops · GeneralOutside: loops · GeneralShape: loops · GeneralNo: loops.
  DERIVED. THE GIVEN ROWS OF THIS SEAT. 4 by the template 'for every input the law returns true; each argument reads behind the call as it read before'; 0 by the template 'total and deterministic' (their statements: YtjbenafmpeebpaaTotals.lean).
  GIVEN WITH THE SEED: the statements are not yours to turn. If you find one false, say at which input.
  Laid BY PROGRAM, IN A SANDBOX (cutbox-rows.mjs): the forced cells as the released guide's own fill.sh prints them over the translation cb871a9f17deca44… (all of the seat's roots in one cut). By AI agents, Wed Nov 11 2026. No macro, syntax, notation, axiom, sorry.
-/
import Derived.Test.YtjbenafmpeebpaaChecked
import GoSem.Claim
import GoSem.ClaimJoined
import GoSem.ClaimMapViews
import Derived.JoinedTies
import Derived.KernelRfl
namespace Go.Proofs.Ytjbenafmpeebpaa
/- THE CELL 'sum', in the pinned program and in every row, IS THE sha256 OF THE DUMP (.gsa) THAT YtjbenafmpeebpaaProg.lean LOADS. Nothing in Lean hashes anything: it is a label: what it is worth is what the hold of that sum in a sandbox is worth. -/
noncomputable def Try.pinned : Pinned := { name := "ytjbenafmpeebpaa", sum := "cb871a9f17deca44c8a5b532afe5fd4ef00132e8b4f9e9a1b913e061c3647667", checked := Try.checked }
namespace Rows
def none {H : Type} : Left H := { results := [], args := [] }

/-- 'amanuensislaw16.GeneralTells': WHATEVER THE INPUT: true; the input reads as it did. -/
def generalTellsSpec : ChangeSpec := { name := "generalTells", fn := fun _ => fun
  | [d1, d2, d3] => { results := [.lit (.bool true)], args := [d1, d2, d3] }
  | _ => none }
def generalTellsRow : OpenClaim := { program := "ytjbenafmpeebpaa", sum := "cb871a9f17deca44c8a5b532afe5fd4ef00132e8b4f9e9a1b913e061c3647667", func := "amanuensis/amanuensislaw16.GeneralTells", spec := "generalTells", unfollowed := true, recurses := true, loops := true, apart := false }
def GeneralTellsSaid : Prop := generalTellsRow.holds Try.pinned (OpenSpec.ofChange generalTellsSpec)

/-- ITS FALSE NEIGHBOUR: 'it returns false'. Refute it at one input. -/
def generalTellsWrong : ChangeSpec := { name := "generalTells", fn := fun _ => fun
  | [d1, d2, d3] => { results := [.lit (.bool false)], args := [d1, d2, d3] }
  | _ => none }
def GeneralTellsWrongFalsely : Prop := generalTellsRow.holds Try.pinned (OpenSpec.ofChange generalTellsWrong)

/-- 'amanuensislaw16.GeneralOutside': WHATEVER THE INPUT: true; the input reads as it did. -/
def generalOutsideSpec : ChangeSpec := { name := "generalOutside", fn := fun _ => fun
  | [d1, d2, d3] => { results := [.lit (.bool true)], args := [d1, d2, d3] }
  | _ => none }
def generalOutsideRow : OpenClaim := { program := "ytjbenafmpeebpaa", sum := "cb871a9f17deca44c8a5b532afe5fd4ef00132e8b4f9e9a1b913e061c3647667", func := "amanuensis/amanuensislaw16.GeneralOutside", spec := "generalOutside", unfollowed := true, recurses := true, loops := true, apart := false }
def GeneralOutsideSaid : Prop := generalOutsideRow.holds Try.pinned (OpenSpec.ofChange generalOutsideSpec)

/-- ITS FALSE NEIGHBOUR: 'it returns false'. Refute it at one input. -/
def generalOutsideWrong : ChangeSpec := { name := "generalOutside", fn := fun _ => fun
  | [d1, d2, d3] => { results := [.lit (.bool false)], args := [d1, d2, d3] }
  | _ => none }
def GeneralOutsideWrongFalsely : Prop := generalOutsideRow.holds Try.pinned (OpenSpec.ofChange generalOutsideWrong)

/-- 'amanuensislaw16.GeneralShape': WHATEVER THE INPUT: true; the input reads as it did. -/
def generalShapeSpec : ChangeSpec := { name := "generalShape", fn := fun _ => fun
  | [d1, d2, d3] => { results := [.lit (.bool true)], args := [d1, d2, d3] }
  | _ => none }
def generalShapeRow : OpenClaim := { program := "ytjbenafmpeebpaa", sum := "cb871a9f17deca44c8a5b532afe5fd4ef00132e8b4f9e9a1b913e061c3647667", func := "amanuensis/amanuensislaw16.GeneralShape", spec := "generalShape", unfollowed := true, recurses := true, loops := true, apart := false }
def GeneralShapeSaid : Prop := generalShapeRow.holds Try.pinned (OpenSpec.ofChange generalShapeSpec)

/-- ITS FALSE NEIGHBOUR: 'it returns false'. Refute it at one input. -/
def generalShapeWrong : ChangeSpec := { name := "generalShape", fn := fun _ => fun
  | [d1, d2, d3] => { results := [.lit (.bool false)], args := [d1, d2, d3] }
  | _ => none }
def GeneralShapeWrongFalsely : Prop := generalShapeRow.holds Try.pinned (OpenSpec.ofChange generalShapeWrong)

/-- 'amanuensislaw16.GeneralNo': WHATEVER THE INPUT: true; the input reads as it did. -/
def generalNoSpec : ChangeSpec := { name := "generalNo", fn := fun _ => fun
  | [d1, d2, d3, d4] => { results := [.lit (.bool true)], args := [d1, d2, d3, d4] }
  | _ => none }
def generalNoRow : OpenClaim := { program := "ytjbenafmpeebpaa", sum := "cb871a9f17deca44c8a5b532afe5fd4ef00132e8b4f9e9a1b913e061c3647667", func := "amanuensis/amanuensislaw16.GeneralNo", spec := "generalNo", unfollowed := true, recurses := true, loops := true, apart := false }
def GeneralNoSaid : Prop := generalNoRow.holds Try.pinned (OpenSpec.ofChange generalNoSpec)

/-- ITS FALSE NEIGHBOUR: 'it returns false'. Refute it at one input. -/
def generalNoWrong : ChangeSpec := { name := "generalNo", fn := fun _ => fun
  | [d1, d2, d3, d4] => { results := [.lit (.bool false)], args := [d1, d2, d3, d4] }
  | _ => none }
def GeneralNoWrongFalsely : Prop := generalNoRow.holds Try.pinned (OpenSpec.ofChange generalNoWrong)

/- THE SECOND FORM. 'bulk': how many values and letters a reading holds, each counted each time it is reached (what is shared counts as often as it is met; a slice's spare places count too). A statement '..UptoSaid' is the law's where the arguments, and the package variables that the reading takes, are together of bulk at most 1048576: NARROWER than '..Said'. Prove '..Said' where nothing that the law and all that it calls make is longer than what came in: it says more and counts as full. Else prove '..UptoSaid'. A law counts once. -/
mutual
def uptoBulk {H : Type} : DataW H → Nat
  | .lit (.string bytes) => bytes.length + 1
  | .lit _ => 1
  | .nil => 1
  | .ptr d => uptoBulk d + 1
  | .slice elems spare => uptoBulkAll elems + uptoBulkAll spare + 1
  | .agg parts => uptoBulkAll parts + 1
  | .iface _ d => uptoBulk d + 1
  | .map entries => uptoBulkEntries entries + 1
  | .held _ => 1
def uptoBulkAll {H : Type} : List (DataW H) → Nat
  | [] => 0
  | d :: r => uptoBulk d + uptoBulkAll r
def uptoBulkEntries {H : Type} : List (Lit × DataW H) → Nat
  | [] => 0
  | x :: r => uptoBulkEntry x + uptoBulkEntries r
def uptoBulkEntry {H : Type} : Lit × DataW H → Nat
  | (.string bytes, d) => bytes.length + uptoBulk d + 1
  | (_, d) => uptoBulk d + 1
 end
def uptoSmall : (H : Type) → List (DataW H) → Bool := fun _ ds => decide (uptoBulkAll ds ≤ 1048576)
def OpenSpec.upto (s : _root_.Go.ChangeSpec) : _root_.Go.OpenSpec := { _root_.Go.OpenSpec.ofChange s with cond := some uptoSmall }

/-- 'amanuensislaw16.GeneralTells', WHERE WHAT IT READS IS OF BULK AT MOST 1048576: true; the input reads as it did. -/
def generalTellsUptoRow : OpenClaim := { program := "ytjbenafmpeebpaa", sum := "cb871a9f17deca44c8a5b532afe5fd4ef00132e8b4f9e9a1b913e061c3647667", func := "amanuensis/amanuensislaw16.GeneralTells", spec := "generalTells", unfollowed := true, recurses := true, loops := true, apart := false, narrowed := true }
def GeneralTellsUptoSaid : Prop := generalTellsUptoRow.holds Try.pinned (OpenSpec.upto generalTellsSpec)

/-- 'amanuensislaw16.GeneralOutside', WHERE WHAT IT READS IS OF BULK AT MOST 1048576: true; the input reads as it did. -/
def generalOutsideUptoRow : OpenClaim := { program := "ytjbenafmpeebpaa", sum := "cb871a9f17deca44c8a5b532afe5fd4ef00132e8b4f9e9a1b913e061c3647667", func := "amanuensis/amanuensislaw16.GeneralOutside", spec := "generalOutside", unfollowed := true, recurses := true, loops := true, apart := false, narrowed := true }
def GeneralOutsideUptoSaid : Prop := generalOutsideUptoRow.holds Try.pinned (OpenSpec.upto generalOutsideSpec)

/-- 'amanuensislaw16.GeneralShape', WHERE WHAT IT READS IS OF BULK AT MOST 1048576: true; the input reads as it did. -/
def generalShapeUptoRow : OpenClaim := { program := "ytjbenafmpeebpaa", sum := "cb871a9f17deca44c8a5b532afe5fd4ef00132e8b4f9e9a1b913e061c3647667", func := "amanuensis/amanuensislaw16.GeneralShape", spec := "generalShape", unfollowed := true, recurses := true, loops := true, apart := false, narrowed := true }
def GeneralShapeUptoSaid : Prop := generalShapeUptoRow.holds Try.pinned (OpenSpec.upto generalShapeSpec)

/-- 'amanuensislaw16.GeneralNo', WHERE WHAT IT READS IS OF BULK AT MOST 1048576: true; the input reads as it did. -/
def generalNoUptoRow : OpenClaim := { program := "ytjbenafmpeebpaa", sum := "cb871a9f17deca44c8a5b532afe5fd4ef00132e8b4f9e9a1b913e061c3647667", func := "amanuensis/amanuensislaw16.GeneralNo", spec := "generalNo", unfollowed := true, recurses := true, loops := true, apart := false, narrowed := true }
def GeneralNoUptoSaid : Prop := generalNoUptoRow.holds Try.pinned (OpenSpec.upto generalNoSpec)

end Rows
end Go.Proofs.Ytjbenafmpeebpaa
