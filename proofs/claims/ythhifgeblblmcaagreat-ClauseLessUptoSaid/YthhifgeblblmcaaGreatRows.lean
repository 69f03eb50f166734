/-
  NARROWER THAN 'FOR EVERY INPUT', by the rows' own cells (each row's printed sentence says how): ClauseTells: loops · ClauseCalls: loops · ClauseLess: loops · ClauseSchema: loops · ClauseMatch: loops · ClauseTyped: loops.
  DERIVED. THE GIVEN ROWS OF THIS SEAT. 6 by the template 'for every input the law returns true; each argument reads behind the call as it read before'; 0 by the template 'total and deterministic' (their statements: YthhifgeblblmcaaGreatTotals.lean).
  GIVEN WITH THE SEED: the statements are not yours to turn. If you find one false, say at which input.
  Laid BY PROGRAM, IN A SANDBOX (cutbox-rows.mjs): the forced cells as the released guide's own fill.sh prints them over the translation ab958d5f9b3d0d1d… (all of the seat's roots in one cut). By AI agents, Wed Nov 11 2026. No macro, syntax, notation, axiom, sorry.
-/
import Derived.Test.YthhifgeblblmcaaGreatChecked
import GoSem.Claim
import GoSem.ClaimJoined
import GoSem.ClaimMapViews
import Derived.JoinedTies
import Derived.KernelRfl
namespace Go.Proofs.YthhifgeblblmcaaGreat
/- THE CELL 'sum', in the pinned program and in every row, IS THE sha256 OF THE DUMP (.gsa) THAT YthhifgeblblmcaaGreatProg.lean LOADS. Nothing in Lean hashes anything: it is a label: what it is worth is what the hold of that sum in a sandbox is worth. -/
noncomputable def Tryz.pinned : Pinned := { name := "ythhifgeblblmcaagreat", sum := "ab958d5f9b3d0d1ddd4d11d83c0c84855c93256ab4a41cd54a57f0771986b966", checked := Tryz.checked }
namespace Rows
def none {H : Type} : Left H := { results := [], args := [] }

/-- 'amanuensislaw17.ClauseTells': WHATEVER THE INPUT: true; the input reads as it did. -/
def clauseTellsSpec : ChangeSpec := { name := "clauseTells", fn := fun _ => fun
  | [d1, d2, d3, d4] => { results := [.lit (.bool true)], args := [d1, d2, d3, d4] }
  | _ => none }
def clauseTellsRow : OpenClaim := { program := "ythhifgeblblmcaagreat", sum := "ab958d5f9b3d0d1ddd4d11d83c0c84855c93256ab4a41cd54a57f0771986b966", func := "amanuensis/amanuensislaw17.ClauseTells", spec := "clauseTells", unfollowed := true, recurses := true, loops := true, apart := false }
def ClauseTellsSaid : Prop := clauseTellsRow.holds Tryz.pinned (OpenSpec.ofChange clauseTellsSpec)

/-- ITS FALSE NEIGHBOUR: 'it returns false'. Refute it at one input. -/
def clauseTellsWrong : ChangeSpec := { name := "clauseTells", fn := fun _ => fun
  | [d1, d2, d3, d4] => { results := [.lit (.bool false)], args := [d1, d2, d3, d4] }
  | _ => none }
def ClauseTellsWrongFalsely : Prop := clauseTellsRow.holds Tryz.pinned (OpenSpec.ofChange clauseTellsWrong)

/-- 'amanuensislaw17.ClauseCalls': WHATEVER THE INPUT: true; the input reads as it did. -/
def clauseCallsSpec : ChangeSpec := { name := "clauseCalls", fn := fun _ => fun
  | [d1, d2, d3, d4, d5] => { results := [.lit (.bool true)], args := [d1, d2, d3, d4, d5] }
  | _ => none }
def clauseCallsRow : OpenClaim := { program := "ythhifgeblblmcaagreat", sum := "ab958d5f9b3d0d1ddd4d11d83c0c84855c93256ab4a41cd54a57f0771986b966", func := "amanuensis/amanuensislaw17.ClauseCalls", spec := "clauseCalls", unfollowed := true, recurses := true, loops := true, apart := false }
def ClauseCallsSaid : Prop := clauseCallsRow.holds Tryz.pinned (OpenSpec.ofChange clauseCallsSpec)

/-- ITS FALSE NEIGHBOUR: 'it returns false'. Refute it at one input. -/
def clauseCallsWrong : ChangeSpec := { name := "clauseCalls", fn := fun _ => fun
  | [d1, d2, d3, d4, d5] => { results := [.lit (.bool false)], args := [d1, d2, d3, d4, d5] }
  | _ => none }
def ClauseCallsWrongFalsely : Prop := clauseCallsRow.holds Tryz.pinned (OpenSpec.ofChange clauseCallsWrong)

/-- 'amanuensislaw17.ClauseLess': WHATEVER THE INPUT: true; the input reads as it did. -/
def clauseLessSpec : ChangeSpec := { name := "clauseLess", fn := fun _ => fun
  | [d1, d2, d3, d4, d5] => { results := [.lit (.bool true)], args := [d1, d2, d3, d4, d5] }
  | _ => none }
def clauseLessRow : OpenClaim := { program := "ythhifgeblblmcaagreat", sum := "ab958d5f9b3d0d1ddd4d11d83c0c84855c93256ab4a41cd54a57f0771986b966", func := "amanuensis/amanuensislaw17.ClauseLess", spec := "clauseLess", unfollowed := true, recurses := true, loops := true, apart := false }
def ClauseLessSaid : Prop := clauseLessRow.holds Tryz.pinned (OpenSpec.ofChange clauseLessSpec)

/-- ITS FALSE NEIGHBOUR: 'it returns false'. Refute it at one input. -/
def clauseLessWrong : ChangeSpec := { name := "clauseLess", fn := fun _ => fun
  | [d1, d2, d3, d4, d5] => { results := [.lit (.bool false)], args := [d1, d2, d3, d4, d5] }
  | _ => none }
def ClauseLessWrongFalsely : Prop := clauseLessRow.holds Tryz.pinned (OpenSpec.ofChange clauseLessWrong)

/-- 'amanuensislaw17.ClauseSchema': WHATEVER THE INPUT: true; the input reads as it did. -/
def clauseSchemaSpec : ChangeSpec := { name := "clauseSchema", fn := fun _ => fun
  | [d1, d2, d3, d4, d5] => { results := [.lit (.bool true)], args := [d1, d2, d3, d4, d5] }
  | _ => none }
def clauseSchemaRow : OpenClaim := { program := "ythhifgeblblmcaagreat", sum := "ab958d5f9b3d0d1ddd4d11d83c0c84855c93256ab4a41cd54a57f0771986b966", func := "amanuensis/amanuensislaw17.ClauseSchema", spec := "clauseSchema", unfollowed := true, recurses := true, loops := true, apart := false }
def ClauseSchemaSaid : Prop := clauseSchemaRow.holds Tryz.pinned (OpenSpec.ofChange clauseSchemaSpec)

/-- ITS FALSE NEIGHBOUR: 'it returns false'. Refute it at one input. -/
def clauseSchemaWrong : ChangeSpec := { name := "clauseSchema", fn := fun _ => fun
  | [d1, d2, d3, d4, d5] => { results := [.lit (.bool false)], args := [d1, d2, d3, d4, d5] }
  | _ => none }
def ClauseSchemaWrongFalsely : Prop := clauseSchemaRow.holds Tryz.pinned (OpenSpec.ofChange clauseSchemaWrong)

/-- 'amanuensislaw17.ClauseMatch': WHATEVER THE INPUT: true; the input reads as it did. -/
def clauseMatchSpec : ChangeSpec := { name := "clauseMatch", fn := fun _ => fun
  | [d1, d2, d3, d4, d5, d6] => { results := [.lit (.bool true)], args := [d1, d2, d3, d4, d5, d6] }
  | _ => none }
def clauseMatchRow : OpenClaim := { program := "ythhifgeblblmcaagreat", sum := "ab958d5f9b3d0d1ddd4d11d83c0c84855c93256ab4a41cd54a57f0771986b966", func := "amanuensis/amanuensislaw17.ClauseMatch", spec := "clauseMatch", unfollowed := true, recurses := true, loops := true, apart := false }
def ClauseMatchSaid : Prop := clauseMatchRow.holds Tryz.pinned (OpenSpec.ofChange clauseMatchSpec)

/-- ITS FALSE NEIGHBOUR: 'it returns false'. Refute it at one input. -/
def clauseMatchWrong : ChangeSpec := { name := "clauseMatch", fn := fun _ => fun
  | [d1, d2, d3, d4, d5, d6] => { results := [.lit (.bool false)], args := [d1, d2, d3, d4, d5, d6] }
  | _ => none }
def ClauseMatchWrongFalsely : Prop := clauseMatchRow.holds Tryz.pinned (OpenSpec.ofChange clauseMatchWrong)

/-- 'amanuensislaw17.ClauseTyped': WHATEVER THE INPUT: true; the input reads as it did. -/
def clauseTypedSpec : ChangeSpec := { name := "clauseTyped", fn := fun _ => fun
  | [d1, d2, d3, d4, d5, d6, d7] => { results := [.lit (.bool true)], args := [d1, d2, d3, d4, d5, d6, d7] }
  | _ => none }
def clauseTypedRow : OpenClaim := { program := "ythhifgeblblmcaagreat", sum := "ab958d5f9b3d0d1ddd4d11d83c0c84855c93256ab4a41cd54a57f0771986b966", func := "amanuensis/amanuensislaw17.ClauseTyped", spec := "clauseTyped", unfollowed := true, recurses := true, loops := true, apart := false }
def ClauseTypedSaid : Prop := clauseTypedRow.holds Tryz.pinned (OpenSpec.ofChange clauseTypedSpec)

/-- ITS FALSE NEIGHBOUR: 'it returns false'. Refute it at one input. -/
def clauseTypedWrong : ChangeSpec := { name := "clauseTyped", fn := fun _ => fun
  | [d1, d2, d3, d4, d5, d6, d7] => { results := [.lit (.bool false)], args := [d1, d2, d3, d4, d5, d6, d7] }
  | _ => none }
def ClauseTypedWrongFalsely : Prop := clauseTypedRow.holds Tryz.pinned (OpenSpec.ofChange clauseTypedWrong)

/- THE SECOND FORM. 'bulk': how many values and letters a reading holds, each counted each time it is reached (what is shared counts as often as it is met; a slice's spare places count too). A statement '..UptoSaid' is the law's where the arguments, and the package variables that the reading takes, are together of bulk at most 1048576: NARROWER than '..Said'. Prove '..Said' where nothing that the law and all that it calls make is longer than what came in: it says more and counts as full. Else prove '..UptoSaid'. A law counts once. -/
mutual
def uptoBulk {H : Type} : DataW H → Nat
  | .lit (.string bytes) => bytes.length + 1
  | .lit _ => 1
  | .nil => 1
  | .ptr d => uptoBulk d + 1
  | .slice elems spare => uptoBulkAll elems + uptoBulkAll spare + 1
  | .agg parts => uptoBulkAll parts + 1
  | .iface _ d => uptoBulk d + 1
  | .map entries => uptoBulkEntries entries + 1
  | .held _ => 1
def uptoBulkAll {H : Type} : List (DataW H) → Nat
  | [] => 0
  | d :: r => uptoBulk d + uptoBulkAll r
def uptoBulkEntries {H : Type} : List (Lit × DataW H) → Nat
  | [] => 0
  | x :: r => uptoBulkEntry x + uptoBulkEntries r
def uptoBulkEntry {H : Type} : Lit × DataW H → Nat
  | (.string bytes, d) => bytes.length + uptoBulk d + 1
  | (_, d) => uptoBulk d + 1
 end
def uptoSmall : (H : Type) → List (DataW H) → Bool := fun _ ds => decide (uptoBulkAll ds ≤ 1048576)
def OpenSpec.upto (s : _root_.Go.ChangeSpec) : _root_.Go.OpenSpec := { _root_.Go.OpenSpec.ofChange s with cond := some uptoSmall }

/-- 'amanuensislaw17.ClauseTells', WHERE WHAT IT READS IS OF BULK AT MOST 1048576: true; the input reads as it did. -/
def clauseTellsUptoRow : OpenClaim := { program := "ythhifgeblblmcaagreat", sum := "ab958d5f9b3d0d1ddd4d11d83c0c84855c93256ab4a41cd54a57f0771986b966", func := "amanuensis/amanuensislaw17.ClauseTells", spec := "clauseTells", unfollowed := true, recurses := true, loops := true, apart := false, narrowed := true }
def ClauseTellsUptoSaid : Prop := clauseTellsUptoRow.holds Tryz.pinned (OpenSpec.upto clauseTellsSpec)

/-- 'amanuensislaw17.ClauseCalls', WHERE WHAT IT READS IS OF BULK AT MOST 1048576: true; the input reads as it did. -/
def clauseCallsUptoRow : OpenClaim := { program := "ythhifgeblblmcaagreat", sum := "ab958d5f9b3d0d1ddd4d11d83c0c84855c93256ab4a41cd54a57f0771986b966", func := "amanuensis/amanuensislaw17.ClauseCalls", spec := "clauseCalls", unfollowed := true, recurses := true, loops := true, apart := false, narrowed := true }
def ClauseCallsUptoSaid : Prop := clauseCallsUptoRow.holds Tryz.pinned (OpenSpec.upto clauseCallsSpec)

/-- 'amanuensislaw17.ClauseLess', WHERE WHAT IT READS IS OF BULK AT MOST 1048576: true; the input reads as it did. -/
def clauseLessUptoRow : OpenClaim := { program := "ythhifgeblblmcaagreat", sum := "ab958d5f9b3d0d1ddd4d11d83c0c84855c93256ab4a41cd54a57f0771986b966", func := "amanuensis/amanuensislaw17.ClauseLess", spec := "clauseLess", unfollowed := true, recurses := true, loops := true, apart := false, narrowed := true }
def ClauseLessUptoSaid : Prop := clauseLessUptoRow.holds Tryz.pinned (OpenSpec.upto clauseLessSpec)

/-- 'amanuensislaw17.ClauseSchema', WHERE WHAT IT READS IS OF BULK AT MOST 1048576: true; the input reads as it did. -/
def clauseSchemaUptoRow : OpenClaim := { program := "ythhifgeblblmcaagreat", sum := "ab958d5f9b3d0d1ddd4d11d83c0c84855c93256ab4a41cd54a57f0771986b966", func := "amanuensis/amanuensislaw17.ClauseSchema", spec := "clauseSchema", unfollowed := true, recurses := true, loops := true, apart := false, narrowed := true }
def ClauseSchemaUptoSaid : Prop := clauseSchemaUptoRow.holds Tryz.pinned (OpenSpec.upto clauseSchemaSpec)

/-- 'amanuensislaw17.ClauseMatch', WHERE WHAT IT READS IS OF BULK AT MOST 1048576: true; the input reads as it did. -/
def clauseMatchUptoRow : OpenClaim := { program := "ythhifgeblblmcaagreat", sum := "ab958d5f9b3d0d1ddd4d11d83c0c84855c93256ab4a41cd54a57f0771986b966", func := "amanuensis/amanuensislaw17.ClauseMatch", spec := "clauseMatch", unfollowed := true, recurses := true, loops := true, apart := false, narrowed := true }
def ClauseMatchUptoSaid : Prop := clauseMatchUptoRow.holds Tryz.pinned (OpenSpec.upto clauseMatchSpec)

/-- 'amanuensislaw17.ClauseTyped', WHERE WHAT IT READS IS OF BULK AT MOST 1048576: true; the input reads as it did. -/
def clauseTypedUptoRow : OpenClaim := { program := "ythhifgeblblmcaagreat", sum := "ab958d5f9b3d0d1ddd4d11d83c0c84855c93256ab4a41cd54a57f0771986b966", func := "amanuensis/amanuensislaw17.ClauseTyped", spec := "clauseTyped", unfollowed := true, recurses := true, loops := true, apart := false, narrowed := true }
def ClauseTypedUptoSaid : Prop := clauseTypedUptoRow.holds Tryz.pinned (OpenSpec.upto clauseTypedSpec)

end Rows
end Go.Proofs.YthhifgeblblmcaaGreat
