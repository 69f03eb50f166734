/-
  NARROWER THAN 'FOR EVERY INPUT', by the rows' own cells (each row's printed sentence says how): SplitMetas: loops · SplitOnly: loops.
  DERIVED. THE GIVEN ROWS OF THIS SEAT. 2 by the template 'for every input the law returns true; each argument reads behind the call as it read before'; 0 by the template 'total and deterministic' (their statements: YtenlhfefnpehcaaTotals.lean).
  GIVEN WITH THE SEED: the statements are not yours to turn. If you find one false, say at which input.
  Laid BY PROGRAM, IN A SANDBOX (cutbox-rows.mjs): the forced cells as the released guide's own fill.sh prints them over the translation c9371b4db542c66c… (all of the seat's roots in one cut). By AI agents, Wed Nov 11 2026. No macro, syntax, notation, axiom, sorry.
-/
import Derived.Test.YtenlhfefnpehcaaChecked
import GoSem.Claim
import GoSem.ClaimJoined
import GoSem.ClaimMapViews
import Derived.JoinedTies
import Derived.KernelRfl
namespace Go.Proofs.Ytenlhfefnpehcaa
/- THE CELL 'sum', in the pinned program and in every row, IS THE sha256 OF THE DUMP (.gsa) THAT YtenlhfefnpehcaaProg.lean LOADS. Nothing in Lean hashes anything: it is a label: what it is worth is what the hold of that sum in a sandbox is worth. -/
noncomputable def Try.pinned : Pinned := { name := "ytenlhfefnpehcaa", sum := "c9371b4db542c66c3dc49f7775bdb0c1d36c71a517d1a84b8b5290d1ebf723ed", checked := Try.checked }
namespace Rows
def none {H : Type} : Left H := { results := [], args := [] }

/-- 'amanuensislaw19.SplitMetas': WHATEVER THE INPUT: true; the input reads as it did. -/
def splitMetasSpec : ChangeSpec := { name := "splitMetas", fn := fun _ => fun
  | [d1, d2] => { results := [.lit (.bool true)], args := [d1, d2] }
  | _ => none }
def splitMetasRow : OpenClaim := { program := "ytenlhfefnpehcaa", sum := "c9371b4db542c66c3dc49f7775bdb0c1d36c71a517d1a84b8b5290d1ebf723ed", func := "amanuensis/amanuensislaw19.SplitMetas", spec := "splitMetas", unfollowed := true, recurses := true, loops := true, apart := false }
def SplitMetasSaid : Prop := splitMetasRow.holds Try.pinned (OpenSpec.ofChange splitMetasSpec)

/-- ITS FALSE NEIGHBOUR: 'it returns false'. Refute it at one input. -/
def splitMetasWrong : ChangeSpec := { name := "splitMetas", fn := fun _ => fun
  | [d1, d2] => { results := [.lit (.bool false)], args := [d1, d2] }
  | _ => none }
def SplitMetasWrongFalsely : Prop := splitMetasRow.holds Try.pinned (OpenSpec.ofChange splitMetasWrong)

/-- 'amanuensislaw19.SplitOnly': WHATEVER THE INPUT: true; the input reads as it did. -/
def splitOnlySpec : ChangeSpec := { name := "splitOnly", fn := fun _ => fun
  | [d1, d2, d3] => { results := [.lit (.bool true)], args := [d1, d2, d3] }
  | _ => none }
def splitOnlyRow : OpenClaim := { program := "ytenlhfefnpehcaa", sum := "c9371b4db542c66c3dc49f7775bdb0c1d36c71a517d1a84b8b5290d1ebf723ed", func := "amanuensis/amanuensislaw19.SplitOnly", spec := "splitOnly", unfollowed := true, recurses := true, loops := true, apart := false }
def SplitOnlySaid : Prop := splitOnlyRow.holds Try.pinned (OpenSpec.ofChange splitOnlySpec)

/-- ITS FALSE NEIGHBOUR: 'it returns false'. Refute it at one input. -/
def splitOnlyWrong : ChangeSpec := { name := "splitOnly", fn := fun _ => fun
  | [d1, d2, d3] => { results := [.lit (.bool false)], args := [d1, d2, d3] }
  | _ => none }
def SplitOnlyWrongFalsely : Prop := splitOnlyRow.holds Try.pinned (OpenSpec.ofChange splitOnlyWrong)

/- THE SECOND FORM. 'bulk': how many values and letters a reading holds, each counted each time it is reached (what is shared counts as often as it is met; a slice's spare places count too). A statement '..UptoSaid' is the law's where the arguments, and the package variables that the reading takes, are together of bulk at most 1048576: NARROWER than '..Said'. Prove '..Said' where nothing that the law and all that it calls make is longer than what came in: it says more and counts as full. Else prove '..UptoSaid'. A law counts once. -/
mutual
def uptoBulk {H : Type} : DataW H → Nat
  | .lit (.string bytes) => bytes.length + 1
  | .lit _ => 1
  | .nil => 1
  | .ptr d => uptoBulk d + 1
  | .slice elems spare => uptoBulkAll elems + uptoBulkAll spare + 1
  | .agg parts => uptoBulkAll parts + 1
  | .iface _ d => uptoBulk d + 1
  | .map entries => uptoBulkEntries entries + 1
  | .held _ => 1
def uptoBulkAll {H : Type} : List (DataW H) → Nat
  | [] => 0
  | d :: r => uptoBulk d + uptoBulkAll r
def uptoBulkEntries {H : Type} : List (Lit × DataW H) → Nat
  | [] => 0
  | x :: r => uptoBulkEntry x + uptoBulkEntries r
def uptoBulkEntry {H : Type} : Lit × DataW H → Nat
  | (.string bytes, d) => bytes.length + uptoBulk d + 1
  | (_, d) => uptoBulk d + 1
 end
def uptoSmall : (H : Type) → List (DataW H) → Bool := fun _ ds => decide (uptoBulkAll ds ≤ 1048576)
def OpenSpec.upto (s : _root_.Go.ChangeSpec) : _root_.Go.OpenSpec := { _root_.Go.OpenSpec.ofChange s with cond := some uptoSmall }

/-- 'amanuensislaw19.SplitMetas', WHERE WHAT IT READS IS OF BULK AT MOST 1048576: true; the input reads as it did. -/
def splitMetasUptoRow : OpenClaim := { program := "ytenlhfefnpehcaa", sum := "c9371b4db542c66c3dc49f7775bdb0c1d36c71a517d1a84b8b5290d1ebf723ed", func := "amanuensis/amanuensislaw19.SplitMetas", spec := "splitMetas", unfollowed := true, recurses := true, loops := true, apart := false, narrowed := true }
def SplitMetasUptoSaid : Prop := splitMetasUptoRow.holds Try.pinned (OpenSpec.upto splitMetasSpec)

/-- 'amanuensislaw19.SplitOnly', WHERE WHAT IT READS IS OF BULK AT MOST 1048576: true; the input reads as it did. -/
def splitOnlyUptoRow : OpenClaim := { program := "ytenlhfefnpehcaa", sum := "c9371b4db542c66c3dc49f7775bdb0c1d36c71a517d1a84b8b5290d1ebf723ed", func := "amanuensis/amanuensislaw19.SplitOnly", spec := "splitOnly", unfollowed := true, recurses := true, loops := true, apart := false, narrowed := true }
def SplitOnlyUptoSaid : Prop := splitOnlyUptoRow.holds Try.pinned (OpenSpec.upto splitOnlySpec)

end Rows
end Go.Proofs.Ytenlhfefnpehcaa
