/-
  NARROWER THAN 'FOR EVERY INPUT', by the rows' own cells (each row's printed sentence says how): ParseWraps: loops · ParseMore: loops.
  DERIVED. THE GIVEN ROWS OF THIS SEAT. 12 by the template 'for every input the law returns true; each argument reads behind the call as it read before'; 0 by the template 'total and deterministic' (their statements: YthaiojkjodhgpaaTotals.lean).
  GIVEN WITH THE SEED: the statements are not yours to turn. If you find one false, say at which input.
  Laid BY PROGRAM, IN A SANDBOX (cutbox-rows.mjs): the forced cells as the released guide's own fill.sh prints them over the translation 955f2b5e16744d54… (all of the seat's roots in one cut). By AI agents, Wed Nov 11 2026. No macro, syntax, notation, axiom, sorry.
-/
import Derived.Test.YthaiojkjodhgpaaChecked
import GoSem.Claim
import GoSem.ClaimJoined
import GoSem.ClaimMapViews
import Derived.JoinedTies
import Derived.KernelRfl
namespace Go.Proofs.Ythaiojkjodhgpaa
/- THE CELL 'sum', in the pinned program and in every row, IS THE sha256 OF THE DUMP (.gsa) THAT YthaiojkjodhgpaaProg.lean LOADS. Nothing in Lean hashes anything: it is a label: what it is worth is what the hold of that sum in a sandbox is worth. -/
noncomputable def Try.pinned : Pinned := { name := "ythaiojkjodhgpaa", sum := "955f2b5e16744d549117f02337037333ebd90ed31e2b342280e79a7f3a70c463", checked := Try.checked }
namespace Rows
def none {H : Type} : Left H := { results := [], args := [] }

/-- 'amanuensislaw13.LexTells': WHATEVER THE INPUT: true; the input reads as it did. -/
def lexTellsSpec : ChangeSpec := { name := "lexTells", fn := fun _ => fun
  | [d1, d2] => { results := [.lit (.bool true)], args := [d1, d2] }
  | _ => none }
def lexTellsRow : OpenClaim := { program := "ythaiojkjodhgpaa", sum := "955f2b5e16744d549117f02337037333ebd90ed31e2b342280e79a7f3a70c463", func := "amanuensis/amanuensislaw13.LexTells", spec := "lexTells", inPlace := ["internal/bytealg.IndexByteString", "internal/bytealg.IndexString"], named := ["internal/bytealg.MaxLen"], apart := false }
def LexTellsSaid : Prop := lexTellsRow.holds Try.pinned (OpenSpec.ofChange lexTellsSpec)

/-- ITS FALSE NEIGHBOUR: 'it returns false'. Refute it at one input. -/
def lexTellsWrong : ChangeSpec := { name := "lexTells", fn := fun _ => fun
  | [d1, d2] => { results := [.lit (.bool false)], args := [d1, d2] }
  | _ => none }
def LexTellsWrongFalsely : Prop := lexTellsRow.holds Try.pinned (OpenSpec.ofChange lexTellsWrong)

/-- 'amanuensislaw13.LexBack': WHATEVER THE INPUT: true; the input reads as it did. -/
def lexBackSpec : ChangeSpec := { name := "lexBack", fn := fun _ => fun
  | [d] => { results := [.lit (.bool true)], args := [d] }
  | _ => none }
def lexBackRow : OpenClaim := { program := "ythaiojkjodhgpaa", sum := "955f2b5e16744d549117f02337037333ebd90ed31e2b342280e79a7f3a70c463", func := "amanuensis/amanuensislaw13.LexBack", spec := "lexBack", inPlace := ["internal/bytealg.IndexByteString", "internal/bytealg.IndexString"], named := ["internal/bytealg.MaxLen"], apart := false }
def LexBackSaid : Prop := lexBackRow.holds Try.pinned (OpenSpec.ofChange lexBackSpec)

/-- ITS FALSE NEIGHBOUR: 'it returns false'. Refute it at one input. -/
def lexBackWrong : ChangeSpec := { name := "lexBack", fn := fun _ => fun
  | [d] => { results := [.lit (.bool false)], args := [d] }
  | _ => none }
def LexBackWrongFalsely : Prop := lexBackRow.holds Try.pinned (OpenSpec.ofChange lexBackWrong)

/-- 'amanuensislaw13.LexJoins': WHATEVER THE INPUT: true; the input reads as it did. -/
def lexJoinsSpec : ChangeSpec := { name := "lexJoins", fn := fun _ => fun
  | [d1, d2] => { results := [.lit (.bool true)], args := [d1, d2] }
  | _ => none }
def lexJoinsRow : OpenClaim := { program := "ythaiojkjodhgpaa", sum := "955f2b5e16744d549117f02337037333ebd90ed31e2b342280e79a7f3a70c463", func := "amanuensis/amanuensislaw13.LexJoins", spec := "lexJoins", inPlace := ["internal/bytealg.IndexByteString", "internal/bytealg.IndexString"], named := ["internal/bytealg.MaxLen"], apart := false }
def LexJoinsSaid : Prop := lexJoinsRow.holds Try.pinned (OpenSpec.ofChange lexJoinsSpec)

/-- ITS FALSE NEIGHBOUR: 'it returns false'. Refute it at one input. -/
def lexJoinsWrong : ChangeSpec := { name := "lexJoins", fn := fun _ => fun
  | [d1, d2] => { results := [.lit (.bool false)], args := [d1, d2] }
  | _ => none }
def LexJoinsWrongFalsely : Prop := lexJoinsRow.holds Try.pinned (OpenSpec.ofChange lexJoinsWrong)

/-- 'amanuensislaw13.LexMarks': WHATEVER THE INPUT: true; the input reads as it did. -/
def lexMarksSpec : ChangeSpec := { name := "lexMarks", fn := fun _ => fun
  | [d] => { results := [.lit (.bool true)], args := [d] }
  | _ => none }
def lexMarksRow : OpenClaim := { program := "ythaiojkjodhgpaa", sum := "955f2b5e16744d549117f02337037333ebd90ed31e2b342280e79a7f3a70c463", func := "amanuensis/amanuensislaw13.LexMarks", spec := "lexMarks", inPlace := ["internal/bytealg.IndexByteString", "internal/bytealg.IndexString"], named := ["internal/bytealg.MaxLen"], apart := false }
def LexMarksSaid : Prop := lexMarksRow.holds Try.pinned (OpenSpec.ofChange lexMarksSpec)

/-- ITS FALSE NEIGHBOUR: 'it returns false'. Refute it at one input. -/
def lexMarksWrong : ChangeSpec := { name := "lexMarks", fn := fun _ => fun
  | [d] => { results := [.lit (.bool false)], args := [d] }
  | _ => none }
def LexMarksWrongFalsely : Prop := lexMarksRow.holds Try.pinned (OpenSpec.ofChange lexMarksWrong)

/-- 'amanuensislaw13.LexNote': WHATEVER THE INPUT: true; the input reads as it did. -/
def lexNoteSpec : ChangeSpec := { name := "lexNote", fn := fun _ => fun
  | [d1, d2, d3] => { results := [.lit (.bool true)], args := [d1, d2, d3] }
  | _ => none }
def lexNoteRow : OpenClaim := { program := "ythaiojkjodhgpaa", sum := "955f2b5e16744d549117f02337037333ebd90ed31e2b342280e79a7f3a70c463", func := "amanuensis/amanuensislaw13.LexNote", spec := "lexNote", inPlace := ["internal/bytealg.IndexByteString", "internal/bytealg.IndexString"], named := ["internal/bytealg.MaxLen"], apart := false }
def LexNoteSaid : Prop := lexNoteRow.holds Try.pinned (OpenSpec.ofChange lexNoteSpec)

/-- ITS FALSE NEIGHBOUR: 'it returns false'. Refute it at one input. -/
def lexNoteWrong : ChangeSpec := { name := "lexNote", fn := fun _ => fun
  | [d1, d2, d3] => { results := [.lit (.bool false)], args := [d1, d2, d3] }
  | _ => none }
def LexNoteWrongFalsely : Prop := lexNoteRow.holds Try.pinned (OpenSpec.ofChange lexNoteWrong)

/-- 'amanuensislaw13.LexLong': WHATEVER THE INPUT: true; the input reads as it did. -/
def lexLongSpec : ChangeSpec := { name := "lexLong", fn := fun _ => fun
  | [d1, d2] => { results := [.lit (.bool true)], args := [d1, d2] }
  | _ => none }
def lexLongRow : OpenClaim := { program := "ythaiojkjodhgpaa", sum := "955f2b5e16744d549117f02337037333ebd90ed31e2b342280e79a7f3a70c463", func := "amanuensis/amanuensislaw13.LexLong", spec := "lexLong", inPlace := ["internal/bytealg.IndexByteString", "internal/bytealg.IndexString"], named := ["internal/bytealg.MaxLen"], apart := false }
def LexLongSaid : Prop := lexLongRow.holds Try.pinned (OpenSpec.ofChange lexLongSpec)

/-- ITS FALSE NEIGHBOUR: 'it returns false'. Refute it at one input. -/
def lexLongWrong : ChangeSpec := { name := "lexLong", fn := fun _ => fun
  | [d1, d2] => { results := [.lit (.bool false)], args := [d1, d2] }
  | _ => none }
def LexLongWrongFalsely : Prop := lexLongRow.holds Try.pinned (OpenSpec.ofChange lexLongWrong)

/-- 'amanuensislaw14.ParseBegins': WHATEVER THE INPUT: true; the input reads as it did. -/
def parseBeginsSpec : ChangeSpec := { name := "parseBegins", fn := fun _ => fun
  | [d1, d2] => { results := [.lit (.bool true)], args := [d1, d2] }
  | _ => none }
def parseBeginsRow : OpenClaim := { program := "ythaiojkjodhgpaa", sum := "955f2b5e16744d549117f02337037333ebd90ed31e2b342280e79a7f3a70c463", func := "amanuensis/amanuensislaw14.ParseBegins", spec := "parseBegins", inPlace := ["internal/bytealg.IndexByteString", "internal/bytealg.IndexString"], unfollowed := true, recurses := true, named := ["internal/bytealg.MaxLen"], apart := false }
def ParseBeginsSaid : Prop := parseBeginsRow.holds Try.pinned (OpenSpec.ofChange parseBeginsSpec)

/-- ITS FALSE NEIGHBOUR: 'it returns false'. Refute it at one input. -/
def parseBeginsWrong : ChangeSpec := { name := "parseBegins", fn := fun _ => fun
  | [d1, d2] => { results := [.lit (.bool false)], args := [d1, d2] }
  | _ => none }
def ParseBeginsWrongFalsely : Prop := parseBeginsRow.holds Try.pinned (OpenSpec.ofChange parseBeginsWrong)

/-- 'amanuensislaw14.ParseNames': WHATEVER THE INPUT: true; the input reads as it did. -/
def parseNamesSpec : ChangeSpec := { name := "parseNames", fn := fun _ => fun
  | [d] => { results := [.lit (.bool true)], args := [d] }
  | _ => none }
def parseNamesRow : OpenClaim := { program := "ythaiojkjodhgpaa", sum := "955f2b5e16744d549117f02337037333ebd90ed31e2b342280e79a7f3a70c463", func := "amanuensis/amanuensislaw14.ParseNames", spec := "parseNames", inPlace := ["internal/bytealg.IndexByteString", "internal/bytealg.IndexString"], unfollowed := true, recurses := true, named := ["internal/bytealg.MaxLen"], apart := false }
def ParseNamesSaid : Prop := parseNamesRow.holds Try.pinned (OpenSpec.ofChange parseNamesSpec)

/-- ITS FALSE NEIGHBOUR: 'it returns false'. Refute it at one input. -/
def parseNamesWrong : ChangeSpec := { name := "parseNames", fn := fun _ => fun
  | [d] => { results := [.lit (.bool false)], args := [d] }
  | _ => none }
def ParseNamesWrongFalsely : Prop := parseNamesRow.holds Try.pinned (OpenSpec.ofChange parseNamesWrong)

/-- 'amanuensislaw14.ParseScopes': WHATEVER THE INPUT: true; the input reads as it did. -/
def parseScopesSpec : ChangeSpec := { name := "parseScopes", fn := fun _ => fun
  | [d] => { results := [.lit (.bool true)], args := [d] }
  | _ => none }
def parseScopesRow : OpenClaim := { program := "ythaiojkjodhgpaa", sum := "955f2b5e16744d549117f02337037333ebd90ed31e2b342280e79a7f3a70c463", func := "amanuensis/amanuensislaw14.ParseScopes", spec := "parseScopes", inPlace := ["internal/bytealg.IndexByteString", "internal/bytealg.IndexString"], unfollowed := true, recurses := true, named := ["internal/bytealg.MaxLen"], apart := false }
def ParseScopesSaid : Prop := parseScopesRow.holds Try.pinned (OpenSpec.ofChange parseScopesSpec)

/-- ITS FALSE NEIGHBOUR: 'it returns false'. Refute it at one input. -/
def parseScopesWrong : ChangeSpec := { name := "parseScopes", fn := fun _ => fun
  | [d] => { results := [.lit (.bool false)], args := [d] }
  | _ => none }
def ParseScopesWrongFalsely : Prop := parseScopesRow.holds Try.pinned (OpenSpec.ofChange parseScopesWrong)

/-- 'amanuensislaw14.ParseWraps': WHATEVER THE INPUT: true; the input reads as it did. -/
def parseWrapsSpec : ChangeSpec := { name := "parseWraps", fn := fun _ => fun
  | [d1, d2] => { results := [.lit (.bool true)], args := [d1, d2] }
  | _ => none }
def parseWrapsRow : OpenClaim := { program := "ythaiojkjodhgpaa", sum := "955f2b5e16744d549117f02337037333ebd90ed31e2b342280e79a7f3a70c463", func := "amanuensis/amanuensislaw14.ParseWraps", spec := "parseWraps", inPlace := ["internal/bytealg.IndexByteString", "internal/bytealg.IndexString"], unfollowed := true, recurses := true, named := ["internal/bytealg.MaxLen"], loops := true, apart := false }
def ParseWrapsSaid : Prop := parseWrapsRow.holds Try.pinned (OpenSpec.ofChange parseWrapsSpec)

/-- ITS FALSE NEIGHBOUR: 'it returns false'. Refute it at one input. -/
def parseWrapsWrong : ChangeSpec := { name := "parseWraps", fn := fun _ => fun
  | [d1, d2] => { results := [.lit (.bool false)], args := [d1, d2] }
  | _ => none }
def ParseWrapsWrongFalsely : Prop := parseWrapsRow.holds Try.pinned (OpenSpec.ofChange parseWrapsWrong)

/-- 'amanuensislaw14.ParseBound': WHATEVER THE INPUT: true; the input reads as it did. -/
def parseBoundSpec : ChangeSpec := { name := "parseBound", fn := fun _ => fun
  | [d1, d2] => { results := [.lit (.bool true)], args := [d1, d2] }
  | _ => none }
def parseBoundRow : OpenClaim := { program := "ythaiojkjodhgpaa", sum := "955f2b5e16744d549117f02337037333ebd90ed31e2b342280e79a7f3a70c463", func := "amanuensis/amanuensislaw14.ParseBound", spec := "parseBound", inPlace := ["internal/bytealg.IndexByteString", "internal/bytealg.IndexString"], unfollowed := true, recurses := true, named := ["internal/bytealg.MaxLen"], apart := false }
def ParseBoundSaid : Prop := parseBoundRow.holds Try.pinned (OpenSpec.ofChange parseBoundSpec)

/-- ITS FALSE NEIGHBOUR: 'it returns false'. Refute it at one input. -/
def parseBoundWrong : ChangeSpec := { name := "parseBound", fn := fun _ => fun
  | [d1, d2] => { results := [.lit (.bool false)], args := [d1, d2] }
  | _ => none }
def ParseBoundWrongFalsely : Prop := parseBoundRow.holds Try.pinned (OpenSpec.ofChange parseBoundWrong)

/-- 'amanuensislaw14.ParseMore': WHATEVER THE INPUT: true; the input reads as it did. -/
def parseMoreSpec : ChangeSpec := { name := "parseMore", fn := fun _ => fun
  | [d1, d2] => { results := [.lit (.bool true)], args := [d1, d2] }
  | _ => none }
def parseMoreRow : OpenClaim := { program := "ythaiojkjodhgpaa", sum := "955f2b5e16744d549117f02337037333ebd90ed31e2b342280e79a7f3a70c463", func := "amanuensis/amanuensislaw14.ParseMore", spec := "parseMore", inPlace := ["internal/bytealg.IndexByteString", "internal/bytealg.IndexString"], unfollowed := true, recurses := true, named := ["internal/bytealg.MaxLen"], loops := true, apart := false }
def ParseMoreSaid : Prop := parseMoreRow.holds Try.pinned (OpenSpec.ofChange parseMoreSpec)

/-- ITS FALSE NEIGHBOUR: 'it returns false'. Refute it at one input. -/
def parseMoreWrong : ChangeSpec := { name := "parseMore", fn := fun _ => fun
  | [d1, d2] => { results := [.lit (.bool false)], args := [d1, d2] }
  | _ => none }
def ParseMoreWrongFalsely : Prop := parseMoreRow.holds Try.pinned (OpenSpec.ofChange parseMoreWrong)

/- THE SECOND FORM. 'bulk': how many values and letters a reading holds, each counted each time it is reached (what is shared counts as often as it is met; a slice's spare places count too). A statement '..UptoSaid' is the law's where the arguments, and the package variables that the reading takes, are together of bulk at most 1048576: NARROWER than '..Said'. Prove '..Said' where nothing that the law and all that it calls make is longer than what came in: it says more and counts as full. Else prove '..UptoSaid'. A law counts once. -/
mutual
def uptoBulk {H : Type} : DataW H → Nat
  | .lit (.string bytes) => bytes.length + 1
  | .lit _ => 1
  | .nil => 1
  | .ptr d => uptoBulk d + 1
  | .slice elems spare => uptoBulkAll elems + uptoBulkAll spare + 1
  | .agg parts => uptoBulkAll parts + 1
  | .iface _ d => uptoBulk d + 1
  | .map entries => uptoBulkEntries entries + 1
  | .held _ => 1
def uptoBulkAll {H : Type} : List (DataW H) → Nat
  | [] => 0
  | d :: r => uptoBulk d + uptoBulkAll r
def uptoBulkEntries {H : Type} : List (Lit × DataW H) → Nat
  | [] => 0
  | x :: r => uptoBulkEntry x + uptoBulkEntries r
def uptoBulkEntry {H : Type} : Lit × DataW H → Nat
  | (.string bytes, d) => bytes.length + uptoBulk d + 1
  | (_, d) => uptoBulk d + 1
 end
def uptoSmall : (H : Type) → List (DataW H) → Bool := fun _ ds => decide (uptoBulkAll ds ≤ 1048576)
def OpenSpec.upto (s : _root_.Go.ChangeSpec) : _root_.Go.OpenSpec := { _root_.Go.OpenSpec.ofChange s with cond := some uptoSmall }

/-- 'amanuensislaw13.LexTells', WHERE WHAT IT READS IS OF BULK AT MOST 1048576: true; the input reads as it did. -/
def lexTellsUptoRow : OpenClaim := { program := "ythaiojkjodhgpaa", sum := "955f2b5e16744d549117f02337037333ebd90ed31e2b342280e79a7f3a70c463", func := "amanuensis/amanuensislaw13.LexTells", spec := "lexTells", inPlace := ["internal/bytealg.IndexByteString", "internal/bytealg.IndexString"], named := ["internal/bytealg.MaxLen"], apart := false, narrowed := true }
def LexTellsUptoSaid : Prop := lexTellsUptoRow.holds Try.pinned (OpenSpec.upto lexTellsSpec)

/-- 'amanuensislaw13.LexBack', WHERE WHAT IT READS IS OF BULK AT MOST 1048576: true; the input reads as it did. -/
def lexBackUptoRow : OpenClaim := { program := "ythaiojkjodhgpaa", sum := "955f2b5e16744d549117f02337037333ebd90ed31e2b342280e79a7f3a70c463", func := "amanuensis/amanuensislaw13.LexBack", spec := "lexBack", inPlace := ["internal/bytealg.IndexByteString", "internal/bytealg.IndexString"], named := ["internal/bytealg.MaxLen"], apart := false, narrowed := true }
def LexBackUptoSaid : Prop := lexBackUptoRow.holds Try.pinned (OpenSpec.upto lexBackSpec)

/-- 'amanuensislaw13.LexJoins', WHERE WHAT IT READS IS OF BULK AT MOST 1048576: true; the input reads as it did. -/
def lexJoinsUptoRow : OpenClaim := { program := "ythaiojkjodhgpaa", sum := "955f2b5e16744d549117f02337037333ebd90ed31e2b342280e79a7f3a70c463", func := "amanuensis/amanuensislaw13.LexJoins", spec := "lexJoins", inPlace := ["internal/bytealg.IndexByteString", "internal/bytealg.IndexString"], named := ["internal/bytealg.MaxLen"], apart := false, narrowed := true }
def LexJoinsUptoSaid : Prop := lexJoinsUptoRow.holds Try.pinned (OpenSpec.upto lexJoinsSpec)

/-- 'amanuensislaw13.LexMarks', WHERE WHAT IT READS IS OF BULK AT MOST 1048576: true; the input reads as it did. -/
def lexMarksUptoRow : OpenClaim := { program := "ythaiojkjodhgpaa", sum := "955f2b5e16744d549117f02337037333ebd90ed31e2b342280e79a7f3a70c463", func := "amanuensis/amanuensislaw13.LexMarks", spec := "lexMarks", inPlace := ["internal/bytealg.IndexByteString", "internal/bytealg.IndexString"], named := ["internal/bytealg.MaxLen"], apart := false, narrowed := true }
def LexMarksUptoSaid : Prop := lexMarksUptoRow.holds Try.pinned (OpenSpec.upto lexMarksSpec)

/-- 'amanuensislaw13.LexNote', WHERE WHAT IT READS IS OF BULK AT MOST 1048576: true; the input reads as it did. -/
def lexNoteUptoRow : OpenClaim := { program := "ythaiojkjodhgpaa", sum := "955f2b5e16744d549117f02337037333ebd90ed31e2b342280e79a7f3a70c463", func := "amanuensis/amanuensislaw13.LexNote", spec := "lexNote", inPlace := ["internal/bytealg.IndexByteString", "internal/bytealg.IndexString"], named := ["internal/bytealg.MaxLen"], apart := false, narrowed := true }
def LexNoteUptoSaid : Prop := lexNoteUptoRow.holds Try.pinned (OpenSpec.upto lexNoteSpec)

/-- 'amanuensislaw13.LexLong', WHERE WHAT IT READS IS OF BULK AT MOST 1048576: true; the input reads as it did. -/
def lexLongUptoRow : OpenClaim := { program := "ythaiojkjodhgpaa", sum := "955f2b5e16744d549117f02337037333ebd90ed31e2b342280e79a7f3a70c463", func := "amanuensis/amanuensislaw13.LexLong", spec := "lexLong", inPlace := ["internal/bytealg.IndexByteString", "internal/bytealg.IndexString"], named := ["internal/bytealg.MaxLen"], apart := false, narrowed := true }
def LexLongUptoSaid : Prop := lexLongUptoRow.holds Try.pinned (OpenSpec.upto lexLongSpec)

/-- 'amanuensislaw14.ParseBegins', WHERE WHAT IT READS IS OF BULK AT MOST 1048576: true; the input reads as it did. -/
def parseBeginsUptoRow : OpenClaim := { program := "ythaiojkjodhgpaa", sum := "955f2b5e16744d549117f02337037333ebd90ed31e2b342280e79a7f3a70c463", func := "amanuensis/amanuensislaw14.ParseBegins", spec := "parseBegins", inPlace := ["internal/bytealg.IndexByteString", "internal/bytealg.IndexString"], unfollowed := true, recurses := true, named := ["internal/bytealg.MaxLen"], apart := false, narrowed := true }
def ParseBeginsUptoSaid : Prop := parseBeginsUptoRow.holds Try.pinned (OpenSpec.upto parseBeginsSpec)

/-- 'amanuensislaw14.ParseNames', WHERE WHAT IT READS IS OF BULK AT MOST 1048576: true; the input reads as it did. -/
def parseNamesUptoRow : OpenClaim := { program := "ythaiojkjodhgpaa", sum := "955f2b5e16744d549117f02337037333ebd90ed31e2b342280e79a7f3a70c463", func := "amanuensis/amanuensislaw14.ParseNames", spec := "parseNames", inPlace := ["internal/bytealg.IndexByteString", "internal/bytealg.IndexString"], unfollowed := true, recurses := true, named := ["internal/bytealg.MaxLen"], apart := false, narrowed := true }
def ParseNamesUptoSaid : Prop := parseNamesUptoRow.holds Try.pinned (OpenSpec.upto parseNamesSpec)

/-- 'amanuensislaw14.ParseScopes', WHERE WHAT IT READS IS OF BULK AT MOST 1048576: true; the input reads as it did. -/
def parseScopesUptoRow : OpenClaim := { program := "ythaiojkjodhgpaa", sum := "955f2b5e16744d549117f02337037333ebd90ed31e2b342280e79a7f3a70c463", func := "amanuensis/amanuensislaw14.ParseScopes", spec := "parseScopes", inPlace := ["internal/bytealg.IndexByteString", "internal/bytealg.IndexString"], unfollowed := true, recurses := true, named := ["internal/bytealg.MaxLen"], apart := false, narrowed := true }
def ParseScopesUptoSaid : Prop := parseScopesUptoRow.holds Try.pinned (OpenSpec.upto parseScopesSpec)

/-- 'amanuensislaw14.ParseWraps', WHERE WHAT IT READS IS OF BULK AT MOST 1048576: true; the input reads as it did. -/
def parseWrapsUptoRow : OpenClaim := { program := "ythaiojkjodhgpaa", sum := "955f2b5e16744d549117f02337037333ebd90ed31e2b342280e79a7f3a70c463", func := "amanuensis/amanuensislaw14.ParseWraps", spec := "parseWraps", inPlace := ["internal/bytealg.IndexByteString", "internal/bytealg.IndexString"], unfollowed := true, recurses := true, named := ["internal/bytealg.MaxLen"], loops := true, apart := false, narrowed := true }
def ParseWrapsUptoSaid : Prop := parseWrapsUptoRow.holds Try.pinned (OpenSpec.upto parseWrapsSpec)

/-- 'amanuensislaw14.ParseBound', WHERE WHAT IT READS IS OF BULK AT MOST 1048576: true; the input reads as it did. -/
def parseBoundUptoRow : OpenClaim := { program := "ythaiojkjodhgpaa", sum := "955f2b5e16744d549117f02337037333ebd90ed31e2b342280e79a7f3a70c463", func := "amanuensis/amanuensislaw14.ParseBound", spec := "parseBound", inPlace := ["internal/bytealg.IndexByteString", "internal/bytealg.IndexString"], unfollowed := true, recurses := true, named := ["internal/bytealg.MaxLen"], apart := false, narrowed := true }
def ParseBoundUptoSaid : Prop := parseBoundUptoRow.holds Try.pinned (OpenSpec.upto parseBoundSpec)

/-- 'amanuensislaw14.ParseMore', WHERE WHAT IT READS IS OF BULK AT MOST 1048576: true; the input reads as it did. -/
def parseMoreUptoRow : OpenClaim := { program := "ythaiojkjodhgpaa", sum := "955f2b5e16744d549117f02337037333ebd90ed31e2b342280e79a7f3a70c463", func := "amanuensis/amanuensislaw14.ParseMore", spec := "parseMore", inPlace := ["internal/bytealg.IndexByteString", "internal/bytealg.IndexString"], unfollowed := true, recurses := true, named := ["internal/bytealg.MaxLen"], loops := true, apart := false, narrowed := true }
def ParseMoreUptoSaid : Prop := parseMoreUptoRow.holds Try.pinned (OpenSpec.upto parseMoreSpec)

end Rows
end Go.Proofs.Ythaiojkjodhgpaa
