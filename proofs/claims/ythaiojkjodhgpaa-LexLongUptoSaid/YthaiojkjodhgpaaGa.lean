import Derived.Test.YthaiojkjodhgpaaAMa
import Derived.Test.YthaiojkjodhgpaaProg
import Derived.CallsIn
import Derived.Test.YthaiojkjodhgpaaAMd
import Derived.KernelRfl
import Derived.Lib.Bytealg
/- The program's functions, each an equation of the abstract machine checked by the kernel, and what they come to as plain Lean. -/
set_option linter.unusedVariables false
set_option linter.unusedSimpArgs false
set_option linter.unusedSectionVars false
namespace Go.Proofs.LP
open Go Go.AM
def hints : Nat → Option FnHints
  | 2 => some ⟨true, [], [], [], [], []⟩
  | 3 => some ⟨true, [], [], [], [], [(4, .ty 4)]⟩
  | 4 => some ⟨true, [], [(13, 6), (13, 0), (13, 7), (15, 1), (15, 0), (15, 2)], [(11, [(10, .ty 3), (0, .any), (9, .grow none), (8, .ty 4), (7, .ty 25), (4, .any)])], [(11, [(8, .ty 4), (7, .ty 25), (4, .ty 23), (9, .grow none)])], [(2, .ty 4)]⟩
  | 5 => some ⟨true, [], [(6, 1), (6, 2), (7, 2), (7, 0), (7, 3), (8, 2), (8, 0), (8, 3), (12, 1), (12, 3)], [], [], [(4, .ty 4)]⟩
  | 6 => some ⟨true, [], [(11, 6), (11, 0), (11, 7), (22, 6), (22, 0), (22, 7)], [(6, [(5, .ty 3), (0, .any), (4, .grow none)]), (17, [(9, .ty 3), (6, .any), (8, .grow none), (4, .grow none)])], [(6, [(4, .grow none), (0, .ty 22)]), (17, [(4, .grow none), (8, .grow none)])], [(2, .ty 4)]⟩
  | 7 => some ⟨true, [], [(9, 1), (9, 3), (9, 4), (10, 2), (10, 0), (10, 3), (11, 1), (11, 3), (11, 4), (12, 2), (12, 0), (12, 3), (13, 2), (13, 0), (13, 3), (14, 2), (14, 0), (14, 3)], [(5, [(8, .ty 3), (1, .any), (0, .any), (2, .any)]), (16, [(11, .ty 3), (0, .any), (10, .grow none), (9, .grow none)])], [(5, [(0, .ty 22), (2, .ty 22), (1, .ty 22)]), (16, [(10, .grow none), (9, .grow none)])], [(6, .ty 4)]⟩
  | 8 => some ⟨true, [28], [(9, 0)], [(6, [(7, .ty 3), (0, .ty 5), (6, .row none)])], [(6, [(0, .ty 5), (6, .row none)])], [(4, .ty 4)]⟩
  | 9 => some ⟨true, [], [(5, 1), (5, 2), (6, 2), (6, 0), (6, 3), (7, 2), (7, 0), (7, 3)], [], [], [(4, .ty 4)]⟩
  | 10 => some ⟨true, [], [], [], [], [(2, .ty 4)]⟩
  | 11 => some ⟨true, [], [], [(8, [(6, .ty 3), (4, .any)]), (13, [(7, .ty 3), (6, .ty 3), (4, .any)])], [(8, []), (13, [(4, .ty 37), (6, .ty 3)])], [(2, .ty 4)]⟩
  | 12 => some ⟨true, [], [(8, 3), (8, 4), (9, 1), (9, 0), (9, 2), (11, 3), (11, 4)], [(15, [(16, .ty 3), (0, .any), (15, .ty 4), (1, .any), (14, .ty 25), (7, .loc 44), (13, .loc 44), (11, .ty 25), (10, .loc 44)]), (19, [(17, .ty 3), (1, .any), (15, .ty 4), (14, .ty 25), (7, .loc 44), (13, .loc 44), (11, .ty 25), (10, .loc 44)])], [(15, [(1, .ty 37), (15, .ty 4), (14, .ty 25), (7, .loc 44), (13, .loc 44), (11, .ty 25), (10, .loc 44)]), (19, [(15, .ty 4), (14, .ty 25), (7, .loc 44), (13, .loc 44), (11, .ty 25), (10, .loc 44)])], [(4, .ty 4)]⟩
  | 13 => some ⟨true, [], [], [], [], [(4, .ty 4)]⟩
  | 14 => some ⟨true, [], [(6, 2), (6, 5)], [], [], [(4, .ty 4)]⟩
  | 15 => some ⟨true, [], [], [], [], [(0, .ty 4)]⟩
  | 16 => some ⟨true, [], [(13, 6), (13, 0), (13, 7), (16, 6), (16, 0), (16, 7), (0, 0), (2, 0), (8, 0)], [(1000000, [(5, .grow (some 2)), (4, .ty 9), (2, .any), (3, .ty 25)])], [(1000000, [(2, .ty 23), (3, .ty 25)])], [(2, .ty 23), (3, .ty 25)]⟩
  | 17 => some ⟨true, [], [(15, 9), (15, 0), (15, 10), (25, 8), (25, 0), (25, 9), (0, 0), (2, 0), (18, 0)], [(5, [(5, .ty 3), (0, .any), (4, .grow (some 2))]), (12, [(5, .ty 3), (0, .any), (4, .grow (some 2))]), (20, [(0, .any), (9, .ty 3), (5, .ty 3), (4, .grow (some 2)), (8, .ty 4)])], [(5, [(4, .grow (some 2))]), (12, [(5, .ty 3), (0, .ty 22), (4, .grow (some 2))]), (20, [(0, .ty 22), (9, .ty 3), (5, .ty 3), (4, .grow (some 2))])], [(2, .ty 23), (3, .ty 25)]⟩
  | 18 => some ⟨true, [], [], [(4, [(5, .ty 3), (1, .any), (0, .any)])], [(4, [])], [(4, .ty 4)]⟩
  | 19 => some ⟨true, [], [(7, 2), (7, 0), (7, 3), (8, 3), (8, 0), (8, 6), (0, 0)], [(4, [(9, .ty 3), (3, .grow none), (4, .ty 3), (7, .any), (8, .ty 3)])], [(4, [(3, .grow none)])], [(2, .ty 22)]⟩
  | 20 => some ⟨true, [], [(6, 2), (6, 0), (6, 3), (7, 6), (7, 0), (7, 7), (0, 0)], [(3, [(4, .ty 3), (0, .any), (3, .grow none)])], [(3, [(3, .grow none)])], [(2, .ty 22)]⟩
  | 21 => some ⟨true, [], [], [], [], [(0, .ty 4)]⟩
  | 22 => some ⟨true, [15], [(2, 2), (0, 0), (8, 4)], [(3, [(6, .any)])], [(3, [(6, .any)])], [(2, .ty 37), (3, .ty 25)]⟩
  | 23 => some ⟨true, [], [], [(4, [(5, .ty 3), (1, .any), (0, .any)])], [(4, [])], [(4, .ty 4)]⟩
  | 24 => some ⟨true, [], [], [], [], [(2, .ty 4)]⟩
  | 25 => some ⟨true, [], [], [], [], [(2, .ty 4)]⟩
  | 26 => some ⟨true, [], [], [], [], [(6, .ty 4)]⟩
  | 27 => some ⟨true, [], [], [(4, [(3, .ty 3), (0, .any)])], [(4, [])], [(2, .ty 4)]⟩
  | 28 => some ⟨true, [19], [(2, 3)], [], [], [(4, .locA (some 3)), (5, .ty 25)]⟩
  | 29 => some ⟨true, [], [], [(4, [(31, .ty 3), (3, .loc 44), (29, .any), (30, .ty 3)])], [(4, [])], [(4, .ty 4)]⟩
  | 30 => some ⟨true, [3], [], [(3, [(3, .any)])], [], [(2, .ty 3)]⟩
  | 31 => some ⟨true, [], [(0, 0)], [], [], [(0, .ty 37)]⟩
  | 32 => some ⟨true, [17], [(4, 1), (0, 0), (3, 1), (7, 0), (10, 4)], [(5, [(6, .any)])], [(5, [(6, .any)])], [(2, .ty 37), (3, .ty 25)]⟩
  | 33 => some ⟨true, [], [], [], [], [(2, .ty 4)]⟩
  | 34 => some ⟨true, [], [], [], [], [(2, .ty 3)]⟩
  | 35 => some ⟨true, [], [], [], [], [(4, .ty 4)]⟩
  | 36 => some ⟨true, [], [], [], [], [(2, .ty 4)]⟩
  | 37 => some ⟨true, [], [], [(2, [(0, .ty 9), (6, .any)])], [(2, [(0, .ty 9)])], [(2, .ty 3)]⟩
  | 38 => some ⟨true, [], [], [], [], [(2, .ty 4)]⟩
  | 39 => some ⟨true, [], [], [], [], [(2, .ty 4)]⟩
  | 40 => some ⟨false, [], [], [], [], []⟩
  | 41 => some ⟨false, [], [(6, 9), (6, 4), (6, 12)], [], [], []⟩
  | 42 => some ⟨true, [], [], [(4, [(5, .ty 3), (3, .loc 44), (2, .loc 44)])], [(4, [])], [(4, .ty 4)]⟩
  | 43 => some ⟨true, [], [], [(3, [(9, .ty 3), (3, .ty 3), (7, .any), (8, .ty 3)])], [(3, [(3, .ty 3)])], [(2, .ty 3)]⟩
  | 44 => some ⟨false, [4], [], [(4, [(4, .any), (3, .any)])], [], [(4, .any)]⟩
  | 45 => some ⟨true, [], [], [], [], [(4, .ty 4)]⟩
  | 46 => some ⟨true, [], [], [], [], [(2, .ty 4)]⟩
  | 47 => some ⟨false, [], [], [], [], [(6, .ty 4)]⟩
  | 48 => some ⟨true, [], [], [], [], [(6, .ty 4)]⟩
  | 49 => some ⟨false, [], [], [], [], [(2, .locA (some 3))]⟩
  | 50 => some ⟨false, [], [], [], [], [(2, .any)]⟩
  | 51 => some ⟨false, [], [(12, 9), (12, 4), (12, 12)], [(5, [(4, .ty 3), (0, .any), (2, .ty 9)])], [(5, [(2, .ty 9), (0, .any)])], []⟩
  | 52 => some ⟨true, [], [], [], [], [(4, .ty 3)]⟩
  | 53 => some ⟨true, [], [], [(1000001, [(8, .ty 3), (9, .ty 3), (1, .ty 21), (0, .ty 9), (7, .ty 9), (4, .ty 3)]), (5, [(8, .ty 3), (1, .ty 21), (0, .ty 9), (7, .ty 9), (10, .ty 3), (9, .ty 3)]), (1000000, [(8, .ty 3), (1, .ty 21), (0, .ty 9), (7, .ty 9), (9, .ty 3), (10, .ty 3)]), (12, [(8, .ty 3), (1, .ty 21), (0, .ty 9), (7, .ty 9), (9, .ty 3), (10, .ty 3), (12, .ty 3)]), (1000002, [(9, .ty 3), (8, .ty 3), (7, .ty 9), (0, .ty 9), (15, .ty 5), (14, .ty 5)]), (25, [(9, .ty 3), (8, .ty 3), (7, .ty 9), (0, .ty 9), (15, .ty 5), (14, .ty 5)]), (29, [(8, .ty 3), (7, .ty 9), (0, .ty 9), (15, .ty 5), (14, .ty 5), (9, .ty 3), (16, .ty 3)]), (38, [(175, .any)])], [(1000001, [(4, .ty 3)]), (5, [(8, .ty 3), (9, .ty 3), (1, .ty 21), (0, .ty 9), (7, .ty 9)]), (1000000, [(8, .ty 3), (1, .ty 21), (0, .ty 9), (7, .ty 9), (10, .ty 3), (9, .ty 3)]), (12, [(8, .ty 3), (9, .ty 3), (1, .ty 21), (0, .ty 9), (7, .ty 9), (10, .ty 3)]), (1000002, []), (25, []), (29, [(8, .ty 3), (9, .ty 3), (7, .ty 9), (0, .ty 9), (15, .ty 5), (14, .ty 5)]), (38, [])], [(4, .ty 3)]⟩
  | 54 => some ⟨false, [], [], [], [], [(2, .ty 9)]⟩
  | 55 => some ⟨false, [], [], [], [], [(4, .ty 4)]⟩
  | 56 => some ⟨false, [], [], [], [], [(3, .ty 4)]⟩
  | 57 => some ⟨false, [], [], [], [], []⟩
  | 58 => some ⟨true, [], [], [(4, [(3, .ty 3), (1, .loc 44)])], [(4, [])], [(2, .ty 4)]⟩
  | 59 => some ⟨true, [], [], [(3, [(4, .ty 3), (1, .loc 44), (3, .ty 3)])], [(3, [(3, .ty 3)])], [(2, .ty 3)]⟩
  | 60 => some ⟨true, [], [], [(3, [(4, .ty 3), (3, .ty 3), (1, .loc 44)])], [(3, [(3, .ty 3)])], [(2, .ty 3)]⟩
  | 61 => some ⟨false, [], [], [], [], [(6, .locA (some 3))]⟩
  | 62 => some ⟨false, [], [], [], [], []⟩
  | 63 => some ⟨false, [], [], [(4, [(18, .ty 3), (2, .any), (3, .loc 44), (1, .ty 3), (16, .any), (17, .ty 3)])], [(4, [])], [(6, .ty 4)]⟩
  | 64 => some ⟨false, [], [], [], [], [(2, .ty 9)]⟩
  | 65 => some ⟨true, [], [], [], [], [(2, .ty 4)]⟩
  | 66 => some ⟨false, [], [], [], [], []⟩
  | 67 => some ⟨false, [], [], [], [], []⟩
  | 68 => some ⟨false, [], [], [], [], [(2, .locA (some 3))]⟩
  | 69 => some ⟨true, [], [], [], [], [(4, .ty 3)]⟩
  | 70 => some ⟨true, [], [], [], [], [(2, .ty 4)]⟩
  | 71 => some ⟨true, [], [], [], [], [(2, .ty 3)]⟩
  | 73 => some ⟨false, [], [], [], [], [(4, .ty 9)]⟩
  | 74 => some ⟨false, [], [], [], [], [(2, .ty 4)]⟩
  | 75 => some ⟨false, [], [], [(2, [(8, .ty 3), (0, .any), (1, .any), (7, .ty 3)])], [(2, [])], [(4, .ty 3)]⟩
  | 76 => some ⟨false, [], [], [], [], [(4, .ty 4)]⟩
  | 77 => some ⟨false, [], [(1, 9)], [], [], [(8, .locA (some 3))]⟩
  | 78 => some ⟨false, [], [(10, 7), (10, 1), (10, 9), (8, 3)], [(9, [(8, .dloc (some 3) [.ct .int, .ct .int, .grow (some 3)]), (2, .ty 3), (1, .any), (0, .any), (6, .locA (some 3))])], [(9, [(6, .locA (some 3)), (8, .dloc (some 3) [.ct .int, .ct .int, .grow (some 3)])])], [(6, .locA (some 3))]⟩
  | 79 => some ⟨true, [], [], [], [], [(2, .ty 4)]⟩
  | 80 => some ⟨false, [], [], [], [], [(4, .ty 4)]⟩
  | 81 => some ⟨false, [], [(12, 2), (12, 5), (18, 2), (18, 5)], [], [], [(6, .locA (some 3))]⟩
  | 82 => some ⟨true, [], [], [], [], [(2, .ty 4)]⟩
  | 84 => some ⟨false, [], [], [], [], [(4, .locA (some 3))]⟩
  | 85 => some ⟨false, [], [], [], [], [(6, .locA (some 3))]⟩
  | 86 => some ⟨false, [], [(5, 1), (10, 0), (12, 1), (13, 1)], [(2, [(6, .locA (some 3)), (11, .ty 3), (4, .loc 9), (2, .any), (0, .any), (10, .ty 3)])], [(2, [(6, .locA (some 3)), (0, .any), (4, .loc 9)])], [(6, .locA (some 3))]⟩
  | 87 => some ⟨false, [], [], [], [], [(6, .locA (some 3))]⟩
  | 88 => some ⟨false, [], [(21, 7), (21, 1), (21, 9), (25, 7), (25, 1), (25, 9), (16, 3)], [(18, [(0, .any), (12, .dloc (some 3) [.ct .int, .ct .int, .grow (some 3)]), (2, .ty 3), (1, .any), (6, .locA (some 3)), (13, .ty 4)])], [(18, [(6, .locA (some 3)), (12, .dloc (some 3) [.ct .int, .ct .int, .grow (some 3)])])], [(6, .locA (some 3))]⟩
  | 89 => some ⟨true, [], [], [(19, [(3, .ty 3), (1, .loc 44)])], [(19, [])], [(2, .ty 4)]⟩
  | 90 => some ⟨false, [], [], [], [], [(3, .ty 4)]⟩
  | 91 => some ⟨true, [], [], [], [], [(2, .ty 4)]⟩
  | 92 => some ⟨false, [], [], [], [], [(6, .locA (some 3))]⟩
  | 93 => some ⟨false, [], [], [], [], [(2, .ty 4)]⟩
  | 94 => some ⟨false, [], [(5, 5), (12, 1), (13, 1), (15, 0)], [(2, [(6, .locA (some 3)), (7, .ty 3), (2, .any), (1, .ty 9), (0, .any)]), (7, [(6, .locA (some 3)), (8, .ty 3), (0, .any), (1, .ty 9)])], [(2, [(6, .locA (some 3)), (0, .any), (1, .ty 9)]), (7, [(6, .locA (some 3)), (0, .any)])], [(6, .locA (some 3))]⟩
  | 95 => some ⟨true, [1], [], [(3, [(1, .any)])], [], [(2, .locA (some 3))]⟩
  | 96 => some ⟨true, [], [], [], [], [(2, .ty 4)]⟩
  | 97 => some ⟨false, [1], [], [], [], [(2, .any)]⟩
  | 98 => some ⟨true, [], [(3, 6), (3, 0), (3, 7), (0, 1)], [(2, [(1, .loc 44), (4, .grow (some 3)), (3, .locA (some 3))])], [(2, [(3, .locA (some 3)), (1, .loc 44), (4, .grow (some 3))])], [(2, .ty 42), (3, .locA (some 3))]⟩
  | 99 => some ⟨false, [], [], [(0, [(1, .any), (0, .any)])], [(0, [])], []⟩
  | _ => none

def cfg : Cfg := Cfg.of hints [86, 94] []
end Go.Proofs.LP

/-! Tokens of a text, as plain Lean. -/
namespace Go.Ama

abbrev Bytes := List UInt8
abbrev Tok := Int × Bytes

def blank (c : UInt8) : Bool := c == 32 || c == 9 || c == 10
def mark (c : UInt8) : Bool := c == 40 || c == 41 || c == 91 || c == 93 || c == 123 || c == 125 || c == 58 || c == 46
def named (c : UInt8) : Bool := (decide (97 ≤ c) && decide (c ≤ 122)) || (decide (65 ≤ c) && decide (c ≤ 90)) || (decide (48 ≤ c) && decide (c ≤ 57)) || c == 95 || c == 39
def inLine (c : UInt8) : Bool := c != 10

theorem length_dropWhile_le {α : Type} (p : α → Bool) : ∀ l : List α, (l.dropWhile p).length ≤ l.length
  | [] => Nat.le_refl _
  | x :: l => by
    rw [List.dropWhile_cons]
    split
    · have := length_dropWhile_le p l; simp; omega
    · exact Nat.le_refl _

/-- Tokens of a text; none: it has none. -/
def toks : Bytes → Option (List Tok)
  | [] => some []
  | c :: r =>
    if blank c then toks r
    else if c == 37 then toks (r.dropWhile inLine)
    else if mark c then (toks r).map ((1, [c]) :: ·)
    else if named c then (toks (r.dropWhile named)).map ((0, c :: r.takeWhile named) :: ·)
    else none
termination_by l => l.length
decreasing_by
  all_goals first
    | (simp; done)
    | (have := length_dropWhile_le inLine r; simp; omega)
    | (have := length_dropWhile_le named r; simp; omega)

/-- The text of tokens, behind one of a kind. -/
def textFrom : Int → List Tok → Bytes
  | _, [] => []
  | last, (k, s) :: l => (if k = 0 ∧ last = 0 then [32] else []) ++ s ++ textFrom k l
def text (l : List Tok) : Bytes := textFrom 1 l

theorem toks_nil : toks [] = some [] := by unfold toks; rfl
theorem toks_blank {c : UInt8} (r : Bytes) (h : blank c = true) : toks (c :: r) = toks r := by rw [toks, if_pos h]
theorem toks_note {c : UInt8} (r : Bytes) (h : c = 37) : toks (c :: r) = toks (r.dropWhile inLine) := by subst h; rw [toks, if_neg (by decide), if_pos (by decide)]
theorem mark_facts {c : UInt8} (h : mark c = true) : blank c = false ∧ (c == 37) = false ∧ named c = false := by
  simp only [mark, Bool.or_eq_true, beq_iff_eq] at h
  rcases h with ((((((h | h) | h) | h) | h) | h) | h) | h <;> subst h <;> decide
theorem byteAll {p : UInt8 → Prop} (h : ∀ n : Fin 256, p (UInt8.ofNat n.val)) (c : UInt8) : p c := by
  have := h ⟨c.toNat, c.toNat_lt⟩
  simpa using this
theorem named_all : ∀ n : Fin 256, named (UInt8.ofNat n.val) = true → blank (UInt8.ofNat n.val) = false ∧ (UInt8.ofNat n.val == 37) = false ∧ mark (UInt8.ofNat n.val) = false ∧ inLine (UInt8.ofNat n.val) = true := by decide +kernel
theorem named_facts {c : UInt8} (h : named c = true) : blank c = false ∧ (c == 37) = false ∧ mark c = false ∧ inLine c = true := by
  exact byteAll (p := fun c => named c = true → blank c = false ∧ (c == 37) = false ∧ mark c = false ∧ inLine c = true) named_all c h
theorem toks_mark {c : UInt8} (r : Bytes) (h : mark c = true) : toks (c :: r) = (toks r).map ((1, [c]) :: ·) := by
  obtain ⟨h1, h2, _⟩ := mark_facts h
  rw [toks, if_neg (by simp [h1]), if_neg (by simp [h2]), if_pos h]
theorem toks_name {c : UInt8} (r : Bytes) (h : named c = true) : toks (c :: r) = (toks (r.dropWhile named)).map ((0, c :: r.takeWhile named) :: ·) := by
  obtain ⟨h1, h2, h3, _⟩ := named_facts h
  rw [toks, if_neg (by simp [h1]), if_neg (by simp [h2]), if_neg (by simp [h3]), if_pos h]
theorem toks_bad {c : UInt8} (r : Bytes) (h1 : blank c = false) (h2 : (c == 37) = false) (h3 : mark c = false) (h4 : named c = false) : toks (c :: r) = none := by
  rw [toks, if_neg (by simp [h1]), if_neg (by simp [h2]), if_neg (by simp [h3]), if_neg (by simp [h4])]

/-- By the form of a text. -/
theorem bytes_ind {p : Bytes → Prop} (h0 : p []) (h1 : ∀ c r, blank c = true → p r → p (c :: r)) (h2 : ∀ r, p (r.dropWhile inLine) → p (37 :: r)) (h3 : ∀ c r, mark c = true → p r → p (c :: r))
    (h4 : ∀ c r, named c = true → p (r.dropWhile named) → p (c :: r)) (h5 : ∀ c r, blank c = false → (c == 37) = false → mark c = false → named c = false → p (c :: r)) : ∀ l, p l := by
  intro l
  generalize hn : l.length = n
  induction n using Nat.strongRecOn generalizing l with
  | _ n ih =>
    subst hn
    cases l with
    | nil => exact h0
    | cons c r =>
      cases b1 : blank c with
      | true => exact h1 c r b1 (ih r.length (by simp) r rfl)
      | false =>
        cases b2 : c == 37 with
        | true =>
          rw [beq_iff_eq] at b2; subst b2
          exact h2 r (ih _ (by have := length_dropWhile_le inLine r; simp; omega) _ rfl)
        | false =>
          cases b3 : mark c with
          | true => exact h3 c r b3 (ih r.length (by simp) r rfl)
          | false =>
            cases b4 : named c with
            | true => exact h4 c r b4 (ih _ (by have := length_dropWhile_le named r; simp; omega) _ rfl)
            | false => exact h5 c r b1 b2 b3 b4

/-- What a token looks like. -/
def okTok (t : Tok) : Prop := (t.1 = 1 ∧ ∃ c, t.2 = [c] ∧ mark c = true) ∨ (t.1 = 0 ∧ t.2 ≠ [] ∧ ∀ c ∈ t.2, named c = true)

theorem mem_takeWhile {α : Type} {p : α → Bool} : ∀ {l : List α} {x : α}, x ∈ l.takeWhile p → p x = true
  | [], _, h => by simp at h
  | y :: l, x, h => by
    rw [List.takeWhile_cons] at h
    split at h
    · rename_i hy
      rcases List.mem_cons.1 h with rfl | h
      · exact hy
      · exact mem_takeWhile h
    · simp at h

theorem toks_ok : ∀ (b : Bytes) (l : List Tok), toks b = some l → ∀ t ∈ l, okTok t := by
  refine bytes_ind ?_ ?_ ?_ ?_ ?_ ?_
  · intro l h t ht; rw [toks_nil] at h; cases h; simp at ht
  · intro c r hc ih l h; rw [toks_blank r hc] at h; exact ih l h
  · intro r ih l h; rw [toks_note r rfl] at h; exact ih l h
  · intro c r hc ih l h t ht
    rw [toks_mark r hc, Option.map_eq_some_iff] at h
    obtain ⟨l', h, rfl⟩ := h
    rcases List.mem_cons.1 ht with rfl | ht
    · exact .inl ⟨rfl, c, rfl, hc⟩
    · exact ih l' h t ht
  · intro c r hc ih l h t ht
    rw [toks_name r hc, Option.map_eq_some_iff] at h
    obtain ⟨l', h, rfl⟩ := h
    rcases List.mem_cons.1 ht with rfl | ht
    · refine .inr ⟨rfl, by simp, fun x hx => ?_⟩
      rcases List.mem_cons.1 hx with rfl | hx
      · exact hc
      · exact mem_takeWhile hx
    · exact ih l' h t ht
  · intro c r h1 h2 h3 h4 l h; rw [toks_bad r h1 h2 h3 h4] at h; cases h

theorem takeWhile_all {α : Type} {p : α → Bool} : ∀ (a b : List α), (∀ x ∈ a, p x = true) → (∀ x, b.head? = some x → p x = false) → (a ++ b).takeWhile p = a ∧ (a ++ b).dropWhile p = b
  | [], b, _, hb => by
    cases b with
    | nil => exact ⟨rfl, rfl⟩
    | cons x b => simp [List.takeWhile_cons, List.dropWhile_cons, hb x rfl]
  | x :: a, b, ha, hb => by
    obtain ⟨h1, h2⟩ := takeWhile_all a b (fun y hy => ha y (by simp [hy])) hb
    simp [List.takeWhile_cons, List.dropWhile_cons, ha x (by simp), h1, h2]

theorem text_head {k : Int} : ∀ (l : List Tok), (∀ t ∈ l, okTok t) → k = 0 → ∀ x, (textFrom k l).head? = some x → named x = false
  | [], _, _, x, h => by simp [textFrom] at h
  | (j, s) :: l, hl, hk, x, h => by
    subst hk
    rcases hl (j, s) (by simp) with ⟨h1, c, h2, h3⟩ | ⟨h1, h2, h3⟩
    · simp only at h1 h2; subst h1 h2
      have e : (textFrom 0 ((1, [c]) :: l)) = c :: textFrom 1 l := by simp [textFrom]
      rw [e] at h
      simp only [List.head?_cons, Option.some.injEq] at h
      subst h; exact (mark_facts h3).2.2
    · simp only at h1 h2; subst h1
      have e : (textFrom 0 ((0, s) :: l)) = 32 :: (s ++ textFrom 0 l) := by simp [textFrom]
      rw [e] at h
      simp only [List.head?_cons, Option.some.injEq] at h
      subst h; decide

/-- Tokens are read back. -/
theorem toks_textFrom : ∀ (l : List Tok) (k : Int), (∀ t ∈ l, okTok t) → toks (textFrom k l) = some l
  | [], _, _ => toks_nil
  | (j, s) :: l, k, hl => by
    have ih := fun k => toks_textFrom l k fun t ht => hl t (by simp [ht])
    rcases hl (j, s) (by simp) with ⟨h1, c, h2, h3⟩ | ⟨h1, h2, h3⟩
    · simp only at h1 h2; subst h1 h2
      have e : (textFrom k ((1, [c]) :: l)) = c :: textFrom 1 l := by simp [textFrom]
      rw [e, toks_mark _ h3, ih]; rfl
    · simp only at h1 h2; subst h1
      have main : toks (s ++ textFrom 0 l) = some ((0, s) :: l) := by
        cases s with
        | nil => exact absurd rfl h2
        | cons c s =>
          obtain ⟨e1, e2⟩ := takeWhile_all (p := named) s (textFrom 0 l) (fun x hx => h3 x (by simp [hx])) (text_head l (fun t ht => hl t (by simp [ht])) rfl)
          rw [List.cons_append, toks_name _ (h3 c (by simp)), e1, e2, ih]; rfl
      by_cases hk : k = 0
      · have e : (textFrom k ((0, s) :: l)) = 32 :: (s ++ textFrom 0 l) := by simp [textFrom, hk]
        rw [e, toks_blank _ (by decide)]; exact main
      · have e : (textFrom k ((0, s) :: l)) = s ++ textFrom 0 l := by simp [textFrom, hk]
        rw [e]; exact main
theorem toks_text {b : Bytes} {l : List Tok} (h : toks b = some l) : toks (text l) = some l := toks_textFrom l 1 (toks_ok b l h)

/-! ### lengths -/
theorem takeWhile_dropWhile_length {α : Type} (p : α → Bool) (l : List α) : (l.takeWhile p).length + (l.dropWhile p).length = l.length := by
  rw [← List.length_append, List.takeWhile_append_dropWhile]

def weight : List Tok → Nat
  | [] => 0
  | (_, s) :: l => s.length + weight l
theorem toks_weight : ∀ (b : Bytes) (l : List Tok), toks b = some l → weight l ≤ b.length := by
  refine bytes_ind ?_ ?_ ?_ ?_ ?_ ?_
  · intro l h; rw [toks_nil] at h; cases h; simp [weight]
  · intro c r hc ih l h; rw [toks_blank r hc] at h; have := ih l h; simp; omega
  · intro r ih l h; rw [toks_note r rfl] at h; have := ih l h; have := length_dropWhile_le inLine r; simp; omega
  · intro c r hc ih l h
    rw [toks_mark r hc, Option.map_eq_some_iff] at h
    obtain ⟨l', h, rfl⟩ := h
    have := ih l' h; simp [weight]; omega
  · intro c r hc ih l h
    rw [toks_name r hc, Option.map_eq_some_iff] at h
    obtain ⟨l', h, rfl⟩ := h
    have := ih l' h
    have := takeWhile_dropWhile_length named r
    simp [weight]; omega
  · intro c r h1 h2 h3 h4 l h; rw [toks_bad r h1 h2 h3 h4] at h; cases h
theorem length_le_weight : ∀ (l : List Tok), (∀ t ∈ l, okTok t) → l.length ≤ weight l
  | [], _ => by simp [weight]
  | (j, s) :: l, h => by
    have := length_le_weight l fun t ht => h t (by simp [ht])
    have hs : 1 ≤ s.length := by
      rcases h (j, s) (by simp) with ⟨_, c, h2, _⟩ | ⟨_, h2, _⟩
      · simp only at h2; rw [h2]; simp
      · cases s with
        | nil => exact absurd rfl h2
        | cons => simp
    simp [weight]; omega
theorem textFrom_length : ∀ (l : List Tok) (k : Int), (textFrom k l).length ≤ weight l + l.length
  | [], _ => by simp [textFrom]
  | (j, s) :: l, k => by
    have := textFrom_length l j
    simp only [textFrom, weight, List.length_append, List.length_cons]
    split <;> simp <;> omega
theorem text_length {b : Bytes} {l : List Tok} (h : toks b = some l) : (text l).length ≤ 2 * b.length := by
  have h1 := textFrom_length l 1
  have h2 := toks_weight b l h
  have h3 := length_le_weight l (toks_ok b l h)
  unfold text; omega

/-! ### two texts -/
theorem dropWhile_append {α : Type} {p : α → Bool} {x : α} (hx : p x = false) : ∀ (a b : List α), (a ++ x :: b).dropWhile p = a.dropWhile p ++ x :: b ∧ (a ++ x :: b).takeWhile p = a.takeWhile p
  | [], b => by simp [List.dropWhile_cons, List.takeWhile_cons, hx]
  | y :: a, b => by
    obtain ⟨h1, h2⟩ := dropWhile_append hx a b
    rw [List.cons_append, List.dropWhile_cons, List.dropWhile_cons, List.takeWhile_cons, List.takeWhile_cons, h1, h2]
    split <;> simp

/-- A blank between two texts. -/
theorem toks_join (x : UInt8) (hx : blank x = true) (hn : named x = false) : ∀ (a : Bytes), (inLine x = true → (37 : UInt8) ∉ a) → ∀ b : Bytes, toks (a ++ x :: b) = (toks a).bind fun l => (toks b).map (l ++ ·) := by
  refine bytes_ind ?_ ?_ ?_ ?_ ?_ ?_
  · intro _ b; rw [List.nil_append, toks_blank _ hx, toks_nil]; simp
  · intro c r hc ih h b
    rw [List.cons_append, toks_blank _ hc, toks_blank _ hc]
    exact ih (fun hx h' => h hx (by simp [h'])) b
  · intro r ih h b
    have hx2 : inLine x = false := by
      cases e : inLine x with
      | false => rfl
      | true => exact absurd (h e) (by simp)
    obtain ⟨h1, _⟩ := dropWhile_append hx2 r b
    rw [List.cons_append, toks_note _ rfl, toks_note _ rfl, h1]
    exact ih (fun hx => by rw [hx] at hx2; cases hx2) b
  · intro c r hc ih h b
    rw [List.cons_append, toks_mark _ hc, toks_mark _ hc, ih (fun hx h' => h hx (by simp [h'])) b]
    cases toks r <;> cases toks b <;> rfl
  · intro c r hc ih h b
    obtain ⟨h1, h2⟩ := dropWhile_append hn r b
    rw [List.cons_append, toks_name _ hc, toks_name _ hc, h1, h2, ih (fun hx h' => h hx (by simp [(List.dropWhile_sublist _).subset h'])) b]
    cases toks (r.dropWhile named) <;> cases toks b <;> rfl
  · intro c r h1 h2 h3 h4 h b
    rw [List.cons_append, toks_bad _ h1 h2 h3 h4, toks_bad _ h1 h2 h3 h4]; rfl

/-! ### notes -/
def note : Bytes := [32, 9, 37, 32, 97, 32, 40, 110, 111, 116, 101, 10]
def withNotes : Bytes → Bytes
  | [] => []
  | c :: r => if c = 10 then c :: (note ++ withNotes r) else c :: withNotes r
theorem toks_noted (r : Bytes) : toks (note ++ r) = toks r := by
  show toks (32 :: 9 :: 37 :: 32 :: 97 :: 32 :: 40 :: 110 :: 111 :: 116 :: 101 :: 10 :: r) = _
  rw [toks_blank _ (by decide), toks_blank _ (by decide), toks_note _ rfl]
  have : List.dropWhile inLine (32 :: 97 :: 32 :: 40 :: 110 :: 111 :: 116 :: 101 :: 10 :: r) = 10 :: r := by
    simp [List.dropWhile_cons, inLine]
  rw [this, toks_blank _ (by decide)]
theorem withNotes_drop (p : UInt8 → Bool) (hp : p 10 = false) : ∀ r, (withNotes r).dropWhile p = withNotes (r.dropWhile p) ∧ (withNotes r).takeWhile p = r.takeWhile p
  | [] => ⟨rfl, rfl⟩
  | c :: r => by
    obtain ⟨h1, h2⟩ := withNotes_drop p hp r
    by_cases hc : c = 10
    · subst hc; simp [withNotes, List.dropWhile_cons, List.takeWhile_cons, hp]
    · have e : withNotes (c :: r) = c :: withNotes r := by simp [withNotes, hc]
      rw [e, List.dropWhile_cons, List.dropWhile_cons, List.takeWhile_cons, List.takeWhile_cons, h1, h2]
      split
      · exact ⟨rfl, rfl⟩
      · exact ⟨e.symm, rfl⟩
theorem toks_withNotes : ∀ b, toks (withNotes b) = toks b := by
  refine bytes_ind rfl ?_ ?_ ?_ ?_ ?_
  · intro c r hc ih
    by_cases h : c = 10
    · subst h
      have e : withNotes (10 :: r) = 10 :: (note ++ withNotes r) := by simp [withNotes]
      rw [e, toks_blank _ hc, toks_noted, ih, toks_blank _ hc]
    · have e : withNotes (c :: r) = c :: withNotes r := by simp [withNotes, h]
      rw [e, toks_blank _ hc, ih, toks_blank _ hc]
  · intro r ih
    have e : withNotes (37 :: r) = 37 :: withNotes r := by simp [withNotes]
    rw [e, toks_note _ rfl, (withNotes_drop inLine (by decide) r).1, ih, toks_note _ rfl]
  · intro c r hc ih
    have h : c ≠ 10 := by rintro rfl; simp [mark] at hc
    have e : withNotes (c :: r) = c :: withNotes r := by simp [withNotes, h]
    rw [e, toks_mark _ hc, ih, toks_mark _ hc]
  · intro c r hc ih
    have h : c ≠ 10 := by rintro rfl; simp [named] at hc
    have e : withNotes (c :: r) = c :: withNotes r := by simp [withNotes, h]
    obtain ⟨h1, h2⟩ := withNotes_drop named (by decide) r
    rw [e, toks_name _ hc, h1, h2, ih, toks_name _ hc]
  · intro c r h1 h2 h3 h4
    have h : c ≠ 10 := by rintro rfl; simp [blank] at h1
    have e : withNotes (c :: r) = c :: withNotes r := by simp [withNotes, h]
    rw [e, toks_bad _ h1 h2 h3 h4, toks_bad _ h1 h2 h3 h4]

/-- What stands behind a percent sign does not matter. -/
theorem toks_percent (a n b : Bytes) (ha : (37 : UInt8) ∉ a) (hn : ∀ c ∈ n, c ≠ 10) : toks (a ++ 32 :: 37 :: (n ++ 10 :: b)) = toks (a ++ 10 :: b) := by
  rw [toks_join 32 (by decide) (by decide) a (fun _ => ha), toks_join 10 (by decide) (by decide) a (fun h => by simp [inLine] at h)]
  have : toks (37 :: (n ++ 10 :: b)) = toks b := by
    have h2 := (takeWhile_all (p := inLine) n (10 :: b) (fun x hx => by simp [inLine, hn x hx]) (fun x hx => by simp at hx; subst hx; decide)).2
    rw [toks_note _ rfl, h2, toks_blank _ (by decide)]
  rw [this]

/-! ### the bytes of tokens -/
def allOf : List Tok → Bytes
  | [] => []
  | (_, s) :: l => s ++ allOf l
theorem filter_named (r : Bytes) : (r.takeWhile named).filter (fun c => !blank c) = r.takeWhile named := by
  rw [List.filter_eq_self]
  intro c hc
  simp [(named_facts (mem_takeWhile hc)).1]
theorem toks_all : ∀ (b : Bytes), (37 : UInt8) ∉ b → ∀ l, toks b = some l → allOf l = b.filter fun c => !blank c := by
  refine bytes_ind ?_ ?_ ?_ ?_ ?_ ?_
  · intro _ l h; rw [toks_nil] at h; cases h; rfl
  · intro c r hc ih h l hl
    rw [toks_blank r hc] at hl
    rw [ih (fun h' => h (by simp [h'])) l hl, List.filter_cons, hc]; rfl
  · intro r _ h; simp at h
  · intro c r hc ih h l hl
    rw [toks_mark r hc, Option.map_eq_some_iff] at hl
    obtain ⟨l', hl, rfl⟩ := hl
    rw [List.filter_cons, (mark_facts hc).1, ← ih (fun h' => h (by simp [h'])) l' hl]; rfl
  · intro c r hc ih h l hl
    rw [toks_name r hc, Option.map_eq_some_iff] at hl
    obtain ⟨l', hl, rfl⟩ := hl
    have h2 := ih (fun h' => h (by simp [(List.dropWhile_sublist _).subset h'])) l' hl
    have h3 : r.filter (fun c => !blank c) = r.takeWhile named ++ (r.dropWhile named).filter fun c => !blank c := by
      conv => lhs; rw [← List.takeWhile_append_dropWhile (p := named) (l := r)]
      rw [List.filter_append, filter_named]
    rw [List.filter_cons, (named_facts hc).1, h3, ← h2]; rfl
  · intro c r h1 h2 h3 h4 _ l h; rw [toks_bad r h1 h2 h3 h4] at h; cases h

/-! ### one byte, many times -/
theorem toks_replicate (c : UInt8) : ∀ n, 1 ≤ n → (toks (List.replicate n c)).isSome = (toks [c]).isSome := by
  intro n hn
  by_cases h : blank c = true ∨ mark c = true
  · have one : (toks [c]).isSome = true := by
      rcases h with h | h
      · rw [toks_blank _ h, toks_nil]; rfl
      · rw [toks_mark _ h, toks_nil]; rfl
    have all : ∀ n, (toks (List.replicate n c)).isSome = true := by
      intro n
      induction n with
      | zero => rw [List.replicate_zero, toks_nil]; rfl
      | succ n ih =>
        rw [List.replicate_succ]
        rcases h with h | h
        · rw [toks_blank _ h]; exact ih
        · rw [toks_mark _ h, Option.isSome_map]; exact ih
    rw [one, all]
  · obtain ⟨n, rfl⟩ : ∃ m, n = m + 1 := ⟨n - 1, by omega⟩
    rw [not_or] at h
    rw [List.replicate_succ]
    cases h2 : c == 37 with
    | true =>
      rw [beq_iff_eq] at h2; subst h2
      rw [toks_note _ rfl, toks_note _ rfl]
      have : ∀ n, List.dropWhile inLine (List.replicate n (37 : UInt8)) = [] := by
        intro n
        induction n with
        | zero => rfl
        | succ n ih => rw [List.replicate_succ, List.dropWhile_cons]; exact ih
      rw [this]; rfl
    | false =>
      cases h3 : named c with
      | true =>
        rw [toks_name _ h3, toks_name _ h3, Option.isSome_map, Option.isSome_map]
        have : ∀ n, List.dropWhile named (List.replicate n c) = [] := by
          intro n
          induction n with
          | zero => rfl
          | succ n ih => rw [List.replicate_succ, List.dropWhile_cons, if_pos h3]; exact ih
        rw [this]; rfl
      | false => rw [toks_bad _ (by simpa using h.1) h2 (by simpa using h.2) h3, toks_bad _ (by simpa using h.1) h2 (by simpa using h.2) h3]
end Go.Ama

/-! Bytes, strings and tokens as tree values. -/
namespace Go.Ama
open Go Go.AM

def ba (l : Bytes) : ByteArray := ⟨l.toArray⟩
def encB (l : Bytes) : List V := l.map fun b => .ik .u8 (b.toNat : Int)
def encTok (t : Tok) : V := .agg [.int t.1, .str (ba t.2)]
def encToks (l : List Tok) : List V := l.map encTok

theorem ba_data (s : ByteArray) : ba s.data.toList = s := by cases s; simp [ba]
theorem ba_inj {a b : Bytes} : ba a = ba b ↔ a = b := by
  constructor
  · intro h
    have : (ba a).data.toList = (ba b).data.toList := by rw [h]
    simpa [ba] using this
  · rintro rfl; rfl
theorem ba_size (l : Bytes) : (ba l).size = l.length := by simp [ba, ByteArray.size]
theorem ba_toList (l : Bytes) : (ba l).toList = l := by rw [ByteArray.toList_eq]; simp [ba]
theorem ba_dl (l : Bytes) : (ba l).data.toList = l := by simp [ba]
theorem ba_append (a b : Bytes) : ba a ++ ba b = ba (a ++ b) := by
  apply ByteArray.ext
  simp [ba, ByteArray.data_append]
theorem ba_extract (l : Bytes) (i j : Nat) : (ba l).extract i j = ba ((l.take j).drop i) := by
  apply ByteArray.ext
  simp [ba, ByteArray.data_extract, List.drop_take]
theorem ba_eq (a b : Bytes) : ((ba a).toList == (ba b).toList) = decide (a = b) := by
  rw [ba_toList, ba_toList]
  by_cases h : a = b <;> simp [h]
theorem bytesV_ba (l : Bytes) : bytesV (ba l) = encB l := by simp [bytesV, ba, encB]
theorem strV_encB (l : Bytes) : strV (encB l) = ba l := by
  unfold strV encB ba
  congr 1
  rw [List.map_map]
  congr 1
  conv => rhs; rw [← List.map_id l]
  apply List.map_congr_left
  intro b _
  simp [byteOfV]
theorem isU8_encB (l : Bytes) : (encB l).all isU8 = true := by
  rw [List.all_eq_true]
  intro v hv
  obtain ⟨b, _, rfl⟩ := List.mem_map.1 hv
  rfl
@[simp] theorem encB_length (l : Bytes) : (encB l).length = l.length := by simp [encB]
theorem encB_append (a b : Bytes) : encB (a ++ b) = encB a ++ encB b := by simp [encB]
theorem encB_take (l : Bytes) (n : Nat) : (encB l).take n = encB (l.take n) := by simp [encB, List.map_take]
theorem encB_drop (l : Bytes) (n : Nat) : (encB l).drop n = encB (l.drop n) := by simp [encB, List.map_drop]
@[simp] theorem encToks_length (l : List Tok) : (encToks l).length = l.length := by simp [encToks]
theorem encToks_append (a b : List Tok) : encToks (a ++ b) = encToks a ++ encToks b := by simp [encToks]
theorem getI_encB {l : Bytes} {i : Nat} (h : i < l.length) : getI (encB l) (i : Int) = .ik .u8 (l[i].toNat : Int) := by
  simp [getI, encB, List.getD_eq_getElem?_getD, List.getElem?_map, h]
theorem getI_encToks {l : List Tok} {i : Nat} (h : i < l.length) : getI (encToks l) (i : Int) = encTok l[i] := by
  simp [getI, encToks, List.getD_eq_getElem?_getD, List.getElem?_map, h]
theorem below_encB (n : Nat) : ∀ l : Bytes, belowL n (encB l) = true
  | [] => rfl
  | b :: l => by
    have := below_encB n l
    simp only [encB] at this
    simp [encB, belowL, below, this]
theorem below_encToks (n : Nat) : ∀ l : List Tok, belowL n (encToks l) = true
  | [] => rfl
  | t :: l => by
    have := below_encToks n l
    simp only [encToks] at this
    simp [encToks, encTok, belowL, below, this]
theorem byteAt {l : Bytes} {i : Nat} (h : i < l.length) : ((ba l).data.toList.getD i 0) = l[i] := by
  rw [ba_dl, List.getD_eq_getElem?_getD, List.getElem?_eq_getElem h]; rfl
theorem bulk_encB : ∀ l : Bytes, bulkL (encB l) = l.length
  | [] => rfl
  | b :: l => by
    have := bulk_encB l
    simp only [encB] at this
    simp only [encB, List.map_cons, bulkL, bulkV, List.length_cons, this]; omega
theorem bulk_encToks : ∀ l : List Tok, bulkL (encToks l) = weight l + 3 * l.length
  | [] => rfl
  | (k, s) :: l => by
    have := bulk_encToks l
    simp only [encToks] at this
    simp only [encToks, encTok, List.map_cons, bulkL, bulkV, List.length_cons, weight, this, ba_size]; omega
theorem get!_ba {l : Bytes} {i : Nat} (h : i < l.length) : (ba l).get! i = l[i] := by
  show (ba l).data[i]! = l[i]
  have : (ba l).data = l.toArray := rfl
  rw [this, getElem!_pos l.toArray i (by simpa using h)]
  simp
theorem decode_lt {l : Bytes} {i : Nat} (h : i < l.length) (h1 : l[i] < 128) : Utf8.decode (ba l) i = (l[i].toNat, 1) := by
  have e : ((ba l).get! (i + 0)).toNat = l[i].toNat := by rw [Nat.add_zero, get!_ba h]
  have h2 : l[i].toNat < 128 := by simpa [UInt8.lt_iff_toNat_lt] using h1
  unfold Utf8.decode
  simp only [e]
  rw [if_pos h2]
theorem decode_ge {l : Bytes} {i : Nat} (h : i < l.length) (h1 : 128 ≤ l[i]) : 128 ≤ (Utf8.decode (ba l) i).1 := by
  have e : ((ba l).get! (i + 0)).toNat = l[i].toNat := by rw [Nat.add_zero, get!_ba h]
  have h2 : ¬ l[i].toNat < 128 := by
    have : 128 ≤ l[i].toNat := by simpa [UInt8.le_iff_toNat_le] using h1
    omega
  unfold Utf8.decode
  simp only [e]
  rw [if_neg h2]
  split
  · split
    · simpa using ‹_›
    · simp [Utf8.runeError]
  · split
    · split
      · rename_i h; simp at h; simp; omega
      · simp [Utf8.runeError]
    · split
      · split
        · rename_i h; simp at h; simp; omega
        · simp [Utf8.runeError]
      · simp [Utf8.runeError]
end Go.Ama

/-! What the program's functions come to, by all the fuel. -/
namespace Go.Proofs.LP
open Go Go.AM Go.Ama

theorem extLim : ExtLim (fun _ => none) := fun f x h => by cases h
theorem extOK : ExtOK Try.prog cfg (fun _ => none) := fun f x h => by cases h
/-- All that the program's functions say. -/
noncomputable abbrev W : Oracle := Om Try.prog cfg (fun _ => none)
theorem C (f : Nat) (args : List V) (st : St) : W.call f args st = callBody Try.prog cfg W f args st := om_call extLim f args st
theorem L (f key : Nat) (vals : List V) (st : St) : W.loop f key vals st = loopBody Try.prog cfg W f key vals st := om_loop extLim f key vals st
theorem Rd (l f key : Nat) (vals args : List V) (st : St) : W.round l f key vals args st = roundBody Try.prog cfg W l f key vals args st := om_round extLim l f key vals args st

/-- A function of nothing but its arguments. -/
def Ev (f : Nat) (args : List V) (v : V) : Prop := W.call f args [] = some (.ret v, [])
theorem Ev.p {f : Nat} {args : List V} {v : V} (h : Ev f args v) (h1 : belowL 0 args = true := by simp [belowL, below]) (h2 : below 0 v = true := by simp [below, belowL]) : pcall W f args = some v := pcall_of h h1 h2

/-- What so much fuel tells. -/
noncomputable def checkB (m f : Nat) (args : List V) : Option Bool :=
  match (fuelO Try.prog cfg (fun _ => none) m).call f args [] with
  | some (.ret (.bool b), []) => some b
  | _ => none
theorem Ev.of_check {m f : Nat} {args : List V} {b : Bool} (h : checkB m f args = some b) : Ev f args (.bool b) := by
  unfold checkB at h
  split at h
  · rename_i b' hc
    cases h
    exact evt_const ((fuel_om extLim m).call _ _ _ _ hc)
  · cases h
end Go.Proofs.LP

namespace Go.Proofs.LP
open Go Go.AM
set_option maxRecDepth 20000

theorem e_law13_LexTells (O : Oracle) (l0 : (List V)) (l1 : (List V)) : callBody Try.prog cfg O 3 [.vec .plain none l0, .vec .plain (some 2) l1] [] =
  obind (pcall O 15 []) fun r1 => onBool r1 fun b2 => bc (!b2) (some (Out.ret (V.bool b2), [])) (bc (decide ((↑l0.length : Int) > 30000)) (some (Out.ret (V.bool b2), []))
  (bc (decide ((↑l1.length : Int) > 200)) (some (Out.ret (V.bool b2), [])) (obind (pcall O 16 [V.vec .plain none l0]) fun r3 => onTup r3 fun c4 => onCons c4 fun v5 c6 =>
  onVec (some 2) v5 fun l7 => onCons c6 fun v8 c9 => onInt v8 fun n10 => onNil c9 (obind (pcall O 17 [V.vec .plain none l0]) fun r11 => onTup r11 fun c12 => onCons c12
  fun v13 c14 => onVec (some 2) v13 fun l15 => onCons c14 fun v16 c17 => onInt v16 fun n18 => onNil c17 (obind (pcall O 18 [V.vec .plain (some 2) l7, V.vec .plain (some 2)
  l15]) fun r19 => onBool r19 fun b20 => bc b20 (bc (n10 == n18) (obind (pcall O 19 [V.vec .plain (some 2) l1]) fun r21 => onVec none r21 fun l22 => gd (l22.all isU8) (obind
  (pcall O 20 [V.vec .plain (some 2) l1]) fun r23 => onVec none r23 fun l24 => gd (l24.all isU8) (some (Out.ret (V.bool ((strV l22).toList == (strV l24).toList)), []))))
  (some (Out.ret (V.bool false), []))) (some (Out.ret (V.bool false), []))))))) := by kernel_rfl

theorem e_law13_LexBack (O : Oracle) (l0 : (List V)) : callBody Try.prog cfg O 4 [.vec .plain none l0] [] =
  obind (pcall O 15 []) fun r1 => onBool r1 fun b2 => bc (!b2) (some (Out.ret (V.bool b2), [])) (bc (decide ((↑l0.length : Int) > 5000)) (some (Out.ret (V.bool b2), []))
  (obind (pcall O 16 [V.vec .plain none l0]) fun r3 => onTup r3 fun c4 => onCons c4 fun v5 c6 => onVec (some 2) v5 fun l7 => onCons c6 fun v8 c9 => onInt v8 fun n10 =>
  onNil c9 (bc (n10 != 0) (some (Out.ret (V.bool ((↑l7.length : Int) == 0)), [])) (obind (pcall O 19 [V.vec .plain (some 2) l7]) fun r11 => onVec none r11 fun l12 => obind
  (pcall O 16 [V.vec .plain none l12]) fun r13 => onTup r13 fun c14 => onCons c14 fun v15 c16 => onVec (some 2) v15 fun l17 => onCons c16 fun v18 c19 => onInt v18 fun n20
  => onNil c19 (obind (pcall O 18 [V.vec .plain (some 2) l7, V.vec .plain (some 2) l17]) fun r21 => onBool r21 fun b22 => obind (O.loop 4 11 [V.int 0, V.vec
  .plain none l0, V.vec Mode.grow none [], V.bool b22, V.int n20, V.vec .plain (some 2) l7] []) fun r23 => onEx r23.fst none none (fun i24 => bc (i24.beq 0) (onCons r23.snd.fst fun
  v25 c26 => onBool v25 fun b27 => onCons c26 fun v28 c29 => onInt v28 fun n30 => onCons c29 fun v31 c32 => onVec (some 2) v31 fun l33 => onCons c32 fun v34 c35 => onRoom none v34
  fun l36 => onNil c35 (bc (decide ((↑l36.length : Int) > 20000)) (bc (n30 == 0) (some (Out.ret (V.bool b27), [])) (some (Out.ret (V.bool false), []))) (obind (pcall O 16
  [V.vec .plain none l36]) fun r37 => onTup r37 fun c38 => onCons c38 fun v39 c40 => onVec (some 2) v39 fun l41 => onCons c40 fun v42 c43 => onInt v42 fun n44 => onNil c43 (obind
  (pcall O 18 [V.vec .plain (some 2) l33, V.vec .plain (some 2) l41]) fun r45 => onBool r45 fun b46 => bc (n30 == 0) (bc b27 (bc (n44 == 0) (some (Out.ret (V.bool b46),
  [])) (some (Out.ret (V.bool false), []))) (some (Out.ret (V.bool false), []))) (some (Out.ret (V.bool false), [])))))) none) fun v47 => none))))) := by kernel_rfl

theorem e_law13_LexBack_L11 (O : Oracle) (n0 : Int) (l1 : (List V)) (l2 : (List V)) (b3 : Bool) (n4 : Int) (l5 : (List V)) : loopBody Try.prog cfg O 4 11 [.int n0, .vec .plain none l1, .vec .grow none l2, .bool b3, .int n4, .vec .plain (some 2) l5] [] =
  bc (decide (n0 < (↑l1.length : Int))) (gd (decide (0 ≤ n0) && decide (n0 < (↑l1.length : Int))) (onIk IntKind.u8 (getI l1 n0) fun n1 => gd (true && roomFor Try.prog 5
  (l2.length + [V.ik IntKind.u8 n1].length)) (gd (decide (0 ≤ n0) && decide (n0 < (↑l1.length : Int))) (onIk IntKind.u8 (getI l1 n0) fun n2 => bc (n2 == 10) (gd (true && roomFor
  Try.prog 5 ((l2 ++ [V.ik IntKind.u8 n1]).length + 12)) (O.2 4 11 [V.int (IntKind.i64.wrap (n0 + 1)), V.vec .plain none l1, V.vec Mode.grow none (l2 ++ [V.ik
  IntKind.u8 n1] ++ [V.ik IntKind.u8 32, V.ik IntKind.u8 9, V.ik IntKind.u8 37, V.ik IntKind.u8 32, V.ik IntKind.u8 97, V.ik IntKind.u8 32, V.ik IntKind.u8 40, V.ik IntKind.u8 110,
  V.ik IntKind.u8 111, V.ik IntKind.u8 116, V.ik IntKind.u8 101, V.ik IntKind.u8 10]), V.bool b3, V.int n4, V.vec .plain (some 2) l5] [])) (O.2 4 11 [V.int
  (IntKind.i64.wrap (n0 + 1)), V.vec .plain none l1, V.vec Mode.grow none (l2 ++ [V.ik IntKind.u8 n1]), V.bool b3, V.int n4, V.vec .plain (some 2) l5] []))))) (some (Ex.exit 0,
  [V.bool b3, V.int n4, V.vec .plain (some 2) l5, V.vec Mode.grow none l2], [])) := by kernel_rfl

theorem e_law13_LexJoins (O : Oracle) (l0 : (List V)) (l1 : (List V)) : callBody Try.prog cfg O 5 [.vec .plain none l0, .vec .plain none l1] [] =
  obind (pcall O 15 []) fun r1 => onBool r1 fun b2 => bc (!b2) (some (Out.ret (V.bool b2), [])) (bc (decide ((↑l0.length : Int) > 5000)) (some (Out.ret (V.bool b2), []))
  (bc (decide ((↑l1.length : Int) > 5000)) (some (Out.ret (V.bool b2), [])) (obind (pcall O 16 [V.vec .plain none l0]) fun r3 => onTup r3 fun c4 => onCons c4 fun v5 c6 =>
  onVec (some 2) v5 fun l7 => onCons c6 fun v8 c9 => onInt v8 fun n10 => onNil c9 (obind (pcall O 16 [V.vec .plain none l1]) fun r11 => onTup r11 fun c12 => onCons c12 fun
  v13 c14 => onVec (some 2) v13 fun l15 => onCons c14 fun v16 c17 => onInt v16 fun n18 => onNil c17 (gd (true && roomFor Try.prog 5 (0 + l0.length)) (gd (true && roomFor
  Try.prog 5 (([] ++ l0).length + 1)) (gd (true && roomFor Try.prog 5 (([] ++ l0 ++ [V.ik IntKind.u8 10]).length + l1.length)) (obind (pcall O 16 [V.vec
  .plain none ([] ++ l0 ++ [V.ik IntKind.u8 10] ++ l1)]) fun r19 => onTup r19 fun c20 => onCons c20 fun v21 c22 => onVec (some 2) v21 fun l23 => onCons c22 fun v24 c25 => onInt v24
  fun n26 => onNil c25 (bc (n10 != 0) (some (Out.ret (V.bool (n26 == 8)), [])) (bc (n18 != 0) (some (Out.ret (V.bool (n26 == 8)), [])) (gd (true && roomFor Try.prog 34 (0
  + l7.length)) (gd (true && roomFor Try.prog 34 (([] ++ l7).length + l15.length)) (obind (pcall O 18 [V.vec .plain (some 2) ([] ++ l7 ++ l15), V.vec .plain
  (some 2) l23]) fun r27 => onBool r27 fun b28 => bc (n26 == 0) (some (Out.ret (V.bool b28), [])) (some (Out.ret (V.bool false), []))))))))))))))) := by kernel_rfl

theorem e_law13_LexMarks (O : Oracle) (l0 : (List V)) : callBody Try.prog cfg O 6 [.vec .plain none l0] [] =
  obind (pcall O 15 []) fun r1 => onBool r1 fun b2 => bc (!b2) (some (Out.ret (V.bool b2), [])) (bc (decide ((↑l0.length : Int) > 5000)) (some (Out.ret (V.bool b2), []))
  (obind (O.loop 6 6 [V.int 0, V.vec .plain none l0, V.vec Mode.grow none []] []) fun r3 => onEx r3.fst none (onCons r3.snd.fst fun v4 c5 => onBool v4 fun b6 => onNil
  c5 (some (Out.ret (V.bool b6), []))) (fun i7 => bc (i7.beq 0) (onCons r3.snd.fst fun v8 c9 => onRoom none v8 fun l10 => onCons c9 fun v11 c12 => onVec none v11 fun l13 => onNil
  c12 (obind (pcall O 16 [V.vec .plain none l13]) fun r14 => onTup r14 fun c15 => onCons c15 fun v16 c17 => onVec (some 2) v16 fun l18 => onCons c17 fun v19 c20 => onInt
  v19 fun n21 => onNil c20 (bc (n21 != 0) (bc (n21 == 8) (some (Out.ret (V.bool ((↑l18.length : Int) == 0)), [])) (some (Out.ret (V.bool false), []))) (obind (O.loop
  6 17 [V.int 0, V.vec .plain (some 2) l18, V.vec Mode.grow none [], V.vec Mode.grow none l10] r3.snd.snd) fun r22 => onEx r22.fst none (onCons r22.snd.fst fun v23
  c24 => onBool v23 fun b25 => onNil c24 (some (Out.ret (V.bool b25), []))) (fun i26 => bc (i26.beq 2) (onCons r22.snd.fst fun v27 c28 => onRoom none v27 fun l29 => onCons c28 fun
  v30 c31 => onRoom none v30 fun l32 => onNil c31 (gd (l32.all isU8) (gd (l29.all isU8) (some (Out.ret (V.bool ((strV l32).toList == (strV l29).toList)), []))))) none) fun v33 =>
  none)))) none) fun v34 => none)) := by kernel_rfl

theorem e_law13_LexMarks_L6 (O : Oracle) (n0 : Int) (l1 : (List V)) (l2 : (List V)) : loopBody Try.prog cfg O 6 6 [.int n0, .vec .plain none l1, .vec .grow none l2] [] =
  bc (decide (n0 < (↑l1.length : Int))) (gd (decide (0 ≤ n0) && decide (n0 < (↑l1.length : Int))) (onIk IntKind.u8 (getI l1 n0) fun n1 => bc (n1 == 37) (some (Ex.ret, [V.bool true],
  [])) (gd (decide (0 ≤ n0) && decide (n0 < (↑l1.length : Int))) (onIk IntKind.u8 (getI l1 n0) fun n2 => bc (n2 != 32) (gd (decide (0 ≤ n0) && decide (n0 < (↑l1.length : Int)))
  (onIk IntKind.u8 (getI l1 n0) fun n3 => bc (n3 != 9) (gd (decide (0 ≤ n0) && decide (n0 < (↑l1.length : Int))) (onIk IntKind.u8 (getI l1 n0) fun n4 => bc (n4 != 10) (gd (decide (0
  ≤ n0) && decide (n0 < (↑l1.length : Int))) (onIk IntKind.u8 (getI l1 n0) fun n5 => gd (true && roomFor Try.prog 5 (l2.length + [V.ik IntKind.u8 n5].length)) (O.2
  6 6 [V.int (IntKind.i64.wrap (n0 + 1)), V.vec .plain none l1, V.vec Mode.grow none (l2 ++ [V.ik IntKind.u8 n5])] []))) (O.2 6 6 [V.int
  (IntKind.i64.wrap (n0 + 1)), V.vec .plain none l1, V.vec Mode.grow none l2] []))) (O.2 6 6 [V.int (IntKind.i64.wrap (n0 + 1)), V.vec .plain none l1, V.vec Mode.grow
  none l2] []))) (O.2 6 6 [V.int (IntKind.i64.wrap (n0 + 1)), V.vec .plain none l1, V.vec Mode.grow none l2] []))))) (some (Ex.exit 0, [V.vec Mode.grow none l2, V.vec
  .plain none l1], [])) := by kernel_rfl

theorem e_law13_LexMarks_L17 (O : Oracle) (n0 : Int) (l1 : (List V)) (l2 : (List V)) (l3 : (List V)) : loopBody Try.prog cfg O 6 17 [.int n0, .vec .plain (some 2) l1, .vec .grow none l2, .vec .grow none l3] [] =
  bc (decide (n0 < (↑l1.length : Int))) (gd (decide (0 ≤ n0) && decide (n0 < (↑l1.length : Int))) (onAgg (getI l1 n0) fun c1 => gd (decide (2 ≤ c1.length)) (onStr (AM.partOf c1 1
  none) fun s2 => bc ((↑s2.size : Int) == 1) (gd (decide (0 ≤ n0) && decide (n0 < (↑l1.length : Int))) (onAgg (getI l1 n0) fun c3 => gd (decide (1 ≤ c3.length)) (onInt (AM.partOf c3
  0 none) fun n4 => bc (!n4 == 1) (gd (decide (0 ≤ n0) && decide (n0 < (↑l1.length : Int))) (onAgg (getI l1 n0) fun c5 => gd (decide (1 ≤ c5.length)) (onInt (AM.partOf c5 0 none)
  fun n6 => bc (n6 != 0) (some (Ex.ret, [V.bool false], [])) (gd (decide (0 ≤ n0) && decide (n0 < (↑l1.length : Int))) (onAgg (getI l1 n0) fun c7 => gd (decide (2 ≤ c7.length))
  (onStr (AM.partOf c7 1 none) fun s8 => bc ((↑s8.size : Int) == 0) (some (Ex.ret, [V.bool false], [])) (gd (decide (0 ≤ n0) && decide (n0 < (↑l1.length : Int))) (onAgg (getI l1 n0)
  fun c9 => gd (decide (2 ≤ c9.length)) (onStr (AM.partOf c9 1 none) fun s10 => gd (true && roomFor Try.prog 5 (l2.length + (bytesV s10).length)) (O.2 6 17
  [V.int (IntKind.i64.wrap (n0 + 1)), V.vec .plain (some 2) l1, V.vec Mode.grow none (l2 ++ bytesV s10), V.vec Mode.grow none l3] [])))))))))) (gd (decide (0 ≤ n0) && decide (n0 <
  (↑l1.length : Int))) (onAgg (getI l1 n0) fun c11 => gd (decide (2 ≤ c11.length)) (onStr (AM.partOf c11 1 none) fun s12 => gd (true && roomFor Try.prog 5 (l2.length +
  (bytesV s12).length)) (O.2 6 17 [V.int (IntKind.i64.wrap (n0 + 1)), V.vec .plain (some 2) l1, V.vec Mode.grow none (l2 ++ bytesV s12), V.vec Mode.grow none l3]
  []))))))) (gd (decide (0 ≤ n0) && decide (n0 < (↑l1.length : Int))) (onAgg (getI l1 n0) fun c13 => gd (decide (1 ≤ c13.length)) (onInt (AM.partOf c13 0 none) fun n14 => bc (n14 !=
  0) (some (Ex.ret, [V.bool false], [])) (gd (decide (0 ≤ n0) && decide (n0 < (↑l1.length : Int))) (onAgg (getI l1 n0) fun c15 => gd (decide (2 ≤ c15.length)) (onStr (AM.partOf c15
  1 none) fun s16 => bc ((↑s16.size : Int) == 0) (some (Ex.ret, [V.bool false], [])) (gd (decide (0 ≤ n0) && decide (n0 < (↑l1.length : Int))) (onAgg (getI l1 n0) fun c17 => gd
  (decide (2 ≤ c17.length)) (onStr (AM.partOf c17 1 none) fun s18 => gd (true && roomFor Try.prog 5 (l2.length + (bytesV s18).length)) (O.2 6 17 [V.int
  (IntKind.i64.wrap (n0 + 1)), V.vec .plain (some 2) l1, V.vec Mode.grow none (l2 ++ bytesV s18), V.vec Mode.grow none l3] []))))))))))))) (some (Ex.exit 2, [V.vec Mode.grow none
  l3, V.vec Mode.grow none l2], [])) := by kernel_rfl

theorem e_law13_LexNote (O : Oracle) (l0 : (List V)) (l1 : (List V)) (l2 : (List V)) : callBody Try.prog cfg O 7 [.vec .plain none l0, .vec .plain none l1, .vec .plain none l2] [] =
  obind (pcall O 15 []) fun r1 => onBool r1 fun b2 => bc (!b2) (some (Out.ret (V.bool b2), [])) (bc (decide ((↑l0.length : Int) > 3000)) (some (Out.ret (V.bool b2), []))
  (bc (decide ((↑l2.length : Int) > 3000)) (some (Out.ret (V.bool b2), [])) (bc (decide ((↑l1.length : Int) > 3000)) (some (Out.ret (V.bool b2), [])) (obind (O.loop 7
  5 [V.int 0, V.vec .plain none l1, V.vec .plain none l0, V.vec .plain none l2] []) fun r3 => onEx r3.fst none (onCons r3.snd.fst fun v4 c5 => onBool v4 fun b6 => onNil c5 (some
  (Out.ret (V.bool b6), []))) (fun i7 => bc (i7.beq 0) (onCons r3.snd.fst fun v8 c9 => onVec none v8 fun l10 => onCons c9 fun v11 c12 => onVec none v11 fun l13 => onCons c12 fun v14
  c15 => onVec none v14 fun l16 => onNil c15 (gd (true && roomFor Try.prog 5 (0 + l10.length)) (gd (true && roomFor Try.prog 5 (([] ++ l10).length + 1)) (gd (true
  && roomFor Try.prog 5 (([] ++ l10 ++ [V.ik IntKind.u8 10]).length + l13.length)) (gd (true && roomFor Try.prog 5 (0 + l10.length)) (gd (true && roomFor Try.prog
  5 (([] ++ l10).length + 2)) (gd (true && roomFor Try.prog 5 (([] ++ l10 ++ [V.ik IntKind.u8 32, V.ik IntKind.u8 37]).length + l16.length)) (gd (true && roomFor
  Try.prog 5 (([] ++ l10 ++ [V.ik IntKind.u8 32, V.ik IntKind.u8 37] ++ l16).length + 1)) (gd (true && roomFor Try.prog 5 (([] ++ l10 ++ [V.ik IntKind.u8 32, V.ik
  IntKind.u8 37] ++ l16 ++ [V.ik IntKind.u8 10]).length + l13.length)) (obind (O.loop 7 16 [V.int 0, V.vec .plain none l10, V.vec Mode.grow none ([] ++ l10 ++ [V.ik
  IntKind.u8 32, V.ik IntKind.u8 37] ++ l16 ++ [V.ik IntKind.u8 10] ++ l13), V.vec Mode.grow none ([] ++ l10 ++ [V.ik IntKind.u8 10] ++ l13)] r3.snd.snd) fun r17 => onEx r17.fst
  none (onCons r17.snd.fst fun v18 c19 => onBool v18 fun b20 => onNil c19 (some (Out.ret (V.bool b20), []))) (fun i21 => bc (i21.beq 2) (onCons r17.snd.fst fun v22 c23 => onRoom
  none v22 fun l24 => onCons c23 fun v25 c26 => onRoom none v25 fun l27 => onNil c26 (obind (pcall O 16 [V.vec .plain none l27]) fun r28 => onTup r28 fun c29 => onCons c29
  fun v30 c31 => onVec (some 2) v30 fun l32 => onCons c31 fun v33 c34 => onInt v33 fun n35 => onNil c34 (obind (pcall O 16 [V.vec .plain none l24]) fun r36 => onTup r36
  fun c37 => onCons c37 fun v38 c39 => onVec (some 2) v38 fun l40 => onCons c39 fun v41 c42 => onInt v41 fun n43 => onNil c42 (obind (pcall O 18 [V.vec .plain (some 2)
  l32, V.vec .plain (some 2) l40]) fun r44 => onBool r44 fun b45 => bc b45 (some (Out.ret (V.bool (n35 == n43)), [])) (some (Out.ret (V.bool false), [])))))) none) fun v46 =>
  none)))))))))) none) fun v47 => none)))) := by kernel_rfl

theorem e_law13_LexNote_L5 (O : Oracle) (n0 : Int) (l1 : (List V)) (l2 : (List V)) (l3 : (List V)) : loopBody Try.prog cfg O 7 5 [.int n0, .vec .plain none l1, .vec .plain none l2, .vec .plain none l3] [] =
  bc (decide (n0 < (↑l1.length : Int))) (gd (decide (0 ≤ n0) && decide (n0 < (↑l1.length : Int))) (onIk IntKind.u8 (getI l1 n0) fun n1 => bc (n1 == 10) (some (Ex.ret, [V.bool true],
  [])) (O.2 7 5 [V.int (IntKind.i64.wrap (n0 + 1)), V.vec .plain none l1, V.vec .plain none l2, V.vec .plain none l3] []))) (some (Ex.exit 0, [V.vec .plain none l2,
  V.vec .plain none l3, V.vec .plain none l1], [])) := by kernel_rfl

theorem e_law13_LexNote_L16 (O : Oracle) (n0 : Int) (l1 : (List V)) (l2 : (List V)) (l3 : (List V)) : loopBody Try.prog cfg O 7 16 [.int n0, .vec .plain none l1, .vec .grow none l2, .vec .grow none l3] [] =
  bc (decide (n0 < (↑l1.length : Int))) (gd (decide (0 ≤ n0) && decide (n0 < (↑l1.length : Int))) (onIk IntKind.u8 (getI l1 n0) fun n1 => bc (n1 == 37) (some (Ex.ret, [V.bool true],
  [])) (O.2 7 16 [V.int (IntKind.i64.wrap (n0 + 1)), V.vec .plain none l1, V.vec Mode.grow none l2, V.vec Mode.grow none l3] []))) (some (Ex.exit 2, [V.vec Mode.grow
  none l2, V.vec Mode.grow none l3], [])) := by kernel_rfl

theorem e_law13_LexLong (O : Oracle) (n0 : Int) (n1 : Int) : callBody Try.prog cfg O 8 [.ik .u8 n0, .int n1] [] =
  obind (pcall O 15 []) fun r1 => onBool r1 fun b2 => bc (!b2) (some (Out.ret (V.bool b2), [])) (bc (decide (n1 < 0)) (some (Out.ret (V.bool b2), [])) (bc (decide (n1 >
  100)) (some (Out.ret (V.bool b2), [])) (gd (decide (0 ≤ IntKind.i64.wrap (20001 + n1)) && decide (IntKind.i64.wrap (20001 + n1) = IntKind.i64.wrap (20001 + n1)) && roomFor
  Try.prog 5 (IntKind.i64.wrap (20001 + n1)).toNat && true && true) (obind (O.loop 8 6 [V.int 0, V.ik IntKind.u8 n0, V.row none 0 0 (IntKind.i64.wrap (20001 +
  n1)).toNat] [Res.row none (List.replicate (IntKind.i64.wrap (20001 + n1)).toNat (V.ik IntKind.u8 0))]) fun r3 => onEx r3.fst none none (fun i4 => bc (i4.beq 0) (onCons r3.snd.fst
  fun v5 c6 => onIk IntKind.u8 v5 fun n7 => onCons c6 fun v8 c9 => onRowV none v8 fun r10 lo11 n12 => onNil c9 (getR r3.snd.snd r10 fun x13 => onRow x13 fun sh14 l15 => gd (decide
  (sh14 = none) && decide (lo11 + n12 ≤ l15.length)) (obind (pcall O 16 [V.vec .plain none (List.take n12 (List.drop lo11 l15))]) fun r16 => onTup r16 fun c17 => onCons
  c17 fun v18 c19 => onVec (some 2) v18 fun l20 => onCons c19 fun v21 c22 => onInt v21 fun n23 => onNil c22 (gd (true && decide (20000 ≤ (↑(List.take n12 (List.drop lo11
  l15)).length : Int))) (obind (pcall O 16 [V.vec .plain none (List.drop 0 (List.take 20000 (List.take n12 (List.drop lo11 l15))))]) fun r24 => onTup r24 fun c25 => onCons
  c25 fun v26 c27 => onVec (some 2) v26 fun l28 => onCons c27 fun v29 c30 => onInt v29 fun n31 => onNil c30 (obind (pcall O 16 [V.vec .plain none [V.ik IntKind.u8 n7]])
  fun r32 => onTup r32 fun c33 => onCons c33 fun v34 c35 => onVec (some 2) v34 fun l36 => onCons c35 fun v37 c38 => onInt v37 fun n39 => onNil c38 (bc (n23 == 4) (some (Out.ret
  (V.bool (n31 == n39)), [])) (some (Out.ret (V.bool false), []))))))))) none) fun v40 => none)))) := by kernel_rfl

theorem e_law13_LexLong_L6 (O : Oracle) (n0 n1 : Int) (n4 : Nat) (l5 : List V) : loopBody Try.prog cfg O 8 6 [.int n0, .ik .u8 n1, .row none 0 0 n4] [.row none l5] =
  bc (decide (n0 < (↑n4 : Int))) (gd (decide (0 ≤ n0) && decide (n0 < (↑n4 : Int))) (gd (true && !isGrow (V.ik IntKind.u8 n1) && decide (0 + n0.toNat < l5.length)) (O.2
  8 6 [V.int (IntKind.i64.wrap (n0 + 1)), V.ik IntKind.u8 n1, V.row none 0 0 n4] [Res.row none (l5.set (0 + n0.toNat) (V.ik IntKind.u8 n1))]))) (some (Ex.exit 0, [V.ik
  IntKind.u8 n1, V.row none 0 0 n4], [Res.row none l5])) := by kernel_rfl

theorem e_lex_Tokens (O : Oracle) (l0 : (List V)) : callBody Try.prog cfg O 16 [.vec .plain none l0] [] =
  bc (decide ((↑l0.length : Int) > 20000)) (some (Out.ret (V.tup [V.vec .plain (some 2) [], V.int 4]), [])) (gd (l0.all isU8) (bc ((strV l0).toList == []) (some (Out.ret (V.tup
  [V.vec .plain (some 2) [], V.int 0]), [])) (gd (true && decide (0 < (↑(strV l0).size : Int))) (obind (pcall O 33 [V.ik IntKind.i32 (IntKind.i32.wrap (↑((strV
  l0).data.toList.getD (Int.toNat 0) 0).toNat : Int))]) fun r1 => onBool r1 fun b2 => bc b2 (gd (true && decide (1 ≤ (↑(strV l0).size : Int)) && decide ((↑(strV l0).size : Int) ≤
  (↑(strV l0).size : Int)) && true) (obind (O.loop 16 1000000 [V.vec Mode.grow (some 2) [], V.str ((strV l0).extract 1 (↑(strV l0).size : Int).toNat), V.vec .plain (some
  2) [], V.int 0] []) fun r3 => onEx r3.fst (onCons r3.snd.fst fun v4 c5 => onVec (some 2) v4 fun l6 => onCons c5 fun v7 c8 => onInt v7 fun n9 => onNil c8 (gd (below 0 (V.tup [V.vec
  .plain (some 2) l6, V.int n9]) && belowSt 0 []) (some (Out.ret (V.tup [V.vec .plain (some 2) l6, V.int n9]), [])))) (onCons r3.snd.fst fun v10 c11 => onVec (some 2) v10 fun l12 =>
  onCons c11 fun v13 c14 => onInt v13 fun n15 => onNil c14 (gd (below 0 (V.tup [V.vec .plain (some 2) l12, V.int n15]) && belowSt 0 []) (some (Out.ret (V.tup [V.vec .plain (some 2)
  l12, V.int n15]), [])))) (fun i16 => none) fun v17 => none)) (bc (IntKind.i32.wrap (↑((strV l0).data.toList.getD (Int.toNat 0) 0).toNat : Int) == 37) (obind (pcall O 34
  [V.str (strV l0)]) fun r18 => onInt r18 fun n19 => gd (decide (0 ≤ n19) && decide (n19 ≤ (↑(strV l0).size : Int)) && decide ((↑(strV l0).size : Int) ≤ (↑(strV l0).size : Int)) &&
  true) (obind (O.loop 16 1000000 [V.vec Mode.grow (some 2) [], V.str ((strV l0).extract n19.toNat (↑(strV l0).size : Int).toNat), V.vec .plain (some 2) [], V.int 0] [])
  fun r20 => onEx r20.fst (onCons r20.snd.fst fun v21 c22 => onVec (some 2) v21 fun l23 => onCons c22 fun v24 c25 => onInt v24 fun n26 => onNil c25 (gd (below 0 (V.tup [V.vec .plain
  (some 2) l23, V.int n26]) && belowSt 0 []) (some (Out.ret (V.tup [V.vec .plain (some 2) l23, V.int n26]), [])))) (onCons r20.snd.fst fun v27 c28 => onVec (some 2) v27 fun l29 =>
  onCons c28 fun v30 c31 => onInt v30 fun n32 => onNil c31 (gd (below 0 (V.tup [V.vec .plain (some 2) l29, V.int n32]) && belowSt 0 []) (some (Out.ret (V.tup [V.vec .plain (some 2)
  l29, V.int n32]), [])))) (fun i33 => none) fun v34 => none)) (obind (pcall O 35 [V.str { data := #[40, 41, 91, 93, 123, 125, 58, 46] }, V.ik IntKind.i32
  (IntKind.i32.wrap (↑((strV l0).data.toList.getD (Int.toNat 0) 0).toNat : Int))]) fun r35 => onBool r35 fun b36 => bc b36 (gd (true && decide (1 ≤ (↑(strV l0).size : Int)) && true)
  (gd (true && decide (1 ≤ (↑(strV l0).size : Int)) && decide ((↑(strV l0).size : Int) ≤ (↑(strV l0).size : Int)) && true) (obind (O.loop 16 1000000 [V.vec Mode.grow (some
  2) [V.agg [V.int 1, V.str ((strV l0).extract 0 1)]], V.str ((strV l0).extract 1 (↑(strV l0).size : Int).toNat), V.vec .plain (some 2) [], V.int 0] []) fun r37 => onEx r37.fst
  (onCons r37.snd.fst fun v38 c39 => onVec (some 2) v38 fun l40 => onCons c39 fun v41 c42 => onInt v41 fun n43 => onNil c42 (gd (below 0 (V.tup [V.vec .plain (some 2) l40, V.int
  n43]) && belowSt 0 []) (some (Out.ret (V.tup [V.vec .plain (some 2) l40, V.int n43]), [])))) (onCons r37.snd.fst fun v44 c45 => onVec (some 2) v44 fun l46 => onCons c45 fun v47
  c48 => onInt v47 fun n49 => onNil c48 (gd (below 0 (V.tup [V.vec .plain (some 2) l46, V.int n49]) && belowSt 0 []) (some (Out.ret (V.tup [V.vec .plain (some 2) l46, V.int n49]),
  [])))) (fun i50 => none) fun v51 => none))) (obind (pcall O 36 [V.ik IntKind.i32 (IntKind.i32.wrap (↑((strV l0).data.toList.getD (Int.toNat 0) 0).toNat : Int))]) fun r52
  => onBool r52 fun b53 => bc b53 (obind (pcall O 37 [V.str (strV l0)]) fun r54 => onInt r54 fun n55 => gd (true && decide (0 ≤ n55) && decide (n55 ≤ (↑(strV l0).size :
  Int)) && true) (gd (decide (0 ≤ n55) && decide (n55 ≤ (↑(strV l0).size : Int)) && decide ((↑(strV l0).size : Int) ≤ (↑(strV l0).size : Int)) && true) (obind (O.loop 16
  1000000 [V.vec Mode.grow (some 2) [V.agg [V.int 0, V.str ((strV l0).extract 0 n55.toNat)]], V.str ((strV l0).extract n55.toNat (↑(strV l0).size : Int).toNat), V.vec .plain (some
  2) [], V.int 0] []) fun r56 => onEx r56.fst (onCons r56.snd.fst fun v57 c58 => onVec (some 2) v57 fun l59 => onCons c58 fun v60 c61 => onInt v60 fun n62 => onNil c61 (gd (below 0
  (V.tup [V.vec .plain (some 2) l59, V.int n62]) && belowSt 0 []) (some (Out.ret (V.tup [V.vec .plain (some 2) l59, V.int n62]), [])))) (onCons r56.snd.fst fun v63 c64 => onVec
  (some 2) v63 fun l65 => onCons c64 fun v66 c67 => onInt v66 fun n68 => onNil c67 (gd (below 0 (V.tup [V.vec .plain (some 2) l65, V.int n68]) && belowSt 0 []) (some (Out.ret (V.tup
  [V.vec .plain (some 2) l65, V.int n68]), [])))) (fun i69 => none) fun v70 => none))) (some (Out.ret (V.tup [V.vec .plain (some 2) [], V.int 8]), []))))))))) := by kernel_rfl

theorem e_lex_Tokens_L1000000 (O : Oracle) (l0 : (List V)) (s1 : ByteArray) (l2 : (List V)) (n3 : Int) : loopBody Try.prog cfg O 16 1000000 [.vec .grow (some 2) l0, .str s1, .vec .plain (some 2) l2, .int n3] [] =
  bc (s1.toList == []) (some (Ex.ret, [V.vec .plain (some 2) l0, V.int 0], [])) (gd (true && decide (0 < (↑s1.size : Int))) (obind (pcall O 33 [V.ik IntKind.i32
  (IntKind.i32.wrap (↑(s1.data.toList.getD (Int.toNat 0) 0).toNat : Int))]) fun r1 => onBool r1 fun b2 => bc b2 (gd (true && decide (1 ≤ (↑s1.size : Int)) && decide ((↑s1.size :
  Int) ≤ (↑s1.size : Int)) && true) (O.2 16 1000000 [V.vec Mode.grow (some 2) l0, V.str (s1.extract 1 (↑s1.size : Int).toNat), V.vec .plain (some 2) l2, V.int n3] [])) (bc
  (IntKind.i32.wrap (↑(s1.data.toList.getD (Int.toNat 0) 0).toNat : Int) == 37) (obind (pcall O 34 [V.str s1]) fun r3 => onInt r3 fun n4 => gd (decide (0 ≤ n4) && decide (n4
  ≤ (↑s1.size : Int)) && decide ((↑s1.size : Int) ≤ (↑s1.size : Int)) && true) (O.2 16 1000000 [V.vec Mode.grow (some 2) l0, V.str (s1.extract n4.toNat (↑s1.size :
  Int).toNat), V.vec .plain (some 2) l2, V.int n3] [])) (obind (pcall O 35 [V.str { data := #[40, 41, 91, 93, 123, 125, 58, 46] }, V.ik IntKind.i32
  (IntKind.i32.wrap (↑(s1.data.toList.getD (Int.toNat 0) 0).toNat : Int))]) fun r5 => onBool r5 fun b6 => bc b6 (gd (true && decide (1 ≤ (↑s1.size : Int)) && true) (gd (true &&
  roomFor Try.prog 34 (l0.length + [V.agg [V.int 1, V.str (s1.extract 0 1)]].length)) (gd (true && decide (1 ≤ (↑s1.size : Int)) && decide ((↑s1.size : Int) ≤ (↑s1.size :
  Int)) && true) (O.2 16 1000000 [V.vec Mode.grow (some 2) (l0 ++ [V.agg [V.int 1, V.str (s1.extract 0 1)]]), V.str (s1.extract 1 (↑s1.size : Int).toNat), V.vec .plain
  (some 2) l2, V.int n3] [])))) (obind (pcall O 36 [V.ik IntKind.i32 (IntKind.i32.wrap (↑(s1.data.toList.getD (Int.toNat 0) 0).toNat : Int))]) fun r7 => onBool r7 fun b8 =>
  bc b8 (obind (pcall O 37 [V.str s1]) fun r9 => onInt r9 fun n10 => gd (true && decide (0 ≤ n10) && decide (n10 ≤ (↑s1.size : Int)) && true) (gd (true && roomFor Try.prog
  34 (l0.length + [V.agg [V.int 0, V.str (s1.extract 0 n10.toNat)]].length)) (gd (decide (0 ≤ n10) && decide (n10 ≤ (↑s1.size : Int)) && decide ((↑s1.size : Int) ≤
  (↑s1.size : Int)) && true) (O.2 16 1000000 [V.vec Mode.grow (some 2) (l0 ++ [V.agg [V.int 0, V.str (s1.extract 0 n10.toNat)]]), V.str (s1.extract n10.toNat (↑s1.size :
  Int).toNat), V.vec .plain (some 2) l2, V.int n3] [])))) (some (Ex.ret, [V.vec .plain (some 2) [], V.int 8], []))))))) := by kernel_rfl

theorem e_ref13_Tokens (O : Oracle) (l0 : (List V)) : callBody Try.prog cfg O 17 [.vec .plain none l0] [] =
  bc (decide ((↑l0.length : Int) > 20000)) (some (Out.ret (V.tup [V.vec .plain (some 2) [], V.int 4]), [])) (obind (O.loop 17 5 [V.int 0, V.vec .plain none l0, V.vec
  Mode.grow (some 2) []] []) fun r1 => onEx r1.fst none (onCons r1.snd.fst fun v2 c3 => onVec (some 2) v2 fun l4 => onCons c3 fun v5 c6 => onInt v5 fun n7 => onNil c6 (gd (below 0
  (V.tup [V.vec .plain (some 2) l4, V.int n7]) && belowSt 0 []) (some (Out.ret (V.tup [V.vec .plain (some 2) l4, V.int n7]), [])))) (fun i8 => bc (i8.beq 0) (onCons r1.snd.fst fun
  v9 c10 => onRoom (some 2) v9 fun l11 => onNil c10 (gd (below 0 (V.tup [V.vec .plain (some 2) l11, V.int 0]) && belowSt 0 []) (some (Out.ret (V.tup [V.vec .plain (some 2) l11,
  V.int 0]), [])))) none) fun v12 => none) := by kernel_rfl

theorem e_ref13_Tokens_L5 (O : Oracle) (n0 : Int) (l1 : (List V)) (l2 : (List V)) : loopBody Try.prog cfg O 17 5 [.int n0, .vec .plain none l1, .vec .grow (some 2) l2] [] =
  bc (decide (n0 < (↑l1.length : Int))) (gd (decide (0 ≤ n0) && decide (n0 < (↑l1.length : Int))) (onIk IntKind.u8 (getI l1 n0) fun n1 => obind (pcall O 38 [V.ik
  IntKind.u8 n1]) fun r2 => onBool r2 fun b3 => obind (pcall O 39 [V.ik IntKind.u8 n1]) fun r4 => onBool r4 fun b5 => bc (n1 == 32) (O.2 17 5 [V.int
  (IntKind.i64.wrap (n0 + 1)), V.vec .plain none l1, V.vec Mode.grow (some 2) l2] []) (bc (n1 == 9) (O.2 17 5 [V.int (IntKind.i64.wrap (n0 + 1)), V.vec .plain none l1,
  V.vec Mode.grow (some 2) l2] []) (bc (n1 == 10) (O.2 17 5 [V.int (IntKind.i64.wrap (n0 + 1)), V.vec .plain none l1, V.vec Mode.grow (some 2) l2] []) (bc (n1 == 37)
  (obind (O.loop 17 12 [V.int n0, V.vec .plain none l1, V.vec Mode.grow (some 2) l2] []) fun r6 => onEx r6.fst none none (fun i7 => bc (i7.beq 2) (onCons r6.snd.fst fun
  v8 c9 => onInt v8 fun n10 => onCons c9 fun v11 c12 => onVec none v11 fun l13 => onCons c12 fun v14 c15 => onRoom (some 2) v14 fun l16 => onNil c15 (O.2 17 5 [V.int
  n10, V.vec .plain none l13, V.vec Mode.grow (some 2) l16] r6.snd.snd)) none) fun v17 => none) (bc b3 (gd (decide (0 ≤ n0) && decide (n0 ≤ IntKind.i64.wrap (n0 + 1)) && decide
  (IntKind.i64.wrap (n0 + 1) ≤ (↑l1.length : Int))) (gd ((List.drop n0.toNat (List.take (IntKind.i64.wrap (n0 + 1)).toNat l1)).all isU8) (gd (true && roomFor Try.prog 34
  (l2.length + [V.agg [V.int 1, V.str (strV (List.drop n0.toNat (List.take (IntKind.i64.wrap (n0 + 1)).toNat l1)))]].length)) (O.2 17 5 [V.int (IntKind.i64.wrap (n0 +
  1)), V.vec .plain none l1, V.vec Mode.grow (some 2) (l2 ++ [V.agg [V.int 1, V.str (strV (List.drop n0.toNat (List.take (IntKind.i64.wrap (n0 + 1)).toNat l1)))]])] [])))) (bc (!b5)
  (some (Ex.ret, [V.vec .plain (some 2) [], V.int 8], [])) (obind (O.loop 17 20 [V.vec .plain none l1, V.int n0, V.int n0, V.vec Mode.grow (some 2) l2, V.bool b5] [])
  fun r18 => onEx r18.fst none none (fun i19 => bc (i19.beq 4) (onCons r18.snd.fst fun v20 c21 => onVec none v20 fun l22 => onCons c21 fun v23 c24 => onInt v23 fun n25 => onCons c24
  fun v26 c27 => onInt v26 fun n28 => onCons c27 fun v29 c30 => onRoom (some 2) v29 fun l31 => onNil c30 (gd (decide (0 ≤ n28) && decide (n28 ≤ n25) && decide (n25 ≤ (↑l22.length :
  Int))) (gd ((List.drop n28.toNat (List.take n25.toNat l22)).all isU8) (gd (true && roomFor Try.prog 34 (l31.length + [V.agg [V.int 0, V.str (strV (List.drop n28.toNat
  (List.take n25.toNat l22)))]].length)) (O.2 17 5 [V.int n25, V.vec .plain none l22, V.vec Mode.grow (some 2) (l31 ++ [V.agg [V.int 0, V.str (strV (List.drop n28.toNat
  (List.take n25.toNat l22)))]])] r18.snd.snd))))) none) fun v32 => none)))))))) (some (Ex.exit 0, [V.vec Mode.grow (some 2) l2], [])) := by kernel_rfl

theorem e_ref13_Tokens_L12 (O : Oracle) (n0 : Int) (l1 : (List V)) (l2 : (List V)) : loopBody Try.prog cfg O 17 12 [.int n0, .vec .plain none l1, .vec .grow (some 2) l2] [] =
  bc (decide (n0 < (↑l1.length : Int))) (gd (decide (0 ≤ n0) && decide (n0 < (↑l1.length : Int))) (onIk IntKind.u8 (getI l1 n0) fun n1 => bc (n1 != 10) (O.2 17 12 [V.int
  (IntKind.i64.wrap (n0 + 1)), V.vec .plain none l1, V.vec Mode.grow (some 2) l2] []) (some (Ex.exit 2, [V.int n0, V.vec .plain none l1, V.vec Mode.grow (some 2) l2], [])))) (some
  (Ex.exit 2, [V.int n0, V.vec .plain none l1, V.vec Mode.grow (some 2) l2], [])) := by kernel_rfl

theorem e_ref13_Tokens_L20 (O : Oracle) (l0 : (List V)) (n1 : Int) (n2 : Int) (l3 : (List V)) (b4 : Bool) : loopBody Try.prog cfg O 17 20 [.vec .plain none l0, .int n1, .int n2, .vec .grow (some 2) l3, .bool b4] [] =
  bc b4 (bc (decide (IntKind.i64.wrap (n1 + 1) < (↑l0.length : Int))) (gd (decide (0 ≤ IntKind.i64.wrap (n1 + 1)) && decide (IntKind.i64.wrap (n1 + 1) < (↑l0.length : Int))) (onIk
  IntKind.u8 (getI l0 (IntKind.i64.wrap (n1 + 1))) fun n1_1 => obind (pcall O 39 [V.ik IntKind.u8 n1_1]) fun r2 => onBool r2 fun b3 => O.2 17 20 [V.vec .plain
  none l0, V.int (IntKind.i64.wrap (n1 + 1)), V.int n2, V.vec Mode.grow (some 2) l3, V.bool b3] [])) (O.2 17 20 [V.vec .plain none l0, V.int (IntKind.i64.wrap (n1 + 1)),
  V.int n2, V.vec Mode.grow (some 2) l3, V.bool (decide (IntKind.i64.wrap (n1 + 1) < (↑l0.length : Int)))] [])) (some (Ex.exit 4, [V.vec .plain none l0, V.int n1, V.int n2, V.vec
  Mode.grow (some 2) l3], [])) := by kernel_rfl

theorem e_ref13_Same (O : Oracle) (l0 : (List V)) (l1 : (List V)) : callBody Try.prog cfg O 18 [.vec .plain (some 2) l0, .vec .plain (some 2) l1] [] =
  bc ((↑l0.length : Int) != (↑l1.length : Int)) (some (Out.ret (V.bool false), [])) (obind (O.loop 18 4 [V.int 0, V.vec .plain (some 2) l1, V.vec .plain (some 2) l0] [])
  fun r1 => onEx r1.fst none (onCons r1.snd.fst fun v2 c3 => onBool v2 fun b4 => onNil c3 (some (Out.ret (V.bool b4), []))) (fun i5 => bc (i5.beq 0) (onNil r1.snd.fst (some (Out.ret
  (V.bool true), []))) none) fun v6 => none) := by kernel_rfl

theorem e_ref13_Same_L4 (O : Oracle) (n0 : Int) (l1 : (List V)) (l2 : (List V)) : loopBody Try.prog cfg O 18 4 [.int n0, .vec .plain (some 2) l1, .vec .plain (some 2) l2] [] =
  bc (decide (n0 < (↑l2.length : Int))) (gd (decide (0 ≤ n0) && decide (n0 < (↑l2.length : Int))) (onStruct [CT.int, CT.str] (getI l2 n0) fun n1 s2 => gd (decide (0 ≤ n0) && decide
  (n0 < (↑l1.length : Int))) (onStruct [CT.int, CT.str] (getI l1 n0) fun n3 s4 => bc (!(true && n1 == n3 && s2.toList == s4.toList)) (some (Ex.ret, [V.bool false], [])) (O.2
  18 4 [V.int (IntKind.i64.wrap (n0 + 1)), V.vec .plain (some 2) l1, V.vec .plain (some 2) l2] [])))) (some (Ex.exit 0, [], [])) := by kernel_rfl

theorem e_lex_Text (O : Oracle) (l0 : (List V)) : callBody Try.prog cfg O 19 [.vec .plain (some 2) l0] [] =
  obind (O.loop 19 4 [V.int 0, V.vec Mode.grow none [], V.int 1, V.vec .plain (some 2) l0, V.int (↑l0.length : Int)] []) fun r1 => onEx r1.fst none none (fun i2 => bc
  (i2.beq 0) (onCons r1.snd.fst fun v3 c4 => onRoom none v3 fun l5 => onNil c4 (gd (below 0 (V.vec .plain none l5) && belowSt 0 []) (some (Out.ret (V.vec .plain none l5), []))))
  none) fun v6 => none := by kernel_rfl

theorem e_lex_Text_L4 (O : Oracle) (n0 : Int) (l1 : (List V)) (n2 : Int) (l3 : (List V)) (n4 : Int) : loopBody Try.prog cfg O 19 4 [.int n0, .vec .grow none l1, .int n2, .vec .plain (some 2) l3, .int n4] [] =
  bc (decide (n0 < n4)) (gd (decide (0 ≤ n0) && decide (n0 < (↑l3.length : Int))) (onStruct [CT.int, CT.str] (getI l3 n0) fun n1 s2 => bc (n1 == 0) (bc (n2 == 0) (gd (true &&
  roomFor Try.prog 5 (l1.length + 1)) (gd (true && roomFor Try.prog 5 ((l1 ++ [V.ik IntKind.u8 32]).length + (bytesV s2).length)) (O.2 19 4 [V.int
  (IntKind.i64.wrap (n0 + 1)), V.vec Mode.grow none (l1 ++ [V.ik IntKind.u8 32] ++ bytesV s2), V.int n1, V.vec .plain (some 2) l3, V.int n4] []))) (gd (true && roomFor Try.prog
  5 (l1.length + (bytesV s2).length)) (O.2 19 4 [V.int (IntKind.i64.wrap (n0 + 1)), V.vec Mode.grow none (l1 ++ bytesV s2), V.int n1, V.vec .plain (some 2) l3,
  V.int n4] []))) (gd (true && roomFor Try.prog 5 (l1.length + (bytesV s2).length)) (O.2 19 4 [V.int (IntKind.i64.wrap (n0 + 1)), V.vec Mode.grow none (l1 ++ bytesV
  s2), V.int n1, V.vec .plain (some 2) l3, V.int n4] [])))) (some (Ex.exit 0, [V.vec Mode.grow none l1], [])) := by kernel_rfl

theorem e_ref13_Text (O : Oracle) (l0 : (List V)) : callBody Try.prog cfg O 20 [.vec .plain (some 2) l0] [] =
  obind (O.loop 20 3 [V.int 0, V.vec .plain (some 2) l0, V.vec Mode.grow none []] []) fun r1 => onEx r1.fst none none (fun i2 => bc (i2.beq 0) (onCons r1.snd.fst fun v3 c4
  => onRoom none v3 fun l5 => onNil c4 (gd (below 0 (V.vec .plain none l5) && belowSt 0 []) (some (Out.ret (V.vec .plain none l5), [])))) none) fun v6 => none := by kernel_rfl

theorem e_ref13_Text_L3 (O : Oracle) (n0 : Int) (l1 : (List V)) (l2 : (List V)) : loopBody Try.prog cfg O 20 3 [.int n0, .vec .plain (some 2) l1, .vec .grow none l2] [] =
  bc (decide (n0 < (↑l1.length : Int))) (bc (decide (n0 > 0)) (gd (decide (0 ≤ n0) && decide (n0 < (↑l1.length : Int))) (onAgg (getI l1 n0) fun c1 => gd (decide (1 ≤ c1.length))
  (onInt (AM.partOf c1 0 none) fun n2 => bc (n2 == 0) (gd (decide (0 ≤ IntKind.i64.wrap (n0 - 1)) && decide (IntKind.i64.wrap (n0 - 1) < (↑l1.length : Int))) (onAgg (getI l1
  (IntKind.i64.wrap (n0 - 1))) fun c3 => gd (decide (1 ≤ c3.length)) (onInt (AM.partOf c3 0 none) fun n4 => bc (n4 == 0) (gd (true && roomFor Try.prog 5 (l2.length + 1))
  (gd (decide (0 ≤ n0) && decide (n0 < (↑l1.length : Int))) (onAgg (getI l1 n0) fun c5 => gd (decide (2 ≤ c5.length)) (onStr (AM.partOf c5 1 none) fun s6 => gd (true && roomFor
  Try.prog 5 ((l2 ++ [V.ik IntKind.u8 32]).length + (bytesV s6).length)) (O.2 20 3 [V.int (IntKind.i64.wrap (n0 + 1)), V.vec .plain (some 2) l1, V.vec Mode.grow
  none (l2 ++ [V.ik IntKind.u8 32] ++ bytesV s6)] []))))) (gd (decide (0 ≤ n0) && decide (n0 < (↑l1.length : Int))) (onAgg (getI l1 n0) fun c7 => gd (decide (2 ≤ c7.length)) (onStr
  (AM.partOf c7 1 none) fun s8 => gd (true && roomFor Try.prog 5 (l2.length + (bytesV s8).length)) (O.2 20 3 [V.int (IntKind.i64.wrap (n0 + 1)), V.vec .plain
  (some 2) l1, V.vec Mode.grow none (l2 ++ bytesV s8)] []))))))) (gd (decide (0 ≤ n0) && decide (n0 < (↑l1.length : Int))) (onAgg (getI l1 n0) fun c9 => gd (decide (2 ≤ c9.length))
  (onStr (AM.partOf c9 1 none) fun s10 => gd (true && roomFor Try.prog 5 (l2.length + (bytesV s10).length)) (O.2 20 3 [V.int (IntKind.i64.wrap (n0 + 1)), V.vec
  .plain (some 2) l1, V.vec Mode.grow none (l2 ++ bytesV s10)] []))))))) (gd (decide (0 ≤ n0) && decide (n0 < (↑l1.length : Int))) (onAgg (getI l1 n0) fun c11 => gd (decide (2 ≤
  c11.length)) (onStr (AM.partOf c11 1 none) fun s12 => gd (true && roomFor Try.prog 5 (l2.length + (bytesV s12).length)) (O.2 20 3 [V.int (IntKind.i64.wrap (n0 +
  1)), V.vec .plain (some 2) l1, V.vec Mode.grow none (l2 ++ bytesV s12)] []))))) (some (Ex.exit 0, [V.vec Mode.grow none l2], [])) := by kernel_rfl

theorem e_lex_blank (O : Oracle) (n0 : Int) : callBody Try.prog cfg O 33 [.ik .i32 n0] [] =
  bc (n0 == 32) (some (Out.ret (V.bool true), [])) (bc (n0 == 9) (some (Out.ret (V.bool true), [])) (some (Out.ret (V.bool (n0 == 10)), []))) := by kernel_rfl

theorem e_lex_note (O : Oracle) (s0 : ByteArray) : callBody Try.prog cfg O 34 [.str s0] [] =
  obind (pcall O 52 [V.str s0, V.ik IntKind.u8 10]) fun r1 => onInt r1 fun n2 => bc (decide (n2 ≥ 0)) (some (Out.ret (V.int n2), [])) (some (Out.ret (V.int
  (↑s0.size : Int)), [])) := by kernel_rfl

theorem e_strings_ContainsRune (O : Oracle) (s0 : ByteArray) (n1 : Int) : callBody Try.prog cfg O 35 [.str s0, .ik .i32 n1] [] =
  obind (pcall O 53 [V.str s0, V.ik IntKind.i32 n1]) fun r1 => onInt r1 fun n2 => some (Out.ret (V.bool (decide (n2 ≥ 0))), []) := by kernel_rfl

theorem e_lex_named (O : Oracle) (n0 : Int) : callBody Try.prog cfg O 36 [.ik .i32 n0] [] =
  bc (decide (n0 ≥ 97)) (bc (decide (n0 ≤ 122)) (some (Out.ret (V.bool true), [])) (bc (decide (n0 ≥ 65)) (bc (decide (n0 ≤ 90)) (some (Out.ret (V.bool true), [])) (bc (decide (n0 ≥
  48)) (bc (decide (n0 ≤ 57)) (some (Out.ret (V.bool true), [])) (bc (n0 == 95) (some (Out.ret (V.bool true), [])) (some (Out.ret (V.bool (n0 == 39)), [])))) (bc (n0 == 95) (some
  (Out.ret (V.bool true), [])) (some (Out.ret (V.bool (n0 == 39)), []))))) (bc (decide (n0 ≥ 48)) (bc (decide (n0 ≤ 57)) (some (Out.ret (V.bool true), [])) (bc (n0 == 95) (some
  (Out.ret (V.bool true), [])) (some (Out.ret (V.bool (n0 == 39)), [])))) (bc (n0 == 95) (some (Out.ret (V.bool true), [])) (some (Out.ret (V.bool (n0 == 39)), [])))))) (bc (decide
  (n0 ≥ 65)) (bc (decide (n0 ≤ 90)) (some (Out.ret (V.bool true), [])) (bc (decide (n0 ≥ 48)) (bc (decide (n0 ≤ 57)) (some (Out.ret (V.bool true), [])) (bc (n0 == 95) (some (Out.ret
  (V.bool true), [])) (some (Out.ret (V.bool (n0 == 39)), [])))) (bc (n0 == 95) (some (Out.ret (V.bool true), [])) (some (Out.ret (V.bool (n0 == 39)), []))))) (bc (decide (n0 ≥ 48))
  (bc (decide (n0 ≤ 57)) (some (Out.ret (V.bool true), [])) (bc (n0 == 95) (some (Out.ret (V.bool true), [])) (some (Out.ret (V.bool (n0 == 39)), [])))) (bc (n0 == 95) (some
  (Out.ret (V.bool true), [])) (some (Out.ret (V.bool (n0 == 39)), []))))) := by kernel_rfl

theorem e_lex_name (O : Oracle) (s0 : ByteArray) : callBody Try.prog cfg O 37 [.str s0] [] =
  obind (O.loop 37 2 [V.str s0, V.ref 0 0] [Res.iter s0 0]) fun r1 => onEx r1.fst none (onCons r1.snd.fst fun v2 c3 => onInt v2 fun n4 => onNil c3 (some (Out.ret (V.int n4),
  []))) (fun i5 => bc (i5.beq 0) (onCons r1.snd.fst fun v6 c7 => onStr v6 fun s8 => onNil c7 (some (Out.ret (V.int (↑s8.size : Int)), []))) none) fun v9 => none := by kernel_rfl

theorem e_lex_name_L2 (O : Oracle) (s0 t : ByteArray) (p : Nat) : loopBody Try.prog cfg O 37 2 [.str s0, .ref 0 0] [.iter t p] =
  bc (decide (p < t.size)) (obind (pcall O 36 [V.ik IntKind.i32 (↑(Utf8.decode t p).fst : Int)]) fun r1 => onBool r1 fun b2 => bc (!b2) (some (Ex.ret, [V.int (↑p : Int)],
  [Res.iter t (p + (Utf8.decode t p).snd)])) (O.2 37 2 [V.str s0, V.ref 0 0] [Res.iter t (p + (Utf8.decode t p).snd)])) (some (Ex.exit 0, [V.str s0], [Res.iter t p])) := by kernel_rfl

theorem e_ref13_mark (O : Oracle) (n0 : Int) : callBody Try.prog cfg O 38 [.ik .u8 n0] [] =
  bc (n0 == 40) (some (Out.ret (V.bool true), [])) (bc (n0 == 41) (some (Out.ret (V.bool true), [])) (bc (n0 == 91) (some (Out.ret (V.bool true), [])) (bc (n0 == 93) (some (Out.ret
  (V.bool true), [])) (bc (n0 == 123) (some (Out.ret (V.bool true), [])) (bc (n0 == 125) (some (Out.ret (V.bool true), [])) (bc (n0 == 58) (some (Out.ret (V.bool true), [])) (some
  (Out.ret (V.bool (n0 == 46)), [])))))))) := by kernel_rfl

theorem e_ref13_named (O : Oracle) (n0 : Int) : callBody Try.prog cfg O 39 [.ik .u8 n0] [] =
  bc (decide (n0 ≥ 97)) (bc (decide (n0 ≤ 122)) (some (Out.ret (V.bool true), [])) (bc (decide (n0 ≥ 65)) (bc (decide (n0 ≤ 90)) (some (Out.ret (V.bool true), [])) (bc (decide (n0 ≥
  48)) (bc (decide (n0 ≤ 57)) (some (Out.ret (V.bool true), [])) (bc (n0 == 95) (some (Out.ret (V.bool true), [])) (some (Out.ret (V.bool (n0 == 39)), [])))) (bc (n0 == 95) (some
  (Out.ret (V.bool true), [])) (some (Out.ret (V.bool (n0 == 39)), []))))) (bc (decide (n0 ≥ 48)) (bc (decide (n0 ≤ 57)) (some (Out.ret (V.bool true), [])) (bc (n0 == 95) (some
  (Out.ret (V.bool true), [])) (some (Out.ret (V.bool (n0 == 39)), [])))) (bc (n0 == 95) (some (Out.ret (V.bool true), [])) (some (Out.ret (V.bool (n0 == 39)), [])))))) (bc (decide
  (n0 ≥ 65)) (bc (decide (n0 ≤ 90)) (some (Out.ret (V.bool true), [])) (bc (decide (n0 ≥ 48)) (bc (decide (n0 ≤ 57)) (some (Out.ret (V.bool true), [])) (bc (n0 == 95) (some (Out.ret
  (V.bool true), [])) (some (Out.ret (V.bool (n0 == 39)), [])))) (bc (n0 == 95) (some (Out.ret (V.bool true), [])) (some (Out.ret (V.bool (n0 == 39)), []))))) (bc (decide (n0 ≥ 48))
  (bc (decide (n0 ≤ 57)) (some (Out.ret (V.bool true), [])) (bc (n0 == 95) (some (Out.ret (V.bool true), [])) (some (Out.ret (V.bool (n0 == 39)), [])))) (bc (n0 == 95) (some
  (Out.ret (V.bool true), [])) (some (Out.ret (V.bool (n0 == 39)), []))))) := by kernel_rfl

theorem e_strings_IndexByte (O : Oracle) (s0 : ByteArray) (n1 : Int) : callBody Try.prog cfg O 52 [.str s0, .ik .u8 n1] [] =
  obind (pcall O 69 [V.str s0, V.ik IntKind.u8 n1]) fun r1 => onInt r1 fun n2 => some (Out.ret (V.int n2), []) := by kernel_rfl

theorem e_internal_stringslite_IndexByte (O : Oracle) (s0 : ByteArray) (n1 : Int) : callBody Try.prog cfg O 69 [.str s0, .ik .u8 n1] [] =
  obind (gd true (some (V.int (firstIdx s0 n1.toNat.toUInt8)))) fun r1 => onInt r1 fun n2 => some (Out.ret (V.int n2), []) := by kernel_rfl

end Go.Proofs.LP

/-! Tokens: the program's functions. -/
namespace Go.Proofs.LP
open Go Go.AM Go.Ama

theorem blank_byte (b : UInt8) : ((b.toNat : Int) == 32 || ((b.toNat : Int) == 9 || (b.toNat : Int) == 10)) = Ama.blank b :=
  byteAll (p := fun b => ((b.toNat : Int) == 32 || ((b.toNat : Int) == 9 || (b.toNat : Int) == 10)) = Ama.blank b) (by decide +kernel) b
theorem wrap_byte (b : UInt8) : IntKind.i32.wrap (b.toNat : Int) = b.toNat :=
  byteAll (p := fun b => IntKind.i32.wrap (b.toNat : Int) = b.toNat) (by decide +kernel) b
theorem percent_byte (b : UInt8) : ((b.toNat : Int) == 37) = (b == 37) :=
  byteAll (p := fun b => ((b.toNat : Int) == 37) = (b == 37)) (by decide +kernel) b

theorem blank_spec (c : Int) : Ev 33 [.ik .i32 c] (.bool (c == 32 || (c == 9 || c == 10))) := by
  unfold Ev
  rw [C, e_lex_blank]
  cases h1 : (c == 32) <;> cases h2 : (c == 9) <;> rfl

def namedI (c : Int) : Bool := (decide (c ≥ 97) && decide (c ≤ 122)) || (decide (c ≥ 65) && decide (c ≤ 90)) || (decide (c ≥ 48) && decide (c ≤ 57)) || c == 95 || c == 39
theorem named_spec (c : Int) : Ev 36 [.ik .i32 c] (.bool (namedI c)) := by
  unfold Ev namedI
  rw [C, e_lex_named]
  generalize decide (c ≥ 97) = a1
  generalize decide (c ≤ 122) = a2
  generalize decide (c ≥ 65) = a3
  generalize decide (c ≤ 90) = a4
  generalize decide (c ≥ 48) = a5
  generalize decide (c ≤ 57) = a6
  generalize (c == 95) = a7
  generalize (c == 39) = a8
  cases a1 <;> cases a2 <;> cases a3 <;> cases a4 <;> cases a5 <;> cases a6 <;> cases a7 <;> cases a8 <;> rfl
theorem named_byte (b : UInt8) : namedI (b.toNat : Int) = named b :=
  byteAll (p := fun b => namedI (b.toNat : Int) = named b) (by decide +kernel) b
theorem namedI_high {c : Int} (h : 128 ≤ c) : namedI c = false := by
  have h1 : ¬ c ≤ 122 := by omega
  have h2 : ¬ c ≤ 90 := by omega
  have h3 : ¬ c ≤ 57 := by omega
  have h4 : (c == 95) = false := by simp; omega
  have h5 : (c == 39) = false := by simp; omega
  simp [namedI, h1, h2, h3, h4, h5]
theorem named_high {b : UInt8} (h : 128 ≤ b) : named b = false := by
  rw [← named_byte]; exact namedI_high (by have : 128 ≤ b.toNat := by simpa [UInt8.le_iff_toNat_le] using h
                                           omega)

theorem name_loop (s : ByteArray) (l : Bytes) : ∀ k p, p + k = l.length → ∃ st', W.loop 37 2 [.str s, .ref 0 0] [.iter (ba l) p] = some (if (l.drop p).all named then (Ex.exit 0, [V.str s], st') else (Ex.ret, [V.int ((p + ((l.drop p).takeWhile named).length : Nat) : Int)], st'))
  | 0, p, h => by
    refine ⟨[.iter (ba l) p], ?_⟩
    rw [L, e_lex_name_L2]
    have : l.drop p = [] := by rw [List.drop_eq_nil_iff]; omega
    have h2 : ¬ p < l.length := by omega
    simp [this, ba_size, h2, bc]
  | k + 1, p, h => by
    have hp : p < l.length := by omega
    obtain ⟨st', ih⟩ := name_loop s l k (p + 1) (by omega)
    have hd : l.drop p = l[p] :: l.drop (p + 1) := List.drop_eq_getElem_cons hp
    have hsz : decide (p < (ba l).size) = true := by rw [ba_size]; simpa using hp
    by_cases h8 : l[p] < 128
    · rw [L, e_lex_name_L2, decode_lt hp h8, hsz]
      simp only [(named_spec _).p, named_byte, hd, List.all_cons, List.takeWhile_cons]
      cases hn : named l[p] with
      | true =>
        refine ⟨st', ?_⟩
        show W.loop _ _ _ _ = _
        rw [ih]
        cases (l.drop (p + 1)).all named
        · simp; omega
        · simp
      | false => exact ⟨[.iter (ba l) (p + 1)], by simp [bc]⟩
    · have h8' : 128 ≤ l[p] := by
        rw [UInt8.lt_iff_toNat_lt] at h8
        rw [UInt8.le_iff_toNat_le]
        simpa using h8
      have hge := decode_ge hp h8'
      refine ⟨[.iter (ba l) (p + (Utf8.decode (ba l) p).2)], ?_⟩
      rw [L, e_lex_name_L2, hsz]
      simp only [(named_spec _).p, namedI_high (c := ((Utf8.decode (ba l) p).1 : Int)) (by omega), hd, List.all_cons, List.takeWhile_cons, named_high h8']
      simp [bc]

theorem takeWhile_of_all {p : UInt8 → Bool} {l : Bytes} (h : l.all p = true) : l.takeWhile p = l := by
  induction l with
  | nil => rfl
  | cons x l ih => simp only [List.all_cons, Bool.and_eq_true] at h; simp [List.takeWhile_cons, h.1, ih h.2]

theorem name_spec (l : Bytes) : Ev 37 [.str (ba l)] (.int (l.takeWhile named).length) := by
  unfold Ev
  rw [C, e_lex_name]
  obtain ⟨st', h⟩ := name_loop (ba l) l l.length 0 (by omega)
  rw [h, List.drop_zero]
  cases ha : l.all named with
  | true => simp [takeWhile_of_all ha, ba_size, bc]
  | false => simp

theorem index_line : ∀ l : Bytes, Lib.indexByte l 10 = if (l.takeWhile inLine).length < l.length then ((l.takeWhile inLine).length : Int) else -1
  | [] => rfl
  | c :: l => by
    rw [Lib.indexByte, index_line l]
    cases h : (c == 10) with
    | true => simp [List.takeWhile_cons, inLine, bne, h]
    | false =>
      have hi : inLine c = true := by simp [inLine, bne, h]
      simp only [List.takeWhile_cons, hi, if_true, List.length_cons]
      by_cases hl : (l.takeWhile inLine).length < l.length
      · have h2 : ((((l.takeWhile inLine).length : Nat) : Int) == -1) = false := by simp
        rw [if_pos hl, h2, if_pos (Nat.succ_lt_succ hl)]
        simp
      · rw [if_neg hl, if_neg (fun h => hl (Nat.lt_of_succ_lt_succ h))]; rfl

theorem note_spec (l : Bytes) : Ev 34 [.str (ba l)] (.int (l.takeWhile inLine).length) := by
  have h1 : Ev 69 [.str (ba l), .ik .u8 10] (.int (Lib.indexByte l 10)) := by
    unfold Ev
    rw [C, e_internal_stringslite_IndexByte, Lib.firstIdx_eq, ba_dl]
    rfl
  have h2 : Ev 52 [.str (ba l), .ik .u8 10] (.int (Lib.indexByte l 10)) := by
    unfold Ev
    rw [C, e_strings_IndexByte, h1.p]
    rfl
  unfold Ev
  rw [C, e_lex_note, h2.p, index_line]
  have h3 := takeWhile_dropWhile_length inLine l
  by_cases h : (l.takeWhile inLine).length < l.length
  · have h4 : ((l.takeWhile inLine).length : Int) ≥ 0 := by omega
    simp [h, h4, bc]
  · have h4 : (l.takeWhile inLine).length = l.length := by omega
    simp [h4, bc, ba_size]

theorem contains_all : ∀ n : Fin 256, checkB 12 35 [.str (ba [40, 41, 91, 93, 123, 125, 58, 46]), .ik .i32 ((UInt8.ofNat n.val).toNat : Int)] = some (Ama.mark (UInt8.ofNat n.val)) := by decide +kernel
theorem contains_spec (c : UInt8) : Ev 35 [.str (ba [40, 41, 91, 93, 123, 125, 58, 46]), .ik .i32 (c.toNat : Int)] (.bool (Ama.mark c)) := by
  have h := contains_all ⟨c.toNat, c.toNat_lt⟩
  have e : UInt8.ofNat c.toNat = c := by simp
  simp only [e] at h
  exact Ev.of_check h
end Go.Proofs.LP

/-! Tokens: the program's lexer. -/
namespace Go.Proofs.LP
open Go Go.AM Go.Ama

theorem room_tok {n : Nat} (h : n ≤ 1048576) : roomFor Try.prog 34 n = true := by
  have : ((Try.prog.info? 34).map (·.bytes)).getD 0 = 24 := by kernel_rfl
  unfold roomFor
  rw [this]
  simp only [Bool.and_eq_true, decide_eq_true_eq]
  omega
theorem room_byte {n : Nat} (h : n ≤ 10485760) : roomFor Try.prog 5 n = true := by
  have : ((Try.prog.info? 5).map (·.bytes)).getD 0 = 1 := by kernel_rfl
  unfold roomFor
  rw [this]
  simp only [Bool.and_eq_true, decide_eq_true_eq]
  omega

/-- What lexing comes to, behind some tokens. -/
def lexEnd (acc : List Tok) : Option (List Tok) → Ex × List V × St
  | some t => (Ex.ret, [V.vec .plain (some 2) (encToks (acc ++ t)), V.int 0], [])
  | none => (Ex.ret, [V.vec .plain (some 2) [], V.int 8], [])

theorem ba_nonempty (c : UInt8) (r : Bytes) : ((ba (c :: r)).toList == []) = false := by rw [ba_toList]; rfl
theorem ba_first (c : UInt8) (r : Bytes) : IntKind.i32.wrap (((ba (c :: r)).data.toList.getD (Int.toNat 0) 0).toNat : Int) = c.toNat := by rw [ba_dl]; exact wrap_byte c
theorem ba_from (l : Bytes) (n : Nat) : (ba l).extract n ((ba l).size : Int).toNat = ba (l.drop n) := by
  rw [ba_extract, ba_size, Int.toNat_natCast, List.take_length]
theorem ba_ext (l : Bytes) (n : Nat) : (ba l).extract n l.length = ba (l.drop n) := by rw [ba_extract, List.take_length]
theorem ba_upto (l : Bytes) (n : Nat) : (ba l).extract 0 n = ba (l.take n) := by rw [ba_extract, List.drop_zero]
theorem take_takeWhile {p : UInt8 → Bool} : ∀ l : Bytes, l.take (l.takeWhile p).length = l.takeWhile p ∧ l.drop (l.takeWhile p).length = l.dropWhile p
  | [] => ⟨rfl, rfl⟩
  | c :: l => by
    obtain ⟨h1, h2⟩ := take_takeWhile (p := p) l
    rw [List.takeWhile_cons, List.dropWhile_cons]
    split <;> simp [h1, h2]
theorem takeWhile_le {p : UInt8 → Bool} (l : Bytes) : (l.takeWhile p).length ≤ l.length := by have := takeWhile_dropWhile_length p l; omega

theorem marks_lit : V.str { data := #[40, 41, 91, 93, 123, 125, 58, 46] } = V.str (ba [40, 41, 91, 93, 123, 125, 58, 46]) := rfl

theorem tokens_loop : ∀ (b : Bytes) (acc : List Tok) (l2 : List V) (n3 : Int), acc.length + b.length ≤ 20000 →
    W.loop 16 1000000 [.vec .grow (some 2) (encToks acc), .str (ba b), .vec .plain (some 2) l2, .int n3] [] = some (lexEnd acc (toks b)) := by
  refine bytes_ind ?_ ?_ ?_ ?_ ?_ ?_
  · intro acc l2 n3 _
    rw [L, e_lex_Tokens_L1000000, toks_nil, ba_toList]
    simp [lexEnd]
  · intro c r hc ih acc l2 n3 hl
    simp only [List.length_cons] at hl
    have ih := ih acc l2 n3 (by omega)
    rw [L, e_lex_Tokens_L1000000, toks_blank r hc, ba_nonempty, ba_first, (blank_spec _).p, blank_byte, hc, ba_from, ← ih]
    simp (disch := omega) [ba_size]
  · intro r ih acc l2 n3 hl
    simp only [List.length_cons] at hl
    have hd := length_dropWhile_le inLine r
    have ih := ih acc l2 n3 (by omega)
    have ht := takeWhile_le (p := inLine) (37 :: r)
    rw [L, e_lex_Tokens_L1000000, toks_note r rfl, ba_nonempty, ba_first, (blank_spec _).p, blank_byte, percent_byte, (note_spec _).p, ← ih]
    have h3 : (37 :: r).dropWhile inLine = r.dropWhile inLine := by simp [List.dropWhile_cons, inLine]
    have h4 : Ama.blank 37 = false := by decide
    rw [List.length_cons] at ht
    simp (disch := omega) only [onInt_int, obind_some', onBool_bool, h4, Int.toNat_natCast, ba_from, (take_takeWhile (37 :: r)).2, h3, ba_size, List.length_cons, gd_and, gd_dec, gd_true, bc_false, bc_true, beq_self_eq_true]
    rw [show r.length + 1 = (37 :: r : Bytes).length from rfl, ba_ext, (take_takeWhile (37 :: r)).2, h3]
  · intro c r hc ih acc l2 n3 hl
    simp only [List.length_cons] at hl
    have ih := ih (acc ++ [(1, [c])]) l2 n3 (by simp; omega)
    obtain ⟨h7, h8, _⟩ := mark_facts hc
    rw [L, e_lex_Tokens_L1000000, toks_mark r hc, ba_nonempty, ba_first, (blank_spec _).p, blank_byte, percent_byte, h7, h8, marks_lit, (contains_spec c).p, hc, ba_from, ba_upto]
    have he : encToks acc ++ [V.agg [V.int 1, V.str (ba [c])]] = encToks (acc ++ [(1, [c])]) := by rw [encToks_append]; rfl
    have hend : lexEnd acc ((toks r).map ((1, [c]) :: ·)) = lexEnd (acc ++ [(1, [c])]) (toks r) := by cases toks r <;> simp [lexEnd]
    rw [hend, ← ih]
    simp (disch := omega) [he, ba_size, room_tok]
  · intro c r hc ih acc l2 n3 hl
    simp only [List.length_cons] at hl
    have hd := length_dropWhile_le named r
    have ih := ih (acc ++ [(0, c :: r.takeWhile named)]) l2 n3 (by simp; omega)
    obtain ⟨h7, h8, h9, _⟩ := named_facts hc
    have ht := takeWhile_le (p := named) r
    have h10 : (c :: r).dropWhile named = r.dropWhile named := by simp [List.dropWhile_cons, hc]
    have h11 : (c :: r).takeWhile named = c :: r.takeWhile named := by simp [List.takeWhile_cons, hc]
    have h12 := take_takeWhile (p := named) (c :: r)
    rw [h10, h11] at h12
    have he : encToks acc ++ [V.agg [V.int 0, V.str (ba (c :: r.takeWhile named))]] = encToks (acc ++ [(0, c :: r.takeWhile named)]) := by rw [encToks_append]; rfl
    have hend : lexEnd acc ((toks (r.dropWhile named)).map ((0, c :: r.takeWhile named) :: ·)) = lexEnd (acc ++ [(0, c :: r.takeWhile named)]) (toks (r.dropWhile named)) := by cases toks (r.dropWhile named) <;> simp [lexEnd]
    rw [L, e_lex_Tokens_L1000000, toks_name r hc, ba_nonempty, ba_first, (blank_spec _).p, blank_byte, percent_byte, h7, h8, marks_lit, (contains_spec c).p, h9, (named_spec _).p, named_byte, hc, (name_spec _).p, h11, hend, ← ih]
    simp only [onInt_int, obind_some', onBool_bool, bc_false, bc_true, gd_and, gd_true, Int.toNat_natCast, ba_from, ba_upto, h12.1, h12.2, he, ba_size, List.length_cons, encToks_length]
    simp (disch := omega) only [gd_dec, room_tok, List.length_cons, List.length_nil, gd_true]
    rw [show r.length + 1 = (c :: r).length from rfl, show (r.takeWhile named).length + 1 = (c :: r.takeWhile named).length from rfl, ba_ext, h12.1, h12.2, he]
  · intro c r h1' h2' h3' h4' acc l2 n3 hl
    rw [L, e_lex_Tokens_L1000000, toks_bad r h1' h2' h3' h4', ba_nonempty, ba_first, (blank_spec _).p, blank_byte, percent_byte, h1', h2', marks_lit, (contains_spec c).p, h3', (named_spec _).p, named_byte, h4']
    simp (disch := omega) [ba_size, lexEnd]

/-- What Tokens hands back. -/
def lexRes (b : Bytes) : Option (List Tok) × Int := if b.length > 20000 then (none, 4) else match toks b with | some l => (some l, 0) | none => (none, 8)
def encRes (x : Option (List Tok) × Int) : V := .tup [.vec .plain (some 2) (encToks (x.1.getD [])), .int x.2]
theorem isU8_b (l : Bytes) : List.all (encB l) isU8 = true := isU8_encB l
theorem below_tup (l : List Tok) (n : Int) : below 0 (V.tup [V.vec .plain (some 2) (encToks l), V.int n]) = true := by simp [below, belowL, below_encToks]

theorem tokens_spec (b : Bytes) (hb : b.length ≤ 1048576) : Ev 16 [.vec .plain none (encB b)] (encRes (lexRes b)) := by
  unfold Ev lexRes encRes
  rw [C, e_lex_Tokens, encB_length, strV_encB, isU8_b]
  by_cases hl : b.length > 20000
  · simp (disch := omega) [hl, encToks]
  · have hl' : b.length ≤ 20000 := by omega
    rw [bc_dec_f (by omega), gd_true, if_neg hl]
    -- the loop, from the start or from behind one token
    have h0 := tokens_loop b [] [] 0 (by simpa using hl')
    rw [L] at h0
    cases b with
    | nil => rw [ba_toList, toks_nil]; rfl
    | cons c r =>
      rw [e_lex_Tokens_L1000000] at h0
      rw [ba_nonempty] at h0 ⊢
      simp only [bc_false] at h0 ⊢
      revert h0
      simp only [ba_first, (blank_spec _).p, blank_byte, percent_byte, (note_spec _).p, marks_lit, (contains_spec c).p, (named_spec _).p, named_byte, (name_spec _).p, obind_some', onBool_bool, onInt_int]
      have fin : ∀ (z : Option (Ex × List V × St)), z = some (lexEnd [] (toks (c :: r))) → (obind z fun r3 =>
          onEx r3.fst (onCons r3.snd.fst fun v4 c5 => onVec (some 2) v4 fun l6 => onCons c5 fun v7 c8 => onInt v7 fun n9 => onNil c8 (gd (below 0 (V.tup [V.vec .plain (some 2) l6, V.int n9])) (gd (belowSt 0 []) (some (Out.ret (V.tup [V.vec .plain (some 2) l6, V.int n9]), ([] : St))))))
            (onCons r3.snd.fst fun v10 c11 => onVec (some 2) v10 fun l12 => onCons c11 fun v13 c14 => onInt v13 fun n15 => onNil c14 (gd (below 0 (V.tup [V.vec .plain (some 2) l12, V.int n15])) (gd (belowSt 0 []) (some (Out.ret (V.tup [V.vec .plain (some 2) l12, V.int n15]), [])))))
            (fun i16 => none) fun v17 => none) = some (Out.ret (V.tup [V.vec .plain (some 2) (encToks ((match toks (c :: r) with | some l => (some l, (0 : Int)) | none => (none, 8)).1.getD [])), V.int (match toks (c :: r) with | some l => (some l, (0 : Int)) | none => (none, 8)).2]), []) := by
        intro z hz
        subst hz
        cases toks (c :: r) with
        | none => simp [lexEnd, encToks, below, belowL, belowSt]
        | some t =>
          have := below_tup t 0
          simp only [lexEnd, List.nil_append, obind_some', onEx_ret, onCons_cons, onVec_plain, onInt_int, onNil_nil, this, belowSt, Bool.and_self, gd_true]
          rfl
      intro h0
      cases hb1 : Ama.blank c with
      | true =>
        rw [hb1] at h0
        simp (disch := omega) only [bc_true, gd_and, gd_true, gd_dec, ba_size, List.length_cons] at h0 ⊢
        exact fin _ h0
      | false =>
        rw [hb1] at h0
        simp only [bc_false] at h0 ⊢
        cases hb2 : (c == 37) with
        | true =>
          rw [hb2] at h0
          have ht := takeWhile_le (p := inLine) (c :: r)
          simp only [List.length_cons] at ht
          simp (disch := omega) only [bc_true, gd_and, gd_true, gd_dec, ba_size, List.length_cons] at h0 ⊢
          exact fin _ h0
        | false =>
          rw [hb2] at h0
          simp only [bc_false] at h0 ⊢
          cases hb3 : Ama.mark c with
          | true =>
            rw [hb3] at h0
            simp (disch := omega) only [bc_true, gd_and, gd_true, gd_dec, ba_size, List.length_cons, List.length_nil, encToks_length, room_tok] at h0 ⊢
            exact fin _ h0
          | false =>
            rw [hb3] at h0
            simp only [bc_false] at h0 ⊢
            cases hb4 : named c with
            | true =>
              rw [hb4] at h0
              have ht := takeWhile_le (p := named) (c :: r)
              simp only [List.length_cons] at ht
              simp (disch := omega) only [bc_true, gd_and, gd_true, gd_dec, ba_size, List.length_cons, List.length_nil, encToks_length, room_tok] at h0 ⊢
              exact fin _ h0
            | false =>
              rw [toks_bad r hb1 hb2 hb3 hb4]
              simp (disch := omega) only [gd_and, gd_true, gd_dec, ba_size, List.length_cons, bc_false]
              rfl
end Go.Proofs.LP

/-! Tokens: the document's lexer; texts of tokens; equality. -/
namespace Go.Proofs.LP
open Go Go.AM Go.Ama

theorem rmark_spec (c : UInt8) : Ev 38 [.ik .u8 (c.toNat : Int)] (.bool (Ama.mark c)) := by
  have h : ∀ n : Int, Ev 38 [.ik .u8 n] (.bool (n == 40 || (n == 41 || (n == 91 || (n == 93 || (n == 123 || (n == 125 || (n == 58 || n == 46)))))))) := by
    intro n
    unfold Ev
    rw [C, e_ref13_mark]
    cases n == 40 <;> cases n == 41 <;> cases n == 91 <;> cases n == 93 <;> cases n == 123 <;> cases n == 125 <;> cases n == 58 <;> rfl
  have e : (((c.toNat : Int) == 40 || ((c.toNat : Int) == 41 || ((c.toNat : Int) == 91 || ((c.toNat : Int) == 93 || ((c.toNat : Int) == 123 || ((c.toNat : Int) == 125 || ((c.toNat : Int) == 58 || (c.toNat : Int) == 46)))))))) = Ama.mark c :=
    byteAll (p := fun c => (((c.toNat : Int) == 40 || ((c.toNat : Int) == 41 || ((c.toNat : Int) == 91 || ((c.toNat : Int) == 93 || ((c.toNat : Int) == 123 || ((c.toNat : Int) == 125 || ((c.toNat : Int) == 58 || (c.toNat : Int) == 46)))))))) = Ama.mark c) (by decide +kernel) c
  rw [← e]; exact h _
theorem rnamed_spec (c : UInt8) : Ev 39 [.ik .u8 (c.toNat : Int)] (.bool (named c)) := by
  have h : ∀ n : Int, Ev 39 [.ik .u8 n] (.bool (namedI n)) := by
    intro c
    unfold Ev namedI
    rw [C, e_ref13_named]
    generalize decide (c ≥ 97) = a1
    generalize decide (c ≤ 122) = a2
    generalize decide (c ≥ 65) = a3
    generalize decide (c ≤ 90) = a4
    generalize decide (c ≥ 48) = a5
    generalize decide (c ≤ 57) = a6
    generalize (c == 95) = a7
    generalize (c == 39) = a8
    cases a1 <;> cases a2 <;> cases a3 <;> cases a4 <;> cases a5 <;> cases a6 <;> cases a7 <;> cases a8 <;> rfl
  rw [← named_byte]; exact h _

theorem drop_cons {b : Bytes} {i : Nat} {c : UInt8} {r : Bytes} (h : b.drop i = c :: r) : ∃ hi : i < b.length, b[i] = c ∧ b.drop (i + 1) = r := by
  have hi : i < b.length := by
    rcases Nat.lt_or_ge i b.length with h' | h'
    · exact h'
    · rw [List.drop_eq_nil_iff.2 h'] at h; cases h
  rw [List.drop_eq_getElem_cons hi] at h
  simp only [List.cons.injEq] at h
  exact ⟨hi, h.1, h.2⟩

theorem bne10 (c : UInt8) : ((c.toNat : Int) != 10) = inLine c := byteAll (p := fun c => ((c.toNat : Int) != 10) = inLine c) (by decide +kernel) c

theorem rskip_loop (b : Bytes) (hb : b.length ≤ 1048576) (acc : List V) : ∀ k i, i + k = b.length → W.loop 17 12 [.int (i : Nat), .vec .plain none (encB b), .vec .grow (some 2) acc] [] =
    some (Ex.exit 2, [.int ((i + ((b.drop i).takeWhile inLine).length : Nat) : Int), .vec .plain none (encB b), .vec .grow (some 2) acc], [])
  | 0, i, h => by
    rw [L, e_ref13_Tokens_L12, List.drop_eq_nil_iff.2 (by omega), encB_length]
    simp (disch := omega)
  | k + 1, i, h => by
    have hi : i < b.length := by omega
    have ih := rskip_loop b hb acc k (i + 1) (by omega)
    rw [L, e_ref13_Tokens_L12, List.drop_eq_getElem_cons hi, encB_length, getI_encB hi, onIk_ik, bne10, List.takeWhile_cons]
    simp (disch := omega) only [bc_dec_t, gd_and, gd_dec, wrap_i]
    cases inLine b[i] with
    | false => simp
    | true =>
      simp only [bc_true, if_true, List.length_cons]
      have e : ((i : Int) + 1) = ((i + 1 : Nat) : Int) := by omega
      rw [e]
      refine Eq.trans ih ?_
      simp; omega

theorem rname_loop (b : Bytes) (hb : b.length ≤ 1048576) (i0 : Int) (acc : List V) : ∀ k i, i + 1 + k = b.length → W.loop 17 20 [.vec .plain none (encB b), .int (i : Nat), .int i0, .vec .grow (some 2) acc, .bool true] [] =
    some (Ex.exit 4, [.vec .plain none (encB b), .int ((i + 1 + ((b.drop (i + 1)).takeWhile named).length : Nat) : Int), .int i0, .vec .grow (some 2) acc], []) := by
  have stop : ∀ i : Int, W.loop 17 20 [.vec .plain none (encB b), .int i, .int i0, .vec .grow (some 2) acc, .bool false] [] = some (Ex.exit 4, [.vec .plain none (encB b), .int i, .int i0, .vec .grow (some 2) acc], []) := by
    intro i; rw [L, e_ref13_Tokens_L20]; rfl
  intro k
  induction k with
  | zero =>
    intro i h
    have h2 : ¬ ((i : Int) + 1 < (b.length : Int)) := by omega
    rw [L, e_ref13_Tokens_L20, List.drop_eq_nil_iff.2 (by omega), encB_length]
    simp (disch := omega) only [bc_true, wrap_i, bc_dec_f]
    rw [decide_eq_false h2]
    refine Eq.trans (stop _) ?_
    simp
  | succ k ih =>
    intro i h
    have hi : i + 1 < b.length := by omega
    have ih := ih (i + 1) (by omega)
    have e : ((i : Int) + 1) = ((i + 1 : Nat) : Int) := by omega
    rw [L, e_ref13_Tokens_L20, List.drop_eq_getElem_cons hi, encB_length, List.takeWhile_cons]
    simp (disch := omega) only [bc_true, wrap_i, bc_dec_t, gd_and, gd_dec]
    rw [e, getI_encB hi]
    simp only [onIk_ik, (rnamed_spec _).p, obind_some', onBool_bool]
    cases hn : named b[i + 1] with
    | false => refine Eq.trans (stop _) ?_; simp
    | true =>
      refine Eq.trans ih ?_
      simp; omega

theorem take_one {b : Bytes} {i : Nat} (hi : i < b.length) : (b.take (i + 1)).drop i = [b[i]] := by
  rw [List.take_succ_eq_append_getElem hi, List.drop_append_of_le_length (by simp; omega), List.drop_take]
  simp
theorem take_part (b : Bytes) (i n : Nat) : (b.take (i + n)).drop i = (b.drop i).take n := by rw [List.drop_take]; congr 1; omega

theorem beq32 (c : UInt8) : ((c.toNat : Int) == 32) = (c == 32) := byteAll (p := fun c => ((c.toNat : Int) == 32) = (c == 32)) (by decide +kernel) c
theorem beq9 (c : UInt8) : ((c.toNat : Int) == 9) = (c == 9) := byteAll (p := fun c => ((c.toNat : Int) == 9) = (c == 9)) (by decide +kernel) c
theorem beq10 (c : UInt8) : ((c.toNat : Int) == 10) = (c == 10) := byteAll (p := fun c => ((c.toNat : Int) == 10) = (c == 10)) (by decide +kernel) c
theorem not_blank {c : UInt8} (h : Ama.blank c = false) : (c == 32) = false ∧ (c == 9) = false ∧ (c == 10) = false := by
  simp only [Ama.blank, Bool.or_eq_false_iff] at h
  exact ⟨h.1.1, h.1.2, h.2⟩

/-- What the document's lexer comes to, behind some tokens. -/
def rlexEnd (acc : List Tok) : Option (List Tok) → Ex × List V × St
  | some t => (Ex.exit 0, [V.vec .grow (some 2) (encToks (acc ++ t))], [])
  | none => (Ex.ret, [V.vec .plain (some 2) [], V.int 8], [])

theorem rtokens_loop (b : Bytes) (hb : b.length ≤ 20000) : ∀ (rest : Bytes) (i : Nat) (acc : List Tok), b.drop i = rest → i ≤ b.length → acc.length ≤ i →
    W.loop 17 5 [.int (i : Nat), .vec .plain none (encB b), .vec .grow (some 2) (encToks acc)] [] = some (rlexEnd acc (toks rest)) := by
  refine bytes_ind ?_ ?_ ?_ ?_ ?_ ?_
  · intro i acc hd hi ha
    have : b.length ≤ i := List.drop_eq_nil_iff.1 hd
    rw [L, e_ref13_Tokens_L5, encB_length, toks_nil]
    simp (disch := omega) [rlexEnd]
  · intro c r hc ih i acc hd hi ha
    obtain ⟨hi', rfl, hr⟩ := drop_cons hd
    have ih := ih (i + 1) acc hr (by omega) (by omega)
    have e : ((i : Int) + 1) = ((i + 1 : Nat) : Int) := by omega
    rw [L, e_ref13_Tokens_L5, encB_length, getI_encB hi', toks_blank _ hc, ← ih]
    simp (disch := omega) only [bc_dec_t, gd_and, gd_dec, onIk_ik, (rmark_spec _).p, (rnamed_spec _).p, obind_some', onBool_bool, wrap_i, beq32, beq9, beq10, e]
    simp only [Ama.blank, Bool.or_eq_true] at hc
    rcases hc with (hc | hc) | hc
    · rw [hc]; rfl
    · rw [hc]; cases b[i] == 32 <;> rfl
    · rw [hc]; cases b[i] == 32 <;> cases b[i] == 9 <;> rfl
  · intro r ih i acc hd hi ha
    obtain ⟨hi', hc, hr⟩ := drop_cons hd
    have hsk := rskip_loop b (by omega) (encToks acc) (b.length - i) i (by omega)
    have htd := take_takeWhile (p := inLine) (37 :: r)
    have h3 : (37 :: r).dropWhile inLine = r.dropWhile inLine := by simp [List.dropWhile_cons, inLine]
    have hlen := takeWhile_le (p := inLine) (37 :: r)
    have hbl : (b.drop i).length = b.length - i := List.length_drop
    rw [hd] at hsk hbl
    have ih := ih (i + ((37 :: r).takeWhile inLine).length) acc (by rw [← List.drop_drop, hd, htd.2, h3]) (by omega) (by omega)
    rw [L, e_ref13_Tokens_L5, encB_length, getI_encB hi', hc, toks_note _ rfl, ← ih]
    simp (disch := omega) only [bc_dec_t, gd_and, gd_dec, onIk_ik, (rmark_spec _).p, (rnamed_spec _).p, obind_some', onBool_bool, hsk]
    have h37 : ((37 : UInt8).toNat : Int) = 37 := by decide
    simp [h37]
  · intro c r hc ih i acc hd hi ha
    obtain ⟨hi', rfl, hr⟩ := drop_cons hd
    obtain ⟨h7, h8, _⟩ := mark_facts hc
    obtain ⟨h9, h10, h11⟩ := not_blank h7
    have ih := ih (i + 1) (acc ++ [(1, [b[i]])]) hr (by omega) (by simp; omega)
    have e : ((i : Int) + 1) = ((i + 1 : Nat) : Int) := by omega
    have he : encToks acc ++ [V.agg [V.int 1, V.str (ba [b[i]])]] = encToks (acc ++ [(1, [b[i]])]) := by rw [encToks_append]; rfl
    have hend : rlexEnd acc ((toks r).map ((1, [b[i]]) :: ·)) = rlexEnd (acc ++ [(1, [b[i]])]) (toks r) := by cases toks r <;> simp [rlexEnd]
    rw [L, e_ref13_Tokens_L5, encB_length, getI_encB hi', toks_mark _ hc, hend, ← ih]
    simp (disch := omega) only [bc_dec_t, gd_and, gd_dec, onIk_ik, (rmark_spec _).p, (rnamed_spec _).p, obind_some', onBool_bool, wrap_i, beq32, beq9, beq10, percent_byte, h8, h9, h10, h11, bc_false, hc, bc_true, gd_true, List.length_cons, List.length_nil, encToks_length, room_tok]
    rw [e]
    simp only [Int.toNat_natCast, encB_take, encB_drop, take_one hi', isU8_b, gd_true, strV_encB, he]
  · intro c r hc ih i acc hd hi ha
    obtain ⟨hi', rfl, hr⟩ := drop_cons hd
    obtain ⟨h7, h8, h12, _⟩ := named_facts hc
    obtain ⟨h9, h10, h11⟩ := not_blank h7
    have hnl := rname_loop b (by omega) (i : Nat) (encToks acc) (b.length - i - 1) i (by omega)
    have htd := take_takeWhile (p := named) r
    have hlen := takeWhile_le (p := named) r
    have hbl : (b.drop (i + 1)).length = b.length - (i + 1) := List.length_drop
    rw [hr] at hnl hbl
    have hpart : (b.take (i + 1 + (r.takeWhile named).length)).drop i = b[i] :: r.takeWhile named := by
      rw [show i + 1 + (r.takeWhile named).length = i + ((r.takeWhile named).length + 1) by omega, take_part, hd, List.take_succ_cons, htd.1]
    have ih := ih (i + 1 + (r.takeWhile named).length) (acc ++ [(0, b[i] :: r.takeWhile named)]) (by rw [← List.drop_drop, hr, htd.2]) (by omega) (by simp; omega)
    have he : encToks acc ++ [V.agg [V.int 0, V.str (ba (b[i] :: r.takeWhile named))]] = encToks (acc ++ [(0, b[i] :: r.takeWhile named)]) := by rw [encToks_append]; rfl
    have hend : rlexEnd acc ((toks (r.dropWhile named)).map ((0, b[i] :: r.takeWhile named) :: ·)) = rlexEnd (acc ++ [(0, b[i] :: r.takeWhile named)]) (toks (r.dropWhile named)) := by cases toks (r.dropWhile named) <;> simp [rlexEnd]
    rw [L, e_ref13_Tokens_L5, encB_length, getI_encB hi', toks_name _ hc, hend, ← ih]
    simp (disch := omega) only [bc_dec_t, gd_and, gd_dec, onIk_ik, (rmark_spec _).p, (rnamed_spec _).p, obind_some', onBool_bool, wrap_i, beq32, beq9, beq10, percent_byte, h8, h9, h10, h11, h12, bc_false, hc, bc_not, bc_true]
    simp (disch := omega) only [hnl, obind_some', onEx_exit, Nat.beq_refl, bc_true, onCons_cons, onVec_plain, onInt_int, onRoom_grow, onNil_nil, gd_dec, gd_and, encB_length, List.length_cons, List.length_nil, encToks_length, room_tok, gd_true, Int.toNat_natCast, encB_take, encB_drop, hpart, isU8_b, strV_encB, he]
  · intro c r h1' h2' h3' h4' i acc hd hi ha
    obtain ⟨hi', rfl, hr⟩ := drop_cons hd
    obtain ⟨h9, h10, h11⟩ := not_blank h1'
    rw [L, e_ref13_Tokens_L5, encB_length, getI_encB hi', toks_bad _ h1' h2' h3' h4']
    simp (disch := omega) only [bc_dec_t, gd_and, gd_dec, onIk_ik, (rmark_spec _).p, (rnamed_spec _).p, obind_some', onBool_bool, wrap_i, beq32, beq9, beq10, percent_byte, h2', h9, h10, h11, h3', h4', bc_false, bc_not, bc_true]
    rfl

theorem rtokens_spec (b : Bytes) (hb : b.length ≤ 1048576) : Ev 17 [.vec .plain none (encB b)] (encRes (lexRes b)) := by
  unfold Ev lexRes encRes
  rw [C, e_ref13_Tokens, encB_length]
  by_cases hl : b.length > 20000
  · simp (disch := omega) [hl, encToks]
  · have h0 := rtokens_loop b (by omega) b 0 [] rfl (by omega) (by simp)
    have h0' : W.loop 17 5 [.int 0, .vec .plain none (encB b), .vec .grow (some 2) []] [] = some (rlexEnd [] (toks b)) := h0
    rw [bc_dec_f (by omega), if_neg hl, h0']
    cases toks b with
    | none => simp [rlexEnd, encToks, below, belowL, belowSt]
    | some t =>
      have := below_tup t 0
      simp [rlexEnd, this, belowSt]

/-! ### equality -/
theorem onStruct_tok {R : Type} (t : Tok) (K : Int → ByteArray → Option R) : onStruct (R := R) [CT.int, CT.str] (encTok t) K = K t.1 (ba t.2) := rfl
theorem tok_beq (a b : Tok) : (true && a.1 == b.1 && (ba a.2).toList == (ba b.2).toList) = decide (a = b) := by
  rw [ba_eq, Bool.true_and]
  obtain ⟨k, s⟩ := a
  obtain ⟨k', s'⟩ := b
  by_cases h : k = k' <;> by_cases h2 : s = s' <;> simp [h, h2]

theorem same_loop (a b : List Tok) (hl : a.length = b.length) (hb : a.length ≤ 1048576) : ∀ k i, i + k = a.length → W.loop 18 4 [.int (i : Nat), .vec .plain (some 2) (encToks b), .vec .plain (some 2) (encToks a)] [] =
    some (if a.drop i = b.drop i then (Ex.exit 0, [], []) else (Ex.ret, [V.bool false], []))
  | 0, i, h => by
    rw [L, e_ref13_Same_L4, encToks_length, List.drop_eq_nil_iff.2 (by omega), List.drop_eq_nil_iff.2 (by omega)]
    simp (disch := omega)
  | k + 1, i, h => by
    have hi : i < a.length := by omega
    have hi' : i < b.length := by omega
    have ih := same_loop a b hl hb k (i + 1) (by omega)
    have e : ((i : Int) + 1) = ((i + 1 : Nat) : Int) := by omega
    rw [L, e_ref13_Same_L4, encToks_length, encToks_length, getI_encToks hi, getI_encToks hi', List.drop_eq_getElem_cons hi, List.drop_eq_getElem_cons hi']
    simp (disch := omega) only [bc_dec_t, gd_and, gd_dec, wrap_i, onStruct_tok, tok_beq, e]
    by_cases he : a[i] = b[i]
    · simp only [he, decide_true, Bool.not_true, bc_false]
      refine Eq.trans ih ?_
      simp only [List.cons.injEq, true_and]
    · simp only [he, decide_false, Bool.not_false, bc_true, List.cons.injEq, false_and, if_false]

theorem same_spec (a b : List Tok) (hb : a.length ≤ 1048576) : Ev 18 [.vec .plain (some 2) (encToks a), .vec .plain (some 2) (encToks b)] (.bool (decide (a = b))) := by
  unfold Ev
  rw [C, e_ref13_Same, encToks_length, encToks_length]
  by_cases hl : a.length = b.length
  · have h := same_loop a b hl hb a.length 0 (by omega)
    have h' : W.loop 18 4 [.int 0, .vec .plain (some 2) (encToks b), .vec .plain (some 2) (encToks a)] [] = some (if a = b then (Ex.exit 0, [], []) else (Ex.ret, [V.bool false], [])) := h
    rw [h']
    by_cases he : a = b
    · simp [he]
    · simp (disch := omega) [he]
  · have he : a ≠ b := fun e => hl (by rw [e])
    simp (disch := omega) [he]

/-! ### texts -/
theorem text_loop (l : List Tok) (hl : weight l + 2 * l.length ≤ 1048576) : ∀ k i (acc : Bytes) (last : Int), i + k = l.length → acc.length + weight (l.drop i) + 2 * (l.drop i).length ≤ 10485760 →
    W.loop 19 4 [.int (i : Nat), .vec .grow none (encB acc), .int last, .vec .plain (some 2) (encToks l), .int l.length] [] = some (Ex.exit 0, [.vec .grow none (encB (acc ++ textFrom last (l.drop i)))], [])
  | 0, i, acc, last, h, _ => by
    rw [L, e_lex_Text_L4, List.drop_eq_nil_iff.2 (by omega)]
    simp (disch := omega) [textFrom]
  | k + 1, i, acc, last, h, hw => by
    have hi : i < l.length := by omega
    rw [List.drop_eq_getElem_cons hi] at hw ⊢
    obtain ⟨kd, s, ht⟩ : ∃ kd s, l[i] = (kd, s) := ⟨_, _, rfl⟩
    rw [ht] at hw ⊢
    simp only [weight, List.length_cons] at hw
    have e : ((i : Int) + 1) = ((i + 1 : Nat) : Int) := by omega
    have ih := fun acc h => text_loop l hl k (i + 1) acc kd (by omega) h
    rw [L, e_lex_Text_L4, encToks_length, getI_encToks hi, ht]
    simp (disch := omega) only [bc_dec_t, gd_and, gd_dec, gd_true, wrap_i, onStruct_tok, bytesV_ba, List.length_append, List.length_cons, List.length_nil, encB_length, room_byte, e]
    have e32 : encB acc ++ [V.ik IntKind.u8 32] = encB (acc ++ [32]) := by rw [encB_append]; rfl
    simp only [e32, ← encB_append]
    have r0 := ih (acc ++ s) (by simp only [List.length_append]; omega)
    have r1 := ih (acc ++ [32] ++ s) (by simp only [List.length_append, List.length_cons, List.length_nil]; omega)
    by_cases h1 : kd = 0
    · subst h1
      by_cases h2 : last = 0
      · subst h2
        simp only [beq_self_eq_true, bc_true]
        refine Eq.trans r1 ?_
        simp [textFrom]
      · simp (disch := omega) only [beq_self_eq_true, bc_true, bc_beq_f]
        refine Eq.trans r0 ?_
        simp [textFrom, h2]
    · simp (disch := omega) only [bc_beq_f]
      refine Eq.trans r0 ?_
      simp [textFrom, h1]

theorem text_spec (l : List Tok) (hl : weight l + 2 * l.length ≤ 1048576) : Ev 19 [.vec .plain (some 2) (encToks l)] (.vec .plain none (encB (text l))) := by
  have h := text_loop l hl l.length 0 [] 1 (by omega) (by simp; omega)
  have h' : W.loop 19 4 [.int 0, .vec .grow none [], .int 1, .vec .plain (some 2) (encToks l), .int l.length] [] = some (Ex.exit 0, [.vec .grow none (encB (text l))], []) := h
  unfold Ev
  rw [C, e_lex_Text, encToks_length, h']
  simp [below, belowSt, below_encB]
theorem kind_tok (t : Tok) : AM.partOf [V.int t.1, V.str (ba t.2)] 0 none = V.int t.1 := rfl
theorem txt_tok (t : Tok) : AM.partOf [V.int t.1, V.str (ba t.2)] 1 none = V.str (ba t.2) := rfl

theorem rtext_loop (l : List Tok) (hl : weight l + 2 * l.length ≤ 1048576) : ∀ k i (acc : Bytes), i + k = l.length → acc.length + weight (l.drop i) + 2 * (l.drop i).length ≤ 10485760 →
    W.loop 20 3 [.int (i : Nat), .vec .plain (some 2) (encToks l), .vec .grow none (encB acc)] [] = some (Ex.exit 0, [.vec .grow none (encB (acc ++ textFrom (if h : i ≠ 0 ∧ i ≤ l.length then (l[i - 1]'(by omega)).1 else 1) (l.drop i)))], [])
  | 0, i, acc, h, _ => by
    rw [L, e_ref13_Text_L3, List.drop_eq_nil_iff.2 (by omega)]
    simp (disch := omega) [textFrom]
  | k + 1, i, acc, h, hw => by
    have hi : i < l.length := by omega
    have hd := List.drop_eq_getElem_cons hi
    rw [hd] at hw ⊢
    have hws : weight (l[i] :: l.drop (i + 1)) = l[i].2.length + weight (l.drop (i + 1)) := rfl
    rw [hws, List.length_cons] at hw
    have e : ((i : Int) + 1) = ((i + 1 : Nat) : Int) := by omega
    have ih := fun acc h => rtext_loop l hl k (i + 1) acc (by omega) h
    have hts : ∀ last, textFrom last (l[i] :: l.drop (i + 1)) = (if l[i].1 = 0 ∧ last = 0 then [32] else []) ++ l[i].2 ++ textFrom l[i].1 (l.drop (i + 1)) := fun last => rfl
    have hc1 : (i + 1 ≠ 0 ∧ i + 1 ≤ l.length) := ⟨by omega, by omega⟩
    simp only [dif_pos hc1, Nat.add_sub_cancel] at ih
    have e32 : encB acc ++ [V.ik IntKind.u8 32] = encB (acc ++ [32]) := by rw [encB_append]; rfl
    have r0 := ih (acc ++ l[i].2) (by simp only [List.length_append]; omega)
    have r1 := ih (acc ++ [32] ++ l[i].2) (by simp only [List.length_append, List.length_cons, List.length_nil]; omega)
    rw [L, e_ref13_Text_L3, encToks_length, getI_encToks hi, hts]
    by_cases h0 : i = 0
    · subst h0
      rw [dif_neg (by omega)]
      simp (disch := omega) only [bc_dec_t, bc_dec_f, gd_and, gd_dec, gd_true, wrap_i, encTok, onAgg_agg, List.length_cons, List.length_nil, txt_tok, onStr_str, bytesV_ba, encB_length, room_byte, e, ← encB_append]
      refine Eq.trans r0 ?_
      simp
    · have hi1 : i - 1 < l.length := by omega
      have e1 : ((i : Int) - 1) = ((i - 1 : Nat) : Int) := by omega
      rw [dif_pos ⟨h0, by omega⟩]
      simp (disch := omega) only [bc_dec_t, gd_and, gd_dec, gd_true, wrap_i, encTok, onAgg_agg, List.length_cons, List.length_nil, kind_tok, txt_tok, onStr_str, onInt_int, bytesV_ba, encB_length, List.length_append, room_byte, e, e1, e32, getI_encToks hi1, ← encB_append]
      by_cases h1 : l[i].1 = 0
      · by_cases h2 : l[i - 1].1 = 0
        · simp (disch := omega) only [bc_beq_t]
          refine Eq.trans r1 ?_
          simp [h1, h2]
        · simp (disch := omega) only [bc_beq_t, bc_beq_f]
          refine Eq.trans r0 ?_
          simp [h2]
      · simp (disch := omega) only [bc_beq_f]
        refine Eq.trans r0 ?_
        simp [h1]

theorem rtext_spec (l : List Tok) (hl : weight l + 2 * l.length ≤ 1048576) : Ev 20 [.vec .plain (some 2) (encToks l)] (.vec .plain none (encB (text l))) := by
  have h := rtext_loop l hl l.length 0 [] (by omega) (by simp; omega)
  have h' : W.loop 20 3 [.int 0, .vec .plain (some 2) (encToks l), .vec .grow none []] [] = some (Ex.exit 0, [.vec .grow none (encB (text l))], []) := by
    rw [dif_neg (by omega)] at h; exact h
  unfold Ev
  rw [C, e_ref13_Text, h']
  simp [below, belowSt, below_encB]
end Go.Proofs.LP

/-! What a law is handed: bytes, tokens. -/
namespace Go.Proofs.LP
open Go Go.AM Go.Ama

theorem dec_int {n : Nat} {cs : List V} (h : WT Try.prog n 3 cs) : ∃ z : Int, cs = [.int z] ∧ I64 z := by
  cases n with
  | zero => exact h.elim
  | succ n =>
    simp only [WT, Try.underlying3] at h
    obtain ⟨z, h1, h2⟩ := h
    refine ⟨z, h1, ?_⟩
    simpa [Lit.wf, IntKind.min, IntKind.max, IntKind.signed, IntKind.bits, I64] using h2
theorem dec_byte {n : Nat} {cs : List V} (h : WT Try.prog n 5 cs) : ∃ c : UInt8, cs = [.ik .u8 (c.toNat : Int)] := by
  cases n with
  | zero => exact h.elim
  | succ n =>
    simp only [WT, Try.underlying5] at h
    obtain ⟨z, h1, h2⟩ := h
    have h3 : 0 ≤ z ∧ z ≤ 255 := by simpa [Lit.wf, IntKind.min, IntKind.max, IntKind.signed, IntKind.bits] using h2
    refine ⟨UInt8.ofNat z.toNat, ?_⟩
    rw [h1]
    have : ((UInt8.ofNat z.toNat).toNat : Int) = z := by
      rw [UInt8.toNat_ofNat']
      omega
    rw [this]
theorem dec_string {n : Nat} {cs : List V} (h : WT Try.prog n 9 cs) : ∃ s : Bytes, cs = [.str (ba s)] := by
  cases n with
  | zero => exact h.elim
  | succ n =>
    simp only [WT, Try.underlying9] at h
    obtain ⟨s, h1, h2⟩ := h
    exact ⟨s.data.toList, by rw [ba_data]; exact h1⟩

theorem shByte : shOf Try.prog 5 = none := by kernel_rfl
theorem shTok : shOf Try.prog 34 = some 2 := by kernel_rfl
theorem shBytes : shOf Try.prog 22 = none := by kernel_rfl
theorem shToks : shOf Try.prog 23 = none := by kernel_rfl
theorem shInt : shOf Try.prog 3 = none := by kernel_rfl
theorem cellsTok : Try.prog.cellsOf 34 = 2 := by kernel_rfl
theorem cellsInt : Try.prog.cellsOf 3 = 1 := by kernel_rfl
theorem cellsString : Try.prog.cellsOf 9 = 1 := by kernel_rfl

theorem list2 {l : List V} (h : l.length = 2) : ∃ x y, l = [x, y] := by
  match l, h with
  | [x, y], _ => exact ⟨x, y, rfl⟩
theorem one_cell {v : V} (h : Shaped none v) : AM.cellsOf v = [v] := by cases v <;> first | rfl | exact h.elim

theorem dec_bytes {v : V} (h : (∃ n, WT Try.prog n 22 (AM.cellsOf v)) ∧ Shaped (shOf Try.prog 22) v) : ∃ b : Bytes, v = .vec .plain none (encB b) := by
  obtain ⟨⟨n, h1⟩, h2⟩ := h
  rw [shBytes] at h2
  rw [one_cell h2] at h1
  cases n with
  | zero => exact h1.elim
  | succ n =>
    simp only [WT, Try.underlying22] at h1
    obtain ⟨es, he, _, hes⟩ := h1
    simp only [List.cons.injEq, and_true] at he
    subst he
    rw [shByte] at hes ⊢
    have : ∀ es : List V, (∀ v ∈ es, Shaped none v ∧ WT Try.prog n 5 (AM.cellsOf v)) → ∃ b : Bytes, es = encB b := by
      intro es
      induction es with
      | nil => intro _; exact ⟨[], rfl⟩
      | cons v es ih =>
        intro h
        obtain ⟨k1, k2⟩ := h v (by simp)
        obtain ⟨b, rfl⟩ := ih fun u hu => h u (by simp [hu])
        rw [one_cell k1] at k2
        obtain ⟨c, hc⟩ := dec_byte k2
        simp only [List.cons.injEq, and_true] at hc
        exact ⟨c :: b, by rw [hc]; rfl⟩
    obtain ⟨b, rfl⟩ := this es hes
    exact ⟨b, rfl⟩

theorem dec_toks {v : V} (h : (∃ n, WT Try.prog n 23 (AM.cellsOf v)) ∧ Shaped (shOf Try.prog 23) v) : ∃ l : List Tok, v = .vec .plain (some 2) (encToks l) := by
  obtain ⟨⟨n, h1⟩, h2⟩ := h
  rw [shToks] at h2
  rw [one_cell h2] at h1
  cases n with
  | zero => exact h1.elim
  | succ n =>
    simp only [WT, Try.underlying23] at h1
    obtain ⟨es, he, _, hes⟩ := h1
    simp only [List.cons.injEq, and_true] at he
    subst he
    rw [shTok] at hes ⊢
    have : ∀ es : List V, (∀ v ∈ es, Shaped (some 2) v ∧ WT Try.prog n 34 (AM.cellsOf v)) → ∃ l : List Tok, es = encToks l := by
      intro es
      induction es with
      | nil => intro _; exact ⟨[], rfl⟩
      | cons v es ih =>
        intro h
        obtain ⟨k1, k2⟩ := h v (by simp)
        obtain ⟨l, rfl⟩ := ih fun u hu => h u (by simp [hu])
        cases v with
        | agg cs =>
          cases n with
          | zero => exact k2.elim
          | succ n =>
            simp only [WT, Try.underlying34] at k2
            obtain ⟨hl, hf⟩ := k2
            rw [cellsTok] at hl
            obtain ⟨x, y, rfl⟩ := list2 hl
            simp only [List.forall_mem_cons] at hf
            obtain ⟨f1, f2, _⟩ := hf
            simp only [cellsInt, cellsString, List.drop_zero, List.drop_succ_cons, List.take_succ_cons, List.take_zero] at f1 f2
            obtain ⟨k, hk, _⟩ := dec_int f1
            obtain ⟨s, hs⟩ := dec_string f2
            cases hk; cases hs
            exact ⟨(k, s) :: l, rfl⟩
        | _ => exact k1.elim
    obtain ⟨l, rfl⟩ := this es hes
    exact ⟨l, rfl⟩
theorem dec_num {v : V} (h : (∃ n, WT Try.prog n 3 (AM.cellsOf v)) ∧ Shaped (shOf Try.prog 3) v) : ∃ z, v = .int z ∧ I64 z := by
  obtain ⟨⟨n, h1⟩, h2⟩ := h
  rw [shInt] at h2
  rw [one_cell h2] at h1
  obtain ⟨z, hz, h3⟩ := dec_int h1
  simp only [List.cons.injEq, and_true] at hz
  exact ⟨z, hz, h3⟩
theorem dec_u8 {v : V} (h : (∃ n, WT Try.prog n 5 (AM.cellsOf v)) ∧ Shaped (shOf Try.prog 5) v) : ∃ c : UInt8, v = .ik .u8 (c.toNat : Int) := by
  obtain ⟨⟨n, h1⟩, h2⟩ := h
  rw [shByte] at h2
  rw [one_cell h2] at h1
  obtain ⟨z, hz⟩ := dec_byte h1
  simp only [List.cons.injEq, and_true] at hz
  exact ⟨z, hz⟩
end Go.Proofs.LP

/-! The laws of tokens, on the abstract machine. -/
namespace Go.Proofs.LP
open Go Go.AM Go.Ama

theorem lex_awake : Ev 15 [] (.bool true) := Ev.of_check (m := 40) (by decide +kernel)
theorem awake_p : pcall W 15 [] = some (.bool true) := lex_awake.p
theorem below_res (x : Option (List Tok) × Int) : below 0 (encRes x) = true := by simp [encRes, below, belowL, below_encToks]
theorem tokens_p (b : Bytes) (h : b.length ≤ 1048576) : pcall W 16 [.vec .plain none (encB b)] = some (.tup [.vec .plain (some 2) (encToks ((lexRes b).1.getD [])), .int (lexRes b).2]) :=
  (tokens_spec b h).p (by simp [belowL, below, below_encB]) (below_res _)
theorem rtokens_p (b : Bytes) (h : b.length ≤ 1048576) : pcall W 17 [.vec .plain none (encB b)] = some (.tup [.vec .plain (some 2) (encToks ((lexRes b).1.getD [])), .int (lexRes b).2]) :=
  (rtokens_spec b h).p (by simp [belowL, below, below_encB]) (below_res _)
theorem same_p (a b : List Tok) (h : a.length ≤ 1048576) : pcall W 18 [.vec .plain (some 2) (encToks a), .vec .plain (some 2) (encToks b)] = some (.bool (decide (a = b))) :=
  (same_spec a b h).p (by simp [belowL, below, below_encToks])
theorem text_p (l : List Tok) (h : weight l + 2 * l.length ≤ 1048576) : pcall W 19 [.vec .plain (some 2) (encToks l)] = some (.vec .plain none (encB (text l))) :=
  (text_spec l h).p (by simp [belowL, below, below_encToks]) (by simp [below, below_encB])
theorem rtext_p (l : List Tok) (h : weight l + 2 * l.length ≤ 1048576) : pcall W 20 [.vec .plain (some 2) (encToks l)] = some (.vec .plain none (encB (text l))) :=
  (rtext_spec l h).p (by simp [belowL, below, below_encToks]) (by simp [below, below_encB])

/-- A short text. -/
theorem lexRes_short {b : Bytes} (h : b.length ≤ 20000) : lexRes b = match toks b with | some l => (some l, 0) | none => (none, 8) := by
  unfold lexRes; rw [if_neg (by omega)] <;> cases toks b <;> rfl
theorem lexRes_ok {b : Bytes} {l : List Tok} (h : b.length ≤ 20000) (hl : toks b = some l) : lexRes b = (some l, 0) := by rw [lexRes_short h, hl]
theorem lexRes_bad {b : Bytes} (h : b.length ≤ 20000) (hl : toks b = none) : lexRes b = (none, 8) := by rw [lexRes_short h, hl]
theorem lexRes_len (b : Bytes) : ((lexRes b).1.getD []).length ≤ b.length := by
  unfold lexRes
  split
  · simp
  · cases h : toks b with
    | none => simp
    | some l =>
      have := length_le_weight l (toks_ok b l h)
      have := toks_weight b l h
      simp; omega

theorem lexTells_ev (b : Bytes) (l : List Tok) (hb : b.length ≤ 1048576) (hl : weight l + 2 * l.length ≤ 1048576) : Ev 3 [.vec .plain none (encB b), .vec .plain (some 2) (encToks l)] (.bool true) := by
  unfold Ev
  rw [C, e_law13_LexTells, awake_p, encB_length, encToks_length]
  simp only [obind_some', onBool_bool, Bool.not_true, bc_false]
  by_cases h1 : b.length > 30000
  · rw [bc_dec_t (by omega)]
  rw [bc_dec_f (by omega)]
  by_cases h2 : l.length > 200
  · rw [bc_dec_t (by omega)]
  rw [bc_dec_f (by omega)]
  have h3 := lexRes_len b
  rw [tokens_p b hb, rtokens_p b hb]
  simp only [obind_some', onTup_tup, onCons_cons, onVec_plain, onInt_int, onNil_nil]
  rw [same_p _ _ (by omega), text_p l hl, rtext_p l hl]
  simp [isU8_b]

theorem lexBack_loop (b : Bytes) (hb : b.length ≤ 5000) (s : Bool) (n : Int) (ts : List V) : ∀ k i (acc : Bytes), i + k = b.length → acc.length ≤ 13 * i →
    W.loop 4 11 [.int (i : Nat), .vec .plain none (encB b), .vec .grow none (encB acc), .bool s, .int n, .vec .plain (some 2) ts] [] = some (Ex.exit 0, [.bool s, .int n, .vec .plain (some 2) ts, .vec .grow none (encB (acc ++ withNotes (b.drop i)))], [])
  | 0, i, acc, h, _ => by
    rw [L, e_law13_LexBack_L11, encB_length, List.drop_eq_nil_iff.2 (by omega)]
    simp (disch := omega) [withNotes]
  | k + 1, i, acc, h, ha => by
    have hi : i < b.length := by omega
    have e : ((i : Int) + 1) = ((i + 1 : Nat) : Int) := by omega
    have ih := fun acc h => lexBack_loop b hb s n ts k (i + 1) acc (by omega) h
    rw [L, e_law13_LexBack_L11, encB_length, getI_encB hi, List.drop_eq_getElem_cons hi]
    have e1 : encB acc ++ [V.ik IntKind.u8 (b[i].toNat : Int)] = encB (acc ++ [b[i]]) := by rw [encB_append]; rfl
    have e2 : ∀ a : Bytes, encB a ++ [V.ik IntKind.u8 32, V.ik IntKind.u8 9, V.ik IntKind.u8 37, V.ik IntKind.u8 32, V.ik IntKind.u8 97, V.ik IntKind.u8 32, V.ik IntKind.u8 40, V.ik IntKind.u8 110, V.ik IntKind.u8 111, V.ik IntKind.u8 116, V.ik IntKind.u8 101, V.ik IntKind.u8 10] = encB (a ++ note) := by
      intro a; rw [encB_append]; rfl
    simp (disch := omega) only [bc_dec_t, gd_and, gd_dec, gd_true, onIk_ik, wrap_i, e, beq10, e1, e2, List.length_append, encB_length, List.length_cons, List.length_nil, room_byte]
    cases h10 : b[i] == 10 with
    | true =>
      have h10' : b[i] = 10 := by simpa using h10
      refine Eq.trans (ih _ (by simp [note]; omega)) ?_
      simp [withNotes, h10']
    | false =>
      have h10' : b[i] ≠ 10 := by simpa using h10
      refine Eq.trans (ih _ (by simp; omega)) ?_
      simp [withNotes, h10']

theorem withNotes_length : ∀ b : Bytes, (withNotes b).length ≤ 13 * b.length
  | [] => by simp [withNotes]
  | c :: r => by
    have := withNotes_length r
    by_cases h : c = 10
    · simp [withNotes, h, note]; omega
    · simp [withNotes, h]; omega

theorem lexBack_ev (b : Bytes) (hb : b.length ≤ 1048576) : Ev 4 [.vec .plain none (encB b)] (.bool true) := by
  unfold Ev
  rw [C, e_law13_LexBack, awake_p, encB_length]
  simp only [obind_some', onBool_bool, Bool.not_true, bc_false]
  by_cases h1 : b.length > 5000
  · rw [bc_dec_t (by omega)]
  rw [bc_dec_f (by omega), tokens_p b hb]
  simp only [obind_some', onTup_tup, onCons_cons, onVec_plain, onInt_int, onNil_nil]
  cases ht : toks b with
  | none => rw [lexRes_bad (by omega) ht]; rfl
  | some l =>
    have hw := toks_weight b l ht
    have hlen := length_le_weight l (toks_ok b l ht)
    have htl := text_length ht
    have hn := withNotes_length b
    rw [lexRes_ok (by omega) ht]
    simp only [Option.getD_some, bne_self_eq_false, bc_false]
    have hloop := fun s n ts => lexBack_loop b (by omega) s n ts b.length 0 [] (by omega) (by simp)
    have hloop' : ∀ s n ts, W.loop 4 11 [.int 0, .vec .plain none (encB b), .vec .grow none [], .bool s, .int n, .vec .plain (some 2) ts] [] = some (Ex.exit 0, [.bool s, .int n, .vec .plain (some 2) ts, .vec .grow none (encB (withNotes b))], []) := hloop
    rw [text_p l (by omega)]
    simp only [obind_some', onVec_plain]
    rw [tokens_p _ (by omega), lexRes_ok (by omega) (toks_text ht)]
    simp only [obind_some', onTup_tup, onCons_cons, onVec_plain, onInt_int, onNil_nil, Option.getD_some]
    rw [same_p l l (by omega)]
    simp only [obind_some', onBool_bool, decide_true]
    rw [hloop']
    simp only [obind_some', onEx_exit, Nat.beq_refl, bc_true, onCons_cons, onBool_bool, onInt_int, onVec_plain, onRoom_grow, onNil_nil, encB_length]
    by_cases h2 : (withNotes b).length > 20000
    · rw [bc_dec_t (by omega)]; rfl
    · rw [bc_dec_f (by omega), tokens_p _ (by omega), lexRes_ok (by omega) ((toks_withNotes b).trans ht)]
      simp only [obind_some', onTup_tup, onCons_cons, onVec_plain, onInt_int, onNil_nil, Option.getD_some]
      rw [same_p l l (by omega)]
      simp

theorem lexJoins_ev (a b : Bytes) (ha : a.length ≤ 1048576) (hb : b.length ≤ 1048576) : Ev 5 [.vec .plain none (encB a), .vec .plain none (encB b)] (.bool true) := by
  unfold Ev
  rw [C, e_law13_LexJoins, awake_p, encB_length, encB_length]
  simp only [obind_some', onBool_bool, Bool.not_true, bc_false]
  by_cases h1 : a.length > 5000
  · rw [bc_dec_t (by omega)]
  rw [bc_dec_f (by omega)]
  by_cases h2 : b.length > 5000
  · rw [bc_dec_t (by omega)]
  rw [bc_dec_f (by omega), tokens_p a ha, tokens_p b hb]
  have e10 : [] ++ encB a ++ [V.ik IntKind.u8 10] ++ encB b = encB (a ++ 10 :: b) := by simp [encB]
  have e11 : ([] ++ encB a ++ [V.ik IntKind.u8 10]).length = a.length + 1 := by simp
  have e12 : ([] ++ encB a).length = a.length := by simp
  simp (disch := omega) only [obind_some', onTup_tup, onCons_cons, onVec_plain, onInt_int, onNil_nil, e10, e11, e12, gd_and, gd_true, room_byte, Nat.zero_add]
  rw [tokens_p _ (by simp only [List.length_append, List.length_cons]; omega)]
  simp only [obind_some', onTup_tup, onCons_cons, onVec_plain, onInt_int, onNil_nil]
  have hj := toks_join 10 (by decide) (by decide) a (fun h => by simp [inLine] at h) b
  have hlen : (a ++ 10 :: b).length ≤ 20000 := by simp only [List.length_append, List.length_cons]; omega
  cases hx : toks a with
  | none =>
    rw [hx] at hj
    rw [lexRes_bad (by omega) hx, lexRes_bad hlen hj]
    rfl
  | some x =>
    rw [hx] at hj
    rw [lexRes_ok (by omega) hx]
    cases hy : toks b with
    | none =>
      rw [hy] at hj
      rw [lexRes_bad (by omega) hy, lexRes_bad hlen hj]
      rfl
    | some y =>
      rw [hy] at hj
      rw [lexRes_ok (by omega) hy, lexRes_ok hlen hj]
      have hwx := toks_weight a x hx
      have hlx := length_le_weight x (toks_ok a x hx)
      have hwy := toks_weight b y hy
      have hly := length_le_weight y (toks_ok b y hy)
      have e13 : [] ++ encToks x ++ encToks y = encToks (x ++ y) := by simp [encToks]
      have e14 : ([] ++ encToks x).length = x.length := by simp
      simp (disch := omega) only [Option.getD_some, bne_self_eq_false, bc_false, gd_and, gd_true, encToks_length, room_tok, Nat.zero_add, e13, e14]
      rw [same_p _ _ (by simp; omega)]
      simp

theorem filter_step (c : UInt8) : (((c.toNat : Int) != 32) && (((c.toNat : Int) != 9) && ((c.toNat : Int) != 10))) = !Ama.blank c :=
  byteAll (p := fun c => (((c.toNat : Int) != 32) && (((c.toNat : Int) != 9) && ((c.toNat : Int) != 10))) = !Ama.blank c) (by decide +kernel) c

theorem lexMarks_loop (b : Bytes) (hb : b.length ≤ 5000) : ∀ k i (acc : Bytes), i + k = b.length → acc.length ≤ i →
    W.loop 6 6 [.int (i : Nat), .vec .plain none (encB b), .vec .grow none (encB acc)] [] = some (if (37 : UInt8) ∈ b.drop i then (Ex.ret, [.bool true], []) else (Ex.exit 0, [.vec .grow none (encB (acc ++ (b.drop i).filter fun c => !Ama.blank c)), .vec .plain none (encB b)], []))
  | 0, i, acc, h, _ => by
    rw [L, e_law13_LexMarks_L6, encB_length, List.drop_eq_nil_iff.2 (by omega)]
    simp (disch := omega)
  | k + 1, i, acc, h, ha => by
    have hi : i < b.length := by omega
    have e : ((i : Int) + 1) = ((i + 1 : Nat) : Int) := by omega
    have ih := fun acc h => lexMarks_loop b hb k (i + 1) acc (by omega) h
    have e1 : encB acc ++ [V.ik IntKind.u8 (b[i].toNat : Int)] = encB (acc ++ [b[i]]) := by rw [encB_append]; rfl
    have hf := filter_step b[i]
    rw [L, e_law13_LexMarks_L6, encB_length, getI_encB hi, List.drop_eq_getElem_cons hi]
    simp (disch := omega) only [bc_dec_t, gd_and, gd_dec, gd_true, onIk_ik, wrap_i, e, percent_byte, e1, encB_length, List.length_cons, List.length_nil, room_byte]
    cases h37 : b[i] == 37 with
    | true =>
      have : b[i] = 37 := by simpa using h37
      simp [this]
    | false =>
      have h37' : ¬ (37 : UInt8) = b[i] := fun e => by rw [← e] at h37; exact absurd h37 (by decide)
      simp only [List.mem_cons, h37', false_or, bc_false, List.filter_cons]
      have r0 := ih acc (by omega)
      have r1 := ih (acc ++ [b[i]]) (by simp; omega)
      cases k1 : ((b[i].toNat : Int) != 32) with
      | false =>
        rw [k1] at hf
        simp only [Bool.false_and] at hf
        rw [← hf]
        exact r0
      | true =>
        cases k2 : ((b[i].toNat : Int) != 9) with
        | false =>
          rw [k1, k2] at hf
          simp only [Bool.false_and, Bool.and_false] at hf
          rw [← hf]
          exact r0
        | true =>
          cases k3 : ((b[i].toNat : Int) != 10) with
          | false =>
            rw [k1, k2, k3] at hf
            simp only [Bool.and_false] at hf
            rw [← hf]
            exact r0
          | true =>
            rw [k1, k2, k3] at hf
            simp only [Bool.and_self] at hf
            rw [← hf]
            refine Eq.trans r1 ?_
            simp

theorem lexMarks_loop2 (l : List Tok) (hok : ∀ t ∈ l, okTok t) (hl : weight l ≤ 5000) (hn : l.length ≤ 5000) (want : List V) : ∀ k i (acc : Bytes), i + k = l.length → acc.length + weight (l.drop i) ≤ 5000 →
    W.loop 6 17 [.int (i : Nat), .vec .plain (some 2) (encToks l), .vec .grow none (encB acc), .vec .grow none want] [] = some (Ex.exit 2, [.vec .grow none want, .vec .grow none (encB (acc ++ allOf (l.drop i)))], [])
  | 0, i, acc, h, _ => by
    rw [L, e_law13_LexMarks_L17, encToks_length, List.drop_eq_nil_iff.2 (by omega)]
    simp (disch := omega) [allOf]
  | k + 1, i, acc, h, hw => by
    have hi : i < l.length := by omega
    have e : ((i : Int) + 1) = ((i + 1 : Nat) : Int) := by omega
    have hd := List.drop_eq_getElem_cons hi
    rw [hd] at hw ⊢
    have hws : weight (l[i] :: l.drop (i + 1)) = l[i].2.length + weight (l.drop (i + 1)) := rfl
    rw [hws] at hw
    have ih := lexMarks_loop2 l hok hl hn want k (i + 1) (acc ++ l[i].2) (by omega) (by simp; omega)
    have hal : allOf (l[i] :: l.drop (i + 1)) = l[i].2 ++ allOf (l.drop (i + 1)) := rfl
    rw [L, e_law13_LexMarks_L17, encToks_length, getI_encToks hi, hal]
    simp (disch := omega) only [bc_dec_t, gd_and, gd_dec, gd_true, encTok, onAgg_agg, List.length_cons, List.length_nil, txt_tok, kind_tok, onStr_str, onInt_int, wrap_i, e, bytesV_ba, encB_length, room_byte, ← encB_append, ba_size]
    have hfin : ∀ x, x = some (Ex.exit 2, [V.vec .grow none want, V.vec .grow none (encB (acc ++ l[i].2 ++ allOf (l.drop (i + 1))))], ([] : St)) → x = some (Ex.exit 2, [V.vec .grow none want, V.vec .grow none (encB (acc ++ (l[i].2 ++ allOf (l.drop (i + 1)))))], ([] : St)) := fun x h => by rw [h, List.append_assoc]
    rcases hok l[i] (List.getElem_mem hi) with ⟨h1, c, h2, h3⟩ | ⟨h1, h2, h3⟩
    · have hone : l[i].2.length = 1 := by rw [h2]; rfl
      rw [h1]
      simp (disch := omega) only [bc_beq_t, bc_not]
      exact hfin _ ih
    · have hpos : l[i].2.length ≠ 0 := by simpa using h2
      rw [h1]
      by_cases hone : l[i].2.length = 1
      · simp (disch := omega) only [bc_beq_t, bc_beq_f, bc_bne_f]
        exact hfin _ ih
      · simp (disch := omega) only [bc_beq_f, bc_bne_f]
        exact hfin _ ih

theorem lexMarks_ev (b : Bytes) (hb : b.length ≤ 1048576) : Ev 6 [.vec .plain none (encB b)] (.bool true) := by
  unfold Ev
  rw [C, e_law13_LexMarks, awake_p, encB_length]
  simp only [obind_some', onBool_bool, Bool.not_true, bc_false]
  by_cases h1 : b.length > 5000
  · rw [bc_dec_t (by omega)]
  have hloop := lexMarks_loop b (by omega) b.length 0 [] (by omega) (by simp)
  have hloop' : W.loop 6 6 [.int 0, .vec .plain none (encB b), .vec .grow none []] [] = some (if (37 : UInt8) ∈ b then (Ex.ret, [.bool true], []) else (Ex.exit 0, [.vec .grow none (encB (b.filter fun c => !Ama.blank c)), .vec .plain none (encB b)], [])) := hloop
  rw [bc_dec_f (by omega), hloop']
  by_cases h37 : (37 : UInt8) ∈ b
  · rw [if_pos h37]; rfl
  rw [if_neg h37]
  simp only [obind_some', onEx_exit, Nat.beq_refl, bc_true, onCons_cons, onRoom_grow, onVec_plain, onNil_nil]
  rw [tokens_p b hb]
  simp only [obind_some', onTup_tup, onCons_cons, onVec_plain, onInt_int, onNil_nil]
  cases ht : toks b with
  | none => rw [lexRes_bad (by omega) ht]; rfl
  | some l =>
    have hw := toks_weight b l ht
    have hlen := length_le_weight l (toks_ok b l ht)
    rw [lexRes_ok (by omega) ht]
    have hl2 := fun want => lexMarks_loop2 l (toks_ok b l ht) (by omega) (by omega) want l.length 0 [] (by omega) (by simp; omega)
    have hl2' : ∀ want, W.loop 6 17 [.int 0, .vec .plain (some 2) (encToks l), .vec .grow none [], .vec .grow none want] [] = some (Ex.exit 2, [.vec .grow none want, .vec .grow none (encB (allOf l))], []) := hl2
    simp only [Option.getD_some, bne_self_eq_false, bc_false]
    rw [hl2']
    simp only [obind_some', onEx_exit, Nat.beq_refl, bc_true, onCons_cons, onRoom_grow, onNil_nil, isU8_b, gd_true, strV_encB, ba_eq, toks_all b h37 l ht, decide_true]

theorem lexNote_loop (a n b : Bytes) (hn : n.length ≤ 3000) : ∀ k i, i + k = n.length →
    W.loop 7 5 [.int (i : Nat), .vec .plain none (encB n), .vec .plain none (encB a), .vec .plain none (encB b)] [] = some (if (10 : UInt8) ∈ n.drop i then (Ex.ret, [.bool true], []) else (Ex.exit 0, [.vec .plain none (encB a), .vec .plain none (encB b), .vec .plain none (encB n)], []))
  | 0, i, h => by
    rw [L, e_law13_LexNote_L5, encB_length, List.drop_eq_nil_iff.2 (by omega), bc_dec_f (by omega)]
    rfl
  | k + 1, i, h => by
    have hi : i < n.length := by omega
    have e : ((i : Int) + 1) = ((i + 1 : Nat) : Int) := by omega
    have ih := lexNote_loop a n b hn k (i + 1) (by omega)
    rw [L, e_law13_LexNote_L5, encB_length, getI_encB hi, List.drop_eq_getElem_cons hi]
    simp (disch := omega) only [bc_dec_t, gd_and, gd_dec, onIk_ik, wrap_i, e, beq10]
    cases h10 : n[i] == 10 with
    | true =>
      have : n[i] = 10 := by simpa using h10
      simp [this]
    | false =>
      have h10' : ¬ (10 : UInt8) = n[i] := fun e => by rw [← e] at h10; exact absurd h10 (by decide)
      simp only [List.mem_cons, h10', false_or, bc_false]
      exact ih

theorem lexNote_loop2 (a : Bytes) (x y : List V) (hn : a.length ≤ 3000) : ∀ k i, i + k = a.length →
    W.loop 7 16 [.int (i : Nat), .vec .plain none (encB a), .vec .grow none x, .vec .grow none y] [] = some (if (37 : UInt8) ∈ a.drop i then (Ex.ret, [.bool true], []) else (Ex.exit 2, [.vec .grow none x, .vec .grow none y], []))
  | 0, i, h => by
    rw [L, e_law13_LexNote_L16, encB_length, List.drop_eq_nil_iff.2 (by omega)]
    simp (disch := omega)
  | k + 1, i, h => by
    have hi : i < a.length := by omega
    have e : ((i : Int) + 1) = ((i + 1 : Nat) : Int) := by omega
    have ih := lexNote_loop2 a x y hn k (i + 1) (by omega)
    rw [L, e_law13_LexNote_L16, encB_length, getI_encB hi, List.drop_eq_getElem_cons hi]
    simp (disch := omega) only [bc_dec_t, gd_and, gd_dec, onIk_ik, wrap_i, e, percent_byte]
    cases h37 : a[i] == 37 with
    | true =>
      have : a[i] = 37 := by simpa using h37
      simp [this]
    | false =>
      have h37' : ¬ (37 : UInt8) = a[i] := fun e => by rw [← e] at h37; exact absurd h37 (by decide)
      simp only [List.mem_cons, h37', false_or, bc_false]
      exact ih

theorem lexNote_ev (a n b : Bytes) (ha : a.length ≤ 1048576) (hn : n.length ≤ 1048576) (hb : b.length ≤ 1048576) : Ev 7 [.vec .plain none (encB a), .vec .plain none (encB n), .vec .plain none (encB b)] (.bool true) := by
  unfold Ev
  rw [C, e_law13_LexNote, awake_p, encB_length, encB_length, encB_length]
  simp only [obind_some', onBool_bool, Bool.not_true, bc_false]
  by_cases h1 : a.length > 3000
  · rw [bc_dec_t (by omega)]
  rw [bc_dec_f (by omega)]
  by_cases h2 : b.length > 3000
  · rw [bc_dec_t (by omega)]
  rw [bc_dec_f (by omega)]
  by_cases h3 : n.length > 3000
  · rw [bc_dec_t (by omega)]
  have hl1 := lexNote_loop a n b (by omega) n.length 0 (by omega)
  have hl1' : W.loop 7 5 [.int 0, .vec .plain none (encB n), .vec .plain none (encB a), .vec .plain none (encB b)] [] = some (if (10 : UInt8) ∈ n then (Ex.ret, [.bool true], []) else (Ex.exit 0, [.vec .plain none (encB a), .vec .plain none (encB b), .vec .plain none (encB n)], [])) := hl1
  rw [bc_dec_f (by omega), hl1']
  by_cases h10 : (10 : UInt8) ∈ n
  · rw [if_pos h10]; rfl
  rw [if_neg h10]
  have e1 : [] ++ encB a ++ [V.ik IntKind.u8 10] ++ encB b = encB (a ++ 10 :: b) := by simp [encB]
  have e2 : [] ++ encB a ++ [V.ik IntKind.u8 32, V.ik IntKind.u8 37] ++ encB n ++ [V.ik IntKind.u8 10] ++ encB b = encB (a ++ 32 :: 37 :: (n ++ 10 :: b)) := by simp [encB]
  simp only [obind_some', onEx_exit, Nat.beq_refl, bc_true, onCons_cons, onVec_plain, onNil_nil, e1, e2]
  simp (disch := omega) only [List.nil_append, List.length_append, encB_length, List.length_cons, List.length_nil, gd_and, gd_true, room_byte]
  have hl2 := fun x y => lexNote_loop2 a x y (by omega) a.length 0 (by omega)
  have hl2' : ∀ x y, W.loop 7 16 [.int 0, .vec .plain none (encB a), .vec .grow none x, .vec .grow none y] [] = some (if (37 : UInt8) ∈ a then (Ex.ret, [.bool true], []) else (Ex.exit 2, [.vec .grow none x, .vec .grow none y], [])) := hl2
  rw [hl2']
  by_cases h37 : (37 : UInt8) ∈ a
  · rw [if_pos h37]; rfl
  rw [if_neg h37]
  simp only [obind_some', onEx_exit, Nat.beq_refl, bc_true, onCons_cons, onRoom_grow, onNil_nil]
  have hlx : (a ++ 10 :: b).length ≤ 20000 := by simp only [List.length_append, List.length_cons]; omega
  have hly : (a ++ 32 :: 37 :: (n ++ 10 :: b)).length ≤ 20000 := by simp only [List.length_append, List.length_cons]; omega
  have heq : lexRes (a ++ 32 :: 37 :: (n ++ 10 :: b)) = lexRes (a ++ 10 :: b) := by
    rw [lexRes_short hlx, lexRes_short hly, toks_percent a n b h37 fun c hc e => h10 (e ▸ hc)]
  rw [tokens_p _ (by omega), tokens_p _ (by omega), heq]
  simp only [obind_some', onTup_tup, onCons_cons, onVec_plain, onInt_int, onNil_nil]
  have := lexRes_len (a ++ 10 :: b)
  rw [same_p _ _ (by omega)]
  simp

theorem lexLong_loop (c : UInt8) (n : Nat) (hn : n ≤ 30000) : ∀ k i, i + k = n →
    W.loop 8 6 [.int (i : Nat), .ik .u8 (c.toNat : Int), .row none 0 0 n] [.row none (encB (List.replicate i c ++ List.replicate k 0))] = some (Ex.exit 0, [.ik .u8 (c.toNat : Int), .row none 0 0 n], [.row none (encB (List.replicate n c))])
  | 0, i, h => by
    have : i = n := by omega
    subst this
    rw [L, e_law13_LexLong_L6]
    simp (disch := omega)
  | k + 1, i, h => by
    have e : ((i : Int) + 1) = ((i + 1 : Nat) : Int) := by omega
    have ih := lexLong_loop c n hn k (i + 1) (by omega)
    have hset : (encB (List.replicate i c ++ List.replicate (k + 1) 0)).set (0 + i) (V.ik IntKind.u8 (c.toNat : Int)) = encB (List.replicate (i + 1) c ++ List.replicate k 0) := by
      have h1 : List.replicate i c ++ List.replicate (k + 1) 0 = List.replicate i c ++ 0 :: List.replicate k 0 := by rw [List.replicate_succ]
      have h2 : List.replicate (i + 1) c ++ List.replicate k (0 : UInt8) = List.replicate i c ++ c :: List.replicate k 0 := by rw [List.replicate_succ', List.append_assoc]; rfl
      rw [h1, h2, encB_append, encB_append, Nat.zero_add, List.set_append_right (h := by simp)]
      simp [encB]
    rw [L, e_law13_LexLong_L6]
    simp (disch := omega) only [bc_dec_t, gd_and, gd_dec, gd_true, wrap_i, e, Int.toNat_natCast, isGrow, Bool.not_false, encB_length, List.length_append, List.length_replicate, hset]
    exact ih

theorem lexLong_ev (c : UInt8) (more : Int) : Ev 8 [.ik .u8 (c.toNat : Int), .int more] (.bool true) := by
  unfold Ev
  rw [C, e_law13_LexLong, awake_p]
  simp only [obind_some', onBool_bool, Bool.not_true, bc_false]
  by_cases h1 : more < 0
  · rw [bc_dec_t (by omega)]
  rw [bc_dec_f (by omega)]
  by_cases h2 : more > 100
  · rw [bc_dec_t (by omega)]
  rw [bc_dec_f (by omega)]
  obtain ⟨m, rfl⟩ := Int.eq_ofNat_of_zero_le (Int.not_lt.1 h1)
  have ew : IntKind.i64.wrap (20001 + (m : Int)) = ((20001 + m : Nat) : Int) := by rw [wrap_i (by omega) (by omega)]; omega
  rw [ew]
  simp (disch := omega) only [gd_and, gd_dec, gd_true, Int.toNat_natCast, room_byte]
  have hl := lexLong_loop c (20001 + m) (by omega) (20001 + m) 0 (by omega)
  have e0 : encB (List.replicate 0 c ++ List.replicate (20001 + m) 0) = List.replicate (20001 + m) (V.ik IntKind.u8 0) := by simp [encB]
  rw [e0] at hl
  have hl' : W.loop 8 6 [.int 0, .ik .u8 (c.toNat : Int), .row none 0 0 (20001 + m)] [.row none (List.replicate (20001 + m) (V.ik IntKind.u8 0))] = some (Ex.exit 0, [.ik .u8 (c.toNat : Int), .row none 0 0 (20001 + m)], [.row none (encB (List.replicate (20001 + m) c))]) := hl
  rw [hl']
  simp only [obind_some', onEx_exit, Nat.beq_refl, bc_true, onCons_cons, onIk_ik, onRowV_row, onNil_nil]
  rw [getR_some (st := [Res.row none (encB (List.replicate (20001 + m) c))]) (q := 0) rfl]
  have ht1 : List.take (20001 + m) (List.drop 0 (encB (List.replicate (20001 + m) c))) = encB (List.replicate (20001 + m) c) := by
    rw [List.drop_zero, encB_take, List.take_of_length_le (by simp)]
  have ht2 : List.drop 0 (List.take 20000 (encB (List.replicate (20001 + m) c))) = encB (List.replicate 20000 c) := by
    rw [List.drop_zero, encB_take, List.take_replicate, Nat.min_eq_left (by omega)]
  simp (disch := omega) only [onRow_row, gd_and, gd_dec, gd_true, encB_length, List.length_replicate, ht1, ht2]
  have e1 : [V.ik IntKind.u8 (c.toNat : Int)] = encB [c] := rfl
  rw [e1, tokens_p _ (by rw [List.length_replicate]; omega), tokens_p _ (by rw [List.length_replicate]; omega), tokens_p _ (by rw [List.length_singleton]; omega)]
  have hlong : lexRes (List.replicate (20001 + m) c) = (none, 4) := by unfold lexRes; rw [if_pos (by rw [List.length_replicate]; omega)]
  have hrep := toks_replicate c 20000 (by omega)
  rw [hlong]
  simp (disch := omega) only [obind_some', onTup_tup, onCons_cons, onVec_plain, onInt_int, onNil_nil, beq_self_eq_true, bc_true, gd_dec, encB_length, List.length_replicate]
  rw [lexRes_short (b := List.replicate 20000 c) (by rw [List.length_replicate]; omega), lexRes_short (b := [c]) (by rw [List.length_singleton]; omega)]
  cases hx : toks (List.replicate 20000 c) <;> cases hy : toks [c] <;> rw [hx, hy] at hrep <;> first | rfl | cases hrep
end Go.Proofs.LP

/-! The laws of tokens, pure. -/
namespace Go.Proofs.LP
open Go Go.AM Go.Ama

theorem of_ev {f : Nat} {args : List V} (h : Ev f args (.bool true)) : ∃ m st, (fuelO Try.prog cfg (fun _ => none) m).call f args [] = some (.ret (.bool true), st) := by
  obtain ⟨m, hm⟩ := om_fuel h
  exact ⟨m, [], hm⟩

theorem lexTells_pure : ∀ us, WArgs Try.prog [22, 23] us → bulkL us ≤ 1048576 → ∃ m st, (fuelO Try.prog cfg (fun _ => none) m).call 3 us [] = some (.ret (.bool true), st) := by
  intro us h hb
  match us, h with
  | [u, v], ⟨h1, h2, h3, h4, _⟩ =>
    obtain ⟨b, rfl⟩ := dec_bytes ⟨h1, h2⟩
    obtain ⟨l, rfl⟩ := dec_toks ⟨h3, h4⟩
    simp only [bulkL, bulkV, bulk_encB, bulk_encToks] at hb
    exact of_ev (lexTells_ev b l (by omega) (by omega))
theorem lexBack_pure : ∀ us, WArgs Try.prog [22] us → bulkL us ≤ 1048576 → ∃ m st, (fuelO Try.prog cfg (fun _ => none) m).call 4 us [] = some (.ret (.bool true), st) := by
  intro us h hb
  match us, h with
  | [u], ⟨h1, h2, _⟩ =>
    obtain ⟨b, rfl⟩ := dec_bytes ⟨h1, h2⟩
    simp only [bulkL, bulkV, bulk_encB] at hb
    exact of_ev (lexBack_ev b (by omega))
theorem lexJoins_pure : ∀ us, WArgs Try.prog [22, 22] us → bulkL us ≤ 1048576 → ∃ m st, (fuelO Try.prog cfg (fun _ => none) m).call 5 us [] = some (.ret (.bool true), st) := by
  intro us h hb
  match us, h with
  | [u, v], ⟨h1, h2, h3, h4, _⟩ =>
    obtain ⟨a, rfl⟩ := dec_bytes ⟨h1, h2⟩
    obtain ⟨b, rfl⟩ := dec_bytes ⟨h3, h4⟩
    simp only [bulkL, bulkV, bulk_encB] at hb
    exact of_ev (lexJoins_ev a b (by omega) (by omega))
theorem lexMarks_pure : ∀ us, WArgs Try.prog [22] us → bulkL us ≤ 1048576 → ∃ m st, (fuelO Try.prog cfg (fun _ => none) m).call 6 us [] = some (.ret (.bool true), st) := by
  intro us h hb
  match us, h with
  | [u], ⟨h1, h2, _⟩ =>
    obtain ⟨b, rfl⟩ := dec_bytes ⟨h1, h2⟩
    simp only [bulkL, bulkV, bulk_encB] at hb
    exact of_ev (lexMarks_ev b (by omega))
theorem lexNote_pure : ∀ us, WArgs Try.prog [22, 22, 22] us → bulkL us ≤ 1048576 → ∃ m st, (fuelO Try.prog cfg (fun _ => none) m).call 7 us [] = some (.ret (.bool true), st) := by
  intro us h hb
  match us, h with
  | [u, v, x], ⟨h1, h2, h3, h4, h5, h6, _⟩ =>
    obtain ⟨a, rfl⟩ := dec_bytes ⟨h1, h2⟩
    obtain ⟨n, rfl⟩ := dec_bytes ⟨h3, h4⟩
    obtain ⟨b, rfl⟩ := dec_bytes ⟨h5, h6⟩
    simp only [bulkL, bulkV, bulk_encB] at hb
    exact of_ev (lexNote_ev a n b (by omega) (by omega) (by omega))
theorem lexLong_pure : ∀ us, WArgs Try.prog [5, 3] us → bulkL us ≤ 1048576 → ∃ m st, (fuelO Try.prog cfg (fun _ => none) m).call 8 us [] = some (.ret (.bool true), st) := by
  intro us h _
  match us, h with
  | [u, v], ⟨h1, h2, h3, h4, _⟩ =>
    obtain ⟨c, rfl⟩ := dec_u8 ⟨h1, h2⟩
    obtain ⟨n, rfl, _⟩ := dec_num ⟨h3, h4⟩
    exact of_ev (lexLong_ev c n)
end Go.Proofs.LP
