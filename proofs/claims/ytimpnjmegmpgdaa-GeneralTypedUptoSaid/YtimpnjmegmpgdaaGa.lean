import Derived.Test.YtimpnjmegmpgdaaAMa
import Derived.Test.YtimpnjmegmpgdaaProg
import Derived.Test.YtimpnjmegmpgdaaChecked
import Derived.Test.YtimpnjmegmpgdaaAMd
import Derived.Shelf.Spec.SlicesGrow
import Derived.CallsIn
import Derived.KernelRfl
/- The program's functions, each an equation of the abstract machine checked by the kernel, and what they come to as_ plain Lean. -/
set_option linter.unusedVariables false
set_option linter.unusedSimpArgs false
set_option linter.unusedSectionVars false
namespace Go.Proofs.GT
open Go Go.AM
def hints : Nat → Option FnHints
  | 2 => some ⟨true, [], [], [], [], []⟩
  | 3 => some ⟨true, [], [], [], [], [(6, .ty 4)]⟩
  | 4 => some ⟨true, [], [], [], [], [(0, .ty 4)]⟩
  | 5 => some ⟨true, [], [], [(5, [(8, .ty 3), (1, .any), (2, .any)])], [(5, [(2, .ty 23)])], [(6, .ty 4)]⟩
  | 6 => some ⟨true, [], [], [], [], [(6, .ty 4)]⟩
  | 7 => some ⟨true, [], [], [], [], [(2, .ty 3), (3, .ty 29)]⟩
  | 8 => some ⟨true, [], [], [], [], [(8, .ty 29)]⟩
  | 9 => some ⟨true, [], [], [], [], [(8, .ty 29)]⟩
  | 10 => some ⟨true, [26], [], [(12, [(73, .ty 3), (14, .loc 25), (13, .row (some 3)), (6, .locA (some 5)), (7, .locA (some 3)), (12, .loc 25), (72, .ty 3)]), (16, [(81, .ty 3), (13, .row (some 3)), (6, .locA (some 5)), (7, .locA (some 3)), (14, .loc 25), (12, .loc 25), (80, .ty 3)])], [(12, [(13, .row (some 3)), (6, .locA (some 5)), (7, .locA (some 3)), (14, .loc 25), (12, .loc 25)]), (16, [(6, .locA (some 5)), (7, .locA (some 3)), (14, .loc 25), (12, .loc 25), (13, .row (some 3))])], [(6, .locA (some 5)), (7, .locA (some 3)), (8, .ty 29)]⟩
  | 11 => some ⟨true, [4, 5], [], [(6, [(4, .any), (5, .any), (2, .any)])], [], [(4, .ref), (5, .ref)]⟩
  | 12 => some ⟨true, [], [], [], [], [(10, .ty 29)]⟩
  | 13 => some ⟨true, [5], [], [], [], [(4, .ty 4)]⟩
  | 14 => some ⟨true, [], [], [(4, [(3, .ty 3), (0, .any)])], [(4, [])], [(2, .ty 4)]⟩
  | 15 => some ⟨true, [], [], [(4, [(7, .ty 3), (2, .ty 3), (1, .ty 3), (0, .any)])], [(4, [])], [(6, .ty 4)]⟩
  | 16 => some ⟨true, [], [], [(4, [(3, .ty 3), (1, .loc 25)])], [(4, [])], [(2, .ty 4)]⟩
  | 17 => some ⟨true, [], [], [(3, [(4, .ty 3), (1, .loc 25), (3, .ty 3)])], [(3, [(3, .ty 3)])], [(2, .ty 3)]⟩
  | 18 => some ⟨true, [], [], [(3, [(4, .ty 3), (3, .ty 3), (1, .loc 25)])], [(3, [(3, .ty 3)])], [(2, .ty 3)]⟩
  | 19 => some ⟨false, [], [], [(4, [(14, .ty 3), (1, .any), (12, .any), (13, .ty 3)])], [(4, [])], [(4, .ty 3), (5, .ty 29)]⟩
  | 20 => some ⟨false, [], [], [], [], [(5, .ty 29)]⟩
  | 21 => some ⟨true, [], [], [], [], [(2, .ty 4)]⟩
  | 22 => some ⟨true, [], [], [], [], [(8, .ty 29)]⟩
  | 23 => some ⟨true, [], [(9, 2), (13, 2), (13, 0), (13, 3), (0, 0)], [(3, [(11, .ty 3), (3, .ty 3), (9, .any), (0, .any), (10, .ty 3)]), (11, [(27, .ty 3), (6, .grow (some 3)), (25, .any), (26, .ty 3)])], [(3, [(0, .ty 75), (3, .ty 3)]), (11, [(6, .grow (some 3))])], [(2, .ty 23)]⟩
  | 24 => some ⟨false, [], [], [(4, [(14, .ty 3), (1, .any), (12, .any), (13, .ty 3)])], [(4, [])], [(4, .ty 3), (5, .ty 29)]⟩
  | 25 => some ⟨false, [], [], [], [], [(8, .ty 29)]⟩
  | 26 => some ⟨true, [], [], [], [], [(4, .ty 4)]⟩
  | 27 => some ⟨true, [], [], [], [], [(4, .ty 29)]⟩
  | 28 => some ⟨true, [], [], [], [], [(2, .ty 4)]⟩
  | 29 => some ⟨true, [], [], [], [], [(2, .ty 4)]⟩
  | 30 => some ⟨true, [], [], [], [], [(2, .ty 4)]⟩
  | 31 => some ⟨true, [4, 5], [(6, 4), (6, 0), (6, 6), (0, 1)], [(6, [(5, .any), (4, .any)])], [], [(2, .ty 23), (3, .locA (some 3))]⟩
  | 32 => some ⟨false, [], [], [], [], [(4, .ty 4)]⟩
  | 33 => some ⟨true, [], [(6, 8), (6, 1), (6, 10), (2, 3), (2, 1)], [(4, [(11, .ty 3), (3, .dloc (some 2) [.grow (some 3), .ct .int]), (0, .ty 3), (2, .locA (some 2)), (10, .ty 3)])], [(4, [(2, .locA (some 2)), (3, .dloc (some 2) [.grow (some 3), .ct .int])])], [(2, .locA (some 2))]⟩
  | 34 => some ⟨true, [], [(5, 4), (5, 0), (5, 5)], [(3, [(9, .ty 3), (3, .grow (some 3)), (7, .any), (2, .locA (some 3)), (1, .loc 25), (8, .ty 3)])], [(3, [(2, .locA (some 3)), (3, .grow (some 3)), (1, .loc 25)])], [(2, .locA (some 3))]⟩
  | 35 => some ⟨false, [], [], [], [], [(2, .any)]⟩
  | 36 => some ⟨true, [], [], [], [], [(6, .ty 29)]⟩
  | 37 => some ⟨true, [], [], [], [], [(6, .ty 29)]⟩
  | 38 => some ⟨false, [], [], [(3, [(15, .ty 3), (2, .any), (1, .ty 3), (3, .loc 25), (13, .any), (14, .ty 3)])], [(3, [])], []⟩
  | 39 => some ⟨false, [], [], [], [], []⟩
  | 40 => some ⟨true, [], [(7, 4), (7, 0), (7, 5), (0, 0), (6, 0)], [(3, [(11, .ty 3), (6, .grow none), (1, .ty 3), (9, .any), (10, .ty 3)])], [(3, [(6, .grow none)])], [(4, .ty 71), (5, .ty 4)]⟩
  | 41 => some ⟨true, [1], [], [(3, [(1, .any)])], [], [(2, .locA (some 3))]⟩
  | 42 => some ⟨true, [], [], [], [], [(4, .ty 29)]⟩
  | 43 => some ⟨true, [], [(5, 5), (0, 0)], [], [], [(4, .ty 23)]⟩
  | 44 => some ⟨true, [], [], [], [], [(2, .ty 4)]⟩
  | 45 => some ⟨false, [], [], [], [], [(3, .ty 4)]⟩
  | 46 => some ⟨false, [], [], [], [], [(4, .ty 4)]⟩
  | 47 => some ⟨false, [], [], [], [], [(3, .ty 4)]⟩
  | 48 => some ⟨false, [], [], [], [], [(4, .ty 4)]⟩
  | 49 => some ⟨false, [], [], [], [], [(6, .ty 29)]⟩
  | 50 => some ⟨true, [], [], [], [], [(6, .locA (some 3)), (7, .ty 29)]⟩
  | 51 => some ⟨true, [], [], [(2, [(6, .locA (some 3)), (15, .ty 3), (4, .loc 25), (3, .loc 55), (13, .any), (14, .ty 3)])], [(2, [(6, .locA (some 3)), (4, .loc 25)])], [(6, .locA (some 3)), (7, .ty 29)]⟩
  | 52 => some ⟨true, [], [], [(3, [(9, .ty 3), (3, .ty 3), (7, .any), (8, .ty 3)])], [(3, [(3, .ty 3)])], [(2, .ty 3)]⟩
  | 53 => some ⟨true, [3], [], [(3, [(3, .any)])], [], [(2, .ty 3)]⟩
  | 54 => some ⟨false, [4], [], [(4, [(4, .any), (3, .any)])], [], [(4, .ref)]⟩
  | 55 => some ⟨true, [], [], [], [], [(4, .ty 4)]⟩
  | 56 => some ⟨true, [], [], [], [], [(2, .ty 4)]⟩
  | 57 => some ⟨false, [1], [], [], [], [(2, .any)]⟩
  | 58 => some ⟨false, [], [], [(2, [(8, .ty 3), (0, .any), (1, .any), (7, .ty 3)])], [(2, [])], [(4, .ty 3)]⟩
  | 59 => some ⟨false, [], [], [(1, [(7, .ty 3), (1, .any), (0, .any), (5, .any), (6, .ty 3)])], [(1, [])], []⟩
  | 60 => some ⟨true, [], [(1, 11), (1, 13)], [], [], [(4, .locA (some 3))]⟩
  | 61 => some ⟨true, [], [], [], [], [(4, .locA (some 3)), (5, .ty 29)]⟩
  | 62 => some ⟨true, [], [], [], [], [(4, .locA (some 3)), (5, .ty 29)]⟩
  | 63 => some ⟨true, [], [], [], [], [(4, .locA (some 3)), (5, .ty 29)]⟩
  | 64 => some ⟨true, [], [], [(7, [(4, .locA (some 3)), (35, .ty 3), (3, .loc 25), (2, .loc 55), (33, .any), (6, .loc 35), (34, .ty 3)])], [(7, [(4, .locA (some 3)), (2, .loc 55), (3, .loc 25), (6, .loc 35)])], [(4, .locA (some 3)), (5, .ty 29)]⟩
  | 65 => some ⟨true, [], [], [(4, [(31, .ty 3), (3, .loc 25), (29, .any), (30, .ty 3)])], [(4, [])], [(4, .ty 4)]⟩
  | 66 => some ⟨true, [], [], [], [], [(6, .ty 3)]⟩
  | 67 => some ⟨true, [], [], [], [], [(4, .ty 4)]⟩
  | 68 => some ⟨false, [], [], [(2, [(8, .ty 3), (0, .any), (1, .any), (7, .ty 3)])], [(2, [])], [(4, .ty 3)]⟩
  | 69 => some ⟨false, [], [], [(2, [(8, .ty 3), (0, .any), (1, .any), (7, .ty 3)])], [(2, [])], [(4, .ty 3)]⟩
  | 70 => some ⟨true, [], [], [], [], [(4, .locA (some 3)), (5, .ty 29)]⟩
  | 71 => some ⟨false, [], [], [], [], [(2, .any)]⟩
  | 72 => some ⟨false, [], [], [(0, [(1, .any), (0, .any)])], [(0, [])], []⟩
  | 73 => some ⟨true, [], [], [], [], [(6, .locA (some 3))]⟩
  | 74 => some ⟨true, [], [], [(2, [(8, .ty 3), (0, .any), (1, .ty 3), (7, .ty 3)])], [(2, [])], [(4, .ty 3)]⟩
  | 75 => some ⟨true, [], [], [], [], [(2, .ty 4)]⟩
  | 76 => some ⟨false, [2, 3, 7], [], [], [], [(2, .ref), (3, .ref)]⟩
  | 77 => some ⟨false, [], [], [], [], [(4, .locA (some 3))]⟩
  | 78 => some ⟨false, [], [(11, 7), (11, 1), (11, 9), (4, 6), (4, 4)], [(6, [(32, .ty 3), (7, .dloc (some 3) [.ct .int, .ct .int, .grow (some 3)]), (0, .ref), (5, .loc 62), (4, .loc 25), (30, .any), (6, .locA (some 3)), (31, .ty 3)])], [(6, [(6, .locA (some 3)), (7, .dloc (some 3) [.ct .int, .ct .int, .grow (some 3)]), (4, .loc 25), (5, .loc 62), (0, .ref)])], [(6, .locA (some 3))]⟩
  | 79 => some ⟨false, [], [], [], [], []⟩
  | 80 => some ⟨false, [], [], [(4, [(18, .ty 3), (2, .any), (3, .loc 25), (1, .ty 3), (16, .any), (17, .ty 3)])], [(4, [])], [(6, .ty 4)]⟩
  | 81 => some ⟨true, [], [], [], [], [(6, .ty 4)]⟩
  | 82 => some ⟨false, [], [], [], [], [(6, .locA (some 3)), (7, .ty 4)]⟩
  | 83 => some ⟨true, [], [], [], [], [(6, .ty 3), (7, .ty 4)]⟩
  | 84 => some ⟨true, [], [], [], [], [(2, .ty 4)]⟩
  | 85 => some ⟨false, [], [], [], [], []⟩
  | 86 => some ⟨false, [], [], [], [], []⟩
  | 87 => some ⟨true, [], [(5, 5), (5, 1), (5, 7), (7, 4), (7, 1), (7, 6), (1, 5), (1, 3)], [(3, [(13, .ty 3), (3, .dloc (some 2) [.grow (some 3), .ct .int]), (11, .any), (2, .locA (some 2)), (12, .ty 3)])], [(3, [(2, .locA (some 2)), (3, .dloc (some 2) [.grow (some 3), .ct .int])])], [(2, .locA (some 2))]⟩
  | 88 => some ⟨false, [], [], [], [], [(6, .locA (some 3))]⟩
  | 89 => some ⟨true, [], [], [], [], [(4, .locA (some 3))]⟩
  | 90 => some ⟨true, [], [], [], [], [(2, .ty 4)]⟩
  | 91 => some ⟨false, [], [(8, 3), (8, 0), (8, 4), (0, 0), (7, 0)], [(3, [(13, .ty 3), (6, .grow (some 3)), (1, .any), (11, .any), (12, .ty 3)])], [(3, [(6, .grow (some 3))])], [(4, .ty 23), (5, .ty 4)]⟩
  | 92 => some ⟨false, [], [], [], [], [(7, .locA (some 3)), (8, .ty 4)]⟩
  | _ => none

def cfg : Cfg := Cfg.of hints [] [76, 77, 78, 86, 88]
end Go.Proofs.GT

namespace Go.Proofs.GT
open Go Go.AM Go.RowKit
set_option maxRecDepth 100000
theorem growAt_of {P : Program} {ρ : Go.Shelf.Ren} (L : Lays8.n4 P ρ) {fn : Func} (hf : P.funcs[ρ.f 4]? = some fn) (hb : fn.body.isSome = true) {i0 : TypeInfo} (hi0 : P.info? (ρ.t 25) = some i0) {z : Value} (hz : i0.zero = some z) (hzl : z.cells.size = i0.size) : GrowAt P (ρ.f 4) (ρ.t 25) := by
  refine ⟨⟨fn, hf, hb⟩, fun k w i hi hs hb2 hk => ?_⟩
  rw [hi0] at hi
  cases hi
  by_cases h0 : k = 0
  · subst h0
    exact (Any8.slices_Grow_room L none 0 0 0 w (Nat.le_refl _) (by decide) (by decide) (Nat.le_refl _)).mono fun ed w' h => .inl h
  · have hk63 : k ≤ 140737488355328 := Nat.le_trans (Nat.le_mul_of_pos_right k hb2) hk
    refine (Any8.slices_Grow_grow L i0 z hi0 hz hs none 0 0 k [] w (Nat.le_refl _) (by omega) (by simpa using hk) (by omega) (by simp) (fun _ => rfl) (fun a h => by cases h)).mono fun ed w' h => .inr ⟨_, _, h.1, h.2, ?_⟩
    have hge : 0 + k ≤ grownCap w (0 + k) 0 (ρ.t 25) := grownCap_ge w _ _ _
    generalize grownCap w (0 + k) 0 (ρ.t 25) = G at hge ⊢
    simp only [Array.size_append, List.size_toArray, List.length_nil, Nat.zero_add, size_zeroCells, hzl]
    rw [← Nat.add_mul]
    congr 1
    omega
theorem names : (Try.prog.funcs.all fun fn => fn.name != "runtime.NumGoroutine") = true := by kernel_rfl
def growRen43 : Go.Shelf.Ren := ⟨fun | 4 => 43 | _ => 0, fun | 0 => 0 | 3 => 3 | 4 => 4 | 9 => 9 | 20 => 20 | 22 => 23 | 25 => 25 | _ => 0, fun _ => 0⟩
theorem growLays43 : Lays8.n4 Try.prog growRen43 where
  mixed := by kernel_rfl
  f4 := ⟨"slices.Grow[[]amanuensis/api.Term,amanuensis/api.Term]", by decide, Try.func43.trans (congrArg some (by kernel_rfl))⟩
  t0 := Try.underlying0
  a0 := Try.isAgg0
  z0 := Try.sizeOf0
  v0 := Try.zeroValue0
  t3 := Try.underlying3
  a3 := Try.isAgg3
  z3 := Try.sizeOf3
  v3 := Try.zeroValue3
  t4 := Try.underlying4
  a4 := Try.isAgg4
  z4 := Try.sizeOf4
  v4 := Try.zeroValue4
  t9 := Try.underlying9
  a9 := Try.isAgg9
  z9 := Try.sizeOf9
  v9 := Try.zeroValue9
  t20 := Try.underlying20
  a20 := Try.isAgg20
  z20 := Try.sizeOf20
  v20 := Try.zeroValue20
  t22 := Try.underlying23
  a22 := Try.isAgg23
  z22 := Try.sizeOf23
  v22 := Try.zeroValue23
theorem growAt43 : GrowAt Try.prog 43 25 := growAt_of growLays43 Try.func43 rfl rfl rfl rfl
theorem growB_ok : ((List.range Try.prog.funcs.size).all fun g => match growElem Try.prog g with | none => true | some e => (g == 43 && e == 25)) = true := by kernel_rfl
theorem plainNames : PlainNames Try.prog where
  names f fn h e := by
    have := Array.all_eq_true_iff_forall_mem.1 names fn (Array.mem_of_getElem? h)
    simp [e] at this
  grow g e h := by
    have hg : g < Try.prog.funcs.size := by
      unfold growElem at h
      split at h
      · rename_i hh; exact (Array.getElem?_eq_some_iff.1 hh).1
      · cases h
    have := List.all_eq_true.1 growB_ok g (List.mem_range.2 hg)
    simp only [h] at this
    simp only [Bool.or_eq_true, Bool.and_eq_true, beq_iff_eq] at this
    rcases this with ⟨rfl, rfl⟩
    · exact growAt43
end Go.Proofs.GT

namespace Go.Proofs.GT
open Go Go.AM Go.RowKit
set_option maxRecDepth 100000
noncomputable def ext : Ext := fun f => bif Nat.beq f 76 then some (fun O args st => doneX Try.prog cfg O 76 args st) else none
theorem extOK : ExtOK Try.prog cfg ext := fun f x h O hC hRd args st y hy => by
  unfold ext at h
  cases h76 : Nat.beq f 76
  case true =>
    rw [h76] at h
    cases h
    obtain rfl := Nat.eq_of_beq_eq_true h76
    exact doneX_ok plainNames hC hRd _ _ _ _ hy
  rw [h76] at h
  cases h
theorem extLim : ExtLim ext := fun f x h => by
  unfold ext at h
  cases h76 : Nat.beq f 76
  case true =>
    rw [h76] at h
    cases h
    exact fun Os O hO args st x hx => doneX_lim hO hx
  rw [h76] at h
  cases h
class NoExt (f : Nat) : Prop where
  h : ext f = none
instance : NoExt 2 := ⟨rfl⟩
instance : NoExt 3 := ⟨rfl⟩
instance : NoExt 4 := ⟨rfl⟩
instance : NoExt 5 := ⟨rfl⟩
instance : NoExt 6 := ⟨rfl⟩
instance : NoExt 7 := ⟨rfl⟩
instance : NoExt 8 := ⟨rfl⟩
instance : NoExt 9 := ⟨rfl⟩
instance : NoExt 10 := ⟨rfl⟩
instance : NoExt 11 := ⟨rfl⟩
instance : NoExt 12 := ⟨rfl⟩
instance : NoExt 13 := ⟨rfl⟩
instance : NoExt 14 := ⟨rfl⟩
instance : NoExt 15 := ⟨rfl⟩
instance : NoExt 16 := ⟨rfl⟩
instance : NoExt 17 := ⟨rfl⟩
instance : NoExt 18 := ⟨rfl⟩
instance : NoExt 19 := ⟨rfl⟩
instance : NoExt 20 := ⟨rfl⟩
instance : NoExt 21 := ⟨rfl⟩
instance : NoExt 22 := ⟨rfl⟩
instance : NoExt 23 := ⟨rfl⟩
instance : NoExt 24 := ⟨rfl⟩
instance : NoExt 25 := ⟨rfl⟩
instance : NoExt 26 := ⟨rfl⟩
instance : NoExt 27 := ⟨rfl⟩
instance : NoExt 28 := ⟨rfl⟩
instance : NoExt 29 := ⟨rfl⟩
instance : NoExt 30 := ⟨rfl⟩
instance : NoExt 31 := ⟨rfl⟩
instance : NoExt 32 := ⟨rfl⟩
instance : NoExt 33 := ⟨rfl⟩
instance : NoExt 34 := ⟨rfl⟩
instance : NoExt 35 := ⟨rfl⟩
instance : NoExt 36 := ⟨rfl⟩
instance : NoExt 37 := ⟨rfl⟩
instance : NoExt 38 := ⟨rfl⟩
instance : NoExt 39 := ⟨rfl⟩
instance : NoExt 40 := ⟨rfl⟩
instance : NoExt 41 := ⟨rfl⟩
instance : NoExt 42 := ⟨rfl⟩
instance : NoExt 43 := ⟨rfl⟩
instance : NoExt 44 := ⟨rfl⟩
instance : NoExt 45 := ⟨rfl⟩
instance : NoExt 46 := ⟨rfl⟩
instance : NoExt 47 := ⟨rfl⟩
instance : NoExt 48 := ⟨rfl⟩
instance : NoExt 49 := ⟨rfl⟩
instance : NoExt 50 := ⟨rfl⟩
instance : NoExt 51 := ⟨rfl⟩
instance : NoExt 52 := ⟨rfl⟩
instance : NoExt 53 := ⟨rfl⟩
instance : NoExt 54 := ⟨rfl⟩
instance : NoExt 55 := ⟨rfl⟩
instance : NoExt 56 := ⟨rfl⟩
instance : NoExt 57 := ⟨rfl⟩
instance : NoExt 58 := ⟨rfl⟩
instance : NoExt 59 := ⟨rfl⟩
instance : NoExt 60 := ⟨rfl⟩
instance : NoExt 61 := ⟨rfl⟩
instance : NoExt 62 := ⟨rfl⟩
instance : NoExt 63 := ⟨rfl⟩
instance : NoExt 64 := ⟨rfl⟩
instance : NoExt 65 := ⟨rfl⟩
instance : NoExt 66 := ⟨rfl⟩
instance : NoExt 67 := ⟨rfl⟩
instance : NoExt 68 := ⟨rfl⟩
instance : NoExt 69 := ⟨rfl⟩
instance : NoExt 70 := ⟨rfl⟩
instance : NoExt 71 := ⟨rfl⟩
instance : NoExt 72 := ⟨rfl⟩
instance : NoExt 73 := ⟨rfl⟩
instance : NoExt 74 := ⟨rfl⟩
instance : NoExt 75 := ⟨rfl⟩
instance : NoExt 77 := ⟨rfl⟩
instance : NoExt 78 := ⟨rfl⟩
instance : NoExt 79 := ⟨rfl⟩
instance : NoExt 80 := ⟨rfl⟩
instance : NoExt 81 := ⟨rfl⟩
instance : NoExt 82 := ⟨rfl⟩
instance : NoExt 83 := ⟨rfl⟩
instance : NoExt 84 := ⟨rfl⟩
instance : NoExt 85 := ⟨rfl⟩
instance : NoExt 86 := ⟨rfl⟩
instance : NoExt 87 := ⟨rfl⟩
instance : NoExt 88 := ⟨rfl⟩
instance : NoExt 89 := ⟨rfl⟩
instance : NoExt 90 := ⟨rfl⟩
instance : NoExt 91 := ⟨rfl⟩
instance : NoExt 92 := ⟨rfl⟩
end Go.Proofs.GT

/-! Tokens of a text, as_ plain Lean. -/
namespace Go.Ama

abbrev Bytes := List UInt8
abbrev Tok := Int × Bytes

def blank (c : UInt8) : Bool := c == 32 || c == 9 || c == 10
def mark (c : UInt8) : Bool := c == 40 || c == 41 || c == 91 || c == 93 || c == 123 || c == 125 || c == 58 || c == 46
def named (c : UInt8) : Bool := (decide (97 ≤ c) && decide (c ≤ 122)) || (decide (65 ≤ c) && decide (c ≤ 90)) || (decide (48 ≤ c) && decide (c ≤ 57)) || c == 95 || c == 39
def inLine (c : UInt8) : Bool := c != 10

theorem length_dropWhile_le {α : Type} (p : α → Bool) : ∀ l : List α, (l.dropWhile p).length ≤ l.length
  | [] => Nat.le_refl _
  | x :: l => by
    rw [List.dropWhile_cons]
    split
    · have := length_dropWhile_le p l; simp; omega
    · exact Nat.le_refl _

/-- Tokens of a text; none: it has none. -/
def toks : Bytes → Option (List Tok)
  | [] => some []
  | c :: r =>
    if blank c then toks r
    else if c == 37 then toks (r.dropWhile inLine)
    else if mark c then (toks r).map ((1, [c]) :: ·)
    else if named c then (toks (r.dropWhile named)).map ((0, c :: r.takeWhile named) :: ·)
    else none
termination_by l => l.length
decreasing_by
  all_goals first
    | (simp; done)
    | (have := length_dropWhile_le inLine r; simp; omega)
    | (have := length_dropWhile_le named r; simp; omega)

/-- The text of tokens, behind one of a kind. -/
def textFrom : Int → List Tok → Bytes
  | _, [] => []
  | last, (k, s) :: l => (if k = 0 ∧ last = 0 then [32] else []) ++ s ++ textFrom k l
def text (l : List Tok) : Bytes := textFrom 1 l

theorem toks_nil : toks [] = some [] := by unfold toks; rfl
theorem toks_blank {c : UInt8} (r : Bytes) (h : blank c = true) : toks (c :: r) = toks r := by rw [toks, if_pos h]
theorem toks_note {c : UInt8} (r : Bytes) (h : c = 37) : toks (c :: r) = toks (r.dropWhile inLine) := by subst h; rw [toks, if_neg (by decide), if_pos (by decide)]
theorem mark_facts {c : UInt8} (h : mark c = true) : blank c = false ∧ (c == 37) = false ∧ named c = false := by
  simp only [mark, Bool.or_eq_true, beq_iff_eq] at h
  rcases h with ((((((h | h) | h) | h) | h) | h) | h) | h <;> subst h <;> decide
theorem byteAll {p : UInt8 → Prop} (h : ∀ n : Fin 256, p (UInt8.ofNat n.val)) (c : UInt8) : p c := by
  have := h ⟨c.toNat, c.toNat_lt⟩
  simpa using this
theorem named_all : ∀ n : Fin 256, named (UInt8.ofNat n.val) = true → blank (UInt8.ofNat n.val) = false ∧ (UInt8.ofNat n.val == 37) = false ∧ mark (UInt8.ofNat n.val) = false ∧ inLine (UInt8.ofNat n.val) = true := by decide +kernel
theorem named_facts {c : UInt8} (h : named c = true) : blank c = false ∧ (c == 37) = false ∧ mark c = false ∧ inLine c = true := by
  exact byteAll (p := fun c => named c = true → blank c = false ∧ (c == 37) = false ∧ mark c = false ∧ inLine c = true) named_all c h
theorem toks_mark {c : UInt8} (r : Bytes) (h : mark c = true) : toks (c :: r) = (toks r).map ((1, [c]) :: ·) := by
  obtain ⟨h1, h2, _⟩ := mark_facts h
  rw [toks, if_neg (by simp [h1]), if_neg (by simp [h2]), if_pos h]
theorem toks_name {c : UInt8} (r : Bytes) (h : named c = true) : toks (c :: r) = (toks (r.dropWhile named)).map ((0, c :: r.takeWhile named) :: ·) := by
  obtain ⟨h1, h2, h3, _⟩ := named_facts h
  rw [toks, if_neg (by simp [h1]), if_neg (by simp [h2]), if_neg (by simp [h3]), if_pos h]
theorem toks_bad {c : UInt8} (r : Bytes) (h1 : blank c = false) (h2 : (c == 37) = false) (h3 : mark c = false) (h4 : named c = false) : toks (c :: r) = none := by
  rw [toks, if_neg (by simp [h1]), if_neg (by simp [h2]), if_neg (by simp [h3]), if_neg (by simp [h4])]

/-- By the form of a text. -/
theorem bytes_ind {p : Bytes → Prop} (h0 : p []) (h1 : ∀ c r, blank c = true → p r → p (c :: r)) (h2 : ∀ r, p (r.dropWhile inLine) → p (37 :: r)) (h3 : ∀ c r, mark c = true → p r → p (c :: r))
    (h4 : ∀ c r, named c = true → p (r.dropWhile named) → p (c :: r)) (h5 : ∀ c r, blank c = false → (c == 37) = false → mark c = false → named c = false → p (c :: r)) : ∀ l, p l := by
  intro l
  generalize hn : l.length = n
  induction n using Nat.strongRecOn generalizing l with
  | _ n ih =>
    subst hn
    cases l with
    | nil => exact h0
    | cons c r =>
      cases b1 : blank c with
      | true => exact h1 c r b1 (ih r.length (by simp) r rfl)
      | false =>
        cases b2 : c == 37 with
        | true =>
          rw [beq_iff_eq] at b2; subst b2
          exact h2 r (ih _ (by have := length_dropWhile_le inLine r; simp; omega) _ rfl)
        | false =>
          cases b3 : mark c with
          | true => exact h3 c r b3 (ih r.length (by simp) r rfl)
          | false =>
            cases b4 : named c with
            | true => exact h4 c r b4 (ih _ (by have := length_dropWhile_le named r; simp; omega) _ rfl)
            | false => exact h5 c r b1 b2 b3 b4

/-- What a token looks like. -/
def okTok (t : Tok) : Prop := (t.1 = 1 ∧ ∃ c, t.2 = [c] ∧ mark c = true) ∨ (t.1 = 0 ∧ t.2 ≠ [] ∧ ∀ c ∈ t.2, named c = true)

theorem mem_takeWhile {α : Type} {p : α → Bool} : ∀ {l : List α} {x : α}, x ∈ l.takeWhile p → p x = true
  | [], _, h => by simp at h
  | y :: l, x, h => by
    rw [List.takeWhile_cons] at h
    split at h
    · rename_i hy
      rcases List.mem_cons.1 h with rfl | h
      · exact hy
      · exact mem_takeWhile h
    · simp at h

theorem toks_ok : ∀ (b : Bytes) (l : List Tok), toks b = some l → ∀ t ∈ l, okTok t := by
  refine bytes_ind ?_ ?_ ?_ ?_ ?_ ?_
  · intro l h t ht; rw [toks_nil] at h; cases h; simp at ht
  · intro c r hc ih l h; rw [toks_blank r hc] at h; exact ih l h
  · intro r ih l h; rw [toks_note r rfl] at h; exact ih l h
  · intro c r hc ih l h t ht
    rw [toks_mark r hc, Option.map_eq_some_iff] at h
    obtain ⟨l', h, rfl⟩ := h
    rcases List.mem_cons.1 ht with rfl | ht
    · exact .inl ⟨rfl, c, rfl, hc⟩
    · exact ih l' h t ht
  · intro c r hc ih l h t ht
    rw [toks_name r hc, Option.map_eq_some_iff] at h
    obtain ⟨l', h, rfl⟩ := h
    rcases List.mem_cons.1 ht with rfl | ht
    · refine .inr ⟨rfl, by simp, fun x hx => ?_⟩
      rcases List.mem_cons.1 hx with rfl | hx
      · exact hc
      · exact mem_takeWhile hx
    · exact ih l' h t ht
  · intro c r h1 h2 h3 h4 l h; rw [toks_bad r h1 h2 h3 h4] at h; cases h

theorem takeWhile_all {α : Type} {p : α → Bool} : ∀ (a b : List α), (∀ x ∈ a, p x = true) → (∀ x, b.head? = some x → p x = false) → (a ++ b).takeWhile p = a ∧ (a ++ b).dropWhile p = b
  | [], b, _, hb => by
    cases b with
    | nil => exact ⟨rfl, rfl⟩
    | cons x b => simp [List.takeWhile_cons, List.dropWhile_cons, hb x rfl]
  | x :: a, b, ha, hb => by
    obtain ⟨h1, h2⟩ := takeWhile_all a b (fun y hy => ha y (by simp [hy])) hb
    simp [List.takeWhile_cons, List.dropWhile_cons, ha x (by simp), h1, h2]

theorem text_head {k : Int} : ∀ (l : List Tok), (∀ t ∈ l, okTok t) → k = 0 → ∀ x, (textFrom k l).head? = some x → named x = false
  | [], _, _, x, h => by simp [textFrom] at h
  | (j, s) :: l, hl, hk, x, h => by
    subst hk
    rcases hl (j, s) (by simp) with ⟨h1, c, h2, h3⟩ | ⟨h1, h2, h3⟩
    · simp only at h1 h2; subst h1 h2
      have e : (textFrom 0 ((1, [c]) :: l)) = c :: textFrom 1 l := by simp [textFrom]
      rw [e] at h
      simp only [List.head?_cons, Option.some.injEq] at h
      subst h; exact (mark_facts h3).2.2
    · simp only at h1 h2; subst h1
      have e : (textFrom 0 ((0, s) :: l)) = 32 :: (s ++ textFrom 0 l) := by simp [textFrom]
      rw [e] at h
      simp only [List.head?_cons, Option.some.injEq] at h
      subst h; decide

/-- Tokens are read back. -/
theorem toks_textFrom : ∀ (l : List Tok) (k : Int), (∀ t ∈ l, okTok t) → toks (textFrom k l) = some l
  | [], _, _ => toks_nil
  | (j, s) :: l, k, hl => by
    have ih := fun k => toks_textFrom l k fun t ht => hl t (by simp [ht])
    rcases hl (j, s) (by simp) with ⟨h1, c, h2, h3⟩ | ⟨h1, h2, h3⟩
    · simp only at h1 h2; subst h1 h2
      have e : (textFrom k ((1, [c]) :: l)) = c :: textFrom 1 l := by simp [textFrom]
      rw [e, toks_mark _ h3, ih]; rfl
    · simp only at h1 h2; subst h1
      have main : toks (s ++ textFrom 0 l) = some ((0, s) :: l) := by
        cases s with
        | nil => exact absurd rfl h2
        | cons c s =>
          obtain ⟨e1, e2⟩ := takeWhile_all (p := named) s (textFrom 0 l) (fun x hx => h3 x (by simp [hx])) (text_head l (fun t ht => hl t (by simp [ht])) rfl)
          rw [List.cons_append, toks_name _ (h3 c (by simp)), e1, e2, ih]; rfl
      by_cases hk : k = 0
      · have e : (textFrom k ((0, s) :: l)) = 32 :: (s ++ textFrom 0 l) := by simp [textFrom, hk]
        rw [e, toks_blank _ (by decide)]; exact main
      · have e : (textFrom k ((0, s) :: l)) = s ++ textFrom 0 l := by simp [textFrom, hk]
        rw [e]; exact main
theorem toks_text {b : Bytes} {l : List Tok} (h : toks b = some l) : toks (text l) = some l := toks_textFrom l 1 (toks_ok b l h)

/-! ### lengths -/
theorem takeWhile_dropWhile_length {α : Type} (p : α → Bool) (l : List α) : (l.takeWhile p).length + (l.dropWhile p).length = l.length := by
  rw [← List.length_append, List.takeWhile_append_dropWhile]

def weight : List Tok → Nat
  | [] => 0
  | (_, s) :: l => s.length + weight l
theorem toks_weight : ∀ (b : Bytes) (l : List Tok), toks b = some l → weight l ≤ b.length := by
  refine bytes_ind ?_ ?_ ?_ ?_ ?_ ?_
  · intro l h; rw [toks_nil] at h; cases h; simp [weight]
  · intro c r hc ih l h; rw [toks_blank r hc] at h; have := ih l h; simp; omega
  · intro r ih l h; rw [toks_note r rfl] at h; have := ih l h; have := length_dropWhile_le inLine r; simp; omega
  · intro c r hc ih l h
    rw [toks_mark r hc, Option.map_eq_some_iff] at h
    obtain ⟨l', h, rfl⟩ := h
    have := ih l' h; simp [weight]; omega
  · intro c r hc ih l h
    rw [toks_name r hc, Option.map_eq_some_iff] at h
    obtain ⟨l', h, rfl⟩ := h
    have := ih l' h
    have := takeWhile_dropWhile_length named r
    simp [weight]; omega
  · intro c r h1 h2 h3 h4 l h; rw [toks_bad r h1 h2 h3 h4] at h; cases h
theorem length_le_weight : ∀ (l : List Tok), (∀ t ∈ l, okTok t) → l.length ≤ weight l
  | [], _ => by simp [weight]
  | (j, s) :: l, h => by
    have := length_le_weight l fun t ht => h t (by simp [ht])
    have hs : 1 ≤ s.length := by
      rcases h (j, s) (by simp) with ⟨_, c, h2, _⟩ | ⟨_, h2, _⟩
      · simp only at h2; rw [h2]; simp
      · cases s with
        | nil => exact absurd rfl h2
        | cons => simp
    simp [weight]; omega
theorem textFrom_length : ∀ (l : List Tok) (k : Int), (textFrom k l).length ≤ weight l + l.length
  | [], _ => by simp [textFrom]
  | (j, s) :: l, k => by
    have := textFrom_length l j
    simp only [textFrom, weight, List.length_append, List.length_cons]
    split <;> simp <;> omega
theorem text_length {b : Bytes} {l : List Tok} (h : toks b = some l) : (text l).length ≤ 2 * b.length := by
  have h1 := textFrom_length l 1
  have h2 := toks_weight b l h
  have h3 := length_le_weight l (toks_ok b l h)
  unfold text; omega

/-! ### two texts -/
theorem dropWhile_append {α : Type} {p : α → Bool} {x : α} (hx : p x = false) : ∀ (a b : List α), (a ++ x :: b).dropWhile p = a.dropWhile p ++ x :: b ∧ (a ++ x :: b).takeWhile p = a.takeWhile p
  | [], b => by simp [List.dropWhile_cons, List.takeWhile_cons, hx]
  | y :: a, b => by
    obtain ⟨h1, h2⟩ := dropWhile_append hx a b
    rw [List.cons_append, List.dropWhile_cons, List.dropWhile_cons, List.takeWhile_cons, List.takeWhile_cons, h1, h2]
    split <;> simp

/-- A blank between two texts. -/
theorem toks_join (x : UInt8) (hx : blank x = true) (hn : named x = false) : ∀ (a : Bytes), (inLine x = true → (37 : UInt8) ∉ a) → ∀ b : Bytes, toks (a ++ x :: b) = (toks a).bind fun l => (toks b).map (l ++ ·) := by
  refine bytes_ind ?_ ?_ ?_ ?_ ?_ ?_
  · intro _ b; rw [List.nil_append, toks_blank _ hx, toks_nil]; simp
  · intro c r hc ih h b
    rw [List.cons_append, toks_blank _ hc, toks_blank _ hc]
    exact ih (fun hx h' => h hx (by simp [h'])) b
  · intro r ih h b
    have hx2 : inLine x = false := by
      cases e : inLine x with
      | false => rfl
      | true => exact absurd (h e) (by simp)
    obtain ⟨h1, _⟩ := dropWhile_append hx2 r b
    rw [List.cons_append, toks_note _ rfl, toks_note _ rfl, h1]
    exact ih (fun hx => by rw [hx] at hx2; cases hx2) b
  · intro c r hc ih h b
    rw [List.cons_append, toks_mark _ hc, toks_mark _ hc, ih (fun hx h' => h hx (by simp [h'])) b]
    cases toks r <;> cases toks b <;> rfl
  · intro c r hc ih h b
    obtain ⟨h1, h2⟩ := dropWhile_append hn r b
    rw [List.cons_append, toks_name _ hc, toks_name _ hc, h1, h2, ih (fun hx h' => h hx (by simp [(List.dropWhile_sublist _).subset h'])) b]
    cases toks (r.dropWhile named) <;> cases toks b <;> rfl
  · intro c r h1 h2 h3 h4 h b
    rw [List.cons_append, toks_bad _ h1 h2 h3 h4, toks_bad _ h1 h2 h3 h4]; rfl

/-! ### notes -/
def note : Bytes := [32, 9, 37, 32, 97, 32, 40, 110, 111, 116, 101, 10]
def withNotes : Bytes → Bytes
  | [] => []
  | c :: r => if c = 10 then c :: (note ++ withNotes r) else c :: withNotes r
theorem toks_noted (r : Bytes) : toks (note ++ r) = toks r := by
  show toks (32 :: 9 :: 37 :: 32 :: 97 :: 32 :: 40 :: 110 :: 111 :: 116 :: 101 :: 10 :: r) = _
  rw [toks_blank _ (by decide), toks_blank _ (by decide), toks_note _ rfl]
  have : List.dropWhile inLine (32 :: 97 :: 32 :: 40 :: 110 :: 111 :: 116 :: 101 :: 10 :: r) = 10 :: r := by
    simp [List.dropWhile_cons, inLine]
  rw [this, toks_blank _ (by decide)]
theorem withNotes_drop (p : UInt8 → Bool) (hp : p 10 = false) : ∀ r, (withNotes r).dropWhile p = withNotes (r.dropWhile p) ∧ (withNotes r).takeWhile p = r.takeWhile p
  | [] => ⟨rfl, rfl⟩
  | c :: r => by
    obtain ⟨h1, h2⟩ := withNotes_drop p hp r
    by_cases hc : c = 10
    · subst hc; simp [withNotes, List.dropWhile_cons, List.takeWhile_cons, hp]
    · have e : withNotes (c :: r) = c :: withNotes r := by simp [withNotes, hc]
      rw [e, List.dropWhile_cons, List.dropWhile_cons, List.takeWhile_cons, List.takeWhile_cons, h1, h2]
      split
      · exact ⟨rfl, rfl⟩
      · exact ⟨e.symm, rfl⟩
theorem toks_withNotes : ∀ b, toks (withNotes b) = toks b := by
  refine bytes_ind rfl ?_ ?_ ?_ ?_ ?_
  · intro c r hc ih
    by_cases h : c = 10
    · subst h
      have e : withNotes (10 :: r) = 10 :: (note ++ withNotes r) := by simp [withNotes]
      rw [e, toks_blank _ hc, toks_noted, ih, toks_blank _ hc]
    · have e : withNotes (c :: r) = c :: withNotes r := by simp [withNotes, h]
      rw [e, toks_blank _ hc, ih, toks_blank _ hc]
  · intro r ih
    have e : withNotes (37 :: r) = 37 :: withNotes r := by simp [withNotes]
    rw [e, toks_note _ rfl, (withNotes_drop inLine (by decide) r).1, ih, toks_note _ rfl]
  · intro c r hc ih
    have h : c ≠ 10 := by rintro rfl; simp [mark] at hc
    have e : withNotes (c :: r) = c :: withNotes r := by simp [withNotes, h]
    rw [e, toks_mark _ hc, ih, toks_mark _ hc]
  · intro c r hc ih
    have h : c ≠ 10 := by rintro rfl; simp [named] at hc
    have e : withNotes (c :: r) = c :: withNotes r := by simp [withNotes, h]
    obtain ⟨h1, h2⟩ := withNotes_drop named (by decide) r
    rw [e, toks_name _ hc, h1, h2, ih, toks_name _ hc]
  · intro c r h1 h2 h3 h4
    have h : c ≠ 10 := by rintro rfl; simp [blank] at h1
    have e : withNotes (c :: r) = c :: withNotes r := by simp [withNotes, h]
    rw [e, toks_bad _ h1 h2 h3 h4, toks_bad _ h1 h2 h3 h4]

/-- What stands behind a percent sign does not matter. -/
theorem toks_percent (a n b : Bytes) (ha : (37 : UInt8) ∉ a) (hn : ∀ c ∈ n, c ≠ 10) : toks (a ++ 32 :: 37 :: (n ++ 10 :: b)) = toks (a ++ 10 :: b) := by
  rw [toks_join 32 (by decide) (by decide) a (fun _ => ha), toks_join 10 (by decide) (by decide) a (fun h => by simp [inLine] at h)]
  have : toks (37 :: (n ++ 10 :: b)) = toks b := by
    have h2 := (takeWhile_all (p := inLine) n (10 :: b) (fun x hx => by simp [inLine, hn x hx]) (fun x hx => by simp at hx; subst hx; decide)).2
    rw [toks_note _ rfl, h2, toks_blank _ (by decide)]
  rw [this]

/-! ### the bytes of tokens -/
def allOf : List Tok → Bytes
  | [] => []
  | (_, s) :: l => s ++ allOf l
theorem filter_named (r : Bytes) : (r.takeWhile named).filter (fun c => !blank c) = r.takeWhile named := by
  rw [List.filter_eq_self]
  intro c hc
  simp [(named_facts (mem_takeWhile hc)).1]
theorem toks_all : ∀ (b : Bytes), (37 : UInt8) ∉ b → ∀ l, toks b = some l → allOf l = b.filter fun c => !blank c := by
  refine bytes_ind ?_ ?_ ?_ ?_ ?_ ?_
  · intro _ l h; rw [toks_nil] at h; cases h; rfl
  · intro c r hc ih h l hl
    rw [toks_blank r hc] at hl
    rw [ih (fun h' => h (by simp [h'])) l hl, List.filter_cons, hc]; rfl
  · intro r _ h; simp at h
  · intro c r hc ih h l hl
    rw [toks_mark r hc, Option.map_eq_some_iff] at hl
    obtain ⟨l', hl, rfl⟩ := hl
    rw [List.filter_cons, (mark_facts hc).1, ← ih (fun h' => h (by simp [h'])) l' hl]; rfl
  · intro c r hc ih h l hl
    rw [toks_name r hc, Option.map_eq_some_iff] at hl
    obtain ⟨l', hl, rfl⟩ := hl
    have h2 := ih (fun h' => h (by simp [(List.dropWhile_sublist _).subset h'])) l' hl
    have h3 : r.filter (fun c => !blank c) = r.takeWhile named ++ (r.dropWhile named).filter fun c => !blank c := by
      conv => lhs; rw [← List.takeWhile_append_dropWhile (p := named) (l := r)]
      rw [List.filter_append, filter_named]
    rw [List.filter_cons, (named_facts hc).1, h3, ← h2]; rfl
  · intro c r h1 h2 h3 h4 _ l h; rw [toks_bad r h1 h2 h3 h4] at h; cases h

/-! ### one byte, many times -/
theorem toks_replicate (c : UInt8) : ∀ n, 1 ≤ n → (toks (List.replicate n c)).isSome = (toks [c]).isSome := by
  intro n hn
  by_cases h : blank c = true ∨ mark c = true
  · have one : (toks [c]).isSome = true := by
      rcases h with h | h
      · rw [toks_blank _ h, toks_nil]; rfl
      · rw [toks_mark _ h, toks_nil]; rfl
    have all : ∀ n, (toks (List.replicate n c)).isSome = true := by
      intro n
      induction n with
      | zero => rw [List.replicate_zero, toks_nil]; rfl
      | succ n ih =>
        rw [List.replicate_succ]
        rcases h with h | h
        · rw [toks_blank _ h]; exact ih
        · rw [toks_mark _ h, Option.isSome_map]; exact ih
    rw [one, all]
  · obtain ⟨n, rfl⟩ : ∃ m, n = m + 1 := ⟨n - 1, by omega⟩
    rw [not_or] at h
    rw [List.replicate_succ]
    cases h2 : c == 37 with
    | true =>
      rw [beq_iff_eq] at h2; subst h2
      rw [toks_note _ rfl, toks_note _ rfl]
      have : ∀ n, List.dropWhile inLine (List.replicate n (37 : UInt8)) = [] := by
        intro n
        induction n with
        | zero => rfl
        | succ n ih => rw [List.replicate_succ, List.dropWhile_cons]; exact ih
      rw [this]; rfl
    | false =>
      cases h3 : named c with
      | true =>
        rw [toks_name _ h3, toks_name _ h3, Option.isSome_map, Option.isSome_map]
        have : ∀ n, List.dropWhile named (List.replicate n c) = [] := by
          intro n
          induction n with
          | zero => rfl
          | succ n ih => rw [List.replicate_succ, List.dropWhile_cons, if_pos h3]; exact ih
        rw [this]; rfl
      | false => rw [toks_bad _ (by simpa using h.1) h2 (by simpa using h.2) h3, toks_bad _ (by simpa using h.1) h2 (by simpa using h.2) h3]
end Go.Ama

/-! Bytes, strings and tokens as_ tree values. -/
namespace Go.Ama
open Go Go.AM

def ba (l : Bytes) : ByteArray := ⟨l.toArray⟩
def encB (l : Bytes) : List V := l.map fun b => .ik .u8 (b.toNat : Int)
def encTok (t : Tok) : V := .agg [.int t.1, .str (ba t.2)]
def encToks (l : List Tok) : List V := l.map encTok

theorem ba_data (s : ByteArray) : ba s.data.toList = s := by cases s; simp [ba]
theorem ba_inj {a b : Bytes} : ba a = ba b ↔ a = b := by
  constructor
  · intro h
    have : (ba a).data.toList = (ba b).data.toList := by rw [h]
    simpa [ba] using this
  · rintro rfl; rfl
theorem ba_size (l : Bytes) : (ba l).size = l.length := by simp [ba, ByteArray.size]
theorem ba_toList (l : Bytes) : (ba l).toList = l := by rw [ByteArray.toList_eq]; simp [ba]
theorem ba_dl (l : Bytes) : (ba l).data.toList = l := by simp [ba]
theorem ba_append (a b : Bytes) : ba a ++ ba b = ba (a ++ b) := by
  apply ByteArray.ext
  simp [ba, ByteArray.data_append]
theorem ba_extract (l : Bytes) (i j : Nat) : (ba l).extract i j = ba ((l.take j).drop i) := by
  apply ByteArray.ext
  simp [ba, ByteArray.data_extract, List.drop_take]
theorem ba_eq (a b : Bytes) : ((ba a).toList == (ba b).toList) = decide (a = b) := by
  rw [ba_toList, ba_toList]
  by_cases h : a = b <;> simp [h]
theorem bytesV_ba (l : Bytes) : bytesV (ba l) = encB l := by simp [bytesV, ba, encB]
theorem strV_encB (l : Bytes) : strV (encB l) = ba l := by
  unfold strV encB ba
  congr 1
  rw [List.map_map]
  congr 1
  conv => rhs; rw [← List.map_id l]
  apply List.map_congr_left
  intro b _
  simp [byteOfV]
theorem isU8_encB (l : Bytes) : (encB l).all isU8 = true := by
  rw [List.all_eq_true]
  intro v hv
  obtain ⟨b, _, rfl⟩ := List.mem_map.1 hv
  rfl
@[simp] theorem encB_length (l : Bytes) : (encB l).length = l.length := by simp [encB]
theorem encB_append (a b : Bytes) : encB (a ++ b) = encB a ++ encB b := by simp [encB]
theorem encB_take (l : Bytes) (n : Nat) : (encB l).take n = encB (l.take n) := by simp [encB, List.map_take]
theorem encB_drop (l : Bytes) (n : Nat) : (encB l).drop n = encB (l.drop n) := by simp [encB, List.map_drop]
@[simp] theorem encToks_length (l : List Tok) : (encToks l).length = l.length := by simp [encToks]
theorem encToks_append (a b : List Tok) : encToks (a ++ b) = encToks a ++ encToks b := by simp [encToks]
theorem getI_encB {l : Bytes} {i : Nat} (h : i < l.length) : getI (encB l) (i : Int) = .ik .u8 (l[i].toNat : Int) := by
  simp [getI, encB, List.getD_eq_getElem?_getD, List.getElem?_map, h]
theorem getI_encToks {l : List Tok} {i : Nat} (h : i < l.length) : getI (encToks l) (i : Int) = encTok l[i] := by
  simp [getI, encToks, List.getD_eq_getElem?_getD, List.getElem?_map, h]
theorem below_encB (n : Nat) : ∀ l : Bytes, belowL n (encB l) = true
  | [] => rfl
  | b :: l => by
    have := below_encB n l
    simp only [encB] at this
    simp [encB, belowL, below, this]
theorem below_encToks (n : Nat) : ∀ l : List Tok, belowL n (encToks l) = true
  | [] => rfl
  | t :: l => by
    have := below_encToks n l
    simp only [encToks] at this
    simp [encToks, encTok, belowL, below, this]
theorem byteAt {l : Bytes} {i : Nat} (h : i < l.length) : ((ba l).data.toList.getD i 0) = l[i] := by
  rw [ba_dl, List.getD_eq_getElem?_getD, List.getElem?_eq_getElem h]; rfl
theorem bulk_encB : ∀ l : Bytes, bulkL (encB l) = l.length
  | [] => rfl
  | b :: l => by
    have := bulk_encB l
    simp only [encB] at this
    simp only [encB, List.map_cons, bulkL, bulkV, List.length_cons, this]; omega
theorem bulk_encToks : ∀ l : List Tok, bulkL (encToks l) = weight l + 3 * l.length
  | [] => rfl
  | (k, s) :: l => by
    have := bulk_encToks l
    simp only [encToks] at this
    simp only [encToks, encTok, List.map_cons, bulkL, bulkV, List.length_cons, weight, this, ba_size]; omega
theorem get!_ba {l : Bytes} {i : Nat} (h : i < l.length) : (ba l).get! i = l[i] := by
  show (ba l).data[i]! = l[i]
  have : (ba l).data = l.toArray := rfl
  rw [this, getElem!_pos l.toArray i (by simpa using h)]
  simp
theorem decode_lt {l : Bytes} {i : Nat} (h : i < l.length) (h1 : l[i] < 128) : Utf8.decode (ba l) i = (l[i].toNat, 1) := by
  have e : ((ba l).get! (i + 0)).toNat = l[i].toNat := by rw [Nat.add_zero, get!_ba h]
  have h2 : l[i].toNat < 128 := by simpa [UInt8.lt_iff_toNat_lt] using h1
  unfold Utf8.decode
  simp only [e]
  rw [if_pos h2]
theorem decode_ge {l : Bytes} {i : Nat} (h : i < l.length) (h1 : 128 ≤ l[i]) : 128 ≤ (Utf8.decode (ba l) i).1 := by
  have e : ((ba l).get! (i + 0)).toNat = l[i].toNat := by rw [Nat.add_zero, get!_ba h]
  have h2 : ¬ l[i].toNat < 128 := by
    have : 128 ≤ l[i].toNat := by simpa [UInt8.le_iff_toNat_le] using h1
    omega
  unfold Utf8.decode
  simp only [e]
  rw [if_neg h2]
  split
  · split
    · simpa using ‹_›
    · simp [Utf8.runeError]
  · split
    · split
      · rename_i h; simp at h; simp; omega
      · simp [Utf8.runeError]
    · split
      · split
        · rename_i h; simp at h; simp; omega
        · simp [Utf8.runeError]
      · simp [Utf8.runeError]
end Go.Ama

/-! What the program's functions come to, by all the fuel. -/
namespace Go.Proofs.GT
open Go Go.AM Go.Ama

/-- All that the program's functions say. -/
noncomputable abbrev W : Oracle := Om Try.prog cfg ext
theorem C (f : Nat) (args : List V) (st : St) [h : NoExt f] : W.call f args st = callBody Try.prog cfg W f args st :=
  (om_call extLim f args st).trans (by show (match ext f with | some x => x W args st | none => callBody Try.prog cfg W f args st) = _; rw [h.h])
theorem Cx (f : Nat) {x : Oracle → List V → St → Option (Out × St)} (args : List V) (st : St) (h : ext f = some x) : W.call f args st = x W args st :=
  (om_call extLim f args st).trans (by show (match ext f with | some x => x W args st | none => callBody Try.prog cfg W f args st) = _; rw [h])
theorem L (f key : Nat) (vals : List V) (st : St) : W.loop f key vals st = loopBody Try.prog cfg W f key vals st := om_loop extLim f key vals st
theorem Rd (l f key : Nat) (vals args : List V) (st : St) : W.round l f key vals args st = roundBody Try.prog cfg W l f key vals args st := om_round extLim l f key vals args st

/-- A function of nothing but its arguments. -/
def Ev (f : Nat) (args : List V) (v : V) : Prop := W.call f args [] = some (.ret v, [])
theorem Ev.p {f : Nat} {args : List V} {v : V} (h : Ev f args v) (h1 : belowL 0 args = true := by simp [belowL, below]) (h2 : below 0 v = true := by simp [below, belowL]) : pcall W f args = some v := pcall_of h h1 h2

/-- What so much fuel tells. -/
noncomputable def checkB (m f : Nat) (args : List V) : Option Bool :=
  match (fuelO Try.prog cfg ext m).call f args [] with
  | some (.ret (.bool b), []) => some b
  | _ => none
theorem Ev.of_check {m f : Nat} {args : List V} {b : Bool} (h : checkB m f args = some b) : Ev f args (.bool b) := by
  unfold checkB at h
  split at h
  · rename_i b' hc
    cases h
    exact evt_const ((fuel_om extLim m).call _ _ _ _ hc)
  · cases h
end Go.Proofs.GT

namespace Go.Proofs.GT
open Go Go.AM
set_option maxRecDepth 20000

theorem e_term_May (O : Oracle) (n0 : Int) (n1 : Int) (l2 : (List V)) : callBody Try.prog cfg O 29 [.agg [.int n0, .int n1, .vec .plain (some 3) l2]] [] =
  obind (pcall O 52 [V.agg [V.int n0, V.int n1, V.vec .plain (some 3) l2]]) fun r1 => onInt r1 fun n2 => bc (decide (n2 ≤ 60)) (obind (pcall O 53 [V.agg [V.int
  n0, V.int n1, V.vec .plain (some 3) l2]]) fun r3 => onInt r3 fun n4 => bc (decide (n4 ≤ 4000)) (obind (O.call 54 [V.agg [V.int n0, V.int n1, V.vec .plain (some 3) l2],
  V.fn 55 [] []] []) fun r5 => onRet r5.fst (fun v6 => onBool v6 fun b7 => some (Out.ret (V.bool b7), [])) fun p8 => none) (some (Out.ret (V.bool false), []))) (some
  (Out.ret (V.bool false), [])) := by kernel_rfl

theorem e_law09_Few (O : Oracle) (l0 : (List V)) : callBody Try.prog cfg O 14 [.vec .plain (some 4) l0] [] =
  bc (decide ((↑l0.length : Int) > 30)) (some (Out.ret (V.bool false), [])) (obind (O.loop 14 4 [V.int 0, V.vec .plain (some 4) l0] []) fun r1 => onEx r1.fst none (onCons
  r1.snd.fst fun v2 c3 => onBool v2 fun b4 => onNil c3 (some (Out.ret (V.bool b4), []))) (fun i5 => bc (i5.beq 0) (onNil r1.snd.fst (some (Out.ret (V.bool true), []))) none) fun v6
  => none) := by kernel_rfl

theorem e_law09_Few_L4 (O : Oracle) (n0 : Int) (l1 : (List V)) : loopBody Try.prog cfg O 14 4 [.int n0, .vec .plain (some 4) l1] [] =
  bc (decide (n0 < (↑l1.length : Int))) (gd (decide (0 ≤ n0) && decide (n0 < (↑l1.length : Int))) (onAgg (getI l1 n0) fun c1 => gd (decide (4 ≤ c1.length)) (onCells [CT.int, CT.int,
  CT.slice (some 3)] (List.take 3 (List.drop 1 c1)) fun n2 n3 l4 => obind (pcall O 6 [V.agg [V.int n2, V.int n3, V.vec .plain (some 3) l4], V.int 1000, V.int 80]) fun r5
  => onBool r5 fun b6 => bc (!b6) (some (Ex.ret, [V.bool false], [])) (O.2 14 4 [V.int (IntKind.i64.wrap (n0 + 1)), V.vec .plain (some 4) l1] [])))) (some (Ex.exit 0, [],
  [])) := by kernel_rfl

theorem e_term_Same (O : Oracle) (n0 : Int) (n1 : Int) (l2 : (List V)) (n3 : Int) (n4 : Int) (l5 : (List V)) : callBody Try.prog cfg O 65 [.agg [.int n0, .int n1, .vec .plain (some 3) l2], .agg [.int n3, .int n4, .vec .plain (some 3) l5]] [] =
  bc (n0 != n3) (some (Out.ret (V.bool false), [])) (bc (n1 != n4) (some (Out.ret (V.bool false), [])) (bc ((↑l2.length : Int) != (↑l5.length : Int)) (some (Out.ret (V.bool false),
  [])) (obind (O.loop 65 4 [V.int 0, V.loc false (some 3) (V.agg [V.int n3, V.int n4, V.vec .plain (some 3) l5]), V.vec .plain (some 3) l2, V.int (↑l2.length : Int)] [])
  fun r1 => onEx r1.fst none (onCons r1.snd.fst fun v2 c3 => onBool v2 fun b4 => onNil c3 (some (Out.ret (V.bool b4), []))) (fun i5 => bc (i5.beq 0) (onNil r1.snd.fst (some (Out.ret
  (V.bool true), []))) none) fun v6 => none))) := by kernel_rfl

theorem e_term_Same_L4 (O : Oracle) (n0 : Int) (n1 : Int) (n2 : Int) (l3 : (List V)) (l4 : (List V)) (n5 : Int) : loopBody Try.prog cfg O 65 4 [.int n0, .loc false (some 3) (.agg [.int n1, .int n2, .vec .plain (some 3) l3]), .vec .plain (some 3) l4, .int n5] [] =
  bc (decide (n0 < n5)) (gd (decide (0 ≤ n0) && decide (n0 < (↑l4.length : Int))) (onStruct [CT.int, CT.int, CT.slice (some 3)] (getI l4 n0) fun n1_1 n2_1 l3_1 => gd (decide (0 ≤
  n0) && decide (n0 < (↑l3.length : Int))) (onStruct [CT.int, CT.int, CT.slice (some 3)] (getI l3 n0) fun n4 n5_1 l6 => obind (pcall O 65 [V.agg [V.int n1_1, V.int n2_1,
  V.vec .plain (some 3) l3_1], V.agg [V.int n4, V.int n5_1, V.vec .plain (some 3) l6]]) fun r7 => onBool r7 fun b8 => bc (!b8) (some (Ex.ret, [V.bool false], [])) (O.2 65 4
  [V.int (IntKind.i64.wrap (n0 + 1)), V.loc false (some 3) (V.agg [V.int n1, V.int n2, V.vec .plain (some 3) l3]), V.vec .plain (some 3) l4, V.int n5] [])))) (some (Ex.exit 0, [],
  [])) := by kernel_rfl

theorem e_term_Size (O : Oracle) (n0 : Int) (n1 : Int) (l2 : (List V)) : callBody Try.prog cfg O 53 [.agg [.int n0, .int n1, .vec .plain (some 3) l2]] [] =
  obind (O.call 71 [V.agg [V.int n0, V.int n1, V.vec .plain (some 3) l2]] [Res.box [V.int 0]]) fun r1 => onRet r1.fst (fun v2 => onFn v2 fun g3 a4 b5 => obind (O.call g3
  (a4 ++ [V.yld (List.length r1.snd)] ++ b5) (r1.snd ++ [Res.loop 53 3 [V.ref 0 0] LSt.ready none])) fun r6 => onRet r6.fst (fun v7 => getR r6.snd (List.length r1.snd) fun
  x8 => onLoop x8 fun f9 k10 vs11 s12 p13 => onPend s12 p13 (getR (List.set r6.snd (List.length r1.snd) Res.dead) 0 fun x14 => onBox x14 fun c15 => gd (decide (1 ≤ c15.length) &&
  true) (onInt (cleanV (AM.partOf c15 0 none)) fun n16 => some (Out.ret (V.int n16), []))) none fun i17 => none) fun p18 => none) fun p19 => none := by kernel_rfl

theorem e_term_Size_R3 (O : Oracle) (n i : Int) (c : List V) : roundBody Try.prog cfg O 1 53 3 [.ref 0 0] [.int i, .agg c] [.box [.int n], .loop 53 3 [.ref 0 0] .ready none] =
  some (true, [Res.box [V.int (IntKind.i64.wrap (n + 1))], Res.loop 53 3 [V.ref 0 0] LSt.ready none]) := by kernel_rfl

theorem e_term_Depth (O : Oracle) (n0 : Int) (n1 : Int) (l2 : (List V)) : callBody Try.prog cfg O 52 [.agg [.int n0, .int n1, .vec .plain (some 3) l2]] [] =
  obind (O.loop 52 3 [V.int 0, V.int 0, V.vec .plain (some 3) l2, V.int (↑l2.length : Int)] []) fun r1 => onEx r1.fst none none (fun i2 => bc (i2.beq 0) (onCons r1.snd.fst
  fun v3 c4 => onInt v3 fun n5 => onNil c4 (some (Out.ret (V.int (IntKind.i64.wrap (n5 + 1))), []))) none) fun v6 => none := by kernel_rfl

theorem e_term_Depth_L3 (O : Oracle) (n0 : Int) (n1 : Int) (l2 : (List V)) (n3 : Int) : loopBody Try.prog cfg O 52 3 [.int n0, .int n1, .vec .plain (some 3) l2, .int n3] [] =
  bc (decide (n0 < n3)) (gd (decide (0 ≤ n0) && decide (n0 < (↑l2.length : Int))) (onStruct [CT.int, CT.int, CT.slice (some 3)] (getI l2 n0) fun n1_1 n2 l3 => obind (pcall O
  52 [V.agg [V.int n1_1, V.int n2, V.vec .plain (some 3) l3]]) fun r4 => onInt r4 fun n5 => O.2 52 3 [V.int (IntKind.i64.wrap (n0 + 1)), V.int (if n5 > n1 then
  n5 else n1), V.vec .plain (some 3) l2, V.int n3] [])) (some (Ex.exit 0, [V.int n1], [])) := by kernel_rfl

theorem e_term_all (O : Oracle) (k h : Int) (xs : List V) (g : Nat) (a b : List V) : callBody Try.prog cfg O 54 [.agg [.int k, .int h, .vec .plain (some 3) xs], .fn g a b] [] =
  obind (O.call 71 [V.agg [V.int k, V.int h, V.vec .plain (some 3) xs]] [Res.box [V.bool false]]) fun r1 => onRet r1.fst (fun v2 => onFn v2 fun g3 a4 b5 => obind (O.call
  g3 (a4 ++ [V.yld (List.length r1.snd)] ++ b5) (r1.snd ++ [Res.loop 54 4 [V.ref 0 0, V.cptr none (V.fn g a b)] LSt.ready none])) fun r6 => onRet r6.fst (fun v7 => getR
  r6.snd (List.length r1.snd) fun x8 => onLoop x8 fun f9 k10 vs11 s12 p13 => onPend s12 p13 (getR (List.set r6.snd (List.length r1.snd) Res.dead) 0 fun x14 => onBox x14 fun c15 =>
  gd (decide (1 ≤ c15.length) && true) (getR ((List.set r6.snd (List.length r1.snd) Res.dead).set 0 (Res.box (setCells c15 0 [V.bool true]))) 0 fun x16 => onBox x16 fun c17 => gd
  (decide (1 ≤ c17.length) && true) (gcE 0 (cleanV (AM.partOf c17 0 none)) ((List.set r6.snd (List.length r1.snd) Res.dead).set 0 (Res.box (setCells c15 0 [V.bool true])))))) (getR
  (List.set r6.snd (List.length r1.snd) Res.dead) 0 fun x18 => onBox x18 fun c19 => gd (decide (1 ≤ c19.length) && true) (gcE 0 (cleanV (AM.partOf c19 0 none)) (List.set r6.snd
  (List.length r1.snd) Res.dead))) fun i20 => none) fun p21 => none) fun p22 => none := by kernel_rfl

theorem e_term_all_R4 (O : Oracle) (i k h : Int) (xs : List V) (b0 : Bool) (g : Nat) (a b : List V) : roundBody Try.prog cfg O 1 54 4 [.ref 0 0, .cptr none (.fn g a b)] [.int i, .agg [.int k, .int h, .vec .plain (some 3) xs]] [.box [.bool b0], .loop 54 4 [.ref 0 0, .cptr none (.fn g a b)] .ready none] =
  bc (cfg.pure g) (obind (pcall O g (a ++ [V.int i, V.agg [V.int k, V.int h, V.vec .plain (some 3) xs]] ++ b)) fun r1 => onBool r1 fun b2 => bc (!b2) (some (false, [Res.box [V.bool
  false], Res.loop 54 4 [V.ref 0 0, V.cptr none (V.fn g a b)] LSt.done (some Ex.ret)])) (some (true, [Res.box [V.bool b0], Res.loop 54 4 [V.ref 0 0, V.cptr none
  (V.fn g a b)] LSt.ready none]))) (obind (O.call g (a ++ [V.int i, V.agg [V.int k, V.int h, V.vec .plain (some 3) xs]] ++ b) [Res.box [V.bool b0], Res.loop 54 4 [V.ref 0 0,
  V.cptr none (V.fn g a b)] LSt.busy none]) fun r3 => onRet r3.fst (fun v4 => onBool v4 fun b5 => bc (!b5) (getR r3.snd 0 fun x6 => onBox x6 fun c7 => gd (decide (1 ≤ c7.length) &&
  true) (getR (List.set r3.snd 0 (Res.box (setCells c7 0 [V.bool false]))) 1 fun x8 => onLoop x8 fun f9 k10 vs11 s12 p13 => onBusy s12 (some (false, (List.set r3.snd 0 (Res.box
  (setCells c7 0 [V.bool false]))).set 1 (Res.loop f9 k10 vs11 LSt.done (some Ex.ret)))))) (getR r3.snd 1 fun x14 => onLoop x14 fun f15 k16 vs17 s18 p19 => onBusy s18 (some (true,
  List.set r3.snd 1 (Res.loop f15 k16 vs17 LSt.ready none))))) fun p20 => none) := by kernel_rfl

theorem e_term_May_1 (O : Oracle) (n0 : Int) (n1 : Int) (n2 : Int) (l3 : (List V)) : callBody Try.prog cfg O 55 [.int n0, .agg [.int n1, .int n2, .vec .plain (some 3) l3]] [] =
  obind (pcall O 56 [V.agg [V.int n1, V.int n2, V.vec .plain (some 3) l3]]) fun r1 => onBool r1 fun b2 => some (Out.ret (V.bool b2), []) := by kernel_rfl

theorem e_term_may (O : Oracle) (n0 : Int) (n1 : Int) (l2 : (List V)) : callBody Try.prog cfg O 56 [.agg [.int n0, .int n1, .vec .plain (some 3) l2]] [] =
  bc (n0 == 0) (bc (n1 == 0) (some (Out.ret (V.bool ((↑l2.length : Int) == 0)), [])) (some (Out.ret (V.bool false), []))) (bc (n0 == 1) (bc (n1 == 0) (some (Out.ret (V.bool
  ((↑l2.length : Int) == 2)), [])) (some (Out.ret (V.bool false), []))) (bc (n0 == 3) (bc (n1 == 0) (some (Out.ret (V.bool ((↑l2.length : Int) == 1)), [])) (some (Out.ret (V.bool
  false), []))) (bc (decide (n0 ≥ 0)) (bc (decide (n0 < 7)) (some (Out.ret (V.bool (decide (n1 ≥ 0))), [])) (some (Out.ret (V.bool false), []))) (some (Out.ret (V.bool false),
  []))))) := by kernel_rfl

theorem e_ref01_Light (O : Oracle) (n0 : Int) (n1 : Int) (l2 : (List V)) (n3 : Int) (n4 : Int) : callBody Try.prog cfg O 6 [.agg [.int n0, .int n1, .vec .plain (some 3) l2], .int n3, .int n4] [] =
  obind (pcall O 16 [V.agg [V.int n0, V.int n1, V.vec .plain (some 3) l2]]) fun r1 => onBool r1 fun b2 => bc b2 (obind (pcall O 17 [V.agg [V.int n0, V.int n1,
  V.vec .plain (some 3) l2]]) fun r3 => onInt r3 fun n4_1 => bc (decide (n4_1 ≤ n3)) (obind (pcall O 18 [V.agg [V.int n0, V.int n1, V.vec .plain (some 3) l2]]) fun r5 =>
  onInt r5 fun n6 => some (Out.ret (V.bool (decide (n6 ≤ n4))), [])) (some (Out.ret (V.bool false), []))) (some (Out.ret (V.bool false), [])) := by kernel_rfl

theorem e_term_nodes (O : Oracle) (k h : Int) (xs : List V) (x : Res) : callBody Try.prog cfg O 71 [.agg [.int k, .int h, .vec .plain (some 3) xs]] [x] =
  some (Out.ret (V.fn 79 [] [V.cptr (some 3) (V.agg [V.int k, V.int h, V.vec .plain (some 3) xs])]), [x]) := by kernel_rfl

theorem e_ref01_low (O : Oracle) (n0 : Int) (n1 : Int) (l2 : (List V)) : callBody Try.prog cfg O 16 [.agg [.int n0, .int n1, .vec .plain (some 3) l2]] [] =
  bc (decide (n1 > 1099511627776)) (some (Out.ret (V.bool false), [])) (obind (O.loop 16 4 [V.int 0, V.loc false (some 3) (V.agg [V.int n0, V.int n1, V.vec .plain (some 3)
  l2])] []) fun r1 => onEx r1.fst none (onCons r1.snd.fst fun v2 c3 => onBool v2 fun b4 => onNil c3 (some (Out.ret (V.bool b4), []))) (fun i5 => bc (i5.beq 0) (onNil r1.snd.fst
  (some (Out.ret (V.bool true), []))) none) fun v6 => none) := by kernel_rfl

theorem e_ref01_low_L4 (O : Oracle) (n0 : Int) (n1 : Int) (n2 : Int) (l3 : (List V)) : loopBody Try.prog cfg O 16 4 [.int n0, .loc false (some 3) (.agg [.int n1, .int n2, .vec .plain (some 3) l3])] [] =
  bc (decide (n0 < (↑l3.length : Int))) (gd (decide (0 ≤ n0) && decide (n0 < (↑l3.length : Int))) (onStruct [CT.int, CT.int, CT.slice (some 3)] (getI l3 n0) fun n1_1 n2_1 l3_1 =>
  obind (pcall O 16 [V.agg [V.int n1_1, V.int n2_1, V.vec .plain (some 3) l3_1]]) fun r4 => onBool r4 fun b5 => bc (!b5) (some (Ex.ret, [V.bool false], [])) (O.2
  16 4 [V.int (IntKind.i64.wrap (n0 + 1)), V.loc false (some 3) (V.agg [V.int n1, V.int n2, V.vec .plain (some 3) l3])] []))) (some (Ex.exit 0, [], [])) := by kernel_rfl

theorem e_ref01_Size (O : Oracle) (n0 : Int) (n1 : Int) (l2 : (List V)) : callBody Try.prog cfg O 17 [.agg [.int n0, .int n1, .vec .plain (some 3) l2]] [] =
  obind (O.loop 17 3 [V.int 0, V.loc false (some 3) (V.agg [V.int n0, V.int n1, V.vec .plain (some 3) l2]), V.int 1] []) fun r1 => onEx r1.fst none none (fun i2 => bc
  (i2.beq 0) (onCons r1.snd.fst fun v3 c4 => onInt v3 fun n5 => onNil c4 (some (Out.ret (V.int n5), []))) none) fun v6 => none := by kernel_rfl

theorem e_ref01_Size_L3 (O : Oracle) (n0 : Int) (n1 : Int) (n2 : Int) (l3 : (List V)) (n4 : Int) : loopBody Try.prog cfg O 17 3 [.int n0, .loc false (some 3) (.agg [.int n1, .int n2, .vec .plain (some 3) l3]), .int n4] [] =
  bc (decide (n0 < (↑l3.length : Int))) (gd (decide (0 ≤ n0) && decide (n0 < (↑l3.length : Int))) (onStruct [CT.int, CT.int, CT.slice (some 3)] (getI l3 n0) fun n1_1 n2_1 l3_1 =>
  obind (pcall O 17 [V.agg [V.int n1_1, V.int n2_1, V.vec .plain (some 3) l3_1]]) fun r4 => onInt r4 fun n5 => O.2 17 3 [V.int (IntKind.i64.wrap (n0 + 1)), V.loc
  false (some 3) (V.agg [V.int n1, V.int n2, V.vec .plain (some 3) l3]), V.int (IntKind.i64.wrap (n4 + n5))] [])) (some (Ex.exit 0, [V.int n4], [])) := by kernel_rfl

theorem e_ref01_Depth (O : Oracle) (n0 : Int) (n1 : Int) (l2 : (List V)) : callBody Try.prog cfg O 18 [.agg [.int n0, .int n1, .vec .plain (some 3) l2]] [] =
  obind (O.loop 18 3 [V.int 0, V.int 0, V.loc false (some 3) (V.agg [V.int n0, V.int n1, V.vec .plain (some 3) l2])] []) fun r1 => onEx r1.fst none none (fun i2 => bc
  (i2.beq 0) (onCons r1.snd.fst fun v3 c4 => onInt v3 fun n5 => onNil c4 (some (Out.ret (V.int (IntKind.i64.wrap (n5 + 1))), []))) none) fun v6 => none := by kernel_rfl

theorem e_ref01_Depth_L3 (O : Oracle) (n0 : Int) (n1 : Int) (n2 : Int) (n3 : Int) (l4 : (List V)) : loopBody Try.prog cfg O 18 3 [.int n0, .int n1, .loc false (some 3) (.agg [.int n2, .int n3, .vec .plain (some 3) l4])] [] =
  bc (decide (n0 < (↑l4.length : Int))) (gd (decide (0 ≤ n0) && decide (n0 < (↑l4.length : Int))) (onStruct [CT.int, CT.int, CT.slice (some 3)] (getI l4 n0) fun n1_1 n2_1 l3 =>
  obind (pcall O 18 [V.agg [V.int n1_1, V.int n2_1, V.vec .plain (some 3) l3]]) fun r4 => onInt r4 fun n5 => bc (decide (n5 > n1)) (O.2 18 3 [V.int
  (IntKind.i64.wrap (n0 + 1)), V.int n5, V.loc false (some 3) (V.agg [V.int n2, V.int n3, V.vec .plain (some 3) l4])] []) (O.2 18 3 [V.int (IntKind.i64.wrap (n0 + 1)),
  V.int n1, V.loc false (some 3) (V.agg [V.int n2, V.int n3, V.vec .plain (some 3) l4])] []))) (some (Ex.exit 0, [V.int n1], [])) := by kernel_rfl

theorem e_term_nodes_1 (O : Oracle) (k h : Int) (xs : List V) (x y : Res) : callBody Try.prog cfg O 79 [.yld 1, .cptr (some 3) (.agg [.int k, .int h, .vec .plain (some 3) xs])] [x, y] =
  obind (O.call 80 [V.agg [V.int k, V.int h, V.vec .plain (some 3) xs], V.int 0, V.yld 1] [x, y]) fun r1 => onRet r1.fst (fun v2 => onBool v2 fun b3 => gcE [x, y].length
  (V.tup []) r1.snd) fun p4 => none := by kernel_rfl

theorem e_term_walk (O : Oracle) (k h i : Int) (xs : List V) (x y : Res) : callBody Try.prog cfg O 80 [.agg [.int k, .int h, .vec .plain (some 3) xs], .int i, .yld 1] [x, y] =
  onLoop y fun f1 k2 vs3 s4 p5 => onPend s4 p5 (obind (O.round 1 f1 k2 vs3 [V.int i, V.agg [V.int k, V.int h, V.vec .plain (some 3) xs]] [x, y]) fun r6 => bc (!r6.fst) (gcE [x,
  y].length (V.bool false) r6.snd) (obind (O.loop 80 4 [V.int 0, V.yld 1, V.loc false (some 3) (V.agg [V.int k, V.int h, V.vec .plain (some 3) xs]), V.int i, V.vec .plain
  (some 3) xs, V.int (↑xs.length : Int)] r6.snd) fun r7 => onEx r7.fst none (onCons r7.snd.fst fun v8 c9 => onBool v8 fun b10 => onNil c9 (gcE [x, y].length (V.bool b10)
  r7.snd.snd)) (fun i11 => bc (i11.beq 0) (onNil r7.snd.fst (gcE [x, y].length (V.bool true) r7.snd.snd)) none) fun v12 => none)) none fun i13 => none := by kernel_rfl

theorem e_term_walk_L4 (O : Oracle) (i n j k h : Int) (xs ys : List V) (x y : Res) : loopBody Try.prog cfg O 80 4 [.int i, .yld 1, .loc false (some 3) (.agg [.int k, .int h, .vec .plain (some 3) xs]), .int j, .vec .plain (some 3) ys, .int n] [x, y] =
  bc (decide (i < n)) (gd (decide (0 ≤ i) && decide (i < (↑ys.length : Int))) (onStruct [CT.int, CT.int, CT.slice (some 3)] (getI ys i) fun n1 n2 l3 => obind (pcall O 90
  [V.agg [V.int k, V.int h, V.vec .plain (some 3) xs]]) fun r4 => onBool r4 fun b5 => bc b5 (bc (i == IntKind.i64.wrap ((↑xs.length : Int) - 1)) (obind (O.call 80 [V.agg
  [V.int n1, V.int n2, V.vec .plain (some 3) l3], V.int (IntKind.i64.wrap (j + 1)), V.yld 1] [x, y]) fun r6 => onRet r6.fst (fun v7 => onBool v7 fun b8 => bc (!b8) (some (Ex.ret,
  [V.bool false], r6.snd)) (O.2 80 4 [V.int (IntKind.i64.wrap (i + 1)), V.yld 1, V.loc false (some 3) (V.agg [V.int k, V.int h, V.vec .plain (some 3) xs]), V.int j, V.vec
  .plain (some 3) ys, V.int n] r6.snd)) fun p9 => none) (obind (O.call 80 [V.agg [V.int n1, V.int n2, V.vec .plain (some 3) l3], V.int j, V.yld 1] [x, y]) fun r10 => onRet
  r10.fst (fun v11 => onBool v11 fun b12 => bc (!b12) (some (Ex.ret, [V.bool false], r10.snd)) (O.2 80 4 [V.int (IntKind.i64.wrap (i + 1)), V.yld 1, V.loc false (some 3)
  (V.agg [V.int k, V.int h, V.vec .plain (some 3) xs]), V.int j, V.vec .plain (some 3) ys, V.int n] r10.snd)) fun p13 => none)) (obind (O.call 80 [V.agg [V.int n1, V.int
  n2, V.vec .plain (some 3) l3], V.int j, V.yld 1] [x, y]) fun r14 => onRet r14.fst (fun v15 => onBool v15 fun b16 => bc (!b16) (some (Ex.ret, [V.bool false], r14.snd)) (O.2
  80 4 [V.int (IntKind.i64.wrap (i + 1)), V.yld 1, V.loc false (some 3) (V.agg [V.int k, V.int h, V.vec .plain (some 3) xs]), V.int j, V.vec .plain (some 3) ys, V.int n]
  r14.snd)) fun p17 => none))) (some (Ex.exit 0, [], [x, y])) := by kernel_rfl

theorem e_term_binds (O : Oracle) (n0 : Int) (n1 : Int) (l2 : (List V)) : callBody Try.prog cfg O 90 [.agg [.int n0, .int n1, .vec .plain (some 3) l2]] [] =
  bc (n0 == 1) (some (Out.ret (V.bool true), [])) (some (Out.ret (V.bool (n0 == 3)), [])) := by kernel_rfl

theorem e_sign_Kind (O : Oracle) (n0 : Int) (n1 : Int) (l2 : (List V)) : callBody Try.prog cfg O 21 [.agg [.int n0, .int n1, .vec .plain (some 3) l2]] [] =
  obind (pcall O 41 [V.agg [V.int n0, V.int n1, V.vec .plain (some 3) l2]]) fun r1 => onStruct [CT.int, CT.int, CT.slice (some 3)] r1 fun n2 n3 l4 => some (Out.ret (V.bool
  (n2 == 0)), []) := by kernel_rfl

theorem e_sign_last (O : Oracle) (n0 : Int) (n1 : Int) (l2 : (List V)) : callBody Try.prog cfg O 41 [.agg [.int n0, .int n1, .vec .plain (some 3) l2]] [] =
  obind (O.call 57 [V.agg [V.int n0, V.int n1, V.vec .plain (some 3) l2]] [Res.box [V.int n0, V.int n1, V.vec .plain (some 3) l2]]) fun r1 => onRet r1.fst (fun v2 => onFn v2
  fun g3 a4 b5 => obind (O.call g3 (a4 ++ [V.yld (List.length r1.snd)] ++ b5) (r1.snd ++ [Res.loop 41 3 [V.ref 0 0] LSt.ready none])) fun r6 => onRet r6.fst (fun v7 => getR
  r6.snd (List.length r1.snd) fun x8 => onLoop x8 fun f9 k10 vs11 s12 p13 => onPend s12 p13 (getR (List.set r6.snd (List.length r1.snd) Res.dead) 0 fun x14 => onBox x14 fun c15 =>
  gd (decide (3 ≤ c15.length) && true) (onCells [CT.int, CT.int, CT.slice (some 3)] (List.map plain1 (List.take 3 (List.drop 0 c15))) fun n16 n17 l18 => gd (below 0 (V.agg [V.int
  n16, V.int n17, V.vec .plain (some 3) l18]) && belowSt 0 []) (some (Out.ret (V.agg [V.int n16, V.int n17, V.vec .plain (some 3) l18]), [])))) none fun i19 => none) fun p20 =>
  none) fun p21 => none := by kernel_rfl

theorem e_sign_last_R3 (O : Oracle) (k h k2 h2 k3 h3 : Int) (xs ys zs : List V) (x : Res) : roundBody Try.prog cfg O 2 41 3 [.ref 0 0] [.agg [.int k, .int h, .vec .plain (some 3) xs], .agg [.int k2, .int h2, .vec .plain (some 3) ys]] [.box [.int k3, .int h3, .vec .plain (some 3) zs], x, .loop 41 3 [.ref 0 0] .ready none] =
  some (true, [Res.box [V.int k2, V.int h2, V.vec .plain (some 3) ys], x, Res.loop 41 3 [V.ref 0 0] LSt.ready none]) := by kernel_rfl

theorem e_sign_pis (O : Oracle) (k h : Int) (xs : List V) (x : Res) : callBody Try.prog cfg O 57 [.agg [.int k, .int h, .vec .plain (some 3) xs]] [x] =
  gcE [x].length (V.fn 72 [] [V.ref [x].length 0]) [x, Res.box [V.int k, V.int h, V.vec .plain (some 3) xs]] := by kernel_rfl

theorem e_sign_pis_1 (O : Oracle) (k h : Int) (xs : List V) (x z : Res) : callBody Try.prog cfg O 72 [.yld 2, .ref 1 0] [x, .box [.int k, .int h, .vec .plain (some 3) xs], z] =
  obind (O.loop 72 0 [V.ref 1 0, V.yld 2] [x, Res.box [V.int k, V.int h, V.vec .plain (some 3) xs], z]) fun r1 => onEx r1.fst none (onNil r1.snd.fst (gcE [x, Res.box
  [V.int k, V.int h, V.vec .plain (some 3) xs], z].length (V.tup []) r1.snd.snd)) (fun i2 => bc (i2.beq 0) (onNil r1.snd.fst (gcE [x, Res.box [V.int k, V.int h, V.vec .plain (some
  3) xs], z].length (V.tup []) r1.snd.snd)) none) fun v3 => none := by kernel_rfl

theorem e_sign_pis_1_L0 (O : Oracle) (k h : Int) (xs : List V) (x z : Res) : loopBody Try.prog cfg O 72 0 [.ref 1 0, .yld 2] [x, .box [.int k, .int h, .vec .plain (some 3) xs], z] =
  bc (k == 1) (bc ((↑xs.length : Int) == 2) (gd (true && decide (0 < (↑xs.length : Int))) (onStruct [CT.int, CT.int, CT.slice (some 3)] (getI xs 0) fun n1 n2 l3 => gd (true &&
  decide (1 < (↑xs.length : Int))) (onStruct [CT.int, CT.int, CT.slice (some 3)] (getI xs 1) fun n4 n5 l6 => onLoop z fun f7 k8 vs9 s10 p11 => onPend s10 p11 (obind (O.round 2 f7 k8
  vs9 [V.agg [V.int n1, V.int n2, V.vec .plain (some 3) l3], V.agg [V.int n4, V.int n5, V.vec .plain (some 3) l6]] [x, Res.box [V.int k, V.int h, V.vec .plain (some 3) xs], z]) fun
  r12 => bc (!r12.fst) (some (Ex.ret, [], r12.snd)) (getR r12.snd 1 fun x13 => onBox x13 fun c14 => gd (decide (3 ≤ c14.length) && true) (onVec (some 3) (cleanV (AM.partOf c14 2
  none)) fun l15 => gd (true && decide (1 < (↑l15.length : Int))) (onStruct [CT.int, CT.int, CT.slice (some 3)] (getI l15 1) fun n16 n17 l18 => getR r12.snd 1 fun x19 => onBox x19
  fun c20 => gd (decide (3 ≤ c20.length) && true) (O.2 72 0 [V.ref 1 0, V.yld 2] (List.set r12.snd 1 (Res.box (setCells c20 0 [V.int n16, V.int n17, V.vec .plain (some 3)
  l18])))))))) none fun i21 => none))) (some (Ex.exit 0, [], [x, Res.box [V.int k, V.int h, V.vec .plain (some 3) xs], z]))) (some (Ex.exit 0, [], [x, Res.box [V.int k, V.int h,
  V.vec .plain (some 3) xs], z])) := by kernel_rfl

theorem e_sign_pis__b (O : Oracle) (k h : Int) (xs : List V) (x y : Res) : callBody Try.prog cfg O 57 [.agg [.int k, .int h, .vec .plain (some 3) xs]] [x, y] =
  gcE [x, y].length (V.fn 72 [] [V.ref [x, y].length 0]) [x, y, Res.box [V.int k, V.int h, V.vec .plain (some 3) xs]] := by kernel_rfl

theorem e_sign_pis_1__b (O : Oracle) (k h : Int) (xs : List V) (x y z : Res) : callBody Try.prog cfg O 72 [.yld 3, .ref 2 0] [x, y, .box [.int k, .int h, .vec .plain (some 3) xs], z] =
  obind (O.loop 72 0 [V.ref 2 0, V.yld 3] [x, y, Res.box [V.int k, V.int h, V.vec .plain (some 3) xs], z]) fun r1 => onEx r1.fst none (onNil r1.snd.fst (gcE [x, y, Res.box
  [V.int k, V.int h, V.vec .plain (some 3) xs], z].length (V.tup []) r1.snd.snd)) (fun i2 => bc (i2.beq 0) (onNil r1.snd.fst (gcE [x, y, Res.box [V.int k, V.int h, V.vec .plain
  (some 3) xs], z].length (V.tup []) r1.snd.snd)) none) fun v3 => none := by kernel_rfl

theorem e_sign_pis_1_L0__b (O : Oracle) (k h : Int) (xs : List V) (x y z : Res) : loopBody Try.prog cfg O 72 0 [.ref 2 0, .yld 3] [x, y, .box [.int k, .int h, .vec .plain (some 3) xs], z] =
  bc (k == 1) (bc ((↑xs.length : Int) == 2) (gd (true && decide (0 < (↑xs.length : Int))) (onStruct [CT.int, CT.int, CT.slice (some 3)] (getI xs 0) fun n1 n2 l3 => gd (true &&
  decide (1 < (↑xs.length : Int))) (onStruct [CT.int, CT.int, CT.slice (some 3)] (getI xs 1) fun n4 n5 l6 => onLoop z fun f7 k8 vs9 s10 p11 => onPend s10 p11 (obind (O.round 3 f7 k8
  vs9 [V.agg [V.int n1, V.int n2, V.vec .plain (some 3) l3], V.agg [V.int n4, V.int n5, V.vec .plain (some 3) l6]] [x, y, Res.box [V.int k, V.int h, V.vec .plain (some 3) xs], z])
  fun r12 => bc (!r12.fst) (some (Ex.ret, [], r12.snd)) (getR r12.snd 2 fun x13 => onBox x13 fun c14 => gd (decide (3 ≤ c14.length) && true) (onVec (some 3) (cleanV (AM.partOf c14 2
  none)) fun l15 => gd (true && decide (1 < (↑l15.length : Int))) (onStruct [CT.int, CT.int, CT.slice (some 3)] (getI l15 1) fun n16 n17 l18 => getR r12.snd 2 fun x19 => onBox x19
  fun c20 => gd (decide (3 ≤ c20.length) && true) (O.2 72 0 [V.ref 2 0, V.yld 3] (List.set r12.snd 2 (Res.box (setCells c20 0 [V.int n16, V.int n17, V.vec .plain (some 3)
  l18])))))))) none fun i21 => none))) (some (Ex.exit 0, [], [x, y, Res.box [V.int k, V.int h, V.vec .plain (some 3) xs], z]))) (some (Ex.exit 0, [], [x, y, Res.box [V.int k, V.int
  h, V.vec .plain (some 3) xs], z])) := by kernel_rfl

end Go.Proofs.GT

/-! Terms, as_ plain Lean: what may be, what is light, walks, what a type asks for. -/
namespace Go.Ama
open Go Go.AM

def low : T → Bool
  | .mk _ h xs => decide (h ≤ 1099511627776) && lows xs
where lows : List T → Bool
  | [] => true
  | t :: ts => low t && lows ts
theorem lows_all : ∀ ts, low.lows ts = ts.all low
  | [] => rfl
  | t :: ts => by simp [low.lows, lows_all ts]

/-- Is a term light? -/
def light (n m : Int) (t : T) : Bool := low t && (decide ((t.size : Int) ≤ n) && decide ((t.depth : Int) ≤ m))
def lights (n m : Int) (l : List T) : Bool := decide (l.length ≤ 60) && l.all (light n m)
/-! ### may -/
/-- May a node be? -/
def may1 (k h : Int) (n : Nat) : Bool :=
  if k = 0 then decide (h = 0) && decide (n = 0) else if k = 1 then decide (h = 0) && decide (n = 2) else if k = 3 then decide (h = 0) && decide (n = 1) else decide (0 ≤ k) && (decide (k < 7) && decide (0 ≤ h))
mutual
def nodesB : T → Bool
  | .mk k h l => may1 k h l.length && nodess l
def nodess : List T → Bool
  | [] => true
  | t :: l => nodesB t && nodess l
end
theorem nodess_all : ∀ l, nodess l = l.all nodesB
  | [] => rfl
  | t :: l => by simp [nodess, nodess_all l]
def may (t : T) : Bool := nodesB t && (decide (t.size ≤ 4000) && decide (t.depth ≤ 60))

mutual
/-- All nodes, with how many bind around. -/
def allW (g : Int → T → Bool) (i : Int) : T → Bool
  | .mk k h l => g i (.mk k h l) && allWs g i (decide (k = 1) || decide (k = 3)) l
def allWs (g : Int → T → Bool) (i : Int) (b : Bool) : List T → Bool
  | [] => true
  | [t] => allW g (bif b then i + 1 else i) t
  | t :: u :: l => allW g i t && allWs g i b (u :: l)
end

def iter {σ : Type} (f : σ → σ) : Nat → σ → σ
  | 0, s => s
  | n + 1, s => iter f n (f s)
theorem iter_add {σ : Type} (f : σ → σ) (a b : Nat) (s : σ) : iter f (a + b) s = iter f b (iter f a s) := by
  induction a generalizing s with
  | zero => simp [iter]
  | succ a ih => rw [Nat.succ_add]; exact ih (f s)

/-- All variables are of so many, and all metas. -/
def scopedN (vars metas : Int) (i : Int) (t : T) : Bool := (decide (t.k ≠ 4) || decide (IntKind.i64.wrap (t.h - i) < vars)) && (decide (t.k ≠ 6) || decide (t.h < metas))
def mayT (t : T) : Bool := may1 t.k t.h t.args.length
theorem allW_may : ∀ (t : T) (i : Int), allW (fun _ t => mayT t) i t = nodesB t := by
  intro t
  induction t using T.ind with
  | _ k h xs ih =>
    intro i
    simp only [allW, nodesB]
    generalize (decide (k = 1) || decide (k = 3)) = b
    have : ∀ l : List T, (∀ a ∈ l, ∀ i, allW (fun _ t => mayT t) i a = nodesB a) → allWs (fun _ t => mayT t) i b l = nodess l := by
      intro l
      induction l with
      | nil => intro _; rfl
      | cons a l ihl =>
        intro h
        cases l with
        | nil => simp only [allWs, nodess, Bool.and_true]; exact h a (by simp) _
        | cons u l => simp only [allWs, h a (by simp)]; rw [ihl fun a ha => h a (by simp [ha])]; simp only [nodess]
    rw [this xs ih]
    rfl

/-! ### what a type asks for -/
def splitN : Nat → T → List T × T
  | 0, t => ([], t)
  | n + 1, t => if t.k = 1 then match t.args with | [a, b] => let r := splitN n b; (a :: r.1, r.2) | _ => ([], t) else ([], t)
def split (t : T) : List T × T := splitN t.size t

theorem args_size {t b : T} (h : b ∈ t.args) : b.size < t.size := by
  cases t with
  | mk k h' l => simp only [T.args] at h; simp only [T.size]; have := size_le h; omega

theorem splitN_more : ∀ (n m : Nat) (t : T), t.size ≤ n → t.size ≤ m → splitN n t = splitN m t := by
  intro n
  induction n with
  | zero => intro m t h; have := size_pos t; omega
  | succ n ih =>
    intro m t h h'
    cases m with
    | zero => have := size_pos t; omega
    | succ m =>
      simp only [splitN]
      split
      · split
        · rename_i a b hab
          have := args_size (t := t) (b := b) (by rw [hab]; simp)
          rw [ih m b (by omega) (by omega)]
        · rfl
      · rfl

theorem split_pi {t a b : T} (h : t.k = 1) (ha : t.args = [a, b]) : split t = (a :: (split b).1, (split b).2) := by
  unfold split
  have hb := args_size (t := t) (b := b) (by rw [ha]; simp)
  obtain ⟨n, hn⟩ : ∃ n, t.size = n + 1 := ⟨t.size - 1, by omega⟩
  rw [hn]
  simp only [splitN, h, ha, if_true]
  rw [splitN_more n b.size b (by omega) (Nat.le_refl _)]
theorem split_end {t : T} (h : ¬ (t.k = 1 ∧ t.args.length = 2)) : split t = ([], t) := by
  unfold split
  have := size_pos t
  obtain ⟨n, hn⟩ : ∃ n, t.size = n + 1 := ⟨t.size - 1, by omega⟩
  rw [hn]
  simp only [splitN]
  split
  · rename_i h1
    split
    · rename_i a b hab; exact absurd ⟨h1, by rw [hab]; rfl⟩ h
    · rfl
  · rfl
theorem len2 {l : List T} (h : l.length = 2) : ∃ a b, l = [a, b] := by
  match l, h with
  | [a, b], _ => exact ⟨a, b, rfl⟩

theorem split_size : ∀ (n : Nat) (t : T), t.size ≤ n → sizes (split t).1 + (split t).2.size ≤ t.size := by
  intro n
  induction n with
  | zero => intro t h; have := size_pos t; omega
  | succ n ih =>
    intro t h
    by_cases c : t.k = 1 ∧ t.args.length = 2
    · obtain ⟨a, b, hab⟩ := len2 c.2
      have hb := args_size (t := t) (b := b) (by rw [hab]; simp)
      rw [split_pi c.1 hab]
      have := ih b (by omega)
      have hsz : t.size = 1 + (a.size + (b.size + 0)) := by
        cases t with
        | mk k h' l => simp only [T.args] at hab; subst hab; simp only [T.size, sizes]
      simp only [sizes]
      omega
    · rw [split_end c]; simp [sizes]

theorem encs_take_succ {xs : List T} {i : Nat} (hi : i < xs.length) : encs (xs.take (i + 1)) = encs (xs.take i) ++ [enc xs[i]] := by rw [take_succ' hi, encs_append]; rfl
end Go.Ama

/-! What the functions come to: terms. -/
namespace Go.Proofs.GT
open Go Go.AM Go.Ama

theorem onStruct_enc {R : Type} (t : T) (K : Int → Int → List V → Option R) : onStruct (R := R) [CT.int, CT.int, CT.slice (some 3)] (enc t) K = K t.k t.h (encs t.args) := by cases t; rfl

theorem low_spec : ∀ t : T, t.size ≤ 1099511627776 → Ev 16 [enc t] (.bool (low t)) := by
  intro t
  induction t using T.ind with
  | _ k h xs ih =>
    intro hs
    simp only [T.size] at hs
    have hlen := length_le_sizes xs
    unfold Ev
    rw [C, enc, e_ref01_low]
    by_cases hh : h > 1099511627776
    · have : ¬ h ≤ 1099511627776 := by omega
      simp [bc, low, hh, this]
    · have hle : h ≤ 1099511627776 := by omega
      have hl := all_loop (L := fun i => W.loop 16 4 [V.int i, V.loc false (some 3) (V.agg [V.int k, V.int h, V.vec .plain (some 3) (encs xs)])] []) (xs := xs) (g := low) (e0 := (Ex.exit 0, [], [])) (e1 := (Ex.ret, [V.bool false], []))
        (fun i hi => by
          have hp := (ih xs[i] (List.getElem_mem hi) (by have := size_le (List.getElem_mem hi); omega)).p
          show W.loop _ _ _ _ = _
          rw [L, e_ref01_low_L4]
          simp only [encs_length, getI_encs hi, onStruct_enc, ← enc_eta, hp]
          rw [wrap_id ⟨by omega, by omega⟩]
          cases low xs[i] <;> simp [bc, gd, obind, onBool, hi])
        (by show W.loop _ _ _ _ = _; rw [L, e_ref01_low_L4]; simp [bc]) 0 (by omega)
      simp only [List.drop_zero, Int.ofNat_zero, Int.natCast_zero] at hl
      simp only [hl, hh, low, lows_all, hle]
      cases xs.all low <;> rfl
theorem size_spec : ∀ t : T, t.size ≤ 1099511627776 → Ev 17 [enc t] (.int t.size) := by
  intro t
  induction t using T.ind with
  | _ k h xs ih =>
    intro hs
    simp only [T.size] at hs
    have hlen := length_le_sizes xs
    unfold Ev
    rw [C, enc, e_ref01_Size]
    have hl := count_loop (n := xs.length) (L := fun i => W.loop 17 3 [V.int (i : Nat), V.loc false (some 3) (V.agg [V.int k, V.int h, V.vec .plain (some 3) (encs xs)]), V.int ((1 + sizes (xs.take i) : Nat) : Int)] []) (r := some (Ex.exit 0, [V.int ((1 + sizes xs : Nat) : Int)], []))
      (fun i hi => by
        have hp := (ih xs[i] (List.getElem_mem hi) (by have := size_le (List.getElem_mem hi); omega)).p
        have h1 := sizes_take hi
        have h2 := sizes_take_le xs (i + 1)
        show W.loop _ _ _ _ = _
        rw [L, e_ref01_Size_L3]
        simp only [encs_length, getI_encs hi, onStruct_enc, ← enc_eta, hp, obind, onInt]
        rw [wrap_id ⟨by omega, by omega⟩, wrap_id ⟨by omega, by omega⟩]
        rw [h1]
        simp [bc, gd, hi, Int.add_assoc])
      (by show W.loop _ _ _ _ = _; rw [L, e_ref01_Size_L3]; simp [bc])
    simp only [List.take_zero, sizes] at hl
    have hl' : W.loop 17 3 [V.int 0, V.loc false (some 3) (V.agg [V.int k, V.int h, V.vec .plain (some 3) (encs xs)]), V.int 1] [] = some (Ex.exit 0, [V.int ((1 + sizes xs : Nat) : Int)], []) := hl
    simp only [hl', T.size]
    rfl

theorem depth_spec : ∀ t : T, t.size ≤ 1099511627776 → Ev 18 [enc t] (.int t.depth) := by
  intro t
  induction t using T.ind with
  | _ k h xs ih =>
    intro hs
    simp only [T.size] at hs
    have hlen := length_le_sizes xs
    unfold Ev
    rw [C, enc, e_ref01_Depth]
    have hl := count_loop (n := xs.length) (L := fun i => W.loop 18 3 [V.int (i : Nat), V.int (depths (xs.take i) : Nat), V.loc false (some 3) (V.agg [V.int k, V.int h, V.vec .plain (some 3) (encs xs)])] []) (r := some (Ex.exit 0, [V.int (depths xs : Nat)], []))
      (fun i hi => by
        have hp := (ih xs[i] (List.getElem_mem hi) (by have := size_le (List.getElem_mem hi); omega)).p
        have h1 := depths_take hi
        show W.loop _ _ _ _ = _
        rw [L, e_ref01_Depth_L3]
        simp only [encs_length, getI_encs hi, onStruct_enc, ← enc_eta, hp, obind, onInt]
        rw [wrap_id ⟨by omega, by omega⟩]
        rw [h1]
        by_cases hc : depths (xs.take i) < xs[i].depth
        · have : max (depths (xs.take i)) xs[i].depth = xs[i].depth := by omega
          rw [this]
          simp [bc, gd, hi, hc]
        · have : max (depths (xs.take i)) xs[i].depth = depths (xs.take i) := by omega
          rw [this]
          simp [bc, gd, hi, hc])
      (by show W.loop _ _ _ _ = _; rw [L, e_ref01_Depth_L3]; simp [bc])
    have hl' : W.loop 18 3 [V.int 0, V.int 0, V.loc false (some 3) (V.agg [V.int k, V.int h, V.vec .plain (some 3) (encs xs)])] [] = some (Ex.exit 0, [V.int (depths xs : Nat)], []) := hl
    have hd := depths_le_sizes xs
    simp only [hl', T.depth, obind, onEx, onCons, onInt, onNil, bc]
    rw [wrap_id ⟨by omega, by omega⟩]
    rfl

theorem light_spec (t : T) (n m : Int) (hs : t.size ≤ 1099511627776) : Ev 6 [enc t, .int n, .int m] (.bool (light n m t)) := by
  unfold Ev
  rw [C, enc_eta, e_ref01_Light, ← enc_eta, (low_spec t hs).p, (size_spec t hs).p, (depth_spec t hs).p]
  simp only [obind, onBool, onInt, light]
  cases low t <;> simp [bc]
  by_cases h : (t.size : Int) ≤ n <;> simp [h]

theorem psame_spec : ∀ a b : T, a.size ≤ 1099511627776 → b.size ≤ 1099511627776 → Ev 65 [enc a, enc b] (.bool (a.same b)) := by
  intro a
  induction a using T.ind with
  | _ k h xs ih =>
    intro b hs hs'
    obtain ⟨k2, h2, ys⟩ := b
    simp only [T.size] at hs hs'
    have hlen := length_le_sizes xs
    unfold Ev
    rw [C, enc, enc, e_term_Same]
    simp only [T.same]
    by_cases c1 : k = k2
    · by_cases c2 : h = h2
      · by_cases c3 : xs.length = ys.length
        · have hl := all_loop' (L := fun i => W.loop 65 4 [V.int i, V.loc false (some 3) (V.agg [V.int k2, V.int h2, V.vec .plain (some 3) (encs ys)]), V.vec .plain (some 3) (encs xs), V.int xs.length] []) (xs := xs.zip ys) (g := fun x => x.1.same x.2) (e0 := (Ex.exit 0, [], [])) (e1 := (Ex.ret, [V.bool false], []))
            (fun i hi => by
              have hi1 : i < xs.length := by simp at hi; omega
              have hi2 : i < ys.length := by omega
              have hp := (ih xs[i] (List.getElem_mem hi1) ys[i] (by have := size_le (List.getElem_mem hi1); omega) (by have := size_le (List.getElem_mem hi2); omega)).p
              show W.loop _ _ _ _ = _
              rw [L, e_term_Same_L4]
              simp only [encs_length, getI_encs hi1, getI_encs hi2, onStruct_enc, ← enc_eta, hp, List.getElem_zip]
              rw [wrap_id ⟨by omega, by omega⟩]
              cases xs[i].same ys[i] <;> simp [bc, gd, obind, onBool, hi1, hi2])
            (by show W.loop _ _ _ _ = _; rw [L, e_term_Same_L4]; simp [bc, c3])
          simp only [c1, c2, c3, encs_length, sames_zip c3, bne_self_eq_false, hl, bc]
          rw [c3] at hl
          simp only [hl]
          cases (xs.zip ys).all (fun x => x.1.same x.2) <;> simp [obind, onEx, onCons, onBool, onNil, bc]
        · have c4 : ((xs.length : Int) != (ys.length : Int)) = true := by simp; omega
          simp only [c1, c2, sames_len c3, encs_length, c4, bne_self_eq_false]
          simp [bc]
      · have c4 : (h != h2) = true := by simp [c2]
        simp only [c1, c4, c2, bne_self_eq_false]
        simp [bc]
    · have c4 : (k != k2) = true := by simp [c1]
      simp only [c4, c1]
      simp [bc]

theorem bytes24 : ((Try.prog.info? 25).map (·.bytes)).getD 0 = 40 := by kernel_rfl
theorem room24 {n : Nat} (h : n ≤ 2199023255552) : roomFor Try.prog 25 n = true := by
  unfold roomFor
  rw [bytes24]
  simp only [Bool.and_eq_true, decide_eq_true_eq]
  omega

theorem pdepth_spec : ∀ t : T, t.size ≤ 1099511627776 → Ev 52 [enc t] (.int t.depth) := by
  intro t
  induction t using T.ind with
  | _ k h xs ih =>
    intro hs
    simp only [T.size] at hs
    have hlen := length_le_sizes xs
    unfold Ev
    rw [C, enc, e_term_Depth]
    have hl := count_loop (n := xs.length) (L := fun i => W.loop 52 3 [V.int (i : Nat), V.int (depths (xs.take i) : Nat), V.vec .plain (some 3) (encs xs), V.int xs.length] []) (r := some (Ex.exit 0, [V.int (depths xs : Nat)], []))
      (fun i hi => by
        have hp := (ih xs[i] (List.getElem_mem hi) (by have := size_le (List.getElem_mem hi); omega)).p
        have h1 := depths_take hi
        show W.loop _ _ _ _ = _
        rw [L, e_term_Depth_L3]
        simp only [encs_length, getI_encs hi, onStruct_enc, ← enc_eta, hp, obind, onInt]
        rw [wrap_id ⟨by omega, by omega⟩]
        rw [h1]
        by_cases hc : depths (xs.take i) < xs[i].depth
        · have : max (depths (xs.take i)) xs[i].depth = xs[i].depth := by omega
          rw [this]
          simp [bc, gd, hi, hc]
        · have : max (depths (xs.take i)) xs[i].depth = depths (xs.take i) := by omega
          rw [this]
          simp [bc, gd, hi, hc])
      (by show W.loop _ _ _ _ = _; rw [L, e_term_Depth_L3]; simp [bc])
    have hl' : W.loop 52 3 [V.int 0, V.int 0, V.vec .plain (some 3) (encs xs), V.int xs.length] [] = some (Ex.exit 0, [V.int (depths xs : Nat)], []) := hl
    have hd := depths_le_sizes xs
    simp only [encs_length, hl', T.depth, obind, onEx, onCons, onInt, onNil, bc]
    rw [wrap_id ⟨by omega, by omega⟩]
    rfl

end Go.Proofs.GT

/-! Walks over a term's nodes. -/
namespace Go.Proofs.GT
open Go Go.AM Go.Ama

theorem binds_spec (t : T) : Ev 90 [enc t] (.bool (decide (t.k = 1) || decide (t.k = 3))) := by
  unfold Ev
  rw [C, enc_eta, e_term_binds, beq_int, beq_int]
  cases decide (t.k = 1) <;> simp [bc]

section
variable {σ : Type} {x : σ → Res} {nx : σ → σ} {f key : Nat} {vals : List V} {g : Int → T → Bool} {b1 b2 : Res}

theorem walk_spec (hr : ∀ (i : Int) (t : T) (s : σ), W.round 1 f key vals [.int i, enc t] [x s, .loop f key vals .ready none] = some (if g i t = true then (true, [x (nx s), .loop f key vals .ready none]) else (false, [b1, b2]))) :
    ∀ (t : T) (i : Int) (s : σ), 0 ≤ i → i + t.size ≤ 4611686018427387904 → W.call 80 [enc t, .int i, .yld 1] [x s, .loop f key vals .ready none] =
      some (if allW g i t = true then (.ret (.bool true), [x (iter nx t.size s), .loop f key vals .ready none]) else (.ret (.bool false), [b1, b2])) := by
  intro t
  induction t using T.ind with
  | _ k h xs ih =>
    intro i s hi hs
    simp only [T.size] at hs
    have hlen := length_le_sizes xs
    rw [C]
    simp only [enc]
    rw [e_term_walk, onLoop_loop, onPend_ready]
    have hr0 := hr i (.mk k h xs) s
    simp only [enc] at hr0
    rw [hr0]
    cases hg : g i (.mk k h xs) with
    | false =>
      simp only [allW, hg, Bool.false_and, obind_some']
      rfl
    | true =>
      have hl : ∀ (d j : Nat) (s : σ), j + d = xs.length → W.loop 80 4 [V.int (j : Nat), V.yld 1, V.loc false (some 3) (V.agg [V.int k, V.int h, V.vec .plain (some 3) (encs xs)]), V.int i, V.vec .plain (some 3) (encs xs), V.int xs.length] [x s, .loop f key vals .ready none] =
          some (if allWs g i (decide (k = 1) || decide (k = 3)) (xs.drop j) = true then (Ex.exit 0, [], [x (iter nx (sizes (xs.drop j)) s), .loop f key vals .ready none]) else (Ex.ret, [V.bool false], [b1, b2])) := by
        intro d
        induction d with
        | zero =>
          intro j s hj
          have : j = xs.length := by omega
          subst this
          have hlt : decide ((xs.length : Int) < xs.length) = false := by simp
          rw [L, e_term_walk_L4, hlt, List.drop_length]
          rfl
        | succ d ihd =>
          intro j s hj
          have hjl : j < xs.length := by omega
          have hsz := size_le (List.getElem_mem hjl)
          have hlt : decide ((j : Int) < xs.length) = true := by simp; omega
          have h0 : decide ((0 : Int) ≤ j) = true := by simp
          have hb : pcall W 90 [V.agg [V.int k, V.int h, V.vec .plain (some 3) (encs xs)]] = some (.bool (decide (k = 1) || decide (k = 3))) := (binds_spec (.mk k h xs)).p
          have hne : decide ((j : Int) = IntKind.i64.wrap ((xs.length : Int) - 1)) = decide (j + 1 = xs.length) := by
            rw [wrap_id ⟨by omega, by omega⟩]
            by_cases c : j + 1 = xs.length <;> simp [c] <;> omega
          have step : ∀ i' : Int, 0 ≤ i' → i' + xs[j].size ≤ 4611686018427387904 → allWs g i (decide (k = 1) || decide (k = 3)) (xs.drop j) = (allW g i' xs[j] && allWs g i (decide (k = 1) || decide (k = 3)) (xs.drop (j + 1))) →
              (obind (W.call 80 [enc xs[j], V.int i', V.yld 1] [x s, .loop f key vals .ready none]) fun r6 =>
                onRet r6.fst (fun v7 => onBool v7 fun b8 => bc (!b8) (some (Ex.ret, [V.bool false], r6.snd))
                  (W.loop 80 4 [V.int (IntKind.i64.wrap ((j : Nat) + 1)), V.yld 1, V.loc false (some 3) (V.agg [V.int k, V.int h, V.vec .plain (some 3) (encs xs)]), V.int i, V.vec .plain (some 3) (encs xs), V.int xs.length] r6.snd)) fun p9 => none) =
              some (if allWs g i (decide (k = 1) || decide (k = 3)) (xs.drop j) = true then (Ex.exit 0, [], [x (iter nx (sizes (xs.drop j)) s), .loop f key vals .ready none]) else (Ex.ret, [V.bool false], [b1, b2])) := by
            intro i' hi' hs' he
            rw [ih xs[j] (List.getElem_mem hjl) i' s hi' hs', obind_some', he]
            cases allW g i' xs[j] with
            | false => simp only [Bool.false_and]; rfl
            | true =>
              simp only [if_true, onRet_ret, onBool_bool, Bool.not_true, bc_false, Bool.true_and]
              rw [wrap_id ⟨by omega, by omega⟩]
              have := ihd (j + 1) (iter nx xs[j].size s) (by omega)
              rw [show ((j : Nat) : Int) + 1 = ((j + 1 : Nat) : Int) from rfl, this]
              have : sizes (xs.drop j) = xs[j].size + sizes (xs.drop (j + 1)) := by rw [List.drop_eq_getElem_cons hjl]; rfl
              rw [this, iter_add]
          rw [L, e_term_walk_L4]
          simp only [encs_length, hlt, h0, bc_true, gd_true, Bool.and_self, getI_encs hjl, onStruct_enc, ← enc_eta, hb, obind_some', onBool_bool, beq_int, hne]
          by_cases hlast : j + 1 = xs.length
          · have hd : xs.drop j = [xs[j]] := by rw [List.drop_eq_getElem_cons hjl, hlast, List.drop_length]
            have hd' : xs.drop (j + 1) = [] := by rw [hlast, List.drop_length]
            simp only [hlast, decide_true, bc_true]
            have hw : IntKind.i64.wrap (i + 1) = i + 1 := wrap_id ⟨by omega, by omega⟩
            cases hbb : (decide (k = 1) || decide (k = 3)) with
            | true =>
              simp only [bc_true, hw]
              have := step (i + 1) (by omega) (by omega) (by rw [hd, hd', hbb]; simp [allWs])
              rw [hbb] at this
              exact this
            | false =>
              simp only [bc_false]
              have := step i hi (by omega) (by rw [hd, hd', hbb]; simp [allWs])
              rw [hbb] at this
              exact this
          · have hd : allWs g i (decide (k = 1) || decide (k = 3)) (xs.drop j) = (allW g i xs[j] && allWs g i (decide (k = 1) || decide (k = 3)) (xs.drop (j + 1))) := by
              have h2 : j + 1 < xs.length := by omega
              rw [List.drop_eq_getElem_cons hjl, List.drop_eq_getElem_cons h2]
              simp only [allWs]
            simp only [hlast, decide_false, bc_false]
            have := step i hi (by omega) hd
            cases hbb : (decide (k = 1) || decide (k = 3)) with
            | true => rw [hbb] at this; exact this
            | false => rw [hbb] at this; exact this
      have h1 := hl xs.length 0 (nx s) (by omega)
      simp only [if_true, obind_some', Bool.not_true, bc_false, encs_length]
      have h1' : W.loop 80 4 [V.int 0, V.yld 1, V.loc false (some 3) (V.agg [V.int k, V.int h, V.vec .plain (some 3) (encs xs)]), V.int i, V.vec .plain (some 3) (encs xs), V.int xs.length] [x (nx s), .loop f key vals .ready none] =
          some (if allWs g i (decide (k = 1) || decide (k = 3)) xs = true then (Ex.exit 0, [], [x (iter nx (sizes xs) (nx s)), .loop f key vals .ready none]) else (Ex.ret, [V.bool false], [b1, b2])) := by
        rw [List.drop_zero] at h1; exact h1
      rw [h1', obind_some']
      have hsz : iter nx (T.mk k h xs).size s = iter nx (sizes xs) (nx s) := by
        simp only [T.size]
        rw [iter_add]
        rfl
      simp only [allW, hg, Bool.true_and, hsz]
      cases allWs g i (decide (k = 1) || decide (k = 3)) xs <;> rfl

/-- All nodes handed on. -/
theorem nodes_spec (hr : ∀ (i : Int) (t : T) (s : σ), W.round 1 f key vals [.int i, enc t] [x s, .loop f key vals .ready none] = some (if g i t = true then (true, [x (nx s), .loop f key vals .ready none]) else (false, [b1, b2])))
    (t : T) (s : σ) (hs : t.size ≤ 1099511627776) : W.call 79 [.yld 1, .cptr (some 3) (enc t)] [x s, .loop f key vals .ready none] =
      some (.ret (.tup []), if allW g 0 t = true then [x (iter nx t.size s), .loop f key vals .ready none] else [b1, b2]) := by
  have hw := walk_spec hr t 0 s (by omega) (by omega)
  rw [C]
  rw [enc_eta] at hw ⊢
  rw [e_term_nodes_1, hw, obind_some']
  cases allW g 0 t <;> rfl
end

theorem psize_spec (t : T) (hs : t.size ≤ 1099511627776) : Ev 53 [enc t] (.int t.size) := by
  unfold Ev
  have hr : ∀ (i : Int) (t : T) (s : Int), W.round 1 53 3 [.ref 0 0] [.int i, enc t] [.box [.int s], .loop 53 3 [.ref 0 0] .ready none] =
      some (if (fun _ _ => true : Int → T → Bool) i t = true then (true, [.box [.int (IntKind.i64.wrap (s + 1))], .loop 53 3 [.ref 0 0] .ready none]) else (false, [.dead, .dead])) := by
    intro i t s
    rw [Rd, enc_eta, e_term_Size_R3]
    rfl
  have hn := nodes_spec (x := fun s : Int => .box [.int s]) (nx := fun s => IntKind.i64.wrap (s + 1)) (g := fun _ _ => true) (b1 := .dead) (b2 := .dead) hr t 0 hs
  have hall : ∀ (t : T) (i : Int), allW (fun _ _ => true) i t = true := by
    intro t
    induction t using T.ind with
    | _ k h xs ih =>
      intro i
      simp only [allW, Bool.true_and]
      generalize (decide (k = 1) || decide (k = 3)) = b
      have : ∀ l : List T, (∀ a ∈ l, ∀ i, allW (fun _ _ => true) i a = true) → allWs (fun _ _ => true) i b l = true := by
        intro l
        induction l with
        | nil => intro _; rfl
        | cons a l ihl =>
          intro h
          cases l with
          | nil => simp only [allWs]; exact h a (by simp) _
          | cons u l => simp only [allWs, h a (by simp), Bool.true_and]; exact ihl fun a ha => h a (by simp [ha])
      exact this xs ih
  have hit : ∀ (n : Nat) (s : Int), 0 ≤ s → s + n ≤ 4611686018427387904 → iter (fun s => IntKind.i64.wrap (s + 1)) n s = s + n := by
    intro n
    induction n with
    | zero => intro s _ _; simp [iter]
    | succ n ih =>
      intro s h0 h1
      simp only [iter]
      rw [wrap_id ⟨by omega, by omega⟩, ih _ (by omega) (by omega)]
      omega
  rw [hall, if_pos rfl] at hn
  rw [hit t.size 0 (by omega) (by omega)] at hn
  rw [C]
  rw [enc_eta] at hn ⊢
  rw [e_term_Size, C, e_term_nodes, obind_some', onRet_ret, onFn_fn]
  have hn' : W.call 79 ([] ++ [V.yld (List.length [Res.box [V.int 0]])] ++ [V.cptr (some 3) (V.agg [V.int t.k, V.int t.h, V.vec .plain (some 3) (encs t.args)])]) ([Res.box [V.int 0]] ++ [Res.loop 53 3 [V.ref 0 0] LSt.ready none]) = _ := hn
  rw [hn', obind_some']
  simp only [Int.zero_add]
  rfl

theorem pmay1_spec (k h : Int) (xs : List V) : Ev 56 [.agg [.int k, .int h, .vec .plain (some 3) xs]] (.bool (may1 k h xs.length)) := by
  unfold Ev
  rw [C, e_term_may]
  simp only [beq_len0, beq_len1, beq_len2]
  simp only [beq_int, may1]
  by_cases k0 : k = 0
  · subst k0
    simp only [decide_true, bc_true, if_true]
    cases decide (h = 0) <;> rfl
  by_cases k1 : k = 1
  · subst k1
    simp only [show (1 : Int) ≠ 0 by decide, decide_true, decide_false, bc_true, bc_false, if_true, if_false]
    cases decide (h = 0) <;> rfl
  by_cases k3 : k = 3
  · subst k3
    simp only [show (3 : Int) ≠ 0 by decide, show (3 : Int) ≠ 1 by decide, decide_true, decide_false, bc_true, bc_false, if_true, if_false]
    cases decide (h = 0) <;> rfl
  simp only [k0, k1, k3, decide_false, bc_false, if_false, ge_iff_le]
  cases decide (0 ≤ k) <;> cases decide (k < 7) <;> simp [bc]

theorem mayn_spec (i k h : Int) (xs : List T) : Ev 55 [.int i, .agg [.int k, .int h, .vec .plain (some 3) (encs xs)]] (.bool (may1 k h xs.length)) := by
  unfold Ev
  have := (pmay1_spec k h (encs xs)).p (by simp [belowL, below])
  rw [encs_length] at this
  rw [C, e_term_May_1, this]
  rfl

end Go.Proofs.GT

namespace Go.Proofs.GT
open Go Go.AM
set_option maxRecDepth 20000

theorem e_shift_Up (O : Oracle) (n0 : Int) (n1 : Int) (l2 : (List V)) (n3 : Int) (n4 : Int) : callBody Try.prog cfg O 73 [.agg [.int n0, .int n1, .vec .plain (some 3) l2], .int n3, .int n4] [] =
  obind (pcall O 81 [V.agg [V.int n0, V.int n1, V.vec .plain (some 3) l2], V.int n3, V.int n4]) fun r1 => onBool r1 fun b2 => bc (!b2) (obind (pcall O 34 [V.agg
  [V.int n0, V.int n1, V.vec .plain (some 3) l2]]) fun r3 => onStruct [CT.int, CT.int, CT.slice (some 3)] r3 fun n4 n5 l6 => gd (below 0 (V.agg [V.int n4, V.int n5, V.vec .plain
  (some 3) l6]) && true) (some (Out.ret (V.agg [V.int n4, V.int n5, V.vec .plain (some 3) l6]), []))) (obind (O.call 82 [V.agg [V.int n0, V.int n1, V.vec .plain (some 3)
  l2], V.int 0, V.fn 83 [V.agg [V.int n3, V.int n4]] []] []) fun r7 => onRet r7.fst (fun v8 => onTup v8 fun c9 => onCons c9 fun v10 c11 => onStruct [CT.int, CT.int,
  CT.slice (some 3)] v10 fun n12 n13 l14 => onCons c11 fun v15 c16 => onBool v15 fun b17 => onNil c16 (gd (below 0 (V.agg [V.int n12, V.int n13, V.vec .plain (some 3) l14]) &&
  belowSt 0 []) (some (Out.ret (V.agg [V.int n12, V.int n13, V.vec .plain (some 3) l14]), [])))) fun p18 => none) := by kernel_rfl

theorem e_subst_Apply (O : Oracle) (n0 : Int) (n1 : Int) (l2 : (List V)) (l3 : (List V)) (n4 : Int) : callBody Try.prog cfg O 70 [.agg [.int n0, .int n1, .vec .plain (some 3) l2], .agg [.vec .plain (some 3) l3, .int n4]] [] =
  obind (pcall O 29 [V.agg [V.int n0, V.int n1, V.vec .plain (some 3) l2]]) fun r1 => onBool r1 fun b2 => bc (!b2) (some (Out.ret (V.tup [V.agg [V.int 0, V.int 0, V.vec
  .plain (some 3) []], V.int 1]), [])) (obind (pcall O 75 [V.agg [V.vec .plain (some 3) l3, V.int n4]]) fun r3 => onBool r3 fun b4 => bc (!b4) (some (Out.ret (V.tup [V.agg
  [V.int 0, V.int 0, V.vec .plain (some 3) []], V.int 1]), [])) (obind (O.call 76 [V.fn 77 [] [V.cptr (some 3) (V.agg [V.int n0, V.int n1, V.vec .plain (some
  3) l2]), V.cptr (some 2) (V.agg [V.vec .plain (some 3) l3, V.int n4])]] []) fun r5 => onRet r5.fst (fun v6 => onTup v6 fun c7 => onCons c7 fun v8 c9 => onStruct [CT.int, CT.int,
  CT.slice (some 3)] v8 fun n10 n11 l12 => onCons c9 fun v13 c14 => onInt v13 fun n15 => onNil c14 (gd (below 0 (V.tup [V.agg [V.int n10, V.int n11, V.vec .plain (some 3) l12],
  V.int n15]) && belowSt 0 []) (some (Out.ret (V.tup [V.agg [V.int n10, V.int n11, V.vec .plain (some 3) l12], V.int n15]), [])))) fun p16 => none)) := by kernel_rfl

theorem e_shift_may (O : Oracle) (n0 : Int) (n1 : Int) (l2 : (List V)) (n3 : Int) (n4 : Int) : callBody Try.prog cfg O 81 [.agg [.int n0, .int n1, .vec .plain (some 3) l2], .int n3, .int n4] [] =
  obind (pcall O 29 [V.agg [V.int n0, V.int n1, V.vec .plain (some 3) l2]]) fun r1 => onBool r1 fun b2 => bc b2 (bc (decide (n3 ≥ 0)) (bc (decide (n3 ≤ 1048576)) (bc (decide
  (n4 ≥ 0)) (some (Out.ret (V.bool (decide (n4 ≤ 1048576))), [])) (some (Out.ret (V.bool false), []))) (some (Out.ret (V.bool false), []))) (some (Out.ret (V.bool false), [])))
  (some (Out.ret (V.bool false), [])) := by kernel_rfl

theorem e_shift_change (O : Oracle) (n0 : Int) (n1 : Int) (l2 : (List V)) (n3 : Int) (g4 : Nat) (l5 : (List V)) (l6 : (List V)) (st : St) : callBody Try.prog cfg O 82 [.agg [.int n0, .int n1, .vec .plain (some 3) l2], .int n3, .fn g4 l5 l6] st =
  bc (n0 == 4) (bc (cfg.pure g4) (obind (pcall O g4 (l5 ++ [V.int n1, V.int n3] ++ l6)) fun r1 => onTup r1 fun c2 => onCons c2 fun v3 c4 => onInt v3 fun n5 => onCons c4 fun v6 c7 =>
  onBool v6 fun b8 => onNil c7 (bc (!b8) (gcE (List.length st) (V.tup [V.agg [V.int 0, V.int 0, V.vec .plain (some 3) []], V.bool false]) st) (obind (O.call 91
  [V.vec .plain (some 3) l2, V.fn 92 [] [V.cptr none (V.int n3), V.cptr (some 3) (V.agg [V.int n0, V.int n1, V.vec .plain (some 3) l2]), V.cptr none (V.fn g4 l5 l6)]]
  st) fun r9 => onRet r9.fst (fun v10 => onTup v10 fun c11 => onCons c11 fun v12 c13 => onVec (some 3) v12 fun l14 => onCons c13 fun v15 c16 => onBool v15 fun b17 => onNil c16 (bc
  (!b17) (gcE (List.length st) (V.tup [V.agg [V.int 0, V.int 0, V.vec .plain (some 3) []], V.bool false]) r9.snd) (gcE (List.length st) (V.tup [V.agg [V.int n0, V.int n5, V.vec
  .plain (some 3) l14], V.bool true]) r9.snd))) fun p18 => none))) (obind (O.call g4 (l5 ++ [V.int n1, V.int n3] ++ l6) st) fun r19 => onRet r19.fst (fun v20 => onTup v20 fun c21 =>
  onCons c21 fun v22 c23 => onInt v22 fun n24 => onCons c23 fun v25 c26 => onBool v25 fun b27 => onNil c26 (bc (!b27) (gcE (List.length st) (V.tup [V.agg [V.int 0, V.int 0, V.vec
  .plain (some 3) []], V.bool false]) r19.snd) (obind (O.call 91 [V.vec .plain (some 3) l2, V.fn 92 [] [V.cptr none (V.int n3), V.cptr (some 3)
  (V.agg [V.int n0, V.int n1, V.vec .plain (some 3) l2]), V.cptr none (V.fn g4 l5 l6)]] r19.snd) fun r28 => onRet r28.fst (fun v29 => onTup v29 fun c30 => onCons c30 fun v31 c32 =>
  onVec (some 3) v31 fun l33 => onCons c32 fun v34 c35 => onBool v34 fun b36 => onNil c35 (bc (!b36) (gcE (List.length st) (V.tup [V.agg [V.int 0, V.int 0, V.vec .plain (some 3)
  []], V.bool false]) r28.snd) (gcE (List.length st) (V.tup [V.agg [V.int n0, V.int n24, V.vec .plain (some 3) l33], V.bool true]) r28.snd))) fun p37 => none))) fun p38 => none))
  (obind (O.call 91 [V.vec .plain (some 3) l2, V.fn 92 [] [V.cptr none (V.int n3), V.cptr (some 3) (V.agg [V.int n0, V.int n1, V.vec .plain (some 3)
  l2]), V.cptr none (V.fn g4 l5 l6)]] st) fun r39 => onRet r39.fst (fun v40 => onTup v40 fun c41 => onCons c41 fun v42 c43 => onVec (some 3) v42 fun l44 => onCons c43 fun v45 c46 =>
  onBool v45 fun b47 => onNil c46 (bc (!b47) (gcE (List.length st) (V.tup [V.agg [V.int 0, V.int 0, V.vec .plain (some 3) []], V.bool false]) r39.snd) (gcE (List.length st) (V.tup
  [V.agg [V.int n0, V.int n1, V.vec .plain (some 3) l44], V.bool true]) r39.snd))) fun p48 => none) := by kernel_rfl

theorem e_shift_renumber_up (O : Oracle) (n0 : Int) (n1 : Int) (n2 : Int) (n3 : Int) : callBody Try.prog cfg O 83 [.agg [.int n0, .int n1], .int n2, .int n3] [] =
  bc (decide (n2 ≥ IntKind.i64.wrap (n1 + n3))) (some (Out.ret (V.tup [V.int (IntKind.i64.wrap (n2 + n0)), V.bool true]), [])) (some (Out.ret (V.tup [V.int n2, V.bool true]), [])) := by kernel_rfl

theorem e_subst_Same (O : Oracle) (n0 : Int) : callBody Try.prog cfg O 33 [.int n0] [] =
  obind (O.loop 33 4 [V.int 0, V.loc true (some 2) (V.agg [V.vec Mode.grow (some 3) [], V.int (if 200 < if 0 > n0 then 0 else n0 then 200 else if 0 > n0 then 0 else n0)]),
  V.int (if 200 < if 0 > n0 then 0 else n0 then 200 else if 0 > n0 then 0 else n0), V.loc true (some 2) (V.agg [V.vec Mode.full (some 3) [], V.int 0]), V.int (if 200 < if 0 > n0
  then 0 else n0 then 200 else if 0 > n0 then 0 else n0)] []) fun r1 => onEx r1.fst none none (fun i2 => bc (i2.beq 0) (onCons r1.snd.fst fun v3 c4 => onLoc (some 2) v3 fun d5 v6 =>
  onCons c4 fun v7 c8 => onLoc (some 2) v7 fun d9 v10 => onAgg v10 fun c11 => onCons c11 fun v12 c13 => onRoom (some 3) v12 fun l14 => onCons c13 fun v15 c16 => onInt v15 fun n17 =>
  onNil c16 (onNil c8 (gd (below 0 (V.agg [V.vec .plain (some 3) l14, V.int n17]) && belowSt 0 []) (some (Out.ret (V.agg [V.vec .plain (some 3) l14, V.int n17]), []))))) none) fun
  v18 => none := by kernel_rfl

theorem e_subst_Same_L4 (O : Oracle) (n0 : Int) (l1 : (List V)) (n2 : Int) (n3 : Int) (v4 : V) (n5 : Int) : loopBody Try.prog cfg O 33 4 [.int n0, .loc true (some 2) (.agg [.vec .grow (some 3) l1, .int n2]), .int n3, .loc true (some 2) v4, .int n5] [] =
  bc (decide (n0 < n5)) (gd (true && roomFor Try.prog 25 (l1.length + [V.agg [V.int 4, V.int (IntKind.i64.wrap (IntKind.i64.wrap (n3 - 1) - n0)), V.vec .plain (some 3)
  []]].length)) (O.2 33 4 [V.int (IntKind.i64.wrap (n0 + 1)), V.loc true (some 2) (V.agg [V.vec Mode.grow (some 3) (l1 ++ [V.agg [V.int 4, V.int (IntKind.i64.wrap
  (IntKind.i64.wrap (n3 - 1) - n0)), V.vec .plain (some 3) []]]), V.int n2]), V.int n3, V.loc true (some 2) v4, V.int n5] [])) (some (Ex.exit 0, [V.loc true (some 2) v4, V.loc true
  (some 2) (V.agg [V.vec Mode.grow (some 3) l1, V.int n2])], [])) := by kernel_rfl

theorem e_subst_may (O : Oracle) (l0 : (List V)) (n1 : Int) : callBody Try.prog cfg O 75 [.agg [.vec .plain (some 3) l0, .int n1]] [] =
  bc (decide ((↑l0.length : Int) ≤ 200)) (bc (decide (n1 ≥ 0)) (bc (decide (n1 ≤ 1048576)) (obind (O.call 32 [V.vec .plain (some 3) l0, V.fn
  84 [] []] []) fun r1 => onRet r1.fst (fun v2 => onBool v2 fun b3 => some (Out.ret (V.bool !b3), [])) fun p4 => none) (some (Out.ret (V.bool false), []))) (some (Out.ret
  (V.bool false), []))) (some (Out.ret (V.bool false), [])) := by kernel_rfl

theorem e_subst_Apply_1 (O : Oracle) (q : Nat) (k h : Int) (xs ls : List V) (sft : Int) (st : St) : callBody Try.prog cfg O 77 [.ref q 0, .cptr (some 3) (.agg [.int k, .int h, .vec .plain (some 3) xs]), .cptr (some 2) (.agg [.vec .plain (some 3) ls, .int sft])] st =
  obind (O.call 78 [V.ref q 0, V.agg [V.int k, V.int h, V.vec .plain (some 3) xs], V.agg [V.vec .plain (some 3) ls, V.int sft]] st) fun r1 => onRet r1.fst (fun v2 =>
  onStruct [CT.int, CT.int, CT.slice (some 3)] v2 fun n3 n4 l5 => gcE (List.length st) (V.agg [V.int n3, V.int n4, V.vec .plain (some 3) l5]) r1.snd) fun p6 => gd (below
  (List.length st) p6 && belowSt (List.length st) (List.take (List.length st) r1.snd)) (some (Out.panic p6, List.take (List.length st) r1.snd)) := by kernel_rfl

theorem e_subst_work_apply (O : Oracle) (r0 : Nat) (n1 : Int) (n2 : Int) (l3 : (List V)) (l4 : (List V)) (n5 : Int) (st : St) : callBody Try.prog cfg O 78 [.ref r0 0, .agg [.int n1, .int n2, .vec .plain (some 3) l3], .agg [.vec .plain (some 3) l4, .int n5]] st =
  getR st r0 fun x1 => onBox x1 fun c2 => gd (decide (1 ≤ c2.length) && true) (onInt (cleanV (AM.partOf c2 0 none)) fun n3 => getR st r0 fun x4 => onBox x4 fun c5 => gd (decide (1 ≤
  c5.length) && true) (getR (List.set st r0 (Res.box (setCells c5 0 [V.int (IntKind.i64.wrap (n3 + 1))]))) r0 fun x6 => onBox x6 fun c7 => gd (decide (1 ≤ c7.length) && true) (onInt
  (cleanV (AM.partOf c7 0 none)) fun n8 => bc (decide (n8 > 40000)) (obind (O.call 86 [V.int 4] (List.set st r0 (Res.box (setCells c5 0 [V.int (IntKind.i64.wrap (n3 +
  1))])))) fun r9 => onRet r9.fst (fun v10 => onTup v10 fun c11 => onNil c11 (obind (O.loop 78 6 [V.int 0, V.loc true (some 3) (V.agg [V.int n1, V.int n2, V.vec
  Mode.grow (some 3) []]), V.ref r0 0, V.loc false (some 2) (V.agg [V.vec .plain (some 3) l4, V.int n5]), V.loc false (some 3) (V.agg [V.int n1, V.int n2, V.vec .plain (some 3)
  l3]), V.vec .plain (some 3) l3, V.loc true (some 3) (V.agg [V.int 0, V.int 0, V.vec Mode.full (some 3) []]), V.int (↑l3.length : Int)] r9.snd) fun r12 => onEx r12.fst none none
  (fun i13 => bc (i13.beq 0) (onCons r12.snd.fst fun v14 c15 => onLoc (some 3) v14 fun d16 v17 => onCons c15 fun v18 c19 => onLoc (some 3) v18 fun d20 v21 => onAgg v21 fun c22 =>
  onCons c22 fun v23 c24 => onInt v23 fun n25 => onCons c24 fun v26 c27 => onInt v26 fun n28 => onCons c27 fun v29 c30 => onRoom (some 3) v29 fun l31 => onNil c30 (onCons c19 fun
  v32 c33 => onLoc (some 3) v32 fun d34 v35 => onStruct [CT.int, CT.int, CT.slice (some 3)] (bif d34 then cleanV v35 else v35) fun n36 n37 l38 => onCons c33 fun v39 c40 => onLoc
  (some 2) v39 fun d41 v42 => onStruct [CT.slice (some 3), CT.int] (bif d41 then cleanV v42 else v42) fun l43 n44 => onCons c40 fun v45 c46 => onRef v45 fun q47 => onNil c46 (bc
  (n36 != 4) (gcE (List.length st) (V.agg [V.int n25, V.int n28, V.vec .plain (some 3) l31]) r12.snd.snd) (obind (pcall O 89 [V.agg [V.vec .plain (some 3) l43, V.int n44],
  V.int n37]) fun r48 => onStruct [CT.int, CT.int, CT.slice (some 3)] r48 fun n49 n50 l51 => obind (O.call 88 [V.ref q47 0, V.agg [V.int n49, V.int n50, V.vec .plain
  (some 3) l51], V.vec .plain (some 3) l31] r12.snd.snd) fun r52 => onRet r52.fst (fun v53 => onStruct [CT.int, CT.int, CT.slice (some 3)] v53 fun n54 n55 l56 => gcE (List.length
  st) (V.agg [V.int n54, V.int n55, V.vec .plain (some 3) l56]) r52.snd) fun p57 => gd (below (List.length st) p57 && belowSt (List.length st) (List.take (List.length st) r52.snd))
  (some (Out.panic p57, List.take (List.length st) r52.snd)))))) none) fun v58 => gd (below (List.length st) v58 && belowSt (List.length st) (List.take (List.length st)
  r12.snd.snd)) (some (Out.panic v58, List.take (List.length st) r12.snd.snd)))) fun p59 => gd (below (List.length st) p59 && belowSt (List.length st) (List.take (List.length st)
  r9.snd)) (some (Out.panic p59, List.take (List.length st) r9.snd))) (obind (O.loop 78 6 [V.int 0, V.loc true (some 3) (V.agg [V.int n1, V.int n2, V.vec Mode.grow
  (some 3) []]), V.ref r0 0, V.loc false (some 2) (V.agg [V.vec .plain (some 3) l4, V.int n5]), V.loc false (some 3) (V.agg [V.int n1, V.int n2, V.vec .plain (some 3) l3]), V.vec
  .plain (some 3) l3, V.loc true (some 3) (V.agg [V.int 0, V.int 0, V.vec Mode.full (some 3) []]), V.int (↑l3.length : Int)] (List.set st r0 (Res.box (setCells c5 0 [V.int
  (IntKind.i64.wrap (n3 + 1))])))) fun r60 => onEx r60.fst none none (fun i61 => bc (i61.beq 0) (onCons r60.snd.fst fun v62 c63 => onLoc (some 3) v62 fun d64 v65 => onCons c63 fun
  v66 c67 => onLoc (some 3) v66 fun d68 v69 => onAgg v69 fun c70 => onCons c70 fun v71 c72 => onInt v71 fun n73 => onCons c72 fun v74 c75 => onInt v74 fun n76 => onCons c75 fun v77
  c78 => onRoom (some 3) v77 fun l79 => onNil c78 (onCons c67 fun v80 c81 => onLoc (some 3) v80 fun d82 v83 => onStruct [CT.int, CT.int, CT.slice (some 3)] (bif d82 then cleanV v83
  else v83) fun n84 n85 l86 => onCons c81 fun v87 c88 => onLoc (some 2) v87 fun d89 v90 => onStruct [CT.slice (some 3), CT.int] (bif d89 then cleanV v90 else v90) fun l91 n92 =>
  onCons c88 fun v93 c94 => onRef v93 fun q95 => onNil c94 (bc (n84 != 4) (gcE (List.length st) (V.agg [V.int n73, V.int n76, V.vec .plain (some 3) l79]) r60.snd.snd) (obind (pcall
  O 89 [V.agg [V.vec .plain (some 3) l91, V.int n92], V.int n85]) fun r96 => onStruct [CT.int, CT.int, CT.slice (some 3)] r96 fun n97 n98 l99 => obind (O.call
  88 [V.ref q95 0, V.agg [V.int n97, V.int n98, V.vec .plain (some 3) l99], V.vec .plain (some 3) l79] r60.snd.snd) fun r100 => onRet r100.fst (fun v101 => onStruct
  [CT.int, CT.int, CT.slice (some 3)] v101 fun n102 n103 l104 => gcE (List.length st) (V.agg [V.int n102, V.int n103, V.vec .plain (some 3) l104]) r100.snd) fun p105 => gd (below
  (List.length st) p105 && belowSt (List.length st) (List.take (List.length st) r100.snd)) (some (Out.panic p105, List.take (List.length st) r100.snd)))))) none) fun v106 => gd
  (below (List.length st) v106 && belowSt (List.length st) (List.take (List.length st) r60.snd.snd)) (some (Out.panic v106, List.take (List.length st) r60.snd.snd)))))) := by kernel_rfl

theorem e_subst_work_apply_L6 (O : Oracle) (n0 : Int) (n1 : Int) (n2 : Int) (l3 : (List V)) (r4 : Nat) (l5 : (List V)) (n6 : Int) (n7 : Int) (n8 : Int) (l9 : (List V)) (l10 : (List V)) (v11 : V) (n12 : Int) (st : St) : loopBody Try.prog cfg O 78 6 [.int n0, .loc true (some 3) (.agg [.int n1, .int n2, .vec .grow (some 3) l3]), .ref r4 0, .loc false (some 2) (.agg [.vec .plain (some 3) l5, .int n6]), .loc false (some 3) (.agg [.int n7, .int n8, .vec .plain (some 3) l9]), .vec .plain (some 3) l10, .loc true (some 3) v11, .int n12] st =
  bc (decide (n0 < n12)) (gd (decide (0 ≤ n0) && decide (n0 < (↑l10.length : Int))) (onStruct [CT.int, CT.int, CT.slice (some 3)] (getI l10 n0) fun n1_1 n2_1 l3_1 => bc (n7 == 1)
  (bc (n0 == IntKind.i64.wrap ((↑l9.length : Int) - 1)) (obind (pcall O 87 [V.agg [V.vec .plain (some 3) l5, V.int n6]]) fun r4_1 => onStruct [CT.slice (some 3), CT.int]
  r4_1 fun l5_1 n6_1 => obind (O.call 78 [V.ref r4 0, V.agg [V.int n1_1, V.int n2_1, V.vec .plain (some 3) l3_1], V.agg [V.vec .plain (some 3) l5_1, V.int n6_1]] st)
  fun r7 => onRet r7.fst (fun v8 => onStruct [CT.int, CT.int, CT.slice (some 3)] v8 fun n9 n10 l11 => gd (true && roomFor Try.prog 25 (l3.length + [V.agg [V.int n9, V.int
  n10, V.vec .plain (some 3) l11]].length)) (O.2 78 6 [V.int (IntKind.i64.wrap (n0 + 1)), V.loc true (some 3) (V.agg [V.int n1, V.int n2, V.vec Mode.grow (some 3)
  (l3 ++ [V.agg [V.int n9, V.int n10, V.vec .plain (some 3) l11]])]), V.ref r4 0, V.loc false (some 2) (V.agg [V.vec .plain (some 3) l5, V.int n6]), V.loc false (some 3) (V.agg
  [V.int n7, V.int n8, V.vec .plain (some 3) l9]), V.vec .plain (some 3) l10, V.loc true (some 3) v11, V.int n12] r7.snd)) fun p12 => some (Ex.panic p12, [V.loc true (some 3) v11,
  V.loc true (some 3) (V.agg [V.int n1, V.int n2, V.vec .plain (some 3) l3]), V.loc false (some 3) (V.agg [V.int n7, V.int n8, V.vec .plain (some 3) l9]), V.loc false (some 2)
  (V.agg [V.vec .plain (some 3) l5, V.int n6]), V.ref r4 0], r7.snd)) (obind (O.call 78 [V.ref r4 0, V.agg [V.int n1_1, V.int n2_1, V.vec .plain (some 3) l3_1],
  V.agg [V.vec .plain (some 3) l5, V.int n6]] st) fun r13 => onRet r13.fst (fun v14 => onStruct [CT.int, CT.int, CT.slice (some 3)] v14 fun n15 n16 l17 => gd (true && roomFor
  Try.prog 25 (l3.length + [V.agg [V.int n15, V.int n16, V.vec .plain (some 3) l17]].length)) (O.2 78 6 [V.int (IntKind.i64.wrap (n0 + 1)), V.loc true
  (some 3) (V.agg [V.int n1, V.int n2, V.vec Mode.grow (some 3) (l3 ++ [V.agg [V.int n15, V.int n16, V.vec .plain (some 3) l17]])]), V.ref r4 0, V.loc false (some 2) (V.agg [V.vec
  .plain (some 3) l5, V.int n6]), V.loc false (some 3) (V.agg [V.int n7, V.int n8, V.vec .plain (some 3) l9]), V.vec .plain (some 3) l10, V.loc true (some 3) v11, V.int n12]
  r13.snd)) fun p18 => some (Ex.panic p18, [V.loc true (some 3) v11, V.loc true (some 3) (V.agg [V.int n1, V.int n2, V.vec .plain (some 3) l3]), V.loc false (some 3) (V.agg [V.int
  n7, V.int n8, V.vec .plain (some 3) l9]), V.loc false (some 2) (V.agg [V.vec .plain (some 3) l5, V.int n6]), V.ref r4 0], r13.snd))) (bc (n7 == 3) (bc (n0 == IntKind.i64.wrap
  ((↑l9.length : Int) - 1)) (obind (pcall O 87 [V.agg [V.vec .plain (some 3) l5, V.int n6]]) fun r19 => onStruct [CT.slice (some 3), CT.int] r19 fun l20 n21 => obind
  (O.call 78 [V.ref r4 0, V.agg [V.int n1_1, V.int n2_1, V.vec .plain (some 3) l3_1], V.agg [V.vec .plain (some 3) l20, V.int n21]] st) fun r22 => onRet r22.fst (fun
  v23 => onStruct [CT.int, CT.int, CT.slice (some 3)] v23 fun n24 n25 l26 => gd (true && roomFor Try.prog 25 (l3.length + [V.agg [V.int n24, V.int n25, V.vec .plain (some
  3) l26]].length)) (O.2 78 6 [V.int (IntKind.i64.wrap (n0 + 1)), V.loc true (some 3) (V.agg [V.int n1, V.int n2, V.vec Mode.grow (some 3) (l3 ++ [V.agg [V.int n24,
  V.int n25, V.vec .plain (some 3) l26]])]), V.ref r4 0, V.loc false (some 2) (V.agg [V.vec .plain (some 3) l5, V.int n6]), V.loc false (some 3) (V.agg [V.int n7, V.int n8, V.vec
  .plain (some 3) l9]), V.vec .plain (some 3) l10, V.loc true (some 3) v11, V.int n12] r22.snd)) fun p27 => some (Ex.panic p27, [V.loc true (some 3) v11, V.loc true (some 3) (V.agg
  [V.int n1, V.int n2, V.vec .plain (some 3) l3]), V.loc false (some 3) (V.agg [V.int n7, V.int n8, V.vec .plain (some 3) l9]), V.loc false (some 2) (V.agg [V.vec .plain (some 3)
  l5, V.int n6]), V.ref r4 0], r22.snd)) (obind (O.call 78 [V.ref r4 0, V.agg [V.int n1_1, V.int n2_1, V.vec .plain (some 3) l3_1], V.agg [V.vec .plain (some 3) l5,
  V.int n6]] st) fun r28 => onRet r28.fst (fun v29 => onStruct [CT.int, CT.int, CT.slice (some 3)] v29 fun n30 n31 l32 => gd (true && roomFor Try.prog 25 (l3.length +
  [V.agg [V.int n30, V.int n31, V.vec .plain (some 3) l32]].length)) (O.2 78 6 [V.int (IntKind.i64.wrap (n0 + 1)), V.loc true (some 3) (V.agg [V.int n1, V.int n2,
  V.vec Mode.grow (some 3) (l3 ++ [V.agg [V.int n30, V.int n31, V.vec .plain (some 3) l32]])]), V.ref r4 0, V.loc false (some 2) (V.agg [V.vec .plain (some 3) l5, V.int n6]), V.loc
  false (some 3) (V.agg [V.int n7, V.int n8, V.vec .plain (some 3) l9]), V.vec .plain (some 3) l10, V.loc true (some 3) v11, V.int n12] r28.snd)) fun p33 => some (Ex.panic p33,
  [V.loc true (some 3) v11, V.loc true (some 3) (V.agg [V.int n1, V.int n2, V.vec .plain (some 3) l3]), V.loc false (some 3) (V.agg [V.int n7, V.int n8, V.vec .plain (some 3) l9]),
  V.loc false (some 2) (V.agg [V.vec .plain (some 3) l5, V.int n6]), V.ref r4 0], r28.snd))) (obind (O.call 78 [V.ref r4 0, V.agg [V.int n1_1, V.int n2_1, V.vec
  .plain (some 3) l3_1], V.agg [V.vec .plain (some 3) l5, V.int n6]] st) fun r34 => onRet r34.fst (fun v35 => onStruct [CT.int, CT.int, CT.slice (some 3)] v35 fun n36 n37 l38 => gd
  (true && roomFor Try.prog 25 (l3.length + [V.agg [V.int n36, V.int n37, V.vec .plain (some 3) l38]].length)) (O.2 78 6 [V.int (IntKind.i64.wrap (n0 +
  1)), V.loc true (some 3) (V.agg [V.int n1, V.int n2, V.vec Mode.grow (some 3) (l3 ++ [V.agg [V.int n36, V.int n37, V.vec .plain (some 3) l38]])]), V.ref r4 0, V.loc false (some 2)
  (V.agg [V.vec .plain (some 3) l5, V.int n6]), V.loc false (some 3) (V.agg [V.int n7, V.int n8, V.vec .plain (some 3) l9]), V.vec .plain (some 3) l10, V.loc true (some 3) v11,
  V.int n12] r34.snd)) fun p39 => some (Ex.panic p39, [V.loc true (some 3) v11, V.loc true (some 3) (V.agg [V.int n1, V.int n2, V.vec .plain (some 3) l3]), V.loc false (some 3)
  (V.agg [V.int n7, V.int n8, V.vec .plain (some 3) l9]), V.loc false (some 2) (V.agg [V.vec .plain (some 3) l5, V.int n6]), V.ref r4 0], r34.snd))))) (some (Ex.exit 0, [V.loc true
  (some 3) v11, V.loc true (some 3) (V.agg [V.int n1, V.int n2, V.vec Mode.grow (some 3) l3]), V.loc false (some 3) (V.agg [V.int n7, V.int n8, V.vec .plain (some 3) l9]), V.loc
  false (some 2) (V.agg [V.vec .plain (some 3) l5, V.int n6]), V.ref r4 0], st)) := by kernel_rfl

theorem e_shift_each_api_Term (O : Oracle) (l0 : (List V)) (g1 : Nat) (l2 : (List V)) (l3 : (List V)) (st : St) : callBody Try.prog cfg O 91 [.vec .plain (some 3) l0, .fn g1 l2 l3] st =
  obind (O.loop 91 3 [V.int 0, V.vec Mode.grow (some 3) [], V.fn g1 l2 l3, V.vec .plain (some 3) l0, V.int (↑l0.length : Int)] st) fun r1 => onEx r1.fst none
  (onCons r1.snd.fst fun v2 c3 => onVec (some 3) v2 fun l4 => onCons c3 fun v5 c6 => onBool v5 fun b7 => onNil c6 (gcE (List.length st) (V.tup [V.vec .plain (some 3) l4, V.bool b7])
  r1.snd.snd)) (fun i8 => bc (i8.beq 0) (onCons r1.snd.fst fun v9 c10 => onRoom (some 3) v9 fun l11 => onNil c10 (gcE (List.length st) (V.tup [V.vec .plain (some 3) l11, V.bool
  true]) r1.snd.snd)) none) fun v12 => none := by kernel_rfl

theorem e_shift_each_api_Term_L3 (O : Oracle) (n0 : Int) (l1 : (List V)) (g2 : Nat) (l3 : (List V)) (l4 : (List V)) (l5 : (List V)) (n6 : Int) (st : St) : loopBody Try.prog cfg O 91 3 [.int n0, .vec .grow (some 3) l1, .fn g2 l3 l4, .vec .plain (some 3) l5, .int n6] st =
  bc (decide (n0 < n6)) (gd (decide (0 ≤ n0) && decide (n0 < (↑l5.length : Int))) (onStruct [CT.int, CT.int, CT.slice (some 3)] (getI l5 n0) fun n1 n2 l3_1 => bc (cfg.pure g2)
  (obind (pcall O g2 (l3 ++ [V.int n0, V.agg [V.int n1, V.int n2, V.vec .plain (some 3) l3_1]] ++ l4)) fun r4 => onTup r4 fun c5 => onCons c5 fun v6 c7 => onStruct [CT.int, CT.int,
  CT.slice (some 3)] v6 fun n8 n9 l10 => onCons c7 fun v11 c12 => onBool v11 fun b13 => onNil c12 (bc (!b13) (some (Ex.ret, [V.vec .plain (some 3) [], V.bool false], st)) (gd (true
  && roomFor Try.prog 25 (l1.length + [V.agg [V.int n8, V.int n9, V.vec .plain (some 3) l10]].length)) (O.2 91 3 [V.int (IntKind.i64.wrap (n0 + 1)),
  V.vec Mode.grow (some 3) (l1 ++ [V.agg [V.int n8, V.int n9, V.vec .plain (some 3) l10]]), V.fn g2 l3 l4, V.vec .plain (some 3) l5, V.int n6] st)))) (obind (O.call g2 (l3 ++ [V.int
  n0, V.agg [V.int n1, V.int n2, V.vec .plain (some 3) l3_1]] ++ l4) st) fun r14 => onRet r14.fst (fun v15 => onTup v15 fun c16 => onCons c16 fun v17 c18 => onStruct [CT.int,
  CT.int, CT.slice (some 3)] v17 fun n19 n20 l21 => onCons c18 fun v22 c23 => onBool v22 fun b24 => onNil c23 (bc (!b24) (some (Ex.ret, [V.vec .plain (some 3) [], V.bool false],
  r14.snd)) (gd (true && roomFor Try.prog 25 (l1.length + [V.agg [V.int n19, V.int n20, V.vec .plain (some 3) l21]].length)) (O.2 91 3 [V.int
  (IntKind.i64.wrap (n0 + 1)), V.vec Mode.grow (some 3) (l1 ++ [V.agg [V.int n19, V.int n20, V.vec .plain (some 3) l21]]), V.fn g2 l3 l4, V.vec .plain (some 3) l5, V.int n6]
  r14.snd)))) fun p25 => none))) (some (Ex.exit 0, [V.vec Mode.grow (some 3) l1], st)) := by kernel_rfl

theorem e_shift_change_1 (O : Oracle) (i k h ar k0 h0 : Int) (xs ys : List V) (g : Nat) (a b : List V) (st : St) : callBody Try.prog cfg O 92 [.int i, .agg [.int k, .int h, .vec .plain (some 3) xs], .cptr none (.int ar), .cptr (some 3) (.agg [.int k0, .int h0, .vec .plain (some 3) ys]), .cptr none (.fn g a b)] st =
  bc (k0 == 1) (bc (i == IntKind.i64.wrap ((↑ys.length : Int) - 1)) (obind (O.call 82 [V.agg [V.int k, V.int h, V.vec .plain (some 3) xs], V.int (IntKind.i64.wrap (ar +
  1)), V.fn g a b] st) fun r1 => onRet r1.fst (fun v2 => onTup v2 fun c3 => onCons c3 fun v4 c5 => onStruct [CT.int, CT.int, CT.slice (some 3)] v4 fun n6 n7 l8 => onCons c5 fun v9
  c10 => onBool v9 fun b11 => onNil c10 (gcE (List.length st) (V.tup [V.agg [V.int n6, V.int n7, V.vec .plain (some 3) l8], V.bool b11]) r1.snd)) fun p12 => none) (obind (O.call
  82 [V.agg [V.int k, V.int h, V.vec .plain (some 3) xs], V.int ar, V.fn g a b] st) fun r13 => onRet r13.fst (fun v14 => onTup v14 fun c15 => onCons c15 fun v16 c17 =>
  onStruct [CT.int, CT.int, CT.slice (some 3)] v16 fun n18 n19 l20 => onCons c17 fun v21 c22 => onBool v21 fun b23 => onNil c22 (gcE (List.length st) (V.tup [V.agg [V.int n18, V.int
  n19, V.vec .plain (some 3) l20], V.bool b23]) r13.snd)) fun p24 => none)) (bc (k0 == 3) (bc (i == IntKind.i64.wrap ((↑ys.length : Int) - 1)) (obind (O.call 82 [V.agg
  [V.int k, V.int h, V.vec .plain (some 3) xs], V.int (IntKind.i64.wrap (ar + 1)), V.fn g a b] st) fun r25 => onRet r25.fst (fun v26 => onTup v26 fun c27 => onCons c27 fun v28 c29
  => onStruct [CT.int, CT.int, CT.slice (some 3)] v28 fun n30 n31 l32 => onCons c29 fun v33 c34 => onBool v33 fun b35 => onNil c34 (gcE (List.length st) (V.tup [V.agg [V.int n30,
  V.int n31, V.vec .plain (some 3) l32], V.bool b35]) r25.snd)) fun p36 => none) (obind (O.call 82 [V.agg [V.int k, V.int h, V.vec .plain (some 3) xs], V.int ar, V.fn g
  a b] st) fun r37 => onRet r37.fst (fun v38 => onTup v38 fun c39 => onCons c39 fun v40 c41 => onStruct [CT.int, CT.int, CT.slice (some 3)] v40 fun n42 n43 l44 => onCons c41 fun v45
  c46 => onBool v45 fun b47 => onNil c46 (gcE (List.length st) (V.tup [V.agg [V.int n42, V.int n43, V.vec .plain (some 3) l44], V.bool b47]) r37.snd)) fun p48 => none)) (obind
  (O.call 82 [V.agg [V.int k, V.int h, V.vec .plain (some 3) xs], V.int ar, V.fn g a b] st) fun r49 => onRet r49.fst (fun v50 => onTup v50 fun c51 => onCons c51 fun v52
  c53 => onStruct [CT.int, CT.int, CT.slice (some 3)] v52 fun n54 n55 l56 => onCons c53 fun v57 c58 => onBool v57 fun b59 => onNil c58 (gcE (List.length st) (V.tup [V.agg [V.int
  n54, V.int n55, V.vec .plain (some 3) l56], V.bool b59]) r49.snd)) fun p60 => none)) := by kernel_rfl

theorem e_subst_may_1 (O : Oracle) (n0 : Int) (n1 : Int) (l2 : (List V)) : callBody Try.prog cfg O 84 [.agg [.int n0, .int n1, .vec .plain (some 3) l2]] [] =
  obind (pcall O 29 [V.agg [V.int n0, V.int n1, V.vec .plain (some 3) l2]]) fun r1 => onBool r1 fun b2 => some (Out.ret (V.bool !b2), []) := by kernel_rfl

theorem e_subst_fail (O : Oracle) (n0 : Int) (st : St) : callBody Try.prog cfg O 86 [.int n0] st =
  gd (below (List.length st) (V.ifc 29 (V.int n0)) && belowSt (List.length st) (List.take (List.length st) st)) (some (Out.panic (V.ifc 29 (V.int n0)),
  List.take (List.length st) st)) := by kernel_rfl

theorem e_subst_Under (O : Oracle) (l0 : (List V)) (n1 : Int) : callBody Try.prog cfg O 87 [.agg [.vec .plain (some 3) l0, .int n1]] [] =
  obind (O.loop 87 3 [V.int 0, V.loc true (some 2) (V.agg [V.vec Mode.grow (some 3) [], V.int (IntKind.i64.wrap (n1 + 1))]), V.vec .plain (some 3) l0, V.loc true (some 2)
  (V.agg [V.vec Mode.full (some 3) [], V.int 0]), V.int (↑l0.length : Int)] []) fun r1 => onEx r1.fst none none (fun i2 => bc (i2.beq 0) (onCons r1.snd.fst fun v3 c4 => onLoc (some
  2) v3 fun d5 v6 => onCons c4 fun v7 c8 => onLoc (some 2) v7 fun d9 v10 => onAgg v10 fun c11 => onCons c11 fun v12 c13 => onRoom (some 3) v12 fun l14 => onCons c13 fun v15 c16 =>
  onInt v15 fun n17 => onNil c16 (onNil c8 (gd (true && roomFor Try.prog 25 (l14.length + 1)) (gd (below 0 (V.agg [V.vec .plain (some 3) (l14 ++ [V.agg [V.int 4, V.int 0,
  V.vec .plain (some 3) []]]), V.int n17]) && belowSt 0 []) (some (Out.ret (V.agg [V.vec .plain (some 3) (l14 ++ [V.agg [V.int 4, V.int 0, V.vec .plain (some 3) []]]), V.int n17]),
  [])))))) none) fun v18 => none := by kernel_rfl

theorem e_subst_Under_L3 (O : Oracle) (n0 : Int) (l1 : (List V)) (n2 : Int) (l3 : (List V)) (v4 : V) (n5 : Int) : loopBody Try.prog cfg O 87 3 [.int n0, .loc true (some 2) (.agg [.vec .grow (some 3) l1, .int n2]), .vec .plain (some 3) l3, .loc true (some 2) v4, .int n5] [] =
  bc (decide (n0 < n5)) (gd (decide (0 ≤ n0) && decide (n0 < (↑l3.length : Int))) (onStruct [CT.int, CT.int, CT.slice (some 3)] (getI l3 n0) fun n1 n2_1 l3_1 => obind (pcall O
  73 [V.agg [V.int n1, V.int n2_1, V.vec .plain (some 3) l3_1], V.int 1, V.int 0]) fun r4 => onStruct [CT.int, CT.int, CT.slice (some 3)] r4 fun n5_1 n6 l7 => gd (true &&
  roomFor Try.prog 25 (l1.length + [V.agg [V.int n5_1, V.int n6, V.vec .plain (some 3) l7]].length)) (O.2 87 3 [V.int (IntKind.i64.wrap (n0 + 1)), V.loc true
  (some 2) (V.agg [V.vec Mode.grow (some 3) (l1 ++ [V.agg [V.int n5_1, V.int n6, V.vec .plain (some 3) l7]]), V.int n2]), V.vec .plain (some 3) l3, V.loc true (some 2) v4, V.int n5]
  []))) (some (Ex.exit 0, [V.loc true (some 2) v4, V.loc true (some 2) (V.agg [V.vec Mode.grow (some 3) l1, V.int n2])], [])) := by kernel_rfl

theorem e_subst_work_spine (O : Oracle) (r0 : Nat) (n1 : Int) (n2 : Int) (l3 : (List V)) (l4 : (List V)) (st : St) : callBody Try.prog cfg O 88 [.ref r0 0, .agg [.int n1, .int n2, .vec .plain (some 3) l3], .vec .plain (some 3) l4] st =
  bc ((↑l4.length : Int) == 0) (gcE (List.length st) (V.agg [V.int n1, V.int n2, V.vec .plain (some 3) l3]) st) (bc (n1 == 3) (gd (true && decide (0 < (↑l4.length : Int))) (onStruct
  [CT.int, CT.int, CT.slice (some 3)] (getI l4 0) fun n1 n2 l3_1 => obind (pcall O 29 [V.agg [V.int n1, V.int n2, V.vec .plain (some 3) l3_1]]) fun r4 => onBool r4 fun b5 =>
  bc (!b5) (obind (O.call 86 [V.int 4] st) fun r6 => onRet r6.fst (fun v7 => onTup v7 fun c8 => onNil c8 (gd (true && decide (0 < (↑l3.length : Int))) (onStruct [CT.int,
  CT.int, CT.slice (some 3)] (getI l3 0) fun n9 n10 l11 => gd (true && decide (1 ≤ (↑l4.length : Int))) (obind (O.call 78 [V.ref r0 0, V.agg [V.int n9, V.int n10,
  V.vec .plain (some 3) l11], V.agg [V.vec .plain (some 3) (List.drop 0 (List.take 1 l4)), V.int 0]] r6.snd) fun r12 => onRet r12.fst (fun v13 => onStruct [CT.int, CT.int, CT.slice
  (some 3)] v13 fun n14 n15 l16 => gd (true && decide (1 ≤ (↑l4.length : Int)) && decide ((↑l4.length : Int) ≤ (↑l4.length : Int))) (obind (O.call 88 [V.ref r0 0,
  V.agg [V.int n14, V.int n15, V.vec .plain (some 3) l16], V.vec .plain (some 3) (List.drop 1 (List.take (↑l4.length : Int).toNat l4))] r12.snd) fun r17 => onRet r17.fst (fun v18 =>
  onStruct [CT.int, CT.int, CT.slice (some 3)] v18 fun n19 n20 l21 => gcE (List.length st) (V.agg [V.int n19, V.int n20, V.vec .plain (some 3) l21]) r17.snd) fun p22 => gd (below
  (List.length st) p22 && belowSt (List.length st) (List.take (List.length st) r17.snd)) (some (Out.panic p22, List.take (List.length st) r17.snd)))) fun p23 => gd (true && decide
  (1 ≤ (↑l4.length : Int)) && decide ((↑l4.length : Int) ≤ (↑l4.length : Int))) (gd (below (List.length st) p23 && belowSt (List.length st) (List.take (List.length st) r12.snd))
  (some (Out.panic p23, List.take (List.length st) r12.snd))))))) fun p24 => gd (below (List.length st) p24 && belowSt (List.length st) (List.take (List.length st) r6.snd)) (some
  (Out.panic p24, List.take (List.length st) r6.snd))) (gd (true && decide (0 < (↑l3.length : Int))) (onStruct [CT.int, CT.int, CT.slice (some 3)] (getI l3 0) fun n25 n26 l27 => gd
  (true && decide (1 ≤ (↑l4.length : Int))) (obind (O.call 78 [V.ref r0 0, V.agg [V.int n25, V.int n26, V.vec .plain (some 3) l27], V.agg [V.vec .plain (some 3)
  (List.drop 0 (List.take 1 l4)), V.int 0]] st) fun r28 => onRet r28.fst (fun v29 => onStruct [CT.int, CT.int, CT.slice (some 3)] v29 fun n30 n31 l32 => gd (true && decide (1 ≤
  (↑l4.length : Int)) && decide ((↑l4.length : Int) ≤ (↑l4.length : Int))) (obind (O.call 88 [V.ref r0 0, V.agg [V.int n30, V.int n31, V.vec .plain (some 3) l32],
  V.vec .plain (some 3) (List.drop 1 (List.take (↑l4.length : Int).toNat l4))] r28.snd) fun r33 => onRet r33.fst (fun v34 => onStruct [CT.int, CT.int, CT.slice (some 3)] v34 fun n35
  n36 l37 => gcE (List.length st) (V.agg [V.int n35, V.int n36, V.vec .plain (some 3) l37]) r33.snd) fun p38 => gd (below (List.length st) p38 && belowSt (List.length st) (List.take
  (List.length st) r33.snd)) (some (Out.panic p38, List.take (List.length st) r33.snd)))) fun p39 => gd (true && decide (1 ≤ (↑l4.length : Int)) && decide ((↑l4.length : Int) ≤
  (↑l4.length : Int))) (gd (below (List.length st) p39 && belowSt (List.length st) (List.take (List.length st) r28.snd)) (some (Out.panic p39, List.take (List.length st)
  r28.snd)))))))) (bc (n1 == 4) (obind (pcall O 23 [V.vec .plain none [V.vec .plain (some 3) l3, V.vec .plain (some 3) l4]]) fun r40 => onVec (some 3)
  r40 fun l41 => gcE (List.length st) (V.agg [V.int n1, V.int n2, V.vec .plain (some 3) l41]) st) (bc (n1 == 5) (obind (pcall O 23 [V.vec .plain none
  [V.vec .plain (some 3) l3, V.vec .plain (some 3) l4]]) fun r42 => onVec (some 3) r42 fun l43 => gcE (List.length st) (V.agg [V.int n1, V.int n2, V.vec .plain (some 3) l43]) st)
  (bc (n1 == 2) (obind (pcall O 23 [V.vec .plain none [V.vec .plain (some 3) l3, V.vec .plain (some 3) l4]]) fun r44 => onVec (some 3) r44 fun l45 =>
  gcE (List.length st) (V.agg [V.int n1, V.int n2, V.vec .plain (some 3) l45]) st) (obind (O.call 86 [V.int 3] st) fun r46 => onRet r46.fst (fun v47 => onTup v47 fun c48
  => onNil c48 (gcE (List.length st) (V.agg [V.int n1, V.int n2, V.vec .plain (some 3) l3]) r46.snd)) fun p49 => gd (below (List.length st) p49 && belowSt (List.length st)
  (List.take (List.length st) r46.snd)) (some (Out.panic p49, List.take (List.length st) r46.snd))))))) := by kernel_rfl

theorem e_subst_of (O : Oracle) (l0 : (List V)) (n1 : Int) (n2 : Int) : callBody Try.prog cfg O 89 [.agg [.vec .plain (some 3) l0, .int n1], .int n2] [] =
  bc (decide (n2 < (↑l0.length : Int))) (gd (decide (0 ≤ IntKind.i64.wrap (IntKind.i64.wrap ((↑l0.length : Int) - 1) - n2)) && decide (IntKind.i64.wrap (IntKind.i64.wrap
  ((↑l0.length : Int) - 1) - n2) < (↑l0.length : Int))) (onStruct [CT.int, CT.int, CT.slice (some 3)] (getI l0 (IntKind.i64.wrap (IntKind.i64.wrap ((↑l0.length : Int) - 1) - n2)))
  fun n1 n2 l3 => obind (pcall O 34 [V.agg [V.int n1, V.int n2, V.vec .plain (some 3) l3]]) fun r4 => onStruct [CT.int, CT.int, CT.slice (some 3)] r4 fun n5 n6 l7 => gd
  (below 0 (V.agg [V.int n5, V.int n6, V.vec .plain (some 3) l7]) && true) (some (Out.ret (V.agg [V.int n5, V.int n6, V.vec .plain (some 3) l7]), [])))) (some (Out.ret (V.agg [V.int
  4, V.int (IntKind.i64.wrap (IntKind.i64.wrap (n2 - (↑l0.length : Int)) + n1)), V.vec .plain (some 3) []]), [])) := by kernel_rfl

theorem e_slices_Concat_api_Term_api_Term (O : Oracle) (l0 : (List V)) : callBody Try.prog cfg O 23 [.vec .plain none l0] [] =
  obind (O.loop 23 3 [V.int 0, V.int 0, V.vec .plain none l0, V.vec .plain none l0, V.int (↑l0.length : Int)] []) fun r1 => onEx r1.fst none none (fun
  i2 => bc (i2.beq 0) (onCons r1.snd.fst fun v3 c4 => onVec none v3 fun l5 => onCons c4 fun v6 c7 => onInt v6 fun n8 => onNil c7 (gd (decide (0 ≤ n8) && roomFor Try.prog
  25 n8.toNat && true && true && true) (obind (O.loop 23 11 [V.int 0, V.vec Mode.grow (some 3) [], V.vec .plain none l5, V.int (↑l5.length
  : Int)] r1.snd.snd) fun r9 => onEx r9.fst none none (fun i10 => bc (i10.beq 2) (onCons r9.snd.fst fun v11 c12 => onRoom (some 3) v11 fun l13 => onNil c12 (gd (below 0 (V.vec
  .plain (some 3) l13) && belowSt 0 []) (some (Out.ret (V.vec .plain (some 3) l13), [])))) none) fun v14 => none))) none) fun v15 => none := by kernel_rfl

theorem e_slices_Concat_api_Term_api_Term_L3 (O : Oracle) (n0 : Int) (n1 : Int) (l2 : (List V)) (l3 : (List V)) (n4 : Int) : loopBody Try.prog cfg O 23 3 [.int n0, .int n1, .vec .plain none l2, .vec .plain none l3, .int n4] [] =
  bc (decide (n0 < n4)) (gd (decide (0 ≤ n0) && decide (n0 < (↑l2.length : Int))) (onVec (some 3) (getI l2 n0) fun l1 => bc (decide (IntKind.i64.wrap (n1 + (↑l1.length : Int)) < 0))
  (some (Ex.panic (V.ifc 9 (V.str { data := #[108, 101, 110, 32, 111, 117, 116, 32, 111, 102, 32, 114, 97, 110, 103, 101] })), [V.vec .plain none l3, V.int
  (IntKind.i64.wrap (n1 + (↑l1.length : Int)))], [])) (O.2 23 3 [V.int (IntKind.i64.wrap (n0 + 1)), V.int (IntKind.i64.wrap (n1 + (↑l1.length :
  Int))), V.vec .plain none l2, V.vec .plain none l3, V.int n4] []))) (some (Ex.exit 0, [V.vec .plain none l3, V.int n1], [])) := by kernel_rfl

theorem e_slices_Concat_api_Term_api_Term_L11 (O : Oracle) (n0 : Int) (l1 : (List V)) (l2 : (List V)) (n3 : Int) : loopBody Try.prog cfg O 23 11 [.int n0, .vec .grow (some 3) l1, .vec .plain none l2, .int n3] [] =
  bc (decide (n0 < n3)) (gd (decide (0 ≤ n0) && decide (n0 < (↑l2.length : Int))) (onVec (some 3) (getI l2 n0) fun l1_1 => gd (true && roomFor Try.prog 25 (l1.length +
  l1_1.length)) (O.2 23 11 [V.int (IntKind.i64.wrap (n0 + 1)), V.vec Mode.grow (some 3) (l1 ++ l1_1), V.vec .plain none l2, V.int n3] []))) (some
  (Ex.exit 2, [V.vec Mode.grow (some 3) l1], [])) := by kernel_rfl

end Go.Proofs.GT

namespace Go.Proofs.GT
open Go Go.AM
set_option maxRecDepth 20000

theorem e_term_Own (O : Oracle) (n0 : Int) (n1 : Int) (l2 : (List V)) : callBody Try.prog cfg O 34 [.agg [.int n0, .int n1, .vec .plain (some 3) l2]] [] =
  obind (O.loop 34 3 [V.int 0, V.vec Mode.grow (some 3) [], V.vec .plain (some 3) l2, V.loc true (some 3) (V.agg [V.int 0, V.int 0, V.vec Mode.full (some 3) []]), V.loc
  false (some 3) (V.agg [V.int n0, V.int n1, V.vec .plain (some 3) l2]), V.int (↑l2.length : Int)] []) fun r1 => onEx r1.fst none none (fun i2 => bc (i2.beq 0) (onCons r1.snd.fst
  fun v3 c4 => onLoc (some 3) v3 fun d5 v6 => onCons c4 fun v7 c8 => onRoom (some 3) v7 fun l9 => onCons c8 fun v10 c11 => onLoc (some 3) v10 fun d12 v13 => onStruct [CT.int,
  CT.int, CT.slice (some 3)] (bif d12 then cleanV v13 else v13) fun n14 n15 l16 => onNil c11 (gd (below 0 (V.agg [V.int n14, V.int n15, V.vec .plain (some 3) l9]) && belowSt 0 [])
  (some (Out.ret (V.agg [V.int n14, V.int n15, V.vec .plain (some 3) l9]), [])))) none) fun v17 => none := by kernel_rfl

theorem e_term_Own_L3 (O : Oracle) (n0 : Int) (l1 : (List V)) (l2 : (List V)) (v3 : V) (n4 : Int) (n5 : Int) (l6 : (List V)) (n7 : Int) : loopBody Try.prog cfg O 34 3 [.int n0, .vec .grow (some 3) l1, .vec .plain (some 3) l2, .loc true (some 3) v3, .loc false (some 3) (.agg [.int n4, .int n5, .vec .plain (some 3) l6]), .int n7] [] =
  bc (decide (n0 < n7)) (gd (decide (0 ≤ n0) && decide (n0 < (↑l2.length : Int))) (onStruct [CT.int, CT.int, CT.slice (some 3)] (getI l2 n0) fun n1 n2 l3 => obind (pcall O
  34 [V.agg [V.int n1, V.int n2, V.vec .plain (some 3) l3]]) fun r4 => onStruct [CT.int, CT.int, CT.slice (some 3)] r4 fun n5_1 n6 l7 => gd (true && roomFor Try.prog
  25 (l1.length + [V.agg [V.int n5_1, V.int n6, V.vec .plain (some 3) l7]].length)) (O.2 34 3 [V.int (IntKind.i64.wrap (n0 + 1)), V.vec Mode.grow (some 3) (l1 ++
  [V.agg [V.int n5_1, V.int n6, V.vec .plain (some 3) l7]]), V.vec .plain (some 3) l2, V.loc true (some 3) v3, V.loc false (some 3) (V.agg [V.int n4, V.int n5, V.vec .plain (some 3)
  l6]), V.int n7] []))) (some (Ex.exit 0, [V.loc true (some 3) v3, V.vec Mode.grow (some 3) l1, V.loc false (some 3) (V.agg [V.int n4, V.int n5, V.vec .plain (some 3) l6])], [])) := by kernel_rfl

end Go.Proofs.GT

/-! What is renumbered; what is substituted. -/
namespace Go.Ama
open Go Go.AM

/-- A variable by so many greater. -/
def upV (b f ar h : Int) : Int := if f + ar ≤ h then IntKind.i64.wrap (h + b) else h
def bindsB (k : Int) : Bool := decide (k = 1) || decide (k = 3)
mutual
def upT (b f ar : Int) : T → T
  | .mk k h as_ => .mk k (if k = 4 then upV b f ar h else h) (ups b f ar (bindsB k) as_)
def ups (b f ar : Int) (bd : Bool) : List T → List T
  | [] => []
  | a :: as_ => upT b f (if bd && as_.isEmpty then ar + 1 else ar) a :: ups b f ar bd as_
end
theorem ups_length (b f ar : Int) (bd : Bool) : ∀ l, (ups b f ar bd l).length = l.length
  | [] => rfl
  | a :: as_ => by simp only [ups, List.length_cons, ups_length b f ar bd as_]
theorem ups_get (b f ar : Int) (bd : Bool) : ∀ (l : List T) (i : Nat) (h : i < l.length), (ups b f ar bd l)[i]'(by rw [ups_length]; exact h) = upT b f (if bd && decide (i + 1 = l.length) then ar + 1 else ar) l[i]
  | a :: as_, 0, h => by
    cases as_ with
    | nil => simp [ups]
    | cons c cs => simp [ups]
  | a :: as_, i + 1, h => by
    simp only [ups, List.getElem_cons_succ]
    rw [ups_get b f ar bd as_ i (by simpa using h)]
    simp
mutual
theorem up_size (b f : Int) : ∀ (t : T) (ar : Int), (upT b f ar t).size = t.size
  | .mk k h as_, ar => by simp only [upT, T.size]; rw [ups_sizes b f as_ ar]
theorem ups_sizes (b f : Int) : ∀ (l : List T) (ar : Int) {bd : Bool}, sizes (ups b f ar bd l) = sizes l
  | [], ar, bd => rfl
  | a :: as_, ar, bd => by simp only [ups, sizes]; rw [up_size b f a, ups_sizes b f as_]
end
theorem depth_le : ∀ {ts : List T} {t : T}, t ∈ ts → t.depth ≤ depths ts
  | a :: as_, t, h => by
    simp only [depths]
    rcases List.mem_cons.1 h with rfl | h
    · omega
    · have := depth_le h; omega
/-- shift.Up: what may not be renumbered stays as_ it is. -/
def upP (t : T) (b f : Int) : T := if may t && (decide (0 ≤ b) && (decide (b ≤ 1048576) && (decide (0 ≤ f) && decide (f ≤ 1048576)))) then upT b f 0 t else t

theorem upP_size (t : T) (b f : Int) : (upP t b f).size = t.size := by
  unfold upP; split
  · exact up_size b f t 0
  · rfl

/-- A substitution below a node that binds. -/
def underL (l : List T) : List T := l.map (fun t => upP t 1 0) ++ [.mk 4 0 []]
def underS (s : Int) : Int := IntKind.i64.wrap (s + 1)
/-- What a variable is mapped to. -/
def ofT (l : List T) (s i : Int) : T := if i < l.length then l.getD (l.length - 1 - i.toNat) (.mk 0 0 []) else .mk 4 (IntKind.i64.wrap (IntKind.i64.wrap (i - l.length) + s)) []

inductive Job where
  | ap (n : Nat) (t : T) (l : List T) (s : Int)
  | ar (n : Nat) (bd : Bool) (ts : List T) (l : List T) (s : Int)
  | sp (n : Nat) (t : T) (as_ : List T)
inductive Oj where
  | t (t : T) (n : Nat)
  | l (ts : List T) (n : Nat)
  | e (e : Int)

/-- What is done to a substitution's list, ahead of an arg. -/
def belowL' (bd : Bool) (as_ : List T) (l : List T) : List T := if bd && as_.isEmpty then underL l else l
def belowS' (bd : Bool) (as_ : List T) (s : Int) : Int := if bd && as_.isEmpty then underS s else s

/-- Substituting, with how many nodes were gone to. -/
inductive Big : Job → Oj → Prop where
  | apLimit {n : Nat} {t : T} {l : List T} {s : Int} (h : 40000 < n + 1) (hn : n ≤ 40001) : Big (.ap n t l s) (.e 4)
  | apErr {n : Nat} {t : T} {l : List T} {s : Int} {e : Int} (h : n + 1 ≤ 40000) (ht : t.size ≤ 1099511627776) (b : Big (.ar (n + 1) (bindsB t.k) t.args l s) (.e e)) : Big (.ap n t l s) (.e e)
  | apNode {n : Nat} {t : T} {l : List T} {s : Int} {as_ : List T} {m : Nat} (h : n + 1 ≤ 40000) (ht : t.size ≤ 1099511627776) (hk : t.k ≠ 4) (b : Big (.ar (n + 1) (bindsB t.k) t.args l s) (.l as_ m)) : Big (.ap n t l s) (.t (.mk t.k t.h as_) m)
  | apVar {n : Nat} {t : T} {l : List T} {s : Int} {as_ : List T} {m : Nat} {o : Oj} (h : n + 1 ≤ 40000) (ht : t.size ≤ 1099511627776) (hl : sizes l ≤ 1099511627776) (hk : t.k = 4) (h0 : 0 ≤ t.h) (h1 : I64 t.h) (b : Big (.ar (n + 1) (bindsB t.k) t.args l s) (.l as_ m)) (c : Big (.sp m (ofT l s t.h) as_) o) : Big (.ap n t l s) o
  | arNil {n : Nat} {bd : Bool} {l : List T} {s : Int} : Big (.ar n bd [] l s) (.l [] n)
  | arErr {n : Nat} {bd : Bool} {a : T} {as_ l : List T} {s : Int} {e : Int} (hl : sizes l ≤ 1099511627776) (b : Big (.ap n a (belowL' bd as_ l) (belowS' bd as_ s)) (.e e)) : Big (.ar n bd (a :: as_) l s) (.e e)
  | arErr2 {n m : Nat} {bd : Bool} {a a' : T} {as_ l : List T} {s : Int} {e : Int} (hl : sizes l ≤ 1099511627776) (b : Big (.ap n a (belowL' bd as_ l) (belowS' bd as_ s)) (.t a' m)) (c : Big (.ar m bd as_ l s) (.e e)) : Big (.ar n bd (a :: as_) l s) (.e e)
  | arCons {n m k : Nat} {bd : Bool} {a a' : T} {as_ as' l : List T} {s : Int} (hl : sizes l ≤ 1099511627776) (b : Big (.ap n a (belowL' bd as_ l) (belowS' bd as_ s)) (.t a' m)) (c : Big (.ar m bd as_ l s) (.l as' k)) : Big (.ar n bd (a :: as_) l s) (.l (a' :: as') k)
  | spNil {n : Nat} {t : T} : Big (.sp n t []) (.t t n)
  | spMay {n : Nat} {t a : T} {as_ : List T} (hk : t.k = 3) (ha : a.size ≤ 1099511627776) (hm : may a = false) : Big (.sp n t (a :: as_)) (.e 4)
  | spErr {n : Nat} {t a b0 : T} {r as_ : List T} {e : Int} (hk : t.k = 3) (ha : a.size ≤ 1099511627776) (hm : may a = true) (hb : t.args = b0 :: r) (b : Big (.ap n b0 [a] 0) (.e e)) : Big (.sp n t (a :: as_)) (.e e)
  | spLam {n m : Nat} {t a b0 u : T} {r as_ : List T} {o : Oj} (hk : t.k = 3) (ha : a.size ≤ 1099511627776) (hm : may a = true) (hb : t.args = b0 :: r) (b : Big (.ap n b0 [a] 0) (.t u m)) (c : Big (.sp m u as_) o) : Big (.sp n t (a :: as_)) o
  | spApp {n : Nat} {t a : T} {as_ : List T} (hk : t.k = 2 ∨ t.k = 4 ∨ t.k = 5) (hs : t.args.length + as_.length ≤ 1099511627776) : Big (.sp n t (a :: as_)) (.t (.mk t.k t.h (t.args ++ a :: as_)) n)
  | spType {n : Nat} {t a : T} {as_ : List T} (h3 : t.k ≠ 3) (h2 : t.k ≠ 2) (h4 : t.k ≠ 4) (h5 : t.k ≠ 5) : Big (.sp n t (a :: as_)) (.e 3)
end Go.Ama

/-! Texts that are read, as_ plain Lean: tokens to terms and declarations. -/
namespace Go.Ama
open Go.AM (T)

structure D where
  name : Bytes
  t : T

/-- What is left, what is declared, what went wrong. -/
structure PS where
  l : List Tok
  s : List D
  e : Int

abbrev T0 : T := .mk 0 0 []
abbrev typ : Bytes := [116, 121, 112, 101]

def PS.fail (n : Int) (s : PS) : PS := if s.e = 0 then { s with e := n } else s
def PS.is (c : Bytes) (s : PS) : Bool := decide (s.e = 0) && match s.l with | [] => false | t :: _ => decide (t.1 = 1) && decide (t.2 = c)
def PS.named (s : PS) : Bool := decide (s.e = 0) && match s.l with | [] => false | t :: _ => decide (t.1 = 0)
def PS.token (b : Bool) (s : PS) : Bytes × PS := if b then match s.l with | [] => ([], s) | t :: r => (t.2, { s with l := r }) else ([], s.fail 8)
def PS.take (c : Bytes) (s : PS) : PS := (s.token (s.is c)).2
def PS.name (s : PS) : Bytes × PS := s.token s.named

/-- How many bind within the one of that name. -/
def back (x : Bytes) : List Bytes → Option Nat
  | [] => none
  | y :: l => if y = x then some 0 else (back x l).map (· + 1)
/-- Which declaration has a name. -/
def idx (x : Bytes) : List D → Option Nat
  | [] => none
  | d :: l => if d.name = x then some 0 else (idx x l).map (· + 1)
/-- What a name is. Bound names: the last one stands ahead. -/
def PS.head (x : Bytes) (bs : List Bytes) (s : PS) : T × PS :=
  match back x bs with
  | some i => (.mk 4 i [], s)
  | none =>
    match idx x s.s with
    | none => (T0, s.fail 2)
    | some i => (.mk (if (split ((s.s.map (·.t)).getD i T0)).2.k = 0 then 2 else 5) i [], s)
def PS.alone (s : PS) : PS := if s.named || s.is [40] then s.fail 8 else s

section
variable (term : List Bytes → PS → T × PS)
def PS.inner (bs : List Bytes) (s : PS) : T × PS := let r := term bs (s.take [40]); (r.1, r.2.take [41])
def PS.atom (bs : List Bytes) (s : PS) : T × PS :=
  if s.is [40] then s.inner term bs
  else
    let r := s.name
    if r.1 = typ then (T0, r.2.fail 8) else r.2.head r.1 bs
def PS.args (bs : List Bytes) : Nat → PS → List T × PS
  | 0, s => ([], s)
  | m + 1, s => if s.named || s.is [40] then
      let r := s.atom term bs
      let q := PS.args bs m r.2
      (r.1 :: q.1, q.2)
    else ([], s)
def PS.atoms (bs : List Bytes) (s : PS) : T × PS :=
  if s.is [40] then
    let r := s.inner term bs
    (r.1, r.2.alone)
  else
    let r := s.name
    if r.2.e ≠ 0 then (T0, r.2)
    else if r.1 = typ then (T0, r.2.alone)
    else
      let h := r.2.head r.1 bs
      let q := PS.args term bs h.2.l.length h.2
      (.mk h.1.k h.1.h q.1, q.2)
end
/-- A term, by how much deeper it may be. -/
def PS.term : Nat → List Bytes → PS → T × PS
  | 0, _, s => (T0, s.fail 4)
  | n + 1, bs, s =>
    if s.is [123] then
      let x := (s.take [123]).name
      let a := PS.term n bs (x.2.take [58])
      let b := PS.term n (x.1 :: bs) (a.2.take [125])
      (.mk 1 0 [a.1, b.1], b.2)
    else if s.is [91] then
      let x := (s.take [91]).name
      let b := PS.term n (x.1 :: bs) (x.2.take [93])
      (.mk 3 0 [b.1], b.2)
    else s.atoms (PS.term n) bs
def PS.whole (s : PS) : T × PS :=
  let r := s.term 120 []
  (r.1, if may r.1 then r.2 else r.2.fail 4)
/-- What may be declared. -/
def nameOK (x : Bytes) : Bool := decide (x.length ≠ 0) && decide (x.length ≤ 40) && decide (x.head? ≠ some 95) && decide (x ≠ typ) && decide (toks x = some [(0, x)])
def PS.decl (s : PS) : PS :=
  let x := s.name
  let s2 := if !nameOK x.1 || (idx x.1 x.2.s).isSome then x.2.fail 8 else x.2
  let t := (s2.take [58]).whole
  let s3 := t.2.take [46]
  { s3 with s := s3.s ++ [⟨x.1, t.1⟩] }
def PS.decls : Nat → PS → PS
  | 0, s => s
  | m + 1, s => if s.l ≠ [] ∧ s.e = 0 then (if s.s.length ≥ 40 then s.fail 4 else PS.decls m s.decl) else s
def lexR (b : Bytes) : List Tok × Int := if b.length > 20000 then ([], 4) else match toks b with | some l => (l, 0) | none => ([], 8)
/-- The declarations of a text, or what is wrong with it. -/
def declsOf (b : Bytes) : List D × Int :=
  let x := lexR b
  let r := PS.decls (x.1.length) ⟨x.1, [], x.2⟩
  if r.e ≠ 0 then ([], r.e) else (r.s, 0)
def termOf (b : Bytes) (sig : List D) : T × Int :=
  let x := lexR b
  let r := (PS.mk x.1 sig x.2).whole
  let s := if r.2.l ≠ [] then r.2.fail 8 else r.2
  if s.e ≠ 0 then (T0, s.e) else (r.1, 0)
end Go.Ama

/-! Declarations and names as_ tree values. -/
namespace Go.Ama
open Go Go.AM

def encD (d : D) : V := .agg [.str (ba d.name), .int d.t.k, .int d.t.h, .vec .plain (some 3) (encs d.t.args)]
def encDs (l : List D) : List V := l.map encD
def encS (l : List Bytes) : List V := l.map fun b => .str (ba b)
@[simp] theorem encDs_length (l : List D) : (encDs l).length = l.length := by simp [encDs]
@[simp] theorem encDs_nil : encDs [] = [] := rfl
@[simp] theorem encS_length (l : List Bytes) : (encS l).length = l.length := by simp [encS]
theorem encDs_append (a b : List D) : encDs (a ++ b) = encDs a ++ encDs b := by simp [encDs]
theorem encS_append (a b : List Bytes) : encS (a ++ b) = encS a ++ encS b := by simp [encS]
theorem encDs_take (l : List D) (n : Nat) : (encDs l).take n = encDs (l.take n) := by simp [encDs, List.map_take]
theorem encToks_drop (l : List Tok) (n : Nat) : (encToks l).drop n = encToks (l.drop n) := by simp [encToks, List.map_drop]
theorem encToks_take (l : List Tok) (n : Nat) : (encToks l).take n = encToks (l.take n) := by simp [encToks, List.map_take]
theorem getI_encDs {l : List D} {i : Nat} (h : i < l.length) : getI (encDs l) (i : Int) = encD l[i] := by
  simp [getI, encDs, List.getD_eq_getElem?_getD, List.getElem?_map, h]
theorem getI_encS {l : List Bytes} {i : Nat} (h : i < l.length) : getI (encS l) (i : Int) = .str (ba l[i]) := by
  simp [getI, encS, List.getD_eq_getElem?_getD, List.getElem?_map, h]
theorem below_encD (n : Nat) (d : D) : below n (encD d) = true := by simp [encD, below, belowL, below_encs]
theorem below_encDs (n : Nat) : ∀ l : List D, belowL n (encDs l) = true
  | [] => rfl
  | d :: l => by
    have := below_encDs n l
    simp only [encDs] at this
    simp [encDs, belowL, below_encD, this]
theorem onStruct_encD {R : Type} (d : D) (K : ByteArray → Int → Int → List V → Option R) : onStruct (R := R) [CT.str, CT.int, CT.int, CT.slice (some 3)] (encD d) K = K (ba d.name) d.t.k d.t.h (encs d.t.args) := rfl
def boxP (m : AM.Mode) (s : PS) : Res := .box [.vec .plain (some 2) (encToks s.l), .vec m (some 4) (encDs s.s), .int s.e]
end Go.Ama

/-! Words that simp takes. -/
namespace Go.Ama
open Go Go.AM
section
variable {R : Type}
@[simp] theorem onT3 (a b : Int) (l : List V) (K : Int → Int → List V → Option R) : onStruct (R := R) [CT.int, CT.int, CT.slice (some 3)] (.agg [.int a, .int b, .vec .plain (some 3) l]) K = K a b l := rfl
@[simp] theorem onTe (t : T) (K : Int → Int → List V → Option R) : onStruct (R := R) [CT.int, CT.int, CT.slice (some 3)] (enc t) K = K t.k t.h (encs t.args) := by cases t; rfl
@[simp] theorem onC3 (a b : Int) (l : List V) (K : Int → Int → List V → Option R) : onCells (R := R) [CT.int, CT.int, CT.slice (some 3)] [.int a, .int b, .vec .plain (some 3) l] K = K a b l := rfl
@[simp] theorem onTok (t : Tok) (K : Int → ByteArray → Option R) : onStruct (R := R) [CT.int, CT.str] (encTok t) K = K t.1 (ba t.2) := rfl
@[simp] theorem onD4 (s : ByteArray) (a b : Int) (l : List V) (K : ByteArray → Int → Int → List V → Option R) : onStruct (R := R) [CT.str, CT.int, CT.int, CT.slice (some 3)] (.agg [.str s, .int a, .int b, .vec .plain (some 3) l]) K = K s a b l := rfl
@[simp] theorem onDe (d : D) (K : ByteArray → Int → Int → List V → Option R) : onStruct (R := R) [CT.str, CT.int, CT.int, CT.slice (some 3)] (encD d) K = K (ba d.name) d.t.k d.t.h (encs d.t.args) := rfl
@[simp] theorem onDt (d : D) (K : Int → Int → List V → Option R) : onAgg (encD d) (fun c => gd (decide (4 ≤ c.length)) (onCells (R := R) [CT.int, CT.int, CT.slice (some 3)] (List.take 3 (List.drop 1 c)) K)) = K d.t.k d.t.h (encs d.t.args) := rfl
@[simp] theorem onDn (d : D) (K : ByteArray → Option R) : onAgg (encD d) (fun c => gd (decide (1 ≤ c.length)) (onStr (AM.partOf c 0 none) K)) = K (ba d.name) := rfl
@[simp] theorem getI_0 (v : V) (l : List V) : getI (v :: l) 0 = v := rfl
@[simp] theorem bc_self (b : Bool) (x : Option R) : bc b x x = x := by cases b <;> rfl
@[simp] theorem T_args_mk (k h : Int) (l : List T) : (T.mk k h l).args = l := rfl
@[simp] theorem T_k_mk (k h : Int) (l : List T) : (T.mk k h l).k = k := rfl
@[simp] theorem T_h_mk (k h : Int) (l : List T) : (T.mk k h l).h = h := rfl
@[simp] theorem onTk (t : Tok) (K : Int → Option R) : onAgg (encTok t) (fun c => gd (decide (1 ≤ c.length)) (onInt (AM.partOf c 0 none) K)) = K t.1 := rfl
@[simp] theorem onTx (t : Tok) (K : ByteArray → Option R) : onAgg (encTok t) (fun c => gd (decide (2 ≤ c.length)) (onStr (AM.partOf c 1 none) K)) = K (ba t.2) := rfl
@[simp] theorem getR_0 (x : Res) (st : St) (K : Res → Option R) : getR (x :: st) 0 K = K x := rfl
@[simp] theorem getR_1 (x y : Res) (st : St) (K : Res → Option R) : getR (x :: y :: st) 1 K = K y := rfl
@[simp] theorem onBoxP (m : AM.Mode) (s : PS) (K : List V → Option R) : onBox (boxP m s) K = K [.vec .plain (some 2) (encToks s.l), .vec m (some 4) (encDs s.s), .int s.e] := rfl
@[simp] theorem cl0 (sh : Sh) (l : List V) (b c : V) : cleanV (AM.partOf [.vec .plain sh l, b, c] 0 none) = .vec .plain sh l := rfl
@[simp] theorem cl1 (sh : Sh) (m : AM.Mode) (l : List V) (a c : V) : cleanV (AM.partOf [a, .vec m sh l, c] 1 none) = .vec .plain sh l := by cases m <;> rfl
@[simp] theorem cl2 (a b : V) (n : Int) : cleanV (AM.partOf [a, b, .int n] 2 none) = .int n := rfl
@[simp] theorem setCells0 (a b c d : V) : setCells [a, b, c] 0 [d] = [d, b, c] := rfl
@[simp] theorem setCells1 (a b c d : V) : setCells [a, b, c] 1 [d] = [a, d, c] := rfl
@[simp] theorem setCells2 (a b c d : V) : setCells [a, b, c] 2 [d] = [a, b, d] := rfl
@[simp] theorem getI_tok (t : Tok) (r : List Tok) : getI (encToks (t :: r)) 0 = encTok t := rfl
@[simp] theorem encToks_cons (t : Tok) (r : List Tok) : encToks (t :: r) = encTok t :: encToks r := rfl
@[simp] theorem take_toks (r : List Tok) : (encToks r).take r.length = encToks r := by rw [← encToks_length r, List.take_length]
@[simp] theorem take_toks1 (t : V) (r : List Tok) : (t :: encToks r).take (r.length + 1) = t :: encToks r := by rw [List.take_succ_cons, take_toks]
@[simp] theorem onDt' (d : D) (K : Int → Int → List V → Option R) : onAgg (encD d) (fun c => gd (decide (4 ≤ c.length)) (onCells (R := R) [CT.int, CT.int, CT.slice (some 3)] (List.take 3 c.tail) K)) = K d.t.k d.t.h (encs d.t.args) := rfl
@[simp] theorem typ_lit1 (x : Bytes) : ((ba x).toList == [116, 121, 112, 101]) = decide (x = typ) := by rw [ba_toList]; by_cases h : x = typ <;> simp_all [typ]
@[simp] theorem typ_lit2 (x : Bytes) : ((ba x).toList == ByteArray.toList { data := #[116, 121, 112, 101] }) = decide (x = typ) := ba_eq x typ
@[simp] theorem lit40 : V.str { data := #[40] } = V.str (ba [40]) := rfl
@[simp] theorem lit41 : V.str { data := #[41] } = V.str (ba [41]) := rfl
@[simp] theorem lit46 : V.str { data := #[46] } = V.str (ba [46]) := rfl
@[simp] theorem lit58 : V.str { data := #[58] } = V.str (ba [58]) := rfl
@[simp] theorem lit91 : V.str { data := #[91] } = V.str (ba [91]) := rfl
@[simp] theorem lit93 : V.str { data := #[93] } = V.str (ba [93]) := rfl
@[simp] theorem lit123 : V.str { data := #[123] } = V.str (ba [123]) := rfl
@[simp] theorem lit125 : V.str { data := #[125] } = V.str (ba [125]) := rfl
@[simp] theorem litN : V.str { data := #[] } = V.str (ba []) := rfl
@[simp] theorem onEncF (t : T) (K : Int → Int → Option R) : onStruct (R := R) [CT.int, CT.int, CT.nil (some 3)] (.agg [.int t.k, .int t.h, .vec .full (some 3) []]) K = K t.k t.h := rfl
@[simp] theorem one_le_s (n : Nat) : (1 : Int) ≤ n + 1 := by omega
@[simp] theorem zero_lt_s (n : Nat) : (0 : Int) < n + 1 := by omega
@[simp] theorem succ_ne_z (n : Nat) : ¬ ((n : Int) + 1 = 0) := by omega
@[simp] theorem toNat_s (n : Nat) : ((n : Int) + 1).toNat = n + 1 := by omega
end
end Go.Ama

/-! Terms once more; terms renumbered. -/
namespace Go.Proofs.GT
open Go Go.AM Go.Ama

theorem pown_spec : ∀ t : T, t.size ≤ 1099511627776 → Ev 34 [enc t] (enc t) := by
  intro t
  induction t using T.ind with
  | _ k h xs ih =>
    intro hs
    simp only [T.size] at hs
    have hlen := length_le_sizes xs
    unfold Ev
    rw [C, enc, e_term_Own]
    have hl := count_loop (n := xs.length) (L := fun i => W.loop 34 3 [V.int (i : Nat), V.vec .grow (some 3) (encs (xs.take i)), V.vec .plain (some 3) (encs xs), V.loc true (some 3) (V.agg [V.int 0, V.int 0, V.vec Mode.full (some 3) []]), V.loc false (some 3) (V.agg [V.int k, V.int h, V.vec .plain (some 3) (encs xs)]), V.int xs.length] [])
      (r := some (Ex.exit 0, [V.loc true (some 3) (V.agg [V.int 0, V.int 0, V.vec Mode.full (some 3) []]), V.vec .grow (some 3) (encs xs), V.loc false (some 3) (V.agg [V.int k, V.int h, V.vec .plain (some 3) (encs xs)])], []))
      (fun i hi => by
        have hp := (ih xs[i] (List.getElem_mem hi) (by have := size_le (List.getElem_mem hi); omega)).p
        have hr : roomFor Try.prog 25 (i + 1) = true := room24 (by omega)
        show W.loop _ _ _ _ = _
        rw [L, e_term_Own_L3]
        simp only [encs_length, getI_encs hi, onStruct_enc, ← enc_eta, hp, obind, encs_take_succ hi]
        rw [wrap_id ⟨by omega, by omega⟩]
        have hmin : min i xs.length = i := by omega
        have hlt : decide ((i : Int) < xs.length) = true := by simp; omega
        have h0 : decide ((0 : Int) ≤ i) = true := by simp
        simp only [hlt, h0, bc_true, gd_true, Bool.and_self, onCells_slice', onCells_nil', List.length_singleton, List.length_take, hmin, hr, encs_length, Bool.true_and, Int.natCast_add, Int.natCast_one])
      (by
        have hlt : decide ((xs.length : Int) < xs.length) = false := by simp
        show W.loop _ _ _ _ = _
        rw [L, e_term_Own_L3, hlt, List.take_length]; rfl)
    have hl' : W.loop 34 3 [V.int 0, V.vec .grow (some 3) [], V.vec .plain (some 3) (encs xs), V.loc true (some 3) (V.agg [V.int 0, V.int 0, V.vec Mode.full (some 3) []]), V.loc false (some 3) (V.agg [V.int k, V.int h, V.vec .plain (some 3) (encs xs)]), V.int xs.length] [] = some (Ex.exit 0, [V.loc true (some 3) (V.agg [V.int 0, V.int 0, V.vec Mode.full (some 3) []]), V.vec .grow (some 3) (encs xs), V.loc false (some 3) (V.agg [V.int k, V.int h, V.vec .plain (some 3) (encs xs)])], []) := hl
    simp only [encs_length, hl', obind_some', onEx_exit, onCons_cons, onLoc_loc, onRoom_grow, onNil_nil, cond_false, onStruct_agg, onCells_slice', onCells_int', onCells_nil', below, belowL, belowSt, below_encs, Bool.and_self, gd_true]
    rfl

theorem up_spec (b f h ar : Int) (h1 : I64 (f + ar)) : Ev 83 [.agg [.int b, .int f], .int h, .int ar] (.tup [.int (upV b f ar h), .bool true]) := by
  unfold Ev
  rw [C, e_shift_renumber_up]
  rw [wrap_id h1]
  unfold upV
  by_cases hc : f + ar ≤ h
  · have : decide (h ≥ f + ar) = true := by simpa using hc
    simp [hc, bc_true]
  · have : decide (h ≥ f + ar) = false := by simpa using hc
    simp [hc]

/-- What shift.change is given. -/
abbrev upF (b f : Int) : V := .fn 83 [.agg [.int b, .int f]] []
theorem pure_up : cfg.pure 83 = true := by kernel_rfl
theorem pure_change1 : cfg.pure 92 = false := by kernel_rfl

theorem change_spec (b f : Int) (hf : 0 ≤ f ∧ f ≤ 1048576) : ∀ (t : T) (ar : Int) (st : St), t.size ≤ 1099511627776 → 0 ≤ ar → ar + t.depth ≤ 1099511627776 →
    W.call 82 [enc t, .int ar, upF b f] st = some (.ret (.tup [enc (upT b f ar t), .bool true]), st) := by
  intro t
  induction t using T.ind with
  | _ k h xs ih =>
    intro ar st hs h0 hd
    simp only [T.size, T.depth] at hs hd
    have hlen := length_le_sizes xs
    have hdep : ∀ x ∈ xs, x.depth ≤ depths xs := fun x hx => depth_le hx
    -- one of the list
    have h1 : ∀ (i : Nat) (hi : i < xs.length), W.call 92 [.int (i : Int), enc xs[i], .cptr none (.int ar), .cptr (some 3) (.agg [.int k, .int h, .vec .plain (some 3) (encs xs)]), .cptr none (upF b f)] st =
        some (.ret (.tup [enc (upT b f (if bindsB k && decide (i + 1 = xs.length) then ar + 1 else ar) xs[i]), .bool true]), st) := by
      intro i hi
      have hx := List.getElem_mem hi
      have hsz := size_le hx
      have hdx := hdep _ hx
      have c1 := ih xs[i] hx (ar + 1) st (by omega) (by omega) (by omega)
      have c0 := ih xs[i] hx ar st (by omega) h0 (by omega)
      rw [C, enc_eta xs[i], e_shift_change_1]
      rw [encs_length, wrap_id (n := ar + 1) ⟨by omega, by omega⟩, wrap_id (n := (xs.length : Int) - 1) ⟨by omega, by omega⟩, ← enc_eta]
      have hlast : ((i : Int) == (xs.length : Int) - 1) = decide (i + 1 = xs.length) := by rw [beq_int]; congr 1; apply propext; omega
      rw [hlast]
      unfold bindsB
      simp only [beq_int]
      by_cases k1 : k = 1
      · by_cases hl : i + 1 = xs.length
        · simp [k1, hl, c1, gcE_len, ← enc_eta]
        · simp [k1, hl, c0, gcE_len, ← enc_eta]
      · by_cases k3 : k = 3
        · by_cases hl : i + 1 = xs.length
          · simp [k3, hl, c1, gcE_len, ← enc_eta]
          · simp [k3, hl, c0, gcE_len, ← enc_eta]
        · simp [k1, k3, c0, gcE_len, ← enc_eta]
    have hul : (ups b f ar (bindsB k) xs).length = xs.length := ups_length ..
    have hl := count_loop (n := xs.length) (L := fun i => W.loop 91 3 [V.int (i : Nat), V.vec .grow (some 3) (encs ((ups b f ar (bindsB k) xs).take i)), .fn 92 [] [.cptr none (.int ar), .cptr (some 3) (.agg [.int k, .int h, .vec .plain (some 3) (encs xs)]), .cptr none (upF b f)], V.vec .plain (some 3) (encs xs), V.int xs.length] st)
      (r := some (Ex.exit 0, [V.vec .grow (some 3) (encs (ups b f ar (bindsB k) xs))], st))
      (fun i hi => by
        have hp := h1 i hi
        have hr : roomFor Try.prog 25 (i + 1) = true := room24 (by omega)
        have hi' : i < (ups b f ar (bindsB k) xs).length := by rw [hul]; exact hi
        show W.loop _ _ _ _ = _
        rw [L, e_shift_each_api_Term_L3, encs_take_succ hi', ups_get b f ar (bindsB k) xs i hi]
        rw [wrap_id ⟨by omega, by omega⟩]
        have hmin : min i xs.length = i := by omega
        have hlt : decide ((i : Int) < xs.length) = true := by simp; omega
        have h0 : decide ((0 : Int) ≤ i) = true := by simp
        simp [hlt, getI_encs hi, pure_change1, ← enc_eta, hp, hr, hmin, hul, h0, hi])
      (by
        have hlt : decide ((xs.length : Int) < xs.length) = false := by simp
        show W.loop _ _ _ _ = _
        rw [L, e_shift_each_api_Term_L3, hlt, List.take_of_length_le (by omega)]; rfl)
    have hl' : W.loop 91 3 [V.int 0, V.vec .grow (some 3) [], .fn 92 [] [.cptr none (.int ar), .cptr (some 3) (.agg [.int k, .int h, .vec .plain (some 3) (encs xs)]), .cptr none (upF b f)], V.vec .plain (some 3) (encs xs), V.int xs.length] st = some (Ex.exit 0, [V.vec .grow (some 3) (encs (ups b f ar (bindsB k) xs))], st) := hl
    have he : W.call 91 [.vec .plain (some 3) (encs xs), .fn 92 [] [.cptr none (.int ar), .cptr (some 3) (.agg [.int k, .int h, .vec .plain (some 3) (encs xs)]), .cptr none (upF b f)]] st = some (.ret (.tup [.vec .plain (some 3) (encs (ups b f ar (bindsB k) xs)), .bool true]), st) := by
      rw [C, e_shift_each_api_Term]
      simp [hl', gcE_len]
    rw [C, enc, e_shift_change]
    by_cases k4 : k = 4
    · have hu := (up_spec b f h ar ⟨by omega, by omega⟩).p
      simp [k4, pure_up, hu, gcE_len, upT, enc] at he ⊢
      simp [he, gcE_len]
    · simp [k4, he, gcE_len, upT, enc]
end Go.Proofs.GT

/-! Substituting comes to an end. -/
namespace Go.Ama
open Go Go.AM

mutual
/-- Heads from 0 up to a bound; what binds has something below it. -/
def okB (B : Int) : T → Prop
  | .mk k h ys => (0 ≤ h ∧ h ≤ B) ∧ (k = 3 → ys ≠ []) ∧ okBs B ys
def okBs (B : Int) : List T → Prop
  | [] => True
  | a :: ys => okB B a ∧ okBs B ys
end
theorem okBs_iff (B : Int) : ∀ l, okBs B l ↔ ∀ x ∈ l, okB B x
  | [] => by simp [okBs]
  | a :: l => by simp [okBs, okBs_iff B l]
mutual
theorem okB_mono {B B' : Int} (h : B ≤ B') : ∀ t, okB B t → okB B' t
  | .mk k hd ys, ⟨h1, h2, h3⟩ => ⟨⟨h1.1, by omega⟩, h2, okBs_mono h ys h3⟩
theorem okBs_mono {B B' : Int} (h : B ≤ B') : ∀ l, okBs B l → okBs B' l
  | [], _ => trivial
  | a :: l, ⟨h1, h2⟩ => ⟨okB_mono h a h1, okBs_mono h l h2⟩
end
mutual
theorem okB_up {B : Int} (hB : B ≤ 9223372036854775000) (f : Int) : ∀ (t : T) (ar : Int), okB B t → okB (B + 1) (upT 1 f ar t)
  | .mk k hd ys, ar, ⟨h1, h2, h3⟩ => by
    simp only [upT, okB]
    refine ⟨?_, ?_, okBs_up hB f ys ar h3⟩
    · split
      · unfold upV
        split
        · rw [wrap_id ⟨by omega, by omega⟩]; omega
        · omega
      · omega
    · intro hk e
      have := congrArg List.length e
      rw [ups_length] at this
      exact h2 hk (List.length_eq_zero_iff.1 (by simpa using this))
theorem okBs_up {B : Int} (hB : B ≤ 9223372036854775000) (f : Int) : ∀ (l : List T) (ar : Int) {bd : Bool}, okBs B l → okBs (B + 1) (ups 1 f ar bd l)
  | [], ar, bd, _ => trivial
  | a :: l, ar, bd, ⟨h1, h2⟩ => by simp only [ups, okBs]; exact ⟨okB_up hB f a _ h1, okBs_up hB f l ar h2⟩
end
theorem okB_upP {B : Int} (hB : B ≤ 9223372036854775000) {t : T} (h : okB B t) : okB (B + 1) (upP t 1 0) := by
  unfold upP; split
  · exact okB_up hB 0 t 0 h
  · exact okB_mono (by omega) t h

def bnd (β : Int) (n : Nat) : Int := β + n * 2097152
/-- A bound of heads that leaves room. -/
def okBase (β : Int) : Prop := 0 ≤ β ∧ β ≤ 4611686018427387904
def okL (B : Int) (l : List T) : Prop := ∀ x ∈ l, okB B x ∧ x.size ≤ 4000
theorem okL_sizes {B : Int} : ∀ {l : List T}, okL B l → sizes l ≤ l.length * 4000
  | [], _ => by simp [sizes]
  | a :: l, h => by
    have h1 := (h a (by simp)).2
    have h2 := okL_sizes (l := l) fun x hx => h x (by simp [hx])
    simp only [sizes, List.length_cons]; omega

def Inv (β : Int) : Job → Prop
  | .ap n t l s => n ≤ 40000 ∧ t.size ≤ 160040000 ∧ okB (bnd β n) t ∧ okL (bnd β n) l ∧ l.length ≤ 200 + n ∧ 0 ≤ s ∧ s ≤ 1048576 + n
  | .ar n _ ts l s => n ≤ 40000 ∧ sizes ts ≤ 160040000 ∧ okBs (bnd β n) ts ∧ okL (bnd β n - 1) l ∧ l.length + 1 ≤ 200 + n ∧ 0 ≤ s ∧ s + 1 ≤ 1048576 + n
  | .sp n t ys => n ≤ 40000 ∧ t.size ≤ 160040000 ∧ sizes ys ≤ 160040000 ∧ okB (bnd β n) t ∧ okBs (bnd β n) ys
def Post (β : Int) : Job → Oj → Prop
  | .ap n _ _ _, .t u m => n < m ∧ m ≤ 40000 ∧ u.size ≤ 4001 * (m - n) ∧ okB (bnd β m) u
  | .ar n _ ts _ _, .l ys m => n ≤ m ∧ m ≤ 40000 ∧ ys.length = ts.length ∧ sizes ys ≤ 4001 * (m - n) ∧ okBs (bnd β m) ys
  | .sp n t ys, .t u m => n ≤ m ∧ m ≤ 40000 ∧ u.size ≤ t.size + sizes ys + 4001 * (m - n) ∧ okB (bnd β m) u
  | _, .e _ => True
  | _, _ => False
def meas : Job → Nat
  | .ap n _ _ _ => 2 * (40002 - n)
  | .ar n _ _ _ _ => 2 * (40002 - n) + 1
  | .sp n _ _ => 2 * (40002 - n) + 1

theorem may_size {t : T} (h : may t = true) : t.size ≤ 4000 := by
  unfold may at h
  simp only [Bool.and_eq_true, decide_eq_true_eq] at h
  exact h.2.1
theorem bnd_mono {β : Int} {n m : Nat} (h : n ≤ m) : bnd β n ≤ bnd β m := by unfold bnd; omega
theorem bnd_le {β : Int} (hβ : okBase β) {n : Nat} (h : n ≤ 40000) : bnd β n ≤ 4611686118427387904 := by obtain ⟨h1, h2⟩ := hβ; unfold bnd; omega
theorem bnd_ge {β : Int} (hβ : okBase β) {n : Nat} : 0 ≤ bnd β n := by obtain ⟨h1, h2⟩ := hβ; unfold bnd; omega

theorem inv_below {β : Int} (hβ : okBase β) {n : Nat} {bd : Bool} {ys l : List T} {s : Int} (hn : n ≤ 40000) (hl : okL (bnd β n - 1) l) (hlen : l.length + 1 ≤ 200 + n) (h0 : 0 ≤ s) (hs : s + 1 ≤ 1048576 + n) :
    okL (bnd β n) (belowL' bd ys l) ∧ (belowL' bd ys l).length ≤ 200 + n ∧ 0 ≤ belowS' bd ys s ∧ belowS' bd ys s ≤ 1048576 + n := by
  have hb := bnd_le hβ hn
  have hb0 : 0 ≤ bnd β n := bnd_ge hβ
  unfold belowL' belowS'
  split
  · refine ⟨fun x hx => ?_, ?_, ?_, ?_⟩
    · simp only [underL, List.mem_append, List.mem_map, List.mem_singleton] at hx
      rcases hx with ⟨y, hy, rfl⟩ | rfl
      · obtain ⟨h1, h2⟩ := hl y hy
        have := okB_upP (B := bnd β n - 1) (by omega) h1
        rw [show bnd β n - 1 + 1 = bnd β n by omega] at this
        exact ⟨this, by rw [upP_size]; exact h2⟩
      · exact ⟨⟨⟨by omega, hb0⟩, by simp, trivial⟩, by simp [T.size, sizes]⟩
    · simp [underL]; omega
    · unfold underS; rw [wrap_id ⟨by omega, by omega⟩]; omega
    · unfold underS; rw [wrap_id ⟨by omega, by omega⟩]; omega
  · refine ⟨fun x hx => ?_, by omega, h0, by omega⟩
    obtain ⟨h1, h2⟩ := hl x hx
    exact ⟨okB_mono (by omega) x h1, h2⟩

theorem of_ok {β : Int} (hβ : okBase β) {n : Nat} (hn : n ≤ 40000) {l : List T} {s i : Int} (hl : okL (bnd β n) l) (h0 : 0 ≤ s) (hs : s ≤ 1048576 + n) (hi : 0 ≤ i) (hi2 : i ≤ bnd β n) : okB (bnd β (n + 1)) (ofT l s i) ∧ (ofT l s i).size ≤ 4000 := by
  have hb := bnd_le hβ hn
  unfold ofT
  split
  · rename_i h
    have hj : l.length - 1 - i.toNat < l.length := by omega
    rw [List.getD_eq_getElem?_getD, List.getElem?_eq_getElem hj]
    obtain ⟨h1, h2⟩ := hl _ (List.getElem_mem hj)
    exact ⟨okB_mono (bnd_mono (Nat.le_succ n)) _ h1, h2⟩
  · rename_i h
    rw [wrap_id (n := i - l.length) ⟨by omega, by omega⟩, wrap_id ⟨by omega, by omega⟩]
    refine ⟨⟨⟨by omega, ?_⟩, by simp, trivial⟩, by simp [T.size, sizes]⟩
    have : bnd β (n + 1) = bnd β n + 2097152 := by unfold bnd; omega
    omega

theorem total {β : Int} (hβ : okBase β) : ∀ (N : Nat) (j : Job), meas j < N → Inv β j → ∃ o, Big j o ∧ Post β j o := by
  intro N
  induction N with
  | zero => intro j h; omega
  | succ N ih =>
    intro j hj hI
    cases j with
    | ap n t l s =>
      obtain ⟨hn, hsz, hok, hl, hlen, h0, hs⟩ := hI
      by_cases hlim : n + 1 ≤ 40000
      rotate_left
      · exact ⟨_, .apLimit (by omega) (by omega), trivial⟩
      have hsl := okL_sizes hl
      cases t with
      | mk k h ys =>
        simp only [T.size] at hsz
        obtain ⟨⟨hh0, hh1⟩, hk3, hys⟩ := hok
        have hb1 : bnd β (n + 1) = bnd β n + 2097152 := by unfold bnd; omega
        obtain ⟨o, hB, hP⟩ := ih (.ar (n + 1) (bindsB k) ys l s) (by simp only [meas] at hj ⊢; omega) ⟨hlim, by omega, okBs_mono (by omega) ys hys, fun x hx => ⟨okB_mono (by omega) x (hl x hx).1, (hl x hx).2⟩, by omega, h0, by omega⟩
        cases o with
        | t _ _ => exact hP.elim
        | e e => exact ⟨_, .apErr hlim (by simp only [T.size]; omega) hB, trivial⟩
        | l zs m =>
          obtain ⟨p1, p2, p3, p4, p5⟩ := hP
          have hbm : bnd β n ≤ bnd β m := bnd_mono (by omega)
          by_cases hk : k = 4
          · obtain ⟨q1, q2⟩ := of_ok hβ (by omega) hl h0 hs hh0 hh1
            have hbm1 : bnd β (n + 1) ≤ bnd β m := bnd_mono p1
            obtain ⟨o, hB2, hP2⟩ := ih (.sp m (ofT l s h) zs) (by simp only [meas] at hj ⊢; omega) ⟨p2, by omega, by omega, okB_mono hbm1 _ q1, p5⟩
            have hbn := bnd_le hβ (n := n) (by omega)
            cases o with
            | l _ _ => exact hP2.elim
            | e e => exact ⟨_, .apVar hlim (by simp only [T.size]; omega) (by omega) hk hh0 ⟨by simp only [T.h]; omega, by simp only [T.h]; omega⟩ hB hB2, trivial⟩
            | t u m2 =>
              obtain ⟨r1, r2, r3, r4⟩ := hP2
              exact ⟨_, .apVar hlim (by simp only [T.size]; omega) (by omega) hk hh0 ⟨by simp only [T.h]; omega, by simp only [T.h]; omega⟩ hB hB2, by omega, r2, by omega, r4⟩
          · refine ⟨_, .apNode hlim (by simp only [T.size]; omega) hk hB, by omega, p2, ?_, ?_⟩
            · simp only [T.size, T.k, T.h]; omega
            · refine ⟨⟨hh0, by simp only [T.h]; omega⟩, fun e he => ?_, p5⟩
              subst he
              exact hk3 e (List.length_eq_zero_iff.1 (by simpa using p3.symm))
    | ar n bd ts l s =>
      obtain ⟨hn, hsz, hok, hl, hlen, h0, hs⟩ := hI
      have hsl := okL_sizes hl
      cases ts with
      | nil => exact ⟨_, .arNil, Nat.le_refl _, hn, rfl, by simp [sizes], trivial⟩
      | cons a ts =>
        simp only [sizes] at hsz
        obtain ⟨ha, hts⟩ := hok
        obtain ⟨g1, g2, g3, g4⟩ := inv_below hβ (bd := bd) (ys := ts) hn hl hlen h0 hs
        obtain ⟨o, hB, hP⟩ := ih (.ap n a (belowL' bd ts l) (belowS' bd ts s)) (by simp only [meas] at hj ⊢; omega) ⟨hn, by omega, ha, g1, g2, g3, g4⟩
        cases o with
        | l _ _ => exact hP.elim
        | e e => exact ⟨_, .arErr (by omega) hB, trivial⟩
        | t u m =>
          obtain ⟨p1, p2, p3, p4⟩ := hP
          have hbm : bnd β n ≤ bnd β m := bnd_mono (by omega)
          obtain ⟨o, hB2, hP2⟩ := ih (.ar m bd ts l s) (by simp only [meas] at hj ⊢; omega) ⟨p2, by omega, okBs_mono hbm ts hts, fun x hx => ⟨okB_mono (by omega) x (hl x hx).1, (hl x hx).2⟩, by omega, h0, by omega⟩
          cases o with
          | t _ _ => exact hP2.elim
          | e e => exact ⟨_, .arErr2 (by omega) hB hB2, trivial⟩
          | l zs m2 =>
            obtain ⟨r1, r2, r3, r4, r5⟩ := hP2
            exact ⟨_, .arCons (by omega) hB hB2, by omega, r2, by simp [r3], by simp only [sizes]; omega, okB_mono (bnd_mono r1) u p4, r5⟩
    | sp n t ys =>
      obtain ⟨hn, hsz, hys, hok, hoy⟩ := hI
      cases ys with
      | nil => exact ⟨_, .spNil, Nat.le_refl _, hn, by simp [sizes], hok⟩
      | cons a ys =>
        simp only [sizes] at hys
        obtain ⟨ha, hoy⟩ := hoy
        cases t with
        | mk k h zs =>
          simp only [T.size] at hsz
          obtain ⟨hh, hk3, hzs⟩ := hok
          by_cases hk : k = 3
          · cases hm : may a with
            | false => exact ⟨_, .spMay hk (by omega) hm, trivial⟩
            | true =>
              obtain ⟨b0, r, hb⟩ : ∃ b0 r, zs = b0 :: r := by
                cases zs with
                | nil => exact absurd rfl (hk3 hk)
                | cons b r => exact ⟨b, r, rfl⟩
              subst hb
              simp only [sizes] at hsz
              obtain ⟨o, hB, hP⟩ := ih (.ap n b0 [a] 0) (by simp only [meas] at hj ⊢; omega) ⟨hn, by omega, hzs.1, fun x hx => by simp at hx; subst hx; exact ⟨ha, may_size hm⟩, by simp; omega, by omega, by omega⟩
              cases o with
              | l _ _ => exact hP.elim
              | e e => exact ⟨_, .spErr hk (by omega) hm rfl hB, trivial⟩
              | t u m =>
                obtain ⟨p1, p2, p3, p4⟩ := hP
                obtain ⟨o, hB2, hP2⟩ := ih (.sp m u ys) (by simp only [meas] at hj ⊢; omega) ⟨p2, by omega, by omega, p4, okBs_mono (bnd_mono (by omega)) ys hoy⟩
                cases o with
                | l _ _ => exact hP2.elim
                | e e => exact ⟨_, .spLam hk (by omega) hm rfl hB hB2, trivial⟩
                | t w m2 =>
                  obtain ⟨r1, r2, r3, r4⟩ := hP2
                  exact ⟨_, .spLam hk (by omega) hm rfl hB hB2, by omega, r2, by simp only [T.size, sizes]; omega, r4⟩
          · by_cases hk2 : k = 2 ∨ k = 4 ∨ k = 5
            · have hz := length_le_sizes zs
              have hy := length_le_sizes ys
              refine ⟨_, .spApp hk2 (by simp only [T.args]; omega), Nat.le_refl _, hn, ?_, ?_⟩
              · simp only [T.size, T.k, T.h, T.args, sizes_append, sizes]; omega
              · refine ⟨hh, fun e => absurd e hk, ?_⟩
                rw [okBs_iff]
                intro x hx
                simp only [T.args, List.mem_append, List.mem_cons] at hx
                rcases hx with hx | rfl | hx
                · exact (okBs_iff _ _).1 hzs x hx
                · exact ha
                · exact (okBs_iff _ _).1 hoy x hx
            · simp only [not_or] at hk2
              exact ⟨_, .spType hk hk2.1 hk2.2.1 hk2.2.2, trivial⟩
end Go.Ama

/-! What substituting tells, as_ a function. -/
namespace Go.Ama
open Go Go.AM

theorem Big.det {j : Job} {o : Oj} (h : Big j o) : ∀ o', Big j o' → o = o' := by
  induction h with
  | apLimit h hn => intro o' h'; cases h' <;> first | rfl | omega
  | apErr h ht b ih =>
    intro o' h'; cases h' with
    | apLimit h2 _ => omega
    | apErr _ _ b2 => cases ih _ b2; rfl
    | apNode _ _ _ b2 => cases ih _ b2
    | apVar _ _ _ _ _ _ b2 _ => cases ih _ b2
  | apNode h ht hk b ih =>
    intro o' h'; cases h' with
    | apLimit h2 _ => omega
    | apErr _ _ b2 => cases ih _ b2
    | apNode _ _ _ b2 => cases ih _ b2; rfl
    | apVar _ _ _ hk2 _ _ b2 _ => exact absurd hk2 hk
  | apVar h ht hl hk h0 h1 b c ihb ihc =>
    intro o' h'; cases h' with
    | apLimit h2 _ => omega
    | apErr _ _ b2 => cases ihb _ b2
    | apNode _ _ hk2 b2 => exact absurd hk hk2
    | apVar _ _ _ _ _ _ b2 c2 => cases ihb _ b2; exact ihc _ c2
  | arNil => intro o' h'; cases h'; rfl
  | arErr hl b ih =>
    intro o' h'; cases h' with
    | arErr _ b2 => cases ih _ b2; rfl
    | arErr2 _ b2 _ => cases ih _ b2
    | arCons _ b2 _ => cases ih _ b2
  | arErr2 hl b c ihb ihc =>
    intro o' h'; cases h' with
    | arErr _ b2 => cases ihb _ b2
    | arErr2 _ b2 c2 => cases ihb _ b2; cases ihc _ c2; rfl
    | arCons _ b2 c2 => cases ihb _ b2; cases ihc _ c2
  | arCons hl b c ihb ihc =>
    intro o' h'; cases h' with
    | arErr _ b2 => cases ihb _ b2
    | arErr2 _ b2 c2 => cases ihb _ b2; cases ihc _ c2
    | arCons _ b2 c2 => cases ihb _ b2; cases ihc _ c2; rfl
  | spNil => intro o' h'; cases h'; rfl
  | spMay hk ha hm =>
    intro o' h'; cases h' with
    | spMay _ _ _ => rfl
    | spErr _ _ hm2 _ _ => rw [hm] at hm2; cases hm2
    | spLam _ _ hm2 _ _ _ => rw [hm] at hm2; cases hm2
    | spApp hk2 _ => omega
    | spType h3 _ _ _ => exact absurd hk h3
  | spErr hk ha hm hb b ih =>
    intro o' h'; cases h' with
    | spMay _ _ hm2 => rw [hm] at hm2; cases hm2
    | spErr _ _ _ hb2 b2 => rw [hb] at hb2; cases hb2; cases ih _ b2; rfl
    | spLam _ _ _ hb2 b2 _ => rw [hb] at hb2; cases hb2; cases ih _ b2
    | spApp hk2 _ => omega
    | spType h3 _ _ _ => exact absurd hk h3
  | spLam hk ha hm hb b c ihb ihc =>
    intro o' h'; cases h' with
    | spMay _ _ hm2 => rw [hm] at hm2; cases hm2
    | spErr _ _ _ hb2 b2 => rw [hb] at hb2; cases hb2; cases ihb _ b2
    | spLam _ _ _ hb2 b2 c2 => rw [hb] at hb2; cases hb2; cases ihb _ b2; exact ihc _ c2
    | spApp hk2 _ => omega
    | spType h3 _ _ _ => exact absurd hk h3
  | spApp hk hs =>
    intro o' h'; cases h' with
    | spMay h3 _ _ => omega
    | spErr h3 _ _ _ _ => omega
    | spLam h3 _ _ _ _ _ => omega
    | spApp _ _ => rfl
    | spType h3 h2 h4 h5 => omega
  | spType h3 h2 h4 h5 =>
    intro o' h'; cases h' with
    | spMay h6 _ _ => exact absurd h6 h3
    | spErr h6 _ _ _ _ => exact absurd h6 h3
    | spLam h6 _ _ _ _ _ => exact absurd h6 h3
    | spApp hk _ => omega
    | spType _ _ _ _ => rfl

def maySu (l : List T) (s : Int) : Bool := decide (l.length ≤ 200) && (decide (0 ≤ s) && (decide (s ≤ 1048576) && l.all may))
/-- What is told of it. -/
def toldR (o : Oj) : T × Int :=
  match o with
  | .t t _ => if may t then (t, 0) else (.mk 0 0 [], 4)
  | .e e => (.mk 0 0 [], e)
  | .l _ _ => (.mk 0 0 [], 0)
/-- Small enough to be looked at. -/
def smallO : Oj → Prop
  | .t t _ => t.size ≤ 1099511627776
  | _ => True
/-- What subst.Apply tells. -/
def applyR (t : T) (l : List T) (s : Int) (o : Oj) : T × Int := if may t && maySu l s then toldR o else (.mk 0 0 [], 1)

open Classical in
/-- What substituting tells. -/
noncomputable def outF (t : T) (l : List T) (s : Int) : Oj := if h : ∃ o, Big (.ap 0 t l s) o then Classical.choose h else .e 0
theorem outF_eq {t : T} {l : List T} {s : Int} {o : Oj} (h : Big (.ap 0 t l s) o) : outF t l s = o := by
  have hx : ∃ o, Big (.ap 0 t l s) o := ⟨o, h⟩
  unfold outF
  rw [dif_pos hx]
  exact (Classical.choose_spec hx).det _ h
noncomputable def applyF (t : T) (l : List T) (s : Int) : T × Int := applyR t l s (outF t l s)

theorem may_nodes {t : T} (h : may t = true) : nodesB t = true := by
  unfold may at h
  simp only [Bool.and_eq_true] at h
  exact h.1
theorem maySu_all {l : List T} {s : Int} (h : maySu l s = true) : l.length ≤ 200 ∧ 0 ≤ s ∧ s ≤ 1048576 ∧ ∀ x ∈ l, may x = true := by
  unfold maySu at h
  simp only [Bool.and_eq_true, decide_eq_true_eq, List.all_eq_true] at h
  exact ⟨h.1, h.2.1, h.2.2.1, h.2.2.2⟩

/-- It is told something. -/
theorem outF_ok {β : Int} (hβ : okBase β) {t : T} {l : List T} {s : Int} (ht : okB β t) (hl : ∀ x ∈ l, okB β x) (h1 : may t = true) (h2 : maySu l s = true) :
    Big (.ap 0 t l s) (outF t l s) ∧ Post β (.ap 0 t l s) (outF t l s) ∧ smallO (outF t l s) := by
  obtain ⟨k1, k2, k3, k4⟩ := maySu_all h2
  have hb : bnd β 0 = β := by unfold bnd; omega
  obtain ⟨o, hB, hP⟩ := total hβ _ (.ap 0 t l s) (Nat.lt_succ_self _) ⟨Nat.zero_le _, Nat.le_trans (may_size h1) (by decide), by rw [hb]; exact ht, fun x hx => ⟨by rw [hb]; exact hl x hx, may_size (k4 x hx)⟩, by omega, k2, by omega⟩
  rw [outF_eq hB]
  refine ⟨hB, hP, ?_⟩
  cases o with
  | t u m => obtain ⟨p1, p2, p3, p4⟩ := hP; show u.size ≤ _; omega
  | _ => trivial
end Go.Ama

namespace Go.Proofs.GT
open Go Go.AM
set_option maxRecDepth 20000

theorem e_slices_ContainsFunc_api_Decl_api_Decl (O : Oracle) (l0 : (List V)) (g1 : Nat) (l2 : (List V)) (l3 : (List V)) (st : St) : callBody Try.prog cfg O 46 [.vec .plain (some 4) l0, .fn g1 l2 l3] st =
  obind (O.call 68 [V.vec .plain (some 4) l0, V.fn g1 l2 l3] st) fun r1 => onRet r1.fst (fun v2 => onInt v2 fun n3 => gcE (List.length st) (V.bool
  (decide (n3 ≥ 0))) r1.snd) fun p4 => none := by kernel_rfl

theorem e_slices_ContainsFunc_api_Term_api_Term (O : Oracle) (l0 : (List V)) (g1 : Nat) (l2 : (List V)) (l3 : (List V)) (st : St) : callBody Try.prog cfg O 32 [.vec .plain (some 3) l0, .fn g1 l2 l3] st =
  obind (O.call 58 [V.vec .plain (some 3) l0, V.fn g1 l2 l3] st) fun r1 => onRet r1.fst (fun v2 => onInt v2 fun n3 => gcE (List.length st) (V.bool
  (decide (n3 ≥ 0))) r1.snd) fun p4 => none := by kernel_rfl

theorem e_slices_IndexFunc_api_Decl_api_Decl (O : Oracle) (l0 : (List V)) (g1 : Nat) (l2 : (List V)) (l3 : (List V)) (st : St) : callBody Try.prog cfg O 68 [.vec .plain (some 4) l0, .fn g1 l2 l3] st =
  obind (O.loop 68 2 [V.int 0, V.vec .plain (some 4) l0, V.fn g1 l2 l3, V.int (↑l0.length : Int)] st) fun r1 => onEx r1.fst none (onCons r1.snd.fst
  fun v2 c3 => onInt v2 fun n4 => onNil c3 (gcE (List.length st) (V.int n4) r1.snd.snd)) (fun i5 => bc (i5.beq 0) (onNil r1.snd.fst (gcE (List.length st) (V.int (-1)) r1.snd.snd))
  none) fun v6 => none := by kernel_rfl

theorem e_slices_IndexFunc_api_Decl_api_Decl_L2 (O : Oracle) (n0 : Int) (l1 : (List V)) (g2 : Nat) (l3 : (List V)) (l4 : (List V)) (n5 : Int) (st : St) : loopBody Try.prog cfg O 68 2 [.int n0, .vec .plain (some 4) l1, .fn g2 l3 l4, .int n5] st =
  bc (decide (n0 < n5)) (gd (decide (0 ≤ n0) && decide (n0 < (↑l1.length : Int))) (onStruct [CT.str, CT.int, CT.int, CT.slice (some 3)] (getI l1 n0) fun s1 n2 n3 l4_1 => bc
  (cfg.pure g2) (obind (pcall O g2 (l3 ++ [V.agg [V.str s1, V.int n2, V.int n3, V.vec .plain (some 3) l4_1]] ++ l4)) fun r5 => onBool r5 fun b6 => bc b6 (some (Ex.ret, [V.int n0],
  st)) (O.2 68 2 [V.int (IntKind.i64.wrap (n0 + 1)), V.vec .plain (some 4) l1, V.fn g2 l3 l4, V.int n5] st)) (obind (O.call g2 (l3 ++ [V.agg [V.str
  s1, V.int n2, V.int n3, V.vec .plain (some 3) l4_1]] ++ l4) st) fun r7 => onRet r7.fst (fun v8 => onBool v8 fun b9 => bc b9 (some (Ex.ret, [V.int n0], r7.snd)) (O.2
  68 2 [V.int (IntKind.i64.wrap (n0 + 1)), V.vec .plain (some 4) l1, V.fn g2 l3 l4, V.int n5] r7.snd)) fun p10 => none))) (some (Ex.exit 0, [],
  st)) := by kernel_rfl

theorem e_slices_IndexFunc_api_Term_api_Term (O : Oracle) (l0 : (List V)) (g1 : Nat) (l2 : (List V)) (l3 : (List V)) (st : St) : callBody Try.prog cfg O 58 [.vec .plain (some 3) l0, .fn g1 l2 l3] st =
  obind (O.loop 58 2 [V.int 0, V.vec .plain (some 3) l0, V.fn g1 l2 l3, V.int (↑l0.length : Int)] st) fun r1 => onEx r1.fst none (onCons r1.snd.fst
  fun v2 c3 => onInt v2 fun n4 => onNil c3 (gcE (List.length st) (V.int n4) r1.snd.snd)) (fun i5 => bc (i5.beq 0) (onNil r1.snd.fst (gcE (List.length st) (V.int (-1)) r1.snd.snd))
  none) fun v6 => none := by kernel_rfl

theorem e_slices_IndexFunc_api_Term_api_Term_L2 (O : Oracle) (n0 : Int) (l1 : (List V)) (g2 : Nat) (l3 : (List V)) (l4 : (List V)) (n5 : Int) (st : St) : loopBody Try.prog cfg O 58 2 [.int n0, .vec .plain (some 3) l1, .fn g2 l3 l4, .int n5] st =
  bc (decide (n0 < n5)) (gd (decide (0 ≤ n0) && decide (n0 < (↑l1.length : Int))) (onStruct [CT.int, CT.int, CT.slice (some 3)] (getI l1 n0) fun n1 n2 l3_1 => bc (cfg.pure g2)
  (obind (pcall O g2 (l3 ++ [V.agg [V.int n1, V.int n2, V.vec .plain (some 3) l3_1]] ++ l4)) fun r4 => onBool r4 fun b5 => bc b5 (some (Ex.ret, [V.int n0], st)) (O.2
  58 2 [V.int (IntKind.i64.wrap (n0 + 1)), V.vec .plain (some 3) l1, V.fn g2 l3 l4, V.int n5] st)) (obind (O.call g2 (l3 ++ [V.agg [V.int n1, V.int
  n2, V.vec .plain (some 3) l3_1]] ++ l4) st) fun r6 => onRet r6.fst (fun v7 => onBool v7 fun b8 => bc b8 (some (Ex.ret, [V.int n0], r6.snd)) (O.2
  58 2 [V.int (IntKind.i64.wrap (n0 + 1)), V.vec .plain (some 3) l1, V.fn g2 l3 l4, V.int n5] r6.snd)) fun p9 => none))) (some (Ex.exit 0, [], st)) := by kernel_rfl

end Go.Proofs.GT

/-! What may be; what is scoped. -/
namespace Go.Proofs.GT
open Go Go.AM Go.Ama

/-- A function that tells something of each node. -/
def Tells (g : Nat) (a b : List V) (p : Int → T → Bool) : Prop :=
  (cfg.pure g = true ∧ ∀ i t, pcall W g (a ++ [.int i, enc t] ++ b) = some (.bool (p i t))) ∨
  (cfg.pure g = false ∧ ∀ i t st, W.call g (a ++ [.int i, enc t] ++ b) st = some (.ret (.bool (p i t)), st))

theorem all_spec {g : Nat} {a b : List V} {p : Int → T → Bool} (hg : Tells g a b p) (t : T) (hs : t.size ≤ 1099511627776) : W.call 54 [enc t, .fn g a b] [] = some (.ret (.bool (allW p 0 t)), []) := by
  have hr : ∀ (i : Int) (t : T) (s : Unit), W.round 1 54 4 [.ref 0 0, .cptr none (.fn g a b)] [.int i, enc t] [(fun _ => .box [.bool false] : Unit → Res) s, .loop 54 4 [.ref 0 0, .cptr none (.fn g a b)] .ready none] =
      some (if p i t = true then (true, [(fun _ => .box [.bool false] : Unit → Res) ((fun s => s) s), .loop 54 4 [.ref 0 0, .cptr none (.fn g a b)] .ready none]) else (false, [.box [.bool false], .loop 54 4 [.ref 0 0, .cptr none (.fn g a b)] .done (some .ret)])) := by
    intro i t s
    rw [Rd, enc_eta, e_term_all_R4]
    rcases hg with ⟨hp, hm⟩ | ⟨hp, hm⟩
    · have hm := hm i t
      rw [enc_eta] at hm
      rw [hp, bc_true, hm, obind_some', onBool_bool]
      cases p i t <;> rfl
    · have hm := hm i t
      rw [enc_eta] at hm
      rw [hp, bc_false, hm, obind_some', onRet_ret, onBool_bool]
      cases p i t <;> rfl
  have hn := nodes_spec (x := fun _ : Unit => .box [.bool false]) (nx := fun s => s) (g := p) hr t () hs
  rw [C]
  rw [enc_eta] at hn
  conv => lhs; rw [enc_eta]
  rw [e_term_all, C, e_term_nodes, obind_some', onRet_ret, onFn_fn]
  have hn' : W.call 79 ([] ++ [V.yld (List.length [Res.box [V.bool false]])] ++ [V.cptr (some 3) (V.agg [V.int t.k, V.int t.h, V.vec .plain (some 3) (encs t.args)])]) ([Res.box [V.bool false]] ++ [Res.loop 54 4 [V.ref 0 0, V.cptr none (V.fn g a b)] LSt.ready none]) = _ := hn
  rw [hn', obind_some']
  cases allW p 0 t <;> rfl

theorem pmay_spec (t : T) (hs : t.size ≤ 1099511627776) : Ev 29 [enc t] (.bool (may t)) := by
  unfold Ev
  have hg : Tells 55 [] [] (fun _ t => mayT t) := .inl ⟨rfl, fun i t => by
    rw [enc_eta]; exact (mayn_spec i t.k t.h t.args).p (by simp [belowL, below])⟩
  have ha := all_spec hg t hs
  rw [allW_may] at ha
  rw [C, enc_eta, e_term_May, ← enc_eta, (pdepth_spec t hs).p, (psize_spec t hs).p, ha]
  simp only [obind_some', onInt_int, onRet_ret, onBool_bool, may]
  have e1 : decide ((t.depth : Int) ≤ 60) = decide (t.depth ≤ 60) := decide_eq_decide.2 (by omega)
  have e2 : decide ((t.size : Int) ≤ 4000) = decide (t.size ≤ 4000) := decide_eq_decide.2 (by omega)
  rw [e1, e2]
  cases decide (t.depth ≤ 60) <;> cases decide (t.size ≤ 4000) <;> simp [bc]

end Go.Proofs.GT

/-! shift.Up; lists of terms; substitutions. -/
namespace Go.Proofs.GT
open Go Go.AM Go.Ama

theorem shiftmay_spec (t : T) (b f : Int) (hs : t.size ≤ 1099511627776) : Ev 81 [enc t, .int b, .int f] (.bool (may t && (decide (0 ≤ b) && (decide (b ≤ 1048576) && (decide (0 ≤ f) && decide (f ≤ 1048576)))))) := by
  have h1 := (pmay_spec t hs).p
  unfold Ev
  rw [C, enc_eta, e_shift_may, ← enc_eta, h1]
  cases may t
  · rfl
  · by_cases a1 : 0 ≤ b <;> by_cases a2 : b ≤ 1048576 <;> by_cases a3 : 0 ≤ f <;> simp [a1, a2, a3]

theorem Up_spec (t : T) (b f : Int) (hs : t.size ≤ 1099511627776) : Ev 73 [enc t, .int b, .int f] (enc (upP t b f)) := by
  have h1 := (shiftmay_spec t b f hs).p
  have h2 := (pown_spec t hs).p
  unfold Ev
  rw [C, enc_eta t, e_shift_Up, ← enc_eta, h1]
  unfold upP
  by_cases hm : (may t && (decide (0 ≤ b) && (decide (b ≤ 1048576) && (decide (0 ≤ f) && decide (f ≤ 1048576))))) = true
  · rw [hm]
    simp only [Bool.and_eq_true, decide_eq_true_eq] at hm
    have hd : (t.depth : Int) ≤ 1099511627776 := by have := depth_le_size t; omega
    have h3 := change_spec b f hm.2.2.2 t 0 [] hs (by omega) (by omega)
    simp [h3, ← enc_eta]
    simp [below, belowL, belowSt, gd]
  · have hm' : (may t && (decide (0 ≤ b) && (decide (b ≤ 1048576) && (decide (0 ≤ f) && decide (f ≤ 1048576))))) = false := by simpa using hm
    rw [hm']
    simp [h2, ← enc_eta]

theorem index_spec {g : Nat} {a b : List V} (hp : cfg.pure g = true) {p : T → Bool} (xs : List T) (hs : xs.length ≤ 1099511627776) (hg : ∀ t ∈ xs, pcall W g (a ++ [enc t] ++ b) = some (.bool (p t))) (st : St) :
    ∀ (n i : Nat), xs.length - i = n → i ≤ xs.length → (∃ j : Nat, (xs.drop i).any p = true ∧ W.loop 58 2 [.int (i : Int), .vec .plain (some 3) (encs xs), .fn g a b, .int xs.length] st = some (.ret, [.int (j : Int)], st)) ∨
      ((xs.drop i).any p = false ∧ W.loop 58 2 [.int (i : Int), .vec .plain (some 3) (encs xs), .fn g a b, .int xs.length] st = some (.exit 0, [], st)) := by
  intro n
  induction n with
  | zero =>
    intro i hn hi
    have : i = xs.length := by omega
    subst this
    right
    refine ⟨by simp, ?_⟩
    rw [L, e_slices_IndexFunc_api_Term_api_Term_L2]
    simp
  | succ n ih =>
    intro i hn hi
    have hlt : i < xs.length := by omega
    have hx := hg xs[i] (List.getElem_mem hlt)
    have hd : xs.drop i = xs[i] :: xs.drop (i + 1) := List.drop_eq_getElem_cons hlt
    have hstep : W.loop 58 2 [.int (i : Int), .vec .plain (some 3) (encs xs), .fn g a b, .int xs.length] st =
        bc (p xs[i]) (some (.ret, [.int (i : Int)], st)) (W.loop 58 2 [.int ((i + 1 : Nat) : Int), .vec .plain (some 3) (encs xs), .fn g a b, .int xs.length] st) := by
      rw [L, e_slices_IndexFunc_api_Term_api_Term_L2]
      rw [wrap_id ⟨by omega, by omega⟩]
      have h1 : (i : Int) < xs.length := by omega
      simp [h1, getI_encs hlt, ← enc_eta, hp, hx] at hx ⊢
      simp [hx]
    rw [hstep, hd, List.any_cons]
    cases hpx : p xs[i] with
    | true => exact .inl ⟨i, rfl, rfl⟩
    | false =>
      simp only [bc, Bool.false_or]
      exact ih (i + 1) (by omega) (by omega)

theorem contains_spec {g : Nat} {a b : List V} (hp : cfg.pure g = true) {p : T → Bool} (xs : List T) (hs : xs.length ≤ 1099511627776) (hg : ∀ t ∈ xs, pcall W g (a ++ [enc t] ++ b) = some (.bool (p t))) (st : St) :
    W.call 32 [.vec .plain (some 3) (encs xs), .fn g a b] st = some (.ret (.bool (xs.any p)), st) := by
  have h := index_spec hp xs hs hg st _ 0 rfl (Nat.zero_le _)
  rw [C, e_slices_ContainsFunc_api_Term_api_Term, C, e_slices_IndexFunc_api_Term_api_Term]
  simp only [List.drop_zero, Int.natCast_zero] at h
  rcases h with ⟨j, h1, h2⟩ | ⟨h1, h2⟩
  · simp [h2, h1, gcE_len]
  · simp [h2, h1, gcE_len]

theorem pure_may1 : cfg.pure 84 = true := by kernel_rfl
theorem smay1_spec (t : T) (hs : t.size ≤ 1099511627776) : Ev 84 [enc t] (.bool (!may t)) := by
  have h1 := (pmay_spec t hs).p
  unfold Ev
  rw [C, enc_eta, e_subst_may_1, ← enc_eta, h1]
  rfl

/-- A substitution that may be. -/
theorem smay_spec (l : List T) (s : Int) (hs : sizes l ≤ 1099511627776) : Ev 75 [.agg [.vec .plain (some 3) (encs l), .int s]] (.bool (maySu l s)) := by
  have hc := contains_spec (p := fun t => !may t) pure_may1 (a := []) (b := []) l (by have := length_le_sizes l; omega) (fun t ht => (smay1_spec t (by have := size_le ht; omega)).p) []
  unfold Ev
  rw [C, e_subst_may]
  unfold maySu
  have hall : (l.any fun t => !may t) = !l.all may := by
    simp [List.not_all_eq_any_not]
  by_cases a1 : l.length ≤ 200
  · have a1' : (l.length : Int) ≤ 200 := by omega
    by_cases a2 : 0 ≤ s <;> by_cases a3 : s ≤ 1048576 <;> simp [a1, a1', a2, a3, hc, hall]
  · have a1' : ¬ (l.length : Int) ≤ 200 := by omega
    simp [a1, a1']
end Go.Proofs.GT

/-! Below a node that binds; what a variable is mapped to; lists behind one another. -/
namespace Go.Proofs.GT
open Go Go.AM Go.Ama

abbrev encSu (l : List T) (s : Int) : V := .agg [.vec .plain (some 3) (encs l), .int s]

theorem belowL_app (n : Nat) : ∀ a b : List V, belowL n (a ++ b) = (belowL n a && belowL n b)
  | [], b => by simp [belowL]
  | x :: a, b => by simp [belowL, belowL_app n a b, Bool.and_assoc]

theorem under_spec (l : List T) (s : Int) (hs : sizes l ≤ 1099511627776) : Ev 87 [encSu l s] (encSu (underL l) (underS s)) := by
  have hlen := length_le_sizes l
  have hl := count_loop (n := l.length) (L := fun i => W.loop 87 3 [V.int (i : Nat), V.loc true (some 2) (V.agg [V.vec .grow (some 3) (encs ((l.map fun t => upP t 1 0).take i)), V.int (underS s)]), V.vec .plain (some 3) (encs l), V.loc true (some 2) (V.agg [V.vec Mode.full (some 3) [], V.int 0]), V.int l.length] [])
    (r := some (Ex.exit 0, [V.loc true (some 2) (V.agg [V.vec Mode.full (some 3) [], V.int 0]), V.loc true (some 2) (V.agg [V.vec .grow (some 3) (encs (l.map fun t => upP t 1 0)), V.int (underS s)])], []))
    (fun i hi => by
      have hp := (Up_spec l[i] 1 0 (by have := size_le (List.getElem_mem hi); omega)).p
      have hr : roomFor Try.prog 25 (i + 1) = true := room24 (by omega)
      have hi' : i < (l.map fun t => upP t 1 0).length := by simpa using hi
      show W.loop _ _ _ _ = _
      rw [L, e_subst_Under_L3, encs_take_succ hi', List.getElem_map]
      rw [wrap_id ⟨by omega, by omega⟩]
      have hmin : min i l.length = i := by omega
      have h1 : (i : Int) < l.length := by omega
      simp [h1, getI_encs hi, ← enc_eta, hp, hr, hmin])
    (by
      show W.loop _ _ _ _ = _
      rw [L, e_subst_Under_L3, List.take_of_length_le (by simp)]
      simp)
  have hl' : W.loop 87 3 [V.int 0, V.loc true (some 2) (V.agg [V.vec .grow (some 3) [], V.int (underS s)]), V.vec .plain (some 3) (encs l), V.loc true (some 2) (V.agg [V.vec Mode.full (some 3) [], V.int 0]), V.int l.length] [] = some (Ex.exit 0, [V.loc true (some 2) (V.agg [V.vec Mode.full (some 3) [], V.int 0]), V.loc true (some 2) (V.agg [V.vec .grow (some 3) (encs (l.map fun t => upP t 1 0)), V.int (underS s)])], []) := hl
  have hr : roomFor Try.prog 25 (l.length + 1) = true := room24 (by omega)
  unfold Ev
  rw [C, e_subst_Under]
  show obind (W.loop 87 3 [V.int 0, V.loc true (some 2) (V.agg [V.vec .grow (some 3) [], V.int (underS s)]), V.vec .plain (some 3) (encs l), V.loc true (some 2) (V.agg [V.vec Mode.full (some 3) [], V.int 0]), V.int ((encs l).length : Nat)] []) _ = _
  simp [hl', hr, underL, encSu, below, belowL, belowSt, enc, belowL_app]

theorem of_spec (l : List T) (s i : Int) (hs : sizes l ≤ 1099511627776) (h0 : 0 ≤ i) (h1 : I64 i) : Ev 89 [encSu l s, .int i] (enc (ofT l s i)) := by
  have hlen := length_le_sizes l
  unfold Ev ofT
  rw [C, e_subst_of]
  by_cases hi : i < l.length
  · have hj : l.length - 1 - i.toNat < l.length := by omega
    have hj2 : (l.length : Int) - 1 - i = ((l.length - 1 - i.toNat : Nat) : Int) := by omega
    have ho := (pown_spec (l[l.length - 1 - i.toNat]) (by have := size_le (List.getElem_mem hj); omega)).p
    have hd : l.getD (l.length - 1 - i.toNat) (.mk 0 0 []) = l[l.length - 1 - i.toNat] := by rw [List.getD_eq_getElem?_getD, List.getElem?_eq_getElem hj]; rfl
    rw [if_pos hi, hd, encs_length, wrap_id (n := (l.length : Int) - 1) ⟨by omega, by omega⟩, hj2, wrap_id ⟨by omega, by omega⟩]
    have h2 : ((l.length - 1 - i.toNat : Nat) : Int) < l.length := by omega
    simp only [getI_encs hj]
    simp [hi, h2, ← enc_eta, ho, below, belowL]
  · rw [if_neg hi]
    have h2 : ¬ i < ((encs l).length : Int) := by rw [encs_length]; exact hi
    simp [hi, enc]

theorem concat_spec (xs ys : List T) (hs : xs.length + ys.length ≤ 2199023255552) : Ev 23 [.vec .plain none [.vec .plain (some 3) (encs xs), .vec .plain (some 3) (encs ys)]] (.vec .plain (some 3) (encs (xs ++ ys))) := by
  have r1 : roomFor Try.prog 25 (xs.length + ys.length) = true := room24 hs
  have r2 : roomFor Try.prog 25 xs.length = true := room24 (by omega)
  have a1 : IntKind.i64.wrap (0 + (xs.length : Int)) = xs.length := by rw [wrap_id ⟨by omega, by omega⟩]; omega
  have a2 : IntKind.i64.wrap ((xs.length : Int) + ys.length) = (xs.length : Int) + ys.length := wrap_id ⟨by omega, by omega⟩
  have w1 : IntKind.i64.wrap (0 + 1) = 1 := by decide
  have w2 : IntKind.i64.wrap (1 + 1) = 2 := by decide
  have n1 : ¬ (xs.length : Int) < 0 := by omega
  have n2 : ¬ (xs.length : Int) + ys.length < 0 := by omega
  have n3 : (0 : Int) ≤ (xs.length : Int) + ys.length := by omega
  have t2 : ((xs.length : Int) + ys.length).toNat = xs.length + ys.length := by omega
  have g0 : ∀ (a b : V), getI [a, b] 0 = a := fun _ _ => rfl
  have g1 : ∀ (a b : V), getI [a, b] 1 = b := fun _ _ => rfl
  unfold Ev
  rw [C, e_slices_Concat_api_Term_api_Term]
  have L1 : W.loop 23 3 [V.int 0, V.int 0, V.vec .plain none [.vec .plain (some 3) (encs xs), .vec .plain (some 3) (encs ys)], V.vec .plain none [.vec .plain (some 3) (encs xs), .vec .plain (some 3) (encs ys)], V.int 2] [] =
      some (.exit 0, [V.vec .plain none [.vec .plain (some 3) (encs xs), .vec .plain (some 3) (encs ys)], V.int ((xs.length : Int) + ys.length)], []) := by
    rw [L, e_slices_Concat_api_Term_api_Term_L3, g0, w1]
    simp only [onVec, if_true, encs_length, a1]
    simp [n1]
    rw [L, e_slices_Concat_api_Term_api_Term_L3, g1, w2]
    simp only [onVec, if_true, encs_length, a2]
    simp [n2]
    rw [L, e_slices_Concat_api_Term_api_Term_L3]
    simp
  have L2 : W.loop 23 11 [V.int 0, V.vec .grow (some 3) [], V.vec .plain none [.vec .plain (some 3) (encs xs), .vec .plain (some 3) (encs ys)], V.int 2] [] = some (.exit 2, [V.vec .grow (some 3) (encs (xs ++ ys))], []) := by
    rw [L, e_slices_Concat_api_Term_api_Term_L11, g0, w1]
    simp only [onVec, if_true, encs_length]
    simp [r2]
    rw [L, e_slices_Concat_api_Term_api_Term_L11, g1, w2]
    simp only [onVec, if_true, encs_length]
    simp [r1]
    rw [L, e_slices_Concat_api_Term_api_Term_L11]
    simp
  have e2 : ((([.vec .plain (some 3) (encs xs), .vec .plain (some 3) (encs ys)] : List V).length : Nat) : Int) = 2 := rfl
  rw [e2, L1]
  simp only [obind_some', onEx_exit, Nat.beq_eq_true_eq, onCons_cons, onVec, if_true, onNil_nil, onInt_int, e2, L2]
  simp [n3, t2, r1, belowL_app, below, belowSt, L2, e2]
end Go.Proofs.GT

/-! Substituting, as_ the program does it. -/
namespace Go.Proofs.GT
open Go Go.AM Go.Ama

abbrev bx0 : Res := .box [.int 0, .int 0, .vec .full (some 3) []]
abbrev bx1 : Res := .box [.int 0]
abbrev wst (n : Nat) : St := [bx0, bx1, .box [.int (n : Int)]]
abbrev errV (e : Int) : V := .ifc 29 (.int e)

section
variable {R : Type}
@[simp] theorem getR_2 (x y z : Res) (st : St) (K : Res → Option R) : getR (x :: y :: z :: st) 2 K = K z := rfl
@[simp] theorem onBox_box (l : List V) (K : List V → Option R) : onBox (.box l) K = K l := rfl
@[simp] theorem part1 (n : Int) : cleanV (AM.partOf [.int n] 0 none) = .int n := rfl
@[simp] theorem setC1 (a b : V) : setCells [a] 0 [b] = [b] := rfl
@[simp] theorem onSu (l : List T) (s : Int) (K : List V → Int → Option R) : onStruct (R := R) [CT.slice (some 3), CT.int] (.agg [.vec .plain (some 3) (encs l), .int s]) K = K (encs l) s := rfl
end

theorem fail_spec (e : Int) (n : Nat) : W.call 86 [.int e] (wst n) = some (.panic (errV e), wst n) := by
  rw [C, e_subst_fail]; rfl

def RT (o : Oj) (r : Option (Out × St)) : Prop :=
  match o with
  | .t t m => r = some (.ret (enc t), wst m)
  | .e e => ∃ m : Nat, r = some (.panic (errV e), wst m)
  | .l _ _ => False

noncomputable def lp6 (i : Nat) (k h : Int) (acc xs l : List T) (s : Int) (v : V) (n : Nat) : Option (Ex × List V × St) :=
  W.loop 78 6 [.int (i : Int), .loc true (some 3) (.agg [.int k, .int h, .vec .grow (some 3) (encs acc)]), .ref 2 0, .loc false (some 2) (.agg [.vec .plain (some 3) (encs l), .int s]), .loc false (some 3) (.agg [.int k, .int h, .vec .plain (some 3) (encs xs)]), .vec .plain (some 3) (encs xs), .loc true (some 3) v, .int xs.length] (wst n)

def Sat : Job → Oj → Prop
  | .ap n t l s, o => RT o (W.call 78 [.ref 2 0, enc t, encSu l s] (wst n))
  | .sp n t ys, o => RT o (W.call 88 [.ref 2 0, enc t, .vec .plain (some 3) (encs ys)] (wst n))
  | .ar n bd ts l s, o => ∀ (k h : Int) (xs acc : List T) (i : Nat) (v : V), xs.drop i = ts → bd = bindsB k → acc.length = i → i ≤ xs.length → xs.length ≤ 1099511627776 →
      match o with
      | .l ys m => lp6 i k h acc xs l s v n = some (.exit 0, [.loc true (some 3) v, .loc true (some 3) (.agg [.int k, .int h, .vec .grow (some 3) (encs (acc ++ ys))]), .loc false (some 3) (.agg [.int k, .int h, .vec .plain (some 3) (encs xs)]), .loc false (some 2) (.agg [.vec .plain (some 3) (encs l), .int s]), .ref 2 0], wst m)
      | .e e => ∃ (m : Nat) (vs : List V), lp6 i k h acc xs l s v n = some (.panic (errV e), vs, wst m)
      | .t _ _ => False

/-- One arg. -/
theorem lp6_step (i : Nat) (k h : Int) (acc xs l : List T) (s : Int) (v : V) (n : Nat) (hi : i < xs.length) (hx : xs.length ≤ 1099511627776) (hl : sizes l ≤ 1099511627776) (hacc : acc.length = i) :
    ∃ vs, lp6 i k h acc xs l s v n = obind (W.call 78 [.ref 2 0, enc xs[i], encSu (belowL' (bindsB k) (xs.drop (i + 1)) l) (belowS' (bindsB k) (xs.drop (i + 1)) s)] (wst n)) fun r => onRet r.1 (fun u => onStruct [CT.int, CT.int, CT.slice (some 3)] u fun a b c =>
      W.loop 78 6 [.int ((i + 1 : Nat) : Int), .loc true (some 3) (.agg [.int k, .int h, .vec .grow (some 3) (encs acc ++ [.agg [.int a, .int b, .vec .plain (some 3) c]])]), .ref 2 0, .loc false (some 2) (.agg [.vec .plain (some 3) (encs l), .int s]), .loc false (some 3) (.agg [.int k, .int h, .vec .plain (some 3) (encs xs)]), .vec .plain (some 3) (encs xs), .loc true (some 3) v, .int xs.length] r.2)
      fun p => some (.panic p, vs, r.2) := by
  have hu := (under_spec l s hl).p
  have hr : roomFor Try.prog 25 (i + 1) = true := room24 (by omega)
  have hw : IntKind.i64.wrap ((i : Int) + 1) = ((i + 1 : Nat) : Int) := by rw [wrap_id ⟨by omega, by omega⟩]; omega
  have hw2 : IntKind.i64.wrap ((xs.length : Int) - 1) = (xs.length : Int) - 1 := wrap_id ⟨by omega, by omega⟩
  have hlt : (i : Int) < xs.length := by omega
  have hlast : ((i : Int) == (xs.length : Int) - 1) = (xs.drop (i + 1)).isEmpty := by
    rw [beq_int]
    by_cases he : i + 1 = xs.length
    · simp [he]; omega
    · have : ¬ (i : Int) = (xs.length : Int) - 1 := by omega
      simp [this]; omega
  unfold lp6
  rw [L, e_subst_work_apply_L6]
  refine ⟨[.loc true (some 3) v, .loc true (some 3) (.agg [.int k, .int h, .vec .plain (some 3) (encs acc)]), .loc false (some 3) (.agg [.int k, .int h, .vec .plain (some 3) (encs xs)]), .loc false (some 2) (.agg [.vec .plain (some 3) (encs l), .int s]), .ref 2 0], ?_⟩
  rw [encs_length, hw2, hw, hlast]
  unfold belowL' belowS' bindsB
  by_cases k1 : k = 1
  · cases he : (xs.drop (i + 1)).isEmpty
    · simp [k1, he, hlt, getI_encs hi, ← enc_eta, hr, hacc]
    · simp [k1, he, hlt, getI_encs hi, ← enc_eta, hr, hacc, hu]
  · by_cases k3 : k = 3
    · cases he : (xs.drop (i + 1)).isEmpty
      · simp [k3, he, hlt, getI_encs hi, ← enc_eta, hr, hacc]
      · simp [k3, he, hlt, getI_encs hi, ← enc_eta, hr, hacc, hu]
    · simp [k1, k3, hlt, getI_encs hi, ← enc_eta, hr, hacc]
end Go.Proofs.GT

/-! .. whole. -/
namespace Go.Proofs.GT
open Go Go.AM Go.Ama

theorem lp6_end (k h : Int) (acc xs l : List T) (s : Int) (v : V) (n i : Nat) (hi : i = xs.length) : lp6 i k h acc xs l s v n = some (.exit 0, [.loc true (some 3) v, .loc true (some 3) (.agg [.int k, .int h, .vec .grow (some 3) (encs acc)]), .loc false (some 3) (.agg [.int k, .int h, .vec .plain (some 3) (encs xs)]), .loc false (some 2) (.agg [.vec .plain (some 3) (encs l), .int s]), .ref 2 0], wst n) := by
  subst hi
  unfold lp6
  rw [L, e_subst_work_apply_L6]
  simp

/-- What is left behind the loop. -/
theorem apply_eq (n : Nat) (t : T) (l : List T) (s : Int) (hn : n + 1 ≤ 40000) (ht : t.size ≤ 1099511627776) :
    W.call 78 [.ref 2 0, enc t, encSu l s] (wst n) = obind (lp6 0 t.k t.h [] t.args l s (.agg [.int 0, .int 0, .vec .full (some 3) []]) (n + 1)) fun r12 => onEx r12.1 none none
      (fun i13 => bc (i13.beq 0) (onCons r12.2.1 fun v14 c15 => onLoc (some 3) v14 fun d16 v17 => onCons c15 fun v18 c19 => onLoc (some 3) v18 fun d20 v21 => onAgg v21 fun c22 =>
        onCons c22 fun v23 c24 => onInt v23 fun n25 => onCons c24 fun v26 c27 => onInt v26 fun n28 => onCons c27 fun v29 c30 => onRoom (some 3) v29 fun l31 => onNil c30 (onCons c19 fun
        v32 c33 => onLoc (some 3) v32 fun d34 v35 => onStruct [CT.int, CT.int, CT.slice (some 3)] (bif d34 then cleanV v35 else v35) fun n36 n37 l38 => onCons c33 fun v39 c40 => onLoc
        (some 2) v39 fun d41 v42 => onStruct [CT.slice (some 3), CT.int] (bif d41 then cleanV v42 else v42) fun l43 n44 => onCons c40 fun v45 c46 => onRef v45 fun q47 => onNil c46 (bc
        (n36 != 4) (gcE 3 (V.agg [V.int n25, V.int n28, V.vec .plain (some 3) l31]) r12.2.2) (obind (pcall W 89 [V.agg [V.vec .plain (some 3) l43, V.int n44],
        V.int n37]) fun r48 => onStruct [CT.int, CT.int, CT.slice (some 3)] r48 fun n49 n50 l51 => obind (W.call 88 [V.ref q47 0, V.agg [V.int n49, V.int n50, V.vec .plain
        (some 3) l51], V.vec .plain (some 3) l31] r12.2.2) fun r52 => onRet r52.fst (fun v53 => onStruct [CT.int, CT.int, CT.slice (some 3)] v53 fun n54 n55 l56 => gcE 3 (V.agg [V.int n54, V.int n55, V.vec .plain (some 3) l56]) r52.snd) fun p57 => gd (below 3 p57 && belowSt 3 (List.take 3 r52.snd))
        (some (Out.panic p57, List.take 3 r52.snd)))))) none) fun v58 => gd (below 3 v58 && belowSt 3 (List.take 3 r12.2.2)) (some (Out.panic v58, List.take 3 r12.2.2)) := by
  have hw : IntKind.i64.wrap ((n : Int) + 1) = ((n + 1 : Nat) : Int) := by rw [wrap_id ⟨by omega, by omega⟩]; omega
  have hlim : ¬ ((n + 1 : Nat) : Int) > 40000 := by omega
  rw [C, enc_eta, e_subst_work_apply]
  simp only [getR_2, onBox_box, part1, setC1, hw]
  show gd _ _ = _
  simp only [List.length_cons, List.length_nil, Nat.zero_add, Nat.le_refl, decide_true, Bool.and_self, gd_true, onInt_int]
  show (getR (wst n) 2 fun x4 => _) = _
  simp only [getR_2, onBox_box, part1, setC1, List.length_cons, List.length_nil, Nat.zero_add, Nat.le_refl, decide_true, Bool.and_self, gd_true]
  show (getR (wst (n + 1)) 2 fun x6 => _) = _
  simp only [getR_2, onBox_box, part1, List.length_cons, List.length_nil, Nat.zero_add, Nat.le_refl, decide_true, Bool.and_self, gd_true, onInt_int, encs_length]
  rw [hw, decide_eq_false hlim, bc_false]
  rfl

theorem big_sat {j : Job} {o : Oj} (h : Big j o) : Sat j o := by
  induction h with
  | @apLimit n t l s h hn =>
    have hw : IntKind.i64.wrap ((n : Int) + 1) = ((n + 1 : Nat) : Int) := by rw [wrap_id ⟨by omega, by omega⟩]; omega
    have hlim : ((n + 1 : Nat) : Int) > 40000 := by omega
    refine ⟨n + 1, ?_⟩
    rw [C, enc_eta, e_subst_work_apply]
    simp only [getR_2, onBox_box, part1, setC1, hw]
    show gd _ _ = _
    simp only [List.length_cons, List.length_nil, Nat.zero_add, Nat.le_refl, decide_true, Bool.and_self, gd_true, onInt_int]
    show (getR (wst n) 2 fun x4 => _) = _
    simp only [getR_2, onBox_box, part1, setC1, List.length_cons, List.length_nil, Nat.zero_add, Nat.le_refl, decide_true, Bool.and_self, gd_true]
    show (getR (wst (n + 1)) 2 fun x6 => _) = _
    simp only [getR_2, onBox_box, part1, List.length_cons, List.length_nil, Nat.zero_add, Nat.le_refl, decide_true, Bool.and_self, gd_true, onInt_int]
    rw [hw, decide_eq_true hlim, bc_true]
    show obind (W.call _ _ (wst (n + 1))) _ = _
    rw [fail_spec]
    rfl
  | @apErr n t l s e h ht b ih =>
    obtain ⟨m, vs, hL⟩ := ih t.k t.h t.args [] 0 (.agg [.int 0, .int 0, .vec .full (some 3) []]) rfl rfl rfl (Nat.zero_le _) (by cases t; simp only [T.size] at ht; have := length_le_sizes (T.args (.mk ‹_› ‹_› ‹_›)); simp only [T.args] at this ⊢; omega)
    refine ⟨m, ?_⟩
    rw [apply_eq n t l s h ht, hL]
    rfl
  | @apNode n t l s ys m h ht hk b ih =>
    have hL := ih t.k t.h t.args [] 0 (.agg [.int 0, .int 0, .vec .full (some 3) []]) rfl rfl rfl (Nat.zero_le _) (by cases t; simp only [T.size] at ht; have := length_le_sizes (T.args (.mk ‹_› ‹_› ‹_›)); simp only [T.args] at this ⊢; omega)
    show _ = _
    rw [apply_eq n t l s h ht, hL]
    have hk' : (t.k != 4) = true := by simpa using hk
    simp [hk', hk, enc]
    rfl
  | @apVar n t l s ys m o h ht hl hk h0 h1 b c ihb ihc =>
    have hL := ihb t.k t.h t.args [] 0 (.agg [.int 0, .int 0, .vec .full (some 3) []]) rfl rfl rfl (Nat.zero_le _) (by cases t; simp only [T.size] at ht; have := length_le_sizes (T.args (.mk ‹_› ‹_› ‹_›)); simp only [T.args] at this ⊢; omega)
    have ho := (of_spec l s t.h hl h0 h1).p
    show RT o _
    rw [apply_eq n t l s h ht, hL]
    have hsp : RT o (W.call 88 [.ref 2 0, enc (ofT l s t.h), .vec .plain (some 3) (encs ys)] (wst m)) := ihc
    have hgoal : (fun x => RT o x) (W.call 88 [.ref 2 0, enc (ofT l s t.h), .vec .plain (some 3) (encs ys)] (wst m)) := hsp
    simp [hk, ho, ← enc_eta]
    cases o with
    | t u k =>
      simp only [RT] at hsp
      rw [hsp]
      simp [RT, ← enc_eta]
      rfl
    | e e =>
      obtain ⟨k, hsp⟩ := hsp
      rw [hsp]
      exact ⟨k, rfl⟩
    | l _ _ => exact hsp.elim
  | @arNil n bd l s =>
    intro k h xs acc i v hd hb ha hi hx
    have hil : i = xs.length := by have := congrArg List.length hd; simp at this; omega
    show _ = _
    rw [lp6_end _ _ _ _ _ _ _ _ _ hil, List.append_nil]
  | @arErr n bd a ys l s e hl b ih =>
    intro k h xs acc i v hd hb ha hi hx
    have hlt : i < xs.length := by
      have := congrArg List.length hd; simp at this; omega
    have hc : xs.drop i = xs[i] :: xs.drop (i + 1) := List.drop_eq_getElem_cons hlt
    rw [hc] at hd
    obtain ⟨rfl, rfl⟩ := List.cons.inj hd
    subst hb
    obtain ⟨vs, hs⟩ := lp6_step i k h acc xs l s v n hlt hx hl ha
    obtain ⟨m, hm⟩ := ih
    rw [hs, hm]
    exact ⟨m, vs, rfl⟩
  | @arErr2 n m bd a a' ys l s e hl b c ihb ihc =>
    intro k h xs acc i v hd hb ha hi hx
    have hlt : i < xs.length := by
      have := congrArg List.length hd; simp at this; omega
    have hc : xs.drop i = xs[i] :: xs.drop (i + 1) := List.drop_eq_getElem_cons hlt
    rw [hc] at hd
    obtain ⟨rfl, rfl⟩ := List.cons.inj hd
    subst hb
    obtain ⟨vs, hs⟩ := lp6_step i k h acc xs l s v n hlt hx hl ha
    have hb1 : W.call 78 [.ref 2 0, enc xs[i], encSu (belowL' (bindsB k) (xs.drop (i + 1)) l) (belowS' (bindsB k) (xs.drop (i + 1)) s)] (wst n) = some (.ret (enc a'), wst m) := ihb
    have := ihc k h xs (acc ++ [a']) (i + 1) v rfl rfl (by simp [ha]) (by omega) hx
    rw [hs, hb1]
    simp only [obind_some', onRet_ret, onTe, ← enc_eta]
    have e1 : encs acc ++ [enc a'] = encs (acc ++ [a']) := by simp
    rw [e1]
    exact this
  | @arCons n m k' bd a a' ys ys' l s hl b c ihb ihc =>
    intro k h xs acc i v hd hb ha hi hx
    have hlt : i < xs.length := by
      have := congrArg List.length hd; simp at this; omega
    have hc : xs.drop i = xs[i] :: xs.drop (i + 1) := List.drop_eq_getElem_cons hlt
    rw [hc] at hd
    obtain ⟨rfl, rfl⟩ := List.cons.inj hd
    subst hb
    obtain ⟨vs, hs⟩ := lp6_step i k h acc xs l s v n hlt hx hl ha
    have hb1 : W.call 78 [.ref 2 0, enc xs[i], encSu (belowL' (bindsB k) (xs.drop (i + 1)) l) (belowS' (bindsB k) (xs.drop (i + 1)) s)] (wst n) = some (.ret (enc a'), wst m) := ihb
    have := ihc k h xs (acc ++ [a']) (i + 1) v rfl rfl (by simp [ha]) (by omega) hx
    show _ = _
    rw [hs, hb1]
    simp only [obind_some', onRet_ret, onTe, ← enc_eta]
    have e1 : encs acc ++ [enc a'] = encs (acc ++ [a']) := by simp
    rw [e1]
    simpa [lp6] using this
  | @spNil n t =>
    show _ = _
    rw [C, enc_eta, e_subst_work_spine]
    simp [← enc_eta]
    rfl
  | @spMay n t a ys hk ha hm =>
    have h1 := (pmay_spec a ha).p
    refine ⟨n, ?_⟩
    rw [C, enc_eta, e_subst_work_spine]
    have hz : ¬ ((encs (a :: ys)).length : Int) = 0 := by rw [encs_length]; simp
    simp [hk, h1, hm, fail_spec, ← enc_eta]
    rfl
  | @spErr n t a b0 r ys e hk ha hm hb b ih =>
    have h1 := (pmay_spec a ha).p
    obtain ⟨m, hm2⟩ := ih
    refine ⟨m, ?_⟩
    have hm3 : W.call 78 [.ref 2 0, enc b0, .agg [.vec .plain (some 3) [enc a], .int 0]] (wst n) = some (.panic (errV e), wst m) := hm2
    rw [C, enc_eta, e_subst_work_spine]
    simp [hk, h1, hm, hb, hm3, ← enc_eta]
    rfl
  | @spLam n m t a b0 u r ys o hk ha hm hb b c ihb ihc =>
    have h1 := (pmay_spec a ha).p
    have hm3 : W.call 78 [.ref 2 0, enc b0, .agg [.vec .plain (some 3) [enc a], .int 0]] (wst n) = some (.ret (enc u), wst m) := ihb
    have hsp : RT o (W.call 88 [.ref 2 0, enc u, .vec .plain (some 3) (encs ys)] (wst m)) := ihc
    have htk : List.take ys.length (encs ys) = encs ys := List.take_of_length_le (by simp)
    show RT o _
    rw [C, enc_eta, e_subst_work_spine]
    simp [hk, h1, hm, hb, hm3, htk, ← enc_eta]
    cases o with
    | t w k =>
      simp only [RT] at hsp
      rw [hsp]
      simp [RT, ← enc_eta]
      rfl
    | e e =>
      obtain ⟨k, hsp⟩ := hsp
      rw [hsp]
      exact ⟨k, rfl⟩
    | l _ _ => exact hsp.elim
  | @spApp n t a ys hk hs =>
    have hc := (concat_spec t.args (a :: ys) (by simp only [List.length_cons]; omega)).p (h2 := by simp [below, belowL, belowL_app])
    simp only [encs_cons] at hc
    show _ = _
    rw [C, enc_eta, e_subst_work_spine]
    rcases hk with hk | hk | hk
    · simp [hk, hc, onVec, enc]
      rfl
    · simp [hk, hc, onVec, enc]
      rfl
    · simp [hk, hc, onVec, enc]
      rfl
  | @spType n t a ys h3 h2 h4 h5 =>
    refine ⟨n, ?_⟩
    rw [C, enc_eta, e_subst_work_spine]
    simp [h3, h2, h4, h5, fail_spec]
    rfl
end Go.Proofs.GT

namespace Go.Proofs.GT
open Go Go.AM
set_option maxRecDepth 20000

theorem e_subst_done (O : Oracle) (f : Nat) (a b : List V) : doneX Try.prog cfg O 76 [.fn f a b] [] =
  bc (cfg.pure f) (obind (pcall O f (a ++ [V.ref 2 0] ++ b)) fun r1 => onStruct [CT.int, CT.int, CT.slice (some 3)] r1 fun n2 n3 l4 => obind (pcall O 29 [V.agg [V.int n2,
  V.int n3, V.vec .plain (some 3) l4]]) fun r5 => onBool r5 fun b6 => bc (!b6) (obind (O.call 86 [V.int 4] [Res.box [V.int n2, V.int n3, V.vec .plain (some 3) l4], Res.box
  [V.int 0], Res.box [V.int 0]]) fun r7 => onRet r7.fst (fun v8 => onTup v8 fun c9 => onNil c9 (getR r7.snd 0 fun x10 => onBox x10 fun c11 => gd (decide (3 ≤ c11.length) && true)
  (onCells [CT.int, CT.int, CT.slice (some 3)] (List.map plain1 (List.take 3 (List.drop 0 c11))) fun n12 n13 l14 => getR r7.snd 0 fun x15 => onBox x15 fun c16 => gd (decide (3 ≤
  c16.length) && true) (getR (List.set r7.snd 0 (Res.box (setCells c16 0 [V.int n12, V.int n13, V.vec .plain (some 3) l14]))) 1 fun x17 => onBox x17 fun c18 => gd (decide (1 ≤
  c18.length) && true) (getR ((List.set r7.snd 0 (Res.box (setCells c16 0 [V.int n12, V.int n13, V.vec .plain (some 3) l14]))).set 1 (Res.box (setCells c18 0 [V.int 0]))) 0 fun x19
  => onBox x19 fun c20 => gd (decide (3 ≤ c20.length) && true) (getR ((List.set r7.snd 0 (Res.box (setCells c16 0 [V.int n12, V.int n13, V.vec .plain (some 3) l14]))).set 1 (Res.box
  (setCells c18 0 [V.int 0]))) 1 fun x21 => onBox x21 fun c22 => gd (decide (1 ≤ c22.length) && true) (gcE 0 (V.tup [V.agg (List.map plain1 (List.take 3 (List.drop 0 c20))), cleanV
  (AM.partOf c22 0 none)]) ((List.set r7.snd 0 (Res.box (setCells c16 0 [V.int n12, V.int n13, V.vec .plain (some 3) l14]))).set 1 (Res.box (setCells c18 0 [V.int 0])))))))))) fun
  p23 => onIfcI p23 fun t24 n25 => bc (t24.beq 29) (getR r7.snd 0 fun x26 => onBox x26 fun c27 => gd (decide (3 ≤ c27.length) && true) (getR (List.set r7.snd 0 (Res.box (setCells
  c27 0 [V.int 0, V.int 0, V.vec .plain (some 3) []]))) 1 fun x28 => onBox x28 fun c29 => gd (decide (1 ≤ c29.length) && true) (getR ((List.set r7.snd 0 (Res.box (setCells c27 0
  [V.int 0, V.int 0, V.vec .plain (some 3) []]))).set 1 (Res.box (setCells c29 0 [V.int n25]))) 0 fun x30 => onBox x30 fun c31 => gd (decide (3 ≤ c31.length) && true) (getR
  ((List.set r7.snd 0 (Res.box (setCells c27 0 [V.int 0, V.int 0, V.vec .plain (some 3) []]))).set 1 (Res.box (setCells c29 0 [V.int n25]))) 1 fun x32 => onBox x32 fun c33 => gd
  (decide (1 ≤ c33.length) && true) (gcE 0 (V.tup [V.agg (List.map plain1 (List.take 3 (List.drop 0 c31))), cleanV (AM.partOf c33 0 none)]) ((List.set r7.snd 0 (Res.box (setCells
  c27 0 [V.int 0, V.int 0, V.vec .plain (some 3) []]))).set 1 (Res.box (setCells c29 0 [V.int n25])))))))) none) (gcE 0 (V.tup [V.agg [V.int n2, V.int n3, V.vec .plain (some 3) l4],
  V.int 0]) [Res.box [V.int n2, V.int n3, V.vec .plain (some 3) l4], Res.box [V.int 0], Res.box [V.int 0]])) (obind (O.call f (a ++ [V.ref 2 0] ++ b) [Res.box [V.int 0, V.int 0,
  V.vec Mode.full (some 3) []], Res.box [V.int 0], Res.box [V.int 0]]) fun r34 => onRet r34.fst (fun v35 => onStruct [CT.int, CT.int, CT.slice (some 3)] v35 fun n36 n37 l38 => getR
  r34.snd 0 fun x39 => onBox x39 fun c40 => gd (decide (3 ≤ c40.length) && true) (getR (List.set r34.snd 0 (Res.box (setCells c40 0 [V.int n36, V.int n37, V.vec .plain (some 3)
  l38]))) 0 fun x41 => onBox x41 fun c42 => gd (decide (3 ≤ c42.length) && true) (onCells [CT.int, CT.int, CT.slice (some 3)] (List.map plain1 (List.take 3 (List.drop 0 c42))) fun
  n43 n44 l45 => obind (pcall O 29 [V.agg [V.int n43, V.int n44, V.vec .plain (some 3) l45]]) fun r46 => onBool r46 fun b47 => bc (!b47) (obind (O.call 86 [V.int
  4] (List.set r34.snd 0 (Res.box (setCells c40 0 [V.int n36, V.int n37, V.vec .plain (some 3) l38])))) fun r48 => onRet r48.fst (fun v49 => onTup v49 fun c50 => onNil c50 (getR
  r48.snd 0 fun x51 => onBox x51 fun c52 => gd (decide (3 ≤ c52.length) && true) (onCells [CT.int, CT.int, CT.slice (some 3)] (List.map plain1 (List.take 3 (List.drop 0 c52))) fun
  n53 n54 l55 => getR r48.snd 0 fun x56 => onBox x56 fun c57 => gd (decide (3 ≤ c57.length) && true) (getR (List.set r48.snd 0 (Res.box (setCells c57 0 [V.int n53, V.int n54, V.vec
  .plain (some 3) l55]))) 1 fun x58 => onBox x58 fun c59 => gd (decide (1 ≤ c59.length) && true) (getR ((List.set r48.snd 0 (Res.box (setCells c57 0 [V.int n53, V.int n54, V.vec
  .plain (some 3) l55]))).set 1 (Res.box (setCells c59 0 [V.int 0]))) 0 fun x60 => onBox x60 fun c61 => gd (decide (3 ≤ c61.length) && true) (getR ((List.set r48.snd 0 (Res.box
  (setCells c57 0 [V.int n53, V.int n54, V.vec .plain (some 3) l55]))).set 1 (Res.box (setCells c59 0 [V.int 0]))) 1 fun x62 => onBox x62 fun c63 => gd (decide (1 ≤ c63.length) &&
  true) (gcE 0 (V.tup [V.agg (List.map plain1 (List.take 3 (List.drop 0 c61))), cleanV (AM.partOf c63 0 none)]) ((List.set r48.snd 0 (Res.box (setCells c57 0 [V.int n53, V.int n54,
  V.vec .plain (some 3) l55]))).set 1 (Res.box (setCells c59 0 [V.int 0])))))))))) fun p64 => onIfcI p64 fun t65 n66 => bc (t65.beq 29) (getR r48.snd 0 fun x67 => onBox x67 fun c68
  => gd (decide (3 ≤ c68.length) && true) (getR (List.set r48.snd 0 (Res.box (setCells c68 0 [V.int 0, V.int 0, V.vec .plain (some 3) []]))) 1 fun x69 => onBox x69 fun c70 => gd
  (decide (1 ≤ c70.length) && true) (getR ((List.set r48.snd 0 (Res.box (setCells c68 0 [V.int 0, V.int 0, V.vec .plain (some 3) []]))).set 1 (Res.box (setCells c70 0 [V.int n66])))
  0 fun x71 => onBox x71 fun c72 => gd (decide (3 ≤ c72.length) && true) (getR ((List.set r48.snd 0 (Res.box (setCells c68 0 [V.int 0, V.int 0, V.vec .plain (some 3) []]))).set 1
  (Res.box (setCells c70 0 [V.int n66]))) 1 fun x73 => onBox x73 fun c74 => gd (decide (1 ≤ c74.length) && true) (gcE 0 (V.tup [V.agg (List.map plain1 (List.take 3 (List.drop 0
  c72))), cleanV (AM.partOf c74 0 none)]) ((List.set r48.snd 0 (Res.box (setCells c68 0 [V.int 0, V.int 0, V.vec .plain (some 3) []]))).set 1 (Res.box (setCells c70 0 [V.int
  n66])))))))) none) (getR (List.set r34.snd 0 (Res.box (setCells c40 0 [V.int n36, V.int n37, V.vec .plain (some 3) l38]))) 0 fun x75 => onBox x75 fun c76 => gd (decide (3 ≤
  c76.length) && true) (onCells [CT.int, CT.int, CT.slice (some 3)] (List.map plain1 (List.take 3 (List.drop 0 c76))) fun n77 n78 l79 => getR (List.set r34.snd 0 (Res.box (setCells
  c40 0 [V.int n36, V.int n37, V.vec .plain (some 3) l38]))) 0 fun x80 => onBox x80 fun c81 => gd (decide (3 ≤ c81.length) && true) (getR ((List.set r34.snd 0 (Res.box (setCells c40
  0 [V.int n36, V.int n37, V.vec .plain (some 3) l38]))).set 0 (Res.box (setCells c81 0 [V.int n77, V.int n78, V.vec .plain (some 3) l79]))) 1 fun x82 => onBox x82 fun c83 => gd
  (decide (1 ≤ c83.length) && true) (getR (((List.set r34.snd 0 (Res.box (setCells c40 0 [V.int n36, V.int n37, V.vec .plain (some 3) l38]))).set 0 (Res.box (setCells c81 0 [V.int
  n77, V.int n78, V.vec .plain (some 3) l79]))).set 1 (Res.box (setCells c83 0 [V.int 0]))) 0 fun x84 => onBox x84 fun c85 => gd (decide (3 ≤ c85.length) && true) (getR (((List.set
  r34.snd 0 (Res.box (setCells c40 0 [V.int n36, V.int n37, V.vec .plain (some 3) l38]))).set 0 (Res.box (setCells c81 0 [V.int n77, V.int n78, V.vec .plain (some 3) l79]))).set 1
  (Res.box (setCells c83 0 [V.int 0]))) 1 fun x86 => onBox x86 fun c87 => gd (decide (1 ≤ c87.length) && true) (gcE 0 (V.tup [V.agg (List.map plain1 (List.take 3 (List.drop 0
  c85))), cleanV (AM.partOf c87 0 none)]) (((List.set r34.snd 0 (Res.box (setCells c40 0 [V.int n36, V.int n37, V.vec .plain (some 3) l38]))).set 0 (Res.box (setCells c81 0 [V.int
  n77, V.int n78, V.vec .plain (some 3) l79]))).set 1 (Res.box (setCells c83 0 [V.int 0])))))))))))) fun p88 => onIfcI p88 fun t89 n90 => bc (t89.beq 29) (getR r34.snd 0 fun x91 =>
  onBox x91 fun c92 => gd (decide (3 ≤ c92.length) && true) (getR (List.set r34.snd 0 (Res.box (setCells c92 0 [V.int 0, V.int 0, V.vec .plain (some 3) []]))) 1 fun x93 => onBox x93
  fun c94 => gd (decide (1 ≤ c94.length) && true) (getR ((List.set r34.snd 0 (Res.box (setCells c92 0 [V.int 0, V.int 0, V.vec .plain (some 3) []]))).set 1 (Res.box (setCells c94 0
  [V.int n90]))) 0 fun x95 => onBox x95 fun c96 => gd (decide (3 ≤ c96.length) && true) (getR ((List.set r34.snd 0 (Res.box (setCells c92 0 [V.int 0, V.int 0, V.vec .plain (some 3)
  []]))).set 1 (Res.box (setCells c94 0 [V.int n90]))) 1 fun x97 => onBox x97 fun c98 => gd (decide (1 ≤ c98.length) && true) (gcE 0 (V.tup [V.agg (List.map plain1 (List.take 3
  (List.drop 0 c96))), cleanV (AM.partOf c98 0 none)]) ((List.set r34.snd 0 (Res.box (setCells c92 0 [V.int 0, V.int 0, V.vec .plain (some 3) []]))).set 1 (Res.box (setCells c94 0
  [V.int n90])))))))) none) := by kernel_rfl

end Go.Proofs.GT

/-! subst.Apply. -/
namespace Go.Proofs.GT
open Go Go.AM Go.Ama

theorem setC3 (a b c x y z : V) : setCells [a, b, c] 0 [x, y, z] = [x, y, z] := rfl
theorem plI (n : Int) : plain1 (.int n) = .int n := rfl
theorem plV (sh : Sh) (l : List V) : plain1 (.vec .plain sh l) = .vec .plain sh l := rfl
theorem gcE0 (v : V) (a : Res) (st : St) (h : below 0 v = true) : gcE 0 v (a :: st) = some (.ret v, []) := by
  have : Nat.beq (a :: st).length 0 = false := rfl
  unfold gcE
  rw [this]
  simp [h, belowSt]
theorem pure_apply1 : cfg.pure 77 = false := by kernel_rfl

theorem apply1_spec {t : T} {l : List T} {s : Int} {o : Oj} (h : Big (.ap 0 t l s) o) : RT o (W.call 77 [.ref 2 0, .cptr (some 3) (enc t), .cptr (some 2) (encSu l s)] (wst 0)) := by
  have hs : RT o (W.call 78 [.ref 2 0, enc t, encSu l s] (wst 0)) := big_sat h
  rw [C, enc_eta, e_subst_Apply_1, ← enc_eta]
  cases o with
  | t u k =>
    simp only [RT] at hs
    rw [hs]
    simp [RT, ← enc_eta]
    rfl
  | e e =>
    obtain ⟨k, hs⟩ := hs
    rw [hs]
    exact ⟨k, rfl⟩
  | l _ _ => exact hs.elim

theorem ext_done : ext 76 = some (fun O args st => doneX Try.prog cfg O 76 args st) := by
  unfold ext
  rfl

theorem Wdone (args : List V) (st : St) : W.call 76 args st = doneX Try.prog cfg W 76 args st :=
  Cx (x := fun O args st => doneX Try.prog cfg O 76 args st) 76 args st ext_done

theorem done_spec {t : T} {l : List T} {s : Int} {o : Oj} (h : Big (.ap 0 t l s) o) (hs : smallO o) :
    W.call 76 [.fn 77 [] [.cptr (some 3) (enc t), .cptr (some 2) (encSu l s)]] [] = some (.ret (.tup [enc (toldR o).1, .int (toldR o).2]), []) := by
  have h1 := apply1_spec h
  rw [Wdone, e_subst_done, pure_apply1]
  simp only [bc_false, List.nil_append, List.singleton_append]
  cases o with
  | t u k =>
    simp only [RT] at h1
    have hm := (pmay_spec u hs).p
    have h2 : W.call 77 [.ref 2 0, .cptr (some 3) (enc t), .cptr (some 2) (encSu l s)] [bx0, bx1, .box [.int 0]] = some (.ret (enc u), wst k) := h1
    rw [h2]
    have hf : W.call 86 [.int 4] [.box [.int u.k, .int u.h, .vec .plain (some 3) (encs u.args)], bx1, .box [.int (k : Int)]] = some (.panic (errV 4), [.box [.int u.k, .int u.h, .vec .plain (some 3) (encs u.args)], bx1, .box [.int (k : Int)]]) := by
      rw [C, e_subst_fail]
      simp [below, belowSt, belowRes, belowL]
    cases hmu : may u with
    | true =>
      have e : toldR (.t u k) = (u, 0) := by simp [toldR, hmu]
      rw [hmu] at hm
      rw [e]
      simp [setC3, plI, plV, hm, ← enc_eta]
      exact gcE0 _ _ _ (by simp [below, belowL])
    | false =>
      have e : toldR (.t u k) = (.mk 0 0 [], 4) := by simp [toldR, hmu]
      rw [hmu] at hm
      rw [e]
      simp [setC3, plI, plV, hm, ← enc_eta]
      rw [hf]
      rfl
  | e e =>
    obtain ⟨k, h1⟩ := h1
    have h2 : W.call 77 [.ref 2 0, .cptr (some 3) (enc t), .cptr (some 2) (encSu l s)] [bx0, bx1, .box [.int 0]] = some (.panic (errV e), wst k) := h1
    rw [h2]
    simp [toldR]
    rfl
  | l _ _ => exact h1.elim

theorem Apply_spec {t : T} {l : List T} {s : Int} {o : Oj} (ht : t.size ≤ 1099511627776) (hl : sizes l ≤ 1099511627776) (h : may t = true → maySu l s = true → Big (.ap 0 t l s) o ∧ smallO o) :
    Ev 70 [enc t, encSu l s] (.tup [enc (applyR t l s o).1, .int (applyR t l s o).2]) := by
  have h1 := (pmay_spec t ht).p
  have h2 := (smay_spec l s hl).p
  unfold Ev
  rw [C, enc_eta t, e_subst_Apply, ← enc_eta, h1]
  cases hm : may t with
  | false => simp [applyR, hm, enc]
  | true =>
    simp only [obind_some', onBool_bool, Bool.not_true, bc_false]
    rw [h2]
    cases hs : maySu l s with
    | false => simp [applyR, hm, hs, enc]
    | true =>
      obtain ⟨hb, hsm⟩ := h hm hs
      have h3 := done_spec hb hsm
      have e : applyR t l s o = toldR o := by simp [applyR, hm, hs]
      rw [e]
      simp [h3, ← enc_eta]
      simp [below, belowL, belowSt, gd]
theorem ApplyF_spec {β : Int} (hβ : okBase β) {t : T} {l : List T} {s : Int} (ht : t.size ≤ 1099511627776) (hl : sizes l ≤ 1099511627776) (h1 : may t = true → okB β t) (h2 : maySu l s = true → ∀ x ∈ l, okB β x) :
    Ev 70 [enc t, encSu l s] (.tup [enc (applyF t l s).1, .int (applyF t l s).2]) :=
  Apply_spec ht hl fun m1 m2 => by
    obtain ⟨b, _, c⟩ := outF_ok hβ (h1 m1) (h2 m2) m1 m2
    exact ⟨b, c⟩
end Go.Proofs.GT

/-! The most general term of a type. -/
namespace Go.Ama
open Go Go.AM

def var (i : Nat) : T := .mk 4 i []
/-- The variables of a context of n entries. -/
def vars (n : Nat) : List T := (List.range n).reverse.map var
theorem vars_length (n : Nat) : (vars n).length = n := by simp [vars]
theorem vars_get {n j : Nat} (h : j < (vars n).length) : (vars n)[j] = .mk 4 ((n : Int) - 1 - j) [] := by
  rw [vars_length] at h
  simp only [vars, List.getElem_map, List.getElem_reverse, List.length_range, List.getElem_range, var]
  congr 1
  omega
theorem enc_var (i : Int) : enc (.mk 4 i []) = .agg [.int 4, .int i, .vec .plain (some 3) []] := rfl

theorem any_loop {α β : Type} {L : Int → Option α} {xs : List β} {g : β → Bool} {e0 : α} {e1 : Int → α} (hstep : ∀ (i : Nat) (h : i < xs.length), L i = if g xs[i] = true then some (e1 i) else L ((i + 1 : Nat) : Int)) (hend : L (xs.length : Nat) = some e0) :
    (xs.any g = false ∧ L 0 = some e0) ∨ (xs.any g = true ∧ ∃ i : Nat, L 0 = some (e1 i)) := by
  have : ∀ d i : Nat, i + d = xs.length → ((xs.drop i).any g = false ∧ L i = some e0) ∨ ((xs.drop i).any g = true ∧ ∃ j : Nat, L i = some (e1 j)) := by
    intro d
    induction d with
    | zero =>
      intro i hi
      have : i = xs.length := by omega
      subst this
      rw [List.drop_length]
      exact .inl ⟨rfl, hend⟩
    | succ d ih =>
      intro i hi
      have hlt : i < xs.length := by omega
      rw [List.drop_eq_getElem_cons hlt, List.any_cons, hstep i hlt]
      cases hg : g xs[i] with
      | true => exact .inr ⟨rfl, i, by simp⟩
      | false =>
        rcases ih (i + 1) (by omega) with ⟨h1, h2⟩ | ⟨h1, j, h2⟩
        · exact .inl ⟨by rw [h1]; rfl, by simpa using h2⟩
        · exact .inr ⟨by rw [h1]; rfl, j, by simpa using h2⟩
  have := this xs.length 0 (by omega)
  rw [List.drop_zero] at this
  exact this

def lamN : Nat → T → T
  | 0, t => t
  | n + 1, t => lamN n (.mk 3 0 [t])
/-- The document's, and the program's, answer. -/
def general (ctx : List T) (a : T) (n : Int) : List T × T × T × Int :=
  if (!may a || (ctx.any (fun t => !may t) || (decide (n < 0) || decide (40 < ctx.length + (split a).1.length)))) = true then ([], T0, T0, 1)
  else if ((ctx ++ (split a).1).any (fun t => !decide (t.k = 2)) || !decide ((split a).2.k = 2)) = true then ([], T0, T0, 5)
  else (ctx ++ (split a).1, (split a).2, lamN (split a).1.length (.mk 6 n (vars (ctx.length + (split a).1.length))), 0)
def encMD (ctx : List T) (t : T) : V := .agg [.vec .plain (some 3) (encs ctx), .int t.k, .int t.h, .vec .plain (some 3) (encs t.args), .bool false]
def encG (x : List T × T × T × Int) : V := .tup [encMD x.1 x.2.1, enc x.2.2.1, .int x.2.2.2]

theorem below_encG (x : List T × T × T × Int) : below 0 (encG x) = true := by simp [encG, encMD, below, belowL]

theorem lamN_succ : ∀ (n : Nat) (t : T), lamN (n + 1) t = .mk 3 0 [lamN n t]
  | 0, t => rfl
  | n + 1, t => by rw [lamN, lamN_succ n]; rfl

end Go.Ama

/-! Metas, and cases of them. -/
namespace Go.Ama
open Go Go.AM

@[simp] theorem getI_1 (a b : V) (l : List V) : getI (a :: b :: l) 1 = b := rfl

structure M where
  ctx : List T
  t : T
  param : Bool
def encM (m : M) : V := .agg [.vec .plain (some 3) (encs m.ctx), .int m.t.k, .int m.t.h, .vec .plain (some 3) (encs m.t.args), .bool m.param]
def encMs (l : List M) : List V := l.map encM
@[simp] theorem encMs_length (l : List M) : (encMs l).length = l.length := by simp [encMs]
@[simp] theorem encMs_nil : encMs [] = [] := rfl
@[simp] theorem encMs_append (a b : List M) : encMs (a ++ b) = encMs a ++ encMs b := by simp [encMs]
@[simp] theorem encMs_cons (a : M) (b : List M) : encMs (a :: b) = encM a :: encMs b := rfl
theorem getI_encMs {l : List M} {i : Nat} (h : i < l.length) : getI (encMs l) (i : Int) = encM l[i] := by
  simp [getI, encMs, List.getD_eq_getElem?_getD, List.getElem?_map, h]
theorem below_encM (n : Nat) (m : M) : below n (encM m) = true := by simp [encM, below, belowL, below_encs]
@[simp] theorem below_encMs (n : Nat) : ∀ l : List M, belowL n (encMs l) = true
  | [] => rfl
  | d :: l => by simp [belowL, below_encM, below_encMs n l]
theorem encMD_eq (ctx : List T) (t : T) : encMD ctx t = encM ⟨ctx, t, false⟩ := rfl
section
variable {R : Type}
@[simp] theorem onM (m : M) (K : List V → Int → Int → List V → Bool → Option R) : onStruct (R := R) [CT.slice (some 3), CT.int, CT.int, CT.slice (some 3), CT.bool] (encM m) K = K (encs m.ctx) m.t.k m.t.h (encs m.t.args) m.param := rfl
@[simp] theorem onMg (l l2 : List V) (a b : Int) (c : Bool) (K : List V → Int → Int → List V → Bool → Option R) : onStruct (R := R) [CT.slice (some 3), CT.int, CT.int, CT.slice (some 3), CT.bool] (.agg [.vec .plain (some 3) l, .int a, .int b, .vec .plain (some 3) l2, .bool c]) K = K l a b l2 c := rfl
end
theorem encM_eta (m : M) : encM m = .agg [.vec .plain (some 3) (encs m.ctx), .int m.t.k, .int m.t.h, .vec .plain (some 3) (encs m.t.args), .bool m.param] := rfl

structure Cs where
  ms : List M
  q : T
  t : T
def encC (c : Cs) : V := .agg [.vec .plain (some 5) (encMs c.ms), .int c.q.k, .int c.q.h, .vec .plain (some 3) (encs c.q.args), .int c.t.k, .int c.t.h, .vec .plain (some 3) (encs c.t.args)]
def encCs (l : List Cs) : List V := l.map encC
@[simp] theorem encCs_length (l : List Cs) : (encCs l).length = l.length := by simp [encCs]
@[simp] theorem encCs_nil : encCs [] = [] := rfl
@[simp] theorem encCs_append (a b : List Cs) : encCs (a ++ b) = encCs a ++ encCs b := by simp [encCs]
@[simp] theorem encCs_cons (a : Cs) (b : List Cs) : encCs (a :: b) = encC a :: encCs b := rfl
theorem getI_encCs {l : List Cs} {i : Nat} (h : i < l.length) : getI (encCs l) (i : Int) = encC l[i] := by
  simp [getI, encCs, List.getD_eq_getElem?_getD, List.getElem?_map, h]
theorem below_encC (n : Nat) (m : Cs) : below n (encC m) = true := by simp [encC, below, belowL, below_encs]
@[simp] theorem below_encCs (n : Nat) : ∀ l : List Cs, belowL n (encCs l) = true
  | [] => rfl
  | d :: l => by simp [belowL, below_encC, below_encCs n l]
section
variable {R : Type}
@[simp] theorem onC (c : Cs) (K : List V → Int → Int → List V → Int → Int → List V → Option R) : onStruct (R := R) [CT.slice (some 5), CT.int, CT.int, CT.slice (some 3), CT.int, CT.int, CT.slice (some 3)] (encC c) K = K (encMs c.ms) c.q.k c.q.h (encs c.q.args) c.t.k c.t.h (encs c.t.args) := rfl
@[simp] theorem onSpr_spr (sh : Sh) (es : List V) (r : Nat) (K : List V → Nat → Option R) : onSpr sh (.spr sh es r) K = K es r := by show (if sh = sh then K es r else none) = _; rw [if_pos rfl]
@[simp] theorem onSpare_spare (sh : Sh) (n q : Nat) (K : Sh → Nat → Nat → Option R) : onSpare (.spare sh n q) K = K sh n q := rfl
end

/-! ### what split.Cases tells -/
def C0 : Cs := ⟨[], T0, T0⟩
/-- What a Const is applied to, one by one. -/
noncomputable def constL (psi : List T) : Nat → List M → List T → T → (List M × List T × T) × Int
  | 0, ms, qa, t => ((ms, qa, t), 0)
  | n + 1, ms, qa, t =>
    if t.k = 1 then
      let g := general psi (t.args.getD 0 T0) ms.length
      if g.2.2.2 ≠ 0 then ((ms, qa, t), g.2.2.2) else
      let u := applyF (t.args.getD 1 T0) [g.2.2.1] 0
      if u.2 ≠ 0 then ((ms, qa, t), u.2) else constL psi n (ms ++ [⟨g.1, g.2.1, false⟩]) (qa ++ [g.2.2.1]) u.1
    else ((ms, qa, t), 0)
noncomputable def constC (dl : List M) (psi : List T) (no : Nat) (t : T) : Cs × Int :=
  let r := constL psi (split t).1.length dl [] t
  if r.2 ≠ 0 then (C0, r.2) else if 40 < r.1.1.length then (C0, 4) else (⟨r.1.1, .mk 5 no r.1.2.1, r.1.2.2⟩, 0)
/-- The cases of a list's constants; of the context's variables, the last one first; of what is around. -/
noncomputable def constsC (sig : List D) (dl : List M) (psi : List T) (l : List Nat) : List (Cs × Int) := l.map fun no => constC dl psi no ((sig.map D.t).getD no T0)
def family (t : T) : Int := if (split t).2.k = 2 then (split t).2.h else -1
/-- The declarations that come to a family, from a number on. -/
def consts (fam : Int) : List D → Nat → List Nat
  | [], _ => []
  | d :: ds, i => if 0 ≤ fam ∧ family d.t = fam then i :: consts fam ds (i + 1) else consts fam ds (i + 1)
def encIs (l : List Nat) : List V := l.map fun (i : Nat) => V.int (i : Int)
theorem consts_length (fam : Int) : ∀ (ds : List D) (i : Nat), (consts fam ds i).length ≤ ds.length
  | [], _ => Nat.le_refl _
  | d :: ds, i => by
    have := consts_length fam ds (i + 1)
    unfold consts
    split <;> simp <;> omega
theorem consts_mem (fam : Int) : ∀ (ds : List D) (i k : Nat), k ∈ consts fam ds i → i ≤ k ∧ 0 ≤ fam ∧ ∃ h : k - i < ds.length, family ds[k - i].t = fam
  | d :: ds, i, k, h => by
    unfold consts at h
    have step : k ∈ consts fam ds (i + 1) → i ≤ k ∧ 0 ≤ fam ∧ ∃ h : k - i < (d :: ds).length, family (d :: ds)[k - i].t = fam := fun h => by
      obtain ⟨h1, h2, h3, h4⟩ := consts_mem fam ds (i + 1) k h
      refine ⟨by omega, h2, by simp; omega, ?_⟩
      have e : k - i = (k - (i + 1)) + 1 := by omega
      simp only [e, List.getElem_cons_succ]
      exact h4
    split at h
    · rename_i hc
      rcases List.mem_cons.1 h with rfl | h
      · exact ⟨Nat.le_refl _, hc.1, by simp, by simpa using hc.2⟩
      · exact step h
    · exact step h
theorem below_encIs (l : List Nat) : belowL 0 (encIs l) = true := by
  induction l with
  | nil => rfl
  | cons a l ih => simpa [encIs, belowL, below] using ih
def ownP (f : Int) (t : T) : Bool := decide (0 ≤ f) && decide (family t = f)
def varC (f : Int) (dl : List M) (i : Nat) (t : T) : List (Cs × Int) :=
  if t.k ≠ 2 then [(⟨dl, .mk 4 i [], upP t (i + 1) 0⟩, 5)] else if ownP f t then [(⟨dl, .mk 4 i [], upP t (i + 1) 0⟩, 0)] else []
def varsC (f : Int) (dl : List M) : Nat → List T → List (Cs × Int)
  | _, [] => []
  | i, t :: r => varC f dl i t ++ varsC f dl (i + 1) r
def aroundC (f : Int) (dl : List M) (t : T) : List (Cs × Int) := if ownP f t then [(⟨dl ++ [⟨[], t, true⟩], .mk 6 dl.length [], t⟩, 0)] else []
/-- The first error, or all. -/
def feed : List Cs → List (Cs × Int) → List Cs × Int
  | acc, [] => (acc, 0)
  | acc, (x, e) :: r => if e = 0 then feed (acc ++ [x]) r else (acc, e)
theorem feed_append : ∀ (a b : List (Cs × Int)) (acc : List Cs), feed acc (a ++ b) = if (feed acc a).2 = 0 then feed (feed acc a).1 b else feed acc a
  | [], b, acc => by simp [feed]
  | (x, e) :: a, b, acc => by
    simp only [List.cons_append, feed]
    split
    · exact feed_append a b _
    · rename_i h; simp [h]
end Go.Ama

/-! Lists that hold something so: declarations. -/
namespace Go.Proofs.GT
open Go Go.AM Go.Ama

theorem indexD_spec {g : Nat} {a b : List V} (hp : cfg.pure g = false) {p : D → Bool} (xs : List D) (hs : xs.length ≤ 1099511627776) (st : St) (hg : ∀ t ∈ xs, W.call g (a ++ [encD t] ++ b) st = some (.ret (.bool (p t)), st)) :
    ∀ (n i : Nat), xs.length - i = n → i ≤ xs.length → (∃ j : Nat, (xs.drop i).any p = true ∧ W.loop 68 2 [.int (i : Int), .vec .plain (some 4) (encDs xs), .fn g a b, .int xs.length] st = some (.ret, [.int (j : Int)], st)) ∨
      ((xs.drop i).any p = false ∧ W.loop 68 2 [.int (i : Int), .vec .plain (some 4) (encDs xs), .fn g a b, .int xs.length] st = some (.exit 0, [], st)) := by
  intro n
  induction n with
  | zero =>
    intro i hn hi
    have : i = xs.length := by omega
    subst this
    right
    refine ⟨by simp, ?_⟩
    rw [L, e_slices_IndexFunc_api_Decl_api_Decl_L2]
    simp
  | succ n ih =>
    intro i hn hi
    have hlt : i < xs.length := by omega
    have hx := hg xs[i] (List.getElem_mem hlt)
    have hd : xs.drop i = xs[i] :: xs.drop (i + 1) := List.drop_eq_getElem_cons hlt
    have hstep : W.loop 68 2 [.int (i : Int), .vec .plain (some 4) (encDs xs), .fn g a b, .int xs.length] st =
        bc (p xs[i]) (some (.ret, [.int (i : Int)], st)) (W.loop 68 2 [.int ((i + 1 : Nat) : Int), .vec .plain (some 4) (encDs xs), .fn g a b, .int xs.length] st) := by
      rw [L, e_slices_IndexFunc_api_Decl_api_Decl_L2, getI_encDs hlt]
      rw [wrap_id ⟨by omega, by omega⟩]
      have h1 : (i : Int) < xs.length := by omega
      have e1 : V.agg [V.str (ba xs[i].name), V.int xs[i].t.k, V.int xs[i].t.h, V.vec .plain (some 3) (encs xs[i].t.args)] = encD xs[i] := rfl
      simp only [h1, encDs_length, Int.natCast_nonneg, decide_true, Bool.and_self, gd_true, bc_true, onDe, hp, bc_false, e1, hx, obind_some', onRet_ret, onBool_bool]
      rfl
    rw [hstep, hd, List.any_cons]
    cases hpx : p xs[i] with
    | true => exact .inl ⟨i, rfl, rfl⟩
    | false =>
      simp only [bc, Bool.false_or]
      exact ih (i + 1) (by omega) (by omega)
theorem containsD_spec {g : Nat} {a b : List V} (hp : cfg.pure g = false) {p : D → Bool} (xs : List D) (hs : xs.length ≤ 1099511627776) (st : St) (hg : ∀ t ∈ xs, W.call g (a ++ [encD t] ++ b) st = some (.ret (.bool (p t)), st)) :
    W.call 46 [.vec .plain (some 4) (encDs xs), .fn g a b] st = some (.ret (.bool (xs.any p)), st) := by
  have h := indexD_spec hp xs hs st hg _ 0 rfl (Nat.zero_le _)
  rw [C, e_slices_ContainsFunc_api_Decl_api_Decl, C, e_slices_IndexFunc_api_Decl_api_Decl]
  simp only [List.drop_zero, Int.natCast_zero] at h
  rcases h with ⟨j, h1, h2⟩ | ⟨h1, h2⟩
  · simp [h2, h1, gcE_len]
  · simp [h2, h1, gcE_len]

end Go.Proofs.GT
