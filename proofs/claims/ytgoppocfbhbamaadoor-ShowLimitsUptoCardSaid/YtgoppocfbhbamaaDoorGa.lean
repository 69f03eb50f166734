import Derived.Test.YtgoppocfbhbamaaDoorAMa
import Derived.Test.YtgoppocfbhbamaaDoorProg
import Derived.Test.YtgoppocfbhbamaaDoorChecked
import Derived.Test.YtgoppocfbhbamaaDoorAMd
import Derived.Shelf.Strconv.Itoa3
import Derived.CallsIn
import Derived.KernelRfl
import Derived.Lib.Bytealg
import Derived.Lib.ItoaNum
/- The program's functions, each an equation of the abstract machine checked by the kernel, and what they come to as_ plain Lean. -/
set_option linter.unusedVariables false
set_option linter.unusedSimpArgs false
set_option linter.unusedSectionVars false
namespace Go.Proofs.SW
open Go Go.AM
def hints : Nat → Option FnHints
  | 2 => some ⟨true, [], [], [], [], []⟩
  | 3 => some ⟨true, [], [], [], [], [(4, .ty 4)]⟩
  | 4 => some ⟨true, [], [(8, 1), (8, 4), (8, 5)], [], [], [(6, .ty 4)]⟩
  | 5 => some ⟨true, [], [], [(10, [(12, .ty 30), (1, .any), (13, .ty 3), (10, .ty 30), (2, .loc 24)]), (13, [(14, .ty 3), (12, .ty 30), (1, .any), (13, .ty 3), (10, .ty 30), (2, .loc 24)])], [(10, [(10, .ty 30), (2, .loc 24)]), (13, [(12, .ty 30), (1, .ty 25), (10, .ty 30), (2, .loc 24), (13, .ty 3)])], [(4, .ty 4)]⟩
  | 6 => some ⟨true, [], [], [], [], [(2, .ty 4)]⟩
  | 7 => some ⟨true, [], [], [], [], [(0, .ty 4)]⟩
  | 8 => some ⟨true, [], [], [(4, [(3, .ty 3), (0, .any)])], [(4, [])], [(2, .ty 4)]⟩
  | 9 => some ⟨true, [], [], [], [], [(6, .ty 4)]⟩
  | 10 => some ⟨true, [], [], [(2, [(3, .ty 3), (0, .any)])], [(2, [])], [(2, .ty 4)]⟩
  | 11 => some ⟨true, [12], [(3, 1), (0, 1), (2, 0), (6, 4)], [], [], [(4, .ty 29), (5, .ty 30)]⟩
  | 12 => some ⟨true, [], [(0, 1), (3, 0), (7, 0)], [], [], [(4, .ty 29), (5, .ty 30)]⟩
  | 13 => some ⟨true, [], [(16, 8), (16, 0), (16, 9), (0, 0), (12, 0), (15, 1)], [(3, [(15, .ty 3), (4, .mp), (13, .any), (0, .any), (14, .ty 3)]), (9, [(27, .ty 3), (7, .grow none), (0, .any), (4, .mp), (25, .any), (26, .ty 3)])], [(3, [(0, .ty 25), (4, .mp)]), (9, [(7, .grow none)])], [(2, .ty 29), (3, .ty 30)]⟩
  | 14 => some ⟨true, [], [(16, 6), (16, 0), (16, 7), (17, 1), (17, 0), (17, 2), (18, 2), (18, 0), (18, 3), (19, 1), (19, 0), (19, 2), (0, 0), (12, 0), (15, 1)], [(3, [(5, .ty 3), (0, .any), (4, .grow none)]), (7, [(7, .ty 3), (5, .ty 3), (0, .any), (4, .grow none), (6, .ty 4)])], [(3, [(4, .grow none)]), (7, [(0, .ty 25), (5, .ty 3), (4, .grow none), (6, .ty 4)])], [(2, .ty 29), (3, .ty 30)]⟩
  | 15 => some ⟨true, [], [], [], [], [(2, .ty 4)]⟩
  | 16 => some ⟨true, [], [], [], [], [(2, .ty 4)]⟩
  | 17 => some ⟨true, [], [], [], [], [(6, .ty 4)]⟩
  | 18 => some ⟨true, [19], [], [], [], [(4, .locA (some 3)), (5, .ty 30)]⟩
  | 19 => some ⟨true, [], [(0, 0)], [], [], [(0, .ty 25)]⟩
  | 20 => some ⟨true, [], [], [(4, [(31, .ty 3), (3, .loc 24), (29, .any), (30, .ty 3)])], [(4, [])], [(4, .ty 4)]⟩
  | 21 => some ⟨true, [], [], [(4, [(3, .ty 3), (1, .loc 24)])], [(4, [])], [(2, .ty 4)]⟩
  | 22 => some ⟨true, [], [], [(3, [(4, .ty 3), (1, .loc 24), (3, .ty 3)])], [(3, [(3, .ty 3)])], [(2, .ty 3)]⟩
  | 23 => some ⟨true, [], [], [(3, [(4, .ty 3), (3, .ty 3), (1, .loc 24)])], [(3, [(3, .ty 3)])], [(2, .ty 3)]⟩
  | 24 => some ⟨false, [], [], [(4, [(17, .ty 3), (5, .any), (3, .any), (15, .any), (16, .ty 3)])], [(4, [])], []⟩
  | 25 => some ⟨true, [], [(7, 2), (7, 0), (7, 3), (8, 3), (8, 0), (8, 6), (0, 0)], [(4, [(9, .ty 3), (3, .grow none), (4, .ty 3), (7, .any), (8, .ty 3)])], [(4, [(3, .grow none)])], [(2, .ty 29)]⟩
  | 26 => some ⟨true, [], [], [], [], [(2, .ty 4)]⟩
  | 27 => some ⟨true, [], [], [(4, [(7, .ty 3), (2, .ty 3), (3, .loc 24), (1, .ty 3)])], [(4, [])], [(6, .ty 4)]⟩
  | 28 => some ⟨true, [], [], [(4, [(5, .ty 3), (1, .ty 3), (2, .loc 24)])], [(4, [])], [(4, .ty 4)]⟩
  | 29 => some ⟨true, [], [(6, 2), (6, 0), (6, 3), (7, 6), (7, 0), (7, 7), (0, 0)], [(3, [(4, .ty 3), (0, .any), (3, .grow none)])], [(3, [(3, .grow none)])], [(2, .ty 29)]⟩
  | 30 => some ⟨true, [], [(6, 8), (6, 0), (6, 9), (7, 3), (7, 0), (7, 4), (8, 9), (8, 0), (8, 10), (12, 9), (12, 0), (12, 10), (16, 8), (16, 0), (16, 9), (17, 9), (17, 0), (17, 10), (24, 5), (24, 0), (24, 6), (25, 3), (25, 0), (25, 4), (26, 5), (26, 0), (26, 6), (27, 3), (27, 0), (27, 4), (0, 1)], [(19, [(10, .ty 3), (2, .ty 3), (1, .any), (9, .grow (some 2)), (3, .loc 24)])], [(19, [(9, .grow (some 2))])], [(6, .ty 47)]⟩
  | 31 => some ⟨true, [], [], [], [], [(2, .ty 4)]⟩
  | 32 => some ⟨true, [], [(13, 6), (13, 0), (13, 7), (16, 6), (16, 0), (16, 7), (0, 0), (2, 0), (8, 0)], [(1000000, [(5, .grow (some 2)), (4, .ty 9), (2, .any), (3, .ty 30)])], [(1000000, [(2, .ty 47), (3, .ty 30)])], [(2, .ty 47), (3, .ty 30)]⟩
  | 33 => some ⟨true, [], [], [(3, [(9, .ty 3), (3, .ty 3), (7, .any), (8, .ty 3)])], [(3, [(3, .ty 3)])], [(2, .ty 3)]⟩
  | 34 => some ⟨true, [3], [], [(3, [(3, .any)])], [], [(2, .ty 3)]⟩
  | 35 => some ⟨false, [4], [], [(4, [(4, .any), (3, .any)])], [], [(4, .ref)]⟩
  | 36 => some ⟨true, [], [], [], [], [(4, .ty 4)]⟩
  | 37 => some ⟨true, [], [], [], [], [(2, .ty 4)]⟩
  | 38 => some ⟨false, [], [], [], [], [(6, .ty 4)]⟩
  | 39 => some ⟨false, [], [], [], [], [(2, .locA (some 3))]⟩
  | 40 => some ⟨false, [], [], [], [], []⟩
  | 41 => some ⟨false, [], [(0, 8), (0, 4), (0, 11)], [], [], []⟩
  | 42 => some ⟨false, [], [], [], [], []⟩
  | 43 => some ⟨false, [], [], [], [], []⟩
  | 44 => some ⟨false, [], [], [], [], []⟩
  | 45 => some ⟨false, [], [(3, 8), (3, 4), (3, 11)], [(1, [(8, .ty 3), (0, .ref), (6, .any), (7, .ty 3)])], [(1, [])], []⟩
  | 46 => some ⟨false, [], [], [], [], []⟩
  | 47 => some ⟨false, [], [], [], [], []⟩
  | 48 => some ⟨true, [], [], [], [], [(2, .ty 4)]⟩
  | 49 => some ⟨false, [], [], [], [], []⟩
  | 50 => some ⟨true, [], [], [(19, [(3, .ty 3), (1, .loc 24)])], [(19, [])], [(2, .ty 4)]⟩
  | 51 => some ⟨true, [], [], [], [], [(4, .ty 3)]⟩
  | 52 => some ⟨true, [], [], [], [], [(2, .locA (some 2))]⟩
  | 53 => some ⟨true, [], [], [], [], [(2, .locA (some 2))]⟩
  | 54 => some ⟨true, [], [], [], [], [(2, .locA (some 2))]⟩
  | 55 => some ⟨true, [], [], [], [], [(2, .ty 4)]⟩
  | 56 => some ⟨true, [], [(15, 9), (15, 0), (15, 10), (25, 8), (25, 0), (25, 9), (0, 0), (2, 0), (18, 0)], [(5, [(5, .ty 3), (0, .any), (4, .grow (some 2))]), (12, [(5, .ty 3), (0, .any), (4, .grow (some 2))]), (20, [(0, .any), (9, .ty 3), (5, .ty 3), (4, .grow (some 2)), (8, .ty 4)])], [(5, [(4, .grow (some 2))]), (12, [(5, .ty 3), (0, .ty 29), (4, .grow (some 2))]), (20, [(0, .ty 29), (9, .ty 3), (5, .ty 3), (4, .grow (some 2))])], [(2, .ty 47), (3, .ty 30)]⟩
  | 57 => some ⟨true, [], [], [], [], [(2, .ty 4)]⟩
  | 58 => some ⟨true, [], [], [], [], [(2, .ty 3)]⟩
  | 59 => some ⟨true, [], [], [], [], [(4, .ty 4)]⟩
  | 60 => some ⟨true, [], [], [], [], [(2, .ty 4)]⟩
  | 61 => some ⟨true, [], [], [(2, [(0, .ty 9), (6, .any)])], [(2, [(0, .ty 9)])], [(2, .ty 3)]⟩
  | 62 => some ⟨false, [], [], [], [], [(2, .any)]⟩
  | 63 => some ⟨false, [], [], [], [], [(6, .locA (some 3))]⟩
  | 64 => some ⟨true, [], [], [], [], [(2, .ty 9)]⟩
  | 65 => some ⟨true, [], [], [(2, [(0, .ty 3), (3, .ty 9)])], [(2, [])], [(2, .ty 9)]⟩
  | 66 => some ⟨true, [], [], [], [], [(2, .ty 4)]⟩
  | 67 => some ⟨true, [], [], [], [], [(2, .ty 4)]⟩
  | 68 => some ⟨true, [], [], [], [], [(4, .ty 3)]⟩
  | 69 => some ⟨true, [], [], [(1000001, [(8, .ty 3), (9, .ty 3), (1, .ty 21), (0, .ty 9), (7, .ty 9), (4, .ty 3)]), (5, [(8, .ty 3), (1, .ty 21), (0, .ty 9), (7, .ty 9), (10, .ty 3), (9, .ty 3)]), (1000000, [(8, .ty 3), (1, .ty 21), (0, .ty 9), (7, .ty 9), (9, .ty 3), (10, .ty 3)]), (12, [(8, .ty 3), (1, .ty 21), (0, .ty 9), (7, .ty 9), (9, .ty 3), (10, .ty 3), (12, .ty 3)]), (1000002, [(9, .ty 3), (8, .ty 3), (7, .ty 9), (0, .ty 9), (15, .ty 5), (14, .ty 5)]), (25, [(9, .ty 3), (8, .ty 3), (7, .ty 9), (0, .ty 9), (15, .ty 5), (14, .ty 5)]), (29, [(8, .ty 3), (7, .ty 9), (0, .ty 9), (15, .ty 5), (14, .ty 5), (9, .ty 3), (16, .ty 3)]), (38, [(175, .any)])], [(1000001, [(4, .ty 3)]), (5, [(8, .ty 3), (9, .ty 3), (1, .ty 21), (0, .ty 9), (7, .ty 9)]), (1000000, [(8, .ty 3), (1, .ty 21), (0, .ty 9), (7, .ty 9), (10, .ty 3), (9, .ty 3)]), (12, [(8, .ty 3), (9, .ty 3), (1, .ty 21), (0, .ty 9), (7, .ty 9), (10, .ty 3)]), (1000002, []), (25, []), (29, [(8, .ty 3), (9, .ty 3), (7, .ty 9), (0, .ty 9), (15, .ty 5), (14, .ty 5)]), (38, [])], [(4, .ty 3)]⟩
  | 70 => some ⟨false, [], [], [], [], []⟩
  | 71 => some ⟨false, [], [], [(4, [(18, .ty 3), (2, .any), (3, .loc 24), (1, .ty 3), (16, .any), (17, .ty 3)])], [(4, [])], [(6, .ty 4)]⟩
  | 72 => some ⟨false, [], [], [], [], [(4, .ty 4)]⟩
  | 73 => some ⟨false, [], [], [], [], []⟩
  | 74 => some ⟨false, [], [], [], [], [(2, .ty 9)]⟩
  | 75 => some ⟨false, [], [(1, 9)], [], [], [(8, .locA (some 3))]⟩
  | 76 => some ⟨false, [], [(10, 7), (10, 1), (10, 9), (8, 3)], [(9, [(8, .dloc (some 3) [.ct .int, .ct .int, .grow (some 3)]), (2, .ty 3), (1, .any), (0, .ref), (6, .locA (some 3))])], [(9, [(6, .locA (some 3)), (8, .dloc (some 3) [.ct .int, .ct .int, .grow (some 3)])])], [(6, .locA (some 3))]⟩
  | 77 => some ⟨true, [], [], [], [], [(2, .ty 9)]⟩
  | 78 => some ⟨true, [], [], [], [], [(4, .ty 3)]⟩
  | 79 => some ⟨true, [], [], [], [], [(2, .ty 4)]⟩
  | 80 => some ⟨true, [], [], [], [], [(2, .ty 3)]⟩
  | 82 => some ⟨true, [], [], [], [], [(2, .ty 4)]⟩
  | 83 => some ⟨false, [], [], [], [], [(4, .ty 9)]⟩
  | 84 => some ⟨false, [], [], [], [], [(2, .ty 4)]⟩
  | 85 => some ⟨false, [], [], [], [], [(4, .locA (some 3))]⟩
  | 86 => some ⟨false, [], [], [], [], [(6, .locA (some 3))]⟩
  | 87 => some ⟨false, [], [(5, 1), (10, 0), (12, 1), (13, 1)], [(2, [(6, .locA (some 3)), (11, .ty 3), (4, .loc 9), (2, .any), (0, .ref), (10, .ty 3)])], [(2, [(6, .locA (some 3)), (0, .ref), (4, .loc 9)])], [(6, .locA (some 3))]⟩
  | 88 => some ⟨false, [], [], [], [], [(6, .locA (some 3))]⟩
  | 89 => some ⟨true, [], [], [], [], [(4, .ty 9)]⟩
  | 91 => some ⟨false, [], [], [(2, [(8, .ty 3), (0, .any), (1, .any), (7, .ty 3)])], [(2, [])], [(4, .ty 3)]⟩
  | 92 => some ⟨false, [], [], [], [], [(3, .ty 4)]⟩
  | 93 => some ⟨true, [], [], [], [], [(2, .ty 4)]⟩
  | 94 => some ⟨true, [], [], [], [], [(2, .ty 9)]⟩
  | 95 => some ⟨true, [], [], [], [], [(2, .ty 3)]⟩
  | 96 => some ⟨true, [], [], [(1, [(4, .ty 3), (0, .any), (1, .ty 98)])], [(1, [(0, .ty 29), (4, .ty 3), (1, .ty 98)])], []⟩
  | 97 => some ⟨true, [], [(29, 3), (29, 0), (29, 4)], [(18, [(12, .loc 106), (17, .ty 98), (1, .ty 98), (13, .ty 3), (11, .ty 9), (0, .any), (10, .grow none), (4, .ty 4), (3, .ty 4)]), (11, [(14, .ty 89), (1, .ty 98), (12, .loc 106), (16, .ty 89), (13, .ty 3), (11, .ty 9), (0, .any), (10, .grow none), (4, .ty 4), (3, .ty 4), (15, .ty 98)])], [(18, [(11, .ty 9), (12, .loc 106), (0, .ty 29), (10, .grow none), (4, .ty 4), (3, .ty 4), (1, .ty 98), (13, .ty 3)]), (11, [(11, .ty 9), (12, .loc 106), (0, .ty 29), (10, .grow none), (4, .ty 4), (3, .ty 4), (1, .ty 98), (13, .ty 3)])], [(10, .grow none), (11, .ty 9)]⟩
  | 98 => some ⟨true, [1], [], [(3, [(1, .any)])], [], [(2, .locA (some 3))]⟩
  | 99 => some ⟨true, [], [], [], [], [(2, .ty 3)]⟩
  | 100 => some ⟨true, [], [], [], [], [(2, .ty 3)]⟩
  | 101 => some ⟨true, [], [], [], [], [(2, .ty 3)]⟩
  | 102 => some ⟨true, [], [], [], [], [(2, .ty 4)]⟩
  | 103 => some ⟨true, [], [], [], [], [(2, .ty 3)]⟩
  | 104 => some ⟨false, [1], [], [], [], [(2, .any)]⟩
  | 105 => some ⟨true, [], [], [], [], [(2, .ty 3)]⟩
  | 106 => some ⟨true, [], [], [], [], [(2, .ty 3)]⟩
  | 107 => some ⟨false, [], [], [(0, [(1, .any), (0, .any)])], [(0, [])], []⟩
  | 130 => some ⟨true, [], [], [], [], []⟩
  | _ => none

def cfg : Cfg := Cfg.of hints [87] []
end Go.Proofs.SW

namespace Go.Proofs.SW
open Go Go.AM Go.RowKit
set_option maxRecDepth 100000
theorem names : (Tryd.prog.funcs.all fun fn => fn.name != "runtime.NumGoroutine") = true := by kernel_rfl
theorem growB_ok : ((List.range Tryd.prog.funcs.size).all fun g => match growElem Tryd.prog g with | none => true | some e => false) = true := by kernel_rfl
theorem plainNames : PlainNames Tryd.prog where
  names f fn h e := by
    have := Array.all_eq_true_iff_forall_mem.1 names fn (Array.mem_of_getElem? h)
    simp [e] at this
  grow g e h := by
    have hg : g < Tryd.prog.funcs.size := by
      unfold growElem at h
      split at h
      · rename_i hh; exact (Array.getElem?_eq_some_iff.1 hh).1
      · cases h
    have := List.all_eq_true.1 growB_ok g (List.mem_range.2 hg)
    simp only [h] at this
    cases this
end Go.Proofs.SW

namespace Go.Proofs.SW
open Go Go.AM Go.RowKit
set_option maxRecDepth 100000
noncomputable def ext : Ext := fun f => bif Nat.beq f 64 then some (fun _ args st => itoaX args st) else none
def itoaRen : Go.Shelf.Ren := ⟨fun | 129 => 100 | 171 => 64 | 243 => 77 | 246 => 89 | 283 => 94 | 284 => 95 | 285 => 96 | 286 => 97 | 317 => 99 | 318 => 101 | 319 => 102 | 320 => 103 | 337 => 105 | 338 => 106 | n => n, fun | 0 => 0 | 2 => 2 | 3 => 3 | 4 => 4 | 5 => 5 | 9 => 9 | 20 => 20 | 37 => 29 | 46 => 89 | 51 => 105 | 53 => 98 | 171 => 97 | 173 => 101 | 212 => 104 | 213 => 106 | 232 => 113 | 233 => 114 | n => n, fun | 17 => 1 | 18 => 2 | 19 => 3 | n => n⟩
theorem itoaLays : Lays.n171 Tryd.prog itoaRen where
  mixed := by kernel_rfl
  f129 := Tryd.func100.trans (congrArg some (by kernel_rfl))
  f171 := Tryd.func64.trans (congrArg some (by kernel_rfl))
  f243 := Tryd.func77.trans (congrArg some (by kernel_rfl))
  f246 := Tryd.func89.trans (congrArg some (by kernel_rfl))
  f283 := Tryd.func94.trans (congrArg some (by kernel_rfl))
  f284 := Tryd.func95.trans (congrArg some (by kernel_rfl))
  f285 := Tryd.func96.trans (congrArg some (by kernel_rfl))
  f286 := Tryd.func97.trans (congrArg some (by kernel_rfl))
  f317 := Tryd.func99.trans (congrArg some (by kernel_rfl))
  f318 := Tryd.func101.trans (congrArg some (by kernel_rfl))
  f319 := Tryd.func102.trans (congrArg some (by kernel_rfl))
  f320 := Tryd.func103.trans (congrArg some (by kernel_rfl))
  f337 := Tryd.func105.trans (congrArg some (by kernel_rfl))
  f338 := Tryd.func106.trans (congrArg some (by kernel_rfl))
  t0 := Tryd.underlying0
  a0 := Tryd.isAgg0
  z0 := Tryd.sizeOf0
  v0 := Tryd.zeroValue0
  t2 := Tryd.underlying2
  a2 := Tryd.isAgg2
  z2 := Tryd.sizeOf2
  v2 := Tryd.zeroValue2
  t3 := Tryd.underlying3
  a3 := Tryd.isAgg3
  z3 := Tryd.sizeOf3
  v3 := Tryd.zeroValue3
  t4 := Tryd.underlying4
  a4 := Tryd.isAgg4
  z4 := Tryd.sizeOf4
  v4 := Tryd.zeroValue4
  t5 := Tryd.underlying5
  a5 := Tryd.isAgg5
  z5 := Tryd.sizeOf5
  v5 := Tryd.zeroValue5
  t9 := Tryd.underlying9
  a9 := Tryd.isAgg9
  z9 := Tryd.sizeOf9
  v9 := Tryd.zeroValue9
  t20 := Tryd.underlying20
  a20 := Tryd.isAgg20
  z20 := Tryd.sizeOf20
  v20 := Tryd.zeroValue20
  t37 := Tryd.underlying29
  a37 := Tryd.isAgg29
  z37 := Tryd.sizeOf29
  v37 := Tryd.zeroValue29
  t46 := Tryd.underlying89
  a46 := Tryd.isAgg89
  z46 := Tryd.sizeOf89
  v46 := Tryd.zeroValue89
  t51 := Tryd.underlying105
  a51 := Tryd.isAgg105
  z51 := Tryd.sizeOf105
  v51 := Tryd.zeroValue105
  t53 := Tryd.underlying98
  a53 := Tryd.isAgg98
  z53 := Tryd.sizeOf98
  v53 := Tryd.zeroValue98
  t171 := Tryd.underlying97
  a171 := Tryd.isAgg97
  z171 := Tryd.sizeOf97
  v171 := Tryd.zeroValue97
  t173 := Tryd.underlying101
  a173 := Tryd.isAgg101
  z173 := Tryd.sizeOf101
  v173 := Tryd.zeroValue101
  t212 := Tryd.underlying104
  a212 := Tryd.isAgg104
  z212 := Tryd.sizeOf104
  v212 := Tryd.zeroValue104
  t213 := Tryd.underlying106
  a213 := Tryd.isAgg106
  z213 := Tryd.sizeOf106
  t232 := Tryd.underlying113
  a232 := Tryd.isAgg113
  z232 := Tryd.sizeOf113
  v232 := Tryd.zeroValue113
  t233 := Tryd.underlying114
  a233 := Tryd.isAgg114
  z233 := Tryd.sizeOf114
  v233 := Tryd.zeroValue114
  g17 := by kernel_rfl
  g18 := by kernel_rfl
  g19 := by kernel_rfl
theorem itoaAt : ItoaAt Tryd.prog 64 := ⟨⟨_, Tryd.func64, rfl⟩, fun i hi w => Any.strconv_Itoa_small itoaLays i hi w⟩
theorem extOK : ExtOK Tryd.prog cfg ext := fun f x h O hC hRd args st y hy => by
  unfold ext at h
  cases h64 : Nat.beq f 64
  case true =>
    rw [h64] at h
    cases h
    obtain rfl := Nat.eq_of_beq_eq_true h64
    exact itoaX_ok itoaAt hy
  rw [h64] at h
  cases h
theorem extLim : ExtLim ext := fun f x h => by
  unfold ext at h
  cases h64 : Nat.beq f 64
  case true =>
    rw [h64] at h
    cases h
    exact fun Os O hO args st x hx => .of fun _ => hx
  rw [h64] at h
  cases h
class NoExt (f : Nat) : Prop where
  h : ext f = none
instance : NoExt 2 := ⟨rfl⟩
instance : NoExt 3 := ⟨rfl⟩
instance : NoExt 4 := ⟨rfl⟩
instance : NoExt 5 := ⟨rfl⟩
instance : NoExt 6 := ⟨rfl⟩
instance : NoExt 7 := ⟨rfl⟩
instance : NoExt 8 := ⟨rfl⟩
instance : NoExt 9 := ⟨rfl⟩
instance : NoExt 10 := ⟨rfl⟩
instance : NoExt 11 := ⟨rfl⟩
instance : NoExt 12 := ⟨rfl⟩
instance : NoExt 13 := ⟨rfl⟩
instance : NoExt 14 := ⟨rfl⟩
instance : NoExt 15 := ⟨rfl⟩
instance : NoExt 16 := ⟨rfl⟩
instance : NoExt 17 := ⟨rfl⟩
instance : NoExt 18 := ⟨rfl⟩
instance : NoExt 19 := ⟨rfl⟩
instance : NoExt 20 := ⟨rfl⟩
instance : NoExt 21 := ⟨rfl⟩
instance : NoExt 22 := ⟨rfl⟩
instance : NoExt 23 := ⟨rfl⟩
instance : NoExt 24 := ⟨rfl⟩
instance : NoExt 25 := ⟨rfl⟩
instance : NoExt 26 := ⟨rfl⟩
instance : NoExt 27 := ⟨rfl⟩
instance : NoExt 28 := ⟨rfl⟩
instance : NoExt 29 := ⟨rfl⟩
instance : NoExt 30 := ⟨rfl⟩
instance : NoExt 31 := ⟨rfl⟩
instance : NoExt 32 := ⟨rfl⟩
instance : NoExt 33 := ⟨rfl⟩
instance : NoExt 34 := ⟨rfl⟩
instance : NoExt 35 := ⟨rfl⟩
instance : NoExt 36 := ⟨rfl⟩
instance : NoExt 37 := ⟨rfl⟩
instance : NoExt 38 := ⟨rfl⟩
instance : NoExt 39 := ⟨rfl⟩
instance : NoExt 40 := ⟨rfl⟩
instance : NoExt 41 := ⟨rfl⟩
instance : NoExt 42 := ⟨rfl⟩
instance : NoExt 43 := ⟨rfl⟩
instance : NoExt 44 := ⟨rfl⟩
instance : NoExt 45 := ⟨rfl⟩
instance : NoExt 46 := ⟨rfl⟩
instance : NoExt 47 := ⟨rfl⟩
instance : NoExt 48 := ⟨rfl⟩
instance : NoExt 49 := ⟨rfl⟩
instance : NoExt 50 := ⟨rfl⟩
instance : NoExt 51 := ⟨rfl⟩
instance : NoExt 52 := ⟨rfl⟩
instance : NoExt 53 := ⟨rfl⟩
instance : NoExt 54 := ⟨rfl⟩
instance : NoExt 55 := ⟨rfl⟩
instance : NoExt 56 := ⟨rfl⟩
instance : NoExt 57 := ⟨rfl⟩
instance : NoExt 58 := ⟨rfl⟩
instance : NoExt 59 := ⟨rfl⟩
instance : NoExt 60 := ⟨rfl⟩
instance : NoExt 61 := ⟨rfl⟩
instance : NoExt 62 := ⟨rfl⟩
instance : NoExt 63 := ⟨rfl⟩
instance : NoExt 65 := ⟨rfl⟩
instance : NoExt 66 := ⟨rfl⟩
instance : NoExt 67 := ⟨rfl⟩
instance : NoExt 68 := ⟨rfl⟩
instance : NoExt 69 := ⟨rfl⟩
instance : NoExt 70 := ⟨rfl⟩
instance : NoExt 71 := ⟨rfl⟩
instance : NoExt 72 := ⟨rfl⟩
instance : NoExt 73 := ⟨rfl⟩
instance : NoExt 74 := ⟨rfl⟩
instance : NoExt 75 := ⟨rfl⟩
instance : NoExt 76 := ⟨rfl⟩
instance : NoExt 77 := ⟨rfl⟩
instance : NoExt 78 := ⟨rfl⟩
instance : NoExt 79 := ⟨rfl⟩
instance : NoExt 80 := ⟨rfl⟩
instance : NoExt 82 := ⟨rfl⟩
instance : NoExt 83 := ⟨rfl⟩
instance : NoExt 84 := ⟨rfl⟩
instance : NoExt 85 := ⟨rfl⟩
instance : NoExt 86 := ⟨rfl⟩
instance : NoExt 87 := ⟨rfl⟩
instance : NoExt 88 := ⟨rfl⟩
instance : NoExt 89 := ⟨rfl⟩
instance : NoExt 91 := ⟨rfl⟩
instance : NoExt 92 := ⟨rfl⟩
instance : NoExt 93 := ⟨rfl⟩
instance : NoExt 94 := ⟨rfl⟩
instance : NoExt 95 := ⟨rfl⟩
instance : NoExt 96 := ⟨rfl⟩
instance : NoExt 97 := ⟨rfl⟩
instance : NoExt 98 := ⟨rfl⟩
instance : NoExt 99 := ⟨rfl⟩
instance : NoExt 100 := ⟨rfl⟩
instance : NoExt 101 := ⟨rfl⟩
instance : NoExt 102 := ⟨rfl⟩
instance : NoExt 103 := ⟨rfl⟩
instance : NoExt 104 := ⟨rfl⟩
instance : NoExt 105 := ⟨rfl⟩
instance : NoExt 106 := ⟨rfl⟩
instance : NoExt 107 := ⟨rfl⟩
instance : NoExt 130 := ⟨rfl⟩
end Go.Proofs.SW

/-! Tokens of a text, as_ plain Lean. -/
namespace Go.Ama

abbrev Bytes := List UInt8
abbrev Tok := Int × Bytes

def blank (c : UInt8) : Bool := c == 32 || c == 9 || c == 10
def mark (c : UInt8) : Bool := c == 40 || c == 41 || c == 91 || c == 93 || c == 123 || c == 125 || c == 58 || c == 46
def named (c : UInt8) : Bool := (decide (97 ≤ c) && decide (c ≤ 122)) || (decide (65 ≤ c) && decide (c ≤ 90)) || (decide (48 ≤ c) && decide (c ≤ 57)) || c == 95 || c == 39
def inLine (c : UInt8) : Bool := c != 10

theorem length_dropWhile_le {α : Type} (p : α → Bool) : ∀ l : List α, (l.dropWhile p).length ≤ l.length
  | [] => Nat.le_refl _
  | x :: l => by
    rw [List.dropWhile_cons]
    split
    · have := length_dropWhile_le p l; simp; omega
    · exact Nat.le_refl _

/-- Tokens of a text; none: it has none. -/
def toks : Bytes → Option (List Tok)
  | [] => some []
  | c :: r =>
    if blank c then toks r
    else if c == 37 then toks (r.dropWhile inLine)
    else if mark c then (toks r).map ((1, [c]) :: ·)
    else if named c then (toks (r.dropWhile named)).map ((0, c :: r.takeWhile named) :: ·)
    else none
termination_by l => l.length
decreasing_by
  all_goals first
    | (simp; done)
    | (have := length_dropWhile_le inLine r; simp; omega)
    | (have := length_dropWhile_le named r; simp; omega)

/-- The text of tokens, behind one of a kind. -/
def textFrom : Int → List Tok → Bytes
  | _, [] => []
  | last, (k, s) :: l => (if k = 0 ∧ last = 0 then [32] else []) ++ s ++ textFrom k l
def text (l : List Tok) : Bytes := textFrom 1 l

theorem toks_nil : toks [] = some [] := by unfold toks; rfl
theorem toks_blank {c : UInt8} (r : Bytes) (h : blank c = true) : toks (c :: r) = toks r := by rw [toks, if_pos h]
theorem toks_note {c : UInt8} (r : Bytes) (h : c = 37) : toks (c :: r) = toks (r.dropWhile inLine) := by subst h; rw [toks, if_neg (by decide), if_pos (by decide)]
theorem mark_facts {c : UInt8} (h : mark c = true) : blank c = false ∧ (c == 37) = false ∧ named c = false := by
  simp only [mark, Bool.or_eq_true, beq_iff_eq] at h
  rcases h with ((((((h | h) | h) | h) | h) | h) | h) | h <;> subst h <;> decide
theorem byteAll {p : UInt8 → Prop} (h : ∀ n : Fin 256, p (UInt8.ofNat n.val)) (c : UInt8) : p c := by
  have := h ⟨c.toNat, c.toNat_lt⟩
  simpa using this
theorem named_all : ∀ n : Fin 256, named (UInt8.ofNat n.val) = true → blank (UInt8.ofNat n.val) = false ∧ (UInt8.ofNat n.val == 37) = false ∧ mark (UInt8.ofNat n.val) = false ∧ inLine (UInt8.ofNat n.val) = true := by decide +kernel
theorem named_facts {c : UInt8} (h : named c = true) : blank c = false ∧ (c == 37) = false ∧ mark c = false ∧ inLine c = true := by
  exact byteAll (p := fun c => named c = true → blank c = false ∧ (c == 37) = false ∧ mark c = false ∧ inLine c = true) named_all c h
theorem toks_mark {c : UInt8} (r : Bytes) (h : mark c = true) : toks (c :: r) = (toks r).map ((1, [c]) :: ·) := by
  obtain ⟨h1, h2, _⟩ := mark_facts h
  rw [toks, if_neg (by simp [h1]), if_neg (by simp [h2]), if_pos h]
theorem toks_name {c : UInt8} (r : Bytes) (h : named c = true) : toks (c :: r) = (toks (r.dropWhile named)).map ((0, c :: r.takeWhile named) :: ·) := by
  obtain ⟨h1, h2, h3, _⟩ := named_facts h
  rw [toks, if_neg (by simp [h1]), if_neg (by simp [h2]), if_neg (by simp [h3]), if_pos h]
theorem toks_bad {c : UInt8} (r : Bytes) (h1 : blank c = false) (h2 : (c == 37) = false) (h3 : mark c = false) (h4 : named c = false) : toks (c :: r) = none := by
  rw [toks, if_neg (by simp [h1]), if_neg (by simp [h2]), if_neg (by simp [h3]), if_neg (by simp [h4])]

/-- By the form of a text. -/
theorem bytes_ind {p : Bytes → Prop} (h0 : p []) (h1 : ∀ c r, blank c = true → p r → p (c :: r)) (h2 : ∀ r, p (r.dropWhile inLine) → p (37 :: r)) (h3 : ∀ c r, mark c = true → p r → p (c :: r))
    (h4 : ∀ c r, named c = true → p (r.dropWhile named) → p (c :: r)) (h5 : ∀ c r, blank c = false → (c == 37) = false → mark c = false → named c = false → p (c :: r)) : ∀ l, p l := by
  intro l
  generalize hn : l.length = n
  induction n using Nat.strongRecOn generalizing l with
  | _ n ih =>
    subst hn
    cases l with
    | nil => exact h0
    | cons c r =>
      cases b1 : blank c with
      | true => exact h1 c r b1 (ih r.length (by simp) r rfl)
      | false =>
        cases b2 : c == 37 with
        | true =>
          rw [beq_iff_eq] at b2; subst b2
          exact h2 r (ih _ (by have := length_dropWhile_le inLine r; simp; omega) _ rfl)
        | false =>
          cases b3 : mark c with
          | true => exact h3 c r b3 (ih r.length (by simp) r rfl)
          | false =>
            cases b4 : named c with
            | true => exact h4 c r b4 (ih _ (by have := length_dropWhile_le named r; simp; omega) _ rfl)
            | false => exact h5 c r b1 b2 b3 b4

/-- What a token looks like. -/
def okTok (t : Tok) : Prop := (t.1 = 1 ∧ ∃ c, t.2 = [c] ∧ mark c = true) ∨ (t.1 = 0 ∧ t.2 ≠ [] ∧ ∀ c ∈ t.2, named c = true)

theorem mem_takeWhile {α : Type} {p : α → Bool} : ∀ {l : List α} {x : α}, x ∈ l.takeWhile p → p x = true
  | [], _, h => by simp at h
  | y :: l, x, h => by
    rw [List.takeWhile_cons] at h
    split at h
    · rename_i hy
      rcases List.mem_cons.1 h with rfl | h
      · exact hy
      · exact mem_takeWhile h
    · simp at h

theorem toks_ok : ∀ (b : Bytes) (l : List Tok), toks b = some l → ∀ t ∈ l, okTok t := by
  refine bytes_ind ?_ ?_ ?_ ?_ ?_ ?_
  · intro l h t ht; rw [toks_nil] at h; cases h; simp at ht
  · intro c r hc ih l h; rw [toks_blank r hc] at h; exact ih l h
  · intro r ih l h; rw [toks_note r rfl] at h; exact ih l h
  · intro c r hc ih l h t ht
    rw [toks_mark r hc, Option.map_eq_some_iff] at h
    obtain ⟨l', h, rfl⟩ := h
    rcases List.mem_cons.1 ht with rfl | ht
    · exact .inl ⟨rfl, c, rfl, hc⟩
    · exact ih l' h t ht
  · intro c r hc ih l h t ht
    rw [toks_name r hc, Option.map_eq_some_iff] at h
    obtain ⟨l', h, rfl⟩ := h
    rcases List.mem_cons.1 ht with rfl | ht
    · refine .inr ⟨rfl, by simp, fun x hx => ?_⟩
      rcases List.mem_cons.1 hx with rfl | hx
      · exact hc
      · exact mem_takeWhile hx
    · exact ih l' h t ht
  · intro c r h1 h2 h3 h4 l h; rw [toks_bad r h1 h2 h3 h4] at h; cases h

theorem takeWhile_all {α : Type} {p : α → Bool} : ∀ (a b : List α), (∀ x ∈ a, p x = true) → (∀ x, b.head? = some x → p x = false) → (a ++ b).takeWhile p = a ∧ (a ++ b).dropWhile p = b
  | [], b, _, hb => by
    cases b with
    | nil => exact ⟨rfl, rfl⟩
    | cons x b => simp [List.takeWhile_cons, List.dropWhile_cons, hb x rfl]
  | x :: a, b, ha, hb => by
    obtain ⟨h1, h2⟩ := takeWhile_all a b (fun y hy => ha y (by simp [hy])) hb
    simp [List.takeWhile_cons, List.dropWhile_cons, ha x (by simp), h1, h2]

theorem text_head {k : Int} : ∀ (l : List Tok), (∀ t ∈ l, okTok t) → k = 0 → ∀ x, (textFrom k l).head? = some x → named x = false
  | [], _, _, x, h => by simp [textFrom] at h
  | (j, s) :: l, hl, hk, x, h => by
    subst hk
    rcases hl (j, s) (by simp) with ⟨h1, c, h2, h3⟩ | ⟨h1, h2, h3⟩
    · simp only at h1 h2; subst h1 h2
      have e : (textFrom 0 ((1, [c]) :: l)) = c :: textFrom 1 l := by simp [textFrom]
      rw [e] at h
      simp only [List.head?_cons, Option.some.injEq] at h
      subst h; exact (mark_facts h3).2.2
    · simp only at h1 h2; subst h1
      have e : (textFrom 0 ((0, s) :: l)) = 32 :: (s ++ textFrom 0 l) := by simp [textFrom]
      rw [e] at h
      simp only [List.head?_cons, Option.some.injEq] at h
      subst h; decide

/-- Tokens are read back. -/
theorem toks_textFrom : ∀ (l : List Tok) (k : Int), (∀ t ∈ l, okTok t) → toks (textFrom k l) = some l
  | [], _, _ => toks_nil
  | (j, s) :: l, k, hl => by
    have ih := fun k => toks_textFrom l k fun t ht => hl t (by simp [ht])
    rcases hl (j, s) (by simp) with ⟨h1, c, h2, h3⟩ | ⟨h1, h2, h3⟩
    · simp only at h1 h2; subst h1 h2
      have e : (textFrom k ((1, [c]) :: l)) = c :: textFrom 1 l := by simp [textFrom]
      rw [e, toks_mark _ h3, ih]; rfl
    · simp only at h1 h2; subst h1
      have main : toks (s ++ textFrom 0 l) = some ((0, s) :: l) := by
        cases s with
        | nil => exact absurd rfl h2
        | cons c s =>
          obtain ⟨e1, e2⟩ := takeWhile_all (p := named) s (textFrom 0 l) (fun x hx => h3 x (by simp [hx])) (text_head l (fun t ht => hl t (by simp [ht])) rfl)
          rw [List.cons_append, toks_name _ (h3 c (by simp)), e1, e2, ih]; rfl
      by_cases hk : k = 0
      · have e : (textFrom k ((0, s) :: l)) = 32 :: (s ++ textFrom 0 l) := by simp [textFrom, hk]
        rw [e, toks_blank _ (by decide)]; exact main
      · have e : (textFrom k ((0, s) :: l)) = s ++ textFrom 0 l := by simp [textFrom, hk]
        rw [e]; exact main
theorem toks_text {b : Bytes} {l : List Tok} (h : toks b = some l) : toks (text l) = some l := toks_textFrom l 1 (toks_ok b l h)

/-! ### lengths -/
theorem takeWhile_dropWhile_length {α : Type} (p : α → Bool) (l : List α) : (l.takeWhile p).length + (l.dropWhile p).length = l.length := by
  rw [← List.length_append, List.takeWhile_append_dropWhile]

def weight : List Tok → Nat
  | [] => 0
  | (_, s) :: l => s.length + weight l
theorem toks_weight : ∀ (b : Bytes) (l : List Tok), toks b = some l → weight l ≤ b.length := by
  refine bytes_ind ?_ ?_ ?_ ?_ ?_ ?_
  · intro l h; rw [toks_nil] at h; cases h; simp [weight]
  · intro c r hc ih l h; rw [toks_blank r hc] at h; have := ih l h; simp; omega
  · intro r ih l h; rw [toks_note r rfl] at h; have := ih l h; have := length_dropWhile_le inLine r; simp; omega
  · intro c r hc ih l h
    rw [toks_mark r hc, Option.map_eq_some_iff] at h
    obtain ⟨l', h, rfl⟩ := h
    have := ih l' h; simp [weight]; omega
  · intro c r hc ih l h
    rw [toks_name r hc, Option.map_eq_some_iff] at h
    obtain ⟨l', h, rfl⟩ := h
    have := ih l' h
    have := takeWhile_dropWhile_length named r
    simp [weight]; omega
  · intro c r h1 h2 h3 h4 l h; rw [toks_bad r h1 h2 h3 h4] at h; cases h
theorem length_le_weight : ∀ (l : List Tok), (∀ t ∈ l, okTok t) → l.length ≤ weight l
  | [], _ => by simp [weight]
  | (j, s) :: l, h => by
    have := length_le_weight l fun t ht => h t (by simp [ht])
    have hs : 1 ≤ s.length := by
      rcases h (j, s) (by simp) with ⟨_, c, h2, _⟩ | ⟨_, h2, _⟩
      · simp only at h2; rw [h2]; simp
      · cases s with
        | nil => exact absurd rfl h2
        | cons => simp
    simp [weight]; omega
theorem textFrom_length : ∀ (l : List Tok) (k : Int), (textFrom k l).length ≤ weight l + l.length
  | [], _ => by simp [textFrom]
  | (j, s) :: l, k => by
    have := textFrom_length l j
    simp only [textFrom, weight, List.length_append, List.length_cons]
    split <;> simp <;> omega
theorem text_length {b : Bytes} {l : List Tok} (h : toks b = some l) : (text l).length ≤ 2 * b.length := by
  have h1 := textFrom_length l 1
  have h2 := toks_weight b l h
  have h3 := length_le_weight l (toks_ok b l h)
  unfold text; omega

/-! ### two texts -/
theorem dropWhile_append {α : Type} {p : α → Bool} {x : α} (hx : p x = false) : ∀ (a b : List α), (a ++ x :: b).dropWhile p = a.dropWhile p ++ x :: b ∧ (a ++ x :: b).takeWhile p = a.takeWhile p
  | [], b => by simp [List.dropWhile_cons, List.takeWhile_cons, hx]
  | y :: a, b => by
    obtain ⟨h1, h2⟩ := dropWhile_append hx a b
    rw [List.cons_append, List.dropWhile_cons, List.dropWhile_cons, List.takeWhile_cons, List.takeWhile_cons, h1, h2]
    split <;> simp

/-- A blank between two texts. -/
theorem toks_join (x : UInt8) (hx : blank x = true) (hn : named x = false) : ∀ (a : Bytes), (inLine x = true → (37 : UInt8) ∉ a) → ∀ b : Bytes, toks (a ++ x :: b) = (toks a).bind fun l => (toks b).map (l ++ ·) := by
  refine bytes_ind ?_ ?_ ?_ ?_ ?_ ?_
  · intro _ b; rw [List.nil_append, toks_blank _ hx, toks_nil]; simp
  · intro c r hc ih h b
    rw [List.cons_append, toks_blank _ hc, toks_blank _ hc]
    exact ih (fun hx h' => h hx (by simp [h'])) b
  · intro r ih h b
    have hx2 : inLine x = false := by
      cases e : inLine x with
      | false => rfl
      | true => exact absurd (h e) (by simp)
    obtain ⟨h1, _⟩ := dropWhile_append hx2 r b
    rw [List.cons_append, toks_note _ rfl, toks_note _ rfl, h1]
    exact ih (fun hx => by rw [hx] at hx2; cases hx2) b
  · intro c r hc ih h b
    rw [List.cons_append, toks_mark _ hc, toks_mark _ hc, ih (fun hx h' => h hx (by simp [h'])) b]
    cases toks r <;> cases toks b <;> rfl
  · intro c r hc ih h b
    obtain ⟨h1, h2⟩ := dropWhile_append hn r b
    rw [List.cons_append, toks_name _ hc, toks_name _ hc, h1, h2, ih (fun hx h' => h hx (by simp [(List.dropWhile_sublist _).subset h'])) b]
    cases toks (r.dropWhile named) <;> cases toks b <;> rfl
  · intro c r h1 h2 h3 h4 h b
    rw [List.cons_append, toks_bad _ h1 h2 h3 h4, toks_bad _ h1 h2 h3 h4]; rfl

/-! ### notes -/
def note : Bytes := [32, 9, 37, 32, 97, 32, 40, 110, 111, 116, 101, 10]
def withNotes : Bytes → Bytes
  | [] => []
  | c :: r => if c = 10 then c :: (note ++ withNotes r) else c :: withNotes r
theorem toks_noted (r : Bytes) : toks (note ++ r) = toks r := by
  show toks (32 :: 9 :: 37 :: 32 :: 97 :: 32 :: 40 :: 110 :: 111 :: 116 :: 101 :: 10 :: r) = _
  rw [toks_blank _ (by decide), toks_blank _ (by decide), toks_note _ rfl]
  have : List.dropWhile inLine (32 :: 97 :: 32 :: 40 :: 110 :: 111 :: 116 :: 101 :: 10 :: r) = 10 :: r := by
    simp [List.dropWhile_cons, inLine]
  rw [this, toks_blank _ (by decide)]
theorem withNotes_drop (p : UInt8 → Bool) (hp : p 10 = false) : ∀ r, (withNotes r).dropWhile p = withNotes (r.dropWhile p) ∧ (withNotes r).takeWhile p = r.takeWhile p
  | [] => ⟨rfl, rfl⟩
  | c :: r => by
    obtain ⟨h1, h2⟩ := withNotes_drop p hp r
    by_cases hc : c = 10
    · subst hc; simp [withNotes, List.dropWhile_cons, List.takeWhile_cons, hp]
    · have e : withNotes (c :: r) = c :: withNotes r := by simp [withNotes, hc]
      rw [e, List.dropWhile_cons, List.dropWhile_cons, List.takeWhile_cons, List.takeWhile_cons, h1, h2]
      split
      · exact ⟨rfl, rfl⟩
      · exact ⟨e.symm, rfl⟩
theorem toks_withNotes : ∀ b, toks (withNotes b) = toks b := by
  refine bytes_ind rfl ?_ ?_ ?_ ?_ ?_
  · intro c r hc ih
    by_cases h : c = 10
    · subst h
      have e : withNotes (10 :: r) = 10 :: (note ++ withNotes r) := by simp [withNotes]
      rw [e, toks_blank _ hc, toks_noted, ih, toks_blank _ hc]
    · have e : withNotes (c :: r) = c :: withNotes r := by simp [withNotes, h]
      rw [e, toks_blank _ hc, ih, toks_blank _ hc]
  · intro r ih
    have e : withNotes (37 :: r) = 37 :: withNotes r := by simp [withNotes]
    rw [e, toks_note _ rfl, (withNotes_drop inLine (by decide) r).1, ih, toks_note _ rfl]
  · intro c r hc ih
    have h : c ≠ 10 := by rintro rfl; simp [mark] at hc
    have e : withNotes (c :: r) = c :: withNotes r := by simp [withNotes, h]
    rw [e, toks_mark _ hc, ih, toks_mark _ hc]
  · intro c r hc ih
    have h : c ≠ 10 := by rintro rfl; simp [named] at hc
    have e : withNotes (c :: r) = c :: withNotes r := by simp [withNotes, h]
    obtain ⟨h1, h2⟩ := withNotes_drop named (by decide) r
    rw [e, toks_name _ hc, h1, h2, ih, toks_name _ hc]
  · intro c r h1 h2 h3 h4
    have h : c ≠ 10 := by rintro rfl; simp [blank] at h1
    have e : withNotes (c :: r) = c :: withNotes r := by simp [withNotes, h]
    rw [e, toks_bad _ h1 h2 h3 h4, toks_bad _ h1 h2 h3 h4]

/-- What stands behind a percent sign does not matter. -/
theorem toks_percent (a n b : Bytes) (ha : (37 : UInt8) ∉ a) (hn : ∀ c ∈ n, c ≠ 10) : toks (a ++ 32 :: 37 :: (n ++ 10 :: b)) = toks (a ++ 10 :: b) := by
  rw [toks_join 32 (by decide) (by decide) a (fun _ => ha), toks_join 10 (by decide) (by decide) a (fun h => by simp [inLine] at h)]
  have : toks (37 :: (n ++ 10 :: b)) = toks b := by
    have h2 := (takeWhile_all (p := inLine) n (10 :: b) (fun x hx => by simp [inLine, hn x hx]) (fun x hx => by simp at hx; subst hx; decide)).2
    rw [toks_note _ rfl, h2, toks_blank _ (by decide)]
  rw [this]

/-! ### the bytes of tokens -/
def allOf : List Tok → Bytes
  | [] => []
  | (_, s) :: l => s ++ allOf l
theorem filter_named (r : Bytes) : (r.takeWhile named).filter (fun c => !blank c) = r.takeWhile named := by
  rw [List.filter_eq_self]
  intro c hc
  simp [(named_facts (mem_takeWhile hc)).1]
theorem toks_all : ∀ (b : Bytes), (37 : UInt8) ∉ b → ∀ l, toks b = some l → allOf l = b.filter fun c => !blank c := by
  refine bytes_ind ?_ ?_ ?_ ?_ ?_ ?_
  · intro _ l h; rw [toks_nil] at h; cases h; rfl
  · intro c r hc ih h l hl
    rw [toks_blank r hc] at hl
    rw [ih (fun h' => h (by simp [h'])) l hl, List.filter_cons, hc]; rfl
  · intro r _ h; simp at h
  · intro c r hc ih h l hl
    rw [toks_mark r hc, Option.map_eq_some_iff] at hl
    obtain ⟨l', hl, rfl⟩ := hl
    rw [List.filter_cons, (mark_facts hc).1, ← ih (fun h' => h (by simp [h'])) l' hl]; rfl
  · intro c r hc ih h l hl
    rw [toks_name r hc, Option.map_eq_some_iff] at hl
    obtain ⟨l', hl, rfl⟩ := hl
    have h2 := ih (fun h' => h (by simp [(List.dropWhile_sublist _).subset h'])) l' hl
    have h3 : r.filter (fun c => !blank c) = r.takeWhile named ++ (r.dropWhile named).filter fun c => !blank c := by
      conv => lhs; rw [← List.takeWhile_append_dropWhile (p := named) (l := r)]
      rw [List.filter_append, filter_named]
    rw [List.filter_cons, (named_facts hc).1, h3, ← h2]; rfl
  · intro c r h1 h2 h3 h4 _ l h; rw [toks_bad r h1 h2 h3 h4] at h; cases h

/-! ### one byte, many times -/
theorem toks_replicate (c : UInt8) : ∀ n, 1 ≤ n → (toks (List.replicate n c)).isSome = (toks [c]).isSome := by
  intro n hn
  by_cases h : blank c = true ∨ mark c = true
  · have one : (toks [c]).isSome = true := by
      rcases h with h | h
      · rw [toks_blank _ h, toks_nil]; rfl
      · rw [toks_mark _ h, toks_nil]; rfl
    have all : ∀ n, (toks (List.replicate n c)).isSome = true := by
      intro n
      induction n with
      | zero => rw [List.replicate_zero, toks_nil]; rfl
      | succ n ih =>
        rw [List.replicate_succ]
        rcases h with h | h
        · rw [toks_blank _ h]; exact ih
        · rw [toks_mark _ h, Option.isSome_map]; exact ih
    rw [one, all]
  · obtain ⟨n, rfl⟩ : ∃ m, n = m + 1 := ⟨n - 1, by omega⟩
    rw [not_or] at h
    rw [List.replicate_succ]
    cases h2 : c == 37 with
    | true =>
      rw [beq_iff_eq] at h2; subst h2
      rw [toks_note _ rfl, toks_note _ rfl]
      have : ∀ n, List.dropWhile inLine (List.replicate n (37 : UInt8)) = [] := by
        intro n
        induction n with
        | zero => rfl
        | succ n ih => rw [List.replicate_succ, List.dropWhile_cons]; exact ih
      rw [this]; rfl
    | false =>
      cases h3 : named c with
      | true =>
        rw [toks_name _ h3, toks_name _ h3, Option.isSome_map, Option.isSome_map]
        have : ∀ n, List.dropWhile named (List.replicate n c) = [] := by
          intro n
          induction n with
          | zero => rfl
          | succ n ih => rw [List.replicate_succ, List.dropWhile_cons, if_pos h3]; exact ih
        rw [this]; rfl
      | false => rw [toks_bad _ (by simpa using h.1) h2 (by simpa using h.2) h3, toks_bad _ (by simpa using h.1) h2 (by simpa using h.2) h3]
end Go.Ama

/-! Bytes, strings and tokens as_ tree values. -/
namespace Go.Ama
open Go Go.AM

def ba (l : Bytes) : ByteArray := ⟨l.toArray⟩
def encB (l : Bytes) : List V := l.map fun b => .ik .u8 (b.toNat : Int)
def encTok (t : Tok) : V := .agg [.int t.1, .str (ba t.2)]
def encToks (l : List Tok) : List V := l.map encTok

theorem ba_data (s : ByteArray) : ba s.data.toList = s := by cases s; simp [ba]
theorem ba_inj {a b : Bytes} : ba a = ba b ↔ a = b := by
  constructor
  · intro h
    have : (ba a).data.toList = (ba b).data.toList := by rw [h]
    simpa [ba] using this
  · rintro rfl; rfl
theorem ba_size (l : Bytes) : (ba l).size = l.length := by simp [ba, ByteArray.size]
theorem ba_toList (l : Bytes) : (ba l).toList = l := by rw [ByteArray.toList_eq]; simp [ba]
theorem ba_dl (l : Bytes) : (ba l).data.toList = l := by simp [ba]
theorem ba_append (a b : Bytes) : ba a ++ ba b = ba (a ++ b) := by
  apply ByteArray.ext
  simp [ba, ByteArray.data_append]
theorem ba_extract (l : Bytes) (i j : Nat) : (ba l).extract i j = ba ((l.take j).drop i) := by
  apply ByteArray.ext
  simp [ba, ByteArray.data_extract, List.drop_take]
theorem ba_eq (a b : Bytes) : ((ba a).toList == (ba b).toList) = decide (a = b) := by
  rw [ba_toList, ba_toList]
  by_cases h : a = b <;> simp [h]
theorem bytesV_ba (l : Bytes) : bytesV (ba l) = encB l := by simp [bytesV, ba, encB]
theorem strV_encB (l : Bytes) : strV (encB l) = ba l := by
  unfold strV encB ba
  congr 1
  rw [List.map_map]
  congr 1
  conv => rhs; rw [← List.map_id l]
  apply List.map_congr_left
  intro b _
  simp [byteOfV]
theorem isU8_encB (l : Bytes) : (encB l).all isU8 = true := by
  rw [List.all_eq_true]
  intro v hv
  obtain ⟨b, _, rfl⟩ := List.mem_map.1 hv
  rfl
@[simp] theorem encB_length (l : Bytes) : (encB l).length = l.length := by simp [encB]
theorem encB_append (a b : Bytes) : encB (a ++ b) = encB a ++ encB b := by simp [encB]
theorem encB_take (l : Bytes) (n : Nat) : (encB l).take n = encB (l.take n) := by simp [encB, List.map_take]
theorem encB_drop (l : Bytes) (n : Nat) : (encB l).drop n = encB (l.drop n) := by simp [encB, List.map_drop]
@[simp] theorem encToks_length (l : List Tok) : (encToks l).length = l.length := by simp [encToks]
theorem encToks_append (a b : List Tok) : encToks (a ++ b) = encToks a ++ encToks b := by simp [encToks]
theorem getI_encB {l : Bytes} {i : Nat} (h : i < l.length) : getI (encB l) (i : Int) = .ik .u8 (l[i].toNat : Int) := by
  simp [getI, encB, List.getD_eq_getElem?_getD, List.getElem?_map, h]
theorem getI_encToks {l : List Tok} {i : Nat} (h : i < l.length) : getI (encToks l) (i : Int) = encTok l[i] := by
  simp [getI, encToks, List.getD_eq_getElem?_getD, List.getElem?_map, h]
theorem below_encB (n : Nat) : ∀ l : Bytes, belowL n (encB l) = true
  | [] => rfl
  | b :: l => by
    have := below_encB n l
    simp only [encB] at this
    simp [encB, belowL, below, this]
theorem below_encToks (n : Nat) : ∀ l : List Tok, belowL n (encToks l) = true
  | [] => rfl
  | t :: l => by
    have := below_encToks n l
    simp only [encToks] at this
    simp [encToks, encTok, belowL, below, this]
theorem byteAt {l : Bytes} {i : Nat} (h : i < l.length) : ((ba l).data.toList.getD i 0) = l[i] := by
  rw [ba_dl, List.getD_eq_getElem?_getD, List.getElem?_eq_getElem h]; rfl
theorem bulk_encB : ∀ l : Bytes, bulkL (encB l) = l.length
  | [] => rfl
  | b :: l => by
    have := bulk_encB l
    simp only [encB] at this
    simp only [encB, List.map_cons, bulkL, bulkV, List.length_cons, this]; omega
theorem bulk_encToks : ∀ l : List Tok, bulkL (encToks l) = weight l + 3 * l.length
  | [] => rfl
  | (k, s) :: l => by
    have := bulk_encToks l
    simp only [encToks] at this
    simp only [encToks, encTok, List.map_cons, bulkL, bulkV, List.length_cons, weight, this, ba_size]; omega
theorem get!_ba {l : Bytes} {i : Nat} (h : i < l.length) : (ba l).get! i = l[i] := by
  show (ba l).data[i]! = l[i]
  have : (ba l).data = l.toArray := rfl
  rw [this, getElem!_pos l.toArray i (by simpa using h)]
  simp
theorem decode_lt {l : Bytes} {i : Nat} (h : i < l.length) (h1 : l[i] < 128) : Utf8.decode (ba l) i = (l[i].toNat, 1) := by
  have e : ((ba l).get! (i + 0)).toNat = l[i].toNat := by rw [Nat.add_zero, get!_ba h]
  have h2 : l[i].toNat < 128 := by simpa [UInt8.lt_iff_toNat_lt] using h1
  unfold Utf8.decode
  simp only [e]
  rw [if_pos h2]
theorem decode_ge {l : Bytes} {i : Nat} (h : i < l.length) (h1 : 128 ≤ l[i]) : 128 ≤ (Utf8.decode (ba l) i).1 := by
  have e : ((ba l).get! (i + 0)).toNat = l[i].toNat := by rw [Nat.add_zero, get!_ba h]
  have h2 : ¬ l[i].toNat < 128 := by
    have : 128 ≤ l[i].toNat := by simpa [UInt8.le_iff_toNat_le] using h1
    omega
  unfold Utf8.decode
  simp only [e]
  rw [if_neg h2]
  split
  · split
    · simpa using ‹_›
    · simp [Utf8.runeError]
  · split
    · split
      · rename_i h; simp at h; simp; omega
      · simp [Utf8.runeError]
    · split
      · split
        · rename_i h; simp at h; simp; omega
        · simp [Utf8.runeError]
      · simp [Utf8.runeError]
end Go.Ama

/-! What the program's functions come to, by all the fuel. -/
namespace Go.Proofs.SW
open Go Go.AM Go.Ama

/-- All that the program's functions say. -/
noncomputable abbrev W : Oracle := Om Tryd.prog cfg ext
theorem C (f : Nat) (args : List V) (st : St) [h : NoExt f] : W.call f args st = callBody Tryd.prog cfg W f args st :=
  (om_call extLim f args st).trans (by show (match ext f with | some x => x W args st | none => callBody Tryd.prog cfg W f args st) = _; rw [h.h])
theorem Cx (f : Nat) {x : Oracle → List V → St → Option (Out × St)} (args : List V) (st : St) (h : ext f = some x) : W.call f args st = x W args st :=
  (om_call extLim f args st).trans (by show (match ext f with | some x => x W args st | none => callBody Tryd.prog cfg W f args st) = _; rw [h])
theorem L (f key : Nat) (vals : List V) (st : St) : W.loop f key vals st = loopBody Tryd.prog cfg W f key vals st := om_loop extLim f key vals st
theorem Rd (l f key : Nat) (vals args : List V) (st : St) : W.round l f key vals args st = roundBody Tryd.prog cfg W l f key vals args st := om_round extLim l f key vals args st

/-- A function of nothing but its arguments. -/
def Ev (f : Nat) (args : List V) (v : V) : Prop := W.call f args [] = some (.ret v, [])
theorem Ev.p {f : Nat} {args : List V} {v : V} (h : Ev f args v) (h1 : belowL 0 args = true := by simp [belowL, below]) (h2 : below 0 v = true := by simp [below, belowL]) : pcall W f args = some v := pcall_of h h1 h2

/-- What so much fuel tells. -/
noncomputable def checkB (m f : Nat) (args : List V) : Option Bool :=
  match (fuelO Tryd.prog cfg ext m).call f args [] with
  | some (.ret (.bool b), []) => some b
  | _ => none
theorem Ev.of_check {m f : Nat} {args : List V} {b : Bool} (h : checkB m f args = some b) : Ev f args (.bool b) := by
  unfold checkB at h
  split at h
  · rename_i b' hc
    cases h
    exact evt_const ((fuel_om extLim m).call _ _ _ _ hc)
  · cases h
end Go.Proofs.SW

namespace Go.Proofs.SW
open Go Go.AM
set_option maxRecDepth 20000

theorem e_lex_Tokens (O : Oracle) (l0 : (List V)) : callBody Tryd.prog cfg O 32 [.vec .plain none l0] [] =
  bc (decide ((↑l0.length : Int) > 20000)) (some (Out.ret (V.tup [V.vec .plain (some 2) [], V.int 4]), [])) (gd (l0.all isU8) (bc ((strV l0).toList == []) (some (Out.ret (V.tup
  [V.vec .plain (some 2) [], V.int 0]), [])) (gd (true && decide (0 < (↑(strV l0).size : Int))) (obind (pcall O 57 [V.ik IntKind.i32 (IntKind.i32.wrap (↑((strV
  l0).data.toList.getD (Int.toNat 0) 0).toNat : Int))]) fun r1 => onBool r1 fun b2 => bc b2 (gd (true && decide (1 ≤ (↑(strV l0).size : Int)) && decide ((↑(strV l0).size : Int) ≤
  (↑(strV l0).size : Int)) && true) (obind (O.loop 32 1000000 [V.vec Mode.grow (some 2) [], V.str ((strV l0).extract 1 (↑(strV l0).size : Int).toNat), V.vec .plain (some
  2) [], V.int 0] []) fun r3 => onEx r3.fst (onCons r3.snd.fst fun v4 c5 => onVec (some 2) v4 fun l6 => onCons c5 fun v7 c8 => onInt v7 fun n9 => onNil c8 (gd (below 0 (V.tup [V.vec
  .plain (some 2) l6, V.int n9]) && belowSt 0 []) (some (Out.ret (V.tup [V.vec .plain (some 2) l6, V.int n9]), [])))) (onCons r3.snd.fst fun v10 c11 => onVec (some 2) v10 fun l12 =>
  onCons c11 fun v13 c14 => onInt v13 fun n15 => onNil c14 (gd (below 0 (V.tup [V.vec .plain (some 2) l12, V.int n15]) && belowSt 0 []) (some (Out.ret (V.tup [V.vec .plain (some 2)
  l12, V.int n15]), [])))) (fun i16 => none) fun v17 => none)) (bc (IntKind.i32.wrap (↑((strV l0).data.toList.getD (Int.toNat 0) 0).toNat : Int) == 37) (obind (pcall O 58
  [V.str (strV l0)]) fun r18 => onInt r18 fun n19 => gd (decide (0 ≤ n19) && decide (n19 ≤ (↑(strV l0).size : Int)) && decide ((↑(strV l0).size : Int) ≤ (↑(strV l0).size : Int)) &&
  true) (obind (O.loop 32 1000000 [V.vec Mode.grow (some 2) [], V.str ((strV l0).extract n19.toNat (↑(strV l0).size : Int).toNat), V.vec .plain (some 2) [], V.int 0] [])
  fun r20 => onEx r20.fst (onCons r20.snd.fst fun v21 c22 => onVec (some 2) v21 fun l23 => onCons c22 fun v24 c25 => onInt v24 fun n26 => onNil c25 (gd (below 0 (V.tup [V.vec .plain
  (some 2) l23, V.int n26]) && belowSt 0 []) (some (Out.ret (V.tup [V.vec .plain (some 2) l23, V.int n26]), [])))) (onCons r20.snd.fst fun v27 c28 => onVec (some 2) v27 fun l29 =>
  onCons c28 fun v30 c31 => onInt v30 fun n32 => onNil c31 (gd (below 0 (V.tup [V.vec .plain (some 2) l29, V.int n32]) && belowSt 0 []) (some (Out.ret (V.tup [V.vec .plain (some 2)
  l29, V.int n32]), [])))) (fun i33 => none) fun v34 => none)) (obind (pcall O 59 [V.str { data := #[40, 41, 91, 93, 123, 125, 58, 46] }, V.ik IntKind.i32
  (IntKind.i32.wrap (↑((strV l0).data.toList.getD (Int.toNat 0) 0).toNat : Int))]) fun r35 => onBool r35 fun b36 => bc b36 (gd (true && decide (1 ≤ (↑(strV l0).size : Int)) && true)
  (gd (true && decide (1 ≤ (↑(strV l0).size : Int)) && decide ((↑(strV l0).size : Int) ≤ (↑(strV l0).size : Int)) && true) (obind (O.loop 32 1000000 [V.vec Mode.grow (some
  2) [V.agg [V.int 1, V.str ((strV l0).extract 0 1)]], V.str ((strV l0).extract 1 (↑(strV l0).size : Int).toNat), V.vec .plain (some 2) [], V.int 0] []) fun r37 => onEx r37.fst
  (onCons r37.snd.fst fun v38 c39 => onVec (some 2) v38 fun l40 => onCons c39 fun v41 c42 => onInt v41 fun n43 => onNil c42 (gd (below 0 (V.tup [V.vec .plain (some 2) l40, V.int
  n43]) && belowSt 0 []) (some (Out.ret (V.tup [V.vec .plain (some 2) l40, V.int n43]), [])))) (onCons r37.snd.fst fun v44 c45 => onVec (some 2) v44 fun l46 => onCons c45 fun v47
  c48 => onInt v47 fun n49 => onNil c48 (gd (below 0 (V.tup [V.vec .plain (some 2) l46, V.int n49]) && belowSt 0 []) (some (Out.ret (V.tup [V.vec .plain (some 2) l46, V.int n49]),
  [])))) (fun i50 => none) fun v51 => none))) (obind (pcall O 60 [V.ik IntKind.i32 (IntKind.i32.wrap (↑((strV l0).data.toList.getD (Int.toNat 0) 0).toNat : Int))]) fun r52
  => onBool r52 fun b53 => bc b53 (obind (pcall O 61 [V.str (strV l0)]) fun r54 => onInt r54 fun n55 => gd (true && decide (0 ≤ n55) && decide (n55 ≤ (↑(strV l0).size :
  Int)) && true) (gd (decide (0 ≤ n55) && decide (n55 ≤ (↑(strV l0).size : Int)) && decide ((↑(strV l0).size : Int) ≤ (↑(strV l0).size : Int)) && true) (obind (O.loop 32
  1000000 [V.vec Mode.grow (some 2) [V.agg [V.int 0, V.str ((strV l0).extract 0 n55.toNat)]], V.str ((strV l0).extract n55.toNat (↑(strV l0).size : Int).toNat), V.vec .plain (some
  2) [], V.int 0] []) fun r56 => onEx r56.fst (onCons r56.snd.fst fun v57 c58 => onVec (some 2) v57 fun l59 => onCons c58 fun v60 c61 => onInt v60 fun n62 => onNil c61 (gd (below 0
  (V.tup [V.vec .plain (some 2) l59, V.int n62]) && belowSt 0 []) (some (Out.ret (V.tup [V.vec .plain (some 2) l59, V.int n62]), [])))) (onCons r56.snd.fst fun v63 c64 => onVec
  (some 2) v63 fun l65 => onCons c64 fun v66 c67 => onInt v66 fun n68 => onNil c67 (gd (below 0 (V.tup [V.vec .plain (some 2) l65, V.int n68]) && belowSt 0 []) (some (Out.ret (V.tup
  [V.vec .plain (some 2) l65, V.int n68]), [])))) (fun i69 => none) fun v70 => none))) (some (Out.ret (V.tup [V.vec .plain (some 2) [], V.int 8]), []))))))))) := by kernel_rfl

theorem e_lex_Tokens_L1000000 (O : Oracle) (l0 : (List V)) (s1 : ByteArray) (l2 : (List V)) (n3 : Int) : loopBody Tryd.prog cfg O 32 1000000 [.vec .grow (some 2) l0, .str s1, .vec .plain (some 2) l2, .int n3] [] =
  bc (s1.toList == []) (some (Ex.ret, [V.vec .plain (some 2) l0, V.int 0], [])) (gd (true && decide (0 < (↑s1.size : Int))) (obind (pcall O 57 [V.ik IntKind.i32
  (IntKind.i32.wrap (↑(s1.data.toList.getD (Int.toNat 0) 0).toNat : Int))]) fun r1 => onBool r1 fun b2 => bc b2 (gd (true && decide (1 ≤ (↑s1.size : Int)) && decide ((↑s1.size :
  Int) ≤ (↑s1.size : Int)) && true) (O.2 32 1000000 [V.vec Mode.grow (some 2) l0, V.str (s1.extract 1 (↑s1.size : Int).toNat), V.vec .plain (some 2) l2, V.int n3] [])) (bc
  (IntKind.i32.wrap (↑(s1.data.toList.getD (Int.toNat 0) 0).toNat : Int) == 37) (obind (pcall O 58 [V.str s1]) fun r3 => onInt r3 fun n4 => gd (decide (0 ≤ n4) && decide (n4
  ≤ (↑s1.size : Int)) && decide ((↑s1.size : Int) ≤ (↑s1.size : Int)) && true) (O.2 32 1000000 [V.vec Mode.grow (some 2) l0, V.str (s1.extract n4.toNat (↑s1.size :
  Int).toNat), V.vec .plain (some 2) l2, V.int n3] [])) (obind (pcall O 59 [V.str { data := #[40, 41, 91, 93, 123, 125, 58, 46] }, V.ik IntKind.i32
  (IntKind.i32.wrap (↑(s1.data.toList.getD (Int.toNat 0) 0).toNat : Int))]) fun r5 => onBool r5 fun b6 => bc b6 (gd (true && decide (1 ≤ (↑s1.size : Int)) && true) (gd (true &&
  roomFor Tryd.prog 58 (l0.length + [V.agg [V.int 1, V.str (s1.extract 0 1)]].length)) (gd (true && decide (1 ≤ (↑s1.size : Int)) && decide ((↑s1.size : Int) ≤ (↑s1.size :
  Int)) && true) (O.2 32 1000000 [V.vec Mode.grow (some 2) (l0 ++ [V.agg [V.int 1, V.str (s1.extract 0 1)]]), V.str (s1.extract 1 (↑s1.size : Int).toNat), V.vec .plain
  (some 2) l2, V.int n3] [])))) (obind (pcall O 60 [V.ik IntKind.i32 (IntKind.i32.wrap (↑(s1.data.toList.getD (Int.toNat 0) 0).toNat : Int))]) fun r7 => onBool r7 fun b8 =>
  bc b8 (obind (pcall O 61 [V.str s1]) fun r9 => onInt r9 fun n10 => gd (true && decide (0 ≤ n10) && decide (n10 ≤ (↑s1.size : Int)) && true) (gd (true && roomFor Tryd.prog
  58 (l0.length + [V.agg [V.int 0, V.str (s1.extract 0 n10.toNat)]].length)) (gd (decide (0 ≤ n10) && decide (n10 ≤ (↑s1.size : Int)) && decide ((↑s1.size : Int) ≤
  (↑s1.size : Int)) && true) (O.2 32 1000000 [V.vec Mode.grow (some 2) (l0 ++ [V.agg [V.int 0, V.str (s1.extract 0 n10.toNat)]]), V.str (s1.extract n10.toNat (↑s1.size :
  Int).toNat), V.vec .plain (some 2) l2, V.int n3] [])))) (some (Ex.ret, [V.vec .plain (some 2) [], V.int 8], []))))))) := by kernel_rfl

theorem e_ref13_Tokens (O : Oracle) (l0 : (List V)) : callBody Tryd.prog cfg O 56 [.vec .plain none l0] [] =
  bc (decide ((↑l0.length : Int) > 20000)) (some (Out.ret (V.tup [V.vec .plain (some 2) [], V.int 4]), [])) (obind (O.loop 56 5 [V.int 0, V.vec .plain none l0, V.vec
  Mode.grow (some 2) []] []) fun r1 => onEx r1.fst none (onCons r1.snd.fst fun v2 c3 => onVec (some 2) v2 fun l4 => onCons c3 fun v5 c6 => onInt v5 fun n7 => onNil c6 (gd (below 0
  (V.tup [V.vec .plain (some 2) l4, V.int n7]) && belowSt 0 []) (some (Out.ret (V.tup [V.vec .plain (some 2) l4, V.int n7]), [])))) (fun i8 => bc (i8.beq 0) (onCons r1.snd.fst fun
  v9 c10 => onRoom (some 2) v9 fun l11 => onNil c10 (gd (below 0 (V.tup [V.vec .plain (some 2) l11, V.int 0]) && belowSt 0 []) (some (Out.ret (V.tup [V.vec .plain (some 2) l11,
  V.int 0]), [])))) none) fun v12 => none) := by kernel_rfl

theorem e_ref13_Tokens_L5 (O : Oracle) (n0 : Int) (l1 : (List V)) (l2 : (List V)) : loopBody Tryd.prog cfg O 56 5 [.int n0, .vec .plain none l1, .vec .grow (some 2) l2] [] =
  bc (decide (n0 < (↑l1.length : Int))) (gd (decide (0 ≤ n0) && decide (n0 < (↑l1.length : Int))) (onIk IntKind.u8 (getI l1 n0) fun n1 => obind (pcall O 66 [V.ik
  IntKind.u8 n1]) fun r2 => onBool r2 fun b3 => obind (pcall O 67 [V.ik IntKind.u8 n1]) fun r4 => onBool r4 fun b5 => bc (n1 == 32) (O.2 56 5 [V.int
  (IntKind.i64.wrap (n0 + 1)), V.vec .plain none l1, V.vec Mode.grow (some 2) l2] []) (bc (n1 == 9) (O.2 56 5 [V.int (IntKind.i64.wrap (n0 + 1)), V.vec .plain none l1,
  V.vec Mode.grow (some 2) l2] []) (bc (n1 == 10) (O.2 56 5 [V.int (IntKind.i64.wrap (n0 + 1)), V.vec .plain none l1, V.vec Mode.grow (some 2) l2] []) (bc (n1 == 37)
  (obind (O.loop 56 12 [V.int n0, V.vec .plain none l1, V.vec Mode.grow (some 2) l2] []) fun r6 => onEx r6.fst none none (fun i7 => bc (i7.beq 2) (onCons r6.snd.fst fun
  v8 c9 => onInt v8 fun n10 => onCons c9 fun v11 c12 => onVec none v11 fun l13 => onCons c12 fun v14 c15 => onRoom (some 2) v14 fun l16 => onNil c15 (O.2 56 5 [V.int
  n10, V.vec .plain none l13, V.vec Mode.grow (some 2) l16] r6.snd.snd)) none) fun v17 => none) (bc b3 (gd (decide (0 ≤ n0) && decide (n0 ≤ IntKind.i64.wrap (n0 + 1)) && decide
  (IntKind.i64.wrap (n0 + 1) ≤ (↑l1.length : Int))) (gd ((List.drop n0.toNat (List.take (IntKind.i64.wrap (n0 + 1)).toNat l1)).all isU8) (gd (true && roomFor Tryd.prog 58
  (l2.length + [V.agg [V.int 1, V.str (strV (List.drop n0.toNat (List.take (IntKind.i64.wrap (n0 + 1)).toNat l1)))]].length)) (O.2 56 5 [V.int (IntKind.i64.wrap (n0 +
  1)), V.vec .plain none l1, V.vec Mode.grow (some 2) (l2 ++ [V.agg [V.int 1, V.str (strV (List.drop n0.toNat (List.take (IntKind.i64.wrap (n0 + 1)).toNat l1)))]])] [])))) (bc (!b5)
  (some (Ex.ret, [V.vec .plain (some 2) [], V.int 8], [])) (obind (O.loop 56 20 [V.vec .plain none l1, V.int n0, V.int n0, V.vec Mode.grow (some 2) l2, V.bool b5] [])
  fun r18 => onEx r18.fst none none (fun i19 => bc (i19.beq 4) (onCons r18.snd.fst fun v20 c21 => onVec none v20 fun l22 => onCons c21 fun v23 c24 => onInt v23 fun n25 => onCons c24
  fun v26 c27 => onInt v26 fun n28 => onCons c27 fun v29 c30 => onRoom (some 2) v29 fun l31 => onNil c30 (gd (decide (0 ≤ n28) && decide (n28 ≤ n25) && decide (n25 ≤ (↑l22.length :
  Int))) (gd ((List.drop n28.toNat (List.take n25.toNat l22)).all isU8) (gd (true && roomFor Tryd.prog 58 (l31.length + [V.agg [V.int 0, V.str (strV (List.drop n28.toNat
  (List.take n25.toNat l22)))]].length)) (O.2 56 5 [V.int n25, V.vec .plain none l22, V.vec Mode.grow (some 2) (l31 ++ [V.agg [V.int 0, V.str (strV (List.drop n28.toNat
  (List.take n25.toNat l22)))]])] r18.snd.snd))))) none) fun v32 => none)))))))) (some (Ex.exit 0, [V.vec Mode.grow (some 2) l2], [])) := by kernel_rfl

theorem e_ref13_Tokens_L12 (O : Oracle) (n0 : Int) (l1 : (List V)) (l2 : (List V)) : loopBody Tryd.prog cfg O 56 12 [.int n0, .vec .plain none l1, .vec .grow (some 2) l2] [] =
  bc (decide (n0 < (↑l1.length : Int))) (gd (decide (0 ≤ n0) && decide (n0 < (↑l1.length : Int))) (onIk IntKind.u8 (getI l1 n0) fun n1 => bc (n1 != 10) (O.2 56 12 [V.int
  (IntKind.i64.wrap (n0 + 1)), V.vec .plain none l1, V.vec Mode.grow (some 2) l2] []) (some (Ex.exit 2, [V.int n0, V.vec .plain none l1, V.vec Mode.grow (some 2) l2], [])))) (some
  (Ex.exit 2, [V.int n0, V.vec .plain none l1, V.vec Mode.grow (some 2) l2], [])) := by kernel_rfl

theorem e_ref13_Tokens_L20 (O : Oracle) (l0 : (List V)) (n1 : Int) (n2 : Int) (l3 : (List V)) (b4 : Bool) : loopBody Tryd.prog cfg O 56 20 [.vec .plain none l0, .int n1, .int n2, .vec .grow (some 2) l3, .bool b4] [] =
  bc b4 (bc (decide (IntKind.i64.wrap (n1 + 1) < (↑l0.length : Int))) (gd (decide (0 ≤ IntKind.i64.wrap (n1 + 1)) && decide (IntKind.i64.wrap (n1 + 1) < (↑l0.length : Int))) (onIk
  IntKind.u8 (getI l0 (IntKind.i64.wrap (n1 + 1))) fun n1_1 => obind (pcall O 67 [V.ik IntKind.u8 n1_1]) fun r2 => onBool r2 fun b3 => O.2 56 20 [V.vec .plain
  none l0, V.int (IntKind.i64.wrap (n1 + 1)), V.int n2, V.vec Mode.grow (some 2) l3, V.bool b3] [])) (O.2 56 20 [V.vec .plain none l0, V.int (IntKind.i64.wrap (n1 + 1)),
  V.int n2, V.vec Mode.grow (some 2) l3, V.bool (decide (IntKind.i64.wrap (n1 + 1) < (↑l0.length : Int)))] [])) (some (Ex.exit 4, [V.vec .plain none l0, V.int n1, V.int n2, V.vec
  Mode.grow (some 2) l3], [])) := by kernel_rfl

theorem e_lex_Text (O : Oracle) (l0 : (List V)) : callBody Tryd.prog cfg O 25 [.vec .plain (some 2) l0] [] =
  obind (O.loop 25 4 [V.int 0, V.vec Mode.grow none [], V.int 1, V.vec .plain (some 2) l0, V.int (↑l0.length : Int)] []) fun r1 => onEx r1.fst none none (fun i2 => bc
  (i2.beq 0) (onCons r1.snd.fst fun v3 c4 => onRoom none v3 fun l5 => onNil c4 (gd (below 0 (V.vec .plain none l5) && belowSt 0 []) (some (Out.ret (V.vec .plain none l5), []))))
  none) fun v6 => none := by kernel_rfl

theorem e_lex_Text_L4 (O : Oracle) (n0 : Int) (l1 : (List V)) (n2 : Int) (l3 : (List V)) (n4 : Int) : loopBody Tryd.prog cfg O 25 4 [.int n0, .vec .grow none l1, .int n2, .vec .plain (some 2) l3, .int n4] [] =
  bc (decide (n0 < n4)) (gd (decide (0 ≤ n0) && decide (n0 < (↑l3.length : Int))) (onStruct [CT.int, CT.str] (getI l3 n0) fun n1 s2 => bc (n1 == 0) (bc (n2 == 0) (gd (true &&
  roomFor Tryd.prog 5 (l1.length + 1)) (gd (true && roomFor Tryd.prog 5 ((l1 ++ [V.ik IntKind.u8 32]).length + (bytesV s2).length)) (O.2 25 4 [V.int
  (IntKind.i64.wrap (n0 + 1)), V.vec Mode.grow none (l1 ++ [V.ik IntKind.u8 32] ++ bytesV s2), V.int n1, V.vec .plain (some 2) l3, V.int n4] []))) (gd (true && roomFor Tryd.prog
  5 (l1.length + (bytesV s2).length)) (O.2 25 4 [V.int (IntKind.i64.wrap (n0 + 1)), V.vec Mode.grow none (l1 ++ bytesV s2), V.int n1, V.vec .plain (some 2) l3,
  V.int n4] []))) (gd (true && roomFor Tryd.prog 5 (l1.length + (bytesV s2).length)) (O.2 25 4 [V.int (IntKind.i64.wrap (n0 + 1)), V.vec Mode.grow none (l1 ++ bytesV
  s2), V.int n1, V.vec .plain (some 2) l3, V.int n4] [])))) (some (Ex.exit 0, [V.vec Mode.grow none l1], [])) := by kernel_rfl

theorem e_ref13_Text (O : Oracle) (l0 : (List V)) : callBody Tryd.prog cfg O 29 [.vec .plain (some 2) l0] [] =
  obind (O.loop 29 3 [V.int 0, V.vec .plain (some 2) l0, V.vec Mode.grow none []] []) fun r1 => onEx r1.fst none none (fun i2 => bc (i2.beq 0) (onCons r1.snd.fst fun v3 c4
  => onRoom none v3 fun l5 => onNil c4 (gd (below 0 (V.vec .plain none l5) && belowSt 0 []) (some (Out.ret (V.vec .plain none l5), [])))) none) fun v6 => none := by kernel_rfl

theorem e_ref13_Text_L3 (O : Oracle) (n0 : Int) (l1 : (List V)) (l2 : (List V)) : loopBody Tryd.prog cfg O 29 3 [.int n0, .vec .plain (some 2) l1, .vec .grow none l2] [] =
  bc (decide (n0 < (↑l1.length : Int))) (bc (decide (n0 > 0)) (gd (decide (0 ≤ n0) && decide (n0 < (↑l1.length : Int))) (onAgg (getI l1 n0) fun c1 => gd (decide (1 ≤ c1.length))
  (onInt (AM.partOf c1 0 none) fun n2 => bc (n2 == 0) (gd (decide (0 ≤ IntKind.i64.wrap (n0 - 1)) && decide (IntKind.i64.wrap (n0 - 1) < (↑l1.length : Int))) (onAgg (getI l1
  (IntKind.i64.wrap (n0 - 1))) fun c3 => gd (decide (1 ≤ c3.length)) (onInt (AM.partOf c3 0 none) fun n4 => bc (n4 == 0) (gd (true && roomFor Tryd.prog 5 (l2.length + 1))
  (gd (decide (0 ≤ n0) && decide (n0 < (↑l1.length : Int))) (onAgg (getI l1 n0) fun c5 => gd (decide (2 ≤ c5.length)) (onStr (AM.partOf c5 1 none) fun s6 => gd (true && roomFor
  Tryd.prog 5 ((l2 ++ [V.ik IntKind.u8 32]).length + (bytesV s6).length)) (O.2 29 3 [V.int (IntKind.i64.wrap (n0 + 1)), V.vec .plain (some 2) l1, V.vec Mode.grow
  none (l2 ++ [V.ik IntKind.u8 32] ++ bytesV s6)] []))))) (gd (decide (0 ≤ n0) && decide (n0 < (↑l1.length : Int))) (onAgg (getI l1 n0) fun c7 => gd (decide (2 ≤ c7.length)) (onStr
  (AM.partOf c7 1 none) fun s8 => gd (true && roomFor Tryd.prog 5 (l2.length + (bytesV s8).length)) (O.2 29 3 [V.int (IntKind.i64.wrap (n0 + 1)), V.vec .plain
  (some 2) l1, V.vec Mode.grow none (l2 ++ bytesV s8)] []))))))) (gd (decide (0 ≤ n0) && decide (n0 < (↑l1.length : Int))) (onAgg (getI l1 n0) fun c9 => gd (decide (2 ≤ c9.length))
  (onStr (AM.partOf c9 1 none) fun s10 => gd (true && roomFor Tryd.prog 5 (l2.length + (bytesV s10).length)) (O.2 29 3 [V.int (IntKind.i64.wrap (n0 + 1)), V.vec
  .plain (some 2) l1, V.vec Mode.grow none (l2 ++ bytesV s10)] []))))))) (gd (decide (0 ≤ n0) && decide (n0 < (↑l1.length : Int))) (onAgg (getI l1 n0) fun c11 => gd (decide (2 ≤
  c11.length)) (onStr (AM.partOf c11 1 none) fun s12 => gd (true && roomFor Tryd.prog 5 (l2.length + (bytesV s12).length)) (O.2 29 3 [V.int (IntKind.i64.wrap (n0 +
  1)), V.vec .plain (some 2) l1, V.vec Mode.grow none (l2 ++ bytesV s12)] []))))) (some (Ex.exit 0, [V.vec Mode.grow none l2], [])) := by kernel_rfl

theorem e_lex_blank (O : Oracle) (n0 : Int) : callBody Tryd.prog cfg O 57 [.ik .i32 n0] [] =
  bc (n0 == 32) (some (Out.ret (V.bool true), [])) (bc (n0 == 9) (some (Out.ret (V.bool true), [])) (some (Out.ret (V.bool (n0 == 10)), []))) := by kernel_rfl

theorem e_lex_note (O : Oracle) (s0 : ByteArray) : callBody Tryd.prog cfg O 58 [.str s0] [] =
  obind (pcall O 68 [V.str s0, V.ik IntKind.u8 10]) fun r1 => onInt r1 fun n2 => bc (decide (n2 ≥ 0)) (some (Out.ret (V.int n2), [])) (some (Out.ret (V.int
  (↑s0.size : Int)), [])) := by kernel_rfl

theorem e_strings_ContainsRune (O : Oracle) (s0 : ByteArray) (n1 : Int) : callBody Tryd.prog cfg O 59 [.str s0, .ik .i32 n1] [] =
  obind (pcall O 69 [V.str s0, V.ik IntKind.i32 n1]) fun r1 => onInt r1 fun n2 => some (Out.ret (V.bool (decide (n2 ≥ 0))), []) := by kernel_rfl

theorem e_lex_named (O : Oracle) (n0 : Int) : callBody Tryd.prog cfg O 60 [.ik .i32 n0] [] =
  bc (decide (n0 ≥ 97)) (bc (decide (n0 ≤ 122)) (some (Out.ret (V.bool true), [])) (bc (decide (n0 ≥ 65)) (bc (decide (n0 ≤ 90)) (some (Out.ret (V.bool true), [])) (bc (decide (n0 ≥
  48)) (bc (decide (n0 ≤ 57)) (some (Out.ret (V.bool true), [])) (bc (n0 == 95) (some (Out.ret (V.bool true), [])) (some (Out.ret (V.bool (n0 == 39)), [])))) (bc (n0 == 95) (some
  (Out.ret (V.bool true), [])) (some (Out.ret (V.bool (n0 == 39)), []))))) (bc (decide (n0 ≥ 48)) (bc (decide (n0 ≤ 57)) (some (Out.ret (V.bool true), [])) (bc (n0 == 95) (some
  (Out.ret (V.bool true), [])) (some (Out.ret (V.bool (n0 == 39)), [])))) (bc (n0 == 95) (some (Out.ret (V.bool true), [])) (some (Out.ret (V.bool (n0 == 39)), [])))))) (bc (decide
  (n0 ≥ 65)) (bc (decide (n0 ≤ 90)) (some (Out.ret (V.bool true), [])) (bc (decide (n0 ≥ 48)) (bc (decide (n0 ≤ 57)) (some (Out.ret (V.bool true), [])) (bc (n0 == 95) (some (Out.ret
  (V.bool true), [])) (some (Out.ret (V.bool (n0 == 39)), [])))) (bc (n0 == 95) (some (Out.ret (V.bool true), [])) (some (Out.ret (V.bool (n0 == 39)), []))))) (bc (decide (n0 ≥ 48))
  (bc (decide (n0 ≤ 57)) (some (Out.ret (V.bool true), [])) (bc (n0 == 95) (some (Out.ret (V.bool true), [])) (some (Out.ret (V.bool (n0 == 39)), [])))) (bc (n0 == 95) (some
  (Out.ret (V.bool true), [])) (some (Out.ret (V.bool (n0 == 39)), []))))) := by kernel_rfl

theorem e_lex_name (O : Oracle) (s0 : ByteArray) : callBody Tryd.prog cfg O 61 [.str s0] [] =
  obind (O.loop 61 2 [V.str s0, V.ref 0 0] [Res.iter s0 0]) fun r1 => onEx r1.fst none (onCons r1.snd.fst fun v2 c3 => onInt v2 fun n4 => onNil c3 (some (Out.ret (V.int n4),
  []))) (fun i5 => bc (i5.beq 0) (onCons r1.snd.fst fun v6 c7 => onStr v6 fun s8 => onNil c7 (some (Out.ret (V.int (↑s8.size : Int)), []))) none) fun v9 => none := by kernel_rfl

theorem e_lex_name_L2 (O : Oracle) (s0 t : ByteArray) (p : Nat) : loopBody Tryd.prog cfg O 61 2 [.str s0, .ref 0 0] [.iter t p] =
  bc (decide (p < t.size)) (obind (pcall O 60 [V.ik IntKind.i32 (↑(Utf8.decode t p).fst : Int)]) fun r1 => onBool r1 fun b2 => bc (!b2) (some (Ex.ret, [V.int (↑p : Int)],
  [Res.iter t (p + (Utf8.decode t p).snd)])) (O.2 61 2 [V.str s0, V.ref 0 0] [Res.iter t (p + (Utf8.decode t p).snd)])) (some (Ex.exit 0, [V.str s0], [Res.iter t p])) := by kernel_rfl

theorem e_ref13_mark (O : Oracle) (n0 : Int) : callBody Tryd.prog cfg O 66 [.ik .u8 n0] [] =
  bc (n0 == 40) (some (Out.ret (V.bool true), [])) (bc (n0 == 41) (some (Out.ret (V.bool true), [])) (bc (n0 == 91) (some (Out.ret (V.bool true), [])) (bc (n0 == 93) (some (Out.ret
  (V.bool true), [])) (bc (n0 == 123) (some (Out.ret (V.bool true), [])) (bc (n0 == 125) (some (Out.ret (V.bool true), [])) (bc (n0 == 58) (some (Out.ret (V.bool true), [])) (some
  (Out.ret (V.bool (n0 == 46)), [])))))))) := by kernel_rfl

theorem e_ref13_named (O : Oracle) (n0 : Int) : callBody Tryd.prog cfg O 67 [.ik .u8 n0] [] =
  bc (decide (n0 ≥ 97)) (bc (decide (n0 ≤ 122)) (some (Out.ret (V.bool true), [])) (bc (decide (n0 ≥ 65)) (bc (decide (n0 ≤ 90)) (some (Out.ret (V.bool true), [])) (bc (decide (n0 ≥
  48)) (bc (decide (n0 ≤ 57)) (some (Out.ret (V.bool true), [])) (bc (n0 == 95) (some (Out.ret (V.bool true), [])) (some (Out.ret (V.bool (n0 == 39)), [])))) (bc (n0 == 95) (some
  (Out.ret (V.bool true), [])) (some (Out.ret (V.bool (n0 == 39)), []))))) (bc (decide (n0 ≥ 48)) (bc (decide (n0 ≤ 57)) (some (Out.ret (V.bool true), [])) (bc (n0 == 95) (some
  (Out.ret (V.bool true), [])) (some (Out.ret (V.bool (n0 == 39)), [])))) (bc (n0 == 95) (some (Out.ret (V.bool true), [])) (some (Out.ret (V.bool (n0 == 39)), [])))))) (bc (decide
  (n0 ≥ 65)) (bc (decide (n0 ≤ 90)) (some (Out.ret (V.bool true), [])) (bc (decide (n0 ≥ 48)) (bc (decide (n0 ≤ 57)) (some (Out.ret (V.bool true), [])) (bc (n0 == 95) (some (Out.ret
  (V.bool true), [])) (some (Out.ret (V.bool (n0 == 39)), [])))) (bc (n0 == 95) (some (Out.ret (V.bool true), [])) (some (Out.ret (V.bool (n0 == 39)), []))))) (bc (decide (n0 ≥ 48))
  (bc (decide (n0 ≤ 57)) (some (Out.ret (V.bool true), [])) (bc (n0 == 95) (some (Out.ret (V.bool true), [])) (some (Out.ret (V.bool (n0 == 39)), [])))) (bc (n0 == 95) (some
  (Out.ret (V.bool true), [])) (some (Out.ret (V.bool (n0 == 39)), []))))) := by kernel_rfl

theorem e_strings_IndexByte (O : Oracle) (s0 : ByteArray) (n1 : Int) : callBody Tryd.prog cfg O 68 [.str s0, .ik .u8 n1] [] =
  obind (pcall O 78 [V.str s0, V.ik IntKind.u8 n1]) fun r1 => onInt r1 fun n2 => some (Out.ret (V.int n2), []) := by kernel_rfl

theorem e_internal_stringslite_IndexByte (O : Oracle) (s0 : ByteArray) (n1 : Int) : callBody Tryd.prog cfg O 78 [.str s0, .ik .u8 n1] [] =
  obind (gd true (some (V.int (firstIdx s0 n1.toNat.toUInt8)))) fun r1 => onInt r1 fun n2 => some (Out.ret (V.int n2), []) := by kernel_rfl

end Go.Proofs.SW

/-! Tokens: the program's functions. -/
namespace Go.Proofs.SW
open Go Go.AM Go.Ama

theorem blank_byte (b : UInt8) : ((b.toNat : Int) == 32 || ((b.toNat : Int) == 9 || (b.toNat : Int) == 10)) = Ama.blank b :=
  byteAll (p := fun b => ((b.toNat : Int) == 32 || ((b.toNat : Int) == 9 || (b.toNat : Int) == 10)) = Ama.blank b) (by decide +kernel) b
theorem wrap_byte (b : UInt8) : IntKind.i32.wrap (b.toNat : Int) = b.toNat :=
  byteAll (p := fun b => IntKind.i32.wrap (b.toNat : Int) = b.toNat) (by decide +kernel) b
theorem percent_byte (b : UInt8) : ((b.toNat : Int) == 37) = (b == 37) :=
  byteAll (p := fun b => ((b.toNat : Int) == 37) = (b == 37)) (by decide +kernel) b

theorem blank_spec (c : Int) : Ev 57 [.ik .i32 c] (.bool (c == 32 || (c == 9 || c == 10))) := by
  unfold Ev
  rw [C, e_lex_blank]
  cases h1 : (c == 32) <;> cases h2 : (c == 9) <;> rfl

def namedI (c : Int) : Bool := (decide (c ≥ 97) && decide (c ≤ 122)) || (decide (c ≥ 65) && decide (c ≤ 90)) || (decide (c ≥ 48) && decide (c ≤ 57)) || c == 95 || c == 39
theorem named_spec (c : Int) : Ev 60 [.ik .i32 c] (.bool (namedI c)) := by
  unfold Ev namedI
  rw [C, e_lex_named]
  generalize decide (c ≥ 97) = a1
  generalize decide (c ≤ 122) = a2
  generalize decide (c ≥ 65) = a3
  generalize decide (c ≤ 90) = a4
  generalize decide (c ≥ 48) = a5
  generalize decide (c ≤ 57) = a6
  generalize (c == 95) = a7
  generalize (c == 39) = a8
  cases a1 <;> cases a2 <;> cases a3 <;> cases a4 <;> cases a5 <;> cases a6 <;> cases a7 <;> cases a8 <;> rfl
theorem named_byte (b : UInt8) : namedI (b.toNat : Int) = named b :=
  byteAll (p := fun b => namedI (b.toNat : Int) = named b) (by decide +kernel) b
theorem namedI_high {c : Int} (h : 128 ≤ c) : namedI c = false := by
  have h1 : ¬ c ≤ 122 := by omega
  have h2 : ¬ c ≤ 90 := by omega
  have h3 : ¬ c ≤ 57 := by omega
  have h4 : (c == 95) = false := by simp; omega
  have h5 : (c == 39) = false := by simp; omega
  simp [namedI, h1, h2, h3, h4, h5]
theorem named_high {b : UInt8} (h : 128 ≤ b) : named b = false := by
  rw [← named_byte]; exact namedI_high (by have : 128 ≤ b.toNat := by simpa [UInt8.le_iff_toNat_le] using h
                                           omega)

theorem name_loop (s : ByteArray) (l : Bytes) : ∀ k p, p + k = l.length → ∃ st', W.loop 61 2 [.str s, .ref 0 0] [.iter (ba l) p] = some (if (l.drop p).all named then (Ex.exit 0, [V.str s], st') else (Ex.ret, [V.int ((p + ((l.drop p).takeWhile named).length : Nat) : Int)], st'))
  | 0, p, h => by
    refine ⟨[.iter (ba l) p], ?_⟩
    rw [L, e_lex_name_L2]
    have : l.drop p = [] := by rw [List.drop_eq_nil_iff]; omega
    have h2 : ¬ p < l.length := by omega
    simp [this, ba_size, h2, bc]
  | k + 1, p, h => by
    have hp : p < l.length := by omega
    obtain ⟨st', ih⟩ := name_loop s l k (p + 1) (by omega)
    have hd : l.drop p = l[p] :: l.drop (p + 1) := List.drop_eq_getElem_cons hp
    have hsz : decide (p < (ba l).size) = true := by rw [ba_size]; simpa using hp
    by_cases h8 : l[p] < 128
    · rw [L, e_lex_name_L2, decode_lt hp h8, hsz]
      simp only [(named_spec _).p, named_byte, hd, List.all_cons, List.takeWhile_cons]
      cases hn : named l[p] with
      | true =>
        refine ⟨st', ?_⟩
        show W.loop _ _ _ _ = _
        rw [ih]
        cases (l.drop (p + 1)).all named
        · simp; omega
        · simp
      | false => exact ⟨[.iter (ba l) (p + 1)], by simp [bc]⟩
    · have h8' : 128 ≤ l[p] := by
        rw [UInt8.lt_iff_toNat_lt] at h8
        rw [UInt8.le_iff_toNat_le]
        simpa using h8
      have hge := decode_ge hp h8'
      refine ⟨[.iter (ba l) (p + (Utf8.decode (ba l) p).2)], ?_⟩
      rw [L, e_lex_name_L2, hsz]
      simp only [(named_spec _).p, namedI_high (c := ((Utf8.decode (ba l) p).1 : Int)) (by omega), hd, List.all_cons, List.takeWhile_cons, named_high h8']
      simp [bc]

theorem takeWhile_of_all {p : UInt8 → Bool} {l : Bytes} (h : l.all p = true) : l.takeWhile p = l := by
  induction l with
  | nil => rfl
  | cons x l ih => simp only [List.all_cons, Bool.and_eq_true] at h; simp [List.takeWhile_cons, h.1, ih h.2]

theorem name_spec (l : Bytes) : Ev 61 [.str (ba l)] (.int (l.takeWhile named).length) := by
  unfold Ev
  rw [C, e_lex_name]
  obtain ⟨st', h⟩ := name_loop (ba l) l l.length 0 (by omega)
  rw [h, List.drop_zero]
  cases ha : l.all named with
  | true => simp [takeWhile_of_all ha, ba_size, bc]
  | false => simp

theorem index_line : ∀ l : Bytes, Lib.indexByte l 10 = if (l.takeWhile inLine).length < l.length then ((l.takeWhile inLine).length : Int) else -1
  | [] => rfl
  | c :: l => by
    rw [Lib.indexByte, index_line l]
    cases h : (c == 10) with
    | true => simp [List.takeWhile_cons, inLine, bne, h]
    | false =>
      have hi : inLine c = true := by simp [inLine, bne, h]
      simp only [List.takeWhile_cons, hi, if_true, List.length_cons]
      by_cases hl : (l.takeWhile inLine).length < l.length
      · have h2 : ((((l.takeWhile inLine).length : Nat) : Int) == -1) = false := by simp
        rw [if_pos hl, h2, if_pos (Nat.succ_lt_succ hl)]
        simp
      · rw [if_neg hl, if_neg (fun h => hl (Nat.lt_of_succ_lt_succ h))]; rfl

theorem note_spec (l : Bytes) : Ev 58 [.str (ba l)] (.int (l.takeWhile inLine).length) := by
  have h1 : Ev 78 [.str (ba l), .ik .u8 10] (.int (Lib.indexByte l 10)) := by
    unfold Ev
    rw [C, e_internal_stringslite_IndexByte, Lib.firstIdx_eq, ba_dl]
    rfl
  have h2 : Ev 68 [.str (ba l), .ik .u8 10] (.int (Lib.indexByte l 10)) := by
    unfold Ev
    rw [C, e_strings_IndexByte, h1.p]
    rfl
  unfold Ev
  rw [C, e_lex_note, h2.p, index_line]
  have h3 := takeWhile_dropWhile_length inLine l
  by_cases h : (l.takeWhile inLine).length < l.length
  · have h4 : ((l.takeWhile inLine).length : Int) ≥ 0 := by omega
    simp [h, h4, bc]
  · have h4 : (l.takeWhile inLine).length = l.length := by omega
    simp [h4, bc, ba_size]

theorem contains_all : ∀ n : Fin 256, checkB 12 59 [.str (ba [40, 41, 91, 93, 123, 125, 58, 46]), .ik .i32 ((UInt8.ofNat n.val).toNat : Int)] = some (Ama.mark (UInt8.ofNat n.val)) := by decide +kernel
theorem contains_spec (c : UInt8) : Ev 59 [.str (ba [40, 41, 91, 93, 123, 125, 58, 46]), .ik .i32 (c.toNat : Int)] (.bool (Ama.mark c)) := by
  have h := contains_all ⟨c.toNat, c.toNat_lt⟩
  have e : UInt8.ofNat c.toNat = c := by simp
  simp only [e] at h
  exact Ev.of_check h
end Go.Proofs.SW

/-! Tokens: the program's lexer. -/
namespace Go.Proofs.SW
open Go Go.AM Go.Ama

theorem room_tok {n : Nat} (h : n ≤ 1048576) : roomFor Tryd.prog 58 n = true := by
  have : ((Tryd.prog.info? 58).map (·.bytes)).getD 0 = 24 := by kernel_rfl
  unfold roomFor
  rw [this]
  simp only [Bool.and_eq_true, decide_eq_true_eq]
  omega
theorem room_byte {n : Nat} (h : n ≤ 10485760) : roomFor Tryd.prog 5 n = true := by
  have : ((Tryd.prog.info? 5).map (·.bytes)).getD 0 = 1 := by kernel_rfl
  unfold roomFor
  rw [this]
  simp only [Bool.and_eq_true, decide_eq_true_eq]
  omega

/-- What lexing comes to, behind some tokens. -/
def lexEnd (acc : List Tok) : Option (List Tok) → Ex × List V × St
  | some t => (Ex.ret, [V.vec .plain (some 2) (encToks (acc ++ t)), V.int 0], [])
  | none => (Ex.ret, [V.vec .plain (some 2) [], V.int 8], [])

theorem ba_nonempty (c : UInt8) (r : Bytes) : ((ba (c :: r)).toList == []) = false := by rw [ba_toList]; rfl
theorem ba_first (c : UInt8) (r : Bytes) : IntKind.i32.wrap (((ba (c :: r)).data.toList.getD (Int.toNat 0) 0).toNat : Int) = c.toNat := by rw [ba_dl]; exact wrap_byte c
theorem ba_from (l : Bytes) (n : Nat) : (ba l).extract n ((ba l).size : Int).toNat = ba (l.drop n) := by
  rw [ba_extract, ba_size, Int.toNat_natCast, List.take_length]
theorem ba_ext (l : Bytes) (n : Nat) : (ba l).extract n l.length = ba (l.drop n) := by rw [ba_extract, List.take_length]
theorem ba_upto (l : Bytes) (n : Nat) : (ba l).extract 0 n = ba (l.take n) := by rw [ba_extract, List.drop_zero]
theorem take_takeWhile {p : UInt8 → Bool} : ∀ l : Bytes, l.take (l.takeWhile p).length = l.takeWhile p ∧ l.drop (l.takeWhile p).length = l.dropWhile p
  | [] => ⟨rfl, rfl⟩
  | c :: l => by
    obtain ⟨h1, h2⟩ := take_takeWhile (p := p) l
    rw [List.takeWhile_cons, List.dropWhile_cons]
    split <;> simp [h1, h2]
theorem takeWhile_le {p : UInt8 → Bool} (l : Bytes) : (l.takeWhile p).length ≤ l.length := by have := takeWhile_dropWhile_length p l; omega

theorem marks_lit : V.str { data := #[40, 41, 91, 93, 123, 125, 58, 46] } = V.str (ba [40, 41, 91, 93, 123, 125, 58, 46]) := rfl

theorem tokens_loop : ∀ (b : Bytes) (acc : List Tok) (l2 : List V) (n3 : Int), acc.length + b.length ≤ 20000 →
    W.loop 32 1000000 [.vec .grow (some 2) (encToks acc), .str (ba b), .vec .plain (some 2) l2, .int n3] [] = some (lexEnd acc (toks b)) := by
  refine bytes_ind ?_ ?_ ?_ ?_ ?_ ?_
  · intro acc l2 n3 _
    rw [L, e_lex_Tokens_L1000000, toks_nil, ba_toList]
    simp [lexEnd]
  · intro c r hc ih acc l2 n3 hl
    simp only [List.length_cons] at hl
    have ih := ih acc l2 n3 (by omega)
    rw [L, e_lex_Tokens_L1000000, toks_blank r hc, ba_nonempty, ba_first, (blank_spec _).p, blank_byte, hc, ba_from, ← ih]
    simp (disch := omega) [ba_size]
  · intro r ih acc l2 n3 hl
    simp only [List.length_cons] at hl
    have hd := length_dropWhile_le inLine r
    have ih := ih acc l2 n3 (by omega)
    have ht := takeWhile_le (p := inLine) (37 :: r)
    rw [L, e_lex_Tokens_L1000000, toks_note r rfl, ba_nonempty, ba_first, (blank_spec _).p, blank_byte, percent_byte, (note_spec _).p, ← ih]
    have h3 : (37 :: r).dropWhile inLine = r.dropWhile inLine := by simp [List.dropWhile_cons, inLine]
    have h4 : Ama.blank 37 = false := by decide
    rw [List.length_cons] at ht
    simp (disch := omega) only [onInt_int, obind_some', onBool_bool, h4, Int.toNat_natCast, ba_from, (take_takeWhile (37 :: r)).2, h3, ba_size, List.length_cons, gd_and, gd_dec, gd_true, bc_false, bc_true, beq_self_eq_true]
    rw [show r.length + 1 = (37 :: r : Bytes).length from rfl, ba_ext, (take_takeWhile (37 :: r)).2, h3]
  · intro c r hc ih acc l2 n3 hl
    simp only [List.length_cons] at hl
    have ih := ih (acc ++ [(1, [c])]) l2 n3 (by simp; omega)
    obtain ⟨h7, h8, _⟩ := mark_facts hc
    rw [L, e_lex_Tokens_L1000000, toks_mark r hc, ba_nonempty, ba_first, (blank_spec _).p, blank_byte, percent_byte, h7, h8, marks_lit, (contains_spec c).p, hc, ba_from, ba_upto]
    have he : encToks acc ++ [V.agg [V.int 1, V.str (ba [c])]] = encToks (acc ++ [(1, [c])]) := by rw [encToks_append]; rfl
    have hend : lexEnd acc ((toks r).map ((1, [c]) :: ·)) = lexEnd (acc ++ [(1, [c])]) (toks r) := by cases toks r <;> simp [lexEnd]
    rw [hend, ← ih]
    simp (disch := omega) [he, ba_size, room_tok]
  · intro c r hc ih acc l2 n3 hl
    simp only [List.length_cons] at hl
    have hd := length_dropWhile_le named r
    have ih := ih (acc ++ [(0, c :: r.takeWhile named)]) l2 n3 (by simp; omega)
    obtain ⟨h7, h8, h9, _⟩ := named_facts hc
    have ht := takeWhile_le (p := named) r
    have h10 : (c :: r).dropWhile named = r.dropWhile named := by simp [List.dropWhile_cons, hc]
    have h11 : (c :: r).takeWhile named = c :: r.takeWhile named := by simp [List.takeWhile_cons, hc]
    have h12 := take_takeWhile (p := named) (c :: r)
    rw [h10, h11] at h12
    have he : encToks acc ++ [V.agg [V.int 0, V.str (ba (c :: r.takeWhile named))]] = encToks (acc ++ [(0, c :: r.takeWhile named)]) := by rw [encToks_append]; rfl
    have hend : lexEnd acc ((toks (r.dropWhile named)).map ((0, c :: r.takeWhile named) :: ·)) = lexEnd (acc ++ [(0, c :: r.takeWhile named)]) (toks (r.dropWhile named)) := by cases toks (r.dropWhile named) <;> simp [lexEnd]
    rw [L, e_lex_Tokens_L1000000, toks_name r hc, ba_nonempty, ba_first, (blank_spec _).p, blank_byte, percent_byte, h7, h8, marks_lit, (contains_spec c).p, h9, (named_spec _).p, named_byte, hc, (name_spec _).p, h11, hend, ← ih]
    simp only [onInt_int, obind_some', onBool_bool, bc_false, bc_true, gd_and, gd_true, Int.toNat_natCast, ba_from, ba_upto, h12.1, h12.2, he, ba_size, List.length_cons, encToks_length]
    simp (disch := omega) only [gd_dec, room_tok, List.length_cons, List.length_nil, gd_true]
    rw [show r.length + 1 = (c :: r).length from rfl, show (r.takeWhile named).length + 1 = (c :: r.takeWhile named).length from rfl, ba_ext, h12.1, h12.2, he]
  · intro c r h1' h2' h3' h4' acc l2 n3 hl
    rw [L, e_lex_Tokens_L1000000, toks_bad r h1' h2' h3' h4', ba_nonempty, ba_first, (blank_spec _).p, blank_byte, percent_byte, h1', h2', marks_lit, (contains_spec c).p, h3', (named_spec _).p, named_byte, h4']
    simp (disch := omega) [ba_size, lexEnd]

/-- What Tokens hands back. -/
def lexRes (b : Bytes) : Option (List Tok) × Int := if b.length > 20000 then (none, 4) else match toks b with | some l => (some l, 0) | none => (none, 8)
def encRes (x : Option (List Tok) × Int) : V := .tup [.vec .plain (some 2) (encToks (x.1.getD [])), .int x.2]
theorem isU8_b (l : Bytes) : List.all (encB l) isU8 = true := isU8_encB l
theorem below_tup (l : List Tok) (n : Int) : below 0 (V.tup [V.vec .plain (some 2) (encToks l), V.int n]) = true := by simp [below, belowL, below_encToks]

theorem tokens_spec (b : Bytes) (hb : b.length ≤ 1048576) : Ev 32 [.vec .plain none (encB b)] (encRes (lexRes b)) := by
  unfold Ev lexRes encRes
  rw [C, e_lex_Tokens, encB_length, strV_encB, isU8_b]
  by_cases hl : b.length > 20000
  · simp (disch := omega) [hl, encToks]
  · have hl' : b.length ≤ 20000 := by omega
    rw [bc_dec_f (by omega), gd_true, if_neg hl]
    -- the loop, from the start or from behind one token
    have h0 := tokens_loop b [] [] 0 (by simpa using hl')
    rw [L] at h0
    cases b with
    | nil => rw [ba_toList, toks_nil]; rfl
    | cons c r =>
      rw [e_lex_Tokens_L1000000] at h0
      rw [ba_nonempty] at h0 ⊢
      simp only [bc_false] at h0 ⊢
      revert h0
      simp only [ba_first, (blank_spec _).p, blank_byte, percent_byte, (note_spec _).p, marks_lit, (contains_spec c).p, (named_spec _).p, named_byte, (name_spec _).p, obind_some', onBool_bool, onInt_int]
      have fin : ∀ (z : Option (Ex × List V × St)), z = some (lexEnd [] (toks (c :: r))) → (obind z fun r3 =>
          onEx r3.fst (onCons r3.snd.fst fun v4 c5 => onVec (some 2) v4 fun l6 => onCons c5 fun v7 c8 => onInt v7 fun n9 => onNil c8 (gd (below 0 (V.tup [V.vec .plain (some 2) l6, V.int n9])) (gd (belowSt 0 []) (some (Out.ret (V.tup [V.vec .plain (some 2) l6, V.int n9]), ([] : St))))))
            (onCons r3.snd.fst fun v10 c11 => onVec (some 2) v10 fun l12 => onCons c11 fun v13 c14 => onInt v13 fun n15 => onNil c14 (gd (below 0 (V.tup [V.vec .plain (some 2) l12, V.int n15])) (gd (belowSt 0 []) (some (Out.ret (V.tup [V.vec .plain (some 2) l12, V.int n15]), [])))))
            (fun i16 => none) fun v17 => none) = some (Out.ret (V.tup [V.vec .plain (some 2) (encToks ((match toks (c :: r) with | some l => (some l, (0 : Int)) | none => (none, 8)).1.getD [])), V.int (match toks (c :: r) with | some l => (some l, (0 : Int)) | none => (none, 8)).2]), []) := by
        intro z hz
        subst hz
        cases toks (c :: r) with
        | none => simp [lexEnd, encToks, below, belowL, belowSt]
        | some t =>
          have := below_tup t 0
          simp only [lexEnd, List.nil_append, obind_some', onEx_ret, onCons_cons, onVec_plain, onInt_int, onNil_nil, this, belowSt, Bool.and_self, gd_true]
          rfl
      intro h0
      cases hb1 : Ama.blank c with
      | true =>
        rw [hb1] at h0
        simp (disch := omega) only [bc_true, gd_and, gd_true, gd_dec, ba_size, List.length_cons] at h0 ⊢
        exact fin _ h0
      | false =>
        rw [hb1] at h0
        simp only [bc_false] at h0 ⊢
        cases hb2 : (c == 37) with
        | true =>
          rw [hb2] at h0
          have ht := takeWhile_le (p := inLine) (c :: r)
          simp only [List.length_cons] at ht
          simp (disch := omega) only [bc_true, gd_and, gd_true, gd_dec, ba_size, List.length_cons] at h0 ⊢
          exact fin _ h0
        | false =>
          rw [hb2] at h0
          simp only [bc_false] at h0 ⊢
          cases hb3 : Ama.mark c with
          | true =>
            rw [hb3] at h0
            simp (disch := omega) only [bc_true, gd_and, gd_true, gd_dec, ba_size, List.length_cons, List.length_nil, encToks_length, room_tok] at h0 ⊢
            exact fin _ h0
          | false =>
            rw [hb3] at h0
            simp only [bc_false] at h0 ⊢
            cases hb4 : named c with
            | true =>
              rw [hb4] at h0
              have ht := takeWhile_le (p := named) (c :: r)
              simp only [List.length_cons] at ht
              simp (disch := omega) only [bc_true, gd_and, gd_true, gd_dec, ba_size, List.length_cons, List.length_nil, encToks_length, room_tok] at h0 ⊢
              exact fin _ h0
            | false =>
              rw [toks_bad r hb1 hb2 hb3 hb4]
              simp (disch := omega) only [gd_and, gd_true, gd_dec, ba_size, List.length_cons, bc_false]
              rfl
end Go.Proofs.SW

/-! Tokens: the document's lexer; texts of tokens; equality. -/
namespace Go.Proofs.SW
open Go Go.AM Go.Ama

theorem rmark_spec (c : UInt8) : Ev 66 [.ik .u8 (c.toNat : Int)] (.bool (Ama.mark c)) := by
  have h : ∀ n : Int, Ev 66 [.ik .u8 n] (.bool (n == 40 || (n == 41 || (n == 91 || (n == 93 || (n == 123 || (n == 125 || (n == 58 || n == 46)))))))) := by
    intro n
    unfold Ev
    rw [C, e_ref13_mark]
    cases n == 40 <;> cases n == 41 <;> cases n == 91 <;> cases n == 93 <;> cases n == 123 <;> cases n == 125 <;> cases n == 58 <;> rfl
  have e : (((c.toNat : Int) == 40 || ((c.toNat : Int) == 41 || ((c.toNat : Int) == 91 || ((c.toNat : Int) == 93 || ((c.toNat : Int) == 123 || ((c.toNat : Int) == 125 || ((c.toNat : Int) == 58 || (c.toNat : Int) == 46)))))))) = Ama.mark c :=
    byteAll (p := fun c => (((c.toNat : Int) == 40 || ((c.toNat : Int) == 41 || ((c.toNat : Int) == 91 || ((c.toNat : Int) == 93 || ((c.toNat : Int) == 123 || ((c.toNat : Int) == 125 || ((c.toNat : Int) == 58 || (c.toNat : Int) == 46)))))))) = Ama.mark c) (by decide +kernel) c
  rw [← e]; exact h _
theorem rnamed_spec (c : UInt8) : Ev 67 [.ik .u8 (c.toNat : Int)] (.bool (named c)) := by
  have h : ∀ n : Int, Ev 67 [.ik .u8 n] (.bool (namedI n)) := by
    intro c
    unfold Ev namedI
    rw [C, e_ref13_named]
    generalize decide (c ≥ 97) = a1
    generalize decide (c ≤ 122) = a2
    generalize decide (c ≥ 65) = a3
    generalize decide (c ≤ 90) = a4
    generalize decide (c ≥ 48) = a5
    generalize decide (c ≤ 57) = a6
    generalize (c == 95) = a7
    generalize (c == 39) = a8
    cases a1 <;> cases a2 <;> cases a3 <;> cases a4 <;> cases a5 <;> cases a6 <;> cases a7 <;> cases a8 <;> rfl
  rw [← named_byte]; exact h _

theorem drop_cons {b : Bytes} {i : Nat} {c : UInt8} {r : Bytes} (h : b.drop i = c :: r) : ∃ hi : i < b.length, b[i] = c ∧ b.drop (i + 1) = r := by
  have hi : i < b.length := by
    rcases Nat.lt_or_ge i b.length with h' | h'
    · exact h'
    · rw [List.drop_eq_nil_iff.2 h'] at h; cases h
  rw [List.drop_eq_getElem_cons hi] at h
  simp only [List.cons.injEq] at h
  exact ⟨hi, h.1, h.2⟩

theorem bne10 (c : UInt8) : ((c.toNat : Int) != 10) = inLine c := byteAll (p := fun c => ((c.toNat : Int) != 10) = inLine c) (by decide +kernel) c

theorem rskip_loop (b : Bytes) (hb : b.length ≤ 1048576) (acc : List V) : ∀ k i, i + k = b.length → W.loop 56 12 [.int (i : Nat), .vec .plain none (encB b), .vec .grow (some 2) acc] [] =
    some (Ex.exit 2, [.int ((i + ((b.drop i).takeWhile inLine).length : Nat) : Int), .vec .plain none (encB b), .vec .grow (some 2) acc], [])
  | 0, i, h => by
    rw [L, e_ref13_Tokens_L12, List.drop_eq_nil_iff.2 (by omega), encB_length]
    simp (disch := omega)
  | k + 1, i, h => by
    have hi : i < b.length := by omega
    have ih := rskip_loop b hb acc k (i + 1) (by omega)
    rw [L, e_ref13_Tokens_L12, List.drop_eq_getElem_cons hi, encB_length, getI_encB hi, onIk_ik, bne10, List.takeWhile_cons]
    simp (disch := omega) only [bc_dec_t, gd_and, gd_dec, wrap_i]
    cases inLine b[i] with
    | false => simp
    | true =>
      simp only [bc_true, if_true, List.length_cons]
      have e : ((i : Int) + 1) = ((i + 1 : Nat) : Int) := by omega
      rw [e]
      refine Eq.trans ih ?_
      simp; omega

theorem rname_loop (b : Bytes) (hb : b.length ≤ 1048576) (i0 : Int) (acc : List V) : ∀ k i, i + 1 + k = b.length → W.loop 56 20 [.vec .plain none (encB b), .int (i : Nat), .int i0, .vec .grow (some 2) acc, .bool true] [] =
    some (Ex.exit 4, [.vec .plain none (encB b), .int ((i + 1 + ((b.drop (i + 1)).takeWhile named).length : Nat) : Int), .int i0, .vec .grow (some 2) acc], []) := by
  have stop : ∀ i : Int, W.loop 56 20 [.vec .plain none (encB b), .int i, .int i0, .vec .grow (some 2) acc, .bool false] [] = some (Ex.exit 4, [.vec .plain none (encB b), .int i, .int i0, .vec .grow (some 2) acc], []) := by
    intro i; rw [L, e_ref13_Tokens_L20]; rfl
  intro k
  induction k with
  | zero =>
    intro i h
    have h2 : ¬ ((i : Int) + 1 < (b.length : Int)) := by omega
    rw [L, e_ref13_Tokens_L20, List.drop_eq_nil_iff.2 (by omega), encB_length]
    simp (disch := omega) only [bc_true, wrap_i, bc_dec_f]
    rw [decide_eq_false h2]
    refine Eq.trans (stop _) ?_
    simp
  | succ k ih =>
    intro i h
    have hi : i + 1 < b.length := by omega
    have ih := ih (i + 1) (by omega)
    have e : ((i : Int) + 1) = ((i + 1 : Nat) : Int) := by omega
    rw [L, e_ref13_Tokens_L20, List.drop_eq_getElem_cons hi, encB_length, List.takeWhile_cons]
    simp (disch := omega) only [bc_true, wrap_i, bc_dec_t, gd_and, gd_dec]
    rw [e, getI_encB hi]
    simp only [onIk_ik, (rnamed_spec _).p, obind_some', onBool_bool]
    cases hn : named b[i + 1] with
    | false => refine Eq.trans (stop _) ?_; simp
    | true =>
      refine Eq.trans ih ?_
      simp; omega

theorem take_one {b : Bytes} {i : Nat} (hi : i < b.length) : (b.take (i + 1)).drop i = [b[i]] := by
  rw [List.take_succ_eq_append_getElem hi, List.drop_append_of_le_length (by simp; omega), List.drop_take]
  simp
theorem take_part (b : Bytes) (i n : Nat) : (b.take (i + n)).drop i = (b.drop i).take n := by rw [List.drop_take]; congr 1; omega

theorem beq32 (c : UInt8) : ((c.toNat : Int) == 32) = (c == 32) := byteAll (p := fun c => ((c.toNat : Int) == 32) = (c == 32)) (by decide +kernel) c
theorem beq9 (c : UInt8) : ((c.toNat : Int) == 9) = (c == 9) := byteAll (p := fun c => ((c.toNat : Int) == 9) = (c == 9)) (by decide +kernel) c
theorem beq10 (c : UInt8) : ((c.toNat : Int) == 10) = (c == 10) := byteAll (p := fun c => ((c.toNat : Int) == 10) = (c == 10)) (by decide +kernel) c
theorem not_blank {c : UInt8} (h : Ama.blank c = false) : (c == 32) = false ∧ (c == 9) = false ∧ (c == 10) = false := by
  simp only [Ama.blank, Bool.or_eq_false_iff] at h
  exact ⟨h.1.1, h.1.2, h.2⟩

/-- What the document's lexer comes to, behind some tokens. -/
def rlexEnd (acc : List Tok) : Option (List Tok) → Ex × List V × St
  | some t => (Ex.exit 0, [V.vec .grow (some 2) (encToks (acc ++ t))], [])
  | none => (Ex.ret, [V.vec .plain (some 2) [], V.int 8], [])

theorem rtokens_loop (b : Bytes) (hb : b.length ≤ 20000) : ∀ (rest : Bytes) (i : Nat) (acc : List Tok), b.drop i = rest → i ≤ b.length → acc.length ≤ i →
    W.loop 56 5 [.int (i : Nat), .vec .plain none (encB b), .vec .grow (some 2) (encToks acc)] [] = some (rlexEnd acc (toks rest)) := by
  refine bytes_ind ?_ ?_ ?_ ?_ ?_ ?_
  · intro i acc hd hi ha
    have : b.length ≤ i := List.drop_eq_nil_iff.1 hd
    rw [L, e_ref13_Tokens_L5, encB_length, toks_nil]
    simp (disch := omega) [rlexEnd]
  · intro c r hc ih i acc hd hi ha
    obtain ⟨hi', rfl, hr⟩ := drop_cons hd
    have ih := ih (i + 1) acc hr (by omega) (by omega)
    have e : ((i : Int) + 1) = ((i + 1 : Nat) : Int) := by omega
    rw [L, e_ref13_Tokens_L5, encB_length, getI_encB hi', toks_blank _ hc, ← ih]
    simp (disch := omega) only [bc_dec_t, gd_and, gd_dec, onIk_ik, (rmark_spec _).p, (rnamed_spec _).p, obind_some', onBool_bool, wrap_i, beq32, beq9, beq10, e]
    simp only [Ama.blank, Bool.or_eq_true] at hc
    rcases hc with (hc | hc) | hc
    · rw [hc]; rfl
    · rw [hc]; cases b[i] == 32 <;> rfl
    · rw [hc]; cases b[i] == 32 <;> cases b[i] == 9 <;> rfl
  · intro r ih i acc hd hi ha
    obtain ⟨hi', hc, hr⟩ := drop_cons hd
    have hsk := rskip_loop b (by omega) (encToks acc) (b.length - i) i (by omega)
    have htd := take_takeWhile (p := inLine) (37 :: r)
    have h3 : (37 :: r).dropWhile inLine = r.dropWhile inLine := by simp [List.dropWhile_cons, inLine]
    have hlen := takeWhile_le (p := inLine) (37 :: r)
    have hbl : (b.drop i).length = b.length - i := List.length_drop
    rw [hd] at hsk hbl
    have ih := ih (i + ((37 :: r).takeWhile inLine).length) acc (by rw [← List.drop_drop, hd, htd.2, h3]) (by omega) (by omega)
    rw [L, e_ref13_Tokens_L5, encB_length, getI_encB hi', hc, toks_note _ rfl, ← ih]
    simp (disch := omega) only [bc_dec_t, gd_and, gd_dec, onIk_ik, (rmark_spec _).p, (rnamed_spec _).p, obind_some', onBool_bool, hsk]
    have h37 : ((37 : UInt8).toNat : Int) = 37 := by decide
    simp [h37]
  · intro c r hc ih i acc hd hi ha
    obtain ⟨hi', rfl, hr⟩ := drop_cons hd
    obtain ⟨h7, h8, _⟩ := mark_facts hc
    obtain ⟨h9, h10, h11⟩ := not_blank h7
    have ih := ih (i + 1) (acc ++ [(1, [b[i]])]) hr (by omega) (by simp; omega)
    have e : ((i : Int) + 1) = ((i + 1 : Nat) : Int) := by omega
    have he : encToks acc ++ [V.agg [V.int 1, V.str (ba [b[i]])]] = encToks (acc ++ [(1, [b[i]])]) := by rw [encToks_append]; rfl
    have hend : rlexEnd acc ((toks r).map ((1, [b[i]]) :: ·)) = rlexEnd (acc ++ [(1, [b[i]])]) (toks r) := by cases toks r <;> simp [rlexEnd]
    rw [L, e_ref13_Tokens_L5, encB_length, getI_encB hi', toks_mark _ hc, hend, ← ih]
    simp (disch := omega) only [bc_dec_t, gd_and, gd_dec, onIk_ik, (rmark_spec _).p, (rnamed_spec _).p, obind_some', onBool_bool, wrap_i, beq32, beq9, beq10, percent_byte, h8, h9, h10, h11, bc_false, hc, bc_true, gd_true, List.length_cons, List.length_nil, encToks_length, room_tok]
    rw [e]
    simp only [Int.toNat_natCast, encB_take, encB_drop, take_one hi', isU8_b, gd_true, strV_encB, he]
  · intro c r hc ih i acc hd hi ha
    obtain ⟨hi', rfl, hr⟩ := drop_cons hd
    obtain ⟨h7, h8, h12, _⟩ := named_facts hc
    obtain ⟨h9, h10, h11⟩ := not_blank h7
    have hnl := rname_loop b (by omega) (i : Nat) (encToks acc) (b.length - i - 1) i (by omega)
    have htd := take_takeWhile (p := named) r
    have hlen := takeWhile_le (p := named) r
    have hbl : (b.drop (i + 1)).length = b.length - (i + 1) := List.length_drop
    rw [hr] at hnl hbl
    have hpart : (b.take (i + 1 + (r.takeWhile named).length)).drop i = b[i] :: r.takeWhile named := by
      rw [show i + 1 + (r.takeWhile named).length = i + ((r.takeWhile named).length + 1) by omega, take_part, hd, List.take_succ_cons, htd.1]
    have ih := ih (i + 1 + (r.takeWhile named).length) (acc ++ [(0, b[i] :: r.takeWhile named)]) (by rw [← List.drop_drop, hr, htd.2]) (by omega) (by simp; omega)
    have he : encToks acc ++ [V.agg [V.int 0, V.str (ba (b[i] :: r.takeWhile named))]] = encToks (acc ++ [(0, b[i] :: r.takeWhile named)]) := by rw [encToks_append]; rfl
    have hend : rlexEnd acc ((toks (r.dropWhile named)).map ((0, b[i] :: r.takeWhile named) :: ·)) = rlexEnd (acc ++ [(0, b[i] :: r.takeWhile named)]) (toks (r.dropWhile named)) := by cases toks (r.dropWhile named) <;> simp [rlexEnd]
    rw [L, e_ref13_Tokens_L5, encB_length, getI_encB hi', toks_name _ hc, hend, ← ih]
    simp (disch := omega) only [bc_dec_t, gd_and, gd_dec, onIk_ik, (rmark_spec _).p, (rnamed_spec _).p, obind_some', onBool_bool, wrap_i, beq32, beq9, beq10, percent_byte, h8, h9, h10, h11, h12, bc_false, hc, bc_not, bc_true]
    simp (disch := omega) only [hnl, obind_some', onEx_exit, Nat.beq_refl, bc_true, onCons_cons, onVec_plain, onInt_int, onRoom_grow, onNil_nil, gd_dec, gd_and, encB_length, List.length_cons, List.length_nil, encToks_length, room_tok, gd_true, Int.toNat_natCast, encB_take, encB_drop, hpart, isU8_b, strV_encB, he]
  · intro c r h1' h2' h3' h4' i acc hd hi ha
    obtain ⟨hi', rfl, hr⟩ := drop_cons hd
    obtain ⟨h9, h10, h11⟩ := not_blank h1'
    rw [L, e_ref13_Tokens_L5, encB_length, getI_encB hi', toks_bad _ h1' h2' h3' h4']
    simp (disch := omega) only [bc_dec_t, gd_and, gd_dec, onIk_ik, (rmark_spec _).p, (rnamed_spec _).p, obind_some', onBool_bool, wrap_i, beq32, beq9, beq10, percent_byte, h2', h9, h10, h11, h3', h4', bc_false, bc_not, bc_true]
    rfl

theorem rtokens_spec (b : Bytes) (hb : b.length ≤ 1048576) : Ev 56 [.vec .plain none (encB b)] (encRes (lexRes b)) := by
  unfold Ev lexRes encRes
  rw [C, e_ref13_Tokens, encB_length]
  by_cases hl : b.length > 20000
  · simp (disch := omega) [hl, encToks]
  · have h0 := rtokens_loop b (by omega) b 0 [] rfl (by omega) (by simp)
    have h0' : W.loop 56 5 [.int 0, .vec .plain none (encB b), .vec .grow (some 2) []] [] = some (rlexEnd [] (toks b)) := h0
    rw [bc_dec_f (by omega), if_neg hl, h0']
    cases toks b with
    | none => simp [rlexEnd, encToks, below, belowL, belowSt]
    | some t =>
      have := below_tup t 0
      simp [rlexEnd, this, belowSt]

/-! ### equality -/
theorem onStruct_tok {R : Type} (t : Tok) (K : Int → ByteArray → Option R) : onStruct (R := R) [CT.int, CT.str] (encTok t) K = K t.1 (ba t.2) := rfl
theorem tok_beq (a b : Tok) : (true && a.1 == b.1 && (ba a.2).toList == (ba b.2).toList) = decide (a = b) := by
  rw [ba_eq, Bool.true_and]
  obtain ⟨k, s⟩ := a
  obtain ⟨k', s'⟩ := b
  by_cases h : k = k' <;> by_cases h2 : s = s' <;> simp [h, h2]

/-! ### texts -/
theorem text_loop (l : List Tok) (hl : weight l + 2 * l.length ≤ 1048576) : ∀ k i (acc : Bytes) (last : Int), i + k = l.length → acc.length + weight (l.drop i) + 2 * (l.drop i).length ≤ 10485760 →
    W.loop 25 4 [.int (i : Nat), .vec .grow none (encB acc), .int last, .vec .plain (some 2) (encToks l), .int l.length] [] = some (Ex.exit 0, [.vec .grow none (encB (acc ++ textFrom last (l.drop i)))], [])
  | 0, i, acc, last, h, _ => by
    rw [L, e_lex_Text_L4, List.drop_eq_nil_iff.2 (by omega)]
    simp (disch := omega) [textFrom]
  | k + 1, i, acc, last, h, hw => by
    have hi : i < l.length := by omega
    rw [List.drop_eq_getElem_cons hi] at hw ⊢
    obtain ⟨kd, s, ht⟩ : ∃ kd s, l[i] = (kd, s) := ⟨_, _, rfl⟩
    rw [ht] at hw ⊢
    simp only [weight, List.length_cons] at hw
    have e : ((i : Int) + 1) = ((i + 1 : Nat) : Int) := by omega
    have ih := fun acc h => text_loop l hl k (i + 1) acc kd (by omega) h
    rw [L, e_lex_Text_L4, encToks_length, getI_encToks hi, ht]
    simp (disch := omega) only [bc_dec_t, gd_and, gd_dec, gd_true, wrap_i, onStruct_tok, bytesV_ba, List.length_append, List.length_cons, List.length_nil, encB_length, room_byte, e]
    have e32 : encB acc ++ [V.ik IntKind.u8 32] = encB (acc ++ [32]) := by rw [encB_append]; rfl
    simp only [e32, ← encB_append]
    have r0 := ih (acc ++ s) (by simp only [List.length_append]; omega)
    have r1 := ih (acc ++ [32] ++ s) (by simp only [List.length_append, List.length_cons, List.length_nil]; omega)
    by_cases h1 : kd = 0
    · subst h1
      by_cases h2 : last = 0
      · subst h2
        simp only [beq_self_eq_true, bc_true]
        refine Eq.trans r1 ?_
        simp [textFrom]
      · simp (disch := omega) only [beq_self_eq_true, bc_true, bc_beq_f]
        refine Eq.trans r0 ?_
        simp [textFrom, h2]
    · simp (disch := omega) only [bc_beq_f]
      refine Eq.trans r0 ?_
      simp [textFrom, h1]

theorem text_spec (l : List Tok) (hl : weight l + 2 * l.length ≤ 1048576) : Ev 25 [.vec .plain (some 2) (encToks l)] (.vec .plain none (encB (text l))) := by
  have h := text_loop l hl l.length 0 [] 1 (by omega) (by simp; omega)
  have h' : W.loop 25 4 [.int 0, .vec .grow none [], .int 1, .vec .plain (some 2) (encToks l), .int l.length] [] = some (Ex.exit 0, [.vec .grow none (encB (text l))], []) := h
  unfold Ev
  rw [C, e_lex_Text, encToks_length, h']
  simp [below, belowSt, below_encB]
theorem kind_tok (t : Tok) : AM.partOf [V.int t.1, V.str (ba t.2)] 0 none = V.int t.1 := rfl
theorem txt_tok (t : Tok) : AM.partOf [V.int t.1, V.str (ba t.2)] 1 none = V.str (ba t.2) := rfl

theorem rtext_loop (l : List Tok) (hl : weight l + 2 * l.length ≤ 1048576) : ∀ k i (acc : Bytes), i + k = l.length → acc.length + weight (l.drop i) + 2 * (l.drop i).length ≤ 10485760 →
    W.loop 29 3 [.int (i : Nat), .vec .plain (some 2) (encToks l), .vec .grow none (encB acc)] [] = some (Ex.exit 0, [.vec .grow none (encB (acc ++ textFrom (if h : i ≠ 0 ∧ i ≤ l.length then (l[i - 1]'(by omega)).1 else 1) (l.drop i)))], [])
  | 0, i, acc, h, _ => by
    rw [L, e_ref13_Text_L3, List.drop_eq_nil_iff.2 (by omega)]
    simp (disch := omega) [textFrom]
  | k + 1, i, acc, h, hw => by
    have hi : i < l.length := by omega
    have hd := List.drop_eq_getElem_cons hi
    rw [hd] at hw ⊢
    have hws : weight (l[i] :: l.drop (i + 1)) = l[i].2.length + weight (l.drop (i + 1)) := rfl
    rw [hws, List.length_cons] at hw
    have e : ((i : Int) + 1) = ((i + 1 : Nat) : Int) := by omega
    have ih := fun acc h => rtext_loop l hl k (i + 1) acc (by omega) h
    have hts : ∀ last, textFrom last (l[i] :: l.drop (i + 1)) = (if l[i].1 = 0 ∧ last = 0 then [32] else []) ++ l[i].2 ++ textFrom l[i].1 (l.drop (i + 1)) := fun last => rfl
    have hc1 : (i + 1 ≠ 0 ∧ i + 1 ≤ l.length) := ⟨by omega, by omega⟩
    simp only [dif_pos hc1, Nat.add_sub_cancel] at ih
    have e32 : encB acc ++ [V.ik IntKind.u8 32] = encB (acc ++ [32]) := by rw [encB_append]; rfl
    have r0 := ih (acc ++ l[i].2) (by simp only [List.length_append]; omega)
    have r1 := ih (acc ++ [32] ++ l[i].2) (by simp only [List.length_append, List.length_cons, List.length_nil]; omega)
    rw [L, e_ref13_Text_L3, encToks_length, getI_encToks hi, hts]
    by_cases h0 : i = 0
    · subst h0
      rw [dif_neg (by omega)]
      simp (disch := omega) only [bc_dec_t, bc_dec_f, gd_and, gd_dec, gd_true, wrap_i, encTok, onAgg_agg, List.length_cons, List.length_nil, txt_tok, onStr_str, bytesV_ba, encB_length, room_byte, e, ← encB_append]
      refine Eq.trans r0 ?_
      simp
    · have hi1 : i - 1 < l.length := by omega
      have e1 : ((i : Int) - 1) = ((i - 1 : Nat) : Int) := by omega
      rw [dif_pos ⟨h0, by omega⟩]
      simp (disch := omega) only [bc_dec_t, gd_and, gd_dec, gd_true, wrap_i, encTok, onAgg_agg, List.length_cons, List.length_nil, kind_tok, txt_tok, onStr_str, onInt_int, bytesV_ba, encB_length, List.length_append, room_byte, e, e1, e32, getI_encToks hi1, ← encB_append]
      by_cases h1 : l[i].1 = 0
      · by_cases h2 : l[i - 1].1 = 0
        · simp (disch := omega) only [bc_beq_t]
          refine Eq.trans r1 ?_
          simp [h1, h2]
        · simp (disch := omega) only [bc_beq_t, bc_beq_f]
          refine Eq.trans r0 ?_
          simp [h2]
      · simp (disch := omega) only [bc_beq_f]
        refine Eq.trans r0 ?_
        simp [h1]

theorem rtext_spec (l : List Tok) (hl : weight l + 2 * l.length ≤ 1048576) : Ev 29 [.vec .plain (some 2) (encToks l)] (.vec .plain none (encB (text l))) := by
  have h := rtext_loop l hl l.length 0 [] (by omega) (by simp; omega)
  have h' : W.loop 29 3 [.int 0, .vec .plain (some 2) (encToks l), .vec .grow none []] [] = some (Ex.exit 0, [.vec .grow none (encB (text l))], []) := by
    rw [dif_neg (by omega)] at h; exact h
  unfold Ev
  rw [C, e_ref13_Text, h']
  simp [below, belowSt, below_encB]
end Go.Proofs.SW

namespace Go.Proofs.SW
open Go Go.AM
set_option maxRecDepth 20000

theorem e_show_Term (O : Oracle) (n0 : Int) (n1 : Int) (l2 : (List V)) (l3 : (List V)) : callBody Tryd.prog cfg O 11 [.agg [.int n0, .int n1, .vec .plain (some 3) l2], .vec .plain (some 4) l3] [] =
  obind (pcall O 16 [V.agg [V.int n0, V.int n1, V.vec .plain (some 3) l2]]) fun r1 => onBool r1 fun b2 => bc (!b2) (some (Out.ret (V.tup [V.vec .plain none [], V.int 1]),
  [])) (obind (O.call 24 [V.ref 0 0, V.agg [V.int n0, V.int n1, V.vec .plain (some 3) l2], V.int 0] [Res.box [V.vec .plain (some 4) l3, V.vec Mode.full (some 2) [],
  V.int 0]]) fun r3 => onRet r3.fst (fun v4 => onTup v4 fun c5 => onNil c5 (getR r3.snd 0 fun x6 => onBox x6 fun c7 => gd (decide (3 ≤ c7.length) && true) (onInt (cleanV (AM.partOf
  c7 2 none)) fun n8 => bc (n8 != 0) (getR r3.snd 0 fun x9 => onBox x9 fun c10 => gd (decide (3 ≤ c10.length) && true) (onInt (cleanV (AM.partOf c10 2 none)) fun n11 => some
  (Out.ret (V.tup [V.vec .plain none [], V.int n11]), []))) (getR r3.snd 0 fun x12 => onBox x12 fun c13 => gd (decide (2 ≤ c13.length) && true) (onVec (some 2) (cleanV (AM.partOf
  c13 1 none)) fun l14 => obind (pcall O 25 [V.vec .plain (some 2) l14]) fun r15 => onVec none r15 fun l16 => gd (below 0 (V.tup [V.vec .plain none l16, V.int 0]) && belowSt
  0 []) (some (Out.ret (V.tup [V.vec .plain none l16, V.int 0]), []))))))) fun p17 => none) := by kernel_rfl

theorem e_show_Decls (O : Oracle) (l0 : (List V)) : callBody Tryd.prog cfg O 13 [.vec .plain (some 4) l0] [] =
  obind (O.loop 13 3 [V.int 0, V.mp 0, V.vec .plain (some 4) l0, V.vec .plain (some 4) l0, V.int (↑l0.length : Int)] [Res.map CT.str CT.int []]) fun r1 => onEx r1.fst none
  none (fun i2 => bc (i2.beq 0) (onCons r1.snd.fst fun v3 c4 => onVec (some 4) v3 fun l5 => onCons c4 fun v6 c7 => onMp v6 fun q8 => onNil c7 (obind (O.loop 13 9 [V.int 0,
  V.vec Mode.grow none [], V.vec .plain (some 4) l5, V.mp q8, V.vec .plain (some 4) l5, V.int (↑l5.length : Int)] r1.snd.snd) fun r9 => onEx r9.fst none (onCons r9.snd.fst fun v10
  c11 => onVec none v10 fun l12 => onCons c11 fun v13 c14 => onInt v13 fun n15 => onNil c14 (gd (below 0 (V.tup [V.vec .plain none l12, V.int n15]) && belowSt 0 []) (some (Out.ret
  (V.tup [V.vec .plain none l12, V.int n15]), [])))) (fun i16 => bc (i16.beq 2) (onCons r9.snd.fst fun v17 c18 => onRoom none v17 fun l19 => onNil c18 (gd (below 0 (V.tup [V.vec
  .plain none l19, V.int 0]) && belowSt 0 []) (some (Out.ret (V.tup [V.vec .plain none l19, V.int 0]), [])))) none) fun v20 => none)) none) fun v21 => none := by kernel_rfl

theorem e_show_Decls_L3 (O : Oracle) (n0 : Int) (l2 : (List V)) (l3 : (List V)) (n4 : Int) (es : List (V × V)) : loopBody Tryd.prog cfg O 13 3 [.int n0, .mp 0, .vec .plain (some 4) l2, .vec .plain (some 4) l3, .int n4] [.map .str .int es] =
  bc (decide (n0 < n4)) (gd (decide (0 ≤ n0) && decide (n0 < (↑l2.length : Int))) (onStruct [CT.str, CT.int, CT.int, CT.slice (some 3)] (getI l2 n0) fun s1 n2 n3 l4 => onInt
  (mapFind es (V.str s1) (V.int 0)) fun n5 => O.2 13 3 [V.int (IntKind.i64.wrap (n0 + 1)), V.mp 0, V.vec .plain (some 4) l2, V.vec .plain (some 4) l3, V.int n4] [Res.map
  CT.str CT.int (mapPut es (V.str s1) (V.int (IntKind.i64.wrap (n5 + 1))))])) (some (Ex.exit 0, [V.vec .plain (some 4) l3, V.mp 0], [Res.map CT.str CT.int es])) := by kernel_rfl

theorem e_show_Decls_L9 (O : Oracle) (n0 : Int) (l1 : (List V)) (l2 : (List V)) (l3 : (List V)) (n4 : Int) (es : List (V × V)) : loopBody Tryd.prog cfg O 13 9 [.int n0, .vec .grow none l1, .vec .plain (some 4) l2, .mp 0, .vec .plain (some 4) l3, .int n4] [.map .str .int es] =
  bc (decide (n0 < n4)) (gd (decide (0 ≤ n0) && decide (n0 < (↑l3.length : Int))) (onStruct [CT.str, CT.int, CT.int, CT.slice (some 3)] (getI l3 n0) fun s1 n2 n3 l4 => obind (pcall
  O 15 [V.str s1]) fun r5 => onBool r5 fun b6 => bc (!b6) (some (Ex.ret, [V.vec .plain none [], V.int 1], [Res.map CT.str CT.int es])) (onInt (mapFind es (V.str s1) (V.int
  0)) fun n7 => bc (decide (n7 > 1)) (some (Ex.ret, [V.vec .plain none [], V.int 1], [Res.map CT.str CT.int es])) (obind (pcall O 11 [V.agg [V.int n2, V.int n3, V.vec
  .plain (some 3) l4], V.vec .plain (some 4) l2]) fun r8 => onTup r8 fun c9 => onCons c9 fun v10 c11 => onVec none v10 fun l12 => onCons c11 fun v13 c14 => onInt v13 fun n15 =>
  onNil c14 (bc (n15 != 0) (some (Ex.ret, [V.vec .plain none [], V.int n15], [Res.map CT.str CT.int es])) (gd (decide (s1.size + 3 ≤ 9223372036854775807)) (gd (l12.all isU8) (gd
  (decide ((s1 ++ { data := #[32, 58, 32] }).size + (strV l12).size ≤ 9223372036854775807)) (gd (decide ((s1 ++ { data := #[32, 58, 32] } ++ strV l12).size + 2 ≤
  9223372036854775807)) (gd (true && roomFor Tryd.prog 5 (l1.length + (bytesV (s1 ++ { data := #[32, 58, 32] } ++ strV l12 ++ { data := #[46, 10] })).length)) (O.2
  13 9 [V.int (IntKind.i64.wrap (n0 + 1)), V.vec Mode.grow none (l1 ++ bytesV (s1 ++ { data := #[32, 58, 32] } ++ strV l12 ++ { data := #[46, 10] })), V.vec .plain (some
  4) l2, V.mp 0, V.vec .plain (some 4) l3, V.int n4] [Res.map CT.str CT.int es]))))))))))) (some (Ex.exit 2, [V.vec Mode.grow none l1], [Res.map CT.str CT.int es])) := by kernel_rfl

theorem e_show_writer_term (O : Oracle) (r0 : Nat) (n1 : Int) (n2 : Int) (l3 : (List V)) (n4 : Int) (st : St) : callBody Tryd.prog cfg O 24 [.ref r0 0, .agg [.int n1, .int n2, .vec .plain (some 3) l3], .int n4] st =
  bc (n1 == 0) (obind (O.call 41 [V.ref r0 0, V.str { data := #[116, 121, 112, 101] }] st) fun r1 => onRet r1.fst (fun v2 => onTup v2 fun c3 => onNil c3 (gcE
  (List.length st) (V.tup []) r1.snd)) fun p4 => none) (bc (n1 == 1) (obind (O.call 42 [V.ref r0 0, V.str { data := #[123] }, V.str { data := #[125] }, V.fn
  43 [] [V.cptr none (V.ref r0 0), V.cptr none (V.int n4), V.cptr (some 3) (V.agg [V.int n1, V.int n2, V.vec .plain (some 3) l3])]] st) fun r5 => onRet r5.fst (fun
  v6 => onTup v6 fun c7 => onNil c7 (gd (true && decide (1 < (↑l3.length : Int))) (onStruct [CT.int, CT.int, CT.slice (some 3)] (getI l3 1) fun n8 n9 l10 => obind (O.call
  24 [V.ref r0 0, V.agg [V.int n8, V.int n9, V.vec .plain (some 3) l10], V.int (IntKind.i64.wrap (n4 + 1))] r5.snd) fun r11 => onRet r11.fst (fun v12 => onTup v12
  fun c13 => onNil c13 (gcE (List.length st) (V.tup []) r11.snd)) fun p14 => none))) fun p15 => none) (bc (n1 == 3) (obind (O.call 42 [V.ref r0 0, V.str { data :=
  #[91] }, V.str { data := #[93] }, V.fn 46 [] [V.cptr none (V.ref r0 0), V.cptr none (V.int n4)]] st) fun r16 => onRet r16.fst (fun v17 => onTup v17 fun c18 =>
  onNil c18 (gd (true && decide (0 < (↑l3.length : Int))) (onStruct [CT.int, CT.int, CT.slice (some 3)] (getI l3 0) fun n19 n20 l21 => obind (O.call 24 [V.ref r0 0,
  V.agg [V.int n19, V.int n20, V.vec .plain (some 3) l21], V.int (IntKind.i64.wrap (n4 + 1))] r16.snd) fun r22 => onRet r22.fst (fun v23 => onTup v23 fun c24 => onNil c24 (gcE
  (List.length st) (V.tup []) r22.snd)) fun p25 => none))) fun p26 => none) (obind (O.call 47 [V.ref r0 0, V.agg [V.int n1, V.int n2, V.vec .plain (some 3) l3],
  V.int n4] st) fun r27 => onRet r27.fst (fun v28 => onTup v28 fun c29 => onNil c29 (obind (O.loop 24 4 [V.int 0, V.loc false none (V.int n4), V.loc false none
  (V.ref r0 0), V.vec .plain (some 3) l3, V.int (↑l3.length : Int)] r27.snd) fun r30 => onEx r30.fst none none (fun i31 => bc (i31.beq 1) (onNil r30.snd.fst (gcE (List.length st)
  (V.tup []) r30.snd.snd)) none) fun v32 => none)) fun p33 => none))) := by kernel_rfl

theorem e_show_writer_term_L4 (O : Oracle) (n0 : Int) (n1 : Int) (r2 : Nat) (l3 : (List V)) (n4 : Int) (st : St) : loopBody Tryd.prog cfg O 24 4 [.int n0, .cptr none (.int n1), .cptr none (.ref r2 0), .vec .plain (some 3) l3, .int n4] st =
  bc (decide (n0 < n4)) (gd (decide (0 ≤ n0) && decide (n0 < (↑l3.length : Int))) (onStruct [CT.int, CT.int, CT.slice (some 3)] (getI l3 n0) fun n1_1 n2 l3_1 => obind (pcall O
  48 [V.agg [V.int n1_1, V.int n2, V.vec .plain (some 3) l3_1]]) fun r4 => onBool r4 fun b5 => bc b5 (obind (O.call 24 [V.ref r2 0, V.agg [V.int n1_1,
  V.int n2, V.vec .plain (some 3) l3_1], V.int n1] st) fun r6 => onRet r6.fst (fun v7 => onTup v7 fun c8 => onNil c8 (O.2 24 4 [V.int (IntKind.i64.wrap (n0 + 1)),
  V.cptr none (V.int n1), V.cptr none (V.ref r2 0), V.vec .plain (some 3) l3, V.int n4] r6.snd)) fun p9 => none) (obind (O.call 42 [V.ref r2 0, V.str { data :=
  #[40] }, V.str { data := #[41] }, V.fn 49 [] [V.cptr none (V.ref r2 0), V.cptr (some 3) (V.agg [V.int n1_1, V.int n2, V.vec .plain (some 3) l3_1]), V.cptr none
  (V.int n1)]] st) fun r10 => onRet r10.fst (fun v11 => onTup v11 fun c12 => onNil c12 (O.2 24 4 [V.int (IntKind.i64.wrap (n0 + 1)), V.cptr none (V.int n1), V.cptr
  none (V.ref r2 0), V.vec .plain (some 3) l3, V.int n4] r10.snd)) fun p13 => none))) (some (Ex.exit 1, [], st)) := by kernel_rfl

theorem e_show_writer_name (O : Oracle) (r0 : Nat) (s1 : ByteArray) (st : St) : callBody Tryd.prog cfg O 41 [.ref r0 0, .str s1] st =
  getR st r0 fun x1 => onBox x1 fun c2 => gd (decide (1 < c2.length) && true && true) (onRoom2 (some 2) (c2.getD 1 V.undef) (fun l3 => gd (true && roomFor Tryd.prog 58
  (l3.length + [V.agg [V.int 0, V.str s1]].length)) (getR (List.set st r0 (Res.box (c2.set 1 (V.vec .plain (some 2) l3)))) r0 fun x4 => onBox x4 fun c5 => gd (decide (2 ≤ c5.length)
  && true) (gcE (List.length st) (V.tup []) ((List.set st r0 (Res.box (c2.set 1 (V.vec .plain (some 2) l3)))).set r0 (Res.box (setCells c5 1 [V.vec Mode.grow (some 2) (l3 ++ [V.agg
  [V.int 0, V.str s1]])])))))) fun l6 => gd (true && roomFor Tryd.prog 58 (l6.length + [V.agg [V.int 0, V.str s1]].length)) (getR (List.set st r0 (Res.box (c2.set 1 (V.vec
  .plain (some 2) l6)))) r0 fun x7 => onBox x7 fun c8 => gd (decide (2 ≤ c8.length) && true) (gcE (List.length st) (V.tup []) ((List.set st r0 (Res.box (c2.set 1 (V.vec .plain (some
  2) l6)))).set r0 (Res.box (setCells c8 1 [V.vec Mode.grow (some 2) (l6 ++ [V.agg [V.int 0, V.str s1]])])))))) := by kernel_rfl

theorem e_show_writer_within (O : Oracle) (r0 : Nat) (s1 : ByteArray) (s2 : ByteArray) (g3 : Nat) (l4 : (List V)) (l5 : (List V)) (st : St) : callBody Tryd.prog cfg O 42 [.ref r0 0, .str s1, .str s2, .fn g3 l4 l5] st =
  obind (O.call 45 [V.ref r0 0, V.vec .plain none [V.str s1]] st) fun r1 => onRet r1.fst (fun v2 => onTup v2 fun c3 => onNil c3 (bc (cfg.pure g3) (obind (pcall O g3
  (l4 ++ [] ++ l5)) fun r4 => onTup r4 fun c5 => onNil c5 (obind (O.call 45 [V.ref r0 0, V.vec .plain none [V.str s2]] r1.snd) fun r6 => onRet r6.fst (fun v7 =>
  onTup v7 fun c8 => onNil c8 (gcE (List.length st) (V.tup []) r6.snd)) fun p9 => none)) (obind (O.call g3 (l4 ++ [] ++ l5) r1.snd) fun r10 => onRet r10.fst (fun v11 => onTup v11
  fun c12 => onNil c12 (obind (O.call 45 [V.ref r0 0, V.vec .plain none [V.str s2]] r10.snd) fun r13 => onRet r13.fst (fun v14 => onTup v14 fun c15 => onNil c15
  (gcE (List.length st) (V.tup []) r13.snd)) fun p16 => none)) fun p17 => none))) fun p18 => none := by kernel_rfl

theorem e_show_writer_term_1 (O : Oracle) (r0 : Nat) (n0 : Int) (k : Int) (h : Int) (l : (List V)) (st : St) : callBody Tryd.prog cfg O 43 [.cptr none (.ref r0 0), .cptr none (.int n0), .cptr (some 3) (.agg [.int k, .int h, .vec .plain (some 3) l])] st =
  obind (O.call 44 [V.ref r0 0, V.int n0] st) fun r1 => onRet r1.fst (fun v2 => onTup v2 fun c3 => onNil c3 (obind (O.call 45 [V.ref r0 0, V.vec
  .plain none [V.str { data := #[58] }]] r1.snd) fun r4 => onRet r4.fst (fun v5 => onTup v5 fun c6 => onNil c6 (gd (true && decide (0 < (↑l.length : Int))) (onStruct [CT.int,
  CT.int, CT.slice (some 3)] (getI l 0) fun n7 n8 l9 => obind (O.call 24 [V.ref r0 0, V.agg [V.int n7, V.int n8, V.vec .plain (some 3) l9], V.int n0] r4.snd) fun r10
  => onRet r10.fst (fun v11 => onTup v11 fun c12 => onNil c12 (gcE (List.length st) (V.tup []) r10.snd)) fun p13 => none))) fun p14 => none)) fun p15 => none := by kernel_rfl

theorem e_show_writer_bound (O : Oracle) (r0 : Nat) (n1 : Int) (st : St) : callBody Tryd.prog cfg O 44 [.ref r0 0, .int n1] st =
  obind (pcall O 64 [V.int n1]) fun r1 => onStr r1 fun s2 => gd (decide (1 + s2.size ≤ 9223372036854775807)) (obind (O.call 41 [V.ref r0 0, V.str ({ data
  := #[95] } ++ s2)] st) fun r3 => onRet r3.fst (fun v4 => onTup v4 fun c5 => onNil c5 (gcE (List.length st) (V.tup []) r3.snd)) fun p6 => none) := by kernel_rfl

theorem e_show_writer_marks (O : Oracle) (r0 : Nat) (l1 : (List V)) (st : St) : callBody Tryd.prog cfg O 45 [.ref r0 0, .vec .plain none l1] st =
  obind (O.loop 45 1 [V.int 0, V.ref r0 0, V.vec .plain none l1, V.int (↑l1.length : Int)] st) fun r1 => onEx r1.fst none none (fun i2 => bc (i2.beq 0) (onNil
  r1.snd.fst (gcE (List.length st) (V.tup []) r1.snd.snd)) none) fun v3 => none := by kernel_rfl

theorem e_show_writer_marks_L1 (O : Oracle) (n0 : Int) (r1 : Nat) (l2 : (List V)) (n3 : Int) (st : St) : loopBody Tryd.prog cfg O 45 1 [.int n0, .ref r1 0, .vec .plain none l2, .int n3] st =
  bc (decide (n0 < n3)) (gd (decide (0 ≤ n0) && decide (n0 < (↑l2.length : Int))) (onStr (getI l2 n0) fun s1 => getR st r1 fun x2 => onBox x2 fun c3 => gd (decide (1 < c3.length) &&
  true && true) (onRoom2 (some 2) (c3.getD 1 V.undef) (fun l4 => gd (true && roomFor Tryd.prog 58 (l4.length + [V.agg [V.int 1, V.str s1]].length)) (getR (List.set st r1
  (Res.box (c3.set 1 (V.vec .plain (some 2) l4)))) r1 fun x5 => onBox x5 fun c6 => gd (decide (2 ≤ c6.length) && true) (O.2 45 1 [V.int (IntKind.i64.wrap (n0 + 1)),
  V.ref r1 0, V.vec .plain none l2, V.int n3] ((List.set st r1 (Res.box (c3.set 1 (V.vec .plain (some 2) l4)))).set r1 (Res.box (setCells c6 1 [V.vec Mode.grow (some 2) (l4 ++
  [V.agg [V.int 1, V.str s1]])])))))) fun l7 => gd (true && roomFor Tryd.prog 58 (l7.length + [V.agg [V.int 1, V.str s1]].length)) (getR (List.set st r1 (Res.box (c3.set 1
  (V.vec .plain (some 2) l7)))) r1 fun x8 => onBox x8 fun c9 => gd (decide (2 ≤ c9.length) && true) (O.2 45 1 [V.int (IntKind.i64.wrap (n0 + 1)), V.ref r1 0, V.vec
  .plain none l2, V.int n3] ((List.set st r1 (Res.box (c3.set 1 (V.vec .plain (some 2) l7)))).set r1 (Res.box (setCells c9 1 [V.vec Mode.grow (some 2) (l7 ++ [V.agg [V.int 1, V.str
  s1]])])))))))) (some (Ex.exit 0, [], st)) := by kernel_rfl

theorem e_show_writer_term_2 (O : Oracle) (r0 : Nat) (n0 : Int) (st : St) : callBody Tryd.prog cfg O 46 [.cptr none (.ref r0 0), .cptr none (.int n0)] st =
  obind (O.call 44 [V.ref r0 0, V.int n0] st) fun r1 => onRet r1.fst (fun v2 => onTup v2 fun c3 => onNil c3 (gcE (List.length st) (V.tup []) r1.snd)) fun p4 => none := by kernel_rfl

theorem e_show_writer_head (O : Oracle) (r0 : Nat) (n1 : Int) (n2 : Int) (l3 : (List V)) (n4 : Int) (st : St) : callBody Tryd.prog cfg O 47 [.ref r0 0, .agg [.int n1, .int n2, .vec .plain (some 3) l3], .int n4] st =
  bc (n1 == 4) (bc (decide (n2 < n4)) (obind (O.call 44 [V.ref r0 0, V.int (IntKind.i64.wrap (IntKind.i64.wrap (n4 - 1) - n2))] st) fun r1 => onRet r1.fst (fun v2
  => onTup v2 fun c3 => onNil c3 (gcE (List.length st) (V.tup []) r1.snd)) fun p4 => none) (bc (n1 == 2) (getR st r0 fun x5 => onBox x5 fun c6 => gd (decide (1 ≤ c6.length) && true)
  (onVec (some 4) (cleanV (AM.partOf c6 0 none)) fun l7 => bc (decide (n2 < (↑l7.length : Int))) (getR st r0 fun x8 => onBox x8 fun c9 => gd (decide (1 ≤ c9.length) && true) (onVec
  (some 4) (cleanV (AM.partOf c9 0 none)) fun l10 => gd (decide (0 ≤ n2) && decide (n2 < (↑l10.length : Int))) (onAgg (getI l10 n2) fun c11 => gd (decide (1 ≤ c11.length)) (onStr
  (AM.partOf c11 0 none) fun s12 => obind (O.call 41 [V.ref r0 0, V.str s12] st) fun r13 => onRet r13.fst (fun v14 => onTup v14 fun c15 => onNil c15 (gcE
  (List.length st) (V.tup []) r13.snd)) fun p16 => none)))) (getR st r0 fun x17 => onBox x17 fun c18 => gd (decide (3 ≤ c18.length) && true) (gcE (List.length st) (V.tup [])
  (List.set st r0 (Res.box (setCells c18 2 [V.int 2]))))))) (bc (n1 == 5) (getR st r0 fun x19 => onBox x19 fun c20 => gd (decide (1 ≤ c20.length) && true) (onVec (some 4) (cleanV
  (AM.partOf c20 0 none)) fun l21 => bc (decide (n2 < (↑l21.length : Int))) (getR st r0 fun x22 => onBox x22 fun c23 => gd (decide (1 ≤ c23.length) && true) (onVec (some 4) (cleanV
  (AM.partOf c23 0 none)) fun l24 => gd (decide (0 ≤ n2) && decide (n2 < (↑l24.length : Int))) (onAgg (getI l24 n2) fun c25 => gd (decide (1 ≤ c25.length)) (onStr (AM.partOf c25 0
  none) fun s26 => obind (O.call 41 [V.ref r0 0, V.str s26] st) fun r27 => onRet r27.fst (fun v28 => onTup v28 fun c29 => onNil c29 (gcE (List.length st) (V.tup [])
  r27.snd)) fun p30 => none)))) (getR st r0 fun x31 => onBox x31 fun c32 => gd (decide (3 ≤ c32.length) && true) (gcE (List.length st) (V.tup []) (List.set st r0 (Res.box (setCells
  c32 2 [V.int 2]))))))) (getR st r0 fun x33 => onBox x33 fun c34 => gd (decide (3 ≤ c34.length) && true) (gcE (List.length st) (V.tup []) (List.set st r0 (Res.box (setCells c34 2
  [V.int 2])))))))) (bc (n1 == 2) (getR st r0 fun x35 => onBox x35 fun c36 => gd (decide (1 ≤ c36.length) && true) (onVec (some 4) (cleanV (AM.partOf c36 0 none)) fun l37 => bc
  (decide (n2 < (↑l37.length : Int))) (getR st r0 fun x38 => onBox x38 fun c39 => gd (decide (1 ≤ c39.length) && true) (onVec (some 4) (cleanV (AM.partOf c39 0 none)) fun l40 => gd
  (decide (0 ≤ n2) && decide (n2 < (↑l40.length : Int))) (onAgg (getI l40 n2) fun c41 => gd (decide (1 ≤ c41.length)) (onStr (AM.partOf c41 0 none) fun s42 => obind (O.call
  41 [V.ref r0 0, V.str s42] st) fun r43 => onRet r43.fst (fun v44 => onTup v44 fun c45 => onNil c45 (gcE (List.length st) (V.tup []) r43.snd)) fun p46 => none))))
  (getR st r0 fun x47 => onBox x47 fun c48 => gd (decide (3 ≤ c48.length) && true) (gcE (List.length st) (V.tup []) (List.set st r0 (Res.box (setCells c48 2 [V.int 2]))))))) (bc (n1
  == 5) (getR st r0 fun x49 => onBox x49 fun c50 => gd (decide (1 ≤ c50.length) && true) (onVec (some 4) (cleanV (AM.partOf c50 0 none)) fun l51 => bc (decide (n2 < (↑l51.length :
  Int))) (getR st r0 fun x52 => onBox x52 fun c53 => gd (decide (1 ≤ c53.length) && true) (onVec (some 4) (cleanV (AM.partOf c53 0 none)) fun l54 => gd (decide (0 ≤ n2) && decide
  (n2 < (↑l54.length : Int))) (onAgg (getI l54 n2) fun c55 => gd (decide (1 ≤ c55.length)) (onStr (AM.partOf c55 0 none) fun s56 => obind (O.call 41 [V.ref r0 0,
  V.str s56] st) fun r57 => onRet r57.fst (fun v58 => onTup v58 fun c59 => onNil c59 (gcE (List.length st) (V.tup []) r57.snd)) fun p60 => none)))) (getR st r0 fun x61 => onBox x61
  fun c62 => gd (decide (3 ≤ c62.length) && true) (gcE (List.length st) (V.tup []) (List.set st r0 (Res.box (setCells c62 2 [V.int 2]))))))) (getR st r0 fun x63 => onBox x63 fun c64
  => gd (decide (3 ≤ c64.length) && true) (gcE (List.length st) (V.tup []) (List.set st r0 (Res.box (setCells c64 2 [V.int 2]))))))) := by kernel_rfl

theorem e_show_simple (O : Oracle) (n0 : Int) (n1 : Int) (l2 : (List V)) : callBody Tryd.prog cfg O 48 [.agg [.int n0, .int n1, .vec .plain (some 3) l2]] [] =
  bc ((↑l2.length : Int) == 0) (bc (n0 == 4) (some (Out.ret (V.bool true), [])) (bc (n0 == 2) (some (Out.ret (V.bool true), [])) (some (Out.ret (V.bool (n0 == 5)), [])))) (some
  (Out.ret (V.bool false), [])) := by kernel_rfl

theorem e_show_writer_term_3 (O : Oracle) (r0 : Nat) (n0 : Int) (k : Int) (h : Int) (l : (List V)) (st : St) : callBody Tryd.prog cfg O 49 [.cptr none (.ref r0 0), .cptr (some 3) (.agg [.int k, .int h, .vec .plain (some 3) l]), .cptr none (.int n0)] st =
  obind (O.call 24 [V.ref r0 0, V.agg [V.int k, V.int h, V.vec .plain (some 3) l], V.int n0] st) fun r1 => onRet r1.fst (fun v2 => onTup v2 fun c3 => onNil c3 (gcE
  (List.length st) (V.tup []) r1.snd)) fun p4 => none := by kernel_rfl

theorem e_show_writer_term__A_L4 (O : Oracle) (n0 : Int) (n1 : Int) (r2 : Nat) (l3 : (List V)) (n4 : Int) (st : St) : loopBody Tryd.prog cfg O 24 4 [.int n0, .loc false none (.int n1), .loc false none (.ref r2 0), .vec .plain (some 3) l3, .int n4] st =
  bc (decide (n0 < n4)) (gd (decide (0 ≤ n0) && decide (n0 < (↑l3.length : Int))) (onStruct [CT.int, CT.int, CT.slice (some 3)] (getI l3 n0) fun n1_1 n2 l3_1 => obind (pcall O
  48 [V.agg [V.int n1_1, V.int n2, V.vec .plain (some 3) l3_1]]) fun r4 => onBool r4 fun b5 => bc b5 (obind (O.call 24 [V.ref r2 0, V.agg [V.int n1_1,
  V.int n2, V.vec .plain (some 3) l3_1], V.int n1] st) fun r6 => onRet r6.fst (fun v7 => onTup v7 fun c8 => onNil c8 (O.2 24 4 [V.int (IntKind.i64.wrap (n0 + 1)),
  V.loc false none (V.int n1), V.loc false none (V.ref r2 0), V.vec .plain (some 3) l3, V.int n4] r6.snd)) fun p9 => none) (obind (O.call 42 [V.ref r2 0, V.str {
  data := #[40] }, V.str { data := #[41] }, V.fn 49 [] [V.cptr none (V.ref r2 0), V.cptr (some 3) (V.agg [V.int n1_1, V.int n2, V.vec .plain (some 3) l3_1]),
  V.cptr none (V.int n1)]] st) fun r10 => onRet r10.fst (fun v11 => onTup v11 fun c12 => onNil c12 (O.2 24 4 [V.int (IntKind.i64.wrap (n0 + 1)), V.cptr none (V.int
  n1), V.cptr none (V.ref r2 0), V.vec .plain (some 3) l3, V.int n4] r10.snd)) fun p13 => none))) (some (Ex.exit 1, [], st)) := by kernel_rfl

end Go.Proofs.SW

namespace Go.Proofs.SW
open Go Go.AM
set_option maxRecDepth 20000

theorem e_term_May (O : Oracle) (n0 : Int) (n1 : Int) (l2 : (List V)) : callBody Tryd.prog cfg O 16 [.agg [.int n0, .int n1, .vec .plain (some 3) l2]] [] =
  obind (pcall O 33 [V.agg [V.int n0, V.int n1, V.vec .plain (some 3) l2]]) fun r1 => onInt r1 fun n2 => bc (decide (n2 ≤ 60)) (obind (pcall O 34 [V.agg [V.int
  n0, V.int n1, V.vec .plain (some 3) l2]]) fun r3 => onInt r3 fun n4 => bc (decide (n4 ≤ 4000)) (obind (O.call 35 [V.agg [V.int n0, V.int n1, V.vec .plain (some 3) l2],
  V.fn 36 [] []] []) fun r5 => onRet r5.fst (fun v6 => onBool v6 fun b7 => some (Out.ret (V.bool b7), [])) fun p8 => none) (some (Out.ret (V.bool false), []))) (some
  (Out.ret (V.bool false), [])) := by kernel_rfl

theorem e_term_Scoped (O : Oracle) (n0 : Int) (n1 : Int) (l2 : (List V)) (n3 : Int) (n4 : Int) : callBody Tryd.prog cfg O 17 [.agg [.int n0, .int n1, .vec .plain (some 3) l2], .int n3, .int n4] [] =
  obind (O.call 35 [V.agg [V.int n0, V.int n1, V.vec .plain (some 3) l2], V.fn 38 [] [V.cptr none (V.int n3), V.cptr none (V.int n4)]] []) fun r1 => onRet
  r1.fst (fun v2 => onBool v2 fun b3 => some (Out.ret (V.bool b3), [])) fun p4 => none := by kernel_rfl

theorem e_law09_Few (O : Oracle) (l0 : (List V)) : callBody Tryd.prog cfg O 8 [.vec .plain (some 4) l0] [] =
  bc (decide ((↑l0.length : Int) > 30)) (some (Out.ret (V.bool false), [])) (obind (O.loop 8 4 [V.int 0, V.vec .plain (some 4) l0] []) fun r1 => onEx r1.fst none (onCons
  r1.snd.fst fun v2 c3 => onBool v2 fun b4 => onNil c3 (some (Out.ret (V.bool b4), []))) (fun i5 => bc (i5.beq 0) (onNil r1.snd.fst (some (Out.ret (V.bool true), []))) none) fun v6
  => none) := by kernel_rfl

theorem e_law09_Few_L4 (O : Oracle) (n0 : Int) (l1 : (List V)) : loopBody Tryd.prog cfg O 8 4 [.int n0, .vec .plain (some 4) l1] [] =
  bc (decide (n0 < (↑l1.length : Int))) (gd (decide (0 ≤ n0) && decide (n0 < (↑l1.length : Int))) (onAgg (getI l1 n0) fun c1 => gd (decide (4 ≤ c1.length)) (onCells [CT.int, CT.int,
  CT.slice (some 3)] (List.take 3 (List.drop 1 c1)) fun n2 n3 l4 => obind (pcall O 9 [V.agg [V.int n2, V.int n3, V.vec .plain (some 3) l4], V.int 1000, V.int 80]) fun r5
  => onBool r5 fun b6 => bc (!b6) (some (Ex.ret, [V.bool false], [])) (O.2 8 4 [V.int (IntKind.i64.wrap (n0 + 1)), V.vec .plain (some 4) l1] [])))) (some (Ex.exit 0, [],
  [])) := by kernel_rfl

theorem e_term_Same (O : Oracle) (n0 : Int) (n1 : Int) (l2 : (List V)) (n3 : Int) (n4 : Int) (l5 : (List V)) : callBody Tryd.prog cfg O 20 [.agg [.int n0, .int n1, .vec .plain (some 3) l2], .agg [.int n3, .int n4, .vec .plain (some 3) l5]] [] =
  bc (n0 != n3) (some (Out.ret (V.bool false), [])) (bc (n1 != n4) (some (Out.ret (V.bool false), [])) (bc ((↑l2.length : Int) != (↑l5.length : Int)) (some (Out.ret (V.bool false),
  [])) (obind (O.loop 20 4 [V.int 0, V.loc false (some 3) (V.agg [V.int n3, V.int n4, V.vec .plain (some 3) l5]), V.vec .plain (some 3) l2, V.int (↑l2.length : Int)] [])
  fun r1 => onEx r1.fst none (onCons r1.snd.fst fun v2 c3 => onBool v2 fun b4 => onNil c3 (some (Out.ret (V.bool b4), []))) (fun i5 => bc (i5.beq 0) (onNil r1.snd.fst (some (Out.ret
  (V.bool true), []))) none) fun v6 => none))) := by kernel_rfl

theorem e_term_Same_L4 (O : Oracle) (n0 : Int) (n1 : Int) (n2 : Int) (l3 : (List V)) (l4 : (List V)) (n5 : Int) : loopBody Tryd.prog cfg O 20 4 [.int n0, .loc false (some 3) (.agg [.int n1, .int n2, .vec .plain (some 3) l3]), .vec .plain (some 3) l4, .int n5] [] =
  bc (decide (n0 < n5)) (gd (decide (0 ≤ n0) && decide (n0 < (↑l4.length : Int))) (onStruct [CT.int, CT.int, CT.slice (some 3)] (getI l4 n0) fun n1_1 n2_1 l3_1 => gd (decide (0 ≤
  n0) && decide (n0 < (↑l3.length : Int))) (onStruct [CT.int, CT.int, CT.slice (some 3)] (getI l3 n0) fun n4 n5_1 l6 => obind (pcall O 20 [V.agg [V.int n1_1, V.int n2_1,
  V.vec .plain (some 3) l3_1], V.agg [V.int n4, V.int n5_1, V.vec .plain (some 3) l6]]) fun r7 => onBool r7 fun b8 => bc (!b8) (some (Ex.ret, [V.bool false], [])) (O.2 20 4
  [V.int (IntKind.i64.wrap (n0 + 1)), V.loc false (some 3) (V.agg [V.int n1, V.int n2, V.vec .plain (some 3) l3]), V.vec .plain (some 3) l4, V.int n5] [])))) (some (Ex.exit 0, [],
  [])) := by kernel_rfl

theorem e_term_Size (O : Oracle) (n0 : Int) (n1 : Int) (l2 : (List V)) : callBody Tryd.prog cfg O 34 [.agg [.int n0, .int n1, .vec .plain (some 3) l2]] [] =
  obind (O.call 62 [V.agg [V.int n0, V.int n1, V.vec .plain (some 3) l2]] [Res.box [V.int 0]]) fun r1 => onRet r1.fst (fun v2 => onFn v2 fun g3 a4 b5 => obind (O.call g3
  (a4 ++ [V.yld (List.length r1.snd)] ++ b5) (r1.snd ++ [Res.loop 34 3 [V.ref 0 0] LSt.ready none])) fun r6 => onRet r6.fst (fun v7 => getR r6.snd (List.length r1.snd) fun
  x8 => onLoop x8 fun f9 k10 vs11 s12 p13 => onPend s12 p13 (getR (List.set r6.snd (List.length r1.snd) Res.dead) 0 fun x14 => onBox x14 fun c15 => gd (decide (1 ≤ c15.length) &&
  true) (onInt (cleanV (AM.partOf c15 0 none)) fun n16 => some (Out.ret (V.int n16), []))) none fun i17 => none) fun p18 => none) fun p19 => none := by kernel_rfl

theorem e_term_Size_R3 (O : Oracle) (n i : Int) (c : List V) : roundBody Tryd.prog cfg O 1 34 3 [.ref 0 0] [.int i, .agg c] [.box [.int n], .loop 34 3 [.ref 0 0] .ready none] =
  some (true, [Res.box [V.int (IntKind.i64.wrap (n + 1))], Res.loop 34 3 [V.ref 0 0] LSt.ready none]) := by kernel_rfl

theorem e_law10_Nat (O : Oracle)  : callBody Tryd.prog cfg O 19 [] [] =
  some (Out.ret (V.vec .plain (some 4) [V.agg [V.str { data := #[110, 97, 116] }, V.int 0, V.int 0, V.vec .plain (some 3) []], V.agg [V.str { data := #[122] }, V.int 2, V.int 0,
  V.vec .plain (some 3) []], V.agg [V.str { data := #[115] }, V.int 1, V.int 0, V.vec .plain (some 3) [V.agg [V.int 2, V.int 0, V.vec .plain (some 3) []], V.agg [V.int 2, V.int 0,
  V.vec .plain (some 3) []]]]]), []) := by kernel_rfl

theorem e_term_Depth (O : Oracle) (n0 : Int) (n1 : Int) (l2 : (List V)) : callBody Tryd.prog cfg O 33 [.agg [.int n0, .int n1, .vec .plain (some 3) l2]] [] =
  obind (O.loop 33 3 [V.int 0, V.int 0, V.vec .plain (some 3) l2, V.int (↑l2.length : Int)] []) fun r1 => onEx r1.fst none none (fun i2 => bc (i2.beq 0) (onCons r1.snd.fst
  fun v3 c4 => onInt v3 fun n5 => onNil c4 (some (Out.ret (V.int (IntKind.i64.wrap (n5 + 1))), []))) none) fun v6 => none := by kernel_rfl

theorem e_term_Depth_L3 (O : Oracle) (n0 : Int) (n1 : Int) (l2 : (List V)) (n3 : Int) : loopBody Tryd.prog cfg O 33 3 [.int n0, .int n1, .vec .plain (some 3) l2, .int n3] [] =
  bc (decide (n0 < n3)) (gd (decide (0 ≤ n0) && decide (n0 < (↑l2.length : Int))) (onStruct [CT.int, CT.int, CT.slice (some 3)] (getI l2 n0) fun n1_1 n2 l3 => obind (pcall O
  33 [V.agg [V.int n1_1, V.int n2, V.vec .plain (some 3) l3]]) fun r4 => onInt r4 fun n5 => O.2 33 3 [V.int (IntKind.i64.wrap (n0 + 1)), V.int (if n5 > n1 then
  n5 else n1), V.vec .plain (some 3) l2, V.int n3] [])) (some (Ex.exit 0, [V.int n1], [])) := by kernel_rfl

theorem e_term_all (O : Oracle) (k h : Int) (xs : List V) (g : Nat) (a b : List V) : callBody Tryd.prog cfg O 35 [.agg [.int k, .int h, .vec .plain (some 3) xs], .fn g a b] [] =
  obind (O.call 62 [V.agg [V.int k, V.int h, V.vec .plain (some 3) xs]] [Res.box [V.bool false]]) fun r1 => onRet r1.fst (fun v2 => onFn v2 fun g3 a4 b5 => obind (O.call
  g3 (a4 ++ [V.yld (List.length r1.snd)] ++ b5) (r1.snd ++ [Res.loop 35 4 [V.ref 0 0, V.cptr none (V.fn g a b)] LSt.ready none])) fun r6 => onRet r6.fst (fun v7 => getR
  r6.snd (List.length r1.snd) fun x8 => onLoop x8 fun f9 k10 vs11 s12 p13 => onPend s12 p13 (getR (List.set r6.snd (List.length r1.snd) Res.dead) 0 fun x14 => onBox x14 fun c15 =>
  gd (decide (1 ≤ c15.length) && true) (getR ((List.set r6.snd (List.length r1.snd) Res.dead).set 0 (Res.box (setCells c15 0 [V.bool true]))) 0 fun x16 => onBox x16 fun c17 => gd
  (decide (1 ≤ c17.length) && true) (gcE 0 (cleanV (AM.partOf c17 0 none)) ((List.set r6.snd (List.length r1.snd) Res.dead).set 0 (Res.box (setCells c15 0 [V.bool true])))))) (getR
  (List.set r6.snd (List.length r1.snd) Res.dead) 0 fun x18 => onBox x18 fun c19 => gd (decide (1 ≤ c19.length) && true) (gcE 0 (cleanV (AM.partOf c19 0 none)) (List.set r6.snd
  (List.length r1.snd) Res.dead))) fun i20 => none) fun p21 => none) fun p22 => none := by kernel_rfl

theorem e_term_all_R4 (O : Oracle) (i k h : Int) (xs : List V) (b0 : Bool) (g : Nat) (a b : List V) : roundBody Tryd.prog cfg O 1 35 4 [.ref 0 0, .cptr none (.fn g a b)] [.int i, .agg [.int k, .int h, .vec .plain (some 3) xs]] [.box [.bool b0], .loop 35 4 [.ref 0 0, .cptr none (.fn g a b)] .ready none] =
  bc (cfg.pure g) (obind (pcall O g (a ++ [V.int i, V.agg [V.int k, V.int h, V.vec .plain (some 3) xs]] ++ b)) fun r1 => onBool r1 fun b2 => bc (!b2) (some (false, [Res.box [V.bool
  false], Res.loop 35 4 [V.ref 0 0, V.cptr none (V.fn g a b)] LSt.done (some Ex.ret)])) (some (true, [Res.box [V.bool b0], Res.loop 35 4 [V.ref 0 0, V.cptr none
  (V.fn g a b)] LSt.ready none]))) (obind (O.call g (a ++ [V.int i, V.agg [V.int k, V.int h, V.vec .plain (some 3) xs]] ++ b) [Res.box [V.bool b0], Res.loop 35 4 [V.ref 0 0,
  V.cptr none (V.fn g a b)] LSt.busy none]) fun r3 => onRet r3.fst (fun v4 => onBool v4 fun b5 => bc (!b5) (getR r3.snd 0 fun x6 => onBox x6 fun c7 => gd (decide (1 ≤ c7.length) &&
  true) (getR (List.set r3.snd 0 (Res.box (setCells c7 0 [V.bool false]))) 1 fun x8 => onLoop x8 fun f9 k10 vs11 s12 p13 => onBusy s12 (some (false, (List.set r3.snd 0 (Res.box
  (setCells c7 0 [V.bool false]))).set 1 (Res.loop f9 k10 vs11 LSt.done (some Ex.ret)))))) (getR r3.snd 1 fun x14 => onLoop x14 fun f15 k16 vs17 s18 p19 => onBusy s18 (some (true,
  List.set r3.snd 1 (Res.loop f15 k16 vs17 LSt.ready none))))) fun p20 => none) := by kernel_rfl

theorem e_term_May_1 (O : Oracle) (n0 : Int) (n1 : Int) (n2 : Int) (l3 : (List V)) : callBody Tryd.prog cfg O 36 [.int n0, .agg [.int n1, .int n2, .vec .plain (some 3) l3]] [] =
  obind (pcall O 37 [V.agg [V.int n1, V.int n2, V.vec .plain (some 3) l3]]) fun r1 => onBool r1 fun b2 => some (Out.ret (V.bool b2), []) := by kernel_rfl

theorem e_term_may (O : Oracle) (n0 : Int) (n1 : Int) (l2 : (List V)) : callBody Tryd.prog cfg O 37 [.agg [.int n0, .int n1, .vec .plain (some 3) l2]] [] =
  bc (n0 == 0) (bc (n1 == 0) (some (Out.ret (V.bool ((↑l2.length : Int) == 0)), [])) (some (Out.ret (V.bool false), []))) (bc (n0 == 1) (bc (n1 == 0) (some (Out.ret (V.bool
  ((↑l2.length : Int) == 2)), [])) (some (Out.ret (V.bool false), []))) (bc (n0 == 3) (bc (n1 == 0) (some (Out.ret (V.bool ((↑l2.length : Int) == 1)), [])) (some (Out.ret (V.bool
  false), []))) (bc (decide (n0 ≥ 0)) (bc (decide (n0 < 7)) (some (Out.ret (V.bool (decide (n1 ≥ 0))), [])) (some (Out.ret (V.bool false), []))) (some (Out.ret (V.bool false),
  []))))) := by kernel_rfl

theorem e_term_Scoped_1 (O : Oracle) (i k h vars metas : Int) (xs : List V) (st : St) : callBody Tryd.prog cfg O 38 [.int i, .agg [.int k, .int h, .vec .plain (some 3) xs], .cptr none (.int vars), .cptr none (.int metas)] st =
  bc (k != 4) (bc (k != 6) (gcE (List.length st) (V.bool true) st) (gcE (List.length st) (V.bool (decide (h < metas))) st)) (bc (decide (IntKind.i64.wrap (h - i) < vars)) (bc (k !=
  6) (gcE (List.length st) (V.bool true) st) (gcE (List.length st) (V.bool (decide (h < metas))) st)) (gcE (List.length st) (V.bool false) st)) := by kernel_rfl

theorem e_ref01_Light (O : Oracle) (n0 : Int) (n1 : Int) (l2 : (List V)) (n3 : Int) (n4 : Int) : callBody Tryd.prog cfg O 9 [.agg [.int n0, .int n1, .vec .plain (some 3) l2], .int n3, .int n4] [] =
  obind (pcall O 21 [V.agg [V.int n0, V.int n1, V.vec .plain (some 3) l2]]) fun r1 => onBool r1 fun b2 => bc b2 (obind (pcall O 22 [V.agg [V.int n0, V.int n1,
  V.vec .plain (some 3) l2]]) fun r3 => onInt r3 fun n4_1 => bc (decide (n4_1 ≤ n3)) (obind (pcall O 23 [V.agg [V.int n0, V.int n1, V.vec .plain (some 3) l2]]) fun r5 =>
  onInt r5 fun n6 => some (Out.ret (V.bool (decide (n6 ≤ n4))), [])) (some (Out.ret (V.bool false), []))) (some (Out.ret (V.bool false), [])) := by kernel_rfl

theorem e_term_nodes (O : Oracle) (k h : Int) (xs : List V) (x : Res) : callBody Tryd.prog cfg O 62 [.agg [.int k, .int h, .vec .plain (some 3) xs]] [x] =
  some (Out.ret (V.fn 70 [] [V.cptr (some 3) (V.agg [V.int k, V.int h, V.vec .plain (some 3) xs])]), [x]) := by kernel_rfl

theorem e_ref01_low (O : Oracle) (n0 : Int) (n1 : Int) (l2 : (List V)) : callBody Tryd.prog cfg O 21 [.agg [.int n0, .int n1, .vec .plain (some 3) l2]] [] =
  bc (decide (n1 > 1099511627776)) (some (Out.ret (V.bool false), [])) (obind (O.loop 21 4 [V.int 0, V.loc false (some 3) (V.agg [V.int n0, V.int n1, V.vec .plain (some 3)
  l2])] []) fun r1 => onEx r1.fst none (onCons r1.snd.fst fun v2 c3 => onBool v2 fun b4 => onNil c3 (some (Out.ret (V.bool b4), []))) (fun i5 => bc (i5.beq 0) (onNil r1.snd.fst
  (some (Out.ret (V.bool true), []))) none) fun v6 => none) := by kernel_rfl

theorem e_ref01_low_L4 (O : Oracle) (n0 : Int) (n1 : Int) (n2 : Int) (l3 : (List V)) : loopBody Tryd.prog cfg O 21 4 [.int n0, .loc false (some 3) (.agg [.int n1, .int n2, .vec .plain (some 3) l3])] [] =
  bc (decide (n0 < (↑l3.length : Int))) (gd (decide (0 ≤ n0) && decide (n0 < (↑l3.length : Int))) (onStruct [CT.int, CT.int, CT.slice (some 3)] (getI l3 n0) fun n1_1 n2_1 l3_1 =>
  obind (pcall O 21 [V.agg [V.int n1_1, V.int n2_1, V.vec .plain (some 3) l3_1]]) fun r4 => onBool r4 fun b5 => bc (!b5) (some (Ex.ret, [V.bool false], [])) (O.2
  21 4 [V.int (IntKind.i64.wrap (n0 + 1)), V.loc false (some 3) (V.agg [V.int n1, V.int n2, V.vec .plain (some 3) l3])] []))) (some (Ex.exit 0, [], [])) := by kernel_rfl

theorem e_ref01_Size (O : Oracle) (n0 : Int) (n1 : Int) (l2 : (List V)) : callBody Tryd.prog cfg O 22 [.agg [.int n0, .int n1, .vec .plain (some 3) l2]] [] =
  obind (O.loop 22 3 [V.int 0, V.loc false (some 3) (V.agg [V.int n0, V.int n1, V.vec .plain (some 3) l2]), V.int 1] []) fun r1 => onEx r1.fst none none (fun i2 => bc
  (i2.beq 0) (onCons r1.snd.fst fun v3 c4 => onInt v3 fun n5 => onNil c4 (some (Out.ret (V.int n5), []))) none) fun v6 => none := by kernel_rfl

theorem e_ref01_Size_L3 (O : Oracle) (n0 : Int) (n1 : Int) (n2 : Int) (l3 : (List V)) (n4 : Int) : loopBody Tryd.prog cfg O 22 3 [.int n0, .loc false (some 3) (.agg [.int n1, .int n2, .vec .plain (some 3) l3]), .int n4] [] =
  bc (decide (n0 < (↑l3.length : Int))) (gd (decide (0 ≤ n0) && decide (n0 < (↑l3.length : Int))) (onStruct [CT.int, CT.int, CT.slice (some 3)] (getI l3 n0) fun n1_1 n2_1 l3_1 =>
  obind (pcall O 22 [V.agg [V.int n1_1, V.int n2_1, V.vec .plain (some 3) l3_1]]) fun r4 => onInt r4 fun n5 => O.2 22 3 [V.int (IntKind.i64.wrap (n0 + 1)), V.loc
  false (some 3) (V.agg [V.int n1, V.int n2, V.vec .plain (some 3) l3]), V.int (IntKind.i64.wrap (n4 + n5))] [])) (some (Ex.exit 0, [V.int n4], [])) := by kernel_rfl

theorem e_ref01_Depth (O : Oracle) (n0 : Int) (n1 : Int) (l2 : (List V)) : callBody Tryd.prog cfg O 23 [.agg [.int n0, .int n1, .vec .plain (some 3) l2]] [] =
  obind (O.loop 23 3 [V.int 0, V.int 0, V.loc false (some 3) (V.agg [V.int n0, V.int n1, V.vec .plain (some 3) l2])] []) fun r1 => onEx r1.fst none none (fun i2 => bc
  (i2.beq 0) (onCons r1.snd.fst fun v3 c4 => onInt v3 fun n5 => onNil c4 (some (Out.ret (V.int (IntKind.i64.wrap (n5 + 1))), []))) none) fun v6 => none := by kernel_rfl

theorem e_ref01_Depth_L3 (O : Oracle) (n0 : Int) (n1 : Int) (n2 : Int) (n3 : Int) (l4 : (List V)) : loopBody Tryd.prog cfg O 23 3 [.int n0, .int n1, .loc false (some 3) (.agg [.int n2, .int n3, .vec .plain (some 3) l4])] [] =
  bc (decide (n0 < (↑l4.length : Int))) (gd (decide (0 ≤ n0) && decide (n0 < (↑l4.length : Int))) (onStruct [CT.int, CT.int, CT.slice (some 3)] (getI l4 n0) fun n1_1 n2_1 l3 =>
  obind (pcall O 23 [V.agg [V.int n1_1, V.int n2_1, V.vec .plain (some 3) l3]]) fun r4 => onInt r4 fun n5 => bc (decide (n5 > n1)) (O.2 23 3 [V.int
  (IntKind.i64.wrap (n0 + 1)), V.int n5, V.loc false (some 3) (V.agg [V.int n2, V.int n3, V.vec .plain (some 3) l4])] []) (O.2 23 3 [V.int (IntKind.i64.wrap (n0 + 1)),
  V.int n1, V.loc false (some 3) (V.agg [V.int n2, V.int n3, V.vec .plain (some 3) l4])] []))) (some (Ex.exit 0, [V.int n1], [])) := by kernel_rfl

theorem e_term_nodes_1 (O : Oracle) (k h : Int) (xs : List V) (x y : Res) : callBody Tryd.prog cfg O 70 [.yld 1, .cptr (some 3) (.agg [.int k, .int h, .vec .plain (some 3) xs])] [x, y] =
  obind (O.call 71 [V.agg [V.int k, V.int h, V.vec .plain (some 3) xs], V.int 0, V.yld 1] [x, y]) fun r1 => onRet r1.fst (fun v2 => onBool v2 fun b3 => gcE [x, y].length
  (V.tup []) r1.snd) fun p4 => none := by kernel_rfl

theorem e_term_walk (O : Oracle) (k h i : Int) (xs : List V) (x y : Res) : callBody Tryd.prog cfg O 71 [.agg [.int k, .int h, .vec .plain (some 3) xs], .int i, .yld 1] [x, y] =
  onLoop y fun f1 k2 vs3 s4 p5 => onPend s4 p5 (obind (O.round 1 f1 k2 vs3 [V.int i, V.agg [V.int k, V.int h, V.vec .plain (some 3) xs]] [x, y]) fun r6 => bc (!r6.fst) (gcE [x,
  y].length (V.bool false) r6.snd) (obind (O.loop 71 4 [V.int 0, V.yld 1, V.loc false (some 3) (V.agg [V.int k, V.int h, V.vec .plain (some 3) xs]), V.int i, V.vec .plain
  (some 3) xs, V.int (↑xs.length : Int)] r6.snd) fun r7 => onEx r7.fst none (onCons r7.snd.fst fun v8 c9 => onBool v8 fun b10 => onNil c9 (gcE [x, y].length (V.bool b10)
  r7.snd.snd)) (fun i11 => bc (i11.beq 0) (onNil r7.snd.fst (gcE [x, y].length (V.bool true) r7.snd.snd)) none) fun v12 => none)) none fun i13 => none := by kernel_rfl

theorem e_term_walk_L4 (O : Oracle) (i n j k h : Int) (xs ys : List V) (x y : Res) : loopBody Tryd.prog cfg O 71 4 [.int i, .yld 1, .loc false (some 3) (.agg [.int k, .int h, .vec .plain (some 3) xs]), .int j, .vec .plain (some 3) ys, .int n] [x, y] =
  bc (decide (i < n)) (gd (decide (0 ≤ i) && decide (i < (↑ys.length : Int))) (onStruct [CT.int, CT.int, CT.slice (some 3)] (getI ys i) fun n1 n2 l3 => obind (pcall O 82
  [V.agg [V.int k, V.int h, V.vec .plain (some 3) xs]]) fun r4 => onBool r4 fun b5 => bc b5 (bc (i == IntKind.i64.wrap ((↑xs.length : Int) - 1)) (obind (O.call 71 [V.agg
  [V.int n1, V.int n2, V.vec .plain (some 3) l3], V.int (IntKind.i64.wrap (j + 1)), V.yld 1] [x, y]) fun r6 => onRet r6.fst (fun v7 => onBool v7 fun b8 => bc (!b8) (some (Ex.ret,
  [V.bool false], r6.snd)) (O.2 71 4 [V.int (IntKind.i64.wrap (i + 1)), V.yld 1, V.loc false (some 3) (V.agg [V.int k, V.int h, V.vec .plain (some 3) xs]), V.int j, V.vec
  .plain (some 3) ys, V.int n] r6.snd)) fun p9 => none) (obind (O.call 71 [V.agg [V.int n1, V.int n2, V.vec .plain (some 3) l3], V.int j, V.yld 1] [x, y]) fun r10 => onRet
  r10.fst (fun v11 => onBool v11 fun b12 => bc (!b12) (some (Ex.ret, [V.bool false], r10.snd)) (O.2 71 4 [V.int (IntKind.i64.wrap (i + 1)), V.yld 1, V.loc false (some 3)
  (V.agg [V.int k, V.int h, V.vec .plain (some 3) xs]), V.int j, V.vec .plain (some 3) ys, V.int n] r10.snd)) fun p13 => none)) (obind (O.call 71 [V.agg [V.int n1, V.int
  n2, V.vec .plain (some 3) l3], V.int j, V.yld 1] [x, y]) fun r14 => onRet r14.fst (fun v15 => onBool v15 fun b16 => bc (!b16) (some (Ex.ret, [V.bool false], r14.snd)) (O.2
  71 4 [V.int (IntKind.i64.wrap (i + 1)), V.yld 1, V.loc false (some 3) (V.agg [V.int k, V.int h, V.vec .plain (some 3) xs]), V.int j, V.vec .plain (some 3) ys, V.int n]
  r14.snd)) fun p17 => none))) (some (Ex.exit 0, [], [x, y])) := by kernel_rfl

theorem e_term_binds (O : Oracle) (n0 : Int) (n1 : Int) (l2 : (List V)) : callBody Tryd.prog cfg O 82 [.agg [.int n0, .int n1, .vec .plain (some 3) l2]] [] =
  bc (n0 == 1) (some (Out.ret (V.bool true), [])) (some (Out.ret (V.bool (n0 == 3)), [])) := by kernel_rfl

theorem e_ref01_May (O : Oracle) (n0 : Int) (n1 : Int) (l2 : (List V)) : callBody Tryd.prog cfg O 26 [.agg [.int n0, .int n1, .vec .plain (some 3) l2]] [] =
  obind (pcall O 50 [V.agg [V.int n0, V.int n1, V.vec .plain (some 3) l2]]) fun r1 => onBool r1 fun b2 => bc b2 (obind (pcall O 22 [V.agg [V.int n0, V.int n1,
  V.vec .plain (some 3) l2]]) fun r3 => onInt r3 fun n4 => bc (decide (n4 ≤ 4000)) (obind (pcall O 23 [V.agg [V.int n0, V.int n1, V.vec .plain (some 3) l2]]) fun r5 =>
  onInt r5 fun n6 => some (Out.ret (V.bool (decide (n6 ≤ 60))), [])) (some (Out.ret (V.bool false), []))) (some (Out.ret (V.bool false), [])) := by kernel_rfl

theorem e_ref01_nodes (O : Oracle) (n0 : Int) (n1 : Int) (l2 : (List V)) : callBody Tryd.prog cfg O 50 [.agg [.int n0, .int n1, .vec .plain (some 3) l2]] [] =
  bc (n0 == 0) (bc (n1 != 0) (some (Out.ret (V.bool false), [])) (bc ((↑l2.length : Int) != 0) (some (Out.ret (V.bool false), [])) (obind (O.loop 50 19 [V.int 0, V.loc
  false (some 3) (V.agg [V.int n0, V.int n1, V.vec .plain (some 3) l2])] []) fun r1 => onEx r1.fst none (onCons r1.snd.fst fun v2 c3 => onBool v2 fun b4 => onNil c3 (some (Out.ret
  (V.bool b4), []))) (fun i5 => bc (i5.beq 1) (onNil r1.snd.fst (some (Out.ret (V.bool true), []))) none) fun v6 => none))) (bc (n0 == 1) (bc (n1 != 0) (some (Out.ret (V.bool
  false), [])) (bc ((↑l2.length : Int) != 2) (some (Out.ret (V.bool false), [])) (obind (O.loop 50 19 [V.int 0, V.loc false (some 3) (V.agg [V.int n0, V.int n1, V.vec
  .plain (some 3) l2])] []) fun r7 => onEx r7.fst none (onCons r7.snd.fst fun v8 c9 => onBool v8 fun b10 => onNil c9 (some (Out.ret (V.bool b10), []))) (fun i11 => bc (i11.beq 1)
  (onNil r7.snd.fst (some (Out.ret (V.bool true), []))) none) fun v12 => none))) (bc (n0 == 3) (bc (n1 != 0) (some (Out.ret (V.bool false), [])) (bc ((↑l2.length : Int) != 1) (some
  (Out.ret (V.bool false), [])) (obind (O.loop 50 19 [V.int 0, V.loc false (some 3) (V.agg [V.int n0, V.int n1, V.vec .plain (some 3) l2])] []) fun r13 => onEx r13.fst
  none (onCons r13.snd.fst fun v14 c15 => onBool v14 fun b16 => onNil c15 (some (Out.ret (V.bool b16), []))) (fun i17 => bc (i17.beq 1) (onNil r13.snd.fst (some (Out.ret (V.bool
  true), []))) none) fun v18 => none))) (bc (n0 == 2) (bc (decide (n1 < 0)) (some (Out.ret (V.bool false), [])) (obind (O.loop 50 19 [V.int 0, V.loc false (some 3) (V.agg
  [V.int n0, V.int n1, V.vec .plain (some 3) l2])] []) fun r19 => onEx r19.fst none (onCons r19.snd.fst fun v20 c21 => onBool v20 fun b22 => onNil c21 (some (Out.ret (V.bool b22),
  []))) (fun i23 => bc (i23.beq 1) (onNil r19.snd.fst (some (Out.ret (V.bool true), []))) none) fun v24 => none)) (bc (n0 == 4) (bc (decide (n1 < 0)) (some (Out.ret (V.bool false),
  [])) (obind (O.loop 50 19 [V.int 0, V.loc false (some 3) (V.agg [V.int n0, V.int n1, V.vec .plain (some 3) l2])] []) fun r25 => onEx r25.fst none (onCons r25.snd.fst
  fun v26 c27 => onBool v26 fun b28 => onNil c27 (some (Out.ret (V.bool b28), []))) (fun i29 => bc (i29.beq 1) (onNil r25.snd.fst (some (Out.ret (V.bool true), []))) none) fun v30
  => none)) (bc (n0 == 5) (bc (decide (n1 < 0)) (some (Out.ret (V.bool false), [])) (obind (O.loop 50 19 [V.int 0, V.loc false (some 3) (V.agg [V.int n0, V.int n1, V.vec
  .plain (some 3) l2])] []) fun r31 => onEx r31.fst none (onCons r31.snd.fst fun v32 c33 => onBool v32 fun b34 => onNil c33 (some (Out.ret (V.bool b34), []))) (fun i35 => bc
  (i35.beq 1) (onNil r31.snd.fst (some (Out.ret (V.bool true), []))) none) fun v36 => none)) (bc (n0 == 6) (bc (decide (n1 < 0)) (some (Out.ret (V.bool false), [])) (obind (O.loop
  50 19 [V.int 0, V.loc false (some 3) (V.agg [V.int n0, V.int n1, V.vec .plain (some 3) l2])] []) fun r37 => onEx r37.fst none (onCons r37.snd.fst fun v38 c39 => onBool
  v38 fun b40 => onNil c39 (some (Out.ret (V.bool b40), []))) (fun i41 => bc (i41.beq 1) (onNil r37.snd.fst (some (Out.ret (V.bool true), []))) none) fun v42 => none)) (some
  (Out.ret (V.bool false), [])))))))) := by kernel_rfl

theorem e_ref01_nodes_L19 (O : Oracle) (n0 : Int) (n1 : Int) (n2 : Int) (l3 : (List V)) : loopBody Tryd.prog cfg O 50 19 [.int n0, .loc false (some 3) (.agg [.int n1, .int n2, .vec .plain (some 3) l3])] [] =
  bc (decide (n0 < (↑l3.length : Int))) (gd (decide (0 ≤ n0) && decide (n0 < (↑l3.length : Int))) (onStruct [CT.int, CT.int, CT.slice (some 3)] (getI l3 n0) fun n1_1 n2_1 l3_1 =>
  obind (pcall O 50 [V.agg [V.int n1_1, V.int n2_1, V.vec .plain (some 3) l3_1]]) fun r4 => onBool r4 fun b5 => bc (!b5) (some (Ex.ret, [V.bool false], [])) (O.2
  50 19 [V.int (IntKind.i64.wrap (n0 + 1)), V.loc false (some 3) (V.agg [V.int n1, V.int n2, V.vec .plain (some 3) l3])] []))) (some (Ex.exit 1, [], [])) := by kernel_rfl

theorem e_sign_Kind (O : Oracle) (n0 : Int) (n1 : Int) (l2 : (List V)) : callBody Tryd.prog cfg O 93 [.agg [.int n0, .int n1, .vec .plain (some 3) l2]] [] =
  obind (pcall O 98 [V.agg [V.int n0, V.int n1, V.vec .plain (some 3) l2]]) fun r1 => onStruct [CT.int, CT.int, CT.slice (some 3)] r1 fun n2 n3 l4 => some (Out.ret (V.bool
  (n2 == 0)), []) := by kernel_rfl

theorem e_sign_last (O : Oracle) (n0 : Int) (n1 : Int) (l2 : (List V)) : callBody Tryd.prog cfg O 98 [.agg [.int n0, .int n1, .vec .plain (some 3) l2]] [] =
  obind (O.call 104 [V.agg [V.int n0, V.int n1, V.vec .plain (some 3) l2]] [Res.box [V.int n0, V.int n1, V.vec .plain (some 3) l2]]) fun r1 => onRet r1.fst (fun v2 => onFn v2
  fun g3 a4 b5 => obind (O.call g3 (a4 ++ [V.yld (List.length r1.snd)] ++ b5) (r1.snd ++ [Res.loop 98 3 [V.ref 0 0] LSt.ready none])) fun r6 => onRet r6.fst (fun v7 => getR
  r6.snd (List.length r1.snd) fun x8 => onLoop x8 fun f9 k10 vs11 s12 p13 => onPend s12 p13 (getR (List.set r6.snd (List.length r1.snd) Res.dead) 0 fun x14 => onBox x14 fun c15 =>
  gd (decide (3 ≤ c15.length) && true) (onCells [CT.int, CT.int, CT.slice (some 3)] (List.map plain1 (List.take 3 (List.drop 0 c15))) fun n16 n17 l18 => gd (below 0 (V.agg [V.int
  n16, V.int n17, V.vec .plain (some 3) l18]) && belowSt 0 []) (some (Out.ret (V.agg [V.int n16, V.int n17, V.vec .plain (some 3) l18]), [])))) none fun i19 => none) fun p20 =>
  none) fun p21 => none := by kernel_rfl

theorem e_sign_last_R3 (O : Oracle) (k h k2 h2 k3 h3 : Int) (xs ys zs : List V) (x : Res) : roundBody Tryd.prog cfg O 2 98 3 [.ref 0 0] [.agg [.int k, .int h, .vec .plain (some 3) xs], .agg [.int k2, .int h2, .vec .plain (some 3) ys]] [.box [.int k3, .int h3, .vec .plain (some 3) zs], x, .loop 98 3 [.ref 0 0] .ready none] =
  some (true, [Res.box [V.int k2, V.int h2, V.vec .plain (some 3) ys], x, Res.loop 98 3 [V.ref 0 0] LSt.ready none]) := by kernel_rfl

theorem e_sign_pis (O : Oracle) (k h : Int) (xs : List V) (x : Res) : callBody Tryd.prog cfg O 104 [.agg [.int k, .int h, .vec .plain (some 3) xs]] [x] =
  gcE [x].length (V.fn 107 [] [V.ref [x].length 0]) [x, Res.box [V.int k, V.int h, V.vec .plain (some 3) xs]] := by kernel_rfl

theorem e_sign_pis_1 (O : Oracle) (k h : Int) (xs : List V) (x z : Res) : callBody Tryd.prog cfg O 107 [.yld 2, .ref 1 0] [x, .box [.int k, .int h, .vec .plain (some 3) xs], z] =
  obind (O.loop 107 0 [V.ref 1 0, V.yld 2] [x, Res.box [V.int k, V.int h, V.vec .plain (some 3) xs], z]) fun r1 => onEx r1.fst none (onNil r1.snd.fst (gcE [x, Res.box
  [V.int k, V.int h, V.vec .plain (some 3) xs], z].length (V.tup []) r1.snd.snd)) (fun i2 => bc (i2.beq 0) (onNil r1.snd.fst (gcE [x, Res.box [V.int k, V.int h, V.vec .plain (some
  3) xs], z].length (V.tup []) r1.snd.snd)) none) fun v3 => none := by kernel_rfl

theorem e_sign_pis_1_L0 (O : Oracle) (k h : Int) (xs : List V) (x z : Res) : loopBody Tryd.prog cfg O 107 0 [.ref 1 0, .yld 2] [x, .box [.int k, .int h, .vec .plain (some 3) xs], z] =
  bc (k == 1) (bc ((↑xs.length : Int) == 2) (gd (true && decide (0 < (↑xs.length : Int))) (onStruct [CT.int, CT.int, CT.slice (some 3)] (getI xs 0) fun n1 n2 l3 => gd (true &&
  decide (1 < (↑xs.length : Int))) (onStruct [CT.int, CT.int, CT.slice (some 3)] (getI xs 1) fun n4 n5 l6 => onLoop z fun f7 k8 vs9 s10 p11 => onPend s10 p11 (obind (O.round 2 f7 k8
  vs9 [V.agg [V.int n1, V.int n2, V.vec .plain (some 3) l3], V.agg [V.int n4, V.int n5, V.vec .plain (some 3) l6]] [x, Res.box [V.int k, V.int h, V.vec .plain (some 3) xs], z]) fun
  r12 => bc (!r12.fst) (some (Ex.ret, [], r12.snd)) (getR r12.snd 1 fun x13 => onBox x13 fun c14 => gd (decide (3 ≤ c14.length) && true) (onVec (some 3) (cleanV (AM.partOf c14 2
  none)) fun l15 => gd (true && decide (1 < (↑l15.length : Int))) (onStruct [CT.int, CT.int, CT.slice (some 3)] (getI l15 1) fun n16 n17 l18 => getR r12.snd 1 fun x19 => onBox x19
  fun c20 => gd (decide (3 ≤ c20.length) && true) (O.2 107 0 [V.ref 1 0, V.yld 2] (List.set r12.snd 1 (Res.box (setCells c20 0 [V.int n16, V.int n17, V.vec .plain (some 3)
  l18])))))))) none fun i21 => none))) (some (Ex.exit 0, [], [x, Res.box [V.int k, V.int h, V.vec .plain (some 3) xs], z]))) (some (Ex.exit 0, [], [x, Res.box [V.int k, V.int h,
  V.vec .plain (some 3) xs], z])) := by kernel_rfl

theorem e_sign_pis__b (O : Oracle) (k h : Int) (xs : List V) (x y : Res) : callBody Tryd.prog cfg O 104 [.agg [.int k, .int h, .vec .plain (some 3) xs]] [x, y] =
  gcE [x, y].length (V.fn 107 [] [V.ref [x, y].length 0]) [x, y, Res.box [V.int k, V.int h, V.vec .plain (some 3) xs]] := by kernel_rfl

theorem e_sign_pis_1__b (O : Oracle) (k h : Int) (xs : List V) (x y z : Res) : callBody Tryd.prog cfg O 107 [.yld 3, .ref 2 0] [x, y, .box [.int k, .int h, .vec .plain (some 3) xs], z] =
  obind (O.loop 107 0 [V.ref 2 0, V.yld 3] [x, y, Res.box [V.int k, V.int h, V.vec .plain (some 3) xs], z]) fun r1 => onEx r1.fst none (onNil r1.snd.fst (gcE [x, y, Res.box
  [V.int k, V.int h, V.vec .plain (some 3) xs], z].length (V.tup []) r1.snd.snd)) (fun i2 => bc (i2.beq 0) (onNil r1.snd.fst (gcE [x, y, Res.box [V.int k, V.int h, V.vec .plain
  (some 3) xs], z].length (V.tup []) r1.snd.snd)) none) fun v3 => none := by kernel_rfl

theorem e_sign_pis_1_L0__b (O : Oracle) (k h : Int) (xs : List V) (x y z : Res) : loopBody Tryd.prog cfg O 107 0 [.ref 2 0, .yld 3] [x, y, .box [.int k, .int h, .vec .plain (some 3) xs], z] =
  bc (k == 1) (bc ((↑xs.length : Int) == 2) (gd (true && decide (0 < (↑xs.length : Int))) (onStruct [CT.int, CT.int, CT.slice (some 3)] (getI xs 0) fun n1 n2 l3 => gd (true &&
  decide (1 < (↑xs.length : Int))) (onStruct [CT.int, CT.int, CT.slice (some 3)] (getI xs 1) fun n4 n5 l6 => onLoop z fun f7 k8 vs9 s10 p11 => onPend s10 p11 (obind (O.round 3 f7 k8
  vs9 [V.agg [V.int n1, V.int n2, V.vec .plain (some 3) l3], V.agg [V.int n4, V.int n5, V.vec .plain (some 3) l6]] [x, y, Res.box [V.int k, V.int h, V.vec .plain (some 3) xs], z])
  fun r12 => bc (!r12.fst) (some (Ex.ret, [], r12.snd)) (getR r12.snd 2 fun x13 => onBox x13 fun c14 => gd (decide (3 ≤ c14.length) && true) (onVec (some 3) (cleanV (AM.partOf c14 2
  none)) fun l15 => gd (true && decide (1 < (↑l15.length : Int))) (onStruct [CT.int, CT.int, CT.slice (some 3)] (getI l15 1) fun n16 n17 l18 => getR r12.snd 2 fun x19 => onBox x19
  fun c20 => gd (decide (3 ≤ c20.length) && true) (O.2 107 0 [V.ref 2 0, V.yld 3] (List.set r12.snd 2 (Res.box (setCells c20 0 [V.int n16, V.int n17, V.vec .plain (some 3)
  l18])))))))) none fun i21 => none))) (some (Ex.exit 0, [], [x, y, Res.box [V.int k, V.int h, V.vec .plain (some 3) xs], z]))) (some (Ex.exit 0, [], [x, y, Res.box [V.int k, V.int
  h, V.vec .plain (some 3) xs], z])) := by kernel_rfl

end Go.Proofs.SW

/-! Terms, as_ plain Lean: what may be, what is light, walks, what a type asks for. -/
namespace Go.Ama
open Go Go.AM

def low : T → Bool
  | .mk _ h xs => decide (h ≤ 1099511627776) && lows xs
where lows : List T → Bool
  | [] => true
  | t :: ts => low t && lows ts
theorem lows_all : ∀ ts, low.lows ts = ts.all low
  | [] => rfl
  | t :: ts => by simp [low.lows, lows_all ts]

/-- Is a term light? -/
def light (n m : Int) (t : T) : Bool := low t && (decide ((t.size : Int) ≤ n) && decide ((t.depth : Int) ≤ m))
def lights (n m : Int) (l : List T) : Bool := decide (l.length ≤ 60) && l.all (light n m)
/-! ### may -/
/-- May a node be? -/
def may1 (k h : Int) (n : Nat) : Bool :=
  if k = 0 then decide (h = 0) && decide (n = 0) else if k = 1 then decide (h = 0) && decide (n = 2) else if k = 3 then decide (h = 0) && decide (n = 1) else decide (0 ≤ k) && (decide (k < 7) && decide (0 ≤ h))
mutual
def nodesB : T → Bool
  | .mk k h l => may1 k h l.length && nodess l
def nodess : List T → Bool
  | [] => true
  | t :: l => nodesB t && nodess l
end
theorem nodess_all : ∀ l, nodess l = l.all nodesB
  | [] => rfl
  | t :: l => by simp [nodess, nodess_all l]
def may (t : T) : Bool := nodesB t && (decide (t.size ≤ 4000) && decide (t.depth ≤ 60))

mutual
/-- All nodes, with how many bind around. -/
def allW (g : Int → T → Bool) (i : Int) : T → Bool
  | .mk k h l => g i (.mk k h l) && allWs g i (decide (k = 1) || decide (k = 3)) l
def allWs (g : Int → T → Bool) (i : Int) (b : Bool) : List T → Bool
  | [] => true
  | [t] => allW g (bif b then i + 1 else i) t
  | t :: u :: l => allW g i t && allWs g i b (u :: l)
end

def iter {σ : Type} (f : σ → σ) : Nat → σ → σ
  | 0, s => s
  | n + 1, s => iter f n (f s)
theorem iter_add {σ : Type} (f : σ → σ) (a b : Nat) (s : σ) : iter f (a + b) s = iter f b (iter f a s) := by
  induction a generalizing s with
  | zero => simp [iter]
  | succ a ih => rw [Nat.succ_add]; exact ih (f s)

/-- All variables are of so many, and all metas. -/
def scopedN (vars metas : Int) (i : Int) (t : T) : Bool := (decide (t.k ≠ 4) || decide (IntKind.i64.wrap (t.h - i) < vars)) && (decide (t.k ≠ 6) || decide (t.h < metas))
def mayT (t : T) : Bool := may1 t.k t.h t.args.length
theorem allW_may : ∀ (t : T) (i : Int), allW (fun _ t => mayT t) i t = nodesB t := by
  intro t
  induction t using T.ind with
  | _ k h xs ih =>
    intro i
    simp only [allW, nodesB]
    generalize (decide (k = 1) || decide (k = 3)) = b
    have : ∀ l : List T, (∀ a ∈ l, ∀ i, allW (fun _ t => mayT t) i a = nodesB a) → allWs (fun _ t => mayT t) i b l = nodess l := by
      intro l
      induction l with
      | nil => intro _; rfl
      | cons a l ihl =>
        intro h
        cases l with
        | nil => simp only [allWs, nodess, Bool.and_true]; exact h a (by simp) _
        | cons u l => simp only [allWs, h a (by simp)]; rw [ihl fun a ha => h a (by simp [ha])]; simp only [nodess]
    rw [this xs ih]
    rfl

/-! ### what a type asks for -/
def splitN : Nat → T → List T × T
  | 0, t => ([], t)
  | n + 1, t => if t.k = 1 then match t.args with | [a, b] => let r := splitN n b; (a :: r.1, r.2) | _ => ([], t) else ([], t)
def split (t : T) : List T × T := splitN t.size t

theorem args_size {t b : T} (h : b ∈ t.args) : b.size < t.size := by
  cases t with
  | mk k h' l => simp only [T.args] at h; simp only [T.size]; have := size_le h; omega

theorem splitN_more : ∀ (n m : Nat) (t : T), t.size ≤ n → t.size ≤ m → splitN n t = splitN m t := by
  intro n
  induction n with
  | zero => intro m t h; have := size_pos t; omega
  | succ n ih =>
    intro m t h h'
    cases m with
    | zero => have := size_pos t; omega
    | succ m =>
      simp only [splitN]
      split
      · split
        · rename_i a b hab
          have := args_size (t := t) (b := b) (by rw [hab]; simp)
          rw [ih m b (by omega) (by omega)]
        · rfl
      · rfl

theorem split_pi {t a b : T} (h : t.k = 1) (ha : t.args = [a, b]) : split t = (a :: (split b).1, (split b).2) := by
  unfold split
  have hb := args_size (t := t) (b := b) (by rw [ha]; simp)
  obtain ⟨n, hn⟩ : ∃ n, t.size = n + 1 := ⟨t.size - 1, by omega⟩
  rw [hn]
  simp only [splitN, h, ha, if_true]
  rw [splitN_more n b.size b (by omega) (Nat.le_refl _)]
theorem split_end {t : T} (h : ¬ (t.k = 1 ∧ t.args.length = 2)) : split t = ([], t) := by
  unfold split
  have := size_pos t
  obtain ⟨n, hn⟩ : ∃ n, t.size = n + 1 := ⟨t.size - 1, by omega⟩
  rw [hn]
  simp only [splitN]
  split
  · rename_i h1
    split
    · rename_i a b hab; exact absurd ⟨h1, by rw [hab]; rfl⟩ h
    · rfl
  · rfl
theorem len2 {l : List T} (h : l.length = 2) : ∃ a b, l = [a, b] := by
  match l, h with
  | [a, b], _ => exact ⟨a, b, rfl⟩

theorem split_size : ∀ (n : Nat) (t : T), t.size ≤ n → sizes (split t).1 + (split t).2.size ≤ t.size := by
  intro n
  induction n with
  | zero => intro t h; have := size_pos t; omega
  | succ n ih =>
    intro t h
    by_cases c : t.k = 1 ∧ t.args.length = 2
    · obtain ⟨a, b, hab⟩ := len2 c.2
      have hb := args_size (t := t) (b := b) (by rw [hab]; simp)
      rw [split_pi c.1 hab]
      have := ih b (by omega)
      have hsz : t.size = 1 + (a.size + (b.size + 0)) := by
        cases t with
        | mk k h' l => simp only [T.args] at hab; subst hab; simp only [T.size, sizes]
      simp only [sizes]
      omega
    · rw [split_end c]; simp [sizes]

theorem encs_take_succ {xs : List T} {i : Nat} (hi : i < xs.length) : encs (xs.take (i + 1)) = encs (xs.take i) ++ [enc xs[i]] := by rw [take_succ' hi, encs_append]; rfl
end Go.Ama

/-! What the functions come to: terms. -/
namespace Go.Proofs.SW
open Go Go.AM Go.Ama

theorem onStruct_enc {R : Type} (t : T) (K : Int → Int → List V → Option R) : onStruct (R := R) [CT.int, CT.int, CT.slice (some 3)] (enc t) K = K t.k t.h (encs t.args) := by cases t; rfl

theorem low_spec : ∀ t : T, t.size ≤ 1099511627776 → Ev 21 [enc t] (.bool (low t)) := by
  intro t
  induction t using T.ind with
  | _ k h xs ih =>
    intro hs
    simp only [T.size] at hs
    have hlen := length_le_sizes xs
    unfold Ev
    rw [C, enc, e_ref01_low]
    by_cases hh : h > 1099511627776
    · have : ¬ h ≤ 1099511627776 := by omega
      simp [bc, low, hh, this]
    · have hle : h ≤ 1099511627776 := by omega
      have hl := all_loop (L := fun i => W.loop 21 4 [V.int i, V.loc false (some 3) (V.agg [V.int k, V.int h, V.vec .plain (some 3) (encs xs)])] []) (xs := xs) (g := low) (e0 := (Ex.exit 0, [], [])) (e1 := (Ex.ret, [V.bool false], []))
        (fun i hi => by
          have hp := (ih xs[i] (List.getElem_mem hi) (by have := size_le (List.getElem_mem hi); omega)).p
          show W.loop _ _ _ _ = _
          rw [L, e_ref01_low_L4]
          simp only [encs_length, getI_encs hi, onStruct_enc, ← enc_eta, hp]
          rw [wrap_id ⟨by omega, by omega⟩]
          cases low xs[i] <;> simp [bc, gd, obind, onBool, hi])
        (by show W.loop _ _ _ _ = _; rw [L, e_ref01_low_L4]; simp [bc]) 0 (by omega)
      simp only [List.drop_zero, Int.ofNat_zero, Int.natCast_zero] at hl
      simp only [hl, hh, low, lows_all, hle]
      cases xs.all low <;> rfl
theorem size_spec : ∀ t : T, t.size ≤ 1099511627776 → Ev 22 [enc t] (.int t.size) := by
  intro t
  induction t using T.ind with
  | _ k h xs ih =>
    intro hs
    simp only [T.size] at hs
    have hlen := length_le_sizes xs
    unfold Ev
    rw [C, enc, e_ref01_Size]
    have hl := count_loop (n := xs.length) (L := fun i => W.loop 22 3 [V.int (i : Nat), V.loc false (some 3) (V.agg [V.int k, V.int h, V.vec .plain (some 3) (encs xs)]), V.int ((1 + sizes (xs.take i) : Nat) : Int)] []) (r := some (Ex.exit 0, [V.int ((1 + sizes xs : Nat) : Int)], []))
      (fun i hi => by
        have hp := (ih xs[i] (List.getElem_mem hi) (by have := size_le (List.getElem_mem hi); omega)).p
        have h1 := sizes_take hi
        have h2 := sizes_take_le xs (i + 1)
        show W.loop _ _ _ _ = _
        rw [L, e_ref01_Size_L3]
        simp only [encs_length, getI_encs hi, onStruct_enc, ← enc_eta, hp, obind, onInt]
        rw [wrap_id ⟨by omega, by omega⟩, wrap_id ⟨by omega, by omega⟩]
        rw [h1]
        simp [bc, gd, hi, Int.add_assoc])
      (by show W.loop _ _ _ _ = _; rw [L, e_ref01_Size_L3]; simp [bc])
    simp only [List.take_zero, sizes] at hl
    have hl' : W.loop 22 3 [V.int 0, V.loc false (some 3) (V.agg [V.int k, V.int h, V.vec .plain (some 3) (encs xs)]), V.int 1] [] = some (Ex.exit 0, [V.int ((1 + sizes xs : Nat) : Int)], []) := hl
    simp only [hl', T.size]
    rfl

theorem depth_spec : ∀ t : T, t.size ≤ 1099511627776 → Ev 23 [enc t] (.int t.depth) := by
  intro t
  induction t using T.ind with
  | _ k h xs ih =>
    intro hs
    simp only [T.size] at hs
    have hlen := length_le_sizes xs
    unfold Ev
    rw [C, enc, e_ref01_Depth]
    have hl := count_loop (n := xs.length) (L := fun i => W.loop 23 3 [V.int (i : Nat), V.int (depths (xs.take i) : Nat), V.loc false (some 3) (V.agg [V.int k, V.int h, V.vec .plain (some 3) (encs xs)])] []) (r := some (Ex.exit 0, [V.int (depths xs : Nat)], []))
      (fun i hi => by
        have hp := (ih xs[i] (List.getElem_mem hi) (by have := size_le (List.getElem_mem hi); omega)).p
        have h1 := depths_take hi
        show W.loop _ _ _ _ = _
        rw [L, e_ref01_Depth_L3]
        simp only [encs_length, getI_encs hi, onStruct_enc, ← enc_eta, hp, obind, onInt]
        rw [wrap_id ⟨by omega, by omega⟩]
        rw [h1]
        by_cases hc : depths (xs.take i) < xs[i].depth
        · have : max (depths (xs.take i)) xs[i].depth = xs[i].depth := by omega
          rw [this]
          simp [bc, gd, hi, hc]
        · have : max (depths (xs.take i)) xs[i].depth = depths (xs.take i) := by omega
          rw [this]
          simp [bc, gd, hi, hc])
      (by show W.loop _ _ _ _ = _; rw [L, e_ref01_Depth_L3]; simp [bc])
    have hl' : W.loop 23 3 [V.int 0, V.int 0, V.loc false (some 3) (V.agg [V.int k, V.int h, V.vec .plain (some 3) (encs xs)])] [] = some (Ex.exit 0, [V.int (depths xs : Nat)], []) := hl
    have hd := depths_le_sizes xs
    simp only [hl', T.depth, obind, onEx, onCons, onInt, onNil, bc]
    rw [wrap_id ⟨by omega, by omega⟩]
    rfl

theorem light_spec (t : T) (n m : Int) (hs : t.size ≤ 1099511627776) : Ev 9 [enc t, .int n, .int m] (.bool (light n m t)) := by
  unfold Ev
  rw [C, enc_eta, e_ref01_Light, ← enc_eta, (low_spec t hs).p, (size_spec t hs).p, (depth_spec t hs).p]
  simp only [obind, onBool, onInt, light]
  cases low t <;> simp [bc]
  by_cases h : (t.size : Int) ≤ n <;> simp [h]

theorem psame_spec : ∀ a b : T, a.size ≤ 1099511627776 → b.size ≤ 1099511627776 → Ev 20 [enc a, enc b] (.bool (a.same b)) := by
  intro a
  induction a using T.ind with
  | _ k h xs ih =>
    intro b hs hs'
    obtain ⟨k2, h2, ys⟩ := b
    simp only [T.size] at hs hs'
    have hlen := length_le_sizes xs
    unfold Ev
    rw [C, enc, enc, e_term_Same]
    simp only [T.same]
    by_cases c1 : k = k2
    · by_cases c2 : h = h2
      · by_cases c3 : xs.length = ys.length
        · have hl := all_loop' (L := fun i => W.loop 20 4 [V.int i, V.loc false (some 3) (V.agg [V.int k2, V.int h2, V.vec .plain (some 3) (encs ys)]), V.vec .plain (some 3) (encs xs), V.int xs.length] []) (xs := xs.zip ys) (g := fun x => x.1.same x.2) (e0 := (Ex.exit 0, [], [])) (e1 := (Ex.ret, [V.bool false], []))
            (fun i hi => by
              have hi1 : i < xs.length := by simp at hi; omega
              have hi2 : i < ys.length := by omega
              have hp := (ih xs[i] (List.getElem_mem hi1) ys[i] (by have := size_le (List.getElem_mem hi1); omega) (by have := size_le (List.getElem_mem hi2); omega)).p
              show W.loop _ _ _ _ = _
              rw [L, e_term_Same_L4]
              simp only [encs_length, getI_encs hi1, getI_encs hi2, onStruct_enc, ← enc_eta, hp, List.getElem_zip]
              rw [wrap_id ⟨by omega, by omega⟩]
              cases xs[i].same ys[i] <;> simp [bc, gd, obind, onBool, hi1, hi2])
            (by show W.loop _ _ _ _ = _; rw [L, e_term_Same_L4]; simp [bc, c3])
          simp only [c1, c2, c3, encs_length, sames_zip c3, bne_self_eq_false, hl, bc]
          rw [c3] at hl
          simp only [hl]
          cases (xs.zip ys).all (fun x => x.1.same x.2) <;> simp [obind, onEx, onCons, onBool, onNil, bc]
        · have c4 : ((xs.length : Int) != (ys.length : Int)) = true := by simp; omega
          simp only [c1, c2, sames_len c3, encs_length, c4, bne_self_eq_false]
          simp [bc]
      · have c4 : (h != h2) = true := by simp [c2]
        simp only [c1, c4, c2, bne_self_eq_false]
        simp [bc]
    · have c4 : (k != k2) = true := by simp [c1]
      simp only [c4, c1]
      simp [bc]

theorem rnodes_spec : ∀ t : T, t.size ≤ 1099511627776 → Ev 50 [enc t] (.bool (nodesB t)) := by
  intro t
  induction t using T.ind with
  | _ k h xs ih =>
    intro hs
    simp only [T.size] at hs
    have hlen := length_le_sizes xs
    unfold Ev
    have hl := all_loop' (L := fun i => W.loop 50 19 [V.int i, V.loc false (some 3) (V.agg [V.int k, V.int h, V.vec .plain (some 3) (encs xs)])] []) (xs := xs) (g := nodesB) (e0 := (Ex.exit 1, [], [])) (e1 := (Ex.ret, [V.bool false], []))
      (fun i hi => by
        have hp := (ih xs[i] (List.getElem_mem hi) (by have := size_le (List.getElem_mem hi); omega)).p
        show W.loop _ _ _ _ = _
        rw [L, e_ref01_nodes_L19]
        simp only [encs_length, getI_encs hi, onStruct_enc, ← enc_eta, hp]
        rw [wrap_id ⟨by omega, by omega⟩]
        cases nodesB xs[i] <;> simp [bc, gd, obind, onBool, hi])
      (by show W.loop _ _ _ _ = _; rw [L, e_ref01_nodes_L19]; simp [bc])
    rw [C, enc, e_ref01_nodes]
    simp only [hl, encs_length, nodesB, may1, nodess_all]
    have fin : ∀ b : Bool, (obind (some (if b = true then ((Ex.exit 1, [], []) : Ex × List V × St) else (Ex.ret, [V.bool false], []))) fun r1 =>
        onEx r1.fst none (onCons r1.snd.fst fun v2 c3 => onBool v2 fun b4 => onNil c3 (some (Out.ret (V.bool b4), [])))
          (fun i5 => bc (i5.beq 1) (onNil r1.snd.fst (some (Out.ret (V.bool true), []))) none) fun v6 => none) = some (Out.ret (V.bool b), ([] : St)) := by
      intro b; cases b <;> rfl
    simp only [fin, bne_len0, bne_len1, bne_len2]
    simp only [bne_int, beq_int]
    by_cases k0 : k = 0
    · subst k0
      simp only [decide_true, bc, if_true]
      cases decide (h = 0) <;> cases decide (xs.length = 0) <;> rfl
    by_cases k1 : k = 1
    · subst k1
      simp only [show (1 : Int) ≠ 0 by decide, if_false, decide_false, decide_true, bc, if_true]
      cases decide (h = 0) <;> cases decide (xs.length = 2) <;> rfl
    by_cases k3 : k = 3
    · subst k3
      simp only [show (3 : Int) ≠ 0 by decide, show (3 : Int) ≠ 1 by decide, if_false, decide_false, decide_true, bc, if_true]
      cases decide (h = 0) <;> cases decide (xs.length = 1) <;> rfl
    have hh : decide (0 ≤ h) = !decide (h < 0) := by by_cases c : h < 0 <;> simp [c] <;> omega
    simp only [k0, k1, k3, if_false, hh, decide_false]
    by_cases k2 : k = 2
    · subst k2; cases decide (h < 0) <;> rfl
    by_cases k4 : k = 4
    · subst k4; cases decide (h < 0) <;> rfl
    by_cases k5 : k = 5
    · subst k5; cases decide (h < 0) <;> rfl
    by_cases k6 : k = 6
    · subst k6; cases decide (h < 0) <;> rfl
    have : (decide (0 ≤ k) && (decide (k < 7) && !decide (h < 0))) = false := by
      by_cases a : 0 ≤ k <;> by_cases b : k < 7 <;> simp [a, b] <;> omega
    simp only [k2, k4, k5, k6, decide_false, bc, this, Bool.false_and]

theorem rmay_spec (t : T) (hs : t.size ≤ 1099511627776) : Ev 26 [enc t] (.bool (may t)) := by
  unfold Ev
  rw [C, enc_eta, e_ref01_May, ← enc_eta, (rnodes_spec t hs).p, (size_spec t hs).p, (depth_spec t hs).p]
  simp only [obind, onBool, onInt, may]
  cases nodesB t <;> simp [bc]
  by_cases h : t.size ≤ 4000
  · have : decide ((t.size : Int) ≤ 4000) = true := by simp; omega
    rw [this]; simp [h]; omega
  · have : decide ((t.size : Int) ≤ 4000) = false := by simp; omega
    rw [this]; simp [h]
theorem bytes24 : ((Tryd.prog.info? 24).map (·.bytes)).getD 0 = 40 := by kernel_rfl
theorem room24 {n : Nat} (h : n ≤ 2199023255552) : roomFor Tryd.prog 24 n = true := by
  unfold roomFor
  rw [bytes24]
  simp only [Bool.and_eq_true, decide_eq_true_eq]
  omega

theorem pdepth_spec : ∀ t : T, t.size ≤ 1099511627776 → Ev 33 [enc t] (.int t.depth) := by
  intro t
  induction t using T.ind with
  | _ k h xs ih =>
    intro hs
    simp only [T.size] at hs
    have hlen := length_le_sizes xs
    unfold Ev
    rw [C, enc, e_term_Depth]
    have hl := count_loop (n := xs.length) (L := fun i => W.loop 33 3 [V.int (i : Nat), V.int (depths (xs.take i) : Nat), V.vec .plain (some 3) (encs xs), V.int xs.length] []) (r := some (Ex.exit 0, [V.int (depths xs : Nat)], []))
      (fun i hi => by
        have hp := (ih xs[i] (List.getElem_mem hi) (by have := size_le (List.getElem_mem hi); omega)).p
        have h1 := depths_take hi
        show W.loop _ _ _ _ = _
        rw [L, e_term_Depth_L3]
        simp only [encs_length, getI_encs hi, onStruct_enc, ← enc_eta, hp, obind, onInt]
        rw [wrap_id ⟨by omega, by omega⟩]
        rw [h1]
        by_cases hc : depths (xs.take i) < xs[i].depth
        · have : max (depths (xs.take i)) xs[i].depth = xs[i].depth := by omega
          rw [this]
          simp [bc, gd, hi, hc]
        · have : max (depths (xs.take i)) xs[i].depth = depths (xs.take i) := by omega
          rw [this]
          simp [bc, gd, hi, hc])
      (by show W.loop _ _ _ _ = _; rw [L, e_term_Depth_L3]; simp [bc])
    have hl' : W.loop 33 3 [V.int 0, V.int 0, V.vec .plain (some 3) (encs xs), V.int xs.length] [] = some (Ex.exit 0, [V.int (depths xs : Nat)], []) := hl
    have hd := depths_le_sizes xs
    simp only [encs_length, hl', T.depth, obind, onEx, onCons, onInt, onNil, bc]
    rw [wrap_id ⟨by omega, by omega⟩]
    rfl

end Go.Proofs.SW

/-! What a type asks for, and whether it is a kind. -/
namespace Go.Proofs.SW
open Go Go.AM Go.Ama

theorem onCells3 {R : Type} (a b : Int) (l : List V) (K : Int → Int → List V → Option R) : onCells (R := R) [CT.int, CT.int, CT.slice (some 3)] [.int a, .int b, .vec .plain (some 3) l] K = K a b l := rfl
def boxT (t : T) : Res := .box [.int t.k, .int t.h, .vec .plain (some 3) (encs t.args)]

theorem lastR_spec (a b u : T) (x : Res) : W.round 2 98 3 [.ref 0 0] [enc a, enc b] [boxT u, x, .loop 98 3 [.ref 0 0] .ready none] = some (true, [boxT b, x, .loop 98 3 [.ref 0 0] .ready none]) := by
  rw [Rd]
  conv => lhs; rw [enc_eta a, enc_eta b]
  exact e_sign_last_R3 W _ _ _ _ _ _ _ _ _ x

theorem plastL_spec : ∀ (n : Nat) (t u : T), t.size ≤ n →
    W.loop 107 0 [.ref 1 0, .yld 2] [boxT u, boxT t, .loop 98 3 [.ref 0 0] .ready none] =
      some (.exit 0, [], [boxT (if (split t).1 = [] then u else (split t).2), boxT (split t).2, .loop 98 3 [.ref 0 0] .ready none]) := by
  intro n
  induction n with
  | zero => intro t _ h; have := size_pos t; omega
  | succ n ih =>
    intro t u h
    have hp := size_pos t
    rw [L]
    conv => lhs; rw [show boxT t = .box [.int t.k, .int t.h, .vec .plain (some 3) (encs t.args)] from rfl]
    rw [e_sign_pis_1_L0, encs_length, beq_len2, beq_int]
    by_cases c1 : t.k = 1
    · by_cases c2 : t.args.length = 2
      · obtain ⟨a, b, hab⟩ := len2 c2
        have hb := args_size (t := t) (b := b) (by rw [hab]; simp)
        have g0 : getI (encs t.args) 0 = enc a := by rw [hab]; rfl
        have g1 : getI (encs t.args) 1 = enc b := by rw [hab]; rfl
        have hrd := lastR_spec a b u (boxT t)
        have := ih b b (by omega)
        rw [split_pi c1 hab]
        simp only [c1, c2, decide_true, bc_true, g0, g1, onStruct_enc, ← enc_eta, Bool.true_and, show decide ((0 : Int) < ((2 : Nat) : Int)) = true from rfl, show decide ((1 : Int) < ((2 : Nat) : Int)) = true from rfl, gd_true, onLoop_loop, onPend_ready]
        have hbt : boxT t = .box [.int 1, .int t.h, .vec .plain (some 3) (encs t.args)] := by unfold boxT; rw [c1]
        rw [hbt] at hrd
        rw [hrd, obind_some']
        simp only [Bool.not_true, bc_false]
        have hget : ∀ {R : Type} (K : Res → Option R), getR [boxT b, Res.box [V.int 1, V.int t.h, V.vec .plain (some 3) (encs t.args)], Res.loop 98 3 [V.ref 0 0] LSt.ready none] 1 K = K (Res.box [V.int 1, V.int t.h, V.vec .plain (some 3) (encs t.args)]) := fun K => rfl
        rw [hget, onBox_box]
        have hc : cleanV (AM.partOf [V.int 1, V.int t.h, V.vec .plain (some 3) (encs t.args)] 2 none) = .vec .plain (some 3) (encs t.args) := rfl
        rw [hc, onVec_plain, g1, onStruct_enc, hget, onBox_box]
        have h1l : decide ((1 : Int) < ((encs t.args).length : Int)) = true := by rw [encs_length, c2]; rfl
        rw [h1l]
        simp only [List.length_cons, List.length_nil, Nat.zero_add, Nat.reduceAdd, Nat.le_refl, decide_true, Bool.and_self, gd_true]
        have hset : List.set [boxT b, Res.box [V.int 1, V.int t.h, V.vec .plain (some 3) (encs t.args)], Res.loop 98 3 [V.ref 0 0] LSt.ready none] 1
            (Res.box (setCells [V.int 1, V.int t.h, V.vec .plain (some 3) (encs t.args)] 0 [V.int b.k, V.int b.h, V.vec .plain (some 3) (encs b.args)])) = [boxT b, boxT b, .loop 98 3 [.ref 0 0] .ready none] := rfl
        rw [hset, this]
        simp only [if_neg (List.cons_ne_nil a (split b).1)]
        by_cases c : (split b).1 = []
        · have hsb : (split b).2 = b := by
            by_cases c' : b.k = 1 ∧ b.args.length = 2
            · obtain ⟨a', b', hab'⟩ := len2 c'.2
              rw [split_pi c'.1 hab'] at c; cases c
            · rw [split_end c']
          rw [if_pos c, hsb]
        · rw [if_neg c]
      · rw [split_end fun c => c2 c.2]
        simp only [c1, c2, decide_true, decide_false, bc_true, bc_false, if_true]
        rw [← c1]
        rfl
    · rw [split_end fun c => c1 c.1]
      simp only [c1, decide_false, bc_false, if_true]
      rfl

theorem plast_spec (t : T) : Ev 98 [enc t] (enc (split t).2) := by
  unfold Ev
  have h := plastL_spec t.size t t (Nat.le_refl _)
  have hlast : (if (split t).1 = [] then t else (split t).2) = (split t).2 := by
    by_cases c' : t.k = 1 ∧ t.args.length = 2
    · obtain ⟨a', b', hab'⟩ := len2 c'.2
      rw [split_pi c'.1 hab', if_neg (List.cons_ne_nil _ _)]
    · rw [split_end c', if_pos rfl]
  rw [hlast] at h
  have hc : W.call 107 [.yld 2, .ref 1 0] [boxT t, .box [.int t.k, .int t.h, .vec .plain (some 3) (encs t.args)], .loop 98 3 [.ref 0 0] .ready none] =
      some (.ret (.tup []), [boxT (split t).2, boxT (split t).2, .loop 98 3 [.ref 0 0] .ready none]) := by
    rw [C, e_sign_pis_1]
    have h' : W.loop 107 0 [V.ref 1 0, V.yld 2] [boxT t, Res.box [V.int t.k, V.int t.h, V.vec .plain (some 3) (encs t.args)], .loop 98 3 [.ref 0 0] .ready none] = _ := h
    rw [h', obind_some', onEx_exit]
    rfl
  rw [C]
  conv => lhs; rw [enc_eta]
  have hpis : W.call 104 [V.agg [V.int t.k, V.int t.h, V.vec .plain (some 3) (encs t.args)]] [Res.box [V.int t.k, V.int t.h, V.vec .plain (some 3) (encs t.args)]] =
      some (.ret (V.fn 107 [] [V.ref 1 0]), [boxT t, Res.box [V.int t.k, V.int t.h, V.vec .plain (some 3) (encs t.args)]]) := by
    rw [C, e_sign_pis]; rfl
  rw [e_sign_last, hpis, obind_some', onRet_ret, onFn_fn]
  have hc' : W.call 107 ([] ++ [V.yld (List.length [boxT t, Res.box [V.int t.k, V.int t.h, V.vec .plain (some 3) (encs t.args)]])] ++ [V.ref 1 0])
      ([boxT t, Res.box [V.int t.k, V.int t.h, V.vec .plain (some 3) (encs t.args)]] ++ [Res.loop 98 3 [V.ref 0 0] LSt.ready none]) = _ := hc
  rw [hc', obind_some', onRet_ret]
  have hfin : gd (below 0 (enc (split t).2) && belowSt 0 []) (some (Out.ret (enc (split t).2), ([] : St))) = some (Out.ret (enc (split t).2), []) := by
    rw [below_enc]; rfl
  have hfin' := hfin
  rw [enc_eta (split t).2] at hfin'
  rw [enc_eta (split t).2]
  exact hfin'

theorem kind_spec (t : T) : Ev 93 [enc t] (.bool (decide ((split t).2.k = 0))) := by
  unfold Ev
  rw [C, enc_eta, e_sign_Kind, ← enc_eta, (plast_spec t).p]
  simp only [obind_some', onStruct_enc, beq_int]
end Go.Proofs.SW

/-! Walks over a term's nodes. -/
namespace Go.Proofs.SW
open Go Go.AM Go.Ama

theorem binds_spec (t : T) : Ev 82 [enc t] (.bool (decide (t.k = 1) || decide (t.k = 3))) := by
  unfold Ev
  rw [C, enc_eta, e_term_binds, beq_int, beq_int]
  cases decide (t.k = 1) <;> simp [bc]

section
variable {σ : Type} {x : σ → Res} {nx : σ → σ} {f key : Nat} {vals : List V} {g : Int → T → Bool} {b1 b2 : Res}

theorem walk_spec (hr : ∀ (i : Int) (t : T) (s : σ), W.round 1 f key vals [.int i, enc t] [x s, .loop f key vals .ready none] = some (if g i t = true then (true, [x (nx s), .loop f key vals .ready none]) else (false, [b1, b2]))) :
    ∀ (t : T) (i : Int) (s : σ), 0 ≤ i → i + t.size ≤ 4611686018427387904 → W.call 71 [enc t, .int i, .yld 1] [x s, .loop f key vals .ready none] =
      some (if allW g i t = true then (.ret (.bool true), [x (iter nx t.size s), .loop f key vals .ready none]) else (.ret (.bool false), [b1, b2])) := by
  intro t
  induction t using T.ind with
  | _ k h xs ih =>
    intro i s hi hs
    simp only [T.size] at hs
    have hlen := length_le_sizes xs
    rw [C]
    simp only [enc]
    rw [e_term_walk, onLoop_loop, onPend_ready]
    have hr0 := hr i (.mk k h xs) s
    simp only [enc] at hr0
    rw [hr0]
    cases hg : g i (.mk k h xs) with
    | false =>
      simp only [allW, hg, Bool.false_and, obind_some']
      rfl
    | true =>
      have hl : ∀ (d j : Nat) (s : σ), j + d = xs.length → W.loop 71 4 [V.int (j : Nat), V.yld 1, V.loc false (some 3) (V.agg [V.int k, V.int h, V.vec .plain (some 3) (encs xs)]), V.int i, V.vec .plain (some 3) (encs xs), V.int xs.length] [x s, .loop f key vals .ready none] =
          some (if allWs g i (decide (k = 1) || decide (k = 3)) (xs.drop j) = true then (Ex.exit 0, [], [x (iter nx (sizes (xs.drop j)) s), .loop f key vals .ready none]) else (Ex.ret, [V.bool false], [b1, b2])) := by
        intro d
        induction d with
        | zero =>
          intro j s hj
          have : j = xs.length := by omega
          subst this
          have hlt : decide ((xs.length : Int) < xs.length) = false := by simp
          rw [L, e_term_walk_L4, hlt, List.drop_length]
          rfl
        | succ d ihd =>
          intro j s hj
          have hjl : j < xs.length := by omega
          have hsz := size_le (List.getElem_mem hjl)
          have hlt : decide ((j : Int) < xs.length) = true := by simp; omega
          have h0 : decide ((0 : Int) ≤ j) = true := by simp
          have hb : pcall W 82 [V.agg [V.int k, V.int h, V.vec .plain (some 3) (encs xs)]] = some (.bool (decide (k = 1) || decide (k = 3))) := (binds_spec (.mk k h xs)).p
          have hne : decide ((j : Int) = IntKind.i64.wrap ((xs.length : Int) - 1)) = decide (j + 1 = xs.length) := by
            rw [wrap_id ⟨by omega, by omega⟩]
            by_cases c : j + 1 = xs.length <;> simp [c] <;> omega
          have step : ∀ i' : Int, 0 ≤ i' → i' + xs[j].size ≤ 4611686018427387904 → allWs g i (decide (k = 1) || decide (k = 3)) (xs.drop j) = (allW g i' xs[j] && allWs g i (decide (k = 1) || decide (k = 3)) (xs.drop (j + 1))) →
              (obind (W.call 71 [enc xs[j], V.int i', V.yld 1] [x s, .loop f key vals .ready none]) fun r6 =>
                onRet r6.fst (fun v7 => onBool v7 fun b8 => bc (!b8) (some (Ex.ret, [V.bool false], r6.snd))
                  (W.loop 71 4 [V.int (IntKind.i64.wrap ((j : Nat) + 1)), V.yld 1, V.loc false (some 3) (V.agg [V.int k, V.int h, V.vec .plain (some 3) (encs xs)]), V.int i, V.vec .plain (some 3) (encs xs), V.int xs.length] r6.snd)) fun p9 => none) =
              some (if allWs g i (decide (k = 1) || decide (k = 3)) (xs.drop j) = true then (Ex.exit 0, [], [x (iter nx (sizes (xs.drop j)) s), .loop f key vals .ready none]) else (Ex.ret, [V.bool false], [b1, b2])) := by
            intro i' hi' hs' he
            rw [ih xs[j] (List.getElem_mem hjl) i' s hi' hs', obind_some', he]
            cases allW g i' xs[j] with
            | false => simp only [Bool.false_and]; rfl
            | true =>
              simp only [if_true, onRet_ret, onBool_bool, Bool.not_true, bc_false, Bool.true_and]
              rw [wrap_id ⟨by omega, by omega⟩]
              have := ihd (j + 1) (iter nx xs[j].size s) (by omega)
              rw [show ((j : Nat) : Int) + 1 = ((j + 1 : Nat) : Int) from rfl, this]
              have : sizes (xs.drop j) = xs[j].size + sizes (xs.drop (j + 1)) := by rw [List.drop_eq_getElem_cons hjl]; rfl
              rw [this, iter_add]
          rw [L, e_term_walk_L4]
          simp only [encs_length, hlt, h0, bc_true, gd_true, Bool.and_self, getI_encs hjl, onStruct_enc, ← enc_eta, hb, obind_some', onBool_bool, beq_int, hne]
          by_cases hlast : j + 1 = xs.length
          · have hd : xs.drop j = [xs[j]] := by rw [List.drop_eq_getElem_cons hjl, hlast, List.drop_length]
            have hd' : xs.drop (j + 1) = [] := by rw [hlast, List.drop_length]
            simp only [hlast, decide_true, bc_true]
            have hw : IntKind.i64.wrap (i + 1) = i + 1 := wrap_id ⟨by omega, by omega⟩
            cases hbb : (decide (k = 1) || decide (k = 3)) with
            | true =>
              simp only [bc_true, hw]
              have := step (i + 1) (by omega) (by omega) (by rw [hd, hd', hbb]; simp [allWs])
              rw [hbb] at this
              exact this
            | false =>
              simp only [bc_false]
              have := step i hi (by omega) (by rw [hd, hd', hbb]; simp [allWs])
              rw [hbb] at this
              exact this
          · have hd : allWs g i (decide (k = 1) || decide (k = 3)) (xs.drop j) = (allW g i xs[j] && allWs g i (decide (k = 1) || decide (k = 3)) (xs.drop (j + 1))) := by
              have h2 : j + 1 < xs.length := by omega
              rw [List.drop_eq_getElem_cons hjl, List.drop_eq_getElem_cons h2]
              simp only [allWs]
            simp only [hlast, decide_false, bc_false]
            have := step i hi (by omega) hd
            cases hbb : (decide (k = 1) || decide (k = 3)) with
            | true => rw [hbb] at this; exact this
            | false => rw [hbb] at this; exact this
      have h1 := hl xs.length 0 (nx s) (by omega)
      simp only [if_true, obind_some', Bool.not_true, bc_false, encs_length]
      have h1' : W.loop 71 4 [V.int 0, V.yld 1, V.loc false (some 3) (V.agg [V.int k, V.int h, V.vec .plain (some 3) (encs xs)]), V.int i, V.vec .plain (some 3) (encs xs), V.int xs.length] [x (nx s), .loop f key vals .ready none] =
          some (if allWs g i (decide (k = 1) || decide (k = 3)) xs = true then (Ex.exit 0, [], [x (iter nx (sizes xs) (nx s)), .loop f key vals .ready none]) else (Ex.ret, [V.bool false], [b1, b2])) := by
        rw [List.drop_zero] at h1; exact h1
      rw [h1', obind_some']
      have hsz : iter nx (T.mk k h xs).size s = iter nx (sizes xs) (nx s) := by
        simp only [T.size]
        rw [iter_add]
        rfl
      simp only [allW, hg, Bool.true_and, hsz]
      cases allWs g i (decide (k = 1) || decide (k = 3)) xs <;> rfl

/-- All nodes handed on. -/
theorem nodes_spec (hr : ∀ (i : Int) (t : T) (s : σ), W.round 1 f key vals [.int i, enc t] [x s, .loop f key vals .ready none] = some (if g i t = true then (true, [x (nx s), .loop f key vals .ready none]) else (false, [b1, b2])))
    (t : T) (s : σ) (hs : t.size ≤ 1099511627776) : W.call 70 [.yld 1, .cptr (some 3) (enc t)] [x s, .loop f key vals .ready none] =
      some (.ret (.tup []), if allW g 0 t = true then [x (iter nx t.size s), .loop f key vals .ready none] else [b1, b2]) := by
  have hw := walk_spec hr t 0 s (by omega) (by omega)
  rw [C]
  rw [enc_eta] at hw ⊢
  rw [e_term_nodes_1, hw, obind_some']
  cases allW g 0 t <;> rfl
end

theorem psize_spec (t : T) (hs : t.size ≤ 1099511627776) : Ev 34 [enc t] (.int t.size) := by
  unfold Ev
  have hr : ∀ (i : Int) (t : T) (s : Int), W.round 1 34 3 [.ref 0 0] [.int i, enc t] [.box [.int s], .loop 34 3 [.ref 0 0] .ready none] =
      some (if (fun _ _ => true : Int → T → Bool) i t = true then (true, [.box [.int (IntKind.i64.wrap (s + 1))], .loop 34 3 [.ref 0 0] .ready none]) else (false, [.dead, .dead])) := by
    intro i t s
    rw [Rd, enc_eta, e_term_Size_R3]
    rfl
  have hn := nodes_spec (x := fun s : Int => .box [.int s]) (nx := fun s => IntKind.i64.wrap (s + 1)) (g := fun _ _ => true) (b1 := .dead) (b2 := .dead) hr t 0 hs
  have hall : ∀ (t : T) (i : Int), allW (fun _ _ => true) i t = true := by
    intro t
    induction t using T.ind with
    | _ k h xs ih =>
      intro i
      simp only [allW, Bool.true_and]
      generalize (decide (k = 1) || decide (k = 3)) = b
      have : ∀ l : List T, (∀ a ∈ l, ∀ i, allW (fun _ _ => true) i a = true) → allWs (fun _ _ => true) i b l = true := by
        intro l
        induction l with
        | nil => intro _; rfl
        | cons a l ihl =>
          intro h
          cases l with
          | nil => simp only [allWs]; exact h a (by simp) _
          | cons u l => simp only [allWs, h a (by simp), Bool.true_and]; exact ihl fun a ha => h a (by simp [ha])
      exact this xs ih
  have hit : ∀ (n : Nat) (s : Int), 0 ≤ s → s + n ≤ 4611686018427387904 → iter (fun s => IntKind.i64.wrap (s + 1)) n s = s + n := by
    intro n
    induction n with
    | zero => intro s _ _; simp [iter]
    | succ n ih =>
      intro s h0 h1
      simp only [iter]
      rw [wrap_id ⟨by omega, by omega⟩, ih _ (by omega) (by omega)]
      omega
  rw [hall, if_pos rfl] at hn
  rw [hit t.size 0 (by omega) (by omega)] at hn
  rw [C]
  rw [enc_eta] at hn ⊢
  rw [e_term_Size, C, e_term_nodes, obind_some', onRet_ret, onFn_fn]
  have hn' : W.call 70 ([] ++ [V.yld (List.length [Res.box [V.int 0]])] ++ [V.cptr (some 3) (V.agg [V.int t.k, V.int t.h, V.vec .plain (some 3) (encs t.args)])]) ([Res.box [V.int 0]] ++ [Res.loop 34 3 [V.ref 0 0] LSt.ready none]) = _ := hn
  rw [hn', obind_some']
  simp only [Int.zero_add]
  rfl

theorem pmay1_spec (k h : Int) (xs : List V) : Ev 37 [.agg [.int k, .int h, .vec .plain (some 3) xs]] (.bool (may1 k h xs.length)) := by
  unfold Ev
  rw [C, e_term_may]
  simp only [beq_len0, beq_len1, beq_len2]
  simp only [beq_int, may1]
  by_cases k0 : k = 0
  · subst k0
    simp only [decide_true, bc_true, if_true]
    cases decide (h = 0) <;> rfl
  by_cases k1 : k = 1
  · subst k1
    simp only [show (1 : Int) ≠ 0 by decide, decide_true, decide_false, bc_true, bc_false, if_true, if_false]
    cases decide (h = 0) <;> rfl
  by_cases k3 : k = 3
  · subst k3
    simp only [show (3 : Int) ≠ 0 by decide, show (3 : Int) ≠ 1 by decide, decide_true, decide_false, bc_true, bc_false, if_true, if_false]
    cases decide (h = 0) <;> rfl
  simp only [k0, k1, k3, decide_false, bc_false, if_false, ge_iff_le]
  cases decide (0 ≤ k) <;> cases decide (k < 7) <;> simp [bc]

theorem mayn_spec (i k h : Int) (xs : List T) : Ev 36 [.int i, .agg [.int k, .int h, .vec .plain (some 3) (encs xs)]] (.bool (may1 k h xs.length)) := by
  unfold Ev
  have := (pmay1_spec k h (encs xs)).p (by simp [belowL, below])
  rw [encs_length] at this
  rw [C, e_term_May_1, this]
  rfl

end Go.Proofs.SW

/-! What may be; what is scoped. -/
namespace Go.Proofs.SW
open Go Go.AM Go.Ama

/-- A function that tells something of each node. -/
def Tells (g : Nat) (a b : List V) (p : Int → T → Bool) : Prop :=
  (cfg.pure g = true ∧ ∀ i t, pcall W g (a ++ [.int i, enc t] ++ b) = some (.bool (p i t))) ∨
  (cfg.pure g = false ∧ ∀ i t st, W.call g (a ++ [.int i, enc t] ++ b) st = some (.ret (.bool (p i t)), st))

theorem all_spec {g : Nat} {a b : List V} {p : Int → T → Bool} (hg : Tells g a b p) (t : T) (hs : t.size ≤ 1099511627776) : W.call 35 [enc t, .fn g a b] [] = some (.ret (.bool (allW p 0 t)), []) := by
  have hr : ∀ (i : Int) (t : T) (s : Unit), W.round 1 35 4 [.ref 0 0, .cptr none (.fn g a b)] [.int i, enc t] [(fun _ => .box [.bool false] : Unit → Res) s, .loop 35 4 [.ref 0 0, .cptr none (.fn g a b)] .ready none] =
      some (if p i t = true then (true, [(fun _ => .box [.bool false] : Unit → Res) ((fun s => s) s), .loop 35 4 [.ref 0 0, .cptr none (.fn g a b)] .ready none]) else (false, [.box [.bool false], .loop 35 4 [.ref 0 0, .cptr none (.fn g a b)] .done (some .ret)])) := by
    intro i t s
    rw [Rd, enc_eta, e_term_all_R4]
    rcases hg with ⟨hp, hm⟩ | ⟨hp, hm⟩
    · have hm := hm i t
      rw [enc_eta] at hm
      rw [hp, bc_true, hm, obind_some', onBool_bool]
      cases p i t <;> rfl
    · have hm := hm i t
      rw [enc_eta] at hm
      rw [hp, bc_false, hm, obind_some', onRet_ret, onBool_bool]
      cases p i t <;> rfl
  have hn := nodes_spec (x := fun _ : Unit => .box [.bool false]) (nx := fun s => s) (g := p) hr t () hs
  rw [C]
  rw [enc_eta] at hn
  conv => lhs; rw [enc_eta]
  rw [e_term_all, C, e_term_nodes, obind_some', onRet_ret, onFn_fn]
  have hn' : W.call 70 ([] ++ [V.yld (List.length [Res.box [V.bool false]])] ++ [V.cptr (some 3) (V.agg [V.int t.k, V.int t.h, V.vec .plain (some 3) (encs t.args)])]) ([Res.box [V.bool false]] ++ [Res.loop 35 4 [V.ref 0 0, V.cptr none (V.fn g a b)] LSt.ready none]) = _ := hn
  rw [hn', obind_some']
  cases allW p 0 t <;> rfl

theorem pmay_spec (t : T) (hs : t.size ≤ 1099511627776) : Ev 16 [enc t] (.bool (may t)) := by
  unfold Ev
  have hg : Tells 36 [] [] (fun _ t => mayT t) := .inl ⟨rfl, fun i t => by
    rw [enc_eta]; exact (mayn_spec i t.k t.h t.args).p (by simp [belowL, below])⟩
  have ha := all_spec hg t hs
  rw [allW_may] at ha
  rw [C, enc_eta, e_term_May, ← enc_eta, (pdepth_spec t hs).p, (psize_spec t hs).p, ha]
  simp only [obind_some', onInt_int, onRet_ret, onBool_bool, may]
  have e1 : decide ((t.depth : Int) ≤ 60) = decide (t.depth ≤ 60) := decide_eq_decide.2 (by omega)
  have e2 : decide ((t.size : Int) ≤ 4000) = decide (t.size ≤ 4000) := decide_eq_decide.2 (by omega)
  rw [e1, e2]
  cases decide (t.depth ≤ 60) <;> cases decide (t.size ≤ 4000) <;> simp [bc]

theorem scoped_spec (t : T) (vars metas : Int) (hs : t.size ≤ 1099511627776) : Ev 17 [enc t, .int vars, .int metas] (.bool (allW (scopedN vars metas) 0 t)) := by
  unfold Ev
  have hg : Tells 38 [] [V.cptr none (V.int vars), V.cptr none (V.int metas)] (scopedN vars metas) := .inr ⟨rfl, fun i t st => by
    show W.call 38 [.int i, enc t, V.cptr none (V.int vars), V.cptr none (V.int metas)] st = _
    rw [C, enc_eta, e_term_Scoped_1]
    simp only [gcE_len rfl, scopedN, bne_int]
    by_cases h4 : t.k = 4
    · simp only [h4, bc]
      cases decide (IntKind.i64.wrap (t.h - i) < vars) <;> rfl
    · by_cases h6 : t.k = 6
      · simp [h6, bc]
      · simp [h4, h6, bc]⟩
  have ha := all_spec hg t hs
  rw [C, enc_eta, e_term_Scoped, ← enc_eta, ha]
  rfl
end Go.Proofs.SW

/-! Texts that are read, as_ plain Lean: tokens to terms and declarations. -/
namespace Go.Ama
open Go.AM (T)

structure D where
  name : Bytes
  t : T

/-- What is left, what is declared, what went wrong. -/
structure PS where
  l : List Tok
  s : List D
  e : Int

abbrev T0 : T := .mk 0 0 []
abbrev typ : Bytes := [116, 121, 112, 101]

def PS.fail (n : Int) (s : PS) : PS := if s.e = 0 then { s with e := n } else s
def PS.is (c : Bytes) (s : PS) : Bool := decide (s.e = 0) && match s.l with | [] => false | t :: _ => decide (t.1 = 1) && decide (t.2 = c)
def PS.named (s : PS) : Bool := decide (s.e = 0) && match s.l with | [] => false | t :: _ => decide (t.1 = 0)
def PS.token (b : Bool) (s : PS) : Bytes × PS := if b then match s.l with | [] => ([], s) | t :: r => (t.2, { s with l := r }) else ([], s.fail 8)
def PS.take (c : Bytes) (s : PS) : PS := (s.token (s.is c)).2
def PS.name (s : PS) : Bytes × PS := s.token s.named

/-- How many bind within the one of that name. -/
def back (x : Bytes) : List Bytes → Option Nat
  | [] => none
  | y :: l => if y = x then some 0 else (back x l).map (· + 1)
/-- Which declaration has a name. -/
def idx (x : Bytes) : List D → Option Nat
  | [] => none
  | d :: l => if d.name = x then some 0 else (idx x l).map (· + 1)
/-- What a name is. Bound names: the last one stands ahead. -/
def PS.head (x : Bytes) (bs : List Bytes) (s : PS) : T × PS :=
  match back x bs with
  | some i => (.mk 4 i [], s)
  | none =>
    match idx x s.s with
    | none => (T0, s.fail 2)
    | some i => (.mk (if (split ((s.s.map (·.t)).getD i T0)).2.k = 0 then 2 else 5) i [], s)
def PS.alone (s : PS) : PS := if s.named || s.is [40] then s.fail 8 else s

section
variable (term : List Bytes → PS → T × PS)
def PS.inner (bs : List Bytes) (s : PS) : T × PS := let r := term bs (s.take [40]); (r.1, r.2.take [41])
def PS.atom (bs : List Bytes) (s : PS) : T × PS :=
  if s.is [40] then s.inner term bs
  else
    let r := s.name
    if r.1 = typ then (T0, r.2.fail 8) else r.2.head r.1 bs
def PS.args (bs : List Bytes) : Nat → PS → List T × PS
  | 0, s => ([], s)
  | m + 1, s => if s.named || s.is [40] then
      let r := s.atom term bs
      let q := PS.args bs m r.2
      (r.1 :: q.1, q.2)
    else ([], s)
def PS.atoms (bs : List Bytes) (s : PS) : T × PS :=
  if s.is [40] then
    let r := s.inner term bs
    (r.1, r.2.alone)
  else
    let r := s.name
    if r.2.e ≠ 0 then (T0, r.2)
    else if r.1 = typ then (T0, r.2.alone)
    else
      let h := r.2.head r.1 bs
      let q := PS.args term bs h.2.l.length h.2
      (.mk h.1.k h.1.h q.1, q.2)
end
/-- A term, by how much deeper it may be. -/
def PS.term : Nat → List Bytes → PS → T × PS
  | 0, _, s => (T0, s.fail 4)
  | n + 1, bs, s =>
    if s.is [123] then
      let x := (s.take [123]).name
      let a := PS.term n bs (x.2.take [58])
      let b := PS.term n (x.1 :: bs) (a.2.take [125])
      (.mk 1 0 [a.1, b.1], b.2)
    else if s.is [91] then
      let x := (s.take [91]).name
      let b := PS.term n (x.1 :: bs) (x.2.take [93])
      (.mk 3 0 [b.1], b.2)
    else s.atoms (PS.term n) bs
def PS.whole (s : PS) : T × PS :=
  let r := s.term 120 []
  (r.1, if may r.1 then r.2 else r.2.fail 4)
/-- What may be declared. -/
def nameOK (x : Bytes) : Bool := decide (x.length ≠ 0) && decide (x.length ≤ 40) && decide (x.head? ≠ some 95) && decide (x ≠ typ) && decide (toks x = some [(0, x)])
def PS.decl (s : PS) : PS :=
  let x := s.name
  let s2 := if !nameOK x.1 || (idx x.1 x.2.s).isSome then x.2.fail 8 else x.2
  let t := (s2.take [58]).whole
  let s3 := t.2.take [46]
  { s3 with s := s3.s ++ [⟨x.1, t.1⟩] }
def PS.decls : Nat → PS → PS
  | 0, s => s
  | m + 1, s => if s.l ≠ [] ∧ s.e = 0 then (if s.s.length ≥ 40 then s.fail 4 else PS.decls m s.decl) else s
def lexR (b : Bytes) : List Tok × Int := if b.length > 20000 then ([], 4) else match toks b with | some l => (l, 0) | none => ([], 8)
/-- The declarations of a text, or what is wrong with it. -/
def declsOf (b : Bytes) : List D × Int :=
  let x := lexR b
  let r := PS.decls (x.1.length) ⟨x.1, [], x.2⟩
  if r.e ≠ 0 then ([], r.e) else (r.s, 0)
def termOf (b : Bytes) (sig : List D) : T × Int :=
  let x := lexR b
  let r := (PS.mk x.1 sig x.2).whole
  let s := if r.2.l ≠ [] then r.2.fail 8 else r.2
  if s.e ≠ 0 then (T0, s.e) else (r.1, 0)
end Go.Ama

/-! Texts that are written, as_ plain Lean. -/
namespace Go.Ama
open Go Go.AM

def boundT (d : Int) : Tok := (0, 95 :: Lib.decDigits d.toNat)
def mkT (c : UInt8) : Tok := (1, [c])
def isHead (k : Int) : Bool := k == 4 || k == 2 || k == 5
/-- The name of a head. -/
def headT (sig : List D) (k h : Int) (d : Nat) : Option Tok :=
  if k = 4 ∧ h < d then some (boundT (d - 1 - h))
  else if (k = 2 ∨ k = 5) ∧ h < sig.length then (sig[h.toNat]?).map fun d => (0, d.name)
  else none
/-- A name alone? -/
def simpleT (t : T) : Bool := decide (t.args.length = 0) && isHead t.k

section
variable (sig : List D)
mutual
/-- A term's tokens. -/
def words : T → Nat → List Tok
  | .mk k h xs, d => if k = 0 then [(0, typ)] else if k = 1 then wPi xs d else if k = 3 then wLam xs d else (headT sig k h d).toList ++ wArgs xs d
def wArgs : List T → Nat → List Tok
  | [], _ => []
  | t :: l, d => (bif simpleT t then words t d else mkT 40 :: words t d ++ [mkT 41]) ++ wArgs l d
def wPi : List T → Nat → List Tok
  | a :: b :: _, d => mkT 123 :: boundT d :: mkT 58 :: words a d ++ mkT 125 :: words b (d + 1)
  | _, _ => []
def wLam : List T → Nat → List Tok
  | a :: _, d => mkT 91 :: boundT d :: mkT 93 :: words a (d + 1)
  | _, _ => []
end
mutual
/-- Has a term's each head a name? -/
def okW : T → Nat → Bool
  | .mk k h xs, d => if k = 0 then true else if k = 1 then okPi xs d else if k = 3 then okLam xs d else (headT sig k h d).isSome && okArgs xs d
def okArgs : List T → Nat → Bool
  | [], _ => true
  | t :: l, d => okW t d && okArgs l d
def okPi : List T → Nat → Bool
  | a :: b :: _, d => okW a d && okW b (d + 1)
  | _, _ => true
def okLam : List T → Nat → Bool
  | a :: _, d => okW a (d + 1)
  | _, _ => true
end
end

/-- A term's text. -/
def showT (t : T) (sig : List D) : Bytes × Int :=
  if may t then (if okW sig t 0 then (text (words sig t 0), 0) else ([], 2)) else ([], 1)
def line (x b : Bytes) : Bytes := x ++ [32, 58, 32] ++ b ++ [46, 10]
def many (x : Bytes) (l : List D) : Nat := (l.filter fun d => decide (d.name = x)).length
/-- The text of declarations. -/
def showsT (sig : List D) : Bytes → List D → Bytes × Int
  | all, [] => (all, 0)
  | all, d :: l =>
    if nameOK d.name && decide (many d.name sig ≤ 1) then
      (if (showT d.t sig).2 = 0 then showsT sig (all ++ line d.name (showT d.t sig).1) l else ([], (showT d.t sig).2))
    else ([], 1)
def showsD (sig : List D) : Bytes × Int := showsT sig [] sig

/-! ### more declarations -/
theorem headT_more {sig : List D} (e : D) {k h : Int} {d : Nat} (hk : (headT sig k h d).isSome = true) : headT (sig ++ [e]) k h d = headT sig k h d := by
  unfold headT at hk ⊢
  by_cases h1 : k = 4 ∧ h < d
  · simp only [if_pos h1]
  · rw [if_neg h1] at hk
    rw [if_neg h1, if_neg h1]
    by_cases h2 : (k = 2 ∨ k = 5) ∧ h < sig.length
    · rw [if_pos h2] at hk
      have h3 : (k = 2 ∨ k = 5) ∧ h < (sig ++ [e]).length := ⟨h2.1, by simp; omega⟩
      rw [if_pos h3, if_pos h2]
      congr 1
      rw [List.getElem?_append_left]
      rw [Option.isSome_map] at hk
      exact (List.getElem?_eq_some_iff.1 (Option.get_mem hk)).1
    · rw [if_neg h2] at hk
      cases hk

theorem more_all (sig : List D) (e : D) (t : T) : ∀ d, okW sig t d = true → okW (sig ++ [e]) t d = true ∧ words (sig ++ [e]) t d = words sig t d := by
  induction t using T.ind with
  | _ k h xs ih =>
    intro d hk
    have hl : ∀ l : List T, (∀ a ∈ l, ∀ d, okW sig a d = true → okW (sig ++ [e]) a d = true ∧ words (sig ++ [e]) a d = words sig a d) → ∀ d, okArgs sig l d = true → okArgs (sig ++ [e]) l d = true ∧ wArgs (sig ++ [e]) l d = wArgs sig l d := by
      intro l
      induction l with
      | nil => intro _ d _; exact ⟨rfl, rfl⟩
      | cons a l ihl =>
        intro hh d hk
        simp only [okArgs, Bool.and_eq_true] at hk
        obtain ⟨h1, h2⟩ := hh a (List.mem_cons_self ..) d hk.1
        obtain ⟨h3, h4⟩ := ihl (fun b hb => hh b (List.mem_cons_of_mem _ hb)) d hk.2
        exact ⟨by simp only [okArgs, h1, h3, Bool.and_self], by simp only [wArgs, h2, h4]⟩
    unfold okW at hk
    unfold okW words
    by_cases h0 : k = 0
    · simp only [if_pos h0]
      exact ⟨trivial, trivial⟩
    · rw [if_neg h0] at hk
      simp only [if_neg h0]
      by_cases h1 : k = 1
      · rw [if_pos h1] at hk
        simp only [if_pos h1]
        match xs, ih, hk with
        | [], _, _ => exact ⟨rfl, rfl⟩
        | [_], _, _ => exact ⟨rfl, rfl⟩
        | a :: b :: _, ih, hk =>
          simp only [okPi, Bool.and_eq_true] at hk
          obtain ⟨h1, h2⟩ := ih a (by simp) d hk.1
          obtain ⟨h3, h4⟩ := ih b (by simp) (d + 1) hk.2
          exact ⟨by simp only [okPi, h1, h3, Bool.and_self], by simp only [wPi, h2, h4]⟩
      · rw [if_neg h1] at hk
        simp only [if_neg h1]
        by_cases h3 : k = 3
        · rw [if_pos h3] at hk
          simp only [if_pos h3]
          match xs, ih, hk with
          | [], _, _ => exact ⟨rfl, rfl⟩
          | a :: _, ih, hk =>
            simp only [okLam] at hk
            obtain ⟨h1, h2⟩ := ih a (by simp) (d + 1) hk
            exact ⟨by simp only [okLam, h1], by simp only [wLam, h2]⟩
        · rw [if_neg h3, Bool.and_eq_true] at hk
          simp only [if_neg h3, headT_more e hk.1]
          obtain ⟨h4, h5⟩ := hl xs ih d hk.2
          exact ⟨by simp [hk.1, h4], by rw [h5]⟩

theorem showT_more {t : T} {sig : List D} (e : D) (h : (showT t sig).2 = 0) : showT t (sig ++ [e]) = showT t sig := by
  unfold showT at h ⊢
  split at h
  · rename_i hm
    simp only [if_pos hm]
    split at h
    · rename_i ho
      obtain ⟨h1, h2⟩ := more_all sig e t 0 ho
      rw [if_pos h1, if_pos ho, h2]
    · cases h
  · cases h

theorem many_more (x : Bytes) (l : List D) (e : D) : many x l ≤ many x (l ++ [e]) := by simp [many, List.filter_append]

/-- What comes of declarations, over more of them. -/
theorem showsT_more (sig : List D) (e : D) : ∀ (l : List D) (all : Bytes), (showsT sig all l).2 = 0 → (showsT (sig ++ [e]) all (l ++ [e])).2 = 0 → ∃ r, r ≠ [] ∧ (showsT (sig ++ [e]) all (l ++ [e])).1 = (showsT sig all l).1 ++ r
  | [], all, _, h => by
    simp only [List.nil_append, showsT] at h ⊢
    split at h
    · rename_i hn
      simp only [if_pos hn]
      split at h
      · rename_i hs
        simp only [if_pos hs]
        exact ⟨line e.name (showT e.t (sig ++ [e])).1, by simp [line], rfl⟩
      · rename_i hs
        exact absurd h hs
    · cases h
  | d :: l, all, h1, h2 => by
    simp only [List.cons_append, showsT] at h1 h2 ⊢
    split at h1
    · rename_i hn
      simp only [if_pos hn] at h1 ⊢
      split at h1
      · rename_i hs
        simp only [if_pos hs]
        have := showT_more e hs
        split at h2
        · rename_i hn2
          simp only [this, if_pos hs] at h2 ⊢
          rw [if_pos hn2]
          exact showsT_more sig e l _ h1 h2
        · cases h2
      · rename_i hs
        exact absurd h1 hs
    · cases h1

/-! ### limits -/
theorem showsT_ok (sig : List D) : ∀ (l : List D) (all : Bytes), (showsT sig all l).2 = 0 → ∀ d ∈ l, nameOK d.name = true ∧ many d.name sig ≤ 1
  | [], _, _, d, hd => by cases hd
  | d :: l, all, h, e, he => by
    simp only [showsT] at h
    split at h
    · rename_i hn
      simp only [Bool.and_eq_true, decide_eq_true_eq] at hn
      split at h
      · rcases List.mem_cons.1 he with rfl | he
        · exact hn
        · exact showsT_ok sig l _ h e he
      · rename_i hs; exact absurd h hs
    · cases h

theorem many_two : ∀ {l : List D} {i k : Nat} (hi : i < l.length) (hk : k < i), (l[i]).name = (l[k]'(by omega)).name → 2 ≤ many (l[i]).name l
  | d :: l, i + 1, 0, hi, _, h => by
    simp only [List.getElem_cons_succ, List.getElem_cons_zero] at h ⊢
    have hi' : i < l.length := by simpa using hi
    unfold many
    rw [List.filter_cons_of_pos (by simp [h])]
    have : l[i] ∈ l.filter fun d => decide (d.name = (l[i]).name) := List.mem_filter.2 ⟨List.getElem_mem .., by simp⟩
    have := List.length_pos_of_mem this
    simp only [List.length_cons]
    omega
  | d :: l, i + 1, k + 1, hi, hk, h => by
    simp only [List.getElem_cons_succ] at h ⊢
    have := many_two (l := l) (i := i) (k := k) (by simpa using hi) (by omega) h
    unfold many at this ⊢
    rw [List.filter_cons]
    split
    · simp only [List.length_cons]; omega
    · exact this
end Go.Ama

/-! How long what is written is; what is written is scoped. -/
namespace Go.Ama
open Go Go.AM

theorem weight_app : ∀ a b : List Tok, weight (a ++ b) = weight a + weight b
  | [], b => by simp [weight]
  | (_, s) :: a, b => by simp only [List.cons_append, weight, weight_app a b]; omega
theorem digs_len {n : Nat} (h : n < 100) : (Lib.decDigits n).length ≤ 2 := by
  rw [Lib.decDigits]
  split
  · simp
  · rw [Lib.decDigits, dif_pos (by omega)]
    simp
theorem boundT_len {n : Int} (h : n < 100) : (boundT n).2.length ≤ 100 := by
  have := digs_len (n := n.toNat) (by omega)
  simp only [boundT, List.length_cons]
  omega
theorem headT_len {sig : List D} (hs : ∀ d ∈ sig, d.name.length ≤ 100) {k h : Int} {d : Nat} (hd : d ≤ 99) (hh : 0 ≤ h) : weight (headT sig k h d).toList ≤ 100 := by
  unfold headT
  split
  · have := boundT_len (n := d - 1 - h) (by omega)
    simp only [Option.toList_some, weight]
    exact this
  · split
    · cases hx : sig[h.toNat]? with
      | none => simp [weight]
      | some x => have := hs x (List.mem_of_getElem? hx); simpa [weight] using this
    · simp [weight]

theorem words_len {sig : List D} (t : T) : ∀ d, (words sig t d).length + 2 ≤ 9 * t.size := by
  induction t using T.ind with
  | _ k h xs ih =>
    intro d
    have hl : ∀ l : List T, (∀ a ∈ l, ∀ d, (words sig a d).length + 2 ≤ 9 * a.size) → ∀ d, (wArgs sig l d).length ≤ 9 * sizes l := by
      intro l
      induction l with
      | nil => intro _ d; simp [wArgs]
      | cons a l ihl =>
        intro hh d
        have h1 := hh a (List.mem_cons_self ..) d
        have h2 := ihl (fun b hb => hh b (List.mem_cons_of_mem _ hb)) d
        simp only [wArgs, sizes, List.length_append]
        cases simpleT a <;> simp only [cond_true, cond_false, List.length_cons, List.length_append, List.length_nil] <;> omega
    unfold words
    simp only [T.size]
    split
    · simp; omega
    · split
      · match xs, ih with
        | [], _ => simp [wPi]; omega
        | [_], _ => simp [wPi]; omega
        | a :: b :: r, ih =>
          have h1 := ih a (by simp) d
          have h2 := ih b (by simp) (d + 1)
          simp only [wPi, sizes, List.length_cons, List.length_append]
          omega
      · split
        · match xs, ih with
          | [], _ => simp [wLam]; omega
          | a :: r, ih =>
            have h1 := ih a (by simp) (d + 1)
            simp only [wLam, sizes, List.length_cons]
            omega
        · have h1 := hl xs ih d
          have h2 : (headT sig k h d).toList.length ≤ 1 := by cases headT sig k h d <;> simp
          simp only [List.length_append]
          omega

theorem words_weight {sig : List D} (hs : ∀ d ∈ sig, d.name.length ≤ 100) (t : T) : ∀ d, nodesB t = true → d + t.depth ≤ 100 → weight (words sig t d) + 2 ≤ 110 * t.size := by
  induction t using T.ind with
  | _ k h xs ih =>
    intro d hn hd
    have hl : ∀ l : List T, (∀ a ∈ l, ∀ d, nodesB a = true → d + a.depth ≤ 100 → weight (words sig a d) + 2 ≤ 110 * a.size) → ∀ d, nodess l = true → d + depths l ≤ 100 → weight (wArgs sig l d) ≤ 110 * sizes l := by
      intro l
      induction l with
      | nil => intro _ d _ _; simp [wArgs, weight]
      | cons a l ihl =>
        intro hh d hn hd
        simp only [nodess, Bool.and_eq_true] at hn
        simp only [depths] at hd
        have h1 := hh a (List.mem_cons_self ..) d hn.1 (by omega)
        have h2 := ihl (fun b hb => hh b (List.mem_cons_of_mem _ hb)) d hn.2 (by omega)
        simp only [wArgs, sizes, weight_app]
        cases simpleT a <;> simp only [cond_true, cond_false, List.cons_append, mkT, weight, weight_app, List.length_cons, List.length_nil] <;> omega
    unfold words
    simp only [nodesB, Bool.and_eq_true] at hn
    simp only [T.depth] at hd
    simp only [T.size]
    split
    · simp [weight, typ]; omega
    · rename_i k0
      split
      · match xs, ih, hn, hd with
        | [], _, _, _ => simp [wPi, weight]; omega
        | [_], _, _, _ => simp [wPi, weight]; omega
        | a :: b :: r, ih, hn, hd =>
          simp only [nodess, Bool.and_eq_true] at hn
          simp only [depths] at hd
          have h1 := ih a (by simp) d hn.2.1 (by omega)
          have h2 := ih b (by simp) (d + 1) hn.2.2.1 (by omega)
          have h3 := boundT_len (n := (d : Int)) (by omega)
          simp only [wPi, sizes, boundT, weight, weight_app, mkT, List.length_cons, List.length_nil] at h3 ⊢
          omega
      · rename_i k1
        split
        · match xs, ih, hn, hd with
          | [], _, _, _ => simp [wLam, weight]; omega
          | a :: r, ih, hn, hd =>
            simp only [nodess, Bool.and_eq_true] at hn
            simp only [depths] at hd
            have h1 := ih a (by simp) (d + 1) hn.2.1 (by omega)
            have h3 := boundT_len (n := (d : Int)) (by omega)
            simp only [wLam, sizes, boundT, weight, weight_app, mkT, List.length_cons, List.length_nil] at h3 ⊢
            omega
        · rename_i k3
          have h0 : 0 ≤ h := by
            have := hn.1
            unfold may1 at this
            rw [if_neg k0, if_neg k1, if_neg k3] at this
            simp only [Bool.and_eq_true, decide_eq_true_eq] at this
            exact this.2.2
          have h1 := hl xs ih d hn.2 (by omega)
          have h2 := headT_len hs (k := k) (h := h) (d := d) (by omega) h0
          rw [weight_app]
          omega

/-- What is written is scoped, and without metas. -/
theorem okW_scoped {sig : List D} (t : T) : ∀ d : Nat, d ≤ 1099511627776 → low t = true → nodesB t = true → okW sig t d = true → d + t.depth ≤ 1099511627776 → allW (scopedN 0 0) d t = true := by
  induction t using T.ind with
  | _ k h xs ih =>
    intro d hd hlo hn ho hdp
    simp only [low, Bool.and_eq_true, decide_eq_true_eq] at hlo
    simp only [nodesB, Bool.and_eq_true] at hn
    simp only [T.depth] at hdp
    unfold okW at ho
    simp only [allW, Bool.and_eq_true]
    have hls := low.lows
    by_cases h0 : k = 0
    · subst h0
      have hx : xs = [] := by
        have := hn.1
        unfold may1 at this
        simp only [if_true, Bool.and_eq_true, decide_eq_true_eq] at this
        exact List.length_eq_zero_iff.1 this.2
      subst hx
      exact ⟨by simp [scopedN, T.k], rfl⟩
    · rw [if_neg h0] at ho
      by_cases h1 : k = 1
      · subst h1
        rw [if_pos rfl] at ho
        have hx := hn.1
        unfold may1 at hx
        simp only [if_neg h0, if_true, Bool.and_eq_true, decide_eq_true_eq] at hx
        match xs, hx.2, ih, ho, hn, hlo, hdp with
        | [a, b], _, ih, ho, hn, hlo, hdp =>
          simp only [okPi, Bool.and_eq_true] at ho
          simp only [nodess, Bool.and_eq_true] at hn
          simp only [low.lows, Bool.and_eq_true] at hlo
          simp only [depths] at hdp
          refine ⟨by simp [scopedN, T.k], ?_⟩
          simp only [allWs, decide_true, Bool.true_or, cond_true, Bool.and_eq_true]
          exact ⟨ih a (by simp) d hd hlo.2.1 hn.2.1 ho.1 (by omega), by have := ih b (by simp) (d + 1) (by omega) hlo.2.2.1 hn.2.2.1 ho.2 (by omega); simpa using this⟩
      · rw [if_neg h1] at ho
        by_cases h3 : k = 3
        · subst h3
          rw [if_pos rfl] at ho
          have hx := hn.1
          unfold may1 at hx
          simp only [if_neg h0, if_neg h1, if_true, Bool.and_eq_true, decide_eq_true_eq] at hx
          match xs, hx.2, ih, ho, hn, hlo, hdp with
          | [a], _, ih, ho, hn, hlo, hdp =>
            simp only [okLam] at ho
            simp only [nodess, Bool.and_eq_true] at hn
            simp only [low.lows, Bool.and_eq_true] at hlo
            simp only [depths] at hdp
            refine ⟨by simp [scopedN, T.k], ?_⟩
            simp only [allWs, decide_true, Bool.or_true, cond_true]
            have := ih a (by simp) (d + 1) (by omega) hlo.2.1 hn.2.1 ho (by omega)
            simpa using this
        · rw [if_neg h3, Bool.and_eq_true] at ho
          refine ⟨?_, ?_⟩
          · have hh : 0 ≤ h := by
              have := hn.1
              unfold may1 at this
              rw [if_neg h0, if_neg h1, if_neg h3] at this
              simp only [Bool.and_eq_true, decide_eq_true_eq] at this
              exact this.2.2
            have := ho.1
            unfold headT at this
            by_cases h4 : k = 4
            · subst h4
              by_cases hlt : h < d
              · have hw : IntKind.i64.wrap (h - d) = h - d := wrap_i (by omega) (by omega)
                unfold scopedN
                simp only [T.k, T.h, hw]
                simp; omega
              · simp [hlt] at this
            · by_cases h6 : k = 6
              · subst h6; simp at this
              · simp [scopedN, T.k, h4, h6]
          · have hb : (decide (k = 1) || decide (k = 3)) = false := by simp [h1, h3]
            rw [hb]
            have hl : ∀ l : List T, (∀ a ∈ l, ∀ d : Nat, d ≤ 1099511627776 → low a = true → nodesB a = true → okW sig a d = true → d + a.depth ≤ 1099511627776 → allW (scopedN 0 0) d a = true) → low.lows l = true → nodess l = true → okArgs sig l d = true → d + depths l ≤ 1099511627776 → allWs (scopedN 0 0) d false l = true := by
              intro l
              induction l with
              | nil => intros; rfl
              | cons a l ihl =>
                intro hh h1 h2 h3 h4
                simp only [low.lows, Bool.and_eq_true] at h1
                simp only [nodess, Bool.and_eq_true] at h2
                simp only [okArgs, Bool.and_eq_true] at h3
                simp only [depths] at h4
                have ha := hh a (List.mem_cons_self ..) d hd h1.1 h2.1 h3.1 (by omega)
                cases l with
                | nil => simpa [allWs] using ha
                | cons b l => simp only [allWs, ha, Bool.true_and]; exact ihl (fun c hc => hh c (List.mem_cons_of_mem _ hc)) h1.2 h2.2 h3.2 (by omega)
            exact hl xs ih hlo.2 hn.2 ho.2 (by omega)
end Go.Ama

/-! Declarations and names as_ tree values. -/
namespace Go.Ama
open Go Go.AM

def encD (d : D) : V := .agg [.str (ba d.name), .int d.t.k, .int d.t.h, .vec .plain (some 3) (encs d.t.args)]
def encDs (l : List D) : List V := l.map encD
def encS (l : List Bytes) : List V := l.map fun b => .str (ba b)
@[simp] theorem encDs_length (l : List D) : (encDs l).length = l.length := by simp [encDs]
@[simp] theorem encDs_nil : encDs [] = [] := rfl
@[simp] theorem encS_length (l : List Bytes) : (encS l).length = l.length := by simp [encS]
theorem encDs_append (a b : List D) : encDs (a ++ b) = encDs a ++ encDs b := by simp [encDs]
theorem encS_append (a b : List Bytes) : encS (a ++ b) = encS a ++ encS b := by simp [encS]
theorem encDs_take (l : List D) (n : Nat) : (encDs l).take n = encDs (l.take n) := by simp [encDs, List.map_take]
theorem encToks_drop (l : List Tok) (n : Nat) : (encToks l).drop n = encToks (l.drop n) := by simp [encToks, List.map_drop]
theorem encToks_take (l : List Tok) (n : Nat) : (encToks l).take n = encToks (l.take n) := by simp [encToks, List.map_take]
theorem getI_encDs {l : List D} {i : Nat} (h : i < l.length) : getI (encDs l) (i : Int) = encD l[i] := by
  simp [getI, encDs, List.getD_eq_getElem?_getD, List.getElem?_map, h]
theorem getI_encS {l : List Bytes} {i : Nat} (h : i < l.length) : getI (encS l) (i : Int) = .str (ba l[i]) := by
  simp [getI, encS, List.getD_eq_getElem?_getD, List.getElem?_map, h]
theorem below_encD (n : Nat) (d : D) : below n (encD d) = true := by simp [encD, below, belowL, below_encs]
theorem below_encDs (n : Nat) : ∀ l : List D, belowL n (encDs l) = true
  | [] => rfl
  | d :: l => by
    have := below_encDs n l
    simp only [encDs] at this
    simp [encDs, belowL, below_encD, this]
theorem onStruct_encD {R : Type} (d : D) (K : ByteArray → Int → Int → List V → Option R) : onStruct (R := R) [CT.str, CT.int, CT.int, CT.slice (some 3)] (encD d) K = K (ba d.name) d.t.k d.t.h (encs d.t.args) := rfl
def boxP (m : AM.Mode) (s : PS) : Res := .box [.vec .plain (some 2) (encToks s.l), .vec m (some 4) (encDs s.s), .int s.e]
end Go.Ama

/-! The writer. -/
namespace Go.Proofs.SW
open Go Go.AM Go.Ama

def boxW (m : AM.Mode) (sig : List D) (l : List Tok) (e : Int) : Res := .box [.vec .plain (some 4) (encDs sig), .vec m (some 2) (encToks l), .int e]
def GF (m : AM.Mode) : Prop := m = .grow ∨ m = .full

theorem itoa_ev {n : Int} (h0 : 0 ≤ n) (h1 : n < 100) : Ev 64 [.int n] (.str (ba (Lib.decDigits n.toNat))) := by
  unfold Ev
  rw [Cx 64 _ _ (x := fun _ args st => itoaX args st) rfl]
  show gd (decide (0 ≤ n) && decide (n < 100)) _ = _
  rw [decide_eq_true h0, decide_eq_true h1]
  rfl

section
variable {sig : List D} {m : AM.Mode} (hm : GF m)
include hm
theorem wname_spec (l : List Tok) (e : Int) (s : Bytes) (hl : l.length ≤ 1000000) : W.call 41 [.ref 0 0, .str (ba s)] [boxW m sig l e] = some (.ret (.tup []), [boxW .grow sig (l ++ [(0, s)]) e]) := by
  have hr : roomFor Tryd.prog 58 ((encToks l).length + [V.agg [V.int 0, V.str (ba s)]].length) = true := room_tok (by simp; omega)
  have hb : boxW .grow sig (l ++ [(0, s)]) e = .box [.vec .plain (some 4) (encDs sig), .vec .grow (some 2) (encToks l ++ [V.agg [V.int 0, V.str (ba s)]]), .int e] := by rw [boxW, encToks_append]; rfl
  rw [C, e_show_writer_name, hb]
  generalize roomFor Tryd.prog 58 = R at hr ⊢
  rcases hm with rfl | rfl <;>
  · refine Eq.trans (b := gd (true && R ((encToks l).length + [V.agg [V.int 0, V.str (ba s)]].length)) (some (.ret (.tup []), [.box [.vec .plain (some 4) (encDs sig), .vec .grow (some 2) (encToks l ++ [V.agg [V.int 0, V.str (ba s)]]), .int e]]))) rfl ?_
    rw [hr]
    rfl
theorem wmarks_spec (l : List Tok) (e : Int) (c : UInt8) (hl : l.length ≤ 1000000) : W.call 45 [.ref 0 0, .vec .plain none [.str (ba [c])]] [boxW m sig l e] = some (.ret (.tup []), [boxW .grow sig (l ++ [mkT c]) e]) := by
  have hr : roomFor Tryd.prog 58 ((encToks l).length + [V.agg [V.int 1, V.str (ba [c])]].length) = true := room_tok (by simp; omega)
  have hb : boxW .grow sig (l ++ [mkT c]) e = .box [.vec .plain (some 4) (encDs sig), .vec .grow (some 2) (encToks l ++ [V.agg [V.int 1, V.str (ba [c])]]), .int e] := by rw [boxW, encToks_append]; rfl
  have h1 : W.loop 45 1 [.int 1, .ref 0 0, .vec .plain none [.str (ba [c])], .int 1] [boxW .grow sig (l ++ [mkT c]) e] = some (.exit 0, [], [boxW .grow sig (l ++ [mkT c]) e]) := by
    rw [L, e_show_writer_marks_L1]
    rfl
  have h2 : W.loop 45 1 [.int 0, .ref 0 0, .vec .plain none [.str (ba [c])], .int 1] [boxW m sig l e] = some (.exit 0, [], [boxW .grow sig (l ++ [mkT c]) e]) := by
    rw [← h1, L, e_show_writer_marks_L1, hb]
    generalize roomFor Tryd.prog 58 = R at hr ⊢
    generalize W = O
    rcases hm with rfl | rfl <;>
    · refine Eq.trans (b := gd (true && R ((encToks l).length + [V.agg [V.int 1, V.str (ba [c])]].length)) (O.loop 45 1 [.int (IntKind.i64.wrap (0 + 1)), .ref 0 0, .vec .plain none [.str (ba [c])], .int 1] [.box [.vec .plain (some 4) (encDs sig), .vec .grow (some 2) (encToks l ++ [V.agg [V.int 1, V.str (ba [c])]]), .int e]])) rfl ?_
      rw [hr]
      rfl
  rw [C, e_show_writer_marks]
  have h3 : W.loop 45 1 [.int 0, .ref 0 0, .vec .plain none [.str (ba [c])], .int (([V.str (ba [c])].length : Nat) : Int)] [boxW m sig l e] = _ := h2
  rw [h3]
  rfl
theorem wbound_spec (l : List Tok) (e : Int) (n : Int) (h0 : 0 ≤ n) (h1 : n < 100) (hl : l.length ≤ 1000000) : W.call 44 [.ref 0 0, .int n] [boxW m sig l e] = some (.ret (.tup []), [boxW .grow sig (l ++ [boundT n]) e]) := by
  have hd := digs_len (n := n.toNat) (by omega)
  have hg : decide (1 + (ba (Lib.decDigits n.toNat)).size ≤ 9223372036854775807) = true := by rw [ba_size]; exact decide_eq_true (by omega)
  have hs : ({ data := #[95] } : ByteArray) ++ ba (Lib.decDigits n.toNat) = ba (95 :: Lib.decDigits n.toNat) := ba_append [95] _
  rw [C, e_show_writer_bound, (itoa_ev h0 h1).p, obind_some', onStr_str, hg, gd_true, hs, wname_spec hm l e _ hl]
  rfl
theorem within_spec (l : List Tok) (e : Int) (o c : UInt8) {g : Nat} {caps : List V} (hp : cfg.pure g = false) {m2 : AM.Mode} {l2 : List Tok} {e2 : Int} (hm2 : GF m2)
    (hc : W.call g caps [boxW .grow sig (l ++ [mkT o]) e] = some (.ret (.tup []), [boxW m2 sig l2 e2])) (hl : l.length ≤ 1000000) (hl2 : l2.length ≤ 1000000) :
    W.call 42 [.ref 0 0, .str (ba [o]), .str (ba [c]), .fn g [] caps] [boxW m sig l e] = some (.ret (.tup []), [boxW .grow sig (l2 ++ [mkT c]) e2]) := by
  rw [C, e_show_writer_within, wmarks_spec hm l e o hl]
  show bc (cfg.pure g) _ (obind (W.call g caps [boxW .grow sig (l ++ [mkT o]) e]) _) = _
  rw [hp, bc_false, hc]
  show obind (W.call 45 [.ref 0 0, .vec .plain none [.str (ba [c])]] [boxW m2 sig l2 e2]) _ = _
  rw [wmarks_spec hm2 l2 e2 c hl2]
  rfl
theorem whead_spec (hs : sig.length ≤ 1000) (l : List Tok) (e : Int) (k h : Int) (xs : List T) (d : Nat) (hh : 0 ≤ h) (hd : d ≤ 100) (hl : l.length ≤ 1000000) :
    ∃ m', GF m' ∧ W.call 47 [.ref 0 0, .agg [.int k, .int h, .vec .plain (some 3) (encs xs)], .int d] [boxW m sig l e] = some (.ret (.tup []), [boxW m' sig (l ++ (headT sig k h d).toList) (bif (headT sig k h d).isSome then e else 2)]) := by
  have hfail : W.call 47 [.ref 0 0, .agg [.int k, .int h, .vec .plain (some 3) (encs xs)], .int d] [boxW m sig l e] = some (.ret (.tup []), [boxW m sig l 2]) →
    headT sig k h d = none → ∃ m', GF m' ∧ W.call 47 [.ref 0 0, .agg [.int k, .int h, .vec .plain (some 3) (encs xs)], .int d] [boxW m sig l e] = some (.ret (.tup []), [boxW m' sig (l ++ (headT sig k h d).toList) (bif (headT sig k h d).isSome then e else 2)]) := by
    intro h1 h2
    refine ⟨m, hm, ?_⟩
    rw [h1, h2]
    simp
  have hname : ∀ i : Nat, (hi : i < sig.length) → W.call 41 [.ref 0 0, .str (ba (sig[i]).name)] [boxW m sig l e] = some (.ret (.tup []), [boxW .grow sig (l ++ [(0, (sig[i]).name)]) e]) := fun i hi => wname_spec hm l e _ hl
  obtain ⟨i, rfl⟩ := Int.eq_ofNat_of_zero_le hh
  by_cases h4 : k = 4
  · subst h4
    by_cases hlt : (i : Int) < d
    · have hT : headT sig 4 i d = some (boundT (d - 1 - i)) := by unfold headT; rw [if_pos ⟨rfl, hlt⟩]
      refine ⟨.grow, .inl rfl, ?_⟩
      rw [hT, C, e_show_writer_head, beq_int, decide_eq_true rfl, bc_true, decide_eq_true hlt, bc_true, wrap_i (n := (d : Int) - 1) (by omega) (by omega), wrap_i (n := (d : Int) - 1 - i) (by omega) (by omega), wbound_spec hm l e _ (by omega) (by omega) hl]
      rfl
    · refine hfail ?_ (by unfold headT; rw [if_neg (by omega), if_neg (by omega)])
      rw [C, e_show_writer_head, beq_int, decide_eq_true rfl, bc_true, decide_eq_false hlt]
      rfl
  · by_cases h2 : (k = 2 ∨ k = 5) ∧ (i : Int) < sig.length
    · have hi : i < sig.length := by omega
      have hT : headT sig k i d = some (0, (sig[i]).name) := by
        unfold headT
        rw [if_neg (by omega), if_pos h2, Int.toNat_natCast, List.getElem?_eq_getElem hi]
        rfl
      refine ⟨.grow, .inl rfl, ?_⟩
      have hi2 : decide ((i : Int) < ((encDs sig).length : Int)) = true := by rw [encDs_length]; exact decide_eq_true h2.2
      have hi3 : (decide ((0 : Int) ≤ (i : Int)) && decide ((i : Int) < ((encDs sig).length : Int))) = true := by rw [hi2, decide_eq_true (by omega)]; rfl
      have hx : getI (encDs sig) (i : Int) = encD sig[i] := getI_encDs hi
      have e1 : ∀ {α : Type} (K : List V → Option α), getR [boxW m sig l e] 0 (fun x => onBox x K) = K [.vec .plain (some 4) (encDs sig), .vec m (some 2) (encToks l), .int e] := fun K => rfl
      have e2 : ∀ {α : Type} (K : List V → Option α), onVec (some 4) (cleanV (AM.partOf [.vec .plain (some 4) (encDs sig), .vec m (some 2) (encToks l), .int e] 0 none)) K = K (encDs sig) := fun K => rfl
      have e3 : ∀ {α : Type} (K : List V → Option α), onAgg (encD sig[i]) K = K [.str (ba (sig[i]).name), .int (sig[i]).t.k, .int (sig[i]).t.h, .vec .plain (some 3) (encs (sig[i]).t.args)] := fun K => rfl
      have e4 : ∀ {α : Type} (K : ByteArray → Option α), onStr (AM.partOf [.str (ba (sig[i]).name), .int (sig[i]).t.k, .int (sig[i]).t.h, .vec .plain (some 3) (encs (sig[i]).t.args)] 0 none) K = K (ba (sig[i]).name) := fun K => rfl
      rw [hT, C, e_show_writer_head, beq_int, decide_eq_false h4, bc_false]
      rcases h2.1 with rfl | rfl
      · rw [beq_int, decide_eq_true rfl, bc_true]
        simp only [e1, e2, hi2, bc_true, hi3, hx, e3, e4, hname i hi]
        rfl
      · rw [beq_int, decide_eq_false (by decide), bc_false, beq_int, decide_eq_true rfl, bc_true]
        simp only [e1, e2, hi2, bc_true, hi3, hx, e3, e4, hname i hi]
        rfl
    · refine hfail ?_ (by unfold headT; rw [if_neg (by omega), if_neg h2])
      have e1 : ∀ {α : Type} (K : List V → Option α), getR [boxW m sig l e] 0 (fun x => onBox x K) = K [.vec .plain (some 4) (encDs sig), .vec m (some 2) (encToks l), .int e] := fun K => rfl
      have e2 : ∀ {α : Type} (K : List V → Option α), onVec (some 4) (cleanV (AM.partOf [.vec .plain (some 4) (encDs sig), .vec m (some 2) (encToks l), .int e] 0 none)) K = K (encDs sig) := fun K => rfl
      rw [C, e_show_writer_head, beq_int, decide_eq_false h4, bc_false]
      by_cases hk2 : k = 2
      · subst hk2
        have hi2 : decide ((i : Int) < ((encDs sig).length : Int)) = false := by rw [encDs_length]; exact decide_eq_false (by omega)
        rw [beq_int, decide_eq_true rfl, bc_true]
        simp only [e1, e2, hi2]
        rfl
      · rw [beq_int, decide_eq_false hk2, bc_false]
        by_cases hk5 : k = 5
        · subst hk5
          have hi2 : decide ((i : Int) < ((encDs sig).length : Int)) = false := by rw [encDs_length]; exact decide_eq_false (by omega)
          rw [beq_int, decide_eq_true rfl, bc_true]
          simp only [e1, e2, hi2]
          rfl
        · rw [beq_int, decide_eq_false hk5, bc_false]
          rfl
end
end Go.Proofs.SW
