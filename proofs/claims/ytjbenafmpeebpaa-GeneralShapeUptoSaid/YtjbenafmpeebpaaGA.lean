import Derived.Test.YtjbenafmpeebpaaAMa
import Derived.Test.YtjbenafmpeebpaaProg
import Derived.KernelRfl
/- What the abstract machine makes of each function of this program: equations, each checked by the kernel. -/
set_option linter.unusedVariables false
set_option linter.unusedSimpArgs false
set_option linter.unusedSectionVars false
namespace Go.Proofs.G16
open Go Go.AM
def hints : Nat → Option FnHints
  | 2 => some ⟨true, [], [], [], [], []⟩
  | 3 => some ⟨true, [], [], [], [], [(6, .ty 4)]⟩
  | 4 => some ⟨true, [], [(8, 3)], [], [], [(6, .ty 4)]⟩
  | 5 => some ⟨true, [], [], [(11, [(15, .ty 3), (11, .loc 24), (10, .loc 29), (14, .loc 24), (13, .any), (0, .any), (2, .ty 3)])], [(11, [(10, .loc 29), (14, .loc 24), (13, .ty 22), (0, .ty 22), (11, .loc 24), (2, .ty 3)])], [(6, .ty 4)]⟩
  | 6 => some ⟨true, [], [], [], [], [(8, .ty 4)]⟩
  | 7 => some ⟨true, [], [], [], [], [(0, .ty 4)]⟩
  | 8 => some ⟨true, [], [], [(4, [(7, .ty 3), (2, .ty 3), (1, .ty 3), (0, .any)])], [(4, [])], [(6, .ty 4)]⟩
  | 9 => some ⟨true, [], [], [], [], [(6, .ty 4)]⟩
  | 10 => some ⟨true, [26], [], [(12, [(73, .ty 3), (14, .loc 24), (13, .row (some 3)), (6, .locA (some 5)), (7, .locA (some 3)), (12, .loc 24), (72, .ty 3)]), (16, [(81, .ty 3), (13, .row (some 3)), (6, .locA (some 5)), (7, .locA (some 3)), (14, .loc 24), (12, .loc 24), (80, .ty 3)])], [(12, [(13, .row (some 3)), (6, .locA (some 5)), (7, .locA (some 3)), (14, .loc 24), (12, .loc 24)]), (16, [(6, .locA (some 5)), (7, .locA (some 3)), (14, .loc 24), (12, .loc 24), (13, .row (some 3))])], [(6, .locA (some 5)), (7, .locA (some 3)), (8, .ty 30)]⟩
  | 11 => some ⟨true, [], [(11, 1), (11, 3), (11, 4)], [(4, [(11, .ty 3), (10, .ty 4), (0, .any), (6, .locA (some 5)), (7, .locA (some 3)), (9, .loc 29), (2, .ty 3), (4, .loc 24)]), (13, [(6, .locA (some 5)), (7, .locA (some 3)), (9, .loc 29), (16, .ty 3), (15, .grow (some 3)), (14, .loc 24), (13, .any), (2, .ty 3)]), (21, [(18, .ty 3), (17, .loc 24), (6, .locA (some 5)), (7, .locA (some 3)), (14, .loc 24), (15, .grow (some 3)), (13, .any)])], [(4, [(6, .locA (some 5)), (7, .locA (some 3)), (9, .loc 29), (2, .ty 3), (0, .ty 22), (10, .ty 4), (4, .loc 24)]), (13, [(6, .locA (some 5)), (7, .locA (some 3)), (9, .loc 29), (14, .loc 24), (15, .grow (some 3)), (13, .ty 22), (2, .ty 3)]), (21, [(6, .locA (some 5)), (7, .locA (some 3)), (17, .loc 24), (14, .loc 24), (15, .grow (some 3))])], [(6, .locA (some 5)), (7, .locA (some 3)), (8, .ty 30)]⟩
  | 12 => some ⟨true, [], [], [(4, [(5, .ty 3), (1, .any), (0, .any)])], [(4, [])], [(4, .ty 4)]⟩
  | 13 => some ⟨true, [], [], [(4, [(5, .ty 3), (3, .loc 24), (2, .loc 24)])], [(4, [])], [(4, .ty 4)]⟩
  | 14 => some ⟨true, [], [], [], [], [(2, .ty 4)]⟩
  | 15 => some ⟨true, [4, 5], [(6, 4), (6, 0), (6, 6)], [(6, [(5, .any), (4, .any)])], [], [(2, .ty 22), (3, .locA (some 3))]⟩
  | 16 => some ⟨true, [], [], [(4, [(31, .ty 3), (3, .loc 24), (29, .any), (30, .ty 3)])], [(4, [])], [(4, .ty 4)]⟩
  | 17 => some ⟨true, [3], [], [(3, [(3, .any)])], [], [(2, .ty 3)]⟩
  | 18 => some ⟨true, [], [], [(4, [(3, .ty 3), (1, .loc 24)])], [(4, [])], [(2, .ty 4)]⟩
  | 19 => some ⟨true, [], [], [(3, [(4, .ty 3), (1, .loc 24), (3, .ty 3)])], [(3, [(3, .ty 3)])], [(2, .ty 3)]⟩
  | 20 => some ⟨true, [], [], [(3, [(4, .ty 3), (3, .ty 3), (1, .loc 24)])], [(3, [(3, .ty 3)])], [(2, .ty 3)]⟩
  | 21 => some ⟨true, [], [], [], [], [(2, .ty 4)]⟩
  | 22 => some ⟨true, [], [], [], [], [(2, .ty 4)]⟩
  | 23 => some ⟨false, [], [], [], [], [(4, .ty 4)]⟩
  | 24 => some ⟨true, [], [(6, 8), (6, 1), (6, 10), (2, 3), (2, 1)], [(4, [(11, .ty 3), (3, .dloc (some 2) [.grow (some 3), .ct .int]), (0, .ty 3), (2, .locA (some 2)), (10, .ty 3)])], [(4, [(2, .locA (some 2)), (3, .dloc (some 2) [.grow (some 3), .ct .int])])], [(2, .locA (some 2))]⟩
  | 25 => some ⟨true, [], [(5, 4), (5, 0), (5, 5)], [(3, [(9, .ty 3), (3, .grow (some 3)), (7, .any), (2, .locA (some 3)), (1, .loc 24), (8, .ty 3)])], [(3, [(2, .locA (some 3)), (3, .grow (some 3)), (1, .loc 24)])], [(2, .locA (some 3))]⟩
  | 26 => some ⟨true, [], [], [], [], [(2, .ty 4)]⟩
  | 27 => some ⟨true, [], [(3, 6), (3, 0), (3, 7)], [(2, [(1, .loc 24), (4, .grow (some 3)), (3, .locA (some 3))])], [(2, [(3, .locA (some 3)), (1, .loc 24), (4, .grow (some 3))])], [(2, .ty 22), (3, .locA (some 3))]⟩
  | 28 => some ⟨true, [], [(9, 5), (9, 1), (9, 7), (5, 3), (5, 1)], [(7, [(4, .ty 3), (3, .dloc (some 2) [.grow (some 3), .ct .int]), (2, .locA (some 2))])], [(7, [(2, .locA (some 2)), (3, .dloc (some 2) [.grow (some 3), .ct .int])])], [(2, .locA (some 2))]⟩
  | 29 => some ⟨true, [], [], [(3, [(9, .ty 3), (3, .ty 3), (7, .any), (8, .ty 3)])], [(3, [(3, .ty 3)])], [(2, .ty 3)]⟩
  | 30 => some ⟨false, [4], [], [(4, [(4, .any), (3, .any)])], [], [(4, .any)]⟩
  | 31 => some ⟨true, [], [], [], [], [(4, .ty 4)]⟩
  | 32 => some ⟨true, [], [], [], [], [(2, .ty 4)]⟩
  | 33 => some ⟨false, [1], [], [], [], [(2, .any)]⟩
  | 34 => some ⟨false, [], [], [], [], [(2, .any)]⟩
  | 35 => some ⟨false, [], [], [(2, [(8, .ty 3), (0, .any), (1, .any), (7, .ty 3)])], [(2, [])], [(4, .ty 3)]⟩
  | 36 => some ⟨true, [], [], [(19, [(3, .ty 3), (1, .loc 24)])], [(19, [])], [(2, .ty 4)]⟩
  | 37 => some ⟨false, [], [], [(0, [(1, .any), (0, .any)])], [(0, [])], []⟩
  | 38 => some ⟨false, [], [], [], [], []⟩
  | 39 => some ⟨false, [], [], [(4, [(18, .ty 3), (2, .any), (3, .loc 24), (1, .ty 3), (16, .any), (17, .ty 3)])], [(4, [])], [(6, .ty 4)]⟩
  | 40 => some ⟨true, [], [], [], [], [(2, .ty 4)]⟩
  | _ => none

def cfg : Cfg := Cfg.of hints [] []
end Go.Proofs.G16

namespace Go.Proofs.G16
open Go Go.AM
set_option maxRecDepth 20000

theorem e_low (O : Oracle) (k h : Int) (xs : List V) : callBody Try.prog cfg O 18 [.agg [.int k, .int h, .vec .plain (some 3) xs]] [] =
    bc (decide (h > 1099511627776)) (some (Out.ret (V.bool false), []))
      (obind (O.loop 18 4 [V.int 0, V.loc false (some 3) (V.agg [V.int k, V.int h, V.vec AM.Mode.plain (some 3) xs])] [])
        fun r1 =>
        onEx r1.fst none (onCons r1.snd.fst fun v2 c3 => onBool v2 fun b4 => onNil c3 (some (Out.ret (V.bool b4), [])))
          (fun i5 => bc (i5.beq 0) (onNil r1.snd.fst (some (Out.ret (V.bool true), []))) none) fun v6 => none) := by kernel_rfl

theorem e_lowL (O : Oracle) (i k h : Int) (xs : List V) : loopBody Try.prog cfg O 18 4 [.int i, .loc false (some 3) (.agg [.int k, .int h, .vec .plain (some 3) xs])] [] =
    bc (decide (i < (↑xs.length : Int)))
      (gd (decide (0 ≤ i) && decide (i < (↑xs.length : Int)))
        (onStruct [CT.int, CT.int, CT.slice (some 3)] (getI xs i) fun n1 n2 l3 =>
          obind (pcall O 18 [V.agg [V.int n1, V.int n2, V.vec AM.Mode.plain (some 3) l3]]) fun r4 =>
            onBool r4 fun b5 =>
              bc (!b5) (some (Ex.ret, [V.bool false], []))
                (O.2 18 4
                  [V.int (IntKind.i64.wrap (i + 1)),
                    V.loc false (some 3) (V.agg [V.int k, V.int h, V.vec AM.Mode.plain (some 3) xs])]
                  [])))
      (some (Ex.exit 0, [], [])) := by kernel_rfl

theorem e_size (O : Oracle) (k h : Int) (xs : List V) : callBody Try.prog cfg O 19 [.agg [.int k, .int h, .vec .plain (some 3) xs]] [] =
    obind
      (O.loop 19 3 [V.int 0, V.loc false (some 3) (V.agg [V.int k, V.int h, V.vec AM.Mode.plain (some 3) xs]), V.int 1] [])
      fun r1 =>
      onEx r1.fst none none
        (fun i2 =>
          bc (i2.beq 0) (onCons r1.snd.fst fun v3 c4 => onInt v3 fun n5 => onNil c4 (some (Out.ret (V.int n5), []))) none)
        fun v6 => none := by kernel_rfl

theorem e_sizeL (O : Oracle) (i k h n : Int) (xs : List V) : loopBody Try.prog cfg O 19 3 [.int i, .loc false (some 3) (.agg [.int k, .int h, .vec .plain (some 3) xs]), .int n] [] =
    bc (decide (i < (↑xs.length : Int)))
      (gd (decide (0 ≤ i) && decide (i < (↑xs.length : Int)))
        (onStruct [CT.int, CT.int, CT.slice (some 3)] (getI xs i) fun n1 n2 l3 =>
          obind (pcall O 19 [V.agg [V.int n1, V.int n2, V.vec AM.Mode.plain (some 3) l3]]) fun r4 =>
            onInt r4 fun n5 =>
              O.2 19 3
                [V.int (IntKind.i64.wrap (i + 1)),
                  V.loc false (some 3) (V.agg [V.int k, V.int h, V.vec AM.Mode.plain (some 3) xs]),
                  V.int (IntKind.i64.wrap (n + n5))]
                []))
      (some (Ex.exit 0, [V.int n], [])) := by kernel_rfl

theorem e_depth (O : Oracle) (k h : Int) (xs : List V) : callBody Try.prog cfg O 20 [.agg [.int k, .int h, .vec .plain (some 3) xs]] [] =
    obind
      (O.loop 20 3 [V.int 0, V.int 0, V.loc false (some 3) (V.agg [V.int k, V.int h, V.vec AM.Mode.plain (some 3) xs])] [])
      fun r1 =>
      onEx r1.fst none none
        (fun i2 =>
          bc (i2.beq 0)
            (onCons r1.snd.fst fun v3 c4 =>
              onInt v3 fun n5 => onNil c4 (some (Out.ret (V.int (IntKind.i64.wrap (n5 + 1))), [])))
            none)
        fun v6 => none := by kernel_rfl

theorem e_depthL (O : Oracle) (i k h n : Int) (xs : List V) : loopBody Try.prog cfg O 20 3 [.int i, .int n, .loc false (some 3) (.agg [.int k, .int h, .vec .plain (some 3) xs])] [] =
    bc (decide (i < (↑xs.length : Int)))
      (gd (decide (0 ≤ i) && decide (i < (↑xs.length : Int)))
        (onStruct [CT.int, CT.int, CT.slice (some 3)] (getI xs i) fun n1 n2 l3 =>
          obind (pcall O 20 [V.agg [V.int n1, V.int n2, V.vec AM.Mode.plain (some 3) l3]]) fun r4 =>
            onInt r4 fun n5 =>
              bc (decide (n5 > n))
                (O.2 20 3
                  [V.int (IntKind.i64.wrap (i + 1)), V.int n5,
                    V.loc false (some 3) (V.agg [V.int k, V.int h, V.vec AM.Mode.plain (some 3) xs])]
                  [])
                (O.2 20 3
                  [V.int (IntKind.i64.wrap (i + 1)), V.int n,
                    V.loc false (some 3) (V.agg [V.int k, V.int h, V.vec AM.Mode.plain (some 3) xs])]
                  [])))
      (some (Ex.exit 0, [V.int n], [])) := by kernel_rfl

theorem e_rnodes (O : Oracle) (k h : Int) (xs : List V) : callBody Try.prog cfg O 36 [.agg [.int k, .int h, .vec .plain (some 3) xs]] [] =
    bc (k == 0)
      (bc (h != 0) (some (Out.ret (V.bool false), []))
        (bc ((↑xs.length : Int) != 0) (some (Out.ret (V.bool false), []))
          (obind
            (O.loop 36 19 [V.int 0, V.loc false (some 3) (V.agg [V.int k, V.int h, V.vec AM.Mode.plain (some 3) xs])] [])
            fun r1 =>
            onEx r1.fst none (onCons r1.snd.fst fun v2 c3 => onBool v2 fun b4 => onNil c3 (some (Out.ret (V.bool b4), [])))
              (fun i5 => bc (i5.beq 1) (onNil r1.snd.fst (some (Out.ret (V.bool true), []))) none) fun v6 => none)))
      (bc (k == 1)
        (bc (h != 0) (some (Out.ret (V.bool false), []))
          (bc ((↑xs.length : Int) != 2) (some (Out.ret (V.bool false), []))
            (obind
              (O.loop 36 19 [V.int 0, V.loc false (some 3) (V.agg [V.int k, V.int h, V.vec AM.Mode.plain (some 3) xs])] [])
              fun r7 =>
              onEx r7.fst none
                (onCons r7.snd.fst fun v8 c9 => onBool v8 fun b10 => onNil c9 (some (Out.ret (V.bool b10), [])))
                (fun i11 => bc (i11.beq 1) (onNil r7.snd.fst (some (Out.ret (V.bool true), []))) none) fun v12 => none)))
        (bc (k == 3)
          (bc (h != 0) (some (Out.ret (V.bool false), []))
            (bc ((↑xs.length : Int) != 1) (some (Out.ret (V.bool false), []))
              (obind
                (O.loop 36 19 [V.int 0, V.loc false (some 3) (V.agg [V.int k, V.int h, V.vec AM.Mode.plain (some 3) xs])]
                  [])
                fun r13 =>
                onEx r13.fst none
                  (onCons r13.snd.fst fun v14 c15 => onBool v14 fun b16 => onNil c15 (some (Out.ret (V.bool b16), [])))
                  (fun i17 => bc (i17.beq 1) (onNil r13.snd.fst (some (Out.ret (V.bool true), []))) none) fun v18 => none)))
          (bc (k == 2)
            (bc (decide (h < 0)) (some (Out.ret (V.bool false), []))
              (obind
                (O.loop 36 19 [V.int 0, V.loc false (some 3) (V.agg [V.int k, V.int h, V.vec AM.Mode.plain (some 3) xs])]
                  [])
                fun r19 =>
                onEx r19.fst none
                  (onCons r19.snd.fst fun v20 c21 => onBool v20 fun b22 => onNil c21 (some (Out.ret (V.bool b22), [])))
                  (fun i23 => bc (i23.beq 1) (onNil r19.snd.fst (some (Out.ret (V.bool true), []))) none) fun v24 => none))
            (bc (k == 4)
              (bc (decide (h < 0)) (some (Out.ret (V.bool false), []))
                (obind
                  (O.loop 36 19 [V.int 0, V.loc false (some 3) (V.agg [V.int k, V.int h, V.vec AM.Mode.plain (some 3) xs])]
                    [])
                  fun r25 =>
                  onEx r25.fst none
                    (onCons r25.snd.fst fun v26 c27 => onBool v26 fun b28 => onNil c27 (some (Out.ret (V.bool b28), [])))
                    (fun i29 => bc (i29.beq 1) (onNil r25.snd.fst (some (Out.ret (V.bool true), []))) none) fun v30 =>
                    none))
              (bc (k == 5)
                (bc (decide (h < 0)) (some (Out.ret (V.bool false), []))
                  (obind
                    (O.loop 36 19
                      [V.int 0, V.loc false (some 3) (V.agg [V.int k, V.int h, V.vec AM.Mode.plain (some 3) xs])] [])
                    fun r31 =>
                    onEx r31.fst none
                      (onCons r31.snd.fst fun v32 c33 => onBool v32 fun b34 => onNil c33 (some (Out.ret (V.bool b34), [])))
                      (fun i35 => bc (i35.beq 1) (onNil r31.snd.fst (some (Out.ret (V.bool true), []))) none) fun v36 =>
                      none))
                (bc (k == 6)
                  (bc (decide (h < 0)) (some (Out.ret (V.bool false), []))
                    (obind
                      (O.loop 36 19
                        [V.int 0, V.loc false (some 3) (V.agg [V.int k, V.int h, V.vec AM.Mode.plain (some 3) xs])] [])
                      fun r37 =>
                      onEx r37.fst none
                        (onCons r37.snd.fst fun v38 c39 =>
                          onBool v38 fun b40 => onNil c39 (some (Out.ret (V.bool b40), [])))
                        (fun i41 => bc (i41.beq 1) (onNil r37.snd.fst (some (Out.ret (V.bool true), []))) none) fun v42 =>
                        none))
                  (some (Out.ret (V.bool false), [])))))))) := by kernel_rfl

theorem e_rnodesL (O : Oracle) (i k h : Int) (xs : List V) : loopBody Try.prog cfg O 36 19 [.int i, .loc false (some 3) (.agg [.int k, .int h, .vec .plain (some 3) xs])] [] =
    bc (decide (i < (↑xs.length : Int)))
      (gd (decide (0 ≤ i) && decide (i < (↑xs.length : Int)))
        (onStruct [CT.int, CT.int, CT.slice (some 3)] (getI xs i) fun n1 n2 l3 =>
          obind (pcall O 36 [V.agg [V.int n1, V.int n2, V.vec AM.Mode.plain (some 3) l3]]) fun r4 =>
            onBool r4 fun b5 =>
              bc (!b5) (some (Ex.ret, [V.bool false], []))
                (O.2 36 19
                  [V.int (IntKind.i64.wrap (i + 1)),
                    V.loc false (some 3) (V.agg [V.int k, V.int h, V.vec AM.Mode.plain (some 3) xs])]
                  [])))
      (some (Ex.exit 1, [], [])) := by kernel_rfl

theorem e_rmay (O : Oracle) (k h : Int) (xs : List V) : callBody Try.prog cfg O 26 [.agg [.int k, .int h, .vec .plain (some 3) xs]] [] =
    obind (pcall O 36 [V.agg [V.int k, V.int h, V.vec AM.Mode.plain (some 3) xs]]) fun r1 =>
      onBool r1 fun b2 =>
        bc b2
          (obind (pcall O 19 [V.agg [V.int k, V.int h, V.vec AM.Mode.plain (some 3) xs]]) fun r3 =>
            onInt r3 fun n4 =>
              bc (decide (n4 ≤ 4000))
                (obind (pcall O 20 [V.agg [V.int k, V.int h, V.vec AM.Mode.plain (some 3) xs]]) fun r5 =>
                  onInt r5 fun n6 => some (Out.ret (V.bool (decide (n6 ≤ 60))), []))
                (some (Out.ret (V.bool false), [])))
          (some (Out.ret (V.bool false), [])) := by kernel_rfl

theorem e_rsame (O : Oracle) (k h k2 h2 : Int) (xs ys : List V) : callBody Try.prog cfg O 13 [.agg [.int k, .int h, .vec .plain (some 3) xs], .agg [.int k2, .int h2, .vec .plain (some 3) ys]] [] =
    bc (k != k2) (some (Out.ret (V.bool false), []))
      (bc (h != h2) (some (Out.ret (V.bool false), []))
        (bc ((↑xs.length : Int) != (↑ys.length : Int)) (some (Out.ret (V.bool false), []))
          (obind
            (O.loop 13 4
              [V.int 0, V.loc false (some 3) (V.agg [V.int k2, V.int h2, V.vec AM.Mode.plain (some 3) ys]),
                V.loc false (some 3) (V.agg [V.int k, V.int h, V.vec AM.Mode.plain (some 3) xs])]
              [])
            fun r1 =>
            onEx r1.fst none (onCons r1.snd.fst fun v2 c3 => onBool v2 fun b4 => onNil c3 (some (Out.ret (V.bool b4), [])))
              (fun i5 => bc (i5.beq 0) (onNil r1.snd.fst (some (Out.ret (V.bool true), []))) none) fun v6 => none))) := by kernel_rfl

theorem e_rsameL (O : Oracle) (i k h k2 h2 : Int) (xs ys : List V) : loopBody Try.prog cfg O 13 4 [.int i, .loc false (some 3) (.agg [.int k2, .int h2, .vec .plain (some 3) ys]), .loc false (some 3) (.agg [.int k, .int h, .vec .plain (some 3) xs])] [] =
    bc (decide (i < (↑xs.length : Int)))
      (gd (decide (0 ≤ i) && decide (i < (↑xs.length : Int)))
        (onStruct [CT.int, CT.int, CT.slice (some 3)] (getI xs i) fun n1 n2 l3 =>
          gd (decide (0 ≤ i) && decide (i < (↑ys.length : Int)))
            (onStruct [CT.int, CT.int, CT.slice (some 3)] (getI ys i) fun n4 n5 l6 =>
              obind
                (pcall O 13
                  [V.agg [V.int n1, V.int n2, V.vec AM.Mode.plain (some 3) l3],
                    V.agg [V.int n4, V.int n5, V.vec AM.Mode.plain (some 3) l6]])
                fun r7 =>
                onBool r7 fun b8 =>
                  bc (!b8) (some (Ex.ret, [V.bool false], []))
                    (O.2 13 4
                      [V.int (IntKind.i64.wrap (i + 1)),
                        V.loc false (some 3) (V.agg [V.int k2, V.int h2, V.vec AM.Mode.plain (some 3) ys]),
                        V.loc false (some 3) (V.agg [V.int k, V.int h, V.vec AM.Mode.plain (some 3) xs])]
                      []))))
      (some (Ex.exit 0, [], [])) := by kernel_rfl

theorem e_rlist (O : Oracle) (xs ys : List V) : callBody Try.prog cfg O 12 [.vec .plain (some 3) xs, .vec .plain (some 3) ys] [] =
    bc ((↑xs.length : Int) != (↑ys.length : Int)) (some (Out.ret (V.bool false), []))
      (obind (O.loop 12 4 [V.int 0, V.vec AM.Mode.plain (some 3) ys, V.vec AM.Mode.plain (some 3) xs] []) fun r1 =>
        onEx r1.fst none (onCons r1.snd.fst fun v2 c3 => onBool v2 fun b4 => onNil c3 (some (Out.ret (V.bool b4), [])))
          (fun i5 => bc (i5.beq 0) (onNil r1.snd.fst (some (Out.ret (V.bool true), []))) none) fun v6 => none) := by kernel_rfl

theorem e_rlistL (O : Oracle) (i : Int) (xs ys : List V) : loopBody Try.prog cfg O 12 4 [.int i, .vec .plain (some 3) ys, .vec .plain (some 3) xs] [] =
    bc (decide (i < (↑xs.length : Int)))
      (gd (decide (0 ≤ i) && decide (i < (↑xs.length : Int)))
        (onStruct [CT.int, CT.int, CT.slice (some 3)] (getI xs i) fun n1 n2 l3 =>
          gd (decide (0 ≤ i) && decide (i < (↑ys.length : Int)))
            (onStruct [CT.int, CT.int, CT.slice (some 3)] (getI ys i) fun n4 n5 l6 =>
              obind
                (pcall O 13
                  [V.agg [V.int n1, V.int n2, V.vec AM.Mode.plain (some 3) l3],
                    V.agg [V.int n4, V.int n5, V.vec AM.Mode.plain (some 3) l6]])
                fun r7 =>
                onBool r7 fun b8 =>
                  bc (!b8) (some (Ex.ret, [V.bool false], []))
                    (O.2 12 4
                      [V.int (IntKind.i64.wrap (i + 1)), V.vec AM.Mode.plain (some 3) ys, V.vec AM.Mode.plain (some 3) xs]
                      []))))
      (some (Ex.exit 0, [], [])) := by kernel_rfl

theorem e_light (O : Oracle) (k h n m : Int) (xs : List V) : callBody Try.prog cfg O 9 [.agg [.int k, .int h, .vec .plain (some 3) xs], .int n, .int m] [] =
    obind (pcall O 18 [V.agg [V.int k, V.int h, V.vec AM.Mode.plain (some 3) xs]]) fun r1 =>
      onBool r1 fun b2 =>
        bc b2
          (obind (pcall O 19 [V.agg [V.int k, V.int h, V.vec AM.Mode.plain (some 3) xs]]) fun r3 =>
            onInt r3 fun n4 =>
              bc (decide (n4 ≤ n))
                (obind (pcall O 20 [V.agg [V.int k, V.int h, V.vec AM.Mode.plain (some 3) xs]]) fun r5 =>
                  onInt r5 fun n6 => some (Out.ret (V.bool (decide (n6 ≤ m))), []))
                (some (Out.ret (V.bool false), [])))
          (some (Out.ret (V.bool false), [])) := by kernel_rfl

theorem e_lights (O : Oracle) (n m : Int) (xs : List V) : callBody Try.prog cfg O 8 [.vec .plain (some 3) xs, .int n, .int m] [] =
    bc (decide ((↑xs.length : Int) > 60)) (some (Out.ret (V.bool false), []))
      (obind (O.loop 8 4 [V.int 0, V.int m, V.int n, V.vec AM.Mode.plain (some 3) xs] []) fun r1 =>
        onEx r1.fst none (onCons r1.snd.fst fun v2 c3 => onBool v2 fun b4 => onNil c3 (some (Out.ret (V.bool b4), [])))
          (fun i5 => bc (i5.beq 0) (onNil r1.snd.fst (some (Out.ret (V.bool true), []))) none) fun v6 => none) := by kernel_rfl

theorem e_lightsL (O : Oracle) (i n m : Int) (xs : List V) : loopBody Try.prog cfg O 8 4 [.int i, .int m, .int n, .vec .plain (some 3) xs] [] =
    bc (decide (i < (↑xs.length : Int)))
      (gd (decide (0 ≤ i) && decide (i < (↑xs.length : Int)))
        (onStruct [CT.int, CT.int, CT.slice (some 3)] (getI xs i) fun n1 n2 l3 =>
          obind (pcall O 9 [V.agg [V.int n1, V.int n2, V.vec AM.Mode.plain (some 3) l3], V.int n, V.int m]) fun r4 =>
            onBool r4 fun b5 =>
              bc (!b5) (some (Ex.ret, [V.bool false], []))
                (O.2 8 4 [V.int (IntKind.i64.wrap (i + 1)), V.int m, V.int n, V.vec AM.Mode.plain (some 3) xs] [])))
      (some (Ex.exit 0, [], [])) := by kernel_rfl

theorem e_rsplit (O : Oracle) (k h : Int) (xs : List V) : callBody Try.prog cfg O 27 [.agg [.int k, .int h, .vec .plain (some 3) xs]] [] =
    obind
      (O.loop 27 2
        [V.loc false (some 3) (V.agg [V.int k, V.int h, V.vec AM.Mode.plain (some 3) xs]), V.vec Mode.grow (some 3) [],
          V.loc true (some 3) (V.agg [V.int 0, V.int 0, V.vec Mode.full (some 3) []])]
        [])
      fun r1 =>
      onEx r1.fst none none
        (fun i2 =>
          bc (i2.beq 0)
            (onCons r1.snd.fst fun v3 c4 =>
              onLoc (some 3) v3 fun d5 v6 =>
                onCons c4 fun v7 c8 =>
                  onLoc (some 3) v7 fun d9 v10 =>
                    onStruct [CT.int, CT.int, CT.slice (some 3)] (bif d9 then cleanV v10 else v10) fun n11 n12 l13 =>
                      onCons c8 fun v14 c15 =>
                        onRoom (some 3) v14 fun l16 =>
                          onNil c15
                            (gd
                              (below 0
                                  (V.tup
                                    [V.vec AM.Mode.plain (some 3) l16,
                                      V.agg [V.int n11, V.int n12, V.vec AM.Mode.plain (some 3) l13]]) &&
                                belowSt 0 [])
                              (some
                                (Out.ret
                                    (V.tup
                                      [V.vec AM.Mode.plain (some 3) l16,
                                        V.agg [V.int n11, V.int n12, V.vec AM.Mode.plain (some 3) l13]]),
                                  []))))
            none)
        fun v17 => none := by kernel_rfl

theorem e_rsplitL (O : Oracle) (k h k2 h2 : Int) (xs ys zs : List V) : loopBody Try.prog cfg O 27 2 [.loc false (some 3) (.agg [.int k, .int h, .vec .plain (some 3) xs]), .vec .grow (some 3) zs, .loc true (some 3) (.agg [.int k2, .int h2, .vec .full (some 3) ys])] [] =
    bc (k == 1)
      (bc ((↑xs.length : Int) == 2)
        (gd (true && decide (0 < (↑xs.length : Int)))
          (onStruct [CT.int, CT.int, CT.slice (some 3)] (getI xs 0) fun n1 n2 l3 =>
            gd
              (true &&
                roomFor Try.prog 24 (zs.length + [V.agg [V.int n1, V.int n2, V.vec AM.Mode.plain (some 3) l3]].length))
              (gd (true && decide (1 < (↑xs.length : Int)))
                (onStruct [CT.int, CT.int, CT.slice (some 3)] (getI xs 1) fun n4 n5 l6 =>
                  O.2 27 2
                    [V.loc false (some 3) (V.agg [V.int n4, V.int n5, V.vec AM.Mode.plain (some 3) l6]),
                      V.vec Mode.grow (some 3) (zs ++ [V.agg [V.int n1, V.int n2, V.vec AM.Mode.plain (some 3) l3]]),
                      V.loc true (some 3) (V.agg [V.int k2, V.int h2, V.vec Mode.full (some 3) ys])]
                    []))))
        (some
          (Ex.exit 0,
            [V.loc true (some 3) (V.agg [V.int k2, V.int h2, V.vec Mode.full (some 3) ys]),
              V.loc false (some 3) (V.agg [V.int k, V.int h, V.vec AM.Mode.plain (some 3) xs]),
              V.vec Mode.grow (some 3) zs],
            [])))
      (some
        (Ex.exit 0,
          [V.loc true (some 3) (V.agg [V.int k2, V.int h2, V.vec Mode.full (some 3) ys]),
            V.loc false (some 3) (V.agg [V.int k, V.int h, V.vec AM.Mode.plain (some 3) xs]), V.vec Mode.grow (some 3) zs],
          [])) := by kernel_rfl

theorem e_rsubst (O : Oracle) (n : Int) : callBody Try.prog cfg O 28 [.int n] [] =
    bc (decide (n < 0))
      (obind
        (O.loop 28 7
          [V.int (-1), V.loc true (some 2) (V.agg [V.vec Mode.grow (some 3) [], V.int 0]),
            V.loc true (some 2) (V.agg [V.vec Mode.full (some 3) [], V.int 0])]
          [])
        fun r1 =>
        onEx r1.fst none none
          (fun i2 =>
            bc (i2.beq 0)
              (onCons r1.snd.fst fun v3 c4 =>
                onLoc (some 2) v3 fun d5 v6 =>
                  onCons c4 fun v7 c8 =>
                    onLoc (some 2) v7 fun d9 v10 =>
                      onAgg v10 fun c11 =>
                        onCons c11 fun v12 c13 =>
                          onRoom (some 3) v12 fun l14 =>
                            onCons c13 fun v15 c16 =>
                              onInt v15 fun n17 =>
                                onNil c16
                                  (onNil c8
                                    (gd (below 0 (V.agg [V.vec AM.Mode.plain (some 3) l14, V.int n17]) && belowSt 0 [])
                                      (some (Out.ret (V.agg [V.vec AM.Mode.plain (some 3) l14, V.int n17]), [])))))
              none)
          fun v18 => none)
      (bc (decide (n > 200))
        (obind
          (O.loop 28 7
            [V.int 199, V.loc true (some 2) (V.agg [V.vec Mode.grow (some 3) [], V.int 200]),
              V.loc true (some 2) (V.agg [V.vec Mode.full (some 3) [], V.int 0])]
            [])
          fun r19 =>
          onEx r19.fst none none
            (fun i20 =>
              bc (i20.beq 0)
                (onCons r19.snd.fst fun v21 c22 =>
                  onLoc (some 2) v21 fun d23 v24 =>
                    onCons c22 fun v25 c26 =>
                      onLoc (some 2) v25 fun d27 v28 =>
                        onAgg v28 fun c29 =>
                          onCons c29 fun v30 c31 =>
                            onRoom (some 3) v30 fun l32 =>
                              onCons c31 fun v33 c34 =>
                                onInt v33 fun n35 =>
                                  onNil c34
                                    (onNil c26
                                      (gd (below 0 (V.agg [V.vec AM.Mode.plain (some 3) l32, V.int n35]) && belowSt 0 [])
                                        (some (Out.ret (V.agg [V.vec AM.Mode.plain (some 3) l32, V.int n35]), [])))))
                none)
            fun v36 => none)
        (obind
          (O.loop 28 7
            [V.int (IntKind.i64.wrap (n - 1)), V.loc true (some 2) (V.agg [V.vec Mode.grow (some 3) [], V.int n]),
              V.loc true (some 2) (V.agg [V.vec Mode.full (some 3) [], V.int 0])]
            [])
          fun r37 =>
          onEx r37.fst none none
            (fun i38 =>
              bc (i38.beq 0)
                (onCons r37.snd.fst fun v39 c40 =>
                  onLoc (some 2) v39 fun d41 v42 =>
                    onCons c40 fun v43 c44 =>
                      onLoc (some 2) v43 fun d45 v46 =>
                        onAgg v46 fun c47 =>
                          onCons c47 fun v48 c49 =>
                            onRoom (some 3) v48 fun l50 =>
                              onCons c49 fun v51 c52 =>
                                onInt v51 fun n53 =>
                                  onNil c52
                                    (onNil c44
                                      (gd (below 0 (V.agg [V.vec AM.Mode.plain (some 3) l50, V.int n53]) && belowSt 0 [])
                                        (some (Out.ret (V.agg [V.vec AM.Mode.plain (some 3) l50, V.int n53]), [])))))
                none)
            fun v54 => none)) := by kernel_rfl

theorem e_rsubstL (O : Oracle) (i n : Int) (zs ws : List V) : loopBody Try.prog cfg O 28 7 [.int i, .loc true (some 2) (.agg [.vec .grow (some 3) zs, .int n]), .loc true (some 2) (.agg ws)] [] =
    bc (decide (i ≥ 0))
      (gd (true && roomFor Try.prog 24 (zs.length + [V.agg [V.int 4, V.int i, V.vec AM.Mode.plain (some 3) []]].length))
        (O.2 28 7
          [V.int (IntKind.i64.wrap (i - 1)),
            V.loc true (some 2)
              (V.agg
                [V.vec Mode.grow (some 3) (zs ++ [V.agg [V.int 4, V.int i, V.vec AM.Mode.plain (some 3) []]]), V.int n]),
            V.loc true (some 2) (V.agg ws)]
          []))
      (some
        (Ex.exit 0, [V.loc true (some 2) (V.agg ws), V.loc true (some 2) (V.agg [V.vec Mode.grow (some 3) zs, V.int n])],
          [])) := by kernel_rfl

theorem e_psubst (O : Oracle) (n : Int) : callBody Try.prog cfg O 24 [.int n] [] =
    obind
      (O.loop 24 4
        [V.int 0,
          V.loc true (some 2)
            (V.agg
              [V.vec Mode.grow (some 3) [], V.int (if 200 < if 0 > n then 0 else n then 200 else if 0 > n then 0 else n)]),
          V.int (if 200 < if 0 > n then 0 else n then 200 else if 0 > n then 0 else n),
          V.loc true (some 2) (V.agg [V.vec Mode.full (some 3) [], V.int 0]),
          V.int (if 200 < if 0 > n then 0 else n then 200 else if 0 > n then 0 else n)]
        [])
      fun r1 =>
      onEx r1.fst none none
        (fun i2 =>
          bc (i2.beq 0)
            (onCons r1.snd.fst fun v3 c4 =>
              onLoc (some 2) v3 fun d5 v6 =>
                onCons c4 fun v7 c8 =>
                  onLoc (some 2) v7 fun d9 v10 =>
                    onAgg v10 fun c11 =>
                      onCons c11 fun v12 c13 =>
                        onRoom (some 3) v12 fun l14 =>
                          onCons c13 fun v15 c16 =>
                            onInt v15 fun n17 =>
                              onNil c16
                                (onNil c8
                                  (gd (below 0 (V.agg [V.vec AM.Mode.plain (some 3) l14, V.int n17]) && belowSt 0 [])
                                    (some (Out.ret (V.agg [V.vec AM.Mode.plain (some 3) l14, V.int n17]), [])))))
            none)
        fun v18 => none := by kernel_rfl

theorem e_psubstL (O : Oracle) (i n m j : Int) (zs ws : List V) : loopBody Try.prog cfg O 24 4 [.int i, .loc true (some 2) (.agg [.vec .grow (some 3) zs, .int m]), .int n, .loc true (some 2) (.agg ws), .int j] [] =
    bc (decide (i < j))
      (gd
        (true &&
          roomFor Try.prog 24
            (zs.length +
              [V.agg
                    [V.int 4, V.int (IntKind.i64.wrap (IntKind.i64.wrap (n - 1) - i)),
                      V.vec AM.Mode.plain (some 3) []]].length))
        (O.2 24 4
          [V.int (IntKind.i64.wrap (i + 1)),
            V.loc true (some 2)
              (V.agg
                [V.vec Mode.grow (some 3)
                    (zs ++
                      [V.agg
                          [V.int 4, V.int (IntKind.i64.wrap (IntKind.i64.wrap (n - 1) - i)),
                            V.vec AM.Mode.plain (some 3) []]]),
                  V.int m]),
            V.int n, V.loc true (some 2) (V.agg ws), V.int j]
          []))
      (some
        (Ex.exit 0, [V.loc true (some 2) (V.agg ws), V.loc true (some 2) (V.agg [V.vec Mode.grow (some 3) zs, V.int m])],
          [])) := by kernel_rfl

theorem e_psame (O : Oracle) (k h k2 h2 : Int) (xs ys : List V) : callBody Try.prog cfg O 16 [.agg [.int k, .int h, .vec .plain (some 3) xs], .agg [.int k2, .int h2, .vec .plain (some 3) ys]] [] =
    bc (k != k2) (some (Out.ret (V.bool false), []))
      (bc (h != h2) (some (Out.ret (V.bool false), []))
        (bc ((↑xs.length : Int) != (↑ys.length : Int)) (some (Out.ret (V.bool false), []))
          (obind
            (O.loop 16 4
              [V.int 0, V.loc false (some 3) (V.agg [V.int k2, V.int h2, V.vec AM.Mode.plain (some 3) ys]),
                V.vec AM.Mode.plain (some 3) xs, V.int (↑xs.length : Int)]
              [])
            fun r1 =>
            onEx r1.fst none (onCons r1.snd.fst fun v2 c3 => onBool v2 fun b4 => onNil c3 (some (Out.ret (V.bool b4), [])))
              (fun i5 => bc (i5.beq 0) (onNil r1.snd.fst (some (Out.ret (V.bool true), []))) none) fun v6 => none))) := by kernel_rfl

theorem e_psameL (O : Oracle) (i n k h : Int) (xs ys : List V) : loopBody Try.prog cfg O 16 4 [.int i, .loc false (some 3) (.agg [.int k, .int h, .vec .plain (some 3) ys]), .vec .plain (some 3) xs, .int n] [] =
    bc (decide (i < n))
      (gd (decide (0 ≤ i) && decide (i < (↑xs.length : Int)))
        (onStruct [CT.int, CT.int, CT.slice (some 3)] (getI xs i) fun n1 n2 l3 =>
          gd (decide (0 ≤ i) && decide (i < (↑ys.length : Int)))
            (onStruct [CT.int, CT.int, CT.slice (some 3)] (getI ys i) fun n4 n5 l6 =>
              obind
                (pcall O 16
                  [V.agg [V.int n1, V.int n2, V.vec AM.Mode.plain (some 3) l3],
                    V.agg [V.int n4, V.int n5, V.vec AM.Mode.plain (some 3) l6]])
                fun r7 =>
                onBool r7 fun b8 =>
                  bc (!b8) (some (Ex.ret, [V.bool false], []))
                    (O.2 16 4
                      [V.int (IntKind.i64.wrap (i + 1)),
                        V.loc false (some 3) (V.agg [V.int k, V.int h, V.vec AM.Mode.plain (some 3) ys]),
                        V.vec AM.Mode.plain (some 3) xs, V.int n]
                      []))))
      (some (Ex.exit 0, [], [])) := by kernel_rfl

theorem e_pown (O : Oracle) (k h : Int) (xs : List V) : callBody Try.prog cfg O 25 [.agg [.int k, .int h, .vec .plain (some 3) xs]] [] =
    obind
      (O.loop 25 3
        [V.int 0, V.vec Mode.grow (some 3) [], V.vec AM.Mode.plain (some 3) xs,
          V.loc true (some 3) (V.agg [V.int 0, V.int 0, V.vec Mode.full (some 3) []]),
          V.loc false (some 3) (V.agg [V.int k, V.int h, V.vec AM.Mode.plain (some 3) xs]), V.int (↑xs.length : Int)]
        [])
      fun r1 =>
      onEx r1.fst none none
        (fun i2 =>
          bc (i2.beq 0)
            (onCons r1.snd.fst fun v3 c4 =>
              onLoc (some 3) v3 fun d5 v6 =>
                onCons c4 fun v7 c8 =>
                  onRoom (some 3) v7 fun l9 =>
                    onCons c8 fun v10 c11 =>
                      onLoc (some 3) v10 fun d12 v13 =>
                        onStruct [CT.int, CT.int, CT.slice (some 3)] (bif d12 then cleanV v13 else v13) fun n14 n15 l16 =>
                          onNil c11
                            (gd (below 0 (V.agg [V.int n14, V.int n15, V.vec AM.Mode.plain (some 3) l9]) && belowSt 0 [])
                              (some (Out.ret (V.agg [V.int n14, V.int n15, V.vec AM.Mode.plain (some 3) l9]), []))))
            none)
        fun v17 => none := by kernel_rfl

theorem e_pownL (O : Oracle) (i n k h : Int) (xs zs ws : List V) (y : V) : loopBody Try.prog cfg O 25 3 [.int i, .vec .grow (some 3) zs, .vec .plain (some 3) xs, .loc true (some 3) (.agg ws), .loc false (some 3) (.agg [.int k, .int h, y]), .int n] [] =
    bc (decide (i < n))
      (gd (decide (0 ≤ i) && decide (i < (↑xs.length : Int)))
        (onStruct [CT.int, CT.int, CT.slice (some 3)] (getI xs i) fun n1 n2 l3 =>
          obind (pcall O 25 [V.agg [V.int n1, V.int n2, V.vec AM.Mode.plain (some 3) l3]]) fun r4 =>
            onStruct [CT.int, CT.int, CT.slice (some 3)] r4 fun n5 n6 l7 =>
              gd
                (true &&
                  roomFor Try.prog 24 (zs.length + [V.agg [V.int n5, V.int n6, V.vec AM.Mode.plain (some 3) l7]].length))
                (onCells [CT.slice (some 3)] [y] fun l8 =>
                  O.2 25 3
                    [V.int (IntKind.i64.wrap (i + 1)),
                      V.vec Mode.grow (some 3) (zs ++ [V.agg [V.int n5, V.int n6, V.vec AM.Mode.plain (some 3) l7]]),
                      V.vec AM.Mode.plain (some 3) xs, V.loc true (some 3) (V.agg ws),
                      V.loc false (some 3) (V.agg [V.int k, V.int h, V.vec AM.Mode.plain (some 3) l8]), V.int n]
                    [])))
      (some
        (Ex.exit 0,
          [V.loc true (some 3) (V.agg ws), V.vec Mode.grow (some 3) zs, V.loc false (some 3) (V.agg [V.int k, V.int h, y])],
          [])) := by kernel_rfl

theorem e_pdepth (O : Oracle) (k h : Int) (xs : List V) : callBody Try.prog cfg O 29 [.agg [.int k, .int h, .vec .plain (some 3) xs]] [] =
    obind (O.loop 29 3 [V.int 0, V.int 0, V.vec AM.Mode.plain (some 3) xs, V.int (↑xs.length : Int)] []) fun r1 =>
      onEx r1.fst none none
        (fun i2 =>
          bc (i2.beq 0)
            (onCons r1.snd.fst fun v3 c4 =>
              onInt v3 fun n5 => onNil c4 (some (Out.ret (V.int (IntKind.i64.wrap (n5 + 1))), [])))
            none)
        fun v6 => none := by kernel_rfl

theorem e_pdepthL (O : Oracle) (i n m : Int) (xs : List V) : loopBody Try.prog cfg O 29 3 [.int i, .int m, .vec .plain (some 3) xs, .int n] [] =
    bc (decide (i < n))
      (gd (decide (0 ≤ i) && decide (i < (↑xs.length : Int)))
        (onStruct [CT.int, CT.int, CT.slice (some 3)] (getI xs i) fun n1 n2 l3 =>
          obind (pcall O 29 [V.agg [V.int n1, V.int n2, V.vec AM.Mode.plain (some 3) l3]]) fun r4 =>
            onInt r4 fun n5 =>
              O.2 29 3
                [V.int (IntKind.i64.wrap (i + 1)), V.int (if n5 > m then n5 else m), V.vec AM.Mode.plain (some 3) xs,
                  V.int n]
                []))
      (some (Ex.exit 0, [V.int m], [])) := by kernel_rfl

theorem e_pmay1 (O : Oracle) (k h : Int) (xs : List V) : callBody Try.prog cfg O 32 [.agg [.int k, .int h, .vec .plain (some 3) xs]] [] =
    bc (k == 0) (bc (h == 0) (some (Out.ret (V.bool ((↑xs.length : Int) == 0)), [])) (some (Out.ret (V.bool false), [])))
      (bc (k == 1) (bc (h == 0) (some (Out.ret (V.bool ((↑xs.length : Int) == 2)), [])) (some (Out.ret (V.bool false), [])))
        (bc (k == 3)
          (bc (h == 0) (some (Out.ret (V.bool ((↑xs.length : Int) == 1)), [])) (some (Out.ret (V.bool false), [])))
          (bc (decide (k ≥ 0))
            (bc (decide (k < 7)) (some (Out.ret (V.bool (decide (h ≥ 0))), [])) (some (Out.ret (V.bool false), [])))
            (some (Out.ret (V.bool false), []))))) := by kernel_rfl

theorem e_binds (O : Oracle) (k h : Int) (xs : List V) : callBody Try.prog cfg O 40 [.agg [.int k, .int h, .vec .plain (some 3) xs]] [] =
    bc (k == 1) (some (Out.ret (V.bool true), [])) (some (Out.ret (V.bool (k == 3)), [])) := by kernel_rfl

theorem e_strange (O : Oracle) (k h : Int) (xs : List V) : callBody Try.prog cfg O 22 [.agg [.int k, .int h, .vec .plain (some 3) xs]] [] =
    some (Out.ret (V.bool (k != 2)), []) := by kernel_rfl

theorem e_odd (O : Oracle) (k h : Int) (xs : List V) : callBody Try.prog cfg O 21 [.agg [.int k, .int h, .vec .plain (some 3) xs]] [] =
    obind (pcall O 14 [V.agg [V.int k, V.int h, V.vec AM.Mode.plain (some 3) xs]]) fun r1 =>
      onBool r1 fun b2 => some (Out.ret (V.bool !b2), []) := by kernel_rfl

theorem e_mayn (O : Oracle) (i k h : Int) (xs : List V) : callBody Try.prog cfg O 31 [.int i, .agg [.int k, .int h, .vec .plain (some 3) xs]] [] =
    obind (pcall O 32 [V.agg [V.int k, V.int h, V.vec AM.Mode.plain (some 3) xs]]) fun r1 =>
      onBool r1 fun b2 => some (Out.ret (V.bool b2), []) := by kernel_rfl

theorem e_pmay (O : Oracle) (k h : Int) (xs : List V) : callBody Try.prog cfg O 14 [.agg [.int k, .int h, .vec .plain (some 3) xs]] [] =
    obind (pcall O 29 [V.agg [V.int k, V.int h, V.vec AM.Mode.plain (some 3) xs]]) fun r1 =>
      onInt r1 fun n2 =>
        bc (decide (n2 ≤ 60))
          (obind (pcall O 17 [V.agg [V.int k, V.int h, V.vec AM.Mode.plain (some 3) xs]]) fun r3 =>
            onInt r3 fun n4 =>
              bc (decide (n4 ≤ 4000))
                (obind (O.call 30 [V.agg [V.int k, V.int h, V.vec AM.Mode.plain (some 3) xs], V.fn 31 [] []] []) fun r5 =>
                  onRet r5.fst (fun v6 => onBool v6 fun b7 => some (Out.ret (V.bool b7), [])) fun p8 => none)
                (some (Out.ret (V.bool false), [])))
          (some (Out.ret (V.bool false), [])) := by kernel_rfl

end Go.Proofs.G16

namespace Go.Proofs.G16
open Go Go.AM
set_option maxRecDepth 20000

theorem e_psize (O : Oracle) (k h : Int) (xs : List V) : callBody Try.prog cfg O 17 [.agg [.int k, .int h, .vec .plain (some 3) xs]] [] =
    obind (O.call 34 [V.agg [V.int k, V.int h, V.vec AM.Mode.plain (some 3) xs]] [Res.box [V.int 0]]) fun r1 =>
      onRet r1.fst
        (fun v2 =>
          onFn v2 fun g3 a4 b5 =>
            obind
              (O.call g3 (a4 ++ [V.yld (List.length r1.snd)] ++ b5) (r1.snd ++ [Res.loop 17 3 [V.ref 0 0] LSt.ready none]))
              fun r6 =>
              onRet r6.fst
                (fun v7 =>
                  getR r6.snd (List.length r1.snd) fun x8 =>
                    onLoop x8 fun f9 k10 vs11 s12 p13 =>
                      onPend s12 p13
                        (getR (List.set r6.snd (List.length r1.snd) Res.dead) 0 fun x14 =>
                          onBox x14 fun c15 =>
                            gd (decide (1 ≤ c15.length) && true)
                              (onInt (cleanV (AM.partOf c15 0 none)) fun n16 => some (Out.ret (V.int n16), [])))
                        none fun i17 => none)
                fun p18 => none)
        fun p19 => none := by kernel_rfl

theorem e_psizeR (O : Oracle) (n : Int) (i : Int) (c : List V) : roundBody Try.prog cfg O 1 17 3 [.ref 0 0] [.int i, .agg c] [.box [.int n], .loop 17 3 [.ref 0 0] .ready none] =
    some (true, [Res.box [V.int (IntKind.i64.wrap (n + 1))], Res.loop 17 3 [V.ref 0 0] LSt.ready none]) := by kernel_rfl

theorem e_pnodes (O : Oracle) (k h : Int) (xs : List V) (x : Res) : callBody Try.prog cfg O 34 [.agg [.int k, .int h, .vec .plain (some 3) xs]] [x] =
    some (Out.ret (V.fn 38 [] [V.cptr (some 3) (V.agg [V.int k, V.int h, V.vec AM.Mode.plain (some 3) xs])]), [x]) := by kernel_rfl

theorem e_pnodes1 (O : Oracle) (k h : Int) (xs : List V) (x y : Res) : callBody Try.prog cfg O 38 [.yld 1, .cptr (some 3) (.agg [.int k, .int h, .vec .plain (some 3) xs])] [x, y] =
    obind (O.call 39 [V.agg [V.int k, V.int h, V.vec AM.Mode.plain (some 3) xs], V.int 0, V.yld 1] [x, y]) fun r1 =>
      onRet r1.fst
        (fun v2 =>
          onBool v2 fun b3 =>
            bc ((List.length r1.snd).beq [x, y].length) (some (Out.ret (V.tup []), r1.snd))
              (bc (below [x, y].length (V.tup []) && belowSt [x, y].length (List.take [x, y].length r1.snd))
                (some (Out.ret (V.tup []), List.take [x, y].length r1.snd)) (some (Out.ret (V.tup []), r1.snd))))
        fun p4 => none := by kernel_rfl

theorem e_pwalk (O : Oracle) (k h i : Int) (xs : List V) (x y : Res) : callBody Try.prog cfg O 39 [.agg [.int k, .int h, .vec .plain (some 3) xs], .int i, .yld 1] [x, y] =
    onLoop y fun f1 k2 vs3 s4 p5 =>
      onPend s4 p5
        (obind (O.round 1 f1 k2 vs3 [V.int i, V.agg [V.int k, V.int h, V.vec AM.Mode.plain (some 3) xs]] [x, y]) fun r6 =>
          bc (!r6.fst)
            (bc ((List.length (Out.ret (V.bool r6.fst), r6.snd).snd).beq [x, y].length)
              (some (Out.ret (V.bool false), (Out.ret (V.bool r6.fst), r6.snd).snd))
              (bc
                (below [x, y].length (V.bool false) &&
                  belowSt [x, y].length (List.take [x, y].length (Out.ret (V.bool r6.fst), r6.snd).snd))
                (some (Out.ret (V.bool false), List.take [x, y].length (Out.ret (V.bool r6.fst), r6.snd).snd))
                (some (Out.ret (V.bool false), (Out.ret (V.bool r6.fst), r6.snd).snd))))
            (obind
              (O.loop 39 4
                [V.int 0, V.yld 1, V.loc false (some 3) (V.agg [V.int k, V.int h, V.vec AM.Mode.plain (some 3) xs]),
                  V.int i, V.vec AM.Mode.plain (some 3) xs, V.int (↑xs.length : Int)]
                (Out.ret (V.bool r6.fst), r6.snd).snd)
              fun r7 =>
              onEx r7.fst none
                (onCons r7.snd.fst fun v8 c9 =>
                  onBool v8 fun b10 =>
                    onNil c9
                      (bc ((List.length r7.snd.snd).beq [x, y].length) (some (Out.ret (V.bool b10), r7.snd.snd))
                        (bc (below [x, y].length (V.bool b10) && belowSt [x, y].length (List.take [x, y].length r7.snd.snd))
                          (some (Out.ret (V.bool b10), List.take [x, y].length r7.snd.snd))
                          (some (Out.ret (V.bool b10), r7.snd.snd)))))
                (fun i11 =>
                  bc (i11.beq 0)
                    (onNil r7.snd.fst
                      (bc ((List.length r7.snd.snd).beq [x, y].length) (some (Out.ret (V.bool true), r7.snd.snd))
                        (bc
                          (below [x, y].length (V.bool true) && belowSt [x, y].length (List.take [x, y].length r7.snd.snd))
                          (some (Out.ret (V.bool true), List.take [x, y].length r7.snd.snd))
                          (some (Out.ret (V.bool true), r7.snd.snd)))))
                    none)
                fun v12 => none))
        none fun i13 => none := by kernel_rfl

theorem e_pwalkL (O : Oracle) (i n j k h : Int) (xs ys : List V) (x y : Res) : loopBody Try.prog cfg O 39 4 [.int i, .yld 1, .loc false (some 3) (.agg [.int k, .int h, .vec .plain (some 3) xs]), .int j, .vec .plain (some 3) ys, .int n] [x, y] =
    bc (decide (i < n))
      (gd (decide (0 ≤ i) && decide (i < (↑ys.length : Int)))
        (onStruct [CT.int, CT.int, CT.slice (some 3)] (getI ys i) fun n1 n2 l3 =>
          obind (pcall O 40 [V.agg [V.int k, V.int h, V.vec AM.Mode.plain (some 3) xs]]) fun r4 =>
            onBool r4 fun b5 =>
              bc b5
                (bc (i == IntKind.i64.wrap ((↑xs.length : Int) - 1))
                  (obind
                    (O.call 39
                      [V.agg [V.int n1, V.int n2, V.vec AM.Mode.plain (some 3) l3], V.int (IntKind.i64.wrap (j + 1)),
                        V.yld 1]
                      [x, y])
                    fun r6 =>
                    onRet r6.fst
                      (fun v7 =>
                        onBool v7 fun b8 =>
                          bc (!b8) (some (Ex.ret, [V.bool false], r6.snd))
                            (O.2 39 4
                              [V.int (IntKind.i64.wrap (i + 1)), V.yld 1,
                                V.loc false (some 3) (V.agg [V.int k, V.int h, V.vec AM.Mode.plain (some 3) xs]), V.int j,
                                V.vec AM.Mode.plain (some 3) ys, V.int n]
                              r6.snd))
                      fun p9 => none)
                  (obind (O.call 39 [V.agg [V.int n1, V.int n2, V.vec AM.Mode.plain (some 3) l3], V.int j, V.yld 1] [x, y])
                    fun r10 =>
                    onRet r10.fst
                      (fun v11 =>
                        onBool v11 fun b12 =>
                          bc (!b12) (some (Ex.ret, [V.bool false], r10.snd))
                            (O.2 39 4
                              [V.int (IntKind.i64.wrap (i + 1)), V.yld 1,
                                V.loc false (some 3) (V.agg [V.int k, V.int h, V.vec AM.Mode.plain (some 3) xs]), V.int j,
                                V.vec AM.Mode.plain (some 3) ys, V.int n]
                              r10.snd))
                      fun p13 => none))
                (obind (O.call 39 [V.agg [V.int n1, V.int n2, V.vec AM.Mode.plain (some 3) l3], V.int j, V.yld 1] [x, y])
                  fun r14 =>
                  onRet r14.fst
                    (fun v15 =>
                      onBool v15 fun b16 =>
                        bc (!b16) (some (Ex.ret, [V.bool false], r14.snd))
                          (O.2 39 4
                            [V.int (IntKind.i64.wrap (i + 1)), V.yld 1,
                              V.loc false (some 3) (V.agg [V.int k, V.int h, V.vec AM.Mode.plain (some 3) xs]), V.int j,
                              V.vec AM.Mode.plain (some 3) ys, V.int n]
                            r14.snd))
                    fun p17 => none)))
      (some (Ex.exit 0, [], [x, y])) := by kernel_rfl

theorem e_pall (O : Oracle) (k h : Int) (xs : List V) : callBody Try.prog cfg O 30 [.agg [.int k, .int h, .vec .plain (some 3) xs], .fn 31 [] []] [] =
    obind (O.call 34 [V.agg [V.int k, V.int h, V.vec AM.Mode.plain (some 3) xs]] [Res.box [V.bool false]]) fun r1 =>
      onRet r1.fst
        (fun v2 =>
          onFn v2 fun g3 a4 b5 =>
            obind
              (O.call g3 (a4 ++ [V.yld (List.length r1.snd)] ++ b5)
                (r1.snd ++ [Res.loop 30 4 [V.ref 0 0, V.cptr none (V.fn 31 [] [])] LSt.ready none]))
              fun r6 =>
              onRet r6.fst
                (fun v7 =>
                  getR r6.snd (List.length r1.snd) fun x8 =>
                    onLoop x8 fun f9 k10 vs11 s12 p13 =>
                      onPend s12 p13
                        (getR (List.set r6.snd (List.length r1.snd) Res.dead) 0 fun x14 =>
                          onBox x14 fun c15 =>
                            gd (decide (1 ≤ c15.length) && true)
                              (getR
                                ((List.set r6.snd (List.length r1.snd) Res.dead).set 0
                                  (Res.box (setCells c15 0 [V.bool true])))
                                0 fun x16 =>
                                onBox x16 fun c17 =>
                                  gd (decide (1 ≤ c17.length) && true)
                                    (bc
                                      (((List.set r6.snd (List.length r1.snd) Res.dead).set 0
                                              (Res.box (setCells c15 0 [V.bool true]))).length.beq
                                        0)
                                      (some
                                        (Out.ret
                                            (match [cleanV (AM.partOf c17 0 (shOf Try.prog 4))] with
                                            | [v] => v
                                            | vs => V.tup vs),
                                          (List.set r6.snd (List.length r1.snd) Res.dead).set 0
                                            (Res.box (setCells c15 0 [V.bool true]))))
                                      (bc
                                        (below 0
                                            (match [cleanV (AM.partOf c17 0 (shOf Try.prog 4))] with
                                            | [v] => v
                                            | vs => V.tup vs) &&
                                          belowSt 0 [])
                                        (some
                                          (Out.ret
                                              (match [cleanV (AM.partOf c17 0 (shOf Try.prog 4))] with
                                              | [v] => v
                                              | vs => V.tup vs),
                                            []))
                                        (some
                                          (Out.ret
                                              (match [cleanV (AM.partOf c17 0 (shOf Try.prog 4))] with
                                              | [v] => v
                                              | vs => V.tup vs),
                                            (List.set r6.snd (List.length r1.snd) Res.dead).set 0
                                              (Res.box (setCells c15 0 [V.bool true]))))))))
                        (getR (List.set r6.snd (List.length r1.snd) Res.dead) 0 fun x18 =>
                          onBox x18 fun c19 =>
                            gd (decide (1 ≤ c19.length) && true)
                              (bc ((List.set r6.snd (List.length r1.snd) Res.dead).length.beq 0)
                                (some
                                  (Out.ret
                                      (match [cleanV (AM.partOf c19 0 (shOf Try.prog 4))] with
                                      | [v] => v
                                      | vs => V.tup vs),
                                    List.set r6.snd (List.length r1.snd) Res.dead))
                                (bc
                                  (below 0
                                      (match [cleanV (AM.partOf c19 0 (shOf Try.prog 4))] with
                                      | [v] => v
                                      | vs => V.tup vs) &&
                                    belowSt 0 [])
                                  (some
                                    (Out.ret
                                        (match [cleanV (AM.partOf c19 0 (shOf Try.prog 4))] with
                                        | [v] => v
                                        | vs => V.tup vs),
                                      []))
                                  (some
                                    (Out.ret
                                        (match [cleanV (AM.partOf c19 0 (shOf Try.prog 4))] with
                                        | [v] => v
                                        | vs => V.tup vs),
                                      List.set r6.snd (List.length r1.snd) Res.dead)))))
                        fun i20 => none)
                fun p21 => none)
        fun p22 => none := by kernel_rfl

theorem e_pallR (O : Oracle) (i : Int) (k h : Int) (xs : List V) (b0 : Bool) : roundBody Try.prog cfg O 1 30 4 [.ref 0 0, .cptr none (.fn 31 [] [])] [.int i, .agg [.int k, .int h, .vec .plain (some 3) xs]] [.box [.bool b0], .loop 30 4 [.ref 0 0, .cptr none (.fn 31 [] [])] .ready none] =
    obind (pcall O 31 [V.int i, V.agg [V.int k, V.int h, V.vec AM.Mode.plain (some 3) xs]]) fun r1 =>
      onBool r1 fun b2 =>
        bc (!b2)
          (some
            (false,
              [Res.box [V.bool false], Res.loop 30 4 [V.ref 0 0, V.cptr none (V.fn 31 [] [])] LSt.done (some Ex.ret)]))
          (some (true, [Res.box [V.bool b0], Res.loop 30 4 [V.ref 0 0, V.cptr none (V.fn 31 [] [])] LSt.ready none])) := by kernel_rfl

theorem e_ppis (O : Oracle) (k h : Int) (xs : List V) (x : Res) : callBody Try.prog cfg O 33 [.ref 1 0] [x, .box [.int k, .int h, .vec .plain (some 3) xs]] =
    none := by kernel_rfl

theorem e_ppisB (O : Oracle) (k h : Int) (xs : List V) (x y : Res) : callBody Try.prog cfg O 33 [.agg [.int k, .int h, .vec .plain (some 3) xs]] [x, y] =
    some (Out.ret (V.fn 37 [] [V.ref [x, y].length 0]), [x, y, Res.box [V.int k, V.int h, V.vec AM.Mode.plain (some 3) xs]]) := by kernel_rfl

theorem e_psplit (O : Oracle) (k h : Int) (xs : List V) : callBody Try.prog cfg O 15 [.agg [.int k, .int h, .vec .plain (some 3) xs]] [] =
    obind
      (O.call 33 [V.agg [V.int k, V.int h, V.vec AM.Mode.plain (some 3) xs]]
        [Res.box [V.vec Mode.full (some 3) []], Res.box [V.int k, V.int h, V.vec AM.Mode.plain (some 3) xs]])
      fun r1 =>
      onRet r1.fst
        (fun v2 =>
          onFn v2 fun g3 a4 b5 =>
            obind
              (O.call g3 (a4 ++ [V.yld (List.length r1.snd)] ++ b5)
                (r1.snd ++ [Res.loop 15 6 [V.ref 1 0, V.ref 0 0] LSt.ready none]))
              fun r6 =>
              onRet r6.fst
                (fun v7 =>
                  getR r6.snd (List.length r1.snd) fun x8 =>
                    onLoop x8 fun f9 k10 vs11 s12 p13 =>
                      onPend s12 p13
                        (getR (List.set r6.snd (List.length r1.snd) Res.dead) 0 fun x14 =>
                          onBox x14 fun c15 =>
                            gd (decide (1 ≤ c15.length) && true)
                              (onVec (some 3) (cleanV (AM.partOf c15 0 none)) fun l16 =>
                                getR (List.set r6.snd (List.length r1.snd) Res.dead) 1 fun x17 =>
                                  onBox x17 fun c18 =>
                                    gd (decide (3 ≤ c18.length) && true)
                                      (onCells [CT.int, CT.int, CT.slice (some 3)]
                                        (List.map plain1 (List.take 3 (List.drop 0 c18))) fun n19 n20 l21 =>
                                        obind (pcall O 25 [V.agg [V.int n19, V.int n20, V.vec AM.Mode.plain (some 3) l21]])
                                          fun r22 =>
                                          onStruct [CT.int, CT.int, CT.slice (some 3)] r22 fun n23 n24 l25 =>
                                            gd
                                              (below 0
                                                  (V.tup
                                                    [V.vec AM.Mode.plain (some 3) l16,
                                                      V.agg [V.int n23, V.int n24, V.vec AM.Mode.plain (some 3) l25]]) &&
                                                belowSt 0 [])
                                              (some
                                                (Out.ret
                                                    (V.tup
                                                      [V.vec AM.Mode.plain (some 3) l16,
                                                        V.agg [V.int n23, V.int n24, V.vec AM.Mode.plain (some 3) l25]]),
                                                  [])))))
                        none fun i26 => none)
                fun p27 => none)
        fun p28 => none := by kernel_rfl

theorem e_cfuncO (O : Oracle) (xs : List V) (st : Res) : callBody Try.prog cfg O 23 [.vec .plain (some 3) xs, .fn 21 [] []] [st] =
    obind (O.call 35 [V.vec AM.Mode.plain (some 3) xs, V.fn 21 [] []] [st]) fun r1 =>
      onRet r1.fst
        (fun v2 =>
          onInt v2 fun n3 =>
            bc ((List.length r1.snd).beq [st].length) (some (Out.ret (V.bool (decide (n3 ≥ 0))), r1.snd))
              (bc (below [st].length (V.bool (decide (n3 ≥ 0))) && belowSt [st].length (List.take [st].length r1.snd))
                (some (Out.ret (V.bool (decide (n3 ≥ 0))), List.take [st].length r1.snd))
                (some (Out.ret (V.bool (decide (n3 ≥ 0))), r1.snd))))
        fun p4 => none := by kernel_rfl

end Go.Proofs.G16

namespace Go.Proofs.G16
open Go Go.AM
set_option maxRecDepth 20000

theorem e_ppisI (O : Oracle) (k h : Int) (xs : List V) (x y z : Res) : callBody Try.prog cfg O 37 [.yld 3, .ref 2 0] [x, y, .box [.int k, .int h, .vec .plain (some 3) xs], z] =
    obind (O.loop 37 0 [V.ref 2 0, V.yld 3] [x, y, Res.box [V.int k, V.int h, V.vec AM.Mode.plain (some 3) xs], z])
      fun r1 =>
      onEx r1.fst none
        (onNil r1.snd.fst
          (bc ((List.length r1.snd.snd).beq [x, y, Res.box [V.int k, V.int h, V.vec AM.Mode.plain (some 3) xs], z].length)
            (some (Out.ret (V.tup []), r1.snd.snd))
            (bc
              (below [x, y, Res.box [V.int k, V.int h, V.vec AM.Mode.plain (some 3) xs], z].length (V.tup []) &&
                belowSt [x, y, Res.box [V.int k, V.int h, V.vec AM.Mode.plain (some 3) xs], z].length
                  (List.take [x, y, Res.box [V.int k, V.int h, V.vec AM.Mode.plain (some 3) xs], z].length r1.snd.snd))
              (some
                (Out.ret (V.tup []),
                  List.take [x, y, Res.box [V.int k, V.int h, V.vec AM.Mode.plain (some 3) xs], z].length r1.snd.snd))
              (some (Out.ret (V.tup []), r1.snd.snd)))))
        (fun i2 =>
          bc (i2.beq 0)
            (onNil r1.snd.fst
              (bc
                ((List.length r1.snd.snd).beq [x, y, Res.box [V.int k, V.int h, V.vec AM.Mode.plain (some 3) xs], z].length)
                (some (Out.ret (V.tup []), r1.snd.snd))
                (bc
                  (below [x, y, Res.box [V.int k, V.int h, V.vec AM.Mode.plain (some 3) xs], z].length (V.tup []) &&
                    belowSt [x, y, Res.box [V.int k, V.int h, V.vec AM.Mode.plain (some 3) xs], z].length
                      (List.take [x, y, Res.box [V.int k, V.int h, V.vec AM.Mode.plain (some 3) xs], z].length r1.snd.snd))
                  (some
                    (Out.ret (V.tup []),
                      List.take [x, y, Res.box [V.int k, V.int h, V.vec AM.Mode.plain (some 3) xs], z].length r1.snd.snd))
                  (some (Out.ret (V.tup []), r1.snd.snd)))))
            none)
        fun v3 => none := by kernel_rfl

theorem e_ppisIL (O : Oracle) (k h : Int) (xs : List V) (x y z : Res) : loopBody Try.prog cfg O 37 0 [.ref 2 0, .yld 3] [x, y, .box [.int k, .int h, .vec .plain (some 3) xs], z] =
    bc (k == 1)
      (bc ((↑xs.length : Int) == 2)
        (gd (true && decide (0 < (↑xs.length : Int)))
          (onStruct [CT.int, CT.int, CT.slice (some 3)] (getI xs 0) fun n1 n2 l3 =>
            gd (true && decide (1 < (↑xs.length : Int)))
              (onStruct [CT.int, CT.int, CT.slice (some 3)] (getI xs 1) fun n4 n5 l6 =>
                onLoop z fun f7 k8 vs9 s10 p11 =>
                  onPend s10 p11
                    (obind
                      (O.round 3 f7 k8 vs9
                        [V.agg [V.int n1, V.int n2, V.vec AM.Mode.plain (some 3) l3],
                          V.agg [V.int n4, V.int n5, V.vec AM.Mode.plain (some 3) l6]]
                        [x, y, Res.box [V.int k, V.int h, V.vec AM.Mode.plain (some 3) xs], z])
                      fun r12 =>
                      bc (!r12.fst) (some (Ex.ret, [], (Out.ret (V.bool r12.fst), r12.snd).snd))
                        (getR (Out.ret (V.bool r12.fst), r12.snd).snd 2 fun x13 =>
                          onBox x13 fun c14 =>
                            gd (decide (3 ≤ c14.length) && true)
                              (onVec (some 3) (cleanV (AM.partOf c14 2 none)) fun l15 =>
                                gd (true && decide (1 < (↑l15.length : Int)))
                                  (onStruct [CT.int, CT.int, CT.slice (some 3)] (getI l15 1) fun n16 n17 l18 =>
                                    getR (Out.ret (V.bool r12.fst), r12.snd).snd 2 fun x19 =>
                                      onBox x19 fun c20 =>
                                        gd (decide (3 ≤ c20.length) && true)
                                          (O.2 37 0 [V.ref 2 0, V.yld 3]
                                            (List.set (Out.ret (V.bool r12.fst), r12.snd).snd 2
                                              (Res.box
                                                (setCells c20 0
                                                  [V.int n16, V.int n17, V.vec AM.Mode.plain (some 3) l18]))))))))
                    none fun i21 => none)))
        (some (Ex.exit 0, [], [x, y, Res.box [V.int k, V.int h, V.vec AM.Mode.plain (some 3) xs], z])))
      (some (Ex.exit 0, [], [x, y, Res.box [V.int k, V.int h, V.vec AM.Mode.plain (some 3) xs], z])) := by kernel_rfl

theorem e_psplitR (O : Oracle) (k h k2 h2 : Int) (xs ys zs : List V) (y z : Res) (v0 v1 v2 : V) : roundBody Try.prog cfg O 3 15 6 [.ref 1 0, .ref 0 0] [.agg [.int k, .int h, .vec .plain (some 3) xs], .agg [.int k2, .int h2, .vec .plain (some 3) ys]] [.box [.vec .grow (some 3) zs], .box [v0, v1, v2], z, .loop 15 6 [.ref 1 0, .ref 0 0] .ready none] =
    obind (pcall O 25 [V.agg [V.int k, V.int h, V.vec AM.Mode.plain (some 3) xs]]) fun r1 =>
      onStruct [CT.int, CT.int, CT.slice (some 3)] r1 fun n2 n3 l4 =>
        gd (true && roomFor Try.prog 24 (zs.length + [V.agg [V.int n2, V.int n3, V.vec AM.Mode.plain (some 3) l4]].length))
          (some
            (true,
              [Res.box [V.vec Mode.grow (some 3) (zs ++ [V.agg [V.int n2, V.int n3, V.vec AM.Mode.plain (some 3) l4]])],
                Res.box [V.int k2, V.int h2, V.vec AM.Mode.plain (some 3) ys], z,
                Res.loop 15 6 [V.ref 1 0, V.ref 0 0] LSt.ready none])) := by kernel_rfl

theorem e_psplitR0 (O : Oracle) (k h k2 h2 : Int) (xs ys : List V) (y z : Res) (v0 v1 v2 : V) : roundBody Try.prog cfg O 3 15 6 [.ref 1 0, .ref 0 0] [.agg [.int k, .int h, .vec .plain (some 3) xs], .agg [.int k2, .int h2, .vec .plain (some 3) ys]] [.box [.vec .full (some 3) []], .box [v0, v1, v2], z, .loop 15 6 [.ref 1 0, .ref 0 0] .ready none] =
    obind (pcall O 25 [V.agg [V.int k, V.int h, V.vec AM.Mode.plain (some 3) xs]]) fun r1 =>
      onStruct [CT.int, CT.int, CT.slice (some 3)] r1 fun n2 n3 l4 =>
        some
          (true,
            [Res.box [V.vec Mode.grow (some 3) [V.agg [V.int n2, V.int n3, V.vec AM.Mode.plain (some 3) l4]]],
              Res.box [V.int k2, V.int h2, V.vec AM.Mode.plain (some 3) ys], z,
              Res.loop 15 6 [V.ref 1 0, V.ref 0 0] LSt.ready none]) := by kernel_rfl

theorem e_ifuncO (O : Oracle) (xs : List V) (st : Res) : callBody Try.prog cfg O 35 [.vec .plain (some 3) xs, .fn 21 [] []] [st] =
    obind (O.loop 35 2 [V.int 0, V.vec AM.Mode.plain (some 3) xs, V.fn 21 [] [], V.int (↑xs.length : Int)] [st]) fun r1 =>
      onEx r1.fst none
        (onCons r1.snd.fst fun v2 c3 =>
          onInt v2 fun n4 =>
            onNil c3
              (bc ((List.length r1.snd.snd).beq [st].length) (some (Out.ret (V.int n4), r1.snd.snd))
                (bc (below [st].length (V.int n4) && belowSt [st].length (List.take [st].length r1.snd.snd))
                  (some (Out.ret (V.int n4), List.take [st].length r1.snd.snd)) (some (Out.ret (V.int n4), r1.snd.snd)))))
        (fun i5 =>
          bc (i5.beq 0)
            (onNil r1.snd.fst
              (bc ((List.length r1.snd.snd).beq [st].length) (some (Out.ret (V.int (-1)), r1.snd.snd))
                (bc (below [st].length (V.int (-1)) && belowSt [st].length (List.take [st].length r1.snd.snd))
                  (some (Out.ret (V.int (-1)), List.take [st].length r1.snd.snd))
                  (some (Out.ret (V.int (-1)), r1.snd.snd)))))
            none)
        fun v6 => none := by kernel_rfl

theorem e_ifuncOL (O : Oracle) (i n : Int) (xs : List V) (st : Res) : loopBody Try.prog cfg O 35 2 [.int i, .vec .plain (some 3) xs, .fn 21 [] [], .int n] [st] =
    bc (decide (i < n))
      (gd (decide (0 ≤ i) && decide (i < (↑xs.length : Int)))
        (onStruct [CT.int, CT.int, CT.slice (some 3)] (getI xs i) fun n1 n2 l3 =>
          obind (pcall O 21 [V.agg [V.int n1, V.int n2, V.vec AM.Mode.plain (some 3) l3]]) fun r4 =>
            onBool r4 fun b5 =>
              bc b5 (some (Ex.ret, [V.int i], [st]))
                (O.2 35 2 [V.int (IntKind.i64.wrap (i + 1)), V.vec AM.Mode.plain (some 3) xs, V.fn 21 [] [], V.int n]
                  [st])))
      (some (Ex.exit 0, [], [st])) := by kernel_rfl

theorem e_cfuncS (O : Oracle) (lo n : Nat) (st : Res) : callBody Try.prog cfg O 23 [.row (some 3) 0 lo n, .fn 22 [] []] [st] =
    obind (O.call 35 [V.row (some 3) 0 lo n, V.fn 22 [] []] [st]) fun r1 =>
      onRet r1.fst
        (fun v2 =>
          onInt v2 fun n3 =>
            bc ((List.length r1.snd).beq [st].length) (some (Out.ret (V.bool (decide (n3 ≥ 0))), r1.snd))
              (bc (below [st].length (V.bool (decide (n3 ≥ 0))) && belowSt [st].length (List.take [st].length r1.snd))
                (some (Out.ret (V.bool (decide (n3 ≥ 0))), List.take [st].length r1.snd))
                (some (Out.ret (V.bool (decide (n3 ≥ 0))), r1.snd))))
        fun p4 => none := by kernel_rfl

theorem e_ifuncS (O : Oracle) (lo n : Nat) (st : Res) : callBody Try.prog cfg O 35 [.row (some 3) 0 lo n, .fn 22 [] []] [st] =
    obind (O.loop 35 2 [V.int 0, V.row (some 3) 0 lo n, V.fn 22 [] [], V.int (↑n : Int)] [st]) fun r1 =>
      onEx r1.fst none
        (onCons r1.snd.fst fun v2 c3 =>
          onInt v2 fun n4 =>
            onNil c3
              (bc ((List.length r1.snd.snd).beq [st].length) (some (Out.ret (V.int n4), r1.snd.snd))
                (bc (below [st].length (V.int n4) && belowSt [st].length (List.take [st].length r1.snd.snd))
                  (some (Out.ret (V.int n4), List.take [st].length r1.snd.snd)) (some (Out.ret (V.int n4), r1.snd.snd)))))
        (fun i5 =>
          bc (i5.beq 0)
            (onNil r1.snd.fst
              (bc ((List.length r1.snd.snd).beq [st].length) (some (Out.ret (V.int (-1)), r1.snd.snd))
                (bc (below [st].length (V.int (-1)) && belowSt [st].length (List.take [st].length r1.snd.snd))
                  (some (Out.ret (V.int (-1)), List.take [st].length r1.snd.snd))
                  (some (Out.ret (V.int (-1)), r1.snd.snd)))))
            none)
        fun v6 => none := by kernel_rfl

theorem e_ifuncSL (O : Oracle) (i n : Int) (lo m : Nat) (xs : List V) : loopBody Try.prog cfg O 35 2 [.int i, .row (some 3) 0 lo m, .fn 22 [] [], .int n] [.row (some 3) xs] =
    bc (decide (i < n))
      (gd (decide (0 ≤ i) && decide (i < (↑m : Int)))
        (gd (true && decide (lo + i.toNat < xs.length))
          (onStruct [CT.int, CT.int, CT.slice (some 3)] (xs.getD (lo + i.toNat) V.undef) fun n1 n2 l3 =>
            obind (pcall O 22 [V.agg [V.int n1, V.int n2, V.vec AM.Mode.plain (some 3) l3]]) fun r4 =>
              onBool r4 fun b5 =>
                bc b5 (some (Ex.ret, [V.int i], [Res.row (some 3) xs]))
                  (O.2 35 2 [V.int (IntKind.i64.wrap (i + 1)), V.row (some 3) 0 lo m, V.fn 22 [] [], V.int n]
                    [Res.row (some 3) xs]))))
      (some (Ex.exit 0, [], [Res.row (some 3) xs])) := by kernel_rfl

end Go.Proofs.G16

namespace Go.Proofs.G16
open Go Go.AM
set_option maxRecDepth 20000

theorem e_pgeneral (O : Oracle) (k h n : Int) (xs ys : List V) : callBody Try.prog cfg O 10 [.vec .plain (some 3) xs, .agg [.int k, .int h, .vec .plain (some 3) ys], .int n] [] =
    obind (pcall O 15 [V.agg [V.int k, V.int h, V.vec AM.Mode.plain (some 3) ys]]) fun r1 =>
     onTup r1 fun c2 =>
      onCons c2 fun v3 c4 =>
       onVec (some 3) v3 fun l5 =>
        onCons c4 fun v6 c7 =>
         onStruct [CT.int, CT.int, CT.slice (some 3)] v6 fun n8 n9 l10 =>
          onNil c7
           (gd
            (decide (0 ≤ IntKind.i64.wrap ((↑xs.length : Int) + (↑l5.length : Int))) &&
                decide
                 (IntKind.i64.wrap ((↑xs.length : Int) + (↑l5.length : Int)) =
                  IntKind.i64.wrap ((↑xs.length : Int) + (↑l5.length : Int))) &&
               roomFor Try.prog 24 (IntKind.i64.wrap ((↑xs.length : Int) + (↑l5.length : Int))).toNat &&
              true &&
             true)
            (gd
             (true &&
              decide
               (0 + (IntKind.i64.wrap ((↑xs.length : Int) + (↑l5.length : Int))).toNat ≤
                (List.replicate (IntKind.i64.wrap ((↑xs.length : Int) + (↑l5.length : Int))).toNat
                  (V.agg [V.int 0, V.int 0, V.vec AM.Mode.plain (some 3) []])).length))
             (gd
              (decide (0 ≤ (↑(min xs.length (IntKind.i64.wrap ((↑xs.length : Int) + (↑l5.length : Int))).toNat) : Int)) &&
                 decide
                  ((↑(min xs.length (IntKind.i64.wrap ((↑xs.length : Int) + (↑l5.length : Int))).toNat) : Int) ≤
                   (↑(IntKind.i64.wrap ((↑xs.length : Int) + (↑l5.length : Int))).toNat : Int)) &&
                decide
                 ((↑(IntKind.i64.wrap ((↑xs.length : Int) + (↑l5.length : Int))).toNat : Int) ≤
                  (↑(IntKind.i64.wrap ((↑xs.length : Int) + (↑l5.length : Int))).toNat : Int)) &&
               true)
              (gd
               (true &&
                decide
                 (0 + (↑(min xs.length (IntKind.i64.wrap ((↑xs.length : Int) + (↑l5.length : Int))).toNat) : Int).toNat +
                   ((↑(IntKind.i64.wrap ((↑xs.length : Int) + (↑l5.length : Int))).toNat : Int).toNat -
                    (↑(min xs.length (IntKind.i64.wrap ((↑xs.length : Int) + (↑l5.length : Int))).toNat) : Int).toNat) ≤
                  ([] ++ List.take (min xs.length (IntKind.i64.wrap ((↑xs.length : Int) + (↑l5.length : Int))).toNat) xs ++
                    List.drop (0 + min xs.length (IntKind.i64.wrap ((↑xs.length : Int) + (↑l5.length : Int))).toNat)
                     (List.replicate (IntKind.i64.wrap ((↑xs.length : Int) + (↑l5.length : Int))).toNat
                      (V.agg [V.int 0, V.int 0, V.vec AM.Mode.plain (some 3) []]))).length))
               (obind (pcall O 21 [V.agg [V.int k, V.int h, V.vec AM.Mode.plain (some 3) ys]]) fun r11 =>
                onBool r11 fun b12 =>
                 bc b12
                  (some
                   (Out.ret
                     (V.tup
                      [V.agg
                        [V.vec AM.Mode.plain (some 3) [], V.int 0, V.int 0, V.vec AM.Mode.plain (some 3) [], V.bool false],
                       V.agg [V.int 0, V.int 0, V.vec AM.Mode.plain (some 3) []], V.int 1]),
                    []))
                  (obind
                   (O.call 23 [V.vec AM.Mode.plain (some 3) xs, V.fn 21 [] []]
                    [Res.row (some 3)
                      (List.take
                         (0 +
                          (↑(min xs.length (IntKind.i64.wrap ((↑xs.length : Int) + (↑l5.length : Int))).toNat) : Int).toNat)
                         ([] ++
                           List.take (min xs.length (IntKind.i64.wrap ((↑xs.length : Int) + (↑l5.length : Int))).toNat)
                            xs ++
                          List.drop (0 + min xs.length (IntKind.i64.wrap ((↑xs.length : Int) + (↑l5.length : Int))).toNat)
                           (List.replicate (IntKind.i64.wrap ((↑xs.length : Int) + (↑l5.length : Int))).toNat
                            (V.agg [V.int 0, V.int 0, V.vec AM.Mode.plain (some 3) []]))) ++
                        List.take
                         (min l5.length
                          ((↑(IntKind.i64.wrap ((↑xs.length : Int) + (↑l5.length : Int))).toNat : Int).toNat -
                           (↑(min xs.length (IntKind.i64.wrap ((↑xs.length : Int) + (↑l5.length : Int))).toNat) :
                             Int).toNat))
                         l5 ++
                       List.drop
                        (0 +
                          (↑(min xs.length (IntKind.i64.wrap ((↑xs.length : Int) + (↑l5.length : Int))).toNat) :
                            Int).toNat +
                         min l5.length
                          ((↑(IntKind.i64.wrap ((↑xs.length : Int) + (↑l5.length : Int))).toNat : Int).toNat -
                           (↑(min xs.length (IntKind.i64.wrap ((↑xs.length : Int) + (↑l5.length : Int))).toNat) :
                             Int).toNat))
                        ([] ++
                          List.take (min xs.length (IntKind.i64.wrap ((↑xs.length : Int) + (↑l5.length : Int))).toNat) xs ++
                         List.drop (0 + min xs.length (IntKind.i64.wrap ((↑xs.length : Int) + (↑l5.length : Int))).toNat)
                          (List.replicate (IntKind.i64.wrap ((↑xs.length : Int) + (↑l5.length : Int))).toNat
                           (V.agg [V.int 0, V.int 0, V.vec AM.Mode.plain (some 3) []]))))])
                   fun r13 =>
                   onRet r13.fst
                    (fun v14 =>
                     onBool v14 fun b15 =>
                      bc b15
                       (some
                        (Out.ret
                          (V.tup
                           [V.agg
                             [V.vec AM.Mode.plain (some 3) [], V.int 0, V.int 0, V.vec AM.Mode.plain (some 3) [],
                              V.bool false],
                            V.agg [V.int 0, V.int 0, V.vec AM.Mode.plain (some 3) []], V.int 1]),
                         []))
                       (bc (decide (n < 0))
                        (some
                         (Out.ret
                           (V.tup
                            [V.agg
                              [V.vec AM.Mode.plain (some 3) [], V.int 0, V.int 0, V.vec AM.Mode.plain (some 3) [],
                               V.bool false],
                             V.agg [V.int 0, V.int 0, V.vec AM.Mode.plain (some 3) []], V.int 1]),
                          []))
                        (bc (decide ((↑(IntKind.i64.wrap ((↑xs.length : Int) + (↑l5.length : Int))).toNat : Int) > 40))
                         (some
                          (Out.ret
                            (V.tup
                             [V.agg
                               [V.vec AM.Mode.plain (some 3) [], V.int 0, V.int 0, V.vec AM.Mode.plain (some 3) [],
                                V.bool false],
                              V.agg [V.int 0, V.int 0, V.vec AM.Mode.plain (some 3) []], V.int 1]),
                           []))
                         (obind
                          (O.call 23
                           [V.row (some 3) 0 0 (IntKind.i64.wrap ((↑xs.length : Int) + (↑l5.length : Int))).toNat,
                            V.fn 22 [] []]
                           r13.snd)
                          fun r16 =>
                          onRet r16.fst
                           (fun v17 =>
                            onBool v17 fun b18 =>
                             bc b18
                              (some
                               (Out.ret
                                 (V.tup
                                  [V.agg
                                    [V.vec AM.Mode.plain (some 3) [], V.int 0, V.int 0, V.vec AM.Mode.plain (some 3) [],
                                     V.bool false],
                                   V.agg [V.int 0, V.int 0, V.vec AM.Mode.plain (some 3) []], V.int 5]),
                                []))
                              (obind (pcall O 22 [V.agg [V.int n8, V.int n9, V.vec AM.Mode.plain (some 3) l10]]) fun r19 =>
                               onBool r19 fun b20 =>
                                bc b20
                                 (some
                                  (Out.ret
                                    (V.tup
                                     [V.agg
                                       [V.vec AM.Mode.plain (some 3) [], V.int 0, V.int 0, V.vec AM.Mode.plain (some 3) [],
                                        V.bool false],
                                      V.agg [V.int 0, V.int 0, V.vec AM.Mode.plain (some 3) []], V.int 5]),
                                   []))
                                 (obind
                                  (pcall O 24
                                   [V.int (↑(IntKind.i64.wrap ((↑xs.length : Int) + (↑l5.length : Int))).toNat : Int)])
                                  fun r21 =>
                                  onStruct [CT.slice (some 3), CT.int] r21 fun l22 n23 =>
                                   obind
                                    (O.loop 10 12
                                     [V.int 0,
                                      V.loc false (some 3) (V.agg [V.int 6, V.int n, V.vec AM.Mode.plain (some 3) l22]),
                                      V.row (some 3) 0 0 (IntKind.i64.wrap ((↑xs.length : Int) + (↑l5.length : Int))).toNat,
                                      V.loc true (some 5)
                                       (V.agg
                                        [V.vec Mode.full (some 3) [], V.int 0, V.int 0, V.vec Mode.full (some 3) [],
                                         V.bool false]),
                                      V.loc true (some 3) (V.agg [V.int 0, V.int 0, V.vec Mode.full (some 3) []]),
                                      V.loc false (some 3) (V.agg [V.int n8, V.int n9, V.vec AM.Mode.plain (some 3) l10]),
                                      V.int (↑l5.length : Int)]
                                     (Out.ret r19, r16.snd).snd)
                                    fun r24 =>
                                    onEx r24.fst none none
                                     (fun i25 =>
                                      bc (i25.beq 1)
                                       (onCons r24.snd.fst fun v26 c27 =>
                                        onRowV (some 3) v26 fun r28 lo29 n30 =>
                                         onCons c27 fun v31 c32 =>
                                          onLoc (some 5) v31 fun d33 v34 =>
                                           onCons c32 fun v35 c36 =>
                                            onLoc (some 3) v35 fun d37 v38 =>
                                             onCons c36 fun v39 c40 =>
                                              onLoc (some 3) v39 fun d41 v42 =>
                                               onStruct [CT.int, CT.int, CT.slice (some 3)]
                                                (bif d41 then cleanV v42 else v42) fun n43 n44 l45 =>
                                                onCons c40 fun v46 c47 =>
                                                 onLoc (some 3) v46 fun d48 v49 =>
                                                  onStruct [CT.int, CT.int, CT.slice (some 3)]
                                                   (bif d48 then cleanV v49 else v49) fun n50 n51 l52 =>
                                                   onNil c47
                                                    (obind
                                                     (O.loop 10 16
                                                      [V.int 0, V.row (some 3) r28 lo29 n30, V.loc true (some 5) v34,
                                                       V.loc true (some 3) v38,
                                                       V.loc false (some 3)
                                                        (V.agg [V.int n43, V.int n44, V.vec AM.Mode.plain (some 3) l45]),
                                                       V.loc false (some 3)
                                                        (V.agg [V.int n50, V.int n51, V.vec AM.Mode.plain (some 3) l52]),
                                                       V.int (↑n30 : Int)]
                                                      r24.snd.snd)
                                                     fun r53 =>
                                                     onEx r53.fst none none
                                                      (fun i54 =>
                                                       bc (i54.beq 3)
                                                        (onCons r53.snd.fst fun v55 c56 =>
                                                         onLoc (some 5) v55 fun d57 v58 =>
                                                          onCons c56 fun v59 c60 =>
                                                           onLoc (some 3) v59 fun d61 v62 =>
                                                            onCons c60 fun v63 c64 =>
                                                             onLoc (some 3) v63 fun d65 v66 =>
                                                              onStruct [CT.int, CT.int, CT.slice (some 3)]
                                                               (bif d65 then cleanV v66 else v66) fun n67 n68 l69 =>
                                                               onCons c64 fun v70 c71 =>
                                                                onLoc (some 3) v70 fun d72 v73 =>
                                                                 onStruct [CT.int, CT.int, CT.slice (some 3)]
                                                                  (bif d72 then cleanV v73 else v73) fun n74 n75 l76 =>
                                                                  onCons c71 fun v77 c78 =>
                                                                   onRowV (some 3) v77 fun r79 lo80 n81 =>
                                                                    onNil c78
                                                                     (getR r53.snd.snd r79 fun x82 =>
                                                                      onRow x82 fun sh83 l84 =>
                                                                       gd
                                                                        (decide (sh83 = some 3) &&
                                                                         decide (lo80 + n81 ≤ l84.length))
                                                                        (gd
                                                                         (below 0
                                                                           (V.tup
                                                                            [V.agg
                                                                              [V.vec AM.Mode.plain (some 3)
                                                                                (List.take n81 (List.drop lo80 l84)),
                                                                               V.int n74, V.int n75,
                                                                               V.vec AM.Mode.plain (some 3) l76,
                                                                               V.bool false],
                                                                             V.agg
                                                                              [V.int n67, V.int n68,
                                                                               V.vec AM.Mode.plain (some 3) l69],
                                                                             V.int 0]) &&
                                                                          belowSt 0 [])
                                                                         (some
                                                                          (Out.ret
                                                                            (V.tup
                                                                             [V.agg
                                                                               [V.vec AM.Mode.plain (some 3)
                                                                                 (List.take n81 (List.drop lo80 l84)),
                                                                                V.int n74, V.int n75,
                                                                                V.vec AM.Mode.plain (some 3) l76,
                                                                                V.bool false],
                                                                              V.agg
                                                                               [V.int n67, V.int n68,
                                                                                V.vec AM.Mode.plain (some 3) l69],
                                                                              V.int 0]),
                                                                           [])))))
                                                        none)
                                                      fun v85 => none))
                                       none)
                                     fun v86 => none)))
                           fun p87 => none))))
                    fun p88 => none)))))) := by kernel_rfl

theorem e_pgenL1 (O : Oracle) (i n k h k2 h2 : Int) (lo m : Nat) (xs ys ws vs : List V) (st : Res) : loopBody Try.prog cfg O 10 12 [.int i, .loc false (some 3) (.agg [.int k, .int h, .vec .plain (some 3) xs]), .row (some 3) 0 lo m, .loc true (some 5) (.agg ws), .loc true (some 3) (.agg vs), .loc false (some 3) (.agg [.int k2, .int h2, .vec .plain (some 3) ys]), .int n] [st] =
    bc (decide (i < n))
     (O.2 10 12
      [V.int (IntKind.i64.wrap (i + 1)),
       V.loc false (some 3)
        (V.agg
         [V.int 3, V.int 0, V.vec AM.Mode.plain (some 3) [V.agg [V.int k, V.int h, V.vec AM.Mode.plain (some 3) xs]]]),
       V.row (some 3) 0 lo m, V.loc true (some 5) (V.agg ws), V.loc true (some 3) (V.agg vs),
       V.loc false (some 3) (V.agg [V.int k2, V.int h2, V.vec AM.Mode.plain (some 3) ys]), V.int n]
      [st])
     (some
      (Ex.exit 1,
       [V.row (some 3) 0 lo m, V.loc true (some 5) (V.agg ws), V.loc true (some 3) (V.agg vs),
        V.loc false (some 3) (V.agg [V.int k, V.int h, V.vec AM.Mode.plain (some 3) xs]),
        V.loc false (some 3) (V.agg [V.int k2, V.int h2, V.vec AM.Mode.plain (some 3) ys])],
       [st])) := by kernel_rfl

theorem e_pgenL2 (O : Oracle) (i n k h k2 h2 : Int) (m : Nat) (xs ys zs ws vs : List V) : loopBody Try.prog cfg O 10 16 [.int i, .row (some 3) 0 0 m, .loc true (some 5) (.agg ws), .loc true (some 3) (.agg vs), .loc false (some 3) (.agg [.int k, .int h, .vec .plain (some 3) xs]), .loc false (some 3) (.agg [.int k2, .int h2, .vec .plain (some 3) ys]), .int n] [.row (some 3) zs] =
    bc (decide (i < n))
     (gd (decide (0 ≤ i) && decide (i < (↑m : Int)))
      (gd (true && decide (0 + i.toNat < zs.length))
       (onStruct [CT.int, CT.int, CT.slice (some 3)] (zs.getD (0 + i.toNat) V.undef) fun n1 n2 l3 =>
        obind (pcall O 25 [V.agg [V.int n1, V.int n2, V.vec AM.Mode.plain (some 3) l3]]) fun r4 =>
         onStruct [CT.int, CT.int, CT.slice (some 3)] r4 fun n5 n6 l7 =>
          gd (decide (0 ≤ i) && decide (i < (↑m : Int)))
           (gd
            (true && !isGrow (V.agg [V.int n5, V.int n6, V.vec AM.Mode.plain (some 3) l7]) &&
             decide (0 + i.toNat < zs.length))
            (O.2 10 16
             [V.int (IntKind.i64.wrap (i + 1)), V.row (some 3) 0 0 m, V.loc true (some 5) (V.agg ws),
              V.loc true (some 3) (V.agg vs),
              V.loc false (some 3) (V.agg [V.int k, V.int h, V.vec AM.Mode.plain (some 3) xs]),
              V.loc false (some 3) (V.agg [V.int k2, V.int h2, V.vec AM.Mode.plain (some 3) ys]), V.int n]
             [Res.row (some 3) (zs.set (0 + i.toNat) (V.agg [V.int n5, V.int n6, V.vec AM.Mode.plain (some 3) l7]))])))))
     (some
      (Ex.exit 3,
       [V.loc true (some 5) (V.agg ws), V.loc true (some 3) (V.agg vs),
        V.loc false (some 3) (V.agg [V.int k, V.int h, V.vec AM.Mode.plain (some 3) xs]),
        V.loc false (some 3) (V.agg [V.int k2, V.int h2, V.vec AM.Mode.plain (some 3) ys]), V.row (some 3) 0 0 m],
       [Res.row (some 3) zs])) := by kernel_rfl

end Go.Proofs.G16

namespace Go.Proofs.G16
open Go Go.AM
set_option maxRecDepth 20000

theorem e_rgeneral (O : Oracle) (k h n : Int) (xs ys : List V) : callBody Try.prog cfg O 11 [.vec .plain (some 3) xs, .agg [.int k, .int h, .vec .plain (some 3) ys], .int n] [] =
    obind (pcall O 26 [V.agg [V.int k, V.int h, V.vec AM.Mode.plain (some 3) ys]]) fun r1 =>
     onBool r1 fun b2 =>
      obind
       (O.loop 11 4
        [V.int 0, V.bool b2, V.vec AM.Mode.plain (some 3) xs,
         V.loc true (some 5)
          (V.agg [V.vec Mode.full (some 3) [], V.int 0, V.int 0, V.vec Mode.full (some 3) [], V.bool false]),
         V.loc true (some 3) (V.agg [V.int 0, V.int 0, V.vec Mode.full (some 3) []]),
         V.loc false (some 5)
          (V.agg [V.vec AM.Mode.plain (some 3) [], V.int 0, V.int 0, V.vec AM.Mode.plain (some 3) [], V.bool false]),
         V.int n, V.loc false (some 3) (V.agg [V.int k, V.int h, V.vec AM.Mode.plain (some 3) ys])]
        [])
       fun r3 =>
       onEx r3.fst none none
        (fun i4 =>
         bc (i4.beq 0)
          (onCons r3.snd.fst fun v5 c6 =>
           onLoc (some 5) v5 fun d7 v8 =>
            onCons c6 fun v9 c10 =>
             onLoc (some 3) v9 fun d11 v12 =>
              onCons c10 fun v13 c14 =>
               onLoc (some 5) v13 fun d15 v16 =>
                onStruct [CT.slice (some 3), CT.int, CT.int, CT.slice (some 3), CT.bool] (bif d15 then cleanV v16 else v16)
                 fun l17 n18 n19 l20 b21 =>
                 onCons c14 fun v22 c23 =>
                  onInt v22 fun n24 =>
                   onCons c23 fun v25 c26 =>
                    onVec (some 3) v25 fun l27 =>
                     onCons c26 fun v28 c29 =>
                      onBool v28 fun b30 =>
                       onCons c29 fun v31 c32 =>
                        onLoc (some 3) v31 fun d33 v34 =>
                         onStruct [CT.int, CT.int, CT.slice (some 3)] (bif d33 then cleanV v34 else v34) fun n35 n36 l37 =>
                          onNil c32
                           (obind (pcall O 27 [V.agg [V.int n35, V.int n36, V.vec AM.Mode.plain (some 3) l37]]) fun r38 =>
                            onTup r38 fun c39 =>
                             onCons c39 fun v40 c41 =>
                              onVec (some 3) v40 fun l42 =>
                               onCons c41 fun v43 c44 =>
                                onStruct [CT.int, CT.int, CT.slice (some 3)] v43 fun n45 n46 l47 =>
                                 onNil c44
                                  (bc (!b30)
                                   (gd
                                    (below 0
                                      (V.tup
                                       [V.agg
                                         [V.vec AM.Mode.plain (some 3) l17, V.int n18, V.int n19,
                                          V.vec AM.Mode.plain (some 3) l20, V.bool b21],
                                        V.agg [V.int 0, V.int 0, V.vec AM.Mode.plain (some 3) []], V.int 1]) &&
                                     belowSt 0 [])
                                    (some
                                     (Out.ret
                                       (V.tup
                                        [V.agg
                                          [V.vec AM.Mode.plain (some 3) l17, V.int n18, V.int n19,
                                           V.vec AM.Mode.plain (some 3) l20, V.bool b21],
                                         V.agg [V.int 0, V.int 0, V.vec AM.Mode.plain (some 3) []], V.int 1]),
                                      [])))
                                   (bc (decide (n24 < 0))
                                    (gd
                                     (below 0
                                       (V.tup
                                        [V.agg
                                          [V.vec AM.Mode.plain (some 3) l17, V.int n18, V.int n19,
                                           V.vec AM.Mode.plain (some 3) l20, V.bool b21],
                                         V.agg [V.int 0, V.int 0, V.vec AM.Mode.plain (some 3) []], V.int 1]) &&
                                      belowSt 0 [])
                                     (some
                                      (Out.ret
                                        (V.tup
                                         [V.agg
                                           [V.vec AM.Mode.plain (some 3) l17, V.int n18, V.int n19,
                                            V.vec AM.Mode.plain (some 3) l20, V.bool b21],
                                          V.agg [V.int 0, V.int 0, V.vec AM.Mode.plain (some 3) []], V.int 1]),
                                       [])))
                                    (bc (decide (IntKind.i64.wrap ((↑l27.length : Int) + (↑l42.length : Int)) > 40))
                                     (gd
                                      (below 0
                                        (V.tup
                                         [V.agg
                                           [V.vec AM.Mode.plain (some 3) l17, V.int n18, V.int n19,
                                            V.vec AM.Mode.plain (some 3) l20, V.bool b21],
                                          V.agg [V.int 0, V.int 0, V.vec AM.Mode.plain (some 3) []], V.int 1]) &&
                                       belowSt 0 [])
                                      (some
                                       (Out.ret
                                         (V.tup
                                          [V.agg
                                            [V.vec AM.Mode.plain (some 3) l17, V.int n18, V.int n19,
                                             V.vec AM.Mode.plain (some 3) l20, V.bool b21],
                                           V.agg [V.int 0, V.int 0, V.vec AM.Mode.plain (some 3) []], V.int 1]),
                                        [])))
                                     (gd (true && roomFor Try.prog 24 (0 + l27.length))
                                      (gd (true && roomFor Try.prog 24 (([] ++ l27).length + l42.length))
                                       (obind
                                        (O.loop 11 13
                                         [V.loc true (some 5) v8, V.loc true (some 3) v12,
                                          V.loc false (some 5)
                                           (V.agg
                                            [V.vec AM.Mode.plain (some 3) l17, V.int n18, V.int n19,
                                             V.vec AM.Mode.plain (some 3) l20, V.bool b21]),
                                          V.int 0, V.vec Mode.grow (some 3) ([] ++ l27 ++ l42),
                                          V.loc false (some 3)
                                           (V.agg [V.int n45, V.int n46, V.vec AM.Mode.plain (some 3) l47]),
                                          V.vec AM.Mode.plain (some 3) l42, V.int n24]
                                         r3.snd.snd)
                                        fun r48 =>
                                        onEx r48.fst none
                                         (onCons r48.snd.fst fun v49 c50 =>
                                          onLoc (some 5) v49 fun d51 v52 =>
                                           onCons c50 fun v53 c54 =>
                                            onLoc (some 3) v53 fun d55 v56 =>
                                             onCons c54 fun v57 c58 =>
                                              onInt v57 fun n59 =>
                                               onNil c58
                                                (gd (below 0 (V.tup [cleanV v52, cleanV v56, V.int n59]) && belowSt 0 [])
                                                 (some (Out.ret (V.tup [cleanV v52, cleanV v56, V.int n59]), []))))
                                         (fun i60 =>
                                          bc (i60.beq 2)
                                           (onCons r48.snd.fst fun v61 c62 =>
                                            onLoc (some 5) v61 fun d63 v64 =>
                                             onCons c62 fun v65 c66 =>
                                              onLoc (some 3) v65 fun d67 v68 =>
                                               onCons c66 fun v69 c70 =>
                                                onLoc (some 5) v69 fun d71 v72 =>
                                                 onStruct [CT.slice (some 3), CT.int, CT.int, CT.slice (some 3), CT.bool]
                                                  (bif d71 then cleanV v72 else v72) fun l73 n74 n75 l76 b77 =>
                                                  onCons c70 fun v78 c79 =>
                                                   onLoc (some 3) v78 fun d80 v81 =>
                                                    onStruct [CT.int, CT.int, CT.slice (some 3)]
                                                     (bif d80 then cleanV v81 else v81) fun n82 n83 l84 =>
                                                     onCons c79 fun v85 c86 =>
                                                      onRoom (some 3) v85 fun l87 =>
                                                       onCons c86 fun v88 c89 =>
                                                        onVec (some 3) v88 fun l90 =>
                                                         onCons c89 fun v91 c92 =>
                                                          onInt v91 fun n93 =>
                                                           onNil c92
                                                            (bc (n82 != 2)
                                                             (gd
                                                              (below 0
                                                                (V.tup
                                                                 [V.agg
                                                                   [V.vec AM.Mode.plain (some 3) l73, V.int n74, V.int n75,
                                                                    V.vec AM.Mode.plain (some 3) l76, V.bool b77],
                                                                  V.agg [V.int 0, V.int 0, V.vec AM.Mode.plain (some 3) []],
                                                                  V.int 5]) &&
                                                               belowSt 0 [])
                                                              (some
                                                               (Out.ret
                                                                 (V.tup
                                                                  [V.agg
                                                                    [V.vec AM.Mode.plain (some 3) l73, V.int n74, V.int n75,
                                                                     V.vec AM.Mode.plain (some 3) l76, V.bool b77],
                                                                   V.agg
                                                                    [V.int 0, V.int 0, V.vec AM.Mode.plain (some 3) []],
                                                                   V.int 5]),
                                                                [])))
                                                             (obind (pcall O 28 [V.int (↑l87.length : Int)]) fun r94 =>
                                                              onStruct [CT.slice (some 3), CT.int] r94 fun l95 n96 =>
                                                               obind
                                                                (O.loop 11 21
                                                                 [V.int 0,
                                                                  V.loc false (some 3)
                                                                   (V.agg
                                                                    [V.int 6, V.int n93, V.vec AM.Mode.plain (some 3) l95]),
                                                                  V.loc true (some 5) v64, V.loc true (some 3) v68,
                                                                  V.loc false (some 3)
                                                                   (V.agg
                                                                    [V.int n82, V.int n83,
                                                                     V.vec AM.Mode.plain (some 3) l84]),
                                                                  V.vec Mode.grow (some 3) l87,
                                                                  V.vec AM.Mode.plain (some 3) l90]
                                                                 r48.snd.snd)
                                                                fun r97 =>
                                                                onEx r97.fst none none
                                                                 (fun i98 =>
                                                                  bc (i98.beq 4)
                                                                   (onCons r97.snd.fst fun v99 c100 =>
                                                                    onLoc (some 5) v99 fun d101 v102 =>
                                                                     onCons c100 fun v103 c104 =>
                                                                      onLoc (some 3) v103 fun d105 v106 =>
                                                                       onCons c104 fun v107 c108 =>
                                                                        onLoc (some 3) v107 fun d109 v110 =>
                                                                         onStruct [CT.int, CT.int, CT.slice (some 3)]
                                                                          (bif d109 then cleanV v110 else v110)
                                                                          fun n111 n112 l113 =>
                                                                          onCons c108 fun v114 c115 =>
                                                                           onLoc (some 3) v114 fun d116 v117 =>
                                                                            onStruct [CT.int, CT.int, CT.slice (some 3)]
                                                                             (bif d116 then cleanV v117 else v117)
                                                                             fun n118 n119 l120 =>
                                                                             onCons c115 fun v121 c122 =>
                                                                              onRoom (some 3) v121 fun l123 =>
                                                                               onNil c122
                                                                                (gd
                                                                                 (below 0
                                                                                   (V.tup
                                                                                    [V.agg
                                                                                      [V.vec AM.Mode.plain (some 3) l123,
                                                                                       V.int n118, V.int n119,
                                                                                       V.vec AM.Mode.plain (some 3) l120,
                                                                                       V.bool false],
                                                                                     V.agg
                                                                                      [V.int n111, V.int n112,
                                                                                       V.vec AM.Mode.plain (some 3) l113],
                                                                                     V.int 0]) &&
                                                                                  belowSt 0 [])
                                                                                 (some
                                                                                  (Out.ret
                                                                                    (V.tup
                                                                                     [V.agg
                                                                                       [V.vec AM.Mode.plain (some 3) l123,
                                                                                        V.int n118, V.int n119,
                                                                                        V.vec AM.Mode.plain (some 3) l120,
                                                                                        V.bool false],
                                                                                      V.agg
                                                                                       [V.int n111, V.int n112,
                                                                                        V.vec AM.Mode.plain (some 3) l113],
                                                                                      V.int 0]),
                                                                                   []))))
                                                                   none)
                                                                 fun v124 => none)))
                                           none)
                                         fun v125 => none))))))))
          none)
        fun v126 => none := by kernel_rfl

theorem e_rgenL1 (O : Oracle) (i n k h : Int) (b : Bool) (xs ys ws vs : List V) (a1 a2 : Int) (a0 a3 : List V) (a4 : Bool) : loopBody Try.prog cfg O 11 4 [.int i, .bool b, .vec .plain (some 3) xs, .loc true (some 5) (.agg ws), .loc true (some 3) (.agg vs), .loc false (some 5) (.agg [.vec .plain (some 3) a0, .int a1, .int a2, .vec .plain (some 3) a3, .bool a4]), .int n, .loc false (some 3) (.agg [.int k, .int h, .vec .plain (some 3) ys])] [] =
    bc (decide (i < (↑xs.length : Int)))
     (gd (decide (0 ≤ i) && decide (i < (↑xs.length : Int)))
      (onStruct [CT.int, CT.int, CT.slice (some 3)] (getI xs i) fun n1 n2 l3 =>
       obind (pcall O 26 [V.agg [V.int n1, V.int n2, V.vec AM.Mode.plain (some 3) l3]]) fun r4 =>
        onBool r4 fun b5 =>
         bc b
          (O.2 11 4
           [V.int (IntKind.i64.wrap (i + 1)), V.bool b5, V.vec AM.Mode.plain (some 3) xs, V.loc true (some 5) (V.agg ws),
            V.loc true (some 3) (V.agg vs),
            V.loc false (some 5)
             (V.agg [V.vec AM.Mode.plain (some 3) a0, V.int a1, V.int a2, V.vec AM.Mode.plain (some 3) a3, V.bool a4]),
            V.int n, V.loc false (some 3) (V.agg [V.int k, V.int h, V.vec AM.Mode.plain (some 3) ys])]
           [])
          (O.2 11 4
           [V.int (IntKind.i64.wrap (i + 1)), V.bool false, V.vec AM.Mode.plain (some 3) xs, V.loc true (some 5) (V.agg ws),
            V.loc true (some 3) (V.agg vs),
            V.loc false (some 5)
             (V.agg [V.vec AM.Mode.plain (some 3) a0, V.int a1, V.int a2, V.vec AM.Mode.plain (some 3) a3, V.bool a4]),
            V.int n, V.loc false (some 3) (V.agg [V.int k, V.int h, V.vec AM.Mode.plain (some 3) ys])]
           [])))
     (some
      (Ex.exit 0,
       [V.loc true (some 5) (V.agg ws), V.loc true (some 3) (V.agg vs),
        V.loc false (some 5)
         (V.agg [V.vec AM.Mode.plain (some 3) a0, V.int a1, V.int a2, V.vec AM.Mode.plain (some 3) a3, V.bool a4]),
        V.int n, V.vec AM.Mode.plain (some 3) xs, V.bool b,
        V.loc false (some 3) (V.agg [V.int k, V.int h, V.vec AM.Mode.plain (some 3) ys])],
       [])) := by kernel_rfl

theorem e_rgenL2 (O : Oracle) (i n k h : Int) (xs ys zs ws vs : List V) (a1 a2 : Int) (a0 a3 : List V) (a4 : Bool) : loopBody Try.prog cfg O 11 13 [.loc true (some 5) (.agg ws), .loc true (some 3) (.agg vs), .loc false (some 5) (.agg [.vec .plain (some 3) a0, .int a1, .int a2, .vec .plain (some 3) a3, .bool a4]), .int i, .vec .grow (some 3) zs, .loc false (some 3) (.agg [.int k, .int h, .vec .plain (some 3) ys]), .vec .plain (some 3) xs, .int n] [] =
    bc (decide (i < (↑zs.length : Int)))
     (gd (decide (0 ≤ i) && decide (i < (↑zs.length : Int)))
      (onAgg (getI zs i) fun c1 =>
       gd (decide (1 ≤ c1.length))
        (onInt (AM.partOf c1 0 none) fun n2 =>
         bc (n2 != 2)
          (some
           (Ex.ret,
            [V.loc false (some 5)
              (V.agg [V.vec AM.Mode.plain (some 3) a0, V.int a1, V.int a2, V.vec AM.Mode.plain (some 3) a3, V.bool a4]),
             V.loc false (some 3) (V.agg [V.int 0, V.int 0, V.vec AM.Mode.plain (some 3) []]), V.int 5],
            []))
          (O.2 11 13
           [V.loc true (some 5) (V.agg ws), V.loc true (some 3) (V.agg vs),
            V.loc false (some 5)
             (V.agg [V.vec AM.Mode.plain (some 3) a0, V.int a1, V.int a2, V.vec AM.Mode.plain (some 3) a3, V.bool a4]),
            V.int (IntKind.i64.wrap (i + 1)), V.vec Mode.grow (some 3) zs,
            V.loc false (some 3) (V.agg [V.int k, V.int h, V.vec AM.Mode.plain (some 3) ys]),
            V.vec AM.Mode.plain (some 3) xs, V.int n]
           []))))
     (some
      (Ex.exit 2,
       [V.loc true (some 5) (V.agg ws), V.loc true (some 3) (V.agg vs),
        V.loc false (some 5)
         (V.agg [V.vec AM.Mode.plain (some 3) a0, V.int a1, V.int a2, V.vec AM.Mode.plain (some 3) a3, V.bool a4]),
        V.loc false (some 3) (V.agg [V.int k, V.int h, V.vec AM.Mode.plain (some 3) ys]), V.vec Mode.grow (some 3) zs,
        V.vec AM.Mode.plain (some 3) xs, V.int n],
       [])) := by kernel_rfl

theorem e_rgenL3 (O : Oracle) (i k h k2 h2 : Int) (xs ys zs ws vs us : List V) : loopBody Try.prog cfg O 11 21 [.int i, .loc false (some 3) (.agg [.int k, .int h, .vec .plain (some 3) xs]), .loc true (some 5) (.agg ws), .loc true (some 3) (.agg vs), .loc false (some 3) (.agg [.int k2, .int h2, .vec .plain (some 3) ys]), .vec .grow (some 3) zs, .vec .plain (some 3) us] [] =
    bc (decide (i < (↑us.length : Int)))
     (O.2 11 21
      [V.int (IntKind.i64.wrap (i + 1)),
       V.loc false (some 3)
        (V.agg
         [V.int 3, V.int 0, V.vec AM.Mode.plain (some 3) [V.agg [V.int k, V.int h, V.vec AM.Mode.plain (some 3) xs]]]),
       V.loc true (some 5) (V.agg ws), V.loc true (some 3) (V.agg vs),
       V.loc false (some 3) (V.agg [V.int k2, V.int h2, V.vec AM.Mode.plain (some 3) ys]), V.vec Mode.grow (some 3) zs,
       V.vec AM.Mode.plain (some 3) us]
      [])
     (some
      (Ex.exit 4,
       [V.loc true (some 5) (V.agg ws), V.loc true (some 3) (V.agg vs),
        V.loc false (some 3) (V.agg [V.int k, V.int h, V.vec AM.Mode.plain (some 3) xs]),
        V.loc false (some 3) (V.agg [V.int k2, V.int h2, V.vec AM.Mode.plain (some 3) ys]), V.vec Mode.grow (some 3) zs],
       [])) := by kernel_rfl

end Go.Proofs.G16

namespace Go.Proofs.G16
open Go Go.AM
set_option maxRecDepth 20000

theorem e_awake (O : Oracle)  : callBody Try.prog cfg O 7 [] [] =
    obind
     (pcall O 10
      [V.vec AM.Mode.plain (some 3) [],
       V.agg
        [V.int 1, V.int 0,
         V.vec AM.Mode.plain (some 3)
          [V.agg [V.int 2, V.int 0, V.vec AM.Mode.plain (some 3) []],
           V.agg [V.int 2, V.int 0, V.vec AM.Mode.plain (some 3) []]]],
       V.int 3])
     fun r1 =>
     onTup r1 fun c2 =>
      onCons c2 fun v3 c4 =>
       onStruct [CT.slice (some 3), CT.int, CT.int, CT.slice (some 3), CT.bool] v3 fun l5 n6 n7 l8 b9 =>
        onCons c4 fun v10 c11 =>
         onStruct [CT.int, CT.int, CT.slice (some 3)] v10 fun n12 n13 l14 =>
          onCons c11 fun v15 c16 =>
           onInt v15 fun n17 =>
            onNil c16
             (bc (n17 == 0)
              (bc ((↑l5.length : Int) == 1)
               (bc (n6 == 2)
                (bc (n12 == 3)
                 (bc ((↑l14.length : Int) == 1)
                  (gd (true && decide (0 < (↑l14.length : Int)))
                   (onAgg (getI l14 0) fun c18 =>
                    gd (decide (1 ≤ c18.length))
                     (onInt (AM.partOf c18 0 none) fun n19 =>
                      bc (n19 == 6)
                       (gd (true && decide (0 < (↑l14.length : Int)))
                        (onAgg (getI l14 0) fun c20 =>
                         gd (decide (2 ≤ c20.length))
                          (onInt (AM.partOf c20 1 none) fun n21 =>
                           bc (n21 == 3)
                            (gd (true && decide (0 < (↑l14.length : Int)))
                             (onAgg (getI l14 0) fun c22 =>
                              gd (decide (3 ≤ c22.length))
                               (onVec (some 3) (AM.partOf c22 2 none) fun l23 =>
                                some (Out.ret (V.bool ((↑l23.length : Int) == 1)), []))))
                            (some (Out.ret (V.bool false), [])))))
                       (some (Out.ret (V.bool false), [])))))
                  (some (Out.ret (V.bool false), [])))
                 (some (Out.ret (V.bool false), [])))
                (some (Out.ret (V.bool false), [])))
               (some (Out.ret (V.bool false), [])))
              (some (Out.ret (V.bool false), []))) := by kernel_rfl

theorem e_tells (O : Oracle) (k h n : Int) (xs ys : List V) : callBody Try.prog cfg O 3 [.vec .plain (some 3) xs, .agg [.int k, .int h, .vec .plain (some 3) ys], .int n] [] =
    obind (pcall O 7 []) fun r1 =>
     onBool r1 fun b2 =>
      obind (pcall O 8 [V.vec AM.Mode.plain (some 3) xs, V.int 500, V.int 80]) fun r3 =>
       onBool r3 fun b4 =>
        obind (pcall O 9 [V.agg [V.int k, V.int h, V.vec AM.Mode.plain (some 3) ys], V.int 500, V.int 80]) fun r5 =>
         onBool r5 fun b6 =>
          bc (!b2) (some (Out.ret (V.bool b2), []))
           (bc (!b4) (some (Out.ret (V.bool b2), []))
            (bc (!b6) (some (Out.ret (V.bool b2), []))
             (obind
              (pcall O 10
               [V.vec AM.Mode.plain (some 3) xs, V.agg [V.int k, V.int h, V.vec AM.Mode.plain (some 3) ys], V.int n])
              fun r7 =>
              onTup r7 fun c8 =>
               onCons c8 fun v9 c10 =>
                onStruct [CT.slice (some 3), CT.int, CT.int, CT.slice (some 3), CT.bool] v9 fun l11 n12 n13 l14 b15 =>
                 onCons c10 fun v16 c17 =>
                  onStruct [CT.int, CT.int, CT.slice (some 3)] v16 fun n18 n19 l20 =>
                   onCons c17 fun v21 c22 =>
                    onInt v21 fun n23 =>
                     onNil c22
                      (obind
                       (pcall O 11
                        [V.vec AM.Mode.plain (some 3) xs, V.agg [V.int k, V.int h, V.vec AM.Mode.plain (some 3) ys],
                         V.int n])
                       fun r24 =>
                       onTup r24 fun c25 =>
                        onCons c25 fun v26 c27 =>
                         onStruct [CT.slice (some 3), CT.int, CT.int, CT.slice (some 3), CT.bool] v26
                          fun l28 n29 n30 l31 b32 =>
                          onCons c27 fun v33 c34 =>
                           onStruct [CT.int, CT.int, CT.slice (some 3)] v33 fun n35 n36 l37 =>
                            onCons c34 fun v38 c39 =>
                             onInt v38 fun n40 =>
                              onNil c39
                               (obind (pcall O 12 [V.vec AM.Mode.plain (some 3) l11, V.vec AM.Mode.plain (some 3) l28])
                                fun r41 =>
                                onBool r41 fun b42 =>
                                 obind
                                  (pcall O 13
                                   [V.agg [V.int n12, V.int n13, V.vec AM.Mode.plain (some 3) l14],
                                    V.agg [V.int n29, V.int n30, V.vec AM.Mode.plain (some 3) l31]])
                                  fun r43 =>
                                  onBool r43 fun b44 =>
                                   obind
                                    (pcall O 13
                                     [V.agg [V.int n18, V.int n19, V.vec AM.Mode.plain (some 3) l20],
                                      V.agg [V.int n35, V.int n36, V.vec AM.Mode.plain (some 3) l37]])
                                    fun r45 =>
                                    onBool r45 fun b46 =>
                                     bc b42
                                      (bc b44
                                       (bc b46
                                        (bc (n23 == n40) (some (Out.ret (V.bool (b15 == b32)), []))
                                         (some (Out.ret (V.bool false), [])))
                                        (some (Out.ret (V.bool false), [])))
                                       (some (Out.ret (V.bool false), [])))
                                      (some (Out.ret (V.bool false), []))))))) := by kernel_rfl

theorem e_outside (O : Oracle) (k h k2 h2 : Int) (xs ys zs : List V) : callBody Try.prog cfg O 4 [.vec .plain (some 3) xs, .agg [.int k, .int h, .vec .plain (some 3) ys], .agg [.int k2, .int h2, .vec .plain (some 3) zs]] [] =
    obind (pcall O 7 []) fun r1 =>
     onBool r1 fun b2 =>
      obind (pcall O 8 [V.vec AM.Mode.plain (some 3) xs, V.int 500, V.int 80]) fun r3 =>
       onBool r3 fun b4 =>
        obind (pcall O 9 [V.agg [V.int k, V.int h, V.vec AM.Mode.plain (some 3) ys], V.int 500, V.int 80]) fun r5 =>
         onBool r5 fun b6 =>
          obind (pcall O 9 [V.agg [V.int k2, V.int h2, V.vec AM.Mode.plain (some 3) zs], V.int 500, V.int 60]) fun r7 =>
           onBool r7 fun b8 =>
            bc (!b2) (some (Out.ret (V.bool b2), []))
             (bc (!b4) (some (Out.ret (V.bool b2), []))
              (bc (!b6) (some (Out.ret (V.bool b2), []))
               (bc (!b8) (some (Out.ret (V.bool b2), []))
                (obind (pcall O 14 [V.agg [V.int k2, V.int h2, V.vec AM.Mode.plain (some 3) zs]]) fun r9 =>
                 onBool r9 fun b10 =>
                  bc (!b10) (some (Out.ret (V.bool b2), []))
                   (obind
                    (pcall O 10
                     [V.vec AM.Mode.plain (some 3) xs, V.agg [V.int k, V.int h, V.vec AM.Mode.plain (some 3) ys], V.int 0])
                    fun r11 =>
                    onTup r11 fun c12 =>
                     onCons c12 fun v13 c14 =>
                      onStruct [CT.slice (some 3), CT.int, CT.int, CT.slice (some 3), CT.bool] v13
                       fun l15 n16 n17 l18 b19 =>
                       onCons c14 fun v20 c21 =>
                        onStruct [CT.int, CT.int, CT.slice (some 3)] v20 fun n22 n23 l24 =>
                         onCons c21 fun v25 c26 =>
                          onInt v25 fun n27 =>
                           onNil c26
                            (gd
                             (true &&
                              roomFor Try.prog 24
                               ([V.agg [V.int k2, V.int h2, V.vec AM.Mode.plain (some 3) zs]].length + xs.length))
                             (obind
                              (pcall O 10
                               [V.vec AM.Mode.plain (some 3)
                                 (V.agg [V.int k2, V.int h2, V.vec AM.Mode.plain (some 3) zs] :: xs),
                                V.agg [V.int k, V.int h, V.vec AM.Mode.plain (some 3) ys], V.int 0])
                              fun r28 =>
                              onTup r28 fun c29 =>
                               onCons c29 fun v30 c31 =>
                                onStruct [CT.slice (some 3), CT.int, CT.int, CT.slice (some 3), CT.bool] v30
                                 fun l32 n33 n34 l35 b36 =>
                                 onCons c31 fun v37 c38 =>
                                  onStruct [CT.int, CT.int, CT.slice (some 3)] v37 fun n39 n40 l41 =>
                                   onCons c38 fun v42 c43 =>
                                    onInt v42 fun n44 =>
                                     onNil c43
                                      (bc (n27 != 0)
                                       (bc (n44 == n27) (some (Out.ret (V.bool true), []))
                                        (some (Out.ret (V.bool (n44 == 1)), [])))
                                       (bc (k2 != 2)
                                        (bc (n44 == 5) (some (Out.ret (V.bool true), []))
                                         (some (Out.ret (V.bool (n44 == 1)), [])))
                                        (bc (n44 == 0) (some (Out.ret (V.bool true), []))
                                         (some (Out.ret (V.bool (n44 == 1)), [])))))))))))) := by kernel_rfl

theorem e_shape (O : Oracle) (k h n : Int) (xs ys : List V) : callBody Try.prog cfg O 5 [.vec .plain (some 3) xs, .agg [.int k, .int h, .vec .plain (some 3) ys], .int n] [] =
    obind (pcall O 7 []) fun r1 =>
     onBool r1 fun b2 =>
      obind (pcall O 8 [V.vec AM.Mode.plain (some 3) xs, V.int 500, V.int 80]) fun r3 =>
       onBool r3 fun b4 =>
        obind (pcall O 9 [V.agg [V.int k, V.int h, V.vec AM.Mode.plain (some 3) ys], V.int 500, V.int 80]) fun r5 =>
         onBool r5 fun b6 =>
          bc (!b2) (some (Out.ret (V.bool b2), []))
           (bc (!b4) (some (Out.ret (V.bool b2), []))
            (bc (!b6) (some (Out.ret (V.bool b2), []))
             (obind
              (pcall O 10
               [V.vec AM.Mode.plain (some 3) xs, V.agg [V.int k, V.int h, V.vec AM.Mode.plain (some 3) ys], V.int n])
              fun r7 =>
              onTup r7 fun c8 =>
               onCons c8 fun v9 c10 =>
                onStruct [CT.slice (some 3), CT.int, CT.int, CT.slice (some 3), CT.bool] v9 fun l11 n12 n13 l14 b15 =>
                 onCons c10 fun v16 c17 =>
                  onStruct [CT.int, CT.int, CT.slice (some 3)] v16 fun n18 n19 l20 =>
                   onCons c17 fun v21 c22 =>
                    onInt v21 fun n23 =>
                     onNil c22
                      (bc (n23 != 0)
                       (bc ((↑l11.length : Int) == 0) (some (Out.ret (V.bool ((↑l20.length : Int) == 0)), []))
                        (some (Out.ret (V.bool false), [])))
                       (obind (pcall O 15 [V.agg [V.int k, V.int h, V.vec AM.Mode.plain (some 3) ys]]) fun r24 =>
                        onTup r24 fun c25 =>
                         onCons c25 fun v26 c27 =>
                          onVec (some 3) v26 fun l28 =>
                           onCons c27 fun v29 c30 =>
                            onStruct [CT.int, CT.int, CT.slice (some 3)] v29 fun n31 n32 l33 =>
                             onNil c30
                              (obind
                               (O.loop 5 11
                                [V.int 0,
                                 V.loc false (some 3) (V.agg [V.int n18, V.int n19, V.vec AM.Mode.plain (some 3) l20]),
                                 V.loc false (some 5)
                                  (V.agg
                                   [V.vec AM.Mode.plain (some 3) l11, V.int n12, V.int n13,
                                    V.vec AM.Mode.plain (some 3) l14, V.bool b15]),
                                 V.loc false (some 3) (V.agg [V.int n31, V.int n32, V.vec AM.Mode.plain (some 3) l33]),
                                 V.vec AM.Mode.plain (some 3) l28, V.vec AM.Mode.plain (some 3) xs, V.int n]
                                [])
                               fun r34 =>
                               onEx r34.fst none
                                (onCons r34.snd.fst fun v35 c36 =>
                                 onBool v35 fun b37 => onNil c36 (some (Out.ret (V.bool b37), [])))
                                (fun i38 =>
                                 bc (i38.beq 0)
                                  (onCons r34.snd.fst fun v39 c40 =>
                                   onLoc (some 5) v39 fun d41 v42 =>
                                    onStruct [CT.slice (some 3), CT.int, CT.int, CT.slice (some 3), CT.bool]
                                     (bif d41 then cleanV v42 else v42) fun l43 n44 n45 l46 b47 =>
                                     onCons c40 fun v48 c49 =>
                                      onLoc (some 3) v48 fun d50 v51 =>
                                       onStruct [CT.int, CT.int, CT.slice (some 3)] (bif d50 then cleanV v51 else v51)
                                        fun n52 n53 l54 =>
                                        onCons c49 fun v55 c56 =>
                                         onVec (some 3) v55 fun l57 =>
                                          onCons c56 fun v58 c59 =>
                                           onVec (some 3) v58 fun l60 =>
                                            onCons c59 fun v61 c62 =>
                                             onLoc (some 3) v61 fun d63 v64 =>
                                              onStruct [CT.int, CT.int, CT.slice (some 3)]
                                               (bif d63 then cleanV v64 else v64) fun n65 n66 l67 =>
                                               onCons c62 fun v68 c69 =>
                                                onInt v68 fun n70 =>
                                                 onNil c69
                                                  (bc (n65 == 6)
                                                   (bc (n66 == n70)
                                                    (bc ((↑l67.length : Int) == (↑l43.length : Int))
                                                     (bc
                                                      ((↑l43.length : Int) ==
                                                       IntKind.i64.wrap ((↑l60.length : Int) + (↑l57.length : Int)))
                                                      (obind
                                                       (pcall O 16
                                                        [V.agg [V.int n44, V.int n45, V.vec AM.Mode.plain (some 3) l46],
                                                         V.agg [V.int n52, V.int n53, V.vec AM.Mode.plain (some 3) l54]])
                                                       fun r71 =>
                                                       onBool r71 fun b72 =>
                                                        bc b72 (some (Out.ret (V.bool !b47), []))
                                                         (some (Out.ret (V.bool false), [])))
                                                      (some (Out.ret (V.bool false), [])))
                                                     (some (Out.ret (V.bool false), [])))
                                                    (some (Out.ret (V.bool false), [])))
                                                   (some (Out.ret (V.bool false), []))))
                                  none)
                                fun v73 => none)))))) := by kernel_rfl

theorem e_shapeL (O : Oracle) (i n k h k2 h2 a1 a2 : Int) (xs ys zs a0 a3 us : List V) (a4 : Bool) : loopBody Try.prog cfg O 5 11 [.int i, .loc false (some 3) (.agg [.int k, .int h, .vec .plain (some 3) xs]), .loc false (some 5) (.agg [.vec .plain (some 3) a0, .int a1, .int a2, .vec .plain (some 3) a3, .bool a4]), .loc false (some 3) (.agg [.int k2, .int h2, .vec .plain (some 3) ys]), .vec .plain (some 3) zs, .vec .plain (some 3) us, .int n] [] =
    bc (decide (i < (↑zs.length : Int)))
     (bc (k != 3) (some (Ex.ret, [V.bool false], []))
      (bc ((↑xs.length : Int) != 1) (some (Ex.ret, [V.bool false], []))
       (gd (true && decide (0 < (↑xs.length : Int)))
        (onStruct [CT.int, CT.int, CT.slice (some 3)] (getI xs 0) fun n1 n2 l3 =>
         O.2 5 11
          [V.int (IntKind.i64.wrap (i + 1)),
           V.loc false (some 3) (V.agg [V.int n1, V.int n2, V.vec AM.Mode.plain (some 3) l3]),
           V.loc false (some 5)
            (V.agg [V.vec AM.Mode.plain (some 3) a0, V.int a1, V.int a2, V.vec AM.Mode.plain (some 3) a3, V.bool a4]),
           V.loc false (some 3) (V.agg [V.int k2, V.int h2, V.vec AM.Mode.plain (some 3) ys]),
           V.vec AM.Mode.plain (some 3) zs, V.vec AM.Mode.plain (some 3) us, V.int n]
          []))))
     (some
      (Ex.exit 0,
       [V.loc false (some 5)
         (V.agg [V.vec AM.Mode.plain (some 3) a0, V.int a1, V.int a2, V.vec AM.Mode.plain (some 3) a3, V.bool a4]),
        V.loc false (some 3) (V.agg [V.int k2, V.int h2, V.vec AM.Mode.plain (some 3) ys]), V.vec AM.Mode.plain (some 3) zs,
        V.vec AM.Mode.plain (some 3) us, V.loc false (some 3) (V.agg [V.int k, V.int h, V.vec AM.Mode.plain (some 3) xs]),
        V.int n],
       [])) := by kernel_rfl

end Go.Proofs.G16
