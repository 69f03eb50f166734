import Derived.Test.YtimpnjmegmpgdaaGa
import Derived.KernelRfl
import Derived.Test.YtimpnjmegmpgdaaAMd
/- The program's functions, each an equation of the abstract machine checked by the kernel, and what they come to as_ plain Lean. -/
set_option linter.unusedVariables false
set_option linter.unusedSimpArgs false
set_option linter.unusedSectionVars false
namespace Go.Proofs.GT
open Go Go.AM
set_option maxRecDepth 20000

theorem e_slices_ContainsFunc_api_MetaDecl_api_MetaDecl (O : Oracle) (l0 : (List V)) (g1 : Nat) (l2 : (List V)) (l3 : (List V)) (st : St) : callBody Try.prog cfg O 48 [.vec .plain (some 5) l0, .fn g1 l2 l3] st =
  obind (O.call 69 [V.vec .plain (some 5) l0, V.fn g1 l2 l3] st) fun r1 => onRet r1.fst (fun v2 => onInt v2 fun n3 => gcE (List.length st)
  (V.bool (decide (n3 ≥ 0))) r1.snd) fun p4 => none := by kernel_rfl

theorem e_slices_IndexFunc_api_MetaDecl_api_MetaDecl (O : Oracle) (l0 : (List V)) (g1 : Nat) (l2 : (List V)) (l3 : (List V)) (st : St) : callBody Try.prog cfg O 69 [.vec .plain (some 5) l0, .fn g1 l2 l3] st =
  obind (O.loop 69 2 [V.int 0, V.vec .plain (some 5) l0, V.fn g1 l2 l3, V.int (↑l0.length : Int)] st) fun r1 => onEx r1.fst none (onCons
  r1.snd.fst fun v2 c3 => onInt v2 fun n4 => onNil c3 (gcE (List.length st) (V.int n4) r1.snd.snd)) (fun i5 => bc (i5.beq 0) (onNil r1.snd.fst (gcE (List.length st) (V.int (-1))
  r1.snd.snd)) none) fun v6 => none := by kernel_rfl

theorem e_slices_IndexFunc_api_MetaDecl_api_MetaDecl_L2 (O : Oracle) (n0 : Int) (l1 : (List V)) (g2 : Nat) (l3 : (List V)) (l4 : (List V)) (n5 : Int) (st : St) : loopBody Try.prog cfg O 69 2 [.int n0, .vec .plain (some 5) l1, .fn g2 l3 l4, .int n5] st =
  bc (decide (n0 < n5)) (gd (decide (0 ≤ n0) && decide (n0 < (↑l1.length : Int))) (onStruct [CT.slice (some 3), CT.int, CT.int, CT.slice (some 3), CT.bool] (getI l1 n0) fun l1_1 n2
  n3 l4_1 b5 => bc (cfg.pure g2) (obind (pcall O g2 (l3 ++ [V.agg [V.vec .plain (some 3) l1_1, V.int n2, V.int n3, V.vec .plain (some 3) l4_1, V.bool b5]] ++ l4)) fun r6 => onBool
  r6 fun b7 => bc b7 (some (Ex.ret, [V.int n0], st)) (O.2 69 2 [V.int (IntKind.i64.wrap (n0 + 1)), V.vec .plain (some 5) l1, V.fn g2 l3 l4,
  V.int n5] st)) (obind (O.call g2 (l3 ++ [V.agg [V.vec .plain (some 3) l1_1, V.int n2, V.int n3, V.vec .plain (some 3) l4_1, V.bool b5]] ++ l4) st) fun r8 => onRet r8.fst (fun v9
  => onBool v9 fun b10 => bc b10 (some (Ex.ret, [V.int n0], r8.snd)) (O.2 69 2 [V.int (IntKind.i64.wrap (n0 + 1)), V.vec .plain (some 5)
  l1, V.fn g2 l3 l4, V.int n5] r8.snd)) fun p11 => none))) (some (Ex.exit 0, [], st)) := by kernel_rfl

end Go.Proofs.GT

/-! Lists that hold something so: metas. -/
namespace Go.Proofs.GT
open Go Go.AM Go.Ama

theorem indexM_spec {g : Nat} {a b : List V} (hp : cfg.pure g = false) {p : M → Bool} (xs : List M) (hs : xs.length ≤ 1099511627776) (st : St) (hg : ∀ t ∈ xs, W.call g (a ++ [encM t] ++ b) st = some (.ret (.bool (p t)), st)) :
    ∀ (n i : Nat), xs.length - i = n → i ≤ xs.length → (∃ j : Nat, (xs.drop i).any p = true ∧ W.loop 69 2 [.int (i : Int), .vec .plain (some 5) (encMs xs), .fn g a b, .int xs.length] st = some (.ret, [.int (j : Int)], st)) ∨
      ((xs.drop i).any p = false ∧ W.loop 69 2 [.int (i : Int), .vec .plain (some 5) (encMs xs), .fn g a b, .int xs.length] st = some (.exit 0, [], st)) := by
  intro n
  induction n with
  | zero =>
    intro i hn hi
    have : i = xs.length := by omega
    subst this
    right
    refine ⟨by simp, ?_⟩
    rw [L, e_slices_IndexFunc_api_MetaDecl_api_MetaDecl_L2]
    simp
  | succ n ih =>
    intro i hn hi
    have hlt : i < xs.length := by omega
    have hx := hg xs[i] (List.getElem_mem hlt)
    have hd : xs.drop i = xs[i] :: xs.drop (i + 1) := List.drop_eq_getElem_cons hlt
    have hstep : W.loop 69 2 [.int (i : Int), .vec .plain (some 5) (encMs xs), .fn g a b, .int xs.length] st =
        bc (p xs[i]) (some (.ret, [.int (i : Int)], st)) (W.loop 69 2 [.int ((i + 1 : Nat) : Int), .vec .plain (some 5) (encMs xs), .fn g a b, .int xs.length] st) := by
      rw [L, e_slices_IndexFunc_api_MetaDecl_api_MetaDecl_L2, getI_encMs hlt]
      rw [wrap_id ⟨by omega, by omega⟩]
      have h1 : (i : Int) < xs.length := by omega
      have e1 : V.agg [V.vec .plain (some 3) (encs xs[i].ctx), V.int xs[i].t.k, V.int xs[i].t.h, V.vec .plain (some 3) (encs xs[i].t.args), V.bool xs[i].param] = encM xs[i] := rfl
      simp only [h1, encMs_length, Int.natCast_nonneg, decide_true, Bool.and_self, gd_true, bc_true, onM, hp, bc_false, e1, hx, obind_some', onRet_ret, onBool_bool]
      rfl
    rw [hstep, hd, List.any_cons]
    cases hpx : p xs[i] with
    | true => exact .inl ⟨i, rfl, rfl⟩
    | false =>
      simp only [bc, Bool.false_or]
      exact ih (i + 1) (by omega) (by omega)
theorem containsM_spec {g : Nat} {a b : List V} (hp : cfg.pure g = false) {p : M → Bool} (xs : List M) (hs : xs.length ≤ 1099511627776) (st : St) (hg : ∀ t ∈ xs, W.call g (a ++ [encM t] ++ b) st = some (.ret (.bool (p t)), st)) :
    W.call 48 [.vec .plain (some 5) (encMs xs), .fn g a b] st = some (.ret (.bool (xs.any p)), st) := by
  have h := indexM_spec hp xs hs st hg _ 0 rfl (Nat.zero_le _)
  rw [C, e_slices_ContainsFunc_api_MetaDecl_api_MetaDecl, C, e_slices_IndexFunc_api_MetaDecl_api_MetaDecl]
  simp only [List.drop_zero, Int.natCast_zero] at h
  rcases h with ⟨j, h1, h2⟩ | ⟨h1, h2⟩
  · simp [h2, h1, gcE_len]
  · simp [h2, h1, gcE_len]

end Go.Proofs.GT

namespace Go.Proofs.GT
open Go Go.AM
set_option maxRecDepth 20000

theorem e_check_Type (O : Oracle) (l0 : (List V)) (l1 : (List V)) (l2 : (List V)) (n3 : Int) (n4 : Int) (l5 : (List V)) : callBody Try.prog cfg O 9 [.vec .plain (some 4) l0, .vec .plain (some 5) l1, .vec .plain (some 3) l2, .agg [.int n3, .int n4, .vec .plain (some 3) l5]] [] =
  obind (pcall O 26 [V.agg [V.vec .plain (some 4) l0, V.vec .plain (some 5) l1, V.vec .plain (some 3) l2], V.vec .plain (some 3) [V.agg [V.int n3, V.int n4, V.vec
  .plain (some 3) l5]]]) fun r1 => onBool r1 fun b2 => bc (!b2) (some (Out.ret (V.int 1), [])) (obind (pcall O 27 [V.agg [V.vec .plain (some 4) l0, V.vec .plain (some
  5) l1, V.vec .plain (some 3) l2], V.agg [V.int n3, V.int n4, V.vec .plain (some 3) l5]]) fun r3 => onInt r3 fun n4 => some (Out.ret (V.int n4), [])) := by kernel_rfl

theorem e_check_Term (O : Oracle) (l0 : (List V)) (l1 : (List V)) (l2 : (List V)) (n3 : Int) (n4 : Int) (l5 : (List V)) (n6 : Int) (n7 : Int) (l8 : (List V)) : callBody Try.prog cfg O 12 [.vec .plain (some 4) l0, .vec .plain (some 5) l1, .vec .plain (some 3) l2, .agg [.int n3, .int n4, .vec .plain (some 3) l5], .agg [.int n6, .int n7, .vec .plain (some 3) l8]] [] =
  obind (pcall O 26 [V.agg [V.vec .plain (some 4) l0, V.vec .plain (some 5) l1, V.vec .plain (some 3) l2], V.vec .plain (some 3) [V.agg [V.int n3, V.int n4, V.vec
  .plain (some 3) l5], V.agg [V.int n6, V.int n7, V.vec .plain (some 3) l8]]]) fun r1 => onBool r1 fun b2 => bc (!b2) (some (Out.ret (V.int 1), [])) (obind (pcall O
  37 [V.agg [V.vec .plain (some 4) l0, V.vec .plain (some 5) l1, V.vec .plain (some 3) l2], V.agg [V.int n3, V.int n4, V.vec .plain (some 3) l5], V.agg [V.int n6,
  V.int n7, V.vec .plain (some 3) l8]]) fun r3 => onInt r3 fun n4 => some (Out.ret (V.int n4), [])) := by kernel_rfl

theorem e_check_Kind (O : Oracle) (l0 : (List V)) (l1 : (List V)) (l2 : (List V)) (n3 : Int) (n4 : Int) (l5 : (List V)) : callBody Try.prog cfg O 22 [.vec .plain (some 4) l0, .vec .plain (some 5) l1, .vec .plain (some 3) l2, .agg [.int n3, .int n4, .vec .plain (some 3) l5]] [] =
  obind (pcall O 26 [V.agg [V.vec .plain (some 4) l0, V.vec .plain (some 5) l1, V.vec .plain (some 3) l2], V.vec .plain (some 3) [V.agg [V.int n3, V.int n4, V.vec
  .plain (some 3) l5]]]) fun r1 => onBool r1 fun b2 => bc (!b2) (some (Out.ret (V.int 1), [])) (obind (pcall O 42 [V.agg [V.vec .plain (some 4) l0, V.vec .plain
  (some 5) l1, V.vec .plain (some 3) l2], V.agg [V.int n3, V.int n4, V.vec .plain (some 3) l5]]) fun r3 => onInt r3 fun n4 => some (Out.ret (V.int n4), [])) := by kernel_rfl

theorem e_check_world_may (O : Oracle) (l0 : (List V)) (l1 : (List V)) (l2 : (List V)) (l3 : (List V)) : callBody Try.prog cfg O 26 [.agg [.vec .plain (some 4) l0, .vec .plain (some 5) l1, .vec .plain (some 3) l2], .vec .plain (some 3) l3] [] =
  bc (decide ((↑l2.length : Int) > 1000)) (some (Out.ret (V.bool false), [])) (obind (O.call 32 [V.vec .plain (some 3) l3, V.fn
  44 [] []] []) fun r1 => onRet r1.fst (fun v2 => onBool v2 fun b3 => bc b3 (some (Out.ret (V.bool false), [])) (obind (O.call
  32 [V.vec .plain (some 3) l2, V.fn 44 [] []] r1.snd) fun r4 => onRet r4.fst (fun v5 => onBool v5 fun b6 => bc b6 (some
  (Out.ret (V.bool false), [])) (obind (O.call 46 [V.vec .plain (some 4) l0, V.fn 47 [] [V.cptr none (V.fn 44
  [] [])]] r4.snd) fun r7 => onRet r7.fst (fun v8 => onBool v8 fun b9 => bc (!b9) (obind (O.call 48 [V.vec .plain (some 5) l1, V.fn
  45 [] [V.cptr none (V.fn 44 [] [])]] r7.snd) fun r10 => onRet r10.fst (fun v11 => onBool v11 fun b12 => some (Out.ret (V.bool !b12), [])) fun p13
  => none) (some (Out.ret (V.bool false), []))) fun p14 => none)) fun p15 => none)) fun p16 => none) := by kernel_rfl

theorem e_check_world_typ (O : Oracle) (l0 : (List V)) (l1 : (List V)) (l2 : (List V)) (n3 : Int) (n4 : Int) (l5 : (List V)) : callBody Try.prog cfg O 27 [.agg [.vec .plain (some 4) l0, .vec .plain (some 5) l1, .vec .plain (some 3) l2], .agg [.int n3, .int n4, .vec .plain (some 3) l5]] [] =
  bc (n3 == 1) (obind (O.call 49 [V.agg [V.vec .plain (some 4) l0, V.vec .plain (some 5) l1, V.vec .plain (some 3) l2], V.agg [V.int n3, V.int n4, V.vec .plain (some
  3) l5], V.fn 27 [] []] []) fun r1 => onRet r1.fst (fun v2 => onInt v2 fun n3 => some (Out.ret (V.int n3), [])) fun p4 => none) (bc (n3 == 2) (obind (pcall O
  50 [V.agg [V.vec .plain (some 4) l0, V.vec .plain (some 5) l1, V.vec .plain (some 3) l2], V.int n4, V.bool true]) fun r5 => onTup r5 fun c6 => onCons c6 fun v7
  c8 => onStruct [CT.int, CT.int, CT.slice (some 3)] v7 fun n9 n10 l11 => onCons c8 fun v12 c13 => onInt v12 fun n14 => onNil c13 (bc (n14 == 0) (obind (pcall O 51
  [V.agg [V.vec .plain (some 4) l0, V.vec .plain (some 5) l1, V.vec .plain (some 3) l2], V.agg [V.int n9, V.int n10, V.vec .plain (some 3) l11], V.vec .plain (some 3) l5]) fun r15
  => onTup r15 fun c16 => onCons c16 fun v17 c18 => onStruct [CT.int, CT.int, CT.slice (some 3)] v17 fun n19 n20 l21 => onCons c18 fun v22 c23 => onInt v22 fun n24 => onNil c23 (bc
  (n24 == 0) (bc (n19 != 0) (some (Out.ret (V.int 3), [])) (some (Out.ret (V.int n24), []))) (some (Out.ret (V.int n24), [])))) (bc (n14 == 0) (bc (n9 != 0) (some (Out.ret (V.int
  3), [])) (some (Out.ret (V.int n14), []))) (some (Out.ret (V.int n14), []))))) (some (Out.ret (V.int 3), []))) := by kernel_rfl

theorem e_check_world_term (O : Oracle) (l0 : (List V)) (l1 : (List V)) (l2 : (List V)) (n3 : Int) (n4 : Int) (l5 : (List V)) (n6 : Int) (n7 : Int) (l8 : (List V)) : callBody Try.prog cfg O 37 [.agg [.vec .plain (some 4) l0, .vec .plain (some 5) l1, .vec .plain (some 3) l2], .agg [.int n3, .int n4, .vec .plain (some 3) l5], .agg [.int n6, .int n7, .vec .plain (some 3) l8]] [] =
  bc (n3 == 3) (bc (n6 == 1) (gd (true && decide (0 < (↑l8.length : Int))) (onStruct [CT.int, CT.int, CT.slice (some 3)] (getI l8 0) fun n1 n2 l3 => obind (pcall O
  60 [V.agg [V.vec .plain (some 4) l0, V.vec .plain (some 5) l1, V.vec .plain (some 3) l2], V.agg [V.int n1, V.int n2, V.vec .plain (some 3) l3]]) fun r4 => onStruct
  [CT.slice (some 4), CT.slice (some 5), CT.slice (some 3)] r4 fun l5_1 l6 l7 => gd (true && decide (0 < (↑l5.length : Int))) (onStruct [CT.int, CT.int, CT.slice (some 3)] (getI l5
  0) fun n8 n9 l10 => gd (true && decide (1 < (↑l8.length : Int))) (onStruct [CT.int, CT.int, CT.slice (some 3)] (getI l8 1) fun n11 n12 l13 => obind (pcall O 37
  [V.agg [V.vec .plain (some 4) l5_1, V.vec .plain (some 5) l6, V.vec .plain (some 3) l7], V.agg [V.int n8, V.int n9, V.vec .plain (some 3) l10], V.agg [V.int n11, V.int n12, V.vec
  .plain (some 3) l13]]) fun r14 => onInt r14 fun n15 => some (Out.ret (V.int n15), []))))) (bc (n3 == 3) (some (Out.ret (V.int 3), [])) (bc (n6 != 2) (some (Out.ret (V.int 3), []))
  (gd (decide (0 ≤ n3) && decide (n3 < 7)) (gd (decide (n3.toNat * 1 + 1 ≤ 7) && true) (onFnY (AM.partOf [V.fn 61 [] [], V.fn 61 [] [], V.fn
  61 [] [], V.fn 61 [] [], V.fn 62 [] [], V.fn 63 [] [], V.fn 64 [] []] (n3.toNat * 1) none)
  (fun g16 a17 b18 => bc (cfg.pure g16) (obind (pcall O g16 (a17 ++ [V.agg [V.vec .plain (some 4) l0, V.vec .plain (some 5) l1, V.vec .plain (some 3) l2], V.agg [V.int n3, V.int n4,
  V.vec .plain (some 3) l5]] ++ b18)) fun r19 => onTup r19 fun c20 => onCons c20 fun v21 c22 => onStruct [CT.int, CT.int, CT.slice (some 3)] v21 fun n23 n24 l25 => onCons c22 fun
  v26 c27 => onInt v26 fun n28 => onNil c27 (bc (n28 == 0) (obind (pcall O 65 [V.agg [V.int n23, V.int n24, V.vec .plain (some 3) l25], V.agg [V.int n6, V.int n7, V.vec
  .plain (some 3) l8]]) fun r29 => onBool r29 fun b30 => bc (!b30) (some (Out.ret (V.int 3), [])) (some (Out.ret (V.int n28), []))) (some (Out.ret (V.int n28), [])))) (obind (O.call
  g16 (a17 ++ [V.agg [V.vec .plain (some 4) l0, V.vec .plain (some 5) l1, V.vec .plain (some 3) l2], V.agg [V.int n3, V.int n4, V.vec .plain (some 3) l5]] ++ b18) []) fun r31 =>
  onRet r31.fst (fun v32 => onTup v32 fun c33 => onCons c33 fun v34 c35 => onStruct [CT.int, CT.int, CT.slice (some 3)] v34 fun n36 n37 l38 => onCons c35 fun v39 c40 => onInt v39
  fun n41 => onNil c40 (bc (n41 == 0) (obind (pcall O 65 [V.agg [V.int n36, V.int n37, V.vec .plain (some 3) l38], V.agg [V.int n6, V.int n7, V.vec .plain (some 3) l8]])
  fun r42 => onBool r42 fun b43 => bc (!b43) (some (Out.ret (V.int 3), [])) (some (Out.ret (V.int n41), []))) (some (Out.ret (V.int n41), [])))) fun p44 => none)) fun l45 =>
  none)))))) (bc (n3 == 3) (some (Out.ret (V.int 3), [])) (bc (n6 != 2) (some (Out.ret (V.int 3), [])) (gd (decide (0 ≤ n3) && decide (n3 < 7)) (gd (decide (n3.toNat * 1 + 1 ≤ 7) &&
  true) (onFnY (AM.partOf [V.fn 61 [] [], V.fn 61 [] [], V.fn 61 [] [], V.fn 61 [] [], V.fn 62 []
  [], V.fn 63 [] [], V.fn 64 [] []] (n3.toNat * 1) none) (fun g46 a47 b48 => bc (cfg.pure g46) (obind (pcall O g46 (a47 ++ [V.agg [V.vec .plain
  (some 4) l0, V.vec .plain (some 5) l1, V.vec .plain (some 3) l2], V.agg [V.int n3, V.int n4, V.vec .plain (some 3) l5]] ++ b48)) fun r49 => onTup r49 fun c50 => onCons c50 fun v51
  c52 => onStruct [CT.int, CT.int, CT.slice (some 3)] v51 fun n53 n54 l55 => onCons c52 fun v56 c57 => onInt v56 fun n58 => onNil c57 (bc (n58 == 0) (obind (pcall O 65
  [V.agg [V.int n53, V.int n54, V.vec .plain (some 3) l55], V.agg [V.int n6, V.int n7, V.vec .plain (some 3) l8]]) fun r59 => onBool r59 fun b60 => bc (!b60) (some (Out.ret (V.int
  3), [])) (some (Out.ret (V.int n58), []))) (some (Out.ret (V.int n58), [])))) (obind (O.call g46 (a47 ++ [V.agg [V.vec .plain (some 4) l0, V.vec .plain (some 5) l1, V.vec .plain
  (some 3) l2], V.agg [V.int n3, V.int n4, V.vec .plain (some 3) l5]] ++ b48) []) fun r61 => onRet r61.fst (fun v62 => onTup v62 fun c63 => onCons c63 fun v64 c65 => onStruct
  [CT.int, CT.int, CT.slice (some 3)] v64 fun n66 n67 l68 => onCons c65 fun v69 c70 => onInt v69 fun n71 => onNil c70 (bc (n71 == 0) (obind (pcall O 65 [V.agg [V.int n66,
  V.int n67, V.vec .plain (some 3) l68], V.agg [V.int n6, V.int n7, V.vec .plain (some 3) l8]]) fun r72 => onBool r72 fun b73 => bc (!b73) (some (Out.ret (V.int 3), [])) (some
  (Out.ret (V.int n71), []))) (some (Out.ret (V.int n71), [])))) fun p74 => none)) fun l75 => none))))) := by kernel_rfl

theorem e_check_world_kind (O : Oracle) (l0 : (List V)) (l1 : (List V)) (l2 : (List V)) (n3 : Int) (n4 : Int) (l5 : (List V)) : callBody Try.prog cfg O 42 [.agg [.vec .plain (some 4) l0, .vec .plain (some 5) l1, .vec .plain (some 3) l2], .agg [.int n3, .int n4, .vec .plain (some 3) l5]] [] =
  bc (n3 == 0) (some (Out.ret (V.int 0), [])) (bc (n3 == 1) (obind (O.call 49 [V.agg [V.vec .plain (some 4) l0, V.vec .plain (some 5) l1, V.vec .plain (some 3) l2],
  V.agg [V.int n3, V.int n4, V.vec .plain (some 3) l5], V.fn 42 [] []] []) fun r1 => onRet r1.fst (fun v2 => onInt v2 fun n3 => some (Out.ret (V.int n3), [])) fun p4
  => none) (some (Out.ret (V.int 3), []))) := by kernel_rfl

theorem e_check_world_may_1 (O : Oracle) (n0 : Int) (n1 : Int) (l2 : (List V)) : callBody Try.prog cfg O 44 [.agg [.int n0, .int n1, .vec .plain (some 3) l2]] [] =
  obind (pcall O 29 [V.agg [V.int n0, V.int n1, V.vec .plain (some 3) l2]]) fun r1 => onBool r1 fun b2 => some (Out.ret (V.bool !b2), []) := by kernel_rfl

theorem e_check_world_may_2 (O : Oracle) (l0 : (List V)) (n1 : Int) (n2 : Int) (l3 : (List V)) (b4 : Bool) (st : St) : callBody Try.prog cfg O 45 [.agg [.vec .plain (some 3) l0, .int n1, .int n2, .vec .plain (some 3) l3, .bool b4], .cptr none (.fn 44 [] [])] st =
  obind (pcall O 44 [V.agg [V.int n1, V.int n2, V.vec .plain (some 3) l3]]) fun r1 => onBool r1 fun b2 => bc b2 (gcE (List.length st) (V.bool true) st) (obind
  (O.call 32 [V.vec .plain (some 3) l0, V.fn 44 [] []] st) fun r3 => onRet r3.fst (fun v4 => onBool v4 fun b5 => gcE
  (List.length st) (V.bool b5) r3.snd) fun p6 => none) := by kernel_rfl

theorem e_check_world_may_3 (O : Oracle) (s0 : ByteArray) (n1 : Int) (n2 : Int) (l3 : (List V)) (st : St) : callBody Try.prog cfg O 47 [.agg [.str s0, .int n1, .int n2, .vec .plain (some 3) l3], .cptr none (.fn 44 [] [])] st =
  obind (pcall O 44 [V.agg [V.int n1, V.int n2, V.vec .plain (some 3) l3]]) fun r1 => onBool r1 fun b2 => gcE (List.length st) (V.bool b2) st := by kernel_rfl

theorem e_check_world_both (O : Oracle) (l0 : (List V)) (l1 : (List V)) (l2 : (List V)) (n3 : Int) (n4 : Int) (l5 : (List V)) (g6 : Nat) (l7 : (List V)) (l8 : (List V)) (st : St) : callBody Try.prog cfg O 49 [.agg [.vec .plain (some 4) l0, .vec .plain (some 5) l1, .vec .plain (some 3) l2], .agg [.int n3, .int n4, .vec .plain (some 3) l5], .fn g6 l7 l8] st =
  gd (true && decide (0 < (↑l5.length : Int))) (onStruct [CT.int, CT.int, CT.slice (some 3)] (getI l5 0) fun n1 n2 l3 => obind (pcall O 27 [V.agg [V.vec .plain (some
  4) l0, V.vec .plain (some 5) l1, V.vec .plain (some 3) l2], V.agg [V.int n1, V.int n2, V.vec .plain (some 3) l3]]) fun r4 => onInt r4 fun n5 => bc (n5 != 0) (gcE (List.length st)
  (V.int n5) st) (gd (true && decide (0 < (↑l5.length : Int))) (onStruct [CT.int, CT.int, CT.slice (some 3)] (getI l5 0) fun n6 n7 l8_1 => obind (pcall O 60 [V.agg
  [V.vec .plain (some 4) l0, V.vec .plain (some 5) l1, V.vec .plain (some 3) l2], V.agg [V.int n6, V.int n7, V.vec .plain (some 3) l8_1]]) fun r9 => onStruct [CT.slice (some 4),
  CT.slice (some 5), CT.slice (some 3)] r9 fun l10 l11 l12 => gd (true && decide (1 < (↑l5.length : Int))) (onStruct [CT.int, CT.int, CT.slice (some 3)] (getI l5 1) fun n13 n14 l15
  => bc (cfg.pure g6) (obind (pcall O g6 (l7 ++ [V.agg [V.vec .plain (some 4) l10, V.vec .plain (some 5) l11, V.vec .plain (some 3) l12], V.agg [V.int n13, V.int n14, V.vec .plain
  (some 3) l15]] ++ l8)) fun r16 => onInt r16 fun n17 => gcE (List.length st) (V.int n17) st) (obind (O.call g6 (l7 ++ [V.agg [V.vec .plain (some 4) l10, V.vec .plain (some 5) l11,
  V.vec .plain (some 3) l12], V.agg [V.int n13, V.int n14, V.vec .plain (some 3) l15]] ++ l8) st) fun r18 => onRet r18.fst (fun v19 => onInt v19 fun n20 => gcE (List.length st)
  (V.int n20) r18.snd) fun p21 => none))))) := by kernel_rfl

theorem e_check_world_declared (O : Oracle) (l0 : (List V)) (l1 : (List V)) (l2 : (List V)) (n3 : Int) (b4 : Bool) : callBody Try.prog cfg O 50 [.agg [.vec .plain (some 4) l0, .vec .plain (some 5) l1, .vec .plain (some 3) l2], .int n3, .bool b4] [] =
  bc (decide (n3 ≥ (↑l0.length : Int))) (some (Out.ret (V.tup [V.agg [V.int 0, V.int 0, V.vec .plain (some 3) []], V.int 2]), [])) (gd (decide (0 ≤ n3) && decide (n3 < (↑l0.length :
  Int))) (onAgg (getI l0 n3) fun c1 => gd (decide (4 ≤ c1.length)) (onCells [CT.int, CT.int, CT.slice (some 3)] (List.take 3 (List.drop 1 c1)) fun n2 n3_1 l4 => obind (pcall O
  21 [V.agg [V.int n2, V.int n3_1, V.vec .plain (some 3) l4]]) fun r5 => onBool r5 fun b6 => bc (!b6 == b4) (some (Out.ret (V.tup [V.agg [V.int 0, V.int 0, V.vec .plain
  (some 3) []], V.int 2]), [])) (gd (decide (0 ≤ n3) && decide (n3 < (↑l0.length : Int))) (onAgg (getI l0 n3) fun c7 => gd (decide (4 ≤ c7.length)) (onCells [CT.int, CT.int,
  CT.slice (some 3)] (List.take 3 (List.drop 1 c7)) fun n8 n9 l10 => gd (below 0 (V.tup [V.agg [V.int n8, V.int n9, V.vec .plain (some 3) l10], V.int 0]) && true) (some (Out.ret
  (V.tup [V.agg [V.int n8, V.int n9, V.vec .plain (some 3) l10], V.int 0]), [])))))))) := by kernel_rfl

theorem e_check_world_spine (O : Oracle) (l0 : (List V)) (l1 : (List V)) (l2 : (List V)) (n3 : Int) (n4 : Int) (l5 : (List V)) (l6 : (List V)) : callBody Try.prog cfg O 51 [.agg [.vec .plain (some 4) l0, .vec .plain (some 5) l1, .vec .plain (some 3) l2], .agg [.int n3, .int n4, .vec .plain (some 3) l5], .vec .plain (some 3) l6] [] =
  obind (O.loop 51 2 [V.loc true (some 3) (V.agg [V.int 0, V.int 0, V.vec Mode.full (some 3) []]), V.int 0, V.loc false (some 3) (V.agg [V.int n3, V.int n4, V.vec
  .plain (some 3) l5]), V.loc false (some 3) (V.agg [V.vec .plain (some 4) l0, V.vec .plain (some 5) l1, V.vec .plain (some 3) l2]), V.vec .plain (some 3) l6, V.int (↑l6.length :
  Int)] []) fun r1 => onEx r1.fst none (onCons r1.snd.fst fun v2 c3 => onLoc (some 3) v2 fun d4 v5 => onCons c3 fun v6 c7 => onInt v6 fun n8 => onNil c7 (gd (below 0 (V.tup [cleanV
  v5, V.int n8]) && belowSt 0 []) (some (Out.ret (V.tup [cleanV v5, V.int n8]), [])))) (fun i9 => bc (i9.beq 0) (onCons r1.snd.fst fun v10 c11 => onLoc (some 3) v10 fun d12 v13 =>
  onCons c11 fun v14 c15 => onLoc (some 3) v14 fun d16 v17 => onStruct [CT.int, CT.int, CT.slice (some 3)] (bif d16 then cleanV v17 else v17) fun n18 n19 l20 => onNil c15 (gd (below
  0 (V.tup [V.agg [V.int n18, V.int n19, V.vec .plain (some 3) l20], V.int 0]) && belowSt 0 []) (some (Out.ret (V.tup [V.agg [V.int n18, V.int n19, V.vec .plain (some 3) l20], V.int
  0]), [])))) none) fun v21 => none := by kernel_rfl

theorem e_check_world_spine_L2 (O : Oracle) (v0 : V) (n1 : Int) (n2 : Int) (n3 : Int) (l4 : (List V)) (l5 : (List V)) (l6 : (List V)) (l7 : (List V)) (l8 : (List V)) (n9 : Int) : loopBody Try.prog cfg O 51 2 [.loc true (some 3) v0, .int n1, .loc false (some 3) (.agg [.int n2, .int n3, .vec .plain (some 3) l4]), .loc false (some 3) (.agg [.vec .plain (some 4) l5, .vec .plain (some 5) l6, .vec .plain (some 3) l7]), .vec .plain (some 3) l8, .int n9] [] =
  bc (decide (n1 < n9)) (gd (decide (0 ≤ n1) && decide (n1 < (↑l8.length : Int))) (onStruct [CT.int, CT.int, CT.slice (some 3)] (getI l8 n1) fun n1_1 n2_1 l3 => bc (n2 != 1) (some
  (Ex.ret, [V.loc false (some 3) (V.agg [V.int 0, V.int 0, V.vec .plain (some 3) []]), V.int 3], [])) (gd (true && decide (0 < (↑l4.length : Int))) (onStruct [CT.int, CT.int,
  CT.slice (some 3)] (getI l4 0) fun n4 n5 l6_1 => obind (pcall O 37 [V.agg [V.vec .plain (some 4) l5, V.vec .plain (some 5) l6, V.vec .plain (some 3) l7], V.agg
  [V.int n1_1, V.int n2_1, V.vec .plain (some 3) l3], V.agg [V.int n4, V.int n5, V.vec .plain (some 3) l6_1]]) fun r7 => onInt r7 fun n8 => bc (n8 != 0) (some (Ex.ret, [V.loc false
  (some 3) (V.agg [V.int 0, V.int 0, V.vec .plain (some 3) []]), V.int n8], [])) (gd (true && decide (1 < (↑l4.length : Int))) (onStruct [CT.int, CT.int, CT.slice (some 3)] (getI l4
  1) fun n9_1 n10 l11 => obind (pcall O 70 [V.agg [V.int n9_1, V.int n10, V.vec .plain (some 3) l11], V.agg [V.vec .plain (some 3) [V.agg [V.int n1_1, V.int n2_1, V.vec
  .plain (some 3) l3]], V.int 0]]) fun r12 => onTup r12 fun c13 => onCons c13 fun v14 c15 => onStruct [CT.int, CT.int, CT.slice (some 3)] v14 fun n16 n17 l18 => onCons c15 fun v19
  c20 => onInt v19 fun n21 => onNil c20 (bc (n21 != 0) (some (Ex.ret, [V.loc false (some 3) (V.agg [V.int 0, V.int 0, V.vec .plain (some 3) []]), V.int n21], [])) (O.2
  51 2 [V.loc true (some 3) v0, V.int (IntKind.i64.wrap (n1 + 1)), V.loc false (some 3) (V.agg [V.int n16, V.int n17, V.vec .plain (some 3) l18]), V.loc false (some
  3) (V.agg [V.vec .plain (some 4) l5, V.vec .plain (some 5) l6, V.vec .plain (some 3) l7]), V.vec .plain (some 3) l8, V.int n9] [])))))))) (some (Ex.exit 0, [V.loc true (some 3)
  v0, V.loc false (some 3) (V.agg [V.int n2, V.int n3, V.vec .plain (some 3) l4])], [])) := by kernel_rfl

theorem e_check_world_with (O : Oracle) (l0 : (List V)) (l1 : (List V)) (l2 : (List V)) (n3 : Int) (n4 : Int) (l5 : (List V)) : callBody Try.prog cfg O 60 [.agg [.vec .plain (some 4) l0, .vec .plain (some 5) l1, .vec .plain (some 3) l2], .agg [.int n3, .int n4, .vec .plain (some 3) l5]] [] =
  gd (true && decide (0 ≤ (↑l2.length : Int)) && decide ((↑l2.length : Int) ≤ (↑l2.length : Int))) (gd (decide ((↑l2.length : Int) = (↑l2.length : Int)) && (some (V.int (↑l2.length
  : Int))).isSome) (gd (true && roomFor Try.prog 25 ((List.drop 0 (List.take (↑l2.length : Int).toNat l2)).length + [V.agg [V.int n3, V.int n4, V.vec .plain (some 3)
  l5]].length)) (gd (below 0 (V.agg [V.vec .plain (some 4) l0, V.vec .plain (some 5) l1, V.vec .plain (some 3) (List.drop 0 (List.take (↑l2.length : Int).toNat l2) ++ [V.agg [V.int
  n3, V.int n4, V.vec .plain (some 3) l5]])]) && true) (some (Out.ret (V.agg [V.vec .plain (some 4) l0, V.vec .plain (some 5) l1, V.vec .plain (some 3) (List.drop 0 (List.take
  (↑l2.length : Int).toNat l2) ++ [V.agg [V.int n3, V.int n4, V.vec .plain (some 3) l5]])]), []))))) := by kernel_rfl

theorem e_check_world_none (O : Oracle) (l0 : (List V)) (l1 : (List V)) (l2 : (List V)) (n3 : Int) (n4 : Int) (l5 : (List V)) : callBody Try.prog cfg O 61 [.agg [.vec .plain (some 4) l0, .vec .plain (some 5) l1, .vec .plain (some 3) l2], .agg [.int n3, .int n4, .vec .plain (some 3) l5]] [] =
  some (Out.ret (V.tup [V.agg [V.int 0, V.int 0, V.vec .plain (some 3) []], V.int 3]), []) := by kernel_rfl

theorem e_check_world_variable (O : Oracle) (l0 : (List V)) (l1 : (List V)) (l2 : (List V)) (n3 : Int) (n4 : Int) (l5 : (List V)) : callBody Try.prog cfg O 62 [.agg [.vec .plain (some 4) l0, .vec .plain (some 5) l1, .vec .plain (some 3) l2], .agg [.int n3, .int n4, .vec .plain (some 3) l5]] [] =
  bc (decide (n4 ≥ (↑l2.length : Int))) (some (Out.ret (V.tup [V.agg [V.int 0, V.int 0, V.vec .plain (some 3) []], V.int 2]), [])) (gd (decide (0 ≤ IntKind.i64.wrap
  (IntKind.i64.wrap ((↑l2.length : Int) - 1) - n4)) && decide (IntKind.i64.wrap (IntKind.i64.wrap ((↑l2.length : Int) - 1) - n4) < (↑l2.length : Int))) (onStruct [CT.int, CT.int,
  CT.slice (some 3)] (getI l2 (IntKind.i64.wrap (IntKind.i64.wrap ((↑l2.length : Int) - 1) - n4))) fun n1 n2 l3 => obind (pcall O 73 [V.agg [V.int n1, V.int n2, V.vec .plain
  (some 3) l3], V.int (IntKind.i64.wrap (n4 + 1)), V.int 0]) fun r4 => onStruct [CT.int, CT.int, CT.slice (some 3)] r4 fun n5 n6 l7 => obind (pcall O 51 [V.agg
  [V.vec .plain (some 4) l0, V.vec .plain (some 5) l1, V.vec .plain (some 3) l2], V.agg [V.int n5, V.int n6, V.vec .plain (some 3) l7], V.vec .plain (some 3) l5]) fun r8 => onTup r8
  fun c9 => onCons c9 fun v10 c11 => onStruct [CT.int, CT.int, CT.slice (some 3)] v10 fun n12 n13 l14 => onCons c11 fun v15 c16 => onInt v15 fun n17 => onNil c16 (gd (below 0 (V.tup
  [V.agg [V.int n12, V.int n13, V.vec .plain (some 3) l14], V.int n17]) && true) (some (Out.ret (V.tup [V.agg [V.int n12, V.int n13, V.vec .plain (some 3) l14], V.int n17]), []))))) := by kernel_rfl

theorem e_check_world_constant (O : Oracle) (l0 : (List V)) (l1 : (List V)) (l2 : (List V)) (n3 : Int) (n4 : Int) (l5 : (List V)) : callBody Try.prog cfg O 63 [.agg [.vec .plain (some 4) l0, .vec .plain (some 5) l1, .vec .plain (some 3) l2], .agg [.int n3, .int n4, .vec .plain (some 3) l5]] [] =
  obind (pcall O 50 [V.agg [V.vec .plain (some 4) l0, V.vec .plain (some 5) l1, V.vec .plain (some 3) l2], V.int n4, V.bool false]) fun r1 => onTup r1 fun c2 =>
  onCons c2 fun v3 c4 => onStruct [CT.int, CT.int, CT.slice (some 3)] v3 fun n5 n6 l7 => onCons c4 fun v8 c9 => onInt v8 fun n10 => onNil c9 (bc (n10 != 0) (some (Out.ret (V.tup
  [V.agg [V.int 0, V.int 0, V.vec .plain (some 3) []], V.int n10]), [])) (obind (pcall O 51 [V.agg [V.vec .plain (some 4) l0, V.vec .plain (some 5) l1, V.vec .plain
  (some 3) l2], V.agg [V.int n5, V.int n6, V.vec .plain (some 3) l7], V.vec .plain (some 3) l5]) fun r11 => onTup r11 fun c12 => onCons c12 fun v13 c14 => onStruct [CT.int, CT.int,
  CT.slice (some 3)] v13 fun n15 n16 l17 => onCons c14 fun v18 c19 => onInt v18 fun n20 => onNil c19 (gd (below 0 (V.tup [V.agg [V.int n15, V.int n16, V.vec .plain (some 3) l17],
  V.int n20]) && true) (some (Out.ret (V.tup [V.agg [V.int n15, V.int n16, V.vec .plain (some 3) l17], V.int n20]), []))))) := by kernel_rfl

theorem e_check_world_meta (O : Oracle) (l0 : (List V)) (l1 : (List V)) (l2 : (List V)) (n3 : Int) (n4 : Int) (l5 : (List V)) : callBody Try.prog cfg O 64 [.agg [.vec .plain (some 4) l0, .vec .plain (some 5) l1, .vec .plain (some 3) l2], .agg [.int n3, .int n4, .vec .plain (some 3) l5]] [] =
  bc (decide (n4 ≥ (↑l1.length : Int))) (some (Out.ret (V.tup [V.agg [V.int 0, V.int 0, V.vec .plain (some 3) []], V.int 2]), [])) (gd (decide (0 ≤ n4) && decide (n4 < (↑l1.length :
  Int))) (onStruct [CT.slice (some 3), CT.int, CT.int, CT.slice (some 3), CT.bool] (getI l1 n4) fun l1_1 n2 n3_1 l4 b5 => bc ((↑l1_1.length : Int) != (↑l5.length : Int)) (some
  (Out.ret (V.tup [V.agg [V.int 0, V.int 0, V.vec .plain (some 3) []], V.int 3]), [])) (obind (O.loop 64 7 [V.loc true (some 3) (V.agg [V.int 0, V.int 0, V.vec
  Mode.full (some 3) []]), V.int 0, V.loc false (some 3) (V.agg [V.int n3, V.int n4, V.vec .plain (some 3) l5]), V.loc false (some 3) (V.agg [V.vec .plain (some 4) l0, V.vec .plain
  (some 5) l1, V.vec .plain (some 3) l2]), V.vec .plain (some 3) l1_1, V.loc false (some 5) (V.agg [V.vec .plain (some 3) l1_1, V.int n2, V.int n3_1, V.vec .plain (some 3) l4,
  V.bool b5]), V.int (↑l1_1.length : Int)] []) fun r6 => onEx r6.fst none (onCons r6.snd.fst fun v7 c8 => onLoc (some 3) v7 fun d9 v10 => onCons c8 fun v11 c12 => onInt v11 fun n13
  => onNil c12 (gd (below 0 (V.tup [cleanV v10, V.int n13]) && belowSt 0 []) (some (Out.ret (V.tup [cleanV v10, V.int n13]), [])))) (fun i14 => bc (i14.beq 0) (onCons r6.snd.fst fun
  v15 c16 => onLoc (some 3) v15 fun d17 v18 => onCons c16 fun v19 c20 => onLoc (some 3) v19 fun d21 v22 => onStruct [CT.slice (some 4), CT.slice (some 5), CT.slice (some 3)] (bif
  d21 then cleanV v22 else v22) fun l23 l24 l25 => onCons c20 fun v26 c27 => onLoc (some 3) v26 fun d28 v29 => onStruct [CT.int, CT.int, CT.slice (some 3)] (bif d28 then cleanV v29
  else v29) fun n30 n31 l32 => onCons c27 fun v33 c34 => onLoc (some 5) v33 fun d35 v36 => onStruct [CT.slice (some 3), CT.int, CT.int, CT.slice (some 3), CT.bool] (bif d35 then
  cleanV v36 else v36) fun l37 n38 n39 l40 b41 => onNil c34 (obind (pcall O 70 [V.agg [V.int n38, V.int n39, V.vec .plain (some 3) l40], V.agg [V.vec .plain (some 3) l32,
  V.int (↑l25.length : Int)]]) fun r42 => onTup r42 fun c43 => onCons c43 fun v44 c45 => onStruct [CT.int, CT.int, CT.slice (some 3)] v44 fun n46 n47 l48 => onCons c45 fun v49 c50
  => onInt v49 fun n51 => onNil c50 (gd (below 0 (V.tup [V.agg [V.int n46, V.int n47, V.vec .plain (some 3) l48], V.int n51]) && belowSt 0 []) (some (Out.ret (V.tup [V.agg [V.int
  n46, V.int n47, V.vec .plain (some 3) l48], V.int n51]), []))))) none) fun v52 => none))) := by kernel_rfl

theorem e_check_world_meta_L7 (O : Oracle) (v0 : V) (n1 : Int) (n2 : Int) (n3 : Int) (l4 : (List V)) (l5 : (List V)) (l6 : (List V)) (l7 : (List V)) (l8 : (List V)) (l9 : (List V)) (n10 : Int) (n11 : Int) (l12 : (List V)) (b13 : Bool) (n14 : Int) : loopBody Try.prog cfg O 64 7 [.loc true (some 3) v0, .int n1, .loc false (some 3) (.agg [.int n2, .int n3, .vec .plain (some 3) l4]), .loc false (some 3) (.agg [.vec .plain (some 4) l5, .vec .plain (some 5) l6, .vec .plain (some 3) l7]), .vec .plain (some 3) l8, .loc false (some 5) (.agg [.vec .plain (some 3) l9, .int n10, .int n11, .vec .plain (some 3) l12, .bool b13]), .int n14] [] =
  bc (decide (n1 < n14)) (gd (decide (0 ≤ n1) && decide (n1 < (↑l8.length : Int))) (onStruct [CT.int, CT.int, CT.slice (some 3)] (getI l8 n1) fun n1_1 n2_1 l3 => gd (true && decide
  (0 ≤ n1) && decide (n1 ≤ (↑l4.length : Int))) (obind (pcall O 70 [V.agg [V.int n1_1, V.int n2_1, V.vec .plain (some 3) l3], V.agg [V.vec .plain (some 3) (List.drop 0
  (List.take n1.toNat l4)), V.int (↑l7.length : Int)]]) fun r4 => onTup r4 fun c5 => onCons c5 fun v6 c7 => onStruct [CT.int, CT.int, CT.slice (some 3)] v6 fun n8 n9 l10 => onCons
  c7 fun v11 c12 => onInt v11 fun n13 => onNil c12 (bc (n13 == 0) (gd (decide (0 ≤ n1) && decide (n1 < (↑l4.length : Int))) (onStruct [CT.int, CT.int, CT.slice (some 3)] (getI l4
  n1) fun n14_1 n15 l16 => obind (pcall O 37 [V.agg [V.vec .plain (some 4) l5, V.vec .plain (some 5) l6, V.vec .plain (some 3) l7], V.agg [V.int n14_1, V.int n15,
  V.vec .plain (some 3) l16], V.agg [V.int n8, V.int n9, V.vec .plain (some 3) l10]]) fun r17 => onInt r17 fun n18 => bc (n18 != 0) (some (Ex.ret, [V.loc false (some 3) (V.agg
  [V.int 0, V.int 0, V.vec .plain (some 3) []]), V.int n18], [])) (O.2 64 7 [V.loc true (some 3) v0, V.int (IntKind.i64.wrap (n1 + 1)), V.loc false (some 3) (V.agg
  [V.int n2, V.int n3, V.vec .plain (some 3) l4]), V.loc false (some 3) (V.agg [V.vec .plain (some 4) l5, V.vec .plain (some 5) l6, V.vec .plain (some 3) l7]), V.vec .plain (some 3)
  l8, V.loc false (some 5) (V.agg [V.vec .plain (some 3) l9, V.int n10, V.int n11, V.vec .plain (some 3) l12, V.bool b13]), V.int n14] []))) (bc (n13 != 0) (some (Ex.ret, [V.loc
  false (some 3) (V.agg [V.int 0, V.int 0, V.vec .plain (some 3) []]), V.int n13], [])) (O.2 64 7 [V.loc true (some 3) v0, V.int (IntKind.i64.wrap (n1 + 1)), V.loc
  false (some 3) (V.agg [V.int n2, V.int n3, V.vec .plain (some 3) l4]), V.loc false (some 3) (V.agg [V.vec .plain (some 4) l5, V.vec .plain (some 5) l6, V.vec .plain (some 3) l7]),
  V.vec .plain (some 3) l8, V.loc false (some 5) (V.agg [V.vec .plain (some 3) l9, V.int n10, V.int n11, V.vec .plain (some 3) l12, V.bool b13]), V.int n14] [])))))) (some (Ex.exit
  0, [V.loc true (some 3) v0, V.loc false (some 3) (V.agg [V.vec .plain (some 4) l5, V.vec .plain (some 5) l6, V.vec .plain (some 3) l7]), V.loc false (some 3) (V.agg [V.int n2,
  V.int n3, V.vec .plain (some 3) l4]), V.loc false (some 5) (V.agg [V.vec .plain (some 3) l9, V.int n10, V.int n11, V.vec .plain (some 3) l12, V.bool b13])], [])) := by kernel_rfl

end Go.Proofs.GT

/-! What a type asks for, and whether it is a kind. -/
namespace Go.Proofs.GT
open Go Go.AM Go.Ama

theorem onCells3 {R : Type} (a b : Int) (l : List V) (K : Int → Int → List V → Option R) : onCells (R := R) [CT.int, CT.int, CT.slice (some 3)] [.int a, .int b, .vec .plain (some 3) l] K = K a b l := rfl
def boxT (t : T) : Res := .box [.int t.k, .int t.h, .vec .plain (some 3) (encs t.args)]

theorem lastR_spec (a b u : T) (x : Res) : W.round 2 41 3 [.ref 0 0] [enc a, enc b] [boxT u, x, .loop 41 3 [.ref 0 0] .ready none] = some (true, [boxT b, x, .loop 41 3 [.ref 0 0] .ready none]) := by
  rw [Rd]
  conv => lhs; rw [enc_eta a, enc_eta b]
  exact e_sign_last_R3 W _ _ _ _ _ _ _ _ _ x

theorem plastL_spec : ∀ (n : Nat) (t u : T), t.size ≤ n →
    W.loop 72 0 [.ref 1 0, .yld 2] [boxT u, boxT t, .loop 41 3 [.ref 0 0] .ready none] =
      some (.exit 0, [], [boxT (if (split t).1 = [] then u else (split t).2), boxT (split t).2, .loop 41 3 [.ref 0 0] .ready none]) := by
  intro n
  induction n with
  | zero => intro t _ h; have := size_pos t; omega
  | succ n ih =>
    intro t u h
    have hp := size_pos t
    rw [L]
    conv => lhs; rw [show boxT t = .box [.int t.k, .int t.h, .vec .plain (some 3) (encs t.args)] from rfl]
    rw [e_sign_pis_1_L0, encs_length, beq_len2, beq_int]
    by_cases c1 : t.k = 1
    · by_cases c2 : t.args.length = 2
      · obtain ⟨a, b, hab⟩ := len2 c2
        have hb := args_size (t := t) (b := b) (by rw [hab]; simp)
        have g0 : getI (encs t.args) 0 = enc a := by rw [hab]; rfl
        have g1 : getI (encs t.args) 1 = enc b := by rw [hab]; rfl
        have hrd := lastR_spec a b u (boxT t)
        have := ih b b (by omega)
        rw [split_pi c1 hab]
        simp only [c1, c2, decide_true, bc_true, g0, g1, onStruct_enc, ← enc_eta, Bool.true_and, show decide ((0 : Int) < ((2 : Nat) : Int)) = true from rfl, show decide ((1 : Int) < ((2 : Nat) : Int)) = true from rfl, gd_true, onLoop_loop, onPend_ready]
        have hbt : boxT t = .box [.int 1, .int t.h, .vec .plain (some 3) (encs t.args)] := by unfold boxT; rw [c1]
        rw [hbt] at hrd
        rw [hrd, obind_some']
        simp only [Bool.not_true, bc_false]
        have hget : ∀ {R : Type} (K : Res → Option R), getR [boxT b, Res.box [V.int 1, V.int t.h, V.vec .plain (some 3) (encs t.args)], Res.loop 41 3 [V.ref 0 0] LSt.ready none] 1 K = K (Res.box [V.int 1, V.int t.h, V.vec .plain (some 3) (encs t.args)]) := fun K => rfl
        rw [hget, onBox_box]
        have hc : cleanV (AM.partOf [V.int 1, V.int t.h, V.vec .plain (some 3) (encs t.args)] 2 none) = .vec .plain (some 3) (encs t.args) := rfl
        rw [hc, onVec_plain, g1, onStruct_enc, hget, onBox_box]
        have h1l : decide ((1 : Int) < ((encs t.args).length : Int)) = true := by rw [encs_length, c2]; rfl
        rw [h1l]
        simp only [List.length_cons, List.length_nil, Nat.zero_add, Nat.reduceAdd, Nat.le_refl, decide_true, Bool.and_self, gd_true]
        have hset : List.set [boxT b, Res.box [V.int 1, V.int t.h, V.vec .plain (some 3) (encs t.args)], Res.loop 41 3 [V.ref 0 0] LSt.ready none] 1
            (Res.box (setCells [V.int 1, V.int t.h, V.vec .plain (some 3) (encs t.args)] 0 [V.int b.k, V.int b.h, V.vec .plain (some 3) (encs b.args)])) = [boxT b, boxT b, .loop 41 3 [.ref 0 0] .ready none] := rfl
        rw [hset, this]
        simp only [if_neg (List.cons_ne_nil a (split b).1)]
        by_cases c : (split b).1 = []
        · have hsb : (split b).2 = b := by
            by_cases c' : b.k = 1 ∧ b.args.length = 2
            · obtain ⟨a', b', hab'⟩ := len2 c'.2
              rw [split_pi c'.1 hab'] at c; cases c
            · rw [split_end c']
          rw [if_pos c, hsb]
        · rw [if_neg c]
      · rw [split_end fun c => c2 c.2]
        simp only [c1, c2, decide_true, decide_false, bc_true, bc_false, if_true]
        rw [← c1]
        rfl
    · rw [split_end fun c => c1 c.1]
      simp only [c1, decide_false, bc_false, if_true]
      rfl

theorem plast_spec (t : T) : Ev 41 [enc t] (enc (split t).2) := by
  unfold Ev
  have h := plastL_spec t.size t t (Nat.le_refl _)
  have hlast : (if (split t).1 = [] then t else (split t).2) = (split t).2 := by
    by_cases c' : t.k = 1 ∧ t.args.length = 2
    · obtain ⟨a', b', hab'⟩ := len2 c'.2
      rw [split_pi c'.1 hab', if_neg (List.cons_ne_nil _ _)]
    · rw [split_end c', if_pos rfl]
  rw [hlast] at h
  have hc : W.call 72 [.yld 2, .ref 1 0] [boxT t, .box [.int t.k, .int t.h, .vec .plain (some 3) (encs t.args)], .loop 41 3 [.ref 0 0] .ready none] =
      some (.ret (.tup []), [boxT (split t).2, boxT (split t).2, .loop 41 3 [.ref 0 0] .ready none]) := by
    rw [C, e_sign_pis_1]
    have h' : W.loop 72 0 [V.ref 1 0, V.yld 2] [boxT t, Res.box [V.int t.k, V.int t.h, V.vec .plain (some 3) (encs t.args)], .loop 41 3 [.ref 0 0] .ready none] = _ := h
    rw [h', obind_some', onEx_exit]
    rfl
  rw [C]
  conv => lhs; rw [enc_eta]
  have hpis : W.call 57 [V.agg [V.int t.k, V.int t.h, V.vec .plain (some 3) (encs t.args)]] [Res.box [V.int t.k, V.int t.h, V.vec .plain (some 3) (encs t.args)]] =
      some (.ret (V.fn 72 [] [V.ref 1 0]), [boxT t, Res.box [V.int t.k, V.int t.h, V.vec .plain (some 3) (encs t.args)]]) := by
    rw [C, e_sign_pis]; rfl
  rw [e_sign_last, hpis, obind_some', onRet_ret, onFn_fn]
  have hc' : W.call 72 ([] ++ [V.yld (List.length [boxT t, Res.box [V.int t.k, V.int t.h, V.vec .plain (some 3) (encs t.args)]])] ++ [V.ref 1 0])
      ([boxT t, Res.box [V.int t.k, V.int t.h, V.vec .plain (some 3) (encs t.args)]] ++ [Res.loop 41 3 [V.ref 0 0] LSt.ready none]) = _ := hc
  rw [hc', obind_some', onRet_ret]
  have hfin : gd (below 0 (enc (split t).2) && belowSt 0 []) (some (Out.ret (enc (split t).2), ([] : St))) = some (Out.ret (enc (split t).2), []) := by
    rw [below_enc]; rfl
  have hfin' := hfin
  rw [enc_eta (split t).2] at hfin'
  rw [enc_eta (split t).2]
  exact hfin'

theorem kind_spec (t : T) : Ev 21 [enc t] (.bool (decide ((split t).2.k = 0))) := by
  unfold Ev
  rw [C, enc_eta, e_sign_Kind, ← enc_eta, (plast_spec t).p]
  simp only [obind_some', onStruct_enc, beq_int]
end Go.Proofs.GT

/-! What a Const's case comes to: bounds, families. -/
namespace Go.Ama
open Go Go.AM

theorem may_iff {t : T} : may t = true ↔ nodesB t = true ∧ t.size ≤ 4000 ∧ t.depth ≤ 60 := by
  unfold may; simp only [Bool.and_eq_true, decide_eq_true_eq]
theorem depth_arg {t x : T} (h : x ∈ t.args) : x.depth < t.depth := by
  cases t with
  | mk k hd ys => have := depth_le h; simp only [T.args] at this h; have := depth_le h; simp only [T.depth]; omega
theorem may_arg {t x : T} (h : may t = true) (hx : x ∈ t.args) : may x = true := by
  obtain ⟨h1, h2, h3⟩ := may_iff.1 h
  refine may_iff.2 ⟨?_, by have := args_size hx; omega, by have := depth_arg hx; omega⟩
  cases t with
  | mk k hd ys =>
    simp only [nodesB, Bool.and_eq_true, nodess_all, List.all_eq_true] at h1
    exact h1.2 x hx
theorem may_node {t : T} (h : may t = true) : may1 t.k t.h t.args.length = true := by
  obtain ⟨h1, _⟩ := may_iff.1 h
  cases t with
  | mk k hd ys => simp only [nodesB, Bool.and_eq_true] at h1; exact h1.1
theorem may_pi {t : T} (h : may t = true) (hk : t.k = 1) : t.args.length = 2 := by
  have := may_node h
  rw [hk] at this
  simp [may1] at this
  exact this.2

mutual
theorem okB_of {B : Int} (hB : 1099511627776 ≤ B) : ∀ t : T, nodesB t = true → low t = true → okB B t
  | .mk k h ys, h1, h2 => by
    simp only [nodesB, Bool.and_eq_true] at h1
    simp only [low, Bool.and_eq_true, decide_eq_true_eq] at h2
    refine ⟨⟨?_, by omega⟩, ?_, okBs_of hB ys h1.2 h2.2⟩
    · have := h1.1
      unfold may1 at this
      repeat' split at this
      all_goals simp at this; omega
    · rintro rfl e
      subst e
      have := h1.1
      simp [may1] at this
theorem okBs_of {B : Int} (hB : 1099511627776 ≤ B) : ∀ l : List T, nodess l = true → low.lows l = true → okBs B l
  | [], _, _ => trivial
  | a :: l, h1, h2 => by
    simp only [nodess, Bool.and_eq_true] at h1
    simp only [low.lows, Bool.and_eq_true] at h2
    exact ⟨okB_of hB a h1.1 h2.1, okBs_of hB l h1.2 h2.2⟩
end
theorem okB_args {B : Int} {t x : T} (h : okB B t) (hx : x ∈ t.args) : okB B x := by
  cases t with
  | mk k hd ys => exact (okBs_iff B ys).1 h.2.2 x hx

/-- Errors of substituting. -/
theorem big_err {j : Job} {o : Oj} (h : Big j o) : ∀ e, o = .e e → e = 3 ∨ e = 4 := by
  induction h with
  | apLimit => rintro e ⟨⟩; exact .inr rfl
  | apErr _ _ _ ih => rintro e ⟨⟩; exact ih _ rfl
  | apNode => rintro e ⟨⟩
  | apVar _ _ _ _ _ _ _ _ _ ih => exact ih
  | arNil => rintro e ⟨⟩
  | arErr _ _ ih => rintro e ⟨⟩; exact ih _ rfl
  | arErr2 _ _ _ _ ih => rintro e ⟨⟩; exact ih _ rfl
  | arCons => rintro e ⟨⟩
  | spNil => rintro e ⟨⟩
  | spMay => rintro e ⟨⟩; exact .inr rfl
  | spErr _ _ _ _ _ ih => rintro e ⟨⟩; exact ih _ rfl
  | spLam _ _ _ _ _ _ _ ih => exact ih
  | spApp => rintro e ⟨⟩
  | spType => rintro e ⟨⟩; exact .inl rfl

/-- What is told, if all is well. -/
theorem applyF_ok {β : Int} (hβ : okBase β) {t : T} {l : List T} {s : Int} (ht : may t = true → okB β t) (hl : maySu l s = true → ∀ x ∈ l, okB β x) (h : (applyF t l s).2 = 0) :
    may (applyF t l s).1 = true ∧ okB (β + 83886080000) (applyF t l s).1 ∧ ∃ m, Big (.ap 0 t l s) (.t (applyF t l s).1 m) := by
  unfold applyF applyR at h ⊢
  split at h
  · rename_i hm
    rw [if_pos hm]
    simp only [Bool.and_eq_true] at hm
    obtain ⟨hB, hP, _⟩ := outF_ok hβ (ht hm.1) (hl hm.2) hm.1 hm.2
    generalize outF t l s = o at *
    cases o with
    | l _ _ => exact hP.elim
    | e e =>
      rcases big_err hB e rfl with rfl | rfl <;> simp [toldR] at h
    | t u m =>
      obtain ⟨p1, p2, p3, p4⟩ := hP
      have hmu : may u = true := by
        cases hx : may u with
        | true => rfl
        | false => simp [toldR, hx] at h
      have e : (toldR (.t u m)).1 = u := by simp [toldR, hmu]
      rw [e]
      exact ⟨hmu, okB_mono (by unfold bnd; omega) u p4, m, hB⟩
  · simp at h

/-- A type that comes to a family does so when it is substituted in. -/
theorem big_split : ∀ (N : Nat) (t : T), t.size ≤ N → (split t).2.k = 2 → ∀ {n m : Nat} {l : List T} {s : Int} {u : T}, Big (.ap n t l s) (.t u m) →
    (split u).1.length = (split t).1.length ∧ (split u).2.k = 2 ∧ (split u).2.h = (split t).2.h := by
  intro N
  induction N with
  | zero => intro t h; have := size_pos t; omega
  | succ N ih =>
    intro t hN hk n m l s u hB
    by_cases hc : t.k = 1 ∧ t.args.length = 2
    · obtain ⟨a, b, hab⟩ := len2 hc.2
      rw [split_pi hc.1 hab] at hk ⊢
      cases hB with
      | apVar _ _ _ hk4 _ _ _ _ => rw [hc.1] at hk4; cases hk4
      | apNode _ _ _ b1 =>
        rw [hab] at b1
        cases b1 with
        | arCons _ b2 c2 =>
          cases c2 with
          | arCons _ b3 c3 =>
            cases c3
            have hs : b.size < t.size := args_size (by rw [hab]; simp)
            obtain ⟨r1, r2, r3⟩ := ih b (by omega) hk b3
            rw [split_pi (t := T.mk t.k t.h _) hc.1 rfl]
            exact ⟨by simp [r1], r2, r3⟩
    · rw [split_end hc] at hk ⊢
      cases hB with
      | apVar _ _ _ hk4 _ _ _ _ => rw [hk] at hk4; cases hk4
      | apNode _ _ _ b1 =>
        rw [split_end (t := T.mk t.k t.h _) (fun h => by rw [T_k_mk, hk] at h; omega)]
        exact ⟨rfl, hk, rfl⟩
theorem family_big {t : T} {n m : Nat} {l : List T} {s : Int} {u : T} (hk : (split t).2.k = 2) (hB : Big (.ap n t l s) (.t u m)) : family u = family t := by
  obtain ⟨h1, h2, h3⟩ := big_split t.size t (Nat.le_refl _) hk hB
  unfold family
  rw [h2, h3, hk]

/-! ### the most general term -/
theorem lamN_size : ∀ (n : Nat) (t : T), (lamN n t).size = n + t.size
  | 0, t => by simp [lamN]
  | n + 1, t => by rw [lamN_succ]; simp only [T.size, sizes, lamN_size n t]; omega
theorem vars_sizes (n : Nat) : sizes (vars n) = n := by
  have : ∀ l : List T, (∀ x ∈ l, x.size = 1) → sizes l = l.length := by
    intro l
    induction l with
    | nil => intro _; rfl
    | cons a l ih => intro h; simp only [sizes, h a (by simp), ih fun x hx => h x (by simp [hx]), List.length_cons]; omega
  rw [this _ (fun x hx => ?_), vars_length]
  simp only [vars, List.mem_map] at hx
  obtain ⟨i, _, rfl⟩ := hx
  simp [var, T.size, sizes]
theorem general_ok {psi : List T} {a : T} {n : Nat} (h : (general psi a n).2.2.2 = 0) : (general psi a n).2.2.1 = lamN (split a).1.length (.mk 6 n (vars (psi.length + (split a).1.length))) ∧ psi.length + (split a).1.length ≤ 40 ∧ (general psi a n).1 = psi ++ (split a).1 ∧ (general psi a n).2.1 = (split a).2 := by
  unfold general at h ⊢
  split at h
  · simp at h
  · rename_i h1
    split at h
    · simp at h
    · rename_i h2
      rw [if_neg h1, if_neg h2]
      simp only [Bool.not_eq_true, Bool.or_eq_false_iff, decide_eq_false_iff_not] at h1
      exact ⟨rfl, by omega, rfl, rfl⟩
theorem okB_lamN {B : Int} (hB : 0 ≤ B) : ∀ (n : Nat) (t : T), okB B t → okB B (lamN n t)
  | 0, t, h => h
  | n + 1, t, h => by rw [lamN_succ]; exact ⟨⟨by omega, hB⟩, by simp, okB_lamN hB n t h, trivial⟩
theorem general_okB {psi : List T} {a : T} {n : Nat} {B : Int} (hB : 1099511627776 ≤ B) (hn : n ≤ 1099511627776) (h : (general psi a n).2.2.2 = 0) : okB B (general psi a n).2.2.1 ∧ (general psi a n).2.2.1.size ≤ 100 := by
  obtain ⟨h1, h2, _⟩ := general_ok h
  rw [h1]
  refine ⟨okB_lamN (by omega) _ _ ⟨⟨by omega, by omega⟩, by simp, ?_⟩, ?_⟩
  · rw [okBs_iff]
    intro x hx
    simp only [vars, List.mem_map, List.mem_reverse, List.mem_range] at hx
    obtain ⟨i, hi, rfl⟩ := hx
    exact ⟨⟨by omega, by omega⟩, by simp, trivial⟩
  · rw [lamN_size]; simp only [T.size, vars_sizes]; omega

theorem split_len {t : T} (h : (split t).1.length = 0) : ¬ (t.k = 1 ∧ t.args.length = 2) := fun hc => by
  obtain ⟨a, b, hab⟩ := len2 hc.2
  rw [split_pi hc.1 hab] at h
  simp at h
theorem chain_le : ∀ (N : Nat) (t : T), t.size ≤ N → (split t).1.length < t.depth := by
  intro N
  induction N with
  | zero => intro t h; have := size_pos t; omega
  | succ N ih =>
    intro t h
    by_cases hc : t.k = 1 ∧ t.args.length = 2
    · obtain ⟨a, b, hab⟩ := len2 hc.2
      have hs : b.size < t.size := args_size (by rw [hab]; simp)
      have hd : b.depth < t.depth := depth_arg (by rw [hab]; simp)
      rw [split_pi hc.1 hab]
      have := ih b (by omega)
      simp; omega
    · rw [split_end hc]
      cases t; simp only [T.depth, List.length_nil]; omega

/-- A Const's case: its metas begin with those given; its type comes to the same family. -/
theorem constL_ok {psi : List T} : ∀ (n : Nat) (ms : List M) (qa : List T) (t : T) (β : Int), 1099511627776 ≤ β → okBase (β + n * 83886080000) → (split t).1.length = n → (split t).2.k = 2 → may t = true → okB β t → ms.length + n ≤ 1099511627776 → (constL psi n ms qa t).2 = 0 →
    ∃ more, (constL psi n ms qa t).1.1 = ms ++ more ∧ family (constL psi n ms qa t).1.2.2 = family t ∧ more.length = n ∧ (∀ m ∈ more, sizes m.ctx + m.t.size ≤ sizes psi + 4000) ∧ sizes (constL psi n ms qa t).1.2.1 ≤ sizes qa + n * 100 ∧ may (constL psi n ms qa t).1.2.2 = true
  | 0, ms, qa, t, β, _, _, _, _, hm, _, _, _ => ⟨[], by simp [constL], rfl, rfl, by simp, by simp [constL], by simpa [constL] using hm⟩
  | n + 1, ms, qa, t, β, hβ1, hβ, hn, hk, hm, ho, hl, h0 => by
    have hc : t.k = 1 ∧ t.args.length = 2 := by
      by_cases hc : t.k = 1 ∧ t.args.length = 2
      · exact hc
      · rw [split_end hc] at hn; simp at hn
    obtain ⟨a, b, hab⟩ := len2 hc.2
    have hsp := split_pi hc.1 hab
    rw [hsp] at hn hk
    simp only [List.length_cons, Nat.add_right_cancel_iff] at hn
    have hbm : b ∈ t.args := by rw [hab]; simp
    unfold constL at h0 ⊢
    rw [if_pos hc.1] at h0 ⊢
    simp only [hab, List.getD_cons_zero, List.getD_cons_succ] at h0 ⊢
    split at h0
    · rename_i h; exact absurd h0 h
    rename_i hg
    rw [if_neg hg]
    have hg' : (general psi a ms.length).2.2.2 = 0 := by simpa using hg
    obtain ⟨g1, g2⟩ := general_okB (B := β) hβ1 (by omega) hg'
    split at h0
    · rename_i h; exact absurd h0 h
    rename_i hu
    rw [if_neg hu]
    have hu' : (applyF b [(general psi a ms.length).2.2.1] 0).2 = 0 := by simpa using hu
    have hβ' : okBase β := ⟨by omega, by unfold okBase at hβ; omega⟩
    obtain ⟨u1, u2, m, u3⟩ := applyF_ok hβ' (fun _ => okB_args ho hbm) (fun _ x hx => by simp at hx; rw [hx]; exact g1) hu'
    obtain ⟨s1, s2, s3⟩ := big_split _ b (Nat.le_refl _) hk u3
    obtain ⟨more, r1, r2, r3, r4, r5, r6⟩ := constL_ok n _ _ _ (β + 83886080000) (by omega) (by unfold okBase at hβ ⊢; omega) (by omega) s2 u1 u2 (by simp; omega) h0
    obtain ⟨_, _, q1, q2⟩ := general_ok hg'
    have ham : a ∈ t.args := by rw [hab]; simp
    have hsa := may_size (may_arg hm ham)
    have hss := split_size a.size a (Nat.le_refl _)
    refine ⟨⟨(general psi a ms.length).1, (general psi a ms.length).2.1, false⟩ :: more, by rw [r1]; simp, ?_, by simp [r3], ?_, ?_, r6⟩
    · rw [r2, family_big hk u3]
      unfold family
      rw [hsp]
    · intro m hm
      rcases List.mem_cons.1 hm with rfl | hm
      · simp only [q1, q2, sizes_append]; omega
      · exact r4 m hm
    · rw [sizes_append] at r5
      simp only [sizes] at r5
      omega
end Go.Ama
namespace Go.Ama
open Go Go.AM
def mayP (sig : List D) (sch : List T) (dl : List M) (psi : List T) (a : T) : Bool :=
  decide (dl.length ≤ 40) && (decide (psi.length ≤ 40) && (sig.all (fun d => may d.t) && (psi.all may && (sch.all may && may a))))
/-- What something may look like. -/
noncomputable def allC (sig : List D) (sch : List T) (dl : List M) (psi : List T) (a : T) : List (Cs × Int) :=
  constsC sig dl psi (consts (family a) sig 0) ++ (varsC (family a) dl 0 psi.reverse ++ sch.flatMap (aroundC (family a) dl))
noncomputable def casesF (sig : List D) (sch : List T) (dl : List M) (psi : List T) (a : T) : List Cs × Int :=
  if mayP sig sch dl psi a then (if (feed [] (allC sig sch dl psi a)).2 = 0 then feed [] (allC sig sch dl psi a) else ([], (feed [] (allC sig sch dl psi a)).2)) else ([], 1)
end Go.Ama
namespace Go.Ama
open Go Go.AM
/-- A case that is told. -/
def okC (dl : List M) (a : T) (B : Nat) (c : Cs) : Prop :=
  (∃ more, c.ms = dl ++ more ∧ more.length ≤ 100 ∧ ∀ m ∈ more, sizes m.ctx + m.t.size ≤ B) ∧ family c.t = family a ∧ c.q.size ≤ B ∧ c.t.size ≤ B
theorem feed_mem : ∀ (l : List (Cs × Int)) (acc : List Cs) (c : Cs), c ∈ (feed acc l).1 → c ∈ acc ∨ (c, 0) ∈ l
  | [], acc, c, h => .inl h
  | (x, e) :: l, acc, c, h => by
    simp only [feed] at h
    split at h
    · rename_i he
      rcases feed_mem l _ c h with h | h
      · rcases List.mem_append.1 h with h | h
        · exact .inl h
        · simp at h; subst h he; exact .inr (by simp)
      · exact .inr (by simp [h])
    · exact .inl h
theorem family_fam {t : T} (hk : t.k = 2) : family t = t.h := by
  unfold family
  rw [split_end fun h => by rw [hk] at h; omega]
  simp [hk]
theorem family_upP {t : T} (hk : t.k = 2) (b f : Int) : family (upP t b f) = family t := by
  unfold upP
  split
  · cases t with
    | mk k h ys =>
      simp only [T_k_mk] at hk
      subst hk
      rw [family_fam (t := upT b f 0 (T.mk 2 h ys)) (by simp [upT]), family_fam (t := T.mk 2 h ys) rfl]
      simp [upT]
  · rfl
theorem casesF_ok {sig : List D} {sch : List T} {dl : List M} {psi : List T} {a : T} (hlow : ∀ d ∈ sig, low d.t = true) (hdl : dl.length ≤ 1048576) (hpsi : sizes psi ≤ 1048576) :
    ∀ c ∈ (casesF sig sch dl psi a).1, okC dl a 1060000 c := by
  intro c hc
  unfold casesF at hc
  split at hc
  rotate_left
  · cases hc
  rename_i hm
  split at hc
  rotate_left
  · cases hc
  unfold mayP at hm
  simp only [Bool.and_eq_true, decide_eq_true_eq, List.all_eq_true] at hm
  obtain ⟨m1, m2, m3, m4, m5, m6⟩ := hm
  rcases feed_mem _ _ _ hc with h | h
  · cases h
  unfold allC at h
  simp only [List.mem_append] at h
  rcases h with h | h | h
  · unfold constsC at h
    simp only [List.mem_map] at h
    obtain ⟨no, h1, h2⟩ := h
    obtain ⟨_, k1, k2, k3⟩ := consts_mem _ _ _ _ h1
    simp only [Nat.sub_zero] at k2 k3
    have hd : (sig.map D.t).getD no T0 = sig[no].t := by simp [List.getD_eq_getElem?_getD, k2]
    rw [hd] at h2
    have hk : (split sig[no].t).2.k = 2 := by
      by_cases hk : (split sig[no].t).2.k = 2
      · exact hk
      · have : family sig[no].t = -1 := by unfold family; rw [if_neg hk]
        omega
    have hmt := m3 _ (List.getElem_mem k2)
    have hch := chain_le _ sig[no].t (Nat.le_refl _)
    have hdp := (may_iff.1 hmt).2.2
    unfold constC at h2
    simp only at h2
    split at h2
    · rename_i h0; simp only [Prod.mk.injEq] at h2; exact absurd h2.2 h0
    rename_i h0
    split at h2
    · simp only [Prod.mk.injEq] at h2; exact absurd h2.2 (by decide)
    simp only [Prod.mk.injEq] at h2
    obtain ⟨h2, _⟩ := h2
    subst h2
    obtain ⟨more, r1, r2, r3, r4, r5, r6⟩ := constL_ok _ dl [] sig[no].t 1099511627776 (Int.le_refl _) (by unfold okBase; omega) rfl hk hmt (okB_of (Int.le_refl _) _ (may_nodes hmt) (hlow _ (List.getElem_mem k2))) (by omega) (by simpa using h0)
    refine ⟨⟨more, r1, by omega, fun m hm => by have := r4 m hm; omega⟩, by rw [r2, k3], ?_, ?_⟩
    · simp only [T.size]
      simp only [sizes] at r5
      omega
    · have := may_size r6; simp only; omega
  · have : ∀ (l : List T) (i : Nat), (∀ t ∈ l, may t = true) → (c, 0) ∈ varsC (family a) dl i l → okC dl a 1060000 c := by
      intro l
      induction l with
      | nil => intro i _ h; cases h
      | cons t l ih =>
        intro i hl h
        unfold varsC at h
        rcases List.mem_append.1 h with h | h
        · unfold varC at h
          split at h
          · simp at h
          · rename_i hk
            have hk : t.k = 2 := by simpa using hk
            split at h
            · rename_i ho
              unfold Ama.ownP at ho
              simp only [Bool.and_eq_true, decide_eq_true_eq] at ho
              simp only [List.mem_singleton, Prod.mk.injEq, and_true] at h
              subst h
              have := may_size (hl t (by simp))
              exact ⟨⟨[], by simp, by simp, by simp⟩, by rw [family_upP hk, ho.2], by simp [T.size, sizes], by simp only [upP_size]; omega⟩
            · cases h
        · exact ih (i + 1) (fun t ht => hl t (by simp [ht])) h
    exact this _ _ (fun t ht => m4 t (by simpa using ht)) h
  · simp only [List.mem_flatMap] at h
    obtain ⟨t, ht, h⟩ := h
    unfold aroundC at h
    split at h
    · rename_i ho
      unfold Ama.ownP at ho
      simp only [Bool.and_eq_true, decide_eq_true_eq] at ho
      simp only [List.mem_singleton, Prod.mk.injEq, and_true] at h
      subst h
      have := may_size (m5 t ht)
      exact ⟨⟨[⟨[], t, true⟩], rfl, by simp, by simp [sizes]; omega⟩, ho.2, by simp [T.size, sizes], by simp only; omega⟩
    · cases h
theorem feed_len : ∀ (l : List (Cs × Int)) (acc : List Cs), (feed acc l).1.length ≤ acc.length + l.length
  | [], acc => by simp [feed]
  | (x, e) :: l, acc => by
    simp only [feed]
    split
    · have := feed_len l (acc ++ [x]); simp at this ⊢; omega
    · simp
theorem casesF_length (sig : List D) (sch : List T) (dl : List M) (psi : List T) (a : T) : (casesF sig sch dl psi a).1.length ≤ sig.length + psi.length + sch.length := by
  unfold casesF
  split
  · split
    · have h1 := feed_len (allC sig sch dl psi a) []
      have h2 : (allC sig sch dl psi a).length ≤ sig.length + psi.length + sch.length := by
        have hv : ∀ (l : List T) (i : Nat), (varsC (family a) dl i l).length ≤ l.length := by
          intro l
          induction l with
          | nil => intro i; simp [varsC]
          | cons t l ih =>
            intro i
            have := ih (i + 1)
            have : (varC (family a) dl i t).length ≤ 1 := by
              unfold varC
              split
              · simp
              · split <;> simp
            simp [varsC]; omega
        have ha : ∀ (l : List T), (l.flatMap (aroundC (family a) dl)).length ≤ l.length := by
          intro l
          induction l with
          | nil => simp
          | cons t l ih =>
            have : (aroundC (family a) dl t).length ≤ 1 := by unfold aroundC; split <;> simp
            simp [List.flatMap_cons] at ih ⊢; omega
        have q1 := hv psi.reverse 0
        have q2 := ha sch
        have q3 := consts_length (family a) sig 0
        simp [allC, constsC] at q1 q2 ⊢; omega
      simp at h1; omega
    · simp
  · simp
end Go.Ama

/-! What check tells, as_ plain Lean. -/
namespace Go.Ama
open Go Go.AM

/-- A declaration that is a kind, or is none. -/
def declaredF (sig : List D) (i : Int) (kind : Bool) : Option T :=
  if h : 0 ≤ i ∧ i < sig.length then (if decide ((split (sig[i.toNat]'(by omega)).t).2.k = 0) = kind then some (sig[i.toNat]'(by omega)).t else none) else none

mutual
/-- What is wrong with a term of a type. -/
noncomputable def termF (sig : List D) (ms : List M) : T → List T → T → Int
  | .mk k h as_, ctx, a =>
    if k = 3 ∧ a.k = 1 then bodyF sig ms as_ (ctx ++ [a.args.getD 0 T0]) (a.args.getD 1 T0)
    else if k = 3 ∨ a.k ≠ 2 then 3
    else
      let r : T × Int :=
        if k = 4 then (if (ctx.length : Int) ≤ h then (T0, 2) else spineF sig ms as_ ctx (upP (ctx.getD (ctx.length - 1 - h.toNat) T0) (h + 1) 0))
        else if k = 5 then (match declaredF sig h false with | none => (T0, 2) | some t => spineF sig ms as_ ctx t)
        else if k = 6 then
          (if (ms.length : Int) ≤ h then (T0, 2)
           else
            let d := ms.getD h.toNat ⟨[], T0, false⟩
            if d.ctx.length ≠ as_.length then (T0, 3)
            else
              let e := entsF sig ms as_ ctx [] d.ctx
              if e ≠ 0 then (T0, e) else applyF d.t as_ ctx.length)
        else (T0, 3)
      if r.2 ≠ 0 then r.2 else if r.1.same a then 0 else 3
/-- A Lam's body. -/
noncomputable def bodyF (sig : List D) (ms : List M) : List T → List T → T → Int
  | [], _, _ => 3
  | b :: _, ctx, a => termF sig ms b ctx a
/-- What a type comes to, applied to args. -/
noncomputable def spineF (sig : List D) (ms : List M) : List T → List T → T → T × Int
  | [], _, t => (t, 0)
  | a :: as_, ctx, t =>
    if t.k ≠ 1 then (T0, 3)
    else
      let e := termF sig ms a ctx (t.args.getD 0 T0)
      if e ≠ 0 then (T0, e)
      else
        let u := applyF (t.args.getD 1 T0) [a] 0
        if u.2 ≠ 0 then (T0, u.2) else spineF sig ms as_ ctx u.1
/-- A meta's entries. -/
noncomputable def entsF (sig : List D) (ms : List M) : List T → List T → List T → List T → Int
  | [], _, _, _ => 0
  | _ :: _, _, _, [] => 0
  | a :: as_, ctx, done, d :: ds =>
    let t := applyF d done ctx.length
    let e := if t.2 = 0 then termF sig ms a ctx t.1 else t.2
    if e ≠ 0 then e else entsF sig ms as_ ctx (done ++ [a]) ds
end

mutual
/-- What is wrong with a type. -/
noncomputable def typF (sig : List D) (ms : List M) : T → List T → Int
  | .mk k h as_, ctx =>
    if k = 1 then bothT sig ms as_ ctx
    else if k = 2 then
      (match declaredF sig h true with
       | none => 2
       | some t =>
         let r := spineF sig ms as_ ctx t
         if r.2 ≠ 0 then r.2 else if r.1.k ≠ 0 then 3 else 0)
    else 3
noncomputable def bothT (sig : List D) (ms : List M) : List T → List T → Int
  | a :: as_, ctx =>
    let e := typF sig ms a ctx
    if e ≠ 0 then e else secondT sig ms as_ (ctx ++ [a])
  | [], _ => 3
noncomputable def secondT (sig : List D) (ms : List M) : List T → List T → Int
  | b :: _, ctx => typF sig ms b ctx
  | [], _ => 3
end
mutual
/-- What is wrong with a kind. -/
noncomputable def kindF (sig : List D) (ms : List M) : T → List T → Int
  | .mk k _ as_, ctx => if k = 0 then 0 else if k = 1 then bothK sig ms as_ ctx else 3
noncomputable def bothK (sig : List D) (ms : List M) : List T → List T → Int
  | a :: as_, ctx =>
    let e := typF sig ms a ctx
    if e ≠ 0 then e else secondK sig ms as_ (ctx ++ [a])
  | [], _ => 3
noncomputable def secondK (sig : List D) (ms : List M) : List T → List T → Int
  | b :: _, ctx => kindF sig ms b ctx
  | [], _ => 3
end

def mayM (m : M) : Bool := may m.t && m.ctx.all may
/-- May all be? -/
def mayW (sig : List D) (ms : List M) (ctx l : List T) : Bool :=
  decide (ctx.length ≤ 1000) && (l.all may && (ctx.all may && (sig.all (fun d => may d.t) && ms.all mayM)))
noncomputable def checkTermF (sig : List D) (ms : List M) (ctx : List T) (m a : T) : Int := if mayW sig ms ctx [m, a] then termF sig ms m ctx a else 1
noncomputable def checkTypeF (sig : List D) (ms : List M) (ctx : List T) (a : T) : Int := if mayW sig ms ctx [a] then typF sig ms a ctx else 1
noncomputable def checkKindF (sig : List D) (ms : List M) (ctx : List T) (a : T) : Int := if mayW sig ms ctx [a] then kindF sig ms a ctx else 1

/-! ### bounds -/
mutual
theorem okB_upG {B b : Int} (hB : 0 ≤ b ∧ b ≤ 1048576 ∧ B ≤ 9223372036850000000) (f : Int) : ∀ (t : T) (ar : Int), okB B t → okB (B + b) (upT b f ar t)
  | .mk k hd ys, ar, ⟨h1, h2, h3⟩ => by
    simp only [upT, okB]
    refine ⟨?_, ?_, okBs_upG hB f ys ar h3⟩
    · split
      · unfold upV
        split
        · rw [wrap_id ⟨by omega, by omega⟩]; omega
        · omega
      · omega
    · intro hk e
      have := congrArg List.length e
      rw [ups_length] at this
      exact h2 hk (List.length_eq_zero_iff.1 (by simpa using this))
theorem okBs_upG {B b : Int} (hB : 0 ≤ b ∧ b ≤ 1048576 ∧ B ≤ 9223372036850000000) (f : Int) : ∀ (l : List T) (ar : Int) {bd : Bool}, okBs B l → okBs (B + b) (ups b f ar bd l)
  | [], ar, bd, _ => trivial
  | a :: l, ar, bd, ⟨h1, h2⟩ => by simp only [ups, okBs]; exact ⟨okB_upG hB f a _ h1, okBs_upG hB f l ar h2⟩
end
theorem okB_upPG {B : Int} (hB : okBase B) {t : T} (h : okB B t) {b f : Int} (hb : 0 ≤ b) : okB (B + 1048576) (upP t b f) := by
  obtain ⟨q1, q2⟩ := hB
  unfold upP; split
  · rename_i hc
    simp only [Bool.and_eq_true, decide_eq_true_eq] at hc
    exact okB_mono (by omega) _ (okB_upG (by omega) f t 0 h)
  · exact okB_mono (by omega) t h
mutual
theorem up_nodes (b f : Int) (hb : 0 ≤ b) : ∀ (t : T) (ar : Int), nodesB t = true → (∀ B, okB B t → B ≤ 9223372036850000000 → b ≤ 1048576 → nodesB (upT b f ar t) = true)
  | .mk k h as_, ar, hn => fun B hB h1 h2 => by
    simp only [nodesB, Bool.and_eq_true] at hn
    obtain ⟨⟨q1, q2⟩, q3, q4⟩ := hB
    simp only [upT, nodesB, Bool.and_eq_true, ups_length]
    refine ⟨?_, ups_nodes b f hb as_ ar hn.2 B q4 h1 h2⟩
    split
    · rename_i hk
      subst hk
      have : 0 ≤ upV b f ar h := by
        unfold upV
        split
        · rw [wrap_id ⟨by omega, by omega⟩]; omega
        · exact q1
      simp [may1, this]
    · exact hn.1
theorem ups_nodes (b f : Int) (hb : 0 ≤ b) : ∀ (l : List T) (ar : Int) {bd : Bool}, nodess l = true → (∀ B, okBs B l → B ≤ 9223372036850000000 → b ≤ 1048576 → nodess (ups b f ar bd l) = true)
  | [], _, _, _ => fun _ _ _ _ => rfl
  | a :: l, ar, bd, hn => fun B hB h1 h2 => by
    simp only [nodess, Bool.and_eq_true] at hn
    simp only [ups, nodess, Bool.and_eq_true]
    exact ⟨up_nodes b f hb a _ hn.1 B hB.1 h1 h2, ups_nodes b f hb l ar hn.2 B hB.2 h1 h2⟩
end
mutual
theorem up_depth (b f : Int) : ∀ (t : T) (ar : Int), (upT b f ar t).depth = t.depth
  | .mk k h as_, ar => by simp only [upT, T.depth]; rw [ups_depths b f as_ ar]
theorem ups_depths (b f : Int) : ∀ (l : List T) (ar : Int) {bd : Bool}, depths (ups b f ar bd l) = depths l
  | [], ar, bd => rfl
  | a :: as_, ar, bd => by simp only [ups, depths]; rw [up_depth b f a, ups_depths b f as_]
end
theorem may_upP {B : Int} (hB : okBase B) {t : T} (h : okB B t) (hm : may t = true) {b f : Int} (hb : 0 ≤ b) : may (upP t b f) = true := by
  obtain ⟨q1, q2⟩ := hB
  obtain ⟨h1, h2, h3⟩ := may_iff.1 hm
  unfold upP
  split
  · rename_i hc
    simp only [Bool.and_eq_true, decide_eq_true_eq] at hc
    exact may_iff.2 ⟨up_nodes b f hb t 0 h1 B h (by omega) (by omega), by rw [up_size]; exact h2, by rw [up_depth]; exact h3⟩
  · exact hm
end Go.Ama

/-! check: the small ones. -/
namespace Go.Proofs.GT
open Go Go.AM Go.Ama

abbrev encW (sig : List D) (ms : List M) (ctx : List T) : V := .agg [.vec .plain (some 4) (encDs sig), .vec .plain (some 5) (encMs ms), .vec .plain (some 3) (encs ctx)]
@[simp] theorem onW {R : Type} (a b c : List V) (K : List V → List V → List V → Option R) : onStruct (R := R) [CT.slice (some 4), CT.slice (some 5), CT.slice (some 3)] (.agg [.vec .plain (some 4) a, .vec .plain (some 5) b, .vec .plain (some 3) c]) K = K a b c := rfl
theorem below_encW (n : Nat) (sig : List D) (ms : List M) (ctx : List T) : below n (encW sig ms ctx) = true := by simp [below, belowL, below_encDs]

theorem with_spec (sig : List D) (ms : List M) (ctx : List T) (a : T) (h : ctx.length ≤ 1099511627776) : Ev 60 [encW sig ms ctx, enc a] (encW sig ms (ctx ++ [a])) := by
  have hr : roomFor Try.prog 25 (ctx.length + 1) = true := room24 (by omega)
  have htk : List.take ctx.length (encs ctx) = encs ctx := List.take_of_length_le (by simp)
  unfold Ev
  rw [C, enc_eta a, e_check_world_with]
  simp [htk, hr, ← enc_eta, below, belowL, belowL_app, below_encDs]

theorem declared_spec (sig : List D) (ms : List M) (ctx : List T) (i : Int) (b : Bool) (h0 : 0 ≤ i) (hs : sig.length ≤ 1099511627776) : Ev 50 [encW sig ms ctx, .int i, .bool b] (.tup [enc ((declaredF sig i b).getD T0), .int (match declaredF sig i b with | none => 2 | some _ => 0)]) := by
  unfold Ev declaredF
  rw [C, e_check_world_declared, encDs_length]
  by_cases hi : i < sig.length
  · have hn : i.toNat < sig.length := by omega
    have hii : ((i.toNat : Nat) : Int) = i := by omega
    have hg : getI (encDs sig) i = encD sig[i.toNat] := by have := getI_encDs hn; rwa [hii] at this
    have hk := (kind_spec sig[i.toNat].t).p
    have hlt : ¬ i ≥ sig.length := by omega
    have hc : (0 ≤ i ∧ i < sig.length) := ⟨h0, hi⟩
    rw [dif_pos hc, hg]
    simp only [hlt, decide_false, bc_false, h0, hi, decide_true, Bool.and_self, gd_true, onDt, ← enc_eta, hk, obind_some', onBool_bool]
    generalize decide ((split sig[i.toNat].t).2.k = 0) = kb
    by_cases hb : kb = b
    · subst hb
      cases kb <;> simp [below, belowL]
    · rw [if_neg hb]
      cases kb <;> cases b <;> simp_all
      · rfl
      · rfl
  · have hge : i ≥ sig.length := by omega
    rw [dif_neg (fun h => hi h.2)]
    simp [hge]
    rfl

theorem pure_wmay1 : cfg.pure 44 = true := by kernel_rfl
theorem pure_wmay2 : cfg.pure 45 = false := by kernel_rfl
theorem pure_wmay3 : cfg.pure 47 = false := by kernel_rfl
theorem wodd_spec (t : T) (hs : t.size ≤ 1099511627776) : Ev 44 [enc t] (.bool (!may t)) := by
  have h := (pmay_spec t hs).p
  unfold Ev
  rw [C, enc_eta t, e_check_world_may_1, ← enc_eta, h]
  simp
theorem wcont_spec (xs : List T) (hs : sizes xs ≤ 1099511627776) (st : St) : W.call 32 [.vec .plain (some 3) (encs xs), .fn 44 [] []] st = some (.ret (.bool (xs.any fun t => !may t)), st) :=
  contains_spec (a := []) (b := []) pure_wmay1 (p := fun t => !may t) xs (by have := length_le_sizes xs; omega) (fun t ht => (wodd_spec t (by have := size_le ht; omega)).p) st
theorem wmay3_spec (d : D) (hs : d.t.size ≤ 1099511627776) (st : St) : W.call 47 ([] ++ [encD d] ++ [.cptr none (.fn 44 [] [])]) st = some (.ret (.bool (!may d.t)), st) := by
  have h := (wodd_spec d.t hs).p
  have e1 : encD d = V.agg [V.str (ba d.name), V.int d.t.k, V.int d.t.h, V.vec .plain (some 3) (encs d.t.args)] := rfl
  rw [e1]
  show W.call 47 [V.agg [V.str (ba d.name), V.int d.t.k, V.int d.t.h, V.vec .plain (some 3) (encs d.t.args)], .cptr none (.fn 44 [] [])] st = _
  rw [C, e_check_world_may_3, ← enc_eta, h]
  simp [gcE_len]
theorem wmay2_spec (m : M) (hs : sizes m.ctx + m.t.size ≤ 1099511627776) (st : St) : W.call 45 ([] ++ [encM m] ++ [.cptr none (.fn 44 [] [])]) st = some (.ret (.bool (!mayM m)), st) := by
  have h := (wodd_spec m.t (by omega)).p
  have h2 := wcont_spec m.ctx (by omega) st
  rw [encM_eta]
  show W.call 45 [V.agg [V.vec .plain (some 3) (encs m.ctx), V.int m.t.k, V.int m.t.h, V.vec .plain (some 3) (encs m.t.args), V.bool m.param], .cptr none (.fn 44 [] [])] st = _
  rw [C, e_check_world_may_2, ← enc_eta, h]
  have q2 : m.ctx.all may = !m.ctx.any fun d => !may d := by simp [List.all_eq_not_any_not]
  unfold mayM
  rw [q2]
  cases may m.t <;> simp [gcE_len, h2]

theorem wmay_spec (sig : List D) (ms : List M) (ctx l : List T) (hsig : ∀ d ∈ sig, d.t.size ≤ 1099511627776) (hsl : sig.length ≤ 1099511627776) (hms : ∀ m ∈ ms, sizes m.ctx + m.t.size ≤ 1099511627776) (hml : ms.length ≤ 1099511627776) (hc : sizes ctx ≤ 1099511627776) (hl : sizes l ≤ 1099511627776) :
    Ev 26 [encW sig ms ctx, .vec .plain (some 3) (encs l)] (.bool (mayW sig ms ctx l)) := by
  have h1 := wcont_spec l hl []
  have h2 := wcont_spec ctx hc []
  have h3 := containsD_spec (a := []) (b := [.cptr none (.fn 44 [] [])]) pure_wmay3 (p := fun d => !may d.t) sig hsl [] (fun d hd => wmay3_spec d (hsig d hd) [])
  have h4 := containsM_spec (a := []) (b := [.cptr none (.fn 44 [] [])]) pure_wmay2 (p := fun d => !mayM d) ms hml [] (fun d hd => wmay2_spec d (hms d hd) [])
  have q1 : sig.all (fun d => may d.t) = !sig.any fun d => !may d.t := by simp [List.all_eq_not_any_not]
  have q2 : ctx.all may = !ctx.any fun d => !may d := by simp [List.all_eq_not_any_not]
  have q3 : l.all may = !l.any fun d => !may d := by simp [List.all_eq_not_any_not]
  have q4 : ms.all mayM = !ms.any fun d => !mayM d := by simp [List.all_eq_not_any_not]
  have c1 : decide ((ctx.length : Int) > 1000) = !decide (ctx.length ≤ 1000) := by by_cases h : ctx.length ≤ 1000 <;> simp [h] <;> omega
  unfold Ev mayW
  rw [C, e_check_world_may, encs_length, c1, h1, q1, q2, q3, q4]
  cases decide (ctx.length ≤ 1000) <;> cases l.any (fun d => !may d) <;> simp [h2] <;> cases ctx.any (fun d => !may d) <;> simp [h3] <;> cases sig.any (fun d => !may d.t) <;> simp [h4]
end Go.Proofs.GT

/-! check: bounds. -/
namespace Go.Ama
open Go Go.AM

/-- What of a world is well. -/
structure OkW (B : Int) (sig : List D) (ms : List M) (ctx : List T) : Prop where
  s : ∀ d ∈ sig, may d.t = true ∧ okB B d.t
  m : ∀ m ∈ ms, may m.t = true ∧ okB B m.t ∧ ∀ x ∈ m.ctx, may x = true ∧ okB B x
  c : ∀ x ∈ ctx, may x = true ∧ okB B x
  sl : sig.length ≤ 1048576
  ml : ms.length ≤ 1048576
  mcl : ∀ m ∈ ms, m.ctx.length ≤ 1048576
theorem OkW.mono {B B' : Int} (h : B ≤ B') {sig : List D} {ms : List M} {ctx : List T} (o : OkW B sig ms ctx) : OkW B' sig ms ctx :=
  ⟨fun d hd => ⟨(o.s d hd).1, okB_mono h _ (o.s d hd).2⟩, fun m hm => ⟨(o.m m hm).1, okB_mono h _ (o.m m hm).2.1, fun x hx => ⟨((o.m m hm).2.2 x hx).1, okB_mono h _ ((o.m m hm).2.2 x hx).2⟩⟩,
    fun x hx => ⟨(o.c x hx).1, okB_mono h _ (o.c x hx).2⟩, o.sl, o.ml, o.mcl⟩
theorem OkW.with {B : Int} {sig : List D} {ms : List M} {ctx : List T} (o : OkW B sig ms ctx) {a : T} (h1 : may a = true) (h2 : okB B a) : OkW B sig ms (ctx ++ [a]) :=
  ⟨o.s, o.m, fun x hx => by rcases List.mem_append.1 hx with h | h; exact o.c x h; simp at h; subst h; exact ⟨h1, h2⟩, o.sl, o.ml, o.mcl⟩

theorem okBase_le {β γ : Int} (h : okBase γ) (h0 : 0 ≤ β) (hl : β ≤ γ) : okBase β := ⟨h0, by unfold okBase at h; omega⟩

theorem spineF_ok (sig : List D) (ms : List M) : ∀ (xs : List T) (ctx : List T) (t : T) (β : Int), 0 ≤ β → okBase (β + sizes xs * 90000000000) → may t = true → okB β t → (∀ x ∈ xs, okB β x) → (spineF sig ms xs ctx t).2 = 0 →
    may (spineF sig ms xs ctx t).1 = true ∧ okB (β + sizes xs * 90000000000) (spineF sig ms xs ctx t).1
  | [], ctx, t, β, _, _, hm, ho, _, _ => by simp only [spineF, sizes]; exact ⟨hm, okB_mono (by omega) t ho⟩
  | a :: xs, ctx, t, β, h0, hβ, hm, ho, hx, he => by
    have hp := size_pos a
    simp only [sizes, Int.natCast_add, Int.add_mul] at hβ ⊢
    unfold spineF at he ⊢
    by_cases hk : t.k = 1
    · rw [if_neg (by simpa using hk)] at he ⊢
      dsimp only at he ⊢
      split at he
      · rename_i h; exact absurd he h
      rename_i h1
      rw [if_neg h1]
      split at he
      · rename_i h; exact absurd he h
      rename_i h2
      rw [if_neg h2]
      obtain ⟨a0, b, hab⟩ := len2 (may_pi hm hk)
      have hb : b ∈ t.args := by rw [hab]; simp
      simp only [hab, List.getD_cons_succ, List.getD_cons_zero] at h2 he ⊢
      have hbase : okBase β := okBase_le hβ h0 (by have : (0:Int) ≤ a.size * 90000000000 := by omega
                                                   have : (0:Int) ≤ sizes xs * 90000000000 := by omega
                                                   omega)
      obtain ⟨u1, u2, _⟩ := applyF_ok (t := b) (l := [a]) (s := 0) hbase (fun _ => okB_args ho hb) (fun _ x hx' => by simp at hx'; rw [hx']; exact hx a (by simp)) (by simpa using h2)
      have hge : (a.size : Int) * 90000000000 ≥ 90000000000 := by omega
      obtain ⟨r1, r2⟩ := spineF_ok sig ms xs ctx _ (β + a.size * 90000000000) (by omega) (by rw [show β + ↑a.size * 90000000000 + ↑(sizes xs) * 90000000000 = β + (↑a.size * 90000000000 + ↑(sizes xs) * 90000000000) by omega]; exact hβ) u1 (okB_mono (by omega) _ u2) (fun x hx' => okB_mono (by omega) x (hx x (by simp [hx']))) he
      exact ⟨r1, by rw [show β + (↑a.size * 90000000000 + ↑(sizes xs) * 90000000000) = β + ↑a.size * 90000000000 + ↑(sizes xs) * 90000000000 by omega]; exact r2⟩
    · rw [if_pos hk] at he
      simp at he

noncomputable def varF (sig : List D) (ms : List M) (h : Int) (xs ctx : List T) : T × Int :=
  if (ctx.length : Int) ≤ h then (T0, 2) else spineF sig ms xs ctx (upP (ctx.getD (ctx.length - 1 - h.toNat) T0) (h + 1) 0)
noncomputable def constF (sig : List D) (ms : List M) (h : Int) (xs ctx : List T) : T × Int :=
  match declaredF sig h false with
  | none => (T0, 2)
  | some t => spineF sig ms xs ctx t
noncomputable def metaF (sig : List D) (ms : List M) (h : Int) (xs ctx : List T) : T × Int :=
  if (ms.length : Int) ≤ h then (T0, 2)
  else
    let d := ms.getD h.toNat ⟨[], T0, false⟩
    if d.ctx.length ≠ xs.length then (T0, 3)
    else
      let e := entsF sig ms xs ctx [] d.ctx
      if e ≠ 0 then (T0, e) else applyF d.t xs ctx.length
/-- What a node comes to. -/
noncomputable def comesF (sig : List D) (ms : List M) (k h : Int) (xs ctx : List T) : T × Int :=
  if k = 4 then varF sig ms h xs ctx else if k = 5 then constF sig ms h xs ctx else if k = 6 then metaF sig ms h xs ctx else (T0, 3)
theorem termF_node (sig : List D) (ms : List M) {k h : Int} {xs ctx : List T} {a : T} (hk : k ≠ 3) (ha : a.k = 2) :
    termF sig ms (.mk k h xs) ctx a = if (comesF sig ms k h xs ctx).2 ≠ 0 then (comesF sig ms k h xs ctx).2 else if (comesF sig ms k h xs ctx).1.same a then 0 else 3 := by
  rw [termF]
  rw [if_neg (fun c => hk c.1), if_neg (fun c => c.elim hk (fun c => c ha))]
  rfl
theorem termF_lam (sig : List D) (ms : List M) {h : Int} {b : T} {r ctx : List T} {a : T} (ha : a.k = 1) :
    termF sig ms (.mk 3 h (b :: r)) ctx a = termF sig ms b (ctx ++ [a.args.getD 0 T0]) (a.args.getD 1 T0) := by
  conv => lhs; rw [termF]
  rw [if_pos ⟨rfl, ha⟩, bodyF]
theorem termF_no (sig : List D) (ms : List M) {k h : Int} {xs ctx : List T} {a : T} (h1 : ¬ (k = 3 ∧ a.k = 1)) (h2 : k = 3 ∨ a.k ≠ 2) : termF sig ms (.mk k h xs) ctx a = 3 := by
  rw [termF, if_neg h1, if_pos h2]
end Go.Ama
namespace Go.Ama
open Go Go.AM
theorem typF_pi (sig : List D) (ms : List M) {h : Int} {a b : T} {ctx : List T} : typF sig ms (.mk 1 h [a, b]) ctx = if typF sig ms a ctx ≠ 0 then typF sig ms a ctx else typF sig ms b (ctx ++ [a]) := by
  conv => lhs; rw [typF]
  rw [if_pos rfl, bothT, secondT]
theorem kindF_pi (sig : List D) (ms : List M) {h : Int} {a b : T} {ctx : List T} : kindF sig ms (.mk 1 h [a, b]) ctx = if typF sig ms a ctx ≠ 0 then typF sig ms a ctx else kindF sig ms b (ctx ++ [a]) := by
  conv => lhs; rw [kindF]
  rw [if_neg (by decide), if_pos rfl, bothK, secondK]
theorem mayW_iff {sig : List D} {ms : List M} {ctx l : List T} : mayW sig ms ctx l = true ↔ ctx.length ≤ 1000 ∧ (∀ x ∈ l, may x = true) ∧ (∀ x ∈ ctx, may x = true) ∧ (∀ d ∈ sig, may d.t = true) ∧ (∀ m ∈ ms, may m.t = true ∧ ∀ x ∈ m.ctx, may x = true) := by
  unfold mayW
  simp only [Bool.and_eq_true, decide_eq_true_eq, List.all_eq_true]
  have : ∀ m : M, mayM m = true ↔ may m.t = true ∧ ∀ x ∈ m.ctx, may x = true := fun m => by unfold mayM; simp [Bool.and_eq_true, List.all_eq_true]
  simp only [this]
/-- What check is handed: sizes, heads up to a bound. -/
structure In (sig : List D) (ms : List M) (ctx l : List T) : Prop where
  s : ∀ d ∈ sig, d.t.size ≤ 1048576 ∧ (may d.t = true → okB 4398046511104 d.t)
  m : ∀ m ∈ ms, sizes m.ctx + m.t.size ≤ 1048576 ∧ (may m.t = true → okB 4398046511104 m.t) ∧ ∀ x ∈ m.ctx, may x = true → okB 4398046511104 x
  c : sizes ctx ≤ 1048576 ∧ ∀ x ∈ ctx, may x = true → okB 4398046511104 x
  l : sizes l ≤ 1048576 ∧ ∀ x ∈ l, may x = true → okB 4398046511104 x
  sl : sig.length ≤ 1048576
  ml : ms.length ≤ 1048576
theorem In.ok {sig : List D} {ms : List M} {ctx l : List T} (h : In sig ms ctx l) (hm : mayW sig ms ctx l = true) : OkW 4398046511104 sig ms ctx ∧ ∀ x ∈ l, may x = true ∧ okB 4398046511104 x := by
  obtain ⟨_, h2, h3, h4, h5⟩ := mayW_iff.1 hm
  refine ⟨⟨fun d hd => ⟨h4 d hd, (h.s d hd).2 (h4 d hd)⟩, fun m hm => ⟨(h5 m hm).1, (h.m m hm).2.1 (h5 m hm).1, fun x hx => ⟨(h5 m hm).2 x hx, (h.m m hm).2.2 x hx ((h5 m hm).2 x hx)⟩⟩, fun x hx => ⟨h3 x hx, h.c.2 x hx (h3 x hx)⟩, h.sl, h.ml, fun m hm => ?_⟩, fun x hx => ⟨h2 x hx, h.l.2 x hx (h2 x hx)⟩⟩
  have := (h.m m hm).1
  have := length_le_sizes m.ctx
  omega
end Go.Ama

/-! check: a term of a type. -/
namespace Go.Proofs.GT
open Go Go.AM Go.Ama

section
variable (sig : List D) (ms : List M)
/-- Terms of so many nodes are told of. -/
def HT (N : Nat) : Prop := ∀ (m : T) (ctx : List T) (a : T) (β : Int), m.size ≤ N → 0 ≤ β → OkW β sig ms ctx → ctx.length + m.size ≤ 1000000 → may m = true → okB β m → may a = true → okB β a → okBase (β + m.size * 90000000000) →
  Ev 37 [encW sig ms ctx, enc m, enc a] (.int (termF sig ms m ctx a))

theorem spineL_spec {N : Nat} (hT : HT sig ms N) (xs ctx : List T) (hxl : xs.length ≤ 1000000) : ∀ (n i : Nat) (t : T) (β : Int) (v : V), xs.length - i = n → i ≤ xs.length → sizes (xs.drop i) ≤ N → 0 ≤ β → OkW β sig ms ctx → ctx.length + sizes (xs.drop i) ≤ 1000000 → (∀ x ∈ xs, may x = true ∧ okB β x) → may t = true → okB β t → okBase (β + sizes (xs.drop i) * 90000000000) →
    W.loop 51 2 [.loc true (some 3) v, .int (i : Int), .loc false (some 3) (enc t), .loc false (some 3) (encW sig ms ctx), .vec .plain (some 3) (encs xs), .int xs.length] [] =
      if (spineF sig ms (xs.drop i) ctx t).2 = 0 then some (.exit 0, [.loc true (some 3) v, .loc false (some 3) (enc (spineF sig ms (xs.drop i) ctx t).1)], []) else some (.ret, [.loc false (some 3) (enc T0), .int (spineF sig ms (xs.drop i) ctx t).2], []) := by
  intro n
  induction n with
  | zero =>
    intro i t β v hn hi _ _ _ _ _ _ _ _
    have : i = xs.length := by omega
    subst this
    rw [L, enc_eta t, e_check_world_spine_L2]
    simp [spineF, ← enc_eta]
  | succ n ih =>
    intro i t β v hn hi hN h0 hW hcl hx hm ho hβ
    have hlt : i < xs.length := by omega
    have hlt' : (i : Int) < xs.length := by omega
    have hd : xs.drop i = xs[i] :: xs.drop (i + 1) := List.drop_eq_getElem_cons hlt
    have hp := size_pos xs[i]
    have hw : IntKind.i64.wrap ((i : Int) + 1) = ((i + 1 : Nat) : Int) := by rw [wrap_id ⟨by omega, by omega⟩]; omega
    rw [hd] at hN hcl hβ ⊢
    simp only [sizes, Int.natCast_add, Int.add_mul] at hN hcl hβ
    have hbase : okBase β := okBase_le hβ h0 (by omega)
    obtain ⟨hxm, hxo⟩ := hx _ (List.getElem_mem hlt)
    rw [L, enc_eta t, e_check_world_spine_L2, ← enc_eta t, hw, getI_encs hlt, encs_length]
    simp only [hlt', decide_true, bc_true, Int.natCast_nonneg, Bool.and_self, gd_true, onTe, ← enc_eta]
    by_cases hk : t.k = 1
    · obtain ⟨a0, b, hab⟩ := len2 (may_pi hm hk)
      have ha0 : a0 ∈ t.args := by rw [hab]; simp
      have hb : b ∈ t.args := by rw [hab]; simp
      have h1 := (hT xs[i] ctx a0 β (by omega) h0 hW (by omega) hxm hxo (may_arg hm ha0) (okB_args ho ha0) (okBase_le hβ (by omega) (by omega))).p (by simp [belowL, below, below_encDs])
      have hst : spineF sig ms (xs[i] :: xs.drop (i + 1)) ctx t = (if termF sig ms xs[i] ctx a0 ≠ 0 then (T0, termF sig ms xs[i] ctx a0) else if (applyF b [xs[i]] 0).2 ≠ 0 then (T0, (applyF b [xs[i]] 0).2) else spineF sig ms (xs.drop (i + 1)) ctx (applyF b [xs[i]] 0).1) := by
        conv => lhs; unfold spineF
        simp [hk, hab]
      rw [hst]
      by_cases he : termF sig ms xs[i] ctx a0 = 0
      · have hsb := may_size (may_arg hm hb)
        have hsx := may_size hxm
        have hA := (ApplyF_spec (s := 0) hbase (t := b) (l := [xs[i]]) (by omega) (by simp [sizes]; omega) (fun _ => okB_args ho hb) (fun _ x hx' => by simp at hx'; rw [hx']; exact hxo)).p
        simp only [encSu, encs_cons, encs_nil] at hA
        by_cases hu : (applyF b [xs[i]] 0).2 = 0
        · obtain ⟨u1, u2, _⟩ := applyF_ok (t := b) (l := [xs[i]]) (s := 0) hbase (fun _ => okB_args ho hb) (fun _ x hx' => by simp at hx'; rw [hx']; exact hxo) hu
          have := ih (i + 1) (applyF b [xs[i]] 0).1 (β + xs[i].size * 90000000000) v (by omega) (by omega) (by omega) (by omega) (hW.mono (by omega)) (by omega) (fun x hx' => ⟨(hx x hx').1, okB_mono (by omega) x (hx x hx').2⟩) u1 (okB_mono (by omega) _ u2) (by rw [show β + ↑xs[i].size * 90000000000 + ↑(sizes (xs.drop (i + 1))) * 90000000000 = β + (↑xs[i].size * 90000000000 + ↑(sizes (xs.drop (i + 1))) * 90000000000) by omega]; exact hβ)
          simp [hk, hab, h1, he, hA, hu, ← enc_eta]
          simpa using this
        · simp [hk, hab, h1, he, hA, hu, ← enc_eta, enc_eta T0]
      · simp [hk, hab, h1, he, ← enc_eta, enc_eta T0]
    · have hst : spineF sig ms (xs[i] :: xs.drop (i + 1)) ctx t = (T0, 3) := by
        conv => lhs; unfold spineF
        simp [hk]
      rw [hst]
      simp [hk, enc_eta T0]

theorem spine_spec {N : Nat} (hT : HT sig ms N) (xs ctx : List T) (t : T) (β : Int) (hN : sizes xs ≤ N) (h0 : 0 ≤ β) (hW : OkW β sig ms ctx) (hcl : ctx.length + sizes xs ≤ 1000000) (hx : ∀ x ∈ xs, may x = true ∧ okB β x) (hm : may t = true) (ho : okB β t) (hβ : okBase (β + sizes xs * 90000000000)) :
    Ev 51 [encW sig ms ctx, enc t, .vec .plain (some 3) (encs xs)] (.tup [enc (spineF sig ms xs ctx t).1, .int (spineF sig ms xs ctx t).2]) := by
  have hl := length_le_sizes xs
  have h := spineL_spec sig ms hT xs ctx (by omega) _ 0 t β (.agg [.int 0, .int 0, .vec .full (some 3) []]) rfl (Nat.zero_le _) (by simpa using hN) h0 hW (by simpa using hcl) hx hm ho (by simpa using hβ)
  simp only [List.drop_zero, Int.natCast_zero] at h
  have hz : (spineF sig ms xs ctx t).2 ≠ 0 → (spineF sig ms xs ctx t).1 = T0 := by
    have : ∀ (ys : List T) (t : T), (spineF sig ms ys ctx t).2 ≠ 0 → (spineF sig ms ys ctx t).1 = T0 := by
      intro ys
      induction ys with
      | nil => intro t h; simp [spineF] at h
      | cons y ys ih =>
        intro t h
        unfold spineF at h ⊢
        dsimp only at h ⊢
        repeat' split
        all_goals first | rfl | skip
        rename_i c1 c2 c3
        rw [if_neg c1, if_neg c2, if_neg c3] at h
        exact ih _ h
    exact this xs t
  unfold Ev
  rw [C]
  conv => lhs; rw [enc_eta t]
  rw [e_check_world_spine, encs_length, ← enc_eta t, h]
  by_cases he : (spineF sig ms xs ctx t).2 = 0
  · simp [he, ← enc_eta, below, belowL, belowSt]
  · have hc : ∀ t : T, cleanV (enc t) = enc t := fun t => by rw [enc_eta]; rfl
    simp [he, hz he, below, belowL, belowSt, hc]
end
end Go.Proofs.GT

/-! check: variables, constants, metas; a term of a type, whole. -/
namespace Go.Proofs.GT
open Go Go.AM Go.Ama

section
variable (sig : List D) (ms : List M)

theorem variable_spec {N : Nat} (hT : HT sig ms N) (k h : Int) (xs ctx : List T) (β : Int) (hN : sizes xs ≤ N) (h0 : 0 ≤ β) (hW : OkW β sig ms ctx) (hcl : ctx.length + sizes xs ≤ 1000000) (hx : ∀ x ∈ xs, may x = true ∧ okB β x) (hh : 0 ≤ h) (hβ : okBase (β + (1 + sizes xs : Nat) * 90000000000)) :
    Ev 62 [encW sig ms ctx, .agg [.int k, .int h, .vec .plain (some 3) (encs xs)]] (.tup [enc (varF sig ms h xs ctx).1, .int (varF sig ms h xs ctx).2]) := by
  simp only [Int.natCast_add, Int.add_mul] at hβ
  have hbase : okBase β := okBase_le hβ h0 (by omega)
  unfold Ev varF
  rw [C, e_check_world_variable, encs_length]
  by_cases hc : (ctx.length : Int) ≤ h
  · simp only [hc, if_true]
    simp [hc, enc_eta T0]
  · have hw1 : IntKind.i64.wrap ((ctx.length : Int) - 1) = (ctx.length : Int) - 1 := wrap_id ⟨by omega, by omega⟩
    have hw2 : IntKind.i64.wrap ((ctx.length : Int) - 1 - h) = ((ctx.length - 1 - h.toNat : Nat) : Int) := by rw [wrap_id ⟨by omega, by omega⟩]; omega
    have hw3 : IntKind.i64.wrap (h + 1) = h + 1 := wrap_id ⟨by omega, by omega⟩
    have hlt : ctx.length - 1 - h.toNat < ctx.length := by omega
    have hg : ctx.getD (ctx.length - 1 - h.toNat) T0 = ctx[ctx.length - 1 - h.toNat] := by simp [List.getD_eq_getElem?_getD, hlt]
    obtain ⟨c1, c2⟩ := hW.c _ (List.getElem_mem hlt)
    have hsz := may_size c1
    have hU := (Up_spec ctx[ctx.length - 1 - h.toNat] (h + 1) 0 (by omega)).p
    have hS := (spine_spec sig ms hT xs ctx (upP ctx[ctx.length - 1 - h.toNat] (h + 1) 0) (β + 90000000000) hN (by omega) (hW.mono (by omega)) hcl (fun x hx' => ⟨(hx x hx').1, okB_mono (by omega) x (hx x hx').2⟩) (may_upP hbase c2 c1 (by omega)) (okB_mono (by omega) _ (okB_upPG hbase c2 (by omega))) (by rw [show β + 90000000000 + ↑(sizes xs) * 90000000000 = β + (((1 : Nat) : Int) * 90000000000 + ↑(sizes xs) * 90000000000) by omega]; exact hβ)).p (by simp [belowL, below, below_encDs]) (by simp [below, belowL])
    have hc' : ¬ (h ≥ (ctx.length : Int)) := by omega
    have hlt' : ((ctx.length - 1 - h.toNat : Nat) : Int) < ctx.length := by omega
    simp only [hc, if_false]
    rw [hw1, hw2, hw3, getI_encs hlt, hg]
    simp [hc', hlt', hU, ← enc_eta, hS]
    simp [below, belowL]

theorem constant_spec {N : Nat} (hT : HT sig ms N) (k h : Int) (xs ctx : List T) (β : Int) (hN : sizes xs ≤ N) (h0 : 0 ≤ β) (hW : OkW β sig ms ctx) (hcl : ctx.length + sizes xs ≤ 1000000) (hx : ∀ x ∈ xs, may x = true ∧ okB β x) (hh : 0 ≤ h) (hβ : okBase (β + sizes xs * 90000000000)) :
    Ev 63 [encW sig ms ctx, .agg [.int k, .int h, .vec .plain (some 3) (encs xs)]] (.tup [enc (constF sig ms h xs ctx).1, .int (constF sig ms h xs ctx).2]) := by
  have hD := (declared_spec sig ms ctx h false hh (by have := hW.sl; omega)).p (by simp [belowL, below, below_encDs]) (by simp [below, belowL])
  unfold Ev constF
  rw [C, e_check_world_constant, hD]
  cases hd : declaredF sig h false with
  | none => simp [enc_eta T0]
  | some t =>
    obtain ⟨d, hdm, hdt⟩ : ∃ d ∈ sig, d.t = t := by
      unfold declaredF at hd
      split at hd
      · split at hd
        · cases hd; exact ⟨_, List.getElem_mem _, rfl⟩
        · cases hd
      · cases hd
    obtain ⟨s1, s2⟩ := hW.s d hdm
    rw [hdt] at s1 s2
    have hS := (spine_spec sig ms hT xs ctx t β hN h0 hW hcl hx s1 s2 hβ).p (by simp [belowL, below, below_encDs]) (by simp [below, belowL])
    simp [← enc_eta, hS]
    simp [below, belowL]

theorem encs_take (l : List T) (n : Nat) : (encs l).take n = encs (l.take n) := by simp [encs_map, List.map_take]

theorem metaL_spec {N : Nat} (hT : HT sig ms N) (k h : Int) (xs ctx : List T) (d : M) (β : Int) (hN : sizes xs ≤ N) (h0 : 0 ≤ β) (hW : OkW β sig ms ctx) (hcl : ctx.length + sizes xs ≤ 1000000) (hx : ∀ x ∈ xs, may x = true ∧ okB β x) (hd : d ∈ ms) (hlen : d.ctx.length = xs.length) (hβ : okBase (β + (1 + sizes xs : Nat) * 90000000000)) (v : V) :
    ∀ (n i : Nat), xs.length - i = n → i ≤ xs.length →
    W.loop 64 7 [.loc true (some 3) v, .int (i : Int), .loc false (some 3) (.agg [.int k, .int h, .vec .plain (some 3) (encs xs)]), .loc false (some 3) (encW sig ms ctx), .vec .plain (some 3) (encs d.ctx), .loc false (some 5) (encM d), .int d.ctx.length] [] =
      if entsF sig ms (xs.drop i) ctx (xs.take i) (d.ctx.drop i) = 0 then some (.exit 0, [.loc true (some 3) v, .loc false (some 3) (encW sig ms ctx), .loc false (some 3) (.agg [.int k, .int h, .vec .plain (some 3) (encs xs)]), .loc false (some 5) (encM d)], [])
      else some (.ret, [.loc false (some 3) (enc T0), .int (entsF sig ms (xs.drop i) ctx (xs.take i) (d.ctx.drop i))], []) := by
  have hxl := length_le_sizes xs
  simp only [Int.natCast_add, Int.add_mul] at hβ
  have hbase : okBase β := okBase_le hβ h0 (by omega)
  obtain ⟨_, _, m3⟩ := hW.m d hd
  intro n
  induction n with
  | zero =>
    intro i hn hi
    have : i = xs.length := by omega
    subst this
    rw [L, encM_eta, e_check_world_meta_L7, ← encM_eta]
    simp [entsF, hlen]
  | succ n ih =>
    intro i hn hi
    have hlt : i < xs.length := by omega
    have hlt2 : i < d.ctx.length := by omega
    have hlt' : (i : Int) < xs.length := by omega
    have hlt2' : (i : Int) < d.ctx.length := by omega
    have hle' : (i : Int) ≤ xs.length := by omega
    have hdx : xs.drop i = xs[i] :: xs.drop (i + 1) := List.drop_eq_getElem_cons hlt
    have hdd : d.ctx.drop i = d.ctx[i] :: d.ctx.drop (i + 1) := List.drop_eq_getElem_cons hlt2
    have hp := size_pos xs[i]
    have hsx := size_le (List.getElem_mem hlt)
    have hw : IntKind.i64.wrap ((i : Int) + 1) = ((i + 1 : Nat) : Int) := by rw [wrap_id ⟨by omega, by omega⟩]; omega
    obtain ⟨hxm, hxo⟩ := hx _ (List.getElem_mem hlt)
    obtain ⟨hdm, hdo⟩ := m3 _ (List.getElem_mem hlt2)
    have hsd := may_size hdm
    have hst := sizes_take_le xs i
    have htk : List.drop 0 (List.take (i : Int).toNat (encs xs)) = encs (xs.take i) := by simp [encs_take]
    have hok : ∀ x ∈ xs.take i, okB β x := fun x hx' => (hx x (List.mem_of_mem_take hx')).2
    have hA := (ApplyF_spec (s := ctx.length) hbase (t := d.ctx[i]) (l := xs.take i) (by omega) (by omega) (fun _ => hdo) (fun _ => hok)).p
    simp only [encSu] at hA
    have hstep : entsF sig ms (xs.drop i) ctx (xs.take i) (d.ctx.drop i) = (if (if (applyF d.ctx[i] (xs.take i) ctx.length).2 = 0 then termF sig ms xs[i] ctx (applyF d.ctx[i] (xs.take i) ctx.length).1 else (applyF d.ctx[i] (xs.take i) ctx.length).2) ≠ 0 then (if (applyF d.ctx[i] (xs.take i) ctx.length).2 = 0 then termF sig ms xs[i] ctx (applyF d.ctx[i] (xs.take i) ctx.length).1 else (applyF d.ctx[i] (xs.take i) ctx.length).2) else entsF sig ms (xs.drop (i + 1)) ctx (xs.take (i + 1)) (d.ctx.drop (i + 1))) := by
      rw [hdx, hdd, take_succ' hlt]
      conv => lhs; unfold entsF
    rw [hstep, L, encM_eta, e_check_world_meta_L7, ← encM_eta, hw, getI_encs hlt, getI_encs hlt2, encs_length, encs_length, encs_length, htk]
    have ihh := ih (i + 1) (by omega) (by omega)
    by_cases hu : (applyF d.ctx[i] (xs.take i) ctx.length).2 = 0
    · obtain ⟨u1, u2, _⟩ := applyF_ok (t := d.ctx[i]) (l := xs.take i) (s := ctx.length) hbase (fun _ => hdo) (fun _ => hok) hu
      have h1 := (hT xs[i] ctx (applyF d.ctx[i] (xs.take i) ctx.length).1 (β + 90000000000) (by omega) (by omega) (hW.mono (by omega)) (by omega) hxm (okB_mono (by omega) _ hxo) u1 (okB_mono (by omega) _ u2) (okBase_le hβ (by omega) (by omega))).p (by simp [belowL, below, below_encDs])
      by_cases he : termF sig ms xs[i] ctx (applyF d.ctx[i] (xs.take i) ctx.length).1 = 0
      · simp [hlt', hlt2', hle', hA, hu, ← enc_eta, h1, he]
        simpa using ihh
      · simp [hlt', hlt2', hle', hA, hu, ← enc_eta, h1, he, enc_eta T0]
    · simp [hlt', hlt2', hle', hA, hu, ← enc_eta, enc_eta T0]

theorem meta_spec {N : Nat} (hT : HT sig ms N) (k h : Int) (xs ctx : List T) (β : Int) (hN : sizes xs ≤ N) (h0 : 0 ≤ β) (hW : OkW β sig ms ctx) (hcl : ctx.length + sizes xs ≤ 1000000) (hx : ∀ x ∈ xs, may x = true ∧ okB β x) (hh : 0 ≤ h) (hβ : okBase (β + (1 + sizes xs : Nat) * 90000000000)) :
    Ev 64 [encW sig ms ctx, .agg [.int k, .int h, .vec .plain (some 3) (encs xs)]] (.tup [enc (metaF sig ms h xs ctx).1, .int (metaF sig ms h xs ctx).2]) := by
  have hxl := length_le_sizes xs
  unfold Ev metaF
  rw [C, e_check_world_meta, encMs_length]
  by_cases hc : (ms.length : Int) ≤ h
  · simp only [hc, if_true]
    simp [hc, enc_eta T0]
  · have hlt : h.toNat < ms.length := by omega
    have hg : ms.getD h.toNat ⟨[], T0, false⟩ = ms[h.toNat] := by simp [List.getD_eq_getElem?_getD, hlt]
    have hii : ((h.toNat : Nat) : Int) = h := by omega
    have hgi : getI (encMs ms) h = encM ms[h.toNat] := by have := getI_encMs hlt; rwa [hii] at this
    have hc' : ¬ (h ≥ (ms.length : Int)) := by omega
    have hlt' : h < (ms.length : Int) := by omega
    have hmem := List.getElem_mem hlt
    simp only [hc, if_false]
    rw [hg, hgi]
    generalize ms[h.toNat] = d at *
    by_cases hlen : d.ctx.length = xs.length
    · have hL := metaL_spec sig ms hT k h xs ctx d β hN h0 hW hcl hx hmem hlen hβ (.agg [.int 0, .int 0, .vec .full (some 3) []]) _ 0 rfl (Nat.zero_le _)
      simp only [List.drop_zero, Int.natCast_zero, List.take_zero] at hL
      have hbase : okBase β := okBase_le hβ h0 (by omega)
      obtain ⟨t1, t2, _⟩ := hW.m d hmem
      have hsz := may_size t1
      have hA := (ApplyF_spec (s := ctx.length) hbase (t := d.t) (l := xs) (by omega) (by omega) (fun _ => t2) (fun _ x hx' => (hx x hx').2)).p
      simp only [encSu] at hA
      have hbne : ((d.ctx.length : Int) != (xs.length : Int)) = false := by simp [hlen]
      have hc2 : ∀ t : T, cleanV (enc t) = enc t := fun t => by rw [enc_eta]; rfl
      have hL' := hL
      simp only [encM, hlen, encW] at hL'
      simp only [hlen, ne_eq, not_true, if_false]
      by_cases he : entsF sig ms xs ctx [] d.ctx = 0
      · rw [if_pos he] at hL'
        simp [hc', hh, hlt', hbne, hL', he, hA, ← enc_eta, below, belowL, hlen] 
        simp [below, belowL, belowSt]
      · rw [if_neg he] at hL'
        simp [hc', hh, hlt', hbne, hL', he, hlen, hc2, below, belowL, belowSt]
    · have hbne : ((d.ctx.length : Int) != (xs.length : Int)) = true := by simp; omega
      simp [hc', hh, hlt', hbne, hlen, enc_eta T0]
end
end Go.Proofs.GT

/-! check: a term of a type, whole; types; kinds. -/
namespace Go.Proofs.GT
open Go Go.AM Go.Ama

theorem pure_none : cfg.pure 61 = true := by kernel_rfl
theorem pure_variable : cfg.pure 62 = true := by kernel_rfl
theorem pure_constant : cfg.pure 63 = true := by kernel_rfl
theorem pure_meta : cfg.pure 64 = true := by kernel_rfl

section
variable (sig : List D) (ms : List M)

theorem none_spec (k h : Int) (xs ctx : List T) : Ev 61 [encW sig ms ctx, .agg [.int k, .int h, .vec .plain (some 3) (encs xs)]] (.tup [enc T0, .int 3]) := by
  unfold Ev
  rw [C, e_check_world_none]
  rw [enc_eta T0]
  rfl

theorem comes_small {β : Int} {xs ctx : List T} {k h : Int} (h0 : 0 ≤ β) (hW : OkW β sig ms ctx) (hx : ∀ x ∈ xs, may x = true ∧ okB β x) (hh : 0 ≤ h) (hcl : ctx.length ≤ 1000000) (hβ : okBase (β + (1 + sizes xs : Nat) * 90000000000)) (he : (comesF sig ms k h xs ctx).2 = 0) : may (comesF sig ms k h xs ctx).1 = true := by
  simp only [Int.natCast_add, Int.add_mul] at hβ
  have hbase : okBase β := okBase_le hβ h0 (by omega)
  unfold comesF at he ⊢
  split
  · rename_i hk
    rw [if_pos hk] at he
    unfold varF at he ⊢
    split
    · rename_i c; rw [if_pos c] at he; simp at he
    · rename_i c
      rw [if_neg c] at he
      have hlt : ctx.length - 1 - h.toNat < ctx.length := by omega
      have hg : ctx.getD (ctx.length - 1 - h.toNat) T0 = ctx[ctx.length - 1 - h.toNat] := by simp [List.getD_eq_getElem?_getD, hlt]
      obtain ⟨c1, c2⟩ := hW.c _ (List.getElem_mem hlt)
      rw [hg] at he ⊢
      exact (spineF_ok sig ms xs ctx _ (β + 90000000000) (by omega) (by rw [show β + 90000000000 + ↑(sizes xs) * 90000000000 = β + (((1 : Nat) : Int) * 90000000000 + ↑(sizes xs) * 90000000000) by omega]; exact hβ) (may_upP hbase c2 c1 (by omega)) (okB_mono (by omega) _ (okB_upPG hbase c2 (by omega))) (fun x hx' => okB_mono (by omega) x (hx x hx').2) he).1
  · rename_i hk
    rw [if_neg hk] at he
    split
    · rename_i hk
      rw [if_pos hk] at he
      unfold constF at he ⊢
      cases hd : declaredF sig h false with
      | none => rw [hd] at he; simp at he
      | some t =>
        rw [hd] at he
        obtain ⟨d, hdm, hdt⟩ : ∃ d ∈ sig, d.t = t := by
          unfold declaredF at hd
          split at hd
          · split at hd
            · cases hd; exact ⟨_, List.getElem_mem _, rfl⟩
            · cases hd
          · cases hd
        obtain ⟨s1, s2⟩ := hW.s d hdm
        rw [hdt] at s1 s2
        exact (spineF_ok sig ms xs ctx t β h0 (okBase_le hβ (by omega) (by omega)) s1 s2 (fun x hx' => (hx x hx').2) he).1
    · rename_i hk
      rw [if_neg hk] at he
      split
      · rename_i hk
        rw [if_pos hk] at he
        unfold metaF at he ⊢
        split
        · rename_i c; rw [if_pos c] at he; simp at he
        · rename_i c
          rw [if_neg c] at he
          have hlt : h.toNat < ms.length := by omega
          have hg : ms.getD h.toNat ⟨[], T0, false⟩ = ms[h.toNat] := by simp [List.getD_eq_getElem?_getD, hlt]
          obtain ⟨t1, t2, _⟩ := hW.m _ (List.getElem_mem hlt)
          rw [hg] at he ⊢
          dsimp only at he ⊢
          split
          · rename_i c; rw [if_pos c] at he; simp at he
          · rename_i c
            rw [if_neg c] at he
            split
            · rename_i c; rw [if_pos c] at he; exact absurd he c
            · rename_i c
              rw [if_neg c] at he
              exact (applyF_ok hbase (fun _ => t2) (fun _ x hx' => (hx x hx').2) he).1
      · rename_i hk
        rw [if_neg hk] at he
        simp at he

theorem term_step {N : Nat} (hT : HT sig ms N) : HT sig ms (N + 1) := by
  intro m ctx a β hN h0 hW hcl hm ho ham hao hβ
  obtain ⟨k, h, xs⟩ := m
  have hnode := may_node hm
  obtain ⟨⟨hh, _⟩, _, hxs⟩ := ho
  simp only [T.size] at hN hcl hβ
  have hx : ∀ x ∈ xs, may x = true ∧ okB β x := fun x hx' => ⟨may_arg hm hx', (okBs_iff _ _).1 hxs x hx'⟩
  have hβ' := hβ
  simp only [Int.natCast_add, Int.add_mul] at hβ
  have hasz := may_size ham
  show W.call 37 [encW sig ms ctx, .agg [.int k, .int h, .vec .plain (some 3) (encs xs)], enc a] [] = _
  rw [C, enc_eta a, e_check_world_term, ← enc_eta a, encs_length, encs_length]
  by_cases hL : k = 3 ∧ a.k = 1
  · obtain ⟨rfl, hak⟩ := hL
    obtain ⟨a0, b, hab⟩ := len2 (may_pi ham hak)
    have ha0 : a0 ∈ a.args := by rw [hab]; simp
    have hb : b ∈ a.args := by rw [hab]; simp
    simp only [T_k_mk, T_h_mk, T_args_mk, may1] at hnode
    obtain ⟨c, hc⟩ : ∃ c, xs = [c] := by simp at hnode; exact List.length_eq_one_iff.1 (of_decide_eq_true hnode.2)
    subst hc
    obtain ⟨c1, c2⟩ := hx c (by simp)
    simp only [sizes] at hN hcl hβ
    have hw := (with_spec sig ms ctx a0 (by omega)).p (by simp [belowL, below, below_encDs]) (below_encW 0 sig ms _)
    have h1 := (hT c (ctx ++ [a0]) b β (by omega) h0 (hW.with (may_arg ham ha0) (okB_args hao ha0)) (by simp; omega) c1 c2 (may_arg ham hb) (okB_args hao hb) (okBase_le hβ (by omega) (by omega))).p (by simp [belowL, below, below_encDs, belowL_app])
    simp only [encW, encs_append, encs_cons, encs_nil] at h1
    rw [termF_lam sig ms hak, hab]
    simp [hak, hab, ← enc_eta, hw, h1]
  · by_cases hno : k = 3 ∨ a.k ≠ 2
    · rw [termF_no sig ms hL hno]
      rcases hno with hk | hak
      · have : a.k ≠ 1 := fun c => hL ⟨hk, c⟩
        simp [hk, this]
      · by_cases hk : k = 3
        · have : a.k ≠ 1 := fun c => hL ⟨hk, c⟩
          simp [hk, this]
        · simp [hk, hak]
    · simp only [not_or, ne_eq, Decidable.not_not] at hno
      obtain ⟨hk3, ha2⟩ := hno
      rw [termF_node sig ms hk3 ha2]
      have hcs := comes_small sig ms (k := k) (h := h) h0 hW hx hh (by omega) hβ'
      have hsame : (comesF sig ms k h xs ctx).2 = 0 → pcall W 65 [enc (comesF sig ms k h xs ctx).1, enc a] = some (.bool ((comesF sig ms k h xs ctx).1.same a)) := fun he =>
        (psame_spec _ a (by have := may_size (hcs he); omega) (by omega)).p
      have hk7 : k = 0 ∨ k = 1 ∨ k = 2 ∨ k = 4 ∨ k = 5 ∨ k = 6 := by
        simp only [T_k_mk, T_h_mk, T_args_mk] at hnode
        unfold may1 at hnode
        repeat' split at hnode
        all_goals simp at hnode
        all_goals omega
      have hnone : ∀ k, k ≠ 4 → k ≠ 5 → k ≠ 6 → comesF sig ms k h xs ctx = (T0, 3) := fun k h4 h5 h6 => by unfold comesF; rw [if_neg h4, if_neg h5, if_neg h6]
      rcases hk7 with rfl | rfl | rfl | rfl | rfl | rfl
      · have hn := (none_spec sig ms 0 h xs ctx).p (by simp [belowL, below, below_encDs])
        rw [hnone 0 (by decide) (by decide) (by decide)] at *
        simp [ha2, AM.partOf, onFnY, pure_none, hn]
      · have hn := (none_spec sig ms 1 h xs ctx).p (by simp [belowL, below, below_encDs])
        rw [hnone 1 (by decide) (by decide) (by decide)] at *
        simp [ha2, AM.partOf, onFnY, pure_none, hn]
      · have hn := (none_spec sig ms 2 h xs ctx).p (by simp [belowL, below, below_encDs])
        rw [hnone 2 (by decide) (by decide) (by decide)] at *
        simp [ha2, AM.partOf, onFnY, pure_none, hn]
      · have hn := (variable_spec sig ms hT 4 h xs ctx β (by omega) h0 hW (by omega) hx hh hβ').p (by simp [belowL, below, below_encDs]) (by simp [below, belowL])
        have hc : comesF sig ms 4 h xs ctx = varF sig ms h xs ctx := rfl
        rw [hc]
        by_cases he : (varF sig ms h xs ctx).2 = 0
        · have := hsame (by rw [hc]; exact he)
          rw [hc] at this
          cases hs : (varF sig ms h xs ctx).1.same a <;> rw [hs] at this <;> simp [ha2, AM.partOf, onFnY, pure_variable, hn, he, ← enc_eta, this]
        · simp [ha2, AM.partOf, onFnY, pure_variable, hn, he]
      · have hn := (constant_spec sig ms hT 5 h xs ctx β (by omega) h0 hW (by omega) hx hh (okBase_le hβ (by omega) (by omega))).p (by simp [belowL, below, below_encDs]) (by simp [below, belowL])
        have hc : comesF sig ms 5 h xs ctx = constF sig ms h xs ctx := rfl
        rw [hc]
        by_cases he : (constF sig ms h xs ctx).2 = 0
        · have := hsame (by rw [hc]; exact he)
          rw [hc] at this
          cases hs : (constF sig ms h xs ctx).1.same a <;> rw [hs] at this <;> simp [ha2, AM.partOf, onFnY, pure_constant, hn, he, ← enc_eta, this]
        · simp [ha2, AM.partOf, onFnY, pure_constant, hn, he]
      · have hn := (meta_spec sig ms hT 6 h xs ctx β (by omega) h0 hW (by omega) hx hh hβ').p (by simp [belowL, below, below_encDs]) (by simp [below, belowL])
        have hc : comesF sig ms 6 h xs ctx = metaF sig ms h xs ctx := rfl
        rw [hc]
        by_cases he : (metaF sig ms h xs ctx).2 = 0
        · have := hsame (by rw [hc]; exact he)
          rw [hc] at this
          cases hs : (metaF sig ms h xs ctx).1.same a <;> rw [hs] at this <;> simp [ha2, AM.partOf, onFnY, pure_meta, hn, he, ← enc_eta, this]
        · simp [ha2, AM.partOf, onFnY, pure_meta, hn, he]

theorem term_all : ∀ N, HT sig ms N
  | 0 => fun m _ _ _ h => by have := size_pos m; omega
  | N + 1 => term_step sig ms (term_all N)
end
end Go.Proofs.GT

/-! check: types, kinds; what is exported. -/
namespace Go.Proofs.GT
open Go Go.AM Go.Ama

theorem pure_typ : cfg.pure 27 = true := by kernel_rfl
theorem pure_kind : cfg.pure 42 = true := by kernel_rfl

section
variable (sig : List D) (ms : List M)

theorem both_spec {g : Nat} (hg : cfg.pure g = true) (k h : Int) (a b : T) (ctx : List T) {e1 e2 : Int} (hcl : ctx.length ≤ 1000000) (h1 : Ev 27 [encW sig ms ctx, enc a] (.int e1)) (h2 : e1 = 0 → Ev g [encW sig ms (ctx ++ [a]), enc b] (.int e2)) :
    W.call 49 [encW sig ms ctx, .agg [.int k, .int h, .vec .plain (some 3) [enc a, enc b]], .fn g [] []] [] = some (.ret (.int (if e1 ≠ 0 then e1 else e2)), []) := by
  have h1' := h1.p (by simp [belowL, below, below_encDs])
  have hw := (with_spec sig ms ctx a (by omega)).p (by simp [belowL, below, below_encDs]) (below_encW 0 sig ms _)
  rw [C, e_check_world_both]
  by_cases he : e1 = 0
  · have h2' := (h2 he).p (by simp [belowL, below, below_encDs, belowL_app])
    simp only [encW, encs_append, encs_cons, encs_nil] at h2' hw
    simp [← enc_eta, h1', he, hw, hg, h2', gcE_len]
  · simp [← enc_eta, h1', he, gcE_len]

theorem typ_all : ∀ (N : Nat) (a : T) (ctx : List T) (β : Int), a.size ≤ N → 0 ≤ β → OkW β sig ms ctx → ctx.length + a.size ≤ 1000000 → may a = true → okB β a → okBase (β + a.size * 90000000000) → Ev 27 [encW sig ms ctx, enc a] (.int (typF sig ms a ctx)) := by
  intro N
  induction N with
  | zero => intro a _ _ h; have := size_pos a; omega
  | succ N ih =>
    intro a ctx β hN h0 hW hcl hm ho hβ
    obtain ⟨k, h, xs⟩ := a
    have hnode := may_node hm
    obtain ⟨⟨hh, _⟩, _, hxs⟩ := ho
    simp only [T.size] at hN hcl hβ
    have hx : ∀ x ∈ xs, may x = true ∧ okB β x := fun x hx' => ⟨may_arg hm hx', (okBs_iff _ _).1 hxs x hx'⟩
    simp only [Int.natCast_add, Int.add_mul] at hβ
    show W.call 27 [encW sig ms ctx, .agg [.int k, .int h, .vec .plain (some 3) (encs xs)]] [] = _
    rw [C, e_check_world_typ]
    by_cases hk1 : k = 1
    · subst hk1
      obtain ⟨a, b, rfl⟩ := len2 (may_pi hm rfl)
      obtain ⟨a1, a2⟩ := hx a (by simp)
      obtain ⟨b1, b2⟩ := hx b (by simp)
      simp only [sizes] at hN hcl hβ
      have q1 := ih a ctx β (by omega) h0 hW (by omega) a1 a2 (okBase_le hβ (by omega) (by omega))
      have q2 := ih b (ctx ++ [a]) β (by omega) h0 (hW.with a1 a2) (by simp; omega) b1 b2 (okBase_le hβ (by omega) (by omega))
      have q3 := both_spec sig ms pure_typ 1 h a b ctx (by omega) q1 (fun _ => q2)
      rw [typF_pi]
      simp [q3]
    · by_cases hk2 : k = 2
      · subst hk2
        have hD := (declared_spec sig ms ctx h true hh (by have := hW.sl; omega)).p (by simp [belowL, below, below_encDs]) (by simp [below, belowL])
        rw [typF]
        simp only [if_neg hk1, if_true]
        cases hd : declaredF sig h true with
        | none =>
          rw [hd] at hD
          simp only [Option.getD_none] at hD
          simp [hD]
        | some t =>
          rw [hd] at hD
          simp only [Option.getD_some] at hD
          obtain ⟨d, hdm, hdt⟩ : ∃ d ∈ sig, d.t = t := by
            unfold declaredF at hd
            split at hd
            · split at hd
              · cases hd; exact ⟨_, List.getElem_mem _, rfl⟩
              · cases hd
            · cases hd
          obtain ⟨s1, s2⟩ := hW.s d hdm
          rw [hdt] at s1 s2
          have hS := (spine_spec sig ms (term_all sig ms (sizes xs)) xs ctx t β (Nat.le_refl _) h0 hW (by omega) hx s1 s2 (okBase_le hβ (by omega) (by omega))).p (by simp [belowL, below, below_encDs]) (by simp [below, belowL])
          by_cases he : (spineF sig ms xs ctx t).2 = 0
          · by_cases hk0 : (spineF sig ms xs ctx t).1.k = 0
            · simp [hD, ← enc_eta, hS, he, hk0]
            · simp [hD, ← enc_eta, hS, he, hk0]
          · simp [hD, ← enc_eta, hS, he]
      · rw [typF]
        simp [hk1, hk2]

theorem kind_all : ∀ (N : Nat) (a : T) (ctx : List T) (β : Int), a.size ≤ N → 0 ≤ β → OkW β sig ms ctx → ctx.length + a.size ≤ 1000000 → may a = true → okB β a → okBase (β + a.size * 90000000000) → Ev 42 [encW sig ms ctx, enc a] (.int (kindF sig ms a ctx)) := by
  intro N
  induction N with
  | zero => intro a _ _ h; have := size_pos a; omega
  | succ N ih =>
    intro a ctx β hN h0 hW hcl hm ho hβ
    obtain ⟨k, h, xs⟩ := a
    obtain ⟨⟨hh, _⟩, _, hxs⟩ := ho
    simp only [T.size] at hN hcl hβ
    have hx : ∀ x ∈ xs, may x = true ∧ okB β x := fun x hx' => ⟨may_arg hm hx', (okBs_iff _ _).1 hxs x hx'⟩
    simp only [Int.natCast_add, Int.add_mul] at hβ
    show W.call 42 [encW sig ms ctx, .agg [.int k, .int h, .vec .plain (some 3) (encs xs)]] [] = _
    rw [C, e_check_world_kind]
    by_cases hk0 : k = 0
    · rw [kindF]
      simp [hk0]
    · by_cases hk1 : k = 1
      · subst hk1
        obtain ⟨a, b, rfl⟩ := len2 (may_pi hm rfl)
        obtain ⟨a1, a2⟩ := hx a (by simp)
        obtain ⟨b1, b2⟩ := hx b (by simp)
        simp only [sizes] at hN hcl hβ
        have q1 := typ_all sig ms N a ctx β (by omega) h0 hW (by omega) a1 a2 (okBase_le hβ (by omega) (by omega))
        have q2 := ih b (ctx ++ [a]) β (by omega) h0 (hW.with a1 a2) (by simp; omega) b1 b2 (okBase_le hβ (by omega) (by omega))
        have q3 := both_spec sig ms pure_kind 1 h a b ctx (by omega) q1 (fun _ => q2)
        rw [kindF_pi]
        simp [q3]
      · rw [kindF]
        simp [hk0, hk1]

theorem checkTerm_spec (ctx : List T) (m a : T) (hI : In sig ms ctx [m, a]) : Ev 12 [.vec .plain (some 4) (encDs sig), .vec .plain (some 5) (encMs ms), .vec .plain (some 3) (encs ctx), enc m, enc a] (.int (checkTermF sig ms ctx m a)) := by
  have hl := hI.l.1
  simp only [sizes] at hl
  have h1 := (wmay_spec sig ms ctx [m, a] (fun d hd => by have := (hI.s d hd).1; omega) (by have := hI.sl; omega) (fun d hd => by have := (hI.m d hd).1; omega) (by have := hI.ml; omega) (by have := hI.c.1; omega) (by have := hI.l.1; omega)).p (by simp [belowL, below, below_encDs])
  simp only [encs_cons, encs_nil] at h1
  unfold Ev checkTermF
  rw [C, enc_eta m, enc_eta a, e_check_Term, ← enc_eta m, ← enc_eta a, h1]
  cases hm : mayW sig ms ctx [m, a] with
  | false => simp
  | true =>
    obtain ⟨o1, o2⟩ := hI.ok hm
    obtain ⟨m1, m2⟩ := o2 m (by simp)
    obtain ⟨a1, a2⟩ := o2 a (by simp)
    have hmz := may_size m1
    have hcl := (mayW_iff.1 hm).1
    have h2 := (term_all sig ms m.size m ctx a 4398046511104 (Nat.le_refl _) (by omega) o1 (by omega) m1 m2 a1 a2 (by unfold okBase; omega)).p (by simp [belowL, below, below_encDs])
    simp [h2]

theorem checkType_spec (ctx : List T) (a : T) (hI : In sig ms ctx [a]) : Ev 9 [.vec .plain (some 4) (encDs sig), .vec .plain (some 5) (encMs ms), .vec .plain (some 3) (encs ctx), enc a] (.int (checkTypeF sig ms ctx a)) := by
  have hl := hI.l.1
  simp only [sizes] at hl
  have h1 := (wmay_spec sig ms ctx [a] (fun d hd => by have := (hI.s d hd).1; omega) (by have := hI.sl; omega) (fun d hd => by have := (hI.m d hd).1; omega) (by have := hI.ml; omega) (by have := hI.c.1; omega) (by have := hI.l.1; omega)).p (by simp [belowL, below, below_encDs])
  simp only [encs_cons, encs_nil] at h1
  unfold Ev checkTypeF
  rw [C, enc_eta a, e_check_Type, ← enc_eta a, h1]
  cases hm : mayW sig ms ctx [a] with
  | false => simp
  | true =>
    obtain ⟨o1, o2⟩ := hI.ok hm
    obtain ⟨a1, a2⟩ := o2 a (by simp)
    have hmz := may_size a1
    have hcl := (mayW_iff.1 hm).1
    have h2 := (typ_all sig ms a.size a ctx 4398046511104 (Nat.le_refl _) (by omega) o1 (by omega) a1 a2 (by unfold okBase; omega)).p (by simp [belowL, below, below_encDs])
    simp [h2]

theorem checkKind_spec (ctx : List T) (a : T) (hI : In sig ms ctx [a]) : Ev 22 [.vec .plain (some 4) (encDs sig), .vec .plain (some 5) (encMs ms), .vec .plain (some 3) (encs ctx), enc a] (.int (checkKindF sig ms ctx a)) := by
  have hl := hI.l.1
  simp only [sizes] at hl
  have h1 := (wmay_spec sig ms ctx [a] (fun d hd => by have := (hI.s d hd).1; omega) (by have := hI.sl; omega) (fun d hd => by have := (hI.m d hd).1; omega) (by have := hI.ml; omega) (by have := hI.c.1; omega) (by have := hI.l.1; omega)).p (by simp [belowL, below, below_encDs])
  simp only [encs_cons, encs_nil] at h1
  unfold Ev checkKindF
  rw [C, enc_eta a, e_check_Kind, ← enc_eta a, h1]
  cases hm : mayW sig ms ctx [a] with
  | false => simp
  | true =>
    obtain ⟨o1, o2⟩ := hI.ok hm
    obtain ⟨a1, a2⟩ := o2 a (by simp)
    have hmz := may_size a1
    have hcl := (mayW_iff.1 hm).1
    have h2 := (kind_all sig ms a.size a ctx 4398046511104 (Nat.le_refl _) (by omega) o1 (by omega) a1 a2 (by unfold okBase; omega)).p (by simp [belowL, below, below_encDs])
    simp [h2]
end
end Go.Proofs.GT

namespace Go.Proofs.GT
open Go Go.AM
set_option maxRecDepth 20000

theorem e_world_Sig (O : Oracle) (l0 : (List V)) : callBody Try.prog cfg O 7 [.vec .plain (some 4) l0] [] =
  obind (O.call 19 [V.vec .plain (some 4) l0, V.fn 20 [] [V.cptr none (V.vec .plain (some 4) l0)]] []) fun r1 => onRet r1.fst (fun v2 => onTup v2 fun
  c3 => onCons c3 fun v4 c5 => onInt v4 fun n6 => onCons c5 fun v7 c8 => onInt v7 fun n9 => onNil c8 (some (Out.ret (V.tup [V.int n6, V.int n9]), []))) fun p10 => none := by kernel_rfl

theorem e_world_Ctx (O : Oracle) (l0 : (List V)) (l1 : (List V)) (l2 : (List V)) (l3 : (List V)) : callBody Try.prog cfg O 8 [.vec .plain (some 4) l0, .vec .plain (some 5) l1, .vec .plain (some 3) l2, .vec .plain (some 3) l3] [] =
  obind (pcall O 23 [V.vec .plain none [V.vec .plain (some 3) l2, V.vec .plain (some 3) l3]]) fun r1 => onVec (some 3) r1 fun l2_1 => obind (O.call
  24 [V.vec .plain (some 3) l3, V.fn 25 [] [V.cptr none (V.vec .plain (some 4) l0), V.cptr none (V.vec .plain (some 5) l1), V.cptr none (V.vec .plain
  (some 3) l2_1), V.cptr none (V.vec .plain (some 3) l2)]] []) fun r3 => onRet r3.fst (fun v4 => onTup v4 fun c5 => onCons c5 fun v6 c7 => onInt v6 fun n8 => onCons c7 fun v9 c10 =>
  onInt v9 fun n11 => onNil c10 (some (Out.ret (V.int n11), []))) fun p12 => none := by kernel_rfl

theorem e_metas_Decls (O : Oracle) (l0 : (List V)) (l1 : (List V)) : callBody Try.prog cfg O 11 [.vec .plain (some 4) l0, .vec .plain (some 5) l1] [] =
  bc (decide ((↑l1.length : Int) > 40)) (some (Out.ret (V.tup [V.int 0, V.int 4]), [])) (obind (O.call 35 [V.vec .plain (some 5) l1] [Res.box [V.int 0],
  Res.box [V.int 0]]) fun r1 => onRet r1.fst (fun v2 => onFn v2 fun g3 a4 b5 => obind (O.call g3 (a4 ++ [V.yld (List.length r1.snd)] ++ b5) (r1.snd ++ [Res.loop 11 6
  [V.ref 0 0, V.ref 1 0, V.cptr none (V.vec .plain (some 4) l0)] LSt.ready none])) fun r6 => onRet r6.fst (fun v7 => getR r6.snd (List.length r1.snd) fun x8 => onLoop x8 fun f9 k10
  vs11 s12 p13 => onPend s12 p13 (getR (List.set r6.snd (List.length r1.snd) Res.dead) 0 fun x14 => onBox x14 fun c15 => gd (decide (1 ≤ c15.length) && true) (getR ((List.set r6.snd
  (List.length r1.snd) Res.dead).set 0 (Res.box (setCells c15 0 [V.int 0]))) 1 fun x16 => onBox x16 fun c17 => gd (decide (1 ≤ c17.length) && true) (getR (((List.set r6.snd
  (List.length r1.snd) Res.dead).set 0 (Res.box (setCells c15 0 [V.int 0]))).set 1 (Res.box (setCells c17 0 [V.int 0]))) 0 fun x18 => onBox x18 fun c19 => gd (decide (1 ≤
  c19.length) && true) (getR (((List.set r6.snd (List.length r1.snd) Res.dead).set 0 (Res.box (setCells c15 0 [V.int 0]))).set 1 (Res.box (setCells c17 0 [V.int 0]))) 1 fun x20 =>
  onBox x20 fun c21 => gd (decide (1 ≤ c21.length) && true) (gd (below 0 (V.tup [cleanV (AM.partOf c19 0 none), cleanV (AM.partOf c21 0 none)]) && belowSt 0 []) (some (Out.ret
  (V.tup [cleanV (AM.partOf c19 0 none), cleanV (AM.partOf c21 0 none)]), []))))))) (getR (List.set r6.snd (List.length r1.snd) Res.dead) 0 fun x22 => onBox x22 fun c23 => gd
  (decide (1 ≤ c23.length) && true) (getR (List.set r6.snd (List.length r1.snd) Res.dead) 1 fun x24 => onBox x24 fun c25 => gd (decide (1 ≤ c25.length) && true) (gd (below 0 (V.tup
  [cleanV (AM.partOf c23 0 none), cleanV (AM.partOf c25 0 none)]) && belowSt 0 []) (some (Out.ret (V.tup [cleanV (AM.partOf c23 0 none), cleanV (AM.partOf c25 0 none)]), []))))) fun
  i26 => none) fun p27 => none) fun p28 => none) := by kernel_rfl

theorem e_metas_Decls_R6 (O : Oracle) (q : Nat) (sg ov ctx ar : List V) (k h : Int) (p : Bool) (st : St) : roundBody Try.prog cfg O q 11 6 [.ref 0 0, .ref 1 0, .cptr none (.vec .plain (some 4) sg)] [.vec .plain (some 5) ov, .agg [.vec .plain (some 3) ctx, .int k, .int h, .vec .plain (some 3) ar, .bool p]] st =
  getR st q fun x1 => onLoop x1 fun f2 k3 vs4 s5 p6 => onReady s5 p6 (obind (pcall O 36 [V.vec .plain (some 4) sg, V.vec .plain (some 5) ov, V.agg [V.vec .plain (some 3)
  ctx, V.int k, V.int h, V.vec .plain (some 3) ar, V.bool p]]) fun r7 => onInt r7 fun n8 => bc (n8 != 0) (getR (List.set st q (Res.loop f2 k3 vs4 LSt.busy none)) 0 fun x9 => onBox
  x9 fun c10 => gd (decide (1 ≤ c10.length) && true) (getR ((List.set st q (Res.loop f2 k3 vs4 LSt.busy none)).set 0 (Res.box (setCells c10 0 [V.int (↑ov.length : Int)]))) 1 fun x11
  => onBox x11 fun c12 => gd (decide (1 ≤ c12.length) && true) (getR (((List.set st q (Res.loop f2 k3 vs4 LSt.busy none)).set 0 (Res.box (setCells c10 0 [V.int (↑ov.length :
  Int)]))).set 1 (Res.box (setCells c12 0 [V.int n8]))) q fun x13 => onLoop x13 fun f14 k15 vs16 s17 p18 => onBusy s17 (some (false, (((List.set st q (Res.loop f2 k3 vs4 LSt.busy
  none)).set 0 (Res.box (setCells c10 0 [V.int (↑ov.length : Int)]))).set 1 (Res.box (setCells c12 0 [V.int n8]))).set q (Res.loop f14 k15 vs16 LSt.done (some Ex.ret))))))) (getR
  (List.set st q (Res.loop f2 k3 vs4 LSt.busy none)) q fun x19 => onLoop x19 fun f20 k21 vs22 s23 p24 => onBusy s23 (some (true, (List.set st q (Res.loop f2 k3 vs4 LSt.busy
  none)).set q (Res.loop f20 k21 vs22 LSt.ready none))))) := by kernel_rfl

theorem e_world_first_api_Decl (O : Oracle) (l0 : (List V)) (g1 : Nat) (l2 : (List V)) (l3 : (List V)) (st : St) : callBody Try.prog cfg O 19 [.vec .plain (some 4) l0, .fn g1 l2 l3] st =
  bc (decide ((↑l0.length : Int) > 40)) (gcE (List.length st) (V.tup [V.int 0, V.int 4]) st) (obind (O.loop 19 4 [V.int 0, V.fn g1 l2 l3, V.vec .plain (some 4)
  l0, V.int (↑l0.length : Int)] st) fun r1 => onEx r1.fst none (onCons r1.snd.fst fun v2 c3 => onInt v2 fun n4 => onCons c3 fun v5 c6 => onInt v5 fun n7 => onNil c6 (gcE
  (List.length st) (V.tup [V.int n4, V.int n7]) r1.snd.snd)) (fun i8 => bc (i8.beq 0) (onNil r1.snd.fst (gcE (List.length st) (V.tup [V.int 0, V.int 0]) r1.snd.snd)) none) fun v9 =>
  none) := by kernel_rfl

theorem e_world_first_api_Decl_L4 (O : Oracle) (n0 : Int) (g1 : Nat) (l2 : (List V)) (l3 : (List V)) (l4 : (List V)) (n5 : Int) (st : St) : loopBody Try.prog cfg O 19 4 [.int n0, .fn g1 l2 l3, .vec .plain (some 4) l4, .int n5] st =
  bc (decide (n0 < n5)) (gd (decide (0 ≤ n0) && decide (n0 < (↑l4.length : Int))) (onStruct [CT.str, CT.int, CT.int, CT.slice (some 3)] (getI l4 n0) fun s1 n2 n3 l4_1 => bc
  (cfg.pure g1) (obind (pcall O g1 (l2 ++ [V.int n0, V.agg [V.str s1, V.int n2, V.int n3, V.vec .plain (some 3) l4_1]] ++ l3)) fun r5 => onInt r5 fun n6 => bc (n6 != 0) (some
  (Ex.ret, [V.int n0, V.int n6], st)) (O.2 19 4 [V.int (IntKind.i64.wrap (n0 + 1)), V.fn g1 l2 l3, V.vec .plain (some 4) l4, V.int n5] st)) (obind (O.call g1 (l2
  ++ [V.int n0, V.agg [V.str s1, V.int n2, V.int n3, V.vec .plain (some 3) l4_1]] ++ l3) st) fun r7 => onRet r7.fst (fun v8 => onInt v8 fun n9 => bc (n9 != 0) (some (Ex.ret, [V.int
  n0, V.int n9], r7.snd)) (O.2 19 4 [V.int (IntKind.i64.wrap (n0 + 1)), V.fn g1 l2 l3, V.vec .plain (some 4) l4, V.int n5] r7.snd)) fun p10 => none))) (some
  (Ex.exit 0, [], st)) := by kernel_rfl

theorem e_world_Sig_1 (O : Oracle) (n0 : Int) (s1 : ByteArray) (n2 : Int) (n3 : Int) (l4 sg : (List V)) (st : St) : callBody Try.prog cfg O 20 [.int n0, .agg [.str s1, .int n2, .int n3, .vec .plain (some 3) l4], .cptr none (.vec .plain (some 4) sg)] st =
  obind (pcall O 21 [V.agg [V.int n2, V.int n3, V.vec .plain (some 3) l4]]) fun r1 => onBool r1 fun b2 => bc b2 (gd (true && decide (0 ≤ n0) && decide (n0 ≤ (↑sg.length :
  Int))) (obind (pcall O 22 [V.vec .plain (some 4) (List.drop 0 (List.take n0.toNat sg)), V.vec .plain (some 5) [], V.vec .plain (some 3) [], V.agg [V.int n2, V.int n3,
  V.vec .plain (some 3) l4]]) fun r3 => onInt r3 fun n4 => gcE (List.length st) (V.int n4) st)) (gd (true && decide (0 ≤ n0) && decide (n0 ≤ (↑sg.length : Int))) (obind (pcall O
  9 [V.vec .plain (some 4) (List.drop 0 (List.take n0.toNat sg)), V.vec .plain (some 5) [], V.vec .plain (some 3) [], V.agg [V.int n2, V.int n3, V.vec .plain (some 3)
  l4]]) fun r5 => onInt r5 fun n6 => gcE (List.length st) (V.int n6) st)) := by kernel_rfl

theorem e_world_first_api_Term (O : Oracle) (l0 : (List V)) (g1 : Nat) (l2 : (List V)) (l3 : (List V)) (st : St) : callBody Try.prog cfg O 24 [.vec .plain (some 3) l0, .fn g1 l2 l3] st =
  bc (decide ((↑l0.length : Int) > 40)) (gcE (List.length st) (V.tup [V.int 0, V.int 4]) st) (obind (O.loop 24 4 [V.int 0, V.fn g1 l2 l3, V.vec .plain (some 3)
  l0, V.int (↑l0.length : Int)] st) fun r1 => onEx r1.fst none (onCons r1.snd.fst fun v2 c3 => onInt v2 fun n4 => onCons c3 fun v5 c6 => onInt v5 fun n7 => onNil c6 (gcE
  (List.length st) (V.tup [V.int n4, V.int n7]) r1.snd.snd)) (fun i8 => bc (i8.beq 0) (onNil r1.snd.fst (gcE (List.length st) (V.tup [V.int 0, V.int 0]) r1.snd.snd)) none) fun v9 =>
  none) := by kernel_rfl

theorem e_world_first_api_Term_L4 (O : Oracle) (n0 : Int) (g1 : Nat) (l2 : (List V)) (l3 : (List V)) (l4 : (List V)) (n5 : Int) (st : St) : loopBody Try.prog cfg O 24 4 [.int n0, .fn g1 l2 l3, .vec .plain (some 3) l4, .int n5] st =
  bc (decide (n0 < n5)) (gd (decide (0 ≤ n0) && decide (n0 < (↑l4.length : Int))) (onStruct [CT.int, CT.int, CT.slice (some 3)] (getI l4 n0) fun n1 n2 l3_1 => bc (cfg.pure g1)
  (obind (pcall O g1 (l2 ++ [V.int n0, V.agg [V.int n1, V.int n2, V.vec .plain (some 3) l3_1]] ++ l3)) fun r4 => onInt r4 fun n5_1 => bc (n5_1 != 0) (some (Ex.ret, [V.int n0, V.int
  n5_1], st)) (O.2 24 4 [V.int (IntKind.i64.wrap (n0 + 1)), V.fn g1 l2 l3, V.vec .plain (some 3) l4, V.int n5] st)) (obind (O.call g1 (l2 ++ [V.int n0, V.agg
  [V.int n1, V.int n2, V.vec .plain (some 3) l3_1]] ++ l3) st) fun r6 => onRet r6.fst (fun v7 => onInt v7 fun n8 => bc (n8 != 0) (some (Ex.ret, [V.int n0, V.int n8], r6.snd)) (O.2
  24 4 [V.int (IntKind.i64.wrap (n0 + 1)), V.fn g1 l2 l3, V.vec .plain (some 3) l4, V.int n5] r6.snd)) fun p9 => none))) (some (Ex.exit 0, [], st)) := by kernel_rfl

theorem e_world_Ctx_1 (O : Oracle) (n0 : Int) (n1 : Int) (n2 : Int) (l3 sg ms all ar : (List V)) (st : St) : callBody Try.prog cfg O 25 [.int n0, .agg [.int n1, .int n2, .vec .plain (some 3) l3], .cptr none (.vec .plain (some 4) sg), .cptr none (.vec .plain (some 5) ms), .cptr none (.vec .plain (some 3) all), .cptr none (.vec .plain (some 3) ar)] st =
  gd (true && decide (0 ≤ IntKind.i64.wrap ((↑ar.length : Int) + n0)) && decide (IntKind.i64.wrap ((↑ar.length : Int) + n0) ≤ (↑all.length : Int))) (obind (pcall O 9
  [V.vec .plain (some 4) sg, V.vec .plain (some 5) ms, V.vec .plain (some 3) (List.drop 0 (List.take (IntKind.i64.wrap ((↑ar.length : Int) + n0)).toNat all)), V.agg [V.int n1, V.int
  n2, V.vec .plain (some 3) l3]]) fun r1 => onInt r1 fun n2 => gcE (List.length st) (V.int n2) st) := by kernel_rfl

theorem e_metas_ahead_api_MetaDecl (O : Oracle) (l0 : (List V)) (st : St) : callBody Try.prog cfg O 35 [.vec .plain (some 5) l0] st =
  gcE (List.length st) (V.fn 59 [] [V.cptr none (V.vec .plain (some 5) l0)]) st := by kernel_rfl

theorem e_metas_decl (O : Oracle) (l0 : (List V)) (l1 : (List V)) (l2 : (List V)) (n3 : Int) (n4 : Int) (l5 : (List V)) (b6 : Bool) : callBody Try.prog cfg O 36 [.vec .plain (some 4) l0, .vec .plain (some 5) l1, .agg [.vec .plain (some 3) l2, .int n3, .int n4, .vec .plain (some 3) l5, .bool b6]] [] =
  obind (pcall O 8 [V.vec .plain (some 4) l0, V.vec .plain (some 5) l1, V.vec .plain (some 3) [], V.vec .plain (some 3) l2]) fun r1 => onInt r1 fun n2 => bc (n2 != 0)
  (some (Out.ret (V.int n2), [])) (bc (n3 != 2) (some (Out.ret (V.int 1), [])) (bc b6 (bc (decide ((↑l2.length : Int) > 0)) (some (Out.ret (V.int 1), [])) (obind (pcall O
  9 [V.vec .plain (some 4) l0, V.vec .plain (some 5) l1, V.vec .plain (some 3) l2, V.agg [V.int n3, V.int n4, V.vec .plain (some 3) l5]]) fun r3 => onInt r3 fun n4 =>
  some (Out.ret (V.int n4), []))) (obind (pcall O 9 [V.vec .plain (some 4) l0, V.vec .plain (some 5) l1, V.vec .plain (some 3) l2, V.agg [V.int n3, V.int n4, V.vec .plain
  (some 3) l5]]) fun r5 => onInt r5 fun n6 => some (Out.ret (V.int n6), [])))) := by kernel_rfl

theorem e_metas_ahead_api_MetaDecl_1 (O : Oracle) (q : Nat) (xs : List V) (st : St) : callBody Try.prog cfg O 59 [.yld q, .cptr none (.vec .plain (some 5) xs)] st =
  obind (O.loop 59 1 [V.int 0, V.cptr none (V.vec .plain (some 5) xs), V.yld q, V.vec .plain (some 5) xs, V.int (↑xs.length : Int)] st) fun r1 => onEx
  r1.fst none (onNil r1.snd.fst (gcE (List.length st) (V.tup []) r1.snd.snd)) (fun i2 => bc (i2.beq 0) (onNil r1.snd.fst (gcE (List.length st) (V.tup []) r1.snd.snd)) none) fun v3
  => none := by kernel_rfl

theorem e_metas_ahead_api_MetaDecl_1_L1 (O : Oracle) (q : Nat) (i n : Int) (xs ys : List V) (st : St) : loopBody Try.prog cfg O 59 1 [.int i, .cptr none (.vec .plain (some 5) xs), .yld q, .vec .plain (some 5) ys, .int n] st =
  bc (decide (i < n)) (gd (decide (0 ≤ i) && decide (i < (↑ys.length : Int))) (onStruct [CT.slice (some 3), CT.int, CT.int, CT.slice (some 3), CT.bool] (getI ys i) fun l1 n2 n3 l4
  b5 => gd (true && decide (0 ≤ i) && decide (i ≤ (↑xs.length : Int))) (gd (decide (i = i) && (some (V.int i)).isSome) (getR st q fun x6 => onLoop x6 fun f7 k8 vs9 s10 p11 => onPend
  s10 p11 (obind (O.round q f7 k8 vs9 [V.vec .plain (some 5) (List.drop 0 (List.take i.toNat xs)), V.agg [V.vec .plain (some 3) l1, V.int n2, V.int n3, V.vec .plain (some 3) l4,
  V.bool b5]] st) fun r12 => bc (!r12.fst) (some (Ex.ret, [], r12.snd)) (O.2 59 1 [V.int (IntKind.i64.wrap (i + 1)), V.cptr none (V.vec .plain (some 5)
  xs), V.yld q, V.vec .plain (some 5) ys, V.int n] r12.snd)) none fun i13 => none)))) (some (Ex.exit 0, [], st)) := by kernel_rfl

end Go.Proofs.GT

/-! Calls, clauses, functions; which are light. -/
namespace Go.Ama
open Go Go.AM

structure Cal where
  f : Int
  ext : List T
  theta : List T
  arg : T
structure Cl where
  metas : List M
  theta : List T
  p : T
  calls : List Cal
  r : T
structure Fun1 where
  name : Bytes
  schema : List T
  delta : List M
  psi : List T
  a : T
  phi : List T
  b : T
  total : Bool
  clauses : List Cl
def encCall (c : Cal) : V := .agg [.int c.f, .vec .plain (some 3) (encs c.ext), .vec .plain (some 3) (encs c.theta), .int c.arg.k, .int c.arg.h, .vec .plain (some 3) (encs c.arg.args)]
def encCalls (l : List Cal) : List V := l.map encCall
def encCl (c : Cl) : V := .agg [.vec .plain (some 5) (encMs c.metas), .vec .plain (some 3) (encs c.theta), .int c.p.k, .int c.p.h, .vec .plain (some 3) (encs c.p.args), .vec .plain (some 6) (encCalls c.calls), .int c.r.k, .int c.r.h, .vec .plain (some 3) (encs c.r.args)]
def encCls (l : List Cl) : List V := l.map encCl
def encFn (f : Fun1) : V := .agg [.str (ba f.name), .vec .plain (some 3) (encs f.schema), .vec .plain (some 5) (encMs f.delta), .vec .plain (some 3) (encs f.psi), .int f.a.k, .int f.a.h, .vec .plain (some 3) (encs f.a.args), .vec .plain (some 3) (encs f.phi), .int f.b.k, .int f.b.h, .vec .plain (some 3) (encs f.b.args), .bool f.total, .vec .plain (some 9) (encCls f.clauses)]
def encFns (l : List Fun1) : List V := l.map encFn
@[simp] theorem encCalls_length (l : List Cal) : (encCalls l).length = l.length := by simp [encCalls]
@[simp] theorem encCls_length (l : List Cl) : (encCls l).length = l.length := by simp [encCls]
@[simp] theorem encFns_length (l : List Fun1) : (encFns l).length = l.length := by simp [encFns]
theorem getI_encCalls {l : List Cal} {i : Nat} (h : i < l.length) : getI (encCalls l) (i : Int) = encCall l[i] := by
  simp [getI, encCalls, List.getD_eq_getElem?_getD, List.getElem?_map, h]
theorem getI_encCls {l : List Cl} {i : Nat} (h : i < l.length) : getI (encCls l) (i : Int) = encCl l[i] := by
  simp [getI, encCls, List.getD_eq_getElem?_getD, List.getElem?_map, h]
theorem getI_encFns {l : List Fun1} {i : Nat} (h : i < l.length) : getI (encFns l) (i : Int) = encFn l[i] := by
  simp [getI, encFns, List.getD_eq_getElem?_getD, List.getElem?_map, h]
theorem below_map {α : Type} {e : α → V} {n : Nat} (h : ∀ a, below n (e a) = true) : ∀ l : List α, belowL n (l.map e) = true
  | [] => rfl
  | a :: l => by simp [belowL, h a, below_map h l]
@[simp] theorem below_encCall (n : Nat) (c : Cal) : below n (encCall c) = true := by simp [encCall, below, belowL]
@[simp] theorem below_encCalls (n : Nat) (l : List Cal) : belowL n (encCalls l) = true := below_map (below_encCall n) l
@[simp] theorem below_encCl (n : Nat) (c : Cl) : below n (encCl c) = true := by simp [encCl, below, belowL]
@[simp] theorem below_encCls (n : Nat) (l : List Cl) : belowL n (encCls l) = true := below_map (below_encCl n) l
@[simp] theorem below_encFn (n : Nat) (f : Fun1) : below n (encFn f) = true := by simp [encFn, below, belowL]
@[simp] theorem below_encFns (n : Nat) (l : List Fun1) : belowL n (encFns l) = true := below_map (below_encFn n) l
attribute [simp] below_encM below_encD below_encDs below_encC

/-! ### bulk -/
theorem bulk_mem {l : List V} {v : V} (h : v ∈ l) : bulkV v ≤ bulkL l := by
  induction l with
  | nil => cases h
  | cons a l ih =>
    simp only [bulkL]
    rcases List.mem_cons.1 h with rfl | h
    · omega
    · have := ih h; omega
theorem bulk_len : ∀ l : List V, l.length ≤ bulkL l
  | [] => Nat.zero_le _
  | v :: l => by
    have := bulk_len l
    have : 1 ≤ bulkV v := by cases v <;> simp [bulkV]
    simp only [List.length_cons, bulkL]; omega
theorem bulk_parts (t : T) : bulkV (enc t) = 1 + 1 + (bulkL (encs t.args) + 1) + 1 := by
  rw [enc_eta]; simp only [bulkV, bulkL]; omega
theorem bulk_M (m : M) : 4 * (sizes m.ctx + m.t.size) ≤ bulkV (encM m) := by
  have h1 := bulk_encs m.ctx
  have h2 := bulk_enc m.t
  rw [bulk_parts] at h2
  simp only [encM, bulkV, bulkL]; omega
theorem bulk_Ms {l : List M} {m : M} (h : m ∈ l) : 4 * (sizes m.ctx + m.t.size) ≤ bulkL (encMs l) :=
  Nat.le_trans (bulk_M m) (bulk_mem (List.mem_map_of_mem h))
theorem bulk_D (d : D) : 4 * d.t.size ≤ bulkV (encD d) := by
  have h2 := bulk_enc d.t
  rw [bulk_parts] at h2
  simp only [encD, bulkV, bulkL]; omega
theorem bulk_Ds {l : List D} {d : D} (h : d ∈ l) : 4 * d.t.size ≤ bulkL (encDs l) :=
  Nat.le_trans (bulk_D d) (bulk_mem (List.mem_map_of_mem h))
theorem bulk_Call (c : Cal) : 4 * (sizes c.ext + sizes c.theta + c.arg.size) ≤ bulkV (encCall c) := by
  have h1 := bulk_encs c.ext
  have h3 := bulk_encs c.theta
  have h2 := bulk_enc c.arg
  rw [bulk_parts] at h2
  simp only [encCall, bulkV, bulkL]; omega
theorem bulk_Cl (c : Cl) : bulkL (encMs c.metas) + 4 * (sizes c.theta + c.p.size + c.r.size) + bulkL (encCalls c.calls) ≤ bulkV (encCl c) := by
  have h1 := bulk_encs c.theta
  have h2 := bulk_enc c.p
  have h3 := bulk_enc c.r
  rw [bulk_parts] at h2 h3
  simp only [encCl, bulkV, bulkL]; omega
theorem bulk_Fn (f : Fun1) : bulkL (encMs f.delta) + 4 * (sizes f.schema + sizes f.psi + f.a.size + sizes f.phi + f.b.size) + bulkL (encCls f.clauses) ≤ bulkV (encFn f) := by
  have h1 := bulk_encs f.schema
  have h2 := bulk_encs f.psi
  have h3 := bulk_encs f.phi
  have h4 := bulk_enc f.a
  have h5 := bulk_enc f.b
  rw [bulk_parts] at h4 h5
  simp only [encFn, bulkV, bulkL]; omega

/-! ### light -/
def few9 (l : List D) : Bool := decide (l.length ≤ 30) && l.all fun d => light 1000 80 d.t
def fewM (l : List M) : Bool := decide (l.length ≤ 30) && l.all fun m => lights 500 80 m.ctx && light 500 80 m.t
def few10 (sig : List D) (ms : List M) (ctx : List T) : Bool := few9 sig && (fewM ms && lights 500 80 ctx)
def lightCall (c : Cal) : Bool := lights 300 60 c.ext && (lights 300 60 c.theta && light 300 60 c.arg)
def lightCl (c : Cl) : Bool := fewM c.metas && (lights 300 60 c.theta && (light 300 60 c.p && (light 300 60 c.r && (decide (c.calls.length ≤ 50) && c.calls.all lightCall))))
def lightFn (f : Fun1) : Bool := fewM f.delta && (lights 300 60 f.schema && (lights 300 60 f.psi && (lights 300 60 f.phi && (light 300 60 f.a && (light 300 60 f.b && (decide (f.clauses.length ≤ 50) && f.clauses.all lightCl))))))
section
variable {R : Type}
@[simp] theorem onCall (c : Cal) (K : Int → List V → List V → Int → Int → List V → Option R) : onStruct (R := R) [CT.int, CT.slice (some 3), CT.slice (some 3), CT.int, CT.int, CT.slice (some 3)] (encCall c) K = K c.f (encs c.ext) (encs c.theta) c.arg.k c.arg.h (encs c.arg.args) := rfl
@[simp] theorem onCl (c : Cl) (K : List V → List V → Int → Int → List V → List V → Int → Int → List V → Option R) : onStruct (R := R) [CT.slice (some 5), CT.slice (some 3), CT.int, CT.int, CT.slice (some 3), CT.slice (some 6), CT.int, CT.int, CT.slice (some 3)] (encCl c) K = K (encMs c.metas) (encs c.theta) c.p.k c.p.h (encs c.p.args) (encCalls c.calls) c.r.k c.r.h (encs c.r.args) := rfl
@[simp] theorem onMc (m : M) (K : List V → Option R) : onAgg (encM m) (fun c => gd (decide (1 ≤ c.length)) (onVec (some 3) (AM.partOf c 0 none) K)) = K (encs m.ctx) := by
  show gd true (onVec (some 3) (.vec .plain (some 3) (encs m.ctx)) K) = _
  simp
@[simp] theorem onMt (m : M) (K : Int → Int → List V → Option R) : onAgg (encM m) (fun c => gd (decide (4 ≤ c.length)) (onCells (R := R) [CT.int, CT.int, CT.slice (some 3)] (List.take 3 (List.drop 1 c)) K)) = K m.t.k m.t.h (encs m.t.args) := rfl
end
theorem encCall_eta (c : Cal) : encCall c = .agg [.int c.f, .vec .plain (some 3) (encs c.ext), .vec .plain (some 3) (encs c.theta), .int c.arg.k, .int c.arg.h, .vec .plain (some 3) (encs c.arg.args)] := rfl
theorem encCl_eta (c : Cl) : encCl c = .agg [.vec .plain (some 5) (encMs c.metas), .vec .plain (some 3) (encs c.theta), .int c.p.k, .int c.p.h, .vec .plain (some 3) (encs c.p.args), .vec .plain (some 6) (encCalls c.calls), .int c.r.k, .int c.r.h, .vec .plain (some 3) (encs c.r.args)] := rfl
theorem encFn_eta (f : Fun1) : encFn f = .agg [.str (ba f.name), .vec .plain (some 3) (encs f.schema), .vec .plain (some 5) (encMs f.delta), .vec .plain (some 3) (encs f.psi), .int f.a.k, .int f.a.h, .vec .plain (some 3) (encs f.a.args), .vec .plain (some 3) (encs f.phi), .int f.b.k, .int f.b.h, .vec .plain (some 3) (encs f.b.args), .bool f.total, .vec .plain (some 9) (encCls f.clauses)] := rfl
end Go.Ama

/-! worlds, metas, what occurs: as_ plain Lean. -/
namespace Go.Ama
open Go Go.AM

/-- The first error. -/
def firstE : Nat → List Int → Int × Int
  | _, [] => (0, 0)
  | i, e :: r => if e ≠ 0 then (i, e) else firstE (i + 1) r
def firstF (l : List Int) : Int × Int := if 40 < l.length then (0, 4) else firstE 0 l
noncomputable def ctxErrs (sig : List D) (ms : List M) (ar ctx : List T) : List Int := (List.range ctx.length).map fun i => checkTypeF sig ms ((ar ++ ctx).take (ar.length + i)) (ctx.getD i T0)
noncomputable def ctxF (sig : List D) (ms : List M) (ar ctx : List T) : Int := (firstF (ctxErrs sig ms ar ctx)).2
noncomputable def declE (sig : List D) (i : Nat) (t : T) : Int := if (split t).2.k = 0 then checkKindF (sig.take i) [] [] t else checkTypeF (sig.take i) [] [] t
noncomputable def sigErrs (sig : List D) : List Int := (List.range sig.length).map fun i => declE sig i ((sig.map D.t).getD i T0)
noncomputable def sigF (sig : List D) : Int × Int := firstF (sigErrs sig)
noncomputable def declF (sig : List D) (over : List M) (m : M) : Int :=
  if ctxF sig over [] m.ctx ≠ 0 then ctxF sig over [] m.ctx
  else if m.t.k ≠ 2 ∨ (m.param = true ∧ 0 < m.ctx.length) then 1 else checkTypeF sig over m.ctx m.t
noncomputable def declErrs (sig : List D) (ms : List M) : List Int := (List.range ms.length).map fun i => declF sig (ms.take i) (ms.getD i ⟨[], T0, false⟩)
noncomputable def declsF (sig : List D) (ms : List M) : Int × Int := firstF (declErrs sig ms)

theorem firstE_loop {α : Type} {L : Int → Option α} {es : List Int} {e0 : α} {e1 : Int → Int → α} (hstep : ∀ (i : Nat) (h : i < es.length), L i = if es[i] ≠ 0 then some (e1 i es[i]) else L ((i + 1 : Nat) : Int)) (hend : L (es.length : Nat) = some e0) :
    L 0 = some (if (firstE 0 es).2 = 0 then e0 else e1 (firstE 0 es).1 (firstE 0 es).2) := by
  have : ∀ d i : Nat, i + d = es.length → L i = some (if (firstE i (es.drop i)).2 = 0 then e0 else e1 (firstE i (es.drop i)).1 (firstE i (es.drop i)).2) := by
    intro d
    induction d with
    | zero =>
      intro i hi
      have : i = es.length := by omega
      subst this
      rw [hend, List.drop_length]; rfl
    | succ d ih =>
      intro i hi
      have hlt : i < es.length := by omega
      rw [hstep i hlt, List.drop_eq_getElem_cons hlt]
      by_cases h : es[i] = 0
      · have e : firstE i (es[i] :: es.drop (i + 1)) = firstE (i + 1) (es.drop (i + 1)) := by simp [firstE, h]
        rw [if_neg (by simpa using h), e]
        exact ih (i + 1) (by omega)
      · have e : firstE i (es[i] :: es.drop (i + 1)) = ((i : Int), es[i]) := by simp [firstE, h]
        rw [if_pos h, e]
        simp [h]
  have := this es.length 0 (by omega)
  rwa [List.drop_zero] at this

/-! ### occur -/
section
variable {σ : Type} (nx : Int → T → σ → σ)
mutual
def visitF : T → Int → σ → σ
  | .mk k h as_, n, s => visitsF as_ (bindsB k) n (nx n (.mk k h as_) s)
def visitsF : List T → Bool → Int → σ → σ
  | [], _, _, s => s
  | a :: as_, bd, n, s => visitsF as_ bd n (visitF a (if bd && as_.isEmpty then n + 1 else n) s)
end
end
/-- Variables below a number, each another one. -/
def patL (b : Int) : List Int → List T → List Int × Bool
  | vars, [] => (vars, true)
  | vars, t :: r => if t.k ≠ 4 ∨ 0 < t.args.length ∨ t.h < 0 ∨ b ≤ t.h ∨ t.h ∈ vars then ([], false) else patL b (vars ++ [t.h]) r
def patternF (l : List T) (b : Int) : List Int × Bool := patL b [] l
def patNx (n : Int) (t : T) (s : Bool) : Bool := if t.k = 6 then s && (patternF t.args n).2 else s
def patternsF (t : T) (n : Int) : Bool := visitF patNx t n true
def encZ (l : List Int) : List V := l.map V.int
@[simp] theorem encZ_length (l : List Int) : (encZ l).length = l.length := by simp [encZ]
@[simp] theorem encZ_append (a b : List Int) : encZ (a ++ b) = encZ a ++ encZ b := by simp [encZ]
@[simp] theorem below_encZ (n : Nat) (l : List Int) : belowL n (encZ l) = true := below_map (fun _ => rfl) l
theorem getI_encZ {l : List Int} {i : Nat} (h : i < l.length) : getI (encZ l) (i : Int) = .int l[i] := by
  simp [getI, encZ, List.getD_eq_getElem?_getD, List.getElem?_map, h]
end Go.Ama
namespace Go.Ama
open Go Go.AM
theorem In.sub {sig : List D} {ms : List M} {all l : List T} (h : In sig ms all l) {ctx : List T} (hc : ∀ x ∈ ctx, x ∈ all) (hs : sizes ctx ≤ sizes all) {r : List T} (hr : ∀ x ∈ r, x ∈ all) (hrs : sizes r ≤ sizes all) : In sig ms ctx r :=
  ⟨h.s, h.m, ⟨Nat.le_trans hs h.c.1, fun x hx => h.c.2 x (hc x hx)⟩, ⟨Nat.le_trans hrs h.c.1, fun x hx => h.c.2 x (hr x hx)⟩, h.sl, h.ml⟩
theorem firstF_le (l : List Int) : (firstF l).1 ≤ l.length ∧ 0 ≤ (firstF l).1 := by
  have : ∀ (l : List Int) (i : Nat), 0 ≤ (firstE i l).1 ∧ (firstE i l).1 ≤ i + l.length := by
    intro l
    induction l with
    | nil => intro i; simp [firstE]
    | cons e l ih =>
      intro i
      have := ih (i + 1)
      simp only [firstE]
      split
      · simp; omega
      · simp at this ⊢; omega
  unfold firstF
  split
  · simp
  · have := this l 0; omega
end Go.Ama

/-! world. -/
namespace Go.Proofs.GT
open Go Go.AM Go.Ama

theorem firstT_spec {g : Nat} (hp : cfg.pure g = false) (xs : List T) (es : List Int) (hlen : es.length = xs.length) (hs : xs.length ≤ 1099511627776) (b : List V) (st : St) (hg : ∀ (i : Nat) (h : i < xs.length), W.call g ([.int (i : Int), enc xs[i]] ++ b) st = some (.ret (.int (es[i]'(by omega))), st)) :
    W.call 24 [.vec .plain (some 3) (encs xs), .fn g [] b] st = some (.ret (.tup [.int (firstF es).1, .int (firstF es).2]), st) := by
  have hl := firstE_loop (L := fun i => W.loop 24 4 [.int i, .fn g [] b, .vec .plain (some 3) (encs xs), .int xs.length] st) (es := es) (e0 := (Ex.exit 0, [], st)) (e1 := fun i e => (Ex.ret, [V.int i, V.int e], st))
    (fun i hi => by
      have hi' : i < xs.length := by omega
      have hlt : (i : Int) < xs.length := by omega
      have hw : IntKind.i64.wrap ((i : Int) + 1) = ((i + 1 : Nat) : Int) := by rw [wrap_id ⟨by omega, by omega⟩]; omega
      have h1 := hg i hi'
      simp only [List.cons_append, List.nil_append] at h1
      show W.loop _ _ _ _ = _
      rw [L, e_world_first_api_Term_L4, hw, getI_encs hi', encs_length, hp]
      simp only [hlt, Int.natCast_nonneg, decide_true, bc_true, bc_false, Bool.and_self, gd_true, onTe, ← enc_eta, List.nil_append, List.cons_append, h1, obind_some', onRet_ret, onInt_int]
      by_cases he : es[i] = 0
      · simp [he]
      · simp [he])
    (by
      show W.loop _ _ _ _ = _
      rw [L, e_world_first_api_Term_L4, hlen]
      simp)
  have hl' : W.loop 24 4 [.int 0, .fn g [] b, .vec .plain (some 3) (encs xs), .int xs.length] st = _ := hl
  unfold firstF
  rw [C, e_world_first_api_Term, encs_length, hl', hlen]
  by_cases h40 : 40 < xs.length
  · have : (xs.length : Int) > 40 := by omega
    simp [h40, this, gcE_len]
  · have : ¬ (xs.length : Int) > 40 := by omega
    by_cases he : (firstE 0 es).2 = 0
    · have hz : (firstE 0 es).1 = 0 := by
        have : ∀ (l : List Int) (i : Nat), (firstE i l).2 = 0 → (firstE i l).1 = 0 := by
          intro l
          induction l with
          | nil => intro i _; rfl
          | cons e l ih =>
            intro i h
            simp only [firstE] at h ⊢
            split
            · rename_i c; rw [if_pos c] at h; exact absurd h c
            · rename_i c; rw [if_neg c] at h; exact ih _ h
        exact this es 0 he
      simp [h40, this, he, hz, gcE_len]
    · simp [h40, this, he, gcE_len]

theorem firstD_spec {g : Nat} (hp : cfg.pure g = false) (xs : List D) (es : List Int) (hlen : es.length = xs.length) (hs : xs.length ≤ 1099511627776) (b : List V) (st : St) (hg : ∀ (i : Nat) (h : i < xs.length), W.call g ([.int (i : Int), encD xs[i]] ++ b) st = some (.ret (.int (es[i]'(by omega))), st)) :
    W.call 19 [.vec .plain (some 4) (encDs xs), .fn g [] b] st = some (.ret (.tup [.int (firstF es).1, .int (firstF es).2]), st) := by
  have hl := firstE_loop (L := fun i => W.loop 19 4 [.int i, .fn g [] b, .vec .plain (some 4) (encDs xs), .int xs.length] st) (es := es) (e0 := (Ex.exit 0, [], st)) (e1 := fun i e => (Ex.ret, [V.int i, V.int e], st))
    (fun i hi => by
      have hi' : i < xs.length := by omega
      have hlt : (i : Int) < xs.length := by omega
      have hw : IntKind.i64.wrap ((i : Int) + 1) = ((i + 1 : Nat) : Int) := by rw [wrap_id ⟨by omega, by omega⟩]; omega
      have h1 := hg i hi'
      have e1 : V.agg [V.str (ba xs[i].name), V.int xs[i].t.k, V.int xs[i].t.h, V.vec .plain (some 3) (encs xs[i].t.args)] = encD xs[i] := rfl
      simp only [List.cons_append, List.nil_append] at h1
      show W.loop _ _ _ _ = _
      rw [L, e_world_first_api_Decl_L4, hw, getI_encDs hi', encDs_length, hp]
      simp only [hlt, Int.natCast_nonneg, decide_true, bc_true, bc_false, Bool.and_self, gd_true, onDe, e1, List.nil_append, List.cons_append, h1, obind_some', onRet_ret, onInt_int]
      by_cases he : es[i] = 0
      · simp [he]
      · simp [he])
    (by
      show W.loop _ _ _ _ = _
      rw [L, e_world_first_api_Decl_L4, hlen]
      simp)
  have hl' : W.loop 19 4 [.int 0, .fn g [] b, .vec .plain (some 4) (encDs xs), .int xs.length] st = _ := hl
  unfold firstF
  rw [C, e_world_first_api_Decl, encDs_length, hl', hlen]
  by_cases h40 : 40 < xs.length
  · have : (xs.length : Int) > 40 := by omega
    simp [h40, this, gcE_len]
  · have : ¬ (xs.length : Int) > 40 := by omega
    by_cases he : (firstE 0 es).2 = 0
    · have hz : (firstE 0 es).1 = 0 := by
        have : ∀ (l : List Int) (i : Nat), (firstE i l).2 = 0 → (firstE i l).1 = 0 := by
          intro l
          induction l with
          | nil => intro i _; rfl
          | cons e l ih =>
            intro i h
            simp only [firstE] at h ⊢
            split
            · rename_i c; rw [if_pos c] at h; exact absurd h c
            · rename_i c; rw [if_neg c] at h; exact ih _ h
        exact this es 0 he
      simp [h40, this, he, hz, gcE_len]
    · simp [h40, this, he, gcE_len]

theorem pure_Ctx1 : cfg.pure 25 = false := by kernel_rfl
theorem pure_Sig1 : cfg.pure 20 = false := by kernel_rfl

theorem ctx_spec (sig : List D) (ms : List M) (ar ctx : List T) (hI : In sig ms (ar ++ ctx) []) : Ev 8 [.vec .plain (some 4) (encDs sig), .vec .plain (some 5) (encMs ms), .vec .plain (some 3) (encs ar), .vec .plain (some 3) (encs ctx)] (.int (ctxF sig ms ar ctx)) := by
  have hal := length_le_sizes (ar ++ ctx)
  have hI1 := hI.c.1
  simp only [List.length_append] at hal
  have hc := (concat_spec ar ctx (by omega)).p (by simp [belowL, below]) (by simp [below, belowL_app])
  have hlen : (ctxErrs sig ms ar ctx).length = ctx.length := by simp [ctxErrs]
  have hf := firstT_spec pure_Ctx1 ctx (ctxErrs sig ms ar ctx) hlen (by omega) [.cptr none (.vec .plain (some 4) (encDs sig)), .cptr none (.vec .plain (some 5) (encMs ms)), .cptr none (.vec .plain (some 3) (encs (ar ++ ctx))), .cptr none (.vec .plain (some 3) (encs ar))] []
    (fun i hi => by
      have hw : IntKind.i64.wrap ((ar.length : Int) + i) = ((ar.length + i : Nat) : Int) := by rw [wrap_id ⟨by omega, by omega⟩]; omega
      have hmem : ctx[i] ∈ ar ++ ctx := List.mem_append.2 (.inr (List.getElem_mem hi))
      have hT := (checkType_spec sig ms ((ar ++ ctx).take (ar.length + i)) ctx[i] (hI.sub (fun x hx => List.mem_of_mem_take hx) (sizes_take_le _ _) (fun x hx => by simp at hx; subst hx; exact hmem) (by simp only [sizes]; exact size_le hmem))).p (by simp [belowL, below, below_encDs])
      have he : (ctxErrs sig ms ar ctx)[i]'(by omega) = checkTypeF sig ms ((ar ++ ctx).take (ar.length + i)) ctx[i] := by
        simp [ctxErrs, List.getD_eq_getElem?_getD, hi]
      have htk : List.drop 0 (List.take ((ar.length + i : Nat) : Int).toNat (encs (ar ++ ctx))) = encs ((ar ++ ctx).take (ar.length + i)) := by
        rw [List.drop_zero, Int.toNat_natCast, encs_map, encs_map, List.map_take]
      have hle : ((ar.length + i : Nat) : Int) ≤ ((encs (ar ++ ctx)).length : Int) := by simp; omega
      have hge : (0 : Int) ≤ ((ar.length + i : Nat) : Int) := by omega
      rw [he]
      show W.call 25 [.int (i : Int), enc ctx[i], .cptr none (.vec .plain (some 4) (encDs sig)), .cptr none (.vec .plain (some 5) (encMs ms)), .cptr none (.vec .plain (some 3) (encs (ar ++ ctx))), .cptr none (.vec .plain (some 3) (encs ar))] [] = _
      rw [C, enc_eta ctx[i], e_world_Ctx_1, encs_length, hw, htk, ← enc_eta ctx[i]]
      simp only [hge, hle, decide_true, Bool.and_self, gd_true, hT, obind_some', onInt_int, gcE_len])
  unfold Ev ctxF
  rw [C, e_world_Ctx, hc]
  simp only [obind_some', onVec_plain, hf, onRet_ret, onTup_tup, onCons_cons, onInt_int, onNil_nil]

theorem sig_spec (sig : List D) (hI : In sig [] [] []) : Ev 7 [.vec .plain (some 4) (encDs sig)] (.tup [.int (sigF sig).1, .int (sigF sig).2]) := by
  have hsl := hI.sl
  have hlen : (sigErrs sig).length = sig.length := by simp [sigErrs]
  have hf := firstD_spec pure_Sig1 sig (sigErrs sig) hlen (by omega) [.cptr none (.vec .plain (some 4) (encDs sig))] []
    (fun i hi => by
      obtain ⟨hz, ho⟩ := hI.s _ (List.getElem_mem hi)
      have hI' : In (sig.take i) [] [] [sig[i].t] := ⟨fun d hd => hI.s d (List.mem_of_mem_take hd), fun m hm => by simp at hm, ⟨by simp [sizes], fun x hx => by simp at hx⟩, ⟨by simp only [sizes]; omega, fun x hx => by simp at hx; subst hx; exact ho⟩, by simp; omega, by simp⟩
      have hT := (checkType_spec (sig.take i) [] [] sig[i].t hI').p (by simp [belowL, below, below_encDs])
      have hK := (checkKind_spec (sig.take i) [] [] sig[i].t hI').p (by simp [belowL, below, below_encDs])
      have hk := (kind_spec sig[i].t).p
      simp only [encMs_nil, encs_nil] at hT hK
      have he : (sigErrs sig)[i]'(by omega) = declE sig i sig[i].t := by
        simp [sigErrs, List.getD_eq_getElem?_getD, hi]
      have htk : List.drop 0 (List.take (i : Int).toNat (encDs sig)) = encDs (sig.take i) := by
        simp [encDs_take]
      have hle : (i : Int) ≤ (sig.length : Int) := by omega
      have e1 : encD sig[i] = V.agg [V.str (ba sig[i].name), V.int sig[i].t.k, V.int sig[i].t.h, V.vec .plain (some 3) (encs sig[i].t.args)] := rfl
      rw [he]
      show W.call 20 [.int (i : Int), encD sig[i], .cptr none (.vec .plain (some 4) (encDs sig))] [] = _
      rw [C, e1, e_world_Sig_1, htk, encDs_length, ← enc_eta, hk]
      unfold declE
      by_cases c : (split sig[i].t).2.k = 0
      · simp only [c, decide_true, obind_some', onBool_bool, bc_true, Int.natCast_nonneg, hle, Bool.and_self, gd_true, hK, onInt_int, gcE_len, if_true]
      · simp only [c, decide_false, obind_some', onBool_bool, bc_false, Int.natCast_nonneg, decide_true, hle, Bool.and_self, gd_true, hT, onInt_int, gcE_len, if_false])
  unfold Ev sigF
  rw [C, e_world_Sig, hf]
  simp only [obind_some', onRet_ret, onTup_tup, onCons_cons, onInt_int, onNil_nil]
end Go.Proofs.GT

/-! metas.Decls. -/
namespace Go.Proofs.GT
open Go Go.AM Go.Ama

theorem decl_spec (sig : List D) (over : List M) (m : M) (hI : In sig over m.ctx [m.t]) : Ev 36 [.vec .plain (some 4) (encDs sig), .vec .plain (some 5) (encMs over), encM m] (.int (declF sig over m)) := by
  have hC := (ctx_spec sig over [] m.ctx ⟨hI.s, hI.m, by simpa using hI.c, ⟨by simp [sizes], fun x hx => by simp at hx⟩, hI.sl, hI.ml⟩).p (by simp [belowL, below, below_encDs])
  have hT := (checkType_spec sig over m.ctx m.t hI).p (by simp [belowL, below, below_encDs])
  simp only [encs_nil] at hC
  unfold Ev declF
  rw [C, encM_eta, e_metas_decl, hC, ← enc_eta, encs_length]
  by_cases he : ctxF sig over [] m.ctx = 0
  · by_cases hk : m.t.k = 2
    · cases hp : m.param with
      | false => simp [he, hk, hp, hT]
      | true =>
        by_cases hl : 0 < m.ctx.length
        · simp [he, hk, hp, hl]
        · have h0 : m.ctx.length = 0 := by omega
          simp [he, hk, hp, h0, hT]
    · simp [he, hk]
  · simp [he]

abbrev lpD (sig : List D) (s : LSt) (p : Option Ex) : Res := .loop 11 6 [.ref 0 0, .ref 1 0, .cptr none (.vec .plain (some 4) (encDs sig))] s p
theorem roundD_spec (sig : List D) (over : List M) (m : M) (hI : In sig over m.ctx [m.t]) (a e : Int) :
    W.round 2 11 6 [.ref 0 0, .ref 1 0, .cptr none (.vec .plain (some 4) (encDs sig))] [.vec .plain (some 5) (encMs over), encM m] [.box [.int a], .box [.int e], lpD sig .ready none] =
      some (if declF sig over m = 0 then (true, [.box [.int a], .box [.int e], lpD sig .ready none]) else (false, [.box [.int over.length], .box [.int (declF sig over m)], lpD sig .done (some .ret)])) := by
  have hD := (decl_spec sig over m hI).p (by simp [belowL, below, below_encDs])
  rw [Rd, encM_eta, e_metas_Decls_R6, ← encM_eta]
  by_cases he : declF sig over m = 0
  · simp [getR, onReady, onBusy, hD, he]
  · simp [getR, onReady, onBusy, hD, he, setCells]

theorem aheadL_spec (sig : List D) (ms : List M) (hI : In sig ms [] []) (hml : ms.length ≤ 1048576) : ∀ (n i : Nat), ms.length - i = n → i ≤ ms.length →
    W.loop 59 1 [.int (i : Int), .cptr none (.vec .plain (some 5) (encMs ms)), .yld 2, .vec .plain (some 5) (encMs ms), .int ms.length] [.box [.int 0], .box [.int 0], lpD sig .ready none] =
      some (if (firstE i ((declErrs sig ms).drop i)).2 = 0 then (.exit 0, [], [.box [.int 0], .box [.int 0], lpD sig .ready none]) else (.ret, [], [.box [.int (firstE i ((declErrs sig ms).drop i)).1], .box [.int (firstE i ((declErrs sig ms).drop i)).2], lpD sig .done (some .ret)])) := by
  have hlen : (declErrs sig ms).length = ms.length := by simp [declErrs]
  intro n
  induction n with
  | zero =>
    intro i hn hi
    have : i = ms.length := by omega
    subst this
    rw [L, e_metas_ahead_api_MetaDecl_1_L1, ← hlen, List.drop_length, hlen]
    simp [firstE]
  | succ n ih =>
    intro i hn hi
    have hlt : i < ms.length := by omega
    have hlt' : (i : Int) < ms.length := by omega
    have hle' : (i : Int) ≤ ms.length := by omega
    have hw : IntKind.i64.wrap ((i : Int) + 1) = ((i + 1 : Nat) : Int) := by rw [wrap_id ⟨by omega, by omega⟩]; omega
    have hd : (declErrs sig ms).drop i = declF sig (ms.take i) ms[i] :: (declErrs sig ms).drop (i + 1) := by
      rw [List.drop_eq_getElem_cons (by omega)]
      congr 1
      simp [declErrs, List.getD_eq_getElem?_getD, hlt]
    obtain ⟨z1, z2, z3⟩ := hI.m _ (List.getElem_mem hlt)
    have hr := roundD_spec sig (ms.take i) ms[i] ⟨hI.s, fun m hm => hI.m m (List.mem_of_mem_take hm), ⟨by omega, z3⟩, ⟨by simp only [sizes]; omega, fun x hx => by simp at hx; subst hx; exact z2⟩, hI.sl, by simp; omega⟩ 0 0
    have htk : List.drop 0 (List.take (i : Int).toNat (encMs ms)) = encMs (ms.take i) := by simp [encMs, List.map_take]
    have hmin : ((ms.take i).length : Int) = i := by simp; omega
    rw [hmin] at hr
    have hg : ∀ {R : Type} (K : Res → Option R), getR [Res.box [.int 0], .box [.int 0], lpD sig .ready none] 2 K = K (lpD sig .ready none) := fun K => rfl
    rw [hd, L, e_metas_ahead_api_MetaDecl_1_L1, hw, getI_encMs hlt, htk, encMs_length]
    simp only [hlt', hle', Int.natCast_nonneg, decide_true, Bool.and_self, gd_true, bc_true, onM, ← encM_eta, Option.isSome_some, hg, onLoop_loop, onPend_ready, hr, obind_some']
    by_cases he : declF sig (ms.take i) ms[i] = 0
    · have e : firstE i (declF sig (ms.take i) ms[i] :: (declErrs sig ms).drop (i + 1)) = firstE (i + 1) ((declErrs sig ms).drop (i + 1)) := by simp [firstE, he]
      rw [e]
      simp only [he, if_true, Bool.not_true, bc_false]
      exact ih (i + 1) (by omega) (by omega)
    · have e : firstE i (declF sig (ms.take i) ms[i] :: (declErrs sig ms).drop (i + 1)) = ((i : Int), declF sig (ms.take i) ms[i]) := by simp [firstE, he]
      rw [e]
      simp [he]

theorem decls_spec (sig : List D) (ms : List M) (hI : In sig ms [] []) : Ev 11 [.vec .plain (some 4) (encDs sig), .vec .plain (some 5) (encMs ms)] (.tup [.int (declsF sig ms).1, .int (declsF sig ms).2]) := by
  have hlen : (declErrs sig ms).length = ms.length := by simp [declErrs]
  have hL := aheadL_spec sig ms hI hI.ml _ 0 rfl (Nat.zero_le _)
  simp only [Int.natCast_zero, List.drop_zero] at hL
  have hA : W.call 35 [.vec .plain (some 5) (encMs ms)] [.box [.int 0], .box [.int 0]] = some (.ret (.fn 59 [] [.cptr none (.vec .plain (some 5) (encMs ms))]), [.box [.int 0], .box [.int 0]]) := by
    rw [C, e_metas_ahead_api_MetaDecl, gcE_len rfl]
  unfold Ev declsF firstF
  rw [C, e_metas_Decls, encMs_length, hlen]
  by_cases h40 : 40 < ms.length
  · have : (ms.length : Int) > 40 := by omega
    simp [h40, this]
  · have h40' : ¬ (ms.length : Int) > 40 := by omega
    have hA1 : W.call 59 [.yld 2, .cptr none (.vec .plain (some 5) (encMs ms))] [.box [.int 0], .box [.int 0], lpD sig .ready none] =
        some (.ret (.tup []), if (firstE 0 (declErrs sig ms)).2 = 0 then [.box [.int 0], .box [.int 0], lpD sig .ready none] else [.box [.int (firstE 0 (declErrs sig ms)).1], .box [.int (firstE 0 (declErrs sig ms)).2], lpD sig .done (some .ret)]) := by
      rw [C, e_metas_ahead_api_MetaDecl_1, encMs_length, hL]
      by_cases he : (firstE 0 (declErrs sig ms)).2 = 0
      · simp [he, gcE_len]
      · simp [he, gcE_len]
    simp only [h40', decide_false, bc_false, hA, obind_some', onRet_ret, onFn_fn, List.length_cons, List.length_nil, Nat.zero_add, Nat.reduceAdd, List.nil_append, List.cons_append]
    rw [hA1]
    by_cases he : (firstE 0 (declErrs sig ms)).2 = 0
    · have hz : (firstE 0 (declErrs sig ms)).1 = 0 := by
        have : ∀ (l : List Int) (i : Nat), (firstE i l).2 = 0 → (firstE i l).1 = 0 := by
          intro l
          induction l with
          | nil => intro i _; rfl
          | cons e l ih =>
            intro i h
            simp only [firstE] at h ⊢
            split
            · rename_i c; rw [if_pos c] at h; exact absurd h c
            · rename_i c; rw [if_neg c] at h; exact ih _ h
        exact this _ 0 he
      simp [he, hz, h40, getR, setCells]
      rfl
    · simp [he, h40, getR, setCells]
      rfl
end Go.Proofs.GT

namespace Go.Proofs.GT
open Go Go.AM
set_option maxRecDepth 20000

theorem e_occur_Patterns (O : Oracle) (n0 : Int) (n1 : Int) (l2 : (List V)) (n3 : Int) : callBody Try.prog cfg O 13 [.agg [.int n0, .int n1, .vec .plain (some 3) l2], .int n3] [] =
  obind (O.call 38 [V.agg [V.int n0, V.int n1, V.vec .plain (some 3) l2], V.int n3, V.fn 39 [] [V.ref 0 0]] [Res.box [V.bool true]]) fun r1 => onRet
  r1.fst (fun v2 => onTup v2 fun c3 => onNil c3 (getR r1.snd 0 fun x4 => onBox x4 fun c5 => gd (decide (1 ≤ c5.length) && true) (onBool (cleanV (AM.partOf c5 0 none)) fun b6 => some
  (Out.ret (V.bool b6), [])))) fun p7 => none := by kernel_rfl

theorem e_occur_visit (O : Oracle) (n0 : Int) (n1 : Int) (l2 : (List V)) (n3 : Int) (g4 : Nat) (l5 : (List V)) (l6 : (List V)) (st : St) : callBody Try.prog cfg O 38 [.agg [.int n0, .int n1, .vec .plain (some 3) l2], .int n3, .fn g4 l5 l6] st =
  bc (cfg.pure g4) (obind (pcall O g4 (l5 ++ [V.agg [V.int n0, V.int n1, V.vec .plain (some 3) l2], V.int n3] ++ l6)) fun r1 => onTup r1 fun c2 => onNil c2 (obind (O.loop
  38 3 [V.int 0, V.fn g4 l5 l6, V.int n3, V.loc false (some 3) (V.agg [V.int n0, V.int n1, V.vec .plain (some 3) l2]), V.vec .plain (some 3) l2, V.int (↑l2.length : Int)]
  st) fun r3 => onEx r3.fst none none (fun i4 => bc (i4.beq 0) (onNil r3.snd.fst (gcE (List.length st) (V.tup []) r3.snd.snd)) none) fun v5 => none)) (obind (O.call g4 (l5 ++ [V.agg
  [V.int n0, V.int n1, V.vec .plain (some 3) l2], V.int n3] ++ l6) st) fun r6 => onRet r6.fst (fun v7 => onTup v7 fun c8 => onNil c8 (obind (O.loop 38 3 [V.int 0, V.fn g4
  l5 l6, V.int n3, V.loc false (some 3) (V.agg [V.int n0, V.int n1, V.vec .plain (some 3) l2]), V.vec .plain (some 3) l2, V.int (↑l2.length : Int)] r6.snd) fun r9 => onEx r9.fst
  none none (fun i10 => bc (i10.beq 0) (onNil r9.snd.fst (gcE (List.length st) (V.tup []) r9.snd.snd)) none) fun v11 => none)) fun p12 => none) := by kernel_rfl

theorem e_occur_visit_L3 (O : Oracle) (n0 : Int) (g1 : Nat) (l2 : (List V)) (l3 : (List V)) (n4 : Int) (n5 : Int) (n6 : Int) (l7 : (List V)) (l8 : (List V)) (n9 : Int) (st : St) : loopBody Try.prog cfg O 38 3 [.int n0, .fn g1 l2 l3, .int n4, .loc false (some 3) (.agg [.int n5, .int n6, .vec .plain (some 3) l7]), .vec .plain (some 3) l8, .int n9] st =
  bc (decide (n0 < n9)) (gd (decide (0 ≤ n0) && decide (n0 < (↑l8.length : Int))) (onStruct [CT.int, CT.int, CT.slice (some 3)] (getI l8 n0) fun n1 n2 l3_1 => obind (pcall O
  66 [V.agg [V.int n5, V.int n6, V.vec .plain (some 3) l7], V.int n0, V.int n4]) fun r4 => onInt r4 fun n5_1 => obind (O.call 38 [V.agg [V.int n1, V.int n2,
  V.vec .plain (some 3) l3_1], V.int n5_1, V.fn g1 l2 l3] st) fun r6 => onRet r6.fst (fun v7 => onTup v7 fun c8 => onNil c8 (O.2 38 3 [V.int (IntKind.i64.wrap (n0 + 1)),
  V.fn g1 l2 l3, V.int n4, V.loc false (some 3) (V.agg [V.int n5, V.int n6, V.vec .plain (some 3) l7]), V.vec .plain (some 3) l8, V.int n9] r6.snd)) fun p9 => none)) (some (Ex.exit
  0, [], st)) := by kernel_rfl

theorem e_occur_Patterns_1 (O : Oracle) (n0 : Int) (n1 : Int) (l2 : (List V)) (n3 : Int) (b : Bool) : callBody Try.prog cfg O 39 [.agg [.int n0, .int n1, .vec .plain (some 3) l2], .int n3, .ref 0 0] [.box [.bool b]] =
  bc (n0 == 6) (obind (pcall O 40 [V.vec .plain (some 3) l2, V.int n3]) fun r1 => onTup r1 fun c2 => onCons c2 fun v3 c4 => onVec none v3 fun l5 => onCons c4 fun v6 c7
  => onBool v6 fun b8 => onNil c7 (bc b (some (Out.ret (V.tup []), [Res.box [V.bool b8]])) (some (Out.ret (V.tup []), [Res.box [V.bool false]])))) (some (Out.ret (V.tup []),
  [Res.box [V.bool b]])) := by kernel_rfl

theorem e_occur_Pattern (O : Oracle) (l0 : (List V)) (n1 : Int) : callBody Try.prog cfg O 40 [.vec .plain (some 3) l0, .int n1] [] =
  obind (O.loop 40 3 [V.int 0, V.vec Mode.grow none [], V.int n1, V.vec .plain (some 3) l0, V.int (↑l0.length : Int)] []) fun r1 => onEx r1.fst none (onCons r1.snd.fst
  fun v2 c3 => onVec none v2 fun l4 => onCons c3 fun v5 c6 => onBool v5 fun b7 => onNil c6 (gd (below 0 (V.tup [V.vec .plain none l4, V.bool b7]) && belowSt 0 []) (some (Out.ret
  (V.tup [V.vec .plain none l4, V.bool b7]), [])))) (fun i8 => bc (i8.beq 0) (onCons r1.snd.fst fun v9 c10 => onRoom none v9 fun l11 => onNil c10 (gd (below 0 (V.tup [V.vec .plain
  none l11, V.bool true]) && belowSt 0 []) (some (Out.ret (V.tup [V.vec .plain none l11, V.bool true]), [])))) none) fun v12 => none := by kernel_rfl

theorem e_occur_Pattern_L3 (O : Oracle) (n0 : Int) (l1 : (List V)) (n2 : Int) (l3 : (List V)) (n4 : Int) : loopBody Try.prog cfg O 40 3 [.int n0, .vec .grow none l1, .int n2, .vec .plain (some 3) l3, .int n4] [] =
  bc (decide (n0 < n4)) (gd (decide (0 ≤ n0) && decide (n0 < (↑l3.length : Int))) (onStruct [CT.int, CT.int, CT.slice (some 3)] (getI l3 n0) fun n1 n2_1 l3_1 => bc (n1 != 4) (some
  (Ex.ret, [V.vec .plain none [], V.bool false], [])) (bc (decide ((↑l3_1.length : Int) > 0)) (some (Ex.ret, [V.vec .plain none [], V.bool false], [])) (bc (decide (n2_1 < 0)) (some
  (Ex.ret, [V.vec .plain none [], V.bool false], [])) (bc (decide (n2_1 ≥ n2)) (some (Ex.ret, [V.vec .plain none [], V.bool false], [])) (obind (pcall O 67
  [V.vec .plain none l1, V.int n2_1]) fun r4 => onBool r4 fun b5 => bc b5 (some (Ex.ret, [V.vec .plain none [], V.bool false], [])) (gd (true && roomFor Try.prog 3 (l1.length
  + [V.int n2_1].length)) (O.2 40 3 [V.int (IntKind.i64.wrap (n0 + 1)), V.vec Mode.grow none (l1 ++ [V.int n2_1]), V.int n2, V.vec .plain (some 3) l3, V.int n4]
  [])))))))) (some (Ex.exit 0, [V.vec Mode.grow none l1], [])) := by kernel_rfl

theorem e_occur_around (O : Oracle) (n0 : Int) (n1 : Int) (l2 : (List V)) (n3 : Int) (n4 : Int) : callBody Try.prog cfg O 66 [.agg [.int n0, .int n1, .vec .plain (some 3) l2], .int n3, .int n4] [] =
  bc (n0 == 1) (bc (n3 == IntKind.i64.wrap ((↑l2.length : Int) - 1)) (some (Out.ret (V.int (IntKind.i64.wrap (n4 + 1))), [])) (some (Out.ret (V.int n4), []))) (bc (n0 == 3) (bc (n3
  == IntKind.i64.wrap ((↑l2.length : Int) - 1)) (some (Out.ret (V.int (IntKind.i64.wrap (n4 + 1))), [])) (some (Out.ret (V.int n4), []))) (some (Out.ret (V.int n4), []))) := by kernel_rfl

theorem e_slices_Contains_int_int (O : Oracle) (l0 : (List V)) (n1 : Int) : callBody Try.prog cfg O 67 [.vec .plain none l0, .int n1] [] =
  obind (pcall O 74 [V.vec .plain none l0, V.int n1]) fun r1 => onInt r1 fun n2 => some (Out.ret (V.bool (decide (n2 ≥ 0))), []) := by kernel_rfl

theorem e_slices_Index_int_int (O : Oracle) (l0 : (List V)) (n1 : Int) : callBody Try.prog cfg O 74 [.vec .plain none l0, .int n1] [] =
  obind (O.loop 74 2 [V.int 0, V.vec .plain none l0, V.int n1, V.int (↑l0.length : Int)] []) fun r1 => onEx r1.fst none (onCons r1.snd.fst fun v2 c3 => onInt v2
  fun n4 => onNil c3 (some (Out.ret (V.int n4), []))) (fun i5 => bc (i5.beq 0) (onNil r1.snd.fst (some (Out.ret (V.int (-1)), []))) none) fun v6 => none := by kernel_rfl

theorem e_slices_Index_int_int_L2 (O : Oracle) (n0 : Int) (l1 : (List V)) (n2 : Int) (n3 : Int) : loopBody Try.prog cfg O 74 2 [.int n0, .vec .plain none l1, .int n2, .int n3] [] =
  bc (decide (n0 < n3)) (gd (decide (0 ≤ n0) && decide (n0 < (↑l1.length : Int))) (onInt (getI l1 n0) fun n1 => bc (n2 == n1) (some (Ex.ret, [V.int n0], [])) (O.2
  74 2 [V.int (IntKind.i64.wrap (n0 + 1)), V.vec .plain none l1, V.int n2, V.int n3] []))) (some (Ex.exit 0, [], [])) := by kernel_rfl

end Go.Proofs.GT

/-! occur. -/
namespace Go.Proofs.GT
open Go Go.AM Go.Ama

theorem around_spec' (k h : Int) (xs : List V) (i n : Int) (hx : xs.length ≤ 1099511627776) (hn : 0 ≤ n ∧ n ≤ 4611686018427387904) : Ev 66 [.agg [.int k, .int h, .vec .plain (some 3) xs], .int i, .int n] (.int (if bindsB k && decide (i = (xs.length : Int) - 1) then n + 1 else n)) := by
  have hw : IntKind.i64.wrap ((xs.length : Int) - 1) = (xs.length : Int) - 1 := wrap_id ⟨by omega, by omega⟩
  have hw2 : IntKind.i64.wrap (n + 1) = n + 1 := wrap_id ⟨by omega, by omega⟩
  unfold Ev bindsB
  rw [C, e_occur_around, hw, hw2]
  by_cases h1 : k = 1
  · by_cases h2 : i = (xs.length : Int) - 1 <;> simp [h1, h2]
  · by_cases h3 : k = 3
    · by_cases h2 : i = (xs.length : Int) - 1 <;> simp [h3, h2]
    · simp [h1, h3]

section
variable {σ : Type} {nx : Int → T → σ → σ} {x : σ → St} {g : Nat} {a b : List V}
theorem visit_spec {S : Nat} (hS : S ≤ 1099511627776) (hp : cfg.pure g = false) (hlen : ∀ s s', (x s).length = (x s').length) (hr : ∀ (n : Int) (t : T) (s : σ), t.size ≤ S → 0 ≤ n → n ≤ 4611686018427387904 → W.call g (a ++ [enc t, .int n] ++ b) (x s) = some (.ret (.tup []), x (nx n t s))) :
    ∀ (N : Nat) (t : T) (n : Int) (s : σ), t.size ≤ N → t.size ≤ S → 0 ≤ n → n + t.size ≤ 4611686018427387904 → W.call 38 [enc t, .int n, .fn g a b] (x s) = some (.ret (.tup []), x (visitF nx t n s)) := by
  intro N
  induction N with
  | zero => intro t _ _ h; have := size_pos t; omega
  | succ N ih =>
    intro t n s hN hs h0 hn
    have hc := hr n t s hs h0 (by omega)
    obtain ⟨k, h, xs⟩ := t
    simp only [T.size] at hN hs hn
    have hxl := length_le_sizes xs
    have hL : ∀ (m i : Nat) (s : σ), xs.length - i = m → i ≤ xs.length → W.loop 38 3 [.int (i : Int), .fn g a b, .int n, .loc false (some 3) (.agg [.int k, .int h, .vec .plain (some 3) (encs xs)]), .vec .plain (some 3) (encs xs), .int xs.length] (x s) = some (.exit 0, [], x (visitsF nx (xs.drop i) (bindsB k) n s)) := by
      intro m
      induction m with
      | zero =>
        intro i s hm hi
        have : i = xs.length := by omega
        subst this
        rw [L, e_occur_visit_L3]
        simp [visitsF]
      | succ m ihm =>
        intro i s hm hi
        have hlt : i < xs.length := by omega
        have hlt' : (i : Int) < xs.length := by omega
        have hd : xs.drop i = xs[i] :: xs.drop (i + 1) := List.drop_eq_getElem_cons hlt
        have hsz := size_le (List.getElem_mem hlt)
        have hw : IntKind.i64.wrap ((i : Int) + 1) = ((i + 1 : Nat) : Int) := by rw [wrap_id ⟨by omega, by omega⟩]; omega
        have ha := (around_spec' k h (encs xs) i n (by simp; omega) ⟨h0, by omega⟩).p
        rw [encs_length] at ha
        have hlast : (bindsB k && decide ((i : Int) = (xs.length : Int) - 1)) = (bindsB k && (xs.drop (i + 1)).isEmpty) := by
          congr 1
          by_cases he : i + 1 = xs.length
          · have : xs.drop (i + 1) = [] := by rw [he]; simp
            rw [this]; simp; omega
          · have : xs.drop (i + 1) ≠ [] := by simp; omega
            cases hx : xs.drop (i + 1) with
            | nil => exact absurd hx this
            | cons _ _ => simp; omega
        rw [hlast] at ha
        have hv := ih xs[i] (if (bindsB k && (xs.drop (i + 1)).isEmpty) = true then n + 1 else n) s (by omega) (by omega) (by split <;> omega) (by split <;> omega)
        have hm' := ihm (i + 1) (visitF nx xs[i] (if (bindsB k && (xs.drop (i + 1)).isEmpty) = true then n + 1 else n) s) (by omega) (by omega)
        rw [hd, visitsF, L, e_occur_visit_L3, hw, getI_encs hlt, encs_length]
        simp only [hlt', Int.natCast_nonneg, decide_true, Bool.and_self, gd_true, bc_true, onTe, ← enc_eta, ha, obind_some', onInt_int, hv, onRet_ret, onTup_tup, onNil_nil]
        exact hm'
    have h0' := hL _ 0 (nx n (.mk k h xs) s) rfl (Nat.zero_le _)
    simp only [Int.natCast_zero, List.drop_zero] at h0'
    have he : enc (.mk k h xs) = .agg [.int k, .int h, .vec .plain (some 3) (encs xs)] := rfl
    rw [he] at hc ⊢
    rw [C, e_occur_visit, hp, encs_length]
    simp only [bc_false, hc, obind_some', onRet_ret, onTup_tup, onNil_nil, h0', onEx_exit, show Nat.beq 0 0 = true from rfl, bc_true]
    rw [visitF]
    exact gcE_len (hlen _ _)
end

theorem index_int_spec (l : List Int) (v : Int) (hl : l.length ≤ 1099511627776) : ∃ r : Int, Ev 74 [.vec .plain none (encZ l), .int v] (.int r) ∧ decide (r ≥ 0) = decide (v ∈ l) ∧ r = (if v ∈ l then ((l.idxOf v : Nat) : Int) else -1) := by
  have hL : ∀ (m i : Nat), l.length - i = m → i ≤ l.length → W.loop 74 2 [.int (i : Int), .vec .plain none (encZ l), .int v, .int l.length] [] = if v ∈ l.drop i then some (.ret, [.int ((i + (l.drop i).idxOf v : Nat) : Int)], []) else some (.exit 0, [], []) := by
    intro m
    induction m with
    | zero =>
      intro i hm hi
      have : i = l.length := by omega
      subst this
      rw [L, e_slices_Index_int_int_L2]
      simp
    | succ m ih =>
      intro i hm hi
      have hlt : i < l.length := by omega
      have hlt' : (i : Int) < l.length := by omega
      have hd : l.drop i = l[i] :: l.drop (i + 1) := List.drop_eq_getElem_cons hlt
      have hw : IntKind.i64.wrap ((i : Int) + 1) = ((i + 1 : Nat) : Int) := by rw [wrap_id ⟨by omega, by omega⟩]; omega
      have := ih (i + 1) (by omega) (by omega)
      rw [hd, L, e_slices_Index_int_int_L2, hw, getI_encZ hlt, encZ_length]
      by_cases he : v = l[i]
      · simp [hlt', ← he]
      · have hne : l[i] ≠ v := fun h => he h.symm
        have hm2 : (v ∈ l[i] :: l.drop (i + 1)) = (v ∈ l.drop (i + 1)) := propext (List.mem_cons.trans ⟨fun h => h.resolve_left he, .inr⟩)
        simp only [hlt', Int.natCast_nonneg, decide_true, Bool.and_self, gd_true, bc_true, onInt_int, bc_beq_f he, this, hm2]
        split
        · have hi : (l[i] :: l.drop (i + 1)).idxOf v = (l.drop (i + 1)).idxOf v + 1 := by rw [List.idxOf_cons, beq_false_of_ne hne]; rfl
          rw [hi, show i + 1 + (l.drop (i + 1)).idxOf v = i + ((l.drop (i + 1)).idxOf v + 1) by omega]
        · rfl
  have h := hL _ 0 rfl (Nat.zero_le _)
  simp only [Int.natCast_zero, List.drop_zero, Nat.zero_add] at h
  by_cases hm : v ∈ l
  · refine ⟨_, ?_, ?_, (if_pos hm).symm⟩
    · unfold Ev
      rw [C, e_slices_Index_int_int, encZ_length, h, if_pos hm]
      simp
    · simp [hm]
  · refine ⟨_, ?_, ?_, (if_neg hm).symm⟩
    · unfold Ev
      rw [C, e_slices_Index_int_int, encZ_length, h, if_neg hm]
      simp
    · simp [hm]
theorem contains_int_spec (l : List Int) (v : Int) (hl : l.length ≤ 1099511627776) : Ev 67 [.vec .plain none (encZ l), .int v] (.bool (decide (v ∈ l))) := by
  obtain ⟨r, h1, h2, _⟩ := index_int_spec l v hl
  have h1 := h1.p
  unfold Ev
  rw [C, e_slices_Contains_int_int, h1]
  simp only [obind_some', onInt_int, h2]

theorem bytesZ : ((Try.prog.info? 3).map (·.bytes)).getD 0 = 8 := by kernel_rfl
theorem roomZ {n : Nat} (h : n ≤ 1099511627776) : roomFor Try.prog 3 n = true := by
  unfold roomFor
  rw [bytesZ]
  simp
  omega

theorem pattern_spec (xs : List T) (b : Int) (hs : xs.length ≤ 1048576) : Ev 40 [.vec .plain (some 3) (encs xs), .int b] (.tup [.vec .plain none (encZ (patternF xs b).1), .bool (patternF xs b).2]) := by
  have hL : ∀ (m i : Nat) (vars : List Int), xs.length - i = m → i ≤ xs.length → vars.length ≤ i → W.loop 40 3 [.int (i : Int), .vec .grow none (encZ vars), .int b, .vec .plain (some 3) (encs xs), .int xs.length] [] =
      if (patL b vars (xs.drop i)).2 then some (.exit 0, [.vec .grow none (encZ (patL b vars (xs.drop i)).1)], []) else some (.ret, [.vec .plain none [], .bool false], []) := by
    intro m
    induction m with
    | zero =>
      intro i vars hm hi hv
      have : i = xs.length := by omega
      subst this
      rw [L, e_occur_Pattern_L3]
      simp [patL]
    | succ m ih =>
      intro i vars hm hi hv
      have hlt : i < xs.length := by omega
      have hlt' : (i : Int) < xs.length := by omega
      have hd : xs.drop i = xs[i] :: xs.drop (i + 1) := List.drop_eq_getElem_cons hlt
      have hw : IntKind.i64.wrap ((i : Int) + 1) = ((i + 1 : Nat) : Int) := by rw [wrap_id ⟨by omega, by omega⟩]; omega
      have hc := (contains_int_spec vars xs[i].h (by omega)).p
      have hr : roomFor Try.prog 3 (vars.length + 1) = true := roomZ (by omega)
      have := ih (i + 1) (vars ++ [xs[i].h]) (by omega) (by omega) (by simp; omega)
      have e1 : encZ (vars ++ [xs[i].h]) = encZ vars ++ [V.int xs[i].h] := by simp [encZ]
      rw [e1] at this
      rw [hd, L, e_occur_Pattern_L3, hw, getI_encs hlt, encs_length]
      have hno : (xs[i].k ≠ 4 ∨ 0 < xs[i].args.length ∨ xs[i].h < 0 ∨ b ≤ xs[i].h ∨ xs[i].h ∈ vars) → patL b vars (xs[i] :: xs.drop (i + 1)) = ([], false) := fun h => by rw [patL, if_pos h]
      by_cases k4 : xs[i].k = 4
      · by_cases ka : 0 < xs[i].args.length
        · rw [hno (.inr (.inl ka))]
          simp [hlt', k4, ka]
        · by_cases kh : xs[i].h < 0
          · rw [hno (.inr (.inr (.inl kh)))]
            simp [hlt', k4, ka, kh]
          · by_cases kb : b ≤ xs[i].h
            · rw [hno (.inr (.inr (.inr (.inl kb))))]
              simp [hlt', k4, ka, kh, kb]
            · by_cases km : xs[i].h ∈ vars
              · rw [hno (.inr (.inr (.inr (.inr km))))]
                simp [hlt', k4, ka, kh, kb, hc, km]
              · have hy : patL b vars (xs[i] :: xs.drop (i + 1)) = patL b (vars ++ [xs[i].h]) (xs.drop (i + 1)) := by
                  rw [patL, if_neg (by simp only [not_or]; exact ⟨by simpa using k4, ka, kh, kb, km⟩)]
                rw [hy]
                simp [hlt', k4, ka, kh, kb, hc, km, hr]
                simpa using this
      · rw [hno (.inl k4)]
        simp [hlt', k4]
  have h := hL _ 0 [] rfl (Nat.zero_le _) (Nat.le_refl _)
  have h' : W.loop 40 3 [.int 0, .vec .grow none [], .int b, .vec .plain (some 3) (encs xs), .int xs.length] [] = _ := h
  simp only [List.drop_zero] at h'
  have hf : (patL b [] xs).2 = false → (patL b [] xs).1 = [] := by
    have : ∀ (l : List T) (vars : List Int), (patL b vars l).2 = false → (patL b vars l).1 = [] := by
      intro l
      induction l with
      | nil => intro vars h; simp [patL] at h
      | cons t l ih =>
        intro vars h
        simp only [patL] at h ⊢
        split
        · rfl
        · rename_i c; rw [if_neg c] at h; exact ih _ h
    exact this xs []
  unfold Ev patternF
  rw [C, e_occur_Pattern, encs_length, h']
  cases hb : (patL b [] xs).2 with
  | true => simp [below, belowL, belowSt]
  | false =>
    rw [hf hb]
    simp [below, belowL, belowSt]
    rfl

theorem pure_pat1 : cfg.pure 39 = false := by kernel_rfl
theorem patterns_spec (t : T) (n : Int) (hs : t.size ≤ 1048576) (h0 : 0 ≤ n) (hn : n ≤ 1099511627776) : Ev 13 [enc t, .int n] (.bool (patternsF t n)) := by
  have h := visit_spec (nx := patNx) (x := fun s => [Res.box [V.bool s]]) (g := 39) (a := []) (b := [.ref 0 0]) (S := 1048576) (by omega) pure_pat1 (fun _ _ => rfl) (fun n t s hs h0 hn => by
    have hl : t.args.length ≤ 1048576 := by cases t; simp only [T.size] at hs; have := length_le_sizes (T.args (.mk ‹_› ‹_› ‹_›)); simp only [T.args] at this ⊢; omega
    have hp := (pattern_spec t.args n hl).p
    show W.call 39 [enc t, .int n, .ref 0 0] [Res.box [V.bool s]] = _
    rw [C, enc_eta t, e_occur_Patterns_1]
    unfold patNx
    by_cases hk : t.k = 6
    · cases s <;> simp [hk, hp]
    · simp [hk]) t.size t n true (Nat.le_refl _) (by omega) h0 (by omega)
  unfold Ev
  rw [C, enc_eta t, e_occur_Patterns, ← enc_eta t, h]
  show obind (some _) _ = _
  simp [getR]
  rfl
end Go.Proofs.GT

/-! sign.Family. -/
namespace Go.Proofs.GT
open Go Go.AM Go.Ama

end Go.Proofs.GT

/-! sign.Constants. -/
namespace Go.Proofs.GT
open Go Go.AM Go.Ama

theorem bytesI : ((Try.prog.info? 3).map (·.bytes)).getD 0 = 8 := by kernel_rfl
theorem roomI {n : Nat} (h : n ≤ 1099511627776) : roomFor Try.prog 3 n = true := by
  unfold roomFor
  rw [bytesI]
  simp
  omega

end Go.Proofs.GT

namespace Go.Proofs.GT
open Go Go.AM
set_option maxRecDepth 20000

end Go.Proofs.GT

/-! split: the small ones. -/
namespace Go.Proofs.GT
open Go Go.AM Go.Ama

/-- A splitting, as_ it stands in memory. -/
abbrev encSp (sg sch dl psi az phi bz cls : List V) (nm : ByteArray) (ak ah bk bh fam : Int) (tot : Bool) : V :=
  .agg [.vec .plain (some 4) sg, .str nm, .vec .plain (some 3) sch, .vec .plain (some 5) dl, .vec .plain (some 3) psi, .int ak, .int ah, .vec .plain (some 3) az, .vec .plain (some 3) phi, .int bk, .int bh, .vec .plain (some 3) bz, .bool tot, .vec .plain (some 9) cls, .int fam]

end Go.Proofs.GT

namespace Go.Proofs.GT
open Go Go.AM
set_option maxRecDepth 20000

theorem e_general_General (O : Oracle) (l0 : (List V)) (n1 : Int) (n2 : Int) (l3 : (List V)) (n4 : Int) : callBody Try.prog cfg O 10 [.vec .plain (some 3) l0, .agg [.int n1, .int n2, .vec .plain (some 3) l3], .int n4] [] =
  obind (pcall O 31 [V.agg [V.int n1, V.int n2, V.vec .plain (some 3) l3]]) fun r1 => onTup r1 fun c2 => onCons c2 fun v3 c4 => onVec (some 3) v3 fun l5 => onCons c4 fun
  v6 c7 => onStruct [CT.int, CT.int, CT.slice (some 3)] v6 fun n8 n9 l10 => onNil c7 (gd (decide (0 ≤ IntKind.i64.wrap ((↑l0.length : Int) + (↑l5.length : Int))) && decide
  (IntKind.i64.wrap ((↑l0.length : Int) + (↑l5.length : Int)) = IntKind.i64.wrap ((↑l0.length : Int) + (↑l5.length : Int))) && roomFor Try.prog 25 (IntKind.i64.wrap
  ((↑l0.length : Int) + (↑l5.length : Int))).toNat && true && true) (gd (true && decide (0 + (IntKind.i64.wrap ((↑l0.length : Int) + (↑l5.length : Int))).toNat ≤ (List.replicate
  (IntKind.i64.wrap ((↑l0.length : Int) + (↑l5.length : Int))).toNat (V.agg [V.int 0, V.int 0, V.vec .plain (some 3) []])).length)) (gd (decide (0 ≤ (↑(min l0.length
  (IntKind.i64.wrap ((↑l0.length : Int) + (↑l5.length : Int))).toNat) : Int)) && decide ((↑(min l0.length (IntKind.i64.wrap ((↑l0.length : Int) + (↑l5.length : Int))).toNat) : Int)
  ≤ (↑(IntKind.i64.wrap ((↑l0.length : Int) + (↑l5.length : Int))).toNat : Int)) && decide ((↑(IntKind.i64.wrap ((↑l0.length : Int) + (↑l5.length : Int))).toNat : Int) ≤
  (↑(IntKind.i64.wrap ((↑l0.length : Int) + (↑l5.length : Int))).toNat : Int)) && true) (gd (true && decide (0 + (↑(min l0.length (IntKind.i64.wrap ((↑l0.length : Int) + (↑l5.length
  : Int))).toNat) : Int).toNat + ((↑(IntKind.i64.wrap ((↑l0.length : Int) + (↑l5.length : Int))).toNat : Int).toNat - (↑(min l0.length (IntKind.i64.wrap ((↑l0.length : Int) +
  (↑l5.length : Int))).toNat) : Int).toNat) ≤ ([] ++ List.take (min l0.length (IntKind.i64.wrap ((↑l0.length : Int) + (↑l5.length : Int))).toNat) l0 ++ List.drop (0 + min l0.length
  (IntKind.i64.wrap ((↑l0.length : Int) + (↑l5.length : Int))).toNat) (List.replicate (IntKind.i64.wrap ((↑l0.length : Int) + (↑l5.length : Int))).toNat (V.agg [V.int 0, V.int 0,
  V.vec .plain (some 3) []]))).length)) (obind (pcall O 28 [V.agg [V.int n1, V.int n2, V.vec .plain (some 3) l3]]) fun r11 => onBool r11 fun b12 => bc b12 (some
  (Out.ret (V.tup [V.agg [V.vec .plain (some 3) [], V.int 0, V.int 0, V.vec .plain (some 3) [], V.bool false], V.agg [V.int 0, V.int 0, V.vec .plain (some 3) []], V.int 1]), []))
  (obind (O.call 32 [V.vec .plain (some 3) l0, V.fn 28 [] []] [Res.row (some 3) (List.take (0 + (↑(min l0.length
  (IntKind.i64.wrap ((↑l0.length : Int) + (↑l5.length : Int))).toNat) : Int).toNat) ([] ++ List.take (min l0.length (IntKind.i64.wrap ((↑l0.length : Int) + (↑l5.length :
  Int))).toNat) l0 ++ List.drop (0 + min l0.length (IntKind.i64.wrap ((↑l0.length : Int) + (↑l5.length : Int))).toNat) (List.replicate (IntKind.i64.wrap ((↑l0.length : Int) +
  (↑l5.length : Int))).toNat (V.agg [V.int 0, V.int 0, V.vec .plain (some 3) []]))) ++ List.take (min l5.length ((↑(IntKind.i64.wrap ((↑l0.length : Int) + (↑l5.length : Int))).toNat
  : Int).toNat - (↑(min l0.length (IntKind.i64.wrap ((↑l0.length : Int) + (↑l5.length : Int))).toNat) : Int).toNat)) l5 ++ List.drop (0 + (↑(min l0.length (IntKind.i64.wrap
  ((↑l0.length : Int) + (↑l5.length : Int))).toNat) : Int).toNat + min l5.length ((↑(IntKind.i64.wrap ((↑l0.length : Int) + (↑l5.length : Int))).toNat : Int).toNat - (↑(min
  l0.length (IntKind.i64.wrap ((↑l0.length : Int) + (↑l5.length : Int))).toNat) : Int).toNat)) ([] ++ List.take (min l0.length (IntKind.i64.wrap ((↑l0.length : Int) + (↑l5.length :
  Int))).toNat) l0 ++ List.drop (0 + min l0.length (IntKind.i64.wrap ((↑l0.length : Int) + (↑l5.length : Int))).toNat) (List.replicate (IntKind.i64.wrap ((↑l0.length : Int) +
  (↑l5.length : Int))).toNat (V.agg [V.int 0, V.int 0, V.vec .plain (some 3) []]))))]) fun r13 => onRet r13.fst (fun v14 => onBool v14 fun b15 => bc b15 (some (Out.ret (V.tup [V.agg
  [V.vec .plain (some 3) [], V.int 0, V.int 0, V.vec .plain (some 3) [], V.bool false], V.agg [V.int 0, V.int 0, V.vec .plain (some 3) []], V.int 1]), [])) (bc (decide (n4 < 0))
  (some (Out.ret (V.tup [V.agg [V.vec .plain (some 3) [], V.int 0, V.int 0, V.vec .plain (some 3) [], V.bool false], V.agg [V.int 0, V.int 0, V.vec .plain (some 3) []], V.int 1]),
  [])) (bc (decide ((↑(IntKind.i64.wrap ((↑l0.length : Int) + (↑l5.length : Int))).toNat : Int) > 40)) (some (Out.ret (V.tup [V.agg [V.vec .plain (some 3) [], V.int 0, V.int 0,
  V.vec .plain (some 3) [], V.bool false], V.agg [V.int 0, V.int 0, V.vec .plain (some 3) []], V.int 1]), [])) (obind (O.call 32 [V.row (some 3)
  0 0 (IntKind.i64.wrap ((↑l0.length : Int) + (↑l5.length : Int))).toNat, V.fn 30 [] []] r13.snd) fun r16 => onRet r16.fst (fun v17 => onBool v17 fun b18 => bc b18
  (some (Out.ret (V.tup [V.agg [V.vec .plain (some 3) [], V.int 0, V.int 0, V.vec .plain (some 3) [], V.bool false], V.agg [V.int 0, V.int 0, V.vec .plain (some 3) []], V.int 5]),
  [])) (obind (pcall O 30 [V.agg [V.int n8, V.int n9, V.vec .plain (some 3) l10]]) fun r19 => onBool r19 fun b20 => bc b20 (some (Out.ret (V.tup [V.agg [V.vec
  .plain (some 3) [], V.int 0, V.int 0, V.vec .plain (some 3) [], V.bool false], V.agg [V.int 0, V.int 0, V.vec .plain (some 3) []], V.int 5]), [])) (obind (pcall O 33
  [V.int (↑(IntKind.i64.wrap ((↑l0.length : Int) + (↑l5.length : Int))).toNat : Int)]) fun r21 => onStruct [CT.slice (some 3), CT.int] r21 fun l22 n23 => obind (O.loop
  10 12 [V.int 0, V.loc false (some 3) (V.agg [V.int 6, V.int n4, V.vec .plain (some 3) l22]), V.row (some 3) 0 0 (IntKind.i64.wrap ((↑l0.length : Int) + (↑l5.length
  : Int))).toNat, V.loc true (some 5) (V.agg [V.vec Mode.full (some 3) [], V.int 0, V.int 0, V.vec Mode.full (some 3) [], V.bool false]), V.loc true (some 3) (V.agg [V.int 0, V.int
  0, V.vec Mode.full (some 3) []]), V.loc false (some 3) (V.agg [V.int n8, V.int n9, V.vec .plain (some 3) l10]), V.int (↑l5.length : Int)] r16.snd) fun r24 => onEx r24.fst none
  none (fun i25 => bc (i25.beq 1) (onCons r24.snd.fst fun v26 c27 => onRowV (some 3) v26 fun r28 lo29 n30 => onCons c27 fun v31 c32 => onLoc (some 5) v31 fun d33 v34 => onCons c32
  fun v35 c36 => onLoc (some 3) v35 fun d37 v38 => onCons c36 fun v39 c40 => onLoc (some 3) v39 fun d41 v42 => onStruct [CT.int, CT.int, CT.slice (some 3)] (bif d41 then cleanV v42
  else v42) fun n43 n44 l45 => onCons c40 fun v46 c47 => onLoc (some 3) v46 fun d48 v49 => onStruct [CT.int, CT.int, CT.slice (some 3)] (bif d48 then cleanV v49 else v49) fun n50
  n51 l52 => onNil c47 (obind (O.loop 10 16 [V.int 0, V.row (some 3) r28 lo29 n30, V.loc true (some 5) v34, V.loc true (some 3) v38, V.loc false (some 3) (V.agg
  [V.int n43, V.int n44, V.vec .plain (some 3) l45]), V.loc false (some 3) (V.agg [V.int n50, V.int n51, V.vec .plain (some 3) l52]), V.int (↑n30 : Int)] r24.snd.snd) fun r53 =>
  onEx r53.fst none none (fun i54 => bc (i54.beq 3) (onCons r53.snd.fst fun v55 c56 => onLoc (some 5) v55 fun d57 v58 => onCons c56 fun v59 c60 => onLoc (some 3) v59 fun d61 v62 =>
  onCons c60 fun v63 c64 => onLoc (some 3) v63 fun d65 v66 => onStruct [CT.int, CT.int, CT.slice (some 3)] (bif d65 then cleanV v66 else v66) fun n67 n68 l69 => onCons c64 fun v70
  c71 => onLoc (some 3) v70 fun d72 v73 => onStruct [CT.int, CT.int, CT.slice (some 3)] (bif d72 then cleanV v73 else v73) fun n74 n75 l76 => onCons c71 fun v77 c78 => onRowV (some
  3) v77 fun r79 lo80 n81 => onNil c78 (getR r53.snd.snd r79 fun x82 => onRow x82 fun sh83 l84 => gd (decide (sh83 = some 3) && decide (lo80 + n81 ≤ l84.length)) (gd (below 0 (V.tup
  [V.agg [V.vec .plain (some 3) (List.take n81 (List.drop lo80 l84)), V.int n74, V.int n75, V.vec .plain (some 3) l76, V.bool false], V.agg [V.int n67, V.int n68, V.vec .plain (some
  3) l69], V.int 0]) && belowSt 0 []) (some (Out.ret (V.tup [V.agg [V.vec .plain (some 3) (List.take n81 (List.drop lo80 l84)), V.int n74, V.int n75, V.vec .plain (some 3) l76,
  V.bool false], V.agg [V.int n67, V.int n68, V.vec .plain (some 3) l69], V.int 0]), []))))) none) fun v85 => none)) none) fun v86 => none))) fun p87 => none)))) fun p88 =>
  none)))))) := by kernel_rfl

theorem e_general_General_L12 (O : Oracle) (n0 : Int) (n1 : Int) (n2 : Int) (l3 : (List V)) (r4 : Nat) (n5 : Nat) (n6 : Nat) (v7 : V) (v8 : V) (n9 : Int) (n10 : Int) (l11 : (List V)) (n12 : Int) (st : St) : loopBody Try.prog cfg O 10 12 [.int n0, .loc false (some 3) (.agg [.int n1, .int n2, .vec .plain (some 3) l3]), .row (some 3) r4 n5 n6, .loc true (some 5) v7, .loc true (some 3) v8, .loc false (some 3) (.agg [.int n9, .int n10, .vec .plain (some 3) l11]), .int n12] st =
  bc (decide (n0 < n12)) (O.2 10 12 [V.int (IntKind.i64.wrap (n0 + 1)), V.loc false (some 3) (V.agg [V.int 3, V.int 0, V.vec .plain (some 3) [V.agg [V.int n1, V.int
  n2, V.vec .plain (some 3) l3]]]), V.row (some 3) r4 n5 n6, V.loc true (some 5) v7, V.loc true (some 3) v8, V.loc false (some 3) (V.agg [V.int n9, V.int n10, V.vec .plain (some 3)
  l11]), V.int n12] st) (some (Ex.exit 1, [V.row (some 3) r4 n5 n6, V.loc true (some 5) v7, V.loc true (some 3) v8, V.loc false (some 3) (V.agg [V.int n1, V.int n2, V.vec .plain
  (some 3) l3]), V.loc false (some 3) (V.agg [V.int n9, V.int n10, V.vec .plain (some 3) l11])], st)) := by kernel_rfl

theorem e_general_General_L16 (O : Oracle) (i n k h k2 h2 : Int) (m : Nat) (xs ys zs : List V) : loopBody Try.prog cfg O 10 16 [.int i, .row (some 3) 0 0 m, .loc true (some 5) (.agg [.vec .full (some 3) [], .int 0, .int 0, .vec .full (some 3) [], .bool false]), .loc true (some 3) (.agg [.int 0, .int 0, .vec .full (some 3) []]), .loc false (some 3) (.agg [.int k, .int h, .vec .plain (some 3) xs]), .loc false (some 3) (.agg [.int k2, .int h2, .vec .plain (some 3) ys]), .int n] [.row (some 3) zs] =
  bc (decide (i < n)) (gd (decide (0 ≤ i) && decide (i < (↑m : Int))) (gd (true && decide (0 + i.toNat < zs.length)) (onStruct [CT.int, CT.int, CT.slice (some 3)] (zs.getD (0 +
  i.toNat) V.undef) fun n1 n2 l3 => obind (pcall O 34 [V.agg [V.int n1, V.int n2, V.vec .plain (some 3) l3]]) fun r4 => onStruct [CT.int, CT.int, CT.slice (some 3)] r4 fun
  n5 n6 l7 => gd (decide (0 ≤ i) && decide (i < (↑m : Int))) (gd (true && !isGrow (V.agg [V.int n5, V.int n6, V.vec .plain (some 3) l7]) && decide (0 + i.toNat < zs.length)) (O.2
  10 16 [V.int (IntKind.i64.wrap (i + 1)), V.row (some 3) 0 0 m, V.loc true (some 5) (V.agg [V.vec Mode.full (some 3) [], V.int 0, V.int 0, V.vec Mode.full (some 3)
  [], V.bool false]), V.loc true (some 3) (V.agg [V.int 0, V.int 0, V.vec Mode.full (some 3) []]), V.loc false (some 3) (V.agg [V.int k, V.int h, V.vec .plain (some 3) xs]), V.loc
  false (some 3) (V.agg [V.int k2, V.int h2, V.vec .plain (some 3) ys]), V.int n] [Res.row (some 3) (zs.set (0 + i.toNat) (V.agg [V.int n5, V.int n6, V.vec .plain (some 3)
  l7]))]))))) (some (Ex.exit 3, [V.loc true (some 5) (V.agg [V.vec Mode.full (some 3) [], V.int 0, V.int 0, V.vec Mode.full (some 3) [], V.bool false]), V.loc true (some 3) (V.agg
  [V.int 0, V.int 0, V.vec Mode.full (some 3) []]), V.loc false (some 3) (V.agg [V.int k, V.int h, V.vec .plain (some 3) xs]), V.loc false (some 3) (V.agg [V.int k2, V.int h2, V.vec
  .plain (some 3) ys]), V.row (some 3) 0 0 m], [Res.row (some 3) zs])) := by kernel_rfl

theorem e_general_General_1 (O : Oracle) (n0 : Int) (n1 : Int) (l2 : (List V)) : callBody Try.prog cfg O 28 [.agg [.int n0, .int n1, .vec .plain (some 3) l2]] [] =
  obind (pcall O 29 [V.agg [V.int n0, V.int n1, V.vec .plain (some 3) l2]]) fun r1 => onBool r1 fun b2 => some (Out.ret (V.bool !b2), []) := by kernel_rfl

theorem e_general_General_2 (O : Oracle) (n0 : Int) (n1 : Int) (l2 : (List V)) : callBody Try.prog cfg O 30 [.agg [.int n0, .int n1, .vec .plain (some 3) l2]] [] =
  some (Out.ret (V.bool (n0 != 2)), []) := by kernel_rfl

theorem e_sign_Split (O : Oracle) (n0 : Int) (n1 : Int) (l2 : (List V)) : callBody Try.prog cfg O 31 [.agg [.int n0, .int n1, .vec .plain (some 3) l2]] [] =
  obind (O.call 57 [V.agg [V.int n0, V.int n1, V.vec .plain (some 3) l2]] [Res.box [V.vec Mode.full (some 3) []], Res.box [V.int n0, V.int n1, V.vec .plain (some 3) l2]])
  fun r1 => onRet r1.fst (fun v2 => onFn v2 fun g3 a4 b5 => obind (O.call g3 (a4 ++ [V.yld (List.length r1.snd)] ++ b5) (r1.snd ++ [Res.loop 31 6 [V.ref 1 0, V.ref 0 0]
  LSt.ready none])) fun r6 => onRet r6.fst (fun v7 => getR r6.snd (List.length r1.snd) fun x8 => onLoop x8 fun f9 k10 vs11 s12 p13 => onPend s12 p13 (getR (List.set r6.snd
  (List.length r1.snd) Res.dead) 0 fun x14 => onBox x14 fun c15 => gd (decide (1 ≤ c15.length) && true) (onVec (some 3) (cleanV (AM.partOf c15 0 none)) fun l16 => getR (List.set
  r6.snd (List.length r1.snd) Res.dead) 1 fun x17 => onBox x17 fun c18 => gd (decide (3 ≤ c18.length) && true) (onCells [CT.int, CT.int, CT.slice (some 3)] (List.map plain1
  (List.take 3 (List.drop 0 c18))) fun n19 n20 l21 => obind (pcall O 34 [V.agg [V.int n19, V.int n20, V.vec .plain (some 3) l21]]) fun r22 => onStruct [CT.int, CT.int,
  CT.slice (some 3)] r22 fun n23 n24 l25 => gd (below 0 (V.tup [V.vec .plain (some 3) l16, V.agg [V.int n23, V.int n24, V.vec .plain (some 3) l25]]) && belowSt 0 []) (some (Out.ret
  (V.tup [V.vec .plain (some 3) l16, V.agg [V.int n23, V.int n24, V.vec .plain (some 3) l25]]), []))))) none fun i26 => none) fun p27 => none) fun p28 => none := by kernel_rfl

theorem e_sign_Split_R6 (O : Oracle) (q r0 r1 : Nat) (k h k2 h2 : Int) (xs ys : List V) (st : St) : roundBody Try.prog cfg O q 31 6 [.ref r0 0, .ref r1 0] [.agg [.int k, .int h, .vec .plain (some 3) xs], .agg [.int k2, .int h2, .vec .plain (some 3) ys]] st =
  getR st q fun x1 => onLoop x1 fun f2 k3 vs4 s5 p6 => onReady s5 p6 (getR (List.set st q (Res.loop f2 k3 vs4 LSt.busy none)) r1 fun x7 => onBox x7 fun c8 => gd (decide (0 <
  c8.length) && true && true) (onRoom2 (some 3) (c8.getD 0 V.undef) (fun l9 => obind (pcall O 34 [V.agg [V.int k, V.int h, V.vec .plain (some 3) xs]]) fun r10 => onStruct
  [CT.int, CT.int, CT.slice (some 3)] r10 fun n11 n12 l13 => gd (true && roomFor Try.prog 25 (l9.length + [V.agg [V.int n11, V.int n12, V.vec .plain (some 3)
  l13]].length)) (getR ((List.set st q (Res.loop f2 k3 vs4 LSt.busy none)).set r1 (Res.box (c8.set 0 (V.vec .plain (some 3) l9)))) r1 fun x14 => onBox x14 fun c15 => gd (decide (1 ≤
  c15.length) && true) (getR (((List.set st q (Res.loop f2 k3 vs4 LSt.busy none)).set r1 (Res.box (c8.set 0 (V.vec .plain (some 3) l9)))).set r1 (Res.box (setCells c15 0 [V.vec
  Mode.grow (some 3) (l9 ++ [V.agg [V.int n11, V.int n12, V.vec .plain (some 3) l13]])]))) r0 fun x16 => onBox x16 fun c17 => gd (decide (3 ≤ c17.length) && true) (getR ((((List.set
  st q (Res.loop f2 k3 vs4 LSt.busy none)).set r1 (Res.box (c8.set 0 (V.vec .plain (some 3) l9)))).set r1 (Res.box (setCells c15 0 [V.vec Mode.grow (some 3) (l9 ++ [V.agg [V.int
  n11, V.int n12, V.vec .plain (some 3) l13]])]))).set r0 (Res.box (setCells c17 0 [V.int k2, V.int h2, V.vec .plain (some 3) ys]))) q fun x18 => onLoop x18 fun f19 k20 vs21 s22 p23
  => onBusy s22 (some (true, ((((List.set st q (Res.loop f2 k3 vs4 LSt.busy none)).set r1 (Res.box (c8.set 0 (V.vec .plain (some 3) l9)))).set r1 (Res.box (setCells c15 0 [V.vec
  Mode.grow (some 3) (l9 ++ [V.agg [V.int n11, V.int n12, V.vec .plain (some 3) l13]])]))).set r0 (Res.box (setCells c17 0 [V.int k2, V.int h2, V.vec .plain (some 3) ys]))).set q
  (Res.loop f19 k20 vs21 LSt.ready none))))))) fun l24 => obind (pcall O 34 [V.agg [V.int k, V.int h, V.vec .plain (some 3) xs]]) fun r25 => onStruct [CT.int, CT.int,
  CT.slice (some 3)] r25 fun n26 n27 l28 => gd (true && roomFor Try.prog 25 (l24.length + [V.agg [V.int n26, V.int n27, V.vec .plain (some 3) l28]].length)) (getR
  ((List.set st q (Res.loop f2 k3 vs4 LSt.busy none)).set r1 (Res.box (c8.set 0 (V.vec .plain (some 3) l24)))) r1 fun x29 => onBox x29 fun c30 => gd (decide (1 ≤ c30.length) &&
  true) (getR (((List.set st q (Res.loop f2 k3 vs4 LSt.busy none)).set r1 (Res.box (c8.set 0 (V.vec .plain (some 3) l24)))).set r1 (Res.box (setCells c30 0 [V.vec Mode.grow (some 3)
  (l24 ++ [V.agg [V.int n26, V.int n27, V.vec .plain (some 3) l28]])]))) r0 fun x31 => onBox x31 fun c32 => gd (decide (3 ≤ c32.length) && true) (getR ((((List.set st q (Res.loop f2
  k3 vs4 LSt.busy none)).set r1 (Res.box (c8.set 0 (V.vec .plain (some 3) l24)))).set r1 (Res.box (setCells c30 0 [V.vec Mode.grow (some 3) (l24 ++ [V.agg [V.int n26, V.int n27,
  V.vec .plain (some 3) l28]])]))).set r0 (Res.box (setCells c32 0 [V.int k2, V.int h2, V.vec .plain (some 3) ys]))) q fun x33 => onLoop x33 fun f34 k35 vs36 s37 p38 => onBusy s37
  (some (true, ((((List.set st q (Res.loop f2 k3 vs4 LSt.busy none)).set r1 (Res.box (c8.set 0 (V.vec .plain (some 3) l24)))).set r1 (Res.box (setCells c30 0 [V.vec Mode.grow (some
  3) (l24 ++ [V.agg [V.int n26, V.int n27, V.vec .plain (some 3) l28]])]))).set r0 (Res.box (setCells c32 0 [V.int k2, V.int h2, V.vec .plain (some 3) ys]))).set q (Res.loop f34 k35
  vs36 LSt.ready none)))))))) := by kernel_rfl

end Go.Proofs.GT

/-! sign.Split. -/
namespace Go.Proofs.GT
open Go Go.AM Go.Ama

def boxL (zs : List T) : Res := .box [if zs = [] then .vec .full (some 3) [] else .vec .grow (some 3) (encs zs)]

theorem psplitR_spec (zs : List T) (a b u : T) (z : Res) (hs : a.size ≤ 1099511627776) (hl : zs.length ≤ 1099511627776) :
    W.round 3 31 6 [.ref 1 0, .ref 0 0] [enc a, enc b] [boxL zs, boxT u, z, .loop 31 6 [.ref 1 0, .ref 0 0] .ready none] = some (true, [boxL (zs ++ [a]), boxT b, z, .loop 31 6 [.ref 1 0, .ref 0 0] .ready none]) := by
  have ho := (pown_spec a hs).p
  have hr : roomFor Try.prog 25 (zs.length + 1) = true := room24 (by omega)
  rw [Rd, enc_eta a, enc_eta b, e_sign_Split_R6]
  unfold boxL boxT
  by_cases c : zs = []
  · subst c
    simp [getR, onReady, onRoom2, ← enc_eta, setCells, room24, onBusy, ho]
  · simp [getR, onReady, onRoom2, ← enc_eta, setCells, hr, onBusy, c, ho]

theorem ppisL_spec : ∀ (n : Nat) (t : T) (zs : List T) (u : T), t.size ≤ n → zs.length + t.size ≤ 1099511627776 →
    W.loop 72 0 [.ref 2 0, .yld 3] [boxL zs, boxT u, boxT t, .loop 31 6 [.ref 1 0, .ref 0 0] .ready none] =
      some (.exit 0, [], [boxL (zs ++ (split t).1), boxT (if (split t).1 = [] then u else (split t).2), boxT (split t).2, .loop 31 6 [.ref 1 0, .ref 0 0] .ready none]) := by
  intro n
  induction n with
  | zero => intro t _ _ h; have := size_pos t; omega
  | succ n ih =>
    intro t zs u h hs
    have hp := size_pos t
    rw [L]
    conv => lhs; rw [show boxT t = .box [.int t.k, .int t.h, .vec .plain (some 3) (encs t.args)] from rfl]
    rw [e_sign_pis_1_L0__b, encs_length, beq_len2, beq_int]
    by_cases c1 : t.k = 1
    · by_cases c2 : t.args.length = 2
      · obtain ⟨a, b, hab⟩ := len2 c2
        have ha := args_size (t := t) (b := a) (by rw [hab]; simp)
        have hb := args_size (t := t) (b := b) (by rw [hab]; simp)
        have g0 : getI (encs t.args) 0 = enc a := by rw [hab]; rfl
        have g1 : getI (encs t.args) 1 = enc b := by rw [hab]; rfl
        have hrd := psplitR_spec zs a b u (boxT t) (by omega) (by omega)
        have := ih b (zs ++ [a]) b (by omega) (by simp; omega)
        rw [split_pi c1 hab]
        simp only [c1, c2, decide_true, bc_true, g0, g1, onStruct_enc, ← enc_eta, Bool.true_and, show decide ((0 : Int) < ((2 : Nat) : Int)) = true from rfl, show decide ((1 : Int) < ((2 : Nat) : Int)) = true from rfl, gd_true, onLoop_loop, onPend_ready]
        have hbt : boxT t = .box [.int 1, .int t.h, .vec .plain (some 3) (encs t.args)] := by unfold boxT; rw [c1]
        rw [hbt] at hrd
        rw [hrd, obind_some']
        simp only [Bool.not_true, bc_false]
        have hget : ∀ {R : Type} (K : Res → Option R), getR [boxL (zs ++ [a]), boxT b, Res.box [V.int 1, V.int t.h, V.vec .plain (some 3) (encs t.args)], Res.loop 31 6 [V.ref 1 0, V.ref 0 0] LSt.ready none] 2 K = K (Res.box [V.int 1, V.int t.h, V.vec .plain (some 3) (encs t.args)]) := fun K => rfl
        rw [hget, onBox_box]
        have hc : cleanV (AM.partOf [V.int 1, V.int t.h, V.vec .plain (some 3) (encs t.args)] 2 none) = .vec .plain (some 3) (encs t.args) := rfl
        rw [hc, onVec_plain, g1, onStruct_enc, hget, onBox_box]
        have h1l : decide ((1 : Int) < ((encs t.args).length : Int)) = true := by rw [encs_length, c2]; rfl
        rw [h1l]
        simp only [List.length_cons, List.length_nil, Nat.zero_add, Nat.reduceAdd, Nat.le_refl, decide_true, Bool.and_self, gd_true]
        have hset : List.set [boxL (zs ++ [a]), boxT b, Res.box [V.int 1, V.int t.h, V.vec .plain (some 3) (encs t.args)], Res.loop 31 6 [V.ref 1 0, V.ref 0 0] LSt.ready none] 2
            (Res.box (setCells [V.int 1, V.int t.h, V.vec .plain (some 3) (encs t.args)] 0 [V.int b.k, V.int b.h, V.vec .plain (some 3) (encs b.args)])) = [boxL (zs ++ [a]), boxT b, boxT b, .loop 31 6 [.ref 1 0, .ref 0 0] .ready none] := rfl
        rw [hset, this]
        rw [show zs ++ a :: (split b).1 = (zs ++ [a]) ++ (split b).1 by simp]
        simp only [if_neg (List.cons_ne_nil a (split b).1)]
        by_cases c : (split b).1 = []
        · have hsb : (split b).2 = b := by
            by_cases c' : b.k = 1 ∧ b.args.length = 2
            · obtain ⟨a', b', hab'⟩ := len2 c'.2
              rw [split_pi c'.1 hab'] at c; cases c
            · rw [split_end c']
          rw [if_pos c, hsb]
        · rw [if_neg c]
      · rw [split_end fun c => c2 c.2]
        simp only [c1, c2, decide_true, decide_false, bc_true, bc_false, List.append_nil, if_true]
        rw [← c1]
        rfl
    · rw [split_end fun c => c1 c.1]
      simp only [c1, decide_false, bc_false, List.append_nil, if_true]
      rfl

theorem psplit_spec (t : T) (hs : t.size ≤ 1099511627776) : Ev 31 [enc t] (.tup [.vec .plain (some 3) (encs (split t).1), enc (split t).2]) := by
  unfold Ev
  have h := ppisL_spec t.size t [] t (Nat.le_refl _) (by simp; omega)
  simp only [List.nil_append] at h
  have hlast : (if (split t).1 = [] then t else (split t).2) = (split t).2 := by
    by_cases c' : t.k = 1 ∧ t.args.length = 2
    · obtain ⟨a', b', hab'⟩ := len2 c'.2
      rw [split_pi c'.1 hab', if_neg (List.cons_ne_nil _ _)]
    · rw [split_end c', if_pos rfl]
  rw [hlast] at h
  have hsz := split_size t.size t (Nat.le_refl _)
  have ho := (pown_spec (split t).2 (by omega)).p
  have hc : W.call 72 [.yld 3, .ref 2 0] [boxL [], boxT t, .box [.int t.k, .int t.h, .vec .plain (some 3) (encs t.args)], .loop 31 6 [.ref 1 0, .ref 0 0] .ready none] =
      some (.ret (.tup []), [boxL (split t).1, boxT (split t).2, boxT (split t).2, .loop 31 6 [.ref 1 0, .ref 0 0] .ready none]) := by
    rw [C, e_sign_pis_1__b]
    have h' : W.loop 72 0 [V.ref 2 0, V.yld 3] [boxL [], boxT t, Res.box [V.int t.k, V.int t.h, V.vec .plain (some 3) (encs t.args)], .loop 31 6 [.ref 1 0, .ref 0 0] .ready none] = _ := h
    rw [h', obind_some', onEx_exit]
    rfl
  rw [C]
  conv => lhs; rw [enc_eta]
  have hpis : W.call 57 [V.agg [V.int t.k, V.int t.h, V.vec .plain (some 3) (encs t.args)]] [Res.box [V.vec Mode.full (some 3) []], Res.box [V.int t.k, V.int t.h, V.vec .plain (some 3) (encs t.args)]] =
      some (.ret (V.fn 72 [] [V.ref 2 0]), [Res.box [V.vec Mode.full (some 3) []], Res.box [V.int t.k, V.int t.h, V.vec .plain (some 3) (encs t.args)], Res.box [V.int t.k, V.int t.h, V.vec .plain (some 3) (encs t.args)]]) := by
    rw [C, e_sign_pis__b]; rfl
  rw [e_sign_Split, hpis, obind_some', onRet_ret, onFn_fn]
  have hc' : W.call 72 ([] ++ [V.yld (List.length [Res.box [V.vec Mode.full (some 3) []], Res.box [V.int t.k, V.int t.h, V.vec .plain (some 3) (encs t.args)], Res.box [V.int t.k, V.int t.h, V.vec .plain (some 3) (encs t.args)]])] ++ [V.ref 2 0])
      ([Res.box [V.vec Mode.full (some 3) []], Res.box [V.int t.k, V.int t.h, V.vec .plain (some 3) (encs t.args)], Res.box [V.int t.k, V.int t.h, V.vec .plain (some 3) (encs t.args)]] ++ [Res.loop 31 6 [V.ref 1 0, V.ref 0 0] LSt.ready none]) = _ := hc
  rw [hc', obind_some', onRet_ret]
  have hget3 : ∀ {R : Type} (K : Res → Option R), getR [boxL (split t).1, boxT (split t).2, boxT (split t).2, Res.loop 31 6 [V.ref 1 0, V.ref 0 0] LSt.ready none] 3 K = K (Res.loop 31 6 [V.ref 1 0, V.ref 0 0] LSt.ready none) := fun K => rfl
  have hget0 : ∀ {R : Type} (K : Res → Option R), getR (List.set [boxL (split t).1, boxT (split t).2, boxT (split t).2, Res.loop 31 6 [V.ref 1 0, V.ref 0 0] LSt.ready none] 3 Res.dead) 0 K = K (boxL (split t).1) := fun K => rfl
  have hget1 : ∀ {R : Type} (K : Res → Option R), getR (List.set [boxL (split t).1, boxT (split t).2, boxT (split t).2, Res.loop 31 6 [V.ref 1 0, V.ref 0 0] LSt.ready none] 3 Res.dead) 1 K = K (boxT (split t).2) := fun K => rfl
  have h3 : List.length [Res.box [V.vec Mode.full (some 3) []], Res.box [V.int t.k, V.int t.h, V.vec .plain (some 3) (encs t.args)], Res.box [V.int t.k, V.int t.h, V.vec .plain (some 3) (encs t.args)]] = 3 := rfl
  simp only [h3]
  rw [hget3, onLoop_loop, onPend_ready, hget0]
  unfold boxL
  rw [onBox_box]
  have hcl : cleanV (AM.partOf [if (split t).1 = [] then V.vec .full (some 3) [] else V.vec .grow (some 3) (encs (split t).1)] 0 none) = .vec .plain (some 3) (encs (split t).1) := by
    by_cases c : (split t).1 = []
    · rw [c]; rfl
    · rw [if_neg c]; rfl
  rw [hcl, onVec_plain]
  have hget1' := @hget1
  unfold boxL at hget1'
  rw [hget1']
  unfold boxT
  rw [onBox_box]
  have hparts : List.map plain1 (List.take 3 (List.drop 0 [V.int (split t).2.k, V.int (split t).2.h, V.vec .plain (some 3) (encs (split t).2.args)])) = [V.int (split t).2.k, V.int (split t).2.h, V.vec .plain (some 3) (encs (split t).2.args)] := rfl
  rw [hparts, onCells3, ← enc_eta, ho, obind_some', onStruct_enc, ← enc_eta]
  simp only [List.length_cons, List.length_nil, Nat.zero_add, Nat.reduceAdd, Nat.le_refl, decide_true, Bool.and_self, gd_true, below, belowL, below_encs, below_enc, belowSt]
end Go.Proofs.GT

namespace Go.Proofs.GT
open Go Go.AM
set_option maxRecDepth 20000

theorem e_slices_ContainsFunc_api_Term_api_Term__r (O : Oracle) (m : Nat) (g1 : Nat) (l2 l3 zs : List V) : callBody Try.prog cfg O 32 [.row (some 3) 0 0 m, .fn g1 l2 l3] [.row (some 3) zs] =
  obind (O.call 58 [V.row (some 3) 0 0 m, V.fn g1 l2 l3] [Res.row (some 3) zs]) fun r1 => onRet r1.fst (fun v2 => onInt v2 fun n3 => gcE [Res.row
  (some 3) zs].length (V.bool (decide (n3 ≥ 0))) r1.snd) fun p4 => none := by kernel_rfl

theorem e_slices_IndexFunc_api_Term_api_Term__r (O : Oracle) (m : Nat) (g1 : Nat) (l2 l3 zs : List V) : callBody Try.prog cfg O 58 [.row (some 3) 0 0 m, .fn g1 l2 l3] [.row (some 3) zs] =
  obind (O.loop 58 2 [V.int 0, V.row (some 3) 0 0 m, V.fn g1 l2 l3, V.int (↑m : Int)] [Res.row (some 3) zs]) fun r1 => onEx r1.fst none (onCons
  r1.snd.fst fun v2 c3 => onInt v2 fun n4 => onNil c3 (gcE [Res.row (some 3) zs].length (V.int n4) r1.snd.snd)) (fun i5 => bc (i5.beq 0) (onNil r1.snd.fst (gcE [Res.row (some 3)
  zs].length (V.int (-1)) r1.snd.snd)) none) fun v6 => none := by kernel_rfl

theorem e_slices_IndexFunc_api_Term_api_Term_L2__r (O : Oracle) (n0 : Int) (m : Nat) (g2 : Nat) (l3 l4 zs : List V) (n5 : Int) : loopBody Try.prog cfg O 58 2 [.int n0, .row (some 3) 0 0 m, .fn g2 l3 l4, .int n5] [.row (some 3) zs] =
  bc (decide (n0 < n5)) (gd (decide (0 ≤ n0) && decide (n0 < (↑m : Int))) (gd (true && decide (0 + n0.toNat < zs.length)) (onStruct [CT.int, CT.int, CT.slice (some 3)] (zs.getD (0 +
  n0.toNat) V.undef) fun n1 n2 l3_1 => bc (cfg.pure g2) (obind (pcall O g2 (l3 ++ [V.agg [V.int n1, V.int n2, V.vec .plain (some 3) l3_1]] ++ l4)) fun r4 => onBool r4 fun b5 => bc
  b5 (some (Ex.ret, [V.int n0], [Res.row (some 3) zs])) (O.2 58 2 [V.int (IntKind.i64.wrap (n0 + 1)), V.row (some 3) 0 0 m, V.fn g2 l3 l4, V.int
  n5] [Res.row (some 3) zs])) (obind (O.call g2 (l3 ++ [V.agg [V.int n1, V.int n2, V.vec .plain (some 3) l3_1]] ++ l4) [Res.row (some 3) zs]) fun r6 => onRet r6.fst (fun v7 =>
  onBool v7 fun b8 => bc b8 (some (Ex.ret, [V.int n0], r6.snd)) (O.2 58 2 [V.int (IntKind.i64.wrap (n0 + 1)), V.row (some 3) 0 0 m, V.fn g2 l3 l4,
  V.int n5] r6.snd)) fun p9 => none)))) (some (Ex.exit 0, [], [Res.row (some 3) zs])) := by kernel_rfl

end Go.Proofs.GT

/-! general.General. -/
namespace Go.Proofs.GT
open Go Go.AM Go.Ama

theorem psubst_spec (n : Nat) (hn : n ≤ 200) : Ev 33 [.int n] (.agg [.vec .plain (some 3) (encs (vars n)), .int n]) := by
  have hl := count_loop (n := n) (L := fun j => W.loop 33 4 [.int (j : Nat), .loc true (some 2) (.agg [.vec .grow (some 3) (encs ((vars n).take j)), .int n]), .int n, .loc true (some 2) (.agg [.vec .full (some 3) [], .int 0]), .int n] [])
    (r := some (.exit 0, [.loc true (some 2) (.agg [.vec .full (some 3) [], .int 0]), .loc true (some 2) (.agg [.vec .grow (some 3) (encs (vars n)), .int n])], []))
    (fun j hj => by
      have hjl : j < (vars n).length := by rw [vars_length]; exact hj
      have hr : roomFor Try.prog 25 (j + 1) = true := room24 (by omega)
      have hge : decide (((j : Nat) : Int) < n) = true := by simp; omega
      have hmin : min j n = j := by omega
      show W.loop _ _ _ _ = _
      rw [L, e_subst_Same_L4, hge, bc_true]
      simp only [encs_length, List.length_take, vars_length, hmin, List.length_singleton, hr, Bool.and_self, gd_true]
      rw [encs_take_succ hjl, vars_get hjl, wrap_id (n := (n : Int) - 1) ⟨by omega, by omega⟩, wrap_id ⟨by omega, by omega⟩, wrap_id ⟨by omega, by omega⟩, ← enc_var]
      rfl)
    (by
      have hge : decide (((n : Nat) : Int) < n) = false := by simp
      show W.loop _ _ _ _ = _
      rw [L, e_subst_Same_L4, hge, bc_false, List.take_of_length_le (by rw [vars_length]; exact Nat.le_refl _)])
  have hl' : W.loop 33 4 [.int 0, .loc true (some 2) (.agg [.vec .grow (some 3) [], .int n]), .int n, .loc true (some 2) (.agg [.vec .full (some 3) [], .int 0]), .int n] [] =
    some (.exit 0, [.loc true (some 2) (.agg [.vec .full (some 3) [], .int 0]), .loc true (some 2) (.agg [.vec .grow (some 3) (encs (vars n)), .int n])], []) := hl
  have h1 : (if 200 < if 0 > (n : Int) then 0 else (n : Int) then 200 else if 0 > (n : Int) then 0 else (n : Int)) = n := by
    have : ¬ (0 > (n : Int)) := by omega
    simp only [this, if_false]
    rw [if_neg (by omega)]
  unfold Ev
  rw [C, e_subst_Same, h1, hl', obind_some', onEx_exit]
  simp only [onCons_cons, onLoc_loc, onNil_nil, onRoom_grow, onInt_int, show onAgg (V.agg [V.vec Mode.grow (some 3) (encs (vars n)), V.int ↑n]) = fun K => K [V.vec Mode.grow (some 3) (encs (vars n)), V.int ↑n] from rfl, below, belowL, below_encs, belowSt, Bool.and_self, gd_true]
  rfl

theorem pure_gen1 : cfg.pure 28 = true := by kernel_rfl
theorem pure_gen2 : cfg.pure 30 = true := by kernel_rfl
theorem odd_spec (t : T) (hs : t.size ≤ 1099511627776) : Ev 28 [enc t] (.bool (!may t)) := by
  have h := (pmay_spec t hs).p
  unfold Ev
  rw [C, enc_eta t, e_general_General_1, ← enc_eta, h]
  simp
theorem strange_spec (t : T) : Ev 30 [enc t] (.bool (!decide (t.k = 2))) := by
  unfold Ev
  rw [C, enc_eta t, e_general_General_2]
  have : (t.k != 2) = !decide (t.k = 2) := by by_cases h : t.k = 2 <;> simp [h]
  rw [this]
theorem cfuncO_spec (xs : List T) (x : Res) (hs : sizes xs ≤ 1099511627776) : W.call 32 [.vec .plain (some 3) (encs xs), .fn 28 [] []] [x] = some (.ret (.bool (xs.any fun t => !may t)), [x]) := by
  have hlen := length_le_sizes xs
  exact contains_spec pure_gen1 xs (by omega) (fun t ht => (odd_spec t (by have := size_le ht; omega)).p) [x]
theorem cfuncS_spec (xs : List T) (hs : xs.length ≤ 1099511627776) : W.call 32 [.row (some 3) 0 0 xs.length, .fn 30 [] []] [.row (some 3) (encs xs)] = some (.ret (.bool (xs.any fun t => !decide (t.k = 2))), [.row (some 3) (encs xs)]) := by
  have hl := any_loop (L := fun i => W.loop 58 2 [.int i, .row (some 3) 0 0 xs.length, .fn 30 [] [], .int xs.length] [.row (some 3) (encs xs)]) (xs := xs) (g := fun t => !decide (t.k = 2)) (e0 := (Ex.exit 0, [], [.row (some 3) (encs xs)])) (e1 := fun i => (Ex.ret, [V.int i], [.row (some 3) (encs xs)]))
    (fun i hi => by
      have hp := (strange_spec xs[i]).p
      have hlt : decide ((i : Int) < xs.length) = true := by simp; omega
      have h0 : decide ((0 : Int) ≤ i) = true := by simp
      have hget : (encs xs).getD (0 + (i : Int).toNat) V.undef = enc xs[i] := by have := getI_encs hi; simpa [getI] using this
      have hlt2 : decide (0 + (i : Int).toNat < (encs xs).length) = true := by simp; omega
      show W.loop _ _ _ _ = _
      rw [L, e_slices_IndexFunc_api_Term_api_Term_L2__r]
      simp only [hlt, h0, hlt2, hget, bc_true, gd_true, Bool.and_self, onStruct_enc, ← enc_eta, pure_gen2, List.nil_append, List.append_nil, hp, obind_some', onBool_bool]
      rw [wrap_id ⟨by omega, by omega⟩]
      cases decide (xs[i].k = 2) <;> rfl)
    (by
      have hlt : decide (((xs.length : Nat) : Int) < xs.length) = false := by simp
      show W.loop _ _ _ _ = _
      rw [L, e_slices_IndexFunc_api_Term_api_Term_L2__r, hlt]; rfl)
  rw [C, e_slices_ContainsFunc_api_Term_api_Term__r, C, e_slices_IndexFunc_api_Term_api_Term__r]
  rcases hl with ⟨h1, h2⟩ | ⟨h1, i, h2⟩
  · have h2' : W.loop 58 2 [.int 0, .row (some 3) 0 0 xs.length, .fn 30 [] [], .int xs.length] [.row (some 3) (encs xs)] = some (Ex.exit 0, [], [.row (some 3) (encs xs)]) := h2
    rw [h2', h1]; rfl
  · have h2' : W.loop 58 2 [.int 0, .row (some 3) 0 0 xs.length, .fn 30 [] [], .int xs.length] [.row (some 3) (encs xs)] = some (Ex.ret, [V.int i], [.row (some 3) (encs xs)]) := h2
    rw [h2', h1]
    simp

/-- The loop that wraps a term. -/
theorem genL1_spec (m N : Nat) (hN : N ≤ 1099511627776) (ws vs : List V) (last t : T) (st : Res) :
    W.loop 10 12 [.int 0, .loc false (some 3) (enc t), .row (some 3) 0 0 m, .loc true (some 5) (.agg ws), .loc true (some 3) (.agg vs), .loc false (some 3) (enc last), .int N] [st] =
      some (.exit 1, [.row (some 3) 0 0 m, .loc true (some 5) (.agg ws), .loc true (some 3) (.agg vs), .loc false (some 3) (enc (lamN N t)), .loc false (some 3) (enc last)], [st]) := by
  have hl := count_loop (n := N) (L := fun j => W.loop 10 12 [.int (j : Nat), .loc false (some 3) (enc (lamN j t)), .row (some 3) 0 0 m, .loc true (some 5) (.agg ws), .loc true (some 3) (.agg vs), .loc false (some 3) (enc last), .int N] [st])
    (r := some (.exit 1, [.row (some 3) 0 0 m, .loc true (some 5) (.agg ws), .loc true (some 3) (.agg vs), .loc false (some 3) (enc (lamN N t)), .loc false (some 3) (enc last)], [st]))
    (fun j hj => by
      have hlt : decide (((j : Nat) : Int) < N) = true := by simp; omega
      show W.loop _ _ _ _ = _
      rw [L]
      conv => lhs; rw [enc_eta (lamN j t), enc_eta last]
      rw [e_general_General_L12, hlt, bc_true, wrap_id ⟨by omega, by omega⟩, ← enc_eta, ← enc_eta, lamN_succ]
      rfl)
    (by
      have hlt : decide (((N : Nat) : Int) < N) = false := by simp
      show W.loop _ _ _ _ = _
      rw [L]
      conv => lhs; rw [enc_eta (lamN N t), enc_eta last]
      rw [e_general_General_L12, hlt, bc_false, ← enc_eta, ← enc_eta])
  exact hl

/-- The loop that copies the entries. -/
theorem genL2_spec (zs : List T) (hz : sizes zs ≤ 1099511627776) (t last : T) :
    W.loop 10 16 [.int 0, .row (some 3) 0 0 zs.length, .loc true (some 5) (.agg [.vec .full (some 3) [], .int 0, .int 0, .vec .full (some 3) [], .bool false]), .loc true (some 3) (.agg [.int 0, .int 0, .vec .full (some 3) []]), .loc false (some 3) (enc t), .loc false (some 3) (enc last), .int zs.length] [.row (some 3) (encs zs)] =
      some (.exit 3, [.loc true (some 5) (.agg [.vec .full (some 3) [], .int 0, .int 0, .vec .full (some 3) [], .bool false]), .loc true (some 3) (.agg [.int 0, .int 0, .vec .full (some 3) []]), .loc false (some 3) (enc t), .loc false (some 3) (enc last), .row (some 3) 0 0 zs.length], [.row (some 3) (encs zs)]) := by
  have hlen := length_le_sizes zs
  have hl := count_loop (n := zs.length) (L := fun j => W.loop 10 16 [.int (j : Nat), .row (some 3) 0 0 zs.length, .loc true (some 5) (.agg [.vec .full (some 3) [], .int 0, .int 0, .vec .full (some 3) [], .bool false]), .loc true (some 3) (.agg [.int 0, .int 0, .vec .full (some 3) []]), .loc false (some 3) (enc t), .loc false (some 3) (enc last), .int zs.length] [.row (some 3) (encs zs)])
    (r := some (.exit 3, [.loc true (some 5) (.agg [.vec .full (some 3) [], .int 0, .int 0, .vec .full (some 3) [], .bool false]), .loc true (some 3) (.agg [.int 0, .int 0, .vec .full (some 3) []]), .loc false (some 3) (enc t), .loc false (some 3) (enc last), .row (some 3) 0 0 zs.length], [.row (some 3) (encs zs)]))
    (fun j hj => by
      have hp := (pown_spec zs[j] (by have := size_le (List.getElem_mem hj); omega)).p
      have hlt : decide (((j : Nat) : Int) < zs.length) = true := by simp; omega
      have h0 : decide ((0 : Int) ≤ j) = true := by simp
      have hget : (encs zs).getD (0 + (j : Int).toNat) V.undef = enc zs[j] := by have := getI_encs hj; simpa [getI] using this
      have hlt2 : decide (0 + (j : Int).toNat < (encs zs).length) = true := by simp; omega
      have hset : (encs zs).set (0 + (j : Int).toNat) (enc zs[j]) = encs zs := by
        rw [Nat.zero_add, Int.toNat_natCast, encs_map]
        apply List.ext_getElem
        · simp
        · intro k h1 h2
          rw [List.getElem_set]
          split
          · rename_i e; subst e; simp
          · rfl
      show W.loop _ _ _ _ = _
      rw [L]
      conv => lhs; rw [enc_eta t, enc_eta last]
      rw [e_general_General_L16, hlt, bc_true]
      simp only [h0, hlt2, hget, Bool.and_self, gd_true, onStruct_enc, ← enc_eta, hp, obind_some', isGrow, Bool.not_false, Bool.true_and]
      have hg : (!isGrow (enc zs[j])) = true := by rw [enc_eta]; rfl
      simp only [hg, hset, gd_true]
      rw [wrap_id ⟨by omega, by omega⟩]
      rfl)
    (by
      have hlt : decide (((zs.length : Nat) : Int) < zs.length) = false := by simp
      show W.loop _ _ _ _ = _
      rw [L]
      conv => lhs; rw [enc_eta t, enc_eta last]
      rw [e_general_General_L16, hlt, bc_false, ← enc_eta, ← enc_eta])
  exact hl

theorem pgeneral_spec (ctx : List T) (a : T) (n : Int) (hc : sizes ctx + a.size ≤ 1099511627776) : Ev 10 [.vec .plain (some 3) (encs ctx), enc a, .int n] (encG (general ctx a n)) := by
  have hlen := length_le_sizes ctx
  have hsz := split_size a.size a (Nat.le_refl _)
  have hlen2 := length_le_sizes (split a).1
  have hsp := (psplit_spec a (by omega)).p (by simp [belowL]) (by simp [below, belowL])
  obtain ⟨N, hN⟩ : ∃ N, N = ctx.length + (split a).1.length := ⟨_, rfl⟩
  have hw : IntKind.i64.wrap ((ctx.length : Int) + ((split a).1.length : Int)) = (N : Int) := by rw [wrap_id ⟨by omega, by omega⟩]; omega
  have hr : roomFor Try.prog 25 N = true := room24 (by omega)
  have hmin : min ctx.length N = ctx.length := by omega
  have hmin2 : min (split a).1.length (N - ctx.length) = (split a).1.length := by omega
  have hrow : List.take (0 + ctx.length) ([] ++ List.take ctx.length (encs ctx) ++ List.drop (0 + ctx.length) (List.replicate N (V.agg [V.int 0, V.int 0, V.vec .plain (some 3) []]))) ++
      List.take (split a).1.length (encs (split a).1) ++ List.drop (0 + ctx.length + (split a).1.length) ([] ++ List.take ctx.length (encs ctx) ++ List.drop (0 + ctx.length) (List.replicate N (V.agg [V.int 0, V.int 0, V.vec .plain (some 3) []]))) = encs (ctx ++ (split a).1) := by
    have e1 : List.take ctx.length (encs ctx) = encs ctx := List.take_of_length_le (by simp)
    have e2 : List.take (split a).1.length (encs (split a).1) = encs (split a).1 := List.take_of_length_le (by simp)
    rw [e1, e2, List.nil_append, Nat.zero_add, List.take_append_of_le_length (by simp), List.take_of_length_le (by simp), encs_append]
    have : List.drop (ctx.length + (split a).1.length) (encs ctx ++ List.drop ctx.length (List.replicate N (V.agg [V.int 0, V.int 0, V.vec .plain (some 3) []]))) = [] := by
      apply List.drop_eq_nil_of_le
      simp
      omega
    rw [this, List.append_nil]
  unfold Ev
  rw [C]
  conv => lhs; rw [enc_eta a]
  rw [e_general_General, ← enc_eta, hsp, obind_some', onTup_tup, onCons_cons, onVec_plain, onCons_cons, onStruct_enc, onNil_nil]
  simp only [encs_length, hw, Int.toNat_natCast, hmin, hmin2, hrow, hr, List.length_replicate]
  have c1 : (decide ((0 : Int) ≤ (N : Int)) && decide True && true && true && true) = true := by simp
  have c2 : (true && decide (0 + N ≤ N)) = true := by simp
  have c3 : (decide ((0 : Int) ≤ (ctx.length : Int)) && decide ((ctx.length : Int) ≤ (N : Int)) && decide ((N : Int) ≤ (N : Int)) && true) = true := by simp; omega
  rw [c1, gd_true, c2, gd_true, c3, gd_true]
  have c4 : (true && decide (0 + ctx.length + (N - ctx.length) ≤ ([] ++ List.take ctx.length (encs ctx) ++ List.drop (0 + ctx.length) (List.replicate N (V.agg [V.int 0, V.int 0, V.vec .plain (some 3) []]))).length)) = true := by
    simp
  rw [c4, gd_true, (odd_spec a (by omega)).p, obind_some', onBool_bool]
  cases hma : may a with
  | false => simp only [general, hma]; rfl
  | true =>
    simp only [Bool.not_true, bc_false]
    rw [cfuncO_spec ctx _ (by omega), obind_some', onRet_ret, onBool_bool]
    cases hmc : ctx.any (fun t => !may t) with
    | true => simp only [general, hma, hmc]; rfl
    | false =>
      simp only [bc_false]
      by_cases hn : n < 0
      · simp only [general, hma, hmc, hn, decide_true]; rfl
      · have hn' : decide (n < 0) = false := by simp; omega
        rw [hn', bc_false]
        by_cases h40 : 40 < ctx.length + (split a).1.length
        · have : decide ((N : Int) > 40) = true := by simp; omega
          rw [this]
          simp only [general, hma, hmc, hn', h40, decide_true]; rfl
        · have h1 : decide ((N : Int) > 40) = false := by simp; omega
          have h2 : decide (40 < ctx.length + (split a).1.length) = false := by simp; omega
          rw [h1, bc_false]
          have hNl : N = (ctx ++ (split a).1).length := by rw [List.length_append]; exact hN
          have hcs := cfuncS_spec (ctx ++ (split a).1) (by rw [← hNl]; omega)
          rw [← hNl] at hcs
          rw [hcs, obind_some', onRet_ret, onBool_bool]
          cases hany : (ctx ++ (split a).1).any (fun t => !decide (t.k = 2)) with
          | true => simp only [general, hma, hmc, hn', h2, hany]; rfl
          | false =>
            simp only [bc_false, ← enc_eta]
            rw [(strange_spec (split a).2).p, obind_some', onBool_bool]
            by_cases hl2 : (split a).2.k = 2
            · simp only [hl2, decide_true, Bool.not_true, bc_false]
              rw [(psubst_spec N (by omega)).p (by simp [belowL, below]) (by simp [below, belowL]), obind_some']
              have hst : ∀ (K : List V → Int → Option (Out × St)), onStruct (R := Out × St) [CT.slice (some 3), CT.int] (.agg [.vec .plain (some 3) (encs (vars N)), .int N]) K = K (encs (vars N)) N := fun K => rfl
              rw [hst]
              have hL1 := genL1_spec N (split a).1.length (by omega) [V.vec Mode.full (some 3) [], V.int 0, V.int 0, V.vec Mode.full (some 3) [], V.bool false] [V.int 0, V.int 0, V.vec Mode.full (some 3) []] (split a).2 (.mk 6 n (vars N)) (.row (some 3) (encs (ctx ++ (split a).1)))
              rw [show enc (T.mk 6 n (vars N)) = .agg [.int 6, .int n, .vec .plain (some 3) (encs (vars N))] from rfl] at hL1
              rw [hL1, obind_some', onEx_exit]
              simp only [show Nat.beq 1 1 = true from rfl, bc_true, onCons_cons, onLoc_loc, onNil_nil, cond_false, onStruct_enc, ← enc_eta]
              have hrv : ∀ (K : Nat → Nat → Nat → Option (Out × St)), onRowV (some 3) (V.row (some 3) 0 0 N) K = K 0 0 N := fun K => rfl
              rw [hrv]
              have hL2 := genL2_spec (ctx ++ (split a).1) (by rw [sizes_append]; omega) (lamN (split a).1.length (.mk 6 n (vars N))) (split a).2
              rw [← hNl] at hL2
              rw [hL2, obind_some', onEx_exit]
              simp only [show Nat.beq 3 3 = true from rfl, bc_true, onCons_cons, onLoc_loc, onNil_nil, cond_false, onStruct_enc, ← enc_eta]
              rw [hrv]
              have hgr : ∀ (K : Res → Option (Out × St)), getR [Res.row (some 3) (encs (ctx ++ (split a).1))] 0 K = K (Res.row (some 3) (encs (ctx ++ (split a).1))) := fun K => rfl
              rw [hgr]
              have hor : ∀ (K : Sh → List V → Option (Out × St)), onRow (Res.row (some 3) (encs (ctx ++ (split a).1))) K = K (some 3) (encs (ctx ++ (split a).1)) := fun K => rfl
              rw [hor]
              have htk : List.take N (List.drop 0 (encs (ctx ++ (split a).1))) = encs (ctx ++ (split a).1) := by rw [List.drop_zero]; exact List.take_of_length_le (by rw [encs_length, ← hNl]; exact Nat.le_refl _)
              have hd : decide (0 + N ≤ (encs (ctx ++ (split a).1)).length) = true := by rw [encs_length, ← hNl]; simp
              simp only [htk, hd, decide_true, Bool.and_self, gd_true, below, belowL, below_encs, below_enc, belowSt]
              simp only [general, hma, hmc, hn', h2, hany, hl2, decide_true, Bool.not_true, Bool.or_self, Bool.false_eq_true, if_false]
              simp only [encG, encMD, ← hN, hl2]
            · simp only [general, hma, hmc, hn', h2, hany, hl2, decide_false]; rfl
end Go.Proofs.GT

namespace Go.Proofs.GT
open Go Go.AM
set_option maxRecDepth 20000

theorem e_law10_Few (O : Oracle) (l0 : (List V)) (l1 : (List V)) (l2 : (List V)) : callBody Try.prog cfg O 5 [.vec .plain (some 4) l0, .vec .plain (some 5) l1, .vec .plain (some 3) l2] [] =
  obind (pcall O 14 [V.vec .plain (some 4) l0]) fun r1 => onBool r1 fun b2 => bc (!b2) (some (Out.ret (V.bool false), [])) (bc (decide ((↑l1.length : Int) > 30)) (some
  (Out.ret (V.bool false), [])) (obind (O.loop 5 5 [V.int 0, V.vec .plain (some 5) l1, V.vec .plain (some 3) l2] []) fun r3 => onEx r3.fst none (onCons r3.snd.fst fun v4
  c5 => onBool v4 fun b6 => onNil c5 (some (Out.ret (V.bool b6), []))) (fun i7 => bc (i7.beq 0) (onCons r3.snd.fst fun v8 c9 => onVec (some 3) v8 fun l10 => onNil c9 (obind (pcall O
  15 [V.vec .plain (some 3) l10, V.int 500, V.int 80]) fun r11 => onBool r11 fun b12 => some (Out.ret (V.bool b12), []))) none) fun v13 => none)) := by kernel_rfl

theorem e_law10_Few_L5 (O : Oracle) (n0 : Int) (l1 : (List V)) (l2 : (List V)) : loopBody Try.prog cfg O 5 5 [.int n0, .vec .plain (some 5) l1, .vec .plain (some 3) l2] [] =
  bc (decide (n0 < (↑l1.length : Int))) (gd (decide (0 ≤ n0) && decide (n0 < (↑l1.length : Int))) (onAgg (getI l1 n0) fun c1 => gd (decide (1 ≤ c1.length)) (onVec (some 3)
  (AM.partOf c1 0 none) fun l2_1 => obind (pcall O 15 [V.vec .plain (some 3) l2_1, V.int 500, V.int 80]) fun r3 => onBool r3 fun b4 => gd (decide (0 ≤ n0) && decide (n0
  < (↑l1.length : Int))) (onAgg (getI l1 n0) fun c5 => gd (decide (4 ≤ c5.length)) (onCells [CT.int, CT.int, CT.slice (some 3)] (List.take 3 (List.drop 1 c5)) fun n6 n7 l8 => obind
  (pcall O 6 [V.agg [V.int n6, V.int n7, V.vec .plain (some 3) l8], V.int 500, V.int 80]) fun r9 => onBool r9 fun b10 => bc (!b4) (some (Ex.ret, [V.bool false], [])) (bc
  (!b10) (some (Ex.ret, [V.bool false], [])) (O.2 5 5 [V.int (IntKind.i64.wrap (n0 + 1)), V.vec .plain (some 5) l1, V.vec .plain (some 3) l2] []))))))) (some (Ex.exit 0,
  [V.vec .plain (some 3) l2], [])) := by kernel_rfl

theorem e_ref01_Lights (O : Oracle) (l0 : (List V)) (n1 : Int) (n2 : Int) : callBody Try.prog cfg O 15 [.vec .plain (some 3) l0, .int n1, .int n2] [] =
  bc (decide ((↑l0.length : Int) > 60)) (some (Out.ret (V.bool false), [])) (obind (O.loop 15 4 [V.int 0, V.int n2, V.int n1, V.vec .plain (some 3) l0] []) fun r1 =>
  onEx r1.fst none (onCons r1.snd.fst fun v2 c3 => onBool v2 fun b4 => onNil c3 (some (Out.ret (V.bool b4), []))) (fun i5 => bc (i5.beq 0) (onNil r1.snd.fst (some (Out.ret (V.bool
  true), []))) none) fun v6 => none) := by kernel_rfl

theorem e_ref01_Lights_L4 (O : Oracle) (n0 : Int) (n1 : Int) (n2 : Int) (l3 : (List V)) : loopBody Try.prog cfg O 15 4 [.int n0, .int n1, .int n2, .vec .plain (some 3) l3] [] =
  bc (decide (n0 < (↑l3.length : Int))) (gd (decide (0 ≤ n0) && decide (n0 < (↑l3.length : Int))) (onStruct [CT.int, CT.int, CT.slice (some 3)] (getI l3 n0) fun n1_1 n2_1 l3_1 =>
  obind (pcall O 6 [V.agg [V.int n1_1, V.int n2_1, V.vec .plain (some 3) l3_1], V.int n2, V.int n1]) fun r4 => onBool r4 fun b5 => bc (!b5) (some (Ex.ret, [V.bool
  false], [])) (O.2 15 4 [V.int (IntKind.i64.wrap (n0 + 1)), V.int n1, V.int n2, V.vec .plain (some 3) l3] []))) (some (Ex.exit 0, [], [])) := by kernel_rfl

end Go.Proofs.GT

/-! What is light. -/
namespace Go.Proofs.GT
open Go Go.AM Go.Ama

theorem not_gt_dec (n k : Nat) : decide ((n : Int) > (k : Int)) = !decide (n ≤ k) := by
  by_cases h : n ≤ k <;> simp [h] <;> omega

theorem lights_spec (l : List T) (n m : Int) (hs : sizes l ≤ 1099511627776) : Ev 15 [.vec .plain (some 3) (encs l), .int n, .int m] (.bool (lights n m l)) := by
  have hlen := length_le_sizes l
  have hl := all_loop' (L := fun i => W.loop 15 4 [.int i, .int m, .int n, .vec .plain (some 3) (encs l)] []) (xs := l) (g := light n m) (e0 := (Ex.exit 0, [], [])) (e1 := (Ex.ret, [V.bool false], []))
    (fun i hi => by
      have hp := (light_spec l[i] n m (by have := size_le (List.getElem_mem hi); omega)).p
      have hlt : decide ((i : Int) < l.length) = true := by simp; omega
      show W.loop _ _ _ _ = _
      rw [L, e_ref01_Lights_L4, encs_length, getI_encs hi, wrap_id ⟨by omega, by omega⟩]
      simp only [hlt, Int.natCast_nonneg, decide_true, bc_true, Bool.and_self, gd_true, onStruct_enc, ← enc_eta, hp, obind_some', onBool_bool]
      cases light n m l[i] <;> rfl)
    (by
      show W.loop _ _ _ _ = _
      rw [L, e_ref01_Lights_L4, encs_length]
      simp)
  unfold Ev lights
  have e60 := not_gt_dec l.length 60
  have hl' : W.loop 15 4 [.int 0, .int m, .int n, .vec .plain (some 3) (encs l)] [] = _ := hl
  rw [C, e_ref01_Lights, encs_length, hl']
  have e60' : decide ((l.length : Int) > 60) = !decide (l.length ≤ 60) := e60
  rw [e60']
  cases decide (l.length ≤ 60) <;> cases l.all (light n m) <;> rfl

theorem few9_spec (l : List D) (hb : bulkL (encDs l) ≤ 4398046511104) : Ev 14 [.vec .plain (some 4) (encDs l)] (.bool (few9 l)) := by
  have hlen := bulk_len (encDs l)
  rw [encDs_length] at hlen
  have hl := all_loop' (L := fun i => W.loop 14 4 [.int i, .vec .plain (some 4) (encDs l)] []) (xs := l) (g := fun d => light 1000 80 d.t) (e0 := (Ex.exit 0, [], [])) (e1 := (Ex.ret, [V.bool false], []))
    (fun i hi => by
      have hp := (light_spec l[i].t 1000 80 (by have := bulk_Ds (List.getElem_mem hi); omega)).p
      have hlt : decide ((i : Int) < l.length) = true := by simp; omega
      show W.loop _ _ _ _ = _
      rw [L, e_law09_Few_L4, encDs_length, getI_encDs hi, wrap_id ⟨by omega, by omega⟩]
      simp only [hlt, Int.natCast_nonneg, decide_true, bc_true, Bool.and_self, gd_true, onDt, ← enc_eta, hp, obind_some', onBool_bool]
      cases light 1000 80 l[i].t <;> rfl)
    (by
      show W.loop _ _ _ _ = _
      rw [L, e_law09_Few_L4, encDs_length]
      simp)
  unfold Ev few9
  have e30 : decide ((l.length : Int) > 30) = !decide (l.length ≤ 30) := not_gt_dec l.length 30
  have hl' : W.loop 14 4 [.int 0, .vec .plain (some 4) (encDs l)] [] = _ := hl
  rw [C, e_law09_Few, encDs_length, hl', e30]
  cases decide (l.length ≤ 30) <;> cases l.all (fun d => light 1000 80 d.t) <;> rfl

theorem few10_spec (sig : List D) (l : List M) (ctx : List T) (h1 : bulkL (encDs sig) ≤ 4398046511104) (hb : bulkL (encMs l) ≤ 4398046511104) (h3 : sizes ctx ≤ 1099511627776) : Ev 5 [.vec .plain (some 4) (encDs sig), .vec .plain (some 5) (encMs l), .vec .plain (some 3) (encs ctx)] (.bool (few10 sig l ctx)) := by
  have hlen := bulk_len (encMs l)
  rw [encMs_length] at hlen
  have hc := (lights_spec ctx 500 80 h3).p
  have h9 := (few9_spec sig h1).p
  have hl := all_loop' (L := fun i => W.loop 5 5 [.int i, .vec .plain (some 5) (encMs l), .vec .plain (some 3) (encs ctx)] []) (xs := l) (g := fun m => lights 500 80 m.ctx && light 500 80 m.t) (e0 := (Ex.exit 0, [.vec .plain (some 3) (encs ctx)], [])) (e1 := (Ex.ret, [V.bool false], []))
    (fun i hi => by
      have hm := bulk_Ms (List.getElem_mem hi)
      have hp := (light_spec l[i].t 500 80 (by omega)).p
      have hq := (lights_spec l[i].ctx 500 80 (by omega)).p
      have hlt : decide ((i : Int) < l.length) = true := by simp; omega
      show W.loop _ _ _ _ = _
      rw [L, e_law10_Few_L5, encMs_length, getI_encMs hi, wrap_id ⟨by omega, by omega⟩]
      simp only [hlt, Int.natCast_nonneg, decide_true, bc_true, Bool.and_self, gd_true, onMc, onMt, hq, ← enc_eta, hp, obind_some', onBool_bool]
      cases light 500 80 l[i].t <;> cases lights 500 80 l[i].ctx <;> rfl)
    (by
      show W.loop _ _ _ _ = _
      rw [L, e_law10_Few_L5, encMs_length]
      simp)
  unfold Ev few10 fewM
  have e30 : decide ((l.length : Int) > 30) = !decide (l.length ≤ 30) := not_gt_dec l.length 30
  have hl' : W.loop 5 5 [.int 0, .vec .plain (some 5) (encMs l), .vec .plain (some 3) (encs ctx)] [] = _ := hl
  rw [C, e_law10_Few, encMs_length, hl', e30, h9]
  cases decide (l.length ≤ 30) <;> cases l.all (fun m => lights 500 80 m.ctx && light 500 80 m.t) <;> cases few9 sig <;> simp [hc]

end Go.Proofs.GT

/-! What a law is handed: bytes, tokens. -/
namespace Go.Proofs.GT
open Go Go.AM Go.Ama
set_option maxRecDepth 20000

theorem dec_int {n : Nat} {cs : List V} (h : WT Try.prog n 3 cs) : ∃ z : Int, cs = [.int z] ∧ I64 z := by
  cases n with
  | zero => exact h.elim
  | succ n =>
    simp only [WT, Try.underlying3] at h
    obtain ⟨z, h1, h2⟩ := h
    refine ⟨z, h1, ?_⟩
    simpa [Lit.wf, IntKind.min, IntKind.max, IntKind.signed, IntKind.bits, I64] using h2
theorem dec_byte {n : Nat} {cs : List V} (h : WT Try.prog n 5 cs) : ∃ c : UInt8, cs = [.ik .u8 (c.toNat : Int)] := by
  cases n with
  | zero => exact h.elim
  | succ n =>
    simp only [WT, Try.underlying5] at h
    obtain ⟨z, h1, h2⟩ := h
    have h3 : 0 ≤ z ∧ z ≤ 255 := by simpa [Lit.wf, IntKind.min, IntKind.max, IntKind.signed, IntKind.bits] using h2
    refine ⟨UInt8.ofNat z.toNat, ?_⟩
    rw [h1]
    have : ((UInt8.ofNat z.toNat).toNat : Int) = z := by
      rw [UInt8.toNat_ofNat']
      omega
    rw [this]
theorem dec_string {n : Nat} {cs : List V} (h : WT Try.prog n 9 cs) : ∃ s : Bytes, cs = [.str (ba s)] := by
  cases n with
  | zero => exact h.elim
  | succ n =>
    simp only [WT, Try.underlying9] at h
    obtain ⟨s, h1, h2⟩ := h
    exact ⟨s.data.toList, by rw [ba_data]; exact h1⟩

theorem shByte : shOf Try.prog 5 = none := by kernel_rfl
theorem shInt : shOf Try.prog 3 = none := by kernel_rfl
theorem cellsInt : Try.prog.cellsOf 3 = 1 := by kernel_rfl
theorem cellsString : Try.prog.cellsOf 9 = 1 := by kernel_rfl

theorem list2 {l : List V} (h : l.length = 2) : ∃ x y, l = [x, y] := by
  match l, h with
  | [x, y], _ => exact ⟨x, y, rfl⟩
theorem one_cell {v : V} (h : Shaped none v) : AM.cellsOf v = [v] := by cases v <;> first | rfl | exact h.elim

theorem dec_num {v : V} (h : (∃ n, WT Try.prog n 3 (AM.cellsOf v)) ∧ Shaped (shOf Try.prog 3) v) : ∃ z, v = .int z ∧ I64 z := by
  obtain ⟨⟨n, h1⟩, h2⟩ := h
  rw [shInt] at h2
  rw [one_cell h2] at h1
  obtain ⟨z, hz, h3⟩ := dec_int h1
  simp only [List.cons.injEq, and_true] at hz
  exact ⟨z, hz, h3⟩
theorem dec_u8 {v : V} (h : (∃ n, WT Try.prog n 5 (AM.cellsOf v)) ∧ Shaped (shOf Try.prog 5) v) : ∃ c : UInt8, v = .ik .u8 (c.toNat : Int) := by
  obtain ⟨⟨n, h1⟩, h2⟩ := h
  rw [shByte] at h2
  rw [one_cell h2] at h1
  obtain ⟨z, hz⟩ := dec_byte h1
  simp only [List.cons.injEq, and_true] at hz
  exact ⟨z, hz⟩
theorem of_ev {f : Nat} {args : List V} (h : Ev f args (.bool true)) : ∃ m st, (fuelO Try.prog cfg ext m).call f args [] = some (.ret (.bool true), st) := by
  obtain ⟨m, hm⟩ := om_fuel h
  exact ⟨m, [], hm⟩

end Go.Proofs.GT
