import Derived.Test.YtenlhfefnpehcaaGa
import Derived.KernelRfl
import Derived.Test.YtenlhfefnpehcaaAMd
/- The program's functions, each an equation of the abstract machine checked by the kernel, and what they come to as_ plain Lean. -/
set_option linter.unusedVariables false
set_option linter.unusedSimpArgs false
set_option linter.unusedSectionVars false
/-! Terms once more; terms renumbered. -/
namespace Go.Proofs.SP
open Go Go.AM Go.Ama

theorem pown_spec : ∀ t : T, t.size ≤ 1099511627776 → Ev 45 [enc t] (enc t) := by
  intro t
  induction t using T.ind with
  | _ k h xs ih =>
    intro hs
    simp only [T.size] at hs
    have hlen := length_le_sizes xs
    unfold Ev
    rw [C, enc, e_term_Own]
    have hl := count_loop (n := xs.length) (L := fun i => W.loop 45 3 [V.int (i : Nat), V.vec .grow (some 3) (encs (xs.take i)), V.vec .plain (some 3) (encs xs), V.loc true (some 3) (V.agg [V.int 0, V.int 0, V.vec Mode.full (some 3) []]), V.loc false (some 3) (V.agg [V.int k, V.int h, V.vec .plain (some 3) (encs xs)]), V.int xs.length] [])
      (r := some (Ex.exit 0, [V.loc true (some 3) (V.agg [V.int 0, V.int 0, V.vec Mode.full (some 3) []]), V.vec .grow (some 3) (encs xs), V.loc false (some 3) (V.agg [V.int k, V.int h, V.vec .plain (some 3) (encs xs)])], []))
      (fun i hi => by
        have hp := (ih xs[i] (List.getElem_mem hi) (by have := size_le (List.getElem_mem hi); omega)).p
        have hr : roomFor Try.prog 26 (i + 1) = true := room24 (by omega)
        show W.loop _ _ _ _ = _
        rw [L, e_term_Own_L3]
        simp only [encs_length, getI_encs hi, onStruct_enc, ← enc_eta, hp, obind, encs_take_succ hi]
        rw [wrap_id ⟨by omega, by omega⟩]
        have hmin : min i xs.length = i := by omega
        have hlt : decide ((i : Int) < xs.length) = true := by simp; omega
        have h0 : decide ((0 : Int) ≤ i) = true := by simp
        simp only [hlt, h0, bc_true, gd_true, Bool.and_self, onCells_slice', onCells_nil', List.length_singleton, List.length_take, hmin, hr, encs_length, Bool.true_and, Int.natCast_add, Int.natCast_one])
      (by
        have hlt : decide ((xs.length : Int) < xs.length) = false := by simp
        show W.loop _ _ _ _ = _
        rw [L, e_term_Own_L3, hlt, List.take_length]; rfl)
    have hl' : W.loop 45 3 [V.int 0, V.vec .grow (some 3) [], V.vec .plain (some 3) (encs xs), V.loc true (some 3) (V.agg [V.int 0, V.int 0, V.vec Mode.full (some 3) []]), V.loc false (some 3) (V.agg [V.int k, V.int h, V.vec .plain (some 3) (encs xs)]), V.int xs.length] [] = some (Ex.exit 0, [V.loc true (some 3) (V.agg [V.int 0, V.int 0, V.vec Mode.full (some 3) []]), V.vec .grow (some 3) (encs xs), V.loc false (some 3) (V.agg [V.int k, V.int h, V.vec .plain (some 3) (encs xs)])], []) := hl
    simp only [encs_length, hl', obind_some', onEx_exit, onCons_cons, onLoc_loc, onRoom_grow, onNil_nil, cond_false, onStruct_agg, onCells_slice', onCells_int', onCells_nil', below, belowL, belowSt, below_encs, Bool.and_self, gd_true]
    rfl

theorem up_spec (b f h ar : Int) (h1 : I64 (f + ar)) : Ev 61 [.agg [.int b, .int f], .int h, .int ar] (.tup [.int (upV b f ar h), .bool true]) := by
  unfold Ev
  rw [C, e_shift_renumber_up]
  rw [wrap_id h1]
  unfold upV
  by_cases hc : f + ar ≤ h
  · have : decide (h ≥ f + ar) = true := by simpa using hc
    simp [hc, bc_true]
  · have : decide (h ≥ f + ar) = false := by simpa using hc
    simp [hc]

/-- What shift.change is given. -/
abbrev upF (b f : Int) : V := .fn 61 [.agg [.int b, .int f]] []
theorem pure_up : cfg.pure 61 = true := by kernel_rfl
theorem pure_change1 : cfg.pure 74 = false := by kernel_rfl

theorem change_spec (b f : Int) (hf : 0 ≤ f ∧ f ≤ 1048576) : ∀ (t : T) (ar : Int) (st : St), t.size ≤ 1099511627776 → 0 ≤ ar → ar + t.depth ≤ 1099511627776 →
    W.call 60 [enc t, .int ar, upF b f] st = some (.ret (.tup [enc (upT b f ar t), .bool true]), st) := by
  intro t
  induction t using T.ind with
  | _ k h xs ih =>
    intro ar st hs h0 hd
    simp only [T.size, T.depth] at hs hd
    have hlen := length_le_sizes xs
    have hdep : ∀ x ∈ xs, x.depth ≤ depths xs := fun x hx => depth_le hx
    -- one of the list
    have h1 : ∀ (i : Nat) (hi : i < xs.length), W.call 74 [.int (i : Int), enc xs[i], .cptr none (.int ar), .cptr (some 3) (.agg [.int k, .int h, .vec .plain (some 3) (encs xs)]), .cptr none (upF b f)] st =
        some (.ret (.tup [enc (upT b f (if bindsB k && decide (i + 1 = xs.length) then ar + 1 else ar) xs[i]), .bool true]), st) := by
      intro i hi
      have hx := List.getElem_mem hi
      have hsz := size_le hx
      have hdx := hdep _ hx
      have c1 := ih xs[i] hx (ar + 1) st (by omega) (by omega) (by omega)
      have c0 := ih xs[i] hx ar st (by omega) h0 (by omega)
      rw [C, enc_eta xs[i], e_shift_change_1]
      rw [encs_length, wrap_id (n := ar + 1) ⟨by omega, by omega⟩, wrap_id (n := (xs.length : Int) - 1) ⟨by omega, by omega⟩, ← enc_eta]
      have hlast : ((i : Int) == (xs.length : Int) - 1) = decide (i + 1 = xs.length) := by rw [beq_int]; congr 1; apply propext; omega
      rw [hlast]
      unfold bindsB
      simp only [beq_int]
      by_cases k1 : k = 1
      · by_cases hl : i + 1 = xs.length
        · simp [k1, hl, c1, gcE_len, ← enc_eta]
        · simp [k1, hl, c0, gcE_len, ← enc_eta]
      · by_cases k3 : k = 3
        · by_cases hl : i + 1 = xs.length
          · simp [k3, hl, c1, gcE_len, ← enc_eta]
          · simp [k3, hl, c0, gcE_len, ← enc_eta]
        · simp [k1, k3, c0, gcE_len, ← enc_eta]
    have hul : (ups b f ar (bindsB k) xs).length = xs.length := ups_length ..
    have hl := count_loop (n := xs.length) (L := fun i => W.loop 73 3 [V.int (i : Nat), V.vec .grow (some 3) (encs ((ups b f ar (bindsB k) xs).take i)), .fn 74 [] [.cptr none (.int ar), .cptr (some 3) (.agg [.int k, .int h, .vec .plain (some 3) (encs xs)]), .cptr none (upF b f)], V.vec .plain (some 3) (encs xs), V.int xs.length] st)
      (r := some (Ex.exit 0, [V.vec .grow (some 3) (encs (ups b f ar (bindsB k) xs))], st))
      (fun i hi => by
        have hp := h1 i hi
        have hr : roomFor Try.prog 26 (i + 1) = true := room24 (by omega)
        have hi' : i < (ups b f ar (bindsB k) xs).length := by rw [hul]; exact hi
        show W.loop _ _ _ _ = _
        rw [L, e_shift_each_api_Term_L3, encs_take_succ hi', ups_get b f ar (bindsB k) xs i hi]
        rw [wrap_id ⟨by omega, by omega⟩]
        have hmin : min i xs.length = i := by omega
        have hlt : decide ((i : Int) < xs.length) = true := by simp; omega
        have h0 : decide ((0 : Int) ≤ i) = true := by simp
        simp [hlt, getI_encs hi, pure_change1, ← enc_eta, hp, hr, hmin, hul, h0, hi])
      (by
        have hlt : decide ((xs.length : Int) < xs.length) = false := by simp
        show W.loop _ _ _ _ = _
        rw [L, e_shift_each_api_Term_L3, hlt, List.take_of_length_le (by omega)]; rfl)
    have hl' : W.loop 73 3 [V.int 0, V.vec .grow (some 3) [], .fn 74 [] [.cptr none (.int ar), .cptr (some 3) (.agg [.int k, .int h, .vec .plain (some 3) (encs xs)]), .cptr none (upF b f)], V.vec .plain (some 3) (encs xs), V.int xs.length] st = some (Ex.exit 0, [V.vec .grow (some 3) (encs (ups b f ar (bindsB k) xs))], st) := hl
    have he : W.call 73 [.vec .plain (some 3) (encs xs), .fn 74 [] [.cptr none (.int ar), .cptr (some 3) (.agg [.int k, .int h, .vec .plain (some 3) (encs xs)]), .cptr none (upF b f)]] st = some (.ret (.tup [.vec .plain (some 3) (encs (ups b f ar (bindsB k) xs)), .bool true]), st) := by
      rw [C, e_shift_each_api_Term]
      simp [hl', gcE_len]
    rw [C, enc, e_shift_change]
    by_cases k4 : k = 4
    · have hu := (up_spec b f h ar ⟨by omega, by omega⟩).p
      simp [k4, pure_up, hu, gcE_len, upT, enc] at he ⊢
      simp [he, gcE_len]
    · simp [k4, he, gcE_len, upT, enc]
end Go.Proofs.SP

namespace Go.Proofs.SP
open Go Go.AM
set_option maxRecDepth 20000

theorem e_slices_ContainsFunc_api_Decl_api_Decl (O : Oracle) (l0 : (List V)) (g1 : Nat) (l2 : (List V)) (l3 : (List V)) (st : St) : callBody Try.prog cfg O 33 [.vec .plain (some 4) l0, .fn g1 l2 l3] st =
  obind (O.call 52 [V.vec .plain (some 4) l0, V.fn g1 l2 l3] st) fun r1 => onRet r1.fst (fun v2 => onInt v2 fun n3 => gcE (List.length st) (V.bool
  (decide (n3 ≥ 0))) r1.snd) fun p4 => none := by kernel_rfl

theorem e_slices_ContainsFunc_api_Term_api_Term (O : Oracle) (l0 : (List V)) (g1 : Nat) (l2 : (List V)) (l3 : (List V)) (st : St) : callBody Try.prog cfg O 35 [.vec .plain (some 3) l0, .fn g1 l2 l3] st =
  obind (O.call 53 [V.vec .plain (some 3) l0, V.fn g1 l2 l3] st) fun r1 => onRet r1.fst (fun v2 => onInt v2 fun n3 => gcE (List.length st) (V.bool
  (decide (n3 ≥ 0))) r1.snd) fun p4 => none := by kernel_rfl

theorem e_slices_IndexFunc_api_Decl_api_Decl (O : Oracle) (l0 : (List V)) (g1 : Nat) (l2 : (List V)) (l3 : (List V)) (st : St) : callBody Try.prog cfg O 52 [.vec .plain (some 4) l0, .fn g1 l2 l3] st =
  obind (O.loop 52 2 [V.int 0, V.vec .plain (some 4) l0, V.fn g1 l2 l3, V.int (↑l0.length : Int)] st) fun r1 => onEx r1.fst none (onCons r1.snd.fst
  fun v2 c3 => onInt v2 fun n4 => onNil c3 (gcE (List.length st) (V.int n4) r1.snd.snd)) (fun i5 => bc (i5.beq 0) (onNil r1.snd.fst (gcE (List.length st) (V.int (-1)) r1.snd.snd))
  none) fun v6 => none := by kernel_rfl

theorem e_slices_IndexFunc_api_Decl_api_Decl_L2 (O : Oracle) (n0 : Int) (l1 : (List V)) (g2 : Nat) (l3 : (List V)) (l4 : (List V)) (n5 : Int) (st : St) : loopBody Try.prog cfg O 52 2 [.int n0, .vec .plain (some 4) l1, .fn g2 l3 l4, .int n5] st =
  bc (decide (n0 < n5)) (gd (decide (0 ≤ n0) && decide (n0 < (↑l1.length : Int))) (onStruct [CT.str, CT.int, CT.int, CT.slice (some 3)] (getI l1 n0) fun s1 n2 n3 l4_1 => bc
  (cfg.pure g2) (obind (pcall O g2 (l3 ++ [V.agg [V.str s1, V.int n2, V.int n3, V.vec .plain (some 3) l4_1]] ++ l4)) fun r5 => onBool r5 fun b6 => bc b6 (some (Ex.ret, [V.int n0],
  st)) (O.2 52 2 [V.int (IntKind.i64.wrap (n0 + 1)), V.vec .plain (some 4) l1, V.fn g2 l3 l4, V.int n5] st)) (obind (O.call g2 (l3 ++ [V.agg [V.str
  s1, V.int n2, V.int n3, V.vec .plain (some 3) l4_1]] ++ l4) st) fun r7 => onRet r7.fst (fun v8 => onBool v8 fun b9 => bc b9 (some (Ex.ret, [V.int n0], r7.snd)) (O.2
  52 2 [V.int (IntKind.i64.wrap (n0 + 1)), V.vec .plain (some 4) l1, V.fn g2 l3 l4, V.int n5] r7.snd)) fun p10 => none))) (some (Ex.exit 0, [],
  st)) := by kernel_rfl

theorem e_slices_IndexFunc_api_Term_api_Term (O : Oracle) (l0 : (List V)) (g1 : Nat) (l2 : (List V)) (l3 : (List V)) (st : St) : callBody Try.prog cfg O 53 [.vec .plain (some 3) l0, .fn g1 l2 l3] st =
  obind (O.loop 53 2 [V.int 0, V.vec .plain (some 3) l0, V.fn g1 l2 l3, V.int (↑l0.length : Int)] st) fun r1 => onEx r1.fst none (onCons r1.snd.fst
  fun v2 c3 => onInt v2 fun n4 => onNil c3 (gcE (List.length st) (V.int n4) r1.snd.snd)) (fun i5 => bc (i5.beq 0) (onNil r1.snd.fst (gcE (List.length st) (V.int (-1)) r1.snd.snd))
  none) fun v6 => none := by kernel_rfl

theorem e_slices_IndexFunc_api_Term_api_Term_L2 (O : Oracle) (n0 : Int) (l1 : (List V)) (g2 : Nat) (l3 : (List V)) (l4 : (List V)) (n5 : Int) (st : St) : loopBody Try.prog cfg O 53 2 [.int n0, .vec .plain (some 3) l1, .fn g2 l3 l4, .int n5] st =
  bc (decide (n0 < n5)) (gd (decide (0 ≤ n0) && decide (n0 < (↑l1.length : Int))) (onStruct [CT.int, CT.int, CT.slice (some 3)] (getI l1 n0) fun n1 n2 l3_1 => bc (cfg.pure g2)
  (obind (pcall O g2 (l3 ++ [V.agg [V.int n1, V.int n2, V.vec .plain (some 3) l3_1]] ++ l4)) fun r4 => onBool r4 fun b5 => bc b5 (some (Ex.ret, [V.int n0], st)) (O.2
  53 2 [V.int (IntKind.i64.wrap (n0 + 1)), V.vec .plain (some 3) l1, V.fn g2 l3 l4, V.int n5] st)) (obind (O.call g2 (l3 ++ [V.agg [V.int n1, V.int
  n2, V.vec .plain (some 3) l3_1]] ++ l4) st) fun r6 => onRet r6.fst (fun v7 => onBool v7 fun b8 => bc b8 (some (Ex.ret, [V.int n0], r6.snd)) (O.2
  53 2 [V.int (IntKind.i64.wrap (n0 + 1)), V.vec .plain (some 3) l1, V.fn g2 l3 l4, V.int n5] r6.snd)) fun p9 => none))) (some (Ex.exit 0, [], st)) := by kernel_rfl

end Go.Proofs.SP

/-! What may be; what is scoped. -/
namespace Go.Proofs.SP
open Go Go.AM Go.Ama

/-- A function that tells something of each node. -/
def Tells (g : Nat) (a b : List V) (p : Int → T → Bool) : Prop :=
  (cfg.pure g = true ∧ ∀ i t, pcall W g (a ++ [.int i, enc t] ++ b) = some (.bool (p i t))) ∨
  (cfg.pure g = false ∧ ∀ i t st, W.call g (a ++ [.int i, enc t] ++ b) st = some (.ret (.bool (p i t)), st))

theorem all_spec {g : Nat} {a b : List V} {p : Int → T → Bool} (hg : Tells g a b p) (t : T) (hs : t.size ≤ 1099511627776) : W.call 49 [enc t, .fn g a b] [] = some (.ret (.bool (allW p 0 t)), []) := by
  have hr : ∀ (i : Int) (t : T) (s : Unit), W.round 1 49 4 [.ref 0 0, .cptr none (.fn g a b)] [.int i, enc t] [(fun _ => .box [.bool false] : Unit → Res) s, .loop 49 4 [.ref 0 0, .cptr none (.fn g a b)] .ready none] =
      some (if p i t = true then (true, [(fun _ => .box [.bool false] : Unit → Res) ((fun s => s) s), .loop 49 4 [.ref 0 0, .cptr none (.fn g a b)] .ready none]) else (false, [.box [.bool false], .loop 49 4 [.ref 0 0, .cptr none (.fn g a b)] .done (some .ret)])) := by
    intro i t s
    rw [Rd, enc_eta, e_term_all_R4]
    rcases hg with ⟨hp, hm⟩ | ⟨hp, hm⟩
    · have hm := hm i t
      rw [enc_eta] at hm
      rw [hp, bc_true, hm, obind_some', onBool_bool]
      cases p i t <;> rfl
    · have hm := hm i t
      rw [enc_eta] at hm
      rw [hp, bc_false, hm, obind_some', onRet_ret, onBool_bool]
      cases p i t <;> rfl
  have hn := nodes_spec (x := fun _ : Unit => .box [.bool false]) (nx := fun s => s) (g := p) hr t () hs
  rw [C]
  rw [enc_eta] at hn
  conv => lhs; rw [enc_eta]
  rw [e_term_all, C, e_term_nodes, obind_some', onRet_ret, onFn_fn]
  have hn' : W.call 75 ([] ++ [V.yld (List.length [Res.box [V.bool false]])] ++ [V.cptr (some 3) (V.agg [V.int t.k, V.int t.h, V.vec .plain (some 3) (encs t.args)])]) ([Res.box [V.bool false]] ++ [Res.loop 49 4 [V.ref 0 0, V.cptr none (V.fn g a b)] LSt.ready none]) = _ := hn
  rw [hn', obind_some']
  cases allW p 0 t <;> rfl

theorem pmay_spec (t : T) (hs : t.size ≤ 1099511627776) : Ev 32 [enc t] (.bool (may t)) := by
  unfold Ev
  have hg : Tells 50 [] [] (fun _ t => mayT t) := .inl ⟨rfl, fun i t => by
    rw [enc_eta]; exact (mayn_spec i t.k t.h t.args).p (by simp [belowL, below])⟩
  have ha := all_spec hg t hs
  rw [allW_may] at ha
  rw [C, enc_eta, e_term_May, ← enc_eta, (pdepth_spec t hs).p, (psize_spec t hs).p, ha]
  simp only [obind_some', onInt_int, onRet_ret, onBool_bool, may]
  have e1 : decide ((t.depth : Int) ≤ 60) = decide (t.depth ≤ 60) := decide_eq_decide.2 (by omega)
  have e2 : decide ((t.size : Int) ≤ 4000) = decide (t.size ≤ 4000) := decide_eq_decide.2 (by omega)
  rw [e1, e2]
  cases decide (t.depth ≤ 60) <;> cases decide (t.size ≤ 4000) <;> simp [bc]

end Go.Proofs.SP

/-! shift.Up; lists of terms; substitutions. -/
namespace Go.Proofs.SP
open Go Go.AM Go.Ama

theorem shiftmay_spec (t : T) (b f : Int) (hs : t.size ≤ 1099511627776) : Ev 59 [enc t, .int b, .int f] (.bool (may t && (decide (0 ≤ b) && (decide (b ≤ 1048576) && (decide (0 ≤ f) && decide (f ≤ 1048576)))))) := by
  have h1 := (pmay_spec t hs).p
  unfold Ev
  rw [C, enc_eta, e_shift_may, ← enc_eta, h1]
  cases may t
  · rfl
  · by_cases a1 : 0 ≤ b <;> by_cases a2 : b ≤ 1048576 <;> by_cases a3 : 0 ≤ f <;> simp [a1, a2, a3]

theorem Up_spec (t : T) (b f : Int) (hs : t.size ≤ 1099511627776) : Ev 42 [enc t, .int b, .int f] (enc (upP t b f)) := by
  have h1 := (shiftmay_spec t b f hs).p
  have h2 := (pown_spec t hs).p
  unfold Ev
  rw [C, enc_eta t, e_shift_Up, ← enc_eta, h1]
  unfold upP
  by_cases hm : (may t && (decide (0 ≤ b) && (decide (b ≤ 1048576) && (decide (0 ≤ f) && decide (f ≤ 1048576))))) = true
  · rw [hm]
    simp only [Bool.and_eq_true, decide_eq_true_eq] at hm
    have hd : (t.depth : Int) ≤ 1099511627776 := by have := depth_le_size t; omega
    have h3 := change_spec b f hm.2.2.2 t 0 [] hs (by omega) (by omega)
    simp [h3, ← enc_eta]
    simp [below, belowL, belowSt, gd]
  · have hm' : (may t && (decide (0 ≤ b) && (decide (b ≤ 1048576) && (decide (0 ≤ f) && decide (f ≤ 1048576))))) = false := by simpa using hm
    rw [hm']
    simp [h2, ← enc_eta]

theorem index_spec {g : Nat} {a b : List V} (hp : cfg.pure g = true) {p : T → Bool} (xs : List T) (hs : xs.length ≤ 1099511627776) (hg : ∀ t ∈ xs, pcall W g (a ++ [enc t] ++ b) = some (.bool (p t))) (st : St) :
    ∀ (n i : Nat), xs.length - i = n → i ≤ xs.length → (∃ j : Nat, (xs.drop i).any p = true ∧ W.loop 53 2 [.int (i : Int), .vec .plain (some 3) (encs xs), .fn g a b, .int xs.length] st = some (.ret, [.int (j : Int)], st)) ∨
      ((xs.drop i).any p = false ∧ W.loop 53 2 [.int (i : Int), .vec .plain (some 3) (encs xs), .fn g a b, .int xs.length] st = some (.exit 0, [], st)) := by
  intro n
  induction n with
  | zero =>
    intro i hn hi
    have : i = xs.length := by omega
    subst this
    right
    refine ⟨by simp, ?_⟩
    rw [L, e_slices_IndexFunc_api_Term_api_Term_L2]
    simp
  | succ n ih =>
    intro i hn hi
    have hlt : i < xs.length := by omega
    have hx := hg xs[i] (List.getElem_mem hlt)
    have hd : xs.drop i = xs[i] :: xs.drop (i + 1) := List.drop_eq_getElem_cons hlt
    have hstep : W.loop 53 2 [.int (i : Int), .vec .plain (some 3) (encs xs), .fn g a b, .int xs.length] st =
        bc (p xs[i]) (some (.ret, [.int (i : Int)], st)) (W.loop 53 2 [.int ((i + 1 : Nat) : Int), .vec .plain (some 3) (encs xs), .fn g a b, .int xs.length] st) := by
      rw [L, e_slices_IndexFunc_api_Term_api_Term_L2]
      rw [wrap_id ⟨by omega, by omega⟩]
      have h1 : (i : Int) < xs.length := by omega
      simp [h1, getI_encs hlt, ← enc_eta, hp, hx] at hx ⊢
      simp [hx]
    rw [hstep, hd, List.any_cons]
    cases hpx : p xs[i] with
    | true => exact .inl ⟨i, rfl, rfl⟩
    | false =>
      simp only [bc, Bool.false_or]
      exact ih (i + 1) (by omega) (by omega)

theorem contains_spec {g : Nat} {a b : List V} (hp : cfg.pure g = true) {p : T → Bool} (xs : List T) (hs : xs.length ≤ 1099511627776) (hg : ∀ t ∈ xs, pcall W g (a ++ [enc t] ++ b) = some (.bool (p t))) (st : St) :
    W.call 35 [.vec .plain (some 3) (encs xs), .fn g a b] st = some (.ret (.bool (xs.any p)), st) := by
  have h := index_spec hp xs hs hg st _ 0 rfl (Nat.zero_le _)
  rw [C, e_slices_ContainsFunc_api_Term_api_Term, C, e_slices_IndexFunc_api_Term_api_Term]
  simp only [List.drop_zero, Int.natCast_zero] at h
  rcases h with ⟨j, h1, h2⟩ | ⟨h1, h2⟩
  · simp [h2, h1, gcE_len]
  · simp [h2, h1, gcE_len]

theorem pure_may1 : cfg.pure 77 = true := by kernel_rfl
theorem smay1_spec (t : T) (hs : t.size ≤ 1099511627776) : Ev 77 [enc t] (.bool (!may t)) := by
  have h1 := (pmay_spec t hs).p
  unfold Ev
  rw [C, enc_eta, e_subst_may_1, ← enc_eta, h1]
  rfl

/-- A substitution that may be. -/
theorem smay_spec (l : List T) (s : Int) (hs : sizes l ≤ 1099511627776) : Ev 68 [.agg [.vec .plain (some 3) (encs l), .int s]] (.bool (maySu l s)) := by
  have hc := contains_spec (p := fun t => !may t) pure_may1 (a := []) (b := []) l (by have := length_le_sizes l; omega) (fun t ht => (smay1_spec t (by have := size_le ht; omega)).p) []
  unfold Ev
  rw [C, e_subst_may]
  unfold maySu
  have hall : (l.any fun t => !may t) = !l.all may := by
    simp [List.not_all_eq_any_not]
  by_cases a1 : l.length ≤ 200
  · have a1' : (l.length : Int) ≤ 200 := by omega
    by_cases a2 : 0 ≤ s <;> by_cases a3 : s ≤ 1048576 <;> simp [a1, a1', a2, a3, hc, hall]
  · have a1' : ¬ (l.length : Int) ≤ 200 := by omega
    simp [a1, a1']
end Go.Proofs.SP

/-! Below a node that binds; what a variable is mapped to; lists behind one another. -/
namespace Go.Proofs.SP
open Go Go.AM Go.Ama

abbrev encSu (l : List T) (s : Int) : V := .agg [.vec .plain (some 3) (encs l), .int s]

theorem belowL_app (n : Nat) : ∀ a b : List V, belowL n (a ++ b) = (belowL n a && belowL n b)
  | [], b => by simp [belowL]
  | x :: a, b => by simp [belowL, belowL_app n a b, Bool.and_assoc]

theorem under_spec (l : List T) (s : Int) (hs : sizes l ≤ 1099511627776) : Ev 80 [encSu l s] (encSu (underL l) (underS s)) := by
  have hlen := length_le_sizes l
  have hl := count_loop (n := l.length) (L := fun i => W.loop 80 3 [V.int (i : Nat), V.loc true (some 2) (V.agg [V.vec .grow (some 3) (encs ((l.map fun t => upP t 1 0).take i)), V.int (underS s)]), V.vec .plain (some 3) (encs l), V.loc true (some 2) (V.agg [V.vec Mode.full (some 3) [], V.int 0]), V.int l.length] [])
    (r := some (Ex.exit 0, [V.loc true (some 2) (V.agg [V.vec Mode.full (some 3) [], V.int 0]), V.loc true (some 2) (V.agg [V.vec .grow (some 3) (encs (l.map fun t => upP t 1 0)), V.int (underS s)])], []))
    (fun i hi => by
      have hp := (Up_spec l[i] 1 0 (by have := size_le (List.getElem_mem hi); omega)).p
      have hr : roomFor Try.prog 26 (i + 1) = true := room24 (by omega)
      have hi' : i < (l.map fun t => upP t 1 0).length := by simpa using hi
      show W.loop _ _ _ _ = _
      rw [L, e_subst_Under_L3, encs_take_succ hi', List.getElem_map]
      rw [wrap_id ⟨by omega, by omega⟩]
      have hmin : min i l.length = i := by omega
      have h1 : (i : Int) < l.length := by omega
      simp [h1, getI_encs hi, ← enc_eta, hp, hr, hmin])
    (by
      show W.loop _ _ _ _ = _
      rw [L, e_subst_Under_L3, List.take_of_length_le (by simp)]
      simp)
  have hl' : W.loop 80 3 [V.int 0, V.loc true (some 2) (V.agg [V.vec .grow (some 3) [], V.int (underS s)]), V.vec .plain (some 3) (encs l), V.loc true (some 2) (V.agg [V.vec Mode.full (some 3) [], V.int 0]), V.int l.length] [] = some (Ex.exit 0, [V.loc true (some 2) (V.agg [V.vec Mode.full (some 3) [], V.int 0]), V.loc true (some 2) (V.agg [V.vec .grow (some 3) (encs (l.map fun t => upP t 1 0)), V.int (underS s)])], []) := hl
  have hr : roomFor Try.prog 26 (l.length + 1) = true := room24 (by omega)
  unfold Ev
  rw [C, e_subst_Under]
  show obind (W.loop 80 3 [V.int 0, V.loc true (some 2) (V.agg [V.vec .grow (some 3) [], V.int (underS s)]), V.vec .plain (some 3) (encs l), V.loc true (some 2) (V.agg [V.vec Mode.full (some 3) [], V.int 0]), V.int ((encs l).length : Nat)] []) _ = _
  simp [hl', hr, underL, encSu, below, belowL, belowSt, enc, belowL_app]

theorem of_spec (l : List T) (s i : Int) (hs : sizes l ≤ 1099511627776) (h0 : 0 ≤ i) (h1 : I64 i) : Ev 82 [encSu l s, .int i] (enc (ofT l s i)) := by
  have hlen := length_le_sizes l
  unfold Ev ofT
  rw [C, e_subst_of]
  by_cases hi : i < l.length
  · have hj : l.length - 1 - i.toNat < l.length := by omega
    have hj2 : (l.length : Int) - 1 - i = ((l.length - 1 - i.toNat : Nat) : Int) := by omega
    have ho := (pown_spec (l[l.length - 1 - i.toNat]) (by have := size_le (List.getElem_mem hj); omega)).p
    have hd : l.getD (l.length - 1 - i.toNat) (.mk 0 0 []) = l[l.length - 1 - i.toNat] := by rw [List.getD_eq_getElem?_getD, List.getElem?_eq_getElem hj]; rfl
    rw [if_pos hi, hd, encs_length, wrap_id (n := (l.length : Int) - 1) ⟨by omega, by omega⟩, hj2, wrap_id ⟨by omega, by omega⟩]
    have h2 : ((l.length - 1 - i.toNat : Nat) : Int) < l.length := by omega
    simp only [getI_encs hj]
    simp [hi, h2, ← enc_eta, ho, below, belowL]
  · rw [if_neg hi]
    have h2 : ¬ i < ((encs l).length : Int) := by rw [encs_length]; exact hi
    simp [hi, enc]

theorem concat_spec (xs ys : List T) (hs : xs.length + ys.length ≤ 2199023255552) : Ev 84 [.vec .plain none [.vec .plain (some 3) (encs xs), .vec .plain (some 3) (encs ys)]] (.vec .plain (some 3) (encs (xs ++ ys))) := by
  have r1 : roomFor Try.prog 26 (xs.length + ys.length) = true := room24 hs
  have r2 : roomFor Try.prog 26 xs.length = true := room24 (by omega)
  have a1 : IntKind.i64.wrap (0 + (xs.length : Int)) = xs.length := by rw [wrap_id ⟨by omega, by omega⟩]; omega
  have a2 : IntKind.i64.wrap ((xs.length : Int) + ys.length) = (xs.length : Int) + ys.length := wrap_id ⟨by omega, by omega⟩
  have w1 : IntKind.i64.wrap (0 + 1) = 1 := by decide
  have w2 : IntKind.i64.wrap (1 + 1) = 2 := by decide
  have n1 : ¬ (xs.length : Int) < 0 := by omega
  have n2 : ¬ (xs.length : Int) + ys.length < 0 := by omega
  have n3 : (0 : Int) ≤ (xs.length : Int) + ys.length := by omega
  have t2 : ((xs.length : Int) + ys.length).toNat = xs.length + ys.length := by omega
  have g0 : ∀ (a b : V), getI [a, b] 0 = a := fun _ _ => rfl
  have g1 : ∀ (a b : V), getI [a, b] 1 = b := fun _ _ => rfl
  unfold Ev
  rw [C, e_slices_Concat_api_Term_api_Term]
  have L1 : W.loop 84 3 [V.int 0, V.int 0, V.vec .plain none [.vec .plain (some 3) (encs xs), .vec .plain (some 3) (encs ys)], V.vec .plain none [.vec .plain (some 3) (encs xs), .vec .plain (some 3) (encs ys)], V.int 2] [] =
      some (.exit 0, [V.vec .plain none [.vec .plain (some 3) (encs xs), .vec .plain (some 3) (encs ys)], V.int ((xs.length : Int) + ys.length)], []) := by
    rw [L, e_slices_Concat_api_Term_api_Term_L3, g0, w1]
    simp only [onVec, if_true, encs_length, a1]
    simp [n1]
    rw [L, e_slices_Concat_api_Term_api_Term_L3, g1, w2]
    simp only [onVec, if_true, encs_length, a2]
    simp [n2]
    rw [L, e_slices_Concat_api_Term_api_Term_L3]
    simp
  have L2 : W.loop 84 11 [V.int 0, V.vec .grow (some 3) [], V.vec .plain none [.vec .plain (some 3) (encs xs), .vec .plain (some 3) (encs ys)], V.int 2] [] = some (.exit 2, [V.vec .grow (some 3) (encs (xs ++ ys))], []) := by
    rw [L, e_slices_Concat_api_Term_api_Term_L11, g0, w1]
    simp only [onVec, if_true, encs_length]
    simp [r2]
    rw [L, e_slices_Concat_api_Term_api_Term_L11, g1, w2]
    simp only [onVec, if_true, encs_length]
    simp [r1]
    rw [L, e_slices_Concat_api_Term_api_Term_L11]
    simp
  have e2 : ((([.vec .plain (some 3) (encs xs), .vec .plain (some 3) (encs ys)] : List V).length : Nat) : Int) = 2 := rfl
  rw [e2, L1]
  simp only [obind_some', onEx_exit, Nat.beq_eq_true_eq, onCons_cons, onVec, if_true, onNil_nil, onInt_int, e2, L2]
  simp [n3, t2, r1, belowL_app, below, belowSt, L2, e2]
end Go.Proofs.SP

/-! Substituting, as_ the program does it. -/
namespace Go.Proofs.SP
open Go Go.AM Go.Ama

abbrev bx0 : Res := .box [.int 0, .int 0, .vec .full (some 3) []]
abbrev bx1 : Res := .box [.int 0]
abbrev wst (n : Nat) : St := [bx0, bx1, .box [.int (n : Int)]]
abbrev errV (e : Int) : V := .ifc 34 (.int e)

section
variable {R : Type}
@[simp] theorem getR_2 (x y z : Res) (st : St) (K : Res → Option R) : getR (x :: y :: z :: st) 2 K = K z := rfl
@[simp] theorem onBox_box (l : List V) (K : List V → Option R) : onBox (.box l) K = K l := rfl
@[simp] theorem part1 (n : Int) : cleanV (AM.partOf [.int n] 0 none) = .int n := rfl
@[simp] theorem setC1 (a b : V) : setCells [a] 0 [b] = [b] := rfl
@[simp] theorem onSu (l : List T) (s : Int) (K : List V → Int → Option R) : onStruct (R := R) [CT.slice (some 3), CT.int] (.agg [.vec .plain (some 3) (encs l), .int s]) K = K (encs l) s := rfl
end

theorem fail_spec (e : Int) (n : Nat) : W.call 79 [.int e] (wst n) = some (.panic (errV e), wst n) := by
  rw [C, e_subst_fail]; rfl

def RT (o : Oj) (r : Option (Out × St)) : Prop :=
  match o with
  | .t t m => r = some (.ret (enc t), wst m)
  | .e e => ∃ m : Nat, r = some (.panic (errV e), wst m)
  | .l _ _ => False

noncomputable def lp6 (i : Nat) (k h : Int) (acc xs l : List T) (s : Int) (v : V) (n : Nat) : Option (Ex × List V × St) :=
  W.loop 71 6 [.int (i : Int), .loc true (some 3) (.agg [.int k, .int h, .vec .grow (some 3) (encs acc)]), .ref 2 0, .loc false (some 2) (.agg [.vec .plain (some 3) (encs l), .int s]), .loc false (some 3) (.agg [.int k, .int h, .vec .plain (some 3) (encs xs)]), .vec .plain (some 3) (encs xs), .loc true (some 3) v, .int xs.length] (wst n)

def Sat : Job → Oj → Prop
  | .ap n t l s, o => RT o (W.call 71 [.ref 2 0, enc t, encSu l s] (wst n))
  | .sp n t ys, o => RT o (W.call 81 [.ref 2 0, enc t, .vec .plain (some 3) (encs ys)] (wst n))
  | .ar n bd ts l s, o => ∀ (k h : Int) (xs acc : List T) (i : Nat) (v : V), xs.drop i = ts → bd = bindsB k → acc.length = i → i ≤ xs.length → xs.length ≤ 1099511627776 →
      match o with
      | .l ys m => lp6 i k h acc xs l s v n = some (.exit 0, [.loc true (some 3) v, .loc true (some 3) (.agg [.int k, .int h, .vec .grow (some 3) (encs (acc ++ ys))]), .loc false (some 3) (.agg [.int k, .int h, .vec .plain (some 3) (encs xs)]), .loc false (some 2) (.agg [.vec .plain (some 3) (encs l), .int s]), .ref 2 0], wst m)
      | .e e => ∃ (m : Nat) (vs : List V), lp6 i k h acc xs l s v n = some (.panic (errV e), vs, wst m)
      | .t _ _ => False

/-- One arg. -/
theorem lp6_step (i : Nat) (k h : Int) (acc xs l : List T) (s : Int) (v : V) (n : Nat) (hi : i < xs.length) (hx : xs.length ≤ 1099511627776) (hl : sizes l ≤ 1099511627776) (hacc : acc.length = i) :
    ∃ vs, lp6 i k h acc xs l s v n = obind (W.call 71 [.ref 2 0, enc xs[i], encSu (belowL' (bindsB k) (xs.drop (i + 1)) l) (belowS' (bindsB k) (xs.drop (i + 1)) s)] (wst n)) fun r => onRet r.1 (fun u => onStruct [CT.int, CT.int, CT.slice (some 3)] u fun a b c =>
      W.loop 71 6 [.int ((i + 1 : Nat) : Int), .loc true (some 3) (.agg [.int k, .int h, .vec .grow (some 3) (encs acc ++ [.agg [.int a, .int b, .vec .plain (some 3) c]])]), .ref 2 0, .loc false (some 2) (.agg [.vec .plain (some 3) (encs l), .int s]), .loc false (some 3) (.agg [.int k, .int h, .vec .plain (some 3) (encs xs)]), .vec .plain (some 3) (encs xs), .loc true (some 3) v, .int xs.length] r.2)
      fun p => some (.panic p, vs, r.2) := by
  have hu := (under_spec l s hl).p
  have hr : roomFor Try.prog 26 (i + 1) = true := room24 (by omega)
  have hw : IntKind.i64.wrap ((i : Int) + 1) = ((i + 1 : Nat) : Int) := by rw [wrap_id ⟨by omega, by omega⟩]; omega
  have hw2 : IntKind.i64.wrap ((xs.length : Int) - 1) = (xs.length : Int) - 1 := wrap_id ⟨by omega, by omega⟩
  have hlt : (i : Int) < xs.length := by omega
  have hlast : ((i : Int) == (xs.length : Int) - 1) = (xs.drop (i + 1)).isEmpty := by
    rw [beq_int]
    by_cases he : i + 1 = xs.length
    · simp [he]; omega
    · have : ¬ (i : Int) = (xs.length : Int) - 1 := by omega
      simp [this]; omega
  unfold lp6
  rw [L, e_subst_work_apply_L6]
  refine ⟨[.loc true (some 3) v, .loc true (some 3) (.agg [.int k, .int h, .vec .plain (some 3) (encs acc)]), .loc false (some 3) (.agg [.int k, .int h, .vec .plain (some 3) (encs xs)]), .loc false (some 2) (.agg [.vec .plain (some 3) (encs l), .int s]), .ref 2 0], ?_⟩
  rw [encs_length, hw2, hw, hlast]
  unfold belowL' belowS' bindsB
  by_cases k1 : k = 1
  · cases he : (xs.drop (i + 1)).isEmpty
    · simp [k1, he, hlt, getI_encs hi, ← enc_eta, hr, hacc]
    · simp [k1, he, hlt, getI_encs hi, ← enc_eta, hr, hacc, hu]
  · by_cases k3 : k = 3
    · cases he : (xs.drop (i + 1)).isEmpty
      · simp [k3, he, hlt, getI_encs hi, ← enc_eta, hr, hacc]
      · simp [k3, he, hlt, getI_encs hi, ← enc_eta, hr, hacc, hu]
    · simp [k1, k3, hlt, getI_encs hi, ← enc_eta, hr, hacc]
end Go.Proofs.SP

/-! .. whole. -/
namespace Go.Proofs.SP
open Go Go.AM Go.Ama

theorem lp6_end (k h : Int) (acc xs l : List T) (s : Int) (v : V) (n i : Nat) (hi : i = xs.length) : lp6 i k h acc xs l s v n = some (.exit 0, [.loc true (some 3) v, .loc true (some 3) (.agg [.int k, .int h, .vec .grow (some 3) (encs acc)]), .loc false (some 3) (.agg [.int k, .int h, .vec .plain (some 3) (encs xs)]), .loc false (some 2) (.agg [.vec .plain (some 3) (encs l), .int s]), .ref 2 0], wst n) := by
  subst hi
  unfold lp6
  rw [L, e_subst_work_apply_L6]
  simp

/-- What is left behind the loop. -/
theorem apply_eq (n : Nat) (t : T) (l : List T) (s : Int) (hn : n + 1 ≤ 40000) (ht : t.size ≤ 1099511627776) :
    W.call 71 [.ref 2 0, enc t, encSu l s] (wst n) = obind (lp6 0 t.k t.h [] t.args l s (.agg [.int 0, .int 0, .vec .full (some 3) []]) (n + 1)) fun r12 => onEx r12.1 none none
      (fun i13 => bc (i13.beq 0) (onCons r12.2.1 fun v14 c15 => onLoc (some 3) v14 fun d16 v17 => onCons c15 fun v18 c19 => onLoc (some 3) v18 fun d20 v21 => onAgg v21 fun c22 =>
        onCons c22 fun v23 c24 => onInt v23 fun n25 => onCons c24 fun v26 c27 => onInt v26 fun n28 => onCons c27 fun v29 c30 => onRoom (some 3) v29 fun l31 => onNil c30 (onCons c19 fun
        v32 c33 => onLoc (some 3) v32 fun d34 v35 => onStruct [CT.int, CT.int, CT.slice (some 3)] (bif d34 then cleanV v35 else v35) fun n36 n37 l38 => onCons c33 fun v39 c40 => onLoc
        (some 2) v39 fun d41 v42 => onStruct [CT.slice (some 3), CT.int] (bif d41 then cleanV v42 else v42) fun l43 n44 => onCons c40 fun v45 c46 => onRef v45 fun q47 => onNil c46 (bc
        (n36 != 4) (gcE 3 (V.agg [V.int n25, V.int n28, V.vec .plain (some 3) l31]) r12.2.2) (obind (pcall W 82 [V.agg [V.vec .plain (some 3) l43, V.int n44],
        V.int n37]) fun r48 => onStruct [CT.int, CT.int, CT.slice (some 3)] r48 fun n49 n50 l51 => obind (W.call 81 [V.ref q47 0, V.agg [V.int n49, V.int n50, V.vec .plain
        (some 3) l51], V.vec .plain (some 3) l31] r12.2.2) fun r52 => onRet r52.fst (fun v53 => onStruct [CT.int, CT.int, CT.slice (some 3)] v53 fun n54 n55 l56 => gcE 3 (V.agg [V.int n54, V.int n55, V.vec .plain (some 3) l56]) r52.snd) fun p57 => gd (below 3 p57 && belowSt 3 (List.take 3 r52.snd))
        (some (Out.panic p57, List.take 3 r52.snd)))))) none) fun v58 => gd (below 3 v58 && belowSt 3 (List.take 3 r12.2.2)) (some (Out.panic v58, List.take 3 r12.2.2)) := by
  have hw : IntKind.i64.wrap ((n : Int) + 1) = ((n + 1 : Nat) : Int) := by rw [wrap_id ⟨by omega, by omega⟩]; omega
  have hlim : ¬ ((n + 1 : Nat) : Int) > 40000 := by omega
  rw [C, enc_eta, e_subst_work_apply]
  simp only [getR_2, onBox_box, part1, setC1, hw]
  show gd _ _ = _
  simp only [List.length_cons, List.length_nil, Nat.zero_add, Nat.le_refl, decide_true, Bool.and_self, gd_true, onInt_int]
  show (getR (wst n) 2 fun x4 => _) = _
  simp only [getR_2, onBox_box, part1, setC1, List.length_cons, List.length_nil, Nat.zero_add, Nat.le_refl, decide_true, Bool.and_self, gd_true]
  show (getR (wst (n + 1)) 2 fun x6 => _) = _
  simp only [getR_2, onBox_box, part1, List.length_cons, List.length_nil, Nat.zero_add, Nat.le_refl, decide_true, Bool.and_self, gd_true, onInt_int, encs_length]
  rw [hw, decide_eq_false hlim, bc_false]
  rfl

theorem big_sat {j : Job} {o : Oj} (h : Big j o) : Sat j o := by
  induction h with
  | @apLimit n t l s h hn =>
    have hw : IntKind.i64.wrap ((n : Int) + 1) = ((n + 1 : Nat) : Int) := by rw [wrap_id ⟨by omega, by omega⟩]; omega
    have hlim : ((n + 1 : Nat) : Int) > 40000 := by omega
    refine ⟨n + 1, ?_⟩
    rw [C, enc_eta, e_subst_work_apply]
    simp only [getR_2, onBox_box, part1, setC1, hw]
    show gd _ _ = _
    simp only [List.length_cons, List.length_nil, Nat.zero_add, Nat.le_refl, decide_true, Bool.and_self, gd_true, onInt_int]
    show (getR (wst n) 2 fun x4 => _) = _
    simp only [getR_2, onBox_box, part1, setC1, List.length_cons, List.length_nil, Nat.zero_add, Nat.le_refl, decide_true, Bool.and_self, gd_true]
    show (getR (wst (n + 1)) 2 fun x6 => _) = _
    simp only [getR_2, onBox_box, part1, List.length_cons, List.length_nil, Nat.zero_add, Nat.le_refl, decide_true, Bool.and_self, gd_true, onInt_int]
    rw [hw, decide_eq_true hlim, bc_true]
    show obind (W.call _ _ (wst (n + 1))) _ = _
    rw [fail_spec]
    rfl
  | @apErr n t l s e h ht b ih =>
    obtain ⟨m, vs, hL⟩ := ih t.k t.h t.args [] 0 (.agg [.int 0, .int 0, .vec .full (some 3) []]) rfl rfl rfl (Nat.zero_le _) (by cases t; simp only [T.size] at ht; have := length_le_sizes (T.args (.mk ‹_› ‹_› ‹_›)); simp only [T.args] at this ⊢; omega)
    refine ⟨m, ?_⟩
    rw [apply_eq n t l s h ht, hL]
    rfl
  | @apNode n t l s ys m h ht hk b ih =>
    have hL := ih t.k t.h t.args [] 0 (.agg [.int 0, .int 0, .vec .full (some 3) []]) rfl rfl rfl (Nat.zero_le _) (by cases t; simp only [T.size] at ht; have := length_le_sizes (T.args (.mk ‹_› ‹_› ‹_›)); simp only [T.args] at this ⊢; omega)
    show _ = _
    rw [apply_eq n t l s h ht, hL]
    have hk' : (t.k != 4) = true := by simpa using hk
    simp [hk', hk, enc]
    rfl
  | @apVar n t l s ys m o h ht hl hk h0 h1 b c ihb ihc =>
    have hL := ihb t.k t.h t.args [] 0 (.agg [.int 0, .int 0, .vec .full (some 3) []]) rfl rfl rfl (Nat.zero_le _) (by cases t; simp only [T.size] at ht; have := length_le_sizes (T.args (.mk ‹_› ‹_› ‹_›)); simp only [T.args] at this ⊢; omega)
    have ho := (of_spec l s t.h hl h0 h1).p
    show RT o _
    rw [apply_eq n t l s h ht, hL]
    have hsp : RT o (W.call 81 [.ref 2 0, enc (ofT l s t.h), .vec .plain (some 3) (encs ys)] (wst m)) := ihc
    have hgoal : (fun x => RT o x) (W.call 81 [.ref 2 0, enc (ofT l s t.h), .vec .plain (some 3) (encs ys)] (wst m)) := hsp
    simp [hk, ho, ← enc_eta]
    cases o with
    | t u k =>
      simp only [RT] at hsp
      rw [hsp]
      simp [RT, ← enc_eta]
      rfl
    | e e =>
      obtain ⟨k, hsp⟩ := hsp
      rw [hsp]
      exact ⟨k, rfl⟩
    | l _ _ => exact hsp.elim
  | @arNil n bd l s =>
    intro k h xs acc i v hd hb ha hi hx
    have hil : i = xs.length := by have := congrArg List.length hd; simp at this; omega
    show _ = _
    rw [lp6_end _ _ _ _ _ _ _ _ _ hil, List.append_nil]
  | @arErr n bd a ys l s e hl b ih =>
    intro k h xs acc i v hd hb ha hi hx
    have hlt : i < xs.length := by
      have := congrArg List.length hd; simp at this; omega
    have hc : xs.drop i = xs[i] :: xs.drop (i + 1) := List.drop_eq_getElem_cons hlt
    rw [hc] at hd
    obtain ⟨rfl, rfl⟩ := List.cons.inj hd
    subst hb
    obtain ⟨vs, hs⟩ := lp6_step i k h acc xs l s v n hlt hx hl ha
    obtain ⟨m, hm⟩ := ih
    rw [hs, hm]
    exact ⟨m, vs, rfl⟩
  | @arErr2 n m bd a a' ys l s e hl b c ihb ihc =>
    intro k h xs acc i v hd hb ha hi hx
    have hlt : i < xs.length := by
      have := congrArg List.length hd; simp at this; omega
    have hc : xs.drop i = xs[i] :: xs.drop (i + 1) := List.drop_eq_getElem_cons hlt
    rw [hc] at hd
    obtain ⟨rfl, rfl⟩ := List.cons.inj hd
    subst hb
    obtain ⟨vs, hs⟩ := lp6_step i k h acc xs l s v n hlt hx hl ha
    have hb1 : W.call 71 [.ref 2 0, enc xs[i], encSu (belowL' (bindsB k) (xs.drop (i + 1)) l) (belowS' (bindsB k) (xs.drop (i + 1)) s)] (wst n) = some (.ret (enc a'), wst m) := ihb
    have := ihc k h xs (acc ++ [a']) (i + 1) v rfl rfl (by simp [ha]) (by omega) hx
    rw [hs, hb1]
    simp only [obind_some', onRet_ret, onTe, ← enc_eta]
    have e1 : encs acc ++ [enc a'] = encs (acc ++ [a']) := by simp
    rw [e1]
    exact this
  | @arCons n m k' bd a a' ys ys' l s hl b c ihb ihc =>
    intro k h xs acc i v hd hb ha hi hx
    have hlt : i < xs.length := by
      have := congrArg List.length hd; simp at this; omega
    have hc : xs.drop i = xs[i] :: xs.drop (i + 1) := List.drop_eq_getElem_cons hlt
    rw [hc] at hd
    obtain ⟨rfl, rfl⟩ := List.cons.inj hd
    subst hb
    obtain ⟨vs, hs⟩ := lp6_step i k h acc xs l s v n hlt hx hl ha
    have hb1 : W.call 71 [.ref 2 0, enc xs[i], encSu (belowL' (bindsB k) (xs.drop (i + 1)) l) (belowS' (bindsB k) (xs.drop (i + 1)) s)] (wst n) = some (.ret (enc a'), wst m) := ihb
    have := ihc k h xs (acc ++ [a']) (i + 1) v rfl rfl (by simp [ha]) (by omega) hx
    show _ = _
    rw [hs, hb1]
    simp only [obind_some', onRet_ret, onTe, ← enc_eta]
    have e1 : encs acc ++ [enc a'] = encs (acc ++ [a']) := by simp
    rw [e1]
    simpa [lp6] using this
  | @spNil n t =>
    show _ = _
    rw [C, enc_eta, e_subst_work_spine]
    simp [← enc_eta]
    rfl
  | @spMay n t a ys hk ha hm =>
    have h1 := (pmay_spec a ha).p
    refine ⟨n, ?_⟩
    rw [C, enc_eta, e_subst_work_spine]
    have hz : ¬ ((encs (a :: ys)).length : Int) = 0 := by rw [encs_length]; simp
    simp [hk, h1, hm, fail_spec, ← enc_eta]
    rfl
  | @spErr n t a b0 r ys e hk ha hm hb b ih =>
    have h1 := (pmay_spec a ha).p
    obtain ⟨m, hm2⟩ := ih
    refine ⟨m, ?_⟩
    have hm3 : W.call 71 [.ref 2 0, enc b0, .agg [.vec .plain (some 3) [enc a], .int 0]] (wst n) = some (.panic (errV e), wst m) := hm2
    rw [C, enc_eta, e_subst_work_spine]
    simp [hk, h1, hm, hb, hm3, ← enc_eta]
    rfl
  | @spLam n m t a b0 u r ys o hk ha hm hb b c ihb ihc =>
    have h1 := (pmay_spec a ha).p
    have hm3 : W.call 71 [.ref 2 0, enc b0, .agg [.vec .plain (some 3) [enc a], .int 0]] (wst n) = some (.ret (enc u), wst m) := ihb
    have hsp : RT o (W.call 81 [.ref 2 0, enc u, .vec .plain (some 3) (encs ys)] (wst m)) := ihc
    have htk : List.take ys.length (encs ys) = encs ys := List.take_of_length_le (by simp)
    show RT o _
    rw [C, enc_eta, e_subst_work_spine]
    simp [hk, h1, hm, hb, hm3, htk, ← enc_eta]
    cases o with
    | t w k =>
      simp only [RT] at hsp
      rw [hsp]
      simp [RT, ← enc_eta]
      rfl
    | e e =>
      obtain ⟨k, hsp⟩ := hsp
      rw [hsp]
      exact ⟨k, rfl⟩
    | l _ _ => exact hsp.elim
  | @spApp n t a ys hk hs =>
    have hc := (concat_spec t.args (a :: ys) (by simp only [List.length_cons]; omega)).p (h2 := by simp [below, belowL, belowL_app])
    simp only [encs_cons] at hc
    show _ = _
    rw [C, enc_eta, e_subst_work_spine]
    rcases hk with hk | hk | hk
    · simp [hk, hc, onVec, enc]
      rfl
    · simp [hk, hc, onVec, enc]
      rfl
    · simp [hk, hc, onVec, enc]
      rfl
  | @spType n t a ys h3 h2 h4 h5 =>
    refine ⟨n, ?_⟩
    rw [C, enc_eta, e_subst_work_spine]
    simp [h3, h2, h4, h5, fail_spec]
    rfl
end Go.Proofs.SP

namespace Go.Proofs.SP
open Go Go.AM
set_option maxRecDepth 20000

theorem e_subst_done (O : Oracle) (f : Nat) (a b : List V) : doneX Try.prog cfg O 69 [.fn f a b] [] =
  bc (cfg.pure f) (obind (pcall O f (a ++ [V.ref 2 0] ++ b)) fun r1 => onStruct [CT.int, CT.int, CT.slice (some 3)] r1 fun n2 n3 l4 => obind (pcall O 32 [V.agg [V.int n2,
  V.int n3, V.vec .plain (some 3) l4]]) fun r5 => onBool r5 fun b6 => bc (!b6) (obind (O.call 79 [V.int 4] [Res.box [V.int n2, V.int n3, V.vec .plain (some 3) l4], Res.box
  [V.int 0], Res.box [V.int 0]]) fun r7 => onRet r7.fst (fun v8 => onTup v8 fun c9 => onNil c9 (getR r7.snd 0 fun x10 => onBox x10 fun c11 => gd (decide (3 ≤ c11.length) && true)
  (onCells [CT.int, CT.int, CT.slice (some 3)] (List.map plain1 (List.take 3 (List.drop 0 c11))) fun n12 n13 l14 => getR r7.snd 0 fun x15 => onBox x15 fun c16 => gd (decide (3 ≤
  c16.length) && true) (getR (List.set r7.snd 0 (Res.box (setCells c16 0 [V.int n12, V.int n13, V.vec .plain (some 3) l14]))) 1 fun x17 => onBox x17 fun c18 => gd (decide (1 ≤
  c18.length) && true) (getR ((List.set r7.snd 0 (Res.box (setCells c16 0 [V.int n12, V.int n13, V.vec .plain (some 3) l14]))).set 1 (Res.box (setCells c18 0 [V.int 0]))) 0 fun x19
  => onBox x19 fun c20 => gd (decide (3 ≤ c20.length) && true) (getR ((List.set r7.snd 0 (Res.box (setCells c16 0 [V.int n12, V.int n13, V.vec .plain (some 3) l14]))).set 1 (Res.box
  (setCells c18 0 [V.int 0]))) 1 fun x21 => onBox x21 fun c22 => gd (decide (1 ≤ c22.length) && true) (gcE 0 (V.tup [V.agg (List.map plain1 (List.take 3 (List.drop 0 c20))), cleanV
  (AM.partOf c22 0 none)]) ((List.set r7.snd 0 (Res.box (setCells c16 0 [V.int n12, V.int n13, V.vec .plain (some 3) l14]))).set 1 (Res.box (setCells c18 0 [V.int 0])))))))))) fun
  p23 => onIfcI p23 fun t24 n25 => bc (t24.beq 34) (getR r7.snd 0 fun x26 => onBox x26 fun c27 => gd (decide (3 ≤ c27.length) && true) (getR (List.set r7.snd 0 (Res.box (setCells
  c27 0 [V.int 0, V.int 0, V.vec .plain (some 3) []]))) 1 fun x28 => onBox x28 fun c29 => gd (decide (1 ≤ c29.length) && true) (getR ((List.set r7.snd 0 (Res.box (setCells c27 0
  [V.int 0, V.int 0, V.vec .plain (some 3) []]))).set 1 (Res.box (setCells c29 0 [V.int n25]))) 0 fun x30 => onBox x30 fun c31 => gd (decide (3 ≤ c31.length) && true) (getR
  ((List.set r7.snd 0 (Res.box (setCells c27 0 [V.int 0, V.int 0, V.vec .plain (some 3) []]))).set 1 (Res.box (setCells c29 0 [V.int n25]))) 1 fun x32 => onBox x32 fun c33 => gd
  (decide (1 ≤ c33.length) && true) (gcE 0 (V.tup [V.agg (List.map plain1 (List.take 3 (List.drop 0 c31))), cleanV (AM.partOf c33 0 none)]) ((List.set r7.snd 0 (Res.box (setCells
  c27 0 [V.int 0, V.int 0, V.vec .plain (some 3) []]))).set 1 (Res.box (setCells c29 0 [V.int n25])))))))) none) (gcE 0 (V.tup [V.agg [V.int n2, V.int n3, V.vec .plain (some 3) l4],
  V.int 0]) [Res.box [V.int n2, V.int n3, V.vec .plain (some 3) l4], Res.box [V.int 0], Res.box [V.int 0]])) (obind (O.call f (a ++ [V.ref 2 0] ++ b) [Res.box [V.int 0, V.int 0,
  V.vec Mode.full (some 3) []], Res.box [V.int 0], Res.box [V.int 0]]) fun r34 => onRet r34.fst (fun v35 => onStruct [CT.int, CT.int, CT.slice (some 3)] v35 fun n36 n37 l38 => getR
  r34.snd 0 fun x39 => onBox x39 fun c40 => gd (decide (3 ≤ c40.length) && true) (getR (List.set r34.snd 0 (Res.box (setCells c40 0 [V.int n36, V.int n37, V.vec .plain (some 3)
  l38]))) 0 fun x41 => onBox x41 fun c42 => gd (decide (3 ≤ c42.length) && true) (onCells [CT.int, CT.int, CT.slice (some 3)] (List.map plain1 (List.take 3 (List.drop 0 c42))) fun
  n43 n44 l45 => obind (pcall O 32 [V.agg [V.int n43, V.int n44, V.vec .plain (some 3) l45]]) fun r46 => onBool r46 fun b47 => bc (!b47) (obind (O.call 79 [V.int
  4] (List.set r34.snd 0 (Res.box (setCells c40 0 [V.int n36, V.int n37, V.vec .plain (some 3) l38])))) fun r48 => onRet r48.fst (fun v49 => onTup v49 fun c50 => onNil c50 (getR
  r48.snd 0 fun x51 => onBox x51 fun c52 => gd (decide (3 ≤ c52.length) && true) (onCells [CT.int, CT.int, CT.slice (some 3)] (List.map plain1 (List.take 3 (List.drop 0 c52))) fun
  n53 n54 l55 => getR r48.snd 0 fun x56 => onBox x56 fun c57 => gd (decide (3 ≤ c57.length) && true) (getR (List.set r48.snd 0 (Res.box (setCells c57 0 [V.int n53, V.int n54, V.vec
  .plain (some 3) l55]))) 1 fun x58 => onBox x58 fun c59 => gd (decide (1 ≤ c59.length) && true) (getR ((List.set r48.snd 0 (Res.box (setCells c57 0 [V.int n53, V.int n54, V.vec
  .plain (some 3) l55]))).set 1 (Res.box (setCells c59 0 [V.int 0]))) 0 fun x60 => onBox x60 fun c61 => gd (decide (3 ≤ c61.length) && true) (getR ((List.set r48.snd 0 (Res.box
  (setCells c57 0 [V.int n53, V.int n54, V.vec .plain (some 3) l55]))).set 1 (Res.box (setCells c59 0 [V.int 0]))) 1 fun x62 => onBox x62 fun c63 => gd (decide (1 ≤ c63.length) &&
  true) (gcE 0 (V.tup [V.agg (List.map plain1 (List.take 3 (List.drop 0 c61))), cleanV (AM.partOf c63 0 none)]) ((List.set r48.snd 0 (Res.box (setCells c57 0 [V.int n53, V.int n54,
  V.vec .plain (some 3) l55]))).set 1 (Res.box (setCells c59 0 [V.int 0])))))))))) fun p64 => onIfcI p64 fun t65 n66 => bc (t65.beq 34) (getR r48.snd 0 fun x67 => onBox x67 fun c68
  => gd (decide (3 ≤ c68.length) && true) (getR (List.set r48.snd 0 (Res.box (setCells c68 0 [V.int 0, V.int 0, V.vec .plain (some 3) []]))) 1 fun x69 => onBox x69 fun c70 => gd
  (decide (1 ≤ c70.length) && true) (getR ((List.set r48.snd 0 (Res.box (setCells c68 0 [V.int 0, V.int 0, V.vec .plain (some 3) []]))).set 1 (Res.box (setCells c70 0 [V.int n66])))
  0 fun x71 => onBox x71 fun c72 => gd (decide (3 ≤ c72.length) && true) (getR ((List.set r48.snd 0 (Res.box (setCells c68 0 [V.int 0, V.int 0, V.vec .plain (some 3) []]))).set 1
  (Res.box (setCells c70 0 [V.int n66]))) 1 fun x73 => onBox x73 fun c74 => gd (decide (1 ≤ c74.length) && true) (gcE 0 (V.tup [V.agg (List.map plain1 (List.take 3 (List.drop 0
  c72))), cleanV (AM.partOf c74 0 none)]) ((List.set r48.snd 0 (Res.box (setCells c68 0 [V.int 0, V.int 0, V.vec .plain (some 3) []]))).set 1 (Res.box (setCells c70 0 [V.int
  n66])))))))) none) (getR (List.set r34.snd 0 (Res.box (setCells c40 0 [V.int n36, V.int n37, V.vec .plain (some 3) l38]))) 0 fun x75 => onBox x75 fun c76 => gd (decide (3 ≤
  c76.length) && true) (onCells [CT.int, CT.int, CT.slice (some 3)] (List.map plain1 (List.take 3 (List.drop 0 c76))) fun n77 n78 l79 => getR (List.set r34.snd 0 (Res.box (setCells
  c40 0 [V.int n36, V.int n37, V.vec .plain (some 3) l38]))) 0 fun x80 => onBox x80 fun c81 => gd (decide (3 ≤ c81.length) && true) (getR ((List.set r34.snd 0 (Res.box (setCells c40
  0 [V.int n36, V.int n37, V.vec .plain (some 3) l38]))).set 0 (Res.box (setCells c81 0 [V.int n77, V.int n78, V.vec .plain (some 3) l79]))) 1 fun x82 => onBox x82 fun c83 => gd
  (decide (1 ≤ c83.length) && true) (getR (((List.set r34.snd 0 (Res.box (setCells c40 0 [V.int n36, V.int n37, V.vec .plain (some 3) l38]))).set 0 (Res.box (setCells c81 0 [V.int
  n77, V.int n78, V.vec .plain (some 3) l79]))).set 1 (Res.box (setCells c83 0 [V.int 0]))) 0 fun x84 => onBox x84 fun c85 => gd (decide (3 ≤ c85.length) && true) (getR (((List.set
  r34.snd 0 (Res.box (setCells c40 0 [V.int n36, V.int n37, V.vec .plain (some 3) l38]))).set 0 (Res.box (setCells c81 0 [V.int n77, V.int n78, V.vec .plain (some 3) l79]))).set 1
  (Res.box (setCells c83 0 [V.int 0]))) 1 fun x86 => onBox x86 fun c87 => gd (decide (1 ≤ c87.length) && true) (gcE 0 (V.tup [V.agg (List.map plain1 (List.take 3 (List.drop 0
  c85))), cleanV (AM.partOf c87 0 none)]) (((List.set r34.snd 0 (Res.box (setCells c40 0 [V.int n36, V.int n37, V.vec .plain (some 3) l38]))).set 0 (Res.box (setCells c81 0 [V.int
  n77, V.int n78, V.vec .plain (some 3) l79]))).set 1 (Res.box (setCells c83 0 [V.int 0])))))))))))) fun p88 => onIfcI p88 fun t89 n90 => bc (t89.beq 34) (getR r34.snd 0 fun x91 =>
  onBox x91 fun c92 => gd (decide (3 ≤ c92.length) && true) (getR (List.set r34.snd 0 (Res.box (setCells c92 0 [V.int 0, V.int 0, V.vec .plain (some 3) []]))) 1 fun x93 => onBox x93
  fun c94 => gd (decide (1 ≤ c94.length) && true) (getR ((List.set r34.snd 0 (Res.box (setCells c92 0 [V.int 0, V.int 0, V.vec .plain (some 3) []]))).set 1 (Res.box (setCells c94 0
  [V.int n90]))) 0 fun x95 => onBox x95 fun c96 => gd (decide (3 ≤ c96.length) && true) (getR ((List.set r34.snd 0 (Res.box (setCells c92 0 [V.int 0, V.int 0, V.vec .plain (some 3)
  []]))).set 1 (Res.box (setCells c94 0 [V.int n90]))) 1 fun x97 => onBox x97 fun c98 => gd (decide (1 ≤ c98.length) && true) (gcE 0 (V.tup [V.agg (List.map plain1 (List.take 3
  (List.drop 0 c96))), cleanV (AM.partOf c98 0 none)]) ((List.set r34.snd 0 (Res.box (setCells c92 0 [V.int 0, V.int 0, V.vec .plain (some 3) []]))).set 1 (Res.box (setCells c94 0
  [V.int n90])))))))) none) := by kernel_rfl

end Go.Proofs.SP

/-! subst.Apply. -/
namespace Go.Proofs.SP
open Go Go.AM Go.Ama

theorem setC3 (a b c x y z : V) : setCells [a, b, c] 0 [x, y, z] = [x, y, z] := rfl
theorem plI (n : Int) : plain1 (.int n) = .int n := rfl
theorem plV (sh : Sh) (l : List V) : plain1 (.vec .plain sh l) = .vec .plain sh l := rfl
theorem gcE0 (v : V) (a : Res) (st : St) (h : below 0 v = true) : gcE 0 v (a :: st) = some (.ret v, []) := by
  have : Nat.beq (a :: st).length 0 = false := rfl
  unfold gcE
  rw [this]
  simp [h, belowSt]
theorem pure_apply1 : cfg.pure 70 = false := by kernel_rfl

theorem apply1_spec {t : T} {l : List T} {s : Int} {o : Oj} (h : Big (.ap 0 t l s) o) : RT o (W.call 70 [.ref 2 0, .cptr (some 3) (enc t), .cptr (some 2) (encSu l s)] (wst 0)) := by
  have hs : RT o (W.call 71 [.ref 2 0, enc t, encSu l s] (wst 0)) := big_sat h
  rw [C, enc_eta, e_subst_Apply_1, ← enc_eta]
  cases o with
  | t u k =>
    simp only [RT] at hs
    rw [hs]
    simp [RT, ← enc_eta]
    rfl
  | e e =>
    obtain ⟨k, hs⟩ := hs
    rw [hs]
    exact ⟨k, rfl⟩
  | l _ _ => exact hs.elim

theorem ext_done : ext 69 = some (fun O args st => doneX Try.prog cfg O 69 args st) := by
  unfold ext
  rfl

theorem Wdone (args : List V) (st : St) : W.call 69 args st = doneX Try.prog cfg W 69 args st :=
  Cx (x := fun O args st => doneX Try.prog cfg O 69 args st) 69 args st ext_done

theorem done_spec {t : T} {l : List T} {s : Int} {o : Oj} (h : Big (.ap 0 t l s) o) (hs : smallO o) :
    W.call 69 [.fn 70 [] [.cptr (some 3) (enc t), .cptr (some 2) (encSu l s)]] [] = some (.ret (.tup [enc (toldR o).1, .int (toldR o).2]), []) := by
  have h1 := apply1_spec h
  rw [Wdone, e_subst_done, pure_apply1]
  simp only [bc_false, List.nil_append, List.singleton_append]
  cases o with
  | t u k =>
    simp only [RT] at h1
    have hm := (pmay_spec u hs).p
    have h2 : W.call 70 [.ref 2 0, .cptr (some 3) (enc t), .cptr (some 2) (encSu l s)] [bx0, bx1, .box [.int 0]] = some (.ret (enc u), wst k) := h1
    rw [h2]
    have hf : W.call 79 [.int 4] [.box [.int u.k, .int u.h, .vec .plain (some 3) (encs u.args)], bx1, .box [.int (k : Int)]] = some (.panic (errV 4), [.box [.int u.k, .int u.h, .vec .plain (some 3) (encs u.args)], bx1, .box [.int (k : Int)]]) := by
      rw [C, e_subst_fail]
      simp [below, belowSt, belowRes, belowL]
    cases hmu : may u with
    | true =>
      have e : toldR (.t u k) = (u, 0) := by simp [toldR, hmu]
      rw [hmu] at hm
      rw [e]
      simp [setC3, plI, plV, hm, ← enc_eta]
      exact gcE0 _ _ _ (by simp [below, belowL])
    | false =>
      have e : toldR (.t u k) = (.mk 0 0 [], 4) := by simp [toldR, hmu]
      rw [hmu] at hm
      rw [e]
      simp [setC3, plI, plV, hm, ← enc_eta]
      rw [hf]
      rfl
  | e e =>
    obtain ⟨k, h1⟩ := h1
    have h2 : W.call 70 [.ref 2 0, .cptr (some 3) (enc t), .cptr (some 2) (encSu l s)] [bx0, bx1, .box [.int 0]] = some (.panic (errV e), wst k) := h1
    rw [h2]
    simp [toldR]
    rfl
  | l _ _ => exact h1.elim

theorem Apply_spec {t : T} {l : List T} {s : Int} {o : Oj} (ht : t.size ≤ 1099511627776) (hl : sizes l ≤ 1099511627776) (h : may t = true → maySu l s = true → Big (.ap 0 t l s) o ∧ smallO o) :
    Ev 55 [enc t, encSu l s] (.tup [enc (applyR t l s o).1, .int (applyR t l s o).2]) := by
  have h1 := (pmay_spec t ht).p
  have h2 := (smay_spec l s hl).p
  unfold Ev
  rw [C, enc_eta t, e_subst_Apply, ← enc_eta, h1]
  cases hm : may t with
  | false => simp [applyR, hm, enc]
  | true =>
    simp only [obind_some', onBool_bool, Bool.not_true, bc_false]
    rw [h2]
    cases hs : maySu l s with
    | false => simp [applyR, hm, hs, enc]
    | true =>
      obtain ⟨hb, hsm⟩ := h hm hs
      have h3 := done_spec hb hsm
      have e : applyR t l s o = toldR o := by simp [applyR, hm, hs]
      rw [e]
      simp [h3, ← enc_eta]
      simp [below, belowL, belowSt, gd]
theorem ApplyF_spec {β : Int} (hβ : okBase β) {t : T} {l : List T} {s : Int} (ht : t.size ≤ 1099511627776) (hl : sizes l ≤ 1099511627776) (h1 : may t = true → okB β t) (h2 : maySu l s = true → ∀ x ∈ l, okB β x) :
    Ev 55 [enc t, encSu l s] (.tup [enc (applyF t l s).1, .int (applyF t l s).2]) :=
  Apply_spec ht hl fun m1 m2 => by
    obtain ⟨b, _, c⟩ := outF_ok hβ (h1 m1) (h2 m2) m1 m2
    exact ⟨b, c⟩
end Go.Proofs.SP

namespace Go.Proofs.SP
open Go Go.AM
set_option maxRecDepth 20000

theorem e_general_General (O : Oracle) (l0 : (List V)) (n1 : Int) (n2 : Int) (l3 : (List V)) (n4 : Int) : callBody Try.prog cfg O 54 [.vec .plain (some 3) l0, .agg [.int n1, .int n2, .vec .plain (some 3) l3], .int n4] [] =
  obind (pcall O 66 [V.agg [V.int n1, V.int n2, V.vec .plain (some 3) l3]]) fun r1 => onTup r1 fun c2 => onCons c2 fun v3 c4 => onVec (some 3) v3 fun l5 => onCons c4 fun
  v6 c7 => onStruct [CT.int, CT.int, CT.slice (some 3)] v6 fun n8 n9 l10 => onNil c7 (gd (decide (0 ≤ IntKind.i64.wrap ((↑l0.length : Int) + (↑l5.length : Int))) && decide
  (IntKind.i64.wrap ((↑l0.length : Int) + (↑l5.length : Int)) = IntKind.i64.wrap ((↑l0.length : Int) + (↑l5.length : Int))) && roomFor Try.prog 26 (IntKind.i64.wrap
  ((↑l0.length : Int) + (↑l5.length : Int))).toNat && true && true) (gd (true && decide (0 + (IntKind.i64.wrap ((↑l0.length : Int) + (↑l5.length : Int))).toNat ≤ (List.replicate
  (IntKind.i64.wrap ((↑l0.length : Int) + (↑l5.length : Int))).toNat (V.agg [V.int 0, V.int 0, V.vec .plain (some 3) []])).length)) (gd (decide (0 ≤ (↑(min l0.length
  (IntKind.i64.wrap ((↑l0.length : Int) + (↑l5.length : Int))).toNat) : Int)) && decide ((↑(min l0.length (IntKind.i64.wrap ((↑l0.length : Int) + (↑l5.length : Int))).toNat) : Int)
  ≤ (↑(IntKind.i64.wrap ((↑l0.length : Int) + (↑l5.length : Int))).toNat : Int)) && decide ((↑(IntKind.i64.wrap ((↑l0.length : Int) + (↑l5.length : Int))).toNat : Int) ≤
  (↑(IntKind.i64.wrap ((↑l0.length : Int) + (↑l5.length : Int))).toNat : Int)) && true) (gd (true && decide (0 + (↑(min l0.length (IntKind.i64.wrap ((↑l0.length : Int) + (↑l5.length
  : Int))).toNat) : Int).toNat + ((↑(IntKind.i64.wrap ((↑l0.length : Int) + (↑l5.length : Int))).toNat : Int).toNat - (↑(min l0.length (IntKind.i64.wrap ((↑l0.length : Int) +
  (↑l5.length : Int))).toNat) : Int).toNat) ≤ ([] ++ List.take (min l0.length (IntKind.i64.wrap ((↑l0.length : Int) + (↑l5.length : Int))).toNat) l0 ++ List.drop (0 + min l0.length
  (IntKind.i64.wrap ((↑l0.length : Int) + (↑l5.length : Int))).toNat) (List.replicate (IntKind.i64.wrap ((↑l0.length : Int) + (↑l5.length : Int))).toNat (V.agg [V.int 0, V.int 0,
  V.vec .plain (some 3) []]))).length)) (obind (pcall O 64 [V.agg [V.int n1, V.int n2, V.vec .plain (some 3) l3]]) fun r11 => onBool r11 fun b12 => bc b12 (some
  (Out.ret (V.tup [V.agg [V.vec .plain (some 3) [], V.int 0, V.int 0, V.vec .plain (some 3) [], V.bool false], V.agg [V.int 0, V.int 0, V.vec .plain (some 3) []], V.int 1]), []))
  (obind (O.call 35 [V.vec .plain (some 3) l0, V.fn 64 [] []] [Res.row (some 3) (List.take (0 + (↑(min l0.length
  (IntKind.i64.wrap ((↑l0.length : Int) + (↑l5.length : Int))).toNat) : Int).toNat) ([] ++ List.take (min l0.length (IntKind.i64.wrap ((↑l0.length : Int) + (↑l5.length :
  Int))).toNat) l0 ++ List.drop (0 + min l0.length (IntKind.i64.wrap ((↑l0.length : Int) + (↑l5.length : Int))).toNat) (List.replicate (IntKind.i64.wrap ((↑l0.length : Int) +
  (↑l5.length : Int))).toNat (V.agg [V.int 0, V.int 0, V.vec .plain (some 3) []]))) ++ List.take (min l5.length ((↑(IntKind.i64.wrap ((↑l0.length : Int) + (↑l5.length : Int))).toNat
  : Int).toNat - (↑(min l0.length (IntKind.i64.wrap ((↑l0.length : Int) + (↑l5.length : Int))).toNat) : Int).toNat)) l5 ++ List.drop (0 + (↑(min l0.length (IntKind.i64.wrap
  ((↑l0.length : Int) + (↑l5.length : Int))).toNat) : Int).toNat + min l5.length ((↑(IntKind.i64.wrap ((↑l0.length : Int) + (↑l5.length : Int))).toNat : Int).toNat - (↑(min
  l0.length (IntKind.i64.wrap ((↑l0.length : Int) + (↑l5.length : Int))).toNat) : Int).toNat)) ([] ++ List.take (min l0.length (IntKind.i64.wrap ((↑l0.length : Int) + (↑l5.length :
  Int))).toNat) l0 ++ List.drop (0 + min l0.length (IntKind.i64.wrap ((↑l0.length : Int) + (↑l5.length : Int))).toNat) (List.replicate (IntKind.i64.wrap ((↑l0.length : Int) +
  (↑l5.length : Int))).toNat (V.agg [V.int 0, V.int 0, V.vec .plain (some 3) []]))))]) fun r13 => onRet r13.fst (fun v14 => onBool v14 fun b15 => bc b15 (some (Out.ret (V.tup [V.agg
  [V.vec .plain (some 3) [], V.int 0, V.int 0, V.vec .plain (some 3) [], V.bool false], V.agg [V.int 0, V.int 0, V.vec .plain (some 3) []], V.int 1]), [])) (bc (decide (n4 < 0))
  (some (Out.ret (V.tup [V.agg [V.vec .plain (some 3) [], V.int 0, V.int 0, V.vec .plain (some 3) [], V.bool false], V.agg [V.int 0, V.int 0, V.vec .plain (some 3) []], V.int 1]),
  [])) (bc (decide ((↑(IntKind.i64.wrap ((↑l0.length : Int) + (↑l5.length : Int))).toNat : Int) > 40)) (some (Out.ret (V.tup [V.agg [V.vec .plain (some 3) [], V.int 0, V.int 0,
  V.vec .plain (some 3) [], V.bool false], V.agg [V.int 0, V.int 0, V.vec .plain (some 3) []], V.int 1]), [])) (obind (O.call 35 [V.row (some 3)
  0 0 (IntKind.i64.wrap ((↑l0.length : Int) + (↑l5.length : Int))).toNat, V.fn 65 [] []] r13.snd) fun r16 => onRet r16.fst (fun v17 => onBool v17 fun b18 => bc b18
  (some (Out.ret (V.tup [V.agg [V.vec .plain (some 3) [], V.int 0, V.int 0, V.vec .plain (some 3) [], V.bool false], V.agg [V.int 0, V.int 0, V.vec .plain (some 3) []], V.int 5]),
  [])) (obind (pcall O 65 [V.agg [V.int n8, V.int n9, V.vec .plain (some 3) l10]]) fun r19 => onBool r19 fun b20 => bc b20 (some (Out.ret (V.tup [V.agg [V.vec
  .plain (some 3) [], V.int 0, V.int 0, V.vec .plain (some 3) [], V.bool false], V.agg [V.int 0, V.int 0, V.vec .plain (some 3) []], V.int 5]), [])) (obind (pcall O 67
  [V.int (↑(IntKind.i64.wrap ((↑l0.length : Int) + (↑l5.length : Int))).toNat : Int)]) fun r21 => onStruct [CT.slice (some 3), CT.int] r21 fun l22 n23 => obind (O.loop
  54 12 [V.int 0, V.loc false (some 3) (V.agg [V.int 6, V.int n4, V.vec .plain (some 3) l22]), V.row (some 3) 0 0 (IntKind.i64.wrap ((↑l0.length : Int) + (↑l5.length
  : Int))).toNat, V.loc true (some 5) (V.agg [V.vec Mode.full (some 3) [], V.int 0, V.int 0, V.vec Mode.full (some 3) [], V.bool false]), V.loc true (some 3) (V.agg [V.int 0, V.int
  0, V.vec Mode.full (some 3) []]), V.loc false (some 3) (V.agg [V.int n8, V.int n9, V.vec .plain (some 3) l10]), V.int (↑l5.length : Int)] r16.snd) fun r24 => onEx r24.fst none
  none (fun i25 => bc (i25.beq 1) (onCons r24.snd.fst fun v26 c27 => onRowV (some 3) v26 fun r28 lo29 n30 => onCons c27 fun v31 c32 => onLoc (some 5) v31 fun d33 v34 => onCons c32
  fun v35 c36 => onLoc (some 3) v35 fun d37 v38 => onCons c36 fun v39 c40 => onLoc (some 3) v39 fun d41 v42 => onStruct [CT.int, CT.int, CT.slice (some 3)] (bif d41 then cleanV v42
  else v42) fun n43 n44 l45 => onCons c40 fun v46 c47 => onLoc (some 3) v46 fun d48 v49 => onStruct [CT.int, CT.int, CT.slice (some 3)] (bif d48 then cleanV v49 else v49) fun n50
  n51 l52 => onNil c47 (obind (O.loop 54 16 [V.int 0, V.row (some 3) r28 lo29 n30, V.loc true (some 5) v34, V.loc true (some 3) v38, V.loc false (some 3) (V.agg
  [V.int n43, V.int n44, V.vec .plain (some 3) l45]), V.loc false (some 3) (V.agg [V.int n50, V.int n51, V.vec .plain (some 3) l52]), V.int (↑n30 : Int)] r24.snd.snd) fun r53 =>
  onEx r53.fst none none (fun i54 => bc (i54.beq 3) (onCons r53.snd.fst fun v55 c56 => onLoc (some 5) v55 fun d57 v58 => onCons c56 fun v59 c60 => onLoc (some 3) v59 fun d61 v62 =>
  onCons c60 fun v63 c64 => onLoc (some 3) v63 fun d65 v66 => onStruct [CT.int, CT.int, CT.slice (some 3)] (bif d65 then cleanV v66 else v66) fun n67 n68 l69 => onCons c64 fun v70
  c71 => onLoc (some 3) v70 fun d72 v73 => onStruct [CT.int, CT.int, CT.slice (some 3)] (bif d72 then cleanV v73 else v73) fun n74 n75 l76 => onCons c71 fun v77 c78 => onRowV (some
  3) v77 fun r79 lo80 n81 => onNil c78 (getR r53.snd.snd r79 fun x82 => onRow x82 fun sh83 l84 => gd (decide (sh83 = some 3) && decide (lo80 + n81 ≤ l84.length)) (gd (below 0 (V.tup
  [V.agg [V.vec .plain (some 3) (List.take n81 (List.drop lo80 l84)), V.int n74, V.int n75, V.vec .plain (some 3) l76, V.bool false], V.agg [V.int n67, V.int n68, V.vec .plain (some
  3) l69], V.int 0]) && belowSt 0 []) (some (Out.ret (V.tup [V.agg [V.vec .plain (some 3) (List.take n81 (List.drop lo80 l84)), V.int n74, V.int n75, V.vec .plain (some 3) l76,
  V.bool false], V.agg [V.int n67, V.int n68, V.vec .plain (some 3) l69], V.int 0]), []))))) none) fun v85 => none)) none) fun v86 => none))) fun p87 => none)))) fun p88 =>
  none)))))) := by kernel_rfl

theorem e_general_General_L12 (O : Oracle) (n0 : Int) (n1 : Int) (n2 : Int) (l3 : (List V)) (r4 : Nat) (n5 : Nat) (n6 : Nat) (v7 : V) (v8 : V) (n9 : Int) (n10 : Int) (l11 : (List V)) (n12 : Int) (st : St) : loopBody Try.prog cfg O 54 12 [.int n0, .loc false (some 3) (.agg [.int n1, .int n2, .vec .plain (some 3) l3]), .row (some 3) r4 n5 n6, .loc true (some 5) v7, .loc true (some 3) v8, .loc false (some 3) (.agg [.int n9, .int n10, .vec .plain (some 3) l11]), .int n12] st =
  bc (decide (n0 < n12)) (O.2 54 12 [V.int (IntKind.i64.wrap (n0 + 1)), V.loc false (some 3) (V.agg [V.int 3, V.int 0, V.vec .plain (some 3) [V.agg [V.int n1, V.int
  n2, V.vec .plain (some 3) l3]]]), V.row (some 3) r4 n5 n6, V.loc true (some 5) v7, V.loc true (some 3) v8, V.loc false (some 3) (V.agg [V.int n9, V.int n10, V.vec .plain (some 3)
  l11]), V.int n12] st) (some (Ex.exit 1, [V.row (some 3) r4 n5 n6, V.loc true (some 5) v7, V.loc true (some 3) v8, V.loc false (some 3) (V.agg [V.int n1, V.int n2, V.vec .plain
  (some 3) l3]), V.loc false (some 3) (V.agg [V.int n9, V.int n10, V.vec .plain (some 3) l11])], st)) := by kernel_rfl

theorem e_general_General_L16 (O : Oracle) (i n k h k2 h2 : Int) (m : Nat) (xs ys zs : List V) : loopBody Try.prog cfg O 54 16 [.int i, .row (some 3) 0 0 m, .loc true (some 5) (.agg [.vec .full (some 3) [], .int 0, .int 0, .vec .full (some 3) [], .bool false]), .loc true (some 3) (.agg [.int 0, .int 0, .vec .full (some 3) []]), .loc false (some 3) (.agg [.int k, .int h, .vec .plain (some 3) xs]), .loc false (some 3) (.agg [.int k2, .int h2, .vec .plain (some 3) ys]), .int n] [.row (some 3) zs] =
  bc (decide (i < n)) (gd (decide (0 ≤ i) && decide (i < (↑m : Int))) (gd (true && decide (0 + i.toNat < zs.length)) (onStruct [CT.int, CT.int, CT.slice (some 3)] (zs.getD (0 +
  i.toNat) V.undef) fun n1 n2 l3 => obind (pcall O 45 [V.agg [V.int n1, V.int n2, V.vec .plain (some 3) l3]]) fun r4 => onStruct [CT.int, CT.int, CT.slice (some 3)] r4 fun
  n5 n6 l7 => gd (decide (0 ≤ i) && decide (i < (↑m : Int))) (gd (true && !isGrow (V.agg [V.int n5, V.int n6, V.vec .plain (some 3) l7]) && decide (0 + i.toNat < zs.length)) (O.2
  54 16 [V.int (IntKind.i64.wrap (i + 1)), V.row (some 3) 0 0 m, V.loc true (some 5) (V.agg [V.vec Mode.full (some 3) [], V.int 0, V.int 0, V.vec Mode.full (some 3)
  [], V.bool false]), V.loc true (some 3) (V.agg [V.int 0, V.int 0, V.vec Mode.full (some 3) []]), V.loc false (some 3) (V.agg [V.int k, V.int h, V.vec .plain (some 3) xs]), V.loc
  false (some 3) (V.agg [V.int k2, V.int h2, V.vec .plain (some 3) ys]), V.int n] [Res.row (some 3) (zs.set (0 + i.toNat) (V.agg [V.int n5, V.int n6, V.vec .plain (some 3)
  l7]))]))))) (some (Ex.exit 3, [V.loc true (some 5) (V.agg [V.vec Mode.full (some 3) [], V.int 0, V.int 0, V.vec Mode.full (some 3) [], V.bool false]), V.loc true (some 3) (V.agg
  [V.int 0, V.int 0, V.vec Mode.full (some 3) []]), V.loc false (some 3) (V.agg [V.int k, V.int h, V.vec .plain (some 3) xs]), V.loc false (some 3) (V.agg [V.int k2, V.int h2, V.vec
  .plain (some 3) ys]), V.row (some 3) 0 0 m], [Res.row (some 3) zs])) := by kernel_rfl

theorem e_general_General_1 (O : Oracle) (n0 : Int) (n1 : Int) (l2 : (List V)) : callBody Try.prog cfg O 64 [.agg [.int n0, .int n1, .vec .plain (some 3) l2]] [] =
  obind (pcall O 32 [V.agg [V.int n0, V.int n1, V.vec .plain (some 3) l2]]) fun r1 => onBool r1 fun b2 => some (Out.ret (V.bool !b2), []) := by kernel_rfl

theorem e_general_General_2 (O : Oracle) (n0 : Int) (n1 : Int) (l2 : (List V)) : callBody Try.prog cfg O 65 [.agg [.int n0, .int n1, .vec .plain (some 3) l2]] [] =
  some (Out.ret (V.bool (n0 != 2)), []) := by kernel_rfl

theorem e_sign_Split (O : Oracle) (n0 : Int) (n1 : Int) (l2 : (List V)) : callBody Try.prog cfg O 66 [.agg [.int n0, .int n1, .vec .plain (some 3) l2]] [] =
  obind (O.call 46 [V.agg [V.int n0, V.int n1, V.vec .plain (some 3) l2]] [Res.box [V.vec Mode.full (some 3) []], Res.box [V.int n0, V.int n1, V.vec .plain (some 3) l2]])
  fun r1 => onRet r1.fst (fun v2 => onFn v2 fun g3 a4 b5 => obind (O.call g3 (a4 ++ [V.yld (List.length r1.snd)] ++ b5) (r1.snd ++ [Res.loop 66 6 [V.ref 1 0, V.ref 0 0]
  LSt.ready none])) fun r6 => onRet r6.fst (fun v7 => getR r6.snd (List.length r1.snd) fun x8 => onLoop x8 fun f9 k10 vs11 s12 p13 => onPend s12 p13 (getR (List.set r6.snd
  (List.length r1.snd) Res.dead) 0 fun x14 => onBox x14 fun c15 => gd (decide (1 ≤ c15.length) && true) (onVec (some 3) (cleanV (AM.partOf c15 0 none)) fun l16 => getR (List.set
  r6.snd (List.length r1.snd) Res.dead) 1 fun x17 => onBox x17 fun c18 => gd (decide (3 ≤ c18.length) && true) (onCells [CT.int, CT.int, CT.slice (some 3)] (List.map plain1
  (List.take 3 (List.drop 0 c18))) fun n19 n20 l21 => obind (pcall O 45 [V.agg [V.int n19, V.int n20, V.vec .plain (some 3) l21]]) fun r22 => onStruct [CT.int, CT.int,
  CT.slice (some 3)] r22 fun n23 n24 l25 => gd (below 0 (V.tup [V.vec .plain (some 3) l16, V.agg [V.int n23, V.int n24, V.vec .plain (some 3) l25]]) && belowSt 0 []) (some (Out.ret
  (V.tup [V.vec .plain (some 3) l16, V.agg [V.int n23, V.int n24, V.vec .plain (some 3) l25]]), []))))) none fun i26 => none) fun p27 => none) fun p28 => none := by kernel_rfl

theorem e_sign_Split_R6 (O : Oracle) (q r0 r1 : Nat) (k h k2 h2 : Int) (xs ys : List V) (st : St) : roundBody Try.prog cfg O q 66 6 [.ref r0 0, .ref r1 0] [.agg [.int k, .int h, .vec .plain (some 3) xs], .agg [.int k2, .int h2, .vec .plain (some 3) ys]] st =
  getR st q fun x1 => onLoop x1 fun f2 k3 vs4 s5 p6 => onReady s5 p6 (getR (List.set st q (Res.loop f2 k3 vs4 LSt.busy none)) r1 fun x7 => onBox x7 fun c8 => gd (decide (0 <
  c8.length) && true && true) (onRoom2 (some 3) (c8.getD 0 V.undef) (fun l9 => obind (pcall O 45 [V.agg [V.int k, V.int h, V.vec .plain (some 3) xs]]) fun r10 => onStruct
  [CT.int, CT.int, CT.slice (some 3)] r10 fun n11 n12 l13 => gd (true && roomFor Try.prog 26 (l9.length + [V.agg [V.int n11, V.int n12, V.vec .plain (some 3)
  l13]].length)) (getR ((List.set st q (Res.loop f2 k3 vs4 LSt.busy none)).set r1 (Res.box (c8.set 0 (V.vec .plain (some 3) l9)))) r1 fun x14 => onBox x14 fun c15 => gd (decide (1 ≤
  c15.length) && true) (getR (((List.set st q (Res.loop f2 k3 vs4 LSt.busy none)).set r1 (Res.box (c8.set 0 (V.vec .plain (some 3) l9)))).set r1 (Res.box (setCells c15 0 [V.vec
  Mode.grow (some 3) (l9 ++ [V.agg [V.int n11, V.int n12, V.vec .plain (some 3) l13]])]))) r0 fun x16 => onBox x16 fun c17 => gd (decide (3 ≤ c17.length) && true) (getR ((((List.set
  st q (Res.loop f2 k3 vs4 LSt.busy none)).set r1 (Res.box (c8.set 0 (V.vec .plain (some 3) l9)))).set r1 (Res.box (setCells c15 0 [V.vec Mode.grow (some 3) (l9 ++ [V.agg [V.int
  n11, V.int n12, V.vec .plain (some 3) l13]])]))).set r0 (Res.box (setCells c17 0 [V.int k2, V.int h2, V.vec .plain (some 3) ys]))) q fun x18 => onLoop x18 fun f19 k20 vs21 s22 p23
  => onBusy s22 (some (true, ((((List.set st q (Res.loop f2 k3 vs4 LSt.busy none)).set r1 (Res.box (c8.set 0 (V.vec .plain (some 3) l9)))).set r1 (Res.box (setCells c15 0 [V.vec
  Mode.grow (some 3) (l9 ++ [V.agg [V.int n11, V.int n12, V.vec .plain (some 3) l13]])]))).set r0 (Res.box (setCells c17 0 [V.int k2, V.int h2, V.vec .plain (some 3) ys]))).set q
  (Res.loop f19 k20 vs21 LSt.ready none))))))) fun l24 => obind (pcall O 45 [V.agg [V.int k, V.int h, V.vec .plain (some 3) xs]]) fun r25 => onStruct [CT.int, CT.int,
  CT.slice (some 3)] r25 fun n26 n27 l28 => gd (true && roomFor Try.prog 26 (l24.length + [V.agg [V.int n26, V.int n27, V.vec .plain (some 3) l28]].length)) (getR
  ((List.set st q (Res.loop f2 k3 vs4 LSt.busy none)).set r1 (Res.box (c8.set 0 (V.vec .plain (some 3) l24)))) r1 fun x29 => onBox x29 fun c30 => gd (decide (1 ≤ c30.length) &&
  true) (getR (((List.set st q (Res.loop f2 k3 vs4 LSt.busy none)).set r1 (Res.box (c8.set 0 (V.vec .plain (some 3) l24)))).set r1 (Res.box (setCells c30 0 [V.vec Mode.grow (some 3)
  (l24 ++ [V.agg [V.int n26, V.int n27, V.vec .plain (some 3) l28]])]))) r0 fun x31 => onBox x31 fun c32 => gd (decide (3 ≤ c32.length) && true) (getR ((((List.set st q (Res.loop f2
  k3 vs4 LSt.busy none)).set r1 (Res.box (c8.set 0 (V.vec .plain (some 3) l24)))).set r1 (Res.box (setCells c30 0 [V.vec Mode.grow (some 3) (l24 ++ [V.agg [V.int n26, V.int n27,
  V.vec .plain (some 3) l28]])]))).set r0 (Res.box (setCells c32 0 [V.int k2, V.int h2, V.vec .plain (some 3) ys]))) q fun x33 => onLoop x33 fun f34 k35 vs36 s37 p38 => onBusy s37
  (some (true, ((((List.set st q (Res.loop f2 k3 vs4 LSt.busy none)).set r1 (Res.box (c8.set 0 (V.vec .plain (some 3) l24)))).set r1 (Res.box (setCells c30 0 [V.vec Mode.grow (some
  3) (l24 ++ [V.agg [V.int n26, V.int n27, V.vec .plain (some 3) l28]])]))).set r0 (Res.box (setCells c32 0 [V.int k2, V.int h2, V.vec .plain (some 3) ys]))).set q (Res.loop f34 k35
  vs36 LSt.ready none)))))))) := by kernel_rfl

end Go.Proofs.SP

/-! sign.Split. -/
namespace Go.Proofs.SP
open Go Go.AM Go.Ama

def boxL (zs : List T) : Res := .box [if zs = [] then .vec .full (some 3) [] else .vec .grow (some 3) (encs zs)]

theorem psplitR_spec (zs : List T) (a b u : T) (z : Res) (hs : a.size ≤ 1099511627776) (hl : zs.length ≤ 1099511627776) :
    W.round 3 66 6 [.ref 1 0, .ref 0 0] [enc a, enc b] [boxL zs, boxT u, z, .loop 66 6 [.ref 1 0, .ref 0 0] .ready none] = some (true, [boxL (zs ++ [a]), boxT b, z, .loop 66 6 [.ref 1 0, .ref 0 0] .ready none]) := by
  have ho := (pown_spec a hs).p
  have hr : roomFor Try.prog 26 (zs.length + 1) = true := room24 (by omega)
  rw [Rd, enc_eta a, enc_eta b, e_sign_Split_R6]
  unfold boxL boxT
  by_cases c : zs = []
  · subst c
    simp [getR, onReady, onRoom2, ← enc_eta, setCells, room24, onBusy, ho]
  · simp [getR, onReady, onRoom2, ← enc_eta, setCells, hr, onBusy, c, ho]

theorem ppisL_spec : ∀ (n : Nat) (t : T) (zs : List T) (u : T), t.size ≤ n → zs.length + t.size ≤ 1099511627776 →
    W.loop 62 0 [.ref 2 0, .yld 3] [boxL zs, boxT u, boxT t, .loop 66 6 [.ref 1 0, .ref 0 0] .ready none] =
      some (.exit 0, [], [boxL (zs ++ (split t).1), boxT (if (split t).1 = [] then u else (split t).2), boxT (split t).2, .loop 66 6 [.ref 1 0, .ref 0 0] .ready none]) := by
  intro n
  induction n with
  | zero => intro t _ _ h; have := size_pos t; omega
  | succ n ih =>
    intro t zs u h hs
    have hp := size_pos t
    rw [L]
    conv => lhs; rw [show boxT t = .box [.int t.k, .int t.h, .vec .plain (some 3) (encs t.args)] from rfl]
    rw [e_sign_pis_1_L0__b, encs_length, beq_len2, beq_int]
    by_cases c1 : t.k = 1
    · by_cases c2 : t.args.length = 2
      · obtain ⟨a, b, hab⟩ := len2 c2
        have ha := args_size (t := t) (b := a) (by rw [hab]; simp)
        have hb := args_size (t := t) (b := b) (by rw [hab]; simp)
        have g0 : getI (encs t.args) 0 = enc a := by rw [hab]; rfl
        have g1 : getI (encs t.args) 1 = enc b := by rw [hab]; rfl
        have hrd := psplitR_spec zs a b u (boxT t) (by omega) (by omega)
        have := ih b (zs ++ [a]) b (by omega) (by simp; omega)
        rw [split_pi c1 hab]
        simp only [c1, c2, decide_true, bc_true, g0, g1, onStruct_enc, ← enc_eta, Bool.true_and, show decide ((0 : Int) < ((2 : Nat) : Int)) = true from rfl, show decide ((1 : Int) < ((2 : Nat) : Int)) = true from rfl, gd_true, onLoop_loop, onPend_ready]
        have hbt : boxT t = .box [.int 1, .int t.h, .vec .plain (some 3) (encs t.args)] := by unfold boxT; rw [c1]
        rw [hbt] at hrd
        rw [hrd, obind_some']
        simp only [Bool.not_true, bc_false]
        have hget : ∀ {R : Type} (K : Res → Option R), getR [boxL (zs ++ [a]), boxT b, Res.box [V.int 1, V.int t.h, V.vec .plain (some 3) (encs t.args)], Res.loop 66 6 [V.ref 1 0, V.ref 0 0] LSt.ready none] 2 K = K (Res.box [V.int 1, V.int t.h, V.vec .plain (some 3) (encs t.args)]) := fun K => rfl
        rw [hget, onBox_box]
        have hc : cleanV (AM.partOf [V.int 1, V.int t.h, V.vec .plain (some 3) (encs t.args)] 2 none) = .vec .plain (some 3) (encs t.args) := rfl
        rw [hc, onVec_plain, g1, onStruct_enc, hget, onBox_box]
        have h1l : decide ((1 : Int) < ((encs t.args).length : Int)) = true := by rw [encs_length, c2]; rfl
        rw [h1l]
        simp only [List.length_cons, List.length_nil, Nat.zero_add, Nat.reduceAdd, Nat.le_refl, decide_true, Bool.and_self, gd_true]
        have hset : List.set [boxL (zs ++ [a]), boxT b, Res.box [V.int 1, V.int t.h, V.vec .plain (some 3) (encs t.args)], Res.loop 66 6 [V.ref 1 0, V.ref 0 0] LSt.ready none] 2
            (Res.box (setCells [V.int 1, V.int t.h, V.vec .plain (some 3) (encs t.args)] 0 [V.int b.k, V.int b.h, V.vec .plain (some 3) (encs b.args)])) = [boxL (zs ++ [a]), boxT b, boxT b, .loop 66 6 [.ref 1 0, .ref 0 0] .ready none] := rfl
        rw [hset, this]
        rw [show zs ++ a :: (split b).1 = (zs ++ [a]) ++ (split b).1 by simp]
        simp only [if_neg (List.cons_ne_nil a (split b).1)]
        by_cases c : (split b).1 = []
        · have hsb : (split b).2 = b := by
            by_cases c' : b.k = 1 ∧ b.args.length = 2
            · obtain ⟨a', b', hab'⟩ := len2 c'.2
              rw [split_pi c'.1 hab'] at c; cases c
            · rw [split_end c']
          rw [if_pos c, hsb]
        · rw [if_neg c]
      · rw [split_end fun c => c2 c.2]
        simp only [c1, c2, decide_true, decide_false, bc_true, bc_false, List.append_nil, if_true]
        rw [← c1]
        rfl
    · rw [split_end fun c => c1 c.1]
      simp only [c1, decide_false, bc_false, List.append_nil, if_true]
      rfl

theorem psplit_spec (t : T) (hs : t.size ≤ 1099511627776) : Ev 66 [enc t] (.tup [.vec .plain (some 3) (encs (split t).1), enc (split t).2]) := by
  unfold Ev
  have h := ppisL_spec t.size t [] t (Nat.le_refl _) (by simp; omega)
  simp only [List.nil_append] at h
  have hlast : (if (split t).1 = [] then t else (split t).2) = (split t).2 := by
    by_cases c' : t.k = 1 ∧ t.args.length = 2
    · obtain ⟨a', b', hab'⟩ := len2 c'.2
      rw [split_pi c'.1 hab', if_neg (List.cons_ne_nil _ _)]
    · rw [split_end c', if_pos rfl]
  rw [hlast] at h
  have hsz := split_size t.size t (Nat.le_refl _)
  have ho := (pown_spec (split t).2 (by omega)).p
  have hc : W.call 62 [.yld 3, .ref 2 0] [boxL [], boxT t, .box [.int t.k, .int t.h, .vec .plain (some 3) (encs t.args)], .loop 66 6 [.ref 1 0, .ref 0 0] .ready none] =
      some (.ret (.tup []), [boxL (split t).1, boxT (split t).2, boxT (split t).2, .loop 66 6 [.ref 1 0, .ref 0 0] .ready none]) := by
    rw [C, e_sign_pis_1__b]
    have h' : W.loop 62 0 [V.ref 2 0, V.yld 3] [boxL [], boxT t, Res.box [V.int t.k, V.int t.h, V.vec .plain (some 3) (encs t.args)], .loop 66 6 [.ref 1 0, .ref 0 0] .ready none] = _ := h
    rw [h', obind_some', onEx_exit]
    rfl
  rw [C]
  conv => lhs; rw [enc_eta]
  have hpis : W.call 46 [V.agg [V.int t.k, V.int t.h, V.vec .plain (some 3) (encs t.args)]] [Res.box [V.vec Mode.full (some 3) []], Res.box [V.int t.k, V.int t.h, V.vec .plain (some 3) (encs t.args)]] =
      some (.ret (V.fn 62 [] [V.ref 2 0]), [Res.box [V.vec Mode.full (some 3) []], Res.box [V.int t.k, V.int t.h, V.vec .plain (some 3) (encs t.args)], Res.box [V.int t.k, V.int t.h, V.vec .plain (some 3) (encs t.args)]]) := by
    rw [C, e_sign_pis__b]; rfl
  rw [e_sign_Split, hpis, obind_some', onRet_ret, onFn_fn]
  have hc' : W.call 62 ([] ++ [V.yld (List.length [Res.box [V.vec Mode.full (some 3) []], Res.box [V.int t.k, V.int t.h, V.vec .plain (some 3) (encs t.args)], Res.box [V.int t.k, V.int t.h, V.vec .plain (some 3) (encs t.args)]])] ++ [V.ref 2 0])
      ([Res.box [V.vec Mode.full (some 3) []], Res.box [V.int t.k, V.int t.h, V.vec .plain (some 3) (encs t.args)], Res.box [V.int t.k, V.int t.h, V.vec .plain (some 3) (encs t.args)]] ++ [Res.loop 66 6 [V.ref 1 0, V.ref 0 0] LSt.ready none]) = _ := hc
  rw [hc', obind_some', onRet_ret]
  have hget3 : ∀ {R : Type} (K : Res → Option R), getR [boxL (split t).1, boxT (split t).2, boxT (split t).2, Res.loop 66 6 [V.ref 1 0, V.ref 0 0] LSt.ready none] 3 K = K (Res.loop 66 6 [V.ref 1 0, V.ref 0 0] LSt.ready none) := fun K => rfl
  have hget0 : ∀ {R : Type} (K : Res → Option R), getR (List.set [boxL (split t).1, boxT (split t).2, boxT (split t).2, Res.loop 66 6 [V.ref 1 0, V.ref 0 0] LSt.ready none] 3 Res.dead) 0 K = K (boxL (split t).1) := fun K => rfl
  have hget1 : ∀ {R : Type} (K : Res → Option R), getR (List.set [boxL (split t).1, boxT (split t).2, boxT (split t).2, Res.loop 66 6 [V.ref 1 0, V.ref 0 0] LSt.ready none] 3 Res.dead) 1 K = K (boxT (split t).2) := fun K => rfl
  have h3 : List.length [Res.box [V.vec Mode.full (some 3) []], Res.box [V.int t.k, V.int t.h, V.vec .plain (some 3) (encs t.args)], Res.box [V.int t.k, V.int t.h, V.vec .plain (some 3) (encs t.args)]] = 3 := rfl
  simp only [h3]
  rw [hget3, onLoop_loop, onPend_ready, hget0]
  unfold boxL
  rw [onBox_box]
  have hcl : cleanV (AM.partOf [if (split t).1 = [] then V.vec .full (some 3) [] else V.vec .grow (some 3) (encs (split t).1)] 0 none) = .vec .plain (some 3) (encs (split t).1) := by
    by_cases c : (split t).1 = []
    · rw [c]; rfl
    · rw [if_neg c]; rfl
  rw [hcl, onVec_plain]
  have hget1' := @hget1
  unfold boxL at hget1'
  rw [hget1']
  unfold boxT
  rw [onBox_box]
  have hparts : List.map plain1 (List.take 3 (List.drop 0 [V.int (split t).2.k, V.int (split t).2.h, V.vec .plain (some 3) (encs (split t).2.args)])) = [V.int (split t).2.k, V.int (split t).2.h, V.vec .plain (some 3) (encs (split t).2.args)] := rfl
  rw [hparts, onCells3, ← enc_eta, ho, obind_some', onStruct_enc, ← enc_eta]
  simp only [List.length_cons, List.length_nil, Nat.zero_add, Nat.reduceAdd, Nat.le_refl, decide_true, Bool.and_self, gd_true, below, belowL, below_encs, below_enc, belowSt]
end Go.Proofs.SP

namespace Go.Proofs.SP
open Go Go.AM
set_option maxRecDepth 20000

theorem e_slices_ContainsFunc_api_Term_api_Term__r (O : Oracle) (m : Nat) (g1 : Nat) (l2 l3 zs : List V) : callBody Try.prog cfg O 35 [.row (some 3) 0 0 m, .fn g1 l2 l3] [.row (some 3) zs] =
  obind (O.call 53 [V.row (some 3) 0 0 m, V.fn g1 l2 l3] [Res.row (some 3) zs]) fun r1 => onRet r1.fst (fun v2 => onInt v2 fun n3 => gcE [Res.row
  (some 3) zs].length (V.bool (decide (n3 ≥ 0))) r1.snd) fun p4 => none := by kernel_rfl

theorem e_slices_IndexFunc_api_Term_api_Term__r (O : Oracle) (m : Nat) (g1 : Nat) (l2 l3 zs : List V) : callBody Try.prog cfg O 53 [.row (some 3) 0 0 m, .fn g1 l2 l3] [.row (some 3) zs] =
  obind (O.loop 53 2 [V.int 0, V.row (some 3) 0 0 m, V.fn g1 l2 l3, V.int (↑m : Int)] [Res.row (some 3) zs]) fun r1 => onEx r1.fst none (onCons
  r1.snd.fst fun v2 c3 => onInt v2 fun n4 => onNil c3 (gcE [Res.row (some 3) zs].length (V.int n4) r1.snd.snd)) (fun i5 => bc (i5.beq 0) (onNil r1.snd.fst (gcE [Res.row (some 3)
  zs].length (V.int (-1)) r1.snd.snd)) none) fun v6 => none := by kernel_rfl

theorem e_slices_IndexFunc_api_Term_api_Term_L2__r (O : Oracle) (n0 : Int) (m : Nat) (g2 : Nat) (l3 l4 zs : List V) (n5 : Int) : loopBody Try.prog cfg O 53 2 [.int n0, .row (some 3) 0 0 m, .fn g2 l3 l4, .int n5] [.row (some 3) zs] =
  bc (decide (n0 < n5)) (gd (decide (0 ≤ n0) && decide (n0 < (↑m : Int))) (gd (true && decide (0 + n0.toNat < zs.length)) (onStruct [CT.int, CT.int, CT.slice (some 3)] (zs.getD (0 +
  n0.toNat) V.undef) fun n1 n2 l3_1 => bc (cfg.pure g2) (obind (pcall O g2 (l3 ++ [V.agg [V.int n1, V.int n2, V.vec .plain (some 3) l3_1]] ++ l4)) fun r4 => onBool r4 fun b5 => bc
  b5 (some (Ex.ret, [V.int n0], [Res.row (some 3) zs])) (O.2 53 2 [V.int (IntKind.i64.wrap (n0 + 1)), V.row (some 3) 0 0 m, V.fn g2 l3 l4, V.int
  n5] [Res.row (some 3) zs])) (obind (O.call g2 (l3 ++ [V.agg [V.int n1, V.int n2, V.vec .plain (some 3) l3_1]] ++ l4) [Res.row (some 3) zs]) fun r6 => onRet r6.fst (fun v7 =>
  onBool v7 fun b8 => bc b8 (some (Ex.ret, [V.int n0], r6.snd)) (O.2 53 2 [V.int (IntKind.i64.wrap (n0 + 1)), V.row (some 3) 0 0 m, V.fn g2 l3 l4,
  V.int n5] r6.snd)) fun p9 => none)))) (some (Ex.exit 0, [], [Res.row (some 3) zs])) := by kernel_rfl

end Go.Proofs.SP

/-! general.General. -/
namespace Go.Proofs.SP
open Go Go.AM Go.Ama

theorem psubst_spec (n : Nat) (hn : n ≤ 200) : Ev 67 [.int n] (.agg [.vec .plain (some 3) (encs (vars n)), .int n]) := by
  have hl := count_loop (n := n) (L := fun j => W.loop 67 4 [.int (j : Nat), .loc true (some 2) (.agg [.vec .grow (some 3) (encs ((vars n).take j)), .int n]), .int n, .loc true (some 2) (.agg [.vec .full (some 3) [], .int 0]), .int n] [])
    (r := some (.exit 0, [.loc true (some 2) (.agg [.vec .full (some 3) [], .int 0]), .loc true (some 2) (.agg [.vec .grow (some 3) (encs (vars n)), .int n])], []))
    (fun j hj => by
      have hjl : j < (vars n).length := by rw [vars_length]; exact hj
      have hr : roomFor Try.prog 26 (j + 1) = true := room24 (by omega)
      have hge : decide (((j : Nat) : Int) < n) = true := by simp; omega
      have hmin : min j n = j := by omega
      show W.loop _ _ _ _ = _
      rw [L, e_subst_Same_L4, hge, bc_true]
      simp only [encs_length, List.length_take, vars_length, hmin, List.length_singleton, hr, Bool.and_self, gd_true]
      rw [encs_take_succ hjl, vars_get hjl, wrap_id (n := (n : Int) - 1) ⟨by omega, by omega⟩, wrap_id ⟨by omega, by omega⟩, wrap_id ⟨by omega, by omega⟩, ← enc_var]
      rfl)
    (by
      have hge : decide (((n : Nat) : Int) < n) = false := by simp
      show W.loop _ _ _ _ = _
      rw [L, e_subst_Same_L4, hge, bc_false, List.take_of_length_le (by rw [vars_length]; exact Nat.le_refl _)])
  have hl' : W.loop 67 4 [.int 0, .loc true (some 2) (.agg [.vec .grow (some 3) [], .int n]), .int n, .loc true (some 2) (.agg [.vec .full (some 3) [], .int 0]), .int n] [] =
    some (.exit 0, [.loc true (some 2) (.agg [.vec .full (some 3) [], .int 0]), .loc true (some 2) (.agg [.vec .grow (some 3) (encs (vars n)), .int n])], []) := hl
  have h1 : (if 200 < if 0 > (n : Int) then 0 else (n : Int) then 200 else if 0 > (n : Int) then 0 else (n : Int)) = n := by
    have : ¬ (0 > (n : Int)) := by omega
    simp only [this, if_false]
    rw [if_neg (by omega)]
  unfold Ev
  rw [C, e_subst_Same, h1, hl', obind_some', onEx_exit]
  simp only [onCons_cons, onLoc_loc, onNil_nil, onRoom_grow, onInt_int, show onAgg (V.agg [V.vec Mode.grow (some 3) (encs (vars n)), V.int ↑n]) = fun K => K [V.vec Mode.grow (some 3) (encs (vars n)), V.int ↑n] from rfl, below, belowL, below_encs, belowSt, Bool.and_self, gd_true]
  rfl

theorem pure_gen1 : cfg.pure 64 = true := by kernel_rfl
theorem pure_gen2 : cfg.pure 65 = true := by kernel_rfl
theorem odd_spec (t : T) (hs : t.size ≤ 1099511627776) : Ev 64 [enc t] (.bool (!may t)) := by
  have h := (pmay_spec t hs).p
  unfold Ev
  rw [C, enc_eta t, e_general_General_1, ← enc_eta, h]
  simp
theorem strange_spec (t : T) : Ev 65 [enc t] (.bool (!decide (t.k = 2))) := by
  unfold Ev
  rw [C, enc_eta t, e_general_General_2]
  have : (t.k != 2) = !decide (t.k = 2) := by by_cases h : t.k = 2 <;> simp [h]
  rw [this]
theorem cfuncO_spec (xs : List T) (x : Res) (hs : sizes xs ≤ 1099511627776) : W.call 35 [.vec .plain (some 3) (encs xs), .fn 64 [] []] [x] = some (.ret (.bool (xs.any fun t => !may t)), [x]) := by
  have hlen := length_le_sizes xs
  exact contains_spec pure_gen1 xs (by omega) (fun t ht => (odd_spec t (by have := size_le ht; omega)).p) [x]
theorem cfuncS_spec (xs : List T) (hs : xs.length ≤ 1099511627776) : W.call 35 [.row (some 3) 0 0 xs.length, .fn 65 [] []] [.row (some 3) (encs xs)] = some (.ret (.bool (xs.any fun t => !decide (t.k = 2))), [.row (some 3) (encs xs)]) := by
  have hl := any_loop (L := fun i => W.loop 53 2 [.int i, .row (some 3) 0 0 xs.length, .fn 65 [] [], .int xs.length] [.row (some 3) (encs xs)]) (xs := xs) (g := fun t => !decide (t.k = 2)) (e0 := (Ex.exit 0, [], [.row (some 3) (encs xs)])) (e1 := fun i => (Ex.ret, [V.int i], [.row (some 3) (encs xs)]))
    (fun i hi => by
      have hp := (strange_spec xs[i]).p
      have hlt : decide ((i : Int) < xs.length) = true := by simp; omega
      have h0 : decide ((0 : Int) ≤ i) = true := by simp
      have hget : (encs xs).getD (0 + (i : Int).toNat) V.undef = enc xs[i] := by have := getI_encs hi; simpa [getI] using this
      have hlt2 : decide (0 + (i : Int).toNat < (encs xs).length) = true := by simp; omega
      show W.loop _ _ _ _ = _
      rw [L, e_slices_IndexFunc_api_Term_api_Term_L2__r]
      simp only [hlt, h0, hlt2, hget, bc_true, gd_true, Bool.and_self, onStruct_enc, ← enc_eta, pure_gen2, List.nil_append, List.append_nil, hp, obind_some', onBool_bool]
      rw [wrap_id ⟨by omega, by omega⟩]
      cases decide (xs[i].k = 2) <;> rfl)
    (by
      have hlt : decide (((xs.length : Nat) : Int) < xs.length) = false := by simp
      show W.loop _ _ _ _ = _
      rw [L, e_slices_IndexFunc_api_Term_api_Term_L2__r, hlt]; rfl)
  rw [C, e_slices_ContainsFunc_api_Term_api_Term__r, C, e_slices_IndexFunc_api_Term_api_Term__r]
  rcases hl with ⟨h1, h2⟩ | ⟨h1, i, h2⟩
  · have h2' : W.loop 53 2 [.int 0, .row (some 3) 0 0 xs.length, .fn 65 [] [], .int xs.length] [.row (some 3) (encs xs)] = some (Ex.exit 0, [], [.row (some 3) (encs xs)]) := h2
    rw [h2', h1]; rfl
  · have h2' : W.loop 53 2 [.int 0, .row (some 3) 0 0 xs.length, .fn 65 [] [], .int xs.length] [.row (some 3) (encs xs)] = some (Ex.ret, [V.int i], [.row (some 3) (encs xs)]) := h2
    rw [h2', h1]
    simp

/-- The loop that wraps a term. -/
theorem genL1_spec (m N : Nat) (hN : N ≤ 1099511627776) (ws vs : List V) (last t : T) (st : Res) :
    W.loop 54 12 [.int 0, .loc false (some 3) (enc t), .row (some 3) 0 0 m, .loc true (some 5) (.agg ws), .loc true (some 3) (.agg vs), .loc false (some 3) (enc last), .int N] [st] =
      some (.exit 1, [.row (some 3) 0 0 m, .loc true (some 5) (.agg ws), .loc true (some 3) (.agg vs), .loc false (some 3) (enc (lamN N t)), .loc false (some 3) (enc last)], [st]) := by
  have hl := count_loop (n := N) (L := fun j => W.loop 54 12 [.int (j : Nat), .loc false (some 3) (enc (lamN j t)), .row (some 3) 0 0 m, .loc true (some 5) (.agg ws), .loc true (some 3) (.agg vs), .loc false (some 3) (enc last), .int N] [st])
    (r := some (.exit 1, [.row (some 3) 0 0 m, .loc true (some 5) (.agg ws), .loc true (some 3) (.agg vs), .loc false (some 3) (enc (lamN N t)), .loc false (some 3) (enc last)], [st]))
    (fun j hj => by
      have hlt : decide (((j : Nat) : Int) < N) = true := by simp; omega
      show W.loop _ _ _ _ = _
      rw [L]
      conv => lhs; rw [enc_eta (lamN j t), enc_eta last]
      rw [e_general_General_L12, hlt, bc_true, wrap_id ⟨by omega, by omega⟩, ← enc_eta, ← enc_eta, lamN_succ]
      rfl)
    (by
      have hlt : decide (((N : Nat) : Int) < N) = false := by simp
      show W.loop _ _ _ _ = _
      rw [L]
      conv => lhs; rw [enc_eta (lamN N t), enc_eta last]
      rw [e_general_General_L12, hlt, bc_false, ← enc_eta, ← enc_eta])
  exact hl

/-- The loop that copies the entries. -/
theorem genL2_spec (zs : List T) (hz : sizes zs ≤ 1099511627776) (t last : T) :
    W.loop 54 16 [.int 0, .row (some 3) 0 0 zs.length, .loc true (some 5) (.agg [.vec .full (some 3) [], .int 0, .int 0, .vec .full (some 3) [], .bool false]), .loc true (some 3) (.agg [.int 0, .int 0, .vec .full (some 3) []]), .loc false (some 3) (enc t), .loc false (some 3) (enc last), .int zs.length] [.row (some 3) (encs zs)] =
      some (.exit 3, [.loc true (some 5) (.agg [.vec .full (some 3) [], .int 0, .int 0, .vec .full (some 3) [], .bool false]), .loc true (some 3) (.agg [.int 0, .int 0, .vec .full (some 3) []]), .loc false (some 3) (enc t), .loc false (some 3) (enc last), .row (some 3) 0 0 zs.length], [.row (some 3) (encs zs)]) := by
  have hlen := length_le_sizes zs
  have hl := count_loop (n := zs.length) (L := fun j => W.loop 54 16 [.int (j : Nat), .row (some 3) 0 0 zs.length, .loc true (some 5) (.agg [.vec .full (some 3) [], .int 0, .int 0, .vec .full (some 3) [], .bool false]), .loc true (some 3) (.agg [.int 0, .int 0, .vec .full (some 3) []]), .loc false (some 3) (enc t), .loc false (some 3) (enc last), .int zs.length] [.row (some 3) (encs zs)])
    (r := some (.exit 3, [.loc true (some 5) (.agg [.vec .full (some 3) [], .int 0, .int 0, .vec .full (some 3) [], .bool false]), .loc true (some 3) (.agg [.int 0, .int 0, .vec .full (some 3) []]), .loc false (some 3) (enc t), .loc false (some 3) (enc last), .row (some 3) 0 0 zs.length], [.row (some 3) (encs zs)]))
    (fun j hj => by
      have hp := (pown_spec zs[j] (by have := size_le (List.getElem_mem hj); omega)).p
      have hlt : decide (((j : Nat) : Int) < zs.length) = true := by simp; omega
      have h0 : decide ((0 : Int) ≤ j) = true := by simp
      have hget : (encs zs).getD (0 + (j : Int).toNat) V.undef = enc zs[j] := by have := getI_encs hj; simpa [getI] using this
      have hlt2 : decide (0 + (j : Int).toNat < (encs zs).length) = true := by simp; omega
      have hset : (encs zs).set (0 + (j : Int).toNat) (enc zs[j]) = encs zs := by
        rw [Nat.zero_add, Int.toNat_natCast, encs_map]
        apply List.ext_getElem
        · simp
        · intro k h1 h2
          rw [List.getElem_set]
          split
          · rename_i e; subst e; simp
          · rfl
      show W.loop _ _ _ _ = _
      rw [L]
      conv => lhs; rw [enc_eta t, enc_eta last]
      rw [e_general_General_L16, hlt, bc_true]
      simp only [h0, hlt2, hget, Bool.and_self, gd_true, onStruct_enc, ← enc_eta, hp, obind_some', isGrow, Bool.not_false, Bool.true_and]
      have hg : (!isGrow (enc zs[j])) = true := by rw [enc_eta]; rfl
      simp only [hg, hset, gd_true]
      rw [wrap_id ⟨by omega, by omega⟩]
      rfl)
    (by
      have hlt : decide (((zs.length : Nat) : Int) < zs.length) = false := by simp
      show W.loop _ _ _ _ = _
      rw [L]
      conv => lhs; rw [enc_eta t, enc_eta last]
      rw [e_general_General_L16, hlt, bc_false, ← enc_eta, ← enc_eta])
  exact hl

theorem pgeneral_spec (ctx : List T) (a : T) (n : Int) (hc : sizes ctx + a.size ≤ 1099511627776) : Ev 54 [.vec .plain (some 3) (encs ctx), enc a, .int n] (encG (general ctx a n)) := by
  have hlen := length_le_sizes ctx
  have hsz := split_size a.size a (Nat.le_refl _)
  have hlen2 := length_le_sizes (split a).1
  have hsp := (psplit_spec a (by omega)).p (by simp [belowL]) (by simp [below, belowL])
  obtain ⟨N, hN⟩ : ∃ N, N = ctx.length + (split a).1.length := ⟨_, rfl⟩
  have hw : IntKind.i64.wrap ((ctx.length : Int) + ((split a).1.length : Int)) = (N : Int) := by rw [wrap_id ⟨by omega, by omega⟩]; omega
  have hr : roomFor Try.prog 26 N = true := room24 (by omega)
  have hmin : min ctx.length N = ctx.length := by omega
  have hmin2 : min (split a).1.length (N - ctx.length) = (split a).1.length := by omega
  have hrow : List.take (0 + ctx.length) ([] ++ List.take ctx.length (encs ctx) ++ List.drop (0 + ctx.length) (List.replicate N (V.agg [V.int 0, V.int 0, V.vec .plain (some 3) []]))) ++
      List.take (split a).1.length (encs (split a).1) ++ List.drop (0 + ctx.length + (split a).1.length) ([] ++ List.take ctx.length (encs ctx) ++ List.drop (0 + ctx.length) (List.replicate N (V.agg [V.int 0, V.int 0, V.vec .plain (some 3) []]))) = encs (ctx ++ (split a).1) := by
    have e1 : List.take ctx.length (encs ctx) = encs ctx := List.take_of_length_le (by simp)
    have e2 : List.take (split a).1.length (encs (split a).1) = encs (split a).1 := List.take_of_length_le (by simp)
    rw [e1, e2, List.nil_append, Nat.zero_add, List.take_append_of_le_length (by simp), List.take_of_length_le (by simp), encs_append]
    have : List.drop (ctx.length + (split a).1.length) (encs ctx ++ List.drop ctx.length (List.replicate N (V.agg [V.int 0, V.int 0, V.vec .plain (some 3) []]))) = [] := by
      apply List.drop_eq_nil_of_le
      simp
      omega
    rw [this, List.append_nil]
  unfold Ev
  rw [C]
  conv => lhs; rw [enc_eta a]
  rw [e_general_General, ← enc_eta, hsp, obind_some', onTup_tup, onCons_cons, onVec_plain, onCons_cons, onStruct_enc, onNil_nil]
  simp only [encs_length, hw, Int.toNat_natCast, hmin, hmin2, hrow, hr, List.length_replicate]
  have c1 : (decide ((0 : Int) ≤ (N : Int)) && decide True && true && true && true) = true := by simp
  have c2 : (true && decide (0 + N ≤ N)) = true := by simp
  have c3 : (decide ((0 : Int) ≤ (ctx.length : Int)) && decide ((ctx.length : Int) ≤ (N : Int)) && decide ((N : Int) ≤ (N : Int)) && true) = true := by simp; omega
  rw [c1, gd_true, c2, gd_true, c3, gd_true]
  have c4 : (true && decide (0 + ctx.length + (N - ctx.length) ≤ ([] ++ List.take ctx.length (encs ctx) ++ List.drop (0 + ctx.length) (List.replicate N (V.agg [V.int 0, V.int 0, V.vec .plain (some 3) []]))).length)) = true := by
    simp
  rw [c4, gd_true, (odd_spec a (by omega)).p, obind_some', onBool_bool]
  cases hma : may a with
  | false => simp only [general, hma]; rfl
  | true =>
    simp only [Bool.not_true, bc_false]
    rw [cfuncO_spec ctx _ (by omega), obind_some', onRet_ret, onBool_bool]
    cases hmc : ctx.any (fun t => !may t) with
    | true => simp only [general, hma, hmc]; rfl
    | false =>
      simp only [bc_false]
      by_cases hn : n < 0
      · simp only [general, hma, hmc, hn, decide_true]; rfl
      · have hn' : decide (n < 0) = false := by simp; omega
        rw [hn', bc_false]
        by_cases h40 : 40 < ctx.length + (split a).1.length
        · have : decide ((N : Int) > 40) = true := by simp; omega
          rw [this]
          simp only [general, hma, hmc, hn', h40, decide_true]; rfl
        · have h1 : decide ((N : Int) > 40) = false := by simp; omega
          have h2 : decide (40 < ctx.length + (split a).1.length) = false := by simp; omega
          rw [h1, bc_false]
          have hNl : N = (ctx ++ (split a).1).length := by rw [List.length_append]; exact hN
          have hcs := cfuncS_spec (ctx ++ (split a).1) (by rw [← hNl]; omega)
          rw [← hNl] at hcs
          rw [hcs, obind_some', onRet_ret, onBool_bool]
          cases hany : (ctx ++ (split a).1).any (fun t => !decide (t.k = 2)) with
          | true => simp only [general, hma, hmc, hn', h2, hany]; rfl
          | false =>
            simp only [bc_false, ← enc_eta]
            rw [(strange_spec (split a).2).p, obind_some', onBool_bool]
            by_cases hl2 : (split a).2.k = 2
            · simp only [hl2, decide_true, Bool.not_true, bc_false]
              rw [(psubst_spec N (by omega)).p (by simp [belowL, below]) (by simp [below, belowL]), obind_some']
              have hst : ∀ (K : List V → Int → Option (Out × St)), onStruct (R := Out × St) [CT.slice (some 3), CT.int] (.agg [.vec .plain (some 3) (encs (vars N)), .int N]) K = K (encs (vars N)) N := fun K => rfl
              rw [hst]
              have hL1 := genL1_spec N (split a).1.length (by omega) [V.vec Mode.full (some 3) [], V.int 0, V.int 0, V.vec Mode.full (some 3) [], V.bool false] [V.int 0, V.int 0, V.vec Mode.full (some 3) []] (split a).2 (.mk 6 n (vars N)) (.row (some 3) (encs (ctx ++ (split a).1)))
              rw [show enc (T.mk 6 n (vars N)) = .agg [.int 6, .int n, .vec .plain (some 3) (encs (vars N))] from rfl] at hL1
              rw [hL1, obind_some', onEx_exit]
              simp only [show Nat.beq 1 1 = true from rfl, bc_true, onCons_cons, onLoc_loc, onNil_nil, cond_false, onStruct_enc, ← enc_eta]
              have hrv : ∀ (K : Nat → Nat → Nat → Option (Out × St)), onRowV (some 3) (V.row (some 3) 0 0 N) K = K 0 0 N := fun K => rfl
              rw [hrv]
              have hL2 := genL2_spec (ctx ++ (split a).1) (by rw [sizes_append]; omega) (lamN (split a).1.length (.mk 6 n (vars N))) (split a).2
              rw [← hNl] at hL2
              rw [hL2, obind_some', onEx_exit]
              simp only [show Nat.beq 3 3 = true from rfl, bc_true, onCons_cons, onLoc_loc, onNil_nil, cond_false, onStruct_enc, ← enc_eta]
              rw [hrv]
              have hgr : ∀ (K : Res → Option (Out × St)), getR [Res.row (some 3) (encs (ctx ++ (split a).1))] 0 K = K (Res.row (some 3) (encs (ctx ++ (split a).1))) := fun K => rfl
              rw [hgr]
              have hor : ∀ (K : Sh → List V → Option (Out × St)), onRow (Res.row (some 3) (encs (ctx ++ (split a).1))) K = K (some 3) (encs (ctx ++ (split a).1)) := fun K => rfl
              rw [hor]
              have htk : List.take N (List.drop 0 (encs (ctx ++ (split a).1))) = encs (ctx ++ (split a).1) := by rw [List.drop_zero]; exact List.take_of_length_le (by rw [encs_length, ← hNl]; exact Nat.le_refl _)
              have hd : decide (0 + N ≤ (encs (ctx ++ (split a).1)).length) = true := by rw [encs_length, ← hNl]; simp
              simp only [htk, hd, decide_true, Bool.and_self, gd_true, below, belowL, below_encs, below_enc, belowSt]
              simp only [general, hma, hmc, hn', h2, hany, hl2, decide_true, Bool.not_true, Bool.or_self, Bool.false_eq_true, if_false]
              simp only [encG, encMD, ← hN, hl2]
            · simp only [general, hma, hmc, hn', h2, hany, hl2, decide_false]; rfl
end Go.Proofs.SP

/-! slices.Clone of terms. -/
namespace Go.Proofs.SP
open Go Go.AM Go.Ama

theorem ext_clone : ext 58 = some (fun _ args st => cloneX Try.prog 26 args st) := by
  unfold ext
  rfl
theorem clone_sh : (shEq Try.prog (some 3) 26 && decide (0 < Sh.sz (some 3))) = true := by kernel_rfl
theorem clone_spec (xs : List V) (st : St) (h : xs.length ≤ 1099511627776) : W.call 58 [.vec .plain (some 3) xs] st = some (.ret (.row (some 3) st.length 0 xs.length), st ++ [.row (some 3) xs]) := by
  have hr : roomFor Try.prog 26 xs.length = true := room24 (by omega)
  have h1 : W.call 58 [.vec .plain (some 3) xs] st = cloneX Try.prog 26 [.vec .plain (some 3) xs] st :=
    Cx (x := fun _ args st => cloneX Try.prog 26 args st) 58 _ st ext_clone
  rw [h1]
  unfold cloneX
  simp only []
  rw [clone_sh, hr]
  rfl
end Go.Proofs.SP

/-! split: the metas of a case; the rounds over cases. -/
namespace Go.Proofs.SP
open Go Go.AM Go.Ama

theorem bytesM : ((Try.prog.info? 50).map (·.bytes)).getD 0 = 72 := by kernel_rfl
theorem roomM {n : Nat} (h : n ≤ 1099511627776) : roomFor Try.prog 50 n = true := by
  unfold roomFor
  rw [bytesM]
  simp
  omega
theorem concatM_spec (xs ys : List M) (hs : xs.length + ys.length ≤ 1099511627776) : Ev 57 [.vec .plain none [.vec .plain (some 5) (encMs xs), .vec .plain (some 5) (encMs ys)]] (.vec .plain (some 5) (encMs (xs ++ ys))) := by
  have r1 : roomFor Try.prog 50 (xs.length + ys.length) = true := roomM hs
  have r2 : roomFor Try.prog 50 xs.length = true := roomM (by omega)
  have a1 : IntKind.i64.wrap (0 + (xs.length : Int)) = xs.length := by rw [wrap_id ⟨by omega, by omega⟩]; omega
  have a2 : IntKind.i64.wrap ((xs.length : Int) + ys.length) = (xs.length : Int) + ys.length := wrap_id ⟨by omega, by omega⟩
  have w1 : IntKind.i64.wrap (0 + 1) = 1 := by decide
  have w2 : IntKind.i64.wrap (1 + 1) = 2 := by decide
  have n1 : ¬ (xs.length : Int) < 0 := by omega
  have n2 : ¬ (xs.length : Int) + ys.length < 0 := by omega
  have n3 : (0 : Int) ≤ (xs.length : Int) + ys.length := by omega
  have t2 : ((xs.length : Int) + ys.length).toNat = xs.length + ys.length := by omega
  have g0 : ∀ (a b : V), getI [a, b] 0 = a := fun _ _ => rfl
  have g1 : ∀ (a b : V), getI [a, b] 1 = b := fun _ _ => rfl
  unfold Ev
  rw [C, e_slices_Concat_api_MetaDecl_api_MetaDecl]
  have L1 : W.loop 57 3 [V.int 0, V.int 0, V.vec .plain none [.vec .plain (some 5) (encMs xs), .vec .plain (some 5) (encMs ys)], V.vec .plain none [.vec .plain (some 5) (encMs xs), .vec .plain (some 5) (encMs ys)], V.int 2] [] =
      some (.exit 0, [V.vec .plain none [.vec .plain (some 5) (encMs xs), .vec .plain (some 5) (encMs ys)], V.int ((xs.length : Int) + ys.length)], []) := by
    rw [L, e_slices_Concat_api_MetaDecl_api_MetaDecl_L3, g0, w1]
    simp only [onVec, if_true, encMs_length, a1]
    simp [n1]
    rw [L, e_slices_Concat_api_MetaDecl_api_MetaDecl_L3, g1, w2]
    simp only [onVec, if_true, encMs_length, a2]
    simp [n2]
    rw [L, e_slices_Concat_api_MetaDecl_api_MetaDecl_L3]
    simp
  have L2 : W.loop 57 11 [V.int 0, V.vec .grow (some 5) [], V.vec .plain none [.vec .plain (some 5) (encMs xs), .vec .plain (some 5) (encMs ys)], V.int 2] [] = some (.exit 2, [V.vec .grow (some 5) (encMs (xs ++ ys))], []) := by
    rw [L, e_slices_Concat_api_MetaDecl_api_MetaDecl_L11, g0, w1]
    simp only [onVec, if_true, encMs_length]
    simp [r2]
    rw [L, e_slices_Concat_api_MetaDecl_api_MetaDecl_L11, g1, w2]
    simp only [onVec, if_true, encMs_length]
    simp [r1]
    rw [L, e_slices_Concat_api_MetaDecl_api_MetaDecl_L11]
    simp
  have e2 : ((([.vec .plain (some 5) (encMs xs), .vec .plain (some 5) (encMs ys)] : List V).length : Nat) : Int) = 2 := rfl
  rw [e2, L1]
  simp only [obind_some', onEx_exit, Nat.beq_eq_true_eq, onCons_cons, onVec, if_true, onNil_nil, onInt_int, e2, L2]
  simp [n3, t2, r1, belowL_app, below, belowSt, L2, e2]

theorem metasL_spec (ms : List M) (hc : ∀ m ∈ ms, m.ctx.length ≤ 1099511627776) (hs : ms.length ≤ 1048576) : ∀ (n i : Nat) (st : St), ms.length - i = n → i ≤ ms.length →
    ∃ ds : St, W.loop 41 3 [.int (i : Int), .vec .grow (some 5) (encMs (ms.take i)), .vec .plain (some 5) (encMs ms), .int ms.length] st = some (.exit 0, [.vec .grow (some 5) (encMs ms)], st ++ ds) := by
  intro n
  induction n with
  | zero =>
    intro i st hn hi
    have : i = ms.length := by omega
    subst this
    refine ⟨[], ?_⟩
    rw [L, e_split_splitting_metas_L3]
    simp
  | succ n ih =>
    intro i st hn hi
    have hlt : i < ms.length := by omega
    have hlt' : (i : Int) < ms.length := by omega
    have hw : IntKind.i64.wrap ((i : Int) + 1) = ((i + 1 : Nat) : Int) := by rw [wrap_id ⟨by omega, by omega⟩]; omega
    have hcl := clone_spec (encs ms[i].ctx) st (by rw [encs_length]; exact hc _ (List.getElem_mem hlt))
    have hmin : min i ms.length = i := by omega
    have hr : roomFor Try.prog 50 (i + 1) = true := roomM (by omega)
    obtain ⟨ds, h⟩ := ih (i + 1) (st ++ [.dead]) (by omega) (by omega)
    have e1 : encMs (ms.take (i + 1)) = encMs (ms.take i) ++ [encM ms[i]] := by rw [take_succ' hlt, encMs_append]; rfl
    rw [e1] at h
    have htk : List.take ms[i].ctx.length (encs ms[i].ctx) = encs ms[i].ctx := List.take_of_length_le (by simp)
    refine ⟨.dead :: ds, ?_⟩
    rw [L, e_split_splitting_metas_L3, hw, getI_encMs hlt]
    simp [hlt', hcl, getR, htk, hmin, hr]
    simpa [encM] using h

theorem metas_spec (sg sch psi az phi bz cls : List V) (dl more : List M) (nm : ByteArray) (ak ah bk bh fam : Int) (tot : Bool) (st : St) (hc : ∀ m ∈ dl ++ more, m.ctx.length ≤ 1099511627776) (hs : dl.length + more.length ≤ 1048576) (hst : belowSt st.length st = true) :
    W.call 41 [encSp sg sch (encMs dl) psi az phi bz cls nm ak ah bk bh fam tot, .vec .plain (some 5) (encMs more)] st =
      some (.ret (.spr (some 5) (encMs (dl ++ more)) st.length), st ++ [.spare (some 5) (dl.length + more.length) (st.length + 1), .dead, .dead]) := by
  have h1 := (concatM_spec dl more (by omega)).p (h2 := by simp [below, belowL_app])
  obtain ⟨ds, h2⟩ := metasL_spec (dl ++ more) hc (by simpa using hs) _ 0 st rfl (Nat.zero_le _)
  rw [C, e_split_splitting_metas, h1]
  simp only [List.take_zero, encMs_nil, Int.natCast_zero] at h2
  simp [h2, hst, belowL_app] at h2 ⊢
  simp [h2, hst, belowL_app]
end Go.Proofs.SP

/-! What a Const's case comes to: bounds, families. -/
namespace Go.Ama
open Go Go.AM

theorem may_iff {t : T} : may t = true ↔ nodesB t = true ∧ t.size ≤ 4000 ∧ t.depth ≤ 60 := by
  unfold may; simp only [Bool.and_eq_true, decide_eq_true_eq]
theorem depth_arg {t x : T} (h : x ∈ t.args) : x.depth < t.depth := by
  cases t with
  | mk k hd ys => have := depth_le h; simp only [T.args] at this h; have := depth_le h; simp only [T.depth]; omega
theorem may_arg {t x : T} (h : may t = true) (hx : x ∈ t.args) : may x = true := by
  obtain ⟨h1, h2, h3⟩ := may_iff.1 h
  refine may_iff.2 ⟨?_, by have := args_size hx; omega, by have := depth_arg hx; omega⟩
  cases t with
  | mk k hd ys =>
    simp only [nodesB, Bool.and_eq_true, nodess_all, List.all_eq_true] at h1
    exact h1.2 x hx
theorem may_node {t : T} (h : may t = true) : may1 t.k t.h t.args.length = true := by
  obtain ⟨h1, _⟩ := may_iff.1 h
  cases t with
  | mk k hd ys => simp only [nodesB, Bool.and_eq_true] at h1; exact h1.1
theorem may_pi {t : T} (h : may t = true) (hk : t.k = 1) : t.args.length = 2 := by
  have := may_node h
  rw [hk] at this
  simp [may1] at this
  exact this.2

mutual
theorem okB_of {B : Int} (hB : 1099511627776 ≤ B) : ∀ t : T, nodesB t = true → low t = true → okB B t
  | .mk k h ys, h1, h2 => by
    simp only [nodesB, Bool.and_eq_true] at h1
    simp only [low, Bool.and_eq_true, decide_eq_true_eq] at h2
    refine ⟨⟨?_, by omega⟩, ?_, okBs_of hB ys h1.2 h2.2⟩
    · have := h1.1
      unfold may1 at this
      repeat' split at this
      all_goals simp at this; omega
    · rintro rfl e
      subst e
      have := h1.1
      simp [may1] at this
theorem okBs_of {B : Int} (hB : 1099511627776 ≤ B) : ∀ l : List T, nodess l = true → low.lows l = true → okBs B l
  | [], _, _ => trivial
  | a :: l, h1, h2 => by
    simp only [nodess, Bool.and_eq_true] at h1
    simp only [low.lows, Bool.and_eq_true] at h2
    exact ⟨okB_of hB a h1.1 h2.1, okBs_of hB l h1.2 h2.2⟩
end
theorem okB_args {B : Int} {t x : T} (h : okB B t) (hx : x ∈ t.args) : okB B x := by
  cases t with
  | mk k hd ys => exact (okBs_iff B ys).1 h.2.2 x hx

/-- Errors of substituting. -/
theorem big_err {j : Job} {o : Oj} (h : Big j o) : ∀ e, o = .e e → e = 3 ∨ e = 4 := by
  induction h with
  | apLimit => rintro e ⟨⟩; exact .inr rfl
  | apErr _ _ _ ih => rintro e ⟨⟩; exact ih _ rfl
  | apNode => rintro e ⟨⟩
  | apVar _ _ _ _ _ _ _ _ _ ih => exact ih
  | arNil => rintro e ⟨⟩
  | arErr _ _ ih => rintro e ⟨⟩; exact ih _ rfl
  | arErr2 _ _ _ _ ih => rintro e ⟨⟩; exact ih _ rfl
  | arCons => rintro e ⟨⟩
  | spNil => rintro e ⟨⟩
  | spMay => rintro e ⟨⟩; exact .inr rfl
  | spErr _ _ _ _ _ ih => rintro e ⟨⟩; exact ih _ rfl
  | spLam _ _ _ _ _ _ _ ih => exact ih
  | spApp => rintro e ⟨⟩
  | spType => rintro e ⟨⟩; exact .inl rfl

/-- What is told, if all is well. -/
theorem applyF_ok {β : Int} (hβ : okBase β) {t : T} {l : List T} {s : Int} (ht : may t = true → okB β t) (hl : maySu l s = true → ∀ x ∈ l, okB β x) (h : (applyF t l s).2 = 0) :
    may (applyF t l s).1 = true ∧ okB (β + 83886080000) (applyF t l s).1 ∧ ∃ m, Big (.ap 0 t l s) (.t (applyF t l s).1 m) := by
  unfold applyF applyR at h ⊢
  split at h
  · rename_i hm
    rw [if_pos hm]
    simp only [Bool.and_eq_true] at hm
    obtain ⟨hB, hP, _⟩ := outF_ok hβ (ht hm.1) (hl hm.2) hm.1 hm.2
    generalize outF t l s = o at *
    cases o with
    | l _ _ => exact hP.elim
    | e e =>
      rcases big_err hB e rfl with rfl | rfl <;> simp [toldR] at h
    | t u m =>
      obtain ⟨p1, p2, p3, p4⟩ := hP
      have hmu : may u = true := by
        cases hx : may u with
        | true => rfl
        | false => simp [toldR, hx] at h
      have e : (toldR (.t u m)).1 = u := by simp [toldR, hmu]
      rw [e]
      exact ⟨hmu, okB_mono (by unfold bnd; omega) u p4, m, hB⟩
  · simp at h

/-- A type that comes to a family does so when it is substituted in. -/
theorem big_split : ∀ (N : Nat) (t : T), t.size ≤ N → (split t).2.k = 2 → ∀ {n m : Nat} {l : List T} {s : Int} {u : T}, Big (.ap n t l s) (.t u m) →
    (split u).1.length = (split t).1.length ∧ (split u).2.k = 2 ∧ (split u).2.h = (split t).2.h := by
  intro N
  induction N with
  | zero => intro t h; have := size_pos t; omega
  | succ N ih =>
    intro t hN hk n m l s u hB
    by_cases hc : t.k = 1 ∧ t.args.length = 2
    · obtain ⟨a, b, hab⟩ := len2 hc.2
      rw [split_pi hc.1 hab] at hk ⊢
      cases hB with
      | apVar _ _ _ hk4 _ _ _ _ => rw [hc.1] at hk4; cases hk4
      | apNode _ _ _ b1 =>
        rw [hab] at b1
        cases b1 with
        | arCons _ b2 c2 =>
          cases c2 with
          | arCons _ b3 c3 =>
            cases c3
            have hs : b.size < t.size := args_size (by rw [hab]; simp)
            obtain ⟨r1, r2, r3⟩ := ih b (by omega) hk b3
            rw [split_pi (t := T.mk t.k t.h _) hc.1 rfl]
            exact ⟨by simp [r1], r2, r3⟩
    · rw [split_end hc] at hk ⊢
      cases hB with
      | apVar _ _ _ hk4 _ _ _ _ => rw [hk] at hk4; cases hk4
      | apNode _ _ _ b1 =>
        rw [split_end (t := T.mk t.k t.h _) (fun h => by rw [T_k_mk, hk] at h; omega)]
        exact ⟨rfl, hk, rfl⟩
theorem family_big {t : T} {n m : Nat} {l : List T} {s : Int} {u : T} (hk : (split t).2.k = 2) (hB : Big (.ap n t l s) (.t u m)) : family u = family t := by
  obtain ⟨h1, h2, h3⟩ := big_split t.size t (Nat.le_refl _) hk hB
  unfold family
  rw [h2, h3, hk]

/-! ### the most general term -/
theorem lamN_size : ∀ (n : Nat) (t : T), (lamN n t).size = n + t.size
  | 0, t => by simp [lamN]
  | n + 1, t => by rw [lamN_succ]; simp only [T.size, sizes, lamN_size n t]; omega
theorem vars_sizes (n : Nat) : sizes (vars n) = n := by
  have : ∀ l : List T, (∀ x ∈ l, x.size = 1) → sizes l = l.length := by
    intro l
    induction l with
    | nil => intro _; rfl
    | cons a l ih => intro h; simp only [sizes, h a (by simp), ih fun x hx => h x (by simp [hx]), List.length_cons]; omega
  rw [this _ (fun x hx => ?_), vars_length]
  simp only [vars, List.mem_map] at hx
  obtain ⟨i, _, rfl⟩ := hx
  simp [var, T.size, sizes]
theorem general_ok {psi : List T} {a : T} {n : Nat} (h : (general psi a n).2.2.2 = 0) : (general psi a n).2.2.1 = lamN (split a).1.length (.mk 6 n (vars (psi.length + (split a).1.length))) ∧ psi.length + (split a).1.length ≤ 40 ∧ (general psi a n).1 = psi ++ (split a).1 ∧ (general psi a n).2.1 = (split a).2 := by
  unfold general at h ⊢
  split at h
  · simp at h
  · rename_i h1
    split at h
    · simp at h
    · rename_i h2
      rw [if_neg h1, if_neg h2]
      simp only [Bool.not_eq_true, Bool.or_eq_false_iff, decide_eq_false_iff_not] at h1
      exact ⟨rfl, by omega, rfl, rfl⟩
theorem okB_lamN {B : Int} (hB : 0 ≤ B) : ∀ (n : Nat) (t : T), okB B t → okB B (lamN n t)
  | 0, t, h => h
  | n + 1, t, h => by rw [lamN_succ]; exact ⟨⟨by omega, hB⟩, by simp, okB_lamN hB n t h, trivial⟩
theorem general_okB {psi : List T} {a : T} {n : Nat} {B : Int} (hB : 1099511627776 ≤ B) (hn : n ≤ 1099511627776) (h : (general psi a n).2.2.2 = 0) : okB B (general psi a n).2.2.1 ∧ (general psi a n).2.2.1.size ≤ 100 := by
  obtain ⟨h1, h2, _⟩ := general_ok h
  rw [h1]
  refine ⟨okB_lamN (by omega) _ _ ⟨⟨by omega, by omega⟩, by simp, ?_⟩, ?_⟩
  · rw [okBs_iff]
    intro x hx
    simp only [vars, List.mem_map, List.mem_reverse, List.mem_range] at hx
    obtain ⟨i, hi, rfl⟩ := hx
    exact ⟨⟨by omega, by omega⟩, by simp, trivial⟩
  · rw [lamN_size]; simp only [T.size, vars_sizes]; omega

theorem split_len {t : T} (h : (split t).1.length = 0) : ¬ (t.k = 1 ∧ t.args.length = 2) := fun hc => by
  obtain ⟨a, b, hab⟩ := len2 hc.2
  rw [split_pi hc.1 hab] at h
  simp at h
theorem chain_le : ∀ (N : Nat) (t : T), t.size ≤ N → (split t).1.length < t.depth := by
  intro N
  induction N with
  | zero => intro t h; have := size_pos t; omega
  | succ N ih =>
    intro t h
    by_cases hc : t.k = 1 ∧ t.args.length = 2
    · obtain ⟨a, b, hab⟩ := len2 hc.2
      have hs : b.size < t.size := args_size (by rw [hab]; simp)
      have hd : b.depth < t.depth := depth_arg (by rw [hab]; simp)
      rw [split_pi hc.1 hab]
      have := ih b (by omega)
      simp; omega
    · rw [split_end hc]
      cases t; simp only [T.depth, List.length_nil]; omega

/-- A Const's case: its metas begin with those given; its type comes to the same family. -/
theorem constL_ok {psi : List T} : ∀ (n : Nat) (ms : List M) (qa : List T) (t : T) (β : Int), 1099511627776 ≤ β → okBase (β + n * 83886080000) → (split t).1.length = n → (split t).2.k = 2 → may t = true → okB β t → ms.length + n ≤ 1099511627776 → (constL psi n ms qa t).2 = 0 →
    ∃ more, (constL psi n ms qa t).1.1 = ms ++ more ∧ family (constL psi n ms qa t).1.2.2 = family t ∧ more.length = n ∧ (∀ m ∈ more, sizes m.ctx + m.t.size ≤ sizes psi + 4000) ∧ sizes (constL psi n ms qa t).1.2.1 ≤ sizes qa + n * 100 ∧ may (constL psi n ms qa t).1.2.2 = true
  | 0, ms, qa, t, β, _, _, _, _, hm, _, _, _ => ⟨[], by simp [constL], rfl, rfl, by simp, by simp [constL], by simpa [constL] using hm⟩
  | n + 1, ms, qa, t, β, hβ1, hβ, hn, hk, hm, ho, hl, h0 => by
    have hc : t.k = 1 ∧ t.args.length = 2 := by
      by_cases hc : t.k = 1 ∧ t.args.length = 2
      · exact hc
      · rw [split_end hc] at hn; simp at hn
    obtain ⟨a, b, hab⟩ := len2 hc.2
    have hsp := split_pi hc.1 hab
    rw [hsp] at hn hk
    simp only [List.length_cons, Nat.add_right_cancel_iff] at hn
    have hbm : b ∈ t.args := by rw [hab]; simp
    unfold constL at h0 ⊢
    rw [if_pos hc.1] at h0 ⊢
    simp only [hab, List.getD_cons_zero, List.getD_cons_succ] at h0 ⊢
    split at h0
    · rename_i h; exact absurd h0 h
    rename_i hg
    rw [if_neg hg]
    have hg' : (general psi a ms.length).2.2.2 = 0 := by simpa using hg
    obtain ⟨g1, g2⟩ := general_okB (B := β) hβ1 (by omega) hg'
    split at h0
    · rename_i h; exact absurd h0 h
    rename_i hu
    rw [if_neg hu]
    have hu' : (applyF b [(general psi a ms.length).2.2.1] 0).2 = 0 := by simpa using hu
    have hβ' : okBase β := ⟨by omega, by unfold okBase at hβ; omega⟩
    obtain ⟨u1, u2, m, u3⟩ := applyF_ok hβ' (fun _ => okB_args ho hbm) (fun _ x hx => by simp at hx; rw [hx]; exact g1) hu'
    obtain ⟨s1, s2, s3⟩ := big_split _ b (Nat.le_refl _) hk u3
    obtain ⟨more, r1, r2, r3, r4, r5, r6⟩ := constL_ok n _ _ _ (β + 83886080000) (by omega) (by unfold okBase at hβ ⊢; omega) (by omega) s2 u1 u2 (by simp; omega) h0
    obtain ⟨_, _, q1, q2⟩ := general_ok hg'
    have ham : a ∈ t.args := by rw [hab]; simp
    have hsa := may_size (may_arg hm ham)
    have hss := split_size a.size a (Nat.le_refl _)
    refine ⟨⟨(general psi a ms.length).1, (general psi a ms.length).2.1, false⟩ :: more, by rw [r1]; simp, ?_, by simp [r3], ?_, ?_, r6⟩
    · rw [r2, family_big hk u3]
      unfold family
      rw [hsp]
    · intro m hm
      rcases List.mem_cons.1 hm with rfl | hm
      · simp only [q1, q2, sizes_append]; omega
      · exact r4 m hm
    · rw [sizes_append] at r5
      simp only [sizes] at r5
      omega
end Go.Ama
namespace Go.Ama
open Go Go.AM
def mayP (sig : List D) (sch : List T) (dl : List M) (psi : List T) (a : T) : Bool :=
  decide (dl.length ≤ 40) && (decide (psi.length ≤ 40) && (sig.all (fun d => may d.t) && (psi.all may && (sch.all may && may a))))
/-- What something may look like. -/
noncomputable def allC (sig : List D) (sch : List T) (dl : List M) (psi : List T) (a : T) : List (Cs × Int) :=
  constsC sig dl psi (consts (family a) sig 0) ++ (varsC (family a) dl 0 psi.reverse ++ sch.flatMap (aroundC (family a) dl))
noncomputable def casesF (sig : List D) (sch : List T) (dl : List M) (psi : List T) (a : T) : List Cs × Int :=
  if mayP sig sch dl psi a then (if (feed [] (allC sig sch dl psi a)).2 = 0 then feed [] (allC sig sch dl psi a) else ([], (feed [] (allC sig sch dl psi a)).2)) else ([], 1)
end Go.Ama
namespace Go.Ama
open Go Go.AM
/-- A case that is told. -/
def okC (dl : List M) (a : T) (B : Nat) (c : Cs) : Prop :=
  (∃ more, c.ms = dl ++ more ∧ more.length ≤ 100 ∧ ∀ m ∈ more, sizes m.ctx + m.t.size ≤ B) ∧ family c.t = family a ∧ c.q.size ≤ B ∧ c.t.size ≤ B
theorem feed_mem : ∀ (l : List (Cs × Int)) (acc : List Cs) (c : Cs), c ∈ (feed acc l).1 → c ∈ acc ∨ (c, 0) ∈ l
  | [], acc, c, h => .inl h
  | (x, e) :: l, acc, c, h => by
    simp only [feed] at h
    split at h
    · rename_i he
      rcases feed_mem l _ c h with h | h
      · rcases List.mem_append.1 h with h | h
        · exact .inl h
        · simp at h; subst h he; exact .inr (by simp)
      · exact .inr (by simp [h])
    · exact .inl h
theorem family_fam {t : T} (hk : t.k = 2) : family t = t.h := by
  unfold family
  rw [split_end fun h => by rw [hk] at h; omega]
  simp [hk]
theorem family_upP {t : T} (hk : t.k = 2) (b f : Int) : family (upP t b f) = family t := by
  unfold upP
  split
  · cases t with
    | mk k h ys =>
      simp only [T_k_mk] at hk
      subst hk
      rw [family_fam (t := upT b f 0 (T.mk 2 h ys)) (by simp [upT]), family_fam (t := T.mk 2 h ys) rfl]
      simp [upT]
  · rfl
theorem casesF_ok {sig : List D} {sch : List T} {dl : List M} {psi : List T} {a : T} (hlow : ∀ d ∈ sig, low d.t = true) (hdl : dl.length ≤ 1048576) (hpsi : sizes psi ≤ 1048576) :
    ∀ c ∈ (casesF sig sch dl psi a).1, okC dl a 1060000 c := by
  intro c hc
  unfold casesF at hc
  split at hc
  rotate_left
  · cases hc
  rename_i hm
  split at hc
  rotate_left
  · cases hc
  unfold mayP at hm
  simp only [Bool.and_eq_true, decide_eq_true_eq, List.all_eq_true] at hm
  obtain ⟨m1, m2, m3, m4, m5, m6⟩ := hm
  rcases feed_mem _ _ _ hc with h | h
  · cases h
  unfold allC at h
  simp only [List.mem_append] at h
  rcases h with h | h | h
  · unfold constsC at h
    simp only [List.mem_map] at h
    obtain ⟨no, h1, h2⟩ := h
    obtain ⟨_, k1, k2, k3⟩ := consts_mem _ _ _ _ h1
    simp only [Nat.sub_zero] at k2 k3
    have hd : (sig.map D.t).getD no T0 = sig[no].t := by simp [List.getD_eq_getElem?_getD, k2]
    rw [hd] at h2
    have hk : (split sig[no].t).2.k = 2 := by
      by_cases hk : (split sig[no].t).2.k = 2
      · exact hk
      · have : family sig[no].t = -1 := by unfold family; rw [if_neg hk]
        omega
    have hmt := m3 _ (List.getElem_mem k2)
    have hch := chain_le _ sig[no].t (Nat.le_refl _)
    have hdp := (may_iff.1 hmt).2.2
    unfold constC at h2
    simp only at h2
    split at h2
    · rename_i h0; simp only [Prod.mk.injEq] at h2; exact absurd h2.2 h0
    rename_i h0
    split at h2
    · simp only [Prod.mk.injEq] at h2; exact absurd h2.2 (by decide)
    simp only [Prod.mk.injEq] at h2
    obtain ⟨h2, _⟩ := h2
    subst h2
    obtain ⟨more, r1, r2, r3, r4, r5, r6⟩ := constL_ok _ dl [] sig[no].t 1099511627776 (Int.le_refl _) (by unfold okBase; omega) rfl hk hmt (okB_of (Int.le_refl _) _ (may_nodes hmt) (hlow _ (List.getElem_mem k2))) (by omega) (by simpa using h0)
    refine ⟨⟨more, r1, by omega, fun m hm => by have := r4 m hm; omega⟩, by rw [r2, k3], ?_, ?_⟩
    · simp only [T.size]
      simp only [sizes] at r5
      omega
    · have := may_size r6; simp only; omega
  · have : ∀ (l : List T) (i : Nat), (∀ t ∈ l, may t = true) → (c, 0) ∈ varsC (family a) dl i l → okC dl a 1060000 c := by
      intro l
      induction l with
      | nil => intro i _ h; cases h
      | cons t l ih =>
        intro i hl h
        unfold varsC at h
        rcases List.mem_append.1 h with h | h
        · unfold varC at h
          split at h
          · simp at h
          · rename_i hk
            have hk : t.k = 2 := by simpa using hk
            split at h
            · rename_i ho
              unfold Ama.ownP at ho
              simp only [Bool.and_eq_true, decide_eq_true_eq] at ho
              simp only [List.mem_singleton, Prod.mk.injEq, and_true] at h
              subst h
              have := may_size (hl t (by simp))
              exact ⟨⟨[], by simp, by simp, by simp⟩, by rw [family_upP hk, ho.2], by simp [T.size, sizes], by simp only [upP_size]; omega⟩
            · cases h
        · exact ih (i + 1) (fun t ht => hl t (by simp [ht])) h
    exact this _ _ (fun t ht => m4 t (by simpa using ht)) h
  · simp only [List.mem_flatMap] at h
    obtain ⟨t, ht, h⟩ := h
    unfold aroundC at h
    split at h
    · rename_i ho
      unfold Ama.ownP at ho
      simp only [Bool.and_eq_true, decide_eq_true_eq] at ho
      simp only [List.mem_singleton, Prod.mk.injEq, and_true] at h
      subst h
      have := may_size (m5 t ht)
      exact ⟨⟨[⟨[], t, true⟩], rfl, by simp, by simp [sizes]; omega⟩, ho.2, by simp [T.size, sizes], by simp only; omega⟩
    · cases h
theorem feed_len : ∀ (l : List (Cs × Int)) (acc : List Cs), (feed acc l).1.length ≤ acc.length + l.length
  | [], acc => by simp [feed]
  | (x, e) :: l, acc => by
    simp only [feed]
    split
    · have := feed_len l (acc ++ [x]); simp at this ⊢; omega
    · simp
theorem casesF_length (sig : List D) (sch : List T) (dl : List M) (psi : List T) (a : T) : (casesF sig sch dl psi a).1.length ≤ sig.length + psi.length + sch.length := by
  unfold casesF
  split
  · split
    · have h1 := feed_len (allC sig sch dl psi a) []
      have h2 : (allC sig sch dl psi a).length ≤ sig.length + psi.length + sch.length := by
        have hv : ∀ (l : List T) (i : Nat), (varsC (family a) dl i l).length ≤ l.length := by
          intro l
          induction l with
          | nil => intro i; simp [varsC]
          | cons t l ih =>
            intro i
            have := ih (i + 1)
            have : (varC (family a) dl i t).length ≤ 1 := by
              unfold varC
              split
              · simp
              · split <;> simp
            simp [varsC]; omega
        have ha : ∀ (l : List T), (l.flatMap (aroundC (family a) dl)).length ≤ l.length := by
          intro l
          induction l with
          | nil => simp
          | cons t l ih =>
            have : (aroundC (family a) dl t).length ≤ 1 := by unfold aroundC; split <;> simp
            simp [List.flatMap_cons] at ih ⊢; omega
        have q1 := hv psi.reverse 0
        have q2 := ha sch
        have q3 := consts_length (family a) sig 0
        simp [allC, constsC] at q1 q2 ⊢; omega
      simp at h1; omega
    · simp
  · simp
end Go.Ama

/-! split: a Const's case. -/
namespace Go.Proofs.SP
open Go Go.AM Go.Ama

abbrev X0 : V := .agg [.vec .full (some 5) [], .int 0, .int 0, .vec .full (some 3) [], .int 0, .int 0, .vec .full (some 3) []]
abbrev XG (ms : List M) (no : Int) (qa : List T) (t : T) : V := .agg [.vec .grow (some 5) (encMs ms), .int 5, .int no, .vec .grow (some 3) (encs qa), .int t.k, .int t.h, .vec .plain (some 3) (encs t.args)]
abbrev XE : V := .agg [.vec .plain (some 5) [], .int 0, .int 0, .vec .plain (some 3) [], .int 0, .int 0, .vec .plain (some 3) []]
@[simp] theorem onStSu (l : List V) (s : Int) (K : List V → Int → Option (Out × St)) : onStruct (R := Out × St) [CT.slice (some 3), CT.int] (.agg [.vec .plain (some 3) l, .int s]) K = K l s := rfl

theorem constL_spec (sg sch dl az phi bz cls : List V) (psi : List T) (nm : ByteArray) (ak ah bk bh fam : Int) (tot : Bool) (no : Int) (hpsi : sizes psi ≤ 1048576) (st : St) :
    ∀ (n : Nat) (ms : List M) (qa : List T) (t : T) (β : Int), 1099511627776 ≤ β → okBase (β + n * 83886080000) → (split t).1.length = n → (split t).2.k = 2 → may t = true → okB β t → ms.length + n ≤ 1048576 → qa.length + n ≤ 1048576 →
      W.loop 38 2 [.loc true (some 7) X0, .loc true (some 7) (XG ms no qa t), .loc false (some 15) (encSp sg sch dl (encs psi) az phi bz cls nm ak ah bk bh fam tot)] st =
        if (constL psi n ms qa t).2 = 0 then some (.exit 0, [.loc true (some 7) X0, .loc true (some 7) (XG (constL psi n ms qa t).1.1 no (constL psi n ms qa t).1.2.1 (constL psi n ms qa t).1.2.2)], st)
        else some (.ret, [.loc false (some 7) XE, .int (constL psi n ms qa t).2], st) := by
  intro n
  induction n with
  | zero =>
    intro ms qa t β hβ1 hβ hn hk hm ho hl hq
    have hc := split_len hn
    have hk1 : ¬ t.k = 1 := fun h => hc ⟨h, may_pi hm h⟩
    rw [L, e_split_splitting_constant_L2]
    simp [hk1, constL]
  | succ n ih =>
    intro ms qa t β hβ1 hβ hn hk hm ho hl hq
    have hc : t.k = 1 ∧ t.args.length = 2 := by
      by_cases hc : t.k = 1 ∧ t.args.length = 2
      · exact hc
      · rw [split_end hc] at hn; simp at hn
    obtain ⟨a, b, hab⟩ := len2 hc.2
    have hsp := split_pi hc.1 hab
    rw [hsp] at hn hk
    simp only [List.length_cons, Nat.add_right_cancel_iff] at hn
    have ham : a ∈ t.args := by rw [hab]; simp
    have hbm : b ∈ t.args := by rw [hab]; simp
    have hsa := may_size (may_arg hm ham)
    have hsb := may_size (may_arg hm hbm)
    have hG := (pgeneral_spec psi a ms.length (by omega)).p (h2 := below_encG _)
    have hrM : roomFor Try.prog 50 (ms.length + 1) = true := roomM (by omega)
    have hrT : roomFor Try.prog 26 (qa.length + 1) = true := room24 (by omega)
    rw [L, e_split_splitting_constant_L2, hab]
    by_cases hg : (general psi a ms.length).2.2.2 = 0
    · obtain ⟨g1, g2⟩ := general_okB (B := β) hβ1 (by omega) hg
      have hβ' : okBase β := ⟨by omega, by unfold okBase at hβ; omega⟩
      have hA := (ApplyF_spec (s := 0) hβ' (t := b) (l := [(general psi a ms.length).2.2.1]) (by omega) (by simp [sizes]; omega) (fun _ => okB_args ho hbm) (fun _ x hx => by simp at hx; rw [hx]; exact g1)).p
      simp only [encSu, encs_cons, encs_nil] at hA
      by_cases hu : (applyF b [(general psi a ms.length).2.2.1] 0).2 = 0
      · have hst : constL psi (n + 1) ms qa t = constL psi n (ms ++ [⟨(general psi a ms.length).1, (general psi a ms.length).2.1, false⟩]) (qa ++ [(general psi a ms.length).2.2.1]) (applyF b [(general psi a ms.length).2.2.1] 0).1 := by
          conv => lhs; unfold constL
          simp [hc.1, hab, hg, hu]
        rw [hst]
        obtain ⟨u1, u2, m, u3⟩ := applyF_ok hβ' (fun _ => okB_args ho hbm) (fun _ x hx => by simp at hx; rw [hx]; exact g1) hu
        obtain ⟨s1, s2, s3⟩ := big_split _ b (Nat.le_refl _) hk u3
        have hih := ih (ms ++ [⟨(general psi a ms.length).1, (general psi a ms.length).2.1, false⟩]) (qa ++ [(general psi a ms.length).2.2.1]) (applyF b [(general psi a ms.length).2.2.1] 0).1 (β + 83886080000) (by omega) (by unfold okBase at hβ ⊢; omega) (by omega) s2 u1 u2 (by simp; omega) (by simp; omega)
        rw [← hih]
        simp [hc.1, hG, encG, encMD_eq, hg, hu, hA, hrM, hrT, ← enc_eta]
        simp [XG, encM]
      · have hst : constL psi (n + 1) ms qa t = ((ms, qa, t), (applyF b [(general psi a ms.length).2.2.1] 0).2) := by
          conv => lhs; unfold constL
          simp [hc.1, hab, hg, hu]
        rw [hst]
        simp [hc.1, hG, encG, encMD_eq, hg, hu, hA, hrM, hrT, ← enc_eta]
    · have hst : constL psi (n + 1) ms qa t = ((ms, qa, t), (general psi a ms.length).2.2.2) := by
        conv => lhs; unfold constL
        simp [hc.1, hab, hg]
      rw [hst]
      simp [hc.1, hG, encG, encMD_eq, hg, ← enc_eta]

theorem constant_spec (sig : List D) (sch az phi bz cls : List V) (dl : List M) (psi : List T) (nm : ByteArray) (ak ah bk bh fam : Int) (tot : Bool) (no : Nat) (hno : no < sig.length) (hpsi : sizes psi ≤ 1048576)
    (hdl : ∀ m ∈ dl, m.ctx.length ≤ 1099511627776) (hdn : dl.length ≤ 1000000) (hsn : sig.length ≤ 1048576) (hm : may sig[no].t = true) (hlow : low sig[no].t = true) (hk : (split sig[no].t).2.k = 2) :
    Ev 38 [encSp (encDs sig) sch (encMs dl) (encs psi) az phi bz cls nm ak ah bk bh fam tot, .int (no : Int)] (.tup [encC (constC dl psi no sig[no].t).1, .int (constC dl psi no sig[no].t).2]) := by
  have h1 := metas_spec (encDs sig) sch (encs psi) az phi bz cls dl [] nm ak ah bk bh fam tot [] (by simpa using hdl) (by simp; omega) rfl
  simp only [encMs_nil, List.append_nil, List.length_nil, Nat.add_zero, List.nil_append] at h1
  have hlt : (no : Int) < sig.length := by omega
  have hch := chain_le _ sig[no].t (Nat.le_refl _)
  have hd := (may_iff.1 hm).2.2
  have h2 := constL_spec (encDs sig) sch (encMs dl) az phi bz cls psi nm ak ah bk bh fam tot no hpsi [.dead, .dead, .dead] _ dl [] sig[no].t 1099511627776 (Int.le_refl _) (by unfold okBase; omega) rfl hk hm (okB_of (Int.le_refl _) _ (may_nodes hm) hlow) (by omega) (by simp; omega)
  simp only [XG, encs_nil] at h2
  unfold Ev
  rw [C, e_split_splitting_constant, h1]
  unfold constC
  by_cases hr : (constL psi (split sig[no].t).1.length dl [] sig[no].t).2 = 0
  · rw [if_pos hr] at h2
    by_cases h40 : 40 < (constL psi (split sig[no].t).1.length dl [] sig[no].t).1.1.length
    · have h40' : ((constL psi (split sig[no].t).1.length dl [] sig[no].t).1.1.length : Int) > 40 := by omega
      simp [hlt, getI_encDs hno, getR, h2, hr, h40, h40']
      rfl
    · have h40' : ¬ ((constL psi (split sig[no].t).1.length dl [] sig[no].t).1.1.length : Int) > 40 := by omega
      simp [hlt, getI_encDs hno, getR, h2, hr, h40, h40', encC, below, belowL, plain1, belowSt]
  · rw [if_neg hr] at h2
    simp [hlt, getI_encDs hno, getR, h2, hr]
    rfl
end Go.Proofs.SP

/-! split: the rounds over cases. -/
namespace Go.Proofs.SP
open Go Go.AM Go.Ama

/-- What of a function does not matter here. -/
structure Rest where
  phi : List V
  bz : List V
  cls : List V
  nm : ByteArray
  bk : Int
  bh : Int
  tot : Bool
  ok : ∀ n, belowL n phi = true ∧ belowL n bz = true ∧ belowL n cls = true
abbrev spV (sig : List D) (sch : List T) (dl : List M) (psi : List T) (a : T) (ρ : Rest) (fam : Int) : V :=
  encSp (encDs sig) (encs sch) (encMs dl) (encs psi) (encs a.args) ρ.phi ρ.bz ρ.cls ρ.nm a.k a.h ρ.bk ρ.bh fam ρ.tot

theorem below_spV (n : Nat) (sig : List D) (sch : List T) (dl : List M) (psi : List T) (a : T) (ρ : Rest) (fam : Int) : below n (spV sig sch dl psi a ρ fam) = true := by
  obtain ⟨h1, h2, h3⟩ := ρ.ok n
  simp [below, belowL, below_encDs, h1, h2, h3]

theorem bytesC : ((Try.prog.info? 38).map (·.bytes)).getD 0 = 104 := by kernel_rfl
theorem roomC {n : Nat} (h : n ≤ 1099511627776) : roomFor Try.prog 38 n = true := by
  unfold roomFor
  rw [bytesC]
  simp
  omega

def box2 (acc : List Cs) : Res := .box [if acc = [] then .vec .full (some 7) [] else .vec .grow (some 7) (encCs acc)]
abbrev lpC (s : LSt) (p : Option Ex) : Res := .loop 8 11 [.ref 0 0, .ref 1 0, .ref 2 0] s p
/-- The store while cases are told. -/
def stS (ds : St) (r : List Cs × Int) : St :=
  if r.2 = 0 then .box [.vec .full (some 7) []] :: .box [.int 0] :: box2 r.1 :: (ds ++ [lpC .ready none])
  else .box [.vec .plain (some 7) []] :: .box [.int r.2] :: box2 r.1 :: (ds ++ [lpC .done (some .ret)])
abbrev okDs (ds : St) : Prop := ds = [] ∨ ds = [.dead] ∨ ds = [.dead, .dead]
theorem stS_ready (ds : St) (acc : List Cs) : stS ds (acc, 0) = .box [.vec .full (some 7) []] :: .box [.int 0] :: box2 acc :: (ds ++ [lpC .ready none]) := rfl
theorem stS_length (ds : St) (r : List Cs × Int) : (stS ds r).length = 4 + ds.length := by unfold stS; split <;> simp <;> omega

theorem encC_eta (c : Cs) : encC c = .agg [.vec .plain (some 5) (encMs c.ms), .int c.q.k, .int c.q.h, .vec .plain (some 3) (encs c.q.args), .int c.t.k, .int c.t.h, .vec .plain (some 3) (encs c.t.args)] := rfl

theorem roundC_spec (ds : St) (hds : okDs ds) (acc : List Cs) (x : Cs) (e : Int) (tl : St) (hacc : acc.length ≤ 1048576) :
    W.round (3 + ds.length) 8 11 [.ref 0 0, .ref 1 0, .ref 2 0] [encC x, .int e] (stS ds (acc, 0) ++ tl) = some (decide (e = 0), stS ds (feed acc [(x, e)]) ++ tl) := by
  have hr : roomFor Try.prog 38 (acc.length + 1) = true := roomC (by omega)
  have hr1 : roomFor Try.prog 38 1 = true := roomC (by omega)
  rw [Rd, encC_eta x, e_split_Cases_R11, ← encC_eta x, stS_ready]
  by_cases he : e = 0
  · subst he
    by_cases c : acc = []
    · subst c
      rcases hds with rfl | rfl | rfl <;> simp [getR, onReady, onBusy, onRoom2, box2, stS, feed, hr1, setCells]
    · rcases hds with rfl | rfl | rfl <;> simp [getR, onReady, onBusy, onRoom2, box2, stS, feed, hr, setCells, c]
  · rcases hds with rfl | rfl | rfl <;> simp [getR, onReady, onBusy, box2, stS, feed, setCells, he]
end Go.Proofs.SP

/-! split: the cases of constants, of variables, of what is around. -/
namespace Go.Proofs.SP
open Go Go.AM Go.Ama

theorem getR_stS (ds : St) (hds : okDs ds) (acc : List Cs) (tl : St) {R : Type} (K : Res → Option R) : getR (stS ds (acc, 0) ++ tl) (3 + ds.length) K = K (lpC .ready none) := by
  rw [stS_ready]
  rcases hds with rfl | rfl | rfl <;> simp [getR]
theorem feed_one (acc : List Cs) (x : Cs) (e : Int) (r : List (Cs × Int)) : feed acc ((x, e) :: r) = if e = 0 then feed (acc ++ [x]) r else (acc, e) := rfl

section
variable (sig : List D) (sch : List T) (dl : List M) (psi : List T) (a : T) (ρ : Rest) (fam : Int)
variable (hpsi : sizes psi ≤ 1048576) (hdl : ∀ m ∈ dl, m.ctx.length ≤ 1099511627776) (hdn : dl.length ≤ 1000000) (hsn : sig.length ≤ 1048576)
include hpsi hdl hdn hsn

theorem constsL_spec' (hmay : ∀ d ∈ sig, may d.t = true) (hlow : ∀ d ∈ sig, low d.t = true) (cs : List Nat) (hcs : ∀ k ∈ cs, ∃ h : k < sig.length, (split sig[k].t).2.k = 2) (hcl : cs.length ≤ 524288) (ds : St) (hds : okDs ds) :
    ∀ (n i : Nat) (acc : List Cs), cs.length - i = n → i ≤ cs.length → acc.length ≤ 524288 + i →
      W.loop 36 1 [.int (i : Int), .cptr (some 15) (spV sig sch dl psi a ρ fam), .yld (3 + ds.length), .vec .plain none (encIs cs), .int cs.length] (stS ds (acc, 0)) =
        some (if (feed acc (constsC sig dl psi (cs.drop i))).2 = 0 then .exit 0 else .ret, [], stS ds (feed acc (constsC sig dl psi (cs.drop i)))) := by
  intro n
  induction n with
  | zero =>
    intro i acc hn hi ha
    have : i = cs.length := by omega
    subst this
    rw [L, e_split_splitting_constants_1_L1]
    simp [constsC, feed]
  | succ n ih =>
    intro i acc hn hi ha
    have hlt : i < cs.length := by omega
    have hlt' : (i : Int) < cs.length := by omega
    have hd : cs.drop i = cs[i] :: cs.drop (i + 1) := List.drop_eq_getElem_cons hlt
    obtain ⟨hk, hk2⟩ := hcs _ (List.getElem_mem hlt)
    have hw : IntKind.i64.wrap ((i : Int) + 1) = ((i + 1 : Nat) : Int) := by rw [wrap_id ⟨by omega, by omega⟩]; omega
    have hlen : (encIs cs).length = cs.length := by simp [encIs]
    have hget : getI (encIs cs) (i : Int) = .int (cs[i] : Int) := by simp [getI, encIs, List.getD_eq_getElem?_getD, hlt]
    have hC := (constant_spec sig (encs sch) (encs a.args) ρ.phi ρ.bz ρ.cls dl psi ρ.nm a.k a.h ρ.bk ρ.bh fam ρ.tot cs[i] hk hpsi hdl hdn hsn (hmay _ (List.getElem_mem hk)) (hlow _ (List.getElem_mem hk)) hk2).p (by simp only [belowL, Bool.and_true]; rw [show below 0 _ = true from below_spV 0 sig sch dl psi a ρ fam]; rfl) (by simp [below, belowL, below_encC])
    have hcons : constsC sig dl psi (cs.drop i) = constC dl psi cs[i] sig[cs[i]].t :: constsC sig dl psi (cs.drop (i + 1)) := by
      simp only [constsC, hd, List.map_cons]
      congr 1
      simp [List.getD_eq_getElem?_getD, hk]
    have hrd := roundC_spec ds hds acc (constC dl psi cs[i] sig[cs[i]].t).1 (constC dl psi cs[i] sig[cs[i]].t).2 [] (by omega)
    rw [List.append_nil, List.append_nil] at hrd
    have hg := fun {R : Type} (K : Res → Option R) => getR_stS ds hds acc [] K
    simp only [List.append_nil] at hg
    rw [L, e_split_splitting_constants_1_L1, hw, hlen, hget, hcons]
    generalize constC dl psi cs[i] sig[cs[i]].t = x at *
    obtain ⟨x, e⟩ := x
    simp only [hlt', decide_true, bc_true, Bool.true_and, gd_true, onInt_int, hC, obind_some', onTup_tup, onCons_cons, onC, ← encC_eta, onNil_nil, hg, onLoop_loop, onPend_ready, hrd]
    rw [feed_one]
    by_cases he : e = 0
    · have := ih (i + 1) (acc ++ [x]) (by omega) (by omega) (by simp; omega)
      rw [if_pos he]
      simp [he, feed]
      exact this
    · simp [he, feed]

theorem constants_spec (hmay : ∀ d ∈ sig, may d.t = true) (hlow : ∀ d ∈ sig, low d.t = true) (hs2 : sig.length ≤ 524288) (ds : St) (hds : okDs ds) :
    W.call 36 [.yld (3 + ds.length), .cptr (some 15) (spV sig sch dl psi a ρ fam)] (stS ds ([], 0)) =
      some (.ret (.tup []), stS ds (feed [] (constsC sig dl psi (consts fam sig 0)))) := by
  have hC := (Constants_spec sig fam hsn).p (by simp [belowL, below, below_encDs]) (by simp [below, below_encIs])
  have hl := consts_length fam sig 0
  have hL := constsL_spec' sig sch dl psi a ρ fam hpsi hdl hdn hsn hmay hlow (consts fam sig 0) (fun k hk => by
    obtain ⟨_, h2, h3, h4⟩ := consts_mem fam sig 0 k hk
    simp only [Nat.sub_zero] at h3 h4
    refine ⟨h3, ?_⟩
    unfold family at h4
    split at h4
    · assumption
    · omega) (by omega) ds hds _ 0 [] rfl (Nat.zero_le _) (by simp)
  simp only [Int.natCast_zero, List.drop_zero] at hL
  have hlen : (encIs (consts fam sig 0)).length = (consts fam sig 0).length := by simp [encIs]
  rw [C, e_split_splitting_constants_1, hC]
  simp only [obind_some', onVec_plain, hlen, hL]
  by_cases h0 : (feed [] (constsC sig dl psi (consts fam sig 0))).2 = 0
  · simp [h0, gcE_len, stS_length]
  · simp [h0, gcE_len, stS_length]
end
end Go.Proofs.SP

/-! split: the cases of variables. -/
namespace Go.Proofs.SP
open Go Go.AM Go.Ama

theorem getR_at {R : Type} (a : St) (x : Res) (b : St) {n : Nat} (h : n = a.length) (K : Res → Option R) : getR (a ++ x :: b) n K = K x := by
  subst h
  exact getR_some (by simp) K
theorem set_at (a : St) (x y : Res) (b : St) {n : Nat} (h : n = a.length) : List.set (a ++ x :: b) n y = a ++ y :: b := by
  subst h
  simp
theorem belowSt_app (n : Nat) : ∀ a b : St, belowSt n (a ++ b) = (belowSt n a && belowSt n b)
  | [], b => by simp [belowSt]
  | x :: a, b => by simp [belowSt, belowSt_app n a b, Bool.and_assoc]
theorem below_stS (n : Nat) (hn : 3 ≤ n) (ds : St) (hds : okDs ds) (r : List Cs × Int) : belowSt n (stS ds r) = true := by
  have h0 : 0 < n := by omega
  have h1 : 1 < n := by omega
  have h2 : 2 < n := by omega
  unfold stS
  by_cases h : r.2 = 0
  · by_cases c : r.1 = []
    · rcases hds with rfl | rfl | rfl <;> simp [h, belowSt, belowRes, belowL, below, box2, c, h0, h1, h2]
    · rcases hds with rfl | rfl | rfl <;> simp [h, belowSt, belowRes, belowL, below, box2, c, h0, h1, h2]
  · by_cases c : r.1 = []
    · rcases hds with rfl | rfl | rfl <;> simp [h, belowSt, belowRes, belowL, below, box2, c, h0, h1, h2]
    · rcases hds with rfl | rfl | rfl <;> simp [h, belowSt, belowRes, belowL, below, box2, c, h0, h1, h2]
@[simp] theorem cleanV_spr (sh : Sh) (es : List V) (r : Nat) : cleanV (.spr sh es r) = .vec .plain sh es := rfl

/-- What is left over: rooms. -/
def Jk (N : Nat) : St → Prop
  | [] => True
  | .dead :: j => Jk N j
  | .spare _ _ q :: j => q + 1 < N ∧ Jk N j
  | _ :: _ => False
theorem Jk.below {N : Nat} : ∀ {j : St}, Jk N j → belowSt N j = true
  | [], _ => rfl
  | .dead :: j, h => by have := Jk.below (j := j) h; simp [belowSt, belowRes, this]
  | .spare _ _ q :: j, h => by have := Jk.below (j := j) h.2; simp [belowSt, belowRes, this, h.1]
theorem Jk.more {N M : Nat} (hNM : N ≤ M) : ∀ {j : St}, Jk N j → Jk M j
  | [], _ => trivial
  | .dead :: j, h => Jk.more (j := j) hNM h
  | .spare _ _ q :: j, h => ⟨by have := h.1; omega, Jk.more (j := j) hNM h.2⟩
theorem Jk.app {N : Nat} : ∀ {a b : St}, Jk N a → Jk N b → Jk N (a ++ b)
  | [], b, _, h => h
  | .dead :: j, b, h, k => Jk.app (a := j) h k
  | .spare _ _ q :: j, b, h, k => ⟨h.1, Jk.app (a := j) h.2 k⟩

section
variable (sig : List D) (sch : List T) (dl : List M) (psi : List T) (a : T) (ρ : Rest) (fam : Int)
abbrev lpV (q : Nat) (s : LSt) (p : Option Ex) : Res := .loop 39 4 [.cptr none (.yld q), .cptr (some 15) (spV sig sch dl psi a ρ fam)] s p
variable (hdl : ∀ m ∈ dl, m.ctx.length ≤ 1099511627776) (hdn : dl.length ≤ 1000000)
include hdl hdn

theorem roundV_spec (ds : St) (hds : okDs ds) (acc : List Cs) (hacc : acc.length ≤ 1048576) (i : Nat) (t : T) (hi : i < psi.length) (hp : psi.length ≤ 1048576) (ht : t.size ≤ 1099511627776) (jk : St) (hj : Jk (5 + ds.length + jk.length) jk) :
    ∃ jk', Jk (5 + ds.length + jk'.length) jk' ∧ W.round (4 + ds.length) 39 4 [.cptr none (.yld (3 + ds.length)), .cptr (some 15) (spV sig sch dl psi a ρ fam)] [.int (i : Int), enc t] (stS ds (acc, 0) ++ lpV sig sch dl psi a ρ fam (3 + ds.length) .ready none :: jk) =
      some (decide ((feed acc (varC fam dl (psi.length - 1 - i) t)).2 = 0), stS ds (feed acc (varC fam dl (psi.length - 1 - i) t)) ++ (if (feed acc (varC fam dl (psi.length - 1 - i) t)).2 = 0 then lpV sig sch dl psi a ρ fam (3 + ds.length) .ready none else lpV sig sch dl psi a ρ fam (3 + ds.length) .done (some .ret)) :: jk') := by
  have hlen := stS_length ds (acc, 0)
  have hjb := hj.below
  have hst : belowSt (List.length (stS ds (acc, 0) ++ lpV sig sch dl psi a ρ fam (3 + ds.length) .busy none :: jk)) (stS ds (acc, 0) ++ lpV sig sch dl psi a ρ fam (3 + ds.length) .busy none :: jk) = true := by
    rw [belowSt_app, below_stS _ (by simp [hlen]; omega) ds hds]
    have hl : (stS ds (acc, 0) ++ lpV sig sch dl psi a ρ fam (3 + ds.length) .busy none :: jk).length = 5 + ds.length + jk.length := by simp [hlen]; omega
    rw [hl]
    have := below_spV (5 + ds.length + jk.length) sig sch dl psi a ρ fam
    have h4 : 3 + ds.length < 5 + ds.length + jk.length := by omega
    simp only [belowSt, belowRes, belowL, hjb]
    rw [show below (5 + ds.length + jk.length) (V.cptr (some 15) (spV sig sch dl psi a ρ fam)) = true from this]
    simp [below, h4]
  have hm := metas_spec (encDs sig) (encs sch) (encs psi) (encs a.args) ρ.phi ρ.bz ρ.cls dl [] ρ.nm a.k a.h ρ.bk ρ.bh fam ρ.tot _ (by simpa using hdl) (by simp; omega) hst
  simp only [encMs_nil, List.append_nil, List.length_nil, Nat.add_zero] at hm
  obtain ⟨j, hj'⟩ : ∃ j : Nat, j = psi.length - 1 - i := ⟨_, rfl⟩
  have hw : IntKind.i64.wrap ((psi.length : Int) - 1) = (psi.length : Int) - 1 := wrap_id ⟨by omega, by omega⟩
  have hw1 : IntKind.i64.wrap ((psi.length : Int) - 1 - i) = (j : Int) := by rw [wrap_id ⟨by omega, by omega⟩]; omega
  have hw2 : IntKind.i64.wrap ((j : Int) + 1) = (j : Int) + 1 := wrap_id ⟨by omega, by omega⟩
  have hU := (Up_spec t (j + 1) 0 ht).p
  have hO := (own_spec (encDs sig) (encs sch) (encMs dl) (encs psi) (encs a.args) ρ.phi ρ.bz ρ.cls ρ.nm a.k a.h ρ.bk ρ.bh fam ρ.tot t).p (by
    simp only [belowL, Bool.and_true]; rw [show below 0 (encSp _ _ _ _ _ _ _ _ _ _ _ _ _ _ _) = true from below_spV 0 sig sch dl psi a ρ fam, below_enc]; rfl)
  obtain ⟨n0, hn0⟩ : ∃ n0, n0 = (stS ds (acc, 0) ++ lpV sig sch dl psi a ρ fam (3 + ds.length) .busy none :: jk).length := ⟨_, rfl⟩
  rw [← hn0] at hm
  have hn0' : n0 = 5 + ds.length + jk.length := by rw [hn0]; simp [hlen]; omega
  refine ⟨jk ++ [.spare (some 5) dl.length (n0 + 1), .dead, .dead], ?_, ?_⟩
  · refine Jk.app (hj.more (by simp)) ⟨?_, trivial⟩
    simp; omega
  rw [← hj', Rd, enc_eta t, e_split_splitting_variables_1_R4, ← enc_eta t, getR_at _ _ _ (by rw [hlen]), onLoop_loop, set_at _ _ _ _ (by rw [hlen]), encs_length, hw, hw1, hw2]
  simp only [onReady, hm, obind_some', onRet_ret, cleanV_spr, onVec_plain, hU, onTe, List.append_assoc, List.cons_append]
  have hg := getR_stS ds hds acc (lpV sig sch dl psi a ρ fam (3 + ds.length) .busy none :: (jk ++ [.spare (some 5) dl.length (n0 + 1), .dead, .dead])) (R := Bool × St)
  have ec : (T.k t != 2) = !decide (t.k = 2) := by by_cases h : t.k = 2 <;> simp [h]
  by_cases hk : t.k = 2
  · by_cases ho : (decide (0 ≤ fam) && decide (family t = fam)) = true
    · have hr := roundC_spec ds hds acc ⟨dl, .mk 4 j [], upP t (j + 1) 0⟩ 0 (lpV sig sch dl psi a ρ fam (3 + ds.length) .busy none :: (jk ++ [.spare (some 5) dl.length (n0 + 1), .dead, .dead])) hacc
      have ev : varC fam dl j t = [(⟨dl, .mk 4 j [], upP t (j + 1) 0⟩, 0)] := by unfold varC Ama.ownP; rw [if_neg (by simpa using hk), if_pos ho]
      rw [ho] at hO
      simp only [encC_eta, T_k_mk, T_h_mk, T_args_mk, encs_nil] at hr
      simp [ec, hk, hO, ev, hg, hr, feed, getR_at, set_at, stS_length]
    · have ev : varC fam dl j t = [] := by unfold varC Ama.ownP; rw [if_neg (by simpa using hk), if_neg ho]
      rw [Bool.not_eq_true] at ho
      rw [ho] at hO
      simp [ec, hk, hO, ev, feed, getR_at, set_at, stS_length]
  · have hr := roundC_spec ds hds acc ⟨dl, .mk 4 j [], upP t (j + 1) 0⟩ 5 (lpV sig sch dl psi a ρ fam (3 + ds.length) .busy none :: (jk ++ [.spare (some 5) dl.length (n0 + 1), .dead, .dead])) hacc
    have ev : varC fam dl j t = [(⟨dl, .mk 4 j [], upP t (j + 1) 0⟩, 5)] := by unfold varC; rw [if_pos (by simpa using hk)]
    simp only [encC_eta, T_k_mk, T_h_mk, T_args_mk, encs_nil] at hr
    simp [ec, hk, ev, hg, hr, feed, getR_at, set_at, stS_length]
end
end Go.Proofs.SP

/-! split: the cases of variables, whole; those of what is around. -/
namespace Go.Proofs.SP
open Go Go.AM Go.Ama

theorem feed_length : ∀ (l : List (Cs × Int)) (acc : List Cs), (feed acc l).1.length ≤ acc.length + l.length
  | [], acc => by simp [feed]
  | (x, e) :: l, acc => by
    rw [feed_one]
    split
    · have := feed_length l (acc ++ [x]); simp at this ⊢; omega
    · simp
theorem varC_length (f : Int) (dl : List M) (i : Nat) (t : T) : (varC f dl i t).length ≤ 1 := by
  unfold varC
  repeat' split
  all_goals simp
theorem gcE_drop {n : Nat} {v : V} {a b : St} (h : a.length = n) (hb : b ≠ []) (h1 : below n v = true) (h2 : belowSt n a = true) : gcE n v (a ++ b) = some (.ret v, a) := by
  have hne : Nat.beq (a ++ b).length n = false := by
    rw [List.length_append, h]
    have : 0 < b.length := List.length_pos_iff.2 hb
    cases hx : Nat.beq (n + b.length) n with
    | false => rfl
    | true => have := Nat.eq_of_beq_eq_true hx; omega
  have ht : List.take n (a ++ b) = a := by rw [← h]; simp
  unfold gcE
  rw [hne, ht]
  simp [h1, h2]

section
variable (sig : List D) (sch : List T) (dl : List M) (psi : List T) (a : T) (ρ : Rest) (fam : Int)
variable (hdl : ∀ m ∈ dl, m.ctx.length ≤ 1099511627776) (hdn : dl.length ≤ 1000000)
include hdl hdn

theorem backL_spec (hp : psi.length ≤ 524288) (ht : sizes psi ≤ 1099511627776) (ds : St) (hds : okDs ds) : ∀ (n : Nat) (acc : List Cs) (jk : St), n ≤ psi.length → acc.length + n ≤ 1048576 → Jk (5 + ds.length + jk.length) jk →
    ∃ jk', W.loop 56 1 [.int ((n : Int) - 1), .cptr none (.vec .plain (some 3) (encs psi)), .yld (4 + ds.length)] (stS ds (acc, 0) ++ lpV sig sch dl psi a ρ fam (3 + ds.length) .ready none :: jk) =
      some (if (feed acc (varsC fam dl (psi.length - n) (psi.take n).reverse)).2 = 0 then .exit 0 else .ret, [], stS ds (feed acc (varsC fam dl (psi.length - n) (psi.take n).reverse)) ++ (if (feed acc (varsC fam dl (psi.length - n) (psi.take n).reverse)).2 = 0 then lpV sig sch dl psi a ρ fam (3 + ds.length) .ready none else lpV sig sch dl psi a ρ fam (3 + ds.length) .done (some .ret)) :: jk') := by
  intro n
  induction n with
  | zero =>
    intro acc jk hn ha hj
    refine ⟨jk, ?_⟩
    rw [L, e_slices_Backward_api_Term_api_Term_1_L1]
    simp [varsC, feed]
  | succ n ih =>
    intro acc jk hn ha hj
    have hlt : n < psi.length := by omega
    have hts := size_le (List.getElem_mem hlt)
    obtain ⟨jk1, hj1, hr⟩ := roundV_spec sig sch dl psi a ρ fam hdl hdn ds hds acc (by omega) n psi[n] hlt (by omega) (by omega) jk hj
    have e1 : psi.length - 1 - n = psi.length - (n + 1) := by omega
    have e2 : (psi.take (n + 1)).reverse = psi[n] :: (psi.take n).reverse := by rw [take_succ' hlt]; simp
    have e3 : psi.length - (n + 1) + 1 = psi.length - n := by omega
    rw [e1] at hr
    have hw : IntKind.i64.wrap ((n : Int) - 1) = (n : Int) - 1 := wrap_id ⟨by omega, by omega⟩
    have hc : (((n + 1 : Nat) : Int) - 1) = (n : Int) := by omega
    have hlen := stS_length ds (acc, 0)
    have hg : ∀ {R : Type} (K : Res → Option R), getR (stS ds (acc, 0) ++ lpV sig sch dl psi a ρ fam (3 + ds.length) .ready none :: jk) (4 + ds.length) K = K (lpV sig sch dl psi a ρ fam (3 + ds.length) .ready none) := fun K => getR_at _ _ _ (by rw [hlen]) K
    have hlt' : (n : Int) < psi.length := by omega
    have hvl := varC_length fam dl (psi.length - (n + 1)) psi[n]
    have hfl := feed_length (varC fam dl (psi.length - (n + 1)) psi[n]) acc
    rw [e2]
    unfold varsC
    rw [feed_append, e3]
    generalize hv : feed acc (varC fam dl (psi.length - (n + 1)) psi[n]) = r at *
    obtain ⟨r1, r2⟩ := r
    by_cases h0 : r2 = 0
    · subst h0
      obtain ⟨jk', h2⟩ := ih r1 jk1 (by omega) (by simp at hfl; omega) hj1
      refine ⟨jk', ?_⟩
      rw [L, hc, e_slices_Backward_api_Term_api_Term_1_L1, getI_encs hlt, encs_length]
      simp only [hw, ge_iff_le, Int.natCast_nonneg, decide_true, hlt', bc_true, Bool.and_self, gd_true, onTe, ← enc_eta, hg, onLoop_loop, onPend_ready, hr, obind_some', if_true]
      exact h2
    · refine ⟨jk1, ?_⟩
      rw [L, hc, e_slices_Backward_api_Term_api_Term_1_L1, getI_encs hlt, encs_length]
      simp only [hw, ge_iff_le, Int.natCast_nonneg, decide_true, hlt', bc_true, Bool.and_self, gd_true, onTe, ← enc_eta, hg, onLoop_loop, onPend_ready, hr, obind_some']
      simp [h0]

theorem variables_spec (hp : psi.length ≤ 524288) (ht : sizes psi ≤ 1099511627776) (ds : St) (hds : okDs ds) (acc : List Cs) (hacc : acc.length ≤ 524288) :
    W.call 39 [.yld (3 + ds.length), .cptr (some 15) (spV sig sch dl psi a ρ fam)] (stS ds (acc, 0)) =
      some (.ret (.tup []), stS ds (feed acc (varsC fam dl 0 psi.reverse))) := by
  have hlen := stS_length ds (acc, 0)
  obtain ⟨jk, hL⟩ := backL_spec sig sch dl psi a ρ fam hdl hdn hp ht ds hds psi.length acc [] (Nat.le_refl _) (by omega) trivial
  rw [Nat.sub_self, List.take_length] at hL
  have hw : IntKind.i64.wrap ((psi.length : Int) - 1) = (psi.length : Int) - 1 := wrap_id ⟨by omega, by omega⟩
  generalize feed acc (varsC fam dl 0 psi.reverse) = r at *
  have hlenr := stS_length ds r
  have hB : W.call 40 [.vec .plain (some 3) (encs psi)] (stS ds (acc, 0)) = some (.ret (.fn 56 [] [.cptr none (.vec .plain (some 3) (encs psi))]), stS ds (acc, 0)) := by
    rw [C, e_slices_Backward_api_Term_api_Term, gcE_len rfl]
  have hB1 : W.call 56 [.yld (4 + ds.length), .cptr none (.vec .plain (some 3) (encs psi))] (stS ds (acc, 0) ++ [lpV sig sch dl psi a ρ fam (3 + ds.length) .ready none]) =
      some (.ret (.tup []), stS ds r ++ [if r.2 = 0 then lpV sig sch dl psi a ρ fam (3 + ds.length) .ready none else lpV sig sch dl psi a ρ fam (3 + ds.length) .done (some .ret)]) := by
    have hl1 : (stS ds (acc, 0) ++ [lpV sig sch dl psi a ρ fam (3 + ds.length) .ready none]).length = 5 + ds.length := by simp [hlen]; omega
    have hbl : belowSt (5 + ds.length) (stS ds r ++ [if r.2 = 0 then lpV sig sch dl psi a ρ fam (3 + ds.length) .ready none else lpV sig sch dl psi a ρ fam (3 + ds.length) .done (some .ret)]) = true := by
      have h3 : 3 + ds.length < 5 + ds.length := by omega
      have hs := below_spV (5 + ds.length) sig sch dl psi a ρ fam
      rw [belowSt_app, below_stS _ (by omega) ds hds]
      split <;> simp only [belowSt, belowRes, belowL] <;> rw [show below (5 + ds.length) (V.cptr (some 15) (spV sig sch dl psi a ρ fam)) = true from hs] <;> simp [below, h3]
    rw [C, e_slices_Backward_api_Term_api_Term_1, encs_length, hw, hL, hl1]
    cases jk with
    | nil =>
      have hl2 : ∀ x : Res, (stS ds r ++ [x]).length = 5 + ds.length := by intro x; simp [hlenr]; omega
      split <;> simp [gcE_len, hl2]
    | cons x jk =>
      have := gcE_drop (n := 5 + ds.length) (v := .tup []) (a := stS ds r ++ [if r.2 = 0 then lpV sig sch dl psi a ρ fam (3 + ds.length) .ready none else lpV sig sch dl psi a ρ fam (3 + ds.length) .done (some .ret)]) (b := x :: jk) (by simp [hlenr]; omega) (by simp) rfl hbl
      rw [List.append_assoc, List.singleton_append] at this
      split <;> simp [this] <;> rename_i h0 <;> simp [h0] at this ⊢ <;> simp [this]
  have hfin : gcE (4 + ds.length) (.tup []) (stS ds r ++ [.dead]) = some (.ret (.tup []), stS ds r) := gcE_drop hlenr (by simp) rfl (below_stS _ (by omega) ds hds r)
  rw [C, e_split_splitting_variables_1, hB]
  simp only [obind_some', onRet_ret, onFn_fn, List.nil_append, List.singleton_append, List.cons_append, hlen]
  rw [hB1]
  simp only [obind_some', onRet_ret]
  rw [getR_at (stS ds r) _ [] (by rw [hlenr])]
  by_cases h0 : r.2 = 0
  · simp only [h0, if_true, onLoop_loop, onPend_ready]
    rw [set_at (stS ds r) _ _ [] (by rw [hlenr])]
    exact hfin
  · simp only [h0, if_false, onLoop_loop, onPend_ret]
    rw [set_at (stS ds r) _ _ [] (by rw [hlenr])]
    exact hfin
end
end Go.Proofs.SP

/-! split: the cases of what is around. -/
namespace Go.Proofs.SP
open Go Go.AM Go.Ama

section
variable (sig : List D) (sch : List T) (dl : List M) (psi : List T) (a : T) (ρ : Rest) (fam : Int)
variable (hdl : ∀ m ∈ dl, m.ctx.length ≤ 1099511627776) (hdn : dl.length ≤ 1000000)
include hdl hdn

theorem aroundL_spec (xs : List T) (hp : xs.length ≤ 524288) (ht : sizes xs ≤ 1099511627776) (ds : St) (hds : okDs ds) : ∀ (n i : Nat) (acc : List Cs) (jk : St), xs.length - i = n → i ≤ xs.length → acc.length + n ≤ 1048576 → Jk (4 + ds.length + jk.length) jk →
    ∃ jk', W.loop 44 1 [.int (i : Int), .yld (3 + ds.length), .cptr (some 15) (spV sig sch dl psi a ρ fam), .vec .plain (some 3) (encs xs), .int xs.length] (stS ds (acc, 0) ++ jk) =
      some (if (feed acc ((xs.drop i).flatMap (aroundC fam dl))).2 = 0 then .exit 0 else .ret, [], stS ds (feed acc ((xs.drop i).flatMap (aroundC fam dl))) ++ jk') := by
  intro n
  induction n with
  | zero =>
    intro i acc jk hn hi ha hj
    have : i = xs.length := by omega
    subst this
    refine ⟨jk, ?_⟩
    rw [L, e_split_splitting_around_1_L1]
    simp [feed]
  | succ n ih =>
    intro i acc jk hn hi ha hj
    have hlt : i < xs.length := by omega
    have hlt' : (i : Int) < xs.length := by omega
    have hd : xs.drop i = xs[i] :: xs.drop (i + 1) := List.drop_eq_getElem_cons hlt
    have hts := size_le (List.getElem_mem hlt)
    have hw : IntKind.i64.wrap ((i : Int) + 1) = ((i + 1 : Nat) : Int) := by rw [wrap_id ⟨by omega, by omega⟩]; omega
    have hlen := stS_length ds (acc, 0)
    have hl : (stS ds (acc, 0) ++ jk).length = 4 + ds.length + jk.length := by simp [hlen]
    have hst : belowSt (stS ds (acc, 0) ++ jk).length (stS ds (acc, 0) ++ jk) = true := by
      rw [belowSt_app, below_stS _ (by rw [hl]; omega) ds hds, hl, hj.below]; rfl
    have hown := (pown_spec xs[i] (by omega)).p
    have hm := metas_spec (encDs sig) (encs sch) (encs psi) (encs a.args) ρ.phi ρ.bz ρ.cls dl [⟨[], xs[i], true⟩] ρ.nm a.k a.h ρ.bk ρ.bh fam ρ.tot _ (fun m hm => by
      rcases List.mem_append.1 hm with h | h
      · exact hdl m h
      · simp at h; subst h; simp) (by simp; omega) hst
    rw [hl] at hm
    have hO := (own_spec (encDs sig) (encs sch) (encMs dl) (encs psi) (encs a.args) ρ.phi ρ.bz ρ.cls ρ.nm a.k a.h ρ.bk ρ.bh fam ρ.tot xs[i]).p (by
      simp only [belowL, Bool.and_true]; rw [show below 0 (encSp _ _ _ _ _ _ _ _ _ _ _ _ _ _ _) = true from below_spV 0 sig sch dl psi a ρ fam, below_enc]; rfl)
    have hj1 : Jk (4 + ds.length + (jk ++ [Res.spare (some 5) (dl.length + 1) (4 + ds.length + jk.length + 1), .dead, .dead]).length) (jk ++ [Res.spare (some 5) (dl.length + 1) (4 + ds.length + jk.length + 1), .dead, .dead]) := by
      refine Jk.app (hj.more (by simp)) ⟨?_, trivial⟩
      simp; omega
    have hg := fun {R : Type} (K : Res → Option R) => getR_stS ds hds acc (jk ++ [Res.spare (some 5) (dl.length + 1) (4 + ds.length + jk.length + 1), .dead, .dead]) K
    have hr := roundC_spec ds hds acc ⟨dl ++ [⟨[], xs[i], true⟩], .mk 6 dl.length [], xs[i]⟩ 0 (jk ++ [Res.spare (some 5) (dl.length + 1) (4 + ds.length + jk.length + 1), .dead, .dead]) (by omega)
    simp only [encC_eta, T_k_mk, T_h_mk, T_args_mk, encs_nil, encMs_append] at hr
    have em : encM ⟨[], xs[i], true⟩ = .agg [.vec .plain (some 3) [], .int xs[i].k, .int xs[i].h, .vec .plain (some 3) (encs xs[i].args), .bool true] := rfl
    simp only [encMs_cons, encMs_nil, List.length_singleton, em, encMs_append] at hm hr
    rw [hd, List.flatMap_cons, feed_append]
    by_cases ho : (decide (0 ≤ fam) && decide (family xs[i] = fam)) = true
    · have ev : aroundC fam dl xs[i] = [(⟨dl ++ [⟨[], xs[i], true⟩], .mk 6 dl.length [], xs[i]⟩, 0)] := by unfold aroundC Ama.ownP; rw [if_pos ho]
      obtain ⟨jk', h2⟩ := ih (i + 1) (acc ++ [⟨dl ++ [⟨[], xs[i], true⟩], .mk 6 dl.length [], xs[i]⟩]) _ (by omega) (by omega) (by simp; omega) hj1
      refine ⟨jk', ?_⟩
      rw [ho] at hO
      rw [ev]
      rw [L, e_split_splitting_around_1_L1, hw, getI_encs hlt]
      simp only [Int.natCast_nonneg, decide_true, encs_length, hlt', bc_true, Bool.and_self, gd_true, onTe, ← enc_eta, hown, obind_some', hm, onRet_ret, cleanV_spr, onVec_plain, hO, onBool_bool, List.append_assoc, hg, onLoop_loop, onPend_ready, encMs_length, hr]
      simpa [feed] using h2
    · have ev : aroundC fam dl xs[i] = [] := by unfold aroundC Ama.ownP; rw [if_neg ho]
      rw [Bool.not_eq_true] at ho
      rw [ho] at hO
      obtain ⟨jk', h2⟩ := ih (i + 1) acc _ (by omega) (by omega) (by omega) hj1
      refine ⟨jk', ?_⟩
      rw [ev]
      rw [L, e_split_splitting_around_1_L1, hw, getI_encs hlt]
      simp only [Int.natCast_nonneg, decide_true, encs_length, hlt', bc_true, Bool.and_self, gd_true, onTe, ← enc_eta, hown, obind_some', hm, onRet_ret, cleanV_spr, onVec_plain, hO, onBool_bool, List.append_assoc, bc_false]
      simpa [feed] using h2

theorem around_spec (hp : sch.length ≤ 524288) (ht : sizes sch ≤ 1099511627776) (ds : St) (hds : okDs ds) (acc : List Cs) (hacc : acc.length ≤ 524288) :
    W.call 44 [.yld (3 + ds.length), .cptr (some 15) (spV sig sch dl psi a ρ fam)] (stS ds (acc, 0)) =
      some (.ret (.tup []), stS ds (feed acc (sch.flatMap (aroundC fam dl)))) := by
  have hlen := stS_length ds (acc, 0)
  obtain ⟨jk, hL⟩ := aroundL_spec sig sch dl psi a ρ fam hdl hdn sch hp ht ds hds _ 0 acc [] rfl (Nat.zero_le _) (by omega) trivial
  simp only [List.append_nil, List.drop_zero, Int.natCast_zero] at hL
  generalize feed acc (sch.flatMap (aroundC fam dl)) = r at *
  have hlenr := stS_length ds r
  have hfin : gcE (4 + ds.length) (.tup []) (stS ds r ++ jk) = some (.ret (.tup []), stS ds r) := by
    cases jk with
    | nil => rw [List.append_nil]; exact gcE_len hlenr
    | cons x jk => exact gcE_drop hlenr (by simp) rfl (below_stS _ (by omega) ds hds r)
  rw [C, e_split_splitting_around_1, encs_length, hL, hlen]
  split <;> simp [hfin]
end
end Go.Proofs.SP

/-! split.Cases. -/
namespace Go.Proofs.SP
open Go Go.AM Go.Ama

theorem indexD_spec {g : Nat} {a b : List V} (hp : cfg.pure g = false) {p : D → Bool} (xs : List D) (hs : xs.length ≤ 1099511627776) (st : St) (hg : ∀ t ∈ xs, W.call g (a ++ [encD t] ++ b) st = some (.ret (.bool (p t)), st)) :
    ∀ (n i : Nat), xs.length - i = n → i ≤ xs.length → (∃ j : Nat, (xs.drop i).any p = true ∧ W.loop 52 2 [.int (i : Int), .vec .plain (some 4) (encDs xs), .fn g a b, .int xs.length] st = some (.ret, [.int (j : Int)], st)) ∨
      ((xs.drop i).any p = false ∧ W.loop 52 2 [.int (i : Int), .vec .plain (some 4) (encDs xs), .fn g a b, .int xs.length] st = some (.exit 0, [], st)) := by
  intro n
  induction n with
  | zero =>
    intro i hn hi
    have : i = xs.length := by omega
    subst this
    right
    refine ⟨by simp, ?_⟩
    rw [L, e_slices_IndexFunc_api_Decl_api_Decl_L2]
    simp
  | succ n ih =>
    intro i hn hi
    have hlt : i < xs.length := by omega
    have hx := hg xs[i] (List.getElem_mem hlt)
    have hd : xs.drop i = xs[i] :: xs.drop (i + 1) := List.drop_eq_getElem_cons hlt
    have hstep : W.loop 52 2 [.int (i : Int), .vec .plain (some 4) (encDs xs), .fn g a b, .int xs.length] st =
        bc (p xs[i]) (some (.ret, [.int (i : Int)], st)) (W.loop 52 2 [.int ((i + 1 : Nat) : Int), .vec .plain (some 4) (encDs xs), .fn g a b, .int xs.length] st) := by
      rw [L, e_slices_IndexFunc_api_Decl_api_Decl_L2, getI_encDs hlt]
      rw [wrap_id ⟨by omega, by omega⟩]
      have h1 : (i : Int) < xs.length := by omega
      have e1 : V.agg [V.str (ba xs[i].name), V.int xs[i].t.k, V.int xs[i].t.h, V.vec .plain (some 3) (encs xs[i].t.args)] = encD xs[i] := rfl
      simp only [h1, encDs_length, Int.natCast_nonneg, decide_true, Bool.and_self, gd_true, bc_true, onDe, hp, bc_false, e1, hx, obind_some', onRet_ret, onBool_bool]
      rfl
    rw [hstep, hd, List.any_cons]
    cases hpx : p xs[i] with
    | true => exact .inl ⟨i, rfl, rfl⟩
    | false =>
      simp only [bc, Bool.false_or]
      exact ih (i + 1) (by omega) (by omega)
theorem containsD_spec {g : Nat} {a b : List V} (hp : cfg.pure g = false) {p : D → Bool} (xs : List D) (hs : xs.length ≤ 1099511627776) (st : St) (hg : ∀ t ∈ xs, W.call g (a ++ [encD t] ++ b) st = some (.ret (.bool (p t)), st)) :
    W.call 33 [.vec .plain (some 4) (encDs xs), .fn g a b] st = some (.ret (.bool (xs.any p)), st) := by
  have h := indexD_spec hp xs hs st hg _ 0 rfl (Nat.zero_le _)
  rw [C, e_slices_ContainsFunc_api_Decl_api_Decl, C, e_slices_IndexFunc_api_Decl_api_Decl]
  simp only [List.drop_zero, Int.natCast_zero] at h
  rcases h with ⟨j, h1, h2⟩ | ⟨h1, h2⟩
  · simp [h2, h1, gcE_len]
  · simp [h2, h1, gcE_len]

theorem pure_may_1 : cfg.pure 31 = true := by kernel_rfl
theorem pure_may_2 : cfg.pure 34 = false := by kernel_rfl
theorem oddS_spec (t : T) (hs : t.size ≤ 1099511627776) : Ev 31 [enc t] (.bool (!may t)) := by
  have h := (pmay_spec t hs).p
  unfold Ev
  rw [C, enc_eta t, e_split_splitting_may_1, ← enc_eta, h]
  simp
theorem oddD_spec (d : D) (hs : d.t.size ≤ 1099511627776) (st : St) : W.call 34 ([] ++ [encD d] ++ [.cptr none (.fn 31 [] [])]) st = some (.ret (.bool (!may d.t)), st) := by
  have h := (oddS_spec d.t hs).p
  have e1 : encD d = V.agg [V.str (ba d.name), V.int d.t.k, V.int d.t.h, V.vec .plain (some 3) (encs d.t.args)] := rfl
  rw [e1]
  show W.call 34 [V.agg [V.str (ba d.name), V.int d.t.k, V.int d.t.h, V.vec .plain (some 3) (encs d.t.args)], .cptr none (.fn 31 [] [])] st = _
  rw [C, e_split_splitting_may_2, ← enc_eta, h]
  simp [gcE_len]

section
variable (sig : List D) (sch : List T) (dl : List M) (psi : List T) (a : T) (ρ : Rest) (fam : Int)
theorem spmay_spec (hsig : ∀ d ∈ sig, d.t.size ≤ 1099511627776) (hsl : sig.length ≤ 1048576) (hsch : sizes sch ≤ 1099511627776) (hpsi : sizes psi ≤ 1099511627776) (ha : a.size ≤ 1099511627776) :
    Ev 20 [spV sig sch dl psi a ρ fam] (.bool (mayP sig sch dl psi a)) := by
  have h1 := containsD_spec (a := []) (b := [.cptr none (.fn 31 [] [])]) pure_may_2 (p := fun d => !may d.t) sig (by omega) [] (fun d hd => oddD_spec d (hsig d hd) [])
  have h2 := contains_spec (a := []) (b := []) pure_may_1 (p := fun t => !may t) psi (by have := length_le_sizes psi; omega) (fun t ht => (oddS_spec t (by have := size_le ht; omega)).p) []
  have h3 := contains_spec (a := []) (b := []) pure_may_1 (p := fun t => !may t) sch (by have := length_le_sizes sch; omega) (fun t ht => (oddS_spec t (by have := size_le ht; omega)).p) []
  have h4 := (oddS_spec a ha).p
  unfold Ev mayP
  rw [C, e_split_splitting_may, h1, ← enc_eta a]
  simp only [obind_some', onRet_ret, onBool_bool, encMs_length, encs_length, h2, h3, h4]
  have q1 : sig.all (fun d => may d.t) = !sig.any fun d => !may d.t := by simp [List.all_eq_not_any_not]
  have q2 : psi.all may = !psi.any fun d => !may d := by simp [List.all_eq_not_any_not]
  have q3 : sch.all may = !sch.any fun d => !may d := by simp [List.all_eq_not_any_not]
  rw [q1, q2, q3]
  have c1 : decide ((dl.length : Int) ≤ 40) = decide (dl.length ≤ 40) := by simp; omega
  have c2 : decide ((psi.length : Int) ≤ 40) = decide (psi.length ≤ 40) := by simp; omega
  rw [c1, c2]
  cases decide (dl.length ≤ 40) <;> cases decide (psi.length ≤ 40) <;> cases sig.any (fun d => !may d.t) <;> cases psi.any (fun d => !may d) <;> cases sch.any (fun d => !may d) <;> simp

/-- The store, without the loop. -/
def stB (ds : St) (r : List Cs × Int) : St := if r.2 = 0 then .box [.vec .full (some 7) []] :: .box [.int 0] :: box2 r.1 :: ds else .box [.vec .plain (some 7) []] :: .box [.int r.2] :: box2 r.1 :: ds
theorem stB_length (ds : St) (r : List Cs × Int) : (stB ds r).length = 3 + ds.length := by unfold stB; split <;> simp <;> omega
theorem stS_eq (ds : St) (r : List Cs × Int) : stS ds r = stB ds r ++ [if r.2 = 0 then lpC .ready none else lpC .done (some .ret)] := by
  unfold stS stB; split <;> simp
theorem stB_app (ds tl : St) (r : List Cs × Int) : stB ds r ++ tl = stB (ds ++ tl) r := by unfold stB; split <;> simp

theorem casesL_step (ds : St) (acc : List Cs) (i n : Nat) (fs : List V) (g : Nat) (b : List V) (r : List Cs × Int) (hi : i < n) (hfs : i < fs.length) (hn : n ≤ 1048576) (hf : getI fs (i : Int) = .fn g [] b)
    (hg : W.call g (.yld (3 + ds.length) :: b) (stS ds (acc, 0)) = some (.ret (.tup []), stS ds r)) :
    W.loop 8 6 [.int (i : Int), .ref 0 0, .ref 1 0, .ref 2 0, .vec .full none fs, .int (n : Int)] (stB ds (acc, 0)) =
      if r.2 = 0 then W.loop 8 6 [.int ((i + 1 : Nat) : Int), .ref 0 0, .ref 1 0, .ref 2 0, .vec .full none fs, .int (n : Int)] (stB (ds ++ [.dead]) r)
      else some (.ret, [.ref 0 0, .ref 1 0], stB (ds ++ [.dead]) r) := by
  have hw : IntKind.i64.wrap ((i : Int) + 1) = ((i + 1 : Nat) : Int) := by rw [wrap_id ⟨by omega, by omega⟩]; omega
  have h1 : (i : Int) < n := by omega
  have h2 : (i : Int) < fs.length := by omega
  have hl := stB_length ds (acc, 0)
  have hst : stB ds (acc, 0) ++ [lpC .ready none] = stS ds (acc, 0) := by rw [stS_eq]; rfl
  rw [L, e_split_Cases_L6, hw, hf, hl]
  simp only [h1, h2, decide_true, Int.natCast_nonneg, Bool.and_self, gd_true, bc_true, List.nil_append, List.singleton_append]
  show obind (W.call g (V.yld (3 + ds.length) :: b) (stB ds (acc, 0) ++ [lpC .ready none])) _ = _
  rw [hst, hg]
  have hg1 : ∀ (K : Res → Option (Ex × List V × St)), getR (stS ds r) (3 + ds.length) K = K (if r.2 = 0 then lpC .ready none else lpC .done (some .ret)) := fun K => by
    rw [stS_eq]; exact getR_at _ _ [] (by rw [stB_length]) K
  have hs1 : List.set (stS ds r) (3 + ds.length) Res.dead = stB (ds ++ [.dead]) r := by
    rw [stS_eq, set_at _ _ _ [] (by rw [stB_length]), stB_app]
  simp only [obind_some', onRet_ret, hg1, hs1]
  by_cases h0 : r.2 = 0
  · simp only [h0, if_true, onFnY, onLoop_loop, onPend_ready]
  · simp only [h0, if_false, onFnY, onLoop_loop, onPend_ret]
end
end Go.Proofs.SP

/-! split.Cases, whole. -/
namespace Go.Proofs.SP
open Go Go.AM Go.Ama

section
variable (sig : List D) (sch : List T) (dl : List M) (psi : List T) (a : T) (ρ : Rest)
abbrev funV : V := .agg [.str ρ.nm, .vec .plain (some 3) (encs sch), .vec .plain (some 5) (encMs dl), .vec .plain (some 3) (encs psi), .int a.k, .int a.h, .vec .plain (some 3) (encs a.args), .vec .plain (some 3) ρ.phi, .int ρ.bk, .int ρ.bh, .vec .plain (some 3) ρ.bz, .bool ρ.tot, .vec .plain (some 9) ρ.cls]

abbrev fsV : List V := [.fn 36 [] [.cptr (some 15) (spV sig sch dl psi a ρ (family a))], .fn 39 [] [.cptr (some 15) (spV sig sch dl psi a ρ (family a))], .fn 44 [] [.cptr (some 15) (spV sig sch dl psi a ρ (family a))]]

theorem mayP_iff : mayP sig sch dl psi a = true ↔ dl.length ≤ 40 ∧ psi.length ≤ 40 ∧ (∀ d ∈ sig, may d.t = true) ∧ (∀ t ∈ psi, may t = true) ∧ (∀ t ∈ sch, may t = true) ∧ may a = true := by
  unfold mayP
  simp only [Bool.and_eq_true, decide_eq_true_eq, List.all_eq_true]

theorem clv0 (m : AM.Mode) (sh : Sh) (l : List V) : cleanV (AM.partOf [V.vec m sh l] 0 none) = .vec .plain sh l := by cases m <;> rfl

theorem iters_spec (hsig : ∀ d ∈ sig, low d.t = true) (hsl : sig.length ≤ 1000) (hsch : sizes sch ≤ 1048576) (hscl : sch.length ≤ 1000) (hpsi : sizes psi ≤ 1048576) (hdl : ∀ m ∈ dl, m.ctx.length ≤ 1048576) (hm : mayP sig sch dl psi a = true) :
    W.loop 8 6 [.int 0, .ref 0 0, .ref 1 0, .ref 2 0, .vec .full none (fsV sig sch dl psi a ρ), .int 3] (stB [] ([], 0)) =
      (if (feed [] (allC sig sch dl psi a)).2 = 0 then some (.exit 0, [.ref 0 0, .ref 1 0, .ref 2 0], stB [.dead, .dead, .dead] (feed [] (allC sig sch dl psi a)))
       else some (.ret, [.ref 0 0, .ref 1 0], stB (if (feed [] (constsC sig dl psi (consts (family a) sig 0))).2 ≠ 0 then [.dead] else if (feed (feed [] (constsC sig dl psi (consts (family a) sig 0))).1 (varsC (family a) dl 0 psi.reverse)).2 ≠ 0 then [.dead, .dead] else [.dead, .dead, .dead]) (feed [] (allC sig sch dl psi a)))) := by
  obtain ⟨m1, m2, m3, m4, m5, m6⟩ := (mayP_iff sig sch dl psi a).1 hm
  have hdl' : ∀ m ∈ dl, m.ctx.length ≤ 1099511627776 := fun m h => by have := hdl m h; omega
  have h1 := constants_spec sig sch dl psi a ρ (family a) hpsi hdl' (by omega) (by omega) m3 hsig (by omega) [] (.inl rfl)
  have hl1 := feed_length (constsC sig dl psi (consts (family a) sig 0)) []
  have hcl : (constsC sig dl psi (consts (family a) sig 0)).length ≤ sig.length := by
    have := consts_length (family a) sig 0
    simp [constsC]; omega
  unfold allC
  rw [feed_append]
  generalize hr1 : feed [] (constsC sig dl psi (consts (family a) sig 0)) = r1 at *
  have s1 := casesL_step [] [] 0 3 (fsV sig sch dl psi a ρ) _ _ r1 (by omega) (by simp) (by omega) rfl h1
  refine Eq.trans s1 ?_
  by_cases c1 : r1.2 = 0
  · obtain ⟨acc1, e1⟩ := r1
    simp only at c1; subst c1
    simp only [if_true, ne_eq, not_true, if_false, List.nil_append]
    have h2 := variables_spec sig sch dl psi a ρ (family a) hdl' (by omega) (by omega) (by omega) [.dead] (.inr (.inl rfl)) acc1 (by simp at hl1; omega)
    have hl2 := feed_length (varsC (family a) dl 0 psi.reverse) acc1
    have hvl : ∀ (l : List T) (i : Nat), (varsC (family a) dl i l).length ≤ l.length := by
      intro l
      induction l with
      | nil => intro i; simp [varsC]
      | cons t l ih => intro i; have := ih (i + 1); have := varC_length (family a) dl i t; simp [varsC]; omega
    have hvl' := hvl psi.reverse 0
    rw [feed_append]
    generalize hr2 : feed acc1 (varsC (family a) dl 0 psi.reverse) = r2 at *
    have s2 := casesL_step [.dead] acc1 1 3 (fsV sig sch dl psi a ρ) _ _ r2 (by omega) (by simp) (by omega) rfl h2
    refine Eq.trans s2 ?_
    by_cases c2 : r2.2 = 0
    · obtain ⟨acc2, e2⟩ := r2
      simp only at c2; subst c2
      simp only [if_true, ne_eq, not_true, if_false, List.singleton_append]
      have h3 := around_spec sig sch dl psi a ρ (family a) hdl' (by omega) (by omega) (by omega) [.dead, .dead] (.inr (.inr rfl)) acc2 (by simp at hl1 hl2 hvl'; omega)
      generalize hr3 : feed acc2 (sch.flatMap (aroundC (family a) dl)) = r3 at *
      have s3 := casesL_step [.dead, .dead] acc2 2 3 (fsV sig sch dl psi a ρ) _ _ r3 (by omega) (by simp) (by omega) rfl h3
      refine Eq.trans s3 ?_
      by_cases c3 : r3.2 = 0
      · simp only [c3, if_true]
        rw [L, e_split_Cases_L6]
        simp
      · simp only [c3, if_false]
        rfl
    · simp only [c2, if_false, ne_eq, not_false_iff, if_true]
      rfl
  · simp only [c1, if_false, ne_eq, not_false_iff, if_true]
    rfl

theorem Cases_spec (hsig : ∀ d ∈ sig, low d.t = true ∧ d.t.size ≤ 1048576) (hsl : sig.length ≤ 1000) (hsch : sizes sch ≤ 1048576) (hscl : sch.length ≤ 1000) (hpsi : sizes psi ≤ 1048576) (hdl : ∀ m ∈ dl, m.ctx.length ≤ 1048576) (ha : a.size ≤ 1048576) :
    Ev 8 [.vec .plain (some 4) (encDs sig), funV sch dl psi a ρ] (.tup [.vec .plain (some 7) (encCs (casesF sig sch dl psi a).1), .int (casesF sig sch dl psi a).2]) := by
  have h1 := (family_spec a).p
  have h2 := (spmay_spec sig sch dl psi a ρ (family a) (fun d hd => by have := (hsig d hd).2; omega) (by omega) (by omega) (by omega) (by omega)).p (by
    simp only [belowL, Bool.and_true]; exact below_spV 0 sig sch dl psi a ρ (family a))
  unfold Ev
  rw [C, e_split_Cases, ← enc_eta a, h1]
  simp only [obind_some', onInt_int, h2, onBool_bool]
  unfold casesF
  cases hm : mayP sig sch dl psi a with
  | false => simp
  | true =>
    have hi := iters_spec sig sch dl psi a ρ (fun d hd => (hsig d hd).1) hsl hsch hscl hpsi hdl hm
    have hb2 : ([Res.box [V.vec Mode.full (some 7) []], Res.box [V.int 0], Res.box [V.vec Mode.full (some 7) []]] : St) = stB [] ([], 0) := rfl
    have hst : ∀ (g : Nat), gcE (List.length (stB [] ([], 0))) (V.fn g [] [V.cptr (some 15) (spV sig sch dl psi a ρ (family a))]) (stB [] ([], 0)) = some (.ret (V.fn g [] [V.cptr (some 15) (spV sig sch dl psi a ρ (family a))]), stB [] ([], 0)) := fun g => gcE_len rfl
    have k1 : W.call 21 [spV sig sch dl psi a ρ (family a)] (stB [] ([], 0)) = some (.ret (V.fn 36 [] [V.cptr (some 15) (spV sig sch dl psi a ρ (family a))]), stB [] ([], 0)) := by
      rw [C, e_split_splitting_constants]; exact hst _
    have k2 : W.call 22 [spV sig sch dl psi a ρ (family a)] (stB [] ([], 0)) = some (.ret (V.fn 39 [] [V.cptr (some 15) (spV sig sch dl psi a ρ (family a))]), stB [] ([], 0)) := by
      rw [C, e_split_splitting_variables]; exact hst _
    have k3 : W.call 23 [spV sig sch dl psi a ρ (family a)] (stB [] ([], 0)) = some (.ret (V.fn 44 [] [V.cptr (some 15) (spV sig sch dl psi a ρ (family a))]), stB [] ([], 0)) := by
      rw [C, e_split_splitting_around]; exact hst _
    rw [hb2]
    simp only [Bool.not_true, bc_false, k1, obind_some', onRet_ret, onFn_fn, k2, k3]
    have e3 : (([V.fn 36 [] [V.cptr (some 15) (spV sig sch dl psi a ρ (family a))], V.fn 39 [] [V.cptr (some 15) (spV sig sch dl psi a ρ (family a))], V.fn 44 [] [V.cptr (some 15) (spV sig sch dl psi a ρ (family a))]] : List V).length : Int) = 3 := rfl
    rw [e3, hi]
    generalize feed [] (allC sig sch dl psi a) = r
    obtain ⟨acc, e⟩ := r
    by_cases h0 : e = 0
    · subst h0
      by_cases c : acc = []
      · subst c
        simp [stB, box2, getR, setCells, below, belowL, belowSt]
        rfl
      · simp [stB, box2, getR, setCells, c, below, belowL, belowSt, clv0]
    · simp [h0, stB, getR, below, belowL, belowSt, clv0]
end
end Go.Proofs.SP

namespace Go.Proofs.SP
open Go Go.AM
set_option maxRecDepth 20000

theorem e_law19_SplitMetas (O : Oracle) (l0 : (List V)) (s1 : ByteArray) (l2 : (List V)) (l3 : (List V)) (l4 : (List V)) (n5 : Int) (n6 : Int) (l7 : (List V)) (l8 : (List V)) (n9 : Int) (n10 : Int) (l11 : (List V)) (b12 : Bool) (l13 : (List V)) : callBody Try.prog cfg O 3 [.vec .plain (some 4) l0, .agg [.str s1, .vec .plain (some 3) l2, .vec .plain (some 5) l3, .vec .plain (some 3) l4, .int n5, .int n6, .vec .plain (some 3) l7, .vec .plain (some 3) l8, .int n9, .int n10, .vec .plain (some 3) l11, .bool b12, .vec .plain (some 9) l13]] [] =
  obind (pcall O 5 []) fun r1 => onBool r1 fun b2 => obind (pcall O 6 [V.vec .plain (some 4) l0, V.vec .plain (some 5) [], V.vec .plain (some 3) []]) fun r3 =>
  onBool r3 fun b4 => obind (pcall O 7 [V.agg [V.str s1, V.vec .plain (some 3) l2, V.vec .plain (some 5) l3, V.vec .plain (some 3) l4, V.int n5, V.int n6, V.vec
  .plain (some 3) l7, V.vec .plain (some 3) l8, V.int n9, V.int n10, V.vec .plain (some 3) l11, V.bool b12, V.vec .plain (some 9) l13]]) fun r5 => onBool r5 fun b6 => bc (!b2) (some
  (Out.ret (V.bool b2), [])) (bc (!b4) (some (Out.ret (V.bool b2), [])) (bc (!b6) (some (Out.ret (V.bool b2), [])) (obind (pcall O 8 [V.vec .plain (some 4) l0, V.agg
  [V.str s1, V.vec .plain (some 3) l2, V.vec .plain (some 5) l3, V.vec .plain (some 3) l4, V.int n5, V.int n6, V.vec .plain (some 3) l7, V.vec .plain (some 3) l8, V.int n9, V.int
  n10, V.vec .plain (some 3) l11, V.bool b12, V.vec .plain (some 9) l13]]) fun r7 => onTup r7 fun c8 => onCons c8 fun v9 c10 => onVec (some 7) v9 fun l11_1 => onCons c10 fun v12 c13
  => onInt v12 fun n14 => onNil c13 (bc (n14 != 0) (some (Out.ret (V.bool ((↑l11_1.length : Int) == 0)), [])) (obind (O.loop 3 11 [V.int 0, V.loc false (some 13)
  (V.agg [V.str s1, V.vec .plain (some 3) l2, V.vec .plain (some 5) l3, V.vec .plain (some 3) l4, V.int n5, V.int n6, V.vec .plain (some 3) l7, V.vec .plain (some 3) l8, V.int n9,
  V.int n10, V.vec .plain (some 3) l11, V.bool b12, V.vec .plain (some 9) l13]), V.int (↑l3.length : Int), V.vec .plain (some 7) l11_1] []) fun r15 => onEx r15.fst none (onCons
  r15.snd.fst fun v16 c17 => onBool v16 fun b18 => onNil c17 (some (Out.ret (V.bool b18), []))) (fun i19 => bc (i19.beq 0) (onNil r15.snd.fst (some (Out.ret (V.bool true), [])))
  none) fun v20 => none))))) := by kernel_rfl

theorem e_law19_SplitMetas_L11 (O : Oracle) (n0 : Int) (s1 : ByteArray) (l2 : (List V)) (l3 : (List V)) (l4 : (List V)) (n5 : Int) (n6 : Int) (l7 : (List V)) (l8 : (List V)) (n9 : Int) (n10 : Int) (l11 : (List V)) (b12 : Bool) (l13 : (List V)) (n14 : Int) (l15 : (List V)) : loopBody Try.prog cfg O 3 11 [.int n0, .loc false (some 13) (.agg [.str s1, .vec .plain (some 3) l2, .vec .plain (some 5) l3, .vec .plain (some 3) l4, .int n5, .int n6, .vec .plain (some 3) l7, .vec .plain (some 3) l8, .int n9, .int n10, .vec .plain (some 3) l11, .bool b12, .vec .plain (some 9) l13]), .int n14, .vec .plain (some 7) l15] [] =
  bc (decide (n0 < (↑l15.length : Int))) (gd (decide (0 ≤ n0) && decide (n0 < (↑l15.length : Int))) (onAgg (getI l15 n0) fun c1 => gd (decide (1 ≤ c1.length)) (onVec (some 5)
  (AM.partOf c1 0 none) fun l2_1 => bc (decide ((↑l2_1.length : Int) < n14)) (some (Ex.ret, [V.bool false], [])) (gd (decide (0 ≤ n0) && decide (n0 < (↑l15.length : Int))) (onAgg
  (getI l15 n0) fun c3 => gd (decide (7 ≤ c3.length)) (onCells [CT.int, CT.int, CT.slice (some 3)] (List.take 3 (List.drop 4 c3)) fun n4 n5_1 l6 => obind (pcall O 9
  [V.agg [V.int n4, V.int n5_1, V.vec .plain (some 3) l6]]) fun r7 => onInt r7 fun n8 => obind (pcall O 9 [V.agg [V.int n5, V.int n6, V.vec .plain (some 3) l7]]) fun r9
  => onInt r9 fun n10_1 => bc (n8 != n10_1) (some (Ex.ret, [V.bool false], [])) (gd (decide (0 ≤ n0) && decide (n0 < (↑l15.length : Int))) (onAgg (getI l15 n0) fun c11 => gd (decide
  (1 ≤ c11.length)) (onVec (some 5) (AM.partOf c11 0 none) fun l12 => gd (true && decide (0 ≤ n14) && decide (n14 ≤ (↑l12.length : Int))) (obind (pcall O 10 [V.vec .plain
  (some 5) (List.drop 0 (List.take n14.toNat l12)), V.vec .plain (some 5) l3]) fun r13 => onBool r13 fun b14 => bc (!b14) (some (Ex.ret, [V.bool false], [])) (O.2 3
  11 [V.int (IntKind.i64.wrap (n0 + 1)), V.loc false (some 13) (V.agg [V.str s1, V.vec .plain (some 3) l2, V.vec .plain (some 5) l3, V.vec .plain (some 3) l4, V.int n5, V.int n6,
  V.vec .plain (some 3) l7, V.vec .plain (some 3) l8, V.int n9, V.int n10, V.vec .plain (some 3) l11, V.bool b12, V.vec .plain (some 9) l13]), V.int n14, V.vec .plain (some 7) l15]
  []))))))))))) (some (Ex.exit 0, [], [])) := by kernel_rfl

theorem e_law19_SplitOnly (O : Oracle) (l0 : (List V)) (s1 : ByteArray) (l2 : (List V)) (l3 : (List V)) (l4 : (List V)) (n5 : Int) (n6 : Int) (l7 : (List V)) (l8 : (List V)) (n9 : Int) (n10 : Int) (l11 : (List V)) (b12 : Bool) (l13 : (List V)) (s14 : ByteArray) (l15 : (List V)) (l16 : (List V)) (l17 : (List V)) (n18 : Int) (n19 : Int) (l20 : (List V)) (l21 : (List V)) (n22 : Int) (n23 : Int) (l24 : (List V)) (b25 : Bool) (l26 : (List V)) : callBody Try.prog cfg O 4 [.vec .plain (some 4) l0, .agg [.str s1, .vec .plain (some 3) l2, .vec .plain (some 5) l3, .vec .plain (some 3) l4, .int n5, .int n6, .vec .plain (some 3) l7, .vec .plain (some 3) l8, .int n9, .int n10, .vec .plain (some 3) l11, .bool b12, .vec .plain (some 9) l13], .agg [.str s14, .vec .plain (some 3) l15, .vec .plain (some 5) l16, .vec .plain (some 3) l17, .int n18, .int n19, .vec .plain (some 3) l20, .vec .plain (some 3) l21, .int n22, .int n23, .vec .plain (some 3) l24, .bool b25, .vec .plain (some 9) l26]] [] =
  obind (pcall O 5 []) fun r1 => onBool r1 fun b2 => obind (pcall O 6 [V.vec .plain (some 4) l0, V.vec .plain (some 5) [], V.vec .plain (some 3) []]) fun r3 =>
  onBool r3 fun b4 => obind (pcall O 7 [V.agg [V.str s1, V.vec .plain (some 3) l2, V.vec .plain (some 5) l3, V.vec .plain (some 3) l4, V.int n5, V.int n6, V.vec
  .plain (some 3) l7, V.vec .plain (some 3) l8, V.int n9, V.int n10, V.vec .plain (some 3) l11, V.bool b12, V.vec .plain (some 9) l13]]) fun r5 => onBool r5 fun b6 => obind (pcall O
  7 [V.agg [V.str s14, V.vec .plain (some 3) l15, V.vec .plain (some 5) l16, V.vec .plain (some 3) l17, V.int n18, V.int n19, V.vec .plain (some 3) l20, V.vec .plain
  (some 3) l21, V.int n22, V.int n23, V.vec .plain (some 3) l24, V.bool b25, V.vec .plain (some 9) l26]]) fun r7 => onBool r7 fun b8 => bc (!b2) (some (Out.ret (V.bool b2), [])) (bc
  (!b4) (some (Out.ret (V.bool b2), [])) (bc (!b6) (some (Out.ret (V.bool b2), [])) (bc (!b8) (some (Out.ret (V.bool b2), [])) (obind (pcall O 8 [V.vec .plain (some 4)
  l0, V.agg [V.str s1, V.vec .plain (some 3) l2, V.vec .plain (some 5) l3, V.vec .plain (some 3) l4, V.int n5, V.int n6, V.vec .plain (some 3) l7, V.vec .plain (some 3) l8, V.int
  n9, V.int n10, V.vec .plain (some 3) l11, V.bool b12, V.vec .plain (some 9) l13]]) fun r9 => onTup r9 fun c10 => onCons c10 fun v11 c12 => onVec (some 7) v11 fun l13 => onCons c12
  fun v14 c15 => onInt v14 fun n16 => onNil c15 (obind (pcall O 8 [V.vec .plain (some 4) l0, V.agg [V.str s14, V.vec .plain (some 3) l2, V.vec .plain (some 5) l3, V.vec
  .plain (some 3) l4, V.int n5, V.int n6, V.vec .plain (some 3) l7, V.vec .plain (some 3) l21, V.int n22, V.int n23, V.vec .plain (some 3) l24, V.bool b25, V.vec .plain (some 9)
  l26]]) fun r17 => onTup r17 fun c18 => onCons c18 fun v19 c20 => onVec (some 7) v19 fun l21 => onCons c20 fun v22 c23 => onInt v22 fun n24 => onNil c23 (obind (pcall O
  11 [V.vec .plain (some 7) l13, V.vec .plain (some 7) l21]) fun r25 => onBool r25 fun b26 => obind (pcall O 12 [V.agg [V.int n5, V.int n6, V.vec .plain (some 3)
  l7], V.agg [V.int n5, V.int n6, V.vec .plain (some 3) l7]]) fun r27 => onBool r27 fun b28 => bc b26 (bc (n16 == n24) (some (Out.ret (V.bool b28), [])) (some (Out.ret (V.bool
  false), []))) (some (Out.ret (V.bool false), [])))))))) := by kernel_rfl

theorem e_ref19_Metas (O : Oracle) (l0 : (List V)) (l1 : (List V)) : callBody Try.prog cfg O 10 [.vec .plain (some 5) l0, .vec .plain (some 5) l1] [] =
  bc ((↑l0.length : Int) != (↑l1.length : Int)) (some (Out.ret (V.bool false), [])) (obind (O.loop 10 4 [V.int 0, V.vec .plain (some 5) l1, V.vec .plain (some 5) l0] [])
  fun r1 => onEx r1.fst none (onCons r1.snd.fst fun v2 c3 => onBool v2 fun b4 => onNil c3 (some (Out.ret (V.bool b4), []))) (fun i5 => bc (i5.beq 0) (onNil r1.snd.fst (some (Out.ret
  (V.bool true), []))) none) fun v6 => none) := by kernel_rfl

theorem e_ref19_Metas_L4 (O : Oracle) (n0 : Int) (l1 : (List V)) (l2 : (List V)) : loopBody Try.prog cfg O 10 4 [.int n0, .vec .plain (some 5) l1, .vec .plain (some 5) l2] [] =
  bc (decide (n0 < (↑l2.length : Int))) (gd (decide (0 ≤ n0) && decide (n0 < (↑l2.length : Int))) (onAgg (getI l2 n0) fun c1 => gd (decide (1 ≤ c1.length)) (onVec (some 3)
  (AM.partOf c1 0 none) fun l2_1 => gd (decide (0 ≤ n0) && decide (n0 < (↑l1.length : Int))) (onAgg (getI l1 n0) fun c3 => gd (decide (1 ≤ c3.length)) (onVec (some 3) (AM.partOf c3
  0 none) fun l4 => obind (pcall O 25 [V.vec .plain (some 3) l2_1, V.vec .plain (some 3) l4]) fun r5 => onBool r5 fun b6 => gd (decide (0 ≤ n0) && decide (n0 < (↑l2.length
  : Int))) (onAgg (getI l2 n0) fun c7 => gd (decide (4 ≤ c7.length)) (onCells [CT.int, CT.int, CT.slice (some 3)] (List.take 3 (List.drop 1 c7)) fun n8 n9 l10 => gd (decide (0 ≤ n0)
  && decide (n0 < (↑l1.length : Int))) (onAgg (getI l1 n0) fun c11 => gd (decide (4 ≤ c11.length)) (onCells [CT.int, CT.int, CT.slice (some 3)] (List.take 3 (List.drop 1 c11)) fun
  n12 n13 l14 => obind (pcall O 12 [V.agg [V.int n8, V.int n9, V.vec .plain (some 3) l10], V.agg [V.int n12, V.int n13, V.vec .plain (some 3) l14]]) fun r15 => onBool r15
  fun b16 => bc (!b6) (some (Ex.ret, [V.bool false], [])) (bc (!b16) (some (Ex.ret, [V.bool false], [])) (gd (decide (0 ≤ n0) && decide (n0 < (↑l2.length : Int))) (onAgg (getI l2
  n0) fun c17 => gd (decide (5 ≤ c17.length)) (onBool (AM.partOf c17 4 none) fun b18 => gd (decide (0 ≤ n0) && decide (n0 < (↑l1.length : Int))) (onAgg (getI l1 n0) fun c19 => gd
  (decide (5 ≤ c19.length)) (onBool (AM.partOf c19 4 none) fun b20 => bc (!b18 == b20) (some (Ex.ret, [V.bool false], [])) (O.2 10 4 [V.int (IntKind.i64.wrap (n0 + 1)),
  V.vec .plain (some 5) l1, V.vec .plain (some 5) l2] [])))))))))))))))) (some (Ex.exit 0, [], [])) := by kernel_rfl

theorem e_ref19_Same (O : Oracle) (l0 : (List V)) (l1 : (List V)) : callBody Try.prog cfg O 11 [.vec .plain (some 7) l0, .vec .plain (some 7) l1] [] =
  bc ((↑l0.length : Int) != (↑l1.length : Int)) (some (Out.ret (V.bool false), [])) (obind (O.loop 11 4 [V.int 0, V.vec .plain (some 7) l1, V.vec .plain (some 7) l0] [])
  fun r1 => onEx r1.fst none (onCons r1.snd.fst fun v2 c3 => onBool v2 fun b4 => onNil c3 (some (Out.ret (V.bool b4), []))) (fun i5 => bc (i5.beq 0) (onNil r1.snd.fst (some (Out.ret
  (V.bool true), []))) none) fun v6 => none) := by kernel_rfl

theorem e_ref19_Same_L4 (O : Oracle) (n0 : Int) (l1 : (List V)) (l2 : (List V)) : loopBody Try.prog cfg O 11 4 [.int n0, .vec .plain (some 7) l1, .vec .plain (some 7) l2] [] =
  bc (decide (n0 < (↑l2.length : Int))) (gd (decide (0 ≤ n0) && decide (n0 < (↑l2.length : Int))) (onAgg (getI l2 n0) fun c1 => gd (decide (1 ≤ c1.length)) (onVec (some 5)
  (AM.partOf c1 0 none) fun l2_1 => gd (decide (0 ≤ n0) && decide (n0 < (↑l1.length : Int))) (onAgg (getI l1 n0) fun c3 => gd (decide (1 ≤ c3.length)) (onVec (some 5) (AM.partOf c3
  0 none) fun l4 => obind (pcall O 10 [V.vec .plain (some 5) l2_1, V.vec .plain (some 5) l4]) fun r5 => onBool r5 fun b6 => gd (decide (0 ≤ n0) && decide (n0 <
  (↑l2.length : Int))) (onAgg (getI l2 n0) fun c7 => gd (decide (4 ≤ c7.length)) (onCells [CT.int, CT.int, CT.slice (some 3)] (List.take 3 (List.drop 1 c7)) fun n8 n9 l10 => gd
  (decide (0 ≤ n0) && decide (n0 < (↑l1.length : Int))) (onAgg (getI l1 n0) fun c11 => gd (decide (4 ≤ c11.length)) (onCells [CT.int, CT.int, CT.slice (some 3)] (List.take 3
  (List.drop 1 c11)) fun n12 n13 l14 => obind (pcall O 12 [V.agg [V.int n8, V.int n9, V.vec .plain (some 3) l10], V.agg [V.int n12, V.int n13, V.vec .plain (some 3) l14]])
  fun r15 => onBool r15 fun b16 => gd (decide (0 ≤ n0) && decide (n0 < (↑l2.length : Int))) (onAgg (getI l2 n0) fun c17 => gd (decide (7 ≤ c17.length)) (onCells [CT.int, CT.int,
  CT.slice (some 3)] (List.take 3 (List.drop 4 c17)) fun n18 n19 l20 => gd (decide (0 ≤ n0) && decide (n0 < (↑l1.length : Int))) (onAgg (getI l1 n0) fun c21 => gd (decide (7 ≤
  c21.length)) (onCells [CT.int, CT.int, CT.slice (some 3)] (List.take 3 (List.drop 4 c21)) fun n22 n23 l24 => obind (pcall O 12 [V.agg [V.int n18, V.int n19, V.vec .plain
  (some 3) l20], V.agg [V.int n22, V.int n23, V.vec .plain (some 3) l24]]) fun r25 => onBool r25 fun b26 => bc (!b6) (some (Ex.ret, [V.bool false], [])) (bc (!b16) (some (Ex.ret,
  [V.bool false], [])) (bc (!b26) (some (Ex.ret, [V.bool false], [])) (O.2 11 4 [V.int (IntKind.i64.wrap (n0 + 1)), V.vec .plain (some 7) l1, V.vec .plain (some 7) l2]
  [])))))))))))))))) (some (Ex.exit 0, [], [])) := by kernel_rfl

theorem e_ref01_List (O : Oracle) (l0 : (List V)) (l1 : (List V)) : callBody Try.prog cfg O 25 [.vec .plain (some 3) l0, .vec .plain (some 3) l1] [] =
  bc ((↑l0.length : Int) != (↑l1.length : Int)) (some (Out.ret (V.bool false), [])) (obind (O.loop 25 4 [V.int 0, V.vec .plain (some 3) l1, V.vec .plain (some 3) l0] [])
  fun r1 => onEx r1.fst none (onCons r1.snd.fst fun v2 c3 => onBool v2 fun b4 => onNil c3 (some (Out.ret (V.bool b4), []))) (fun i5 => bc (i5.beq 0) (onNil r1.snd.fst (some (Out.ret
  (V.bool true), []))) none) fun v6 => none) := by kernel_rfl

theorem e_ref01_List_L4 (O : Oracle) (n0 : Int) (l1 : (List V)) (l2 : (List V)) : loopBody Try.prog cfg O 25 4 [.int n0, .vec .plain (some 3) l1, .vec .plain (some 3) l2] [] =
  bc (decide (n0 < (↑l2.length : Int))) (gd (decide (0 ≤ n0) && decide (n0 < (↑l2.length : Int))) (onStruct [CT.int, CT.int, CT.slice (some 3)] (getI l2 n0) fun n1 n2 l3 => gd
  (decide (0 ≤ n0) && decide (n0 < (↑l1.length : Int))) (onStruct [CT.int, CT.int, CT.slice (some 3)] (getI l1 n0) fun n4 n5 l6 => obind (pcall O 12 [V.agg [V.int n1,
  V.int n2, V.vec .plain (some 3) l3], V.agg [V.int n4, V.int n5, V.vec .plain (some 3) l6]]) fun r7 => onBool r7 fun b8 => bc (!b8) (some (Ex.ret, [V.bool false], [])) (O.2
  25 4 [V.int (IntKind.i64.wrap (n0 + 1)), V.vec .plain (some 3) l1, V.vec .plain (some 3) l2] [])))) (some (Ex.exit 0, [], [])) := by kernel_rfl

end Go.Proofs.SP

namespace Go.Proofs.SP
open Go Go.AM
set_option maxRecDepth 20000

theorem e_law10_Few (O : Oracle) (l0 : (List V)) (l1 : (List V)) (l2 : (List V)) : callBody Try.prog cfg O 6 [.vec .plain (some 4) l0, .vec .plain (some 5) l1, .vec .plain (some 3) l2] [] =
  obind (pcall O 15 [V.vec .plain (some 4) l0]) fun r1 => onBool r1 fun b2 => bc (!b2) (some (Out.ret (V.bool false), [])) (bc (decide ((↑l1.length : Int) > 30)) (some
  (Out.ret (V.bool false), [])) (obind (O.loop 6 5 [V.int 0, V.vec .plain (some 5) l1, V.vec .plain (some 3) l2] []) fun r3 => onEx r3.fst none (onCons r3.snd.fst fun v4
  c5 => onBool v4 fun b6 => onNil c5 (some (Out.ret (V.bool b6), []))) (fun i7 => bc (i7.beq 0) (onCons r3.snd.fst fun v8 c9 => onVec (some 3) v8 fun l10 => onNil c9 (obind (pcall O
  16 [V.vec .plain (some 3) l10, V.int 500, V.int 80]) fun r11 => onBool r11 fun b12 => some (Out.ret (V.bool b12), []))) none) fun v13 => none)) := by kernel_rfl

theorem e_law10_Few_L5 (O : Oracle) (n0 : Int) (l1 : (List V)) (l2 : (List V)) : loopBody Try.prog cfg O 6 5 [.int n0, .vec .plain (some 5) l1, .vec .plain (some 3) l2] [] =
  bc (decide (n0 < (↑l1.length : Int))) (gd (decide (0 ≤ n0) && decide (n0 < (↑l1.length : Int))) (onAgg (getI l1 n0) fun c1 => gd (decide (1 ≤ c1.length)) (onVec (some 3)
  (AM.partOf c1 0 none) fun l2_1 => obind (pcall O 16 [V.vec .plain (some 3) l2_1, V.int 500, V.int 80]) fun r3 => onBool r3 fun b4 => gd (decide (0 ≤ n0) && decide (n0
  < (↑l1.length : Int))) (onAgg (getI l1 n0) fun c5 => gd (decide (4 ≤ c5.length)) (onCells [CT.int, CT.int, CT.slice (some 3)] (List.take 3 (List.drop 1 c5)) fun n6 n7 l8 => obind
  (pcall O 17 [V.agg [V.int n6, V.int n7, V.vec .plain (some 3) l8], V.int 500, V.int 80]) fun r9 => onBool r9 fun b10 => bc (!b4) (some (Ex.ret, [V.bool false], [])) (bc
  (!b10) (some (Ex.ret, [V.bool false], [])) (O.2 6 5 [V.int (IntKind.i64.wrap (n0 + 1)), V.vec .plain (some 5) l1, V.vec .plain (some 3) l2] []))))))) (some (Ex.exit 0,
  [V.vec .plain (some 3) l2], [])) := by kernel_rfl

theorem e_law17_LightFun (O : Oracle) (s0 : ByteArray) (l1 : (List V)) (l2 : (List V)) (l3 : (List V)) (n4 : Int) (n5 : Int) (l6 : (List V)) (l7 : (List V)) (n8 : Int) (n9 : Int) (l10 : (List V)) (b11 : Bool) (l12 : (List V)) : callBody Try.prog cfg O 7 [.agg [.str s0, .vec .plain (some 3) l1, .vec .plain (some 5) l2, .vec .plain (some 3) l3, .int n4, .int n5, .vec .plain (some 3) l6, .vec .plain (some 3) l7, .int n8, .int n9, .vec .plain (some 3) l10, .bool b11, .vec .plain (some 9) l12]] [] =
  obind (pcall O 18 [V.vec .plain (some 5) l2]) fun r1 => onBool r1 fun b2 => obind (pcall O 16 [V.vec .plain (some 3) l1, V.int 300, V.int 60]) fun r3 =>
  onBool r3 fun b4 => obind (pcall O 16 [V.vec .plain (some 3) l3, V.int 300, V.int 60]) fun r5 => onBool r5 fun b6 => obind (pcall O 16 [V.vec .plain (some
  3) l7, V.int 300, V.int 60]) fun r7 => onBool r7 fun b8 => obind (pcall O 17 [V.agg [V.int n4, V.int n5, V.vec .plain (some 3) l6], V.int 300, V.int 60]) fun r9 =>
  onBool r9 fun b10 => obind (pcall O 17 [V.agg [V.int n8, V.int n9, V.vec .plain (some 3) l10], V.int 300, V.int 60]) fun r11 => onBool r11 fun b12 => bc (!b2) (some
  (Out.ret (V.bool false), [])) (bc (!b4) (some (Out.ret (V.bool false), [])) (bc (!b6) (some (Out.ret (V.bool false), [])) (bc (!b8) (some (Out.ret (V.bool false), [])) (bc (!b10)
  (some (Out.ret (V.bool false), [])) (bc (!b12) (some (Out.ret (V.bool false), [])) (bc (decide ((↑l12.length : Int) > 50)) (some (Out.ret (V.bool false), [])) (obind (O.loop
  7 10 [V.int 0, V.loc false (some 13) (V.agg [V.str s0, V.vec .plain (some 3) l1, V.vec .plain (some 5) l2, V.vec .plain (some 3) l3, V.int n4, V.int n5, V.vec
  .plain (some 3) l6, V.vec .plain (some 3) l7, V.int n8, V.int n9, V.vec .plain (some 3) l10, V.bool b11, V.vec .plain (some 9) l12])] []) fun r13 => onEx r13.fst none (onCons
  r13.snd.fst fun v14 c15 => onBool v14 fun b16 => onNil c15 (some (Out.ret (V.bool b16), []))) (fun i17 => bc (i17.beq 0) (onNil r13.snd.fst (some (Out.ret (V.bool true), [])))
  none) fun v18 => none))))))) := by kernel_rfl

theorem e_law17_LightFun_L10 (O : Oracle) (n0 : Int) (s1 : ByteArray) (l2 : (List V)) (l3 : (List V)) (l4 : (List V)) (n5 : Int) (n6 : Int) (l7 : (List V)) (l8 : (List V)) (n9 : Int) (n10 : Int) (l11 : (List V)) (b12 : Bool) (l13 : (List V)) : loopBody Try.prog cfg O 7 10 [.int n0, .loc false (some 13) (.agg [.str s1, .vec .plain (some 3) l2, .vec .plain (some 5) l3, .vec .plain (some 3) l4, .int n5, .int n6, .vec .plain (some 3) l7, .vec .plain (some 3) l8, .int n9, .int n10, .vec .plain (some 3) l11, .bool b12, .vec .plain (some 9) l13])] [] =
  bc (decide (n0 < (↑l13.length : Int))) (gd (decide (0 ≤ n0) && decide (n0 < (↑l13.length : Int))) (onStruct [CT.slice (some 5), CT.slice (some 3), CT.int, CT.int, CT.slice (some
  3), CT.slice (some 6), CT.int, CT.int, CT.slice (some 3)] (getI l13 n0) fun l1 l2_1 n3 n4 l5 l6 n7 n8 l9 => obind (pcall O 19 [V.agg [V.vec .plain (some 5) l1,
  V.vec .plain (some 3) l2_1, V.int n3, V.int n4, V.vec .plain (some 3) l5, V.vec .plain (some 6) l6, V.int n7, V.int n8, V.vec .plain (some 3) l9]]) fun r10 => onBool r10 fun b11
  => bc (!b11) (some (Ex.ret, [V.bool false], [])) (O.2 7 10 [V.int (IntKind.i64.wrap (n0 + 1)), V.loc false (some 13) (V.agg [V.str s1, V.vec .plain (some 3) l2,
  V.vec .plain (some 5) l3, V.vec .plain (some 3) l4, V.int n5, V.int n6, V.vec .plain (some 3) l7, V.vec .plain (some 3) l8, V.int n9, V.int n10, V.vec .plain (some 3) l11, V.bool
  b12, V.vec .plain (some 9) l13])] []))) (some (Ex.exit 0, [], [])) := by kernel_rfl

theorem e_ref01_Lights (O : Oracle) (l0 : (List V)) (n1 : Int) (n2 : Int) : callBody Try.prog cfg O 16 [.vec .plain (some 3) l0, .int n1, .int n2] [] =
  bc (decide ((↑l0.length : Int) > 60)) (some (Out.ret (V.bool false), [])) (obind (O.loop 16 4 [V.int 0, V.int n2, V.int n1, V.vec .plain (some 3) l0] []) fun r1 =>
  onEx r1.fst none (onCons r1.snd.fst fun v2 c3 => onBool v2 fun b4 => onNil c3 (some (Out.ret (V.bool b4), []))) (fun i5 => bc (i5.beq 0) (onNil r1.snd.fst (some (Out.ret (V.bool
  true), []))) none) fun v6 => none) := by kernel_rfl

theorem e_ref01_Lights_L4 (O : Oracle) (n0 : Int) (n1 : Int) (n2 : Int) (l3 : (List V)) : loopBody Try.prog cfg O 16 4 [.int n0, .int n1, .int n2, .vec .plain (some 3) l3] [] =
  bc (decide (n0 < (↑l3.length : Int))) (gd (decide (0 ≤ n0) && decide (n0 < (↑l3.length : Int))) (onStruct [CT.int, CT.int, CT.slice (some 3)] (getI l3 n0) fun n1_1 n2_1 l3_1 =>
  obind (pcall O 17 [V.agg [V.int n1_1, V.int n2_1, V.vec .plain (some 3) l3_1], V.int n2, V.int n1]) fun r4 => onBool r4 fun b5 => bc (!b5) (some (Ex.ret, [V.bool
  false], [])) (O.2 16 4 [V.int (IntKind.i64.wrap (n0 + 1)), V.int n1, V.int n2, V.vec .plain (some 3) l3] []))) (some (Ex.exit 0, [], [])) := by kernel_rfl

theorem e_law12_Few (O : Oracle) (l0 : (List V)) : callBody Try.prog cfg O 18 [.vec .plain (some 5) l0] [] =
  obind (pcall O 6 [V.vec .plain (some 4) [], V.vec .plain (some 5) l0, V.vec .plain (some 3) []]) fun r1 => onBool r1 fun b2 => some (Out.ret (V.bool b2), []) := by kernel_rfl

theorem e_law17_LightClause (O : Oracle) (l0 : (List V)) (l1 : (List V)) (n2 : Int) (n3 : Int) (l4 : (List V)) (l5 : (List V)) (n6 : Int) (n7 : Int) (l8 : (List V)) : callBody Try.prog cfg O 19 [.agg [.vec .plain (some 5) l0, .vec .plain (some 3) l1, .int n2, .int n3, .vec .plain (some 3) l4, .vec .plain (some 6) l5, .int n6, .int n7, .vec .plain (some 3) l8]] [] =
  obind (pcall O 18 [V.vec .plain (some 5) l0]) fun r1 => onBool r1 fun b2 => obind (pcall O 16 [V.vec .plain (some 3) l1, V.int 300, V.int 60]) fun r3 =>
  onBool r3 fun b4 => obind (pcall O 17 [V.agg [V.int n2, V.int n3, V.vec .plain (some 3) l4], V.int 300, V.int 60]) fun r5 => onBool r5 fun b6 => obind (pcall O
  17 [V.agg [V.int n6, V.int n7, V.vec .plain (some 3) l8], V.int 300, V.int 60]) fun r7 => onBool r7 fun b8 => bc (!b2) (some (Out.ret (V.bool false), [])) (bc (!b4)
  (some (Out.ret (V.bool false), [])) (bc (!b6) (some (Out.ret (V.bool false), [])) (bc (!b8) (some (Out.ret (V.bool false), [])) (bc (decide ((↑l5.length : Int) > 50)) (some
  (Out.ret (V.bool false), [])) (obind (O.loop 19 8 [V.int 0, V.loc false (some 9) (V.agg [V.vec .plain (some 5) l0, V.vec .plain (some 3) l1, V.int n2, V.int n3,
  V.vec .plain (some 3) l4, V.vec .plain (some 6) l5, V.int n6, V.int n7, V.vec .plain (some 3) l8])] []) fun r9 => onEx r9.fst none (onCons r9.snd.fst fun v10 c11 => onBool v10 fun
  b12 => onNil c11 (some (Out.ret (V.bool b12), []))) (fun i13 => bc (i13.beq 0) (onNil r9.snd.fst (some (Out.ret (V.bool true), []))) none) fun v14 => none))))) := by kernel_rfl

theorem e_law17_LightClause_L8 (O : Oracle) (n0 : Int) (l1 : (List V)) (l2 : (List V)) (n3 : Int) (n4 : Int) (l5 : (List V)) (l6 : (List V)) (n7 : Int) (n8 : Int) (l9 : (List V)) : loopBody Try.prog cfg O 19 8 [.int n0, .loc false (some 9) (.agg [.vec .plain (some 5) l1, .vec .plain (some 3) l2, .int n3, .int n4, .vec .plain (some 3) l5, .vec .plain (some 6) l6, .int n7, .int n8, .vec .plain (some 3) l9])] [] =
  bc (decide (n0 < (↑l6.length : Int))) (gd (decide (0 ≤ n0) && decide (n0 < (↑l6.length : Int))) (onStruct [CT.int, CT.slice (some 3), CT.slice (some 3), CT.int, CT.int, CT.slice
  (some 3)] (getI l6 n0) fun n1 l2_1 l3 n4_1 n5 l6_1 => obind (pcall O 30 [V.agg [V.int n1, V.vec .plain (some 3) l2_1, V.vec .plain (some 3) l3, V.int n4_1, V.int
  n5, V.vec .plain (some 3) l6_1]]) fun r7 => onBool r7 fun b8 => bc (!b8) (some (Ex.ret, [V.bool false], [])) (O.2 19 8 [V.int (IntKind.i64.wrap (n0 + 1)), V.loc
  false (some 9) (V.agg [V.vec .plain (some 5) l1, V.vec .plain (some 3) l2, V.int n3, V.int n4, V.vec .plain (some 3) l5, V.vec .plain (some 6) l6, V.int n7, V.int n8, V.vec .plain
  (some 3) l9])] []))) (some (Ex.exit 0, [], [])) := by kernel_rfl

theorem e_law17_func2 (O : Oracle) (n0 : Int) (n1 : Int) (l2 : (List V)) : callBody Try.prog cfg O 26 [.agg [.int n0, .int n1, .vec .plain (some 3) l2]] [] =
  gd (below 0 (V.agg [V.int 5, V.int 2, V.vec .plain (some 3) [V.agg [V.int 5, V.int 2, V.vec .plain (some 3) [V.agg [V.int n0, V.int n1, V.vec .plain (some 3) l2]]]]]) && true)
  (some (Out.ret (V.agg [V.int 5, V.int 2, V.vec .plain (some 3) [V.agg [V.int 5, V.int 2, V.vec .plain (some 3) [V.agg [V.int n0, V.int n1, V.vec .plain (some 3) l2]]]]]), [])) := by kernel_rfl

theorem e_law17_lightCall (O : Oracle) (n0 : Int) (l1 : (List V)) (l2 : (List V)) (n3 : Int) (n4 : Int) (l5 : (List V)) : callBody Try.prog cfg O 30 [.agg [.int n0, .vec .plain (some 3) l1, .vec .plain (some 3) l2, .int n3, .int n4, .vec .plain (some 3) l5]] [] =
  obind (pcall O 16 [V.vec .plain (some 3) l1, V.int 300, V.int 60]) fun r1 => onBool r1 fun b2 => obind (pcall O 16 [V.vec .plain (some 3) l2, V.int 300,
  V.int 60]) fun r3 => onBool r3 fun b4 => obind (pcall O 17 [V.agg [V.int n3, V.int n4, V.vec .plain (some 3) l5], V.int 300, V.int 60]) fun r5 => onBool r5 fun b6 => bc
  b2 (bc b4 (some (Out.ret (V.bool b6), [])) (some (Out.ret (V.bool false), []))) (some (Out.ret (V.bool false), [])) := by kernel_rfl

end Go.Proofs.SP

/-! Calls, clauses, functions; which are light. -/
namespace Go.Ama
open Go Go.AM

structure Cal where
  f : Int
  ext : List T
  theta : List T
  arg : T
structure Cl where
  metas : List M
  theta : List T
  p : T
  calls : List Cal
  r : T
structure Fun1 where
  name : Bytes
  schema : List T
  delta : List M
  psi : List T
  a : T
  phi : List T
  b : T
  total : Bool
  clauses : List Cl
def encCall (c : Cal) : V := .agg [.int c.f, .vec .plain (some 3) (encs c.ext), .vec .plain (some 3) (encs c.theta), .int c.arg.k, .int c.arg.h, .vec .plain (some 3) (encs c.arg.args)]
def encCalls (l : List Cal) : List V := l.map encCall
def encCl (c : Cl) : V := .agg [.vec .plain (some 5) (encMs c.metas), .vec .plain (some 3) (encs c.theta), .int c.p.k, .int c.p.h, .vec .plain (some 3) (encs c.p.args), .vec .plain (some 6) (encCalls c.calls), .int c.r.k, .int c.r.h, .vec .plain (some 3) (encs c.r.args)]
def encCls (l : List Cl) : List V := l.map encCl
def encFn (f : Fun1) : V := .agg [.str (ba f.name), .vec .plain (some 3) (encs f.schema), .vec .plain (some 5) (encMs f.delta), .vec .plain (some 3) (encs f.psi), .int f.a.k, .int f.a.h, .vec .plain (some 3) (encs f.a.args), .vec .plain (some 3) (encs f.phi), .int f.b.k, .int f.b.h, .vec .plain (some 3) (encs f.b.args), .bool f.total, .vec .plain (some 9) (encCls f.clauses)]
def encFns (l : List Fun1) : List V := l.map encFn
@[simp] theorem encCalls_length (l : List Cal) : (encCalls l).length = l.length := by simp [encCalls]
@[simp] theorem encCls_length (l : List Cl) : (encCls l).length = l.length := by simp [encCls]
@[simp] theorem encFns_length (l : List Fun1) : (encFns l).length = l.length := by simp [encFns]
theorem getI_encCalls {l : List Cal} {i : Nat} (h : i < l.length) : getI (encCalls l) (i : Int) = encCall l[i] := by
  simp [getI, encCalls, List.getD_eq_getElem?_getD, List.getElem?_map, h]
theorem getI_encCls {l : List Cl} {i : Nat} (h : i < l.length) : getI (encCls l) (i : Int) = encCl l[i] := by
  simp [getI, encCls, List.getD_eq_getElem?_getD, List.getElem?_map, h]
theorem getI_encFns {l : List Fun1} {i : Nat} (h : i < l.length) : getI (encFns l) (i : Int) = encFn l[i] := by
  simp [getI, encFns, List.getD_eq_getElem?_getD, List.getElem?_map, h]
theorem below_map {α : Type} {e : α → V} {n : Nat} (h : ∀ a, below n (e a) = true) : ∀ l : List α, belowL n (l.map e) = true
  | [] => rfl
  | a :: l => by simp [belowL, h a, below_map h l]
@[simp] theorem below_encCall (n : Nat) (c : Cal) : below n (encCall c) = true := by simp [encCall, below, belowL]
@[simp] theorem below_encCalls (n : Nat) (l : List Cal) : belowL n (encCalls l) = true := below_map (below_encCall n) l
@[simp] theorem below_encCl (n : Nat) (c : Cl) : below n (encCl c) = true := by simp [encCl, below, belowL]
@[simp] theorem below_encCls (n : Nat) (l : List Cl) : belowL n (encCls l) = true := below_map (below_encCl n) l
@[simp] theorem below_encFn (n : Nat) (f : Fun1) : below n (encFn f) = true := by simp [encFn, below, belowL]
@[simp] theorem below_encFns (n : Nat) (l : List Fun1) : belowL n (encFns l) = true := below_map (below_encFn n) l
attribute [simp] below_encM below_encD below_encDs below_encC

/-! ### bulk -/
theorem bulk_mem {l : List V} {v : V} (h : v ∈ l) : bulkV v ≤ bulkL l := by
  induction l with
  | nil => cases h
  | cons a l ih =>
    simp only [bulkL]
    rcases List.mem_cons.1 h with rfl | h
    · omega
    · have := ih h; omega
theorem bulk_len : ∀ l : List V, l.length ≤ bulkL l
  | [] => Nat.zero_le _
  | v :: l => by
    have := bulk_len l
    have : 1 ≤ bulkV v := by cases v <;> simp [bulkV]
    simp only [List.length_cons, bulkL]; omega
theorem bulk_parts (t : T) : bulkV (enc t) = 1 + 1 + (bulkL (encs t.args) + 1) + 1 := by
  rw [enc_eta]; simp only [bulkV, bulkL]; omega
theorem bulk_M (m : M) : 4 * (sizes m.ctx + m.t.size) ≤ bulkV (encM m) := by
  have h1 := bulk_encs m.ctx
  have h2 := bulk_enc m.t
  rw [bulk_parts] at h2
  simp only [encM, bulkV, bulkL]; omega
theorem bulk_Ms {l : List M} {m : M} (h : m ∈ l) : 4 * (sizes m.ctx + m.t.size) ≤ bulkL (encMs l) :=
  Nat.le_trans (bulk_M m) (bulk_mem (List.mem_map_of_mem h))
theorem bulk_D (d : D) : 4 * d.t.size ≤ bulkV (encD d) := by
  have h2 := bulk_enc d.t
  rw [bulk_parts] at h2
  simp only [encD, bulkV, bulkL]; omega
theorem bulk_Ds {l : List D} {d : D} (h : d ∈ l) : 4 * d.t.size ≤ bulkL (encDs l) :=
  Nat.le_trans (bulk_D d) (bulk_mem (List.mem_map_of_mem h))
theorem bulk_Call (c : Cal) : 4 * (sizes c.ext + sizes c.theta + c.arg.size) ≤ bulkV (encCall c) := by
  have h1 := bulk_encs c.ext
  have h3 := bulk_encs c.theta
  have h2 := bulk_enc c.arg
  rw [bulk_parts] at h2
  simp only [encCall, bulkV, bulkL]; omega
theorem bulk_Cl (c : Cl) : bulkL (encMs c.metas) + 4 * (sizes c.theta + c.p.size + c.r.size) + bulkL (encCalls c.calls) ≤ bulkV (encCl c) := by
  have h1 := bulk_encs c.theta
  have h2 := bulk_enc c.p
  have h3 := bulk_enc c.r
  rw [bulk_parts] at h2 h3
  simp only [encCl, bulkV, bulkL]; omega
theorem bulk_Fn (f : Fun1) : bulkL (encMs f.delta) + 4 * (sizes f.schema + sizes f.psi + f.a.size + sizes f.phi + f.b.size) + bulkL (encCls f.clauses) ≤ bulkV (encFn f) := by
  have h1 := bulk_encs f.schema
  have h2 := bulk_encs f.psi
  have h3 := bulk_encs f.phi
  have h4 := bulk_enc f.a
  have h5 := bulk_enc f.b
  rw [bulk_parts] at h4 h5
  simp only [encFn, bulkV, bulkL]; omega

/-! ### light -/
def few9 (l : List D) : Bool := decide (l.length ≤ 30) && l.all fun d => light 1000 80 d.t
def fewM (l : List M) : Bool := decide (l.length ≤ 30) && l.all fun m => lights 500 80 m.ctx && light 500 80 m.t
def few10 (sig : List D) (ms : List M) (ctx : List T) : Bool := few9 sig && (fewM ms && lights 500 80 ctx)
def lightCall (c : Cal) : Bool := lights 300 60 c.ext && (lights 300 60 c.theta && light 300 60 c.arg)
def lightCl (c : Cl) : Bool := fewM c.metas && (lights 300 60 c.theta && (light 300 60 c.p && (light 300 60 c.r && (decide (c.calls.length ≤ 50) && c.calls.all lightCall))))
def lightFn (f : Fun1) : Bool := fewM f.delta && (lights 300 60 f.schema && (lights 300 60 f.psi && (lights 300 60 f.phi && (light 300 60 f.a && (light 300 60 f.b && (decide (f.clauses.length ≤ 50) && f.clauses.all lightCl))))))
section
variable {R : Type}
@[simp] theorem onCall (c : Cal) (K : Int → List V → List V → Int → Int → List V → Option R) : onStruct (R := R) [CT.int, CT.slice (some 3), CT.slice (some 3), CT.int, CT.int, CT.slice (some 3)] (encCall c) K = K c.f (encs c.ext) (encs c.theta) c.arg.k c.arg.h (encs c.arg.args) := rfl
@[simp] theorem onCl (c : Cl) (K : List V → List V → Int → Int → List V → List V → Int → Int → List V → Option R) : onStruct (R := R) [CT.slice (some 5), CT.slice (some 3), CT.int, CT.int, CT.slice (some 3), CT.slice (some 6), CT.int, CT.int, CT.slice (some 3)] (encCl c) K = K (encMs c.metas) (encs c.theta) c.p.k c.p.h (encs c.p.args) (encCalls c.calls) c.r.k c.r.h (encs c.r.args) := rfl
@[simp] theorem onMc (m : M) (K : List V → Option R) : onAgg (encM m) (fun c => gd (decide (1 ≤ c.length)) (onVec (some 3) (AM.partOf c 0 none) K)) = K (encs m.ctx) := by
  show gd true (onVec (some 3) (.vec .plain (some 3) (encs m.ctx)) K) = _
  simp
@[simp] theorem onMt (m : M) (K : Int → Int → List V → Option R) : onAgg (encM m) (fun c => gd (decide (4 ≤ c.length)) (onCells (R := R) [CT.int, CT.int, CT.slice (some 3)] (List.take 3 (List.drop 1 c)) K)) = K m.t.k m.t.h (encs m.t.args) := rfl
end
theorem encCall_eta (c : Cal) : encCall c = .agg [.int c.f, .vec .plain (some 3) (encs c.ext), .vec .plain (some 3) (encs c.theta), .int c.arg.k, .int c.arg.h, .vec .plain (some 3) (encs c.arg.args)] := rfl
theorem encCl_eta (c : Cl) : encCl c = .agg [.vec .plain (some 5) (encMs c.metas), .vec .plain (some 3) (encs c.theta), .int c.p.k, .int c.p.h, .vec .plain (some 3) (encs c.p.args), .vec .plain (some 6) (encCalls c.calls), .int c.r.k, .int c.r.h, .vec .plain (some 3) (encs c.r.args)] := rfl
theorem encFn_eta (f : Fun1) : encFn f = .agg [.str (ba f.name), .vec .plain (some 3) (encs f.schema), .vec .plain (some 5) (encMs f.delta), .vec .plain (some 3) (encs f.psi), .int f.a.k, .int f.a.h, .vec .plain (some 3) (encs f.a.args), .vec .plain (some 3) (encs f.phi), .int f.b.k, .int f.b.h, .vec .plain (some 3) (encs f.b.args), .bool f.total, .vec .plain (some 9) (encCls f.clauses)] := rfl
end Go.Ama

/-! What is light. -/
namespace Go.Proofs.SP
open Go Go.AM Go.Ama

theorem not_gt_dec (n k : Nat) : decide ((n : Int) > (k : Int)) = !decide (n ≤ k) := by
  by_cases h : n ≤ k <;> simp [h] <;> omega

theorem lights_spec (l : List T) (n m : Int) (hs : sizes l ≤ 1099511627776) : Ev 16 [.vec .plain (some 3) (encs l), .int n, .int m] (.bool (lights n m l)) := by
  have hlen := length_le_sizes l
  have hl := all_loop' (L := fun i => W.loop 16 4 [.int i, .int m, .int n, .vec .plain (some 3) (encs l)] []) (xs := l) (g := light n m) (e0 := (Ex.exit 0, [], [])) (e1 := (Ex.ret, [V.bool false], []))
    (fun i hi => by
      have hp := (light_spec l[i] n m (by have := size_le (List.getElem_mem hi); omega)).p
      have hlt : decide ((i : Int) < l.length) = true := by simp; omega
      show W.loop _ _ _ _ = _
      rw [L, e_ref01_Lights_L4, encs_length, getI_encs hi, wrap_id ⟨by omega, by omega⟩]
      simp only [hlt, Int.natCast_nonneg, decide_true, bc_true, Bool.and_self, gd_true, onStruct_enc, ← enc_eta, hp, obind_some', onBool_bool]
      cases light n m l[i] <;> rfl)
    (by
      show W.loop _ _ _ _ = _
      rw [L, e_ref01_Lights_L4, encs_length]
      simp)
  unfold Ev lights
  have e60 := not_gt_dec l.length 60
  have hl' : W.loop 16 4 [.int 0, .int m, .int n, .vec .plain (some 3) (encs l)] [] = _ := hl
  rw [C, e_ref01_Lights, encs_length, hl']
  have e60' : decide ((l.length : Int) > 60) = !decide (l.length ≤ 60) := e60
  rw [e60']
  cases decide (l.length ≤ 60) <;> cases l.all (light n m) <;> rfl

theorem few9_spec (l : List D) (hb : bulkL (encDs l) ≤ 4398046511104) : Ev 15 [.vec .plain (some 4) (encDs l)] (.bool (few9 l)) := by
  have hlen := bulk_len (encDs l)
  rw [encDs_length] at hlen
  have hl := all_loop' (L := fun i => W.loop 15 4 [.int i, .vec .plain (some 4) (encDs l)] []) (xs := l) (g := fun d => light 1000 80 d.t) (e0 := (Ex.exit 0, [], [])) (e1 := (Ex.ret, [V.bool false], []))
    (fun i hi => by
      have hp := (light_spec l[i].t 1000 80 (by have := bulk_Ds (List.getElem_mem hi); omega)).p
      have hlt : decide ((i : Int) < l.length) = true := by simp; omega
      show W.loop _ _ _ _ = _
      rw [L, e_law09_Few_L4, encDs_length, getI_encDs hi, wrap_id ⟨by omega, by omega⟩]
      simp only [hlt, Int.natCast_nonneg, decide_true, bc_true, Bool.and_self, gd_true, onDt, ← enc_eta, hp, obind_some', onBool_bool]
      cases light 1000 80 l[i].t <;> rfl)
    (by
      show W.loop _ _ _ _ = _
      rw [L, e_law09_Few_L4, encDs_length]
      simp)
  unfold Ev few9
  have e30 : decide ((l.length : Int) > 30) = !decide (l.length ≤ 30) := not_gt_dec l.length 30
  have hl' : W.loop 15 4 [.int 0, .vec .plain (some 4) (encDs l)] [] = _ := hl
  rw [C, e_law09_Few, encDs_length, hl', e30]
  cases decide (l.length ≤ 30) <;> cases l.all (fun d => light 1000 80 d.t) <;> rfl

theorem few10_spec (sig : List D) (l : List M) (ctx : List T) (h1 : bulkL (encDs sig) ≤ 4398046511104) (hb : bulkL (encMs l) ≤ 4398046511104) (h3 : sizes ctx ≤ 1099511627776) : Ev 6 [.vec .plain (some 4) (encDs sig), .vec .plain (some 5) (encMs l), .vec .plain (some 3) (encs ctx)] (.bool (few10 sig l ctx)) := by
  have hlen := bulk_len (encMs l)
  rw [encMs_length] at hlen
  have hc := (lights_spec ctx 500 80 h3).p
  have h9 := (few9_spec sig h1).p
  have hl := all_loop' (L := fun i => W.loop 6 5 [.int i, .vec .plain (some 5) (encMs l), .vec .plain (some 3) (encs ctx)] []) (xs := l) (g := fun m => lights 500 80 m.ctx && light 500 80 m.t) (e0 := (Ex.exit 0, [.vec .plain (some 3) (encs ctx)], [])) (e1 := (Ex.ret, [V.bool false], []))
    (fun i hi => by
      have hm := bulk_Ms (List.getElem_mem hi)
      have hp := (light_spec l[i].t 500 80 (by omega)).p
      have hq := (lights_spec l[i].ctx 500 80 (by omega)).p
      have hlt : decide ((i : Int) < l.length) = true := by simp; omega
      show W.loop _ _ _ _ = _
      rw [L, e_law10_Few_L5, encMs_length, getI_encMs hi, wrap_id ⟨by omega, by omega⟩]
      simp only [hlt, Int.natCast_nonneg, decide_true, bc_true, Bool.and_self, gd_true, onMc, onMt, hq, ← enc_eta, hp, obind_some', onBool_bool]
      cases light 500 80 l[i].t <;> cases lights 500 80 l[i].ctx <;> rfl)
    (by
      show W.loop _ _ _ _ = _
      rw [L, e_law10_Few_L5, encMs_length]
      simp)
  unfold Ev few10 fewM
  have e30 : decide ((l.length : Int) > 30) = !decide (l.length ≤ 30) := not_gt_dec l.length 30
  have hl' : W.loop 6 5 [.int 0, .vec .plain (some 5) (encMs l), .vec .plain (some 3) (encs ctx)] [] = _ := hl
  rw [C, e_law10_Few, encMs_length, hl', e30, h9]
  cases decide (l.length ≤ 30) <;> cases l.all (fun m => lights 500 80 m.ctx && light 500 80 m.t) <;> cases few9 sig <;> simp [hc]

theorem fewM_spec (l : List M) (hb : bulkL (encMs l) ≤ 4398046511104) : Ev 18 [.vec .plain (some 5) (encMs l)] (.bool (fewM l)) := by
  have h := (few10_spec [] l [] (by simp [bulkL]) hb (by simp [sizes])).p
  have e : few10 [] l [] = fewM l := by simp [few10, few9, lights]
  rw [e] at h
  simp only [encDs_nil, encs_nil] at h
  unfold Ev
  rw [C, e_law12_Few, h]
  simp

theorem lightCall_spec (c : Cal) (hb : bulkV (encCall c) ≤ 4398046511104) : Ev 30 [encCall c] (.bool (lightCall c)) := by
  have hm := bulk_Call c
  have h1 := (lights_spec c.ext 300 60 (by omega)).p
  have h2 := (lights_spec c.theta 300 60 (by omega)).p
  have h3 := (light_spec c.arg 300 60 (by omega)).p
  unfold Ev lightCall
  rw [C, encCall_eta, e_law17_lightCall, ← enc_eta, h1, h2, h3]
  cases lights 300 60 c.ext <;> cases lights 300 60 c.theta <;> rfl

theorem lightCl_spec (c : Cl) (hb : bulkV (encCl c) ≤ 4398046511104) : Ev 19 [encCl c] (.bool (lightCl c)) := by
  have hm := bulk_Cl c
  have hlen := bulk_len (encCalls c.calls)
  rw [encCalls_length] at hlen
  have h0 := (fewM_spec c.metas (by omega)).p
  have h1 := (lights_spec c.theta 300 60 (by omega)).p
  have h2 := (light_spec c.p 300 60 (by omega)).p
  have h3 := (light_spec c.r 300 60 (by omega)).p
  have hl := all_loop' (L := fun i => W.loop 19 8 [.int i, .loc false (some 9) (encCl c)] []) (xs := c.calls) (g := lightCall) (e0 := (Ex.exit 0, [], [])) (e1 := (Ex.ret, [V.bool false], []))
    (fun i hi => by
      have hp := (lightCall_spec c.calls[i] (by have := bulk_mem (List.mem_map_of_mem (f := encCall) (List.getElem_mem hi)); simp only [encCalls] at hm; omega)).p
      have hlt : decide ((i : Int) < c.calls.length) = true := by simp; omega
      show W.loop _ _ _ _ = _
      rw [L, encCl_eta, e_law17_LightClause_L8, encCalls_length, getI_encCalls hi, wrap_id ⟨by omega, by omega⟩]
      simp only [hlt, Int.natCast_nonneg, decide_true, bc_true, Bool.and_self, gd_true, onCall, ← encCall_eta, hp, obind_some', onBool_bool]
      cases lightCall c.calls[i] <;> rfl)
    (by
      show W.loop _ _ _ _ = _
      rw [L, encCl_eta, e_law17_LightClause_L8, encCalls_length]
      simp)
  unfold Ev lightCl
  have e50 : decide ((c.calls.length : Int) > 50) = !decide (c.calls.length ≤ 50) := not_gt_dec c.calls.length 50
  have hl' : W.loop 19 8 [.int 0, .loc false (some 9) (encCl c)] [] = _ := hl
  rw [C]
  conv => lhs; rw [encCl_eta]
  rw [e_law17_LightClause, ← encCl_eta, ← enc_eta, ← enc_eta, encCalls_length, hl', e50, h0, h1, h2, h3]
  cases fewM c.metas <;> cases lights 300 60 c.theta <;> cases light 300 60 c.p <;> cases light 300 60 c.r <;> cases decide (c.calls.length ≤ 50) <;> cases c.calls.all lightCall <;> rfl

theorem lightFn_spec (f : Fun1) (hb : bulkV (encFn f) ≤ 4398046511104) : Ev 7 [encFn f] (.bool (lightFn f)) := by
  have hm := bulk_Fn f
  have hlen := bulk_len (encCls f.clauses)
  rw [encCls_length] at hlen
  have h0 := (fewM_spec f.delta (by omega)).p
  have h1 := (lights_spec f.schema 300 60 (by omega)).p
  have h2 := (lights_spec f.psi 300 60 (by omega)).p
  have h3 := (lights_spec f.phi 300 60 (by omega)).p
  have h4 := (light_spec f.a 300 60 (by omega)).p
  have h5 := (light_spec f.b 300 60 (by omega)).p
  have hl := all_loop' (L := fun i => W.loop 7 10 [.int i, .loc false (some 13) (encFn f)] []) (xs := f.clauses) (g := lightCl) (e0 := (Ex.exit 0, [], [])) (e1 := (Ex.ret, [V.bool false], []))
    (fun i hi => by
      have hp := (lightCl_spec f.clauses[i] (by have := bulk_mem (List.mem_map_of_mem (f := encCl) (List.getElem_mem hi)); simp only [encCls] at hm; omega)).p
      have hlt : decide ((i : Int) < f.clauses.length) = true := by simp; omega
      show W.loop _ _ _ _ = _
      rw [L, encFn_eta, e_law17_LightFun_L10, encCls_length, getI_encCls hi, wrap_id ⟨by omega, by omega⟩]
      simp only [hlt, Int.natCast_nonneg, decide_true, bc_true, Bool.and_self, gd_true, onCl, ← encCl_eta, hp, obind_some', onBool_bool]
      cases lightCl f.clauses[i] <;> rfl)
    (by
      show W.loop _ _ _ _ = _
      rw [L, encFn_eta, e_law17_LightFun_L10, encCls_length]
      simp)
  unfold Ev lightFn
  have e50 : decide ((f.clauses.length : Int) > 50) = !decide (f.clauses.length ≤ 50) := not_gt_dec f.clauses.length 50
  have hl' : W.loop 7 10 [.int 0, .loc false (some 13) (encFn f)] [] = _ := hl
  rw [C]
  conv => lhs; rw [encFn_eta]
  rw [e_law17_LightFun, ← encFn_eta, ← enc_eta, ← enc_eta, encCls_length, hl', e50, h0, h1, h2, h3, h4, h5]
  cases fewM f.delta <;> cases lights 300 60 f.schema <;> cases lights 300 60 f.psi <;> cases lights 300 60 f.phi <;> cases light 300 60 f.a <;> cases light 300 60 f.b <;> cases decide (f.clauses.length ≤ 50) <;> cases f.clauses.all lightCl <;> rfl
end Go.Proofs.SP

/-! What a law is handed: bytes, tokens. -/
namespace Go.Proofs.SP
open Go Go.AM Go.Ama
set_option maxRecDepth 20000

theorem dec_int {n : Nat} {cs : List V} (h : WT Try.prog n 3 cs) : ∃ z : Int, cs = [.int z] ∧ I64 z := by
  cases n with
  | zero => exact h.elim
  | succ n =>
    simp only [WT, Try.underlying3] at h
    obtain ⟨z, h1, h2⟩ := h
    refine ⟨z, h1, ?_⟩
    simpa [Lit.wf, IntKind.min, IntKind.max, IntKind.signed, IntKind.bits, I64] using h2
theorem dec_byte {n : Nat} {cs : List V} (h : WT Try.prog n 5 cs) : ∃ c : UInt8, cs = [.ik .u8 (c.toNat : Int)] := by
  cases n with
  | zero => exact h.elim
  | succ n =>
    simp only [WT, Try.underlying5] at h
    obtain ⟨z, h1, h2⟩ := h
    have h3 : 0 ≤ z ∧ z ≤ 255 := by simpa [Lit.wf, IntKind.min, IntKind.max, IntKind.signed, IntKind.bits] using h2
    refine ⟨UInt8.ofNat z.toNat, ?_⟩
    rw [h1]
    have : ((UInt8.ofNat z.toNat).toNat : Int) = z := by
      rw [UInt8.toNat_ofNat']
      omega
    rw [this]
theorem dec_string {n : Nat} {cs : List V} (h : WT Try.prog n 9 cs) : ∃ s : Bytes, cs = [.str (ba s)] := by
  cases n with
  | zero => exact h.elim
  | succ n =>
    simp only [WT, Try.underlying9] at h
    obtain ⟨s, h1, h2⟩ := h
    exact ⟨s.data.toList, by rw [ba_data]; exact h1⟩

theorem shByte : shOf Try.prog 5 = none := by kernel_rfl
theorem shInt : shOf Try.prog 3 = none := by kernel_rfl
theorem cellsInt : Try.prog.cellsOf 3 = 1 := by kernel_rfl
theorem cellsString : Try.prog.cellsOf 9 = 1 := by kernel_rfl

theorem list2 {l : List V} (h : l.length = 2) : ∃ x y, l = [x, y] := by
  match l, h with
  | [x, y], _ => exact ⟨x, y, rfl⟩
theorem one_cell {v : V} (h : Shaped none v) : AM.cellsOf v = [v] := by cases v <;> first | rfl | exact h.elim

theorem dec_num {v : V} (h : (∃ n, WT Try.prog n 3 (AM.cellsOf v)) ∧ Shaped (shOf Try.prog 3) v) : ∃ z, v = .int z ∧ I64 z := by
  obtain ⟨⟨n, h1⟩, h2⟩ := h
  rw [shInt] at h2
  rw [one_cell h2] at h1
  obtain ⟨z, hz, h3⟩ := dec_int h1
  simp only [List.cons.injEq, and_true] at hz
  exact ⟨z, hz, h3⟩
theorem dec_u8 {v : V} (h : (∃ n, WT Try.prog n 5 (AM.cellsOf v)) ∧ Shaped (shOf Try.prog 5) v) : ∃ c : UInt8, v = .ik .u8 (c.toNat : Int) := by
  obtain ⟨⟨n, h1⟩, h2⟩ := h
  rw [shByte] at h2
  rw [one_cell h2] at h1
  obtain ⟨z, hz⟩ := dec_byte h1
  simp only [List.cons.injEq, and_true] at hz
  exact ⟨z, hz⟩
theorem of_ev {f : Nat} {args : List V} (h : Ev f args (.bool true)) : ∃ m st, (fuelO Try.prog cfg ext m).call f args [] = some (.ret (.bool true), st) := by
  obtain ⟨m, hm⟩ := om_fuel h
  exact ⟨m, [], hm⟩

end Go.Proofs.SP

/-! What a law is handed: terms, declarations, strings. -/
namespace Go.Proofs.SP
open Go Go.AM Go.Ama
set_option maxRecDepth 20000

theorem shTerm : shOf Try.prog 26 = some 3 := by kernel_rfl
theorem shTerms : shOf Try.prog 23 = none := by kernel_rfl
theorem shString : shOf Try.prog 9 = none := by kernel_rfl
theorem cellsTerms : Try.prog.cellsOf 23 = 1 := by kernel_rfl
theorem cellsTerm : Try.prog.cellsOf 26 = 3 := by kernel_rfl
theorem shDecl : shOf Try.prog 66 = some 4 := by kernel_rfl
theorem shDecls : shOf Try.prog 22 = none := by kernel_rfl
theorem cellsDecl : Try.prog.cellsOf 66 = 4 := by kernel_rfl

theorem dec_str {v : V} (h : (∃ n, WT Try.prog n 9 (AM.cellsOf v)) ∧ Shaped (shOf Try.prog 9) v) : ∃ s : Bytes, v = .str (ba s) := by
  obtain ⟨⟨n, h1⟩, h2⟩ := h
  rw [shString] at h2
  rw [one_cell h2] at h1
  obtain ⟨z, hz⟩ := dec_string h1
  simp only [List.cons.injEq, and_true] at hz
  exact ⟨z, hz⟩

theorem list3 {l : List V} (h : l.length = 3) : ∃ x y z, l = [x, y, z] := by
  match l, h with
  | [x, y, z], _ => exact ⟨x, y, z, rfl⟩
theorem list4 {l : List V} (h : l.length = 4) : ∃ x y z w, l = [x, y, z, w] := by
  match l, h with
  | [x, y, z, w], _ => exact ⟨x, y, z, w, rfl⟩

theorem dec_terms : ∀ n : Nat, (∀ cs, WT Try.prog n 26 cs → ∃ t, V.agg cs = enc t) ∧ (∀ cs, WT Try.prog n 23 cs → ∃ ts, cs = [.vec .plain (some 3) (encs ts)]) := by
  intro n
  induction n with
  | zero => exact ⟨fun cs h => h.elim, fun cs h => h.elim⟩
  | succ n ih =>
    refine ⟨fun cs h => ?_, fun cs h => ?_⟩
    · simp only [WT, Try.underlying26] at h
      obtain ⟨hl, hf⟩ := h
      rw [cellsTerm] at hl
      obtain ⟨x, y, z, rfl⟩ := list3 hl
      simp only [List.forall_mem_cons] at hf
      obtain ⟨f1, f2, f3, _⟩ := hf
      simp only [cellsInt, cellsTerms, List.drop_zero, List.drop_succ_cons, List.take_succ_cons, List.take_zero] at f1 f2 f3
      obtain ⟨k, hk, _⟩ := dec_int f1
      obtain ⟨h, hh, _⟩ := dec_int f2
      obtain ⟨ts, hts⟩ := ih.2 _ f3
      cases hk; cases hh; cases hts
      exact ⟨.mk k h ts, rfl⟩
    · simp only [WT, Try.underlying23] at h
      obtain ⟨es, rfl, _, he⟩ := h
      rw [shTerm] at he ⊢
      have : ∀ es : List V, (∀ v ∈ es, Shaped (some 3) v ∧ WT Try.prog n 26 (AM.cellsOf v)) → ∃ ts, es = encs ts := by
        intro es
        induction es with
        | nil => intro _; exact ⟨[], rfl⟩
        | cons v es ihe =>
          intro h
          obtain ⟨h1, h2⟩ := h v (by simp)
          obtain ⟨ts, hts⟩ := ihe fun u hu => h u (by simp [hu])
          cases v with
          | agg cs =>
            obtain ⟨t, ht⟩ := ih.1 cs h2
            exact ⟨t :: ts, by rw [encs_cons, ← ht, hts]⟩
          | _ => exact h1.elim
      obtain ⟨ts, rfl⟩ := this es he
      exact ⟨ts, rfl⟩

theorem dec_term {v : V} (h : (∃ n, WT Try.prog n 26 (AM.cellsOf v)) ∧ Shaped (shOf Try.prog 26) v) : ∃ t, v = enc t := by
  obtain ⟨⟨n, h1⟩, h2⟩ := h
  rw [shTerm] at h2
  cases v with
  | agg cs => exact (dec_terms n).1 cs h1
  | _ => exact h2.elim
theorem dec_list {v : V} (h : (∃ n, WT Try.prog n 23 (AM.cellsOf v)) ∧ Shaped (shOf Try.prog 23) v) : ∃ ts, v = .vec .plain (some 3) (encs ts) := by
  obtain ⟨⟨n, h1⟩, h2⟩ := h
  rw [shTerms] at h2
  rw [one_cell h2] at h1
  obtain ⟨ts, hts⟩ := (dec_terms n).2 _ h1
  simp only [List.cons.injEq, and_true] at hts
  exact ⟨ts, hts⟩

theorem dec_declc : ∀ n cs, WT Try.prog n 66 cs → ∃ d, V.agg cs = encD d := by
  intro n cs h
  cases n with
  | zero => exact h.elim
  | succ n =>
    simp only [WT, Try.underlying66] at h
    obtain ⟨hl, hf⟩ := h
    rw [cellsDecl] at hl
    obtain ⟨x, y, z, w, rfl⟩ := list4 hl
    simp only [List.forall_mem_cons] at hf
    obtain ⟨f1, f2, _⟩ := hf
    simp only [cellsString, cellsTerm, List.drop_zero, List.drop_succ_cons, List.take_succ_cons, List.take_zero] at f1 f2
    obtain ⟨s, hs⟩ := dec_string f1
    obtain ⟨t, ht⟩ := (dec_terms n).1 _ f2
    cases hs
    obtain ⟨k, h, l⟩ := t
    simp only [enc, V.agg.injEq, List.cons.injEq, and_true] at ht
    obtain ⟨rfl, rfl, rfl⟩ := ht
    exact ⟨⟨s, .mk k h l⟩, rfl⟩
theorem dec_decl {v : V} (h : (∃ n, WT Try.prog n 66 (AM.cellsOf v)) ∧ Shaped (shOf Try.prog 66) v) : ∃ d, v = encD d := by
  obtain ⟨⟨n, h1⟩, h2⟩ := h
  rw [shDecl] at h2
  cases v with
  | agg cs => exact dec_declc n cs h1
  | _ => exact h2.elim
theorem dec_decls {v : V} (h : (∃ n, WT Try.prog n 22 (AM.cellsOf v)) ∧ Shaped (shOf Try.prog 22) v) : ∃ l, v = .vec .plain (some 4) (encDs l) := by
  obtain ⟨⟨n, h1⟩, h2⟩ := h
  rw [shDecls] at h2
  rw [one_cell h2] at h1
  cases n with
  | zero => exact h1.elim
  | succ n =>
    simp only [WT, Try.underlying22] at h1
    obtain ⟨es, he0, _, he⟩ := h1
    rw [shDecl] at he he0
    have : ∀ es : List V, (∀ v ∈ es, Shaped (some 4) v ∧ WT Try.prog n 66 (AM.cellsOf v)) → ∃ l, es = encDs l := by
      intro es
      induction es with
      | nil => intro _; exact ⟨[], rfl⟩
      | cons v es ihe =>
        intro h
        obtain ⟨h1, h2⟩ := h v (by simp)
        obtain ⟨l, hl⟩ := ihe fun u hu => h u (by simp [hu])
        cases v with
        | agg cs =>
          obtain ⟨d, hd⟩ := dec_declc n cs h2
          exact ⟨d :: l, by rw [hl, hd]; rfl⟩
        | _ => exact h1.elim
    obtain ⟨l, rfl⟩ := this es he
    simp only [List.cons.injEq, and_true] at he0
    exact ⟨l, he0⟩
end Go.Proofs.SP
