import Derived.Test.YtjbenafmpeebpaaGC
/- General at an entry more, and the shape of what it tells. -/
set_option linter.unusedVariables false
set_option linter.unusedSimpArgs false
set_option linter.unusedSectionVars false
namespace Go.Proofs.G16
open Go Go.AM

theorem lights_len {n m : Int} {l : List T} (h : lights n m l = true) : l.length ≤ 60 := by
  simp only [lights, Bool.and_eq_true, decide_eq_true_eq] at h
  exact h.1

/-- What a general term's answer is, in words. -/
theorem general_err (ctx : List T) (a : T) (n : Int) :
    ((!may a || (ctx.any (fun t => !may t) || (decide (n < 0) || decide (40 < ctx.length + (split a).1.length)))) = true ∧ general ctx a n = ([], T0, T0, 1)) ∨
    ((!may a || (ctx.any (fun t => !may t) || (decide (n < 0) || decide (40 < ctx.length + (split a).1.length)))) = false ∧ ((ctx ++ (split a).1).any (fun t => !decide (t.k = 2)) || !decide ((split a).2.k = 2)) = true ∧ general ctx a n = ([], T0, T0, 5)) ∨
    ((!may a || (ctx.any (fun t => !may t) || (decide (n < 0) || decide (40 < ctx.length + (split a).1.length)))) = false ∧ ((ctx ++ (split a).1).any (fun t => !decide (t.k = 2)) || !decide ((split a).2.k = 2)) = false ∧
      general ctx a n = (ctx ++ (split a).1, (split a).2, lamN (split a).1.length (.mk 6 n (vars (ctx.length + (split a).1.length))), 0)) := by
  unfold general
  cases h1 : (!may a || (ctx.any (fun t => !may t) || (decide (n < 0) || decide (40 < ctx.length + (split a).1.length)))) with
  | true => exact .inl ⟨rfl, by simp⟩
  | false =>
    cases h2 : ((ctx ++ (split a).1).any (fun t => !decide (t.k = 2)) || !decide ((split a).2.k = 2)) with
    | true => exact .inr (.inl ⟨rfl, rfl, by simp⟩)
    | false => exact .inr (.inr ⟨rfl, rfl, by simp⟩)

theorem outside_law (ctx : List T) (a more : T) (hm : may more = true) :
    (if (general ctx a 0).2.2.2 ≠ 0 then decide ((general (more :: ctx) a 0).2.2.2 = (general ctx a 0).2.2.2) || decide ((general (more :: ctx) a 0).2.2.2 = 1)
     else if more.k ≠ 2 then decide ((general (more :: ctx) a 0).2.2.2 = 5) || decide ((general (more :: ctx) a 0).2.2.2 = 1)
     else decide ((general (more :: ctx) a 0).2.2.2 = 0) || decide ((general (more :: ctx) a 0).2.2.2 = 1)) = true := by
  rcases general_err (more :: ctx) a 0 with ⟨h1, h2⟩ | ⟨h1, h3, h2⟩ | ⟨h1, h3, h2⟩
  · rw [h2]
    split
    · simp
    · split <;> simp
  · rw [h2]
    rcases general_err ctx a 0 with ⟨g1, g2⟩ | ⟨g1, g3, g2⟩ | ⟨g1, g3, g2⟩
    · exfalso
      simp only [List.any_cons, hm, List.length_cons, Bool.not_true, Bool.false_or] at h1
      simp only [Bool.or_eq_false_iff, decide_eq_false_iff_not] at h1
      simp only [h1.1, h1.2.1, h1.2.2.1, Bool.false_or, decide_eq_true_eq] at g1
      have := h1.2.2.2
      simp at g1
      omega
    · rw [g2]; simp
    · rw [g2]
      simp only [ne_eq, not_true_eq_false, if_false]
      have : more.k ≠ 2 := by
        intro hk
        simp only [List.cons_append, List.any_cons, hk, decide_true, Bool.not_true, Bool.false_or] at h3
        rw [h3] at g3; cases g3
      rw [if_pos this]; simp
  · rw [h2]
    rcases general_err ctx a 0 with ⟨g1, g2⟩ | ⟨g1, g3, g2⟩ | ⟨g1, g3, g2⟩
    · exfalso
      simp only [List.any_cons, hm, List.length_cons, Bool.not_true, Bool.false_or] at h1
      simp only [Bool.or_eq_false_iff, decide_eq_false_iff_not] at h1
      simp only [h1.1, h1.2.1, h1.2.2.1, Bool.false_or, decide_eq_true_eq] at g1
      have := h1.2.2.2
      simp at g1
      omega
    · exfalso
      simp only [List.cons_append, List.any_cons, Bool.or_eq_false_iff] at h3
      simp only [Bool.or_eq_true, h3.1.2, h3.2] at g3
      simp at g3
    · rw [g2]
      simp only [ne_eq, not_true_eq_false, if_false]
      have : more.k = 2 := by
        simp only [List.cons_append, List.any_cons, Bool.or_eq_false_iff] at h3
        simpa using h3.1.1
      rw [if_neg (by simp [this])]; simp

theorem outside_spec (ctx : List T) (a more : T) (hs : sizes ctx + a.size + more.size ≤ 262144) : Ev 4 [.vec .plain (some 3) (encs ctx), enc a, enc more] (.bool true) := by
  have h10 := (pgeneral_spec ctx a 0 (by omega)).p (by simp [belowL, below]) (below_encG _)
  have h11 := (pgeneral_spec (more :: ctx) a 0 (by simp only [sizes]; omega)).p (by simp [belowL, below]) (below_encG _)
  have hlaw := outside_law ctx a more
  unfold Ev
  rw [C]
  conv => lhs; rw [enc_eta a, enc_eta more]
  rw [e_outside, ← enc_eta, ← enc_eta, awake_spec.p, obind_some', onBool_bool, (lights_spec ctx 500 80 (by omega)).p (by simp [belowL, below]), obind_some', onBool_bool, (light_spec a 500 80 (by omega)).p (by simp [belowL, below]), obind_some', onBool_bool,
    (light_spec more 500 60 (by omega)).p (by simp [belowL, below]), obind_some', onBool_bool]
  simp only [Bool.not_true, bc_false]
  cases hL : lights 500 80 ctx with
  | false => rfl
  | true =>
    have hlen := lights_len hL
    cases light 500 80 a with
    | false => rfl
    | true =>
      cases light 500 60 more with
      | false => rfl
      | true =>
        simp only [Bool.not_true, bc_false]
        rw [(pmay_spec more (by omega)).p, obind_some', onBool_bool]
        cases hm : may more with
        | false => rfl
        | true =>
          have hlaw := hlaw hm
          simp only [Bool.not_true, bc_false]
          have hroom : (true && roomFor Try.prog 24 ([enc more].length + (encs ctx).length)) = true := by
            rw [room24 (by simp; omega)]; rfl
          rw [h10, obind_some']
          generalize general ctx a 0 = g at *
          obtain ⟨c, t, u, e⟩ := g
          simp only [encG, onTup_tup, onCons_cons, onD, onStruct_enc, onInt_int, onNil_nil]
          rw [hroom, gd_true, ← encs_cons, h11, obind_some']
          generalize general (more :: ctx) a 0 = g' at *
          obtain ⟨c', t', u', e'⟩ := g'
          simp only [encG, onTup_tup, onCons_cons, onD, onStruct_enc, onInt_int, onNil_nil, bne_int, beq_int]
          simp only at hlaw
          by_cases he : e = 0
          · subst he
            simp only [ne_eq, not_true_eq_false, if_false] at hlaw
            simp only [decide_true, Bool.not_true, bc_false]
            by_cases hk : more.k = 2
            · simp only [hk, ne_eq, not_true_eq_false, if_false] at hlaw
              simp only [hk, decide_true, Bool.not_true, bc_false]
              cases hd : decide (e' = 0) with
              | true => rfl
              | false => rw [hd, Bool.false_or] at hlaw; simp only [bc_false, hlaw]
            · rw [if_pos hk] at hlaw
              simp only [hk, decide_false, Bool.not_false, bc_true]
              cases hd : decide (e' = 5) with
              | true => rfl
              | false => rw [hd, Bool.false_or] at hlaw; simp only [bc_false, hlaw]
          · rw [if_pos he] at hlaw
            simp only [he, decide_false, Bool.not_false, bc_true]
            cases hd : decide (e' = e) with
            | true => rfl
            | false => rw [hd, Bool.false_or] at hlaw; simp only [bc_false, hlaw]

theorem outside_pure : ∀ us, WArgs Try.prog [22, 24, 24] us → bulkL us ≤ 1048576 → ∃ m st, (fuelO Try.prog cfg (fun _ => none) m).call 4 us [] = some (.ret (.bool true), st) := by
  intro us h hb
  match us, h with
  | [u1, u2, u3], h =>
    obtain ⟨a1, a2, b1, b2, c1, c2, _⟩ := h
    obtain ⟨ctx, rfl⟩ := dec_list ⟨a1, a2⟩
    obtain ⟨a, rfl⟩ := dec_term ⟨b1, b2⟩
    obtain ⟨n, rfl⟩ := dec_term ⟨c1, c2⟩
    simp only [bulkL, bulkV] at hb
    have h1 := bulk_encs ctx
    have h2 := bulk_enc a
    have h3 := bulk_enc n
    obtain ⟨m, hm⟩ := om_fuel (outside_spec ctx a n (by omega))
    exact ⟨m, [], hm⟩

/-! ### the shape -/
theorem shapeL_spec : ∀ (d : Nat) (i : Nat) (ds ctx : List T) (u last : T) (dm : V) (n : Int), i + d = ds.length → ds.length ≤ 1048576 → (∃ c dt, dm = encD c dt) →
    W.loop 5 11 [.int (i : Nat), .loc false (some 3) (enc (lamN d u)), .loc false (some 5) dm, .loc false (some 3) (enc last), .vec .plain (some 3) (encs ds), .vec .plain (some 3) (encs ctx), .int n] [] =
      some (.exit 0, [.loc false (some 5) dm, .loc false (some 3) (enc last), .vec .plain (some 3) (encs ds), .vec .plain (some 3) (encs ctx), .loc false (some 3) (enc u), .int n], []) := by
  intro d
  induction d with
  | zero =>
    rintro i ds ctx u last dm n hi hl ⟨c, dt, rfl⟩
    have : i = ds.length := by omega
    subst this
    have hlt : decide (((ds.length : Nat) : Int) < ds.length) = false := by simp
    rw [L]
    conv => lhs; rw [lamN, enc_eta u, enc_eta last, encD]
    rw [e_shapeL, encs_length, hlt, bc_false, ← enc_eta, ← enc_eta]
    rfl
  | succ d ih =>
    rintro i ds ctx u last dm n hi hl ⟨c, dt, rfl⟩
    have hlt : decide (((i : Nat) : Int) < ds.length) = true := by simp; omega
    rw [L, lamN_succ]
    conv => lhs; rw [show enc (T.mk 3 0 [lamN d u]) = .agg [.int 3, .int 0, .vec .plain (some 3) (encs [lamN d u])] from rfl, enc_eta last, encD]
    rw [e_shapeL, encs_length, hlt, bc_true]
    have hg : getI (encs [lamN d u]) 0 = enc (lamN d u) := rfl
    simp only [bne_int, decide_true, Bool.not_true, bc_false, encs_length, List.length_singleton, Int.natCast_one, hg, onStruct_enc, ← enc_eta]
    rw [wrap_id ⟨by omega, by omega⟩]
    exact ih (i + 1) ds ctx u last (encD c dt) n (by omega) hl ⟨c, dt, rfl⟩

theorem shape_spec (ctx : List T) (a : T) (n : Int) (hs : sizes ctx + a.size ≤ 262144) : Ev 5 [.vec .plain (some 3) (encs ctx), enc a, .int n] (.bool true) := by
  have h10 := (pgeneral_spec ctx a n (by omega)).p (by simp [belowL, below]) (below_encG _)
  have hsz := split_size a.size a (Nat.le_refl _)
  have hl1 := length_le_sizes ctx
  have hl2 := length_le_sizes (split a).1
  have hsp := (psplit_spec a (by omega)).p (by simp [belowL]) (by simp [below, belowL])
  unfold Ev
  rw [C]
  conv => lhs; rw [enc_eta a]
  rw [e_shape, ← enc_eta, awake_spec.p, obind_some', onBool_bool, (lights_spec ctx 500 80 (by omega)).p (by simp [belowL, below]), obind_some', onBool_bool, (light_spec a 500 80 (by omega)).p (by simp [belowL, below]), obind_some', onBool_bool]
  simp only [Bool.not_true, bc_false]
  cases lights 500 80 ctx with
  | false => rfl
  | true =>
    cases light 500 80 a with
    | false => rfl
    | true =>
      simp only [Bool.not_true, bc_false]
      rw [h10, obind_some']
      rcases general_err ctx a n with ⟨_, h2⟩ | ⟨_, _, h2⟩ | ⟨_, _, h2⟩
      · rw [h2]; rfl
      · rw [h2]; rfl
      · rw [h2]
        simp only [encG, onTup_tup, onCons_cons, onD, onStruct_enc, onInt_int, onNil_nil, bne_int, decide_true, Bool.not_true, bc_false]
        rw [hsp, obind_some']
        simp only [onTup_tup, onCons_cons, onVec_plain, onStruct_enc, onNil_nil, ← enc_eta]
        have hL := shapeL_spec (split a).1.length 0 (split a).1 ctx (.mk 6 n (vars (ctx.length + (split a).1.length))) (split a).2 (encD (ctx ++ (split a).1) (split a).2) n (by omega) (by omega) ⟨_, _, rfl⟩
        have hL' : W.loop 5 11 [.int 0, .loc false (some 3) (enc (lamN (split a).1.length (.mk 6 n (vars (ctx.length + (split a).1.length))))), .loc false (some 5) (V.agg [.vec .plain (some 3) (encs (ctx ++ (split a).1)), .int (split a).2.k, .int (split a).2.h, .vec .plain (some 3) (encs (split a).2.args), .bool false]), .loc false (some 3) (enc (split a).2), .vec .plain (some 3) (encs (split a).1), .vec .plain (some 3) (encs ctx), .int n] [] =
          some (.exit 0, [.loc false (some 5) (encD (ctx ++ (split a).1) (split a).2), .loc false (some 3) (enc (split a).2), .vec .plain (some 3) (encs (split a).1), .vec .plain (some 3) (encs ctx), .loc false (some 3) (enc (.mk 6 n (vars (ctx.length + (split a).1.length)))), .int n], []) := hL
        rw [hL', obind_some', onEx_exit]
        have hpt : (split a).2.size ≤ 1048576 := by omega
        rw [show Nat.beq 0 0 = true from rfl, bc_true]
        simp only [onCons_cons]
        rw [onLoc_loc, cond_false, onD, onLoc_loc, cond_false, onStruct_enc, onVec_plain, onVec_plain, onLoc_loc, cond_false, onStruct_enc, onInt_int, onNil_nil]
        have hv : ((T.mk 6 n (vars (ctx.length + (split a).1.length))).args).length = ctx.length + (split a).1.length := vars_length _
        have hk1 : (((T.mk 6 n (vars (ctx.length + (split a).1.length))).k == 6) = true) := rfl
        have hk2 : (((T.mk 6 n (vars (ctx.length + (split a).1.length))).h == n) = true) := by show (n == n) = true; simp
        rw [hk1, hk2, bc_true, bc_true, encs_length, encs_length, encs_length, encs_length, hv, List.length_append]
        have hw : IntKind.i64.wrap ((ctx.length : Int) + ((split a).1.length : Int)) = ((ctx.length + (split a).1.length : Nat) : Int) := by rw [wrap_id ⟨by omega, by omega⟩]; omega
        rw [hw, beq_self_eq_true, bc_true, bc_true]
        have hq := (psame_spec (split a).2 (split a).2 hpt hpt).p
        rw [enc_eta (split a).2] at hq
        rw [hq, obind_some', onBool_bool, same_self]
        rfl

theorem shape_pure : ∀ us, WArgs Try.prog [22, 24, 3] us → bulkL us ≤ 1048576 → ∃ m st, (fuelO Try.prog cfg (fun _ => none) m).call 5 us [] = some (.ret (.bool true), st) := by
  intro us h hb
  match us, h with
  | [u1, u2, u3], h =>
    obtain ⟨a1, a2, b1, b2, c1, c2, _⟩ := h
    obtain ⟨ctx, rfl⟩ := dec_list ⟨a1, a2⟩
    obtain ⟨a, rfl⟩ := dec_term ⟨b1, b2⟩
    obtain ⟨n, rfl⟩ := dec_num ⟨c1, c2⟩
    simp only [bulkL, bulkV] at hb
    have h1 := bulk_encs ctx
    have h2 := bulk_enc a
    obtain ⟨m, hm⟩ := om_fuel (shape_spec ctx a n (by omega))
    exact ⟨m, [], hm⟩
end Go.Proofs.G16
