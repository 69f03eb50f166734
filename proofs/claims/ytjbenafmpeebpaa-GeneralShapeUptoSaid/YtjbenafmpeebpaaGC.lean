import Derived.Test.YtjbenafmpeebpaaGB
import Derived.Test.YtjbenafmpeebpaaGA
/- General, the program's and the document's, is one plain Lean function; the law of GeneralTells. -/
set_option linter.unusedVariables false
set_option linter.unusedSimpArgs false
set_option linter.unusedSectionVars false
namespace Go.Proofs.G16
open Go Go.AM

def T0 : T := .mk 0 0 []
def lamN : Nat → T → T
  | 0, t => t
  | n + 1, t => lamN n (.mk 3 0 [t])
/-- The document's, and the program's, answer. -/
def general (ctx : List T) (a : T) (n : Int) : List T × T × T × Int :=
  if (!may a || (ctx.any (fun t => !may t) || (decide (n < 0) || decide (40 < ctx.length + (split a).1.length)))) = true then ([], T0, T0, 1)
  else if ((ctx ++ (split a).1).any (fun t => !decide (t.k = 2)) || !decide ((split a).2.k = 2)) = true then ([], T0, T0, 5)
  else (ctx ++ (split a).1, (split a).2, lamN (split a).1.length (.mk 6 n (vars (ctx.length + (split a).1.length))), 0)
def encD (ctx : List T) (t : T) : V := .agg [.vec .plain (some 3) (encs ctx), .int t.k, .int t.h, .vec .plain (some 3) (encs t.args), .bool false]
def encG (x : List T × T × T × Int) : V := .tup [encD x.1 x.2.1, enc x.2.2.1, .int x.2.2.2]

theorem below_encG (x : List T × T × T × Int) : below 0 (encG x) = true := by simp [encG, encD, below, belowL]

theorem lamN_succ : ∀ (n : Nat) (t : T), lamN (n + 1) t = .mk 3 0 [lamN n t]
  | 0, t => rfl
  | n + 1, t => by rw [lamN, lamN_succ n]; rfl

/-- The loop that wraps a term. -/
theorem genL1_spec (m N : Nat) (hN : N ≤ 1048576) (ws vs : List V) (last t : T) (st : Res) :
    W.loop 10 12 [.int 0, .loc false (some 3) (enc t), .row (some 3) 0 0 m, .loc true (some 5) (.agg ws), .loc true (some 3) (.agg vs), .loc false (some 3) (enc last), .int N] [st] =
      some (.exit 1, [.row (some 3) 0 0 m, .loc true (some 5) (.agg ws), .loc true (some 3) (.agg vs), .loc false (some 3) (enc (lamN N t)), .loc false (some 3) (enc last)], [st]) := by
  have hl := count_loop (n := N) (L := fun j => W.loop 10 12 [.int (j : Nat), .loc false (some 3) (enc (lamN j t)), .row (some 3) 0 0 m, .loc true (some 5) (.agg ws), .loc true (some 3) (.agg vs), .loc false (some 3) (enc last), .int N] [st])
    (r := some (.exit 1, [.row (some 3) 0 0 m, .loc true (some 5) (.agg ws), .loc true (some 3) (.agg vs), .loc false (some 3) (enc (lamN N t)), .loc false (some 3) (enc last)], [st]))
    (fun j hj => by
      have hlt : decide (((j : Nat) : Int) < N) = true := by simp; omega
      show W.loop _ _ _ _ = _
      rw [L]
      conv => lhs; rw [enc_eta (lamN j t), enc_eta last]
      rw [e_pgenL1, hlt, bc_true, wrap_id ⟨by omega, by omega⟩, ← enc_eta, ← enc_eta, lamN_succ]
      rfl)
    (by
      have hlt : decide (((N : Nat) : Int) < N) = false := by simp
      show W.loop _ _ _ _ = _
      rw [L]
      conv => lhs; rw [enc_eta (lamN N t), enc_eta last]
      rw [e_pgenL1, hlt, bc_false, ← enc_eta, ← enc_eta])
  exact hl

/-- The loop that copies the entries. -/
theorem genL2_spec (zs : List T) (hz : sizes zs ≤ 1048576) (ws vs : List V) (t last : T) :
    W.loop 10 16 [.int 0, .row (some 3) 0 0 zs.length, .loc true (some 5) (.agg ws), .loc true (some 3) (.agg vs), .loc false (some 3) (enc t), .loc false (some 3) (enc last), .int zs.length] [.row (some 3) (encs zs)] =
      some (.exit 3, [.loc true (some 5) (.agg ws), .loc true (some 3) (.agg vs), .loc false (some 3) (enc t), .loc false (some 3) (enc last), .row (some 3) 0 0 zs.length], [.row (some 3) (encs zs)]) := by
  have hlen := length_le_sizes zs
  have hl := count_loop (n := zs.length) (L := fun j => W.loop 10 16 [.int (j : Nat), .row (some 3) 0 0 zs.length, .loc true (some 5) (.agg ws), .loc true (some 3) (.agg vs), .loc false (some 3) (enc t), .loc false (some 3) (enc last), .int zs.length] [.row (some 3) (encs zs)])
    (r := some (.exit 3, [.loc true (some 5) (.agg ws), .loc true (some 3) (.agg vs), .loc false (some 3) (enc t), .loc false (some 3) (enc last), .row (some 3) 0 0 zs.length], [.row (some 3) (encs zs)]))
    (fun j hj => by
      have hp := (pown_spec zs[j] (by have := size_le (List.getElem_mem hj); omega)).p
      have hlt : decide (((j : Nat) : Int) < zs.length) = true := by simp; omega
      have h0 : decide ((0 : Int) ≤ j) = true := by simp
      have hget : (encs zs).getD (0 + (j : Int).toNat) V.undef = enc zs[j] := by have := getI_encs hj; simpa [getI] using this
      have hlt2 : decide (0 + (j : Int).toNat < (encs zs).length) = true := by simp; omega
      have hset : (encs zs).set (0 + (j : Int).toNat) (enc zs[j]) = encs zs := by
        rw [Nat.zero_add, Int.toNat_natCast, encs_map]
        apply List.ext_getElem
        · simp
        · intro k h1 h2
          rw [List.getElem_set]
          split
          · rename_i e; subst e; simp
          · rfl
      show W.loop _ _ _ _ = _
      rw [L]
      conv => lhs; rw [enc_eta t, enc_eta last]
      rw [e_pgenL2, hlt, bc_true]
      simp only [h0, hlt2, hget, Bool.and_self, gd_true, onStruct_enc, ← enc_eta, hp, obind_some', isGrow, Bool.not_false, Bool.true_and]
      have hg : (!isGrow (enc zs[j])) = true := by rw [enc_eta]; rfl
      simp only [hg, hset, gd_true]
      rw [wrap_id ⟨by omega, by omega⟩]
      rfl)
    (by
      have hlt : decide (((zs.length : Nat) : Int) < zs.length) = false := by simp
      show W.loop _ _ _ _ = _
      rw [L]
      conv => lhs; rw [enc_eta t, enc_eta last]
      rw [e_pgenL2, hlt, bc_false, ← enc_eta, ← enc_eta])
  exact hl

theorem pgeneral_spec (ctx : List T) (a : T) (n : Int) (hc : sizes ctx + a.size ≤ 1048576) : Ev 10 [.vec .plain (some 3) (encs ctx), enc a, .int n] (encG (general ctx a n)) := by
  have hlen := length_le_sizes ctx
  have hsz := split_size a.size a (Nat.le_refl _)
  have hlen2 := length_le_sizes (split a).1
  have hsp := (psplit_spec a (by omega)).p (by simp [belowL]) (by simp [below, belowL])
  obtain ⟨N, hN⟩ : ∃ N, N = ctx.length + (split a).1.length := ⟨_, rfl⟩
  have hw : IntKind.i64.wrap ((ctx.length : Int) + ((split a).1.length : Int)) = (N : Int) := by rw [wrap_id ⟨by omega, by omega⟩]; omega
  have hr : roomFor Try.prog 24 N = true := room24 (by omega)
  have hmin : min ctx.length N = ctx.length := by omega
  have hmin2 : min (split a).1.length (N - ctx.length) = (split a).1.length := by omega
  have hrow : List.take (0 + ctx.length) ([] ++ List.take ctx.length (encs ctx) ++ List.drop (0 + ctx.length) (List.replicate N (V.agg [V.int 0, V.int 0, V.vec .plain (some 3) []]))) ++
      List.take (split a).1.length (encs (split a).1) ++ List.drop (0 + ctx.length + (split a).1.length) ([] ++ List.take ctx.length (encs ctx) ++ List.drop (0 + ctx.length) (List.replicate N (V.agg [V.int 0, V.int 0, V.vec .plain (some 3) []]))) = encs (ctx ++ (split a).1) := by
    have e1 : List.take ctx.length (encs ctx) = encs ctx := List.take_of_length_le (by simp)
    have e2 : List.take (split a).1.length (encs (split a).1) = encs (split a).1 := List.take_of_length_le (by simp)
    rw [e1, e2, List.nil_append, Nat.zero_add, List.take_append_of_le_length (by simp), List.take_of_length_le (by simp), encs_append]
    have : List.drop (ctx.length + (split a).1.length) (encs ctx ++ List.drop ctx.length (List.replicate N (V.agg [V.int 0, V.int 0, V.vec .plain (some 3) []]))) = [] := by
      apply List.drop_eq_nil_of_le
      simp
      omega
    rw [this, List.append_nil]
  unfold Ev
  rw [C]
  conv => lhs; rw [enc_eta a]
  rw [e_pgeneral, ← enc_eta, hsp, obind_some', onTup_tup, onCons_cons, onVec_plain, onCons_cons, onStruct_enc, onNil_nil]
  simp only [encs_length, hw, Int.toNat_natCast, hmin, hmin2, hrow, hr, List.length_replicate]
  have c1 : (decide ((0 : Int) ≤ (N : Int)) && decide True && true && true && true) = true := by simp
  have c2 : (true && decide (0 + N ≤ N)) = true := by simp
  have c3 : (decide ((0 : Int) ≤ (ctx.length : Int)) && decide ((ctx.length : Int) ≤ (N : Int)) && decide ((N : Int) ≤ (N : Int)) && true) = true := by simp; omega
  rw [c1, gd_true, c2, gd_true, c3, gd_true]
  have c4 : (true && decide (0 + ctx.length + (N - ctx.length) ≤ ([] ++ List.take ctx.length (encs ctx) ++ List.drop (0 + ctx.length) (List.replicate N (V.agg [V.int 0, V.int 0, V.vec .plain (some 3) []]))).length)) = true := by
    simp
  rw [c4, gd_true, (odd_spec a (by omega)).p, obind_some', onBool_bool]
  cases hma : may a with
  | false => simp only [general, hma]; rfl
  | true =>
    simp only [Bool.not_true, bc_false]
    rw [cfuncO_spec ctx _ (by omega), obind_some', onRet_ret, onBool_bool]
    cases hmc : ctx.any (fun t => !may t) with
    | true => simp only [general, hma, hmc]; rfl
    | false =>
      simp only [bc_false]
      by_cases hn : n < 0
      · simp only [general, hma, hmc, hn, decide_true]; rfl
      · have hn' : decide (n < 0) = false := by simp; omega
        rw [hn', bc_false]
        by_cases h40 : 40 < ctx.length + (split a).1.length
        · have : decide ((N : Int) > 40) = true := by simp; omega
          rw [this]
          simp only [general, hma, hmc, hn', h40, decide_true]; rfl
        · have h1 : decide ((N : Int) > 40) = false := by simp; omega
          have h2 : decide (40 < ctx.length + (split a).1.length) = false := by simp; omega
          rw [h1, bc_false]
          have hNl : N = (ctx ++ (split a).1).length := by rw [List.length_append]; exact hN
          have hcs := cfuncS_spec (ctx ++ (split a).1) (by rw [← hNl]; omega)
          rw [← hNl] at hcs
          rw [hcs, obind_some', onRet_ret, onBool_bool]
          cases hany : (ctx ++ (split a).1).any (fun t => !decide (t.k = 2)) with
          | true => simp only [general, hma, hmc, hn', h2, hany]; rfl
          | false =>
            simp only [bc_false, ← enc_eta]
            rw [(strange_spec (split a).2).p, obind_some', onBool_bool]
            by_cases hl2 : (split a).2.k = 2
            · simp only [hl2, decide_true, Bool.not_true, bc_false]
              rw [(psubst_spec N (by omega)).p (by simp [belowL, below]) (by simp [below, belowL]), obind_some']
              have hst : ∀ (K : List V → Int → Option (Out × St)), onStruct (R := Out × St) [CT.slice (some 3), CT.int] (.agg [.vec .plain (some 3) (encs (vars N)), .int N]) K = K (encs (vars N)) N := fun K => rfl
              rw [hst]
              have hL1 := genL1_spec N (split a).1.length (by omega) [V.vec Mode.full (some 3) [], V.int 0, V.int 0, V.vec Mode.full (some 3) [], V.bool false] [V.int 0, V.int 0, V.vec Mode.full (some 3) []] (split a).2 (.mk 6 n (vars N)) (.row (some 3) (encs (ctx ++ (split a).1)))
              rw [show enc (T.mk 6 n (vars N)) = .agg [.int 6, .int n, .vec .plain (some 3) (encs (vars N))] from rfl] at hL1
              rw [hL1, obind_some', onEx_exit]
              simp only [show Nat.beq 1 1 = true from rfl, bc_true, onCons_cons, onLoc_loc, onNil_nil, cond_false, onStruct_enc, ← enc_eta]
              have hrv : ∀ (K : Nat → Nat → Nat → Option (Out × St)), onRowV (some 3) (V.row (some 3) 0 0 N) K = K 0 0 N := fun K => rfl
              rw [hrv]
              have hL2 := genL2_spec (ctx ++ (split a).1) (by rw [sizes_append]; omega) [V.vec Mode.full (some 3) [], V.int 0, V.int 0, V.vec Mode.full (some 3) [], V.bool false] [V.int 0, V.int 0, V.vec Mode.full (some 3) []] (lamN (split a).1.length (.mk 6 n (vars N))) (split a).2
              rw [← hNl] at hL2
              rw [hL2, obind_some', onEx_exit]
              simp only [show Nat.beq 3 3 = true from rfl, bc_true, onCons_cons, onLoc_loc, onNil_nil, cond_false, onStruct_enc, ← enc_eta]
              rw [hrv]
              have hgr : ∀ (K : Res → Option (Out × St)), getR [Res.row (some 3) (encs (ctx ++ (split a).1))] 0 K = K (Res.row (some 3) (encs (ctx ++ (split a).1))) := fun K => rfl
              rw [hgr]
              have hor : ∀ (K : Sh → List V → Option (Out × St)), onRow (Res.row (some 3) (encs (ctx ++ (split a).1))) K = K (some 3) (encs (ctx ++ (split a).1)) := fun K => rfl
              rw [hor]
              have htk : List.take N (List.drop 0 (encs (ctx ++ (split a).1))) = encs (ctx ++ (split a).1) := by rw [List.drop_zero]; exact List.take_of_length_le (by rw [encs_length, ← hNl]; exact Nat.le_refl _)
              have hd : decide (0 + N ≤ (encs (ctx ++ (split a).1)).length) = true := by rw [encs_length, ← hNl]; simp
              simp only [htk, hd, decide_true, Bool.and_self, gd_true, below, belowL, below_encs, below_enc, belowSt]
              simp only [general, hma, hmc, hn', h2, hany, hl2, decide_true, Bool.not_true, Bool.or_self, Bool.false_eq_true, if_false]
              simp only [encG, encD, ← hN, hl2]
            · simp only [general, hma, hmc, hn', h2, hany, hl2, decide_false]; rfl
end Go.Proofs.G16

namespace Go.Proofs.G16
open Go Go.AM

abbrev ws5 : List V := [.vec .full (some 3) [], .int 0, .int 0, .vec .full (some 3) [], .bool false]
abbrev ws3 : List V := [.int 0, .int 0, .vec .full (some 3) []]
abbrev none5 : V := .agg [.vec .plain (some 3) [], .int 0, .int 0, .vec .plain (some 3) [], .bool false]

theorem rgenL1_spec (ctx : List T) (a : T) (b : Bool) (n : Int) (hs : sizes ctx ≤ 1048576) :
    W.loop 11 4 [.int 0, .bool b, .vec .plain (some 3) (encs ctx), .loc true (some 5) (.agg ws5), .loc true (some 3) (.agg ws3), .loc false (some 5) none5, .int n, .loc false (some 3) (enc a)] [] =
      some (.exit 0, [.loc true (some 5) (.agg ws5), .loc true (some 3) (.agg ws3), .loc false (some 5) none5, .int n, .vec .plain (some 3) (encs ctx), .bool (b && ctx.all may), .loc false (some 3) (enc a)], []) := by
  have hlen := length_le_sizes ctx
  have hl := count_loop (n := ctx.length) (L := fun j => W.loop 11 4 [.int (j : Nat), .bool (b && (ctx.take j).all may), .vec .plain (some 3) (encs ctx), .loc true (some 5) (.agg ws5), .loc true (some 3) (.agg ws3), .loc false (some 5) none5, .int n, .loc false (some 3) (enc a)] [])
    (r := some (.exit 0, [.loc true (some 5) (.agg ws5), .loc true (some 3) (.agg ws3), .loc false (some 5) none5, .int n, .vec .plain (some 3) (encs ctx), .bool (b && ctx.all may), .loc false (some 3) (enc a)], []))
    (fun j hj => by
      have hp := (rmay_spec ctx[j] (by have := size_le (List.getElem_mem hj); omega)).p
      have hlt : decide (((j : Nat) : Int) < ctx.length) = true := by simp; omega
      have h0 : decide ((0 : Int) ≤ j) = true := by simp
      have hall : (ctx.take (j + 1)).all may = ((ctx.take j).all may && may ctx[j]) := by rw [take_succ' hj, List.all_append]; simp
      show W.loop _ _ _ _ = _
      rw [L]
      conv => lhs; rw [enc_eta a]
      rw [e_rgenL1]
      simp only [encs_length, hlt, h0, bc_true, gd_true, Bool.and_self, getI_encs hj, onStruct_enc, ← enc_eta, hp, obind_some', onBool_bool, hall]
      rw [wrap_id ⟨by omega, by omega⟩, ← Bool.and_assoc]
      cases (b && (ctx.take j).all may) <;> rfl)
    (by
      have hlt : decide (((ctx.length : Nat) : Int) < ctx.length) = false := by simp
      show W.loop _ _ _ _ = _
      rw [L]
      conv => lhs; rw [enc_eta a]
      rw [e_rgenL1]
      simp only [encs_length, hlt, bc_false, List.take_length, ← enc_eta])
  rw [show (b && (ctx.take 0).all may) = b by simp] at hl
  exact hl

theorem rgenL2_spec (all ds : List T) (last : T) (n : Int) (hs : all.length ≤ 1048576) :
    W.loop 11 13 [.loc true (some 5) (.agg ws5), .loc true (some 3) (.agg ws3), .loc false (some 5) none5, .int 0, .vec .grow (some 3) (encs all), .loc false (some 3) (enc last), .vec .plain (some 3) (encs ds), .int n] [] =
      some (if all.all (fun t => decide (t.k = 2)) = true then (.exit 2, [.loc true (some 5) (.agg ws5), .loc true (some 3) (.agg ws3), .loc false (some 5) none5, .loc false (some 3) (enc last), .vec .grow (some 3) (encs all), .vec .plain (some 3) (encs ds), .int n], [])
        else (.ret, [.loc false (some 5) none5, .loc false (some 3) (enc T0), .int 5], [])) := by
  refine all_loop' (L := fun i => W.loop 11 13 [.loc true (some 5) (.agg ws5), .loc true (some 3) (.agg ws3), .loc false (some 5) none5, .int i, .vec .grow (some 3) (encs all), .loc false (some 3) (enc last), .vec .plain (some 3) (encs ds), .int n] [])
    (fun i hi => ?_) ?_
  · have hlt : decide (((i : Nat) : Int) < all.length) = true := by simp; omega
    have h0 : decide ((0 : Int) ≤ i) = true := by simp
    have hag : ∀ (K : List V → Option (Ex × List V × St)), onAgg (enc all[i]) K = K [.int all[i].k, .int all[i].h, .vec .plain (some 3) (encs all[i].args)] := fun K => by rw [enc_eta]; rfl
    show W.loop _ _ _ _ = _
    rw [L]
    conv => lhs; rw [enc_eta last]
    rw [e_rgenL2]
    simp only [encs_length, hlt, h0, bc_true, gd_true, Bool.and_self, getI_encs hi, hag]
    rw [show AM.partOf [V.int all[i].k, V.int all[i].h, V.vec .plain (some 3) (encs all[i].args)] 0 none = .int all[i].k from rfl, onInt_int, bne_int, wrap_id ⟨by omega, by omega⟩, ← enc_eta]
    cases decide (all[i].k = 2) <;> rfl
  · have hlt : decide (((all.length : Nat) : Int) < all.length) = false := by simp
    show W.loop _ _ _ _ = _
    rw [L]
    conv => lhs; rw [enc_eta last]
    rw [e_rgenL2]
    simp only [encs_length, hlt, bc_false, ← enc_eta]

theorem rgenL3_spec (all ds : List T) (last t : T) (hN : ds.length ≤ 1048576) :
    W.loop 11 21 [.int 0, .loc false (some 3) (enc t), .loc true (some 5) (.agg ws5), .loc true (some 3) (.agg ws3), .loc false (some 3) (enc last), .vec .grow (some 3) (encs all), .vec .plain (some 3) (encs ds)] [] =
      some (.exit 4, [.loc true (some 5) (.agg ws5), .loc true (some 3) (.agg ws3), .loc false (some 3) (enc (lamN ds.length t)), .loc false (some 3) (enc last), .vec .grow (some 3) (encs all)], []) := by
  have hl := count_loop (n := ds.length) (L := fun j => W.loop 11 21 [.int (j : Nat), .loc false (some 3) (enc (lamN j t)), .loc true (some 5) (.agg ws5), .loc true (some 3) (.agg ws3), .loc false (some 3) (enc last), .vec .grow (some 3) (encs all), .vec .plain (some 3) (encs ds)] [])
    (r := some (.exit 4, [.loc true (some 5) (.agg ws5), .loc true (some 3) (.agg ws3), .loc false (some 3) (enc (lamN ds.length t)), .loc false (some 3) (enc last), .vec .grow (some 3) (encs all)], []))
    (fun j hj => by
      have hlt : decide (((j : Nat) : Int) < ds.length) = true := by simp; omega
      show W.loop _ _ _ _ = _
      rw [L]
      conv => lhs; rw [enc_eta (lamN j t), enc_eta last]
      rw [e_rgenL3, encs_length, hlt, bc_true, wrap_id ⟨by omega, by omega⟩, ← enc_eta, ← enc_eta, lamN_succ]
      rfl)
    (by
      have hlt : decide (((ds.length : Nat) : Int) < ds.length) = false := by simp
      show W.loop _ _ _ _ = _
      rw [L]
      conv => lhs; rw [enc_eta (lamN ds.length t), enc_eta last]
      rw [e_rgenL3, encs_length, hlt, bc_false, ← enc_eta, ← enc_eta])
  exact hl

theorem any_not_all (l : List T) (p : T → Bool) : l.any (fun t => !p t) = !l.all p := by
  induction l with
  | nil => rfl
  | cons x l ih => simp only [List.any_cons, List.all_cons, ih]; cases p x <;> simp

theorem rgeneral_spec (ctx : List T) (a : T) (n : Int) (hc : sizes ctx + a.size ≤ 1048576) : Ev 11 [.vec .plain (some 3) (encs ctx), enc a, .int n] (encG (general ctx a n)) := by
  have hlen := length_le_sizes ctx
  have hsz := split_size a.size a (Nat.le_refl _)
  have hlen2 := length_le_sizes (split a).1
  have hsp := (rsplit_spec a (by omega)).p (by simp [belowL]) (by simp [below, belowL])
  have hw : IntKind.i64.wrap ((ctx.length : Int) + ((split a).1.length : Int)) = ((ctx.length + (split a).1.length : Nat) : Int) := by rw [wrap_id ⟨by omega, by omega⟩]; omega
  have h5 : ∀ (K : List V → Int → Int → List V → Bool → Option (Out × St)), onStruct (R := Out × St) [CT.slice (some 3), CT.int, CT.int, CT.slice (some 3), CT.bool] none5 K = K [] 0 0 [] false := fun K => rfl
  unfold Ev
  rw [C]
  conv => lhs; rw [enc_eta a]
  rw [e_rgeneral, ← enc_eta, (rmay_spec a (by omega)).p, obind_some', onBool_bool, rgenL1_spec ctx a (may a) n (by omega), obind_some', onEx_exit]
  simp only [show Nat.beq 0 0 = true from rfl, bc_true, onCons_cons, onLoc_loc, cond_false, h5, onInt_int, onVec_plain, onBool_bool, onStruct_enc, onNil_nil, ← enc_eta]
  rw [hsp, obind_some', onTup_tup, onCons_cons, onVec_plain, onCons_cons, onStruct_enc, onNil_nil]
  simp only [encs_length, hw]
  have hor : (!may a || ctx.any fun t => !may t) = !(may a && ctx.all may) := by rw [any_not_all]; cases may a <;> rfl
  have hbel : ∀ e : Int, (below 0 (V.tup [V.agg [V.vec .plain (some 3) [], V.int 0, V.int 0, V.vec .plain (some 3) [], V.bool false], V.agg [V.int 0, V.int 0, V.vec .plain (some 3) []], V.int e]) && belowSt 0 []) = true := fun e => rfl
  have hgen : general ctx a n = if (!(may a && ctx.all may) || (decide (n < 0) || decide (40 < ctx.length + (split a).1.length))) = true then ([], T0, T0, 1)
      else if (!(ctx ++ (split a).1).all (fun t => decide (t.k = 2)) || !decide ((split a).2.k = 2)) = true then ([], T0, T0, 5)
      else (ctx ++ (split a).1, (split a).2, lamN (split a).1.length (.mk 6 n (vars (ctx.length + (split a).1.length))), 0) := by
    unfold general
    rw [← Bool.or_assoc, hor, any_not_all (ctx ++ (split a).1) fun t => decide (t.k = 2)]
  rw [hgen]
  cases hm : (may a && ctx.all may) with
  | false => rfl
  | true =>
    simp only [Bool.not_true, bc_false, Bool.false_or]
    by_cases hn : n < 0
    · simp only [hn, decide_true, Bool.true_or, if_true]; rfl
    · have hn' : decide (n < 0) = false := by simp; omega
      simp only [hn', bc_false, Bool.false_or]
      by_cases h40 : 40 < ctx.length + (split a).1.length
      · have h1 : decide (((ctx.length + (split a).1.length : Nat) : Int) > 40) = true := by simp; omega
        simp only [h1, h40, decide_true, if_true]; rfl
      · have h1 : decide (((ctx.length + (split a).1.length : Nat) : Int) > 40) = false := by simp; omega
        have hr1 : (true && roomFor Try.prog 24 (0 + ctx.length)) = true := by rw [room24 (by omega)]; rfl
        have hr2 : (true && roomFor Try.prog 24 (([] ++ encs ctx).length + (split a).1.length)) = true := by rw [room24 (by simp; omega)]; rfl
        simp only [h1, h40, decide_false, bc_false, Bool.false_eq_true, if_false]
        rw [hr1, gd_true, hr2, gd_true, List.nil_append, ← encs_append, ← enc_eta, rgenL2_spec (ctx ++ (split a).1) (split a).1 (split a).2 n (by simp; omega), obind_some']
        cases hall : (ctx ++ (split a).1).all (fun t => decide (t.k = 2)) with
        | false => rfl
        | true =>
          simp only [if_true, onEx_exit, show Nat.beq 2 2 = true from rfl, bc_true, onCons_cons, onLoc_loc, cond_false, h5, onStruct_enc, onRoom_grow, onVec_plain, onInt_int, onNil_nil, bne_int, Bool.not_true, Bool.false_or]
          by_cases hl2 : (split a).2.k = 2
          · simp only [hl2, decide_true, Bool.not_true, bc_false, Bool.false_eq_true, if_false]
            rw [encs_length, (rsubst_spec (ctx ++ (split a).1).length (by simp; omega)).p (by simp [belowL, below]) (by simp [below, belowL]), obind_some']
            have hst : ∀ (m : Nat) (K : List V → Int → Option (Out × St)), onStruct (R := Out × St) [CT.slice (some 3), CT.int] (.agg [.vec .plain (some 3) (encs (vars m)), .int m]) K = K (encs (vars m)) m := fun m K => rfl
            rw [hst]
            have hL3 := rgenL3_spec (ctx ++ (split a).1) (split a).1 (split a).2 (.mk 6 n (vars (ctx ++ (split a).1).length)) (by omega)
            rw [show enc (T.mk 6 n (vars (ctx ++ (split a).1).length)) = .agg [.int 6, .int n, .vec .plain (some 3) (encs (vars (ctx ++ (split a).1).length))] from rfl] at hL3
            conv at hL3 => lhs; rw [enc_eta (split a).2, hl2]
            rw [hL3, obind_some', onEx_exit]
            simp only [show Nat.beq 4 4 = true from rfl, bc_true, onCons_cons, onLoc_loc, cond_false, onStruct_enc, onRoom_grow, onNil_nil, ← enc_eta, below, belowL, below_encs, below_enc, belowSt, Bool.and_self, gd_true]
            simp only [encG, encD, List.length_append]
          · simp only [hl2, decide_false, Bool.not_false, bc_true, if_true]; rfl
end Go.Proofs.G16

namespace Go.Proofs.G16
open Go Go.AM

theorem sh24 : shOf Try.prog 24 = some 3 := by kernel_rfl
theorem cells3 : Try.prog.cellsOf 3 = 1 := by kernel_rfl
theorem cells22 : Try.prog.cellsOf 22 = 1 := by kernel_rfl
theorem cells24 : Try.prog.cellsOf 24 = 3 := by kernel_rfl

theorem dec_int {n : Nat} {cs : List V} (h : WT Try.prog n 3 cs) : ∃ z : Int, cs = [.int z] ∧ I64 z := by
  cases n with
  | zero => exact h.elim
  | succ n =>
    simp only [WT, Try.underlying3] at h
    obtain ⟨z, h1, h2⟩ := h
    refine ⟨z, h1, ?_⟩
    simpa [Lit.wf, IntKind.min, IntKind.max, IntKind.signed, IntKind.bits, I64] using h2

theorem dec_terms : ∀ n : Nat, (∀ cs, WT Try.prog n 24 cs → ∃ t, V.agg cs = enc t) ∧ (∀ cs, WT Try.prog n 22 cs → ∃ ts, cs = [.vec .plain (some 3) (encs ts)]) := by
  intro n
  induction n with
  | zero => exact ⟨fun cs h => h.elim, fun cs h => h.elim⟩
  | succ n ih =>
    refine ⟨fun cs h => ?_, fun cs h => ?_⟩
    · simp only [WT, Try.underlying24] at h
      obtain ⟨hl, hf⟩ := h
      rw [cells24] at hl
      match cs, hl with
      | [x, y, z], _ =>
        have f1 := hf { name := "Kind", type := 3, offset := 0, embedded := false, tag := "", pkgPath := "", byteOffset := 0 } (by simp)
        have f2 := hf { name := "Head", type := 3, offset := 1, embedded := false, tag := "", pkgPath := "", byteOffset := 8 } (by simp)
        have f3 := hf { name := "Args", type := 22, offset := 2, embedded := false, tag := "", pkgPath := "", byteOffset := 16 } (by simp)
        simp only [cells3, cells22, List.drop_zero, List.drop_succ_cons, List.take_succ_cons, List.take_zero] at f1 f2 f3
        obtain ⟨k, hk, _⟩ := dec_int f1
        obtain ⟨h, hh, _⟩ := dec_int f2
        obtain ⟨ts, hts⟩ := ih.2 _ f3
        cases hk; cases hh; cases hts
        exact ⟨.mk k h ts, rfl⟩
    · simp only [WT, Try.underlying22] at h
      obtain ⟨es, rfl, _, he⟩ := h
      rw [sh24] at he ⊢
      have : ∀ es : List V, (∀ v ∈ es, Shaped (some 3) v ∧ WT Try.prog n 24 (AM.cellsOf v)) → ∃ ts, es = encs ts := by
        intro es
        induction es with
        | nil => intro _; exact ⟨[], rfl⟩
        | cons v es ihe =>
          intro h
          obtain ⟨h1, h2⟩ := h v (by simp)
          obtain ⟨ts, hts⟩ := ihe fun u hu => h u (by simp [hu])
          cases v with
          | agg cs =>
            obtain ⟨t, ht⟩ := ih.1 cs h2
            exact ⟨t :: ts, by rw [encs_cons, ← ht, hts]⟩
          | _ => exact h1.elim
      obtain ⟨ts, rfl⟩ := this es he
      exact ⟨ts, rfl⟩

theorem dec_term {v : V} (h : (∃ n, WT Try.prog n 24 (AM.cellsOf v)) ∧ Shaped (shOf Try.prog 24) v) : ∃ t, v = enc t := by
  obtain ⟨⟨n, h1⟩, h2⟩ := h
  rw [sh24] at h2
  cases v with
  | agg cs => exact (dec_terms n).1 cs h1
  | _ => exact h2.elim
theorem sh22 : shOf Try.prog 22 = none := by kernel_rfl
theorem sh3 : shOf Try.prog 3 = none := by kernel_rfl
theorem dec_list {v : V} (h : (∃ n, WT Try.prog n 22 (AM.cellsOf v)) ∧ Shaped (shOf Try.prog 22) v) : ∃ ts, v = .vec .plain (some 3) (encs ts) := by
  obtain ⟨⟨n, h1⟩, h2⟩ := h
  rw [sh22] at h2
  obtain ⟨ts, hts⟩ := (dec_terms n).2 _ h1
  cases v with
  | agg cs => exact h2.elim
  | _ => simp only [AM.cellsOf, List.cons.injEq, and_true] at hts; exact ⟨ts, hts⟩
theorem dec_num {v : V} (h : (∃ n, WT Try.prog n 3 (AM.cellsOf v)) ∧ Shaped (shOf Try.prog 3) v) : ∃ z, v = .int z := by
  obtain ⟨⟨n, h1⟩, h2⟩ := h
  rw [sh3] at h2
  obtain ⟨z, hz, _⟩ := dec_int h1
  cases v with
  | agg cs => exact h2.elim
  | _ => simp only [AM.cellsOf, List.cons.injEq, and_true] at hz; exact ⟨z, hz⟩

/-! ### sizes of answers -/
theorem lamN_size : ∀ (n : Nat) (t : T), (lamN n t).size = n + t.size
  | 0, t => by simp [lamN]
  | n + 1, t => by rw [lamN, lamN_size n]; simp only [T.size, sizes]; omega
theorem sizes_leaves : ∀ l : List T, (∀ t ∈ l, t.args = []) → sizes l = l.length
  | [], _ => rfl
  | t :: l, h => by
    have h1 := h t (by simp)
    have : t.size = 1 := by
      cases t with
      | mk k h' a => simp only [T.args] at h1; subst h1; rfl
    simp only [sizes, List.length_cons, this, sizes_leaves l fun t ht => h t (by simp [ht])]
    omega
theorem sizes_vars (n : Nat) : sizes (vars n) = n := by
  rw [sizes_leaves, vars_length]
  intro t ht
  simp only [vars, List.mem_map] at ht
  obtain ⟨i, _, rfl⟩ := ht
  rfl
theorem general_size (ctx : List T) (a : T) (n : Int) : sizes (general ctx a n).1 ≤ sizes ctx + a.size ∧ (general ctx a n).2.1.size ≤ a.size ∧ (general ctx a n).2.2.1.size ≤ 1 + 2 * (sizes ctx + a.size) := by
  have hsz := split_size a.size a (Nat.le_refl _)
  have h1 := length_le_sizes ctx
  have h2 := length_le_sizes (split a).1
  have hp := size_pos a
  have hp2 := size_pos (split a).2
  have hT : T0.size = 1 := rfl
  unfold general
  split
  · simp only [sizes, hT]; omega
  · split
    · simp only [sizes, hT]; omega
    · simp only [sizes_append, lamN_size, T.size, sizes_vars]; omega

theorem onD {R : Type} (c : List T) (t : T) (K : List V → Int → Int → List V → Bool → Option R) : onStruct (R := R) [CT.slice (some 3), CT.int, CT.int, CT.slice (some 3), CT.bool] (encD c t) K = K (encs c) t.k t.h (encs t.args) false := rfl

theorem awake_spec : Ev 7 [] (.bool true) := by
  have h := (pgeneral_spec [] (.mk 1 0 [.mk 2 0 [], .mk 2 0 []]) 3 (by decide)).p (by simp [belowL, below]) (below_encG _)
  have hg : general [] (.mk 1 0 [.mk 2 0 [], .mk 2 0 []]) 3 = ([.mk 2 0 []], .mk 2 0 [], .mk 3 0 [.mk 6 3 [.mk 4 0 []]], 0) := by rfl
  rw [hg] at h
  unfold Ev
  rw [C, e_awake]
  have h' : pcall W 10 [V.vec AM.Mode.plain (some 3) [], V.agg [V.int 1, V.int 0, V.vec AM.Mode.plain (some 3) [V.agg [V.int 2, V.int 0, V.vec AM.Mode.plain (some 3) []], V.agg [V.int 2, V.int 0, V.vec AM.Mode.plain (some 3) []]]], V.int 3] = _ := h
  rw [h']
  rfl

/-- THE STAGE'S THEOREM, on the abstract machine. -/
theorem tells_spec (ctx : List T) (a : T) (n : Int) (hs : sizes ctx + a.size ≤ 262144) : Ev 3 [.vec .plain (some 3) (encs ctx), enc a, .int n] (.bool true) := by
  obtain ⟨g1, g2, g3⟩ := general_size ctx a n
  have h10 := (pgeneral_spec ctx a n (by omega)).p (by simp [belowL, below]) (below_encG _)
  have h11 := (rgeneral_spec ctx a n (by omega)).p (by simp [belowL, below]) (below_encG _)
  unfold Ev
  rw [C]
  conv => lhs; rw [enc_eta a]
  rw [e_tells, ← enc_eta, awake_spec.p, obind_some', onBool_bool, (lights_spec ctx 500 80 (by omega)).p (by simp [belowL, below]), obind_some', onBool_bool, (light_spec a 500 80 (by omega)).p (by simp [belowL, below]), obind_some', onBool_bool]
  simp only [Bool.not_true, bc_false]
  cases lights 500 80 ctx with
  | false => rfl
  | true =>
    cases light 500 80 a with
    | false => rfl
    | true =>
      simp only [Bool.not_true, bc_false]
      rw [h10, obind_some']
      generalize general ctx a n = g at *
      obtain ⟨c, t, u, e⟩ := g
      simp only [encG, onTup_tup, onCons_cons, onD, onStruct_enc, onInt_int, onNil_nil]
      rw [h11, obind_some']
      simp only [encG, onTup_tup, onCons_cons, onD, onStruct_enc, onInt_int, onNil_nil]
      rw [(rlist_spec c c (by simpa using Nat.le_trans g1 (by omega)) (by simpa using Nat.le_trans g1 (by omega))).p (by simp [belowL, below]), obind_some', onBool_bool]
      simp only [← enc_eta]
      rw [(rsame_spec t t (Nat.le_trans g2 (by omega)) (Nat.le_trans g2 (by omega))).p, obind_some', onBool_bool, (rsame_spec u u (Nat.le_trans g3 (by omega)) (Nat.le_trans g3 (by omega))).p, obind_some', onBool_bool]
      simp only [sames_self, same_self, bc_true, beq_self_eq_true]

theorem tells_pure : ∀ us, WArgs Try.prog [22, 24, 3] us → bulkL us ≤ 1048576 → ∃ m st, (fuelO Try.prog cfg (fun _ => none) m).call 3 us [] = some (.ret (.bool true), st) := by
  intro us h hb
  match us, h with
  | [u1, u2, u3], h =>
    obtain ⟨a1, a2, b1, b2, c1, c2, _⟩ := h
    obtain ⟨ctx, rfl⟩ := dec_list ⟨a1, a2⟩
    obtain ⟨a, rfl⟩ := dec_term ⟨b1, b2⟩
    obtain ⟨n, rfl⟩ := dec_num ⟨c1, c2⟩
    simp only [bulkL, bulkV] at hb
    have h1 := bulk_encs ctx
    have h2 := bulk_enc a
    obtain ⟨m, hm⟩ := om_fuel (tells_spec ctx a n (by omega))
    exact ⟨m, [], hm⟩
end Go.Proofs.G16
