import Derived.Test.YtjbenafmpeebpaaGA
import Derived.KernelRfl
import Derived.Test.YtjbenafmpeebpaaGD
/- General at two numbers. -/
set_option linter.unusedVariables false
set_option linter.unusedSimpArgs false
set_option linter.unusedSectionVars false
namespace Go.Proofs.G16
open Go Go.AM
set_option maxRecDepth 20000

theorem e_no (O : Oracle) (k h n m : Int) (xs ys : List V) : callBody Try.prog cfg O 6 [.vec .plain (some 3) xs, .agg [.int k, .int h, .vec .plain (some 3) ys], .int n, .int m] [] =
    obind (pcall O 7 []) fun r1 =>
     onBool r1 fun b2 =>
      obind (pcall O 8 [V.vec AM.Mode.plain (some 3) xs, V.int 500, V.int 80]) fun r3 =>
       onBool r3 fun b4 =>
        obind (pcall O 9 [V.agg [V.int k, V.int h, V.vec AM.Mode.plain (some 3) ys], V.int 500, V.int 80]) fun r5 =>
         onBool r5 fun b6 =>
          bc (!b2) (some (Out.ret (V.bool b2), []))
           (bc (!b4) (some (Out.ret (V.bool b2), []))
            (bc (!b6) (some (Out.ret (V.bool b2), []))
             (bc (decide (n < 0)) (some (Out.ret (V.bool b2), []))
              (bc (decide (m < 0)) (some (Out.ret (V.bool b2), []))
               (obind
                (pcall O 10
                 [V.vec AM.Mode.plain (some 3) xs, V.agg [V.int k, V.int h, V.vec AM.Mode.plain (some 3) ys], V.int n])
                fun r7 =>
                onTup r7 fun c8 =>
                 onCons c8 fun v9 c10 =>
                  onStruct [CT.slice (some 3), CT.int, CT.int, CT.slice (some 3), CT.bool] v9 fun l11 n12 n13 l14 b15 =>
                   onCons c10 fun v16 c17 =>
                    onStruct [CT.int, CT.int, CT.slice (some 3)] v16 fun n18 n19 l20 =>
                     onCons c17 fun v21 c22 =>
                      onInt v21 fun n23 =>
                       onNil c22
                        (obind
                         (pcall O 10
                          [V.vec AM.Mode.plain (some 3) xs, V.agg [V.int k, V.int h, V.vec AM.Mode.plain (some 3) ys],
                           V.int m])
                         fun r24 =>
                         onTup r24 fun c25 =>
                          onCons c25 fun v26 c27 =>
                           onStruct [CT.slice (some 3), CT.int, CT.int, CT.slice (some 3), CT.bool] v26
                            fun l28 n29 n30 l31 b32 =>
                            onCons c27 fun v33 c34 =>
                             onStruct [CT.int, CT.int, CT.slice (some 3)] v33 fun n35 n36 l37 =>
                              onCons c34 fun v38 c39 =>
                               onInt v38 fun n40 =>
                                onNil c39
                                 (obind (pcall O 12 [V.vec AM.Mode.plain (some 3) l11, V.vec AM.Mode.plain (some 3) l28])
                                  fun r41 =>
                                  onBool r41 fun b42 =>
                                   bc b42
                                    (obind
                                     (pcall O 16
                                      [V.agg [V.int n12, V.int n13, V.vec AM.Mode.plain (some 3) l14],
                                       V.agg [V.int n29, V.int n30, V.vec AM.Mode.plain (some 3) l31]])
                                     fun r43 =>
                                     onBool r43 fun b44 =>
                                      bc b44
                                       (bc (n23 == n40)
                                        (obind
                                         (pcall O 16
                                          [V.agg [V.int n18, V.int n19, V.vec AM.Mode.plain (some 3) l20],
                                           V.agg [V.int n35, V.int n36, V.vec AM.Mode.plain (some 3) l37]])
                                         fun r45 =>
                                         onBool r45 fun b46 =>
                                          bc (n == m)
                                           (bc (b46 == true)
                                            (obind
                                             (pcall O 17 [V.agg [V.int n18, V.int n19, V.vec AM.Mode.plain (some 3) l20]])
                                             fun r47 =>
                                             onInt r47 fun n48 =>
                                              obind
                                               (pcall O 17 [V.agg [V.int n35, V.int n36, V.vec AM.Mode.plain (some 3) l37]])
                                               fun r49 => onInt r49 fun n50 => some (Out.ret (V.bool (n48 == n50)), []))
                                            (some (Out.ret (V.bool false), [])))
                                           (bc (b46 == (n23 != 0))
                                            (obind
                                             (pcall O 17 [V.agg [V.int n18, V.int n19, V.vec AM.Mode.plain (some 3) l20]])
                                             fun r51 =>
                                             onInt r51 fun n52 =>
                                              obind
                                               (pcall O 17 [V.agg [V.int n35, V.int n36, V.vec AM.Mode.plain (some 3) l37]])
                                               fun r53 => onInt r53 fun n54 => some (Out.ret (V.bool (n52 == n54)), []))
                                            (some (Out.ret (V.bool false), []))))
                                        (some (Out.ret (V.bool false), [])))
                                       (some (Out.ret (V.bool false), [])))
                                    (some (Out.ret (V.bool false), []))))))))) := by kernel_rfl

end Go.Proofs.G16

namespace Go.Proofs.G16
open Go Go.AM

theorem lamN_same : ∀ (d : Nat) (t u : T), (lamN d t).same (lamN d u) = t.same u
  | 0, t, u => rfl
  | d + 1, t, u => by
    rw [lamN, lamN, lamN_same d]
    simp [T.same, sames]

theorem no_law (ctx : List T) (a : T) (n m : Int) (hn : ¬ n < 0) (hm : ¬ m < 0) :
    ∃ c t u u' e, general ctx a n = (c, t, u, e) ∧ general ctx a m = (c, t, u', e) ∧ u.size = u'.size ∧ u.same u' = (decide (n = m) || decide (e ≠ 0)) := by
  have hn' : decide (n < 0) = false := by simp [hn]
  have hm' : decide (m < 0) = false := by simp [hm]
  unfold general
  rw [hn', hm']
  split
  · exact ⟨_, _, _, _, _, rfl, rfl, rfl, by simp⟩
  · split
    · exact ⟨_, _, _, _, _, rfl, rfl, rfl, by simp⟩
    · refine ⟨_, _, _, _, _, rfl, rfl, ?_, ?_⟩
      · simp only [lamN_size, T.size]
      · rw [lamN_same]
        simp [T.same]

theorem no_spec (ctx : List T) (a : T) (n m : Int) (hs : sizes ctx + a.size ≤ 262144) : Ev 6 [.vec .plain (some 3) (encs ctx), enc a, .int n, .int m] (.bool true) := by
  have h1 := (pgeneral_spec ctx a n (by omega)).p (by simp [belowL, below]) (below_encG _)
  have h2 := (pgeneral_spec ctx a m (by omega)).p (by simp [belowL, below]) (below_encG _)
  have g1 := general_size ctx a n
  have g2 := general_size ctx a m
  unfold Ev
  rw [C]
  conv => lhs; rw [enc_eta a]
  rw [e_no, ← enc_eta, awake_spec.p, obind_some', onBool_bool, (lights_spec ctx 500 80 (by omega)).p (by simp [belowL, below]), obind_some', onBool_bool, (light_spec a 500 80 (by omega)).p (by simp [belowL, below]), obind_some', onBool_bool]
  rw [Bool.not_true, bc_false]
  cases lights 500 80 ctx with
  | false => rfl
  | true =>
    cases light 500 80 a with
    | false => rfl
    | true =>
      rw [Bool.not_true, bc_false, bc_false]
      by_cases hn : n < 0
      · rw [decide_eq_true hn]; rfl
      · by_cases hm : m < 0
        · rw [decide_eq_true hm, decide_eq_false hn]; rfl
        · rw [decide_eq_false hn, decide_eq_false hm, bc_false, bc_false, h1, h2, obind_some']
          obtain ⟨c, t, u, u', e, e1, e2, hsz, hsm⟩ := no_law ctx a n m hn hm
          rw [e1] at g1 ⊢
          rw [e2] at g2 ⊢
          simp only at g1 g2
          simp only [encG, onTup_tup, onCons_cons, onD, onStruct_enc, onInt_int, onNil_nil, obind_some']
          rw [(rlist_spec c c (by omega) (by omega)).p (by simp [belowL, below]), obind_some', onBool_bool, sames_self, bc_true, ← enc_eta, ← enc_eta, ← enc_eta,
            (psame_spec t t (by omega) (by omega)).p, obind_some', onBool_bool, same_self, bc_true, beq_self_eq_true, bc_true,
            (psame_spec u u' (by omega) (by omega)).p, obind_some', onBool_bool, (psize_spec u (by omega)).p, (psize_spec u' (by omega)).p, hsm, hsz]
          simp only [obind_some', onInt_int, beq_self_eq_true]
          by_cases hnm : n = m
          · subst hnm
            rw [beq_self_eq_true, decide_eq_true rfl, Bool.true_or]
            rfl
          · rw [show (n == m) = false by simpa using hnm, decide_eq_false hnm, Bool.false_or]
            rw [show (decide (e ≠ 0)) = (e != 0) by by_cases he : e = 0 <;> simp [he], beq_self_eq_true]
            rfl

theorem no_pure : ∀ us, WArgs Try.prog [22, 24, 3, 3] us → bulkL us ≤ 1048576 → ∃ m st, (fuelO Try.prog cfg (fun _ => none) m).call 6 us [] = some (.ret (.bool true), st) := by
  intro us h hb
  match us, h with
  | [u1, u2, u3, u4], h =>
    obtain ⟨a1, a2, b1, b2, c1, c2, d1, d2, _⟩ := h
    obtain ⟨ctx, rfl⟩ := dec_list ⟨a1, a2⟩
    obtain ⟨a, rfl⟩ := dec_term ⟨b1, b2⟩
    obtain ⟨n, rfl⟩ := dec_num ⟨c1, c2⟩
    obtain ⟨m', rfl⟩ := dec_num ⟨d1, d2⟩
    simp only [bulkL, bulkV] at hb
    have h1 := bulk_encs ctx
    have h2 := bulk_enc a
    obtain ⟨m, hm⟩ := om_fuel (no_spec ctx a n m' (by omega))
    exact ⟨m, [], hm⟩
end Go.Proofs.G16
