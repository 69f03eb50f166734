import Derived.Test.YthaiojkjodhgpaaGb
/- The program's functions, each an equation of the abstract machine checked by the kernel, and what they come to as plain Lean. -/
set_option linter.unusedVariables false
set_option linter.unusedSimpArgs false
set_option linter.unusedSectionVars false
/-! A text behind another one. -/
namespace Go.Proofs.LP
open Go Go.AM Go.Ama

def sameD (x : D × D) : Bool := x.1.t.same x.2.t && decide (x.1.name = x.2.name)
def sameDs (a b : List D) : Bool := decide (a.length = b.length) && (a.zip b).all sameD

theorem sameDs_spec (a b : List D) (ha : ∀ d ∈ a, d.t.size ≤ 1048576) (hb : ∀ d ∈ b, d.t.size ≤ 1048576) (hl : a.length ≤ 1048576) : Ev 23 [.vec .plain (some 4) (encDs a), .vec .plain (some 4) (encDs b)] (.bool (sameDs a b)) := by
  unfold Ev sameDs
  rw [C, e_ref14_Same]
  by_cases c3 : a.length = b.length
  · have hlp := all_loop' (L := fun i => W.loop 23 4 [V.int i, V.vec .plain (some 4) (encDs b), V.vec .plain (some 4) (encDs a)] []) (xs := a.zip b) (g := sameD) (e0 := (Ex.exit 0, [], [])) (e1 := (Ex.ret, [V.bool false], []))
      (fun i hi => by
        have hi1 : i < a.length := by simp at hi; omega
        have hi2 : i < b.length := by omega
        have hp := (rsame_spec a[i].t b[i].t (ha _ (List.getElem_mem hi1)) (hb _ (List.getElem_mem hi2))).p
        have h0 : decide ((0 : Int) ≤ (i : Nat)) = true := by simp
        have h1 : decide (((i : Nat) : Int) < (a.length : Int)) = true := by simp; omega
        have h2 : decide (((i : Nat) : Int) < (b.length : Int)) = true := by simp; omega
        rw [enc_eta a[i].t, enc_eta b[i].t] at hp
        show W.loop _ _ _ _ = _
        rw [L, e_ref14_Same_L4]
        simp only [encDs_length, h0, h1, h2, getI_encDs hi1, getI_encDs hi2, bc_true, Bool.and_self, gd_true, onDecl4, onDecl1, hp, obind_some', onBool_bool, ba_eq, List.getElem_zip, sameD]
        rw [wrap_id ⟨by omega, by omega⟩]
        cases a[i].t.same b[i].t with
        | false => rfl
        | true =>
          by_cases hn : a[i].name = b[i].name
          · simp [hn, bc]
          · simp [hn, bc])
      (by show W.loop _ _ _ _ = _; rw [L, e_ref14_Same_L4]; simp [bc, c3])
    simp only [c3, encDs_length, bne_self_eq_false, hlp, bc, decide_true, Bool.true_and]
    cases (a.zip b).all sameD <;> simp [obind, onEx, onCons, onBool, onNil, bc]
  · have c4 : ((a.length : Int) != (b.length : Int)) = true := by simp; omega
    simp only [encDs_length, c4, c3]
    simp [bc]

theorem same_refl : ∀ t : T, t.same t = true := by
  intro t
  induction t using T.ind with
  | _ k h xs ih =>
    have : ∀ l : List T, (∀ x ∈ l, x.same x = true) → sames l l = true := by
      intro l
      induction l with
      | nil => intro _; rfl
      | cons x l ihl => intro hh; simp only [sames, hh x (by simp), ihl fun y hy => hh y (by simp [hy]), Bool.and_self]
    simp [T.same, this xs ih]
theorem sameDs_refl (a : List D) : sameDs a a = true := by
  unfold sameDs
  simp only [decide_true, Bool.true_and]
  induction a with
  | nil => rfl
  | cons d a ih => simp [sameD, same_refl, ih]

theorem roomB {n : Nat} (h : n ≤ 10485760) : roomFor Try.prog 5 n = true := room_byte h

theorem parseBegins_ev (a b : Bytes) (ha : a.length ≤ 1048576) (hb : b.length ≤ 1048576) : Ev 9 [.vec .plain none (encB a), .vec .plain none (encB b)] (.bool true) := by
  unfold Ev
  rw [C, e_law14_ParseBegins, awake14.p, obind_some', onBool_bool, Bool.not_true, bc_false, encB_length, encB_length]
  by_cases h5 : a.length > 5000
  · rw [bc_dec_t (by omega)]
  by_cases h6 : b.length > 5000
  · rw [bc_dec_f (by omega), bc_dec_t (by omega)]
  have hcat : [] ++ encB a ++ [V.ik IntKind.u8 10] ++ encB b = encB (a ++ 10 :: b) := by
    rw [List.nil_append, encB_append, List.append_assoc]; rfl
  have hlen : (a ++ 10 :: b).length ≤ 1048576 := by simp; omega
  rw [bc_dec_f (by omega), bc_dec_f (by omega), Decls_p a ha, obind_some', onTup_tup, onCons_cons, onVec_plain, onCons_cons, onInt_int, onNil_nil,
    roomB (by omega), roomB (by simp; omega), roomB (by simp; omega), Bool.and_self, gd_true, gd_true, gd_true, hcat, Decls_p _ hlen, obind_some', onTup_tup, onCons_cons, onVec_plain, onCons_cons, onInt_int, onNil_nil, bne_int, bne_int]
  by_cases e1 : (declsOf a).2 = 0
  · by_cases e2 : (declsOf (a ++ 10 :: b)).2 = 0
    · have hp := declsOf_begins a b e1 e2 (by omega)
      have hle := hp.length_le
      have hsz : ∀ d ∈ (declsOf a).1, d.t.size ≤ 1048576 := fun d hd => by have := ((declsOf_ok a (declsOf_small a)).1 d hd).2.2.2; omega
      have htk : (declsOf (a ++ 10 :: b)).1.take (declsOf a).1.length = (declsOf a).1 := List.prefix_iff_eq_take.1 hp |>.symm
      have hs := (sameDs_spec (declsOf a).1 (declsOf a).1 hsz hsz (by have := declsOf_count a; omega)).p (by simp [belowL, below, below_encDs])
      have hlt : decide (((encDs (declsOf (a ++ 10 :: b)).1).length : Int) < ((encDs (declsOf a).1).length : Int)) = false := by simp; omega
      have h0 : decide ((0 : Int) ≤ ((encDs (declsOf a).1).length : Int)) = true := by simp
      have h1 : decide (((encDs (declsOf a).1).length : Int) ≤ ((encDs (declsOf (a ++ 10 :: b)).1).length : Int)) = true := by simp; omega
      rw [hlt, h0, h1, Int.toNat_natCast, List.drop_zero, encDs_take, encDs_length, htk, hs, sameDs_refl]
      simp [e1, e2, bc, gd, obind, onBool]
    · simp [e1, e2, bc]
  · simp [e1, bc]

theorem parseBegins_pure : ∀ us, WArgs Try.prog [22, 22] us → bulkL us ≤ 1048576 → ∃ m st, (fuelO Try.prog cfg (fun _ => none) m).call 9 us [] = some (.ret (.bool true), st) := by
  intro us h hb
  match us, h with
  | [u, v], ⟨h1, h2, h3, h4, _⟩ =>
    obtain ⟨a, rfl⟩ := dec_bytes ⟨h1, h2⟩
    obtain ⟨b, rfl⟩ := dec_bytes ⟨h3, h4⟩
    simp only [bulkL, bulkV, bulk_encB] at hb
    exact of_ev (parseBegins_ev a b (by omega) (by omega))
end Go.Proofs.LP

/-! A term over more declarations: the law. -/
namespace Go.Proofs.LP
open Go Go.AM Go.Ama

def natSig : List D := [⟨[110, 97, 116], .mk 0 0 []⟩, ⟨[122], .mk 2 0 []⟩, ⟨[115], .mk 1 0 [.mk 2 0 [], .mk 2 0 []]⟩]
theorem nat_p : pcall W 31 [] = some (.vec .plain (some 4) (encDs natSig)) := by
  have : Ev 31 [] (.vec .plain (some 4) (encDs natSig)) := by unfold Ev; rw [C, e_law10_Nat]; rfl
  exact this.p rfl rfl
theorem rDecls_p (b : Bytes) (hb : b.length ≤ 1048576) : pcall W 32 [.vec .plain none (encB b)] = some (.tup [.vec .plain (some 4) (encDs (declsOf b).1), .int (declsOf b).2]) :=
  (rDecls_spec b hb).p (by simp [belowL, below, below_encB]) (by simp [belowL, below, below_encDs])

theorem parseMore_ev (b : Bytes) (d : D) (hb : b.length ≤ 1048576) (hd : d.t.size ≤ 1048576) : Ev 14 [.vec .plain none (encB b), encD d] (.bool true) := by
  unfold Ev
  rw [C, encD, e_law14_ParseMore, awake14.p]
  by_cases h1 : (3000 : Int) < b.length
  · simp [h1]
  by_cases h2 : (100 : Int) < d.name.length
  · simp [h1, h2, ba_size]
  have hs := (psize_spec d.t hd).p
  rw [enc_eta] at hs
  by_cases h3 : (1000 : Int) < d.t.size
  · simp [h1, h2, h3, ba_size, hs]
  have t1 := Term_p b natSig hb (by decide)
  have t2 := Term_p b (natSig ++ [d]) hb (by simp [natSig])
  rw [encDs_append, show encDs [d] = [encD d] from rfl, encD] at t2
  have r1 : roomFor Try.prog 46 natSig.length = true := room_decl (by decide)
  have r2 : roomFor Try.prog 46 (natSig.length + 1) = true := room_decl (by decide)
  have hsz : ∀ d ∈ (declsOf b).1, d.t.size ≤ 1048576 := by
    intro d hd
    by_cases he : (declsOf b).2 = 0
    · have := ((declsOf_ok b (declsOf_small b)).1 d hd).2.2.2; omega
    · rw [declsOf_err b he] at hd; cases hd
  have hsame := (sameDs_spec (declsOf b).1 (declsOf b).1 hsz hsz (by have := declsOf_count b; omega)).p (by simp [belowL, below, below_encDs])
  rw [sameDs_refl] at hsame
  by_cases he : (termOf b natSig).2 = 0
  · have hm := termOf_more [d] (by omega) he
    have hz := termOf_size (b := b) (sig := natSig) (by omega)
    have S := (psame_spec (termOf b natSig).1 (termOf b natSig).1 (by omega) (by omega)).p
    rw [hm] at t2
    rw [enc_eta, same_refl] at S
    simp [h1, h2, h3, ba_size, hs, nat_p, t1, t2, r1, r2, Decls_p b hb, rDecls_p b hb, hsame, he, S]
  · simp [h1, h2, h3, ba_size, hs, nat_p, t1, t2, r1, r2, Decls_p b hb, rDecls_p b hb, hsame, he]

theorem parseMore_pure : ∀ us, WArgs Try.prog [22, 46] us → bulkL us ≤ 1048576 → ∃ m st, (fuelO Try.prog cfg (fun _ => none) m).call 14 us [] = some (.ret (.bool true), st) := by
  intro us h hb
  match us, h with
  | [u, v], ⟨h1, h2, h3, h4, _⟩ =>
    obtain ⟨a, rfl⟩ := dec_bytes ⟨h1, h2⟩
    obtain ⟨d, rfl⟩ := dec_decl ⟨h3, h4⟩
    have hd := bulk_enc d.t
    rw [enc_eta] at hd
    simp only [bulkL, bulkV, bulk_encB, encD] at hb hd
    exact of_ev (parseMore_ev a d (by omega) (by omega))
end Go.Proofs.LP
