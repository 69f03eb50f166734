import Derived.Test.YtjbenafmpeebpaaGA
import Derived.Test.YtjbenafmpeebpaaAMd
/- The functions of terms, as plain Lean functions. -/
set_option linter.unusedVariables false
set_option linter.unusedSimpArgs false
set_option linter.unusedSectionVars false
/-! What the functions come to: terms. -/
namespace Go.Proofs.G16
open Go Go.AM

theorem extLim : ExtLim (fun _ => none) := fun f x h => by cases h
theorem extOK : ExtOK Try.prog cfg (fun _ => none) := fun f x h => by cases h
/-- All that the program's functions say. -/
noncomputable abbrev W : Oracle := Om Try.prog cfg (fun _ => none)
theorem C (f : Nat) (args : List V) (st : St) : W.call f args st = callBody Try.prog cfg W f args st := om_call extLim f args st
theorem L (f key : Nat) (vals : List V) (st : St) : W.loop f key vals st = loopBody Try.prog cfg W f key vals st := om_loop extLim f key vals st
theorem Rd (l f key : Nat) (vals args : List V) (st : St) : W.round l f key vals args st = roundBody Try.prog cfg W l f key vals args st := om_round extLim l f key vals args st

/-- A function of nothing but its arguments. -/
def Ev (f : Nat) (args : List V) (v : V) : Prop := W.call f args [] = some (.ret v, [])
theorem Ev.p {f : Nat} {args : List V} {v : V} (h : Ev f args v) (h1 : belowL 0 args = true := by simp [belowL, below]) (h2 : below 0 v = true := by simp [below, belowL]) : pcall W f args = some v := pcall_of h h1 h2

theorem onStruct_enc {R : Type} (t : T) (K : Int → Int → List V → Option R) : onStruct (R := R) [CT.int, CT.int, CT.slice (some 3)] (enc t) K = K t.k t.h (encs t.args) := by cases t; rfl

def low : T → Bool
  | .mk _ h xs => decide (h ≤ 1099511627776) && lows xs
where lows : List T → Bool
  | [] => true
  | t :: ts => low t && lows ts
theorem lows_all : ∀ ts, low.lows ts = ts.all low
  | [] => rfl
  | t :: ts => by simp [low.lows, lows_all ts]

theorem low_spec : ∀ t : T, t.size ≤ 1048576 → Ev 18 [enc t] (.bool (low t)) := by
  intro t
  induction t using T.ind with
  | _ k h xs ih =>
    intro hs
    simp only [T.size] at hs
    have hlen := length_le_sizes xs
    unfold Ev
    rw [C, enc, e_low]
    by_cases hh : h > 1099511627776
    · have : ¬ h ≤ 1099511627776 := by omega
      simp [bc, low, hh, this]
    · have hle : h ≤ 1099511627776 := by omega
      have hl := all_loop (L := fun i => W.loop 18 4 [V.int i, V.loc false (some 3) (V.agg [V.int k, V.int h, V.vec .plain (some 3) (encs xs)])] []) (xs := xs) (g := low) (e0 := (Ex.exit 0, [], [])) (e1 := (Ex.ret, [V.bool false], []))
        (fun i hi => by
          have hp := (ih xs[i] (List.getElem_mem hi) (by have := size_le (List.getElem_mem hi); omega)).p
          show W.loop _ _ _ _ = _
          rw [L, e_lowL]
          simp only [encs_length, getI_encs hi, onStruct_enc, ← enc_eta, hp]
          rw [wrap_id ⟨by omega, by omega⟩]
          cases low xs[i] <;> simp [bc, gd, obind, onBool, hi])
        (by show W.loop _ _ _ _ = _; rw [L, e_lowL]; simp [bc]) 0 (by omega)
      simp only [List.drop_zero, Int.ofNat_zero, Int.natCast_zero] at hl
      simp only [hl, hh, low, lows_all, hle]
      cases xs.all low <;> rfl
end Go.Proofs.G16

namespace Go.Proofs.G16
open Go Go.AM

theorem size_spec : ∀ t : T, t.size ≤ 1048576 → Ev 19 [enc t] (.int t.size) := by
  intro t
  induction t using T.ind with
  | _ k h xs ih =>
    intro hs
    simp only [T.size] at hs
    have hlen := length_le_sizes xs
    unfold Ev
    rw [C, enc, e_size]
    have hl := count_loop (n := xs.length) (L := fun i => W.loop 19 3 [V.int (i : Nat), V.loc false (some 3) (V.agg [V.int k, V.int h, V.vec .plain (some 3) (encs xs)]), V.int ((1 + sizes (xs.take i) : Nat) : Int)] []) (r := some (Ex.exit 0, [V.int ((1 + sizes xs : Nat) : Int)], []))
      (fun i hi => by
        have hp := (ih xs[i] (List.getElem_mem hi) (by have := size_le (List.getElem_mem hi); omega)).p
        have h1 := sizes_take hi
        have h2 := sizes_take_le xs (i + 1)
        show W.loop _ _ _ _ = _
        rw [L, e_sizeL]
        simp only [encs_length, getI_encs hi, onStruct_enc, ← enc_eta, hp, obind, onInt]
        rw [wrap_id ⟨by omega, by omega⟩, wrap_id ⟨by omega, by omega⟩]
        rw [h1]
        simp [bc, gd, hi, Int.add_assoc])
      (by show W.loop _ _ _ _ = _; rw [L, e_sizeL]; simp [bc])
    simp only [List.take_zero, sizes] at hl
    have hl' : W.loop 19 3 [V.int 0, V.loc false (some 3) (V.agg [V.int k, V.int h, V.vec .plain (some 3) (encs xs)]), V.int 1] [] = some (Ex.exit 0, [V.int ((1 + sizes xs : Nat) : Int)], []) := hl
    simp only [hl', T.size]
    rfl

theorem depth_spec : ∀ t : T, t.size ≤ 1048576 → Ev 20 [enc t] (.int t.depth) := by
  intro t
  induction t using T.ind with
  | _ k h xs ih =>
    intro hs
    simp only [T.size] at hs
    have hlen := length_le_sizes xs
    unfold Ev
    rw [C, enc, e_depth]
    have hl := count_loop (n := xs.length) (L := fun i => W.loop 20 3 [V.int (i : Nat), V.int (depths (xs.take i) : Nat), V.loc false (some 3) (V.agg [V.int k, V.int h, V.vec .plain (some 3) (encs xs)])] []) (r := some (Ex.exit 0, [V.int (depths xs : Nat)], []))
      (fun i hi => by
        have hp := (ih xs[i] (List.getElem_mem hi) (by have := size_le (List.getElem_mem hi); omega)).p
        have h1 := depths_take hi
        show W.loop _ _ _ _ = _
        rw [L, e_depthL]
        simp only [encs_length, getI_encs hi, onStruct_enc, ← enc_eta, hp, obind, onInt]
        rw [wrap_id ⟨by omega, by omega⟩]
        rw [h1]
        by_cases hc : depths (xs.take i) < xs[i].depth
        · have : max (depths (xs.take i)) xs[i].depth = xs[i].depth := by omega
          rw [this]
          simp [bc, gd, hi, hc]
        · have : max (depths (xs.take i)) xs[i].depth = depths (xs.take i) := by omega
          rw [this]
          simp [bc, gd, hi, hc])
      (by show W.loop _ _ _ _ = _; rw [L, e_depthL]; simp [bc])
    have hl' : W.loop 20 3 [V.int 0, V.int 0, V.loc false (some 3) (V.agg [V.int k, V.int h, V.vec .plain (some 3) (encs xs)])] [] = some (Ex.exit 0, [V.int (depths xs : Nat)], []) := hl
    have hd := depths_le_sizes xs
    simp only [hl', T.depth, obind, onEx, onCons, onInt, onNil, bc]
    rw [wrap_id ⟨by omega, by omega⟩]
    rfl

/-- Is a term light? -/
def light (n m : Int) (t : T) : Bool := low t && (decide ((t.size : Int) ≤ n) && decide ((t.depth : Int) ≤ m))
theorem light_spec (t : T) (n m : Int) (hs : t.size ≤ 1048576) : Ev 9 [enc t, .int n, .int m] (.bool (light n m t)) := by
  unfold Ev
  rw [C, enc_eta, e_light, ← enc_eta, (low_spec t hs).p, (size_spec t hs).p, (depth_spec t hs).p]
  simp only [obind, onBool, onInt, light]
  cases low t <;> simp [bc]
  by_cases h : (t.size : Int) ≤ n <;> simp [h]

def lights (n m : Int) (l : List T) : Bool := decide (l.length ≤ 60) && l.all (light n m)
theorem lights_spec (l : List T) (n m : Int) (hs : sizes l ≤ 1048576) : Ev 8 [.vec .plain (some 3) (encs l), .int n, .int m] (.bool (lights n m l)) := by
  unfold Ev
  have hlen := length_le_sizes l
  rw [C, e_lights]
  by_cases hc : l.length ≤ 60
  · have h1 : ¬ (60 < l.length) := by omega
    have hl := all_loop' (L := fun i => W.loop 8 4 [V.int i, V.int m, V.int n, V.vec .plain (some 3) (encs l)] []) (xs := l) (g := light n m) (e0 := (Ex.exit 0, [], [])) (e1 := (Ex.ret, [V.bool false], []))
      (fun i hi => by
        have hp := (light_spec l[i] n m (by have := size_le (List.getElem_mem hi); omega)).p
        show W.loop _ _ _ _ = _
        rw [L, e_lightsL]
        simp only [encs_length, getI_encs hi, onStruct_enc, ← enc_eta, hp]
        rw [wrap_id ⟨by omega, by omega⟩]
        cases light n m l[i] <;> simp [bc, gd, obind, onBool, hi])
      (by show W.loop _ _ _ _ = _; rw [L, e_lightsL]; simp [bc])
    simp only [encs_length, hl, lights, hc]
    have : decide ((l.length : Int) > 60) = false := by simp; omega
    rw [this]
    cases l.all (light n m) <;> rfl
  · have : decide ((l.length : Int) > 60) = true := by simp; omega
    simp only [encs_length, this, lights, hc]
    rfl

theorem rsame_spec : ∀ a b : T, a.size ≤ 1048576 → b.size ≤ 1048576 → Ev 13 [enc a, enc b] (.bool (a.same b)) := by
  intro a
  induction a using T.ind with
  | _ k h xs ih =>
    intro b hs hs'
    obtain ⟨k2, h2, ys⟩ := b
    simp only [T.size] at hs hs'
    have hlen := length_le_sizes xs
    unfold Ev
    rw [C, enc, enc, e_rsame]
    simp only [T.same]
    by_cases c1 : k = k2
    · by_cases c2 : h = h2
      · by_cases c3 : xs.length = ys.length
        · have hl := all_loop' (L := fun i => W.loop 13 4 [V.int i, V.loc false (some 3) (V.agg [V.int k2, V.int h2, V.vec .plain (some 3) (encs ys)]), V.loc false (some 3) (V.agg [V.int k, V.int h, V.vec .plain (some 3) (encs xs)])] []) (xs := xs.zip ys) (g := fun x => x.1.same x.2) (e0 := (Ex.exit 0, [], [])) (e1 := (Ex.ret, [V.bool false], []))
            (fun i hi => by
              have hi1 : i < xs.length := by simp at hi; omega
              have hi2 : i < ys.length := by omega
              have hp := (ih xs[i] (List.getElem_mem hi1) ys[i] (by have := size_le (List.getElem_mem hi1); omega) (by have := size_le (List.getElem_mem hi2); omega)).p
              show W.loop _ _ _ _ = _
              rw [L, e_rsameL]
              simp only [encs_length, getI_encs hi1, getI_encs hi2, onStruct_enc, ← enc_eta, hp, List.getElem_zip]
              rw [wrap_id ⟨by omega, by omega⟩]
              cases xs[i].same ys[i] <;> simp [bc, gd, obind, onBool, hi1, hi2])
            (by show W.loop _ _ _ _ = _; rw [L, e_rsameL]; simp [bc, c3])
          simp only [c1, c2, c3, encs_length, sames_zip c3, bne_self_eq_false, hl, bc]
          rw [c1, c2] at hl
          simp only [hl]
          cases (xs.zip ys).all (fun x => x.1.same x.2) <;> simp [obind, onEx, onCons, onBool, onNil, bc]
        · have c4 : ((xs.length : Int) != (ys.length : Int)) = true := by simp; omega
          simp only [c1, c2, sames_len c3, encs_length, c4, bne_self_eq_false]
          simp [bc]
      · have c4 : (h != h2) = true := by simp [c2]
        simp only [c1, c4, c2, bne_self_eq_false]
        simp [bc]
    · have c4 : (k != k2) = true := by simp [c1]
      simp only [c4, c1]
      simp [bc]

theorem psame_spec : ∀ a b : T, a.size ≤ 1048576 → b.size ≤ 1048576 → Ev 16 [enc a, enc b] (.bool (a.same b)) := by
  intro a
  induction a using T.ind with
  | _ k h xs ih =>
    intro b hs hs'
    obtain ⟨k2, h2, ys⟩ := b
    simp only [T.size] at hs hs'
    have hlen := length_le_sizes xs
    unfold Ev
    rw [C, enc, enc, e_psame]
    simp only [T.same]
    by_cases c1 : k = k2
    · by_cases c2 : h = h2
      · by_cases c3 : xs.length = ys.length
        · have hl := all_loop' (L := fun i => W.loop 16 4 [V.int i, V.loc false (some 3) (V.agg [V.int k2, V.int h2, V.vec .plain (some 3) (encs ys)]), V.vec .plain (some 3) (encs xs), V.int xs.length] []) (xs := xs.zip ys) (g := fun x => x.1.same x.2) (e0 := (Ex.exit 0, [], [])) (e1 := (Ex.ret, [V.bool false], []))
            (fun i hi => by
              have hi1 : i < xs.length := by simp at hi; omega
              have hi2 : i < ys.length := by omega
              have hp := (ih xs[i] (List.getElem_mem hi1) ys[i] (by have := size_le (List.getElem_mem hi1); omega) (by have := size_le (List.getElem_mem hi2); omega)).p
              show W.loop _ _ _ _ = _
              rw [L, e_psameL]
              simp only [encs_length, getI_encs hi1, getI_encs hi2, onStruct_enc, ← enc_eta, hp, List.getElem_zip]
              rw [wrap_id ⟨by omega, by omega⟩]
              cases xs[i].same ys[i] <;> simp [bc, gd, obind, onBool, hi1, hi2])
            (by show W.loop _ _ _ _ = _; rw [L, e_psameL]; simp [bc, c3])
          simp only [c1, c2, c3, encs_length, sames_zip c3, bne_self_eq_false, hl, bc]
          rw [c3] at hl
          simp only [hl]
          cases (xs.zip ys).all (fun x => x.1.same x.2) <;> simp [obind, onEx, onCons, onBool, onNil, bc]
        · have c4 : ((xs.length : Int) != (ys.length : Int)) = true := by simp; omega
          simp only [c1, c2, sames_len c3, encs_length, c4, bne_self_eq_false]
          simp [bc]
      · have c4 : (h != h2) = true := by simp [c2]
        simp only [c1, c4, c2, bne_self_eq_false]
        simp [bc]
    · have c4 : (k != k2) = true := by simp [c1]
      simp only [c4, c1]
      simp [bc]

theorem rlist_spec (xs ys : List T) (hs : sizes xs ≤ 1048576) (hs' : sizes ys ≤ 1048576) : Ev 12 [.vec .plain (some 3) (encs xs), .vec .plain (some 3) (encs ys)] (.bool (sames xs ys)) := by
  have hlen := length_le_sizes xs
  unfold Ev
  rw [C, e_rlist]
  by_cases c3 : xs.length = ys.length
  · have hl := all_loop' (L := fun i => W.loop 12 4 [V.int i, V.vec .plain (some 3) (encs ys), V.vec .plain (some 3) (encs xs)] []) (xs := xs.zip ys) (g := fun x => x.1.same x.2) (e0 := (Ex.exit 0, [], [])) (e1 := (Ex.ret, [V.bool false], []))
      (fun i hi => by
        have hi1 : i < xs.length := by simp at hi; omega
        have hi2 : i < ys.length := by omega
        have hp := (rsame_spec xs[i] ys[i] (by have := size_le (List.getElem_mem hi1); omega) (by have := size_le (List.getElem_mem hi2); omega)).p
        show W.loop _ _ _ _ = _
        rw [L, e_rlistL]
        simp only [encs_length, getI_encs hi1, getI_encs hi2, onStruct_enc, ← enc_eta, hp, List.getElem_zip]
        rw [wrap_id ⟨by omega, by omega⟩]
        cases xs[i].same ys[i] <;> simp [bc, gd, obind, onBool, hi1, hi2])
      (by show W.loop _ _ _ _ = _; rw [L, e_rlistL]; simp [bc, c3])
    simp only [c3, encs_length, sames_zip c3, bne_self_eq_false, hl, bc]
    cases (xs.zip ys).all (fun x => x.1.same x.2) <;> simp [obind, onEx, onCons, onBool, onNil, bc]
  · have c4 : ((xs.length : Int) != (ys.length : Int)) = true := by simp; omega
    simp only [sames_len c3, encs_length, c4]
    simp [bc]

/-! ### may -/
/-- May a node be? -/
def may1 (k h : Int) (n : Nat) : Bool :=
  if k = 0 then decide (h = 0) && decide (n = 0) else if k = 1 then decide (h = 0) && decide (n = 2) else if k = 3 then decide (h = 0) && decide (n = 1) else decide (0 ≤ k) && (decide (k < 7) && decide (0 ≤ h))
mutual
def nodesB : T → Bool
  | .mk k h l => may1 k h l.length && nodess l
def nodess : List T → Bool
  | [] => true
  | t :: l => nodesB t && nodess l
end
theorem nodess_all : ∀ l, nodess l = l.all nodesB
  | [] => rfl
  | t :: l => by simp [nodess, nodess_all l]
def may (t : T) : Bool := nodesB t && (decide (t.size ≤ 4000) && decide (t.depth ≤ 60))

theorem rnodes_spec : ∀ t : T, t.size ≤ 1048576 → Ev 36 [enc t] (.bool (nodesB t)) := by
  intro t
  induction t using T.ind with
  | _ k h xs ih =>
    intro hs
    simp only [T.size] at hs
    have hlen := length_le_sizes xs
    unfold Ev
    have hl := all_loop' (L := fun i => W.loop 36 19 [V.int i, V.loc false (some 3) (V.agg [V.int k, V.int h, V.vec .plain (some 3) (encs xs)])] []) (xs := xs) (g := nodesB) (e0 := (Ex.exit 1, [], [])) (e1 := (Ex.ret, [V.bool false], []))
      (fun i hi => by
        have hp := (ih xs[i] (List.getElem_mem hi) (by have := size_le (List.getElem_mem hi); omega)).p
        show W.loop _ _ _ _ = _
        rw [L, e_rnodesL]
        simp only [encs_length, getI_encs hi, onStruct_enc, ← enc_eta, hp]
        rw [wrap_id ⟨by omega, by omega⟩]
        cases nodesB xs[i] <;> simp [bc, gd, obind, onBool, hi])
      (by show W.loop _ _ _ _ = _; rw [L, e_rnodesL]; simp [bc])
    rw [C, enc, e_rnodes]
    simp only [hl, encs_length, nodesB, may1, nodess_all]
    have fin : ∀ b : Bool, (obind (some (if b = true then ((Ex.exit 1, [], []) : Ex × List V × St) else (Ex.ret, [V.bool false], []))) fun r1 =>
        onEx r1.fst none (onCons r1.snd.fst fun v2 c3 => onBool v2 fun b4 => onNil c3 (some (Out.ret (V.bool b4), [])))
          (fun i5 => bc (i5.beq 1) (onNil r1.snd.fst (some (Out.ret (V.bool true), []))) none) fun v6 => none) = some (Out.ret (V.bool b), ([] : St)) := by
      intro b; cases b <;> rfl
    simp only [fin, bne_len0, bne_len1, bne_len2]
    simp only [bne_int, beq_int]
    by_cases k0 : k = 0
    · subst k0
      simp only [decide_true, bc, if_true]
      cases decide (h = 0) <;> cases decide (xs.length = 0) <;> rfl
    by_cases k1 : k = 1
    · subst k1
      simp only [show (1 : Int) ≠ 0 by decide, if_false, decide_false, decide_true, bc, if_true]
      cases decide (h = 0) <;> cases decide (xs.length = 2) <;> rfl
    by_cases k3 : k = 3
    · subst k3
      simp only [show (3 : Int) ≠ 0 by decide, show (3 : Int) ≠ 1 by decide, if_false, decide_false, decide_true, bc, if_true]
      cases decide (h = 0) <;> cases decide (xs.length = 1) <;> rfl
    have hh : decide (0 ≤ h) = !decide (h < 0) := by by_cases c : h < 0 <;> simp [c] <;> omega
    simp only [k0, k1, k3, if_false, hh, decide_false]
    by_cases k2 : k = 2
    · subst k2; cases decide (h < 0) <;> rfl
    by_cases k4 : k = 4
    · subst k4; cases decide (h < 0) <;> rfl
    by_cases k5 : k = 5
    · subst k5; cases decide (h < 0) <;> rfl
    by_cases k6 : k = 6
    · subst k6; cases decide (h < 0) <;> rfl
    have : (decide (0 ≤ k) && (decide (k < 7) && !decide (h < 0))) = false := by
      by_cases a : 0 ≤ k <;> by_cases b : k < 7 <;> simp [a, b] <;> omega
    simp only [k2, k4, k5, k6, decide_false, bc, this, Bool.false_and]

theorem rmay_spec (t : T) (hs : t.size ≤ 1048576) : Ev 26 [enc t] (.bool (may t)) := by
  unfold Ev
  rw [C, enc_eta, e_rmay, ← enc_eta, (rnodes_spec t hs).p, (size_spec t hs).p, (depth_spec t hs).p]
  simp only [obind, onBool, onInt, may]
  cases nodesB t <;> simp [bc]
  by_cases h : t.size ≤ 4000
  · have : decide ((t.size : Int) ≤ 4000) = true := by simp; omega
    rw [this]; simp [h]; omega
  · have : decide ((t.size : Int) ≤ 4000) = false := by simp; omega
    rw [this]; simp [h]
end Go.Proofs.G16

namespace Go.Proofs.G16
open Go Go.AM

theorem bytes24 : ((Try.prog.info? 24).map (·.bytes)).getD 0 = 40 := by kernel_rfl
theorem room24 {n : Nat} (h : n ≤ 2097152) : roomFor Try.prog 24 n = true := by
  unfold roomFor
  rw [bytes24]
  simp only [Bool.and_eq_true, decide_eq_true_eq]
  omega

theorem pdepth_spec : ∀ t : T, t.size ≤ 1048576 → Ev 29 [enc t] (.int t.depth) := by
  intro t
  induction t using T.ind with
  | _ k h xs ih =>
    intro hs
    simp only [T.size] at hs
    have hlen := length_le_sizes xs
    unfold Ev
    rw [C, enc, e_pdepth]
    have hl := count_loop (n := xs.length) (L := fun i => W.loop 29 3 [V.int (i : Nat), V.int (depths (xs.take i) : Nat), V.vec .plain (some 3) (encs xs), V.int xs.length] []) (r := some (Ex.exit 0, [V.int (depths xs : Nat)], []))
      (fun i hi => by
        have hp := (ih xs[i] (List.getElem_mem hi) (by have := size_le (List.getElem_mem hi); omega)).p
        have h1 := depths_take hi
        show W.loop _ _ _ _ = _
        rw [L, e_pdepthL]
        simp only [encs_length, getI_encs hi, onStruct_enc, ← enc_eta, hp, obind, onInt]
        rw [wrap_id ⟨by omega, by omega⟩]
        rw [h1]
        by_cases hc : depths (xs.take i) < xs[i].depth
        · have : max (depths (xs.take i)) xs[i].depth = xs[i].depth := by omega
          rw [this]
          simp [bc, gd, hi, hc]
        · have : max (depths (xs.take i)) xs[i].depth = depths (xs.take i) := by omega
          rw [this]
          simp [bc, gd, hi, hc])
      (by show W.loop _ _ _ _ = _; rw [L, e_pdepthL]; simp [bc])
    have hl' : W.loop 29 3 [V.int 0, V.int 0, V.vec .plain (some 3) (encs xs), V.int xs.length] [] = some (Ex.exit 0, [V.int (depths xs : Nat)], []) := hl
    have hd := depths_le_sizes xs
    simp only [encs_length, hl', T.depth, obind, onEx, onCons, onInt, onNil, bc]
    rw [wrap_id ⟨by omega, by omega⟩]
    rfl

theorem encs_take_succ {xs : List T} {i : Nat} (hi : i < xs.length) : encs (xs.take (i + 1)) = encs (xs.take i) ++ [enc xs[i]] := by rw [take_succ' hi, encs_append]; rfl

theorem pown_spec : ∀ t : T, t.size ≤ 1048576 → Ev 25 [enc t] (enc t) := by
  intro t
  induction t using T.ind with
  | _ k h xs ih =>
    intro hs
    simp only [T.size] at hs
    have hlen := length_le_sizes xs
    unfold Ev
    rw [C, enc, e_pown]
    have hl := count_loop (n := xs.length) (L := fun i => W.loop 25 3 [V.int (i : Nat), V.vec .grow (some 3) (encs (xs.take i)), V.vec .plain (some 3) (encs xs), V.loc true (some 3) (V.agg [V.int 0, V.int 0, V.vec Mode.full (some 3) []]), V.loc false (some 3) (V.agg [V.int k, V.int h, V.vec .plain (some 3) (encs xs)]), V.int xs.length] [])
      (r := some (Ex.exit 0, [V.loc true (some 3) (V.agg [V.int 0, V.int 0, V.vec Mode.full (some 3) []]), V.vec .grow (some 3) (encs xs), V.loc false (some 3) (V.agg [V.int k, V.int h, V.vec .plain (some 3) (encs xs)])], []))
      (fun i hi => by
        have hp := (ih xs[i] (List.getElem_mem hi) (by have := size_le (List.getElem_mem hi); omega)).p
        have hr : roomFor Try.prog 24 (i + 1) = true := room24 (by omega)
        show W.loop _ _ _ _ = _
        rw [L, e_pownL]
        simp only [encs_length, getI_encs hi, onStruct_enc, ← enc_eta, hp, obind, encs_take_succ hi]
        rw [wrap_id ⟨by omega, by omega⟩]
        have hmin : min i xs.length = i := by omega
        have hlt : decide ((i : Int) < xs.length) = true := by simp; omega
        have h0 : decide ((0 : Int) ≤ i) = true := by simp
        simp only [hlt, h0, bc_true, gd_true, Bool.and_self, onCells_slice', onCells_nil', List.length_singleton, List.length_take, hmin, hr, encs_length, Bool.true_and, Int.natCast_add, Int.natCast_one]
        rfl)
      (by
        have hlt : decide ((xs.length : Int) < xs.length) = false := by simp
        show W.loop _ _ _ _ = _
        rw [L, e_pownL, hlt, List.take_length]; rfl)
    have hl' : W.loop 25 3 [V.int 0, V.vec .grow (some 3) [], V.vec .plain (some 3) (encs xs), V.loc true (some 3) (V.agg [V.int 0, V.int 0, V.vec Mode.full (some 3) []]), V.loc false (some 3) (V.agg [V.int k, V.int h, V.vec .plain (some 3) (encs xs)]), V.int xs.length] [] = some (Ex.exit 0, [V.loc true (some 3) (V.agg [V.int 0, V.int 0, V.vec Mode.full (some 3) []]), V.vec .grow (some 3) (encs xs), V.loc false (some 3) (V.agg [V.int k, V.int h, V.vec .plain (some 3) (encs xs)])], []) := hl
    simp only [encs_length, hl', obind_some', onEx_exit, onCons_cons, onLoc_loc, onRoom_grow, onNil_nil, cond_false, onStruct_agg, onCells_slice', onCells_int', onCells_nil', below, belowL, belowSt, below_encs, Bool.and_self, gd_true]
    rfl
end Go.Proofs.G16

/-! Walks over a term's nodes. -/
namespace Go.Proofs.G16
open Go Go.AM

mutual
/-- All nodes, with how many bind around. -/
def allW (g : Int → T → Bool) (i : Int) : T → Bool
  | .mk k h l => g i (.mk k h l) && allWs g i (decide (k = 1) || decide (k = 3)) l
def allWs (g : Int → T → Bool) (i : Int) (b : Bool) : List T → Bool
  | [] => true
  | [t] => allW g (bif b then i + 1 else i) t
  | t :: u :: l => allW g i t && allWs g i b (u :: l)
end

def iter {σ : Type} (f : σ → σ) : Nat → σ → σ
  | 0, s => s
  | n + 1, s => iter f n (f s)
theorem iter_add {σ : Type} (f : σ → σ) (a b : Nat) (s : σ) : iter f (a + b) s = iter f b (iter f a s) := by
  induction a generalizing s with
  | zero => simp [iter]
  | succ a ih => rw [Nat.succ_add]; exact ih (f s)

theorem binds_spec (t : T) : Ev 40 [enc t] (.bool (decide (t.k = 1) || decide (t.k = 3))) := by
  unfold Ev
  rw [C, enc_eta, e_binds, beq_int, beq_int]
  cases decide (t.k = 1) <;> simp [bc]

section
variable {σ : Type} {x : σ → Res} {nx : σ → σ} {f key : Nat} {vals : List V} {g : Int → T → Bool} {b1 b2 : Res}

theorem walk_spec (hr : ∀ (i : Int) (t : T) (s : σ), W.round 1 f key vals [.int i, enc t] [x s, .loop f key vals .ready none] = some (if g i t = true then (true, [x (nx s), .loop f key vals .ready none]) else (false, [b1, b2]))) :
    ∀ (t : T) (i : Int) (s : σ), 0 ≤ i → i + t.size ≤ 4611686018427387904 → W.call 39 [enc t, .int i, .yld 1] [x s, .loop f key vals .ready none] =
      some (if allW g i t = true then (.ret (.bool true), [x (iter nx t.size s), .loop f key vals .ready none]) else (.ret (.bool false), [b1, b2])) := by
  intro t
  induction t using T.ind with
  | _ k h xs ih =>
    intro i s hi hs
    simp only [T.size] at hs
    have hlen := length_le_sizes xs
    rw [C]
    simp only [enc]
    rw [e_pwalk, onLoop_loop, onPend_ready]
    have hr0 := hr i (.mk k h xs) s
    simp only [enc] at hr0
    rw [hr0]
    cases hg : g i (.mk k h xs) with
    | false =>
      simp only [allW, hg, Bool.false_and, obind_some']
      rfl
    | true =>
      have hl : ∀ (d j : Nat) (s : σ), j + d = xs.length → W.loop 39 4 [V.int (j : Nat), V.yld 1, V.loc false (some 3) (V.agg [V.int k, V.int h, V.vec .plain (some 3) (encs xs)]), V.int i, V.vec .plain (some 3) (encs xs), V.int xs.length] [x s, .loop f key vals .ready none] =
          some (if allWs g i (decide (k = 1) || decide (k = 3)) (xs.drop j) = true then (Ex.exit 0, [], [x (iter nx (sizes (xs.drop j)) s), .loop f key vals .ready none]) else (Ex.ret, [V.bool false], [b1, b2])) := by
        intro d
        induction d with
        | zero =>
          intro j s hj
          have : j = xs.length := by omega
          subst this
          have hlt : decide ((xs.length : Int) < xs.length) = false := by simp
          rw [L, e_pwalkL, hlt, List.drop_length]
          rfl
        | succ d ihd =>
          intro j s hj
          have hjl : j < xs.length := by omega
          have hsz := size_le (List.getElem_mem hjl)
          have hlt : decide ((j : Int) < xs.length) = true := by simp; omega
          have h0 : decide ((0 : Int) ≤ j) = true := by simp
          have hb : pcall W 40 [V.agg [V.int k, V.int h, V.vec .plain (some 3) (encs xs)]] = some (.bool (decide (k = 1) || decide (k = 3))) := (binds_spec (.mk k h xs)).p
          have hne : decide ((j : Int) = IntKind.i64.wrap ((xs.length : Int) - 1)) = decide (j + 1 = xs.length) := by
            rw [wrap_id ⟨by omega, by omega⟩]
            by_cases c : j + 1 = xs.length <;> simp [c] <;> omega
          have step : ∀ i' : Int, 0 ≤ i' → i' + xs[j].size ≤ 4611686018427387904 → allWs g i (decide (k = 1) || decide (k = 3)) (xs.drop j) = (allW g i' xs[j] && allWs g i (decide (k = 1) || decide (k = 3)) (xs.drop (j + 1))) →
              (obind (W.call 39 [enc xs[j], V.int i', V.yld 1] [x s, .loop f key vals .ready none]) fun r6 =>
                onRet r6.fst (fun v7 => onBool v7 fun b8 => bc (!b8) (some (Ex.ret, [V.bool false], r6.snd))
                  (W.loop 39 4 [V.int (IntKind.i64.wrap ((j : Nat) + 1)), V.yld 1, V.loc false (some 3) (V.agg [V.int k, V.int h, V.vec .plain (some 3) (encs xs)]), V.int i, V.vec .plain (some 3) (encs xs), V.int xs.length] r6.snd)) fun p9 => none) =
              some (if allWs g i (decide (k = 1) || decide (k = 3)) (xs.drop j) = true then (Ex.exit 0, [], [x (iter nx (sizes (xs.drop j)) s), .loop f key vals .ready none]) else (Ex.ret, [V.bool false], [b1, b2])) := by
            intro i' hi' hs' he
            rw [ih xs[j] (List.getElem_mem hjl) i' s hi' hs', obind_some', he]
            cases allW g i' xs[j] with
            | false => simp only [Bool.false_and]; rfl
            | true =>
              simp only [if_true, onRet_ret, onBool_bool, Bool.not_true, bc_false, Bool.true_and]
              rw [wrap_id ⟨by omega, by omega⟩]
              have := ihd (j + 1) (iter nx xs[j].size s) (by omega)
              rw [show ((j : Nat) : Int) + 1 = ((j + 1 : Nat) : Int) from rfl, this]
              have : sizes (xs.drop j) = xs[j].size + sizes (xs.drop (j + 1)) := by rw [List.drop_eq_getElem_cons hjl]; rfl
              rw [this, iter_add]
          rw [L, e_pwalkL]
          simp only [encs_length, hlt, h0, bc_true, gd_true, Bool.and_self, getI_encs hjl, onStruct_enc, ← enc_eta, hb, obind_some', onBool_bool, beq_int, hne]
          by_cases hlast : j + 1 = xs.length
          · have hd : xs.drop j = [xs[j]] := by rw [List.drop_eq_getElem_cons hjl, hlast, List.drop_length]
            have hd' : xs.drop (j + 1) = [] := by rw [hlast, List.drop_length]
            simp only [hlast, decide_true, bc_true]
            have hw : IntKind.i64.wrap (i + 1) = i + 1 := wrap_id ⟨by omega, by omega⟩
            cases hbb : (decide (k = 1) || decide (k = 3)) with
            | true =>
              simp only [bc_true, hw]
              have := step (i + 1) (by omega) (by omega) (by rw [hd, hd', hbb]; simp [allWs])
              rw [hbb] at this
              exact this
            | false =>
              simp only [bc_false]
              have := step i hi (by omega) (by rw [hd, hd', hbb]; simp [allWs])
              rw [hbb] at this
              exact this
          · have hd : allWs g i (decide (k = 1) || decide (k = 3)) (xs.drop j) = (allW g i xs[j] && allWs g i (decide (k = 1) || decide (k = 3)) (xs.drop (j + 1))) := by
              have h2 : j + 1 < xs.length := by omega
              rw [List.drop_eq_getElem_cons hjl, List.drop_eq_getElem_cons h2]
              simp only [allWs]
            simp only [hlast, decide_false, bc_false]
            have := step i hi (by omega) hd
            cases hbb : (decide (k = 1) || decide (k = 3)) with
            | true => rw [hbb] at this; exact this
            | false => rw [hbb] at this; exact this
      have h1 := hl xs.length 0 (nx s) (by omega)
      simp only [if_true, obind_some', Bool.not_true, bc_false, encs_length]
      have h1' : W.loop 39 4 [V.int 0, V.yld 1, V.loc false (some 3) (V.agg [V.int k, V.int h, V.vec .plain (some 3) (encs xs)]), V.int i, V.vec .plain (some 3) (encs xs), V.int xs.length] [x (nx s), .loop f key vals .ready none] =
          some (if allWs g i (decide (k = 1) || decide (k = 3)) xs = true then (Ex.exit 0, [], [x (iter nx (sizes xs) (nx s)), .loop f key vals .ready none]) else (Ex.ret, [V.bool false], [b1, b2])) := by
        rw [List.drop_zero] at h1; exact h1
      rw [h1', obind_some']
      have hsz : iter nx (T.mk k h xs).size s = iter nx (sizes xs) (nx s) := by
        simp only [T.size]
        rw [iter_add]
        rfl
      simp only [allW, hg, Bool.true_and, hsz]
      cases allWs g i (decide (k = 1) || decide (k = 3)) xs <;> rfl

/-- All nodes handed on. -/
theorem nodes_spec (hr : ∀ (i : Int) (t : T) (s : σ), W.round 1 f key vals [.int i, enc t] [x s, .loop f key vals .ready none] = some (if g i t = true then (true, [x (nx s), .loop f key vals .ready none]) else (false, [b1, b2])))
    (t : T) (s : σ) (hs : t.size ≤ 1048576) : W.call 38 [.yld 1, .cptr (some 3) (enc t)] [x s, .loop f key vals .ready none] =
      some (.ret (.tup []), if allW g 0 t = true then [x (iter nx t.size s), .loop f key vals .ready none] else [b1, b2]) := by
  have hw := walk_spec hr t 0 s (by omega) (by omega)
  rw [C]
  rw [enc_eta] at hw ⊢
  rw [e_pnodes1, hw, obind_some']
  cases allW g 0 t <;> rfl
end

theorem psize_spec (t : T) (hs : t.size ≤ 1048576) : Ev 17 [enc t] (.int t.size) := by
  unfold Ev
  have hr : ∀ (i : Int) (t : T) (s : Int), W.round 1 17 3 [.ref 0 0] [.int i, enc t] [.box [.int s], .loop 17 3 [.ref 0 0] .ready none] =
      some (if (fun _ _ => true : Int → T → Bool) i t = true then (true, [.box [.int (IntKind.i64.wrap (s + 1))], .loop 17 3 [.ref 0 0] .ready none]) else (false, [.dead, .dead])) := by
    intro i t s
    rw [Rd, enc_eta, e_psizeR]
    rfl
  have hn := nodes_spec (x := fun s : Int => .box [.int s]) (nx := fun s => IntKind.i64.wrap (s + 1)) (g := fun _ _ => true) (b1 := .dead) (b2 := .dead) hr t 0 hs
  have hall : ∀ (t : T) (i : Int), allW (fun _ _ => true) i t = true := by
    intro t
    induction t using T.ind with
    | _ k h xs ih =>
      intro i
      simp only [allW, Bool.true_and]
      generalize (decide (k = 1) || decide (k = 3)) = b
      have : ∀ l : List T, (∀ a ∈ l, ∀ i, allW (fun _ _ => true) i a = true) → allWs (fun _ _ => true) i b l = true := by
        intro l
        induction l with
        | nil => intro _; rfl
        | cons a l ihl =>
          intro h
          cases l with
          | nil => simp only [allWs]; exact h a (by simp) _
          | cons u l => simp only [allWs, h a (by simp), Bool.true_and]; exact ihl fun a ha => h a (by simp [ha])
      exact this xs ih
  have hit : ∀ (n : Nat) (s : Int), 0 ≤ s → s + n ≤ 4611686018427387904 → iter (fun s => IntKind.i64.wrap (s + 1)) n s = s + n := by
    intro n
    induction n with
    | zero => intro s _ _; simp [iter]
    | succ n ih =>
      intro s h0 h1
      simp only [iter]
      rw [wrap_id ⟨by omega, by omega⟩, ih _ (by omega) (by omega)]
      omega
  rw [hall, if_pos rfl] at hn
  rw [hit t.size 0 (by omega) (by omega)] at hn
  rw [C]
  rw [enc_eta] at hn ⊢
  rw [e_psize, C, e_pnodes, obind_some', onRet_ret, onFn_fn]
  have hn' : W.call 38 ([] ++ [V.yld (List.length [Res.box [V.int 0]])] ++ [V.cptr (some 3) (V.agg [V.int t.k, V.int t.h, V.vec .plain (some 3) (encs t.args)])]) ([Res.box [V.int 0]] ++ [Res.loop 17 3 [V.ref 0 0] LSt.ready none]) = _ := hn
  rw [hn', obind_some']
  simp only [Int.zero_add]
  rfl

theorem pmay1_spec (k h : Int) (xs : List V) : Ev 32 [.agg [.int k, .int h, .vec .plain (some 3) xs]] (.bool (may1 k h xs.length)) := by
  unfold Ev
  rw [C, e_pmay1]
  simp only [beq_len0, beq_len1, beq_len2]
  simp only [beq_int, may1]
  by_cases k0 : k = 0
  · subst k0
    simp only [decide_true, bc_true, if_true]
    cases decide (h = 0) <;> rfl
  by_cases k1 : k = 1
  · subst k1
    simp only [show (1 : Int) ≠ 0 by decide, decide_true, decide_false, bc_true, bc_false, if_true, if_false]
    cases decide (h = 0) <;> rfl
  by_cases k3 : k = 3
  · subst k3
    simp only [show (3 : Int) ≠ 0 by decide, show (3 : Int) ≠ 1 by decide, decide_true, decide_false, bc_true, bc_false, if_true, if_false]
    cases decide (h = 0) <;> rfl
  simp only [k0, k1, k3, decide_false, bc_false, if_false, ge_iff_le]
  cases decide (0 ≤ k) <;> cases decide (k < 7) <;> simp [bc]

theorem mayn_spec (i k h : Int) (xs : List T) : Ev 31 [.int i, .agg [.int k, .int h, .vec .plain (some 3) (encs xs)]] (.bool (may1 k h xs.length)) := by
  unfold Ev
  have := (pmay1_spec k h (encs xs)).p (by simp [belowL, below])
  rw [encs_length] at this
  rw [C, e_mayn, this]
  rfl

def mayT (t : T) : Bool := may1 t.k t.h t.args.length
theorem pall_spec (t : T) (hs : t.size ≤ 1048576) : W.call 30 [enc t, .fn 31 [] []] [] = some (.ret (.bool (allW (fun _ t => mayT t) 0 t)), []) := by
  have hr : ∀ (i : Int) (t : T) (s : Unit), W.round 1 30 4 [.ref 0 0, .cptr none (.fn 31 [] [])] [.int i, enc t] [(fun _ => .box [.bool false] : Unit → Res) s, .loop 30 4 [.ref 0 0, .cptr none (.fn 31 [] [])] .ready none] =
      some (if (fun _ t => mayT t : Int → T → Bool) i t = true then (true, [(fun _ => .box [.bool false] : Unit → Res) ((fun s => s) s), .loop 30 4 [.ref 0 0, .cptr none (.fn 31 [] [])] .ready none]) else (false, [.box [.bool false], .loop 30 4 [.ref 0 0, .cptr none (.fn 31 [] [])] .done (some .ret)])) := by
    intro i t s
    have hm := (mayn_spec i t.k t.h t.args).p (by simp [belowL, below])
    rw [Rd, enc_eta, e_pallR, hm, obind_some', onBool_bool]
    show _ = some (if mayT t = true then _ else _)
    unfold mayT
    cases may1 t.k t.h t.args.length <;> rfl
  have hn := nodes_spec (x := fun _ : Unit => .box [.bool false]) (nx := fun s => s) (g := fun _ t => mayT t) hr t () hs
  rw [C]
  rw [enc_eta] at hn
  conv => lhs; rw [enc_eta]
  rw [e_pall, C, e_pnodes, obind_some', onRet_ret, onFn_fn]
  have hn' : W.call 38 ([] ++ [V.yld (List.length [Res.box [V.bool false]])] ++ [V.cptr (some 3) (V.agg [V.int t.k, V.int t.h, V.vec .plain (some 3) (encs t.args)])]) ([Res.box [V.bool false]] ++ [Res.loop 30 4 [V.ref 0 0, V.cptr none (V.fn 31 [] [])] LSt.ready none]) = _ := hn
  rw [hn', obind_some']
  cases allW (fun _ t => mayT t) 0 t <;> rfl
end Go.Proofs.G16

namespace Go.Proofs.G16
open Go Go.AM

theorem allW_may : ∀ (t : T) (i : Int), allW (fun _ t => mayT t) i t = nodesB t := by
  intro t
  induction t using T.ind with
  | _ k h xs ih =>
    intro i
    simp only [allW, nodesB]
    generalize (decide (k = 1) || decide (k = 3)) = b
    have : ∀ l : List T, (∀ a ∈ l, ∀ i, allW (fun _ t => mayT t) i a = nodesB a) → allWs (fun _ t => mayT t) i b l = nodess l := by
      intro l
      induction l with
      | nil => intro _; rfl
      | cons a l ihl =>
        intro h
        cases l with
        | nil => simp only [allWs, nodess, Bool.and_true]; exact h a (by simp) _
        | cons u l => simp only [allWs, h a (by simp)]; rw [ihl fun a ha => h a (by simp [ha])]; simp only [nodess]
    rw [this xs ih]
    rfl

theorem pmay_spec (t : T) (hs : t.size ≤ 1048576) : Ev 14 [enc t] (.bool (may t)) := by
  unfold Ev
  have ha := pall_spec t hs
  rw [allW_may] at ha
  rw [C, enc_eta, e_pmay, ← enc_eta, (pdepth_spec t hs).p, (psize_spec t hs).p, ha]
  simp only [obind_some', onInt_int, onRet_ret, onBool_bool, may]
  have e1 : decide ((t.depth : Int) ≤ 60) = decide (t.depth ≤ 60) := decide_eq_decide.2 (by omega)
  have e2 : decide ((t.size : Int) ≤ 4000) = decide (t.size ≤ 4000) := decide_eq_decide.2 (by omega)
  rw [e1, e2]
  cases decide (t.depth ≤ 60) <;> cases decide (t.size ≤ 4000) <;> simp [bc]

theorem odd_spec (t : T) (hs : t.size ≤ 1048576) : Ev 21 [enc t] (.bool (!may t)) := by
  unfold Ev
  rw [C, enc_eta, e_odd, ← enc_eta, (pmay_spec t hs).p]
  rfl
theorem strange_spec (t : T) : Ev 22 [enc t] (.bool (!decide (t.k = 2))) := by
  unfold Ev
  rw [C, enc_eta, e_strange, bne_int]

/-! ### what a type asks for -/
def splitN : Nat → T → List T × T
  | 0, t => ([], t)
  | n + 1, t => if t.k = 1 then match t.args with | [a, b] => let r := splitN n b; (a :: r.1, r.2) | _ => ([], t) else ([], t)
def split (t : T) : List T × T := splitN t.size t

theorem args_size {t b : T} (h : b ∈ t.args) : b.size < t.size := by
  cases t with
  | mk k h' l => simp only [T.args] at h; simp only [T.size]; have := size_le h; omega

theorem splitN_more : ∀ (n m : Nat) (t : T), t.size ≤ n → t.size ≤ m → splitN n t = splitN m t := by
  intro n
  induction n with
  | zero => intro m t h; have := size_pos t; omega
  | succ n ih =>
    intro m t h h'
    cases m with
    | zero => have := size_pos t; omega
    | succ m =>
      simp only [splitN]
      split
      · split
        · rename_i a b hab
          have := args_size (t := t) (b := b) (by rw [hab]; simp)
          rw [ih m b (by omega) (by omega)]
        · rfl
      · rfl

theorem split_pi {t a b : T} (h : t.k = 1) (ha : t.args = [a, b]) : split t = (a :: (split b).1, (split b).2) := by
  unfold split
  have hb := args_size (t := t) (b := b) (by rw [ha]; simp)
  obtain ⟨n, hn⟩ : ∃ n, t.size = n + 1 := ⟨t.size - 1, by omega⟩
  rw [hn]
  simp only [splitN, h, ha, if_true]
  rw [splitN_more n b.size b (by omega) (Nat.le_refl _)]
theorem split_end {t : T} (h : ¬ (t.k = 1 ∧ t.args.length = 2)) : split t = ([], t) := by
  unfold split
  have := size_pos t
  obtain ⟨n, hn⟩ : ∃ n, t.size = n + 1 := ⟨t.size - 1, by omega⟩
  rw [hn]
  simp only [splitN]
  split
  · rename_i h1
    split
    · rename_i a b hab; exact absurd ⟨h1, by rw [hab]; rfl⟩ h
    · rfl
  · rfl
theorem len2 {l : List T} (h : l.length = 2) : ∃ a b, l = [a, b] := by
  match l, h with
  | [a, b], _ => exact ⟨a, b, rfl⟩

theorem split_size : ∀ (n : Nat) (t : T), t.size ≤ n → sizes (split t).1 + (split t).2.size ≤ t.size := by
  intro n
  induction n with
  | zero => intro t h; have := size_pos t; omega
  | succ n ih =>
    intro t h
    by_cases c : t.k = 1 ∧ t.args.length = 2
    · obtain ⟨a, b, hab⟩ := len2 c.2
      have hb := args_size (t := t) (b := b) (by rw [hab]; simp)
      rw [split_pi c.1 hab]
      have := ih b (by omega)
      have hsz : t.size = 1 + (a.size + (b.size + 0)) := by
        cases t with
        | mk k h' l => simp only [T.args] at hab; subst hab; simp only [T.size, sizes]
      simp only [sizes]
      omega
    · rw [split_end c]; simp [sizes]

theorem rsplitL_spec : ∀ (n : Nat) (t : T) (zs : List T), t.size ≤ n → zs.length + t.size ≤ 1048576 →
    W.loop 27 2 [.loc false (some 3) (enc t), .vec .grow (some 3) (encs zs), .loc true (some 3) (.agg [.int 0, .int 0, .vec .full (some 3) []])] [] =
      some (.exit 0, [.loc true (some 3) (.agg [.int 0, .int 0, .vec .full (some 3) []]), .loc false (some 3) (enc (split t).2), .vec .grow (some 3) (encs (zs ++ (split t).1))], []) := by
  intro n
  induction n with
  | zero => intro t _ h; have := size_pos t; omega
  | succ n ih =>
    intro t zs h hs
    have hp := size_pos t
    rw [L]
    conv => lhs; rw [enc_eta]
    rw [e_rsplitL, encs_length, beq_len2, beq_int]
    by_cases c1 : t.k = 1
    · by_cases c2 : t.args.length = 2
      · obtain ⟨a, b, hab⟩ := len2 c2
        have hb := args_size (t := t) (b := b) (by rw [hab]; simp)
        have hr : roomFor Try.prog 24 (zs.length + 1) = true := room24 (by omega)
        have g0 : getI (encs t.args) 0 = enc a := by rw [hab]; rfl
        have g1 : getI (encs t.args) 1 = enc b := by rw [hab]; rfl
        have := ih b (zs ++ [a]) (by omega) (by simp; omega)
        rw [split_pi c1 hab]
        simp only [c1, c2, decide_true, bc_true, g0, g1, onStruct_enc, ← enc_eta, List.length_singleton, encs_length, hr, Bool.true_and]
        rw [show encs zs ++ [enc a] = encs (zs ++ [a]) by rw [encs_append]; rfl]
        simp only [show decide ((0 : Int) < ((2 : Nat) : Int)) = true from rfl, show decide ((1 : Int) < ((2 : Nat) : Int)) = true from rfl, gd_true]
        rw [show zs ++ a :: (split b).1 = (zs ++ [a]) ++ (split b).1 by simp]
        exact this
      · rw [split_end fun c => c2 c.2]
        simp only [c1, c2, decide_true, decide_false, bc_true, bc_false, List.append_nil, ← enc_eta]
        rw [← c1, ← enc_eta]
    · rw [split_end fun c => c1 c.1]
      simp only [c1, decide_false, bc_false, List.append_nil, ← enc_eta]

theorem rsplit_spec (t : T) (hs : t.size ≤ 1048576) : Ev 27 [enc t] (.tup [.vec .plain (some 3) (encs (split t).1), enc (split t).2]) := by
  unfold Ev
  have h := rsplitL_spec t.size t [] (Nat.le_refl _) (by simp; omega)
  simp only [List.nil_append, encs_nil] at h
  conv at h => lhs; rw [enc_eta]
  rw [C]
  conv => lhs; rw [enc_eta]
  rw [e_rsplit, h, obind_some', onEx_exit]
  simp only [onCons_cons, onLoc_loc, onRoom_grow, onNil_nil, cond_false, onStruct_enc, ← enc_eta, below, belowL, below_encs, below_enc, belowSt, Bool.and_self, gd_true]
  rfl

theorem onCells3 {R : Type} (a b : Int) (l : List V) (K : Int → Int → List V → Option R) : onCells (R := R) [CT.int, CT.int, CT.slice (some 3)] [.int a, .int b, .vec .plain (some 3) l] K = K a b l := rfl

/-- The box of what was gathered. -/
def boxL (zs : List T) : Res := .box [if zs = [] then .vec .full (some 3) [] else .vec .grow (some 3) (encs zs)]
def boxT (t : T) : Res := .box [.int t.k, .int t.h, .vec .plain (some 3) (encs t.args)]

theorem psplitR_spec (zs : List T) (a b u : T) (z : Res) (hs : a.size ≤ 1048576) (hl : zs.length ≤ 1048576) :
    W.round 3 15 6 [.ref 1 0, .ref 0 0] [enc a, enc b] [boxL zs, boxT u, z, .loop 15 6 [.ref 1 0, .ref 0 0] .ready none] = some (true, [boxL (zs ++ [a]), boxT b, z, .loop 15 6 [.ref 1 0, .ref 0 0] .ready none]) := by
  have ho := (pown_spec a hs).p
  have hr : roomFor Try.prog 24 (zs.length + 1) = true := room24 (by omega)
  rw [Rd]
  unfold boxL boxT
  conv => lhs; rw [enc_eta a, enc_eta b]
  rw [enc_eta a] at ho
  by_cases c : zs = []
  · subst c
    rw [if_pos rfl, e_psplitR0 (y := .dead), ho, obind_some']
    simp only [← enc_eta, onStruct_enc, List.nil_append, if_neg (List.cons_ne_nil a []), encs_cons, encs_nil]
  · rw [if_neg c, e_psplitR (y := .dead), ho, obind_some']
    simp only [← enc_eta, onStruct_enc, List.length_singleton, encs_length, hr, Bool.true_and, gd_true]
    rw [if_neg (by simp), encs_append]
    simp only [encs_cons, encs_nil]

theorem ppisL_spec : ∀ (n : Nat) (t : T) (zs : List T) (u : T), t.size ≤ n → zs.length + t.size ≤ 1048576 →
    W.loop 37 0 [.ref 2 0, .yld 3] [boxL zs, boxT u, boxT t, .loop 15 6 [.ref 1 0, .ref 0 0] .ready none] =
      some (.exit 0, [], [boxL (zs ++ (split t).1), boxT (if (split t).1 = [] then u else (split t).2), boxT (split t).2, .loop 15 6 [.ref 1 0, .ref 0 0] .ready none]) := by
  intro n
  induction n with
  | zero => intro t _ _ h; have := size_pos t; omega
  | succ n ih =>
    intro t zs u h hs
    have hp := size_pos t
    rw [L]
    conv => lhs; rw [show boxT t = .box [.int t.k, .int t.h, .vec .plain (some 3) (encs t.args)] from rfl]
    rw [e_ppisIL, encs_length, beq_len2, beq_int]
    by_cases c1 : t.k = 1
    · by_cases c2 : t.args.length = 2
      · obtain ⟨a, b, hab⟩ := len2 c2
        have ha := args_size (t := t) (b := a) (by rw [hab]; simp)
        have hb := args_size (t := t) (b := b) (by rw [hab]; simp)
        have g0 : getI (encs t.args) 0 = enc a := by rw [hab]; rfl
        have g1 : getI (encs t.args) 1 = enc b := by rw [hab]; rfl
        have hrd := psplitR_spec zs a b u (boxT t) (by omega) (by omega)
        have := ih b (zs ++ [a]) b (by omega) (by simp; omega)
        rw [split_pi c1 hab]
        simp only [c1, c2, decide_true, bc_true, g0, g1, onStruct_enc, ← enc_eta, Bool.true_and, show decide ((0 : Int) < ((2 : Nat) : Int)) = true from rfl, show decide ((1 : Int) < ((2 : Nat) : Int)) = true from rfl, gd_true, onLoop_loop, onPend_ready]
        have hbt : boxT t = .box [.int 1, .int t.h, .vec .plain (some 3) (encs t.args)] := by unfold boxT; rw [c1]
        rw [hbt] at hrd
        rw [hrd, obind_some']
        simp only [Bool.not_true, bc_false]
        have hget : ∀ {R : Type} (K : Res → Option R), getR [boxL (zs ++ [a]), boxT b, Res.box [V.int 1, V.int t.h, V.vec .plain (some 3) (encs t.args)], Res.loop 15 6 [V.ref 1 0, V.ref 0 0] LSt.ready none] 2 K = K (Res.box [V.int 1, V.int t.h, V.vec .plain (some 3) (encs t.args)]) := fun K => rfl
        rw [hget, onBox_box]
        have hc : cleanV (AM.partOf [V.int 1, V.int t.h, V.vec .plain (some 3) (encs t.args)] 2 none) = .vec .plain (some 3) (encs t.args) := rfl
        rw [hc, onVec_plain, g1, onStruct_enc, hget, onBox_box]
        have h1l : decide ((1 : Int) < ((encs t.args).length : Int)) = true := by rw [encs_length, c2]; rfl
        rw [h1l]
        simp only [List.length_cons, List.length_nil, Nat.zero_add, Nat.reduceAdd, Nat.le_refl, decide_true, Bool.and_self, gd_true]
        have hset : List.set [boxL (zs ++ [a]), boxT b, Res.box [V.int 1, V.int t.h, V.vec .plain (some 3) (encs t.args)], Res.loop 15 6 [V.ref 1 0, V.ref 0 0] LSt.ready none] 2
            (Res.box (setCells [V.int 1, V.int t.h, V.vec .plain (some 3) (encs t.args)] 0 [V.int b.k, V.int b.h, V.vec .plain (some 3) (encs b.args)])) = [boxL (zs ++ [a]), boxT b, boxT b, .loop 15 6 [.ref 1 0, .ref 0 0] .ready none] := rfl
        rw [hset, this]
        rw [show zs ++ a :: (split b).1 = (zs ++ [a]) ++ (split b).1 by simp]
        simp only [if_neg (List.cons_ne_nil a (split b).1)]
        by_cases c : (split b).1 = []
        · have hsb : (split b).2 = b := by
            by_cases c' : b.k = 1 ∧ b.args.length = 2
            · obtain ⟨a', b', hab'⟩ := len2 c'.2
              rw [split_pi c'.1 hab'] at c; cases c
            · rw [split_end c']
          rw [if_pos c, hsb]
        · rw [if_neg c]
      · rw [split_end fun c => c2 c.2]
        simp only [c1, c2, decide_true, decide_false, bc_true, bc_false, List.append_nil, if_true]
        rw [← c1]
        rfl
    · rw [split_end fun c => c1 c.1]
      simp only [c1, decide_false, bc_false, List.append_nil, if_true]
      rfl

theorem psplit_spec (t : T) (hs : t.size ≤ 1048576) : Ev 15 [enc t] (.tup [.vec .plain (some 3) (encs (split t).1), enc (split t).2]) := by
  unfold Ev
  have h := ppisL_spec t.size t [] t (Nat.le_refl _) (by simp; omega)
  simp only [List.nil_append] at h
  have hlast : (if (split t).1 = [] then t else (split t).2) = (split t).2 := by
    by_cases c' : t.k = 1 ∧ t.args.length = 2
    · obtain ⟨a', b', hab'⟩ := len2 c'.2
      rw [split_pi c'.1 hab', if_neg (List.cons_ne_nil _ _)]
    · rw [split_end c', if_pos rfl]
  rw [hlast] at h
  have hsz := split_size t.size t (Nat.le_refl _)
  have ho := (pown_spec (split t).2 (by omega)).p
  have hc : W.call 37 [.yld 3, .ref 2 0] [boxL [], boxT t, .box [.int t.k, .int t.h, .vec .plain (some 3) (encs t.args)], .loop 15 6 [.ref 1 0, .ref 0 0] .ready none] =
      some (.ret (.tup []), [boxL (split t).1, boxT (split t).2, boxT (split t).2, .loop 15 6 [.ref 1 0, .ref 0 0] .ready none]) := by
    rw [C, e_ppisI]
    have h' : W.loop 37 0 [V.ref 2 0, V.yld 3] [boxL [], boxT t, Res.box [V.int t.k, V.int t.h, V.vec .plain (some 3) (encs t.args)], .loop 15 6 [.ref 1 0, .ref 0 0] .ready none] = _ := h
    rw [h', obind_some', onEx_exit]
    rfl
  rw [C]
  conv => lhs; rw [enc_eta]
  rw [e_psplit, C, e_ppisB, obind_some', onRet_ret, onFn_fn]
  have hc' : W.call 37 ([] ++ [V.yld (List.length [Res.box [V.vec Mode.full (some 3) []], Res.box [V.int t.k, V.int t.h, V.vec .plain (some 3) (encs t.args)], Res.box [V.int t.k, V.int t.h, V.vec .plain (some 3) (encs t.args)]])] ++ [V.ref [Res.box [V.vec Mode.full (some 3) []], Res.box [V.int t.k, V.int t.h, V.vec .plain (some 3) (encs t.args)]].length 0])
      ([Res.box [V.vec Mode.full (some 3) []], Res.box [V.int t.k, V.int t.h, V.vec .plain (some 3) (encs t.args)], Res.box [V.int t.k, V.int t.h, V.vec .plain (some 3) (encs t.args)]] ++ [Res.loop 15 6 [V.ref 1 0, V.ref 0 0] LSt.ready none]) = _ := hc
  rw [hc', obind_some', onRet_ret]
  have hget3 : ∀ {R : Type} (K : Res → Option R), getR [boxL (split t).1, boxT (split t).2, boxT (split t).2, Res.loop 15 6 [V.ref 1 0, V.ref 0 0] LSt.ready none] 3 K = K (Res.loop 15 6 [V.ref 1 0, V.ref 0 0] LSt.ready none) := fun K => rfl
  have hget0 : ∀ {R : Type} (K : Res → Option R), getR (List.set [boxL (split t).1, boxT (split t).2, boxT (split t).2, Res.loop 15 6 [V.ref 1 0, V.ref 0 0] LSt.ready none] 3 Res.dead) 0 K = K (boxL (split t).1) := fun K => rfl
  have hget1 : ∀ {R : Type} (K : Res → Option R), getR (List.set [boxL (split t).1, boxT (split t).2, boxT (split t).2, Res.loop 15 6 [V.ref 1 0, V.ref 0 0] LSt.ready none] 3 Res.dead) 1 K = K (boxT (split t).2) := fun K => rfl
  have h3 : List.length [Res.box [V.vec Mode.full (some 3) []], Res.box [V.int t.k, V.int t.h, V.vec .plain (some 3) (encs t.args)], Res.box [V.int t.k, V.int t.h, V.vec .plain (some 3) (encs t.args)]] = 3 := rfl
  simp only [h3]
  rw [hget3, onLoop_loop, onPend_ready, hget0]
  unfold boxL
  rw [onBox_box]
  have hcl : cleanV (AM.partOf [if (split t).1 = [] then V.vec .full (some 3) [] else V.vec .grow (some 3) (encs (split t).1)] 0 none) = .vec .plain (some 3) (encs (split t).1) := by
    by_cases c : (split t).1 = []
    · rw [c]; rfl
    · rw [if_neg c]; rfl
  rw [hcl, onVec_plain]
  have hget1' := @hget1
  unfold boxL at hget1'
  rw [hget1']
  unfold boxT
  rw [onBox_box]
  have hparts : List.map plain1 (List.take 3 (List.drop 0 [V.int (split t).2.k, V.int (split t).2.h, V.vec .plain (some 3) (encs (split t).2.args)])) = [V.int (split t).2.k, V.int (split t).2.h, V.vec .plain (some 3) (encs (split t).2.args)] := rfl
  rw [hparts, onCells3, ← enc_eta, ho, obind_some', onStruct_enc, ← enc_eta]
  simp only [List.length_cons, List.length_nil, Nat.zero_add, Nat.reduceAdd, Nat.le_refl, decide_true, Bool.and_self, gd_true, below, belowL, below_encs, below_enc, belowSt]
end Go.Proofs.G16

namespace Go.Proofs.G16
open Go Go.AM

def var (i : Nat) : T := .mk 4 i []
/-- The variables of a context of n entries. -/
def vars (n : Nat) : List T := (List.range n).reverse.map var
theorem vars_length (n : Nat) : (vars n).length = n := by simp [vars]
theorem vars_get {n j : Nat} (h : j < (vars n).length) : (vars n)[j] = .mk 4 ((n : Int) - 1 - j) [] := by
  rw [vars_length] at h
  simp only [vars, List.getElem_map, List.getElem_reverse, List.length_range, List.getElem_range, var]
  congr 1
  omega
theorem enc_var (i : Int) : enc (.mk 4 i []) = .agg [.int 4, .int i, .vec .plain (some 3) []] := rfl

theorem rsubst_spec (n : Nat) (hn : n ≤ 200) : Ev 28 [.int n] (.agg [.vec .plain (some 3) (encs (vars n)), .int n]) := by
  have hl := count_loop (n := n) (L := fun j => W.loop 28 7 [.int ((n : Int) - 1 - (j : Nat)), .loc true (some 2) (.agg [.vec .grow (some 3) (encs ((vars n).take j)), .int n]), .loc true (some 2) (.agg [.vec .full (some 3) [], .int 0])] [])
    (r := some (.exit 0, [.loc true (some 2) (.agg [.vec .full (some 3) [], .int 0]), .loc true (some 2) (.agg [.vec .grow (some 3) (encs (vars n)), .int n])], []))
    (fun j hj => by
      have hjl : j < (vars n).length := by rw [vars_length]; exact hj
      have hr : roomFor Try.prog 24 (j + 1) = true := room24 (by omega)
      have hge : decide ((n : Int) - 1 - (j : Nat) ≥ 0) = true := by simp; omega
      have hmin : min j n = j := by omega
      show W.loop _ _ _ _ = _
      rw [L, e_rsubstL, hge, bc_true]
      simp only [encs_length, List.length_take, vars_length, hmin, List.length_singleton, hr, Bool.and_self, gd_true]
      rw [encs_take_succ hjl, vars_get hjl, wrap_id ⟨by omega, by omega⟩, ← enc_var]
      rw [show (n : Int) - 1 - ((j + 1 : Nat) : Int) = (n : Int) - 1 - j - 1 by omega])
    (by
      have hge : decide ((n : Int) - 1 - (n : Nat) ≥ 0) = false := by simp; omega
      show W.loop _ _ _ _ = _
      rw [L, e_rsubstL, hge, bc_false, List.take_of_length_le (by rw [vars_length]; exact Nat.le_refl _)])
  have hl' : W.loop 28 7 [.int ((n : Int) - 1 - ((0 : Nat) : Int)), .loc true (some 2) (.agg [.vec .grow (some 3) [], .int n]), .loc true (some 2) (.agg [.vec .full (some 3) [], .int 0])] [] =
    some (.exit 0, [.loc true (some 2) (.agg [.vec .full (some 3) [], .int 0]), .loc true (some 2) (.agg [.vec .grow (some 3) (encs (vars n)), .int n])], []) := hl
  rw [show (n : Int) - 1 - ((0 : Nat) : Int) = n - 1 by omega] at hl'
  have h1 : decide ((n : Int) < 0) = false := decide_eq_false (by omega)
  have h2 : decide ((n : Int) > 200) = false := decide_eq_false (by omega)
  unfold Ev
  rw [C, e_rsubst, h1, bc_false, h2, bc_false, wrap_id ⟨by omega, by omega⟩, hl', obind_some', onEx_exit]
  simp only [onCons_cons, onLoc_loc, onNil_nil, onRoom_grow, onInt_int, show onAgg (V.agg [V.vec Mode.grow (some 3) (encs (vars n)), V.int ↑n]) = fun K => K [V.vec Mode.grow (some 3) (encs (vars n)), V.int ↑n] from rfl, below, belowL, below_encs, belowSt, Bool.and_self, gd_true]
  rfl

theorem psubst_spec (n : Nat) (hn : n ≤ 200) : Ev 24 [.int n] (.agg [.vec .plain (some 3) (encs (vars n)), .int n]) := by
  have hl := count_loop (n := n) (L := fun j => W.loop 24 4 [.int (j : Nat), .loc true (some 2) (.agg [.vec .grow (some 3) (encs ((vars n).take j)), .int n]), .int n, .loc true (some 2) (.agg [.vec .full (some 3) [], .int 0]), .int n] [])
    (r := some (.exit 0, [.loc true (some 2) (.agg [.vec .full (some 3) [], .int 0]), .loc true (some 2) (.agg [.vec .grow (some 3) (encs (vars n)), .int n])], []))
    (fun j hj => by
      have hjl : j < (vars n).length := by rw [vars_length]; exact hj
      have hr : roomFor Try.prog 24 (j + 1) = true := room24 (by omega)
      have hge : decide (((j : Nat) : Int) < n) = true := by simp; omega
      have hmin : min j n = j := by omega
      show W.loop _ _ _ _ = _
      rw [L, e_psubstL, hge, bc_true]
      simp only [encs_length, List.length_take, vars_length, hmin, List.length_singleton, hr, Bool.and_self, gd_true]
      rw [encs_take_succ hjl, vars_get hjl, wrap_id (n := (n : Int) - 1) ⟨by omega, by omega⟩, wrap_id ⟨by omega, by omega⟩, wrap_id ⟨by omega, by omega⟩, ← enc_var]
      rfl)
    (by
      have hge : decide (((n : Nat) : Int) < n) = false := by simp
      show W.loop _ _ _ _ = _
      rw [L, e_psubstL, hge, bc_false, List.take_of_length_le (by rw [vars_length]; exact Nat.le_refl _)])
  have hl' : W.loop 24 4 [.int 0, .loc true (some 2) (.agg [.vec .grow (some 3) [], .int n]), .int n, .loc true (some 2) (.agg [.vec .full (some 3) [], .int 0]), .int n] [] =
    some (.exit 0, [.loc true (some 2) (.agg [.vec .full (some 3) [], .int 0]), .loc true (some 2) (.agg [.vec .grow (some 3) (encs (vars n)), .int n])], []) := hl
  have h1 : (if 200 < if 0 > (n : Int) then 0 else (n : Int) then 200 else if 0 > (n : Int) then 0 else (n : Int)) = n := by
    have : ¬ (0 > (n : Int)) := by omega
    simp only [this, if_false]
    rw [if_neg (by omega)]
  unfold Ev
  rw [C, e_psubst, h1, hl', obind_some', onEx_exit]
  simp only [onCons_cons, onLoc_loc, onNil_nil, onRoom_grow, onInt_int, show onAgg (V.agg [V.vec Mode.grow (some 3) (encs (vars n)), V.int ↑n]) = fun K => K [V.vec Mode.grow (some 3) (encs (vars n)), V.int ↑n] from rfl, below, belowL, below_encs, belowSt, Bool.and_self, gd_true]
  rfl

/-! ### is there one of a list? -/
theorem any_loop {α β : Type} {L : Int → Option α} {xs : List β} {g : β → Bool} {e0 : α} {e1 : Int → α} (hstep : ∀ (i : Nat) (h : i < xs.length), L i = if g xs[i] = true then some (e1 i) else L ((i + 1 : Nat) : Int)) (hend : L (xs.length : Nat) = some e0) :
    (xs.any g = false ∧ L 0 = some e0) ∨ (xs.any g = true ∧ ∃ i : Nat, L 0 = some (e1 i)) := by
  have : ∀ d i : Nat, i + d = xs.length → ((xs.drop i).any g = false ∧ L i = some e0) ∨ ((xs.drop i).any g = true ∧ ∃ j : Nat, L i = some (e1 j)) := by
    intro d
    induction d with
    | zero =>
      intro i hi
      have : i = xs.length := by omega
      subst this
      rw [List.drop_length]
      exact .inl ⟨rfl, hend⟩
    | succ d ih =>
      intro i hi
      have hlt : i < xs.length := by omega
      rw [List.drop_eq_getElem_cons hlt, List.any_cons, hstep i hlt]
      cases hg : g xs[i] with
      | true => exact .inr ⟨rfl, i, by simp⟩
      | false =>
        rcases ih (i + 1) (by omega) with ⟨h1, h2⟩ | ⟨h1, j, h2⟩
        · exact .inl ⟨by rw [h1]; rfl, by simpa using h2⟩
        · exact .inr ⟨by rw [h1]; rfl, j, by simpa using h2⟩
  have := this xs.length 0 (by omega)
  rw [List.drop_zero] at this
  exact this

/-- ContainsFunc of a list, by 'odd'. -/
theorem cfuncO_spec (xs : List T) (x : Res) (hs : sizes xs ≤ 1048576) : W.call 23 [.vec .plain (some 3) (encs xs), .fn 21 [] []] [x] = some (.ret (.bool (xs.any fun t => !may t)), [x]) := by
  have hlen := length_le_sizes xs
  have hl := any_loop (L := fun i => W.loop 35 2 [.int i, .vec .plain (some 3) (encs xs), .fn 21 [] [], .int xs.length] [x]) (xs := xs) (g := fun t => !may t) (e0 := (Ex.exit 0, [], [x])) (e1 := fun i => (Ex.ret, [V.int i], [x]))
    (fun i hi => by
      have hp := (odd_spec xs[i] (by have := size_le (List.getElem_mem hi); omega)).p
      have hlt : decide ((i : Int) < xs.length) = true := by simp; omega
      have h0 : decide ((0 : Int) ≤ i) = true := by simp
      show W.loop _ _ _ _ = _
      rw [L, e_ifuncOL]
      simp only [encs_length, hlt, h0, bc_true, gd_true, Bool.and_self, getI_encs hi, onStruct_enc, ← enc_eta, hp, obind_some', onBool_bool]
      rw [wrap_id ⟨by omega, by omega⟩]
      cases may xs[i] <;> rfl)
    (by
      have hlt : decide (((xs.length : Nat) : Int) < xs.length) = false := by simp
      show W.loop _ _ _ _ = _
      rw [L, e_ifuncOL, hlt]; rfl)
  have h35 : ∃ n : Int, W.call 35 [.vec .plain (some 3) (encs xs), .fn 21 [] []] [x] = some (.ret (.int n), [x]) ∧ decide (n ≥ 0) = xs.any fun t => !may t := by
    rcases hl with ⟨h1, h2⟩ | ⟨h1, i, h2⟩
    · refine ⟨-1, ?_, by rw [h1]; rfl⟩
      have h2' : W.loop 35 2 [.int 0, .vec .plain (some 3) (encs xs), .fn 21 [] [], .int xs.length] [x] = some (Ex.exit 0, [], [x]) := h2
      rw [C, e_ifuncO, encs_length, h2']
      rfl
    · refine ⟨i, ?_, by rw [h1]; simp⟩
      have h2' : W.loop 35 2 [.int 0, .vec .plain (some 3) (encs xs), .fn 21 [] [], .int xs.length] [x] = some (Ex.ret, [V.int i], [x]) := h2
      rw [C, e_ifuncO, encs_length, h2']
      rfl
  obtain ⟨n, h1, h2⟩ := h35
  rw [C, e_cfuncO, h1, obind_some', onRet_ret, onInt_int, h2]
  rfl

/-- .. of a row, by 'strange'. -/
theorem cfuncS_spec (xs : List T) (hs : xs.length ≤ 1048576) : W.call 23 [.row (some 3) 0 0 xs.length, .fn 22 [] []] [.row (some 3) (encs xs)] = some (.ret (.bool (xs.any fun t => !decide (t.k = 2))), [.row (some 3) (encs xs)]) := by
  have hl := any_loop (L := fun i => W.loop 35 2 [.int i, .row (some 3) 0 0 xs.length, .fn 22 [] [], .int xs.length] [.row (some 3) (encs xs)]) (xs := xs) (g := fun t => !decide (t.k = 2)) (e0 := (Ex.exit 0, [], [.row (some 3) (encs xs)])) (e1 := fun i => (Ex.ret, [V.int i], [.row (some 3) (encs xs)]))
    (fun i hi => by
      have hp := (strange_spec xs[i]).p
      have hlt : decide ((i : Int) < xs.length) = true := by simp; omega
      have h0 : decide ((0 : Int) ≤ i) = true := by simp
      have hget : (encs xs).getD (0 + (i : Int).toNat) V.undef = enc xs[i] := by have := getI_encs hi; simpa [getI] using this
      have hlt2 : decide (0 + (i : Int).toNat < (encs xs).length) = true := by simp; omega
      show W.loop _ _ _ _ = _
      rw [L, e_ifuncSL]
      simp only [hlt, h0, hlt2, hget, bc_true, gd_true, Bool.and_self, onStruct_enc, ← enc_eta, hp, obind_some', onBool_bool]
      rw [wrap_id ⟨by omega, by omega⟩]
      cases decide (xs[i].k = 2) <;> rfl)
    (by
      have hlt : decide (((xs.length : Nat) : Int) < xs.length) = false := by simp
      show W.loop _ _ _ _ = _
      rw [L, e_ifuncSL, hlt]; rfl)
  have h35 : ∃ n : Int, W.call 35 [.row (some 3) 0 0 xs.length, .fn 22 [] []] [.row (some 3) (encs xs)] = some (.ret (.int n), [.row (some 3) (encs xs)]) ∧ decide (n ≥ 0) = xs.any fun t => !decide (t.k = 2) := by
    rcases hl with ⟨h1, h2⟩ | ⟨h1, i, h2⟩
    · refine ⟨-1, ?_, by rw [h1]; rfl⟩
      have h2' : W.loop 35 2 [.int 0, .row (some 3) 0 0 xs.length, .fn 22 [] [], .int xs.length] [.row (some 3) (encs xs)] = some (Ex.exit 0, [], [.row (some 3) (encs xs)]) := h2
      rw [C, e_ifuncS, h2']
      rfl
    · refine ⟨i, ?_, by rw [h1]; simp⟩
      have h2' : W.loop 35 2 [.int 0, .row (some 3) 0 0 xs.length, .fn 22 [] [], .int xs.length] [.row (some 3) (encs xs)] = some (Ex.ret, [V.int i], [.row (some 3) (encs xs)]) := h2
      rw [C, e_ifuncS, h2']
      rfl
  obtain ⟨n, h1, h2⟩ := h35
  rw [C, e_cfuncS, h1, obind_some', onRet_ret, onInt_int, h2]
  rfl
end Go.Proofs.G16
