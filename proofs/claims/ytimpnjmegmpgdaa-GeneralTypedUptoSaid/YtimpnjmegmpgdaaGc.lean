import Derived.Test.YtimpnjmegmpgdaaGb
import Derived.Test.YtimpnjmegmpgdaaGa
import Derived.KernelRfl
/- The program's functions, each an equation of the abstract machine checked by the kernel, and what they come to as_ plain Lean. -/
set_option linter.unusedVariables false
set_option linter.unusedSimpArgs false
set_option linter.unusedSectionVars false
/-! What a law is handed: terms, declarations, strings. -/
namespace Go.Proofs.GT
open Go Go.AM Go.Ama
set_option maxRecDepth 20000

theorem shTerm : shOf Try.prog 25 = some 3 := by kernel_rfl
theorem shTerms : shOf Try.prog 23 = none := by kernel_rfl
theorem shString : shOf Try.prog 9 = none := by kernel_rfl
theorem cellsTerms : Try.prog.cellsOf 23 = 1 := by kernel_rfl
theorem cellsTerm : Try.prog.cellsOf 25 = 3 := by kernel_rfl
theorem shDecl : shOf Try.prog 49 = some 4 := by kernel_rfl
theorem shDecls : shOf Try.prog 22 = none := by kernel_rfl
theorem cellsDecl : Try.prog.cellsOf 49 = 4 := by kernel_rfl

theorem dec_str {v : V} (h : (∃ n, WT Try.prog n 9 (AM.cellsOf v)) ∧ Shaped (shOf Try.prog 9) v) : ∃ s : Bytes, v = .str (ba s) := by
  obtain ⟨⟨n, h1⟩, h2⟩ := h
  rw [shString] at h2
  rw [one_cell h2] at h1
  obtain ⟨z, hz⟩ := dec_string h1
  simp only [List.cons.injEq, and_true] at hz
  exact ⟨z, hz⟩

theorem list3 {l : List V} (h : l.length = 3) : ∃ x y z, l = [x, y, z] := by
  match l, h with
  | [x, y, z], _ => exact ⟨x, y, z, rfl⟩
theorem list4 {l : List V} (h : l.length = 4) : ∃ x y z w, l = [x, y, z, w] := by
  match l, h with
  | [x, y, z, w], _ => exact ⟨x, y, z, w, rfl⟩

theorem dec_terms : ∀ n : Nat, (∀ cs, WT Try.prog n 25 cs → ∃ t, V.agg cs = enc t) ∧ (∀ cs, WT Try.prog n 23 cs → ∃ ts, cs = [.vec .plain (some 3) (encs ts)]) := by
  intro n
  induction n with
  | zero => exact ⟨fun cs h => h.elim, fun cs h => h.elim⟩
  | succ n ih =>
    refine ⟨fun cs h => ?_, fun cs h => ?_⟩
    · simp only [WT, Try.underlying25] at h
      obtain ⟨hl, hf⟩ := h
      rw [cellsTerm] at hl
      obtain ⟨x, y, z, rfl⟩ := list3 hl
      simp only [List.forall_mem_cons] at hf
      obtain ⟨f1, f2, f3, _⟩ := hf
      simp only [cellsInt, cellsTerms, List.drop_zero, List.drop_succ_cons, List.take_succ_cons, List.take_zero] at f1 f2 f3
      obtain ⟨k, hk, _⟩ := dec_int f1
      obtain ⟨h, hh, _⟩ := dec_int f2
      obtain ⟨ts, hts⟩ := ih.2 _ f3
      cases hk; cases hh; cases hts
      exact ⟨.mk k h ts, rfl⟩
    · simp only [WT, Try.underlying23] at h
      obtain ⟨es, rfl, _, he⟩ := h
      rw [shTerm] at he ⊢
      have : ∀ es : List V, (∀ v ∈ es, Shaped (some 3) v ∧ WT Try.prog n 25 (AM.cellsOf v)) → ∃ ts, es = encs ts := by
        intro es
        induction es with
        | nil => intro _; exact ⟨[], rfl⟩
        | cons v es ihe =>
          intro h
          obtain ⟨h1, h2⟩ := h v (by simp)
          obtain ⟨ts, hts⟩ := ihe fun u hu => h u (by simp [hu])
          cases v with
          | agg cs =>
            obtain ⟨t, ht⟩ := ih.1 cs h2
            exact ⟨t :: ts, by rw [encs_cons, ← ht, hts]⟩
          | _ => exact h1.elim
      obtain ⟨ts, rfl⟩ := this es he
      exact ⟨ts, rfl⟩

theorem dec_term {v : V} (h : (∃ n, WT Try.prog n 25 (AM.cellsOf v)) ∧ Shaped (shOf Try.prog 25) v) : ∃ t, v = enc t := by
  obtain ⟨⟨n, h1⟩, h2⟩ := h
  rw [shTerm] at h2
  cases v with
  | agg cs => exact (dec_terms n).1 cs h1
  | _ => exact h2.elim
theorem dec_list {v : V} (h : (∃ n, WT Try.prog n 23 (AM.cellsOf v)) ∧ Shaped (shOf Try.prog 23) v) : ∃ ts, v = .vec .plain (some 3) (encs ts) := by
  obtain ⟨⟨n, h1⟩, h2⟩ := h
  rw [shTerms] at h2
  rw [one_cell h2] at h1
  obtain ⟨ts, hts⟩ := (dec_terms n).2 _ h1
  simp only [List.cons.injEq, and_true] at hts
  exact ⟨ts, hts⟩

theorem dec_declc : ∀ n cs, WT Try.prog n 49 cs → ∃ d, V.agg cs = encD d := by
  intro n cs h
  cases n with
  | zero => exact h.elim
  | succ n =>
    simp only [WT, Try.underlying49] at h
    obtain ⟨hl, hf⟩ := h
    rw [cellsDecl] at hl
    obtain ⟨x, y, z, w, rfl⟩ := list4 hl
    simp only [List.forall_mem_cons] at hf
    obtain ⟨f1, f2, _⟩ := hf
    simp only [cellsString, cellsTerm, List.drop_zero, List.drop_succ_cons, List.take_succ_cons, List.take_zero] at f1 f2
    obtain ⟨s, hs⟩ := dec_string f1
    obtain ⟨t, ht⟩ := (dec_terms n).1 _ f2
    cases hs
    obtain ⟨k, h, l⟩ := t
    simp only [enc, V.agg.injEq, List.cons.injEq, and_true] at ht
    obtain ⟨rfl, rfl, rfl⟩ := ht
    exact ⟨⟨s, .mk k h l⟩, rfl⟩
theorem dec_decl {v : V} (h : (∃ n, WT Try.prog n 49 (AM.cellsOf v)) ∧ Shaped (shOf Try.prog 49) v) : ∃ d, v = encD d := by
  obtain ⟨⟨n, h1⟩, h2⟩ := h
  rw [shDecl] at h2
  cases v with
  | agg cs => exact dec_declc n cs h1
  | _ => exact h2.elim
theorem dec_decls {v : V} (h : (∃ n, WT Try.prog n 22 (AM.cellsOf v)) ∧ Shaped (shOf Try.prog 22) v) : ∃ l, v = .vec .plain (some 4) (encDs l) := by
  obtain ⟨⟨n, h1⟩, h2⟩ := h
  rw [shDecls] at h2
  rw [one_cell h2] at h1
  cases n with
  | zero => exact h1.elim
  | succ n =>
    simp only [WT, Try.underlying22] at h1
    obtain ⟨es, he0, _, he⟩ := h1
    rw [shDecl] at he he0
    have : ∀ es : List V, (∀ v ∈ es, Shaped (some 4) v ∧ WT Try.prog n 49 (AM.cellsOf v)) → ∃ l, es = encDs l := by
      intro es
      induction es with
      | nil => intro _; exact ⟨[], rfl⟩
      | cons v es ihe =>
        intro h
        obtain ⟨h1, h2⟩ := h v (by simp)
        obtain ⟨l, hl⟩ := ihe fun u hu => h u (by simp [hu])
        cases v with
        | agg cs =>
          obtain ⟨d, hd⟩ := dec_declc n cs h2
          exact ⟨d :: l, by rw [hl, hd]; rfl⟩
        | _ => exact h1.elim
    obtain ⟨l, rfl⟩ := this es he
    simp only [List.cons.injEq, and_true] at he0
    exact ⟨l, he0⟩
end Go.Proofs.GT

/-! What a law is handed: metas, functions. -/
namespace Go.Proofs.GT
open Go Go.AM Go.Ama
set_option maxRecDepth 20000

/-- Slices of structs. -/
theorem dec_slice {α : Type} {en : α → V} {sl e k : Nat} (hu : Try.prog.underlying sl = some (.slice e)) (hsh : shOf Try.prog e = some k) (hd : ∀ n cs, WT Try.prog n e cs → ∃ a, V.agg cs = en a) :
    ∀ n cs, WT Try.prog n sl cs → ∃ l : List α, cs = [.vec .plain (some k) (l.map en)] := by
  intro n cs h
  cases n with
  | zero => exact h.elim
  | succ n =>
    simp only [WT, hu] at h
    obtain ⟨es, he0, _, he⟩ := h
    rw [hsh] at he he0
    have : ∀ es : List V, (∀ v ∈ es, Shaped (some k) v ∧ WT Try.prog n e (AM.cellsOf v)) → ∃ l : List α, es = l.map en := by
      intro es
      induction es with
      | nil => intro _; exact ⟨[], rfl⟩
      | cons v es ihe =>
        intro h
        obtain ⟨h1, h2⟩ := h v (by simp)
        obtain ⟨l, hl⟩ := ihe fun u hu => h u (by simp [hu])
        cases v with
        | agg cs =>
          obtain ⟨d, hd⟩ := hd n cs h2
          exact ⟨d :: l, by rw [hl, hd]; rfl⟩
        | _ => exact h1.elim
    obtain ⟨l, rfl⟩ := this es he
    exact ⟨l, he0⟩
theorem dec_slice' {α : Type} {en : α → V} {sl : Nat} {k : Nat} (hsh : shOf Try.prog sl = none) (hd : ∀ n cs, WT Try.prog n sl cs → ∃ l : List α, cs = [.vec .plain (some k) (l.map en)]) {v : V} (h : (∃ n, WT Try.prog n sl (AM.cellsOf v)) ∧ Shaped (shOf Try.prog sl) v) : ∃ l : List α, v = .vec .plain (some k) (l.map en) := by
  obtain ⟨⟨n, h1⟩, h2⟩ := h
  rw [hsh] at h2
  rw [one_cell h2] at h1
  obtain ⟨l, hl⟩ := hd n _ h1
  simp only [List.cons.injEq, and_true] at hl
  exact ⟨l, hl⟩
theorem dec_struct' {α : Type} {en : α → V} {t k : Nat} (hsh : shOf Try.prog t = some k) (hd : ∀ n cs, WT Try.prog n t cs → ∃ a : α, V.agg cs = en a) {v : V} (h : (∃ n, WT Try.prog n t (AM.cellsOf v)) ∧ Shaped (shOf Try.prog t) v) : ∃ a, v = en a := by
  obtain ⟨⟨n, h1⟩, h2⟩ := h
  rw [hsh] at h2
  cases v with
  | agg cs => exact hd n cs h1
  | _ => exact h2.elim
theorem dec_bool {n : Nat} {cs : List V} (h : WT Try.prog n 4 cs) : ∃ b, cs = [.bool b] := by
  cases n with
  | zero => exact h.elim
  | succ n => simpa only [WT, Try.underlying4] using h
theorem cellsBool : Try.prog.cellsOf 4 = 1 := by kernel_rfl
theorem term_parts {cs : List V} {t : T} (h : V.agg cs = enc t) : cs = [.int t.k, .int t.h, .vec .plain (some 3) (encs t.args)] := by
  rw [enc_eta] at h; simpa using h

theorem shMeta : shOf Try.prog 35 = some 5 := by kernel_rfl
theorem shMetas : shOf Try.prog 38 = none := by kernel_rfl
theorem cellsMeta : Try.prog.cellsOf 35 = 5 := by kernel_rfl
theorem cellsMetas : Try.prog.cellsOf 38 = 1 := by kernel_rfl
theorem listN {n : Nat} {l : List V} (h : l.length = n + 1) : ∃ x r, l = x :: r ∧ r.length = n := by
  cases l with
  | nil => simp at h
  | cons x r => exact ⟨x, r, rfl, by simpa using h⟩
theorem dec_metac : ∀ n cs, WT Try.prog n 35 cs → ∃ m, V.agg cs = encM m := by
  intro n cs h
  cases n with
  | zero => exact h.elim
  | succ n =>
    simp only [WT, Try.underlying35] at h
    obtain ⟨hl, hf⟩ := h
    rw [cellsMeta] at hl
    obtain ⟨a1, cs1, e1, hl1⟩ := listN hl
    obtain ⟨a2, cs2, e2, hl2⟩ := listN hl1
    obtain ⟨a3, cs3, e3, hl3⟩ := listN hl2
    obtain ⟨a4, cs4, e4, hl4⟩ := listN hl3
    obtain ⟨a5, cs5, e5, hl5⟩ := listN hl4
    have e0 := List.length_eq_zero_iff.1 hl5
    subst e0 e5 e4 e3 e2 e1
    simp only [List.forall_mem_cons] at hf
    obtain ⟨f1, f2, f3, _⟩ := hf
    simp only [cellsTerms, cellsTerm, cellsBool, List.drop_zero, List.drop_succ_cons, List.take_succ_cons, List.take_zero] at f1 f2 f3
    obtain ⟨ctx, hc⟩ := (dec_terms n).2 _ f1
    obtain ⟨t, ht⟩ := (dec_terms n).1 _ f2
    obtain ⟨b, hb⟩ := dec_bool f3
    have ht := term_parts ht
    simp only [List.cons.injEq, and_true] at hc ht hb
    obtain ⟨rfl, rfl, rfl⟩ := ht
    subst hc hb
    exact ⟨⟨ctx, t, b⟩, rfl⟩
theorem dec_metasc : ∀ n cs, WT Try.prog n 38 cs → ∃ l, cs = [.vec .plain (some 5) (encMs l)] := dec_slice Try.underlying38 shMeta dec_metac
theorem dec_metas {v : V} (h : (∃ n, WT Try.prog n 38 (AM.cellsOf v)) ∧ Shaped (shOf Try.prog 38) v) : ∃ l, v = .vec .plain (some 5) (encMs l) := dec_slice' shMetas dec_metasc h
theorem dec_meta {v : V} (h : (∃ n, WT Try.prog n 35 (AM.cellsOf v)) ∧ Shaped (shOf Try.prog 35) v) : ∃ m, v = encM m := dec_struct' shMeta dec_metac h

end Go.Proofs.GT

namespace Go.Proofs.GT
open Go Go.AM
set_option maxRecDepth 20000

theorem e_law16_GeneralTyped (O : Oracle) (l0 : (List V)) (l1 : (List V)) (n2 : Int) (n3 : Int) (l4 : (List V)) : callBody Try.prog cfg O 3 [.vec .plain (some 4) l0, .vec .plain (some 3) l1, .agg [.int n2, .int n3, .vec .plain (some 3) l4]] [] =
  obind (pcall O 4 []) fun r1 => onBool r1 fun b2 => obind (pcall O 5 [V.vec .plain (some 4) l0, V.vec .plain (some 5) [], V.vec .plain (some 3) l1]) fun r3 =>
  onBool r3 fun b4 => obind (pcall O 6 [V.agg [V.int n2, V.int n3, V.vec .plain (some 3) l4], V.int 300, V.int 40]) fun r5 => onBool r5 fun b6 => bc (!b2) (some (Out.ret
  (V.bool b2), [])) (bc (!b4) (some (Out.ret (V.bool b2), [])) (bc (!b6) (some (Out.ret (V.bool b2), [])) (bc (decide ((↑l1.length : Int) > 30)) (some (Out.ret (V.bool b2), []))
  (obind (pcall O 7 [V.vec .plain (some 4) l0]) fun r7 => onTup r7 fun c8 => onCons c8 fun v9 c10 => onInt v9 fun n11 => onCons c10 fun v12 c13 => onInt v12 fun n14 =>
  onNil c13 (bc (n14 != 0) (some (Out.ret (V.bool true), [])) (obind (pcall O 8 [V.vec .plain (some 4) l0, V.vec .plain (some 5) [], V.vec .plain (some 3) [], V.vec .plain
  (some 3) l1]) fun r15 => onInt r15 fun n16 => bc (n16 != 0) (some (Out.ret (V.bool true), [])) (obind (pcall O 9 [V.vec .plain (some 4) l0, V.vec .plain (some 5) [],
  V.vec .plain (some 3) l1, V.agg [V.int n2, V.int n3, V.vec .plain (some 3) l4]]) fun r17 => onInt r17 fun n18 => bc (n18 != 0) (some (Out.ret (V.bool true), [])) (obind (pcall O
  10 [V.vec .plain (some 3) l1, V.agg [V.int n2, V.int n3, V.vec .plain (some 3) l4], V.int 0]) fun r19 => onTup r19 fun c20 => onCons c20 fun v21 c22 => onStruct
  [CT.slice (some 3), CT.int, CT.int, CT.slice (some 3), CT.bool] v21 fun l23 n24 n25 l26 b27 => onCons c22 fun v28 c29 => onStruct [CT.int, CT.int, CT.slice (some 3)] v28 fun n30
  n31 l32 => onCons c29 fun v33 c34 => onInt v33 fun n35 => onNil c34 (bc (n35 != 0) (bc (n35 == 5) (some (Out.ret (V.bool true), [])) (some (Out.ret (V.bool (n35 == 1)), [])))
  (obind (pcall O 11 [V.vec .plain (some 4) l0, V.vec .plain (some 5) [V.agg [V.vec .plain (some 3) l23, V.int n24, V.int n25, V.vec .plain (some 3) l26, V.bool b27]]])
  fun r36 => onTup r36 fun c37 => onCons c37 fun v38 c39 => onInt v38 fun n40 => onCons c39 fun v41 c42 => onInt v41 fun n43 => onNil c42 (bc (n43 == 0) (obind (pcall O 12
  [V.vec .plain (some 4) l0, V.vec .plain (some 5) [V.agg [V.vec .plain (some 3) l23, V.int n24, V.int n25, V.vec .plain (some 3) l26, V.bool b27]], V.vec .plain (some 3) l1, V.agg
  [V.int n30, V.int n31, V.vec .plain (some 3) l32], V.agg [V.int n2, V.int n3, V.vec .plain (some 3) l4]]) fun r44 => onInt r44 fun n45 => bc (n45 == 0) (obind (pcall O
  13 [V.agg [V.int n30, V.int n31, V.vec .plain (some 3) l32], V.int (↑l1.length : Int)]) fun r46 => onBool r46 fun b47 => some (Out.ret (V.bool b47), [])) (some
  (Out.ret (V.bool false), []))) (some (Out.ret (V.bool false), []))))))))))))) := by kernel_rfl

end Go.Proofs.GT

/-! Substitutions that renumber; the most general term has its type. -/
namespace Go.Ama
open Go Go.AM

/-- A substitution that renumbers. -/
def IsUp (b f : Int) (l : List T) (s : Int) : Prop := ∀ v : Int, 0 ≤ v → v ≤ 4611686018427387904 → ofT l s v = .mk 4 (if f ≤ v then v + b else v) []

theorem may_var {w : Int} (h : 0 ≤ w) : may (.mk 4 w []) = true := by
  refine may_iff.2 ⟨?_, by simp [T.size, sizes], by simp [T.depth, depths]⟩
  simp [nodesB, nodess, may1, h]
theorem up_var {w : Int} (h : 0 ≤ w) (h2 : w ≤ 4611686018427387904) {b : Int} (hb : 0 ≤ b ∧ b ≤ 1048576) : upP (.mk 4 w []) b 0 = .mk 4 (w + b) [] := by
  unfold upP
  rw [may_var h, if_pos (by simp; omega)]
  simp only [upT, ups, if_true, upV]
  rw [if_pos (by omega), wrap_id ⟨by omega, by omega⟩]

theorem isUp_under {b f : Int} (hb : 0 ≤ b ∧ b ≤ 1048576) (hf : 0 ≤ f) {l : List T} {s : Int} (hs : 0 ≤ s ∧ s ≤ 4000000) (hl : l.length ≤ 4000000) (h : IsUp b f l s) : IsUp b (f + 1) (underL l) (underS s) := by
  intro v h0 hv
  have hlen : (underL l).length = l.length + 1 := by simp [underL]
  have hus : underS s = s + 1 := wrap_id ⟨by omega, by omega⟩
  unfold ofT
  rw [hlen, hus]
  by_cases hv0 : v = 0
  · subst hv0
    rw [if_pos (by omega)]
    have : l.length + 1 - 1 - (0 : Int).toNat = l.length := by simp
    rw [this, if_neg (by omega)]
    simp [underL, List.getD_eq_getElem?_getD]
  · have h1 := h (v - 1) (by omega) (by omega)
    unfold ofT at h1
    by_cases hc : v < (l.length + 1 : Nat)
    · rw [if_pos (by omega)] at h1
      rw [if_pos hc]
      have hi : l.length + 1 - 1 - v.toNat = l.length - 1 - (v - 1).toNat := by omega
      have hlt : l.length - 1 - (v - 1).toNat < l.length := by omega
      rw [List.getD_eq_getElem?_getD, List.getElem?_eq_getElem hlt, Option.getD_some] at h1
      have hg : (underL l).getD (l.length + 1 - 1 - v.toNat) (.mk 0 0 []) = upP (l[l.length - 1 - (v - 1).toNat]) 1 0 := by
        rw [hi, List.getD_eq_getElem?_getD]
        unfold underL
        rw [List.getElem?_append_left (by simp; omega), List.getElem?_map, List.getElem?_eq_getElem hlt]
        rfl
      rw [hg, h1, up_var (by split <;> omega) (by split <;> omega) (by omega)]
      congr 1
      split <;> split <;> omega
    · rw [if_neg (by omega), wrap_id (n := v - 1 - (l.length : Int)) ⟨by omega, by omega⟩, wrap_id ⟨by omega, by omega⟩] at h1
      rw [if_neg hc, wrap_id (n := v - ((l.length + 1 : Nat) : Int)) ⟨by omega, by omega⟩, wrap_id ⟨by omega, by omega⟩]
      simp only [T.mk.injEq, and_true, true_and] at h1 ⊢
      split at h1 <;> split <;> omega

theorem underL_sizes (l : List T) : sizes (underL l) = sizes l + 1 := by
  unfold underL
  rw [sizes_append]
  congr 1
  have : ∀ l : List T, sizes (l.map fun t => upP t 1 0) = sizes l := by
    intro l
    induction l with
    | nil => rfl
    | cons a l ih => simp only [List.map_cons, sizes, ih, upP_size]
  rw [this]

mutual
theorem big_up {b f : Int} (hb : 0 ≤ b ∧ b ≤ 1048576) {B : Int} (hB : B ≤ 4611686018427387904) : ∀ (t : T) (n : Nat) (l : List T) (s ar : Int), IsUp b (f + ar) l s → 0 ≤ f + ar → okB B t → n + t.size ≤ 40000 → sizes l + t.size ≤ 1000000 → 0 ≤ s → s + t.size ≤ 2000000 →
    Big (.ap n t l s) (.t (upT b f ar t) (n + t.size))
  | .mk k h as_, n, l, s, ar, hU, hf, ⟨h1, h2, h3⟩, hn, hl, h0, hs => by
    simp only [T.size] at hn hl hs ⊢
    have hll := length_le_sizes l
    have hA := bigs_up hb hB as_ (bindsB k) (n + 1) l s ar hU hf h3 (by omega) (by omega) h0 (by omega)
    rw [show n + (1 + sizes as_) = n + 1 + sizes as_ by omega]
    by_cases hk : k = 4
    · subst hk
      have hof := hU h (by omega) (by omega)
      have hv : upV b f ar h = if f + ar ≤ h then h + b else h := by
        unfold upV
        split
        · rw [wrap_id ⟨by omega, by omega⟩]
        · rfl
      refine .apVar (by omega) (by simp only [T.size]; omega) (by omega) rfl (by simp only [T.h]; omega) ⟨by simp only [T.h]; omega, by simp only [T.h]; omega⟩ hA ?_
      simp only [T.h, upT, if_true]
      rw [hof, hv]
      have e4 : bindsB 4 = false := rfl
      rw [e4] at hA ⊢
      cases hups : ups b f ar false as_ with
      | nil => exact .spNil
      | cons x xs =>
        have hx : sizes (ups b f ar false as_) = sizes as_ := ups_sizes b f as_ ar
        have := length_le_sizes (ups b f ar false as_)
        rw [hups] at this hx
        simp only [List.length_cons] at this
        exact .spApp (t := .mk 4 (if f + ar ≤ h then h + b else h) []) (.inr (.inl rfl)) (by simp only [T.args, List.length_nil]; omega)
    · have := Big.apNode (t := T.mk k h as_) (l := l) (s := s) (n := n) (by omega) (by simp only [T.size]; omega) hk hA
      simp only [upT, if_neg hk]
      exact this
theorem bigs_up {b f : Int} (hb : 0 ≤ b ∧ b ≤ 1048576) {B : Int} (hB : B ≤ 4611686018427387904) : ∀ (ts : List T) (bd : Bool) (n : Nat) (l : List T) (s ar : Int), IsUp b (f + ar) l s → 0 ≤ f + ar → okBs B ts → n + sizes ts ≤ 40000 → sizes l + sizes ts + 1 ≤ 1000000 → 0 ≤ s → s + sizes ts + 1 ≤ 2000000 →
    Big (.ar n bd ts l s) (.l (ups b f ar bd ts) (n + sizes ts))
  | [], bd, n, l, s, ar, _, _, _, _, _, _, _ => .arNil
  | a :: as_, bd, n, l, s, ar, hU, hf, ⟨h1, h2⟩, hn, hl, h0, hs => by
    simp only [sizes] at hn hl hs ⊢
    have hll := length_le_sizes l
    have hR := bigs_up hb hB as_ bd (n + a.size) l s ar hU hf h2 (by omega) (by omega) h0 (by omega)
    rw [show n + (a.size + sizes as_) = n + a.size + sizes as_ by omega]
    refine .arCons (by omega) ?_ hR
    unfold belowL' belowS'
    split
    · have hUu := isUp_under hb hf (s := s) (by omega) (by omega) hU
      rw [show f + ar + 1 = f + (ar + 1) by omega] at hUu
      have hus : underS s = s + 1 := wrap_id ⟨by omega, by omega⟩
      exact big_up hb hB a n _ _ (ar + 1) hUu (by omega) h1 (by omega) (by rw [underL_sizes]; omega) (by omega) (by omega)
    · exact big_up hb hB a n l s ar hU hf h1 (by omega) (by omega) h0 (by omega)
end

/-- A substitution that renumbers, told. -/
theorem apply_up {b : Int} (hb : 0 ≤ b ∧ b ≤ 1048576) {B : Int} (hB : okBase B) {t : T} {l : List T} {s : Int} (hU : IsUp b 0 l s) (hm : may t = true) (ho : okB B t) (hl : maySu l s = true) (hls : sizes l ≤ 800000) : applyF t l s = (upP t b 0, 0) := by
  have hsz := may_size hm
  obtain ⟨k1, k2, k3, k4⟩ := maySu_all hl
  have hB2 := hB.2
  have hbig := big_up (f := 0) hb hB2 t 0 l s 0 hU (by omega) ho (by omega) (by omega) k2 (by omega)
  have hup : upP t b 0 = upT b 0 0 t := by unfold upP; rw [hm, if_pos (by simp; omega)]
  have hmu := may_upP hB ho hm (b := b) (f := 0) hb.1
  unfold applyF applyR
  rw [hm, hl, outF_eq hbig]
  simp only [toldR, Bool.and_self, if_true]
  rw [← hup, hmu]
  simp

theorem vars_take_up {N i : Nat} (hi : i ≤ N) (hN : N ≤ 1000000) : IsUp ((N - i : Nat) : Int) 0 ((vars N).take i) N := by
  intro v h0 hv
  unfold ofT
  have hlen : ((vars N).take i).length = i := by simp [vars_length]; omega
  rw [hlen, if_pos h0]
  by_cases hc : v < i
  · rw [if_pos hc]
    have hlt : i - 1 - v.toNat < (vars N).length := by rw [vars_length]; omega
    have : ((vars N).take i).getD (i - 1 - v.toNat) (.mk 0 0 []) = (vars N)[i - 1 - v.toNat] := by
      rw [List.getD_eq_getElem?_getD, List.getElem?_take_of_lt (by omega), List.getElem?_eq_getElem hlt]; rfl
    rw [this, vars_get hlt]
    congr 1
    omega
  · rw [if_neg hc, wrap_id (n := v - (i : Int)) ⟨by omega, by omega⟩, wrap_id ⟨by omega, by omega⟩]
    congr 1
    omega
theorem vars_may {N : Nat} {x : T} (h : x ∈ vars N) : may x = true := by
  simp only [vars, List.mem_map, List.mem_reverse, List.mem_range] at h
  obtain ⟨i, _, rfl⟩ := h
  exact may_var (by omega)
theorem vars_maySu {N i : Nat} (hN : N ≤ 200) : maySu ((vars N).take i) N = true := by
  unfold maySu
  simp only [Bool.and_eq_true, decide_eq_true_eq, List.all_eq_true]
  exact ⟨by simp [vars_length]; omega, by omega, by omega, fun x hx => vars_may (List.mem_of_mem_take hx)⟩

/-! ### the most general term has its type -/
theorem firstE_zero {l : List Int} (h : ∀ e ∈ l, e = 0) : ∀ i, firstE i l = (0, 0) := by
  induction l with
  | nil => intro i; rfl
  | cons e l ih =>
    intro i
    simp only [firstE]
    rw [if_neg (by have := h e (by simp); simpa using this)]
    exact ih (fun e he => h e (by simp [he])) _
theorem firstF_zero {l : List Int} (h : ∀ e ∈ l, e = 0) (hl : l.length ≤ 40) : firstF l = (0, 0) := by
  unfold firstF
  rw [if_neg (by omega), firstE_zero h]
theorem firstF_all {l : List Int} (h : (firstF l).2 = 0) : l.length ≤ 40 ∧ ∀ e ∈ l, e = 0 := by
  unfold firstF at h
  split at h
  · simp at h
  · rename_i hl
    refine ⟨by omega, ?_⟩
    have : ∀ (l : List Int) (i : Nat), (firstE i l).2 = 0 → ∀ e ∈ l, e = 0 := by
      intro l
      induction l with
      | nil => intro i _ e he; cases he
      | cons e l ih =>
        intro i h x hx
        simp only [firstE] at h
        split at h
        · rename_i c; exact absurd h c
        · rename_i c
          rcases List.mem_cons.1 hx with rfl | hx
          · simpa using c
          · exact ih _ h x hx
    exact this l 0 h

theorem ctxF_iff {sig : List D} {ms : List M} {ar ctx : List T} : ctxF sig ms ar ctx = 0 ↔ ctx.length ≤ 40 ∧ ∀ (i : Nat) (h : i < ctx.length), checkTypeF sig ms ((ar ++ ctx).take (ar.length + i)) ctx[i] = 0 := by
  unfold ctxF
  have hlen : (ctxErrs sig ms ar ctx).length = ctx.length := by simp [ctxErrs]
  constructor
  · intro h
    obtain ⟨h1, h2⟩ := firstF_all h
    refine ⟨by omega, fun i hi => h2 _ ?_⟩
    unfold ctxErrs
    rw [List.mem_map]
    exact ⟨i, by simpa using hi, by simp [List.getD_eq_getElem?_getD, hi]⟩
  · rintro ⟨h1, h2⟩
    rw [firstF_zero]
    · intro e he
      unfold ctxErrs at he
      rw [List.mem_map] at he
      obtain ⟨i, hi, rfl⟩ := he
      have hi : i < ctx.length := by simpa using hi
      have := h2 i hi
      simpa [List.getD_eq_getElem?_getD, hi] using this
    · omega

theorem checkTypeF_iff {sig : List D} {ms : List M} {ctx : List T} {a : T} : checkTypeF sig ms ctx a = 0 ↔ mayW sig ms ctx [a] = true ∧ typF sig ms a ctx = 0 := by
  unfold checkTypeF
  cases mayW sig ms ctx [a] <;> simp

/-- The parts of a type that is in order. -/
theorem typ_chain (sig : List D) (ms : List M) : ∀ (N : Nat) (a : T) (ctx : List T), a.size ≤ N → may a = true → typF sig ms a ctx = 0 →
    (∀ (i : Nat) (h : i < (split a).1.length), typF sig ms (split a).1[i] (ctx ++ (split a).1.take i) = 0) ∧ typF sig ms (split a).2 (ctx ++ (split a).1) = 0 ∧ (∀ x ∈ (split a).1, may x = true) ∧ may (split a).2 = true := by
  intro N
  induction N with
  | zero => intro a _ h; have := size_pos a; omega
  | succ N ih =>
    intro a ctx hN hm h0
    by_cases hc : a.k = 1 ∧ a.args.length = 2
    · obtain ⟨d, b, hab⟩ := len2 hc.2
      rw [split_pi hc.1 hab]
      have hd : d ∈ a.args := by rw [hab]; simp
      have hb : b ∈ a.args := by rw [hab]; simp
      have hbs := args_size hb
      have ha : a = .mk 1 a.h [d, b] := by cases a; simp only [T_k_mk, T_args_mk] at hc hab; rw [hc.1, hab]; rfl
      rw [ha, typF_pi] at h0
      split at h0
      · rename_i c; exact absurd h0 c
      · rename_i c
        obtain ⟨r1, r2, r3, r4⟩ := ih b (ctx ++ [d]) (by omega) (may_arg hm hb) h0
        refine ⟨fun i hi => ?_, by simpa using r2, fun x hx => ?_, r4⟩
        · cases i with
          | zero => simpa using c
          | succ i => simpa using r1 i (by simpa using hi)
        · rcases List.mem_cons.1 hx with rfl | hx
          · exact may_arg hm hd
          · exact r3 x hx
    · rw [split_end hc]
      exact ⟨fun i hi => by simp at hi, by simpa using h0, by simp, hm⟩

theorem lamN_may {t : T} (ht : nodesB t = true) (hs : t.size ≤ 1000) (hd : t.depth ≤ 10) : ∀ n, n ≤ 50 → may (lamN n t) = true := by
  intro n hn
  have h1 : ∀ n, nodesB (lamN n t) = true := by
    intro n
    induction n with
    | zero => exact ht
    | succ n ih => rw [lamN_succ]; simp [nodesB, nodess, may1, ih]
  have h2 : ∀ n, (lamN n t).depth = n + t.depth := by
    intro n
    induction n with
    | zero => simp [lamN]
    | succ n ih => rw [lamN_succ]; simp only [T.depth, depths, ih]; omega
  exact may_iff.2 ⟨h1 n, by rw [lamN_size]; omega, by rw [h2]; omega⟩
theorem metaN_node (n : Int) (hn : 0 ≤ n) (N : Nat) : nodesB (.mk 6 n (vars N)) = true := by
  simp only [nodesB, Bool.and_eq_true, nodess_all, List.all_eq_true]
  exact ⟨by simp [may1, hn], fun x hx => may_nodes (vars_may hx)⟩
theorem metaN_depth (n : Int) (N : Nat) : (T.mk 6 n (vars N)).depth ≤ 2 := by
  have : ∀ l : List T, (∀ x ∈ l, x.depth ≤ 1) → depths l ≤ 1 := by
    intro l
    induction l with
    | nil => intro _; simp [depths]
    | cons a l ih => intro h; have := h a (by simp); have := ih fun x hx => h x (by simp [hx]); simp only [depths]; omega
  have := this (vars N) (fun x hx => by
    simp only [vars, List.mem_map] at hx
    obtain ⟨i, _, rfl⟩ := hx
    simp [var, T.depth, depths])
  simp only [T.depth]; omega

/-- Its entries have their types. -/
theorem ents_ok (sig : List D) (ms : List M) {B : Int} (hB : okBase B) (all : List T) (hN : all.length ≤ 100) (hk : ∀ x ∈ all, x.k = 2 ∧ may x = true ∧ okB B x) : ∀ (n i : Nat), all.length - i = n → i ≤ all.length →
    entsF sig ms ((vars all.length).drop i) all ((vars all.length).take i) (all.drop i) = 0 := by
  intro n
  induction n with
  | zero =>
    intro i hn hi
    have : (vars all.length).drop i = [] := by simp [vars_length]; omega
    rw [this, entsF]
  | succ n ih =>
    intro i hn hi
    have hlt : i < all.length := by omega
    have hltv : i < (vars all.length).length := by rw [vars_length]; exact hlt
    obtain ⟨k1, k2, k3⟩ := hk _ (List.getElem_mem hlt)
    have hvs : sizes ((vars all.length).take i) ≤ 800000 := by have := sizes_take_le (vars all.length) i; rw [vars_sizes] at this; omega
    have hA := apply_up (by omega) hB (vars_take_up (N := all.length) (i := i) (by omega) (by omega)) k2 k3 (vars_maySu (by omega)) hvs
    rw [List.drop_eq_getElem_cons hltv, List.drop_eq_getElem_cons hlt, entsF]
    have hT : termF sig ms (vars all.length)[i] all (upP all[i] (all.length - i : Nat) 0) = 0 := by
      rw [vars_get hltv]
      have hu2 : (upP all[i] (all.length - i : Nat) 0).k = 2 := by
        unfold upP
        split
        · cases hx : all[i]; rw [hx] at k1; simp only [upT, T_k_mk] at k1 ⊢; exact k1
        · exact k1
      rw [termF_node sig ms (by decide) hu2]
      have hc : comesF sig ms 4 ((all.length : Int) - 1 - i) [] all = (upP all[i] (all.length - i : Nat) 0, 0) := by
        show varF sig ms _ [] all = _
        unfold varF
        rw [if_neg (by omega), spineF]
        have hj : all.length - 1 - ((all.length : Int) - 1 - i).toNat = i := by omega
        have he : ((all.length : Int) - 1 - i + 1) = ((all.length - i : Nat) : Int) := by omega
        rw [hj, he, List.getD_eq_getElem?_getD, List.getElem?_eq_getElem hlt]
        rfl
      rw [hc]
      simp
    simp only [hA, if_true, hT]
    rw [if_neg (by simp)]
    have := ih (i + 1) (by omega) (by omega)
    rwa [take_succ' hltv] at this

theorem up0 {B : Int} (hB : okBase B) {t : T} (ho : okB B t) : upP t 0 0 = t := by
  have h : (∀ t : T, ∀ ar : Int, okB B t → 0 ≤ ar → upT 0 0 ar t = t) := by
    intro t
    refine T.ind (p := fun t => ∀ ar : Int, okB B t → 0 ≤ ar → upT 0 0 ar t = t) (fun k h as_ ih ar ho har => ?_) t
    obtain ⟨h1, _, h3⟩ := ho
    have hv : upV 0 0 ar h = h := by
      unfold upV
      split
      · rw [wrap_id ⟨by omega, by unfold okBase at hB; omega⟩]; omega
      · rfl
    have hl : ∀ (l : List T) (bd : Bool), (∀ x ∈ l, x ∈ as_) → ups 0 0 ar bd l = l := by
      intro l
      induction l with
      | nil => intro _ _; rfl
      | cons a l ihl =>
        intro bd hx
        simp only [ups]
        rw [ih a (hx a (by simp)) _ ((okBs_iff _ _).1 h3 a (hx a (by simp))) (by split <;> omega), ihl bd fun x hx' => hx x (by simp [hx'])]
    simp only [upT, hv, hl as_ _ fun _ h => h]
    split <;> rfl
  unfold upP
  split
  · exact h t 0 ho (Int.le_refl _)
  · rfl

theorem meta_ok (sig : List D) {B : Int} (hB : okBase B) (all : List T) (last : T) (hN : all.length ≤ 100) (hk : ∀ x ∈ all, x.k = 2 ∧ may x = true ∧ okB B x) (hl : last.k = 2 ∧ may last = true ∧ okB B last) :
    termF sig [⟨all, last, false⟩] (.mk 6 0 (vars all.length)) all last = 0 := by
  have hvs : sizes (vars all.length) ≤ 800000 := by rw [vars_sizes]; omega
  have htk : (vars all.length).take all.length = vars all.length := List.take_of_length_le (by rw [vars_length]; exact Nat.le_refl _)
  have hU := vars_take_up (N := all.length) (i := all.length) (Nat.le_refl _) (by omega)
  have hS := vars_maySu (N := all.length) (i := all.length) (by omega)
  rw [htk] at hU hS
  have hA := apply_up (by omega) hB hU hl.2.1 hl.2.2 hS hvs
  rw [Nat.sub_self] at hA
  have hA' : applyF last (vars all.length) all.length = (last, 0) := by rw [hA, Int.natCast_zero, up0 hB hl.2.2]
  rw [termF_node sig _ (by decide) hl.1]
  have hc : comesF sig [⟨all, last, false⟩] 6 0 (vars all.length) all = (last, 0) := by
    have hm : comesF sig [⟨all, last, false⟩] 6 0 (vars all.length) all = metaF sig [⟨all, last, false⟩] 0 (vars all.length) all := rfl
    rw [hm]
    unfold metaF
    rw [if_neg (by simp)]
    simp only [Int.toNat_zero, List.getD_cons_zero, vars_length, ne_eq, not_true, if_false]
    have := ents_ok sig [⟨all, last, false⟩] hB all hN hk _ 0 rfl (Nat.zero_le _)
    simp only [List.drop_zero, List.take_zero] at this
    rw [this]
    simp [hA']
  rw [hc]
  simp

theorem lam_chain (sig : List D) (ms : List M) (M0 : T) : ∀ (N : Nat) (a : T) (ctx : List T), a.size ≤ N → may a = true → termF sig ms M0 (ctx ++ (split a).1) (split a).2 = 0 → termF sig ms (lamN (split a).1.length M0) ctx a = 0 := by
  intro N
  induction N with
  | zero => intro a _ h; have := size_pos a; omega
  | succ N ih =>
    intro a ctx hN hm h0
    by_cases hc : a.k = 1 ∧ a.args.length = 2
    · obtain ⟨d, b, hab⟩ := len2 hc.2
      have hb : b ∈ a.args := by rw [hab]; simp
      have hbs := args_size hb
      rw [split_pi hc.1 hab] at h0 ⊢
      rw [List.length_cons, lamN_succ, termF_lam sig ms hc.1, hab]
      exact ih b (ctx ++ [d]) (by omega) (may_arg hm hb) (by simpa using h0)
    · rw [split_end hc] at h0 ⊢
      simpa [lamN] using h0

/-- The Metas of it are patterns. -/
theorem pat_vars (N : Nat) : patternF (vars N) N = ((vars N).map T.h, true) := by
  have : ∀ (n i : Nat), N - i = n → i ≤ N → patL N (((vars N).take i).map T.h) ((vars N).drop i) = ((vars N).map T.h, true) := by
    intro n
    induction n with
    | zero =>
      intro i hn hi
      have h1 : (vars N).drop i = [] := by simp [vars_length]; omega
      have h2 : (vars N).take i = vars N := List.take_of_length_le (by rw [vars_length]; omega)
      rw [h1, h2, patL]
    | succ n ih =>
      intro i hn hi
      have hlt : i < (vars N).length := by rw [vars_length]; omega
      rw [List.drop_eq_getElem_cons hlt, patL, if_neg]
      · have := ih (i + 1) (by omega) (by omega)
        rwa [take_succ' hlt, List.map_append, List.map_singleton] at this
      · rw [vars_get hlt]
        simp only [T_k_mk, T_h_mk, T_args_mk, List.length_nil, List.mem_map, not_or]
        refine ⟨by simp, by omega, by omega, by omega, ?_⟩
        rintro ⟨x, hx, he⟩
        obtain ⟨j, hj, rfl⟩ := List.getElem_of_mem hx
        simp only [List.length_take] at hj
        rw [List.getElem_take, vars_get (by omega)] at he
        simp only [T_h_mk] at he
        omega
  have h := this N 0 rfl (Nat.zero_le _)
  simpa [patternF] using h
theorem patterns_general (n : Nat) (c : Nat) : patternsF (lamN n (.mk 6 0 (vars (c + n)))) c = true := by
  have hv : ∀ (l : List T) (bd : Bool) (m : Int), (∀ x ∈ l, ∃ i, x = .mk 4 i []) → visitsF patNx l bd m true = true := by
    intro l
    induction l with
    | nil => intro bd m _; rfl
    | cons a l ih =>
      intro bd m h
      obtain ⟨i, rfl⟩ := h a (by simp)
      rw [visitsF, visitF, visitsF]
      have : ∀ z : Int, patNx z (.mk 4 i []) true = true := fun z => by simp [patNx]
      rw [this]
      exact ih bd m fun x hx => h x (by simp [hx])
  have : ∀ (n c N : Nat), N = c + n → visitF patNx (lamN n (.mk 6 0 (vars N))) c true = true := by
    intro n
    induction n with
    | zero =>
      intro c N hN
      simp only [Nat.add_zero] at hN
      subst hN
      simp only [lamN]
      rw [visitF]
      have : patNx N (.mk 6 0 (vars N)) true = true := by
        unfold patNx
        simp only [T_k_mk, T_args_mk, if_true, pat_vars, Bool.and_self]
      rw [this]
      exact hv _ _ _ fun x hx => by
        simp only [vars, List.mem_map] at hx
        obtain ⟨i, _, rfl⟩ := hx
        exact ⟨i, rfl⟩
    | succ n ih =>
      intro c N hN
      rw [lamN_succ, visitF]
      have : patNx c (.mk 3 0 [lamN n (.mk 6 0 (vars N))]) true = true := by simp [patNx]
      rw [this, visitsF, visitsF]
      have := ih (c + 1) N (by omega)
      simpa [bindsB] using this
  exact this n c _ rfl
end Go.Ama

/-! GeneralTyped, plain. -/
namespace Go.Ama
open Go Go.AM

theorem general_fam {psi : List T} {a : T} {n : Int} (h : (general psi a n).2.2.2 = 0) : (∀ x ∈ psi ++ (split a).1, x.k = 2) ∧ (split a).2.k = 2 ∧ general psi a n = (psi ++ (split a).1, (split a).2, lamN (split a).1.length (.mk 6 n (vars (psi.length + (split a).1.length))), 0) ∧ psi.length + (split a).1.length ≤ 40 := by
  unfold general at h ⊢
  split at h
  · simp at h
  · rename_i h1
    split at h
    · simp at h
    · rename_i h2
      rw [if_neg h1, if_neg h2]
      simp only [Bool.not_eq_true, Bool.or_eq_false_iff, decide_eq_false_iff_not, List.any_eq_false, Bool.not_eq_false', decide_eq_true_eq] at h1 h2
      refine ⟨fun x hx => ?_, ?_, rfl, by omega⟩
      · have := h2.1 x hx; simpa using this
      · simpa using h2.2
theorem split_okB {B : Int} : ∀ (N : Nat) (a : T), a.size ≤ N → okB B a → (∀ x ∈ (split a).1, okB B x) ∧ okB B (split a).2 := by
  intro N
  induction N with
  | zero => intro a h; have := size_pos a; omega
  | succ N ih =>
    intro a hN ho
    by_cases hc : a.k = 1 ∧ a.args.length = 2
    · obtain ⟨d, b, hab⟩ := len2 hc.2
      have hd : d ∈ a.args := by rw [hab]; simp
      have hb : b ∈ a.args := by rw [hab]; simp
      have hbs := args_size hb
      rw [split_pi hc.1 hab]
      obtain ⟨h1, h2⟩ := ih b (by omega) (okB_args ho hb)
      exact ⟨fun x hx => by rcases List.mem_cons.1 hx with rfl | hx; exact okB_args ho hd; exact h1 x hx, h2⟩
    · rw [split_end hc]
      exact ⟨by simp, ho⟩

theorem GeneralTyped_plain {sig : List D} {ctx : List T} {a : T} {B : Int} (hB : okBase B) (hcl : ctx.length ≤ 30) (hco : ∀ x ∈ ctx, may x = true → okB B x) (hao : may a = true → okB B a)
    (hc : ctxF sig [] [] ctx = 0) (ht : checkTypeF sig [] ctx a = 0) (hg : (general ctx a 0).2.2.2 = 0) :
    (declsF sig [⟨(general ctx a 0).1, (general ctx a 0).2.1, false⟩]).2 = 0 ∧ checkTermF sig [⟨(general ctx a 0).1, (general ctx a 0).2.1, false⟩] ctx (general ctx a 0).2.2.1 a = 0 ∧ patternsF (general ctx a 0).2.2.1 ctx.length = true := by
  obtain ⟨f1, f2, f3, f4⟩ := general_fam hg
  rw [f3]
  dsimp only
  obtain ⟨hW, hT⟩ := checkTypeF_iff.1 ht
  obtain ⟨w1, w2, w3, w4, w5⟩ := mayW_iff.1 hW
  have ham := w2 a (by simp)
  have hok := hao ham
  obtain ⟨o1, o2⟩ := split_okB _ a (Nat.le_refl _) hok
  obtain ⟨c1, c2, c3, c4⟩ := typ_chain sig [] _ a ctx (Nat.le_refl _) ham hT
  obtain ⟨_, hc2⟩ := ctxF_iff.1 hc
  have hall : ∀ x ∈ ctx ++ (split a).1, may x = true ∧ okB B x := fun x hx => by
    rcases List.mem_append.1 hx with h | h
    · exact ⟨w3 x h, hco x h (w3 x h)⟩
    · exact ⟨c3 x h, o1 x h⟩
  have hlen : (ctx ++ (split a).1).length = ctx.length + (split a).1.length := List.length_append
  refine ⟨?_, ?_, ?_⟩
  · have he : declErrs sig [⟨ctx ++ (split a).1, (split a).2, false⟩] = [declF sig [] ⟨ctx ++ (split a).1, (split a).2, false⟩] := by simp [declErrs]
    unfold declsF
    rw [he, firstF_zero _ (by simp)]
    intro e hm
    simp only [List.mem_singleton] at hm
    subst hm
    unfold declF
    have hctx : ctxF sig [] [] (ctx ++ (split a).1) = 0 := by
      rw [ctxF_iff]
      refine ⟨by omega, fun i hi => ?_⟩
      simp only [List.nil_append, List.length_nil, Nat.zero_add]
      by_cases hlt : i < ctx.length
      · have := hc2 i hlt
        simp only [List.nil_append, List.length_nil, Nat.zero_add] at this
        rw [List.getElem_append_left hlt, List.take_append_of_le_length (by omega)]
        exact this
      · have hj : i - ctx.length < (split a).1.length := by omega
        have := c1 (i - ctx.length) hj
        rw [List.getElem_append_right (by omega), checkTypeF_iff]
        have htk : (ctx ++ (split a).1).take i = ctx ++ (split a).1.take (i - ctx.length) := by
          rw [List.take_append]
          congr 1
          exact List.take_of_length_le (by omega)
        refine ⟨?_, by rw [htk]; exact this⟩
        rw [mayW_iff]
        exact ⟨by simp; omega, fun x hx => by simp at hx; subst hx; exact c3 _ (List.getElem_mem hj), fun x hx => (hall x (List.mem_of_mem_take hx)).1, w4, by simp⟩
    rw [hctx]
    simp only [ne_eq, not_true, if_false, f2, false_or, Bool.false_eq_true, false_and]
    rw [checkTypeF_iff]
    refine ⟨?_, c2⟩
    rw [mayW_iff]
    exact ⟨by omega, fun x hx => by simp at hx; subst hx; exact c4, fun x hx => (hall x hx).1, w4, by simp⟩
  · have hm1 : may (lamN (split a).1.length (.mk 6 0 (vars (ctx.length + (split a).1.length)))) = true :=
      lamN_may (metaN_node 0 (Int.le_refl _) _) (by simp only [T.size, vars_sizes]; omega) (Nat.le_trans (metaN_depth 0 _) (by omega)) _ (by omega)
    have hmw : mayW sig [⟨ctx ++ (split a).1, (split a).2, false⟩] ctx [lamN (split a).1.length (.mk 6 0 (vars (ctx.length + (split a).1.length))), a] = true := by
      rw [mayW_iff]
      refine ⟨w1, fun x hx => ?_, w3, w4, fun m hm => ?_⟩
      · simp only [List.mem_cons, List.not_mem_nil, or_false] at hx
        rcases hx with rfl | rfl
        · exact hm1
        · exact ham
      · simp only [List.mem_singleton] at hm
        subst hm
        exact ⟨c4, fun x hx => (hall x hx).1⟩
    unfold checkTermF
    rw [hmw, if_pos rfl]
    refine lam_chain sig _ _ _ a ctx (Nat.le_refl _) ham ?_
    have := meta_ok sig hB (ctx ++ (split a).1) (split a).2 (by omega) (fun x hx => ⟨f1 x hx, hall x hx⟩) ⟨f2, c4, o2⟩
    rwa [hlen] at this
  · have := patterns_general (split a).1.length ctx.length
    exact this
end Go.Ama

/-! The law GeneralTyped. -/
namespace Go.Proofs.GT
open Go Go.AM Go.Ama
set_option maxRecDepth 100000

theorem awake16 : Ev 4 [] (.bool true) := Ev.of_check (m := 60) (by kernel_rfl)
theorem light_low' {n m : Int} {t : T} (h : light n m t = true) : low t = true ∧ (t.size : Int) ≤ n := by
  unfold light at h
  simp only [Bool.and_eq_true, decide_eq_true_eq] at h
  exact ⟨h.1, h.2.1⟩
theorem okB_low {B : Int} (hB : 1099511627776 ≤ B) {t : T} (h : low t = true) (hm : may t = true) : okB B t := okB_of hB t (may_nodes hm) h

theorem lights_in {n m : Nat} {l : List T} (h : lights (n : Int) (m : Int) l = true) : l.length ≤ 60 ∧ sizes l ≤ l.length * n ∧ ∀ x ∈ l, low x = true := by
  unfold lights at h
  simp only [Bool.and_eq_true, decide_eq_true_eq, List.all_eq_true] at h
  refine ⟨h.1, ?_, fun x hx => (light_low' (h.2 x hx)).1⟩
  have : ∀ l : List T, (∀ x ∈ l, light (n : Int) (m : Int) x = true) → sizes l ≤ l.length * n := by
    intro l
    induction l with
    | nil => intro _; simp [sizes]
    | cons a l ih =>
      intro h
      have h1 := (light_low' (h a (by simp))).2
      have h2 := ih fun x hx => h x (by simp [hx])
      simp only [sizes, List.length_cons, Nat.add_mul]; omega
  exact this l h.2
theorem few9_in {sig : List D} (h : few9 sig = true) : sig.length ≤ 30 ∧ ∀ d ∈ sig, low d.t = true ∧ d.t.size ≤ 1000 := by
  unfold few9 at h
  simp only [Bool.and_eq_true, decide_eq_true_eq, List.all_eq_true] at h
  refine ⟨h.1, fun d hd => ?_⟩
  have := light_low' (h.2 d hd)
  exact ⟨this.1, by omega⟩

theorem GeneralTyped_spec (sig : List D) (ctx : List T) (a : T) (hb : bulkL (encDs sig) + bulkL (encs ctx) + bulkV (enc a) ≤ 1048576) : Ev 3 [.vec .plain (some 4) (encDs sig), .vec .plain (some 3) (encs ctx), enc a] (.bool true) := by
  have hbc := bulk_encs ctx
  have hba := bulk_enc a
  have h0 := awake16.p
  have h1 := (few10_spec sig [] ctx (by omega) (by simp [bulkL]) (by omega)).p
  have h2 := (light_spec a 300 40 (by omega)).p
  simp only [encMs_nil] at h1
  unfold Ev
  rw [C, enc_eta a, e_law16_GeneralTyped, ← enc_eta a, h0, h1, h2, encs_length]
  simp only [obind_some', onBool_bool, Bool.not_true, bc_false]
  cases c1 : few10 sig [] ctx with
  | false => rfl
  | true =>
    cases c2 : light 300 40 a with
    | false => rfl
    | true =>
      by_cases c3 : 30 < ctx.length
      · have : (ctx.length : Int) > 30 := by omega
        simp [this]
      · have c3' : ¬ (ctx.length : Int) > 30 := by omega
        unfold few10 at c1
        simp only [Bool.and_eq_true] at c1
        obtain ⟨g1, g2⟩ := few9_in c1.1
        obtain ⟨g3, g4, g5⟩ := lights_in (n := 500) (m := 80) c1.2.2
        obtain ⟨g6, g7⟩ := light_low' c2
        have hsI : ∀ d ∈ sig, d.t.size ≤ 1048576 ∧ (may d.t = true → okB 4398046511104 d.t) := fun d hd => ⟨by have := (g2 d hd).2; omega, fun hm => okB_low (by omega) (g2 d hd).1 hm⟩
        have hcI : sizes ctx ≤ 1048576 ∧ ∀ x ∈ ctx, may x = true → okB 4398046511104 x := ⟨by omega, fun x hx hm => okB_low (by omega) (g5 x hx) hm⟩
        have haI : may a = true → okB 4398046511104 a := fun hm => okB_low (by omega) g6 hm
        have I0 : In sig [] [] [] := ⟨hsI, by simp, ⟨by simp [sizes], by simp⟩, ⟨by simp [sizes], by simp⟩, by omega, by simp⟩
        have I1 : In sig [] ([] ++ ctx) [] := ⟨hsI, by simp, hcI, ⟨by simp [sizes], by simp⟩, by omega, by simp⟩
        have I2 : In sig [] ctx [a] := ⟨hsI, by simp, hcI, ⟨by simp only [sizes]; omega, fun x hx => by simp at hx; subst hx; exact haI⟩, by omega, by simp⟩
        have k1 := (sig_spec sig I0).p (by simp [belowL, below, below_encDs]) (by simp [below, belowL])
        have k2 := (ctx_spec sig [] [] ctx I1).p (by simp [belowL, below, below_encDs])
        have k3 := (checkType_spec sig [] ctx a I2).p (by simp [belowL, below, below_encDs])
        have k4 := (pgeneral_spec ctx a 0 (by omega)).p (h2 := below_encG _)
        simp only [encMs_nil, encs_nil] at k2 k3
        simp only [Bool.not_true, bc_false, c3', decide_false, k1, obind_some', onTup_tup, onCons_cons, onInt_int, onNil_nil]
        by_cases e1 : (sigF sig).2 = 0
        · simp only [e1, bc_bne_f, k2, obind_some', onInt_int]
          by_cases e2 : ctxF sig [] [] ctx = 0
          · simp only [e2, bc_bne_f, k3, obind_some', onInt_int]
            by_cases e3 : checkTypeF sig [] ctx a = 0
            · simp only [e3, bc_bne_f, k4, encG, encMD_eq, obind_some', onTup_tup, onCons_cons, onM, onStruct_enc, onInt_int, onNil_nil]
              by_cases e4 : (general ctx a 0).2.2.2 = 0
              · obtain ⟨p1, p2, p3⟩ := GeneralTyped_plain (B := 4398046511104) (by unfold okBase; omega) (by omega) hcI.2 haI e2 e3 e4
                obtain ⟨f1, f2, f3, f4⟩ := general_fam e4
                have hss := split_size a.size a (Nat.le_refl _)
                have hok : may a = true := (mayW_iff.1 (checkTypeF_iff.1 e3).1).2.1 a (by simp)
                obtain ⟨o1, o2⟩ := split_okB _ a (Nat.le_refl _) (haI hok)
                have hmI : ∀ m ∈ [(⟨(general ctx a 0).1, (general ctx a 0).2.1, false⟩ : M)], sizes m.ctx + m.t.size ≤ 1048576 ∧ (may m.t = true → okB 4398046511104 m.t) ∧ ∀ x ∈ m.ctx, may x = true → okB 4398046511104 x := fun m hm => by
                  simp only [List.mem_singleton] at hm
                  subst hm
                  rw [f3]
                  simp only [sizes_append]
                  refine ⟨by omega, fun _ => o2, fun x hx hmx => ?_⟩
                  rcases List.mem_append.1 hx with h | h
                  · exact hcI.2 x h hmx
                  · exact o1 x h
                have hts : (general ctx a 0).2.2.1.size ≤ 1000 ∧ okB 4398046511104 (general ctx a 0).2.2.1 := by
                  have this : okB 4398046511104 (general ctx a 0).2.2.1 ∧ (general ctx a 0).2.2.1.size ≤ 100 := general_okB (psi := ctx) (a := a) (n := 0) (B := 4398046511104) (by omega) (by omega) e4
                  exact ⟨by omega, this.1⟩
                have k5 := (decls_spec sig [⟨(general ctx a 0).1, (general ctx a 0).2.1, false⟩] ⟨hsI, hmI, ⟨by simp [sizes], by simp⟩, ⟨by simp [sizes], by simp⟩, by omega, by simp⟩).p (by simp [belowL, below, below_encDs]) (by simp [below, belowL])
                have k6 := (checkTerm_spec sig [⟨(general ctx a 0).1, (general ctx a 0).2.1, false⟩] ctx (general ctx a 0).2.2.1 a ⟨hsI, hmI, hcI, ⟨by simp only [sizes]; omega, fun x hx hmx => by
                  simp only [List.mem_cons, List.not_mem_nil, or_false] at hx
                  rcases hx with rfl | rfl
                  · exact hts.2
                  · exact haI hmx⟩, by omega, by simp⟩).p (by simp [belowL, below, below_encDs])
                have k7 := (patterns_spec (general ctx a 0).2.2.1 ctx.length (by omega) (by omega) (by omega)).p
                simp only [encMs_cons, encMs_nil, encM] at k5 k6
                simp only [e4, bc_bne_f, k5, obind_some', onTup_tup, onCons_cons, onInt_int, onNil_nil, p1, ← enc_eta, k6, p2, k7, p3, onBool_bool]
                simp
              · have hx : (general ctx a 0).2.2.2 = 1 ∨ (general ctx a 0).2.2.2 = 5 := by
                  unfold general at e4 ⊢
                  split
                  · exact .inl rfl
                  · rename_i c
                    rw [if_neg c] at e4
                    split
                    · exact .inr rfl
                    · rename_i c'; rw [if_neg c'] at e4; exact absurd rfl e4
                rcases hx with hx | hx <;> simp [hx]
            · simp [e3]
          · simp [e2]
        · simp [e1]

theorem pure_GeneralTyped : ∀ us, WArgs Try.prog [22, 23, 25] us → bulkL us ≤ 1048576 → ∃ m st, (fuelO Try.prog cfg ext m).call 3 us [] = some (.ret (.bool true), st) := by
  intro us hW hb
  match us, hW with
  | [u, v, w], ⟨h1, h2, h3, h4, h5, h6, _⟩ =>
    obtain ⟨sig, rfl⟩ := dec_decls ⟨h1, h2⟩
    obtain ⟨ctx, rfl⟩ := dec_list ⟨h3, h4⟩
    obtain ⟨a, rfl⟩ := dec_term ⟨h5, h6⟩
    simp only [bulkL, bulkV] at hb
    exact of_ev (GeneralTyped_spec sig ctx a (by omega))
end Go.Proofs.GT
