import Derived.Test.YtenlhfefnpehcaaGb
/- The program's functions, each an equation of the abstract machine checked by the kernel, and what they come to as_ plain Lean. -/
set_option linter.unusedVariables false
set_option linter.unusedSimpArgs false
set_option linter.unusedSectionVars false
/-! What a law is handed: metas, functions. -/
namespace Go.Proofs.SP
open Go Go.AM Go.Ama
set_option maxRecDepth 20000

/-- Slices of structs. -/
theorem dec_slice {α : Type} {en : α → V} {sl e k : Nat} (hu : Try.prog.underlying sl = some (.slice e)) (hsh : shOf Try.prog e = some k) (hd : ∀ n cs, WT Try.prog n e cs → ∃ a, V.agg cs = en a) :
    ∀ n cs, WT Try.prog n sl cs → ∃ l : List α, cs = [.vec .plain (some k) (l.map en)] := by
  intro n cs h
  cases n with
  | zero => exact h.elim
  | succ n =>
    simp only [WT, hu] at h
    obtain ⟨es, he0, _, he⟩ := h
    rw [hsh] at he he0
    have : ∀ es : List V, (∀ v ∈ es, Shaped (some k) v ∧ WT Try.prog n e (AM.cellsOf v)) → ∃ l : List α, es = l.map en := by
      intro es
      induction es with
      | nil => intro _; exact ⟨[], rfl⟩
      | cons v es ihe =>
        intro h
        obtain ⟨h1, h2⟩ := h v (by simp)
        obtain ⟨l, hl⟩ := ihe fun u hu => h u (by simp [hu])
        cases v with
        | agg cs =>
          obtain ⟨d, hd⟩ := hd n cs h2
          exact ⟨d :: l, by rw [hl, hd]; rfl⟩
        | _ => exact h1.elim
    obtain ⟨l, rfl⟩ := this es he
    exact ⟨l, he0⟩
theorem dec_slice' {α : Type} {en : α → V} {sl : Nat} {k : Nat} (hsh : shOf Try.prog sl = none) (hd : ∀ n cs, WT Try.prog n sl cs → ∃ l : List α, cs = [.vec .plain (some k) (l.map en)]) {v : V} (h : (∃ n, WT Try.prog n sl (AM.cellsOf v)) ∧ Shaped (shOf Try.prog sl) v) : ∃ l : List α, v = .vec .plain (some k) (l.map en) := by
  obtain ⟨⟨n, h1⟩, h2⟩ := h
  rw [hsh] at h2
  rw [one_cell h2] at h1
  obtain ⟨l, hl⟩ := hd n _ h1
  simp only [List.cons.injEq, and_true] at hl
  exact ⟨l, hl⟩
theorem dec_struct' {α : Type} {en : α → V} {t k : Nat} (hsh : shOf Try.prog t = some k) (hd : ∀ n cs, WT Try.prog n t cs → ∃ a : α, V.agg cs = en a) {v : V} (h : (∃ n, WT Try.prog n t (AM.cellsOf v)) ∧ Shaped (shOf Try.prog t) v) : ∃ a, v = en a := by
  obtain ⟨⟨n, h1⟩, h2⟩ := h
  rw [hsh] at h2
  cases v with
  | agg cs => exact hd n cs h1
  | _ => exact h2.elim
theorem dec_bool {n : Nat} {cs : List V} (h : WT Try.prog n 4 cs) : ∃ b, cs = [.bool b] := by
  cases n with
  | zero => exact h.elim
  | succ n => simpa only [WT, Try.underlying4] using h
theorem cellsBool : Try.prog.cellsOf 4 = 1 := by kernel_rfl
theorem term_parts {cs : List V} {t : T} (h : V.agg cs = enc t) : cs = [.int t.k, .int t.h, .vec .plain (some 3) (encs t.args)] := by
  rw [enc_eta] at h; simpa using h

theorem shMeta : shOf Try.prog 50 = some 5 := by kernel_rfl
theorem shMetas : shOf Try.prog 24 = none := by kernel_rfl
theorem cellsMeta : Try.prog.cellsOf 50 = 5 := by kernel_rfl
theorem cellsMetas : Try.prog.cellsOf 24 = 1 := by kernel_rfl
theorem listN {n : Nat} {l : List V} (h : l.length = n + 1) : ∃ x r, l = x :: r ∧ r.length = n := by
  cases l with
  | nil => simp at h
  | cons x r => exact ⟨x, r, rfl, by simpa using h⟩
theorem dec_metac : ∀ n cs, WT Try.prog n 50 cs → ∃ m, V.agg cs = encM m := by
  intro n cs h
  cases n with
  | zero => exact h.elim
  | succ n =>
    simp only [WT, Try.underlying50] at h
    obtain ⟨hl, hf⟩ := h
    rw [cellsMeta] at hl
    obtain ⟨a1, cs1, e1, hl1⟩ := listN hl
    obtain ⟨a2, cs2, e2, hl2⟩ := listN hl1
    obtain ⟨a3, cs3, e3, hl3⟩ := listN hl2
    obtain ⟨a4, cs4, e4, hl4⟩ := listN hl3
    obtain ⟨a5, cs5, e5, hl5⟩ := listN hl4
    have e0 := List.length_eq_zero_iff.1 hl5
    subst e0 e5 e4 e3 e2 e1
    simp only [List.forall_mem_cons] at hf
    obtain ⟨f1, f2, f3, _⟩ := hf
    simp only [cellsTerms, cellsTerm, cellsBool, List.drop_zero, List.drop_succ_cons, List.take_succ_cons, List.take_zero] at f1 f2 f3
    obtain ⟨ctx, hc⟩ := (dec_terms n).2 _ f1
    obtain ⟨t, ht⟩ := (dec_terms n).1 _ f2
    obtain ⟨b, hb⟩ := dec_bool f3
    have ht := term_parts ht
    simp only [List.cons.injEq, and_true] at hc ht hb
    obtain ⟨rfl, rfl, rfl⟩ := ht
    subst hc hb
    exact ⟨⟨ctx, t, b⟩, rfl⟩
theorem dec_metasc : ∀ n cs, WT Try.prog n 24 cs → ∃ l, cs = [.vec .plain (some 5) (encMs l)] := dec_slice Try.underlying24 shMeta dec_metac
theorem dec_metas {v : V} (h : (∃ n, WT Try.prog n 24 (AM.cellsOf v)) ∧ Shaped (shOf Try.prog 24) v) : ∃ l, v = .vec .plain (some 5) (encMs l) := dec_slice' shMetas dec_metasc h
theorem dec_meta {v : V} (h : (∃ n, WT Try.prog n 50 (AM.cellsOf v)) ∧ Shaped (shOf Try.prog 50) v) : ∃ m, v = encM m := dec_struct' shMeta dec_metac h

theorem shCall : shOf Try.prog 68 = some 6 := by kernel_rfl
theorem shCalls : shOf Try.prog 54 = none := by kernel_rfl
theorem cellsCall : Try.prog.cellsOf 68 = 6 := by kernel_rfl
theorem cellsCalls : Try.prog.cellsOf 54 = 1 := by kernel_rfl
theorem dec_callc : ∀ n cs, WT Try.prog n 68 cs → ∃ m, V.agg cs = encCall m := by
  intro n cs h
  cases n with
  | zero => exact h.elim
  | succ n =>
    simp only [WT, Try.underlying68] at h
    obtain ⟨hl, hf⟩ := h
    rw [cellsCall] at hl
    obtain ⟨a1, cs1, e1, hl1⟩ := listN hl
    obtain ⟨a2, cs2, e2, hl2⟩ := listN hl1
    obtain ⟨a3, cs3, e3, hl3⟩ := listN hl2
    obtain ⟨a4, cs4, e4, hl4⟩ := listN hl3
    obtain ⟨a5, cs5, e5, hl5⟩ := listN hl4
    obtain ⟨a6, cs6, e6, hl6⟩ := listN hl5
    have e0 := List.length_eq_zero_iff.1 hl6
    subst e0 e6 e5 e4 e3 e2 e1
    simp only [List.forall_mem_cons] at hf
    obtain ⟨f1, f2, f3, f4, _⟩ := hf
    simp only [cellsInt, cellsTerms, cellsTerm, List.drop_zero, List.drop_succ_cons, List.take_succ_cons, List.take_zero] at f1 f2 f3 f4
    obtain ⟨k, hk, _⟩ := dec_int f1
    obtain ⟨e, he⟩ := (dec_terms n).2 _ f2
    obtain ⟨th, hth⟩ := (dec_terms n).2 _ f3
    obtain ⟨t, ht⟩ := (dec_terms n).1 _ f4
    have ht := term_parts ht
    simp only [List.cons.injEq, and_true] at hk he hth ht
    obtain ⟨rfl, rfl, rfl⟩ := ht
    subst hk he hth
    exact ⟨⟨k, e, th, t⟩, rfl⟩
theorem dec_callsc : ∀ n cs, WT Try.prog n 54 cs → ∃ l, cs = [.vec .plain (some 6) (encCalls l)] := dec_slice Try.underlying54 shCall dec_callc

theorem shClause : shOf Try.prog 56 = some 9 := by kernel_rfl
theorem shClauses : shOf Try.prog 27 = none := by kernel_rfl
theorem cellsClause : Try.prog.cellsOf 56 = 9 := by kernel_rfl
theorem cellsClauses : Try.prog.cellsOf 27 = 1 := by kernel_rfl
theorem dec_clausec : ∀ n cs, WT Try.prog n 56 cs → ∃ m, V.agg cs = encCl m := by
  intro n cs h
  cases n with
  | zero => exact h.elim
  | succ n =>
    simp only [WT, Try.underlying56] at h
    obtain ⟨hl, hf⟩ := h
    rw [cellsClause] at hl
    obtain ⟨a1, cs1, e1, hl1⟩ := listN hl
    obtain ⟨a2, cs2, e2, hl2⟩ := listN hl1
    obtain ⟨a3, cs3, e3, hl3⟩ := listN hl2
    obtain ⟨a4, cs4, e4, hl4⟩ := listN hl3
    obtain ⟨a5, cs5, e5, hl5⟩ := listN hl4
    obtain ⟨a6, cs6, e6, hl6⟩ := listN hl5
    obtain ⟨a7, cs7, e7, hl7⟩ := listN hl6
    obtain ⟨a8, cs8, e8, hl8⟩ := listN hl7
    obtain ⟨a9, cs9, e9, hl9⟩ := listN hl8
    have e0 := List.length_eq_zero_iff.1 hl9
    subst e0 e9 e8 e7 e6 e5 e4 e3 e2 e1
    simp only [List.forall_mem_cons] at hf
    obtain ⟨f1, f2, f3, f4, f5, _⟩ := hf
    simp only [cellsMetas, cellsTerms, cellsTerm, cellsCalls, List.drop_zero, List.drop_succ_cons, List.take_succ_cons, List.take_zero] at f1 f2 f3 f4 f5
    obtain ⟨ms, hms⟩ := dec_metasc _ _ f1
    obtain ⟨th, hth⟩ := (dec_terms n).2 _ f2
    obtain ⟨p, hp⟩ := (dec_terms n).1 _ f3
    obtain ⟨cl, hcl⟩ := dec_callsc _ _ f4
    obtain ⟨r, hr⟩ := (dec_terms n).1 _ f5
    have hp := term_parts hp
    have hr := term_parts hr
    simp only [List.cons.injEq, and_true] at hms hth hp hcl hr
    obtain ⟨rfl, rfl, rfl⟩ := hp
    obtain ⟨rfl, rfl, rfl⟩ := hr
    subst hms hth hcl
    exact ⟨⟨ms, th, p, cl, r⟩, rfl⟩
theorem dec_clausesc : ∀ n cs, WT Try.prog n 27 cs → ∃ l, cs = [.vec .plain (some 9) (encCls l)] := dec_slice Try.underlying27 shClause dec_clausec
theorem dec_clause {v : V} (h : (∃ n, WT Try.prog n 56 (AM.cellsOf v)) ∧ Shaped (shOf Try.prog 56) v) : ∃ m, v = encCl m := dec_struct' shClause dec_clausec h

theorem shFun : shOf Try.prog 29 = some 13 := by kernel_rfl
theorem cellsFun : Try.prog.cellsOf 29 = 13 := by kernel_rfl
theorem dec_func : ∀ n cs, WT Try.prog n 29 cs → ∃ m, V.agg cs = encFn m := by
  intro n cs h
  cases n with
  | zero => exact h.elim
  | succ n =>
    simp only [WT, Try.underlying29] at h
    obtain ⟨hl, hf⟩ := h
    rw [cellsFun] at hl
    obtain ⟨a1, cs1, e1, hl1⟩ := listN hl
    obtain ⟨a2, cs2, e2, hl2⟩ := listN hl1
    obtain ⟨a3, cs3, e3, hl3⟩ := listN hl2
    obtain ⟨a4, cs4, e4, hl4⟩ := listN hl3
    obtain ⟨a5, cs5, e5, hl5⟩ := listN hl4
    obtain ⟨a6, cs6, e6, hl6⟩ := listN hl5
    obtain ⟨a7, cs7, e7, hl7⟩ := listN hl6
    obtain ⟨a8, cs8, e8, hl8⟩ := listN hl7
    obtain ⟨a9, cs9, e9, hl9⟩ := listN hl8
    obtain ⟨b1, cs10, e10, hl10⟩ := listN hl9
    obtain ⟨b2, cs11, e11, hl11⟩ := listN hl10
    obtain ⟨b3, cs12, e12, hl12⟩ := listN hl11
    obtain ⟨b4, cs13, e13, hl13⟩ := listN hl12
    have e0 := List.length_eq_zero_iff.1 hl13
    subst e0 e13 e12 e11 e10 e9 e8 e7 e6 e5 e4 e3 e2 e1
    simp only [List.forall_mem_cons] at hf
    obtain ⟨f1, f2, f3, f4, f5, f6, f7, f8, f9, _⟩ := hf
    simp only [cellsString, cellsBool, cellsMetas, cellsTerms, cellsTerm, cellsClauses, List.drop_zero, List.drop_succ_cons, List.take_succ_cons, List.take_zero] at f1 f2 f3 f4 f5 f6 f7 f8 f9
    obtain ⟨nm, hnm⟩ := dec_string f1
    obtain ⟨sc, hsc⟩ := (dec_terms n).2 _ f2
    obtain ⟨dl, hdl⟩ := dec_metasc _ _ f3
    obtain ⟨ps, hps⟩ := (dec_terms n).2 _ f4
    obtain ⟨a, ha⟩ := (dec_terms n).1 _ f5
    obtain ⟨ph, hph⟩ := (dec_terms n).2 _ f6
    obtain ⟨b, hb⟩ := (dec_terms n).1 _ f7
    obtain ⟨t, ht⟩ := dec_bool f8
    obtain ⟨c, hc⟩ := dec_clausesc _ _ f9
    have ha := term_parts ha
    have hb := term_parts hb
    simp only [List.cons.injEq, and_true] at hnm hsc hdl hps ha hph hb ht hc
    obtain ⟨rfl, rfl, rfl⟩ := ha
    obtain ⟨rfl, rfl, rfl⟩ := hb
    subst hnm hsc hdl hps hph ht hc
    exact ⟨⟨nm, sc, dl, ps, a, ph, b, t, c⟩, rfl⟩
theorem dec_fun {v : V} (h : (∃ n, WT Try.prog n 29 (AM.cellsOf v)) ∧ Shaped (shOf Try.prog 29) v) : ∃ m, v = encFn m := dec_struct' shFun dec_func h
end Go.Proofs.SP

/-! The laws of split. -/
namespace Go.Proofs.SP
open Go Go.AM Go.Ama
set_option maxRecDepth 100000

theorem rlist_same (l : List T) (hs : sizes l ≤ 1099511627776) : Ev 25 [.vec .plain (some 3) (encs l), .vec .plain (some 3) (encs l)] (.bool true) := by
  have hlen := length_le_sizes l
  have hl := all_loop' (L := fun i => W.loop 25 4 [.int i, .vec .plain (some 3) (encs l), .vec .plain (some 3) (encs l)] []) (xs := l) (g := fun _ => true) (e0 := (Ex.exit 0, [], [])) (e1 := (Ex.ret, [V.bool false], []))
    (fun i hi => by
      have hz : l[i].size ≤ 1099511627776 := by have := size_le (List.getElem_mem hi); omega
      have hp := (rsame_spec l[i] l[i] hz hz).p
      have hlt : decide ((i : Int) < l.length) = true := by simp; omega
      show W.loop _ _ _ _ = _
      rw [L, e_ref01_List_L4, encs_length, getI_encs hi, wrap_id ⟨by omega, by omega⟩]
      simp only [hlt, Int.natCast_nonneg, decide_true, bc_true, Bool.and_self, gd_true, onStruct_enc, ← enc_eta, hp, obind_some', onBool_bool, same_self]
      rfl)
    (by
      show W.loop _ _ _ _ = _
      rw [L, e_ref01_List_L4, encs_length]
      simp)
  have hl' : W.loop 25 4 [.int 0, .vec .plain (some 3) (encs l), .vec .plain (some 3) (encs l)] [] = some (Ex.exit 0, [], []) := by simpa using hl
  unfold Ev
  rw [C, e_ref01_List, hl']
  simp
theorem onMp {R : Type} (m : M) (K : Bool → Option R) : onAgg (encM m) (fun c => gd (decide (5 ≤ c.length)) (onBool (AM.partOf c 4 none) K)) = K m.param := rfl
theorem onCm {R : Type} (m : Cs) (K : List V → Option R) : onAgg (encC m) (fun c => gd (decide (1 ≤ c.length)) (onVec (some 5) (AM.partOf c 0 none) K)) = K (encMs m.ms) := by
  show gd true (onVec (some 5) (.vec .plain (some 5) (encMs m.ms)) K) = _
  simp
theorem onCq {R : Type} (m : Cs) (K : Int → Int → List V → Option R) : onAgg (encC m) (fun c => gd (decide (4 ≤ c.length)) (onCells (R := R) [CT.int, CT.int, CT.slice (some 3)] (List.take 3 (List.drop 1 c)) K)) = K m.q.k m.q.h (encs m.q.args) := rfl
theorem onCt {R : Type} (m : Cs) (K : Int → Int → List V → Option R) : onAgg (encC m) (fun c => gd (decide (7 ≤ c.length)) (onCells (R := R) [CT.int, CT.int, CT.slice (some 3)] (List.take 3 (List.drop 4 c)) K)) = K m.t.k m.t.h (encs m.t.args) := rfl

theorem rmetas_same (l : List M) (hn : l.length ≤ 1099511627776) (hs : ∀ m ∈ l, sizes m.ctx + m.t.size ≤ 1099511627776) : Ev 10 [.vec .plain (some 5) (encMs l), .vec .plain (some 5) (encMs l)] (.bool true) := by
  have hl := all_loop' (L := fun i => W.loop 10 4 [.int i, .vec .plain (some 5) (encMs l), .vec .plain (some 5) (encMs l)] []) (xs := l) (g := fun _ => true) (e0 := (Ex.exit 0, [], [])) (e1 := (Ex.ret, [V.bool false], []))
    (fun i hi => by
      have hz := hs _ (List.getElem_mem hi)
      have hp := (rsame_spec l[i].t l[i].t (by omega) (by omega)).p
      have hq := (rlist_same l[i].ctx (by omega)).p
      have hlt : decide ((i : Int) < l.length) = true := by simp; omega
      show W.loop _ _ _ _ = _
      rw [L, e_ref19_Metas_L4, encMs_length, getI_encMs hi, wrap_id ⟨by omega, by omega⟩]
      simp only [hlt, Int.natCast_nonneg, decide_true, bc_true, Bool.and_self, gd_true, onMc, onMt, onMp, ← enc_eta, hp, hq, obind_some', onBool_bool, same_self]
      cases l[i].param <;> rfl)
    (by
      show W.loop _ _ _ _ = _
      rw [L, e_ref19_Metas_L4, encMs_length]
      simp)
  have hl' : W.loop 10 4 [.int 0, .vec .plain (some 5) (encMs l), .vec .plain (some 5) (encMs l)] [] = some (Ex.exit 0, [], []) := by simpa using hl
  unfold Ev
  rw [C, e_ref19_Metas, hl']
  simp

theorem rcases_same (l : List Cs) (hn : l.length ≤ 1099511627776) (hs : ∀ c ∈ l, c.ms.length ≤ 1099511627776 ∧ (∀ m ∈ c.ms, sizes m.ctx + m.t.size ≤ 1099511627776) ∧ c.q.size ≤ 1099511627776 ∧ c.t.size ≤ 1099511627776) : Ev 11 [.vec .plain (some 7) (encCs l), .vec .plain (some 7) (encCs l)] (.bool true) := by
  have hl := all_loop' (L := fun i => W.loop 11 4 [.int i, .vec .plain (some 7) (encCs l), .vec .plain (some 7) (encCs l)] []) (xs := l) (g := fun _ => true) (e0 := (Ex.exit 0, [], [])) (e1 := (Ex.ret, [V.bool false], []))
    (fun i hi => by
      obtain ⟨z1, z2, z3, z4⟩ := hs _ (List.getElem_mem hi)
      have hm := (rmetas_same l[i].ms z1 z2).p
      have hp := (rsame_spec l[i].q l[i].q z3 z3).p
      have hq := (rsame_spec l[i].t l[i].t z4 z4).p
      have hlt : decide ((i : Int) < l.length) = true := by simp; omega
      show W.loop _ _ _ _ = _
      rw [L, e_ref19_Same_L4, encCs_length, getI_encCs hi, wrap_id ⟨by omega, by omega⟩]
      simp only [hlt, Int.natCast_nonneg, decide_true, bc_true, Bool.and_self, gd_true, onCm, onCq, onCt, ← enc_eta, hm, hp, hq, obind_some', onBool_bool, same_self]
      rfl)
    (by
      show W.loop _ _ _ _ = _
      rw [L, e_ref19_Same_L4, encCs_length]
      simp)
  have hl' : W.loop 11 4 [.int 0, .vec .plain (some 7) (encCs l), .vec .plain (some 7) (encCs l)] [] = some (Ex.exit 0, [], []) := by simpa using hl
  unfold Ev
  rw [C, e_ref19_Same, hl']
  simp

theorem awake19 : Ev 5 [] (.bool true) := Ev.of_check (m := 60) (by kernel_rfl)

def restOf (f : Fun1) : Rest := ⟨encs f.phi, encs f.b.args, encCls f.clauses, ba f.name, f.b.k, f.b.h, f.total, fun n => ⟨below_encs n _, below_encs n _, below_encCls n _⟩⟩
theorem funV_eq (f : Fun1) : encFn f = funV f.schema f.delta f.psi f.a (restOf f) := rfl

theorem light_low {n m : Int} {t : T} (h : light n m t = true) : low t = true ∧ (t.size : Int) ≤ n := by
  unfold light at h
  simp only [Bool.and_eq_true, decide_eq_true_eq] at h
  exact ⟨h.1, h.2.1⟩
theorem lights_size {n m : Nat} {l : List T} (h : lights (n : Int) (m : Int) l = true) : l.length ≤ 60 ∧ sizes l ≤ l.length * n := by
  unfold lights at h
  simp only [Bool.and_eq_true, decide_eq_true_eq, List.all_eq_true] at h
  refine ⟨h.1, ?_⟩
  have : ∀ l : List T, (∀ x ∈ l, light (n : Int) (m : Int) x = true) → sizes l ≤ l.length * n := by
    intro l
    induction l with
    | nil => intro _; simp [sizes]
    | cons a l ih =>
      intro h
      have h1 := (light_low (h a (by simp))).2
      have h2 := ih fun x hx => h x (by simp [hx])
      simp only [sizes, List.length_cons, Nat.add_mul]; omega
  exact this l h.2

/-- What the guards say. -/
theorem guards19 {sig : List D} {f : Fun1} (h1 : few10 sig [] [] = true) (h2 : lightFn f = true) :
    (∀ d ∈ sig, low d.t = true ∧ d.t.size ≤ 1048576) ∧ sig.length ≤ 1000 ∧ sizes f.schema ≤ 1048576 ∧ f.schema.length ≤ 1000 ∧ sizes f.psi ≤ 1048576 ∧ (∀ m ∈ f.delta, sizes m.ctx + m.t.size ≤ 1048576) ∧ f.delta.length ≤ 30 ∧ f.a.size ≤ 1048576 := by
  unfold few10 few9 at h1
  unfold lightFn fewM at h2
  simp only [Bool.and_eq_true, decide_eq_true_eq, List.all_eq_true] at h1 h2
  obtain ⟨⟨s1, s2⟩, _⟩ := h1
  obtain ⟨⟨d1, d2⟩, sc, ps, ph, a, b, _⟩ := h2
  have q1 := lights_size (n := 300) (m := 60) sc
  have q2 := lights_size (n := 300) (m := 60) ps
  have q3 := light_low a
  refine ⟨fun d hd => ?_, by omega, by omega, by omega, by omega, fun m hm => ?_, by omega, by omega⟩
  · have := light_low (s2 d hd); exact ⟨this.1, by omega⟩
  · have h := d2 m hm
    have r1 := lights_size (n := 500) (m := 80) h.1
    have r2 := (light_low h.2).2
    omega

theorem SplitOnly_spec (sig : List D) (f g : Fun1) (hb : bulkL (encDs sig) + bulkV (encFn f) + bulkV (encFn g) ≤ 1048576) : Ev 4 [.vec .plain (some 4) (encDs sig), encFn f, encFn g] (.bool true) := by
  have ha := awake19.p
  have h1 := (few10_spec sig [] [] (by omega) (by simp [bulkL]) (by simp [sizes])).p
  have h2 := (lightFn_spec f (by omega)).p
  have h3 := (lightFn_spec g (by omega)).p
  simp only [encMs_nil, encs_nil] at h1
  unfold Ev
  rw [C, encFn_eta f, encFn_eta g, e_law19_SplitOnly, ← encFn_eta f, ← encFn_eta g, ha, h1, h2, h3]
  simp only [obind_some', onBool_bool, Bool.not_true, bc_false]
  cases c1 : few10 sig [] [] with
  | false => rfl
  | true =>
    cases c2 : lightFn f with
    | false => rfl
    | true =>
      cases c3 : lightFn g with
      | false => rfl
      | true =>
        obtain ⟨g1, g2, g3, g4, g5, g6, g7, g8⟩ := guards19 c1 c2
        have k1 := (Cases_spec sig f.schema f.delta f.psi f.a (restOf f) g1 g2 g3 g4 g5 (fun m hm => by have := g6 m hm; have := length_le_sizes m.ctx; omega) g8).p (by rw [← funV_eq]; simp [belowL, below]) (by simp [below, belowL])
        have k2 := (Cases_spec sig f.schema f.delta f.psi f.a (restOf g) g1 g2 g3 g4 g5 (fun m hm => by have := g6 m hm; have := length_le_sizes m.ctx; omega) g8).p (by simp [belowL, below, restOf]) (by simp [below, belowL])
        have ok := casesF_ok (sch := f.schema) (dl := f.delta) (psi := f.psi) (a := f.a) (fun d hd => (g1 d hd).1) (by omega) g5
        have hlen : (casesF sig f.schema f.delta f.psi f.a).1.length ≤ 1099511627776 := by
          have := casesF_length sig f.schema f.delta f.psi f.a
          have := length_le_sizes f.psi
          omega
        have k3 := (rcases_same (casesF sig f.schema f.delta f.psi f.a).1 hlen (fun c hc => by
          obtain ⟨⟨more, r1, r2, r3⟩, r4, r5, r6⟩ := ok c hc
          rw [r1]
          refine ⟨by simp; omega, fun m hm => ?_, by omega, by omega⟩
          rcases List.mem_append.1 hm with hm | hm
          · have := g6 m hm; omega
          · have := r3 m hm; omega)).p
        have k4 := (rsame_spec f.a f.a (by omega) (by omega)).p
        rw [← funV_eq] at k1
        simp only [restOf] at k2
        simp only [Bool.not_true, bc_false, k1, obind_some', onTup_tup, onCons_cons, onVec_plain, onInt_int, onNil_nil, k2, k3, onBool_bool, ← enc_eta, k4, same_self]
        simp

theorem casesF_err {sig : List D} {sch : List T} {dl : List M} {psi : List T} {a : T} (h : (casesF sig sch dl psi a).2 ≠ 0) : (casesF sig sch dl psi a).1 = [] := by
  unfold casesF at h ⊢
  split
  · rename_i c
    rw [if_pos c] at h
    split
    · rename_i c2; rw [if_pos c2] at h; exact absurd c2 h
    · rfl
  · rfl

theorem SplitMetas_spec (sig : List D) (f : Fun1) (hb : bulkL (encDs sig) + bulkV (encFn f) ≤ 1048576) : Ev 3 [.vec .plain (some 4) (encDs sig), encFn f] (.bool true) := by
  have ha := awake19.p
  have h1 := (few10_spec sig [] [] (by omega) (by simp [bulkL]) (by simp [sizes])).p
  have h2 := (lightFn_spec f (by omega)).p
  simp only [encMs_nil, encs_nil] at h1
  unfold Ev
  rw [C]
  conv => lhs; rw [encFn_eta f]
  rw [e_law19_SplitMetas, ← encFn_eta f, ha, h1, h2]
  simp only [obind_some', onBool_bool, Bool.not_true, bc_false]
  cases c1 : few10 sig [] [] with
  | false => rfl
  | true =>
    cases c2 : lightFn f with
    | false => rfl
    | true =>
      obtain ⟨g1, g2, g3, g4, g5, g6, g7, g8⟩ := guards19 c1 c2
      have k1 := (Cases_spec sig f.schema f.delta f.psi f.a (restOf f) g1 g2 g3 g4 g5 (fun m hm => by have := g6 m hm; have := length_le_sizes m.ctx; omega) g8).p (by rw [← funV_eq]; simp [belowL, below]) (by simp [below, belowL])
      have ok := casesF_ok (sch := f.schema) (dl := f.delta) (psi := f.psi) (a := f.a) (fun d hd => (g1 d hd).1) (by omega) g5
      have hlen := casesF_length sig f.schema f.delta f.psi f.a
      have hpl := length_le_sizes f.psi
      have k4 := (rmetas_same f.delta (by omega) (fun m hm => by have := g6 m hm; omega)).p
      have k5 := (family_spec f.a).p
      rw [← funV_eq] at k1
      simp only [Bool.not_true, bc_false, k1, obind_some', onTup_tup, onCons_cons, onVec_plain, onInt_int, onNil_nil, encCs_length, encMs_length]
      by_cases he : (casesF sig f.schema f.delta f.psi f.a).2 = 0
      · generalize (casesF sig f.schema f.delta f.psi f.a).1 = l at *
        have hl := all_loop' (L := fun i => W.loop 3 11 [.int i, .loc false (some 13) (encFn f), .int f.delta.length, .vec .plain (some 7) (encCs l)] []) (xs := l) (g := fun _ => true) (e0 := (Ex.exit 0, [], [])) (e1 := (Ex.ret, [V.bool false], []))
          (fun i hi => by
            obtain ⟨⟨more, r1, r2, r3⟩, r4, r5, r6⟩ := ok _ (List.getElem_mem hi)
            have k6 := (family_spec l[i].t).p
            have hlt : decide ((i : Int) < l.length) = true := by simp; omega
            have hge : decide (((encMs l[i].ms).length : Int) < f.delta.length) = false := by rw [r1]; simp; omega
            have hge2 : decide ((f.delta.length : Int) ≤ ((encMs l[i].ms).length : Int)) = true := by rw [r1]; simp; omega
            have htk : List.drop 0 (List.take (f.delta.length : Int).toNat (encMs l[i].ms)) = encMs f.delta := by rw [r1]; simp
            show W.loop _ _ _ _ = _
            rw [L, encFn_eta f, e_law19_SplitMetas_L11, ← encFn_eta f, encCs_length, getI_encCs hi, wrap_id ⟨by omega, by omega⟩]
            simp only [hlt, Int.natCast_nonneg, decide_true, bc_true, Bool.and_self, gd_true, onCm, hge, bc_false, onCt, ← enc_eta, k5, k6, obind_some', onInt_int, r4, hge2, htk, k4, onBool_bool]
            simp)
          (by
            show W.loop _ _ _ _ = _
            rw [L, encFn_eta f, e_law19_SplitMetas_L11, encCs_length]
            simp)
        have hl' : W.loop 3 11 [.int 0, .loc false (some 13) (encFn f), .int f.delta.length, .vec .plain (some 7) (encCs l)] [] = some (Ex.exit 0, [], []) := by simpa using hl
        rw [he, hl']
        simp
      · rw [casesF_err he]
        simp [he]

/-! ### pure -/
theorem pure_SplitMetas : ∀ us, WArgs Try.prog [22, 29] us → bulkL us ≤ 1048576 → ∃ m st, (fuelO Try.prog cfg ext m).call 3 us [] = some (.ret (.bool true), st) := by
  intro us hW hb
  match us, hW with
  | [u, v], ⟨h1, h2, h3, h4, _⟩ =>
    obtain ⟨sig, rfl⟩ := dec_decls ⟨h1, h2⟩
    obtain ⟨f, rfl⟩ := dec_fun ⟨h3, h4⟩
    simp only [bulkL, bulkV] at hb
    exact of_ev (SplitMetas_spec sig f (by omega))
theorem pure_SplitOnly : ∀ us, WArgs Try.prog [22, 29, 29] us → bulkL us ≤ 1048576 → ∃ m st, (fuelO Try.prog cfg ext m).call 4 us [] = some (.ret (.bool true), st) := by
  intro us hW hb
  match us, hW with
  | [u, v, w], ⟨h1, h2, h3, h4, h5, h6, _⟩ =>
    obtain ⟨sig, rfl⟩ := dec_decls ⟨h1, h2⟩
    obtain ⟨f, rfl⟩ := dec_fun ⟨h3, h4⟩
    obtain ⟨g, rfl⟩ := dec_fun ⟨h5, h6⟩
    simp only [bulkL, bulkV] at hb
    exact of_ev (SplitOnly_spec sig f g (by omega))
end Go.Proofs.SP
