import Derived.Test.YthaiojkjodhgpaaAMb
import Derived.ControlIn
import Derived.RangeFuncIn
import Derived.RangeFuncRecord
import Derived.OrdersIn
import Derived.RangeFuncLeaves
import Derived.OpenShut
import Derived.Carry
import Derived.JoinedCond
/- An abstract machine over tree values that runs the model's code, and its soundness: what it tells of a call, the model does. -/
set_option linter.unusedVariables false
set_option linter.unusedSimpArgs false
set_option linter.unusedSectionVars false
/-! Loops; what lives at their head and behind them. -/
namespace Go.AM
open Go Go.RowKit

/-- A loop whose rounds are counted. -/
theorem wpIn_loop_n {F : Fence} {n : Nat} {P : Program} {Q : Exit → Act → World → Prop} {c : Code} (J : Nat → Act → World → Prop)
    (round : ∀ k a w, J k a w → c.wpIn F n P (Exit.then (fun a' w' => ∃ k', k' < k ∧ J k' a' w') Q) a w) {k₀ : Nat} {a : Act} {w : World} (h₀ : J k₀ a w) : (Code.loop c).wpIn F n P Q a w := by
  intro b k cs hro hb hr
  have key : ∀ j a w, J j a w →
      ∃ e a' w', Q e a' w' ∧ ArrivesIn (Machine.fenced P F) P (lone (b.atR a (.code c :: .inLoop c :: k)) cs w) b k cs e a' w' := by
    intro j
    induction j using Nat.strongRecOn with
    | _ j ih =>
      intro a w hJ
      obtain ⟨e, a₁, w₁, hq, harr⟩ := round j a w hJ b (.inLoop c :: k) cs hro hb hr
      cases e with
      | normal =>
        obtain ⟨j', hlt, hJ'⟩ := hq
        obtain ⟨e₂, a₂, w₂, hq₂, harr₂⟩ := ih j' hlt a₁ w₁ hJ'
        exact ⟨e₂, a₂, w₂, hq₂, .of_steps (StepsIn.trans harr (.one (fenced_calm hb hr rfl) stepR_inLoop)) harr₂⟩
      | exit id => exact ⟨_, a₁, w₁, hq, .pass (x := .inLoop c) rfl (fun _ _ => .inl (by simp)) harr⟩
      | goto l => exact ⟨_, a₁, w₁, hq, .pass (x := .inLoop c) rfl (fun _ _ => .inl (by simp)) harr⟩
      | ret => exact ⟨_, a₁, w₁, hq, .pass (x := .inLoop c) rfl (fun _ _ => .inl (by simp)) harr⟩
      | panic ch => exact ⟨_, a₁, w₁, hq, .pass (x := .inLoop c) rfl (fun _ _ => .inl (by simp)) harr⟩
      | outgrown => exact ⟨_, a₁, w₁, hq, .pass (x := .inLoop c) rfl (fun _ _ => .inl (by simp)) harr⟩
  obtain ⟨e, a', w', hq, harr⟩ := key _ a w h₀
  exact ⟨e, a', w', hq, .of_steps (.one (fenced_calm hb hr rfl) stepR_loop) harr⟩

section
variable {P : Program} {cfg : Cfg} {base n : Nat} {w w' : World} {own own' : Own} {μ μ' : List Nat} {ρ : Env} {st st' : St} {a : Act} {R : Type} {r : R}

theorem onLoc_spec {sh : Sh} {v : V} {K : Bool → V → Option R} (h : onLoc sh v K = some r) : ∃ d u, v = .loc d sh u ∧ K d u = some r := by
  unfold onLoc at h
  split at h
  · split at h
    · rename_i e; subst e; exact ⟨_, _, rfl, h⟩
    · cases h
  · cases h
theorem onRowV_spec {sh : Sh} {v : V} {K : Nat → Nat → Nat → Option R} (h : onRowV sh v K = some r) : ∃ q lo m, v = .row sh q lo m ∧ K q lo m = some r := by
  unfold onRowV at h
  split at h
  · split at h
    · rename_i e; subst e; exact ⟨_, _, _, rfl, h⟩
    · cases h
  · cases h
theorem onRef_spec {v : V} {K : Nat → Option R} (h : onRef v K = some r) : ∃ q, v = .ref q 0 ∧ K q = some r := by
  unfold onRef at h
  split at h
  · exact ⟨_, rfl, h⟩
  · cases h
theorem onRoom_spec {sh : Sh} {v : V} {K : List V → Option R} (h : onRoom sh v K = some r) : ∃ es, (v = .vec .grow sh es ∨ v = .vec .full sh es) ∧ K es = some r := by
  unfold onRoom at h
  split at h
  · split at h
    · rename_i e; subst e; exact ⟨_, .inl rfl, h⟩
    · cases h
  · split at h
    · rename_i e; subst e; exact ⟨_, .inr rfl, h⟩
    · cases h
  · cases h
theorem onFull_spec {sh : Sh} {v : V} {K : List V → Option R} (h : onFull sh v K = some r) : ∃ es, v = .vec .full sh es ∧ K es = some r := by
  unfold onFull at h
  split at h
  · split at h
    · rename_i e; subst e; exact ⟨_, rfl, h⟩
    · cases h
  · cases h

theorem grep_full {g : Tag} {sh : Sh} {es : List V} {c : Value} (h : VRep w (prOf own) μ (.vec .full sh es) c) (hz : 0 < sh.sz) : GRep w own μ g sh es c := by
  cases h with
  | vecE _ _ A c hg hm => exact full_grep (.vecE _ _ A c hg hm) hz
  | vec _ _ _ ad c f hm hf hl ha hcell hsh hc => exact full_grep (.vec _ _ _ ad c f hm hf hl ha hcell hsh hc) hz

mutual
theorem coerceK_cell (k : Kd) (v : V) (K : V → Option R) (h : coerceK P k v K = some r) :
    ∃ v', K v' = some r ∧ ∀ (g : Tag) (c : Value), CRep w own μ g v c → CRep w own μ g v' c := by
  match k with
  | .ty t => unfold coerceK at h; exact ⟨v, coerce1_spec h, fun _ _ h => h⟩
  | .ct c => unfold coerceK at h; exact ⟨v, coerceCell_spec h, fun _ _ h => h⟩
  | .any => unfold coerceK at h; exact ⟨v, h, fun _ _ h => h⟩
  | .ref =>
    unfold coerceK at h
    obtain ⟨q, rfl, h0⟩ := onRef_spec h
    exact ⟨_, h0, fun _ _ h => h⟩
  | .row sh =>
    unfold coerceK at h
    obtain ⟨q, lo, m, rfl, h0⟩ := onRowV_spec h
    exact ⟨_, h0, fun _ _ h => h⟩
  | .grow sh =>
    unfold coerceK at h
    obtain ⟨hz, h⟩ := gd_spec h
    obtain ⟨es, hv, h⟩ := onRoom_spec h
    refine ⟨_, h, fun g c hc => ?_⟩
    rcases hv with rfl | rfl
    · exact hc
    · exact grep_full hc (by simpa using hz)
  | .full sh =>
    unfold coerceK at h
    obtain ⟨es, rfl, h0⟩ := onFull_spec h
    exact ⟨_, h0, fun _ _ h => h⟩
  | .loc t =>
    unfold coerceK at h
    obtain ⟨d, u, rfl, h0⟩ := onLoc_spec h
    exact ⟨_, coerce1_spec (K := fun v => K (.loc false (shOf P t) v)) h0, fun _ _ hc => by cases (hc : VRep _ _ _ _ _)⟩
  | .locA sh =>
    unfold coerceK at h
    obtain ⟨d, u, rfl, h0⟩ := onLoc_spec h
    exact ⟨_, h0, fun _ _ hc => by cases (hc : VRep _ _ _ _ _)⟩
  | .dloc sh ks =>
    unfold coerceK at h
    obtain ⟨d, u, rfl, h0⟩ := onLoc_spec h
    obtain ⟨cs, rfl, h00⟩ := onAgg_spec h0
    obtain ⟨vs', h00, _⟩ := coerceKs_spec ks cs _ h00
    exact ⟨_, h00, fun _ _ hc => by cases (hc : VRep _ _ _ _ _)⟩
theorem coerceKs_spec (ks : List Kd) (vs : List V) (K : List V → Option R) (h : coerceKs P ks vs K = some r) :
    ∃ vs', K vs' = some r ∧ vs'.length = vs.length ∧ ∀ j (g : Tag) (c : Value), CRep w own μ g (vs.getD j .undef) c → CRep w own μ g (vs'.getD j .undef) c := by
  match ks with
  | [] =>
    unfold coerceKs at h
    obtain ⟨rfl, h0⟩ := onNil_spec h
    exact ⟨_, h0, rfl, fun _ _ _ h0 => h0⟩
  | k :: ks =>
    unfold coerceKs at h
    obtain ⟨v, us, rfl, h0⟩ := onCons_spec h
    obtain ⟨v', h0, hv⟩ := coerceK_cell k v _ h0
    obtain ⟨us', h0, hl, hu⟩ := coerceKs_spec ks us _ h0
    refine ⟨_, h0, by simp [hl], fun j g c => ?_⟩
    cases j with
    | zero => simpa using hv g c
    | succ j => simpa using hu j g c
end

theorem crep_loc {g : Tag} {d : Bool} {sh : Sh} {u : V} {c : Value} (h : CRep w own μ g (.loc d sh u) c) : False := by cases (h : VRep _ _ _ _ _)

theorem trep_crep {tm : Array Value} {t : Nat} {v : V} {c : Value} (h1 : ∀ d sh u, v ≠ .loc d sh u) (h2 : ∀ x off, v ≠ .lptr x off) : TRep w own μ ρ tm t v c ↔ CRep w own μ (.t t 0) v c := by
  cases v with
  | loc d sh u => exact absurd rfl (h1 _ _ _)
  | lptr x off => exact absurd rfl (h2 _ _)
  | vec m sh es => cases m <;> exact Iff.rfl
  | _ => exact Iff.rfl

/-- What lives is what it is asked to be. -/
theorem coerceK_spec {k : Kd} {v : V} {K : V → Option R} (h : coerceK P k v K = some r) {tm : Array Value} {t : Nat} {c : Value} (hl : ∀ x off, v ≠ .lptr x off) (hT : TRep w own μ ρ tm t v c) :
    ∃ v', K v' = some r ∧ TRep w own μ ρ tm t v' c ∧ ∀ x off, v' ≠ .lptr x off := by
  cases k with
  | ty t' => unfold coerceK at h; exact ⟨v, coerce1_spec h, hT, hl⟩
  | ct c => unfold coerceK at h; exact ⟨v, coerceCell_spec h, hT, hl⟩
  | any => unfold coerceK at h; exact ⟨v, h, hT, hl⟩
  | ref =>
    unfold coerceK at h
    obtain ⟨q, rfl, h0⟩ := onRef_spec h
    exact ⟨_, h0, hT, hl⟩
  | row sh =>
    unfold coerceK at h
    obtain ⟨q, lo, m, rfl, h0⟩ := onRowV_spec h
    exact ⟨_, h0, hT, hl⟩
  | grow sh =>
    unfold coerceK at h
    obtain ⟨hz, h⟩ := gd_spec h
    obtain ⟨es, hv, h⟩ := onRoom_spec h
    refine ⟨_, h, ?_, by simp⟩
    rcases hv with rfl | rfl
    · exact hT
    · exact grep_full hT (by simpa using hz)
  | full sh =>
    unfold coerceK at h
    obtain ⟨es, rfl, h0⟩ := onFull_spec h
    exact ⟨_, h0, hT, hl⟩
  | loc t' =>
    unfold coerceK at h
    obtain ⟨d, u, rfl, h0⟩ := onLoc_spec h
    refine ⟨_, coerce1_spec (K := fun v => K (.loc false (shOf P t') v)) h0, ?_, by simp⟩
    obtain ⟨b, ccs, hc, hB, hs, hj, hd⟩ := hT
    cases d with
    | false => exact ⟨b, ccs, hc, hB, hs, hj, hd⟩
    | true =>
      refine ⟨b, ccs, hc, hB, shaped_clean hs, fun j hj' => ⟨(hj j hj').1, ?_⟩, fun _ j sh' es e => ?_⟩
      · simp only [cond_true]
        rw [cellAt_clean]; exact .of_val (hj j hj').2.plain1
      · simp only [cond_true] at e
        rw [cellAt_clean] at e
        have key : ∀ v : V, AM.plain1 v ≠ .vec .grow sh' es := by
          intro v
          cases v with
          | vec m sh es => cases m <;> simp [AM.plain1]
          | _ => simp [AM.plain1]
        exact key _ e
  | locA sh =>
    unfold coerceK at h
    obtain ⟨d, u, rfl, h0⟩ := onLoc_spec h
    obtain ⟨b, ccs, hc, hB, hs, hj, hd⟩ := hT
    exact ⟨_, h0, ⟨b, ccs, hc, hB, hs, hj, fun e => by cases e⟩, by simp⟩
  | dloc sh ks =>
    unfold coerceK at h
    obtain ⟨d, u, rfl, h0⟩ := onLoc_spec h
    obtain ⟨cs, rfl, h00⟩ := onAgg_spec h0
    obtain ⟨b, ccs, hc, hB, hs, hj, hd⟩ := hT
    obtain ⟨cs', h00, hl', hv⟩ := coerceKs_spec (w := w) (own := own) (μ := μ) ks cs _ h00
    refine ⟨_, h00, ⟨b, ccs, hc, hB, ?_, fun j hj' => ⟨(hj j hj').1, hv j _ _ (hj j hj').2⟩, fun e => by cases e⟩, by simp⟩
    cases sh with
    | none => exact hs.elim
    | some m => exact hl'.trans hs

theorem rel_env {ρ' : Env} (h : Rel P cfg base n w own μ ρ st a) (he : ∀ t, TRep w own μ ρ' a.tmps t (ρ'.get t) (a.tmps.getD t undef)) : Rel P cfg base n w own μ ρ' st a := ⟨h.sto, he, h.tmps, h.defers, h.apart⟩

theorem rel_nil (h : Rel P cfg base n w own μ ρ st a) : Rel P cfg base n w own μ ([] : List (Nat × V)) st a ∧ NoL ([] : List (Nat × V)) :=
  ⟨rel_env h fun t => .undef _, fun t x off e => by cases e⟩

theorem rel_cons {ρ1 : Env} {t : Nat} {v : V} (h : Rel P cfg base n w own μ ρ1 st a) (hn : NoL ρ1) (hl : ∀ x off, v ≠ .lptr x off) (hv : TRep w own μ ρ a.tmps t v (a.tmps.getD t undef)) :
    Rel P cfg base n w own μ (ρ1.set t v) st a ∧ NoL (ρ1.set t v) := by
  refine ⟨rel_env h fun x => ?_, fun x y off e => ?_⟩
  · rw [get_set]
    split
    · rename_i e; subst e; exact hv.env hl
    · exact (h.env x).env (hn x)
  · rw [get_set] at e
    split at e
    · exact hl _ _ e
    · exact hn _ _ _ e

theorem coerceKeep_spec (h : Rel P cfg base n w own μ ρ st a) (hn : NoL ρ) : ∀ (keep : List (Nat × Kd)) (K : List V → Option R), coerceKeep P keep ρ K = some r →
    ∃ vals, K vals = some r ∧ Rel P cfg base n w own μ (envOf (keep.map (·.1)) vals) st a ∧ NoL (envOf (keep.map (·.1)) vals)
  | [], K, hk => by
    unfold coerceKeep at hk
    exact ⟨[], hk, rel_nil h⟩
  | (t, k) :: l, K, hk => by
    unfold coerceKeep at hk
    obtain ⟨v', hk, hT, hl⟩ := coerceK_spec hk (hn t) (h.env t)
    obtain ⟨vals, hk, hR, hN⟩ := coerceKeep_spec h hn l _ hk
    exact ⟨_, hk, rel_cons hR hN hl hT⟩

theorem coerceOuts_spec (h : Rel P cfg base n w own μ ρ st a) (hn : NoL ρ) : ∀ (outs : List (Nat × Kd)) (K : Env → Option R), coerceOuts P outs (outs.map fun x => ρ.get x.1) K = some r →
    ∃ ρ', K ρ' = some r ∧ Rel P cfg base n w own μ ρ' st a ∧ NoL ρ'
  | [], K, hk => by
    unfold coerceOuts at hk
    exact ⟨_, (onNil_spec hk).2, rel_nil h⟩
  | (t, k) :: l, K, hk => by
    simp only [List.map_cons] at hk
    unfold coerceOuts at hk
    simp only [onCons] at hk
    obtain ⟨v', hk, hT, hl⟩ := coerceK_spec hk (hn t) (h.env t)
    obtain ⟨ρ', hk, hR, hN⟩ := coerceOuts_spec h hn l _ hk
    exact ⟨_, hk, rel_cons hR hN hl hT⟩
end
end Go.AM

/-! A scope with jumps back to its labels. -/
namespace Go.AM
open Go Go.RowKit

section
variable {F : Fence} {n : Nat} {P : Program} {Q : Exit → Act → World → Prop}

theorem stepR_scope {b : Frame} {a : Act} {k : List Item} {cs : List Frame} {w : World} {c : Code} : step P (lone (b.atR a (.code (.scope c) :: k)) cs w) = .next (lone (b.atR a (.code c :: .inScope c :: k)) cs w) :=
  step_lone_go (by simp [stepG, stepG.exec, Frame.atR])
theorem stepR_inScope {b : Frame} {a : Act} {k : List Item} {cs : List Frame} {w : World} {c : Code} : step P (lone (b.atR a (.inScope c :: k)) cs w) = .next (lone (b.atR a k) cs w) :=
  step_lone_go (by simp [stepG, stepG.exec, Frame.atR])

/-- What a pass through a scope comes to: a jump back to one of its labels, or the end. -/
def Jumps (c : Code) (J : Nat → Act → World → Prop) (Q : Exit → Act → World → Prop) : Exit → Act → World → Prop
  | .goto l, a, w => ((findLabel c l).isSome ∧ J l a w) ∨ (findLabel c l = none ∧ Q (.goto l) a w)
  | e, a, w => Q e a w

theorem wpIn_scope_n {c : Code} (J : Nat → Nat → Act → World → Prop) {a : Act} {w : World}
    (first : c.wpIn F n P (Jumps c (fun l a w => ∃ k, J l k a w) Q) a w)
    (pass : ∀ l rest k a w, findLabel c l = some rest → J l k a w → rest.wpIn F n P (Jumps c (fun l' a' w' => ∃ k', k' < k ∧ J l' k' a' w') Q) a w) : (Code.scope c).wpIn F n P Q a w := by
  intro b k cs hro hb hr
  have hgo : ∀ l rest, findLabel c l = some rest → gotoIn l (.inScope c :: k) = some (.code rest :: .inScope c :: k) := fun l rest h => by simp [gotoIn, h]
  have hno : ∀ l, findLabel c l = none → gotoIn l (.inScope c :: k) = gotoIn l k := fun l h => by simp [gotoIn, h]
  have hex : ∀ i, exitTo i (.inScope c :: k) = exitTo i k := fun i => by simp [exitTo]
  have fin : ∀ (J' : Nat → Act → World → Prop) (m : Machine) (e : Exit) (a₁ : Act) (w₁ : World), Jumps c J' Q e a₁ w₁ → ArrivesIn (Machine.fenced P F) P m b (.inScope c :: k) cs e a₁ w₁ →
      (∀ l rest, e = .goto l → findLabel c l = some rest → J' l a₁ w₁ → StepsIn (Machine.fenced P F) P m (lone (b.atR a₁ (.code rest :: .inScope c :: k)) cs w₁) → ∃ e a' w', Q e a' w' ∧ ArrivesIn (Machine.fenced P F) P m b k cs e a' w') →
      ∃ e a' w', Q e a' w' ∧ ArrivesIn (Machine.fenced P F) P m b k cs e a' w' := by
    intro J' m e a₁ w₁ hq harr hback
    cases e with
    | normal => exact ⟨.normal, a₁, w₁, hq, StepsIn.trans harr (.one (fenced_calm hb hr rfl) stepR_inScope)⟩
    | exit id => exact ⟨.exit id, a₁, w₁, hq, fun k' hk => harr.1 k' (by rw [hex]; exact hk), fun hr' hk => harr.2 hr' (by rw [hex]; exact hk)⟩
    | goto l =>
      rcases hq with ⟨h1, h2⟩ | ⟨h1, h2⟩
      · obtain ⟨rest, hf⟩ := Option.isSome_iff_exists.1 h1
        exact hback l rest rfl hf h2 (harr.1 _ (hgo l rest hf))
      · exact ⟨.goto l, a₁, w₁, h2, fun k' hk => harr.1 k' (by rw [hno l h1]; exact hk), fun hr' hk => harr.2 hr' (by rw [hno l h1]; exact hk)⟩
    | ret => exact ⟨_, a₁, w₁, hq, harr⟩
    | panic ch => exact ⟨_, a₁, w₁, hq, harr⟩
    | outgrown => exact ⟨_, a₁, w₁, hq, harr⟩
  have key : ∀ j l rest a w, findLabel c l = some rest → J l j a w →
      ∃ e a' w', Q e a' w' ∧ ArrivesIn (Machine.fenced P F) P (lone (b.atR a (.code rest :: .inScope c :: k)) cs w) b k cs e a' w' := by
    intro j
    induction j using Nat.strongRecOn with
    | _ j ih =>
      intro l rest a w hf hJ
      obtain ⟨e, a₁, w₁, hq, harr⟩ := pass l rest j a w hf hJ b (.inScope c :: k) cs hro hb hr
      refine fin _ _ e a₁ w₁ hq harr fun l' rest' _ hf' hJ' hs => ?_
      obtain ⟨j', hlt, hJ'⟩ := hJ'
      obtain ⟨e₂, a₂, w₂, hq₂, harr₂⟩ := ih j' hlt l' rest' a₁ w₁ hf' hJ'
      exact ⟨e₂, a₂, w₂, hq₂, .of_steps hs harr₂⟩
  obtain ⟨e, a₁, w₁, hq, harr⟩ := first b (.inScope c :: k) cs hro hb hr
  have h0 : StepsIn (Machine.fenced P F) P (lone (b.atR a (.code (.scope c) :: k)) cs w) (lone (b.atR a (.code c :: .inScope c :: k)) cs w) := .one (fenced_calm hb hr rfl) stepR_scope
  obtain ⟨e₂, a₂, w₂, hq₂, harr₂⟩ := fin _ _ e a₁ w₁ hq harr fun l' rest' _ hf' hJ' hs => by
    obtain ⟨j', hJ'⟩ := hJ'
    obtain ⟨e₂, a₂, w₂, hq₂, harr₂⟩ := key j' l' rest' a₁ w₁ hf' hJ'
    exact ⟨e₂, a₂, w₂, hq₂, .of_steps hs harr₂⟩
  exact ⟨e₂, a₂, w₂, hq₂, .of_steps h0 harr₂⟩
end
end Go.AM

/-! Control. -/
namespace Go.AM
open Go Go.RowKit

/-! ### the loops of a code -/
def HasL (F : Nat → Option Code) : Code → Prop
  | .seq a b => HasL F a ∧ HasL F b
  | .cond _ a b => HasL F a ∧ HasL F b
  | .block _ b => HasL F b
  | .loop b => F (keyOf b) = some b ∧ keyOf b < labelKey ∧ HasL F b
  | .rangeFunc _ _ a b => HasL F a ∧ HasL F b
  | .scope b => HasL F b
  | _ => True

theorem memB_iff {x : Nat} : ∀ {l : List Nat}, nodupB.memB x l = true ↔ x ∈ l
  | [] => by simp [nodupB.memB]
  | y :: ys => by
    simp only [nodupB.memB, Bool.or_eq_true, Nat.beq_eq, List.mem_cons, memB_iff]

theorem nodupB_spec : ∀ {l : List Nat}, nodupB l = true → l.Nodup
  | [], _ => .nil
  | x :: xs, h => by
    simp only [nodupB, Bool.and_eq_true, Bool.not_eq_true'] at h
    refine List.nodup_cons.2 ⟨fun hm => ?_, nodupB_spec h.2⟩
    rw [memB_iff.2 hm] at h; cases h.1

theorem orElse_some {α : Type} {x y : Option α} {z : α} (h : x = some z) : orElse' x y = some z := by rw [h]; rfl
theorem orElse_none {α : Type} {x y : Option α} (h : x = none) : orElse' x y = y := by rw [h]; rfl

theorem findL_none {k : Nat} : ∀ {c : Code}, k ∉ keysL c → findL k c = none
  | .seq a b, h => by
    simp only [keysL, List.mem_append, not_or] at h
    simp only [findL, orElse_none (findL_none h.1), findL_none h.2]
  | .cond _ a b, h => by
    simp only [keysL, List.mem_append, not_or] at h
    simp only [findL, orElse_none (findL_none h.1), findL_none h.2]
  | .block _ b, h => by simp only [keysL] at h; simp only [findL, findL_none h]
  | .loop b, h => by
    simp only [keysL, List.mem_cons, not_or] at h
    have : Nat.beq (keyOf b) k = false := by
      cases hb : Nat.beq (keyOf b) k with
      | false => rfl
      | true => exact absurd (Nat.eq_of_beq_eq_true hb).symm h.1
    simp only [findL, this, cond_false, findL_none h.2]
  | .rangeFunc _ _ a b, h => by
    simp only [keysL, List.mem_append, not_or] at h
    simp only [findL, orElse_none (findL_none h.1), findL_none h.2]
  | .scope b, h => by simp only [keysL] at h; simp only [findL, findL_none h]
  | .region .., _ => rfl
  | .skip, _ => rfl
  | .label _, _ => rfl
  | .exit _, _ => rfl
  | .goto _, _ => rfl
  | .ret, _ => rfl
  | .refuse _, _ => rfl

theorem findL_some {k : Nat} : ∀ {c : Code}, k ∈ keysL c → ∃ b, findL k c = some b
  | .seq a b, h => by
    by_cases ha : k ∈ keysL a
    · obtain ⟨z, hz⟩ := findL_some ha
      exact ⟨z, by simp only [findL, orElse_some hz]⟩
    · have hb : k ∈ keysL b := by simpa [keysL, ha] using h
      obtain ⟨z, hz⟩ := findL_some hb
      exact ⟨z, by simp only [findL, orElse_none (findL_none ha), hz]⟩
  | .cond _ a b, h => by
    by_cases ha : k ∈ keysL a
    · obtain ⟨z, hz⟩ := findL_some ha
      exact ⟨z, by simp only [findL, orElse_some hz]⟩
    · have hb : k ∈ keysL b := by simpa [keysL, ha] using h
      obtain ⟨z, hz⟩ := findL_some hb
      exact ⟨z, by simp only [findL, orElse_none (findL_none ha), hz]⟩
  | .block _ b, h => by simp only [keysL] at h; simp only [findL]; exact findL_some h
  | .loop b, h => by
    simp only [findL]
    cases hb : Nat.beq (keyOf b) k with
    | true => exact ⟨b, rfl⟩
    | false =>
      simp only [keysL, List.mem_cons] at h
      rcases h with h | h
      · subst h; simp at hb
      · exact findL_some h
  | .rangeFunc _ _ a b, h => by
    by_cases ha : k ∈ keysL a
    · obtain ⟨z, hz⟩ := findL_some ha
      exact ⟨z, by simp only [findL, orElse_some hz]⟩
    · have hb : k ∈ keysL b := by simpa [keysL, ha] using h
      obtain ⟨z, hz⟩ := findL_some hb
      exact ⟨z, by simp only [findL, orElse_none (findL_none ha), hz]⟩
  | .scope b, h => by simp only [keysL] at h; simp only [findL]; exact findL_some h
  | .region .., h => by simp [keysL] at h
  | .skip, h => by simp [keysL] at h
  | .label _, h => by simp [keysL] at h
  | .exit _, h => by simp [keysL] at h
  | .goto _, h => by simp [keysL] at h
  | .ret, h => by simp [keysL] at h
  | .refuse _, h => by simp [keysL] at h

theorem hasL_of {F : Nat → Option Code} : ∀ {c : Code}, (keysL c).Nodup → (∀ k, k ∈ keysL c → k < labelKey ∧ F k = findL k c) → HasL F c
  | .seq a b, hn, hF => by
    simp only [keysL] at hn hF
    obtain ⟨h1, h2, h3⟩ := List.nodup_append.1 hn
    refine ⟨hasL_of h1 fun k hk => ?_, hasL_of h2 fun k hk => ?_⟩
    · obtain ⟨z, hz⟩ := findL_some hk
      refine ⟨(hF k (by simp [hk])).1, ?_⟩
      rw [(hF k (by simp [hk])).2]; simp only [findL, hz, orElse']
    · refine ⟨(hF k (by simp [hk])).1, ?_⟩
      rw [(hF k (by simp [hk])).2]; simp only [findL, orElse_none (findL_none (c := a) fun h => h3 _ h _ hk rfl)]
  | .cond _ a b, hn, hF => by
    simp only [keysL] at hn hF
    obtain ⟨h1, h2, h3⟩ := List.nodup_append.1 hn
    refine ⟨hasL_of h1 fun k hk => ?_, hasL_of h2 fun k hk => ?_⟩
    · obtain ⟨z, hz⟩ := findL_some hk
      refine ⟨(hF k (by simp [hk])).1, ?_⟩
      rw [(hF k (by simp [hk])).2]; simp only [findL, hz, orElse']
    · refine ⟨(hF k (by simp [hk])).1, ?_⟩
      rw [(hF k (by simp [hk])).2]; simp only [findL, orElse_none (findL_none (c := a) fun h => h3 _ h _ hk rfl)]
  | .block _ b, hn, hF => by
    simp only [keysL] at hn hF
    exact hasL_of (c := b) hn fun k hk => ⟨(hF k hk).1, by rw [(hF k hk).2]; simp only [findL]⟩
  | .loop b, hn, hF => by
    simp only [keysL] at hn hF
    obtain ⟨h1, h2⟩ := List.nodup_cons.1 hn
    refine ⟨?_, (hF _ (by simp)).1, hasL_of h2 fun k hk => ⟨(hF k (by simp [hk])).1, ?_⟩⟩
    · rw [(hF _ (by simp)).2]; simp [findL]
    · rw [(hF k (by simp [hk])).2]
      have : Nat.beq (keyOf b) k = false := by
        cases hb : Nat.beq (keyOf b) k with
        | false => rfl
        | true => exact absurd (Nat.eq_of_beq_eq_true hb ▸ hk) h1
      simp only [findL, this, cond_false]
  | .rangeFunc _ _ a b, hn, hF => by
    simp only [keysL] at hn hF
    obtain ⟨h1, h2, h3⟩ := List.nodup_append.1 hn
    refine ⟨hasL_of h1 fun k hk => ?_, hasL_of h2 fun k hk => ?_⟩
    · obtain ⟨z, hz⟩ := findL_some hk
      refine ⟨(hF k (by simp [hk])).1, ?_⟩
      rw [(hF k (by simp [hk])).2]; simp only [findL, hz, orElse']
    · refine ⟨(hF k (by simp [hk])).1, ?_⟩
      rw [(hF k (by simp [hk])).2]; simp only [findL, orElse_none (findL_none (c := a) fun h => h3 _ h _ hk rfl)]
  | .scope b, hn, hF => by
    simp only [keysL] at hn hF
    exact hasL_of (c := b) hn fun k hk => ⟨(hF k hk).1, by rw [(hF k hk).2]; simp only [findL]⟩
  | .region .., _, _ => trivial
  | .skip, _, _ => trivial
  | .label _, _, _ => trivial
  | .exit _, _, _ => trivial
  | .goto _, _, _ => trivial
  | .ret, _, _ => trivial
  | .refuse _, _, _ => trivial

/-! ### the ranges over functions of a code -/
def HasR (F : Nat → Option (Array Tmp × Code × Code)) : Code → Prop
  | .seq a b => HasR F a ∧ HasR F b
  | .cond _ a b => HasR F a ∧ HasR F b
  | .block _ b => HasR F b
  | .loop b => HasR F b
  | .rangeFunc _ ps a b => F (keyOf b) = some (ps, a, b) ∧ HasR F a ∧ HasR F b
  | .scope b => HasR F b
  | _ => True

theorem findR_none {k : Nat} : ∀ {c : Code}, k ∉ keysR c → findR k c = none
  | .seq a b, h => by
    simp only [keysR, List.mem_append, not_or] at h
    simp only [findR, orElse_none (findR_none h.1), findR_none h.2]
  | .cond _ a b, h => by
    simp only [keysR, List.mem_append, not_or] at h
    simp only [findR, orElse_none (findR_none h.1), findR_none h.2]
  | .block _ b, h => by simp only [keysR] at h; simp only [findR, findR_none h]
  | .loop b, h => by simp only [keysR] at h; simp only [findR, findR_none h]
  | .rangeFunc _ _ a b, h => by
    simp only [keysR, List.mem_cons, List.mem_append, not_or] at h
    have : Nat.beq (keyOf b) k = false := by
      cases hb : Nat.beq (keyOf b) k with
      | false => rfl
      | true => exact absurd (Nat.eq_of_beq_eq_true hb).symm h.1
    simp only [findR, this, cond_false, orElse_none (findR_none h.2.1), findR_none h.2.2]
  | .scope b, h => by simp only [keysR] at h; simp only [findR, findR_none h]
  | .region .., _ => rfl
  | .skip, _ => rfl
  | .label _, _ => rfl
  | .exit _, _ => rfl
  | .goto _, _ => rfl
  | .ret, _ => rfl
  | .refuse _, _ => rfl

theorem findR_some {k : Nat} : ∀ {c : Code}, k ∈ keysR c → ∃ b, findR k c = some b
  | .seq a b, h => by
    by_cases ha : k ∈ keysR a
    · obtain ⟨z, hz⟩ := findR_some ha
      exact ⟨z, by simp only [findR, orElse_some hz]⟩
    · have hb : k ∈ keysR b := by simpa [keysR, ha] using h
      obtain ⟨z, hz⟩ := findR_some hb
      exact ⟨z, by simp only [findR, orElse_none (findR_none ha), hz]⟩
  | .cond _ a b, h => by
    by_cases ha : k ∈ keysR a
    · obtain ⟨z, hz⟩ := findR_some ha
      exact ⟨z, by simp only [findR, orElse_some hz]⟩
    · have hb : k ∈ keysR b := by simpa [keysR, ha] using h
      obtain ⟨z, hz⟩ := findR_some hb
      exact ⟨z, by simp only [findR, orElse_none (findR_none ha), hz]⟩
  | .block _ b, h => by simp only [keysR] at h; simp only [findR]; exact findR_some h
  | .loop b, h => by simp only [keysR] at h; simp only [findR]; exact findR_some h
  | .rangeFunc _ ps a b, h => by
    simp only [findR]
    cases hb : Nat.beq (keyOf b) k with
    | true => exact ⟨(ps, a, b), rfl⟩
    | false =>
      simp only [keysR, List.mem_cons, List.mem_append] at h
      rcases h with h | h
      · subst h; simp at hb
      · by_cases ha : k ∈ keysR a
        · obtain ⟨z, hz⟩ := findR_some ha
          exact ⟨z, by simp only [cond_false, orElse_some hz]⟩
        · have hb : k ∈ keysR b := by simpa [ha] using h
          obtain ⟨z, hz⟩ := findR_some hb
          exact ⟨z, by simp only [cond_false, orElse_none (findR_none ha), hz]⟩
  | .scope b, h => by simp only [keysR] at h; simp only [findR]; exact findR_some h
  | .region .., h => by simp [keysR] at h
  | .skip, h => by simp [keysR] at h
  | .label _, h => by simp [keysR] at h
  | .exit _, h => by simp [keysR] at h
  | .goto _, h => by simp [keysR] at h
  | .ret, h => by simp [keysR] at h
  | .refuse _, h => by simp [keysR] at h

theorem hasR_of {F : Nat → Option (Array Tmp × Code × Code)} : ∀ {c : Code}, (keysR c).Nodup → (∀ k, k ∈ keysR c → F k = findR k c) → HasR F c
  | .seq a b, hn, hF => by
    simp only [keysR] at hn hF
    obtain ⟨h1, h2, h3⟩ := List.nodup_append.1 hn
    refine ⟨hasR_of h1 fun k hk => ?_, hasR_of h2 fun k hk => ?_⟩
    · obtain ⟨z, hz⟩ := findR_some hk
      rw [hF k (by simp [hk])]; simp only [findR, hz, orElse']
    · rw [hF k (by simp [hk])]; simp only [findR, orElse_none (findR_none (c := a) fun h => h3 _ h _ hk rfl)]
  | .cond _ a b, hn, hF => by
    simp only [keysR] at hn hF
    obtain ⟨h1, h2, h3⟩ := List.nodup_append.1 hn
    refine ⟨hasR_of h1 fun k hk => ?_, hasR_of h2 fun k hk => ?_⟩
    · obtain ⟨z, hz⟩ := findR_some hk
      rw [hF k (by simp [hk])]; simp only [findR, hz, orElse']
    · rw [hF k (by simp [hk])]; simp only [findR, orElse_none (findR_none (c := a) fun h => h3 _ h _ hk rfl)]
  | .block _ b, hn, hF => by
    simp only [keysR] at hn hF
    exact hasR_of (c := b) hn fun k hk => by rw [hF k hk]; simp only [findR]
  | .loop b, hn, hF => by
    simp only [keysR] at hn hF
    exact hasR_of (c := b) hn fun k hk => by rw [hF k hk]; simp only [findR]
  | .rangeFunc _ ps a b, hn, hF => by
    simp only [keysR] at hn hF
    obtain ⟨h0, hn⟩ := List.nodup_cons.1 hn
    obtain ⟨h1, h2, h3⟩ := List.nodup_append.1 hn
    have hne : ∀ k, k ∈ keysR a ++ keysR b → Nat.beq (keyOf b) k = false := fun k hk => by
      cases hb : Nat.beq (keyOf b) k with
      | false => rfl
      | true => exact absurd (Nat.eq_of_beq_eq_true hb ▸ hk) h0
    refine ⟨by rw [hF _ (by simp)]; simp [findR], hasR_of h1 fun k hk => ?_, hasR_of h2 fun k hk => ?_⟩
    · obtain ⟨z, hz⟩ := findR_some hk
      have hmem : k ∈ keysR a ++ keysR b := by simp [hk]
      rw [hF k (List.mem_cons_of_mem _ hmem)]; simp only [findR, hne k hmem, cond_false, hz, orElse']
    · have hmem : k ∈ keysR a ++ keysR b := by simp [hk]
      rw [hF k (List.mem_cons_of_mem _ hmem)]; simp only [findR, hne k hmem, cond_false, orElse_none (findR_none (c := a) fun h => h3 _ h _ hk rfl)]
  | .scope b, hn, hF => by
    simp only [keysR] at hn hF
    exact hasR_of (c := b) hn fun k hk => by rw [hF k hk]; simp only [findR]
  | .region .., _, _ => trivial
  | .skip, _, _ => trivial
  | .label _, _, _ => trivial
  | .exit _, _, _ => trivial
  | .goto _, _, _ => trivial
  | .ret, _, _ => trivial
  | .refuse _, _, _ => trivial

/-! ### the scopes of a code -/
def HasS (F : Nat → Option Code) : Code → Prop
  | .seq a b => HasS F a ∧ HasS F b
  | .cond _ a b => HasS F a ∧ HasS F b
  | .block _ b => HasS F b
  | .loop b => HasS F b
  | .rangeFunc _ _ a b => HasS F a ∧ HasS F b
  | .scope b => (noScope b = true → ∀ l, (findLabel b l).isSome = true → F l = some b) ∧ (noScope b = false → HasS F b)
  | _ => True

theorem hasS_no {F : Nat → Option Code} : ∀ {c : Code}, noScope c = true → HasS F c
  | .seq a b, h => by
    simp only [noScope, Bool.and_eq_true] at h
    exact ⟨hasS_no h.1, hasS_no h.2⟩
  | .cond _ a b, h => by
    simp only [noScope, Bool.and_eq_true] at h
    exact ⟨hasS_no h.1, hasS_no h.2⟩
  | .rangeFunc _ _ a b, h => by
    simp only [noScope, Bool.and_eq_true] at h
    exact ⟨hasS_no h.1, hasS_no h.2⟩
  | .block _ b, h => by simp only [noScope] at h; exact hasS_no (c := b) h
  | .loop b, h => by simp only [noScope] at h; exact hasS_no (c := b) h
  | .scope b, h => by simp [noScope] at h
  | .region .., _ => trivial
  | .skip, _ => trivial
  | .label _, _ => trivial
  | .exit _, _ => trivial
  | .goto _, _ => trivial
  | .ret, _ => trivial
  | .refuse _, _ => trivial

theorem label_iff {l : Nat} : ∀ {c : Code}, l ∈ labelsOf c ↔ (findLabel c l).isSome = true
  | .seq a b => by
    simp only [labelsOf, List.mem_append, findLabel]
    rw [label_iff (c := a), label_iff (c := b)]
    cases findLabel a l <;> simp
  | .label l' => by
    simp only [labelsOf, List.mem_singleton, findLabel]
    by_cases h : l' = l
    · subst h; simp
    · simp [h]; exact fun e => h e.symm
  | .cond .. => by simp [labelsOf, findLabel]
  | .block .. => by simp [labelsOf, findLabel]
  | .loop .. => by simp [labelsOf, findLabel]
  | .rangeFunc .. => by simp [labelsOf, findLabel]
  | .scope .. => by simp [labelsOf, findLabel]
  | .region .. => by simp [labelsOf, findLabel]
  | .skip => by simp [labelsOf, findLabel]
  | .exit _ => by simp [labelsOf, findLabel]
  | .goto _ => by simp [labelsOf, findLabel]
  | .ret => by simp [labelsOf, findLabel]
  | .refuse _ => by simp [labelsOf, findLabel]

theorem findS_leaf {l : Nat} : ∀ {c : Code}, noScope c = true → findS l c = none
  | .seq a b, h => by
    simp only [noScope, Bool.and_eq_true] at h
    simp only [findS, findS_leaf h.1, findS_leaf h.2, orElse']
  | .cond _ a b, h => by
    simp only [noScope, Bool.and_eq_true] at h
    simp only [findS, findS_leaf h.1, findS_leaf h.2, orElse']
  | .rangeFunc _ _ a b, h => by
    simp only [noScope, Bool.and_eq_true] at h
    simp only [findS, findS_leaf h.1, findS_leaf h.2, orElse']
  | .block _ b, h => by simp only [noScope] at h; simp only [findS]; exact findS_leaf h
  | .loop b, h => by simp only [noScope] at h; simp only [findS]; exact findS_leaf h
  | .scope b, h => by simp [noScope] at h
  | .region .., _ => rfl
  | .skip, _ => rfl
  | .label _, _ => rfl
  | .exit _, _ => rfl
  | .goto _, _ => rfl
  | .ret, _ => rfl
  | .refuse _, _ => rfl

theorem findS_none {l : Nat} : ∀ {c : Code}, l ∉ labelsS c → findS l c = none
  | .seq a b, h => by
    simp only [labelsS, List.mem_append, not_or] at h
    simp only [findS, orElse_none (findS_none h.1), findS_none h.2]
  | .cond _ a b, h => by
    simp only [labelsS, List.mem_append, not_or] at h
    simp only [findS, orElse_none (findS_none h.1), findS_none h.2]
  | .rangeFunc _ _ a b, h => by
    simp only [labelsS, List.mem_append, not_or] at h
    simp only [findS, orElse_none (findS_none h.1), findS_none h.2]
  | .block _ b, h => by simp only [labelsS] at h; simp only [findS]; exact findS_none h
  | .loop b, h => by simp only [labelsS] at h; simp only [findS]; exact findS_none h
  | .scope b, h => by
    simp only [labelsS] at h
    simp only [findS]
    cases hn : noScope b with
    | true =>
      rw [hn] at h
      have : (findLabel b l).isSome = false := by
        cases hl : (findLabel b l).isSome with
        | false => rfl
        | true => exact absurd (label_iff.2 hl) h
      simp only [this, Bool.and_false, cond_false]
      cases hf : findS l b with
      | none => rfl
      | some z => exact absurd hf (by rw [findS_leaf hn]; simp)
    | false =>
      rw [hn] at h
      simp only [Bool.false_and, cond_false]
      exact findS_none h
  | .region .., _ => rfl
  | .skip, _ => rfl
  | .label _, _ => rfl
  | .exit _, _ => rfl
  | .goto _, _ => rfl
  | .ret, _ => rfl
  | .refuse _, _ => rfl

theorem findS_some {l : Nat} : ∀ {c : Code}, l ∈ labelsS c → ∃ z, findS l c = some z
  | .seq a b, h => by
    simp only [labelsS, List.mem_append] at h
    simp only [findS]
    cases hx : findS l a with
    | some z => exact ⟨z, rfl⟩
    | none =>
      rcases h with h | h
      · obtain ⟨z, hz⟩ := findS_some h; rw [hz] at hx; cases hx
      · exact findS_some h
  | .cond _ a b, h => by
    simp only [labelsS, List.mem_append] at h
    simp only [findS]
    cases hx : findS l a with
    | some z => exact ⟨z, rfl⟩
    | none =>
      rcases h with h | h
      · obtain ⟨z, hz⟩ := findS_some h; rw [hz] at hx; cases hx
      · exact findS_some h
  | .rangeFunc _ _ a b, h => by
    simp only [labelsS, List.mem_append] at h
    simp only [findS]
    cases hx : findS l a with
    | some z => exact ⟨z, rfl⟩
    | none =>
      rcases h with h | h
      · obtain ⟨z, hz⟩ := findS_some h; rw [hz] at hx; cases hx
      · exact findS_some h
  | .block _ b, h => by simp only [labelsS] at h; simp only [findS]; exact findS_some h
  | .loop b, h => by simp only [labelsS] at h; simp only [findS]; exact findS_some h
  | .scope b, h => by
    simp only [labelsS] at h
    simp only [findS]
    cases hn : noScope b with
    | true =>
      rw [hn] at h
      have h := label_iff.1 h
      exact ⟨b, by simp only [h, Bool.and_self, cond_true]⟩
    | false =>
      rw [hn] at h
      simp only [Bool.false_and, cond_false]
      exact findS_some h
  | .region .., h => by simp [labelsS] at h
  | .skip, h => by simp [labelsS] at h
  | .label _, h => by simp [labelsS] at h
  | .exit _, h => by simp [labelsS] at h
  | .goto _, h => by simp [labelsS] at h
  | .ret, h => by simp [labelsS] at h
  | .refuse _, h => by simp [labelsS] at h

theorem hasS_of {F : Nat → Option Code} : ∀ {c : Code}, (labelsS c).Nodup → (∀ l, l ∈ labelsS c → F l = findS l c) → HasS F c
  | .seq a b, hn, hF => by
    simp only [labelsS] at hn hF
    obtain ⟨h1, h2, h3⟩ := List.nodup_append.1 hn
    refine ⟨hasS_of h1 fun k hk => ?_, hasS_of h2 fun k hk => ?_⟩
    · obtain ⟨z, hz⟩ := findS_some hk
      rw [hF k (by simp [hk])]; simp only [findS, hz, orElse']
    · rw [hF k (by simp [hk])]; simp only [findS, orElse_none (findS_none (c := a) fun h => h3 _ h _ hk rfl)]
  | .cond _ a b, hn, hF => by
    simp only [labelsS] at hn hF
    obtain ⟨h1, h2, h3⟩ := List.nodup_append.1 hn
    refine ⟨hasS_of h1 fun k hk => ?_, hasS_of h2 fun k hk => ?_⟩
    · obtain ⟨z, hz⟩ := findS_some hk
      rw [hF k (by simp [hk])]; simp only [findS, hz, orElse']
    · rw [hF k (by simp [hk])]; simp only [findS, orElse_none (findS_none (c := a) fun h => h3 _ h _ hk rfl)]
  | .rangeFunc _ _ a b, hn, hF => by
    simp only [labelsS] at hn hF
    obtain ⟨h1, h2, h3⟩ := List.nodup_append.1 hn
    refine ⟨hasS_of h1 fun k hk => ?_, hasS_of h2 fun k hk => ?_⟩
    · obtain ⟨z, hz⟩ := findS_some hk
      rw [hF k (by simp [hk])]; simp only [findS, hz, orElse']
    · rw [hF k (by simp [hk])]; simp only [findS, orElse_none (findS_none (c := a) fun h => h3 _ h _ hk rfl)]
  | .block _ b, hn, hF => by
    simp only [labelsS] at hn hF
    exact hasS_of (c := b) hn fun k hk => by rw [hF k hk]; simp only [findS]
  | .loop b, hn, hF => by
    simp only [labelsS] at hn hF
    exact hasS_of (c := b) hn fun k hk => by rw [hF k hk]; simp only [findS]
  | .scope b, hn, hF => by
    simp only [labelsS] at hn hF
    refine ⟨fun h l hl => ?_, fun h => ?_⟩
    · rw [h] at hF
      rw [hF l (label_iff.2 hl)]
      simp only [findS, h, hl, Bool.and_self, cond_true]
    · rw [h] at hn hF
      refine hasS_of (c := b) hn fun k hk => ?_
      rw [hF k hk]
      simp only [findS, h, Bool.false_and, cond_false]
  | .region .., _, _ => trivial
  | .skip, _, _ => trivial
  | .label _, _, _ => trivial
  | .exit _, _, _ => trivial
  | .goto _, _, _ => trivial
  | .ret, _, _ => trivial
  | .refuse _, _, _ => trivial

/-- What stands behind a label is as what it stands in. -/
theorem label_rest {n l : Nat} {F : Nat → Option Code} {G : Nat → Option (Array Tmp × Code × Code)} : ∀ {b rest : Code}, findLabel b l = some rest → okTmps n b = true → simple b = true → HasL F b → HasR G b → noScope b = true →
    okTmps n rest = true ∧ simple rest = true ∧ HasL F rest ∧ HasR G rest ∧ noScope rest = true ∧ (keysR b = [] → keysR rest = [])
  | .seq x y, rest, h, h1, h2, h3, h4, h5 => by
    simp only [okTmps, Bool.and_eq_true] at h1
    simp only [simple, Bool.and_eq_true] at h2
    simp only [noScope, Bool.and_eq_true] at h5
    simp only [findLabel] at h
    cases hx : findLabel x l with
    | some z =>
      rw [hx] at h
      cases h
      obtain ⟨k1, k2, k3, k4, k5, k6⟩ := label_rest hx h1.1 h2.1 h3.1 h4.1 h5.1
      refine ⟨by simp only [okTmps, k1, h1.2, Bool.and_self], by simp only [simple, k2, h2.2, Bool.and_self], ⟨k3, h3.2⟩, ⟨k4, h4.2⟩, by simp only [noScope, k5, h5.2, Bool.and_self], fun e => ?_⟩
      simp only [keysR, List.append_eq_nil_iff] at e ⊢
      exact ⟨k6 e.1, e.2⟩
    | none =>
      rw [hx] at h
      obtain ⟨k1, k2, k3, k4, k5, k6⟩ := label_rest (b := y) h h1.2 h2.2 h3.2 h4.2 h5.2
      refine ⟨k1, k2, k3, k4, k5, fun e => ?_⟩
      simp only [keysR, List.append_eq_nil_iff] at e
      exact k6 e.2
  | .label l', rest, h, _, _, _, _, _ => by
    simp only [findLabel] at h
    split at h
    · cases h; exact ⟨rfl, rfl, trivial, trivial, rfl, fun _ => rfl⟩
    · cases h
  | .cond .., _, h, _, _, _, _, _ => by simp [findLabel] at h
  | .block .., _, h, _, _, _, _, _ => by simp [findLabel] at h
  | .loop .., _, h, _, _, _, _, _ => by simp [findLabel] at h
  | .rangeFunc .., _, h, _, _, _, _, _ => by simp [findLabel] at h
  | .scope .., _, h, _, _, _, _, _ => by simp [findLabel] at h
  | .region .., _, h, _, _, _, _, _ => by simp [findLabel] at h
  | .skip, _, h, _, _, _, _, _ => by simp [findLabel] at h
  | .exit _, _, h, _, _, _, _, _ => by simp [findLabel] at h
  | .goto _, _, h, _, _, _, _, _ => by simp [findLabel] at h
  | .ret, _, h, _, _, _, _, _ => by simp [findLabel] at h
  | .refuse _, _, h, _, _, _, _, _ => by simp [findLabel] at h

section
variable {P : Program} {cfg : Cfg} {base n : Nat} {w w' : World} {own own' : Own} {μ μ' : List Nat} {ρ : Env} {st st' : St} {a : Act} {R : Type} {r : R}

/-- How a code is left. -/
def FinE (P : Program) (cfg : Cfg) (base n : Nat) (w0 : World) (own0 : Own) (μ0 : List Nat) (r : R) (K : Ex → Env → St → Option R) (e : Ex) (a : Act) (w : World) : Prop :=
  ∃ ρ st own μ, K e ρ st = some r ∧ Rel P cfg base n w own μ ρ st a ∧ NoL ρ ∧ Keeps base w0 own0 μ0 w own μ

def Fin (P : Program) (cfg : Cfg) (base n : Nat) (w0 : World) (own0 : Own) (μ0 : List Nat) (r : R) (K : Ex → Env → St → Option R) : Exit → Act → World → Prop
  | .normal, a, w => FinE P cfg base n w0 own0 μ0 r K .normal a w
  | .exit i, a, w => FinE P cfg base n w0 own0 μ0 r K (.exit i) a w
  | .goto l, a, w => FinE P cfg base n w0 own0 μ0 r K (.goto l) a w
  | .ret, a, w => FinE P cfg base n w0 own0 μ0 r K .ret a w
  | .panic ch, a, w => ∃ v c ρ ρ'' st own μ, K (.panic v) ρ st = some r ∧ Rel P cfg base n w own μ ρ'' st a ∧ Keeps base w0 own0 μ0 w own μ ∧ VRep w (prOf own) μ v c ∧ ch = [{ v := c, recovered := false }]
  | .outgrown, _, _ => False

theorem Fin.keeps {w0 : World} {own0 : Own} {μ0 : List Nat} {K : Ex → Env → St → Option R} {e : Exit} (k : Keeps base w0 own0 μ0 w own μ) (h : Fin P cfg base n w own μ r K e a w') : Fin P cfg base n w0 own0 μ0 r K e a w' := by
  cases e with
  | outgrown => exact h.elim
  | panic ch =>
    obtain ⟨v, c, ρ, ρ'', st, own', μ', h1, h2, h3, h4, h5⟩ := h
    exact ⟨v, c, ρ, ρ'', st, own', μ', h1, h2, k.trans h3, h4, h5⟩
  | _ =>
    obtain ⟨ρ, st, own', μ', h1, h2, h3, h4⟩ := h
    exact ⟨ρ, st, own', μ', h1, h2, h3, k.trans h4⟩

theorem pickExit_spec {i : Nat} {F : Nat → Option R} : ∀ {ids : List Nat}, pickExit i F ids = some r → F i = some r
  | [], h => by cases h
  | j :: js, h => by
    unfold pickExit at h
    rcases bc_spec h with ⟨h1, h2⟩ | ⟨_, h2⟩
    · rw [Nat.eq_of_beq_eq_true h1]; exact h2
    · exact pickExit_spec h2

/-- Behind a loop whose last round was left so. -/
theorem behind_spec {f key : Nat} {nrm rt : Bool} {ids : List Nat} {e : Ex} {vs : List V} {K : Ex → Env → St → Option R} (h : behind P cfg f key nrm rt ids (e, vs, st) K = some r) :
    (e = .normal ∧ coerceOuts P (cfg.outs f key) vs (fun ρ => K .normal ρ st) = some r) ∨ (e = .ret ∧ coerceOuts P (cfg.rets f key) vs (fun ρ => K .ret ρ st) = some r) ∨
      (∃ i, e = .exit i ∧ coerceOuts P (cfg.outs f key) vs (fun ρ => K (.exit i) ρ st) = some r) ∨ ∃ v, e = .panic v ∧ K (.panic v) ([] : List (Nat × V)) st = some r := by
  unfold behind onEx at h
  cases e with
  | normal =>
    rcases bc_spec h with ⟨_, h⟩ | ⟨_, h⟩
    · exact .inl ⟨rfl, h⟩
    · cases h
  | ret =>
    rcases bc_spec h with ⟨_, h⟩ | ⟨_, h⟩
    · exact .inr (.inl ⟨rfl, h⟩)
    · cases h
  | exit i => exact .inr (.inr (.inl ⟨i, rfl, pickExit_spec h⟩))
  | goto l => cases h
  | panic v =>
    rcases bc_spec h with ⟨_, h⟩ | ⟨_, h⟩
    · exact .inr (.inr (.inr ⟨v, rfl, h⟩))
    · cases h

/-- Where a return, an exit, a panic of a round leads. -/
theorem round_exits {f key : Nat} {nrm rt : Bool} {ids : List Nat} {x : Ex × List V × St} {K : Ex → Env → St → Option R} (h : behind P cfg f key nrm rt ids x K = some r) {Kr : Ex → Env → St → Option (Ex × List V × St)}
    (hret : ∀ ρ st, Kr .ret ρ st = some (.ret, (cfg.rets f key).map (fun x => ρ.get x.1), st)) {e : Exit} (hex : ∀ i ρ st, e = .exit i → Kr (.exit i) ρ st = some (.exit i, (cfg.outs f key).map (fun x => ρ.get x.1), st))
    (hpan : ∀ v ρ st, Kr (.panic v) ρ st = some (.panic v, (cfg.outs f key).map (fun x => ρ.get x.1), st)) (hn : e ≠ .normal) (hg : ∀ l, e ≠ .goto l)
    (hF : Fin P cfg base n w own μ x Kr e a w') : Fin P cfg base n w own μ r K e a w' := by
  cases e with
  | normal => exact absurd rfl hn
  | outgrown => exact hF.elim
  | goto l => exact absurd rfl (hg l)
  | ret =>
    obtain ⟨ρ, st, own', μ', h1, h2, h3, h4⟩ := hF
    rw [hret] at h1; cases h1
    rcases behind_spec h with ⟨he, _⟩ | ⟨_, hk⟩ | ⟨i, he, _⟩ | ⟨v, he, _⟩
    · cases he
    · obtain ⟨ρ', k1, k2, k3⟩ := coerceOuts_spec h2 h3 _ _ hk
      exact ⟨ρ', st, own', μ', k1, k2, k3, h4⟩
    · cases he
    · cases he
  | exit i =>
    obtain ⟨ρ, st, own', μ', h1, h2, h3, h4⟩ := hF
    rw [hex i ρ st rfl] at h1; cases h1
    rcases behind_spec h with ⟨he, _⟩ | ⟨he, _⟩ | ⟨j, he, hk⟩ | ⟨v, he, _⟩
    · cases he
    · cases he
    · cases he
      obtain ⟨ρ', k1, k2, k3⟩ := coerceOuts_spec h2 h3 _ _ hk
      exact ⟨ρ', st, own', μ', k1, k2, k3, h4⟩
    · cases he
  | panic ch =>
    obtain ⟨v, c, ρ, ρ'', st, own', μ', h1, h2, h3, h4, h5⟩ := hF
    rw [hpan] at h1; cases h1
    rcases behind_spec h with ⟨he, _⟩ | ⟨he, _⟩ | ⟨j, he, hk⟩ | ⟨u, he, hk⟩
    · cases he
    · cases he
    · cases he
    · cases he
      exact ⟨v, c, _, ρ'', st, own', μ', hk, h2, h3, h4, h5⟩
end
end Go.AM

/-! A range over a function. -/
namespace Go.AM
open Go Go.RowKit

section
variable {P : Program} {cfg : Cfg} {base n : Nat} {w w' : World} {own own' : Own} {μ μ' : List Nat} {ρ : Env} {st st' : St} {a : Act} {R : Type} {r : R}

theorem noL_read (h : NoL ρ) (tk : Bool) (xs : List Operand) : NoL (ρ.apply (upds ρ tk xs)) := fun t x off e => by
  obtain ⟨o, ho, _⟩ := LP.read (all := []) (fun t x off e => absurd e (h t x off)) tk xs t x off e
  cases ho

/-- A loop's record is written anew. -/
theorem rel_loop (h : Rel P cfg base n w own μ ρ st a) {q b f key : Nat} {vals : List V} {s : LSt} {p : Option Ex} (hst : st[q]? = some (.loop f key vals s p)) (hb : μ[q]? = some b) :
    ∃ L, w.heap[b]? = some (.loop L) ∧ LStOk s p L.state L.pending ∧ ∀ (L' : Loop) (y : Res), (L'.fn = L.fn ∧ L'.tmps = L.tmps ∧ L'.params = L.params ∧ L'.assign = L.assign ∧ L'.body = L.body) →
      (y = .dead ∨ ∃ s' p', y = .loop f key vals s' p' ∧ LStOk s' p' L'.state L'.pending) →
      Rel P cfg base n (w.putObj b (.loop L')) own μ ρ (st.set q y) a ∧ Keeps base w own μ (w.putObj b (.loop L')) own μ := by
  obtain ⟨ho, L, fn, c, hh, h1, h2, h3, h4, h5, h6, h7, h8⟩ := h.sto.res q _ b hst hb
  refine ⟨L, hh, h7, fun L' y hL hy => ?_⟩
  have hlow : base ≤ b := h.sto.low b 0 (by rw [ho]; simp) (by rw [ho]; simp) (by rw [ho]; simp)
  have hlt : b < w.heap.size := (Array.getElem?_eq_some_iff.1 hh).1
  have hsame : ∀ k, k ≠ b → (w.putObj b (.loop L')).heap[k]? = w.heap[k]? := fun k hk => World.putObj_heap_other hk
  have hB : Below base w (w.putObj b (.loop L')) := ⟨rfl, rfl, rfl, by simp, fun k hk => hsame k (by omega)⟩
  have s' : Step base w own μ (w.putObj b (.loop L')) own μ (fun g => ∃ j, g = .r q j) := Step.obj h.sto ho (by simp) ⟨0, rfl⟩ (fun c e f hc => by rw [hh] at hc; cases hc) hlow hsame hB
  refine ⟨h.step s' (by simp) (by simp [h.sto.len]) rfl rfl (fun k y' b' k1 k2 => ?_) (fun t => .inl ⟨rfl, rfl, by simp, env_keep h t⟩), keeps_of s' fun g ⟨j, e⟩ => .inr ⟨q, j, e⟩⟩
  rcases set_get k1 with ⟨rfl, rfl⟩ | ⟨hne, hk⟩
  · right
    rcases hy with rfl | ⟨s2, p2, rfl, hok⟩
    · trivial
    · rw [hb] at k2
      cases k2
      obtain ⟨e1, e2, e3, e4, e5⟩ := hL
      exact ⟨ho, L', fn, c, World.putObj_heap_same hlt, h1, h2, h3, trivial, by rw [e3, e4, e5]; exact h5, by rw [e2]; exact h6, hok, fun t => by rw [e2]; exact s'.vrep (h8 t)⟩
  · exact .inl ⟨hk, fun j ⟨j', e⟩ => hne (by cases e; rfl)⟩

theorem onPend_spec {s : LSt} {p : Option Ex} {n' r' : Option R} {x : Nat → Option R} (h : onPend s p n' r' x = some r) :
    (s = .ready ∧ p = none ∧ n' = some r) ∨ (s = .done ∧ p = some .ret ∧ r' = some r) ∨ ∃ i, s = .done ∧ p = some (.exit i) ∧ x i = some r := by
  unfold onPend at h
  split at h
  · exact .inl ⟨rfl, rfl, h⟩
  · exact .inr (.inl ⟨rfl, rfl, h⟩)
  · exact .inr (.inr ⟨_, rfl, rfl, h⟩)
  · cases h

theorem get_envOf_map (ks : List Nat) (F : Nat → V) (t : Nat) : (envOf ks (ks.map F)).get t = if t ∈ ks then F t else .undef := by
  induction ks with
  | nil => rfl
  | cons k ks ih =>
    have : (envOf (k :: ks) ((k :: ks).map F)).get t = (Env.set (envOf ks (ks.map F)) k (F k)).get t := rfl
    rw [this, get_set, ih]
    by_cases e : t = k
    · subst e; simp
    · simp [e]

theorem onFn_spec {v : V} {K : Nat → List V → List V → Option R} (h : onFn v K = some r) : ∃ g a b, v = .fn g a b ∧ K g a b = some r := by
  unfold onFn at h
  split at h
  · exact ⟨_, _, _, rfl, h⟩
  · cases h

theorem range_wp (hP : PlainNames P) {O : Oracle} (hC : CallOK P cfg O.call) {fid : Nat} {fn : Func} {whole : Code} (hf : P.funcs[fid]? = some fn) (hb : fn.body = some whole) (hok : okCode fn.ntmps whole = true)
    {g : Operand} {ps : Array Tmp} {x y : Code} (hfind : findR (keyOf y) whole = some (ps, x, y)) (hR : Rel P cfg base fn.ntmps w own μ ρ st a) (hN : NoL ρ) {K : Ex → Env → St → Option R}
    (h : exec P cfg O fid (.rangeFunc g ps x y) ρ st K = some r) {m : Nat} : (Code.rangeFunc g ps x y).wpIn (wide none) m P (Fin P cfg base fn.ntmps w own μ r K) a w := by
  simp only [exec] at h
  obtain ⟨gf, first, cap, hv, h⟩ := onFn_spec h
  · skip
    obtain ⟨⟨out, st2⟩, hx, h⟩ := obind_spec h
    refine wpIn_rangeFunc fun fn' _ => ?_
    obtain ⟨hr, s1, hval⟩ := hR.read false (g :: ((cfg.keep fid (keyOf y)).map (·.1)).map Operand.tmp)
    have hk1 := keeps_read s1
    have hg := hval g (by simp)
    rw [hv] at hg
    obtain ⟨cf, cc, hev, ha1, ha2⟩ := fn_inv (hg.val (by simp))
    -- the blocks that are laid
    have sA := Step.new hr.sto (.deferred (some [])) .d (by simp) []
    have hA := hr.sto.step sA (by simp [hr.sto.len]) fun q z b h1 h2 => .inl ⟨h1, fun _ h => h⟩
    generalize hL : ({ state := .ready, pending := none, fn := fn', tmps := a.tmps, params := ps, assign := x, body := y, defers := w.heap.size } : Loop) = L
    have sB := Step.new hA (.loop L) (.r st.length 0) (by simp) [w.heap.size + 1]
    have s := (sA.trans sB).weaken (Y := fun _ => False) fun g h => h.elim id id
    simp only [List.append_nil, World.size_alloc] at s
    have hD1 : ((w.alloc (.deferred (some []))).alloc (.loop L)).heap[w.heap.size]? = some (.deferred (some [])) := (Below.heap_alloc _ _ _ (by simp)).trans (World.alloc_heap_new w _)
    have hl1 : ((w.alloc (.deferred (some []))).alloc (.loop L)).heap[w.heap.size + 1]? = some (.loop L) := by
      have := World.alloc_heap_new (w.alloc (.deferred (some []))) (.loop L); rwa [World.size_alloc] at this
    generalize hW : (w.alloc (.deferred (some []))).alloc (.loop L) = W at s hD1 hl1
    generalize hO : ownAt (ownAt (ownR own ρ (g :: ((cfg.keep fid (keyOf y)).map (·.1)).map Operand.tmp)) w.heap.size .d) (w.heap.size + 1) (.r st.length 0) = ownB at s
    have hOD : ∀ i, ownB w.heap.size i = .d := fun i => by rw [← hO]; simp [ownAt]
    have hOl : ∀ i, ownB (w.heap.size + 1) i = .r st.length 0 := fun i => by rw [← hO]; simp [ownAt]
    have hrec : RRep P cfg W ownB (μ ++ [w.heap.size + 1]) st.length (w.heap.size + 1) (.loop fid (keyOf y) (((cfg.keep fid (keyOf y)).map (·.1)).map fun t => plain1 (rd ρ false (.tmp t))) .ready none) := by
      refine ⟨hOl, L, fn, whole, hl1, hf, hb, hok, trivial, by rw [← hL]; exact hfind, by rw [← hL]; exact hR.tmps, by rw [← hL]; trivial, fun t => ?_⟩
      rw [get_envOf_map]
      split
      · rename_i ht
        have := (hval (.tmp t) (List.mem_cons_of_mem _ (List.mem_map.2 ⟨t, ht, rfl⟩))).plain
        rw [← hL]
        exact s.vrep this
      · exact .undef _
    have hS : Sto P cfg base W ownB (μ ++ [w.heap.size + 1]) (st ++ [.loop fid (keyOf y) (((cfg.keep fid (keyOf y)).map (·.1)).map fun t => plain1 (rd ρ false (.tmp t))) .ready none]) := by
      refine hr.sto.step s (by simp [hr.sto.len]) fun q z b h1 h2 => ?_
      rcases Nat.lt_or_ge q st.length with hq | hq
      · rw [List.getElem?_append_left hq] at h1
        exact .inl ⟨h1, fun _ h => h⟩
      · right
        have hq' : q = st.length := by
          have := (List.getElem?_eq_some_iff.1 h1).1
          simp at this; omega
        subst hq'
        rw [List.getElem?_append_right (Nat.le_refl _)] at h1
        simp only [Nat.sub_self, List.getElem?_cons_zero, Option.some.injEq] at h1
        rw [mu_last hr.sto.len] at h2
        cases h2
        rw [← h1]; exact hrec
    have hdef : ∀ z, z ∈ a.defers → ∃ D, z = { target := .collected D, args := #[] } ∧ w.heap[D]? = some (.deferred (some [])) ∧ ∀ i, ownB D i = .d ∧ W.heap[D]? = some (.deferred (some [])) := fun z hz => by
      obtain ⟨D, h1, h2, h3⟩ := hr.defers z hz
      exact ⟨D, h1, h2, fun i => ⟨(s.tag D i (by rw [h3]; simp) (fun h => h)).trans (h3 i), (s.whole D _ h3 (by simp) (by simp) (fun h => h)).trans h2⟩⟩
    have hrel : Rel P cfg base fn.ntmps W ownB (μ ++ [w.heap.size + 1]) (ρ.apply (upds ρ false (g :: ((cfg.keep fid (keyOf y)).map (·.1)).map Operand.tmp))) (st ++ [.loop fid (keyOf y) (((cfg.keep fid (keyOf y)).map (·.1)).map fun t => plain1 (rd ρ false (.tmp t))) .ready none])
        { a with defers := [{ target := .collected w.heap.size, args := #[] }] ++ a.defers } := by
      refine ⟨hS, fun t => s.trep (hr.env t) (fun _ h => h) fun z off hz => ⟨rfl, (env_keep hr t z off hz).2⟩, hR.tmps, fun z hz => ?_, ?_⟩
      · rcases List.mem_cons.1 hz with rfl | hz
        · exact ⟨_, rfl, hD1, hOD⟩
        · obtain ⟨D, h1, _, h3⟩ := hdef z hz
          exact ⟨D, h1, (h3 0).2, fun i => (h3 i).1⟩
      · refine List.nodup_cons.2 ⟨fun hm => ?_, hR.apart⟩
        obtain ⟨D, h1, h2, _⟩ := hdef _ hm
        cases h1
        have := (Array.getElem?_eq_some_iff.1 h2).1
        omega
    have hk2 : Keeps base w own μ W ownB (μ ++ [w.heap.size + 1]) := hk1.trans (s.keeps fun h => h)
    obtain ⟨hgf, hcalls⟩ := hC gf _ _ _ hx
    have hargs : Args W ownB (μ ++ [w.heap.size + 1]) (first ++ [.yld st.length] ++ cap) (cf ++ #[.func (.yield (w.heap.size + 1)) #[] #[]] ++ cc) := by
      refine Args.app (Args.app (Args.mono ha1 fun v c hv => s.vrep hv) ⟨rfl, fun i hi => ?_⟩) (Args.mono ha2 fun v c hv => s.vrep hv)
      have : i = 0 := by simpa using hi
      subst this
      exact .yld _ _ (mu_last hr.sto.len _)
    refine ⟨w.heap.size + 1, [{ target := .collected w.heap.size, args := #[] }], W, { target := .fn (.func gf) cc, args := cf ++ #[.func (.yield (w.heap.size + 1)) #[] #[]] }, W, gf, cf ++ #[.func (.yield (w.heap.size + 1)) #[] #[]] ++ cc, W, ?_, ?_, fun _ _ => trivial, ?_, wide_depth none, ?_⟩
    · rw [← hW, ← hL]; exact run_enterLoop_outer _ _ _ _ _
    · simp only [resolve, hev]
      simp [go_sem]
    · exact run_callFunc hP hgf (cf ++ #[.func (.yield (w.heap.size + 1)) #[] #[]] ++ cc)
    · refine (calls_wide (hcalls (m - 1) base W (ownC ownB) _ _ hS.toC (ownC_flat _) ⟨hargs.1, fun i hi => (hargs.2 i hi).toC⟩)).mono fun e w2 hpost => ?_
      obtain ⟨cv, own2, μ2, h1, h2, h3⟩ := hpost
      obtain ⟨k1, k2⟩ := rel_call hrel h1 h2
      cases out with
      | panic v => simp [onRet] at h
      | ret v =>
        simp only [onRet] at h
        obtain ⟨rfl, _⟩ := h3
        obtain ⟨z, hz, h⟩ := getR_spec h
        obtain ⟨f', key', vals', s', p', rfl, h6⟩ := onLoop_spec h
        have hb2 : μ2[st.length]? = some (w.heap.size + 1) := by
          obtain ⟨ν, rfl⟩ := k2.mu
          exact mu_get (mu_last hr.sto.len _)
        obtain ⟨L2, hh, hst, hput⟩ := rel_loop k1 hz hb2
        obtain ⟨k3, k4⟩ := hput { L2 with state := .exhausted } .dead ⟨rfl, rfl, rfl, rfl, rfl⟩ (.inl rfl)
        have hkk := (hk2.trans k2).trans k4
        have hN' := noL_read hN false (g :: ((cfg.keep fid (keyOf y)).map (·.1)).map Operand.tmp)
        rcases onPend_spec h6 with ⟨rfl, rfl, h7⟩ | ⟨rfl, rfl, h7⟩ | ⟨i, rfl, rfl, h7⟩
        · cases hs2 : L2.state <;> rw [hs2] at hst <;> try exact hst.elim
          cases hp2 : L2.pending <;> rw [hp2] at hst <;> try exact hst.elim
          have hend := run_endLoop (P := P) hh (by rw [hs2]; simp)
          generalize w2.putObj (w.heap.size + 1) (.loop { L2 with state := .exhausted }) = W2 at hend k3 hkk
          rw [hp2] at hend
          refine ⟨none, W2, hend, ?_⟩
          exact ⟨_, _, _, _, h7, k3, hN', hkk⟩
        · cases hs2 : L2.state <;> rw [hs2] at hst <;> try exact hst.elim
          cases hp2 : L2.pending with
          | none => rw [hp2] at hst; exact hst.elim
          | some c =>
            rw [hp2] at hst
            cases c <;> try exact hst.elim
            have hend := run_endLoop (P := P) hh (by rw [hs2]; simp)
            generalize w2.putObj (w.heap.size + 1) (.loop { L2 with state := .exhausted }) = W2 at hend k3 hkk
            rw [hp2] at hend
            refine ⟨some .ret, W2, hend, ?_⟩
            rcases bc_spec h7 with ⟨_, h7⟩ | ⟨_, h7⟩
            · exact wpIn_ret ⟨_, _, _, _, h7, k3, hN', hkk⟩
            · cases h7
        · cases hs2 : L2.state <;> rw [hs2] at hst <;> try exact hst.elim
          cases hp2 : L2.pending with
          | none => rw [hp2] at hst; exact hst.elim
          | some c =>
            rw [hp2] at hst
            cases c <;> try exact hst.elim
            rename_i j
            have : i = j := hst
            subst this
            have hend := run_endLoop (P := P) hh (by rw [hs2]; simp)
            generalize w2.putObj (w.heap.size + 1) (.loop { L2 with state := .exhausted }) = W2 at hend k3 hkk
            rw [hp2] at hend
            refine ⟨some (.exit i), W2, hend, ?_⟩
            exact wpIn_exit ⟨_, _, _, _, pickExit_spec (F := fun j => K (.exit j) _ _) h7, k3, hN', hkk⟩
end
end Go.AM

/-! Operations hand over what they compute, to whatever comes behind. -/
namespace Go.AM
open Go

section
variable {P : Program} {cfg : Cfg} {fid rid idx : Nat} {o : Oper} {ρ : Env} {st : St} {R : Type}

/-- A function that hands over what it computes. -/
def Natl {α : Type} (f : {R : Type} → (α → Option R) → Option R) : Prop := ∀ {R : Type} (K : α → Option R), f K = obind (f some) K

theorem obind_some {α : Type} (x : α) (K : α → Option R) : obind (some x) K = K x := rfl
theorem obind_none {α : Type} (K : α → Option R) : obind none K = none := rfl
theorem obind_assoc {α β : Type} (x : Option α) (K : α → Option β) (L : β → Option R) : obind (obind x K) L = obind x fun y => obind (K y) L := by cases x <;> rfl
theorem gd_obind {α : Type} (b : Bool) (x : Option α) (K : α → Option R) : obind (gd b x) K = gd b (obind x K) := by cases b <;> rfl
theorem bc_obind {α : Type} (b : Bool) (x y : Option α) (K : α → Option R) : obind (bc b x y) K = bc b (obind x K) (obind y K) := by cases b <;> rfl
theorem onInt_obind {α : Type} (v : V) (F : Int → Option α) (K : α → Option R) : obind (onInt v F) K = onInt v fun i => obind (F i) K := by cases v <;> rfl
theorem onAgg_obind {α : Type} (v : V) (F : List V → Option α) (K : α → Option R) : obind (onAgg v F) K = onAgg v fun i => obind (F i) K := by cases v <;> rfl
theorem onTup_obind {α : Type} (v : V) (F : List V → Option α) (K : α → Option R) : obind (onTup v F) K = onTup v fun i => obind (F i) K := by cases v <;> rfl
theorem onBool_obind {α : Type} (v : V) (F : Bool → Option α) (K : α → Option R) : obind (onBool v F) K = onBool v fun i => obind (F i) K := by cases v <;> rfl
theorem onStr_obind {α : Type} (v : V) (F : ByteArray → Option α) (K : α → Option R) : obind (onStr v F) K = onStr v fun i => obind (F i) K := by cases v <;> rfl
theorem onIk_obind {α : Type} (k : IntKind) (v : V) (F : Int → Option α) (K : α → Option R) : obind (onIk k v F) K = onIk k v fun i => obind (F i) K := by
  cases v <;> try rfl
  simp only [onIk]; split <;> rfl
theorem onVec_obind {α : Type} (sh : Sh) (v : V) (F : List V → Option α) (K : α → Option R) : obind (onVec sh v F) K = onVec sh v fun i => obind (F i) K := by
  cases v <;> try rfl
  rename_i m sh' es
  cases m <;> try rfl
  simp only [onVec]; split <;> rfl
theorem onNil_obind {α : Type} (vs : List V) (x : Option α) (K : α → Option R) : obind (onNil vs x) K = onNil vs (obind x K) := by cases vs <;> rfl
theorem onCons_obind {α : Type} (vs : List V) (F : V → List V → Option α) (K : α → Option R) : obind (onCons vs F) K = onCons vs fun v vs => obind (F v vs) K := by cases vs <;> rfl
theorem getR_obind {α : Type} (q : Nat) (F : Res → Option α) (K : α → Option R) : obind (getR st q F) K = getR st q fun x => obind (F x) K := by
  unfold getR; cases st[q]? <;> rfl
theorem onBox_obind {α : Type} (x : Res) (F : List V → Option α) (K : α → Option R) : obind (onBox x F) K = onBox x fun i => obind (F i) K := by cases x <;> rfl
theorem onRow_obind {α : Type} (x : Res) (F : Sh → List V → Option α) (K : α → Option R) : obind (onRow x F) K = onRow x fun i j => obind (F i j) K := by cases x <;> rfl
theorem onIter_obind {α : Type} (x : Res) (F : ByteArray → Nat → Option α) (K : α → Option R) : obind (onIter x F) K = onIter x fun i j => obind (F i j) K := by cases x <;> rfl
theorem onLoop_obind {α : Type} (x : Res) (F : Nat → Nat → List V → LSt → Option Ex → Option α) (K : α → Option R) : obind (onLoop x F) K = onLoop x fun a b c d e => obind (F a b c d e) K := by cases x <;> rfl
theorem onRet_obind {α : Type} (x : Out) (F G : V → Option α) (K : α → Option R) : obind (onRet x F G) K = onRet x (fun v => obind (F v) K) (fun v => obind (G v) K) := by cases x <;> rfl

theorem onFn_obind {α : Type} (v : V) (F : Nat → List V → List V → Option α) (K : α → Option R) : obind (onFn v F) K = onFn v fun a b c => obind (F a b c) K := by cases v <;> rfl

theorem onFull_obind {α : Type} (sh : Sh) (v : V) (F : List V → Option α) (K : α → Option R) : obind (onFull sh v F) K = onFull sh v fun a => obind (F a) K := by
  cases v <;> try rfl
  rename_i m _ _
  cases m <;> try rfl
  simp only [onFull]; split <;> rfl
theorem coerceCell_nat (c : CT) (v : V) : Natl fun K => coerceCell c v K := by
  intro R K
  cases c <;> simp only [coerceCell, onInt_obind, onIk_obind, onBool_obind, onStr_obind, onVec_obind, onFn_obind, onFull_obind, onNil_obind, obind_some]

theorem onCells_nat (cs : List CT) : ∀ (vs : List V) {α : Type} (F : List V → Option α) (K : α → Option R), obind (onCells cs vs (mkFn α cs F)) K = onCells cs vs (mkFn R cs fun vs => obind (F vs) K) := by
  induction cs with
  | nil => intro vs α F K; cases vs <;> rfl
  | cons c cs ih =>
    intro vs α F K
    cases vs with
    | nil => cases c <;> exact (show (none : Option R) = none from rfl)
    | cons v vs =>
      cases c with
      | int => cases v with
        | int x => exact ih vs (fun vs => F (.int x :: vs)) K
        | _ => exact (show (none : Option R) = none from rfl)
      | bool => cases v with
        | bool x => exact ih vs (fun vs => F (.bool x :: vs)) K
        | _ => exact (show (none : Option R) = none from rfl)
      | str => cases v with
        | str x => exact ih vs (fun vs => F (.str x :: vs)) K
        | _ => exact (show (none : Option R) = none from rfl)
      | fn => cases v with
        | fn g a b => exact ih vs (fun vs => F (.fn g a b :: vs)) K
        | _ => exact (show (none : Option R) = none from rfl)
      | any => exact ih vs (fun vs => F (v :: vs)) K
      | nil sh =>
        cases v with
        | vec m sh' es =>
          cases m with
          | full =>
            cases es with
            | nil =>
              show obind (if sh' = sh then onCells cs vs (mkFn α cs fun vs => F (.vec .full sh [] :: vs)) else none) K = if sh' = sh then onCells cs vs (mkFn R cs fun vs => obind (F (.vec .full sh [] :: vs)) K) else none
              by_cases h : sh' = sh
              · rw [if_pos h, if_pos h]; exact ih vs (fun vs => F (.vec .full sh [] :: vs)) K
              · rw [if_neg h, if_neg h]; rfl
            | cons _ _ => exact (show (none : Option R) = none from rfl)
          | _ => exact (show (none : Option R) = none from rfl)
        | _ => exact (show (none : Option R) = none from rfl)
      | ik k =>
        cases v with
        | ik k' x =>
          show obind (if k' = k then onCells cs vs (mkFn α cs fun vs => F (.ik k x :: vs)) else none) K = if k' = k then onCells cs vs (mkFn R cs fun vs => obind (F (.ik k x :: vs)) K) else none
          by_cases h : k' = k
          · rw [if_pos h, if_pos h]; exact ih vs (fun vs => F (.ik k x :: vs)) K
          · rw [if_neg h, if_neg h]; rfl
        | _ => exact (show (none : Option R) = none from rfl)
      | slice sh =>
        cases v with
        | vec m sh' es =>
          cases m with
          | plain =>
            show obind (if sh' = sh then onCells cs vs (mkFn α cs fun vs => F (.vec .plain sh es :: vs)) else none) K = if sh' = sh then onCells cs vs (mkFn R cs fun vs => obind (F (.vec .plain sh es :: vs)) K) else none
            by_cases h : sh' = sh
            · rw [if_pos h, if_pos h]; exact ih vs (fun vs => F (.vec .plain sh es :: vs)) K
            · rw [if_neg h, if_neg h]; rfl
          | _ => exact (show (none : Option R) = none from rfl)
        | _ => exact (show (none : Option R) = none from rfl)

theorem coerce1_obind {α : Type} (t : TypeId) (v : V) (F : V → Option α) (K : α → Option R) : obind (coerce1 P t v F) K = coerce1 P t v fun v => obind (F v) K := by
  have hc : ∀ (c : CT), obind (coerceCell c v F) K = coerceCell c v fun v => obind (F v) K := by
    intro c
    cases c <;> simp only [coerceCell, onInt_obind, onIk_obind, onBool_obind, onStr_obind, onVec_obind, onFn_obind, onFull_obind, onNil_obind]
  unfold coerce1
  cases shOf P t with
  | none =>
    simp only
    split
    · exact hc _
    · rfl
  | some k =>
    simp only [onStruct]
    cases v <;> simp only [obind_none]
    exact onCells_nat _ _ _ _

theorem coerceN_obind {α : Type} (t : TypeId) (v : V) (F : V → Option α) (K : α → Option R) : obind (coerceN P t v F) K = coerceN P t v fun v => obind (F v) K := by
  have hc : ∀ (c : CT), obind (coerceCell c v F) K = coerceCell c v fun v => obind (F v) K := by
    intro c
    cases c <;> simp only [coerceCell, onInt_obind, onIk_obind, onBool_obind, onStr_obind, onVec_obind, onFn_obind, onFull_obind, onNil_obind]
  unfold coerceN
  cases shOf P t with
  | none =>
    simp only
    split
    · exact hc _
    · rfl
  | some k =>
    simp only [onStruct]
    cases v <;> simp only [obind_none]
    exact onCells_nat _ _ _ _

theorem coerceTup_obind {α : Type} : ∀ (ts : List TypeId) (vs : List V) (F : List V → Option α) (K : α → Option R), obind (coerceTup P ts vs F) K = coerceTup P ts vs fun v => obind (F v) K
  | [], vs, F, K => by simp only [coerceTup, onNil_obind]
  | t :: ts, vs, F, K => by simp only [coerceTup, onCons_obind, coerce1_obind, coerceTup_obind ts]

theorem coerce_obind {α : Type} (t : TypeId) (v : V) (F : V → Option α) (K : α → Option R) : obind (coerce P t v F) K = coerce P t v fun v => obind (F v) K := by
  unfold coerce
  split
  · simp only [onTup_obind, coerceTup_obind]
  · exact coerce1_obind _ _ _ _

theorem bop_obind {α : Type} (isB : Bool) (op : BinOp) (x y : V) (F : V → Option α) (K : α → Option R) : obind (bop isB op x y F) K = bop isB op x y fun v => obind (F v) K := by
  unfold bop
  split
  · cases op <;> first | rfl | exact gd_obind _ _ _
  · split
    · cases op <;> first | rfl | exact gd_obind _ _ _
    · rfl
  · cases op <;> first | rfl | exact gd_obind _ _ _
  · cases op <;> first | rfl | exact gd_obind _ _ _
  · rfl

theorem eqFs_obind {α : Type} : ∀ (fs : List Field) (as bs : List V) (acc : Bool) (F : Bool → Option α) (K : α → Option R), obind (eqFs P fs as bs acc F) K = eqFs P fs as bs acc fun b => obind (F b) K
  | [], as, bs, acc, F, K => by simp only [eqFs, onNil_obind]
  | f :: fs, as, bs, acc, F, K => by
    simp only [eqFs, onCons_obind]
    congr 1
    funext a as
    congr 1
    funext b bs
    split
    · simp only [onInt_obind, eqFs_obind fs]
    · simp only [onIk_obind, eqFs_obind fs]
    · simp only [onBool_obind, eqFs_obind fs]
    · simp only [onStr_obind, eqFs_obind fs]
    · rfl

theorem bopT_obind {α : Type} (t : TypeId) (op : BinOp) (x y : V) (F : V → Option α) (K : α → Option R) : obind (bopT P t op x y F) K = bopT P t op x y fun v => obind (F v) K := by
  unfold bopT
  split
  · rw [gd_obind]
    congr 1
    split
    · rw [eqFs_obind]
      congr 1
      funext b
      cases op <;> rfl
    · rfl
  · exact bop_obind _ _ _ _ _ _

theorem uop_obind {α : Type} (op : UnOp) (x : V) (F : V → Option α) (K : α → Option R) : obind (uop op x F) K = uop op x fun v => obind (F v) K := by
  unfold uop; split <;> rfl

theorem conv_obind {α : Type} (t u : TypeId) (x : V) (F : V → Option α) (K : α → Option R) : obind (conv P t u x F) K = conv P t u x fun v => obind (F v) K := by
  unfold conv
  split <;> try rfl
  · split
    · exact gd_obind _ _ _
    · rfl
  · split <;> rfl

theorem sliceV_obind {α : Type} (t : TypeId) (x : V) (lo hi mx : Option V) (F : V → Option α) (K : α → Option R) : obind (sliceV P t x lo hi mx F) K = sliceV P t x lo hi mx fun v => obind (F v) K := by
  unfold sliceV
  split
  · cases lo <;> cases hi <;> cases mx <;> simp only [gd_obind, onInt_obind]
  · cases lo <;> cases hi <;> simp only [gd_obind, onInt_obind]
  · cases lo <;> cases hi <;> simp only [gd_obind, onInt_obind]
  · rfl

theorem lenV_obind {α : Type} (t : TypeId) (x : V) (F : V → Option α) (K : α → Option R) : obind (lenV P t x F) K = lenV P t x fun v => obind (F v) K := by
  unfold lenV; split <;> first | exact gd_obind _ _ _ | rfl

theorem srcV_obind {α : Type} (t : TypeId) (x : V) (F : Sh → List V → Option α) (K : α → Option R) : obind (srcV P st t x F) K = srcV P st t x fun v w => obind (F v w) K := by
  unfold srcV
  split
  · exact gd_obind _ _ _
  · exact gd_obind _ _ _
  · simp only [gd_obind, getR_obind, onRow_obind]
  · rfl

theorem onRoom_obindN {α : Type} (sh : Sh) (v : V) (F : List V → Option α) (K : α → Option R) : obind (onRoom sh v F) K = onRoom sh v fun a => obind (F a) K := by
  cases v <;> try rfl
  rename_i m _ _
  cases m <;> try rfl
  · simp only [onRoom]; split <;> rfl
  · simp only [onRoom]; split <;> rfl
theorem appendV_obind {α : Type} (t : TypeId) (s : V) (ys : List V) (sh : Sh) (F : V → Option α) (K : α → Option R) : obind (appendV P t s ys sh F) K = appendV P t s ys sh fun v => obind (F v) K := by
  unfold appendV
  split
  · rfl
  · rw [onRoom_obindN]; simp only [gd_obind]

theorem freezeAll_obind {α : Type} : ∀ (ps : List (Nat × V)) (st : St) (F : List (Nat × V) → St → Option α) (K : α → Option R), obind (freezeAll ps st F) K = freezeAll ps st fun v w => obind (F v w) K
  | [], st, F, K => rfl
  | (i, v) :: rest, st, F, K => by
    cases v <;> simp only [freezeAll, freezeAll_obind rest, getR_obind, onRow_obind, gd_obind]
end
end Go.AM

/-! .. and so do all operations. -/
namespace Go.AM
open Go

section
variable {P : Program} {cfg : Cfg} {O : Oracle} {fid rid idx : Nat} {o : Oper} {ρ : Env} {st : St} {R : Type} {α : Type}

theorem cond_obind (b : Bool) (x y : Option α) (K : α → Option R) : obind (bif b then x else y) K = bif b then obind x K else obind y K := by cases b <;> rfl

theorem pureOp_obind (F : List (Nat × V) → Option α) (K : α → Option R) : obind (pureOp P cfg fid rid idx o ρ F) K = pureOp P cfg fid rid idx o ρ fun us => obind (F us) K := by
  unfold pureOp
  dsimp only
  cases hop : o.op <;> simp only [obind_none, gd_obind, onInt_obind, onTup_obind, onAgg_obind, bopT_obind, uop_obind, conv_obind, sliceV_obind]
  case pick c a b => cases rd ρ (cfg.take fid rid idx) c <;> first | rfl | exact bc_obind _ _ _ _
  case build t ps => split <;> first | rfl | exact gd_obind _ _ _
  case buildSlice t n ps =>
    split
    · split <;> first | rfl | exact gd_obind _ _ _
    · rfl
  case load t a =>
    split
    · simp only [gd_obind, coerce1_obind]
    · exact gd_obind _ _ _
    · split
      · simp only [gd_obind, bc_obind]
      · exact gd_obind _ _ _
      · rfl
    · rfl
  case store t a x =>
    congr 1
    split
    · exact gd_obind _ _ _
    · split <;> first | rfl | exact gd_obind _ _ _
    · rfl
  case fieldAddr s x f =>
    split
    · rfl
    · simp only [gd_obind]
      congr 1
      split <;> first | rfl | exact gd_obind _ _ _ | simp only [gd_obind, onAgg_obind]
  case indexAddr t x i =>
    split
    · split <;> first | rfl | simp only [gd_obind, onInt_obind]
    · split <;> first | rfl | simp only [gd_obind, onInt_obind]
    · rfl
  case field s x f =>
    split
    · rfl
    · simp only [gd_obind, onAgg_obind]
  case index t x i => split <;> first | rfl | simp only [gd_obind, onInt_obind]
  case makeFunc f first cap => split <;> rfl
  case makeSlice t l c => split <;> first | rfl | simp only [gd_obind, onInt_obind]
  case nilCheck x => split <;> first | rfl | exact gd_obind _ _ _

theorem readOp_obind (F : List (Nat × V) → Option α) (K : α → Option R) : obind (readOp P cfg fid rid idx o ρ st F) K = readOp P cfg fid rid idx o ρ st fun us => obind (F us) K := by
  unfold readOp
  dsimp only
  cases hop : o.op <;> simp only [obind_none]
  case load t a =>
    split
    · simp only [gd_obind, getR_obind, onBox_obind, coerce1_obind]
    · simp only [getR_obind, onRow_obind, gd_obind]
      congr 1
      funext x
      congr 1
      funext sh es
      congr 1
      split
      · simp only [coerce1_obind]
      · split
        · simp only [onAgg_obind, gd_obind, coerce1_obind]
        · rfl
    · rfl
  case call c =>
    split
    · split
      · simp only [gd_obind, srcV_obind, appendV_obind]
      · rfl
    · split
      · simp only [lenV_obind]
      · rfl
    · rfl

theorem onRoom2_obind (sh : Sh) (v : V) (F G : List V → Option α) (K : α → Option R) : obind (onRoom2 sh v F G) K = onRoom2 sh v (fun a => obind (F a) K) (fun a => obind (G a) K) := by
  cases v <;> try rfl
  rename_i m _ _
  cases m <;> try rfl
  · simp only [onRoom2]; split <;> rfl
  · simp only [onRoom2]; split <;> rfl
theorem writeOp_obind (F : List (Nat × V) → St → Option α) (K : α → Option R) : obind (writeOp P cfg fid rid idx o ρ st F) K = writeOp P cfg fid rid idx o ρ st fun us st => obind (F us st) K := by
  unfold writeOp
  dsimp only
  cases hop : o.op <;> try simp only [obind_none, gd_obind]
  case load t a =>
    split
    · simp only [gd_obind, getR_obind, onBox_obind]
      congr 1
      funext x
      congr 1
      funext cs
      congr 1
      split
      · rfl
      · exact onRoom2_obind ..
    · rfl
  case store t a x =>
    congr 1
    split
    · simp only [gd_obind, getR_obind, onBox_obind]
    · simp only [getR_obind, onRow_obind, gd_obind]
      congr 1
      funext x
      congr 1
      funext sh es
      congr 1
      split
      · rfl
      · split
        · simp only [onAgg_obind, gd_obind]
        · rfl
    · rfl
  case makeSlice t l c => split <;> first | rfl | simp only [gd_obind, onInt_obind]
  case build t ps =>
    simp only [freezeAll_obind]
    congr 1
    funext ps st
    split <;> first | rfl | exact gd_obind _ _ _
  case move x =>
    cases x <;> try rfl
    simp only
    split
    · simp only [getR_obind, onRow_obind, gd_obind]
    · rfl
  case range t x => simp only [onStr_obind, gd_obind]
  case next it s =>
    cases s
    · rfl
    · simp only
      split
      · simp only [getR_obind, onIter_obind, gd_obind, bc_obind]
      · rfl
  case call c =>
    split
    · split
      · split
        · simp only [gd_obind, srcV_obind]
        · rfl
      · rfl
    · split
      · split
        · simp only [gd_obind, srcV_obind, getR_obind, onRow_obind]
        · rfl
      · rfl
    · rfl

theorem minMax_obind (F : List (Nat × V) → Option α) (K : α → Option R) : obind (minMax o ρ F) K = minMax o ρ fun us => obind (F us) K := by
  unfold minMax
  split
  · split
    · split <;> rfl
    · split <;> rfl
    · rfl
  · rfl

theorem obind_obind {β : Type} (x : Option β) (F : β → Option α) (K : α → Option R) : obind (obind x F) K = obind x fun y => obind (F y) K := by cases x <;> rfl

theorem callOp_obind {c : Call} {f : Operand} (F : List (Nat × V) → St → Option α) (G : V → St → Option α) (K : α → Option R) : obind (callOp P cfg O fid rid idx o c f ρ st F G) K = callOp P cfg O fid rid idx o c f ρ st (fun us st => obind (F us st) K) fun v st => obind (G v st) K := by
  unfold callOp
  dsimp only
  simp only [gd_obind]
  congr 1
  split
  · simp only [bc_obind, obind_obind, coerce_obind, coerceN_obind, onRet_obind, obind_none]
  · simp only [applyK_eq, bc_obind, obind_obind, coerce_obind, onRet_obind, obind_none]

theorem runOp_obind (F : List (Nat × V) → St → Option α) (G : V → St → Option α) (K : α → Option R) : obind (runOp P cfg O fid rid idx o ρ st F G) K = runOp P cfg O fid rid idx o ρ st (fun us st => obind (F us st) K) fun v st => obind (G v st) K := by
  unfold runOp
  split
  · split <;> rfl
  · exact callOp_obind _ _ _
  · exact minMax_obind _ _
  · exact minMax_obind _ _
  · split
    · exact pureOp_obind _ _
    · exact readOp_obind _ _
    · exact writeOp_obind _ _

/-- What an operation computes: no panic. -/
def stepV (P : Program) (cfg : Cfg) (O : Oracle) (fid rid idx : Nat) (o : Oper) (ρ : Env) (st : St) : Option (List (Nat × V) × St) := runOp P cfg O fid rid idx o ρ st (fun us st => some (us, st)) fun _ _ => none

theorem runOp_step (F : List (Nat × V) → St → Option R) : runOp P cfg O fid rid idx o ρ st F (fun _ _ => none) = obind (stepV P cfg O fid rid idx o ρ st) fun x => F x.1 x.2 := by
  unfold stepV
  rw [runOp_obind]
  rfl
end
end Go.AM

/-! What an operation looks at. -/
namespace Go.AM
open Go

section
variable {P : Program} {cfg : Cfg} {O : Oracle} {fid rid idx : Nat} {o : Oper} {ρ ρ' : Env} {st : St} {R : Type} {α : Type}

/-- Operands that stand for the same. -/
def SameOn (ρ ρ' : Env) (xs : List Operand) : Prop := ∀ x ∈ xs, ev ρ' x = ev ρ x ∧ ∀ b off, ev ρ x = .lptr b off → ρ'.get b = ρ.get b

theorem SameOn.rd {xs : List Operand} (h : SameOn ρ ρ' xs) (tk : Bool) {x : Operand} (hx : x ∈ xs) : AM.rd ρ' tk x = AM.rd ρ tk x := by unfold AM.rd; rw [(h x hx).1]

theorem SameOn.upds {xs ys : List Operand} (h : SameOn ρ ρ' xs) (tk : Bool) (hy : ∀ y ∈ ys, y ∈ xs) : AM.upds ρ' tk ys = AM.upds ρ tk ys := by
  unfold AM.upds
  induction ys with
  | nil => rfl
  | cons y ys ih =>
    rw [List.flatMap_cons, List.flatMap_cons, ih fun z hz => hy z (List.mem_cons_of_mem _ hz)]
    congr 1
    have := (h y (hy y (List.mem_cons_self ..))).1
    unfold upd1
    cases y with
    | tmp t =>
      have e : ρ'.get t = ρ.get t := this
      simp only [e]
    | _ => rfl

theorem valOperands_sub (op : Op) : ∀ y ∈ valOperands op, y ∈ op.operands.toList := by
  intro y hy
  cases op <;> simp only [valOperands] at hy <;> first | exact hy | (simp at hy; done) | (simp only [List.mem_singleton] at hy; subst hy; simp [Op.operands])

theorem layElems_same {e : TypeId} {f g : Operand → V} : ∀ (ps : List (Nat × Operand)) (es : List V), (∀ p ∈ ps, f p.2 = g p.2) → layElems P e f ps es = layElems P e g ps es
  | [], es, _ => rfl
  | (i, x) :: ps, es, h => by
    simp only [layElems]
    rw [h (i, x) (List.mem_cons_self ..)]
    congr 1
    exact layElems_same ps _ fun p hp => h p (List.mem_cons_of_mem _ hp)

theorem pureOp_same (h : SameOn ρ ρ' o.op.operands.toList) (F : List (Nat × V) → Option R) : pureOp P cfg fid rid idx o ρ' F = pureOp P cfg fid rid idx o ρ F := by
  have hu := h.upds (cfg.take fid rid idx) (valOperands_sub o.op)
  have hr := fun {x} hx => h.rd (cfg.take fid rid idx) (x := x) hx
  unfold pureOp
  dsimp only
  rw [hu]
  revert h hr
  clear hu
  cases hop : o.op <;> intro h hr <;> simp only [Op.operands] at h hr ⊢
  case move x => rw [hr (by simp)]
  case assign x => rw [hr (by simp)]
  case pick c a b => rw [hr (x := c) (by simp), hr (x := a) (by simp), hr (x := b) (by simp)]
  case box e x => rw [hr (by simp)]
  case build t ps =>
    have : (ps.toList.map fun p => (p.1, rd ρ' (cfg.take fid rid idx) p.2)) = ps.toList.map fun p => (p.1, rd ρ (cfg.take fid rid idx) p.2) :=
      List.map_congr_left fun p hp => by rw [hr (List.mem_map.2 ⟨p, hp, rfl⟩)]
    rw [this]
  case buildSlice t n ps =>
    have : ∀ e, layElems P e (rd ρ' (cfg.take fid rid idx)) ps.toList (List.replicate n (zeroV P e)) = layElems P e (rd ρ (cfg.take fid rid idx)) ps.toList (List.replicate n (zeroV P e)) :=
      fun e => layElems_same _ _ fun p hp => hr (List.mem_map.2 ⟨p, hp, rfl⟩)
    simp only [this]
  case load t a =>
    obtain ⟨h1, h2⟩ := h a (by simp)
    rw [h1]
    cases hv : ev ρ a <;> try rfl
    rename_i b off
    dsimp only
    rw [h2 b off hv]
  case store t a x =>
    obtain ⟨h1, h2⟩ := h a (by simp)
    rw [h1, hr (x := x) (by simp)]
    cases hv : ev ρ a with
    | lptr b off => cases a <;> dsimp only <;> rw [h2 b off hv]
    | _ => cases a <;> rfl
  case fieldAddr s x f => rw [(h x (by simp)).1]
  case indexAddr t x i => rw [(h x (by simp)).1, hr (x := i) (by simp)]
  case field s x f => rw [hr (by simp)]
  case index t x i => rw [hr (x := x) (by simp), hr (x := i) (by simp)]
  case extract x i => rw [hr (by simp)]
  case binOp op t x y u => rw [hr (x := x) (by simp), hr (x := y) (by simp)]
  case unOp op t x => rw [hr (by simp)]
  case convert s d x => rw [hr (by simp)]
  case makeFunc f first cap =>
    have h1 : (first.toList.map fun x => plain1 (rd ρ' (cfg.take fid rid idx) x)) = first.toList.map fun x => plain1 (rd ρ (cfg.take fid rid idx) x) := List.map_congr_left fun x hx => by rw [hr (by simp at hx ⊢; exact .inl hx)]
    have h2 : (cap.toList.map fun x => plain1 (rd ρ' (cfg.take fid rid idx) x)) = cap.toList.map fun x => plain1 (rd ρ (cfg.take fid rid idx) x) := List.map_congr_left fun x hx => by rw [hr (by simp at hx ⊢; exact .inr hx)]
    rw [h1, h2]
  case makeSlice t l c => rw [hr (x := l) (by simp), hr (x := c) (by simp)]
  case slice t x lo hi mx =>
    have ho : ∀ y : Option Operand, (∀ z, y = some z → z ∈ (#[x] ++ lo.toArray ++ hi.toArray ++ mx.toArray).toList) → y.map (rd ρ' (cfg.take fid rid idx)) = y.map (rd ρ (cfg.take fid rid idx)) := by
      intro y hy
      cases y with
      | none => rfl
      | some z => simp only [Option.map_some]; rw [hr (hy z rfl)]
    rw [hr (x := x) (by simp), ho lo (by rintro z rfl; simp), ho hi (by rintro z rfl; simp), ho mx (by rintro z rfl; simp)]
  case nilCheck x => rw [(h x (by simp)).1]
  case makeInterface t x => rw [hr (by simp)]
  all_goals rfl

theorem call_operands {c : Call} {b : Builtin} (hc : c.callee = .builtin b) : c.operands.toList = c.args.toList := by simp [Call.operands, hc]

theorem readOp_same (h : SameOn ρ ρ' o.op.operands.toList) (F : List (Nat × V) → Option R) : readOp P cfg fid rid idx o ρ' st F = readOp P cfg fid rid idx o ρ st F := by
  have hu := h.upds (cfg.take fid rid idx) (valOperands_sub o.op)
  have hr := fun {x} hx => h.rd (cfg.take fid rid idx) (x := x) hx
  unfold readOp
  dsimp only
  rw [hu]
  revert h hr
  clear hu
  cases hop : o.op <;> intro h hr <;> simp only [Op.operands] at h hr ⊢
  case load t a => rw [(h a (by simp)).1]
  case call c =>
    cases hc : c.callee with
    | builtin b =>
      rw [call_operands hc] at hr
      cases b <;> try rfl
      · simp only
        split
        · rename_i s x t t' ha ht
          rw [hr (x := s) (by rw [ha]; simp), hr (x := x) (by rw [ha]; simp)]
        · rfl
      · simp only
        split
        · rename_i x t ha ht
          rw [hr (x := x) (by rw [ha]; simp)]
        · rfl
    | _ => rfl
  all_goals rfl

theorem writeOp_same (h : SameOn ρ ρ' o.op.operands.toList) (F : List (Nat × V) → St → Option R) : writeOp P cfg fid rid idx o ρ' st F = writeOp P cfg fid rid idx o ρ st F := by
  have hu := h.upds (cfg.take fid rid idx) (valOperands_sub o.op)
  have hr := fun {x} hx => h.rd (cfg.take fid rid idx) (x := x) hx
  unfold writeOp
  dsimp only
  rw [hu]
  revert h hr
  clear hu
  cases hop : o.op <;> intro h hr <;> simp only [Op.operands] at h hr ⊢
  case load t a => rw [(h a (by simp)).1]
  case store t a x => rw [(h a (by simp)).1, hr (x := x) (by simp)]
  case box e x => rw [hr (by simp)]
  case makeSlice t l c => rw [hr (x := l) (by simp), hr (x := c) (by simp)]
  case build t ps =>
    have : (ps.toList.map fun p => (p.1, rd ρ' (cfg.take fid rid idx) p.2)) = ps.toList.map fun p => (p.1, rd ρ (cfg.take fid rid idx) p.2) :=
      List.map_congr_left fun p hp => by rw [hr (List.mem_map.2 ⟨p, hp, rfl⟩)]
    rw [this]
  case move x =>
    cases x with
    | tmp t =>
      have := (h (.tmp t) (by simp)).1
      simp only [ev] at this
      dsimp only
      rw [this]
    | _ => rfl
  case range t x => rw [hr (x := x) (by simp)]
  case next it z =>
    cases z
    · rfl
    · dsimp only
      rw [(h it (by simp)).1]
  case call c =>
    cases hc : c.callee with
    | builtin b =>
      rw [call_operands hc] at hr
      cases b <;> try rfl
      · simp only
        split
        · rename_i s x t t' ha ht
          rw [hr (x := s) (by rw [ha]; simp), hr (x := x) (by rw [ha]; simp)]
        · rfl
      · simp only
        split
        · rename_i s x t t' ha ht
          rw [hr (x := s) (by rw [ha]; simp), hr (x := x) (by rw [ha]; simp)]
        · rfl
    | _ => rfl
  all_goals rfl
end
end Go.AM

/-! .. of the temporaries, and of the resources. -/
namespace Go.AM
open Go

section
variable {P : Program} {cfg : Cfg} {O : Oracle} {fid rid idx : Nat} {o : Oper} {ρ ρ' : Env} {st : St} {R : Type} {α : Type}

theorem minMax_same (h : SameOn ρ ρ' o.op.operands.toList) (F : List (Nat × V) → Option R) : minMax o ρ' F = minMax o ρ F := by
  unfold minMax
  revert h
  cases hop : o.op <;> intro h <;> simp only [Op.operands] at h ⊢
  rename_i c
  cases hc : c.callee with
  | builtin b =>
    rw [call_operands hc] at h
    cases b <;> try rfl
    · split <;> try rfl
      · rename_i x y hb ha
        rw [ha] at h
        rw [(h x (by simp)).1, (h y (by simp)).1]
      · rename_i x y hb ha
        rw [ha] at h
        rw [(h x (by simp)).1, (h y (by simp)).1]
    · split <;> try rfl
      · rename_i x y hb ha
        rw [ha] at h
        rw [(h x (by simp)).1, (h y (by simp)).1]
      · rename_i x y hb ha
        rw [ha] at h
        rw [(h x (by simp)).1, (h y (by simp)).1]
  | _ => rfl

theorem callOp_same {c : Call} {f : Operand} (hc : c.callee = .value f) (h : SameOn ρ ρ' c.operands.toList) (F : List (Nat × V) → St → Option R) (G : V → St → Option R) :
    callOp P cfg O fid rid idx o c f ρ' st F G = callOp P cfg O fid rid idx o c f ρ st F G := by
  have hops : c.operands.toList = f :: c.args.toList := by simp [Call.operands, hc]
  rw [hops] at h
  have hu := h.upds (cfg.take fid rid idx) (ys := f :: c.args.toList) (fun y hy => hy)
  have hz : List.zipWith (fun x t => plainAs P t (rd ρ' (cfg.take fid rid idx) x)) c.args.toList c.argTypes.toList = List.zipWith (fun x t => plainAs P t (rd ρ (cfg.take fid rid idx) x)) c.args.toList c.argTypes.toList := by
    have : ∀ (xs : List Operand) (ts : List TypeId), (∀ x ∈ xs, x ∈ f :: c.args.toList) → List.zipWith (fun x t => plainAs P t (rd ρ' (cfg.take fid rid idx) x)) xs ts = List.zipWith (fun x t => plainAs P t (rd ρ (cfg.take fid rid idx) x)) xs ts := by
      intro xs
      induction xs with
      | nil => intro ts _; rfl
      | cons x xs ih =>
        intro ts hx
        cases ts with
        | nil => rfl
        | cons t ts =>
          simp only [List.zipWith_cons_cons]
          rw [h.rd _ (hx x (List.mem_cons_self ..)), ih ts fun y hy => hx y (List.mem_cons_of_mem _ hy)]
    exact this _ _ fun x hx => List.mem_cons_of_mem _ hx
  unfold callOp
  dsimp only
  rw [hu, hz]
  congr 1
  split
  · rfl
  · rw [h.rd _ (List.mem_cons_self ..)]

theorem skOf_same (h : SameOn ρ ρ' o.op.operands.toList) : skOf cfg fid rid idx o ρ' = skOf cfg fid rid idx o ρ := by
  unfold skOf
  revert h
  cases hop : o.op <;> intro h <;> simp only [Op.operands] at h ⊢
  case load t a => rw [(h a (by simp)).1]
  case store t a x => rw [(h a (by simp)).1]
  case move x =>
    cases x with
    | tmp t =>
      have := (h (.tmp t) (by simp)).1
      simp only [ev] at this
      simp only [this]
    | _ => rfl
  case build t ps =>
    congr 1
    apply propext
    constructor
    · intro hx
      obtain ⟨p, hp, hx⟩ := List.any_eq_true.1 hx
      have e := (h p.2 (List.mem_map.2 ⟨p, hp, rfl⟩)).1
      exact List.any_eq_true.2 ⟨p, hp, by rw [e] at hx; exact hx⟩
    · intro hx
      obtain ⟨p, hp, hx⟩ := List.any_eq_true.1 hx
      have e := (h p.2 (List.mem_map.2 ⟨p, hp, rfl⟩)).1
      exact List.any_eq_true.2 ⟨p, hp, by rw [e]; exact hx⟩

theorem runOp_same (h : SameOn ρ ρ' o.op.operands.toList) (F : List (Nat × V) → St → Option R) (G : V → St → Option R) : runOp P cfg O fid rid idx o ρ' st F G = runOp P cfg O fid rid idx o ρ st F G := by
  unfold runOp
  split
  · rename_i x hop
    rw [hop] at h
    simp only [Op.operands] at h
    rw [h.rd false (x := x) (by simp)]
  · rename_i f args argTypes hop
    rw [hop] at h
    exact callOp_same (c := { callee := .value f, args, argTypes }) rfl h F G
  · exact minMax_same h _
  · exact minMax_same h _
  · rw [skOf_same h]
    split
    · exact pureOp_same h _
    · exact readOp_same h _
    · exact writeOp_same h _

theorem stepV_same (h : SameOn ρ ρ' o.op.operands.toList) : stepV P cfg O fid rid idx o ρ' st = stepV P cfg O fid rid idx o ρ st := runOp_same h _ _

theorem skAt_same (h : SameOn ρ ρ' o.op.operands.toList) : skAt cfg fid rid idx o ρ' = skAt cfg fid rid idx o ρ := by
  unfold skAt
  split
  · split
    · rfl
    · exact skOf_same h
  · exact skOf_same h

/-- An operation that does not look at the resources. -/
theorem step_none (hk : skAt cfg fid rid idx o ρ = .none) : ∃ y, ∀ st, stepV P cfg O fid rid idx o ρ st = obind y fun us => some (us, st) := by
  unfold stepV runOp
  split
  · rename_i x hop
    refine ⟨none, fun st => ?_⟩
    split <;> rfl
  · rename_i f args argTypes hop
    simp only [skAt, hop] at hk
    cases f with
    | func g =>
      simp only at hk
      split at hk
      · rename_i hp
        refine ⟨callOp P cfg O fid rid idx o { callee := .value (.func g), args, argTypes } (.func g) ρ [] (fun us _ => some us) (fun _ _ => none), fun st => ?_⟩
        unfold callOp
        dsimp only
        rw [hp]
        simp only [bc_obind, gd_obind, obind_obind, coerce_obind, coerceN_obind, obind_some]
        cases isExtern P g <;> simp only [bc, gd_obind, obind_obind, coerce_obind, coerceN_obind, obind_some]
      · cases hk
    | _ => simp only [skOf, hop] at hk; cases hk
  · refine ⟨minMax o ρ some, fun st => ?_⟩
    rw [minMax_obind]; rfl
  · refine ⟨minMax o ρ some, fun st => ?_⟩
    rw [minMax_obind]; rfl
  · rename_i h1 h2 h3 h4
    have hs : skOf cfg fid rid idx o ρ = .none := by
      unfold skAt at hk
      split at hk
      · rename_i c hop
        split at hk
        · rename_i g hc
          exfalso
          cases c with
          | mk callee args argTypes =>
            simp only at hc
            subst hc
            exact h2 _ _ _ hop
        · exact hk
      · exact hk
    rw [hs]
    refine ⟨pureOp P cfg fid rid idx o ρ some, fun st => ?_⟩
    rw [pureOp_obind]; rfl

/-- .. that leaves them alone. -/
theorem step_read (hk : skAt cfg fid rid idx o ρ = .read) (st : St) : ∃ y, stepV P cfg O fid rid idx o ρ st = obind y fun us => some (us, st) := by
  unfold stepV runOp
  split
  · refine ⟨none, ?_⟩
    split <;> rfl
  · rename_i f args argTypes hop
    exfalso
    simp only [skAt, hop] at hk
    cases f with
    | func g => simp only at hk; split at hk <;> cases hk
    | _ => simp only [skOf, hop] at hk; cases hk
  · refine ⟨minMax o ρ some, ?_⟩
    rw [minMax_obind]; rfl
  · refine ⟨minMax o ρ some, ?_⟩
    rw [minMax_obind]; rfl
  · rename_i h1 h2 h3 h4
    have hs : skOf cfg fid rid idx o ρ = .read := by
      unfold skAt at hk
      split at hk
      · rename_i c hop
        split at hk
        · rename_i g hc
          exfalso
          cases c with
          | mk callee args argTypes =>
            simp only at hc
            subst hc
            exact h2 _ _ _ hop
        · exact hk
      · exact hk
    rw [hs]
    refine ⟨readOp P cfg fid rid idx o ρ st some, ?_⟩
    rw [readOp_obind]; rfl
end
end Go.AM

/-! Regions that draw their order: whatever the order, the same comes of it. -/
namespace Go.AM
open Go Go.RowKit

section
variable {P : Program} {cfg : Cfg} {O : Oracle} {fid rid : Nat} {all : List Oper} {ρ ρ' ρ1 ρe : Env} {st st' st1 st2 ste : St} {us us1 us2 : List (Nat × V)} {R : Type} {r : R}

/-- Environments that say the same. -/
def EqE (ρ ρ' : Env) : Prop := ∀ t, ρ'.get t = ρ.get t
theorem EqE.refl (ρ : Env) : EqE ρ ρ := fun _ => rfl
theorem EqE.symm (h : EqE ρ ρ') : EqE ρ' ρ := fun t => (h t).symm
theorem EqE.trans (h : EqE ρ ρ') (k : EqE ρ' ρ1) : EqE ρ ρ1 := fun t => (k t).trans (h t)

theorem get_apply_notin : ∀ (us : List (Nat × V)) (ρ : Env) {t : Nat}, t ∉ us.map (·.1) → (ρ.apply us).get t = ρ.get t
  | [], ρ, t, _ => rfl
  | (k, v) :: us, ρ, t, h => by
    simp only [List.map_cons, List.mem_cons, not_or] at h
    simp only [Env.apply]
    rw [get_apply_notin us _ h.2, get_set, if_neg h.1]

theorem get_apply_in : ∀ (us : List (Nat × V)) (ρ ρ' : Env) {t : Nat}, t ∈ us.map (·.1) → (ρ.apply us).get t = (ρ'.apply us).get t
  | (k, v) :: us, ρ, ρ', t, h => by
    simp only [Env.apply]
    by_cases hm : t ∈ us.map (·.1)
    · exact get_apply_in us _ _ hm
    · have e : t = k := by simpa [hm] using h
      rw [get_apply_notin us _ hm, get_apply_notin us _ hm, get_set, get_set, if_pos e, if_pos e]

theorem EqE.apply (h : EqE ρ ρ') (us : List (Nat × V)) : EqE (ρ.apply us) (ρ'.apply us) := fun t => by
  by_cases hm : t ∈ us.map (·.1)
  · exact get_apply_in us _ _ hm
  · rw [get_apply_notin us _ hm, get_apply_notin us _ hm]; exact h t

/-- What a guard says. -/
inductive GKind (ρ : Env) (all : List Oper) (o : Oper) : List Nat → Bool → Prop where
  | plain (h : o.guard = none) : GKind ρ all o [] true
  | run (g : Nat) (want : Bool) (t : Nat) (h : o.guard = some (g, want)) (ht : (all[g]?).bind (·.dst) = some t) (hv : ρ.get t = .bool want) : GKind ρ all o [t] true
  | skip (g : Nat) (want : Bool) (t : Nat) (b : Bool) (h : o.guard = some (g, want)) (ht : (all[g]?).bind (·.dst) = some t) (hv : ρ.get t = .bool b) (hb : b ≠ want) : GKind ρ all o [t] false
  | none (g : Nat) (want : Bool) (t : Nat) (h : o.guard = some (g, want)) (ht : (all[g]?).bind (·.dst) = some t) (hv : ρ.get t = .tup []) : GKind ρ all o [t] false

theorem Kind.g {o : Oper} {g : List Nat} {b : Bool} (h : Kind ρ all o ρ1 g b) : GKind ρ all o g b := by
  cases h with
  | plain h => exact .plain h
  | run g want t h ht hv => exact .run g want t h ht hv
  | skip g want t b h ht hv hb => exact .skip g want t b h ht hv hb
  | none g want t h ht hv => exact .none g want t h ht hv

theorem GKind.congr {o : Oper} {g : List Nat} {b : Bool} (h : GKind ρ all o g b) (he : ∀ t ∈ g, ρ'.get t = ρ.get t) : GKind ρ' all o g b := by
  cases h with
  | plain h => exact .plain h
  | run g want t h ht hv => exact .run g want t h ht (by rw [he t (by simp), hv])
  | skip g want t b h ht hv hb => exact .skip g want t b h ht (by rw [he t (by simp), hv]) hb
  | none g want t h ht hv => exact .none g want t h ht (by rw [he t (by simp), hv])

/-- One operation, at whatever time. -/
def StpD (P : Program) (cfg : Cfg) (O : Oracle) (fid rid : Nat) (all : List Oper) (i : Nat) (ρ : Env) (st : St) (us : List (Nat × V)) (st2 : St) (ft : Foot) : Prop :=
  ∃ o g b, all[i]? = some o ∧ GKind ρ all o g b ∧ freshDst ρ o.dst = true ∧
    ((b = true ∧ stepV P cfg O fid rid i o ρ st = some (us, st2) ∧ ft = footOf cfg fid rid i o g ρ (us.map (·.1))) ∨
     (b = false ∧ us = dstU o.dst (.tup []) ∧ st2 = st ∧ ft = { idx := i, reads := g, writes := o.dst.toList, sk := .none }))

theorem StpD.idx {i : Nat} {ft : Foot} (h : StpD P cfg O fid rid all i ρ st us st2 ft) : ft.idx = i := by
  obtain ⟨o, g, b, _, _, _, ⟨_, _, rfl⟩ | ⟨_, _, _, rfl⟩⟩ := h <;> rfl

theorem StpD.writes {i : Nat} {ft : Foot} (h : StpD P cfg O fid rid all i ρ st us st2 ft) : ∀ t ∈ us.map (·.1), t ∈ ft.writes := by
  obtain ⟨o, g, b, _, _, _, ⟨_, _, rfl⟩ | ⟨_, rfl, _, rfl⟩⟩ := h
  · intro t ht; simp only [footOf, List.mem_append]; exact .inr ht
  · intro t ht
    cases hd : o.dst with
    | none => rw [hd] at ht; simp [dstU] at ht
    | some d => rw [hd] at ht; simpa [dstU] using ht

theorem sameOn_of {xs : List Operand} (h : ∀ t ∈ tmpsOf xs, ρ'.get t = ρ.get t) (hb : ∀ t ∈ bases ρ xs, ρ'.get t = ρ.get t) : SameOn ρ ρ' xs := by
  intro x hx
  refine ⟨?_, fun b off he => hb b ?_⟩
  · cases x with
    | tmp t => exact h t (List.mem_filterMap.2 ⟨_, hx, rfl⟩)
    | _ => rfl
  · exact List.mem_filterMap.2 ⟨x, hx, by rw [he]⟩

theorem bases_same {xs : List Operand} (h : SameOn ρ ρ' xs) : bases ρ' xs = bases ρ xs := by
  unfold bases
  induction xs with
  | nil => rfl
  | cons x xs ih =>
    simp only [List.filterMap_cons]
    rw [(h x (by simp)).1, ih fun y hy => h y (by simp [hy])]

theorem foot_same {i : Nat} {o : Oper} {g ws : List Nat} (h : SameOn ρ ρ' o.op.operands.toList) : footOf cfg fid rid i o g ρ' ws = footOf cfg fid rid i o g ρ ws := by
  unfold footOf
  rw [bases_same h, skAt_same h]

theorem fresh_same {o : Oper} (h : ∀ d, o.dst = some d → ρ'.get d = ρ.get d) : freshDst ρ' o.dst = freshDst ρ o.dst := by
  unfold freshDst
  cases hd : o.dst with
  | none => rfl
  | some d => simp only; rw [h d hd]

/-- An operation looks at what it reads. -/
theorem StpD.frame {i : Nat} {ft : Foot} (h : StpD P cfg O fid rid all i ρ st us st2 ft) (he : ∀ t, t ∈ ft.reads ∨ t ∈ ft.writes → ρ'.get t = ρ.get t) :
    StpD P cfg O fid rid all i ρ' st us st2 ft := by
  obtain ⟨o, g, b, ho, hg, hf, ⟨hb, hs, rfl⟩ | ⟨hb, hu, hst, rfl⟩⟩ := h
  · have hsame : SameOn ρ ρ' o.op.operands.toList := sameOn_of (fun t ht => he t (.inl (by simp [footOf, ht]))) fun t ht => he t (.inl (by simp [footOf, ht]))
    refine ⟨o, g, b, ho, hg.congr fun t ht => he t (.inl (by simp [footOf, ht])), ?_, .inl ⟨hb, by rw [stepV_same hsame]; exact hs, (foot_same hsame).symm⟩⟩
    rw [fresh_same fun d hd => he d (.inr (by simp [footOf, hd]))]; exact hf
  · refine ⟨o, g, b, ho, hg.congr fun t ht => he t (.inl ht), ?_, .inr ⟨hb, hu, hst, rfl⟩⟩
    rw [fresh_same fun d hd => he d (.inr (by simp [hd]))]; exact hf

theorem StpD.congr {i : Nat} {ft : Foot} (h : StpD P cfg O fid rid all i ρ st us st2 ft) (he : EqE ρ ρ') : StpD P cfg O fid rid all i ρ' st us st2 ft := h.frame fun t _ => he t

/-- .. which does not look at the resources. -/
theorem StpD.pure {i : Nat} {ft : Foot} (h : StpD P cfg O fid rid all i ρ st us st2 ft) (hk : ft.sk = .none) : st2 = st ∧ ∀ st', StpD P cfg O fid rid all i ρ st' us st' ft := by
  obtain ⟨o, g, b, ho, hg, hf, ⟨hb, hs, rfl⟩ | ⟨hb, hu, hst, rfl⟩⟩ := h
  · obtain ⟨y, hy⟩ := step_none (P := P) (O := O) (show skAt cfg fid rid i o ρ = .none from hk)
    rw [hy] at hs
    obtain ⟨us', rfl, hs⟩ := obind_spec hs
    cases hs
    exact ⟨rfl, fun st' => ⟨o, g, b, ho, hg, hf, .inl ⟨hb, by rw [hy]; rfl, rfl⟩⟩⟩
  · exact ⟨hst, fun st' => ⟨o, g, b, ho, hg, hf, .inr ⟨hb, hu, rfl, rfl⟩⟩⟩

theorem StpD.reads {i : Nat} {ft : Foot} (h : StpD P cfg O fid rid all i ρ st us st2 ft) (hk : ft.sk ≠ .write) : st2 = st := by
  cases hs : ft.sk with
  | none => exact (h.pure hs).1
  | write => exact absurd hs hk
  | read =>
    obtain ⟨o, g, b, ho, hg, hf, ⟨hb, hst, rfl⟩ | ⟨hb, hu, hst, rfl⟩⟩ := h
    · obtain ⟨y, hy⟩ := step_read (P := P) (O := O) (show skAt cfg fid rid i o ρ = .read from hs) st
      rw [hy] at hst
      obtain ⟨us', rfl, hst⟩ := obind_spec hst
      cases hst; rfl
    · exact hst

theorem disj_spec {a b : List Nat} (h : disj a b = true) : ∀ t ∈ a, t ∉ b := by
  intro t ht
  have := List.all_eq_true.1 h t ht
  simpa using this

/-- Operations that commute. -/
theorem swapD {i j : Nat} {fi fj : Foot} (h1 : StpD P cfg O fid rid all i ρ st us1 st1 fi) (h2 : StpD P cfg O fid rid all j (ρ.apply us1) st1 us2 st2 fj) (hc : commute fi fj = true) :
    ∃ stm, StpD P cfg O fid rid all j ρ st us2 stm fj ∧ StpD P cfg O fid rid all i (ρ.apply us2) stm us1 st2 fi ∧ EqE ((ρ.apply us1).apply us2) ((ρ.apply us2).apply us1) := by
  simp only [commute, Bool.and_eq_true] at hc
  obtain ⟨⟨d1, d2⟩, d3⟩ := hc
  have d1 := disj_spec d1
  have d2 := disj_spec d2
  have hj : ∀ t, t ∈ fj.reads ∨ t ∈ fj.writes → ρ.get t = (ρ.apply us1).get t := fun t ht =>
    (get_apply_notin us1 ρ fun hm => d1 t (h1.writes t hm) (by rcases ht with h | h <;> simp [h])).symm
  have hi : ∀ t, t ∈ fi.reads ∨ t ∈ fi.writes → (ρ.apply us2).get t = ρ.get t := fun t ht =>
    get_apply_notin us2 ρ fun hm => by
      have hw := h2.writes t hm
      rcases ht with h | h
      · exact d2 t hw h
      · exact d1 t h (by simp [hw])
  have hE : EqE ((ρ.apply us1).apply us2) ((ρ.apply us2).apply us1) := fun t => by
    by_cases m1 : t ∈ us1.map (·.1)
    · have m2 : t ∉ us2.map (·.1) := fun hm => d1 t (h1.writes t m1) (by simp [h2.writes t hm])
      rw [get_apply_notin us2 _ m2]
      exact get_apply_in us1 _ _ m1
    · rw [get_apply_notin us1 _ m1]
      by_cases m2 : t ∈ us2.map (·.1)
      · exact get_apply_in us2 _ _ m2
      · rw [get_apply_notin us2 _ m2, get_apply_notin us2 _ m2, get_apply_notin us1 _ m1]
  have h2' := h2.frame hj
  cases hki : fi.sk with
  | none =>
    obtain ⟨rfl, ha⟩ := h1.pure hki
    exact ⟨st2, h2', (ha st2).frame hi, hE⟩
  | read =>
    rw [hki] at d3
    have e1 := h1.reads (by rw [hki]; simp)
    subst e1
    have e2 : st2 = st1 := by
      cases hkj : fj.sk with
      | none => exact (h2.pure hkj).1
      | read => exact h2.reads (by rw [hkj]; simp)
      | write => rw [hkj] at d3; cases d3
    subst e2
    exact ⟨_, h2', h1.frame hi, hE⟩
  | write =>
    rw [hki] at d3
    have hkj : fj.sk = .none := by
      cases hkj : fj.sk with
      | none => rfl
      | read => rw [hkj] at d3; cases d3
      | write => rw [hkj] at d3; cases d3
    obtain ⟨rfl, ha⟩ := h2'.pure hkj
    exact ⟨st, ha st, h1.frame hi, hE⟩

/-- A run in some order. -/
inductive SeqD (P : Program) (cfg : Cfg) (O : Oracle) (fid rid : Nat) (all : List Oper) : List Nat → Env → St → List Foot → Env → St → Prop where
  | nil {ρ ρe : Env} (st : St) (h : EqE ρ ρe) : SeqD P cfg O fid rid all [] ρ st [] ρe st
  | cons {i : Nat} {is : List Nat} {ρ ρe : Env} {st st2 ste : St} {us : List (Nat × V)} {ft : Foot} {fts : List Foot} (h : StpD P cfg O fid rid all i ρ st us st2 ft) (t : SeqD P cfg O fid rid all is (ρ.apply us) st2 fts ρe ste) :
      SeqD P cfg O fid rid all (i :: is) ρ st (ft :: fts) ρe ste

theorem SeqD.congr {is : List Nat} {fts : List Foot} (h : SeqD P cfg O fid rid all is ρ st fts ρe ste) : ∀ {ρ' : Env}, EqE ρ ρ' → SeqD P cfg O fid rid all is ρ' st fts ρe ste := by
  induction h with
  | nil st h => exact fun he => .nil st (he.symm.trans h)
  | cons h t ih => exact fun he => .cons (h.congr he) (ih (he.apply _))

/-- An operation goes first. -/
theorem SeqD.front {j : Nat} {post : List Nat} : ∀ {pre : List Nat} {ρ : Env} {st : St} {fts : List Foot}, SeqD P cfg O fid rid all (pre ++ j :: post) ρ st fts ρe ste →
    (∀ fp fj fq, fts = fp ++ fj :: fq → fp.length = pre.length → ∀ f ∈ fp, commute f fj = true) →
    ∃ fp fj fq, fts = fp ++ fj :: fq ∧ fp.length = pre.length ∧ SeqD P cfg O fid rid all (j :: (pre ++ post)) ρ st (fj :: (fp ++ fq)) ρe ste
  | [], ρ, st, _, h, _ => by
    cases h with
    | cons h t => exact ⟨[], _, _, rfl, rfl, .cons h t⟩
  | k :: pre, ρ, st, _, h, hc => by
    cases h with
    | cons h t =>
      rename_i st1 us1 f1 fts
      obtain ⟨fp, fj, fq, rfl, hl, hs⟩ := SeqD.front t fun fp fj fq e hl f hf => hc (f1 :: fp) fj fq (by rw [e]; rfl) (by simp [hl]) f (by simp [hf])
      have hcom := hc (f1 :: fp) fj fq rfl (by simp [hl]) f1 (by simp)
      cases hs with
      | cons h2 t2 =>
        obtain ⟨stm, k1, k2, k3⟩ := swapD h h2 hcom
        exact ⟨f1 :: fp, fj, fq, rfl, by simp [hl], .cons k1 (.cons k2 (t2.congr k3))⟩

/-- Of a region in the text's order. -/
theorem seq_of_exec {K : Ex → Env → St → Option R} : ∀ (rest : List Oper) (i : Nat) (ρ : Env) (st : St) (fs : List Foot), all.drop i = rest → execOps P cfg O fid rid all true rest i ρ st fs K = some r →
    ∃ fts ρe ste, SeqD P cfg O fid rid all (List.range' i rest.length) ρ st fts ρe ste ∧ edgesOk 0 all = true ∧ okDraw (preds all) (fts.reverse ++ fs) = true ∧ K .normal (tidy all ρe) ste = some r
  | [], i, ρ, st, fs, _, h => by
    simp only [execOps] at h
    have h : gd (edgesOk 0 all && okDraw (preds all) fs) (K .normal (tidy all ρ) st) = some r := h
    obtain ⟨hg, h⟩ := gd_spec h
    simp only [Bool.and_eq_true] at hg
    exact ⟨[], ρ, st, .nil st (.refl _), hg.1, hg.2, h⟩
  | o :: rest, i, ρ, st, fs, hd, h => by
    have hget : all[i]? = some o := by
      have := congrArg (·[0]?) hd
      simpa using this
    have hd' : all.drop (i + 1) = rest := by
      have := congrArg (List.drop 1) hd
      simpa [List.drop_drop, Nat.add_comm] using this
    obtain ⟨ρ1, g, b, hkind, hok, hrun, hskip⟩ := execOps_cons (fun _ _ _ => rfl) h
    have hE : EqE ρ1 ρ := fun t => (hkind.same t).symm
    simp only [cond_true] at hok
    have hfr : freshDst ρ o.dst = true := by rw [fresh_same fun d _ => hE d]; exact hok
    simp only [List.length_cons, List.range'_succ]
    cases b with
    | true =>
      have hr := hrun rfl
      have hr : runOp P cfg O fid rid i o ρ1 st (fun us st' => execOps P cfg O fid rid all true rest (i + 1) (ρ1.apply us) st' (footOf cfg fid rid i o g ρ1 (us.map (·.1)) :: fs) K) (fun _ _ => none) = some r := hr
      rw [runOp_step] at hr
      obtain ⟨⟨us, st'⟩, hs, hr⟩ := obind_spec hr
      obtain ⟨fts, ρe, ste, k1, k2, k3, k4⟩ := seq_of_exec rest (i + 1) _ _ _ hd' hr
      have hsame : SameOn ρ1 ρ o.op.operands.toList := sameOn_of (fun t _ => hE t) fun t _ => hE t
      refine ⟨_, ρe, ste, .cons ⟨o, g, true, hget, hkind.g, hfr, .inl ⟨rfl, by rw [stepV_same hsame]; exact hs, (foot_same hsame).symm⟩⟩ (k1.congr (hE.apply us)), k2, by simpa using k3, k4⟩
    | false =>
      have hr := hskip rfl
      simp only [cond_true] at hr
      obtain ⟨fts, ρe, ste, k1, k2, k3, k4⟩ := seq_of_exec rest (i + 1) _ _ _ hd' hr
      have hE2 : EqE (ρ1.put o.dst (.tup [])) (ρ.apply (dstU o.dst (.tup []))) := by
        cases hdd : o.dst with
        | none => exact hE
        | some d => exact hE.apply [(d, .tup [])]
      refine ⟨_, ρe, ste, .cons ⟨o, g, false, hget, hkind.g, hfr, .inr ⟨rfl, rfl, rfl, rfl⟩⟩ (k1.congr hE2), k2, by simpa using k3, k4⟩
end
end Go.AM

/-! .. and so the model's. -/
namespace Go.AM
open Go Go.RowKit

section
variable {P : Program} {cfg : Cfg} {O : Oracle} {fid rid : Nat} {all : List Oper} {ρ ρ' ρ1 ρe : Env} {st st' st1 st2 ste : St} {us us1 us2 : List (Nat × V)} {R : Type} {r : R}
variable {base n : Nat} {w w' w0 : World} {own own' own0 : Own} {μ μ' μ0 : List Nat} {a : Act}

/-! ### what must come ahead -/
def predsF (acc : List Nat) (o : Oper) : Nat := o.after.toList.foldl (fun s e => if Region.binds .any e then s ||| (2 ^ e.on ||| acc.getD e.on 0) else s) 0

theorem preds_eq (l : List Oper) : preds l = l.foldl (fun acc o => acc ++ [predsF acc o]) [] := rfl

theorem preds_snoc (l : List Oper) (o : Oper) : preds (l ++ [o]) = preds l ++ [predsF (preds l) o] := by
  simp only [preds_eq, List.foldl_append, List.foldl_cons, List.foldl_nil]

theorem foldl_len (l : List Oper) : ∀ acc : List Nat, (l.foldl (fun acc o => acc ++ [predsF acc o]) acc).length = acc.length + l.length := by
  induction l with
  | nil => intro acc; rfl
  | cons o l ih => intro acc; simp only [List.foldl_cons, ih]; simp; omega

theorem foldl_prefix (l : List Oper) : ∀ acc : List Nat, ∃ x, l.foldl (fun acc o => acc ++ [predsF acc o]) acc = acc ++ x := by
  induction l with
  | nil => intro acc; exact ⟨[], by simp⟩
  | cons o l ih =>
    intro acc
    obtain ⟨x, hx⟩ := ih (acc ++ [predsF acc o])
    exact ⟨[predsF acc o] ++ x, by simp only [List.foldl_cons, hx, List.append_assoc]⟩

theorem preds_get {i : Nat} {o : Oper} (h : all[i]? = some o) : (preds all).getD i 0 = predsF (preds (all.take i)) o ∧ ∀ k, k < i → (preds (all.take i)).getD k 0 = (preds all).getD k 0 := by
  have hi : i < all.length := (List.getElem?_eq_some_iff.1 h).1
  have hsplit : all = all.take i ++ o :: all.drop (i + 1) := by
    have h2 : all[i] = o := (List.getElem?_eq_some_iff.1 h).2
    rw [← h2, ← List.drop_eq_getElem_cons hi, List.take_append_drop]
  have hlen : (preds (all.take i)).length = i := by
    rw [preds_eq, foldl_len]; simp; omega
  have : ∃ x, preds all = preds (all.take i) ++ [predsF (preds (all.take i)) o] ++ x := by
    obtain ⟨x, hx⟩ := foldl_prefix (all.drop (i + 1)) (preds (all.take i) ++ [predsF (preds (all.take i)) o])
    refine ⟨x, ?_⟩
    rw [← hx]
    conv => lhs; rw [hsplit]
    simp only [preds_eq, List.foldl_append, List.foldl_cons]
  obtain ⟨x, hx⟩ := this
  refine ⟨?_, fun k hk => ?_⟩
  · rw [hx, List.getD_eq_getElem?_getD, List.getElem?_append_left (by simp [hlen]), List.getElem?_append_right (by simp [hlen])]
    simp [hlen]
  · rw [hx, List.getD_eq_getElem?_getD, List.getD_eq_getElem?_getD, List.getElem?_append_left (by simp [hlen]; omega), List.getElem?_append_left (by rw [hlen]; exact hk)]

theorem foldl_mem {G : Edge → Nat} {k : Nat} : ∀ (l : List Edge) (s : Nat), Nat.testBit (l.foldl (fun s e => if Region.binds .any e then s ||| (2 ^ e.on ||| G e) else s) s) k = true → s.testBit k = true ∨ ∃ e ∈ l, Region.binds .any e = true ∧ (k = e.on ∨ (G e).testBit k = true)
  | [], s, h => .inl h
  | e :: l, s, h => by
    simp only [List.foldl_cons] at h
    rcases foldl_mem l _ h with h | ⟨e', he, hb, hk⟩
    · split at h
      · rename_i hb
        rw [Nat.testBit_or, Nat.testBit_or, Bool.or_eq_true, Bool.or_eq_true] at h
        rcases h with h | h | h
        · exact .inl h
        · rw [Nat.testBit_two_pow, decide_eq_true_eq] at h
          exact .inr ⟨e, by simp, hb, .inl h.symm⟩
        · exact .inr ⟨e, by simp, hb, .inr h⟩
      · exact .inl h
    · exact .inr ⟨e', by simp [he], hb, hk⟩

theorem edgesOk_spec : ∀ (l : List Oper) (i : Nat), edgesOk i l = true → ∀ (k : Nat) (o : Oper), l[k]? = some o → ∀ e ∈ o.after.toList, Region.binds .any e = true → e.on < i + k
  | [], i, _, k, o, h => by simp at h
  | x :: l, i, he, k, o, h => by
    simp only [edgesOk, Bool.and_eq_true, List.all_eq_true] at he
    cases k with
    | zero =>
      simp only [List.getElem?_cons_zero, Option.some.injEq] at h
      subst h
      intro e hm hb
      have := he.1 e hm
      simp only [hb, Bool.not_true, Bool.false_or] at this
      exact Nat.le_of_ble_eq_true this
    | succ k =>
      simp only [List.getElem?_cons_succ] at h
      intro e hm hb
      have := edgesOk_spec l (i + 1) he.2 k o h e hm hb
      omega

theorem mem_preds (he : edgesOk 0 all = true) {i : Nat} {o : Oper} (h : all[i]? = some o) {k : Nat} (hk : ((preds all).getD i 0).testBit k = true) :
    ∃ e ∈ o.after.toList, Region.binds .any e = true ∧ (k = e.on ∨ ((preds all).getD e.on 0).testBit k = true) := by
  obtain ⟨h1, h2⟩ := preds_get h
  rw [h1] at hk
  rcases foldl_mem _ _ hk with hk | ⟨e, hm, hb, hk⟩
  · simp at hk
  · refine ⟨e, hm, hb, hk.imp_right fun hk => ?_⟩
    have := edgesOk_spec _ _ he i o h e hm hb
    rwa [h2 _ (by omega)] at hk

theorem okDraw_pairs {pr : List Nat} : ∀ {fs : List Foot}, okDraw pr fs = true → fs.Pairwise (fun f g => okPair pr g f = true)
  | [], _ => .nil
  | f :: fs, h => by
    simp only [okDraw, Bool.and_eq_true, List.all_eq_true] at h
    exact .cons (fun g hg => h.1 g hg) (okDraw_pairs h.2)

theorem SeqD.idx {is : List Nat} {fts : List Foot} (h : SeqD P cfg O fid rid all is ρ st fts ρe ste) : fts.map (·.idx) = is := by
  induction h with
  | nil => rfl
  | cons h t ih => simp only [List.map_cons, ih, h.idx]

theorem GKind.wanted {ops : Array Oper} {o : Oper} {g : List Nat} {b : Bool} (hk : GKind ρ ops.toList o g b) (h : Rel P cfg base n w own μ ρ st a) : Region.wanted o (yielded ops a.tmps) = b := by
  cases hk with
  | plain hg => simp [Region.wanted, hg]
  | run g want t hg ht hv => rw [(wanted_spec h hg ht).1 _ hv]; simp
  | skip g want t b hg ht hv hb => rw [(wanted_spec h hg ht).1 _ hv]; simpa using hb
  | none g want t hg ht hv => exact (wanted_spec h hg ht).2 hv

theorem okDst_of_fresh {d : Option Nat} (h : freshDst ρ d = true) : okDst all ρ d = true := by
  unfold freshDst at h
  unfold okDst
  cases d with
  | none => rfl
  | some d =>
    simp only at h ⊢
    split at h
    · cases h
    · cases h
    · rfl

theorem getD_false_of {listed : Array Bool} {k : Nat} (hk : k < listed.size) (h : listed.getD k true ≠ false) : listed.getD k false = true := by
  rw [Array.getD_eq_getD_getElem?, Array.getElem?_eq_getElem hk] at h ⊢
  simpa using h

theorem getD_true_of {listed : Array Bool} {k : Nat} (h : listed.getD k false = true) : listed.getD k true = true := by
  rw [Array.getD_eq_getD_getElem?] at h ⊢
  cases hx : listed[k]? with
  | none => rfl
  | some b => rw [hx] at h; simpa using h

theorem getD_set (listed : Array Bool) (j k : Nat) (d : Bool) (hj : j < listed.size) : (listed.setIfInBounds j true).getD k d = if k = j then true else listed.getD k d := by
  simp only [Array.getD_eq_getD_getElem?]
  by_cases e : k = j
  · subst e; simp [hj]
  · rw [if_neg e, Array.getElem?_setIfInBounds_ne (Ne.symm e)]

theorem walkD (hP : PlainNames P) (hC : CallOK P cfg O.call) (hRd : RoundOK P cfg O.round) {ops : Array Oper} (hdst : ∀ o ∈ ops.toList, ∀ d, o.dst = some d → d < n) (he : edgesOk 0 ops.toList = true) {Q : Exit → Act → World → Prop} {m : Nat} {ro : Option Nat}
    (hQ : ∀ ρ' a' w' own' μ', EqE ρ' ρe → Rel P cfg base n w' own' μ' ρ' ste a' → LP ops.toList ρ' → Keeps base w0 own0 μ0 w' own' μ' → Q .normal a' w') :
    ∀ (fuel : Nat) (is : List Nat) (listed : Array Bool) (ρ : Env) (st : St) (fts : List Foot) (a : Act) (w : World) (own : Own) (μ : List Nat), is.length = fuel → listed.size = ops.size → (∀ i, i < ops.size → (listed.getD i true = false ↔ i ∈ is)) → (∀ i ∈ is, i < ops.size) → is.Pairwise (· < ·) →
      SeqD P cfg O fid rid ops.toList is ρ st fts ρe ste → fts.Pairwise (fun a b => okPair (preds ops.toList) a b = true) → (∀ i, listed.getD i false = true → ∀ k, ((preds ops.toList).getD i 0).testBit k = true → listed.getD k false = true) →
      Rel P cfg base n w own μ ρ st a → LP ops.toList ρ → Keeps base w0 own0 μ0 w own μ → wpAnyIn (wide ro) m P .any ops Q fuel listed a w
  | 0, is, listed, ρ, st, fts, a, w, own, μ, hl, hsz, hls, hlt, _, hseq, _, _, hR, hlp, hk => by
    have : is = [] := List.eq_nil_of_length_eq_zero hl
    subst this
    cases hseq with
    | nil _ hE =>
      refine ⟨?_, hQ _ _ _ _ _ hE hR hlp hk⟩
      refine List.eq_nil_iff_forall_not_mem.2 fun j hj => ?_
      obtain ⟨h0, o, ho, _⟩ := mem_ready.1 hj
      have hj' : j < ops.size := (Array.getElem?_eq_some_iff.1 ho).1
      have := (hls j hj').1 h0
      cases this
  | fuel + 1, is, listed, ρ, st, fts, a, w, own, μ, hl, hsz, hls, hlt, hsort, hseq, hpair, hclo, hR, hlp, hk => by
    refine ⟨fun hnil => ?_, fun j hj => ?_⟩
    · exfalso
      cases is with
      | nil => simp at hl
      | cons i0 rest =>
        have hi0 := hlt i0 (by simp)
        have ho : ops[i0]? = some ops[i0] := by simp [hi0]
        have : i0 ∈ Region.ready .any ops listed := by
          refine mem_ready.2 ⟨(hls i0 hi0).2 (by simp), ops[i0], ho, fun e hm hb => ?_⟩
          have hon := edgesOk_spec _ _ he i0 ops[i0] (by rw [Array.getElem?_toList]; exact ho) e (by simpa using hm) hb
          have hon : e.on < i0 := by omega
          refine getD_false_of (by omega) fun hf => ?_
          have := (hls e.on (by omega)).1 hf
          rcases List.mem_cons.1 this with h | h
          · omega
          · have := (List.pairwise_cons.1 hsort).1 _ h
            omega
        rw [hnil] at this; cases this
    · obtain ⟨h0, o, ho, hall⟩ := mem_ready.1 hj
      have hjs : j < ops.size := (Array.getElem?_eq_some_iff.1 ho).1
      have hol : ops.toList[j]? = some o := by rw [Array.getElem?_toList]; exact ho
      have hmem : o ∈ ops.toList := List.mem_of_getElem? hol
      obtain ⟨pre, post, rfl⟩ := List.append_of_mem ((hls j hjs).1 h0)
      have hidx := hseq.idx
      have hnot : ∀ k ∈ pre, ¬ ((preds ops.toList).getD j 0).testBit k = true := fun k hk hm => by
        have hun := (hls k (hlt k (by simp [hk]))).2 (by simp [hk])
        have hlisted : listed.getD k false = true := by
          obtain ⟨e, hme, hb, hke⟩ := mem_preds he hol hm
          have hel := hall e (by simpa using hme) hb
          rcases hke with rfl | hke
          · exact hel
          · exact hclo _ hel _ hke
        rw [getD_true_of hlisted] at hun; cases hun
      obtain ⟨fp, fj, fq, rfl, hfl, hs⟩ := SeqD.front hseq fun fp fj fq e hfl f hf => by
        subst e
        have hp := (List.pairwise_append.1 hpair).2.2 f hf fj (by simp)
        have h1 : fp.map (·.idx) = pre ∧ fj.idx = j := by
          rw [List.map_append, List.map_cons] at hidx
          obtain ⟨e1, e2⟩ := List.append_inj hidx (by simp [hfl])
          exact ⟨e1, (List.cons.inj e2).1⟩
        simp only [okPair, Bool.or_eq_true] at hp
        refine hp.resolve_left fun hc => ?_
        rw [h1.2] at hc
        exact hnot f.idx (by rw [← h1.1]; exact List.mem_map.2 ⟨f, hf, rfl⟩) (by simpa using hc)
      cases hs with
      | cons hstp hrest =>
        rename_i st2 us
        obtain ⟨o', g, b, ho', hg, hf, hcase⟩ := hstp
        rw [hol] at ho'
        cases ho'
        have hnodup : j ∉ pre ++ post := fun hm => by
          have h2 := List.pairwise_append.1 hsort
          rcases List.mem_append.1 hm with h | h
          · exact absurd (h2.2.2 j h j (by simp)) (Nat.lt_irrefl _)
          · exact absurd ((List.pairwise_cons.1 h2.2.1).1 j h) (Nat.lt_irrefl _)
        have next : ∀ a' w' own' μ', Rel P cfg base n w' own' μ' (ρ.apply us) st2 a' → LP ops.toList (ρ.apply us) → Keeps base w own μ w' own' μ' → wpAnyIn (wide ro) m P .any ops Q fuel (listed.setIfInBounds j true) a' w' := fun a' w' own' μ' k1 k2 k3 => by
          refine walkD hP hC hRd hdst he hQ fuel (pre ++ post) _ _ _ _ a' w' own' μ' (by simp at hl ⊢; omega) (by simpa using hsz) (fun i hi => ?_) (fun i hi => hlt i (by simp at hi ⊢; rcases hi with h | h <;> simp [h])) ?_ hrest ?_ (fun i hi k hk => ?_) k1 k2 (hk.trans k3)
          · rw [getD_set _ _ _ _ (by omega)]
            split
            · rename_i e; subst e; simp only [Bool.true_eq_false, false_iff]; exact hnodup
            · rename_i e
              rw [hls i hi]
              simp [e]
          · exact hsort.sublist (List.Sublist.append (List.Sublist.refl _) (List.sublist_cons_self ..))
          · exact hpair.sublist (List.Sublist.append (List.Sublist.refl _) (List.sublist_cons_self ..))
          · rw [getD_set _ _ _ _ (by omega)] at hi ⊢
            split
            · rfl
            · split at hi
              · rename_i e; subst e
                obtain ⟨e, hme, hb, hke⟩ := mem_preds he hol hk
                have hel := hall e (by simpa using hme) hb
                rcases hke with rfl | hke
                · exact hel
                · exact hclo _ hel _ hke
              · exact hclo _ hi _ hk
        have hpre : Pre P cfg base n ops.toList w own μ ρ st a o := ⟨hR, hlp, hmem, hdst o hmem, okDst_of_fresh hf⟩
        have hw := hg.wanted hR
        unfold wpOpIn
        simp only [ho, hw]
        rcases hcase with ⟨rfl, hst, _⟩ | ⟨rfl, rfl, rfl, _⟩
        · rw [if_pos rfl]
          refine runOp_wp (r := (us, st2)) hP hC hRd hpre (fun us' st' a' w' own' μ' e h2 h3 h4 => ?_) (fun v c st' ρ' w' own' μ' e => by cases e) hst
          cases e
          exact next a' w' own' μ' h2 h4 h3
        · rw [if_neg (by simp)]
          refine ⟨fun f _ => trivial, ?_⟩
          cases hod : o.dst with
          | none => rw [hod] at next; exact next a w own μ hR hlp Keeps.refl
          | some d =>
            rw [hod] at next
            have hT : VRep w (prOf own) μ (.tup []) undef := .tup [] #[] rfl fun i hi => by simp at hi
            exact next _ w own μ (hR.put d (hpre.dst d hod) (hpre.noPtr hod) hT) (hlp.set hmem hod _) Keeps.refl

theorem region_draw_wp (hm : P.follows .mixedOrders = true) (hP : PlainNames P) (hC : CallOK P cfg O.call) (hRd : RoundOK P cfg O.round) {ops : Array Oper} (hdst : ∀ o ∈ ops.toList, ∀ d, o.dst = some d → d < n) {K : Ex → Env → St → Option R} {Q : Exit → Act → World → Prop} {m : Nat} {ro : Option Nat}
    (hQ : ∀ ρ' st' a' w' own' μ', K .normal ρ' st' = some r → Rel P cfg base n w' own' μ' ρ' st' a' → NoL ρ' → Keeps base w own μ w' own' μ' → Q .normal a' w')
    (hR : Rel P cfg base n w own μ ρ st a) (hN : NoL ρ) (h : execOps P cfg O fid rid ops.toList true ops.toList 0 ρ st [] K = some r) : (Code.region rid ops true).wpIn (wide ro) m P Q a w := by
  obtain ⟨fts, ρe, ste, h1, h2, h3, h4⟩ := seq_of_exec _ 0 _ _ _ rfl h
  refine wpIn_region_any hm ?_
  have hs := Step.drawn hR.sto (w.drawn + 1)
  have hR' := hR.same hs
  refine walkD (w0 := w) (own0 := own) (μ0 := μ) hP hC hRd hdst h2 (fun ρ' a' w' own' μ' hE k1 k2 k3 => ?_) ops.size (List.range' 0 ops.toList.length) _ ρ st fts a _ own μ (by simp) (by simp) (fun i hi => ?_) (fun i hi => ?_) ?_ h1 ?_ (fun i hi => ?_) hR' (fun t x off e => absurd e (hN t x off)) (hs.keeps fun h => h)
  · obtain ⟨g1, g2⟩ := tidy_rel ops.toList ρe (k1.congr hE) (k2.congr hE)
    exact hQ _ _ _ _ _ _ h4 g1 g2 k3
  · simp [hi]
  · simpa using hi
  · exact List.pairwise_lt_range'
  · have := okDraw_pairs h3
    rw [List.append_nil, List.pairwise_reverse] at this
    exact this
  · exfalso
    rw [Array.getD_eq_getD_getElem?] at hi
    by_cases hlt : i < ops.size <;> simp [hlt] at hi
end
end Go.AM

/-! The control of a function: what the abstract machine tells, the model does. -/
namespace Go.AM
open Go Go.RowKit

section
variable {P : Program} {cfg : Cfg} {ext : Ext} {base : Nat} {own own' : Own} {μ μ' : List Nat} {R : Type} {r : R}

/-- The words of an oracle, up to so much fuel. -/
def FuelOK (P : Program) (cfg : Cfg) (ext : Ext) (m0 : Nat) : Prop := ∀ k, k ≤ m0 → CallOK P cfg (fuelO P cfg ext k).call ∧ RoundOK P cfg (fuelO P cfg ext k).round

theorem okTmps_dst {n id : Nat} {ops : Array Oper} {draw : Bool} (h : okTmps n (.region id ops draw) = true) : ∀ o ∈ ops.toList, ∀ d, o.dst = some d → d < n := by
  intro o ho d hd
  simp only [okTmps, List.all_eq_true] at h
  have := h o ho
  rw [hd] at this
  simpa using this

theorem seq_fin {n : Nat} {w w' : World} {a' : Act} {K : Ex → Env → St → Option R} {y : Code} {O : Oracle} {f : Nat} {Q : Act → World → Prop} {e : Exit}
    (h : Fin P cfg base n w own μ r (fun e ρ st => match e with | .normal => exec P cfg O f y ρ st K | e => K e ρ st) e a' w')
    (hn : ∀ ρ st own' μ', exec P cfg O f y ρ st K = some r → Rel P cfg base n w' own' μ' ρ st a' → NoL ρ → Keeps base w own μ w' own' μ' → Q a' w') : Exit.then Q (Fin P cfg base n w own μ r K) e a' w' := by
  cases e with
  | normal =>
    obtain ⟨ρ', st', own', μ', h1, h2, h3, h4⟩ := h
    exact hn ρ' st' own' μ' h1 h2 h3 h4
  | outgrown => exact h.elim
  | _ => exact h

theorem block_fin {n : Nat} {w w' : World} {a' : Act} {K : Ex → Env → St → Option R} {id : Nat} {e : Exit}
    (h : Fin P cfg base n w own μ r (fun e ρ st => match e with | .exit i => bc (Nat.beq i id) (K .normal ρ st) (K (.exit i) ρ st) | e => K e ρ st) e a' w') : Exit.inBlock id (Fin P cfg base n w own μ r K) e a' w' := by
  cases e with
  | exit i =>
    obtain ⟨ρ', st', own', μ', h1, h2, h3, h4⟩ := h
    simp only [Exit.inBlock]
    rcases bc_spec h1 with ⟨hi, hk⟩ | ⟨hi, hk⟩
    · rw [if_pos (Nat.eq_of_beq_eq_true hi)]
      exact ⟨ρ', st', own', μ', hk, h2, h3, h4⟩
    · rw [if_neg (Nat.ne_of_beq_eq_false hi)]
      exact ⟨ρ', st', own', μ', hk, h2, h3, h4⟩
  | outgrown => exact h.elim
  | _ => exact h

/-- What a code must be told. -/
def Told (P : Program) (cfg : Cfg) (ext : Ext) (m0 : Nat) (f n : Nat) (ro : Option Nat) (m base : Nat) (c : Code) : Prop :=
  ∀ (k : Nat), k ≤ m0 → ∀ (R : Type) (r : R) (K : Ex → Env → St → Option R) (ρ : Env) (st : St) (a : Act) (w : World) (own : Own) (μ : List Nat),
      Rel P cfg base n w own μ ρ st a → NoL ρ → exec P cfg (fuelO P cfg ext k) f c ρ st K = some r → c.wpIn (wide ro) m P (Fin P cfg base n w own μ r K) a w

def AllS (S : Code → Prop) : Code → Prop
  | .seq a b => AllS S a ∧ AllS S b
  | .cond _ a b => AllS S a ∧ AllS S b
  | .block _ b => AllS S b
  | .loop b => AllS S b
  | .scope b => (noScope b = true → S b) ∧ (noScope b = false → AllS S b)
  | _ => True

theorem allS_no {S : Code → Prop} : ∀ {c : Code}, noScope c = true → AllS S c
  | .seq a b, h => by
    simp only [noScope, Bool.and_eq_true] at h
    exact ⟨allS_no h.1, allS_no h.2⟩
  | .cond _ a b, h => by
    simp only [noScope, Bool.and_eq_true] at h
    exact ⟨allS_no h.1, allS_no h.2⟩
  | .block _ b, h => by simp only [noScope] at h; exact allS_no (c := b) h
  | .loop b, h => by simp only [noScope] at h; exact allS_no (c := b) h
  | .rangeFunc _ _ a b, h => trivial
  | .scope b, h => by simp [noScope] at h
  | .region .., _ => trivial
  | .skip, _ => trivial
  | .label _, _ => trivial
  | .exit _, _ => trivial
  | .goto _, _ => trivial
  | .ret, _ => trivial
  | .refuse _, _ => trivial

theorem exec_wpG (hm : P.follows .mixedOrders = true) (hP : PlainNames P) {m0 : Nat} (hO : FuelOK P cfg ext m0) {f : Nat} {fn : Func} {whole : Code} (hf : P.funcs[f]? = some fn) (hb : fn.body = some whole) (hok : okCode fn.ntmps whole = true) {ro : Option Nat} {m : Nat} {S : Code → Prop} (hS : ∀ b, S b → Told P cfg ext m0 f fn.ntmps ro m base (.scope b)) :
    ∀ (c : Code), AllS S c → okTmps fn.ntmps c = true → simple c = true → HasL (fun k => findL k whole) c → HasR (fun k => findR k whole) c → (ro = none ∨ keysR c = []) → Told P cfg ext m0 f fn.ntmps ro m base c := by
  intro c
  induction c with
  | skip =>
    intro _ _ _ _ _ _ k hk R r K ρ st a w own μ hR hN h
    exact wpIn_skip ⟨ρ, st, own, μ, h, hR, hN, Keeps.refl⟩
  | label l =>
    intro _ _ _ _ _ _ k hk R r K ρ st a w own μ hR hN h
    exact wpIn_label ⟨ρ, st, own, μ, h, hR, hN, Keeps.refl⟩
  | exit i =>
    intro _ _ _ _ _ _ k hk R r K ρ st a w own μ hR hN h
    exact wpIn_exit ⟨ρ, st, own, μ, h, hR, hN, Keeps.refl⟩
  | goto l =>
    intro _ _ _ _ _ _ k hk R r K ρ st a w own μ hR hN h
    exact wpIn_goto ⟨ρ, st, own, μ, h, hR, hN, Keeps.refl⟩
  | ret =>
    intro _ _ _ _ _ _ k hk R r K ρ st a w own μ hR hN h
    exact wpIn_ret ⟨ρ, st, own, μ, h, hR, hN, Keeps.refl⟩
  | refuse s => intro _ _ h; simp [simple] at h
  | scope b ih =>
    intro hS' ht hs hl hr hro
    cases hn : noScope b with
    | true => exact hS b (hS'.1 hn)
    | false =>
      intro k hk R r K ρ st a w own μ hR hN h
      simp only [okTmps] at ht
      simp only [simple] at hs
      simp only [exec, hn] at h
      refine wpIn_scope_n (fun _ _ _ _ => False) (wpIn_mono (ih (hS'.2 hn) ht hs hl hr hro k hk R r _ ρ st a w own μ hR hN h) fun e a' w' hF => ?_) fun l rest k a w _ hJ => hJ.elim
      cases e with
      | goto l =>
        obtain ⟨ρ', st', own', μ', h1, h2, h3, h4⟩ := hF
        simp only at h1
        cases hlb : findLabel b l with
        | some rest => rw [hlb] at h1; cases h1
        | none =>
          rw [hlb] at h1
          exact .inr ⟨hlb, ρ', st', own', μ', h1, h2, h3, h4⟩
      | outgrown => exact hF.elim
      | _ => exact hF
  | rangeFunc f' ps x y ih1 ih2 =>
    intro _ _ _ _ hr hro k hk R r K ρ st a w own μ hR hN h
    have : ro = none := hro.resolve_right (by simp [keysR])
    subst this
    exact range_wp hP (hO k hk).1 hf hb hok hr.1 hR hN h
  | seq x y ihx ihy =>
    intro hS' ht hs hl hr hro k hk R r K ρ st a w own μ hR hN h
    simp only [okTmps, Bool.and_eq_true] at ht
    simp only [simple, Bool.and_eq_true] at hs
    refine wpIn_seq (wpIn_mono (ihx hS'.1 ht.1 hs.1 hl.1 hr.1 (hro.imp_right fun e => by simp only [keysR, List.append_eq_nil_iff] at e; exact e.1) k hk R r _ ρ st a w own μ hR hN h) fun e a' w' hF => ?_)
    refine seq_fin hF fun ρ' st' own' μ' h1 h2 h3 h4 => ?_
    exact wpIn_mono (ihy hS'.2 ht.2 hs.2 hl.2 hr.2 (hro.imp_right fun e => by simp only [keysR, List.append_eq_nil_iff] at e; exact e.2) k hk R r K ρ' st' a' w' own' μ' h2 h3 h1) fun e a' w' hF => hF.keeps h4
  | block id b ih =>
    intro hS' ht hs hl hr hro k hk R r K ρ st a w own μ hR hN h
    simp only [okTmps] at ht
    simp only [simple] at hs
    exact wpIn_block (wpIn_mono (ih hS' ht hs hl hr hro k hk R r _ ρ st a w own μ hR hN h) fun e a' w' hF => block_fin hF)
  | cond c x y ihx ihy =>
    intro hS' ht hs hl hr hro k hk R r K ρ st a w own μ hR hN h
    simp only [okTmps, Bool.and_eq_true] at ht
    simp only [simple, Bool.and_eq_true] at hs
    simp only [exec] at h
    split at h
    · rename_i t
      split at h
      · rename_i b hv
        have hev : a.eval (.tmp t) = .bool b := by
          have := bool_tmp hR hv
          simp [Act.eval, this]
        rcases bc_spec h with ⟨rfl, h1⟩ | ⟨rfl, h1⟩
        · exact wpIn_cond_true hev (ihx hS'.1 ht.1 hs.1 hl.1 hr.1 (hro.imp_right fun e => by simp only [keysR, List.append_eq_nil_iff] at e; exact e.1) k hk R r K _ st a w own μ (hR.congr (set_same hv)) (fun t' x off e => hN t' x off (by rwa [set_same hv] at e)) h1)
        · exact wpIn_cond_false hev (ihy hS'.2 ht.2 hs.2 hl.2 hr.2 (hro.imp_right fun e => by simp only [keysR, List.append_eq_nil_iff] at e; exact e.2) k hk R r K _ st a w own μ (hR.congr (set_same hv)) (fun t' x off e => hN t' x off (by rwa [set_same hv] at e)) h1)
      · cases h
    · rename_i b
      have hev : a.eval (.const (.bool b)) = .bool b := rfl
      rcases bc_spec h with ⟨rfl, h1⟩ | ⟨rfl, h1⟩
      · exact wpIn_cond_true hev (ihx hS'.1 ht.1 hs.1 hl.1 hr.1 (hro.imp_right fun e => by simp only [keysR, List.append_eq_nil_iff] at e; exact e.1) k hk R r K ρ st a w own μ hR hN h1)
      · exact wpIn_cond_false hev (ihy hS'.2 ht.2 hs.2 hl.2 hr.2 (hro.imp_right fun e => by simp only [keysR, List.append_eq_nil_iff] at e; exact e.2) k hk R r K ρ st a w own μ hR hN h1)
    · cases h
  | region id ops draw =>
    intro _ ht hs _ _ _ k hk R r K ρ st a w own μ hR hN h
    simp only [exec] at h
    cases draw with
    | true => exact region_draw_wp hm hP (hO k hk).1 (hO k hk).2 (okTmps_dst ht) (fun ρ' st' a' w' own' μ' h1 h2 h3 h4 => ⟨ρ', st', own', μ', h1, h2, h3, h4⟩) hR hN h
    | false =>
    refine wpIn_region ?_
    have := execOps_wp (m := m) (ro := ro) (Q := Fin P cfg base fn.ntmps w own μ r K) hP (hO k hk).1 (hO k hk).2 (okTmps_dst ht) (fun ρ' st' a' w' own' μ' h1 h2 h3 h4 => ⟨ρ', st', own', μ', h1, h2, h3, h4⟩)
      (fun v c ρ' ρ'' st' a' w' own' μ' h1 h2 h3 h4 => ⟨v, c, ρ', ρ'', st', own', μ', h1, h2, h3, h4, rfl⟩) ops.toList 0 ρ st [] a w own μ rfl hR (fun t x off e => absurd e (hN t x off)) Keeps.refl h
    rwa [← List.range_eq_range', Array.length_toList] at this
  | loop b ih =>
    intro hS' ht hs hl hr hro k hk R r K ρ st a w own μ hR hN h
    simp only [okTmps] at ht
    simp only [simple] at hs
    obtain ⟨hfind, hkey, hl⟩ := hl
    simp only [exec] at h
    obtain ⟨vals, h, hR1, hN1⟩ := coerceKeep_spec hR hN _ _ h
    obtain ⟨x, hx, h⟩ := obind_spec h
    refine wpIn_loop_n (fun k' a' w' => ∃ own' μ' vals' st', k' ≤ m0 ∧ (fuelO P cfg ext k').loop f (keyOf b) vals' st' = some x ∧
      Rel P cfg base fn.ntmps w' own' μ' (envOf ((cfg.keep f (keyOf b)).map (·.1)) vals') st' a' ∧ NoL (envOf ((cfg.keep f (keyOf b)).map (·.1)) vals') ∧ Keeps base w own μ w' own' μ') ?_ (k₀ := k) ⟨own, μ, vals, st, hk, hx, hR1, hN1, Keeps.refl⟩
    rintro k' a' w' ⟨own', μ', vals', st', hk', hx', hR', hN', hK'⟩
    cases k' with
    | zero => cases hx'
    | succ k' =>
      have hbody : loopBody P cfg (fuelO P cfg ext k') f (keyOf b) vals' st' = some x := hx'
      simp only [loopBody, hf, hb, hkey, if_true, hfind] at hbody
      refine wpIn_mono (ih hS' ht hs hl hr hro k' (by omega) _ x _ _ st' a' w' own' μ' hR' hN' hbody) fun e a2 w2 hF => ?_
      have hF := hF.keeps hK'
      cases e with
      | normal =>
        obtain ⟨ρ2, st2, own2, μ2, h1, h2, h3, h4⟩ := hF
        obtain ⟨vals2, h1, hR2, hN2⟩ := coerceKeep_spec h2 h3 _ _ h1
        exact ⟨k', by omega, own2, μ2, vals2, st2, by omega, h1, hR2, hN2, h4⟩
      | goto l =>
        obtain ⟨ρ2, st2, own2, μ2, h1, h2, h3, h4⟩ := hF
        simp only [Option.some.injEq] at h1
        subst h1
        rcases behind_spec h with ⟨he, _⟩ | ⟨he, _⟩ | ⟨j, he, _⟩ | ⟨v, he, _⟩ <;> cases he
      | outgrown => exact hF.elim
      | ret => exact round_exits h (fun _ _ => rfl) (fun _ _ _ _ => rfl) (fun _ _ _ => rfl) (by simp) (by simp) hF
      | exit i => exact round_exits h (fun _ _ => rfl) (fun _ _ _ _ => rfl) (fun _ _ _ => rfl) (by simp) (by simp) hF
      | panic ch => exact round_exits h (fun _ _ => rfl) (fun _ _ _ _ => rfl) (fun _ _ _ => rfl) (by simp) (by simp) hF

theorem allS_of {n : Nat} {F : Nat → Option Code} {G : Nat → Option (Array Tmp × Code × Code)} {H : Nat → Option Code} {ro : Option Nat} : ∀ {c : Code}, okTmps n c = true → simple c = true → HasL F c → HasR G c → HasS H c → (ro = none ∨ keysR c = []) →
    AllS (fun b => okTmps n b = true ∧ simple b = true ∧ HasL F b ∧ HasR G b ∧ noScope b = true ∧ (ro = none ∨ keysR b = []) ∧ ∀ l, (findLabel b l).isSome = true → H l = some b) c
  | .seq a b, h1, h2, h3, h4, h5, h6 => by
    simp only [okTmps, Bool.and_eq_true] at h1
    simp only [simple, Bool.and_eq_true] at h2
    simp only [keysR, List.append_eq_nil_iff] at h6
    exact ⟨allS_of h1.1 h2.1 h3.1 h4.1 h5.1 (h6.imp_right fun e => e.1), allS_of h1.2 h2.2 h3.2 h4.2 h5.2 (h6.imp_right fun e => e.2)⟩
  | .cond _ a b, h1, h2, h3, h4, h5, h6 => by
    simp only [okTmps, Bool.and_eq_true] at h1
    simp only [simple, Bool.and_eq_true] at h2
    simp only [keysR, List.append_eq_nil_iff] at h6
    exact ⟨allS_of h1.1 h2.1 h3.1 h4.1 h5.1 (h6.imp_right fun e => e.1), allS_of h1.2 h2.2 h3.2 h4.2 h5.2 (h6.imp_right fun e => e.2)⟩
  | .block _ b, h1, h2, h3, h4, h5, h6 => by
    simp only [okTmps] at h1
    simp only [simple] at h2
    simp only [keysR] at h6
    exact allS_of (c := b) h1 h2 h3 h4 h5 h6
  | .loop b, h1, h2, h3, h4, h5, h6 => by
    simp only [okTmps] at h1
    simp only [simple] at h2
    simp only [keysR] at h6
    exact allS_of (c := b) h1 h2 h3.2.2 h4 h5 h6
  | .rangeFunc _ _ a b, _, _, _, _, _, _ => trivial
  | .scope b, h1, h2, h3, h4, h5, h6 => by
    simp only [okTmps] at h1
    simp only [simple] at h2
    simp only [keysR] at h6
    exact ⟨fun hn => ⟨h1, h2, h3, h4, hn, h6, h5.1 hn⟩, fun hn => allS_of (c := b) h1 h2 h3 h4 (h5.2 hn) h6⟩
  | .region .., _, _, _, _, _, _ => trivial
  | .skip, _, _, _, _, _, _ => trivial
  | .label _, _, _, _, _, _, _ => trivial
  | .exit _, _, _, _, _, _, _ => trivial
  | .goto _, _, _, _, _, _, _ => trivial
  | .ret, _, _, _, _, _, _ => trivial
  | .refuse _, _, _, _, _, _, _ => trivial

/-- A scope: its first pass, and those from a label of it. -/
theorem scope_told (hm : P.follows .mixedOrders = true) (hP : PlainNames P) {m0 : Nat} (hO : FuelOK P cfg ext m0) {f : Nat} {fn : Func} {whole : Code} (hf : P.funcs[f]? = some fn) (hb : fn.body = some whole) (hok : okCode fn.ntmps whole = true) {ro : Option Nat} {m : Nat} {b : Code}
    (ht : okTmps fn.ntmps b = true) (hs : simple b = true) (hl : HasL (fun k => findL k whole) b) (hr : HasR (fun k => findR k whole) b) (hn : noScope b = true) (hro : ro = none ∨ keysR b = []) (hfs : ∀ l, (findLabel b l).isSome = true → findS l whole = some b) :
    Told P cfg ext m0 f fn.ntmps ro m base (.scope b) := by
  intro k hk R r K ρ st a w own μ hR hN h
  have told : ∀ (c : Code), noScope c = true → okTmps fn.ntmps c = true → simple c = true → HasL (fun k => findL k whole) c → HasR (fun k => findR k whole) c → (ro = none ∨ keysR c = []) → Told P cfg ext m0 f fn.ntmps ro m base c :=
    fun c hc => exec_wpG hm hP hO hf hb hok (S := fun _ => False) (fun _ h => h.elim) c (allS_no hc)
  simp only [exec] at h
  -- what holds at a jump to a label
  let J : Nat → Nat → Act → World → Prop := fun l k' a' w' => ∃ x own' μ' vals' st', k' ≤ m0 ∧ (fuelO P cfg ext k').loop f (labelKey + l) vals' st' = some x ∧
    behind P cfg f (labelKey + l) true (hasRet b) (exitsOf b) x K = some r ∧
    Rel P cfg base fn.ntmps w' own' μ' (envOf ((cfg.keep f (labelKey + l)).map (·.1)) vals') st' a' ∧ NoL (envOf ((cfg.keep f (labelKey + l)).map (·.1)) vals') ∧ Keeps base w own μ w' own' μ'
  refine wpIn_scope_n J ?_ ?_
  · refine wpIn_mono (told b hn ht hs hl hr hro k hk R r _ ρ st a w own μ hR hN h) fun e a' w' hF => ?_
    cases e with
    | goto l =>
      obtain ⟨ρ', st', own', μ', h1, h2, h3, h4⟩ := hF
      simp only at h1
      cases hlb : findLabel b l with
      | some rest =>
        rw [hlb] at h1
        simp only at h1
        simp only [hn] at h1
        obtain ⟨vals, h1, hR1, hN1⟩ := coerceKeep_spec h2 h3 _ _ (show coerceKeep P (cfg.keep f (labelKey + l)) ρ' _ = some r from h1)
        obtain ⟨x, hx, h1⟩ := obind_spec h1
        exact .inl ⟨by rw [hlb]; rfl, k, x, own', μ', vals, st', hk, hx, h1, hR1, hN1, h4⟩
      | none =>
        rw [hlb] at h1
        exact .inr ⟨hlb, ρ', st', own', μ', h1, h2, h3, h4⟩
    | outgrown => exact hF.elim
    | _ => exact hF
  · rintro l rest k' a' w' hlb ⟨x, own', μ', vals', st', hk', hx', hbeh, hR', hN', hK'⟩
    cases k' with
    | zero => cases hx'
    | succ k' =>
      obtain ⟨r1, r2, r3, r4, r5, r6⟩ := label_rest hlb ht hs hl hr hn
      have hfS := hfs l (by rw [hlb]; rfl)
      have hbody : loopBody P cfg (fuelO P cfg ext k') f (labelKey + l) vals' st' = some x := hx'
      have hkey : ¬ (labelKey + l < labelKey) := by omega
      simp only [loopBody, hf, hb, if_neg hkey, Nat.add_sub_cancel_left, hfS, hlb] at hbody
      refine wpIn_mono (told rest r5 r1 r2 r3 r4 (hro.imp_right r6) k' (by omega) _ x _ _ st' a' w' own' μ' hR' hN' hbody) fun e a2 w2 hF => ?_
      have hF := hF.keeps hK'
      cases e with
      | normal =>
        obtain ⟨ρ2, st2, own2, μ2, h1, h2, h3, h4⟩ := hF
        simp only [Option.some.injEq] at h1
        subst h1
        rcases behind_spec hbeh with ⟨_, hk2⟩ | ⟨he, _⟩ | ⟨j, he, _⟩ | ⟨v, he, _⟩
        · obtain ⟨ρ3, q1, q2, q3⟩ := coerceOuts_spec h2 h3 _ _ hk2
          exact ⟨ρ3, st2, own2, μ2, q1, q2, q3, h4⟩
        · cases he
        · cases he
        · cases he
      | goto l' =>
        obtain ⟨ρ2, st2, own2, μ2, h1, h2, h3, h4⟩ := hF
        simp only at h1
        split at h1
        · rename_i e; subst e
          obtain ⟨vals2, h1, hR2, hN2⟩ := coerceKeep_spec h2 h3 _ _ h1
          exact .inl ⟨by rw [hlb]; rfl, k', by omega, x, own2, μ2, vals2, st2, by omega, h1, hbeh, hR2, hN2, h4⟩
        · cases h1
      | outgrown => exact hF.elim
      | ret => exact round_exits hbeh (fun _ _ => rfl) (fun _ _ _ _ => rfl) (fun _ _ _ => rfl) (by simp) (by simp) hF
      | exit i => exact round_exits hbeh (fun _ _ => rfl) (fun _ _ _ _ => rfl) (fun _ _ _ => rfl) (by simp) (by simp) hF
      | panic ch => exact round_exits hbeh (fun _ _ => rfl) (fun _ _ _ _ => rfl) (fun _ _ _ => rfl) (by simp) (by simp) hF

theorem exec_wp (hm : P.follows .mixedOrders = true) (hP : PlainNames P) {m0 : Nat} (hO : FuelOK P cfg ext m0) {f : Nat} {fn : Func} {whole : Code} (hf : P.funcs[f]? = some fn) (hb : fn.body = some whole) (hok : okCode fn.ntmps whole = true) {ro : Option Nat} {m : Nat}
    (c : Code) (h1 : okTmps fn.ntmps c = true) (h2 : simple c = true) (h3 : HasL (fun k => findL k whole) c) (h4 : HasR (fun k => findR k whole) c) (h5 : HasS (fun l => findS l whole) c) (h6 : ro = none ∨ keysR c = []) : Told P cfg ext m0 f fn.ntmps ro m base c :=
  exec_wpG hm hP hO hf hb hok (fun b hb' => scope_told hm hP hO hf hb hok hb'.1 hb'.2.1 hb'.2.2.1 hb'.2.2.2.1 hb'.2.2.2.2.1 hb'.2.2.2.2.2.1 hb'.2.2.2.2.2.2) c (allS_of h1 h2 h3 h4 h5 h6) h1 h2 h3 h4 h6
end
end Go.AM

/-! A function's end. -/
namespace Go.AM
open Go Go.RowKit

section
variable {P : Program} {cfg : Cfg} {base n : Nat} {w w' : World} {own own' own1 own2 : Own} {μ μ' : List Nat} {ρ : Env} {st st' : St} {a : Act} {R : Type} {r : Out × St}

/-- What is left of a function's own. -/
def ownE (own : Own) : Own := fun b i => match own b i with | .t _ _ => .pr | .d => .free | g => g

theorem ownE_flat (own : Own) : Flat (ownE own) := fun b i => by
  unfold ownE
  cases own b i with
  | free => exact .inl rfl
  | pr => exact .inr (.inl rfl)
  | fr => exact .inr (.inr (.inl rfl))
  | d => exact .inl rfl
  | t t j => exact .inr (.inl rfl)
  | r q j => exact .inr (.inr (.inr ⟨q, j, rfl⟩))

theorem step_end (hs : Sto P cfg base w own μ st) : Step base w own μ w (ownE own) μ (fun g => (∃ t j, g = .t t j) ∨ g = .d) := by
  refine Step.retag hs (fun g => match g with | .t _ _ => .pr | .d => .free | g => g) rfl (fun g hg => ?_) (fun g hg => ?_) rfl rfl
  · cases g with
    | t t j => exact absurd (.inl ⟨t, j, rfl⟩) hg
    | d => exact absurd (.inr rfl) hg
    | _ => rfl
  · cases g with
    | fr => rfl
    | _ => cases hg

theorem sto_end (hs : Sto P cfg base w own μ st) : Sto P cfg base w (ownE own) μ st := hs.step (step_end hs) hs.len fun r x b h1 h2 => .inl ⟨h1, by rintro j (⟨_, _, e⟩ | e) <;> cases e⟩

/-- A resource is handed over for good. -/
def ownK (q : Nat) (own : Own) : Own := fun b i => match own b i with | .r q' j => (if q' = q then .pr else .r q' j) | g => g

theorem step_kill (hs : Sto P cfg base w own μ st) (q : Nat) : Step base w own μ w (ownK q own) μ (fun g => ∃ j, g = .r q j) := by
  refine Step.retag hs (fun g => match g with | .r q' j => (if q' = q then .pr else .r q' j) | g => g) rfl (fun g hg => ?_) (fun g hg => ?_) rfl rfl
  · cases g with
    | r q' j => simp only; rw [if_neg (fun e => hg ⟨j, by rw [e]⟩)]
    | _ => rfl
  · cases g with
    | r q' j =>
      simp only at hg
      split at hg <;> cases hg
    | fr => rfl
    | _ => cases hg

theorem ownK_pr {q : Nat} {b i : Nat} (h : own b i = .pr ∨ ∃ j, own b i = .r q j) : ownK q own b i = .pr := by
  rcases h with h | ⟨j, h⟩
  · simp only [ownK, h]
  · simp only [ownK, h, if_pos]

theorem ownK_flat (hf : Flat own) (q : Nat) : Flat (ownK q own) := fun b i => by
  unfold ownK
  rcases hf b i with h | h | h | ⟨q', j, h⟩
  · rw [h]; exact .inl rfl
  · rw [h]; exact .inr (.inl rfl)
  · rw [h]; exact .inr (.inr (.inl rfl))
  · rw [h]; simp only; split
    · exact .inr (.inl rfl)
    · exact .inr (.inr (.inr ⟨q', j, rfl⟩))

theorem sto_kill (hs : Sto P cfg base w own μ st) (q : Nat) : Sto P cfg base w (ownK q own) μ (st.set q .dead) :=
  hs.step (step_kill hs q) (by simp [hs.len]) fun k y b' h1' h2' => by
    rcases set_get h1' with ⟨rfl, rfl⟩ | ⟨hne, hk⟩
    · exact .inr trivial
    · exact .inl ⟨hk, fun j ⟨j', e⟩ => hne (by cases e; rfl)⟩

/-- How a result is read. -/
def resAct (tmps : Array Value) : ResultVar → Sem Value
  | .tmp t => pure (tmps.getD t undef)
  | .cell a t => do loadVar t (← asAddr (tmps.getD a undef))

theorem run_cell {tmps : Array Value} {x : Nat} {t : TypeId} {b off : Nat} (hx : tmps.getD x undef = .pointer (some ⟨b, off, none⟩)) {c : Value} (hl : (loadVar t ⟨b, off, none⟩).run P w = .ok c w) :
    (resAct tmps (.cell x t)).run P w = .ok c w := by
  simp only [resAct, hx, asAddr, pure_bind, hl]

/-- One result. -/
theorem result1_spec {st0 : St} (hR : Rel P cfg base n w own μ ρ st0 a) (hE : Sto P cfg base w own1 μ st) (hF : Flat own1)
    (h1 : ∀ b i, (own b i = .pr ∨ ∃ t j, own b i = .t t j) → own1 b i = .pr) {rm : Bool} {k : Nat} {rv : ResultVar} {t : TypeId} {K : V → St → Option (Out × St)} (h : result1 P rm k ρ st rv t K = some r) :
    ∃ v st' own2 c, K v st' = some r ∧ Sto P cfg base w own2 μ st' ∧ Flat own2 ∧ Keeps base w own1 μ w own2 μ ∧ VRep w (prOf own2) μ v c ∧ (resAct a.tmps rv).run P w = .ok c w := by
  have hmono : ∀ {v c}, VRep w (prOf own) μ v c → VRep w (prOf own1) μ v c := fun hv => hv.mono (fun b i e => ⟨h1 b i (.inl e), rfl⟩) fun _ _ h => h
  cases rv with
  | tmp x =>
    have hT := hR.env x
    have hrun : (resAct a.tmps (.tmp x)).run P w = .ok (a.tmps.getD x undef) w := rfl
    simp only [result1] at h
    have hval : ∀ v, shed false (nilAs P t (ρ.get x)) = v → VRep w (prOf own1) μ (plain1 v) (a.tmps.getD x undef) ∧ ∀ sh q lo m, v = .row sh q lo m → VRep w (prOf own1) μ v (a.tmps.getD x undef) := by
      intro v hv
      have key : ∀ {u}, VRep w (prOf own1) μ u (a.tmps.getD x undef) → v = shed false u → (∀ d sh z, u ≠ .loc d sh z) → (∀ y off, u ≠ .lptr y off) → VRep w (prOf own1) μ (plain1 v) (a.tmps.getD x undef) ∧ ∀ sh q lo m, v = .row sh q lo m → VRep w (prOf own1) μ v (a.tmps.getD x undef) := by
        intro u hu e n1 n2
        cases u with
        | loc d sh z => exact absurd rfl (n1 _ _ _)
        | lptr y off => exact absurd rfl (n2 _ _)
        | vec m sh es =>
          cases m with
          | grow =>
            exfalso
            generalize a.tmps.getD x undef = c at hu
            cases hu with
            | vecE _ _ A c hg hm => exact absurd rfl hg
            | vec _ _ _ ad c f hm => exact absurd rfl hm
          | _ => simp only [shed] at e; subst e; exact ⟨hu.plain1, fun _ _ _ _ e => by cases e⟩
        | _ => simp only [shed] at e; subst e; exact ⟨hu.plain1, fun _ _ _ _ _ => hu⟩
      cases hx : ρ.get x with
      | loc d sh u =>
        rw [hx] at hT hv
        simp only [nilAs, shed] at hv
        subst hv
        exact ⟨cptr_of_loc hT (fun b i e => h1 b i (.inr ⟨_, _, e⟩)) (fun b i e => h1 b i (.inl e)), fun _ _ _ _ e => by cases e⟩
      | lptr y off =>
        rw [hx] at hv
        simp only [nilAs, shed] at hv
        subst hv
        exact ⟨.undef _, fun _ _ _ _ e => by cases e⟩
      | vec m sh es =>
        cases m with
        | grow =>
          rw [hx] at hT hv
          simp only [nilAs, shed] at hv
          subst hv
          exact ⟨hmono (GRep.plain hT), fun _ _ _ _ e => by cases e⟩
        | _ =>
          rw [hx] at hT hv
          exact key (nilAs_rep (P := P) (t := t) (hmono hT)) hv.symm (by simp [nilAs]) (by simp [nilAs])
      | nils =>
        rw [hx] at hT hv
        refine key (nilAs_rep (P := P) (t := t) (hmono hT)) hv.symm ?_ ?_
        · intro d sh z; simp only [nilAs]; split <;> simp
        · intro d sh; simp only [nilAs]; split <;> simp
      | _ =>
        rw [hx] at hT hv
        exact key (nilAs_rep (P := P) (t := t) (hmono hT)) hv.symm (by simp [nilAs]) (by simp [nilAs])
    split at h
    · rename_i sh q lo m hv
      obtain ⟨_, h⟩ := gd_spec h
      obtain ⟨y, hy, h⟩ := getR_spec h
      obtain ⟨sh', es, rfl, h⟩ := onRow_spec h
      obtain ⟨hg, h⟩ := gd_spec h
      simp only [Bool.and_eq_true, decide_eq_true_eq] at hg
      obtain ⟨rfl, hl⟩ := hg
      have hV := (hval _ hv).2 _ _ _ _ rfl
      have hs := step_kill hE q
      refine ⟨_, _, ownK q own1, _, h, sto_kill hE q, ownK_flat hF q, keeps_of hs fun g ⟨j, e⟩ => .inr ⟨q, j, e⟩, ?_, hrun⟩
      exact row_frozen hE hy hl hV hs (fun b i hb => ownK_pr hb)
    · rename_i v hn
      exact ⟨_, _, own1, _, h, hE, hF, Keeps.refl, (hval _ rfl).1, hrun⟩
  | cell x t' =>
    have hT := hR.env x
    simp only [result1] at h
    split at h
    · rename_i d sh v hx
      rw [hx] at hT
      obtain ⟨hsh, h2⟩ := gd_spec h
      simp only [shEq, Bool.and_eq_true, decide_eq_true_eq] at hsh
      obtain ⟨hty, rfl⟩ := hsh
      obtain ⟨b, ccs, hc, hB, hs, hcell, hj, hd⟩ := loc_cells hT
      refine ⟨_, _, own1, _, h2, hE, hF, Keeps.refl, ?_, run_cell hc (run_loadVar' hty w b 0 (fun j => ccs.getD j undef) fun j hj' => by rw [Nat.zero_add]; exact hcell j hj')⟩
      cases rm with
      | false => exact hmono (VRep.of_cells (shaped_clean hs) fun j hj' => ⟨(hj j hj').1, by simp only [cond_false]; rw [cellAt_clean]; exact (hj j hj').2.plain1⟩)
      | true => exact hmono (VRep.of_cells (shaped_drop hs) fun j hj' => ⟨(hj j hj').1, by simp only [cond_true]; rw [cellAt_drop]; exact (hj j hj').2.drop1⟩)
    · rename_i sh v hx
      rw [hx] at hT
      obtain ⟨hsh, h2⟩ := gd_spec h
      simp only [shEq, Bool.and_eq_true, decide_eq_true_eq] at hsh
      obtain ⟨hty, rfl⟩ := hsh
      obtain ⟨b, off, f, he, hcell, hs, hc⟩ := VRep.cptr_inv (hT : VRep w (prOf own) μ _ _)
      exact ⟨_, _, own1, _, h2, hE, hF, Keeps.refl, hmono (VRep.of_cells hs fun j hj => ⟨(hcell j hj).2.2, hc j hj⟩), run_cell he (run_loadVar' hty w b off f fun j hj => (hcell j hj).1)⟩
    · rename_i q off hx
      rw [hx] at hT
      obtain ⟨y, hy, h⟩ := getR_spec h
      obtain ⟨cs, rfl, h⟩ := onBox_spec h
      obtain ⟨hg, h⟩ := gd_spec h
      simp only [Bool.and_eq_true, decide_eq_true_eq] at hg
      obtain ⟨hb, hty⟩ := hg
      have hT' : VRep w (prOf own) μ (.ref q off) (a.tmps.getD x undef) := hT
      generalize hc : a.tmps.getD x undef = c at hT'
      cases hT' with
      | ref _ _ b hmu =>
      obtain ⟨ccs, ty, fz, hh, hn, hf, ho, hcell, hj⟩ := box_rep hE hy hmu
      have hna : ∀ j, j < cs.length → ∀ c, cs.getD j .undef ≠ .agg c := fun j hj' => crep_not_agg (hj j hj').2 (hj j hj').1
      refine ⟨_, _, own1, _, h, hE, hF, Keeps.refl, VRep.of_cells (shaped_clean (shaped_part hb hna)) fun j hj' => ?_, run_cell hc (run_loadVar' hty w b off (fun j => ccs.getD (off + j) undef) fun j hj' => hcell _ (by omega))⟩
      have := hj (off + j) (by omega)
      refine ⟨this.1, ?_⟩
      rw [cellAt_clean, cellAt_part hb hna hj']
      exact this.2.plain1
    · cases h

/-- The results. -/
theorem resultsK_spec {st0 : St} (hR : Rel P cfg base n w own μ ρ st0 a) {rm : Bool} {k : Nat} : ∀ (rs : List ResultVar) (ts : List TypeId) (st : St) (own1 : Own) (K : List V → St → Option (Out × St)), rs.length ≤ ts.length → Sto P cfg base w own1 μ st → Flat own1 →
    (∀ b i, (own b i = .pr ∨ ∃ t j, own b i = .t t j) → own1 b i = .pr) → resultsK P rm k ρ st (rs.zip ts) K = some r →
    ∃ vs st' own2 cs, K vs st' = some r ∧ Sto P cfg base w own2 μ st' ∧ Flat own2 ∧ Keeps base w own1 μ w own2 μ ∧ vs.length = cs.length ∧ (∀ i, i < vs.length → VRep w (prOf own2) μ (vs.getD i .undef) (cs.getD i undef)) ∧
      (rs.mapM (resAct a.tmps)).run P w = .ok cs w
  | [], ts, st, own1, K, _, hE, hF, h1, h => ⟨[], st, own1, [], h, hE, hF, Keeps.refl, rfl, fun i hi => by simp at hi, rfl⟩
  | rv :: rs, [], st, own1, K, hl, _, _, _, _ => by simp at hl
  | rv :: rs, t :: ts, st, own1, K, hl, hE, hF, h1, h => by
    simp only [List.zip_cons_cons, resultsK] at h
    obtain ⟨v, st', own2, c, h, hE2, hF2, hk, hv, hrun⟩ := result1_spec hR hE hF h1 h
    obtain ⟨vs, st'', own3, cs, h, hE3, hF3, hk3, hl3, hvs, hrun3⟩ := resultsK_spec hR rs ts st' own2 _ (by simpa using hl) hE2 hF2 (fun b i hb => (hk.pr b i (h1 b i hb)).1) h
    refine ⟨_, st'', own3, c :: cs, h, hE3, hF3, hk.trans hk3, by simp [hl3], fun i hi => ?_, ?_⟩
    · cases i with
      | zero => simpa using hk3.vrep hv
      | succ i => simpa using hvs i (by simpa using hi)
    · simp only [List.mapM_cons, Sem.run_bind, hrun, Result.andThen_ok, hrun3, Sem.run_pure]
end
end Go.AM

/-! A function's body: what the abstract machine tells of a call, the model does. -/
namespace Go.AM
open Go Go.RowKit

section
variable {P : Program} {cfg : Cfg} {ext : Ext} {base n : Nat} {w w' w0 : World} {own own' own0 own1 own2 : Own} {μ μ' μ0 : List Nat} {ρ : Env} {st st' : St} {a : Act} {x : Out × St}

/-! ### what is dropped behind a call -/
theorem grep_cut {g : Tag} {sh : Sh} {es : List V} {c : Value} (h : GRep w own μ g sh es c) {k : Nat} (hn : belowL k es = true) : GRep w own (μ.take k) g sh es c := by
  obtain ⟨A, cap, hc, hl, h⟩ := h
  refine ⟨A, cap, hc, hl, ?_⟩
  rcases h with h | ⟨a, f, ccs, ty, fz, hA, ha, hb, hcap, hcell, hsh, hrep, hsp⟩
  · exact .inl h
  · exact .inr ⟨a, f, ccs, ty, fz, hA, ha, hb, hcap, hcell, hsh, fun i j hi hj => (hrep i j hi hj).cut (below_cellAt (belowL_getD hn i hi) j), hsp⟩

theorem crep_cut {g : Tag} {v : V} {c : Value} (h : CRep w own μ g v c) {k : Nat} (hn : below k v = true) : CRep w own (μ.take k) g v c := by
  unfold CRep at *
  split
  · rename_i sh es
    simp only [below] at hn
    exact grep_cut h hn
  · rename_i hne
    split at h
    · exact absurd rfl (hne _ _)
    · exact h.cut hn

theorem below_envOf {k : Nat} : ∀ (ks : List Nat) (vals : List V), belowL k vals = true → ∀ t, below k ((envOf ks vals).get t) = true
  | [], vals, _, t => by cases vals <;> rfl
  | _ :: _, [], _, t => rfl
  | y :: ks, v :: vals, h, t => by
    simp only [belowL, Bool.and_eq_true] at h
    have : (envOf (y :: ks) (v :: vals)).get t = (Env.set (envOf ks vals) y v).get t := rfl
    rw [this, get_set]
    split
    · exact h.1
    · exact below_envOf ks vals h.2 t

theorem rrep_cut {q b : Nat} {y : Res} (h : RRep P cfg w own μ q b y) {k : Nat} (hn : belowRes k y = true) : RRep P cfg w own (μ.take k) q b y := by
  cases y with
  | dead => trivial
  | box cells =>
    obtain ⟨ccs, hB, hj⟩ := h
    exact ⟨ccs, hB, fun j hj' => ⟨(hj j hj').1, crep_cut (hj j hj').2 (belowL_getD hn j hj')⟩⟩
  | row sh es =>
    rcases h with h | ⟨m, ccs, hB, hl, hj⟩
    · exact .inl h
    · exact .inr ⟨m, ccs, hB, hl, fun i hi => ⟨(hj i hi).1, fun j hj' => ⟨((hj i hi).2 j hj').1, ((hj i hi).2 j hj').2.cut (below_cellAt (belowL_getD hn i hi) j)⟩⟩⟩
  | loop fid key vals s p =>
    obtain ⟨ho, L, fn, c, hb, h1, h2, h3, h4, h5, h6, h7, h8⟩ := h
    exact ⟨ho, L, fn, c, hb, h1, h2, h3, h4, h5, h6, h7, fun t => (h8 t).cut (below_envOf _ _ hn t)⟩
  | iter z p => exact h

theorem belowSt_get {k : Nat} : ∀ {st : St}, belowSt k st = true → ∀ (q : Nat) (y : Res), st[q]? = some y → belowRes k y = true
  | [], _, q, y, h => by simp at h
  | z :: st, hb, 0, y, h => by
    simp only [belowSt, Bool.and_eq_true] at hb
    simp only [List.getElem?_cons_zero, Option.some.injEq] at h
    subst h; exact hb.1
  | z :: st, hb, q + 1, y, h => by
    simp only [belowSt, Bool.and_eq_true] at hb
    simp only [List.getElem?_cons_succ] at h
    exact belowSt_get hb.2 q y h

theorem sto_cut (h : Sto P cfg base w own μ st) {k : Nat} (hb : belowSt k (st.take k) = true) : Sto P cfg base w own (μ.take k) (st.take k) := by
  refine ⟨by simp [h.len], fun q y b hy hm => ?_, h.alloc, h.low, h.size⟩
  have hq : belowRes k y = true := belowSt_get hb q y hy
  rw [List.getElem?_take] at hy hm
  split at hy
  · rename_i hlt
    rw [if_pos hlt] at hm
    exact rrep_cut (h.res q y b hy hm) hq
  · cases hy

theorem keeps_cut (k : Keeps base w0 own0 μ0 w own μ) : Keeps base w0 own0 μ0 w own (μ.take μ0.length) := by
  refine ⟨k.below, k.pr, k.fr, k.blk, k.obj, [], ?_⟩
  obtain ⟨ν, rfl⟩ := k.mu
  simp

theorem gc_spec {p : Bool} {v : V} {c : Value} (hE : Sto P cfg base w own μ st) (hk : Keeps base w0 own0 μ0 w own μ) (hv : VRep w (prOf own) μ v c) {out : Out} (ho : out = .ret v ∨ out = .panic v) (h : gc p μ0.length out st = some x) :
    ∃ μ', Sto P cfg base w own μ' x.2 ∧ Keeps base w0 own0 μ0 w own μ' ∧ x.1 = out ∧ VRep w (prOf own) μ' v c := by
  have cut : (below μ0.length v && belowSt μ0.length (st.take μ0.length)) = true → ∃ μ', Sto P cfg base w own μ' (st.take μ0.length) ∧ Keeps base w0 own0 μ0 w own μ' ∧ VRep w (prOf own) μ' v c := fun hb => by
    simp only [Bool.and_eq_true] at hb
    exact ⟨_, sto_cut hE hb.2, keeps_cut hk, hv.cut hb.1⟩
  rcases ho with rfl | rfl
  · simp only [gc] at h
    rcases bc_spec h with ⟨_, h⟩ | ⟨_, h⟩
    · obtain ⟨hb, h⟩ := gd_spec h
      cases h
      obtain ⟨μ', h1, h2, h3⟩ := cut hb
      exact ⟨μ', h1, h2, rfl, h3⟩
    · unfold gcE at h
      rcases bc_spec h with ⟨_, h⟩ | ⟨_, h⟩
      · cases h
        exact ⟨μ, hE, hk, rfl, hv⟩
      · rcases bc_spec h with ⟨hb, h⟩ | ⟨_, h⟩
        · cases h
          obtain ⟨μ', h1, h2, h3⟩ := cut hb
          exact ⟨μ', h1, h2, rfl, h3⟩
        · cases h
          exact ⟨μ, hE, hk, rfl, hv⟩
  · simp only [gc] at h
    obtain ⟨hb, h⟩ := gd_spec h
    cases h
    obtain ⟨μ', h1, h2, h3⟩ := cut hb
    exact ⟨μ', h1, h2, rfl, h3⟩

/-! ### marks -/
theorem mark_taken {D : Nat} {ds : List Deferred} (h : Rel P cfg base n w own μ ρ st { tmps := a.tmps, defers := { target := .collected D, args := #[] } :: ds }) (hD : w.heap[D]? = some (.deferred (some []))) (hd : ∀ i, own D i = .d) :
    Rel P cfg base n (w.putObj D (.deferred none)) own μ ρ st { tmps := a.tmps, defers := ds } ∧ Keeps base w own μ (w.putObj D (.deferred none)) own μ := by
  have hlow : base ≤ D := h.sto.low D 0 (by rw [hd]; simp) (by rw [hd]; simp) (by rw [hd]; simp)
  have hsame : ∀ k, k ≠ D → (w.putObj D (.deferred none)).heap[k]? = w.heap[k]? := fun k hk => World.putObj_heap_other hk
  have hB : Below base w (w.putObj D (.deferred none)) := ⟨rfl, rfl, rfl, by simp, fun k hk => hsame k (by omega)⟩
  have s : Step base w own μ (w.putObj D (.deferred none)) own μ (fun g => g = .d) := Step.obj h.sto hd (by simp) rfl (fun c e f hc => by rw [hD] at hc; cases hc) hlow hsame hB
  refine ⟨⟨h.sto.step s h.sto.len fun r y b h1 h2 => .inl ⟨h1, by simp⟩, fun t => s.trep (h.env t) (by simp) fun y off hy => ⟨rfl, (env_keep h t y off hy).2⟩, h.tmps, fun y hy => ?_, (List.nodup_cons.1 h.apart).2⟩, s.keeps (by simp)⟩
  obtain ⟨D', h1, h2, h3⟩ := h.defers y (by simp only [List.mem_cons]; exact .inr hy)
  have hne : D' ≠ D := fun e => (List.nodup_cons.1 h.apart).1 (by rw [← e, ← h1]; exact hy)
  exact ⟨D', h1, (hsame D' hne).trans h2, h3⟩

theorem leaves_marks {F : Fence} {m : Nat} {fn : Func} {R : Ending → World → Prop} {u : FrameMode} (hu : u ≠ .run) : ∀ (ds : List Deferred) (w : World), Rel P cfg base n w own μ ρ st { tmps := a.tmps, defers := ds } → Keeps base w0 own0 μ0 w own μ →
    (∀ w', Rel P cfg base n w' own μ ρ st { tmps := a.tmps, defers := [] } → Keeps base w0 own0 μ0 w' own μ → Keeps base w own μ w' own μ → LeavesIn F m P fn a.tmps R [] u w') → LeavesInM F m P fn a.tmps R ds u w
  | [], w, h, hk, hend => hend w h hk Keeps.refl
  | d :: ds, w, h, hk, hend => by
    obtain ⟨D, rfl, hD, hd⟩ := h.defers d (by simp)
    obtain ⟨h1, h2⟩ := mark_taken h hD hd
    exact ⟨hu, .inl ⟨D, _, rfl, run_takeDeferred hD, leaves_marks hu ds _ h1 (hk.trans h2) fun w' k1 k2 k3 => hend w' k1 k2 (h2.trans k3)⟩⟩

/-- What a call hands back of its results. -/
def resC : List Value → Value
  | [c] => c
  | cs => .tuple cs.toArray

theorem run_results {fn : Func} {tmps : Array Value} {cs : List Value} (h : (fn.results.toList.mapM (resAct tmps)).run P w = .ok cs w) : (results fn tmps).run P w = .ok (resC cs) w := by
  have he : (fun | .tmp t => pure (tmps.getD t undef) | .cell a t => do loadVar t (← asAddr (tmps.getD a undef)) : ResultVar → Sem Value) = resAct tmps := by
    funext x; cases x <;> rfl
  have h2 : (results fn tmps).run P w = ((fn.results.mapM (resAct tmps) >>= fun vs => pure (if h : vs.size = 1 then vs[0] else .tuple vs) : Sem Value)).run P w := by
    rw [← he]; rfl
  rw [h2, Array.mapM_eq_mapM_toList]
  simp only [Sem.run_bind, map_eq_pure_bind, h, Result.andThen_ok, Sem.run_pure]
  match cs with
  | [] => rfl
  | [c] => rfl
  | c :: c' :: cs => simp [resC]

theorem results_rep : ∀ {vs : List V} {cs : List Value}, vs.length = cs.length → (∀ i, i < vs.length → VRep w (prOf own) μ (vs.getD i .undef) (cs.getD i undef)) →
    VRep w (prOf own) μ (match vs with | [v] => v | vs => .tup vs) (resC cs)
  | [v], [c], _, h8 => by simpa [resC] using h8 0 (by simp)
  | [], [], _, h8 => .tup [] #[] rfl fun i hi => by simp at hi
  | [], _ :: _, h, _ => by simp at h
  | _ :: _, [], h, _ => by simp at h
  | [_], _ :: _ :: _, h, _ => by simp at h
  | _ :: _ :: _, [_], h, _ => by simp at h
  | v :: v' :: vs, c :: c' :: cs, h7, h8 => by
    refine .tup _ _ (by simpa using h7) fun i hi => ?_
    have := h8 i hi
    simpa [Array.getD_eq_getD_getElem?, List.getD_eq_getElem?_getD] using this

theorem body_end {m : Nat} {F : Fence} {fn : Func} (hR : Rel P cfg base n w own μ ρ st a) (hk : Keeps base w0 own0 μ0 w own μ) {p : Bool} (hl : fn.results.size ≤ fn.resultTypes.size)
    {rm : Bool} (h : resultsK P rm μ0.length ρ st (fn.results.toList.zip fn.resultTypes.toList) (fun vs st' => gc p μ0.length (.ret (match vs with | [v] => v | vs => .tup vs)) st') = some x) :
    LeavesInM F m P fn a.tmps (CallPost P cfg base w0 own0 μ0 x) a.defers .returning w := by
  refine leaves_marks (by simp) a.defers w hR hk fun w' h1 h2 _ => ?_
  obtain ⟨vs, st', own2, cs, h3, h4, h5, h6, h7, h8, h9⟩ := resultsK_spec (a := { tmps := a.tmps, defers := [] }) h1 _ _ st (ownE own) _ (by simpa using hl) (sto_end h1.sto) (ownE_flat own) (fun b i hb => by
    rcases hb with hb | ⟨t, j, hb⟩ <;> simp only [ownE, hb]) h
  refine ⟨resC cs, run_results h9, ?_⟩
  have hke : Keeps base w' own μ w' (ownE own) μ := (step_end h1.sto).keeps (by simp)
  have hv := results_rep h7 h8
  obtain ⟨μ', k1, k2, k3, k4⟩ := gc_spec h4 ((h2.trans hke).trans h6) hv (.inl rfl) h3
  refine ⟨resC cs, own2, μ', k1, k2, ?_⟩
  rw [k3]
  exact ⟨rfl, k4⟩

theorem body_panic {m : Nat} {F : Fence} {fn : Func} {ρ' : Env} (hR : Rel P cfg base n w own μ ρ' st a) (hk : Keeps base w0 own0 μ0 w own μ) {p : Bool} {v : V} {c : Value} (hv : VRep w (prOf own) μ v c) (h : gc p μ0.length (.panic v) st = some x) :
    LeavesInM F m P fn a.tmps (CallPost P cfg base w0 own0 μ0 x) a.defers (.panicking [{ v := c, recovered := false }]) w := by
  refine leaves_marks (by simp) a.defers w hR hk fun w' h1 h2 h3 => ?_
  obtain ⟨μ', k1, k2, k3, k4⟩ := gc_spec h1.sto h2 (h3.vrep hv) (.inr rfl) h
  refine ⟨c, own, μ', k1, k2, ?_⟩
  rw [k3]
  exact ⟨rfl, k4⟩
end
end Go.AM

/-! A call, from its body. -/
namespace Go.AM
open Go Go.RowKit

section
variable {P : Program} {cfg : Cfg} {ext : Ext} {base n : Nat} {w w' w0 : World} {own own' own0 own1 own2 : Own} {μ μ' μ0 : List Nat} {ρ : Env} {st st' : St} {a : Act} {x : Out × St}

theorem get_envArgsFrom : ∀ (vs : List V) (i t : Nat), (envArgsFrom i vs).get t = if i ≤ t ∧ t < i + vs.length then vs.getD (t - i) .undef else .undef
  | [], i, t => by
    have : ¬ (i ≤ t ∧ t < i + 0) := by omega
    simp [envArgsFrom, Env.get]
  | v :: vs, i, t => by
    have : (envArgsFrom i (v :: vs)).get t = (Env.set (envArgsFrom (i + 1) vs) i v).get t := rfl
    rw [this, get_set, get_envArgsFrom vs (i + 1) t]
    by_cases e : t = i
    · subst e; simp
    · rw [if_neg e]
      by_cases h : i + 1 ≤ t ∧ t < i + 1 + vs.length
      · rw [if_pos h, if_pos (by simp; omega)]
        obtain ⟨k, hk⟩ : ∃ k, t - i = k + 1 := ⟨t - i - 1, by omega⟩
        rw [hk, show t - (i + 1) = k from by omega]
        simp
      · rw [if_neg h, if_neg (by simp; omega)]

theorem rel_enter {fn : Func} {args : List V} {cargs : Array Value} (hs : Sto P cfg base w own μ st) (ha : Args w own μ args cargs) (hl : args.length ≤ fn.ntmps) :
    Rel P cfg base fn.ntmps w own μ (envArgs args) st { tmps := cargs ++ Array.replicate (fn.ntmps - cargs.size) undef, defers := [] } ∧ NoL (envArgs args) := by
  have hv : ∀ t, (envArgs args).get t = .undef ∨ (t < args.length ∧ (envArgs args).get t = args.getD t .undef) := fun t => by
    unfold envArgs
    rw [get_envArgsFrom]
    split
    · rename_i h; exact .inr ⟨by omega, by simp⟩
    · exact .inl rfl
  have hT : ∀ t, VRep w (prOf own) μ ((envArgs args).get t) ((cargs ++ Array.replicate (fn.ntmps - cargs.size) undef).getD t undef) := fun t => by
    rcases hv t with h | ⟨h, h2⟩
    · rw [h]; exact .undef _
    · rw [h2]
      have := ha.2 t h
      have hlt : t < cargs.size := by rw [← ha.1]; exact h
      rw [Array.getD_eq_getD_getElem?, Array.getElem?_append_left hlt, ← Array.getD_eq_getD_getElem?]
      exact this
  refine ⟨⟨hs, fun t => .of_val (hT t), ?_, (fun y hy => by cases hy), .nil⟩, fun t y off e => ?_⟩
  · have := ha.1
    simp; omega
  · have := hT t
    rw [e] at this
    cases this

/-- The conditions on a function's code. -/
theorem okCode_spec {n : Nat} {c : Code} (h : okCode n c = true) : okTmps n c = true ∧ HasL (fun k => findL k c) c ∧ HasR (fun k => findR k c) c ∧ simple c = true ∧ HasS (fun k => findS k c) c := by
  simp only [okCode, Bool.and_eq_true, List.all_eq_true] at h
  obtain ⟨⟨⟨⟨⟨h1, h2⟩, h3⟩, h4⟩, h5⟩, h6⟩ := h
  exact ⟨h1, hasL_of (nodupB_spec h2) fun k hk => ⟨Nat.le_of_ble_eq_true (h5 k hk), rfl⟩, hasR_of (nodupB_spec h3) fun k hk => rfl, h6, hasS_of (nodupB_spec h4) fun l _ => rfl⟩

/-- The end of a body. -/
theorem callBody_ok (hm : P.follows .mixedOrders = true) (hP : PlainNames P) {m0 : Nat} (hO : FuelOK P cfg ext m0) : CallOK P cfg (callBody P cfg (fuelO P cfg ext m0)) := by
  intro f args st x h
  unfold callBody at h
  split at h
  · cases h
  · rename_i fn hf
    split at h
    · cases h
    · rename_i c hb
      refine ⟨⟨fn, hf, by rw [hb]; rfl⟩, ?_⟩
      intro n base w own μ cargs hs hfl ha
      obtain ⟨hg, h⟩ := gd_spec h
      simp only [Bool.and_eq_true, decide_eq_true_eq] at hg
      obtain ⟨⟨_, hl⟩, hok⟩ := hg
      obtain ⟨h1, h2, h3, h4, h5⟩ := okCode_spec hok
      obtain ⟨hR, hN⟩ := rel_enter (fn := fn) hs ha hl
      refine callsIn_of_wp_marks hf hb trivial ?_
      refine wpIn_mono (exec_wp (ro := none) (m := n) hm hP hO hf hb hok c h1 h4 h2 h3 h5 (.inl rfl) m0 (Nat.le_refl _) _ x _ _ st _ w own μ hR hN h) fun e a' w' hF => ?_
      rw [← hs.len] at hF
      cases e with
      | normal =>
        obtain ⟨ρ', st', own', μ', k1, k2, k3, k4⟩ := hF
        obtain ⟨hsz, k1⟩ := gd_spec k1
        exact body_end k2 k4 (by simpa using hsz) k1
      | ret =>
        obtain ⟨ρ', st', own', μ', k1, k2, k3, k4⟩ := hF
        obtain ⟨hsz, k1⟩ := gd_spec k1
        exact body_end k2 k4 (by simpa using hsz) k1
      | exit i => obtain ⟨ρ', st', own', μ', k1, k2, k3, k4⟩ := hF; cases k1
      | goto l => obtain ⟨ρ', st', own', μ', k1, k2, k3, k4⟩ := hF; cases k1
      | panic ch =>
        obtain ⟨v, cv, ρ', ρ'', st', own', μ', k1, k2, k3, k4, rfl⟩ := hF
        exact body_panic k2 k3 k4 k1
      | outgrown => exact hF.elim
end
end Go.AM

/-! Rounds; all the fuel. -/
namespace Go.AM
open Go Go.RowKit

section
variable {P : Program} {cfg : Cfg} {ext : Ext} {base n : Nat} {w w' w0 : World} {own own' own0 own1 own2 : Own} {μ μ' μ0 : List Nat} {ρ : Env} {st st' : St} {a : Act}

theorem findR_spec {n : Nat} {F : Nat → Option Code} {G : Nat → Option (Array Tmp × Code × Code)} {key : Nat} {ps : Array Tmp} {x y : Code} : ∀ {c : Code}, findR key c = some (ps, x, y) → okTmps n c = true → simple c = true → HasL F c → HasR G c →
    (∀ d ∈ ps.toList, d < n) ∧ (okTmps n x = true ∧ simple x = true ∧ HasL F x ∧ HasR G x ∧ keysR x = [] ∧ noScope x = true) ∧ (okTmps n y = true ∧ simple y = true ∧ HasL F y ∧ HasR G y ∧ keysR y = [] ∧ noScope y = true)
  | .seq a b, h, h1, h2, h3, h4 => by
    simp only [okTmps, Bool.and_eq_true] at h1
    simp only [simple, Bool.and_eq_true] at h2
    simp only [findR] at h
    cases ha : findR key a with
    | some z => rw [ha] at h; simp only [orElse'] at h; cases h; exact findR_spec ha h1.1 h2.1 h3.1 h4.1
    | none => rw [ha] at h; exact findR_spec (c := b) h h1.2 h2.2 h3.2 h4.2
  | .cond _ a b, h, h1, h2, h3, h4 => by
    simp only [okTmps, Bool.and_eq_true] at h1
    simp only [simple, Bool.and_eq_true] at h2
    simp only [findR] at h
    cases ha : findR key a with
    | some z => rw [ha] at h; simp only [orElse'] at h; cases h; exact findR_spec ha h1.1 h2.1 h3.1 h4.1
    | none => rw [ha] at h; exact findR_spec (c := b) h h1.2 h2.2 h3.2 h4.2
  | .block _ b, h, h1, h2, h3, h4 => by
    simp only [okTmps] at h1
    simp only [simple] at h2
    simp only [findR] at h
    exact findR_spec h h1 h2 h3 h4
  | .loop b, h, h1, h2, h3, h4 => by
    simp only [okTmps] at h1
    simp only [simple] at h2
    simp only [findR] at h
    exact findR_spec h h1 h2 h3.2.2 h4
  | .rangeFunc _ ps' a b, h, h1, h2, h3, h4 => by
    simp only [okTmps, Bool.and_eq_true, List.all_eq_true] at h1
    simp only [simple, Bool.and_eq_true, List.isEmpty_iff] at h2
    simp only [findR] at h
    cases hk : Nat.beq (keyOf b) key with
    | true =>
      rw [hk] at h
      simp only [cond_true] at h
      cases h
      exact ⟨fun d hd => by simpa using h1.1.1 d hd, ⟨h1.1.2, h2.1.1.1.1, h3.1, h4.2.1, h2.1.1.2, h2.2.1⟩, ⟨h1.2, h2.1.1.1.2, h3.2, h4.2.2, h2.1.2, h2.2.2⟩⟩
    | false =>
      rw [hk] at h
      simp only [cond_false] at h
      cases ha : findR key a with
      | some z => rw [ha] at h; simp only [orElse'] at h; cases h; exact findR_spec ha h1.1.2 h2.1.1.1.1 h3.1 h4.2.1
      | none => rw [ha] at h; exact findR_spec (c := b) h h1.2 h2.1.1.1.2 h3.2 h4.2.2
  | .scope b, h, h1, h2, h3, h4 => by
    simp only [okTmps] at h1
    simp only [simple] at h2
    simp only [findR] at h
    exact findR_spec h h1 h2 h3 h4
  | .region .., h, _, _, _, _ => by simp [findR] at h
  | .skip, h, _, _, _, _ => by simp [findR] at h
  | .label _, h, _, _, _, _ => by simp [findR] at h
  | .exit _, h, _, _, _, _ => by simp [findR] at h
  | .goto _, h, _, _, _, _ => by simp [findR] at h
  | .ret, h, _, _, _, _ => by simp [findR] at h
  | .refuse _, h, _, _, _, _ => by simp [findR] at h

theorem getD_setIf (tm : Array Value) (t : Nat) (c : Value) (ht : t < tm.size) (x : Nat) : (tm.setIfInBounds t c).getD x undef = if x = t then c else tm.getD x undef := by
  simp only [Array.getD_eq_getD_getElem?]
  by_cases e : x = t
  · subst e; simp [ht]
  · rw [if_neg e, Array.getElem?_setIfInBounds_ne (Ne.symm e)]

/-- A round's temporaries. -/
theorem round_tmps {pr : Nat → Nat → Prop} : ∀ (ps : List Nat) (args : List V) (cargs : List Value) (ρ : Env) (tm : Array Value), args.length = cargs.length → (∀ i, i < args.length → VRep w pr μ (args.getD i .undef) (cargs.getD i undef)) → (∀ d ∈ ps, d < tm.size) →
    (∀ t, VRep w pr μ (ρ.get t) (tm.getD t undef)) →
    ((ps.zip cargs).foldl (fun tmps (x : Nat × Value) => tmps.setIfInBounds x.1 x.2) tm).size = tm.size ∧ ∀ t, VRep w pr μ ((ρ.apply (ps.zip args)).get t) (((ps.zip cargs).foldl (fun tmps (x : Nat × Value) => tmps.setIfInBounds x.1 x.2) tm).getD t undef)
  | [], args, cargs, ρ, tm, _, _, _, h => by simpa [Env.apply] using h
  | p :: ps, [], [], ρ, tm, _, _, _, h => by simpa [Env.apply] using h
  | p :: ps, [], _ :: _, ρ, tm, h, _, _, _ => by simp at h
  | p :: ps, _ :: _, [], ρ, tm, h, _, _, _ => by simp at h
  | p :: ps, v :: args, c :: cargs, ρ, tm, hl, ha, hp, h => by
    simp only [List.zip_cons_cons, List.foldl_cons, Env.apply]
    have hpt : p < tm.size := hp p (by simp)
    obtain ⟨h1, h2⟩ := round_tmps (pr := pr) ps args cargs (ρ.set p v) (tm.setIfInBounds p c) (by simpa using hl) (fun i hi => by simpa using ha (i + 1) (by simpa using hi)) (fun d hd => by simpa using hp d (by simp [hd])) fun t => by
      rw [get_set, getD_setIf _ _ _ hpt]
      split
      · simpa using ha 0 (by simp)
      · exact h t
    exact ⟨by simpa using h1, h2⟩

theorem lst_ready {s : LoopState} {p : Option Code} (h : LStOk .ready none s p) : s = .ready ∧ p = none := by
  cases s <;> cases p <;> first | exact ⟨rfl, rfl⟩ | exact h.elim

theorem lst_jump {s : LoopState} {p : Option Code} (h : LStOk .busy none s p) : s = .busy := by
  cases s <;> first | rfl | exact h.elim

/-- A round's end. -/
theorem round_end {b q : Nat} {jump : Option Code} {s2 : LSt} {p2 : Option Ex} (hj : LStOk s2 p2 (if jump.isNone then .ready else .done) jump) (hR : Rel P cfg base n w own μ ρ st a) (hk : Keeps base w0 own0 μ0 w own μ) (hb : μ0[q]? = some b) {f key : Nat} {vals : List V} {s : LSt} {p : Option Ex}
    (hst : st[q]? = some (.loop f key vals s p)) : ∃ w', (Instr.endRound b jump).run P w = .ok (.bool jump.isNone) w' ∧ CallPost P cfg base w0 own0 μ0 (.ret (.bool jump.isNone), st.set q (.loop f key vals s2 p2)) (.returned (.bool jump.isNone)) w' := by
  have hb2 : μ[q]? = some b := by
    obtain ⟨ν, rfl⟩ := hk.mu
    exact mu_get hb
  obtain ⟨L, hh, _, hput⟩ := rel_loop hR hst hb2
  obtain ⟨k1, k2⟩ := hput { L with state := if jump.isNone then .ready else .done, pending := jump } (.loop f key vals s2 p2) ⟨rfl, rfl, rfl, rfl, rfl⟩ (.inr ⟨s2, p2, rfl, hj⟩)
  exact ⟨_, run_endRound jump hh, _, own, μ, k1.sto, hk.trans k2, rfl, .bool _⟩

theorem roundBody_ok (hm : P.follows .mixedOrders = true) (hP : PlainNames P) {m0 : Nat} (hO : FuelOK P cfg ext m0) : RoundOK P cfg (roundBody P cfg (fuelO P cfg ext m0)) := by
  intro q f key vals args st x hst h n base b w own μ cargs hs hb hfl ha
  obtain ⟨ho, L, fn, c, hh, h1, h2, h3, _, h5, h6, h7, h8⟩ := hs.res q _ b hst hb
  obtain ⟨hL1, hL2⟩ := lst_ready h7
  simp only [roundBody, h1, h2, h5] at h
  obtain ⟨hg, h⟩ := gd_spec h
  simp only [decide_eq_true_eq] at hg
  obtain ⟨c1, c2, c3, c4, c5⟩ := okCode_spec h3
  obtain ⟨d0, ⟨dx1, dx2, dx3, dx4, dx5, dx6⟩, dy1, dy2, dy3, dy4, dy5, dy6⟩ := findR_spec h5 c1 c4 c2 c3
  refine ⟨L.fn, _, L.assign, L.body, run_yield hh (by rw [← ha.1]; exact hg), roundIn_of_wpIn trivial ?_⟩
  obtain ⟨e1, e2⟩ := round_tmps (w := w) (μ := μ) (pr := prOf own) L.params.toList args cargs.toList (envOf ((cfg.keep f key).map (·.1)) vals) L.tmps (by simpa using ha.1) (fun i hi => by
    have := ha.2 i hi
    simpa [Array.getD_eq_getD_getElem?, List.getD_eq_getElem?_getD] using this) (by rw [h6]; exact d0) h8
  have hf : (L.params.zip cargs).foldl (fun tmps (x : Nat × Value) => tmps.setIfInBounds x.1 x.2) L.tmps = (L.params.toList.zip cargs.toList).foldl (fun tmps (x : Nat × Value) => tmps.setIfInBounds x.1 x.2) L.tmps := by
    rw [← Array.foldl_toList, Array.toList_zip]
  have hR : Rel P cfg base fn.ntmps w own μ ((envOf ((cfg.keep f key).map (·.1)) vals).apply (L.params.toList.zip args)) st { tmps := (L.params.zip cargs).foldl (fun tmps (x : Nat × Value) => tmps.setIfInBounds x.1 x.2) L.tmps, defers := [] } := by
    rw [hf]
    exact ⟨hs, fun t => .of_val (e2 t), e1.trans h6, (fun z hz => by cases hz), .nil⟩
  have hN : NoL ((envOf ((cfg.keep f key).map (·.1)) vals).apply (L.params.toList.zip args)) := fun t y off e => by
    have := e2 t
    rw [e] at this
    cases this
  refine wpIn_mono (exec_wp (ro := some b) (m := n) hm hP hO h1 h2 h3 L.assign dx1 dx2 dx3 dx4 (hasS_no dx6) (.inr dx5) m0 (Nat.le_refl _) _ x _ _ st _ w own μ hR hN h) fun e a1 w1 hF => ?_
  cases e with
  | exit i => obtain ⟨_, _, _, _, k1, _⟩ := hF; cases k1
  | goto l => obtain ⟨_, _, _, _, k1, _⟩ := hF; cases k1
  | ret => obtain ⟨_, _, _, _, k1, _⟩ := hF; cases k1
  | panic ch => obtain ⟨_, _, _, _, _, _, _, k1, _⟩ := hF; cases k1
  | outgrown => exact hF.elim
  | normal =>
    obtain ⟨ρ1, st1, own1, μ1, k1, k2, k3, k4⟩ := hF
    obtain ⟨z, hz, k1⟩ := getR_spec k1
    obtain ⟨f1, key1, v1, s1, p1, rfl, k5⟩ := onLoop_spec k1
    split at k5
    · have hb1 : μ1[q]? = some b := by
        obtain ⟨ν, rfl⟩ := k4.mu
        exact mu_get hb
      obtain ⟨L1, hh1, hl1, hput⟩ := rel_loop k2 hz hb1
      obtain ⟨g1, g2⟩ := lst_ready hl1
      obtain ⟨k6, k7⟩ := hput { L1 with state := .busy } (.loop f1 key1 v1 .busy none) ⟨rfl, rfl, rfl, rfl, rfl⟩ (.inr ⟨.busy, none, rfl, trivial⟩)
      refine ⟨_, run_beginRound hh1 g1, ?_⟩
      refine wpIn_mono (exec_wp (ro := some b) (m := n) hm hP hO h1 h2 h3 L.body dy1 dy2 dy3 dy4 (hasS_no dy6) (.inr dy5) m0 (Nat.le_refl _) _ x _ _ _ _ _ own1 μ1 k6 k3 k5) fun e a2 w2 hF2 => ?_
      have hF2 := hF2.keeps (k4.trans k7)
      cases e with
      | outgrown => exact hF2.elim
      | panic ch =>
        obtain ⟨_, _, _, _, _, _, _, j1, _⟩ := hF2
        obtain ⟨z, hz, j1⟩ := getR_spec j1
        obtain ⟨f2, key2, v2, s2, p2, rfl, j5⟩ := onLoop_spec j1
        cases s2 <;> cases j5
      | goto l =>
        obtain ⟨_, _, _, _, j1, _⟩ := hF2
        obtain ⟨z, hz, j1⟩ := getR_spec j1
        obtain ⟨f2, key2, v2, s2, p2, rfl, j5⟩ := onLoop_spec j1
        cases s2 <;> cases j5
      | normal =>
        obtain ⟨ρ2, st2, own2, μ2, j1, j2, _, j4⟩ := hF2
        obtain ⟨z, hz, j1⟩ := getR_spec j1
        obtain ⟨f2, key2, v2, s2, p2, rfl, j5⟩ := onLoop_spec j1
        cases s2 <;> cases j5
        obtain ⟨w3, e1, e2⟩ := round_end (jump := none) (s2 := .ready) (p2 := none) trivial j2 j4 hb hz
        exact ⟨_, w3, e1, e2⟩
      | ret =>
        obtain ⟨ρ2, st2, own2, μ2, j1, j2, _, j4⟩ := hF2
        obtain ⟨z, hz, j1⟩ := getR_spec j1
        obtain ⟨f2, key2, v2, s2, p2, rfl, j5⟩ := onLoop_spec j1
        cases s2 <;> cases j5
        obtain ⟨w3, e1, e2⟩ := round_end (jump := some .ret) (s2 := .done) (p2 := some .ret) trivial j2 j4 hb hz
        exact ⟨_, w3, e1, e2⟩
      | exit i =>
        obtain ⟨ρ2, st2, own2, μ2, j1, j2, _, j4⟩ := hF2
        obtain ⟨z, hz, j1⟩ := getR_spec j1
        obtain ⟨f2, key2, v2, s2, p2, rfl, j5⟩ := onLoop_spec j1
        cases s2 <;> cases j5
        obtain ⟨w3, e1, e2⟩ := round_end (jump := some (.exit i)) (s2 := .done) (p2 := some (.exit i)) rfl j2 j4 hb hz
        exact ⟨_, w3, e1, e2⟩
    · cases k5

/-- What is done by a proof of its own. -/
def ExtOK (P : Program) (cfg : Cfg) (ext : Ext) : Prop :=
  ∀ (f : Nat) (x : Oracle → List V → St → Option (Out × St)), ext f = some x → ∀ O, CallOK P cfg O.call → RoundOK P cfg O.round → ∀ (args : List V) (st : St) (y : Out × St), x O args st = some y →
    (∃ fn, P.funcs[f]? = some fn ∧ fn.body.isSome = true) ∧
    ∀ (n base : Nat) (w : World) (own : Own) (μ : List Nat) (cargs : Array Value), Sto P cfg base w own μ st → Flat own → Args w own μ args cargs → CallsIn Fence.wide n P f cargs w (CallPost P cfg base w own μ y)

theorem fuel_ok (hm : P.follows .mixedOrders = true) (hP : PlainNames P) (hE : ExtOK P cfg ext) : ∀ m, FuelOK P cfg ext m
  | 0 => fun k hk => by
    have : k = 0 := by omega
    subst this
    exact ⟨fun f args st x h => (by cases h), fun q f key vals args st x _ h => (by cases h)⟩
  | m + 1 => fun k hk => by
    have ih := fuel_ok hm hP hE m
    rcases Nat.lt_or_ge k (m + 1) with h | h
    · exact ih k (by omega)
    · have : k = m + 1 := by omega
      subst this
      refine ⟨fun f args st x h => ?_, roundBody_ok hm hP ih⟩
      simp only [fuelO, stepO] at h
      split at h
      · rename_i y hy
        exact hE f y hy _ (ih m (Nat.le_refl _)).1 (ih m (Nat.le_refl _)).2 args st x h
      · exact callBody_ok hm hP ih f args st x h

/-- **What the abstract machine tells of a call, the model does.** -/
theorem call_sound (hm : P.follows .mixedOrders = true) (hP : PlainNames P) (hE : ExtOK P cfg ext) (m : Nat) : CallOK P cfg (fuelO P cfg ext m).call := (fuel_ok hm hP hE m m (Nat.le_refl _)).1
end
end Go.AM

/-! The limit of all fuel: an oracle that keeps its own word. -/
namespace Go.AM
open Go

section
variable {P : Program} {cfg : Cfg} {fid : Nat} {R : Type} {r : R} {α : Type}

/-- From some number on. -/
def Evt (p : Nat → Prop) : Prop := ∃ n, ∀ m, n ≤ m → p m
theorem Evt.of {p : Nat → Prop} (h : ∀ m, p m) : Evt p := ⟨0, fun m _ => h m⟩
theorem Evt.mono {p q : Nat → Prop} (h : Evt p) (f : ∀ m, p m → q m) : Evt q := let ⟨n, h⟩ := h; ⟨n, fun m hm => f m (h m hm)⟩
theorem Evt.and {p q : Nat → Prop} (h : Evt p) (k : Evt q) : Evt fun m => p m ∧ q m := by
  obtain ⟨a, h⟩ := h
  obtain ⟨b, k⟩ := k
  exact ⟨max a b, fun m hm => ⟨h m (by omega), k m (by omega)⟩⟩
theorem Evt.map2 {p q s : Nat → Prop} (h : Evt p) (k : Evt q) (f : ∀ m, p m → q m → s m) : Evt s := (h.and k).mono fun m h => f m h.1 h.2

theorem obind_ok {x : Option α} {K : α → Option R} (h : obind x K = some r) : ∃ y, x = some y ∧ K y = some r := by
  cases x with
  | none => cases h
  | some y => exact ⟨y, rfl, h⟩
theorem gd_ok {b : Bool} {x : Option R} (h : gd b x = some r) : b = true ∧ x = some r := by
  cases b with
  | true => exact ⟨rfl, h⟩
  | false => cases h
theorem bc_ok {b : Bool} {x y : Option R} (h : bc b x y = some r) : (b = true ∧ x = some r) ∨ (b = false ∧ y = some r) := by
  cases b with
  | true => exact .inl ⟨rfl, h⟩
  | false => exact .inr ⟨rfl, h⟩

/-! ### what lives hands on what it is given -/
theorem onLoc_obind (sh : Sh) (v : V) (F : Bool → V → Option α) (K : α → Option R) : obind (onLoc sh v F) K = onLoc sh v fun d u => obind (F d u) K := by
  cases v <;> try rfl
  simp only [onLoc]; split <;> rfl
theorem onRowV_obind (sh : Sh) (v : V) (F : Nat → Nat → Nat → Option α) (K : α → Option R) : obind (onRowV sh v F) K = onRowV sh v fun a b c => obind (F a b c) K := by
  cases v <;> try rfl
  simp only [onRowV]; split <;> rfl
theorem onRef_obind (v : V) (F : Nat → Option α) (K : α → Option R) : obind (onRef v F) K = onRef v fun a => obind (F a) K := by
  cases v <;> try rfl
  rename_i q i
  cases i <;> rfl
theorem onRoom_obind (sh : Sh) (v : V) (F : List V → Option α) (K : α → Option R) : obind (onRoom sh v F) K = onRoom sh v fun a => obind (F a) K := by
  cases v <;> try rfl
  rename_i m _ _
  cases m <;> try rfl
  · simp only [onRoom]; split <;> rfl
  · simp only [onRoom]; split <;> rfl
theorem coerceCell_obind (c : CT) (v : V) (F : V → Option α) (K : α → Option R) : obind (coerceCell c v F) K = coerceCell c v fun v => obind (F v) K := by
  cases c <;> simp only [coerceCell, onInt_obind, onIk_obind, onBool_obind, onStr_obind, onVec_obind, onFn_obind, onFull_obind, onNil_obind]

mutual
theorem coerceK_obind (k : Kd) (v : V) (F : V → Option α) (K : α → Option R) : obind (coerceK P k v F) K = coerceK P k v fun v => obind (F v) K := by
  match k with
  | .ty t => unfold coerceK; exact coerce1_obind ..
  | .ct c => unfold coerceK; exact coerceCell_obind ..
  | .loc t => unfold coerceK; rw [onLoc_obind]; congr 1; funext d u; exact coerce1_obind ..
  | .locA sh => unfold coerceK; rw [onLoc_obind]
  | .dloc sh ks => unfold coerceK; rw [onLoc_obind]; congr 1; funext d u; rw [onAgg_obind]; congr 1; funext cs; exact coerceKs_obind ..
  | .row sh => unfold coerceK; rw [onRowV_obind]
  | .grow sh => unfold coerceK; rw [gd_obind, onRoom_obind]
  | .full sh => unfold coerceK; rw [onFull_obind]
  | .ref => unfold coerceK; rw [onRef_obind]
  | .any => unfold coerceK; rfl
theorem coerceKs_obind (ks : List Kd) (vs : List V) (F : List V → Option α) (K : α → Option R) : obind (coerceKs P ks vs F) K = coerceKs P ks vs fun v => obind (F v) K := by
  match ks with
  | [] => unfold coerceKs; rw [onNil_obind]
  | k :: ks => unfold coerceKs; rw [onCons_obind]; congr 1; funext v us; rw [coerceK_obind]; congr 1; funext v; rw [coerceKs_obind]
end

theorem coerceKeep_obind : ∀ (l : List (Nat × Kd)) (ρ : Env) (F : List V → Option α) (K : α → Option R), obind (coerceKeep P l ρ F) K = coerceKeep P l ρ fun v => obind (F v) K
  | [], ρ, F, K => by unfold coerceKeep; rfl
  | (t, k) :: l, ρ, F, K => by unfold coerceKeep; rw [coerceK_obind]; congr 1; funext v; rw [coerceKeep_obind]

theorem coerceOuts_obind : ∀ (l : List (Nat × Kd)) (vs : List V) (F : Env → Option α) (K : α → Option R), obind (coerceOuts P l vs F) K = coerceOuts P l vs fun v => obind (F v) K
  | [], vs, F, K => by unfold coerceOuts; rw [onNil_obind]
  | (t, k) :: l, vs, F, K => by unfold coerceOuts; rw [onCons_obind]; congr 1; funext v us; rw [coerceK_obind]; congr 1; funext v; rw [coerceOuts_obind]

theorem coerceKeep_step (l : List (Nat × Kd)) (ρ : Env) (K : List V → Option R) : coerceKeep P l ρ K = obind (coerceKeep P l ρ some) K := by rw [coerceKeep_obind]; rfl
theorem coerceOuts_step (l : List (Nat × Kd)) (vs : List V) (K : Env → Option R) : coerceOuts P l vs K = obind (coerceOuts P l vs some) K := by rw [coerceOuts_obind]; rfl

/-- What comes out, comes out of what a chain of oracles comes to. -/
structure OLim (Os : Nat → Oracle) (O : Oracle) : Prop where
  call : ∀ f args st x, O.call f args st = some x → Evt fun m => (Os m).call f args st = some x
  loop : ∀ f key vals st x, O.loop f key vals st = some x → Evt fun m => (Os m).loop f key vals st = some x
  round : ∀ l f key vals args st x, O.round l f key vals args st = some x → Evt fun m => (Os m).round l f key vals args st = some x

section
variable {Os : Nat → Oracle} {O : Oracle} (hO : OLim Os O)
include hO

theorem pcall_lim {g : Nat} {args : List V} {v : V} (h : pcall O g args = some v) : Evt fun m => pcall (Os m) g args = some v := by
  unfold pcall at h
  obtain ⟨h1, h⟩ := gd_ok h
  obtain ⟨x, hx, h⟩ := obind_ok h
  refine (hO.call _ _ _ _ hx).mono fun m hm => ?_
  unfold pcall
  rw [h1, hm]
  exact h

theorem applyV_lim {fv : V} {args : List V} {st : St} {x : Out × St} (h : applyV cfg O fv args st = some x) : Evt fun m => applyV cfg (Os m) fv args st = some x := by
  unfold applyV at h
  split at h
  · rename_i g first cap
    rcases bc_ok h with ⟨hp, h⟩ | ⟨hp, h⟩
    · obtain ⟨v, hv, h⟩ := obind_ok h
      refine (pcall_lim hO hv).mono fun m hm => ?_
      unfold applyV
      simp only [hp, hm]
      exact h
    · refine (hO.call _ _ _ _ h).mono fun m hm => ?_
      unfold applyV
      simp only [hp, hm]
      rfl
  · rename_i l
    unfold getR at h
    split at h
    · rename_i y hy
      unfold onLoop at h
      dsimp only at h
      split at h
      · split at h
        · obtain ⟨z, hz, h⟩ := obind_ok h
          refine (hO.round _ _ _ _ _ _ _ hz).mono fun m hm => ?_
          unfold applyV getR onLoop
          simp only [hy, hm]
          exact h
        · cases h
      · cases h
    · cases h
  · cases h

/-- One operation, its two ways out. -/
def stepS (P : Program) (cfg : Cfg) (O : Oracle) (fid rid idx : Nat) (o : Oper) (ρ : Env) (st : St) : Option ((List (Nat × V) × St) ⊕ (V × St)) :=
  runOp P cfg O fid rid idx o ρ st (fun us st => some (.inl (us, st))) fun v st => some (.inr (v, st))
omit hO in
theorem runOp_stepS {rid idx : Nat} {o : Oper} {ρ : Env} {st : St} (F : List (Nat × V) → St → Option R) (G : V → St → Option R) :
    runOp P cfg O fid rid idx o ρ st F G = obind (stepS P cfg O fid rid idx o ρ st) fun | .inl x => F x.1 x.2 | .inr x => G x.1 x.2 := by
  unfold stepS
  rw [runOp_obind]
  rfl

theorem callOp_lim {rid idx : Nat} {o : Oper} {c : Call} {f : Operand} {ρ : Env} {st : St} {F : List (Nat × V) → St → Option R} {G : V → St → Option R} (h : callOp P cfg O fid rid idx o c f ρ st F G = some r) : Evt fun m => callOp P cfg (Os m) fid rid idx o c f ρ st F G = some r := by
  unfold callOp at h
  obtain ⟨h1, h⟩ := gd_ok h
  split at h
  · rename_i g
    rcases bc_ok h with ⟨he, h⟩ | ⟨he, h⟩
    · refine Evt.of fun m => ?_
      unfold callOp
      simp only [h1, he]
      exact h
    rcases bc_ok h with ⟨hp, h⟩ | ⟨hp, h⟩
    · obtain ⟨v, hv, h⟩ := obind_ok h
      refine (pcall_lim hO hv).mono fun m hm => ?_
      unfold callOp
      simp only [h1, he, hp, hm]
      exact h
    · obtain ⟨v, hv, h⟩ := obind_ok h
      refine (hO.call _ _ _ _ hv).mono fun m hm => ?_
      unfold callOp
      simp only [h1, he, hp, hm]
      exact h
  · rename_i hne
    rw [applyK_eq] at h
    obtain ⟨v, hv, h⟩ := obind_ok h
    refine (applyV_lim hO hv).mono fun m hm => ?_
    unfold callOp
    split
    · exact absurd rfl (hne _)
    · simp only [h1, applyK_eq, hm]
      exact h

theorem stepS_lim {rid idx : Nat} {o : Oper} {ρ : Env} {st : St} {y : (List (Nat × V) × St) ⊕ (V × St)} (h : stepS P cfg O fid rid idx o ρ st = some y) : Evt fun m => stepS P cfg (Os m) fid rid idx o ρ st = some y := by
  unfold stepS runOp at h ⊢
  split at h
  · exact .of fun m => h
  · exact callOp_lim hO h
  · exact .of fun m => h
  · exact .of fun m => h
  · exact .of fun m => h

theorem runOp_lim {rid idx : Nat} {o : Oper} {ρ : Env} {st : St} {F : List (Nat × V) → St → Option R} {G : V → St → Option R} {F' : Nat → List (Nat × V) → St → Option R} {G' : Nat → V → St → Option R}
    (hF : ∀ us st, F us st = some r → Evt fun m => F' m us st = some r) (hG : ∀ v st, G v st = some r → Evt fun m => G' m v st = some r) (h : runOp P cfg O fid rid idx o ρ st F G = some r) :
    Evt fun m => runOp P cfg (Os m) fid rid idx o ρ st (F' m) (G' m) = some r := by
  rw [runOp_stepS] at h
  obtain ⟨y, hy, h⟩ := obind_ok h
  cases y with
  | inl x => exact (stepS_lim hO hy).map2 (hF _ _ h) fun m h1 h2 => by rw [runOp_stepS, h1]; exact h2
  | inr x => exact (stepS_lim hO hy).map2 (hG _ _ h) fun m h1 h2 => by rw [runOp_stepS, h1]; exact h2

theorem execOne_lim {rid : Nat} {all : List Oper} {draw : Bool} {o : Oper} {i : Nat} {ρ : Env} {st : St} {C : List Nat → Env → List (Nat × V) → St → Option R} {D : List Nat → Env → Option R} {K : Ex → Env → St → Option R}
    {C' : Nat → List Nat → Env → List (Nat × V) → St → Option R} {D' : Nat → List Nat → Env → Option R} {K' : Nat → Ex → Env → St → Option R}
    (hC : ∀ g ρ us st, C g ρ us st = some r → Evt fun m => C' m g ρ us st = some r) (hD : ∀ g ρ, D g ρ = some r → Evt fun m => D' m g ρ = some r) (hK : ∀ e ρ st, K e ρ st = some r → Evt fun m => K' m e ρ st = some r)
    (h : execOne P cfg O fid rid all draw o i ρ st C D K = some r) : Evt fun m => execOne P cfg (Os m) fid rid all draw o i ρ st (C' m) (D' m) (K' m) = some r := by
  have run : ∀ (g : List Nat) (ρ : Env), gd (bif draw then freshDst ρ o.dst else okDst all ρ o.dst) (runOp P cfg O fid rid i o ρ st (C g ρ) (fun p st' => bc draw none (K (.panic p) ρ st'))) = some r →
      Evt fun m => gd (bif draw then freshDst ρ o.dst else okDst all ρ o.dst) (runOp P cfg (Os m) fid rid i o ρ st (C' m g ρ) (fun p st' => bc draw none (K' m (.panic p) ρ st'))) = some r := fun g ρ h => by
    obtain ⟨hg, h⟩ := gd_ok h
    refine (runOp_lim hO (F' := fun m => C' m g ρ) (G' := fun m p st' => bc draw none (K' m (.panic p) ρ st')) (fun us st' h => hC _ _ _ _ h) (fun v st' h => ?_) h).mono fun m hm => ?_
    · rcases bc_ok h with ⟨_, h⟩ | ⟨hd, h⟩
      · cases h
      · refine (hK _ _ _ h).mono fun m hm => ?_
        rw [hd]; exact hm
    · rw [hg]; exact hm
  have skip : ∀ (g : List Nat) (ρ : Env), gd (bif draw then freshDst ρ o.dst else okDst all ρ o.dst) (D g ρ) = some r → Evt fun m => gd (bif draw then freshDst ρ o.dst else okDst all ρ o.dst) (D' m g ρ) = some r := fun g ρ h => by
    obtain ⟨hg, h⟩ := gd_ok h
    refine (hD _ _ h).mono fun m hm => ?_
    rw [hg]; exact hm
  simp only [execOne] at h ⊢
  split at h
  · rename_i hgd
    exact run [] ρ h
  · rename_i g want hgd
    split at h
    · cases h
    · rename_i t ht
      split at h
      · rename_i b hv
        rcases bc_ok h with ⟨rfl, h1⟩ | ⟨rfl, h1⟩
        · rcases bc_ok h1 with ⟨rfl, h2⟩ | ⟨rfl, h2⟩
          · exact run _ _ h2
          · exact skip _ _ h2
        · rcases bc_ok h1 with ⟨rfl, h2⟩ | ⟨rfl, h2⟩
          · exact skip _ _ h2
          · exact run _ _ h2
      · exact skip _ _ h
      · cases h

theorem execOps_lim {rid : Nat} {all : List Oper} {draw : Bool} : ∀ (rest : List Oper) (i : Nat) (ρ : Env) (st : St) (fs : List Foot) (K : Ex → Env → St → Option R) (K' : Nat → Ex → Env → St → Option R), (∀ e ρ st, K e ρ st = some r → Evt fun m => K' m e ρ st = some r) →
    execOps P cfg O fid rid all draw rest i ρ st fs K = some r → Evt fun m => execOps P cfg (Os m) fid rid all draw rest i ρ st fs (K' m) = some r
  | [], i, ρ, st, fs, K, K', hK, h => by
    simp only [execOps] at h ⊢
    rcases bc_ok h with ⟨hd, h⟩ | ⟨hd, h⟩
    · obtain ⟨hg, h⟩ := gd_ok h
      refine (hK _ _ _ h).mono fun m hm => ?_
      rw [hd, hg]; exact hm
    · refine (hK _ _ _ h).mono fun m hm => ?_
      rw [hd]; exact hm
  | [o], i, ρ, st, fs, K, K', hK, h => by
    exact execOne_lim hO (C := fun g ρ us st' => execOps P cfg O fid rid all draw [] (i + 1) (ρ.apply us) st' (bif draw then footOf cfg fid rid i o g ρ (us.map (·.1)) :: fs else fs) K)
      (D := fun g ρ => execOps P cfg O fid rid all draw [] (i + 1) (ρ.put o.dst (.tup [])) st (bif draw then { idx := i, reads := g, writes := o.dst.toList, sk := .none } :: fs else fs) K)
      (C' := fun m g ρ us st' => execOps P cfg (Os m) fid rid all draw [] (i + 1) (ρ.apply us) st' (bif draw then footOf cfg fid rid i o g ρ (us.map (·.1)) :: fs else fs) (K' m))
      (D' := fun m g ρ => execOps P cfg (Os m) fid rid all draw [] (i + 1) (ρ.put o.dst (.tup [])) st (bif draw then { idx := i, reads := g, writes := o.dst.toList, sk := .none } :: fs else fs) (K' m))
      (fun g ρ us st h => execOps_lim [] _ _ _ _ K K' hK h) (fun g ρ h => execOps_lim [] _ _ _ _ K K' hK h) hK h
  | o :: o2 :: rest, i, ρ, st, fs, K, K', hK, h => by
    exact execOne_lim hO (C := fun g ρ us st' =>
        bc (!draw && litConv P o o2)
          (gd (okDst all (ρ.apply us) o2.dst) (execOps P cfg O fid rid all draw rest (i + 2) ((ρ.apply us).put o2.dst ((ρ.apply us).get (o.dst.getD 0))) st' fs K))
          (execOps P cfg O fid rid all draw (o2 :: rest) (i + 1) (ρ.apply us) st' (bif draw then footOf cfg fid rid i o g ρ (us.map (·.1)) :: fs else fs) K))
      (D := fun g ρ => execOps P cfg O fid rid all draw (o2 :: rest) (i + 1) (ρ.put o.dst (.tup [])) st (bif draw then { idx := i, reads := g, writes := o.dst.toList, sk := .none } :: fs else fs) K)
      (C' := fun m g ρ us st' =>
        bc (!draw && litConv P o o2)
          (gd (okDst all (ρ.apply us) o2.dst) (execOps P cfg (Os m) fid rid all draw rest (i + 2) ((ρ.apply us).put o2.dst ((ρ.apply us).get (o.dst.getD 0))) st' fs (K' m)))
          (execOps P cfg (Os m) fid rid all draw (o2 :: rest) (i + 1) (ρ.apply us) st' (bif draw then footOf cfg fid rid i o g ρ (us.map (·.1)) :: fs else fs) (K' m)))
      (D' := fun m g ρ => execOps P cfg (Os m) fid rid all draw (o2 :: rest) (i + 1) (ρ.put o.dst (.tup [])) st (bif draw then { idx := i, reads := g, writes := o.dst.toList, sk := .none } :: fs else fs) (K' m))
      (fun g ρ us st h => by
        rcases bc_ok h with ⟨hl, h⟩ | ⟨hl, h⟩
        · obtain ⟨hg, h⟩ := gd_ok h
          refine (execOps_lim rest _ _ _ _ K K' hK h).mono fun m hm => ?_
          rw [hl, hg]; exact hm
        · refine (execOps_lim (o2 :: rest) _ _ _ _ K K' hK h).mono fun m hm => ?_
          rw [hl]; exact hm)
      (fun g ρ h => execOps_lim (o2 :: rest) _ _ _ _ K K' hK h) hK h

omit hO in
theorem behind_lim {f key : Nat} {nrm rt : Bool} {ids : List Nat} {x : Ex × List V × St} {K : Ex → Env → St → Option R} {K' : Nat → Ex → Env → St → Option R} (hK : ∀ e ρ st, K e ρ st = some r → Evt fun m => K' m e ρ st = some r)
    (h : behind P cfg f key nrm rt ids x K = some r) : Evt fun m => behind P cfg f key nrm rt ids x (K' m) = some r := by
  have outs : ∀ (l : List (Nat × Kd)) (vs : List V) (e : Ex) (st : St), coerceOuts P l vs (fun ρ => K e ρ st) = some r → Evt fun m => coerceOuts P l vs (fun ρ => K' m e ρ st) = some r := fun l vs e st h => by
    rw [coerceOuts_step] at h
    obtain ⟨ρ, hρ, h⟩ := obind_ok h
    exact (hK _ _ _ h).mono fun m hm => by rw [coerceOuts_step, hρ]; exact hm
  obtain ⟨e, vs, st⟩ := x
  unfold behind onEx at h ⊢
  cases e with
  | normal =>
    rcases bc_ok h with ⟨hd, h⟩ | ⟨hd, h⟩
    · exact (outs _ _ _ _ h).mono fun m hm => by simp only [hd]; exact hm
    · cases h
  | ret =>
    rcases bc_ok h with ⟨hd, h⟩ | ⟨hd, h⟩
    · exact (outs _ _ _ _ h).mono fun m hm => by simp only [hd]; exact hm
    · cases h
  | exit i =>
    have : ∀ ids : List Nat, pickExit i (fun j => coerceOuts P (cfg.outs f key) vs fun ρ => K (.exit j) ρ st) ids = some r → Evt fun m => pickExit i (fun j => coerceOuts P (cfg.outs f key) vs fun ρ => K' m (.exit j) ρ st) ids = some r := by
      intro ids
      induction ids with
      | nil => intro h; cases h
      | cons j js ih =>
        intro h
        unfold pickExit at h ⊢
        rcases bc_ok h with ⟨hd, h⟩ | ⟨hd, h⟩
        · exact (outs _ _ _ _ h).mono fun m hm => by simp only [hd]; exact hm
        · exact (ih h).mono fun m hm => by simp only [hd]; exact hm
    exact this _ h
  | goto l => cases h
  | panic v =>
    rcases bc_ok h with ⟨hd, h⟩ | ⟨hd, h⟩
    · exact (hK _ _ _ h).mono fun m hm => by simp only [hd]; exact hm
    · cases h

theorem exec_lim : ∀ (c : Code) (ρ : Env) (st : St) (K : Ex → Env → St → Option R) (K' : Nat → Ex → Env → St → Option R), (∀ e ρ st, K e ρ st = some r → Evt fun m => K' m e ρ st = some r) →
    exec P cfg O fid c ρ st K = some r → Evt fun m => exec P cfg (Os m) fid c ρ st (K' m) = some r := by
  intro c
  induction c with
  | skip => intro ρ st K K' hK h; exact hK _ _ _ h
  | label l => intro ρ st K K' hK h; exact hK _ _ _ h
  | exit i => intro ρ st K K' hK h; exact hK _ _ _ h
  | goto l => intro ρ st K K' hK h; exact hK _ _ _ h
  | ret => intro ρ st K K' hK h; exact hK _ _ _ h
  | refuse s => intro ρ st K K' hK h; cases h
  | region id ops draw => intro ρ st K K' hK h; exact execOps_lim hO _ _ _ _ _ _ _ hK h
  | seq a b iha ihb =>
    intro ρ st K K' hK h
    simp only [exec] at h ⊢
    refine iha _ _ _ _ (fun e ρ st h => ?_) h
    cases e with
    | normal => exact ihb _ _ _ _ hK h
    | _ => exact hK _ _ _ h
  | cond c a b iha ihb =>
    intro ρ st K K' hK h
    simp only [exec] at h ⊢
    split at h
    · split at h
      · rcases bc_ok h with ⟨rfl, h⟩ | ⟨rfl, h⟩
        · exact iha _ _ _ _ hK h
        · exact ihb _ _ _ _ hK h
      · cases h
    · rcases bc_ok h with ⟨rfl, h⟩ | ⟨rfl, h⟩
      · exact iha _ _ _ _ hK h
      · exact ihb _ _ _ _ hK h
    · cases h
  | block id b ih =>
    intro ρ st K K' hK h
    simp only [exec] at h ⊢
    refine ih _ _ _ _ (fun e ρ st h => ?_) h
    cases e with
    | exit i =>
      rcases bc_ok h with ⟨hd, h⟩ | ⟨hd, h⟩
      · exact (hK _ _ _ h).mono fun m hm => by simp only [hd]; exact hm
      · exact (hK _ _ _ h).mono fun m hm => by simp only [hd]; exact hm
    | _ => exact hK _ _ _ h
  | loop b ih =>
    intro ρ st K K' hK h
    simp only [exec] at h ⊢
    rw [coerceKeep_step] at h
    obtain ⟨vals, hv, h⟩ := obind_ok h
    obtain ⟨x, hx, h⟩ := obind_ok h
    refine (hO.loop _ _ _ _ _ hx).map2 (behind_lim hK h) fun m h1 h2 => ?_
    rw [coerceKeep_step, hv]
    show obind ((Os m).loop _ _ _ _) _ = _
    rw [h1]; exact h2
  | scope b ih =>
    intro ρ st K K' hK h
    simp only [exec] at h ⊢
    refine ih _ _ _ _ (fun e ρ st h => ?_) h
    cases e with
    | goto l =>
      simp only at h ⊢
      split at h
      · rcases bc_ok h with ⟨hn, h⟩ | ⟨_, h⟩
        · rw [coerceKeep_step] at h
          obtain ⟨vals, hv, h⟩ := obind_ok h
          obtain ⟨x, hx, h⟩ := obind_ok h
          refine (hO.loop _ _ _ _ _ hx).map2 (behind_lim hK h) fun m h1 h2 => ?_
          simp only [hn]
          show coerceKeep _ _ _ _ = _
          rw [coerceKeep_step, hv]
          show obind ((Os m).loop _ _ _ _) _ = _
          rw [h1]; exact h2
        · cases h
      · exact hK _ _ _ h
    | _ => exact hK _ _ _ h
  | rangeFunc f ps a b iha ihb =>
    intro ρ st K K' hK h
    simp only [exec] at h ⊢
    unfold onFn at h ⊢
    split at h
    · obtain ⟨⟨out, st2⟩, hx, h⟩ := obind_ok h
      cases out with
      | panic v => cases h
      | ret v =>
        unfold onRet getR onLoop at h
        simp only at h
        split at h
        · rename_i y hy
          split at h
          · rename_i s p
            have : Evt fun m => onPend s p (K' m .normal (ρ.apply (upds ρ false (f :: ((cfg.keep fid (keyOf b)).map (·.1)).map Operand.tmp))) (st2.set st.length .dead)) (bc (hasRet b) (K' m .ret (ρ.apply (upds ρ false (f :: ((cfg.keep fid (keyOf b)).map (·.1)).map Operand.tmp))) (st2.set st.length .dead)) none)
                (fun i => pickExit i (fun j => K' m (.exit j) (ρ.apply (upds ρ false (f :: ((cfg.keep fid (keyOf b)).map (·.1)).map Operand.tmp))) (st2.set st.length .dead)) (exitsOf b)) = some r := by
              unfold onPend at h ⊢
              split at h
              · exact hK _ _ _ h
              · rcases bc_ok h with ⟨hd, h⟩ | ⟨_, h⟩
                · exact (hK _ _ _ h).mono fun m hm => by simp only [hd]; exact hm
                · cases h
              · rename_i i
                have : ∀ ids : List Nat, pickExit i (fun j => K (.exit j) (ρ.apply (upds ρ false (f :: ((cfg.keep fid (keyOf b)).map (·.1)).map Operand.tmp))) (st2.set st.length .dead)) ids = some r → Evt fun m => pickExit i (fun j => K' m (.exit j) (ρ.apply (upds ρ false (f :: ((cfg.keep fid (keyOf b)).map (·.1)).map Operand.tmp))) (st2.set st.length .dead)) ids = some r := by
                  intro ids
                  induction ids with
                  | nil => intro h; cases h
                  | cons j js ih =>
                    intro h
                    unfold pickExit at h ⊢
                    rcases bc_ok h with ⟨hd, h⟩ | ⟨hd, h⟩
                    · exact (hK _ _ _ h).mono fun m hm => by simp only [hd]; exact hm
                    · exact (ih h).mono fun m hm => by simp only [hd]; exact hm
                exact this _ h
              · cases h
            refine (hO.call _ _ _ _ hx).map2 this fun m h1 h2 => ?_
            dsimp only
            rw [h1]
            unfold obind onRet getR onLoop
            simp only [hy]
            exact h2
          · cases h
        · cases h
    · cases h
end
end
end Go.AM

namespace Go.AM
open Go

section
variable {P : Program} {cfg : Cfg} {ext : Ext} {fid : Nat} {R : Type} {r : R} {α : Type} {Os : Nat → Oracle} {O : Oracle}

theorem callBody_lim (hO : OLim Os O) {f : Nat} {args : List V} {st : St} {x : Out × St} (h : callBody P cfg O f args st = some x) : Evt fun m => callBody P cfg (Os m) f args st = some x := by
  unfold callBody at h ⊢
  split at h
  · cases h
  · rename_i fn hf
    split at h
    · cases h
    · rename_i c hb
      obtain ⟨hg, h⟩ := gd_ok h
      refine (exec_lim hO c _ _ _ (fun _ e ρ st' => match e with
        | .normal | .ret => gd (decide (fn.results.size ≤ fn.resultTypes.size)) <| resultsK P (cfg.room f) st.length ρ st' (fn.results.toList.zip fn.resultTypes.toList) fun vs st' => gc (cfg.pure f) st.length (.ret (match vs with | [v] => v | vs => .tup vs)) st'
        | .panic v => gc (cfg.pure f) st.length (.panic v) st'
        | _ => none) (fun e ρ st h => .of fun _ => h) h).mono fun m hm => ?_
      simp only [hf, hb, hg]
      exact hm

theorem loopBody_lim (hO : OLim Os O) {f key : Nat} {vals : List V} {st : St} {x : Ex × List V × St} (h : loopBody P cfg O f key vals st = some x) : Evt fun m => loopBody P cfg (Os m) f key vals st = some x := by
  have keep : ∀ (ρ : Env) (st : St), (coerceKeep P (cfg.keep f key) ρ fun vals => O.loop f key vals st) = some x → Evt fun m => (coerceKeep P (cfg.keep f key) ρ fun vals => (Os m).loop f key vals st) = some x := fun ρ st h => by
    rw [coerceKeep_step] at h
    obtain ⟨vals, hv, h⟩ := obind_ok h
    exact (hO.loop _ _ _ _ _ h).mono fun m hm => by rw [coerceKeep_step, hv]; exact hm
  unfold loopBody at h ⊢
  split at h
  · cases h
  · rename_i fn hf
    split at h
    · cases h
    · rename_i c hb
      split at h
      · rename_i hk
        split at h
        · cases h
        · rename_i b hb2
          refine (exec_lim hO b _ _ _ (fun m e ρ st => match e with
            | .normal => coerceKeep P (cfg.keep f key) ρ fun vals => (Os m).loop f key vals st
            | .ret => some (.ret, (cfg.rets f key).map (fun x => ρ.get x.1), st)
            | e => some (e, (cfg.outs f key).map (fun x => ρ.get x.1), st)) (fun e ρ st h => ?_) h).mono fun m hm => ?_
          · cases e with
            | normal => exact keep _ _ h
            | _ => exact .of fun _ => h
          · simp only [hf, hb, if_pos hk, hb2]
            exact hm
      · rename_i hk
        split at h
        · cases h
        · rename_i b hb2
          split at h
          · cases h
          · rename_i rest hr
            refine (exec_lim hO rest _ _ _ (fun m e ρ st => match e with
              | .goto l => if l = key - labelKey then coerceKeep P (cfg.keep f key) ρ fun vals => (Os m).loop f key vals st else none
              | .ret => some (.ret, (cfg.rets f key).map (fun x => ρ.get x.1), st)
              | e => some (e, (cfg.outs f key).map (fun x => ρ.get x.1), st)) (fun e ρ st h => ?_) h).mono fun m hm => ?_
            · cases e with
              | goto l =>
                simp only at h ⊢
                split at h
                · rename_i hl
                  simp only [if_pos hl]
                  exact keep _ _ h
                · cases h
              | _ => exact .of fun _ => h
            · simp only [hf, hb, if_neg hk, hb2, hr]
              exact hm

theorem roundBody_lim (hO : OLim Os O) {l f key : Nat} {vals args : List V} {st : St} {x : Bool × St} (h : roundBody P cfg O l f key vals args st = some x) : Evt fun m => roundBody P cfg (Os m) l f key vals args st = some x := by
  unfold roundBody at h ⊢
  split at h
  · cases h
  · rename_i fn hf
    split at h
    · cases h
    · rename_i c hb
      split at h
      · cases h
      · rename_i ps a b hr
        obtain ⟨hg, h⟩ := gd_ok h
        refine (exec_lim hO a _ _ _ (fun m e ρ st => match e with
          | .normal =>
            getR st l fun y => onLoop y fun f1 k1 v1 s1 p1 =>
            match s1, p1 with
            | .ready, none =>
              exec P cfg (Os m) f b ρ (st.set l (.loop f1 k1 v1 .busy none)) fun e _ st' =>
                getR st' l fun x => onLoop x fun f2 k2 v2 s _ =>
                  onBusy s (match e with
                  | .normal => some (true, st'.set l (.loop f2 k2 v2 .ready none))
                  | .ret => some (false, st'.set l (.loop f2 k2 v2 .done (some .ret)))
                  | .exit id => some (false, st'.set l (.loop f2 k2 v2 .done (some (.exit id))))
                  | _ => none)
            | _, _ => none
          | _ => none) (fun e ρ st h => ?_) h).mono fun m hm => ?_
        · cases e with
          | normal =>
            simp only at h ⊢
            unfold getR at h ⊢
            split at h
            · rename_i y hy
              unfold onLoop at h ⊢
              cases y with
              | loop f1 k1 v1 s1 p1 =>
                simp only at h ⊢
                try simp only [hy]
                cases s1 <;> cases p1 <;> first | cases h | skip
                exact exec_lim hO b _ _ _ _ (fun e ρ st h => .of fun _ => h) h
              | _ => cases h
            · cases h
          | _ => cases h
        · simp only [hf, hb, hr, hg]
          exact hm

/-- What is done by a proof of its own leans on finitely many words. -/
def ExtLim (ext : Ext) : Prop := ∀ f x, ext f = some x → ∀ (Os : Nat → Oracle) (O : Oracle), OLim Os O → ∀ args st y, x O args st = some y → Evt fun m => x (Os m) args st = some y

theorem step_lim (hE : ExtLim ext) (hO : OLim Os O) : OLim (fun m => stepO P cfg ext (Os m)) (stepO P cfg ext O) := by
  refine ⟨fun f args st x h => ?_, fun f key vals st x h => loopBody_lim hO h, fun l f key vals args st x h => roundBody_lim hO h⟩
  simp only [stepO] at h ⊢
  split at h
  · rename_i y hy
    exact (hE f y hy Os O hO _ _ _ h).mono fun m hm => by (try simp only [hy]); exact hm
  · rename_i hy
    exact (callBody_lim hO h).mono fun m hm => by (try simp only [hy]); exact hm

theorem OLim.trans {O' O2 : Oracle} (h : OLim (fun _ => O') O) (k : OLim (fun _ => O2) O') : OLim (fun _ => O2) O :=
  ⟨fun f args st x e => let ⟨n, h⟩ := h.call f args st x e; k.call _ _ _ _ (h n (Nat.le_refl _)), fun f key vals st x e => let ⟨n, h⟩ := h.loop f key vals st x e; k.loop _ _ _ _ _ (h n (Nat.le_refl _)),
    fun l f key vals args st x e => let ⟨n, h⟩ := h.round l f key vals args st x e; k.round _ _ _ _ _ _ _ (h n (Nat.le_refl _))⟩

theorem fuel_succ (hE : ExtLim ext) : ∀ k, OLim (fun _ => fuelO P cfg ext (k + 1)) (fuelO P cfg ext k)
  | 0 => ⟨fun _ _ _ _ h => (by cases h), fun _ _ _ _ _ h => (by cases h), fun _ _ _ _ _ _ _ h => (by cases h)⟩
  | k + 1 => step_lim hE (fuel_succ hE k)

theorem fuel_le (hE : ExtLim ext) (k : Nat) : ∀ d, OLim (fun _ => fuelO P cfg ext (k + d)) (fuelO P cfg ext k)
  | 0 => ⟨fun _ _ _ _ h => .of fun _ => h, fun _ _ _ _ _ h => .of fun _ => h, fun _ _ _ _ _ _ _ h => .of fun _ => h⟩
  | d + 1 => (fuel_le hE k d).trans (fuel_succ hE (k + d))

/-- All the fuel. -/
noncomputable def limS (s : Nat → Option α) : Option α := by
  classical
  exact if h : ∃ x, Evt fun m => s m = some x then some h.choose else none

theorem limS_some {s : Nat → Option α} {x : α} : limS s = some x ↔ Evt fun m => s m = some x := by
  classical
  unfold limS
  constructor
  · intro h
    split at h
    · rename_i hx
      cases h
      exact hx.choose_spec
    · cases h
  · intro h
    rw [dif_pos ⟨x, h⟩]
    obtain ⟨n, hn⟩ := h
    obtain ⟨n', hn'⟩ := (⟨x, n, hn⟩ : ∃ x, Evt fun m => s m = some x).choose_spec
    have h1 := hn (max n n') (by omega)
    have h2 := hn' (max n n') (by omega)
    exact h2.symm.trans h1

noncomputable def Om (P : Program) (cfg : Cfg) (ext : Ext) : Oracle where
  call f args st := limS fun m => (fuelO P cfg ext m).call f args st
  loop f key vals st := limS fun m => (fuelO P cfg ext m).loop f key vals st
  round l f key vals args st := limS fun m => (fuelO P cfg ext m).round l f key vals args st

theorem om_lim : OLim (fun m => fuelO P cfg ext m) (Om P cfg ext) :=
  ⟨fun _ _ _ _ h => limS_some.1 h, fun _ _ _ _ _ h => limS_some.1 h, fun _ _ _ _ _ _ _ h => limS_some.1 h⟩

theorem fuel_om (hE : ExtLim ext) (k : Nat) : OLim (fun _ => Om P cfg ext) (fuelO P cfg ext k) := by
  have key : ∀ {β : Type} {s : Nat → Option β} {x : β}, (∀ d, Evt fun _ => s (k + d) = some x) → limS s = some x := fun {β s x} h => limS_some.2 ⟨k, fun m hm => by
    obtain ⟨n, h⟩ := h (m - k)
    have := h n (Nat.le_refl _)
    rwa [show k + (m - k) = m by omega] at this⟩
  exact ⟨fun f args st x h => .of fun _ => key fun d => (fuel_le hE k d).call f args st x h, fun f key' vals st x h => .of fun _ => key fun d => (fuel_le hE k d).loop f key' vals st x h,
    fun l f key' vals args st x h => .of fun _ => key fun d => (fuel_le hE k d).round l f key' vals args st x h⟩

theorem evt_succ {p : Nat → Prop} (h : Evt fun m => p (m + 1)) : Evt p := by
  obtain ⟨n, h⟩ := h
  exact ⟨n + 1, fun m hm => by obtain ⟨k, rfl⟩ : ∃ k, m = k + 1 := ⟨m - 1, by omega⟩; exact h k (by omega)⟩
theorem evt_ex {p : Nat → Prop} (h : Evt p) : ∃ k, p (k + 1) := by
  obtain ⟨n, h⟩ := h
  exact ⟨n, h (n + 1) (by omega)⟩
theorem evt_const {p : Prop} (h : Evt fun _ => p) : p := by
  obtain ⟨n, h⟩ := h
  exact h n (Nat.le_refl _)
theorem opt_ext {x y : Option α} (h1 : ∀ z, x = some z → y = some z) (h2 : ∀ z, y = some z → x = some z) : x = y := by
  cases x with
  | none =>
    cases y with
    | none => rfl
    | some z => have := h2 z rfl; cases this
  | some z => exact (h1 z rfl).symm

/-- It keeps its word. -/
theorem om_call (hE : ExtLim ext) (f : Nat) (args : List V) (st : St) : (Om P cfg ext).call f args st = (stepO P cfg ext (Om P cfg ext)).call f args st :=
  opt_ext (fun z h => by
    obtain ⟨k, hk⟩ := evt_ex (limS_some.1 h)
    exact evt_const ((step_lim (P := P) (cfg := cfg) hE (fuel_om hE k)).call f args st z hk))
    fun z h => limS_some.2 (evt_succ ((step_lim hE om_lim).call f args st z h))
theorem om_loop (hE : ExtLim ext) (f key : Nat) (vals : List V) (st : St) : (Om P cfg ext).loop f key vals st = loopBody P cfg (Om P cfg ext) f key vals st :=
  opt_ext (fun z h => by
    obtain ⟨k, hk⟩ := evt_ex (limS_some.1 h)
    exact evt_const ((step_lim (P := P) (cfg := cfg) hE (fuel_om hE k)).loop f key vals st z hk))
    fun z h => limS_some.2 (evt_succ ((step_lim (P := P) (cfg := cfg) hE om_lim).loop f key vals st z h))
theorem om_round (hE : ExtLim ext) (l f key : Nat) (vals args : List V) (st : St) : (Om P cfg ext).round l f key vals args st = roundBody P cfg (Om P cfg ext) l f key vals args st :=
  opt_ext (fun z h => by
    obtain ⟨k, hk⟩ := evt_ex (limS_some.1 h)
    exact evt_const ((step_lim (P := P) (cfg := cfg) hE (fuel_om hE k)).round l f key vals args st z hk))
    fun z h => limS_some.2 (evt_succ ((step_lim (P := P) (cfg := cfg) hE om_lim).round l f key vals args st z h))
theorem om_fuel {f : Nat} {args : List V} {st : St} {x : Out × St} (h : (Om P cfg ext).call f args st = some x) : ∃ m, (fuelO P cfg ext m).call f args st = some x := by
  obtain ⟨n, h⟩ := limS_some.1 h
  exact ⟨n, h n (Nat.le_refl _)⟩
end
end Go.AM

/-! What a law is handed: tree values of its parameters' types. -/
namespace Go.AM
open Go Go.RowKit

/-! ### how much there is -/
mutual
def bulkV : V → Nat
  | .str s => s.size + 1
  | .vec _ _ es => bulkL es + 1
  | .agg cs => bulkL cs + 1
  | _ => 1
def bulkL : List V → Nat
  | [] => 0
  | v :: vs => bulkV v + bulkL vs
end
mutual
def bulkD {H : Type} : DataW H → Nat
  | .lit (.string bytes) => bytes.length + 1
  | .lit _ => 1
  | .nil => 1
  | .ptr d => bulkD d + 1
  | .slice elems spare => bulkDs elems + bulkDs spare + 1
  | .agg parts => bulkDs parts + 1
  | .iface _ d => bulkD d + 1
  | .map _ => 1
  | .held _ => 1
def bulkDs {H : Type} : List (DataW H) → Nat
  | [] => 0
  | d :: r => bulkD d + bulkDs r
end
theorem bulkL_append (a b : List V) : bulkL (a ++ b) = bulkL a + bulkL b := by
  induction a with
  | nil => simp [bulkL]
  | cons x a ih => simp only [List.cons_append, bulkL, ih]; omega

theorem bulkDs_append {H : Type} (a b : List (DataW H)) : bulkDs (a ++ b) = bulkDs a + bulkDs b := by
  induction a with
  | nil => simp [bulkDs]
  | cons x a ih => simp only [List.cons_append, bulkDs, ih]; omega

/-- Types that are known: whole numbers, bools, strings, slices and structs of such. -/
def knownB (P : Program) (S : List TypeId) : Bool :=
  S.all fun t => decide (t < P.types.size) && match P.underlying t with
    | some .bool => true
    | some (.int _) => true
    | some .string => true
    | some (.slice e) => S.contains e && decide (0 < P.cellsOf e)
    | some (.struct fs) => fs.toList.all fun f => S.contains f.type
    | _ => false

/-- Cells of a type. -/
def WT (P : Program) : Nat → TypeId → List V → Prop
  | 0, _, _ => False
  | n + 1, t, cs =>
    match P.underlying t with
    | some (.int .i64) => ∃ z, cs = [.int z] ∧ (Lit.int .i64 z).wf = true
    | some (.int k) => ∃ z, cs = [.ik k z] ∧ (Lit.int k z).wf = true
    | some .bool => ∃ b, cs = [.bool b]
    | some .string => ∃ s : ByteArray, cs = [.str s] ∧ s.size ≤ maxLen
    | some (.slice e) => ∃ es, cs = [.vec .plain (shOf P e) es] ∧ es.length ≤ maxLen ∧ ∀ v ∈ es, Shaped (shOf P e) v ∧ WT P n e (AM.cellsOf v)
    | some (.struct fs) => cs.length = P.cellsOf t ∧ ∀ f ∈ fs.toList, WT P n f.type ((cs.drop f.offset).take (P.cellsOf f.type))
    | _ => False

section
variable {H : Type} {enc : TypeId × Value → H} {P : Program} {w : World} {sp : Nat → Bool} {held : Bool}

/-- What lies below the heap's end. -/
abbrev prW (w : World) : Nat → Nat → Prop := fun b _ => b < w.heap.size

/-- Cells and what they stand for. -/
def CellsRep (w : World) (vs : List V) (cs : List Value) : Prop :=
  vs.length = cs.length ∧ ∀ i, i < cs.length → (cs.getD i undef).oneCell' = true ∧ VRep w (prW w) [] (vs.getD i .undef) (cs.getD i undef)

theorem cellsRep_one {v : V} {c : Value} (h1 : c.oneCell' = true) (h : VRep w (prW w) [] v c) : CellsRep w [v] [c] := by
  refine ⟨rfl, fun i hi => ?_⟩
  have : i = 0 := by simpa using hi
  subst this
  exact ⟨h1, h⟩

theorem cellsRep_append {vs vs' : List V} {cs cs' : List Value} (h : CellsRep w vs cs) (h' : CellsRep w vs' cs') : CellsRep w (vs ++ vs') (cs ++ cs') := by
  refine ⟨by simp [h.1, h'.1], fun i hi => ?_⟩
  rcases Nat.lt_or_ge i cs.length with hlt | hge
  · have e1 : (cs ++ cs').getD i undef = cs.getD i undef := by rw [List.getD_eq_getElem?_getD, List.getElem?_append_left hlt, ← List.getD_eq_getElem?_getD]
    have e2 : (vs ++ vs').getD i .undef = vs.getD i .undef := by rw [List.getD_eq_getElem?_getD, List.getElem?_append_left (by rw [h.1]; exact hlt), ← List.getD_eq_getElem?_getD]
    rw [e1, e2]; exact h.2 i hlt
  · have e1 : (cs ++ cs').getD i undef = cs'.getD (i - cs.length) undef := by rw [List.getD_eq_getElem?_getD, List.getElem?_append_right hge, ← List.getD_eq_getElem?_getD]
    have e2 : (vs ++ vs').getD i .undef = vs'.getD (i - cs.length) .undef := by rw [List.getD_eq_getElem?_getD, List.getElem?_append_right (by rw [h.1]; exact hge), h.1, ← List.getD_eq_getElem?_getD]
    rw [e1, e2]; exact h'.2 _ (by simp at hi; omega)

theorem known_spec {S : List TypeId} (hS : knownB P S = true) {t : TypeId} (ht : t ∈ S) : t < P.types.size ∧ (P.underlying t = some .bool ∨ (∃ k, P.underlying t = some (.int k)) ∨ P.underlying t = some .string ∨
    (∃ e, P.underlying t = some (.slice e) ∧ e ∈ S ∧ 0 < P.cellsOf e) ∨ ∃ fs, P.underlying t = some (.struct fs) ∧ ∀ f ∈ fs.toList, f.type ∈ S) := by
  have := List.all_eq_true.1 hS t ht
  simp only [Bool.and_eq_true, decide_eq_true_eq] at this
  refine ⟨this.1, ?_⟩
  have h2 := this.2
  split at h2
  · rename_i h; exact .inl h
  · rename_i h; exact .inr (.inl ⟨_, h⟩)
  · rename_i h; exact .inr (.inr (.inl h))
  · rename_i e h
    simp only [Bool.and_eq_true, decide_eq_true_eq, List.contains_iff_mem] at h2
    exact .inr (.inr (.inr (.inl ⟨e, h, h2.1, h2.2⟩)))
  · rename_i fs h
    simp only [List.all_eq_true, List.contains_iff_mem] at h2
    exact .inr (.inr (.inr (.inr ⟨fs, h, h2⟩)))
  · cases h2

theorem notAgg_cells {v : V} (h : ∀ c, v ≠ .agg c) : AM.cellsOf v = [v] := by
  cases v <;> first | rfl | exact absurd rfl (h _)

theorem sum_take_le {α : Type} (f : α → Nat) : ∀ (l : List α) (j : Nat) (x : α), l[j]? = some x → ((l.take j).map f).sum + f x ≤ (l.map f).sum
  | [], j, x, h => by simp at h
  | y :: l, 0, x, h => by simp at h; subst h; simp
  | y :: l, j + 1, x, h => by
    have := sum_take_le f l j x (by simpa using h)
    simp only [List.take_succ_cons, List.map_cons, List.sum_cons]
    omega

/-- One more for a struct. -/
def isStr (P : Program) (t : TypeId) : Nat := match P.underlying t with | some (.struct _) => 1 | _ => 0

theorem fields_rep {n : Nat} {S' : List TypeId} (ih : ∀ t cs (x : DataW H × List MemPlace), DataW.trod enc P w 0 sp held n t cs = some x → t ∈ S' → ∃ vs, WT P n t vs ∧ cs.length = P.cellsOf t ∧ CellsRep w vs cs ∧ (∀ v ∈ vs, ∀ c, v ≠ .agg c) ∧ bulkL vs + isStr P t ≤ bulkD x.1) (cs : List Value) :
    ∀ (fs : List Field) (off : Nat) (xs : List (DataW H × List MemPlace)), (∀ (j : Nat) f, fs[j]? = some f → f.offset = off + ((fs.take j).map fun f => P.cellsOf f.type).sum) → (∀ f ∈ fs, f.type ∈ S') → xs.length = fs.length →
      (∀ (i : Nat) (f : Field), fs[i]? = some f → DataW.trod enc P w 0 sp held n f.type ((cs.drop f.offset).take (P.cellsOf f.type)) = xs[i]?) → cs.length = off + (fs.map fun f => P.cellsOf f.type).sum →
      ∃ vs, (∀ f ∈ fs, WT P n f.type ((vs.drop (f.offset - off)).take (P.cellsOf f.type))) ∧ CellsRep w vs (cs.drop off) ∧ (∀ v ∈ vs, ∀ c, v ≠ .agg c) ∧ bulkL vs ≤ bulkDs (xs.map (·.1))
  | [], off, xs, _, _, hx, _, hl => by
    refine ⟨[], (fun f hf => by cases hf), ⟨by simp at hl ⊢; omega, fun i hi => by simp at hl hi; omega⟩, (fun v hv => by cases hv), by simp [bulkL]⟩
  | f :: fs, off, [], _, _, hx, _, _ => by simp at hx
  | f :: fs, off, x :: xs, hoff, hS, hx, hel, hl => by
    have h0 : f.offset = off := by simpa using hoff 0 f rfl
    obtain ⟨vs0, k1, k2, k3, k4, k5⟩ := ih f.type _ x (by simpa using hel 0 f rfl) (hS f (by simp))
    simp only [List.map_cons, List.sum_cons] at hl
    obtain ⟨vs1, j1, j2, j3, j4⟩ := fields_rep ih cs fs (off + P.cellsOf f.type) xs (fun j g hg => by
      have := hoff (j + 1) g (by simpa using hg)
      simp only [List.take_succ_cons, List.map_cons, List.sum_cons] at this
      omega) (fun g hg => hS g (by simp [hg])) (by simpa using hx) (fun i g hg => by simpa using hel (i + 1) g (by simpa using hg)) (by omega)
    have hv0 : vs0.length = P.cellsOf f.type := by rw [k3.1, k2]
    refine ⟨vs0 ++ vs1, fun g hg => ?_, ?_, fun v hv => ?_, ?_⟩
    · rcases List.mem_cons.1 hg with rfl | hg
      · rw [h0, Nat.sub_self, List.drop_zero, List.take_append_of_le_length (by omega), List.take_of_length_le (by omega)]
        exact k1
      · obtain ⟨j, hj, hjg⟩ := List.mem_iff_getElem.1 hg
        have hge := hoff (j + 1) g (by simp [hj, hjg])
        simp only [List.take_succ_cons, List.map_cons, List.sum_cons] at hge
        have e : (vs0 ++ vs1).drop (g.offset - off) = vs1.drop (g.offset - (off + P.cellsOf f.type)) := by
          rw [List.drop_append, hv0, List.drop_of_length_le (by omega), List.nil_append]
          congr 1; omega
        rw [e]; exact j1 g hg
    · have e : cs.drop off = (cs.drop f.offset).take (P.cellsOf f.type) ++ cs.drop (off + P.cellsOf f.type) := by
        rw [h0, ← List.drop_drop, List.take_append_drop]
      rw [e]
      exact cellsRep_append k3 j2
    · rcases List.mem_append.1 hv with h | h
      · exact k4 v h
      · exact j3 v h
    · simp only [bulkL_append, List.map_cons, bulkDs]
      omega

theorem trod_rep (hl : laidOutB P = true) {S : List TypeId} (hS : knownB P S = true) : ∀ (n : Nat) (t : TypeId) (cs : List Value) (x : DataW H × List MemPlace), DataW.trod enc P w 0 sp held n t cs = some x → t ∈ S →
    ∃ vs, WT P n t vs ∧ cs.length = P.cellsOf t ∧ CellsRep w vs cs ∧ (∀ v ∈ vs, ∀ c, v ≠ .agg c) ∧ bulkL vs + isStr P t ≤ bulkD x.1 := by
  intro n
  induction n with
  | zero => intro t cs x h; simp [DataW.trod] at h
  | succ n ih =>
    intro t cs x h htS
    obtain ⟨ht, hk⟩ := known_spec hS htS
    have hone : ∀ d, P.underlying t = some d → (∀ fs, d ≠ .struct fs) → (∀ n e, d ≠ .array n e) → P.cellsOf t = 1 := by
      intro d hd h1 h2
      have := rowFine_of hl ht
      simp only [rowFine, isVar, ht, hd, decide_true, Bool.true_and] at this
      cases d <;> simp_all [kindOk]
    rcases hk with hu | ⟨k, hu⟩ | hu | ⟨e, hu, heS, hpos⟩ | ⟨fs, hu, hfs⟩
    · obtain ⟨b, rfl, rfl⟩ := DataW.trod_bool hu h
      refine ⟨[.bool b], ?_, (hone _ hu (by simp) (by simp)).symm, cellsRep_one rfl (.bool b), by simp, by simp [bulkL, bulkV, bulkD, isStr, hu]⟩
      simp only [WT, hu]
      exact ⟨b, rfl⟩
    · obtain ⟨z, rfl, rfl, hw⟩ := DataW.trod_int hu h
      by_cases hk : k = .i64
      · subst hk
        refine ⟨[.int z], ?_, (hone _ hu (by simp) (by simp)).symm, cellsRep_one rfl (.int z), by simp, by simp [bulkL, bulkV, bulkD, isStr, hu]⟩
        simp only [WT, hu]
        exact ⟨z, rfl, hw⟩
      · refine ⟨[.ik k z], ?_, (hone _ hu (by simp) (by simp)).symm, cellsRep_one rfl (.ik k z), by simp, by simp [bulkL, bulkV, bulkD, isStr, hu]⟩
        simp only [WT, hu]
        cases k <;> first | exact absurd rfl hk | exact ⟨z, rfl, hw⟩
    · obtain ⟨s, rfl, rfl, hs⟩ := DataW.trod_string hu h
      refine ⟨[.str s], ?_, (hone _ hu (by simp) (by simp)).symm, cellsRep_one rfl (.str s), by simp, ?_⟩
      · simp only [WT, hu]
        exact ⟨s, rfl, hs⟩
      · simp [bulkL, bulkV, bulkD, isStr, hu]
    · rcases DataW.trod_slice hu h with ⟨rfl, rfl⟩ | ⟨a, len, cap, elems, rest, m, hm, rfl, rfl, _, hle, hmax, hlen, hel, _, _⟩
      · refine ⟨[.vec .plain (shOf P e) []], ?_, (hone _ hu (by simp) (by simp)).symm, cellsRep_one rfl (.vecE _ _ _ _ (by simp) (by simp)), by simp, by simp [bulkL, bulkV, bulkD, isStr, hu]⟩
        simp only [WT, hu]
        exact ⟨[], rfl, by simp, by simp⟩
      · have hm' : n = m := by omega
        subst hm'
        have each : ∀ i, i < len → ∃ (v : V) (f : Nat → Value) (y : DataW H × List MemPlace), elems[i]? = some y ∧ Shaped (shOf P e) v ∧ WT P n e (AM.cellsOf v) ∧ bulkV v ≤ bulkD y.1 + 0 ∧
            ∀ j, j < (shOf P e).sz → w.cell? ((a.add (i * P.cellsOf e)).add j) = some (f j) ∧ (f j).oneCell' = true ∧ VRep w (prW w) [] (cellAt v j) (f j) := by
          intro i hi
          have hei := hel i hi
          have hsome : elems[i]? = some elems[i] := by simp [hlen, hi]
          rw [hsome] at hei
          obtain ⟨cs', hc, hd⟩ := Option.bind_eq_some_iff.1 hei
          obtain ⟨_, hcl, hcell⟩ := World.cells?_some hc
          obtain ⟨vs, k1, k2, k3, k4, k5⟩ := ih e cs' _ hd heS
          obtain ⟨hte, hke⟩ := known_spec hS heS
          have hvl : vs.length = P.cellsOf e := by rw [k3.1, k2]
          have hcells : ∀ j, j < P.cellsOf e → w.cell? ((a.add (i * P.cellsOf e)).add j) = some (cs'.getD j undef) := fun j hj => by
            rw [hcell j hj, List.getD_eq_getElem?_getD, List.getElem?_eq_getElem (by omega)]; rfl
          by_cases hst : ∃ fs, P.underlying e = some (.struct fs)
          · obtain ⟨fs, hfs⟩ := hst
            have hsh : shOf P e = some (P.cellsOf e) := by simp only [shOf, hfs]; rfl
            refine ⟨.agg vs, fun j => cs'.getD j undef, _, hsome, by rw [hsh]; exact hvl, k1, ?_, fun j hj => ?_⟩
            · -- one more for the struct itself
              simpa [bulkV, isStr, hfs] using k5
            · rw [hsh] at hj
              exact ⟨hcells j hj, (k3.2 j (by rw [k2]; exact hj)).1, (k3.2 j (by rw [k2]; exact hj)).2⟩
          · have hsh : shOf P e = none := by
              rcases hke with h | ⟨k, h⟩ | h | ⟨e', h, _⟩ | ⟨fs, h, _⟩ <;> first | (simp only [shOf, h]; done) | exact absurd ⟨_, h⟩ hst
            have h1 : P.cellsOf e = 1 := by
              have := rowFine_of hl hte
              rcases hke with h | ⟨k, h⟩ | h | ⟨e', h, _⟩ | ⟨fs, h, _⟩
              · simp [rowFine, isVar, hte, h, kindOk] at this; exact this
              · simp [rowFine, isVar, hte, h, kindOk] at this; exact this
              · simp [rowFine, isVar, hte, h, kindOk] at this; exact this
              · simp [rowFine, isVar, hte, h, kindOk] at this; exact this.2
              · exact absurd ⟨_, h⟩ hst
            rw [h1] at hvl
            obtain ⟨v, rfl⟩ : ∃ v, vs = [v] := List.length_eq_one_iff.1 hvl
            have hna := k4 v (by simp)
            have hcv := notAgg_cells hna
            refine ⟨v, fun j => cs'.getD j undef, _, hsome, ?_, by rw [hcv]; exact k1, (by simp only [bulkL] at k5; omega), fun j hj => ?_⟩
            · rw [hsh]
              cases v <;> first | trivial | exact absurd rfl (hna _)
            · rw [hsh] at hj
              have : j = 0 := by simpa [Sh.sz] using hj
              subst this
              refine ⟨hcells 0 (by omega), (k3.2 0 (by omega)).1, ?_⟩
              have := (k3.2 0 (by omega)).2
              unfold cellAt
              rw [hcv]; exact this
        refine ⟨[.vec .plain (shOf P e) ((List.range len).map fun i => if hi : i < len then (each i hi).choose else .undef)], ?_, (hone _ hu (by simp) (by simp)).symm, cellsRep_one rfl ?_, by simp, ?_⟩
        · simp only [WT, hu]
          refine ⟨_, rfl, by simp; omega, fun v hv => ?_⟩
          obtain ⟨i, hi, rfl⟩ := List.mem_map.1 hv
          have hi := List.mem_range.1 hi
          rw [dif_pos hi]
          obtain ⟨f, y, _, h2, h3, _⟩ := (each i hi).choose_spec
          exact ⟨h2, h3⟩
        · have hget : ∀ i, i < len → ((List.range len).map fun i => if hi : i < len then (each i hi).choose else V.undef).getD i .undef = if hi : i < len then (each i hi).choose else V.undef := fun i hi => by
            simp [List.getD_eq_getElem?_getD, hi]
          by_cases h0 : len = 0
          · subst h0
            exact .vecE _ _ _ _ (by simp) (by simp)
          · have hsz : 0 < (shOf P e).sz := by
              obtain ⟨hte, hke⟩ := known_spec hS heS
              rcases hke with h | ⟨k, h⟩ | h | ⟨e', h, _⟩ | ⟨fs, h, _⟩ <;> simp only [shOf, h, Sh.sz] <;> first | exact Nat.one_pos | exact hpos
            have hspot : a.spot = none := by
              obtain ⟨f, y, _, _, _, _, h5⟩ := (each 0 (by omega)).choose_spec
              have := (h5 0 hsz).1
              simp only [Nat.zero_mul, Addr.add, if_true] at this
              unfold World.cell? at this
              split at this
              · split at this
                · cases this
                · rename_i hs; simpa using hs
              · cases this
            have hsze : (shOf P e).sz = P.cellsOf e := by
              obtain ⟨hte, hke⟩ := known_spec hS heS
              have hr := rowFine_of hl hte
              rcases hke with h | ⟨k, h⟩ | h | ⟨e', h, _⟩ | ⟨fs, h, _⟩
              · simp [rowFine, isVar, hte, h, kindOk] at hr; simp only [shOf, h, Sh.sz]; exact hr.symm
              · simp [rowFine, isVar, hte, h, kindOk] at hr; simp only [shOf, h, Sh.sz]; exact hr.symm
              · simp [rowFine, isVar, hte, h, kindOk] at hr; simp only [shOf, h, Sh.sz]; exact hr.symm
              · simp [rowFine, isVar, hte, h, kindOk] at hr; simp only [shOf, h, Sh.sz]; exact hr.2.symm
              · simp only [shOf, h, Sh.sz]; rfl
            have hadd : ∀ i j, (a.add (i * P.cellsOf e)).add j = ⟨a.block, a.off + (i * (shOf P e).sz + j), none⟩ := fun i j => by
              obtain ⟨b, o, s⟩ := a
              simp only at hspot
              subst hspot
              rw [add_plain', add_plain', hsze, Nat.add_assoc]
            have hlen2 : ((List.range len).map fun i => if hi : i < len then (each i hi).choose else V.undef).length = len := by simp
            have hlift : Value.slice (some a) len cap = Value.slice (some a) ((List.range len).map fun i => if hi : i < len then (each i hi).choose else V.undef).length cap := by rw [hlen2]
            rw [hlift]
            refine .vec .plain _ _ a cap (fun i j => if hi : i < len then (each i hi).choose_spec.choose j else undef) (by simp) (by simp) (by rw [hlen2]; exact hle) hspot (fun i j hi hj => ?_) (fun i hi => ?_) fun i j hi hj => ?_
            · rw [hlen2] at hi
              obtain ⟨y, _, _, _, _, h5⟩ := (each i hi).choose_spec.choose_spec
              obtain ⟨h6, h7, h8⟩ := h5 j hj
              rw [hadd] at h6
              simp only [dif_pos hi]
              refine ⟨h6, ?_, h7⟩
              show a.block < w.heap.size
              unfold World.cell? at h6
              simp only at h6
              cases hh : w.heap[a.block]? with
              | none => rw [hh] at h6; cases h6
              | some o => exact (Array.getElem?_eq_some_iff.1 hh).1
            · rw [hlen2] at hi
              rw [hget i hi, dif_pos hi]
              obtain ⟨f, y, _, h2, _⟩ := (each i hi).choose_spec
              exact h2
            · rw [hlen2] at hi
              rw [hget i hi, dif_pos hi]
              obtain ⟨y, _, _, _, _, h5⟩ := (each i hi).choose_spec.choose_spec
              simp only [dif_pos hi]
              exact (h5 j hj).2.2
        · have hsum : ∀ k, k ≤ len → bulkL ((List.range k).map fun i => if hi : i < len then (each i hi).choose else V.undef) ≤ bulkDs ((elems.take k).map (·.1)) := by
            intro k
            induction k with
            | zero => intro _; simp [bulkL]
            | succ k ihk =>
              intro hk
              have hi : k < len := by omega
              obtain ⟨f, y, h1, _, _, h4, _⟩ := (each k hi).choose_spec
              have hlt : k < elems.length := by omega
              have ey : elems[k] = y := by
                have := List.getElem?_eq_getElem hlt
                rw [h1] at this; exact (Option.some.inj this).symm
              rw [List.range_succ, List.map_append, bulkL_append, List.take_succ_eq_append_getElem hlt, List.map_append, bulkDs_append]
              have := ihk (by omega)
              simp only [List.map_cons, List.map_nil, bulkL, bulkDs, dif_pos hi, ey]
              omega
          have := hsum len (Nat.le_refl _)
          rw [List.take_of_length_le (by omega)] at this
          simp only [bulkL, bulkV, bulkD, isStr, hu]
          omega
    · obtain ⟨xs, m, hm, rfl, hcl, hxl, hel⟩ := DataW.trod_struct hu h
      have hm' : n = m := by omega
      subst hm'
      obtain ⟨h1, h2, h3⟩ := kid_struct hl ht hu
      obtain ⟨vs, k1, k2, k3, k4⟩ := fields_rep ih cs fs.toList 0 xs (fun j f hf => by rw [h3 j f hf]; omega) hfs (by simpa using hxl) (fun i f hf => hel i f (by rw [← hf, Array.getElem?_toList])) (by rw [hcl, h2]; omega)
      rw [List.drop_zero] at k2
      refine ⟨vs, ?_, hcl, k2, k3, ?_⟩
      · simp only [WT, hu]
        exact ⟨by rw [k2.1, hcl], fun f hf => by simpa using k1 f hf⟩
      · simp only [bulkD, isStr, hu]; omega
end
end Go.AM
