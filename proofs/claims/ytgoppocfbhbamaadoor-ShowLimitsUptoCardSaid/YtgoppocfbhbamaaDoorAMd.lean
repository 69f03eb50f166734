import Derived.Test.YtgoppocfbhbamaaDoorAMc
import Derived.RangeFuncLeaves
import Derived.RecoverIn
import Derived.Shelf.SlLaysE0
import Derived.Shelf.RegionOpenPlain
import Derived.WalkKit
import Derived.Deep.LoopGhost
import Derived.Lib.Walk
import Derived.Lib.SliceRun
import Derived.Lib.ItoaNum
import Derived.OpenShut
import Derived.Carry
import Derived.JoinedCond
/- An abstract machine over tree values that runs the model's code, and its soundness: what it tells of a call, the model does. -/
set_option linter.unusedVariables false
set_option linter.unusedSimpArgs false
set_option linter.unusedSectionVars false
/-! The control of a function: what the abstract machine tells, the model does. -/
namespace Go.AM
open Go Go.RowKit

section
variable {P : Program} {cfg : Cfg} {ext : Ext} {base : Nat} {own own' : Own} {μ μ' : List Nat} {R : Type} {r : R}

/-- The words of an oracle, up to so much fuel. -/
def FuelOK (P : Program) (cfg : Cfg) (ext : Ext) (m0 : Nat) : Prop := ∀ k, k ≤ m0 → CallOK P cfg (fuelO P cfg ext k).call ∧ RoundOK P cfg (fuelO P cfg ext k).round

theorem okTmps_dst {n id : Nat} {ops : Array Oper} {draw : Bool} (h : okTmps n (.region id ops draw) = true) : ∀ o ∈ ops.toList, ∀ d, o.dst = some d → d < n := by
  intro o ho d hd
  simp only [okTmps, List.all_eq_true] at h
  have := h o ho
  rw [hd] at this
  simpa using this

theorem seq_fin {n : Nat} {w w' : World} {a' : Act} {K : Ex → Env → St → Option R} {y : Code} {O : Oracle} {f : Nat} {Q : Act → World → Prop} {e : Exit}
    (h : Fin P cfg base n w own μ r (fun e ρ st => match e with | .normal => exec P cfg O f y ρ st K | e => K e ρ st) e a' w')
    (hn : ∀ ρ st own' μ', exec P cfg O f y ρ st K = some r → Rel P cfg base n w' own' μ' ρ st a' → NoL ρ → Keeps base w own μ w' own' μ' → Q a' w') : Exit.then Q (Fin P cfg base n w own μ r K) e a' w' := by
  cases e with
  | normal =>
    obtain ⟨ρ', st', own', μ', h1, h2, h3, h4⟩ := h
    exact hn ρ' st' own' μ' h1 h2 h3 h4
  | outgrown => exact h.elim
  | _ => exact h

theorem block_fin {n : Nat} {w w' : World} {a' : Act} {K : Ex → Env → St → Option R} {id : Nat} {e : Exit}
    (h : Fin P cfg base n w own μ r (fun e ρ st => match e with | .exit i => bc (Nat.beq i id) (K .normal ρ st) (K (.exit i) ρ st) | e => K e ρ st) e a' w') : Exit.inBlock id (Fin P cfg base n w own μ r K) e a' w' := by
  cases e with
  | exit i =>
    obtain ⟨ρ', st', own', μ', h1, h2, h3, h4⟩ := h
    simp only [Exit.inBlock]
    rcases bc_spec h1 with ⟨hi, hk⟩ | ⟨hi, hk⟩
    · rw [if_pos (Nat.eq_of_beq_eq_true hi)]
      exact ⟨ρ', st', own', μ', hk, h2, h3, h4⟩
    · rw [if_neg (Nat.ne_of_beq_eq_false hi)]
      exact ⟨ρ', st', own', μ', hk, h2, h3, h4⟩
  | outgrown => exact h.elim
  | _ => exact h

/-- What a code must be told. -/
def Told (P : Program) (cfg : Cfg) (ext : Ext) (m0 : Nat) (f n : Nat) (ro : Option Nat) (m base : Nat) (c : Code) : Prop :=
  ∀ (k : Nat), k ≤ m0 → ∀ (R : Type) (r : R) (K : Ex → Env → St → Option R) (ρ : Env) (st : St) (a : Act) (w : World) (own : Own) (μ : List Nat),
      Rel P cfg base n w own μ ρ st a → NoL ρ → exec P cfg (fuelO P cfg ext k) f c ρ st K = some r → c.wpIn (wide ro) m P (Fin P cfg base n w own μ r K) a w

def AllS (S : Code → Prop) : Code → Prop
  | .seq a b => AllS S a ∧ AllS S b
  | .cond _ a b => AllS S a ∧ AllS S b
  | .block _ b => AllS S b
  | .loop b => AllS S b
  | .scope b => (noScope b = true → S b) ∧ (noScope b = false → AllS S b)
  | _ => True

theorem allS_no {S : Code → Prop} : ∀ {c : Code}, noScope c = true → AllS S c
  | .seq a b, h => by
    simp only [noScope, Bool.and_eq_true] at h
    exact ⟨allS_no h.1, allS_no h.2⟩
  | .cond _ a b, h => by
    simp only [noScope, Bool.and_eq_true] at h
    exact ⟨allS_no h.1, allS_no h.2⟩
  | .block _ b, h => by simp only [noScope] at h; exact allS_no (c := b) h
  | .loop b, h => by simp only [noScope] at h; exact allS_no (c := b) h
  | .rangeFunc _ _ a b, h => trivial
  | .scope b, h => by simp [noScope] at h
  | .region .., _ => trivial
  | .skip, _ => trivial
  | .label _, _ => trivial
  | .exit _, _ => trivial
  | .goto _, _ => trivial
  | .ret, _ => trivial
  | .refuse _, _ => trivial

theorem exec_wpG (hm : P.follows .mixedOrders = true) (hP : PlainNames P) {m0 : Nat} (hO : FuelOK P cfg ext m0) {f : Nat} {fn : Func} {whole : Code} (hf : P.funcs[f]? = some fn) (hb : fn.body = some whole) (hok : okCode fn.ntmps whole = true) {ro : Option Nat} {m : Nat} {S : Code → Prop} (hS : ∀ b, S b → Told P cfg ext m0 f fn.ntmps ro m base (.scope b)) :
    ∀ (c : Code), AllS S c → okTmps fn.ntmps c = true → simple c = true → HasL (fun k => findL k whole) c → HasR (fun k => findR k whole) c → (ro = none ∨ keysR c = []) → Told P cfg ext m0 f fn.ntmps ro m base c := by
  intro c
  induction c with
  | skip =>
    intro _ _ _ _ _ _ k hk R r K ρ st a w own μ hR hN h
    exact wpIn_skip ⟨ρ, st, own, μ, h, hR, hN, Keeps.refl⟩
  | label l =>
    intro _ _ _ _ _ _ k hk R r K ρ st a w own μ hR hN h
    exact wpIn_label ⟨ρ, st, own, μ, h, hR, hN, Keeps.refl⟩
  | exit i =>
    intro _ _ _ _ _ _ k hk R r K ρ st a w own μ hR hN h
    exact wpIn_exit ⟨ρ, st, own, μ, h, hR, hN, Keeps.refl⟩
  | goto l =>
    intro _ _ _ _ _ _ k hk R r K ρ st a w own μ hR hN h
    exact wpIn_goto ⟨ρ, st, own, μ, h, hR, hN, Keeps.refl⟩
  | ret =>
    intro _ _ _ _ _ _ k hk R r K ρ st a w own μ hR hN h
    exact wpIn_ret ⟨ρ, st, own, μ, h, hR, hN, Keeps.refl⟩
  | refuse s => intro _ _ h; simp [simple] at h
  | scope b ih =>
    intro hS' ht hs hl hr hro
    cases hn : noScope b with
    | true => exact hS b (hS'.1 hn)
    | false =>
      intro k hk R r K ρ st a w own μ hR hN h
      simp only [okTmps] at ht
      simp only [simple] at hs
      simp only [exec, hn] at h
      refine wpIn_scope_n (fun _ _ _ _ => False) (wpIn_mono (ih (hS'.2 hn) ht hs hl hr hro k hk R r _ ρ st a w own μ hR hN h) fun e a' w' hF => ?_) fun l rest k a w _ hJ => hJ.elim
      cases e with
      | goto l =>
        obtain ⟨ρ', st', own', μ', h1, h2, h3, h4⟩ := hF
        simp only at h1
        cases hlb : findLabel b l with
        | some rest => rw [hlb] at h1; cases h1
        | none =>
          rw [hlb] at h1
          exact .inr ⟨hlb, ρ', st', own', μ', h1, h2, h3, h4⟩
      | outgrown => exact hF.elim
      | _ => exact hF
  | rangeFunc f' ps x y ih1 ih2 =>
    intro _ _ _ _ hr hro k hk R r K ρ st a w own μ hR hN h
    have : ro = none := hro.resolve_right (by simp [keysR])
    subst this
    exact range_wp hP (hO k hk).1 hf hb hok hr.1 hR hN h
  | seq x y ihx ihy =>
    intro hS' ht hs hl hr hro k hk R r K ρ st a w own μ hR hN h
    simp only [okTmps, Bool.and_eq_true] at ht
    simp only [simple, Bool.and_eq_true] at hs
    refine wpIn_seq (wpIn_mono (ihx hS'.1 ht.1 hs.1 hl.1 hr.1 (hro.imp_right fun e => by simp only [keysR, List.append_eq_nil_iff] at e; exact e.1) k hk R r _ ρ st a w own μ hR hN h) fun e a' w' hF => ?_)
    refine seq_fin hF fun ρ' st' own' μ' h1 h2 h3 h4 => ?_
    exact wpIn_mono (ihy hS'.2 ht.2 hs.2 hl.2 hr.2 (hro.imp_right fun e => by simp only [keysR, List.append_eq_nil_iff] at e; exact e.2) k hk R r K ρ' st' a' w' own' μ' h2 h3 h1) fun e a' w' hF => hF.keeps h4
  | block id b ih =>
    intro hS' ht hs hl hr hro k hk R r K ρ st a w own μ hR hN h
    simp only [okTmps] at ht
    simp only [simple] at hs
    exact wpIn_block (wpIn_mono (ih hS' ht hs hl hr hro k hk R r _ ρ st a w own μ hR hN h) fun e a' w' hF => block_fin hF)
  | cond c x y ihx ihy =>
    intro hS' ht hs hl hr hro k hk R r K ρ st a w own μ hR hN h
    simp only [okTmps, Bool.and_eq_true] at ht
    simp only [simple, Bool.and_eq_true] at hs
    simp only [exec] at h
    split at h
    · rename_i t
      split at h
      · rename_i b hv
        have hev : a.eval (.tmp t) = .bool b := by
          have := bool_tmp hR hv
          simp [Act.eval, this]
        rcases bc_spec h with ⟨rfl, h1⟩ | ⟨rfl, h1⟩
        · exact wpIn_cond_true hev (ihx hS'.1 ht.1 hs.1 hl.1 hr.1 (hro.imp_right fun e => by simp only [keysR, List.append_eq_nil_iff] at e; exact e.1) k hk R r K _ st a w own μ (hR.congr (set_same hv)) (fun t' x off e => hN t' x off (by rwa [set_same hv] at e)) h1)
        · exact wpIn_cond_false hev (ihy hS'.2 ht.2 hs.2 hl.2 hr.2 (hro.imp_right fun e => by simp only [keysR, List.append_eq_nil_iff] at e; exact e.2) k hk R r K _ st a w own μ (hR.congr (set_same hv)) (fun t' x off e => hN t' x off (by rwa [set_same hv] at e)) h1)
      · cases h
    · rename_i b
      have hev : a.eval (.const (.bool b)) = .bool b := rfl
      rcases bc_spec h with ⟨rfl, h1⟩ | ⟨rfl, h1⟩
      · exact wpIn_cond_true hev (ihx hS'.1 ht.1 hs.1 hl.1 hr.1 (hro.imp_right fun e => by simp only [keysR, List.append_eq_nil_iff] at e; exact e.1) k hk R r K ρ st a w own μ hR hN h1)
      · exact wpIn_cond_false hev (ihy hS'.2 ht.2 hs.2 hl.2 hr.2 (hro.imp_right fun e => by simp only [keysR, List.append_eq_nil_iff] at e; exact e.2) k hk R r K ρ st a w own μ hR hN h1)
    · cases h
  | region id ops draw =>
    intro _ ht hs _ _ _ k hk R r K ρ st a w own μ hR hN h
    simp only [exec] at h
    cases draw with
    | true => exact region_draw_wp hm hP (hO k hk).1 (hO k hk).2 (okTmps_dst ht) (fun ρ' st' a' w' own' μ' h1 h2 h3 h4 => ⟨ρ', st', own', μ', h1, h2, h3, h4⟩) (fun v c ρ' ρ'' st' a' w' own' μ' h1 h2 h3 h4 => ⟨v, c, ρ', ρ'', st', own', μ', h1, h2, h3, h4, rfl⟩) hR hN h
    | false =>
    refine wpIn_region ?_
    have := execOps_wp (m := m) (ro := ro) (Q := Fin P cfg base fn.ntmps w own μ r K) hP (hO k hk).1 (hO k hk).2 (okTmps_dst ht) (fun ρ' st' a' w' own' μ' h1 h2 h3 h4 => ⟨ρ', st', own', μ', h1, h2, h3, h4⟩)
      (fun v c ρ' ρ'' st' a' w' own' μ' h1 h2 h3 h4 => ⟨v, c, ρ', ρ'', st', own', μ', h1, h2, h3, h4, rfl⟩) ops.toList 0 ρ st [] a w own μ rfl hR (fun t x off e => absurd e (hN t x off)) Keeps.refl h
    rwa [← List.range_eq_range', Array.length_toList] at this
  | loop b ih =>
    intro hS' ht hs hl hr hro k hk R r K ρ st a w own μ hR hN h
    simp only [okTmps] at ht
    simp only [simple] at hs
    obtain ⟨hfind, hkey, hl⟩ := hl
    simp only [exec] at h
    obtain ⟨vals, h, hR1, hN1⟩ := coerceKeep_spec hR hN _ _ h
    obtain ⟨x, hx, h⟩ := obind_spec h
    refine wpIn_loop_n (fun k' a' w' => ∃ own' μ' vals' st', k' ≤ m0 ∧ (fuelO P cfg ext k').loop f (keyOf b) vals' st' = some x ∧
      Rel P cfg base fn.ntmps w' own' μ' (envOf ((cfg.keep f (keyOf b)).map (·.1)) vals') st' a' ∧ NoL (envOf ((cfg.keep f (keyOf b)).map (·.1)) vals') ∧ Keeps base w own μ w' own' μ') ?_ (k₀ := k) ⟨own, μ, vals, st, hk, hx, hR1, hN1, Keeps.refl⟩
    rintro k' a' w' ⟨own', μ', vals', st', hk', hx', hR', hN', hK'⟩
    cases k' with
    | zero => cases hx'
    | succ k' =>
      have hbody : loopBody P cfg (fuelO P cfg ext k') f (keyOf b) vals' st' = some x := hx'
      simp only [loopBody, hf, hb, hkey, if_true, hfind] at hbody
      refine wpIn_mono (ih hS' ht hs hl hr hro k' (by omega) _ x _ _ st' a' w' own' μ' hR' hN' hbody) fun e a2 w2 hF => ?_
      have hF := hF.keeps hK'
      cases e with
      | normal =>
        obtain ⟨ρ2, st2, own2, μ2, h1, h2, h3, h4⟩ := hF
        obtain ⟨vals2, h1, hR2, hN2⟩ := coerceKeep_spec h2 h3 _ _ h1
        exact ⟨k', by omega, own2, μ2, vals2, st2, by omega, h1, hR2, hN2, h4⟩
      | goto l =>
        obtain ⟨ρ2, st2, own2, μ2, h1, h2, h3, h4⟩ := hF
        simp only [Option.some.injEq] at h1
        subst h1
        rcases behind_spec h with ⟨he, _⟩ | ⟨he, _⟩ | ⟨j, he, _⟩ | ⟨v, he, _⟩ <;> cases he
      | outgrown => exact hF.elim
      | ret => exact round_exits h (fun _ _ => rfl) (fun _ _ _ _ => rfl) (fun _ _ _ => rfl) (by simp) (by simp) hF
      | exit i => exact round_exits h (fun _ _ => rfl) (fun _ _ _ _ => rfl) (fun _ _ _ => rfl) (by simp) (by simp) hF
      | panic ch => exact round_exits h (fun _ _ => rfl) (fun _ _ _ _ => rfl) (fun _ _ _ => rfl) (by simp) (by simp) hF

theorem allS_of {n : Nat} {F : Nat → Option Code} {G : Nat → Option (Array Tmp × Code × Code)} {H : Nat → Option Code} {ro : Option Nat} : ∀ {c : Code}, okTmps n c = true → simple c = true → HasL F c → HasR G c → HasS H c → (ro = none ∨ keysR c = []) →
    AllS (fun b => okTmps n b = true ∧ simple b = true ∧ HasL F b ∧ HasR G b ∧ noScope b = true ∧ (ro = none ∨ keysR b = []) ∧ ∀ l, (findLabel b l).isSome = true → H l = some b) c
  | .seq a b, h1, h2, h3, h4, h5, h6 => by
    simp only [okTmps, Bool.and_eq_true] at h1
    simp only [simple, Bool.and_eq_true] at h2
    simp only [keysR, List.append_eq_nil_iff] at h6
    exact ⟨allS_of h1.1 h2.1 h3.1 h4.1 h5.1 (h6.imp_right fun e => e.1), allS_of h1.2 h2.2 h3.2 h4.2 h5.2 (h6.imp_right fun e => e.2)⟩
  | .cond _ a b, h1, h2, h3, h4, h5, h6 => by
    simp only [okTmps, Bool.and_eq_true] at h1
    simp only [simple, Bool.and_eq_true] at h2
    simp only [keysR, List.append_eq_nil_iff] at h6
    exact ⟨allS_of h1.1 h2.1 h3.1 h4.1 h5.1 (h6.imp_right fun e => e.1), allS_of h1.2 h2.2 h3.2 h4.2 h5.2 (h6.imp_right fun e => e.2)⟩
  | .block _ b, h1, h2, h3, h4, h5, h6 => by
    simp only [okTmps] at h1
    simp only [simple] at h2
    simp only [keysR] at h6
    exact allS_of (c := b) h1 h2 h3 h4 h5 h6
  | .loop b, h1, h2, h3, h4, h5, h6 => by
    simp only [okTmps] at h1
    simp only [simple] at h2
    simp only [keysR] at h6
    exact allS_of (c := b) h1 h2 h3.2.2 h4 h5 h6
  | .rangeFunc _ _ a b, _, _, _, _, _, _ => trivial
  | .scope b, h1, h2, h3, h4, h5, h6 => by
    simp only [okTmps] at h1
    simp only [simple] at h2
    simp only [keysR] at h6
    exact ⟨fun hn => ⟨h1, h2, h3, h4, hn, h6, h5.1 hn⟩, fun hn => allS_of (c := b) h1 h2 h3 h4 (h5.2 hn) h6⟩
  | .region .., _, _, _, _, _, _ => trivial
  | .skip, _, _, _, _, _, _ => trivial
  | .label _, _, _, _, _, _, _ => trivial
  | .exit _, _, _, _, _, _, _ => trivial
  | .goto _, _, _, _, _, _, _ => trivial
  | .ret, _, _, _, _, _, _ => trivial
  | .refuse _, _, _, _, _, _, _ => trivial

/-- A scope: its first pass, and those from a label of it. -/
theorem scope_told (hm : P.follows .mixedOrders = true) (hP : PlainNames P) {m0 : Nat} (hO : FuelOK P cfg ext m0) {f : Nat} {fn : Func} {whole : Code} (hf : P.funcs[f]? = some fn) (hb : fn.body = some whole) (hok : okCode fn.ntmps whole = true) {ro : Option Nat} {m : Nat} {b : Code}
    (ht : okTmps fn.ntmps b = true) (hs : simple b = true) (hl : HasL (fun k => findL k whole) b) (hr : HasR (fun k => findR k whole) b) (hn : noScope b = true) (hro : ro = none ∨ keysR b = []) (hfs : ∀ l, (findLabel b l).isSome = true → findS l whole = some b) :
    Told P cfg ext m0 f fn.ntmps ro m base (.scope b) := by
  intro k hk R r K ρ st a w own μ hR hN h
  have told : ∀ (c : Code), noScope c = true → okTmps fn.ntmps c = true → simple c = true → HasL (fun k => findL k whole) c → HasR (fun k => findR k whole) c → (ro = none ∨ keysR c = []) → Told P cfg ext m0 f fn.ntmps ro m base c :=
    fun c hc => exec_wpG hm hP hO hf hb hok (S := fun _ => False) (fun _ h => h.elim) c (allS_no hc)
  simp only [exec] at h
  -- what holds at a jump to a label
  let J : Nat → Nat → Act → World → Prop := fun l k' a' w' => ∃ x own' μ' vals' st', k' ≤ m0 ∧ (fuelO P cfg ext k').loop f (labelKey + l) vals' st' = some x ∧
    behind P cfg f (labelKey + l) true (hasRet b) (exitsOf b) x K = some r ∧
    Rel P cfg base fn.ntmps w' own' μ' (envOf ((cfg.keep f (labelKey + l)).map (·.1)) vals') st' a' ∧ NoL (envOf ((cfg.keep f (labelKey + l)).map (·.1)) vals') ∧ Keeps base w own μ w' own' μ'
  refine wpIn_scope_n J ?_ ?_
  · refine wpIn_mono (told b hn ht hs hl hr hro k hk R r _ ρ st a w own μ hR hN h) fun e a' w' hF => ?_
    cases e with
    | goto l =>
      obtain ⟨ρ', st', own', μ', h1, h2, h3, h4⟩ := hF
      simp only at h1
      cases hlb : findLabel b l with
      | some rest =>
        rw [hlb] at h1
        simp only at h1
        simp only [hn] at h1
        obtain ⟨vals, h1, hR1, hN1⟩ := coerceKeep_spec h2 h3 _ _ (show coerceKeep P (cfg.keep f (labelKey + l)) ρ' _ = some r from h1)
        obtain ⟨x, hx, h1⟩ := obind_spec h1
        exact .inl ⟨by rw [hlb]; rfl, k, x, own', μ', vals, st', hk, hx, h1, hR1, hN1, h4⟩
      | none =>
        rw [hlb] at h1
        exact .inr ⟨hlb, ρ', st', own', μ', h1, h2, h3, h4⟩
    | outgrown => exact hF.elim
    | _ => exact hF
  · rintro l rest k' a' w' hlb ⟨x, own', μ', vals', st', hk', hx', hbeh, hR', hN', hK'⟩
    cases k' with
    | zero => cases hx'
    | succ k' =>
      obtain ⟨r1, r2, r3, r4, r5, r6⟩ := label_rest hlb ht hs hl hr hn
      have hfS := hfs l (by rw [hlb]; rfl)
      have hbody : loopBody P cfg (fuelO P cfg ext k') f (labelKey + l) vals' st' = some x := hx'
      have hkey : ¬ (labelKey + l < labelKey) := by omega
      simp only [loopBody, hf, hb, if_neg hkey, Nat.add_sub_cancel_left, hfS, hlb] at hbody
      refine wpIn_mono (told rest r5 r1 r2 r3 r4 (hro.imp_right r6) k' (by omega) _ x _ _ st' a' w' own' μ' hR' hN' hbody) fun e a2 w2 hF => ?_
      have hF := hF.keeps hK'
      cases e with
      | normal =>
        obtain ⟨ρ2, st2, own2, μ2, h1, h2, h3, h4⟩ := hF
        simp only [Option.some.injEq] at h1
        subst h1
        rcases behind_spec hbeh with ⟨_, hk2⟩ | ⟨he, _⟩ | ⟨j, he, _⟩ | ⟨v, he, _⟩
        · obtain ⟨ρ3, q1, q2, q3⟩ := coerceOuts_spec h2 h3 _ _ hk2
          exact ⟨ρ3, st2, own2, μ2, q1, q2, q3, h4⟩
        · cases he
        · cases he
        · cases he
      | goto l' =>
        obtain ⟨ρ2, st2, own2, μ2, h1, h2, h3, h4⟩ := hF
        simp only at h1
        split at h1
        · rename_i e; subst e
          obtain ⟨vals2, h1, hR2, hN2⟩ := coerceKeep_spec h2 h3 _ _ h1
          exact .inl ⟨by rw [hlb]; rfl, k', by omega, x, own2, μ2, vals2, st2, by omega, h1, hbeh, hR2, hN2, h4⟩
        · cases h1
      | outgrown => exact hF.elim
      | ret => exact round_exits hbeh (fun _ _ => rfl) (fun _ _ _ _ => rfl) (fun _ _ _ => rfl) (by simp) (by simp) hF
      | exit i => exact round_exits hbeh (fun _ _ => rfl) (fun _ _ _ _ => rfl) (fun _ _ _ => rfl) (by simp) (by simp) hF
      | panic ch => exact round_exits hbeh (fun _ _ => rfl) (fun _ _ _ _ => rfl) (fun _ _ _ => rfl) (by simp) (by simp) hF

theorem exec_wp (hm : P.follows .mixedOrders = true) (hP : PlainNames P) {m0 : Nat} (hO : FuelOK P cfg ext m0) {f : Nat} {fn : Func} {whole : Code} (hf : P.funcs[f]? = some fn) (hb : fn.body = some whole) (hok : okCode fn.ntmps whole = true) {ro : Option Nat} {m : Nat}
    (c : Code) (h1 : okTmps fn.ntmps c = true) (h2 : simple c = true) (h3 : HasL (fun k => findL k whole) c) (h4 : HasR (fun k => findR k whole) c) (h5 : HasS (fun l => findS l whole) c) (h6 : ro = none ∨ keysR c = []) : Told P cfg ext m0 f fn.ntmps ro m base c :=
  exec_wpG hm hP hO hf hb hok (fun b hb' => scope_told hm hP hO hf hb hok hb'.1 hb'.2.1 hb'.2.2.1 hb'.2.2.2.1 hb'.2.2.2.2.1 hb'.2.2.2.2.2.1 hb'.2.2.2.2.2.2) c (allS_of h1 h2 h3 h4 h5 h6) h1 h2 h3 h4 h6
end
end Go.AM

/-! A function's end. -/
namespace Go.AM
open Go Go.RowKit

section
variable {P : Program} {cfg : Cfg} {base n : Nat} {w w' : World} {own own' own1 own2 : Own} {μ μ' : List Nat} {ρ : Env} {st st' : St} {a : Act} {R : Type} {r : Out × St}

/-- What is left of a function's own. -/
def ownE (own : Own) : Own := fun b i => match own b i with | .t _ _ => .pr | .d => .free | g => g

theorem ownE_flat (own : Own) : Flat (ownE own) := fun b i => by
  unfold ownE
  cases own b i with
  | free => exact .inl rfl
  | pr => exact .inr (.inl rfl)
  | fr => exact .inr (.inr (.inl rfl))
  | d => exact .inl rfl
  | t t j => exact .inr (.inl rfl)
  | r q j => exact .inr (.inr (.inr ⟨q, j, rfl⟩))

theorem step_end (hs : Sto P cfg base w own μ st) : Step base w own μ w (ownE own) μ (fun g => (∃ t j, g = .t t j) ∨ g = .d) := by
  refine Step.retag hs (fun g => match g with | .t _ _ => .pr | .d => .free | g => g) rfl (fun g hg => ?_) (fun g hg => ?_) rfl rfl
  · cases g with
    | t t j => exact absurd (.inl ⟨t, j, rfl⟩) hg
    | d => exact absurd (.inr rfl) hg
    | _ => rfl
  · cases g with
    | fr => rfl
    | _ => cases hg

theorem sto_end (hs : Sto P cfg base w own μ st) : Sto P cfg base w (ownE own) μ st := hs.step (step_end hs) hs.len fun r x b h1 h2 => .inl ⟨h1, by rintro j (⟨_, _, e⟩ | e) <;> cases e⟩

/-- A resource is handed over for good. -/
def ownK (q : Nat) (own : Own) : Own := fun b i => match own b i with | .r q' j => (if q' = q then .pr else .r q' j) | g => g

theorem step_kill (hs : Sto P cfg base w own μ st) (q : Nat) : Step base w own μ w (ownK q own) μ (fun g => ∃ j, g = .r q j) := by
  refine Step.retag hs (fun g => match g with | .r q' j => (if q' = q then .pr else .r q' j) | g => g) rfl (fun g hg => ?_) (fun g hg => ?_) rfl rfl
  · cases g with
    | r q' j => simp only; rw [if_neg (fun e => hg ⟨j, by rw [e]⟩)]
    | _ => rfl
  · cases g with
    | r q' j =>
      simp only at hg
      split at hg <;> cases hg
    | fr => rfl
    | _ => cases hg

theorem ownK_pr {q : Nat} {b i : Nat} (h : own b i = .pr ∨ ∃ j, own b i = .r q j) : ownK q own b i = .pr := by
  rcases h with h | ⟨j, h⟩
  · simp only [ownK, h]
  · simp only [ownK, h, if_pos]

theorem ownK_flat (hf : Flat own) (q : Nat) : Flat (ownK q own) := fun b i => by
  unfold ownK
  rcases hf b i with h | h | h | ⟨q', j, h⟩
  · rw [h]; exact .inl rfl
  · rw [h]; exact .inr (.inl rfl)
  · rw [h]; exact .inr (.inr (.inl rfl))
  · rw [h]; simp only; split
    · exact .inr (.inl rfl)
    · exact .inr (.inr (.inr ⟨q', j, rfl⟩))

theorem sto_kill (hs : Sto P cfg base w own μ st) (q : Nat) : Sto P cfg base w (ownK q own) μ (st.set q .dead) :=
  hs.step (step_kill hs q) (by simp [hs.len]) fun k y b' h1' h2' => by
    rcases set_get h1' with ⟨rfl, rfl⟩ | ⟨hne, hk⟩
    · exact .inr trivial
    · exact .inl ⟨hk, fun j ⟨j', e⟩ => hne (by cases e; rfl)⟩

/-- How a result is read. -/
def resAct (tmps : Array Value) : ResultVar → Sem Value
  | .tmp t => pure (tmps.getD t undef)
  | .cell a t => do loadVar t (← asAddr (tmps.getD a undef))

theorem run_cell {tmps : Array Value} {x : Nat} {t : TypeId} {b off : Nat} (hx : tmps.getD x undef = .pointer (some ⟨b, off, none⟩)) {c : Value} (hl : (loadVar t ⟨b, off, none⟩).run P w = .ok c w) :
    (resAct tmps (.cell x t)).run P w = .ok c w := by
  simp only [resAct, hx, asAddr, pure_bind, hl]

/-- One result. -/
theorem result1_spec {st0 : St} (hR : Rel P cfg base n w own μ ρ st0 a) (hE : Sto P cfg base w own1 μ st) (hF : Flat own1)
    (h1 : ∀ b i, (own b i = .pr ∨ ∃ t j, own b i = .t t j) → own1 b i = .pr) {rm : Bool} {k : Nat} {rv : ResultVar} {t : TypeId} {K : V → St → Option (Out × St)} (h : result1 P rm k ρ st rv t K = some r) :
    ∃ v st' own2 c, K v st' = some r ∧ Sto P cfg base w own2 μ st' ∧ Flat own2 ∧ Keeps base w own1 μ w own2 μ ∧ VRep w (prOf own2) μ v c ∧ (resAct a.tmps rv).run P w = .ok c w := by
  have hmono : ∀ {v c}, VRep w (prOf own) μ v c → VRep w (prOf own1) μ v c := fun hv => hv.mono (fun b i e => ⟨h1 b i (.inl e), rfl⟩) fun _ _ h => h
  cases rv with
  | tmp x =>
    have hT := hR.env x
    have hrun : (resAct a.tmps (.tmp x)).run P w = .ok (a.tmps.getD x undef) w := rfl
    simp only [result1] at h
    have hval : ∀ v, shed false (nilAs P t (ρ.get x)) = v → VRep w (prOf own1) μ (plain1 v) (a.tmps.getD x undef) ∧ ∀ sh q lo m, v = .row sh q lo m → VRep w (prOf own1) μ v (a.tmps.getD x undef) := by
      intro v hv
      have key : ∀ {u}, VRep w (prOf own1) μ u (a.tmps.getD x undef) → v = shed false u → (∀ d sh z, u ≠ .loc d sh z) → (∀ y off, u ≠ .lptr y off) → VRep w (prOf own1) μ (plain1 v) (a.tmps.getD x undef) ∧ ∀ sh q lo m, v = .row sh q lo m → VRep w (prOf own1) μ v (a.tmps.getD x undef) := by
        intro u hu e n1 n2
        cases u with
        | loc d sh z => exact absurd rfl (n1 _ _ _)
        | lptr y off => exact absurd rfl (n2 _ _)
        | vec m sh es =>
          cases m with
          | grow =>
            exfalso
            generalize a.tmps.getD x undef = c at hu
            cases hu with
            | vecE _ _ A c hg hm => exact absurd rfl hg
            | vec _ _ _ ad c f hm => exact absurd rfl hm
          | _ => simp only [shed] at e; subst e; exact ⟨hu.plain1, fun _ _ _ _ e => by cases e⟩
        | _ => simp only [shed] at e; subst e; exact ⟨hu.plain1, fun _ _ _ _ _ => hu⟩
      cases hx : ρ.get x with
      | loc d sh u =>
        rw [hx] at hT hv
        simp only [nilAs, shed] at hv
        subst hv
        exact ⟨cptr_of_loc hT (fun b i e => h1 b i (.inr ⟨_, _, e⟩)) (fun b i e => h1 b i (.inl e)), fun _ _ _ _ e => by cases e⟩
      | lptr y off =>
        rw [hx] at hv
        simp only [nilAs, shed] at hv
        subst hv
        exact ⟨.undef _, fun _ _ _ _ e => by cases e⟩
      | vec m sh es =>
        cases m with
        | grow =>
          rw [hx] at hT hv
          simp only [nilAs, shed] at hv
          subst hv
          exact ⟨hmono (GRep.plain hT), fun _ _ _ _ e => by cases e⟩
        | _ =>
          rw [hx] at hT hv
          exact key (nilAs_rep (P := P) (t := t) (hmono hT)) hv.symm (by simp [nilAs]) (by simp [nilAs])
      | nils =>
        rw [hx] at hT hv
        refine key (nilAs_rep (P := P) (t := t) (hmono hT)) hv.symm ?_ ?_
        · intro d sh z; simp only [nilAs]; split <;> simp
        · intro d sh; simp only [nilAs]; split <;> simp
      | _ =>
        rw [hx] at hT hv
        exact key (nilAs_rep (P := P) (t := t) (hmono hT)) hv.symm (by simp [nilAs]) (by simp [nilAs])
    split at h
    · rename_i sh q lo m hv
      obtain ⟨_, h⟩ := gd_spec h
      obtain ⟨y, hy, h⟩ := getR_spec h
      obtain ⟨sh', es, rfl, h⟩ := onRow_spec h
      obtain ⟨hg, h⟩ := gd_spec h
      simp only [Bool.and_eq_true, decide_eq_true_eq] at hg
      obtain ⟨rfl, hl⟩ := hg
      have hV := (hval _ hv).2 _ _ _ _ rfl
      have hs := step_kill hE q
      refine ⟨_, _, ownK q own1, _, h, sto_kill hE q, ownK_flat hF q, keeps_of hs fun g ⟨j, e⟩ => .inr ⟨q, j, e⟩, ?_, hrun⟩
      exact row_frozen hE hy hl hV hs (fun b i hb => ownK_pr hb)
    · rename_i v hn
      exact ⟨_, _, own1, _, h, hE, hF, Keeps.refl, (hval _ rfl).1, hrun⟩
  | cell x t' =>
    have hT := hR.env x
    simp only [result1] at h
    split at h
    · rename_i d sh v hx
      rw [hx] at hT
      obtain ⟨hsh, h2⟩ := gd_spec h
      simp only [shEq, Bool.and_eq_true, decide_eq_true_eq] at hsh
      obtain ⟨hty, rfl⟩ := hsh
      obtain ⟨b, ccs, hc, hB, hs, hcell, hj, hd⟩ := loc_cells hT
      refine ⟨_, _, own1, _, h2, hE, hF, Keeps.refl, ?_, run_cell hc (run_loadVar' hty w b 0 (fun j => ccs.getD j undef) fun j hj' => by rw [Nat.zero_add]; exact hcell j hj')⟩
      cases rm with
      | false => exact hmono (VRep.of_cells (shaped_clean hs) fun j hj' => ⟨(hj j hj').1, by simp only [cond_false]; rw [cellAt_clean]; exact (hj j hj').2.plain1⟩)
      | true => exact hmono (VRep.of_cells (shaped_drop hs) fun j hj' => ⟨(hj j hj').1, by simp only [cond_true]; rw [cellAt_drop]; exact (hj j hj').2.drop1⟩)
    · rename_i sh v hx
      rw [hx] at hT
      obtain ⟨hsh, h2⟩ := gd_spec h
      simp only [shEq, Bool.and_eq_true, decide_eq_true_eq] at hsh
      obtain ⟨hty, rfl⟩ := hsh
      obtain ⟨b, off, f, he, hcell, hs, hc⟩ := VRep.cptr_inv (hT : VRep w (prOf own) μ _ _)
      exact ⟨_, _, own1, _, h2, hE, hF, Keeps.refl, hmono (VRep.of_cells hs fun j hj => ⟨(hcell j hj).2.2, hc j hj⟩), run_cell he (run_loadVar' hty w b off f fun j hj => (hcell j hj).1)⟩
    · rename_i q off hx
      rw [hx] at hT
      obtain ⟨y, hy, h⟩ := getR_spec h
      obtain ⟨cs, rfl, h⟩ := onBox_spec h
      obtain ⟨hg, h⟩ := gd_spec h
      simp only [Bool.and_eq_true, decide_eq_true_eq] at hg
      obtain ⟨hb, hty⟩ := hg
      have hT' : VRep w (prOf own) μ (.ref q off) (a.tmps.getD x undef) := hT
      generalize hc : a.tmps.getD x undef = c at hT'
      cases hT' with
      | ref _ _ b hmu =>
      obtain ⟨ccs, ty, fz, hh, hn, hf, ho, hcell, hj⟩ := box_rep hE hy hmu
      have hna : ∀ j, j < cs.length → ∀ c, cs.getD j .undef ≠ .agg c := fun j hj' => crep_not_agg (hj j hj').2 (hj j hj').1
      refine ⟨_, _, own1, _, h, hE, hF, Keeps.refl, VRep.of_cells (shaped_clean (shaped_part hb hna)) fun j hj' => ?_, run_cell hc (run_loadVar' hty w b off (fun j => ccs.getD (off + j) undef) fun j hj' => hcell _ (by omega))⟩
      have := hj (off + j) (by omega)
      refine ⟨this.1, ?_⟩
      rw [cellAt_clean, cellAt_part hb hna hj']
      exact this.2.plain1
    · cases h

/-- The results. -/
theorem resultsK_spec {st0 : St} (hR : Rel P cfg base n w own μ ρ st0 a) {rm : Bool} {k : Nat} : ∀ (rs : List ResultVar) (ts : List TypeId) (st : St) (own1 : Own) (K : List V → St → Option (Out × St)), rs.length ≤ ts.length → Sto P cfg base w own1 μ st → Flat own1 →
    (∀ b i, (own b i = .pr ∨ ∃ t j, own b i = .t t j) → own1 b i = .pr) → resultsK P rm k ρ st (rs.zip ts) K = some r →
    ∃ vs st' own2 cs, K vs st' = some r ∧ Sto P cfg base w own2 μ st' ∧ Flat own2 ∧ Keeps base w own1 μ w own2 μ ∧ vs.length = cs.length ∧ (∀ i, i < vs.length → VRep w (prOf own2) μ (vs.getD i .undef) (cs.getD i undef)) ∧
      (rs.mapM (resAct a.tmps)).run P w = .ok cs w
  | [], ts, st, own1, K, _, hE, hF, h1, h => ⟨[], st, own1, [], h, hE, hF, Keeps.refl, rfl, fun i hi => by simp at hi, rfl⟩
  | rv :: rs, [], st, own1, K, hl, _, _, _, _ => by simp at hl
  | rv :: rs, t :: ts, st, own1, K, hl, hE, hF, h1, h => by
    simp only [List.zip_cons_cons, resultsK] at h
    obtain ⟨v, st', own2, c, h, hE2, hF2, hk, hv, hrun⟩ := result1_spec hR hE hF h1 h
    obtain ⟨vs, st'', own3, cs, h, hE3, hF3, hk3, hl3, hvs, hrun3⟩ := resultsK_spec hR rs ts st' own2 _ (by simpa using hl) hE2 hF2 (fun b i hb => (hk.pr b i (h1 b i hb)).1) h
    refine ⟨_, st'', own3, c :: cs, h, hE3, hF3, hk.trans hk3, by simp [hl3], fun i hi => ?_, ?_⟩
    · cases i with
      | zero => simpa using hk3.vrep hv
      | succ i => simpa using hvs i (by simpa using hi)
    · simp only [List.mapM_cons, Sem.run_bind, hrun, Result.andThen_ok, hrun3, Sem.run_pure]
end
end Go.AM

/-! A function's body: what the abstract machine tells of a call, the model does. -/
namespace Go.AM
open Go Go.RowKit

section
variable {P : Program} {cfg : Cfg} {ext : Ext} {base n : Nat} {w w' w0 : World} {own own' own0 own1 own2 : Own} {μ μ' μ0 : List Nat} {ρ : Env} {st st' : St} {a : Act} {x : Out × St}

/-! ### what is dropped behind a call -/
theorem grep_cut {g : Tag} {sh : Sh} {es : List V} {c : Value} (h : GRep w own μ g sh es c) {k : Nat} (hn : belowL k es = true) : GRep w own (μ.take k) g sh es c := by
  obtain ⟨A, cap, hc, hl, h⟩ := h
  refine ⟨A, cap, hc, hl, ?_⟩
  rcases h with h | ⟨a, f, ccs, ty, fz, hA, ha, hb, hcap, hcell, hsh, hrep, hsp⟩
  · exact .inl h
  · exact .inr ⟨a, f, ccs, ty, fz, hA, ha, hb, hcap, hcell, hsh, fun i j hi hj => (hrep i j hi hj).cut (below_cellAt (belowL_getD hn i hi) j), hsp⟩

theorem crep_cut {g : Tag} {v : V} {c : Value} (h : CRep w own μ g v c) {k : Nat} (hn : below k v = true) : CRep w own (μ.take k) g v c := by
  unfold CRep at *
  split
  · rename_i sh es
    simp only [below] at hn
    exact grep_cut h hn
  · rename_i hne
    split at h
    · exact absurd rfl (hne _ _)
    · exact h.cut hn

theorem below_envOf {k : Nat} : ∀ (ks : List Nat) (vals : List V), belowL k vals = true → ∀ t, below k ((envOf ks vals).get t) = true
  | [], vals, _, t => by cases vals <;> rfl
  | _ :: _, [], _, t => rfl
  | y :: ks, v :: vals, h, t => by
    simp only [belowL, Bool.and_eq_true] at h
    have : (envOf (y :: ks) (v :: vals)).get t = (Env.set (envOf ks vals) y v).get t := rfl
    rw [this, get_set]
    split
    · exact h.1
    · exact below_envOf ks vals h.2 t

theorem rrep_cut {q b : Nat} {y : Res} (h : RRep P cfg w own μ q b y) {k : Nat} (hn : belowRes k y = true) : RRep P cfg w own (μ.take k) q b y := by
  cases y with
  | dead => trivial
  | box cells =>
    obtain ⟨ccs, hB, hj⟩ := h
    exact ⟨ccs, hB, fun j hj' => ⟨(hj j hj').1, crep_cut (hj j hj').2 (belowL_getD hn j hj')⟩⟩
  | row sh es =>
    rcases h with h | ⟨m, ccs, hB, hl, hj⟩
    · exact .inl h
    · exact .inr ⟨m, ccs, hB, hl, fun i hi => ⟨(hj i hi).1, fun j hj' => ⟨((hj i hi).2 j hj').1, ((hj i hi).2 j hj').2.cut (below_cellAt (belowL_getD hn i hi) j)⟩⟩⟩
  | spare sh n2 q2 =>
    obtain ⟨cap, off, h1, h2, h⟩ := h
    simp only [belowRes, decide_eq_true_eq] at hn
    exact ⟨cap, off, by rw [List.getElem?_take, if_pos (by omega)]; exact h1, by rw [List.getElem?_take, if_pos (by omega)]; exact h2, h⟩
  | loop fid key vals s p =>
    obtain ⟨ho, L, fn, c, hb, h1, h2, h3, h4, h5, h6, h7, h8⟩ := h
    exact ⟨ho, L, fn, c, hb, h1, h2, h3, h4, h5, h6, h7, fun t => (h8 t).cut (below_envOf _ _ hn t)⟩
  | iter z p => exact h
  | map ck cv es => exact h

theorem belowSt_get {k : Nat} : ∀ {st : St}, belowSt k st = true → ∀ (q : Nat) (y : Res), st[q]? = some y → belowRes k y = true
  | [], _, q, y, h => by simp at h
  | z :: st, hb, 0, y, h => by
    simp only [belowSt, Bool.and_eq_true] at hb
    simp only [List.getElem?_cons_zero, Option.some.injEq] at h
    subst h; exact hb.1
  | z :: st, hb, q + 1, y, h => by
    simp only [belowSt, Bool.and_eq_true] at hb
    simp only [List.getElem?_cons_succ] at h
    exact belowSt_get hb.2 q y h

theorem sto_cut (h : Sto P cfg base w own μ st) {k : Nat} (hb : belowSt k (st.take k) = true) : Sto P cfg base w own (μ.take k) (st.take k) := by
  refine ⟨by simp [h.len], fun q y b hy hm => ?_, h.alloc, h.low, h.size⟩
  have hq : belowRes k y = true := belowSt_get hb q y hy
  rw [List.getElem?_take] at hy hm
  split at hy
  · rename_i hlt
    rw [if_pos hlt] at hm
    exact rrep_cut (h.res q y b hy hm) hq
  · cases hy

theorem keeps_cut (k : Keeps base w0 own0 μ0 w own μ) : Keeps base w0 own0 μ0 w own (μ.take μ0.length) := by
  refine ⟨k.below, k.pr, k.fr, k.blk, k.obj, [], ?_⟩
  obtain ⟨ν, rfl⟩ := k.mu
  simp

theorem gc_spec {p : Bool} {v : V} {c : Value} (hE : Sto P cfg base w own μ st) (hk : Keeps base w0 own0 μ0 w own μ) (hv : VRep w (prOf own) μ v c) {out : Out} (ho : out = .ret v ∨ out = .panic v) (h : gc p μ0.length out st = some x) :
    ∃ μ', Sto P cfg base w own μ' x.2 ∧ Keeps base w0 own0 μ0 w own μ' ∧ x.1 = out ∧ VRep w (prOf own) μ' v c := by
  have cut : (below μ0.length v && belowSt μ0.length (st.take μ0.length)) = true → ∃ μ', Sto P cfg base w own μ' (st.take μ0.length) ∧ Keeps base w0 own0 μ0 w own μ' ∧ VRep w (prOf own) μ' v c := fun hb => by
    simp only [Bool.and_eq_true] at hb
    exact ⟨_, sto_cut hE hb.2, keeps_cut hk, hv.cut hb.1⟩
  rcases ho with rfl | rfl
  · simp only [gc] at h
    rcases bc_spec h with ⟨_, h⟩ | ⟨_, h⟩
    · obtain ⟨hb, h⟩ := gd_spec h
      cases h
      obtain ⟨μ', h1, h2, h3⟩ := cut hb
      exact ⟨μ', h1, h2, rfl, h3⟩
    · unfold gcE at h
      rcases bc_spec h with ⟨_, h⟩ | ⟨_, h⟩
      · cases h
        exact ⟨μ, hE, hk, rfl, hv⟩
      · rcases bc_spec h with ⟨hb, h⟩ | ⟨_, h⟩
        · cases h
          obtain ⟨μ', h1, h2, h3⟩ := cut hb
          exact ⟨μ', h1, h2, rfl, h3⟩
        · cases h
          exact ⟨μ, hE, hk, rfl, hv⟩
  · simp only [gc] at h
    obtain ⟨hb, h⟩ := gd_spec h
    cases h
    obtain ⟨μ', h1, h2, h3⟩ := cut hb
    exact ⟨μ', h1, h2, rfl, h3⟩

/-! ### marks -/
theorem mark_taken {D : Nat} {ds : List Deferred} (h : Rel P cfg base n w own μ ρ st { tmps := a.tmps, defers := { target := .collected D, args := #[] } :: ds }) (hD : w.heap[D]? = some (.deferred (some []))) (hd : ∀ i, own D i = .d) :
    Rel P cfg base n (w.putObj D (.deferred none)) own μ ρ st { tmps := a.tmps, defers := ds } ∧ Keeps base w own μ (w.putObj D (.deferred none)) own μ := by
  have hlow : base ≤ D := h.sto.low D 0 (by rw [hd]; simp) (by rw [hd]; simp) (by rw [hd]; simp)
  have hsame : ∀ k, k ≠ D → (w.putObj D (.deferred none)).heap[k]? = w.heap[k]? := fun k hk => World.putObj_heap_other hk
  have hB : Below base w (w.putObj D (.deferred none)) := ⟨rfl, rfl, rfl, by simp, fun k hk => hsame k (by omega)⟩
  have s : Step base w own μ (w.putObj D (.deferred none)) own μ (fun g => g = .d) := Step.obj h.sto hd (by simp) rfl (fun c e f hc => by rw [hD] at hc; cases hc) hlow hsame hB
  refine ⟨⟨h.sto.step s h.sto.len fun r y b h1 h2 => .inl ⟨h1, by simp⟩, fun t => s.trep (h.env t) (by simp) fun y off hy => ⟨rfl, (env_keep h t y off hy).2⟩, h.tmps, fun y hy => ?_, (List.nodup_cons.1 h.apart).2⟩, s.keeps (by simp)⟩
  obtain ⟨D', h1, h2, h3⟩ := h.defers y (by simp only [List.mem_cons]; exact .inr hy)
  have hne : D' ≠ D := fun e => (List.nodup_cons.1 h.apart).1 (by rw [← e, ← h1]; exact hy)
  exact ⟨D', h1, (hsame D' hne).trans h2, h3⟩

theorem leaves_marks {F : Fence} {m : Nat} {fn : Func} {R : Ending → World → Prop} {u : FrameMode} (hu : u ≠ .run) : ∀ (ds : List Deferred) (w : World), Rel P cfg base n w own μ ρ st { tmps := a.tmps, defers := ds } → Keeps base w0 own0 μ0 w own μ →
    (∀ w', Rel P cfg base n w' own μ ρ st { tmps := a.tmps, defers := [] } → Keeps base w0 own0 μ0 w' own μ → Keeps base w own μ w' own μ → LeavesIn F m P fn a.tmps R [] u w') → LeavesInM F m P fn a.tmps R ds u w
  | [], w, h, hk, hend => hend w h hk Keeps.refl
  | d :: ds, w, h, hk, hend => by
    obtain ⟨D, rfl, hD, hd⟩ := h.defers d (by simp)
    obtain ⟨h1, h2⟩ := mark_taken h hD hd
    exact ⟨hu, .inl ⟨D, _, rfl, run_takeDeferred hD, leaves_marks hu ds _ h1 (hk.trans h2) fun w' k1 k2 k3 => hend w' k1 k2 (h2.trans k3)⟩⟩

/-- What a call hands back of its results. -/
def resC : List Value → Value
  | [c] => c
  | cs => .tuple cs.toArray

theorem run_results {fn : Func} {tmps : Array Value} {cs : List Value} (h : (fn.results.toList.mapM (resAct tmps)).run P w = .ok cs w) : (results fn tmps).run P w = .ok (resC cs) w := by
  have he : (fun | .tmp t => pure (tmps.getD t undef) | .cell a t => do loadVar t (← asAddr (tmps.getD a undef)) : ResultVar → Sem Value) = resAct tmps := by
    funext x; cases x <;> rfl
  have h2 : (results fn tmps).run P w = ((fn.results.mapM (resAct tmps) >>= fun vs => pure (if h : vs.size = 1 then vs[0] else .tuple vs) : Sem Value)).run P w := by
    rw [← he]; rfl
  rw [h2, Array.mapM_eq_mapM_toList]
  simp only [Sem.run_bind, map_eq_pure_bind, h, Result.andThen_ok, Sem.run_pure]
  match cs with
  | [] => rfl
  | [c] => rfl
  | c :: c' :: cs => simp [resC]

theorem results_rep : ∀ {vs : List V} {cs : List Value}, vs.length = cs.length → (∀ i, i < vs.length → VRep w (prOf own) μ (vs.getD i .undef) (cs.getD i undef)) →
    VRep w (prOf own) μ (match vs with | [v] => v | vs => .tup vs) (resC cs)
  | [v], [c], _, h8 => by simpa [resC] using h8 0 (by simp)
  | [], [], _, h8 => .tup [] #[] rfl fun i hi => by simp at hi
  | [], _ :: _, h, _ => by simp at h
  | _ :: _, [], h, _ => by simp at h
  | [_], _ :: _ :: _, h, _ => by simp at h
  | _ :: _ :: _, [_], h, _ => by simp at h
  | v :: v' :: vs, c :: c' :: cs, h7, h8 => by
    refine .tup _ _ (by simpa using h7) fun i hi => ?_
    have := h8 i hi
    simpa [Array.getD_eq_getD_getElem?, List.getD_eq_getElem?_getD] using this

theorem body_end {m : Nat} {F : Fence} {fn : Func} (hR : Rel P cfg base n w own μ ρ st a) (hk : Keeps base w0 own0 μ0 w own μ) {p : Bool} (hl : fn.results.size ≤ fn.resultTypes.size)
    {rm : Bool} (h : resultsK P rm μ0.length ρ st (fn.results.toList.zip fn.resultTypes.toList) (fun vs st' => gc p μ0.length (.ret (match vs with | [v] => v | vs => .tup vs)) st') = some x) :
    LeavesInM F m P fn a.tmps (CallPost P cfg base w0 own0 μ0 x) a.defers .returning w := by
  refine leaves_marks (by simp) a.defers w hR hk fun w' h1 h2 _ => ?_
  obtain ⟨vs, st', own2, cs, h3, h4, h5, h6, h7, h8, h9⟩ := resultsK_spec (a := { tmps := a.tmps, defers := [] }) h1 _ _ st (ownE own) _ (by simpa using hl) (sto_end h1.sto) (ownE_flat own) (fun b i hb => by
    rcases hb with hb | ⟨t, j, hb⟩ <;> simp only [ownE, hb]) h
  refine ⟨resC cs, run_results h9, ?_⟩
  have hke : Keeps base w' own μ w' (ownE own) μ := (step_end h1.sto).keeps (by simp)
  have hv := results_rep h7 h8
  obtain ⟨μ', k1, k2, k3, k4⟩ := gc_spec h4 ((h2.trans hke).trans h6) hv (.inl rfl) h3
  refine ⟨resC cs, own2, μ', k1, k2, ?_⟩
  rw [k3]
  exact ⟨rfl, k4⟩

/-- The end of a frame, where one slice keeps its room. -/
def ownG (t L : Nat) (own : Own) : Own := fun b i => match own b i with | .t t' j => (if t' = t ∧ j = 0 then .r L 0 else .pr) | .d => .free | g => g
theorem step_endG (hs : Sto P cfg base w own μ st) (t L : Nat) : Step base w own μ w (ownG t L own) μ (fun g => (∃ t j, g = .t t j) ∨ g = .d) := by
  refine Step.retag hs (fun g => match g with | .t t' j => (if t' = t ∧ j = 0 then .r L 0 else .pr) | .d => .free | g => g) rfl (fun g hg => ?_) (fun g hg => ?_) rfl rfl
  · cases g with
    | t t j => exact absurd (.inl ⟨t, j, rfl⟩) hg
    | d => exact absurd (.inr rfl) hg
    | _ => rfl
  · cases g with
    | fr => rfl
    | t t' j =>
      simp only at hg
      split at hg <;> cases hg
    | _ => cases hg
theorem GRep.endG {t L : Nat} {sh : Sh} {es : List V} {c : Value} (h : GRep w own μ (.t t 0) sh es c) : GRep w (ownG t L own) μ (.r L 0) sh es c := by
  obtain ⟨A, cap, hc, hl, h⟩ := h
  refine ⟨A, cap, hc, hl, ?_⟩
  have hp : ∀ b i, own b i = .pr → ownG t L own b i = .pr := fun b i hp => by simp [ownG, hp]
  rcases h with h | ⟨a, f, ccs, ty, fz, hA, ha, hb, hcap, hcell, hsh, hrep, hsp⟩
  · exact .inl h
  · refine .inr ⟨a, f, ccs, ty, fz, hA, ha, hb, hcap, fun i j hi hj => ?_, hsh, fun i j hi hj => (hrep i j hi hj).mono (fun b i e => ⟨hp b i e, rfl⟩) fun _ _ h => h, fun k h1 h2 => ?_⟩
    · obtain ⟨h1, h2, h3⟩ := hcell i j hi hj
      exact ⟨h1, hp _ _ h2, h3⟩
    · obtain ⟨h3, h4⟩ := hsp k h1 h2
      exact ⟨by simp [ownG, h3], h4⟩

theorem body_grow {m : Nat} {F : Fence} {fn : Func} (hR : Rel P cfg base n w own μ ρ st a) (hk : Keeps base w0 own0 μ0 w own μ) {rm : Bool} {t : Nat} {sh : Sh} {es : List V} (hg : grownR rm ρ fn.results.toList = some (t, sh, es))
    (hb : (belowL μ0.length es && belowSt μ0.length (st.take μ0.length)) = true) :
    LeavesInM F m P fn a.tmps (CallPost P cfg base w0 own0 μ0 (.ret (.spr sh es μ0.length), st.take μ0.length ++ [.spare sh es.length (μ0.length + 1), .dead, .dead])) a.defers .returning w := by
  refine leaves_marks (by simp) a.defers w hR hk fun w' h1 h2 _ => ?_
  obtain ⟨hres, hget⟩ : fn.results.toList = [.tmp t] ∧ ρ.get t = .vec .grow sh es := by
    unfold grownR at hg
    split at hg
    · cases hg
    · split at hg
      · rename_i x hx
        split at hg
        · rename_i hv
          cases hg
          exact ⟨hx, hv⟩
        · cases hg
      · cases hg
  have hG : GRep w' own μ (.t t 0) sh es (a.tmps.getD t undef) := by
    have := h1.env t
    rw [hget] at this
    exact this
  simp only [Bool.and_eq_true] at hb
  have s := step_endG h1.sto t μ0.length
  have hs2 : Sto P cfg base w' (ownG t μ0.length own) μ st := h1.sto.step s h1.sto.len fun r x b h1 h2 => .inl ⟨h1, by rintro j (⟨_, _, e⟩ | e) <;> cases e⟩
  have hk2 := h2.trans (s.keeps (by simp))
  have hl : (st.take μ0.length).length = μ0.length := by
    obtain ⟨ν, hν⟩ := h2.mu
    rw [List.length_take, ← h1.sto.len, hν]
    simp
  have hb1 : below μ0.length (.vec .grow sh es) = true := by simpa [below] using hb.1
  have hs3 := sto_cut hs2 hb.2
  have hk3 := keeps_cut hk2
  have hG3 : GRep w' (ownG t μ0.length own) (μ.take μ0.length) (.r μ0.length 0) sh es (a.tmps.getD t undef) := crep_cut (v := .vec .grow sh es) hG.endG hb1
  generalize μ.take μ0.length = μ1 at hs3 hk3 hG3
  have hl1 : μ1.length = μ0.length := by rw [hs3.len, hl]
  obtain ⟨A, cap, hc, hcap, hor⟩ := hG3
  -- where the room is
  obtain ⟨blk, off, hA, hroom⟩ : ∃ blk off, (cap = 0 ∨ A = some ⟨blk, off, none⟩) ∧ (cap = 0 ∨ ∃ ccs ty fz, w'.heap[blk]? = some (.cells ccs ty fz) ∧ off + cap * sh.sz ≤ ccs.size ∧
      ∀ k, es.length * sh.sz ≤ k → k < cap * sh.sz → ownG t μ0.length own blk (off + k) = .r μ0.length 0 ∧ w'.frozen? ⟨blk, off + k, none⟩ = false) := by
    rcases hor with ⟨_, h0⟩ | ⟨ad, f, ccs, ty, fz, hA, ha, hb, hsz, _, _, _, hsp⟩
    · exact ⟨0, 0, .inl h0, .inl h0⟩
    · obtain ⟨b, off, sp⟩ := ad
      simp only at ha
      subst ha
      exact ⟨b, off, .inr hA, .inr ⟨ccs, ty, fz, hb, hsz, hsp⟩⟩
  have s2 : Step base w' (ownG t μ0.length own) μ1 w' (ownG t μ0.length own) (μ1 ++ [blk, cap, off]) (fun _ => False) := by
    have := Step.refl' hs3
    exact ⟨this.below, this.pr, this.tag, this.fr, this.alloc, this.low, this.blk, this.whole, _, rfl⟩
  have hplain : VRep w' (prOf (ownG t μ0.length own)) (μ1 ++ [blk, cap, off]) (.vec .plain sh es) (a.tmps.getD t undef) := s2.vrep (GRep.plain ⟨A, cap, hc, hcap, hor⟩)
  have e0 : (μ1 ++ [blk, cap, off])[μ0.length]? = some blk := by rw [← hl1]; simp
  have e1 : (μ1 ++ [blk, cap, off])[μ0.length + 1]? = some cap := by rw [← hl1]; simp
  have e2 : (μ1 ++ [blk, cap, off])[μ0.length + 2]? = some off := by rw [← hl1]; simp
  refine ⟨a.tmps.getD t undef, run_results (cs := [a.tmps.getD t undef]) (by rw [hres]; rfl), a.tmps.getD t undef, ownG t μ0.length own, μ1 ++ [blk, cap, off], ?_, hk3.trans (s2.keeps (by simp)), rfl, ?_⟩
  · refine hs3.step s2 (by simp [hl, hl1]) fun r x b hx hm => ?_
    by_cases hr : r < μ0.length
    · left
      rw [List.getElem?_append_left (by rw [hl]; exact hr)] at hx
      exact ⟨hx, fun _ h => h⟩
    · right
      rw [List.getElem?_append_right (by rw [hl]; omega), hl] at hx
      generalize hd : r - μ0.length = d at hx
      match d, hx with
      | 0, hx =>
        have : r = μ0.length := by omega
        subst this
        cases hx
        rw [e0] at hm
        cases hm
        exact ⟨cap, off, e1, e2, hroom⟩
      | 1, hx => cases hx; trivial
      | 2, hx => cases hx; trivial
      | k + 3, hx => simp at hx
  · rw [hc] at hplain ⊢
    exact .spr sh es μ0.length blk cap off A e0 e1 e2 hA hplain

theorem body_panic {m : Nat} {F : Fence} {fn : Func} {ρ' : Env} (hR : Rel P cfg base n w own μ ρ' st a) (hk : Keeps base w0 own0 μ0 w own μ) {p : Bool} {v : V} {c : Value} (hv : VRep w (prOf own) μ v c) (h : gc p μ0.length (.panic v) st = some x) :
    LeavesInM F m P fn a.tmps (CallPost P cfg base w0 own0 μ0 x) a.defers (.panicking [{ v := c, recovered := false }]) w := by
  refine leaves_marks (by simp) a.defers w hR hk fun w' h1 h2 h3 => ?_
  obtain ⟨μ', k1, k2, k3, k4⟩ := gc_spec h1.sto h2 (h3.vrep hv) (.inr rfl) h
  refine ⟨c, own, μ', k1, k2, ?_⟩
  rw [k3]
  exact ⟨rfl, k4⟩
end
end Go.AM

/-! A call, from its body. -/
namespace Go.AM
open Go Go.RowKit

section
variable {P : Program} {cfg : Cfg} {ext : Ext} {base n : Nat} {w w' w0 : World} {own own' own0 own1 own2 : Own} {μ μ' μ0 : List Nat} {ρ : Env} {st st' : St} {a : Act} {x : Out × St}

theorem get_envArgsFrom : ∀ (vs : List V) (i t : Nat), (envArgsFrom i vs).get t = if i ≤ t ∧ t < i + vs.length then vs.getD (t - i) .undef else .undef
  | [], i, t => by
    have : ¬ (i ≤ t ∧ t < i + 0) := by omega
    simp [envArgsFrom, Env.get]
  | v :: vs, i, t => by
    have : (envArgsFrom i (v :: vs)).get t = (Env.set (envArgsFrom (i + 1) vs) i v).get t := rfl
    rw [this, get_set, get_envArgsFrom vs (i + 1) t]
    by_cases e : t = i
    · subst e; simp
    · rw [if_neg e]
      by_cases h : i + 1 ≤ t ∧ t < i + 1 + vs.length
      · rw [if_pos h, if_pos (by simp; omega)]
        obtain ⟨k, hk⟩ : ∃ k, t - i = k + 1 := ⟨t - i - 1, by omega⟩
        rw [hk, show t - (i + 1) = k from by omega]
        simp
      · rw [if_neg h, if_neg (by simp; omega)]

theorem rel_enter {fn : Func} {args : List V} {cargs : Array Value} (hs : Sto P cfg base w own μ st) (ha : Args w own μ args cargs) (hl : args.length ≤ fn.ntmps) :
    Rel P cfg base fn.ntmps w own μ (envArgs args) st { tmps := cargs ++ Array.replicate (fn.ntmps - cargs.size) undef, defers := [] } ∧ NoL (envArgs args) := by
  have hv : ∀ t, (envArgs args).get t = .undef ∨ (t < args.length ∧ (envArgs args).get t = args.getD t .undef) := fun t => by
    unfold envArgs
    rw [get_envArgsFrom]
    split
    · rename_i h; exact .inr ⟨by omega, by simp⟩
    · exact .inl rfl
  have hT : ∀ t, VRep w (prOf own) μ ((envArgs args).get t) ((cargs ++ Array.replicate (fn.ntmps - cargs.size) undef).getD t undef) := fun t => by
    rcases hv t with h | ⟨h, h2⟩
    · rw [h]; exact .undef _
    · rw [h2]
      have := ha.2 t h
      have hlt : t < cargs.size := by rw [← ha.1]; exact h
      rw [Array.getD_eq_getD_getElem?, Array.getElem?_append_left hlt, ← Array.getD_eq_getD_getElem?]
      exact this
  refine ⟨⟨hs, fun t => .of_val (hT t), ?_, (fun y hy => by cases hy), .nil⟩, fun t y off e => ?_⟩
  · have := ha.1
    simp; omega
  · have := hT t
    rw [e] at this
    cases this

/-- The conditions on a function's code. -/
theorem okCode_spec {n : Nat} {c : Code} (h : okCode n c = true) : okTmps n c = true ∧ HasL (fun k => findL k c) c ∧ HasR (fun k => findR k c) c ∧ simple c = true ∧ HasS (fun k => findS k c) c := by
  simp only [okCode, Bool.and_eq_true, List.all_eq_true] at h
  obtain ⟨⟨⟨⟨⟨h1, h2⟩, h3⟩, h4⟩, h5⟩, h6⟩ := h
  exact ⟨h1, hasL_of (nodupB_spec h2) fun k hk => ⟨Nat.le_of_ble_eq_true (h5 k hk), rfl⟩, hasR_of (nodupB_spec h3) fun k hk => rfl, h6, hasS_of (nodupB_spec h4) fun l _ => rfl⟩

/-- The end of a body. -/
theorem callBody_ok (hm : P.follows .mixedOrders = true) (hP : PlainNames P) {m0 : Nat} (hO : FuelOK P cfg ext m0) : CallOK P cfg (callBody P cfg (fuelO P cfg ext m0)) := by
  intro f args st x h
  unfold callBody at h
  split at h
  · cases h
  · rename_i fn hf
    split at h
    · cases h
    · rename_i c hb
      refine ⟨⟨fn, hf, by rw [hb]; rfl⟩, ?_⟩
      intro n base w own μ cargs hs hfl ha
      obtain ⟨hg, h⟩ := gd_spec h
      simp only [Bool.and_eq_true, decide_eq_true_eq] at hg
      obtain ⟨⟨_, hl⟩, hok⟩ := hg
      obtain ⟨h1, h2, h3, h4, h5⟩ := okCode_spec hok
      obtain ⟨hR, hN⟩ := rel_enter (fn := fn) hs ha hl
      refine callsIn_of_wp_marks hf hb trivial ?_
      refine wpIn_mono (exec_wp (ro := none) (m := n) hm hP hO hf hb hok c h1 h4 h2 h3 h5 (.inl rfl) m0 (Nat.le_refl _) _ x _ _ st _ w own μ hR hN h) fun e a' w' hF => ?_
      rw [← hs.len] at hF
      cases e with
      | normal =>
        obtain ⟨ρ', st', own', μ', k1, k2, k3, k4⟩ := hF
        dsimp only at k1
        split at k1
        · rename_i hg2
          obtain ⟨hb2, k1⟩ := gd_spec k1
          cases k1
          exact body_grow k2 k4 hg2 hb2
        · obtain ⟨hsz, k1⟩ := gd_spec k1
          exact body_end k2 k4 (by simpa using hsz) k1
      | ret =>
        obtain ⟨ρ', st', own', μ', k1, k2, k3, k4⟩ := hF
        dsimp only at k1
        split at k1
        · rename_i hg2
          obtain ⟨hb2, k1⟩ := gd_spec k1
          cases k1
          exact body_grow k2 k4 hg2 hb2
        · obtain ⟨hsz, k1⟩ := gd_spec k1
          exact body_end k2 k4 (by simpa using hsz) k1
      | exit i => obtain ⟨ρ', st', own', μ', k1, k2, k3, k4⟩ := hF; cases k1
      | goto l => obtain ⟨ρ', st', own', μ', k1, k2, k3, k4⟩ := hF; cases k1
      | panic ch =>
        obtain ⟨v, cv, ρ', ρ'', st', own', μ', k1, k2, k3, k4, rfl⟩ := hF
        exact body_panic k2 k3 k4 k1
      | outgrown => exact hF.elim
end
end Go.AM

/-! Rounds; all the fuel. -/
namespace Go.AM
open Go Go.RowKit

section
variable {P : Program} {cfg : Cfg} {ext : Ext} {base n : Nat} {w w' w0 : World} {own own' own0 own1 own2 : Own} {μ μ' μ0 : List Nat} {ρ : Env} {st st' : St} {a : Act}

theorem findR_spec {n : Nat} {F : Nat → Option Code} {G : Nat → Option (Array Tmp × Code × Code)} {key : Nat} {ps : Array Tmp} {x y : Code} : ∀ {c : Code}, findR key c = some (ps, x, y) → okTmps n c = true → simple c = true → HasL F c → HasR G c →
    (∀ d ∈ ps.toList, d < n) ∧ (okTmps n x = true ∧ simple x = true ∧ HasL F x ∧ HasR G x ∧ keysR x = [] ∧ noScope x = true) ∧ (okTmps n y = true ∧ simple y = true ∧ HasL F y ∧ HasR G y ∧ keysR y = [] ∧ noScope y = true)
  | .seq a b, h, h1, h2, h3, h4 => by
    simp only [okTmps, Bool.and_eq_true] at h1
    simp only [simple, Bool.and_eq_true] at h2
    simp only [findR] at h
    cases ha : findR key a with
    | some z => rw [ha] at h; simp only [orElse'] at h; cases h; exact findR_spec ha h1.1 h2.1 h3.1 h4.1
    | none => rw [ha] at h; exact findR_spec (c := b) h h1.2 h2.2 h3.2 h4.2
  | .cond _ a b, h, h1, h2, h3, h4 => by
    simp only [okTmps, Bool.and_eq_true] at h1
    simp only [simple, Bool.and_eq_true] at h2
    simp only [findR] at h
    cases ha : findR key a with
    | some z => rw [ha] at h; simp only [orElse'] at h; cases h; exact findR_spec ha h1.1 h2.1 h3.1 h4.1
    | none => rw [ha] at h; exact findR_spec (c := b) h h1.2 h2.2 h3.2 h4.2
  | .block _ b, h, h1, h2, h3, h4 => by
    simp only [okTmps] at h1
    simp only [simple] at h2
    simp only [findR] at h
    exact findR_spec h h1 h2 h3 h4
  | .loop b, h, h1, h2, h3, h4 => by
    simp only [okTmps] at h1
    simp only [simple] at h2
    simp only [findR] at h
    exact findR_spec h h1 h2 h3.2.2 h4
  | .rangeFunc _ ps' a b, h, h1, h2, h3, h4 => by
    simp only [okTmps, Bool.and_eq_true, List.all_eq_true] at h1
    simp only [simple, Bool.and_eq_true, List.isEmpty_iff] at h2
    simp only [findR] at h
    cases hk : Nat.beq (keyOf b) key with
    | true =>
      rw [hk] at h
      simp only [cond_true] at h
      cases h
      exact ⟨fun d hd => by simpa using h1.1.1 d hd, ⟨h1.1.2, h2.1.1.1.1, h3.1, h4.2.1, h2.1.1.2, h2.2.1⟩, ⟨h1.2, h2.1.1.1.2, h3.2, h4.2.2, h2.1.2, h2.2.2⟩⟩
    | false =>
      rw [hk] at h
      simp only [cond_false] at h
      cases ha : findR key a with
      | some z => rw [ha] at h; simp only [orElse'] at h; cases h; exact findR_spec ha h1.1.2 h2.1.1.1.1 h3.1 h4.2.1
      | none => rw [ha] at h; exact findR_spec (c := b) h h1.2 h2.1.1.1.2 h3.2 h4.2.2
  | .scope b, h, h1, h2, h3, h4 => by
    simp only [okTmps] at h1
    simp only [simple] at h2
    simp only [findR] at h
    exact findR_spec h h1 h2 h3 h4
  | .region .., h, _, _, _, _ => by simp [findR] at h
  | .skip, h, _, _, _, _ => by simp [findR] at h
  | .label _, h, _, _, _, _ => by simp [findR] at h
  | .exit _, h, _, _, _, _ => by simp [findR] at h
  | .goto _, h, _, _, _, _ => by simp [findR] at h
  | .ret, h, _, _, _, _ => by simp [findR] at h
  | .refuse _, h, _, _, _, _ => by simp [findR] at h

theorem getD_setIf (tm : Array Value) (t : Nat) (c : Value) (ht : t < tm.size) (x : Nat) : (tm.setIfInBounds t c).getD x undef = if x = t then c else tm.getD x undef := by
  simp only [Array.getD_eq_getD_getElem?]
  by_cases e : x = t
  · subst e; simp [ht]
  · rw [if_neg e, Array.getElem?_setIfInBounds_ne (Ne.symm e)]

/-- A round's temporaries. -/
theorem round_tmps {pr : Nat → Nat → Prop} : ∀ (ps : List Nat) (args : List V) (cargs : List Value) (ρ : Env) (tm : Array Value), args.length = cargs.length → (∀ i, i < args.length → VRep w pr μ (args.getD i .undef) (cargs.getD i undef)) → (∀ d ∈ ps, d < tm.size) →
    (∀ t, VRep w pr μ (ρ.get t) (tm.getD t undef)) →
    ((ps.zip cargs).foldl (fun tmps (x : Nat × Value) => tmps.setIfInBounds x.1 x.2) tm).size = tm.size ∧ ∀ t, VRep w pr μ ((ρ.apply (ps.zip args)).get t) (((ps.zip cargs).foldl (fun tmps (x : Nat × Value) => tmps.setIfInBounds x.1 x.2) tm).getD t undef)
  | [], args, cargs, ρ, tm, _, _, _, h => by simpa [Env.apply] using h
  | p :: ps, [], [], ρ, tm, _, _, _, h => by simpa [Env.apply] using h
  | p :: ps, [], _ :: _, ρ, tm, h, _, _, _ => by simp at h
  | p :: ps, _ :: _, [], ρ, tm, h, _, _, _ => by simp at h
  | p :: ps, v :: args, c :: cargs, ρ, tm, hl, ha, hp, h => by
    simp only [List.zip_cons_cons, List.foldl_cons, Env.apply]
    have hpt : p < tm.size := hp p (by simp)
    obtain ⟨h1, h2⟩ := round_tmps (pr := pr) ps args cargs (ρ.set p v) (tm.setIfInBounds p c) (by simpa using hl) (fun i hi => by simpa using ha (i + 1) (by simpa using hi)) (fun d hd => by simpa using hp d (by simp [hd])) fun t => by
      rw [get_set, getD_setIf _ _ _ hpt]
      split
      · simpa using ha 0 (by simp)
      · exact h t
    exact ⟨by simpa using h1, h2⟩

theorem lst_ready {s : LoopState} {p : Option Code} (h : LStOk .ready none s p) : s = .ready ∧ p = none := by
  cases s <;> cases p <;> first | exact ⟨rfl, rfl⟩ | exact h.elim

theorem lst_jump {s : LoopState} {p : Option Code} (h : LStOk .busy none s p) : s = .busy := by
  cases s <;> first | rfl | exact h.elim

/-- A round's end. -/
theorem round_end {b q : Nat} {jump : Option Code} {s2 : LSt} {p2 : Option Ex} (hj : LStOk s2 p2 (if jump.isNone then .ready else .done) jump) (hR : Rel P cfg base n w own μ ρ st a) (hk : Keeps base w0 own0 μ0 w own μ) (hb : μ0[q]? = some b) {f key : Nat} {vals : List V} {s : LSt} {p : Option Ex}
    (hst : st[q]? = some (.loop f key vals s p)) : ∃ w', (Instr.endRound b jump).run P w = .ok (.bool jump.isNone) w' ∧ CallPost P cfg base w0 own0 μ0 (.ret (.bool jump.isNone), st.set q (.loop f key vals s2 p2)) (.returned (.bool jump.isNone)) w' := by
  have hb2 : μ[q]? = some b := by
    obtain ⟨ν, rfl⟩ := hk.mu
    exact mu_get hb
  obtain ⟨L, hh, _, hput⟩ := rel_loop hR hst hb2
  obtain ⟨k1, k2⟩ := hput { L with state := if jump.isNone then .ready else .done, pending := jump } (.loop f key vals s2 p2) ⟨rfl, rfl, rfl, rfl, rfl⟩ (.inr ⟨s2, p2, rfl, hj⟩)
  exact ⟨_, run_endRound jump hh, _, own, μ, k1.sto, hk.trans k2, rfl, .bool _⟩

theorem roundBody_ok (hm : P.follows .mixedOrders = true) (hP : PlainNames P) {m0 : Nat} (hO : FuelOK P cfg ext m0) : RoundOK P cfg (roundBody P cfg (fuelO P cfg ext m0)) := by
  intro q f key vals args st x hst h n base b w own μ cargs hs hb hfl ha
  obtain ⟨ho, L, fn, c, hh, h1, h2, h3, _, h5, h6, h7, h8⟩ := hs.res q _ b hst hb
  obtain ⟨hL1, hL2⟩ := lst_ready h7
  simp only [roundBody, h1, h2, h5] at h
  obtain ⟨hg, h⟩ := gd_spec h
  simp only [decide_eq_true_eq] at hg
  obtain ⟨c1, c2, c3, c4, c5⟩ := okCode_spec h3
  obtain ⟨d0, ⟨dx1, dx2, dx3, dx4, dx5, dx6⟩, dy1, dy2, dy3, dy4, dy5, dy6⟩ := findR_spec h5 c1 c4 c2 c3
  refine ⟨L.fn, _, L.assign, L.body, run_yield hh (by rw [← ha.1]; exact hg), roundIn_of_wpIn trivial ?_⟩
  obtain ⟨e1, e2⟩ := round_tmps (w := w) (μ := μ) (pr := prOf own) L.params.toList args cargs.toList (envOf ((cfg.keep f key).map (·.1)) vals) L.tmps (by simpa using ha.1) (fun i hi => by
    have := ha.2 i hi
    simpa [Array.getD_eq_getD_getElem?, List.getD_eq_getElem?_getD] using this) (by rw [h6]; exact d0) h8
  have hf : (L.params.zip cargs).foldl (fun tmps (x : Nat × Value) => tmps.setIfInBounds x.1 x.2) L.tmps = (L.params.toList.zip cargs.toList).foldl (fun tmps (x : Nat × Value) => tmps.setIfInBounds x.1 x.2) L.tmps := by
    rw [← Array.foldl_toList, Array.toList_zip]
  have hR : Rel P cfg base fn.ntmps w own μ ((envOf ((cfg.keep f key).map (·.1)) vals).apply (L.params.toList.zip args)) st { tmps := (L.params.zip cargs).foldl (fun tmps (x : Nat × Value) => tmps.setIfInBounds x.1 x.2) L.tmps, defers := [] } := by
    rw [hf]
    exact ⟨hs, fun t => .of_val (e2 t), e1.trans h6, (fun z hz => by cases hz), .nil⟩
  have hN : NoL ((envOf ((cfg.keep f key).map (·.1)) vals).apply (L.params.toList.zip args)) := fun t y off e => by
    have := e2 t
    rw [e] at this
    cases this
  refine wpIn_mono (exec_wp (ro := some b) (m := n) hm hP hO h1 h2 h3 L.assign dx1 dx2 dx3 dx4 (hasS_no dx6) (.inr dx5) m0 (Nat.le_refl _) _ x _ _ st _ w own μ hR hN h) fun e a1 w1 hF => ?_
  cases e with
  | exit i => obtain ⟨_, _, _, _, k1, _⟩ := hF; cases k1
  | goto l => obtain ⟨_, _, _, _, k1, _⟩ := hF; cases k1
  | ret => obtain ⟨_, _, _, _, k1, _⟩ := hF; cases k1
  | panic ch => obtain ⟨_, _, _, _, _, _, _, k1, _⟩ := hF; cases k1
  | outgrown => exact hF.elim
  | normal =>
    obtain ⟨ρ1, st1, own1, μ1, k1, k2, k3, k4⟩ := hF
    obtain ⟨z, hz, k1⟩ := getR_spec k1
    obtain ⟨f1, key1, v1, s1, p1, rfl, k5⟩ := onLoop_spec k1
    unfold onReady at k5
    split at k5
    · have hb1 : μ1[q]? = some b := by
        obtain ⟨ν, rfl⟩ := k4.mu
        exact mu_get hb
      obtain ⟨L1, hh1, hl1, hput⟩ := rel_loop k2 hz hb1
      obtain ⟨g1, g2⟩ := lst_ready hl1
      obtain ⟨k6, k7⟩ := hput { L1 with state := .busy } (.loop f1 key1 v1 .busy none) ⟨rfl, rfl, rfl, rfl, rfl⟩ (.inr ⟨.busy, none, rfl, trivial⟩)
      refine ⟨_, run_beginRound hh1 g1, ?_⟩
      refine wpIn_mono (exec_wp (ro := some b) (m := n) hm hP hO h1 h2 h3 L.body dy1 dy2 dy3 dy4 (hasS_no dy6) (.inr dy5) m0 (Nat.le_refl _) _ x _ _ _ _ _ own1 μ1 k6 k3 k5) fun e a2 w2 hF2 => ?_
      have hF2 := hF2.keeps (k4.trans k7)
      cases e with
      | outgrown => exact hF2.elim
      | panic ch =>
        obtain ⟨_, _, _, _, _, _, _, j1, _⟩ := hF2
        obtain ⟨z, hz, j1⟩ := getR_spec j1
        obtain ⟨f2, key2, v2, s2, p2, rfl, j5⟩ := onLoop_spec j1
        cases s2 <;> cases j5
      | goto l =>
        obtain ⟨_, _, _, _, j1, _⟩ := hF2
        obtain ⟨z, hz, j1⟩ := getR_spec j1
        obtain ⟨f2, key2, v2, s2, p2, rfl, j5⟩ := onLoop_spec j1
        cases s2 <;> cases j5
      | normal =>
        obtain ⟨ρ2, st2, own2, μ2, j1, j2, _, j4⟩ := hF2
        obtain ⟨z, hz, j1⟩ := getR_spec j1
        obtain ⟨f2, key2, v2, s2, p2, rfl, j5⟩ := onLoop_spec j1
        cases s2 <;> cases j5
        obtain ⟨w3, e1, e2⟩ := round_end (jump := none) (s2 := .ready) (p2 := none) trivial j2 j4 hb hz
        exact ⟨_, w3, e1, e2⟩
      | ret =>
        obtain ⟨ρ2, st2, own2, μ2, j1, j2, _, j4⟩ := hF2
        obtain ⟨z, hz, j1⟩ := getR_spec j1
        obtain ⟨f2, key2, v2, s2, p2, rfl, j5⟩ := onLoop_spec j1
        cases s2 <;> cases j5
        obtain ⟨w3, e1, e2⟩ := round_end (jump := some .ret) (s2 := .done) (p2 := some .ret) trivial j2 j4 hb hz
        exact ⟨_, w3, e1, e2⟩
      | exit i =>
        obtain ⟨ρ2, st2, own2, μ2, j1, j2, _, j4⟩ := hF2
        obtain ⟨z, hz, j1⟩ := getR_spec j1
        obtain ⟨f2, key2, v2, s2, p2, rfl, j5⟩ := onLoop_spec j1
        cases s2 <;> cases j5
        obtain ⟨w3, e1, e2⟩ := round_end (jump := some (.exit i)) (s2 := .done) (p2 := some (.exit i)) rfl j2 j4 hb hz
        exact ⟨_, w3, e1, e2⟩
    · cases k5

/-- What is done by a proof of its own. -/
def ExtOK (P : Program) (cfg : Cfg) (ext : Ext) : Prop :=
  ∀ (f : Nat) (x : Oracle → List V → St → Option (Out × St)), ext f = some x → ∀ O, CallOK P cfg O.call → RoundOK P cfg O.round → ∀ (args : List V) (st : St) (y : Out × St), x O args st = some y →
    (∃ fn, P.funcs[f]? = some fn ∧ fn.body.isSome = true) ∧
    ∀ (n base : Nat) (w : World) (own : Own) (μ : List Nat) (cargs : Array Value), Sto P cfg base w own μ st → Flat own → Args w own μ args cargs → CallsIn Fence.wide n P f cargs w (CallPost P cfg base w own μ y)

theorem fuel_ok (hm : P.follows .mixedOrders = true) (hP : PlainNames P) (hE : ExtOK P cfg ext) : ∀ m, FuelOK P cfg ext m
  | 0 => fun k hk => by
    have : k = 0 := by omega
    subst this
    exact ⟨fun f args st x h => (by cases h), fun q f key vals args st x _ h => (by cases h)⟩
  | m + 1 => fun k hk => by
    have ih := fuel_ok hm hP hE m
    rcases Nat.lt_or_ge k (m + 1) with h | h
    · exact ih k (by omega)
    · have : k = m + 1 := by omega
      subst this
      refine ⟨fun f args st x h => ?_, roundBody_ok hm hP ih⟩
      simp only [fuelO, stepO] at h
      split at h
      · rename_i y hy
        exact hE f y hy _ (ih m (Nat.le_refl _)).1 (ih m (Nat.le_refl _)).2 args st x h
      · exact callBody_ok hm hP ih f args st x h

/-- **What the abstract machine tells of a call, the model does.** -/
theorem call_sound (hm : P.follows .mixedOrders = true) (hP : PlainNames P) (hE : ExtOK P cfg ext) (m : Nat) : CallOK P cfg (fuelO P cfg ext m).call := (fuel_ok hm hP hE m m (Nat.le_refl _)).1
end
end Go.AM

/-! The limit of all fuel: an oracle that keeps its own word. -/
namespace Go.AM
open Go

section
variable {P : Program} {cfg : Cfg} {fid : Nat} {R : Type} {r : R} {α : Type}

/-- From some number on. -/
def Evt (p : Nat → Prop) : Prop := ∃ n, ∀ m, n ≤ m → p m
theorem Evt.of {p : Nat → Prop} (h : ∀ m, p m) : Evt p := ⟨0, fun m _ => h m⟩
theorem Evt.mono {p q : Nat → Prop} (h : Evt p) (f : ∀ m, p m → q m) : Evt q := let ⟨n, h⟩ := h; ⟨n, fun m hm => f m (h m hm)⟩
theorem Evt.and {p q : Nat → Prop} (h : Evt p) (k : Evt q) : Evt fun m => p m ∧ q m := by
  obtain ⟨a, h⟩ := h
  obtain ⟨b, k⟩ := k
  exact ⟨max a b, fun m hm => ⟨h m (by omega), k m (by omega)⟩⟩
theorem Evt.map2 {p q s : Nat → Prop} (h : Evt p) (k : Evt q) (f : ∀ m, p m → q m → s m) : Evt s := (h.and k).mono fun m h => f m h.1 h.2

theorem obind_ok {x : Option α} {K : α → Option R} (h : obind x K = some r) : ∃ y, x = some y ∧ K y = some r := by
  cases x with
  | none => cases h
  | some y => exact ⟨y, rfl, h⟩
theorem gd_ok {b : Bool} {x : Option R} (h : gd b x = some r) : b = true ∧ x = some r := by
  cases b with
  | true => exact ⟨rfl, h⟩
  | false => cases h
theorem bc_ok {b : Bool} {x y : Option R} (h : bc b x y = some r) : (b = true ∧ x = some r) ∨ (b = false ∧ y = some r) := by
  cases b with
  | true => exact .inl ⟨rfl, h⟩
  | false => exact .inr ⟨rfl, h⟩

/-! ### what lives hands on what it is given -/
theorem onLoc_obind (sh : Sh) (v : V) (F : Bool → V → Option α) (K : α → Option R) : obind (onLoc sh v F) K = onLoc sh v fun d u => obind (F d u) K := by
  cases v <;> try rfl
  simp only [onLoc]; split <;> rfl
theorem onRowV_obind (sh : Sh) (v : V) (F : Nat → Nat → Nat → Option α) (K : α → Option R) : obind (onRowV sh v F) K = onRowV sh v fun a b c => obind (F a b c) K := by
  cases v <;> try rfl
  simp only [onRowV]; split <;> rfl
theorem onRef_obind (v : V) (F : Nat → Option α) (K : α → Option R) : obind (onRef v F) K = onRef v fun a => obind (F a) K := by
  cases v <;> try rfl
  rename_i q i
  cases i <;> rfl
theorem onRoom_obind (sh : Sh) (v : V) (F : List V → Option α) (K : α → Option R) : obind (onRoom sh v F) K = onRoom sh v fun a => obind (F a) K := by
  cases v <;> try rfl
  rename_i m _ _
  cases m <;> try rfl
  · simp only [onRoom]; split <;> rfl
  · simp only [onRoom]; split <;> rfl

mutual
theorem coerceK_obind (k : Kd) (v : V) (F : V → Option α) (K : α → Option R) : obind (coerceK P k v F) K = coerceK P k v fun v => obind (F v) K := by
  match k with
  | .ty t => unfold coerceK; exact coerce1_obind ..
  | .ct c => unfold coerceK; exact coerceCell_obind ..
  | .loc t => unfold coerceK; rw [onLoc_obind]; congr 1; funext d u; exact coerce1_obind ..
  | .locA sh => unfold coerceK; rw [onLoc_obind]
  | .dloc sh ks => unfold coerceK; rw [onLoc_obind]; congr 1; funext d u; rw [onAgg_obind]; congr 1; funext cs; exact coerceKs_obind ..
  | .row sh => unfold coerceK; rw [onRowV_obind]
  | .grow sh => unfold coerceK; rw [gd_obind, onRoom_obind]
  | .full sh => unfold coerceK; rw [onFull_obind]
  | .ref => unfold coerceK; rw [onRef_obind]
  | .mp => unfold coerceK; rw [onMp_obind]
  | .any => unfold coerceK; rfl
theorem coerceKs_obind (ks : List Kd) (vs : List V) (F : List V → Option α) (K : α → Option R) : obind (coerceKs P ks vs F) K = coerceKs P ks vs fun v => obind (F v) K := by
  match ks with
  | [] => unfold coerceKs; rw [onNil_obind]
  | k :: ks => unfold coerceKs; rw [onCons_obind]; congr 1; funext v us; rw [coerceK_obind]; congr 1; funext v; rw [coerceKs_obind]
end

theorem coerceKeep_obind : ∀ (l : List (Nat × Kd)) (ρ : Env) (F : List V → Option α) (K : α → Option R), obind (coerceKeep P l ρ F) K = coerceKeep P l ρ fun v => obind (F v) K
  | [], ρ, F, K => by unfold coerceKeep; rfl
  | (t, k) :: l, ρ, F, K => by unfold coerceKeep; rw [coerceK_obind]; congr 1; funext v; rw [coerceKeep_obind]

theorem coerceOuts_obind : ∀ (l : List (Nat × Kd)) (vs : List V) (F : Env → Option α) (K : α → Option R), obind (coerceOuts P l vs F) K = coerceOuts P l vs fun v => obind (F v) K
  | [], vs, F, K => by unfold coerceOuts; rw [onNil_obind]
  | (t, k) :: l, vs, F, K => by unfold coerceOuts; rw [onCons_obind]; congr 1; funext v us; rw [coerceK_obind]; congr 1; funext v; rw [coerceOuts_obind]

theorem coerceKeep_step (l : List (Nat × Kd)) (ρ : Env) (K : List V → Option R) : coerceKeep P l ρ K = obind (coerceKeep P l ρ some) K := by rw [coerceKeep_obind]; rfl
theorem coerceOuts_step (l : List (Nat × Kd)) (vs : List V) (K : Env → Option R) : coerceOuts P l vs K = obind (coerceOuts P l vs some) K := by rw [coerceOuts_obind]; rfl

/-- What comes out, comes out of what a chain of oracles comes to. -/
structure OLim (Os : Nat → Oracle) (O : Oracle) : Prop where
  call : ∀ f args st x, O.call f args st = some x → Evt fun m => (Os m).call f args st = some x
  loop : ∀ f key vals st x, O.loop f key vals st = some x → Evt fun m => (Os m).loop f key vals st = some x
  round : ∀ l f key vals args st x, O.round l f key vals args st = some x → Evt fun m => (Os m).round l f key vals args st = some x

section
variable {Os : Nat → Oracle} {O : Oracle} (hO : OLim Os O)
include hO

theorem pcall_lim {g : Nat} {args : List V} {v : V} (h : pcall O g args = some v) : Evt fun m => pcall (Os m) g args = some v := by
  unfold pcall at h
  obtain ⟨h1, h⟩ := gd_ok h
  obtain ⟨x, hx, h⟩ := obind_ok h
  refine (hO.call _ _ _ _ hx).mono fun m hm => ?_
  unfold pcall
  rw [h1, hm]
  exact h

theorem applyV_lim {fv : V} {args : List V} {st : St} {x : Out × St} (h : applyV cfg O fv args st = some x) : Evt fun m => applyV cfg (Os m) fv args st = some x := by
  unfold applyV at h
  split at h
  · rename_i g first cap
    rcases bc_ok h with ⟨hp, h⟩ | ⟨hp, h⟩
    · obtain ⟨v, hv, h⟩ := obind_ok h
      refine (pcall_lim hO hv).mono fun m hm => ?_
      unfold applyV
      simp only [hp, hm]
      exact h
    · refine (hO.call _ _ _ _ h).mono fun m hm => ?_
      unfold applyV
      simp only [hp, hm]
      rfl
  · rename_i l
    unfold getR at h
    split at h
    · rename_i y hy
      unfold onLoop at h
      dsimp only at h
      split at h
      · split at h
        · obtain ⟨z, hz, h⟩ := obind_ok h
          refine (hO.round _ _ _ _ _ _ _ hz).mono fun m hm => ?_
          unfold applyV getR onLoop
          simp only [hy, hm]
          exact h
        · cases h
      · cases h
    · cases h
  · cases h

theorem callOp_lim {rid idx : Nat} {o : Oper} {c : Call} {f : Operand} {ρ : Env} {st : St} {F : List (Nat × V) → St → Option R} {G : V → St → Option R} (h : callOp P cfg O fid rid idx o c f ρ st F G = some r) : Evt fun m => callOp P cfg (Os m) fid rid idx o c f ρ st F G = some r := by
  unfold callOp at h
  obtain ⟨h1, h⟩ := gd_ok h
  split at h
  · rename_i g
    split at h
    · rename_i e x hgc
      refine Evt.of fun m => ?_
      unfold callOp
      simp only [h1, hgc]
      exact h
    rename_i hgc
    rcases bc_ok h with ⟨he, h⟩ | ⟨he, h⟩
    · refine Evt.of fun m => ?_
      unfold callOp
      simp only [h1, hgc, he]
      exact h
    rcases bc_ok h with ⟨hp, h⟩ | ⟨hp, h⟩
    · obtain ⟨v, hv, h⟩ := obind_ok h
      refine (pcall_lim hO hv).mono fun m hm => ?_
      unfold callOp
      simp only [h1, hgc, he, hp, hm]
      exact h
    · obtain ⟨v, hv, h⟩ := obind_ok h
      refine (hO.call _ _ _ _ hv).mono fun m hm => ?_
      unfold callOp
      simp only [h1, hgc, he, hp, hm]
      exact h
  · rename_i hne
    rw [applyK_eq] at h
    obtain ⟨v, hv, h⟩ := obind_ok h
    refine (applyV_lim hO hv).mono fun m hm => ?_
    unfold callOp
    split
    · exact absurd rfl (hne _)
    · simp only [h1, applyK_eq, hm]
      exact h

theorem stepS_lim {rid idx : Nat} {o : Oper} {ρ : Env} {st : St} {y : (List (Nat × V) × St) ⊕ (V × St)} (h : stepS P cfg O fid rid idx o ρ st = some y) : Evt fun m => stepS P cfg (Os m) fid rid idx o ρ st = some y := by
  unfold stepS runOp at h ⊢
  split at h
  · exact .of fun m => h
  · exact callOp_lim hO h
  · exact .of fun m => h
  · exact .of fun m => h
  · exact .of fun m => h

theorem runOp_lim {rid idx : Nat} {o : Oper} {ρ : Env} {st : St} {F : List (Nat × V) → St → Option R} {G : V → St → Option R} {F' : Nat → List (Nat × V) → St → Option R} {G' : Nat → V → St → Option R}
    (hF : ∀ us st, F us st = some r → Evt fun m => F' m us st = some r) (hG : ∀ v st, G v st = some r → Evt fun m => G' m v st = some r) (h : runOp P cfg O fid rid idx o ρ st F G = some r) :
    Evt fun m => runOp P cfg (Os m) fid rid idx o ρ st (F' m) (G' m) = some r := by
  rw [runOp_stepS] at h
  obtain ⟨y, hy, h⟩ := obind_ok h
  cases y with
  | inl x => exact (stepS_lim hO hy).map2 (hF _ _ h) fun m h1 h2 => by rw [runOp_stepS, h1]; exact h2
  | inr x => exact (stepS_lim hO hy).map2 (hG _ _ h) fun m h1 h2 => by rw [runOp_stepS, h1]; exact h2

theorem panRun_lim {rid : Nat} {all : List Oper} {i : Nat} {fi : Foot} {st : St} {X : Option R} {X' : Nat → Option R} (hX : X = some r → Evt fun m => X' m = some r) : ∀ (rest : List Oper) (j : Nat) (ρ : Env) (fs : List Foot),
    panRun P cfg O fid rid all i fi st rest j ρ fs X = some r → Evt fun m => panRun P cfg (Os m) fid rid all i fi st rest j ρ fs (X' m) = some r
  | [], j, ρ, fs, h => by
    simp only [panRun] at h ⊢
    obtain ⟨hg, h⟩ := gd_ok h
    exact (hX h).mono fun m hm => by rw [hg]; exact hm
  | o :: rest, j, ρ, fs, h => by
    simp only [panRun] at h ⊢
    rcases bc_ok h with ⟨hb, h⟩ | ⟨hb, h⟩
    · exact (panRun_lim hX rest _ _ _ h).mono fun m hm => by rw [hb]; exact hm
    · obtain ⟨hg, h⟩ := gd_ok h
      refine (runOp_lim hO (F' := fun m us _ => gd (commute (footOf cfg fid rid j o [] ρ (us.map (·.1))) fi && notW (footOf cfg fid rid j o [] ρ (us.map (·.1))).sk) (panRun P cfg (Os m) fid rid all i fi st rest (j + 1) (ρ.apply us) (footOf cfg fid rid j o [] ρ (us.map (·.1)) :: fs) (X' m))) (G' := fun m _ _ => none) (fun us st' h => ?_) (fun v st' h => by cases h) h).mono fun m hm => ?_
      · obtain ⟨hg2, h⟩ := gd_ok h
        exact (panRun_lim hX rest _ _ _ h).mono fun m hm => by rw [hg2]; exact hm
      · rw [hb, hg]; exact hm

theorem execOne_lim {rid : Nat} {all : List Oper} {draw : Bool} {fs : List Foot} {rest : List Oper} {o : Oper} {i : Nat} {ρ : Env} {st : St} {C : List Nat → Env → List (Nat × V) → St → Option R} {D : List Nat → Env → Option R} {K : Ex → Env → St → Option R}
    {C' : Nat → List Nat → Env → List (Nat × V) → St → Option R} {D' : Nat → List Nat → Env → Option R} {K' : Nat → Ex → Env → St → Option R}
    (hC : ∀ g ρ us st, C g ρ us st = some r → Evt fun m => C' m g ρ us st = some r) (hD : ∀ g ρ, D g ρ = some r → Evt fun m => D' m g ρ = some r) (hK : ∀ e ρ st, K e ρ st = some r → Evt fun m => K' m e ρ st = some r)
    (h : execOne P cfg O fid rid all draw fs rest o i ρ st C D K = some r) : Evt fun m => execOne P cfg (Os m) fid rid all draw fs rest o i ρ st (C' m) (D' m) (K' m) = some r := by
  have run : ∀ (g : List Nat) (ρ : Env), gd (bif draw then freshDst ρ o.dst else okDst all ρ o.dst) (runOp P cfg O fid rid i o ρ st (C g ρ) (fun p st' => bc draw (panRun P cfg O fid rid all i (footOf cfg fid rid i o g ρ []) st rest (i + 1) ρ fs (K (.panic p) ρ st')) (K (.panic p) ρ st'))) = some r →
      Evt fun m => gd (bif draw then freshDst ρ o.dst else okDst all ρ o.dst) (runOp P cfg (Os m) fid rid i o ρ st (C' m g ρ) (fun p st' => bc draw (panRun P cfg (Os m) fid rid all i (footOf cfg fid rid i o g ρ []) st rest (i + 1) ρ fs (K' m (.panic p) ρ st')) (K' m (.panic p) ρ st'))) = some r := fun g ρ h => by
    obtain ⟨hg, h⟩ := gd_ok h
    refine (runOp_lim hO (F' := fun m => C' m g ρ) (G' := fun m p st' => bc draw (panRun P cfg (Os m) fid rid all i (footOf cfg fid rid i o g ρ []) st rest (i + 1) ρ fs (K' m (.panic p) ρ st')) (K' m (.panic p) ρ st')) (fun us st' h => hC _ _ _ _ h) (fun v st' h => ?_) h).mono fun m hm => ?_
    · rcases bc_ok h with ⟨hd, h⟩ | ⟨hd, h⟩
      · refine (panRun_lim hO (hK _ _ _) rest _ _ _ h).mono fun m hm => ?_
        rw [hd]; exact hm
      · refine (hK _ _ _ h).mono fun m hm => ?_
        rw [hd]; exact hm
    · rw [hg]; exact hm
  have skip : ∀ (g : List Nat) (ρ : Env), gd (bif draw then freshDst ρ o.dst else okDst all ρ o.dst) (D g ρ) = some r → Evt fun m => gd (bif draw then freshDst ρ o.dst else okDst all ρ o.dst) (D' m g ρ) = some r := fun g ρ h => by
    obtain ⟨hg, h⟩ := gd_ok h
    refine (hD _ _ h).mono fun m hm => ?_
    rw [hg]; exact hm
  simp only [execOne] at h ⊢
  split at h
  · rename_i hgd
    exact run [] ρ h
  · rename_i g want hgd
    split at h
    · cases h
    · rename_i t ht
      split at h
      · rename_i b hv
        rcases bc_ok h with ⟨rfl, h1⟩ | ⟨rfl, h1⟩
        · rcases bc_ok h1 with ⟨rfl, h2⟩ | ⟨rfl, h2⟩
          · exact run _ _ h2
          · exact skip _ _ h2
        · rcases bc_ok h1 with ⟨rfl, h2⟩ | ⟨rfl, h2⟩
          · exact skip _ _ h2
          · exact run _ _ h2
      · exact skip _ _ h
      · cases h

theorem execOps_lim {rid : Nat} {all : List Oper} {draw : Bool} : ∀ (rest : List Oper) (i : Nat) (ρ : Env) (st : St) (fs : List Foot) (K : Ex → Env → St → Option R) (K' : Nat → Ex → Env → St → Option R), (∀ e ρ st, K e ρ st = some r → Evt fun m => K' m e ρ st = some r) →
    execOps P cfg O fid rid all draw rest i ρ st fs K = some r → Evt fun m => execOps P cfg (Os m) fid rid all draw rest i ρ st fs (K' m) = some r
  | [], i, ρ, st, fs, K, K', hK, h => by
    simp only [execOps] at h ⊢
    rcases bc_ok h with ⟨hd, h⟩ | ⟨hd, h⟩
    · obtain ⟨hg, h⟩ := gd_ok h
      refine (hK _ _ _ h).mono fun m hm => ?_
      rw [hd, hg]; exact hm
    · refine (hK _ _ _ h).mono fun m hm => ?_
      rw [hd]; exact hm
  | [o], i, ρ, st, fs, K, K', hK, h => by
    exact execOne_lim hO (C := fun g ρ us st' => execOps P cfg O fid rid all draw [] (i + 1) (ρ.apply us) st' (bif draw then footOf cfg fid rid i o g ρ (us.map (·.1)) :: fs else fs) K)
      (D := fun g ρ => execOps P cfg O fid rid all draw [] (i + 1) (ρ.put o.dst (.tup [])) st (bif draw then { idx := i, reads := g, writes := o.dst.toList, sk := .none } :: fs else fs) K)
      (C' := fun m g ρ us st' => execOps P cfg (Os m) fid rid all draw [] (i + 1) (ρ.apply us) st' (bif draw then footOf cfg fid rid i o g ρ (us.map (·.1)) :: fs else fs) (K' m))
      (D' := fun m g ρ => execOps P cfg (Os m) fid rid all draw [] (i + 1) (ρ.put o.dst (.tup [])) st (bif draw then { idx := i, reads := g, writes := o.dst.toList, sk := .none } :: fs else fs) (K' m))
      (fun g ρ us st h => execOps_lim [] _ _ _ _ K K' hK h) (fun g ρ h => execOps_lim [] _ _ _ _ K K' hK h) hK h
  | o :: o2 :: rest, i, ρ, st, fs, K, K', hK, h => by
    exact execOne_lim hO (C := fun g ρ us st' =>
        bc (!draw && litConv P o o2)
          (gd (okDst all (ρ.apply us) o2.dst) (execOps P cfg O fid rid all draw rest (i + 2) ((ρ.apply us).put o2.dst ((ρ.apply us).get (o.dst.getD 0))) st' fs K))
          (execOps P cfg O fid rid all draw (o2 :: rest) (i + 1) (ρ.apply us) st' (bif draw then footOf cfg fid rid i o g ρ (us.map (·.1)) :: fs else fs) K))
      (D := fun g ρ => execOps P cfg O fid rid all draw (o2 :: rest) (i + 1) (ρ.put o.dst (.tup [])) st (bif draw then { idx := i, reads := g, writes := o.dst.toList, sk := .none } :: fs else fs) K)
      (C' := fun m g ρ us st' =>
        bc (!draw && litConv P o o2)
          (gd (okDst all (ρ.apply us) o2.dst) (execOps P cfg (Os m) fid rid all draw rest (i + 2) ((ρ.apply us).put o2.dst ((ρ.apply us).get (o.dst.getD 0))) st' fs (K' m)))
          (execOps P cfg (Os m) fid rid all draw (o2 :: rest) (i + 1) (ρ.apply us) st' (bif draw then footOf cfg fid rid i o g ρ (us.map (·.1)) :: fs else fs) (K' m)))
      (D' := fun m g ρ => execOps P cfg (Os m) fid rid all draw (o2 :: rest) (i + 1) (ρ.put o.dst (.tup [])) st (bif draw then { idx := i, reads := g, writes := o.dst.toList, sk := .none } :: fs else fs) (K' m))
      (fun g ρ us st h => by
        rcases bc_ok h with ⟨hl, h⟩ | ⟨hl, h⟩
        · obtain ⟨hg, h⟩ := gd_ok h
          refine (execOps_lim rest _ _ _ _ K K' hK h).mono fun m hm => ?_
          rw [hl, hg]; exact hm
        · refine (execOps_lim (o2 :: rest) _ _ _ _ K K' hK h).mono fun m hm => ?_
          rw [hl]; exact hm)
      (fun g ρ h => execOps_lim (o2 :: rest) _ _ _ _ K K' hK h) hK h

omit hO in
theorem behind_lim {f key : Nat} {nrm rt : Bool} {ids : List Nat} {x : Ex × List V × St} {K : Ex → Env → St → Option R} {K' : Nat → Ex → Env → St → Option R} (hK : ∀ e ρ st, K e ρ st = some r → Evt fun m => K' m e ρ st = some r)
    (h : behind P cfg f key nrm rt ids x K = some r) : Evt fun m => behind P cfg f key nrm rt ids x (K' m) = some r := by
  have outs : ∀ (l : List (Nat × Kd)) (vs : List V) (e : Ex) (st : St), coerceOuts P l vs (fun ρ => K e ρ st) = some r → Evt fun m => coerceOuts P l vs (fun ρ => K' m e ρ st) = some r := fun l vs e st h => by
    rw [coerceOuts_step] at h
    obtain ⟨ρ, hρ, h⟩ := obind_ok h
    exact (hK _ _ _ h).mono fun m hm => by rw [coerceOuts_step, hρ]; exact hm
  obtain ⟨e, vs, st⟩ := x
  unfold behind onEx at h ⊢
  cases e with
  | normal =>
    rcases bc_ok h with ⟨hd, h⟩ | ⟨hd, h⟩
    · exact (outs _ _ _ _ h).mono fun m hm => by simp only [hd]; exact hm
    · cases h
  | ret =>
    rcases bc_ok h with ⟨hd, h⟩ | ⟨hd, h⟩
    · exact (outs _ _ _ _ h).mono fun m hm => by simp only [hd]; exact hm
    · cases h
  | exit i =>
    have : ∀ ids : List Nat, pickExit i (fun j => coerceOuts P (cfg.outs f key) vs fun ρ => K (.exit j) ρ st) ids = some r → Evt fun m => pickExit i (fun j => coerceOuts P (cfg.outs f key) vs fun ρ => K' m (.exit j) ρ st) ids = some r := by
      intro ids
      induction ids with
      | nil => intro h; cases h
      | cons j js ih =>
        intro h
        unfold pickExit at h ⊢
        rcases bc_ok h with ⟨hd, h⟩ | ⟨hd, h⟩
        · exact (outs _ _ _ _ h).mono fun m hm => by simp only [hd]; exact hm
        · exact (ih h).mono fun m hm => by simp only [hd]; exact hm
    exact this _ h
  | goto l => cases h
  | panic v =>
    rcases bc_ok h with ⟨hd, h⟩ | ⟨hd, h⟩
    · exact (hK _ _ _ h).mono fun m hm => by simp only [hd]; exact hm
    · cases h

theorem exec_lim : ∀ (c : Code) (ρ : Env) (st : St) (K : Ex → Env → St → Option R) (K' : Nat → Ex → Env → St → Option R), (∀ e ρ st, K e ρ st = some r → Evt fun m => K' m e ρ st = some r) →
    exec P cfg O fid c ρ st K = some r → Evt fun m => exec P cfg (Os m) fid c ρ st (K' m) = some r := by
  intro c
  induction c with
  | skip => intro ρ st K K' hK h; exact hK _ _ _ h
  | label l => intro ρ st K K' hK h; exact hK _ _ _ h
  | exit i => intro ρ st K K' hK h; exact hK _ _ _ h
  | goto l => intro ρ st K K' hK h; exact hK _ _ _ h
  | ret => intro ρ st K K' hK h; exact hK _ _ _ h
  | refuse s => intro ρ st K K' hK h; cases h
  | region id ops draw => intro ρ st K K' hK h; exact execOps_lim hO _ _ _ _ _ _ _ hK h
  | seq a b iha ihb =>
    intro ρ st K K' hK h
    simp only [exec] at h ⊢
    refine iha _ _ _ _ (fun e ρ st h => ?_) h
    cases e with
    | normal => exact ihb _ _ _ _ hK h
    | _ => exact hK _ _ _ h
  | cond c a b iha ihb =>
    intro ρ st K K' hK h
    simp only [exec] at h ⊢
    split at h
    · split at h
      · rcases bc_ok h with ⟨rfl, h⟩ | ⟨rfl, h⟩
        · exact iha _ _ _ _ hK h
        · exact ihb _ _ _ _ hK h
      · cases h
    · rcases bc_ok h with ⟨rfl, h⟩ | ⟨rfl, h⟩
      · exact iha _ _ _ _ hK h
      · exact ihb _ _ _ _ hK h
    · cases h
  | block id b ih =>
    intro ρ st K K' hK h
    simp only [exec] at h ⊢
    refine ih _ _ _ _ (fun e ρ st h => ?_) h
    cases e with
    | exit i =>
      rcases bc_ok h with ⟨hd, h⟩ | ⟨hd, h⟩
      · exact (hK _ _ _ h).mono fun m hm => by simp only [hd]; exact hm
      · exact (hK _ _ _ h).mono fun m hm => by simp only [hd]; exact hm
    | _ => exact hK _ _ _ h
  | loop b ih =>
    intro ρ st K K' hK h
    simp only [exec] at h ⊢
    rw [coerceKeep_step] at h
    obtain ⟨vals, hv, h⟩ := obind_ok h
    obtain ⟨x, hx, h⟩ := obind_ok h
    refine (hO.loop _ _ _ _ _ hx).map2 (behind_lim hK h) fun m h1 h2 => ?_
    rw [coerceKeep_step, hv]
    show obind ((Os m).loop _ _ _ _) _ = _
    rw [h1]; exact h2
  | scope b ih =>
    intro ρ st K K' hK h
    simp only [exec] at h ⊢
    refine ih _ _ _ _ (fun e ρ st h => ?_) h
    cases e with
    | goto l =>
      simp only at h ⊢
      split at h
      · rcases bc_ok h with ⟨hn, h⟩ | ⟨_, h⟩
        · rw [coerceKeep_step] at h
          obtain ⟨vals, hv, h⟩ := obind_ok h
          obtain ⟨x, hx, h⟩ := obind_ok h
          refine (hO.loop _ _ _ _ _ hx).map2 (behind_lim hK h) fun m h1 h2 => ?_
          simp only [hn]
          show coerceKeep _ _ _ _ = _
          rw [coerceKeep_step, hv]
          show obind ((Os m).loop _ _ _ _) _ = _
          rw [h1]; exact h2
        · cases h
      · exact hK _ _ _ h
    | _ => exact hK _ _ _ h
  | rangeFunc f ps a b iha ihb =>
    intro ρ st K K' hK h
    simp only [exec] at h ⊢
    unfold onFn at h ⊢
    split at h
    · obtain ⟨⟨out, st2⟩, hx, h⟩ := obind_ok h
      cases out with
      | panic v => cases h
      | ret v =>
        unfold onRet getR onLoop at h
        simp only at h
        split at h
        · rename_i y hy
          split at h
          · rename_i s p
            have : Evt fun m => onPend s p (K' m .normal (ρ.apply (upds ρ false (f :: ((cfg.keep fid (keyOf b)).map (·.1)).map Operand.tmp))) (st2.set st.length .dead)) (bc (hasRet b) (K' m .ret (ρ.apply (upds ρ false (f :: ((cfg.keep fid (keyOf b)).map (·.1)).map Operand.tmp))) (st2.set st.length .dead)) none)
                (fun i => pickExit i (fun j => K' m (.exit j) (ρ.apply (upds ρ false (f :: ((cfg.keep fid (keyOf b)).map (·.1)).map Operand.tmp))) (st2.set st.length .dead)) (exitsOf b)) = some r := by
              unfold onPend at h ⊢
              split at h
              · exact hK _ _ _ h
              · rcases bc_ok h with ⟨hd, h⟩ | ⟨_, h⟩
                · exact (hK _ _ _ h).mono fun m hm => by simp only [hd]; exact hm
                · cases h
              · rename_i i
                have : ∀ ids : List Nat, pickExit i (fun j => K (.exit j) (ρ.apply (upds ρ false (f :: ((cfg.keep fid (keyOf b)).map (·.1)).map Operand.tmp))) (st2.set st.length .dead)) ids = some r → Evt fun m => pickExit i (fun j => K' m (.exit j) (ρ.apply (upds ρ false (f :: ((cfg.keep fid (keyOf b)).map (·.1)).map Operand.tmp))) (st2.set st.length .dead)) ids = some r := by
                  intro ids
                  induction ids with
                  | nil => intro h; cases h
                  | cons j js ih =>
                    intro h
                    unfold pickExit at h ⊢
                    rcases bc_ok h with ⟨hd, h⟩ | ⟨hd, h⟩
                    · exact (hK _ _ _ h).mono fun m hm => by simp only [hd]; exact hm
                    · exact (ih h).mono fun m hm => by simp only [hd]; exact hm
                exact this _ h
              · cases h
            refine (hO.call _ _ _ _ hx).map2 this fun m h1 h2 => ?_
            dsimp only
            rw [h1]
            unfold obind onRet getR onLoop
            simp only [hy]
            exact h2
          · cases h
        · cases h
    · cases h
end
end
end Go.AM

namespace Go.AM
open Go

section
variable {P : Program} {cfg : Cfg} {ext : Ext} {fid : Nat} {R : Type} {r : R} {α : Type} {Os : Nat → Oracle} {O : Oracle}

theorem callBody_lim (hO : OLim Os O) {f : Nat} {args : List V} {st : St} {x : Out × St} (h : callBody P cfg O f args st = some x) : Evt fun m => callBody P cfg (Os m) f args st = some x := by
  unfold callBody at h ⊢
  split at h
  · cases h
  · rename_i fn hf
    split at h
    · cases h
    · rename_i c hb
      obtain ⟨hg, h⟩ := gd_ok h
      refine (exec_lim hO c _ _ _ (fun _ e ρ st' => match e with
        | .normal | .ret => match grownR (cfg.room f) ρ fn.results.toList with
          | some (_, sh, es) => gd (belowL st.length es && belowSt st.length (st'.take st.length)) (some (.ret (.spr sh es st.length), st'.take st.length ++ [.spare sh es.length (st.length + 1), .dead, .dead]))
          | none => gd (decide (fn.results.size ≤ fn.resultTypes.size)) <| resultsK P (cfg.room f) st.length ρ st' (fn.results.toList.zip fn.resultTypes.toList) fun vs st' => gc (cfg.pure f) st.length (.ret (match vs with | [v] => v | vs => .tup vs)) st'
        | .panic v => gc (cfg.pure f) st.length (.panic v) st'
        | _ => none) (fun e ρ st h => .of fun _ => h) h).mono fun m hm => ?_
      simp only [hf, hb, hg]
      exact hm

theorem loopBody_lim (hO : OLim Os O) {f key : Nat} {vals : List V} {st : St} {x : Ex × List V × St} (h : loopBody P cfg O f key vals st = some x) : Evt fun m => loopBody P cfg (Os m) f key vals st = some x := by
  have keep : ∀ (ρ : Env) (st : St), (coerceKeep P (cfg.keep f key) ρ fun vals => O.loop f key vals st) = some x → Evt fun m => (coerceKeep P (cfg.keep f key) ρ fun vals => (Os m).loop f key vals st) = some x := fun ρ st h => by
    rw [coerceKeep_step] at h
    obtain ⟨vals, hv, h⟩ := obind_ok h
    exact (hO.loop _ _ _ _ _ h).mono fun m hm => by rw [coerceKeep_step, hv]; exact hm
  unfold loopBody at h ⊢
  split at h
  · cases h
  · rename_i fn hf
    split at h
    · cases h
    · rename_i c hb
      split at h
      · rename_i hk
        split at h
        · cases h
        · rename_i b hb2
          refine (exec_lim hO b _ _ _ (fun m e ρ st => match e with
            | .normal => coerceKeep P (cfg.keep f key) ρ fun vals => (Os m).loop f key vals st
            | .ret => some (.ret, (cfg.rets f key).map (fun x => ρ.get x.1), st)
            | e => some (e, (cfg.outs f key).map (fun x => ρ.get x.1), st)) (fun e ρ st h => ?_) h).mono fun m hm => ?_
          · cases e with
            | normal => exact keep _ _ h
            | _ => exact .of fun _ => h
          · simp only [hf, hb, if_pos hk, hb2]
            exact hm
      · rename_i hk
        split at h
        · cases h
        · rename_i b hb2
          split at h
          · cases h
          · rename_i rest hr
            refine (exec_lim hO rest _ _ _ (fun m e ρ st => match e with
              | .goto l => if l = key - labelKey then coerceKeep P (cfg.keep f key) ρ fun vals => (Os m).loop f key vals st else none
              | .ret => some (.ret, (cfg.rets f key).map (fun x => ρ.get x.1), st)
              | e => some (e, (cfg.outs f key).map (fun x => ρ.get x.1), st)) (fun e ρ st h => ?_) h).mono fun m hm => ?_
            · cases e with
              | goto l =>
                simp only at h ⊢
                split at h
                · rename_i hl
                  simp only [if_pos hl]
                  exact keep _ _ h
                · cases h
              | _ => exact .of fun _ => h
            · simp only [hf, hb, if_neg hk, hb2, hr]
              exact hm

theorem roundBody_lim (hO : OLim Os O) {l f key : Nat} {vals args : List V} {st : St} {x : Bool × St} (h : roundBody P cfg O l f key vals args st = some x) : Evt fun m => roundBody P cfg (Os m) l f key vals args st = some x := by
  unfold roundBody at h ⊢
  split at h
  · cases h
  · rename_i fn hf
    split at h
    · cases h
    · rename_i c hb
      split at h
      · cases h
      · rename_i ps a b hr
        obtain ⟨hg, h⟩ := gd_ok h
        refine (exec_lim hO a _ _ _ (fun m e ρ st => match e with
          | .normal =>
            getR st l fun y => onLoop y fun f1 k1 v1 s1 p1 =>
            onReady s1 p1 (
              exec P cfg (Os m) f b ρ (st.set l (.loop f1 k1 v1 .busy none)) fun e _ st' =>
                getR st' l fun x => onLoop x fun f2 k2 v2 s _ =>
                  onBusy s (match e with
                  | .normal => some (true, st'.set l (.loop f2 k2 v2 .ready none))
                  | .ret => some (false, st'.set l (.loop f2 k2 v2 .done (some .ret)))
                  | .exit id => some (false, st'.set l (.loop f2 k2 v2 .done (some (.exit id))))
                  | _ => none))
          | _ => none) (fun e ρ st h => ?_) h).mono fun m hm => ?_
        · cases e with
          | normal =>
            simp only at h ⊢
            unfold getR at h ⊢
            split at h
            · rename_i y hy
              unfold onLoop at h ⊢
              cases y with
              | loop f1 k1 v1 s1 p1 =>
                simp only at h ⊢
                try simp only [hy]
                cases s1 <;> cases p1 <;> simp only [onReady] at h ⊢ <;> first | cases h | skip
                exact exec_lim hO b _ _ _ _ (fun e ρ st h => .of fun _ => h) h
              | _ => cases h
            · cases h
          | _ => cases h
        · simp only [hf, hb, hr, hg]
          exact hm

/-- What is done by a proof of its own leans on finitely many words. -/
def ExtLim (ext : Ext) : Prop := ∀ f x, ext f = some x → ∀ (Os : Nat → Oracle) (O : Oracle), OLim Os O → ∀ args st y, x O args st = some y → Evt fun m => x (Os m) args st = some y

theorem step_lim (hE : ExtLim ext) (hO : OLim Os O) : OLim (fun m => stepO P cfg ext (Os m)) (stepO P cfg ext O) := by
  refine ⟨fun f args st x h => ?_, fun f key vals st x h => loopBody_lim hO h, fun l f key vals args st x h => roundBody_lim hO h⟩
  simp only [stepO] at h ⊢
  split at h
  · rename_i y hy
    exact (hE f y hy Os O hO _ _ _ h).mono fun m hm => by (try simp only [hy]); exact hm
  · rename_i hy
    exact (callBody_lim hO h).mono fun m hm => by (try simp only [hy]); exact hm

theorem OLim.trans {O' O2 : Oracle} (h : OLim (fun _ => O') O) (k : OLim (fun _ => O2) O') : OLim (fun _ => O2) O :=
  ⟨fun f args st x e => let ⟨n, h⟩ := h.call f args st x e; k.call _ _ _ _ (h n (Nat.le_refl _)), fun f key vals st x e => let ⟨n, h⟩ := h.loop f key vals st x e; k.loop _ _ _ _ _ (h n (Nat.le_refl _)),
    fun l f key vals args st x e => let ⟨n, h⟩ := h.round l f key vals args st x e; k.round _ _ _ _ _ _ _ (h n (Nat.le_refl _))⟩

theorem fuel_succ (hE : ExtLim ext) : ∀ k, OLim (fun _ => fuelO P cfg ext (k + 1)) (fuelO P cfg ext k)
  | 0 => ⟨fun _ _ _ _ h => (by cases h), fun _ _ _ _ _ h => (by cases h), fun _ _ _ _ _ _ _ h => (by cases h)⟩
  | k + 1 => step_lim hE (fuel_succ hE k)

theorem fuel_le (hE : ExtLim ext) (k : Nat) : ∀ d, OLim (fun _ => fuelO P cfg ext (k + d)) (fuelO P cfg ext k)
  | 0 => ⟨fun _ _ _ _ h => .of fun _ => h, fun _ _ _ _ _ h => .of fun _ => h, fun _ _ _ _ _ _ _ h => .of fun _ => h⟩
  | d + 1 => (fuel_le hE k d).trans (fuel_succ hE (k + d))

/-- All the fuel. -/
noncomputable def limS (s : Nat → Option α) : Option α := by
  classical
  exact if h : ∃ x, Evt fun m => s m = some x then some h.choose else none

theorem limS_some {s : Nat → Option α} {x : α} : limS s = some x ↔ Evt fun m => s m = some x := by
  classical
  unfold limS
  constructor
  · intro h
    split at h
    · rename_i hx
      cases h
      exact hx.choose_spec
    · cases h
  · intro h
    rw [dif_pos ⟨x, h⟩]
    obtain ⟨n, hn⟩ := h
    obtain ⟨n', hn'⟩ := (⟨x, n, hn⟩ : ∃ x, Evt fun m => s m = some x).choose_spec
    have h1 := hn (max n n') (by omega)
    have h2 := hn' (max n n') (by omega)
    exact h2.symm.trans h1

noncomputable def Om (P : Program) (cfg : Cfg) (ext : Ext) : Oracle where
  call f args st := limS fun m => (fuelO P cfg ext m).call f args st
  loop f key vals st := limS fun m => (fuelO P cfg ext m).loop f key vals st
  round l f key vals args st := limS fun m => (fuelO P cfg ext m).round l f key vals args st

theorem om_lim : OLim (fun m => fuelO P cfg ext m) (Om P cfg ext) :=
  ⟨fun _ _ _ _ h => limS_some.1 h, fun _ _ _ _ _ h => limS_some.1 h, fun _ _ _ _ _ _ _ h => limS_some.1 h⟩

theorem fuel_om (hE : ExtLim ext) (k : Nat) : OLim (fun _ => Om P cfg ext) (fuelO P cfg ext k) := by
  have key : ∀ {β : Type} {s : Nat → Option β} {x : β}, (∀ d, Evt fun _ => s (k + d) = some x) → limS s = some x := fun {β s x} h => limS_some.2 ⟨k, fun m hm => by
    obtain ⟨n, h⟩ := h (m - k)
    have := h n (Nat.le_refl _)
    rwa [show k + (m - k) = m by omega] at this⟩
  exact ⟨fun f args st x h => .of fun _ => key fun d => (fuel_le hE k d).call f args st x h, fun f key' vals st x h => .of fun _ => key fun d => (fuel_le hE k d).loop f key' vals st x h,
    fun l f key' vals args st x h => .of fun _ => key fun d => (fuel_le hE k d).round l f key' vals args st x h⟩

theorem evt_succ {p : Nat → Prop} (h : Evt fun m => p (m + 1)) : Evt p := by
  obtain ⟨n, h⟩ := h
  exact ⟨n + 1, fun m hm => by obtain ⟨k, rfl⟩ : ∃ k, m = k + 1 := ⟨m - 1, by omega⟩; exact h k (by omega)⟩
theorem evt_ex {p : Nat → Prop} (h : Evt p) : ∃ k, p (k + 1) := by
  obtain ⟨n, h⟩ := h
  exact ⟨n, h (n + 1) (by omega)⟩
theorem evt_const {p : Prop} (h : Evt fun _ => p) : p := by
  obtain ⟨n, h⟩ := h
  exact h n (Nat.le_refl _)
theorem opt_ext {x y : Option α} (h1 : ∀ z, x = some z → y = some z) (h2 : ∀ z, y = some z → x = some z) : x = y := by
  cases x with
  | none =>
    cases y with
    | none => rfl
    | some z => have := h2 z rfl; cases this
  | some z => exact (h1 z rfl).symm

/-- It keeps its word. -/
theorem om_call (hE : ExtLim ext) (f : Nat) (args : List V) (st : St) : (Om P cfg ext).call f args st = (stepO P cfg ext (Om P cfg ext)).call f args st :=
  opt_ext (fun z h => by
    obtain ⟨k, hk⟩ := evt_ex (limS_some.1 h)
    exact evt_const ((step_lim (P := P) (cfg := cfg) hE (fuel_om hE k)).call f args st z hk))
    fun z h => limS_some.2 (evt_succ ((step_lim hE om_lim).call f args st z h))
theorem om_loop (hE : ExtLim ext) (f key : Nat) (vals : List V) (st : St) : (Om P cfg ext).loop f key vals st = loopBody P cfg (Om P cfg ext) f key vals st :=
  opt_ext (fun z h => by
    obtain ⟨k, hk⟩ := evt_ex (limS_some.1 h)
    exact evt_const ((step_lim (P := P) (cfg := cfg) hE (fuel_om hE k)).loop f key vals st z hk))
    fun z h => limS_some.2 (evt_succ ((step_lim (P := P) (cfg := cfg) hE om_lim).loop f key vals st z h))
theorem om_round (hE : ExtLim ext) (l f key : Nat) (vals args : List V) (st : St) : (Om P cfg ext).round l f key vals args st = roundBody P cfg (Om P cfg ext) l f key vals args st :=
  opt_ext (fun z h => by
    obtain ⟨k, hk⟩ := evt_ex (limS_some.1 h)
    exact evt_const ((step_lim (P := P) (cfg := cfg) hE (fuel_om hE k)).round l f key vals args st z hk))
    fun z h => limS_some.2 (evt_succ ((step_lim (P := P) (cfg := cfg) hE om_lim).round l f key vals args st z h))
theorem om_fuel {f : Nat} {args : List V} {st : St} {x : Out × St} (h : (Om P cfg ext).call f args st = some x) : ∃ m, (fuelO P cfg ext m).call f args st = some x := by
  obtain ⟨n, h⟩ := limS_some.1 h
  exact ⟨n, h n (Nat.le_refl _)⟩
end
end Go.AM

/-! A function with one call put off, which recovers: what was put off beneath. -/
namespace Go.AM
open Go Go.RowKit

/-- With calls put off ahead. -/
def lift (ds : List Deferred) (a : Act) : Act := { a with defers := a.defers ++ ds }

section
variable {P : Program} {F : Fence} {n : Nat} {ds : List Deferred}
theorem put_lift (a : Act) (d : Option Tmp) (v : Value) : (lift ds a).put d v = lift ds (a.put d v) := by cases d <;> rfl
theorem letsOut_lift {Q Q' : Exit → Act → World → Prop} (hq : ∀ e a w, Q e a w → Q' e (lift ds a) w) (h : LetsOut Q) : LetsOut Q' := by
  obtain ⟨a, w, h⟩ := h
  exact ⟨_, w, hq _ a w h⟩
theorem upon_lift {o : Oper} {a : Act} {next next' : Act → World → Prop} {Q Q' : Exit → Act → World → Prop} {x : Result Next} (hn : ∀ v d w, (d = a.defers ∨ ∃ d0 w0, d = d0 :: a.defers ∧ x = .ok (.defer d0) w0) → next (({ a with defers := d }).put o.dst v) w → next' (lift ds (({ a with defers := d }).put o.dst v)) w) (hq : ∀ e w, Q e a w → Q' e (lift ds a) w)
    (hl : LetsOut Q → LetsOut Q') (h : o.uponIn F n P a next Q x) : o.uponIn F n P (lift ds a) next' Q' x := by
  have hn' : ∀ v w, next (a.put o.dst v) w → next' ((lift ds a).put o.dst v) w := fun v w h => by rw [put_lift]; exact hn v a.defers w (.inl rfl) h
  unfold Oper.uponIn at *
  split at h
  · exact hn' _ _ h
  · exact hn' _ _ h
  · rename_i d w'
    have := hn undef (d :: a.defers) w' (.inr ⟨d, w', rfl, rfl⟩) h
    rw [← put_lift] at this
    exact this
  · refine ⟨h.1, h.2.mono fun e w'' he => ?_⟩
    cases e with
    | returned v => exact hn' _ _ he
    | panicked ch => exact hq _ _ he
    | outgrown => exact hl he
  · exact ⟨h.1, h.2.mono fun v w'' he => hn' _ _ he⟩
  · refine ⟨h.1, h.2.mono fun e w'' he => ?_⟩
    cases e with
    | returned v => exact hn' _ _ he
    | panicked ch => exact hq _ _ he
    | outgrown => exact hl he
  · exact hq _ _ h
  · exact h.elim

/-- Operations that leave temporaries alone. -/
theorem wpOps_lift {ops : Array Oper} {Q Q' : Exit → Act → World → Prop} {I : Act → Prop} (hI : ∀ o ∈ ops.toList, ∀ a d v, I a → (d = a.defers ∨ ∃ d0 ev w w', d = d0 :: a.defers ∧ (o.semAt F.round ev).run P w = .ok (.defer d0) w') → I (({ a with defers := d }).put o.dst v)) (hq : ∀ e a w, I a → Q e a w → Q' e (lift ds a) w) (hl : LetsOut Q → LetsOut Q') :
    ∀ (l : List Nat) (a : Act) (w : World), I a → wpOpsIn F n P ops Q l a w → wpOpsIn F n P ops Q' l (lift ds a) w
  | [], a, w, hi, h => hq _ _ _ hi h
  | i :: rest, a, w, hi, h => by
    simp only [wpOpsIn] at h ⊢
    cases ho : ops[i]? with
    | none => simp only [ho] at h; exact wpOps_lift hI hq hl rest a w hi h
    | some o =>
      have hm : o ∈ ops.toList := Array.mem_toList_iff.2 (Array.mem_of_getElem? ho)
      simp only [ho] at h
      have ht : (lift ds a).tmps = a.tmps := rfl
      dsimp only
      rw [ht]
      split at h
      · rename_i hw
        rw [if_pos hw]
        refine ⟨h.1, upon_lift (fun v d w' hd hn => wpOps_lift hI hq hl rest _ w' (hI o hm a d v hi (hd.imp_right fun ⟨d0, w0, e1, e2⟩ => ⟨d0, a.eval, w, w0, e1, e2⟩)) hn) (fun e w' he => hq e a w' hi he) hl h.2⟩
      · rename_i hw
        rw [if_neg hw]
        refine ⟨h.1, ?_⟩
        rw [put_lift]
        exact wpOps_lift hI hq hl rest _ w (hI o hm a a.defers undef hi (.inl rfl)) h.2
end

/-- Codes of nothing but regions and tests, in the text's order; what they set. -/
def flatC : Code → Bool
  | .skip => true
  | .ret => true
  | .seq a b => flatC a && flatC b
  | .cond _ a b => flatC a && flatC b
  | .region _ _ draw => !draw
  | _ => false
def sets (t : Nat) : Code → Bool
  | .seq a b => sets t a || sets t b
  | .cond _ a b => sets t a || sets t b
  | .region _ ops _ => ops.toList.any fun o => match o.dst with | some d => Nat.beq d t | none => false
  | _ => false

section
variable {P : Program} {cfg : Cfg} {base n : Nat} {w0 w w' : World} {own own' own0 : Own} {μ μ' μ0 : List Nat} {ρ : Env} {st st' : St} {a : Act} {R : Type} {r : R} {O : Oracle} {m : Nat}

/-- .. beneath what was put off. -/
def FinL (P : Program) (cfg : Cfg) (base n : Nat) (w0 : World) (own0 : Own) (μ0 : List Nat) (r : R) (K : Ex → Env → St → Option R) (ds : List Deferred) (ts : List (Nat × Value)) (e : Exit) (a' : Act) (w : World) : Prop :=
  ∃ a, a' = lift ds a ∧ (∀ x ∈ ts, a.tmps.getD x.1 undef = x.2) ∧ Fin P cfg base n w0 own0 μ0 r K e a w

theorem put_getD {a : Act} {d : Option Nat} {v : Value} {t : Nat} (h : ∀ d', d = some d' → Nat.beq d' t = false) : (a.put d v).tmps.getD t undef = a.tmps.getD t undef := by
  cases d with
  | none => rfl
  | some d' =>
    have : t ≠ d' := fun e => by have := h d' rfl; subst e; simp at this
    simp only [Act.put, Array.getD_eq_getD_getElem?]
    rw [Array.getElem?_setIfInBounds_ne (Ne.symm this)]

theorem exec_flat (hP : PlainNames P) (hC : CallOK P cfg O.call) (hRd : RoundOK P cfg O.round) {f : Nat} {ds : List Deferred} {ts : List (Nat × Value)} : ∀ (c : Code), flatC c = true → okTmps n c = true → (∀ x ∈ ts, sets x.1 c = false) → ∀ (K : Ex → Env → St → Option R) (ρ : Env) (st : St) (a : Act) (w : World) (own : Own) (μ : List Nat),
    Rel P cfg base n w own μ ρ st a → NoL ρ → (∀ x ∈ ts, a.tmps.getD x.1 undef = x.2) → exec P cfg O f c ρ st K = some r → c.wpIn Fence.wide m P (FinL P cfg base n w own μ r K ds ts) (lift ds a) w := by
  intro c
  induction c with
  | skip => intro _ _ _ K ρ st a w own μ hR hN ht h; exact wpIn_skip ⟨a, rfl, ht, ρ, st, own, μ, h, hR, hN, Keeps.refl⟩
  | ret => intro _ _ _ K ρ st a w own μ hR hN ht h; exact wpIn_ret ⟨a, rfl, ht, ρ, st, own, μ, h, hR, hN, Keeps.refl⟩
  | seq x y ihx ihy =>
    intro hf ho hs K ρ st a w own μ hR hN ht h
    simp only [flatC, Bool.and_eq_true] at hf
    simp only [okTmps, Bool.and_eq_true] at ho
    have hs' : ∀ z ∈ ts, sets z.1 x = false ∧ sets z.1 y = false := fun z hz => by have := hs z hz; simpa [sets] using this
    refine wpIn_seq (wpIn_mono (ihx hf.1 ho.1 (fun z hz => (hs' z hz).1) _ ρ st a w own μ hR hN ht h) fun e a' w' hF => ?_)
    obtain ⟨a1, rfl, ht1, hF⟩ := hF
    cases e with
    | normal =>
      obtain ⟨ρ', st', own', μ', h1, h2, h3, h4⟩ := hF
      refine wpIn_mono (ihy hf.2 ho.2 (fun z hz => (hs' z hz).2) K ρ' st' a1 w' own' μ' h2 h3 ht1 h1) fun e a' w' hF => ?_
      obtain ⟨a2, rfl, ht2, hF⟩ := hF
      exact ⟨a2, rfl, ht2, hF.keeps h4⟩
    | outgrown => exact hF.elim
    | _ => exact ⟨a1, rfl, ht1, hF⟩
  | cond c x y ihx ihy =>
    intro hf ho hs K ρ st a w own μ hR hN ht h
    simp only [flatC, Bool.and_eq_true] at hf
    simp only [okTmps, Bool.and_eq_true] at ho
    have hs' : ∀ z ∈ ts, sets z.1 x = false ∧ sets z.1 y = false := fun z hz => by have := hs z hz; simpa [sets] using this
    simp only [exec] at h
    split at h
    · rename_i t
      split at h
      · rename_i b hv
        have hev : (lift ds a).eval (.tmp t) = .bool b := by
          have := bool_tmp hR hv
          simp [Act.eval, lift, this]
        rcases bc_spec h with ⟨rfl, h1⟩ | ⟨rfl, h1⟩
        · exact wpIn_cond_true hev (ihx hf.1 ho.1 (fun z hz => (hs' z hz).1) K _ st a w own μ (hR.congr (set_same hv)) (fun t' x off e => hN t' x off (by rwa [set_same hv] at e)) ht h1)
        · exact wpIn_cond_false hev (ihy hf.2 ho.2 (fun z hz => (hs' z hz).2) K _ st a w own μ (hR.congr (set_same hv)) (fun t' x off e => hN t' x off (by rwa [set_same hv] at e)) ht h1)
      · cases h
    · rename_i b
      have hev : (lift ds a).eval (.const (.bool b)) = .bool b := rfl
      rcases bc_spec h with ⟨rfl, h1⟩ | ⟨rfl, h1⟩
      · exact wpIn_cond_true hev (ihx hf.1 ho.1 (fun z hz => (hs' z hz).1) K ρ st a w own μ hR hN ht h1)
      · exact wpIn_cond_false hev (ihy hf.2 ho.2 (fun z hz => (hs' z hz).2) K ρ st a w own μ hR hN ht h1)
    · cases h
  | region id ops draw =>
    intro hf ho hs K ρ st a w own μ hR hN ht h
    cases draw with
    | true => cases hf
    | false =>
      simp only [exec] at h
      have hw := execOps_wp (ro := none) (m := m) (Q := Fin P cfg base n w own μ r K) (w0 := w) (own0 := own) (μ0 := μ) hP hC hRd (okTmps_dst ho) (fun ρ' st' a' w' own' μ' h1 h2 h3 h4 => ⟨ρ', st', own', μ', h1, h2, h3, h4⟩)
        (fun v c ρ' ρ'' st' a' w' own' μ' h1 h2 h3 h4 => ⟨v, c, ρ', ρ'', st', own', μ', h1, h2, h3, h4, rfl⟩) ops.toList 0 ρ st [] a w own μ rfl hR (fun t x off e => absurd e (hN t x off)) Keeps.refl h
      refine wpIn_region ?_
      have hw' : wpOpsIn (wide none) m P ops (Fin P cfg base n w own μ r K) (List.range ops.size) a w := by
        rw [List.range_eq_range']
        simpa using hw
      refine wpOps_lift (I := fun a => ∀ x ∈ ts, a.tmps.getD x.1 undef = x.2) (fun o hom a' d v hi _ x hx => ?_) (fun e a' w' hi hF => ⟨a', rfl, hi, hF⟩) (fun ⟨a', w', hF⟩ => hF.elim) _ a w ht (show wpOpsIn Fence.wide m P ops _ _ a w from hw')
      have hx' := hs x hx
      simp only [sets, List.any_eq_false] at hx'
      rw [put_getD fun d' hd' => by have := hx' o hom; rw [hd'] at this; exact Bool.eq_false_iff.2 this]
      exact hi x hx
  | _ => intro hf; cases hf

/-! ### codes that put nothing off -/
def calm (o : Oper) : Bool :=
  match o.op with
  | .move _ | .assign _ | .alloc _ | .box .. | .build .. | .load .. | .store .. | .binOp .. | .makeInterface .. | .extract .. | .typeAssert .. | .panic _ | .unOp .. | .fieldAddr .. => true
  | _ => false
def calmC : Code → Bool
  | .seq a b => calmC a && calmC b
  | .cond _ a b => calmC a && calmC b
  | .region _ ops _ => ops.toList.all calm
  | _ => true
theorem sem_value {s : Sem Value} {w w' : World} {d : Deferred} : (do pure (Next.value (← s)) : Sem Next).run P w ≠ .ok (.defer d) w' := by
  simp only [Sem.run_bind]
  cases s.run P w <;> simp [Result.andThen]
theorem sem_unit {s : Sem Unit} {w w' : World} {d : Deferred} : (do s; pure Next.skip : Sem Next).run P w ≠ .ok (.defer d) w' := by
  simp only [Sem.run_bind]
  cases s.run P w <;> simp [Result.andThen]
theorem calm_sem {o : Oper} (h : calm o = true) (ev : Operand → Value) (w w' : World) (d : Deferred) : (o.semAt none ev).run P w ≠ .ok (.defer d) w' := by
  rw [Oper.semAt_none]
  unfold calm at h
  cases hop : o.op <;> rw [hop] at h <;> first | (cases h; done) | skip
  all_goals simp only [execOp, hop]
  all_goals first | exact sem_value | exact sem_unit | simp [Sem.run_pure]

theorem exec_calm (hP : PlainNames P) (hC : CallOK P cfg O.call) (hRd : RoundOK P cfg O.round) {f : Nat} : ∀ (c : Code), flatC c = true → calmC c = true → okTmps n c = true → ∀ (K : Ex → Env → St → Option R) (ρ : Env) (st : St) (a : Act) (w : World) (own : Own) (μ : List Nat),
    Rel P cfg base n w own μ ρ st a → NoL ρ → a.defers = [] → exec P cfg O f c ρ st K = some r → c.wpIn Fence.wide m P (fun e a' w' => Fin P cfg base n w own μ r K e a' w' ∧ a'.defers = []) a w := by
  intro c
  induction c with
  | skip => intro _ _ _ K ρ st a w own μ hR hN ht h; exact wpIn_skip ⟨⟨ρ, st, own, μ, h, hR, hN, Keeps.refl⟩, ht⟩
  | ret => intro _ _ _ K ρ st a w own μ hR hN ht h; exact wpIn_ret ⟨⟨ρ, st, own, μ, h, hR, hN, Keeps.refl⟩, ht⟩
  | seq x y ihx ihy =>
    intro hf hs ho K ρ st a w own μ hR hN ht h
    simp only [flatC, Bool.and_eq_true] at hf
    simp only [calmC, Bool.and_eq_true] at hs
    simp only [okTmps, Bool.and_eq_true] at ho
    refine wpIn_seq (wpIn_mono (ihx hf.1 hs.1 ho.1 _ ρ st a w own μ hR hN ht h) fun e a' w' hF => ?_)
    obtain ⟨hF, ht1⟩ := hF
    cases e with
    | normal =>
      obtain ⟨ρ', st', own', μ', h1, h2, h3, h4⟩ := hF
      exact wpIn_mono (ihy hf.2 hs.2 ho.2 K ρ' st' a' w' own' μ' h2 h3 ht1 h1) fun e a' w' hF => ⟨hF.1.keeps h4, hF.2⟩
    | outgrown => exact hF.elim
    | _ => exact ⟨hF, ht1⟩
  | cond c x y ihx ihy =>
    intro hf hs ho K ρ st a w own μ hR hN ht h
    simp only [flatC, Bool.and_eq_true] at hf
    simp only [calmC, Bool.and_eq_true] at hs
    simp only [okTmps, Bool.and_eq_true] at ho
    simp only [exec] at h
    split at h
    · rename_i t
      split at h
      · rename_i b hv
        have hev : a.eval (.tmp t) = .bool b := by
          have := bool_tmp hR hv
          simp [Act.eval, this]
        rcases bc_spec h with ⟨rfl, h1⟩ | ⟨rfl, h1⟩
        · exact wpIn_cond_true hev (ihx hf.1 hs.1 ho.1 K _ st a w own μ (hR.congr (set_same hv)) (fun t' x off e => hN t' x off (by rwa [set_same hv] at e)) ht h1)
        · exact wpIn_cond_false hev (ihy hf.2 hs.2 ho.2 K _ st a w own μ (hR.congr (set_same hv)) (fun t' x off e => hN t' x off (by rwa [set_same hv] at e)) ht h1)
      · cases h
    · rename_i b
      have hev : a.eval (.const (.bool b)) = .bool b := rfl
      rcases bc_spec h with ⟨rfl, h1⟩ | ⟨rfl, h1⟩
      · exact wpIn_cond_true hev (ihx hf.1 hs.1 ho.1 K ρ st a w own μ hR hN ht h1)
      · exact wpIn_cond_false hev (ihy hf.2 hs.2 ho.2 K ρ st a w own μ hR hN ht h1)
    · cases h
  | region id ops draw =>
    intro hf hs ho K ρ st a w own μ hR hN ht h
    cases draw with
    | true => cases hf
    | false =>
      simp only [exec] at h
      simp only [calmC, List.all_eq_true] at hs
      have hw := execOps_wp (ro := none) (m := m) (Q := Fin P cfg base n w own μ r K) (w0 := w) (own0 := own) (μ0 := μ) hP hC hRd (okTmps_dst ho) (fun ρ' st' a' w' own' μ' h1 h2 h3 h4 => ⟨ρ', st', own', μ', h1, h2, h3, h4⟩)
        (fun v c ρ' ρ'' st' a' w' own' μ' h1 h2 h3 h4 => ⟨v, c, ρ', ρ'', st', own', μ', h1, h2, h3, h4, rfl⟩) ops.toList 0 ρ st [] a w own μ rfl hR (fun t x off e => absurd e (hN t x off)) Keeps.refl h
      refine wpIn_region ?_
      have hw' : wpOpsIn (wide none) m P ops (Fin P cfg base n w own μ r K) (List.range ops.size) a w := by
        rw [List.range_eq_range']
        simpa using hw
      have := wpOps_lift (ds := []) (I := fun a => a.defers = []) (Q' := fun e a' w' => Fin P cfg base n w own μ r K e a' w' ∧ a'.defers = []) (F := Fence.wide) (fun o hom a' d v hi hd => by
        rcases hd with rfl | ⟨d0, ev, w1, w2, e1, e2⟩
        · cases o.dst <;> exact hi
        · exact absurd e2 (calm_sem (hs o hom) ev w1 w2 d0)) (fun e a' w' hi hF => by
        have : lift [] a' = a' := by simp [lift]
        rw [this]; exact ⟨hF, hi⟩) (fun ⟨a', w', hF⟩ => hF.elim) _ a w ht (show wpOpsIn Fence.wide m P ops _ _ a w from hw')
      have e : lift [] a = a := by simp [lift]
      rw [e] at this
      exact this
  | _ => intro hf; cases hf
end
end Go.AM

/-! A function with one call put off, which recovers. -/
namespace Go.AM
open Go Go.RowKit

/-- What comes ahead; the function put off, where it lies, what it bears; what comes behind. -/
def partsD : Code → Option (Code × Nat × Nat × List Operand × Code)
  | .seq r0 (.seq (.region _ ops false) rest) =>
    match ops.toList with
    | [{ dst := some d4, op := .makeFunc (.func g) first caps, guard := none, .. }, { dst := none, op := .defer { callee := .value (.tmp t), args, .. }, guard := none, .. }] =>
      if t = d4 ∧ first = #[] ∧ args = #[] then some (r0, g, d4, caps.toList, rest) else none
    | _ => none
  | _ => none
/-- A function that recovers at first. -/
def partsR : Code → Option (Nat × Nat × Code)
  | .seq (.region _ ops false) rest =>
    match ops.toList with
    | [{ dst := some t5, op := .call { callee := .builtin .recover, .. }, guard := none, .. }, { dst := some t2, op := .assign (.tmp t), guard := none, .. }] => if t = t5 then some (t5, t2, rest) else none
    | _ => none
  | _ => none
def isRef0 : V → Bool
  | .ref _ 0 => true
  | _ => false

section
variable (P : Program) (cfg : Cfg) (O : Oracle)
/-- The call put off, what was recovered. -/
def putOff (g : Nat) (cv : List V) (p : V) (st : St) (K : St → Option (Out × St)) : Option (Out × St) :=
  match P.funcs[g]? with
  | none => none
  | some fg =>
    match fg.body.bind partsR with
    | none => none
    | some (t5, t2, rest) =>
      gd (decide (cv.length ≤ fg.ntmps) && decide (t5 < fg.ntmps) && decide (t2 < fg.ntmps) && okTmps fg.ntmps rest && flatC rest && calmC rest && fg.results.isEmpty) <|
      exec P cfg O g rest (((envArgs cv).set t5 p).set t2 p) st fun e _ st' => match e with | .normal => K st' | .ret => K st' | _ => none
def cellsR (ρ : Env) (rs : List ResultVar) : Env := rs.filterMap fun | .cell a _ => some (a, ρ.get a) | .tmp _ => none
def okCellsR (ρ : Env) (d4 : Nat) (rest : Code) (rs : List ResultVar) : Bool := rs.all fun | .cell a _ => isRef0 (ρ.get a) && !sets a rest && !Nat.beq d4 a | .tmp _ => false
def doneX (f : Nat) (args : List V) (st : St) : Option (Out × St) :=
  match P.funcs[f]? with
  | none => none
  | some fn =>
    match fn.body.bind partsD with
    | none => none
    | some (r0, g, d4, caps, rest) =>
      gd (decide (args.length ≤ fn.ntmps) && okTmps fn.ntmps r0 && okTmps fn.ntmps rest && flatC r0 && calmC r0 && flatC rest && decide (d4 < fn.ntmps) && caps.all fun | .tmp _ => true | _ => false) <|
      exec P cfg O f r0 (envArgs args) st fun e ρ1 st1 =>
        match e with
        | .normal =>
          gd ((caps.map (ev ρ1)).all isRef0 && okCellsR ρ1 d4 rest fn.results.toList && decide (fn.results.size ≤ fn.resultTypes.size)) <|
          let fin (st3 : St) : Option (Out × St) :=
            resultsK P (cfg.room f) st.length (cellsR ρ1 fn.results.toList) st3 (fn.results.toList.zip fn.resultTypes.toList) fun vs st' => gc (cfg.pure f) st.length (.ret (match vs with | [v] => v | vs => .tup vs)) st'
          exec P cfg O f rest (ρ1.set d4 .undef) st1 fun e _ st2 =>
            match e with
            | .normal => putOff P cfg O g (caps.map (ev ρ1)) .nili st2 fin
            | .ret => putOff P cfg O g (caps.map (ev ρ1)) .nili st2 fin
            | .panic v => onIfcI v fun t n => putOff P cfg O g (caps.map (ev ρ1)) (.ifc t (.int n)) st2 fin
            | _ => none
        | _ => none
end

section
variable {P : Program} {cfg : Cfg} {base n : Nat} {w0 w w' : World} {own own' own0 : Own} {μ μ' μ0 : List Nat} {ρ : Env} {st st' : St} {a : Act} {r : Out × St} {O : Oracle} {m : Nat}

theorem wanted_none {o : Oper} (h : o.guard = none) (y : Nat → Option Bool) : Region.wanted o y = true := by simp [Region.wanted, h]

theorem partsR_spec {c rest : Code} {t5 t2 : Nat} (h : partsR c = some (t5, t2, rest)) : ∃ id ops rc as_, c = .seq (.region id ops false) rest ∧ ops.toList = [rc, as_] ∧ rc.dst = some t5 ∧ rc.guard = none ∧ as_.dst = some t2 ∧ as_.guard = none ∧
    (∀ ev w, (execOp ev rc).run P w = .ok .recover w) ∧ ∀ ev w, (execOp ev as_).run P w = .ok (.value (ev (.tmp t5))) w := by
  unfold partsR at h
  split at h
  · rename_i id ops rest'
    split at h
    · rename_i hl
      split at h
      · rename_i ht
        subst ht
        simp only [Option.some.injEq, Prod.mk.injEq] at h
        obtain ⟨rfl, rfl, rfl⟩ := h
        refine ⟨id, ops, _, _, rfl, hl, rfl, rfl, rfl, rfl, fun ev w => ?_, fun ev w => ?_⟩
        · simp only [execOp, resolve, Sem.run_bind, Sem.run_pure, Result.andThen_ok, invoke]
          rfl
        · simp only [execOp]
          rfl
      · cases h
    · cases h
  · cases h

theorem putOff_ok (hP : PlainNames P) (hC : CallOK P cfg O.call) (hRd : RoundOK P cfg O.round) {g : Nat} {cv : List V} {p : V} {K : St → Option (Out × St)} (h : putOff P cfg O g cv p st K = some r) (hs : Sto P cfg base w own μ st) (hF : Flat own) {cargs : Array Value} (ha : Args w own μ cv cargs)
    {u : FrameMode} (hu : (u = .returning ∧ p = .nili) ∨ ∃ c, u = .panicking [{ v := c, recovered := false }] ∧ VRep w (prOf own) μ p c) :
    (∃ fg, P.funcs[g]? = some fg ∧ fg.body.isSome = true) ∧ CallsDIn Fence.wide m P g cargs u w fun e u' w' => ∃ v, e = .returned v ∧ settle u' = .returning ∧ ∃ st' own' μ', K st' = some r ∧ Sto P cfg base w' own' μ' st' ∧ Flat own' ∧ Keeps base w own μ w' own' μ' := by
  unfold putOff at h
  split at h
  · cases h
  · rename_i fg hf
    split at h
    · cases h
    · rename_i t5 t2 rest hb
      obtain ⟨c, hc, hp⟩ := Option.bind_eq_some_iff.1 hb
      obtain ⟨hg, h⟩ := gd_spec h
      simp only [Bool.and_eq_true, decide_eq_true_eq] at hg
      obtain ⟨⟨⟨⟨⟨⟨g1, g2⟩, g3⟩, g4⟩, g5⟩, g6⟩, g7⟩ := hg
      obtain ⟨id, ops, rc, as_, rfl, hl, k1, k2, k3, k4, k5, k6⟩ := partsR_spec (P := P) hp
      refine ⟨⟨fg, hf, by rw [hc]; rfl⟩, callsDIn_of_wpSIn hf hc trivial fun c₀ cs hmode => ?_⟩
      obtain ⟨hR, hN⟩ := rel_enter (fn := fg) hs ha g1
      have hops : ops = #[rc, as_] := by rw [← hl]
      subst hops
      -- what is recovered
      obtain ⟨cp, cs', u', hV, hrec, hcs, hset⟩ : ∃ cp cs' u', VRep w (prOf own) μ p cp ∧ (match recoverD (c₀ :: cs) with | some (v, cs') => (v, cs') | none => (Value.nilIface, c₀ :: cs)) = (cp, cs') ∧ cs' = { c₀ with mode := u' } :: cs ∧ settle u' = .returning := by
        rcases hu with ⟨rfl, rfl⟩ | ⟨c, rfl, hv⟩
        · refine ⟨.nilIface, c₀ :: cs, .returning, .nili, ?_, ?_, rfl⟩
          · simp only [recoverD, hmode]
          · rw [← hmode]
        · refine ⟨c, _, .panicking [{ v := c, recovered := true }], hv, ?_, rfl, rfl⟩
          simp only [recoverD, hmode]
      have hno : ∀ d, NoPtr (envArgs cv) d := fun d t off e => absurd e (hN t d off)
      have hR1 := hR.put t5 g2 (hno t5) hV
      have hN1 : NoL ((envArgs cv).set t5 p) := fun t x off e => by
        rw [get_set] at e
        split at e
        · subst e; cases hV
        · exact hN t x off e
      have hR2 := hR1.put t2 g3 (fun t off e => absurd e (hN1 t t2 off)) hV
      have hN2 : NoL (((envArgs cv).set t5 p).set t2 p) := fun t x off e => by
        rw [get_set] at e
        split at e
        · subst e; cases hV
        · exact hN1 t x off e
      have hbody := exec_calm (m := m) hP hC hRd rest g5 g6 g4 _ _ st _ w own μ hR2 hN2 rfl h
      have hq : ∀ (Q : Exit → Act → List Frame → World → Prop), Q .normal ((({ tmps := cargs ++ Array.replicate (fg.ntmps - cargs.size) undef, defers := [] } : Act).put (some t5) cp).put (some t2) cp) cs' w →
          wpOpsSIn Fence.wide m P #[rc, as_] Q [0, 1] { tmps := cargs ++ Array.replicate (fg.ntmps - cargs.size) undef, defers := [] } (c₀ :: cs) w := by
        intro Q hQ
        have hlt : t5 < (cargs ++ Array.replicate (fg.ntmps - cargs.size) undef).size := by
          have := hR.tmps
          simp only at this
          rw [this]; exact g2
        have hget : ((({ tmps := cargs ++ Array.replicate (fg.ntmps - cargs.size) undef, defers := [] } : Act).put (some t5) cp).eval (.tmp t5)) = cp := by
          simp only [Act.eval, Act.put]
          rw [getD_setIf _ _ _ hlt, if_pos rfl]
        have step2 : ∀ cs2, Q .normal ((({ tmps := cargs ++ Array.replicate (fg.ntmps - cargs.size) undef, defers := [] } : Act).put (some t5) cp).put (some t2) cp) cs2 w →
            wpOpsSIn Fence.wide m P #[rc, as_] Q [1] (({ tmps := cargs ++ Array.replicate (fg.ntmps - cargs.size) undef, defers := [] } : Act).put (some t5) cp) cs2 w := by
          intro cs2 h2
          simp only [wpOpsSIn, show (#[rc, as_] : Array Oper)[1]? = some as_ from rfl, wanted_none k4, if_true, k6, k3, hget]
          exact ⟨fun _ _ => trivial, h2⟩
        simp only [wpOpsSIn, show (#[rc, as_] : Array Oper)[0]? = some rc from rfl, wanted_none k2, if_true, k5, k1]
        refine ⟨fun _ _ => trivial, ?_⟩
        split at hrec
        · rename_i v cs2 he
          simp only [he]
          simp only [Prod.mk.injEq] at hrec
          obtain ⟨rfl, rfl⟩ := hrec
          exact step2 _ hQ
        · rename_i he
          simp only [he]
          simp only [Prod.mk.injEq] at hrec
          obtain ⟨rfl, rfl⟩ := hrec
          have h2 := step2 _ hQ
          simp only [wpOpsSIn, he] at h2
          exact h2
      refine wpSIn_seq (wpSIn_region ?_)
      show wpOpsSIn _ _ _ _ _ [0, 1] _ _ _
      refine hq _ ?_
      show rest.wpSIn _ _ _ _ _ _ _
      refine wpSIn_of_wpIn rfl (wpIn_mono hbody fun e a' w' hF => ?_)
      obtain ⟨hF, hd⟩ := hF
      have hres : ∀ t, (results fg t).run P w' = .ok (.tuple #[]) w' := fun t => by
        have : fg.results = #[] := by simpa using g7
        simp [results, this]
      have fin : FinE P cfg base fg.ntmps w own μ r (fun e _ st' => match e with | .normal => K st' | .ret => K st' | _ => none) .normal a' w' ∨ FinE P cfg base fg.ntmps w own μ r (fun e _ st' => match e with | .normal => K st' | .ret => K st' | _ => none) .ret a' w' →
          a'.defers = [] ∧ ∃ u', cs' = { c₀ with mode := u' } :: cs ∧ ∃ v, (results fg a'.tmps).run P w' = .ok v w' ∧ (∃ v', Ending.returned v = .returned v' ∧ settle u' = .returning ∧ ∃ st' own' μ', K st' = some r ∧ Sto P cfg base w' own' μ' st' ∧ Flat own' ∧ Keeps base w own μ w' own' μ') := by
        intro hor
        have key : ∃ st' own' μ', K st' = some r ∧ Sto P cfg base w' own' μ' st' ∧ Flat own' ∧ Keeps base w own μ w' own' μ' := by
          rcases hor with hE | hE <;>
          · obtain ⟨ρ', st', own', μ', h1, h2, h3, h4⟩ := hE
            exact ⟨st', ownE own', μ', h1, sto_end h2.sto, ownE_flat own', h4.trans ((step_end h2.sto).keeps (by simp))⟩
        exact ⟨hd, u', hcs, _, hres _, _, rfl, hset, key⟩
      cases e with
      | normal => exact fin (.inl hF)
      | ret => exact fin (.inr hF)
      | exit i => obtain ⟨_, _, _, _, h1, _⟩ := hF; cases h1
      | goto l => obtain ⟨_, _, _, _, h1, _⟩ := hF; cases h1
      | panic ch => obtain ⟨_, _, _, _, _, _, _, h1, _⟩ := hF; cases h1
      | outgrown => exact hF.elim

theorem partsD_spec {c r0 rest : Code} {g d4 : Nat} {caps : List Operand} (h : partsD c = some (r0, g, d4, caps, rest)) : ∃ id ops mk df, c = .seq r0 (.seq (.region id ops false) rest) ∧ ops.toList = [mk, df] ∧ mk.dst = some d4 ∧ mk.guard = none ∧ df.dst = none ∧ df.guard = none ∧
    (∀ ev w, (execOp ev mk).run P w = .ok (.value (.func (.func g) #[] (caps.map ev).toArray)) w) ∧ ∀ ev w f cf cc, ev (.tmp d4) = .func f cf cc → (execOp ev df).run P w = .ok (.defer { target := .fn f cc, args := cf }) w := by
  unfold partsD at h
  split at h
  · rename_i r0' id ops rest'
    split at h
    · rename_i hl
      split at h
      · rename_i ht
        obtain ⟨rfl, rfl, rfl⟩ := ht
        simp only [Option.some.injEq, Prod.mk.injEq] at h
        obtain ⟨rfl, rfl, rfl, rfl, rfl⟩ := h
        refine ⟨id, ops, _, _, rfl, hl, rfl, rfl, rfl, rfl, fun ev w => ?_, fun ev w f cf cc he => ?_⟩
        · simp only [execOp, Instr.makeFunc, Sem.run_bind, Sem.run_pure, Result.andThen_ok]
          simp
          apply Array.toList_inj.1
          simp
        · simp only [execOp, resolve, Sem.run_bind, he, Deferred.ofValue]
          simp
      · cases h
    · cases h
  · cases h

theorem isRef0_spec {v : V} (h : isRef0 v = true) : ∃ q, v = .ref q 0 := by
  unfold isRef0 at h
  split at h
  · exact ⟨_, rfl⟩
  · cases h

/-- Marks, and what was put off behind them. -/
theorem leaves_then {F : Fence} {k : Nat} {fn : Func} {R : Ending → World → Prop} {u : FrameMode} (hu : u ≠ .run) {dl : List Deferred} {tm : Array Value} : ∀ (ds : List Deferred) (w : World), Rel P cfg base n w own μ ρ st { tmps := a.tmps, defers := ds } → Keeps base w0 own0 μ0 w own μ →
    (∀ w', Rel P cfg base n w' own μ ρ st { tmps := a.tmps, defers := [] } → Keeps base w0 own0 μ0 w' own μ → Keeps base w own μ w' own μ → LeavesInM F k P fn tm R dl u w') → LeavesInM F k P fn tm R (ds ++ dl) u w
  | [], w, h, hk, hend => hend w h hk Keeps.refl
  | d :: ds, w, h, hk, hend => by
    obtain ⟨D, rfl, hD, hd⟩ := h.defers d (by simp)
    obtain ⟨h1, h2⟩ := mark_taken h hD hd
    exact ⟨hu, .inl ⟨D, _, rfl, run_takeDeferred hD, leaves_then hu ds _ h1 (hk.trans h2) fun w' k1 k2 k3 => hend w' k1 k2 (h2.trans k3)⟩⟩

theorem cellsR_get {rs : List ResultVar} {t : Nat} : (cellsR ρ rs).get t = .undef ∨ ((cellsR ρ rs).get t = ρ.get t ∧ ∃ ty, .cell t ty ∈ rs) := by
  induction rs with
  | nil => exact .inl rfl
  | cons x rs ih =>
    cases x with
    | tmp y =>
      have : cellsR ρ (.tmp y :: rs) = cellsR ρ rs := rfl
      rw [this]
      rcases ih with h | ⟨h, ty, hm⟩
      · exact .inl h
      · exact .inr ⟨h, ty, by simp [hm]⟩
    | cell y ty =>
      have : (cellsR ρ (.cell y ty :: rs)).get t = (Env.set (cellsR ρ rs) y (ρ.get y)).get t := rfl
      rw [this, get_set]
      by_cases e : t = y
      · subst e
        rw [if_pos rfl]
        exact .inr ⟨rfl, ty, by simp⟩
      · rw [if_neg e]
        rcases ih with h | ⟨h, ty, hm⟩
        · exact .inl h
        · exact .inr ⟨h, ty, by simp [hm]⟩

theorem onIfcI_spec {R : Type} {r : R} {v : V} {K : Nat → Int → Option R} (h : onIfcI v K = some r) : ∃ t n, v = .ifc t (.int n) ∧ K t n = some r := by
  unfold onIfcI at h
  split at h
  · exact ⟨_, _, rfl, h⟩
  · cases h

theorem doneX_ok (hP : PlainNames P) (hC : CallOK P cfg O.call) (hRd : RoundOK P cfg O.round) : CallOK P cfg (doneX P cfg O) := by
  intro f args st x h
  unfold doneX at h
  split at h
  · cases h
  · rename_i fn hf
    split at h
    · cases h
    · rename_i r0 g d4 caps rest hb
      obtain ⟨c, hc, hp⟩ := Option.bind_eq_some_iff.1 hb
      refine ⟨⟨fn, hf, by rw [hc]; rfl⟩, fun n base w own μ cargs hs hfl ha => ?_⟩
      obtain ⟨hg, h⟩ := gd_spec h
      simp only [Bool.and_eq_true, decide_eq_true_eq] at hg
      obtain ⟨⟨⟨⟨⟨⟨⟨g1, g2⟩, g3⟩, g4⟩, g5⟩, g6⟩, g7⟩, g8⟩ := hg
      obtain ⟨id, ops, mk, df, rfl, hl, k1, k2, k3, k4, k5, k6⟩ := partsD_spec (P := P) hp
      have hops : ops = #[mk, df] := by rw [← hl]
      subst hops
      obtain ⟨hR, hN⟩ := rel_enter (fn := fn) hs ha g1
      refine callsIn_of_wp_marks hf hc trivial ?_
      refine wpIn_seq (wpIn_mono (exec_calm (m := n) hP hC hRd r0 g4 g5 g2 _ _ st _ w own μ hR hN rfl h) fun e a1 w1 hF => ?_)
      obtain ⟨hF, hd1⟩ := hF
      cases e with
      | ret => obtain ⟨_, _, _, _, h1, _⟩ := hF; cases h1
      | exit i => obtain ⟨_, _, _, _, h1, _⟩ := hF; cases h1
      | goto l => obtain ⟨_, _, _, _, h1, _⟩ := hF; cases h1
      | panic ch => obtain ⟨_, _, _, _, _, _, _, h1, _⟩ := hF; cases h1
      | outgrown => exact hF.elim
      | normal =>
      obtain ⟨ρ1, st1, own1, μ1, h1, hR1, hN1, hK1⟩ := hF
      obtain ⟨hg2, h1⟩ := gd_spec h1
      simp only [Bool.and_eq_true, List.all_eq_true, decide_eq_true_eq] at hg2
      obtain ⟨⟨q1, q2⟩, q3⟩ := hg2
      generalize hfin : (fun st3 => resultsK P (cfg.room f) st.length (cellsR ρ1 fn.results.toList) st3 (fn.results.toList.zip fn.resultTypes.toList) fun vs st' => gc (cfg.pure f) st.length (.ret (match vs with | [v] => v | vs => .tup vs)) st') = fin at h1
      -- the function value
      have href : ∀ o ∈ caps, ∃ q b, ev ρ1 o = .ref q 0 ∧ μ1[q]? = some b ∧ a1.eval o = .pointer (some ⟨b, 0, none⟩) := by
        intro o ho
        obtain ⟨q, hq⟩ := isRef0_spec (q1 _ (List.mem_map.2 ⟨o, ho, rfl⟩))
        cases o with
        | tmp t =>
          have hT := hR1.env t
          have hq' : ρ1.get t = .ref q 0 := hq
          rw [hq'] at hT
          have hT : VRep w1 (prOf own1) μ1 (.ref q 0) (a1.tmps.getD t undef) := hT
          generalize hcv : a1.tmps.getD t undef = cv at hT
          cases hT with
          | ref _ _ b hb => exact ⟨q, b, hq, hb, hcv⟩
        | const v => have := List.all_eq_true.1 g8 _ ho; cases this
        | global x => simp [ev] at hq
        | func x => simp [ev] at hq
      have hlt4 : d4 < a1.tmps.size := by rw [hR1.tmps]; exact g7
      -- two operations
      let fv : Value := .func (.func g) #[] (caps.map a1.eval).toArray
      let d : Deferred := { target := .fn (.func g) (caps.map a1.eval).toArray, args := #[] }
      let a2 : Act := a1.put (some d4) fv
      have hR2 : Rel P cfg base fn.ntmps w1 own1 μ1 (ρ1.set d4 .undef) st1 a2 := hR1.put d4 g7 (fun t off e => absurd e (hN1 t d4 off)) (.undef fv)
      have hN2 : NoL (ρ1.set d4 .undef) := fun t y off e => by
        rw [get_set] at e
        split at e
        · cases e
        · exact hN1 t y off e
      have hres : ∀ t ty, ResultVar.cell t ty ∈ fn.results.toList → ∃ q b, ρ1.get t = .ref q 0 ∧ μ1[q]? = some b ∧ a1.tmps.getD t undef = .pointer (some ⟨b, 0, none⟩) ∧ sets t rest = false ∧ t ≠ d4 := by
        intro t ty hm
        have := List.all_eq_true.1 q2 _ hm
        simp only [Bool.and_eq_true, Bool.not_eq_true'] at this
        obtain ⟨⟨j1, j2⟩, j3⟩ := this
        obtain ⟨q, hq⟩ := isRef0_spec j1
        have hT := hR1.env t
        rw [hq] at hT
        have hT : VRep w1 (prOf own1) μ1 (.ref q 0) (a1.tmps.getD t undef) := hT
        generalize hcv : a1.tmps.getD t undef = cv at hT
        cases hT with
        | ref _ _ b hb => exact ⟨q, b, hq, hb, rfl, j2, fun e => by subst e; simp at j3⟩
      let ts : List (Nat × Value) := fn.results.toList.filterMap fun | .cell t _ => some (t, a1.tmps.getD t undef) | .tmp _ => none
      have hts : ∀ y ∈ ts, ∃ ty, ResultVar.cell y.1 ty ∈ fn.results.toList ∧ y.2 = a1.tmps.getD y.1 undef := by
        intro y hy
        obtain ⟨rv, hm, he⟩ := List.mem_filterMap.1 hy
        cases rv with
        | tmp _ => cases he
        | cell t ty => simp only [Option.some.injEq] at he; subst he; exact ⟨ty, hm, rfl⟩
      have hts' : ∀ t ty, ResultVar.cell t ty ∈ fn.results.toList → (t, a1.tmps.getD t undef) ∈ ts := fun t ty hm => List.mem_filterMap.2 ⟨_, hm, rfl⟩
      have hfl2 : ∀ K, exec P cfg O f rest (ρ1.set d4 .undef) st1 K = some x → rest.wpIn Fence.wide n P (FinL P cfg base fn.ntmps w1 own1 μ1 x K [d] ts) (lift [d] a2) w1 := fun K hK =>
        exec_flat (m := n) hP hC hRd rest g6 g3 (fun y hy => by obtain ⟨ty, hm, _⟩ := hts y hy; obtain ⟨_, _, _, _, _, j, _⟩ := hres _ ty hm; exact j) K _ st1 a2 w1 own1 μ1 hR2 hN2
          (fun y hy => by
            obtain ⟨ty, hm, e⟩ := hts y hy
            obtain ⟨_, _, _, _, _, _, j⟩ := hres _ ty hm
            rw [e]
            show (a1.put (some d4) fv).tmps.getD y.1 undef = _
            simp only [Act.put]
            rw [getD_setIf _ _ _ hlt4, if_neg j]) hK
      refine wpIn_seq (wpIn_region ?_)
      show wpOpsIn _ _ _ _ _ [0, 1] _ _
      have hget4 : (a1.put (some d4) fv).eval (.tmp d4) = fv := by
        simp only [Act.eval, Act.put]
        rw [getD_setIf _ _ _ hlt4, if_pos rfl]
      have hopsW : ∀ (Q : Exit → Act → World → Prop), Q .normal (lift [d] a2) w1 → wpOpsIn Fence.wide n P #[mk, df] Q [0, 1] a1 w1 := by
        intro Q hQ
        simp only [wpOpsIn, show (#[mk, df] : Array Oper)[0]? = some mk from rfl, show (#[mk, df] : Array Oper)[1]? = some df from rfl, wanted_none k2, wanted_none k4, if_true]
        refine ⟨fun _ _ => trivial, ?_⟩
        rw [show Fence.wide.round = none from rfl, Oper.semAt_none, k5, Oper.uponIn_value, k1]
        refine ⟨fun _ _ => trivial, ?_⟩
        rw [show Fence.wide.round = none from rfl, Oper.semAt_none, k6 _ _ _ _ _ hget4, Oper.uponIn_defer, k3]
        have : ({ (a1.put (some d4) fv) with defers := d :: (a1.put (some d4) fv).defers } : Act).put none undef = lift [d] a2 := by
          show ({ tmps := (a1.put (some d4) fv).tmps, defers := d :: a1.defers } : Act) = { tmps := (a1.put (some d4) fv).tmps, defers := a1.defers ++ [d] }
          rw [hd1]; rfl
        rw [this]
        exact hQ
      refine hopsW _ ?_
      show rest.wpIn _ _ _ _ _ _
      refine wpIn_mono (hfl2 _ h1) fun e a3 w3 hF3 => ?_
      obtain ⟨a4, rfl, ht4, hF3⟩ := hF3
      -- the end of all
      have last : ∀ (p : V) (u : FrameMode) (ρ2 : Env) (st2 : St) (own2 : Own) (μ2 : List Nat), u ≠ .run → Rel P cfg base fn.ntmps w3 own2 μ2 ρ2 st2 a4 → Keeps base w1 own1 μ1 w3 own2 μ2 → putOff P cfg O g (caps.map (ev ρ1)) p st2 fin = some x →
          ((u = .returning ∧ p = .nili) ∨ ∃ c, u = .panicking [{ v := c, recovered := false }] ∧ VRep w3 (prOf own2) μ2 p c) → LeavesInM Fence.wide n P fn a4.tmps (CallPost P cfg base w own μ x) (a4.defers ++ [d]) u w3 := by
        intro p u ρ2 st2 own2 μ2 hu hR3 hK3 hput hor
        refine leaves_then hu a4.defers w3 hR3 (hK1.trans hK3) fun w4 hR4 hK4 hK34 => ?_
        have hEnd := sto_end hR4.sto
        have hKE : Keeps base w4 own2 μ2 w4 (ownE own2) μ2 := (step_end hR4.sto).keeps (by simp)
        have hmu : ∀ q b, μ1[q]? = some b → μ2[q]? = some b := fun q b hq => by
          obtain ⟨ν, rfl⟩ := hK3.mu
          exact mu_get hq
        have hArgs : Args w4 (ownE own2) μ2 (caps.map (ev ρ1)) (caps.map a1.eval).toArray := by
          refine ⟨by simp, fun i hi => ?_⟩
          have hi' : i < caps.length := by simpa using hi
          obtain ⟨q, b, e1, e2, e3⟩ := href caps[i] (List.getElem_mem hi')
          have e4 : (caps.map (ev ρ1)).getD i .undef = .ref q 0 := by simp [List.getD_eq_getElem?_getD, hi', e1]
          have e5 : (caps.map a1.eval).toArray.getD i undef = .pointer (some ⟨b, 0, none⟩) := by simp [Array.getD_eq_getD_getElem?, hi', e3]
          rw [e4, e5]
          exact .ref q 0 b (hmu _ _ e2)
        obtain ⟨hgb, hcall⟩ := putOff_ok (m := n - 1) (u := u) hP hC hRd hput hEnd (ownE_flat own2) hArgs (by
          rcases hor with hor | ⟨c, e1, e2⟩
          · exact .inl hor
          · exact .inr ⟨c, e1, hKE.vrep (hK34.vrep e2)⟩)
        refine ⟨hu, .inr ⟨fun h => (by cases h), .func g, (caps.map a1.eval).toArray, g, (caps.map a1.eval).toArray, rfl, ?_, fun _ _ => trivial, ?_⟩⟩
        · have := run_callFunc (P := P) hP hgb (w := w4) (#[] ++ (caps.map a1.eval).toArray)
          show (invoke (.fn (.func g) (caps.map a1.eval).toArray) #[]).run P w4 = _
          simp only [invoke]
          simpa using this
        · refine hcall.mono fun e u' w5 hpost => ?_
          obtain ⟨v, rfl, hset, st5, own5, μ5, j1, j2, j3, j4⟩ := hpost
          dsimp only
          rw [hset]
          have hmu5 : ∀ q b, μ2[q]? = some b → μ5[q]? = some b := fun q b hq => by
            obtain ⟨ν, rfl⟩ := j4.mu
            exact mu_get hq
          have hRR : Rel P cfg base fn.ntmps w5 own5 μ5 (cellsR ρ1 fn.results.toList) st5 { tmps := a4.tmps, defers := [] } := by
            refine ⟨j2, fun t => ?_, hR4.tmps, (fun y hy => (by cases hy)), List.nodup_nil⟩
            rcases cellsR_get (ρ := ρ1) (rs := fn.results.toList) (t := t) with e | ⟨e, ty, hm⟩
            · rw [e]; exact .undef _
            · obtain ⟨q, b, e1, e2, e3, _, _⟩ := hres t ty hm
              rw [e, e1]
              have := ht4 _ (hts' t ty hm)
              simp only at this
              show VRep _ _ _ _ _
              rw [this, e3]
              exact .ref q 0 b (hmu5 _ _ (hmu _ _ e2))
          rw [← hfin] at j1
          obtain ⟨vs, st', own6, cs, i1, i2, i3, i4, i5, i6, i7⟩ := resultsK_spec hRR _ _ st5 own5 _ (by simpa using q3) j2 j3 (fun b i hb => by
            rcases hb with hb | ⟨t, j, hb⟩
            · exact hb
            · rcases j3 b i with e | e | e | ⟨_, _, e⟩ <;> rw [e] at hb <;> cases hb) j1
          refine ⟨resC cs, run_results i7, ?_⟩
          have hv := results_rep i5 i6
          rw [← hs.len] at i1
          obtain ⟨μ', m1, m2, m3, m4⟩ := gc_spec i2 (((hK4.trans hKE).trans j4).trans i4) hv (.inl rfl) i1
          refine ⟨resC cs, own6, μ', m1, m2, ?_⟩
          rw [m3]
          exact ⟨rfl, m4⟩
      cases e with
      | normal =>
        obtain ⟨ρ2, st2, own2, μ2, j1, j2, j3, j4⟩ := hF3
        exact last _ _ ρ2 st2 own2 μ2 (by simp) j2 j4 j1 (.inl ⟨rfl, rfl⟩)
      | ret =>
        obtain ⟨ρ2, st2, own2, μ2, j1, j2, j3, j4⟩ := hF3
        exact last _ _ ρ2 st2 own2 μ2 (by simp) j2 j4 j1 (.inl ⟨rfl, rfl⟩)
      | exit i => obtain ⟨_, _, _, _, h1, _⟩ := hF3; cases h1
      | goto l => obtain ⟨_, _, _, _, h1, _⟩ := hF3; cases h1
      | panic ch =>
        obtain ⟨v, cv, ρ2, ρ3, st2, own2, μ2, j1, j2, j3, j4, rfl⟩ := hF3
        obtain ⟨t, n, rfl, j1⟩ := onIfcI_spec j1
        exact last _ _ ρ3 st2 own2 μ2 (by simp) j2 j3 j1 (.inr ⟨cv, rfl, j4⟩)
      | outgrown => exact hF3.elim
end
end Go.AM

/-! .. by all the fuel. -/
namespace Go.AM
open Go

section
variable {P : Program} {cfg : Cfg} {x : Out × St} {Os : Nat → Oracle} {O : Oracle}
theorem putOff_lim (hO : OLim Os O) {g : Nat} {cv : List V} {p : V} {st : St} {K : St → Option (Out × St)} (h : putOff P cfg O g cv p st K = some x) : Evt fun m => putOff P cfg (Os m) g cv p st K = some x := by
  unfold putOff at h ⊢
  split at h
  · cases h
  · rename_i fg hf
    split at h
    · cases h
    · rename_i t5 t2 rest hb
      obtain ⟨hg, h⟩ := gd_ok h
      refine (exec_lim hO rest _ _ _ (fun _ e _ st' => match e with | .normal => K st' | .ret => K st' | _ => none) (fun e ρ st h => .of fun _ => h) h).mono fun m hm => ?_
      simp only [hf, hb, hg]
      exact hm

theorem doneX_lim (hO : OLim Os O) {f : Nat} {args : List V} {st : St} (h : doneX P cfg O f args st = some x) : Evt fun m => doneX P cfg (Os m) f args st = some x := by
  unfold doneX at h ⊢
  split at h
  · cases h
  · rename_i fn hf
    split at h
    · cases h
    · rename_i r0 g d4 caps rest hb
      obtain ⟨hg, h⟩ := gd_ok h
      refine (exec_lim hO r0 _ _ _ (fun m e ρ1 st1 => match e with
        | .normal =>
          gd ((caps.map (ev ρ1)).all isRef0 && okCellsR ρ1 d4 rest fn.results.toList && decide (fn.results.size ≤ fn.resultTypes.size)) <|
          let fin (st3 : St) : Option (Out × St) :=
            resultsK P (cfg.room f) st.length (cellsR ρ1 fn.results.toList) st3 (fn.results.toList.zip fn.resultTypes.toList) fun vs st' => gc (cfg.pure f) st.length (.ret (match vs with | [v] => v | vs => .tup vs)) st'
          exec P cfg (Os m) f rest (ρ1.set d4 .undef) st1 fun e _ st2 =>
            match e with
            | .normal => putOff P cfg (Os m) g (caps.map (ev ρ1)) .nili st2 fin
            | .ret => putOff P cfg (Os m) g (caps.map (ev ρ1)) .nili st2 fin
            | .panic v => onIfcI v fun t n => putOff P cfg (Os m) g (caps.map (ev ρ1)) (.ifc t (.int n)) st2 fin
            | _ => none
        | _ => none) (fun e ρ1 st1 h => ?_) h).mono fun m hm => ?_
      · cases e with
        | normal =>
          dsimp only at h ⊢
          obtain ⟨hg2, h⟩ := gd_ok h
          refine (exec_lim hO rest _ _ _ (fun m e _ st2 => match e with
            | .normal => putOff P cfg (Os m) g (caps.map (ev ρ1)) .nili st2 fun st3 => resultsK P (cfg.room f) st.length (cellsR ρ1 fn.results.toList) st3 (fn.results.toList.zip fn.resultTypes.toList) fun vs st' => gc (cfg.pure f) st.length (.ret (match vs with | [v] => v | vs => .tup vs)) st'
            | .ret => putOff P cfg (Os m) g (caps.map (ev ρ1)) .nili st2 fun st3 => resultsK P (cfg.room f) st.length (cellsR ρ1 fn.results.toList) st3 (fn.results.toList.zip fn.resultTypes.toList) fun vs st' => gc (cfg.pure f) st.length (.ret (match vs with | [v] => v | vs => .tup vs)) st'
            | .panic v => onIfcI v fun t n => putOff P cfg (Os m) g (caps.map (ev ρ1)) (.ifc t (.int n)) st2 fun st3 => resultsK P (cfg.room f) st.length (cellsR ρ1 fn.results.toList) st3 (fn.results.toList.zip fn.resultTypes.toList) fun vs st' => gc (cfg.pure f) st.length (.ret (match vs with | [v] => v | vs => .tup vs)) st'
            | _ => none) (fun e ρ st h => ?_) h).mono fun m hm => ?_
          · cases e with
            | normal => exact putOff_lim hO h
            | ret => exact putOff_lim hO h
            | panic v =>
              obtain ⟨t, n, rfl, h⟩ := onIfcI_spec h
              exact putOff_lim hO h
            | exit i => cases h
            | goto l => cases h
          · rw [hg2]; exact hm
        | _ => cases h
      · simp only [hf, hb, hg]
        exact hm
end
end Go.AM

/-! slices.Clone: a row of one's own. -/
namespace Go.AM
open Go Go.Proofs Go.RowKit Go.Shelf Go.Lib

/-- What slices.Clone does, at an element's type. -/
def CloneAt (P : Program) (g : Nat) (e : TypeId) : Prop :=
  (∃ fn, P.funcs[g]? = some fn ∧ fn.body.isSome = true) ∧
  (∀ (c : Nat) (w : World), Calls P g #[.slice none 0 c] w fun ed w' => ed = .returned (.slice none 0 0) ∧ w' = w) ∧
  ∀ (i : TypeInfo) (a : Addr) (n c : Nat) (news : List Value) (w : World), P.info? e = some i → 0 < i.size → news.length = n * i.size → n ≤ maxLen → n * i.bytes ≤ 140737488355328 →
    (∀ j u, news[j]? = some u → w.cell? (a.add j) = some u) → (∀ u ∈ news, u.oneCell' = true) →
    Calls P g #[.slice (some a) n c] w fun ed w' => ∃ v', ed = .returned v' ∧ w'.ownsRow w.heap.size e i.size v' n news ∧ Below w.heap.size w w'

section
variable {P : Program} {ρ : Ren}
set_option maxHeartbeats 2000000 in
set_option maxRecDepth 100000 in
theorem cloneAt_of (L : SlLaysE0.n41 P ρ) {fn : Func} (hf : P.funcs[ρ.f 41]? = some fn) (hb : fn.body.isSome = true) {i0 : TypeInfo} (hi0 : P.info? (ρ.t 23) = some i0) {z : Value} (hz : i0.zero = some z) (hzl : z.cells.size = i0.size) : CloneAt P (ρ.f 41) (ρ.t 23) := by
  have mixed := L.mixed; have t4 := L.t4; have a4 := L.a4; have z4 := L.z4; have v4 := L.v4; have t22 := L.t22; have a22 := L.a22; have z22 := L.z22; have v22 := L.v22
  have q22 : ∀ (w : World) (a : Option Addr) (n c n' c' : Nat), (binOp .eql (ρ.t 22) (.slice a n c) (.slice none n' c')).run P w = .ok (.bool a.isNone) w := fun w a n c n' c' => Lib.run_eql_slice_nil w _ _ a n c n' c' L.t22
  have u22 : ∀ w, Sem.run P (underlying (ρ.t 22)) w = .ok (TypeDesc.slice (ρ.t 23)) w := run_underlying t22
  have z23 : ∀ w, (Go.sizeOf (ρ.t 23)).run P w = .ok i0.size w := fun w => by simp [Go.sizeOf, typeInfo, hi0]
  obtain ⟨_, _, FG⟩ := L.f41
  refine ⟨⟨fn, hf, hb⟩, fun c w => ?_, fun i a n c news w hi hs hl hn hbig hc h1 => ?_⟩
  · go_enter FG, SlBodyN.n41_ntmps ρ
    go_wp2
    go_ret
    exact ⟨rfl, rfl⟩
  · rw [hi0] at hi
    cases hi
    have A : Aside (∀ j u, news[j]? = some u → w.cell? (a.add j) = some u) := hc
    clear hc
    go_enter FG, SlBodyN.n41_ntmps ρ
    go_wp2_with (at_builtin; refine wpList_append_own _ rfl _ _ (ρ.t 22) rfl w.heap.size (ρ.t 23) i0 z i0.size i0.bytes t22 hi0 hz rfl rfl hzl hs _ _ _ rfl (World.ownsRow_made w #[] 0 (Nat.le_refl _) (Nat.zero_le _) (by simp)) a n c news rfl ?qc1 ?qc2 ?qc3 ?qc4 ?qc5 ?qc6 ?_)
    case qc1 => exact hl
    case qc2 => exact fun j u hj => Lib.cell?_alloc_some _ (A.out j u hj)
    case qc3 => exact h1
    case qc4 => rw [Nat.zero_add]; exact hn
    case qc5 => rw [Nat.zero_add]; exact hbig
    case qc6 => simp
    intro v' w1 hown hgrow hnil
    go_wp2
    go_ret
    exact ⟨v', rfl, by simpa using hown, ((Below.refl _ w).alloc (Nat.le_refl _) _).grown hgrow (by simp) (by intro k hk; simp [Value.ownBlock] at hk; omega)⟩
end

section
variable {P : Program} {cfg : Cfg} {base : Nat} {w w' : World} {own : Own} {μ : List Nat} {st : St}

/-- All is as_ it was below, and one block more is tagged. -/
theorem Step.above (hs : Sto P cfg base w own μ st) (hB : Below w.heap.size w w') {g : Nat} {t : Tag} (hg : w.heap.size ≤ g) (hg' : g < w'.heap.size) (ht : t ≠ .fr) (ν : List Nat) : Step base w own μ w' (ownAt own g t) (μ ++ ν) (fun _ => False) := by
  have hlt : ∀ {b i}, own b i ≠ .free → b < w.heap.size := fun h => hs.alloc _ _ h
  have hne : ∀ {b i}, own b i ≠ .free → b ≠ g := fun h e => by have := hlt h; omega
  refine ⟨hB.mono hs.size, fun b i h => ?_, fun b i h _ => ?_, fun b i h => ?_, fun b i h => ?_, fun b i h1 h2 h3 => ?_, fun b c e f hb => ?_, fun b g' h1 h2 _ _ => ?_, ν, rfl⟩
  · have hb : own b i ≠ .free := by rw [h]; simp
    refine ⟨by simp [ownAt, hne hb, h], ?_⟩
    simp [World.cell?, hB.block b (hlt hb)]
  · simp [ownAt, hne h]
  · by_cases e : b = g
    · simp [ownAt, e] at h; exact absurd h ht
    · simpa [ownAt, e] using h
  · by_cases e : b = g
    · subst e; exact hg'
    · have : own b i ≠ .free := by simpa [ownAt, e] using h
      have := hs.alloc b i this
      have := hB.size
      omega
  · by_cases e : b = g
    · rw [e]; exact Nat.le_trans hs.size hg
    · simp only [ownAt, e, if_false] at h1 h2 h3
      exact hs.low b i h1 h2 h3
  · exact ⟨c, (hB.block b (Array.getElem?_eq_some_iff.1 hb).1).trans hb, rfl⟩
  · exact hB.block b (hlt (i := 0) (by rw [h1]; exact h2))

theorem Step.above' (hs : Sto P cfg base w own μ st) (hB : Below w.heap.size w w') (ν : List Nat) : Step base w own μ w' own (μ ++ ν) (fun _ => False) := by
  have hlt : ∀ {b i}, own b i ≠ .free → b < w.heap.size := fun h => hs.alloc _ _ h
  refine ⟨hB.mono hs.size, fun b i h => ?_, fun b i h _ => rfl, fun b i h => h, fun b i h => Nat.lt_of_lt_of_le (hlt h) hB.size, hs.low, fun b c e f hb => ⟨c, (hB.block b (Array.getElem?_eq_some_iff.1 hb).1).trans hb, rfl⟩, fun b g' h1 h2 _ _ => hB.block b (hlt (i := 0) (by rw [h1]; exact h2)), ν, rfl⟩
  have hb : own b i ≠ .free := by rw [h]; simp
  exact ⟨h, by simp [World.cell?, hB.block b (hlt hb)]⟩

/-- slices.Clone: a row. -/
def cloneX (P : Program) (e : TypeId) (args : List V) (st : St) : Option (Out × St) :=
  match args with
  | [.vec _ sh es] => gd (shEq P sh e && decide (0 < sh.sz) && roomFor P e es.length) (some (.ret (.row sh st.length 0 es.length), st ++ [.row sh es]))
  | _ => none

theorem cloneX_ok {g : Nat} {e : TypeId} (hC : CloneAt P g e) {args : List V} {st : St} {y : Out × St} (h : cloneX P e args st = some y) : (∃ fn, P.funcs[g]? = some fn ∧ fn.body.isSome = true) ∧
    ∀ (n base : Nat) (w : World) (own : Own) (μ : List Nat) (cargs : Array Value), Sto P cfg base w own μ st → Flat own → Args w own μ args cargs → CallsIn Fence.wide n P g cargs w (CallPost P cfg base w own μ y) := by
  refine ⟨hC.1, fun n base w own μ cargs hs hfl hA => ?_⟩
  unfold cloneX at h
  split at h
  · rename_i m sh es
    obtain ⟨hb, h⟩ := gd_spec h
    cases h
    simp only [Bool.and_eq_true, decide_eq_true_eq] at hb
    obtain ⟨⟨hsh, hsz⟩, hroom⟩ := hb
    unfold shEq at hsh
    simp only [Bool.and_eq_true, decide_eq_true_eq] at hsh
    obtain ⟨hok, rfl⟩ := hsh
    obtain ⟨d, i, _, hi, hisz, _⟩ := okTy_spec hok
    unfold roomFor at hroom
    rw [hi] at hroom
    simp only [Option.map_some, Option.getD_some, Bool.and_eq_true, decide_eq_true_eq] at hroom
    have hrm : es.length * i.bytes ≤ 140737488355328 := by
      have : es.length * (2 * i.bytes) = 2 * (es.length * i.bytes) := by rw [Nat.mul_left_comm]
      have h1 := hroom.1
      rw [this] at h1
      omega
    have hlen : es.length ≤ maxLen := by
      have := Nat.le_mul_of_pos_right es.length hroom.2
      unfold maxLen
      omega
    have h0 := hA.2 0 (by simp)
    have hsz1 : cargs.size = 1 := by have := hA.1; simpa using this.symm
    have hce : cargs = #[cargs.getD 0 undef] := by
      apply Array.ext
      · simp [hsz1]
      · intro j hj _
        have : j = 0 := by omega
        subst this
        simp [Array.getD_eq_getD_getElem?, hj]
    rw [hce]
    simp only [List.getD_cons_zero] at h0
    generalize cargs.getD 0 undef = c at h0
    obtain ⟨A, len, cap, rfl⟩ : ∃ A len cap, c = .slice A len cap := by
      cases h0 with
      | vecE => exact ⟨_, _, _, rfl⟩
      | vec => exact ⟨_, _, _, rfl⟩
    obtain ⟨rfl, hcap, news, hN, hcells⟩ := vec_news h0
    -- an empty one: whatever comes back
    have hemp : es = [] → ∀ A' c' (w' : World), Below w.heap.size w w' → CallPost P cfg base w own μ (.ret (.row (shOf P e) st.length 0 es.length), st ++ [.row (shOf P e) es]) (.returned (.slice A' 0 c')) w' := by
      rintro rfl A' c' w' hB
      refine ⟨.slice A' 0 c', own, μ ++ [0], ?_, (Step.above' hs hB [0]).keeps fun h => h, rfl, ?_⟩
      · refine hs.step (Step.above' hs hB [0]) (by simp [hs.len]) fun r x b hx hb => ?_
        by_cases hr : r < st.length
        · rw [List.getElem?_append_left hr] at hx
          exact .inl ⟨hx, fun _ h => h⟩
        · have : r = st.length := by
            have := (List.getElem?_eq_some_iff.1 hx).1
            simp at this; omega
          subst this
          simp at hx
          subst hx
          exact .inr (.inl rfl)
      · exact .rowE _ _ _ 0 A' c' (by rw [← hs.len]; simp)
    cases A with
    | none =>
      have he : es = [] := Classical.byContradiction fun h => by obtain ⟨_, _, h1, _⟩ := hcells h; cases h1
      subst he
      refine callsIn_wide.2 ((hC.2.1 cap w).mono fun ed w' hp => ?_)
      obtain ⟨rfl, rfl⟩ := hp
      exact hemp rfl none 0 _ (Below.refl _ _)
    | some a =>
      refine callsIn_wide.2 ((hC.2.2 i a es.length cap news w hi (by rw [hisz]; exact hsz) (by rw [hN.1, hisz]) hlen hrm (fun j u hj => ?_) hN.one).mono fun ed w' hp => ?_)
      · have hj' := (List.getElem?_eq_some_iff.1 hj).1
        have he : es ≠ [] := by
          rintro rfl
          rw [hN.1] at hj'
          simp at hj'
        obtain ⟨b, off, h1, h2⟩ := hcells he
        cases h1
        have := (h2 j hj').1
        rw [List.getD_eq_getElem?_getD, hj] at this
        rw [Addr.add_lit]
        exact this
      · obtain ⟨v', rfl, ⟨hnl, hown⟩, hB⟩ := hp
        by_cases he : es = []
        · subst he
          rcases hown with ⟨rfl, _⟩ | ⟨g', cap', cur, rfl, _⟩
          · exact hemp rfl none 0 w' hB
          · exact hemp rfl _ _ w' hB
        · rcases hown with ⟨_, hz⟩ | ⟨g', cap', cur, rfl, hg1, hg2, hle, _, hcur, htake⟩
          · exact absurd (List.length_eq_zero_iff.1 hz) he
          · have hg3 := (Array.getElem?_eq_some_iff.1 hg2).1
            have s := Step.above hs hB (t := .r st.length 0) hg1 hg3 (by simp) [g']
            refine ⟨.slice (some ⟨g', 0, none⟩) es.length cap', _, _, ?_, s.keeps fun h => h, rfl, ?_⟩
            · refine hs.step s (by simp [hs.len]) fun r x b hx hb => ?_
              by_cases hr : r < st.length
              · rw [List.getElem?_append_left hr] at hx
                exact .inl ⟨hx, fun _ h => h⟩
              · have : r = st.length := by
                  have := (List.getElem?_eq_some_iff.1 hx).1
                  simp at this; omega
                subst this
                simp at hx
                subst hx
                rw [← hs.len] at hb
                simp at hb
                subst hb
                rw [hisz] at hcur htake
                have hle2 : es.length * (shOf P e).sz ≤ cap' * (shOf P e).sz := Nat.mul_le_mul_right _ hle
                refine .inr (.inr ⟨cur.size, cur, ⟨e, (0, 0), hg2, rfl, fun i hi => ?_, fun i => by simp [ownAt]⟩, by rw [hcur]; exact hle2, fun i hi => ⟨hN.2.1 i hi, fun j hj => ?_⟩⟩)
                · simp [World.frozen?, hg2]
                · have hlt := row_idx hi hj
                  have hk : cur.getD (i * (shOf P e).sz + j) undef = news.getD (i * (shOf P e).sz + j) undef := by
                    rw [← htake, List.getD_eq_getElem?_getD, Array.getD_eq_getD_getElem?, List.getElem?_take, if_pos hlt, Array.getElem?_toList]
                  rw [hk]
                  exact ⟨(hN.2.2 i j hi hj).1, s.vrep (hN.2.2 i j hi hj).2⟩
            · have := VRep.row (w := w') (pr := prOf (ownAt own g' (.r st.length 0))) (μ := μ ++ [g']) (shOf P e) st.length 0 es.length g' cap' (by rw [← hs.len]; simp) hle
              simpa using this
  · cases h
end
end Go.AM

/-! strconv.Itoa, below a hundred. -/
namespace Go.AM
open Go Go.Proofs Go.RowKit Go.Shelf Go.Lib

/-- What strconv.Itoa does below a hundred. -/
def ItoaAt (P : Program) (g : Nat) : Prop :=
  (∃ fn, P.funcs[g]? = some fn ∧ fn.body.isSome = true) ∧
  ∀ (i : Nat), i < 100 → ∀ w, Calls P g #[.int .i64 i] w fun e w' => e = .returned (.string ⟨(Lib.decDigits i).toArray⟩) ∧ w' = w

/-- strconv.Itoa: a text. -/
def itoaX (args : List V) (st : St) : Option (Out × St) :=
  match args with
  | [.int i] => gd (decide (0 ≤ i) && decide (i < 100)) (some (.ret (.str ⟨(Lib.decDigits i.toNat).toArray⟩), st))
  | _ => none

variable {P : Program} {cfg : Cfg}

theorem itoaX_ok {g : Nat} (hC : ItoaAt P g) {args : List V} {st : St} {y : Out × St} (h : itoaX args st = some y) : (∃ fn, P.funcs[g]? = some fn ∧ fn.body.isSome = true) ∧
    ∀ (n base : Nat) (w : World) (own : Own) (μ : List Nat) (cargs : Array Value), Sto P cfg base w own μ st → Flat own → Args w own μ args cargs → CallsIn Fence.wide n P g cargs w (CallPost P cfg base w own μ y) := by
  refine ⟨hC.1, fun n base w own μ cargs hs hfl hA => ?_⟩
  unfold itoaX at h
  split at h
  · rename_i i
    obtain ⟨hb, h⟩ := gd_spec h
    cases h
    simp only [Bool.and_eq_true, decide_eq_true_eq] at hb
    obtain ⟨h0i, hi⟩ := hb
    have h0 := hA.2 0 (by simp)
    have hsz1 : cargs.size = 1 := by have := hA.1; simpa using this.symm
    have hce : cargs = #[cargs.getD 0 undef] := by
      apply Array.ext
      · simp [hsz1]
      · intro j hj _
        have : j = 0 := by omega
        subst this
        simp [Array.getD_eq_getD_getElem?, hj]
    rw [hce]
    simp only [List.getD_cons_zero] at h0
    generalize cargs.getD 0 undef = c at h0
    cases h0
    obtain ⟨k, rfl⟩ := Int.eq_ofNat_of_zero_le h0i
    refine callsIn_wide.2 ((hC.2 k (by omega) w).mono fun ed w' hp => ?_)
    obtain ⟨rfl, rfl⟩ := hp
    exact ⟨_, own, μ, hs, Keeps.refl .., rfl, .str _⟩
  · cases h
end Go.AM

/-! What a law is handed: tree values of its parameters' types. -/
namespace Go.AM
open Go Go.RowKit

/-! ### how much there is -/
mutual
def bulkV : V → Nat
  | .str s => s.size + 1
  | .vec _ _ es => bulkL es + 1
  | .agg cs => bulkL cs + 1
  | _ => 1
def bulkL : List V → Nat
  | [] => 0
  | v :: vs => bulkV v + bulkL vs
end
mutual
def bulkD {H : Type} : DataW H → Nat
  | .lit (.string bytes) => bytes.length + 1
  | .lit _ => 1
  | .nil => 1
  | .ptr d => bulkD d + 1
  | .slice elems spare => bulkDs elems + bulkDs spare + 1
  | .agg parts => bulkDs parts + 1
  | .iface _ d => bulkD d + 1
  | .map _ => 1
  | .held _ => 1
def bulkDs {H : Type} : List (DataW H) → Nat
  | [] => 0
  | d :: r => bulkD d + bulkDs r
end
theorem bulkL_append (a b : List V) : bulkL (a ++ b) = bulkL a + bulkL b := by
  induction a with
  | nil => simp [bulkL]
  | cons x a ih => simp only [List.cons_append, bulkL, ih]; omega

theorem bulkDs_append {H : Type} (a b : List (DataW H)) : bulkDs (a ++ b) = bulkDs a + bulkDs b := by
  induction a with
  | nil => simp [bulkDs]
  | cons x a ih => simp only [List.cons_append, bulkDs, ih]; omega

/-- Types that are known: whole numbers, bools, strings, slices and structs of such. -/
def knownB (P : Program) (S : List TypeId) : Bool :=
  S.all fun t => decide (t < P.types.size) && match P.underlying t with
    | some .bool => true
    | some (.int _) => true
    | some .string => true
    | some (.slice e) => S.contains e && decide (0 < P.cellsOf e)
    | some (.struct fs) => fs.toList.all fun f => S.contains f.type
    | _ => false

/-- Cells of a type. -/
def WT (P : Program) : Nat → TypeId → List V → Prop
  | 0, _, _ => False
  | n + 1, t, cs =>
    match P.underlying t with
    | some (.int .i64) => ∃ z, cs = [.int z] ∧ (Lit.int .i64 z).wf = true
    | some (.int k) => ∃ z, cs = [.ik k z] ∧ (Lit.int k z).wf = true
    | some .bool => ∃ b, cs = [.bool b]
    | some .string => ∃ s : ByteArray, cs = [.str s] ∧ s.size ≤ maxLen
    | some (.slice e) => ∃ es, cs = [.vec .plain (shOf P e) es] ∧ es.length ≤ maxLen ∧ ∀ v ∈ es, Shaped (shOf P e) v ∧ WT P n e (AM.cellsOf v)
    | some (.struct fs) => cs.length = P.cellsOf t ∧ ∀ f ∈ fs.toList, WT P n f.type ((cs.drop f.offset).take (P.cellsOf f.type))
    | _ => False

section
variable {H : Type} {enc : TypeId × Value → H} {P : Program} {w : World} {sp : Nat → Bool} {held : Bool}

/-- What lies below the heap's end. -/
abbrev prW (w : World) : Nat → Nat → Prop := fun b _ => b < w.heap.size

/-- Cells and what they stand for. -/
def CellsRep (w : World) (vs : List V) (cs : List Value) : Prop :=
  vs.length = cs.length ∧ ∀ i, i < cs.length → (cs.getD i undef).oneCell' = true ∧ VRep w (prW w) [] (vs.getD i .undef) (cs.getD i undef)

theorem cellsRep_one {v : V} {c : Value} (h1 : c.oneCell' = true) (h : VRep w (prW w) [] v c) : CellsRep w [v] [c] := by
  refine ⟨rfl, fun i hi => ?_⟩
  have : i = 0 := by simpa using hi
  subst this
  exact ⟨h1, h⟩

theorem cellsRep_append {vs vs' : List V} {cs cs' : List Value} (h : CellsRep w vs cs) (h' : CellsRep w vs' cs') : CellsRep w (vs ++ vs') (cs ++ cs') := by
  refine ⟨by simp [h.1, h'.1], fun i hi => ?_⟩
  rcases Nat.lt_or_ge i cs.length with hlt | hge
  · have e1 : (cs ++ cs').getD i undef = cs.getD i undef := by rw [List.getD_eq_getElem?_getD, List.getElem?_append_left hlt, ← List.getD_eq_getElem?_getD]
    have e2 : (vs ++ vs').getD i .undef = vs.getD i .undef := by rw [List.getD_eq_getElem?_getD, List.getElem?_append_left (by rw [h.1]; exact hlt), ← List.getD_eq_getElem?_getD]
    rw [e1, e2]; exact h.2 i hlt
  · have e1 : (cs ++ cs').getD i undef = cs'.getD (i - cs.length) undef := by rw [List.getD_eq_getElem?_getD, List.getElem?_append_right hge, ← List.getD_eq_getElem?_getD]
    have e2 : (vs ++ vs').getD i .undef = vs'.getD (i - cs.length) .undef := by rw [List.getD_eq_getElem?_getD, List.getElem?_append_right (by rw [h.1]; exact hge), h.1, ← List.getD_eq_getElem?_getD]
    rw [e1, e2]; exact h'.2 _ (by simp at hi; omega)

theorem known_spec {S : List TypeId} (hS : knownB P S = true) {t : TypeId} (ht : t ∈ S) : t < P.types.size ∧ (P.underlying t = some .bool ∨ (∃ k, P.underlying t = some (.int k)) ∨ P.underlying t = some .string ∨
    (∃ e, P.underlying t = some (.slice e) ∧ e ∈ S ∧ 0 < P.cellsOf e) ∨ ∃ fs, P.underlying t = some (.struct fs) ∧ ∀ f ∈ fs.toList, f.type ∈ S) := by
  have := List.all_eq_true.1 hS t ht
  simp only [Bool.and_eq_true, decide_eq_true_eq] at this
  refine ⟨this.1, ?_⟩
  have h2 := this.2
  split at h2
  · rename_i h; exact .inl h
  · rename_i h; exact .inr (.inl ⟨_, h⟩)
  · rename_i h; exact .inr (.inr (.inl h))
  · rename_i e h
    simp only [Bool.and_eq_true, decide_eq_true_eq, List.contains_iff_mem] at h2
    exact .inr (.inr (.inr (.inl ⟨e, h, h2.1, h2.2⟩)))
  · rename_i fs h
    simp only [List.all_eq_true, List.contains_iff_mem] at h2
    exact .inr (.inr (.inr (.inr ⟨fs, h, h2⟩)))
  · cases h2

theorem notAgg_cells {v : V} (h : ∀ c, v ≠ .agg c) : AM.cellsOf v = [v] := by
  cases v <;> first | rfl | exact absurd rfl (h _)

theorem sum_take_le {α : Type} (f : α → Nat) : ∀ (l : List α) (j : Nat) (x : α), l[j]? = some x → ((l.take j).map f).sum + f x ≤ (l.map f).sum
  | [], j, x, h => by simp at h
  | y :: l, 0, x, h => by simp at h; subst h; simp
  | y :: l, j + 1, x, h => by
    have := sum_take_le f l j x (by simpa using h)
    simp only [List.take_succ_cons, List.map_cons, List.sum_cons]
    omega

/-- One more for a struct. -/
def isStr (P : Program) (t : TypeId) : Nat := match P.underlying t with | some (.struct _) => 1 | _ => 0

theorem fields_rep {n : Nat} {S' : List TypeId} (ih : ∀ t cs (x : DataW H × List MemPlace), DataW.trod enc P w 0 sp held n t cs = some x → t ∈ S' → ∃ vs, WT P n t vs ∧ cs.length = P.cellsOf t ∧ CellsRep w vs cs ∧ (∀ v ∈ vs, ∀ c, v ≠ .agg c) ∧ bulkL vs + isStr P t ≤ bulkD x.1) (cs : List Value) :
    ∀ (fs : List Field) (off : Nat) (xs : List (DataW H × List MemPlace)), (∀ (j : Nat) f, fs[j]? = some f → f.offset = off + ((fs.take j).map fun f => P.cellsOf f.type).sum) → (∀ f ∈ fs, f.type ∈ S') → xs.length = fs.length →
      (∀ (i : Nat) (f : Field), fs[i]? = some f → DataW.trod enc P w 0 sp held n f.type ((cs.drop f.offset).take (P.cellsOf f.type)) = xs[i]?) → cs.length = off + (fs.map fun f => P.cellsOf f.type).sum →
      ∃ vs, (∀ f ∈ fs, WT P n f.type ((vs.drop (f.offset - off)).take (P.cellsOf f.type))) ∧ CellsRep w vs (cs.drop off) ∧ (∀ v ∈ vs, ∀ c, v ≠ .agg c) ∧ bulkL vs ≤ bulkDs (xs.map (·.1))
  | [], off, xs, _, _, hx, _, hl => by
    refine ⟨[], (fun f hf => by cases hf), ⟨by simp at hl ⊢; omega, fun i hi => by simp at hl hi; omega⟩, (fun v hv => by cases hv), by simp [bulkL]⟩
  | f :: fs, off, [], _, _, hx, _, _ => by simp at hx
  | f :: fs, off, x :: xs, hoff, hS, hx, hel, hl => by
    have h0 : f.offset = off := by simpa using hoff 0 f rfl
    obtain ⟨vs0, k1, k2, k3, k4, k5⟩ := ih f.type _ x (by simpa using hel 0 f rfl) (hS f (by simp))
    simp only [List.map_cons, List.sum_cons] at hl
    obtain ⟨vs1, j1, j2, j3, j4⟩ := fields_rep ih cs fs (off + P.cellsOf f.type) xs (fun j g hg => by
      have := hoff (j + 1) g (by simpa using hg)
      simp only [List.take_succ_cons, List.map_cons, List.sum_cons] at this
      omega) (fun g hg => hS g (by simp [hg])) (by simpa using hx) (fun i g hg => by simpa using hel (i + 1) g (by simpa using hg)) (by omega)
    have hv0 : vs0.length = P.cellsOf f.type := by rw [k3.1, k2]
    refine ⟨vs0 ++ vs1, fun g hg => ?_, ?_, fun v hv => ?_, ?_⟩
    · rcases List.mem_cons.1 hg with rfl | hg
      · rw [h0, Nat.sub_self, List.drop_zero, List.take_append_of_le_length (by omega), List.take_of_length_le (by omega)]
        exact k1
      · obtain ⟨j, hj, hjg⟩ := List.mem_iff_getElem.1 hg
        have hge := hoff (j + 1) g (by simp [hj, hjg])
        simp only [List.take_succ_cons, List.map_cons, List.sum_cons] at hge
        have e : (vs0 ++ vs1).drop (g.offset - off) = vs1.drop (g.offset - (off + P.cellsOf f.type)) := by
          rw [List.drop_append, hv0, List.drop_of_length_le (by omega), List.nil_append]
          congr 1; omega
        rw [e]; exact j1 g hg
    · have e : cs.drop off = (cs.drop f.offset).take (P.cellsOf f.type) ++ cs.drop (off + P.cellsOf f.type) := by
        rw [h0, ← List.drop_drop, List.take_append_drop]
      rw [e]
      exact cellsRep_append k3 j2
    · rcases List.mem_append.1 hv with h | h
      · exact k4 v h
      · exact j3 v h
    · simp only [bulkL_append, List.map_cons, bulkDs]
      omega

theorem trod_rep (hl : laidOutB P = true) {S : List TypeId} (hS : knownB P S = true) : ∀ (n : Nat) (t : TypeId) (cs : List Value) (x : DataW H × List MemPlace), DataW.trod enc P w 0 sp held n t cs = some x → t ∈ S →
    ∃ vs, WT P n t vs ∧ cs.length = P.cellsOf t ∧ CellsRep w vs cs ∧ (∀ v ∈ vs, ∀ c, v ≠ .agg c) ∧ bulkL vs + isStr P t ≤ bulkD x.1 := by
  intro n
  induction n with
  | zero => intro t cs x h; simp [DataW.trod] at h
  | succ n ih =>
    intro t cs x h htS
    obtain ⟨ht, hk⟩ := known_spec hS htS
    have hone : ∀ d, P.underlying t = some d → (∀ fs, d ≠ .struct fs) → (∀ n e, d ≠ .array n e) → P.cellsOf t = 1 := by
      intro d hd h1 h2
      have := rowFine_of hl ht
      simp only [rowFine, isVar, ht, hd, decide_true, Bool.true_and] at this
      cases d <;> simp_all [kindOk]
    rcases hk with hu | ⟨k, hu⟩ | hu | ⟨e, hu, heS, hpos⟩ | ⟨fs, hu, hfs⟩
    · obtain ⟨b, rfl, rfl⟩ := DataW.trod_bool hu h
      refine ⟨[.bool b], ?_, (hone _ hu (by simp) (by simp)).symm, cellsRep_one rfl (.bool b), by simp, by simp [bulkL, bulkV, bulkD, isStr, hu]⟩
      simp only [WT, hu]
      exact ⟨b, rfl⟩
    · obtain ⟨z, rfl, rfl, hw⟩ := DataW.trod_int hu h
      by_cases hk : k = .i64
      · subst hk
        refine ⟨[.int z], ?_, (hone _ hu (by simp) (by simp)).symm, cellsRep_one rfl (.int z), by simp, by simp [bulkL, bulkV, bulkD, isStr, hu]⟩
        simp only [WT, hu]
        exact ⟨z, rfl, hw⟩
      · refine ⟨[.ik k z], ?_, (hone _ hu (by simp) (by simp)).symm, cellsRep_one rfl (.ik k z), by simp, by simp [bulkL, bulkV, bulkD, isStr, hu]⟩
        simp only [WT, hu]
        cases k <;> first | exact absurd rfl hk | exact ⟨z, rfl, hw⟩
    · obtain ⟨s, rfl, rfl, hs⟩ := DataW.trod_string hu h
      refine ⟨[.str s], ?_, (hone _ hu (by simp) (by simp)).symm, cellsRep_one rfl (.str s), by simp, ?_⟩
      · simp only [WT, hu]
        exact ⟨s, rfl, hs⟩
      · simp [bulkL, bulkV, bulkD, isStr, hu]
    · rcases DataW.trod_slice hu h with ⟨rfl, rfl⟩ | ⟨a, len, cap, elems, rest, m, hm, rfl, rfl, _, hle, hmax, hlen, hel, _, _⟩
      · refine ⟨[.vec .plain (shOf P e) []], ?_, (hone _ hu (by simp) (by simp)).symm, cellsRep_one rfl (.vecE _ _ _ _ (by simp) (by simp)), by simp, by simp [bulkL, bulkV, bulkD, isStr, hu]⟩
        simp only [WT, hu]
        exact ⟨[], rfl, by simp, by simp⟩
      · have hm' : n = m := by omega
        subst hm'
        have each : ∀ i, i < len → ∃ (v : V) (f : Nat → Value) (y : DataW H × List MemPlace), elems[i]? = some y ∧ Shaped (shOf P e) v ∧ WT P n e (AM.cellsOf v) ∧ bulkV v ≤ bulkD y.1 + 0 ∧
            ∀ j, j < (shOf P e).sz → w.cell? ((a.add (i * P.cellsOf e)).add j) = some (f j) ∧ (f j).oneCell' = true ∧ VRep w (prW w) [] (cellAt v j) (f j) := by
          intro i hi
          have hei := hel i hi
          have hsome : elems[i]? = some elems[i] := by simp [hlen, hi]
          rw [hsome] at hei
          obtain ⟨cs', hc, hd⟩ := Option.bind_eq_some_iff.1 hei
          obtain ⟨_, hcl, hcell⟩ := World.cells?_some hc
          obtain ⟨vs, k1, k2, k3, k4, k5⟩ := ih e cs' _ hd heS
          obtain ⟨hte, hke⟩ := known_spec hS heS
          have hvl : vs.length = P.cellsOf e := by rw [k3.1, k2]
          have hcells : ∀ j, j < P.cellsOf e → w.cell? ((a.add (i * P.cellsOf e)).add j) = some (cs'.getD j undef) := fun j hj => by
            rw [hcell j hj, List.getD_eq_getElem?_getD, List.getElem?_eq_getElem (by omega)]; rfl
          by_cases hst : ∃ fs, P.underlying e = some (.struct fs)
          · obtain ⟨fs, hfs⟩ := hst
            have hsh : shOf P e = some (P.cellsOf e) := by simp only [shOf, hfs]; rfl
            refine ⟨.agg vs, fun j => cs'.getD j undef, _, hsome, by rw [hsh]; exact hvl, k1, ?_, fun j hj => ?_⟩
            · -- one more for the struct itself
              simpa [bulkV, isStr, hfs] using k5
            · rw [hsh] at hj
              exact ⟨hcells j hj, (k3.2 j (by rw [k2]; exact hj)).1, (k3.2 j (by rw [k2]; exact hj)).2⟩
          · have hsh : shOf P e = none := by
              rcases hke with h | ⟨k, h⟩ | h | ⟨e', h, _⟩ | ⟨fs, h, _⟩ <;> first | (simp only [shOf, h]; done) | exact absurd ⟨_, h⟩ hst
            have h1 : P.cellsOf e = 1 := by
              have := rowFine_of hl hte
              rcases hke with h | ⟨k, h⟩ | h | ⟨e', h, _⟩ | ⟨fs, h, _⟩
              · simp [rowFine, isVar, hte, h, kindOk] at this; exact this
              · simp [rowFine, isVar, hte, h, kindOk] at this; exact this
              · simp [rowFine, isVar, hte, h, kindOk] at this; exact this
              · simp [rowFine, isVar, hte, h, kindOk] at this; exact this.2
              · exact absurd ⟨_, h⟩ hst
            rw [h1] at hvl
            obtain ⟨v, rfl⟩ : ∃ v, vs = [v] := List.length_eq_one_iff.1 hvl
            have hna := k4 v (by simp)
            have hcv := notAgg_cells hna
            refine ⟨v, fun j => cs'.getD j undef, _, hsome, ?_, by rw [hcv]; exact k1, (by simp only [bulkL] at k5; omega), fun j hj => ?_⟩
            · rw [hsh]
              cases v <;> first | trivial | exact absurd rfl (hna _)
            · rw [hsh] at hj
              have : j = 0 := by simpa [Sh.sz] using hj
              subst this
              refine ⟨hcells 0 (by omega), (k3.2 0 (by omega)).1, ?_⟩
              have := (k3.2 0 (by omega)).2
              unfold cellAt
              rw [hcv]; exact this
        refine ⟨[.vec .plain (shOf P e) ((List.range len).map fun i => if hi : i < len then (each i hi).choose else .undef)], ?_, (hone _ hu (by simp) (by simp)).symm, cellsRep_one rfl ?_, by simp, ?_⟩
        · simp only [WT, hu]
          refine ⟨_, rfl, by simp; omega, fun v hv => ?_⟩
          obtain ⟨i, hi, rfl⟩ := List.mem_map.1 hv
          have hi := List.mem_range.1 hi
          rw [dif_pos hi]
          obtain ⟨f, y, _, h2, h3, _⟩ := (each i hi).choose_spec
          exact ⟨h2, h3⟩
        · have hget : ∀ i, i < len → ((List.range len).map fun i => if hi : i < len then (each i hi).choose else V.undef).getD i .undef = if hi : i < len then (each i hi).choose else V.undef := fun i hi => by
            simp [List.getD_eq_getElem?_getD, hi]
          by_cases h0 : len = 0
          · subst h0
            exact .vecE _ _ _ _ (by simp) (by simp)
          · have hsz : 0 < (shOf P e).sz := by
              obtain ⟨hte, hke⟩ := known_spec hS heS
              rcases hke with h | ⟨k, h⟩ | h | ⟨e', h, _⟩ | ⟨fs, h, _⟩ <;> simp only [shOf, h, Sh.sz] <;> first | exact Nat.one_pos | exact hpos
            have hspot : a.spot = none := by
              obtain ⟨f, y, _, _, _, _, h5⟩ := (each 0 (by omega)).choose_spec
              have := (h5 0 hsz).1
              simp only [Nat.zero_mul, Addr.add, if_true] at this
              unfold World.cell? at this
              split at this
              · split at this
                · cases this
                · rename_i hs; simpa using hs
              · cases this
            have hsze : (shOf P e).sz = P.cellsOf e := by
              obtain ⟨hte, hke⟩ := known_spec hS heS
              have hr := rowFine_of hl hte
              rcases hke with h | ⟨k, h⟩ | h | ⟨e', h, _⟩ | ⟨fs, h, _⟩
              · simp [rowFine, isVar, hte, h, kindOk] at hr; simp only [shOf, h, Sh.sz]; exact hr.symm
              · simp [rowFine, isVar, hte, h, kindOk] at hr; simp only [shOf, h, Sh.sz]; exact hr.symm
              · simp [rowFine, isVar, hte, h, kindOk] at hr; simp only [shOf, h, Sh.sz]; exact hr.symm
              · simp [rowFine, isVar, hte, h, kindOk] at hr; simp only [shOf, h, Sh.sz]; exact hr.2.symm
              · simp only [shOf, h, Sh.sz]; rfl
            have hadd : ∀ i j, (a.add (i * P.cellsOf e)).add j = ⟨a.block, a.off + (i * (shOf P e).sz + j), none⟩ := fun i j => by
              obtain ⟨b, o, s⟩ := a
              simp only at hspot
              subst hspot
              rw [add_plain', add_plain', hsze, Nat.add_assoc]
            have hlen2 : ((List.range len).map fun i => if hi : i < len then (each i hi).choose else V.undef).length = len := by simp
            have hlift : Value.slice (some a) len cap = Value.slice (some a) ((List.range len).map fun i => if hi : i < len then (each i hi).choose else V.undef).length cap := by rw [hlen2]
            rw [hlift]
            refine .vec .plain _ _ a cap (fun i j => if hi : i < len then (each i hi).choose_spec.choose j else undef) (by simp) (by simp) (by rw [hlen2]; exact hle) hspot (fun i j hi hj => ?_) (fun i hi => ?_) fun i j hi hj => ?_
            · rw [hlen2] at hi
              obtain ⟨y, _, _, _, _, h5⟩ := (each i hi).choose_spec.choose_spec
              obtain ⟨h6, h7, h8⟩ := h5 j hj
              rw [hadd] at h6
              simp only [dif_pos hi]
              refine ⟨h6, ?_, h7⟩
              show a.block < w.heap.size
              unfold World.cell? at h6
              simp only at h6
              cases hh : w.heap[a.block]? with
              | none => rw [hh] at h6; cases h6
              | some o => exact (Array.getElem?_eq_some_iff.1 hh).1
            · rw [hlen2] at hi
              rw [hget i hi, dif_pos hi]
              obtain ⟨f, y, _, h2, _⟩ := (each i hi).choose_spec
              exact h2
            · rw [hlen2] at hi
              rw [hget i hi, dif_pos hi]
              obtain ⟨y, _, _, _, _, h5⟩ := (each i hi).choose_spec.choose_spec
              simp only [dif_pos hi]
              exact (h5 j hj).2.2
        · have hsum : ∀ k, k ≤ len → bulkL ((List.range k).map fun i => if hi : i < len then (each i hi).choose else V.undef) ≤ bulkDs ((elems.take k).map (·.1)) := by
            intro k
            induction k with
            | zero => intro _; simp [bulkL]
            | succ k ihk =>
              intro hk
              have hi : k < len := by omega
              obtain ⟨f, y, h1, _, _, h4, _⟩ := (each k hi).choose_spec
              have hlt : k < elems.length := by omega
              have ey : elems[k] = y := by
                have := List.getElem?_eq_getElem hlt
                rw [h1] at this; exact (Option.some.inj this).symm
              rw [List.range_succ, List.map_append, bulkL_append, List.take_succ_eq_append_getElem hlt, List.map_append, bulkDs_append]
              have := ihk (by omega)
              simp only [List.map_cons, List.map_nil, bulkL, bulkDs, dif_pos hi, ey]
              omega
          have := hsum len (Nat.le_refl _)
          rw [List.take_of_length_le (by omega)] at this
          simp only [bulkL, bulkV, bulkD, isStr, hu]
          omega
    · obtain ⟨xs, m, hm, rfl, hcl, hxl, hel⟩ := DataW.trod_struct hu h
      have hm' : n = m := by omega
      subst hm'
      obtain ⟨h1, h2, h3⟩ := kid_struct hl ht hu
      obtain ⟨vs, k1, k2, k3, k4⟩ := fields_rep ih cs fs.toList 0 xs (fun j f hf => by rw [h3 j f hf]; omega) hfs (by simpa using hxl) (fun i f hf => hel i f (by rw [← hf, Array.getElem?_toList])) (by rw [hcl, h2]; omega)
      rw [List.drop_zero] at k2
      refine ⟨vs, ?_, hcl, k2, k3, ?_⟩
      · simp only [WT, hu]
        exact ⟨by rw [k2.1, hcl], fun f hf => by simpa using k1 f hf⟩
      · simp only [bulkD, isStr, hu]; omega
end
end Go.AM

/-! A law's row, out of what the abstract machine tells. -/
namespace Go.AM
open Go Go.RowKit Go.ChangeShapes Go.WideShapes

/-- Arguments of types. -/
def WArgs (P : Program) : List TypeId → List V → Prop
  | [], [] => True
  | t :: ts, v :: vs => (∃ n, WT P n t (AM.cellsOf v)) ∧ Shaped (shOf P t) v ∧ WArgs P ts vs
  | _, _ => False

section
variable {H : Type} {enc : TypeId × Value → H} {P : Program} {w : World} {sp : Nat → Bool} {held : Bool} {cfg : Cfg} {ext : Ext}

theorem arg_rep (hl : laidOutB P = true) {S : List TypeId} (hS : knownB P S = true) {t : TypeId} (ht : t ∈ S) {v : Value} {d : DataW H} {ps : List MemPlace} {b0 : Nat} (hv : Value.okWide P w .any b0 t v) (h : DataW.Trod enc P w 0 sp held t v d ps) :
    ∃ u, (∃ n, WT P n t (AM.cellsOf u)) ∧ Shaped (shOf P t) u ∧ VRep w (prW w) [] u v ∧ bulkV u ≤ bulkD d := by
  obtain ⟨n, hn⟩ := h
  obtain ⟨vs, k1, k2, k3, k4, k5⟩ := trod_rep hl hS n t _ _ hn ht
  obtain ⟨hts, hk⟩ := known_spec hS ht
  have scalar : (∀ cs, v ≠ .agg cs) → shOf P t = none → ∃ u, (∃ n, WT P n t (AM.cellsOf u)) ∧ Shaped (shOf P t) u ∧ VRep w (prW w) [] u v ∧ bulkV u ≤ bulkD d := by
    intro hna hsh
    have hc : v.cells.toList = [v] := by cases v <;> first | rfl | exact absurd rfl (hna _)
    rw [hc] at k2 k3
    have hvl : vs.length = 1 := k3.1
    obtain ⟨u, rfl⟩ : ∃ v, vs = [v] := List.length_eq_one_iff.1 hvl
    have hna' := k4 u (by simp)
    refine ⟨u, ⟨n, by rw [notAgg_cells hna']; exact k1⟩, ?_, ?_, ?_⟩
    · rw [hsh]
      cases u <;> first | trivial | exact absurd rfl (hna' _)
    · exact (k3.2 0 (by simp)).2
    · simp only [bulkL] at k5; omega
  rcases hk with hu | ⟨k, hu⟩ | hu | ⟨e, hu, _⟩ | ⟨fs, hu, _⟩
  · obtain ⟨b, rfl⟩ := okWide_bool hu hv
    exact scalar (by simp) (by simp only [shOf, hu])
  · obtain ⟨z, rfl⟩ := okWide_int hu hv
    exact scalar (by simp) (by simp only [shOf, hu])
  · obtain ⟨s, rfl⟩ := okWide_string hu hv
    exact scalar (by simp) (by simp only [shOf, hu])
  · obtain ⟨a, l, c, rfl⟩ := okWide_slice hu hv
    exact scalar (by simp) (by simp only [shOf, hu])
  · obtain ⟨cs, rfl, hsz⟩ := okWide_struct hu hv
    have hsh : shOf P t = some (P.cellsOf t) := by simp only [shOf, hu]; rfl
    have hcs : (Value.agg cs).cells.toList = cs.toList := rfl
    rw [hcs] at k2 k3
    refine ⟨.agg vs, ⟨n, k1⟩, by rw [hsh]; show vs.length = _; rw [k3.1, k2], .agg vs cs (by rw [k3.1]; simp) (fun i hi => ?_) (fun i hi => ?_), ?_⟩
    · have := (k3.2 i (by rw [← k3.1]; exact hi)).1
      simpa [Array.getD_eq_getD_getElem?, List.getD_eq_getElem?_getD] using this
    · have := (k3.2 i (by rw [← k3.1]; exact hi)).2
      simpa [Array.getD_eq_getD_getElem?, List.getD_eq_getElem?_getD] using this
    · simpa [bulkV, isStr, hu] using k5

theorem args_rep' (hl : laidOutB P = true) {S : List TypeId} (hS : knownB P S = true) {b0 : Nat} : ∀ (ts : List TypeId) (as_ : List Value) (ds : List (DataW H)) (ps : List MemPlace), (∀ t ∈ ts, t ∈ S) → (∀ (j : Nat) t v, ts[j]? = some t → as_[j]? = some v → Value.okWide P w .any b0 t v) →
    DataW.TrodAll enc P w 0 sp held ts as_ ds ps → ∃ us, WArgs P ts us ∧ us.length = as_.length ∧ (∀ i, i < us.length → VRep w (prW w) [] (us.getD i .undef) (as_.getD i undef)) ∧ bulkL us ≤ bulkDs ds
  | [], as_, ds, ps, _, _, h => by
    obtain ⟨rfl, rfl, rfl⟩ := trodAll_nil h
    exact ⟨[], trivial, rfl, fun i hi => by simp at hi, by simp [bulkL]⟩
  | t :: ts, as_, ds, ps, hS', hv, h => by
    obtain ⟨v, vs, d, ds', p, q, rfl, rfl, rfl, h1, h2⟩ := trodAll_cons h
    obtain ⟨u, k1, k2, k3, k4⟩ := arg_rep hl hS (hS' t (by simp)) (hv 0 t v rfl rfl) h1
    obtain ⟨us, j1, j2, j3, j4⟩ := args_rep' hl hS ts vs ds' q (fun t h => hS' t (by simp [h])) (fun j t v h1 h2 => hv (j + 1) t v (by simpa using h1) (by simpa using h2)) h2
    refine ⟨u :: us, ⟨k1, k2, j1⟩, by simp [j2], fun i hi => ?_, by simp only [bulkL, bulkDs]; omega⟩
    cases i with
    | zero => simpa using k3
    | succ i => simpa using j3 i (by simpa using hi)

/-- What a call owns at its start: nothing; what there is stays. -/
def own0 (w : World) : Own := fun b _ => if b < w.heap.size then .pr else .free

theorem own0_pr {b i : Nat} : own0 w b i = .pr ↔ b < w.heap.size := by
  unfold own0; split <;> simp_all

theorem sto0 (P : Program) (cfg : Cfg) (w : World) : Sto P cfg w.heap.size w (own0 w) [] [] :=
  ⟨rfl, (fun r x b h => by simp at h), (fun b i h => by unfold own0 at h; split at h <;> simp_all), (fun b i h1 h2 => by unfold own0 at h1 h2; split at h1 <;> simp_all), Nat.le_refl _⟩

theorem flat0 (w : World) : Flat (own0 w) := fun b i => by
  unfold own0
  split
  · exact .inr (.inl rfl)
  · exact .inl rfl

/-- The law's call. -/
theorem law_calls (hm : P.follows .mixedOrders = true) (hP : PlainNames P) (hE : ExtOK P cfg ext) (hl : laidOutB P = true) {S : List TypeId} (hS : knownB P S = true) {f : FuncId} {ts : List TypeId} (hts : ∀ t ∈ ts, t ∈ S) {B : Nat}
    (hpure : ∀ us, WArgs P ts us → bulkL us ≤ B → ∃ m st, (fuelO P cfg ext m).call f us [] = some (.ret (.bool true), st)) {args : Array Value} {ds : List (DataW H)} {ps : List MemPlace} {b0 : Nat}
    (hv : ∀ (j : Nat) t v, ts[j]? = some t → args[j]? = some v → Value.okWide P w .any b0 t v) (h : DataW.TrodAll enc P w 0 sp held ts args.toList ds ps) (hb : bulkDs ds ≤ B) :
    Calls P f args w fun e w' => e = .returned (.bool true) ∧ Below w.heap.size w w' := by
  obtain ⟨us, k1, k2, k3, k4⟩ := args_rep' hl hS ts args.toList ds ps hts (fun j t v h1 h2 => hv j t v h1 (by simpa using h2)) h
  obtain ⟨m, st, hc⟩ := hpure us k1 (Nat.le_trans k4 hb)
  obtain ⟨_, hcalls⟩ := call_sound hm hP hE m f us [] _ hc
  have hA : Args w (own0 w) [] us args := by
    refine ⟨by simpa using k2, fun i hi => ?_⟩
    have := (k3 i hi).mono (w' := w) (pr' := prOf (own0 w)) (μ' := []) (fun b i e => ⟨own0_pr.2 e, rfl⟩) fun _ _ h => h
    simpa [Array.getD_eq_getD_getElem?, List.getD_eq_getElem?_getD] using this
  refine ((hcalls 0 w.heap.size w (own0 w) [] args (sto0 P cfg w) (flat0 w) hA).calls room_wide).mono fun e w' hpost => ?_
  obtain ⟨c, own', μ', _, h2, h3⟩ := hpost
  obtain ⟨rfl, hV⟩ := h3
  exact ⟨by rw [hV.bool_inv], h2.below⟩

theorem trodAll_below (hl : laidOutB P = true) {w' : World} (hb : Below w.heap.size w w') : ∀ (ts : List TypeId) (as_ : List Value) (ds : List (DataW H)) (ps : List MemPlace), (ts.all fun t => P.readableRec t && decide (t < P.types.size)) = true →
    DataW.TrodAll enc P w 0 (fun _ => true) true ts as_ ds ps → DataW.TrodAll enc P w' 0 (fun b => decide (b < w.heap.size)) true ts as_ ds ps
  | [], as_, ds, ps, _, h => by
    obtain ⟨rfl, rfl, rfl⟩ := trodAll_nil h
    exact trodAll_mk0
  | t :: ts, as_, ds, ps, hr, h => by
    obtain ⟨v, vs, d, ds', p, q, rfl, rfl, rfl, h1, h2⟩ := trodAll_cons h
    simp only [List.all_cons, Bool.and_eq_true, decide_eq_true_eq] at hr
    have lt : ∀ x ∈ p, x.block < w.heap.size := by obtain ⟨m, hm⟩ := h1; exact DataW.trod_lt m _ _ _ hm
    exact trodAll_cons_mk (Below.trod hl hr.1.1 hr.1.2 h1 hb lt) (trodAll_below hl hb ts vs ds' q (by simpa using hr.2) h2)

/-- **A law's contract.** -/
theorem law_contract (hm : P.follows .mixedOrders = true) (hP : PlainNames P) (hE : ExtOK P cfg ext) (hl : laidOutB P = true) {S : List TypeId} (hS : knownB P S = true) {f : FuncId} {fn : Func} {ts : List TypeId} (hpar : fn.params.toList = ts) (hts : ∀ t ∈ ts, t ∈ S)
    (hrd : (ts.all fun t => P.readableRec t && decide (t < P.types.size)) = true) {rt : TypeId} (hrt : fn.resultTypes = #[rt]) (hbool : P.underlying rt = some .bool) {B : Nat}
    (hpure : ∀ us, WArgs P ts us → bulkL us ≤ B → ∃ m st, (fuelO P cfg ext m).call f us [] = some (.ret (.bool true), st)) {s : ChangeSpec} (hvars : s.vars = []) {args : Array Value} {ds gs : List (DataW H)} {before : List MemPlace} {b0 : Nat}
    (hs : ds.length = ts.length → s.fn H ds = { results := [.lit (.bool true)], args := ds })
    (hv : ∀ (j : Nat) t v, fn.params[j]? = some t → args[j]? = some v → Value.okWide P w .any b0 t v) (hW : DataW.Whole enc P fn.params.toList s.vars false w args.toList ds gs before) (hb : bulkDs (ds ++ gs) ≤ B) :
    Calls P f args w fun e w' => ∃ v, e = .returned v ∧ s.post enc P fn false true false false w args v w' := by
  have hW' := hW
  obtain ⟨p, q, hA, hV, rfl, hfz, hnd⟩ := hW
  rw [hvars] at hV
  obtain ⟨rfl, rfl⟩ := trodVars_none hV
  rw [hpar] at hA
  rw [List.append_nil] at hb
  have hlen : ds.length = ts.length := by
    have : ∀ (ts : List TypeId) (as_ : List Value) (ds : List (DataW H)) (ps : List MemPlace), DataW.TrodAll enc P w 0 (fun _ => true) true ts as_ ds ps → ds.length = ts.length := by
      intro ts
      induction ts with
      | nil => intro as_ ds ps h; obtain ⟨_, rfl, _⟩ := trodAll_nil h; rfl
      | cons t ts ih => intro as_ ds ps h; obtain ⟨v, vs, d, ds', p, q, rfl, rfl, rfl, h1, h2⟩ := trodAll_cons h; simp [ih _ _ _ h2]
    exact this _ _ _ _ hA
  refine (law_calls hm hP hE hl hS hts hpure (fun j t v h1 h2 => hv j t v (by rw [← hpar, Array.getElem?_toList] at h1; exact h1) h2) hA hb).mono fun e w' ⟨he, bel⟩ => ?_
  subst he
  have hsf : s.fn H (ds ++ []) = { results := [.lit (.bool true)], args := ds } := by rw [List.append_nil]; exact hs hlen
  refine ⟨_, rfl, ds, [], _, [], p, [], hW', ?_, ?_, ?_, bel.frame _, fun h => by cases h⟩
  · rw [hsf, hrt]
    exact trodAll_mk1 (shut_bool hbool _)
  · rw [hsf, hpar]
    exact trodAll_below hl bel _ _ _ _ hrd hA
  · rw [hsf, hvars]
    rfl
end
end Go.AM

/-! Terms, and the loops over their Args. -/
namespace Go.AM
open Go

inductive T where
  | mk (k h : Int) (as_ : List T)
def T.k : T → Int | .mk k _ _ => k
def T.h : T → Int | .mk _ h _ => h
def T.args : T → List T | .mk _ _ l => l

theorem T.ind {p : T → Prop} (h : ∀ k hd as_, (∀ a ∈ as_, p a) → p (.mk k hd as_)) : ∀ t, p t
  | .mk k hd as_ => h k hd as_ (all as_)
where all : ∀ as_ : List T, ∀ a ∈ as_, p a
  | b :: bs, a, ha => by
    rcases List.mem_cons.1 ha with e | e
    · rw [e]; exact T.ind h b
    · exact all bs a e

mutual
def enc : T → V
  | .mk k h as_ => .agg [.int k, .int h, .vec .plain (some 3) (encs as_)]
def encs : List T → List V
  | [] => []
  | t :: ts => enc t :: encs ts
end
@[simp] theorem encs_nil : encs [] = [] := rfl
@[simp] theorem encs_cons (t : T) (ts : List T) : encs (t :: ts) = enc t :: encs ts := rfl
theorem encs_map : ∀ ts, encs ts = ts.map enc
  | [] => rfl
  | t :: ts => by rw [encs_cons, encs_map ts]; rfl
@[simp] theorem encs_length (ts : List T) : (encs ts).length = ts.length := by rw [encs_map]; simp
@[simp] theorem encs_append (a b : List T) : encs (a ++ b) = encs a ++ encs b := by simp [encs_map]
theorem enc_eta (t : T) : enc t = .agg [.int t.k, .int t.h, .vec .plain (some 3) (encs t.args)] := by cases t; rfl

/-- 64 bits. -/
def I64 (n : Int) : Prop := -9223372036854775808 ≤ n ∧ n ≤ 9223372036854775807
theorem wrap_id {n : Int} (h : I64 n) : IntKind.i64.wrap n = n := by
  obtain ⟨h1, h2⟩ := h
  show (if (true && decide (n % 2 ^ 64 ≥ 2 ^ 63)) = true then n % 2 ^ 64 - 2 ^ 64 else n % 2 ^ 64) = n
  by_cases hc : n % 2 ^ 64 ≥ 2 ^ 63
  · rw [if_pos (by simpa using hc)]; omega
  · rw [if_neg (by simpa using hc)]; omega

theorem getI_encs {ts : List T} {i : Nat} (h : i < ts.length) : getI (encs ts) (i : Int) = enc ts[i] := by
  simp [getI, encs_map, List.getD_eq_getElem?_getD, h]

mutual
def T.size : T → Nat
  | .mk _ _ as_ => 1 + sizes as_
def sizes : List T → Nat
  | [] => 0
  | t :: ts => t.size + sizes ts
end
mutual
def T.depth : T → Nat
  | .mk _ _ as_ => depths as_ + 1
def depths : List T → Nat
  | [] => 0
  | t :: ts => max t.depth (depths ts)
end
theorem size_pos (t : T) : 1 ≤ t.size := by cases t; simp only [T.size]; omega
theorem sizes_append (a b : List T) : sizes (a ++ b) = sizes a + sizes b := by
  induction a with
  | nil => simp [sizes]
  | cons x a ih => simp only [List.cons_append, sizes, ih]; omega
theorem size_le {ts : List T} {t : T} (h : t ∈ ts) : t.size ≤ sizes ts := by
  induction ts with
  | nil => cases h
  | cons x ts ih =>
    simp only [sizes]
    rcases List.mem_cons.1 h with rfl | h
    · omega
    · have := ih h; omega
theorem length_le_sizes : ∀ ts : List T, ts.length ≤ sizes ts
  | [] => by simp
  | t :: ts => by simp only [List.length_cons, sizes]; have := size_pos t; have := length_le_sizes ts; omega
theorem depth_le_size : ∀ t : T, t.depth ≤ t.size := by
  intro t
  induction t using T.ind with
  | _ k h as_ ih =>
    simp only [T.depth, T.size]
    have : ∀ as_ : List T, (∀ a ∈ as_, a.depth ≤ a.size) → depths as_ ≤ sizes as_ := by
      intro as_
      induction as_ with
      | nil => intro _; simp [depths]
      | cons x xs ih =>
        intro h
        have h1 := h x (by simp)
        have h2 := ih fun a ha => h a (by simp [ha])
        simp only [depths, sizes]; omega
    have := this as_ ih
    omega
mutual
theorem bulk_enc : ∀ t : T, 4 * t.size ≤ bulkV (enc t)
  | .mk k h as_ => by simp only [T.size, enc, bulkV, bulkL]; have := bulk_encs as_; omega
theorem bulk_encs : ∀ ts : List T, 4 * sizes ts ≤ bulkL (encs ts)
  | [] => by simp [sizes]
  | t :: ts => by simp only [sizes, encs_cons, bulkL]; have := bulk_enc t; have := bulk_encs ts; omega
end

mutual
theorem below_enc (n : Nat) : ∀ t : T, below n (enc t) = true
  | .mk k h as_ => by simp only [enc, below, belowL, Bool.and_true, Bool.true_and]; exact below_encs n as_
theorem below_encs (n : Nat) : ∀ ts : List T, belowL n (encs ts) = true
  | [] => rfl
  | t :: ts => by simp only [encs_cons, belowL, below_enc n t, below_encs n ts, Bool.and_true]
end
attribute [simp] below_enc below_encs

/-- Heads and kinds of 64 bits. -/
inductive OkT : T → Prop where
  | mk {k h : Int} {as_ : List T} (h1 : I64 k) (h2 : I64 h) (h3 : ∀ a ∈ as_, OkT a) : OkT (.mk k h as_)

/-! ### calls -/
theorem pcall_of {O : Oracle} {f : Nat} {args : List V} {v : V} {st : St} (h : O.call f args [] = some (.ret v, st)) (h1 : belowL 0 args = true) (h2 : below 0 v = true) : pcall O f args = some v := by
  unfold pcall
  rw [h1, h]
  show gd (below 0 v) (some v) = some v
  rw [h2]; rfl

/-- A loop that asks of each. -/
theorem all_loop {α : Type} {L : Int → Option α} {xs : List T} {g : T → Bool} {e0 e1 : α} (hstep : ∀ (i : Nat) (h : i < xs.length), L i = if g xs[i] = true then L ((i + 1 : Nat) : Int) else some e1) (hend : L (xs.length : Nat) = some e0) :
    ∀ i : Nat, i ≤ xs.length → L i = some (if (xs.drop i).all g = true then e0 else e1) := by
  intro i hi
  induction hn : xs.length - i generalizing i with
  | zero =>
    have : i = xs.length := by omega
    subst this
    rw [hend, List.drop_length]; rfl
  | succ n ih =>
    have hlt : i < xs.length := by omega
    rw [hstep i hlt, List.drop_eq_getElem_cons hlt, List.all_cons]
    cases hg : g xs[i] with
    | true =>
      rw [if_pos rfl, ih (i + 1) (by omega) (by omega)]
      simp
    | false => simp

/-- A loop that gathers. -/
theorem fold_loop {α β : Type} {L : Int → β → Option α} {xs : List T} {g : β → T → β} {e : β → α} {p : β → Prop} (hstep : ∀ (i : Nat) (h : i < xs.length) (b : β), p b → L i b = L ((i + 1 : Nat) : Int) (g b xs[i]) ∧ p (g b xs[i])) (hend : ∀ b, p b → L (xs.length : Nat) b = some (e b)) :
    ∀ (i : Nat) (b : β), i ≤ xs.length → p b → L i b = some (e ((xs.drop i).foldl g b)) := by
  intro i b hi hb
  induction hn : xs.length - i generalizing i b with
  | zero =>
    have : i = xs.length := by omega
    subst this
    rw [hend b hb, List.drop_length]; rfl
  | succ n ih =>
    have hlt : i < xs.length := by omega
    obtain ⟨h1, h2⟩ := hstep i hlt b hb
    rw [h1, List.drop_eq_getElem_cons hlt, List.foldl_cons, ih (i + 1) _ (by omega) h2 (by omega)]

/-- A loop that counts. -/
theorem count_loop {α : Type} {L : Nat → Option α} {n : Nat} {r : Option α} (hstep : ∀ i, i < n → L i = L (i + 1)) (hend : L n = r) : L 0 = r := by
  have : ∀ d i, i + d = n → L i = r := by
    intro d
    induction d with
    | zero => intro i h; have : i = n := by omega
              rw [this]; exact hend
    | succ d ih => intro i h; rw [hstep i (by omega)]; exact ih (i + 1) (by omega)
  exact this n 0 (by omega)

theorem take_succ' {α : Type} {l : List α} {i : Nat} (h : i < l.length) : l.take (i + 1) = l.take i ++ [l[i]] := List.take_succ_eq_append_getElem h
theorem sizes_take {l : List T} {i : Nat} (h : i < l.length) : sizes (l.take (i + 1)) = sizes (l.take i) + l[i].size := by
  rw [take_succ' h, sizes_append]; simp [sizes]
theorem depths_append (a b : List T) : depths (a ++ b) = max (depths a) (depths b) := by
  induction a with
  | nil => simp [depths]
  | cons x a ih => simp only [List.cons_append, depths, ih]; omega
theorem depths_take {l : List T} {i : Nat} (h : i < l.length) : depths (l.take (i + 1)) = max (depths (l.take i)) l[i].depth := by
  rw [take_succ' h, depths_append]; simp [depths]
theorem sizes_take_le (l : List T) (i : Nat) : sizes (l.take i) ≤ sizes l := by
  conv => rhs; rw [← List.take_append_drop i l, sizes_append]
  omega
theorem depths_le_sizes (l : List T) : depths l ≤ sizes l := by
  induction l with
  | nil => simp [depths]
  | cons x l ih => simp only [depths, sizes]; have := depth_le_size x; omega

/-! ### the same -/
mutual
def T.same : T → T → Bool
  | .mk k h l, .mk k' h' l' => decide (k = k') && (decide (h = h') && sames l l')
def sames : List T → List T → Bool
  | [], [] => true
  | a :: l, b :: l' => a.same b && sames l l'
  | _, _ => false
end
mutual
theorem same_iff : ∀ a b : T, a.same b = true ↔ a = b
  | .mk k h l, .mk k' h' l' => by simp only [T.same, Bool.and_eq_true, decide_eq_true_eq, sames_iff l l', T.mk.injEq]
theorem sames_iff : ∀ l l' : List T, sames l l' = true ↔ l = l'
  | [], [] => by simp [sames]
  | [], _ :: _ => by simp [sames]
  | _ :: _, [] => by simp [sames]
  | a :: l, b :: l' => by simp only [sames, Bool.and_eq_true, same_iff a b, sames_iff l l', List.cons.injEq]
end
@[simp] theorem same_self (a : T) : a.same a = true := (same_iff a a).2 rfl
@[simp] theorem sames_self (l : List T) : sames l l = true := (sames_iff l l).2 rfl
theorem sames_zip : ∀ {l l' : List T}, l.length = l'.length → sames l l' = (l.zip l').all fun x => x.1.same x.2
  | [], [], _ => rfl
  | a :: l, b :: l', h => by simp only [sames, List.zip_cons_cons, List.all_cons, sames_zip (Nat.succ.inj h)]
  | [], _ :: _, h => by cases h
  | _ :: _, [], h => by cases h
theorem sames_len : ∀ {l l' : List T}, l.length ≠ l'.length → sames l l' = false
  | [], [], h => absurd rfl h
  | a :: l, b :: l', h => by
    simp only [List.length_cons, ne_eq, Nat.add_right_cancel_iff] at h
    simp only [sames, sames_len h, Bool.and_false]
  | [], _ :: _, _ => rfl
  | _ :: _, [], _ => rfl

/-- A loop that asks of each place. -/
theorem all_loop' {α β : Type} {L : Int → Option α} {xs : List β} {g : β → Bool} {e0 e1 : α} (hstep : ∀ (i : Nat) (h : i < xs.length), L i = if g xs[i] = true then L ((i + 1 : Nat) : Int) else some e1) (hend : L (xs.length : Nat) = some e0) :
    L 0 = some (if xs.all g = true then e0 else e1) := by
  have : ∀ i : Nat, i ≤ xs.length → L i = some (if (xs.drop i).all g = true then e0 else e1) := by
    intro i hi
    induction hn : xs.length - i generalizing i with
    | zero =>
      have : i = xs.length := by omega
      subst this
      rw [hend, List.drop_length]; rfl
    | succ n ih =>
      have hlt : i < xs.length := by omega
      rw [hstep i hlt, List.drop_eq_getElem_cons hlt, List.all_cons]
      cases hg : g xs[i] with
      | true =>
        rw [if_pos rfl, ih (i + 1) (by omega) (by omega)]
        simp
      | false => simp
  have := this 0 (by omega)
  rwa [List.drop_zero] at this
theorem bne_int (a b : Int) : (a != b) = !decide (a = b) := by by_cases h : a = b <;> simp [h]
theorem bne_len0 (a : Nat) : ((a : Int) != 0) = !decide (a = 0) := by by_cases h : a = 0 <;> simp [h]
theorem bne_len1 (a : Nat) : ((a : Int) != 1) = !decide (a = 1) := by
  by_cases h : a = 1
  · simp [h]
  · have : (a : Int) ≠ 1 := by omega
    simp [h, this]
theorem bne_len2 (a : Nat) : ((a : Int) != 2) = !decide (a = 2) := by
  by_cases h : a = 2
  · simp [h]
  · have : (a : Int) ≠ 2 := by omega
    simp [h, this]
theorem beq_int (a b : Int) : (a == b) = decide (a = b) := by by_cases h : a = b <;> simp [h]
theorem beq_len0 (a : Nat) : ((a : Int) == 0) = decide (a = 0) := by by_cases h : a = 0 <;> simp [h]
theorem beq_len1 (a : Nat) : ((a : Int) == 1) = decide (a = 1) := by
  by_cases h : a = 1
  · simp [h]
  · have : (a : Int) ≠ 1 := by omega
    simp [h, this]
theorem beq_len2 (a : Nat) : ((a : Int) == 2) = decide (a = 2) := by
  by_cases h : a = 2
  · simp [h]
  · have : (a : Int) ≠ 2 := by omega
    simp [h, this]

section
variable {R : Type}
@[simp] theorem onCells_nil' (K : CellFn R []) : onCells (R := R) [] [] K = K := rfl
@[simp] theorem onCells_int' {cs : List CT} {n : Int} {vs : List V} {K : CellFn R (.int :: cs)} : onCells (R := R) (.int :: cs) (.int n :: vs) K = onCells cs vs (K n) := rfl
@[simp] theorem onCells_bool' {cs : List CT} {n : Bool} {vs : List V} {K : CellFn R (.bool :: cs)} : onCells (R := R) (.bool :: cs) (.bool n :: vs) K = onCells cs vs (K n) := rfl
theorem gcE_len {n : Nat} {v : V} {st : St} (h : st.length = n) : gcE n v st = some (.ret v, st) := by
  unfold gcE; rw [h, Nat.beq_refl]; rfl
@[simp] theorem gcE_one {x y : Res} {v : V} : gcE (List.length [x]) v [y] = some (.ret v, [y]) := rfl
@[simp] theorem gcE_one' {y : Res} {v : V} : gcE 1 v [y] = some (.ret v, [y]) := rfl
@[simp] theorem onCells_str' {cs : List CT} {n : ByteArray} {vs : List V} {K : CellFn R (.str :: cs)} : onCells (R := R) (.str :: cs) (.str n :: vs) K = onCells cs vs (K n) := rfl
@[simp] theorem onCells_slice' {sh : Sh} {cs : List CT} {es vs : List V} {K : CellFn R (.slice sh :: cs)} : onCells (R := R) (.slice sh :: cs) (.vec .plain sh es :: vs) K = onCells cs vs (K es) := by
  show (if sh = sh then onCells cs vs (K es) else none) = _
  rw [if_pos rfl]
@[simp] theorem onStruct_agg {cs : List CT} {vs : List V} {K : CellFn R cs} : onStruct (R := R) cs (.agg vs) K = onCells cs vs K := rfl
@[simp] theorem onVec_plain {sh : Sh} {es : List V} {K : List V → Option R} : onVec sh (.vec .plain sh es) K = K es := by show (if sh = sh then K es else none) = _; rw [if_pos rfl]
@[simp] theorem onLoc_loc {sh : Sh} {d : Bool} {v : V} {K : Bool → V → Option R} : onLoc sh (.loc d sh v) K = K d v := by show (if sh = sh then K d v else none) = _; rw [if_pos rfl]
@[simp] theorem onRoom_grow {sh : Sh} {es : List V} {K : List V → Option R} : onRoom sh (.vec .grow sh es) K = K es := by show (if sh = sh then K es else none) = _; rw [if_pos rfl]
@[simp] theorem obind_some' {α : Type} (x : α) (K : α → Option R) : obind (some x) K = K x := rfl
@[simp] theorem onStr_str (s : ByteArray) (K : ByteArray → Option R) : onStr (.str s) K = K s := rfl
@[simp] theorem onIk_ik (k : IntKind) (n : Int) (K : Int → Option R) : onIk k (.ik k n) K = K n := by show (if k = k then K n else none) = _; rw [if_pos rfl]
@[simp] theorem onAgg_agg (cs : List V) (K : List V → Option R) : onAgg (.agg cs) K = K cs := rfl
@[simp] theorem onEx_normal (n r : Option R) (x : Nat → Option R) (p : V → Option R) : onEx .normal n r x p = n := rfl
@[simp] theorem onRoom2_grow {sh : Sh} {es : List V} {K1 K2 : List V → Option R} : onRoom2 sh (.vec .grow sh es) K1 K2 = K1 es := by show (if sh = sh then K1 es else none) = _; rw [if_pos rfl]
@[simp] theorem onRoom2_full {sh : Sh} {es : List V} {K1 K2 : List V → Option R} : onRoom2 sh (.vec .full sh es) K1 K2 = K2 es := by show (if sh = sh then K2 es else none) = _; rw [if_pos rfl]
@[simp] theorem onBusy_busy {α : Type} (x : Option α) : onBusy .busy x = x := rfl
@[simp] theorem onMp_mp (q : Nat) (K : Nat → Option R) : onMp (.mp q) K = K q := rfl
@[simp] theorem onMap_map (a b : CT) (l : List (V × V)) (K : CT → CT → List (V × V) → Option R) : onMap (.map a b l) K = K a b l := rfl
@[simp] theorem onRef_ref (q : Nat) (K : Nat → Option R) : onRef (.ref q 0) K = K q := rfl
@[simp] theorem onRoom_full {sh : Sh} {es : List V} {K : List V → Option R} : onRoom sh (.vec .full sh es) K = K es := by show (if sh = sh then K es else none) = _; rw [if_pos rfl]
@[simp] theorem onRowV_row {sh : Sh} {q lo n : Nat} {K : Nat → Nat → Nat → Option R} : onRowV sh (.row sh q lo n) K = K q lo n := by show (if sh = sh then K q lo n else none) = _; rw [if_pos rfl]
@[simp] theorem onIter_iter (s : ByteArray) (p : Nat) (K : ByteArray → Nat → Option R) : onIter (.iter s p) K = K s p := rfl
@[simp] theorem onRow_row (sh : Sh) (es : List V) (K : Sh → List V → Option R) : onRow (.row sh es) K = K sh es := rfl
@[simp] theorem onInt_int (n : Int) (K : Int → Option R) : onInt (.int n) K = K n := rfl
@[simp] theorem onBool_bool (n : Bool) (K : Bool → Option R) : onBool (.bool n) K = K n := rfl
@[simp] theorem onTup_tup (vs : List V) (K : List V → Option R) : onTup (.tup vs) K = K vs := rfl
@[simp] theorem onCons_cons (v : V) (vs : List V) (K : V → List V → Option R) : onCons (v :: vs) K = K v vs := rfl
@[simp] theorem onNil_nil (x : Option R) : onNil [] x = x := rfl
@[simp] theorem onEx_exit (i : Nat) (n r : Option R) (x : Nat → Option R) (p : V → Option R) : onEx (.exit i) n r x p = x i := rfl
@[simp] theorem onEx_ret (n r : Option R) (x : Nat → Option R) (p : V → Option R) : onEx .ret n r x p = r := rfl
@[simp] theorem onRet_ret (v : V) (K Pk : V → Option R) : onRet (.ret v) K Pk = K v := rfl
@[simp] theorem onFn_fn (g : Nat) (a b : List V) (K : Nat → List V → List V → Option R) : onFn (.fn g a b) K = K g a b := rfl
@[simp] theorem onBox_box (cs : List V) (K : List V → Option R) : onBox (.box cs) K = K cs := rfl
@[simp] theorem onLoop_loop (f k : Nat) (vs : List V) (s : LSt) (p : Option Ex) (K : Nat → Nat → List V → LSt → Option Ex → Option R) : onLoop (.loop f k vs s p) K = K f k vs s p := rfl
@[simp] theorem onPend_ready (n r : Option R) (x : Nat → Option R) : onPend .ready none n r x = n := rfl
@[simp] theorem onPend_ret (n r : Option R) (x : Nat → Option R) : onPend .done (some .ret) n r x = r := rfl
@[simp] theorem gd_true (x : Option R) : gd true x = x := rfl
@[simp] theorem bc_true (x y : Option R) : bc true x y = x := rfl
@[simp] theorem bc_false (x y : Option R) : bc false x y = y := rfl
@[simp] theorem gd_and (a b : Bool) (x : Option R) : gd (a && b) x = gd a (gd b x) := by cases a <;> rfl
@[simp] theorem gd_dec {p : Prop} [Decidable p] (h : p) (x : Option R) : gd (decide p) x = x := by rw [decide_eq_true h]; rfl
@[simp] theorem bc_dec_t {p : Prop} [Decidable p] (h : p) (x y : Option R) : bc (decide p) x y = x := by rw [decide_eq_true h]; rfl
@[simp] theorem bc_dec_f {p : Prop} [Decidable p] (h : ¬ p) (x y : Option R) : bc (decide p) x y = y := by rw [decide_eq_false h]; rfl
@[simp] theorem bc_beq_t {a b : Int} (h : a = b) (x y : Option R) : bc (a == b) x y = x := by rw [beq_iff_eq.2 h]; rfl
@[simp] theorem bc_beq_f {a b : Int} (h : ¬ a = b) (x y : Option R) : bc (a == b) x y = y := by rw [beq_eq_false_iff_ne.2 h]; rfl
@[simp] theorem bc_bne_t {a b : Int} (h : ¬ a = b) (x y : Option R) : bc (a != b) x y = x := by simp [bne, beq_eq_false_iff_ne.2 h]
@[simp] theorem bc_bne_f {a b : Int} (h : a = b) (x y : Option R) : bc (a != b) x y = y := by simp [bne, beq_iff_eq.2 h]
@[simp] theorem bc_not (b : Bool) (x y : Option R) : bc (!b) x y = bc b y x := by cases b <;> rfl
theorem bc_nat (i j : Nat) (x y : Option R) (h : i = j) : bc (i.beq j) x y = x := by subst h; simp
@[simp] theorem wrap_i {n : Int} (h1 : -9223372036854775808 ≤ n) (h2 : n ≤ 9223372036854775807) : IntKind.i64.wrap n = n := wrap_id ⟨h1, h2⟩
theorem getR_some {st : St} {q : Nat} {x : Res} (h : st[q]? = some x) (K : Res → Option R) : getR st q K = K x := by unfold getR; rw [h]
end
end Go.AM
