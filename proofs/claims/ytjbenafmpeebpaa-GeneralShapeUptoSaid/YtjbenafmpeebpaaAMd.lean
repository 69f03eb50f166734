import Derived.Test.YtjbenafmpeebpaaAMc
import Derived.OpenShut
import Derived.Carry
import Derived.JoinedCond
/- The abstract machine with all fuel; a law's row out of what it tells; terms. -/
set_option linter.unusedVariables false
set_option linter.unusedSimpArgs false
set_option linter.unusedSectionVars false
/-! The limit of all fuel: an oracle that keeps its own word. -/
namespace Go.AM
open Go

section
variable {P : Program} {cfg : Cfg} {fid : Nat} {R : Type} {r : R} {α : Type}

/-- From some number on. -/
def Evt (p : Nat → Prop) : Prop := ∃ n, ∀ m, n ≤ m → p m
theorem Evt.of {p : Nat → Prop} (h : ∀ m, p m) : Evt p := ⟨0, fun m _ => h m⟩
theorem Evt.mono {p q : Nat → Prop} (h : Evt p) (f : ∀ m, p m → q m) : Evt q := let ⟨n, h⟩ := h; ⟨n, fun m hm => f m (h m hm)⟩
theorem Evt.and {p q : Nat → Prop} (h : Evt p) (k : Evt q) : Evt fun m => p m ∧ q m := by
  obtain ⟨a, h⟩ := h
  obtain ⟨b, k⟩ := k
  exact ⟨max a b, fun m hm => ⟨h m (by omega), k m (by omega)⟩⟩
theorem Evt.map2 {p q s : Nat → Prop} (h : Evt p) (k : Evt q) (f : ∀ m, p m → q m → s m) : Evt s := (h.and k).mono fun m h => f m h.1 h.2

theorem obind_ok {x : Option α} {K : α → Option R} (h : obind x K = some r) : ∃ y, x = some y ∧ K y = some r := by
  cases x with
  | none => cases h
  | some y => exact ⟨y, rfl, h⟩
theorem gd_ok {b : Bool} {x : Option R} (h : gd b x = some r) : b = true ∧ x = some r := by
  cases b with
  | true => exact ⟨rfl, h⟩
  | false => cases h
theorem bc_ok {b : Bool} {x y : Option R} (h : bc b x y = some r) : (b = true ∧ x = some r) ∨ (b = false ∧ y = some r) := by
  cases b with
  | true => exact .inl ⟨rfl, h⟩
  | false => exact .inr ⟨rfl, h⟩

/-! ### what lives hands on what it is given -/
theorem onLoc_obind (sh : Sh) (v : V) (F : Bool → V → Option α) (K : α → Option R) : obind (onLoc sh v F) K = onLoc sh v fun d u => obind (F d u) K := by
  cases v <;> try rfl
  simp only [onLoc]; split <;> rfl
theorem onRowV_obind (sh : Sh) (v : V) (F : Nat → Nat → Nat → Option α) (K : α → Option R) : obind (onRowV sh v F) K = onRowV sh v fun a b c => obind (F a b c) K := by
  cases v <;> try rfl
  simp only [onRowV]; split <;> rfl
theorem onRoom_obind (sh : Sh) (v : V) (F : List V → Option α) (K : α → Option R) : obind (onRoom sh v F) K = onRoom sh v fun a => obind (F a) K := by
  cases v <;> try rfl
  rename_i m _ _
  cases m <;> try rfl
  · simp only [onRoom]; split <;> rfl
  · simp only [onRoom]; split <;> rfl
theorem onFull_obind (sh : Sh) (v : V) (F : List V → Option α) (K : α → Option R) : obind (onFull sh v F) K = onFull sh v fun a => obind (F a) K := by
  cases v <;> try rfl
  rename_i m _ _
  cases m <;> try rfl
  simp only [onFull]; split <;> rfl

theorem coerceCell_obind (c : CT) (v : V) (F : V → Option α) (K : α → Option R) : obind (coerceCell c v F) K = coerceCell c v fun v => obind (F v) K := by
  cases c <;> simp only [coerceCell, onInt_obind, onIk_obind, onBool_obind, onStr_obind, onVec_obind, onFn_obind]

mutual
theorem coerceK_obind (k : Kd) (v : V) (F : V → Option α) (K : α → Option R) : obind (coerceK P k v F) K = coerceK P k v fun v => obind (F v) K := by
  match k with
  | .ty t => unfold coerceK; exact coerce1_obind ..
  | .ct c => unfold coerceK; exact coerceCell_obind ..
  | .loc t => unfold coerceK; rw [onLoc_obind]; congr 1; funext d u; exact coerce1_obind ..
  | .locA sh => unfold coerceK; rw [onLoc_obind]
  | .dloc sh ks => unfold coerceK; rw [onLoc_obind]; congr 1; funext d u; rw [onAgg_obind]; congr 1; funext cs; exact coerceKs_obind ..
  | .row sh => unfold coerceK; rw [onRowV_obind]
  | .grow sh => unfold coerceK; rw [gd_obind, onRoom_obind]
  | .full sh => unfold coerceK; rw [onFull_obind]
  | .any => unfold coerceK; rfl
theorem coerceKs_obind (ks : List Kd) (vs : List V) (F : List V → Option α) (K : α → Option R) : obind (coerceKs P ks vs F) K = coerceKs P ks vs fun v => obind (F v) K := by
  match ks with
  | [] => unfold coerceKs; rw [onNil_obind]
  | k :: ks => unfold coerceKs; rw [onCons_obind]; congr 1; funext v us; rw [coerceK_obind]; congr 1; funext v; rw [coerceKs_obind]
end

theorem coerceKeep_obind : ∀ (l : List (Nat × Kd)) (ρ : Env) (F : List V → Option α) (K : α → Option R), obind (coerceKeep P l ρ F) K = coerceKeep P l ρ fun v => obind (F v) K
  | [], ρ, F, K => by unfold coerceKeep; rfl
  | (t, k) :: l, ρ, F, K => by unfold coerceKeep; rw [coerceK_obind]; congr 1; funext v; rw [coerceKeep_obind]

theorem coerceOuts_obind : ∀ (l : List (Nat × Kd)) (vs : List V) (F : Env → Option α) (K : α → Option R), obind (coerceOuts P l vs F) K = coerceOuts P l vs fun v => obind (F v) K
  | [], vs, F, K => by unfold coerceOuts; rw [onNil_obind]
  | (t, k) :: l, vs, F, K => by unfold coerceOuts; rw [onCons_obind]; congr 1; funext v us; rw [coerceK_obind]; congr 1; funext v; rw [coerceOuts_obind]

theorem coerceKeep_step (l : List (Nat × Kd)) (ρ : Env) (K : List V → Option R) : coerceKeep P l ρ K = obind (coerceKeep P l ρ some) K := by rw [coerceKeep_obind]; rfl
theorem coerceOuts_step (l : List (Nat × Kd)) (vs : List V) (K : Env → Option R) : coerceOuts P l vs K = obind (coerceOuts P l vs some) K := by rw [coerceOuts_obind]; rfl

/-- What comes out, comes out of what a chain of oracles comes to. -/
structure OLim (Os : Nat → Oracle) (O : Oracle) : Prop where
  call : ∀ f args st x, O.call f args st = some x → Evt fun m => (Os m).call f args st = some x
  loop : ∀ f key vals st x, O.loop f key vals st = some x → Evt fun m => (Os m).loop f key vals st = some x
  round : ∀ l f key vals args st x, O.round l f key vals args st = some x → Evt fun m => (Os m).round l f key vals args st = some x

section
variable {Os : Nat → Oracle} {O : Oracle} (hO : OLim Os O)
include hO

theorem pcall_lim {g : Nat} {args : List V} {v : V} (h : pcall O g args = some v) : Evt fun m => pcall (Os m) g args = some v := by
  unfold pcall at h
  obtain ⟨h1, h⟩ := gd_ok h
  obtain ⟨x, hx, h⟩ := obind_ok h
  refine (hO.call _ _ _ _ hx).mono fun m hm => ?_
  unfold pcall
  rw [h1, hm]
  exact h

theorem applyV_lim {fv : V} {args : List V} {st : St} {x : Out × St} (h : applyV cfg O fv args st = some x) : Evt fun m => applyV cfg (Os m) fv args st = some x := by
  unfold applyV at h
  split at h
  · rename_i g first cap
    rcases bc_ok h with ⟨hp, h⟩ | ⟨hp, h⟩
    · obtain ⟨v, hv, h⟩ := obind_ok h
      refine (pcall_lim hO hv).mono fun m hm => ?_
      unfold applyV
      simp only [hp, hm]
      exact h
    · refine (hO.call _ _ _ _ h).mono fun m hm => ?_
      unfold applyV
      simp only [hp, hm]
      rfl
  · rename_i l
    unfold getR at h
    split at h
    · rename_i y hy
      unfold onLoop at h
      dsimp only at h
      split at h
      · split at h
        · obtain ⟨z, hz, h⟩ := obind_ok h
          refine (hO.round _ _ _ _ _ _ _ hz).mono fun m hm => ?_
          unfold applyV getR onLoop
          simp only [hy, hm]
          exact h
        · cases h
      · cases h
    · cases h
  · cases h

/-- One operation, its two ways out. -/
def stepS (P : Program) (cfg : Cfg) (O : Oracle) (fid rid idx : Nat) (o : Oper) (ρ : Env) (st : St) : Option ((List (Nat × V) × St) ⊕ (V × St)) :=
  runOp P cfg O fid rid idx o ρ st (fun us st => some (.inl (us, st))) fun v st => some (.inr (v, st))
omit hO in
theorem runOp_stepS {rid idx : Nat} {o : Oper} {ρ : Env} {st : St} (F : List (Nat × V) → St → Option R) (G : V → St → Option R) :
    runOp P cfg O fid rid idx o ρ st F G = obind (stepS P cfg O fid rid idx o ρ st) fun | .inl x => F x.1 x.2 | .inr x => G x.1 x.2 := by
  unfold stepS
  rw [runOp_obind]
  rfl

theorem callOp_lim {rid idx : Nat} {o : Oper} {c : Call} {f : Operand} {ρ : Env} {st : St} {F : List (Nat × V) → St → Option R} {G : V → St → Option R} (h : callOp P cfg O fid rid idx o c f ρ st F G = some r) : Evt fun m => callOp P cfg (Os m) fid rid idx o c f ρ st F G = some r := by
  unfold callOp at h
  obtain ⟨h1, h⟩ := gd_ok h
  split at h
  · rename_i g
    rcases bc_ok h with ⟨hp, h⟩ | ⟨hp, h⟩
    · obtain ⟨v, hv, h⟩ := obind_ok h
      refine (pcall_lim hO hv).mono fun m hm => ?_
      unfold callOp
      simp only [h1, hp, hm]
      exact h
    · obtain ⟨v, hv, h⟩ := obind_ok h
      refine (hO.call _ _ _ _ hv).mono fun m hm => ?_
      unfold callOp
      simp only [h1, hp, hm]
      exact h
  · rename_i hne
    rw [applyK_eq] at h
    obtain ⟨v, hv, h⟩ := obind_ok h
    refine (applyV_lim hO hv).mono fun m hm => ?_
    unfold callOp
    split
    · exact absurd rfl (hne _)
    · simp only [h1, applyK_eq, hm]
      exact h

theorem stepS_lim {rid idx : Nat} {o : Oper} {ρ : Env} {st : St} {y : (List (Nat × V) × St) ⊕ (V × St)} (h : stepS P cfg O fid rid idx o ρ st = some y) : Evt fun m => stepS P cfg (Os m) fid rid idx o ρ st = some y := by
  unfold stepS runOp at h ⊢
  split at h
  · exact .of fun m => h
  · exact callOp_lim hO h
  · exact .of fun m => h
  · exact .of fun m => h
  · exact .of fun m => h

theorem runOp_lim {rid idx : Nat} {o : Oper} {ρ : Env} {st : St} {F : List (Nat × V) → St → Option R} {G : V → St → Option R} {F' : Nat → List (Nat × V) → St → Option R} {G' : Nat → V → St → Option R}
    (hF : ∀ us st, F us st = some r → Evt fun m => F' m us st = some r) (hG : ∀ v st, G v st = some r → Evt fun m => G' m v st = some r) (h : runOp P cfg O fid rid idx o ρ st F G = some r) :
    Evt fun m => runOp P cfg (Os m) fid rid idx o ρ st (F' m) (G' m) = some r := by
  rw [runOp_stepS] at h
  obtain ⟨y, hy, h⟩ := obind_ok h
  cases y with
  | inl x => exact (stepS_lim hO hy).map2 (hF _ _ h) fun m h1 h2 => by rw [runOp_stepS, h1]; exact h2
  | inr x => exact (stepS_lim hO hy).map2 (hG _ _ h) fun m h1 h2 => by rw [runOp_stepS, h1]; exact h2

theorem execOps_lim {rid : Nat} {all : List Oper} {draw : Bool} : ∀ (rest : List Oper) (i : Nat) (ρ : Env) (st : St) (fs : List Foot) (K : Ex → Env → St → Option R) (K' : Nat → Ex → Env → St → Option R), (∀ e ρ st, K e ρ st = some r → Evt fun m => K' m e ρ st = some r) →
    execOps P cfg O fid rid all draw rest i ρ st fs K = some r → Evt fun m => execOps P cfg (Os m) fid rid all draw rest i ρ st fs (K' m) = some r
  | [], i, ρ, st, fs, K, K', hK, h => by
    simp only [execOps] at h ⊢
    rcases bc_ok h with ⟨hd, h⟩ | ⟨hd, h⟩
    · obtain ⟨hg, h⟩ := gd_ok h
      refine (hK _ _ _ h).mono fun m hm => ?_
      rw [hd, hg]; exact hm
    · refine (hK _ _ _ h).mono fun m hm => ?_
      rw [hd]; exact hm
  | o :: rest, i, ρ, st, fs, K, K', hK, h => by
    have run : ∀ (g : List Nat) (ρ : Env), gd (bif draw then freshDst ρ o.dst else okDst all ρ o.dst) (runOp P cfg O fid rid i o ρ st
        (fun us st' => execOps P cfg O fid rid all draw rest (i + 1) (ρ.apply us) st' (bif draw then footOf cfg fid rid i o g ρ (us.map (·.1)) :: fs else fs) K)
        (fun p st' => bc draw none (K (.panic p) ρ st'))) = some r → Evt fun m => gd (bif draw then freshDst ρ o.dst else okDst all ρ o.dst) (runOp P cfg (Os m) fid rid i o ρ st
        (fun us st' => execOps P cfg (Os m) fid rid all draw rest (i + 1) (ρ.apply us) st' (bif draw then footOf cfg fid rid i o g ρ (us.map (·.1)) :: fs else fs) (K' m))
        (fun p st' => bc draw none (K' m (.panic p) ρ st'))) = some r := fun g ρ h => by
      obtain ⟨hg, h⟩ := gd_ok h
      refine (runOp_lim hO (F' := fun m us st' => execOps P cfg (Os m) fid rid all draw rest (i + 1) (ρ.apply us) st' (bif draw then footOf cfg fid rid i o g ρ (us.map (·.1)) :: fs else fs) (K' m)) (G' := fun m p st' => bc draw none (K' m (.panic p) ρ st')) (fun us st' h => ?_) (fun v st' h => ?_) h).mono fun m hm => ?_
      · exact execOps_lim rest (i + 1) _ st' _ K K' hK h
      · rcases bc_ok h with ⟨_, h⟩ | ⟨hd, h⟩
        · cases h
        · refine (hK _ _ _ h).mono fun m hm => ?_
          rw [hd]; exact hm
      · rw [hg]; exact hm
    have skip : ∀ (g : List Nat) (ρ : Env), gd (bif draw then freshDst ρ o.dst else okDst all ρ o.dst) (execOps P cfg O fid rid all draw rest (i + 1) (ρ.put o.dst (.tup [])) st (bif draw then { idx := i, reads := g, writes := o.dst.toList, sk := .none } :: fs else fs) K) = some r →
        Evt fun m => gd (bif draw then freshDst ρ o.dst else okDst all ρ o.dst) (execOps P cfg (Os m) fid rid all draw rest (i + 1) (ρ.put o.dst (.tup [])) st (bif draw then { idx := i, reads := g, writes := o.dst.toList, sk := .none } :: fs else fs) (K' m)) = some r := fun g ρ h => by
      obtain ⟨hg, h⟩ := gd_ok h
      refine (execOps_lim rest (i + 1) _ st _ K K' hK h).mono fun m hm => ?_
      rw [hg]; exact hm
    simp only [execOps] at h ⊢
    split at h
    · rename_i hgd
      exact run [] ρ h
    · rename_i g want hgd
      split at h
      · cases h
      · rename_i t ht
        split at h
        · rename_i b hv
          rcases bc_ok h with ⟨rfl, h1⟩ | ⟨rfl, h1⟩
          · rcases bc_ok h1 with ⟨rfl, h2⟩ | ⟨rfl, h2⟩
            · exact run _ _ h2
            · exact skip _ _ h2
          · rcases bc_ok h1 with ⟨rfl, h2⟩ | ⟨rfl, h2⟩
            · exact skip _ _ h2
            · exact run _ _ h2
        · exact skip _ _ h
        · cases h

omit hO in
theorem behind_lim {f key : Nat} {nrm rt : Bool} {ids : List Nat} {x : Ex × List V × St} {K : Ex → Env → St → Option R} {K' : Nat → Ex → Env → St → Option R} (hK : ∀ e ρ st, K e ρ st = some r → Evt fun m => K' m e ρ st = some r)
    (h : behind P cfg f key nrm rt ids x K = some r) : Evt fun m => behind P cfg f key nrm rt ids x (K' m) = some r := by
  have outs : ∀ (l : List (Nat × Kd)) (vs : List V) (e : Ex) (st : St), coerceOuts P l vs (fun ρ => K e ρ st) = some r → Evt fun m => coerceOuts P l vs (fun ρ => K' m e ρ st) = some r := fun l vs e st h => by
    rw [coerceOuts_step] at h
    obtain ⟨ρ, hρ, h⟩ := obind_ok h
    exact (hK _ _ _ h).mono fun m hm => by rw [coerceOuts_step, hρ]; exact hm
  obtain ⟨e, vs, st⟩ := x
  unfold behind onEx at h ⊢
  cases e with
  | normal =>
    rcases bc_ok h with ⟨hd, h⟩ | ⟨hd, h⟩
    · exact (outs _ _ _ _ h).mono fun m hm => by simp only [hd]; exact hm
    · cases h
  | ret =>
    rcases bc_ok h with ⟨hd, h⟩ | ⟨hd, h⟩
    · exact (outs _ _ _ _ h).mono fun m hm => by simp only [hd]; exact hm
    · cases h
  | exit i =>
    have : ∀ ids : List Nat, pickExit i (fun j => coerceOuts P (cfg.outs f key) vs fun ρ => K (.exit j) ρ st) ids = some r → Evt fun m => pickExit i (fun j => coerceOuts P (cfg.outs f key) vs fun ρ => K' m (.exit j) ρ st) ids = some r := by
      intro ids
      induction ids with
      | nil => intro h; cases h
      | cons j js ih =>
        intro h
        unfold pickExit at h ⊢
        rcases bc_ok h with ⟨hd, h⟩ | ⟨hd, h⟩
        · exact (outs _ _ _ _ h).mono fun m hm => by simp only [hd]; exact hm
        · exact (ih h).mono fun m hm => by simp only [hd]; exact hm
    exact this _ h
  | goto l => cases h
  | panic v =>
    rcases bc_ok h with ⟨hd, h⟩ | ⟨hd, h⟩
    · exact (hK _ _ _ h).mono fun m hm => by simp only [hd]; exact hm
    · cases h

theorem exec_lim : ∀ (c : Code) (ρ : Env) (st : St) (K : Ex → Env → St → Option R) (K' : Nat → Ex → Env → St → Option R), (∀ e ρ st, K e ρ st = some r → Evt fun m => K' m e ρ st = some r) →
    exec P cfg O fid c ρ st K = some r → Evt fun m => exec P cfg (Os m) fid c ρ st (K' m) = some r := by
  intro c
  induction c with
  | skip => intro ρ st K K' hK h; exact hK _ _ _ h
  | label l => intro ρ st K K' hK h; exact hK _ _ _ h
  | exit i => intro ρ st K K' hK h; exact hK _ _ _ h
  | goto l => intro ρ st K K' hK h; exact hK _ _ _ h
  | ret => intro ρ st K K' hK h; exact hK _ _ _ h
  | refuse s => intro ρ st K K' hK h; cases h
  | region id ops draw => intro ρ st K K' hK h; exact execOps_lim hO _ _ _ _ _ _ _ hK h
  | seq a b iha ihb =>
    intro ρ st K K' hK h
    simp only [exec] at h ⊢
    refine iha _ _ _ _ (fun e ρ st h => ?_) h
    cases e with
    | normal => exact ihb _ _ _ _ hK h
    | _ => exact hK _ _ _ h
  | cond c a b iha ihb =>
    intro ρ st K K' hK h
    simp only [exec] at h ⊢
    split at h
    · split at h
      · rcases bc_ok h with ⟨rfl, h⟩ | ⟨rfl, h⟩
        · exact iha _ _ _ _ hK h
        · exact ihb _ _ _ _ hK h
      · cases h
    · rcases bc_ok h with ⟨rfl, h⟩ | ⟨rfl, h⟩
      · exact iha _ _ _ _ hK h
      · exact ihb _ _ _ _ hK h
    · cases h
  | block id b ih =>
    intro ρ st K K' hK h
    simp only [exec] at h ⊢
    refine ih _ _ _ _ (fun e ρ st h => ?_) h
    cases e with
    | exit i =>
      rcases bc_ok h with ⟨hd, h⟩ | ⟨hd, h⟩
      · exact (hK _ _ _ h).mono fun m hm => by simp only [hd]; exact hm
      · exact (hK _ _ _ h).mono fun m hm => by simp only [hd]; exact hm
    | _ => exact hK _ _ _ h
  | loop b ih =>
    intro ρ st K K' hK h
    simp only [exec] at h ⊢
    rw [coerceKeep_step] at h
    obtain ⟨vals, hv, h⟩ := obind_ok h
    obtain ⟨x, hx, h⟩ := obind_ok h
    refine (hO.loop _ _ _ _ _ hx).map2 (behind_lim hK h) fun m h1 h2 => ?_
    rw [coerceKeep_step, hv]
    show obind ((Os m).loop _ _ _ _) _ = _
    rw [h1]; exact h2
  | scope b ih =>
    intro ρ st K K' hK h
    simp only [exec] at h ⊢
    refine ih _ _ _ _ (fun e ρ st h => ?_) h
    cases e with
    | goto l =>
      simp only at h ⊢
      split at h
      · rw [coerceKeep_step] at h
        obtain ⟨vals, hv, h⟩ := obind_ok h
        obtain ⟨x, hx, h⟩ := obind_ok h
        refine (hO.loop _ _ _ _ _ hx).map2 (behind_lim hK h) fun m h1 h2 => ?_
        rw [coerceKeep_step, hv]
        show obind ((Os m).loop _ _ _ _) _ = _
        rw [h1]; exact h2
      · exact hK _ _ _ h
    | _ => exact hK _ _ _ h
  | rangeFunc f ps a b iha ihb =>
    intro ρ st K K' hK h
    simp only [exec] at h ⊢
    unfold onFn at h ⊢
    split at h
    · obtain ⟨⟨out, st2⟩, hx, h⟩ := obind_ok h
      cases out with
      | panic v => cases h
      | ret v =>
        unfold onRet getR onLoop at h
        simp only at h
        split at h
        · rename_i y hy
          split at h
          · rename_i s p
            have : Evt fun m => onPend s p (K' m .normal (ρ.apply (upds ρ false (f :: ((cfg.keep fid (keyOf b)).map (·.1)).map Operand.tmp))) (st2.set st.length .dead)) (bc (hasRet b) (K' m .ret (ρ.apply (upds ρ false (f :: ((cfg.keep fid (keyOf b)).map (·.1)).map Operand.tmp))) (st2.set st.length .dead)) none)
                (fun i => pickExit i (fun j => K' m (.exit j) (ρ.apply (upds ρ false (f :: ((cfg.keep fid (keyOf b)).map (·.1)).map Operand.tmp))) (st2.set st.length .dead)) (exitsOf b)) = some r := by
              unfold onPend at h ⊢
              split at h
              · exact hK _ _ _ h
              · rcases bc_ok h with ⟨hd, h⟩ | ⟨_, h⟩
                · exact (hK _ _ _ h).mono fun m hm => by simp only [hd]; exact hm
                · cases h
              · rename_i i
                have : ∀ ids : List Nat, pickExit i (fun j => K (.exit j) (ρ.apply (upds ρ false (f :: ((cfg.keep fid (keyOf b)).map (·.1)).map Operand.tmp))) (st2.set st.length .dead)) ids = some r → Evt fun m => pickExit i (fun j => K' m (.exit j) (ρ.apply (upds ρ false (f :: ((cfg.keep fid (keyOf b)).map (·.1)).map Operand.tmp))) (st2.set st.length .dead)) ids = some r := by
                  intro ids
                  induction ids with
                  | nil => intro h; cases h
                  | cons j js ih =>
                    intro h
                    unfold pickExit at h ⊢
                    rcases bc_ok h with ⟨hd, h⟩ | ⟨hd, h⟩
                    · exact (hK _ _ _ h).mono fun m hm => by simp only [hd]; exact hm
                    · exact (ih h).mono fun m hm => by simp only [hd]; exact hm
                exact this _ h
              · cases h
            refine (hO.call _ _ _ _ hx).map2 this fun m h1 h2 => ?_
            dsimp only
            rw [h1]
            unfold obind onRet getR onLoop
            simp only [hy]
            exact h2
          · cases h
        · cases h
    · cases h
end
end
end Go.AM

namespace Go.AM
open Go

section
variable {P : Program} {cfg : Cfg} {ext : Ext} {fid : Nat} {R : Type} {r : R} {α : Type} {Os : Nat → Oracle} {O : Oracle}

theorem callBody_lim (hO : OLim Os O) {f : Nat} {args : List V} {st : St} {x : Out × St} (h : callBody P cfg O f args st = some x) : Evt fun m => callBody P cfg (Os m) f args st = some x := by
  unfold callBody at h ⊢
  split at h
  · cases h
  · rename_i fn hf
    split at h
    · cases h
    · rename_i c hb
      obtain ⟨hg, h⟩ := gd_ok h
      refine (exec_lim hO c _ _ _ (fun _ e ρ st' => match e with
        | .normal | .ret => gd (decide (fn.results.size ≤ fn.resultTypes.size)) <| resultsK P st.length ρ st' (fn.results.toList.zip fn.resultTypes.toList) fun vs st' => gc (cfg.pure f) st.length (.ret (match vs with | [v] => v | vs => .tup vs)) st'
        | .panic v => gc (cfg.pure f) st.length (.panic v) st'
        | _ => none) (fun e ρ st h => .of fun _ => h) h).mono fun m hm => ?_
      simp only [hf, hb, hg]
      exact hm

theorem loopBody_lim (hO : OLim Os O) {f key : Nat} {vals : List V} {st : St} {x : Ex × List V × St} (h : loopBody P cfg O f key vals st = some x) : Evt fun m => loopBody P cfg (Os m) f key vals st = some x := by
  have keep : ∀ (ρ : Env) (st : St), (coerceKeep P (cfg.keep f key) ρ fun vals => O.loop f key vals st) = some x → Evt fun m => (coerceKeep P (cfg.keep f key) ρ fun vals => (Os m).loop f key vals st) = some x := fun ρ st h => by
    rw [coerceKeep_step] at h
    obtain ⟨vals, hv, h⟩ := obind_ok h
    exact (hO.loop _ _ _ _ _ h).mono fun m hm => by rw [coerceKeep_step, hv]; exact hm
  unfold loopBody at h ⊢
  split at h
  · cases h
  · rename_i fn hf
    split at h
    · cases h
    · rename_i c hb
      split at h
      · rename_i hk
        split at h
        · cases h
        · rename_i b hb2
          refine (exec_lim hO b _ _ _ (fun m e ρ st => match e with
            | .normal => coerceKeep P (cfg.keep f key) ρ fun vals => (Os m).loop f key vals st
            | .ret => some (.ret, (cfg.rets f key).map (fun x => ρ.get x.1), st)
            | e => some (e, (cfg.outs f key).map (fun x => ρ.get x.1), st)) (fun e ρ st h => ?_) h).mono fun m hm => ?_
          · cases e with
            | normal => exact keep _ _ h
            | _ => exact .of fun _ => h
          · simp only [hf, hb, if_pos hk, hb2]
            exact hm
      · rename_i hk
        split at h
        · cases h
        · rename_i b hb2
          split at h
          · cases h
          · rename_i rest hr
            refine (exec_lim hO rest _ _ _ (fun m e ρ st => match e with
              | .goto l => if l = key - labelKey then coerceKeep P (cfg.keep f key) ρ fun vals => (Os m).loop f key vals st else none
              | .ret => some (.ret, (cfg.rets f key).map (fun x => ρ.get x.1), st)
              | e => some (e, (cfg.outs f key).map (fun x => ρ.get x.1), st)) (fun e ρ st h => ?_) h).mono fun m hm => ?_
            · cases e with
              | goto l =>
                simp only at h ⊢
                split at h
                · rename_i hl
                  simp only [if_pos hl]
                  exact keep _ _ h
                · cases h
              | _ => exact .of fun _ => h
            · simp only [hf, hb, if_neg hk, hb2, hr]
              exact hm

theorem roundBody_lim (hO : OLim Os O) {l f key : Nat} {vals args : List V} {st : St} {x : Bool × St} (h : roundBody P cfg O l f key vals args st = some x) : Evt fun m => roundBody P cfg (Os m) l f key vals args st = some x := by
  unfold roundBody at h ⊢
  split at h
  · cases h
  · rename_i fn hf
    split at h
    · cases h
    · rename_i c hb
      split at h
      · cases h
      · rename_i ps a b hr
        obtain ⟨hg, h⟩ := gd_ok h
        refine (exec_lim hO a _ _ _ (fun m e ρ st => match e with
          | .normal =>
            getR st l fun y => onLoop y fun f1 k1 v1 s1 p1 =>
            match s1, p1 with
            | .ready, none =>
              exec P cfg (Os m) f b ρ (st.set l (.loop f1 k1 v1 .busy none)) fun e _ st' =>
                getR st' l fun x => onLoop x fun f2 k2 v2 s _ =>
                  match s, e with
                  | .busy, .normal => some (true, st'.set l (.loop f2 k2 v2 .ready none))
                  | .busy, .ret => some (false, st'.set l (.loop f2 k2 v2 .done (some .ret)))
                  | .busy, .exit id => some (false, st'.set l (.loop f2 k2 v2 .done (some (.exit id))))
                  | _, _ => none
            | _, _ => none
          | _ => none) (fun e ρ st h => ?_) h).mono fun m hm => ?_
        · cases e with
          | normal =>
            simp only at h ⊢
            unfold getR at h ⊢
            split at h
            · rename_i y hy
              unfold onLoop at h ⊢
              cases y with
              | loop f1 k1 v1 s1 p1 =>
                simp only at h ⊢
                try simp only [hy]
                cases s1 <;> cases p1 <;> first | cases h | skip
                exact exec_lim hO b _ _ _ _ (fun e ρ st h => .of fun _ => h) h
              | _ => cases h
            · cases h
          | _ => cases h
        · simp only [hf, hb, hr, hg]
          exact hm

/-- What is done by a proof of its own leans on finitely many words. -/
def ExtLim (ext : Ext) : Prop := ∀ f x, ext f = some x → ∀ (Os : Nat → Oracle) (O : Oracle), OLim Os O → ∀ args st y, x O args st = some y → Evt fun m => x (Os m) args st = some y

theorem step_lim (hE : ExtLim ext) (hO : OLim Os O) : OLim (fun m => stepO P cfg ext (Os m)) (stepO P cfg ext O) := by
  refine ⟨fun f args st x h => ?_, fun f key vals st x h => loopBody_lim hO h, fun l f key vals args st x h => roundBody_lim hO h⟩
  simp only [stepO] at h ⊢
  split at h
  · rename_i y hy
    exact (hE f y hy Os O hO _ _ _ h).mono fun m hm => by (try simp only [hy]); exact hm
  · rename_i hy
    exact (callBody_lim hO h).mono fun m hm => by (try simp only [hy]); exact hm

theorem OLim.trans {O' O2 : Oracle} (h : OLim (fun _ => O') O) (k : OLim (fun _ => O2) O') : OLim (fun _ => O2) O :=
  ⟨fun f args st x e => let ⟨n, h⟩ := h.call f args st x e; k.call _ _ _ _ (h n (Nat.le_refl _)), fun f key vals st x e => let ⟨n, h⟩ := h.loop f key vals st x e; k.loop _ _ _ _ _ (h n (Nat.le_refl _)),
    fun l f key vals args st x e => let ⟨n, h⟩ := h.round l f key vals args st x e; k.round _ _ _ _ _ _ _ (h n (Nat.le_refl _))⟩

theorem fuel_succ (hE : ExtLim ext) : ∀ k, OLim (fun _ => fuelO P cfg ext (k + 1)) (fuelO P cfg ext k)
  | 0 => ⟨fun _ _ _ _ h => (by cases h), fun _ _ _ _ _ h => (by cases h), fun _ _ _ _ _ _ _ h => (by cases h)⟩
  | k + 1 => step_lim hE (fuel_succ hE k)

theorem fuel_le (hE : ExtLim ext) (k : Nat) : ∀ d, OLim (fun _ => fuelO P cfg ext (k + d)) (fuelO P cfg ext k)
  | 0 => ⟨fun _ _ _ _ h => .of fun _ => h, fun _ _ _ _ _ h => .of fun _ => h, fun _ _ _ _ _ _ _ h => .of fun _ => h⟩
  | d + 1 => (fuel_le hE k d).trans (fuel_succ hE (k + d))

/-- All the fuel. -/
noncomputable def limS (s : Nat → Option α) : Option α := by
  classical
  exact if h : ∃ x, Evt fun m => s m = some x then some h.choose else none

theorem limS_some {s : Nat → Option α} {x : α} : limS s = some x ↔ Evt fun m => s m = some x := by
  classical
  unfold limS
  constructor
  · intro h
    split at h
    · rename_i hx
      cases h
      exact hx.choose_spec
    · cases h
  · intro h
    rw [dif_pos ⟨x, h⟩]
    obtain ⟨n, hn⟩ := h
    obtain ⟨n', hn'⟩ := (⟨x, n, hn⟩ : ∃ x, Evt fun m => s m = some x).choose_spec
    have h1 := hn (max n n') (by omega)
    have h2 := hn' (max n n') (by omega)
    exact h2.symm.trans h1

noncomputable def Om (P : Program) (cfg : Cfg) (ext : Ext) : Oracle where
  call f args st := limS fun m => (fuelO P cfg ext m).call f args st
  loop f key vals st := limS fun m => (fuelO P cfg ext m).loop f key vals st
  round l f key vals args st := limS fun m => (fuelO P cfg ext m).round l f key vals args st

theorem om_lim : OLim (fun m => fuelO P cfg ext m) (Om P cfg ext) :=
  ⟨fun _ _ _ _ h => limS_some.1 h, fun _ _ _ _ _ h => limS_some.1 h, fun _ _ _ _ _ _ _ h => limS_some.1 h⟩

theorem fuel_om (hE : ExtLim ext) (k : Nat) : OLim (fun _ => Om P cfg ext) (fuelO P cfg ext k) := by
  have key : ∀ {β : Type} {s : Nat → Option β} {x : β}, (∀ d, Evt fun _ => s (k + d) = some x) → limS s = some x := fun {β s x} h => limS_some.2 ⟨k, fun m hm => by
    obtain ⟨n, h⟩ := h (m - k)
    have := h n (Nat.le_refl _)
    rwa [show k + (m - k) = m by omega] at this⟩
  exact ⟨fun f args st x h => .of fun _ => key fun d => (fuel_le hE k d).call f args st x h, fun f key' vals st x h => .of fun _ => key fun d => (fuel_le hE k d).loop f key' vals st x h,
    fun l f key' vals args st x h => .of fun _ => key fun d => (fuel_le hE k d).round l f key' vals args st x h⟩

theorem evt_succ {p : Nat → Prop} (h : Evt fun m => p (m + 1)) : Evt p := by
  obtain ⟨n, h⟩ := h
  exact ⟨n + 1, fun m hm => by obtain ⟨k, rfl⟩ : ∃ k, m = k + 1 := ⟨m - 1, by omega⟩; exact h k (by omega)⟩
theorem evt_ex {p : Nat → Prop} (h : Evt p) : ∃ k, p (k + 1) := by
  obtain ⟨n, h⟩ := h
  exact ⟨n, h (n + 1) (by omega)⟩
theorem evt_const {p : Prop} (h : Evt fun _ => p) : p := by
  obtain ⟨n, h⟩ := h
  exact h n (Nat.le_refl _)
theorem opt_ext {x y : Option α} (h1 : ∀ z, x = some z → y = some z) (h2 : ∀ z, y = some z → x = some z) : x = y := by
  cases x with
  | none =>
    cases y with
    | none => rfl
    | some z => have := h2 z rfl; cases this
  | some z => exact (h1 z rfl).symm

/-- It keeps its word. -/
theorem om_call (hE : ExtLim ext) (f : Nat) (args : List V) (st : St) : (Om P cfg ext).call f args st = (stepO P cfg ext (Om P cfg ext)).call f args st :=
  opt_ext (fun z h => by
    obtain ⟨k, hk⟩ := evt_ex (limS_some.1 h)
    exact evt_const ((step_lim (P := P) (cfg := cfg) hE (fuel_om hE k)).call f args st z hk))
    fun z h => limS_some.2 (evt_succ ((step_lim hE om_lim).call f args st z h))
theorem om_loop (hE : ExtLim ext) (f key : Nat) (vals : List V) (st : St) : (Om P cfg ext).loop f key vals st = loopBody P cfg (Om P cfg ext) f key vals st :=
  opt_ext (fun z h => by
    obtain ⟨k, hk⟩ := evt_ex (limS_some.1 h)
    exact evt_const ((step_lim (P := P) (cfg := cfg) hE (fuel_om hE k)).loop f key vals st z hk))
    fun z h => limS_some.2 (evt_succ ((step_lim (P := P) (cfg := cfg) hE om_lim).loop f key vals st z h))
theorem om_round (hE : ExtLim ext) (l f key : Nat) (vals args : List V) (st : St) : (Om P cfg ext).round l f key vals args st = roundBody P cfg (Om P cfg ext) l f key vals args st :=
  opt_ext (fun z h => by
    obtain ⟨k, hk⟩ := evt_ex (limS_some.1 h)
    exact evt_const ((step_lim (P := P) (cfg := cfg) hE (fuel_om hE k)).round l f key vals args st z hk))
    fun z h => limS_some.2 (evt_succ ((step_lim (P := P) (cfg := cfg) hE om_lim).round l f key vals args st z h))
theorem om_fuel {f : Nat} {args : List V} {st : St} {x : Out × St} (h : (Om P cfg ext).call f args st = some x) : ∃ m, (fuelO P cfg ext m).call f args st = some x := by
  obtain ⟨n, h⟩ := limS_some.1 h
  exact ⟨n, h n (Nat.le_refl _)⟩
end
end Go.AM

/-! What a law is handed: tree values of its parameters' types. -/
namespace Go.AM
open Go Go.RowKit

/-! ### how much there is -/
mutual
def bulkV : V → Nat
  | .str s => s.size + 1
  | .vec _ _ es => bulkL es + 1
  | .agg cs => bulkL cs + 1
  | _ => 1
def bulkL : List V → Nat
  | [] => 0
  | v :: vs => bulkV v + bulkL vs
end
mutual
def bulkD {H : Type} : DataW H → Nat
  | .lit (.string bytes) => bytes.length + 1
  | .lit _ => 1
  | .nil => 1
  | .ptr d => bulkD d + 1
  | .slice elems spare => bulkDs elems + bulkDs spare + 1
  | .agg parts => bulkDs parts + 1
  | .iface _ d => bulkD d + 1
  | .map _ => 1
  | .held _ => 1
def bulkDs {H : Type} : List (DataW H) → Nat
  | [] => 0
  | d :: r => bulkD d + bulkDs r
end
theorem bulkL_append (a b : List V) : bulkL (a ++ b) = bulkL a + bulkL b := by
  induction a with
  | nil => simp [bulkL]
  | cons x a ih => simp only [List.cons_append, bulkL, ih]; omega

theorem bulkDs_append {H : Type} (a b : List (DataW H)) : bulkDs (a ++ b) = bulkDs a + bulkDs b := by
  induction a with
  | nil => simp [bulkDs]
  | cons x a ih => simp only [List.cons_append, bulkDs, ih]; omega

/-- Types that are known: whole numbers, bools, strings, slices and structs of such. -/
def knownB (P : Program) (S : List TypeId) : Bool :=
  S.all fun t => decide (t < P.types.size) && match P.underlying t with
    | some .bool => true
    | some (.int _) => true
    | some .string => true
    | some (.slice e) => S.contains e && decide (0 < P.cellsOf e)
    | some (.struct fs) => fs.toList.all fun f => S.contains f.type
    | _ => false

/-- Cells of a type. -/
def WT (P : Program) : Nat → TypeId → List V → Prop
  | 0, _, _ => False
  | n + 1, t, cs =>
    match P.underlying t with
    | some (.int .i64) => ∃ z, cs = [.int z] ∧ (Lit.int .i64 z).wf = true
    | some (.int k) => ∃ z, cs = [.ik k z] ∧ (Lit.int k z).wf = true
    | some .bool => ∃ b, cs = [.bool b]
    | some .string => ∃ s : ByteArray, cs = [.str s] ∧ s.size ≤ maxLen
    | some (.slice e) => ∃ es, cs = [.vec .plain (shOf P e) es] ∧ es.length ≤ maxLen ∧ ∀ v ∈ es, Shaped (shOf P e) v ∧ WT P n e (AM.cellsOf v)
    | some (.struct fs) => cs.length = P.cellsOf t ∧ ∀ f ∈ fs.toList, WT P n f.type ((cs.drop f.offset).take (P.cellsOf f.type))
    | _ => False

section
variable {H : Type} {enc : TypeId × Value → H} {P : Program} {w : World} {sp : Nat → Bool} {held : Bool}

/-- What lies below the heap's end. -/
abbrev prW (w : World) : Nat → Nat → Prop := fun b _ => b < w.heap.size

/-- Cells and what they stand for. -/
def CellsRep (w : World) (vs : List V) (cs : List Value) : Prop :=
  vs.length = cs.length ∧ ∀ i, i < cs.length → (cs.getD i undef).oneCell' = true ∧ VRep w (prW w) [] (vs.getD i .undef) (cs.getD i undef)

theorem cellsRep_one {v : V} {c : Value} (h1 : c.oneCell' = true) (h : VRep w (prW w) [] v c) : CellsRep w [v] [c] := by
  refine ⟨rfl, fun i hi => ?_⟩
  have : i = 0 := by simpa using hi
  subst this
  exact ⟨h1, h⟩

theorem cellsRep_append {vs vs' : List V} {cs cs' : List Value} (h : CellsRep w vs cs) (h' : CellsRep w vs' cs') : CellsRep w (vs ++ vs') (cs ++ cs') := by
  refine ⟨by simp [h.1, h'.1], fun i hi => ?_⟩
  rcases Nat.lt_or_ge i cs.length with hlt | hge
  · have e1 : (cs ++ cs').getD i undef = cs.getD i undef := by rw [List.getD_eq_getElem?_getD, List.getElem?_append_left hlt, ← List.getD_eq_getElem?_getD]
    have e2 : (vs ++ vs').getD i .undef = vs.getD i .undef := by rw [List.getD_eq_getElem?_getD, List.getElem?_append_left (by rw [h.1]; exact hlt), ← List.getD_eq_getElem?_getD]
    rw [e1, e2]; exact h.2 i hlt
  · have e1 : (cs ++ cs').getD i undef = cs'.getD (i - cs.length) undef := by rw [List.getD_eq_getElem?_getD, List.getElem?_append_right hge, ← List.getD_eq_getElem?_getD]
    have e2 : (vs ++ vs').getD i .undef = vs'.getD (i - cs.length) .undef := by rw [List.getD_eq_getElem?_getD, List.getElem?_append_right (by rw [h.1]; exact hge), h.1, ← List.getD_eq_getElem?_getD]
    rw [e1, e2]; exact h'.2 _ (by simp at hi; omega)

theorem known_spec {S : List TypeId} (hS : knownB P S = true) {t : TypeId} (ht : t ∈ S) : t < P.types.size ∧ (P.underlying t = some .bool ∨ (∃ k, P.underlying t = some (.int k)) ∨ P.underlying t = some .string ∨
    (∃ e, P.underlying t = some (.slice e) ∧ e ∈ S ∧ 0 < P.cellsOf e) ∨ ∃ fs, P.underlying t = some (.struct fs) ∧ ∀ f ∈ fs.toList, f.type ∈ S) := by
  have := List.all_eq_true.1 hS t ht
  simp only [Bool.and_eq_true, decide_eq_true_eq] at this
  refine ⟨this.1, ?_⟩
  have h2 := this.2
  split at h2
  · rename_i h; exact .inl h
  · rename_i h; exact .inr (.inl ⟨_, h⟩)
  · rename_i h; exact .inr (.inr (.inl h))
  · rename_i e h
    simp only [Bool.and_eq_true, decide_eq_true_eq, List.contains_iff_mem] at h2
    exact .inr (.inr (.inr (.inl ⟨e, h, h2.1, h2.2⟩)))
  · rename_i fs h
    simp only [List.all_eq_true, List.contains_iff_mem] at h2
    exact .inr (.inr (.inr (.inr ⟨fs, h, h2⟩)))
  · cases h2

theorem notAgg_cells {v : V} (h : ∀ c, v ≠ .agg c) : AM.cellsOf v = [v] := by
  cases v <;> first | rfl | exact absurd rfl (h _)

theorem sum_take_le {α : Type} (f : α → Nat) : ∀ (l : List α) (j : Nat) (x : α), l[j]? = some x → ((l.take j).map f).sum + f x ≤ (l.map f).sum
  | [], j, x, h => by simp at h
  | y :: l, 0, x, h => by simp at h; subst h; simp
  | y :: l, j + 1, x, h => by
    have := sum_take_le f l j x (by simpa using h)
    simp only [List.take_succ_cons, List.map_cons, List.sum_cons]
    omega

/-- One more for a struct. -/
def isStr (P : Program) (t : TypeId) : Nat := match P.underlying t with | some (.struct _) => 1 | _ => 0

theorem fields_rep {n : Nat} {S' : List TypeId} (ih : ∀ t cs (x : DataW H × List MemPlace), DataW.trod enc P w 0 sp held n t cs = some x → t ∈ S' → ∃ vs, WT P n t vs ∧ cs.length = P.cellsOf t ∧ CellsRep w vs cs ∧ (∀ v ∈ vs, ∀ c, v ≠ .agg c) ∧ bulkL vs + isStr P t ≤ bulkD x.1) (cs : List Value) :
    ∀ (fs : List Field) (off : Nat) (xs : List (DataW H × List MemPlace)), (∀ (j : Nat) f, fs[j]? = some f → f.offset = off + ((fs.take j).map fun f => P.cellsOf f.type).sum) → (∀ f ∈ fs, f.type ∈ S') → xs.length = fs.length →
      (∀ (i : Nat) (f : Field), fs[i]? = some f → DataW.trod enc P w 0 sp held n f.type ((cs.drop f.offset).take (P.cellsOf f.type)) = xs[i]?) → cs.length = off + (fs.map fun f => P.cellsOf f.type).sum →
      ∃ vs, (∀ f ∈ fs, WT P n f.type ((vs.drop (f.offset - off)).take (P.cellsOf f.type))) ∧ CellsRep w vs (cs.drop off) ∧ (∀ v ∈ vs, ∀ c, v ≠ .agg c) ∧ bulkL vs ≤ bulkDs (xs.map (·.1))
  | [], off, xs, _, _, hx, _, hl => by
    refine ⟨[], (fun f hf => by cases hf), ⟨by simp at hl ⊢; omega, fun i hi => by simp at hl hi; omega⟩, (fun v hv => by cases hv), by simp [bulkL]⟩
  | f :: fs, off, [], _, _, hx, _, _ => by simp at hx
  | f :: fs, off, x :: xs, hoff, hS, hx, hel, hl => by
    have h0 : f.offset = off := by simpa using hoff 0 f rfl
    obtain ⟨vs0, k1, k2, k3, k4, k5⟩ := ih f.type _ x (by simpa using hel 0 f rfl) (hS f (by simp))
    simp only [List.map_cons, List.sum_cons] at hl
    obtain ⟨vs1, j1, j2, j3, j4⟩ := fields_rep ih cs fs (off + P.cellsOf f.type) xs (fun j g hg => by
      have := hoff (j + 1) g (by simpa using hg)
      simp only [List.take_succ_cons, List.map_cons, List.sum_cons] at this
      omega) (fun g hg => hS g (by simp [hg])) (by simpa using hx) (fun i g hg => by simpa using hel (i + 1) g (by simpa using hg)) (by omega)
    have hv0 : vs0.length = P.cellsOf f.type := by rw [k3.1, k2]
    refine ⟨vs0 ++ vs1, fun g hg => ?_, ?_, fun v hv => ?_, ?_⟩
    · rcases List.mem_cons.1 hg with rfl | hg
      · rw [h0, Nat.sub_self, List.drop_zero, List.take_append_of_le_length (by omega), List.take_of_length_le (by omega)]
        exact k1
      · obtain ⟨j, hj, hjg⟩ := List.mem_iff_getElem.1 hg
        have hge := hoff (j + 1) g (by simp [hj, hjg])
        simp only [List.take_succ_cons, List.map_cons, List.sum_cons] at hge
        have e : (vs0 ++ vs1).drop (g.offset - off) = vs1.drop (g.offset - (off + P.cellsOf f.type)) := by
          rw [List.drop_append, hv0, List.drop_of_length_le (by omega), List.nil_append]
          congr 1; omega
        rw [e]; exact j1 g hg
    · have e : cs.drop off = (cs.drop f.offset).take (P.cellsOf f.type) ++ cs.drop (off + P.cellsOf f.type) := by
        rw [h0, ← List.drop_drop, List.take_append_drop]
      rw [e]
      exact cellsRep_append k3 j2
    · rcases List.mem_append.1 hv with h | h
      · exact k4 v h
      · exact j3 v h
    · simp only [bulkL_append, List.map_cons, bulkDs]
      omega

theorem trod_rep (hl : laidOutB P = true) {S : List TypeId} (hS : knownB P S = true) : ∀ (n : Nat) (t : TypeId) (cs : List Value) (x : DataW H × List MemPlace), DataW.trod enc P w 0 sp held n t cs = some x → t ∈ S →
    ∃ vs, WT P n t vs ∧ cs.length = P.cellsOf t ∧ CellsRep w vs cs ∧ (∀ v ∈ vs, ∀ c, v ≠ .agg c) ∧ bulkL vs + isStr P t ≤ bulkD x.1 := by
  intro n
  induction n with
  | zero => intro t cs x h; simp [DataW.trod] at h
  | succ n ih =>
    intro t cs x h htS
    obtain ⟨ht, hk⟩ := known_spec hS htS
    have hone : ∀ d, P.underlying t = some d → (∀ fs, d ≠ .struct fs) → (∀ n e, d ≠ .array n e) → P.cellsOf t = 1 := by
      intro d hd h1 h2
      have := rowFine_of hl ht
      simp only [rowFine, isVar, ht, hd, decide_true, Bool.true_and] at this
      cases d <;> simp_all [kindOk]
    rcases hk with hu | ⟨k, hu⟩ | hu | ⟨e, hu, heS, hpos⟩ | ⟨fs, hu, hfs⟩
    · obtain ⟨b, rfl, rfl⟩ := DataW.trod_bool hu h
      refine ⟨[.bool b], ?_, (hone _ hu (by simp) (by simp)).symm, cellsRep_one rfl (.bool b), by simp, by simp [bulkL, bulkV, bulkD, isStr, hu]⟩
      simp only [WT, hu]
      exact ⟨b, rfl⟩
    · obtain ⟨z, rfl, rfl, hw⟩ := DataW.trod_int hu h
      by_cases hk : k = .i64
      · subst hk
        refine ⟨[.int z], ?_, (hone _ hu (by simp) (by simp)).symm, cellsRep_one rfl (.int z), by simp, by simp [bulkL, bulkV, bulkD, isStr, hu]⟩
        simp only [WT, hu]
        exact ⟨z, rfl, hw⟩
      · refine ⟨[.ik k z], ?_, (hone _ hu (by simp) (by simp)).symm, cellsRep_one rfl (.ik k z), by simp, by simp [bulkL, bulkV, bulkD, isStr, hu]⟩
        simp only [WT, hu]
        cases k <;> first | exact absurd rfl hk | exact ⟨z, rfl, hw⟩
    · obtain ⟨s, rfl, rfl, hs⟩ := DataW.trod_string hu h
      refine ⟨[.str s], ?_, (hone _ hu (by simp) (by simp)).symm, cellsRep_one rfl (.str s), by simp, ?_⟩
      · simp only [WT, hu]
        exact ⟨s, rfl, hs⟩
      · simp [bulkL, bulkV, bulkD, isStr, hu]
    · rcases DataW.trod_slice hu h with ⟨rfl, rfl⟩ | ⟨a, len, cap, elems, rest, m, hm, rfl, rfl, _, hle, hmax, hlen, hel, _, _⟩
      · refine ⟨[.vec .plain (shOf P e) []], ?_, (hone _ hu (by simp) (by simp)).symm, cellsRep_one rfl (.vecE _ _ _ _ (by simp) (by simp)), by simp, by simp [bulkL, bulkV, bulkD, isStr, hu]⟩
        simp only [WT, hu]
        exact ⟨[], rfl, by simp, by simp⟩
      · have hm' : n = m := by omega
        subst hm'
        have each : ∀ i, i < len → ∃ (v : V) (f : Nat → Value) (y : DataW H × List MemPlace), elems[i]? = some y ∧ Shaped (shOf P e) v ∧ WT P n e (AM.cellsOf v) ∧ bulkV v ≤ bulkD y.1 + 0 ∧
            ∀ j, j < (shOf P e).sz → w.cell? ((a.add (i * P.cellsOf e)).add j) = some (f j) ∧ (f j).oneCell' = true ∧ VRep w (prW w) [] (cellAt v j) (f j) := by
          intro i hi
          have hei := hel i hi
          have hsome : elems[i]? = some elems[i] := by simp [hlen, hi]
          rw [hsome] at hei
          obtain ⟨cs', hc, hd⟩ := Option.bind_eq_some_iff.1 hei
          obtain ⟨_, hcl, hcell⟩ := World.cells?_some hc
          obtain ⟨vs, k1, k2, k3, k4, k5⟩ := ih e cs' _ hd heS
          obtain ⟨hte, hke⟩ := known_spec hS heS
          have hvl : vs.length = P.cellsOf e := by rw [k3.1, k2]
          have hcells : ∀ j, j < P.cellsOf e → w.cell? ((a.add (i * P.cellsOf e)).add j) = some (cs'.getD j undef) := fun j hj => by
            rw [hcell j hj, List.getD_eq_getElem?_getD, List.getElem?_eq_getElem (by omega)]; rfl
          by_cases hst : ∃ fs, P.underlying e = some (.struct fs)
          · obtain ⟨fs, hfs⟩ := hst
            have hsh : shOf P e = some (P.cellsOf e) := by simp only [shOf, hfs]; rfl
            refine ⟨.agg vs, fun j => cs'.getD j undef, _, hsome, by rw [hsh]; exact hvl, k1, ?_, fun j hj => ?_⟩
            · -- one more for the struct itself
              simpa [bulkV, isStr, hfs] using k5
            · rw [hsh] at hj
              exact ⟨hcells j hj, (k3.2 j (by rw [k2]; exact hj)).1, (k3.2 j (by rw [k2]; exact hj)).2⟩
          · have hsh : shOf P e = none := by
              rcases hke with h | ⟨k, h⟩ | h | ⟨e', h, _⟩ | ⟨fs, h, _⟩ <;> first | (simp only [shOf, h]; done) | exact absurd ⟨_, h⟩ hst
            have h1 : P.cellsOf e = 1 := by
              have := rowFine_of hl hte
              rcases hke with h | ⟨k, h⟩ | h | ⟨e', h, _⟩ | ⟨fs, h, _⟩
              · simp [rowFine, isVar, hte, h, kindOk] at this; exact this
              · simp [rowFine, isVar, hte, h, kindOk] at this; exact this
              · simp [rowFine, isVar, hte, h, kindOk] at this; exact this
              · simp [rowFine, isVar, hte, h, kindOk] at this; exact this.2
              · exact absurd ⟨_, h⟩ hst
            rw [h1] at hvl
            obtain ⟨v, rfl⟩ : ∃ v, vs = [v] := List.length_eq_one_iff.1 hvl
            have hna := k4 v (by simp)
            have hcv := notAgg_cells hna
            refine ⟨v, fun j => cs'.getD j undef, _, hsome, ?_, by rw [hcv]; exact k1, (by simp only [bulkL] at k5; omega), fun j hj => ?_⟩
            · rw [hsh]
              cases v <;> first | trivial | exact absurd rfl (hna _)
            · rw [hsh] at hj
              have : j = 0 := by simpa [Sh.sz] using hj
              subst this
              refine ⟨hcells 0 (by omega), (k3.2 0 (by omega)).1, ?_⟩
              have := (k3.2 0 (by omega)).2
              unfold cellAt
              rw [hcv]; exact this
        refine ⟨[.vec .plain (shOf P e) ((List.range len).map fun i => if hi : i < len then (each i hi).choose else .undef)], ?_, (hone _ hu (by simp) (by simp)).symm, cellsRep_one rfl ?_, by simp, ?_⟩
        · simp only [WT, hu]
          refine ⟨_, rfl, by simp; omega, fun v hv => ?_⟩
          obtain ⟨i, hi, rfl⟩ := List.mem_map.1 hv
          have hi := List.mem_range.1 hi
          rw [dif_pos hi]
          obtain ⟨f, y, _, h2, h3, _⟩ := (each i hi).choose_spec
          exact ⟨h2, h3⟩
        · have hget : ∀ i, i < len → ((List.range len).map fun i => if hi : i < len then (each i hi).choose else V.undef).getD i .undef = if hi : i < len then (each i hi).choose else V.undef := fun i hi => by
            simp [List.getD_eq_getElem?_getD, hi]
          by_cases h0 : len = 0
          · subst h0
            exact .vecE _ _ _ _ (by simp) (by simp)
          · have hsz : 0 < (shOf P e).sz := by
              obtain ⟨hte, hke⟩ := known_spec hS heS
              rcases hke with h | ⟨k, h⟩ | h | ⟨e', h, _⟩ | ⟨fs, h, _⟩ <;> simp only [shOf, h, Sh.sz] <;> first | exact Nat.one_pos | exact hpos
            have hspot : a.spot = none := by
              obtain ⟨f, y, _, _, _, _, h5⟩ := (each 0 (by omega)).choose_spec
              have := (h5 0 hsz).1
              simp only [Nat.zero_mul, Addr.add, if_true] at this
              unfold World.cell? at this
              split at this
              · split at this
                · cases this
                · rename_i hs; simpa using hs
              · cases this
            have hsze : (shOf P e).sz = P.cellsOf e := by
              obtain ⟨hte, hke⟩ := known_spec hS heS
              have hr := rowFine_of hl hte
              rcases hke with h | ⟨k, h⟩ | h | ⟨e', h, _⟩ | ⟨fs, h, _⟩
              · simp [rowFine, isVar, hte, h, kindOk] at hr; simp only [shOf, h, Sh.sz]; exact hr.symm
              · simp [rowFine, isVar, hte, h, kindOk] at hr; simp only [shOf, h, Sh.sz]; exact hr.symm
              · simp [rowFine, isVar, hte, h, kindOk] at hr; simp only [shOf, h, Sh.sz]; exact hr.symm
              · simp [rowFine, isVar, hte, h, kindOk] at hr; simp only [shOf, h, Sh.sz]; exact hr.2.symm
              · simp only [shOf, h, Sh.sz]; rfl
            have hadd : ∀ i j, (a.add (i * P.cellsOf e)).add j = ⟨a.block, a.off + (i * (shOf P e).sz + j), none⟩ := fun i j => by
              obtain ⟨b, o, s⟩ := a
              simp only at hspot
              subst hspot
              rw [add_plain', add_plain', hsze, Nat.add_assoc]
            have hlen2 : ((List.range len).map fun i => if hi : i < len then (each i hi).choose else V.undef).length = len := by simp
            have hlift : Value.slice (some a) len cap = Value.slice (some a) ((List.range len).map fun i => if hi : i < len then (each i hi).choose else V.undef).length cap := by rw [hlen2]
            rw [hlift]
            refine .vec .plain _ _ a cap (fun i j => if hi : i < len then (each i hi).choose_spec.choose j else undef) (by simp) (by simp) (by rw [hlen2]; exact hle) hspot (fun i j hi hj => ?_) (fun i hi => ?_) fun i j hi hj => ?_
            · rw [hlen2] at hi
              obtain ⟨y, _, _, _, _, h5⟩ := (each i hi).choose_spec.choose_spec
              obtain ⟨h6, h7, h8⟩ := h5 j hj
              rw [hadd] at h6
              simp only [dif_pos hi]
              refine ⟨h6, ?_, h7⟩
              show a.block < w.heap.size
              unfold World.cell? at h6
              simp only at h6
              cases hh : w.heap[a.block]? with
              | none => rw [hh] at h6; cases h6
              | some o => exact (Array.getElem?_eq_some_iff.1 hh).1
            · rw [hlen2] at hi
              rw [hget i hi, dif_pos hi]
              obtain ⟨f, y, _, h2, _⟩ := (each i hi).choose_spec
              exact h2
            · rw [hlen2] at hi
              rw [hget i hi, dif_pos hi]
              obtain ⟨y, _, _, _, _, h5⟩ := (each i hi).choose_spec.choose_spec
              simp only [dif_pos hi]
              exact (h5 j hj).2.2
        · have hsum : ∀ k, k ≤ len → bulkL ((List.range k).map fun i => if hi : i < len then (each i hi).choose else V.undef) ≤ bulkDs ((elems.take k).map (·.1)) := by
            intro k
            induction k with
            | zero => intro _; simp [bulkL]
            | succ k ihk =>
              intro hk
              have hi : k < len := by omega
              obtain ⟨f, y, h1, _, _, h4, _⟩ := (each k hi).choose_spec
              have hlt : k < elems.length := by omega
              have ey : elems[k] = y := by
                have := List.getElem?_eq_getElem hlt
                rw [h1] at this; exact (Option.some.inj this).symm
              rw [List.range_succ, List.map_append, bulkL_append, List.take_succ_eq_append_getElem hlt, List.map_append, bulkDs_append]
              have := ihk (by omega)
              simp only [List.map_cons, List.map_nil, bulkL, bulkDs, dif_pos hi, ey]
              omega
          have := hsum len (Nat.le_refl _)
          rw [List.take_of_length_le (by omega)] at this
          simp only [bulkL, bulkV, bulkD, isStr, hu]
          omega
    · obtain ⟨xs, m, hm, rfl, hcl, hxl, hel⟩ := DataW.trod_struct hu h
      have hm' : n = m := by omega
      subst hm'
      obtain ⟨h1, h2, h3⟩ := kid_struct hl ht hu
      obtain ⟨vs, k1, k2, k3, k4⟩ := fields_rep ih cs fs.toList 0 xs (fun j f hf => by rw [h3 j f hf]; omega) hfs (by simpa using hxl) (fun i f hf => hel i f (by rw [← hf, Array.getElem?_toList])) (by rw [hcl, h2]; omega)
      rw [List.drop_zero] at k2
      refine ⟨vs, ?_, hcl, k2, k3, ?_⟩
      · simp only [WT, hu]
        exact ⟨by rw [k2.1, hcl], fun f hf => by simpa using k1 f hf⟩
      · simp only [bulkD, isStr, hu]; omega
end
end Go.AM

/-! A law's row, out of what the abstract machine tells. -/
namespace Go.AM
open Go Go.RowKit Go.ChangeShapes Go.WideShapes

/-- Arguments of types. -/
def WArgs (P : Program) : List TypeId → List V → Prop
  | [], [] => True
  | t :: ts, v :: vs => (∃ n, WT P n t (AM.cellsOf v)) ∧ Shaped (shOf P t) v ∧ WArgs P ts vs
  | _, _ => False

section
variable {H : Type} {enc : TypeId × Value → H} {P : Program} {w : World} {sp : Nat → Bool} {held : Bool} {cfg : Cfg} {ext : Ext}

theorem arg_rep (hl : laidOutB P = true) {S : List TypeId} (hS : knownB P S = true) {t : TypeId} (ht : t ∈ S) {v : Value} {d : DataW H} {ps : List MemPlace} {b0 : Nat} (hv : Value.okWide P w .any b0 t v) (h : DataW.Trod enc P w 0 sp held t v d ps) :
    ∃ u, (∃ n, WT P n t (AM.cellsOf u)) ∧ Shaped (shOf P t) u ∧ VRep w (prW w) [] u v ∧ bulkV u ≤ bulkD d := by
  obtain ⟨n, hn⟩ := h
  obtain ⟨vs, k1, k2, k3, k4, k5⟩ := trod_rep hl hS n t _ _ hn ht
  obtain ⟨hts, hk⟩ := known_spec hS ht
  have scalar : (∀ cs, v ≠ .agg cs) → shOf P t = none → ∃ u, (∃ n, WT P n t (AM.cellsOf u)) ∧ Shaped (shOf P t) u ∧ VRep w (prW w) [] u v ∧ bulkV u ≤ bulkD d := by
    intro hna hsh
    have hc : v.cells.toList = [v] := by cases v <;> first | rfl | exact absurd rfl (hna _)
    rw [hc] at k2 k3
    have hvl : vs.length = 1 := k3.1
    obtain ⟨u, rfl⟩ : ∃ v, vs = [v] := List.length_eq_one_iff.1 hvl
    have hna' := k4 u (by simp)
    refine ⟨u, ⟨n, by rw [notAgg_cells hna']; exact k1⟩, ?_, ?_, ?_⟩
    · rw [hsh]
      cases u <;> first | trivial | exact absurd rfl (hna' _)
    · exact (k3.2 0 (by simp)).2
    · simp only [bulkL] at k5; omega
  rcases hk with hu | ⟨k, hu⟩ | hu | ⟨e, hu, _⟩ | ⟨fs, hu, _⟩
  · obtain ⟨b, rfl⟩ := okWide_bool hu hv
    exact scalar (by simp) (by simp only [shOf, hu])
  · obtain ⟨z, rfl⟩ := okWide_int hu hv
    exact scalar (by simp) (by simp only [shOf, hu])
  · obtain ⟨s, rfl⟩ := okWide_string hu hv
    exact scalar (by simp) (by simp only [shOf, hu])
  · obtain ⟨a, l, c, rfl⟩ := okWide_slice hu hv
    exact scalar (by simp) (by simp only [shOf, hu])
  · obtain ⟨cs, rfl, hsz⟩ := okWide_struct hu hv
    have hsh : shOf P t = some (P.cellsOf t) := by simp only [shOf, hu]; rfl
    have hcs : (Value.agg cs).cells.toList = cs.toList := rfl
    rw [hcs] at k2 k3
    refine ⟨.agg vs, ⟨n, k1⟩, by rw [hsh]; show vs.length = _; rw [k3.1, k2], .agg vs cs (by rw [k3.1]; simp) (fun i hi => ?_) (fun i hi => ?_), ?_⟩
    · have := (k3.2 i (by rw [← k3.1]; exact hi)).1
      simpa [Array.getD_eq_getD_getElem?, List.getD_eq_getElem?_getD] using this
    · have := (k3.2 i (by rw [← k3.1]; exact hi)).2
      simpa [Array.getD_eq_getD_getElem?, List.getD_eq_getElem?_getD] using this
    · simpa [bulkV, isStr, hu] using k5

theorem args_rep' (hl : laidOutB P = true) {S : List TypeId} (hS : knownB P S = true) {b0 : Nat} : ∀ (ts : List TypeId) (as : List Value) (ds : List (DataW H)) (ps : List MemPlace), (∀ t ∈ ts, t ∈ S) → (∀ (j : Nat) t v, ts[j]? = some t → as[j]? = some v → Value.okWide P w .any b0 t v) →
    DataW.TrodAll enc P w 0 sp held ts as ds ps → ∃ us, WArgs P ts us ∧ us.length = as.length ∧ (∀ i, i < us.length → VRep w (prW w) [] (us.getD i .undef) (as.getD i undef)) ∧ bulkL us ≤ bulkDs ds
  | [], as, ds, ps, _, _, h => by
    obtain ⟨rfl, rfl, rfl⟩ := trodAll_nil h
    exact ⟨[], trivial, rfl, fun i hi => by simp at hi, by simp [bulkL]⟩
  | t :: ts, as, ds, ps, hS', hv, h => by
    obtain ⟨v, vs, d, ds', p, q, rfl, rfl, rfl, h1, h2⟩ := trodAll_cons h
    obtain ⟨u, k1, k2, k3, k4⟩ := arg_rep hl hS (hS' t (by simp)) (hv 0 t v rfl rfl) h1
    obtain ⟨us, j1, j2, j3, j4⟩ := args_rep' hl hS ts vs ds' q (fun t h => hS' t (by simp [h])) (fun j t v h1 h2 => hv (j + 1) t v (by simpa using h1) (by simpa using h2)) h2
    refine ⟨u :: us, ⟨k1, k2, j1⟩, by simp [j2], fun i hi => ?_, by simp only [bulkL, bulkDs]; omega⟩
    cases i with
    | zero => simpa using k3
    | succ i => simpa using j3 i (by simpa using hi)

/-- What a call owns at its start: nothing; what there is stays. -/
def own0 (w : World) : Own := fun b _ => if b < w.heap.size then .pr else .free

theorem own0_pr {b i : Nat} : own0 w b i = .pr ↔ b < w.heap.size := by
  unfold own0; split <;> simp_all

theorem sto0 (P : Program) (cfg : Cfg) (w : World) : Sto P cfg w.heap.size w (own0 w) [] [] :=
  ⟨rfl, (fun r x b h => by simp at h), (fun b i h => by unfold own0 at h; split at h <;> simp_all), (fun b i h1 h2 => by unfold own0 at h1 h2; split at h1 <;> simp_all), Nat.le_refl _⟩

theorem flat0 (w : World) : Flat (own0 w) := fun b i => by
  unfold own0
  split
  · exact .inr (.inl rfl)
  · exact .inl rfl

/-- The law's call. -/
theorem law_calls (hm : P.follows .mixedOrders = true) (hP : PlainNames P) (hE : ExtOK P cfg ext) (hl : laidOutB P = true) {S : List TypeId} (hS : knownB P S = true) {f : FuncId} {ts : List TypeId} (hts : ∀ t ∈ ts, t ∈ S) {B : Nat}
    (hpure : ∀ us, WArgs P ts us → bulkL us ≤ B → ∃ m st, (fuelO P cfg ext m).call f us [] = some (.ret (.bool true), st)) {args : Array Value} {ds : List (DataW H)} {ps : List MemPlace} {b0 : Nat}
    (hv : ∀ (j : Nat) t v, ts[j]? = some t → args[j]? = some v → Value.okWide P w .any b0 t v) (h : DataW.TrodAll enc P w 0 sp held ts args.toList ds ps) (hb : bulkDs ds ≤ B) :
    Calls P f args w fun e w' => e = .returned (.bool true) ∧ Below w.heap.size w w' := by
  obtain ⟨us, k1, k2, k3, k4⟩ := args_rep' hl hS ts args.toList ds ps hts (fun j t v h1 h2 => hv j t v h1 (by simpa using h2)) h
  obtain ⟨m, st, hc⟩ := hpure us k1 (Nat.le_trans k4 hb)
  obtain ⟨_, hcalls⟩ := call_sound hm hP hE m f us [] _ hc
  have hA : Args w (own0 w) [] us args := by
    refine ⟨by simpa using k2, fun i hi => ?_⟩
    have := (k3 i hi).mono (w' := w) (pr' := prOf (own0 w)) (μ' := []) (fun b i e => ⟨own0_pr.2 e, rfl⟩) fun _ _ h => h
    simpa [Array.getD_eq_getD_getElem?, List.getD_eq_getElem?_getD] using this
  refine ((hcalls 0 w.heap.size w (own0 w) [] args (sto0 P cfg w) (flat0 w) hA).calls room_wide).mono fun e w' hpost => ?_
  obtain ⟨c, own', μ', _, h2, h3⟩ := hpost
  obtain ⟨rfl, hV⟩ := h3
  exact ⟨by rw [hV.bool_inv], h2.below⟩

theorem trodAll_below (hl : laidOutB P = true) {w' : World} (hb : Below w.heap.size w w') : ∀ (ts : List TypeId) (as : List Value) (ds : List (DataW H)) (ps : List MemPlace), (ts.all fun t => P.readableRec t && decide (t < P.types.size)) = true →
    DataW.TrodAll enc P w 0 (fun _ => true) true ts as ds ps → DataW.TrodAll enc P w' 0 (fun b => decide (b < w.heap.size)) true ts as ds ps
  | [], as, ds, ps, _, h => by
    obtain ⟨rfl, rfl, rfl⟩ := trodAll_nil h
    exact trodAll_mk0
  | t :: ts, as, ds, ps, hr, h => by
    obtain ⟨v, vs, d, ds', p, q, rfl, rfl, rfl, h1, h2⟩ := trodAll_cons h
    simp only [List.all_cons, Bool.and_eq_true, decide_eq_true_eq] at hr
    have lt : ∀ x ∈ p, x.block < w.heap.size := by obtain ⟨m, hm⟩ := h1; exact DataW.trod_lt m _ _ _ hm
    exact trodAll_cons_mk (Below.trod hl hr.1.1 hr.1.2 h1 hb lt) (trodAll_below hl hb ts vs ds' q (by simpa using hr.2) h2)

/-- **A law's contract.** -/
theorem law_contract (hm : P.follows .mixedOrders = true) (hP : PlainNames P) (hE : ExtOK P cfg ext) (hl : laidOutB P = true) {S : List TypeId} (hS : knownB P S = true) {f : FuncId} {fn : Func} {ts : List TypeId} (hpar : fn.params.toList = ts) (hts : ∀ t ∈ ts, t ∈ S)
    (hrd : (ts.all fun t => P.readableRec t && decide (t < P.types.size)) = true) {rt : TypeId} (hrt : fn.resultTypes = #[rt]) (hbool : P.underlying rt = some .bool) {B : Nat}
    (hpure : ∀ us, WArgs P ts us → bulkL us ≤ B → ∃ m st, (fuelO P cfg ext m).call f us [] = some (.ret (.bool true), st)) {s : ChangeSpec} (hvars : s.vars = []) {args : Array Value} {ds gs : List (DataW H)} {before : List MemPlace} {b0 : Nat}
    (hs : ds.length = ts.length → s.fn H ds = { results := [.lit (.bool true)], args := ds })
    (hv : ∀ (j : Nat) t v, fn.params[j]? = some t → args[j]? = some v → Value.okWide P w .any b0 t v) (hW : DataW.Whole enc P fn.params.toList s.vars false w args.toList ds gs before) (hb : bulkDs (ds ++ gs) ≤ B) :
    Calls P f args w fun e w' => ∃ v, e = .returned v ∧ s.post enc P fn false true false false w args v w' := by
  have hW' := hW
  obtain ⟨p, q, hA, hV, rfl, hfz, hnd⟩ := hW
  rw [hvars] at hV
  obtain ⟨rfl, rfl⟩ := trodVars_none hV
  rw [hpar] at hA
  rw [List.append_nil] at hb
  have hlen : ds.length = ts.length := by
    have : ∀ (ts : List TypeId) (as : List Value) (ds : List (DataW H)) (ps : List MemPlace), DataW.TrodAll enc P w 0 (fun _ => true) true ts as ds ps → ds.length = ts.length := by
      intro ts
      induction ts with
      | nil => intro as ds ps h; obtain ⟨_, rfl, _⟩ := trodAll_nil h; rfl
      | cons t ts ih => intro as ds ps h; obtain ⟨v, vs, d, ds', p, q, rfl, rfl, rfl, h1, h2⟩ := trodAll_cons h; simp [ih _ _ _ h2]
    exact this _ _ _ _ hA
  refine (law_calls hm hP hE hl hS hts hpure (fun j t v h1 h2 => hv j t v (by rw [← hpar, Array.getElem?_toList] at h1; exact h1) h2) hA hb).mono fun e w' ⟨he, bel⟩ => ?_
  subst he
  have hsf : s.fn H (ds ++ []) = { results := [.lit (.bool true)], args := ds } := by rw [List.append_nil]; exact hs hlen
  refine ⟨_, rfl, ds, [], _, [], p, [], hW', ?_, ?_, ?_, bel.frame _, fun h => by cases h⟩
  · rw [hsf, hrt]
    exact trodAll_mk1 (shut_bool hbool _)
  · rw [hsf, hpar]
    exact trodAll_below hl bel _ _ _ _ hrd hA
  · rw [hsf, hvars]
    rfl
end
end Go.AM

/-! Terms, and the loops over their Args. -/
namespace Go.AM
open Go

inductive T where
  | mk (k h : Int) (as : List T)
def T.k : T → Int | .mk k _ _ => k
def T.h : T → Int | .mk _ h _ => h
def T.args : T → List T | .mk _ _ l => l

theorem T.ind {p : T → Prop} (h : ∀ k hd as, (∀ a ∈ as, p a) → p (.mk k hd as)) : ∀ t, p t
  | .mk k hd as => h k hd as (all as)
where all : ∀ as : List T, ∀ a ∈ as, p a
  | b :: bs, a, ha => by
    rcases List.mem_cons.1 ha with e | e
    · rw [e]; exact T.ind h b
    · exact all bs a e

mutual
def enc : T → V
  | .mk k h as => .agg [.int k, .int h, .vec .plain (some 3) (encs as)]
def encs : List T → List V
  | [] => []
  | t :: ts => enc t :: encs ts
end
@[simp] theorem encs_nil : encs [] = [] := rfl
@[simp] theorem encs_cons (t : T) (ts : List T) : encs (t :: ts) = enc t :: encs ts := rfl
theorem encs_map : ∀ ts, encs ts = ts.map enc
  | [] => rfl
  | t :: ts => by rw [encs_cons, encs_map ts]; rfl
@[simp] theorem encs_length (ts : List T) : (encs ts).length = ts.length := by rw [encs_map]; simp
@[simp] theorem encs_append (a b : List T) : encs (a ++ b) = encs a ++ encs b := by simp [encs_map]
theorem enc_eta (t : T) : enc t = .agg [.int t.k, .int t.h, .vec .plain (some 3) (encs t.args)] := by cases t; rfl

/-- 64 bits. -/
def I64 (n : Int) : Prop := -9223372036854775808 ≤ n ∧ n ≤ 9223372036854775807
theorem wrap_id {n : Int} (h : I64 n) : IntKind.i64.wrap n = n := by
  obtain ⟨h1, h2⟩ := h
  show (if (true && decide (n % 2 ^ 64 ≥ 2 ^ 63)) = true then n % 2 ^ 64 - 2 ^ 64 else n % 2 ^ 64) = n
  by_cases hc : n % 2 ^ 64 ≥ 2 ^ 63
  · rw [if_pos (by simpa using hc)]; omega
  · rw [if_neg (by simpa using hc)]; omega

theorem getI_encs {ts : List T} {i : Nat} (h : i < ts.length) : getI (encs ts) (i : Int) = enc ts[i] := by
  simp [getI, encs_map, List.getD_eq_getElem?_getD, h]

mutual
def T.size : T → Nat
  | .mk _ _ as => 1 + sizes as
def sizes : List T → Nat
  | [] => 0
  | t :: ts => t.size + sizes ts
end
mutual
def T.depth : T → Nat
  | .mk _ _ as => depths as + 1
def depths : List T → Nat
  | [] => 0
  | t :: ts => max t.depth (depths ts)
end
theorem size_pos (t : T) : 1 ≤ t.size := by cases t; simp only [T.size]; omega
theorem sizes_append (a b : List T) : sizes (a ++ b) = sizes a + sizes b := by
  induction a with
  | nil => simp [sizes]
  | cons x a ih => simp only [List.cons_append, sizes, ih]; omega
theorem size_le {ts : List T} {t : T} (h : t ∈ ts) : t.size ≤ sizes ts := by
  induction ts with
  | nil => cases h
  | cons x ts ih =>
    simp only [sizes]
    rcases List.mem_cons.1 h with rfl | h
    · omega
    · have := ih h; omega
theorem length_le_sizes : ∀ ts : List T, ts.length ≤ sizes ts
  | [] => by simp
  | t :: ts => by simp only [List.length_cons, sizes]; have := size_pos t; have := length_le_sizes ts; omega
theorem depth_le_size : ∀ t : T, t.depth ≤ t.size := by
  intro t
  induction t using T.ind with
  | _ k h as ih =>
    simp only [T.depth, T.size]
    have : ∀ as : List T, (∀ a ∈ as, a.depth ≤ a.size) → depths as ≤ sizes as := by
      intro as
      induction as with
      | nil => intro _; simp [depths]
      | cons x xs ih =>
        intro h
        have h1 := h x (by simp)
        have h2 := ih fun a ha => h a (by simp [ha])
        simp only [depths, sizes]; omega
    have := this as ih
    omega
mutual
theorem bulk_enc : ∀ t : T, 4 * t.size ≤ bulkV (enc t)
  | .mk k h as => by simp only [T.size, enc, bulkV, bulkL]; have := bulk_encs as; omega
theorem bulk_encs : ∀ ts : List T, 4 * sizes ts ≤ bulkL (encs ts)
  | [] => by simp [sizes]
  | t :: ts => by simp only [sizes, encs_cons, bulkL]; have := bulk_enc t; have := bulk_encs ts; omega
end

mutual
theorem below_enc (n : Nat) : ∀ t : T, below n (enc t) = true
  | .mk k h as => by simp only [enc, below, belowL, Bool.and_true, Bool.true_and]; exact below_encs n as
theorem below_encs (n : Nat) : ∀ ts : List T, belowL n (encs ts) = true
  | [] => rfl
  | t :: ts => by simp only [encs_cons, belowL, below_enc n t, below_encs n ts, Bool.and_true]
end
attribute [simp] below_enc below_encs

/-- Heads and kinds of 64 bits. -/
inductive OkT : T → Prop where
  | mk {k h : Int} {as : List T} (h1 : I64 k) (h2 : I64 h) (h3 : ∀ a ∈ as, OkT a) : OkT (.mk k h as)

/-! ### calls -/
theorem pcall_of {O : Oracle} {f : Nat} {args : List V} {v : V} {st : St} (h : O.call f args [] = some (.ret v, st)) (h1 : belowL 0 args = true) (h2 : below 0 v = true) : pcall O f args = some v := by
  unfold pcall
  rw [h1, h]
  show gd (below 0 v) (some v) = some v
  rw [h2]; rfl

/-- A loop that asks of each. -/
theorem all_loop {α : Type} {L : Int → Option α} {xs : List T} {g : T → Bool} {e0 e1 : α} (hstep : ∀ (i : Nat) (h : i < xs.length), L i = if g xs[i] = true then L ((i + 1 : Nat) : Int) else some e1) (hend : L (xs.length : Nat) = some e0) :
    ∀ i : Nat, i ≤ xs.length → L i = some (if (xs.drop i).all g = true then e0 else e1) := by
  intro i hi
  induction hn : xs.length - i generalizing i with
  | zero =>
    have : i = xs.length := by omega
    subst this
    rw [hend, List.drop_length]; rfl
  | succ n ih =>
    have hlt : i < xs.length := by omega
    rw [hstep i hlt, List.drop_eq_getElem_cons hlt, List.all_cons]
    cases hg : g xs[i] with
    | true =>
      rw [if_pos rfl, ih (i + 1) (by omega) (by omega)]
      simp
    | false => simp

/-- A loop that gathers. -/
theorem fold_loop {α β : Type} {L : Int → β → Option α} {xs : List T} {g : β → T → β} {e : β → α} {p : β → Prop} (hstep : ∀ (i : Nat) (h : i < xs.length) (b : β), p b → L i b = L ((i + 1 : Nat) : Int) (g b xs[i]) ∧ p (g b xs[i])) (hend : ∀ b, p b → L (xs.length : Nat) b = some (e b)) :
    ∀ (i : Nat) (b : β), i ≤ xs.length → p b → L i b = some (e ((xs.drop i).foldl g b)) := by
  intro i b hi hb
  induction hn : xs.length - i generalizing i b with
  | zero =>
    have : i = xs.length := by omega
    subst this
    rw [hend b hb, List.drop_length]; rfl
  | succ n ih =>
    have hlt : i < xs.length := by omega
    obtain ⟨h1, h2⟩ := hstep i hlt b hb
    rw [h1, List.drop_eq_getElem_cons hlt, List.foldl_cons, ih (i + 1) _ (by omega) h2 (by omega)]

/-- A loop that counts. -/
theorem count_loop {α : Type} {L : Nat → Option α} {n : Nat} {r : Option α} (hstep : ∀ i, i < n → L i = L (i + 1)) (hend : L n = r) : L 0 = r := by
  have : ∀ d i, i + d = n → L i = r := by
    intro d
    induction d with
    | zero => intro i h; have : i = n := by omega
              rw [this]; exact hend
    | succ d ih => intro i h; rw [hstep i (by omega)]; exact ih (i + 1) (by omega)
  exact this n 0 (by omega)

theorem take_succ' {α : Type} {l : List α} {i : Nat} (h : i < l.length) : l.take (i + 1) = l.take i ++ [l[i]] := List.take_succ_eq_append_getElem h
theorem sizes_take {l : List T} {i : Nat} (h : i < l.length) : sizes (l.take (i + 1)) = sizes (l.take i) + l[i].size := by
  rw [take_succ' h, sizes_append]; simp [sizes]
theorem depths_append (a b : List T) : depths (a ++ b) = max (depths a) (depths b) := by
  induction a with
  | nil => simp [depths]
  | cons x a ih => simp only [List.cons_append, depths, ih]; omega
theorem depths_take {l : List T} {i : Nat} (h : i < l.length) : depths (l.take (i + 1)) = max (depths (l.take i)) l[i].depth := by
  rw [take_succ' h, depths_append]; simp [depths]
theorem sizes_take_le (l : List T) (i : Nat) : sizes (l.take i) ≤ sizes l := by
  conv => rhs; rw [← List.take_append_drop i l, sizes_append]
  omega
theorem depths_le_sizes (l : List T) : depths l ≤ sizes l := by
  induction l with
  | nil => simp [depths]
  | cons x l ih => simp only [depths, sizes]; have := depth_le_size x; omega

/-! ### the same -/
mutual
def T.same : T → T → Bool
  | .mk k h l, .mk k' h' l' => decide (k = k') && (decide (h = h') && sames l l')
def sames : List T → List T → Bool
  | [], [] => true
  | a :: l, b :: l' => a.same b && sames l l'
  | _, _ => false
end
mutual
theorem same_iff : ∀ a b : T, a.same b = true ↔ a = b
  | .mk k h l, .mk k' h' l' => by simp only [T.same, Bool.and_eq_true, decide_eq_true_eq, sames_iff l l', T.mk.injEq]
theorem sames_iff : ∀ l l' : List T, sames l l' = true ↔ l = l'
  | [], [] => by simp [sames]
  | [], _ :: _ => by simp [sames]
  | _ :: _, [] => by simp [sames]
  | a :: l, b :: l' => by simp only [sames, Bool.and_eq_true, same_iff a b, sames_iff l l', List.cons.injEq]
end
@[simp] theorem same_self (a : T) : a.same a = true := (same_iff a a).2 rfl
@[simp] theorem sames_self (l : List T) : sames l l = true := (sames_iff l l).2 rfl
theorem sames_zip : ∀ {l l' : List T}, l.length = l'.length → sames l l' = (l.zip l').all fun x => x.1.same x.2
  | [], [], _ => rfl
  | a :: l, b :: l', h => by simp only [sames, List.zip_cons_cons, List.all_cons, sames_zip (Nat.succ.inj h)]
  | [], _ :: _, h => by cases h
  | _ :: _, [], h => by cases h
theorem sames_len : ∀ {l l' : List T}, l.length ≠ l'.length → sames l l' = false
  | [], [], h => absurd rfl h
  | a :: l, b :: l', h => by
    simp only [List.length_cons, ne_eq, Nat.add_right_cancel_iff] at h
    simp only [sames, sames_len h, Bool.and_false]
  | [], _ :: _, _ => rfl
  | _ :: _, [], _ => rfl

/-- A loop that asks of each place. -/
theorem all_loop' {α β : Type} {L : Int → Option α} {xs : List β} {g : β → Bool} {e0 e1 : α} (hstep : ∀ (i : Nat) (h : i < xs.length), L i = if g xs[i] = true then L ((i + 1 : Nat) : Int) else some e1) (hend : L (xs.length : Nat) = some e0) :
    L 0 = some (if xs.all g = true then e0 else e1) := by
  have : ∀ i : Nat, i ≤ xs.length → L i = some (if (xs.drop i).all g = true then e0 else e1) := by
    intro i hi
    induction hn : xs.length - i generalizing i with
    | zero =>
      have : i = xs.length := by omega
      subst this
      rw [hend, List.drop_length]; rfl
    | succ n ih =>
      have hlt : i < xs.length := by omega
      rw [hstep i hlt, List.drop_eq_getElem_cons hlt, List.all_cons]
      cases hg : g xs[i] with
      | true =>
        rw [if_pos rfl, ih (i + 1) (by omega) (by omega)]
        simp
      | false => simp
  have := this 0 (by omega)
  rwa [List.drop_zero] at this
theorem bne_int (a b : Int) : (a != b) = !decide (a = b) := by by_cases h : a = b <;> simp [h]
theorem bne_len0 (a : Nat) : ((a : Int) != 0) = !decide (a = 0) := by by_cases h : a = 0 <;> simp [h]
theorem bne_len1 (a : Nat) : ((a : Int) != 1) = !decide (a = 1) := by
  by_cases h : a = 1
  · simp [h]
  · have : (a : Int) ≠ 1 := by omega
    simp [h, this]
theorem bne_len2 (a : Nat) : ((a : Int) != 2) = !decide (a = 2) := by
  by_cases h : a = 2
  · simp [h]
  · have : (a : Int) ≠ 2 := by omega
    simp [h, this]
theorem beq_int (a b : Int) : (a == b) = decide (a = b) := by by_cases h : a = b <;> simp [h]
theorem beq_len0 (a : Nat) : ((a : Int) == 0) = decide (a = 0) := by by_cases h : a = 0 <;> simp [h]
theorem beq_len1 (a : Nat) : ((a : Int) == 1) = decide (a = 1) := by
  by_cases h : a = 1
  · simp [h]
  · have : (a : Int) ≠ 1 := by omega
    simp [h, this]
theorem beq_len2 (a : Nat) : ((a : Int) == 2) = decide (a = 2) := by
  by_cases h : a = 2
  · simp [h]
  · have : (a : Int) ≠ 2 := by omega
    simp [h, this]

section
variable {R : Type}
theorem onCells_nil' (K : CellFn R []) : onCells (R := R) [] [] K = K := rfl
theorem onCells_int' {cs : List CT} {n : Int} {vs : List V} {K : CellFn R (.int :: cs)} : onCells (R := R) (.int :: cs) (.int n :: vs) K = onCells cs vs (K n) := rfl
theorem onCells_bool' {cs : List CT} {n : Bool} {vs : List V} {K : CellFn R (.bool :: cs)} : onCells (R := R) (.bool :: cs) (.bool n :: vs) K = onCells cs vs (K n) := rfl
theorem onCells_str' {cs : List CT} {n : ByteArray} {vs : List V} {K : CellFn R (.str :: cs)} : onCells (R := R) (.str :: cs) (.str n :: vs) K = onCells cs vs (K n) := rfl
theorem onCells_slice' {sh : Sh} {cs : List CT} {es vs : List V} {K : CellFn R (.slice sh :: cs)} : onCells (R := R) (.slice sh :: cs) (.vec .plain sh es :: vs) K = onCells cs vs (K es) := by
  show (if sh = sh then onCells cs vs (K es) else none) = _
  rw [if_pos rfl]
theorem onStruct_agg {cs : List CT} {vs : List V} {K : CellFn R cs} : onStruct (R := R) cs (.agg vs) K = onCells cs vs K := rfl
theorem onVec_plain {sh : Sh} {es : List V} {K : List V → Option R} : onVec sh (.vec .plain sh es) K = K es := by show (if sh = sh then K es else none) = _; rw [if_pos rfl]
theorem onLoc_loc {sh : Sh} {d : Bool} {v : V} {K : Bool → V → Option R} : onLoc sh (.loc d sh v) K = K d v := by show (if sh = sh then K d v else none) = _; rw [if_pos rfl]
theorem onRoom_grow {sh : Sh} {es : List V} {K : List V → Option R} : onRoom sh (.vec .grow sh es) K = K es := by show (if sh = sh then K es else none) = _; rw [if_pos rfl]
theorem obind_some' {α : Type} (x : α) (K : α → Option R) : obind (some x) K = K x := rfl
theorem onInt_int (n : Int) (K : Int → Option R) : onInt (.int n) K = K n := rfl
theorem onBool_bool (n : Bool) (K : Bool → Option R) : onBool (.bool n) K = K n := rfl
theorem onTup_tup (vs : List V) (K : List V → Option R) : onTup (.tup vs) K = K vs := rfl
theorem onCons_cons (v : V) (vs : List V) (K : V → List V → Option R) : onCons (v :: vs) K = K v vs := rfl
theorem onNil_nil (x : Option R) : onNil [] x = x := rfl
theorem onEx_exit (i : Nat) (n r : Option R) (x : Nat → Option R) (p : V → Option R) : onEx (.exit i) n r x p = x i := rfl
theorem onEx_ret (n r : Option R) (x : Nat → Option R) (p : V → Option R) : onEx .ret n r x p = r := rfl
theorem onRet_ret (v : V) (K Pk : V → Option R) : onRet (.ret v) K Pk = K v := rfl
theorem onFn_fn (g : Nat) (a b : List V) (K : Nat → List V → List V → Option R) : onFn (.fn g a b) K = K g a b := rfl
theorem onBox_box (cs : List V) (K : List V → Option R) : onBox (.box cs) K = K cs := rfl
theorem onLoop_loop (f k : Nat) (vs : List V) (s : LSt) (p : Option Ex) (K : Nat → Nat → List V → LSt → Option Ex → Option R) : onLoop (.loop f k vs s p) K = K f k vs s p := rfl
theorem onPend_ready (n r : Option R) (x : Nat → Option R) : onPend .ready none n r x = n := rfl
theorem onPend_ret (n r : Option R) (x : Nat → Option R) : onPend .done (some .ret) n r x = r := rfl
theorem gd_true (x : Option R) : gd true x = x := rfl
theorem bc_true (x y : Option R) : bc true x y = x := rfl
theorem bc_false (x y : Option R) : bc false x y = y := rfl
theorem getR_some {st : St} {q : Nat} {x : Res} (h : st[q]? = some x) (K : Res → Option R) : getR st q K = K x := by unfold getR; rw [h]
end
end Go.AM
