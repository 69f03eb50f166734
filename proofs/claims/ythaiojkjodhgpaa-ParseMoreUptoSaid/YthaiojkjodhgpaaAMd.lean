import Derived.Test.YthaiojkjodhgpaaAMc
/- An abstract machine over tree values that runs the model's code, and its soundness: what it tells of a call, the model does. -/
set_option linter.unusedVariables false
set_option linter.unusedSimpArgs false
set_option linter.unusedSectionVars false
/-! A law's row, out of what the abstract machine tells. -/
namespace Go.AM
open Go Go.RowKit Go.ChangeShapes Go.WideShapes

/-- Arguments of types. -/
def WArgs (P : Program) : List TypeId → List V → Prop
  | [], [] => True
  | t :: ts, v :: vs => (∃ n, WT P n t (AM.cellsOf v)) ∧ Shaped (shOf P t) v ∧ WArgs P ts vs
  | _, _ => False

section
variable {H : Type} {enc : TypeId × Value → H} {P : Program} {w : World} {sp : Nat → Bool} {held : Bool} {cfg : Cfg} {ext : Ext}

theorem arg_rep (hl : laidOutB P = true) {S : List TypeId} (hS : knownB P S = true) {t : TypeId} (ht : t ∈ S) {v : Value} {d : DataW H} {ps : List MemPlace} {b0 : Nat} (hv : Value.okWide P w .any b0 t v) (h : DataW.Trod enc P w 0 sp held t v d ps) :
    ∃ u, (∃ n, WT P n t (AM.cellsOf u)) ∧ Shaped (shOf P t) u ∧ VRep w (prW w) [] u v ∧ bulkV u ≤ bulkD d := by
  obtain ⟨n, hn⟩ := h
  obtain ⟨vs, k1, k2, k3, k4, k5⟩ := trod_rep hl hS n t _ _ hn ht
  obtain ⟨hts, hk⟩ := known_spec hS ht
  have scalar : (∀ cs, v ≠ .agg cs) → shOf P t = none → ∃ u, (∃ n, WT P n t (AM.cellsOf u)) ∧ Shaped (shOf P t) u ∧ VRep w (prW w) [] u v ∧ bulkV u ≤ bulkD d := by
    intro hna hsh
    have hc : v.cells.toList = [v] := by cases v <;> first | rfl | exact absurd rfl (hna _)
    rw [hc] at k2 k3
    have hvl : vs.length = 1 := k3.1
    obtain ⟨u, rfl⟩ : ∃ v, vs = [v] := List.length_eq_one_iff.1 hvl
    have hna' := k4 u (by simp)
    refine ⟨u, ⟨n, by rw [notAgg_cells hna']; exact k1⟩, ?_, ?_, ?_⟩
    · rw [hsh]
      cases u <;> first | trivial | exact absurd rfl (hna' _)
    · exact (k3.2 0 (by simp)).2
    · simp only [bulkL] at k5; omega
  rcases hk with hu | ⟨k, hu⟩ | hu | ⟨e, hu, _⟩ | ⟨fs, hu, _⟩
  · obtain ⟨b, rfl⟩ := okWide_bool hu hv
    exact scalar (by simp) (by simp only [shOf, hu])
  · obtain ⟨z, rfl⟩ := okWide_int hu hv
    exact scalar (by simp) (by simp only [shOf, hu])
  · obtain ⟨s, rfl⟩ := okWide_string hu hv
    exact scalar (by simp) (by simp only [shOf, hu])
  · obtain ⟨a, l, c, rfl⟩ := okWide_slice hu hv
    exact scalar (by simp) (by simp only [shOf, hu])
  · obtain ⟨cs, rfl, hsz⟩ := okWide_struct hu hv
    have hsh : shOf P t = some (P.cellsOf t) := by simp only [shOf, hu]; rfl
    have hcs : (Value.agg cs).cells.toList = cs.toList := rfl
    rw [hcs] at k2 k3
    refine ⟨.agg vs, ⟨n, k1⟩, by rw [hsh]; show vs.length = _; rw [k3.1, k2], .agg vs cs (by rw [k3.1]; simp) (fun i hi => ?_) (fun i hi => ?_), ?_⟩
    · have := (k3.2 i (by rw [← k3.1]; exact hi)).1
      simpa [Array.getD_eq_getD_getElem?, List.getD_eq_getElem?_getD] using this
    · have := (k3.2 i (by rw [← k3.1]; exact hi)).2
      simpa [Array.getD_eq_getD_getElem?, List.getD_eq_getElem?_getD] using this
    · simpa [bulkV, isStr, hu] using k5

theorem args_rep' (hl : laidOutB P = true) {S : List TypeId} (hS : knownB P S = true) {b0 : Nat} : ∀ (ts : List TypeId) (as : List Value) (ds : List (DataW H)) (ps : List MemPlace), (∀ t ∈ ts, t ∈ S) → (∀ (j : Nat) t v, ts[j]? = some t → as[j]? = some v → Value.okWide P w .any b0 t v) →
    DataW.TrodAll enc P w 0 sp held ts as ds ps → ∃ us, WArgs P ts us ∧ us.length = as.length ∧ (∀ i, i < us.length → VRep w (prW w) [] (us.getD i .undef) (as.getD i undef)) ∧ bulkL us ≤ bulkDs ds
  | [], as, ds, ps, _, _, h => by
    obtain ⟨rfl, rfl, rfl⟩ := trodAll_nil h
    exact ⟨[], trivial, rfl, fun i hi => by simp at hi, by simp [bulkL]⟩
  | t :: ts, as, ds, ps, hS', hv, h => by
    obtain ⟨v, vs, d, ds', p, q, rfl, rfl, rfl, h1, h2⟩ := trodAll_cons h
    obtain ⟨u, k1, k2, k3, k4⟩ := arg_rep hl hS (hS' t (by simp)) (hv 0 t v rfl rfl) h1
    obtain ⟨us, j1, j2, j3, j4⟩ := args_rep' hl hS ts vs ds' q (fun t h => hS' t (by simp [h])) (fun j t v h1 h2 => hv (j + 1) t v (by simpa using h1) (by simpa using h2)) h2
    refine ⟨u :: us, ⟨k1, k2, j1⟩, by simp [j2], fun i hi => ?_, by simp only [bulkL, bulkDs]; omega⟩
    cases i with
    | zero => simpa using k3
    | succ i => simpa using j3 i (by simpa using hi)

/-- What a call owns at its start: nothing; what there is stays. -/
def own0 (w : World) : Own := fun b _ => if b < w.heap.size then .pr else .free

theorem own0_pr {b i : Nat} : own0 w b i = .pr ↔ b < w.heap.size := by
  unfold own0; split <;> simp_all

theorem sto0 (P : Program) (cfg : Cfg) (w : World) : Sto P cfg w.heap.size w (own0 w) [] [] :=
  ⟨rfl, (fun r x b h => by simp at h), (fun b i h => by unfold own0 at h; split at h <;> simp_all), (fun b i h1 h2 => by unfold own0 at h1 h2; split at h1 <;> simp_all), Nat.le_refl _⟩

theorem flat0 (w : World) : Flat (own0 w) := fun b i => by
  unfold own0
  split
  · exact .inr (.inl rfl)
  · exact .inl rfl

/-- The law's call. -/
theorem law_calls (hm : P.follows .mixedOrders = true) (hP : PlainNames P) (hE : ExtOK P cfg ext) (hl : laidOutB P = true) {S : List TypeId} (hS : knownB P S = true) {f : FuncId} {ts : List TypeId} (hts : ∀ t ∈ ts, t ∈ S) {B : Nat}
    (hpure : ∀ us, WArgs P ts us → bulkL us ≤ B → ∃ m st, (fuelO P cfg ext m).call f us [] = some (.ret (.bool true), st)) {args : Array Value} {ds : List (DataW H)} {ps : List MemPlace} {b0 : Nat}
    (hv : ∀ (j : Nat) t v, ts[j]? = some t → args[j]? = some v → Value.okWide P w .any b0 t v) (h : DataW.TrodAll enc P w 0 sp held ts args.toList ds ps) (hb : bulkDs ds ≤ B) :
    Calls P f args w fun e w' => e = .returned (.bool true) ∧ Below w.heap.size w w' := by
  obtain ⟨us, k1, k2, k3, k4⟩ := args_rep' hl hS ts args.toList ds ps hts (fun j t v h1 h2 => hv j t v h1 (by simpa using h2)) h
  obtain ⟨m, st, hc⟩ := hpure us k1 (Nat.le_trans k4 hb)
  obtain ⟨_, hcalls⟩ := call_sound hm hP hE m f us [] _ hc
  have hA : Args w (own0 w) [] us args := by
    refine ⟨by simpa using k2, fun i hi => ?_⟩
    have := (k3 i hi).mono (w' := w) (pr' := prOf (own0 w)) (μ' := []) (fun b i e => ⟨own0_pr.2 e, rfl⟩) fun _ _ h => h
    simpa [Array.getD_eq_getD_getElem?, List.getD_eq_getElem?_getD] using this
  refine ((hcalls 0 w.heap.size w (own0 w) [] args (sto0 P cfg w) (flat0 w) hA).calls room_wide).mono fun e w' hpost => ?_
  obtain ⟨c, own', μ', _, h2, h3⟩ := hpost
  obtain ⟨rfl, hV⟩ := h3
  exact ⟨by rw [hV.bool_inv], h2.below⟩

theorem trodAll_below (hl : laidOutB P = true) {w' : World} (hb : Below w.heap.size w w') : ∀ (ts : List TypeId) (as : List Value) (ds : List (DataW H)) (ps : List MemPlace), (ts.all fun t => P.readableRec t && decide (t < P.types.size)) = true →
    DataW.TrodAll enc P w 0 (fun _ => true) true ts as ds ps → DataW.TrodAll enc P w' 0 (fun b => decide (b < w.heap.size)) true ts as ds ps
  | [], as, ds, ps, _, h => by
    obtain ⟨rfl, rfl, rfl⟩ := trodAll_nil h
    exact trodAll_mk0
  | t :: ts, as, ds, ps, hr, h => by
    obtain ⟨v, vs, d, ds', p, q, rfl, rfl, rfl, h1, h2⟩ := trodAll_cons h
    simp only [List.all_cons, Bool.and_eq_true, decide_eq_true_eq] at hr
    have lt : ∀ x ∈ p, x.block < w.heap.size := by obtain ⟨m, hm⟩ := h1; exact DataW.trod_lt m _ _ _ hm
    exact trodAll_cons_mk (Below.trod hl hr.1.1 hr.1.2 h1 hb lt) (trodAll_below hl hb ts vs ds' q (by simpa using hr.2) h2)

/-- **A law's contract.** -/
theorem law_contract (hm : P.follows .mixedOrders = true) (hP : PlainNames P) (hE : ExtOK P cfg ext) (hl : laidOutB P = true) {S : List TypeId} (hS : knownB P S = true) {f : FuncId} {fn : Func} {ts : List TypeId} (hpar : fn.params.toList = ts) (hts : ∀ t ∈ ts, t ∈ S)
    (hrd : (ts.all fun t => P.readableRec t && decide (t < P.types.size)) = true) {rt : TypeId} (hrt : fn.resultTypes = #[rt]) (hbool : P.underlying rt = some .bool) {B : Nat}
    (hpure : ∀ us, WArgs P ts us → bulkL us ≤ B → ∃ m st, (fuelO P cfg ext m).call f us [] = some (.ret (.bool true), st)) {s : ChangeSpec} (hvars : s.vars = []) {args : Array Value} {ds gs : List (DataW H)} {before : List MemPlace} {b0 : Nat}
    (hs : ds.length = ts.length → s.fn H ds = { results := [.lit (.bool true)], args := ds })
    (hv : ∀ (j : Nat) t v, fn.params[j]? = some t → args[j]? = some v → Value.okWide P w .any b0 t v) (hW : DataW.Whole enc P fn.params.toList s.vars false w args.toList ds gs before) (hb : bulkDs (ds ++ gs) ≤ B) :
    Calls P f args w fun e w' => ∃ v, e = .returned v ∧ s.post enc P fn false true false false w args v w' := by
  have hW' := hW
  obtain ⟨p, q, hA, hV, rfl, hfz, hnd⟩ := hW
  rw [hvars] at hV
  obtain ⟨rfl, rfl⟩ := trodVars_none hV
  rw [hpar] at hA
  rw [List.append_nil] at hb
  have hlen : ds.length = ts.length := by
    have : ∀ (ts : List TypeId) (as : List Value) (ds : List (DataW H)) (ps : List MemPlace), DataW.TrodAll enc P w 0 (fun _ => true) true ts as ds ps → ds.length = ts.length := by
      intro ts
      induction ts with
      | nil => intro as ds ps h; obtain ⟨_, rfl, _⟩ := trodAll_nil h; rfl
      | cons t ts ih => intro as ds ps h; obtain ⟨v, vs, d, ds', p, q, rfl, rfl, rfl, h1, h2⟩ := trodAll_cons h; simp [ih _ _ _ h2]
    exact this _ _ _ _ hA
  refine (law_calls hm hP hE hl hS hts hpure (fun j t v h1 h2 => hv j t v (by rw [← hpar, Array.getElem?_toList] at h1; exact h1) h2) hA hb).mono fun e w' ⟨he, bel⟩ => ?_
  subst he
  have hsf : s.fn H (ds ++ []) = { results := [.lit (.bool true)], args := ds } := by rw [List.append_nil]; exact hs hlen
  refine ⟨_, rfl, ds, [], _, [], p, [], hW', ?_, ?_, ?_, bel.frame _, fun h => by cases h⟩
  · rw [hsf, hrt]
    exact trodAll_mk1 (shut_bool hbool _)
  · rw [hsf, hpar]
    exact trodAll_below hl bel _ _ _ _ hrd hA
  · rw [hsf, hvars]
    rfl
end
end Go.AM

/-! Terms, and the loops over their Args. -/
namespace Go.AM
open Go

inductive T where
  | mk (k h : Int) (as : List T)
def T.k : T → Int | .mk k _ _ => k
def T.h : T → Int | .mk _ h _ => h
def T.args : T → List T | .mk _ _ l => l

theorem T.ind {p : T → Prop} (h : ∀ k hd as, (∀ a ∈ as, p a) → p (.mk k hd as)) : ∀ t, p t
  | .mk k hd as => h k hd as (all as)
where all : ∀ as : List T, ∀ a ∈ as, p a
  | b :: bs, a, ha => by
    rcases List.mem_cons.1 ha with e | e
    · rw [e]; exact T.ind h b
    · exact all bs a e

mutual
def enc : T → V
  | .mk k h as => .agg [.int k, .int h, .vec .plain (some 3) (encs as)]
def encs : List T → List V
  | [] => []
  | t :: ts => enc t :: encs ts
end
@[simp] theorem encs_nil : encs [] = [] := rfl
@[simp] theorem encs_cons (t : T) (ts : List T) : encs (t :: ts) = enc t :: encs ts := rfl
theorem encs_map : ∀ ts, encs ts = ts.map enc
  | [] => rfl
  | t :: ts => by rw [encs_cons, encs_map ts]; rfl
@[simp] theorem encs_length (ts : List T) : (encs ts).length = ts.length := by rw [encs_map]; simp
@[simp] theorem encs_append (a b : List T) : encs (a ++ b) = encs a ++ encs b := by simp [encs_map]
theorem enc_eta (t : T) : enc t = .agg [.int t.k, .int t.h, .vec .plain (some 3) (encs t.args)] := by cases t; rfl

/-- 64 bits. -/
def I64 (n : Int) : Prop := -9223372036854775808 ≤ n ∧ n ≤ 9223372036854775807
theorem wrap_id {n : Int} (h : I64 n) : IntKind.i64.wrap n = n := by
  obtain ⟨h1, h2⟩ := h
  show (if (true && decide (n % 2 ^ 64 ≥ 2 ^ 63)) = true then n % 2 ^ 64 - 2 ^ 64 else n % 2 ^ 64) = n
  by_cases hc : n % 2 ^ 64 ≥ 2 ^ 63
  · rw [if_pos (by simpa using hc)]; omega
  · rw [if_neg (by simpa using hc)]; omega

theorem getI_encs {ts : List T} {i : Nat} (h : i < ts.length) : getI (encs ts) (i : Int) = enc ts[i] := by
  simp [getI, encs_map, List.getD_eq_getElem?_getD, h]

mutual
def T.size : T → Nat
  | .mk _ _ as => 1 + sizes as
def sizes : List T → Nat
  | [] => 0
  | t :: ts => t.size + sizes ts
end
mutual
def T.depth : T → Nat
  | .mk _ _ as => depths as + 1
def depths : List T → Nat
  | [] => 0
  | t :: ts => max t.depth (depths ts)
end
theorem size_pos (t : T) : 1 ≤ t.size := by cases t; simp only [T.size]; omega
theorem sizes_append (a b : List T) : sizes (a ++ b) = sizes a + sizes b := by
  induction a with
  | nil => simp [sizes]
  | cons x a ih => simp only [List.cons_append, sizes, ih]; omega
theorem size_le {ts : List T} {t : T} (h : t ∈ ts) : t.size ≤ sizes ts := by
  induction ts with
  | nil => cases h
  | cons x ts ih =>
    simp only [sizes]
    rcases List.mem_cons.1 h with rfl | h
    · omega
    · have := ih h; omega
theorem length_le_sizes : ∀ ts : List T, ts.length ≤ sizes ts
  | [] => by simp
  | t :: ts => by simp only [List.length_cons, sizes]; have := size_pos t; have := length_le_sizes ts; omega
theorem depth_le_size : ∀ t : T, t.depth ≤ t.size := by
  intro t
  induction t using T.ind with
  | _ k h as ih =>
    simp only [T.depth, T.size]
    have : ∀ as : List T, (∀ a ∈ as, a.depth ≤ a.size) → depths as ≤ sizes as := by
      intro as
      induction as with
      | nil => intro _; simp [depths]
      | cons x xs ih =>
        intro h
        have h1 := h x (by simp)
        have h2 := ih fun a ha => h a (by simp [ha])
        simp only [depths, sizes]; omega
    have := this as ih
    omega
mutual
theorem bulk_enc : ∀ t : T, 4 * t.size ≤ bulkV (enc t)
  | .mk k h as => by simp only [T.size, enc, bulkV, bulkL]; have := bulk_encs as; omega
theorem bulk_encs : ∀ ts : List T, 4 * sizes ts ≤ bulkL (encs ts)
  | [] => by simp [sizes]
  | t :: ts => by simp only [sizes, encs_cons, bulkL]; have := bulk_enc t; have := bulk_encs ts; omega
end

mutual
theorem below_enc (n : Nat) : ∀ t : T, below n (enc t) = true
  | .mk k h as => by simp only [enc, below, belowL, Bool.and_true, Bool.true_and]; exact below_encs n as
theorem below_encs (n : Nat) : ∀ ts : List T, belowL n (encs ts) = true
  | [] => rfl
  | t :: ts => by simp only [encs_cons, belowL, below_enc n t, below_encs n ts, Bool.and_true]
end
attribute [simp] below_enc below_encs

/-- Heads and kinds of 64 bits. -/
inductive OkT : T → Prop where
  | mk {k h : Int} {as : List T} (h1 : I64 k) (h2 : I64 h) (h3 : ∀ a ∈ as, OkT a) : OkT (.mk k h as)

/-! ### calls -/
theorem pcall_of {O : Oracle} {f : Nat} {args : List V} {v : V} {st : St} (h : O.call f args [] = some (.ret v, st)) (h1 : belowL 0 args = true) (h2 : below 0 v = true) : pcall O f args = some v := by
  unfold pcall
  rw [h1, h]
  show gd (below 0 v) (some v) = some v
  rw [h2]; rfl

/-- A loop that asks of each. -/
theorem all_loop {α : Type} {L : Int → Option α} {xs : List T} {g : T → Bool} {e0 e1 : α} (hstep : ∀ (i : Nat) (h : i < xs.length), L i = if g xs[i] = true then L ((i + 1 : Nat) : Int) else some e1) (hend : L (xs.length : Nat) = some e0) :
    ∀ i : Nat, i ≤ xs.length → L i = some (if (xs.drop i).all g = true then e0 else e1) := by
  intro i hi
  induction hn : xs.length - i generalizing i with
  | zero =>
    have : i = xs.length := by omega
    subst this
    rw [hend, List.drop_length]; rfl
  | succ n ih =>
    have hlt : i < xs.length := by omega
    rw [hstep i hlt, List.drop_eq_getElem_cons hlt, List.all_cons]
    cases hg : g xs[i] with
    | true =>
      rw [if_pos rfl, ih (i + 1) (by omega) (by omega)]
      simp
    | false => simp

/-- A loop that gathers. -/
theorem fold_loop {α β : Type} {L : Int → β → Option α} {xs : List T} {g : β → T → β} {e : β → α} {p : β → Prop} (hstep : ∀ (i : Nat) (h : i < xs.length) (b : β), p b → L i b = L ((i + 1 : Nat) : Int) (g b xs[i]) ∧ p (g b xs[i])) (hend : ∀ b, p b → L (xs.length : Nat) b = some (e b)) :
    ∀ (i : Nat) (b : β), i ≤ xs.length → p b → L i b = some (e ((xs.drop i).foldl g b)) := by
  intro i b hi hb
  induction hn : xs.length - i generalizing i b with
  | zero =>
    have : i = xs.length := by omega
    subst this
    rw [hend b hb, List.drop_length]; rfl
  | succ n ih =>
    have hlt : i < xs.length := by omega
    obtain ⟨h1, h2⟩ := hstep i hlt b hb
    rw [h1, List.drop_eq_getElem_cons hlt, List.foldl_cons, ih (i + 1) _ (by omega) h2 (by omega)]

/-- A loop that counts. -/
theorem count_loop {α : Type} {L : Nat → Option α} {n : Nat} {r : Option α} (hstep : ∀ i, i < n → L i = L (i + 1)) (hend : L n = r) : L 0 = r := by
  have : ∀ d i, i + d = n → L i = r := by
    intro d
    induction d with
    | zero => intro i h; have : i = n := by omega
              rw [this]; exact hend
    | succ d ih => intro i h; rw [hstep i (by omega)]; exact ih (i + 1) (by omega)
  exact this n 0 (by omega)

theorem take_succ' {α : Type} {l : List α} {i : Nat} (h : i < l.length) : l.take (i + 1) = l.take i ++ [l[i]] := List.take_succ_eq_append_getElem h
theorem sizes_take {l : List T} {i : Nat} (h : i < l.length) : sizes (l.take (i + 1)) = sizes (l.take i) + l[i].size := by
  rw [take_succ' h, sizes_append]; simp [sizes]
theorem depths_append (a b : List T) : depths (a ++ b) = max (depths a) (depths b) := by
  induction a with
  | nil => simp [depths]
  | cons x a ih => simp only [List.cons_append, depths, ih]; omega
theorem depths_take {l : List T} {i : Nat} (h : i < l.length) : depths (l.take (i + 1)) = max (depths (l.take i)) l[i].depth := by
  rw [take_succ' h, depths_append]; simp [depths]
theorem sizes_take_le (l : List T) (i : Nat) : sizes (l.take i) ≤ sizes l := by
  conv => rhs; rw [← List.take_append_drop i l, sizes_append]
  omega
theorem depths_le_sizes (l : List T) : depths l ≤ sizes l := by
  induction l with
  | nil => simp [depths]
  | cons x l ih => simp only [depths, sizes]; have := depth_le_size x; omega

/-! ### the same -/
mutual
def T.same : T → T → Bool
  | .mk k h l, .mk k' h' l' => decide (k = k') && (decide (h = h') && sames l l')
def sames : List T → List T → Bool
  | [], [] => true
  | a :: l, b :: l' => a.same b && sames l l'
  | _, _ => false
end
mutual
theorem same_iff : ∀ a b : T, a.same b = true ↔ a = b
  | .mk k h l, .mk k' h' l' => by simp only [T.same, Bool.and_eq_true, decide_eq_true_eq, sames_iff l l', T.mk.injEq]
theorem sames_iff : ∀ l l' : List T, sames l l' = true ↔ l = l'
  | [], [] => by simp [sames]
  | [], _ :: _ => by simp [sames]
  | _ :: _, [] => by simp [sames]
  | a :: l, b :: l' => by simp only [sames, Bool.and_eq_true, same_iff a b, sames_iff l l', List.cons.injEq]
end
@[simp] theorem same_self (a : T) : a.same a = true := (same_iff a a).2 rfl
@[simp] theorem sames_self (l : List T) : sames l l = true := (sames_iff l l).2 rfl
theorem sames_zip : ∀ {l l' : List T}, l.length = l'.length → sames l l' = (l.zip l').all fun x => x.1.same x.2
  | [], [], _ => rfl
  | a :: l, b :: l', h => by simp only [sames, List.zip_cons_cons, List.all_cons, sames_zip (Nat.succ.inj h)]
  | [], _ :: _, h => by cases h
  | _ :: _, [], h => by cases h
theorem sames_len : ∀ {l l' : List T}, l.length ≠ l'.length → sames l l' = false
  | [], [], h => absurd rfl h
  | a :: l, b :: l', h => by
    simp only [List.length_cons, ne_eq, Nat.add_right_cancel_iff] at h
    simp only [sames, sames_len h, Bool.and_false]
  | [], _ :: _, _ => rfl
  | _ :: _, [], _ => rfl

/-- A loop that asks of each place. -/
theorem all_loop' {α β : Type} {L : Int → Option α} {xs : List β} {g : β → Bool} {e0 e1 : α} (hstep : ∀ (i : Nat) (h : i < xs.length), L i = if g xs[i] = true then L ((i + 1 : Nat) : Int) else some e1) (hend : L (xs.length : Nat) = some e0) :
    L 0 = some (if xs.all g = true then e0 else e1) := by
  have : ∀ i : Nat, i ≤ xs.length → L i = some (if (xs.drop i).all g = true then e0 else e1) := by
    intro i hi
    induction hn : xs.length - i generalizing i with
    | zero =>
      have : i = xs.length := by omega
      subst this
      rw [hend, List.drop_length]; rfl
    | succ n ih =>
      have hlt : i < xs.length := by omega
      rw [hstep i hlt, List.drop_eq_getElem_cons hlt, List.all_cons]
      cases hg : g xs[i] with
      | true =>
        rw [if_pos rfl, ih (i + 1) (by omega) (by omega)]
        simp
      | false => simp
  have := this 0 (by omega)
  rwa [List.drop_zero] at this
theorem bne_int (a b : Int) : (a != b) = !decide (a = b) := by by_cases h : a = b <;> simp [h]
theorem bne_len0 (a : Nat) : ((a : Int) != 0) = !decide (a = 0) := by by_cases h : a = 0 <;> simp [h]
theorem bne_len1 (a : Nat) : ((a : Int) != 1) = !decide (a = 1) := by
  by_cases h : a = 1
  · simp [h]
  · have : (a : Int) ≠ 1 := by omega
    simp [h, this]
theorem bne_len2 (a : Nat) : ((a : Int) != 2) = !decide (a = 2) := by
  by_cases h : a = 2
  · simp [h]
  · have : (a : Int) ≠ 2 := by omega
    simp [h, this]
theorem beq_int (a b : Int) : (a == b) = decide (a = b) := by by_cases h : a = b <;> simp [h]
theorem beq_len0 (a : Nat) : ((a : Int) == 0) = decide (a = 0) := by by_cases h : a = 0 <;> simp [h]
theorem beq_len1 (a : Nat) : ((a : Int) == 1) = decide (a = 1) := by
  by_cases h : a = 1
  · simp [h]
  · have : (a : Int) ≠ 1 := by omega
    simp [h, this]
theorem beq_len2 (a : Nat) : ((a : Int) == 2) = decide (a = 2) := by
  by_cases h : a = 2
  · simp [h]
  · have : (a : Int) ≠ 2 := by omega
    simp [h, this]

section
variable {R : Type}
@[simp] theorem onCells_nil' (K : CellFn R []) : onCells (R := R) [] [] K = K := rfl
@[simp] theorem onCells_int' {cs : List CT} {n : Int} {vs : List V} {K : CellFn R (.int :: cs)} : onCells (R := R) (.int :: cs) (.int n :: vs) K = onCells cs vs (K n) := rfl
@[simp] theorem onCells_bool' {cs : List CT} {n : Bool} {vs : List V} {K : CellFn R (.bool :: cs)} : onCells (R := R) (.bool :: cs) (.bool n :: vs) K = onCells cs vs (K n) := rfl
theorem gcE_len {n : Nat} {v : V} {st : St} (h : st.length = n) : gcE n v st = some (.ret v, st) := by
  unfold gcE; rw [h, Nat.beq_refl]; rfl
@[simp] theorem gcE_one {x y : Res} {v : V} : gcE (List.length [x]) v [y] = some (.ret v, [y]) := rfl
@[simp] theorem gcE_one' {y : Res} {v : V} : gcE 1 v [y] = some (.ret v, [y]) := rfl
@[simp] theorem onCells_str' {cs : List CT} {n : ByteArray} {vs : List V} {K : CellFn R (.str :: cs)} : onCells (R := R) (.str :: cs) (.str n :: vs) K = onCells cs vs (K n) := rfl
@[simp] theorem onCells_slice' {sh : Sh} {cs : List CT} {es vs : List V} {K : CellFn R (.slice sh :: cs)} : onCells (R := R) (.slice sh :: cs) (.vec .plain sh es :: vs) K = onCells cs vs (K es) := by
  show (if sh = sh then onCells cs vs (K es) else none) = _
  rw [if_pos rfl]
@[simp] theorem onStruct_agg {cs : List CT} {vs : List V} {K : CellFn R cs} : onStruct (R := R) cs (.agg vs) K = onCells cs vs K := rfl
@[simp] theorem onVec_plain {sh : Sh} {es : List V} {K : List V → Option R} : onVec sh (.vec .plain sh es) K = K es := by show (if sh = sh then K es else none) = _; rw [if_pos rfl]
@[simp] theorem onLoc_loc {sh : Sh} {d : Bool} {v : V} {K : Bool → V → Option R} : onLoc sh (.loc d sh v) K = K d v := by show (if sh = sh then K d v else none) = _; rw [if_pos rfl]
@[simp] theorem onRoom_grow {sh : Sh} {es : List V} {K : List V → Option R} : onRoom sh (.vec .grow sh es) K = K es := by show (if sh = sh then K es else none) = _; rw [if_pos rfl]
@[simp] theorem obind_some' {α : Type} (x : α) (K : α → Option R) : obind (some x) K = K x := rfl
@[simp] theorem onStr_str (s : ByteArray) (K : ByteArray → Option R) : onStr (.str s) K = K s := rfl
@[simp] theorem onIk_ik (k : IntKind) (n : Int) (K : Int → Option R) : onIk k (.ik k n) K = K n := by show (if k = k then K n else none) = _; rw [if_pos rfl]
@[simp] theorem onAgg_agg (cs : List V) (K : List V → Option R) : onAgg (.agg cs) K = K cs := rfl
@[simp] theorem onEx_normal (n r : Option R) (x : Nat → Option R) (p : V → Option R) : onEx .normal n r x p = n := rfl
@[simp] theorem onRoom2_grow {sh : Sh} {es : List V} {K1 K2 : List V → Option R} : onRoom2 sh (.vec .grow sh es) K1 K2 = K1 es := by show (if sh = sh then K1 es else none) = _; rw [if_pos rfl]
@[simp] theorem onRoom2_full {sh : Sh} {es : List V} {K1 K2 : List V → Option R} : onRoom2 sh (.vec .full sh es) K1 K2 = K2 es := by show (if sh = sh then K2 es else none) = _; rw [if_pos rfl]
@[simp] theorem onBusy_busy {α : Type} (x : Option α) : onBusy .busy x = x := rfl
@[simp] theorem onRef_ref (q : Nat) (K : Nat → Option R) : onRef (.ref q 0) K = K q := rfl
@[simp] theorem onRoom_full {sh : Sh} {es : List V} {K : List V → Option R} : onRoom sh (.vec .full sh es) K = K es := by show (if sh = sh then K es else none) = _; rw [if_pos rfl]
@[simp] theorem onRowV_row {sh : Sh} {q lo n : Nat} {K : Nat → Nat → Nat → Option R} : onRowV sh (.row sh q lo n) K = K q lo n := by show (if sh = sh then K q lo n else none) = _; rw [if_pos rfl]
@[simp] theorem onIter_iter (s : ByteArray) (p : Nat) (K : ByteArray → Nat → Option R) : onIter (.iter s p) K = K s p := rfl
@[simp] theorem onRow_row (sh : Sh) (es : List V) (K : Sh → List V → Option R) : onRow (.row sh es) K = K sh es := rfl
@[simp] theorem onInt_int (n : Int) (K : Int → Option R) : onInt (.int n) K = K n := rfl
@[simp] theorem onBool_bool (n : Bool) (K : Bool → Option R) : onBool (.bool n) K = K n := rfl
@[simp] theorem onTup_tup (vs : List V) (K : List V → Option R) : onTup (.tup vs) K = K vs := rfl
@[simp] theorem onCons_cons (v : V) (vs : List V) (K : V → List V → Option R) : onCons (v :: vs) K = K v vs := rfl
@[simp] theorem onNil_nil (x : Option R) : onNil [] x = x := rfl
@[simp] theorem onEx_exit (i : Nat) (n r : Option R) (x : Nat → Option R) (p : V → Option R) : onEx (.exit i) n r x p = x i := rfl
@[simp] theorem onEx_ret (n r : Option R) (x : Nat → Option R) (p : V → Option R) : onEx .ret n r x p = r := rfl
@[simp] theorem onRet_ret (v : V) (K Pk : V → Option R) : onRet (.ret v) K Pk = K v := rfl
@[simp] theorem onFn_fn (g : Nat) (a b : List V) (K : Nat → List V → List V → Option R) : onFn (.fn g a b) K = K g a b := rfl
@[simp] theorem onBox_box (cs : List V) (K : List V → Option R) : onBox (.box cs) K = K cs := rfl
@[simp] theorem onLoop_loop (f k : Nat) (vs : List V) (s : LSt) (p : Option Ex) (K : Nat → Nat → List V → LSt → Option Ex → Option R) : onLoop (.loop f k vs s p) K = K f k vs s p := rfl
@[simp] theorem onPend_ready (n r : Option R) (x : Nat → Option R) : onPend .ready none n r x = n := rfl
@[simp] theorem onPend_ret (n r : Option R) (x : Nat → Option R) : onPend .done (some .ret) n r x = r := rfl
@[simp] theorem gd_true (x : Option R) : gd true x = x := rfl
@[simp] theorem bc_true (x y : Option R) : bc true x y = x := rfl
@[simp] theorem bc_false (x y : Option R) : bc false x y = y := rfl
@[simp] theorem gd_and (a b : Bool) (x : Option R) : gd (a && b) x = gd a (gd b x) := by cases a <;> rfl
@[simp] theorem gd_dec {p : Prop} [Decidable p] (h : p) (x : Option R) : gd (decide p) x = x := by rw [decide_eq_true h]; rfl
@[simp] theorem bc_dec_t {p : Prop} [Decidable p] (h : p) (x y : Option R) : bc (decide p) x y = x := by rw [decide_eq_true h]; rfl
@[simp] theorem bc_dec_f {p : Prop} [Decidable p] (h : ¬ p) (x y : Option R) : bc (decide p) x y = y := by rw [decide_eq_false h]; rfl
@[simp] theorem bc_beq_t {a b : Int} (h : a = b) (x y : Option R) : bc (a == b) x y = x := by rw [beq_iff_eq.2 h]; rfl
@[simp] theorem bc_beq_f {a b : Int} (h : ¬ a = b) (x y : Option R) : bc (a == b) x y = y := by rw [beq_eq_false_iff_ne.2 h]; rfl
@[simp] theorem bc_bne_t {a b : Int} (h : ¬ a = b) (x y : Option R) : bc (a != b) x y = x := by simp [bne, beq_eq_false_iff_ne.2 h]
@[simp] theorem bc_bne_f {a b : Int} (h : a = b) (x y : Option R) : bc (a != b) x y = y := by simp [bne, beq_iff_eq.2 h]
@[simp] theorem bc_not (b : Bool) (x y : Option R) : bc (!b) x y = bc b y x := by cases b <;> rfl
theorem bc_nat (i j : Nat) (x y : Option R) (h : i = j) : bc (i.beq j) x y = x := by subst h; simp
@[simp] theorem wrap_i {n : Int} (h1 : -9223372036854775808 ≤ n) (h2 : n ≤ 9223372036854775807) : IntKind.i64.wrap n = n := wrap_id ⟨h1, h2⟩
theorem getR_some {st : St} {q : Nat} {x : Res} (h : st[q]? = some x) (K : Res → Option R) : getR st q K = K x := by unfold getR; rw [h]
end
end Go.AM
