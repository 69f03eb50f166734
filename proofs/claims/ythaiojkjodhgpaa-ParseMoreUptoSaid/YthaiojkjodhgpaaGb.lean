import Derived.Test.YthaiojkjodhgpaaGa
import Derived.KernelRfl
import Derived.Test.YthaiojkjodhgpaaAMd
/- The program's functions, each an equation of the abstract machine checked by the kernel, and what they come to as plain Lean. -/
set_option linter.unusedVariables false
set_option linter.unusedSimpArgs false
set_option linter.unusedSectionVars false
/-! The reader's small functions. -/
namespace Go.Proofs.LP
open Go Go.AM Go.Ama

theorem room_decl {n : Nat} (h : n ≤ 1048576) : roomFor Try.prog 46 n = true := by
  have : ((Try.prog.info? 46).map (·.bytes)).getD 0 = 56 := by kernel_rfl
  unfold roomFor
  rw [this]
  simp only [Bool.and_eq_true, decide_eq_true_eq]
  omega
theorem room_string {n : Nat} (h : n ≤ 1048576) : roomFor Try.prog 9 n = true := by
  have : ((Try.prog.info? 9).map (·.bytes)).getD 0 = 16 := by kernel_rfl
  unfold roomFor
  rw [this]
  simp only [Bool.and_eq_true, decide_eq_true_eq]
  omega

theorem getI_tok0 (t : Tok) (r : List Tok) : getI (encToks (t :: r)) 0 = encTok t := rfl
theorem len_pos' (t : Tok) (r : List Tok) : decide ((((encToks (t :: r)).length : Nat) : Int) > 0) = true := by simp
theorem len_pos (t : Tok) (r : List Tok) : decide ((0 : Int) < (((encToks (t :: r)).length : Nat) : Int)) = true := by simp

section
variable (m : AM.Mode) (s : PS)

theorem fail_spec (n : Int) : W.call 40 [.ref 0 0, .int n] [boxP m s] = some (.ret (.tup []), [boxP m (s.fail n)]) := by
  rw [C, boxP, e_parse_reader_fail, beq_int]
  unfold PS.fail
  by_cases h : s.e = 0 <;> simp [h, bc, boxP]

theorem is_spec (c : Bytes) : W.call 76 [.ref 0 0, .str (ba c)] [boxP m s] = some (.ret (.bool (s.is c)), [boxP m s]) := by
  rw [C, boxP, e_parse_reader_is, beq_int]
  unfold PS.is
  by_cases h : s.e = 0
  · rw [h]
    cases hl : s.l with
    | nil => rfl
    | cons t r =>
      simp only [len_pos', len_pos, getI_tok0, onStruct_tok, ba_eq, beq_int]
      simp [bc]
  · simp [h, bc]

theorem named_spec' : W.call 74 [.ref 0 0] [boxP m s] = some (.ret (.bool s.named), [boxP m s]) := by
  rw [C, boxP, e_parse_reader_named, beq_int]
  unfold PS.named
  by_cases h : s.e = 0
  · rw [h]
    cases hl : s.l with
    | nil => rfl
    | cons t r =>
      simp only [len_pos', len_pos, getI_tok0]
      show bc (decide True) (bc true (gd true (onAgg (.agg [.int t.1, .str (ba t.2)]) _)) _) _ = _
      rw [onAgg_agg]
      show some (Out.ret (V.bool (t.1 == 0)), _) = _
      rw [beq_int]; simp
  · simp [h, bc]

theorem is_cons {c : Bytes} (h : s.is c = true) : ∃ r, s.l = (1, c) :: r ∧ s.e = 0 := by
  unfold PS.is at h
  cases hl : s.l with
  | nil => rw [hl] at h; simp at h
  | cons t r =>
    rw [hl] at h
    simp only [Bool.and_eq_true, decide_eq_true_eq] at h
    obtain ⟨t1, t2⟩ := t
    simp only at h
    exact ⟨r, by rw [h.2.1, h.2.2], h.1⟩
theorem named_cons (h : s.named = true) : ∃ x r, s.l = (0, x) :: r ∧ s.e = 0 := by
  unfold PS.named at h
  cases hl : s.l with
  | nil => rw [hl] at h; simp at h
  | cons t r =>
    rw [hl] at h
    simp only [Bool.and_eq_true, decide_eq_true_eq] at h
    obtain ⟨t1, t2⟩ := t
    simp only at h
    exact ⟨t2, r, by rw [h.2], h.1⟩

theorem token_spec (b : Bool) (h : b = true → ∃ t r, s.l = t :: r) : W.call 73 [.ref 0 0, .bool b] [boxP m s] = some (.ret (.str (ba (s.token b).1)), [boxP m (s.token b).2]) := by
  rw [C, boxP, e_parse_reader_token, ← boxP, fail_spec]
  cases b with
  | false => rfl
  | true =>
    obtain ⟨t, r, hl⟩ := h rfl
    unfold PS.token
    rw [hl]
    simp only [len_pos, getI_tok0, if_true, Bool.not_true, bc_false, Bool.true_and, gd_true]
    show onAgg (.agg [.int t.1, .str (ba t.2)]) _ = _
    rw [onAgg_agg]
    rw [show decide (2 ≤ [V.int t.1, V.str (ba t.2)].length) = true from rfl, gd_true, show AM.partOf [V.int t.1, V.str (ba t.2)] 1 none = V.str (ba t.2) from rfl, onStr_str]
    have h1 : decide ((1 : Int) ≤ (((encToks (t :: r)).length : Nat) : Int)) = true := by simp; omega
    have h2 : decide ((((encToks (t :: r)).length : Nat) : Int) ≤ (((encToks (t :: r)).length : Nat) : Int)) = true := by simp
    rw [h1, h2, Int.toNat_natCast, List.take_length]
    rfl

theorem take_spec (c : Bytes) : W.call 57 [.ref 0 0, .str (ba c)] [boxP m s] = some (.ret (.tup []), [boxP m (s.take c)]) := by
  rw [C, e_parse_reader_take, is_spec, obind_some', onRet_ret, onBool_bool, token_spec _ _ _ (fun h => by obtain ⟨r, h, _⟩ := is_cons s h; exact ⟨_, _, h⟩), obind_some', onRet_ret, onStr_str]
  rfl
theorem name_spec' : W.call 54 [.ref 0 0] [boxP m s] = some (.ret (.str (ba s.name.1)), [boxP m s.name.2]) := by
  rw [C, e_parse_reader_name, named_spec', obind_some', onRet_ret, onBool_bool, token_spec _ _ _ (fun h => by obtain ⟨x, r, h, _⟩ := named_cons s h; exact ⟨_, _, h⟩), obind_some', onRet_ret, onStr_str]
  rfl
theorem paren : V.str { data := #[40] } = V.str (ba [40]) := rfl
theorem alone_spec (t : T) : W.call 84 [.ref 0 0, enc t] [boxP m s] = some (.ret (enc t), [boxP m s.alone]) := by
  unfold PS.alone
  rw [C, enc_eta, e_parse_reader_alone, named_spec', obind_some', onRet_ret, onBool_bool, paren, is_spec, obind_some', onRet_ret, onBool_bool, fail_spec, ← enc_eta]
  cases s.named <;> cases s.is [40] <;> rfl
end
end Go.Proofs.LP

/-! What a name is. -/
namespace Go.Proofs.LP
open Go Go.AM Go.Ama

theorem back_loop (x : Bytes) (bs : List Bytes) (v0 : V) (st : St) (hb : bs.length ≤ 1048576) : ∀ d k, k + d = bs.length →
    W.loop 86 2 [.loc true (some 3) v0, .int (k : Nat), .loc false none (.str (ba x)), .vec .plain none (encS bs.reverse), .ref 0 0, .int bs.length] st =
      some (match back x (bs.drop k) with
        | some i => (Ex.ret, [V.loc false (some 3) (V.agg [V.int 4, V.int ((k + i : Nat) : Int), V.vec .full (some 3) []])], st)
        | none => (Ex.exit 0, [V.loc true (some 3) v0, V.ref 0 0, V.loc false none (V.str (ba x))], st)) := by
  intro d
  induction d with
  | zero =>
    intro k hk
    have hkl : k = bs.length := by omega
    subst hkl
    have hlt : decide (((bs.length : Nat) : Int) < bs.length) = false := by simp
    rw [L, e_parse_reader_head_L2, hlt, List.drop_length]
    rfl
  | succ d ih =>
    intro k hk
    have hkl : k < bs.length := by omega
    have hlt : decide (((k : Nat) : Int) < bs.length) = true := by simp; omega
    have hw : IntKind.i64.wrap (IntKind.i64.wrap (((encS bs.reverse).length : Int) - 1) - (k : Nat)) = ((bs.length - 1 - k : Nat) : Int) := by
      have hw1 : IntKind.i64.wrap ((bs.length : Int) - 1) = (bs.length : Int) - 1 := wrap_id ⟨by omega, by omega⟩
      rw [encS_length, List.length_reverse, hw1, wrap_id ⟨by omega, by omega⟩]; omega
    have h0 : decide ((0 : Int) ≤ ((bs.length - 1 - k : Nat) : Int)) = true := by simp
    have h1 : decide ((((bs.length - 1 - k : Nat) : Int)) < ((encS bs.reverse).length : Int)) = true := by simp; omega
    have hi : bs.length - 1 - k < bs.reverse.length := by simp; omega
    have hget : bs.reverse[bs.length - 1 - k] = bs[k] := by
      rw [List.getElem_reverse]; congr 1; omega
    have hd : bs.drop k = bs[k] :: bs.drop (k + 1) := List.drop_eq_getElem_cons hkl
    rw [L, e_parse_reader_head_L2, hlt, hw, h0, h1, getI_encS hi, hget, hd, bc_true, onStr_str, ba_eq]
    simp only [Bool.and_self, gd_true, back]
    by_cases hx : bs[k] = x
    · simp [hx, bc]
    · simp only [hx, decide_false, bc_false, if_false]
      rw [wrap_id ⟨by omega, by omega⟩]
      have := ih (k + 1) (by omega)
      rw [show (((k + 1 : Nat)) : Int) = (k : Nat) + 1 from rfl] at this
      rw [this]
      cases back x (bs.drop (k + 1)) with
      | none => rfl
      | some i => simp only [Option.map_some]; rw [show k + 1 + i = k + (i + 1) by omega]

/-- A function that tells whether a declaration has a name. -/
def Names (g : Nat) (x : Bytes) : Prop := cfg.pure g = false ∧ ∀ d st, W.call g [encD d, .cptr none (.str (ba x))] st = some (.ret (.bool (decide (d.name = x))), st)
theorem names1 (x : Bytes) : Names 90 x := ⟨rfl, fun d st => by rw [C, encD, e_parse_reader_head_1, ba_eq]; exact gcE_len rfl⟩
theorem names2 (x : Bytes) : Names 56 x := ⟨rfl, fun d st => by rw [C, encD, e_parse_reader_decl_1, ba_eq]; exact gcE_len rfl⟩

theorem idx_loop {g : Nat} {x : Bytes} (hg : Names g x) (l : List D) (st : St) (hl : l.length ≤ 1048576) : ∀ d k, k + d = l.length →
    W.loop 75 2 [.int (k : Nat), .vec .plain (some 4) (encDs l), .fn g [] [.cptr none (.str (ba x))], .int l.length] st =
      some (match idx x (l.drop k) with
        | some i => (Ex.ret, [V.int ((k + i : Nat) : Int)], st)
        | none => (Ex.exit 0, [], st)) := by
  intro d
  induction d with
  | zero =>
    intro k hk
    have hkl : k = l.length := by omega
    subst hkl
    have hlt : decide (((l.length : Nat) : Int) < l.length) = false := by simp
    rw [L, e_slices_IndexFunc_api_Decl_api_Decl_L2, hlt, List.drop_length]
    rfl
  | succ d ih =>
    intro k hk
    have hkl : k < l.length := by omega
    have hlt : decide (((k : Nat) : Int) < l.length) = true := by simp; omega
    have h0 : decide ((0 : Int) ≤ (k : Nat)) = true := by simp
    have hd : l.drop k = l[k] :: l.drop (k + 1) := List.drop_eq_getElem_cons hkl
    have hc := hg.2 l[k] st
    unfold encD at hc
    rw [L, e_slices_IndexFunc_api_Decl_api_Decl_L2]
    simp only [encDs_length, hlt, h0, getI_encDs hkl, onStruct_encD, hg.1, bc_false, bc_true, Bool.and_self, gd_true, List.nil_append, List.cons_append, hc, obind_some', onRet_ret, onBool_bool]
    rw [hd]
    simp only [idx]
    by_cases hx : l[k].name = x
    · simp [hx, bc]
    · simp only [hx, decide_false, bc_false, if_false]
      rw [wrap_id ⟨by omega, by omega⟩]
      have := ih (k + 1) (by omega)
      rw [show (((k + 1 : Nat)) : Int) = (k : Nat) + 1 from rfl] at this
      rw [this]
      cases idx x (l.drop (k + 1)) with
      | none => rfl
      | some i => simp only [Option.map_some]; rw [show k + 1 + i = k + (i + 1) by omega]

def idxI (x : Bytes) (l : List D) : Int := match idx x l with | some i => (i : Nat) | none => -1
theorem indexFunc_spec {g : Nat} {x : Bytes} (hg : Names g x) (l : List D) (st : St) (hl : l.length ≤ 1048576) :
    W.call 75 [.vec .plain (some 4) (encDs l), .fn g [] [.cptr none (.str (ba x))]] st = some (.ret (.int (idxI x l)), st) := by
  have h := idx_loop hg l st hl l.length 0 (by omega)
  rw [C, e_slices_IndexFunc_api_Decl_api_Decl, encDs_length]
  rw [show ((0 : Nat) : Int) = 0 from rfl] at h
  rw [h, List.drop_zero, obind_some']
  unfold idxI
  cases idx x l with
  | none => exact gcE_len rfl
  | some i => simp only [Nat.zero_add]; exact gcE_len rfl
theorem containsFunc_spec {g : Nat} {x : Bytes} (hg : Names g x) (l : List D) (st : St) (hl : l.length ≤ 1048576) :
    W.call 55 [.vec .plain (some 4) (encDs l), .fn g [] [.cptr none (.str (ba x))]] st = some (.ret (.bool (idx x l).isSome), st) := by
  rw [C, e_slices_ContainsFunc_api_Decl_api_Decl, indexFunc_spec hg l st hl, obind_some', onRet_ret, onInt_int, gcE_len rfl]
  unfold idxI
  cases idx x l with
  | none => rfl
  | some i => simp

theorem idx_lt {x : Bytes} : ∀ {l : List D} {i : Nat}, idx x l = some i → i < l.length
  | [], i, h => by cases h
  | d :: l, i, h => by
    unfold idx at h
    split at h
    · cases h; simp
    · cases hq : idx x l with
      | none => rw [hq] at h; cases h
      | some j => rw [hq] at h; cases h; have := idx_lt hq; simp; omega

/-- What head hands back: it has no args. -/
def encF (t : T) : V := .agg [.int t.k, .int t.h, .vec .full (some 3) []]
theorem head_spec (m : AM.Mode) (s : PS) (x : Bytes) (bs : List Bytes) (hb : bs.length ≤ 1048576) (hs : s.s.length ≤ 1048576) :
    W.call 86 [.ref 0 0, .str (ba x), .vec .plain none (encS bs.reverse)] [boxP m s] = some (.ret (encF (s.head x bs).1), [boxP m (s.head x bs).2]) := by
  have h := back_loop x bs (V.agg [V.int 0, V.int 0, V.vec .full (some 3) []]) [boxP m s] hb bs.length 0 (by omega)
  rw [show ((0 : Nat) : Int) = 0 from rfl, List.drop_zero] at h
  rw [C, boxP, e_parse_reader_head, ← boxP, encS_length, List.length_reverse, h, obind_some']
  unfold PS.head
  cases hbk : back x bs with
  | some i => simp only [Nat.zero_add]; rfl
  | none =>
    have hb0 : Nat.beq 0 0 = true := rfl
    simp only [onEx_exit, hb0, bc_true, onCons_cons, onLoc_loc, onRef_ref, cond_false, onStr_str, onNil_nil]
    have hget : ∀ {R : Type} (K : Res → Option R), getR [boxP m s] 0 K = K (boxP m s) := fun K => rfl
    rw [hget, boxP, onBox_box, ← boxP]
    have hcl : cleanV (AM.partOf [V.vec .plain (some 2) (encToks s.l), V.vec m (some 4) (encDs s.s), V.int s.e] 1 none) = .vec .plain (some 4) (encDs s.s) := by cases m <;> rfl
    rw [hcl, onVec_plain, indexFunc_spec (names1 x) s.s _ hs, obind_some', onRet_ret, onInt_int]
    unfold idxI
    have h2g : ∀ {R : Type} (X : Option R), gd (decide (2 ≤ [V.vec .plain (some 2) (encToks s.l), V.vec m (some 4) (encDs s.s), V.int s.e].length) && true) X = X := fun X => rfl
    cases hix : idx x s.s with
    | none =>
      simp only [h2g, show decide ((-1 : Int) < 0) = true from rfl, bc_true, fail_spec]
      rfl
    | some i =>
      have hi := idx_lt hix
      have hneg : decide (((i : Nat) : Int) < 0) = false := by simp
      have h0 : decide ((0 : Int) ≤ (i : Nat)) = true := by simp
      have h1 : decide (((i : Nat) : Int) < ((encDs s.s).length : Int)) = true := by simp; omega
      simp only [hneg, bc_false]
      rw [hget, boxP, onBox_box, ← boxP, hcl, onVec_plain, h0, h1, getI_encDs hi, h2g, h2g]
      have h4 : ∀ {R : Type} (K : Int → Int → List V → Option R), onAgg (encD s.s[i]) (fun c => gd (decide (4 ≤ c.length)) (onCells (R := R) [CT.int, CT.int, CT.slice (some 3)] (List.take 3 (List.drop 1 c)) K)) = K s.s[i].t.k s.s[i].t.h (encs s.s[i].t.args) := fun K => rfl
      rw [Bool.and_self, gd_true, h4]
      rw [← enc_eta, (kind_spec s.s[i].t).p, obind_some', onBool_bool]
      have hg : (s.s.map (·.t)).getD i T0 = s.s[i].t := by simp [List.getD_eq_getElem?_getD, hi]
      simp only [hg]
      by_cases hk : (split s.s[i].t).2.k = 0
      · simp only [hk, decide_true, bc_true, if_true]; rfl
      · simp only [hk, decide_false, bc_false, if_false]; rfl
end Go.Proofs.LP

/-! The reader takes tokens, and nothing else. -/
namespace Go.Ama
open Go.AM (T)

/-- No token comes back; what is declared stays; what went wrong stays. -/
structure Mono (s r : PS) : Prop where
  suf : r.l <:+ s.l
  sig : r.s = s.s
  err : s.e ≠ 0 → r = s
theorem Mono.len {s r : PS} (h : Mono s r) : r.l.length ≤ s.l.length := h.suf.length_le
theorem Mono.refl {s : PS} : Mono s s := ⟨List.suffix_refl _, rfl, fun _ => rfl⟩
theorem Mono.trans {s r q : PS} (h : Mono s r) (g : Mono r q) : Mono s q :=
  ⟨g.suf.trans h.suf, g.sig.trans h.sig, fun he => by
    have := h.err he
    subst this
    exact g.err he⟩
theorem fail_mono (n : Int) (s : PS) : Mono s (s.fail n) := by
  unfold PS.fail
  split
  · rename_i h; exact ⟨List.suffix_refl _, rfl, fun he => absurd h he⟩
  · exact .refl
theorem is_cons' {s : PS} {c : Bytes} (h : s.is c = true) : ∃ r, s.l = (1, c) :: r ∧ s.e = 0 := by
  unfold PS.is at h
  cases hl : s.l with
  | nil => rw [hl] at h; simp at h
  | cons t r =>
    rw [hl] at h
    simp only [Bool.and_eq_true, decide_eq_true_eq] at h
    obtain ⟨t1, t2⟩ := t
    simp only at h
    exact ⟨r, by rw [h.2.1, h.2.2], h.1⟩
theorem named_cons' {s : PS} (h : s.named = true) : ∃ x r, s.l = (0, x) :: r ∧ s.e = 0 := by
  unfold PS.named at h
  cases hl : s.l with
  | nil => rw [hl] at h; simp at h
  | cons t r =>
    rw [hl] at h
    simp only [Bool.and_eq_true, decide_eq_true_eq] at h
    obtain ⟨t1, t2⟩ := t
    simp only at h
    exact ⟨t2, r, by rw [h.2], h.1⟩
theorem is_err {s : PS} {c : Bytes} (h : s.e ≠ 0) : s.is c = false := by simp [PS.is, h]
theorem named_err {s : PS} (h : s.e ≠ 0) : s.named = false := by simp [PS.named, h]
theorem fail_err {s : PS} {n : Int} (h : s.e ≠ 0) : s.fail n = s := by simp [PS.fail, h]
theorem fail_l (n : Int) (s : PS) : (s.fail n).l = s.l := by unfold PS.fail; split <;> rfl
theorem fail_s (n : Int) (s : PS) : (s.fail n).s = s.s := by unfold PS.fail; split <;> rfl
theorem fail_ne {n : Int} (hn : n ≠ 0) (s : PS) : (s.fail n).e ≠ 0 := by unfold PS.fail; split <;> assumption

theorem take_yes {s : PS} {c : Bytes} (h : s.is c = true) : ∃ r, s.l = (1, c) :: r ∧ s.e = 0 ∧ s.take c = ⟨r, s.s, 0⟩ := by
  obtain ⟨r, hl, he⟩ := is_cons' h
  refine ⟨r, hl, he, ?_⟩
  unfold PS.take PS.token
  rw [h, hl, ← he]
  rfl
theorem take_no {s : PS} {c : Bytes} (h : s.is c = false) : s.take c = s.fail 8 := by
  unfold PS.take PS.token
  rw [h]
  rfl
theorem name_yes {s : PS} (h : s.named = true) : ∃ x r, s.l = (0, x) :: r ∧ s.e = 0 ∧ s.name = (x, ⟨r, s.s, 0⟩) := by
  obtain ⟨x, r, hl, he⟩ := named_cons' h
  refine ⟨x, r, hl, he, ?_⟩
  unfold PS.name PS.token
  rw [h, hl, ← he]
  rfl
theorem name_no {s : PS} (h : s.named = false) : s.name = ([], s.fail 8) := by
  unfold PS.name PS.token
  rw [h]
  rfl
theorem take_mono (c : Bytes) (s : PS) : Mono s (s.take c) := by
  cases h : s.is c with
  | true =>
    obtain ⟨r, hl, he, ht⟩ := take_yes h
    rw [ht]
    exact ⟨by rw [hl]; exact List.suffix_cons _ _, rfl, fun h => absurd he h⟩
  | false => rw [take_no h]; exact fail_mono 8 s
theorem name_mono (s : PS) : Mono s s.name.2 := by
  cases h : s.named with
  | true =>
    obtain ⟨x, r, hl, he, ht⟩ := name_yes h
    rw [ht]
    exact ⟨by rw [hl]; exact List.suffix_cons _ _, rfl, fun h => absurd he h⟩
  | false => rw [name_no h]; exact fail_mono 8 s
theorem head_mono (x : Bytes) (bs : List Bytes) (s : PS) : Mono s (s.head x bs).2 := by
  unfold PS.head
  split
  · exact .refl
  · split
    · exact fail_mono 2 s
    · exact .refl
theorem head_args (x : Bytes) (bs : List Bytes) (s : PS) : (s.head x bs).1.args = [] := by
  unfold PS.head
  split
  · rfl
  · split <;> rfl
theorem alone_mono (s : PS) : Mono s s.alone := by
  unfold PS.alone
  split
  · exact fail_mono 8 s
  · exact .refl

section
variable {term : List Bytes → PS → T × PS} (ht : ∀ bs s, Mono s (term bs s).2)
include ht
theorem inner_mono (bs : List Bytes) (s : PS) : Mono s (s.inner term bs).2 := ((take_mono [40] s).trans (ht bs _)).trans (take_mono [41] _)
theorem atom_mono (bs : List Bytes) (s : PS) : Mono s (s.atom term bs).2 := by
  unfold PS.atom
  split
  · exact inner_mono ht bs s
  · dsimp only
    split
    · exact (name_mono s).trans (fail_mono 8 _)
    · exact (name_mono s).trans (head_mono _ _ _)
theorem args_mono (bs : List Bytes) : ∀ m s, Mono s (PS.args term bs m s).2
  | 0, s => .refl
  | m + 1, s => by
    unfold PS.args
    split
    · exact (atom_mono ht bs s).trans (args_mono bs m _)
    · exact .refl
theorem atoms_mono (bs : List Bytes) (s : PS) : Mono s (s.atoms term bs).2 := by
  unfold PS.atoms
  split
  · exact (inner_mono ht bs s).trans (alone_mono _)
  · dsimp only
    split
    · exact name_mono s
    · split
      · exact (name_mono s).trans (alone_mono _)
      · exact ((name_mono s).trans (head_mono _ _ _)).trans (args_mono ht bs _ _)
theorem atom_lt {bs : List Bytes} {s : PS} (h : (s.named || s.is [40]) = true) : (s.atom term bs).2.l.length < s.l.length := by
  unfold PS.atom
  cases hi : s.is [40] with
  | true =>
    obtain ⟨r, hl, he, htk⟩ := take_yes hi
    rw [if_pos rfl]
    unfold PS.inner
    rw [htk]
    have h1 := (ht bs ⟨r, s.s, 0⟩).len
    have h2 := (take_mono [41] (term bs ⟨r, s.s, 0⟩).2).len
    rw [hl]
    simp only [List.length_cons] at *
    omega
  | false =>
    rw [hi, Bool.or_false] at h
    obtain ⟨x, r, hl, he, hn⟩ := name_yes h
    rw [if_neg (by simp), hn]
    dsimp only
    rw [hl]
    split
    · rw [fail_l]; simp
    · have := (head_mono x bs ⟨r, s.s, 0⟩).len
      simp only [List.length_cons] at *
      omega
end
theorem term_mono : ∀ n bs s, Mono s (PS.term n bs s).2
  | 0, bs, s => fail_mono 4 s
  | n + 1, bs, s => by
    have ih := term_mono n
    unfold PS.term
    split
    · exact (((((take_mono _ s).trans (name_mono _)).trans (take_mono _ _)).trans (ih _ _)).trans (take_mono _ _)).trans (ih _ _)
    · split
      · exact (((take_mono _ s).trans (name_mono _)).trans (take_mono _ _)).trans (ih _ _)
      · exact atoms_mono ih bs s
theorem whole_mono (s : PS) : Mono s s.whole.2 := by
  unfold PS.whole
  dsimp only
  split
  · exact term_mono _ _ _
  · exact (term_mono _ _ _).trans (fail_mono 4 _)

/-! ### no more nodes than tokens allow -/
section
open Go.AM
variable {term : List Bytes → PS → T × PS} (ht : ∀ bs s, Mono s (term bs s).2) (hz : ∀ bs s, (term bs s).1.size + 2 * (term bs s).2.l.length ≤ 2 * s.l.length + 1)
include hz
theorem inner_size {bs : List Bytes} {s : PS} (h : s.is [40] = true) : (s.inner term bs).1.size + 2 * (s.inner term bs).2.l.length + 1 ≤ 2 * s.l.length := by
  obtain ⟨r, hl, he, htk⟩ := take_yes h
  unfold PS.inner
  rw [htk]
  have h1 := hz bs ⟨r, s.s, 0⟩
  have h2 := (take_mono [41] (term bs ⟨r, s.s, 0⟩).2).len
  rw [hl]
  simp only [List.length_cons] at *
  omega
theorem atom_size {bs : List Bytes} {s : PS} (h : (s.named || s.is [40]) = true) : (s.atom term bs).1.size + 2 * (s.atom term bs).2.l.length + 1 ≤ 2 * s.l.length := by
  unfold PS.atom
  cases hi : s.is [40] with
  | true => rw [if_pos rfl]; exact inner_size hz hi
  | false =>
    rw [hi, Bool.or_false] at h
    obtain ⟨x, r, hl, he, hn⟩ := name_yes h
    rw [if_neg (by simp), hn]
    dsimp only
    rw [hl]
    split
    · rw [fail_l]; simp [T.size, sizes]; omega
    · have h1 := (head_mono x bs ⟨r, s.s, 0⟩).len
      have h2 := head_args x bs ⟨r, s.s, 0⟩
      generalize (PS.head x bs ⟨r, s.s, 0⟩) = q at *
      obtain ⟨⟨k, h, zs⟩, q2⟩ := q
      simp only [T.args] at h2
      subst h2
      simp only [List.length_cons, T.size, sizes] at *
      omega
theorem args_size' (bs : List Bytes) : ∀ m s, sizes (PS.args term bs m s).1 + 2 * (PS.args term bs m s).2.l.length ≤ 2 * s.l.length
  | 0, s => by simp [PS.args, sizes]
  | m + 1, s => by
    unfold PS.args
    split
    · rename_i h
      have h1 := atom_size hz (bs := bs) h
      have h2 := args_size' bs m (s.atom term bs).2
      simp only [sizes]
      omega
    · simp [sizes]
theorem atoms_size (bs : List Bytes) (s : PS) : (s.atoms term bs).1.size + 2 * (s.atoms term bs).2.l.length ≤ 2 * s.l.length + 1 := by
  unfold PS.atoms
  split
  · rename_i h
    have h1 := inner_size hz (bs := bs) h
    have h2 := (alone_mono (s.inner term bs).2).len
    dsimp only
    omega
  · dsimp only
    have h1 := (name_mono s).len
    split
    · simp [T.size, sizes]; omega
    · split
      · have h2 := (alone_mono s.name.2).len
        simp [T.size, sizes]; omega
      · have h2 := (head_mono s.name.1 bs s.name.2).len
        have h3 := args_size' hz bs (PS.head s.name.1 bs s.name.2).2.l.length (PS.head s.name.1 bs s.name.2).2
        simp only [T.size]; omega
end
theorem term_size : ∀ n bs s, (PS.term n bs s).1.size + 2 * (PS.term n bs s).2.l.length ≤ 2 * s.l.length + 1
  | 0, bs, s => by simp only [PS.term, fail_l]; simp [T.size, T.size, Go.AM.sizes]; omega
  | n + 1, bs, s => by
    have ih := term_size n
    unfold PS.term
    split
    · rename_i h
      obtain ⟨r, hl, he, htk⟩ := take_yes h
      dsimp only
      have h1 := (name_mono (s.take [123])).len
      have h2 := (take_mono [58] (s.take [123]).name.2).len
      have h3 := ih bs ((s.take [123]).name.2.take [58])
      have h4 := (take_mono [125] (PS.term n bs ((s.take [123]).name.2.take [58])).2).len
      have h5 := ih ((s.take [123]).name.1 :: bs) ((PS.term n bs ((s.take [123]).name.2.take [58])).2.take [125])
      have h6 : (s.take [123]).l.length + 1 = s.l.length := by rw [htk, hl]; rfl
      simp only [T.size, Go.AM.sizes]
      omega
    · split
      · rename_i h
        obtain ⟨r, hl, he, htk⟩ := take_yes h
        dsimp only
        have h1 := (name_mono (s.take [91])).len
        have h2 := (take_mono [93] (s.take [91]).name.2).len
        have h5 := ih ((s.take [91]).name.1 :: bs) ((s.take [91]).name.2.take [93])
        have h6 : (s.take [91]).l.length + 1 = s.l.length := by rw [htk, hl]; rfl
        simp only [T.size, Go.AM.sizes]
        omega
      · exact atoms_size ih bs s
theorem whole_size (s : PS) : s.whole.1.size ≤ 2 * s.l.length + 1 := by
  have := term_size 120 [] s
  unfold PS.whole
  dsimp only
  omega

/-! ### declarations -/
theorem fail_err8 {s : PS} : (s.fail 8).e ≠ 0 := fail_ne (by decide) s
theorem decl_mono (s : PS) : s.decl.l <:+ s.l ∧ s.decl.s.length = s.s.length + 1 ∧ (s.l ≠ [] → s.e = 0 → s.decl.l.length < s.l.length ∨ s.decl.e ≠ 0) := by
  unfold PS.decl
  dsimp only
  have m1 := name_mono s
  have key : ∀ s2 : PS, Mono s.name.2 s2 → ((s2.take [58]).whole.2.take [46]).l <:+ s.l ∧ (((s2.take [58]).whole.2.take [46]).s ++ [(⟨s.name.1, (s2.take [58]).whole.1⟩ : D)]).length = s.s.length + 1 ∧
      (s.l ≠ [] → s.e = 0 → ((s2.take [58]).whole.2.take [46]).l.length < s.l.length ∨ ((s2.take [58]).whole.2.take [46]).e ≠ 0) := by
    intro s2 h
    have m2 := h.trans (((take_mono [58] s2).trans (whole_mono _)).trans (take_mono [46] _))
    have m3 := m1.trans m2
    refine ⟨m3.suf, by simp [m3.sig], fun _ he => ?_⟩
    cases hn : s.named with
    | true =>
      obtain ⟨x, r, hl, _, ht⟩ := name_yes hn
      left
      have := m2.len
      rw [ht] at this
      rw [hl]
      simp only [List.length_cons] at *
      omega
    | false =>
      right
      have h1 : s.name.2.e ≠ 0 := by rw [name_no hn]; exact fail_err8
      rw [m2.err h1]
      exact h1
  split
  · exact key _ (fail_mono 8 _)
  · exact key _ .refl
end Go.Ama

/-! Terms that are read. -/
namespace Go.Proofs.LP
open Go Go.AM Go.Ama

/-- The reader reads terms of so many levels. -/
def TermOK (n : Nat) : Prop := ∀ (m : AM.Mode) (s : PS) (bs : List Bytes), bs.length + n ≤ 1000 → s.l.length ≤ 100000 → s.s.length ≤ 1000 →
  W.call 61 [.ref 0 0, .vec .plain none (encS bs.reverse), .int (121 - (n : Nat))] [boxP m s] = some (.ret (enc (s.term n bs).1), [boxP m (s.term n bs).2])

theorem lit_eq (c : Bytes) : V.str { data := c.toArray } = V.str (ba c) := rfl

section
variable {n : Nat} (hn : n ≤ 119) (ht : TermOK n)
include hn ht

theorem inner_spec (m : AM.Mode) (s : PS) (bs : List Bytes) (hb : bs.length + n ≤ 1000) (hl : s.l.length ≤ 100000) (hs : s.s.length ≤ 1000) :
    W.call 85 [.ref 0 0, .vec .plain none (encS bs.reverse), .int (120 - (n : Nat))] [boxP m s] = some (.ret (enc (s.inner (PS.term n) bs).1), [boxP m (s.inner (PS.term n) bs).2]) := by
  have hm := take_mono [40] s
  have hw : IntKind.i64.wrap (120 - (n : Nat) + 1) = 121 - (n : Nat) := by rw [wrap_id ⟨by omega, by omega⟩]; omega
  rw [C, e_parse_reader_inner, show V.str { data := #[40] } = V.str (ba [40]) from rfl, show V.str { data := #[41] } = V.str (ba [41]) from rfl,
    take_spec, obind_some', onRet_ret, onTup_tup, onNil_nil, hw, ht m (s.take [40]) bs hb (by have := hm.len; omega) (by rw [hm.sig]; exact hs), obind_some', onRet_ret, onStruct_enc, take_spec, obind_some', onRet_ret, onTup_tup, onNil_nil, ← enc_eta]
  rfl

theorem typ_lit (x : Bytes) : ((ba x).toList == ByteArray.toList { data := #[116, 121, 112, 101] }) = decide (x = typ) := ba_eq x typ

theorem cleanV_encF {s : PS} {x : Bytes} {bs : List Bytes} : cleanV (encF (s.head x bs).1) = enc (s.head x bs).1 := by
  have h := head_args x bs s
  generalize (s.head x bs).1 = t at *
  obtain ⟨k, h', zs⟩ := t
  simp only [T.args] at h
  subst h
  rfl

theorem atom_spec (m : AM.Mode) (s : PS) (bs : List Bytes) (hb : bs.length + n ≤ 1000) (hl : s.l.length ≤ 100000) (hs : s.s.length ≤ 1000) :
    W.call 87 [.ref 0 0, .vec .plain none (encS bs.reverse), .int (120 - (n : Nat))] [boxP m s] = some (.ret (enc (s.atom (PS.term n) bs).1), [boxP m (s.atom (PS.term n) bs).2]) := by
  have hm := name_mono s
  unfold PS.atom
  rw [C, e_parse_reader_atom, show V.str { data := #[40] } = V.str (ba [40]) from rfl, is_spec, obind_some', onRet_ret, onBool_bool]
  cases hi : s.is [40] with
  | true =>
    rw [bc_true, inner_spec hn ht m s bs hb hl hs, obind_some', onRet_ret, onStruct_enc, ← enc_eta]
    rfl
  | false =>
    rw [bc_false, name_spec', obind_some', onRet_ret, onStr_str, typ_lit hn ht]
    by_cases hx : s.name.1 = typ
    · simp only [hx, decide_true, bc_true, fail_spec]
      rfl
    · simp only [hx, decide_false, bc_false]
      rw [head_spec m s.name.2 s.name.1 bs (by omega) (by rw [hm.sig]; omega), obind_some', onRet_ret, cleanV_encF hn ht, onStruct_enc, ← enc_eta]
      simp only [Bool.false_eq_true, if_false]
      rfl

theorem args_spec (m : AM.Mode) (bs : List Bytes) (hb : bs.length + n ≤ 1000) (k h : Int) (v6 : V) : ∀ (q : Nat) (s : PS) (xs : List T), s.l.length ≤ q → s.l.length + xs.length ≤ 100000 → s.s.length ≤ 1000 →
    W.loop 78 9 [.loc true (some 3) (.agg [.int k, .int h, .vec .grow (some 3) (encs xs)]), .int (120 - (n : Nat)), .vec .plain none (encS bs.reverse), .ref 0 0, .loc true (some 3) v6] [boxP m s] =
      some (Ex.exit 1, [.loc true (some 3) v6, .loc true (some 3) (.agg [.int k, .int h, .vec .grow (some 3) (encs (xs ++ (PS.args (PS.term n) bs q s).1))])], [boxP m (PS.args (PS.term n) bs q s).2]) := by
  intro q
  induction q with
  | zero =>
    intro s xs hq hl hs
    have hnil : s.l = [] := List.eq_nil_of_length_eq_zero (by omega)
    have h1 : s.named = false := by simp [PS.named, hnil]
    have h2 : s.is [40] = false := by simp [PS.is, hnil]
    rw [L, e_parse_reader_atoms_L9, named_spec', obind_some', onRet_ret, onBool_bool, h1, bc_false, show V.str { data := #[40] } = V.str (ba [40]) from rfl, is_spec, obind_some', onRet_ret, onBool_bool, h2, bc_false]
    simp [PS.args]
  | succ q ih =>
    intro s xs hq hl hs
    have hr : roomFor Try.prog 44 (xs.length + 1) = true := room24 (by omega)
    have go : (s.named || s.is [40]) = true → obind (W.call 87 [V.ref 0 0, V.vec .plain none (encS bs.reverse), V.int (120 - (n : Nat))] [boxP m s])
        (fun r4 => onRet r4.fst (fun v5 => onStruct [CT.int, CT.int, CT.slice (some 3)] v5 fun n6 n7 l8 => gd (true && roomFor Try.prog 44 ((encs xs).length + [V.agg [V.int n6, V.int n7, V.vec .plain (some 3) l8]].length))
          (W.loop 78 9 [V.loc true (some 3) (V.agg [V.int k, V.int h, V.vec Mode.grow (some 3) (encs xs ++ [V.agg [V.int n6, V.int n7, V.vec .plain (some 3) l8]])]), V.int (120 - (n : Nat)), V.vec .plain none (encS bs.reverse), V.ref 0 0, V.loc true (some 3) v6] r4.snd)) fun p9 => none) =
        some (Ex.exit 1, [.loc true (some 3) v6, .loc true (some 3) (.agg [.int k, .int h, .vec .grow (some 3) (encs (xs ++ (PS.args (PS.term n) bs (q + 1) s).1))])], [boxP m (PS.args (PS.term n) bs (q + 1) s).2]) := by
      intro hc
      have hm := atom_mono (term_mono n) bs s
      have hlt := atom_lt (term_mono n) (bs := bs) hc
      rw [atom_spec hn ht m s bs hb (by omega) hs, obind_some', onRet_ret, onStruct_enc, ← enc_eta]
      simp only [encs_length, List.length_singleton, hr, Bool.and_self, gd_true]
      have := ih (s.atom (PS.term n) bs).2 (xs ++ [(s.atom (PS.term n) bs).1]) (by omega) (by simp; omega) (by rw [hm.sig]; exact hs)
      rw [encs_append, show encs [(s.atom (PS.term n) bs).1] = [enc (s.atom (PS.term n) bs).1] from rfl] at this
      rw [this]
      unfold PS.args
      rw [if_pos hc]
      simp only [List.append_assoc, List.singleton_append]
      cases q <;> rfl
    rw [L, e_parse_reader_atoms_L9, named_spec', obind_some', onRet_ret, onBool_bool]
    cases h1 : s.named with
    | true => rw [bc_true]; exact go (by simp [h1])
    | false =>
      rw [bc_false, show V.str { data := #[40] } = V.str (ba [40]) from rfl, is_spec, obind_some', onRet_ret, onBool_bool]
      cases h2 : s.is [40] with
      | true => rw [bc_true]; exact go (by simp [h2])
      | false =>
        rw [bc_false]
        simp [PS.args, h1, h2]

theorem atoms_spec (m : AM.Mode) (s : PS) (bs : List Bytes) (hb : bs.length + n ≤ 1000) (hl : s.l.length ≤ 100000) (hs : s.s.length ≤ 1000) :
    W.call 78 [.ref 0 0, .vec .plain none (encS bs.reverse), .int (120 - (n : Nat))] [boxP m s] = some (.ret (enc (s.atoms (PS.term n) bs).1), [boxP m (s.atoms (PS.term n) bs).2]) := by
  have hm := name_mono s
  unfold PS.atoms
  rw [C, e_parse_reader_atoms, show V.str { data := #[40] } = V.str (ba [40]) from rfl, is_spec, obind_some', onRet_ret, onBool_bool]
  cases hi : s.is [40] with
  | true =>
    rw [bc_true, inner_spec hn ht m s bs hb hl hs, obind_some', onRet_ret, onStruct_enc, ← enc_eta, alone_spec, obind_some', onRet_ret, onStruct_enc, ← enc_eta]
    rfl
  | false =>
    have hget : ∀ {R : Type} (K : Res → Option R) (s : PS), getR [boxP m s] 0 K = K (boxP m s) := fun K s => rfl
    have h3g : ∀ {R : Type} (a b c : V) (X : Option R), gd (decide (3 ≤ [a, b, c].length) && true) X = X := fun a b c X => rfl
    have hc : ∀ (s : PS), cleanV (AM.partOf [V.vec .plain (some 2) (encToks s.l), V.vec m (some 4) (encDs s.s), V.int s.e] 2 none) = .int s.e := fun s => rfl
    rw [bc_false, name_spec', obind_some', onRet_ret, onStr_str, hget, boxP, onBox_box, ← boxP, h3g, hc, onInt_int, typ_lit hn ht, bne_int]
    by_cases he : s.name.2.e = 0
    · by_cases hx : s.name.1 = typ
      · simp only [he, hx, decide_true, Bool.not_true, bc_false, bc_true, ne_eq, not_true_eq_false, if_true, if_false, Bool.false_eq_true]
        rw [show V.agg [V.int 0, V.int 0, V.vec .plain (some 3) []] = enc T0 from rfl, alone_spec, obind_some', onRet_ret, onStruct_enc, ← enc_eta]
        rfl
      · simp only [he, hx, decide_true, decide_false, Bool.not_true, bc_false, ne_eq, not_true_eq_false, if_false, Bool.false_eq_true]
        have hh := head_mono s.name.1 bs s.name.2
        have ha := head_args s.name.1 bs s.name.2
        rw [head_spec m s.name.2 s.name.1 bs (by omega) (by rw [hm.sig]; omega), obind_some', onRet_ret]
        have hon : ∀ {R : Type} (t : T) (K : Int → Int → Option R), onStruct (R := R) [CT.int, CT.int, CT.nil (some 3)] (encF t) K = K t.k t.h := fun t K => rfl
        rw [hon]
        have hlp := args_spec hn ht m bs hb (s.name.2.head s.name.1 bs).1.k (s.name.2.head s.name.1 bs).1.h (V.agg [V.int 0, V.int 0, V.vec Mode.full (some 3) []]) (s.name.2.head s.name.1 bs).2.l.length (s.name.2.head s.name.1 bs).2 [] (Nat.le_refl _)
          (by have h1 := hm.len; have h2 := hh.len; simp only [List.length_nil]; omega) (by rw [hh.sig, hm.sig]; exact hs)
        rw [show encs [] = ([] : List V) from rfl, List.nil_append] at hlp
        rw [hlp, obind_some', onEx_exit]
        rfl
    · simp only [he, decide_false, Bool.not_false, bc_true, ne_eq, not_false_eq_true, if_true, if_false, Bool.false_eq_true]
      rfl

theorem below_spec (m : AM.Mode) (s : PS) (x : Bytes) (bs : List Bytes) (hb : bs.length + 1 + n ≤ 1000) (hl : s.l.length ≤ 100000) (hs : s.s.length ≤ 1000) :
    W.call 77 [.ref 0 0, .str (ba x), .vec .plain none (encS bs.reverse), .int (120 - (n : Nat))] [boxP m s] = some (.ret (enc (s.term n (x :: bs)).1), [boxP m (s.term n (x :: bs)).2]) := by
  have hw : IntKind.i64.wrap (120 - (n : Nat) + 1) = 121 - (n : Nat) := by rw [wrap_id ⟨by omega, by omega⟩]; omega
  have hr : roomFor Try.prog 9 (bs.length + 1) = true := room_string (by omega)
  have h1 : ∀ z : Int, decide (z = z) = true := fun z => by simp
  have h2 : ∀ z : Int, decide (z ≤ z) = true := fun z => by simp
  have h3 : ∀ z : Nat, decide ((0 : Int) ≤ (z : Nat)) = true := fun z => by simp
  have := ht m s (x :: bs) (by simpa using hb) hl hs
  rw [List.reverse_cons, encS_append, show encS [x] = [V.str (ba x)] from rfl] at this
  rw [C, e_parse_reader_below]
  have h4 : List.take bs.length (encS bs.reverse) = encS bs.reverse := List.take_of_length_le (by simp)
  simp only [h1, h2, h3, h4, decide_true, Option.isSome_some, Int.toNat_natCast, List.drop_zero, encS_length, List.length_reverse, List.length_singleton, hr, Bool.and_self, gd_true, hw]
  rw [this, obind_some', onRet_ret, onStruct_enc, ← enc_eta]
  rfl
end

theorem term_ok : ∀ n : Nat, n ≤ 120 → TermOK n
  | 0, _ => fun m s bs _ _ _ => by
    rw [C, e_parse_reader_term]
    rw [show decide ((121 : Int) - ((0 : Nat) : Int) > 120) = true from rfl, bc_true, fail_spec, obind_some']
    rfl
  | n + 1, hn => fun m s bs hb hl hs => by
    have ih := term_ok n (by omega)
    have hd : ((121 : Int) - ((n + 1 : Nat) : Int)) = 120 - (n : Nat) := by omega
    have hgt : decide ((120 : Int) - (n : Nat) > 120) = false := by simp; omega
    have hw : IntKind.i64.wrap (120 - (n : Nat) + 1) = 121 - (n : Nat) := by rw [wrap_id ⟨by omega, by omega⟩]; omega
    unfold PS.term
    rw [hd, C, e_parse_reader_term, hgt, bc_false, show V.str { data := #[123] } = V.str (ba [123]) from rfl, show V.str { data := #[58] } = V.str (ba [58]) from rfl, show V.str { data := #[125] } = V.str (ba [125]) from rfl,
      show V.str { data := #[91] } = V.str (ba [91]) from rfl, show V.str { data := #[93] } = V.str (ba [93]) from rfl, is_spec, obind_some', onRet_ret, onBool_bool]
    cases h1 : s.is [123] with
    | true =>
      have m1 := (take_mono [123] s).trans (name_mono _)
      have m2 := m1.trans (take_mono [58] _)
      have m3 := m2.trans (term_mono n bs _)
      have m4 := m3.trans (take_mono [125] _)
      rw [bc_true, take_spec, obind_some', onRet_ret, onTup_tup, onNil_nil, name_spec', obind_some', onRet_ret, onStr_str, take_spec, obind_some', onRet_ret, onTup_tup, onNil_nil, hw,
        ih m _ bs (by omega) (by have := m2.len; omega) (by rw [m2.sig]; exact hs), obind_some', onRet_ret, onStruct_enc, take_spec, obind_some', onRet_ret, onTup_tup, onNil_nil,
        below_spec (by omega) ih m _ _ bs (by omega) (by have := m4.len; omega) (by rw [m4.sig]; exact hs), obind_some', onRet_ret, onStruct_enc, ← enc_eta, ← enc_eta]
      rfl
    | false =>
      rw [bc_false, is_spec, obind_some', onRet_ret, onBool_bool]
      cases h2 : s.is [91] with
      | true =>
        have m1 := (take_mono [91] s).trans (name_mono _)
        have m2 := m1.trans (take_mono [93] _)
        rw [bc_true, take_spec, obind_some', onRet_ret, onTup_tup, onNil_nil, name_spec', obind_some', onRet_ret, onStr_str, take_spec, obind_some', onRet_ret, onTup_tup, onNil_nil,
          below_spec (by omega) ih m _ _ bs (by omega) (by have := m2.len; omega) (by rw [m2.sig]; exact hs), obind_some', onRet_ret, onStruct_enc, ← enc_eta]
        rfl
      | false =>
        rw [bc_false, atoms_spec (by omega) ih m s bs (by omega) hl hs, obind_some', onRet_ret, onStruct_enc, ← enc_eta]
        rfl
end Go.Proofs.LP

/-! Declarations that are read. -/
namespace Go.Proofs.LP
open Go Go.AM Go.Ama

theorem whole_spec (m : AM.Mode) (s : PS) (hl : s.l.length ≤ 100000) (hs : s.s.length ≤ 1000) :
    W.call 49 [.ref 0 0] [boxP m s] = some (.ret (enc s.whole.1), [boxP m s.whole.2]) := by
  have hz := term_size 120 [] s
  have ht := term_ok 120 (Nat.le_refl _) m s [] (by simp) hl hs
  rw [show encS ([] : List Bytes).reverse = [] from rfl, show ((121 : Int) - ((120 : Nat) : Int)) = 1 from rfl] at ht
  unfold PS.whole
  rw [C, e_parse_reader_whole, ht, obind_some', onRet_ret, onStruct_enc, ← enc_eta, (pmay_spec _ (by omega)).p, obind_some', onBool_bool]
  dsimp only
  cases hmy : may (PS.term 120 [] s).1 with
  | true => rfl
  | false =>
    rw [Bool.not_false, bc_true, fail_spec, obind_some', onRet_ret, onTup_tup, onNil_nil]
    rfl

theorem tok_self (x : Bytes) (k : Int) (y : Bytes) : (k == 0 && (ba y).toList == (ba x).toList) = decide ((k, y) = ((0 : Int), x)) := by
  rw [ba_eq, beq_int]
  by_cases h1 : k = 0 <;> by_cases h2 : y = x <;> simp [h1, h2]

theorem getDl (x : Bytes) (h : 0 < x.length) : (((ba x).data.toList.getD (Int.toNat 0) 0).toNat : Int) = (x[0].toNat : Int) := by
  rw [Int.toNat_zero, byteAt h]

theorem Name_spec (x : Bytes) (hx : x.length ≤ 1048576) : Ev 24 [.str (ba x)] (.bool (nameOK x)) := by
  unfold Ev nameOK
  rw [C, e_parse_Name, ba_size]
  by_cases h0 : x.length = 0
  · have : ((x.length : Int) == 0) = true := by simp [h0]
    rw [this, bc_true]; simp [h0]
  · have h0' : ((x.length : Int) == 0) = false := by simp [h0]
    rw [h0', bc_false]
    by_cases h40 : x.length ≤ 40
    · have h40' : decide ((x.length : Int) > 40) = false := by simp; omega
      have hp : decide ((0 : Int) < (x.length : Int)) = true := by simp; omega
      rw [h40', bc_false, hp, Bool.true_and, gd_true, getDl x (by omega), beq_int]
      have hh : x.head? = some x[0] := by rw [List.head?_eq_getElem?, List.getElem?_eq_getElem (by omega)]
      by_cases h95 : x[0] = 95
      · have : decide ((x[0].toNat : Int) = 95) = true := by rw [h95]; rfl
        rw [this, bc_true]; simp [hh, h95]
      · have : decide ((x[0].toNat : Int) = 95) = false := by
          simp only [decide_eq_false_iff_not]
          intro h
          apply h95
          apply UInt8.toNat_inj.1
          have : (95 : UInt8).toNat = 95 := rfl
          omega
        rw [this, bc_false, show ByteArray.toList { data := #[116, 121, 112, 101] } = (ba typ).toList from rfl, ba_eq]
        by_cases ht : x = typ
        · simp only [ht, decide_true, bc_true]; simp
        · have hr : lexRes x = match toks x with | some l => (some l, 0) | none => (none, 8) := by unfold lexRes; rw [if_neg (by omega)]; cases toks x <;> rfl
          have hne : decide (x.head? ≠ some 95) = true := by rw [hh]; simp [h95]
          have hts := tokens_spec x hx
          rw [hr] at hts
          simp only [ht, decide_false, bc_false, bytesV_ba, h0, h40, hne, ne_eq, not_false_eq_true, decide_true, Bool.true_and, Bool.not_false]
          cases htk : toks x with
          | none =>
            rw [htk] at hts
            rw [hts.p (by simp [belowL, below, below_encB]) (by simp [encRes, below, belowL, below_encToks])]
            simp [encRes, bc]
          | some l =>
            rw [htk] at hts
            rw [hts.p (by simp [belowL, below, below_encB]) (by simp [encRes, below, belowL, below_encToks])]
            simp only [encRes, Option.getD_some, obind_some', onTup_tup, onCons_cons, onVec_plain, onInt_int, onNil_nil, beq_self_eq_true, bc_true, encToks_length]
            match l with
            | [] => simp [bc]
            | [t] =>
              obtain ⟨k, y⟩ := t
              rw [getI_tok0, onStruct_tok, tok_self]
              simp [bc]
            | t :: u :: l =>
              have : (((t :: u :: l : List Tok).length : Int) == 1) = false := by simp; omega
              rw [this, bc_false]; simp
    · have h40' : decide ((x.length : Int) > 40) = true := by simp; omega
      rw [h40', bc_true]; simp [h40]

theorem tail_spec (m : AM.Mode) (hm : m = .grow ∨ m = .full) (x : Bytes) (s0 s : PS) (hl : s.l.length ≤ 100000) (hs : s.s.length ≤ 999) :
    (obind (W.call 57 [V.ref 0 0, V.str { data := #[58] }] [boxP m s]) fun r9 => onRet r9.fst (fun v10 => onTup v10 fun c11 => onNil c11 (obind (W.call 49 [V.ref 0 0] r9.snd) fun r12 => onRet
      r12.fst (fun v13 => onStruct [CT.int, CT.int, CT.slice (some 3)] v13 fun n14 n15 l16 => obind (W.call 57 [V.ref 0 0, V.str { data := #[46] }] r12.snd) fun r17 =>
      onRet r17.fst (fun v18 => onTup v18 fun c19 => onNil c19 (getR r17.snd 0 fun x20 => onBox x20 fun c21 => gd (decide (1 < c21.length) && true && true) (onRoom2 (some 4) (c21.getD
      1 V.undef) (fun l22 => gd (true && roomFor Try.prog 46 (l22.length + [V.agg [V.str (ba x), V.int n14, V.int n15, V.vec .plain (some 3) l16]].length)) (getR (List.set
      r17.snd 0 (Res.box (c21.set 1 (V.vec .plain (some 4) l22)))) 0 fun x23 => onBox x23 fun c24 => gd (decide (2 ≤ c24.length) && true) (gcE (List.length [boxP m s0]) (V.tup []) ((List.set
      r17.snd 0 (Res.box (c21.set 1 (V.vec .plain (some 4) l22)))).set 0 (Res.box (setCells c24 1 [V.vec Mode.grow (some 4) (l22 ++ [V.agg [V.str (ba x), V.int n14, V.int n15, V.vec
      .plain (some 3) l16]])])))))) fun l25 => gd (true && roomFor Try.prog 46 (l25.length + [V.agg [V.str (ba x), V.int n14, V.int n15, V.vec .plain (some 3) l16]].length))
      (getR (List.set r17.snd 0 (Res.box (c21.set 1 (V.vec .plain (some 4) l25)))) 0 fun x26 => onBox x26 fun c27 => gd (decide (2 ≤ c27.length) && true) (gcE (List.length [boxP m s0]) (V.tup
      []) ((List.set r17.snd 0 (Res.box (c21.set 1 (V.vec .plain (some 4) l25)))).set 0 (Res.box (setCells c27 1 [V.vec Mode.grow (some 4) (l25 ++ [V.agg [V.str (ba x), V.int n14, V.int
      n15, V.vec .plain (some 3) l16]])])))))))) fun p28 => none) fun p29 => none)) fun p30 => none) =
    some (.ret (.tup []), [boxP .grow { (s.take [58]).whole.2.take [46] with s := ((s.take [58]).whole.2.take [46]).s ++ [⟨x, (s.take [58]).whole.1⟩] }]) := by
  have m1 := take_mono [58] s
  have m2 := m1.trans (whole_mono _)
  have m3 := m2.trans (take_mono [46] _)
  rw [show V.str { data := #[58] } = V.str (ba [58]) from rfl, show V.str { data := #[46] } = V.str (ba [46]) from rfl, take_spec, obind_some', onRet_ret, onTup_tup, onNil_nil,
    whole_spec m _ (by have := m1.len; omega) (by rw [m1.sig]; omega), obind_some', onRet_ret, onStruct_enc, take_spec, obind_some', onRet_ret, onTup_tup, onNil_nil]
  have hz : ((s.take [58]).whole.2.take [46]).s.length ≤ 999 := by rw [m3.sig]; exact hs
  generalize (s.take [58]).whole.2.take [46] = q at *
  generalize (s.take [58]).whole.1 = t at *
  have hr : roomFor Try.prog 46 (q.s.length + 1) = true := room_decl (by omega)
  have hap : encDs q.s ++ [V.agg [V.str (ba x), V.int t.k, V.int t.h, V.vec .plain (some 3) (encs t.args)]] = encDs (q.s ++ [⟨x, t⟩]) := by rw [encDs_append]; rfl
  have hget : ∀ {R : Type} (y : Res) (K : Res → Option R), getR [y] 0 K = K y := fun y K => rfl
  have h1g : ∀ {R : Type} (a b c : V) (X : Option R), gd (decide (1 < [a, b, c].length) && true && true) X = X := fun a b c X => rfl
  have h2g : ∀ {R : Type} (a b c : V) (X : Option R), gd (decide (2 ≤ [a, b, c].length) && true) X = X := fun a b c X => rfl
  have hset : ∀ (y z : Res), List.set [y] 0 z = [z] := fun y z => rfl
  have hcs : ∀ a b c d : V, [a, b, c].set 1 d = [a, d, c] := fun a b c d => rfl
  have hsc : ∀ a b c d : V, setCells [a, b, c] 1 [d] = [a, d, c] := fun a b c d => rfl
  have hgD : ∀ a b c : V, [a, b, c].getD 1 V.undef = b := fun a b c => rfl
  rcases hm with rfl | rfl
  · simp only [boxP, hget, onBox_box, h1g, hgD, onRoom2_grow, encDs_length, List.length_singleton, hr, Bool.and_self, gd_true, hset, hcs, h2g, hsc, hap]
    exact gcE_len rfl
  · simp only [boxP, hget, onBox_box, h1g, hgD, onRoom2_full, encDs_length, List.length_singleton, hr, Bool.and_self, gd_true, hset, hcs, h2g, hsc, hap]
    exact gcE_len rfl

theorem decl_spec (m : AM.Mode) (hm : m = .grow ∨ m = .full) (s : PS) (hl : s.l.length ≤ 100000) (hs : s.s.length ≤ 999) (hn : ∀ t ∈ s.l, t.2.length ≤ 1048576) :
    W.call 41 [.ref 0 0] [boxP m s] = some (.ret (.tup []), [boxP .grow s.decl]) := by
  have m1 := name_mono s
  have m2 := m1.trans (fail_mono 8 s.name.2)
  have hx : s.name.1.length ≤ 1048576 := by
    cases h : s.named with
    | true =>
      obtain ⟨x, r, hl, he, ht⟩ := name_yes h
      rw [ht]; exact hn (0, x) (by rw [hl]; simp)
    | false => rw [name_no h]; simp
  have l1 := m1.len
  have l2 := m2.len
  have t1 := tail_spec m hm s.name.1 s s.name.2 (by omega) (by rw [m1.sig]; exact hs)
  have t2 := tail_spec m hm s.name.1 s (s.name.2.fail 8) (by omega) (by rw [m2.sig]; exact hs)
  unfold PS.decl
  dsimp only
  rw [C, e_parse_reader_decl, name_spec', obind_some', onRet_ret, onStr_str, (Name_spec s.name.1 hx).p, obind_some', onBool_bool]
  cases hk : nameOK s.name.1 with
  | false =>
    rw [Bool.not_false, bc_true, fail_spec, obind_some', onRet_ret, onTup_tup, onNil_nil]
    simp only [Bool.not_false, Bool.true_or, if_true]
    exact t2
  | true =>
    have hget : ∀ {R : Type} (y : Res) (K : Res → Option R), getR [y] 0 K = K y := fun y K => rfl
    have h2g : ∀ {R : Type} (a b c : V) (X : Option R), gd (decide (2 ≤ [a, b, c].length) && true) X = X := fun a b c X => rfl
    have hcl : cleanV (AM.partOf [V.vec .plain (some 2) (encToks s.name.2.l), V.vec m (some 4) (encDs s.name.2.s), V.int s.name.2.e] 1 none) = .vec .plain (some 4) (encDs s.name.2.s) := by cases m <;> rfl
    rw [Bool.not_true, bc_false, hget, boxP, onBox_box, ← boxP, h2g, hcl, onVec_plain, containsFunc_spec (names2 s.name.1) s.name.2.s _ (by rw [m1.sig]; omega), obind_some', onRet_ret, onBool_bool]
    cases hc : (idx s.name.1 s.name.2.s).isSome with
    | true =>
      rw [bc_true, fail_spec, obind_some', onRet_ret, onTup_tup, onNil_nil]
      simp only [Bool.or_true, if_true]
      exact t2
    | false =>
      rw [bc_false]
      simp only [Bool.not_true, Bool.or_self, Bool.false_eq_true, if_false]
      exact t1
end Go.Proofs.LP

/-! Texts that are read. -/
namespace Go.Proofs.LP
open Go Go.AM Go.Ama

theorem mem_weight : ∀ {l : List Tok} {t : Tok}, t ∈ l → t.2.length ≤ weight l
  | (k, s) :: l, t, h => by
    rcases List.mem_cons.1 h with rfl | h
    · simp only [weight]; omega
    · have := mem_weight h
      simp only [weight]; omega

theorem lexR_eq (b : Bytes) : (lexRes b).1.getD [] = (lexR b).1 ∧ (lexRes b).2 = (lexR b).2 := by
  unfold lexRes lexR
  split
  · exact ⟨rfl, rfl⟩
  · cases toks b <;> exact ⟨rfl, rfl⟩
theorem lexR_small (b : Bytes) : (lexR b).1.length ≤ 20000 ∧ ∀ t ∈ (lexR b).1, t.2.length ≤ 1048576 := by
  unfold lexR
  split
  · exact ⟨by simp, by simp⟩
  · cases h : toks b with
    | none => exact ⟨by simp, by simp⟩
    | some l =>
      have h1 := toks_weight b l h
      have h2 := length_le_weight l (toks_ok b l h)
      refine ⟨by simp only; omega, fun t ht => ?_⟩
      have ht : t ∈ l := ht
      exact Nat.le_trans (mem_weight ht) (by omega)
theorem lexR_p (b : Bytes) (h : b.length ≤ 1048576) : pcall W 16 [.vec .plain none (encB b)] = some (.tup [.vec .plain (some 2) (encToks (lexR b).1), .int (lexR b).2]) := by
  have := (tokens_spec b h).p (by simp [belowL, below, below_encB]) (by simp [encRes, below, belowL, below_encToks])
  rw [encRes, (lexR_eq b).1, (lexR_eq b).2] at this
  exact this

theorem decls_loop : ∀ (q : Nat) (m : AM.Mode) (s : PS), (m = .grow ∨ m = .full) → (s.l.length ≤ q ∨ s.e ≠ 0) → s.l.length ≤ 100000 → s.s.length ≤ 999 → (∀ t ∈ s.l, t.2.length ≤ 1048576) →
    ∃ m', W.loop 22 3 [.ref 0 0] [boxP m s] = some (Ex.exit 0, [.ref 0 0], [boxP m' (PS.decls q s)]) := by
  have hget : ∀ {R : Type} (y : Res) (K : Res → Option R), getR [y] 0 K = K y := fun y K => rfl
  have h1g : ∀ {R : Type} (a b c : V) (X : Option R), gd (decide (1 ≤ [a, b, c].length) && true) X = X := fun a b c X => rfl
  have h2g : ∀ {R : Type} (a b c : V) (X : Option R), gd (decide (2 ≤ [a, b, c].length) && true) X = X := fun a b c X => rfl
  have h3g : ∀ {R : Type} (a b c : V) (X : Option R), gd (decide (3 ≤ [a, b, c].length) && true) X = X := fun a b c X => rfl
  have c0 : ∀ (m : AM.Mode) (s : PS), cleanV (AM.partOf [V.vec .plain (some 2) (encToks s.l), V.vec m (some 4) (encDs s.s), V.int s.e] 0 none) = .vec .plain (some 2) (encToks s.l) := fun m s => rfl
  have c1 : ∀ (m : AM.Mode) (s : PS), cleanV (AM.partOf [V.vec .plain (some 2) (encToks s.l), V.vec m (some 4) (encDs s.s), V.int s.e] 1 none) = .vec .plain (some 4) (encDs s.s) := fun m s => by cases m <;> rfl
  have c2 : ∀ (m : AM.Mode) (s : PS), cleanV (AM.partOf [V.vec .plain (some 2) (encToks s.l), V.vec m (some 4) (encDs s.s), V.int s.e] 2 none) = .int s.e := fun m s => rfl
  have stop : ∀ (q : Nat) (m : AM.Mode) (s : PS), (s.l = [] ∨ s.e ≠ 0) → W.loop 22 3 [.ref 0 0] [boxP m s] = some (Ex.exit 0, [.ref 0 0], [boxP m (PS.decls q s)]) := by
    intro q m s h
    have hd : PS.decls q s = s := by
      cases q with
      | zero => rfl
      | succ q =>
        unfold PS.decls
        rw [if_neg]
        rcases h with h | h
        · simp [h]
        · simp [h]
    rw [hd, L, e_parse_Decls_L3]
    simp only [hget, boxP, onBox_box, h1g, h3g, c0, c2, onVec_plain, onInt_int]
    by_cases hl : s.l = []
    · simp [hl, bc, encToks]
    · have he : s.e ≠ 0 := by rcases h with h | h; exact absurd h hl; exact h
      have hp : decide ((((encToks s.l).length : Nat) : Int) > 0) = true := by
        have := List.length_pos_iff.2 hl
        simp; exact List.length_pos_iff.2 hl
      rw [hp, bc_true, beq_int]
      simp [he, bc]
  intro q
  induction q with
  | zero =>
    intro m s hm hq _ _ _
    refine ⟨m, stop 0 m s ?_⟩
    rcases hq with h | h
    · exact .inl (List.eq_nil_of_length_eq_zero (by omega))
    · exact .inr h
  | succ q ih =>
    intro m s hm hq hl hs ht
    by_cases hc : s.l ≠ [] ∧ s.e = 0
    · have hp : decide ((((encToks s.l).length : Nat) : Int) > 0) = true := by simp; exact List.length_pos_iff.2 hc.1
      have e0 : (s.e == 0) = true := by simp [hc.2]
      unfold PS.decls
      rw [if_pos hc]
      by_cases h40 : s.s.length ≥ 40
      · have h4 : decide ((s.s.length : Int) ≥ 40) = true := by simp; omega
        rw [if_pos h40]
        refine ⟨m, ?_⟩
        have hf := fail_spec m s 4
        rw [L, e_parse_Decls_L3]
        unfold boxP at hf ⊢
        simp only [hget, onBox_box, h1g, h2g, h3g, c0, c1, c2, onVec_plain, onInt_int, hp, e0, bc_true, encDs_length, h4, hf, obind_some', onRet_ret, onTup_tup, onNil_nil]
      · have h4 : decide ((s.s.length : Int) ≥ 40) = false := by simp; omega
        rw [if_neg h40]
        obtain ⟨d1, d2, d3⟩ := decl_mono s
        have d4 := d1.length_le
        have hd := decl_spec m hm s hl hs ht
        obtain ⟨m', h⟩ := ih .grow s.decl (.inl rfl) (by
          rcases d3 hc.1 hc.2 with h | h
          · left
            rcases hq with hq | hq
            · omega
            · exact absurd hc.2 hq
          · exact .inr h) (by omega) (by omega) (fun t h => ht t (d1.subset h))
        refine ⟨m', ?_⟩
        rw [← h, L, e_parse_Decls_L3]
        have hd' := hd
        unfold boxP at hd' 
        rw [boxP]
        simp only [hget, onBox_box, h1g, h2g, h3g, c0, c1, c2, onVec_plain, onInt_int, hp, e0, bc_true, encDs_length, h4, bc_false, hd', obind_some', onRet_ret, onTup_tup, onNil_nil]
        rfl
    · have : s.l = [] ∨ s.e ≠ 0 := by
        by_cases hl : s.l = []
        · exact .inl hl
        · exact .inr fun he => hc ⟨hl, he⟩
      exact ⟨m, stop (q + 1) m s this⟩

theorem Decls_spec (b : Bytes) (hb : b.length ≤ 1048576) : Ev 22 [.vec .plain none (encB b)] (.tup [.vec .plain (some 4) (encDs (declsOf b).1), .int (declsOf b).2]) := by
  have hget : ∀ {R : Type} (y : Res) (K : Res → Option R), getR [y] 0 K = K y := fun y K => rfl
  have h2g : ∀ {R : Type} (a b c : V) (X : Option R), gd (decide (2 ≤ [a, b, c].length) && true) X = X := fun a b c X => rfl
  have h3g : ∀ {R : Type} (a b c : V) (X : Option R), gd (decide (3 ≤ [a, b, c].length) && true) X = X := fun a b c X => rfl
  have c1 : ∀ (m : AM.Mode) (s : PS), cleanV (AM.partOf [V.vec .plain (some 2) (encToks s.l), V.vec m (some 4) (encDs s.s), V.int s.e] 1 none) = .vec .plain (some 4) (encDs s.s) := fun m s => by cases m <;> rfl
  have c2 : ∀ (m : AM.Mode) (s : PS), cleanV (AM.partOf [V.vec .plain (some 2) (encToks s.l), V.vec m (some 4) (encDs s.s), V.int s.e] 2 none) = .int s.e := fun m s => rfl
  obtain ⟨z1, z2⟩ := lexR_small b
  obtain ⟨m', h⟩ := decls_loop (lexR b).1.length .full ⟨(lexR b).1, [], (lexR b).2⟩ (.inr rfl) (.inl (Nat.le_refl _)) (by simp only; omega) (by simp) z2
  unfold Ev declsOf
  rw [C, e_parse_Decls, lexR_p b hb, obind_some', onTup_tup, onCons_cons, onVec_plain, onCons_cons, onInt_int, onNil_nil]
  have h' : W.loop 22 3 [V.ref 0 0] [Res.box [V.vec .plain (some 2) (encToks (lexR b).1), V.vec Mode.full (some 4) [], V.int (lexR b).2]] = _ := h
  rw [h', obind_some', onEx_exit]
  dsimp only
  generalize PS.decls (lexR b).1.length ⟨(lexR b).1, [], (lexR b).2⟩ = s
  rw [show Nat.beq 0 0 = true from rfl, bc_true, onCons_cons, onRef_ref, onNil_nil]
  simp only [hget, boxP, onBox_box, h2g, h3g, c1, c2, onVec_plain, onInt_int, bne_int]
  by_cases he : s.e = 0
  · have hbl : below 0 (V.tup [V.vec .plain (some 4) (encDs s.s), V.int 0]) = true := by simp [below, belowL, below_encDs]
    simp only [he, decide_true, Bool.not_true, bc_false, hbl, ne_eq, not_true_eq_false, if_false, Bool.true_and]
    rfl
  · simp only [he, decide_false, Bool.not_false, bc_true, ne_eq, not_false_eq_true, if_true]
    rfl

theorem Term_spec (b : Bytes) (sig : List D) (hb : b.length ≤ 1048576) (hs : sig.length ≤ 999) :
    Ev 28 [.vec .plain none (encB b), .vec .plain (some 4) (encDs sig)] (.tup [enc (termOf b sig).1, .int (termOf b sig).2]) := by
  have hget : ∀ {R : Type} (y : Res) (K : Res → Option R), getR [y] 0 K = K y := fun y K => rfl
  have h1g : ∀ {R : Type} (a b c : V) (X : Option R), gd (decide (1 ≤ [a, b, c].length) && true) X = X := fun a b c X => rfl
  have h3g : ∀ {R : Type} (a b c : V) (X : Option R), gd (decide (3 ≤ [a, b, c].length) && true) X = X := fun a b c X => rfl
  have c0 : ∀ (s : PS), cleanV (AM.partOf [V.vec .plain (some 2) (encToks s.l), V.vec .plain (some 4) (encDs s.s), V.int s.e] 0 none) = .vec .plain (some 2) (encToks s.l) := fun s => rfl
  have c2 : ∀ (s : PS), cleanV (AM.partOf [V.vec .plain (some 2) (encToks s.l), V.vec .plain (some 4) (encDs s.s), V.int s.e] 2 none) = .int s.e := fun s => rfl
  obtain ⟨z1, z2⟩ := lexR_small b
  have hw := whole_spec .plain ⟨(lexR b).1, sig, (lexR b).2⟩ (by simp only; omega) (by simp only; omega)
  unfold Ev termOf
  rw [C, e_parse_Term, lexR_p b hb, obind_some', onTup_tup, onCons_cons, onVec_plain, onCons_cons, onInt_int, onNil_nil]
  have hw' : W.call 49 [V.ref 0 0] [Res.box [V.vec .plain (some 2) (encToks (lexR b).1), V.vec .plain (some 4) (encDs sig), V.int (lexR b).2]] = _ := hw
  rw [hw', obind_some', onRet_ret, onStruct_enc, ← enc_eta]
  dsimp only
  generalize (PS.whole ⟨(lexR b).1, sig, (lexR b).2⟩) = r
  obtain ⟨t, s⟩ := r
  dsimp only
  have fin : ∀ s : PS, (bc (s.e != 0) (some (Out.ret (V.tup [V.agg [V.int 0, V.int 0, V.vec .plain (some 3) []], V.int s.e]), ([] : St))) (gd (below 0 (V.tup [enc t, V.int 0]) && belowSt 0 []) (some (Out.ret (V.tup [enc t, V.int 0]), [])))) =
      some (Out.ret (V.tup [enc (if s.e ≠ 0 then (T0, s.e) else (t, 0)).1, V.int (if s.e ≠ 0 then (T0, s.e) else (t, (0 : Int))).2]), []) := by
    intro s
    rw [bne_int]
    have hbl : below 0 (V.tup [enc t, V.int 0]) = true := by simp [below, belowL, below_enc]
    by_cases he : s.e = 0
    · simp only [he, decide_true, Bool.not_true, bc_false, hbl, ne_eq, not_true_eq_false, if_false, Bool.true_and]; rfl
    · simp only [he, decide_false, Bool.not_false, bc_true, ne_eq, not_false_eq_true, if_true]; rfl
  have hf := fail_spec .plain s 8
  by_cases hl : s.l = []
  · have hp : decide ((((encToks s.l).length : Nat) : Int) > 0) = false := by simp [hl, encToks]
    have := fin s
    rw [show (if s.l ≠ [] then s.fail 8 else s) = s from if_neg fun h => h hl]
    simp only [hget, boxP, onBox_box, h1g, h3g, c0, c2, onVec_plain, onInt_int, hp, bc_false, this]
  · have hp : decide ((((encToks s.l).length : Nat) : Int) > 0) = true := by simp; exact List.length_pos_iff.2 hl
    have := fin (s.fail 8)
    unfold boxP at hf
    rw [show (if s.l ≠ [] then s.fail 8 else s) = s.fail 8 from if_pos hl]
    simp only [hget, boxP, onBox_box, h1g, h3g, c0, c2, onVec_plain, onInt_int, hp, bc_true, hf, obind_some', onRet_ret, onTup_tup, onNil_nil, this]
end Go.Proofs.LP

namespace Go.Proofs.LP
open Go Go.AM
set_option maxRecDepth 20000

theorem e_ref14_Decls (O : Oracle) (l0 : (List V)) : callBody Try.prog cfg O 32 [.vec .plain none l0] [] =
  obind (pcall O 17 [V.vec .plain none l0]) fun r1 => onTup r1 fun c2 => onCons c2 fun v3 c4 => onVec (some 2) v3 fun l5 => onCons c4 fun v6 c7 => onInt v6 fun n8 =>
  onNil c7 (bc (n8 != 0) (some (Out.ret (V.tup [V.vec .plain (some 4) [], V.int n8]), [])) (obind (O.loop 32 5 [V.ref 0 0] [Res.box [V.vec .plain (some 2) l5, V.vec
  Mode.full (some 4) [], V.int 0]]) fun r9 => onEx r9.fst none (onCons r9.snd.fst fun v10 c11 => onVec (some 4) v10 fun l12 => onCons c11 fun v13 c14 => onInt v13 fun n15 => onNil
  c14 (gd (below 0 (V.tup [V.vec .plain (some 4) l12, V.int n15]) && belowSt 0 []) (some (Out.ret (V.tup [V.vec .plain (some 4) l12, V.int n15]), [])))) (fun i16 => bc (i16.beq 0)
  (onCons r9.snd.fst fun v17 c18 => onRef v17 fun q19 => onNil c18 (getR r9.snd.snd q19 fun x20 => onBox x20 fun c21 => gd (decide (3 ≤ c21.length) && true) (onInt (cleanV
  (AM.partOf c21 2 none)) fun n22 => bc (n22 != 0) (getR r9.snd.snd q19 fun x23 => onBox x23 fun c24 => gd (decide (3 ≤ c24.length) && true) (onInt (cleanV (AM.partOf c24 2 none))
  fun n25 => some (Out.ret (V.tup [V.vec .plain (some 4) [], V.int n25]), []))) (getR r9.snd.snd q19 fun x26 => onBox x26 fun c27 => gd (decide (2 ≤ c27.length) && true) (onVec
  (some 4) (cleanV (AM.partOf c27 1 none)) fun l28 => gd (below 0 (V.tup [V.vec .plain (some 4) l28, V.int 0]) && belowSt 0 []) (some (Out.ret (V.tup [V.vec .plain (some 4) l28,
  V.int 0]), []))))))) none) fun v29 => none)) := by kernel_rfl

theorem e_ref14_Decls_L5 (O : Oracle) (r0 : Nat) (st : St) : loopBody Try.prog cfg O 32 5 [.ref r0 0] st =
  getR st r0 fun x1 => onBox x1 fun c2 => gd (decide (1 ≤ c2.length) && true) (onVec (some 2) (cleanV (AM.partOf c2 0 none)) fun l3 => bc (decide ((↑l3.length : Int) > 0)) (getR st
  r0 fun x4 => onBox x4 fun c5 => gd (decide (3 ≤ c5.length) && true) (onInt (cleanV (AM.partOf c5 2 none)) fun n6 => bc (n6 == 0) (getR st r0 fun x7 => onBox x7 fun c8 => gd
  (decide (2 ≤ c8.length) && true) (onVec (some 4) (cleanV (AM.partOf c8 1 none)) fun l9 => bc (decide ((↑l9.length : Int) ≥ 40)) (some (Ex.ret, [V.vec .plain (some 4) [], V.int 4],
  st)) (obind (O.call 51 [V.ref r0 0] st) fun r10 => onRet r10.fst (fun v11 => onTup v11 fun c12 => onNil c12 (O.2 32 5 [V.ref r0 0] r10.snd)) fun p13 =>
  none))) (some (Ex.exit 0, [V.ref r0 0], st)))) (some (Ex.exit 0, [V.ref r0 0], st))) := by kernel_rfl

theorem e_ref14_Reader_decl (O : Oracle) (r0 : Nat) (st : St) : callBody Try.prog cfg O 51 [.ref r0 0] st =
  obind (O.call 64 [V.ref r0 0] st) fun r1 => onRet r1.fst (fun v2 => onStr v2 fun s3 => obind (pcall O 65 [V.str s3]) fun r4 => onBool r4 fun b5 => bc
  (!b5) (obind (O.call 66 [V.ref r0 0, V.int 8] r1.snd) fun r6 => onRet r6.fst (fun v7 => onTup v7 fun c8 => onNil c8 (obind (O.loop 51 5 [V.int 0,
  V.ref r0 0, V.str s3] r6.snd) fun r9 => onEx r9.fst none none (fun i10 => bc (i10.beq 0) (onCons r9.snd.fst fun v11 c12 => onStr v11 fun s13 => onCons c12 fun v14 c15 => onRef v14
  fun q16 => onNil c15 (obind (O.call 67 [V.ref q16 0, V.str { data := #[58] }] r9.snd.snd) fun r17 => onRet r17.fst (fun v18 => onTup v18 fun c19 => onNil c19
  (obind (O.call 68 [V.ref q16 0] r17.snd) fun r20 => onRet r20.fst (fun v21 => onStruct [CT.int, CT.int, CT.slice (some 3)] v21 fun n22 n23 l24 => obind (O.call
  67 [V.ref q16 0, V.str { data := #[46] }] r20.snd) fun r25 => onRet r25.fst (fun v26 => onTup v26 fun c27 => onNil c27 (getR r25.snd q16 fun x28 => onBox x28 fun
  c29 => gd (decide (1 < c29.length) && true && true) (onRoom2 (some 4) (c29.getD 1 V.undef) (fun l30 => gd (true && roomFor Try.prog 46 (l30.length + [V.agg [V.str s13,
  V.int n22, V.int n23, V.vec .plain (some 3) l24]].length)) (getR (List.set r25.snd q16 (Res.box (c29.set 1 (V.vec .plain (some 4) l30)))) q16 fun x31 => onBox x31 fun c32 => gd
  (decide (2 ≤ c32.length) && true) (gcE (List.length st) (V.tup []) ((List.set r25.snd q16 (Res.box (c29.set 1 (V.vec .plain (some 4) l30)))).set q16 (Res.box (setCells c32 1
  [V.vec Mode.grow (some 4) (l30 ++ [V.agg [V.str s13, V.int n22, V.int n23, V.vec .plain (some 3) l24]])])))))) fun l33 => gd (true && roomFor Try.prog 46 (l33.length +
  [V.agg [V.str s13, V.int n22, V.int n23, V.vec .plain (some 3) l24]].length)) (getR (List.set r25.snd q16 (Res.box (c29.set 1 (V.vec .plain (some 4) l33)))) q16 fun x34 => onBox
  x34 fun c35 => gd (decide (2 ≤ c35.length) && true) (gcE (List.length st) (V.tup []) ((List.set r25.snd q16 (Res.box (c29.set 1 (V.vec .plain (some 4) l33)))).set q16 (Res.box
  (setCells c35 1 [V.vec Mode.grow (some 4) (l33 ++ [V.agg [V.str s13, V.int n22, V.int n23, V.vec .plain (some 3) l24]])])))))))) fun p36 => none) fun p37 => none)) fun p38 =>
  none)) none) fun v39 => none)) fun p40 => none) (obind (O.loop 51 5 [V.int 0, V.ref r0 0, V.str s3] r1.snd) fun r41 => onEx r41.fst none none (fun i42 => bc
  (i42.beq 0) (onCons r41.snd.fst fun v43 c44 => onStr v43 fun s45 => onCons c44 fun v46 c47 => onRef v46 fun q48 => onNil c47 (obind (O.call 67 [V.ref q48 0, V.str
  { data := #[58] }] r41.snd.snd) fun r49 => onRet r49.fst (fun v50 => onTup v50 fun c51 => onNil c51 (obind (O.call 68 [V.ref q48 0] r49.snd) fun r52 => onRet
  r52.fst (fun v53 => onStruct [CT.int, CT.int, CT.slice (some 3)] v53 fun n54 n55 l56 => obind (O.call 67 [V.ref q48 0, V.str { data := #[46] }] r52.snd) fun r57
  => onRet r57.fst (fun v58 => onTup v58 fun c59 => onNil c59 (getR r57.snd q48 fun x60 => onBox x60 fun c61 => gd (decide (1 < c61.length) && true && true) (onRoom2 (some 4)
  (c61.getD 1 V.undef) (fun l62 => gd (true && roomFor Try.prog 46 (l62.length + [V.agg [V.str s45, V.int n54, V.int n55, V.vec .plain (some 3) l56]].length)) (getR
  (List.set r57.snd q48 (Res.box (c61.set 1 (V.vec .plain (some 4) l62)))) q48 fun x63 => onBox x63 fun c64 => gd (decide (2 ≤ c64.length) && true) (gcE (List.length st) (V.tup [])
  ((List.set r57.snd q48 (Res.box (c61.set 1 (V.vec .plain (some 4) l62)))).set q48 (Res.box (setCells c64 1 [V.vec Mode.grow (some 4) (l62 ++ [V.agg [V.str s45, V.int n54, V.int
  n55, V.vec .plain (some 3) l56]])])))))) fun l65 => gd (true && roomFor Try.prog 46 (l65.length + [V.agg [V.str s45, V.int n54, V.int n55, V.vec .plain (some 3)
  l56]].length)) (getR (List.set r57.snd q48 (Res.box (c61.set 1 (V.vec .plain (some 4) l65)))) q48 fun x66 => onBox x66 fun c67 => gd (decide (2 ≤ c67.length) && true) (gcE
  (List.length st) (V.tup []) ((List.set r57.snd q48 (Res.box (c61.set 1 (V.vec .plain (some 4) l65)))).set q48 (Res.box (setCells c67 1 [V.vec Mode.grow (some 4) (l65 ++ [V.agg
  [V.str s45, V.int n54, V.int n55, V.vec .plain (some 3) l56]])])))))))) fun p68 => none) fun p69 => none)) fun p70 => none)) none) fun v71 => none)) fun p72 => none := by kernel_rfl

theorem e_ref14_Reader_decl_L5 (O : Oracle) (n0 : Int) (r1 : Nat) (s2 : ByteArray) (st : St) : loopBody Try.prog cfg O 51 5 [.int n0, .ref r1 0, .str s2] st =
  getR st r1 fun x1 => onBox x1 fun c2 => gd (decide (2 ≤ c2.length) && true) (onVec (some 4) (cleanV (AM.partOf c2 1 none)) fun l3 => bc (decide (n0 < (↑l3.length : Int))) (getR st
  r1 fun x4 => onBox x4 fun c5 => gd (decide (2 ≤ c5.length) && true) (onVec (some 4) (cleanV (AM.partOf c5 1 none)) fun l6 => gd (decide (0 ≤ n0) && decide (n0 < (↑l6.length :
  Int))) (onAgg (getI l6 n0) fun c7 => gd (decide (1 ≤ c7.length)) (onStr (AM.partOf c7 0 none) fun s8 => bc (s8.toList == s2.toList) (obind (O.call 66 [V.ref r1 0,
  V.int 8] st) fun r9 => onRet r9.fst (fun v10 => onTup v10 fun c11 => onNil c11 (O.2 51 5 [V.int (IntKind.i64.wrap (n0 + 1)), V.ref r1 0, V.str s2] r9.snd)) fun
  p12 => none) (O.2 51 5 [V.int (IntKind.i64.wrap (n0 + 1)), V.ref r1 0, V.str s2] st))))) (some (Ex.exit 0, [V.str s2, V.ref r1 0], st))) := by kernel_rfl

theorem e_ref14_Reader_name (O : Oracle) (l s : List V) (m : AM.Mode) (e : Int) : callBody Try.prog cfg O 64 [.ref 0 0] [.box [.vec .plain (some 2) l, .vec m (some 4) s, .int e]] =
  bc (e != 0) (obind (O.call 66 [V.ref 0 0, V.int 8] [Res.box [V.vec .plain (some 2) l, V.vec m (some 4) s, V.int e]]) fun r1 => onRet r1.fst (fun v2 => onTup v2
  fun c3 => onNil c3 (gcE [Res.box [V.vec .plain (some 2) l, V.vec m (some 4) s, V.int e]].length (V.str { data := #[] }) r1.snd)) fun p4 => none) (bc ((↑l.length : Int) == 0)
  (obind (O.call 66 [V.ref 0 0, V.int 8] [Res.box [V.vec .plain (some 2) l, V.vec m (some 4) s, V.int e]]) fun r5 => onRet r5.fst (fun v6 => onTup v6 fun c7 =>
  onNil c7 (gcE [Res.box [V.vec .plain (some 2) l, V.vec m (some 4) s, V.int e]].length (V.str { data := #[] }) r5.snd)) fun p8 => none) (gd (true && decide (0 < (↑l.length : Int)))
  (onAgg (getI l 0) fun c9 => gd (decide (1 ≤ c9.length)) (onInt (AM.partOf c9 0 none) fun n10 => bc (n10 != 0) (obind (O.call 66 [V.ref 0 0, V.int 8] [Res.box
  [V.vec .plain (some 2) l, V.vec m (some 4) s, V.int e]]) fun r11 => onRet r11.fst (fun v12 => onTup v12 fun c13 => onNil c13 (gcE [Res.box [V.vec .plain (some 2) l, V.vec m (some
  4) s, V.int e]].length (V.str { data := #[] }) r11.snd)) fun p14 => none) (gd (true && decide (0 < (↑l.length : Int))) (onAgg (getI l 0) fun c15 => gd (decide (2 ≤ c15.length))
  (onStr (AM.partOf c15 1 none) fun s16 => gd (true && decide (1 ≤ (↑l.length : Int)) && decide ((↑l.length : Int) ≤ (↑l.length : Int))) (some (Out.ret (V.str s16), [Res.box [V.vec
  .plain (some 2) (List.drop 1 (List.take (↑l.length : Int).toNat l)), V.vec m (some 4) s, V.int e]]))))))))) := by kernel_rfl

theorem e_ref14_Name (O : Oracle) (s0 : ByteArray) : callBody Try.prog cfg O 65 [.str s0] [] =
  obind (pcall O 17 [V.vec .plain none (bytesV s0)]) fun r1 => onTup r1 fun c2 => onCons c2 fun v3 c4 => onVec (some 2) v3 fun l5 => onCons c4 fun v6 c7 => onInt v6 fun
  n8 => onNil c7 (bc (n8 != 0) (some (Out.ret (V.bool false), [])) (bc (decide ((↑s0.size : Int) < 1)) (some (Out.ret (V.bool false), [])) (bc (decide ((↑s0.size : Int) > 40)) (some
  (Out.ret (V.bool false), [])) (bc (s0.toList == (ByteArray.toList { data := #[116, 121, 112, 101] })) (some (Out.ret (V.bool false), [])) (gd (true && decide (0 < (↑s0.size :
  Int))) (bc ((↑(s0.data.toList.getD (Int.toNat 0) 0).toNat : Int) == 95) (some (Out.ret (V.bool false), [])) (bc ((↑l5.length : Int) == 1) (gd (true && decide (0 < (↑l5.length :
  Int))) (onAgg (getI l5 0) fun c9 => gd (decide (1 ≤ c9.length)) (onInt (AM.partOf c9 0 none) fun n10 => bc (n10 == 0) (gd (true && decide (0 < (↑l5.length : Int))) (onAgg (getI l5
  0) fun c11 => gd (decide (2 ≤ c11.length)) (onStr (AM.partOf c11 1 none) fun s12 => some (Out.ret (V.bool (s12.toList == s0.toList)), [])))) (some (Out.ret (V.bool false), [])))))
  (some (Out.ret (V.bool false), []))))))))) := by kernel_rfl

theorem e_ref14_Reader_fail (O : Oracle) (l s : List V) (m : AM.Mode) (e n : Int) : callBody Try.prog cfg O 66 [.ref 0 0, .int n] [.box [.vec .plain (some 2) l, .vec m (some 4) s, .int e]] =
  bc (e == 0) (some (Out.ret (V.tup []), [Res.box [V.vec .plain (some 2) l, V.vec m (some 4) s, V.int n]])) (some (Out.ret (V.tup []), [Res.box [V.vec .plain (some 2) l, V.vec m
  (some 4) s, V.int e]])) := by kernel_rfl

theorem e_ref14_Reader_take (O : Oracle) (r0 : Nat) (s1 : ByteArray) (st : St) : callBody Try.prog cfg O 67 [.ref r0 0, .str s1] st =
  obind (O.call 80 [V.ref r0 0, V.str s1] st) fun r1 => onRet r1.fst (fun v2 => onBool v2 fun b3 => bc (!b3) (obind (O.call 66 [V.ref r0 0, V.int
  8] r1.snd) fun r4 => onRet r4.fst (fun v5 => onTup v5 fun c6 => onNil c6 (gcE (List.length st) (V.tup []) r4.snd)) fun p7 => none) (getR r1.snd r0 fun x8 => onBox x8 fun c9 => gd
  (decide (1 ≤ c9.length) && true) (onVec (some 2) (cleanV (AM.partOf c9 0 none)) fun l10 => gd (true && decide (1 ≤ (↑l10.length : Int)) && decide ((↑l10.length : Int) ≤
  (↑l10.length : Int))) (getR r1.snd r0 fun x11 => onBox x11 fun c12 => gd (decide (1 ≤ c12.length) && true) (gcE (List.length st) (V.tup []) (List.set r1.snd r0 (Res.box (setCells
  c12 0 [V.vec .plain (some 2) (List.drop 1 (List.take (↑l10.length : Int).toNat l10))])))))))) fun p13 => none := by kernel_rfl

theorem e_ref14_Reader_whole (O : Oracle) (r0 : Nat) (st : St) : callBody Try.prog cfg O 68 [.ref r0 0] st =
  obind (O.call 81 [V.ref r0 0, V.vec .plain none [], V.int 1] st) fun r1 => onRet r1.fst (fun v2 => onStruct [CT.int, CT.int, CT.slice (some 3)] v2 fun n3 n4 l5 =>
  obind (pcall O 82 [V.agg [V.int n3, V.int n4, V.vec .plain (some 3) l5]]) fun r6 => onBool r6 fun b7 => getR r1.snd r0 fun x8 => onBox x8 fun c9 => gd (decide (3 ≤
  c9.length) && true) (onInt (cleanV (AM.partOf c9 2 none)) fun n10 => bc (n10 == 0) (bc (!b7) (obind (O.call 66 [V.ref r0 0, V.int 4] r1.snd) fun r11 => onRet
  r11.fst (fun v12 => onTup v12 fun c13 => onNil c13 (gcE (List.length st) (V.agg [V.int n3, V.int n4, V.vec .plain (some 3) l5]) r11.snd)) fun p14 => none) (gcE (List.length st)
  (V.agg [V.int n3, V.int n4, V.vec .plain (some 3) l5]) r1.snd)) (gcE (List.length st) (V.agg [V.int n3, V.int n4, V.vec .plain (some 3) l5]) r1.snd))) fun p15 => none := by kernel_rfl

theorem e_ref14_Reader_mark (O : Oracle) (l s : List V) (m : AM.Mode) (e : Int) (t : ByteArray) : callBody Try.prog cfg O 80 [.ref 0 0, .str t] [.box [.vec .plain (some 2) l, .vec m (some 4) s, .int e]] =
  bc (e == 0) (bc (decide ((↑l.length : Int) > 0)) (gd (true && decide (0 < (↑l.length : Int))) (onAgg (getI l 0) fun c1 => gd (decide (1 ≤ c1.length)) (onInt (AM.partOf c1 0 none)
  fun n2 => bc (n2 == 1) (gd (true && decide (0 < (↑l.length : Int))) (onAgg (getI l 0) fun c3 => gd (decide (2 ≤ c3.length)) (onStr (AM.partOf c3 1 none) fun s4 => some (Out.ret
  (V.bool (s4.toList == t.toList)), [Res.box [V.vec .plain (some 2) l, V.vec m (some 4) s, V.int e]])))) (some (Out.ret (V.bool false), [Res.box [V.vec .plain (some 2) l, V.vec m
  (some 4) s, V.int e]]))))) (some (Out.ret (V.bool false), [Res.box [V.vec .plain (some 2) l, V.vec m (some 4) s, V.int e]]))) (some (Out.ret (V.bool false), [Res.box [V.vec .plain
  (some 2) l, V.vec m (some 4) s, V.int e]])) := by kernel_rfl

theorem e_ref14_Reader_term (O : Oracle) (r0 : Nat) (l1 : (List V)) (n2 : Int) (st : St) : callBody Try.prog cfg O 81 [.ref r0 0, .vec .plain none l1, .int n2] st =
  bc (decide (n2 > 120)) (obind (O.call 66 [V.ref r0 0, V.int 4] st) fun r1 => onRet r1.fst (fun v2 => onTup v2 fun c3 => onNil c3 (gcE (List.length st) (V.agg
  [V.int 0, V.int 0, V.vec .plain (some 3) []]) r1.snd)) fun p4 => none) (obind (O.call 80 [V.ref r0 0, V.str { data := #[123] }] st) fun r5 => onRet r5.fst (fun v6
  => onBool v6 fun b7 => obind (O.call 80 [V.ref r0 0, V.str { data := #[91] }] r5.snd) fun r8 => onRet r8.fst (fun v9 => onBool v9 fun b10 => bc b7 (obind (O.call
  67 [V.ref r0 0, V.str { data := #[123] }] r8.snd) fun r11 => onRet r11.fst (fun v12 => onTup v12 fun c13 => onNil c13 (obind (O.call 64 [V.ref r0
  0] r11.snd) fun r14 => onRet r14.fst (fun v15 => onStr v15 fun s16 => obind (O.call 67 [V.ref r0 0, V.str { data := #[58] }] r14.snd) fun r17 => onRet r17.fst
  (fun v18 => onTup v18 fun c19 => onNil c19 (obind (O.call 81 [V.ref r0 0, V.vec .plain none l1, V.int (IntKind.i64.wrap (n2 + 1))] r17.snd) fun r20 => onRet
  r20.fst (fun v21 => onStruct [CT.int, CT.int, CT.slice (some 3)] v21 fun n22 n23 l24 => obind (O.call 67 [V.ref r0 0, V.str { data := #[125] }] r20.snd) fun r25
  => onRet r25.fst (fun v26 => onTup v26 fun c27 => onNil c27 (gd (true && roomFor Try.prog 9 (0 + l1.length)) (gd (true && roomFor Try.prog 9 (([] ++ l1).length
  + [V.str s16].length)) (obind (O.call 81 [V.ref r0 0, V.vec .plain none ([] ++ l1 ++ [V.str s16]), V.int (IntKind.i64.wrap (n2 + 1))] r25.snd) fun r28 => onRet
  r28.fst (fun v29 => onStruct [CT.int, CT.int, CT.slice (some 3)] v29 fun n30 n31 l32 => gcE (List.length st) (V.agg [V.int 1, V.int 0, V.vec .plain (some 3) [V.agg [V.int n22,
  V.int n23, V.vec .plain (some 3) l24], V.agg [V.int n30, V.int n31, V.vec .plain (some 3) l32]]]) r28.snd) fun p33 => none)))) fun p34 => none) fun p35 => none)) fun p36 => none)
  fun p37 => none)) fun p38 => none) (bc b10 (obind (O.call 67 [V.ref r0 0, V.str { data := #[91] }] r8.snd) fun r39 => onRet r39.fst (fun v40 => onTup v40 fun c41
  => onNil c41 (obind (O.call 64 [V.ref r0 0] r39.snd) fun r42 => onRet r42.fst (fun v43 => onStr v43 fun s44 => obind (O.call 67 [V.ref r0 0,
  V.str { data := #[93] }] r42.snd) fun r45 => onRet r45.fst (fun v46 => onTup v46 fun c47 => onNil c47 (gd (true && roomFor Try.prog 9 (0 + l1.length)) (gd (true &&
  roomFor Try.prog 9 (([] ++ l1).length + [V.str s44].length)) (obind (O.call 81 [V.ref r0 0, V.vec .plain none ([] ++ l1 ++ [V.str s44]), V.int
  (IntKind.i64.wrap (n2 + 1))] r45.snd) fun r48 => onRet r48.fst (fun v49 => onStruct [CT.int, CT.int, CT.slice (some 3)] v49 fun n50 n51 l52 => gcE (List.length st) (V.agg [V.int
  3, V.int 0, V.vec .plain (some 3) [V.agg [V.int n50, V.int n51, V.vec .plain (some 3) l52]]]) r48.snd) fun p53 => none)))) fun p54 => none) fun p55 => none)) fun p56 => none)
  (obind (O.call 88 [V.ref r0 0, V.vec .plain none l1, V.int n2] r8.snd) fun r57 => onRet r57.fst (fun v58 => onStruct [CT.int, CT.int, CT.slice (some 3)] v58 fun
  n59 n60 l61 => gcE (List.length st) (V.agg [V.int n59, V.int n60, V.vec .plain (some 3) l61]) r57.snd) fun p62 => none))) fun p63 => none) fun p64 => none) := by kernel_rfl

theorem e_ref14_Reader_app (O : Oracle) (r0 : Nat) (l1 : (List V)) (n2 : Int) (st : St) : callBody Try.prog cfg O 88 [.ref r0 0, .vec .plain none l1, .int n2] st =
  obind (O.call 80 [V.ref r0 0, V.str { data := #[40] }] st) fun r1 => onRet r1.fst (fun v2 => onBool v2 fun b3 => bc b3 (obind (O.call 92 [V.ref
  r0 0, V.vec .plain none l1, V.int n2] r1.snd) fun r4 => onRet r4.fst (fun v5 => onStruct [CT.int, CT.int, CT.slice (some 3)] v5 fun n6 n7 l8 => obind (O.call 93
  [V.ref r0 0] r4.snd) fun r9 => onRet r9.fst (fun v10 => onBool v10 fun b11 => bc b11 (obind (O.call 66 [V.ref r0 0, V.int 8] r9.snd) fun r12 => onRet r12.fst (fun
  v13 => onTup v13 fun c14 => onNil c14 (gcE (List.length st) (V.agg [V.int n6, V.int n7, V.vec .plain (some 3) l8]) r12.snd)) fun p15 => none) (gcE (List.length st) (V.agg [V.int
  n6, V.int n7, V.vec .plain (some 3) l8]) r9.snd)) fun p16 => none) fun p17 => none) (obind (O.call 64 [V.ref r0 0] r1.snd) fun r18 => onRet r18.fst (fun v19 =>
  onStr v19 fun s20 => getR r18.snd r0 fun x21 => onBox x21 fun c22 => gd (decide (3 ≤ c22.length) && true) (onInt (cleanV (AM.partOf c22 2 none)) fun n23 => bc (n23 != 0) (gcE
  (List.length st) (V.agg [V.int 0, V.int 0, V.vec .plain (some 3) []]) r18.snd) (bc (s20.toList == (ByteArray.toList { data := #[116, 121, 112, 101] })) (obind (O.call
  93 [V.ref r0 0] r18.snd) fun r24 => onRet r24.fst (fun v25 => onBool v25 fun b26 => bc b26 (obind (O.call 66 [V.ref r0 0, V.int 8] r24.snd) fun
  r27 => onRet r27.fst (fun v28 => onTup v28 fun c29 => onNil c29 (gcE (List.length st) (V.agg [V.int 0, V.int 0, V.vec .plain (some 3) []]) r27.snd)) fun p30 => none) (gcE
  (List.length st) (V.agg [V.int 0, V.int 0, V.vec .plain (some 3) []]) r24.snd)) fun p31 => none) (obind (O.call 94 [V.ref r0 0, V.str s20, V.vec .plain none l1]
  r18.snd) fun r32 => onRet r32.fst (fun v33 => onStruct [CT.int, CT.int, CT.nil (some 3)] v33 fun n34 n35 => obind (O.call 93 [V.ref r0 0] r32.snd) fun r36 =>
  onRet r36.fst (fun v37 => onBool v37 fun b38 => obind (O.loop 88 18 [V.ref r0 0, V.loc true (some 3) (V.agg [V.int n34, V.int n35, V.vec Mode.grow (some 3) []]),
  V.int n2, V.vec .plain none l1, V.loc true (some 3) (V.agg [V.int 0, V.int 0, V.vec Mode.full (some 3) []]), V.bool b38] r36.snd) fun r39 => onEx r39.fst none none (fun i40 => bc
  (i40.beq 0) (onCons r39.snd.fst fun v41 c42 => onLoc (some 3) v41 fun d43 v44 => onCons c42 fun v45 c46 => onLoc (some 3) v45 fun d47 v48 => onAgg v48 fun c49 => onCons c49 fun
  v50 c51 => onInt v50 fun n52 => onCons c51 fun v53 c54 => onInt v53 fun n55 => onCons c54 fun v56 c57 => onRoom (some 3) v56 fun l58 => onNil c57 (onNil c46 (gcE (List.length st)
  (V.agg [V.int n52, V.int n55, V.vec .plain (some 3) l58]) r39.snd.snd))) none) fun v59 => none) fun p60 => none) fun p61 => none)))) fun p62 => none)) fun p63 => none := by kernel_rfl

theorem e_ref14_Reader_app_L18 (O : Oracle) (r0 : Nat) (n1 : Int) (n2 : Int) (l3 : (List V)) (n4 : Int) (l5 : (List V)) (v6 : V) (b7 : Bool) (st : St) : loopBody Try.prog cfg O 88 18 [.ref r0 0, .loc true (some 3) (.agg [.int n1, .int n2, .vec .grow (some 3) l3]), .int n4, .vec .plain none l5, .loc true (some 3) v6, .bool b7] st =
  bc b7 (obind (O.call 80 [V.ref r0 0, V.str { data := #[40] }] st) fun r1 => onRet r1.fst (fun v2 => onBool v2 fun b3 => bc b3 (obind (O.call 92
  [V.ref r0 0, V.vec .plain none l5, V.int n4] r1.snd) fun r4 => onRet r4.fst (fun v5 => onStruct [CT.int, CT.int, CT.slice (some 3)] v5 fun n6 n7 l8 => gd (true && roomFor Try.prog
  44 (l3.length + [V.agg [V.int n6, V.int n7, V.vec .plain (some 3) l8]].length)) (obind (O.call 93 [V.ref r0 0] r4.snd) fun r9 => onRet r9.fst (fun
  v10 => onBool v10 fun b11 => O.2 88 18 [V.ref r0 0, V.loc true (some 3) (V.agg [V.int n1, V.int n2, V.vec Mode.grow (some 3) (l3 ++ [V.agg [V.int n6, V.int n7,
  V.vec .plain (some 3) l8]])]), V.int n4, V.vec .plain none l5, V.loc true (some 3) v6, V.bool b11] r9.snd) fun p12 => none)) fun p13 => none) (obind (O.call 64
  [V.ref r0 0] r1.snd) fun r14 => onRet r14.fst (fun v15 => onStr v15 fun s16 => bc (s16.toList == (ByteArray.toList { data := #[116, 121, 112, 101] })) (obind (O.call
  66 [V.ref r0 0, V.int 8] r14.snd) fun r17 => onRet r17.fst (fun v18 => onTup v18 fun c19 => onNil c19 (obind (O.call 93 [V.ref r0 0] r17.snd)
  fun r20 => onRet r20.fst (fun v21 => onBool v21 fun b22 => O.2 88 18 [V.ref r0 0, V.loc true (some 3) (V.agg [V.int n1, V.int n2, V.vec Mode.grow (some 3) l3]),
  V.int n4, V.vec .plain none l5, V.loc true (some 3) v6, V.bool b22] r20.snd) fun p23 => none)) fun p24 => none) (obind (O.call 94 [V.ref r0 0, V.str s16, V.vec
  .plain none l5] r14.snd) fun r25 => onRet r25.fst (fun v26 => onStruct [CT.int, CT.int, CT.slice (some 3)] (cleanV v26) fun n27 n28 l29 => gd (true && roomFor Try.prog
  44 (l3.length + [V.agg [V.int n27, V.int n28, V.vec .plain (some 3) l29]].length)) (obind (O.call 93 [V.ref r0 0] r25.snd) fun r30 => onRet r30.fst
  (fun v31 => onBool v31 fun b32 => O.2 88 18 [V.ref r0 0, V.loc true (some 3) (V.agg [V.int n1, V.int n2, V.vec Mode.grow (some 3) (l3 ++ [V.agg [V.int n27, V.int
  n28, V.vec .plain (some 3) l29]])]), V.int n4, V.vec .plain none l5, V.loc true (some 3) v6, V.bool b32] r30.snd) fun p33 => none)) fun p34 => none)) fun p35 => none)) fun p36 =>
  none) (some (Ex.exit 0, [V.loc true (some 3) v6, V.loc true (some 3) (V.agg [V.int n1, V.int n2, V.vec Mode.grow (some 3) l3])], st)) := by kernel_rfl

theorem e_ref14_Reader_inner (O : Oracle) (r0 : Nat) (l1 : (List V)) (n2 : Int) (st : St) : callBody Try.prog cfg O 92 [.ref r0 0, .vec .plain none l1, .int n2] st =
  obind (O.call 67 [V.ref r0 0, V.str { data := #[40] }] st) fun r1 => onRet r1.fst (fun v2 => onTup v2 fun c3 => onNil c3 (obind (O.call 81 [V.ref
  r0 0, V.vec .plain none l1, V.int (IntKind.i64.wrap (n2 + 1))] r1.snd) fun r4 => onRet r4.fst (fun v5 => onStruct [CT.int, CT.int, CT.slice (some 3)] v5 fun n6 n7 l8 => obind
  (O.call 67 [V.ref r0 0, V.str { data := #[41] }] r4.snd) fun r9 => onRet r9.fst (fun v10 => onTup v10 fun c11 => onNil c11 (gcE (List.length st) (V.agg [V.int n6,
  V.int n7, V.vec .plain (some 3) l8]) r9.snd)) fun p12 => none) fun p13 => none)) fun p14 => none := by kernel_rfl

theorem e_ref14_Reader_begins (O : Oracle) (r0 : Nat) (st : St) : callBody Try.prog cfg O 93 [.ref r0 0] st =
  obind (O.call 80 [V.ref r0 0, V.str { data := #[40] }] st) fun r1 => onRet r1.fst (fun v2 => onBool v2 fun b3 => bc b3 (gcE (List.length st) (V.bool true) r1.snd)
  (getR r1.snd r0 fun x4 => onBox x4 fun c5 => gd (decide (3 ≤ c5.length) && true) (onInt (cleanV (AM.partOf c5 2 none)) fun n6 => bc (n6 == 0) (getR r1.snd r0 fun x7 => onBox x7
  fun c8 => gd (decide (1 ≤ c8.length) && true) (onVec (some 2) (cleanV (AM.partOf c8 0 none)) fun l9 => bc (decide ((↑l9.length : Int) > 0)) (getR r1.snd r0 fun x10 => onBox x10
  fun c11 => gd (decide (1 ≤ c11.length) && true) (onVec (some 2) (cleanV (AM.partOf c11 0 none)) fun l12 => gd (true && decide (0 < (↑l12.length : Int))) (onAgg (getI l12 0) fun
  c13 => gd (decide (1 ≤ c13.length)) (onInt (AM.partOf c13 0 none) fun n14 => gcE (List.length st) (V.bool (n14 == 0)) r1.snd)))) (gcE (List.length st) (V.bool false) r1.snd)))
  (gcE (List.length st) (V.bool false) r1.snd)))) fun p15 => none := by kernel_rfl

theorem e_ref14_Reader_head (O : Oracle) (l s : List V) (m : AM.Mode) (e : Int) (t : ByteArray) (bs : List V) : callBody Try.prog cfg O 94 [.ref 0 0, .str t, .vec .plain none bs] [.box [.vec .plain (some 2) l, .vec m (some 4) s, .int e]] =
  obind (O.loop 94 2 [V.loc true (some 3) (V.agg [V.int 0, V.int 0, V.vec Mode.full (some 3) []]), V.int (IntKind.i64.wrap ((↑bs.length : Int) - 1)), V.vec .plain
  none bs, V.str t, V.ref 0 0] [Res.box [V.vec .plain (some 2) l, V.vec m (some 4) s, V.int e]]) fun r1 => onEx r1.fst none (onCons r1.snd.fst fun v2 c3 => onLoc (some 3) v2 fun d4
  v5 => onNil c3 (gcE [Res.box [V.vec .plain (some 2) l, V.vec m (some 4) s, V.int e]].length (dropV v5) r1.snd.snd)) (fun i6 => bc (i6.beq 0) (onCons r1.snd.fst fun v7 c8 => onLoc
  (some 3) v7 fun d9 v10 => onCons c8 fun v11 c12 => onRef v11 fun q13 => onCons c12 fun v14 c15 => onStr v14 fun s16 => onNil c15 (obind (O.loop 94 7 [V.loc true
  (some 3) v10, V.int 0, V.ref q13 0, V.str s16] r1.snd.snd) fun r17 => onEx r17.fst none (onCons r17.snd.fst fun v18 c19 => onLoc (some 3) v18 fun d20 v21 => onNil c19 (gcE
  [Res.box [V.vec .plain (some 2) l, V.vec m (some 4) s, V.int e]].length (dropV v21) r17.snd.snd)) (fun i22 => bc (i22.beq 2) (onCons r17.snd.fst fun v23 c24 => onLoc (some 3) v23
  fun d25 v26 => onCons c24 fun v27 c28 => onRef v27 fun q29 => onNil c28 (obind (O.call 66 [V.ref q29 0, V.int 2] r17.snd.snd) fun r30 => onRet r30.fst (fun v31 =>
  onTup v31 fun c32 => onNil c32 (gcE [Res.box [V.vec .plain (some 2) l, V.vec m (some 4) s, V.int e]].length (V.agg [V.int 0, V.int 0, V.vec Mode.full (some 3) []]) r30.snd)) fun
  p33 => none)) none) fun v34 => none)) none) fun v35 => none := by kernel_rfl

theorem e_ref14_Reader_head_L2 (O : Oracle) (v0 : V) (n1 : Int) (l2 : (List V)) (s3 : ByteArray) (r4 : Nat) (st : St) : loopBody Try.prog cfg O 94 2 [.loc true (some 3) v0, .int n1, .vec .plain none l2, .str s3, .ref r4 0] st =
  bc (decide (n1 ≥ 0)) (gd (decide (0 ≤ n1) && decide (n1 < (↑l2.length : Int))) (onStr (getI l2 n1) fun s1 => bc (s1.toList == s3.toList) (some (Ex.ret, [V.loc false (some 3)
  (V.agg [V.int 4, V.int (IntKind.i64.wrap (IntKind.i64.wrap ((↑l2.length : Int) - 1) - n1)), V.vec Mode.full (some 3) []])], st)) (O.2 94 2 [V.loc true (some 3)
  v0, V.int (IntKind.i64.wrap (n1 - 1)), V.vec .plain none l2, V.str s3, V.ref r4 0] st))) (some (Ex.exit 0, [V.loc true (some 3) v0, V.ref r4 0, V.str s3], st)) := by kernel_rfl

theorem e_ref14_Reader_head_L7 (O : Oracle) (v0 : V) (n1 : Int) (r2 : Nat) (s3 : ByteArray) (st : St) : loopBody Try.prog cfg O 94 7 [.loc true (some 3) v0, .int n1, .ref r2 0, .str s3] st =
  getR st r2 fun x1 => onBox x1 fun c2 => gd (decide (2 ≤ c2.length) && true) (onVec (some 4) (cleanV (AM.partOf c2 1 none)) fun l3 => bc (decide (n1 < (↑l3.length : Int))) (getR st
  r2 fun x4 => onBox x4 fun c5 => gd (decide (2 ≤ c5.length) && true) (onVec (some 4) (cleanV (AM.partOf c5 1 none)) fun l6 => gd (decide (0 ≤ n1) && decide (n1 < (↑l6.length :
  Int))) (onAgg (getI l6 n1) fun c7 => gd (decide (1 ≤ c7.length)) (onStr (AM.partOf c7 0 none) fun s8 => bc (s8.toList == s3.toList) (getR st r2 fun x9 => onBox x9 fun c10 => gd
  (decide (2 ≤ c10.length) && true) (onVec (some 4) (cleanV (AM.partOf c10 1 none)) fun l11 => gd (decide (0 ≤ n1) && decide (n1 < (↑l11.length : Int))) (onAgg (getI l11 n1) fun c12
  => gd (decide (4 ≤ c12.length)) (onCells [CT.int, CT.int, CT.slice (some 3)] (List.take 3 (List.drop 1 c12)) fun n13 n14 l15 => obind (pcall O 96 [V.agg [V.int n13,
  V.int n14, V.vec .plain (some 3) l15]]) fun r16 => onBool r16 fun b17 => bc b17 (some (Ex.ret, [V.loc false (some 3) (V.agg [V.int 2, V.int n1, V.vec Mode.full (some 3) []])],
  st)) (some (Ex.ret, [V.loc false (some 3) (V.agg [V.int 5, V.int n1, V.vec Mode.full (some 3) []])], st)))))) (O.2 94 7 [V.loc true (some 3) v0, V.int
  (IntKind.i64.wrap (n1 + 1)), V.ref r2 0, V.str s3] st))))) (some (Ex.exit 2, [V.loc true (some 3) v0, V.ref r2 0], st))) := by kernel_rfl

end Go.Proofs.LP

/-! Words that simp takes. -/
namespace Go.Ama
open Go Go.AM
section
variable {R : Type}
@[simp] theorem onT3 (a b : Int) (l : List V) (K : Int → Int → List V → Option R) : onStruct (R := R) [CT.int, CT.int, CT.slice (some 3)] (.agg [.int a, .int b, .vec .plain (some 3) l]) K = K a b l := rfl
@[simp] theorem onTe (t : T) (K : Int → Int → List V → Option R) : onStruct (R := R) [CT.int, CT.int, CT.slice (some 3)] (enc t) K = K t.k t.h (encs t.args) := by cases t; rfl
@[simp] theorem onC3 (a b : Int) (l : List V) (K : Int → Int → List V → Option R) : onCells (R := R) [CT.int, CT.int, CT.slice (some 3)] [.int a, .int b, .vec .plain (some 3) l] K = K a b l := rfl
@[simp] theorem onTok (t : Tok) (K : Int → ByteArray → Option R) : onStruct (R := R) [CT.int, CT.str] (encTok t) K = K t.1 (ba t.2) := rfl
@[simp] theorem onD4 (s : ByteArray) (a b : Int) (l : List V) (K : ByteArray → Int → Int → List V → Option R) : onStruct (R := R) [CT.str, CT.int, CT.int, CT.slice (some 3)] (.agg [.str s, .int a, .int b, .vec .plain (some 3) l]) K = K s a b l := rfl
@[simp] theorem onDe (d : D) (K : ByteArray → Int → Int → List V → Option R) : onStruct (R := R) [CT.str, CT.int, CT.int, CT.slice (some 3)] (encD d) K = K (ba d.name) d.t.k d.t.h (encs d.t.args) := rfl
@[simp] theorem onDt (d : D) (K : Int → Int → List V → Option R) : onAgg (encD d) (fun c => gd (decide (4 ≤ c.length)) (onCells (R := R) [CT.int, CT.int, CT.slice (some 3)] (List.take 3 (List.drop 1 c)) K)) = K d.t.k d.t.h (encs d.t.args) := rfl
@[simp] theorem onDn (d : D) (K : ByteArray → Option R) : onAgg (encD d) (fun c => gd (decide (1 ≤ c.length)) (onStr (AM.partOf c 0 none) K)) = K (ba d.name) := rfl
@[simp] theorem getI_0 (v : V) (l : List V) : getI (v :: l) 0 = v := rfl
@[simp] theorem bc_self (b : Bool) (x : Option R) : bc b x x = x := by cases b <;> rfl
@[simp] theorem T_args_mk (k h : Int) (l : List T) : (T.mk k h l).args = l := rfl
@[simp] theorem T_k_mk (k h : Int) (l : List T) : (T.mk k h l).k = k := rfl
@[simp] theorem T_h_mk (k h : Int) (l : List T) : (T.mk k h l).h = h := rfl
@[simp] theorem onTk (t : Tok) (K : Int → Option R) : onAgg (encTok t) (fun c => gd (decide (1 ≤ c.length)) (onInt (AM.partOf c 0 none) K)) = K t.1 := rfl
@[simp] theorem onTx (t : Tok) (K : ByteArray → Option R) : onAgg (encTok t) (fun c => gd (decide (2 ≤ c.length)) (onStr (AM.partOf c 1 none) K)) = K (ba t.2) := rfl
@[simp] theorem getR_0 (x : Res) (st : St) (K : Res → Option R) : getR (x :: st) 0 K = K x := rfl
@[simp] theorem getR_1 (x y : Res) (st : St) (K : Res → Option R) : getR (x :: y :: st) 1 K = K y := rfl
@[simp] theorem onBoxP (m : AM.Mode) (s : PS) (K : List V → Option R) : onBox (boxP m s) K = K [.vec .plain (some 2) (encToks s.l), .vec m (some 4) (encDs s.s), .int s.e] := rfl
@[simp] theorem cl0 (sh : Sh) (l : List V) (b c : V) : cleanV (AM.partOf [.vec .plain sh l, b, c] 0 none) = .vec .plain sh l := rfl
@[simp] theorem cl1 (sh : Sh) (m : AM.Mode) (l : List V) (a c : V) : cleanV (AM.partOf [a, .vec m sh l, c] 1 none) = .vec .plain sh l := by cases m <;> rfl
@[simp] theorem cl2 (a b : V) (n : Int) : cleanV (AM.partOf [a, b, .int n] 2 none) = .int n := rfl
@[simp] theorem setCells0 (a b c d : V) : setCells [a, b, c] 0 [d] = [d, b, c] := rfl
@[simp] theorem setCells1 (a b c d : V) : setCells [a, b, c] 1 [d] = [a, d, c] := rfl
@[simp] theorem setCells2 (a b c d : V) : setCells [a, b, c] 2 [d] = [a, b, d] := rfl
@[simp] theorem getI_tok (t : Tok) (r : List Tok) : getI (encToks (t :: r)) 0 = encTok t := rfl
@[simp] theorem encToks_cons (t : Tok) (r : List Tok) : encToks (t :: r) = encTok t :: encToks r := rfl
@[simp] theorem take_toks (r : List Tok) : (encToks r).take r.length = encToks r := by rw [← encToks_length r, List.take_length]
@[simp] theorem take_toks1 (t : V) (r : List Tok) : (t :: encToks r).take (r.length + 1) = t :: encToks r := by rw [List.take_succ_cons, take_toks]
@[simp] theorem onDt' (d : D) (K : Int → Int → List V → Option R) : onAgg (encD d) (fun c => gd (decide (4 ≤ c.length)) (onCells (R := R) [CT.int, CT.int, CT.slice (some 3)] (List.take 3 c.tail) K)) = K d.t.k d.t.h (encs d.t.args) := rfl
@[simp] theorem typ_lit1 (x : Bytes) : ((ba x).toList == [116, 121, 112, 101]) = decide (x = typ) := by rw [ba_toList]; by_cases h : x = typ <;> simp_all [typ]
@[simp] theorem typ_lit2 (x : Bytes) : ((ba x).toList == ByteArray.toList { data := #[116, 121, 112, 101] }) = decide (x = typ) := ba_eq x typ
@[simp] theorem lit40 : V.str { data := #[40] } = V.str (ba [40]) := rfl
@[simp] theorem lit41 : V.str { data := #[41] } = V.str (ba [41]) := rfl
@[simp] theorem lit46 : V.str { data := #[46] } = V.str (ba [46]) := rfl
@[simp] theorem lit58 : V.str { data := #[58] } = V.str (ba [58]) := rfl
@[simp] theorem lit91 : V.str { data := #[91] } = V.str (ba [91]) := rfl
@[simp] theorem lit93 : V.str { data := #[93] } = V.str (ba [93]) := rfl
@[simp] theorem lit123 : V.str { data := #[123] } = V.str (ba [123]) := rfl
@[simp] theorem lit125 : V.str { data := #[125] } = V.str (ba [125]) := rfl
@[simp] theorem litN : V.str { data := #[] } = V.str (ba []) := rfl
@[simp] theorem onEncF (t : T) (K : Int → Int → Option R) : onStruct (R := R) [CT.int, CT.int, CT.nil (some 3)] (.agg [.int t.k, .int t.h, .vec .full (some 3) []]) K = K t.k t.h := rfl
@[simp] theorem one_le_s (n : Nat) : (1 : Int) ≤ n + 1 := by omega
@[simp] theorem zero_lt_s (n : Nat) : (0 : Int) < n + 1 := by omega
@[simp] theorem succ_ne_z (n : Nat) : ¬ ((n : Int) + 1 = 0) := by omega
@[simp] theorem toNat_s (n : Nat) : ((n : Int) + 1).toNat = n + 1 := by omega
end
end Go.Ama

/-! What is read is scoped, and has names of its own. -/
namespace Go.Ama
open Go Go.AM

theorem back_lt {x : Bytes} : ∀ {bs : List Bytes} {i : Nat}, back x bs = some i → i < bs.length
  | [], i, h => by cases h
  | y :: bs, i, h => by
    unfold back at h
    split at h
    · cases h; simp
    · cases hq : back x bs with
      | none => rw [hq] at h; cases h
      | some j => rw [hq] at h; cases h; have := back_lt hq; simp; omega

theorem allWs_false (g : Int → T → Bool) (i : Int) : ∀ l : List T, allWs g i false l = l.all (allW g i)
  | [] => rfl
  | [t] => by simp [allWs]
  | t :: u :: l => by
    have := allWs_false g i (u :: l)
    simp only [allWs, this, List.all_cons]

/-- A term is scoped, below so many that bind. -/
def Sc (i : Nat) (t : T) : Prop := allW (scopedN 0 0) i t = true
theorem sc_T0 (i : Nat) : Sc i T0 := by simp [Sc, allW, allWs, scopedN, T.k, T.h]
theorem sc_head (x : Bytes) (bs : List Bytes) (s : PS) (hb : bs.length ≤ 2000) : scopedN 0 0 bs.length (s.head x bs).1 = true ∧ (s.head x bs).1.k ≠ 1 ∧ (s.head x bs).1.k ≠ 3 := by
  unfold PS.head
  cases hbk : back x bs with
  | some i =>
    have h := back_lt hbk
    have hw : IntKind.i64.wrap ((i : Int) - bs.length) = (i : Int) - bs.length := wrap_id ⟨by omega, by omega⟩
    refine ⟨?_, by simp [T.k], by simp [T.k]⟩
    have : decide ((i : Int) - bs.length < 0) = true := by simp; omega
    simp [scopedN, T.k, T.h, hw, this]
  | none =>
    dsimp only
    cases idx x s.s with
    | none => exact ⟨by simp [scopedN, T.k, T.h], by simp [T.k], by simp [T.k]⟩
    | some i =>
      dsimp only
      split
      · exact ⟨by simp [scopedN, T.k, T.h], by simp [T.k], by simp [T.k]⟩
      · exact ⟨by simp [scopedN, T.k, T.h], by simp [T.k], by simp [T.k]⟩

section
variable {term : List Bytes → PS → T × PS} {bs : List Bytes} (ht : ∀ s, Sc bs.length (term bs s).1) (hb : bs.length ≤ 2000)
include ht hb
theorem sc_atom (s : PS) : Sc bs.length (s.atom term bs).1 := by
  unfold PS.atom
  split
  · exact ht _
  · dsimp only
    split
    · exact sc_T0 _
    · obtain ⟨h1, h2, h3⟩ := sc_head s.name.1 bs s.name.2 hb
      have ha := head_args s.name.1 bs s.name.2
      generalize (PS.head s.name.1 bs s.name.2).1 = t at *
      obtain ⟨k, h, l⟩ := t
      simp only [T.args] at ha
      subst ha
      simp [Sc, allW, allWs, h1]
theorem sc_args : ∀ m s, ((PS.args term bs m s).1).all (allW (scopedN 0 0) bs.length) = true
  | 0, s => rfl
  | m + 1, s => by
    unfold PS.args
    split
    · dsimp only
      rw [List.all_cons, sc_args m _, Bool.and_true]
      exact sc_atom ht hb s
    · rfl
theorem sc_atoms (s : PS) : Sc bs.length (s.atoms term bs).1 := by
  unfold PS.atoms
  split
  · exact ht _
  · dsimp only
    split
    · exact sc_T0 _
    · split
      · exact sc_T0 _
      · obtain ⟨h1, h2, h3⟩ := sc_head s.name.1 bs s.name.2 hb
        have hq := sc_args ht hb (PS.head s.name.1 bs s.name.2).2.l.length (PS.head s.name.1 bs s.name.2).2
        have hk : (decide ((PS.head s.name.1 bs s.name.2).1.k = 1) || decide ((PS.head s.name.1 bs s.name.2).1.k = 3)) = false := by simp [h2, h3]
        unfold Sc
        simp only [allW, hk, allWs_false, hq, Bool.and_true]
        exact h1
end
theorem sc_term : ∀ n bs s, bs.length + n ≤ 1000 → Sc bs.length (PS.term n bs s).1
  | 0, bs, s, _ => sc_T0 _
  | n + 1, bs, s, h => by
    have ih := sc_term n
    unfold PS.term
    split
    · have h1 := ih bs ((s.take [123]).name.2.take [58]) (by omega)
      have h2 := ih ((s.take [123]).name.1 :: bs) ((PS.term n bs ((s.take [123]).name.2.take [58])).2.take [125]) (by simp; omega)
      unfold Sc at *
      simp only [List.length_cons, Int.natCast_add, Int.natCast_one] at h2
      simp only [allW, allWs, h1, h2, Bool.and_true, decide_true, Bool.true_or, cond_true]
      simp [scopedN, T.k]
    · split
      · have h2 := ih ((s.take [91]).name.1 :: bs) ((s.take [91]).name.2.take [93]) (by simp; omega)
        unfold Sc at *
        simp only [List.length_cons, Int.natCast_add, Int.natCast_one] at h2
        simp only [allW, allWs, h2, Bool.and_true, decide_true, Bool.or_true, cond_true]
        simp [scopedN, T.k]
      · exact sc_atoms (fun s => ih bs s (by omega)) (by omega) s

theorem idx_none {x : Bytes} : ∀ {l : List D}, idx x l = none → ∀ d ∈ l, d.name ≠ x
  | [], _, d, hd => by cases hd
  | y :: l, h, d, hd => by
    unfold idx at h
    split at h
    · cases h
    · rename_i hy
      cases hq : idx x l with
      | none => rcases List.mem_cons.1 hd with rfl | hd; exact hy; exact idx_none hq d hd
      | some j => rw [hq] at h; cases h

/-- A declaration as one is read. -/
def okD (d : D) : Prop := may d.t = true ∧ Sc 0 d.t ∧ nameOK d.name = true ∧ d.t.size ≤ 200001
theorem whole_ok {s : PS} (h : s.whole.2.e = 0) : may s.whole.1 = true := by
  unfold PS.whole at *
  dsimp only at *
  split at h
  · assumption
  · exact absurd h (fail_ne (by decide) _)
theorem sc_whole (s : PS) : Sc 0 s.whole.1 := sc_term 120 [] s (by simp)
theorem mono_e {s r : PS} (h : Mono s r) (hr : r.e = 0) : s.e = 0 := by
  rcases Decidable.em (s.e = 0) with he | he
  · exact he
  · rw [h.err he] at hr; exact hr
theorem decl_ok {s : PS} (hl : s.l.length ≤ 100000) (he : s.decl.e = 0) (hs : ∀ d ∈ s.s, okD d) (hd : (s.s.map (·.name)).Nodup) : (∀ d ∈ s.decl.s, okD d) ∧ (s.decl.s.map (·.name)).Nodup := by
  have m1 := name_mono s
  unfold PS.decl at *
  dsimp only at *
  by_cases hc : (!nameOK s.name.1 || (idx s.name.1 s.name.2.s).isSome) = true
  · rw [if_pos hc] at he
    have m2 := ((take_mono [58] (s.name.2.fail 8)).trans (whole_mono _)).trans (take_mono [46] _)
    exact absurd (mono_e m2 he) fail_err8
  · rw [if_neg hc] at *
    have m2 := take_mono [58] s.name.2
    have m3 := whole_mono (s.name.2.take [58])
    have m4 := take_mono [46] (s.name.2.take [58]).whole.2
    simp only [Bool.or_eq_true, Bool.not_eq_true', not_or, Bool.not_eq_false, Option.isSome_iff_ne_none, ne_eq, Classical.not_not] at hc
    have hsig : ((s.name.2.take [58]).whole.2.take [46]).s = s.s := (((m1.trans m2).trans m3).trans m4).sig
    rw [hsig]
    have hmay := whole_ok (mono_e m4 he)
    have hsz := whole_size (s.name.2.take [58])
    have hlen := (m1.trans m2).len
    rw [m1.sig] at hc
    refine ⟨fun d hd' => ?_, ?_⟩
    · rcases List.mem_append.1 hd' with h | h
      · exact hs d h
      · rw [List.mem_singleton.1 h]
        exact ⟨hmay, sc_whole _, hc.1, by simp only; omega⟩
    · rw [List.map_append, List.nodup_append]
      refine ⟨hd, by simp, ?_⟩
      intro a ha b hb
      obtain ⟨d, hd1, rfl⟩ := List.mem_map.1 ha
      simp only [List.map_cons, List.map_nil, List.mem_singleton] at hb
      subst hb
      exact idx_none hc.2 d hd1
theorem decls_ok : ∀ q s, s.l.length ≤ 100000 → (PS.decls q s).e = 0 → (∀ d ∈ s.s, okD d) → (s.s.map (·.name)).Nodup → (∀ d ∈ (PS.decls q s).s, okD d) ∧ ((PS.decls q s).s.map (·.name)).Nodup := by
  intro q
  induction q with
  | zero => intro s _ _ h1 h2; exact ⟨h1, h2⟩
  | succ q ih =>
    intro s hl he h1 h2
    unfold PS.decls at he ⊢
    split at he
    · rename_i hc
      rw [if_pos hc]
      split at he
      · exact absurd he (fail_ne (by decide) _)
      · rename_i h40
        rw [if_neg h40]
        have hde : s.decl.e = 0 := by
          rcases Decidable.em (s.decl.e = 0) with h | h
          · exact h
          · exfalso
            have : PS.decls q s.decl = s.decl := by
              cases q with
              | zero => rfl
              | succ q => unfold PS.decls; rw [if_neg (fun hh => h hh.2)]
            rw [this] at he
            exact h he
        obtain ⟨g1, g2⟩ := decl_ok hl hde h1 h2
        exact ih s.decl (Nat.le_trans (decl_mono s).1.length_le hl) he g1 g2
    · rename_i hc
      rw [if_neg hc]
      exact ⟨h1, h2⟩
theorem declsOf_ok (b : Bytes) (hl : (lexR b).1.length ≤ 100000) : (∀ d ∈ (declsOf b).1, okD d) ∧ ((declsOf b).1.map (·.name)).Nodup := by
  unfold declsOf
  dsimp only
  split
  · exact ⟨by simp, by simp⟩
  · rename_i h
    exact decls_ok _ ⟨(lexR b).1, [], (lexR b).2⟩ hl (by simpa using h) (by simp) (by simp)
end Go.Ama

/-! What is read does not hang on what stands behind. -/
namespace Go.Ama
open Go.AM (T)

/-- More tokens behind. -/
def PS.more (s : PS) (x : List Tok) : PS := { s with l := s.l ++ x }
theorem more_l (s : PS) (x : List Tok) : (s.more x).l = s.l ++ x := rfl
theorem more_e (s : PS) (x : List Tok) : (s.more x).e = s.e := rfl
theorem more_s (s : PS) (x : List Tok) : (s.more x).s = s.s := rfl
theorem fail_more (n : Int) (s : PS) (x : List Tok) : (s.more x).fail n = (s.fail n).more x := by
  unfold PS.fail
  rw [more_e]
  split <;> rfl
theorem is_more {s : PS} (h : s.l ≠ []) (c : Bytes) (x : List Tok) : (s.more x).is c = s.is c := by
  unfold PS.is
  rw [more_e, more_l]
  cases hl : s.l with
  | nil => exact absurd hl h
  | cons t r => rfl
theorem named_more {s : PS} (h : s.l ≠ []) (x : List Tok) : (s.more x).named = s.named := by
  unfold PS.named
  rw [more_e, more_l]
  cases hl : s.l with
  | nil => exact absurd hl h
  | cons t r => rfl
theorem take_ok {s : PS} {c : Bytes} (h : (s.take c).e = 0) : s.is c = true ∧ s.l ≠ [] := by
  cases hi : s.is c with
  | true => obtain ⟨r, hl, _⟩ := is_cons' hi; exact ⟨rfl, by rw [hl]; simp⟩
  | false => rw [take_no hi] at h; exact absurd h fail_err8
theorem name_ok {s : PS} (h : s.name.2.e = 0) : s.named = true ∧ s.l ≠ [] := by
  cases hi : s.named with
  | true => obtain ⟨x, r, hl, _⟩ := named_cons' hi; exact ⟨rfl, by rw [hl]; simp⟩
  | false => rw [name_no hi] at h; exact absurd h fail_err8
theorem take_more {s : PS} {c : Bytes} (h : (s.take c).e = 0) (x : List Tok) : (s.more x).take c = (s.take c).more x := by
  obtain ⟨hi, hl⟩ := take_ok h
  obtain ⟨r, h1, h2, h3⟩ := take_yes hi
  have hi' : (s.more x).is c = true := by rw [is_more hl, hi]
  obtain ⟨r', g1, g2, g3⟩ := take_yes hi'
  rw [more_l, h1] at g1
  simp only [List.cons_append, List.cons.injEq, true_and] at g1
  rw [g3, h3, ← g1]
  rfl
theorem name_more {s : PS} (h : s.name.2.e = 0) (x : List Tok) : (s.more x).name = (s.name.1, s.name.2.more x) := by
  obtain ⟨hi, hl⟩ := name_ok h
  obtain ⟨y, r, h1, h2, h3⟩ := name_yes hi
  have hi' : (s.more x).named = true := by rw [named_more hl, hi]
  obtain ⟨y', r', g1, g2, g3⟩ := name_yes hi'
  rw [more_l, h1] at g1
  simp only [List.cons_append, List.cons.injEq, Prod.mk.injEq, true_and] at g1
  rw [g3, h3, ← g1.1, ← g1.2]
  rfl
theorem head_more (y : Bytes) (bs : List Bytes) (s : PS) (x : List Tok) : (s.more x).head y bs = ((s.head y bs).1, (s.head y bs).2.more x) := by
  unfold PS.head
  rw [more_s]
  split
  · rfl
  · split
    · rw [fail_more]
    · rfl
theorem alone_more {s : PS} (h : s.l ≠ []) (x : List Tok) : (s.more x).alone = s.alone.more x := by
  unfold PS.alone
  rw [named_more h, is_more h]
  split
  · exact fail_more ..
  · rfl
theorem ne_of {s r : PS} (h : Mono s r) (hr : r.l ≠ []) : s.l ≠ [] := by
  intro h0
  apply hr
  have := h.len
  rw [h0] at this
  exact List.eq_nil_of_length_eq_zero (by simpa using this)

/-- Whatever is read, more behind does not matter, if something is left. -/
def Behind (f : PS → T × PS) : Prop := ∀ s x, (f s).2.e = 0 → (f s).2.l ≠ [] → f (s.more x) = ((f s).1, (f s).2.more x)

section
variable {term : List Bytes → PS → T × PS} (hm : ∀ bs s, Mono s (term bs s).2) (hb : ∀ bs, Behind (term bs))
include hm hb
theorem inner_behind (bs : List Bytes) (s : PS) (x : List Tok) (he : (s.inner term bs).2.e = 0) : (s.more x).inner term bs = ((s.inner term bs).1, (s.inner term bs).2.more x) := by
  unfold PS.inner at *
  dsimp only at *
  have t3 := take_mono [41] (term bs (s.take [40])).2
  have e2 := mono_e t3 he
  have e1 := mono_e (hm bs (s.take [40])) e2
  obtain ⟨_, l2⟩ := take_ok he
  rw [take_more e1, hb bs _ x e2 l2, take_more he]
theorem atom_behind (bs : List Bytes) (s : PS) (x : List Tok) (hs : s.l ≠ []) (he : (s.atom term bs).2.e = 0) : (s.more x).atom term bs = ((s.atom term bs).1, (s.atom term bs).2.more x) := by
  unfold PS.atom at *
  rw [is_more hs]
  split
  · rename_i h
    rw [if_pos h] at he
    exact inner_behind hm hb bs s x he
  · rename_i h
    rw [if_neg h] at he
    dsimp only at *
    have e1 : s.name.2.e = 0 := by
      split at he
      · exact mono_e (fail_mono 8 _) he
      · exact mono_e (head_mono _ _ _) he
    rw [name_more e1]
    dsimp only
    split
    · rw [fail_more]
    · rw [head_more]
omit hb in
theorem args_fuel (bs : List Bytes) : ∀ m k s, s.l.length ≤ m → s.l.length ≤ k → PS.args term bs m s = PS.args term bs k s := by
  have stop : ∀ k (s : PS), s.l.length ≤ 0 → PS.args term bs k s = ([], s) := by
    intro k s h
    have hnil : s.l = [] := List.eq_nil_of_length_eq_zero (by omega)
    have h1 : s.named = false := by simp [PS.named, hnil]
    have h2 : s.is [40] = false := by simp [PS.is, hnil]
    cases k <;> simp [PS.args, h1, h2]
  intro m
  induction m with
  | zero => intro k s h _; rw [stop 0 s h, stop k s h]
  | succ m ih =>
    intro k s h h'
    cases k with
    | zero => rw [stop _ s h', stop _ s h']
    | succ k =>
      unfold PS.args
      by_cases hc : (s.named || s.is [40]) = true
      · have hlt := atom_lt hm (bs := bs) hc
        rw [if_pos hc, if_pos hc]
        dsimp only
        rw [ih k _ (by omega) (by omega)]
      · rw [if_neg hc, if_neg hc]
theorem args_behind (bs : List Bytes) (x : List Tok) : ∀ m k s, s.l.length ≤ m → s.l.length + x.length ≤ k → (PS.args term bs m s).2.e = 0 → (PS.args term bs m s).2.l ≠ [] →
    PS.args term bs k (s.more x) = ((PS.args term bs m s).1, (PS.args term bs m s).2.more x) := by
  intro m
  induction m with
  | zero => intro k s h _ _ hl; exact absurd (List.eq_nil_of_length_eq_zero (by omega) : s.l = []) hl
  | succ m ih =>
    intro k s h h' he hl
    have hs : s.l ≠ [] := ne_of (args_mono hm bs (m + 1) s) hl
    have hpos := List.length_pos_iff.2 hs
    obtain ⟨k, rfl⟩ : ∃ j, k = j + 1 := ⟨k - 1, by omega⟩
    unfold PS.args at he hl ⊢
    rw [named_more hs, is_more hs]
    by_cases hc : (s.named || s.is [40]) = true
    · have hlt := atom_lt hm (bs := bs) hc
      rw [if_pos hc] at *
      rw [if_pos hc]
      dsimp only at *
      have e1 := mono_e (args_mono hm bs m _) he
      rw [atom_behind hm hb bs s x hs e1]
      dsimp only
      rw [ih k _ (by omega) (by omega) he hl]
    · rw [if_neg hc, if_neg hc]
theorem atoms_behind (bs : List Bytes) : Behind (PS.atoms term bs) := by
  intro s x he hl
  have hs : s.l ≠ [] := ne_of (atoms_mono hm bs s) hl
  unfold PS.atoms at *
  rw [is_more hs]
  split
  · rename_i h
    rw [if_pos h] at he hl
    dsimp only at *
    have e1 := mono_e (alone_mono _) he
    rw [inner_behind hm hb bs s x e1, alone_more (ne_of (alone_mono _) hl)]
  · rename_i h
    rw [if_neg h] at he hl
    dsimp only at *
    by_cases h1 : s.name.2.e ≠ 0
    · rw [if_pos h1] at he
      exact absurd he h1
    · rw [if_neg h1] at he hl
      have e1 : s.name.2.e = 0 := by simpa using h1
      rw [if_neg h1, name_more e1]
      dsimp only
      rw [more_e, if_neg h1]
      split
      · rename_i h2
        rw [if_pos h2] at he hl
        rw [alone_more (ne_of (alone_mono _) hl)]
      · rename_i h2
        rw [if_neg h2] at he hl
        rw [head_more]
        dsimp only
        rw [args_behind hm hb bs x _ _ _ (Nat.le_refl _) (by rw [more_l]; simp) he hl]
end
theorem term_behind : ∀ n bs, Behind (PS.term n bs)
  | 0, bs => fun s x he _ => absurd he (fail_ne (by decide) _)
  | n + 1, bs => fun s x he hl => by
    have ih := term_behind n
    have hs : s.l ≠ [] := ne_of (term_mono (n + 1) bs s) hl
    unfold PS.term at *
    rw [is_more hs, is_more hs]
    split
    · rename_i h
      rw [if_pos h] at he hl
      dsimp only at *
      have m1 := take_mono [123] s
      have m2 := name_mono (s.take [123])
      have m3 := take_mono [58] (s.take [123]).name.2
      have m4 := term_mono n bs ((s.take [123]).name.2.take [58])
      have m5 := take_mono [125] (PS.term n bs ((s.take [123]).name.2.take [58])).2
      have m6 := term_mono n ((s.take [123]).name.1 :: bs) ((PS.term n bs ((s.take [123]).name.2.take [58])).2.take [125])
      have e5 := mono_e m6 he
      have e4 := mono_e m5 e5
      have e3 := mono_e m4 e4
      have e2 := mono_e m3 e3
      have e1 := mono_e m2 e2
      have l4 := (take_ok e5).2
      rw [take_more e1, name_more e2]
      dsimp only
      rw [take_more e3, ih bs _ x e4 l4]
      dsimp only
      rw [take_more e5, ih _ _ x he hl]
    · rename_i h
      rw [if_neg h] at he hl
      split
      · rename_i h'
        rw [if_pos h'] at he hl
        dsimp only at *
        have m1 := take_mono [91] s
        have m2 := name_mono (s.take [91])
        have m3 := take_mono [93] (s.take [91]).name.2
        have m4 := term_mono n ((s.take [91]).name.1 :: bs) ((s.take [91]).name.2.take [93])
        have e3 := mono_e m4 he
        have e2 := mono_e m3 e3
        have e1 := mono_e m2 e2
        rw [take_more e1, name_more e2]
        dsimp only
        rw [take_more e3, ih _ _ x he hl]
      · rename_i h'
        rw [if_neg h'] at he hl
        exact atoms_behind (term_mono n) ih bs s x he hl
theorem whole_behind (s : PS) (x : List Tok) (he : s.whole.2.e = 0) (hl : s.whole.2.l ≠ []) : (s.more x).whole = (s.whole.1, s.whole.2.more x) := by
  have hmay := whole_ok he
  unfold PS.whole at *
  dsimp only at *
  rw [if_pos hmay] at he hl
  rw [term_behind 120 [] s x he hl]
  dsimp only
  rw [if_pos hmay, if_pos hmay]
theorem decl_behind (s : PS) (x : List Tok) (he : s.decl.e = 0) : (s.more x).decl = s.decl.more x := by
  unfold PS.decl at *
  dsimp only at *
  have key : ∀ s2 : PS, ((s2.take [58]).whole.2.take [46]).e = 0 → ((s2.more x).take [58]).whole = ((s2.take [58]).whole.1, (s2.take [58]).whole.2.more x) ∧ ((s2.take [58]).whole.2.more x).take [46] = ((s2.take [58]).whole.2.take [46]).more x ∧ s2.e = 0 := by
    intro s2 he
    have e2 := mono_e (take_mono [46] _) he
    have e1 := mono_e (whole_mono _) e2
    have e0 := mono_e (take_mono [58] _) e1
    refine ⟨?_, take_more he x, e0⟩
    rw [take_more e1, whole_behind _ x e2 (take_ok he).2]
  obtain ⟨k1, k2, k3⟩ := key _ he
  have hc : ¬ (!nameOK s.name.1 || (idx s.name.1 s.name.2.s).isSome) = true := by
    intro h
    rw [if_pos h] at k3
    exact fail_err8 k3
  rw [if_neg hc] at k1 k2 k3 ⊢
  have e1 : s.name.2.e = 0 := k3
  rw [name_more e1]
  dsimp only
  rw [more_s, if_neg hc, k1]
  dsimp only
  rw [k2]
  rfl
theorem decls_prefix : ∀ q s, s.s <+: (PS.decls q s).s := by
  intro q
  induction q with
  | zero => intro s; exact List.prefix_refl _
  | succ q ih =>
    intro s
    unfold PS.decls
    split
    · split
      · rw [fail_s]; exact List.prefix_refl _
      · refine List.IsPrefix.trans ?_ (ih s.decl)
        unfold PS.decl
        dsimp only
        have key : ∀ s2 : PS, Mono s s2 → s.s <+: ((s2.take [58]).whole.2.take [46]).s ++ [(⟨s.name.1, (s2.take [58]).whole.1⟩ : D)] := by
          intro s2 h
          have m2 := h.trans (((take_mono [58] s2).trans (whole_mono _)).trans (take_mono [46] _))
          rw [m2.sig]
          exact List.prefix_append _ _
        split
        · exact key _ ((name_mono s).trans (fail_mono 8 _))
        · exact key _ (name_mono s)
    · exact List.prefix_refl _
theorem decls_stop {q : Nat} {s : PS} (h : s.e ≠ 0) : PS.decls q s = s := by
  cases q with
  | zero => rfl
  | succ q => unfold PS.decls; rw [if_neg (fun hh => h hh.2)]
theorem decls_behind (x : List Tok) : ∀ q k s, s.l.length ≤ q → s.l.length + x.length ≤ k → (PS.decls q s).e = 0 → (PS.decls q s).s <+: (PS.decls k (s.more x)).s := by
  intro q
  induction q with
  | zero =>
    intro k s _ _ _
    show s.s <+: _
    exact decls_prefix k (s.more x)
  | succ q ih =>
    intro k s hq hk he
    unfold PS.decls at he
    by_cases hc : s.l ≠ [] ∧ s.e = 0
    · rw [if_pos hc] at he
      by_cases h40 : s.s.length ≥ 40
      · rw [if_pos h40] at he
        exact absurd he (fail_ne (by decide) _)
      · rw [if_neg h40] at he
        have hde : s.decl.e = 0 := by
          rcases Decidable.em (s.decl.e = 0) with h | h
          · exact h
          · rw [decls_stop h] at he; exact he
        have hpos := List.length_pos_iff.2 hc.1
        obtain ⟨k, rfl⟩ : ∃ j, k = j + 1 := ⟨k - 1, by omega⟩
        have hlt : s.decl.l.length < s.l.length := by
          rcases (decl_mono s).2.2 hc.1 hc.2 with h | h
          · exact h
          · exact absurd hde h
        have := ih k s.decl (by omega) (by omega) he
        have hL : PS.decls (q + 1) s = PS.decls q s.decl := by rw [PS.decls, if_pos hc, if_neg h40]
        have hR : PS.decls (k + 1) (s.more x) = PS.decls k (s.decl.more x) := by
          rw [PS.decls, if_pos ⟨by rw [more_l]; simp [hc.1], hc.2⟩, more_s, if_neg h40, decl_behind s x hde]
        rw [hL, hR]
        exact this
    · have hL : PS.decls (q + 1) s = s := by rw [PS.decls, if_neg hc]
      rw [hL]
      exact decls_prefix k (s.more x)

theorem lexR_ok {a : Bytes} (hl : a.length ≤ 20000) (h : (lexR a).2 = 0) : ∃ l, toks a = some l ∧ lexR a = (l, 0) := by
  unfold lexR at *
  rw [if_neg (by omega)] at *
  cases ht : toks a with
  | some l => exact ⟨l, rfl, rfl⟩
  | none => rw [ht] at h; cases h
theorem declsOf_lex {a : Bytes} (h : (declsOf a).2 = 0) : (lexR a).2 = 0 := by
  rcases Decidable.em ((lexR a).2 = 0) with he | he
  · exact he
  · exfalso
    unfold declsOf at h
    dsimp only at h
    rw [decls_stop (s := ⟨(lexR a).1, [], (lexR a).2⟩) he] at h
    dsimp only at h
    rw [if_pos he] at h
    exact he h
theorem declsOf_run {a : Bytes} {l : List Tok} (h : lexR a = (l, 0)) (h0 : (declsOf a).2 = 0) : (PS.decls l.length ⟨l, [], 0⟩).e = 0 ∧ (declsOf a).1 = (PS.decls l.length ⟨l, [], 0⟩).s := by
  unfold declsOf at *
  simp only [h] at h0 ⊢
  by_cases he : (PS.decls l.length ⟨l, [], 0⟩).e = 0
  · exact ⟨he, by simp [he]⟩
  · rw [if_pos he] at h0; exact absurd h0 he
/-- Two texts, one behind the other. -/
theorem declsOf_begins (a b : Bytes) (ha : (declsOf a).2 = 0) (hb : (declsOf (a ++ 10 :: b)).2 = 0) (hl : a.length + b.length + 1 ≤ 20000) : (declsOf a).1 <+: (declsOf (a ++ 10 :: b)).1 := by
  have hja := toks_join 10 (by decide) (by decide) a (fun h => by cases h) b
  obtain ⟨l, h1, h2⟩ := lexR_ok (by omega) (declsOf_lex ha)
  obtain ⟨l', h3, h4⟩ := lexR_ok (a := a ++ 10 :: b) (by simp; omega) (declsOf_lex hb)
  rw [h1, h3, Option.bind_some] at hja
  cases h5 : toks b with
  | none => rw [h5] at hja; cases hja
  | some lb =>
    rw [h5, Option.map_some, Option.some.injEq] at hja
    subst hja
    obtain ⟨e1, r1⟩ := declsOf_run h2 ha
    obtain ⟨e2, r2⟩ := declsOf_run h4 hb
    rw [r1, r2]
    exact decls_behind lb l.length (l ++ lb).length ⟨l, [], 0⟩ (Nat.le_refl _) (by simp) e1
end Go.Ama

/-! Reading does not hang on what it does not look at. -/
namespace Go.Ama
open Go.AM (T)

/-- A change of what is left, what is declared, and what binds outside, that reading does not see. -/
structure Sim (φ : PS → PS) (ψ : List Bytes → List Bytes) (G : PS → Prop) : Prop where
  mono : ∀ {s r}, G s → Mono s r → G r
  cons : ∀ x bs, ψ (x :: bs) = x :: ψ bs
  is : ∀ {s} c, G s → (c = [40] ∨ c = [91] ∨ c = [123]) → (φ s).is c = s.is c
  named : ∀ {s}, G s → (φ s).named = s.named
  take : ∀ {s} c, G s → (s.take c).e = 0 → (φ s).take c = φ (s.take c)
  name : ∀ {s}, G s → s.name.2.e = 0 → (φ s).name = (s.name.1, φ s.name.2)
  head : ∀ {s} bs, G s → s.name.2.e = 0 → (s.name.2.head s.name.1 bs).2.e = 0 → (φ s.name.2).head s.name.1 (ψ bs) = ((s.name.2.head s.name.1 bs).1, φ (s.name.2.head s.name.1 bs).2)
  len : ∀ s, s.l.length ≤ (φ s).l.length
  err : ∀ s, (φ s).e = s.e

section
variable {φ : PS → PS} {ψ : List Bytes → List Bytes} {G : PS → Prop} (S : Sim φ ψ G)
include S
theorem Sim.alone {s : PS} (g : G s) (he : s.alone.e = 0) : (φ s).alone = φ s.alone := by
  unfold PS.alone at *
  rw [S.named g, S.is [40] g (.inl rfl)]
  split
  · rename_i h; rw [if_pos h] at he; exact absurd he fail_err8
  · rfl
/-- A reader that sees the same. -/
def Sees (φ : PS → PS) (G : PS → Prop) (f f' : PS → T × PS) : Prop := ∀ s, G s → (f s).2.e = 0 → f' (φ s) = ((f s).1, φ (f s).2)

section
variable {term term' : List Bytes → PS → T × PS} (hm : ∀ bs s, Mono s (term bs s).2) (hm' : ∀ bs s, Mono s (term' bs s).2) (hb : ∀ bs, Sees φ G (term bs) (term' (ψ bs)))
include hm hb
theorem Sim.inner (bs : List Bytes) : Sees φ G (PS.inner term bs) (PS.inner term' (ψ bs)) := by
  intro s g he
  unfold PS.inner at *
  dsimp only at *
  have e2 := mono_e (take_mono [41] _) he
  have e1 := mono_e (hm bs (s.take [40])) e2
  have g1 := S.mono g (take_mono [40] s)
  have g2 := S.mono g1 (hm bs _)
  rw [S.take _ g e1, hb bs _ g1 e2, S.take _ g2 he]
theorem Sim.atom (bs : List Bytes) : Sees φ G (PS.atom term bs) (PS.atom term' (ψ bs)) := by
  intro s g he
  unfold PS.atom at *
  rw [S.is [40] g (.inl rfl)]
  split
  · rename_i h
    rw [if_pos h] at he
    exact S.inner hm hb bs s g he
  · rename_i h
    rw [if_neg h] at he
    dsimp only at *
    by_cases ht : s.name.1 = typ
    · rw [if_pos ht] at he
      exact absurd he fail_err8
    · rw [if_neg ht] at he ⊢
      have e1 := mono_e (head_mono _ _ _) he
      rw [S.name g e1]
      dsimp only
      rw [if_neg ht, S.head bs g e1 he]
include hm'
theorem Sim.args (bs : List Bytes) : ∀ m k s, s.l.length ≤ m → (φ s).l.length ≤ k → G s → (PS.args term bs m s).2.e = 0 → PS.args term' (ψ bs) k (φ s) = ((PS.args term bs m s).1, φ (PS.args term bs m s).2) := by
  intro m
  induction m with
  | zero =>
    intro k s h h' g he
    have hnil : s.l = [] := List.eq_nil_of_length_eq_zero (by omega)
    have h1 : (φ s).named = false := by rw [S.named g]; simp [PS.named, hnil]
    have h2 : (φ s).is [40] = false := by rw [S.is [40] g (.inl rfl)]; simp [PS.is, hnil]
    cases k <;> simp [PS.args, h1, h2]
  | succ m ih =>
    intro k s h h' g he
    by_cases hc : (s.named || s.is [40]) = true
    · have hlt := atom_lt hm (bs := bs) hc
      have hc' : ((φ s).named || (φ s).is [40]) = true := by rw [S.named g, S.is [40] g (.inl rfl)]; exact hc
      have hlt' := atom_lt hm' (bs := ψ bs) hc'
      obtain ⟨k, rfl⟩ : ∃ j, k = j + 1 := ⟨k - 1, by omega⟩
      unfold PS.args at he ⊢
      rw [if_pos hc] at he
      rw [if_pos hc, if_pos hc']
      dsimp only at *
      have e1 := mono_e (args_mono hm bs m _) he
      have ha := S.atom hm hb bs s g e1
      rw [ha] at hlt' ⊢
      dsimp only at *
      rw [ih k _ (by omega) (by omega) (S.mono g (atom_mono hm bs s)) he]
    · have hc' : ¬ ((φ s).named || (φ s).is [40]) = true := by rw [S.named g, S.is [40] g (.inl rfl)]; exact hc
      have e1 : PS.args term bs (m + 1) s = ([], s) := by unfold PS.args; rw [if_neg hc]
      have e2 : PS.args term' (ψ bs) k (φ s) = ([], φ s) := by
        cases k with
        | zero => rfl
        | succ k => unfold PS.args; rw [if_neg hc']
      rw [e1, e2]
theorem Sim.atoms (bs : List Bytes) : Sees φ G (PS.atoms term bs) (PS.atoms term' (ψ bs)) := by
  intro s g he
  unfold PS.atoms at *
  rw [S.is [40] g (.inl rfl)]
  split
  · rename_i h
    rw [if_pos h] at he
    dsimp only at *
    have e1 := mono_e (alone_mono _) he
    rw [S.inner hm hb bs s g e1, S.alone (S.mono g (inner_mono hm bs s)) he]
  · rename_i h
    rw [if_neg h] at he
    dsimp only at *
    by_cases h1 : s.name.2.e ≠ 0
    · rw [if_pos h1] at he
      exact absurd he h1
    · rw [if_neg h1] at he ⊢
      have e1 : s.name.2.e = 0 := by simpa using h1
      have g1 := S.mono g (name_mono s)
      rw [S.name g e1]
      dsimp only
      rw [S.err, if_neg h1]
      split
      · rename_i h2
        rw [if_pos h2] at he
        rw [S.alone g1 he]
      · rename_i h2
        rw [if_neg h2] at he
        have e2 := mono_e (args_mono hm bs _ _) he
        rw [S.head bs g e1 e2]
        dsimp only
        rw [S.args hm hm' hb bs _ _ _ (Nat.le_refl _) (Nat.le_refl _) (S.mono g1 (head_mono _ _ _)) he]
end
theorem Sim.term : ∀ n bs, Sees φ G (PS.term n bs) (PS.term n (ψ bs))
  | 0, bs => fun s _ he => absurd he (fail_ne (by decide) _)
  | n + 1, bs => fun s g he => by
    have ih := Sim.term n
    unfold PS.term at *
    rw [S.is [123] g (.inr (.inr rfl)), S.is [91] g (.inr (.inl rfl))]
    split
    · rename_i h
      rw [if_pos h] at he
      dsimp only at *
      have m1 := take_mono [123] s
      have m2 := name_mono (s.take [123])
      have m3 := take_mono [58] (s.take [123]).name.2
      have m4 := term_mono n bs ((s.take [123]).name.2.take [58])
      have m5 := take_mono [125] (PS.term n bs ((s.take [123]).name.2.take [58])).2
      have m6 := term_mono n ((s.take [123]).name.1 :: bs) ((PS.term n bs ((s.take [123]).name.2.take [58])).2.take [125])
      have e5 := mono_e m6 he
      have e4 := mono_e m5 e5
      have e3 := mono_e m4 e4
      have e2 := mono_e m3 e3
      have e1 := mono_e m2 e2
      have g1 := S.mono g m1
      have g2 := S.mono g1 m2
      have g3 := S.mono g2 m3
      have g4 := S.mono g3 m4
      have g5 := S.mono g4 m5
      rw [S.take _ g e1, S.name g1 e2]
      dsimp only
      rw [S.take _ g2 e3, ih bs _ g3 e4]
      dsimp only
      rw [S.take _ g4 e5, ← S.cons, ih _ _ g5 he]
    · rename_i h
      rw [if_neg h] at he
      split
      · rename_i h'
        rw [if_pos h'] at he
        dsimp only at *
        have m1 := take_mono [91] s
        have m2 := name_mono (s.take [91])
        have m3 := take_mono [93] (s.take [91]).name.2
        have m4 := term_mono n ((s.take [91]).name.1 :: bs) ((s.take [91]).name.2.take [93])
        have e3 := mono_e m4 he
        have e2 := mono_e m3 e3
        have e1 := mono_e m2 e2
        have g1 := S.mono g m1
        have g2 := S.mono g1 m2
        have g3 := S.mono g2 m3
        rw [S.take _ g e1, S.name g1 e2]
        dsimp only
        rw [S.take _ g2 e3, ← S.cons, ih _ _ g3 he]
      · rename_i h'
        rw [if_neg h'] at he
        exact S.atoms (term_mono n) (term_mono n) ih bs s g he
end

/-- A mark that ends a term, and what stands behind it. -/
theorem sim_close (x : List Tok) : Sim (fun s => s.more ((1, [41]) :: x)) id (fun _ => True) where
  mono := fun _ _ => trivial
  cons := fun _ _ => rfl
  is := fun {s} c _ hc => by
    by_cases h : s.l = []
    · unfold PS.is
      rw [more_e, more_l, h]
      rcases hc with rfl | rfl | rfl <;> simp
    · exact is_more h c _
  named := fun {s} _ => by
    by_cases h : s.l = []
    · unfold PS.named
      rw [more_e, more_l, h]
      simp
    · exact named_more h _
  take := fun c _ he => take_more he _
  name := fun _ he => name_more he _
  head := fun {s} bs _ _ _ => head_more _ _ _ _
  len := fun s => by rw [more_l]; simp
  err := fun _ => rfl

theorem back_out {x y : Bytes} (h : y ≠ x) : ∀ bs : List Bytes, back x (bs ++ [y]) = back x bs
  | [] => by simp [back, h]
  | z :: bs => by simp only [List.cons_append, back, back_out h bs]
/-- A name that binds outside, and is not there. -/
theorem sim_out (y : Bytes) : Sim id (fun bs => bs ++ [y]) (fun s => ∀ t ∈ s.l, t.2 ≠ y) where
  mono := fun g m t ht => g t (m.suf.subset ht)
  cons := fun _ _ => rfl
  is := fun _ _ _ => rfl
  named := fun _ => rfl
  take := fun _ _ _ => rfl
  name := fun _ _ => rfl
  head := fun {s} bs g he _ => by
    obtain ⟨hn, _⟩ := name_ok he
    obtain ⟨x, r, hl, _, hx⟩ := name_yes hn
    have hne : y ≠ s.name.1 := by
      rw [hx]
      exact (g (0, x) (by rw [hl]; simp)).symm
    unfold PS.head
    rw [back_out hne]
    rfl
  len := fun _ => Nat.le_refl _
  err := fun _ => rfl

theorem idx_more {x : Bytes} (d : List D) : ∀ {l : List D} {i : Nat}, idx x l = some i → idx x (l ++ d) = some i
  | [], _, h => by cases h
  | y :: l, i, h => by
    unfold idx at *
    simp only [List.cons_append, idx]
    split at h
    · rename_i e; rw [if_pos e]; exact h
    · rename_i e
      rw [if_neg e]
      cases hq : idx x l with
      | none => rw [hq] at h; cases h
      | some j => rw [hq] at h; rw [idx_more d hq]; exact h
theorem idx_lt' {x : Bytes} : ∀ {l : List D} {i : Nat}, idx x l = some i → i < l.length
  | [], i, h => by cases h
  | d :: l, i, h => by
    unfold idx at h
    split at h
    · cases h; simp
    · cases hq : idx x l with
      | none => rw [hq] at h; cases h
      | some j => rw [hq] at h; cases h; have := idx_lt' hq; simp; omega
/-- More declarations. -/
theorem sim_sig (d : List D) : Sim (fun s => { s with s := s.s ++ d }) id (fun _ => True) where
  mono := fun _ _ => trivial
  cons := fun _ _ => rfl
  is := fun _ _ _ => rfl
  named := fun _ => rfl
  take := fun {s} c _ he => by
    obtain ⟨h, _⟩ := take_ok he
    obtain ⟨r, h1, h2, h3⟩ := take_yes h
    obtain ⟨r', g1, g2, g3⟩ := take_yes (s := { s with s := s.s ++ d }) (c := c) h
    rw [g3, h3]
    have : r' = r := by
      have := h1.symm.trans g1
      simpa using this.symm
    rw [this]
  name := fun {s} _ he => by
    obtain ⟨h, _⟩ := name_ok he
    obtain ⟨x, r, h1, h2, h3⟩ := name_yes h
    obtain ⟨x', r', g1, g2, g3⟩ := name_yes (s := { s with s := s.s ++ d }) h
    rw [g3, h3]
    have : x' = x ∧ r' = r := by
      have := h1.symm.trans g1
      simp only [List.cons.injEq, Prod.mk.injEq, true_and] at this
      exact ⟨this.1.symm, this.2.symm⟩
    rw [this.1, this.2]
  head := fun {s} bs _ _ he => by
    unfold PS.head at *
    simp only [id]
    cases hb : back s.name.1 bs with
    | some i => rfl
    | none =>
      rw [hb] at he
      dsimp only at *
      cases hi : idx s.name.1 s.name.2.s with
      | none => rw [hi] at he; exact absurd he (fail_ne (by decide) _)
      | some i =>
        have := idx_lt' hi
        rw [idx_more d hi]
        dsimp only
        have hg : ((s.name.2.s ++ d).map (·.t)).getD i T0 = (s.name.2.s.map (·.t)).getD i T0 := by
          simp [List.getD_eq_getElem?_getD, List.getElem?_append_left, this]
        rw [hg]
  len := fun _ => Nat.le_refl _
  err := fun _ => rfl
end Go.Ama

/-! A term in marks, and below a name that it does not have. -/
namespace Go.Ama
open Go.AM (T)

/-- A reader that may go less deep. -/
def Less (f g : PS → T × PS) : Prop := ∀ s, (g s).2.e = 0 → f s = g s ∨ (f s).2.e = 4
theorem e4 {s r : PS} (h : Mono s r) (h4 : s.e = 4) : r.e = 4 := by rw [h.err (by rw [h4]; decide)]; exact h4

theorem args_succ (f : List Bytes → PS → T × PS) (bs : List Bytes) (m : Nat) (s : PS) : PS.args f bs (m + 1) s = if s.named || s.is [40] then ((s.atom f bs).1 :: (PS.args f bs m (s.atom f bs).2).1, (PS.args f bs m (s.atom f bs).2).2) else ([], s) := rfl
theorem term_succ (n : Nat) (bs : List Bytes) (s : PS) : PS.term (n + 1) bs s = if s.is [123] then
      (.mk 1 0 [(PS.term n bs ((s.take [123]).name.2.take [58])).1, (PS.term n ((s.take [123]).name.1 :: bs) ((PS.term n bs ((s.take [123]).name.2.take [58])).2.take [125])).1], (PS.term n ((s.take [123]).name.1 :: bs) ((PS.term n bs ((s.take [123]).name.2.take [58])).2.take [125])).2)
    else if s.is [91] then
      (.mk 3 0 [(PS.term n ((s.take [91]).name.1 :: bs) ((s.take [91]).name.2.take [93])).1], (PS.term n ((s.take [91]).name.1 :: bs) ((s.take [91]).name.2.take [93])).2)
    else s.atoms (PS.term n) bs := rfl
section
variable {f g : List Bytes → PS → T × PS} (hf : ∀ bs s, Mono s (f bs s).2) (hg : ∀ bs s, Mono s (g bs s).2) (hb : ∀ bs, Less (f bs) (g bs))
include hb
theorem inner_less (bs : List Bytes) : Less (PS.inner f bs) (PS.inner g bs) := by
  intro s he
  unfold PS.inner at *
  dsimp only at *
  have e2 := mono_e (take_mono [41] _) he
  rcases hb bs _ e2 with h | h
  · left; rw [h]
  · right; exact e4 (take_mono _ _) h
theorem atom_less (bs : List Bytes) : Less (PS.atom f bs) (PS.atom g bs) := by
  intro s he
  unfold PS.atom at *
  split
  · rename_i h
    rw [if_pos h] at he
    exact inner_less hb bs s he
  · exact .inl rfl
include hf hg
theorem args_less (bs : List Bytes) : ∀ m s, (PS.args g bs m s).2.e = 0 → PS.args f bs m s = PS.args g bs m s ∨ (PS.args f bs m s).2.e = 4 := by
  intro m
  induction m with
  | zero => intro s _; exact .inl rfl
  | succ m ih =>
    intro s he
    rw [args_succ] at he
    rw [args_succ, args_succ]
    by_cases hc : (s.named || s.is [40]) = true
    · rw [if_pos hc] at he
      rw [if_pos hc, if_pos hc]
      dsimp only at *
      have e1 := mono_e (args_mono hg bs m _) he
      rcases atom_less hb bs s e1 with h | h
      · rw [h]
        rcases ih _ he with h2 | h2
        · left; rw [h2]
        · right; exact h2
      · right; exact e4 (args_mono hf bs m _) h
    · rw [if_neg hc, if_neg hc]; exact .inl rfl
theorem atoms_less (bs : List Bytes) : Less (PS.atoms f bs) (PS.atoms g bs) := by
  intro s he
  unfold PS.atoms at *
  by_cases h : s.is [40] = true
  · rw [if_pos h] at he
    rw [if_pos h, if_pos h]
    dsimp only at *
    have e1 := mono_e (alone_mono _) he
    rcases inner_less hb bs s e1 with h2 | h2
    · left; rw [h2]
    · right; exact e4 (alone_mono _) h2
  · rw [if_neg h] at he
    rw [if_neg h, if_neg h]
    dsimp only at *
    by_cases h1 : s.name.2.e ≠ 0
    · rw [if_pos h1, if_pos h1]; exact .inl rfl
    · rw [if_neg h1] at he
      rw [if_neg h1, if_neg h1]
      by_cases h2 : s.name.1 = typ
      · rw [if_pos h2, if_pos h2]; exact .inl rfl
      · rw [if_neg h2] at he
        rw [if_neg h2, if_neg h2]
        rcases args_less hf hg hb bs _ _ he with h3 | h3
        · left; rw [h3]
        · right; exact h3
end
theorem term_less : ∀ n bs, Less (PS.term n bs) (PS.term (n + 1) bs)
  | 0, bs => fun s he => by
    right
    have := mono_e (term_mono 1 bs s) he
    show (s.fail 4).e = 4
    unfold PS.fail
    rw [if_pos this]
  | n + 1, bs => fun s he => by
    have ih := term_less n
    rw [term_succ] at he
    rw [term_succ, term_succ]
    by_cases h : s.is [123] = true
    · rw [if_pos h] at he
      rw [if_pos h, if_pos h]
      dsimp only at *
      have e2 := mono_e (term_mono _ _ _) he
      have e1 := mono_e (take_mono _ _) e2
      rcases ih _ _ e1 with h1 | h1
      · rw [h1]
        rcases ih _ _ he with h2 | h2
        · left; rw [h2]
        · right; exact h2
      · right; exact e4 ((take_mono _ _).trans (term_mono _ _ _)) h1
    · rw [if_neg h] at he
      rw [if_neg h, if_neg h]
      by_cases h' : s.is [91] = true
      · rw [if_pos h'] at he
        rw [if_pos h', if_pos h']
        dsimp only at *
        rcases ih _ _ he with h1 | h1
        · left; rw [h1]
        · right; exact h1
      · rw [if_neg h'] at he
        rw [if_neg h', if_neg h']
        exact atoms_less (term_mono n) (term_mono (n + 1)) ih bs s he

/-! ### tokens stand in the text -/
theorem toks_infix : ∀ (b : Bytes) (l : List Tok), toks b = some l → ∀ t ∈ l, t.2 <:+: b := by
  intro b
  induction b using bytes_ind with
  | h0 => intro l h t ht; rw [toks_nil] at h; cases h; cases ht
  | h1 c r hc ih => intro l h t ht; rw [toks_blank r hc] at h; exact (ih l h t ht).trans (List.suffix_cons _ _).isInfix
  | h2 r ih => intro l h t ht; rw [toks_note r rfl] at h; exact (ih l h t ht).trans ((List.dropWhile_suffix _).trans (List.suffix_cons _ _)).isInfix
  | h3 c r hc ih =>
    intro l h t ht
    rw [toks_mark r hc] at h
    cases hr : toks r with
    | none => rw [hr] at h; cases h
    | some l' =>
      rw [hr] at h
      simp only [Option.map_some, Option.some.injEq] at h
      subst h
      rcases List.mem_cons.1 ht with rfl | ht
      · exact (show [c] <+: c :: r from ⟨r, rfl⟩).isInfix
      · exact (ih l' hr t ht).trans (List.suffix_cons _ _).isInfix
  | h4 c r hc ih =>
    intro l h t ht
    rw [toks_name r hc] at h
    cases hr : toks (r.dropWhile named) with
    | none => rw [hr] at h; cases h
    | some l' =>
      rw [hr] at h
      simp only [Option.map_some, Option.some.injEq] at h
      subst h
      rcases List.mem_cons.1 ht with rfl | ht
      · exact (show c :: r.takeWhile named <+: c :: r from List.prefix_cons_inj c |>.2 (List.takeWhile_prefix _)).isInfix
      · exact (ih l' hr t ht).trans ((List.dropWhile_suffix _).trans (List.suffix_cons _ _)).isInfix
  | h5 c r h1 h2 h3 h4 => intro l h t ht; rw [toks_bad r h1 h2 h3 h4] at h; cases h

/-- A name that nothing has. -/
abbrev notThere : Bytes := [95, 110, 111, 116, 95, 116, 104, 101, 114, 101]
theorem toks_wrap {b : Bytes} {l : List Tok} (h : toks b = some l) : toks (40 :: (b ++ [10, 41])) = some ((1, [40]) :: (l ++ [(1, [41])])) := by
  rw [toks_mark _ (by decide), toks_join 10 (by decide) (by decide) b (fun h => absurd h (by decide)) [41], h, toks_mark [] (by decide), toks_nil]
  rfl
theorem toks_below {b : Bytes} {l : List Tok} (h : toks b = some l) : toks (91 :: (notThere ++ [93, 32] ++ b)) = some ((1, [91]) :: (0, notThere) :: (1, [93]) :: l) := by
  rw [toks_mark _ (by decide)]
  show Option.map _ (toks (95 :: ([110, 111, 116, 95, 116, 104, 101, 114, 101] ++ (93 :: 32 :: b)))) = _
  rw [toks_name _ (by decide)]
  obtain ⟨h1, h2⟩ := takeWhile_all (p := named) [110, 111, 116, 95, 116, 104, 101, 114, 101] (93 :: 32 :: b) (by decide) (by intro x hx; simp at hx; subst hx; decide)
  rw [h1, h2, toks_mark _ (by decide), toks_blank _ (by decide), h]
  rfl

theorem lexR_some {b : Bytes} {l : List Tok} (hb : b.length ≤ 20000) (h : toks b = some l) : lexR b = (l, 0) := by
  unfold lexR
  rw [if_neg (by omega), h]
/-- The end of a term's reading. -/
def finish (r : T × PS) : T × Int := if (if r.2.l ≠ [] then r.2.fail 8 else r.2).e ≠ 0 then (T0, (if r.2.l ≠ [] then r.2.fail 8 else r.2).e) else (r.1, 0)
theorem termOf_eq (b : Bytes) (sig : List D) : termOf b sig = finish (PS.whole ⟨(lexR b).1, sig, (lexR b).2⟩) := rfl
theorem finish_ok {r : T × PS} (h : (finish r).2 = 0) : r.2.l = [] ∧ r.2.e = 0 ∧ finish r = (r.1, 0) := by
  have key : ∀ s : PS, (if s.e ≠ 0 then (T0, s.e) else (r.1, (0 : Int))).2 = 0 → s.e = 0 ∧ (if s.e ≠ 0 then (T0, s.e) else (r.1, (0 : Int))) = (r.1, 0) := by
    intro s h
    by_cases h' : s.e ≠ 0
    · rw [if_pos h'] at h; exact absurd h h'
    · rw [if_neg h']; exact ⟨by simpa using h', rfl⟩
  obtain ⟨h1, h2⟩ := key _ h
  by_cases hc : r.2.l = []
  · rw [if_neg (fun h => h hc)] at h1
    exact ⟨hc, h1, h2⟩
  · rw [if_pos hc] at h1
    exact absurd h1 fail_err8
theorem finish_done {t : T} {s : List D} : finish (t, ⟨[], s, 0⟩) = (t, 0) := rfl
theorem whole_eq (s : PS) : s.whole = ((PS.term 120 [] s).1, if may (PS.term 120 [] s).1 then (PS.term 120 [] s).2 else (PS.term 120 [] s).2.fail 4) := rfl

theorem termOf_ok {b : Bytes} {sig : List D} (h : (termOf b sig).2 = 0) (hb : b.length ≤ 20000) : ∃ l, toks b = some l ∧ ∃ t, (PS.term 120 [] ⟨l, sig, 0⟩) = (t, ⟨[], sig, 0⟩) ∧ may t = true ∧ termOf b sig = (t, 0) := by
  rw [termOf_eq] at h
  obtain ⟨h1, h2, h3⟩ := finish_ok h
  have hmay := whole_ok h2
  have hlex : (lexR b).2 = 0 := mono_e (whole_mono _) h2
  have htoks : ∃ l, toks b = some l ∧ lexR b = (l, 0) := by
    cases ht : toks b with
    | none => unfold lexR at hlex; rw [if_neg (by omega), ht] at hlex; cases hlex
    | some l => exact ⟨l, rfl, lexR_some hb ht⟩
  obtain ⟨l, h4, h5⟩ := htoks
  rw [h5] at h1 h2 h3 hmay
  rw [whole_eq] at h1 h2 h3 hmay
  dsimp only at h1 h2 h3 hmay
  rw [if_pos hmay] at h1 h2 h3
  have hs := (term_mono 120 [] ⟨l, sig, 0⟩).sig
  refine ⟨l, h4, (PS.term 120 [] ⟨l, sig, 0⟩).1, ?_, hmay, ?_⟩
  · generalize PS.term 120 [] ⟨l, sig, 0⟩ = r at *
    obtain ⟨t, l', s', e'⟩ := r
    simp only at *
    rw [hs, h1, h2]
  · rw [termOf_eq, h5, whole_eq]
    dsimp only
    rw [if_pos hmay]
    exact h3
theorem termOf_of {b : Bytes} {sig : List D} {l : List Tok} (hb : b.length ≤ 20000) (h : toks b = some l) : termOf b sig = finish (PS.whole ⟨l, sig, 0⟩) := by
  rw [termOf_eq, lexR_some hb h]
theorem fail_4 {s : PS} (h : s.e = 4) (n : Int) : s.fail n = s := by unfold PS.fail; rw [if_neg (by rw [h]; decide)]
theorem finish_4 {r : T × PS} (h : r.2.e = 4) : (finish r).2 = 4 := by
  unfold finish
  rw [fail_4 h, ite_self, if_pos (by rw [h]; decide)]
  exact h
theorem whole_4 {s : PS} (h : (PS.term 120 [] s).2.e = 4) : s.whole.2.e = 4 := by
  rw [whole_eq]
  dsimp only
  rw [fail_4 h, ite_self]
  exact h

theorem term_paren (n : Nat) (l : List Tok) (sig : List D) : PS.term (n + 1) [] ⟨(1, [40]) :: l, sig, 0⟩ = ((PS.term n [] ⟨l, sig, 0⟩).1, ((PS.term n [] ⟨l, sig, 0⟩).2.take [41]).alone) := by
  rw [term_succ]; rfl
theorem term_brack (n : Nat) (x : Bytes) (l : List Tok) (sig : List D) : PS.term (n + 1) [] ⟨(1, [91]) :: (0, x) :: (1, [93]) :: l, sig, 0⟩ = (.mk 3 0 [(PS.term n [x] ⟨l, sig, 0⟩).1], (PS.term n [x] ⟨l, sig, 0⟩).2) := by
  rw [term_succ]; rfl
/-- A term in ( ). -/
theorem termOf_wrap {b : Bytes} {sig : List D} (hb : b.length ≤ 19000) (h : (termOf b sig).2 = 0) : termOf (40 :: (b ++ [10, 41])) sig = termOf b sig ∨ (termOf (40 :: (b ++ [10, 41])) sig).2 = 4 := by
  obtain ⟨l, h1, t, h2, h3, h4⟩ := termOf_ok h (by omega)
  rw [h4, termOf_of (by simp; omega) (toks_wrap h1)]
  have hsim : PS.term (119 + 1) [] (PS.more ⟨l, sig, 0⟩ [(1, [41])]) = (t, PS.more ⟨[], sig, 0⟩ [(1, [41])]) := by
    have := (sim_close []).term 120 [] ⟨l, sig, 0⟩ trivial (by rw [h2])
    rw [h2] at this
    exact this
  have hless := term_less 119 [] (PS.more ⟨l, sig, 0⟩ [(1, [41])]) (by rw [hsim]; rfl)
  rw [hsim] at hless
  have hterm : PS.term 120 [] ⟨(1, [40]) :: (l ++ [(1, [41])]), sig, 0⟩ = _ := term_paren 119 (l ++ [(1, [41])]) sig
  rw [show PS.mk (l ++ [(1, [41])]) sig 0 = PS.more ⟨l, sig, 0⟩ [(1, [41])] from rfl] at hterm
  rcases hless with hless | hless
  · left
    rw [whole_eq, hterm, hless]
    dsimp only
    rw [if_pos h3]
    rfl
  · right
    refine finish_4 (whole_4 ?_)
    rw [hterm]
    exact e4 ((take_mono _ _).trans (alone_mono _)) hless

/-- .. below a name that it does not have. -/
theorem termOf_below {b : Bytes} {sig : List D} (hb : b.length ≤ 19000) (h : (termOf b sig).2 = 0) (hn : ¬ notThere <:+: b) :
    termOf (91 :: (notThere ++ [93, 32] ++ b)) sig = (.mk 3 0 [(termOf b sig).1], 0) ∨ (termOf (91 :: (notThere ++ [93, 32] ++ b)) sig).2 = 4 := by
  obtain ⟨l, h1, t, h2, h3, h4⟩ := termOf_ok h (by omega)
  rw [h4, termOf_of (by simp; omega) (toks_below h1)]
  have hsim : PS.term (119 + 1) [notThere] ⟨l, sig, 0⟩ = (t, ⟨[], sig, 0⟩) := by
    have := (sim_out notThere).term 120 [] ⟨l, sig, 0⟩ (fun x hx e => hn (e ▸ toks_infix b l h1 x hx)) (by rw [h2])
    rw [h2] at this
    exact this
  have hless := term_less 119 [notThere] ⟨l, sig, 0⟩ (by rw [hsim])
  rw [hsim] at hless
  have hterm : PS.term 120 [] ⟨(1, [91]) :: (0, notThere) :: (1, [93]) :: l, sig, 0⟩ = _ := term_brack 119 notThere l sig
  rcases hless with hless | hless
  · rw [whole_eq, hterm, hless]
    dsimp only
    by_cases hm : may (.mk 3 0 [t]) = true
    · left
      rw [if_pos hm]
      rfl
    · right
      rw [if_neg hm]
      rfl
  · right
    refine finish_4 (whole_4 ?_)
    rw [hterm]
    exact hless
/-- Over more declarations. -/
theorem termOf_more {b : Bytes} {sig : List D} (d : List D) (hb : b.length ≤ 19000) (h : (termOf b sig).2 = 0) : termOf b (sig ++ d) = termOf b sig := by
  obtain ⟨l, h1, t, h2, h3, h4⟩ := termOf_ok h (by omega)
  rw [h4, termOf_of (by omega) h1]
  have := (sim_sig d).term 120 [] ⟨l, sig, 0⟩ trivial (by rw [h2])
  rw [h2] at this
  have this : PS.term 120 [] ⟨l, sig ++ d, 0⟩ = (t, ⟨[], sig ++ d, 0⟩) := this
  rw [whole_eq, this]
  dsimp only
  rw [if_pos h3]
  rfl
end Go.Ama

/-! The reference's reader: its small functions. -/
namespace Go.Proofs.LP
open Go Go.AM Go.Ama

section
variable (m : AM.Mode) (s : PS)
theorem rfail_spec (n : Int) : W.call 66 [.ref 0 0, .int n] [boxP m s] = some (.ret (.tup []), [boxP m (s.fail n)]) := by
  rw [C, boxP, e_ref14_Reader_fail, beq_int]
  unfold PS.fail
  by_cases h : s.e = 0 <;> simp [h, boxP]
theorem rmark_spec' (c : Bytes) : W.call 80 [.ref 0 0, .str (ba c)] [boxP m s] = some (.ret (.bool (s.is c)), [boxP m s]) := by
  rw [C, boxP, e_ref14_Reader_mark]
  unfold PS.is
  by_cases h : s.e = 0
  · cases hl : s.l with
    | nil => simp [h]
    | cons t r =>
      by_cases h1 : t.1 = 1 <;> simp [h, h1, ba_eq]
  · simp [h]
theorem rtake_spec (c : Bytes) : W.call 67 [.ref 0 0, .str (ba c)] [boxP m s] = some (.ret (.tup []), [boxP m (s.take c)]) := by
  rw [C, e_ref14_Reader_take, rmark_spec']
  cases h : s.is c with
  | false => rw [take_no h]; simp [rfail_spec]
  | true =>
    obtain ⟨r, h1, h2, h3⟩ := take_yes h
    rw [h3]
    simp [h1, boxP, h2]
theorem rname_spec : W.call 64 [.ref 0 0] [boxP m s] = some (.ret (.str (ba s.name.1)), [boxP m s.name.2]) := by
  rw [C, boxP, e_ref14_Reader_name, ← boxP, rfail_spec]
  cases h : s.named with
  | false =>
    rw [name_no h]
    unfold PS.named at h
    by_cases he : s.e = 0
    · cases hl : s.l with
      | nil => simp [he]
      | cons t r =>
        rw [hl] at h
        have h1 : t.1 ≠ 0 := by simpa [he] using h
        have h2 : ¬ ((r.length : Int) + 1 = 0) := by omega
        simp [he, h1, h2]
    · simp [he]
  | true =>
    obtain ⟨x, r, h1, h2, h3⟩ := name_yes h
    have h4 : ¬ ((r.length : Int) + 1 = 0) := by omega
    rw [h3]
    simp [h1, boxP, h2]
theorem rbegins_spec : W.call 93 [.ref 0 0] [boxP m s] = some (.ret (.bool (s.named || s.is [40])), [boxP m s]) := by
  rw [C, e_ref14_Reader_begins, paren, rmark_spec']
  cases h : s.is [40] with
  | true => simp
  | false =>
    unfold PS.named
    by_cases he : s.e = 0
    · cases hl : s.l with
      | nil => simp [he, hl]
      | cons t r => by_cases h1 : t.1 = 0 <;> simp [he, hl, h1]
    · simp [he]
end

theorem rName_spec (x : Bytes) (hx : x.length ≤ 1048576) : Ev 65 [.str (ba x)] (.bool (nameOK x)) := by
  unfold Ev
  have hp := (rtokens_spec x hx).p (by simp [belowL, below, below_encB]) (by simp [encRes, below, belowL, below_encToks])
  rw [encRes, (lexR_eq x).1, (lexR_eq x).2] at hp
  rw [C, e_ref14_Name, bytesV_ba, hp]
  unfold nameOK
  simp only [obind_some', onTup_tup, onCons_cons, onVec_plain, onInt_int, onNil_nil, ba_size]
  by_cases h40 : x.length ≤ 40
  · have h41 : ¬ (40 : Int) < x.length := by omega
    cases ht : toks x with
    | none =>
      have : lexR x = ([], 8) := by unfold lexR; rw [if_neg (by omega), ht]
      simp [this]
    | some l =>
      rw [lexR_some (by omega) ht]
      cases x with
      | nil => simp
      | cons c r =>
        have h1 : ¬ (r.length : Int) + 1 < 1 := by omega
        have h2 : ((c.toNat : Int) = 95) = (c = 95) := by
          have := byteAll (p := fun c => decide ((c.toNat : Int) = 95) = decide (c = 95)) (by decide +kernel) c
          simpa using this
        by_cases hty : (c :: r : Bytes) = typ
        · simp [h1, hty]
        · have h41' : ¬ (40 : Int) < (r.length : Int) + 1 := by simp at h41; omega
          have h5 : r.length + 1 ≤ 40 := h40
          by_cases h4 : c = 95
          · simp [h1, h41', h2, h4, ba_dl]
          · match l with
            | [] => simp [h1, h41', h2, h4, ba_dl, hty, h5]
            | [t] =>
              obtain ⟨k, y⟩ := t
              by_cases hk : k = 0 <;> simp [h1, h41', h2, h4, ba_dl, hty, h5, hk, ba_eq]
            | t :: u :: l =>
              have : ¬ ((l.length : Int) + 1 + 1 = 1) := by omega
              simp [h1, h41', h2, h4, ba_dl, hty, h5, this]
  · have h1 : ¬ (x.length : Int) < 1 := by omega
    have h2 : (40 : Int) < x.length := by omega
    by_cases he : (lexR x).2 = 0 <;> simp [he, h1, h2, h40]

theorem rback_loop (x : Bytes) (bs : List Bytes) (v0 : V) (st : St) (hb : bs.length ≤ 1048576) : ∀ d k, k + d = bs.length →
    W.loop 94 2 [.loc true (some 3) v0, .int ((bs.length : Int) - 1 - (k : Nat)), .vec .plain none (encS bs.reverse), .str (ba x), .ref 0 0] st =
      some (match back x (bs.drop k) with
        | some i => (Ex.ret, [V.loc false (some 3) (V.agg [V.int 4, V.int ((k + i : Nat) : Int), V.vec .full (some 3) []])], st)
        | none => (Ex.exit 0, [V.loc true (some 3) v0, V.ref 0 0, V.str (ba x)], st)) := by
  intro d
  induction d with
  | zero =>
    intro k hk
    have hkl : k = bs.length := by omega
    subst hkl
    rw [L, e_ref14_Reader_head_L2, List.drop_length, bc_dec_f (by omega)]
    rfl
  | succ d ih =>
    intro k hk
    have hkl : k < bs.length := by omega
    have he : ((bs.length : Int) - 1 - (k : Nat)) = ((bs.length - 1 - k : Nat) : Int) := by omega
    have hi : bs.length - 1 - k < bs.reverse.length := by simp; omega
    have hget : bs.reverse[bs.length - 1 - k] = bs[k] := by
      rw [List.getElem_reverse]; congr 1; omega
    have hd : bs.drop k = bs[k] :: bs.drop (k + 1) := List.drop_eq_getElem_cons hkl
    have h2 : ((bs.length - 1 - k : Nat) : Int) < bs.length := by omega
    have w1 : IntKind.i64.wrap ((bs.length : Int) - 1) = (bs.length : Int) - 1 := wrap_id ⟨by omega, by omega⟩
    have w2 : IntKind.i64.wrap ((bs.length : Int) - 1 - ((bs.length - 1 - k : Nat) : Int)) = (k : Nat) := by rw [wrap_id ⟨by omega, by omega⟩]; omega
    have w3 : IntKind.i64.wrap (((bs.length - 1 - k : Nat) : Int) - 1) = (bs.length : Int) - 1 - ((k + 1 : Nat) : Int) := by rw [wrap_id ⟨by omega, by omega⟩]; omega
    have hn := ih (k + 1) (by omega)
    rw [L, he, e_ref14_Reader_head_L2, getI_encS hi, hget, hd, encS_length, List.length_reverse, w1, w2, w3, hn]
    by_cases hx : bs[k] = x
    · simp [back, hx, ba_eq, h2]
    · simp [back, hx, ba_eq, h2]
      cases back x (bs.drop (k + 1)) with
      | none => rfl
      | some i => simp; omega

theorem rdecl_loop (m : AM.Mode) (s : PS) (x : Bytes) (v0 : V) (hs : s.s.length ≤ 1048576) (ht : ∀ d ∈ s.s, d.t.size ≤ 1048576) : ∀ d k, k + d = s.s.length →
    W.loop 94 7 [.loc true (some 3) v0, .int (k : Nat), .ref 0 0, .str (ba x)] [boxP m s] =
      some (match idx x (s.s.drop k) with
        | some i => (Ex.ret, [V.loc false (some 3) (V.agg [V.int (if (split ((s.s.map (·.t)).getD (k + i) T0)).2.k = 0 then 2 else 5), V.int ((k + i : Nat) : Int), V.vec .full (some 3) []])], [boxP m s])
        | none => (Ex.exit 2, [V.loc true (some 3) v0, V.ref 0 0], [boxP m s])) := by
  intro d
  induction d with
  | zero =>
    intro k hk
    have hkl : k = s.s.length := by omega
    subst hkl
    rw [L, e_ref14_Reader_head_L7, List.drop_length]
    simp [idx]
  | succ d ih =>
    intro k hk
    have hkl : k < s.s.length := by omega
    have hd : s.s.drop k = s.s[k] :: s.s.drop (k + 1) := List.drop_eq_getElem_cons hkl
    have hg : (s.s.map (·.t)).getD k T0 = s.s[k].t := by simp [List.getD_eq_getElem?_getD, hkl]
    have hp := (rkind_spec s.s[k].t (ht _ (List.getElem_mem hkl))).p
    rw [enc_eta] at hp
    rw [L, e_ref14_Reader_head_L7, hd, wrap_id ⟨by omega, by omega⟩]
    have hn := ih (k + 1) (by omega)
    by_cases hx : s.s[k].name = x
    · by_cases hk0 : (split s.s[k].t).2.k = 0
      · simp [idx, hx, ba_eq, hkl, getI_encDs hkl, hp, hk0]
      · simp [idx, hx, ba_eq, hkl, getI_encDs hkl, hp, hk0]
    · rw [show ((k : Nat) : Int) + 1 = ((k + 1 : Nat) : Int) from rfl]
      simp only [getR_0, onBoxP, cl1, onVec_plain, encDs_length, getI_encDs hkl, onDn, ba_eq, hx, hn]
      simp [idx, hx, hkl]
      cases idx x (s.s.drop (k + 1)) with
      | none => rfl
      | some i => simp [show k + 1 + i = k + (i + 1) by omega]; omega

theorem rhead_spec (m : AM.Mode) (s : PS) (x : Bytes) (bs : List Bytes) (hb : bs.length ≤ 1048576) (hs : s.s.length ≤ 1048576) (ht : ∀ d ∈ s.s, d.t.size ≤ 1048576) :
    W.call 94 [.ref 0 0, .str (ba x), .vec .plain none (encS bs.reverse)] [boxP m s] = some (.ret (encF (s.head x bs).1), [boxP m (s.head x bs).2]) := by
  have h := rback_loop x bs (V.agg [V.int 0, V.int 0, V.vec .full (some 3) []]) [boxP m s] hb bs.length 0 (by omega)
  have h2 := rdecl_loop m s x (V.agg [V.int 0, V.int 0, V.vec .full (some 3) []]) hs ht s.s.length 0 (by omega)
  have h0 : ((bs.length : Int) - 1 - ((0 : Nat) : Int)) = (bs.length : Int) - 1 := by omega
  have w1 : IntKind.i64.wrap ((bs.length : Int) - 1) = (bs.length : Int) - 1 := wrap_id ⟨by omega, by omega⟩
  rw [h0, List.drop_zero] at h
  rw [List.drop_zero] at h2
  rw [C, boxP, e_ref14_Reader_head, ← boxP, encS_length, List.length_reverse, w1, h, obind_some']
  unfold PS.head
  cases hbk : back x bs with
  | some i => simp; rfl
  | none =>
    have h2' : W.loop 94 7 [.loc true (some 3) (V.agg [V.int 0, V.int 0, V.vec .full (some 3) []]), .int 0, .ref 0 0, .str (ba x)] [boxP m s] = _ := h2
    simp only [onEx_exit, show Nat.beq 0 0 = true from rfl, bc_true, onCons_cons, onLoc_loc, onRef_ref, onStr_str, onNil_nil, h2', obind_some']
    cases hix : idx x s.s with
    | none => simp [rfail_spec]; rfl
    | some i => simp; rfl
end Go.Proofs.LP

/-! The reference's reader: terms. -/
namespace Go.Proofs.LP
open Go Go.AM Go.Ama

/-- A function of the reader hands back a term; where nothing went wrong it is that one. -/
def Says (f : Nat) (args : List V) (m : AM.Mode) (s : PS) (r : T × PS) : Prop :=
  ∃ t', W.call f args [boxP m s] = some (.ret (enc t'), [boxP m r.2]) ∧ (r.2.e = 0 → t' = r.1) ∧ t'.size + 2 * r.2.l.length ≤ 2 * s.l.length + 1
def Small (s : PS) : Prop := s.l.length ≤ 100000 ∧ s.s.length ≤ 1000 ∧ ∀ d ∈ s.s, d.t.size ≤ 1048576
theorem Small.mono {s r : PS} (h : Small s) (m : Mono s r) : Small r := ⟨Nat.le_trans m.len h.1, by rw [m.sig]; exact h.2.1, by rw [m.sig]; exact h.2.2⟩
def RTermOK (n : Nat) : Prop := ∀ (m : AM.Mode) (s : PS) (bs : List Bytes), bs.length + n ≤ 1000 → Small s →
  Says 81 [.ref 0 0, .vec .plain none (encS bs.reverse), .int (121 - (n : Nat))] m s (s.term n bs)

section
variable {n : Nat} (hn : n ≤ 119) (ht : RTermOK n)
include hn ht
theorem rinner_spec (m : AM.Mode) (s : PS) (bs : List Bytes) (hb : bs.length + n ≤ 1000) (hs : Small s) :
    ∃ t', W.call 92 [.ref 0 0, .vec .plain none (encS bs.reverse), .int (120 - (n : Nat))] [boxP m s] = some (.ret (enc t'), [boxP m (s.inner (PS.term n) bs).2]) ∧ ((s.inner (PS.term n) bs).2.e = 0 → t' = (s.inner (PS.term n) bs).1) ∧
      (s.is [40] = true → t'.size + 2 * (s.inner (PS.term n) bs).2.l.length + 1 ≤ 2 * s.l.length) := by
  obtain ⟨t', h1, h2, h3⟩ := ht m (s.take [40]) bs hb (hs.mono (take_mono _ _))
  have hw : IntKind.i64.wrap (120 - (n : Nat) + 1) = 121 - (n : Nat) := by rw [wrap_id ⟨by omega, by omega⟩]; omega
  refine ⟨t', ?_, fun he => h2 (mono_e (take_mono [41] _) he), fun hi => ?_⟩
  rotate_left
  · obtain ⟨r, hl, he, htk⟩ := take_yes hi
    have h4 := (take_mono [41] (PS.term n bs (s.take [40])).2).len
    rw [htk] at h3 h4
    unfold PS.inner
    rw [htk, hl]
    simp only [List.length_cons] at *
    omega
  rw [C, e_ref14_Reader_inner]
  simp only [lit40, lit41, rtake_spec, obind_some', onRet_ret, onTup_tup, onNil_nil, hw, h1, onTe, ← enc_eta]
  rfl
/-- What stands behind the head. -/
theorem rargs_spec (m : AM.Mode) (bs : List Bytes) (hb : bs.length + n ≤ 1000) (k h : Int) (v6 : V) : ∀ (q : Nat) (s : PS) (xs : List T), s.l.length ≤ q → s.l.length + xs.length ≤ 100000 → Small s →
    ∃ ys, W.loop 88 18 [.ref 0 0, .loc true (some 3) (.agg [.int k, .int h, .vec .grow (some 3) (encs xs)]), .int (120 - (n : Nat)), .vec .plain none (encS bs.reverse), .loc true (some 3) v6, .bool (s.named || s.is [40])] [boxP m s] =
      some (Ex.exit 0, [.loc true (some 3) v6, .loc true (some 3) (.agg [.int k, .int h, .vec .grow (some 3) (encs (xs ++ ys))])], [boxP m (PS.args (PS.term n) bs q s).2]) ∧ ((PS.args (PS.term n) bs q s).2.e = 0 → ys = (PS.args (PS.term n) bs q s).1) ∧ sizes ys + 2 * (PS.args (PS.term n) bs q s).2.l.length ≤ 2 * s.l.length := by
  have stop : ∀ (q : Nat) (s : PS) (xs : List T), (s.named || s.is [40]) = false → ∃ ys, W.loop 88 18 [.ref 0 0, .loc true (some 3) (.agg [.int k, .int h, .vec .grow (some 3) (encs xs)]), .int (120 - (n : Nat)), .vec .plain none (encS bs.reverse), .loc true (some 3) v6, .bool (s.named || s.is [40])] [boxP m s] =
      some (Ex.exit 0, [.loc true (some 3) v6, .loc true (some 3) (.agg [.int k, .int h, .vec .grow (some 3) (encs (xs ++ ys))])], [boxP m (PS.args (PS.term n) bs q s).2]) ∧ ((PS.args (PS.term n) bs q s).2.e = 0 → ys = (PS.args (PS.term n) bs q s).1) ∧ sizes ys + 2 * (PS.args (PS.term n) bs q s).2.l.length ≤ 2 * s.l.length := by
    intro q s xs hc
    have : PS.args (PS.term n) bs q s = ([], s) := by
      cases q with
      | zero => rfl
      | succ q => rw [args_succ, if_neg (by rw [hc]; simp)]
    refine ⟨[], ?_, fun _ => by rw [this], by rw [this]; simp [sizes]⟩
    rw [L, e_ref14_Reader_app_L18, hc, this]
    simp
  intro q
  induction q with
  | zero =>
    intro s xs hq hl hs
    have hnil : s.l = [] := List.eq_nil_of_length_eq_zero (by omega)
    exact stop 0 s xs (by simp [PS.named, PS.is, hnil])
  | succ q ih =>
    intro s xs hq hl hs
    by_cases hc : (s.named || s.is [40]) = true
    · have hlt := atom_lt (term_mono n) (bs := bs) hc
      have hat := atom_mono (term_mono n) bs s
      have hr : roomFor Try.prog 44 (xs.length + 1) = true := room24 (by omega)
      cases hi : s.is [40] with
      | true =>
        have hA : s.atom (PS.term n) bs = s.inner (PS.term n) bs := by unfold PS.atom; rw [if_pos hi]
        rw [hA] at hat hlt
        obtain ⟨t', h1, h2, h5⟩ := rinner_spec hn ht m s bs hb hs
        obtain ⟨ys, h3, h4, h6⟩ := ih (s.inner (PS.term n) bs).2 (xs ++ [t']) (by omega) (by simp; omega) (hs.mono hat)
        refine ⟨t' :: ys, ?_, fun he => ?_, ?_⟩
        rotate_left 2
        · rw [args_succ, if_pos hc, hA]
          have := h5 hi
          simp only [sizes]
          omega
        · rw [encs_append, show encs [t'] = [enc t'] from rfl, List.append_assoc, List.singleton_append] at h3
          rw [hi, Bool.or_true] at hc
          rw [L, e_ref14_Reader_app_L18, args_succ, if_pos (by rw [hi]; simp), hA]
          simp only [hi, Bool.or_true, bc_true, lit40, rmark_spec', obind_some', onRet_ret, onBool_bool, h1, onTe, ← enc_eta, rbegins_spec, encs_length, List.length_singleton, hr, Bool.and_self, gd_true, h3]
        · rw [args_succ, if_pos hc, hA] at he ⊢
          rw [h4 he, h2 (mono_e (args_mono (term_mono n) bs q _) he)]
      | false =>
        have hna : s.named = true := by rw [hi, Bool.or_false] at hc; exact hc
        have hA : s.atom (PS.term n) bs = if s.name.1 = typ then (T0, s.name.2.fail 8) else s.name.2.head s.name.1 bs := by unfold PS.atom; rw [if_neg (by rw [hi]; simp)]
        have hm := name_mono s
        by_cases hx : s.name.1 = typ
        · rw [if_pos hx] at hA
          rw [hA] at hat hlt
          have hf := fail_mono 8 s.name.2
          have hlt' : (s.name.2.fail 8).l.length < s.l.length := hlt
          obtain ⟨ys, h3, h4, h6⟩ := ih (s.name.2.fail 8) xs (by omega) (by omega) (hs.mono hat)
          refine ⟨ys, ?_, fun he => ?_, ?_⟩
          rotate_left 2
          · rw [args_succ, if_pos hc, hA]
            show sizes ys + 2 * (PS.args (PS.term n) bs q (s.name.2.fail 8)).2.l.length ≤ _
            omega
          · rw [L, e_ref14_Reader_app_L18, args_succ, if_pos hc, hA]
            simp only [hi, hna, Bool.or_false, bc_true, bc_false, lit40, rmark_spec', obind_some', onRet_ret, onBool_bool, rname_spec, onStr_str, typ_lit2, hx, decide_true, rfail_spec, onTup_tup, onNil_nil, rbegins_spec, h3]
          · rw [args_succ, if_pos hc, hA] at he
            exact absurd (mono_e (args_mono (term_mono n) bs q _) he) fail_err8
        · rw [if_neg hx] at hA
          rw [hA] at hat hlt
          obtain ⟨ys, h3, h4, h6⟩ := ih (s.name.2.head s.name.1 bs).2 (xs ++ [(s.name.2.head s.name.1 bs).1]) (by omega) (by simp; omega) (hs.mono hat)
          have hh := rhead_spec m s.name.2 s.name.1 bs (by omega) (by have := (hs.mono hm).2.1; omega) (hs.mono hm).2.2
          refine ⟨(s.name.2.head s.name.1 bs).1 :: ys, ?_, fun he => ?_, ?_⟩
          rotate_left 2
          · have h7 := atom_size (term_size n) (bs := bs) (s := s) hc
            rw [hA] at h7
            rw [args_succ, if_pos hc, hA]
            simp only [sizes]
            omega
          · have hcl : cleanV (encF (s.name.2.head s.name.1 bs).1) = enc (s.name.2.head s.name.1 bs).1 := by
              have h := head_args s.name.1 bs s.name.2
              generalize (s.name.2.head s.name.1 bs).1 = t at *
              obtain ⟨k, h', zs⟩ := t
              simp only [T.args] at h
              subst h
              rfl
            rw [encs_append, show encs [(s.name.2.head s.name.1 bs).1] = [enc (s.name.2.head s.name.1 bs).1] from rfl, List.append_assoc, List.singleton_append] at h3
            rw [L, e_ref14_Reader_app_L18, args_succ, if_pos hc, hA]
            simp only [hi, hna, Bool.or_false, bc_true, bc_false, lit40, rmark_spec', obind_some', onRet_ret, onBool_bool, rname_spec, onStr_str, typ_lit2, hx, decide_false, hh, hcl, onTe, ← enc_eta, encs_length, List.length_singleton, hr, Bool.and_self, gd_true, rbegins_spec, h3]
          · rw [args_succ, if_pos hc, hA] at he ⊢
            rw [h4 he]
    · exact stop (q + 1) s xs (by simpa using hc)

theorem rapp_spec (m : AM.Mode) (s : PS) (bs : List Bytes) (hb : bs.length + n ≤ 1000) (hs : Small s) :
    Says 88 [.ref 0 0, .vec .plain none (encS bs.reverse), .int (120 - (n : Nat))] m s (s.atoms (PS.term n) bs) := by
  have hm := name_mono s
  unfold PS.atoms
  cases hi : s.is [40] with
  | true =>
    obtain ⟨t', h1, h2, h5⟩ := rinner_spec hn ht m s bs hb hs
    refine ⟨t', ?_, fun he => h2 (mono_e (alone_mono _) he), ?_⟩
    rotate_left
    · have := h5 hi
      have := (alone_mono (s.inner (PS.term n) bs).2).len
      simp only [if_true]
      omega
    rw [C, e_ref14_Reader_app]
    simp only [lit40, rmark_spec', obind_some', onRet_ret, onBool_bool, hi, bc_true, h1, onTe, ← enc_eta, rbegins_spec, if_true]
    unfold PS.alone
    cases hq : ((s.inner (PS.term n) bs).2.named || (s.inner (PS.term n) bs).2.is [40]) with
    | true => simp only [bc_true, rfail_spec, obind_some', onRet_ret, onTup_tup, onNil_nil, if_true]; rfl
    | false => simp only [bc_false, Bool.false_eq_true, if_false]; rfl
  | false =>
    rw [if_neg (by simp)]
    dsimp only
    by_cases he : s.name.2.e = 0
    · rw [if_neg (by simpa using he)]
      by_cases hx : s.name.1 = typ
      · rw [if_pos hx]
        refine ⟨T0, ?_, fun _ => rfl, by have h1 := hm.len; have h2 := (alone_mono s.name.2).len; simp [T.size, sizes]; omega⟩
        rw [C, e_ref14_Reader_app]
        simp only [lit40, rmark_spec', obind_some', onRet_ret, onBool_bool, hi, bc_false, rname_spec, onStr_str, getR_0, onBoxP, cl2, onInt_int, he, typ_lit2, hx, decide_true, bc_true, rbegins_spec]
        unfold PS.alone
        cases hq : (s.name.2.named || s.name.2.is [40]) with
        | true => simp [rfail_spec]; rfl
        | false => simp; rfl
      · rw [if_neg hx]
        have hh := head_mono s.name.1 bs s.name.2
        have hr := rhead_spec m s.name.2 s.name.1 bs (by omega) (by have := (hs.mono hm).2.1; omega) (hs.mono hm).2.2
        obtain ⟨ys, h3, h4, h6⟩ := rargs_spec hn ht m bs hb (s.name.2.head s.name.1 bs).1.k (s.name.2.head s.name.1 bs).1.h (V.agg [V.int 0, V.int 0, V.vec Mode.full (some 3) []]) (s.name.2.head s.name.1 bs).2.l.length (s.name.2.head s.name.1 bs).2 [] (Nat.le_refl _)
          (by have := ((hs.mono hm).mono hh).1; simpa using this) ((hs.mono hm).mono hh)
        refine ⟨.mk (s.name.2.head s.name.1 bs).1.k (s.name.2.head s.name.1 bs).1.h ys, ?_, fun he => by rw [h4 he], by have h1 := hm.len; have h2 := hh.len; simp only [T.size]; omega⟩
        rw [show encs [] = ([] : List V) from rfl, List.nil_append] at h3
        rw [C, e_ref14_Reader_app]
        simp only [lit40, rmark_spec', obind_some', onRet_ret, onBool_bool, hi, bc_false, rname_spec, onStr_str, getR_0, onBoxP, cl2, onInt_int, he, typ_lit2, hx, decide_false, hr, encF, onEncF, rbegins_spec, h3]
        simp
        rfl
    · rw [if_pos (by simpa using he)]
      refine ⟨T0, ?_, fun h => absurd h he, by have h1 := hm.len; simp [T.size, sizes]; omega⟩
      rw [C, e_ref14_Reader_app]
      simp only [lit40, rmark_spec', obind_some', onRet_ret, onBool_bool, hi, bc_false, rname_spec, onStr_str, getR_0, onBoxP, cl2, onInt_int]
      simp [he]
      rfl
end

theorem rterm_ok : ∀ n : Nat, n ≤ 120 → RTermOK n
  | 0, _ => fun m s bs _ _ => ⟨T0, by
    rw [C, e_ref14_Reader_term]
    simp [rfail_spec]
    exact ⟨rfl, rfl⟩, fun _ => rfl, by simp only [PS.term, fail_l]; simp [T.size, sizes]; omega⟩
  | n + 1, hn => fun m s bs hb hs => by
    have ih := rterm_ok n (by omega)
    have hd : ((121 : Int) - ((n + 1 : Nat) : Int)) = 120 - (n : Nat) := by omega
    have hgt : ¬ (120 : Int) - (n : Nat) > 120 := by omega
    have hw : IntKind.i64.wrap (120 - (n : Nat) + 1) = 121 - (n : Nat) := by rw [wrap_id ⟨by omega, by omega⟩]; omega
    have hr : roomFor Try.prog 9 (bs.length + 1) = true := room_string (by omega)
    have hr0 : roomFor Try.prog 9 bs.length = true := room_string (by omega)
    rw [term_succ, hd]
    cases h1 : s.is [123] with
    | true =>
      have m1 := (take_mono [123] s).trans (name_mono _)
      have m2 := m1.trans (take_mono [58] _)
      have m3 := m2.trans (term_mono n bs _)
      have m4 := m3.trans (take_mono [125] _)
      obtain ⟨a, g1, g2, g5⟩ := ih m ((s.take [123]).name.2.take [58]) bs (by omega) (hs.mono m2)
      obtain ⟨b, g3, g4, g6⟩ := ih m ((PS.term n bs ((s.take [123]).name.2.take [58])).2.take [125]) ((s.take [123]).name.1 :: bs) (by simp; omega) (hs.mono m4)
      rw [List.reverse_cons, encS_append, show encS [(s.take [123]).name.1] = [V.str (ba (s.take [123]).name.1)] from rfl] at g3
      rw [if_pos rfl]
      refine ⟨.mk 1 0 [a, b], ?_, fun he => ?_, ?_⟩
      rotate_left 2
      · obtain ⟨r, hl, he, htk⟩ := take_yes h1
        have h6 : (s.take [123]).l.length + 1 = s.l.length := by rw [htk, hl]; rfl
        have l1 := (name_mono (s.take [123])).len
        have l2 := (take_mono [58] (s.take [123]).name.2).len
        have l3 := (take_mono [125] (PS.term n bs ((s.take [123]).name.2.take [58])).2).len
        simp only [T.size, sizes]
        omega
      · rw [C, e_ref14_Reader_term, bc_dec_f hgt]
        simp only [lit123, lit91, lit58, lit125, rmark_spec', obind_some', onRet_ret, onBool_bool, h1, bc_true, rtake_spec, onTup_tup, onNil_nil, rname_spec, onStr_str, hw, g1, onTe, List.nil_append, Nat.zero_add, encS_length, List.length_reverse, List.length_singleton, hr, hr0, Bool.and_self, gd_true, g3, ← enc_eta]
        rfl
      · rw [g4 he, g2 (mono_e ((take_mono [125] _).trans (term_mono n _ _)) he)]
    | false =>
      rw [if_neg (by simp)]
      cases h2 : s.is [91] with
      | true =>
        have m1 := (take_mono [91] s).trans (name_mono _)
        have m2 := m1.trans (take_mono [93] _)
        obtain ⟨b, g3, g4, g6⟩ := ih m ((s.take [91]).name.2.take [93]) ((s.take [91]).name.1 :: bs) (by simp; omega) (hs.mono m2)
        rw [List.reverse_cons, encS_append, show encS [(s.take [91]).name.1] = [V.str (ba (s.take [91]).name.1)] from rfl] at g3
        rw [if_pos rfl]
        refine ⟨.mk 3 0 [b], ?_, fun he => by rw [g4 he], ?_⟩
        rotate_left
        · obtain ⟨r, hl, he, htk⟩ := take_yes h2
          have h6 : (s.take [91]).l.length + 1 = s.l.length := by rw [htk, hl]; rfl
          have l1 := (name_mono (s.take [91])).len
          have l2 := (take_mono [93] (s.take [91]).name.2).len
          simp only [T.size, sizes]
          omega
        rw [C, e_ref14_Reader_term, bc_dec_f hgt]
        simp only [lit123, lit91, lit93, rmark_spec', obind_some', onRet_ret, onBool_bool, h1, h2, bc_true, bc_false, rtake_spec, onTup_tup, onNil_nil, rname_spec, onStr_str, hw, onTe, List.nil_append, Nat.zero_add, encS_length, List.length_reverse, List.length_singleton, hr, hr0, Bool.and_self, gd_true, g3, ← enc_eta]
        rfl
      | false =>
        rw [if_neg (by simp)]
        obtain ⟨t', g1, g2, g5⟩ := rapp_spec (by omega) ih m s bs (by omega) hs
        refine ⟨t', ?_, g2, g5⟩
        rw [C, e_ref14_Reader_term, bc_dec_f hgt]
        simp only [lit123, lit91, rmark_spec', obind_some', onRet_ret, onBool_bool, h1, h2, bc_false, g1, onTe, ← enc_eta]
        rfl
end Go.Proofs.LP

/-! The reference's reader: declarations. -/
namespace Go.Proofs.LP
open Go Go.AM Go.Ama

theorem rwhole_spec (m : AM.Mode) (s : PS) (hs : Small s) : Says 68 [.ref 0 0] m s s.whole := by
  obtain ⟨t', g1, g2, g3⟩ := rterm_ok 120 (Nat.le_refl _) m s [] (by simp) hs
  have h0 := hs.1
  have hmay := (rmay_spec t' (by omega)).p
  rw [show encS ([] : List Bytes).reverse = [] from rfl, show ((121 : Int) - ((120 : Nat) : Int)) = 1 from rfl] at g1
  have hme := whole_mono s
  rw [enc_eta] at hmay
  rw [whole_eq]
  refine ⟨t', ?_, ?_, ?_⟩
  · rw [C, e_ref14_Reader_whole]
    simp only [g1, obind_some', onRet_ret, onTe, hmay, onBool_bool, getR_0, onBoxP, cl2, onInt_int]
    by_cases he : (PS.term 120 [] s).2.e = 0
    · have := g2 he
      subst this
      cases hm : may (PS.term 120 [] s).1 with
      | true => simp [he, ← enc_eta]
      | false => simp [he, rfail_spec, ← enc_eta]
    · have h8 : ∀ n, (PS.term 120 [] s).2.fail n = (PS.term 120 [] s).2 := fun n => fail_err he
      simp [he, h8, ← enc_eta]
  · intro he
    dsimp only at *
    refine g2 ?_
    split at he
    · exact he
    · exact absurd he (fail_ne (by decide) _)
  · dsimp only
    split
    · exact g3
    · rw [fail_l]; exact g3

theorem rdup_loop (m : AM.Mode) (x : Bytes) : ∀ d k (s : PS), s.s.length ≤ 1048576 → k + d = s.s.length →
    W.loop 51 5 [.int (k : Nat), .ref 0 0, .str (ba x)] [boxP m s] = some (Ex.exit 0, [.str (ba x), .ref 0 0], [boxP m (if (idx x (s.s.drop k)).isSome then s.fail 8 else s)]) := by
  intro d
  induction d with
  | zero =>
    intro k s hs hk
    have hkl : k = s.s.length := by omega
    subst hkl
    rw [L, e_ref14_Reader_decl_L5, List.drop_length]
    simp [idx]
  | succ d ih =>
    intro k s hs hk
    have hkl : k < s.s.length := by omega
    have hd : s.s.drop k = s.s[k] :: s.s.drop (k + 1) := List.drop_eq_getElem_cons hkl
    have h1 := ih (k + 1) s hs (by omega)
    have h2 := ih (k + 1) (s.fail 8) (by rw [fail_s]; exact hs) (by rw [fail_s]; omega)
    rw [fail_s, fail_err fail_err8, ite_self] at h2
    rw [L, e_ref14_Reader_decl_L5, hd, wrap_id ⟨by omega, by omega⟩, show ((k : Nat) : Int) + 1 = ((k + 1 : Nat) : Int) from rfl]
    by_cases hx : s.s[k].name = x
    · simp only [getR_0, onBoxP, cl1, onVec_plain, encDs_length, getI_encDs hkl, onDn, ba_eq, hx, rfail_spec, decide_true, bc_true, obind_some', onRet_ret, onTup_tup, onNil_nil, h2]
      simp [idx, hkl, hx]
    · simp only [getR_0, onBoxP, cl1, onVec_plain, encDs_length, getI_encDs hkl, onDn, ba_eq, hx, h1]
      simp [idx, hx, hkl]

/-- What a name and what stands behind it come to. -/
def declHead (s : PS) : PS := if !nameOK s.name.1 || (idx s.name.1 s.name.2.s).isSome then s.name.2.fail 8 else s.name.2
theorem decl_eq (s : PS) : s.decl = { ((declHead s).take [58]).whole.2.take [46] with s := (((declHead s).take [58]).whole.2.take [46]).s ++ [⟨s.name.1, ((declHead s).take [58]).whole.1⟩] } := rfl
theorem declHead_mono (s : PS) : Mono s (declHead s) := by
  unfold declHead
  split
  · exact (name_mono s).trans (fail_mono 8 _)
  · exact name_mono s
theorem rdecl_spec (m : AM.Mode) (hm : m = .grow ∨ m = .full) (s : PS) (hs : Small s) (h9 : s.s.length ≤ 999) (hn : ∀ t ∈ s.l, t.2.length ≤ 1048576) :
    ∃ r, W.call 51 [.ref 0 0] [boxP m s] = some (.ret (.tup []), [boxP .grow r]) ∧ r.e = s.decl.e ∧ (s.decl.e = 0 → r = s.decl) := by
  have m1 := name_mono s
  have hx : s.name.1.length ≤ 1048576 := by
    cases h : s.named with
    | true =>
      obtain ⟨x, r, hl, he, ht⟩ := name_yes h
      rw [ht]; exact hn (0, x) (by rw [hl]; simp)
    | false => rw [name_no h]; simp
  have mh := declHead_mono s
  have mt := mh.trans (take_mono [58] _)
  have mw := mt.trans (whole_mono _)
  have mq := mw.trans (take_mono [46] _)
  obtain ⟨t', g1, g2, g3⟩ := rwhole_spec m ((declHead s).take [58]) (hs.mono mt)
  refine ⟨{ ((declHead s).take [58]).whole.2.take [46] with s := (((declHead s).take [58]).whole.2.take [46]).s ++ [⟨s.name.1, t'⟩] }, ?_, rfl, fun he => ?_⟩
  · have hq : (((declHead s).take [58]).whole.2.take [46]).s.length ≤ 999 := by rw [mq.sig]; exact h9
    have hr : roomFor Try.prog 46 ((((declHead s).take [58]).whole.2.take [46]).s.length + 1) = true := room_decl (by omega)
    have hloop := rdup_loop m s.name.1 s.name.2.s.length 0 s.name.2 (by rw [m1.sig]; omega) (by omega)
    have hloop2 := rdup_loop m s.name.1 (s.name.2.fail 8).s.length 0 (s.name.2.fail 8) (by rw [fail_s, m1.sig]; omega) (by omega)
    rw [List.drop_zero] at hloop hloop2
    rw [fail_err fail_err8, ite_self] at hloop2
    have hloop' : W.loop 51 5 [.int 0, .ref 0 0, .str (ba s.name.1)] [boxP m s.name.2] = _ := hloop
    have hloop2' : W.loop 51 5 [.int 0, .ref 0 0, .str (ba s.name.1)] [boxP m (s.name.2.fail 8)] = _ := hloop2
    have e1 : nameOK s.name.1 = true → (if (idx s.name.1 s.name.2.s).isSome then s.name.2.fail 8 else s.name.2) = declHead s := fun h => by unfold declHead; rw [h]; rfl
    have e2 : nameOK s.name.1 = false → s.name.2.fail 8 = declHead s := fun h => by unfold declHead; rw [h]; rfl
    rw [C, e_ref14_Reader_decl]
    simp only [rname_spec, obind_some', onRet_ret, onStr_str, (rName_spec s.name.1 hx).p, onBool_bool]
    have hset : ∀ (y z : Res), List.set [y] 0 z = [z] := fun y z => rfl
    have hap : encDs (((declHead s).take [58]).whole.2.take [46]).s ++ [V.agg [V.str (ba s.name.1), V.int t'.k, V.int t'.h, V.vec .plain (some 3) (encs t'.args)]] = encDs ((((declHead s).take [58]).whole.2.take [46]).s ++ [⟨s.name.1, t'⟩]) := by rw [encDs_append]; rfl
    cases hk : nameOK s.name.1 with
    | true =>
      rw [e1 hk] at hloop'
      rcases hm with rfl | rfl <;>
      · simp only [Bool.not_true, bc_false, hloop', obind_some', onEx_exit, show Nat.beq 0 0 = true from rfl, bc_true, onCons_cons, onStr_str, onRef_ref, onNil_nil, lit58, rtake_spec, onRet_ret, onTup_tup, g1, onTe, lit46, getR_0, onBoxP]
        simp [hr, hset, hap, boxP]
    | false =>
      rw [e2 hk] at hloop2'
      rcases hm with rfl | rfl <;>
      · simp only [Bool.not_false, bc_true, rfail_spec, e2 hk, onTup_tup, onNil_nil, hloop2', obind_some', onEx_exit, show Nat.beq 0 0 = true from rfl, onCons_cons, onStr_str, onRef_ref, lit58, rtake_spec, onRet_ret, g1, onTe, lit46, getR_0, onBoxP]
        simp [hr, hset, hap, boxP]
  · have he : (((declHead s).take [58]).whole.2.take [46]).e = 0 := he
    rw [decl_eq, g2 (mono_e (take_mono [46] _) he)]

theorem small_decl (s : PS) (hs : Small s) (he : s.decl.e = 0) (h9 : s.s.length ≤ 999) : Small s.decl := by
  obtain ⟨d1, d2, _⟩ := decl_mono s
  refine ⟨Nat.le_trans d1.length_le hs.1, by omega, ?_⟩
  have mq := (((declHead_mono s).trans (take_mono [58] _)).trans (whole_mono _)).trans (take_mono [46] _)
  have mt := (declHead_mono s).trans (take_mono [58] _)
  intro d hd
  rw [decl_eq] at hd
  rcases List.mem_append.1 hd with hd | hd
  · rw [mq.sig] at hd; exact hs.2.2 d hd
  · simp only [List.mem_singleton] at hd
    subst hd
    have hw := whole_size ((declHead s).take [58])
    have := mt.len
    have := hs.1
    show ((declHead s).take [58]).whole.1.size ≤ _
    omega

theorem rdecls_loop : ∀ (q : Nat) (m : AM.Mode) (s : PS), (m = .grow ∨ m = .full) → (s.l.length ≤ q ∨ s.e ≠ 0) → (s.e = 0 → Small s) → s.s.length ≤ 999 → (s.e = 0 → ∀ t ∈ s.l, t.2.length ≤ 1048576) →
    ∃ out, W.loop 32 5 [.ref 0 0] [boxP m s] = some out ∧ ((∃ m' r, out = (Ex.exit 0, [.ref 0 0], [boxP m' r]) ∧ r.e = (PS.decls q s).e ∧ (r.e = 0 → r = PS.decls q s)) ∨ ((∃ st, out = (Ex.ret, [.vec .plain (some 4) [], .int 4], st)) ∧ (PS.decls q s).e = 4)) := by
  have stop : ∀ (q : Nat) (m : AM.Mode) (s : PS), (s.l = [] ∨ s.e ≠ 0) → W.loop 32 5 [.ref 0 0] [boxP m s] = some (Ex.exit 0, [.ref 0 0], [boxP m s]) ∧ PS.decls q s = s := by
    intro q m s h
    have hd : PS.decls q s = s := by
      cases q with
      | zero => rfl
      | succ q =>
        unfold PS.decls
        rw [if_neg]
        rcases h with h | h
        · simp [h]
        · simp [h]
    refine ⟨?_, hd⟩
    rw [L, e_ref14_Decls_L5]
    by_cases hl : s.l = []
    · simp [hl, encToks]
    · have he : s.e ≠ 0 := by rcases h with h | h; exact absurd h hl; exact h
      have hp : 0 < s.l.length := List.length_pos_iff.2 hl
      simp [he, hp]
  intro q
  induction q with
  | zero =>
    intro m s hm hq _ _ _
    have h : s.l = [] ∨ s.e ≠ 0 := by
      rcases hq with h | h
      · exact .inl (List.eq_nil_of_length_eq_zero (by omega))
      · exact .inr h
    exact ⟨_, (stop 0 m s h).1, .inl ⟨m, s, rfl, rfl, fun _ => rfl⟩⟩
  | succ q ih =>
    intro m s hm hq hs h9 hn
    by_cases hc : s.l ≠ [] ∧ s.e = 0
    · have hp : 0 < s.l.length := List.length_pos_iff.2 hc.1
      unfold PS.decls
      rw [if_pos hc]
      by_cases h40 : s.s.length ≥ 40
      · rw [if_pos h40]
        have h4 : (40 : Int) ≤ s.s.length := by omega
        refine ⟨_, ?_, .inr ⟨⟨[boxP m s], rfl⟩, by unfold PS.fail; rw [if_pos hc.2]⟩⟩
        rw [L, e_ref14_Decls_L5]
        simp [hc.2, hp, h4]
      · rw [if_neg h40]
        have h4 : ¬ (40 : Int) ≤ s.s.length := by omega
        obtain ⟨r, g1, g2, g3⟩ := rdecl_spec m hm s (hs hc.2) h9 (hn hc.2)
        obtain ⟨d1, d2, d3⟩ := decl_mono s
        have d4 := d1.length_le
        have step : W.loop 32 5 [.ref 0 0] [boxP m s] = W.loop 32 5 [.ref 0 0] [boxP .grow r] := by
          rw [L, e_ref14_Decls_L5]
          simp [hc.2, hp, h4, g1]
        by_cases he : s.decl.e = 0
        · have hr := g3 he
          subst hr
          obtain ⟨out, o1, o2⟩ := ih .grow s.decl (.inl rfl) (by
            rcases d3 hc.1 hc.2 with h | h
            · left
              rcases hq with hq | hq
              · omega
              · exact absurd hc.2 hq
            · exact .inr h) (fun _ => small_decl s (hs hc.2) he h9) (by omega) (fun _ t h => hn hc.2 t (d1.subset h))
          exact ⟨out, by rw [step]; exact o1, o2⟩
        · have h1 := stop q .grow r (.inr (by rw [g2]; exact he))
          have h2 := stop q .grow s.decl (.inr he)
          exact ⟨_, by rw [step]; exact h1.1, .inl ⟨.grow, r, rfl, by rw [h2.2]; exact g2, fun h => absurd (g2.symm.trans h) he⟩⟩
    · have h : s.l = [] ∨ s.e ≠ 0 := by
        by_cases hl : s.l = []
        · exact .inl hl
        · exact .inr fun he => hc ⟨hl, he⟩
      have h1 := stop (q + 1) m s h
      exact ⟨_, h1.1, .inl ⟨m, s, rfl, by rw [h1.2], fun _ => by rw [h1.2]⟩⟩

theorem rDecls_spec (b : Bytes) (hb : b.length ≤ 1048576) : Ev 32 [.vec .plain none (encB b)] (.tup [.vec .plain (some 4) (encDs (declsOf b).1), .int (declsOf b).2]) := by
  obtain ⟨z1, z2⟩ := lexR_small b
  have hp := (rtokens_spec b hb).p (by simp [belowL, below, below_encB]) (by simp [encRes, below, belowL, below_encToks])
  rw [encRes, (lexR_eq b).1, (lexR_eq b).2] at hp
  unfold Ev declsOf
  rw [C, e_ref14_Decls, hp]
  by_cases he : (lexR b).2 = 0
  · obtain ⟨out, o1, o2⟩ := rdecls_loop (lexR b).1.length .full ⟨(lexR b).1, [], 0⟩ (.inr rfl) (.inl (Nat.le_refl _)) (fun _ => ⟨by simp only; omega, by simp, by simp⟩) (by simp) (fun _ => z2)
    have o1 : W.loop 32 5 [.ref 0 0] [Res.box [V.vec .plain (some 2) (encToks (lexR b).1), V.vec Mode.full (some 4) [], V.int 0]] = _ := o1
    dsimp only
    rw [he]
    generalize PS.decls (lexR b).1.length ⟨(lexR b).1, [], 0⟩ = D at *
    rcases o2 with ⟨m', r, rfl, h1, h2⟩ | ⟨⟨st, rfl⟩, h1⟩
    · simp only [obind_some', onTup_tup, onCons_cons, onVec_plain, onInt_int, onNil_nil, o1]
      by_cases hr : r.e = 0
      · have := h2 hr
        subst this
        simp [hr, below, belowL, below_encDs, belowSt]
      · rw [if_pos (by rw [← h1]; exact hr), ← h1]
        simp [hr]
    · simp only [obind_some', onTup_tup, onCons_cons, onVec_plain, onInt_int, onNil_nil, o1]
      rw [if_pos (by rw [h1]; decide)]
      simp [h1, below, belowL, belowSt]
  · have : PS.decls (lexR b).1.length ⟨(lexR b).1, [], (lexR b).2⟩ = ⟨(lexR b).1, [], (lexR b).2⟩ := decls_stop he
    simp [he, this]
end Go.Proofs.LP

namespace Go.Proofs.LP
open Go Go.AM
set_option maxRecDepth 20000

theorem e_law14_ParseBegins (O : Oracle) (l0 : (List V)) (l1 : (List V)) : callBody Try.prog cfg O 9 [.vec .plain none l0, .vec .plain none l1] [] =
  obind (pcall O 21 []) fun r1 => onBool r1 fun b2 => bc (!b2) (some (Out.ret (V.bool b2), [])) (bc (decide ((↑l0.length : Int) > 5000)) (some (Out.ret (V.bool b2), []))
  (bc (decide ((↑l1.length : Int) > 5000)) (some (Out.ret (V.bool b2), [])) (obind (pcall O 22 [V.vec .plain none l0]) fun r3 => onTup r3 fun c4 => onCons c4 fun v5 c6 =>
  onVec (some 4) v5 fun l7 => onCons c6 fun v8 c9 => onInt v8 fun n10 => onNil c9 (gd (true && roomFor Try.prog 5 (0 + l0.length)) (gd (true && roomFor Try.prog 5
  (([] ++ l0).length + 1)) (gd (true && roomFor Try.prog 5 (([] ++ l0 ++ [V.ik IntKind.u8 10]).length + l1.length)) (obind (pcall O 22 [V.vec .plain none ([] ++
  l0 ++ [V.ik IntKind.u8 10] ++ l1)]) fun r11 => onTup r11 fun c12 => onCons c12 fun v13 c14 => onVec (some 4) v13 fun l15 => onCons c14 fun v16 c17 => onInt v16 fun n18 => onNil
  c17 (bc (n10 != 0) (bc (n10 != 0) (some (Out.ret (V.bool true), [])) (some (Out.ret (V.bool (n18 != 0)), []))) (bc (n18 != 0) (bc (n10 != 0) (some (Out.ret (V.bool true), []))
  (some (Out.ret (V.bool (n18 != 0)), []))) (bc (decide ((↑l15.length : Int) < (↑l7.length : Int))) (bc (n10 != 0) (some (Out.ret (V.bool true), [])) (some (Out.ret (V.bool (n18 !=
  0)), []))) (gd (true && decide (0 ≤ (↑l7.length : Int)) && decide ((↑l7.length : Int) ≤ (↑l15.length : Int))) (obind (pcall O 23 [V.vec .plain (some 4) l7, V.vec .plain
  (some 4) (List.drop 0 (List.take (↑l7.length : Int).toNat l15))]) fun r19 => onBool r19 fun b20 => some (Out.ret (V.bool b20), []))))))))))))) := by kernel_rfl

theorem e_law14_ParseNames (O : Oracle) (s0 : ByteArray) : callBody Try.prog cfg O 10 [.str s0] [] =
  obind (pcall O 21 []) fun r1 => onBool r1 fun b2 => bc (!b2) (some (Out.ret (V.bool b2), [])) (bc (decide ((↑s0.size : Int) > 100)) (some (Out.ret (V.bool b2), [])) (gd
  (decide (s0.size + 7 ≤ 9223372036854775807)) (obind (pcall O 22 [V.vec .plain none (bytesV (s0 ++ { data := #[58, 32, 116, 121, 112, 101, 46] }))]) fun r3 => onTup r3
  fun c4 => onCons c4 fun v5 c6 => onVec (some 4) v5 fun l7 => onCons c6 fun v8 c9 => onInt v8 fun n10 => onNil c9 (obind (pcall O 24 [V.str s0]) fun r11 => onBool r11 fun
  b12 => bc b12 (bc (n10 == 0) (bc ((↑l7.length : Int) == 1) (gd (true && decide (0 < (↑l7.length : Int))) (onAgg (getI l7 0) fun c13 => gd (decide (1 ≤ c13.length)) (onStr
  (AM.partOf c13 0 none) fun s14 => bc (s14.toList == s0.toList) (gd (true && decide (0 < (↑l7.length : Int))) (onAgg (getI l7 0) fun c15 => gd (decide (4 ≤ c15.length)) (gd (decide
  (1 ≤ (List.take 3 (List.drop 1 c15)).length)) (onInt (AM.partOf (List.take 3 (List.drop 1 c15)) 0 none) fun n16 => some (Out.ret (V.bool (n16 == 0)), []))))) (some (Out.ret
  (V.bool false), []))))) (some (Out.ret (V.bool false), []))) (some (Out.ret (V.bool false), []))) (bc (n10 != 0) (some (Out.ret (V.bool true), [])) (bc ((↑l7.length : Int) != 1)
  (some (Out.ret (V.bool true), [])) (gd (true && decide (0 < (↑l7.length : Int))) (onAgg (getI l7 0) fun c17 => gd (decide (1 ≤ c17.length)) (onStr (AM.partOf c17 0 none) fun s18
  => some (Out.ret (V.bool !s18.toList == s0.toList), [])))))))))) := by kernel_rfl

theorem e_law14_ParseScopes (O : Oracle) (l0 : (List V)) : callBody Try.prog cfg O 11 [.vec .plain none l0] [] =
  obind (pcall O 21 []) fun r1 => onBool r1 fun b2 => bc (!b2) (some (Out.ret (V.bool b2), [])) (bc (decide ((↑l0.length : Int) > 5000)) (some (Out.ret (V.bool b2), []))
  (obind (pcall O 22 [V.vec .plain none l0]) fun r3 => onTup r3 fun c4 => onCons c4 fun v5 c6 => onVec (some 4) v5 fun l7 => onCons c6 fun v8 c9 => onInt v8 fun n10 =>
  onNil c9 (bc (n10 != 0) (some (Out.ret (V.bool ((↑l7.length : Int) == 0)), [])) (obind (O.loop 11 8 [V.int 0, V.vec .plain (some 4) l7] []) fun r11 => onEx
  r11.fst none (onCons r11.snd.fst fun v12 c13 => onBool v12 fun b14 => onNil c13 (some (Out.ret (V.bool b14), []))) (fun i15 => bc (i15.beq 0) (onNil r11.snd.fst (some (Out.ret
  (V.bool true), []))) none) fun v16 => none)))) := by kernel_rfl

theorem e_law14_ParseScopes_L8 (O : Oracle) (n0 : Int) (l1 : (List V)) : loopBody Try.prog cfg O 11 8 [.int n0, .vec .plain (some 4) l1] [] =
  bc (decide (n0 < (↑l1.length : Int))) (gd (decide (0 ≤ n0) && decide (n0 < (↑l1.length : Int))) (onAgg (getI l1 n0) fun c1 => gd (decide (4 ≤ c1.length)) (onCells [CT.int, CT.int,
  CT.slice (some 3)] (List.take 3 (List.drop 1 c1)) fun n2 n3 l4 => obind (pcall O 25 [V.agg [V.int n2, V.int n3, V.vec .plain (some 3) l4]]) fun r5 => onBool r5 fun b6 =>
  bc (!b6) (some (Ex.ret, [V.bool false], [])) (gd (decide (0 ≤ n0) && decide (n0 < (↑l1.length : Int))) (onAgg (getI l1 n0) fun c7 => gd (decide (4 ≤ c7.length)) (onCells [CT.int,
  CT.int, CT.slice (some 3)] (List.take 3 (List.drop 1 c7)) fun n8 n9 l10 => obind (pcall O 26 [V.agg [V.int n8, V.int n9, V.vec .plain (some 3) l10], V.int 0, V.int 0])
  fun r11 => onBool r11 fun b12 => bc (!b12) (some (Ex.ret, [V.bool false], [])) (gd (decide (0 ≤ n0) && decide (n0 < (↑l1.length : Int))) (onAgg (getI l1 n0) fun c13 => gd (decide
  (1 ≤ c13.length)) (onStr (AM.partOf c13 0 none) fun s14 => obind (pcall O 24 [V.str s14]) fun r15 => onBool r15 fun b16 => bc (!b16) (some (Ex.ret, [V.bool false], []))
  (obind (O.loop 11 13 [V.int 0, V.int n0, V.vec .plain (some 4) l1] []) fun r17 => onEx r17.fst none (onCons r17.snd.fst fun v18 c19 => onBool v18 fun b20 => onNil
  c19 (some (Ex.ret, [V.bool b20], r17.snd.snd))) (fun i21 => bc (i21.beq 2) (onCons r17.snd.fst fun v22 c23 => onVec (some 4) v22 fun l24 => onCons c23 fun v25 c26 => onInt v25 fun
  n27 => onNil c26 (O.2 11 8 [V.int (IntKind.i64.wrap (n27 + 1)), V.vec .plain (some 4) l24] r17.snd.snd)) none) fun v28 => none)))))))))) (some (Ex.exit 0, [],
  [])) := by kernel_rfl

theorem e_law14_ParseScopes_L13 (O : Oracle) (n0 : Int) (n1 : Int) (l2 : (List V)) : loopBody Try.prog cfg O 11 13 [.int n0, .int n1, .vec .plain (some 4) l2] [] =
  bc (decide (n0 < n1)) (gd (decide (0 ≤ n0) && decide (n0 < (↑l2.length : Int))) (onAgg (getI l2 n0) fun c1 => gd (decide (1 ≤ c1.length)) (onStr (AM.partOf c1 0 none) fun s2 => gd
  (decide (0 ≤ n1) && decide (n1 < (↑l2.length : Int))) (onAgg (getI l2 n1) fun c3 => gd (decide (1 ≤ c3.length)) (onStr (AM.partOf c3 0 none) fun s4 => bc (s2.toList == s4.toList)
  (some (Ex.ret, [V.bool false], [])) (O.2 11 13 [V.int (IntKind.i64.wrap (n0 + 1)), V.int n1, V.vec .plain (some 4) l2] [])))))) (some (Ex.exit 2, [V.vec .plain
  (some 4) l2, V.int n1], [])) := by kernel_rfl

theorem e_law14_ParseWraps (O : Oracle) (l0 : (List V)) (l1 : (List V)) : callBody Try.prog cfg O 12 [.vec .plain none l0, .vec .plain (some 4) l1] [] =
  obind (pcall O 21 []) fun r1 => onBool r1 fun b2 => obind (pcall O 27 [V.vec .plain (some 4) l1]) fun r3 => onBool r3 fun b4 => bc (!b2) (some (Out.ret (V.bool
  b2), [])) (bc (!b4) (some (Out.ret (V.bool b2), [])) (bc (decide ((↑l0.length : Int) > 2000)) (some (Out.ret (V.bool b2), [])) (obind (pcall O 28 [V.vec .plain none l0,
  V.vec .plain (some 4) l1]) fun r5 => onTup r5 fun c6 => onCons c6 fun v7 c8 => onStruct [CT.int, CT.int, CT.slice (some 3)] v7 fun n9 n10 l11 => onCons c8 fun v12 c13 => onInt v12
  fun n14 => onNil c13 (bc (n14 != 0) (some (Out.ret (V.bool ((↑l11.length : Int) == 0)), [])) (gd (true && roomFor Try.prog 5 (1 + l0.length)) (gd (true && roomFor
  Try.prog 5 (([V.ik IntKind.u8 40] ++ l0).length + (bytesV { data := #[10, 41] }).length)) (obind (pcall O 28 [V.vec .plain none ([V.ik IntKind.u8 40] ++ l0 ++
  bytesV { data := #[10, 41] }), V.vec .plain (some 4) l1]) fun r15 => onTup r15 fun c16 => onCons c16 fun v17 c18 => onStruct [CT.int, CT.int, CT.slice (some 3)] v17 fun n19 n20
  l21 => onCons c18 fun v22 c23 => onInt v22 fun n24 => onNil c23 (gd (true && roomFor Try.prog 5 (13 + l0.length)) (obind (pcall O 28 [V.vec .plain none ([V.ik
  IntKind.u8 91, V.ik IntKind.u8 95, V.ik IntKind.u8 110, V.ik IntKind.u8 111, V.ik IntKind.u8 116, V.ik IntKind.u8 95, V.ik IntKind.u8 116, V.ik IntKind.u8 104, V.ik IntKind.u8
  101, V.ik IntKind.u8 114, V.ik IntKind.u8 101, V.ik IntKind.u8 93, V.ik IntKind.u8 32] ++ l0), V.vec .plain (some 4) l1]) fun r25 => onTup r25 fun c26 => onCons c26 fun v27 c28 =>
  onStruct [CT.int, CT.int, CT.slice (some 3)] v27 fun n29 n30 l31 => onCons c28 fun v32 c33 => onInt v32 fun n34 => onNil c33 (obind (O.loop 12 15 [V.int 0, V.vec
  .plain none l0, V.bool false, V.vec .plain (some 4) l1, V.int n34, V.loc false (some 3) (V.agg [V.int n9, V.int n10, V.vec .plain (some 3) l11]), V.loc false (some 3) (V.agg
  [V.int n29, V.int n30, V.vec .plain (some 3) l31]), V.int n24, V.loc false (some 3) (V.agg [V.int n19, V.int n20, V.vec .plain (some 3) l21])] []) fun r35 => onEx r35.fst none
  none (fun i36 => bc (i36.beq 0) (onCons r35.snd.fst fun v37 c38 => onVec (some 4) v37 fun l39 => onCons c38 fun v40 c41 => onBool v40 fun b42 => onCons c41 fun v43 c44 => onInt
  v43 fun n45 => onCons c44 fun v46 c47 => onLoc (some 3) v46 fun d48 v49 => onStruct [CT.int, CT.int, CT.slice (some 3)] (bif d48 then cleanV v49 else v49) fun n50 n51 l52 =>
  onCons c47 fun v53 c54 => onLoc (some 3) v53 fun d55 v56 => onStruct [CT.int, CT.int, CT.slice (some 3)] (bif d55 then cleanV v56 else v56) fun n57 n58 l59 => onCons c54 fun v60
  c61 => onInt v60 fun n62 => onCons c61 fun v63 c64 => onLoc (some 3) v63 fun d65 v66 => onStruct [CT.int, CT.int, CT.slice (some 3)] (bif d65 then cleanV v66 else v66) fun n67 n68
  l69 => onNil c64 (obind (O.loop 12 19 [V.int 0, V.vec .plain (some 4) l39, V.bool b42, V.int n45, V.loc false (some 3) (V.agg [V.int n50, V.int n51, V.vec .plain
  (some 3) l52]), V.loc false (some 3) (V.agg [V.int n57, V.int n58, V.vec .plain (some 3) l59]), V.int n62, V.loc false (some 3) (V.agg [V.int n67, V.int n68, V.vec .plain (some 3)
  l69])] r35.snd.snd) fun r70 => onEx r70.fst none none (fun i71 => bc (i71.beq 2) (onCons r70.snd.fst fun v72 c73 => onBool v72 fun b74 => onCons c73 fun v75 c76 => onInt v75 fun
  n77 => onCons c76 fun v78 c79 => onLoc (some 3) v78 fun d80 v81 => onStruct [CT.int, CT.int, CT.slice (some 3)] (bif d80 then cleanV v81 else v81) fun n82 n83 l84 => onCons c79
  fun v85 c86 => onLoc (some 3) v85 fun d87 v88 => onStruct [CT.int, CT.int, CT.slice (some 3)] (bif d87 then cleanV v88 else v88) fun n89 n90 l91 => onCons c86 fun v92 c93 => onInt
  v92 fun n94 => onCons c93 fun v95 c96 => onLoc (some 3) v95 fun d97 v98 => onStruct [CT.int, CT.int, CT.slice (some 3)] (bif d97 then cleanV v98 else v98) fun n99 n100 l101 =>
  onNil c96 (bc (n94 == 0) (obind (pcall O 29 [V.agg [V.int n82, V.int n83, V.vec .plain (some 3) l84], V.agg [V.int n99, V.int n100, V.vec .plain (some 3) l101]]) fun r102
  => onBool r102 fun b103 => bc b103 (bc (n77 == 0) (bc ((↑l91.length : Int) == 1) (gd (true && decide (0 < (↑l91.length : Int))) (onStruct [CT.int, CT.int, CT.slice (some 3)] (getI
  l91 0) fun n104 n105 l106 => obind (pcall O 29 [V.agg [V.int n104, V.int n105, V.vec .plain (some 3) l106], V.agg [V.int n82, V.int n83, V.vec .plain (some 3) l84]]) fun
  r107 => onBool r107 fun b108 => bc b108 (bc b74 (some (Out.ret (V.bool true), [])) (some (Out.ret (V.bool true), []))) (bc b74 (some (Out.ret (V.bool true), [])) (some (Out.ret
  (V.bool (n77 == 4)), []))))) (bc b74 (some (Out.ret (V.bool true), [])) (some (Out.ret (V.bool (n77 == 4)), [])))) (bc b74 (some (Out.ret (V.bool true), [])) (some (Out.ret
  (V.bool (n77 == 4)), [])))) (bc (n77 == 0) (bc ((↑l91.length : Int) == 1) (gd (true && decide (0 < (↑l91.length : Int))) (onStruct [CT.int, CT.int, CT.slice (some 3)] (getI l91 0)
  fun n109 n110 l111 => obind (pcall O 29 [V.agg [V.int n109, V.int n110, V.vec .plain (some 3) l111], V.agg [V.int n82, V.int n83, V.vec .plain (some 3) l84]]) fun r112 =>
  onBool r112 fun b113 => bc b113 (bc (n94 == 4) (bc b74 (some (Out.ret (V.bool true), [])) (some (Out.ret (V.bool true), []))) (some (Out.ret (V.bool false), []))) (bc (n94 == 4)
  (bc b74 (some (Out.ret (V.bool true), [])) (some (Out.ret (V.bool (n77 == 4)), []))) (some (Out.ret (V.bool false), []))))) (bc (n94 == 4) (bc b74 (some (Out.ret (V.bool true),
  [])) (some (Out.ret (V.bool (n77 == 4)), []))) (some (Out.ret (V.bool false), [])))) (bc (n94 == 4) (bc b74 (some (Out.ret (V.bool true), [])) (some (Out.ret (V.bool (n77 == 4)),
  []))) (some (Out.ret (V.bool false), []))))) (bc (n77 == 0) (bc ((↑l91.length : Int) == 1) (gd (true && decide (0 < (↑l91.length : Int))) (onStruct [CT.int, CT.int, CT.slice (some
  3)] (getI l91 0) fun n114 n115 l116 => obind (pcall O 29 [V.agg [V.int n114, V.int n115, V.vec .plain (some 3) l116], V.agg [V.int n82, V.int n83, V.vec .plain (some 3)
  l84]]) fun r117 => onBool r117 fun b118 => bc b118 (bc (n94 == 4) (bc b74 (some (Out.ret (V.bool true), [])) (some (Out.ret (V.bool true), []))) (some (Out.ret (V.bool false),
  []))) (bc (n94 == 4) (bc b74 (some (Out.ret (V.bool true), [])) (some (Out.ret (V.bool (n77 == 4)), []))) (some (Out.ret (V.bool false), []))))) (bc (n94 == 4) (bc b74 (some
  (Out.ret (V.bool true), [])) (some (Out.ret (V.bool (n77 == 4)), []))) (some (Out.ret (V.bool false), [])))) (bc (n94 == 4) (bc b74 (some (Out.ret (V.bool true), [])) (some
  (Out.ret (V.bool (n77 == 4)), []))) (some (Out.ret (V.bool false), [])))))) none) fun v119 => none)) none) fun v120 => none)))))))))) := by kernel_rfl

theorem e_law14_ParseWraps_L15 (O : Oracle) (n0 : Int) (l1 : (List V)) (b2 : Bool) (l3 : (List V)) (n4 : Int) (n5 : Int) (n6 : Int) (l7 : (List V)) (n8 : Int) (n9 : Int) (l10 : (List V)) (n11 : Int) (n12 : Int) (n13 : Int) (l14 : (List V)) : loopBody Try.prog cfg O 12 15 [.int n0, .vec .plain none l1, .bool b2, .vec .plain (some 4) l3, .int n4, .loc false (some 3) (.agg [.int n5, .int n6, .vec .plain (some 3) l7]), .loc false (some 3) (.agg [.int n8, .int n9, .vec .plain (some 3) l10]), .int n11, .loc false (some 3) (.agg [.int n12, .int n13, .vec .plain (some 3) l14])] [] =
  bc (decide (IntKind.i64.wrap (n0 + 10) ≤ (↑l1.length : Int))) (bc b2 (O.2 12 15 [V.int (IntKind.i64.wrap (n0 + 1)), V.vec .plain none l1, V.bool true, V.vec .plain
  (some 4) l3, V.int n4, V.loc false (some 3) (V.agg [V.int n5, V.int n6, V.vec .plain (some 3) l7]), V.loc false (some 3) (V.agg [V.int n8, V.int n9, V.vec .plain (some 3) l10]),
  V.int n11, V.loc false (some 3) (V.agg [V.int n12, V.int n13, V.vec .plain (some 3) l14])] []) (gd (decide (0 ≤ n0) && decide (n0 ≤ IntKind.i64.wrap (n0 + 10)) && decide
  (IntKind.i64.wrap (n0 + 10) ≤ (↑l1.length : Int))) (gd ((List.drop n0.toNat (List.take (IntKind.i64.wrap (n0 + 10)).toNat l1)).all isU8) (O.2 12 15 [V.int
  (IntKind.i64.wrap (n0 + 1)), V.vec .plain none l1, V.bool ((strV (List.drop n0.toNat (List.take (IntKind.i64.wrap (n0 + 10)).toNat l1))).toList == (ByteArray.toList { data :=
  #[95, 110, 111, 116, 95, 116, 104, 101, 114, 101] })), V.vec .plain (some 4) l3, V.int n4, V.loc false (some 3) (V.agg [V.int n5, V.int n6, V.vec .plain (some 3) l7]), V.loc false
  (some 3) (V.agg [V.int n8, V.int n9, V.vec .plain (some 3) l10]), V.int n11, V.loc false (some 3) (V.agg [V.int n12, V.int n13, V.vec .plain (some 3) l14])] [])))) (some (Ex.exit
  0, [V.vec .plain (some 4) l3, V.bool b2, V.int n4, V.loc false (some 3) (V.agg [V.int n5, V.int n6, V.vec .plain (some 3) l7]), V.loc false (some 3) (V.agg [V.int n8, V.int n9,
  V.vec .plain (some 3) l10]), V.int n11, V.loc false (some 3) (V.agg [V.int n12, V.int n13, V.vec .plain (some 3) l14])], [])) := by kernel_rfl

theorem e_law14_ParseWraps_L19 (O : Oracle) (n0 : Int) (l1 : (List V)) (b2 : Bool) (n3 : Int) (n4 : Int) (n5 : Int) (l6 : (List V)) (n7 : Int) (n8 : Int) (l9 : (List V)) (n10 : Int) (n11 : Int) (n12 : Int) (l13 : (List V)) : loopBody Try.prog cfg O 12 19 [.int n0, .vec .plain (some 4) l1, .bool b2, .int n3, .loc false (some 3) (.agg [.int n4, .int n5, .vec .plain (some 3) l6]), .loc false (some 3) (.agg [.int n7, .int n8, .vec .plain (some 3) l9]), .int n10, .loc false (some 3) (.agg [.int n11, .int n12, .vec .plain (some 3) l13])] [] =
  bc (decide (n0 < (↑l1.length : Int))) (bc b2 (O.2 12 19 [V.int (IntKind.i64.wrap (n0 + 1)), V.vec .plain (some 4) l1, V.bool true, V.int n3, V.loc false (some 3)
  (V.agg [V.int n4, V.int n5, V.vec .plain (some 3) l6]), V.loc false (some 3) (V.agg [V.int n7, V.int n8, V.vec .plain (some 3) l9]), V.int n10, V.loc false (some 3) (V.agg [V.int
  n11, V.int n12, V.vec .plain (some 3) l13])] []) (gd (decide (0 ≤ n0) && decide (n0 < (↑l1.length : Int))) (onAgg (getI l1 n0) fun c1 => gd (decide (1 ≤ c1.length)) (onStr
  (AM.partOf c1 0 none) fun s2 => O.2 12 19 [V.int (IntKind.i64.wrap (n0 + 1)), V.vec .plain (some 4) l1, V.bool (s2.toList == (ByteArray.toList { data := #[95, 110,
  111, 116, 95, 116, 104, 101, 114, 101] })), V.int n3, V.loc false (some 3) (V.agg [V.int n4, V.int n5, V.vec .plain (some 3) l6]), V.loc false (some 3) (V.agg [V.int n7, V.int n8,
  V.vec .plain (some 3) l9]), V.int n10, V.loc false (some 3) (V.agg [V.int n11, V.int n12, V.vec .plain (some 3) l13])] [])))) (some (Ex.exit 2, [V.bool b2, V.int n3, V.loc false
  (some 3) (V.agg [V.int n4, V.int n5, V.vec .plain (some 3) l6]), V.loc false (some 3) (V.agg [V.int n7, V.int n8, V.vec .plain (some 3) l9]), V.int n10, V.loc false (some 3)
  (V.agg [V.int n11, V.int n12, V.vec .plain (some 3) l13])], [])) := by kernel_rfl

theorem e_law14_ParseBound (O : Oracle) (s0 : ByteArray) (s1 : ByteArray) : callBody Try.prog cfg O 13 [.str s0, .str s1] [] =
  obind (pcall O 21 []) fun r1 => onBool r1 fun b2 => bc (!b2) (some (Out.ret (V.bool b2), [])) (bc (decide ((↑s0.size : Int) > 100)) (some (Out.ret (V.bool b2), [])) (bc
  (decide ((↑s1.size : Int) > 100)) (some (Out.ret (V.bool b2), [])) (obind (pcall O 24 [V.str s0]) fun r3 => onBool r3 fun b4 => bc (!b4) (some (Out.ret (V.bool b2), []))
  (obind (pcall O 24 [V.str s1]) fun r5 => onBool r5 fun b6 => bc (!b6) (some (Out.ret (V.bool b2), [])) (gd (decide (1 + s0.size ≤ 9223372036854775807)) (gd (decide (({
  data := #[91] } ++ s0).size + 1 ≤ 9223372036854775807)) (gd (decide (({ data := #[91] } ++ s0 ++ { data := #[93] }).size + s0.size ≤ 9223372036854775807)) (obind (pcall O
  28 [V.vec .plain none (bytesV ({ data := #[91] } ++ s0 ++ { data := #[93] } ++ s0)), V.vec .plain (some 4) []]) fun r7 => onTup r7 fun c8 => onCons c8 fun v9 c10 =>
  onStruct [CT.int, CT.int, CT.slice (some 3)] v9 fun n11 n12 l13 => onCons c10 fun v14 c15 => onInt v14 fun n16 => onNil c15 (gd (decide (1 + s1.size ≤ 9223372036854775807)) (gd
  (decide (({ data := #[91] } ++ s1).size + 1 ≤ 9223372036854775807)) (gd (decide (({ data := #[91] } ++ s1 ++ { data := #[93] }).size + s1.size ≤ 9223372036854775807)) (obind
  (pcall O 28 [V.vec .plain none (bytesV ({ data := #[91] } ++ s1 ++ { data := #[93] } ++ s1)), V.vec .plain (some 4) []]) fun r17 => onTup r17 fun c18 => onCons c18 fun
  v19 c20 => onStruct [CT.int, CT.int, CT.slice (some 3)] v19 fun n21 n22 l23 => onCons c20 fun v24 c25 => onInt v24 fun n26 => onNil c25 (gd (decide (1 + s0.size ≤
  9223372036854775807)) (gd (decide (({ data := #[91] } ++ s0).size + 2 ≤ 9223372036854775807)) (gd (decide (({ data := #[91] } ++ s0 ++ { data := #[93, 91] }).size + s1.size ≤
  9223372036854775807)) (gd (decide (({ data := #[91] } ++ s0 ++ { data := #[93, 91] } ++ s1).size + 1 ≤ 9223372036854775807)) (gd (decide (({ data := #[91] } ++ s0 ++ { data :=
  #[93, 91] } ++ s1 ++ { data := #[93] }).size + s1.size ≤ 9223372036854775807)) (obind (pcall O 28 [V.vec .plain none (bytesV ({ data := #[91] } ++ s0 ++ { data := #[93,
  91] } ++ s1 ++ { data := #[93] } ++ s1)), V.vec .plain (some 4) []]) fun r27 => onTup r27 fun c28 => onCons c28 fun v29 c30 => onStruct [CT.int, CT.int, CT.slice (some 3)] v29 fun
  n31 n32 l33 => onCons c30 fun v34 c35 => onInt v34 fun n36 => onNil c35 (bc (n36 == 0) (bc ((↑l33.length : Int) == 1) (gd (true && decide (0 < (↑l33.length : Int))) (onStruct
  [CT.int, CT.int, CT.slice (some 3)] (getI l33 0) fun n37 n38 l39 => obind (pcall O 29 [V.agg [V.int n37, V.int n38, V.vec .plain (some 3) l39], V.agg [V.int n21, V.int
  n22, V.vec .plain (some 3) l23]]) fun r40 => onBool r40 fun b41 => bc (n16 == 0) (bc (n26 == 0) (obind (pcall O 29 [V.agg [V.int n11, V.int n12, V.vec .plain (some 3)
  l13], V.agg [V.int n21, V.int n22, V.vec .plain (some 3) l23]]) fun r42 => onBool r42 fun b43 => bc b43 (some (Out.ret (V.bool b41), [])) (some (Out.ret (V.bool false), [])))
  (some (Out.ret (V.bool false), []))) (some (Out.ret (V.bool false), [])))) (bc (n16 == 0) (bc (n26 == 0) (obind (pcall O 29 [V.agg [V.int n11, V.int n12, V.vec .plain
  (some 3) l13], V.agg [V.int n21, V.int n22, V.vec .plain (some 3) l23]]) fun r44 => onBool r44 fun b45 => bc b45 (some (Out.ret (V.bool false), [])) (some (Out.ret (V.bool false),
  []))) (some (Out.ret (V.bool false), []))) (some (Out.ret (V.bool false), [])))) (bc (n16 == 0) (bc (n26 == 0) (obind (pcall O 29 [V.agg [V.int n11, V.int n12, V.vec
  .plain (some 3) l13], V.agg [V.int n21, V.int n22, V.vec .plain (some 3) l23]]) fun r46 => onBool r46 fun b47 => bc b47 (some (Out.ret (V.bool false), [])) (some (Out.ret (V.bool
  false), []))) (some (Out.ret (V.bool false), []))) (some (Out.ret (V.bool false), [])))))))))))))))))))))) := by kernel_rfl

theorem e_law14_ParseMore (O : Oracle) (l0 : (List V)) (s1 : ByteArray) (n2 : Int) (n3 : Int) (l4 : (List V)) : callBody Try.prog cfg O 14 [.vec .plain none l0, .agg [.str s1, .int n2, .int n3, .vec .plain (some 3) l4]] [] =
  obind (pcall O 21 []) fun r1 => onBool r1 fun b2 => bc (!b2) (some (Out.ret (V.bool b2), [])) (bc (decide ((↑l0.length : Int) > 3000)) (some (Out.ret (V.bool b2), []))
  (bc (decide ((↑s1.size : Int) > 100)) (some (Out.ret (V.bool b2), [])) (obind (pcall O 30 [V.agg [V.int n2, V.int n3, V.vec .plain (some 3) l4]]) fun r3 => onInt r3 fun
  n4 => bc (decide (n4 > 1000)) (some (Out.ret (V.bool b2), [])) (obind (pcall O 31 []) fun r5 => onVec (some 4) r5 fun l6 => obind (pcall O 28 [V.vec .plain none
  l0, V.vec .plain (some 4) l6]) fun r7 => onTup r7 fun c8 => onCons c8 fun v9 c10 => onStruct [CT.int, CT.int, CT.slice (some 3)] v9 fun n11 n12 l13 => onCons c10 fun v14 c15 =>
  onInt v14 fun n16 => onNil c15 (gd (true && roomFor Try.prog 46 (0 + l6.length)) (gd (true && roomFor Try.prog 46 (([] ++ l6).length + [V.agg [V.str s1,
  V.int n2, V.int n3, V.vec .plain (some 3) l4]].length)) (obind (pcall O 28 [V.vec .plain none l0, V.vec .plain (some 4) ([] ++ l6 ++ [V.agg [V.str s1, V.int n2, V.int
  n3, V.vec .plain (some 3) l4]])]) fun r17 => onTup r17 fun c18 => onCons c18 fun v19 c20 => onStruct [CT.int, CT.int, CT.slice (some 3)] v19 fun n21 n22 l23 => onCons c20 fun v24
  c25 => onInt v24 fun n26 => onNil c25 (obind (pcall O 22 [V.vec .plain none l0]) fun r27 => onTup r27 fun c28 => onCons c28 fun v29 c30 => onVec (some 4) v29 fun l31 =>
  onCons c30 fun v32 c33 => onInt v32 fun n34 => onNil c33 (obind (pcall O 32 [V.vec .plain none l0]) fun r35 => onTup r35 fun c36 => onCons c36 fun v37 c38 => onVec
  (some 4) v37 fun l39 => onCons c38 fun v40 c41 => onInt v40 fun n42 => onNil c41 (obind (pcall O 23 [V.vec .plain (some 4) l31, V.vec .plain (some 4) l39]) fun r43 =>
  onBool r43 fun b44 => bc b44 (bc (n34 == n42) (bc (n16 != 0) (some (Out.ret (V.bool true), [])) (bc (n26 == 0) (obind (pcall O 29 [V.agg [V.int n11, V.int n12, V.vec
  .plain (some 3) l13], V.agg [V.int n21, V.int n22, V.vec .plain (some 3) l23]]) fun r45 => onBool r45 fun b46 => some (Out.ret (V.bool b46), [])) (some (Out.ret (V.bool false),
  [])))) (some (Out.ret (V.bool false), []))) (some (Out.ret (V.bool false), [])))))))))))) := by kernel_rfl

theorem e_ref14_Same (O : Oracle) (l0 : (List V)) (l1 : (List V)) : callBody Try.prog cfg O 23 [.vec .plain (some 4) l0, .vec .plain (some 4) l1] [] =
  bc ((↑l0.length : Int) != (↑l1.length : Int)) (some (Out.ret (V.bool false), [])) (obind (O.loop 23 4 [V.int 0, V.vec .plain (some 4) l1, V.vec .plain (some 4) l0] [])
  fun r1 => onEx r1.fst none (onCons r1.snd.fst fun v2 c3 => onBool v2 fun b4 => onNil c3 (some (Out.ret (V.bool b4), []))) (fun i5 => bc (i5.beq 0) (onNil r1.snd.fst (some (Out.ret
  (V.bool true), []))) none) fun v6 => none) := by kernel_rfl

theorem e_ref14_Same_L4 (O : Oracle) (n0 : Int) (l1 : (List V)) (l2 : (List V)) : loopBody Try.prog cfg O 23 4 [.int n0, .vec .plain (some 4) l1, .vec .plain (some 4) l2] [] =
  bc (decide (n0 < (↑l2.length : Int))) (gd (decide (0 ≤ n0) && decide (n0 < (↑l2.length : Int))) (onAgg (getI l2 n0) fun c1 => gd (decide (4 ≤ c1.length)) (onCells [CT.int, CT.int,
  CT.slice (some 3)] (List.take 3 (List.drop 1 c1)) fun n2 n3 l4 => gd (decide (0 ≤ n0) && decide (n0 < (↑l1.length : Int))) (onAgg (getI l1 n0) fun c5 => gd (decide (4 ≤
  c5.length)) (onCells [CT.int, CT.int, CT.slice (some 3)] (List.take 3 (List.drop 1 c5)) fun n6 n7 l8 => obind (pcall O 42 [V.agg [V.int n2, V.int n3, V.vec .plain (some
  3) l4], V.agg [V.int n6, V.int n7, V.vec .plain (some 3) l8]]) fun r9 => onBool r9 fun b10 => bc (!b10) (some (Ex.ret, [V.bool false], [])) (gd (decide (0 ≤ n0) && decide (n0 <
  (↑l2.length : Int))) (onAgg (getI l2 n0) fun c11 => gd (decide (1 ≤ c11.length)) (onStr (AM.partOf c11 0 none) fun s12 => gd (decide (0 ≤ n0) && decide (n0 < (↑l1.length : Int)))
  (onAgg (getI l1 n0) fun c13 => gd (decide (1 ≤ c13.length)) (onStr (AM.partOf c13 0 none) fun s14 => bc (!s12.toList == s14.toList) (some (Ex.ret, [V.bool false], [])) (O.2
  23 4 [V.int (IntKind.i64.wrap (n0 + 1)), V.vec .plain (some 4) l1, V.vec .plain (some 4) l2] []))))))))))) (some (Ex.exit 0, [], [])) := by kernel_rfl

end Go.Proofs.LP

/-! The chapter's example holds. -/
namespace Go.Proofs.LP
open Go Go.AM Go.Ama

set_option maxRecDepth 100000 in
theorem awake14 : Ev 21 [] (.bool true) := Ev.of_check (m := 300) (by decide +kernel)

end Go.Proofs.LP

/-! What a law is handed: bytes, tokens. -/
namespace Go.Proofs.LP
open Go Go.AM Go.Ama

theorem dec_int {n : Nat} {cs : List V} (h : WT Try.prog n 3 cs) : ∃ z : Int, cs = [.int z] ∧ I64 z := by
  cases n with
  | zero => exact h.elim
  | succ n =>
    simp only [WT, Try.underlying3] at h
    obtain ⟨z, h1, h2⟩ := h
    refine ⟨z, h1, ?_⟩
    simpa [Lit.wf, IntKind.min, IntKind.max, IntKind.signed, IntKind.bits, I64] using h2
theorem dec_byte {n : Nat} {cs : List V} (h : WT Try.prog n 5 cs) : ∃ c : UInt8, cs = [.ik .u8 (c.toNat : Int)] := by
  cases n with
  | zero => exact h.elim
  | succ n =>
    simp only [WT, Try.underlying5] at h
    obtain ⟨z, h1, h2⟩ := h
    have h3 : 0 ≤ z ∧ z ≤ 255 := by simpa [Lit.wf, IntKind.min, IntKind.max, IntKind.signed, IntKind.bits] using h2
    refine ⟨UInt8.ofNat z.toNat, ?_⟩
    rw [h1]
    have : ((UInt8.ofNat z.toNat).toNat : Int) = z := by
      rw [UInt8.toNat_ofNat']
      omega
    rw [this]
theorem dec_string {n : Nat} {cs : List V} (h : WT Try.prog n 9 cs) : ∃ s : Bytes, cs = [.str (ba s)] := by
  cases n with
  | zero => exact h.elim
  | succ n =>
    simp only [WT, Try.underlying9] at h
    obtain ⟨s, h1, h2⟩ := h
    exact ⟨s.data.toList, by rw [ba_data]; exact h1⟩

theorem shByte : shOf Try.prog 5 = none := by kernel_rfl
theorem shTok : shOf Try.prog 34 = some 2 := by kernel_rfl
theorem shBytes : shOf Try.prog 22 = none := by kernel_rfl
theorem shToks : shOf Try.prog 23 = none := by kernel_rfl
theorem shInt : shOf Try.prog 3 = none := by kernel_rfl
theorem cellsTok : Try.prog.cellsOf 34 = 2 := by kernel_rfl
theorem cellsInt : Try.prog.cellsOf 3 = 1 := by kernel_rfl
theorem cellsString : Try.prog.cellsOf 9 = 1 := by kernel_rfl

theorem list2 {l : List V} (h : l.length = 2) : ∃ x y, l = [x, y] := by
  match l, h with
  | [x, y], _ => exact ⟨x, y, rfl⟩
theorem one_cell {v : V} (h : Shaped none v) : AM.cellsOf v = [v] := by cases v <;> first | rfl | exact h.elim

theorem dec_bytes {v : V} (h : (∃ n, WT Try.prog n 22 (AM.cellsOf v)) ∧ Shaped (shOf Try.prog 22) v) : ∃ b : Bytes, v = .vec .plain none (encB b) := by
  obtain ⟨⟨n, h1⟩, h2⟩ := h
  rw [shBytes] at h2
  rw [one_cell h2] at h1
  cases n with
  | zero => exact h1.elim
  | succ n =>
    simp only [WT, Try.underlying22] at h1
    obtain ⟨es, he, _, hes⟩ := h1
    simp only [List.cons.injEq, and_true] at he
    subst he
    rw [shByte] at hes ⊢
    have : ∀ es : List V, (∀ v ∈ es, Shaped none v ∧ WT Try.prog n 5 (AM.cellsOf v)) → ∃ b : Bytes, es = encB b := by
      intro es
      induction es with
      | nil => intro _; exact ⟨[], rfl⟩
      | cons v es ih =>
        intro h
        obtain ⟨k1, k2⟩ := h v (by simp)
        obtain ⟨b, rfl⟩ := ih fun u hu => h u (by simp [hu])
        rw [one_cell k1] at k2
        obtain ⟨c, hc⟩ := dec_byte k2
        simp only [List.cons.injEq, and_true] at hc
        exact ⟨c :: b, by rw [hc]; rfl⟩
    obtain ⟨b, rfl⟩ := this es hes
    exact ⟨b, rfl⟩

theorem dec_toks {v : V} (h : (∃ n, WT Try.prog n 23 (AM.cellsOf v)) ∧ Shaped (shOf Try.prog 23) v) : ∃ l : List Tok, v = .vec .plain (some 2) (encToks l) := by
  obtain ⟨⟨n, h1⟩, h2⟩ := h
  rw [shToks] at h2
  rw [one_cell h2] at h1
  cases n with
  | zero => exact h1.elim
  | succ n =>
    simp only [WT, Try.underlying23] at h1
    obtain ⟨es, he, _, hes⟩ := h1
    simp only [List.cons.injEq, and_true] at he
    subst he
    rw [shTok] at hes ⊢
    have : ∀ es : List V, (∀ v ∈ es, Shaped (some 2) v ∧ WT Try.prog n 34 (AM.cellsOf v)) → ∃ l : List Tok, es = encToks l := by
      intro es
      induction es with
      | nil => intro _; exact ⟨[], rfl⟩
      | cons v es ih =>
        intro h
        obtain ⟨k1, k2⟩ := h v (by simp)
        obtain ⟨l, rfl⟩ := ih fun u hu => h u (by simp [hu])
        cases v with
        | agg cs =>
          cases n with
          | zero => exact k2.elim
          | succ n =>
            simp only [WT, Try.underlying34] at k2
            obtain ⟨hl, hf⟩ := k2
            rw [cellsTok] at hl
            obtain ⟨x, y, rfl⟩ := list2 hl
            simp only [List.forall_mem_cons] at hf
            obtain ⟨f1, f2, _⟩ := hf
            simp only [cellsInt, cellsString, List.drop_zero, List.drop_succ_cons, List.take_succ_cons, List.take_zero] at f1 f2
            obtain ⟨k, hk, _⟩ := dec_int f1
            obtain ⟨s, hs⟩ := dec_string f2
            cases hk; cases hs
            exact ⟨(k, s) :: l, rfl⟩
        | _ => exact k1.elim
    obtain ⟨l, rfl⟩ := this es hes
    exact ⟨l, rfl⟩
theorem dec_num {v : V} (h : (∃ n, WT Try.prog n 3 (AM.cellsOf v)) ∧ Shaped (shOf Try.prog 3) v) : ∃ z, v = .int z ∧ I64 z := by
  obtain ⟨⟨n, h1⟩, h2⟩ := h
  rw [shInt] at h2
  rw [one_cell h2] at h1
  obtain ⟨z, hz, h3⟩ := dec_int h1
  simp only [List.cons.injEq, and_true] at hz
  exact ⟨z, hz, h3⟩
theorem dec_u8 {v : V} (h : (∃ n, WT Try.prog n 5 (AM.cellsOf v)) ∧ Shaped (shOf Try.prog 5) v) : ∃ c : UInt8, v = .ik .u8 (c.toNat : Int) := by
  obtain ⟨⟨n, h1⟩, h2⟩ := h
  rw [shByte] at h2
  rw [one_cell h2] at h1
  obtain ⟨z, hz⟩ := dec_byte h1
  simp only [List.cons.injEq, and_true] at hz
  exact ⟨z, hz⟩
theorem of_ev {f : Nat} {args : List V} (h : Ev f args (.bool true)) : ∃ m st, (fuelO Try.prog cfg (fun _ => none) m).call f args [] = some (.ret (.bool true), st) := by
  obtain ⟨m, hm⟩ := om_fuel h
  exact ⟨m, [], hm⟩

end Go.Proofs.LP

/-! The laws of reading: what is read is scoped. -/
namespace Go.Proofs.LP
open Go Go.AM Go.Ama

theorem onDecl4 {R : Type} (d : D) (K : Int → Int → List V → Option R) : onAgg (encD d) (fun c => gd (decide (4 ≤ c.length)) (onCells (R := R) [CT.int, CT.int, CT.slice (some 3)] (List.take 3 (List.drop 1 c)) K)) = K d.t.k d.t.h (encs d.t.args) := rfl
theorem onDecl1 {R : Type} (d : D) (K : ByteArray → Option R) : onAgg (encD d) (fun c => gd (decide (1 ≤ c.length)) (onStr (AM.partOf c 0 none) K)) = K (ba d.name) := rfl
theorem declsOf_small (b : Bytes) : (lexR b).1.length ≤ 100000 := by have := (lexR_small b).1; omega

theorem names_loop (l : List D) (hd : (l.map (·.name)).Nodup) (i : Nat) (hi : i < l.length) (hl : l.length ≤ 1048576) : ∀ d k, k + d = i →
    W.loop 11 13 [.int (k : Nat), .int (i : Nat), .vec .plain (some 4) (encDs l)] [] = some (Ex.exit 2, [.vec .plain (some 4) (encDs l), .int (i : Nat)], []) := by
  intro d
  induction d with
  | zero =>
    intro k hk
    have : k = i := by omega
    subst this
    rw [L, e_law14_ParseScopes_L13, show decide (((k : Nat) : Int) < (k : Nat)) = false by simp]
    rfl
  | succ d ih =>
    intro k hk
    have hkl : k < l.length := by omega
    have hne : l[k].name ≠ l[i].name := by
      have := List.pairwise_iff_getElem.1 hd k i (by simpa using hkl) (by simpa using hi) (by omega)
      simpa using this
    have h1 : decide (((k : Nat) : Int) < (i : Nat)) = true := by simp; omega
    have h2 : decide (((k : Nat) : Int) < ((encDs l).length : Int)) = true := by simp; omega
    have h3 : decide (((i : Nat) : Int) < ((encDs l).length : Int)) = true := by simp; omega
    have h4 : ∀ z : Nat, decide ((0 : Int) ≤ (z : Nat)) = true := fun z => by simp
    rw [L, e_law14_ParseScopes_L13]
    simp only [h1, h2, h3, h4, getI_encDs hkl, getI_encDs hi, bc_true, Bool.and_self, gd_true, onDecl1, ba_eq, hne, decide_false, bc_false]
    rw [wrap_id ⟨by omega, by omega⟩]
    have := ih (k + 1) (by omega)
    rw [show (((k + 1 : Nat)) : Int) = (k : Nat) + 1 from rfl] at this
    exact this

theorem scopes_loop (l : List D) (hd : (l.map (·.name)).Nodup) (hok : ∀ d ∈ l, okD d) (hl : l.length ≤ 1048576) : ∀ d k, k + d = l.length →
    W.loop 11 8 [.int (k : Nat), .vec .plain (some 4) (encDs l)] [] = some (Ex.exit 0, [], []) := by
  intro d
  induction d with
  | zero =>
    intro k hk
    have : k = l.length := by omega
    subst this
    rw [L, e_law14_ParseScopes_L8, encDs_length, show decide (((l.length : Nat) : Int) < (l.length : Nat)) = false by simp]
    rfl
  | succ d ih =>
    intro k hk
    have hkl : k < l.length := by omega
    obtain ⟨o1, o2, o3, o4⟩ := hok l[k] (List.getElem_mem hkl)
    have h2 : decide (((k : Nat) : Int) < ((encDs l).length : Int)) = true := by simp; omega
    have h4 : ∀ z : Nat, decide ((0 : Int) ≤ (z : Nat)) = true := fun z => by simp
    have hname : l[k].name.length ≤ 40 := by
      unfold nameOK at o3
      simp only [Bool.and_eq_true, decide_eq_true_eq] at o3
      exact o3.1.1.1.2
    have hm := (pmay_spec l[k].t (by omega)).p
    have hsc := (scoped_spec l[k].t 0 0 (by omega)).p
    have hn := (Name_spec l[k].name (by omega)).p
    have hlp := names_loop l hd k hkl hl k 0 (by omega)
    rw [show ((0 : Nat) : Int) = 0 from rfl] at hlp
    rw [o1, enc_eta] at hm
    rw [show allW (scopedN 0 0) 0 l[k].t = true from o2, enc_eta] at hsc
    rw [o3] at hn
    rw [L, e_law14_ParseScopes_L8]
    simp only [h2, h4, getI_encDs hkl, bc_true, Bool.and_self, gd_true, onDecl4, onDecl1, hm, hsc, hn, obind_some', onBool_bool, Bool.not_true, bc_false, hlp, onEx_exit, show Nat.beq 2 2 = true from rfl, onCons_cons, onVec_plain, onInt_int, onNil_nil]
    rw [wrap_id ⟨by omega, by omega⟩]
    have := ih (k + 1) (by omega)
    rw [show (((k + 1 : Nat)) : Int) = (k : Nat) + 1 from rfl] at this
    exact this

theorem Decls_p (b : Bytes) (hb : b.length ≤ 1048576) : pcall W 22 [.vec .plain none (encB b)] = some (.tup [.vec .plain (some 4) (encDs (declsOf b).1), .int (declsOf b).2]) :=
  (Decls_spec b hb).p (by simp [belowL, below, below_encB]) (by simp [belowL, below, below_encDs])

theorem declsOf_err (b : Bytes) (h : (declsOf b).2 ≠ 0) : (declsOf b).1 = [] := by
  unfold declsOf at *
  dsimp only at *
  split at h
  · rename_i h'
    rw [if_pos h']
  · exact absurd rfl h

theorem decls_count : ∀ q s, s.s.length ≤ 40 → (PS.decls q s).s.length ≤ 40 := by
  intro q
  induction q with
  | zero => intro s h; exact h
  | succ q ih =>
    intro s h
    unfold PS.decls
    split
    · split
      · rw [fail_s]; exact h
      · have := (decl_mono s).2.1
        exact ih _ (by omega)
    · exact h
theorem declsOf_count (b : Bytes) : (declsOf b).1.length ≤ 40 := by
  unfold declsOf
  dsimp only
  split
  · simp
  · exact decls_count _ _ (by simp)

theorem parseScopes_ev (b : Bytes) (hb : b.length ≤ 1048576) : Ev 11 [.vec .plain none (encB b)] (.bool true) := by
  unfold Ev
  rw [C, e_law14_ParseScopes, awake14.p, obind_some', onBool_bool, Bool.not_true, bc_false, encB_length]
  by_cases h5 : b.length > 5000
  · have : decide ((b.length : Int) > 5000) = true := by simp; omega
    rw [this, bc_true]
  · have : decide ((b.length : Int) > 5000) = false := by simp; omega
    rw [this, bc_false, Decls_p b hb, obind_some', onTup_tup, onCons_cons, onVec_plain, onCons_cons, onInt_int, onNil_nil, bne_int]
    by_cases he : (declsOf b).2 = 0
    · obtain ⟨g1, g2⟩ := declsOf_ok b (declsOf_small b)
      have hc := declsOf_count b
      have := scopes_loop (declsOf b).1 g2 g1 (by omega) (declsOf b).1.length 0 (by omega)
      rw [show ((0 : Nat) : Int) = 0 from rfl] at this
      simp only [he, decide_true, Bool.not_true, bc_false, this]
      rfl
    · simp only [he, decide_false, Bool.not_false, bc_true, declsOf_err b he]
      rfl
end Go.Proofs.LP

/-! What a law is handed: terms, declarations, strings. -/
namespace Go.Proofs.LP
open Go Go.AM Go.Ama

theorem shTerm : shOf Try.prog 44 = some 3 := by kernel_rfl
theorem shTerms : shOf Try.prog 42 = none := by kernel_rfl
theorem shString : shOf Try.prog 9 = none := by kernel_rfl
theorem cellsTerms : Try.prog.cellsOf 42 = 1 := by kernel_rfl
theorem cellsTerm : Try.prog.cellsOf 44 = 3 := by kernel_rfl
theorem shDecl : shOf Try.prog 46 = some 4 := by kernel_rfl
theorem shDecls : shOf Try.prog 37 = none := by kernel_rfl
theorem cellsDecl : Try.prog.cellsOf 46 = 4 := by kernel_rfl

theorem dec_str {v : V} (h : (∃ n, WT Try.prog n 9 (AM.cellsOf v)) ∧ Shaped (shOf Try.prog 9) v) : ∃ s : Bytes, v = .str (ba s) := by
  obtain ⟨⟨n, h1⟩, h2⟩ := h
  rw [shString] at h2
  rw [one_cell h2] at h1
  obtain ⟨z, hz⟩ := dec_string h1
  simp only [List.cons.injEq, and_true] at hz
  exact ⟨z, hz⟩

theorem list3 {l : List V} (h : l.length = 3) : ∃ x y z, l = [x, y, z] := by
  match l, h with
  | [x, y, z], _ => exact ⟨x, y, z, rfl⟩
theorem list4 {l : List V} (h : l.length = 4) : ∃ x y z w, l = [x, y, z, w] := by
  match l, h with
  | [x, y, z, w], _ => exact ⟨x, y, z, w, rfl⟩

theorem dec_terms : ∀ n : Nat, (∀ cs, WT Try.prog n 44 cs → ∃ t, V.agg cs = enc t) ∧ (∀ cs, WT Try.prog n 42 cs → ∃ ts, cs = [.vec .plain (some 3) (encs ts)]) := by
  intro n
  induction n with
  | zero => exact ⟨fun cs h => h.elim, fun cs h => h.elim⟩
  | succ n ih =>
    refine ⟨fun cs h => ?_, fun cs h => ?_⟩
    · simp only [WT, Try.underlying44] at h
      obtain ⟨hl, hf⟩ := h
      rw [cellsTerm] at hl
      obtain ⟨x, y, z, rfl⟩ := list3 hl
      simp only [List.forall_mem_cons] at hf
      obtain ⟨f1, f2, f3, _⟩ := hf
      simp only [cellsInt, cellsTerms, List.drop_zero, List.drop_succ_cons, List.take_succ_cons, List.take_zero] at f1 f2 f3
      obtain ⟨k, hk, _⟩ := dec_int f1
      obtain ⟨h, hh, _⟩ := dec_int f2
      obtain ⟨ts, hts⟩ := ih.2 _ f3
      cases hk; cases hh; cases hts
      exact ⟨.mk k h ts, rfl⟩
    · simp only [WT, Try.underlying42] at h
      obtain ⟨es, rfl, _, he⟩ := h
      rw [shTerm] at he ⊢
      have : ∀ es : List V, (∀ v ∈ es, Shaped (some 3) v ∧ WT Try.prog n 44 (AM.cellsOf v)) → ∃ ts, es = encs ts := by
        intro es
        induction es with
        | nil => intro _; exact ⟨[], rfl⟩
        | cons v es ihe =>
          intro h
          obtain ⟨h1, h2⟩ := h v (by simp)
          obtain ⟨ts, hts⟩ := ihe fun u hu => h u (by simp [hu])
          cases v with
          | agg cs =>
            obtain ⟨t, ht⟩ := ih.1 cs h2
            exact ⟨t :: ts, by rw [encs_cons, ← ht, hts]⟩
          | _ => exact h1.elim
      obtain ⟨ts, rfl⟩ := this es he
      exact ⟨ts, rfl⟩

theorem dec_term {v : V} (h : (∃ n, WT Try.prog n 44 (AM.cellsOf v)) ∧ Shaped (shOf Try.prog 44) v) : ∃ t, v = enc t := by
  obtain ⟨⟨n, h1⟩, h2⟩ := h
  rw [shTerm] at h2
  cases v with
  | agg cs => exact (dec_terms n).1 cs h1
  | _ => exact h2.elim
theorem dec_list {v : V} (h : (∃ n, WT Try.prog n 42 (AM.cellsOf v)) ∧ Shaped (shOf Try.prog 42) v) : ∃ ts, v = .vec .plain (some 3) (encs ts) := by
  obtain ⟨⟨n, h1⟩, h2⟩ := h
  rw [shTerms] at h2
  rw [one_cell h2] at h1
  obtain ⟨ts, hts⟩ := (dec_terms n).2 _ h1
  simp only [List.cons.injEq, and_true] at hts
  exact ⟨ts, hts⟩

theorem dec_declc : ∀ n cs, WT Try.prog n 46 cs → ∃ d, V.agg cs = encD d := by
  intro n cs h
  cases n with
  | zero => exact h.elim
  | succ n =>
    simp only [WT, Try.underlying46] at h
    obtain ⟨hl, hf⟩ := h
    rw [cellsDecl] at hl
    obtain ⟨x, y, z, w, rfl⟩ := list4 hl
    simp only [List.forall_mem_cons] at hf
    obtain ⟨f1, f2, _⟩ := hf
    simp only [cellsString, cellsTerm, List.drop_zero, List.drop_succ_cons, List.take_succ_cons, List.take_zero] at f1 f2
    obtain ⟨s, hs⟩ := dec_string f1
    obtain ⟨t, ht⟩ := (dec_terms n).1 _ f2
    cases hs
    obtain ⟨k, h, l⟩ := t
    simp only [enc, V.agg.injEq, List.cons.injEq, and_true] at ht
    obtain ⟨rfl, rfl, rfl⟩ := ht
    exact ⟨⟨s, .mk k h l⟩, rfl⟩
theorem dec_decl {v : V} (h : (∃ n, WT Try.prog n 46 (AM.cellsOf v)) ∧ Shaped (shOf Try.prog 46) v) : ∃ d, v = encD d := by
  obtain ⟨⟨n, h1⟩, h2⟩ := h
  rw [shDecl] at h2
  cases v with
  | agg cs => exact dec_declc n cs h1
  | _ => exact h2.elim
theorem dec_decls {v : V} (h : (∃ n, WT Try.prog n 37 (AM.cellsOf v)) ∧ Shaped (shOf Try.prog 37) v) : ∃ l, v = .vec .plain (some 4) (encDs l) := by
  obtain ⟨⟨n, h1⟩, h2⟩ := h
  rw [shDecls] at h2
  rw [one_cell h2] at h1
  cases n with
  | zero => exact h1.elim
  | succ n =>
    simp only [WT, Try.underlying37] at h1
    obtain ⟨es, he0, _, he⟩ := h1
    rw [shDecl] at he he0
    have : ∀ es : List V, (∀ v ∈ es, Shaped (some 4) v ∧ WT Try.prog n 46 (AM.cellsOf v)) → ∃ l, es = encDs l := by
      intro es
      induction es with
      | nil => intro _; exact ⟨[], rfl⟩
      | cons v es ihe =>
        intro h
        obtain ⟨h1, h2⟩ := h v (by simp)
        obtain ⟨l, hl⟩ := ihe fun u hu => h u (by simp [hu])
        cases v with
        | agg cs =>
          obtain ⟨d, hd⟩ := dec_declc n cs h2
          exact ⟨d :: l, by rw [hl, hd]; rfl⟩
        | _ => exact h1.elim
    obtain ⟨l, rfl⟩ := this es he
    simp only [List.cons.injEq, and_true] at he0
    exact ⟨l, he0⟩
end Go.Proofs.LP

/-! A term in marks, or below a name: the law. -/
namespace Go.Proofs.LP
open Go Go.AM Go.Ama

def few (l : List D) : Bool := decide (l.length ≤ 30) && l.all fun d => light 1000 80 d.t
theorem few_spec (l : List D) (h : ∀ d ∈ l, d.t.size ≤ 1048576) (hl : l.length ≤ 1048576) : Ev 27 [.vec .plain (some 4) (encDs l)] (.bool (few l)) := by
  unfold Ev
  have hl := all_loop' (L := fun i => W.loop 27 4 [V.int i, V.vec .plain (some 4) (encDs l)] []) (xs := l) (g := fun d => light 1000 80 d.t) (e0 := (Ex.exit 0, [], [])) (e1 := (Ex.ret, [V.bool false], []))
    (fun i hi => by
      have hp := (light_spec l[i].t 1000 80 (h _ (List.getElem_mem hi))).p
      rw [enc_eta] at hp
      show W.loop _ _ _ _ = _
      rw [L, e_law09_Few_L4]
      simp only [getI_encDs hi, onDecl4, hp]
      rw [wrap_id ⟨by omega, by omega⟩]
      cases light 1000 80 l[i].t <;> simp [hi])
    (by show W.loop _ _ _ _ = _; rw [L, e_law09_Few_L4]; simp)
  rw [C, e_law09_Few]
  simp only [hl, few]
  by_cases h3 : l.length ≤ 30
  · have : ¬ ((30 : Int) < l.length) := by omega
    cases l.all (fun d => light 1000 80 d.t) <;> simp [h3, this]
  · have : ((30 : Int) < l.length) := by omega
    simp [h3, this]

theorem infix_at {x b : Bytes} (h : x <:+: b) : ∃ i, i + x.length ≤ b.length ∧ (b.drop i).take x.length = x := by
  obtain ⟨s, t, rfl⟩ := h
  refine ⟨s.length, by simp, by simp⟩

/-- Whether a name stands in a text; from a place on. -/
def hasFrom (b : Bytes) (i : Nat) : Bool := ((List.range b.length).drop i).any fun j => decide (j + 10 ≤ b.length) && decide ((b.drop j).take 10 = notThere)
theorem hasFrom_end {b : Bytes} {i : Nat} (h : b.length < i + 10) : hasFrom b i = false := by
  unfold hasFrom
  rw [List.any_eq_false]
  intro j hj
  obtain ⟨k, hk, hk2⟩ := List.mem_iff_getElem.1 hj
  simp at hk2
  subst hk2
  have : ¬ i + k + 10 ≤ b.length := by omega
  simp [this]
theorem hasFrom_succ {b : Bytes} {i : Nat} (h : i + 10 ≤ b.length) : hasFrom b i = (decide ((b.drop i).take 10 = notThere) || hasFrom b (i + 1)) := by
  have hi : i < (List.range b.length).length := by simp; omega
  unfold hasFrom
  rw [List.drop_eq_getElem_cons hi, List.any_cons]
  simp [h]
theorem hasFrom_no {b : Bytes} (h : hasFrom b 0 = false) : ¬ notThere <:+: b := by
  intro hx
  obtain ⟨i, h1, h2⟩ := infix_at hx
  unfold hasFrom at h
  rw [List.any_eq_false] at h
  have h1 : i + 10 ≤ b.length := h1
  have := h i (by simp; omega)
  have h2 : (b.drop i).take 10 = notThere := h2
  simp [h1, h2] at this

section
variable (sig : List D) (n4 n11 : Int) (t u v : T)
theorem wraps_loop1 (b : Bytes) (hb : b.length ≤ 2000) : ∀ d i c, i + d = b.length →
    W.loop 12 15 [.int (i : Nat), .vec .plain none (encB b), .bool c, .vec .plain (some 4) (encDs sig), .int n4, .loc false (some 3) (enc t), .loc false (some 3) (enc v), .int n11, .loc false (some 3) (enc u)] [] =
      some (Ex.exit 0, [.vec .plain (some 4) (encDs sig), .bool (c || hasFrom b i), .int n4, .loc false (some 3) (enc t), .loc false (some 3) (enc v), .int n11, .loc false (some 3) (enc u)], []) := by
  intro d
  induction d with
  | zero =>
    intro i c hi
    have h1 : ¬ ((i : Int) + 10 ≤ b.length) := by omega
    rw [hasFrom_end (by omega), enc_eta t, enc_eta u, enc_eta v, L, e_law14_ParseWraps_L15, wrap_id ⟨by omega, by omega⟩]
    simp [h1]
  | succ d ih =>
    intro i c hi
    by_cases h1 : i + 10 ≤ b.length
    · have h2 : ((i : Int) + 10 ≤ b.length) := by omega
      have h3 : (i : Int).toNat = i := rfl
      have h4 : ((i : Int) + 10).toNat = i + 10 := by omega
      have ih1 := fun c => ih (i + 1) c (by omega)
      rw [enc_eta t, enc_eta u, enc_eta v] at ih1
      rw [hasFrom_succ h1, enc_eta t, enc_eta u, enc_eta v, L, e_law14_ParseWraps_L15, wrap_id ⟨by omega, by omega⟩, wrap_id ⟨by omega, by omega⟩]
      have hs : List.drop i (List.take (i + 10) (encB b)) = encB ((b.drop i).take 10) := by
        rw [encB_take, encB_drop, List.drop_take]; congr 2; omega
      have hb : ((ba ((b.drop i).take 10)).toList == ByteArray.toList { data := #[95, 110, 111, 116, 95, 116, 104, 101, 114, 101] }) = decide ((b.drop i).take 10 = notThere) := ba_eq _ notThere
      have ec : ((i : Int) + 1) = ((i + 1 : Nat) : Int) := rfl
      rw [ec]
      have h5 : (i : Int) ≤ i + 10 := by omega
      simp only [encB_length, h2, h3, h4, h5, hs, isU8_encB, strV_encB, hb, ih1]
      cases c
      · simp [h5]
      · simp
    · have h2 : ¬ ((i : Int) + 10 ≤ b.length) := by omega
      rw [hasFrom_end (by omega), enc_eta t, enc_eta u, enc_eta v, L, e_law14_ParseWraps_L15, wrap_id ⟨by omega, by omega⟩]
      simp [h2]
theorem wraps_loop2 (hl : sig.length ≤ 1048576) : ∀ d i c, i + d = sig.length → ∃ c', (c' = false → c = false) ∧
    W.loop 12 19 [.int (i : Nat), .vec .plain (some 4) (encDs sig), .bool c, .int n4, .loc false (some 3) (enc t), .loc false (some 3) (enc v), .int n11, .loc false (some 3) (enc u)] [] =
      some (Ex.exit 2, [.bool c', .int n4, .loc false (some 3) (enc t), .loc false (some 3) (enc v), .int n11, .loc false (some 3) (enc u)], []) := by
  intro d
  induction d with
  | zero =>
    intro i c hi
    refine ⟨c, fun h => h, ?_⟩
    have h1 : ¬ ((i : Int) < sig.length) := by omega
    rw [enc_eta t, enc_eta u, enc_eta v, L, e_law14_ParseWraps_L19]
    simp [h1]
  | succ d ih =>
    intro i c hi
    have h1 : i < sig.length := by omega
    have h2 : ((i : Int) < sig.length) := by omega
    have hb : ((ba sig[i].name).toList == ByteArray.toList { data := #[95, 110, 111, 116, 95, 116, 104, 101, 114, 101] }) = decide (sig[i].name = notThere) := ba_eq _ notThere
    have ec : ((i : Int) + 1) = ((i + 1 : Nat) : Int) := rfl
    obtain ⟨c', k1, k2⟩ := ih (i + 1) (c || decide (sig[i].name = notThere)) (by omega)
    refine ⟨c', fun h => by have := k1 h; cases c <;> simp_all, ?_⟩
    rw [← k2, enc_eta t, enc_eta u, enc_eta v, L, e_law14_ParseWraps_L19, wrap_id ⟨by omega, by omega⟩, ec]
    simp only [getI_encDs h1, onDecl1, hb]
    cases c <;> simp [h1]
end

theorem termOf_err {b : Bytes} {sig : List D} (h : (termOf b sig).2 ≠ 0) : (termOf b sig).1 = T0 := by
  rw [termOf_eq] at *
  unfold finish at *
  generalize (if (PS.whole ⟨(lexR b).1, sig, (lexR b).2⟩).2.l ≠ [] then (PS.whole ⟨(lexR b).1, sig, (lexR b).2⟩).2.fail 8 else (PS.whole ⟨(lexR b).1, sig, (lexR b).2⟩).2) = r at *
  by_cases he : r.e ≠ 0
  · rw [if_pos he]
  · rw [if_neg he] at h; exact absurd rfl h
theorem termOf_size {b : Bytes} {sig : List D} (hb : b.length ≤ 20000) : (termOf b sig).1.size ≤ 4000 := by
  by_cases he : (termOf b sig).2 = 0
  · obtain ⟨l, h1, t, h2, h3, h4⟩ := termOf_ok he hb
    rw [h4]
    unfold may at h3
    simp only [Bool.and_eq_true, decide_eq_true_eq] at h3
    exact h3.2.1
  · rw [termOf_err he]; decide
theorem Term_p (b : Bytes) (sig : List D) (hb : b.length ≤ 1048576) (hs : sig.length ≤ 999) :
    pcall W 28 [.vec .plain none (encB b), .vec .plain (some 4) (encDs sig)] = some (.tup [enc (termOf b sig).1, .int (termOf b sig).2]) :=
  (Term_spec b sig hb hs).p (by simp [belowL, below, below_encB, below_encDs]) (by simp [belowL, below, below_enc])
theorem getI_enc0 (t : T) (l : List T) : getI (encs (t :: l)) 0 = enc t := rfl

theorem wraps_ev (b : Bytes) (sig : List D) (hb : b.length ≤ 1048576) (hs : ∀ d ∈ sig, d.t.size ≤ 1048576) (hl : sig.length ≤ 1048576) : Ev 12 [.vec .plain none (encB b), .vec .plain (some 4) (encDs sig)] (.bool true) := by
  unfold Ev
  rw [C, e_law14_ParseWraps, awake14.p, (few_spec sig hs hl).p (by simp [belowL, below, below_encDs])]
  cases hf : few sig with
  | false => simp
  | true =>
  have h30 : sig.length ≤ 30 := by unfold few at hf; simp at hf; exact hf.1
  by_cases hb2 : b.length > 2000
  · have : (2000 : Int) < b.length := by omega
    simp [this]
  have hb3 : ¬ (2000 : Int) < b.length := by omega
  have t1 := Term_p b sig hb (by omega)
  have t2 := Term_p (40 :: (b ++ [10, 41])) sig (by simp; omega) (by omega)
  have t3 := Term_p (91 :: (notThere ++ [93, 32] ++ b)) sig (by simp; omega) (by omega)
  have c2 : [V.ik IntKind.u8 40] ++ encB b ++ bytesV { data := #[10, 41] } = encB (40 :: (b ++ [10, 41])) := by
    rw [show (40 :: (b ++ [10, 41]) : Bytes) = [40] ++ (b ++ [10, 41]) from rfl, encB_append, encB_append, List.append_assoc]; rfl
  have c3 : [V.ik IntKind.u8 91, V.ik IntKind.u8 95, V.ik IntKind.u8 110, V.ik IntKind.u8 111, V.ik IntKind.u8 116, V.ik IntKind.u8 95, V.ik IntKind.u8 116, V.ik IntKind.u8 104, V.ik IntKind.u8 101, V.ik IntKind.u8 114, V.ik IntKind.u8 101, V.ik IntKind.u8 93, V.ik IntKind.u8 32] ++ encB b = encB (91 :: (notThere ++ [93, 32] ++ b)) := by
    rw [show (91 :: (notThere ++ [93, 32] ++ b) : Bytes) = (91 :: (notThere ++ [93, 32])) ++ b from rfl, encB_append]; rfl
  have r1 : roomFor Try.prog 5 (1 + (encB b).length) = true := room_byte (by simp; omega)
  have r2 : roomFor Try.prog 5 (([V.ik IntKind.u8 40] ++ encB b).length + (bytesV { data := #[10, 41] }).length) = true := room_byte (by simp [bytesV]; omega)
  have r3 : roomFor Try.prog 5 (13 + (encB b).length) = true := room_byte (by simp; omega)
  have fin : ∀ n4 t n11 u v, ∃ c', (c' = false → hasFrom b 0 = false) ∧ W.loop 12 15 [.int 0, .vec .plain none (encB b), .bool false, .vec .plain (some 4) (encDs sig), .int n4, .loc false (some 3) (enc t), .loc false (some 3) (enc v), .int n11, .loc false (some 3) (enc u)] [] =
      some (Ex.exit 0, [.vec .plain (some 4) (encDs sig), .bool (hasFrom b 0), .int n4, .loc false (some 3) (enc t), .loc false (some 3) (enc v), .int n11, .loc false (some 3) (enc u)], []) ∧
      W.loop 12 19 [.int 0, .vec .plain (some 4) (encDs sig), .bool (hasFrom b 0), .int n4, .loc false (some 3) (enc t), .loc false (some 3) (enc v), .int n11, .loc false (some 3) (enc u)] [] =
      some (Ex.exit 2, [.bool c', .int n4, .loc false (some 3) (enc t), .loc false (some 3) (enc v), .int n11, .loc false (some 3) (enc u)], []) := by
    intro n4 t n11 u v
    obtain ⟨c', k1, k2⟩ := wraps_loop2 sig n4 n11 t u v hl sig.length 0 (hasFrom b 0) (by omega)
    have := wraps_loop1 sig n4 n11 t u v b (by omega) b.length 0 false (by omega)
    rw [Bool.false_or] at this
    exact ⟨c', k1, this, k2⟩
  rw [c2, c3, r1, r2, r3, t1, t2, t3]
  by_cases he : (termOf b sig).2 = 0
  · obtain ⟨c', k1, k2, k3⟩ := fin (termOf (91 :: (notThere ++ [93, 32] ++ b)) sig).2 (termOf b sig).1 (termOf (40 :: (b ++ [10, 41])) sig).2 (termOf (40 :: (b ++ [10, 41])) sig).1 (termOf (91 :: (notThere ++ [93, 32] ++ b)) sig).1
    have w1 := termOf_wrap (by omega) he
    have w2 : c' = false → _ := fun h => termOf_below (sig := sig) (b := b) (by omega) he (hasFrom_no (k1 h))
    have z1 := termOf_size (b := b) (sig := sig) (by omega)
    have z3 := termOf_size (b := 91 :: (notThere ++ [93, 32] ++ b)) (sig := sig) (by simp; omega)
    generalize termOf b sig = x1 at *
    generalize termOf (40 :: (b ++ [10, 41])) sig = x2 at *
    generalize termOf (91 :: (notThere ++ [93, 32] ++ b)) sig = x3 at *
    obtain ⟨y1, n1⟩ := x1
    obtain ⟨y2, n2⟩ := x2
    obtain ⟨y3, n3⟩ := x3
    simp only at he z1 z3
    subst he
    have S : ∀ u v : T, u.size ≤ 4000 → v.size ≤ 4000 → pcall W 29 [V.agg [V.int u.k, V.int u.h, V.vec .plain (some 3) (encs u.args)], V.agg [V.int v.k, V.int v.h, V.vec .plain (some 3) (encs v.args)]] = some (.bool (u.same v)) := fun u v h1 h2 => by
      have := (psame_spec u v (by omega) (by omega)).p
      rw [enc_eta u, enc_eta v] at this
      exact this
    rw [enc_eta y1, enc_eta y2, enc_eta y3] at k2 k3
    simp only [encB_length, hb3, onTup_tup, obind_some', onCons_cons, onStruct_enc, onNil_nil, onInt_int, k2, onEx_exit, show Nat.beq 0 0 = true from rfl, bc_true, onVec_plain, onBool_bool, onLoc_loc, cond_false, onT3, k3]
    have two : c' = false → n3 = 4 ∨ (n3 = 0 ∧ y3 = .mk 3 0 [y1]) := fun h => by
      rcases w2 h with w | w
      · simp only [Prod.mk.injEq] at w; exact .inr ⟨w.2, w.1⟩
      · exact .inl w
    have arg : ∀ a, y3.args = [a] → a.size ≤ 4000 := fun a h => by
      have := args_size (t := y3) (b := a) (by rw [h]; simp)
      omega
    rcases w1 with w | w
    · simp only [Prod.mk.injEq] at w
      obtain ⟨rfl, rfl⟩ := w
      cases hc : c' with
      | true =>
        by_cases h3 : n3 = 0
        · by_cases h1 : y3.args.length = 1
          · obtain ⟨a, ha⟩ := List.length_eq_one_iff.1 h1
            simp [h3, ha, getI_enc0, onStruct_enc, S _ _ z1 z1, S _ _ (arg a ha) z1]
          · have : ¬ ((y3.args.length : Int) = 1) := by omega
            simp [h3, this, S _ _ z1 z1]
        · simp [h3, S _ _ z1 z1]
      | false =>
        rcases two hc with h3 | ⟨h3, h4⟩
        · simp [h3, S _ _ z1 z1]
        · subst h3 h4
          simp [S _ _ z1 z1, getI_enc0, onStruct_enc]
    · have w : n2 = 4 := w
      subst w
      cases hc : c' with
      | true =>
        by_cases h3 : n3 = 0
        · by_cases h1 : y3.args.length = 1
          · obtain ⟨a, ha⟩ := List.length_eq_one_iff.1 h1
            simp [h3, ha, getI_enc0, onStruct_enc, S _ _ (arg a ha) z1]
          · have : ¬ ((y3.args.length : Int) = 1) := by omega
            simp [h3, this]
        · simp [h3]
      | false =>
        rcases two hc with h3 | ⟨h3, h4⟩
        · simp [h3]
        · subst h3 h4
          simp [S _ _ z1 z1, getI_enc0, onStruct_enc]
  · have := termOf_err he
    simp [hb3, onStruct_enc, he, this]

theorem bulk_encDs : ∀ l : List D, l.length ≤ bulkL (encDs l)
  | [] => by simp
  | d :: l => by have := bulk_encDs l; simp only [encDs, List.map_cons, bulkL, List.length_cons] at *; have : 1 ≤ bulkV (encD d) := by simp only [encD, bulkV]; omega
                 omega
theorem bulk_decl : ∀ {l : List D} {d : D}, d ∈ l → d.t.size ≤ bulkL (encDs l)
  | e :: l, d, h => by
    simp only [encDs, List.map_cons, bulkL]
    rcases List.mem_cons.1 h with rfl | h
    · have := bulk_enc d.t
      rw [enc_eta] at this
      simp only [encD, bulkV, bulkL] at *
      omega
    · have := bulk_decl h
      simp only [encDs] at this
      omega

theorem parseWraps_pure : ∀ us, WArgs Try.prog [22, 37] us → bulkL us ≤ 1048576 → ∃ m st, (fuelO Try.prog cfg (fun _ => none) m).call 12 us [] = some (.ret (.bool true), st) := by
  intro us h hb
  match us, h with
  | [u, v], ⟨h1, h2, h3, h4, _⟩ =>
    obtain ⟨a, rfl⟩ := dec_bytes ⟨h1, h2⟩
    obtain ⟨l, rfl⟩ := dec_decls ⟨h3, h4⟩
    simp only [bulkL, bulkV, bulk_encB] at hb
    have hl := bulk_encDs l
    exact of_ev (wraps_ev a l (by omega) (fun d hd => by have := bulk_decl hd; omega) (by omega))
end Go.Proofs.LP
