import Derived.Test.YtgoppocfbhbamaaDoorGa
import Derived.KernelRfl
import Derived.Test.YtgoppocfbhbamaaDoorAMd
/- The program's functions, each an equation of the abstract machine checked by the kernel, and what they come to as_ plain Lean. -/
set_option linter.unusedVariables false
set_option linter.unusedSimpArgs false
set_option linter.unusedSectionVars false
/-! A term that is written. -/
namespace Go.Proofs.SW
open Go Go.AM Go.Ama

theorem simple_spec (t : T) : Ev 48 [enc t] (.bool (simpleT t)) := by
  obtain ⟨k, h, xs⟩ := t
  unfold Ev
  rw [C]
  show callBody Tryd.prog cfg W 48 [.agg [.int k, .int h, .vec .plain (some 3) (encs xs)]] [] = _
  rw [e_show_simple]
  have hx : (((encs xs).length : Int) == 0) = decide (xs.length = 0) := by rw [beq_int, encs_length]; simp
  rw [hx]
  unfold simpleT
  show _ = some (Out.ret (V.bool (decide (xs.length = 0) && (k == 4 || k == 2 || k == 5))), [])
  cases decide (xs.length = 0) <;> cases (k == 4) <;> cases (k == 2) <;> rfl

theorem struct_enc {α : Type} (t : T) (K : Int → Int → List V → Option α) : onStruct [CT.int, CT.int, CT.slice (some 3)] (enc t) K = K t.k t.h (encs t.args) := by cases t; rfl
theorem e_ite {a b : Bool} {e : Int} : (bif b then (bif a then e else 2) else 2) = (bif (a && b) then e else 2) := by cases a <;> cases b <;> rfl

theorem depth_le : ∀ {l : List T} {a : T}, a ∈ l → a.depth ≤ depths l
  | b :: l, a, h => by
    simp only [depths]
    rcases List.mem_cons.1 h with rfl | h
    · omega
    · have := depth_le h; omega
def Wr (sig : List D) (t : T) : Prop := ∀ (d : Nat) (m : AM.Mode) (l : List Tok) (e : Int), GF m → nodesB t = true → d + t.depth ≤ 100 → l.length + 10 * t.size ≤ 1000000 →
  ∃ m', GF m' ∧ W.call 24 [.ref 0 0, enc t, .int d] [boxW m sig l e] = some (.ret (.tup []), [boxW m' sig (l ++ words sig t d) (bif okW sig t d then e else 2)])

theorem wargs_loop {sig : List D} (xs : List T) (ih : ∀ a ∈ xs, Wr sig a) (d : Nat) (hn : nodess xs = true) (hd : d + depths xs ≤ 100) (hx : xs.length ≤ 1000000) : ∀ j k, k + j = xs.length → ∀ (c : Bool) (m : AM.Mode) (l : List Tok) (e : Int), GF m → l.length + 10 * sizes (xs.drop k) + 1 ≤ 1000000 →
    ∃ m', GF m' ∧ W.loop 24 4 [.int (k : Nat), (bif c then .cptr none (.int d) else .loc false none (.int d)), (bif c then .cptr none (.ref 0 0) else .loc false none (.ref 0 0)), .vec .plain (some 3) (encs xs), .int xs.length] [boxW m sig l e] =
      some (.exit 1, [], [boxW m' sig (l ++ wArgs sig (xs.drop k) d) (bif okArgs sig (xs.drop k) d then e else 2)]) := by
  intro j
  induction j with
  | zero =>
    intro k hk c m l e hm hl
    have hkl : k = xs.length := by omega
    subst hkl
    have hlt : decide (((xs.length : Nat) : Int) < xs.length) = false := by simp
    refine ⟨m, hm, ?_⟩
    rw [List.drop_length]
    cases c
    · simp only [cond_false]
      rw [L, e_show_writer_term__A_L4, hlt, bc_false]
      simp [wArgs, okArgs]
    · simp only [cond_true]
      rw [L, e_show_writer_term_L4, hlt, bc_false]
      simp [wArgs, okArgs]
  | succ j ihj =>
    intro k hk c m l e hm hl
    have hkl : k < xs.length := by omega
    have hlt : decide (((k : Nat) : Int) < xs.length) = true := by simp; omega
    have hlt2 : (decide ((0 : Int) ≤ (k : Nat)) && decide (((k : Nat) : Int) < ((encs xs).length : Int))) = true := by rw [encs_length, hlt]; simp
    have hdr : xs.drop k = xs[k] :: xs.drop (k + 1) := List.drop_eq_getElem_cons hkl
    have hmem : xs[k] ∈ xs := List.getElem_mem hkl
    have hna : nodesB xs[k] = true := by rw [nodess_all, List.all_eq_true] at hn; exact hn _ hmem
    have hda : d + (xs[k]).depth ≤ 100 := by have := depth_le hmem; omega
    rw [hdr] at hl
    simp only [sizes] at hl
    have hw : IntKind.i64.wrap ((k : Nat) + 1 : Int) = ((k + 1 : Nat) : Int) := wrap_i (by omega) (by omega)
    have hp := (simple_spec xs[k]).p
    rw [enc_eta] at hp
    have hlen := words_len (sig := sig) xs[k] d
    rw [hdr]
    simp only [wArgs, okArgs]
    cases hs : simpleT xs[k]
    · -- within ( )
      obtain ⟨m1, hm1, h1⟩ := ih _ hmem d .grow (l ++ [mkT 40]) e (.inl rfl) hna hda (by simp; omega)
      have hc : W.call 49 [.cptr none (.ref 0 0), .cptr (some 3) (.agg [.int (xs[k]).k, .int (xs[k]).h, .vec .plain (some 3) (encs (xs[k]).args)]), .cptr none (.int d)] [boxW .grow sig (l ++ [mkT 40]) e] = some (.ret (.tup []), [boxW m1 sig (l ++ [mkT 40] ++ words sig xs[k] d) (bif okW sig xs[k] d then e else 2)]) := by
        rw [enc_eta] at h1
        rw [C, e_show_writer_term_3, h1]
        rfl
      have h2 := within_spec hm l e 40 41 (g := 49) rfl hm1 hc (by omega) (by simp; omega)
      have h2' : W.call 42 [V.ref 0 0, V.str { data := #[40] }, V.str { data := #[41] }, V.fn 49 [] [.cptr none (.ref 0 0), .cptr (some 3) (.agg [.int (xs[k]).k, .int (xs[k]).h, .vec .plain (some 3) (encs (xs[k]).args)]), .cptr none (.int d)]] [boxW m sig l e] = _ := h2
      obtain ⟨m3, hm3, h3⟩ := ihj (k + 1) (by omega) true .grow (l ++ [mkT 40] ++ words sig xs[k] d ++ [mkT 41]) (bif okW sig xs[k] d then e else 2) (.inl rfl) (by simp; omega)
      refine ⟨m3, hm3, ?_⟩
      rw [e_ite] at h3
      simp only [cond_true] at h3
      simp only [cond_false]
      have he : l ++ (mkT 40 :: words sig xs[k] d ++ [mkT 41] ++ wArgs sig (xs.drop (k + 1)) d) = l ++ [mkT 40] ++ words sig xs[k] d ++ [mkT 41] ++ wArgs sig (xs.drop (k + 1)) d := by simp
      rw [he, ← h3]
      cases c
      · simp only [cond_false]
        rw [L, e_show_writer_term__A_L4, hlt, bc_true, hlt2, gd_true, getI_encs hkl, struct_enc, hp, obind_some', hs, onBool_bool, bc_false, h2', hw]
        rfl
      · simp only [cond_true]
        rw [L, e_show_writer_term_L4, hlt, bc_true, hlt2, gd_true, getI_encs hkl, struct_enc, hp, obind_some', hs, onBool_bool, bc_false, h2', hw]
        rfl
    · obtain ⟨m1, hm1, h1⟩ := ih _ hmem d m l e hm hna hda (by omega)
      rw [enc_eta] at h1
      obtain ⟨m3, hm3, h3⟩ := ihj (k + 1) (by omega) c m1 (l ++ words sig xs[k] d) (bif okW sig xs[k] d then e else 2) hm1 (by simp; omega)
      refine ⟨m3, hm3, ?_⟩
      rw [e_ite] at h3
      simp only [cond_true]
      rw [← List.append_assoc, ← h3]
      cases c
      · simp only [cond_false]
        rw [L, e_show_writer_term__A_L4, hlt, bc_true, hlt2, gd_true, getI_encs hkl, struct_enc, hp, obind_some', hs, onBool_bool, bc_true, h1, hw]
        rfl
      · simp only [cond_true]
        rw [L, e_show_writer_term_L4, hlt, bc_true, hlt2, gd_true, getI_encs hkl, struct_enc, hp, obind_some', hs, onBool_bool, bc_true, h1, hw]
        rfl

theorem wterm_spec {sig : List D} (hsig : sig.length ≤ 1000) (t : T) : Wr sig t := by
  induction t using T.ind with
  | _ k h xs ih =>
    intro d m l e hm hn hd hl
    simp only [nodesB, Bool.and_eq_true] at hn
    simp only [T.depth] at hd
    simp only [T.size] at hl
    have hC : W.call 24 [.ref 0 0, enc (.mk k h xs), .int d] [boxW m sig l e] = callBody Tryd.prog cfg W 24 [.ref 0 0, .agg [.int k, .int h, .vec .plain (some 3) (encs xs)], .int d] [boxW m sig l e] := C ..
    rw [hC, e_show_writer_term, beq_int, beq_int, beq_int]
    have hm1 := hn.1
    unfold may1 at hm1
    unfold words okW
    by_cases h0 : k = 0
    · have hT : W.call 41 [.ref 0 0, .str { data := #[116, 121, 112, 101] }] [boxW m sig l e] = _ := wname_spec hm l e typ (by omega)
      refine ⟨.grow, .inl rfl, ?_⟩
      rw [decide_eq_true h0, bc_true, hT, if_pos h0, if_pos h0]
      rfl
    · rw [decide_eq_false h0, bc_false]
      rw [if_neg h0] at hm1
      simp only [if_neg h0]
      have hw : IntKind.i64.wrap ((d : Int) + 1) = ((d + 1 : Nat) : Int) := wrap_i (by omega) (by omega)
      by_cases h1 : k = 1
      · rw [if_pos h1] at hm1
        simp only [Bool.and_eq_true, decide_eq_true_eq] at hm1
        rw [decide_eq_true h1, bc_true]
        simp only [if_pos h1]
        match xs, hm1.2, ih, hn, hd, hl with
        | [a, b], _, ih, hn, hd, hl =>
          simp only [nodess, Bool.and_eq_true] at hn
          simp only [depths] at hd
          simp only [sizes] at hl
          have la := words_len (sig := sig) a d
          have lb := words_len (sig := sig) b (d + 1)
          obtain ⟨m1, hm1, w1⟩ := ih a (by simp) d .grow (l ++ [mkT 123] ++ [boundT d] ++ [mkT 58]) e (.inl rfl) hn.2.1 (by omega) (by simp; omega)
          have hc : W.call 43 [.cptr none (.ref 0 0), .cptr none (.int d), .cptr (some 3) (.agg [.int k, .int h, .vec .plain (some 3) (encs [a, b])])] [boxW .grow sig (l ++ [mkT 123]) e] = some (.ret (.tup []), [boxW m1 sig (l ++ [mkT 123] ++ [boundT d] ++ [mkT 58] ++ words sig a d) (bif okW sig a d then e else 2)]) := by
            have hbd := wbound_spec (sig := sig) (m := .grow) (.inl rfl) (l ++ [mkT 123]) e (d : Int) (by omega) (by omega) (by simp; omega)
            have hmk := wmarks_spec (sig := sig) (m := .grow) (.inl rfl) (l ++ [mkT 123] ++ [boundT d]) e 58 (by simp; omega)
            have hmk' : W.call 45 [V.ref 0 0, V.vec .plain none [V.str { data := #[58] }]] [boxW .grow sig (l ++ [mkT 123] ++ [boundT d]) e] = _ := hmk
            rw [enc_eta] at w1
            rw [C, e_show_writer_term_1, hbd]
            show obind (W.call 45 [V.ref 0 0, V.vec .plain none [V.str { data := #[58] }]] [boxW .grow sig (l ++ [mkT 123] ++ [boundT d]) e]) _ = _
            rw [hmk']
            have hg : getI (encs [a, b]) 0 = enc a := rfl
            have hq : (true && decide ((0 : Int) < ((encs [a, b]).length : Int))) = true := rfl
            simp only [obind_some', onRet_ret, onTup_tup, onNil_nil, hq, gd_true, hg, struct_enc, w1]
            rfl
          have h2 := within_spec hm l e 123 125 (g := 43) rfl hm1 hc (by omega) (by simp; omega)
          have h2' : W.call 42 [V.ref 0 0, V.str { data := #[123] }, V.str { data := #[125] }, V.fn 43 [] [.cptr none (.ref 0 0), .cptr none (.int d), .cptr (some 3) (.agg [.int k, .int h, .vec .plain (some 3) (encs [a, b])])]] [boxW m sig l e] = _ := h2
          obtain ⟨m3, hm3, w3⟩ := ih b (by simp) (d + 1) .grow (l ++ [mkT 123] ++ [boundT d] ++ [mkT 58] ++ words sig a d ++ [mkT 125]) (bif okW sig a d then e else 2) (.inl rfl) hn.2.2.1 (by omega) (by simp; omega)
          refine ⟨m3, hm3, ?_⟩
          rw [e_ite, enc_eta] at w3
          simp only [wPi, okPi]
          have he : l ++ (mkT 123 :: boundT ↑d :: mkT 58 :: words sig a d ++ mkT 125 :: words sig b (d + 1)) = l ++ [mkT 123] ++ [boundT d] ++ [mkT 58] ++ words sig a d ++ [mkT 125] ++ words sig b (d + 1) := by simp
          rw [he, h2', hw]
          have hg : getI (encs [a, b]) 1 = enc b := rfl
          have hq : (true && decide ((1 : Int) < ((encs [a, b]).length : Int))) = true := rfl
          simp only [obind_some', onRet_ret, onTup_tup, onNil_nil, hq, gd_true, hg, struct_enc, w3]
          rfl
      · rw [decide_eq_false h1, bc_false]
        rw [if_neg h1] at hm1
        simp only [if_neg h1]
        by_cases h3 : k = 3
        · rw [if_pos h3] at hm1
          simp only [Bool.and_eq_true, decide_eq_true_eq] at hm1
          rw [decide_eq_true h3, bc_true]
          simp only [if_pos h3]
          match xs, hm1.2, ih, hn, hd, hl with
          | [b], _, ih, hn, hd, hl =>
            simp only [nodess, Bool.and_eq_true] at hn
            simp only [depths] at hd
            simp only [sizes] at hl
            have lb := words_len (sig := sig) b (d + 1)
            have hc : W.call 46 [.cptr none (.ref 0 0), .cptr none (.int d)] [boxW .grow sig (l ++ [mkT 91]) e] = some (.ret (.tup []), [boxW .grow sig (l ++ [mkT 91] ++ [boundT d]) e]) := by
              have hbd := wbound_spec (sig := sig) (m := .grow) (.inl rfl) (l ++ [mkT 91]) e (d : Int) (by omega) (by omega) (by simp; omega)
              rw [C, e_show_writer_term_2, hbd]
              rfl
            have h2 := within_spec hm l e 91 93 (g := 46) rfl (.inl rfl) hc (by omega) (by simp; omega)
            have h2' : W.call 42 [V.ref 0 0, V.str { data := #[91] }, V.str { data := #[93] }, V.fn 46 [] [.cptr none (.ref 0 0), .cptr none (.int d)]] [boxW m sig l e] = _ := h2
            obtain ⟨m3, hm3, w3⟩ := ih b (by simp) (d + 1) .grow (l ++ [mkT 91] ++ [boundT d] ++ [mkT 93]) e (.inl rfl) hn.2.1 (by omega) (by simp; omega)
            refine ⟨m3, hm3, ?_⟩
            rw [enc_eta] at w3
            simp only [wLam, okLam]
            have he : l ++ (mkT 91 :: boundT ↑d :: mkT 93 :: words sig b (d + 1)) = l ++ [mkT 91] ++ [boundT d] ++ [mkT 93] ++ words sig b (d + 1) := by simp
            rw [he, h2', hw]
            have hg : getI (encs [b]) 0 = enc b := rfl
            have hq : (true && decide ((0 : Int) < ((encs [b]).length : Int))) = true := rfl
            simp only [obind_some', onRet_ret, onTup_tup, onNil_nil, hq, gd_true, hg, struct_enc, w3]
            rfl
        · rw [decide_eq_false h3, bc_false]
          rw [if_neg h3] at hm1
          simp only [Bool.and_eq_true, decide_eq_true_eq] at hm1
          simp only [if_neg h3]
          obtain ⟨m1, hm1', w1⟩ := whead_spec hm hsig l e k h xs d hm1.2.2 (by omega) (by omega)
          have hlen : (headT sig k h d).toList.length ≤ 1 := by cases headT sig k h d <;> simp
          have hxl : xs.length ≤ sizes xs := length_le_sizes xs
          obtain ⟨m3, hm3, w3⟩ := wargs_loop xs ih d hn.2 (by omega) (by omega) xs.length 0 (by omega) false m1 (l ++ (headT sig k h d).toList) (bif (headT sig k h d).isSome then e else 2) hm1' (by simp only [List.length_append, List.drop_zero]; omega)
          refine ⟨m3, hm3, ?_⟩
          rw [e_ite, List.drop_zero] at w3
          simp only [cond_false] at w3
          rw [w1, ← List.append_assoc]
          simp only [obind_some', onRet_ret, onTup_tup, onNil_nil, encs_length]
          have w3' : W.loop 24 4 [.int 0, .loc false none (.int d), .loc false none (.ref 0 0), .vec .plain (some 3) (encs xs), .int (xs.length : Nat)] [boxW m1 sig (l ++ (headT sig k h d).toList) (bif (headT sig k h d).isSome then e else 2)] = some (.exit 1, [], [boxW m3 sig (l ++ (headT sig k h d).toList ++ wArgs sig xs d) (bif ((headT sig k h d).isSome && okArgs sig xs d) then e else 2)]) := w3
          rw [w3']
          rfl
end Go.Proofs.SW

namespace Go.Proofs.SW
open Go Go.AM
set_option maxRecDepth 20000

theorem e_parse_Name (O : Oracle) (s0 : ByteArray) : callBody Tryd.prog cfg O 15 [.str s0] [] =
  bc ((↑s0.size : Int) == 0) (some (Out.ret (V.bool false), [])) (bc (decide ((↑s0.size : Int) > 40)) (some (Out.ret (V.bool false), [])) (gd (true && decide (0 < (↑s0.size : Int)))
  (bc ((↑(s0.data.toList.getD (Int.toNat 0) 0).toNat : Int) == 95) (some (Out.ret (V.bool false), [])) (bc (s0.toList == (ByteArray.toList { data := #[116, 121, 112, 101] })) (some
  (Out.ret (V.bool false), [])) (obind (pcall O 32 [V.vec .plain none (bytesV s0)]) fun r1 => onTup r1 fun c2 => onCons c2 fun v3 c4 => onVec (some 2) v3 fun l5 => onCons
  c4 fun v6 c7 => onInt v6 fun n8 => onNil c7 (bc (n8 == 0) (bc ((↑l5.length : Int) == 1) (gd (true && decide (0 < (↑l5.length : Int))) (onStruct [CT.int, CT.str] (getI l5 0) fun n9
  s10 => some (Out.ret (V.bool (true && n9 == 0 && s10.toList == s0.toList)), []))) (some (Out.ret (V.bool false), []))) (some (Out.ret (V.bool false), [])))))))) := by kernel_rfl

theorem e_parse_Term (O : Oracle) (l0 : (List V)) (l1 : (List V)) : callBody Tryd.prog cfg O 18 [.vec .plain none l0, .vec .plain (some 4) l1] [] =
  obind (pcall O 32 [V.vec .plain none l0]) fun r1 => onTup r1 fun c2 => onCons c2 fun v3 c4 => onVec (some 2) v3 fun l5 => onCons c4 fun v6 c7 => onInt v6 fun n8 => onNil
  c7 (obind (O.call 39 [V.ref 0 0] [Res.box [V.vec .plain (some 2) l5, V.vec .plain (some 4) l1, V.int n8]]) fun r9 => onRet r9.fst (fun v10 => onStruct [CT.int,
  CT.int, CT.slice (some 3)] v10 fun n11 n12 l13 => getR r9.snd 0 fun x14 => onBox x14 fun c15 => gd (decide (1 ≤ c15.length) && true) (onVec (some 2) (cleanV (AM.partOf c15 0
  none)) fun l16 => bc (decide ((↑l16.length : Int) > 0)) (obind (O.call 40 [V.ref 0 0, V.int 8] r9.snd) fun r17 => onRet r17.fst (fun v18 => onTup v18 fun c19 =>
  onNil c19 (getR r17.snd 0 fun x20 => onBox x20 fun c21 => gd (decide (3 ≤ c21.length) && true) (onInt (cleanV (AM.partOf c21 2 none)) fun n22 => bc (n22 != 0) (getR r17.snd 0 fun
  x23 => onBox x23 fun c24 => gd (decide (3 ≤ c24.length) && true) (onInt (cleanV (AM.partOf c24 2 none)) fun n25 => some (Out.ret (V.tup [V.agg [V.int 0, V.int 0, V.vec .plain
  (some 3) []], V.int n25]), []))) (gd (below 0 (V.tup [V.agg [V.int n11, V.int n12, V.vec .plain (some 3) l13], V.int 0]) && belowSt 0 []) (some (Out.ret (V.tup [V.agg [V.int n11,
  V.int n12, V.vec .plain (some 3) l13], V.int 0]), [])))))) fun p26 => none) (getR r9.snd 0 fun x27 => onBox x27 fun c28 => gd (decide (3 ≤ c28.length) && true) (onInt (cleanV
  (AM.partOf c28 2 none)) fun n29 => bc (n29 != 0) (getR r9.snd 0 fun x30 => onBox x30 fun c31 => gd (decide (3 ≤ c31.length) && true) (onInt (cleanV (AM.partOf c31 2 none)) fun n32
  => some (Out.ret (V.tup [V.agg [V.int 0, V.int 0, V.vec .plain (some 3) []], V.int n32]), []))) (gd (below 0 (V.tup [V.agg [V.int n11, V.int n12, V.vec .plain (some 3) l13], V.int
  0]) && belowSt 0 []) (some (Out.ret (V.tup [V.agg [V.int n11, V.int n12, V.vec .plain (some 3) l13], V.int 0]), []))))))) fun p33 => none) := by kernel_rfl

theorem e_parse_reader_fail (O : Oracle) (l s : List V) (m : AM.Mode) (e n : Int) : callBody Tryd.prog cfg O 40 [.ref 0 0, .int n] [.box [.vec .plain (some 2) l, .vec m (some 4) s, .int e]] =
  bc (e == 0) (some (Out.ret (V.tup []), [Res.box [V.vec .plain (some 2) l, V.vec m (some 4) s, V.int n]])) (some (Out.ret (V.tup []), [Res.box [V.vec .plain (some 2) l, V.vec m
  (some 4) s, V.int e]])) := by kernel_rfl

theorem e_parse_reader_whole (O : Oracle) (r0 : Nat) (st : St) : callBody Tryd.prog cfg O 39 [.ref r0 0] st =
  obind (O.call 63 [V.ref r0 0, V.vec .plain none [], V.int 1] st) fun r1 => onRet r1.fst (fun v2 => onStruct [CT.int, CT.int, CT.slice (some 3)] v2 fun n3 n4 l5 =>
  obind (pcall O 16 [V.agg [V.int n3, V.int n4, V.vec .plain (some 3) l5]]) fun r6 => onBool r6 fun b7 => bc (!b7) (obind (O.call 40 [V.ref r0 0, V.int 4]
  r1.snd) fun r8 => onRet r8.fst (fun v9 => onTup v9 fun c10 => onNil c10 (gcE (List.length st) (V.agg [V.int n3, V.int n4, V.vec .plain (some 3) l5]) r8.snd)) fun p11 => none) (gcE
  (List.length st) (V.agg [V.int n3, V.int n4, V.vec .plain (some 3) l5]) r1.snd)) fun p12 => none := by kernel_rfl

theorem e_parse_reader_name (O : Oracle) (r0 : Nat) (st : St) : callBody Tryd.prog cfg O 74 [.ref r0 0] st =
  obind (O.call 84 [V.ref r0 0] st) fun r1 => onRet r1.fst (fun v2 => onBool v2 fun b3 => obind (O.call 83 [V.ref r0 0, V.bool b3] r1.snd) fun r4
  => onRet r4.fst (fun v5 => onStr v5 fun s6 => gcE (List.length st) (V.str s6) r4.snd) fun p7 => none) fun p8 => none := by kernel_rfl

theorem e_parse_reader_take (O : Oracle) (r0 : Nat) (s1 : ByteArray) (st : St) : callBody Tryd.prog cfg O 73 [.ref r0 0, .str s1] st =
  obind (O.call 72 [V.ref r0 0, V.str s1] st) fun r1 => onRet r1.fst (fun v2 => onBool v2 fun b3 => obind (O.call 83 [V.ref r0 0, V.bool b3] r1.snd)
  fun r4 => onRet r4.fst (fun v5 => onStr v5 fun s6 => gcE (List.length st) (V.tup []) r4.snd) fun p7 => none) fun p8 => none := by kernel_rfl

theorem e_parse_reader_term (O : Oracle) (r0 : Nat) (l1 : (List V)) (n2 : Int) (st : St) : callBody Tryd.prog cfg O 63 [.ref r0 0, .vec .plain none l1, .int n2] st =
  bc (decide (n2 > 120)) (obind (O.call 40 [V.ref r0 0, V.int 4] st) fun r1 => onRet r1.fst (fun v2 => onTup v2 fun c3 => onNil c3 (gcE (List.length st) (V.agg
  [V.int 0, V.int 0, V.vec .plain (some 3) []]) r1.snd)) fun p4 => none) (obind (O.call 72 [V.ref r0 0, V.str { data := #[123] }] st) fun r5 => onRet r5.fst (fun v6
  => onBool v6 fun b7 => bc b7 (obind (O.call 73 [V.ref r0 0, V.str { data := #[123] }] r5.snd) fun r8 => onRet r8.fst (fun v9 => onTup v9 fun c10 => onNil c10
  (obind (O.call 74 [V.ref r0 0] r8.snd) fun r11 => onRet r11.fst (fun v12 => onStr v12 fun s13 => obind (O.call 73 [V.ref r0 0, V.str { data :=
  #[58] }] r11.snd) fun r14 => onRet r14.fst (fun v15 => onTup v15 fun c16 => onNil c16 (obind (O.call 63 [V.ref r0 0, V.vec .plain none l1, V.int (IntKind.i64.wrap
  (n2 + 1))] r14.snd) fun r17 => onRet r17.fst (fun v18 => onStruct [CT.int, CT.int, CT.slice (some 3)] v18 fun n19 n20 l21 => obind (O.call 73 [V.ref r0 0, V.str {
  data := #[125] }] r17.snd) fun r22 => onRet r22.fst (fun v23 => onTup v23 fun c24 => onNil c24 (obind (O.call 75 [V.ref r0 0, V.str s13, V.vec .plain none l1,
  V.int n2] r22.snd) fun r25 => onRet r25.fst (fun v26 => onStruct [CT.int, CT.int, CT.slice (some 3)] v26 fun n27 n28 l29 => gcE (List.length st) (V.agg [V.int 1, V.int 0, V.vec
  .plain (some 3) [V.agg [V.int n19, V.int n20, V.vec .plain (some 3) l21], V.agg [V.int n27, V.int n28, V.vec .plain (some 3) l29]]]) r25.snd) fun p30 => none)) fun p31 => none)
  fun p32 => none)) fun p33 => none) fun p34 => none)) fun p35 => none) (obind (O.call 72 [V.ref r0 0, V.str { data := #[91] }] r5.snd) fun r36 => onRet r36.fst (fun
  v37 => onBool v37 fun b38 => bc b38 (obind (O.call 73 [V.ref r0 0, V.str { data := #[91] }] r36.snd) fun r39 => onRet r39.fst (fun v40 => onTup v40 fun c41 =>
  onNil c41 (obind (O.call 74 [V.ref r0 0] r39.snd) fun r42 => onRet r42.fst (fun v43 => onStr v43 fun s44 => obind (O.call 73 [V.ref r0 0, V.str {
  data := #[93] }] r42.snd) fun r45 => onRet r45.fst (fun v46 => onTup v46 fun c47 => onNil c47 (obind (O.call 75 [V.ref r0 0, V.str s44, V.vec .plain none l1,
  V.int n2] r45.snd) fun r48 => onRet r48.fst (fun v49 => onStruct [CT.int, CT.int, CT.slice (some 3)] v49 fun n50 n51 l52 => gcE (List.length st) (V.agg [V.int 3, V.int 0, V.vec
  .plain (some 3) [V.agg [V.int n50, V.int n51, V.vec .plain (some 3) l52]]]) r48.snd) fun p53 => none)) fun p54 => none) fun p55 => none)) fun p56 => none) (obind (O.call
  76 [V.ref r0 0, V.vec .plain none l1, V.int n2] r36.snd) fun r57 => onRet r57.fst (fun v58 => onStruct [CT.int, CT.int, CT.slice (some 3)] v58 fun n59 n60 l61 =>
  gcE (List.length st) (V.agg [V.int n59, V.int n60, V.vec .plain (some 3) l61]) r57.snd) fun p62 => none)) fun p63 => none)) fun p64 => none) := by kernel_rfl

theorem e_parse_reader_token (O : Oracle) (l s : List V) (m : AM.Mode) (e : Int) (b : Bool) : callBody Tryd.prog cfg O 83 [.ref 0 0, .bool b] [.box [.vec .plain (some 2) l, .vec m (some 4) s, .int e]] =
  bc (!b) (obind (O.call 40 [V.ref 0 0, V.int 8] [Res.box [V.vec .plain (some 2) l, V.vec m (some 4) s, V.int e]]) fun r1 => onRet r1.fst (fun v2 => onTup v2 fun c3
  => onNil c3 (gcE [Res.box [V.vec .plain (some 2) l, V.vec m (some 4) s, V.int e]].length (V.str { data := #[] }) r1.snd)) fun p4 => none) (gd (true && decide (0 < (↑l.length :
  Int))) (onAgg (getI l 0) fun c5 => gd (decide (2 ≤ c5.length)) (onStr (AM.partOf c5 1 none) fun s6 => gd (true && decide (1 ≤ (↑l.length : Int)) && decide ((↑l.length : Int) ≤
  (↑l.length : Int))) (some (Out.ret (V.str s6), [Res.box [V.vec .plain (some 2) (List.drop 1 (List.take (↑l.length : Int).toNat l)), V.vec m (some 4) s, V.int e]]))))) := by kernel_rfl

theorem e_parse_reader_named (O : Oracle) (l s : List V) (m : AM.Mode) (e : Int) : callBody Tryd.prog cfg O 84 [.ref 0 0] [.box [.vec .plain (some 2) l, .vec m (some 4) s, .int e]] =
  bc (e == 0) (bc (decide ((↑l.length : Int) > 0)) (gd (true && decide (0 < (↑l.length : Int))) (onAgg (getI l 0) fun c1 => gd (decide (1 ≤ c1.length)) (onInt (AM.partOf c1 0 none)
  fun n2 => some (Out.ret (V.bool (n2 == 0)), [Res.box [V.vec .plain (some 2) l, V.vec m (some 4) s, V.int e]])))) (some (Out.ret (V.bool false), [Res.box [V.vec .plain (some 2) l,
  V.vec m (some 4) s, V.int e]]))) (some (Out.ret (V.bool false), [Res.box [V.vec .plain (some 2) l, V.vec m (some 4) s, V.int e]])) := by kernel_rfl

theorem e_slices_IndexFunc_api_Decl_api_Decl (O : Oracle) (l0 : (List V)) (g1 : Nat) (l2 : (List V)) (l3 : (List V)) (st : St) : callBody Tryd.prog cfg O 91 [.vec .plain (some 4) l0, .fn g1 l2 l3] st =
  obind (O.loop 91 2 [V.int 0, V.vec .plain (some 4) l0, V.fn g1 l2 l3, V.int (↑l0.length : Int)] st) fun r1 => onEx r1.fst none (onCons r1.snd.fst
  fun v2 c3 => onInt v2 fun n4 => onNil c3 (gcE (List.length st) (V.int n4) r1.snd.snd)) (fun i5 => bc (i5.beq 0) (onNil r1.snd.fst (gcE (List.length st) (V.int (-1)) r1.snd.snd))
  none) fun v6 => none := by kernel_rfl

theorem e_slices_IndexFunc_api_Decl_api_Decl_L2 (O : Oracle) (n0 : Int) (l1 : (List V)) (g2 : Nat) (l3 : (List V)) (l4 : (List V)) (n5 : Int) (st : St) : loopBody Tryd.prog cfg O 91 2 [.int n0, .vec .plain (some 4) l1, .fn g2 l3 l4, .int n5] st =
  bc (decide (n0 < n5)) (gd (decide (0 ≤ n0) && decide (n0 < (↑l1.length : Int))) (onStruct [CT.str, CT.int, CT.int, CT.slice (some 3)] (getI l1 n0) fun s1 n2 n3 l4_1 => bc
  (cfg.pure g2) (obind (pcall O g2 (l3 ++ [V.agg [V.str s1, V.int n2, V.int n3, V.vec .plain (some 3) l4_1]] ++ l4)) fun r5 => onBool r5 fun b6 => bc b6 (some (Ex.ret, [V.int n0],
  st)) (O.2 91 2 [V.int (IntKind.i64.wrap (n0 + 1)), V.vec .plain (some 4) l1, V.fn g2 l3 l4, V.int n5] st)) (obind (O.call g2 (l3 ++ [V.agg [V.str
  s1, V.int n2, V.int n3, V.vec .plain (some 3) l4_1]] ++ l4) st) fun r7 => onRet r7.fst (fun v8 => onBool v8 fun b9 => bc b9 (some (Ex.ret, [V.int n0], r7.snd)) (O.2
  91 2 [V.int (IntKind.i64.wrap (n0 + 1)), V.vec .plain (some 4) l1, V.fn g2 l3 l4, V.int n5] r7.snd)) fun p10 => none))) (some (Ex.exit 0, [],
  st)) := by kernel_rfl

theorem e_parse_reader_is (O : Oracle) (l s : List V) (m : AM.Mode) (e : Int) (t : ByteArray) : callBody Tryd.prog cfg O 72 [.ref 0 0, .str t] [.box [.vec .plain (some 2) l, .vec m (some 4) s, .int e]] =
  bc (e == 0) (bc (decide ((↑l.length : Int) > 0)) (gd (true && decide (0 < (↑l.length : Int))) (onStruct [CT.int, CT.str] (getI l 0) fun n1 s2 => some (Out.ret (V.bool (true && n1
  == 1 && s2.toList == t.toList)), [Res.box [V.vec .plain (some 2) l, V.vec m (some 4) s, V.int e]]))) (some (Out.ret (V.bool false), [Res.box [V.vec .plain (some 2) l, V.vec m
  (some 4) s, V.int e]]))) (some (Out.ret (V.bool false), [Res.box [V.vec .plain (some 2) l, V.vec m (some 4) s, V.int e]])) := by kernel_rfl

theorem e_parse_reader_below (O : Oracle) (r0 : Nat) (s1 : ByteArray) (l2 : (List V)) (n3 : Int) (st : St) : callBody Tryd.prog cfg O 75 [.ref r0 0, .str s1, .vec .plain none l2, .int n3] st =
  gd (true && decide (0 ≤ (↑l2.length : Int)) && decide ((↑l2.length : Int) ≤ (↑l2.length : Int))) (gd (decide ((↑l2.length : Int) = (↑l2.length : Int)) && (some (V.int (↑l2.length
  : Int))).isSome) (gd (true && roomFor Tryd.prog 9 ((List.drop 0 (List.take (↑l2.length : Int).toNat l2)).length + [V.str s1].length)) (obind (O.call 63
  [V.ref r0 0, V.vec .plain none (List.drop 0 (List.take (↑l2.length : Int).toNat l2) ++ [V.str s1]), V.int (IntKind.i64.wrap (n3 + 1))] st) fun r1 => onRet r1.fst (fun v2 =>
  onStruct [CT.int, CT.int, CT.slice (some 3)] v2 fun n3 n4 l5 => gcE (List.length st) (V.agg [V.int n3, V.int n4, V.vec .plain (some 3) l5]) r1.snd) fun p6 => none))) := by kernel_rfl

theorem e_parse_reader_atoms (O : Oracle) (r0 : Nat) (l1 : (List V)) (n2 : Int) (st : St) : callBody Tryd.prog cfg O 76 [.ref r0 0, .vec .plain none l1, .int n2] st =
  obind (O.call 72 [V.ref r0 0, V.str { data := #[40] }] st) fun r1 => onRet r1.fst (fun v2 => onBool v2 fun b3 => bc b3 (obind (O.call 86 [V.ref r0
  0, V.vec .plain none l1, V.int n2] r1.snd) fun r4 => onRet r4.fst (fun v5 => onStruct [CT.int, CT.int, CT.slice (some 3)] v5 fun n6 n7 l8 => obind (O.call 85
  [V.ref r0 0, V.agg [V.int n6, V.int n7, V.vec .plain (some 3) l8]] r4.snd) fun r9 => onRet r9.fst (fun v10 => onStruct [CT.int, CT.int, CT.slice (some 3)] v10 fun n11 n12 l13 =>
  gcE (List.length st) (V.agg [V.int n11, V.int n12, V.vec .plain (some 3) l13]) r9.snd) fun p14 => none) fun p15 => none) (obind (O.call 74 [V.ref r0 0] r1.snd)
  fun r16 => onRet r16.fst (fun v17 => onStr v17 fun s18 => getR r16.snd r0 fun x19 => onBox x19 fun c20 => gd (decide (3 ≤ c20.length) && true) (onInt (cleanV (AM.partOf c20 2
  none)) fun n21 => bc (n21 != 0) (gcE (List.length st) (V.agg [V.int 0, V.int 0, V.vec .plain (some 3) []]) r16.snd) (bc (s18.toList == (ByteArray.toList { data := #[116, 121, 112,
  101] })) (obind (O.call 85 [V.ref r0 0, V.agg [V.int 0, V.int 0, V.vec .plain (some 3) []]] r16.snd) fun r22 => onRet r22.fst (fun v23 => onStruct [CT.int,
  CT.int, CT.slice (some 3)] v23 fun n24 n25 l26 => gcE (List.length st) (V.agg [V.int n24, V.int n25, V.vec .plain (some 3) l26]) r22.snd) fun p27 => none) (obind (O.call
  87 [V.ref r0 0, V.str s18, V.vec .plain none l1] r16.snd) fun r28 => onRet r28.fst (fun v29 => onStruct [CT.int, CT.int, CT.nil (some 3)] v29 fun n30 n31 => obind
  (O.loop 76 9 [V.loc true (some 3) (V.agg [V.int n30, V.int n31, V.vec Mode.grow (some 3) []]), V.int n2, V.vec .plain none l1, V.ref r0 0, V.loc true (some 3)
  (V.agg [V.int 0, V.int 0, V.vec Mode.full (some 3) []])] r28.snd) fun r32 => onEx r32.fst none none (fun i33 => bc (i33.beq 1) (onCons r32.snd.fst fun v34 c35 => onLoc (some 3)
  v34 fun d36 v37 => onCons c35 fun v38 c39 => onLoc (some 3) v38 fun d40 v41 => onAgg v41 fun c42 => onCons c42 fun v43 c44 => onInt v43 fun n45 => onCons c44 fun v46 c47 => onInt
  v46 fun n48 => onCons c47 fun v49 c50 => onRoom (some 3) v49 fun l51 => onNil c50 (onNil c39 (gcE (List.length st) (V.agg [V.int n45, V.int n48, V.vec .plain (some 3) l51])
  r32.snd.snd))) none) fun v52 => none) fun p53 => none)))) fun p54 => none)) fun p55 => none := by kernel_rfl

theorem e_parse_reader_atoms_L9 (O : Oracle) (n0 : Int) (n1 : Int) (l2 : (List V)) (n3 : Int) (l4 : (List V)) (r5 : Nat) (v6 : V) (st : St) : loopBody Tryd.prog cfg O 76 9 [.loc true (some 3) (.agg [.int n0, .int n1, .vec .grow (some 3) l2]), .int n3, .vec .plain none l4, .ref r5 0, .loc true (some 3) v6] st =
  obind (O.call 84 [V.ref r5 0] st) fun r1 => onRet r1.fst (fun v2 => onBool v2 fun b3 => bc b3 (obind (O.call 88 [V.ref r5 0, V.vec .plain none
  l4, V.int n3] r1.snd) fun r4 => onRet r4.fst (fun v5 => onStruct [CT.int, CT.int, CT.slice (some 3)] v5 fun n6 n7 l8 => gd (true && roomFor Tryd.prog 24 (l2.length +
  [V.agg [V.int n6, V.int n7, V.vec .plain (some 3) l8]].length)) (O.2 76 9 [V.loc true (some 3) (V.agg [V.int n0, V.int n1, V.vec Mode.grow (some 3) (l2 ++ [V.agg
  [V.int n6, V.int n7, V.vec .plain (some 3) l8]])]), V.int n3, V.vec .plain none l4, V.ref r5 0, V.loc true (some 3) v6] r4.snd)) fun p9 => none) (obind (O.call 72
  [V.ref r5 0, V.str { data := #[40] }] r1.snd) fun r10 => onRet r10.fst (fun v11 => onBool v11 fun b12 => bc b12 (obind (O.call 88 [V.ref r5 0, V.vec .plain none
  l4, V.int n3] r10.snd) fun r13 => onRet r13.fst (fun v14 => onStruct [CT.int, CT.int, CT.slice (some 3)] v14 fun n15 n16 l17 => gd (true && roomFor Tryd.prog 24
  (l2.length + [V.agg [V.int n15, V.int n16, V.vec .plain (some 3) l17]].length)) (O.2 76 9 [V.loc true (some 3) (V.agg [V.int n0, V.int n1, V.vec Mode.grow (some
  3) (l2 ++ [V.agg [V.int n15, V.int n16, V.vec .plain (some 3) l17]])]), V.int n3, V.vec .plain none l4, V.ref r5 0, V.loc true (some 3) v6] r13.snd)) fun p18 => none) (some
  (Ex.exit 1, [V.loc true (some 3) v6, V.loc true (some 3) (V.agg [V.int n0, V.int n1, V.vec Mode.grow (some 3) l2])], r10.snd))) fun p19 => none)) fun p20 => none := by kernel_rfl

theorem e_parse_reader_alone (O : Oracle) (r0 : Nat) (n1 : Int) (n2 : Int) (l3 : (List V)) (st : St) : callBody Tryd.prog cfg O 85 [.ref r0 0, .agg [.int n1, .int n2, .vec .plain (some 3) l3]] st =
  obind (O.call 84 [V.ref r0 0] st) fun r1 => onRet r1.fst (fun v2 => onBool v2 fun b3 => bc b3 (obind (O.call 40 [V.ref r0 0, V.int 8] r1.snd)
  fun r4 => onRet r4.fst (fun v5 => onTup v5 fun c6 => onNil c6 (gcE (List.length st) (V.agg [V.int n1, V.int n2, V.vec .plain (some 3) l3]) r4.snd)) fun p7 => none) (obind (O.call
  72 [V.ref r0 0, V.str { data := #[40] }] r1.snd) fun r8 => onRet r8.fst (fun v9 => onBool v9 fun b10 => bc b10 (obind (O.call 40 [V.ref r0 0, V.int
  8] r8.snd) fun r11 => onRet r11.fst (fun v12 => onTup v12 fun c13 => onNil c13 (gcE (List.length st) (V.agg [V.int n1, V.int n2, V.vec .plain (some 3) l3]) r11.snd)) fun p14 =>
  none) (gcE (List.length st) (V.agg [V.int n1, V.int n2, V.vec .plain (some 3) l3]) r8.snd)) fun p15 => none)) fun p16 => none := by kernel_rfl

theorem e_parse_reader_inner (O : Oracle) (r0 : Nat) (l1 : (List V)) (n2 : Int) (st : St) : callBody Tryd.prog cfg O 86 [.ref r0 0, .vec .plain none l1, .int n2] st =
  obind (O.call 73 [V.ref r0 0, V.str { data := #[40] }] st) fun r1 => onRet r1.fst (fun v2 => onTup v2 fun c3 => onNil c3 (obind (O.call 63 [V.ref
  r0 0, V.vec .plain none l1, V.int (IntKind.i64.wrap (n2 + 1))] r1.snd) fun r4 => onRet r4.fst (fun v5 => onStruct [CT.int, CT.int, CT.slice (some 3)] v5 fun n6 n7 l8 => obind
  (O.call 73 [V.ref r0 0, V.str { data := #[41] }] r4.snd) fun r9 => onRet r9.fst (fun v10 => onTup v10 fun c11 => onNil c11 (gcE (List.length st) (V.agg [V.int n6,
  V.int n7, V.vec .plain (some 3) l8]) r9.snd)) fun p12 => none) fun p13 => none)) fun p14 => none := by kernel_rfl

theorem e_parse_reader_head (O : Oracle) (l s : List V) (m : AM.Mode) (e : Int) (t : ByteArray) (bs : List V) : callBody Tryd.prog cfg O 87 [.ref 0 0, .str t, .vec .plain none bs] [.box [.vec .plain (some 2) l, .vec m (some 4) s, .int e]] =
  obind (O.loop 87 2 [V.loc true (some 3) (V.agg [V.int 0, V.int 0, V.vec Mode.full (some 3) []]), V.int 0, V.loc false none (V.str t), V.vec .plain none bs, V.ref
  0 0, V.int (↑bs.length : Int)] [Res.box [V.vec .plain (some 2) l, V.vec m (some 4) s, V.int e]]) fun r1 => onEx r1.fst none (onCons r1.snd.fst fun v2 c3 => onLoc (some 3) v2 fun
  d4 v5 => onNil c3 (gcE [Res.box [V.vec .plain (some 2) l, V.vec m (some 4) s, V.int e]].length (dropV v5) r1.snd.snd)) (fun i6 => bc (i6.beq 0) (onCons r1.snd.fst fun v7 c8 =>
  onLoc (some 3) v7 fun d9 v10 => onCons c8 fun v11 c12 => onRef v11 fun q13 => onCons c12 fun v14 c15 => onLoc none v14 fun d16 v17 => onStr (bif d16 then cleanV v17 else v17) fun
  s18 => onNil c15 (getR r1.snd.snd q13 fun x19 => onBox x19 fun c20 => gd (decide (2 ≤ c20.length) && true) (onVec (some 4) (cleanV (AM.partOf c20 1 none)) fun l21 => obind (O.call
  91 [V.vec .plain (some 4) l21, V.fn 92 [] [V.cptr none (V.str s18)]] r1.snd.snd) fun r22 => onRet r22.fst (fun v23 => onInt
  v23 fun n24 => bc (decide (n24 < 0)) (obind (O.call 40 [V.ref q13 0, V.int 2] r22.snd) fun r25 => onRet r25.fst (fun v26 => onTup v26 fun c27 => onNil c27 (gcE
  [Res.box [V.vec .plain (some 2) l, V.vec m (some 4) s, V.int e]].length (V.agg [V.int 0, V.int 0, V.vec Mode.full (some 3) []]) r25.snd)) fun p28 => none) (getR r22.snd q13 fun
  x29 => onBox x29 fun c30 => gd (decide (2 ≤ c30.length) && true) (onVec (some 4) (cleanV (AM.partOf c30 1 none)) fun l31 => gd (decide (0 ≤ n24) && decide (n24 < (↑l31.length :
  Int))) (onAgg (getI l31 n24) fun c32 => gd (decide (4 ≤ c32.length)) (onCells [CT.int, CT.int, CT.slice (some 3)] (List.take 3 (List.drop 1 c32)) fun n33 n34 l35 => obind (pcall O
  93 [V.agg [V.int n33, V.int n34, V.vec .plain (some 3) l35]]) fun r36 => onBool r36 fun b37 => bc b37 (gcE [Res.box [V.vec .plain (some 2) l, V.vec m (some 4) s, V.int
  e]].length (V.agg [V.int 2, V.int n24, V.vec Mode.full (some 3) []]) r22.snd) (gcE [Res.box [V.vec .plain (some 2) l, V.vec m (some 4) s, V.int e]].length (V.agg [V.int 5, V.int
  n24, V.vec Mode.full (some 3) []]) r22.snd)))))) fun p38 => none))) none) fun v39 => none := by kernel_rfl

theorem e_parse_reader_head_L2 (O : Oracle) (v0 : V) (n1 : Int) (s2 : ByteArray) (l3 : (List V)) (r4 : Nat) (n5 : Int) (st : St) : loopBody Tryd.prog cfg O 87 2 [.loc true (some 3) v0, .int n1, .loc false none (.str s2), .vec .plain none l3, .ref r4 0, .int n5] st =
  bc (decide (n1 < n5)) (gd (decide (0 ≤ IntKind.i64.wrap (IntKind.i64.wrap ((↑l3.length : Int) - 1) - n1)) && decide (IntKind.i64.wrap (IntKind.i64.wrap ((↑l3.length : Int) - 1) -
  n1) < (↑l3.length : Int))) (onStr (getI l3 (IntKind.i64.wrap (IntKind.i64.wrap ((↑l3.length : Int) - 1) - n1))) fun s1 => bc (s1.toList == s2.toList) (some (Ex.ret, [V.loc false
  (some 3) (V.agg [V.int 4, V.int n1, V.vec Mode.full (some 3) []])], st)) (O.2 87 2 [V.loc true (some 3) v0, V.int (IntKind.i64.wrap (n1 + 1)), V.loc false none
  (V.str s2), V.vec .plain none l3, V.ref r4 0, V.int n5] st))) (some (Ex.exit 0, [V.loc true (some 3) v0, V.ref r4 0, V.loc false none (V.str s2)], st)) := by kernel_rfl

theorem e_parse_reader_atom (O : Oracle) (r0 : Nat) (l1 : (List V)) (n2 : Int) (st : St) : callBody Tryd.prog cfg O 88 [.ref r0 0, .vec .plain none l1, .int n2] st =
  obind (O.call 72 [V.ref r0 0, V.str { data := #[40] }] st) fun r1 => onRet r1.fst (fun v2 => onBool v2 fun b3 => bc b3 (obind (O.call 86 [V.ref r0
  0, V.vec .plain none l1, V.int n2] r1.snd) fun r4 => onRet r4.fst (fun v5 => onStruct [CT.int, CT.int, CT.slice (some 3)] v5 fun n6 n7 l8 => gcE (List.length st) (V.agg [V.int n6,
  V.int n7, V.vec .plain (some 3) l8]) r4.snd) fun p9 => none) (obind (O.call 74 [V.ref r0 0] r1.snd) fun r10 => onRet r10.fst (fun v11 => onStr v11 fun s12 => bc
  (s12.toList == (ByteArray.toList { data := #[116, 121, 112, 101] })) (obind (O.call 40 [V.ref r0 0, V.int 8] r10.snd) fun r13 => onRet r13.fst (fun v14 => onTup
  v14 fun c15 => onNil c15 (gcE (List.length st) (V.agg [V.int 0, V.int 0, V.vec .plain (some 3) []]) r13.snd)) fun p16 => none) (obind (O.call 87 [V.ref r0 0,
  V.str s12, V.vec .plain none l1] r10.snd) fun r17 => onRet r17.fst (fun v18 => onStruct [CT.int, CT.int, CT.slice (some 3)] (cleanV v18) fun n19 n20 l21 => gcE (List.length st)
  (V.agg [V.int n19, V.int n20, V.vec .plain (some 3) l21]) r17.snd) fun p22 => none)) fun p23 => none)) fun p24 => none := by kernel_rfl

theorem e_parse_reader_head_1 (O : Oracle) (s t : ByteArray) (n1 : Int) (n2 : Int) (l3 : (List V)) (st : St) : callBody Tryd.prog cfg O 92 [.agg [.str t, .int n1, .int n2, .vec .plain (some 3) l3], .cptr none (.str s)] st =
  gcE (List.length st) (V.bool (t.toList == s.toList)) st := by kernel_rfl

end Go.Proofs.SW

/-! The reader's small functions. -/
namespace Go.Proofs.SW
open Go Go.AM Go.Ama

theorem room_decl {n : Nat} (h : n ≤ 1048576) : roomFor Tryd.prog 36 n = true := by
  have : ((Tryd.prog.info? 36).map (·.bytes)).getD 0 = 56 := by kernel_rfl
  unfold roomFor
  rw [this]
  simp only [Bool.and_eq_true, decide_eq_true_eq]
  omega
theorem room_string {n : Nat} (h : n ≤ 1048576) : roomFor Tryd.prog 9 n = true := by
  have : ((Tryd.prog.info? 9).map (·.bytes)).getD 0 = 16 := by kernel_rfl
  unfold roomFor
  rw [this]
  simp only [Bool.and_eq_true, decide_eq_true_eq]
  omega

theorem getI_tok0 (t : Tok) (r : List Tok) : getI (encToks (t :: r)) 0 = encTok t := rfl
theorem len_pos' (t : Tok) (r : List Tok) : decide ((((encToks (t :: r)).length : Nat) : Int) > 0) = true := by simp
theorem len_pos (t : Tok) (r : List Tok) : decide ((0 : Int) < (((encToks (t :: r)).length : Nat) : Int)) = true := by simp

section
variable (m : AM.Mode) (s : PS)

theorem fail_spec (n : Int) : W.call 40 [.ref 0 0, .int n] [boxP m s] = some (.ret (.tup []), [boxP m (s.fail n)]) := by
  rw [C, boxP, e_parse_reader_fail, beq_int]
  unfold PS.fail
  by_cases h : s.e = 0 <;> simp [h, bc, boxP]

theorem is_spec (c : Bytes) : W.call 72 [.ref 0 0, .str (ba c)] [boxP m s] = some (.ret (.bool (s.is c)), [boxP m s]) := by
  rw [C, boxP, e_parse_reader_is, beq_int]
  unfold PS.is
  by_cases h : s.e = 0
  · rw [h]
    cases hl : s.l with
    | nil => rfl
    | cons t r =>
      simp only [len_pos', len_pos, getI_tok0, onStruct_tok, ba_eq, beq_int]
      simp [bc]
  · simp [h, bc]

theorem named_spec' : W.call 84 [.ref 0 0] [boxP m s] = some (.ret (.bool s.named), [boxP m s]) := by
  rw [C, boxP, e_parse_reader_named, beq_int]
  unfold PS.named
  by_cases h : s.e = 0
  · rw [h]
    cases hl : s.l with
    | nil => rfl
    | cons t r =>
      simp only [len_pos', len_pos, getI_tok0]
      show bc (decide True) (bc true (gd true (onAgg (.agg [.int t.1, .str (ba t.2)]) _)) _) _ = _
      rw [onAgg_agg]
      show some (Out.ret (V.bool (t.1 == 0)), _) = _
      rw [beq_int]; simp
  · simp [h, bc]

theorem is_cons {c : Bytes} (h : s.is c = true) : ∃ r, s.l = (1, c) :: r ∧ s.e = 0 := by
  unfold PS.is at h
  cases hl : s.l with
  | nil => rw [hl] at h; simp at h
  | cons t r =>
    rw [hl] at h
    simp only [Bool.and_eq_true, decide_eq_true_eq] at h
    obtain ⟨t1, t2⟩ := t
    simp only at h
    exact ⟨r, by rw [h.2.1, h.2.2], h.1⟩
theorem named_cons (h : s.named = true) : ∃ x r, s.l = (0, x) :: r ∧ s.e = 0 := by
  unfold PS.named at h
  cases hl : s.l with
  | nil => rw [hl] at h; simp at h
  | cons t r =>
    rw [hl] at h
    simp only [Bool.and_eq_true, decide_eq_true_eq] at h
    obtain ⟨t1, t2⟩ := t
    simp only at h
    exact ⟨t2, r, by rw [h.2], h.1⟩

theorem token_spec (b : Bool) (h : b = true → ∃ t r, s.l = t :: r) : W.call 83 [.ref 0 0, .bool b] [boxP m s] = some (.ret (.str (ba (s.token b).1)), [boxP m (s.token b).2]) := by
  rw [C, boxP, e_parse_reader_token, ← boxP, fail_spec]
  cases b with
  | false => rfl
  | true =>
    obtain ⟨t, r, hl⟩ := h rfl
    unfold PS.token
    rw [hl]
    simp only [len_pos, getI_tok0, if_true, Bool.not_true, bc_false, Bool.true_and, gd_true]
    show onAgg (.agg [.int t.1, .str (ba t.2)]) _ = _
    rw [onAgg_agg]
    rw [show decide (2 ≤ [V.int t.1, V.str (ba t.2)].length) = true from rfl, gd_true, show AM.partOf [V.int t.1, V.str (ba t.2)] 1 none = V.str (ba t.2) from rfl, onStr_str]
    have h1 : decide ((1 : Int) ≤ (((encToks (t :: r)).length : Nat) : Int)) = true := by simp; omega
    have h2 : decide ((((encToks (t :: r)).length : Nat) : Int) ≤ (((encToks (t :: r)).length : Nat) : Int)) = true := by simp
    rw [h1, h2, Int.toNat_natCast, List.take_length]
    rfl

theorem take_spec (c : Bytes) : W.call 73 [.ref 0 0, .str (ba c)] [boxP m s] = some (.ret (.tup []), [boxP m (s.take c)]) := by
  rw [C, e_parse_reader_take, is_spec, obind_some', onRet_ret, onBool_bool, token_spec _ _ _ (fun h => by obtain ⟨r, h, _⟩ := is_cons s h; exact ⟨_, _, h⟩), obind_some', onRet_ret, onStr_str]
  rfl
theorem name_spec' : W.call 74 [.ref 0 0] [boxP m s] = some (.ret (.str (ba s.name.1)), [boxP m s.name.2]) := by
  rw [C, e_parse_reader_name, named_spec', obind_some', onRet_ret, onBool_bool, token_spec _ _ _ (fun h => by obtain ⟨x, r, h, _⟩ := named_cons s h; exact ⟨_, _, h⟩), obind_some', onRet_ret, onStr_str]
  rfl
theorem paren : V.str { data := #[40] } = V.str (ba [40]) := rfl
theorem alone_spec (t : T) : W.call 85 [.ref 0 0, enc t] [boxP m s] = some (.ret (enc t), [boxP m s.alone]) := by
  unfold PS.alone
  rw [C, enc_eta, e_parse_reader_alone, named_spec', obind_some', onRet_ret, onBool_bool, paren, is_spec, obind_some', onRet_ret, onBool_bool, fail_spec, ← enc_eta]
  cases s.named <;> cases s.is [40] <;> rfl
end
end Go.Proofs.SW

/-! What a name is. -/
namespace Go.Proofs.SW
open Go Go.AM Go.Ama

theorem back_loop (x : Bytes) (bs : List Bytes) (v0 : V) (st : St) (hb : bs.length ≤ 1048576) : ∀ d k, k + d = bs.length →
    W.loop 87 2 [.loc true (some 3) v0, .int (k : Nat), .loc false none (.str (ba x)), .vec .plain none (encS bs.reverse), .ref 0 0, .int bs.length] st =
      some (match back x (bs.drop k) with
        | some i => (Ex.ret, [V.loc false (some 3) (V.agg [V.int 4, V.int ((k + i : Nat) : Int), V.vec .full (some 3) []])], st)
        | none => (Ex.exit 0, [V.loc true (some 3) v0, V.ref 0 0, V.loc false none (V.str (ba x))], st)) := by
  intro d
  induction d with
  | zero =>
    intro k hk
    have hkl : k = bs.length := by omega
    subst hkl
    have hlt : decide (((bs.length : Nat) : Int) < bs.length) = false := by simp
    rw [L, e_parse_reader_head_L2, hlt, List.drop_length]
    rfl
  | succ d ih =>
    intro k hk
    have hkl : k < bs.length := by omega
    have hlt : decide (((k : Nat) : Int) < bs.length) = true := by simp; omega
    have hw : IntKind.i64.wrap (IntKind.i64.wrap (((encS bs.reverse).length : Int) - 1) - (k : Nat)) = ((bs.length - 1 - k : Nat) : Int) := by
      have hw1 : IntKind.i64.wrap ((bs.length : Int) - 1) = (bs.length : Int) - 1 := wrap_id ⟨by omega, by omega⟩
      rw [encS_length, List.length_reverse, hw1, wrap_id ⟨by omega, by omega⟩]; omega
    have h0 : decide ((0 : Int) ≤ ((bs.length - 1 - k : Nat) : Int)) = true := by simp
    have h1 : decide ((((bs.length - 1 - k : Nat) : Int)) < ((encS bs.reverse).length : Int)) = true := by simp; omega
    have hi : bs.length - 1 - k < bs.reverse.length := by simp; omega
    have hget : bs.reverse[bs.length - 1 - k] = bs[k] := by
      rw [List.getElem_reverse]; congr 1; omega
    have hd : bs.drop k = bs[k] :: bs.drop (k + 1) := List.drop_eq_getElem_cons hkl
    rw [L, e_parse_reader_head_L2, hlt, hw, h0, h1, getI_encS hi, hget, hd, bc_true, onStr_str, ba_eq]
    simp only [Bool.and_self, gd_true, back]
    by_cases hx : bs[k] = x
    · simp [hx, bc]
    · simp only [hx, decide_false, bc_false, if_false]
      rw [wrap_id ⟨by omega, by omega⟩]
      have := ih (k + 1) (by omega)
      rw [show (((k + 1 : Nat)) : Int) = (k : Nat) + 1 from rfl] at this
      rw [this]
      cases back x (bs.drop (k + 1)) with
      | none => rfl
      | some i => simp only [Option.map_some]; rw [show k + 1 + i = k + (i + 1) by omega]

/-- A function that tells whether a declaration has a name. -/
def Names (g : Nat) (x : Bytes) : Prop := cfg.pure g = false ∧ ∀ d st, W.call g [encD d, .cptr none (.str (ba x))] st = some (.ret (.bool (decide (d.name = x))), st)
theorem names1 (x : Bytes) : Names 92 x := ⟨rfl, fun d st => by rw [C, encD, e_parse_reader_head_1, ba_eq]; exact gcE_len rfl⟩
theorem idx_loop {g : Nat} {x : Bytes} (hg : Names g x) (l : List D) (st : St) (hl : l.length ≤ 1048576) : ∀ d k, k + d = l.length →
    W.loop 91 2 [.int (k : Nat), .vec .plain (some 4) (encDs l), .fn g [] [.cptr none (.str (ba x))], .int l.length] st =
      some (match idx x (l.drop k) with
        | some i => (Ex.ret, [V.int ((k + i : Nat) : Int)], st)
        | none => (Ex.exit 0, [], st)) := by
  intro d
  induction d with
  | zero =>
    intro k hk
    have hkl : k = l.length := by omega
    subst hkl
    have hlt : decide (((l.length : Nat) : Int) < l.length) = false := by simp
    rw [L, e_slices_IndexFunc_api_Decl_api_Decl_L2, hlt, List.drop_length]
    rfl
  | succ d ih =>
    intro k hk
    have hkl : k < l.length := by omega
    have hlt : decide (((k : Nat) : Int) < l.length) = true := by simp; omega
    have h0 : decide ((0 : Int) ≤ (k : Nat)) = true := by simp
    have hd : l.drop k = l[k] :: l.drop (k + 1) := List.drop_eq_getElem_cons hkl
    have hc := hg.2 l[k] st
    unfold encD at hc
    rw [L, e_slices_IndexFunc_api_Decl_api_Decl_L2]
    simp only [encDs_length, hlt, h0, getI_encDs hkl, onStruct_encD, hg.1, bc_false, bc_true, Bool.and_self, gd_true, List.nil_append, List.cons_append, hc, obind_some', onRet_ret, onBool_bool]
    rw [hd]
    simp only [idx]
    by_cases hx : l[k].name = x
    · simp [hx, bc]
    · simp only [hx, decide_false, bc_false, if_false]
      rw [wrap_id ⟨by omega, by omega⟩]
      have := ih (k + 1) (by omega)
      rw [show (((k + 1 : Nat)) : Int) = (k : Nat) + 1 from rfl] at this
      rw [this]
      cases idx x (l.drop (k + 1)) with
      | none => rfl
      | some i => simp only [Option.map_some]; rw [show k + 1 + i = k + (i + 1) by omega]

def idxI (x : Bytes) (l : List D) : Int := match idx x l with | some i => (i : Nat) | none => -1
theorem indexFunc_spec {g : Nat} {x : Bytes} (hg : Names g x) (l : List D) (st : St) (hl : l.length ≤ 1048576) :
    W.call 91 [.vec .plain (some 4) (encDs l), .fn g [] [.cptr none (.str (ba x))]] st = some (.ret (.int (idxI x l)), st) := by
  have h := idx_loop hg l st hl l.length 0 (by omega)
  rw [C, e_slices_IndexFunc_api_Decl_api_Decl, encDs_length]
  rw [show ((0 : Nat) : Int) = 0 from rfl] at h
  rw [h, List.drop_zero, obind_some']
  unfold idxI
  cases idx x l with
  | none => exact gcE_len rfl
  | some i => simp only [Nat.zero_add]; exact gcE_len rfl
theorem idx_lt {x : Bytes} : ∀ {l : List D} {i : Nat}, idx x l = some i → i < l.length
  | [], i, h => by cases h
  | d :: l, i, h => by
    unfold idx at h
    split at h
    · cases h; simp
    · cases hq : idx x l with
      | none => rw [hq] at h; cases h
      | some j => rw [hq] at h; cases h; have := idx_lt hq; simp; omega

/-- What head hands back: it has no args. -/
def encF (t : T) : V := .agg [.int t.k, .int t.h, .vec .full (some 3) []]
theorem head_spec (m : AM.Mode) (s : PS) (x : Bytes) (bs : List Bytes) (hb : bs.length ≤ 1048576) (hs : s.s.length ≤ 1048576) :
    W.call 87 [.ref 0 0, .str (ba x), .vec .plain none (encS bs.reverse)] [boxP m s] = some (.ret (encF (s.head x bs).1), [boxP m (s.head x bs).2]) := by
  have h := back_loop x bs (V.agg [V.int 0, V.int 0, V.vec .full (some 3) []]) [boxP m s] hb bs.length 0 (by omega)
  rw [show ((0 : Nat) : Int) = 0 from rfl, List.drop_zero] at h
  rw [C, boxP, e_parse_reader_head, ← boxP, encS_length, List.length_reverse, h, obind_some']
  unfold PS.head
  cases hbk : back x bs with
  | some i => simp only [Nat.zero_add]; rfl
  | none =>
    have hb0 : Nat.beq 0 0 = true := rfl
    simp only [onEx_exit, hb0, bc_true, onCons_cons, onLoc_loc, onRef_ref, cond_false, onStr_str, onNil_nil]
    have hget : ∀ {R : Type} (K : Res → Option R), getR [boxP m s] 0 K = K (boxP m s) := fun K => rfl
    rw [hget, boxP, onBox_box, ← boxP]
    have hcl : cleanV (AM.partOf [V.vec .plain (some 2) (encToks s.l), V.vec m (some 4) (encDs s.s), V.int s.e] 1 none) = .vec .plain (some 4) (encDs s.s) := by cases m <;> rfl
    rw [hcl, onVec_plain, indexFunc_spec (names1 x) s.s _ hs, obind_some', onRet_ret, onInt_int]
    unfold idxI
    have h2g : ∀ {R : Type} (X : Option R), gd (decide (2 ≤ [V.vec .plain (some 2) (encToks s.l), V.vec m (some 4) (encDs s.s), V.int s.e].length) && true) X = X := fun X => rfl
    cases hix : idx x s.s with
    | none =>
      simp only [h2g, show decide ((-1 : Int) < 0) = true from rfl, bc_true, fail_spec]
      rfl
    | some i =>
      have hi := idx_lt hix
      have hneg : decide (((i : Nat) : Int) < 0) = false := by simp
      have h0 : decide ((0 : Int) ≤ (i : Nat)) = true := by simp
      have h1 : decide (((i : Nat) : Int) < ((encDs s.s).length : Int)) = true := by simp; omega
      simp only [hneg, bc_false]
      rw [hget, boxP, onBox_box, ← boxP, hcl, onVec_plain, h0, h1, getI_encDs hi, h2g, h2g]
      have h4 : ∀ {R : Type} (K : Int → Int → List V → Option R), onAgg (encD s.s[i]) (fun c => gd (decide (4 ≤ c.length)) (onCells (R := R) [CT.int, CT.int, CT.slice (some 3)] (List.take 3 (List.drop 1 c)) K)) = K s.s[i].t.k s.s[i].t.h (encs s.s[i].t.args) := fun K => rfl
      rw [Bool.and_self, gd_true, h4]
      rw [← enc_eta, (kind_spec s.s[i].t).p, obind_some', onBool_bool]
      have hg : (s.s.map (·.t)).getD i T0 = s.s[i].t := by simp [List.getD_eq_getElem?_getD, hi]
      simp only [hg]
      by_cases hk : (split s.s[i].t).2.k = 0
      · simp only [hk, decide_true, bc_true, if_true]; rfl
      · simp only [hk, decide_false, bc_false, if_false]; rfl
end Go.Proofs.SW

/-! The reader takes tokens, and nothing else. -/
namespace Go.Ama
open Go.AM (T)

/-- No token comes back; what is declared stays; what went wrong stays. -/
structure Mono (s r : PS) : Prop where
  suf : r.l <:+ s.l
  sig : r.s = s.s
  err : s.e ≠ 0 → r = s
theorem Mono.len {s r : PS} (h : Mono s r) : r.l.length ≤ s.l.length := h.suf.length_le
theorem Mono.refl {s : PS} : Mono s s := ⟨List.suffix_refl _, rfl, fun _ => rfl⟩
theorem Mono.trans {s r q : PS} (h : Mono s r) (g : Mono r q) : Mono s q :=
  ⟨g.suf.trans h.suf, g.sig.trans h.sig, fun he => by
    have := h.err he
    subst this
    exact g.err he⟩
theorem fail_mono (n : Int) (s : PS) : Mono s (s.fail n) := by
  unfold PS.fail
  split
  · rename_i h; exact ⟨List.suffix_refl _, rfl, fun he => absurd h he⟩
  · exact .refl
theorem is_cons' {s : PS} {c : Bytes} (h : s.is c = true) : ∃ r, s.l = (1, c) :: r ∧ s.e = 0 := by
  unfold PS.is at h
  cases hl : s.l with
  | nil => rw [hl] at h; simp at h
  | cons t r =>
    rw [hl] at h
    simp only [Bool.and_eq_true, decide_eq_true_eq] at h
    obtain ⟨t1, t2⟩ := t
    simp only at h
    exact ⟨r, by rw [h.2.1, h.2.2], h.1⟩
theorem named_cons' {s : PS} (h : s.named = true) : ∃ x r, s.l = (0, x) :: r ∧ s.e = 0 := by
  unfold PS.named at h
  cases hl : s.l with
  | nil => rw [hl] at h; simp at h
  | cons t r =>
    rw [hl] at h
    simp only [Bool.and_eq_true, decide_eq_true_eq] at h
    obtain ⟨t1, t2⟩ := t
    simp only at h
    exact ⟨t2, r, by rw [h.2], h.1⟩
theorem is_err {s : PS} {c : Bytes} (h : s.e ≠ 0) : s.is c = false := by simp [PS.is, h]
theorem named_err {s : PS} (h : s.e ≠ 0) : s.named = false := by simp [PS.named, h]
theorem fail_err {s : PS} {n : Int} (h : s.e ≠ 0) : s.fail n = s := by simp [PS.fail, h]
theorem fail_l (n : Int) (s : PS) : (s.fail n).l = s.l := by unfold PS.fail; split <;> rfl
theorem fail_s (n : Int) (s : PS) : (s.fail n).s = s.s := by unfold PS.fail; split <;> rfl
theorem fail_ne {n : Int} (hn : n ≠ 0) (s : PS) : (s.fail n).e ≠ 0 := by unfold PS.fail; split <;> assumption

theorem take_yes {s : PS} {c : Bytes} (h : s.is c = true) : ∃ r, s.l = (1, c) :: r ∧ s.e = 0 ∧ s.take c = ⟨r, s.s, 0⟩ := by
  obtain ⟨r, hl, he⟩ := is_cons' h
  refine ⟨r, hl, he, ?_⟩
  unfold PS.take PS.token
  rw [h, hl, ← he]
  rfl
theorem take_no {s : PS} {c : Bytes} (h : s.is c = false) : s.take c = s.fail 8 := by
  unfold PS.take PS.token
  rw [h]
  rfl
theorem name_yes {s : PS} (h : s.named = true) : ∃ x r, s.l = (0, x) :: r ∧ s.e = 0 ∧ s.name = (x, ⟨r, s.s, 0⟩) := by
  obtain ⟨x, r, hl, he⟩ := named_cons' h
  refine ⟨x, r, hl, he, ?_⟩
  unfold PS.name PS.token
  rw [h, hl, ← he]
  rfl
theorem name_no {s : PS} (h : s.named = false) : s.name = ([], s.fail 8) := by
  unfold PS.name PS.token
  rw [h]
  rfl
theorem take_mono (c : Bytes) (s : PS) : Mono s (s.take c) := by
  cases h : s.is c with
  | true =>
    obtain ⟨r, hl, he, ht⟩ := take_yes h
    rw [ht]
    exact ⟨by rw [hl]; exact List.suffix_cons _ _, rfl, fun h => absurd he h⟩
  | false => rw [take_no h]; exact fail_mono 8 s
theorem name_mono (s : PS) : Mono s s.name.2 := by
  cases h : s.named with
  | true =>
    obtain ⟨x, r, hl, he, ht⟩ := name_yes h
    rw [ht]
    exact ⟨by rw [hl]; exact List.suffix_cons _ _, rfl, fun h => absurd he h⟩
  | false => rw [name_no h]; exact fail_mono 8 s
theorem head_mono (x : Bytes) (bs : List Bytes) (s : PS) : Mono s (s.head x bs).2 := by
  unfold PS.head
  split
  · exact .refl
  · split
    · exact fail_mono 2 s
    · exact .refl
theorem head_args (x : Bytes) (bs : List Bytes) (s : PS) : (s.head x bs).1.args = [] := by
  unfold PS.head
  split
  · rfl
  · split <;> rfl
theorem alone_mono (s : PS) : Mono s s.alone := by
  unfold PS.alone
  split
  · exact fail_mono 8 s
  · exact .refl

section
variable {term : List Bytes → PS → T × PS} (ht : ∀ bs s, Mono s (term bs s).2)
include ht
theorem inner_mono (bs : List Bytes) (s : PS) : Mono s (s.inner term bs).2 := ((take_mono [40] s).trans (ht bs _)).trans (take_mono [41] _)
theorem atom_mono (bs : List Bytes) (s : PS) : Mono s (s.atom term bs).2 := by
  unfold PS.atom
  split
  · exact inner_mono ht bs s
  · dsimp only
    split
    · exact (name_mono s).trans (fail_mono 8 _)
    · exact (name_mono s).trans (head_mono _ _ _)
theorem args_mono (bs : List Bytes) : ∀ m s, Mono s (PS.args term bs m s).2
  | 0, s => .refl
  | m + 1, s => by
    unfold PS.args
    split
    · exact (atom_mono ht bs s).trans (args_mono bs m _)
    · exact .refl
theorem atoms_mono (bs : List Bytes) (s : PS) : Mono s (s.atoms term bs).2 := by
  unfold PS.atoms
  split
  · exact (inner_mono ht bs s).trans (alone_mono _)
  · dsimp only
    split
    · exact name_mono s
    · split
      · exact (name_mono s).trans (alone_mono _)
      · exact ((name_mono s).trans (head_mono _ _ _)).trans (args_mono ht bs _ _)
theorem atom_lt {bs : List Bytes} {s : PS} (h : (s.named || s.is [40]) = true) : (s.atom term bs).2.l.length < s.l.length := by
  unfold PS.atom
  cases hi : s.is [40] with
  | true =>
    obtain ⟨r, hl, he, htk⟩ := take_yes hi
    rw [if_pos rfl]
    unfold PS.inner
    rw [htk]
    have h1 := (ht bs ⟨r, s.s, 0⟩).len
    have h2 := (take_mono [41] (term bs ⟨r, s.s, 0⟩).2).len
    rw [hl]
    simp only [List.length_cons] at *
    omega
  | false =>
    rw [hi, Bool.or_false] at h
    obtain ⟨x, r, hl, he, hn⟩ := name_yes h
    rw [if_neg (by simp), hn]
    dsimp only
    rw [hl]
    split
    · rw [fail_l]; simp
    · have := (head_mono x bs ⟨r, s.s, 0⟩).len
      simp only [List.length_cons] at *
      omega
end
theorem term_mono : ∀ n bs s, Mono s (PS.term n bs s).2
  | 0, bs, s => fail_mono 4 s
  | n + 1, bs, s => by
    have ih := term_mono n
    unfold PS.term
    split
    · exact (((((take_mono _ s).trans (name_mono _)).trans (take_mono _ _)).trans (ih _ _)).trans (take_mono _ _)).trans (ih _ _)
    · split
      · exact (((take_mono _ s).trans (name_mono _)).trans (take_mono _ _)).trans (ih _ _)
      · exact atoms_mono ih bs s
theorem whole_mono (s : PS) : Mono s s.whole.2 := by
  unfold PS.whole
  dsimp only
  split
  · exact term_mono _ _ _
  · exact (term_mono _ _ _).trans (fail_mono 4 _)

/-! ### no more nodes than tokens allow -/
section
open Go.AM
variable {term : List Bytes → PS → T × PS} (ht : ∀ bs s, Mono s (term bs s).2) (hz : ∀ bs s, (term bs s).1.size + 2 * (term bs s).2.l.length ≤ 2 * s.l.length + 1)
include hz
theorem inner_size {bs : List Bytes} {s : PS} (h : s.is [40] = true) : (s.inner term bs).1.size + 2 * (s.inner term bs).2.l.length + 1 ≤ 2 * s.l.length := by
  obtain ⟨r, hl, he, htk⟩ := take_yes h
  unfold PS.inner
  rw [htk]
  have h1 := hz bs ⟨r, s.s, 0⟩
  have h2 := (take_mono [41] (term bs ⟨r, s.s, 0⟩).2).len
  rw [hl]
  simp only [List.length_cons] at *
  omega
theorem atom_size {bs : List Bytes} {s : PS} (h : (s.named || s.is [40]) = true) : (s.atom term bs).1.size + 2 * (s.atom term bs).2.l.length + 1 ≤ 2 * s.l.length := by
  unfold PS.atom
  cases hi : s.is [40] with
  | true => rw [if_pos rfl]; exact inner_size hz hi
  | false =>
    rw [hi, Bool.or_false] at h
    obtain ⟨x, r, hl, he, hn⟩ := name_yes h
    rw [if_neg (by simp), hn]
    dsimp only
    rw [hl]
    split
    · rw [fail_l]; simp [T.size, sizes]; omega
    · have h1 := (head_mono x bs ⟨r, s.s, 0⟩).len
      have h2 := head_args x bs ⟨r, s.s, 0⟩
      generalize (PS.head x bs ⟨r, s.s, 0⟩) = q at *
      obtain ⟨⟨k, h, zs⟩, q2⟩ := q
      simp only [T.args] at h2
      subst h2
      simp only [List.length_cons, T.size, sizes] at *
      omega
theorem args_size' (bs : List Bytes) : ∀ m s, sizes (PS.args term bs m s).1 + 2 * (PS.args term bs m s).2.l.length ≤ 2 * s.l.length
  | 0, s => by simp [PS.args, sizes]
  | m + 1, s => by
    unfold PS.args
    split
    · rename_i h
      have h1 := atom_size hz (bs := bs) h
      have h2 := args_size' bs m (s.atom term bs).2
      simp only [sizes]
      omega
    · simp [sizes]
theorem atoms_size (bs : List Bytes) (s : PS) : (s.atoms term bs).1.size + 2 * (s.atoms term bs).2.l.length ≤ 2 * s.l.length + 1 := by
  unfold PS.atoms
  split
  · rename_i h
    have h1 := inner_size hz (bs := bs) h
    have h2 := (alone_mono (s.inner term bs).2).len
    dsimp only
    omega
  · dsimp only
    have h1 := (name_mono s).len
    split
    · simp [T.size, sizes]; omega
    · split
      · have h2 := (alone_mono s.name.2).len
        simp [T.size, sizes]; omega
      · have h2 := (head_mono s.name.1 bs s.name.2).len
        have h3 := args_size' hz bs (PS.head s.name.1 bs s.name.2).2.l.length (PS.head s.name.1 bs s.name.2).2
        simp only [T.size]; omega
end
theorem term_size : ∀ n bs s, (PS.term n bs s).1.size + 2 * (PS.term n bs s).2.l.length ≤ 2 * s.l.length + 1
  | 0, bs, s => by simp only [PS.term, fail_l]; simp [T.size, T.size, Go.AM.sizes]; omega
  | n + 1, bs, s => by
    have ih := term_size n
    unfold PS.term
    split
    · rename_i h
      obtain ⟨r, hl, he, htk⟩ := take_yes h
      dsimp only
      have h1 := (name_mono (s.take [123])).len
      have h2 := (take_mono [58] (s.take [123]).name.2).len
      have h3 := ih bs ((s.take [123]).name.2.take [58])
      have h4 := (take_mono [125] (PS.term n bs ((s.take [123]).name.2.take [58])).2).len
      have h5 := ih ((s.take [123]).name.1 :: bs) ((PS.term n bs ((s.take [123]).name.2.take [58])).2.take [125])
      have h6 : (s.take [123]).l.length + 1 = s.l.length := by rw [htk, hl]; rfl
      simp only [T.size, Go.AM.sizes]
      omega
    · split
      · rename_i h
        obtain ⟨r, hl, he, htk⟩ := take_yes h
        dsimp only
        have h1 := (name_mono (s.take [91])).len
        have h2 := (take_mono [93] (s.take [91]).name.2).len
        have h5 := ih ((s.take [91]).name.1 :: bs) ((s.take [91]).name.2.take [93])
        have h6 : (s.take [91]).l.length + 1 = s.l.length := by rw [htk, hl]; rfl
        simp only [T.size, Go.AM.sizes]
        omega
      · exact atoms_size ih bs s
theorem whole_size (s : PS) : s.whole.1.size ≤ 2 * s.l.length + 1 := by
  have := term_size 120 [] s
  unfold PS.whole
  dsimp only
  omega

/-! ### declarations -/
theorem fail_err8 {s : PS} : (s.fail 8).e ≠ 0 := fail_ne (by decide) s
theorem decl_mono (s : PS) : s.decl.l <:+ s.l ∧ s.decl.s.length = s.s.length + 1 ∧ (s.l ≠ [] → s.e = 0 → s.decl.l.length < s.l.length ∨ s.decl.e ≠ 0) := by
  unfold PS.decl
  dsimp only
  have m1 := name_mono s
  have key : ∀ s2 : PS, Mono s.name.2 s2 → ((s2.take [58]).whole.2.take [46]).l <:+ s.l ∧ (((s2.take [58]).whole.2.take [46]).s ++ [(⟨s.name.1, (s2.take [58]).whole.1⟩ : D)]).length = s.s.length + 1 ∧
      (s.l ≠ [] → s.e = 0 → ((s2.take [58]).whole.2.take [46]).l.length < s.l.length ∨ ((s2.take [58]).whole.2.take [46]).e ≠ 0) := by
    intro s2 h
    have m2 := h.trans (((take_mono [58] s2).trans (whole_mono _)).trans (take_mono [46] _))
    have m3 := m1.trans m2
    refine ⟨m3.suf, by simp [m3.sig], fun _ he => ?_⟩
    cases hn : s.named with
    | true =>
      obtain ⟨x, r, hl, _, ht⟩ := name_yes hn
      left
      have := m2.len
      rw [ht] at this
      rw [hl]
      simp only [List.length_cons] at *
      omega
    | false =>
      right
      have h1 : s.name.2.e ≠ 0 := by rw [name_no hn]; exact fail_err8
      rw [m2.err h1]
      exact h1
  split
  · exact key _ (fail_mono 8 _)
  · exact key _ .refl
end Go.Ama

/-! Terms that are read. -/
namespace Go.Proofs.SW
open Go Go.AM Go.Ama

/-- The reader reads terms of so many levels. -/
def TermOK (n : Nat) : Prop := ∀ (m : AM.Mode) (s : PS) (bs : List Bytes), bs.length + n ≤ 1000 → s.l.length ≤ 100000 → s.s.length ≤ 1000 →
  W.call 63 [.ref 0 0, .vec .plain none (encS bs.reverse), .int (121 - (n : Nat))] [boxP m s] = some (.ret (enc (s.term n bs).1), [boxP m (s.term n bs).2])

theorem lit_eq (c : Bytes) : V.str { data := c.toArray } = V.str (ba c) := rfl

section
variable {n : Nat} (hn : n ≤ 119) (ht : TermOK n)
include hn ht

theorem inner_spec (m : AM.Mode) (s : PS) (bs : List Bytes) (hb : bs.length + n ≤ 1000) (hl : s.l.length ≤ 100000) (hs : s.s.length ≤ 1000) :
    W.call 86 [.ref 0 0, .vec .plain none (encS bs.reverse), .int (120 - (n : Nat))] [boxP m s] = some (.ret (enc (s.inner (PS.term n) bs).1), [boxP m (s.inner (PS.term n) bs).2]) := by
  have hm := take_mono [40] s
  have hw : IntKind.i64.wrap (120 - (n : Nat) + 1) = 121 - (n : Nat) := by rw [wrap_id ⟨by omega, by omega⟩]; omega
  rw [C, e_parse_reader_inner, show V.str { data := #[40] } = V.str (ba [40]) from rfl, show V.str { data := #[41] } = V.str (ba [41]) from rfl,
    take_spec, obind_some', onRet_ret, onTup_tup, onNil_nil, hw, ht m (s.take [40]) bs hb (by have := hm.len; omega) (by rw [hm.sig]; exact hs), obind_some', onRet_ret, onStruct_enc, take_spec, obind_some', onRet_ret, onTup_tup, onNil_nil, ← enc_eta]
  rfl

theorem typ_lit (x : Bytes) : ((ba x).toList == ByteArray.toList { data := #[116, 121, 112, 101] }) = decide (x = typ) := ba_eq x typ

theorem cleanV_encF {s : PS} {x : Bytes} {bs : List Bytes} : cleanV (encF (s.head x bs).1) = enc (s.head x bs).1 := by
  have h := head_args x bs s
  generalize (s.head x bs).1 = t at *
  obtain ⟨k, h', zs⟩ := t
  simp only [T.args] at h
  subst h
  rfl

theorem atom_spec (m : AM.Mode) (s : PS) (bs : List Bytes) (hb : bs.length + n ≤ 1000) (hl : s.l.length ≤ 100000) (hs : s.s.length ≤ 1000) :
    W.call 88 [.ref 0 0, .vec .plain none (encS bs.reverse), .int (120 - (n : Nat))] [boxP m s] = some (.ret (enc (s.atom (PS.term n) bs).1), [boxP m (s.atom (PS.term n) bs).2]) := by
  have hm := name_mono s
  unfold PS.atom
  rw [C, e_parse_reader_atom, show V.str { data := #[40] } = V.str (ba [40]) from rfl, is_spec, obind_some', onRet_ret, onBool_bool]
  cases hi : s.is [40] with
  | true =>
    rw [bc_true, inner_spec hn ht m s bs hb hl hs, obind_some', onRet_ret, onStruct_enc, ← enc_eta]
    rfl
  | false =>
    rw [bc_false, name_spec', obind_some', onRet_ret, onStr_str, typ_lit hn ht]
    by_cases hx : s.name.1 = typ
    · simp only [hx, decide_true, bc_true, fail_spec]
      rfl
    · simp only [hx, decide_false, bc_false]
      rw [head_spec m s.name.2 s.name.1 bs (by omega) (by rw [hm.sig]; omega), obind_some', onRet_ret, cleanV_encF hn ht, onStruct_enc, ← enc_eta]
      simp only [Bool.false_eq_true, if_false]
      rfl

theorem args_spec (m : AM.Mode) (bs : List Bytes) (hb : bs.length + n ≤ 1000) (k h : Int) (v6 : V) : ∀ (q : Nat) (s : PS) (xs : List T), s.l.length ≤ q → s.l.length + xs.length ≤ 100000 → s.s.length ≤ 1000 →
    W.loop 76 9 [.loc true (some 3) (.agg [.int k, .int h, .vec .grow (some 3) (encs xs)]), .int (120 - (n : Nat)), .vec .plain none (encS bs.reverse), .ref 0 0, .loc true (some 3) v6] [boxP m s] =
      some (Ex.exit 1, [.loc true (some 3) v6, .loc true (some 3) (.agg [.int k, .int h, .vec .grow (some 3) (encs (xs ++ (PS.args (PS.term n) bs q s).1))])], [boxP m (PS.args (PS.term n) bs q s).2]) := by
  intro q
  induction q with
  | zero =>
    intro s xs hq hl hs
    have hnil : s.l = [] := List.eq_nil_of_length_eq_zero (by omega)
    have h1 : s.named = false := by simp [PS.named, hnil]
    have h2 : s.is [40] = false := by simp [PS.is, hnil]
    rw [L, e_parse_reader_atoms_L9, named_spec', obind_some', onRet_ret, onBool_bool, h1, bc_false, show V.str { data := #[40] } = V.str (ba [40]) from rfl, is_spec, obind_some', onRet_ret, onBool_bool, h2, bc_false]
    simp [PS.args]
  | succ q ih =>
    intro s xs hq hl hs
    have hr : roomFor Tryd.prog 24 (xs.length + 1) = true := room24 (by omega)
    have go : (s.named || s.is [40]) = true → obind (W.call 88 [V.ref 0 0, V.vec .plain none (encS bs.reverse), V.int (120 - (n : Nat))] [boxP m s])
        (fun r4 => onRet r4.fst (fun v5 => onStruct [CT.int, CT.int, CT.slice (some 3)] v5 fun n6 n7 l8 => gd (true && roomFor Tryd.prog 24 ((encs xs).length + [V.agg [V.int n6, V.int n7, V.vec .plain (some 3) l8]].length))
          (W.loop 76 9 [V.loc true (some 3) (V.agg [V.int k, V.int h, V.vec Mode.grow (some 3) (encs xs ++ [V.agg [V.int n6, V.int n7, V.vec .plain (some 3) l8]])]), V.int (120 - (n : Nat)), V.vec .plain none (encS bs.reverse), V.ref 0 0, V.loc true (some 3) v6] r4.snd)) fun p9 => none) =
        some (Ex.exit 1, [.loc true (some 3) v6, .loc true (some 3) (.agg [.int k, .int h, .vec .grow (some 3) (encs (xs ++ (PS.args (PS.term n) bs (q + 1) s).1))])], [boxP m (PS.args (PS.term n) bs (q + 1) s).2]) := by
      intro hc
      have hm := atom_mono (term_mono n) bs s
      have hlt := atom_lt (term_mono n) (bs := bs) hc
      rw [atom_spec hn ht m s bs hb (by omega) hs, obind_some', onRet_ret, onStruct_enc, ← enc_eta]
      simp only [encs_length, List.length_singleton, hr, Bool.and_self, gd_true]
      have := ih (s.atom (PS.term n) bs).2 (xs ++ [(s.atom (PS.term n) bs).1]) (by omega) (by simp; omega) (by rw [hm.sig]; exact hs)
      rw [encs_append, show encs [(s.atom (PS.term n) bs).1] = [enc (s.atom (PS.term n) bs).1] from rfl] at this
      rw [this]
      unfold PS.args
      rw [if_pos hc]
      simp only [List.append_assoc, List.singleton_append]
      cases q <;> rfl
    rw [L, e_parse_reader_atoms_L9, named_spec', obind_some', onRet_ret, onBool_bool]
    cases h1 : s.named with
    | true => rw [bc_true]; exact go (by simp [h1])
    | false =>
      rw [bc_false, show V.str { data := #[40] } = V.str (ba [40]) from rfl, is_spec, obind_some', onRet_ret, onBool_bool]
      cases h2 : s.is [40] with
      | true => rw [bc_true]; exact go (by simp [h2])
      | false =>
        rw [bc_false]
        simp [PS.args, h1, h2]

theorem atoms_spec (m : AM.Mode) (s : PS) (bs : List Bytes) (hb : bs.length + n ≤ 1000) (hl : s.l.length ≤ 100000) (hs : s.s.length ≤ 1000) :
    W.call 76 [.ref 0 0, .vec .plain none (encS bs.reverse), .int (120 - (n : Nat))] [boxP m s] = some (.ret (enc (s.atoms (PS.term n) bs).1), [boxP m (s.atoms (PS.term n) bs).2]) := by
  have hm := name_mono s
  unfold PS.atoms
  rw [C, e_parse_reader_atoms, show V.str { data := #[40] } = V.str (ba [40]) from rfl, is_spec, obind_some', onRet_ret, onBool_bool]
  cases hi : s.is [40] with
  | true =>
    rw [bc_true, inner_spec hn ht m s bs hb hl hs, obind_some', onRet_ret, onStruct_enc, ← enc_eta, alone_spec, obind_some', onRet_ret, onStruct_enc, ← enc_eta]
    rfl
  | false =>
    have hget : ∀ {R : Type} (K : Res → Option R) (s : PS), getR [boxP m s] 0 K = K (boxP m s) := fun K s => rfl
    have h3g : ∀ {R : Type} (a b c : V) (X : Option R), gd (decide (3 ≤ [a, b, c].length) && true) X = X := fun a b c X => rfl
    have hc : ∀ (s : PS), cleanV (AM.partOf [V.vec .plain (some 2) (encToks s.l), V.vec m (some 4) (encDs s.s), V.int s.e] 2 none) = .int s.e := fun s => rfl
    rw [bc_false, name_spec', obind_some', onRet_ret, onStr_str, hget, boxP, onBox_box, ← boxP, h3g, hc, onInt_int, typ_lit hn ht, bne_int]
    by_cases he : s.name.2.e = 0
    · by_cases hx : s.name.1 = typ
      · simp only [he, hx, decide_true, Bool.not_true, bc_false, bc_true, ne_eq, not_true_eq_false, if_true, if_false, Bool.false_eq_true]
        rw [show V.agg [V.int 0, V.int 0, V.vec .plain (some 3) []] = enc T0 from rfl, alone_spec, obind_some', onRet_ret, onStruct_enc, ← enc_eta]
        rfl
      · simp only [he, hx, decide_true, decide_false, Bool.not_true, bc_false, ne_eq, not_true_eq_false, if_false, Bool.false_eq_true]
        have hh := head_mono s.name.1 bs s.name.2
        have ha := head_args s.name.1 bs s.name.2
        rw [head_spec m s.name.2 s.name.1 bs (by omega) (by rw [hm.sig]; omega), obind_some', onRet_ret]
        have hon : ∀ {R : Type} (t : T) (K : Int → Int → Option R), onStruct (R := R) [CT.int, CT.int, CT.nil (some 3)] (encF t) K = K t.k t.h := fun t K => rfl
        rw [hon]
        have hlp := args_spec hn ht m bs hb (s.name.2.head s.name.1 bs).1.k (s.name.2.head s.name.1 bs).1.h (V.agg [V.int 0, V.int 0, V.vec Mode.full (some 3) []]) (s.name.2.head s.name.1 bs).2.l.length (s.name.2.head s.name.1 bs).2 [] (Nat.le_refl _)
          (by have h1 := hm.len; have h2 := hh.len; simp only [List.length_nil]; omega) (by rw [hh.sig, hm.sig]; exact hs)
        rw [show encs [] = ([] : List V) from rfl, List.nil_append] at hlp
        rw [hlp, obind_some', onEx_exit]
        rfl
    · simp only [he, decide_false, Bool.not_false, bc_true, ne_eq, not_false_eq_true, if_true, if_false, Bool.false_eq_true]
      rfl

theorem below_spec (m : AM.Mode) (s : PS) (x : Bytes) (bs : List Bytes) (hb : bs.length + 1 + n ≤ 1000) (hl : s.l.length ≤ 100000) (hs : s.s.length ≤ 1000) :
    W.call 75 [.ref 0 0, .str (ba x), .vec .plain none (encS bs.reverse), .int (120 - (n : Nat))] [boxP m s] = some (.ret (enc (s.term n (x :: bs)).1), [boxP m (s.term n (x :: bs)).2]) := by
  have hw : IntKind.i64.wrap (120 - (n : Nat) + 1) = 121 - (n : Nat) := by rw [wrap_id ⟨by omega, by omega⟩]; omega
  have hr : roomFor Tryd.prog 9 (bs.length + 1) = true := room_string (by omega)
  have h1 : ∀ z : Int, decide (z = z) = true := fun z => by simp
  have h2 : ∀ z : Int, decide (z ≤ z) = true := fun z => by simp
  have h3 : ∀ z : Nat, decide ((0 : Int) ≤ (z : Nat)) = true := fun z => by simp
  have := ht m s (x :: bs) (by simpa using hb) hl hs
  rw [List.reverse_cons, encS_append, show encS [x] = [V.str (ba x)] from rfl] at this
  rw [C, e_parse_reader_below]
  have h4 : List.take bs.length (encS bs.reverse) = encS bs.reverse := List.take_of_length_le (by simp)
  simp only [h1, h2, h3, h4, decide_true, Option.isSome_some, Int.toNat_natCast, List.drop_zero, encS_length, List.length_reverse, List.length_singleton, hr, Bool.and_self, gd_true, hw]
  rw [this, obind_some', onRet_ret, onStruct_enc, ← enc_eta]
  rfl
end

theorem term_ok : ∀ n : Nat, n ≤ 120 → TermOK n
  | 0, _ => fun m s bs _ _ _ => by
    rw [C, e_parse_reader_term]
    rw [show decide ((121 : Int) - ((0 : Nat) : Int) > 120) = true from rfl, bc_true, fail_spec, obind_some']
    rfl
  | n + 1, hn => fun m s bs hb hl hs => by
    have ih := term_ok n (by omega)
    have hd : ((121 : Int) - ((n + 1 : Nat) : Int)) = 120 - (n : Nat) := by omega
    have hgt : decide ((120 : Int) - (n : Nat) > 120) = false := by simp; omega
    have hw : IntKind.i64.wrap (120 - (n : Nat) + 1) = 121 - (n : Nat) := by rw [wrap_id ⟨by omega, by omega⟩]; omega
    unfold PS.term
    rw [hd, C, e_parse_reader_term, hgt, bc_false, show V.str { data := #[123] } = V.str (ba [123]) from rfl, show V.str { data := #[58] } = V.str (ba [58]) from rfl, show V.str { data := #[125] } = V.str (ba [125]) from rfl,
      show V.str { data := #[91] } = V.str (ba [91]) from rfl, show V.str { data := #[93] } = V.str (ba [93]) from rfl, is_spec, obind_some', onRet_ret, onBool_bool]
    cases h1 : s.is [123] with
    | true =>
      have m1 := (take_mono [123] s).trans (name_mono _)
      have m2 := m1.trans (take_mono [58] _)
      have m3 := m2.trans (term_mono n bs _)
      have m4 := m3.trans (take_mono [125] _)
      rw [bc_true, take_spec, obind_some', onRet_ret, onTup_tup, onNil_nil, name_spec', obind_some', onRet_ret, onStr_str, take_spec, obind_some', onRet_ret, onTup_tup, onNil_nil, hw,
        ih m _ bs (by omega) (by have := m2.len; omega) (by rw [m2.sig]; exact hs), obind_some', onRet_ret, onStruct_enc, take_spec, obind_some', onRet_ret, onTup_tup, onNil_nil,
        below_spec (by omega) ih m _ _ bs (by omega) (by have := m4.len; omega) (by rw [m4.sig]; exact hs), obind_some', onRet_ret, onStruct_enc, ← enc_eta, ← enc_eta]
      rfl
    | false =>
      rw [bc_false, is_spec, obind_some', onRet_ret, onBool_bool]
      cases h2 : s.is [91] with
      | true =>
        have m1 := (take_mono [91] s).trans (name_mono _)
        have m2 := m1.trans (take_mono [93] _)
        rw [bc_true, take_spec, obind_some', onRet_ret, onTup_tup, onNil_nil, name_spec', obind_some', onRet_ret, onStr_str, take_spec, obind_some', onRet_ret, onTup_tup, onNil_nil,
          below_spec (by omega) ih m _ _ bs (by omega) (by have := m2.len; omega) (by rw [m2.sig]; exact hs), obind_some', onRet_ret, onStruct_enc, ← enc_eta]
        rfl
      | false =>
        rw [bc_false, atoms_spec (by omega) ih m s bs (by omega) hl hs, obind_some', onRet_ret, onStruct_enc, ← enc_eta]
        rfl
end Go.Proofs.SW

/-! Declarations that are read. -/
namespace Go.Proofs.SW
open Go Go.AM Go.Ama

theorem whole_spec (m : AM.Mode) (s : PS) (hl : s.l.length ≤ 100000) (hs : s.s.length ≤ 1000) :
    W.call 39 [.ref 0 0] [boxP m s] = some (.ret (enc s.whole.1), [boxP m s.whole.2]) := by
  have hz := term_size 120 [] s
  have ht := term_ok 120 (Nat.le_refl _) m s [] (by simp) hl hs
  rw [show encS ([] : List Bytes).reverse = [] from rfl, show ((121 : Int) - ((120 : Nat) : Int)) = 1 from rfl] at ht
  unfold PS.whole
  rw [C, e_parse_reader_whole, ht, obind_some', onRet_ret, onStruct_enc, ← enc_eta, (pmay_spec _ (by omega)).p, obind_some', onBool_bool]
  dsimp only
  cases hmy : may (PS.term 120 [] s).1 with
  | true => rfl
  | false =>
    rw [Bool.not_false, bc_true, fail_spec, obind_some', onRet_ret, onTup_tup, onNil_nil]
    rfl

theorem tok_self (x : Bytes) (k : Int) (y : Bytes) : (k == 0 && (ba y).toList == (ba x).toList) = decide ((k, y) = ((0 : Int), x)) := by
  rw [ba_eq, beq_int]
  by_cases h1 : k = 0 <;> by_cases h2 : y = x <;> simp [h1, h2]

theorem getDl (x : Bytes) (h : 0 < x.length) : (((ba x).data.toList.getD (Int.toNat 0) 0).toNat : Int) = (x[0].toNat : Int) := by
  rw [Int.toNat_zero, byteAt h]

theorem Name_spec (x : Bytes) (hx : x.length ≤ 1048576) : Ev 15 [.str (ba x)] (.bool (nameOK x)) := by
  unfold Ev nameOK
  rw [C, e_parse_Name, ba_size]
  by_cases h0 : x.length = 0
  · have : ((x.length : Int) == 0) = true := by simp [h0]
    rw [this, bc_true]; simp [h0]
  · have h0' : ((x.length : Int) == 0) = false := by simp [h0]
    rw [h0', bc_false]
    by_cases h40 : x.length ≤ 40
    · have h40' : decide ((x.length : Int) > 40) = false := by simp; omega
      have hp : decide ((0 : Int) < (x.length : Int)) = true := by simp; omega
      rw [h40', bc_false, hp, Bool.true_and, gd_true, getDl x (by omega), beq_int]
      have hh : x.head? = some x[0] := by rw [List.head?_eq_getElem?, List.getElem?_eq_getElem (by omega)]
      by_cases h95 : x[0] = 95
      · have : decide ((x[0].toNat : Int) = 95) = true := by rw [h95]; rfl
        rw [this, bc_true]; simp [hh, h95]
      · have : decide ((x[0].toNat : Int) = 95) = false := by
          simp only [decide_eq_false_iff_not]
          intro h
          apply h95
          apply UInt8.toNat_inj.1
          have : (95 : UInt8).toNat = 95 := rfl
          omega
        rw [this, bc_false, show ByteArray.toList { data := #[116, 121, 112, 101] } = (ba typ).toList from rfl, ba_eq]
        by_cases ht : x = typ
        · simp only [ht, decide_true, bc_true]; simp
        · have hr : lexRes x = match toks x with | some l => (some l, 0) | none => (none, 8) := by unfold lexRes; rw [if_neg (by omega)]; cases toks x <;> rfl
          have hne : decide (x.head? ≠ some 95) = true := by rw [hh]; simp [h95]
          have hts := tokens_spec x hx
          rw [hr] at hts
          simp only [ht, decide_false, bc_false, bytesV_ba, h0, h40, hne, ne_eq, not_false_eq_true, decide_true, Bool.true_and, Bool.not_false]
          cases htk : toks x with
          | none =>
            rw [htk] at hts
            rw [hts.p (by simp [belowL, below, below_encB]) (by simp [encRes, below, belowL, below_encToks])]
            simp [encRes, bc]
          | some l =>
            rw [htk] at hts
            rw [hts.p (by simp [belowL, below, below_encB]) (by simp [encRes, below, belowL, below_encToks])]
            simp only [encRes, Option.getD_some, obind_some', onTup_tup, onCons_cons, onVec_plain, onInt_int, onNil_nil, beq_self_eq_true, bc_true, encToks_length]
            match l with
            | [] => simp [bc]
            | [t] =>
              obtain ⟨k, y⟩ := t
              rw [getI_tok0, onStruct_tok, tok_self]
              simp [bc]
            | t :: u :: l =>
              have : (((t :: u :: l : List Tok).length : Int) == 1) = false := by simp; omega
              rw [this, bc_false]; simp
    · have h40' : decide ((x.length : Int) > 40) = true := by simp; omega
      rw [h40', bc_true]; simp [h40]

theorem tail_spec (m : AM.Mode) (hm : m = .grow ∨ m = .full) (x : Bytes) (s0 s : PS) (hl : s.l.length ≤ 100000) (hs : s.s.length ≤ 999) :
    (obind (W.call 73 [V.ref 0 0, V.str { data := #[58] }] [boxP m s]) fun r9 => onRet r9.fst (fun v10 => onTup v10 fun c11 => onNil c11 (obind (W.call 39 [V.ref 0 0] r9.snd) fun r12 => onRet
      r12.fst (fun v13 => onStruct [CT.int, CT.int, CT.slice (some 3)] v13 fun n14 n15 l16 => obind (W.call 73 [V.ref 0 0, V.str { data := #[46] }] r12.snd) fun r17 =>
      onRet r17.fst (fun v18 => onTup v18 fun c19 => onNil c19 (getR r17.snd 0 fun x20 => onBox x20 fun c21 => gd (decide (1 < c21.length) && true && true) (onRoom2 (some 4) (c21.getD
      1 V.undef) (fun l22 => gd (true && roomFor Tryd.prog 36 (l22.length + [V.agg [V.str (ba x), V.int n14, V.int n15, V.vec .plain (some 3) l16]].length)) (getR (List.set
      r17.snd 0 (Res.box (c21.set 1 (V.vec .plain (some 4) l22)))) 0 fun x23 => onBox x23 fun c24 => gd (decide (2 ≤ c24.length) && true) (gcE (List.length [boxP m s0]) (V.tup []) ((List.set
      r17.snd 0 (Res.box (c21.set 1 (V.vec .plain (some 4) l22)))).set 0 (Res.box (setCells c24 1 [V.vec Mode.grow (some 4) (l22 ++ [V.agg [V.str (ba x), V.int n14, V.int n15, V.vec
      .plain (some 3) l16]])])))))) fun l25 => gd (true && roomFor Tryd.prog 36 (l25.length + [V.agg [V.str (ba x), V.int n14, V.int n15, V.vec .plain (some 3) l16]].length))
      (getR (List.set r17.snd 0 (Res.box (c21.set 1 (V.vec .plain (some 4) l25)))) 0 fun x26 => onBox x26 fun c27 => gd (decide (2 ≤ c27.length) && true) (gcE (List.length [boxP m s0]) (V.tup
      []) ((List.set r17.snd 0 (Res.box (c21.set 1 (V.vec .plain (some 4) l25)))).set 0 (Res.box (setCells c27 1 [V.vec Mode.grow (some 4) (l25 ++ [V.agg [V.str (ba x), V.int n14, V.int
      n15, V.vec .plain (some 3) l16]])])))))))) fun p28 => none) fun p29 => none)) fun p30 => none) =
    some (.ret (.tup []), [boxP .grow { (s.take [58]).whole.2.take [46] with s := ((s.take [58]).whole.2.take [46]).s ++ [⟨x, (s.take [58]).whole.1⟩] }]) := by
  have m1 := take_mono [58] s
  have m2 := m1.trans (whole_mono _)
  have m3 := m2.trans (take_mono [46] _)
  rw [show V.str { data := #[58] } = V.str (ba [58]) from rfl, show V.str { data := #[46] } = V.str (ba [46]) from rfl, take_spec, obind_some', onRet_ret, onTup_tup, onNil_nil,
    whole_spec m _ (by have := m1.len; omega) (by rw [m1.sig]; omega), obind_some', onRet_ret, onStruct_enc, take_spec, obind_some', onRet_ret, onTup_tup, onNil_nil]
  have hz : ((s.take [58]).whole.2.take [46]).s.length ≤ 999 := by rw [m3.sig]; exact hs
  generalize (s.take [58]).whole.2.take [46] = q at *
  generalize (s.take [58]).whole.1 = t at *
  have hr : roomFor Tryd.prog 36 (q.s.length + 1) = true := room_decl (by omega)
  have hap : encDs q.s ++ [V.agg [V.str (ba x), V.int t.k, V.int t.h, V.vec .plain (some 3) (encs t.args)]] = encDs (q.s ++ [⟨x, t⟩]) := by rw [encDs_append]; rfl
  have hget : ∀ {R : Type} (y : Res) (K : Res → Option R), getR [y] 0 K = K y := fun y K => rfl
  have h1g : ∀ {R : Type} (a b c : V) (X : Option R), gd (decide (1 < [a, b, c].length) && true && true) X = X := fun a b c X => rfl
  have h2g : ∀ {R : Type} (a b c : V) (X : Option R), gd (decide (2 ≤ [a, b, c].length) && true) X = X := fun a b c X => rfl
  have hset : ∀ (y z : Res), List.set [y] 0 z = [z] := fun y z => rfl
  have hcs : ∀ a b c d : V, [a, b, c].set 1 d = [a, d, c] := fun a b c d => rfl
  have hsc : ∀ a b c d : V, setCells [a, b, c] 1 [d] = [a, d, c] := fun a b c d => rfl
  have hgD : ∀ a b c : V, [a, b, c].getD 1 V.undef = b := fun a b c => rfl
  rcases hm with rfl | rfl
  · simp only [boxP, hget, onBox_box, h1g, hgD, onRoom2_grow, encDs_length, List.length_singleton, hr, Bool.and_self, gd_true, hset, hcs, h2g, hsc, hap]
    exact gcE_len rfl
  · simp only [boxP, hget, onBox_box, h1g, hgD, onRoom2_full, encDs_length, List.length_singleton, hr, Bool.and_self, gd_true, hset, hcs, h2g, hsc, hap]
    exact gcE_len rfl

end Go.Proofs.SW

/-! The text of a term, and of declarations. -/
namespace Go.Proofs.SW
open Go Go.AM Go.Ama

theorem room_far {n : Nat} (h : n ≤ 1000000000000) : roomFor Tryd.prog 5 n = true := by
  have : ((Tryd.prog.info? 5).map (·.bytes)).getD 0 = 1 := by kernel_rfl
  unfold roomFor
  rw [this]
  simp only [Bool.and_eq_true, decide_eq_true_eq]
  omega

theorem showT_len {sig : List D} (hs : ∀ d ∈ sig, d.name.length ≤ 100) (t : T) : (showT t sig).1.length ≤ 480000 := by
  unfold showT
  split
  · rename_i hm
    unfold may at hm
    simp only [Bool.and_eq_true, decide_eq_true_eq] at hm
    split
    · have h1 := words_len (sig := sig) t 0
      have h2 := words_weight hs t 0 hm.1 (by omega)
      have h3 := textFrom_length (words sig t 0) 1
      show (text (words sig t 0)).length ≤ _
      unfold text
      omega
    · simp
  · simp

theorem showTerm_spec {sig : List D} (hsig : sig.length ≤ 1000) (hs : ∀ d ∈ sig, d.name.length ≤ 100) (t : T) (ht : t.size ≤ 1099511627776) :
    Ev 11 [enc t, .vec .plain (some 4) (encDs sig)] (.tup [.vec .plain none (encB (showT t sig).1), .int (showT t sig).2]) := by
  unfold Ev
  have hmay := (pmay_spec t ht).p
  rw [enc_eta] at hmay
  rw [C, enc_eta, e_show_Term, hmay, obind_some', onBool_bool]
  unfold showT
  cases hm : may t with
  | false => rfl
  | true =>
    have hm' := hm
    unfold may at hm'
    simp only [Bool.and_eq_true, decide_eq_true_eq] at hm'
    obtain ⟨m', hG, hw⟩ := wterm_spec hsig t 0 .full [] 0 (.inr rfl) hm'.1 (by omega) (by simp; omega)
    rw [enc_eta] at hw
    have hw' : W.call 24 [V.ref 0 0, V.agg [V.int t.k, V.int t.h, V.vec .plain (some 3) (encs t.args)], V.int 0] [Res.box [V.vec .plain (some 4) (encDs sig), V.vec Mode.full (some 2) [], V.int 0]] = _ := hw
    simp only [Bool.not_true, bc_false, if_true]
    rw [hw', obind_some', List.nil_append]
    simp only [onRet_ret, onTup_tup, onNil_nil]
    have e1 : ∀ {α : Type} (ok : Int) (K : List V → Option α), getR [boxW m' sig (words sig t 0) ok] 0 (fun x => onBox x K) = K [.vec .plain (some 4) (encDs sig), .vec m' (some 2) (encToks (words sig t 0)), .int ok] := fun ok K => rfl
    simp only [e1]
    cases ho : okW sig t 0 with
    | false => rfl
    | true =>
      have h1 := words_len (sig := sig) t 0
      have h2 := words_weight hs t 0 hm'.1 (by omega)
      have htx := (text_spec (words sig t 0) (by omega)).p (by simp [belowL, below, below_encToks]) (by simp [below, below_encB])
      have e2 : ∀ {α : Type} (K : List V → Option α), onVec (some 2) (cleanV (AM.partOf [.vec .plain (some 4) (encDs sig), .vec m' (some 2) (encToks (words sig t 0)), .int (bif true then (0 : Int) else 2)] 1 none)) K = K (encToks (words sig t 0)) := by
        intro α K
        rcases hG with rfl | rfl <;> rfl
      simp only [e2, htx, obind_some', onVec_plain]
      have hb : below 0 (V.tup [V.vec .plain none (encB (text (words sig t 0))), V.int 0]) = true := by simp [below, belowL, below_encB]
      rw [hb]
      rfl

/-! ### the count of names -/
theorem ba_beq (a b : Bytes) : (ba a == ba b) = decide (a = b) := by
  by_cases h : a = b
  · subst h; rw [decide_eq_true rfl]; show ByteArray.beq _ _ = true; simp [ByteArray.beq]
  · rw [decide_eq_false h]
    cases hb : ba a == ba b with
    | false => rfl
    | true => exact absurd (ba_inj.1 (str_beq hb)) h
theorem keyEq_ba (a b : Bytes) : keyEq (.str (ba a)) (.str (ba b)) = decide (a = b) := ba_beq a b
theorem find_put (a b : Bytes) (v d : V) : ∀ es : List (V × V), mapFind (mapPut es (.str (ba a)) v) (.str (ba b)) d = if a = b then v else mapFind es (.str (ba b)) d
  | [] => by
    simp only [mapPut, mapFind, keyEq_ba]
    by_cases h : a = b
    · simp [h]
    · have hb : b ≠ a := fun e => h e.symm
      simp [h, hb]
  | (k, u) :: r => by
    simp only [mapPut]
    cases hk : keyEq (.str (ba a)) k with
    | true =>
      simp only [cond_true, mapFind, keyEq_ba]
      by_cases h : a = b
      · simp [h]
      · have hb : b ≠ a := fun e => h e.symm
        cases k <;> try (cases hk; done)
        rename_i s
        have hs : ba a = s := str_beq hk
        subst hs
        simp [h, hb, keyEq_ba]
    | false =>
      simp only [cond_false, mapFind, find_put a b v d r]
      cases hk2 : keyEq (.str (ba b)) k with
      | true =>
        have h : a ≠ b := by rintro rfl; rw [hk] at hk2; cases hk2
        simp [h]
      | false => simp

def Cnt (es : List (V × V)) (l : List D) : Prop := ∀ x, mapFind es (.str (ba x)) (.int 0) = .int (many x l : Nat)
theorem many_snoc (x : Bytes) (l : List D) (d : D) : many x (l ++ [d]) = many x l + (if d.name = x then 1 else 0) := by
  unfold many
  rw [List.filter_append, List.length_append]
  by_cases h : d.name = x <;> simp [h]
theorem many_le (x : Bytes) (l : List D) : many x l ≤ l.length := List.length_filter_le ..

theorem count_loop (l : List D) (hl : l.length ≤ 1000) : ∀ j k es, k + j = l.length → Cnt es (l.take k) →
    ∃ es', Cnt es' l ∧ W.loop 13 3 [.int (k : Nat), .mp 0, .vec .plain (some 4) (encDs l), .vec .plain (some 4) (encDs l), .int (l.length : Nat)] [.map .str .int es] =
      some (.exit 0, [.vec .plain (some 4) (encDs l), .mp 0], [.map .str .int es']) := by
  intro j
  induction j with
  | zero =>
    intro k es hk hc
    have hkl : k = l.length := by omega
    subst hkl
    rw [List.take_length] at hc
    have hlt : decide (((l.length : Nat) : Int) < l.length) = false := by simp
    refine ⟨es, hc, ?_⟩
    rw [L, e_show_Decls_L3, hlt]
    rfl
  | succ j ih =>
    intro k es hk hc
    have hkl : k < l.length := by omega
    have hlt : decide (((k : Nat) : Int) < l.length) = true := by simp; omega
    have hlt2 : (decide ((0 : Int) ≤ (k : Nat)) && decide (((k : Nat) : Int) < ((encDs l).length : Int))) = true := by rw [encDs_length, hlt]; simp
    have hw : IntKind.i64.wrap ((k : Nat) + 1 : Int) = ((k + 1 : Nat) : Int) := wrap_i (by omega) (by omega)
    have hmn := many_le (l[k]).name (l.take k)
    rw [List.length_take] at hmn
    have hw2 : IntKind.i64.wrap (((many (l[k]).name (l.take k) : Nat) : Int) + 1) = ((many (l[k]).name (l.take k) + 1 : Nat) : Int) := wrap_i (by omega) (by omega)
    have hc' : Cnt (mapPut es (.str (ba (l[k]).name)) (.int ((many (l[k]).name (l.take k) + 1 : Nat) : Int))) (l.take (k + 1)) := by
      intro x
      rw [find_put, List.take_succ_eq_append_getElem hkl, many_snoc, hc x]
      by_cases h : (l[k]).name = x
      · subst h; simp
      · simp [h]
    obtain ⟨es', h1, h2⟩ := ih (k + 1) _ (by omega) hc'
    refine ⟨es', h1, ?_⟩
    rw [← h2, L, e_show_Decls_L3, hlt, bc_true, hlt2, gd_true, getI_encDs hkl, onStruct_encD, hc, onInt_int, hw, hw2]

theorem decls_loop' (sig : List D) (hl : sig.length ≤ 1000) (hs : ∀ d ∈ sig, d.name.length ≤ 100 ∧ d.t.size ≤ 1099511627776) (es : List (V × V)) (hc : Cnt es sig) : ∀ j k (all : Bytes), k + j = sig.length → all.length ≤ k * 500000 →
    W.loop 13 9 [.int (k : Nat), .vec .grow none (encB all), .vec .plain (some 4) (encDs sig), .mp 0, .vec .plain (some 4) (encDs sig), .int (sig.length : Nat)] [.map .str .int es] =
      some (if (showsT sig all (sig.drop k)).2 = 0 then (.exit 2, [.vec .grow none (encB (showsT sig all (sig.drop k)).1)], [.map .str .int es]) else (.ret, [.vec .plain none (encB (showsT sig all (sig.drop k)).1), .int (showsT sig all (sig.drop k)).2], [.map .str .int es])) := by
  intro j
  induction j with
  | zero =>
    intro k all hk ha
    have hkl : k = sig.length := by omega
    subst hkl
    have hlt : decide (((sig.length : Nat) : Int) < sig.length) = false := by simp
    rw [L, e_show_Decls_L9, hlt, List.drop_length]
    rfl
  | succ j ih =>
    intro k all hk ha
    have hkl : k < sig.length := by omega
    have hlt : decide (((k : Nat) : Int) < sig.length) = true := by simp; omega
    have hlt2 : (decide ((0 : Int) ≤ (k : Nat)) && decide (((k : Nat) : Int) < ((encDs sig).length : Int))) = true := by rw [encDs_length, hlt]; simp
    have hw : IntKind.i64.wrap ((k : Nat) + 1 : Int) = ((k + 1 : Nat) : Int) := wrap_i (by omega) (by omega)
    have hdr : sig.drop k = sig[k] :: sig.drop (k + 1) := List.drop_eq_getElem_cons hkl
    obtain ⟨hs1, hs2⟩ := hs sig[k] (List.getElem_mem hkl)
    have hN := (Name_spec (sig[k]).name (by omega)).p
    have hT := (showTerm_spec hl (fun d hd => (hs d hd).1) (sig[k]).t hs2).p (by rw [belowL, below_enc]; simp [belowL, below, below_encDs]) (by simp [below, belowL, below_encB])
    rw [enc_eta] at hT
    have hTl := showT_len (sig := sig) (fun d hd => (hs d hd).1) (sig[k]).t
    have hmn := many_le (sig[k]).name sig
    rw [L, e_show_Decls_L9, hlt, bc_true, hlt2, gd_true, getI_encDs hkl, onStruct_encD, hN, obind_some', onBool_bool, hdr]
    simp only [showsT]
    by_cases hn : nameOK (sig[k]).name = true
    case neg =>
      have hn : nameOK (sig[k]).name = false := by simpa using hn
      simp only [hn, Bool.not_false, bc_true, Bool.false_and, Bool.false_eq_true, if_false]
      rfl
    case pos =>
      simp only [hn, Bool.not_true, bc_false, Bool.true_and]
      rw [hc, onInt_int]
      by_cases hmany : many (sig[k]).name sig ≤ 1
      · have hg : decide (((many (sig[k]).name sig : Nat) : Int) > 1) = false := decide_eq_false (by omega)
        rw [hg, bc_false, hT]
        simp only [hmany, decide_true, if_true, obind_some', onTup_tup, onCons_cons, onVec_plain, onInt_int, onNil_nil]
        by_cases h0 : (showT (sig[k]).t sig).2 = 0
        · have hbs : (({ data := #[32, 58, 32] } : ByteArray)) = ba [32, 58, 32] := rfl
          have hbt : (({ data := #[46, 10] } : ByteArray)) = ba [46, 10] := rfl
          have hne : ((showT (sig[k]).t sig).2 != 0) = false := by rw [h0]; rfl
          simp only [hne, bc_false, isU8_encB, gd_true, hbs, hbt, strV_encB, ba_append, ba_size, bytesV_ba, encB_length, List.length_append, List.length_cons, List.length_nil]
          rw [room_far (by omega)]
          have g1 : decide ((sig[k]).name.length + 3 ≤ 9223372036854775807) = true := decide_eq_true (by omega)
          have g2 : decide ((sig[k]).name.length + (0 + 1 + 1 + 1) + (showT (sig[k]).t sig).1.length ≤ 9223372036854775807) = true := decide_eq_true (by omega)
          have g3 : decide ((sig[k]).name.length + (0 + 1 + 1 + 1) + (showT (sig[k]).t sig).1.length + 2 ≤ 9223372036854775807) = true := decide_eq_true (by omega)
          simp only [g1, g2, g3, gd_true, Bool.and_self]
          rw [if_pos h0]
          have he : encB all ++ encB ((sig[k]).name ++ [32, 58, 32] ++ (showT (sig[k]).t sig).1 ++ [46, 10]) = encB (all ++ line (sig[k]).name (showT (sig[k]).t sig).1) := by rw [← encB_append]; rfl
          rw [he, hw]
          exact ih (k + 1) _ (by omega) (by simp only [line, List.length_append, List.length_cons, List.length_nil]; omega)
        · have hne : ((showT (sig[k]).t sig).2 != 0) = true := by simpa using h0
          rw [hne, bc_true]
          simp only [h0, if_false]
          rfl
      · have hg : decide (((many (sig[k]).name sig : Nat) : Int) > 1) = true := decide_eq_true (by omega)
        rw [hg, bc_true]
        simp only [hmany, decide_false]
        rfl

theorem showDecls_spec (sig : List D) (hl : sig.length ≤ 1000) (hs : ∀ d ∈ sig, d.name.length ≤ 100 ∧ d.t.size ≤ 1099511627776) :
    Ev 13 [.vec .plain (some 4) (encDs sig)] (.tup [.vec .plain none (encB (showsD sig).1), .int (showsD sig).2]) := by
  unfold Ev
  obtain ⟨es, hc, h1⟩ := count_loop sig hl sig.length 0 [] (by omega) (by intro x; simp [mapFind, many])
  have h2 := decls_loop' sig hl hs es hc sig.length 0 [] (by omega) (by simp)
  have h1' : W.loop 13 3 [V.int 0, V.mp 0, V.vec .plain (some 4) (encDs sig), V.vec .plain (some 4) (encDs sig), V.int ((encDs sig).length : Nat)] [Res.map CT.str CT.int []] = some (.exit 0, [.vec .plain (some 4) (encDs sig), .mp 0], [.map .str .int es]) := by rw [encDs_length]; exact h1
  have h2' : W.loop 13 9 [V.int 0, V.vec Mode.grow none [], V.vec .plain (some 4) (encDs sig), V.mp 0, V.vec .plain (some 4) (encDs sig), V.int ((encDs sig).length : Nat)] [.map .str .int es] = some (if (showsT sig [] sig).2 = 0 then (.exit 2, [.vec .grow none (encB (showsT sig [] sig).1)], [.map .str .int es]) else (.ret, [.vec .plain none (encB (showsT sig [] sig).1), .int (showsT sig [] sig).2], [.map .str .int es])) := by rw [encDs_length]; exact h2
  rw [C, e_show_Decls, h1', obind_some']
  show obind (W.loop 13 9 [V.int 0, V.vec Mode.grow none [], V.vec .plain (some 4) (encDs sig), V.mp 0, V.vec .plain (some 4) (encDs sig), V.int ((encDs sig).length : Nat)] [.map .str .int es]) _ = _
  rw [h2', obind_some']
  unfold showsD
  by_cases h0 : (showsT sig [] sig).2 = 0
  · rw [if_pos h0, h0]
    have hb : below 0 (V.tup [V.vec .plain none (encB (showsT sig [] sig).1), V.int 0]) = true := by simp [below, belowL, below_encB]
    show gd (below 0 (V.tup [V.vec .plain none (encB (showsT sig [] sig).1), V.int 0]) && belowSt 0 []) _ = _
    rw [hb]
    rfl
  · rw [if_neg h0]
    have hb : below 0 (V.tup [V.vec .plain none (encB (showsT sig [] sig).1), V.int (showsT sig [] sig).2]) = true := by simp [below, belowL, below_encB]
    show gd (below 0 (V.tup [V.vec .plain none (encB (showsT sig [] sig).1), V.int (showsT sig [] sig).2]) && belowSt 0 []) _ = _
    rw [hb]
    rfl
end Go.Proofs.SW

/-! The chapter's example. -/
namespace Go.Proofs.SW
open Go Go.AM Go.Ama
set_option maxRecDepth 100000

theorem awake15 : Ev 7 [] (.bool true) := Ev.of_check (m := 300) (by decide +kernel)
end Go.Proofs.SW

namespace Go.Proofs.SW
open Go Go.AM
set_option maxRecDepth 20000

end Go.Proofs.SW

/-! What is renumbered; what is substituted. -/
namespace Go.Ama
open Go Go.AM

/-- A variable by so many greater. -/
def upV (b f ar h : Int) : Int := if f + ar ≤ h then IntKind.i64.wrap (h + b) else h
def bindsB (k : Int) : Bool := decide (k = 1) || decide (k = 3)
mutual
def upT (b f ar : Int) : T → T
  | .mk k h as_ => .mk k (if k = 4 then upV b f ar h else h) (ups b f ar (bindsB k) as_)
def ups (b f ar : Int) (bd : Bool) : List T → List T
  | [] => []
  | a :: as_ => upT b f (if bd && as_.isEmpty then ar + 1 else ar) a :: ups b f ar bd as_
end
theorem ups_length (b f ar : Int) (bd : Bool) : ∀ l, (ups b f ar bd l).length = l.length
  | [] => rfl
  | a :: as_ => by simp only [ups, List.length_cons, ups_length b f ar bd as_]
theorem ups_get (b f ar : Int) (bd : Bool) : ∀ (l : List T) (i : Nat) (h : i < l.length), (ups b f ar bd l)[i]'(by rw [ups_length]; exact h) = upT b f (if bd && decide (i + 1 = l.length) then ar + 1 else ar) l[i]
  | a :: as_, 0, h => by
    cases as_ with
    | nil => simp [ups]
    | cons c cs => simp [ups]
  | a :: as_, i + 1, h => by
    simp only [ups, List.getElem_cons_succ]
    rw [ups_get b f ar bd as_ i (by simpa using h)]
    simp
mutual
theorem up_size (b f : Int) : ∀ (t : T) (ar : Int), (upT b f ar t).size = t.size
  | .mk k h as_, ar => by simp only [upT, T.size]; rw [ups_sizes b f as_ ar]
theorem ups_sizes (b f : Int) : ∀ (l : List T) (ar : Int) {bd : Bool}, sizes (ups b f ar bd l) = sizes l
  | [], ar, bd => rfl
  | a :: as_, ar, bd => by simp only [ups, sizes]; rw [up_size b f a, ups_sizes b f as_]
end
theorem depth_le : ∀ {ts : List T} {t : T}, t ∈ ts → t.depth ≤ depths ts
  | a :: as_, t, h => by
    simp only [depths]
    rcases List.mem_cons.1 h with rfl | h
    · omega
    · have := depth_le h; omega
/-- shift.Up: what may not be renumbered stays as_ it is. -/
def upP (t : T) (b f : Int) : T := if may t && (decide (0 ≤ b) && (decide (b ≤ 1048576) && (decide (0 ≤ f) && decide (f ≤ 1048576)))) then upT b f 0 t else t

theorem upP_size (t : T) (b f : Int) : (upP t b f).size = t.size := by
  unfold upP; split
  · exact up_size b f t 0
  · rfl

/-- A substitution below a node that binds. -/
def underL (l : List T) : List T := l.map (fun t => upP t 1 0) ++ [.mk 4 0 []]
def underS (s : Int) : Int := IntKind.i64.wrap (s + 1)
/-- What a variable is mapped to. -/
def ofT (l : List T) (s i : Int) : T := if i < l.length then l.getD (l.length - 1 - i.toNat) (.mk 0 0 []) else .mk 4 (IntKind.i64.wrap (IntKind.i64.wrap (i - l.length) + s)) []

inductive Job where
  | ap (n : Nat) (t : T) (l : List T) (s : Int)
  | ar (n : Nat) (bd : Bool) (ts : List T) (l : List T) (s : Int)
  | sp (n : Nat) (t : T) (as_ : List T)
inductive Oj where
  | t (t : T) (n : Nat)
  | l (ts : List T) (n : Nat)
  | e (e : Int)

/-- What is done to a substitution's list, ahead of an arg. -/
def belowL' (bd : Bool) (as_ : List T) (l : List T) : List T := if bd && as_.isEmpty then underL l else l
def belowS' (bd : Bool) (as_ : List T) (s : Int) : Int := if bd && as_.isEmpty then underS s else s

/-- Substituting, with how many nodes were gone to. -/
inductive Big : Job → Oj → Prop where
  | apLimit {n : Nat} {t : T} {l : List T} {s : Int} (h : 40000 < n + 1) (hn : n ≤ 40001) : Big (.ap n t l s) (.e 4)
  | apErr {n : Nat} {t : T} {l : List T} {s : Int} {e : Int} (h : n + 1 ≤ 40000) (ht : t.size ≤ 1099511627776) (b : Big (.ar (n + 1) (bindsB t.k) t.args l s) (.e e)) : Big (.ap n t l s) (.e e)
  | apNode {n : Nat} {t : T} {l : List T} {s : Int} {as_ : List T} {m : Nat} (h : n + 1 ≤ 40000) (ht : t.size ≤ 1099511627776) (hk : t.k ≠ 4) (b : Big (.ar (n + 1) (bindsB t.k) t.args l s) (.l as_ m)) : Big (.ap n t l s) (.t (.mk t.k t.h as_) m)
  | apVar {n : Nat} {t : T} {l : List T} {s : Int} {as_ : List T} {m : Nat} {o : Oj} (h : n + 1 ≤ 40000) (ht : t.size ≤ 1099511627776) (hl : sizes l ≤ 1099511627776) (hk : t.k = 4) (h0 : 0 ≤ t.h) (h1 : I64 t.h) (b : Big (.ar (n + 1) (bindsB t.k) t.args l s) (.l as_ m)) (c : Big (.sp m (ofT l s t.h) as_) o) : Big (.ap n t l s) o
  | arNil {n : Nat} {bd : Bool} {l : List T} {s : Int} : Big (.ar n bd [] l s) (.l [] n)
  | arErr {n : Nat} {bd : Bool} {a : T} {as_ l : List T} {s : Int} {e : Int} (hl : sizes l ≤ 1099511627776) (b : Big (.ap n a (belowL' bd as_ l) (belowS' bd as_ s)) (.e e)) : Big (.ar n bd (a :: as_) l s) (.e e)
  | arErr2 {n m : Nat} {bd : Bool} {a a' : T} {as_ l : List T} {s : Int} {e : Int} (hl : sizes l ≤ 1099511627776) (b : Big (.ap n a (belowL' bd as_ l) (belowS' bd as_ s)) (.t a' m)) (c : Big (.ar m bd as_ l s) (.e e)) : Big (.ar n bd (a :: as_) l s) (.e e)
  | arCons {n m k : Nat} {bd : Bool} {a a' : T} {as_ as' l : List T} {s : Int} (hl : sizes l ≤ 1099511627776) (b : Big (.ap n a (belowL' bd as_ l) (belowS' bd as_ s)) (.t a' m)) (c : Big (.ar m bd as_ l s) (.l as' k)) : Big (.ar n bd (a :: as_) l s) (.l (a' :: as') k)
  | spNil {n : Nat} {t : T} : Big (.sp n t []) (.t t n)
  | spMay {n : Nat} {t a : T} {as_ : List T} (hk : t.k = 3) (ha : a.size ≤ 1099511627776) (hm : may a = false) : Big (.sp n t (a :: as_)) (.e 4)
  | spErr {n : Nat} {t a b0 : T} {r as_ : List T} {e : Int} (hk : t.k = 3) (ha : a.size ≤ 1099511627776) (hm : may a = true) (hb : t.args = b0 :: r) (b : Big (.ap n b0 [a] 0) (.e e)) : Big (.sp n t (a :: as_)) (.e e)
  | spLam {n m : Nat} {t a b0 u : T} {r as_ : List T} {o : Oj} (hk : t.k = 3) (ha : a.size ≤ 1099511627776) (hm : may a = true) (hb : t.args = b0 :: r) (b : Big (.ap n b0 [a] 0) (.t u m)) (c : Big (.sp m u as_) o) : Big (.sp n t (a :: as_)) o
  | spApp {n : Nat} {t a : T} {as_ : List T} (hk : t.k = 2 ∨ t.k = 4 ∨ t.k = 5) (hs : t.args.length + as_.length ≤ 1099511627776) : Big (.sp n t (a :: as_)) (.t (.mk t.k t.h (t.args ++ a :: as_)) n)
  | spType {n : Nat} {t a : T} {as_ : List T} (h3 : t.k ≠ 3) (h2 : t.k ≠ 2) (h4 : t.k ≠ 4) (h5 : t.k ≠ 5) : Big (.sp n t (a :: as_)) (.e 3)
end Go.Ama

/-! Substituting comes to an end. -/
namespace Go.Ama
open Go Go.AM

mutual
/-- Heads from 0 up to a bound; what binds has something below it. -/
def okB (B : Int) : T → Prop
  | .mk k h ys => (0 ≤ h ∧ h ≤ B) ∧ (k = 3 → ys ≠ []) ∧ okBs B ys
def okBs (B : Int) : List T → Prop
  | [] => True
  | a :: ys => okB B a ∧ okBs B ys
end
theorem okBs_iff (B : Int) : ∀ l, okBs B l ↔ ∀ x ∈ l, okB B x
  | [] => by simp [okBs]
  | a :: l => by simp [okBs, okBs_iff B l]
mutual
theorem okB_mono {B B' : Int} (h : B ≤ B') : ∀ t, okB B t → okB B' t
  | .mk k hd ys, ⟨h1, h2, h3⟩ => ⟨⟨h1.1, by omega⟩, h2, okBs_mono h ys h3⟩
theorem okBs_mono {B B' : Int} (h : B ≤ B') : ∀ l, okBs B l → okBs B' l
  | [], _ => trivial
  | a :: l, ⟨h1, h2⟩ => ⟨okB_mono h a h1, okBs_mono h l h2⟩
end
mutual
theorem okB_up {B : Int} (hB : B ≤ 9223372036854775000) (f : Int) : ∀ (t : T) (ar : Int), okB B t → okB (B + 1) (upT 1 f ar t)
  | .mk k hd ys, ar, ⟨h1, h2, h3⟩ => by
    simp only [upT, okB]
    refine ⟨?_, ?_, okBs_up hB f ys ar h3⟩
    · split
      · unfold upV
        split
        · rw [wrap_id ⟨by omega, by omega⟩]; omega
        · omega
      · omega
    · intro hk e
      have := congrArg List.length e
      rw [ups_length] at this
      exact h2 hk (List.length_eq_zero_iff.1 (by simpa using this))
theorem okBs_up {B : Int} (hB : B ≤ 9223372036854775000) (f : Int) : ∀ (l : List T) (ar : Int) {bd : Bool}, okBs B l → okBs (B + 1) (ups 1 f ar bd l)
  | [], ar, bd, _ => trivial
  | a :: l, ar, bd, ⟨h1, h2⟩ => by simp only [ups, okBs]; exact ⟨okB_up hB f a _ h1, okBs_up hB f l ar h2⟩
end
theorem okB_upP {B : Int} (hB : B ≤ 9223372036854775000) {t : T} (h : okB B t) : okB (B + 1) (upP t 1 0) := by
  unfold upP; split
  · exact okB_up hB 0 t 0 h
  · exact okB_mono (by omega) t h

def bnd (β : Int) (n : Nat) : Int := β + n * 2097152
/-- A bound of heads that leaves room. -/
def okBase (β : Int) : Prop := 0 ≤ β ∧ β ≤ 4611686018427387904
def okL (B : Int) (l : List T) : Prop := ∀ x ∈ l, okB B x ∧ x.size ≤ 4000
theorem okL_sizes {B : Int} : ∀ {l : List T}, okL B l → sizes l ≤ l.length * 4000
  | [], _ => by simp [sizes]
  | a :: l, h => by
    have h1 := (h a (by simp)).2
    have h2 := okL_sizes (l := l) fun x hx => h x (by simp [hx])
    simp only [sizes, List.length_cons]; omega

def Inv (β : Int) : Job → Prop
  | .ap n t l s => n ≤ 40000 ∧ t.size ≤ 160040000 ∧ okB (bnd β n) t ∧ okL (bnd β n) l ∧ l.length ≤ 200 + n ∧ 0 ≤ s ∧ s ≤ 1048576 + n
  | .ar n _ ts l s => n ≤ 40000 ∧ sizes ts ≤ 160040000 ∧ okBs (bnd β n) ts ∧ okL (bnd β n - 1) l ∧ l.length + 1 ≤ 200 + n ∧ 0 ≤ s ∧ s + 1 ≤ 1048576 + n
  | .sp n t ys => n ≤ 40000 ∧ t.size ≤ 160040000 ∧ sizes ys ≤ 160040000 ∧ okB (bnd β n) t ∧ okBs (bnd β n) ys
def Post (β : Int) : Job → Oj → Prop
  | .ap n _ _ _, .t u m => n < m ∧ m ≤ 40000 ∧ u.size ≤ 4001 * (m - n) ∧ okB (bnd β m) u
  | .ar n _ ts _ _, .l ys m => n ≤ m ∧ m ≤ 40000 ∧ ys.length = ts.length ∧ sizes ys ≤ 4001 * (m - n) ∧ okBs (bnd β m) ys
  | .sp n t ys, .t u m => n ≤ m ∧ m ≤ 40000 ∧ u.size ≤ t.size + sizes ys + 4001 * (m - n) ∧ okB (bnd β m) u
  | _, .e _ => True
  | _, _ => False
def meas : Job → Nat
  | .ap n _ _ _ => 2 * (40002 - n)
  | .ar n _ _ _ _ => 2 * (40002 - n) + 1
  | .sp n _ _ => 2 * (40002 - n) + 1

theorem may_size {t : T} (h : may t = true) : t.size ≤ 4000 := by
  unfold may at h
  simp only [Bool.and_eq_true, decide_eq_true_eq] at h
  exact h.2.1
theorem bnd_mono {β : Int} {n m : Nat} (h : n ≤ m) : bnd β n ≤ bnd β m := by unfold bnd; omega
theorem bnd_le {β : Int} (hβ : okBase β) {n : Nat} (h : n ≤ 40000) : bnd β n ≤ 4611686118427387904 := by obtain ⟨h1, h2⟩ := hβ; unfold bnd; omega
theorem bnd_ge {β : Int} (hβ : okBase β) {n : Nat} : 0 ≤ bnd β n := by obtain ⟨h1, h2⟩ := hβ; unfold bnd; omega

theorem inv_below {β : Int} (hβ : okBase β) {n : Nat} {bd : Bool} {ys l : List T} {s : Int} (hn : n ≤ 40000) (hl : okL (bnd β n - 1) l) (hlen : l.length + 1 ≤ 200 + n) (h0 : 0 ≤ s) (hs : s + 1 ≤ 1048576 + n) :
    okL (bnd β n) (belowL' bd ys l) ∧ (belowL' bd ys l).length ≤ 200 + n ∧ 0 ≤ belowS' bd ys s ∧ belowS' bd ys s ≤ 1048576 + n := by
  have hb := bnd_le hβ hn
  have hb0 : 0 ≤ bnd β n := bnd_ge hβ
  unfold belowL' belowS'
  split
  · refine ⟨fun x hx => ?_, ?_, ?_, ?_⟩
    · simp only [underL, List.mem_append, List.mem_map, List.mem_singleton] at hx
      rcases hx with ⟨y, hy, rfl⟩ | rfl
      · obtain ⟨h1, h2⟩ := hl y hy
        have := okB_upP (B := bnd β n - 1) (by omega) h1
        rw [show bnd β n - 1 + 1 = bnd β n by omega] at this
        exact ⟨this, by rw [upP_size]; exact h2⟩
      · exact ⟨⟨⟨by omega, hb0⟩, by simp, trivial⟩, by simp [T.size, sizes]⟩
    · simp [underL]; omega
    · unfold underS; rw [wrap_id ⟨by omega, by omega⟩]; omega
    · unfold underS; rw [wrap_id ⟨by omega, by omega⟩]; omega
  · refine ⟨fun x hx => ?_, by omega, h0, by omega⟩
    obtain ⟨h1, h2⟩ := hl x hx
    exact ⟨okB_mono (by omega) x h1, h2⟩

theorem of_ok {β : Int} (hβ : okBase β) {n : Nat} (hn : n ≤ 40000) {l : List T} {s i : Int} (hl : okL (bnd β n) l) (h0 : 0 ≤ s) (hs : s ≤ 1048576 + n) (hi : 0 ≤ i) (hi2 : i ≤ bnd β n) : okB (bnd β (n + 1)) (ofT l s i) ∧ (ofT l s i).size ≤ 4000 := by
  have hb := bnd_le hβ hn
  unfold ofT
  split
  · rename_i h
    have hj : l.length - 1 - i.toNat < l.length := by omega
    rw [List.getD_eq_getElem?_getD, List.getElem?_eq_getElem hj]
    obtain ⟨h1, h2⟩ := hl _ (List.getElem_mem hj)
    exact ⟨okB_mono (bnd_mono (Nat.le_succ n)) _ h1, h2⟩
  · rename_i h
    rw [wrap_id (n := i - l.length) ⟨by omega, by omega⟩, wrap_id ⟨by omega, by omega⟩]
    refine ⟨⟨⟨by omega, ?_⟩, by simp, trivial⟩, by simp [T.size, sizes]⟩
    have : bnd β (n + 1) = bnd β n + 2097152 := by unfold bnd; omega
    omega

theorem total {β : Int} (hβ : okBase β) : ∀ (N : Nat) (j : Job), meas j < N → Inv β j → ∃ o, Big j o ∧ Post β j o := by
  intro N
  induction N with
  | zero => intro j h; omega
  | succ N ih =>
    intro j hj hI
    cases j with
    | ap n t l s =>
      obtain ⟨hn, hsz, hok, hl, hlen, h0, hs⟩ := hI
      by_cases hlim : n + 1 ≤ 40000
      rotate_left
      · exact ⟨_, .apLimit (by omega) (by omega), trivial⟩
      have hsl := okL_sizes hl
      cases t with
      | mk k h ys =>
        simp only [T.size] at hsz
        obtain ⟨⟨hh0, hh1⟩, hk3, hys⟩ := hok
        have hb1 : bnd β (n + 1) = bnd β n + 2097152 := by unfold bnd; omega
        obtain ⟨o, hB, hP⟩ := ih (.ar (n + 1) (bindsB k) ys l s) (by simp only [meas] at hj ⊢; omega) ⟨hlim, by omega, okBs_mono (by omega) ys hys, fun x hx => ⟨okB_mono (by omega) x (hl x hx).1, (hl x hx).2⟩, by omega, h0, by omega⟩
        cases o with
        | t _ _ => exact hP.elim
        | e e => exact ⟨_, .apErr hlim (by simp only [T.size]; omega) hB, trivial⟩
        | l zs m =>
          obtain ⟨p1, p2, p3, p4, p5⟩ := hP
          have hbm : bnd β n ≤ bnd β m := bnd_mono (by omega)
          by_cases hk : k = 4
          · obtain ⟨q1, q2⟩ := of_ok hβ (by omega) hl h0 hs hh0 hh1
            have hbm1 : bnd β (n + 1) ≤ bnd β m := bnd_mono p1
            obtain ⟨o, hB2, hP2⟩ := ih (.sp m (ofT l s h) zs) (by simp only [meas] at hj ⊢; omega) ⟨p2, by omega, by omega, okB_mono hbm1 _ q1, p5⟩
            have hbn := bnd_le hβ (n := n) (by omega)
            cases o with
            | l _ _ => exact hP2.elim
            | e e => exact ⟨_, .apVar hlim (by simp only [T.size]; omega) (by omega) hk hh0 ⟨by simp only [T.h]; omega, by simp only [T.h]; omega⟩ hB hB2, trivial⟩
            | t u m2 =>
              obtain ⟨r1, r2, r3, r4⟩ := hP2
              exact ⟨_, .apVar hlim (by simp only [T.size]; omega) (by omega) hk hh0 ⟨by simp only [T.h]; omega, by simp only [T.h]; omega⟩ hB hB2, by omega, r2, by omega, r4⟩
          · refine ⟨_, .apNode hlim (by simp only [T.size]; omega) hk hB, by omega, p2, ?_, ?_⟩
            · simp only [T.size, T.k, T.h]; omega
            · refine ⟨⟨hh0, by simp only [T.h]; omega⟩, fun e he => ?_, p5⟩
              subst he
              exact hk3 e (List.length_eq_zero_iff.1 (by simpa using p3.symm))
    | ar n bd ts l s =>
      obtain ⟨hn, hsz, hok, hl, hlen, h0, hs⟩ := hI
      have hsl := okL_sizes hl
      cases ts with
      | nil => exact ⟨_, .arNil, Nat.le_refl _, hn, rfl, by simp [sizes], trivial⟩
      | cons a ts =>
        simp only [sizes] at hsz
        obtain ⟨ha, hts⟩ := hok
        obtain ⟨g1, g2, g3, g4⟩ := inv_below hβ (bd := bd) (ys := ts) hn hl hlen h0 hs
        obtain ⟨o, hB, hP⟩ := ih (.ap n a (belowL' bd ts l) (belowS' bd ts s)) (by simp only [meas] at hj ⊢; omega) ⟨hn, by omega, ha, g1, g2, g3, g4⟩
        cases o with
        | l _ _ => exact hP.elim
        | e e => exact ⟨_, .arErr (by omega) hB, trivial⟩
        | t u m =>
          obtain ⟨p1, p2, p3, p4⟩ := hP
          have hbm : bnd β n ≤ bnd β m := bnd_mono (by omega)
          obtain ⟨o, hB2, hP2⟩ := ih (.ar m bd ts l s) (by simp only [meas] at hj ⊢; omega) ⟨p2, by omega, okBs_mono hbm ts hts, fun x hx => ⟨okB_mono (by omega) x (hl x hx).1, (hl x hx).2⟩, by omega, h0, by omega⟩
          cases o with
          | t _ _ => exact hP2.elim
          | e e => exact ⟨_, .arErr2 (by omega) hB hB2, trivial⟩
          | l zs m2 =>
            obtain ⟨r1, r2, r3, r4, r5⟩ := hP2
            exact ⟨_, .arCons (by omega) hB hB2, by omega, r2, by simp [r3], by simp only [sizes]; omega, okB_mono (bnd_mono r1) u p4, r5⟩
    | sp n t ys =>
      obtain ⟨hn, hsz, hys, hok, hoy⟩ := hI
      cases ys with
      | nil => exact ⟨_, .spNil, Nat.le_refl _, hn, by simp [sizes], hok⟩
      | cons a ys =>
        simp only [sizes] at hys
        obtain ⟨ha, hoy⟩ := hoy
        cases t with
        | mk k h zs =>
          simp only [T.size] at hsz
          obtain ⟨hh, hk3, hzs⟩ := hok
          by_cases hk : k = 3
          · cases hm : may a with
            | false => exact ⟨_, .spMay hk (by omega) hm, trivial⟩
            | true =>
              obtain ⟨b0, r, hb⟩ : ∃ b0 r, zs = b0 :: r := by
                cases zs with
                | nil => exact absurd rfl (hk3 hk)
                | cons b r => exact ⟨b, r, rfl⟩
              subst hb
              simp only [sizes] at hsz
              obtain ⟨o, hB, hP⟩ := ih (.ap n b0 [a] 0) (by simp only [meas] at hj ⊢; omega) ⟨hn, by omega, hzs.1, fun x hx => by simp at hx; subst hx; exact ⟨ha, may_size hm⟩, by simp; omega, by omega, by omega⟩
              cases o with
              | l _ _ => exact hP.elim
              | e e => exact ⟨_, .spErr hk (by omega) hm rfl hB, trivial⟩
              | t u m =>
                obtain ⟨p1, p2, p3, p4⟩ := hP
                obtain ⟨o, hB2, hP2⟩ := ih (.sp m u ys) (by simp only [meas] at hj ⊢; omega) ⟨p2, by omega, by omega, p4, okBs_mono (bnd_mono (by omega)) ys hoy⟩
                cases o with
                | l _ _ => exact hP2.elim
                | e e => exact ⟨_, .spLam hk (by omega) hm rfl hB hB2, trivial⟩
                | t w m2 =>
                  obtain ⟨r1, r2, r3, r4⟩ := hP2
                  exact ⟨_, .spLam hk (by omega) hm rfl hB hB2, by omega, r2, by simp only [T.size, sizes]; omega, r4⟩
          · by_cases hk2 : k = 2 ∨ k = 4 ∨ k = 5
            · have hz := length_le_sizes zs
              have hy := length_le_sizes ys
              refine ⟨_, .spApp hk2 (by simp only [T.args]; omega), Nat.le_refl _, hn, ?_, ?_⟩
              · simp only [T.size, T.k, T.h, T.args, sizes_append, sizes]; omega
              · refine ⟨hh, fun e => absurd e hk, ?_⟩
                rw [okBs_iff]
                intro x hx
                simp only [T.args, List.mem_append, List.mem_cons] at hx
                rcases hx with hx | rfl | hx
                · exact (okBs_iff _ _).1 hzs x hx
                · exact ha
                · exact (okBs_iff _ _).1 hoy x hx
            · simp only [not_or] at hk2
              exact ⟨_, .spType hk hk2.1 hk2.2.1 hk2.2.2, trivial⟩
end Go.Ama

/-! Words that simp takes. -/
namespace Go.Ama
open Go Go.AM
section
variable {R : Type}
@[simp] theorem onT3 (a b : Int) (l : List V) (K : Int → Int → List V → Option R) : onStruct (R := R) [CT.int, CT.int, CT.slice (some 3)] (.agg [.int a, .int b, .vec .plain (some 3) l]) K = K a b l := rfl
@[simp] theorem onTe (t : T) (K : Int → Int → List V → Option R) : onStruct (R := R) [CT.int, CT.int, CT.slice (some 3)] (enc t) K = K t.k t.h (encs t.args) := by cases t; rfl
@[simp] theorem onC3 (a b : Int) (l : List V) (K : Int → Int → List V → Option R) : onCells (R := R) [CT.int, CT.int, CT.slice (some 3)] [.int a, .int b, .vec .plain (some 3) l] K = K a b l := rfl
@[simp] theorem onTok (t : Tok) (K : Int → ByteArray → Option R) : onStruct (R := R) [CT.int, CT.str] (encTok t) K = K t.1 (ba t.2) := rfl
@[simp] theorem onD4 (s : ByteArray) (a b : Int) (l : List V) (K : ByteArray → Int → Int → List V → Option R) : onStruct (R := R) [CT.str, CT.int, CT.int, CT.slice (some 3)] (.agg [.str s, .int a, .int b, .vec .plain (some 3) l]) K = K s a b l := rfl
@[simp] theorem onDe (d : D) (K : ByteArray → Int → Int → List V → Option R) : onStruct (R := R) [CT.str, CT.int, CT.int, CT.slice (some 3)] (encD d) K = K (ba d.name) d.t.k d.t.h (encs d.t.args) := rfl
@[simp] theorem onDt (d : D) (K : Int → Int → List V → Option R) : onAgg (encD d) (fun c => gd (decide (4 ≤ c.length)) (onCells (R := R) [CT.int, CT.int, CT.slice (some 3)] (List.take 3 (List.drop 1 c)) K)) = K d.t.k d.t.h (encs d.t.args) := rfl
@[simp] theorem onDn (d : D) (K : ByteArray → Option R) : onAgg (encD d) (fun c => gd (decide (1 ≤ c.length)) (onStr (AM.partOf c 0 none) K)) = K (ba d.name) := rfl
@[simp] theorem getI_0 (v : V) (l : List V) : getI (v :: l) 0 = v := rfl
@[simp] theorem bc_self (b : Bool) (x : Option R) : bc b x x = x := by cases b <;> rfl
@[simp] theorem T_args_mk (k h : Int) (l : List T) : (T.mk k h l).args = l := rfl
@[simp] theorem T_k_mk (k h : Int) (l : List T) : (T.mk k h l).k = k := rfl
@[simp] theorem T_h_mk (k h : Int) (l : List T) : (T.mk k h l).h = h := rfl
@[simp] theorem onTk (t : Tok) (K : Int → Option R) : onAgg (encTok t) (fun c => gd (decide (1 ≤ c.length)) (onInt (AM.partOf c 0 none) K)) = K t.1 := rfl
@[simp] theorem onTx (t : Tok) (K : ByteArray → Option R) : onAgg (encTok t) (fun c => gd (decide (2 ≤ c.length)) (onStr (AM.partOf c 1 none) K)) = K (ba t.2) := rfl
@[simp] theorem getR_0 (x : Res) (st : St) (K : Res → Option R) : getR (x :: st) 0 K = K x := rfl
@[simp] theorem getR_1 (x y : Res) (st : St) (K : Res → Option R) : getR (x :: y :: st) 1 K = K y := rfl
@[simp] theorem onBoxP (m : AM.Mode) (s : PS) (K : List V → Option R) : onBox (boxP m s) K = K [.vec .plain (some 2) (encToks s.l), .vec m (some 4) (encDs s.s), .int s.e] := rfl
@[simp] theorem cl0 (sh : Sh) (l : List V) (b c : V) : cleanV (AM.partOf [.vec .plain sh l, b, c] 0 none) = .vec .plain sh l := rfl
@[simp] theorem cl1 (sh : Sh) (m : AM.Mode) (l : List V) (a c : V) : cleanV (AM.partOf [a, .vec m sh l, c] 1 none) = .vec .plain sh l := by cases m <;> rfl
@[simp] theorem cl2 (a b : V) (n : Int) : cleanV (AM.partOf [a, b, .int n] 2 none) = .int n := rfl
@[simp] theorem setCells0 (a b c d : V) : setCells [a, b, c] 0 [d] = [d, b, c] := rfl
@[simp] theorem setCells1 (a b c d : V) : setCells [a, b, c] 1 [d] = [a, d, c] := rfl
@[simp] theorem setCells2 (a b c d : V) : setCells [a, b, c] 2 [d] = [a, b, d] := rfl
@[simp] theorem getI_tok (t : Tok) (r : List Tok) : getI (encToks (t :: r)) 0 = encTok t := rfl
@[simp] theorem encToks_cons (t : Tok) (r : List Tok) : encToks (t :: r) = encTok t :: encToks r := rfl
@[simp] theorem take_toks (r : List Tok) : (encToks r).take r.length = encToks r := by rw [← encToks_length r, List.take_length]
@[simp] theorem take_toks1 (t : V) (r : List Tok) : (t :: encToks r).take (r.length + 1) = t :: encToks r := by rw [List.take_succ_cons, take_toks]
@[simp] theorem onDt' (d : D) (K : Int → Int → List V → Option R) : onAgg (encD d) (fun c => gd (decide (4 ≤ c.length)) (onCells (R := R) [CT.int, CT.int, CT.slice (some 3)] (List.take 3 c.tail) K)) = K d.t.k d.t.h (encs d.t.args) := rfl
@[simp] theorem typ_lit1 (x : Bytes) : ((ba x).toList == [116, 121, 112, 101]) = decide (x = typ) := by rw [ba_toList]; by_cases h : x = typ <;> simp_all [typ]
@[simp] theorem typ_lit2 (x : Bytes) : ((ba x).toList == ByteArray.toList { data := #[116, 121, 112, 101] }) = decide (x = typ) := ba_eq x typ
@[simp] theorem lit40 : V.str { data := #[40] } = V.str (ba [40]) := rfl
@[simp] theorem lit41 : V.str { data := #[41] } = V.str (ba [41]) := rfl
@[simp] theorem lit46 : V.str { data := #[46] } = V.str (ba [46]) := rfl
@[simp] theorem lit58 : V.str { data := #[58] } = V.str (ba [58]) := rfl
@[simp] theorem lit91 : V.str { data := #[91] } = V.str (ba [91]) := rfl
@[simp] theorem lit93 : V.str { data := #[93] } = V.str (ba [93]) := rfl
@[simp] theorem lit123 : V.str { data := #[123] } = V.str (ba [123]) := rfl
@[simp] theorem lit125 : V.str { data := #[125] } = V.str (ba [125]) := rfl
@[simp] theorem litN : V.str { data := #[] } = V.str (ba []) := rfl
@[simp] theorem onEncF (t : T) (K : Int → Int → Option R) : onStruct (R := R) [CT.int, CT.int, CT.nil (some 3)] (.agg [.int t.k, .int t.h, .vec .full (some 3) []]) K = K t.k t.h := rfl
@[simp] theorem one_le_s (n : Nat) : (1 : Int) ≤ n + 1 := by omega
@[simp] theorem zero_lt_s (n : Nat) : (0 : Int) < n + 1 := by omega
@[simp] theorem succ_ne_z (n : Nat) : ¬ ((n : Int) + 1 = 0) := by omega
@[simp] theorem toNat_s (n : Nat) : ((n : Int) + 1).toNat = n + 1 := by omega
end
end Go.Ama

/-! What substituting tells, as_ a function. -/
namespace Go.Ama
open Go Go.AM

theorem Big.det {j : Job} {o : Oj} (h : Big j o) : ∀ o', Big j o' → o = o' := by
  induction h with
  | apLimit h hn => intro o' h'; cases h' <;> first | rfl | omega
  | apErr h ht b ih =>
    intro o' h'; cases h' with
    | apLimit h2 _ => omega
    | apErr _ _ b2 => cases ih _ b2; rfl
    | apNode _ _ _ b2 => cases ih _ b2
    | apVar _ _ _ _ _ _ b2 _ => cases ih _ b2
  | apNode h ht hk b ih =>
    intro o' h'; cases h' with
    | apLimit h2 _ => omega
    | apErr _ _ b2 => cases ih _ b2
    | apNode _ _ _ b2 => cases ih _ b2; rfl
    | apVar _ _ _ hk2 _ _ b2 _ => exact absurd hk2 hk
  | apVar h ht hl hk h0 h1 b c ihb ihc =>
    intro o' h'; cases h' with
    | apLimit h2 _ => omega
    | apErr _ _ b2 => cases ihb _ b2
    | apNode _ _ hk2 b2 => exact absurd hk hk2
    | apVar _ _ _ _ _ _ b2 c2 => cases ihb _ b2; exact ihc _ c2
  | arNil => intro o' h'; cases h'; rfl
  | arErr hl b ih =>
    intro o' h'; cases h' with
    | arErr _ b2 => cases ih _ b2; rfl
    | arErr2 _ b2 _ => cases ih _ b2
    | arCons _ b2 _ => cases ih _ b2
  | arErr2 hl b c ihb ihc =>
    intro o' h'; cases h' with
    | arErr _ b2 => cases ihb _ b2
    | arErr2 _ b2 c2 => cases ihb _ b2; cases ihc _ c2; rfl
    | arCons _ b2 c2 => cases ihb _ b2; cases ihc _ c2
  | arCons hl b c ihb ihc =>
    intro o' h'; cases h' with
    | arErr _ b2 => cases ihb _ b2
    | arErr2 _ b2 c2 => cases ihb _ b2; cases ihc _ c2
    | arCons _ b2 c2 => cases ihb _ b2; cases ihc _ c2; rfl
  | spNil => intro o' h'; cases h'; rfl
  | spMay hk ha hm =>
    intro o' h'; cases h' with
    | spMay _ _ _ => rfl
    | spErr _ _ hm2 _ _ => rw [hm] at hm2; cases hm2
    | spLam _ _ hm2 _ _ _ => rw [hm] at hm2; cases hm2
    | spApp hk2 _ => omega
    | spType h3 _ _ _ => exact absurd hk h3
  | spErr hk ha hm hb b ih =>
    intro o' h'; cases h' with
    | spMay _ _ hm2 => rw [hm] at hm2; cases hm2
    | spErr _ _ _ hb2 b2 => rw [hb] at hb2; cases hb2; cases ih _ b2; rfl
    | spLam _ _ _ hb2 b2 _ => rw [hb] at hb2; cases hb2; cases ih _ b2
    | spApp hk2 _ => omega
    | spType h3 _ _ _ => exact absurd hk h3
  | spLam hk ha hm hb b c ihb ihc =>
    intro o' h'; cases h' with
    | spMay _ _ hm2 => rw [hm] at hm2; cases hm2
    | spErr _ _ _ hb2 b2 => rw [hb] at hb2; cases hb2; cases ihb _ b2
    | spLam _ _ _ hb2 b2 c2 => rw [hb] at hb2; cases hb2; cases ihb _ b2; exact ihc _ c2
    | spApp hk2 _ => omega
    | spType h3 _ _ _ => exact absurd hk h3
  | spApp hk hs =>
    intro o' h'; cases h' with
    | spMay h3 _ _ => omega
    | spErr h3 _ _ _ _ => omega
    | spLam h3 _ _ _ _ _ => omega
    | spApp _ _ => rfl
    | spType h3 h2 h4 h5 => omega
  | spType h3 h2 h4 h5 =>
    intro o' h'; cases h' with
    | spMay h6 _ _ => exact absurd h6 h3
    | spErr h6 _ _ _ _ => exact absurd h6 h3
    | spLam h6 _ _ _ _ _ => exact absurd h6 h3
    | spApp hk _ => omega
    | spType _ _ _ _ => rfl

def maySu (l : List T) (s : Int) : Bool := decide (l.length ≤ 200) && (decide (0 ≤ s) && (decide (s ≤ 1048576) && l.all may))
/-- What is told of it. -/
def toldR (o : Oj) : T × Int :=
  match o with
  | .t t _ => if may t then (t, 0) else (.mk 0 0 [], 4)
  | .e e => (.mk 0 0 [], e)
  | .l _ _ => (.mk 0 0 [], 0)
/-- Small enough to be looked at. -/
def smallO : Oj → Prop
  | .t t _ => t.size ≤ 1099511627776
  | _ => True
/-- What subst.Apply tells. -/
def applyR (t : T) (l : List T) (s : Int) (o : Oj) : T × Int := if may t && maySu l s then toldR o else (.mk 0 0 [], 1)

open Classical in
/-- What substituting tells. -/
noncomputable def outF (t : T) (l : List T) (s : Int) : Oj := if h : ∃ o, Big (.ap 0 t l s) o then Classical.choose h else .e 0
theorem outF_eq {t : T} {l : List T} {s : Int} {o : Oj} (h : Big (.ap 0 t l s) o) : outF t l s = o := by
  have hx : ∃ o, Big (.ap 0 t l s) o := ⟨o, h⟩
  unfold outF
  rw [dif_pos hx]
  exact (Classical.choose_spec hx).det _ h
noncomputable def applyF (t : T) (l : List T) (s : Int) : T × Int := applyR t l s (outF t l s)

theorem may_nodes {t : T} (h : may t = true) : nodesB t = true := by
  unfold may at h
  simp only [Bool.and_eq_true] at h
  exact h.1
theorem maySu_all {l : List T} {s : Int} (h : maySu l s = true) : l.length ≤ 200 ∧ 0 ≤ s ∧ s ≤ 1048576 ∧ ∀ x ∈ l, may x = true := by
  unfold maySu at h
  simp only [Bool.and_eq_true, decide_eq_true_eq, List.all_eq_true] at h
  exact ⟨h.1, h.2.1, h.2.2.1, h.2.2.2⟩

/-- It is told something. -/
theorem outF_ok {β : Int} (hβ : okBase β) {t : T} {l : List T} {s : Int} (ht : okB β t) (hl : ∀ x ∈ l, okB β x) (h1 : may t = true) (h2 : maySu l s = true) :
    Big (.ap 0 t l s) (outF t l s) ∧ Post β (.ap 0 t l s) (outF t l s) ∧ smallO (outF t l s) := by
  obtain ⟨k1, k2, k3, k4⟩ := maySu_all h2
  have hb : bnd β 0 = β := by unfold bnd; omega
  obtain ⟨o, hB, hP⟩ := total hβ _ (.ap 0 t l s) (Nat.lt_succ_self _) ⟨Nat.zero_le _, Nat.le_trans (may_size h1) (by decide), by rw [hb]; exact ht, fun x hx => ⟨by rw [hb]; exact hl x hx, may_size (k4 x hx)⟩, by omega, k2, by omega⟩
  rw [outF_eq hB]
  refine ⟨hB, hP, ?_⟩
  cases o with
  | t u m => obtain ⟨p1, p2, p3, p4⟩ := hP; show u.size ≤ _; omega
  | _ => trivial
end Go.Ama

/-! The most general term of a type. -/
namespace Go.Ama
open Go Go.AM

def var (i : Nat) : T := .mk 4 i []
/-- The variables of a context of n entries. -/
def vars (n : Nat) : List T := (List.range n).reverse.map var
theorem vars_length (n : Nat) : (vars n).length = n := by simp [vars]
theorem vars_get {n j : Nat} (h : j < (vars n).length) : (vars n)[j] = .mk 4 ((n : Int) - 1 - j) [] := by
  rw [vars_length] at h
  simp only [vars, List.getElem_map, List.getElem_reverse, List.length_range, List.getElem_range, var]
  congr 1
  omega
theorem enc_var (i : Int) : enc (.mk 4 i []) = .agg [.int 4, .int i, .vec .plain (some 3) []] := rfl

theorem any_loop {α β : Type} {L : Int → Option α} {xs : List β} {g : β → Bool} {e0 : α} {e1 : Int → α} (hstep : ∀ (i : Nat) (h : i < xs.length), L i = if g xs[i] = true then some (e1 i) else L ((i + 1 : Nat) : Int)) (hend : L (xs.length : Nat) = some e0) :
    (xs.any g = false ∧ L 0 = some e0) ∨ (xs.any g = true ∧ ∃ i : Nat, L 0 = some (e1 i)) := by
  have : ∀ d i : Nat, i + d = xs.length → ((xs.drop i).any g = false ∧ L i = some e0) ∨ ((xs.drop i).any g = true ∧ ∃ j : Nat, L i = some (e1 j)) := by
    intro d
    induction d with
    | zero =>
      intro i hi
      have : i = xs.length := by omega
      subst this
      rw [List.drop_length]
      exact .inl ⟨rfl, hend⟩
    | succ d ih =>
      intro i hi
      have hlt : i < xs.length := by omega
      rw [List.drop_eq_getElem_cons hlt, List.any_cons, hstep i hlt]
      cases hg : g xs[i] with
      | true => exact .inr ⟨rfl, i, by simp⟩
      | false =>
        rcases ih (i + 1) (by omega) with ⟨h1, h2⟩ | ⟨h1, j, h2⟩
        · exact .inl ⟨by rw [h1]; rfl, by simpa using h2⟩
        · exact .inr ⟨by rw [h1]; rfl, j, by simpa using h2⟩
  have := this xs.length 0 (by omega)
  rw [List.drop_zero] at this
  exact this

def lamN : Nat → T → T
  | 0, t => t
  | n + 1, t => lamN n (.mk 3 0 [t])
/-- The document's, and the program's, answer. -/
def general (ctx : List T) (a : T) (n : Int) : List T × T × T × Int :=
  if (!may a || (ctx.any (fun t => !may t) || (decide (n < 0) || decide (40 < ctx.length + (split a).1.length)))) = true then ([], T0, T0, 1)
  else if ((ctx ++ (split a).1).any (fun t => !decide (t.k = 2)) || !decide ((split a).2.k = 2)) = true then ([], T0, T0, 5)
  else (ctx ++ (split a).1, (split a).2, lamN (split a).1.length (.mk 6 n (vars (ctx.length + (split a).1.length))), 0)
def encMD (ctx : List T) (t : T) : V := .agg [.vec .plain (some 3) (encs ctx), .int t.k, .int t.h, .vec .plain (some 3) (encs t.args), .bool false]
def encG (x : List T × T × T × Int) : V := .tup [encMD x.1 x.2.1, enc x.2.2.1, .int x.2.2.2]

theorem below_encG (x : List T × T × T × Int) : below 0 (encG x) = true := by simp [encG, encMD, below, belowL]

theorem lamN_succ : ∀ (n : Nat) (t : T), lamN (n + 1) t = .mk 3 0 [lamN n t]
  | 0, t => rfl
  | n + 1, t => by rw [lamN, lamN_succ n]; rfl

end Go.Ama

/-! Metas, and cases of them. -/
namespace Go.Ama
open Go Go.AM

@[simp] theorem getI_1 (a b : V) (l : List V) : getI (a :: b :: l) 1 = b := rfl

structure M where
  ctx : List T
  t : T
  param : Bool
def encM (m : M) : V := .agg [.vec .plain (some 3) (encs m.ctx), .int m.t.k, .int m.t.h, .vec .plain (some 3) (encs m.t.args), .bool m.param]
def encMs (l : List M) : List V := l.map encM
@[simp] theorem encMs_length (l : List M) : (encMs l).length = l.length := by simp [encMs]
@[simp] theorem encMs_nil : encMs [] = [] := rfl
@[simp] theorem encMs_append (a b : List M) : encMs (a ++ b) = encMs a ++ encMs b := by simp [encMs]
@[simp] theorem encMs_cons (a : M) (b : List M) : encMs (a :: b) = encM a :: encMs b := rfl
theorem getI_encMs {l : List M} {i : Nat} (h : i < l.length) : getI (encMs l) (i : Int) = encM l[i] := by
  simp [getI, encMs, List.getD_eq_getElem?_getD, List.getElem?_map, h]
theorem below_encM (n : Nat) (m : M) : below n (encM m) = true := by simp [encM, below, belowL, below_encs]
@[simp] theorem below_encMs (n : Nat) : ∀ l : List M, belowL n (encMs l) = true
  | [] => rfl
  | d :: l => by simp [belowL, below_encM, below_encMs n l]
theorem encMD_eq (ctx : List T) (t : T) : encMD ctx t = encM ⟨ctx, t, false⟩ := rfl
section
variable {R : Type}
@[simp] theorem onM (m : M) (K : List V → Int → Int → List V → Bool → Option R) : onStruct (R := R) [CT.slice (some 3), CT.int, CT.int, CT.slice (some 3), CT.bool] (encM m) K = K (encs m.ctx) m.t.k m.t.h (encs m.t.args) m.param := rfl
@[simp] theorem onMg (l l2 : List V) (a b : Int) (c : Bool) (K : List V → Int → Int → List V → Bool → Option R) : onStruct (R := R) [CT.slice (some 3), CT.int, CT.int, CT.slice (some 3), CT.bool] (.agg [.vec .plain (some 3) l, .int a, .int b, .vec .plain (some 3) l2, .bool c]) K = K l a b l2 c := rfl
end
theorem encM_eta (m : M) : encM m = .agg [.vec .plain (some 3) (encs m.ctx), .int m.t.k, .int m.t.h, .vec .plain (some 3) (encs m.t.args), .bool m.param] := rfl

structure Cs where
  ms : List M
  q : T
  t : T
def encC (c : Cs) : V := .agg [.vec .plain (some 5) (encMs c.ms), .int c.q.k, .int c.q.h, .vec .plain (some 3) (encs c.q.args), .int c.t.k, .int c.t.h, .vec .plain (some 3) (encs c.t.args)]
def encCs (l : List Cs) : List V := l.map encC
@[simp] theorem encCs_length (l : List Cs) : (encCs l).length = l.length := by simp [encCs]
@[simp] theorem encCs_nil : encCs [] = [] := rfl
@[simp] theorem encCs_append (a b : List Cs) : encCs (a ++ b) = encCs a ++ encCs b := by simp [encCs]
@[simp] theorem encCs_cons (a : Cs) (b : List Cs) : encCs (a :: b) = encC a :: encCs b := rfl
theorem getI_encCs {l : List Cs} {i : Nat} (h : i < l.length) : getI (encCs l) (i : Int) = encC l[i] := by
  simp [getI, encCs, List.getD_eq_getElem?_getD, List.getElem?_map, h]
theorem below_encC (n : Nat) (m : Cs) : below n (encC m) = true := by simp [encC, below, belowL, below_encs]
@[simp] theorem below_encCs (n : Nat) : ∀ l : List Cs, belowL n (encCs l) = true
  | [] => rfl
  | d :: l => by simp [belowL, below_encC, below_encCs n l]
section
variable {R : Type}
@[simp] theorem onC (c : Cs) (K : List V → Int → Int → List V → Int → Int → List V → Option R) : onStruct (R := R) [CT.slice (some 5), CT.int, CT.int, CT.slice (some 3), CT.int, CT.int, CT.slice (some 3)] (encC c) K = K (encMs c.ms) c.q.k c.q.h (encs c.q.args) c.t.k c.t.h (encs c.t.args) := rfl
@[simp] theorem onSpr_spr (sh : Sh) (es : List V) (r : Nat) (K : List V → Nat → Option R) : onSpr sh (.spr sh es r) K = K es r := by show (if sh = sh then K es r else none) = _; rw [if_pos rfl]
@[simp] theorem onSpare_spare (sh : Sh) (n q : Nat) (K : Sh → Nat → Nat → Option R) : onSpare (.spare sh n q) K = K sh n q := rfl
end

/-! ### what split.Cases tells -/
def C0 : Cs := ⟨[], T0, T0⟩
/-- What a Const is applied to, one by one. -/
noncomputable def constL (psi : List T) : Nat → List M → List T → T → (List M × List T × T) × Int
  | 0, ms, qa, t => ((ms, qa, t), 0)
  | n + 1, ms, qa, t =>
    if t.k = 1 then
      let g := general psi (t.args.getD 0 T0) ms.length
      if g.2.2.2 ≠ 0 then ((ms, qa, t), g.2.2.2) else
      let u := applyF (t.args.getD 1 T0) [g.2.2.1] 0
      if u.2 ≠ 0 then ((ms, qa, t), u.2) else constL psi n (ms ++ [⟨g.1, g.2.1, false⟩]) (qa ++ [g.2.2.1]) u.1
    else ((ms, qa, t), 0)
noncomputable def constC (dl : List M) (psi : List T) (no : Nat) (t : T) : Cs × Int :=
  let r := constL psi (split t).1.length dl [] t
  if r.2 ≠ 0 then (C0, r.2) else if 40 < r.1.1.length then (C0, 4) else (⟨r.1.1, .mk 5 no r.1.2.1, r.1.2.2⟩, 0)
/-- The cases of a list's constants; of the context's variables, the last one first; of what is around. -/
noncomputable def constsC (sig : List D) (dl : List M) (psi : List T) (l : List Nat) : List (Cs × Int) := l.map fun no => constC dl psi no ((sig.map D.t).getD no T0)
def family (t : T) : Int := if (split t).2.k = 2 then (split t).2.h else -1
/-- The declarations that come to a family, from a number on. -/
def consts (fam : Int) : List D → Nat → List Nat
  | [], _ => []
  | d :: ds, i => if 0 ≤ fam ∧ family d.t = fam then i :: consts fam ds (i + 1) else consts fam ds (i + 1)
def encIs (l : List Nat) : List V := l.map fun (i : Nat) => V.int (i : Int)
theorem consts_length (fam : Int) : ∀ (ds : List D) (i : Nat), (consts fam ds i).length ≤ ds.length
  | [], _ => Nat.le_refl _
  | d :: ds, i => by
    have := consts_length fam ds (i + 1)
    unfold consts
    split <;> simp <;> omega
theorem consts_mem (fam : Int) : ∀ (ds : List D) (i k : Nat), k ∈ consts fam ds i → i ≤ k ∧ 0 ≤ fam ∧ ∃ h : k - i < ds.length, family ds[k - i].t = fam
  | d :: ds, i, k, h => by
    unfold consts at h
    have step : k ∈ consts fam ds (i + 1) → i ≤ k ∧ 0 ≤ fam ∧ ∃ h : k - i < (d :: ds).length, family (d :: ds)[k - i].t = fam := fun h => by
      obtain ⟨h1, h2, h3, h4⟩ := consts_mem fam ds (i + 1) k h
      refine ⟨by omega, h2, by simp; omega, ?_⟩
      have e : k - i = (k - (i + 1)) + 1 := by omega
      simp only [e, List.getElem_cons_succ]
      exact h4
    split at h
    · rename_i hc
      rcases List.mem_cons.1 h with rfl | h
      · exact ⟨Nat.le_refl _, hc.1, by simp, by simpa using hc.2⟩
      · exact step h
    · exact step h
theorem below_encIs (l : List Nat) : belowL 0 (encIs l) = true := by
  induction l with
  | nil => rfl
  | cons a l ih => simpa [encIs, belowL, below] using ih
def ownP (f : Int) (t : T) : Bool := decide (0 ≤ f) && decide (family t = f)
def varC (f : Int) (dl : List M) (i : Nat) (t : T) : List (Cs × Int) :=
  if t.k ≠ 2 then [(⟨dl, .mk 4 i [], upP t (i + 1) 0⟩, 5)] else if ownP f t then [(⟨dl, .mk 4 i [], upP t (i + 1) 0⟩, 0)] else []
def varsC (f : Int) (dl : List M) : Nat → List T → List (Cs × Int)
  | _, [] => []
  | i, t :: r => varC f dl i t ++ varsC f dl (i + 1) r
def aroundC (f : Int) (dl : List M) (t : T) : List (Cs × Int) := if ownP f t then [(⟨dl ++ [⟨[], t, true⟩], .mk 6 dl.length [], t⟩, 0)] else []
/-- The first error, or all. -/
def feed : List Cs → List (Cs × Int) → List Cs × Int
  | acc, [] => (acc, 0)
  | acc, (x, e) :: r => if e = 0 then feed (acc ++ [x]) r else (acc, e)
theorem feed_append : ∀ (a b : List (Cs × Int)) (acc : List Cs), feed acc (a ++ b) = if (feed acc a).2 = 0 then feed (feed acc a).1 b else feed acc a
  | [], b, acc => by simp [feed]
  | (x, e) :: a, b, acc => by
    simp only [List.cons_append, feed]
    split
    · exact feed_append a b _
    · rename_i h; simp [h]
end Go.Ama

/-! What a Const's case comes to: bounds, families. -/
namespace Go.Ama
open Go Go.AM

theorem may_iff {t : T} : may t = true ↔ nodesB t = true ∧ t.size ≤ 4000 ∧ t.depth ≤ 60 := by
  unfold may; simp only [Bool.and_eq_true, decide_eq_true_eq]
theorem depth_arg {t x : T} (h : x ∈ t.args) : x.depth < t.depth := by
  cases t with
  | mk k hd ys => have := depth_le h; simp only [T.args] at this h; have := depth_le h; simp only [T.depth]; omega
theorem may_arg {t x : T} (h : may t = true) (hx : x ∈ t.args) : may x = true := by
  obtain ⟨h1, h2, h3⟩ := may_iff.1 h
  refine may_iff.2 ⟨?_, by have := args_size hx; omega, by have := depth_arg hx; omega⟩
  cases t with
  | mk k hd ys =>
    simp only [nodesB, Bool.and_eq_true, nodess_all, List.all_eq_true] at h1
    exact h1.2 x hx
theorem may_node {t : T} (h : may t = true) : may1 t.k t.h t.args.length = true := by
  obtain ⟨h1, _⟩ := may_iff.1 h
  cases t with
  | mk k hd ys => simp only [nodesB, Bool.and_eq_true] at h1; exact h1.1
theorem may_pi {t : T} (h : may t = true) (hk : t.k = 1) : t.args.length = 2 := by
  have := may_node h
  rw [hk] at this
  simp [may1] at this
  exact this.2

mutual
theorem okB_of {B : Int} (hB : 1099511627776 ≤ B) : ∀ t : T, nodesB t = true → low t = true → okB B t
  | .mk k h ys, h1, h2 => by
    simp only [nodesB, Bool.and_eq_true] at h1
    simp only [low, Bool.and_eq_true, decide_eq_true_eq] at h2
    refine ⟨⟨?_, by omega⟩, ?_, okBs_of hB ys h1.2 h2.2⟩
    · have := h1.1
      unfold may1 at this
      repeat' split at this
      all_goals simp at this; omega
    · rintro rfl e
      subst e
      have := h1.1
      simp [may1] at this
theorem okBs_of {B : Int} (hB : 1099511627776 ≤ B) : ∀ l : List T, nodess l = true → low.lows l = true → okBs B l
  | [], _, _ => trivial
  | a :: l, h1, h2 => by
    simp only [nodess, Bool.and_eq_true] at h1
    simp only [low.lows, Bool.and_eq_true] at h2
    exact ⟨okB_of hB a h1.1 h2.1, okBs_of hB l h1.2 h2.2⟩
end
theorem okB_args {B : Int} {t x : T} (h : okB B t) (hx : x ∈ t.args) : okB B x := by
  cases t with
  | mk k hd ys => exact (okBs_iff B ys).1 h.2.2 x hx

/-- Errors of substituting. -/
theorem big_err {j : Job} {o : Oj} (h : Big j o) : ∀ e, o = .e e → e = 3 ∨ e = 4 := by
  induction h with
  | apLimit => rintro e ⟨⟩; exact .inr rfl
  | apErr _ _ _ ih => rintro e ⟨⟩; exact ih _ rfl
  | apNode => rintro e ⟨⟩
  | apVar _ _ _ _ _ _ _ _ _ ih => exact ih
  | arNil => rintro e ⟨⟩
  | arErr _ _ ih => rintro e ⟨⟩; exact ih _ rfl
  | arErr2 _ _ _ _ ih => rintro e ⟨⟩; exact ih _ rfl
  | arCons => rintro e ⟨⟩
  | spNil => rintro e ⟨⟩
  | spMay => rintro e ⟨⟩; exact .inr rfl
  | spErr _ _ _ _ _ ih => rintro e ⟨⟩; exact ih _ rfl
  | spLam _ _ _ _ _ _ _ ih => exact ih
  | spApp => rintro e ⟨⟩
  | spType => rintro e ⟨⟩; exact .inl rfl

/-- What is told, if all is well. -/
theorem applyF_ok {β : Int} (hβ : okBase β) {t : T} {l : List T} {s : Int} (ht : may t = true → okB β t) (hl : maySu l s = true → ∀ x ∈ l, okB β x) (h : (applyF t l s).2 = 0) :
    may (applyF t l s).1 = true ∧ okB (β + 83886080000) (applyF t l s).1 ∧ ∃ m, Big (.ap 0 t l s) (.t (applyF t l s).1 m) := by
  unfold applyF applyR at h ⊢
  split at h
  · rename_i hm
    rw [if_pos hm]
    simp only [Bool.and_eq_true] at hm
    obtain ⟨hB, hP, _⟩ := outF_ok hβ (ht hm.1) (hl hm.2) hm.1 hm.2
    generalize outF t l s = o at *
    cases o with
    | l _ _ => exact hP.elim
    | e e =>
      rcases big_err hB e rfl with rfl | rfl <;> simp [toldR] at h
    | t u m =>
      obtain ⟨p1, p2, p3, p4⟩ := hP
      have hmu : may u = true := by
        cases hx : may u with
        | true => rfl
        | false => simp [toldR, hx] at h
      have e : (toldR (.t u m)).1 = u := by simp [toldR, hmu]
      rw [e]
      exact ⟨hmu, okB_mono (by unfold bnd; omega) u p4, m, hB⟩
  · simp at h

/-- A type that comes to a family does so when it is substituted in. -/
theorem big_split : ∀ (N : Nat) (t : T), t.size ≤ N → (split t).2.k = 2 → ∀ {n m : Nat} {l : List T} {s : Int} {u : T}, Big (.ap n t l s) (.t u m) →
    (split u).1.length = (split t).1.length ∧ (split u).2.k = 2 ∧ (split u).2.h = (split t).2.h := by
  intro N
  induction N with
  | zero => intro t h; have := size_pos t; omega
  | succ N ih =>
    intro t hN hk n m l s u hB
    by_cases hc : t.k = 1 ∧ t.args.length = 2
    · obtain ⟨a, b, hab⟩ := len2 hc.2
      rw [split_pi hc.1 hab] at hk ⊢
      cases hB with
      | apVar _ _ _ hk4 _ _ _ _ => rw [hc.1] at hk4; cases hk4
      | apNode _ _ _ b1 =>
        rw [hab] at b1
        cases b1 with
        | arCons _ b2 c2 =>
          cases c2 with
          | arCons _ b3 c3 =>
            cases c3
            have hs : b.size < t.size := args_size (by rw [hab]; simp)
            obtain ⟨r1, r2, r3⟩ := ih b (by omega) hk b3
            rw [split_pi (t := T.mk t.k t.h _) hc.1 rfl]
            exact ⟨by simp [r1], r2, r3⟩
    · rw [split_end hc] at hk ⊢
      cases hB with
      | apVar _ _ _ hk4 _ _ _ _ => rw [hk] at hk4; cases hk4
      | apNode _ _ _ b1 =>
        rw [split_end (t := T.mk t.k t.h _) (fun h => by rw [T_k_mk, hk] at h; omega)]
        exact ⟨rfl, hk, rfl⟩
theorem family_big {t : T} {n m : Nat} {l : List T} {s : Int} {u : T} (hk : (split t).2.k = 2) (hB : Big (.ap n t l s) (.t u m)) : family u = family t := by
  obtain ⟨h1, h2, h3⟩ := big_split t.size t (Nat.le_refl _) hk hB
  unfold family
  rw [h2, h3, hk]

/-! ### the most general term -/
theorem lamN_size : ∀ (n : Nat) (t : T), (lamN n t).size = n + t.size
  | 0, t => by simp [lamN]
  | n + 1, t => by rw [lamN_succ]; simp only [T.size, sizes, lamN_size n t]; omega
theorem vars_sizes (n : Nat) : sizes (vars n) = n := by
  have : ∀ l : List T, (∀ x ∈ l, x.size = 1) → sizes l = l.length := by
    intro l
    induction l with
    | nil => intro _; rfl
    | cons a l ih => intro h; simp only [sizes, h a (by simp), ih fun x hx => h x (by simp [hx]), List.length_cons]; omega
  rw [this _ (fun x hx => ?_), vars_length]
  simp only [vars, List.mem_map] at hx
  obtain ⟨i, _, rfl⟩ := hx
  simp [var, T.size, sizes]
theorem general_ok {psi : List T} {a : T} {n : Nat} (h : (general psi a n).2.2.2 = 0) : (general psi a n).2.2.1 = lamN (split a).1.length (.mk 6 n (vars (psi.length + (split a).1.length))) ∧ psi.length + (split a).1.length ≤ 40 ∧ (general psi a n).1 = psi ++ (split a).1 ∧ (general psi a n).2.1 = (split a).2 := by
  unfold general at h ⊢
  split at h
  · simp at h
  · rename_i h1
    split at h
    · simp at h
    · rename_i h2
      rw [if_neg h1, if_neg h2]
      simp only [Bool.not_eq_true, Bool.or_eq_false_iff, decide_eq_false_iff_not] at h1
      exact ⟨rfl, by omega, rfl, rfl⟩
theorem okB_lamN {B : Int} (hB : 0 ≤ B) : ∀ (n : Nat) (t : T), okB B t → okB B (lamN n t)
  | 0, t, h => h
  | n + 1, t, h => by rw [lamN_succ]; exact ⟨⟨by omega, hB⟩, by simp, okB_lamN hB n t h, trivial⟩
theorem general_okB {psi : List T} {a : T} {n : Nat} {B : Int} (hB : 1099511627776 ≤ B) (hn : n ≤ 1099511627776) (h : (general psi a n).2.2.2 = 0) : okB B (general psi a n).2.2.1 ∧ (general psi a n).2.2.1.size ≤ 100 := by
  obtain ⟨h1, h2, _⟩ := general_ok h
  rw [h1]
  refine ⟨okB_lamN (by omega) _ _ ⟨⟨by omega, by omega⟩, by simp, ?_⟩, ?_⟩
  · rw [okBs_iff]
    intro x hx
    simp only [vars, List.mem_map, List.mem_reverse, List.mem_range] at hx
    obtain ⟨i, hi, rfl⟩ := hx
    exact ⟨⟨by omega, by omega⟩, by simp, trivial⟩
  · rw [lamN_size]; simp only [T.size, vars_sizes]; omega

theorem split_len {t : T} (h : (split t).1.length = 0) : ¬ (t.k = 1 ∧ t.args.length = 2) := fun hc => by
  obtain ⟨a, b, hab⟩ := len2 hc.2
  rw [split_pi hc.1 hab] at h
  simp at h
theorem chain_le : ∀ (N : Nat) (t : T), t.size ≤ N → (split t).1.length < t.depth := by
  intro N
  induction N with
  | zero => intro t h; have := size_pos t; omega
  | succ N ih =>
    intro t h
    by_cases hc : t.k = 1 ∧ t.args.length = 2
    · obtain ⟨a, b, hab⟩ := len2 hc.2
      have hs : b.size < t.size := args_size (by rw [hab]; simp)
      have hd : b.depth < t.depth := depth_arg (by rw [hab]; simp)
      rw [split_pi hc.1 hab]
      have := ih b (by omega)
      simp; omega
    · rw [split_end hc]
      cases t; simp only [T.depth, List.length_nil]; omega

/-- A Const's case: its metas begin with those given; its type comes to the same family. -/
theorem constL_ok {psi : List T} : ∀ (n : Nat) (ms : List M) (qa : List T) (t : T) (β : Int), 1099511627776 ≤ β → okBase (β + n * 83886080000) → (split t).1.length = n → (split t).2.k = 2 → may t = true → okB β t → ms.length + n ≤ 1099511627776 → (constL psi n ms qa t).2 = 0 →
    ∃ more, (constL psi n ms qa t).1.1 = ms ++ more ∧ family (constL psi n ms qa t).1.2.2 = family t ∧ more.length = n ∧ (∀ m ∈ more, sizes m.ctx + m.t.size ≤ sizes psi + 4000) ∧ sizes (constL psi n ms qa t).1.2.1 ≤ sizes qa + n * 100 ∧ may (constL psi n ms qa t).1.2.2 = true
  | 0, ms, qa, t, β, _, _, _, _, hm, _, _, _ => ⟨[], by simp [constL], rfl, rfl, by simp, by simp [constL], by simpa [constL] using hm⟩
  | n + 1, ms, qa, t, β, hβ1, hβ, hn, hk, hm, ho, hl, h0 => by
    have hc : t.k = 1 ∧ t.args.length = 2 := by
      by_cases hc : t.k = 1 ∧ t.args.length = 2
      · exact hc
      · rw [split_end hc] at hn; simp at hn
    obtain ⟨a, b, hab⟩ := len2 hc.2
    have hsp := split_pi hc.1 hab
    rw [hsp] at hn hk
    simp only [List.length_cons, Nat.add_right_cancel_iff] at hn
    have hbm : b ∈ t.args := by rw [hab]; simp
    unfold constL at h0 ⊢
    rw [if_pos hc.1] at h0 ⊢
    simp only [hab, List.getD_cons_zero, List.getD_cons_succ] at h0 ⊢
    split at h0
    · rename_i h; exact absurd h0 h
    rename_i hg
    rw [if_neg hg]
    have hg' : (general psi a ms.length).2.2.2 = 0 := by simpa using hg
    obtain ⟨g1, g2⟩ := general_okB (B := β) hβ1 (by omega) hg'
    split at h0
    · rename_i h; exact absurd h0 h
    rename_i hu
    rw [if_neg hu]
    have hu' : (applyF b [(general psi a ms.length).2.2.1] 0).2 = 0 := by simpa using hu
    have hβ' : okBase β := ⟨by omega, by unfold okBase at hβ; omega⟩
    obtain ⟨u1, u2, m, u3⟩ := applyF_ok hβ' (fun _ => okB_args ho hbm) (fun _ x hx => by simp at hx; rw [hx]; exact g1) hu'
    obtain ⟨s1, s2, s3⟩ := big_split _ b (Nat.le_refl _) hk u3
    obtain ⟨more, r1, r2, r3, r4, r5, r6⟩ := constL_ok n _ _ _ (β + 83886080000) (by omega) (by unfold okBase at hβ ⊢; omega) (by omega) s2 u1 u2 (by simp; omega) h0
    obtain ⟨_, _, q1, q2⟩ := general_ok hg'
    have ham : a ∈ t.args := by rw [hab]; simp
    have hsa := may_size (may_arg hm ham)
    have hss := split_size a.size a (Nat.le_refl _)
    refine ⟨⟨(general psi a ms.length).1, (general psi a ms.length).2.1, false⟩ :: more, by rw [r1]; simp, ?_, by simp [r3], ?_, ?_, r6⟩
    · rw [r2, family_big hk u3]
      unfold family
      rw [hsp]
    · intro m hm
      rcases List.mem_cons.1 hm with rfl | hm
      · simp only [q1, q2, sizes_append]; omega
      · exact r4 m hm
    · rw [sizes_append] at r5
      simp only [sizes] at r5
      omega
end Go.Ama
namespace Go.Ama
open Go Go.AM
def mayP (sig : List D) (sch : List T) (dl : List M) (psi : List T) (a : T) : Bool :=
  decide (dl.length ≤ 40) && (decide (psi.length ≤ 40) && (sig.all (fun d => may d.t) && (psi.all may && (sch.all may && may a))))
/-- What something may look like. -/
noncomputable def allC (sig : List D) (sch : List T) (dl : List M) (psi : List T) (a : T) : List (Cs × Int) :=
  constsC sig dl psi (consts (family a) sig 0) ++ (varsC (family a) dl 0 psi.reverse ++ sch.flatMap (aroundC (family a) dl))
noncomputable def casesF (sig : List D) (sch : List T) (dl : List M) (psi : List T) (a : T) : List Cs × Int :=
  if mayP sig sch dl psi a then (if (feed [] (allC sig sch dl psi a)).2 = 0 then feed [] (allC sig sch dl psi a) else ([], (feed [] (allC sig sch dl psi a)).2)) else ([], 1)
end Go.Ama
namespace Go.Ama
open Go Go.AM
/-- A case that is told. -/
def okC (dl : List M) (a : T) (B : Nat) (c : Cs) : Prop :=
  (∃ more, c.ms = dl ++ more ∧ more.length ≤ 100 ∧ ∀ m ∈ more, sizes m.ctx + m.t.size ≤ B) ∧ family c.t = family a ∧ c.q.size ≤ B ∧ c.t.size ≤ B
theorem feed_mem : ∀ (l : List (Cs × Int)) (acc : List Cs) (c : Cs), c ∈ (feed acc l).1 → c ∈ acc ∨ (c, 0) ∈ l
  | [], acc, c, h => .inl h
  | (x, e) :: l, acc, c, h => by
    simp only [feed] at h
    split at h
    · rename_i he
      rcases feed_mem l _ c h with h | h
      · rcases List.mem_append.1 h with h | h
        · exact .inl h
        · simp at h; subst h he; exact .inr (by simp)
      · exact .inr (by simp [h])
    · exact .inl h
theorem family_fam {t : T} (hk : t.k = 2) : family t = t.h := by
  unfold family
  rw [split_end fun h => by rw [hk] at h; omega]
  simp [hk]
theorem family_upP {t : T} (hk : t.k = 2) (b f : Int) : family (upP t b f) = family t := by
  unfold upP
  split
  · cases t with
    | mk k h ys =>
      simp only [T_k_mk] at hk
      subst hk
      rw [family_fam (t := upT b f 0 (T.mk 2 h ys)) (by simp [upT]), family_fam (t := T.mk 2 h ys) rfl]
      simp [upT]
  · rfl
theorem casesF_ok {sig : List D} {sch : List T} {dl : List M} {psi : List T} {a : T} (hlow : ∀ d ∈ sig, low d.t = true) (hdl : dl.length ≤ 1048576) (hpsi : sizes psi ≤ 1048576) :
    ∀ c ∈ (casesF sig sch dl psi a).1, okC dl a 1060000 c := by
  intro c hc
  unfold casesF at hc
  split at hc
  rotate_left
  · cases hc
  rename_i hm
  split at hc
  rotate_left
  · cases hc
  unfold mayP at hm
  simp only [Bool.and_eq_true, decide_eq_true_eq, List.all_eq_true] at hm
  obtain ⟨m1, m2, m3, m4, m5, m6⟩ := hm
  rcases feed_mem _ _ _ hc with h | h
  · cases h
  unfold allC at h
  simp only [List.mem_append] at h
  rcases h with h | h | h
  · unfold constsC at h
    simp only [List.mem_map] at h
    obtain ⟨no, h1, h2⟩ := h
    obtain ⟨_, k1, k2, k3⟩ := consts_mem _ _ _ _ h1
    simp only [Nat.sub_zero] at k2 k3
    have hd : (sig.map D.t).getD no T0 = sig[no].t := by simp [List.getD_eq_getElem?_getD, k2]
    rw [hd] at h2
    have hk : (split sig[no].t).2.k = 2 := by
      by_cases hk : (split sig[no].t).2.k = 2
      · exact hk
      · have : family sig[no].t = -1 := by unfold family; rw [if_neg hk]
        omega
    have hmt := m3 _ (List.getElem_mem k2)
    have hch := chain_le _ sig[no].t (Nat.le_refl _)
    have hdp := (may_iff.1 hmt).2.2
    unfold constC at h2
    simp only at h2
    split at h2
    · rename_i h0; simp only [Prod.mk.injEq] at h2; exact absurd h2.2 h0
    rename_i h0
    split at h2
    · simp only [Prod.mk.injEq] at h2; exact absurd h2.2 (by decide)
    simp only [Prod.mk.injEq] at h2
    obtain ⟨h2, _⟩ := h2
    subst h2
    obtain ⟨more, r1, r2, r3, r4, r5, r6⟩ := constL_ok _ dl [] sig[no].t 1099511627776 (Int.le_refl _) (by unfold okBase; omega) rfl hk hmt (okB_of (Int.le_refl _) _ (may_nodes hmt) (hlow _ (List.getElem_mem k2))) (by omega) (by simpa using h0)
    refine ⟨⟨more, r1, by omega, fun m hm => by have := r4 m hm; omega⟩, by rw [r2, k3], ?_, ?_⟩
    · simp only [T.size]
      simp only [sizes] at r5
      omega
    · have := may_size r6; simp only; omega
  · have : ∀ (l : List T) (i : Nat), (∀ t ∈ l, may t = true) → (c, 0) ∈ varsC (family a) dl i l → okC dl a 1060000 c := by
      intro l
      induction l with
      | nil => intro i _ h; cases h
      | cons t l ih =>
        intro i hl h
        unfold varsC at h
        rcases List.mem_append.1 h with h | h
        · unfold varC at h
          split at h
          · simp at h
          · rename_i hk
            have hk : t.k = 2 := by simpa using hk
            split at h
            · rename_i ho
              unfold Ama.ownP at ho
              simp only [Bool.and_eq_true, decide_eq_true_eq] at ho
              simp only [List.mem_singleton, Prod.mk.injEq, and_true] at h
              subst h
              have := may_size (hl t (by simp))
              exact ⟨⟨[], by simp, by simp, by simp⟩, by rw [family_upP hk, ho.2], by simp [T.size, sizes], by simp only [upP_size]; omega⟩
            · cases h
        · exact ih (i + 1) (fun t ht => hl t (by simp [ht])) h
    exact this _ _ (fun t ht => m4 t (by simpa using ht)) h
  · simp only [List.mem_flatMap] at h
    obtain ⟨t, ht, h⟩ := h
    unfold aroundC at h
    split at h
    · rename_i ho
      unfold Ama.ownP at ho
      simp only [Bool.and_eq_true, decide_eq_true_eq] at ho
      simp only [List.mem_singleton, Prod.mk.injEq, and_true] at h
      subst h
      have := may_size (m5 t ht)
      exact ⟨⟨[⟨[], t, true⟩], rfl, by simp, by simp [sizes]; omega⟩, ho.2, by simp [T.size, sizes], by simp only; omega⟩
    · cases h
theorem feed_len : ∀ (l : List (Cs × Int)) (acc : List Cs), (feed acc l).1.length ≤ acc.length + l.length
  | [], acc => by simp [feed]
  | (x, e) :: l, acc => by
    simp only [feed]
    split
    · have := feed_len l (acc ++ [x]); simp at this ⊢; omega
    · simp
theorem casesF_length (sig : List D) (sch : List T) (dl : List M) (psi : List T) (a : T) : (casesF sig sch dl psi a).1.length ≤ sig.length + psi.length + sch.length := by
  unfold casesF
  split
  · split
    · have h1 := feed_len (allC sig sch dl psi a) []
      have h2 : (allC sig sch dl psi a).length ≤ sig.length + psi.length + sch.length := by
        have hv : ∀ (l : List T) (i : Nat), (varsC (family a) dl i l).length ≤ l.length := by
          intro l
          induction l with
          | nil => intro i; simp [varsC]
          | cons t l ih =>
            intro i
            have := ih (i + 1)
            have : (varC (family a) dl i t).length ≤ 1 := by
              unfold varC
              split
              · simp
              · split <;> simp
            simp [varsC]; omega
        have ha : ∀ (l : List T), (l.flatMap (aroundC (family a) dl)).length ≤ l.length := by
          intro l
          induction l with
          | nil => simp
          | cons t l ih =>
            have : (aroundC (family a) dl t).length ≤ 1 := by unfold aroundC; split <;> simp
            simp [List.flatMap_cons] at ih ⊢; omega
        have q1 := hv psi.reverse 0
        have q2 := ha sch
        have q3 := consts_length (family a) sig 0
        simp [allC, constsC] at q1 q2 ⊢; omega
      simp at h1; omega
    · simp
  · simp
end Go.Ama

/-! Calls, clauses, functions; which are light. -/
namespace Go.Ama
open Go Go.AM

structure Cal where
  f : Int
  ext : List T
  theta : List T
  arg : T
structure Cl where
  metas : List M
  theta : List T
  p : T
  calls : List Cal
  r : T
structure Fun1 where
  name : Bytes
  schema : List T
  delta : List M
  psi : List T
  a : T
  phi : List T
  b : T
  total : Bool
  clauses : List Cl
def encCall (c : Cal) : V := .agg [.int c.f, .vec .plain (some 3) (encs c.ext), .vec .plain (some 3) (encs c.theta), .int c.arg.k, .int c.arg.h, .vec .plain (some 3) (encs c.arg.args)]
def encCalls (l : List Cal) : List V := l.map encCall
def encCl (c : Cl) : V := .agg [.vec .plain (some 5) (encMs c.metas), .vec .plain (some 3) (encs c.theta), .int c.p.k, .int c.p.h, .vec .plain (some 3) (encs c.p.args), .vec .plain (some 6) (encCalls c.calls), .int c.r.k, .int c.r.h, .vec .plain (some 3) (encs c.r.args)]
def encCls (l : List Cl) : List V := l.map encCl
def encFn (f : Fun1) : V := .agg [.str (ba f.name), .vec .plain (some 3) (encs f.schema), .vec .plain (some 5) (encMs f.delta), .vec .plain (some 3) (encs f.psi), .int f.a.k, .int f.a.h, .vec .plain (some 3) (encs f.a.args), .vec .plain (some 3) (encs f.phi), .int f.b.k, .int f.b.h, .vec .plain (some 3) (encs f.b.args), .bool f.total, .vec .plain (some 9) (encCls f.clauses)]
def encFns (l : List Fun1) : List V := l.map encFn
@[simp] theorem encCalls_length (l : List Cal) : (encCalls l).length = l.length := by simp [encCalls]
@[simp] theorem encCls_length (l : List Cl) : (encCls l).length = l.length := by simp [encCls]
@[simp] theorem encFns_length (l : List Fun1) : (encFns l).length = l.length := by simp [encFns]
theorem getI_encCalls {l : List Cal} {i : Nat} (h : i < l.length) : getI (encCalls l) (i : Int) = encCall l[i] := by
  simp [getI, encCalls, List.getD_eq_getElem?_getD, List.getElem?_map, h]
theorem getI_encCls {l : List Cl} {i : Nat} (h : i < l.length) : getI (encCls l) (i : Int) = encCl l[i] := by
  simp [getI, encCls, List.getD_eq_getElem?_getD, List.getElem?_map, h]
theorem getI_encFns {l : List Fun1} {i : Nat} (h : i < l.length) : getI (encFns l) (i : Int) = encFn l[i] := by
  simp [getI, encFns, List.getD_eq_getElem?_getD, List.getElem?_map, h]
theorem below_map {α : Type} {e : α → V} {n : Nat} (h : ∀ a, below n (e a) = true) : ∀ l : List α, belowL n (l.map e) = true
  | [] => rfl
  | a :: l => by simp [belowL, h a, below_map h l]
@[simp] theorem below_encCall (n : Nat) (c : Cal) : below n (encCall c) = true := by simp [encCall, below, belowL]
@[simp] theorem below_encCalls (n : Nat) (l : List Cal) : belowL n (encCalls l) = true := below_map (below_encCall n) l
@[simp] theorem below_encCl (n : Nat) (c : Cl) : below n (encCl c) = true := by simp [encCl, below, belowL]
@[simp] theorem below_encCls (n : Nat) (l : List Cl) : belowL n (encCls l) = true := below_map (below_encCl n) l
@[simp] theorem below_encFn (n : Nat) (f : Fun1) : below n (encFn f) = true := by simp [encFn, below, belowL]
@[simp] theorem below_encFns (n : Nat) (l : List Fun1) : belowL n (encFns l) = true := below_map (below_encFn n) l
attribute [simp] below_encM below_encD below_encDs below_encC

/-! ### bulk -/
theorem bulk_mem {l : List V} {v : V} (h : v ∈ l) : bulkV v ≤ bulkL l := by
  induction l with
  | nil => cases h
  | cons a l ih =>
    simp only [bulkL]
    rcases List.mem_cons.1 h with rfl | h
    · omega
    · have := ih h; omega
theorem bulk_len : ∀ l : List V, l.length ≤ bulkL l
  | [] => Nat.zero_le _
  | v :: l => by
    have := bulk_len l
    have : 1 ≤ bulkV v := by cases v <;> simp [bulkV]
    simp only [List.length_cons, bulkL]; omega
theorem bulk_parts (t : T) : bulkV (enc t) = 1 + 1 + (bulkL (encs t.args) + 1) + 1 := by
  rw [enc_eta]; simp only [bulkV, bulkL]; omega
theorem bulk_M (m : M) : 4 * (sizes m.ctx + m.t.size) ≤ bulkV (encM m) := by
  have h1 := bulk_encs m.ctx
  have h2 := bulk_enc m.t
  rw [bulk_parts] at h2
  simp only [encM, bulkV, bulkL]; omega
theorem bulk_Ms {l : List M} {m : M} (h : m ∈ l) : 4 * (sizes m.ctx + m.t.size) ≤ bulkL (encMs l) :=
  Nat.le_trans (bulk_M m) (bulk_mem (List.mem_map_of_mem h))
theorem bulk_D (d : D) : 4 * d.t.size ≤ bulkV (encD d) := by
  have h2 := bulk_enc d.t
  rw [bulk_parts] at h2
  simp only [encD, bulkV, bulkL]; omega
theorem bulk_Ds {l : List D} {d : D} (h : d ∈ l) : 4 * d.t.size ≤ bulkL (encDs l) :=
  Nat.le_trans (bulk_D d) (bulk_mem (List.mem_map_of_mem h))
theorem bulk_Call (c : Cal) : 4 * (sizes c.ext + sizes c.theta + c.arg.size) ≤ bulkV (encCall c) := by
  have h1 := bulk_encs c.ext
  have h3 := bulk_encs c.theta
  have h2 := bulk_enc c.arg
  rw [bulk_parts] at h2
  simp only [encCall, bulkV, bulkL]; omega
theorem bulk_Cl (c : Cl) : bulkL (encMs c.metas) + 4 * (sizes c.theta + c.p.size + c.r.size) + bulkL (encCalls c.calls) ≤ bulkV (encCl c) := by
  have h1 := bulk_encs c.theta
  have h2 := bulk_enc c.p
  have h3 := bulk_enc c.r
  rw [bulk_parts] at h2 h3
  simp only [encCl, bulkV, bulkL]; omega
theorem bulk_Fn (f : Fun1) : bulkL (encMs f.delta) + 4 * (sizes f.schema + sizes f.psi + f.a.size + sizes f.phi + f.b.size) + bulkL (encCls f.clauses) ≤ bulkV (encFn f) := by
  have h1 := bulk_encs f.schema
  have h2 := bulk_encs f.psi
  have h3 := bulk_encs f.phi
  have h4 := bulk_enc f.a
  have h5 := bulk_enc f.b
  rw [bulk_parts] at h4 h5
  simp only [encFn, bulkV, bulkL]; omega

/-! ### light -/
def few9 (l : List D) : Bool := decide (l.length ≤ 30) && l.all fun d => light 1000 80 d.t
def fewM (l : List M) : Bool := decide (l.length ≤ 30) && l.all fun m => lights 500 80 m.ctx && light 500 80 m.t
def few10 (sig : List D) (ms : List M) (ctx : List T) : Bool := few9 sig && (fewM ms && lights 500 80 ctx)
def lightCall (c : Cal) : Bool := lights 300 60 c.ext && (lights 300 60 c.theta && light 300 60 c.arg)
def lightCl (c : Cl) : Bool := fewM c.metas && (lights 300 60 c.theta && (light 300 60 c.p && (light 300 60 c.r && (decide (c.calls.length ≤ 50) && c.calls.all lightCall))))
def lightFn (f : Fun1) : Bool := fewM f.delta && (lights 300 60 f.schema && (lights 300 60 f.psi && (lights 300 60 f.phi && (light 300 60 f.a && (light 300 60 f.b && (decide (f.clauses.length ≤ 50) && f.clauses.all lightCl))))))
section
variable {R : Type}
@[simp] theorem onCall (c : Cal) (K : Int → List V → List V → Int → Int → List V → Option R) : onStruct (R := R) [CT.int, CT.slice (some 3), CT.slice (some 3), CT.int, CT.int, CT.slice (some 3)] (encCall c) K = K c.f (encs c.ext) (encs c.theta) c.arg.k c.arg.h (encs c.arg.args) := rfl
@[simp] theorem onCl (c : Cl) (K : List V → List V → Int → Int → List V → List V → Int → Int → List V → Option R) : onStruct (R := R) [CT.slice (some 5), CT.slice (some 3), CT.int, CT.int, CT.slice (some 3), CT.slice (some 6), CT.int, CT.int, CT.slice (some 3)] (encCl c) K = K (encMs c.metas) (encs c.theta) c.p.k c.p.h (encs c.p.args) (encCalls c.calls) c.r.k c.r.h (encs c.r.args) := rfl
@[simp] theorem onMc (m : M) (K : List V → Option R) : onAgg (encM m) (fun c => gd (decide (1 ≤ c.length)) (onVec (some 3) (AM.partOf c 0 none) K)) = K (encs m.ctx) := by
  show gd true (onVec (some 3) (.vec .plain (some 3) (encs m.ctx)) K) = _
  simp
@[simp] theorem onMt (m : M) (K : Int → Int → List V → Option R) : onAgg (encM m) (fun c => gd (decide (4 ≤ c.length)) (onCells (R := R) [CT.int, CT.int, CT.slice (some 3)] (List.take 3 (List.drop 1 c)) K)) = K m.t.k m.t.h (encs m.t.args) := rfl
end
theorem encCall_eta (c : Cal) : encCall c = .agg [.int c.f, .vec .plain (some 3) (encs c.ext), .vec .plain (some 3) (encs c.theta), .int c.arg.k, .int c.arg.h, .vec .plain (some 3) (encs c.arg.args)] := rfl
theorem encCl_eta (c : Cl) : encCl c = .agg [.vec .plain (some 5) (encMs c.metas), .vec .plain (some 3) (encs c.theta), .int c.p.k, .int c.p.h, .vec .plain (some 3) (encs c.p.args), .vec .plain (some 6) (encCalls c.calls), .int c.r.k, .int c.r.h, .vec .plain (some 3) (encs c.r.args)] := rfl
theorem encFn_eta (f : Fun1) : encFn f = .agg [.str (ba f.name), .vec .plain (some 3) (encs f.schema), .vec .plain (some 5) (encMs f.delta), .vec .plain (some 3) (encs f.psi), .int f.a.k, .int f.a.h, .vec .plain (some 3) (encs f.a.args), .vec .plain (some 3) (encs f.phi), .int f.b.k, .int f.b.h, .vec .plain (some 3) (encs f.b.args), .bool f.total, .vec .plain (some 9) (encCls f.clauses)] := rfl
end Go.Ama

/-! What is light. -/
namespace Go.Proofs.SW
open Go Go.AM Go.Ama

theorem not_gt_dec (n k : Nat) : decide ((n : Int) > (k : Int)) = !decide (n ≤ k) := by
  by_cases h : n ≤ k <;> simp [h] <;> omega

theorem few9_spec (l : List D) (hb : bulkL (encDs l) ≤ 4398046511104) : Ev 8 [.vec .plain (some 4) (encDs l)] (.bool (few9 l)) := by
  have hlen := bulk_len (encDs l)
  rw [encDs_length] at hlen
  have hl := all_loop' (L := fun i => W.loop 8 4 [.int i, .vec .plain (some 4) (encDs l)] []) (xs := l) (g := fun d => light 1000 80 d.t) (e0 := (Ex.exit 0, [], [])) (e1 := (Ex.ret, [V.bool false], []))
    (fun i hi => by
      have hp := (light_spec l[i].t 1000 80 (by have := bulk_Ds (List.getElem_mem hi); omega)).p
      have hlt : decide ((i : Int) < l.length) = true := by simp; omega
      show W.loop _ _ _ _ = _
      rw [L, e_law09_Few_L4, encDs_length, getI_encDs hi, wrap_id ⟨by omega, by omega⟩]
      simp only [hlt, Int.natCast_nonneg, decide_true, bc_true, Bool.and_self, gd_true, onDt, ← enc_eta, hp, obind_some', onBool_bool]
      cases light 1000 80 l[i].t <;> rfl)
    (by
      show W.loop _ _ _ _ = _
      rw [L, e_law09_Few_L4, encDs_length]
      simp)
  unfold Ev few9
  have e30 : decide ((l.length : Int) > 30) = !decide (l.length ≤ 30) := not_gt_dec l.length 30
  have hl' : W.loop 8 4 [.int 0, .vec .plain (some 4) (encDs l)] [] = _ := hl
  rw [C, e_law09_Few, encDs_length, hl', e30]
  cases decide (l.length ≤ 30) <;> cases l.all (fun d => light 1000 80 d.t) <;> rfl

end Go.Proofs.SW

/-! What a law is handed: bytes, tokens. -/
namespace Go.Proofs.SW
open Go Go.AM Go.Ama
set_option maxRecDepth 20000

theorem dec_int {n : Nat} {cs : List V} (h : WT Tryd.prog n 3 cs) : ∃ z : Int, cs = [.int z] ∧ I64 z := by
  cases n with
  | zero => exact h.elim
  | succ n =>
    simp only [WT, Tryd.underlying3] at h
    obtain ⟨z, h1, h2⟩ := h
    refine ⟨z, h1, ?_⟩
    simpa [Lit.wf, IntKind.min, IntKind.max, IntKind.signed, IntKind.bits, I64] using h2
theorem dec_byte {n : Nat} {cs : List V} (h : WT Tryd.prog n 5 cs) : ∃ c : UInt8, cs = [.ik .u8 (c.toNat : Int)] := by
  cases n with
  | zero => exact h.elim
  | succ n =>
    simp only [WT, Tryd.underlying5] at h
    obtain ⟨z, h1, h2⟩ := h
    have h3 : 0 ≤ z ∧ z ≤ 255 := by simpa [Lit.wf, IntKind.min, IntKind.max, IntKind.signed, IntKind.bits] using h2
    refine ⟨UInt8.ofNat z.toNat, ?_⟩
    rw [h1]
    have : ((UInt8.ofNat z.toNat).toNat : Int) = z := by
      rw [UInt8.toNat_ofNat']
      omega
    rw [this]
theorem dec_string {n : Nat} {cs : List V} (h : WT Tryd.prog n 9 cs) : ∃ s : Bytes, cs = [.str (ba s)] := by
  cases n with
  | zero => exact h.elim
  | succ n =>
    simp only [WT, Tryd.underlying9] at h
    obtain ⟨s, h1, h2⟩ := h
    exact ⟨s.data.toList, by rw [ba_data]; exact h1⟩

theorem shByte : shOf Tryd.prog 5 = none := by kernel_rfl
theorem shTok : shOf Tryd.prog 58 = some 2 := by kernel_rfl
theorem shBytes : shOf Tryd.prog 29 = none := by kernel_rfl
theorem shToks : shOf Tryd.prog 47 = none := by kernel_rfl
theorem shInt : shOf Tryd.prog 3 = none := by kernel_rfl
theorem cellsTok : Tryd.prog.cellsOf 58 = 2 := by kernel_rfl
theorem cellsInt : Tryd.prog.cellsOf 3 = 1 := by kernel_rfl
theorem cellsString : Tryd.prog.cellsOf 9 = 1 := by kernel_rfl

theorem list2 {l : List V} (h : l.length = 2) : ∃ x y, l = [x, y] := by
  match l, h with
  | [x, y], _ => exact ⟨x, y, rfl⟩
theorem one_cell {v : V} (h : Shaped none v) : AM.cellsOf v = [v] := by cases v <;> first | rfl | exact h.elim

theorem dec_bytes {v : V} (h : (∃ n, WT Tryd.prog n 29 (AM.cellsOf v)) ∧ Shaped (shOf Tryd.prog 29) v) : ∃ b : Bytes, v = .vec .plain none (encB b) := by
  obtain ⟨⟨n, h1⟩, h2⟩ := h
  rw [shBytes] at h2
  rw [one_cell h2] at h1
  cases n with
  | zero => exact h1.elim
  | succ n =>
    simp only [WT, Tryd.underlying29] at h1
    obtain ⟨es, he, _, hes⟩ := h1
    simp only [List.cons.injEq, and_true] at he
    subst he
    rw [shByte] at hes ⊢
    have : ∀ es : List V, (∀ v ∈ es, Shaped none v ∧ WT Tryd.prog n 5 (AM.cellsOf v)) → ∃ b : Bytes, es = encB b := by
      intro es
      induction es with
      | nil => intro _; exact ⟨[], rfl⟩
      | cons v es ih =>
        intro h
        obtain ⟨k1, k2⟩ := h v (by simp)
        obtain ⟨b, rfl⟩ := ih fun u hu => h u (by simp [hu])
        rw [one_cell k1] at k2
        obtain ⟨c, hc⟩ := dec_byte k2
        simp only [List.cons.injEq, and_true] at hc
        exact ⟨c :: b, by rw [hc]; rfl⟩
    obtain ⟨b, rfl⟩ := this es hes
    exact ⟨b, rfl⟩

theorem dec_toks {v : V} (h : (∃ n, WT Tryd.prog n 47 (AM.cellsOf v)) ∧ Shaped (shOf Tryd.prog 47) v) : ∃ l : List Tok, v = .vec .plain (some 2) (encToks l) := by
  obtain ⟨⟨n, h1⟩, h2⟩ := h
  rw [shToks] at h2
  rw [one_cell h2] at h1
  cases n with
  | zero => exact h1.elim
  | succ n =>
    simp only [WT, Tryd.underlying47] at h1
    obtain ⟨es, he, _, hes⟩ := h1
    simp only [List.cons.injEq, and_true] at he
    subst he
    rw [shTok] at hes ⊢
    have : ∀ es : List V, (∀ v ∈ es, Shaped (some 2) v ∧ WT Tryd.prog n 58 (AM.cellsOf v)) → ∃ l : List Tok, es = encToks l := by
      intro es
      induction es with
      | nil => intro _; exact ⟨[], rfl⟩
      | cons v es ih =>
        intro h
        obtain ⟨k1, k2⟩ := h v (by simp)
        obtain ⟨l, rfl⟩ := ih fun u hu => h u (by simp [hu])
        cases v with
        | agg cs =>
          cases n with
          | zero => exact k2.elim
          | succ n =>
            simp only [WT, Tryd.underlying58] at k2
            obtain ⟨hl, hf⟩ := k2
            rw [cellsTok] at hl
            obtain ⟨x, y, rfl⟩ := list2 hl
            simp only [List.forall_mem_cons] at hf
            obtain ⟨f1, f2, _⟩ := hf
            simp only [cellsInt, cellsString, List.drop_zero, List.drop_succ_cons, List.take_succ_cons, List.take_zero] at f1 f2
            obtain ⟨k, hk, _⟩ := dec_int f1
            obtain ⟨s, hs⟩ := dec_string f2
            cases hk; cases hs
            exact ⟨(k, s) :: l, rfl⟩
        | _ => exact k1.elim
    obtain ⟨l, rfl⟩ := this es hes
    exact ⟨l, rfl⟩
theorem dec_num {v : V} (h : (∃ n, WT Tryd.prog n 3 (AM.cellsOf v)) ∧ Shaped (shOf Tryd.prog 3) v) : ∃ z, v = .int z ∧ I64 z := by
  obtain ⟨⟨n, h1⟩, h2⟩ := h
  rw [shInt] at h2
  rw [one_cell h2] at h1
  obtain ⟨z, hz, h3⟩ := dec_int h1
  simp only [List.cons.injEq, and_true] at hz
  exact ⟨z, hz, h3⟩
theorem dec_u8 {v : V} (h : (∃ n, WT Tryd.prog n 5 (AM.cellsOf v)) ∧ Shaped (shOf Tryd.prog 5) v) : ∃ c : UInt8, v = .ik .u8 (c.toNat : Int) := by
  obtain ⟨⟨n, h1⟩, h2⟩ := h
  rw [shByte] at h2
  rw [one_cell h2] at h1
  obtain ⟨z, hz⟩ := dec_byte h1
  simp only [List.cons.injEq, and_true] at hz
  exact ⟨z, hz⟩
theorem of_ev {f : Nat} {args : List V} (h : Ev f args (.bool true)) : ∃ m st, (fuelO Tryd.prog cfg ext m).call f args [] = some (.ret (.bool true), st) := by
  obtain ⟨m, hm⟩ := om_fuel h
  exact ⟨m, [], hm⟩

end Go.Proofs.SW

/-! What a law is handed: terms, declarations, strings. -/
namespace Go.Proofs.SW
open Go Go.AM Go.Ama
set_option maxRecDepth 20000

theorem shTerm : shOf Tryd.prog 24 = some 3 := by kernel_rfl
theorem shTerms : shOf Tryd.prog 22 = none := by kernel_rfl
theorem shString : shOf Tryd.prog 9 = none := by kernel_rfl
theorem cellsTerms : Tryd.prog.cellsOf 22 = 1 := by kernel_rfl
theorem cellsTerm : Tryd.prog.cellsOf 24 = 3 := by kernel_rfl
theorem shDecl : shOf Tryd.prog 36 = some 4 := by kernel_rfl
theorem shDecls : shOf Tryd.prog 25 = none := by kernel_rfl
theorem cellsDecl : Tryd.prog.cellsOf 36 = 4 := by kernel_rfl

theorem dec_str {v : V} (h : (∃ n, WT Tryd.prog n 9 (AM.cellsOf v)) ∧ Shaped (shOf Tryd.prog 9) v) : ∃ s : Bytes, v = .str (ba s) := by
  obtain ⟨⟨n, h1⟩, h2⟩ := h
  rw [shString] at h2
  rw [one_cell h2] at h1
  obtain ⟨z, hz⟩ := dec_string h1
  simp only [List.cons.injEq, and_true] at hz
  exact ⟨z, hz⟩

theorem list3 {l : List V} (h : l.length = 3) : ∃ x y z, l = [x, y, z] := by
  match l, h with
  | [x, y, z], _ => exact ⟨x, y, z, rfl⟩
theorem list4 {l : List V} (h : l.length = 4) : ∃ x y z w, l = [x, y, z, w] := by
  match l, h with
  | [x, y, z, w], _ => exact ⟨x, y, z, w, rfl⟩

theorem dec_terms : ∀ n : Nat, (∀ cs, WT Tryd.prog n 24 cs → ∃ t, V.agg cs = enc t) ∧ (∀ cs, WT Tryd.prog n 22 cs → ∃ ts, cs = [.vec .plain (some 3) (encs ts)]) := by
  intro n
  induction n with
  | zero => exact ⟨fun cs h => h.elim, fun cs h => h.elim⟩
  | succ n ih =>
    refine ⟨fun cs h => ?_, fun cs h => ?_⟩
    · simp only [WT, Tryd.underlying24] at h
      obtain ⟨hl, hf⟩ := h
      rw [cellsTerm] at hl
      obtain ⟨x, y, z, rfl⟩ := list3 hl
      simp only [List.forall_mem_cons] at hf
      obtain ⟨f1, f2, f3, _⟩ := hf
      simp only [cellsInt, cellsTerms, List.drop_zero, List.drop_succ_cons, List.take_succ_cons, List.take_zero] at f1 f2 f3
      obtain ⟨k, hk, _⟩ := dec_int f1
      obtain ⟨h, hh, _⟩ := dec_int f2
      obtain ⟨ts, hts⟩ := ih.2 _ f3
      cases hk; cases hh; cases hts
      exact ⟨.mk k h ts, rfl⟩
    · simp only [WT, Tryd.underlying22] at h
      obtain ⟨es, rfl, _, he⟩ := h
      rw [shTerm] at he ⊢
      have : ∀ es : List V, (∀ v ∈ es, Shaped (some 3) v ∧ WT Tryd.prog n 24 (AM.cellsOf v)) → ∃ ts, es = encs ts := by
        intro es
        induction es with
        | nil => intro _; exact ⟨[], rfl⟩
        | cons v es ihe =>
          intro h
          obtain ⟨h1, h2⟩ := h v (by simp)
          obtain ⟨ts, hts⟩ := ihe fun u hu => h u (by simp [hu])
          cases v with
          | agg cs =>
            obtain ⟨t, ht⟩ := ih.1 cs h2
            exact ⟨t :: ts, by rw [encs_cons, ← ht, hts]⟩
          | _ => exact h1.elim
      obtain ⟨ts, rfl⟩ := this es he
      exact ⟨ts, rfl⟩

theorem dec_term {v : V} (h : (∃ n, WT Tryd.prog n 24 (AM.cellsOf v)) ∧ Shaped (shOf Tryd.prog 24) v) : ∃ t, v = enc t := by
  obtain ⟨⟨n, h1⟩, h2⟩ := h
  rw [shTerm] at h2
  cases v with
  | agg cs => exact (dec_terms n).1 cs h1
  | _ => exact h2.elim
theorem dec_list {v : V} (h : (∃ n, WT Tryd.prog n 22 (AM.cellsOf v)) ∧ Shaped (shOf Tryd.prog 22) v) : ∃ ts, v = .vec .plain (some 3) (encs ts) := by
  obtain ⟨⟨n, h1⟩, h2⟩ := h
  rw [shTerms] at h2
  rw [one_cell h2] at h1
  obtain ⟨ts, hts⟩ := (dec_terms n).2 _ h1
  simp only [List.cons.injEq, and_true] at hts
  exact ⟨ts, hts⟩

theorem dec_declc : ∀ n cs, WT Tryd.prog n 36 cs → ∃ d, V.agg cs = encD d := by
  intro n cs h
  cases n with
  | zero => exact h.elim
  | succ n =>
    simp only [WT, Tryd.underlying36] at h
    obtain ⟨hl, hf⟩ := h
    rw [cellsDecl] at hl
    obtain ⟨x, y, z, w, rfl⟩ := list4 hl
    simp only [List.forall_mem_cons] at hf
    obtain ⟨f1, f2, _⟩ := hf
    simp only [cellsString, cellsTerm, List.drop_zero, List.drop_succ_cons, List.take_succ_cons, List.take_zero] at f1 f2
    obtain ⟨s, hs⟩ := dec_string f1
    obtain ⟨t, ht⟩ := (dec_terms n).1 _ f2
    cases hs
    obtain ⟨k, h, l⟩ := t
    simp only [enc, V.agg.injEq, List.cons.injEq, and_true] at ht
    obtain ⟨rfl, rfl, rfl⟩ := ht
    exact ⟨⟨s, .mk k h l⟩, rfl⟩
theorem dec_decl {v : V} (h : (∃ n, WT Tryd.prog n 36 (AM.cellsOf v)) ∧ Shaped (shOf Tryd.prog 36) v) : ∃ d, v = encD d := by
  obtain ⟨⟨n, h1⟩, h2⟩ := h
  rw [shDecl] at h2
  cases v with
  | agg cs => exact dec_declc n cs h1
  | _ => exact h2.elim
theorem dec_decls {v : V} (h : (∃ n, WT Tryd.prog n 25 (AM.cellsOf v)) ∧ Shaped (shOf Tryd.prog 25) v) : ∃ l, v = .vec .plain (some 4) (encDs l) := by
  obtain ⟨⟨n, h1⟩, h2⟩ := h
  rw [shDecls] at h2
  rw [one_cell h2] at h1
  cases n with
  | zero => exact h1.elim
  | succ n =>
    simp only [WT, Tryd.underlying25] at h1
    obtain ⟨es, he0, _, he⟩ := h1
    rw [shDecl] at he he0
    have : ∀ es : List V, (∀ v ∈ es, Shaped (some 4) v ∧ WT Tryd.prog n 36 (AM.cellsOf v)) → ∃ l, es = encDs l := by
      intro es
      induction es with
      | nil => intro _; exact ⟨[], rfl⟩
      | cons v es ihe =>
        intro h
        obtain ⟨h1, h2⟩ := h v (by simp)
        obtain ⟨l, hl⟩ := ihe fun u hu => h u (by simp [hu])
        cases v with
        | agg cs =>
          obtain ⟨d, hd⟩ := dec_declc n cs h2
          exact ⟨d :: l, by rw [hl, hd]; rfl⟩
        | _ => exact h1.elim
    obtain ⟨l, rfl⟩ := this es he
    simp only [List.cons.injEq, and_true] at he0
    exact ⟨l, he0⟩
end Go.Proofs.SW

namespace Go.Proofs.SW
open Go Go.AM
set_option maxRecDepth 20000

theorem e_law15_ShowTells (O : Oracle) (n0 : Int) (n1 : Int) (l2 : (List V)) (l3 : (List V)) : callBody Tryd.prog cfg O 3 [.agg [.int n0, .int n1, .vec .plain (some 3) l2], .vec .plain (some 4) l3] [] =
  obind (pcall O 7 []) fun r1 => onBool r1 fun b2 => obind (pcall O 8 [V.vec .plain (some 4) l3]) fun r3 => onBool r3 fun b4 => obind (pcall O 9
  [V.agg [V.int n0, V.int n1, V.vec .plain (some 3) l2], V.int 1000, V.int 80]) fun r5 => onBool r5 fun b6 => obind (pcall O 10 [V.vec .plain (some 4) l3]) fun r7 =>
  onBool r7 fun b8 => bc (!b2) (some (Out.ret (V.bool b2), [])) (bc (!b4) (some (Out.ret (V.bool b2), [])) (bc (!b6) (some (Out.ret (V.bool b2), [])) (bc (!b8) (some (Out.ret
  (V.bool b2), [])) (obind (pcall O 11 [V.agg [V.int n0, V.int n1, V.vec .plain (some 3) l2], V.vec .plain (some 4) l3]) fun r9 => onTup r9 fun c10 => onCons c10 fun v11
  c12 => onVec none v11 fun l13 => onCons c12 fun v14 c15 => onInt v14 fun n16 => onNil c15 (obind (pcall O 12 [V.agg [V.int n0, V.int n1, V.vec .plain (some 3) l2], V.vec
  .plain (some 4) l3]) fun r17 => onTup r17 fun c18 => onCons c18 fun v19 c20 => onVec none v19 fun l21 => onCons c20 fun v22 c23 => onInt v22 fun n24 => onNil c23 (obind (pcall O
  13 [V.vec .plain (some 4) l3]) fun r25 => onTup r25 fun c26 => onCons c26 fun v27 c28 => onVec none v27 fun l29 => onCons c28 fun v30 c31 => onInt v30 fun n32 => onNil
  c31 (obind (pcall O 14 [V.vec .plain (some 4) l3]) fun r33 => onTup r33 fun c34 => onCons c34 fun v35 c36 => onVec none v35 fun l37 => onCons c36 fun v38 c39 => onInt
  v38 fun n40 => onNil c39 (gd (l13.all isU8) (gd (l21.all isU8) (bc ((strV l13).toList == (strV l21).toList) (bc (n16 == n24) (gd (l29.all isU8) (gd (l37.all isU8) (bc ((strV
  l29).toList == (strV l37).toList) (some (Out.ret (V.bool (n32 == n40)), [])) (some (Out.ret (V.bool false), []))))) (some (Out.ret (V.bool false), []))) (some (Out.ret (V.bool
  false), [])))))))))))) := by kernel_rfl

theorem e_law15_ShowMore (O : Oracle) (n0 : Int) (n1 : Int) (l2 : (List V)) (l3 : (List V)) (s4 : ByteArray) (n5 : Int) (n6 : Int) (l7 : (List V)) : callBody Tryd.prog cfg O 4 [.agg [.int n0, .int n1, .vec .plain (some 3) l2], .vec .plain (some 4) l3, .agg [.str s4, .int n5, .int n6, .vec .plain (some 3) l7]] [] =
  obind (pcall O 7 []) fun r1 => onBool r1 fun b2 => obind (pcall O 8 [V.vec .plain (some 4) l3]) fun r3 => onBool r3 fun b4 => obind (pcall O 9
  [V.agg [V.int n0, V.int n1, V.vec .plain (some 3) l2], V.int 1000, V.int 80]) fun r5 => onBool r5 fun b6 => obind (pcall O 9 [V.agg [V.int n5, V.int n6, V.vec .plain
  (some 3) l7], V.int 1000, V.int 80]) fun r7 => onBool r7 fun b8 => obind (pcall O 10 [V.vec .plain (some 4) l3]) fun r9 => onBool r9 fun b10 => bc (!b2) (some (Out.ret
  (V.bool b2), [])) (bc (!b4) (some (Out.ret (V.bool b2), [])) (bc (!b6) (some (Out.ret (V.bool b2), [])) (bc (!b8) (some (Out.ret (V.bool b2), [])) (bc (!b10) (some (Out.ret
  (V.bool b2), [])) (bc (decide ((↑s4.size : Int) > 100)) (some (Out.ret (V.bool b2), [])) (gd (true && roomFor Tryd.prog 36 (0 + l3.length)) (gd (true && roomFor Tryd.prog
  36 (([] ++ l3).length + [V.agg [V.str s4, V.int n5, V.int n6, V.vec .plain (some 3) l7]].length)) (obind (pcall O 11 [V.agg [V.int n0, V.int n1, V.vec .plain
  (some 3) l2], V.vec .plain (some 4) l3]) fun r11 => onTup r11 fun c12 => onCons c12 fun v13 c14 => onVec none v13 fun l15 => onCons c14 fun v16 c17 => onInt v16 fun n18 => onNil
  c17 (obind (pcall O 11 [V.agg [V.int n0, V.int n1, V.vec .plain (some 3) l2], V.vec .plain (some 4) ([] ++ l3 ++ [V.agg [V.str s4, V.int n5, V.int n6, V.vec .plain (some
  3) l7]])]) fun r19 => onTup r19 fun c20 => onCons c20 fun v21 c22 => onVec none v21 fun l23 => onCons c22 fun v24 c25 => onInt v24 fun n26 => onNil c25 (bc (n18 == 0) (bc (n26 !=
  0) (some (Out.ret (V.bool false), [])) (gd (l15.all isU8) (gd (l23.all isU8) (bc (!(strV l15).toList == (strV l23).toList) (some (Out.ret (V.bool false), [])) (obind (pcall O
  13 [V.vec .plain (some 4) l3]) fun r27 => onTup r27 fun c28 => onCons c28 fun v29 c30 => onVec none v29 fun l31 => onCons c30 fun v32 c33 => onInt v32 fun n34 => onNil
  c33 (obind (pcall O 13 [V.vec .plain (some 4) ([] ++ l3 ++ [V.agg [V.str s4, V.int n5, V.int n6, V.vec .plain (some 3) l7]])]) fun r35 => onTup r35 fun c36 => onCons c36
  fun v37 c38 => onVec none v37 fun l39 => onCons c38 fun v40 c41 => onInt v40 fun n42 => onNil c41 (bc (n34 != 0) (some (Out.ret (V.bool true), [])) (bc (n42 != 0) (some (Out.ret
  (V.bool true), [])) (bc (decide ((↑l39.length : Int) > (↑l31.length : Int))) (gd (true && decide (0 ≤ (↑l31.length : Int)) && decide ((↑l31.length : Int) ≤ (↑l39.length : Int)))
  (gd ((List.drop 0 (List.take (↑l31.length : Int).toNat l39)).all isU8) (gd (l31.all isU8) (some (Out.ret (V.bool ((strV (List.drop 0 (List.take (↑l31.length : Int).toNat
  l39))).toList == (strV l31).toList)), []))))) (some (Out.ret (V.bool false), []))))))))))) (obind (pcall O 13 [V.vec .plain (some 4) l3]) fun r43 => onTup r43 fun c44 =>
  onCons c44 fun v45 c46 => onVec none v45 fun l47 => onCons c46 fun v48 c49 => onInt v48 fun n50 => onNil c49 (obind (pcall O 13 [V.vec .plain (some 4) ([] ++ l3 ++
  [V.agg [V.str s4, V.int n5, V.int n6, V.vec .plain (some 3) l7]])]) fun r51 => onTup r51 fun c52 => onCons c52 fun v53 c54 => onVec none v53 fun l55 => onCons c54 fun v56 c57 =>
  onInt v56 fun n58 => onNil c57 (bc (n50 != 0) (some (Out.ret (V.bool true), [])) (bc (n58 != 0) (some (Out.ret (V.bool true), [])) (bc (decide ((↑l55.length : Int) > (↑l47.length
  : Int))) (gd (true && decide (0 ≤ (↑l47.length : Int)) && decide ((↑l47.length : Int) ≤ (↑l55.length : Int))) (gd ((List.drop 0 (List.take (↑l47.length : Int).toNat l55)).all
  isU8) (gd (l47.all isU8) (some (Out.ret (V.bool ((strV (List.drop 0 (List.take (↑l47.length : Int).toNat l55))).toList == (strV l47).toList)), []))))) (some (Out.ret (V.bool
  false), []))))))))))))))))) := by kernel_rfl

theorem e_law15_ShowLimits (O : Oracle) (n0 : Int) (n1 : Int) (l2 : (List V)) (l3 : (List V)) : callBody Tryd.prog cfg O 5 [.agg [.int n0, .int n1, .vec .plain (some 3) l2], .vec .plain (some 4) l3] [] =
  obind (pcall O 7 []) fun r1 => onBool r1 fun b2 => obind (pcall O 8 [V.vec .plain (some 4) l3]) fun r3 => onBool r3 fun b4 => obind (pcall O 9
  [V.agg [V.int n0, V.int n1, V.vec .plain (some 3) l2], V.int 1000, V.int 80]) fun r5 => onBool r5 fun b6 => obind (pcall O 10 [V.vec .plain (some 4) l3]) fun r7 =>
  onBool r7 fun b8 => bc (!b2) (some (Out.ret (V.bool b2), [])) (bc (!b4) (some (Out.ret (V.bool b2), [])) (bc (!b6) (some (Out.ret (V.bool b2), [])) (bc (!b8) (some (Out.ret
  (V.bool b2), [])) (obind (pcall O 11 [V.agg [V.int n0, V.int n1, V.vec .plain (some 3) l2], V.vec .plain (some 4) l3]) fun r9 => onTup r9 fun c10 => onCons c10 fun v11
  c12 => onVec none v11 fun l13 => onCons c12 fun v14 c15 => onInt v14 fun n16 => onNil c15 (obind (pcall O 13 [V.vec .plain (some 4) l3]) fun r17 => onTup r17 fun c18 =>
  onCons c18 fun v19 c20 => onVec none v19 fun l21 => onCons c20 fun v22 c23 => onInt v22 fun n24 => onNil c23 (obind (O.loop 5 10 [V.int n24, V.vec .plain (some 4)
  l3, V.int 0, V.int n16, V.loc false (some 3) (V.agg [V.int n0, V.int n1, V.vec .plain (some 3) l2])] []) fun r25 => onEx r25.fst none (onCons r25.snd.fst fun v26 c27 => onBool v26
  fun b28 => onNil c27 (some (Out.ret (V.bool b28), []))) (fun i29 => bc (i29.beq 0) (onCons r25.snd.fst fun v30 c31 => onInt v30 fun n32 => onCons c31 fun v33 c34 => onLoc (some 3)
  v33 fun d35 v36 => onStruct [CT.int, CT.int, CT.slice (some 3)] (bif d35 then cleanV v36 else v36) fun n37 n38 l39 => onNil c34 (obind (pcall O 16 [V.agg [V.int n37, V.int
  n38, V.vec .plain (some 3) l39]]) fun r40 => onBool r40 fun b41 => bc ((n32 == 1) == !b41) (obind (pcall O 17 [V.agg [V.int n37, V.int n38, V.vec .plain (some 3) l39],
  V.int 0, V.int 0]) fun r42 => onBool r42 fun b43 => bc b43 (some (Out.ret (V.bool true), [])) (some (Out.ret (V.bool (n32 != 0)), []))) (some (Out.ret (V.bool false), [])))) none)
  fun v44 => none)))))) := by kernel_rfl

theorem e_law15_ShowLimits_L10 (O : Oracle) (n0 : Int) (l1 : (List V)) (n2 : Int) (n3 : Int) (n4 : Int) (n5 : Int) (l6 : (List V)) : loopBody Tryd.prog cfg O 5 10 [.int n0, .vec .plain (some 4) l1, .int n2, .int n3, .loc false (some 3) (.agg [.int n4, .int n5, .vec .plain (some 3) l6])] [] =
  bc (decide (n2 < (↑l1.length : Int))) (obind (O.loop 5 13 [V.int 0, V.int n0, V.vec .plain (some 4) l1, V.int n2, V.int n3, V.loc false (some 3) (V.agg [V.int n4,
  V.int n5, V.vec .plain (some 3) l6])] []) fun r1 => onEx r1.fst none (onCons r1.snd.fst fun v2 c3 => onBool v2 fun b4 => onNil c3 (some (Ex.ret, [V.bool b4], r1.snd.snd))) (fun i5
  => bc (i5.beq 2) (onCons r1.snd.fst fun v6 c7 => onInt v6 fun n8 => onCons c7 fun v9 c10 => onVec (some 4) v9 fun l11 => onCons c10 fun v12 c13 => onInt v12 fun n14 => onCons c13
  fun v15 c16 => onLoc (some 3) v15 fun d17 v18 => onStruct [CT.int, CT.int, CT.slice (some 3)] (bif d17 then cleanV v18 else v18) fun n19 n20 l21 => onCons c16 fun v22 c23 => onInt
  v22 fun n24 => onNil c23 (gd (decide (0 ≤ n24) && decide (n24 < (↑l11.length : Int))) (onAgg (getI l11 n24) fun c25 => gd (decide (1 ≤ c25.length)) (onStr (AM.partOf c25 0 none)
  fun s26 => obind (pcall O 15 [V.str s26]) fun r27 => onBool r27 fun b28 => bc (!b28) (bc (n8 == 0) (some (Ex.ret, [V.bool false], r1.snd.snd)) (O.2 5 10
  [V.int n8, V.vec .plain (some 4) l11, V.int (IntKind.i64.wrap (n24 + 1)), V.int n14, V.loc false (some 3) (V.agg [V.int n19, V.int n20, V.vec .plain (some 3) l21])] r1.snd.snd))
  (O.2 5 10 [V.int n8, V.vec .plain (some 4) l11, V.int (IntKind.i64.wrap (n24 + 1)), V.int n14, V.loc false (some 3) (V.agg [V.int n19, V.int n20, V.vec .plain
  (some 3) l21])] r1.snd.snd))))) none) fun v29 => none) (some (Ex.exit 0, [V.int n3, V.loc false (some 3) (V.agg [V.int n4, V.int n5, V.vec .plain (some 3) l6])], [])) := by kernel_rfl

theorem e_law15_ShowLimits_L13 (O : Oracle) (n0 : Int) (n1 : Int) (l2 : (List V)) (n3 : Int) (n4 : Int) (n5 : Int) (n6 : Int) (l7 : (List V)) : loopBody Tryd.prog cfg O 5 13 [.int n0, .int n1, .vec .plain (some 4) l2, .int n3, .int n4, .loc false (some 3) (.agg [.int n5, .int n6, .vec .plain (some 3) l7])] [] =
  bc (decide (n0 < n3)) (gd (decide (0 ≤ n3) && decide (n3 < (↑l2.length : Int))) (onAgg (getI l2 n3) fun c1 => gd (decide (1 ≤ c1.length)) (onStr (AM.partOf c1 0 none) fun s2 => gd
  (decide (0 ≤ n0) && decide (n0 < (↑l2.length : Int))) (onAgg (getI l2 n0) fun c3 => gd (decide (1 ≤ c3.length)) (onStr (AM.partOf c3 0 none) fun s4 => bc (s2.toList == s4.toList)
  (bc (n1 == 0) (some (Ex.ret, [V.bool false], [])) (O.2 5 13 [V.int (IntKind.i64.wrap (n0 + 1)), V.int n1, V.vec .plain (some 4) l2, V.int n3, V.int n4, V.loc
  false (some 3) (V.agg [V.int n5, V.int n6, V.vec .plain (some 3) l7])] [])) (O.2 5 13 [V.int (IntKind.i64.wrap (n0 + 1)), V.int n1, V.vec .plain (some 4) l2,
  V.int n3, V.int n4, V.loc false (some 3) (V.agg [V.int n5, V.int n6, V.vec .plain (some 3) l7])] [])))))) (some (Ex.exit 2, [V.int n1, V.vec .plain (some 4) l2, V.int n4, V.loc
  false (some 3) (V.agg [V.int n5, V.int n6, V.vec .plain (some 3) l7]), V.int n3], [])) := by kernel_rfl

theorem e_law15_ShowReads (O : Oracle) (l0 : (List V)) : callBody Tryd.prog cfg O 6 [.vec .plain none l0] [] =
  obind (pcall O 7 []) fun r1 => onBool r1 fun b2 => bc (!b2) (some (Out.ret (V.bool b2), [])) (bc (decide ((↑l0.length : Int) > 3000)) (some (Out.ret (V.bool b2), []))
  (obind (pcall O 19 []) fun r3 => onVec (some 4) r3 fun l4 => obind (pcall O 18 [V.vec .plain none l0, V.vec .plain (some 4) l4]) fun r5 => onTup r5 fun c6 =>
  onCons c6 fun v7 c8 => onStruct [CT.int, CT.int, CT.slice (some 3)] v7 fun n9 n10 l11 => onCons c8 fun v12 c13 => onInt v12 fun n14 => onNil c13 (bc (n14 != 0) (some (Out.ret
  (V.bool ((↑l11.length : Int) == 0)), [])) (obind (pcall O 19 []) fun r15 => onVec (some 4) r15 fun l16 => obind (pcall O 11 [V.agg [V.int n9, V.int n10, V.vec
  .plain (some 3) l11], V.vec .plain (some 4) l16]) fun r17 => onTup r17 fun c18 => onCons c18 fun v19 c20 => onVec none v19 fun l21 => onCons c20 fun v22 c23 => onInt v22 fun n24
  => onNil c23 (obind (pcall O 19 []) fun r25 => onVec (some 4) r25 fun l26 => obind (pcall O 18 [V.vec .plain none l21, V.vec .plain (some 4) l26]) fun r27 =>
  onTup r27 fun c28 => onCons c28 fun v29 c30 => onStruct [CT.int, CT.int, CT.slice (some 3)] v29 fun n31 n32 l33 => onCons c30 fun v34 c35 => onInt v34 fun n36 => onNil c35 (bc
  (n24 == 0) (bc (decide ((↑l21.length : Int) > 20000)) (some (Out.ret (V.bool true), [])) (bc (n36 == 0) (obind (pcall O 20 [V.agg [V.int n9, V.int n10, V.vec .plain (some
  3) l11], V.agg [V.int n31, V.int n32, V.vec .plain (some 3) l33]]) fun r37 => onBool r37 fun b38 => some (Out.ret (V.bool b38), [])) (some (Out.ret (V.bool false), [])))) (some
  (Out.ret (V.bool false), [])))))))) := by kernel_rfl

theorem e_law15_light (O : Oracle) (l0 : (List V)) : callBody Tryd.prog cfg O 10 [.vec .plain (some 4) l0] [] =
  obind (O.loop 10 2 [V.int 0, V.vec .plain (some 4) l0] []) fun r1 => onEx r1.fst none (onCons r1.snd.fst fun v2 c3 => onBool v2 fun b4 => onNil c3 (some (Out.ret
  (V.bool b4), []))) (fun i5 => bc (i5.beq 0) (onNil r1.snd.fst (some (Out.ret (V.bool true), []))) none) fun v6 => none := by kernel_rfl

theorem e_law15_light_L2 (O : Oracle) (n0 : Int) (l1 : (List V)) : loopBody Tryd.prog cfg O 10 2 [.int n0, .vec .plain (some 4) l1] [] =
  bc (decide (n0 < (↑l1.length : Int))) (gd (decide (0 ≤ n0) && decide (n0 < (↑l1.length : Int))) (onAgg (getI l1 n0) fun c1 => gd (decide (1 ≤ c1.length)) (onStr (AM.partOf c1 0
  none) fun s2 => bc (decide ((↑s2.size : Int) > 100)) (some (Ex.ret, [V.bool false], [])) (O.2 10 2 [V.int (IntKind.i64.wrap (n0 + 1)), V.vec .plain (some 4) l1] []))))
  (some (Ex.exit 0, [], [])) := by kernel_rfl

end Go.Proofs.SW

/-! The laws of what is written: names that are light; more declarations. -/
namespace Go.Proofs.SW
open Go Go.AM Go.Ama
set_option maxRecDepth 100000

def names100 (l : List D) : Bool := l.all fun d => decide (d.name.length ≤ 100)
theorem names100_cons (d : D) (l : List D) : names100 (d :: l) = (decide (d.name.length ≤ 100) && names100 l) := rfl
theorem light15_loop (l : List D) (hl : l.length ≤ 1099511627776) : ∀ j k, k + j = l.length →
    W.loop 10 2 [.int (k : Nat), .vec .plain (some 4) (encDs l)] [] = some (bif names100 (l.drop k) then (.exit 0, [], []) else (.ret, [.bool false], [])) := by
  intro j
  induction j with
  | zero =>
    intro k hk
    have hkl : k = l.length := by omega
    subst hkl
    have hlt : decide (((l.length : Nat) : Int) < ((encDs l).length : Int)) = false := by simp
    rw [L, e_law15_light_L2, hlt, List.drop_length]
    rfl
  | succ j ih =>
    intro k hk
    have hkl : k < l.length := by omega
    have hlt : decide (((k : Nat) : Int) < ((encDs l).length : Int)) = true := by rw [encDs_length]; simp; omega
    have hlt2 : (decide ((0 : Int) ≤ (k : Nat)) && true) = true := by simp
    have hw : IntKind.i64.wrap ((k : Nat) + 1 : Int) = ((k + 1 : Nat) : Int) := wrap_i (by omega) (by omega)
    have hdr : l.drop k = l[k] :: l.drop (k + 1) := List.drop_eq_getElem_cons hkl
    have hx : getI (encDs l) ((k : Nat) : Int) = encD l[k] := getI_encDs hkl
    have e3 : ∀ {α : Type} (K : List V → Option α), onAgg (encD l[k]) K = K [.str (ba (l[k]).name), .int (l[k]).t.k, .int (l[k]).t.h, .vec .plain (some 3) (encs (l[k]).t.args)] := fun K => rfl
    have e4 : ∀ {α : Type} (K : ByteArray → Option α), onStr (AM.partOf [.str (ba (l[k]).name), .int (l[k]).t.k, .int (l[k]).t.h, .vec .plain (some 3) (encs (l[k]).t.args)] 0 none) K = K (ba (l[k]).name) := fun K => rfl
    rw [L, e_law15_light_L2, hlt, bc_true, hlt2, gd_true, hx, e3, hdr]
    show gd true (onStr _ _) = _
    rw [gd_true, e4, ba_size, hw]
    rw [names100_cons]
    by_cases hn : (l[k]).name.length ≤ 100
    · have hg : decide (((l[k]).name.length : Int) > 100) = false := decide_eq_false (by omega)
      rw [hg, bc_false, ih (k + 1) (by omega), decide_eq_true hn, Bool.true_and]
    · have hg : decide (((l[k]).name.length : Int) > 100) = true := decide_eq_true (by omega)
      rw [hg, bc_true, decide_eq_false hn]
      rfl
theorem light15_spec (l : List D) (hl : l.length ≤ 1099511627776) : Ev 10 [.vec .plain (some 4) (encDs l)] (.bool (names100 l)) := by
  unfold Ev
  have h := light15_loop l hl l.length 0 (by omega)
  have h' : W.loop 10 2 [V.int 0, .vec .plain (some 4) (encDs l)] [] = some (bif names100 (l.drop 0) then (.exit 0, [], []) else (.ret, [.bool false], [])) := h
  rw [C, e_law15_light, h', List.drop_zero]
  cases hn : names100 l <;> rfl
theorem few9_parts {sig : List D} (h : few9 sig = true) : sig.length ≤ 30 ∧ ∀ d ∈ sig, d.t.size ≤ 1000 := by
  unfold few9 at h
  simp only [Bool.and_eq_true, decide_eq_true_eq, List.all_eq_true] at h
  refine ⟨h.1, fun d hd => ?_⟩
  have := h.2 d hd
  unfold light at this
  simp only [Bool.and_eq_true, decide_eq_true_eq] at this
  have := this.2.1
  omega
theorem names_parts {sig : List D} (h : names100 sig = true) : ∀ d ∈ sig, d.name.length ≤ 100 := fun d hd => by
  unfold names100 at h
  rw [List.all_eq_true] at h
  exact of_decide_eq_true (h d hd)
theorem term_p {sig : List D} (hl : sig.length ≤ 1000) (hs : ∀ d ∈ sig, d.name.length ≤ 100) (t : T) (ht : t.size ≤ 1099511627776) :
    pcall W 11 [.agg [.int t.k, .int t.h, .vec .plain (some 3) (encs t.args)], .vec .plain (some 4) (encDs sig)] = some (.tup [.vec .plain none (encB (showT t sig).1), .int (showT t sig).2]) := by
  have h := (showTerm_spec hl hs t ht).p (by rw [belowL, below_enc]; simp [belowL, below, below_encDs]) (by simp [below, belowL, below_encB])
  rw [enc_eta] at h
  exact h
theorem shows_p {sig : List D} (hl : sig.length ≤ 1000) (hs : ∀ d ∈ sig, d.name.length ≤ 100 ∧ d.t.size ≤ 1099511627776) :
    pcall W 13 [.vec .plain (some 4) (encDs sig)] = some (.tup [.vec .plain none (encB (showsD sig).1), .int (showsD sig).2]) :=
  (showDecls_spec sig hl hs).p (by simp [belowL, below, below_encDs]) (by simp [below, belowL, below_encB])

theorem ShowMore_ev (t : T) (sig : List D) (d : D) (ht : t.size ≤ 1048576) (hb : bulkL (encDs sig) ≤ 1048576) (hl : sig.length ≤ 1048576) (hd : d.t.size ≤ 1048576) : Ev 4 [enc t, .vec .plain (some 4) (encDs sig), encD d] (.bool true) := by
  unfold Ev
  have ha := awake15.p
  have hf := (few9_spec sig (by omega)).p (by simp [belowL, below, below_encDs])
  have hli := (light_spec t 1000 80 (by omega)).p (by rw [belowL, below_enc]; simp [belowL, below])
  have hld := (light_spec d.t 1000 80 (by omega)).p (by rw [belowL, below_enc]; simp [belowL, below])
  have hn := (light15_spec sig (by omega)).p (by simp [belowL, below, below_encDs])
  rw [enc_eta] at hli hld
  rw [C, enc_eta, encD, e_law15_ShowMore, ha, obind_some', onBool_bool, hf, obind_some', onBool_bool, hli, obind_some', onBool_bool, hld, obind_some', onBool_bool, hn, obind_some', onBool_bool]
  cases hfew : few9 sig with
  | false => rfl
  | true =>
  cases light 1000 80 t with
  | false => rfl
  | true =>
  cases light 1000 80 d.t with
  | false => rfl
  | true =>
  cases hnm : names100 sig with
  | false => rfl
  | true =>
  rw [ba_size]
  simp only [Bool.not_true, bc_false]
  by_cases hdn : d.name.length ≤ 100
  case neg =>
    have hg : decide ((d.name.length : Int) > 100) = true := decide_eq_true (by omega)
    rw [hg]
    rfl
  case pos =>
  have hg : decide ((d.name.length : Int) > 100) = false := decide_eq_false (by omega)
  obtain ⟨hl30, hsz⟩ := few9_parts hfew
  have hnam := names_parts hnm
  have hmore : ([] ++ encDs sig ++ [V.agg [V.str (ba d.name), V.int d.t.k, V.int d.t.h, V.vec .plain (some 3) (encs d.t.args)]]) = encDs (sig ++ [d]) := by rw [encDs_append]; rfl
  have hnam2 : ∀ x ∈ sig ++ [d], x.name.length ≤ 100 ∧ x.t.size ≤ 1099511627776 := by
    intro x hx
    rcases List.mem_append.1 hx with hx | hx
    · exact ⟨hnam x hx, by have := hsz x hx; omega⟩
    · rw [List.mem_singleton] at hx; subst hx; exact ⟨hdn, by omega⟩
  have r1 : roomFor Tryd.prog 36 (0 + (encDs sig).length) = true := room_decl (by simp; omega)
  have r2 : roomFor Tryd.prog 36 (([] ++ encDs sig).length + [V.agg [V.str (ba d.name), V.int d.t.k, V.int d.t.h, V.vec .plain (some 3) (encs d.t.args)]].length) = true := room_decl (by simp; omega)
  have hT1 := term_p (sig := sig) (by omega) hnam t (by omega)
  have hT2 := term_p (sig := sig ++ [d]) (by simp; omega) (fun x hx => (hnam2 x hx).1) t (by omega)
  have hD1 := shows_p (sig := sig) (by omega) (fun x hx => ⟨hnam x hx, by have := hsz x hx; omega⟩)
  have hD2 := shows_p (sig := sig ++ [d]) (by simp; omega) hnam2
  rw [hg, bc_false, r1, r2, hmore, hT1, hT2, hD1, hD2]
  simp only [Bool.and_self, gd_true, obind_some', onTup_tup, onCons_cons, onVec_plain, onInt_int, onNil_nil, isU8_encB, strV_encB, encB_length, List.drop_zero]
  have fin : (bc ((showsD sig).2 != 0) (some (Out.ret (V.bool true), [])) (bc ((showsD (sig ++ [d])).2 != 0) (some (Out.ret (V.bool true), []))
      (bc (decide (((showsD (sig ++ [d])).1.length : Int) > ((showsD sig).1.length : Int))) (gd (true && decide (0 ≤ ((showsD sig).1.length : Int)) && decide (((showsD sig).1.length : Int) ≤ ((showsD (sig ++ [d])).1.length : Int)))
        (gd ((List.take ((showsD sig).1.length : Int).toNat (encB (showsD (sig ++ [d])).1)).all isU8) (some (Out.ret (V.bool ((strV (List.take ((showsD sig).1.length : Int).toNat (encB (showsD (sig ++ [d])).1))).toList == (ba (showsD sig).1).toList)), ([] : St)))))
        (some (Out.ret (V.bool false), []))))) = some (Out.ret (V.bool true), []) := by
    by_cases h1 : (showsD sig).2 = 0
    · by_cases h2 : (showsD (sig ++ [d])).2 = 0
      · obtain ⟨r, hr, he⟩ := showsT_more sig d sig [] h1 h2
        have he' : (showsD (sig ++ [d])).1 = (showsD sig).1 ++ r := he
        have hrl : 0 < r.length := List.length_pos_iff.2 hr
        have q1 : ((showsD sig).2 != 0) = false := by rw [h1]; rfl
        have q2 : ((showsD (sig ++ [d])).2 != 0) = false := by rw [h2]; rfl
        have q3 : decide (((showsD (sig ++ [d])).1.length : Int) > ((showsD sig).1.length : Int)) = true := decide_eq_true (by rw [he', List.length_append]; omega)
        have q4 : decide (((showsD sig).1.length : Int) ≤ ((showsD (sig ++ [d])).1.length : Int)) = true := decide_eq_true (by rw [he', List.length_append]; omega)
        have q5 : decide ((0 : Int) ≤ ((showsD sig).1.length : Int)) = true := decide_eq_true (by omega)
        have q6 : List.take ((showsD sig).1.length : Int).toNat (encB (showsD (sig ++ [d])).1) = encB (showsD sig).1 := by rw [he', Int.toNat_natCast, encB_take, List.take_left]
        rw [q1, q2, q3, q4, q5, q6, isU8_encB, strV_encB, ba_eq]
        simp [bc, gd]
      · have q1 : ((showsD sig).2 != 0) = false := by rw [h1]; rfl
        have q2 : ((showsD (sig ++ [d])).2 != 0) = true := by simpa using h2
        rw [q1, q2]
        rfl
    · have q1 : ((showsD sig).2 != 0) = true := by simpa using h1
      rw [q1]
      rfl
  by_cases h0 : (showT t sig).2 = 0
  · have hs := showT_more d h0
    have q1 : ((showT t sig).2 == 0) = true := by rw [h0]; rfl
    have q2 : ((showT t (sig ++ [d])).2 != 0) = false := by rw [hs, h0]; rfl
    have q3 : ((ba (showT t sig).1).toList == (ba (showT t (sig ++ [d])).1).toList) = true := by rw [hs, ba_eq]; simp
    rw [q1, q2, q3]
    simp only [bc_true, bc_false, Bool.not_true]
    exact fin
  · have q1 : ((showT t sig).2 == 0) = false := by simpa using h0
    rw [q1]
    simp only [bc_false]
    exact fin

theorem bulk_lenD : ∀ l : List D, l.length ≤ bulkL (encDs l)
  | [] => by simp
  | d :: l => by
    have := bulk_lenD l
    simp only [encDs, List.map_cons, bulkL, List.length_cons] at *
    have : 1 ≤ bulkV (encD d) := by simp only [encD, bulkV]; omega
    omega
theorem pure_ShowMore : ∀ us, WArgs Tryd.prog [24, 25, 36] us → bulkL us ≤ 1048576 → ∃ m st, (fuelO Tryd.prog cfg ext m).call 4 us [] = some (.ret (.bool true), st) := by
  intro us hW hb
  match us, hW with
  | [u, v, w], ⟨h1, h2, h3, h4, h5, h6, _⟩ =>
    obtain ⟨t, rfl⟩ := dec_term ⟨h1, h2⟩
    obtain ⟨sig, rfl⟩ := dec_decls ⟨h3, h4⟩
    obtain ⟨d, rfl⟩ := dec_decl ⟨h5, h6⟩
    have b1 := bulk_enc t
    have b2 := bulk_Ds (l := [d]) (List.mem_singleton.2 rfl)
    have b3 := bulk_lenD sig
    simp only [encDs, List.map_cons, List.map_nil, bulkL] at b2
    simp only [bulkL, bulkV] at hb
    have b4 : bulkL (encDs sig) ≤ 1048576 := by omega
    exact of_ev (ShowMore_ev t sig d (by omega) b4 (by omega) (by omega))
end Go.Proofs.SW

/-! The law of what is not written. -/
namespace Go.Proofs.SW
open Go Go.AM Go.Ama
set_option maxRecDepth 100000

theorem agg_encD {α : Type} (d : D) (K : List V → Option α) : onAgg (encD d) K = K [.str (ba d.name), .int d.t.k, .int d.t.h, .vec .plain (some 3) (encs d.t.args)] := rfl
theorem name_encD {α : Type} (d : D) (K : ByteArray → Option α) : onStr (AM.partOf [.str (ba d.name), .int d.t.k, .int d.t.h, .vec .plain (some 3) (encs d.t.args)] 0 none) K = K (ba d.name) := rfl

section
variable (sig : List D) (hl : sig.length ≤ 1000) (f e : Int) (t : T) (hf : f = 0 → ∀ d ∈ sig, nameOK d.name = true ∧ many d.name sig ≤ 1)
include hl hf
theorem limits_inner {i : Nat} (hi : i < sig.length) : ∀ j k, k + j = i →
    W.loop 5 13 [.int (k : Nat), .int f, .vec .plain (some 4) (encDs sig), .int (i : Nat), .int e, .loc false (some 3) (.agg [.int t.k, .int t.h, .vec .plain (some 3) (encs t.args)])] [] =
      some (.exit 2, [.int f, .vec .plain (some 4) (encDs sig), .int e, .loc false (some 3) (.agg [.int t.k, .int t.h, .vec .plain (some 3) (encs t.args)]), .int (i : Nat)], []) := by
  intro j
  induction j with
  | zero =>
    intro k hk
    have hki : k = i := by omega
    subst hki
    have hlt : decide (((k : Nat) : Int) < (k : Nat)) = false := by simp
    rw [L, e_law15_ShowLimits_L13, hlt]
    rfl
  | succ j ih =>
    intro k hk
    have hki : k < i := by omega
    have hkl : k < sig.length := by omega
    have hlt : decide (((k : Nat) : Int) < (i : Nat)) = true := decide_eq_true (by omega)
    have g1 : (decide ((0 : Int) ≤ (i : Nat)) && decide (((i : Nat) : Int) < ((encDs sig).length : Int))) = true := by rw [encDs_length, decide_eq_true (by omega), decide_eq_true (by omega)]; rfl
    have g2 : (decide ((0 : Int) ≤ (k : Nat)) && decide (((k : Nat) : Int) < ((encDs sig).length : Int))) = true := by rw [encDs_length, decide_eq_true (by omega), decide_eq_true (by omega)]; rfl
    have hw : IntKind.i64.wrap ((k : Nat) + 1 : Int) = ((k + 1 : Nat) : Int) := wrap_i (by omega) (by omega)
    have hx1 : getI (encDs sig) ((i : Nat) : Int) = encD sig[i] := getI_encDs hi
    have hx2 : getI (encDs sig) ((k : Nat) : Int) = encD sig[k] := getI_encDs hkl
    have g3 : ∀ d : D, decide (1 ≤ [V.str (ba d.name), .int d.t.k, .int d.t.h, .vec .plain (some 3) (encs d.t.args)].length) = true := fun d => rfl
    rw [L, e_law15_ShowLimits_L13, hlt, bc_true]
    simp only [g1, g2, gd_true, hx1, hx2, agg_encD, g3, name_encD, ba_eq, hw, ih (k + 1) (by omega)]
    by_cases hn : (sig[i]).name = (sig[k]).name
    · rw [decide_eq_true hn, bc_true]
      have h0 : f ≠ 0 := fun h => by
        have h1 := (hf h sig[i] (List.getElem_mem hi)).2
        have h2 := many_two hi hki hn
        omega
      have hb : (f == 0) = false := by simpa using h0
      rw [hb, bc_false]
    · rw [decide_eq_false hn, bc_false]

theorem limits_outer (hs : ∀ d ∈ sig, d.name.length ≤ 100) : ∀ j i, i + j = sig.length →
    W.loop 5 10 [.int f, .vec .plain (some 4) (encDs sig), .int (i : Nat), .int e, .loc false (some 3) (.agg [.int t.k, .int t.h, .vec .plain (some 3) (encs t.args)])] [] =
      some (.exit 0, [.int e, .loc false (some 3) (.agg [.int t.k, .int t.h, .vec .plain (some 3) (encs t.args)])], []) := by
  intro j
  induction j with
  | zero =>
    intro i hi
    have hlt : decide (((i : Nat) : Int) < ((encDs sig).length : Int)) = false := by rw [encDs_length]; exact decide_eq_false (by omega)
    rw [L, e_law15_ShowLimits_L10, hlt]
    rfl
  | succ j ih =>
    intro i hi
    have hil : i < sig.length := by omega
    have hlt : decide (((i : Nat) : Int) < ((encDs sig).length : Int)) = true := by rw [encDs_length]; exact decide_eq_true (by omega)
    have g1 : (decide ((0 : Int) ≤ (i : Nat)) && true) = true := by rw [decide_eq_true (by omega)]; rfl
    have hw : IntKind.i64.wrap ((i : Nat) + 1 : Int) = ((i + 1 : Nat) : Int) := wrap_i (by omega) (by omega)
    have hin := limits_inner sig hl f e t hf hil i 0 (by omega)
    have hin' : W.loop 5 13 [.int 0, .int f, .vec .plain (some 4) (encDs sig), .int (i : Nat), .int e, .loc false (some 3) (.agg [.int t.k, .int t.h, .vec .plain (some 3) (encs t.args)])] [] = some (.exit 2, [.int f, .vec .plain (some 4) (encDs sig), .int e, .loc false (some 3) (.agg [.int t.k, .int t.h, .vec .plain (some 3) (encs t.args)]), .int (i : Nat)], []) := hin
    have hx1 : getI (encDs sig) ((i : Nat) : Int) = encD sig[i] := getI_encDs hil
    have g3 : ∀ d : D, decide (1 ≤ [V.str (ba d.name), .int d.t.k, .int d.t.h, .vec .plain (some 3) (encs d.t.args)].length) = true := fun d => rfl
    have g4 : (decide ((0 : Int) ≤ (i : Nat)) && decide (((i : Nat) : Int) < ((encDs sig).length : Int))) = true := by rw [hlt, decide_eq_true (by omega)]; rfl
    have hN := (Name_spec (sig[i]).name (by have := hs sig[i] (List.getElem_mem hil); omega)).p
    have struct3 : ∀ {α : Type} (K : Int → Int → List V → Option α), onStruct [CT.int, CT.int, CT.slice (some 3)] (V.agg [.int t.k, .int t.h, .vec .plain (some 3) (encs t.args)]) K = K t.k t.h (encs t.args) := fun K => rfl
    have q2 : Nat.beq 2 2 = true := rfl
    rw [L, e_law15_ShowLimits_L10, hlt, bc_true, hin', obind_some']
    simp only [onEx_exit, q2, bc_true, onCons_cons, onInt_int, onVec_plain, onLoc_loc, cond_false, struct3, onNil_nil, g4, gd_true, hx1, agg_encD, g3, name_encD, hN, obind_some', onBool_bool, hw, ih (i + 1) (by omega)]
    by_cases hn : nameOK (sig[i]).name = true
    · rw [hn]
      rfl
    · have hb : (f == 0) = false := by
        have : f ≠ 0 := fun h => hn (hf h sig[i] (List.getElem_mem hil)).1
        simpa using this
      have hn' : nameOK (sig[i]).name = false := by simpa using hn
      rw [hn', hb]
      rfl
end

theorem ShowLimits_ev (t : T) (sig : List D) (ht : t.size ≤ 1048576) (hb : bulkL (encDs sig) ≤ 1048576) (hl : sig.length ≤ 1048576) : Ev 5 [enc t, .vec .plain (some 4) (encDs sig)] (.bool true) := by
  unfold Ev
  have ha := awake15.p
  have hf := (few9_spec sig (by omega)).p (by simp [belowL, below, below_encDs])
  have hli := (light_spec t 1000 80 (by omega)).p (by rw [belowL, below_enc]; simp [belowL, below])
  have hn := (light15_spec sig (by omega)).p (by simp [belowL, below, below_encDs])
  rw [enc_eta] at hli
  rw [C, enc_eta, e_law15_ShowLimits, ha, obind_some', onBool_bool, hf, obind_some', onBool_bool, hli, obind_some', onBool_bool, hn, obind_some', onBool_bool]
  cases hfew : few9 sig with
  | false => rfl
  | true =>
  cases hlt : light 1000 80 t with
  | false => rfl
  | true =>
  cases hnm : names100 sig with
  | false => rfl
  | true =>
  simp only [Bool.not_true, bc_false]
  obtain ⟨hl30, hsz⟩ := few9_parts hfew
  have hnam := names_parts hnm
  have hT1 := term_p (sig := sig) (by omega) hnam t (by omega)
  have hD1 := shows_p (sig := sig) (by omega) (fun x hx => ⟨hnam x hx, by have := hsz x hx; omega⟩)
  have hout := limits_outer sig (by omega) (showsD sig).2 (showT t sig).2 t (fun h => showsT_ok sig sig [] h) hnam sig.length 0 (by omega)
  have hout' : W.loop 5 10 [.int (showsD sig).2, .vec .plain (some 4) (encDs sig), .int 0, .int (showT t sig).2, .loc false (some 3) (.agg [.int t.k, .int t.h, .vec .plain (some 3) (encs t.args)])] [] =
      some (.exit 0, [.int (showT t sig).2, .loc false (some 3) (.agg [.int t.k, .int t.h, .vec .plain (some 3) (encs t.args)])], []) := hout
  have hmay := (pmay_spec t (by omega)).p (by rw [belowL, below_enc]; simp [belowL, below])
  have hsc := (scoped_spec t 0 0 (by omega)).p (by rw [belowL, below_enc]; simp [belowL, below])
  rw [enc_eta] at hmay hsc
  have struct3 : ∀ {α : Type} (K : Int → Int → List V → Option α), onStruct [CT.int, CT.int, CT.slice (some 3)] (V.agg [.int t.k, .int t.h, .vec .plain (some 3) (encs t.args)]) K = K t.k t.h (encs t.args) := fun K => rfl
  have q0 : Nat.beq 0 0 = true := rfl
  rw [hT1, hD1]
  simp only [obind_some', onTup_tup, onCons_cons, onVec_plain, onInt_int, onNil_nil, hout', onEx_exit, q0, bc_true, onLoc_loc, cond_false, struct3, hmay, onBool_bool, hsc]
  have hlow : low t = true := by
    unfold light at hlt
    simp only [Bool.and_eq_true] at hlt
    exact hlt.1
  unfold showT
  by_cases hm : may t = true
  · have hm' := hm
    unfold may at hm'
    simp only [Bool.and_eq_true, decide_eq_true_eq] at hm'
    simp only [hm, if_true]
    by_cases ho : okW sig t 0 = true
    · have hs0 := okW_scoped (sig := sig) t 0 (by omega) hlow hm'.1 ho (by omega)
      have hs1 : allW (scopedN 0 0) 0 t = true := hs0
      simp only [ho, if_true, hs1]
      rfl
    · simp only [ho, Bool.false_eq_true, if_false]
      cases allW (scopedN 0 0) 0 t <;> rfl
  · have hm0 : may t = false := by simpa using hm
    simp only [hm0, Bool.false_eq_true, if_false]
    cases allW (scopedN 0 0) 0 t <;> rfl

theorem pure_ShowLimits : ∀ us, WArgs Tryd.prog [24, 25] us → bulkL us ≤ 1048576 → ∃ m st, (fuelO Tryd.prog cfg ext m).call 5 us [] = some (.ret (.bool true), st) := by
  intro us hW hb
  match us, hW with
  | [u, v], ⟨h1, h2, h3, h4, _⟩ =>
    obtain ⟨t, rfl⟩ := dec_term ⟨h1, h2⟩
    obtain ⟨sig, rfl⟩ := dec_decls ⟨h3, h4⟩
    have b1 := bulk_enc t
    have b3 := bulk_lenD sig
    simp only [bulkL, bulkV] at hb
    have b4 : bulkL (encDs sig) ≤ 1048576 := by omega
    exact of_ev (ShowLimits_ev t sig (by omega) b4 (by omega))
end Go.Proofs.SW
