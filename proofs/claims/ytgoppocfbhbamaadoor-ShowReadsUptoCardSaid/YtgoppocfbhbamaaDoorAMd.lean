import Derived.Test.YtgoppocfbhbamaaDoorAMc
import Derived.RangeFuncLeaves
import Derived.RecoverIn
import Derived.Shelf.SlLaysE0
import Derived.Shelf.RegionOpenPlain
import Derived.WalkKit
import Derived.Deep.LoopGhost
import Derived.Lib.Walk
import Derived.Lib.SliceRun
import Derived.Lib.ItoaNum
import Derived.OpenShut
import Derived.Carry
import Derived.JoinedCond
/- An abstract machine over tree values that runs the model's code, and its soundness: what it tells of a call, the model does. -/
set_option linter.unusedVariables false
set_option linter.unusedSimpArgs false
set_option linter.unusedSectionVars false
namespace Go.AM
open Go Go.RowKit
section
variable{P:Program}{cfg:Cfg}{ext:Ext}{base:Nat}{own own':Own}{μ μ':List Nat}{R:Type}{r:R}
def zeC(P:Program)(cfg:Cfg)(ext:Ext)(m0:Nat):Prop:= ∀k,k≤m0→Jk P cfg (Xh P cfg ext k).call∧Jt P cfg (Xh P cfg ext k).round
theorem zgk{n id:Nat}{ops:Array Oper}{draw:Bool}(h:ZJ n (.region id ops draw)=true): ∀o∈ops.toList,∀d,o.dst=some d→d<n:=by
 intro o ho d hd
 simp only[ZJ,List.all_eq_true]at h
 have:=h o ho
 rw[hd]at this
 simpa using this
theorem zoJ{n:Nat}{w w':World}{a':Act}{K:Ex→Env→St→Option R}{y:Code}{O:Oracle}{f:Nat}{Q:Act→World→Prop}{e:Exit}
  (h:Fin P cfg base n w own μ r (fun e ρ st=>match e with| .normal=>exec P cfg O f y ρ st K|e=>K e ρ st) e a' w')
  (hn: ∀ρ st own' μ',exec P cfg O f y ρ st K=some r→Rel P cfg base n w' own' μ' ρ st a'→NoL ρ→Keeps base w own μ w' own' μ'→Q a' w'):Exit.then Q (Fin P cfg base n w own μ r K) e a' w':=by
 cases e with
 |normal=>
  obtain⟨ρ',st',own',μ',h1,h2,h3,h4⟩:=h
  exact hn ρ' st' own' μ' h1 h2 h3 h4
 |outgrown=>exact h.elim
 |_=>exact h
theorem zmD{n:Nat}{w w':World}{a':Act}{K:Ex→Env→St→Option R}{id:Nat}{e:Exit}
  (h:Fin P cfg base n w own μ r (fun e ρ st=>match e with| .exit i=>bc (Nat.beq i id) (K .normal ρ st) (K (.exit i) ρ st)|e=>K e ρ st) e a' w'):Exit.inBlock id (Fin P cfg base n w own μ r K) e a' w':=by
 cases e with
 |exit i=>
  obtain⟨ρ',st',own',μ',h1,h2,h3,h4⟩:=h
  simp only[Exit.inBlock]
  rcases Yi h1 with⟨hi,hk⟩|⟨hi,hk⟩
  ·rw[if_pos (Nat.eq_of_beq_eq_true hi)]
   exact⟨ρ',st',own',μ',hk,h2,h3,h4⟩
  ·rw[if_neg (Nat.ne_of_beq_eq_false hi)]
   exact⟨ρ',st',own',μ',hk,h2,h3,h4⟩
 |outgrown=>exact h.elim
 |_=>exact h
def Told(P:Program)(cfg:Cfg)(ext:Ext)(m0:Nat)(f n:Nat)(ro:Option Nat)(m base:Nat)(c:Code):Prop:=
 ∀(k:Nat),k≤m0→ ∀(R:Type) (r:R) (K:Ex→Env→St→Option R) (ρ:Env) (st:St) (a:Act) (w:World) (own:Own) (μ:List Nat),
   Rel P cfg base n w own μ ρ st a→NoL ρ→exec P cfg (Xh P cfg ext k) f c ρ st K=some r→c.wpIn (wide ro) m P (Fin P cfg base n w own μ r K) a w
def zhg(S:Code→Prop):Code→Prop
 | .seq a b=>zhg S a∧zhg S b
 | .cond _ a b=>zhg S a∧zhg S b
 | .block _ b=>zhg S b
 | .loop b=>zhg S b
 | .scope b=>(Zw b=true→S b)∧(Zw b=false→zhg S b)
 |_=>True
theorem zbn{S:Code→Prop}: ∀{c:Code},Zw c=true→zhg S c
 | .seq a b,h=>by
  simp only[Zw,Bool.and_eq_true]at h
  exact⟨zbn h.1,zbn h.2⟩
 | .cond _ a b,h=>by
  simp only[Zw,Bool.and_eq_true]at h
  exact⟨zbn h.1,zbn h.2⟩
 | .block _ b,h=>by simp only[Zw]at h;exact zbn (c:=b) h
 | .loop b,h=>by simp only[Zw]at h;exact zbn (c:=b) h
 | .rangeFunc _ _ a b,h=>trivial
 | .scope b,h=>by simp[Zw]at h
 | .region ..,_=>trivial
 | .skip,_=>trivial
 | .label _,_=>trivial
 | .exit _,_=>trivial
 | .goto _,_=>trivial
 | .ret,_=>trivial
 | .refuse _,_=>trivial
theorem zjF(hm:P.follows .mixedOrders=true)(hP:PlainNames P){m0:Nat}(hO:zeC P cfg ext m0){f:Nat}{fn:Func}{whole:Code}(hf:P.funcs[f]? =some fn)(hb:fn.body=some whole)(hok:zb5 fn.ntmps whole=true){ro:Option Nat}{m:Nat}{S:Code→Prop}(hS: ∀b,S b→Told P cfg ext m0 f fn.ntmps ro m base (.scope b)):
  ∀(c:Code),zhg S c→ZJ fn.ntmps c=true→ZK c=true→zaa (fun k=>Yl k whole) c→zab (fun k=>ZC k whole) c→(ro=none∨Zz c=[])→Told P cfg ext m0 f fn.ntmps ro m base c:=by
 intro c
 induction c with
 |skip=>
  intro _ _ _ _ _ _ k hk R r K ρ st a w own μ hR hN h
  exact wpIn_skip ⟨ρ,st,own,μ,h,hR,hN,Keeps.refl⟩
 |label l=>
  intro _ _ _ _ _ _ k hk R r K ρ st a w own μ hR hN h
  exact wpIn_label ⟨ρ,st,own,μ,h,hR,hN,Keeps.refl⟩
 |exit i=>
  intro _ _ _ _ _ _ k hk R r K ρ st a w own μ hR hN h
  exact wpIn_exit ⟨ρ,st,own,μ,h,hR,hN,Keeps.refl⟩
 |goto l=>
  intro _ _ _ _ _ _ k hk R r K ρ st a w own μ hR hN h
  exact wpIn_goto ⟨ρ,st,own,μ,h,hR,hN,Keeps.refl⟩
 |ret=>
  intro _ _ _ _ _ _ k hk R r K ρ st a w own μ hR hN h
  exact wpIn_ret ⟨ρ,st,own,μ,h,hR,hN,Keeps.refl⟩
 |refuse s=>intro _ _ h;simp[ZK]at h
 |scope b ih=>
  intro hS' ht hs hl hr hro
  cases hn:Zw b with
  |true=>exact hS b (hS'.1 hn)
  |false=>
   intro k hk R r K ρ st a w own μ hR hN h
   simp only[ZJ]at ht
   simp only[ZK]at hs
   simp only[exec,hn]at h
   refine zdR (fun _ _ _ _=>False) (wpIn_mono (ih (hS'.2 hn) ht hs hl hr hro k hk R r _ ρ st a w own μ hR hN h) fun e a' w' hF=> ?_) fun l rest k a w _ hJ=>hJ.elim
   cases e with
   |goto l=>
    obtain⟨ρ',st',own',μ',h1,h2,h3,h4⟩:=hF
    simp only at h1
    cases hlb:findLabel b l with
    |some rest=>rw[hlb]at h1;cases h1
    |none=>
     rw[hlb]at h1
     exact .inr ⟨hlb,ρ',st',own',μ',h1,h2,h3,h4⟩
   |outgrown=>exact hF.elim
   |_=>exact hF
 |rangeFunc f' ps x y ih1 ih2=>
  intro _ _ _ _ hr hro k hk R r K ρ st a w own μ hR hN h
  have:ro=none:=hro.resolve_right (by simp[Zz])
  subst this
  exact znM hP (hO k hk).1 hf hb hok hr.1 hR hN h
 |seq x y ihx ihy=>
  intro hS' ht hs hl hr hro k hk R r K ρ st a w own μ hR hN h
  simp only[ZJ,Bool.and_eq_true]at ht
  simp only[ZK,Bool.and_eq_true]at hs
  refine wpIn_seq (wpIn_mono (ihx hS'.1 ht.1 hs.1 hl.1 hr.1 (hro.imp_right fun e=>by simp only[Zz,List.append_eq_nil_iff]at e;exact e.1) k hk R r _ ρ st a w own μ hR hN h) fun e a' w' hF=> ?_)
  refine zoJ hF fun ρ' st' own' μ' h1 h2 h3 h4=> ?_
  exact wpIn_mono (ihy hS'.2 ht.2 hs.2 hl.2 hr.2 (hro.imp_right fun e=>by simp only[Zz,List.append_eq_nil_iff]at e;exact e.2) k hk R r K ρ' st' a' w' own' μ' h2 h3 h1) fun e a' w' hF=>hF.keeps h4
 |block id b ih=>
  intro hS' ht hs hl hr hro k hk R r K ρ st a w own μ hR hN h
  simp only[ZJ]at ht
  simp only[ZK]at hs
  exact wpIn_block (wpIn_mono (ih hS' ht hs hl hr hro k hk R r _ ρ st a w own μ hR hN h) fun e a' w' hF=>zmD hF)
 |cond c x y ihx ihy=>
  intro hS' ht hs hl hr hro k hk R r K ρ st a w own μ hR hN h
  simp only[ZJ,Bool.and_eq_true]at ht
  simp only[ZK,Bool.and_eq_true]at hs
  simp only[exec]at h
  split at h
  ·rename_i t
   split at h
   ·rename_i b hv
    have hev:a.eval (.tmp t)= .bool b:=by
     have:=zj4 hR hv
     simp[Act.eval,this]
    rcases Yi h with⟨rfl,h1⟩|⟨rfl,h1⟩
    ·exact wpIn_cond_true hev (ihx hS'.1 ht.1 hs.1 hl.1 hr.1 (hro.imp_right fun e=>by simp only[Zz,List.append_eq_nil_iff]at e;exact e.1) k hk R r K _ st a w own μ (hR.congr (zaF hv)) (fun t' x off e=>hN t' x off (by rwa [zaF hv]at e)) h1)
    ·exact wpIn_cond_false hev (ihy hS'.2 ht.2 hs.2 hl.2 hr.2 (hro.imp_right fun e=>by simp only[Zz,List.append_eq_nil_iff]at e;exact e.2) k hk R r K _ st a w own μ (hR.congr (zaF hv)) (fun t' x off e=>hN t' x off (by rwa [zaF hv]at e)) h1)
   ·cases h
  ·rename_i b
   have hev:a.eval (.const (.bool b))= .bool b:=rfl
   rcases Yi h with⟨rfl,h1⟩|⟨rfl,h1⟩
   ·exact wpIn_cond_true hev (ihx hS'.1 ht.1 hs.1 hl.1 hr.1 (hro.imp_right fun e=>by simp only[Zz,List.append_eq_nil_iff]at e;exact e.1) k hk R r K ρ st a w own μ hR hN h1)
   ·exact wpIn_cond_false hev (ihy hS'.2 ht.2 hs.2 hl.2 hr.2 (hro.imp_right fun e=>by simp only[Zz,List.append_eq_nil_iff]at e;exact e.2) k hk R r K ρ st a w own μ hR hN h1)
  ·cases h
 |region id ops draw=>
  intro _ ht hs _ _ _ k hk R r K ρ st a w own μ hR hN h
  simp only[exec]at h
  cases draw with
  |true=>exact zgj hm hP (hO k hk).1 (hO k hk).2 (zgk ht) (fun ρ' st' a' w' own' μ' h1 h2 h3 h4=>⟨ρ',st',own',μ',h1,h2,h3,h4⟩) (fun v c ρ' ρ'' st' a' w' own' μ' h1 h2 h3 h4=>⟨v,c,ρ',ρ'',st',own',μ',h1,h2,h3,h4,rfl⟩) hR hN h
  |false=>
  refine wpIn_region ?_
  have:=JL (m:=m) (ro:=ro) (Q:=Fin P cfg base fn.ntmps w own μ r K) hP (hO k hk).1 (hO k hk).2 (zgk ht) (fun ρ' st' a' w' own' μ' h1 h2 h3 h4=>⟨ρ',st',own',μ',h1,h2,h3,h4⟩)
   (fun v c ρ' ρ'' st' a' w' own' μ' h1 h2 h3 h4=>⟨v,c,ρ',ρ'',st',own',μ',h1,h2,h3,h4,rfl⟩) ops.toList 0 ρ st [] a w own μ rfl hR (fun t x off e=>absurd e (hN t x off)) Keeps.refl h
  rwa [←List.range_eq_range',Array.length_toList]at this
 |loop b ih=>
  intro hS' ht hs hl hr hro k hk R r K ρ st a w own μ hR hN h
  simp only[ZJ]at ht
  simp only[ZK]at hs
  obtain⟨hfind,hkey,hl⟩:=hl
  simp only[exec]at h
  obtain⟨vals,h,hR1,hN1⟩:=X6 hR hN _ _ h
  obtain⟨x,hx,h⟩:=Yw h
  refine zj6 (fun k' a' w'=> ∃own' μ' vals' st',k'≤m0∧(Xh P cfg ext k').loop f (keyOf b) vals' st'=some x∧
   Rel P cfg base fn.ntmps w' own' μ' (Qm ((cfg.keep f (keyOf b)).map (·.1)) vals') st' a'∧NoL (Qm ((cfg.keep f (keyOf b)).map (·.1)) vals')∧Keeps base w own μ w' own' μ') ?_ (k₀:=k) ⟨own,μ,vals,st,hk,hx,hR1,hN1,Keeps.refl⟩
  rintro k' a' w' ⟨own',μ',vals',st',hk',hx',hR',hN',hK'⟩
  cases k' with
  |zero=>cases hx'
  |succ k'=>
   have hbody:ZY P cfg (Xh P cfg ext k') f (keyOf b) vals' st'=some x:=hx'
   simp only[ZY,hf,hb,hkey,if_true,hfind]at hbody
   refine wpIn_mono (ih hS' ht hs hl hr hro k' (by omega) _ x _ _ st' a' w' own' μ' hR' hN' hbody) fun e a2 w2 hF=> ?_
   have hF:=hF.keeps hK'
   cases e with
   |normal=>
    obtain⟨ρ2,st2,own2,μ2,h1,h2,h3,h4⟩:=hF
    obtain⟨vals2,h1,hR2,hN2⟩:=X6 h2 h3 _ _ h1
    exact⟨k',by omega,own2,μ2,vals2,st2,by omega,h1,hR2,hN2,h4⟩
   |goto l=>
    obtain⟨ρ2,st2,own2,μ2,h1,h2,h3,h4⟩:=hF
    simp only[Option.some.injEq]at h1
    subst h1
    rcases Jg h with⟨he,_⟩|⟨he,_⟩|⟨j,he,_⟩|⟨v,he,_⟩<;>cases he
   |outgrown=>exact hF.elim
   |ret=>exact Qq h (fun _ _=>rfl) (fun _ _ _ _=>rfl) (fun _ _ _=>rfl) (by simp) (by simp) hF
   |exit i=>exact Qq h (fun _ _=>rfl) (fun _ _ _ _=>rfl) (fun _ _ _=>rfl) (by simp) (by simp) hF
   |panic ch=>exact Qq h (fun _ _=>rfl) (fun _ _ _ _=>rfl) (fun _ _ _=>rfl) (by simp) (by simp) hF
theorem zaj{n:Nat}{F:Nat→Option Code}{G:Nat→Option (Array Tmp×Code×Code)}{H:Nat→Option Code}{ro:Option Nat}: ∀{c:Code},ZJ n c=true→ZK c=true→zaa F c→zab G c→zdS H c→(ro=none∨Zz c=[])→
  zhg (fun b=>ZJ n b=true∧ZK b=true∧zaa F b∧zab G b∧Zw b=true∧(ro=none∨Zz b=[])∧ ∀l,(findLabel b l).isSome=true→H l=some b) c
 | .seq a b,h1,h2,h3,h4,h5,h6=>by
  simp only[ZJ,Bool.and_eq_true]at h1
  simp only[ZK,Bool.and_eq_true]at h2
  simp only[Zz,List.append_eq_nil_iff]at h6
  exact⟨zaj h1.1 h2.1 h3.1 h4.1 h5.1 (h6.imp_right fun e=>e.1),zaj h1.2 h2.2 h3.2 h4.2 h5.2 (h6.imp_right fun e=>e.2)⟩
 | .cond _ a b,h1,h2,h3,h4,h5,h6=>by
  simp only[ZJ,Bool.and_eq_true]at h1
  simp only[ZK,Bool.and_eq_true]at h2
  simp only[Zz,List.append_eq_nil_iff]at h6
  exact⟨zaj h1.1 h2.1 h3.1 h4.1 h5.1 (h6.imp_right fun e=>e.1),zaj h1.2 h2.2 h3.2 h4.2 h5.2 (h6.imp_right fun e=>e.2)⟩
 | .block _ b,h1,h2,h3,h4,h5,h6=>by
  simp only[ZJ]at h1
  simp only[ZK]at h2
  simp only[Zz]at h6
  exact zaj (c:=b) h1 h2 h3 h4 h5 h6
 | .loop b,h1,h2,h3,h4,h5,h6=>by
  simp only[ZJ]at h1
  simp only[ZK]at h2
  simp only[Zz]at h6
  exact zaj (c:=b) h1 h2 h3.2.2 h4 h5 h6
 | .rangeFunc _ _ a b,_,_,_,_,_,_=>trivial
 | .scope b,h1,h2,h3,h4,h5,h6=>by
  simp only[ZJ]at h1
  simp only[ZK]at h2
  simp only[Zz]at h6
  exact⟨fun hn=>⟨h1,h2,h3,h4,hn,h6,h5.1 hn⟩,fun hn=>zaj (c:=b) h1 h2 h3 h4 (h5.2 hn) h6⟩
 | .region ..,_,_,_,_,_,_=>trivial
 | .skip,_,_,_,_,_,_=>trivial
 | .label _,_,_,_,_,_,_=>trivial
 | .exit _,_,_,_,_,_,_=>trivial
 | .goto _,_,_,_,_,_,_=>trivial
 | .ret,_,_,_,_,_,_=>trivial
 | .refuse _,_,_,_,_,_,_=>trivial
theorem zkS(hm:P.follows .mixedOrders=true)(hP:PlainNames P){m0:Nat}(hO:zeC P cfg ext m0){f:Nat}{fn:Func}{whole:Code}(hf:P.funcs[f]? =some fn)(hb:fn.body=some whole)(hok:zb5 fn.ntmps whole=true){ro:Option Nat}{m:Nat}{b:Code}
  (ht:ZJ fn.ntmps b=true) (hs:ZK b=true) (hl:zaa (fun k=>Yl k whole) b) (hr:zab (fun k=>ZC k whole) b) (hn:Zw b=true) (hro:ro=none∨Zz b=[]) (hfs: ∀l,(findLabel b l).isSome=true→Yb l whole=some b):
  Told P cfg ext m0 f fn.ntmps ro m base (.scope b):=by
 intro k hk R r K ρ st a w own μ hR hN h
 have told: ∀(c:Code),Zw c=true→ZJ fn.ntmps c=true→ZK c=true→zaa (fun k=>Yl k whole) c→zab (fun k=>ZC k whole) c→(ro=none∨Zz c=[])→Told P cfg ext m0 f fn.ntmps ro m base c:=
  fun c hc=>zjF hm hP hO hf hb hok (S:=fun _=>False) (fun _ h=>h.elim) c (zbn hc)
 simp only[exec]at h
 let J:Nat→Nat→Act→World→Prop:=fun l k' a' w'=> ∃x own' μ' vals' st',k'≤m0∧(Xh P cfg ext k').loop f (Yt+l) vals' st'=some x∧
  behind P cfg f (Yt+l) true (QF b) (Xu b) x K=some r∧
  Rel P cfg base fn.ntmps w' own' μ' (Qm ((cfg.keep f (Yt+l)).map (·.1)) vals') st' a'∧NoL (Qm ((cfg.keep f (Yt+l)).map (·.1)) vals')∧Keeps base w own μ w' own' μ'
 refine zdR J ?_ ?_
 ·refine wpIn_mono (told b hn ht hs hl hr hro k hk R r _ ρ st a w own μ hR hN h) fun e a' w' hF=> ?_
  cases e with
  |goto l=>
   obtain⟨ρ',st',own',μ',h1,h2,h3,h4⟩:=hF
   simp only at h1
   cases hlb:findLabel b l with
   |some rest=>
    rw[hlb]at h1
    simp only at h1
    simp only[hn]at h1
    obtain⟨vals,h1,hR1,hN1⟩:=X6 h2 h3 _ _ (show ZM P (cfg.keep f (Yt+l)) ρ' _=some r from h1)
    obtain⟨x,hx,h1⟩:=Yw h1
    exact .inl ⟨by rw[hlb];rfl,k,x,own',μ',vals,st',hk,hx,h1,hR1,hN1,h4⟩
   |none=>
    rw[hlb]at h1
    exact .inr ⟨hlb,ρ',st',own',μ',h1,h2,h3,h4⟩
  |outgrown=>exact hF.elim
  |_=>exact hF
 ·rintro l rest k' a' w' hlb ⟨x,own',μ',vals',st',hk',hx',hbeh,hR',hN',hK'⟩
  cases k' with
  |zero=>cases hx'
  |succ k'=>
   obtain⟨r1,r2,r3,r4,r5,r6⟩:=zdm hlb ht hs hl hr hn
   have hfS:=hfs l (by rw[hlb];rfl)
   have hbody:ZY P cfg (Xh P cfg ext k') f (Yt+l) vals' st'=some x:=hx'
   have hkey: ¬(Yt+l<Yt):=by omega
   simp only[ZY,hf,hb,if_neg hkey,Nat.add_sub_cancel_left,hfS,hlb]at hbody
   refine wpIn_mono (told rest r5 r1 r2 r3 r4 (hro.imp_right r6) k' (by omega) _ x _ _ st' a' w' own' μ' hR' hN' hbody) fun e a2 w2 hF=> ?_
   have hF:=hF.keeps hK'
   cases e with
   |normal=>
    obtain⟨ρ2,st2,own2,μ2,h1,h2,h3,h4⟩:=hF
    simp only[Option.some.injEq]at h1
    subst h1
    rcases Jg hbeh with⟨_,hk2⟩|⟨he,_⟩|⟨j,he,_⟩|⟨v,he,_⟩
    ·obtain⟨ρ3,q1,q2,q3⟩:=Qh h2 h3 _ _ hk2
     exact⟨ρ3,st2,own2,μ2,q1,q2,q3,h4⟩
    ·cases he
    ·cases he
    ·cases he
   |goto l'=>
    obtain⟨ρ2,st2,own2,μ2,h1,h2,h3,h4⟩:=hF
    simp only at h1
    split at h1
    ·rename_i e;subst e
     obtain⟨vals2,h1,hR2,hN2⟩:=X6 h2 h3 _ _ h1
     exact .inl ⟨by rw[hlb];rfl,k',by omega,x,own2,μ2,vals2,st2,by omega,h1,hbeh,hR2,hN2,h4⟩
    ·cases h1
   |outgrown=>exact hF.elim
   |ret=>exact Qq hbeh (fun _ _=>rfl) (fun _ _ _ _=>rfl) (fun _ _ _=>rfl) (by simp) (by simp) hF
   |exit i=>exact Qq hbeh (fun _ _=>rfl) (fun _ _ _ _=>rfl) (fun _ _ _=>rfl) (by simp) (by simp) hF
   |panic ch=>exact Qq hbeh (fun _ _=>rfl) (fun _ _ _ _=>rfl) (fun _ _ _=>rfl) (by simp) (by simp) hF
theorem zi6(hm:P.follows .mixedOrders=true)(hP:PlainNames P){m0:Nat}(hO:zeC P cfg ext m0){f:Nat}{fn:Func}{whole:Code}(hf:P.funcs[f]? =some fn)(hb:fn.body=some whole)(hok:zb5 fn.ntmps whole=true){ro:Option Nat}{m:Nat}
  (c:Code) (h1:ZJ fn.ntmps c=true) (h2:ZK c=true) (h3:zaa (fun k=>Yl k whole) c) (h4:zab (fun k=>ZC k whole) c) (h5:zdS (fun l=>Yb l whole) c) (h6:ro=none∨Zz c=[]):Told P cfg ext m0 f fn.ntmps ro m base c:=
 zjF hm hP hO hf hb hok (fun b hb'=>zkS hm hP hO hf hb hok hb'.1 hb'.2.1 hb'.2.2.1 hb'.2.2.2.1 hb'.2.2.2.2.1 hb'.2.2.2.2.2.1 hb'.2.2.2.2.2.2) c (zaj h1 h2 h3 h4 h5 h6) h1 h2 h3 h4 h6
end
end Go.AM
namespace Go.AM
open Go Go.RowKit
section
variable{P:Program}{cfg:Cfg}{base n:Nat}{w w':World}{own own' own1 own2:Own}{μ μ':List Nat}{ρ:Env}{st st':St}{a:Act}{R:Type}{r:Out×St}
def zkT(own:Own):Own:=fun b i=>match own b i with| .t _ _=> .pr| .d=> .free|g=>g
theorem zmE(own:Own):Flat (zkT own):=fun b i=>by
 unfold zkT
 cases own b i with
 |free=>exact .inl rfl
 |pr=>exact .inr (.inl rfl)
 |fr=>exact .inr (.inr (.inl rfl))
 |d=>exact .inl rfl
 |t t j=>exact .inr (.inl rfl)
 |r q j=>exact .inr (.inr (.inr ⟨q,j,rfl⟩))
theorem step_end(hs:Sto P cfg base w own μ st):Step base w own μ w (zkT own) μ (fun g=>(∃t j,g= .t t j)∨g= .d):=by
 refine Step.retag hs (fun g=>match g with| .t _ _=> .pr| .d=> .free|g=>g) rfl (fun g hg=> ?_) (fun g hg=> ?_) rfl rfl
 ·cases g with
  |t t j=>exact absurd (.inl ⟨t,j,rfl⟩) hg
  |d=>exact absurd (.inr rfl) hg
  |_=>rfl
 ·cases g with
  |fr=>rfl
  |_=>cases hg
theorem zoK(hs:Sto P cfg base w own μ st):Sto P cfg base w (zkT own) μ st:=hs.step (step_end hs) hs.len fun r x b h1 h2=> .inl ⟨h1,by rintro j (⟨_,_,e⟩|e)<;>cases e⟩
def zjG(q:Nat)(own:Own):Own:=fun b i=>match own b i with| .r q' j=>(if q'=q then .pr else .r q' j)|g=>g
theorem zhy(hs:Sto P cfg base w own μ st)(q:Nat):Step base w own μ w (zjG q own) μ (fun g=> ∃j,g= .r q j):=by
 refine Step.retag hs (fun g=>match g with| .r q' j=>(if q'=q then .pr else .r q' j)|g=>g) rfl (fun g hg=> ?_) (fun g hg=> ?_) rfl rfl
 ·cases g with
  |r q' j=>simp only;rw[if_neg (fun e=>hg ⟨j,by rw[e]⟩)]
  |_=>rfl
 ·cases g with
  |r q' j=>
   simp only at hg
   split at hg<;>cases hg
  |fr=>rfl
  |_=>cases hg
theorem zoL{q:Nat}{b i:Nat}(h:own b i= .pr∨ ∃j,own b i= .r q j):zjG q own b i= .pr:=by
 rcases h with h|⟨j,h⟩
 ·simp only[zjG,h]
 ·simp only[zjG,h,if_pos]
theorem zmF(hf:Flat own)(q:Nat):Flat (zjG q own):=fun b i=>by
 unfold zjG
 rcases hf b i with h|h|h|⟨q',j,h⟩
 ·rw[h];exact .inl rfl
 ·rw[h];exact .inr (.inl rfl)
 ·rw[h];exact .inr (.inr (.inl rfl))
 ·rw[h];simp only;split
  ·exact .inr (.inl rfl)
  ·exact .inr (.inr (.inr ⟨q',j,rfl⟩))
theorem znP(hs:Sto P cfg base w own μ st)(q:Nat):Sto P cfg base w (zjG q own) μ (st.set q .dead):=
 hs.step (zhy hs q) (by simp[hs.len]) fun k y b' h1' h2'=>by
  rcases Js h1' with⟨rfl,rfl⟩|⟨hne,hk⟩
  ·exact .inr trivial
  ·exact .inl ⟨hk,fun j ⟨j',e⟩=>hne (by cases e;rfl)⟩
def zbO(tmps:Array Value):ResultVar→Sem Value
 | .tmp t=>pure (tmps.getD t undef)
 | .cell a t=>do loadVar t (←asAddr (tmps.getD a undef))
theorem zgl{tmps:Array Value}{x:Nat}{t:TypeId}{b off:Nat}(hx:tmps.getD x undef= .pointer (some ⟨b,off,none⟩)){c:Value}(hl:(loadVar t ⟨b,off,none⟩).run P w= .ok c w):
  (zbO tmps (.cell x t)).run P w= .ok c w:=by
 simp only[zbO,hx,asAddr,pure_bind,hl]
theorem zi7{st0:St}(hR:Rel P cfg base n w own μ ρ st0 a)(hE:Sto P cfg base w own1 μ st)(hF:Flat own1)
  (h1: ∀b i,(own b i= .pr∨ ∃t j,own b i= .t t j)→own1 b i= .pr) {rm:Bool} {k:Nat} {rv:ResultVar} {t:TypeId} {K:V→St→Option (Out×St)} (h:zf3 P rm k ρ st rv t K=some r):
  ∃v st' own2 c,K v st'=some r∧Sto P cfg base w own2 μ st'∧Flat own2∧Keeps base w own1 μ w own2 μ∧VRep w (prOf own2) μ v c∧(zbO a.tmps rv).run P w= .ok c w:=by
 have hmono: ∀{v c},VRep w (prOf own) μ v c→VRep w (prOf own1) μ v c:=fun hv=>hv.mono (fun b i e=>⟨h1 b i (.inl e),rfl⟩) fun _ _ h=>h
 cases rv with
 |tmp x=>
  have hT:=hR.env x
  have hrun:(zbO a.tmps (.tmp x)).run P w= .ok (a.tmps.getD x undef) w:=rfl
  simp only[zf3]at h
  have hval: ∀v,zek false (ZF P t (ρ.get x))=v→VRep w (prOf own1) μ (plain1 v) (a.tmps.getD x undef)∧ ∀sh q lo m,v= .row sh q lo m→VRep w (prOf own1) μ v (a.tmps.getD x undef):=by
   intro v hv
   have key: ∀{u},VRep w (prOf own1) μ u (a.tmps.getD x undef)→v=zek false u→(∀d sh z,u≠ .loc d sh z)→(∀y off,u≠ .lptr y off)→VRep w (prOf own1) μ (plain1 v) (a.tmps.getD x undef)∧ ∀sh q lo m,v= .row sh q lo m→VRep w (prOf own1) μ v (a.tmps.getD x undef):=by
    intro u hu e n1 n2
    cases u with
    |loc d sh z=>exact absurd rfl (n1 _ _ _)
    |lptr y off=>exact absurd rfl (n2 _ _)
    |vec m sh es=>
     cases m with
     |grow=>
      exfalso
      generalize a.tmps.getD x undef=c at hu
      cases hu with
      |vecE _ _ A c hg hm=>exact absurd rfl hg
      |vec _ _ _ ad c f hm=>exact absurd rfl hm
     |_=>simp only[zek]at e;subst e;exact⟨hu.plain1,fun _ _ _ _ e=>by cases e⟩
    |_=>simp only[zek]at e;subst e;exact⟨hu.plain1,fun _ _ _ _ _=>hu⟩
   cases hx:ρ.get x with
   |loc d sh u=>
    rw[hx]at hT hv
    simp only[ZF,zek]at hv
    subst hv
    exact⟨zb8 hT (fun b i e=>h1 b i (.inr ⟨_,_,e⟩)) (fun b i e=>h1 b i (.inl e)),fun _ _ _ _ e=>by cases e⟩
   |lptr y off=>
    rw[hx]at hv
    simp only[ZF,zek]at hv
    subst hv
    exact⟨.undef _,fun _ _ _ _ e=>by cases e⟩
   |vec m sh es=>
    cases m with
    |grow=>
     rw[hx]at hT hv
     simp only[ZF,zek]at hv
     subst hv
     exact⟨hmono (GRep.plain hT),fun _ _ _ _ e=>by cases e⟩
    |_=>
     rw[hx]at hT hv
     exact key (za9 (P:=P) (t:=t) (hmono hT)) hv.symm (by simp[ZF]) (by simp[ZF])
   |nils=>
    rw[hx]at hT hv
    refine key (za9 (P:=P) (t:=t) (hmono hT)) hv.symm ?_ ?_
    ·intro d sh z;simp only[ZF];split<;>simp
    ·intro d sh;simp only[ZF];split<;>simp
   |_=>
    rw[hx]at hT hv
    exact key (za9 (P:=P) (t:=t) (hmono hT)) hv.symm (by simp[ZF]) (by simp[ZF])
  split at h
  ·rename_i sh q lo m hv
   obtain⟨_,h⟩:=Zc h
   obtain⟨y,hy,h⟩:=ZN h
   obtain⟨sh',es,rfl,h⟩:=Qk h
   obtain⟨hg,h⟩:=Zc h
   simp only[Bool.and_eq_true,decide_eq_true_eq]at hg
   obtain⟨rfl,hl⟩:=hg
   have hV:=(hval _ hv).2 _ _ _ _ rfl
   have hs:=zhy hE q
   refine⟨_,_,zjG q own1,_,h,znP hE q,zmF hF q,Yf hs fun g ⟨j,e⟩=> .inr ⟨q,j,e⟩, ?_,hrun⟩
   exact zdk hE hy hl hV hs (fun b i hb=>zoL hb)
  ·rename_i v hn
   exact⟨_,_,own1,_,h,hE,hF,Keeps.refl,(hval _ rfl).1,hrun⟩
 |cell x t'=>
  have hT:=hR.env x
  simp only[zf3]at h
  split at h
  ·rename_i d sh v hx
   rw[hx]at hT
   obtain⟨hsh,h2⟩:=Zc h
   simp only[Qa,Bool.and_eq_true,decide_eq_true_eq]at hsh
   obtain⟨hty,rfl⟩:=hsh
   obtain⟨b,ccs,hc,hB,hs,hcell,hj,hd⟩:=J2 hT
   refine⟨_,_,own1,_,h2,hE,hF,Keeps.refl, ?_,zgl hc (Yn hty w b 0 (fun j=>ccs.getD j undef) fun j hj'=>by rw[Nat.zero_add];exact hcell j hj')⟩
   cases rm with
   |false=>exact hmono (VRep.of_cells (Xw hs) fun j hj'=>⟨(hj j hj').1,by simp only[cond_false];rw[Yu];exact(hj j hj').2.plain1⟩)
   |true=>exact hmono (VRep.of_cells (zje hs) fun j hj'=>⟨(hj j hj').1,by simp only[cond_true];rw[zjd];exact(hj j hj').2.drop1⟩)
  ·rename_i sh v hx
   rw[hx]at hT
   obtain⟨hsh,h2⟩:=Zc h
   simp only[Qa,Bool.and_eq_true,decide_eq_true_eq]at hsh
   obtain⟨hty,rfl⟩:=hsh
   obtain⟨b,off,f,he,hcell,hs,hc⟩:=VRep.cptr_inv (hT:VRep w (prOf own) μ _ _)
   exact⟨_,_,own1,_,h2,hE,hF,Keeps.refl,hmono (VRep.of_cells hs fun j hj=>⟨(hcell j hj).2.2,hc j hj⟩),zgl he (Yn hty w b off f fun j hj=>(hcell j hj).1)⟩
  ·rename_i q off hx
   rw[hx]at hT
   obtain⟨y,hy,h⟩:=ZN h
   obtain⟨cs,rfl,h⟩:=zbc h
   obtain⟨hg,h⟩:=Zc h
   simp only[Bool.and_eq_true,decide_eq_true_eq]at hg
   obtain⟨hb,hty⟩:=hg
   have hT':VRep w (prOf own) μ (.ref q off) (a.tmps.getD x undef):=hT
   generalize hc:a.tmps.getD x undef=c at hT'
   cases hT' with
   |ref _ _ b hmu=>
   obtain⟨ccs,ty,fz,hh,hn,hf,ho,hcell,hj⟩:=zf4 hE hy hmu
   have hna: ∀j,j<cs.length→ ∀c,cs.getD j .undef≠ .agg c:=fun j hj'=>zaZ (hj j hj').2 (hj j hj').1
   refine⟨_,_,own1,_,h,hE,hF,Keeps.refl,VRep.of_cells (Xw (XL hb hna)) fun j hj'=> ?_,zgl hc (Yn hty w b off (fun j=>ccs.getD (off+j) undef) fun j hj'=>hcell _ (by omega))⟩
   have:=hj (off+j) (by omega)
   refine⟨this.1, ?_⟩
   rw[Yu,XM hb hna hj']
   exact this.2.plain1
  ·cases h
theorem zcW{st0:St}(hR:Rel P cfg base n w own μ ρ st0 a){rm:Bool}{k:Nat}: ∀(rs:List ResultVar) (ts:List TypeId) (st:St) (own1:Own) (K:List V→St→Option (Out×St)),rs.length≤ts.length→Sto P cfg base w own1 μ st→Flat own1→
  (∀b i,(own b i= .pr∨ ∃t j,own b i= .t t j)→own1 b i= .pr)→za8 P rm k ρ st (rs.zip ts) K=some r→
  ∃vs st' own2 cs,K vs st'=some r∧Sto P cfg base w own2 μ st'∧Flat own2∧Keeps base w own1 μ w own2 μ∧vs.length=cs.length∧(∀i,i<vs.length→VRep w (prOf own2) μ (vs.getD i .undef) (cs.getD i undef))∧
   (rs.mapM (zbO a.tmps)).run P w= .ok cs w
 |[],ts,st,own1,K,_,hE,hF,h1,h=>⟨[],st,own1,[],h,hE,hF,Keeps.refl,rfl,fun i hi=>by simp at hi,rfl⟩
 |rv::rs,[],st,own1,K,hl,_,_,_,_=>by simp at hl
 |rv::rs,t::ts,st,own1,K,hl,hE,hF,h1,h=>by
  simp only[List.zip_cons_cons,za8]at h
  obtain⟨v,st',own2,c,h,hE2,hF2,hk,hv,hrun⟩:=zi7 hR hE hF h1 h
  obtain⟨vs,st'',own3,cs,h,hE3,hF3,hk3,hl3,hvs,hrun3⟩:=zcW hR rs ts st' own2 _ (by simpa using hl) hE2 hF2 (fun b i hb=>(hk.pr b i (h1 b i hb)).1) h
  refine⟨_,st'',own3,c::cs,h,hE3,hF3,hk.trans hk3,by simp[hl3],fun i hi=> ?_, ?_⟩
  ·cases i with
   |zero=>simpa using hk3.vrep hv
   |succ i=>simpa using hvs i (by simpa using hi)
  ·simp only[List.mapM_cons,Sem.run_bind,hrun,Result.andThen_ok,hrun3,Sem.run_pure]
end
end Go.AM
namespace Go.AM
open Go Go.RowKit
section
variable{P:Program}{cfg:Cfg}{ext:Ext}{base n:Nat}{w w' w0:World}{own own' Y7 own1 own2:Own}{μ μ' μ0:List Nat}{ρ:Env}{st st':St}{a:Act}{x:Out×St}
theorem znQ{g:Tag}{sh:Sh}{es:List V}{c:Value}(h:GRep w own μ g sh es c){k:Nat}(hn:Zu k es=true):GRep w own (μ.take k) g sh es c:=by
 obtain⟨A,cap,hc,hl,h⟩:=h
 refine⟨A,cap,hc,hl, ?_⟩
 rcases h with h|⟨a,f,ccs,ty,fz,hA,ha,hb,hcap,hcell,hsh,hrep,hsp⟩
 ·exact .inl h
 ·exact .inr ⟨a,f,ccs,ty,fz,hA,ha,hb,hcap,hcell,hsh,fun i j hi hj=>(hrep i j hi hj).cut (Jr (Y5 hn i hi) j),hsp⟩
theorem zjH{g:Tag}{v:V}{c:Value}(h:CRep w own μ g v c){k:Nat}(hn:below k v=true):CRep w own (μ.take k) g v c:=by
 unfold CRep at*
 split
 ·rename_i sh es
  simp only[below]at hn
  exact znQ h hn
 ·rename_i hne
  split at h
  ·exact absurd rfl (hne _ _)
  ·exact h.cut hn
theorem zfi{k:Nat}: ∀(ks:List Nat) (vals:List V),Zu k vals=true→ ∀t,below k ((Qm ks vals).get t)=true
 |[],vals,_,t=>by cases vals<;>rfl
 |_::_,[],_,t=>rfl
 |y::ks,v::vals,h,t=>by
  simp only[Zu,Bool.and_eq_true]at h
  have:(Qm (y::ks) (v::vals)).get t=(Env.set (Qm ks vals) y v).get t:=rfl
  rw[this,Zh]
  split
  ·exact h.1
  ·exact zfi ks vals h.2 t
theorem znR{q b:Nat}{y:Res}(h:RRep P cfg w own μ q b y){k:Nat}(hn:zb7 k y=true):RRep P cfg w own (μ.take k) q b y:=by
 cases y with
 |dead=>trivial
 |box cells=>
  obtain⟨ccs,hB,hj⟩:=h
  exact⟨ccs,hB,fun j hj'=>⟨(hj j hj').1,zjH (hj j hj').2 (Y5 hn j hj')⟩⟩
 |row sh es=>
  rcases h with h|⟨m,ccs,hB,hl,hj⟩
  ·exact .inl h
  ·exact .inr ⟨m,ccs,hB,hl,fun i hi=>⟨(hj i hi).1,fun j hj'=>⟨((hj i hi).2 j hj').1,((hj i hi).2 j hj').2.cut (Jr (Y5 hn i hi) j)⟩⟩⟩
 |spare sh n2 q2=>
  obtain⟨cap,off,h1,h2,h⟩:=h
  simp only[zb7,decide_eq_true_eq]at hn
  exact⟨cap,off,by rw[List.getElem?_take,if_pos (by omega)];exact h1,by rw[List.getElem?_take,if_pos (by omega)];exact h2,h⟩
 |loop fid key vals s p=>
  obtain⟨ho,L,fn,c,hb,h1,h2,h3,h4,h5,h6,h7,h8⟩:=h
  exact⟨ho,L,fn,c,hb,h1,h2,h3,h4,h5,h6,h7,fun t=>(h8 t).cut (zfi _ _ hn t)⟩
 |iter z p=>exact h
 |map ck cv es=>exact h
theorem zfj{k:Nat}: ∀{st:St},ZO k st=true→ ∀(q:Nat) (y:Res),st[q]? =some y→zb7 k y=true
 |[],_,q,y,h=>by simp at h
 |z::st,hb,0,y,h=>by
  simp only[ZO,Bool.and_eq_true]at hb
  simp only[List.getElem?_cons_zero,Option.some.injEq]at h
  subst h;exact hb.1
 |z::st,hb,q+1,y,h=>by
  simp only[ZO,Bool.and_eq_true]at hb
  simp only[List.getElem?_cons_succ]at h
  exact zfj hb.2 q y h
theorem zlN(h:Sto P cfg base w own μ st){k:Nat}(hb:ZO k (st.take k)=true):Sto P cfg base w own (μ.take k) (st.take k):=by
 refine⟨by simp[h.len],fun q y b hy hm=> ?_,h.alloc,h.low,h.size⟩
 have hq:zb7 k y=true:=zfj hb q y hy
 rw[List.getElem?_take]at hy hm
 split at hy
 ·rename_i hlt
  rw[if_pos hlt]at hm
  exact znR (h.res q y b hy hm) hq
 ·cases hy
theorem zhz(k:Keeps base w0 Y7 μ0 w own μ):Keeps base w0 Y7 μ0 w own (μ.take μ0.length):=by
 refine⟨k.below,k.pr,k.fr,k.blk,k.obj,[], ?_⟩
 obtain⟨ν,rfl⟩:=k.mu
 simp
theorem zlO{p:Bool}{v:V}{c:Value}(hE:Sto P cfg base w own μ st)(hk:Keeps base w0 Y7 μ0 w own μ)(hv:VRep w (prOf own) μ v c){out:Out}(ho:out= .ret v∨out= .panic v)(h:gc p μ0.length out st=some x):
  ∃μ',Sto P cfg base w own μ' x.2∧Keeps base w0 Y7 μ0 w own μ'∧x.1=out∧VRep w (prOf own) μ' v c:=by
 have cut:(below μ0.length v&&ZO μ0.length (st.take μ0.length))=true→ ∃μ',Sto P cfg base w own μ' (st.take μ0.length)∧Keeps base w0 Y7 μ0 w own μ'∧VRep w (prOf own) μ' v c:=fun hb=>by
  simp only[Bool.and_eq_true]at hb
  exact⟨_,zlN hE hb.2,zhz hk,hv.cut hb.1⟩
 rcases ho with rfl|rfl
 ·simp only[gc]at h
  rcases Yi h with⟨_,h⟩|⟨_,h⟩
  ·obtain⟨hb,h⟩:=Zc h
   cases h
   obtain⟨μ',h1,h2,h3⟩:=cut hb
   exact⟨μ',h1,h2,rfl,h3⟩
  ·unfold Qb at h
   rcases Yi h with⟨_,h⟩|⟨_,h⟩
   ·cases h
    exact⟨μ,hE,hk,rfl,hv⟩
   ·rcases Yi h with⟨hb,h⟩|⟨_,h⟩
    ·cases h
     obtain⟨μ',h1,h2,h3⟩:=cut hb
     exact⟨μ',h1,h2,rfl,h3⟩
    ·cases h
     exact⟨μ,hE,hk,rfl,hv⟩
 ·simp only[gc]at h
  obtain⟨hb,h⟩:=Zc h
  cases h
  obtain⟨μ',h1,h2,h3⟩:=cut hb
  exact⟨μ',h1,h2,rfl,h3⟩
theorem zkU{D:Nat}{ds:List Deferred}(h:Rel P cfg base n w own μ ρ st {tmps:=a.tmps,defers:={target:= .collected D,args:= #[]}::ds})(hD:w.heap[D]? =some (.deferred (some [])))(hd: ∀i,own D i= .d):
  Rel P cfg base n (w.putObj D (.deferred none)) own μ ρ st {tmps:=a.tmps,defers:=ds}∧Keeps base w own μ (w.putObj D (.deferred none)) own μ:=by
 have hlow:base≤D:=h.sto.low D 0 (by rw[hd];simp) (by rw[hd];simp) (by rw[hd];simp)
 have hsame: ∀k,k≠D→(w.putObj D (.deferred none)).heap[k]? =w.heap[k]? :=fun k hk=>World.putObj_heap_other hk
 have hB:Below base w (w.putObj D (.deferred none)):=⟨rfl,rfl,rfl,by simp,fun k hk=>hsame k (by omega)⟩
 have s:Step base w own μ (w.putObj D (.deferred none)) own μ (fun g=>g= .d):=Step.obj h.sto hd (by simp) rfl (fun c e f hc=>by rw[hD]at hc;cases hc) hlow hsame hB
 refine⟨⟨h.sto.step s h.sto.len fun r y b h1 h2=> .inl ⟨h1,by simp⟩,fun t=>s.trep (h.env t) (by simp) fun y off hy=>⟨rfl,(YG h t y off hy).2⟩,h.tmps,fun y hy=> ?_,(List.nodup_cons.1 h.apart).2⟩,s.keeps (by simp)⟩
 obtain⟨D',h1,h2,h3⟩:=h.defers y (by simp only[List.mem_cons];exact .inr hy)
 have hne:D'≠D:=fun e=>(List.nodup_cons.1 h.apart).1 (by rw[←e,←h1];exact hy)
 exact⟨D',h1,(hsame D' hne).trans h2,h3⟩
theorem Jz{F:Fence}{m:Nat}{fn:Func}{R:Ending→World→Prop}{u:FrameMode}(hu:u≠ .run): ∀(ds:List Deferred) (w:World),Rel P cfg base n w own μ ρ st {tmps:=a.tmps,defers:=ds}→Keeps base w0 Y7 μ0 w own μ→
  (∀w',Rel P cfg base n w' own μ ρ st {tmps:=a.tmps,defers:=[]}→Keeps base w0 Y7 μ0 w' own μ→Keeps base w own μ w' own μ→LeavesIn F m P fn a.tmps R [] u w')→LeavesInM F m P fn a.tmps R ds u w
 |[],w,h,hk,hend=>hend w h hk Keeps.refl
 |d::ds,w,h,hk,hend=>by
  obtain⟨D,rfl,hD,hd⟩:=h.defers d (by simp)
  obtain⟨h1,h2⟩:=zkU h hD hd
  exact⟨hu, .inl ⟨D,_,rfl,run_takeDeferred hD,Jz hu ds _ h1 (hk.trans h2) fun w' k1 k2 k3=>hend w' k1 k2 (h2.trans k3)⟩⟩
def zmG:List Value→Value
 |[c]=>c
 |cs=> .tuple cs.toArray
theorem zfk{fn:Func}{tmps:Array Value}{cs:List Value}(h:(fn.results.toList.mapM (zbO tmps)).run P w= .ok cs w):(results fn tmps).run P w= .ok (zmG cs) w:=by
 have he:(fun| .tmp t=>pure (tmps.getD t undef)| .cell a t=>do loadVar t (←asAddr (tmps.getD a undef)):ResultVar→Sem Value)=zbO tmps:=by
  funext x;cases x<;>rfl
 have h2:(results fn tmps).run P w=((fn.results.mapM (zbO tmps)>>=fun vs=>pure (if h:vs.size=1 then vs[0]else .tuple vs):Sem Value)).run P w:=by
  rw[←he];rfl
 rw[h2,Array.mapM_eq_mapM_toList]
 simp only[Sem.run_bind,map_eq_pure_bind,h,Result.andThen_ok,Sem.run_pure]
 match cs with
 |[]=>rfl
 |[c]=>rfl
 |c::c'::cs=>simp[zmG]
theorem zjI: ∀{vs:List V} {cs:List Value},vs.length=cs.length→(∀i,i<vs.length→VRep w (prOf own) μ (vs.getD i .undef) (cs.getD i undef))→
  VRep w (prOf own) μ (match vs with|[v]=>v|vs=> .tup vs) (zmG cs)
 |[v],[c],_,h8=>by simpa[zmG]using h8 0 (by simp)
 |[],[],_,h8=> .tup [] #[] rfl fun i hi=>by simp at hi
 |[],_::_,h,_=>by simp at h
 |_::_,[],h,_=>by simp at h
 |[_],_::_::_,h,_=>by simp at h
 |_::_::_,[_],h,_=>by simp at h
 |v::v'::vs,c::c'::cs,h7,h8=>by
  refine .tup _ _ (by simpa using h7) fun i hi=> ?_
  have:=h8 i hi
  simpa[Array.getD_eq_getD_getElem?,List.getD_eq_getElem?_getD]using this
theorem zjJ{m:Nat}{F:Fence}{fn:Func}(hR:Rel P cfg base n w own μ ρ st a)(hk:Keeps base w0 Y7 μ0 w own μ){p:Bool}(hl:fn.results.size≤fn.resultTypes.size)
  {rm:Bool} (h:za8 P rm μ0.length ρ st (fn.results.toList.zip fn.resultTypes.toList) (fun vs st'=>gc p μ0.length (.ret (match vs with|[v]=>v|vs=> .tup vs)) st')=some x):
  LeavesInM F m P fn a.tmps (Je P cfg base w0 Y7 μ0 x) a.defers .returning w:=by
 refine Jz (by simp) a.defers w hR hk fun w' h1 h2 _=> ?_
 obtain⟨vs,st',own2,cs,h3,h4,h5,h6,h7,h8,h9⟩:=zcW (a:={tmps:=a.tmps,defers:=[]}) h1 _ _ st (zkT own) _ (by simpa using hl) (zoK h1.sto) (zmE own) (fun b i hb=>by
  rcases hb with hb|⟨t,j,hb⟩<;>simp only[zkT,hb]) h
 refine⟨zmG cs,zfk h9, ?_⟩
 have hke:Keeps base w' own μ w' (zkT own) μ:=(step_end h1.sto).keeps (by simp)
 have hv:=zjI h7 h8
 obtain⟨μ',k1,k2,k3,k4⟩:=zlO h4 ((h2.trans hke).trans h6) hv (.inl rfl) h3
 refine⟨zmG cs,own2,μ',k1,k2, ?_⟩
 rw[k3]
 exact⟨rfl,k4⟩
def zfv(t L:Nat)(own:Own):Own:=fun b i=>match own b i with| .t t' j=>(if t'=t∧j=0 then .r L 0 else .pr)| .d=> .free|g=>g
theorem zmH(hs:Sto P cfg base w own μ st)(t L:Nat):Step base w own μ w (zfv t L own) μ (fun g=>(∃t j,g= .t t j)∨g= .d):=by
 refine Step.retag hs (fun g=>match g with| .t t' j=>(if t'=t∧j=0 then .r L 0 else .pr)| .d=> .free|g=>g) rfl (fun g hg=> ?_) (fun g hg=> ?_) rfl rfl
 ·cases g with
  |t t j=>exact absurd (.inl ⟨t,j,rfl⟩) hg
  |d=>exact absurd (.inr rfl) hg
  |_=>rfl
 ·cases g with
  |fr=>rfl
  |t t' j=>
   simp only at hg
   split at hg<;>cases hg
  |_=>cases hg
theorem GRep.endG{t L:Nat}{sh:Sh}{es:List V}{c:Value}(h:GRep w own μ (.t t 0) sh es c):GRep w (zfv t L own) μ (.r L 0) sh es c:=by
 obtain⟨A,cap,hc,hl,h⟩:=h
 refine⟨A,cap,hc,hl, ?_⟩
 have hp: ∀b i,own b i= .pr→zfv t L own b i= .pr:=fun b i hp=>by simp[zfv,hp]
 rcases h with h|⟨a,f,ccs,ty,fz,hA,ha,hb,hcap,hcell,hsh,hrep,hsp⟩
 ·exact .inl h
 ·refine .inr ⟨a,f,ccs,ty,fz,hA,ha,hb,hcap,fun i j hi hj=> ?_,hsh,fun i j hi hj=>(hrep i j hi hj).mono (fun b i e=>⟨hp b i e,rfl⟩) fun _ _ h=>h,fun k h1 h2=> ?_⟩
  ·obtain⟨h1,h2,h3⟩:=hcell i j hi hj
   exact⟨h1,hp _ _ h2,h3⟩
  ·obtain⟨h3,h4⟩:=hsp k h1 h2
   exact⟨by simp[zfv,h3],h4⟩
theorem zh0{m:Nat}{F:Fence}{fn:Func}(hR:Rel P cfg base n w own μ ρ st a)(hk:Keeps base w0 Y7 μ0 w own μ){rm:Bool}{t:Nat}{sh:Sh}{es:List V}(hg:zhY rm ρ fn.results.toList=some (t,sh,es))
  (hb:(Zu μ0.length es&&ZO μ0.length (st.take μ0.length))=true):
  LeavesInM F m P fn a.tmps (Je P cfg base w0 Y7 μ0 (.ret (.spr sh es μ0.length),st.take μ0.length++[.spare sh es.length (μ0.length+1), .dead, .dead])) a.defers .returning w:=by
 refine Jz (by simp) a.defers w hR hk fun w' h1 h2 _=> ?_
 obtain⟨hres,hget⟩:fn.results.toList=[.tmp t]∧ρ.get t= .vec .grow sh es:=by
  unfold zhY at hg
  split at hg
  ·cases hg
  ·split at hg
   ·rename_i x hx
    split at hg
    ·rename_i hv
     cases hg
     exact⟨hx,hv⟩
    ·cases hg
   ·cases hg
 have hG:GRep w' own μ (.t t 0) sh es (a.tmps.getD t undef):=by
  have:=h1.env t
  rw[hget]at this
  exact this
 simp only[Bool.and_eq_true]at hb
 have s:=zmH h1.sto t μ0.length
 have hs2:Sto P cfg base w' (zfv t μ0.length own) μ st:=h1.sto.step s h1.sto.len fun r x b h1 h2=> .inl ⟨h1,by rintro j (⟨_,_,e⟩|e)<;>cases e⟩
 have hk2:=h2.trans (s.keeps (by simp))
 have hl:(st.take μ0.length).length=μ0.length:=by
  obtain⟨ν,hν⟩:=h2.mu
  rw[List.length_take,←h1.sto.len,hν]
  simp
 have hb1:below μ0.length (.vec .grow sh es)=true:=by simpa[below]using hb.1
 have hs3:=zlN hs2 hb.2
 have hk3:=zhz hk2
 have hG3:GRep w' (zfv t μ0.length own) (μ.take μ0.length) (.r μ0.length 0) sh es (a.tmps.getD t undef):=zjH (v:= .vec .grow sh es) hG.endG hb1
 generalize μ.take μ0.length=μ1 at hs3 hk3 hG3
 have hl1:μ1.length=μ0.length:=by rw[hs3.len,hl]
 obtain⟨A,cap,hc,hcap,hor⟩:=hG3
 obtain⟨blk,off,hA,hroom⟩: ∃blk off,(cap=0∨A=some ⟨blk,off,none⟩)∧(cap=0∨ ∃ccs ty fz,w'.heap[blk]? =some (.cells ccs ty fz)∧off+cap*sh.sz≤ccs.size∧
   ∀k,es.length*sh.sz≤k→k<cap*sh.sz→zfv t μ0.length own blk (off+k)= .r μ0.length 0∧w'.frozen? ⟨blk,off+k,none⟩=false):=by
  rcases hor with⟨_,h0⟩|⟨ad,f,ccs,ty,fz,hA,ha,hb,hsz,_,_,_,hsp⟩
  ·exact⟨0,0, .inl h0, .inl h0⟩
  ·obtain⟨b,off,sp⟩:=ad
   simp only at ha
   subst ha
   exact⟨b,off, .inr hA, .inr ⟨ccs,ty,fz,hb,hsz,hsp⟩⟩
 have s2:Step base w' (zfv t μ0.length own) μ1 w' (zfv t μ0.length own) (μ1++[blk,cap,off]) (fun _=>False):=by
  have:=Step.refl' hs3
  exact⟨this.below,this.pr,this.tag,this.fr,this.alloc,this.low,this.blk,this.whole,_,rfl⟩
 have hplain:VRep w' (prOf (zfv t μ0.length own)) (μ1++[blk,cap,off]) (.vec .plain sh es) (a.tmps.getD t undef):=s2.vrep (GRep.plain ⟨A,cap,hc,hcap,hor⟩)
 have e0:(μ1++[blk,cap,off])[μ0.length]? =some blk:=by rw[←hl1];simp
 have e1:(μ1++[blk,cap,off])[μ0.length+1]? =some cap:=by rw[←hl1];simp
 have e2:(μ1++[blk,cap,off])[μ0.length+2]? =some off:=by rw[←hl1];simp
 refine⟨a.tmps.getD t undef,zfk (cs:=[a.tmps.getD t undef]) (by rw[hres];rfl),a.tmps.getD t undef,zfv t μ0.length own,μ1++[blk,cap,off], ?_,hk3.trans (s2.keeps (by simp)),rfl, ?_⟩
 ·refine hs3.step s2 (by simp[hl,hl1]) fun r x b hx hm=> ?_
  by_cases hr:r<μ0.length
  ·left
   rw[List.getElem?_append_left (by rw[hl];exact hr)]at hx
   exact⟨hx,fun _ h=>h⟩
  ·right
   rw[List.getElem?_append_right (by rw[hl];omega),hl]at hx
   generalize hd:r-μ0.length=d at hx
   match d,hx with
   |0,hx=>
    have:r=μ0.length:=by omega
    subst this
    cases hx
    rw[e0]at hm
    cases hm
    exact⟨cap,off,e1,e2,hroom⟩
   |1,hx=>cases hx;trivial
   |2,hx=>cases hx;trivial
   |k+3,hx=>simp at hx
 ·rw[hc]at hplain⊢
  exact .spr sh es μ0.length blk cap off A e0 e1 e2 hA hplain
theorem zkV{m:Nat}{F:Fence}{fn:Func}{ρ':Env}(hR:Rel P cfg base n w own μ ρ' st a)(hk:Keeps base w0 Y7 μ0 w own μ){p:Bool}{v:V}{c:Value}(hv:VRep w (prOf own) μ v c)(h:gc p μ0.length (.panic v) st=some x):
  LeavesInM F m P fn a.tmps (Je P cfg base w0 Y7 μ0 x) a.defers (.panicking [{v:=c,recovered:=false}]) w:=by
 refine Jz (by simp) a.defers w hR hk fun w' h1 h2 h3=> ?_
 obtain⟨μ',k1,k2,k3,k4⟩:=zlO h1.sto h2 (h3.vrep hv) (.inr rfl) h
 refine⟨c,own,μ',k1,k2, ?_⟩
 rw[k3]
 exact⟨rfl,k4⟩
end
end Go.AM
namespace Go.AM
open Go Go.RowKit
section
variable{P:Program}{cfg:Cfg}{ext:Ext}{base n:Nat}{w w' w0:World}{own own' Y7 own1 own2:Own}{μ μ' μ0:List Nat}{ρ:Env}{st st':St}{a:Act}{x:Out×St}
theorem zbx: ∀(vs:List V) (i t:Nat),(Qn i vs).get t=if i≤t∧t<i+vs.length then vs.getD (t-i) .undef else .undef
 |[],i,t=>by
  have: ¬(i≤t∧t<i+0):=by omega
  simp[Qn,Env.get]
 |v::vs,i,t=>by
  have:(Qn i (v::vs)).get t=(Env.set (Qn (i+1) vs) i v).get t:=rfl
  rw[this,Zh,zbx vs (i+1) t]
  by_cases e:t=i
  ·subst e;simp
  ·rw[if_neg e]
   by_cases h:i+1≤t∧t<i+1+vs.length
   ·rw[if_pos h,if_pos (by simp;omega)]
    obtain⟨k,hk⟩: ∃k,t-i=k+1:=⟨t-i-1,by omega⟩
    rw[hk,show t-(i+1)=k from by omega]
    simp
   ·rw[if_neg h,if_neg (by simp;omega)]
theorem zmI{fn:Func}{args:List V}{cargs:Array Value}(hs:Sto P cfg base w own μ st)(ha:Args w own μ args cargs)(hl:args.length≤fn.ntmps):
  Rel P cfg base fn.ntmps w own μ (zaV args) st {tmps:=cargs++Array.replicate (fn.ntmps-cargs.size) undef,defers:=[]}∧NoL (zaV args):=by
 have hv: ∀t,(zaV args).get t= .undef∨(t<args.length∧(zaV args).get t=args.getD t .undef):=fun t=>by
  unfold zaV
  rw[zbx]
  split
  ·rename_i h;exact .inr ⟨by omega,by simp⟩
  ·exact .inl rfl
 have hT: ∀t,VRep w (prOf own) μ ((zaV args).get t) ((cargs++Array.replicate (fn.ntmps-cargs.size) undef).getD t undef):=fun t=>by
  rcases hv t with h|⟨h,h2⟩
  ·rw[h];exact .undef _
  ·rw[h2]
   have:=ha.2 t h
   have hlt:t<cargs.size:=by rw[←ha.1];exact h
   rw[Array.getD_eq_getD_getElem?,Array.getElem?_append_left hlt,←Array.getD_eq_getD_getElem?]
   exact this
 refine⟨⟨hs,fun t=> .of_val (hT t), ?_,(fun y hy=>by cases hy), .nil⟩,fun t y off e=> ?_⟩
 ·have:=ha.1
  simp;omega
 ·have:=hT t
  rw[e]at this
  cases this
theorem zfl{n:Nat}{c:Code}(h:zb5 n c=true):ZJ n c=true∧zaa (fun k=>Yl k c) c∧zab (fun k=>ZC k c) c∧ZK c=true∧zdS (fun k=>Yb k c) c:=by
 simp only[zb5,Bool.and_eq_true,List.all_eq_true]at h
 obtain⟨⟨⟨⟨⟨h1,h2⟩,h3⟩,h4⟩,h5⟩,h6⟩:=h
 exact⟨h1,QW (zah h2) fun k hk=>⟨Nat.le_of_ble_eq_true (h5 k hk),rfl⟩,QX (zah h3) fun k hk=>rfl,h6,QZ (zah h4) fun l _=>rfl⟩
theorem zjK(hm:P.follows .mixedOrders=true)(hP:PlainNames P){m0:Nat}(hO:zeC P cfg ext m0):Jk P cfg (Ze P cfg (Xh P cfg ext m0)):=by
 intro f args st x h
 unfold Ze at h
 split at h
 ·cases h
 ·rename_i fn hf
  split at h
  ·cases h
  ·rename_i c hb
   refine⟨⟨fn,hf,by rw[hb];rfl⟩, ?_⟩
   intro n base w own μ cargs hs hfl ha
   obtain⟨hg,h⟩:=Zc h
   simp only[Bool.and_eq_true,decide_eq_true_eq]at hg
   obtain⟨⟨_,hl⟩,hok⟩:=hg
   obtain⟨h1,h2,h3,h4,h5⟩:=zfl hok
   obtain⟨hR,hN⟩:=zmI (fn:=fn) hs ha hl
   refine callsIn_of_wp_marks hf hb trivial ?_
   refine wpIn_mono (zi6 (ro:=none) (m:=n) hm hP hO hf hb hok c h1 h4 h2 h3 h5 (.inl rfl) m0 (Nat.le_refl _) _ x _ _ st _ w own μ hR hN h) fun e a' w' hF=> ?_
   rw[←hs.len]at hF
   cases e with
   |normal=>
    obtain⟨ρ',st',own',μ',k1,k2,k3,k4⟩:=hF
    dsimp only at k1
    split at k1
    ·rename_i hg2
     obtain⟨hb2,k1⟩:=Zc k1
     cases k1
     exact zh0 k2 k4 hg2 hb2
    ·obtain⟨hsz,k1⟩:=Zc k1
     exact zjJ k2 k4 (by simpa using hsz) k1
   |ret=>
    obtain⟨ρ',st',own',μ',k1,k2,k3,k4⟩:=hF
    dsimp only at k1
    split at k1
    ·rename_i hg2
     obtain⟨hb2,k1⟩:=Zc k1
     cases k1
     exact zh0 k2 k4 hg2 hb2
    ·obtain⟨hsz,k1⟩:=Zc k1
     exact zjJ k2 k4 (by simpa using hsz) k1
   |exit i=>obtain⟨ρ',st',own',μ',k1,k2,k3,k4⟩:=hF;cases k1
   |goto l=>obtain⟨ρ',st',own',μ',k1,k2,k3,k4⟩:=hF;cases k1
   |panic ch=>
    obtain⟨v,cv,ρ',ρ'',st',own',μ',k1,k2,k3,k4,rfl⟩:=hF
    exact zkV k2 k3 k4 k1
   |outgrown=>exact hF.elim
end
end Go.AM
namespace Go.AM
open Go Go.RowKit
section
variable{P:Program}{cfg:Cfg}{ext:Ext}{base n:Nat}{w w' w0:World}{own own' Y7 own1 own2:Own}{μ μ' μ0:List Nat}{ρ:Env}{st st':St}{a:Act}
theorem Xf{n:Nat}{F:Nat→Option Code}{G:Nat→Option (Array Tmp×Code×Code)}{key:Nat}{ps:Array Tmp}{x y:Code}: ∀{c:Code},ZC key c=some (ps,x,y)→ZJ n c=true→ZK c=true→zaa F c→zab G c→
  (∀d∈ps.toList,d<n)∧(ZJ n x=true∧ZK x=true∧zaa F x∧zab G x∧Zz x=[]∧Zw x=true)∧(ZJ n y=true∧ZK y=true∧zaa F y∧zab G y∧Zz y=[]∧Zw y=true)
 | .seq a b,h,h1,h2,h3,h4=>by
  simp only[ZJ,Bool.and_eq_true]at h1
  simp only[ZK,Bool.and_eq_true]at h2
  simp only[ZC]at h
  cases ha:ZC key a with
  |some z=>rw[ha]at h;simp only[Yh]at h;cases h;exact Xf ha h1.1 h2.1 h3.1 h4.1
  |none=>rw[ha]at h;exact Xf (c:=b) h h1.2 h2.2 h3.2 h4.2
 | .cond _ a b,h,h1,h2,h3,h4=>by
  simp only[ZJ,Bool.and_eq_true]at h1
  simp only[ZK,Bool.and_eq_true]at h2
  simp only[ZC]at h
  cases ha:ZC key a with
  |some z=>rw[ha]at h;simp only[Yh]at h;cases h;exact Xf ha h1.1 h2.1 h3.1 h4.1
  |none=>rw[ha]at h;exact Xf (c:=b) h h1.2 h2.2 h3.2 h4.2
 | .block _ b,h,h1,h2,h3,h4=>by
  simp only[ZJ]at h1
  simp only[ZK]at h2
  simp only[ZC]at h
  exact Xf h h1 h2 h3 h4
 | .loop b,h,h1,h2,h3,h4=>by
  simp only[ZJ]at h1
  simp only[ZK]at h2
  simp only[ZC]at h
  exact Xf h h1 h2 h3.2.2 h4
 | .rangeFunc _ ps' a b,h,h1,h2,h3,h4=>by
  simp only[ZJ,Bool.and_eq_true,List.all_eq_true]at h1
  simp only[ZK,Bool.and_eq_true,List.isEmpty_iff]at h2
  simp only[ZC]at h
  cases hk:Nat.beq (keyOf b) key with
  |true=>
   rw[hk]at h
   simp only[cond_true]at h
   cases h
   exact⟨fun d hd=>by simpa using h1.1.1 d hd,⟨h1.1.2,h2.1.1.1.1,h3.1,h4.2.1,h2.1.1.2,h2.2.1⟩,⟨h1.2,h2.1.1.1.2,h3.2,h4.2.2,h2.1.2,h2.2.2⟩⟩
  |false=>
   rw[hk]at h
   simp only[cond_false]at h
   cases ha:ZC key a with
   |some z=>rw[ha]at h;simp only[Yh]at h;cases h;exact Xf ha h1.1.2 h2.1.1.1.1 h3.1 h4.2.1
   |none=>rw[ha]at h;exact Xf (c:=b) h h1.2 h2.1.1.1.2 h3.2 h4.2.2
 | .scope b,h,h1,h2,h3,h4=>by
  simp only[ZJ]at h1
  simp only[ZK]at h2
  simp only[ZC]at h
  exact Xf h h1 h2 h3 h4
 | .region ..,h,_,_,_,_=>by simp[ZC]at h
 | .skip,h,_,_,_,_=>by simp[ZC]at h
 | .label _,h,_,_,_,_=>by simp[ZC]at h
 | .exit _,h,_,_,_,_=>by simp[ZC]at h
 | .goto _,h,_,_,_,_=>by simp[ZC]at h
 | .ret,h,_,_,_,_=>by simp[ZC]at h
 | .refuse _,h,_,_,_,_=>by simp[ZC]at h
theorem zkW(tm:Array Value)(t:Nat)(c:Value)(ht:t<tm.size)(x:Nat):(tm.setIfInBounds t c).getD x undef=if x=t then c else tm.getD x undef:=by
 simp only[Array.getD_eq_getD_getElem?]
 by_cases e:x=t
 ·subst e;simp[ht]
 ·rw[if_neg e,Array.getElem?_setIfInBounds_ne (Ne.symm e)]
theorem zgm{pr:Nat→Nat→Prop}: ∀(ps:List Nat) (args:List V) (cargs:List Value) (ρ:Env) (tm:Array Value),args.length=cargs.length→(∀i,i<args.length→VRep w pr μ (args.getD i .undef) (cargs.getD i undef))→(∀d∈ps,d<tm.size)→
  (∀t,VRep w pr μ (ρ.get t) (tm.getD t undef))→
  ((ps.zip cargs).foldl (fun tmps (x:Nat×Value)=>tmps.setIfInBounds x.1 x.2) tm).size=tm.size∧ ∀t,VRep w pr μ ((ρ.apply (ps.zip args)).get t) (((ps.zip cargs).foldl (fun tmps (x:Nat×Value)=>tmps.setIfInBounds x.1 x.2) tm).getD t undef)
 |[],args,cargs,ρ,tm,_,_,_,h=>by simpa[Env.apply]using h
 |p::ps,[],[],ρ,tm,_,_,_,h=>by simpa[Env.apply]using h
 |p::ps,[],_::_,ρ,tm,h,_,_,_=>by simp at h
 |p::ps,_::_,[],ρ,tm,h,_,_,_=>by simp at h
 |p::ps,v::args,c::cargs,ρ,tm,hl,ha,hp,h=>by
  simp only[List.zip_cons_cons,List.foldl_cons,Env.apply]
  have hpt:p<tm.size:=hp p (by simp)
  obtain⟨h1,h2⟩:=zgm (pr:=pr) ps args cargs (ρ.set p v) (tm.setIfInBounds p c) (by simpa using hl) (fun i hi=>by simpa using ha (i+1) (by simpa using hi)) (fun d hd=>by simpa using hp d (by simp[hd])) fun t=>by
   rw[Zh,zkW _ _ _ hpt]
   split
   ·simpa using ha 0 (by simp)
   ·exact h t
  exact⟨by simpa using h1,h2⟩
theorem zh1{s:LoopState}{p:Option Code}(h:zjc .ready none s p):s= .ready∧p=none:=by
 cases s<;>cases p<;>first|exact⟨rfl,rfl⟩|exact h.elim
theorem zeD{b q:Nat}{jump:Option Code}{s2:LSt}{p2:Option Ex}(hj:zjc s2 p2 (if jump.isNone then .ready else .done) jump)(hR:Rel P cfg base n w own μ ρ st a)(hk:Keeps base w0 Y7 μ0 w own μ)(hb:μ0[q]? =some b){f key:Nat}{vals:List V}{s:LSt}{p:Option Ex}
  (hst:st[q]? =some (.loop f key vals s p)): ∃w',(Instr.endRound b jump).run P w= .ok (.bool jump.isNone) w'∧Je P cfg base w0 Y7 μ0 (.ret (.bool jump.isNone),st.set q (.loop f key vals s2 p2)) (.returned (.bool jump.isNone)) w':=by
 have hb2:μ[q]? =some b:=by
  obtain⟨ν,rfl⟩:=hk.mu
  exact zdg hb
 obtain⟨L,hh,_,hput⟩:=zge hR hst hb2
 obtain⟨k1,k2⟩:=hput {L with state:=if jump.isNone then .ready else .done,pending:=jump} (.loop f key vals s2 p2) ⟨rfl,rfl,rfl,rfl,rfl⟩ (.inr ⟨s2,p2,rfl,hj⟩)
 exact⟨_,run_endRound jump hh,_,own,μ,k1.sto,hk.trans k2,rfl, .bool _⟩
theorem zi8(hm:P.follows .mixedOrders=true)(hP:PlainNames P){m0:Nat}(hO:zeC P cfg ext m0):Jt P cfg (Xn P cfg (Xh P cfg ext m0)):=by
 intro q f key vals args st x hst h n base b w own μ cargs hs hb hfl ha
 obtain⟨ho,L,fn,c,hh,h1,h2,h3,_,h5,h6,h7,h8⟩:=hs.res q _ b hst hb
 obtain⟨hL1,hL2⟩:=zh1 h7
 simp only[Xn,h1,h2,h5]at h
 obtain⟨hg,h⟩:=Zc h
 simp only[decide_eq_true_eq]at hg
 obtain⟨c1,c2,c3,c4,c5⟩:=zfl h3
 obtain⟨d0,⟨dx1,dx2,dx3,dx4,dx5,dx6⟩,dy1,dy2,dy3,dy4,dy5,dy6⟩:=Xf h5 c1 c4 c2 c3
 refine⟨L.fn,_,L.assign,L.body,run_yield hh (by rw[←ha.1];exact hg),roundIn_of_wpIn trivial ?_⟩
 obtain⟨e1,e2⟩:=zgm (w:=w) (μ:=μ) (pr:=prOf own) L.params.toList args cargs.toList (Qm ((cfg.keep f key).map (·.1)) vals) L.tmps (by simpa using ha.1) (fun i hi=>by
  have:=ha.2 i hi
  simpa[Array.getD_eq_getD_getElem?,List.getD_eq_getElem?_getD]using this) (by rw[h6];exact d0) h8
 have hf:(L.params.zip cargs).foldl (fun tmps (x:Nat×Value)=>tmps.setIfInBounds x.1 x.2) L.tmps=(L.params.toList.zip cargs.toList).foldl (fun tmps (x:Nat×Value)=>tmps.setIfInBounds x.1 x.2) L.tmps:=by
  rw[←Array.foldl_toList,Array.toList_zip]
 have hR:Rel P cfg base fn.ntmps w own μ ((Qm ((cfg.keep f key).map (·.1)) vals).apply (L.params.toList.zip args)) st {tmps:=(L.params.zip cargs).foldl (fun tmps (x:Nat×Value)=>tmps.setIfInBounds x.1 x.2) L.tmps,defers:=[]}:=by
  rw[hf]
  exact⟨hs,fun t=> .of_val (e2 t),e1.trans h6,(fun z hz=>by cases hz), .nil⟩
 have hN:NoL ((Qm ((cfg.keep f key).map (·.1)) vals).apply (L.params.toList.zip args)):=fun t y off e=>by
  have:=e2 t
  rw[e]at this
  cases this
 refine wpIn_mono (zi6 (ro:=some b) (m:=n) hm hP hO h1 h2 h3 L.assign dx1 dx2 dx3 dx4 (QY dx6) (.inr dx5) m0 (Nat.le_refl _) _ x _ _ st _ w own μ hR hN h) fun e a1 w1 hF=> ?_
 cases e with
 |exit i=>obtain⟨_,_,_,_,k1,_⟩:=hF;cases k1
 |goto l=>obtain⟨_,_,_,_,k1,_⟩:=hF;cases k1
 |ret=>obtain⟨_,_,_,_,k1,_⟩:=hF;cases k1
 |panic ch=>obtain⟨_,_,_,_,_,_,_,k1,_⟩:=hF;cases k1
 |outgrown=>exact hF.elim
 |normal=>
  obtain⟨ρ1,st1,own1,μ1,k1,k2,k3,k4⟩:=hF
  obtain⟨z,hz,k1⟩:=ZN k1
  obtain⟨f1,key1,v1,s1,p1,rfl,k5⟩:=Xt k1
  unfold zf1 at k5
  split at k5
  ·have hb1:μ1[q]? =some b:=by
    obtain⟨ν,rfl⟩:=k4.mu
    exact zdg hb
   obtain⟨L1,hh1,hl1,hput⟩:=zge k2 hz hb1
   obtain⟨g1,g2⟩:=zh1 hl1
   obtain⟨k6,k7⟩:=hput {L1 with state:= .busy} (.loop f1 key1 v1 .busy none) ⟨rfl,rfl,rfl,rfl,rfl⟩ (.inr ⟨.busy,none,rfl,trivial⟩)
   refine⟨_,run_beginRound hh1 g1, ?_⟩
   refine wpIn_mono (zi6 (ro:=some b) (m:=n) hm hP hO h1 h2 h3 L.body dy1 dy2 dy3 dy4 (QY dy6) (.inr dy5) m0 (Nat.le_refl _) _ x _ _ _ _ _ own1 μ1 k6 k3 k5) fun e a2 w2 hF2=> ?_
   have hF2:=hF2.keeps (k4.trans k7)
   cases e with
   |outgrown=>exact hF2.elim
   |panic ch=>
    obtain⟨_,_,_,_,_,_,_,j1,_⟩:=hF2
    obtain⟨z,hz,j1⟩:=ZN j1
    obtain⟨f2,key2,v2,s2,p2,rfl,j5⟩:=Xt j1
    cases s2<;>cases j5
   |goto l=>
    obtain⟨_,_,_,_,j1,_⟩:=hF2
    obtain⟨z,hz,j1⟩:=ZN j1
    obtain⟨f2,key2,v2,s2,p2,rfl,j5⟩:=Xt j1
    cases s2<;>cases j5
   |normal=>
    obtain⟨ρ2,st2,own2,μ2,j1,j2,_,j4⟩:=hF2
    obtain⟨z,hz,j1⟩:=ZN j1
    obtain⟨f2,key2,v2,s2,p2,rfl,j5⟩:=Xt j1
    cases s2<;>cases j5
    obtain⟨w3,e1,e2⟩:=zeD (jump:=none) (s2:= .ready) (p2:=none) trivial j2 j4 hb hz
    exact⟨_,w3,e1,e2⟩
   |ret=>
    obtain⟨ρ2,st2,own2,μ2,j1,j2,_,j4⟩:=hF2
    obtain⟨z,hz,j1⟩:=ZN j1
    obtain⟨f2,key2,v2,s2,p2,rfl,j5⟩:=Xt j1
    cases s2<;>cases j5
    obtain⟨w3,e1,e2⟩:=zeD (jump:=some .ret) (s2:= .done) (p2:=some .ret) trivial j2 j4 hb hz
    exact⟨_,w3,e1,e2⟩
   |exit i=>
    obtain⟨ρ2,st2,own2,μ2,j1,j2,_,j4⟩:=hF2
    obtain⟨z,hz,j1⟩:=ZN j1
    obtain⟨f2,key2,v2,s2,p2,rfl,j5⟩:=Xt j1
    cases s2<;>cases j5
    obtain⟨w3,e1,e2⟩:=zeD (jump:=some (.exit i)) (s2:= .done) (p2:=some (.exit i)) rfl j2 j4 hb hz
    exact⟨_,w3,e1,e2⟩
  ·cases k5
def zfm(P:Program)(cfg:Cfg)(ext:Ext):Prop:=
 ∀(f:Nat) (x:Oracle→List V→St→Option (Out×St)),ext f=some x→ ∀O,Jk P cfg O.call→Jt P cfg O.round→ ∀(args:List V) (st:St) (y:Out×St),x O args st=some y→
  (∃fn,P.funcs[f]? =some fn∧fn.body.isSome=true)∧
  ∀(n base:Nat) (w:World) (own:Own) (μ:List Nat) (cargs:Array Value),Sto P cfg base w own μ st→Flat own→Args w own μ args cargs→CallsIn Fence.wide n P f cargs w (Je P cfg base w own μ y)
theorem zlP(hm:P.follows .mixedOrders=true)(hP:PlainNames P)(hE:zfm P cfg ext): ∀m,zeC P cfg ext m
 |0=>fun k hk=>by
  have:k=0:=by omega
  subst this
  exact⟨fun f args st x h=>(by cases h),fun q f key vals args st x _ h=>(by cases h)⟩
 |m+1=>fun k hk=>by
  have ih:=zlP hm hP hE m
  rcases Nat.lt_or_ge k (m+1)with h|h
  ·exact ih k (by omega)
  ·have:k=m+1:=by omega
   subst this
   refine⟨fun f args st x h=> ?_,zi8 hm hP ih⟩
   simp only[Xh,zhp]at h
   split at h
   ·rename_i y hy
    exact hE f y hy _ (ih m (Nat.le_refl _)).1 (ih m (Nat.le_refl _)).2 args st x h
   ·exact zjK hm hP ih f args st x h
theorem zkX(hm:P.follows .mixedOrders=true)(hP:PlainNames P)(hE:zfm P cfg ext)(m:Nat):Jk P cfg (Xh P cfg ext m).call:=(zlP hm hP hE m m (Nat.le_refl _)).1
end
end Go.AM
namespace Go.AM
open Go
section
variable{P:Program}{cfg:Cfg}{fid:Nat}{R:Type}{r:R}{α:Type}
def Evt(p:Nat→Prop):Prop:= ∃n,∀m,n≤m→p m
theorem Evt.of{p:Nat→Prop}(h: ∀m,p m):Evt p:=⟨0,fun m _=>h m⟩
theorem Evt.mono{p q:Nat→Prop}(h:Evt p)(f: ∀m,p m→q m):Evt q:=let⟨n,h⟩:=h;⟨n,fun m hm=>f m (h m hm)⟩
theorem Evt.and{p q:Nat→Prop}(h:Evt p)(k:Evt q):Evt fun m=>p m∧q m:=by
 obtain⟨a,h⟩:=h
 obtain⟨b,k⟩:=k
 exact⟨max a b,fun m hm=>⟨h m (by omega),k m (by omega)⟩⟩
theorem Evt.map2{p q s:Nat→Prop}(h:Evt p)(k:Evt q)(f: ∀m,p m→q m→s m):Evt s:=(h.and k).mono fun m h=>f m h.1 h.2
theorem Xd{x:Option α}{K:α→Option R}(h:Za x K=some r): ∃y,x=some y∧K y=some r:=by
 cases x with
 |none=>cases h
 |some y=>exact⟨y,rfl,h⟩
theorem zbP{b:Bool}{x:Option R}(h:gd b x=some r):b=true∧x=some r:=by
 cases b with
 |true=>exact⟨rfl,h⟩
 |false=>cases h
theorem Qt{b:Bool}{x y:Option R}(h:bc b x y=some r):(b=true∧x=some r)∨(b=false∧y=some r):=by
 cases b with
 |true=>exact .inl ⟨rfl,h⟩
 |false=>exact .inr ⟨rfl,h⟩
theorem zbQ(sh:Sh)(v:V)(F:Bool→V→Option α)(K:α→Option R):Za (zac sh v F) K=zac sh v fun d u=>Za (F d u) K:=by
 cases v<;>try rfl
 simp only[zac];split<;>rfl
theorem zi9(sh:Sh)(v:V)(F:Nat→Nat→Nat→Option α)(K:α→Option R):Za (zaq sh v F) K=zaq sh v fun a b c=>Za (F a b c) K:=by
 cases v<;>try rfl
 simp only[zaq];split<;>rfl
theorem zjL(v:V)(F:Nat→Option α)(K:α→Option R):Za (zfB v F) K=zfB v fun a=>Za (F a) K:=by
 cases v<;>try rfl
 rename_i q i
 cases i<;>rfl
theorem ziA(sh:Sh)(v:V)(F:List V→Option α)(K:α→Option R):Za (XF sh v F) K=XF sh v fun a=>Za (F a) K:=by
 cases v<;>try rfl
 rename_i m _ _
 cases m<;>try rfl
 ·simp only[XF];split<;>rfl
 ·simp only[XF];split<;>rfl
mutual
theorem za1(k:Kd)(v:V)(F:V→Option α)(K:α→Option R):Za (Z1 P k v F) K=Z1 P k v fun v=>Za (F v) K:=by
 match k with
 | .ty t=>unfold Z1;exact YK ..
 | .ct c=>unfold Z1;exact QJ ..
 | .loc t=>unfold Z1;rw[zbQ];congr 1;funext d u;exact YK ..
 | .locA sh=>unfold Z1;rw[zbQ]
 | .dloc sh ks=>unfold Z1;rw[zbQ];congr 1;funext d u;rw[Qr];congr 1;funext cs;exact zbR ..
 | .row sh=>unfold Z1;rw[zi9]
 | .grow sh=>unfold Z1;rw[Zf,ziA]
 | .full sh=>unfold Z1;rw[Jw]
 | .ref=>unfold Z1;rw[zjL]
 | .mp=>unfold Z1;rw[zdo]
 | .any=>unfold Z1;rfl
theorem zbR(ks:List Kd)(vs:List V)(F:List V→Option α)(K:α→Option R):Za (Q1 P ks vs F) K=Q1 P ks vs fun v=>Za (F v) K:=by
 match ks with
 |[]=>unfold Q1;rw[XP]
 |k::ks=>unfold Q1;rw[Jv];congr 1;funext v us;rw[za1];congr 1;funext v;rw[zbR]
end
theorem zaI: ∀(l:List (Nat×Kd)) (ρ:Env) (F:List V→Option α) (K:α→Option R),Za (ZM P l ρ F) K=ZM P l ρ fun v=>Za (F v) K
 |[],ρ,F,K=>by unfold ZM;rfl
 |(t,k)::l,ρ,F,K=>by unfold ZM;rw[za1];congr 1;funext v;rw[zaI]
theorem zaJ: ∀(l:List (Nat×Kd)) (vs:List V) (F:Env→Option α) (K:α→Option R),Za (ZL P l vs F) K=ZL P l vs fun v=>Za (F v) K
 |[],vs,F,K=>by unfold ZL;rw[XP]
 |(t,k)::l,vs,F,K=>by unfold ZL;rw[Jv];congr 1;funext v us;rw[za1];congr 1;funext v;rw[zaJ]
theorem YV(l:List (Nat×Kd))(ρ:Env)(K:List V→Option R):ZM P l ρ K=Za (ZM P l ρ some) K:=by rw[zaI];rfl
theorem zby(l:List (Nat×Kd))(vs:List V)(K:Env→Option R):ZL P l vs K=Za (ZL P l vs some) K:=by rw[zaJ];rfl
structure OLim(Os:Nat→Oracle)(O:Oracle):Prop where
 call: ∀f args st x,O.call f args st=some x→Evt fun m=>(Os m).call f args st=some x
 loop: ∀f key vals st x,O.loop f key vals st=some x→Evt fun m=>(Os m).loop f key vals st=some x
 round: ∀l f key vals args st x,O.round l f key vals args st=some x→Evt fun m=>(Os m).round l f key vals args st=some x
section
variable{Os:Nat→Oracle}{O:Oracle}(hO:OLim Os O)
include hO
theorem zh2{g:Nat}{args:List V}{v:V}(h:ZD O g args=some v):Evt fun m=>ZD (Os m) g args=some v:=by
 unfold ZD at h
 obtain⟨h1,h⟩:=zbP h
 obtain⟨x,hx,h⟩:=Xd h
 refine(hO.call _ _ _ _ hx).mono fun m hm=> ?_
 unfold ZD
 rw[h1,hm]
 exact h
theorem zkY{fv:V}{args:List V}{st:St}{x:Out×St}(h:zb6 cfg O fv args st=some x):Evt fun m=>zb6 cfg (Os m) fv args st=some x:=by
 unfold zb6 at h
 split at h
 ·rename_i g first cap
  rcases Qt h with⟨hp,h⟩|⟨hp,h⟩
  ·obtain⟨v,hv,h⟩:=Xd h
   refine(zh2 hO hv).mono fun m hm=> ?_
   unfold zb6
   simp only[hp,hm]
   exact h
  ·refine(hO.call _ _ _ _ h).mono fun m hm=> ?_
   unfold zb6
   simp only[hp,hm]
   rfl
 ·rename_i l
  unfold ZH at h
  split at h
  ·rename_i y hy
   unfold YQ at h
   dsimp only at h
   split at h
   ·split at h
    ·obtain⟨z,hz,h⟩:=Xd h
     refine(hO.round _ _ _ _ _ _ _ hz).mono fun m hm=> ?_
     unfold zb6 ZH YQ
     simp only[hy,hm]
     exact h
    ·cases h
   ·cases h
  ·cases h
 ·cases h
theorem zkZ{rid idx:Nat}{o:Oper}{c:Call}{f:Operand}{ρ:Env}{st:St}{F:List (Nat×V)→St→Option R}{G:V→St→Option R}(h:Xv P cfg O fid rid idx o c f ρ st F G=some r):Evt fun m=>Xv P cfg (Os m) fid rid idx o c f ρ st F G=some r:=by
 unfold Xv at h
 obtain⟨h1,h⟩:=zbP h
 split at h
 ·rename_i g
  split at h
  ·rename_i e x hgc
   refine Evt.of fun m=> ?_
   unfold Xv
   simp only[h1,hgc]
   exact h
  rename_i hgc
  rcases Qt h with⟨he,h⟩|⟨he,h⟩
  ·refine Evt.of fun m=> ?_
   unfold Xv
   simp only[h1,hgc,he]
   exact h
  rcases Qt h with⟨hp,h⟩|⟨hp,h⟩
  ·obtain⟨v,hv,h⟩:=Xd h
   refine(zh2 hO hv).mono fun m hm=> ?_
   unfold Xv
   simp only[h1,hgc,he,hp,hm]
   exact h
  ·obtain⟨v,hv,h⟩:=Xd h
   refine(hO.call _ _ _ _ hv).mono fun m hm=> ?_
   unfold Xv
   simp only[h1,hgc,he,hp,hm]
   exact h
 ·rename_i hne
  rw[zcy]at h
  obtain⟨v,hv,h⟩:=Xd h
  refine(zkY hO hv).mono fun m hm=> ?_
  unfold Xv
  split
  ·exact absurd rfl (hne _)
  ·simp only[h1,zcy,hm]
   exact h
theorem zh3{rid idx:Nat}{o:Oper}{ρ:Env}{st:St}{y:(List (Nat×V)×St)⊕(V×St)}(h:zfg P cfg O fid rid idx o ρ st=some y):Evt fun m=>zfg P cfg (Os m) fid rid idx o ρ st=some y:=by
 unfold zfg Xa at h⊢
 split at h
 ·exact .of fun m=>h
 ·exact zkZ hO h
 ·exact .of fun m=>h
 ·exact .of fun m=>h
 ·exact .of fun m=>h
theorem zh4{rid idx:Nat}{o:Oper}{ρ:Env}{st:St}{F:List (Nat×V)→St→Option R}{G:V→St→Option R}{F':Nat→List (Nat×V)→St→Option R}{G':Nat→V→St→Option R}
  (hF: ∀us st,F us st=some r→Evt fun m=>F' m us st=some r) (hG: ∀v st,G v st=some r→Evt fun m=>G' m v st=some r) (h:Xa P cfg O fid rid idx o ρ st F G=some r):
  Evt fun m=>Xa P cfg (Os m) fid rid idx o ρ st (F' m) (G' m)=some r:=by
 rw[XQ]at h
 obtain⟨y,hy,h⟩:=Xd h
 cases y with
 |inl x=>exact(zh3 hO hy).map2 (hF _ _ h) fun m h1 h2=>by rw[XQ,h1];exact h2
 |inr x=>exact(zh3 hO hy).map2 (hG _ _ h) fun m h1 h2=>by rw[XQ,h1];exact h2
theorem zdr{rid:Nat}{all:List Oper}{i:Nat}{fi:Foot}{st:St}{X:Option R}{X':Nat→Option R}(hX:X=some r→Evt fun m=>X' m=some r): ∀(rest:List Oper) (j:Nat) (ρ:Env) (fs:List Foot),
  XI P cfg O fid rid all i fi st rest j ρ fs X=some r→Evt fun m=>XI P cfg (Os m) fid rid all i fi st rest j ρ fs (X' m)=some r
 |[],j,ρ,fs,h=>by
  simp only[XI]at h⊢
  obtain⟨hg,h⟩:=zbP h
  exact(hX h).mono fun m hm=>by rw[hg];exact hm
 |o::rest,j,ρ,fs,h=>by
  simp only[XI]at h⊢
  rcases Qt h with⟨hb,h⟩|⟨hb,h⟩
  ·exact(zdr hX rest _ _ _ h).mono fun m hm=>by rw[hb];exact hm
  ·obtain⟨hg,h⟩:=zbP h
   refine(zh4 hO (F':=fun m us _=>gd (Xj (Z4 cfg fid rid j o [] ρ (us.map (·.1))) fi&&zjb (Z4 cfg fid rid j o [] ρ (us.map (·.1))).sk) (XI P cfg (Os m) fid rid all i fi st rest (j+1) (ρ.apply us) (Z4 cfg fid rid j o [] ρ (us.map (·.1))::fs) (X' m))) (G':=fun m _ _=>none) (fun us st' h=> ?_) (fun v st' h=>by cases h) h).mono fun m hm=> ?_
   ·obtain⟨hg2,h⟩:=zbP h
    exact(zdr hX rest _ _ _ h).mono fun m hm=>by rw[hg2];exact hm
   ·rw[hb,hg];exact hm
theorem zfn{rid:Nat}{all:List Oper}{draw:Bool}{fs:List Foot}{rest:List Oper}{o:Oper}{i:Nat}{ρ:Env}{st:St}{C:List Nat→Env→List (Nat×V)→St→Option R}{D:List Nat→Env→Option R}{K:Ex→Env→St→Option R}
  {C':Nat→List Nat→Env→List (Nat×V)→St→Option R} {D':Nat→List Nat→Env→Option R} {K':Nat→Ex→Env→St→Option R}
  (hC: ∀g ρ us st,C g ρ us st=some r→Evt fun m=>C' m g ρ us st=some r) (hD: ∀g ρ,D g ρ=some r→Evt fun m=>D' m g ρ=some r) (hK: ∀e ρ st,K e ρ st=some r→Evt fun m=>K' m e ρ st=some r)
  (h:Jq P cfg O fid rid all draw fs rest o i ρ st C D K=some r):Evt fun m=>Jq P cfg (Os m) fid rid all draw fs rest o i ρ st (C' m) (D' m) (K' m)=some r:=by
 have run: ∀(g:List Nat) (ρ:Env),gd (bif draw then freshDst ρ o.dst else okDst all ρ o.dst) (Xa P cfg O fid rid i o ρ st (C g ρ) (fun p st'=>bc draw (XI P cfg O fid rid all i (Z4 cfg fid rid i o g ρ []) st rest (i+1) ρ fs (K (.panic p) ρ st')) (K (.panic p) ρ st')))=some r→
   Evt fun m=>gd (bif draw then freshDst ρ o.dst else okDst all ρ o.dst) (Xa P cfg (Os m) fid rid i o ρ st (C' m g ρ) (fun p st'=>bc draw (XI P cfg (Os m) fid rid all i (Z4 cfg fid rid i o g ρ []) st rest (i+1) ρ fs (K' m (.panic p) ρ st')) (K' m (.panic p) ρ st')))=some r:=fun g ρ h=>by
  obtain⟨hg,h⟩:=zbP h
  refine(zh4 hO (F':=fun m=>C' m g ρ) (G':=fun m p st'=>bc draw (XI P cfg (Os m) fid rid all i (Z4 cfg fid rid i o g ρ []) st rest (i+1) ρ fs (K' m (.panic p) ρ st')) (K' m (.panic p) ρ st')) (fun us st' h=>hC _ _ _ _ h) (fun v st' h=> ?_) h).mono fun m hm=> ?_
  ·rcases Qt h with⟨hd,h⟩|⟨hd,h⟩
   ·refine(zdr hO (hK _ _ _) rest _ _ _ h).mono fun m hm=> ?_
    rw[hd];exact hm
   ·refine(hK _ _ _ h).mono fun m hm=> ?_
    rw[hd];exact hm
  ·rw[hg];exact hm
 have skip: ∀(g:List Nat) (ρ:Env),gd (bif draw then freshDst ρ o.dst else okDst all ρ o.dst) (D g ρ)=some r→Evt fun m=>gd (bif draw then freshDst ρ o.dst else okDst all ρ o.dst) (D' m g ρ)=some r:=fun g ρ h=>by
  obtain⟨hg,h⟩:=zbP h
  refine(hD _ _ h).mono fun m hm=> ?_
  rw[hg];exact hm
 simp only[Jq]at h⊢
 split at h
 ·rename_i hgd
  exact run [] ρ h
 ·rename_i g want hgd
  split at h
  ·cases h
  ·rename_i t ht
   split at h
   ·rename_i b hv
    rcases Qt h with⟨rfl,h1⟩|⟨rfl,h1⟩
    ·rcases Qt h1 with⟨rfl,h2⟩|⟨rfl,h2⟩
     ·exact run _ _ h2
     ·exact skip _ _ h2
    ·rcases Qt h1 with⟨rfl,h2⟩|⟨rfl,h2⟩
     ·exact skip _ _ h2
     ·exact run _ _ h2
   ·exact skip _ _ h
   ·cases h
theorem Qu{rid:Nat}{all:List Oper}{draw:Bool}: ∀(rest:List Oper) (i:Nat) (ρ:Env) (st:St) (fs:List Foot) (K:Ex→Env→St→Option R) (K':Nat→Ex→Env→St→Option R),(∀e ρ st,K e ρ st=some r→Evt fun m=>K' m e ρ st=some r)→
  ZA P cfg O fid rid all draw rest i ρ st fs K=some r→Evt fun m=>ZA P cfg (Os m) fid rid all draw rest i ρ st fs (K' m)=some r
 |[],i,ρ,st,fs,K,K',hK,h=>by
  simp only[ZA]at h⊢
  rcases Qt h with⟨hd,h⟩|⟨hd,h⟩
  ·obtain⟨hg,h⟩:=zbP h
   refine(hK _ _ _ h).mono fun m hm=> ?_
   rw[hd,hg];exact hm
  ·refine(hK _ _ _ h).mono fun m hm=> ?_
   rw[hd];exact hm
 |[o],i,ρ,st,fs,K,K',hK,h=>by
  exact zfn hO (C:=fun g ρ us st'=>ZA P cfg O fid rid all draw [] (i+1) (ρ.apply us) st' (bif draw then Z4 cfg fid rid i o g ρ (us.map (·.1))::fs else fs) K)
   (D:=fun g ρ=>ZA P cfg O fid rid all draw [] (i+1) (ρ.put o.dst (.tup [])) st (bif draw then {idx:=i,reads:=g,writes:=o.dst.toList,sk:= .none}::fs else fs) K)
   (C':=fun m g ρ us st'=>ZA P cfg (Os m) fid rid all draw [] (i+1) (ρ.apply us) st' (bif draw then Z4 cfg fid rid i o g ρ (us.map (·.1))::fs else fs) (K' m))
   (D':=fun m g ρ=>ZA P cfg (Os m) fid rid all draw [] (i+1) (ρ.put o.dst (.tup [])) st (bif draw then {idx:=i,reads:=g,writes:=o.dst.toList,sk:= .none}::fs else fs) (K' m))
   (fun g ρ us st h=>Qu [] _ _ _ _ K K' hK h) (fun g ρ h=>Qu [] _ _ _ _ K K' hK h) hK h
 |o::o2::rest,i,ρ,st,fs,K,K',hK,h=>by
  exact zfn hO (C:=fun g ρ us st'=>
    bc (!draw&&Qf P o o2)
     (gd (okDst all (ρ.apply us) o2.dst) (ZA P cfg O fid rid all draw rest (i+2) ((ρ.apply us).put o2.dst ((ρ.apply us).get (o.dst.getD 0))) st' fs K))
     (ZA P cfg O fid rid all draw (o2::rest) (i+1) (ρ.apply us) st' (bif draw then Z4 cfg fid rid i o g ρ (us.map (·.1))::fs else fs) K))
   (D:=fun g ρ=>ZA P cfg O fid rid all draw (o2::rest) (i+1) (ρ.put o.dst (.tup [])) st (bif draw then {idx:=i,reads:=g,writes:=o.dst.toList,sk:= .none}::fs else fs) K)
   (C':=fun m g ρ us st'=>
    bc (!draw&&Qf P o o2)
     (gd (okDst all (ρ.apply us) o2.dst) (ZA P cfg (Os m) fid rid all draw rest (i+2) ((ρ.apply us).put o2.dst ((ρ.apply us).get (o.dst.getD 0))) st' fs (K' m)))
     (ZA P cfg (Os m) fid rid all draw (o2::rest) (i+1) (ρ.apply us) st' (bif draw then Z4 cfg fid rid i o g ρ (us.map (·.1))::fs else fs) (K' m)))
   (D':=fun m g ρ=>ZA P cfg (Os m) fid rid all draw (o2::rest) (i+1) (ρ.put o.dst (.tup [])) st (bif draw then {idx:=i,reads:=g,writes:=o.dst.toList,sk:= .none}::fs else fs) (K' m))
   (fun g ρ us st h=>by
    rcases Qt h with⟨hl,h⟩|⟨hl,h⟩
    ·obtain⟨hg,h⟩:=zbP h
     refine(Qu rest _ _ _ _ K K' hK h).mono fun m hm=> ?_
     rw[hl,hg];exact hm
    ·refine(Qu (o2::rest) _ _ _ _ K K' hK h).mono fun m hm=> ?_
     rw[hl];exact hm)
   (fun g ρ h=>Qu (o2::rest) _ _ _ _ K K' hK h) hK h
omit hO in
theorem zgn{f key:Nat}{nrm rt:Bool}{ids:List Nat}{x:Ex×List V×St}{K:Ex→Env→St→Option R}{K':Nat→Ex→Env→St→Option R}(hK: ∀e ρ st,K e ρ st=some r→Evt fun m=>K' m e ρ st=some r)
  (h:behind P cfg f key nrm rt ids x K=some r):Evt fun m=>behind P cfg f key nrm rt ids x (K' m)=some r:=by
 have outs: ∀(l:List (Nat×Kd)) (vs:List V) (e:Ex) (st:St),ZL P l vs (fun ρ=>K e ρ st)=some r→Evt fun m=>ZL P l vs (fun ρ=>K' m e ρ st)=some r:=fun l vs e st h=>by
  rw[zby]at h
  obtain⟨ρ,hρ,h⟩:=Xd h
  exact(hK _ _ _ h).mono fun m hm=>by rw[zby,hρ];exact hm
 obtain⟨e,vs,st⟩:=x
 unfold behind Jp at h⊢
 cases e with
 |normal=>
  rcases Qt h with⟨hd,h⟩|⟨hd,h⟩
  ·exact(outs _ _ _ _ h).mono fun m hm=>by simp only[hd];exact hm
  ·cases h
 |ret=>
  rcases Qt h with⟨hd,h⟩|⟨hd,h⟩
  ·exact(outs _ _ _ _ h).mono fun m hm=>by simp only[hd];exact hm
  ·cases h
 |exit i=>
  have: ∀ids:List Nat,X4 i (fun j=>ZL P (cfg.outs f key) vs fun ρ=>K (.exit j) ρ st) ids=some r→Evt fun m=>X4 i (fun j=>ZL P (cfg.outs f key) vs fun ρ=>K' m (.exit j) ρ st) ids=some r:=by
   intro ids
   induction ids with
   |nil=>intro h;cases h
   |cons j js ih=>
    intro h
    unfold X4 at h⊢
    rcases Qt h with⟨hd,h⟩|⟨hd,h⟩
    ·exact(outs _ _ _ _ h).mono fun m hm=>by simp only[hd];exact hm
    ·exact(ih h).mono fun m hm=>by simp only[hd];exact hm
  exact this _ h
 |goto l=>cases h
 |panic v=>
  rcases Qt h with⟨hd,h⟩|⟨hd,h⟩
  ·exact(hK _ _ _ h).mono fun m hm=>by simp only[hd];exact hm
  ·cases h
theorem zbS: ∀(c:Code) (ρ:Env) (st:St) (K:Ex→Env→St→Option R) (K':Nat→Ex→Env→St→Option R),(∀e ρ st,K e ρ st=some r→Evt fun m=>K' m e ρ st=some r)→
  exec P cfg O fid c ρ st K=some r→Evt fun m=>exec P cfg (Os m) fid c ρ st (K' m)=some r:=by
 intro c
 induction c with
 |skip=>intro ρ st K K' hK h;exact hK _ _ _ h
 |label l=>intro ρ st K K' hK h;exact hK _ _ _ h
 |exit i=>intro ρ st K K' hK h;exact hK _ _ _ h
 |goto l=>intro ρ st K K' hK h;exact hK _ _ _ h
 |ret=>intro ρ st K K' hK h;exact hK _ _ _ h
 |refuse s=>intro ρ st K K' hK h;cases h
 |region id ops draw=>intro ρ st K K' hK h;exact Qu hO _ _ _ _ _ _ _ hK h
 |seq a b iha ihb=>
  intro ρ st K K' hK h
  simp only[exec]at h⊢
  refine iha _ _ _ _ (fun e ρ st h=> ?_) h
  cases e with
  |normal=>exact ihb _ _ _ _ hK h
  |_=>exact hK _ _ _ h
 |cond c a b iha ihb=>
  intro ρ st K K' hK h
  simp only[exec]at h⊢
  split at h
  ·split at h
   ·rcases Qt h with⟨rfl,h⟩|⟨rfl,h⟩
    ·exact iha _ _ _ _ hK h
    ·exact ihb _ _ _ _ hK h
   ·cases h
  ·rcases Qt h with⟨rfl,h⟩|⟨rfl,h⟩
   ·exact iha _ _ _ _ hK h
   ·exact ihb _ _ _ _ hK h
  ·cases h
 |block id b ih=>
  intro ρ st K K' hK h
  simp only[exec]at h⊢
  refine ih _ _ _ _ (fun e ρ st h=> ?_) h
  cases e with
  |exit i=>
   rcases Qt h with⟨hd,h⟩|⟨hd,h⟩
   ·exact(hK _ _ _ h).mono fun m hm=>by simp only[hd];exact hm
   ·exact(hK _ _ _ h).mono fun m hm=>by simp only[hd];exact hm
  |_=>exact hK _ _ _ h
 |loop b ih=>
  intro ρ st K K' hK h
  simp only[exec]at h⊢
  rw[YV]at h
  obtain⟨vals,hv,h⟩:=Xd h
  obtain⟨x,hx,h⟩:=Xd h
  refine(hO.loop _ _ _ _ _ hx).map2 (zgn hK h) fun m h1 h2=> ?_
  rw[YV,hv]
  show Za ((Os m).loop _ _ _ _) _=_
  rw[h1];exact h2
 |scope b ih=>
  intro ρ st K K' hK h
  simp only[exec]at h⊢
  refine ih _ _ _ _ (fun e ρ st h=> ?_) h
  cases e with
  |goto l=>
   simp only at h⊢
   split at h
   ·rcases Qt h with⟨hn,h⟩|⟨_,h⟩
    ·rw[YV]at h
     obtain⟨vals,hv,h⟩:=Xd h
     obtain⟨x,hx,h⟩:=Xd h
     refine(hO.loop _ _ _ _ _ hx).map2 (zgn hK h) fun m h1 h2=> ?_
     simp only[hn]
     show ZM _ _ _ _=_
     rw[YV,hv]
     show Za ((Os m).loop _ _ _ _) _=_
     rw[h1];exact h2
    ·cases h
   ·exact hK _ _ _ h
  |_=>exact hK _ _ _ h
 |rangeFunc f ps a b iha ihb=>
  intro ρ st K K' hK h
  simp only[exec]at h⊢
  unfold zfs at h⊢
  split at h
  ·obtain⟨⟨out,st2⟩,hx,h⟩:=Xd h
   cases out with
   |panic v=>cases h
   |ret v=>
    unfold Zk ZH YQ at h
    simp only at h
    split at h
    ·rename_i y hy
     split at h
     ·rename_i s p
      have:Evt fun m=>Q2 s p (K' m .normal (ρ.apply (upds ρ false (f::((cfg.keep fid (keyOf b)).map (·.1)).map Operand.tmp))) (st2.set st.length .dead)) (bc (QF b) (K' m .ret (ρ.apply (upds ρ false (f::((cfg.keep fid (keyOf b)).map (·.1)).map Operand.tmp))) (st2.set st.length .dead)) none)
        (fun i=>X4 i (fun j=>K' m (.exit j) (ρ.apply (upds ρ false (f::((cfg.keep fid (keyOf b)).map (·.1)).map Operand.tmp))) (st2.set st.length .dead)) (Xu b))=some r:=by
       unfold Q2 at h⊢
       split at h
       ·exact hK _ _ _ h
       ·rcases Qt h with⟨hd,h⟩|⟨_,h⟩
        ·exact(hK _ _ _ h).mono fun m hm=>by simp only[hd];exact hm
        ·cases h
       ·rename_i i
        have: ∀ids:List Nat,X4 i (fun j=>K (.exit j) (ρ.apply (upds ρ false (f::((cfg.keep fid (keyOf b)).map (·.1)).map Operand.tmp))) (st2.set st.length .dead)) ids=some r→Evt fun m=>X4 i (fun j=>K' m (.exit j) (ρ.apply (upds ρ false (f::((cfg.keep fid (keyOf b)).map (·.1)).map Operand.tmp))) (st2.set st.length .dead)) ids=some r:=by
         intro ids
         induction ids with
         |nil=>intro h;cases h
         |cons j js ih=>
          intro h
          unfold X4 at h⊢
          rcases Qt h with⟨hd,h⟩|⟨hd,h⟩
          ·exact(hK _ _ _ h).mono fun m hm=>by simp only[hd];exact hm
          ·exact(ih h).mono fun m hm=>by simp only[hd];exact hm
        exact this _ h
       ·cases h
      refine(hO.call _ _ _ _ hx).map2 this fun m h1 h2=> ?_
      dsimp only
      rw[h1]
      unfold Za Zk ZH YQ
      simp only[hy]
      exact h2
     ·cases h
    ·cases h
  ·cases h
end
end
end Go.AM
namespace Go.AM
open Go
section
variable{P:Program}{cfg:Cfg}{ext:Ext}{fid:Nat}{R:Type}{r:R}{α:Type}{Os:Nat→Oracle}{O:Oracle}
theorem ziB(hO:OLim Os O){f:Nat}{args:List V}{st:St}{x:Out×St}(h:Ze P cfg O f args st=some x):Evt fun m=>Ze P cfg (Os m) f args st=some x:=by
 unfold Ze at h⊢
 split at h
 ·cases h
 ·rename_i fn hf
  split at h
  ·cases h
  ·rename_i c hb
   obtain⟨hg,h⟩:=zbP h
   refine(zbS hO c _ _ _ (fun _ e ρ st'=>match e with
    | .normal| .ret=>match zhY (cfg.room f) ρ fn.results.toList with
     |some (_,sh,es)=>gd (Zu st.length es&&ZO st.length (st'.take st.length)) (some (.ret (.spr sh es st.length),st'.take st.length++[.spare sh es.length (st.length+1), .dead, .dead]))
     |none=>gd (decide (fn.results.size≤fn.resultTypes.size))<|za8 P (cfg.room f) st.length ρ st' (fn.results.toList.zip fn.resultTypes.toList) fun vs st'=>gc (cfg.pure f) st.length (.ret (match vs with|[v]=>v|vs=> .tup vs)) st'
    | .panic v=>gc (cfg.pure f) st.length (.panic v) st'
    |_=>none) (fun e ρ st h=> .of fun _=>h) h).mono fun m hm=> ?_
   simp only[hf,hb,hg]
   exact hm
theorem ziC(hO:OLim Os O){f key:Nat}{vals:List V}{st:St}{x:Ex×List V×St}(h:ZY P cfg O f key vals st=some x):Evt fun m=>ZY P cfg (Os m) f key vals st=some x:=by
 have keep: ∀(ρ:Env) (st:St),(ZM P (cfg.keep f key) ρ fun vals=>O.loop f key vals st)=some x→Evt fun m=>(ZM P (cfg.keep f key) ρ fun vals=>(Os m).loop f key vals st)=some x:=fun ρ st h=>by
  rw[YV]at h
  obtain⟨vals,hv,h⟩:=Xd h
  exact(hO.loop _ _ _ _ _ h).mono fun m hm=>by rw[YV,hv];exact hm
 unfold ZY at h⊢
 split at h
 ·cases h
 ·rename_i fn hf
  split at h
  ·cases h
  ·rename_i c hb
   split at h
   ·rename_i hk
    split at h
    ·cases h
    ·rename_i b hb2
     refine(zbS hO b _ _ _ (fun m e ρ st=>match e with
      | .normal=>ZM P (cfg.keep f key) ρ fun vals=>(Os m).loop f key vals st
      | .ret=>some (.ret,(cfg.rets f key).map (fun x=>ρ.get x.1),st)
      |e=>some (e,(cfg.outs f key).map (fun x=>ρ.get x.1),st)) (fun e ρ st h=> ?_) h).mono fun m hm=> ?_
     ·cases e with
      |normal=>exact keep _ _ h
      |_=>exact .of fun _=>h
     ·simp only[hf,hb,if_pos hk,hb2]
      exact hm
   ·rename_i hk
    split at h
    ·cases h
    ·rename_i b hb2
     split at h
     ·cases h
     ·rename_i rest hr
      refine(zbS hO rest _ _ _ (fun m e ρ st=>match e with
       | .goto l=>if l=key-Yt then ZM P (cfg.keep f key) ρ fun vals=>(Os m).loop f key vals st else none
       | .ret=>some (.ret,(cfg.rets f key).map (fun x=>ρ.get x.1),st)
       |e=>some (e,(cfg.outs f key).map (fun x=>ρ.get x.1),st)) (fun e ρ st h=> ?_) h).mono fun m hm=> ?_
      ·cases e with
       |goto l=>
        simp only at h⊢
        split at h
        ·rename_i hl
         simp only[if_pos hl]
         exact keep _ _ h
        ·cases h
       |_=>exact .of fun _=>h
      ·simp only[hf,hb,if_neg hk,hb2,hr]
       exact hm
theorem zhh(hO:OLim Os O){l f key:Nat}{vals args:List V}{st:St}{x:Bool×St}(h:Xn P cfg O l f key vals args st=some x):Evt fun m=>Xn P cfg (Os m) l f key vals args st=some x:=by
 unfold Xn at h⊢
 split at h
 ·cases h
 ·rename_i fn hf
  split at h
  ·cases h
  ·rename_i c hb
   split at h
   ·cases h
   ·rename_i ps a b hr
    obtain⟨hg,h⟩:=zbP h
    refine(zbS hO a _ _ _ (fun m e ρ st=>match e with
     | .normal=>
      ZH st l fun y=>YQ y fun f1 k1 v1 s1 p1=>
      zf1 s1 p1 (
       exec P cfg (Os m) f b ρ (st.set l (.loop f1 k1 v1 .busy none)) fun e _ st'=>
        ZH st' l fun x=>YQ x fun f2 k2 v2 s _=>
         zfJ s (match e with
         | .normal=>some (true,st'.set l (.loop f2 k2 v2 .ready none))
         | .ret=>some (false,st'.set l (.loop f2 k2 v2 .done (some .ret)))
         | .exit id=>some (false,st'.set l (.loop f2 k2 v2 .done (some (.exit id))))
         |_=>none))
     |_=>none) (fun e ρ st h=> ?_) h).mono fun m hm=> ?_
    ·cases e with
     |normal=>
      simp only at h⊢
      unfold ZH at h⊢
      split at h
      ·rename_i y hy
       unfold YQ at h⊢
       cases y with
       |loop f1 k1 v1 s1 p1=>
        simp only at h⊢
        try simp only[hy]
        cases s1<;>cases p1<;>simp only[zf1]at h⊢ <;>first|cases h|skip
        exact zbS hO b _ _ _ _ (fun e ρ st h=> .of fun _=>h) h
       |_=>cases h
      ·cases h
     |_=>cases h
    ·simp only[hf,hb,hr,hg]
     exact hm
def zbT(ext:Ext):Prop:= ∀f x,ext f=some x→ ∀(Os:Nat→Oracle) (O:Oracle),OLim Os O→ ∀args st y,x O args st=some y→Evt fun m=>x (Os m) args st=some y
theorem JP(hE:zbT ext)(hO:OLim Os O):OLim (fun m=>zhp P cfg ext (Os m)) (zhp P cfg ext O):=by
 refine⟨fun f args st x h=> ?_,fun f key vals st x h=>ziC hO h,fun l f key vals args st x h=>zhh hO h⟩
 simp only[zhp]at h⊢
 split at h
 ·rename_i y hy
  exact(hE f y hy Os O hO _ _ _ h).mono fun m hm=>by(try simp only[hy]);exact hm
 ·rename_i hy
  exact(ziB hO h).mono fun m hm=>by(try simp only[hy]);exact hm
theorem OLim.trans{O' O2:Oracle}(h:OLim (fun _=>O') O)(k:OLim (fun _=>O2) O'):OLim (fun _=>O2) O:=
 ⟨fun f args st x e=>let⟨n,h⟩:=h.call f args st x e;k.call _ _ _ _ (h n (Nat.le_refl _)),fun f key vals st x e=>let⟨n,h⟩:=h.loop f key vals st x e;k.loop _ _ _ _ _ (h n (Nat.le_refl _)),
  fun l f key vals args st x e=>let⟨n,h⟩:=h.round l f key vals args st x e;k.round _ _ _ _ _ _ _ (h n (Nat.le_refl _))⟩
theorem zh5(hE:zbT ext): ∀k,OLim (fun _=>Xh P cfg ext (k+1)) (Xh P cfg ext k)
 |0=>⟨fun _ _ _ _ h=>(by cases h),fun _ _ _ _ _ h=>(by cases h),fun _ _ _ _ _ _ _ h=>(by cases h)⟩
 |k+1=>JP hE (zh5 hE k)
theorem zf5(hE:zbT ext)(k:Nat): ∀d,OLim (fun _=>Xh P cfg ext (k+d)) (Xh P cfg ext k)
 |0=>⟨fun _ _ _ _ h=> .of fun _=>h,fun _ _ _ _ _ h=> .of fun _=>h,fun _ _ _ _ _ _ _ h=> .of fun _=>h⟩
 |d+1=>(zf5 hE k d).trans (zh5 hE (k+d))
noncomputable def zmJ(s:Nat→Option α):Option α:=by
 classical
 exact if h: ∃x,Evt fun m=>s m=some x then some h.choose else none
theorem Xq{s:Nat→Option α}{x:α}:zmJ s=some x↔Evt fun m=>s m=some x:=by
 classical
 unfold zmJ
 constructor
 ·intro h
  split at h
  ·rename_i hx
   cases h
   exact hx.choose_spec
  ·cases h
 ·intro h
  rw[dif_pos ⟨x,h⟩]
  obtain⟨n,hn⟩:=h
  obtain⟨n',hn'⟩:=(⟨x,n,hn⟩: ∃x,Evt fun m=>s m=some x).choose_spec
  have h1:=hn (max n n') (by omega)
  have h2:=hn' (max n n') (by omega)
  exact h2.symm.trans h1
noncomputable def Om(P:Program)(cfg:Cfg)(ext:Ext):Oracle where
 call f args st:=zmJ fun m=>(Xh P cfg ext m).call f args st
 loop f key vals st:=zmJ fun m=>(Xh P cfg ext m).loop f key vals st
 round l f key vals args st:=zmJ fun m=>(Xh P cfg ext m).round l f key vals args st
theorem zla:OLim (fun m=>Xh P cfg ext m) (Om P cfg ext):=
 ⟨fun _ _ _ _ h=>Xq.1 h,fun _ _ _ _ _ h=>Xq.1 h,fun _ _ _ _ _ _ _ h=>Xq.1 h⟩
theorem zf6(hE:zbT ext)(k:Nat):OLim (fun _=>Om P cfg ext) (Xh P cfg ext k):=by
 have key: ∀{β:Type} {s:Nat→Option β} {x:β},(∀d,Evt fun _=>s (k+d)=some x)→zmJ s=some x:=fun {β s x} h=>Xq.2 ⟨k,fun m hm=>by
  obtain⟨n,h⟩:=h (m-k)
  have:=h n (Nat.le_refl _)
  rwa [show k+(m-k)=m by omega]at this⟩
 exact⟨fun f args st x h=> .of fun _=>key fun d=>(zf5 hE k d).call f args st x h,fun f key' vals st x h=> .of fun _=>key fun d=>(zf5 hE k d).loop f key' vals st x h,
  fun l f key' vals args st x h=> .of fun _=>key fun d=>(zf5 hE k d).round l f key' vals args st x h⟩
theorem zgo{p:Nat→Prop}(h:Evt fun m=>p (m+1)):Evt p:=by
 obtain⟨n,h⟩:=h
 exact⟨n+1,fun m hm=>by obtain⟨k,rfl⟩: ∃k,m=k+1:=⟨m-1,by omega⟩;exact h k (by omega)⟩
theorem zlb{p:Nat→Prop}(h:Evt p): ∃k,p (k+1):=by
 obtain⟨n,h⟩:=h
 exact⟨n,h (n+1) (by omega)⟩
theorem zc4{p:Prop}(h:Evt fun _=>p):p:=by
 obtain⟨n,h⟩:=h
 exact h n (Nat.le_refl _)
theorem ziD{x y:Option α}(h1: ∀z,x=some z→y=some z)(h2: ∀z,y=some z→x=some z):x=y:=by
 cases x with
 |none=>
  cases y with
  |none=>rfl
  |some z=>have:=h2 z rfl;cases this
 |some z=>exact(h1 z rfl).symm
theorem zlQ(hE:zbT ext)(f:Nat)(args:List V)(st:St):(Om P cfg ext).call f args st=(zhp P cfg ext (Om P cfg ext)).call f args st:=
 ziD (fun z h=>by
  obtain⟨k,hk⟩:=zlb (Xq.1 h)
  exact zc4 ((JP (P:=P) (cfg:=cfg) hE (zf6 hE k)).call f args st z hk))
  fun z h=>Xq.2 (zgo ((JP hE zla).call f args st z h))
theorem zoM(hE:zbT ext)(f key:Nat)(vals:List V)(st:St):(Om P cfg ext).loop f key vals st=ZY P cfg (Om P cfg ext) f key vals st:=
 ziD (fun z h=>by
  obtain⟨k,hk⟩:=zlb (Xq.1 h)
  exact zc4 ((JP (P:=P) (cfg:=cfg) hE (zf6 hE k)).loop f key vals st z hk))
  fun z h=>Xq.2 (zgo ((JP (P:=P) (cfg:=cfg) hE zla).loop f key vals st z h))
theorem znS(hE:zbT ext)(l f key:Nat)(vals args:List V)(st:St):(Om P cfg ext).round l f key vals args st=Xn P cfg (Om P cfg ext) l f key vals args st:=
 ziD (fun z h=>by
  obtain⟨k,hk⟩:=zlb (Xq.1 h)
  exact zc4 ((JP (P:=P) (cfg:=cfg) hE (zf6 hE k)).round l f key vals args st z hk))
  fun z h=>Xq.2 (zgo ((JP (P:=P) (cfg:=cfg) hE zla).round l f key vals args st z h))
theorem zoN{f:Nat}{args:List V}{st:St}{x:Out×St}(h:(Om P cfg ext).call f args st=some x): ∃m,(Xh P cfg ext m).call f args st=some x:=by
 obtain⟨n,h⟩:=Xq.1 h
 exact⟨n,h n (Nat.le_refl _)⟩
end
end Go.AM
namespace Go.AM
open Go Go.RowKit
section
variable{P:Program}{F:Fence}{n:Nat}{ds:List Deferred}
end
section
variable{P:Program}{cfg:Cfg}{base n:Nat}{w0 w w':World}{own own' Y7:Own}{μ μ' μ0:List Nat}{ρ:Env}{st st':St}{a:Act}{R:Type}{r:R}{O:Oracle}{m:Nat}
end
end Go.AM
namespace Go.AM
open Go Go.RowKit
section
variable(P:Program)(cfg:Cfg)(O:Oracle)
end
section
variable{P:Program}{cfg:Cfg}{base n:Nat}{w0 w w':World}{own own' Y7:Own}{μ μ' μ0:List Nat}{ρ:Env}{st st':St}{a:Act}{r:Out×St}{O:Oracle}{m:Nat}
end
end Go.AM
namespace Go.AM
open Go
section
variable{P:Program}{cfg:Cfg}{x:Out×St}{Os:Nat→Oracle}{O:Oracle}
end
end Go.AM
namespace Go.AM
open Go Go.Proofs Go.RowKit Go.Shelf Go.Lib
section
variable{P:Program}{ρ:Ren}
end
section
variable{P:Program}{cfg:Cfg}{base:Nat}{w w':World}{own:Own}{μ:List Nat}{st:St}
end
end Go.AM
namespace Go.AM
open Go Go.Proofs Go.RowKit Go.Shelf Go.Lib
def znT(P:Program)(g:Nat):Prop:=
 (∃fn,P.funcs[g]? =some fn∧fn.body.isSome=true)∧
 ∀(i:Nat),i<100→ ∀w,Calls P g #[.int .i64 i] w fun e w'=>e= .returned (.string ⟨(Lib.decDigits i).toArray⟩)∧w'=w
def zlR(args:List V)(st:St):Option (Out×St):=
 match args with
 |[.int i]=>gd (decide (0≤i)&&decide (i<100)) (some (.ret (.str ⟨(Lib.decDigits i.toNat).toArray⟩),st))
 |_=>none
variable{P:Program}{cfg:Cfg}
theorem znU{g:Nat}(hC:znT P g){args:List V}{st:St}{y:Out×St}(h:zlR args st=some y):(∃fn,P.funcs[g]? =some fn∧fn.body.isSome=true)∧
  ∀(n base:Nat) (w:World) (own:Own) (μ:List Nat) (cargs:Array Value),Sto P cfg base w own μ st→Flat own→Args w own μ args cargs→CallsIn Fence.wide n P g cargs w (Je P cfg base w own μ y):=by
 refine⟨hC.1,fun n base w own μ cargs hs hfl hA=> ?_⟩
 unfold zlR at h
 split at h
 ·rename_i i
  obtain⟨hb,h⟩:=Zc h
  cases h
  simp only[Bool.and_eq_true,decide_eq_true_eq]at hb
  obtain⟨h0i,hi⟩:=hb
  have h0:=hA.2 0 (by simp)
  have hsz1:cargs.size=1:=by have:=hA.1;simpa using this.symm
  have hce:cargs= #[cargs.getD 0 undef]:=by
   apply Array.ext
   ·simp[hsz1]
   ·intro j hj _
    have:j=0:=by omega
    subst this
    simp[Array.getD_eq_getD_getElem?,hj]
  rw[hce]
  simp only[List.getD_cons_zero]at h0
  generalize cargs.getD 0 undef=c at h0
  cases h0
  obtain⟨k,rfl⟩:=Int.eq_ofNat_of_zero_le h0i
  refine callsIn_wide.2 ((hC.2 k (by omega) w).mono fun ed w' hp=> ?_)
  obtain⟨rfl,rfl⟩:=hp
  exact⟨_,own,μ,hs,Keeps.refl ..,rfl, .str _⟩
 ·cases h
end Go.AM
namespace Go.AM
open Go Go.RowKit
mutual
def zak:V→Nat
 | .str s=>s.size+1
 | .vec _ _ es=>YH es+1
 | .agg cs=>YH cs+1
 |_=>1
def YH:List V→Nat
 |[]=>0
 |v::vs=>zak v+YH vs
end
mutual
def XE{H:Type}:DataW H→Nat
 | .lit (.string bytes)=>bytes.length+1
 | .lit _=>1
 | .nil=>1
 | .ptr d=>XE d+1
 | .slice elems spare=>Xr elems+Xr spare+1
 | .agg parts=>Xr parts+1
 | .iface _ d=>XE d+1
 | .map _=>1
 | .held _=>1
def Xr{H:Type}:List (DataW H)→Nat
 |[]=>0
 |d::r=>XE d+Xr r
end
theorem zdW(a b:List V):YH (a++b)=YH a+YH b:=by
 induction a with
 |nil=>simp[YH]
 |cons x a ih=>simp only[List.cons_append,YH,ih];omega
theorem zhi{H:Type}(a b:List (DataW H)):Xr (a++b)=Xr a+Xr b:=by
 induction a with
 |nil=>simp[Xr]
 |cons x a ih=>simp only[List.cons_append,Xr,ih];omega
def zeE(P:Program)(S:List TypeId):Bool:=
 S.all fun t=>decide (t<P.types.size)&&match P.underlying t with
  |some .bool=>true
  |some (.int _)=>true
  |some .string=>true
  |some (.slice e)=>S.contains e&&decide (0<P.cellsOf e)
  |some (.struct fs)=>fs.toList.all fun f=>S.contains f.type
  |_=>false
def WT(P:Program):Nat→TypeId→List V→Prop
 |0,_,_=>False
 |n+1,t,cs=>
  match P.underlying t with
  |some (.int .i64)=> ∃z,cs=[.int z]∧(Lit.int .i64 z).wf=true
  |some (.int k)=> ∃z,cs=[.ik k z]∧(Lit.int k z).wf=true
  |some .bool=> ∃b,cs=[.bool b]
  |some .string=> ∃s:ByteArray,cs=[.str s]∧s.size≤maxLen
  |some (.slice e)=> ∃es,cs=[.vec .plain (shOf P e) es]∧es.length≤maxLen∧ ∀v∈es,Shaped (shOf P e) v∧WT P n e (AM.cellsOf v)
  |some (.struct fs)=>cs.length=P.cellsOf t∧ ∀f∈fs.toList,WT P n f.type ((cs.drop f.offset).take (P.cellsOf f.type))
  |_=>False
section
variable{H:Type}{enc:TypeId×Value→H}{P:Program}{w:World}{sp:Nat→Bool}{held:Bool}
abbrev prW(w:World):Nat→Nat→Prop:=fun b _=>b<w.heap.size
def JQ(w:World)(vs:List V)(cs:List Value):Prop:=
 vs.length=cs.length∧ ∀i,i<cs.length→(cs.getD i undef).oneCell'=true∧VRep w (prW w) [] (vs.getD i .undef) (cs.getD i undef)
theorem XX{v:V}{c:Value}(h1:c.oneCell'=true)(h:VRep w (prW w) [] v c):JQ w [v] [c]:=by
 refine⟨rfl,fun i hi=> ?_⟩
 have:i=0:=by simpa using hi
 subst this
 exact⟨h1,h⟩
theorem zfw{vs vs':List V}{cs cs':List Value}(h:JQ w vs cs)(h':JQ w vs' cs'):JQ w (vs++vs') (cs++cs'):=by
 refine⟨by simp[h.1,h'.1],fun i hi=> ?_⟩
 rcases Nat.lt_or_ge i cs.length with hlt|hge
 ·have e1:(cs++cs').getD i undef=cs.getD i undef:=by rw[List.getD_eq_getElem?_getD,List.getElem?_append_left hlt,←List.getD_eq_getElem?_getD]
  have e2:(vs++vs').getD i .undef=vs.getD i .undef:=by rw[List.getD_eq_getElem?_getD,List.getElem?_append_left (by rw[h.1];exact hlt),←List.getD_eq_getElem?_getD]
  rw[e1,e2];exact h.2 i hlt
 ·have e1:(cs++cs').getD i undef=cs'.getD (i-cs.length) undef:=by rw[List.getD_eq_getElem?_getD,List.getElem?_append_right hge,←List.getD_eq_getElem?_getD]
  have e2:(vs++vs').getD i .undef=vs'.getD (i-cs.length) .undef:=by rw[List.getD_eq_getElem?_getD,List.getElem?_append_right (by rw[h.1];exact hge),h.1,←List.getD_eq_getElem?_getD]
  rw[e1,e2];exact h'.2 _ (by simp at hi;omega)
theorem JR{S:List TypeId}(hS:zeE P S=true){t:TypeId}(ht:t∈S):t<P.types.size∧(P.underlying t=some .bool∨(∃k,P.underlying t=some (.int k))∨P.underlying t=some .string∨
  (∃e,P.underlying t=some (.slice e)∧e∈S∧0<P.cellsOf e)∨ ∃fs,P.underlying t=some (.struct fs)∧ ∀f∈fs.toList,f.type∈S):=by
 have:=List.all_eq_true.1 hS t ht
 simp only[Bool.and_eq_true,decide_eq_true_eq]at this
 refine⟨this.1, ?_⟩
 have h2:=this.2
 split at h2
 ·rename_i h;exact .inl h
 ·rename_i h;exact .inr (.inl ⟨_,h⟩)
 ·rename_i h;exact .inr (.inr (.inl h))
 ·rename_i e h
  simp only[Bool.and_eq_true,decide_eq_true_eq,List.contains_iff_mem]at h2
  exact .inr (.inr (.inr (.inl ⟨e,h,h2.1,h2.2⟩)))
 ·rename_i fs h
  simp only[List.all_eq_true,List.contains_iff_mem]at h2
  exact .inr (.inr (.inr (.inr ⟨fs,h,h2⟩)))
 ·cases h2
theorem zdX{v:V}(h: ∀c,v≠ .agg c):AM.cellsOf v=[v]:=by
 cases v<;>first|rfl|exact absurd rfl (h _)
def zbU(P:Program)(t:TypeId):Nat:=match P.underlying t with|some (.struct _)=>1|_=>0
theorem zgp{n:Nat}{S':List TypeId}(ih: ∀t cs (x:DataW H×List MemPlace),DataW.trod enc P w 0 sp held n t cs=some x→t∈S'→ ∃vs,WT P n t vs∧cs.length=P.cellsOf t∧JQ w vs cs∧(∀v∈vs,∀c,v≠ .agg c)∧YH vs+zbU P t≤XE x.1)(cs:List Value):
  ∀(fs:List Field) (off:Nat) (xs:List (DataW H×List MemPlace)),(∀(j:Nat) f,fs[j]? =some f→f.offset=off+((fs.take j).map fun f=>P.cellsOf f.type).sum)→(∀f∈fs,f.type∈S')→xs.length=fs.length→
   (∀(i:Nat) (f:Field),fs[i]? =some f→DataW.trod enc P w 0 sp held n f.type ((cs.drop f.offset).take (P.cellsOf f.type))=xs[i]?)→cs.length=off+(fs.map fun f=>P.cellsOf f.type).sum→
   ∃vs,(∀f∈fs,WT P n f.type ((vs.drop (f.offset-off)).take (P.cellsOf f.type)))∧JQ w vs (cs.drop off)∧(∀v∈vs,∀c,v≠ .agg c)∧YH vs≤Xr (xs.map (·.1))
 |[],off,xs,_,_,hx,_,hl=>by
  refine⟨[],(fun f hf=>by cases hf),⟨by simp at hl⊢;omega,fun i hi=>by simp at hl hi;omega⟩,(fun v hv=>by cases hv),by simp[YH]⟩
 |f::fs,off,[],_,_,hx,_,_=>by simp at hx
 |f::fs,off,x::xs,hoff,hS,hx,hel,hl=>by
  have h0:f.offset=off:=by simpa using hoff 0 f rfl
  obtain⟨vs0,k1,k2,k3,k4,k5⟩:=ih f.type _ x (by simpa using hel 0 f rfl) (hS f (by simp))
  simp only[List.map_cons,List.sum_cons]at hl
  obtain⟨vs1,j1,j2,j3,j4⟩:=zgp ih cs fs (off+P.cellsOf f.type) xs (fun j g hg=>by
   have:=hoff (j+1) g (by simpa using hg)
   simp only[List.take_succ_cons,List.map_cons,List.sum_cons]at this
   omega) (fun g hg=>hS g (by simp[hg])) (by simpa using hx) (fun i g hg=>by simpa using hel (i+1) g (by simpa using hg)) (by omega)
  have hv0:vs0.length=P.cellsOf f.type:=by rw[k3.1,k2]
  refine⟨vs0++vs1,fun g hg=> ?_, ?_,fun v hv=> ?_, ?_⟩
  ·rcases List.mem_cons.1 hg with rfl|hg
   ·rw[h0,Nat.sub_self,List.drop_zero,List.take_append_of_le_length (by omega),List.take_of_length_le (by omega)]
    exact k1
   ·obtain⟨j,hj,hjg⟩:=List.mem_iff_getElem.1 hg
    have hge:=hoff (j+1) g (by simp[hj,hjg])
    simp only[List.take_succ_cons,List.map_cons,List.sum_cons]at hge
    have e:(vs0++vs1).drop (g.offset-off)=vs1.drop (g.offset-(off+P.cellsOf f.type)):=by
     rw[List.drop_append,hv0,List.drop_of_length_le (by omega),List.nil_append]
     congr 1;omega
    rw[e];exact j1 g hg
  ·have e:cs.drop off=(cs.drop f.offset).take (P.cellsOf f.type)++cs.drop (off+P.cellsOf f.type):=by
    rw[h0,←List.drop_drop,List.take_append_drop]
   rw[e]
   exact zfw k3 j2
  ·rcases List.mem_append.1 hv with h|h
   ·exact k4 v h
   ·exact j3 v h
  ·simp only[zdW,List.map_cons,Xr]
   omega
theorem znV(hl:laidOutB P=true){S:List TypeId}(hS:zeE P S=true): ∀(n:Nat) (t:TypeId) (cs:List Value) (x:DataW H×List MemPlace),DataW.trod enc P w 0 sp held n t cs=some x→t∈S→
  ∃vs,WT P n t vs∧cs.length=P.cellsOf t∧JQ w vs cs∧(∀v∈vs,∀c,v≠ .agg c)∧YH vs+zbU P t≤XE x.1:=by
 intro n
 induction n with
 |zero=>intro t cs x h;simp[DataW.trod]at h
 |succ n ih=>
  intro t cs x h htS
  obtain⟨ht,hk⟩:=JR hS htS
  have hone: ∀d,P.underlying t=some d→(∀fs,d≠ .struct fs)→(∀n e,d≠ .array n e)→P.cellsOf t=1:=by
   intro d hd h1 h2
   have:=rowFine_of hl ht
   simp only[rowFine,isVar,ht,hd,decide_true,Bool.true_and]at this
   cases d<;>simp_all[kindOk]
  rcases hk with hu|⟨k,hu⟩|hu|⟨e,hu,heS,hpos⟩|⟨fs,hu,hfs⟩
  ·obtain⟨b,rfl,rfl⟩:=DataW.trod_bool hu h
   refine⟨[.bool b], ?_,(hone _ hu (by simp) (by simp)).symm,XX rfl (.bool b),by simp,by simp[YH,zak,XE,zbU,hu]⟩
   simp only[WT,hu]
   exact⟨b,rfl⟩
  ·obtain⟨z,rfl,rfl,hw⟩:=DataW.trod_int hu h
   by_cases hk:k= .i64
   ·subst hk
    refine⟨[.int z], ?_,(hone _ hu (by simp) (by simp)).symm,XX rfl (.int z),by simp,by simp[YH,zak,XE,zbU,hu]⟩
    simp only[WT,hu]
    exact⟨z,rfl,hw⟩
   ·refine⟨[.ik k z], ?_,(hone _ hu (by simp) (by simp)).symm,XX rfl (.ik k z),by simp,by simp[YH,zak,XE,zbU,hu]⟩
    simp only[WT,hu]
    cases k<;>first|exact absurd rfl hk|exact⟨z,rfl,hw⟩
  ·obtain⟨s,rfl,rfl,hs⟩:=DataW.trod_string hu h
   refine⟨[.str s], ?_,(hone _ hu (by simp) (by simp)).symm,XX rfl (.str s),by simp, ?_⟩
   ·simp only[WT,hu]
    exact⟨s,rfl,hs⟩
   ·simp[YH,zak,XE,zbU,hu]
  ·rcases DataW.trod_slice hu h with⟨rfl,rfl⟩|⟨a,len,cap,elems,rest,m,hm,rfl,rfl,_,hle,hmax,hlen,hel,_,_⟩
   ·refine⟨[.vec .plain (shOf P e) []], ?_,(hone _ hu (by simp) (by simp)).symm,XX rfl (.vecE _ _ _ _ (by simp) (by simp)),by simp,by simp[YH,zak,XE,zbU,hu]⟩
    simp only[WT,hu]
    exact⟨[],rfl,by simp,by simp⟩
   ·have hm':n=m:=by omega
    subst hm'
    have each: ∀i,i<len→ ∃(v:V) (f:Nat→Value) (y:DataW H×List MemPlace),elems[i]? =some y∧Shaped (shOf P e) v∧WT P n e (AM.cellsOf v)∧zak v≤XE y.1+0∧
      ∀j,j<(shOf P e).sz→w.cell? ((a.add (i*P.cellsOf e)).add j)=some (f j)∧(f j).oneCell'=true∧VRep w (prW w) [] (cellAt v j) (f j):=by
     intro i hi
     have hei:=hel i hi
     have hsome:elems[i]? =some elems[i]:=by simp[hlen,hi]
     rw[hsome]at hei
     obtain⟨cs',hc,hd⟩:=Option.bind_eq_some_iff.1 hei
     obtain⟨_,hcl,hcell⟩:=World.cells?_some hc
     obtain⟨vs,k1,k2,k3,k4,k5⟩:=ih e cs' _ hd heS
     obtain⟨hte,hke⟩:=JR hS heS
     have hvl:vs.length=P.cellsOf e:=by rw[k3.1,k2]
     have hcells: ∀j,j<P.cellsOf e→w.cell? ((a.add (i*P.cellsOf e)).add j)=some (cs'.getD j undef):=fun j hj=>by
      rw[hcell j hj,List.getD_eq_getElem?_getD,List.getElem?_eq_getElem (by omega)];rfl
     by_cases hst: ∃fs,P.underlying e=some (.struct fs)
     ·obtain⟨fs,hfs⟩:=hst
      have hsh:shOf P e=some (P.cellsOf e):=by simp only[shOf,hfs];rfl
      refine⟨.agg vs,fun j=>cs'.getD j undef,_,hsome,by rw[hsh];exact hvl,k1, ?_,fun j hj=> ?_⟩
      ·
       simpa[zak,zbU,hfs]using k5
      ·rw[hsh]at hj
       exact⟨hcells j hj,(k3.2 j (by rw[k2];exact hj)).1,(k3.2 j (by rw[k2];exact hj)).2⟩
     ·have hsh:shOf P e=none:=by
       rcases hke with h|⟨k,h⟩|h|⟨e',h,_⟩|⟨fs,h,_⟩<;>first|(simp only[shOf,h];done)|exact absurd ⟨_,h⟩ hst
      have h1:P.cellsOf e=1:=by
       have:=rowFine_of hl hte
       rcases hke with h|⟨k,h⟩|h|⟨e',h,_⟩|⟨fs,h,_⟩
       ·simp[rowFine,isVar,hte,h,kindOk]at this;exact this
       ·simp[rowFine,isVar,hte,h,kindOk]at this;exact this
       ·simp[rowFine,isVar,hte,h,kindOk]at this;exact this
       ·simp[rowFine,isVar,hte,h,kindOk]at this;exact this.2
       ·exact absurd ⟨_,h⟩ hst
      rw[h1]at hvl
      obtain⟨v,rfl⟩: ∃v,vs=[v]:=List.length_eq_one_iff.1 hvl
      have hna:=k4 v (by simp)
      have hcv:=zdX hna
      refine⟨v,fun j=>cs'.getD j undef,_,hsome, ?_,by rw[hcv];exact k1,(by simp only[YH]at k5;omega),fun j hj=> ?_⟩
      ·rw[hsh]
       cases v<;>first|trivial|exact absurd rfl (hna _)
      ·rw[hsh]at hj
       have:j=0:=by simpa[Sh.sz]using hj
       subst this
       refine⟨hcells 0 (by omega),(k3.2 0 (by omega)).1, ?_⟩
       have:=(k3.2 0 (by omega)).2
       unfold cellAt
       rw[hcv];exact this
    refine⟨[.vec .plain (shOf P e) ((List.range len).map fun i=>if hi:i<len then(each i hi).choose else .undef)], ?_,(hone _ hu (by simp) (by simp)).symm,XX rfl ?_,by simp, ?_⟩
    ·simp only[WT,hu]
     refine⟨_,rfl,by simp;omega,fun v hv=> ?_⟩
     obtain⟨i,hi,rfl⟩:=List.mem_map.1 hv
     have hi:=List.mem_range.1 hi
     rw[dif_pos hi]
     obtain⟨f,y,_,h2,h3,_⟩:=(each i hi).choose_spec
     exact⟨h2,h3⟩
    ·have hget: ∀i,i<len→((List.range len).map fun i=>if hi:i<len then(each i hi).choose else V.undef).getD i .undef=if hi:i<len then(each i hi).choose else V.undef:=fun i hi=>by
      simp[List.getD_eq_getElem?_getD,hi]
     by_cases h0:len=0
     ·subst h0
      exact .vecE _ _ _ _ (by simp) (by simp)
     ·have hsz:0<(shOf P e).sz:=by
       obtain⟨hte,hke⟩:=JR hS heS
       rcases hke with h|⟨k,h⟩|h|⟨e',h,_⟩|⟨fs,h,_⟩<;>simp only[shOf,h,Sh.sz]<;>first|exact Nat.one_pos|exact hpos
      have hspot:a.spot=none:=by
       obtain⟨f,y,_,_,_,_,h5⟩:=(each 0 (by omega)).choose_spec
       have:=(h5 0 hsz).1
       simp only[Nat.zero_mul,Addr.add,if_true]at this
       unfold World.cell? at this
       split at this
       ·split at this
        ·cases this
        ·rename_i hs;simpa using hs
       ·cases this
      have hsze:(shOf P e).sz=P.cellsOf e:=by
       obtain⟨hte,hke⟩:=JR hS heS
       have hr:=rowFine_of hl hte
       rcases hke with h|⟨k,h⟩|h|⟨e',h,_⟩|⟨fs,h,_⟩
       ·simp[rowFine,isVar,hte,h,kindOk]at hr;simp only[shOf,h,Sh.sz];exact hr.symm
       ·simp[rowFine,isVar,hte,h,kindOk]at hr;simp only[shOf,h,Sh.sz];exact hr.symm
       ·simp[rowFine,isVar,hte,h,kindOk]at hr;simp only[shOf,h,Sh.sz];exact hr.symm
       ·simp[rowFine,isVar,hte,h,kindOk]at hr;simp only[shOf,h,Sh.sz];exact hr.2.symm
       ·simp only[shOf,h,Sh.sz];rfl
      have hadd: ∀i j,(a.add (i*P.cellsOf e)).add j=⟨a.block,a.off+(i*(shOf P e).sz+j),none⟩:=fun i j=>by
       obtain⟨b,o,s⟩:=a
       simp only at hspot
       subst hspot
       rw[YN,YN,hsze,Nat.add_assoc]
      have hlen2:((List.range len).map fun i=>if hi:i<len then(each i hi).choose else V.undef).length=len:=by simp
      have hlift:Value.slice (some a) len cap=Value.slice (some a) ((List.range len).map fun i=>if hi:i<len then(each i hi).choose else V.undef).length cap:=by rw[hlen2]
      rw[hlift]
      refine .vec .plain _ _ a cap (fun i j=>if hi:i<len then(each i hi).choose_spec.choose j else undef) (by simp) (by simp) (by rw[hlen2];exact hle) hspot (fun i j hi hj=> ?_) (fun i hi=> ?_) fun i j hi hj=> ?_
      ·rw[hlen2]at hi
       obtain⟨y,_,_,_,_,h5⟩:=(each i hi).choose_spec.choose_spec
       obtain⟨h6,h7,h8⟩:=h5 j hj
       rw[hadd]at h6
       simp only[dif_pos hi]
       refine⟨h6, ?_,h7⟩
       show a.block<w.heap.size
       unfold World.cell? at h6
       simp only at h6
       cases hh:w.heap[a.block]? with
       |none=>rw[hh]at h6;cases h6
       |some o=>exact(Array.getElem?_eq_some_iff.1 hh).1
      ·rw[hlen2]at hi
       rw[hget i hi,dif_pos hi]
       obtain⟨f,y,_,h2,_⟩:=(each i hi).choose_spec
       exact h2
      ·rw[hlen2]at hi
       rw[hget i hi,dif_pos hi]
       obtain⟨y,_,_,_,_,h5⟩:=(each i hi).choose_spec.choose_spec
       simp only[dif_pos hi]
       exact(h5 j hj).2.2
    ·have hsum: ∀k,k≤len→YH ((List.range k).map fun i=>if hi:i<len then(each i hi).choose else V.undef)≤Xr ((elems.take k).map (·.1)):=by
      intro k
      induction k with
      |zero=>intro _;simp[YH]
      |succ k ihk=>
       intro hk
       have hi:k<len:=by omega
       obtain⟨f,y,h1,_,_,h4,_⟩:=(each k hi).choose_spec
       have hlt:k<elems.length:=by omega
       have ey:elems[k]=y:=by
        have:=List.getElem?_eq_getElem hlt
        rw[h1]at this;exact(Option.some.inj this).symm
       rw[List.range_succ,List.map_append,zdW,List.take_succ_eq_append_getElem hlt,List.map_append,zhi]
       have:=ihk (by omega)
       simp only[List.map_cons,List.map_nil,YH,Xr,dif_pos hi,ey]
       omega
     have:=hsum len (Nat.le_refl _)
     rw[List.take_of_length_le (by omega)]at this
     simp only[YH,zak,XE,zbU,hu]
     omega
  ·obtain⟨xs,m,hm,rfl,hcl,hxl,hel⟩:=DataW.trod_struct hu h
   have hm':n=m:=by omega
   subst hm'
   obtain⟨h1,h2,h3⟩:=kid_struct hl ht hu
   obtain⟨vs,k1,k2,k3,k4⟩:=zgp ih cs fs.toList 0 xs (fun j f hf=>by rw[h3 j f hf];omega) hfs (by simpa using hxl) (fun i f hf=>hel i f (by rw[←hf,Array.getElem?_toList])) (by rw[hcl,h2];omega)
   rw[List.drop_zero]at k2
   refine⟨vs, ?_,hcl,k2,k3, ?_⟩
   ·simp only[WT,hu]
    exact⟨by rw[k2.1,hcl],fun f hf=>by simpa using k1 f hf⟩
   ·simp only[XE,zbU,hu];omega
end
end Go.AM
namespace Go.AM
open Go Go.RowKit Go.ChangeShapes Go.WideShapes
def zh6(P:Program):List TypeId→List V→Prop
 |[],[]=>True
 |t::ts,v::vs=>(∃n,WT P n t (AM.cellsOf v))∧Shaped (shOf P t) v∧zh6 P ts vs
 |_,_=>False
section
variable{H:Type}{enc:TypeId×Value→H}{P:Program}{w:World}{sp:Nat→Bool}{held:Bool}{cfg:Cfg}{ext:Ext}
theorem zoO(hl:laidOutB P=true){S:List TypeId}(hS:zeE P S=true){t:TypeId}(ht:t∈S){v:Value}{d:DataW H}{ps:List MemPlace}{b0:Nat}(hv:Value.okWide P w .any b0 t v)(h:DataW.Trod enc P w 0 sp held t v d ps):
  ∃u,(∃n,WT P n t (AM.cellsOf u))∧Shaped (shOf P t) u∧VRep w (prW w) [] u v∧zak u≤XE d:=by
 obtain⟨n,hn⟩:=h
 obtain⟨vs,k1,k2,k3,k4,k5⟩:=znV hl hS n t _ _ hn ht
 obtain⟨hts,hk⟩:=JR hS ht
 have scalar:(∀cs,v≠ .agg cs)→shOf P t=none→ ∃u,(∃n,WT P n t (AM.cellsOf u))∧Shaped (shOf P t) u∧VRep w (prW w) [] u v∧zak u≤XE d:=by
  intro hna hsh
  have hc:v.cells.toList=[v]:=by cases v<;>first|rfl|exact absurd rfl (hna _)
  rw[hc]at k2 k3
  have hvl:vs.length=1:=k3.1
  obtain⟨u,rfl⟩: ∃v,vs=[v]:=List.length_eq_one_iff.1 hvl
  have hna':=k4 u (by simp)
  refine⟨u,⟨n,by rw[zdX hna'];exact k1⟩, ?_, ?_, ?_⟩
  ·rw[hsh]
   cases u<;>first|trivial|exact absurd rfl (hna' _)
  ·exact(k3.2 0 (by simp)).2
  ·simp only[YH]at k5;omega
 rcases hk with hu|⟨k,hu⟩|hu|⟨e,hu,_⟩|⟨fs,hu,_⟩
 ·obtain⟨b,rfl⟩:=okWide_bool hu hv
  exact scalar (by simp) (by simp only[shOf,hu])
 ·obtain⟨z,rfl⟩:=okWide_int hu hv
  exact scalar (by simp) (by simp only[shOf,hu])
 ·obtain⟨s,rfl⟩:=okWide_string hu hv
  exact scalar (by simp) (by simp only[shOf,hu])
 ·obtain⟨a,l,c,rfl⟩:=okWide_slice hu hv
  exact scalar (by simp) (by simp only[shOf,hu])
 ·obtain⟨cs,rfl,hsz⟩:=okWide_struct hu hv
  have hsh:shOf P t=some (P.cellsOf t):=by simp only[shOf,hu];rfl
  have hcs:(Value.agg cs).cells.toList=cs.toList:=rfl
  rw[hcs]at k2 k3
  refine⟨.agg vs,⟨n,k1⟩,by rw[hsh];show vs.length=_;rw[k3.1,k2], .agg vs cs (by rw[k3.1];simp) (fun i hi=> ?_) (fun i hi=> ?_), ?_⟩
  ·have:=(k3.2 i (by rw[←k3.1];exact hi)).1
   simpa[Array.getD_eq_getD_getElem?,List.getD_eq_getElem?_getD]using this
  ·have:=(k3.2 i (by rw[←k3.1];exact hi)).2
   simpa[Array.getD_eq_getD_getElem?,List.getD_eq_getElem?_getD]using this
  ·simpa[zak,zbU,hu]using k5
theorem zh7(hl:laidOutB P=true){S:List TypeId}(hS:zeE P S=true){b0:Nat}: ∀(ts:List TypeId) (as_:List Value) (ds:List (DataW H)) (ps:List MemPlace),(∀t∈ts,t∈S)→(∀(j:Nat) t v,ts[j]? =some t→as_[j]? =some v→Value.okWide P w .any b0 t v)→
  DataW.TrodAll enc P w 0 sp held ts as_ ds ps→ ∃us,zh6 P ts us∧us.length=as_.length∧(∀i,i<us.length→VRep w (prW w) [] (us.getD i .undef) (as_.getD i undef))∧YH us≤Xr ds
 |[],as_,ds,ps,_,_,h=>by
  obtain⟨rfl,rfl,rfl⟩:=trodAll_nil h
  exact⟨[],trivial,rfl,fun i hi=>by simp at hi,by simp[YH]⟩
 |t::ts,as_,ds,ps,hS',hv,h=>by
  obtain⟨v,vs,d,ds',p,q,rfl,rfl,rfl,h1,h2⟩:=trodAll_cons h
  obtain⟨u,k1,k2,k3,k4⟩:=zoO hl hS (hS' t (by simp)) (hv 0 t v rfl rfl) h1
  obtain⟨us,j1,j2,j3,j4⟩:=zh7 hl hS ts vs ds' q (fun t h=>hS' t (by simp[h])) (fun j t v h1 h2=>hv (j+1) t v (by simpa using h1) (by simpa using h2)) h2
  refine⟨u::us,⟨k1,k2,j1⟩,by simp[j2],fun i hi=> ?_,by simp only[YH,Xr];omega⟩
  cases i with
  |zero=>simpa using k3
  |succ i=>simpa using j3 i (by simpa using hi)
def Y7(w:World):Own:=fun b _=>if b<w.heap.size then .pr else .free
theorem zoP{b i:Nat}:Y7 w b i= .pr↔b<w.heap.size:=by
 unfold Y7;split<;>simp_all
theorem zqI(P:Program)(cfg:Cfg)(w:World):Sto P cfg w.heap.size w (Y7 w) [] []:=
 ⟨rfl,(fun r x b h=>by simp at h),(fun b i h=>by unfold Y7 at h;split at h<;>simp_all),(fun b i h1 h2=>by unfold Y7 at h1 h2;split at h1<;>simp_all),Nat.le_refl _⟩
theorem zqy(w:World):Flat (Y7 w):=fun b i=>by
 unfold Y7
 split
 ·exact .inr (.inl rfl)
 ·exact .inl rfl
theorem zmK(hm:P.follows .mixedOrders=true)(hP:PlainNames P)(hE:zfm P cfg ext)(hl:laidOutB P=true){S:List TypeId}(hS:zeE P S=true){f:FuncId}{ts:List TypeId}(hts: ∀t∈ts,t∈S){B:Nat}
  (hpure: ∀us,zh6 P ts us→YH us≤B→ ∃m st,(Xh P cfg ext m).call f us []=some (.ret (.bool true),st)) {args:Array Value} {ds:List (DataW H)} {ps:List MemPlace} {b0:Nat}
  (hv: ∀(j:Nat) t v,ts[j]? =some t→args[j]? =some v→Value.okWide P w .any b0 t v) (h:DataW.TrodAll enc P w 0 sp held ts args.toList ds ps) (hb:Xr ds≤B):
  Calls P f args w fun e w'=>e= .returned (.bool true)∧Below w.heap.size w w':=by
 obtain⟨us,k1,k2,k3,k4⟩:=zh7 hl hS ts args.toList ds ps hts (fun j t v h1 h2=>hv j t v h1 (by simpa using h2)) h
 obtain⟨m,st,hc⟩:=hpure us k1 (Nat.le_trans k4 hb)
 obtain⟨_,hcalls⟩:=zkX hm hP hE m f us [] _ hc
 have hA:Args w (Y7 w) [] us args:=by
  refine⟨by simpa using k2,fun i hi=> ?_⟩
  have:=(k3 i hi).mono (w':=w) (pr':=prOf (Y7 w)) (μ':=[]) (fun b i e=>⟨zoP.2 e,rfl⟩) fun _ _ h=>h
  simpa[Array.getD_eq_getD_getElem?,List.getD_eq_getElem?_getD]using this
 refine((hcalls 0 w.heap.size w (Y7 w) [] args (zqI P cfg w) (zqy w) hA).calls room_wide).mono fun e w' hpost=> ?_
 obtain⟨c,own',μ',_,h2,h3⟩:=hpost
 obtain⟨rfl,hV⟩:=h3
 exact⟨by rw[hV.bool_inv],h2.below⟩
theorem zcX(hl:laidOutB P=true){w':World}(hb:Below w.heap.size w w'): ∀(ts:List TypeId) (as_:List Value) (ds:List (DataW H)) (ps:List MemPlace),(ts.all fun t=>P.readableRec t&&decide (t<P.types.size))=true→
  DataW.TrodAll enc P w 0 (fun _=>true) true ts as_ ds ps→DataW.TrodAll enc P w' 0 (fun b=>decide (b<w.heap.size)) true ts as_ ds ps
 |[],as_,ds,ps,_,h=>by
  obtain⟨rfl,rfl,rfl⟩:=trodAll_nil h
  exact trodAll_mk0
 |t::ts,as_,ds,ps,hr,h=>by
  obtain⟨v,vs,d,ds',p,q,rfl,rfl,rfl,h1,h2⟩:=trodAll_cons h
  simp only[List.all_cons,Bool.and_eq_true,decide_eq_true_eq]at hr
  have lt: ∀x∈p,x.block<w.heap.size:=by obtain⟨m,hm⟩:=h1;exact DataW.trod_lt m _ _ _ hm
  exact trodAll_cons_mk (Below.trod hl hr.1.1 hr.1.2 h1 hb lt) (zcX hl hb ts vs ds' q (by simpa using hr.2) h2)
theorem ziE(hm:P.follows .mixedOrders=true)(hP:PlainNames P)(hE:zfm P cfg ext)(hl:laidOutB P=true){S:List TypeId}(hS:zeE P S=true){f:FuncId}{fn:Func}{ts:List TypeId}(hpar:fn.params.toList=ts)(hts: ∀t∈ts,t∈S)
  (hrd:(ts.all fun t=>P.readableRec t&&decide (t<P.types.size))=true) {rt:TypeId} (hrt:fn.resultTypes= #[rt]) (hbool:P.underlying rt=some .bool) {B:Nat}
  (hpure: ∀us,zh6 P ts us→YH us≤B→ ∃m st,(Xh P cfg ext m).call f us []=some (.ret (.bool true),st)) {s:ChangeSpec} (hvars:s.vars=[]) {args:Array Value} {ds gs:List (DataW H)} {before:List MemPlace} {b0:Nat}
  (hs:ds.length=ts.length→s.fn H ds={results:=[.lit (.bool true)],args:=ds})
  (hv: ∀(j:Nat) t v,fn.params[j]? =some t→args[j]? =some v→Value.okWide P w .any b0 t v) (hW:DataW.Whole enc P fn.params.toList s.vars false w args.toList ds gs before) (hb:Xr (ds++gs)≤B):
  Calls P f args w fun e w'=> ∃v,e= .returned v∧s.post enc P fn false true false false w args v w':=by
 have hW':=hW
 obtain⟨p,q,hA,hV,rfl,hfz,hnd⟩:=hW
 rw[hvars]at hV
 obtain⟨rfl,rfl⟩:=trodVars_none hV
 rw[hpar]at hA
 rw[List.append_nil]at hb
 have hlen:ds.length=ts.length:=by
  have: ∀(ts:List TypeId) (as_:List Value) (ds:List (DataW H)) (ps:List MemPlace),DataW.TrodAll enc P w 0 (fun _=>true) true ts as_ ds ps→ds.length=ts.length:=by
   intro ts
   induction ts with
   |nil=>intro as_ ds ps h;obtain⟨_,rfl,_⟩:=trodAll_nil h;rfl
   |cons t ts ih=>intro as_ ds ps h;obtain⟨v,vs,d,ds',p,q,rfl,rfl,rfl,h1,h2⟩:=trodAll_cons h;simp[ih _ _ _ h2]
  exact this _ _ _ _ hA
 refine(zmK hm hP hE hl hS hts hpure (fun j t v h1 h2=>hv j t v (by rw[←hpar,Array.getElem?_toList]at h1;exact h1) h2) hA hb).mono fun e w' ⟨he,bel⟩=> ?_
 subst he
 have hsf:s.fn H (ds++[])={results:=[.lit (.bool true)],args:=ds}:=by rw[List.append_nil];exact hs hlen
 refine⟨_,rfl,ds,[],_,[],p,[],hW', ?_, ?_, ?_,bel.frame _,fun h=>by cases h⟩
 ·rw[hsf,hrt]
  exact trodAll_mk1 (shut_bool hbool _)
 ·rw[hsf,hpar]
  exact zcX hl bel _ _ _ _ hrd hA
 ·rw[hsf,hvars]
  rfl
end
end Go.AM
namespace Go.AM
open Go
inductive T where
 |mk (k h:Int) (as_:List T)
def T.k:T→Int| .mk k _ _=>k
def T.h:T→Int| .mk _ h _=>h
def T.args:T→List T| .mk _ _ l=>l
theorem T.ind{p:T→Prop}(h: ∀k hd as_,(∀a∈as_,p a)→p (.mk k hd as_)): ∀t,p t
 | .mk k hd as_=>h k hd as_ (all as_)
where all: ∀as_:List T,∀a∈as_,p a
 |b::bs,a,ha=>by
  rcases List.mem_cons.1 ha with e|e
  ·rw[e];exact T.ind h b
  ·exact all bs a e
mutual
def enc:T→V
 | .mk k h as_=> .agg [.int k, .int h, .vec .plain (some 3) (Z0 as_)]
def Z0:List T→List V
 |[]=> []
 |t::ts=>enc t::Z0 ts
end
@[simp] theorem zqz:Z0 []=[]:=rfl
@[simp] theorem zh8(t:T)(ts:List T):Z0 (t::ts)=enc t::Z0 ts:=rfl
theorem zdY: ∀ts,Z0 ts=ts.map enc
 |[]=>rfl
 |t::ts=>by rw[zh8,zdY ts];rfl
@[simp] theorem Yj(ts:List T):(Z0 ts).length=ts.length:=by rw[zdY];simp
@[simp] theorem zjM(a b:List T):Z0 (a++b)=Z0 a++Z0 b:=by simp[zdY]
theorem Zt(t:T):enc t= .agg [.int t.k, .int t.h, .vec .plain (some 3) (Z0 t.args)]:=by cases t;rfl
def I64(n:Int):Prop:= -9223372036854775808≤n∧n≤9223372036854775807
theorem Y9{n:Int}(h:I64 n):IntKind.i64.wrap n=n:=by
 obtain⟨h1,h2⟩:=h
 show(if(true&&decide (n % 2^64≥2^63))=true then n % 2^64-2^64 else n % 2^64)=n
 by_cases hc:n % 2^64≥2^63
 ·rw[if_pos (by simpa using hc)];omega
 ·rw[if_neg (by simpa using hc)];omega
theorem Qv{ts:List T}{i:Nat}(h:i<ts.length):YR (Z0 ts) (i:Int)=enc ts[i]:=by
 simp[YR,zdY,List.getD_eq_getElem?_getD,h]
mutual
def T.size:T→Nat
 | .mk _ _ as_=>1+sizes as_
def sizes:List T→Nat
 |[]=>0
 |t::ts=>t.size+sizes ts
end
mutual
def T.depth:T→Nat
 | .mk _ _ as_=>ZI as_+1
def ZI:List T→Nat
 |[]=>0
 |t::ts=>max t.depth (ZI ts)
end
theorem zaK(t:T):1≤t.size:=by cases t;simp only[T.size];omega
theorem ziF(a b:List T):sizes (a++b)=sizes a+sizes b:=by
 induction a with
 |nil=>simp[sizes]
 |cons x a ih=>simp only[List.cons_append,sizes,ih];omega
theorem size_le{ts:List T}{t:T}(h:t∈ts):t.size≤sizes ts:=by
 induction ts with
 |nil=>cases h
 |cons x ts ih=>
  simp only[sizes]
  rcases List.mem_cons.1 h with rfl|h
  ·omega
  ·have:=ih h;omega
theorem YF: ∀ts:List T,ts.length≤sizes ts
 |[]=>by simp
 |t::ts=>by simp only[List.length_cons,sizes];have:=zaK t;have:=YF ts;omega
theorem zhj: ∀t:T,t.depth≤t.size:=by
 intro t
 induction t using T.ind with
 |_ k h as_ ih=>
  simp only[T.depth,T.size]
  have: ∀as_:List T,(∀a∈as_,a.depth≤a.size)→ZI as_≤sizes as_:=by
   intro as_
   induction as_ with
   |nil=>intro _;simp[ZI]
   |cons x xs ih=>
    intro h
    have h1:=h x (by simp)
    have h2:=ih fun a ha=>h a (by simp[ha])
    simp only[ZI,sizes];omega
  have:=this as_ ih
  omega
mutual
theorem J9(n:Nat): ∀t:T,below n (enc t)=true
 | .mk k h as_=>by simp only[enc,below,Zu,Bool.and_true,Bool.true_and];exact QL n as_
theorem QL(n:Nat): ∀ts:List T,Zu n (Z0 ts)=true
 |[]=>rfl
 |t::ts=>by simp only[zh8,Zu,J9 n t,QL n ts,Bool.and_true]
end
attribute [simp] J9 QL
inductive OkT:T→Prop where
 |mk {k h:Int} {as_:List T} (h1:I64 k) (h2:I64 h) (h3: ∀a∈as_,OkT a):OkT (.mk k h as_)
theorem znW{O:Oracle}{f:Nat}{args:List V}{v:V}{st:St}(h:O.call f args []=some (.ret v,st))(h1:Zu 0 args=true)(h2:below 0 v=true):ZD O f args=some v:=by
 unfold ZD
 rw[h1,h]
 show gd (below 0 v) (some v)=some v
 rw[h2];rfl
theorem zgq{α:Type}{L:Nat→Option α}{n:Nat}{r:Option α}(hstep: ∀i,i<n→L i=L (i+1))(hend:L n=r):L 0=r:=by
 have: ∀d i,i+d=n→L i=r:=by
  intro d
  induction d with
  |zero=>
       intro i h;have:i=n:=by omega
       rw[this];exact hend
  |succ d ih=>intro i h;rw[hstep i (by omega)];exact ih (i+1) (by omega)
 exact this n 0 (by omega)
theorem zlc{α:Type}{l:List α}{i:Nat}(h:i<l.length):l.take (i+1)=l.take i++[l[i]]:=List.take_succ_eq_append_getElem h
theorem zhk(a b:List T):ZI (a++b)=max (ZI a) (ZI b):=by
 induction a with
 |nil=>simp[ZI]
 |cons x a ih=>simp only[List.cons_append,ZI,ih];omega
theorem zjN{l:List T}{i:Nat}(h:i<l.length):ZI (l.take (i+1))=max (ZI (l.take i)) l[i].depth:=by
 rw[zlc h,zhk];simp[ZI]
theorem zfx(l:List T):ZI l≤sizes l:=by
 induction l with
 |nil=>simp[ZI]
 |cons x l ih=>simp only[ZI,sizes];have:=zhj x;omega
mutual
def T.same:T→T→Bool
 | .mk k h l, .mk k' h' l'=>decide (k=k')&&(decide (h=h')&&zal l l')
def zal:List T→List T→Bool
 |[],[]=>true
 |a::l,b::l'=>a.same b&&zal l l'
 |_,_=>false
end
mutual
theorem zjO: ∀a b:T,a.same b=true↔a=b
 | .mk k h l, .mk k' h' l'=>by simp only[T.same,Bool.and_eq_true,decide_eq_true_eq,zeF l l',T.mk.injEq]
theorem zeF: ∀l l':List T,zal l l'=true↔l=l'
 |[],[]=>by simp[zal]
 |[],_::_=>by simp[zal]
 |_::_,[]=>by simp[zal]
 |a::l,b::l'=>by simp only[zal,Bool.and_eq_true,zjO a b,zeF l l',List.cons.injEq]
end
@[simp] theorem zqf(a:T):a.same a=true:=(zjO a a).2 rfl
@[simp] theorem zpF(l:List T):zal l l=true:=(zeF l l).2 rfl
theorem zh9: ∀{l l':List T},l.length=l'.length→zal l l'=(l.zip l').all fun x=>x.1.same x.2
 |[],[],_=>rfl
 |a::l,b::l',h=>by simp only[zal,List.zip_cons_cons,List.all_cons,zh9 (Nat.succ.inj h)]
 |[],_::_,h=>by cases h
 |_::_,[],h=>by cases h
theorem zhA: ∀{l l':List T},l.length≠l'.length→zal l l'=false
 |[],[],h=>absurd rfl h
 |a::l,b::l',h=>by
  simp only[List.length_cons,ne_eq,Nat.add_right_cancel_iff]at h
  simp only[zal,zhA h,Bool.and_false]
 |[],_::_,_=>rfl
 |_::_,[],_=>rfl
theorem zmL{α β:Type}{L:Int→Option α}{xs:List β}{g:β→Bool}{e0 e1:α}(hstep: ∀(i:Nat) (h:i<xs.length),L i=if g xs[i]=true then L ((i+1:Nat):Int)else some e1)(hend:L (xs.length:Nat)=some e0):
  L 0=some (if xs.all g=true then e0 else e1):=by
 have: ∀i:Nat,i≤xs.length→L i=some (if(xs.drop i).all g=true then e0 else e1):=by
  intro i hi
  induction hn:xs.length-i generalizing i with
  |zero=>
   have:i=xs.length:=by omega
   subst this
   rw[hend,List.drop_length];rfl
  |succ n ih=>
   have hlt:i<xs.length:=by omega
   rw[hstep i hlt,List.drop_eq_getElem_cons hlt,List.all_cons]
   cases hg:g xs[i]with
   |true=>
    rw[if_pos rfl,ih (i+1) (by omega) (by omega)]
    simp
   |false=>simp
 have:=this 0 (by omega)
 rwa [List.drop_zero]at this
theorem zlS(a b:Int):(a !=b)= !decide (a=b):=by by_cases h:a=b<;>simp[h]
theorem Yk(a b:Int):(a==b)=decide (a=b):=by by_cases h:a=b<;>simp[h]
theorem znX(a:Nat):((a:Int)==0)=decide (a=0):=by by_cases h:a=0<;>simp[h]
theorem znY(a:Nat):((a:Int)==1)=decide (a=1):=by
 by_cases h:a=1
 ·simp[h]
 ·have:(a:Int)≠1:=by omega
  simp[h,this]
theorem zjP(a:Nat):((a:Int)==2)=decide (a=2):=by
 by_cases h:a=2
 ·simp[h]
 ·have:(a:Int)≠2:=by omega
  simp[h,this]
section
variable{R:Type}
@[simp] theorem zoQ(K:XG R []):onCells (R:=R) [] [] K=K:=rfl
@[simp] theorem zoR{cs:List CT}{n:Int}{vs:List V}{K:XG R (.int::cs)}:onCells (R:=R) (.int::cs) (.int n::vs) K=onCells cs vs (K n):=rfl
@[simp] theorem zo1{cs:List CT}{n:Bool}{vs:List V}{K:XG R (.bool::cs)}:onCells (R:=R) (.bool::cs) (.bool n::vs) K=onCells cs vs (K n):=rfl
theorem ziG{n:Nat}{v:V}{st:St}(h:st.length=n):Qb n v st=some (.ret v,st):=by
 unfold Qb;rw[h,Nat.beq_refl];rfl
@[simp] theorem zqD{x y:Res}{v:V}:Qb (List.length [x]) v [y]=some (.ret v,[y]):=rfl
@[simp] theorem zq0{y:Res}{v:V}:Qb 1 v [y]=some (.ret v,[y]):=rfl
@[simp] theorem zoS{cs:List CT}{n:ByteArray}{vs:List V}{K:XG R (.str::cs)}:onCells (R:=R) (.str::cs) (.str n::vs) K=onCells cs vs (K n):=rfl
@[simp] theorem znZ{sh:Sh}{cs:List CT}{es vs:List V}{K:XG R (.slice sh::cs)}:onCells (R:=R) (.slice sh::cs) (.vec .plain sh es::vs) K=onCells cs vs (K es):=by
 show(if sh=sh then onCells cs vs (K es)else none)=_
 rw[if_pos rfl]
@[simp] theorem zoT{cs:List CT}{vs:List V}{K:XG R cs}:Zg (R:=R) cs (.agg vs) K=onCells cs vs K:=rfl
@[simp] theorem Y6{sh:Sh}{es:List V}{K:List V→Option R}:Ys sh (.vec .plain sh es) K=K es:=by show(if sh=sh then K es else none)=_;rw[if_pos rfl]
@[simp] theorem zmM{sh:Sh}{d:Bool}{v:V}{K:Bool→V→Option R}:zac sh (.loc d sh v) K=K d v:=by show(if sh=sh then K d v else none)=_;rw[if_pos rfl]
@[simp] theorem zpx{sh:Sh}{es:List V}{K:List V→Option R}:XF sh (.vec .grow sh es) K=K es:=by show(if sh=sh then K es else none)=_;rw[if_pos rfl]
@[simp] theorem Zb{α:Type}(x:α)(K:α→Option R):Za (some x) K=K x:=rfl
@[simp] theorem X8(s:ByteArray)(K:ByteArray→Option R):YW (.str s) K=K s:=rfl
@[simp] theorem zqE(k:IntKind)(n:Int)(K:Int→Option R):zgJ k (.ik k n) K=K n:=by show(if k=k then K n else none)=_;rw[if_pos rfl]
@[simp] theorem zhB(cs:List V)(K:List V→Option R):YX (.agg cs) K=K cs:=rfl
@[simp] theorem zpy(n r:Option R)(x:Nat→Option R)(p:V→Option R):Jp .normal n r x p=n:=rfl
@[simp] theorem zoU{sh:Sh}{es:List V}{K1 K2:List V→Option R}:Qz sh (.vec .grow sh es) K1 K2=K1 es:=by show(if sh=sh then K1 es else none)=_;rw[if_pos rfl]
@[simp] theorem zoV{sh:Sh}{es:List V}{K1 K2:List V→Option R}:Qz sh (.vec .full sh es) K1 K2=K2 es:=by show(if sh=sh then K2 es else none)=_;rw[if_pos rfl]
@[simp] theorem zpz{α:Type}(x:Option α):zfJ .busy x=x:=rfl
@[simp] theorem zqF(q:Nat)(K:Nat→Option R):zgI (.mp q) K=K q:=rfl
@[simp] theorem zqg(a b:CT)(l:List (V×V))(K:CT→CT→List (V×V)→Option R):zfA (.map a b l) K=K a b l:=rfl
@[simp] theorem zmN(q:Nat)(K:Nat→Option R):zfB (.ref q 0) K=K q:=rfl
@[simp] theorem zp0{sh:Sh}{es:List V}{K:List V→Option R}:XF sh (.vec .full sh es) K=K es:=by show(if sh=sh then K es else none)=_;rw[if_pos rfl]
@[simp] theorem zpG{sh:Sh}{q lo n:Nat}{K:Nat→Nat→Nat→Option R}:zaq sh (.row sh q lo n) K=K q lo n:=by show(if sh=sh then K q lo n else none)=_;rw[if_pos rfl]
@[simp] theorem zp1(s:ByteArray)(p:Nat)(K:ByteArray→Nat→Option R):zej (.iter s p) K=K s p:=rfl
@[simp] theorem zqh(sh:Sh)(es:List V)(K:Sh→List V→Option R):za5 (.row sh es) K=K sh es:=rfl
@[simp] theorem YL(n:Int)(K:Int→Option R):Z2 (.int n) K=K n:=rfl
@[simp] theorem Zr(n:Bool)(K:Bool→Option R):Z6 (.bool n) K=K n:=rfl
@[simp] theorem Yr(vs:List V)(K:List V→Option R):ZP (.tup vs) K=K vs:=rfl
@[simp] theorem Qw(v:V)(vs:List V)(K:V→List V→Option R):Zy (v::vs) K=K v vs:=rfl
@[simp] theorem Ye(x:Option R):Zs [] x=x:=rfl
@[simp] theorem zeG(i:Nat)(n r:Option R)(x:Nat→Option R)(p:V→Option R):Jp (.exit i) n r x p=x i:=rfl
@[simp] theorem zoa(n r:Option R)(x:Nat→Option R)(p:V→Option R):Jp .ret n r x p=r:=rfl
@[simp] theorem Zd(v:V)(K Pk:V→Option R):Zk (.ret v) K Pk=K v:=rfl
@[simp] theorem ziH(g:Nat)(a b:List V)(K:Nat→List V→List V→Option R):zfs (.fn g a b) K=K g a b:=rfl
@[simp] theorem QM(cs:List V)(K:List V→Option R):ZS (.box cs) K=K cs:=rfl
@[simp] theorem zfo(f k:Nat)(vs:List V)(s:LSt)(p:Option Ex)(K:Nat→Nat→List V→LSt→Option Ex→Option R):YQ (.loop f k vs s p) K=K f k vs s p:=rfl
@[simp] theorem zdZ(n r:Option R)(x:Nat→Option R):Q2 .ready none n r x=n:=rfl
@[simp] theorem zpH(n r:Option R)(x:Nat→Option R):Q2 .done (some .ret) n r x=r:=rfl
@[simp] theorem ZU(x:Option R):gd true x=x:=rfl
@[simp] theorem Zo(x y:Option R):bc true x y=x:=rfl
@[simp] theorem Zi(x y:Option R):bc false x y=y:=rfl
@[simp] theorem zbV(a b:Bool)(x:Option R):gd (a&&b) x=gd a (gd b x):=by cases a<;>rfl
@[simp] theorem zbW{p:Prop}[Decidable p](h:p)(x:Option R):gd (decide p) x=x:=by rw[decide_eq_true h];rfl
@[simp] theorem zob{p:Prop}[Decidable p](h:p)(x y:Option R):bc (decide p) x y=x:=by rw[decide_eq_true h];rfl
@[simp] theorem zoc{p:Prop}[Decidable p](h: ¬p)(x y:Option R):bc (decide p) x y=y:=by rw[decide_eq_false h];rfl
@[simp] theorem zq1{a b:Int}(h:a=b)(x y:Option R):bc (a==b) x y=x:=by rw[beq_iff_eq.2 h];rfl
@[simp] theorem zjQ{a b:Int}(h: ¬a=b)(x y:Option R):bc (a==b) x y=y:=by rw[beq_eq_false_iff_ne.2 h];rfl
@[simp] theorem zq2{a b:Int}(h: ¬a=b)(x y:Option R):bc (a !=b) x y=x:=by simp[bne,beq_eq_false_iff_ne.2 h]
@[simp] theorem zq3{a b:Int}(h:a=b)(x y:Option R):bc (a !=b) x y=y:=by simp[bne,beq_iff_eq.2 h]
@[simp] theorem zqJ(b:Bool)(x y:Option R):bc (!b) x y=bc b y x:=by cases b<;>rfl
@[simp] theorem zds{n:Int}(h1: -9223372036854775808≤n)(h2:n≤9223372036854775807):IntKind.i64.wrap n=n:=Y9 ⟨h1,h2⟩
end
end Go.AM
