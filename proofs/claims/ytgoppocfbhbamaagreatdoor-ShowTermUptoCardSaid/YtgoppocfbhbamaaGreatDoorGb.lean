import Derived.Test.YtgoppocfbhbamaaGreatDoorGa
import Derived.KernelRfl
import Derived.Test.YtgoppocfbhbamaaGreatDoorAMd
/- The program's functions, each an equation of the abstract machine checked by the kernel, and what they come to as_ plain Lean. -/
set_option linter.unusedVariables false
set_option linter.unusedSimpArgs false
set_option linter.unusedSectionVars false
namespace Go.Ama
open Go.AM (T)
structure Mono(s r:PS):Prop where
 suf:r.l<:+s.l
 sig:r.s=s.s
 err:s.e≠0→r=s
theorem Mono.len{s r:PS}(h:Mono s r):r.l.length≤s.l.length:=h.suf.length_le
theorem Mono.refl{s:PS}:Mono s s:=⟨List.suffix_refl _,rfl,fun _=>rfl⟩
theorem Mono.trans{s r q:PS}(h:Mono s r)(g:Mono r q):Mono s q:=
 ⟨g.suf.trans h.suf,g.sig.trans h.sig,fun he=>by
  have:=h.err he
  subst this
  exact g.err he⟩
theorem zav(n:Int)(s:PS):Mono s (s.fail n):=by
 unfold PS.fail
 split
 ·rename_i h;exact⟨List.suffix_refl _,rfl,fun he=>absurd h he⟩
 ·exact .refl
theorem zsj{s:PS}{c:Bytes}(h:s.is c=true): ∃r,s.l=(1,c)::r∧s.e=0:=by
 unfold PS.is at h
 cases hl:s.l with
 |nil=>rw[hl]at h;simp at h
 |cons t r=>
  rw[hl]at h
  simp only[Bool.and_eq_true,decide_eq_true_eq]at h
  obtain⟨t1,t2⟩:=t
  simp only at h
  exact⟨r,by rw[h.2.1,h.2.2],h.1⟩
theorem znr{s:PS}(h:s.named=true): ∃x r,s.l=(0,x)::r∧s.e=0:=by
 unfold PS.named at h
 cases hl:s.l with
 |nil=>rw[hl]at h;simp at h
 |cons t r=>
  rw[hl]at h
  simp only[Bool.and_eq_true,decide_eq_true_eq]at h
  obtain⟨t1,t2⟩:=t
  simp only at h
  exact⟨t2,r,by rw[h.2],h.1⟩
theorem zoF(n:Int)(s:PS):(s.fail n).l=s.l:=by unfold PS.fail;split<;>rfl
theorem zpB{n:Int}(hn:n≠0)(s:PS):(s.fail n).e≠0:=by unfold PS.fail;split<;>assumption
theorem zd7{s:PS}{c:Bytes}(h:s.is c=true): ∃r,s.l=(1,c)::r∧s.e=0∧s.take c=⟨r,s.s,0⟩:=by
 obtain⟨r,hl,he⟩:=zsj h
 refine⟨r,hl,he, ?_⟩
 unfold PS.take PS.token
 rw[h,hl,←he]
 rfl
theorem zth{s:PS}{c:Bytes}(h:s.is c=false):s.take c=s.fail 8:=by
 unfold PS.take PS.token
 rw[h]
 rfl
theorem ziC{s:PS}(h:s.named=true): ∃x r,s.l=(0,x)::r∧s.e=0∧s.name=(x,⟨r,s.s,0⟩):=by
 obtain⟨x,r,hl,he⟩:=znr h
 refine⟨x,r,hl,he, ?_⟩
 unfold PS.name PS.token
 rw[h,hl,←he]
 rfl
theorem zti{s:PS}(h:s.named=false):s.name=([],s.fail 8):=by
 unfold PS.name PS.token
 rw[h]
 rfl
theorem ZV(c:Bytes)(s:PS):Mono s (s.take c):=by
 cases h:s.is c with
 |true=>
  obtain⟨r,hl,he,ht⟩:=zd7 h
  rw[ht]
  exact⟨by rw[hl];exact List.suffix_cons _ _,rfl,fun h=>absurd he h⟩
 |false=>rw[zth h];exact zav 8 s
theorem Y7(s:PS):Mono s s.name.2:=by
 cases h:s.named with
 |true=>
  obtain⟨x,r,hl,he,ht⟩:=ziC h
  rw[ht]
  exact⟨by rw[hl];exact List.suffix_cons _ _,rfl,fun h=>absurd he h⟩
 |false=>rw[zti h];exact zav 8 s
theorem Ja(x:Bytes)(bs:List Bytes)(s:PS):Mono s (s.head x bs).2:=by
 unfold PS.head
 split
 ·exact .refl
 ·split
  ·exact zav 2 s
  ·exact .refl
theorem zgE(x:Bytes)(bs:List Bytes)(s:PS):(s.head x bs).1.args=[]:=by
 unfold PS.head
 split
 ·rfl
 ·split<;>rfl
theorem zaF(s:PS):Mono s s.alone:=by
 unfold PS.alone
 split
 ·exact zav 8 s
 ·exact .refl
section
variable{term:List Bytes→PS→T×PS}(ht: ∀bs s,Mono s (term bs s).2)
include ht
theorem zfh(bs:List Bytes)(s:PS):Mono s (s.inner term bs).2:=((ZV [40] s).trans (ht bs _)).trans (ZV [41] _)
theorem zgF(bs:List Bytes)(s:PS):Mono s (s.atom term bs).2:=by
 unfold PS.atom
 split
 ·exact zfh ht bs s
 ·dsimp only
  split
  ·exact(Y7 s).trans (zav 8 _)
  ·exact(Y7 s).trans (Ja _ _ _)
theorem zdZ(bs:List Bytes): ∀m s,Mono s (PS.args term bs m s).2
 |0,s=> .refl
 |m+1,s=>by
  unfold PS.args
  split
  ·exact(zgF ht bs s).trans (zdZ bs m _)
  ·exact .refl
theorem zoG(bs:List Bytes)(s:PS):Mono s (s.atoms term bs).2:=by
 unfold PS.atoms
 split
 ·exact(zfh ht bs s).trans (zaF _)
 ·dsimp only
  split
  ·exact Y7 s
  ·split
   ·exact(Y7 s).trans (zaF _)
   ·exact((Y7 s).trans (Ja _ _ _)).trans (zdZ ht bs _ _)
theorem zlD{bs:List Bytes}{s:PS}(h:(s.named||s.is [40])=true):(s.atom term bs).2.l.length<s.l.length:=by
 unfold PS.atom
 cases hi:s.is [40]with
 |true=>
  obtain⟨r,hl,he,htk⟩:=zd7 hi
  rw[if_pos rfl]
  unfold PS.inner
  rw[htk]
  have h1:=(ht bs ⟨r,s.s,0⟩).len
  have h2:=(ZV [41] (term bs ⟨r,s.s,0⟩).2).len
  rw[hl]
  simp only[List.length_cons]at*
  omega
 |false=>
  rw[hi,Bool.or_false]at h
  obtain⟨x,r,hl,he,hn⟩:=ziC h
  rw[if_neg (by simp),hn]
  dsimp only
  rw[hl]
  split
  ·rw[zoF];simp
  ·have:=(Ja x bs ⟨r,s.s,0⟩).len
   simp only[List.length_cons]at*
   omega
end
theorem Q5: ∀n bs s,Mono s (PS.term n bs s).2
 |0,bs,s=>zav 4 s
 |n+1,bs,s=>by
  have ih:=Q5 n
  unfold PS.term
  split
  ·exact(((((ZV _ s).trans (Y7 _)).trans (ZV _ _)).trans (ih _ _)).trans (ZV _ _)).trans (ih _ _)
  ·split
   ·exact(((ZV _ s).trans (Y7 _)).trans (ZV _ _)).trans (ih _ _)
   ·exact zoG ih bs s
section
open Go.AM
variable{term:List Bytes→PS→T×PS}(ht: ∀bs s,Mono s (term bs s).2)(hz: ∀bs s,(term bs s).1.size+2*(term bs s).2.l.length≤2*s.l.length+1)
include hz
theorem ziD{bs:List Bytes}{s:PS}(h:s.is [40]=true):(s.inner term bs).1.size+2*(s.inner term bs).2.l.length+1≤2*s.l.length:=by
 obtain⟨r,hl,he,htk⟩:=zd7 h
 unfold PS.inner
 rw[htk]
 have h1:=hz bs ⟨r,s.s,0⟩
 have h2:=(ZV [41] (term bs ⟨r,s.s,0⟩).2).len
 rw[hl]
 simp only[List.length_cons]at*
 omega
theorem zqK{bs:List Bytes}{s:PS}(h:(s.named||s.is [40])=true):(s.atom term bs).1.size+2*(s.atom term bs).2.l.length+1≤2*s.l.length:=by
 unfold PS.atom
 cases hi:s.is [40]with
 |true=>rw[if_pos rfl];exact ziD hz hi
 |false=>
  rw[hi,Bool.or_false]at h
  obtain⟨x,r,hl,he,hn⟩:=ziC h
  rw[if_neg (by simp),hn]
  dsimp only
  rw[hl]
  split
  ·rw[zoF];simp[T.size,sizes];omega
  ·have h1:=(Ja x bs ⟨r,s.s,0⟩).len
   have h2:=zgE x bs ⟨r,s.s,0⟩
   generalize(PS.head x bs ⟨r,s.s,0⟩)=q at*
   obtain⟨⟨k,h,zs⟩,q2⟩:=q
   simp only[T.args]at h2
   subst h2
   simp only[List.length_cons,T.size,sizes]at*
   omega
theorem ziE(bs:List Bytes): ∀m s,sizes (PS.args term bs m s).1+2*(PS.args term bs m s).2.l.length≤2*s.l.length
 |0,s=>by simp[PS.args,sizes]
 |m+1,s=>by
  unfold PS.args
  split
  ·rename_i h
   have h1:=zqK hz (bs:=bs) h
   have h2:=ziE bs m (s.atom term bs).2
   simp only[sizes]
   omega
  ·simp[sizes]
theorem zoH(bs:List Bytes)(s:PS):(s.atoms term bs).1.size+2*(s.atoms term bs).2.l.length≤2*s.l.length+1:=by
 unfold PS.atoms
 split
 ·rename_i h
  have h1:=ziD hz (bs:=bs) h
  have h2:=(zaF (s.inner term bs).2).len
  dsimp only
  omega
 ·dsimp only
  have h1:=(Y7 s).len
  split
  ·simp[T.size,sizes];omega
  ·split
   ·have h2:=(zaF s.name.2).len
    simp[T.size,sizes];omega
   ·have h2:=(Ja s.name.1 bs s.name.2).len
    have h3:=ziE hz bs (PS.head s.name.1 bs s.name.2).2.l.length (PS.head s.name.1 bs s.name.2).2
    simp only[T.size];omega
end
theorem zks: ∀n bs s,(PS.term n bs s).1.size+2*(PS.term n bs s).2.l.length≤2*s.l.length+1
 |0,bs,s=>by simp only[PS.term,zoF];simp[T.size,T.size,Go.AM.sizes];omega
 |n+1,bs,s=>by
  have ih:=zks n
  unfold PS.term
  split
  ·rename_i h
   obtain⟨r,hl,he,htk⟩:=zd7 h
   dsimp only
   have h1:=(Y7 (s.take [123])).len
   have h2:=(ZV [58] (s.take [123]).name.2).len
   have h3:=ih bs ((s.take [123]).name.2.take [58])
   have h4:=(ZV [125] (PS.term n bs ((s.take [123]).name.2.take [58])).2).len
   have h5:=ih ((s.take [123]).name.1::bs) ((PS.term n bs ((s.take [123]).name.2.take [58])).2.take [125])
   have h6:(s.take [123]).l.length+1=s.l.length:=by rw[htk,hl];rfl
   simp only[T.size,Go.AM.sizes]
   omega
  ·split
   ·rename_i h
    obtain⟨r,hl,he,htk⟩:=zd7 h
    dsimp only
    have h1:=(Y7 (s.take [91])).len
    have h2:=(ZV [93] (s.take [91]).name.2).len
    have h5:=ih ((s.take [91]).name.1::bs) ((s.take [91]).name.2.take [93])
    have h6:(s.take [91]).l.length+1=s.l.length:=by rw[htk,hl];rfl
    simp only[T.size,Go.AM.sizes]
    omega
   ·exact zoH ih bs s
theorem zkt{s:PS}:(s.fail 8).e≠0:=zpB (by decide) s
end Go.Ama
namespace Go.Proofs.SZ
open Go Go.AM Go.Ama
def zsk(n:Nat):Prop:= ∀(m:AM.Mode) (s:PS) (bs:List Bytes),bs.length+n≤1000→s.l.length≤100000→s.s.length≤1000→
 W.call 67 [.ref 0 0, .vec .plain none (zal bs.reverse), .int (121-(n:Nat))] [YM m s]=some (.ret (enc (s.term n bs).1),[YM m (s.term n bs).2])
section
variable{n:Nat}(hn:n≤119)(ht:zsk n)
include hn ht
theorem ziF(m:AM.Mode)(s:PS)(bs:List Bytes)(hb:bs.length+n≤1000)(hl:s.l.length≤100000)(hs:s.s.length≤1000):
  W.call 108 [.ref 0 0, .vec .plain none (zal bs.reverse), .int (120-(n:Nat))] [YM m s]=some (.ret (enc (s.inner (PS.term n) bs).1),[YM m (s.inner (PS.term n) bs).2]):=by
 have hm:=ZV [40] s
 have hw:IntKind.i64.wrap (120-(n:Nat)+1)=121-(n:Nat):=by rw[Z5 ⟨by omega,by omega⟩];omega
 rw[C,zd6,show V.str {data:= #[40]}=V.str (ba [40])from rfl,show V.str {data:= #[41]}=V.str (ba [41])from rfl,
  JE,Zb,Zm,Yo,ZW,hw,ht m (s.take [40]) bs hb (by have:=hm.len;omega) (by rw[hm.sig];exact hs),Zb,Zm,ZA,JE,Zb,Zm,Yo,ZW,←Zd]
 rfl
theorem zpC(x:Bytes):((ba x).toList==ByteArray.toList {data:= #[116,121,112,101]})=decide (x=typ):=zi0 x typ
theorem zns{s:PS}{x:Bytes}{bs:List Bytes}:Zo (zub (s.head x bs).1)=enc (s.head x bs).1:=by
 have h:=zgE x bs s
 generalize(s.head x bs).1=t at*
 obtain⟨k,h',zs⟩:=t
 simp only[T.args]at h
 subst h
 rfl
theorem zqL(m:AM.Mode)(s:PS)(bs:List Bytes)(hb:bs.length+n≤1000)(hl:s.l.length≤100000)(hs:s.s.length≤1000):
  W.call 110 [.ref 0 0, .vec .plain none (zal bs.reverse), .int (120-(n:Nat))] [YM m s]=some (.ret (enc (s.atom (PS.term n) bs).1),[YM m (s.atom (PS.term n) bs).2]):=by
 have hm:=Y7 s
 unfold PS.atom
 rw[C,zej,show V.str {data:= #[40]}=V.str (ba [40])from rfl,zaX,Zb,Zm,Zw]
 cases hi:s.is [40]with
 |true=>
  rw[Zs,ziF hn ht m s bs hb hl hs,Zb,Zm,ZA,←Zd]
  rfl
 |false=>
  rw[Zl,zcp,Zb,Zm,XZ,zpC hn ht]
  by_cases hx:s.name.1=typ
  ·simp only[hx,decide_true,Zs,QN]
   rfl
  ·simp only[hx,decide_false,Zl]
   rw[zkr m s.name.2 s.name.1 bs (by omega) (by rw[hm.sig];omega),Zb,Zm,zns hn ht,ZA,←Zd]
   simp only[Bool.false_eq_true,if_false]
   rfl
theorem zqM(m:AM.Mode)(bs:List Bytes)(hb:bs.length+n≤1000)(k h:Int)(v6:V): ∀(q:Nat) (s:PS) (xs:List T),s.l.length≤q→s.l.length+xs.length≤100000→s.s.length≤1000→
  W.loop 87 9 [.loc true (some 3) (.agg [.int k, .int h, .vec .grow (some 3) (Zi xs)]), .int (120-(n:Nat)), .vec .plain none (zal bs.reverse), .ref 0 0, .loc true (some 3) v6] [YM m s]=
   some (Ex.exit 1,[.loc true (some 3) v6, .loc true (some 3) (.agg [.int k, .int h, .vec .grow (some 3) (Zi (xs++(PS.args (PS.term n) bs q s).1))])],[YM m (PS.args (PS.term n) bs q s).2]):=by
 intro q
 induction q with
 |zero=>
  intro s xs hq hl hs
  have hnil:s.l=[]:=List.eq_nil_of_length_eq_zero (by omega)
  have h1:s.named=false:=by simp[PS.named,hnil]
  have h2:s.is [40]=false:=by simp[PS.is,hnil]
  rw[L,QZ,zaY,Zb,Zm,Zw,h1,Zl,show V.str {data:= #[40]}=V.str (ba [40])from rfl,zaX,Zb,Zm,Zw,h2,Zl]
  simp[PS.args]
 |succ q ih=>
  intro s xs hq hl hs
  have hr:roomFor Tryz.prog 25 (xs.length+1)=true:=zcn (by omega)
  have go:(s.named||s.is [40])=true→Za (W.call 110 [V.ref 0 0,V.vec .plain none (zal bs.reverse),V.int (120-(n:Nat))] [YM m s])
    (fun r4=>Zk r4.fst (fun v5=>Zc [CT.int,CT.int,CT.slice (some 3)] v5 fun n6 n7 l8=>gd (true&&roomFor Tryz.prog 25 ((Zi xs).length+[V.agg [V.int n6,V.int n7,V.vec .plain (some 3) l8]].length))
     (W.loop 87 9 [V.loc true (some 3) (V.agg [V.int k,V.int h,V.vec Mode.grow (some 3) (Zi xs++[V.agg [V.int n6,V.int n7,V.vec .plain (some 3) l8]])]),V.int (120-(n:Nat)),V.vec .plain none (zal bs.reverse),V.ref 0 0,V.loc true (some 3) v6] r4.snd)) fun p9=>none)=
    some (Ex.exit 1,[.loc true (some 3) v6, .loc true (some 3) (.agg [.int k, .int h, .vec .grow (some 3) (Zi (xs++(PS.args (PS.term n) bs (q+1) s).1))])],[YM m (PS.args (PS.term n) bs (q+1) s).2]):=by
   intro hc
   have hm:=zgF (Q5 n) bs s
   have hlt:=zlD (Q5 n) (bs:=bs) hc
   rw[zqL hn ht m s bs hb (by omega) hs,Zb,Zm,ZA,←Zd]
   simp only[Zv,List.length_singleton,hr,Bool.and_self,Z9]
   have:=ih (s.atom (PS.term n) bs).2 (xs++[(s.atom (PS.term n) bs).1]) (by omega) (by simp;omega) (by rw[hm.sig];exact hs)
   rw[zde,show Zi [(s.atom (PS.term n) bs).1]=[enc (s.atom (PS.term n) bs).1]from rfl]at this
   rw[this]
   unfold PS.args
   rw[if_pos hc]
   simp only[List.append_assoc,List.singleton_append]
   cases q<;>rfl
  rw[L,QZ,zaY,Zb,Zm,Zw]
  cases h1:s.named with
  |true=>rw[Zs];exact go (by simp[h1])
  |false=>
   rw[Zl,show V.str {data:= #[40]}=V.str (ba [40])from rfl,zaX,Zb,Zm,Zw]
   cases h2:s.is [40]with
   |true=>rw[Zs];exact go (by simp[h2])
   |false=>
    rw[Zl]
    simp[PS.args,h1,h2]
theorem zoI(m:AM.Mode)(s:PS)(bs:List Bytes)(hb:bs.length+n≤1000)(hl:s.l.length≤100000)(hs:s.s.length≤1000):
  W.call 87 [.ref 0 0, .vec .plain none (zal bs.reverse), .int (120-(n:Nat))] [YM m s]=some (.ret (enc (s.atoms (PS.term n) bs).1),[YM m (s.atoms (PS.term n) bs).2]):=by
 have hm:=Y7 s
 unfold PS.atoms
 rw[C,zd4,show V.str {data:= #[40]}=V.str (ba [40])from rfl,zaX,Zb,Zm,Zw]
 cases hi:s.is [40]with
 |true=>
  rw[Zs,ziF hn ht m s bs hb hl hs,Zb,Zm,ZA,←Zd,ziA,Zb,Zm,ZA,←Zd]
  rfl
 |false=>
  have hget: ∀{R:Type} (K:Res→Option R) (s:PS),Z6 [YM m s] 0 K=K (YM m s):=fun K s=>rfl
  have h3g: ∀{R:Type} (a b c:V) (X:Option R),gd (decide (3≤ [a,b,c].length)&&true) X=X:=fun a b c X=>rfl
  have hc: ∀(s:PS),Zo (AM.partOf [V.vec .plain (some 2) (Zx s.l),V.vec m (some 4) (Z2 s.s),V.int s.e] 2 none)= .int s.e:=fun s=>rfl
  rw[Zl,zcp,Zb,Zm,XZ,hget,YM,JA,←YM,h3g,hc,Yd,zpC hn ht,zp4]
  by_cases he:s.name.2.e=0
  ·by_cases hx:s.name.1=typ
   ·simp only[he,hx,decide_true,Bool.not_true,Zl,Zs,ne_eq,not_true_eq_false,if_true,if_false,Bool.false_eq_true]
    rw[show V.agg [V.int 0,V.int 0,V.vec .plain (some 3) []]=enc T0 from rfl,ziA,Zb,Zm,ZA,←Zd]
    rfl
   ·simp only[he,hx,decide_true,decide_false,Bool.not_true,Zl,ne_eq,not_true_eq_false,if_false,Bool.false_eq_true]
    have hh:=Ja s.name.1 bs s.name.2
    have ha:=zgE s.name.1 bs s.name.2
    rw[zkr m s.name.2 s.name.1 bs (by omega) (by rw[hm.sig];omega),Zb,Zm]
    have hon: ∀{R:Type} (t:T) (K:Int→Int→Option R),Zc (R:=R) [CT.int,CT.int,CT.nil (some 3)] (zub t) K=K t.k t.h:=fun t K=>rfl
    rw[hon]
    have hlp:=zqM hn ht m bs hb (s.name.2.head s.name.1 bs).1.k (s.name.2.head s.name.1 bs).1.h (V.agg [V.int 0,V.int 0,V.vec Mode.full (some 3) []]) (s.name.2.head s.name.1 bs).2.l.length (s.name.2.head s.name.1 bs).2 [] (Nat.le_refl _)
     (by have h1:=hm.len;have h2:=hh.len;simp only[List.length_nil];omega) (by rw[hh.sig,hm.sig];exact hs)
    rw[show Zi []=([]:List V)from rfl,List.nil_append]at hlp
    rw[hlp,Zb,zb7]
    rfl
  ·simp only[he,decide_false,Bool.not_false,Zs,ne_eq,not_false_eq_true,if_true,if_false,Bool.false_eq_true]
   rfl
theorem ziG(m:AM.Mode)(s:PS)(x:Bytes)(bs:List Bytes)(hb:bs.length+1+n≤1000)(hl:s.l.length≤100000)(hs:s.s.length≤1000):
  W.call 86 [.ref 0 0, .str (ba x), .vec .plain none (zal bs.reverse), .int (120-(n:Nat))] [YM m s]=some (.ret (enc (s.term n (x::bs)).1),[YM m (s.term n (x::bs)).2]):=by
 have hw:IntKind.i64.wrap (120-(n:Nat)+1)=121-(n:Nat):=by rw[Z5 ⟨by omega,by omega⟩];omega
 have hr:roomFor Tryz.prog 9 (bs.length+1)=true:=znp (by omega)
 have h1: ∀z:Int,decide (z=z)=true:=fun z=>by simp
 have h2: ∀z:Int,decide (z≤z)=true:=fun z=>by simp
 have h3: ∀z:Nat,decide ((0:Int)≤(z:Nat))=true:=fun z=>by simp
 have:=ht m s (x::bs) (by simpa using hb) hl hs
 rw[List.reverse_cons,znn,show zal [x]=[V.str (ba x)]from rfl]at this
 rw[C,zd3]
 have h4:List.take bs.length (zal bs.reverse)=zal bs.reverse:=List.take_of_length_le (by simp)
 simp only[h1,h2,h3,h4,decide_true,Option.isSome_some,Int.toNat_natCast,List.drop_zero,zdw,List.length_reverse,List.length_singleton,hr,Bool.and_self,Z9,hw]
 rw[this,Zb,Zm,ZA,←Zd]
 rfl
end
theorem zpD: ∀n:Nat,n≤120→zsk n
 |0,_=>fun m s bs _ _ _=>by
  rw[C,JZ]
  rw[show decide ((121:Int)-((0:Nat):Int)>120)=true from rfl,Zs,QN,Zb]
  rfl
 |n+1,hn=>fun m s bs hb hl hs=>by
  have ih:=zpD n (by omega)
  have hd:((121:Int)-((n+1:Nat):Int))=120-(n:Nat):=by omega
  have hgt:decide ((120:Int)-(n:Nat)>120)=false:=by simp;omega
  have hw:IntKind.i64.wrap (120-(n:Nat)+1)=121-(n:Nat):=by rw[Z5 ⟨by omega,by omega⟩];omega
  unfold PS.term
  rw[hd,C,JZ,hgt,Zl,show V.str {data:= #[123]}=V.str (ba [123])from rfl,show V.str {data:= #[58]}=V.str (ba [58])from rfl,show V.str {data:= #[125]}=V.str (ba [125])from rfl,
   show V.str {data:= #[91]}=V.str (ba [91])from rfl,show V.str {data:= #[93]}=V.str (ba [93])from rfl,zaX,Zb,Zm,Zw]
  cases h1:s.is [123]with
  |true=>
   have m1:=(ZV [123] s).trans (Y7 _)
   have m2:=m1.trans (ZV [58] _)
   have m3:=m2.trans (Q5 n bs _)
   have m4:=m3.trans (ZV [125] _)
   rw[Zs,JE,Zb,Zm,Yo,ZW,zcp,Zb,Zm,XZ,JE,Zb,Zm,Yo,ZW,hw,
    ih m _ bs (by omega) (by have:=m2.len;omega) (by rw[m2.sig];exact hs),Zb,Zm,ZA,JE,Zb,Zm,Yo,ZW,
    ziG (by omega) ih m _ _ bs (by omega) (by have:=m4.len;omega) (by rw[m4.sig];exact hs),Zb,Zm,ZA,←Zd,←Zd]
   rfl
  |false=>
   rw[Zl,zaX,Zb,Zm,Zw]
   cases h2:s.is [91]with
   |true=>
    have m1:=(ZV [91] s).trans (Y7 _)
    have m2:=m1.trans (ZV [93] _)
    rw[Zs,JE,Zb,Zm,Yo,ZW,zcp,Zb,Zm,XZ,JE,Zb,Zm,Yo,ZW,
     ziG (by omega) ih m _ _ bs (by omega) (by have:=m2.len;omega) (by rw[m2.sig];exact hs),Zb,Zm,ZA,←Zd]
    rfl
   |false=>
    rw[Zl,zoI (by omega) ih m s bs (by omega) hl hs,Zb,Zm,ZA,←Zd]
    rfl
end Go.Proofs.SZ
namespace Go.Proofs.SZ
open Go Go.AM Go.Ama
theorem zoJ(m:AM.Mode)(s:PS)(hl:s.l.length≤100000)(hs:s.s.length≤1000):
  W.call 28 [.ref 0 0] [YM m s]=some (.ret (enc s.whole.1),[YM m s.whole.2]):=by
 have hz:=zks 120 [] s
 have ht:=zpD 120 (Nat.le_refl _) m s [] (by simp) hl hs
 rw[show zal ([]:List Bytes).reverse=[]from rfl,show((121:Int)-((120:Nat):Int))=1 from rfl]at ht
 unfold PS.whole
 rw[C,zd0,ht,Zb,Zm,ZA,←Zd,(Qb _ (by omega)).p,Zb,Zw]
 dsimp only
 cases hmy:may (PS.term 120 [] s).1 with
 |true=>rfl
 |false=>
  rw[Bool.not_false,Zs,QN,Zb,Zm,Yo,ZW]
  rfl
theorem zsl(x:Bytes)(k:Int)(y:Bytes):(k==0&&(ba y).toList==(ba x).toList)=decide ((k,y)=((0:Int),x)):=by
 rw[zi0,Yh]
 by_cases h1:k=0<;>by_cases h2:y=x<;>simp[h1,h2]
theorem zuJ(x:Bytes)(h:0<x.length):(((ba x).data.toList.getD (Int.toNat 0) 0).toNat:Int)=(x[0].toNat:Int):=by
 rw[Int.toNat_zero,ztV h]
theorem zqN(x:Bytes)(hx:x.length≤1048576):Ev 23 [.str (ba x)] (.bool (nameOK x)):=by
 unfold Ev nameOK
 rw[C,zlA,Xf]
 by_cases h0:x.length=0
 ·have:((x.length:Int)==0)=true:=by simp[h0]
  rw[this,Zs];simp[h0]
 ·have h0':((x.length:Int)==0)=false:=by simp[h0]
  rw[h0',Zl]
  by_cases h40:x.length≤40
  ·have h40':decide ((x.length:Int)>40)=false:=by simp;omega
   have hp:decide ((0:Int)<(x.length:Int))=true:=by simp;omega
   rw[h40',Zl,hp,Bool.true_and,Z9,zuJ x (by omega),Yh]
   have hh:x.head? =some x[0]:=by rw[List.head?_eq_getElem?,List.getElem?_eq_getElem (by omega)]
   by_cases h95:x[0]=95
   ·have:decide ((x[0].toNat:Int)=95)=true:=by rw[h95];rfl
    rw[this,Zs];simp[hh,h95]
   ·have:decide ((x[0].toNat:Int)=95)=false:=by
     simp only[decide_eq_false_iff_not]
     intro h
     apply h95
     apply UInt8.toNat_inj.1
     have:(95:UInt8).toNat=95:=rfl
     omega
    rw[this,Zl,show ByteArray.toList {data:= #[116,121,112,101]}=(ba typ).toList from rfl,zi0]
    by_cases ht:x=typ
    ·simp only[ht,decide_true,Zs];simp
    ·have hr:zeZ x=match Xq x with|some l=>(some l,0)|none=>(none,8):=by unfold zeZ;rw[if_neg (by omega)]<;>cases Xq x<;>rfl
     have hne:decide (x.head? ≠some 95)=true:=by rw[hh];simp[h95]
     have hts:=zhv x hx
     rw[hr]at hts
     simp only[ht,decide_false,Zl,zgA,h0,h40,hne,ne_eq,not_false_eq_true,decide_true,Bool.true_and,Bool.not_false]
     cases htk:Xq x with
     |none=>
      rw[htk]at hts
      rw[hts.p (by simp[Zh,below,YL]) (by simp[zdk,below,Zh,Qa])]
      simp[zdk,bc]
     |some l=>
      rw[htk]at hts
      rw[hts.p (by simp[Zh,below,YL]) (by simp[zdk,below,Zh,Qa])]
      simp only[zdk,Option.getD_some,Zb,Yo,YS,YG,Yd,ZW,beq_self_eq_true,Zs,Xn]
      match l with
      |[]=>simp[bc]
      |[t]=>
       obtain⟨k,y⟩:=t
       rw[zdY,zcm,zsl]
       simp[bc]
      |t::u::l=>
       have:(((t::u::l:List Tok).length:Int)==1)=false:=by simp;omega
       rw[this,Zl];simp
  ·have h40':decide ((x.length:Int)>40)=true:=by simp;omega
   rw[h40',Zs];simp[h40]
end Go.Proofs.SZ
namespace Go.Proofs.SZ
open Go Go.AM Go.Ama
theorem zsm{n:Nat}(h:n≤1000000000000):roomFor Tryz.prog 5 n=true:=by
 have:((Tryz.prog.info? 5).map (·.bytes)).getD 0=1:=by kernel_rfl
 unfold roomFor
 rw[this]
 simp only[Bool.and_eq_true,decide_eq_true_eq]
 omega
theorem zku{sig:List D}(hs: ∀d∈sig,d.name.length≤100)(t:T):(Jr t sig).1.length≤480000:=by
 unfold Jr
 split
 ·rename_i hm
  unfold may at hm
  simp only[Bool.and_eq_true,decide_eq_true_eq]at hm
  split
  ·have h1:=zau (sig:=sig) t 0
   have h2:=zfR hs t 0 hm.1 (by omega)
   have h3:=zc2 (words sig t 0) 1
   show(text (words sig t 0)).length≤_
   unfold text
   omega
  ·simp
 ·simp
theorem zeB{sig:List D}(hsig:sig.length≤1000)(hs: ∀d∈sig,d.name.length≤100)(t:T)(ht:t.size≤1099511627776):
  Ev 11 [enc t, .vec .plain (some 4) (Z2 sig)] (.tup [.vec .plain none (X6 (Jr t sig).1), .int (Jr t sig).2]):=by
 unfold Ev
 have hmay:=(Qb t ht).p
 rw[Zd]at hmay
 rw[C,Zd,zmX,hmay,Zb,Zw]
 unfold Jr
 cases hm:may t with
 |false=>rfl
 |true=>
  have hm':=hm
  unfold may at hm'
  simp only[Bool.and_eq_true,decide_eq_true_eq]at hm'
  obtain⟨m',hG,hw⟩:=zoD hsig t 0 .full [] 0 (.inr rfl) hm'.1 (by omega) (by simp;omega)
  rw[Zd]at hw
  have hw':W.call 25 [V.ref 0 0,V.agg [V.int t.k,V.int t.h,V.vec .plain (some 3) (Zi t.args)],V.int 0] [Res.box [V.vec .plain (some 4) (Z2 sig),V.vec Mode.full (some 2) [],V.int 0]]=_:=hw
  simp only[Bool.not_true,Zl,if_true]
  rw[hw',Zb,List.nil_append]
  simp only[Zm,Yo,ZW]
  have e1: ∀{α:Type} (ok:Int) (K:List V→Option α),Z6 [YU m' sig (words sig t 0) ok] 0 (fun x=>Z3 x K)=K [.vec .plain (some 4) (Z2 sig), .vec m' (some 2) (Zx (words sig t 0)), .int ok]:=fun ok K=>rfl
  simp only[e1]
  cases ho:okW sig t 0 with
  |false=>rfl
  |true=>
   have h1:=zau (sig:=sig) t 0
   have h2:=zfR hs t 0 hm'.1 (by omega)
   have htx:=(zqC (words sig t 0) (by omega)).p (by simp[Zh,below,Qa]) (by simp[below,YL])
   have e2: ∀{α:Type} (K:List V→Option α),ZS (some 2) (Zo (AM.partOf [.vec .plain (some 4) (Z2 sig), .vec m' (some 2) (Zx (words sig t 0)), .int (bif true then(0:Int)else 2)] 1 none)) K=K (Zx (words sig t 0)):=by
    intro α K
    rcases hG with rfl|rfl<;>rfl
   simp only[e2,htx,Zb,YG]
   have hb:below 0 (V.tup [V.vec .plain none (X6 (text (words sig t 0))),V.int 0])=true:=by simp[below,Zh,YL]
   rw[hb]
   rfl
theorem zuc(a b:Bytes):(ba a==ba b)=decide (a=b):=by
 by_cases h:a=b
 ·subst h;rw[decide_eq_true rfl];show ByteArray.beq _ _=true;simp[ByteArray.beq]
 ·rw[decide_eq_false h]
  cases hb:ba a==ba b with
  |false=>rfl
  |true=>exact absurd (ztU.1 (zkV hb)) h
theorem ziH(a b:Bytes):zcD (.str (ba a)) (.str (ba b))=decide (a=b):=zuc a b
theorem znt(a b:Bytes)(v d:V): ∀es:List (V×V),Xe (Qj es (.str (ba a)) v) (.str (ba b)) d=if a=b then v else Xe es (.str (ba b)) d
 |[]=>by
  simp only[Qj,Xe,ziH]
  by_cases h:a=b
  ·simp[h]
  ·have hb:b≠a:=fun e=>h e.symm
   simp[h,hb]
 |(k,u)::r=>by
  simp only[Qj]
  cases hk:zcD (.str (ba a)) k with
  |true=>
   simp only[cond_true,Xe,ziH]
   by_cases h:a=b
   ·simp[h]
   ·have hb:b≠a:=fun e=>h e.symm
    cases k<;>try (cases hk;done)
    rename_i s
    have hs:ba a=s:=zkV hk
    subst hs
    simp[h,hb,ziH]
  |false=>
   simp only[cond_false,Xe,znt a b v d r]
   cases hk2:zcD (.str (ba b)) k with
   |true=>
    have h:a≠b:=by rintro rfl;rw[hk]at hk2;cases hk2
    simp[h]
   |false=>simp
def Cnt(es:List (V×V))(l:List D):Prop:= ∀x,Xe es (.str (ba x)) (.int 0)= .int (zc7 x l:Nat)
theorem zqO(x:Bytes)(l:List D)(d:D):zc7 x (l++[d])=zc7 x l+(if d.name=x then 1 else 0):=by
 unfold zc7
 rw[List.filter_append,List.length_append]
 by_cases h:d.name=x<;>simp[h]
theorem zpE(x:Bytes)(l:List D):zc7 x l≤l.length:=List.length_filter_le ..
theorem zoK(l:List D)(hl:l.length≤1000): ∀j k es,k+j=l.length→Cnt es (l.take k)→
  ∃es',Cnt es' l∧W.loop 10 3 [.int (k:Nat), .mp 0, .vec .plain (some 4) (Z2 l), .vec .plain (some 4) (Z2 l), .int (l.length:Nat)] [.map .str .int es]=
   some (.exit 0,[.vec .plain (some 4) (Z2 l), .mp 0],[.map .str .int es']):=by
 intro j
 induction j with
 |zero=>
  intro k es hk hc
  have hkl:k=l.length:=by omega
  subst hkl
  rw[List.take_length]at hc
  have hlt:decide (((l.length:Nat):Int)<l.length)=false:=by simp
  refine⟨es,hc, ?_⟩
  rw[L,zc3,hlt]
  rfl
 |succ j ih=>
  intro k es hk hc
  have hkl:k<l.length:=by omega
  have hlt:decide (((k:Nat):Int)<l.length)=true:=by simp;omega
  have hlt2:(decide ((0:Int)≤(k:Nat))&&decide (((k:Nat):Int)<((Z2 l).length:Int)))=true:=by rw[ZX,hlt];simp
  have hw:IntKind.i64.wrap ((k:Nat)+1:Int)=((k+1:Nat):Int):=zck (by omega) (by omega)
  have hmn:=zpE (l[k]).name (l.take k)
  rw[List.length_take]at hmn
  have hw2:IntKind.i64.wrap (((zc7 (l[k]).name (l.take k):Nat):Int)+1)=((zc7 (l[k]).name (l.take k)+1:Nat):Int):=zck (by omega) (by omega)
  have hc':Cnt (Qj es (.str (ba (l[k]).name)) (.int ((zc7 (l[k]).name (l.take k)+1:Nat):Int))) (l.take (k+1)):=by
   intro x
   rw[znt,List.take_succ_eq_append_getElem hkl,zqO,hc x]
   by_cases h:(l[k]).name=x
   ·subst h;simp
   ·simp[h]
  obtain⟨es',h1,h2⟩:=ih (k+1) _ (by omega) hc'
  refine⟨es',h1, ?_⟩
  rw[←h2,L,zc3,hlt,Zs,hlt2,Z9,XR hkl,zbp,hc,Yd,hw,hw2]
theorem znu(sig:List D)(hl:sig.length≤1000)(hs: ∀d∈sig,d.name.length≤100∧d.t.size≤1099511627776)(es:List (V×V))(hc:Cnt es sig): ∀j k (all:Bytes),k+j=sig.length→all.length≤k*500000→
  W.loop 10 9 [.int (k:Nat), .vec .grow none (X6 all), .vec .plain (some 4) (Z2 sig), .mp 0, .vec .plain (some 4) (Z2 sig), .int (sig.length:Nat)] [.map .str .int es]=
   some (if(XF sig all (sig.drop k)).2=0 then(.exit 2,[.vec .grow none (X6 (XF sig all (sig.drop k)).1)],[.map .str .int es])else(.ret,[.vec .plain none (X6 (XF sig all (sig.drop k)).1), .int (XF sig all (sig.drop k)).2],[.map .str .int es])):=by
 intro j
 induction j with
 |zero=>
  intro k all hk ha
  have hkl:k=sig.length:=by omega
  subst hkl
  have hlt:decide (((sig.length:Nat):Int)<sig.length)=false:=by simp
  rw[L,zc4,hlt,List.drop_length]
  rfl
 |succ j ih=>
  intro k all hk ha
  have hkl:k<sig.length:=by omega
  have hlt:decide (((k:Nat):Int)<sig.length)=true:=by simp;omega
  have hlt2:(decide ((0:Int)≤(k:Nat))&&decide (((k:Nat):Int)<((Z2 sig).length:Int)))=true:=by rw[ZX,hlt];simp
  have hw:IntKind.i64.wrap ((k:Nat)+1:Int)=((k+1:Nat):Int):=zck (by omega) (by omega)
  have hdr:sig.drop k=sig[k]::sig.drop (k+1):=List.drop_eq_getElem_cons hkl
  obtain⟨hs1,hs2⟩:=hs sig[k] (List.getElem_mem hkl)
  have hN:=(zqN (sig[k]).name (by omega)).p
  have hT:=(zeB hl (fun d hd=>(hs d hd).1) (sig[k]).t hs2).p (by rw[Zh,Q4];simp[Zh,below,ZD]) (by simp[below,Zh,YL])
  rw[Zd]at hT
  have hTl:=zku (sig:=sig) (fun d hd=>(hs d hd).1) (sig[k]).t
  have hmn:=zpE (sig[k]).name sig
  rw[L,zc4,hlt,Zs,hlt2,Z9,XR hkl,zbp,hN,Zb,Zw,hdr]
  simp only[XF]
  by_cases hn:nameOK (sig[k]).name=true
  case neg=>
   have hn:nameOK (sig[k]).name=false:=by simpa using hn
   simp only[hn,Bool.not_false,Zs,Bool.false_and,Bool.false_eq_true,if_false]
   rfl
  case pos=>
   simp only[hn,Bool.not_true,Zl,Bool.true_and]
   rw[hc,Yd]
   by_cases hmany:zc7 (sig[k]).name sig≤1
   ·have hg:decide (((zc7 (sig[k]).name sig:Nat):Int)>1)=false:=decide_eq_false (by omega)
    rw[hg,Zl,hT]
    simp only[hmany,decide_true,if_true,Zb,Yo,YS,YG,Yd,ZW]
    by_cases h0:(Jr (sig[k]).t sig).2=0
    ·have hbs:(({data:= #[32,58,32]}:ByteArray))=ba [32,58,32]:=rfl
     have hbt:(({data:= #[46,10]}:ByteArray))=ba [46,10]:=rfl
     have hne:((Jr (sig[k]).t sig).2 !=0)=false:=by rw[h0];rfl
     simp only[hne,Zl,zkk,Z9,hbs,hbt,zkj,zki,Xf,zgA,zaW,List.length_append,List.length_cons,List.length_nil]
     rw[zsm (by omega)]
     have g1:decide ((sig[k]).name.length+3≤9223372036854775807)=true:=decide_eq_true (by omega)
     have g2:decide ((sig[k]).name.length+(0+1+1+1)+(Jr (sig[k]).t sig).1.length≤9223372036854775807)=true:=decide_eq_true (by omega)
     have g3:decide ((sig[k]).name.length+(0+1+1+1)+(Jr (sig[k]).t sig).1.length+2≤9223372036854775807)=true:=decide_eq_true (by omega)
     simp only[g1,g2,g3,Z9,Bool.and_self]
     rw[if_pos h0]
     have he:X6 all++X6 ((sig[k]).name++[32,58,32]++(Jr (sig[k]).t sig).1++[46,10])=X6 (all++ztY (sig[k]).name (Jr (sig[k]).t sig).1):=by rw[←zdj];rfl
     rw[he,hw]
     exact ih (k+1) _ (by omega) (by simp only[ztY,List.length_append,List.length_cons,List.length_nil];omega)
    ·have hne:((Jr (sig[k]).t sig).2 !=0)=true:=by simpa using h0
     rw[hne,Zs]
     simp only[h0,if_false]
     rfl
   ·have hg:decide (((zc7 (sig[k]).name sig:Nat):Int)>1)=true:=decide_eq_true (by omega)
    rw[hg,Zs]
    simp only[hmany,decide_false]
    rfl
theorem ziI(sig:List D)(hl:sig.length≤1000)(hs: ∀d∈sig,d.name.length≤100∧d.t.size≤1099511627776):
  Ev 10 [.vec .plain (some 4) (Z2 sig)] (.tup [.vec .plain none (X6 (zdv sig).1), .int (zdv sig).2]):=by
 unfold Ev
 obtain⟨es,hc,h1⟩:=zoK sig hl sig.length 0 [] (by omega) (by intro x;simp[Xe,zc7])
 have h2:=znu sig hl hs es hc sig.length 0 [] (by omega) (by simp)
 have h1':W.loop 10 3 [V.int 0,V.mp 0,V.vec .plain (some 4) (Z2 sig),V.vec .plain (some 4) (Z2 sig),V.int ((Z2 sig).length:Nat)] [Res.map CT.str CT.int []]=some (.exit 0,[.vec .plain (some 4) (Z2 sig), .mp 0],[.map .str .int es]):=by rw[ZX];exact h1
 have h2':W.loop 10 9 [V.int 0,V.vec Mode.grow none [],V.vec .plain (some 4) (Z2 sig),V.mp 0,V.vec .plain (some 4) (Z2 sig),V.int ((Z2 sig).length:Nat)] [.map .str .int es]=some (if(XF sig [] sig).2=0 then(.exit 2,[.vec .grow none (X6 (XF sig [] sig).1)],[.map .str .int es])else(.ret,[.vec .plain none (X6 (XF sig [] sig).1), .int (XF sig [] sig).2],[.map .str .int es])):=by rw[ZX];exact h2
 rw[C,zl4,h1',Zb]
 show Za (W.loop 10 9 [V.int 0,V.vec Mode.grow none [],V.vec .plain (some 4) (Z2 sig),V.mp 0,V.vec .plain (some 4) (Z2 sig),V.int ((Z2 sig).length:Nat)] [.map .str .int es]) _=_
 rw[h2',Zb]
 unfold zdv
 by_cases h0:(XF sig [] sig).2=0
 ·rw[if_pos h0,h0]
  have hb:below 0 (V.tup [V.vec .plain none (X6 (XF sig [] sig).1),V.int 0])=true:=by simp[below,Zh,YL]
  show gd (below 0 (V.tup [V.vec .plain none (X6 (XF sig [] sig).1),V.int 0])&&Zu 0 []) _=_
  rw[hb]
  rfl
 ·rw[if_neg h0]
  have hb:below 0 (V.tup [V.vec .plain none (X6 (XF sig [] sig).1),V.int (XF sig [] sig).2])=true:=by simp[below,Zh,YL]
  show gd (below 0 (V.tup [V.vec .plain none (X6 (XF sig [] sig).1),V.int (XF sig [] sig).2])&&Zu 0 []) _=_
  rw[hb]
  rfl
end Go.Proofs.SZ
namespace Go.Proofs.SZ
open Go Go.AM Go.Ama
set_option maxRecDepth 100000
theorem ztj:Ev 5 [] (.bool true):=Ev.of_check (m:=300) (by decide+kernel)
end Go.Proofs.SZ
namespace Go.Proofs.SZ
open Go Go.AM
set_option maxRecDepth 20000
end Go.Proofs.SZ
namespace Go.Ama
open Go Go.AM
def upV(b f ar h:Int):Int:=if f+ar≤h then IntKind.i64.wrap (h+b)else h
def bindsB(k:Int):Bool:=decide (k=1)||decide (k=3)
mutual
def upT(b f ar:Int):T→T
 | .mk k h as_=> .mk k (if k=4 then upV b f ar h else h) (ups b f ar (bindsB k) as_)
def ups(b f ar:Int)(bd:Bool):List T→List T
 |[]=> []
 |a::as_=>upT b f (if bd&&as_.isEmpty then ar+1 else ar) a::ups b f ar bd as_
end
theorem JF(b f ar:Int)(bd:Bool): ∀l,(ups b f ar bd l).length=l.length
 |[]=>rfl
 |a::as_=>by simp only[ups,List.length_cons,JF b f ar bd as_]
theorem zpF(b f ar:Int)(bd:Bool): ∀(l:List T) (i:Nat) (h:i<l.length),(ups b f ar bd l)[i]'(by rw[JF];exact h)=upT b f (if bd&&decide (i+1=l.length)then ar+1 else ar) l[i]
 |a::as_,0,h=>by
  cases as_ with
  |nil=>simp[ups]
  |cons c cs=>simp[ups]
 |a::as_,i+1,h=>by
  simp only[ups,List.getElem_cons_succ]
  rw[zpF b f ar bd as_ i (by simpa using h)]
  simp
mutual
theorem zlE(b f:Int): ∀(t:T) (ar:Int),(upT b f ar t).size=t.size
 | .mk k h as_,ar=>by simp only[upT,T.size];rw[zkv b f as_ ar]
theorem zkv(b f:Int): ∀(l:List T) (ar:Int) {bd:Bool},sizes (ups b f ar bd l)=sizes l
 |[],ar,bd=>rfl
 |a::as_,ar,bd=>by simp only[ups,sizes];rw[zlE b f a,zkv b f as_]
end
theorem zfT: ∀{ts:List T} {t:T},t∈ts→t.depth≤ZF ts
 |a::as_,t,h=>by
  simp only[ZF]
  rcases List.mem_cons.1 h with rfl|h
  ·omega
  ·have:=zfT h;omega
def upP(t:T)(b f:Int):T:=if may t&&(decide (0≤b)&&(decide (b≤1048576)&&(decide (0≤f)&&decide (f≤1048576))))then upT b f 0 t else t
theorem zsn(t:T)(b f:Int):(upP t b f).size=t.size:=by
 unfold upP;split
 ·exact zlE b f t 0
 ·rfl
def ziJ(l:List T):List T:=l.map (fun t=>upP t 1 0)++[.mk 4 0 []]
def zcq(s:Int):Int:=IntKind.i64.wrap (s+1)
def ofT(l:List T)(s i:Int):T:=if i<l.length then l.getD (l.length-1-i.toNat) (.mk 0 0 [])else .mk 4 (IntKind.i64.wrap (IntKind.i64.wrap (i-l.length)+s)) []
inductive Job where
 |ap (n:Nat) (t:T) (l:List T) (s:Int)
 |ar (n:Nat) (bd:Bool) (ts:List T) (l:List T) (s:Int)
 |sp (n:Nat) (t:T) (as_:List T)
inductive Oj where
 |t (t:T) (n:Nat)
 |l (ts:List T) (n:Nat)
 |e (e:Int)
def belowL'(bd:Bool)(as_:List T)(l:List T):List T:=if bd&&as_.isEmpty then ziJ l else l
def belowS'(bd:Bool)(as_:List T)(s:Int):Int:=if bd&&as_.isEmpty then zcq s else s
inductive Big:Job→Oj→Prop where
 |apLimit {n:Nat} {t:T} {l:List T} {s:Int} (h:40000<n+1) (hn:n≤40001):Big (.ap n t l s) (.e 4)
 |apErr {n:Nat} {t:T} {l:List T} {s:Int} {e:Int} (h:n+1≤40000) (ht:t.size≤1099511627776) (b:Big (.ar (n+1) (bindsB t.k) t.args l s) (.e e)):Big (.ap n t l s) (.e e)
 |apNode {n:Nat} {t:T} {l:List T} {s:Int} {as_:List T} {m:Nat} (h:n+1≤40000) (ht:t.size≤1099511627776) (hk:t.k≠4) (b:Big (.ar (n+1) (bindsB t.k) t.args l s) (.l as_ m)):Big (.ap n t l s) (.t (.mk t.k t.h as_) m)
 |apVar {n:Nat} {t:T} {l:List T} {s:Int} {as_:List T} {m:Nat} {o:Oj} (h:n+1≤40000) (ht:t.size≤1099511627776) (hl:sizes l≤1099511627776) (hk:t.k=4) (h0:0≤t.h) (h1:I64 t.h) (b:Big (.ar (n+1) (bindsB t.k) t.args l s) (.l as_ m)) (c:Big (.sp m (ofT l s t.h) as_) o):Big (.ap n t l s) o
 |arNil {n:Nat} {bd:Bool} {l:List T} {s:Int}:Big (.ar n bd [] l s) (.l [] n)
 |arErr {n:Nat} {bd:Bool} {a:T} {as_ l:List T} {s:Int} {e:Int} (hl:sizes l≤1099511627776) (b:Big (.ap n a (belowL' bd as_ l) (belowS' bd as_ s)) (.e e)):Big (.ar n bd (a::as_) l s) (.e e)
 |arErr2 {n m:Nat} {bd:Bool} {a a':T} {as_ l:List T} {s:Int} {e:Int} (hl:sizes l≤1099511627776) (b:Big (.ap n a (belowL' bd as_ l) (belowS' bd as_ s)) (.t a' m)) (c:Big (.ar m bd as_ l s) (.e e)):Big (.ar n bd (a::as_) l s) (.e e)
 |arCons {n m k:Nat} {bd:Bool} {a a':T} {as_ as' l:List T} {s:Int} (hl:sizes l≤1099511627776) (b:Big (.ap n a (belowL' bd as_ l) (belowS' bd as_ s)) (.t a' m)) (c:Big (.ar m bd as_ l s) (.l as' k)):Big (.ar n bd (a::as_) l s) (.l (a'::as') k)
 |spNil {n:Nat} {t:T}:Big (.sp n t []) (.t t n)
 |spMay {n:Nat} {t a:T} {as_:List T} (hk:t.k=3) (ha:a.size≤1099511627776) (hm:may a=false):Big (.sp n t (a::as_)) (.e 4)
 |spErr {n:Nat} {t a b0:T} {r as_:List T} {e:Int} (hk:t.k=3) (ha:a.size≤1099511627776) (hm:may a=true) (hb:t.args=b0::r) (b:Big (.ap n b0 [a] 0) (.e e)):Big (.sp n t (a::as_)) (.e e)
 |spLam {n m:Nat} {t a b0 u:T} {r as_:List T} {o:Oj} (hk:t.k=3) (ha:a.size≤1099511627776) (hm:may a=true) (hb:t.args=b0::r) (b:Big (.ap n b0 [a] 0) (.t u m)) (c:Big (.sp m u as_) o):Big (.sp n t (a::as_)) o
 |spApp {n:Nat} {t a:T} {as_:List T} (hk:t.k=2∨t.k=4∨t.k=5) (hs:t.args.length+as_.length≤1099511627776):Big (.sp n t (a::as_)) (.t (.mk t.k t.h (t.args++a::as_)) n)
 |spType {n:Nat} {t a:T} {as_:List T} (h3:t.k≠3) (h2:t.k≠2) (h4:t.k≠4) (h5:t.k≠5):Big (.sp n t (a::as_)) (.e 3)
end Go.Ama
namespace Go.Ama
open Go Go.AM
mutual
def okB(B:Int):T→Prop
 | .mk k h ys=>(0≤h∧h≤B)∧(k=3→ys≠ [])∧zc9 B ys
def zc9(B:Int):List T→Prop
 |[]=>True
 |a::ys=>okB B a∧zc9 B ys
end
theorem zbC(B:Int): ∀l,zc9 B l↔ ∀x∈l,okB B x
 |[]=>by simp[zc9]
 |a::l=>by simp[zc9,zbC B l]
mutual
theorem Ye{B B':Int}(h:B≤B'): ∀t,okB B t→okB B' t
 | .mk k hd ys,⟨h1,h2,h3⟩=>⟨⟨h1.1,by omega⟩,h2,zbD h ys h3⟩
theorem zbD{B B':Int}(h:B≤B'): ∀l,zc9 B l→zc9 B' l
 |[],_=>trivial
 |a::l,⟨h1,h2⟩=>⟨Ye h a h1,zbD h l h2⟩
end
mutual
theorem zso{B:Int}(hB:B≤9223372036854775000)(f:Int): ∀(t:T) (ar:Int),okB B t→okB (B+1) (upT 1 f ar t)
 | .mk k hd ys,ar,⟨h1,h2,h3⟩=>by
  simp only[upT,okB]
  refine⟨?_, ?_,zpG hB f ys ar h3⟩
  ·split
   ·unfold upV
    split
    ·rw[Z5 ⟨by omega,by omega⟩];omega
    ·omega
   ·omega
  ·intro hk e
   have:=congrArg List.length e
   rw[JF]at this
   exact h2 hk (List.length_eq_zero_iff.1 (by simpa using this))
theorem zpG{B:Int}(hB:B≤9223372036854775000)(f:Int): ∀(l:List T) (ar:Int) {bd:Bool},zc9 B l→zc9 (B+1) (ups 1 f ar bd l)
 |[],ar,bd,_=>trivial
 |a::l,ar,bd,⟨h1,h2⟩=>by simp only[ups,zc9];exact⟨zso hB f a _ h1,zpG hB f l ar h2⟩
end
theorem ztk{B:Int}(hB:B≤9223372036854775000){t:T}(h:okB B t):okB (B+1) (upP t 1 0):=by
 unfold upP;split
 ·exact zso hB 0 t 0 h
 ·exact Ye (by omega) t h
def bnd(β:Int)(n:Nat):Int:=β+n*2097152
def YC(β:Int):Prop:=0≤β∧β≤4611686018427387904
def okL(B:Int)(l:List T):Prop:= ∀x∈l,okB B x∧x.size≤4000
theorem zgG{B:Int}: ∀{l:List T},okL B l→sizes l≤l.length*4000
 |[],_=>by simp[sizes]
 |a::l,h=>by
  have h1:=(h a (by simp)).2
  have h2:=zgG (l:=l) fun x hx=>h x (by simp[hx])
  simp only[sizes,List.length_cons];omega
def Inv(β:Int):Job→Prop
 | .ap n t l s=>n≤40000∧t.size≤160040000∧okB (bnd β n) t∧okL (bnd β n) l∧l.length≤200+n∧0≤s∧s≤1048576+n
 | .ar n _ ts l s=>n≤40000∧sizes ts≤160040000∧zc9 (bnd β n) ts∧okL (bnd β n-1) l∧l.length+1≤200+n∧0≤s∧s+1≤1048576+n
 | .sp n t ys=>n≤40000∧t.size≤160040000∧sizes ys≤160040000∧okB (bnd β n) t∧zc9 (bnd β n) ys
def zuK(β:Int):Job→Oj→Prop
 | .ap n _ _ _, .t u m=>n<m∧m≤40000∧u.size≤4001*(m-n)∧okB (bnd β m) u
 | .ar n _ ts _ _, .l ys m=>n≤m∧m≤40000∧ys.length=ts.length∧sizes ys≤4001*(m-n)∧zc9 (bnd β m) ys
 | .sp n t ys, .t u m=>n≤m∧m≤40000∧u.size≤t.size+sizes ys+4001*(m-n)∧okB (bnd β m) u
 |_, .e _=>True
 |_,_=>False
def zoL:Job→Nat
 | .ap n _ _ _=>2*(40002-n)
 | .ar n _ _ _ _=>2*(40002-n)+1
 | .sp n _ _=>2*(40002-n)+1
theorem Qv{t:T}(h:may t=true):t.size≤4000:=by
 unfold may at h
 simp only[Bool.and_eq_true,decide_eq_true_eq]at h
 exact h.2.1
theorem zbE{β:Int}{n m:Nat}(h:n≤m):bnd β n≤bnd β m:=by unfold bnd;omega
theorem zoM{β:Int}(hβ:YC β){n:Nat}(h:n≤40000):bnd β n≤4611686118427387904:=by obtain⟨h1,h2⟩:=hβ;unfold bnd;omega
theorem zue{β:Int}(hβ:YC β){n:Nat}:0≤bnd β n:=by obtain⟨h1,h2⟩:=hβ;unfold bnd;omega
theorem zqP{β:Int}(hβ:YC β){n:Nat}{bd:Bool}{ys l:List T}{s:Int}(hn:n≤40000)(hl:okL (bnd β n-1) l)(hlen:l.length+1≤200+n)(h0:0≤s)(hs:s+1≤1048576+n):
  okL (bnd β n) (belowL' bd ys l)∧(belowL' bd ys l).length≤200+n∧0≤belowS' bd ys s∧belowS' bd ys s≤1048576+n:=by
 have hb:=zoM hβ hn
 have hb0:0≤bnd β n:=zue hβ
 unfold belowL' belowS'
 split
 ·refine⟨fun x hx=> ?_, ?_, ?_, ?_⟩
  ·simp only[ziJ,List.mem_append,List.mem_map,List.mem_singleton]at hx
   rcases hx with⟨y,hy,rfl⟩|rfl
   ·obtain⟨h1,h2⟩:=hl y hy
    have:=ztk (B:=bnd β n-1) (by omega) h1
    rw[show bnd β n-1+1=bnd β n by omega]at this
    exact⟨this,by rw[zsn];exact h2⟩
   ·exact⟨⟨⟨by omega,hb0⟩,by simp,trivial⟩,by simp[T.size,sizes]⟩
  ·simp[ziJ];omega
  ·unfold zcq;rw[Z5 ⟨by omega,by omega⟩];omega
  ·unfold zcq;rw[Z5 ⟨by omega,by omega⟩];omega
 ·refine⟨fun x hx=> ?_,by omega,h0,by omega⟩
  obtain⟨h1,h2⟩:=hl x hx
  exact⟨Ye (by omega) x h1,h2⟩
theorem zuL{β:Int}(hβ:YC β){n:Nat}(hn:n≤40000){l:List T}{s i:Int}(hl:okL (bnd β n) l)(h0:0≤s)(hs:s≤1048576+n)(hi:0≤i)(hi2:i≤bnd β n):okB (bnd β (n+1)) (ofT l s i)∧(ofT l s i).size≤4000:=by
 have hb:=zoM hβ hn
 unfold ofT
 split
 ·rename_i h
  have hj:l.length-1-i.toNat<l.length:=by omega
  rw[List.getD_eq_getElem?_getD,List.getElem?_eq_getElem hj]
  obtain⟨h1,h2⟩:=hl _ (List.getElem_mem hj)
  exact⟨Ye (zbE (Nat.le_succ n)) _ h1,h2⟩
 ·rename_i h
  rw[Z5 (n:=i-l.length) ⟨by omega,by omega⟩,Z5 ⟨by omega,by omega⟩]
  refine⟨⟨⟨by omega, ?_⟩,by simp,trivial⟩,by simp[T.size,sizes]⟩
  have:bnd β (n+1)=bnd β n+2097152:=by unfold bnd;omega
  omega
theorem total{β:Int}(hβ:YC β): ∀(N:Nat) (j:Job),zoL j<N→Inv β j→ ∃o,Big j o∧zuK β j o:=by
 intro N
 induction N with
 |zero=>intro j h;omega
 |succ N ih=>
  intro j hj hI
  cases j with
  |ap n t l s=>
   obtain⟨hn,hsz,hok,hl,hlen,h0,hs⟩:=hI
   by_cases hlim:n+1≤40000
   rotate_left
   ·exact⟨_, .apLimit (by omega) (by omega),trivial⟩
   have hsl:=zgG hl
   cases t with
   |mk k h ys=>
    simp only[T.size]at hsz
    obtain⟨⟨hh0,hh1⟩,hk3,hys⟩:=hok
    have hb1:bnd β (n+1)=bnd β n+2097152:=by unfold bnd;omega
    obtain⟨o,hB,hP⟩:=ih (.ar (n+1) (bindsB k) ys l s) (by simp only[zoL]at hj⊢;omega) ⟨hlim,by omega,zbD (by omega) ys hys,fun x hx=>⟨Ye (by omega) x (hl x hx).1,(hl x hx).2⟩,by omega,h0,by omega⟩
    cases o with
    |t _ _=>exact hP.elim
    |e e=>exact⟨_, .apErr hlim (by simp only[T.size];omega) hB,trivial⟩
    |l zs m=>
     obtain⟨p1,p2,p3,p4,p5⟩:=hP
     have hbm:bnd β n≤bnd β m:=zbE (by omega)
     by_cases hk:k=4
     ·obtain⟨q1,q2⟩:=zuL hβ (by omega) hl h0 hs hh0 hh1
      have hbm1:bnd β (n+1)≤bnd β m:=zbE p1
      obtain⟨o,hB2,hP2⟩:=ih (.sp m (ofT l s h) zs) (by simp only[zoL]at hj⊢;omega) ⟨p2,by omega,by omega,Ye hbm1 _ q1,p5⟩
      have hbn:=zoM hβ (n:=n) (by omega)
      cases o with
      |l _ _=>exact hP2.elim
      |e e=>exact⟨_, .apVar hlim (by simp only[T.size];omega) (by omega) hk hh0 ⟨by simp only[T.h];omega,by simp only[T.h];omega⟩ hB hB2,trivial⟩
      |t u m2=>
       obtain⟨r1,r2,r3,r4⟩:=hP2
       exact⟨_, .apVar hlim (by simp only[T.size];omega) (by omega) hk hh0 ⟨by simp only[T.h];omega,by simp only[T.h];omega⟩ hB hB2,by omega,r2,by omega,r4⟩
     ·refine⟨_, .apNode hlim (by simp only[T.size];omega) hk hB,by omega,p2, ?_, ?_⟩
      ·simp only[T.size,T.k,T.h];omega
      ·refine⟨⟨hh0,by simp only[T.h];omega⟩,fun e he=> ?_,p5⟩
       subst he
       exact hk3 e (List.length_eq_zero_iff.1 (by simpa using p3.symm))
  |ar n bd ts l s=>
   obtain⟨hn,hsz,hok,hl,hlen,h0,hs⟩:=hI
   have hsl:=zgG hl
   cases ts with
   |nil=>exact⟨_, .arNil,Nat.le_refl _,hn,rfl,by simp[sizes],trivial⟩
   |cons a ts=>
    simp only[sizes]at hsz
    obtain⟨ha,hts⟩:=hok
    obtain⟨g1,g2,g3,g4⟩:=zqP hβ (bd:=bd) (ys:=ts) hn hl hlen h0 hs
    obtain⟨o,hB,hP⟩:=ih (.ap n a (belowL' bd ts l) (belowS' bd ts s)) (by simp only[zoL]at hj⊢;omega) ⟨hn,by omega,ha,g1,g2,g3,g4⟩
    cases o with
    |l _ _=>exact hP.elim
    |e e=>exact⟨_, .arErr (by omega) hB,trivial⟩
    |t u m=>
     obtain⟨p1,p2,p3,p4⟩:=hP
     have hbm:bnd β n≤bnd β m:=zbE (by omega)
     obtain⟨o,hB2,hP2⟩:=ih (.ar m bd ts l s) (by simp only[zoL]at hj⊢;omega) ⟨p2,by omega,zbD hbm ts hts,fun x hx=>⟨Ye (by omega) x (hl x hx).1,(hl x hx).2⟩,by omega,h0,by omega⟩
     cases o with
     |t _ _=>exact hP2.elim
     |e e=>exact⟨_, .arErr2 (by omega) hB hB2,trivial⟩
     |l zs m2=>
      obtain⟨r1,r2,r3,r4,r5⟩:=hP2
      exact⟨_, .arCons (by omega) hB hB2,by omega,r2,by simp[r3],by simp only[sizes];omega,Ye (zbE r1) u p4,r5⟩
  |sp n t ys=>
   obtain⟨hn,hsz,hys,hok,hoy⟩:=hI
   cases ys with
   |nil=>exact⟨_, .spNil,Nat.le_refl _,hn,by simp[sizes],hok⟩
   |cons a ys=>
    simp only[sizes]at hys
    obtain⟨ha,hoy⟩:=hoy
    cases t with
    |mk k h zs=>
     simp only[T.size]at hsz
     obtain⟨hh,hk3,hzs⟩:=hok
     by_cases hk:k=3
     ·cases hm:may a with
      |false=>exact⟨_, .spMay hk (by omega) hm,trivial⟩
      |true=>
       obtain⟨b0,r,hb⟩: ∃b0 r,zs=b0::r:=by
        cases zs with
        |nil=>exact absurd rfl (hk3 hk)
        |cons b r=>exact⟨b,r,rfl⟩
       subst hb
       simp only[sizes]at hsz
       obtain⟨o,hB,hP⟩:=ih (.ap n b0 [a] 0) (by simp only[zoL]at hj⊢;omega) ⟨hn,by omega,hzs.1,fun x hx=>by simp at hx;subst hx;exact⟨ha,Qv hm⟩,by simp;omega,by omega,by omega⟩
       cases o with
       |l _ _=>exact hP.elim
       |e e=>exact⟨_, .spErr hk (by omega) hm rfl hB,trivial⟩
       |t u m=>
        obtain⟨p1,p2,p3,p4⟩:=hP
        obtain⟨o,hB2,hP2⟩:=ih (.sp m u ys) (by simp only[zoL]at hj⊢;omega) ⟨p2,by omega,by omega,p4,zbD (zbE (by omega)) ys hoy⟩
        cases o with
        |l _ _=>exact hP2.elim
        |e e=>exact⟨_, .spLam hk (by omega) hm rfl hB hB2,trivial⟩
        |t w m2=>
         obtain⟨r1,r2,r3,r4⟩:=hP2
         exact⟨_, .spLam hk (by omega) hm rfl hB hB2,by omega,r2,by simp only[T.size,sizes];omega,r4⟩
     ·by_cases hk2:k=2∨k=4∨k=5
      ·have hz:=Zy zs
       have hy:=Zy ys
       refine⟨_, .spApp hk2 (by simp only[T.args];omega),Nat.le_refl _,hn, ?_, ?_⟩
       ·simp only[T.size,T.k,T.h,T.args,zci,sizes];omega
       ·refine⟨hh,fun e=>absurd e hk, ?_⟩
        rw[zbC]
        intro x hx
        simp only[T.args,List.mem_append,List.mem_cons]at hx
        rcases hx with hx|rfl|hx
        ·exact(zbC _ _).1 hzs x hx
        ·exact ha
        ·exact(zbC _ _).1 hoy x hx
      ·simp only[not_or]at hk2
       exact⟨_, .spType hk hk2.1 hk2.2.1 hk2.2.2,trivial⟩
end Go.Ama
namespace Go.Ama
open Go Go.AM
section
variable{R:Type}
@[simp] theorem zv2(a b:Int)(l:List V)(K:Int→Int→List V→Option R):Zc (R:=R) [CT.int,CT.int,CT.slice (some 3)] (.agg [.int a, .int b, .vec .plain (some 3) l]) K=K a b l:=rfl
@[simp] theorem zuf(t:T)(K:Int→Int→List V→Option R):Zc (R:=R) [CT.int,CT.int,CT.slice (some 3)] (enc t) K=K t.k t.h (Zi t.args):=by cases t;rfl
@[simp] theorem zv3(a b:Int)(l:List V)(K:Int→Int→List V→Option R):onCells (R:=R) [CT.int,CT.int,CT.slice (some 3)] [.int a, .int b, .vec .plain (some 3) l] K=K a b l:=rfl
@[simp] theorem zvs(t:Tok)(K:Int→ByteArray→Option R):Zc (R:=R) [CT.int,CT.str] (zbm t) K=K t.1 (ba t.2):=rfl
@[simp] theorem zv4(s:ByteArray)(a b:Int)(l:List V)(K:ByteArray→Int→Int→List V→Option R):Zc (R:=R) [CT.str,CT.int,CT.int,CT.slice (some 3)] (.agg [.str s, .int a, .int b, .vec .plain (some 3) l]) K=K s a b l:=rfl
@[simp] theorem zvf(d:D)(K:ByteArray→Int→Int→List V→Option R):Zc (R:=R) [CT.str,CT.int,CT.int,CT.slice (some 3)] (Jy d) K=K (ba d.name) d.t.k d.t.h (Zi d.t.args):=rfl
@[simp] theorem zuM(d:D)(K:Int→Int→List V→Option R):YE (Jy d) (fun c=>gd (decide (4≤c.length)) (onCells (R:=R) [CT.int,CT.int,CT.slice (some 3)] (List.take 3 (List.drop 1 c)) K))=K d.t.k d.t.h (Zi d.t.args):=rfl
@[simp] theorem zv5(d:D)(K:ByteArray→Option R):YE (Jy d) (fun c=>gd (decide (1≤c.length)) (Xg (AM.partOf c 0 none) K))=K (ba d.name):=rfl
@[simp] theorem zvg(v:V)(l:List V):ZY (v::l) 0=v:=rfl
@[simp] theorem zvb(b:Bool)(x:Option R):bc b x x=x:=by cases b<;>rfl
@[simp] theorem zkw(k h:Int)(l:List T):(T.mk k h l).args=l:=rfl
@[simp] theorem zsp(k h:Int)(l:List T):(T.mk k h l).k=k:=rfl
@[simp] theorem zsq(k h:Int)(l:List T):(T.mk k h l).h=h:=rfl
@[simp] theorem zv6(t:Tok)(K:Int→Option R):YE (zbm t) (fun c=>gd (decide (1≤c.length)) (Zt (AM.partOf c 0 none) K))=K t.1:=rfl
@[simp] theorem zv7(t:Tok)(K:ByteArray→Option R):YE (zbm t) (fun c=>gd (decide (2≤c.length)) (Xg (AM.partOf c 1 none) K))=K (ba t.2):=rfl
@[simp] theorem zvh(x:Res)(st:St)(K:Res→Option R):Z6 (x::st) 0 K=K x:=rfl
@[simp] theorem zvi(x y:Res)(st:St)(K:Res→Option R):Z6 (x::y::st) 1 K=K y:=rfl
@[simp] theorem zvj(m:AM.Mode)(s:PS)(K:List V→Option R):Z3 (YM m s) K=K [.vec .plain (some 2) (Zx s.l), .vec m (some 4) (Z2 s.s), .int s.e]:=rfl
@[simp] theorem cl0(sh:Sh)(l:List V)(b c:V):Zo (AM.partOf [.vec .plain sh l,b,c] 0 none)= .vec .plain sh l:=rfl
@[simp] theorem cl1(sh:Sh)(m:AM.Mode)(l:List V)(a c:V):Zo (AM.partOf [a, .vec m sh l,c] 1 none)= .vec .plain sh l:=by cases m<;>rfl
@[simp] theorem cl2(a b:V)(n:Int):Zo (AM.partOf [a,b, .int n] 2 none)= .int n:=rfl
@[simp] theorem zu0(a b c d:V):setCells [a,b,c] 0 [d]=[d,b,c]:=rfl
@[simp] theorem zu1(a b c d:V):setCells [a,b,c] 1 [d]=[a,d,c]:=rfl
@[simp] theorem zu2(a b c d:V):setCells [a,b,c] 2 [d]=[a,b,d]:=rfl
@[simp] theorem zuN(t:Tok)(r:List Tok):ZY (Zx (t::r)) 0=zbm t:=rfl
@[simp] theorem ztl(t:Tok)(r:List Tok):Zx (t::r)=zbm t::Zx r:=rfl
@[simp] theorem zqQ(r:List Tok):(Zx r).take r.length=Zx r:=by rw[←Xn r,List.take_length]
@[simp] theorem zug(t:V)(r:List Tok):(t::Zx r).take (r.length+1)=t::Zx r:=by rw[List.take_succ_cons,zqQ]
@[simp] theorem zvt(d:D)(K:Int→Int→List V→Option R):YE (Jy d) (fun c=>gd (decide (4≤c.length)) (onCells (R:=R) [CT.int,CT.int,CT.slice (some 3)] (List.take 3 c.tail) K))=K d.t.k d.t.h (Zi d.t.args):=rfl
@[simp] theorem zuO(x:Bytes):((ba x).toList==[116,121,112,101])=decide (x=typ):=by rw[zat];by_cases h:x=typ<;>simp_all[typ]
@[simp] theorem zuP(x:Bytes):((ba x).toList==ByteArray.toList {data:= #[116,121,112,101]})=decide (x=typ):=zi0 x typ
@[simp] theorem zvu:V.str {data:= #[40]}=V.str (ba [40]):=rfl
@[simp] theorem zvv:V.str {data:= #[41]}=V.str (ba [41]):=rfl
@[simp] theorem zvw:V.str {data:= #[46]}=V.str (ba [46]):=rfl
@[simp] theorem zvx:V.str {data:= #[58]}=V.str (ba [58]):=rfl
@[simp] theorem zvy:V.str {data:= #[91]}=V.str (ba [91]):=rfl
@[simp] theorem zvz:V.str {data:= #[93]}=V.str (ba [93]):=rfl
@[simp] theorem zvk:V.str {data:= #[123]}=V.str (ba [123]):=rfl
@[simp] theorem zvl:V.str {data:= #[125]}=V.str (ba [125]):=rfl
@[simp] theorem zv8:V.str {data:= #[]}=V.str (ba []):=rfl
@[simp] theorem zvm(t:T)(K:Int→Int→Option R):Zc (R:=R) [CT.int,CT.int,CT.nil (some 3)] (.agg [.int t.k, .int t.h, .vec .full (some 3) []]) K=K t.k t.h:=rfl
@[simp] theorem zuQ(n:Nat):(1:Int)≤n+1:=by omega
@[simp] theorem zu3(n:Nat):(0:Int)<n+1:=by omega
@[simp] theorem zu4(n:Nat): ¬((n:Int)+1=0):=by omega
@[simp] theorem zvc(n:Nat):((n:Int)+1).toNat=n+1:=by omega
end
end Go.Ama
namespace Go.Ama
open Go Go.AM
theorem Big.det{j:Job}{o:Oj}(h:Big j o): ∀o',Big j o'→o=o':=by
 induction h with
 |apLimit h hn=>intro o' h';cases h'<;>first|rfl|omega
 |apErr h ht b ih=>
  intro o' h';cases h' with
  |apLimit h2 _=>omega
  |apErr _ _ b2=>cases ih _ b2;rfl
  |apNode _ _ _ b2=>cases ih _ b2
  |apVar _ _ _ _ _ _ b2 _=>cases ih _ b2
 |apNode h ht hk b ih=>
  intro o' h';cases h' with
  |apLimit h2 _=>omega
  |apErr _ _ b2=>cases ih _ b2
  |apNode _ _ _ b2=>cases ih _ b2;rfl
  |apVar _ _ _ hk2 _ _ b2 _=>exact absurd hk2 hk
 |apVar h ht hl hk h0 h1 b c ihb ihc=>
  intro o' h';cases h' with
  |apLimit h2 _=>omega
  |apErr _ _ b2=>cases ihb _ b2
  |apNode _ _ hk2 b2=>exact absurd hk hk2
  |apVar _ _ _ _ _ _ b2 c2=>cases ihb _ b2;exact ihc _ c2
 |arNil=>intro o' h';cases h';rfl
 |arErr hl b ih=>
  intro o' h';cases h' with
  |arErr _ b2=>cases ih _ b2;rfl
  |arErr2 _ b2 _=>cases ih _ b2
  |arCons _ b2 _=>cases ih _ b2
 |arErr2 hl b c ihb ihc=>
  intro o' h';cases h' with
  |arErr _ b2=>cases ihb _ b2
  |arErr2 _ b2 c2=>cases ihb _ b2;cases ihc _ c2;rfl
  |arCons _ b2 c2=>cases ihb _ b2;cases ihc _ c2
 |arCons hl b c ihb ihc=>
  intro o' h';cases h' with
  |arErr _ b2=>cases ihb _ b2
  |arErr2 _ b2 c2=>cases ihb _ b2;cases ihc _ c2
  |arCons _ b2 c2=>cases ihb _ b2;cases ihc _ c2;rfl
 |spNil=>intro o' h';cases h';rfl
 |spMay hk ha hm=>
  intro o' h';cases h' with
  |spMay _ _ _=>rfl
  |spErr _ _ hm2 _ _=>rw[hm]at hm2;cases hm2
  |spLam _ _ hm2 _ _ _=>rw[hm]at hm2;cases hm2
  |spApp hk2 _=>omega
  |spType h3 _ _ _=>exact absurd hk h3
 |spErr hk ha hm hb b ih=>
  intro o' h';cases h' with
  |spMay _ _ hm2=>rw[hm]at hm2;cases hm2
  |spErr _ _ _ hb2 b2=>rw[hb]at hb2;cases hb2;cases ih _ b2;rfl
  |spLam _ _ _ hb2 b2 _=>rw[hb]at hb2;cases hb2;cases ih _ b2
  |spApp hk2 _=>omega
  |spType h3 _ _ _=>exact absurd hk h3
 |spLam hk ha hm hb b c ihb ihc=>
  intro o' h';cases h' with
  |spMay _ _ hm2=>rw[hm]at hm2;cases hm2
  |spErr _ _ _ hb2 b2=>rw[hb]at hb2;cases hb2;cases ihb _ b2
  |spLam _ _ _ hb2 b2 c2=>rw[hb]at hb2;cases hb2;cases ihb _ b2;exact ihc _ c2
  |spApp hk2 _=>omega
  |spType h3 _ _ _=>exact absurd hk h3
 |spApp hk hs=>
  intro o' h';cases h' with
  |spMay h3 _ _=>omega
  |spErr h3 _ _ _ _=>omega
  |spLam h3 _ _ _ _ _=>omega
  |spApp _ _=>rfl
  |spType h3 h2 h4 h5=>omega
 |spType h3 h2 h4 h5=>
  intro o' h';cases h' with
  |spMay h6 _ _=>exact absurd h6 h3
  |spErr h6 _ _ _ _=>exact absurd h6 h3
  |spLam h6 _ _ _ _ _=>exact absurd h6 h3
  |spApp hk _=>omega
  |spType _ _ _ _=>rfl
def zeC(l:List T)(s:Int):Bool:=decide (l.length≤200)&&(decide (0≤s)&&(decide (s≤1048576)&&l.all may))
def zbF(o:Oj):T×Int:=
 match o with
 | .t t _=>if may t then(t,0)else(.mk 0 0 [],4)
 | .e e=>(.mk 0 0 [],e)
 | .l _ _=>(.mk 0 0 [],0)
def zoN:Oj→Prop
 | .t t _=>t.size≤1099511627776
 |_=>True
def zd8(t:T)(l:List T)(s:Int)(o:Oj):T×Int:=if may t&&zeC l s then zbF o else(.mk 0 0 [],1)
open Classical in
noncomputable def zoO(t:T)(l:List T)(s:Int):Oj:=if h: ∃o,Big (.ap 0 t l s) o then Classical.choose h else .e 0
theorem ztm{t:T}{l:List T}{s:Int}{o:Oj}(h:Big (.ap 0 t l s) o):zoO t l s=o:=by
 have hx: ∃o,Big (.ap 0 t l s) o:=⟨o,h⟩
 unfold zoO
 rw[dif_pos hx]
 exact(Classical.choose_spec hx).det _ h
noncomputable def YT(t:T)(l:List T)(s:Int):T×Int:=zd8 t l s (zoO t l s)
theorem zkx{t:T}(h:may t=true):Y5 t=true:=by
 unfold may at h
 simp only[Bool.and_eq_true]at h
 exact h.1
theorem zqR{l:List T}{s:Int}(h:zeC l s=true):l.length≤200∧0≤s∧s≤1048576∧ ∀x∈l,may x=true:=by
 unfold zeC at h
 simp only[Bool.and_eq_true,decide_eq_true_eq,List.all_eq_true]at h
 exact⟨h.1,h.2.1,h.2.2.1,h.2.2.2⟩
theorem zpH{β:Int}(hβ:YC β){t:T}{l:List T}{s:Int}(ht:okB β t)(hl: ∀x∈l,okB β x)(h1:may t=true)(h2:zeC l s=true):
  Big (.ap 0 t l s) (zoO t l s)∧zuK β (.ap 0 t l s) (zoO t l s)∧zoN (zoO t l s):=by
 obtain⟨k1,k2,k3,k4⟩:=zqR h2
 have hb:bnd β 0=β:=by unfold bnd;omega
 obtain⟨o,hB,hP⟩:=total hβ _ (.ap 0 t l s) (Nat.lt_succ_self _) ⟨Nat.zero_le _,Nat.le_trans (Qv h1) (by decide),by rw[hb];exact ht,fun x hx=>⟨by rw[hb];exact hl x hx,Qv (k4 x hx)⟩,by omega,k2,by omega⟩
 rw[ztm hB]
 refine⟨hB,hP, ?_⟩
 cases o with
 |t u m=>obtain⟨p1,p2,p3,p4⟩:=hP;show u.size≤_;omega
 |_=>trivial
end Go.Ama
namespace Go.Ama
open Go Go.AM
def var(i:Nat):T:= .mk 4 i []
def vars(n:Nat):List T:=(List.range n).reverse.map var
end Go.Ama
namespace Go.Ama
open Go Go.AM
@[simp] theorem zvn(a b:V)(l:List V):ZY (a::b::l) 1=b:=rfl
structure M where
 ctx:List T
 t:T
 param:Bool
def zd9(m:M):V:= .agg [.vec .plain (some 3) (Zi m.ctx), .int m.t.k, .int m.t.h, .vec .plain (some 3) (Zi m.t.args), .bool m.param]
def XX(l:List M):List V:=l.map zd9
@[simp] theorem zfU(l:List M):(XX l).length=l.length:=by simp[XX]
@[simp] theorem zqS:XX []=[]:=rfl
@[simp] theorem ztn(a b:List M):XX (a++b)=XX a++XX b:=by simp[XX]
@[simp] theorem zuh(a:M)(b:List M):XX (a::b)=zd9 a::XX b:=rfl
theorem ziK{l:List M}{i:Nat}(h:i<l.length):ZY (XX l) (i:Int)=zd9 l[i]:=by
 simp[ZY,XX,List.getD_eq_getElem?_getD,List.getElem?_map,h]
theorem ziL(n:Nat)(m:M):below n (zd9 m)=true:=by simp[zd9,below,Zh,QM]
@[simp] theorem znw(n:Nat): ∀l:List M,Zh n (XX l)=true
 |[]=>rfl
 |d::l=>by simp[Zh,ziL,znw n l]
section
variable{R:Type}
@[simp] theorem onM(m:M)(K:List V→Int→Int→List V→Bool→Option R):Zc (R:=R) [CT.slice (some 3),CT.int,CT.int,CT.slice (some 3),CT.bool] (zd9 m) K=K (Zi m.ctx) m.t.k m.t.h (Zi m.t.args) m.param:=rfl
@[simp] theorem zvA(l l2:List V)(a b:Int)(c:Bool)(K:List V→Int→Int→List V→Bool→Option R):Zc (R:=R) [CT.slice (some 3),CT.int,CT.int,CT.slice (some 3),CT.bool] (.agg [.vec .plain (some 3) l, .int a, .int b, .vec .plain (some 3) l2, .bool c]) K=K l a b l2 c:=rfl
end
theorem zdA(m:M):zd9 m= .agg [.vec .plain (some 3) (Zi m.ctx), .int m.t.k, .int m.t.h, .vec .plain (some 3) (Zi m.t.args), .bool m.param]:=rfl
structure Cs where
 ms:List M
 q:T
 t:T
def zsr(c:Cs):V:= .agg [.vec .plain (some 5) (XX c.ms), .int c.q.k, .int c.q.h, .vec .plain (some 3) (Zi c.q.args), .int c.t.k, .int c.t.h, .vec .plain (some 3) (Zi c.t.args)]
def zeD(l:List Cs):List V:=l.map zsr
@[simp] theorem zto(l:List Cs):(zeD l).length=l.length:=by simp[zeD]
@[simp] theorem zu5:zeD []=[]:=rfl
@[simp] theorem ztp(a b:List Cs):zeD (a++b)=zeD a++zeD b:=by simp[zeD]
@[simp] theorem zui(a:Cs)(b:List Cs):zeD (a::b)=zsr a::zeD b:=rfl
theorem ziM(n:Nat)(m:Cs):below n (zsr m)=true:=by simp[zsr,below,Zh,QM]
@[simp] theorem znx(n:Nat): ∀l:List Cs,Zh n (zeD l)=true
 |[]=>rfl
 |d::l=>by simp[Zh,ziM,znx n l]
section
variable{R:Type}
@[simp] theorem onC(c:Cs)(K:List V→Int→Int→List V→Int→Int→List V→Option R):Zc (R:=R) [CT.slice (some 5),CT.int,CT.int,CT.slice (some 3),CT.int,CT.int,CT.slice (some 3)] (zsr c) K=K (XX c.ms) c.q.k c.q.h (Zi c.q.args) c.t.k c.t.h (Zi c.t.args):=rfl
@[simp] theorem zu6(sh:Sh)(es:List V)(r:Nat)(K:List V→Nat→Option R):zpq sh (.spr sh es r) K=K es r:=by show(if sh=sh then K es r else none)=_;rw[if_pos rfl]
@[simp] theorem zsC(sh:Sh)(n q:Nat)(K:Sh→Nat→Nat→Option R):zdH (.spare sh n q) K=K sh n q:=rfl
end
def zuj(t:T):Int:=if(split t).2.k=2 then(split t).2.h else-1
def zeP(f:Int)(t:T):Bool:=decide (0≤f)&&decide (zuj t=f)
end Go.Ama
namespace Go.Ama
open Go Go.AM
theorem zfV{t:T}:may t=true↔Y5 t=true∧t.size≤4000∧t.depth≤60:=by
 unfold may;simp only[Bool.and_eq_true,decide_eq_true_eq]
theorem zqT{t x:T}(h:x∈t.args):x.depth<t.depth:=by
 cases t with
 |mk k hd ys=>have:=zfT h;simp only[T.args]at this h;have:=zfT h;simp only[T.depth];omega
theorem zfW{t x:T}(h:may t=true)(hx:x∈t.args):may x=true:=by
 obtain⟨h1,h2,h3⟩:=zfV.1 h
 refine zfV.2 ⟨?_,by have:=zdW hx;omega,by have:=zqT hx;omega⟩
 cases t with
 |mk k hd ys=>
  simp only[Y5,Bool.and_eq_true,zfc,List.all_eq_true]at h1
  exact h1.2 x hx
theorem zny{t:T}(h:may t=true):zaL t.k t.h t.args.length=true:=by
 obtain⟨h1,_⟩:=zfV.1 h
 cases t with
 |mk k hd ys=>simp only[Y5,Bool.and_eq_true]at h1;exact h1.1
theorem zoP{t:T}(h:may t=true)(hk:t.k=1):t.args.length=2:=by
 have:=zny h
 rw[hk]at this
 simp[zaL]at this
 exact this.2
mutual
theorem zss{B:Int}(hB:1099511627776≤B): ∀t:T,Y5 t=true→low t=true→okB B t
 | .mk k h ys,h1,h2=>by
  simp only[Y5,Bool.and_eq_true]at h1
  simp only[low,Bool.and_eq_true,decide_eq_true_eq]at h2
  refine⟨⟨?_,by omega⟩, ?_,zpI hB ys h1.2 h2.2⟩
  ·have:=h1.1
   unfold zaL at this
   repeat' split at this
   all_goals simp at this;omega
  ·rintro rfl e
   subst e
   have:=h1.1
   simp[zaL]at this
theorem zpI{B:Int}(hB:1099511627776≤B): ∀l:List T,Y6 l=true→low.lows l=true→zc9 B l
 |[],_,_=>trivial
 |a::l,h1,h2=>by
  simp only[Y6,Bool.and_eq_true]at h1
  simp only[low.lows,Bool.and_eq_true]at h2
  exact⟨zss hB a h1.1 h2.1,zpI hB l h1.2 h2.2⟩
end
theorem zbG{B:Int}{t x:T}(h:okB B t)(hx:x∈t.args):okB B x:=by
 cases t with
 |mk k hd ys=>exact(zbC B ys).1 h.2.2 x hx
theorem ztq{j:Job}{o:Oj}(h:Big j o): ∀e,o= .e e→e=3∨e=4:=by
 induction h with
 |apLimit=>rintro e ⟨⟩;exact .inr rfl
 |apErr _ _ _ ih=>rintro e ⟨⟩;exact ih _ rfl
 |apNode=>rintro e ⟨⟩
 |apVar _ _ _ _ _ _ _ _ _ ih=>exact ih
 |arNil=>rintro e ⟨⟩
 |arErr _ _ ih=>rintro e ⟨⟩;exact ih _ rfl
 |arErr2 _ _ _ _ ih=>rintro e ⟨⟩;exact ih _ rfl
 |arCons=>rintro e ⟨⟩
 |spNil=>rintro e ⟨⟩
 |spMay=>rintro e ⟨⟩;exact .inr rfl
 |spErr _ _ _ _ _ ih=>rintro e ⟨⟩;exact ih _ rfl
 |spLam _ _ _ _ _ _ _ ih=>exact ih
 |spApp=>rintro e ⟨⟩
 |spType=>rintro e ⟨⟩;exact .inl rfl
theorem zea{β:Int}(hβ:YC β){t:T}{l:List T}{s:Int}(ht:may t=true→okB β t)(hl:zeC l s=true→ ∀x∈l,okB β x)(h:(YT t l s).2=0):
  may (YT t l s).1=true∧okB (β+83886080000) (YT t l s).1∧ ∃m,Big (.ap 0 t l s) (.t (YT t l s).1 m):=by
 unfold YT zd8 at h⊢
 split at h
 ·rename_i hm
  rw[if_pos hm]
  simp only[Bool.and_eq_true]at hm
  obtain⟨hB,hP,_⟩:=zpH hβ (ht hm.1) (hl hm.2) hm.1 hm.2
  generalize zoO t l s=o at*
  cases o with
  |l _ _=>exact hP.elim
  |e e=>
   rcases ztq hB e rfl with rfl|rfl<;>simp[zbF]at h
  |t u m=>
   obtain⟨p1,p2,p3,p4⟩:=hP
   have hmu:may u=true:=by
    cases hx:may u with
    |true=>rfl
    |false=>simp[zbF,hx]at h
   have e:(zbF (.t u m)).1=u:=by simp[zbF,hmu]
   rw[e]
   exact⟨hmu,Ye (by unfold bnd;omega) u p4,m,hB⟩
 ·simp at h
end Go.Ama
namespace Go.Ama
open Go Go.AM
end Go.Ama
namespace Go.Ama
open Go Go.AM
end Go.Ama
namespace Go.Ama
open Go Go.AM
structure Cal where
 f:Int
 ext:List T
 theta:List T
 arg:T
structure Cl where
 metas:List M
 theta:List T
 p:T
 calls:List Cal
 r:T
structure Fun1 where
 name:Bytes
 schema:List T
 delta:List M
 psi:List T
 a:T
 phi:List T
 b:T
 total:Bool
 clauses:List Cl
def zhE(c:Cal):V:= .agg [.int c.f, .vec .plain (some 3) (Zi c.ext), .vec .plain (some 3) (Zi c.theta), .int c.arg.k, .int c.arg.h, .vec .plain (some 3) (Zi c.arg.args)]
def zdB(l:List Cal):List V:=l.map zhE
def zpJ(c:Cl):V:= .agg [.vec .plain (some 5) (XX c.metas), .vec .plain (some 3) (Zi c.theta), .int c.p.k, .int c.p.h, .vec .plain (some 3) (Zi c.p.args), .vec .plain (some 6) (zdB c.calls), .int c.r.k, .int c.r.h, .vec .plain (some 3) (Zi c.r.args)]
def zlG(l:List Cl):List V:=l.map zpJ
def zst(f:Fun1):V:= .agg [.str (ba f.name), .vec .plain (some 3) (Zi f.schema), .vec .plain (some 5) (XX f.delta), .vec .plain (some 3) (Zi f.psi), .int f.a.k, .int f.a.h, .vec .plain (some 3) (Zi f.a.args), .vec .plain (some 3) (Zi f.phi), .int f.b.k, .int f.b.h, .vec .plain (some 3) (Zi f.b.args), .bool f.total, .vec .plain (some 9) (zlG f.clauses)]
def zoQ(l:List Fun1):List V:=l.map zst
@[simp] theorem zrn(l:List Cal):(zdB l).length=l.length:=by simp[zdB]
@[simp] theorem zsD(l:List Cl):(zlG l).length=l.length:=by simp[zlG]
@[simp] theorem zsE(l:List Fun1):(zoQ l).length=l.length:=by simp[zoQ]
theorem zbH{α:Type}{e:α→V}{n:Nat}(h: ∀a,below n (e a)=true): ∀l:List α,Zh n (l.map e)=true
 |[]=>rfl
 |a::l=>by simp[Zh,h a,zbH h l]
@[simp] theorem zj6(n:Nat)(c:Cal):below n (zhE c)=true:=by simp[zhE,below,Zh]
@[simp] theorem zsu(n:Nat)(l:List Cal):Zh n (zdB l)=true:=zbH (zj6 n) l
@[simp] theorem znz(n:Nat)(c:Cl):below n (zpJ c)=true:=by simp[zpJ,below,Zh]
@[simp] theorem ztr(n:Nat)(l:List Cl):Zh n (zlG l)=true:=zbH (znz n) l
@[simp] theorem zn0(n:Nat)(f:Fun1):below n (zst f)=true:=by simp[zst,below,Zh]
@[simp] theorem zts(n:Nat)(l:List Fun1):Zh n (zoQ l)=true:=zbH (zn0 n) l
attribute [simp] ziL zi8 ZD ziM
theorem zsv{l:List V}{v:V}(h:v∈l):Qe v≤Yq l:=by
 induction l with
 |nil=>cases h
 |cons a l ih=>
  simp only[Yq]
  rcases List.mem_cons.1 h with rfl|h
  ·omega
  ·have:=ih h;omega
theorem zn1: ∀l:List V,l.length≤Yq l
 |[]=>Nat.zero_le _
 |v::l=>by
  have:=zn1 l
  have:1≤Qe v:=by cases v<;>simp[Qe]
  simp only[List.length_cons,Yq];omega
theorem zoR(t:T):Qe (enc t)=1+1+(Yq (Zi t.args)+1)+1:=by
 rw[Zd];simp only[Qe,Yq];omega
theorem zuk(d:D):4*d.t.size≤Qe (Jy d):=by
 have h2:=zfL d.t
 rw[zoR]at h2
 simp only[Jy,Qe,Yq];omega
theorem ztt{l:List D}{d:D}(h:d∈l):4*d.t.size≤Yq (Z2 l):=
 Nat.le_trans (zuk d) (zsv (List.mem_map_of_mem h))
def zn2(l:List D):Bool:=decide (l.length≤30)&&l.all fun d=>zdt 1000 80 d.t
section
variable{R:Type}
@[simp] theorem zvo(c:Cal)(K:Int→List V→List V→Int→Int→List V→Option R):Zc (R:=R) [CT.int,CT.slice (some 3),CT.slice (some 3),CT.int,CT.int,CT.slice (some 3)] (zhE c) K=K c.f (Zi c.ext) (Zi c.theta) c.arg.k c.arg.h (Zi c.arg.args):=rfl
@[simp] theorem zvB(c:Cl)(K:List V→List V→Int→Int→List V→List V→Int→Int→List V→Option R):Zc (R:=R) [CT.slice (some 5),CT.slice (some 3),CT.int,CT.int,CT.slice (some 3),CT.slice (some 6),CT.int,CT.int,CT.slice (some 3)] (zpJ c) K=K (XX c.metas) (Zi c.theta) c.p.k c.p.h (Zi c.p.args) (zdB c.calls) c.r.k c.r.h (Zi c.r.args):=rfl
@[simp] theorem zvC(m:M)(K:List V→Option R):YE (zd9 m) (fun c=>gd (decide (1≤c.length)) (ZS (some 3) (AM.partOf c 0 none) K))=K (Zi m.ctx):=by
 show gd true (ZS (some 3) (.vec .plain (some 3) (Zi m.ctx)) K)=_
 simp
@[simp] theorem zvD(m:M)(K:Int→Int→List V→Option R):YE (zd9 m) (fun c=>gd (decide (4≤c.length)) (onCells (R:=R) [CT.int,CT.int,CT.slice (some 3)] (List.take 3 (List.drop 1 c)) K))=K m.t.k m.t.h (Zi m.t.args):=rfl
end
end Go.Ama
namespace Go.Proofs.SZ
open Go Go.AM Go.Ama
theorem zoS(n k:Nat):decide ((n:Int)>(k:Int))= !decide (n≤k):=by
 by_cases h:n≤k<;>simp[h]<;>omega
theorem zqU(l:List D)(hb:Yq (Z2 l)≤4398046511104):Ev 6 [.vec .plain (some 4) (Z2 l)] (.bool (zn2 l)):=by
 have hlen:=zn1 (Z2 l)
 rw[ZX]at hlen
 have hl:=zkf (L:=fun i=>W.loop 6 4 [.int i, .vec .plain (some 4) (Z2 l)] []) (xs:=l) (g:=fun d=>zdt 1000 80 d.t) (e0:=(Ex.exit 0,[],[])) (e1:=(Ex.ret,[V.bool false],[]))
  (fun i hi=>by
   have hp:=(zfe l[i].t 1000 80 (by have:=ztt (List.getElem_mem hi);omega)).p
   have hlt:decide ((i:Int)<l.length)=true:=by simp;omega
   show W.loop _ _ _ _=_
   rw[L,zdp,ZX,XR hi,Z5 ⟨by omega,by omega⟩]
   simp only[hlt,Int.natCast_nonneg,decide_true,Zs,Bool.and_self,Z9,zuM,←Zd,hp,Zb,Zw]
   cases zdt 1000 80 l[i].t<;>rfl)
  (by
   show W.loop _ _ _ _=_
   rw[L,zdp,ZX]
   simp)
 unfold Ev zn2
 have e30:decide ((l.length:Int)>30)= !decide (l.length≤30):=zoS l.length 30
 have hl':W.loop 6 4 [.int 0, .vec .plain (some 4) (Z2 l)] []=_:=hl
 rw[C,zmY,ZX,hl',e30]
 cases decide (l.length≤30)<;>cases l.all (fun d=>zdt 1000 80 d.t)<;>rfl
end Go.Proofs.SZ
namespace Go.Proofs.SZ
open Go Go.AM Go.Ama
set_option maxRecDepth 20000
theorem zpK{n:Nat}{cs:List V}(h:WT Tryz.prog n 3 cs): ∃z:Int,cs=[.int z]∧I64 z:=by
 cases n with
 |zero=>exact h.elim
 |succ n=>
  simp only[WT,Tryz.underlying3]at h
  obtain⟨z,h1,h2⟩:=h
  refine⟨z,h1, ?_⟩
  simpa[Lit.wf,IntKind.min,IntKind.max,IntKind.signed,IntKind.bits,I64]using h2
theorem zoT{n:Nat}{cs:List V}(h:WT Tryz.prog n 9 cs): ∃s:Bytes,cs=[.str (ba s)]:=by
 cases n with
 |zero=>exact h.elim
 |succ n=>
  simp only[WT,Tryz.underlying9]at h
  obtain⟨s,h1,h2⟩:=h
  exact⟨s.data.toList,by rw[ztb];exact h1⟩
theorem zsw:Tryz.prog.cellsOf 3=1:=by kernel_rfl
theorem zn3:Tryz.prog.cellsOf 9=1:=by kernel_rfl
theorem zsx{v:V}(h:Shaped none v):AM.cellsOf v=[v]:=by cases v<;>first|rfl|exact h.elim
theorem zuR{f:Nat}{args:List V}(h:Ev f args (.bool true)): ∃m st,(X5 Tryz.prog cfg ext m).call f args []=some (.ret (.bool true),st):=by
 obtain⟨m,hm⟩:=zsU h
 exact⟨m,[],hm⟩
end Go.Proofs.SZ
namespace Go.Proofs.SZ
open Go Go.AM Go.Ama
set_option maxRecDepth 20000
theorem zsy:shOf Tryz.prog 25=some 3:=by kernel_rfl
theorem zoU:Tryz.prog.cellsOf 23=1:=by kernel_rfl
theorem zky:Tryz.prog.cellsOf 25=3:=by kernel_rfl
theorem zul:shOf Tryz.prog 46=some 4:=by kernel_rfl
theorem ztu:shOf Tryz.prog 22=none:=by kernel_rfl
theorem zqV:Tryz.prog.cellsOf 46=4:=by kernel_rfl
theorem zuS{l:List V}(h:l.length=3): ∃x y z,l=[x,y,z]:=by
 match l,h with
 |[x,y,z],_=>exact⟨x,y,z,rfl⟩
theorem zuT{l:List V}(h:l.length=4): ∃x y z w,l=[x,y,z,w]:=by
 match l,h with
 |[x,y,z,w],_=>exact⟨x,y,z,w,rfl⟩
theorem zkz: ∀n:Nat,(∀cs,WT Tryz.prog n 25 cs→ ∃t,V.agg cs=enc t)∧(∀cs,WT Tryz.prog n 23 cs→ ∃ts,cs=[.vec .plain (some 3) (Zi ts)]):=by
 intro n
 induction n with
 |zero=>exact⟨fun cs h=>h.elim,fun cs h=>h.elim⟩
 |succ n ih=>
  refine⟨fun cs h=> ?_,fun cs h=> ?_⟩
  ·simp only[WT,Tryz.underlying25]at h
   obtain⟨hl,hf⟩:=h
   rw[zky]at hl
   obtain⟨x,y,z,rfl⟩:=zuS hl
   simp only[List.forall_mem_cons]at hf
   obtain⟨f1,f2,f3,_⟩:=hf
   simp only[zsw,zoU,List.drop_zero,List.drop_succ_cons,List.take_succ_cons,List.take_zero]at f1 f2 f3
   obtain⟨k,hk,_⟩:=zpK f1
   obtain⟨h,hh,_⟩:=zpK f2
   obtain⟨ts,hts⟩:=ih.2 _ f3
   cases hk;cases hh;cases hts
   exact⟨.mk k h ts,rfl⟩
  ·simp only[WT,Tryz.underlying23]at h
   obtain⟨es,rfl,_,he⟩:=h
   rw[zsy]at he⊢
   have: ∀es:List V,(∀v∈es,Shaped (some 3) v∧WT Tryz.prog n 25 (AM.cellsOf v))→ ∃ts,es=Zi ts:=by
    intro es
    induction es with
    |nil=>intro _;exact⟨[],rfl⟩
    |cons v es ihe=>
     intro h
     obtain⟨h1,h2⟩:=h v (by simp)
     obtain⟨ts,hts⟩:=ihe fun u hu=>h u (by simp[hu])
     cases v with
     |agg cs=>
      obtain⟨t,ht⟩:=ih.1 cs h2
      exact⟨t::ts,by rw[QX,←ht,hts]⟩
     |_=>exact h1.elim
   obtain⟨ts,rfl⟩:=this es he
   exact⟨ts,rfl⟩
theorem zn4{v:V}(h:(∃n,WT Tryz.prog n 25 (AM.cellsOf v))∧Shaped (shOf Tryz.prog 25) v): ∃t,v=enc t:=by
 obtain⟨⟨n,h1⟩,h2⟩:=h
 rw[zsy]at h2
 cases v with
 |agg cs=>exact(zkz n).1 cs h1
 |_=>exact h2.elim
theorem zqW: ∀n cs,WT Tryz.prog n 46 cs→ ∃d,V.agg cs=Jy d:=by
 intro n cs h
 cases n with
 |zero=>exact h.elim
 |succ n=>
  simp only[WT,Tryz.underlying46]at h
  obtain⟨hl,hf⟩:=h
  rw[zqV]at hl
  obtain⟨x,y,z,w,rfl⟩:=zuT hl
  simp only[List.forall_mem_cons]at hf
  obtain⟨f1,f2,_⟩:=hf
  simp only[zn3,zky,List.drop_zero,List.drop_succ_cons,List.take_succ_cons,List.take_zero]at f1 f2
  obtain⟨s,hs⟩:=zoT f1
  obtain⟨t,ht⟩:=(zkz n).1 _ f2
  cases hs
  obtain⟨k,h,l⟩:=t
  simp only[enc,V.agg.injEq,List.cons.injEq,and_true]at ht
  obtain⟨rfl,rfl,rfl⟩:=ht
  exact⟨⟨s, .mk k h l⟩,rfl⟩
theorem zqX{v:V}(h:(∃n,WT Tryz.prog n 22 (AM.cellsOf v))∧Shaped (shOf Tryz.prog 22) v): ∃l,v= .vec .plain (some 4) (Z2 l):=by
 obtain⟨⟨n,h1⟩,h2⟩:=h
 rw[ztu]at h2
 rw[zsx h2]at h1
 cases n with
 |zero=>exact h1.elim
 |succ n=>
  simp only[WT,Tryz.underlying22]at h1
  obtain⟨es,he0,_,he⟩:=h1
  rw[zul]at he he0
  have: ∀es:List V,(∀v∈es,Shaped (some 4) v∧WT Tryz.prog n 46 (AM.cellsOf v))→ ∃l,es=Z2 l:=by
   intro es
   induction es with
   |nil=>intro _;exact⟨[],rfl⟩
   |cons v es ihe=>
    intro h
    obtain⟨h1,h2⟩:=h v (by simp)
    obtain⟨l,hl⟩:=ihe fun u hu=>h u (by simp[hu])
    cases v with
    |agg cs=>
     obtain⟨d,hd⟩:=zqW n cs h2
     exact⟨d::l,by rw[hl,hd];rfl⟩
    |_=>exact h1.elim
  obtain⟨l,rfl⟩:=this es he
  simp only[List.cons.injEq,and_true]at he0
  exact⟨l,he0⟩
end Go.Proofs.SZ
namespace Go.Proofs.SZ
open Go Go.AM
set_option maxRecDepth 20000
theorem zj7(O:Oracle)(l0:(List V)):Zf Tryz.prog cfg O 7 [.vec .plain (some 4) l0] []=
 Za (O.loop 7 2 [V.int 0,V.vec .plain (some 4) l0] []) fun r1=>Xv r1.fst none (Ze r1.snd.fst fun v2 c3=>Zn v2 fun b4=>Zj c3 (some (Out.ret
 (V.bool b4),[]))) (fun i5=>bc (i5.beq 0) (Zj r1.snd.fst (some (Out.ret (V.bool true),[]))) none) fun v6=>none:=by kernel_rfl
theorem zbI(O:Oracle)(n0:Int)(l1:(List V)):ZC Tryz.prog cfg O 7 2 [.int n0, .vec .plain (some 4) l1] []=
 bc (decide (n0<(↑l1.length:Int))) (gd (decide (0≤n0)&&decide (n0<(↑l1.length:Int))) (YE (ZY l1 n0) fun c1=>gd (decide (1≤c1.length)) (Xg (AM.partOf c1 0
 none) fun s2=>bc (decide ((↑s2.size:Int)>100)) (some (Ex.ret,[V.bool false],[])) (O.2 7 2 [V.int (IntKind.i64.wrap (n0+1)),V.vec .plain (some 4) l1] []))))
 (some (Ex.exit 0,[],[])):=by kernel_rfl
end Go.Proofs.SZ
namespace Go.Proofs.SZ
open Go Go.AM Go.Ama
set_option maxRecDepth 100000
def Jt(l:List D):Bool:=l.all fun d=>decide (d.name.length≤100)
theorem zj8(d:D)(l:List D):Jt (d::l)=(decide (d.name.length≤100)&&Jt l):=rfl
theorem zlH(l:List D)(hl:l.length≤1099511627776): ∀j k,k+j=l.length→
  W.loop 7 2 [.int (k:Nat), .vec .plain (some 4) (Z2 l)] []=some (bif Jt (l.drop k)then(.exit 0,[],[])else(.ret,[.bool false],[])):=by
 intro j
 induction j with
 |zero=>
  intro k hk
  have hkl:k=l.length:=by omega
  subst hkl
  have hlt:decide (((l.length:Nat):Int)<((Z2 l).length:Int))=false:=by simp
  rw[L,zbI,hlt,List.drop_length]
  rfl
 |succ j ih=>
  intro k hk
  have hkl:k<l.length:=by omega
  have hlt:decide (((k:Nat):Int)<((Z2 l).length:Int))=true:=by rw[ZX];simp;omega
  have hlt2:(decide ((0:Int)≤(k:Nat))&&true)=true:=by simp
  have hw:IntKind.i64.wrap ((k:Nat)+1:Int)=((k+1:Nat):Int):=zck (by omega) (by omega)
  have hdr:l.drop k=l[k]::l.drop (k+1):=List.drop_eq_getElem_cons hkl
  have hx:ZY (Z2 l) ((k:Nat):Int)=Jy l[k]:=XR hkl
  have e3: ∀{α:Type} (K:List V→Option α),YE (Jy l[k]) K=K [.str (ba (l[k]).name), .int (l[k]).t.k, .int (l[k]).t.h, .vec .plain (some 3) (Zi (l[k]).t.args)]:=fun K=>rfl
  have e4: ∀{α:Type} (K:ByteArray→Option α),Xg (AM.partOf [.str (ba (l[k]).name), .int (l[k]).t.k, .int (l[k]).t.h, .vec .plain (some 3) (Zi (l[k]).t.args)] 0 none) K=K (ba (l[k]).name):=fun K=>rfl
  rw[L,zbI,hlt,Zs,hlt2,Z9,hx,e3,hdr]
  show gd true (Xg _ _)=_
  rw[Z9,e4,Xf,hw]
  rw[zj8]
  by_cases hn:(l[k]).name.length≤100
  ·have hg:decide (((l[k]).name.length:Int)>100)=false:=decide_eq_false (by omega)
   rw[hg,Zl,ih (k+1) (by omega),decide_eq_true hn,Bool.true_and]
  ·have hg:decide (((l[k]).name.length:Int)>100)=true:=decide_eq_true (by omega)
   rw[hg,Zs,decide_eq_false hn]
   rfl
theorem zlI(l:List D)(hl:l.length≤1099511627776):Ev 7 [.vec .plain (some 4) (Z2 l)] (.bool (Jt l)):=by
 unfold Ev
 have h:=zlH l hl l.length 0 (by omega)
 have h':W.loop 7 2 [V.int 0, .vec .plain (some 4) (Z2 l)] []=some (bif Jt (l.drop 0)then(.exit 0,[],[])else(.ret,[.bool false],[])):=h
 rw[C,zj7,h',List.drop_zero]
 cases hn:Jt l<;>rfl
theorem zoV{sig:List D}(h:zn2 sig=true):sig.length≤30∧ ∀d∈sig,d.t.size≤1000:=by
 unfold zn2 at h
 simp only[Bool.and_eq_true,decide_eq_true_eq,List.all_eq_true]at h
 refine⟨h.1,fun d hd=> ?_⟩
 have:=h.2 d hd
 unfold zdt at this
 simp only[Bool.and_eq_true,decide_eq_true_eq]at this
 have:=this.2.1
 omega
theorem zn5{sig:List D}(h:Jt sig=true): ∀d∈sig,d.name.length≤100:=fun d hd=>by
 unfold Jt at h
 rw[List.all_eq_true]at h
 exact of_decide_eq_true (h d hd)
theorem zum{sig:List D}(hl:sig.length≤1000)(hs: ∀d∈sig,d.name.length≤100)(t:T)(ht:t.size≤1099511627776):
  Zq W 11 [.agg [.int t.k, .int t.h, .vec .plain (some 3) (Zi t.args)], .vec .plain (some 4) (Z2 sig)]=some (.tup [.vec .plain none (X6 (Jr t sig).1), .int (Jr t sig).2]):=by
 have h:=(zeB hl hs t ht).p (by rw[Zh,Q4];simp[Zh,below,ZD]) (by simp[below,Zh,YL])
 rw[Zd]at h
 exact h
theorem ztv{sig:List D}(hl:sig.length≤1000)(hs: ∀d∈sig,d.name.length≤100∧d.t.size≤1099511627776):
  Zq W 10 [.vec .plain (some 4) (Z2 sig)]=some (.tup [.vec .plain none (X6 (zdv sig).1), .int (zdv sig).2]):=
 (ziI sig hl hs).p (by simp[Zh,below,ZD]) (by simp[below,Zh,YL])
theorem zk0: ∀l:List D,l.length≤Yq (Z2 l)
 |[]=>by simp
 |d::l=>by
  have:=zk0 l
  simp only[Z2,List.map_cons,Yq,List.length_cons]at*
  have:1≤Qe (Jy d):=by simp only[Jy,Qe];omega
  omega
end Go.Proofs.SZ
namespace Go.Proofs.SZ
open Go Go.AM Go.Ama
set_option maxRecDepth 100000
section
variable(sig:List D)(hl:sig.length≤1000)(f e:Int)(t:T)(hf:f=0→ ∀d∈sig,nameOK d.name=true∧zc7 d.name sig≤1)
include hl hf
end
end Go.Proofs.SZ
namespace Go.Proofs.SZ
open Go Go.AM Go.Ama
theorem ziN: ∀{l:List Tok} {t:Tok},t∈l→t.2.length≤Yi l
 |(k,s)::l,t,h=>by
  rcases List.mem_cons.1 h with rfl|h
  ·simp only[Yi];omega
  ·have:=ziN h
   simp only[Yi];omega
theorem zpL(b:Bytes):(zeZ b).1.getD []=(zco b).1∧(zeZ b).2=(zco b).2:=by
 unfold zeZ zco
 split
 ·exact⟨rfl,rfl⟩
 ·cases Xq b<;>exact⟨rfl,rfl⟩
theorem zoW(b:Bytes):(zco b).1.length≤20000∧ ∀t∈(zco b).1,t.2.length≤1048576:=by
 unfold zco
 split
 ·exact⟨by simp,by simp⟩
 ·cases h:Xq b with
  |none=>exact⟨by simp,by simp⟩
  |some l=>
   have h1:=zmL b l h
   have h2:=zb8 l (zp5 b l h)
   refine⟨by simp only;omega,fun t ht=> ?_⟩
   have ht:t∈l:=ht
   exact Nat.le_trans (ziN ht) (by omega)
theorem zun(b:Bytes)(h:b.length≤1048576):Zq W 27 [.vec .plain none (X6 b)]=some (.tup [.vec .plain (some 2) (Zx (zco b).1), .int (zco b).2]):=by
 have:=(zhv b h).p (by simp[Zh,below,YL]) (by simp[zdk,below,Zh,Qa])
 rw[zdk,(zpL b).1,(zpL b).2]at this
 exact this
theorem zqY(b:Bytes)(sig:List D)(hb:b.length≤1048576)(hs:sig.length≤999):
  Ev 12 [.vec .plain none (X6 b), .vec .plain (some 4) (Z2 sig)] (.tup [enc (zdu b sig).1, .int (zdu b sig).2]):=by
 have hget: ∀{R:Type} (y:Res) (K:Res→Option R),Z6 [y] 0 K=K y:=fun y K=>rfl
 have h1g: ∀{R:Type} (a b c:V) (X:Option R),gd (decide (1≤ [a,b,c].length)&&true) X=X:=fun a b c X=>rfl
 have h3g: ∀{R:Type} (a b c:V) (X:Option R),gd (decide (3≤ [a,b,c].length)&&true) X=X:=fun a b c X=>rfl
 have c0: ∀(s:PS),Zo (AM.partOf [V.vec .plain (some 2) (Zx s.l),V.vec .plain (some 4) (Z2 s.s),V.int s.e] 0 none)= .vec .plain (some 2) (Zx s.l):=fun s=>rfl
 have c2: ∀(s:PS),Zo (AM.partOf [V.vec .plain (some 2) (Zx s.l),V.vec .plain (some 4) (Z2 s.s),V.int s.e] 2 none)= .int s.e:=fun s=>rfl
 obtain⟨z1,z2⟩:=zoW b
 have hw:=zoJ .plain ⟨(zco b).1,sig,(zco b).2⟩ (by simp only;omega) (by simp only;omega)
 unfold Ev zdu
 rw[C,zlB,zun b hb,Zb,Yo,YS,YG,YS,Yd,ZW]
 have hw':W.call 28 [V.ref 0 0] [Res.box [V.vec .plain (some 2) (Zx (zco b).1),V.vec .plain (some 4) (Z2 sig),V.int (zco b).2]]=_:=hw
 rw[hw',Zb,Zm,ZA,←Zd]
 dsimp only
 generalize(PS.whole ⟨(zco b).1,sig,(zco b).2⟩)=r
 obtain⟨t,s⟩:=r
 dsimp only
 have fin: ∀s:PS,(bc (s.e !=0) (some (Out.ret (V.tup [V.agg [V.int 0,V.int 0,V.vec .plain (some 3) []],V.int s.e]),([]:St))) (gd (below 0 (V.tup [enc t,V.int 0])&&Zu 0 []) (some (Out.ret (V.tup [enc t,V.int 0]),[]))))=
   some (Out.ret (V.tup [enc (if s.e≠0 then(T0,s.e)else(t,0)).1,V.int (if s.e≠0 then(T0,s.e)else(t,(0:Int))).2]),[]):=by
  intro s
  rw[zp4]
  have hbl:below 0 (V.tup [enc t,V.int 0])=true:=by simp[below,Zh,Q4]
  by_cases he:s.e=0
  ·simp only[he,decide_true,Bool.not_true,Zl,hbl,ne_eq,not_true_eq_false,if_false,Bool.true_and];rfl
  ·simp only[he,decide_false,Bool.not_false,Zs,ne_eq,not_false_eq_true,if_true];rfl
 have hf:=QN .plain s 8
 by_cases hl:s.l=[]
 ·have hp:decide ((((Zx s.l).length:Nat):Int)>0)=false:=by simp[hl,Zx]
  have:=fin s
  rw[show(if s.l≠ []then s.fail 8 else s)=s from if_neg fun h=>h hl]
  simp only[hget,YM,JA,h1g,h3g,c0,c2,YG,Yd,hp,Zl,this]
 ·have hp:decide ((((Zx s.l).length:Nat):Int)>0)=true:=by simp;exact List.length_pos_iff.2 hl
  have:=fin (s.fail 8)
  unfold YM at hf
  rw[show(if s.l≠ []then s.fail 8 else s)=s.fail 8 from if_pos hl]
  simp only[hget,YM,JA,h1g,h3g,c0,c2,YG,Yd,hp,Zs,hf,Zb,Zm,Yo,ZW,this]
end Go.Proofs.SZ
namespace Go.Ama
open Go Go.AM
theorem zdC(g:Int→T→Bool)(i:Int): ∀l:List T,XJ g i false l=l.all (allW g i)
 |[]=>rfl
 |[t]=>by simp[XJ]
 |t::u::l=>by
  have:=zdC g i (u::l)
  simp only[XJ,this,List.all_cons]
def Sc(i:Nat)(t:T):Prop:=allW (ztc 0 0) i t=true
section
variable{term:List Bytes→PS→T×PS}{bs:List Bytes}(ht: ∀s,Sc bs.length (term bs s).1)(hb:bs.length≤2000)
include ht hb
end
theorem Ju{s r:PS}(h:Mono s r)(hr:r.e=0):s.e=0:=by
 rcases Decidable.em (s.e=0)with he|he
 ·exact he
 ·rw[h.err he]at hr;exact hr
end Go.Ama
namespace Go.Ama
open Go.AM (T)
def PS.more(s:PS)(x:List Tok):PS:={s with l:=s.l++x}
def zuo(f:PS→T×PS):Prop:= ∀s x,(f s).2.e=0→(f s).2.l≠ []→f (s.more x)=((f s).1,(f s).2.more x)
section
variable{term:List Bytes→PS→T×PS}(hm: ∀bs s,Mono s (term bs s).2)(hb: ∀bs,zuo (term bs))
include hm hb
omit hb in
end
end Go.Ama
namespace Go.Ama
open Go.AM (T)
structure Sim(φ:PS→PS)(ψ:List Bytes→List Bytes)(G:PS→Prop):Prop where
 mono: ∀{s r},G s→Mono s r→G r
 cons: ∀x bs,ψ (x::bs)=x::ψ bs
 is: ∀{s} c,G s→(c=[40]∨c=[91]∨c=[123])→(φ s).is c=s.is c
 named: ∀{s},G s→(φ s).named=s.named
 take: ∀{s} c,G s→(s.take c).e=0→(φ s).take c=φ (s.take c)
 name: ∀{s},G s→s.name.2.e=0→(φ s).name=(s.name.1,φ s.name.2)
 head: ∀{s} bs,G s→s.name.2.e=0→(s.name.2.head s.name.1 bs).2.e=0→(φ s.name.2).head s.name.1 (ψ bs)=((s.name.2.head s.name.1 bs).1,φ (s.name.2.head s.name.1 bs).2)
 len: ∀s,s.l.length≤(φ s).l.length
 err: ∀s,(φ s).e=s.e
section
variable{φ:PS→PS}{ψ:List Bytes→List Bytes}{G:PS→Prop}(S:Sim φ ψ G)
include S
theorem Sim.alone{s:PS}(g:G s)(he:s.alone.e=0):(φ s).alone=φ s.alone:=by
 unfold PS.alone at*
 rw[S.named g,S.is [40] g (.inl rfl)]
 split
 ·rename_i h;rw[if_pos h]at he;exact absurd he zkt
 ·rfl
def zsz(φ:PS→PS)(G:PS→Prop)(f f':PS→T×PS):Prop:= ∀s,G s→(f s).2.e=0→f' (φ s)=((f s).1,φ (f s).2)
section
variable{term term':List Bytes→PS→T×PS}(hm: ∀bs s,Mono s (term bs s).2)(hm': ∀bs s,Mono s (term' bs s).2)(hb: ∀bs,zsz φ G (term bs) (term' (ψ bs)))
include hm hb
theorem Sim.inner(bs:List Bytes):zsz φ G (PS.inner term bs) (PS.inner term' (ψ bs)):=by
 intro s g he
 unfold PS.inner at*
 dsimp only at*
 have e2:=Ju (ZV [41] _) he
 have e1:=Ju (hm bs (s.take [40])) e2
 have g1:=S.mono g (ZV [40] s)
 have g2:=S.mono g1 (hm bs _)
 rw[S.take _ g e1,hb bs _ g1 e2,S.take _ g2 he]
theorem Sim.atom(bs:List Bytes):zsz φ G (PS.atom term bs) (PS.atom term' (ψ bs)):=by
 intro s g he
 unfold PS.atom at*
 rw[S.is [40] g (.inl rfl)]
 split
 ·rename_i h
  rw[if_pos h]at he
  exact S.inner hm hb bs s g he
 ·rename_i h
  rw[if_neg h]at he
  dsimp only at*
  by_cases ht:s.name.1=typ
  ·rw[if_pos ht]at he
   exact absurd he zkt
  ·rw[if_neg ht]at he⊢
   have e1:=Ju (Ja _ _ _) he
   rw[S.name g e1]
   dsimp only
   rw[if_neg ht,S.head bs g e1 he]
include hm'
theorem Sim.args(bs:List Bytes): ∀m k s,s.l.length≤m→(φ s).l.length≤k→G s→(PS.args term bs m s).2.e=0→PS.args term' (ψ bs) k (φ s)=((PS.args term bs m s).1,φ (PS.args term bs m s).2):=by
 intro m
 induction m with
 |zero=>
  intro k s h h' g he
  have hnil:s.l=[]:=List.eq_nil_of_length_eq_zero (by omega)
  have h1:(φ s).named=false:=by rw[S.named g];simp[PS.named,hnil]
  have h2:(φ s).is [40]=false:=by rw[S.is [40] g (.inl rfl)];simp[PS.is,hnil]
  cases k<;>simp[PS.args,h1,h2]
 |succ m ih=>
  intro k s h h' g he
  by_cases hc:(s.named||s.is [40])=true
  ·have hlt:=zlD hm (bs:=bs) hc
   have hc':((φ s).named||(φ s).is [40])=true:=by rw[S.named g,S.is [40] g (.inl rfl)];exact hc
   have hlt':=zlD hm' (bs:=ψ bs) hc'
   obtain⟨k,rfl⟩: ∃j,k=j+1:=⟨k-1,by omega⟩
   unfold PS.args at he⊢
   rw[if_pos hc]at he
   rw[if_pos hc,if_pos hc']
   dsimp only at*
   have e1:=Ju (zdZ hm bs m _) he
   have ha:=S.atom hm hb bs s g e1
   rw[ha]at hlt'⊢
   dsimp only at*
   rw[ih k _ (by omega) (by omega) (S.mono g (zgF hm bs s)) he]
  ·have hc': ¬((φ s).named||(φ s).is [40])=true:=by rw[S.named g,S.is [40] g (.inl rfl)];exact hc
   have e1:PS.args term bs (m+1) s=([],s):=by unfold PS.args;rw[if_neg hc]
   have e2:PS.args term' (ψ bs) k (φ s)=([],φ s):=by
    cases k with
    |zero=>rfl
    |succ k=>unfold PS.args;rw[if_neg hc']
   rw[e1,e2]
theorem Sim.atoms(bs:List Bytes):zsz φ G (PS.atoms term bs) (PS.atoms term' (ψ bs)):=by
 intro s g he
 unfold PS.atoms at*
 rw[S.is [40] g (.inl rfl)]
 split
 ·rename_i h
  rw[if_pos h]at he
  dsimp only at*
  have e1:=Ju (zaF _) he
  rw[S.inner hm hb bs s g e1,S.alone (S.mono g (zfh hm bs s)) he]
 ·rename_i h
  rw[if_neg h]at he
  dsimp only at*
  by_cases h1:s.name.2.e≠0
  ·rw[if_pos h1]at he
   exact absurd he h1
  ·rw[if_neg h1]at he⊢
   have e1:s.name.2.e=0:=by simpa using h1
   have g1:=S.mono g (Y7 s)
   rw[S.name g e1]
   dsimp only
   rw[S.err,if_neg h1]
   split
   ·rename_i h2
    rw[if_pos h2]at he
    rw[S.alone g1 he]
   ·rename_i h2
    rw[if_neg h2]at he
    have e2:=Ju (zdZ hm bs _ _) he
    rw[S.head bs g e1 e2]
    dsimp only
    rw[S.args hm hm' hb bs _ _ _ (Nat.le_refl _) (Nat.le_refl _) (S.mono g1 (Ja _ _ _)) he]
end
theorem Sim.term: ∀n bs,zsz φ G (PS.term n bs) (PS.term n (ψ bs))
 |0,bs=>fun s _ he=>absurd he (zpB (by decide) _)
 |n+1,bs=>fun s g he=>by
  have ih:=Sim.term n
  unfold PS.term at*
  rw[S.is [123] g (.inr (.inr rfl)),S.is [91] g (.inr (.inl rfl))]
  split
  ·rename_i h
   rw[if_pos h]at he
   dsimp only at*
   have m1:=ZV [123] s
   have m2:=Y7 (s.take [123])
   have m3:=ZV [58] (s.take [123]).name.2
   have m4:=Q5 n bs ((s.take [123]).name.2.take [58])
   have m5:=ZV [125] (PS.term n bs ((s.take [123]).name.2.take [58])).2
   have m6:=Q5 n ((s.take [123]).name.1::bs) ((PS.term n bs ((s.take [123]).name.2.take [58])).2.take [125])
   have e5:=Ju m6 he
   have e4:=Ju m5 e5
   have e3:=Ju m4 e4
   have e2:=Ju m3 e3
   have e1:=Ju m2 e2
   have g1:=S.mono g m1
   have g2:=S.mono g1 m2
   have g3:=S.mono g2 m3
   have g4:=S.mono g3 m4
   have g5:=S.mono g4 m5
   rw[S.take _ g e1,S.name g1 e2]
   dsimp only
   rw[S.take _ g2 e3,ih bs _ g3 e4]
   dsimp only
   rw[S.take _ g4 e5,←S.cons,ih _ _ g5 he]
  ·rename_i h
   rw[if_neg h]at he
   split
   ·rename_i h'
    rw[if_pos h']at he
    dsimp only at*
    have m1:=ZV [91] s
    have m2:=Y7 (s.take [91])
    have m3:=ZV [93] (s.take [91]).name.2
    have m4:=Q5 n ((s.take [91]).name.1::bs) ((s.take [91]).name.2.take [93])
    have e3:=Ju m4 he
    have e2:=Ju m3 e3
    have e1:=Ju m2 e2
    have g1:=S.mono g m1
    have g2:=S.mono g1 m2
    have g3:=S.mono g2 m3
    rw[S.take _ g e1,S.name g1 e2]
    dsimp only
    rw[S.take _ g2 e3,←S.cons,ih _ _ g3 he]
   ·rename_i h'
    rw[if_neg h']at he
    exact S.atoms (Q5 n) (Q5 n) ih bs s g he
end
end Go.Ama
namespace Go.Ama
open Go.AM (T)
def zvp(f g:PS→T×PS):Prop:= ∀s,(g s).2.e=0→f s=g s∨(f s).2.e=4
theorem e4{s r:PS}(h:Mono s r)(h4:s.e=4):r.e=4:=by rw[h.err (by rw[h4];decide)];exact h4
theorem zk1(f:List Bytes→PS→T×PS)(bs:List Bytes)(m:Nat)(s:PS):PS.args f bs (m+1) s=if s.named||s.is [40]then((s.atom f bs).1::(PS.args f bs m (s.atom f bs).2).1,(PS.args f bs m (s.atom f bs).2).2)else([],s):=rfl
theorem zeb(n:Nat)(bs:List Bytes)(s:PS):PS.term (n+1) bs s=if s.is [123]then
   (.mk 1 0 [(PS.term n bs ((s.take [123]).name.2.take [58])).1,(PS.term n ((s.take [123]).name.1::bs) ((PS.term n bs ((s.take [123]).name.2.take [58])).2.take [125])).1],(PS.term n ((s.take [123]).name.1::bs) ((PS.term n bs ((s.take [123]).name.2.take [58])).2.take [125])).2)
  else if s.is [91]then
   (.mk 3 0 [(PS.term n ((s.take [91]).name.1::bs) ((s.take [91]).name.2.take [93])).1],(PS.term n ((s.take [91]).name.1::bs) ((s.take [91]).name.2.take [93])).2)
  else s.atoms (PS.term n) bs:=rfl
section
variable{f g:List Bytes→PS→T×PS}(hf: ∀bs s,Mono s (f bs s).2)(hg: ∀bs s,Mono s (g bs s).2)(hb: ∀bs,zvp (f bs) (g bs))
include hb
include hf hg
end
theorem zqZ{b:Bytes}{l:List Tok}(hb:b.length≤20000)(h:Xq b=some l):zco b=(l,0):=by
 unfold zco
 rw[if_neg (by omega),h]
def finish(r:T×PS):T×Int:=if(if r.2.l≠ []then r.2.fail 8 else r.2).e≠0 then(T0,(if r.2.l≠ []then r.2.fail 8 else r.2).e)else(r.1,0)
theorem zra(b:Bytes)(sig:List D):zdu b sig=finish (PS.whole ⟨(zco b).1,sig,(zco b).2⟩):=rfl
theorem zs0(s:PS):s.whole=((PS.term 120 [] s).1,if may (PS.term 120 [] s).1 then(PS.term 120 [] s).2 else(PS.term 120 [] s).2.fail 4):=rfl
theorem zrb{b:Bytes}{sig:List D}{l:List Tok}(hb:b.length≤20000)(h:Xq b=some l):zdu b sig=finish (PS.whole ⟨l,sig,0⟩):=by
 rw[zra,zqZ hb h]
end Go.Ama
namespace Go.Ama
open Go Go.AM
def zk2(sig:List D)(h:Int):Int:=(split ((sig.map (·.t)).getD h.toNat T0)).2.k
def kindB(sig:List D)(_:Int)(t:T):Bool:=(decide (t.k≠2)||decide (zk2 sig t.h=0))&&(decide (t.k≠5)||decide (zk2 sig t.h≠0))
structure Good(sig:List D):Prop where
 name: ∀d∈sig,nameOK d.name=true
 nodup:(sig.map (·.name)).Nodup
def zh3:Nat→List Bytes
 |0=> []
 |d+1=>(95::Lib.decDigits d)::zh3 d
def stop:List Tok→Bool
 |[]=>true
 |t::_=>decide (t.1=1)&&decide (t.2≠ [40])
theorem zlJ{n:Nat}(h:n<100):Lib.decDigits n=if n<10 then[UInt8.ofNat (48+n)]else[UInt8.ofNat (48+n/10),UInt8.ofNat (48+n % 10)]:=by
 rw[Lib.decDigits]
 split
 ·rfl
 ·rw[Lib.decDigits,dif_pos (by omega)]
  rfl
theorem zlK: ∀a b:Fin 100,(if a.val<10 then[UInt8.ofNat (48+a.val)]else[UInt8.ofNat (48+a.val/10),UInt8.ofNat (48+a.val % 10)])=(if b.val<10 then[UInt8.ofNat (48+b.val)]else[UInt8.ofNat (48+b.val/10),UInt8.ofNat (48+b.val % 10)])→a=b:=by decide+kernel
theorem zs1{a b:Nat}(ha:a<100)(hb:b<100)(h:Lib.decDigits a=Lib.decDigits b):a=b:=by
 rw[zlJ ha,zlJ hb]at h
 have:=zlK ⟨a,ha⟩ ⟨b,hb⟩ h
 exact congrArg Fin.val this
theorem zk3: ∀{d i:Nat},i<d→d≤100→zj5 (95::Lib.decDigits i) (zh3 d)=some (d-1-i)
 |d+1,i,hi,hd=>by
  simp only[zh3,zj5]
  by_cases h:i=d
  ·subst h
   rw[if_pos rfl];congr 1;omega
  ·rw[if_neg fun e=>h (zs1 (by omega) (by omega) (List.cons.inj e).2).symm,zk3 (by omega) (by omega)]
   simp;omega
theorem zk4{x:Bytes}(h:x.head? ≠some 95): ∀d,zj5 x (zh3 d)=none
 |0=>rfl
 |d+1=>by
  simp only[zh3,zj5]
  rw[if_neg fun e=>h (by rw[←e];rfl),zk4 h d]
  rfl
theorem zs2: ∀{sig:List D} {i:Nat} (hi:i<sig.length),(sig.map (·.name)).Nodup→idx (sig[i]).name sig=some i
 |d::l,0,_,_=>by simp[idx]
 |d::l,i+1,hi,h=>by
  simp only[List.getElem_cons_succ,idx]
  have hi':i<l.length:=by simpa using hi
  rw[List.map_cons,List.nodup_cons]at h
  rw[if_neg fun e=>h.1 (by rw[e];exact List.mem_map.2 ⟨_,List.getElem_mem hi',rfl⟩),zs2 hi' h.2]
  rfl
section
variable{sig:List D}(G:Good sig)
include G
theorem zk5{k h:Int}{d:Nat}{tk:Tok}(hh:0≤h)(hd:d≤100)(hT:Xc sig k h d=some tk)(hk:kindB sig 0 (.mk k h [])=true)(l:List Tok):
  tk.1=0∧tk.2≠typ∧PS.head tk.2 (zh3 d) ⟨l,sig,0⟩=(.mk k h [],⟨l,sig,0⟩):=by
 unfold Xc at hT
 by_cases h4:k=4∧h<d
 ·rw[if_pos h4]at hT
  cases hT
  obtain⟨rfl,hlt⟩:=h4
  refine⟨rfl,by simp[Yu,typ], ?_⟩
  have:(Yu (d-1-h)).2=95::Lib.decDigits (d-1-h.toNat):=by
   simp only[Yu]
   congr 2
   omega
  unfold PS.head
  rw[this,zk3 (by omega) hd]
  simp only[Prod.mk.injEq,and_true]
  congr 1
  omega
 ·rw[if_neg h4]at hT
  by_cases h2:(k=2∨k=5)∧h<sig.length
  ·rw[if_pos h2,List.getElem?_eq_getElem (by omega)]at hT
   cases hT
   have hi:h.toNat<sig.length:=by omega
   have hn:=G.name _ (List.getElem_mem hi)
   unfold nameOK at hn
   simp only[Bool.and_eq_true,decide_eq_true_eq]at hn
   refine⟨rfl,hn.1.2, ?_⟩
   unfold PS.head
   simp only[zk4 hn.1.1.2 d,zs2 hi G.nodup]
   unfold kindB zk2 at hk
   simp only[Bool.and_eq_true,Bool.or_eq_true,T.k,T.h]at hk
   have hki:(if(split ((sig.map (·.t)).getD h.toNat T0)).2.k=0 then(2:Int)else 5)=k:=by
    rcases h2.1 with rfl|rfl
    ·rcases hk.1 with e|e
     ·exact absurd rfl (of_decide_eq_true e)
     ·exact if_pos (of_decide_eq_true e)
    ·rcases hk.2 with e|e
     ·exact absurd rfl (of_decide_eq_true e)
     ·exact if_neg (of_decide_eq_true e)
   rw[hki]
   simp only[Prod.mk.injEq,and_true]
   congr 1
   omega
  ·rw[if_neg h2]at hT
   cases hT
theorem ziO{l:List Tok}(h:stop l=true)(s:List D):PS.named ⟨l,s,0⟩=false∧PS.is [40] ⟨l,s,0⟩=false:=by
 cases l with
 |nil=>exact⟨rfl,rfl⟩
 |cons t l=>
  simp only[stop,Bool.and_eq_true,decide_eq_true_eq]at h
  simp[PS.named,PS.is,h.1,h.2]
theorem zk6: ∀(l:List T) (d:Nat),Jq sig l d=true→l.length≤(YI sig l d).length
 |[],_,_=>by simp
 |t::l,d,h=>by
  simp only[Jq,Bool.and_eq_true]at h
  have:=zk6 l d h.2
  simp only[YI,List.length_cons,List.length_append]
  cases hs:Jp t with
  |false=>simp only[cond_false,List.length_cons,List.length_append];omega
  |true=>
   obtain⟨k,hd,xs⟩:=t
   unfold Jp at hs
   simp only[Bool.and_eq_true,decide_eq_true_eq,T.args,zoA,T.k,Bool.or_eq_true,beq_iff_eq]at hs
   have h1:=h.1
   unfold okW at h1
   rw[if_neg (by omega),if_neg (by omega),if_neg (by omega),Bool.and_eq_true]at h1
   have:1≤(words sig (.mk k hd xs) d).length:=by
    unfold words
    rw[if_neg (by omega),if_neg (by omega),if_neg (by omega)]
    cases hT:Xc sig k hd d with
    |none=>rw[hT]at h1;cases h1.1
    |some x=>simp
   simp only[cond_true]
   omega
theorem zaG: ∀(n:Nat) (t:T) (d:Nat) (rest:List Tok),Y5 t=true→okW sig t d=true→(∀i,allW (kindB sig) i t=true)→t.depth≤n→d+t.depth≤100→stop rest=true→
  PS.term n (zh3 d) ⟨words sig t d++rest,sig,0⟩=(t,⟨rest,sig,0⟩)
 |0,t,d,rest,_,_,_,h,_,_=>by cases t;simp only[T.depth]at h;omega
 |n+1, .mk k h xs,d,rest,hn,ho,hk,hdn,hd,hst=>by
  simp only[Y5,Bool.and_eq_true]at hn
  simp only[T.depth]at hdn hd
  unfold okW at ho
  have hk0:=hk 0
  simp only[allW,Bool.and_eq_true]at hk0
  unfold words
  by_cases h0:k=0
  ·subst h0
   have:=hn.1
   unfold zaL at this
   simp only[if_true,Bool.and_eq_true,decide_eq_true_eq]at this
   obtain⟨rfl,hx⟩:=this
   obtain rfl:=List.length_eq_zero_iff.1 hx
   obtain⟨h1,h2⟩:=ziO G hst sig
   rw[zeb]
   simp only[if_true,List.cons_append,List.nil_append]
   rw[if_neg (by simp[PS.is]),if_neg (by simp[PS.is])]
   unfold PS.atoms
   rw[if_neg (by simp[PS.is])]
   have hnm:(PS.name ⟨(0,typ)::rest,sig,0⟩)=(typ,⟨rest,sig,0⟩):=rfl
   simp only[hnm]
   rw[if_neg (by simp),if_pos trivial]
   unfold PS.alone
   rw[h1,h2]
   rfl
  ·rw[if_neg h0]at ho⊢
   by_cases h1:k=1
   ·subst h1
    rw[if_pos rfl]at ho⊢
    have hx:=hn.1
    unfold zaL at hx
    simp only[if_neg h0,if_true,Bool.and_eq_true,decide_eq_true_eq]at hx
    obtain⟨rfl,hx⟩:=hx
    match xs,hx,hn,ho,hk,hdn,hd with
    |[a,b],_,hn,ho,hk,hdn,hd=>
     simp only[ztX,Bool.and_eq_true]at ho
     simp only[Y6,Bool.and_eq_true]at hn
     simp only[ZF]at hdn hd
     have hka: ∀i,allW (kindB sig) i a=true:=fun i=>by have:=hk i;simp only[allW,XJ,Bool.and_eq_true]at this;exact this.2.1
     have hkb: ∀i,allW (kindB sig) i b=true:=fun i=>by
      have:=hk (i-1);simp only[allW,XJ,Bool.and_eq_true,decide_true,Bool.true_or,cond_true]at this;rw[Int.sub_add_cancel]at this;exact this.2.2
     have ha:=zaG n a d (Xo 125::(words sig b (d+1)++rest)) hn.2.1 ho.1 hka (by omega) (by omega) (by simp[stop,Xo])
     have hb:=zaG n b (d+1) rest hn.2.2.1 ho.2 hkb (by omega) (by omega) hst
     rw[zeb]
     simp only[wPi,List.cons_append,List.append_assoc]
     rw[if_pos (by simp[PS.is,Xo])]
     have e1:(PS.take [123] ⟨Xo 123::Yu d::Xo 58::(words sig a d++Xo 125::(words sig b (d+1)++rest)),sig,0⟩).name=(95::Lib.decDigits d,⟨Xo 58::(words sig a d++Xo 125::(words sig b (d+1)++rest)),sig,0⟩):=by
      simp[PS.take,PS.token,PS.is,PS.name,PS.named,Xo,Yu]
     have e2:PS.take [58] ⟨Xo 58::(words sig a d++Xo 125::(words sig b (d+1)++rest)),sig,0⟩=⟨words sig a d++Xo 125::(words sig b (d+1)++rest),sig,0⟩:=by
      simp[PS.take,PS.token,PS.is,Xo]
     have e3:PS.take [125] ⟨Xo 125::(words sig b (d+1)++rest),sig,0⟩=⟨words sig b (d+1)++rest,sig,0⟩:=by
      simp[PS.take,PS.token,PS.is,Xo]
     have hb':PS.term n ((95::Lib.decDigits d)::zh3 d) ⟨words sig b (d+1)++rest,sig,0⟩=(b,⟨rest,sig,0⟩):=hb
     simp only[e1,e2,ha,e3,hb']
   ·rw[if_neg h1]at ho⊢
    by_cases h3:k=3
    ·subst h3
     rw[if_pos rfl]at ho⊢
     have hx:=hn.1
     unfold zaL at hx
     simp only[if_neg h0,if_neg h1,if_true,Bool.and_eq_true,decide_eq_true_eq]at hx
     obtain⟨rfl,hx⟩:=hx
     match xs,hx,hn,ho,hk,hdn,hd with
     |[b],_,hn,ho,hk,hdn,hd=>
      simp only[zp8]at ho
      simp only[Y6,Bool.and_eq_true]at hn
      simp only[ZF]at hdn hd
      have hkb: ∀i,allW (kindB sig) i b=true:=fun i=>by
       have:=hk (i-1);simp only[allW,XJ,Bool.and_eq_true,decide_true,Bool.or_true,cond_true]at this;rw[Int.sub_add_cancel]at this;exact this.2
      have hb:=zaG n b (d+1) rest hn.2.1 ho hkb (by omega) (by omega) hst
      rw[zeb]
      simp only[znk,List.cons_append,List.append_assoc]
      have i1:PS.is [123] ⟨Xo 91::Yu d::Xo 93::(words sig b (d+1)++rest),sig,0⟩=false:=by simp[PS.is,Xo]
      have i2:PS.is [91] ⟨Xo 91::Yu d::Xo 93::(words sig b (d+1)++rest),sig,0⟩=true:=by simp[PS.is,Xo]
      simp only[i1,i2,Bool.false_eq_true,if_false,if_true]
      have e1:(PS.take [91] ⟨Xo 91::Yu d::Xo 93::(words sig b (d+1)++rest),sig,0⟩).name=(95::Lib.decDigits d,⟨Xo 93::(words sig b (d+1)++rest),sig,0⟩):=by
       simp[PS.take,PS.token,PS.is,PS.name,PS.named,Xo,Yu]
      have e2:PS.take [93] ⟨Xo 93::(words sig b (d+1)++rest),sig,0⟩=⟨words sig b (d+1)++rest,sig,0⟩:=by
       simp[PS.take,PS.token,PS.is,Xo]
      have hb':PS.term n ((95::Lib.decDigits d)::zh3 d) ⟨words sig b (d+1)++rest,sig,0⟩=(b,⟨rest,sig,0⟩):=hb
      simp only[e1,e2,hb']
    ·rw[if_neg h3]at ho⊢
     rw[Bool.and_eq_true]at ho
     have hh:0≤h:=by
      have:=hn.1
      unfold zaL at this
      rw[if_neg h0,if_neg h1,if_neg h3]at this
      simp only[Bool.and_eq_true,decide_eq_true_eq]at this
      exact this.2.2
     obtain⟨tk,hT⟩:=Option.isSome_iff_exists.1 ho.1
     obtain⟨g1,g2,g3⟩:=zk5 G hh (by omega) hT hk0.1 (YI sig xs d++rest)
     obtain⟨tk1,tk2⟩:=tk
     have g1:tk1=0:=g1
     subst g1
     have hb:(decide (k=1)||decide (k=3))=false:=by simp[h1,h3]
     rw[zeb]
     simp only[hT,Option.toList_some,List.cons_append,List.nil_append]
     rw[if_neg (by simp[PS.is]),if_neg (by simp[PS.is])]
     unfold PS.atoms
     rw[if_neg (by simp[PS.is])]
     have e1:PS.name ⟨(0,tk2)::(YI sig xs d++rest),sig,0⟩=(tk2,⟨YI sig xs d++rest,sig,0⟩):=by simp[PS.name,PS.token,PS.named]
     simp only[e1]
     rw[if_neg (by simp),if_neg g2]
     simp only[g3,T.k,T.h]
     have hargs: ∀(l:List T),Y6 l=true→Jq sig l d=true→(∀a∈l,∀i,allW (kindB sig) i a=true)→ZF l≤n→d+ZF l≤99→ ∀m,l.length≤m→
       PS.args (PS.term n) (zh3 d) m ⟨YI sig l d++rest,sig,0⟩=(l,⟨rest,sig,0⟩):=by
      intro l
      induction l with
      |nil=>
       intro _ _ _ _ _ m _
       obtain⟨q1,q2⟩:=ziO G hst sig
       cases m with
       |zero=>rfl
       |succ m=>rw[zk1];simp only[YI,List.nil_append,q1,q2];rfl
      |cons a l ihl=>
       intro hn ho hk hdn hd m hm
       simp only[Y6,Bool.and_eq_true]at hn
       simp only[Jq,Bool.and_eq_true]at ho
       simp only[ZF]at hdn hd
       simp only[List.length_cons]at hm
       obtain⟨m,rfl⟩: ∃j,m=j+1:=⟨m-1,by omega⟩
       have hl:=ihl hn.2 ho.2 (fun b hb=>hk b (List.mem_cons_of_mem _ hb)) (by omega) (by omega) m (by omega)
       have hka:=hk a (List.mem_cons_self ..)
       rw[zk1]
       simp only[YI,List.append_assoc]
       cases hs:Jp a with
       |false=>
        simp only[cond_false,List.cons_append,List.append_assoc,List.nil_append]
        have ha:=zaG n a d (Xo 41::(YI sig l d++rest)) hn.1 ho.1 hka (by omega) (by omega) (by simp[stop,Xo])
        have e2:PS.atom (PS.term n) (zh3 d) ⟨Xo 40::(words sig a d++Xo 41::(YI sig l d++rest)),sig,0⟩=(a,⟨YI sig l d++rest,sig,0⟩):=by
         unfold PS.atom
         rw[if_pos (by simp[PS.is,Xo])]
         unfold PS.inner
         have e3:PS.take [40] ⟨Xo 40::(words sig a d++Xo 41::(YI sig l d++rest)),sig,0⟩=⟨words sig a d++Xo 41::(YI sig l d++rest),sig,0⟩:=by
          simp[PS.take,PS.token,PS.is,Xo]
         have e4:PS.take [41] ⟨Xo 41::(YI sig l d++rest),sig,0⟩=⟨YI sig l d++rest,sig,0⟩:=by
          simp[PS.take,PS.token,PS.is,Xo]
         simp only[e3,ha,e4]
        rw[if_pos (by simp[PS.is,Xo])]
        simp only[e2,hl]
       |true=>
        obtain⟨ka,ha,ys⟩:=a
        unfold Jp at hs
        simp only[Bool.and_eq_true,decide_eq_true_eq,T.args,zoA,T.k,Bool.or_eq_true,beq_iff_eq]at hs
        obtain⟨hy,hkk⟩:=hs
        obtain rfl:=List.length_eq_zero_iff.1 (of_decide_eq_true hy)
        have h1:=ho.1
        unfold okW at h1
        rw[if_neg (by omega),if_neg (by omega),if_neg (by omega),Bool.and_eq_true]at h1
        obtain⟨ta,hTa⟩:=Option.isSome_iff_exists.1 h1.1
        have hha:0≤ha:=by
         have:=hn.1
         simp only[Y5,Bool.and_eq_true]at this
         have:=this.1
         unfold zaL at this
         rw[if_neg (by omega),if_neg (by omega),if_neg (by omega)]at this
         simp only[Bool.and_eq_true,decide_eq_true_eq]at this
         exact this.2.2
        have hk0:=hka 0
        simp only[allW,Bool.and_eq_true]at hk0
        obtain⟨g1,g2,g3⟩:=zk5 G hha (by omega) hTa hk0.1 (YI sig l d++rest)
        obtain⟨t1,t2⟩:=ta
        have g1:t1=0:=g1
        subst g1
        have ew:words sig (.mk ka ha []) d=[(0,t2)]:=by
         unfold words
         rw[if_neg (by omega),if_neg (by omega),if_neg (by omega),hTa]
         rfl
        simp only[cond_true,ew,List.cons_append,List.nil_append]
        have e2:PS.atom (PS.term n) (zh3 d) ⟨(0,t2)::(YI sig l d++rest),sig,0⟩=(.mk ka ha [],⟨YI sig l d++rest,sig,0⟩):=by
         unfold PS.atom
         rw[if_neg (by simp[PS.is])]
         have e3:PS.name ⟨(0,t2)::(YI sig l d++rest),sig,0⟩=(t2,⟨YI sig l d++rest,sig,0⟩):=by simp[PS.name,PS.token,PS.named]
         simp only[e3]
         rw[if_neg g2,g3]
        rw[if_pos (by simp[PS.named])]
        simp only[e2,hl]
     have hkx: ∀a∈xs,∀i,allW (kindB sig) i a=true:=by
      intro a ha i
      have:=hk i
      simp only[allW,Bool.and_eq_true,hb]at this
      have h2:=this.2
      rw[zdC,List.all_eq_true]at h2
      exact h2 a ha
     rw[hargs xs hn.2 ho.2 hkx (by omega) (by omega) _ (by rw[List.length_append];have:=zk6 G xs d ho.2;omega)]
end
end Go.Ama
namespace Go.Ama
open Go Go.AM
mutual
def headsN(n:Nat):T→Bool
 | .mk k h xs=> !((decide (k=2)||decide (k=5))&&decide ((n:Int)≤h))&&zs3 n xs
def zs3(n:Nat):List T→Bool
 |[]=>true
 |t::l=>headsN n t&&zs3 n l
end
end Go.Ama
namespace Go.Ama
open Go Go.AM
structure Rd(sig:List D)(t:T):Prop where
 kind: ∀i,allW (kindB sig) i t=true
 head:headsN sig.length t=true
section
variable{sig:List D}{term:List Bytes→PS→T×PS}{bs:List Bytes}(ht: ∀s,s.s=sig→Rd sig (term bs s).1)(hm: ∀bs s,Mono s (term bs s).2)
include ht hm
end
theorem zgH{n:Int}(h:n<100):ze6 (Yu n):=by
 refine .inr ⟨rfl,by simp[Yu], ?_⟩
 have hall: ∀a:Fin 100,∀c∈(if a.val<10 then[UInt8.ofNat (48+a.val)]else[UInt8.ofNat (48+a.val/10),UInt8.ofNat (48+a.val % 10)]),named c=true:=by decide+kernel
 intro c hc
 simp only[Yu,List.mem_cons]at hc
 rcases hc with rfl|hc
 ·rfl
 ·rw[zlJ (by omega)]at hc
  exact hall ⟨n.toNat,by omega⟩ c hc
theorem zfi{c:UInt8}(h:mark c=true):ze6 (Xo c):= .inl ⟨rfl,c,rfl,h⟩
theorem zoX{x:Bytes}(h:nameOK x=true):ze6 (0,x):=by
 unfold nameOK at h
 simp only[Bool.and_eq_true,decide_eq_true_eq]at h
 exact zp5 x _ h.2 _ (List.mem_singleton.2 rfl)
theorem zs4{sig:List D}(hs: ∀d∈sig,nameOK d.name=true)(t:T): ∀d,Y5 t=true→d+t.depth≤100→ ∀x∈words sig t d,ze6 x:=by
 induction t using T.ind with
 |_ k h xs ih=>
  intro d hn hd
  have hl: ∀l:List T,(∀a∈l,∀d,Y5 a=true→d+a.depth≤100→ ∀x∈words sig a d,ze6 x)→Y6 l=true→d+ZF l≤100→ ∀x∈YI sig l d,ze6 x:=by
   intro l
   induction l with
   |nil=>intro _ _ _ x hx;cases hx
   |cons a l ihl=>
    intro hh hn hd x hx
    simp only[Y6,Bool.and_eq_true]at hn
    simp only[ZF]at hd
    have h1:=hh a (List.mem_cons_self ..) d hn.1 (by omega)
    have h2:=ihl (fun b hb=>hh b (List.mem_cons_of_mem _ hb)) hn.2 (by omega)
    simp only[YI,List.mem_append]at hx
    rcases hx with hx|hx
    ·cases hs:Jp a<;>rw[hs]at hx
     ·simp only[cond_false,List.cons_append,List.mem_cons,List.mem_append,List.not_mem_nil,or_false]at hx
      rcases hx with rfl|hx|rfl
      ·exact zfi (by decide)
      ·exact h1 x hx
      ·exact zfi (by decide)
     ·exact h1 x hx
    ·exact h2 x hx
  intro x hx
  simp only[Y5,Bool.and_eq_true]at hn
  simp only[T.depth]at hd
  unfold words at hx
  split at hx
  ·rw[List.mem_singleton]at hx
   subst hx
   exact .inr ⟨rfl,by decide,by decide⟩
  ·rename_i k0
   split at hx
   ·match xs,ih,hn,hd,hx with
    |[],_,_,_,hx=>cases hx
    |[_],_,_,_,hx=>cases hx
    |a::b::r,ih,hn,hd,hx=>
     simp only[Y6,Bool.and_eq_true]at hn
     simp only[ZF]at hd
     simp only[wPi,List.mem_cons,List.mem_append]at hx
     rcases hx with(rfl|rfl|rfl|hx)|rfl|hx
     ·exact zfi (by decide)
     ·exact zgH (by omega)
     ·exact zfi (by decide)
     ·exact ih a (by simp) d hn.2.1 (by omega) x hx
     ·exact zfi (by decide)
     ·exact ih b (by simp) (d+1) hn.2.2.1 (by omega) x hx
   ·rename_i k1
    split at hx
    ·match xs,ih,hn,hd,hx with
     |[],_,_,_,hx=>cases hx
     |a::r,ih,hn,hd,hx=>
      simp only[Y6,Bool.and_eq_true]at hn
      simp only[ZF]at hd
      simp only[znk,List.mem_cons]at hx
      rcases hx with rfl|rfl|rfl|hx
      ·exact zfi (by decide)
      ·exact zgH (by omega)
      ·exact zfi (by decide)
      ·exact ih a (by simp) (d+1) hn.2.1 (by omega) x hx
    ·rename_i k3
     rw[List.mem_append]at hx
     rcases hx with hx|hx
     ·rw[Option.mem_toList]at hx
      have h0:0≤h:=by
       have:=hn.1
       unfold zaL at this
       rw[if_neg k0,if_neg k1,if_neg k3]at this
       simp only[Bool.and_eq_true,decide_eq_true_eq]at this
       exact this.2.2
      unfold Xc at hx
      split at hx
      ·cases hx;exact zgH (by omega)
      ·split at hx
       ·cases hg:sig[h.toNat]? with
        |none=>rw[hg]at hx;cases hx
        |some y=>rw[hg]at hx;cases hx;exact zoX (hs y (List.mem_of_getElem? hg))
       ·cases hx
     ·exact hl xs ih hn.2 (by omega) x hx
theorem zrc{sig:List D}(G:Good sig){t:T}(hm:may t=true)(ho:okW sig t 0=true)(hk: ∀i,allW (kindB sig) i t=true)(hl:(text (words sig t 0)).length≤20000):zdu (text (words sig t 0)) sig=(t,0):=by
 have hm':=hm
 unfold may at hm
 simp only[Bool.and_eq_true,decide_eq_true_eq]at hm
 have h1:=ze9 (words sig t 0) 1 (zs4 G.name t 0 hm.1 (by omega))
 rw[zrb hl h1,zs0]
 have h2:=zaG G 120 t 0 [] hm.1 ho hk (by omega) (by omega) rfl
 rw[List.append_nil]at h2
 have h3:PS.term 120 [] ⟨words sig t 0,sig,0⟩=(t,⟨[],sig,0⟩):=h2
 rw[h3]
 simp only[hm',if_true]
 rfl
end Go.Ama
namespace Go.Ama
open Go Go.AM
theorem ziP(sig:List D)(d:Nat): ∀l:List T,Jq sig l d=l.all fun t=>okW sig t d
 |[]=>rfl
 |t::l=>by simp[Jq,ziP sig d l]
theorem zoY{sig:List D}{k h:Int}{d:Nat}{l:List T}(h1:(Xc sig k h d).isSome=true)(hk1:k≠1)(hk3:k≠3)(hl:Jq sig l d=true):okW sig (.mk k h l) d=true:=by
 unfold okW
 by_cases h0:k=0
 ·rw[if_pos h0]
 ·rw[if_neg h0,if_neg hk1,if_neg hk3,h1,hl]
  rfl
section
variable{sig:List D}{term:List Bytes→PS→T×PS}{bs:List Bytes}(ht: ∀s,s.s=sig→okW sig (term bs s).1 bs.length=true)(hm: ∀bs s,Mono s (term bs s).2)
include ht hm
end
end Go.Ama
namespace Go.Proofs.SZ
open Go Go.AM Go.Ama
set_option maxRecDepth 100000
theorem zoZ: ∀t:T,t.same t=true:=by
 intro t
 induction t using T.ind with
 |_ k h xs ih=>
  have hl: ∀l:List T,(∀a∈l,a.same a=true)→zaV l l=true:=by
   intro l
   induction l with
   |nil=>intro _;rfl
   |cons a l ihl=>intro h;simp only[zaV,h a (List.mem_cons_self ..),ihl (fun b hb=>h b (List.mem_cons_of_mem _ hb)),Bool.and_self]
  simp[T.same,hl xs ih]
theorem ztw(b:Bytes)(sig:List D)(hb:b.length≤1048576)(hs:sig.length≤999):
  Zq W 12 [.vec .plain none (X6 b), .vec .plain (some 4) (Z2 sig)]=some (.tup [enc (zdu b sig).1, .int (zdu b sig).2]):=
 (zqY b sig hb hs).p (by simp[Zh,below,YL,ZD]) (by simp[Zh,below,Q4])
end Go.Proofs.SZ
namespace Go.Proofs.SZ
open Go Go.AM
set_option maxRecDepth 20000
theorem zpa(O:Oracle)(n0:Int)(n1:Int)(l2:(List V))(n3:Int)(n4:Int):Zf Tryz.prog cfg O 78 [.agg [.int n0, .int n1, .vec .plain (some 3) l2], .int n3, .int n4] []=
 Za (Zq O 92 [V.agg [V.int n0,V.int n1,V.vec .plain (some 3) l2],V.int n3,V.int n4]) fun r1=>Zn r1 fun b2=>bc (!b2) (Za (Zq O 93 [V.agg
 [V.int n0,V.int n1,V.vec .plain (some 3) l2]]) fun r3=>Zc [CT.int,CT.int,CT.slice (some 3)] r3 fun n4 n5 l6=>gd (below 0 (V.agg [V.int n4,V.int n5,V.vec .plain
 (some 3) l6])&&true) (some (Out.ret (V.agg [V.int n4,V.int n5,V.vec .plain (some 3) l6]),[]))) (Za (O.call 94 [V.agg [V.int n0,V.int n1,V.vec .plain (some 3)
 l2],V.int 0,V.fn 95 [V.agg [V.int n3,V.int n4]] []] []) fun r7=>Zk r7.fst (fun v8=>Z4 v8 fun c9=>Ze c9 fun v10 c11=>Zc [CT.int,CT.int,
 CT.slice (some 3)] v10 fun n12 n13 l14=>Ze c11 fun v15 c16=>Zn v15 fun b17=>Zj c16 (gd (below 0 (V.agg [V.int n12,V.int n13,V.vec .plain (some 3) l14])&&
 Zu 0 []) (some (Out.ret (V.agg [V.int n12,V.int n13,V.vec .plain (some 3) l14]),[])))) fun p18=>none):=by kernel_rfl
theorem zj9(O:Oracle)(n0:Int)(n1:Int)(l2:(List V))(l3:(List V))(n4:Int):Zf Tryz.prog cfg O 80 [.agg [.int n0, .int n1, .vec .plain (some 3) l2], .agg [.vec .plain (some 3) l3, .int n4]] []=
 Za (Zq O 24 [V.agg [V.int n0,V.int n1,V.vec .plain (some 3) l2]]) fun r1=>Zn r1 fun b2=>bc (!b2) (some (Out.ret (V.tup [V.agg [V.int 0,V.int 0,V.vec
 .plain (some 3) []],V.int 1]),[])) (Za (Zq O 96 [V.agg [V.vec .plain (some 3) l3,V.int n4]]) fun r3=>Zn r3 fun b4=>bc (!b4) (some (Out.ret (V.tup [V.agg
 [V.int 0,V.int 0,V.vec .plain (some 3) []],V.int 1]),[])) (Za (O.call 97 [V.fn 98 [] [V.cptr (some 3) (V.agg [V.int n0,V.int n1,V.vec .plain (some
 3) l2]),V.cptr (some 2) (V.agg [V.vec .plain (some 3) l3,V.int n4])]] []) fun r5=>Zk r5.fst (fun v6=>Z4 v6 fun c7=>Ze c7 fun v8 c9=>Zc [CT.int,CT.int,
 CT.slice (some 3)] v8 fun n10 n11 l12=>Ze c9 fun v13 c14=>Zt v13 fun n15=>Zj c14 (gd (below 0 (V.tup [V.agg [V.int n10,V.int n11,V.vec .plain (some 3) l12],
 V.int n15])&&Zu 0 []) (some (Out.ret (V.tup [V.agg [V.int n10,V.int n11,V.vec .plain (some 3) l12],V.int n15]),[])))) fun p16=>none)):=by kernel_rfl
theorem zn6(O:Oracle)(n0:Int)(n1:Int)(l2:(List V))(n3:Int)(n4:Int):Zf Tryz.prog cfg O 92 [.agg [.int n0, .int n1, .vec .plain (some 3) l2], .int n3, .int n4] []=
 Za (Zq O 24 [V.agg [V.int n0,V.int n1,V.vec .plain (some 3) l2]]) fun r1=>Zn r1 fun b2=>bc b2 (bc (decide (n3≥0)) (bc (decide (n3≤1048576)) (bc (decide
 (n4≥0)) (some (Out.ret (V.bool (decide (n4≤1048576))),[])) (some (Out.ret (V.bool false),[]))) (some (Out.ret (V.bool false),[]))) (some (Out.ret (V.bool false),[])))
 (some (Out.ret (V.bool false),[])):=by kernel_rfl
theorem ziQ(O:Oracle)(n0:Int)(n1:Int)(l2:(List V))(n3:Int)(g4:Nat)(l5:(List V))(l6:(List V))(st:St):Zf Tryz.prog cfg O 94 [.agg [.int n0, .int n1, .vec .plain (some 3) l2], .int n3, .fn g4 l5 l6] st=
 bc (n0==4) (bc (cfg.pure g4) (Za (Zq O g4 (l5++[V.int n1,V.int n3]++l6)) fun r1=>Z4 r1 fun c2=>Ze c2 fun v3 c4=>Zt v3 fun n5=>Ze c4 fun v6 c7=>
 Zn v6 fun b8=>Zj c7 (bc (!b8) (YH (List.length st) (V.tup [V.agg [V.int 0,V.int 0,V.vec .plain (some 3) []],V.bool false]) st) (Za (O.call 112
 [V.vec .plain (some 3) l2,V.fn 113 [] [V.cptr none (V.int n3),V.cptr (some 3) (V.agg [V.int n0,V.int n1,V.vec .plain (some 3) l2]),V.cptr none (V.fn g4 l5 l6)]]
 st) fun r9=>Zk r9.fst (fun v10=>Z4 v10 fun c11=>Ze c11 fun v12 c13=>ZS (some 3) v12 fun l14=>Ze c13 fun v15 c16=>Zn v15 fun b17=>Zj c16 (bc
 (!b17) (YH (List.length st) (V.tup [V.agg [V.int 0,V.int 0,V.vec .plain (some 3) []],V.bool false]) r9.snd) (YH (List.length st) (V.tup [V.agg [V.int n0,V.int n5,V.vec
 .plain (some 3) l14],V.bool true]) r9.snd))) fun p18=>none))) (Za (O.call g4 (l5++[V.int n1,V.int n3]++l6) st) fun r19=>Zk r19.fst (fun v20=>Z4 v20 fun c21=>
 Ze c21 fun v22 c23=>Zt v22 fun n24=>Ze c23 fun v25 c26=>Zn v25 fun b27=>Zj c26 (bc (!b27) (YH (List.length st) (V.tup [V.agg [V.int 0,V.int 0,V.vec
 .plain (some 3) []],V.bool false]) r19.snd) (Za (O.call 112 [V.vec .plain (some 3) l2,V.fn 113 [] [V.cptr none (V.int n3),V.cptr (some 3)
 (V.agg [V.int n0,V.int n1,V.vec .plain (some 3) l2]),V.cptr none (V.fn g4 l5 l6)]] r19.snd) fun r28=>Zk r28.fst (fun v29=>Z4 v29 fun c30=>Ze c30 fun v31 c32=>
 ZS (some 3) v31 fun l33=>Ze c32 fun v34 c35=>Zn v34 fun b36=>Zj c35 (bc (!b36) (YH (List.length st) (V.tup [V.agg [V.int 0,V.int 0,V.vec .plain (some 3)
 []],V.bool false]) r28.snd) (YH (List.length st) (V.tup [V.agg [V.int n0,V.int n24,V.vec .plain (some 3) l33],V.bool true]) r28.snd))) fun p37=>none))) fun p38=>none))
 (Za (O.call 112 [V.vec .plain (some 3) l2,V.fn 113 [] [V.cptr none (V.int n3),V.cptr (some 3) (V.agg [V.int n0,V.int n1,V.vec .plain (some 3)
 l2]),V.cptr none (V.fn g4 l5 l6)]] st) fun r39=>Zk r39.fst (fun v40=>Z4 v40 fun c41=>Ze c41 fun v42 c43=>ZS (some 3) v42 fun l44=>Ze c43 fun v45 c46=>
 Zn v45 fun b47=>Zj c46 (bc (!b47) (YH (List.length st) (V.tup [V.agg [V.int 0,V.int 0,V.vec .plain (some 3) []],V.bool false]) r39.snd) (YH (List.length st) (V.tup
 [V.agg [V.int n0,V.int n1,V.vec .plain (some 3) l44],V.bool true]) r39.snd))) fun p48=>none):=by kernel_rfl
theorem zek(O:Oracle)(n0:Int)(n1:Int)(n2:Int)(n3:Int):Zf Tryz.prog cfg O 95 [.agg [.int n0, .int n1], .int n2, .int n3] []=
 bc (decide (n2≥IntKind.i64.wrap (n1+n3))) (some (Out.ret (V.tup [V.int (IntKind.i64.wrap (n2+n0)),V.bool true]),[])) (some (Out.ret (V.tup [V.int n2,V.bool true]),[])):=by kernel_rfl
theorem zn7(O:Oracle)(l0:(List V))(n1:Int):Zf Tryz.prog cfg O 96 [.agg [.vec .plain (some 3) l0, .int n1]] []=
 bc (decide ((↑l0.length:Int)≤200)) (bc (decide (n1≥0)) (bc (decide (n1≤1048576)) (Za (O.call 38 [V.vec .plain (some 3) l0,V.fn
 114 [] []] []) fun r1=>Zk r1.fst (fun v2=>Zn v2 fun b3=>some (Out.ret (V.bool !b3),[])) fun p4=>none) (some (Out.ret (V.bool false),[]))) (some (Out.ret
 (V.bool false),[]))) (some (Out.ret (V.bool false),[])):=by kernel_rfl
theorem zh4(O:Oracle)(q:Nat)(k h:Int)(xs ls:List V)(sft:Int)(st:St):Zf Tryz.prog cfg O 98 [.ref q 0, .cptr (some 3) (.agg [.int k, .int h, .vec .plain (some 3) xs]), .cptr (some 2) (.agg [.vec .plain (some 3) ls, .int sft])] st=
 Za (O.call 99 [V.ref q 0,V.agg [V.int k,V.int h,V.vec .plain (some 3) xs],V.agg [V.vec .plain (some 3) ls,V.int sft]] st) fun r1=>Zk r1.fst (fun v2=>
 Zc [CT.int,CT.int,CT.slice (some 3)] v2 fun n3 n4 l5=>YH (List.length st) (V.agg [V.int n3,V.int n4,V.vec .plain (some 3) l5]) r1.snd) fun p6=>gd (below
 (List.length st) p6&&Zu (List.length st) (List.take (List.length st) r1.snd)) (some (Out.panic p6,List.take (List.length st) r1.snd)):=by kernel_rfl
theorem zaH(O:Oracle)(r0:Nat)(n1:Int)(n2:Int)(l3:(List V))(l4:(List V))(n5:Int)(st:St):Zf Tryz.prog cfg O 99 [.ref r0 0, .agg [.int n1, .int n2, .vec .plain (some 3) l3], .agg [.vec .plain (some 3) l4, .int n5]] st=
 Z6 st r0 fun x1=>Z3 x1 fun c2=>gd (decide (1≤c2.length)&&true) (Zt (Zo (AM.partOf c2 0 none)) fun n3=>Z6 st r0 fun x4=>Z3 x4 fun c5=>gd (decide (1≤
 c5.length)&&true) (Z6 (List.set st r0 (Res.box (setCells c5 0 [V.int (IntKind.i64.wrap (n3+1))]))) r0 fun x6=>Z3 x6 fun c7=>gd (decide (1≤c7.length)&&true) (Zt
 (Zo (AM.partOf c7 0 none)) fun n8=>bc (decide (n8>40000)) (Za (O.call 116 [V.int 4] (List.set st r0 (Res.box (setCells c5 0 [V.int (IntKind.i64.wrap (n3+
 1))])))) fun r9=>Zk r9.fst (fun v10=>Z4 v10 fun c11=>Zj c11 (Za (O.loop 99 6 [V.int 0,V.loc true (some 3) (V.agg [V.int n1,V.int n2,V.vec
 Mode.grow (some 3) []]),V.ref r0 0,V.loc false (some 2) (V.agg [V.vec .plain (some 3) l4,V.int n5]),V.loc false (some 3) (V.agg [V.int n1,V.int n2,V.vec .plain (some 3)
 l3]),V.vec .plain (some 3) l3,V.loc true (some 3) (V.agg [V.int 0,V.int 0,V.vec Mode.full (some 3) []]),V.int (↑l3.length:Int)] r9.snd) fun r12=>Xv r12.fst none none
 (fun i13=>bc (i13.beq 0) (Ze r12.snd.fst fun v14 c15=>YF (some 3) v14 fun d16 v17=>Ze c15 fun v18 c19=>YF (some 3) v18 fun d20 v21=>YE v21 fun c22=>
 Ze c22 fun v23 c24=>Zt v23 fun n25=>Ze c24 fun v26 c27=>Zt v26 fun n28=>Ze c27 fun v29 c30=>YW (some 3) v29 fun l31=>Zj c30 (Ze c19 fun
 v32 c33=>YF (some 3) v32 fun d34 v35=>Zc [CT.int,CT.int,CT.slice (some 3)] (bif d34 then Zo v35 else v35) fun n36 n37 l38=>Ze c33 fun v39 c40=>YF
 (some 2) v39 fun d41 v42=>Zc [CT.slice (some 3),CT.int] (bif d41 then Zo v42 else v42) fun l43 n44=>Ze c40 fun v45 c46=>zep v45 fun q47=>Zj c46 (bc
 (n36 !=4) (YH (List.length st) (V.agg [V.int n25,V.int n28,V.vec .plain (some 3) l31]) r12.snd.snd) (Za (Zq O 119 [V.agg [V.vec .plain (some 3) l43,V.int n44],
 V.int n37]) fun r48=>Zc [CT.int,CT.int,CT.slice (some 3)] r48 fun n49 n50 l51=>Za (O.call 118 [V.ref q47 0,V.agg [V.int n49,V.int n50,V.vec .plain
 (some 3) l51],V.vec .plain (some 3) l31] r12.snd.snd) fun r52=>Zk r52.fst (fun v53=>Zc [CT.int,CT.int,CT.slice (some 3)] v53 fun n54 n55 l56=>YH (List.length
 st) (V.agg [V.int n54,V.int n55,V.vec .plain (some 3) l56]) r52.snd) fun p57=>gd (below (List.length st) p57&&Zu (List.length st) (List.take (List.length st) r52.snd))
 (some (Out.panic p57,List.take (List.length st) r52.snd)))))) none) fun v58=>gd (below (List.length st) v58&&Zu (List.length st) (List.take (List.length st)
 r12.snd.snd)) (some (Out.panic v58,List.take (List.length st) r12.snd.snd)))) fun p59=>gd (below (List.length st) p59&&Zu (List.length st) (List.take (List.length st)
 r9.snd)) (some (Out.panic p59,List.take (List.length st) r9.snd))) (Za (O.loop 99 6 [V.int 0,V.loc true (some 3) (V.agg [V.int n1,V.int n2,V.vec Mode.grow
 (some 3) []]),V.ref r0 0,V.loc false (some 2) (V.agg [V.vec .plain (some 3) l4,V.int n5]),V.loc false (some 3) (V.agg [V.int n1,V.int n2,V.vec .plain (some 3) l3]),V.vec
 .plain (some 3) l3,V.loc true (some 3) (V.agg [V.int 0,V.int 0,V.vec Mode.full (some 3) []]),V.int (↑l3.length:Int)] (List.set st r0 (Res.box (setCells c5 0 [V.int
 (IntKind.i64.wrap (n3+1))])))) fun r60=>Xv r60.fst none none (fun i61=>bc (i61.beq 0) (Ze r60.snd.fst fun v62 c63=>YF (some 3) v62 fun d64 v65=>Ze c63 fun
 v66 c67=>YF (some 3) v66 fun d68 v69=>YE v69 fun c70=>Ze c70 fun v71 c72=>Zt v71 fun n73=>Ze c72 fun v74 c75=>Zt v74 fun n76=>Ze c75 fun v77
 c78=>YW (some 3) v77 fun l79=>Zj c78 (Ze c67 fun v80 c81=>YF (some 3) v80 fun d82 v83=>Zc [CT.int,CT.int,CT.slice (some 3)] (bif d82 then Zo v83
 else v83) fun n84 n85 l86=>Ze c81 fun v87 c88=>YF (some 2) v87 fun d89 v90=>Zc [CT.slice (some 3),CT.int] (bif d89 then Zo v90 else v90) fun l91 n92=>
 Ze c88 fun v93 c94=>zep v93 fun q95=>Zj c94 (bc (n84 !=4) (YH (List.length st) (V.agg [V.int n73,V.int n76,V.vec .plain (some 3) l79]) r60.snd.snd) (Za (Zq
 O 119 [V.agg [V.vec .plain (some 3) l91,V.int n92],V.int n85]) fun r96=>Zc [CT.int,CT.int,CT.slice (some 3)] r96 fun n97 n98 l99=>Za (O.call
 118 [V.ref q95 0,V.agg [V.int n97,V.int n98,V.vec .plain (some 3) l99],V.vec .plain (some 3) l79] r60.snd.snd) fun r100=>Zk r100.fst (fun v101=>Zc
 [CT.int,CT.int,CT.slice (some 3)] v101 fun n102 n103 l104=>YH (List.length st) (V.agg [V.int n102,V.int n103,V.vec .plain (some 3) l104]) r100.snd) fun p105=>gd (below
 (List.length st) p105&&Zu (List.length st) (List.take (List.length st) r100.snd)) (some (Out.panic p105,List.take (List.length st) r100.snd)))))) none) fun v106=>gd
 (below (List.length st) v106&&Zu (List.length st) (List.take (List.length st) r60.snd.snd)) (some (Out.panic v106,List.take (List.length st) r60.snd.snd)))))):=by kernel_rfl
theorem Jz(O:Oracle)(n0:Int)(n1:Int)(n2:Int)(l3:(List V))(r4:Nat)(l5:(List V))(n6:Int)(n7:Int)(n8:Int)(l9:(List V))(l10:(List V))(v11:V)(n12:Int)(st:St):ZC Tryz.prog cfg O 99 6 [.int n0, .loc true (some 3) (.agg [.int n1, .int n2, .vec .grow (some 3) l3]), .ref r4 0, .loc false (some 2) (.agg [.vec .plain (some 3) l5, .int n6]), .loc false (some 3) (.agg [.int n7, .int n8, .vec .plain (some 3) l9]), .vec .plain (some 3) l10, .loc true (some 3) v11, .int n12] st=
 bc (decide (n0<n12)) (gd (decide (0≤n0)&&decide (n0<(↑l10.length:Int))) (Zc [CT.int,CT.int,CT.slice (some 3)] (ZY l10 n0) fun n1_1 n2_1 l3_1=>bc (n7==1)
 (bc (n0==IntKind.i64.wrap ((↑l9.length:Int)-1)) (Za (Zq O 117 [V.agg [V.vec .plain (some 3) l5,V.int n6]]) fun r4_1=>Zc [CT.slice (some 3),CT.int]
 r4_1 fun l5_1 n6_1=>Za (O.call 99 [V.ref r4 0,V.agg [V.int n1_1,V.int n2_1,V.vec .plain (some 3) l3_1],V.agg [V.vec .plain (some 3) l5_1,V.int n6_1]] st)
 fun r7=>Zk r7.fst (fun v8=>Zc [CT.int,CT.int,CT.slice (some 3)] v8 fun n9 n10 l11=>gd (true&&roomFor Tryz.prog 25 (l3.length+[V.agg [V.int n9,V.int
 n10,V.vec .plain (some 3) l11]].length)) (O.2 99 6 [V.int (IntKind.i64.wrap (n0+1)),V.loc true (some 3) (V.agg [V.int n1,V.int n2,V.vec Mode.grow (some 3)
 (l3++[V.agg [V.int n9,V.int n10,V.vec .plain (some 3) l11]])]),V.ref r4 0,V.loc false (some 2) (V.agg [V.vec .plain (some 3) l5,V.int n6]),V.loc false (some 3) (V.agg
 [V.int n7,V.int n8,V.vec .plain (some 3) l9]),V.vec .plain (some 3) l10,V.loc true (some 3) v11,V.int n12] r7.snd)) fun p12=>some (Ex.panic p12,[V.loc true (some 3) v11,
 V.loc true (some 3) (V.agg [V.int n1,V.int n2,V.vec .plain (some 3) l3]),V.loc false (some 3) (V.agg [V.int n7,V.int n8,V.vec .plain (some 3) l9]),V.loc false (some 2)
 (V.agg [V.vec .plain (some 3) l5,V.int n6]),V.ref r4 0],r7.snd)) (Za (O.call 99 [V.ref r4 0,V.agg [V.int n1_1,V.int n2_1,V.vec .plain (some 3) l3_1],
 V.agg [V.vec .plain (some 3) l5,V.int n6]] st) fun r13=>Zk r13.fst (fun v14=>Zc [CT.int,CT.int,CT.slice (some 3)] v14 fun n15 n16 l17=>gd (true&&roomFor
 Tryz.prog 25 (l3.length+[V.agg [V.int n15,V.int n16,V.vec .plain (some 3) l17]].length)) (O.2 99 6 [V.int (IntKind.i64.wrap (n0+1)),V.loc true
 (some 3) (V.agg [V.int n1,V.int n2,V.vec Mode.grow (some 3) (l3++[V.agg [V.int n15,V.int n16,V.vec .plain (some 3) l17]])]),V.ref r4 0,V.loc false (some 2) (V.agg [V.vec
 .plain (some 3) l5,V.int n6]),V.loc false (some 3) (V.agg [V.int n7,V.int n8,V.vec .plain (some 3) l9]),V.vec .plain (some 3) l10,V.loc true (some 3) v11,V.int n12]
 r13.snd)) fun p18=>some (Ex.panic p18,[V.loc true (some 3) v11,V.loc true (some 3) (V.agg [V.int n1,V.int n2,V.vec .plain (some 3) l3]),V.loc false (some 3) (V.agg [V.int
 n7,V.int n8,V.vec .plain (some 3) l9]),V.loc false (some 2) (V.agg [V.vec .plain (some 3) l5,V.int n6]),V.ref r4 0],r13.snd))) (bc (n7==3) (bc (n0==IntKind.i64.wrap
 ((↑l9.length:Int)-1)) (Za (Zq O 117 [V.agg [V.vec .plain (some 3) l5,V.int n6]]) fun r19=>Zc [CT.slice (some 3),CT.int] r19 fun l20 n21=>Za
 (O.call 99 [V.ref r4 0,V.agg [V.int n1_1,V.int n2_1,V.vec .plain (some 3) l3_1],V.agg [V.vec .plain (some 3) l20,V.int n21]] st) fun r22=>Zk r22.fst (fun
 v23=>Zc [CT.int,CT.int,CT.slice (some 3)] v23 fun n24 n25 l26=>gd (true&&roomFor Tryz.prog 25 (l3.length+[V.agg [V.int n24,V.int n25,V.vec .plain (some
 3) l26]].length)) (O.2 99 6 [V.int (IntKind.i64.wrap (n0+1)),V.loc true (some 3) (V.agg [V.int n1,V.int n2,V.vec Mode.grow (some 3) (l3++[V.agg [V.int n24,
 V.int n25,V.vec .plain (some 3) l26]])]),V.ref r4 0,V.loc false (some 2) (V.agg [V.vec .plain (some 3) l5,V.int n6]),V.loc false (some 3) (V.agg [V.int n7,V.int n8,V.vec
 .plain (some 3) l9]),V.vec .plain (some 3) l10,V.loc true (some 3) v11,V.int n12] r22.snd)) fun p27=>some (Ex.panic p27,[V.loc true (some 3) v11,V.loc true (some 3) (V.agg
 [V.int n1,V.int n2,V.vec .plain (some 3) l3]),V.loc false (some 3) (V.agg [V.int n7,V.int n8,V.vec .plain (some 3) l9]),V.loc false (some 2) (V.agg [V.vec .plain (some 3)
 l5,V.int n6]),V.ref r4 0],r22.snd)) (Za (O.call 99 [V.ref r4 0,V.agg [V.int n1_1,V.int n2_1,V.vec .plain (some 3) l3_1],V.agg [V.vec .plain (some 3) l5,
 V.int n6]] st) fun r28=>Zk r28.fst (fun v29=>Zc [CT.int,CT.int,CT.slice (some 3)] v29 fun n30 n31 l32=>gd (true&&roomFor Tryz.prog 25 (l3.length+
 [V.agg [V.int n30,V.int n31,V.vec .plain (some 3) l32]].length)) (O.2 99 6 [V.int (IntKind.i64.wrap (n0+1)),V.loc true (some 3) (V.agg [V.int n1,V.int n2,
 V.vec Mode.grow (some 3) (l3++[V.agg [V.int n30,V.int n31,V.vec .plain (some 3) l32]])]),V.ref r4 0,V.loc false (some 2) (V.agg [V.vec .plain (some 3) l5,V.int n6]),V.loc
 false (some 3) (V.agg [V.int n7,V.int n8,V.vec .plain (some 3) l9]),V.vec .plain (some 3) l10,V.loc true (some 3) v11,V.int n12] r28.snd)) fun p33=>some (Ex.panic p33,
 [V.loc true (some 3) v11,V.loc true (some 3) (V.agg [V.int n1,V.int n2,V.vec .plain (some 3) l3]),V.loc false (some 3) (V.agg [V.int n7,V.int n8,V.vec .plain (some 3) l9]),
 V.loc false (some 2) (V.agg [V.vec .plain (some 3) l5,V.int n6]),V.ref r4 0],r28.snd))) (Za (O.call 99 [V.ref r4 0,V.agg [V.int n1_1,V.int n2_1,V.vec
 .plain (some 3) l3_1],V.agg [V.vec .plain (some 3) l5,V.int n6]] st) fun r34=>Zk r34.fst (fun v35=>Zc [CT.int,CT.int,CT.slice (some 3)] v35 fun n36 n37 l38=>gd
 (true&&roomFor Tryz.prog 25 (l3.length+[V.agg [V.int n36,V.int n37,V.vec .plain (some 3) l38]].length)) (O.2 99 6 [V.int (IntKind.i64.wrap (n0+
 1)),V.loc true (some 3) (V.agg [V.int n1,V.int n2,V.vec Mode.grow (some 3) (l3++[V.agg [V.int n36,V.int n37,V.vec .plain (some 3) l38]])]),V.ref r4 0,V.loc false (some 2)
 (V.agg [V.vec .plain (some 3) l5,V.int n6]),V.loc false (some 3) (V.agg [V.int n7,V.int n8,V.vec .plain (some 3) l9]),V.vec .plain (some 3) l10,V.loc true (some 3) v11,
 V.int n12] r34.snd)) fun p39=>some (Ex.panic p39,[V.loc true (some 3) v11,V.loc true (some 3) (V.agg [V.int n1,V.int n2,V.vec .plain (some 3) l3]),V.loc false (some 3)
 (V.agg [V.int n7,V.int n8,V.vec .plain (some 3) l9]),V.loc false (some 2) (V.agg [V.vec .plain (some 3) l5,V.int n6]),V.ref r4 0],r34.snd))))) (some (Ex.exit 0,[V.loc true
 (some 3) v11,V.loc true (some 3) (V.agg [V.int n1,V.int n2,V.vec Mode.grow (some 3) l3]),V.loc false (some 3) (V.agg [V.int n7,V.int n8,V.vec .plain (some 3) l9]),V.loc
 false (some 2) (V.agg [V.vec .plain (some 3) l5,V.int n6]),V.ref r4 0],st)):=by kernel_rfl
theorem zcA(O:Oracle)(l0:(List V))(g1:Nat)(l2:(List V))(l3:(List V))(st:St):Zf Tryz.prog cfg O 112 [.vec .plain (some 3) l0, .fn g1 l2 l3] st=
 Za (O.loop 112 3 [V.int 0,V.vec Mode.grow (some 3) [],V.fn g1 l2 l3,V.vec .plain (some 3) l0,V.int (↑l0.length:Int)] st) fun r1=>Xv r1.fst none
 (Ze r1.snd.fst fun v2 c3=>ZS (some 3) v2 fun l4=>Ze c3 fun v5 c6=>Zn v5 fun b7=>Zj c6 (YH (List.length st) (V.tup [V.vec .plain (some 3) l4,V.bool b7])
 r1.snd.snd)) (fun i8=>bc (i8.beq 0) (Ze r1.snd.fst fun v9 c10=>YW (some 3) v9 fun l11=>Zj c10 (YH (List.length st) (V.tup [V.vec .plain (some 3) l11,V.bool
 true]) r1.snd.snd)) none) fun v12=>none:=by kernel_rfl
theorem QC(O:Oracle)(n0:Int)(l1:(List V))(g2:Nat)(l3:(List V))(l4:(List V))(l5:(List V))(n6:Int)(st:St):ZC Tryz.prog cfg O 112 3 [.int n0, .vec .grow (some 3) l1, .fn g2 l3 l4, .vec .plain (some 3) l5, .int n6] st=
 bc (decide (n0<n6)) (gd (decide (0≤n0)&&decide (n0<(↑l5.length:Int))) (Zc [CT.int,CT.int,CT.slice (some 3)] (ZY l5 n0) fun n1 n2 l3_1=>bc (cfg.pure g2)
 (Za (Zq O g2 (l3++[V.int n0,V.agg [V.int n1,V.int n2,V.vec .plain (some 3) l3_1]]++l4)) fun r4=>Z4 r4 fun c5=>Ze c5 fun v6 c7=>Zc [CT.int,CT.int,
 CT.slice (some 3)] v6 fun n8 n9 l10=>Ze c7 fun v11 c12=>Zn v11 fun b13=>Zj c12 (bc (!b13) (some (Ex.ret,[V.vec .plain (some 3) [],V.bool false],st)) (gd (true
 &&roomFor Tryz.prog 25 (l1.length+[V.agg [V.int n8,V.int n9,V.vec .plain (some 3) l10]].length)) (O.2 112 3 [V.int (IntKind.i64.wrap (n0+1)),
 V.vec Mode.grow (some 3) (l1++[V.agg [V.int n8,V.int n9,V.vec .plain (some 3) l10]]),V.fn g2 l3 l4,V.vec .plain (some 3) l5,V.int n6] st)))) (Za (O.call g2 (l3++[V.int
 n0,V.agg [V.int n1,V.int n2,V.vec .plain (some 3) l3_1]]++l4) st) fun r14=>Zk r14.fst (fun v15=>Z4 v15 fun c16=>Ze c16 fun v17 c18=>Zc [CT.int,
 CT.int,CT.slice (some 3)] v17 fun n19 n20 l21=>Ze c18 fun v22 c23=>Zn v22 fun b24=>Zj c23 (bc (!b24) (some (Ex.ret,[V.vec .plain (some 3) [],V.bool false],
 r14.snd)) (gd (true&&roomFor Tryz.prog 25 (l1.length+[V.agg [V.int n19,V.int n20,V.vec .plain (some 3) l21]].length)) (O.2 112 3 [V.int
 (IntKind.i64.wrap (n0+1)),V.vec Mode.grow (some 3) (l1++[V.agg [V.int n19,V.int n20,V.vec .plain (some 3) l21]]),V.fn g2 l3 l4,V.vec .plain (some 3) l5,V.int n6]
 r14.snd)))) fun p25=>none))) (some (Ex.exit 0,[V.vec Mode.grow (some 3) l1],st)):=by kernel_rfl
theorem zgI(O:Oracle)(i k h ar k0 h0:Int)(xs ys:List V)(g:Nat)(a b:List V)(st:St):Zf Tryz.prog cfg O 113 [.int i, .agg [.int k, .int h, .vec .plain (some 3) xs], .cptr none (.int ar), .cptr (some 3) (.agg [.int k0, .int h0, .vec .plain (some 3) ys]), .cptr none (.fn g a b)] st=
 bc (k0==1) (bc (i==IntKind.i64.wrap ((↑ys.length:Int)-1)) (Za (O.call 94 [V.agg [V.int k,V.int h,V.vec .plain (some 3) xs],V.int (IntKind.i64.wrap (ar+
 1)),V.fn g a b] st) fun r1=>Zk r1.fst (fun v2=>Z4 v2 fun c3=>Ze c3 fun v4 c5=>Zc [CT.int,CT.int,CT.slice (some 3)] v4 fun n6 n7 l8=>Ze c5 fun v9
 c10=>Zn v9 fun b11=>Zj c10 (YH (List.length st) (V.tup [V.agg [V.int n6,V.int n7,V.vec .plain (some 3) l8],V.bool b11]) r1.snd)) fun p12=>none) (Za (O.call
 94 [V.agg [V.int k,V.int h,V.vec .plain (some 3) xs],V.int ar,V.fn g a b] st) fun r13=>Zk r13.fst (fun v14=>Z4 v14 fun c15=>Ze c15 fun v16 c17=>
 Zc [CT.int,CT.int,CT.slice (some 3)] v16 fun n18 n19 l20=>Ze c17 fun v21 c22=>Zn v21 fun b23=>Zj c22 (YH (List.length st) (V.tup [V.agg [V.int n18,V.int
 n19,V.vec .plain (some 3) l20],V.bool b23]) r13.snd)) fun p24=>none)) (bc (k0==3) (bc (i==IntKind.i64.wrap ((↑ys.length:Int)-1)) (Za (O.call 94 [V.agg
 [V.int k,V.int h,V.vec .plain (some 3) xs],V.int (IntKind.i64.wrap (ar+1)),V.fn g a b] st) fun r25=>Zk r25.fst (fun v26=>Z4 v26 fun c27=>Ze c27 fun v28 c29
 =>Zc [CT.int,CT.int,CT.slice (some 3)] v28 fun n30 n31 l32=>Ze c29 fun v33 c34=>Zn v33 fun b35=>Zj c34 (YH (List.length st) (V.tup [V.agg [V.int n30,
 V.int n31,V.vec .plain (some 3) l32],V.bool b35]) r25.snd)) fun p36=>none) (Za (O.call 94 [V.agg [V.int k,V.int h,V.vec .plain (some 3) xs],V.int ar,V.fn g
 a b] st) fun r37=>Zk r37.fst (fun v38=>Z4 v38 fun c39=>Ze c39 fun v40 c41=>Zc [CT.int,CT.int,CT.slice (some 3)] v40 fun n42 n43 l44=>Ze c41 fun v45
 c46=>Zn v45 fun b47=>Zj c46 (YH (List.length st) (V.tup [V.agg [V.int n42,V.int n43,V.vec .plain (some 3) l44],V.bool b47]) r37.snd)) fun p48=>none)) (Za
 (O.call 94 [V.agg [V.int k,V.int h,V.vec .plain (some 3) xs],V.int ar,V.fn g a b] st) fun r49=>Zk r49.fst (fun v50=>Z4 v50 fun c51=>Ze c51 fun v52
 c53=>Zc [CT.int,CT.int,CT.slice (some 3)] v52 fun n54 n55 l56=>Ze c53 fun v57 c58=>Zn v57 fun b59=>Zj c58 (YH (List.length st) (V.tup [V.agg [V.int
 n54,V.int n55,V.vec .plain (some 3) l56],V.bool b59]) r49.snd)) fun p60=>none)):=by kernel_rfl
theorem zjA(O:Oracle)(n0:Int)(n1:Int)(l2:(List V)):Zf Tryz.prog cfg O 114 [.agg [.int n0, .int n1, .vec .plain (some 3) l2]] []=
 Za (Zq O 24 [V.agg [V.int n0,V.int n1,V.vec .plain (some 3) l2]]) fun r1=>Zn r1 fun b2=>some (Out.ret (V.bool !b2),[]):=by kernel_rfl
theorem zfX(O:Oracle)(n0:Int)(st:St):Zf Tryz.prog cfg O 116 [.int n0] st=
 gd (below (List.length st) (V.ifc 29 (V.int n0))&&Zu (List.length st) (List.take (List.length st) st)) (some (Out.panic (V.ifc 29 (V.int n0)),
 List.take (List.length st) st)):=by kernel_rfl
theorem zjB(O:Oracle)(l0:(List V))(n1:Int):Zf Tryz.prog cfg O 117 [.agg [.vec .plain (some 3) l0, .int n1]] []=
 Za (O.loop 117 3 [V.int 0,V.loc true (some 2) (V.agg [V.vec Mode.grow (some 3) [],V.int (IntKind.i64.wrap (n1+1))]),V.vec .plain (some 3) l0,V.loc true (some 2)
 (V.agg [V.vec Mode.full (some 3) [],V.int 0]),V.int (↑l0.length:Int)] []) fun r1=>Xv r1.fst none none (fun i2=>bc (i2.beq 0) (Ze r1.snd.fst fun v3 c4=>YF (some
 2) v3 fun d5 v6=>Ze c4 fun v7 c8=>YF (some 2) v7 fun d9 v10=>YE v10 fun c11=>Ze c11 fun v12 c13=>YW (some 3) v12 fun l14=>Ze c13 fun v15 c16=>
 Zt v15 fun n17=>Zj c16 (Zj c8 (gd (true&&roomFor Tryz.prog 25 (l14.length+1)) (gd (below 0 (V.agg [V.vec .plain (some 3) (l14++[V.agg [V.int 4,V.int 0,
 V.vec .plain (some 3) []]]),V.int n17])&&Zu 0 []) (some (Out.ret (V.agg [V.vec .plain (some 3) (l14++[V.agg [V.int 4,V.int 0,V.vec .plain (some 3) []]]),V.int n17]),
 [])))))) none) fun v18=>none:=by kernel_rfl
theorem zbJ(O:Oracle)(n0:Int)(l1:(List V))(n2:Int)(l3:(List V))(v4:V)(n5:Int):ZC Tryz.prog cfg O 117 3 [.int n0, .loc true (some 2) (.agg [.vec .grow (some 3) l1, .int n2]), .vec .plain (some 3) l3, .loc true (some 2) v4, .int n5] []=
 bc (decide (n0<n5)) (gd (decide (0≤n0)&&decide (n0<(↑l3.length:Int))) (Zc [CT.int,CT.int,CT.slice (some 3)] (ZY l3 n0) fun n1 n2_1 l3_1=>Za (Zq O
 78 [V.agg [V.int n1,V.int n2_1,V.vec .plain (some 3) l3_1],V.int 1,V.int 0]) fun r4=>Zc [CT.int,CT.int,CT.slice (some 3)] r4 fun n5_1 n6 l7=>gd (true&&
 roomFor Tryz.prog 25 (l1.length+[V.agg [V.int n5_1,V.int n6,V.vec .plain (some 3) l7]].length)) (O.2 117 3 [V.int (IntKind.i64.wrap (n0+1)),V.loc true
 (some 2) (V.agg [V.vec Mode.grow (some 3) (l1++[V.agg [V.int n5_1,V.int n6,V.vec .plain (some 3) l7]]),V.int n2]),V.vec .plain (some 3) l3,V.loc true (some 2) v4,V.int n5]
 []))) (some (Ex.exit 0,[V.loc true (some 2) v4,V.loc true (some 2) (V.agg [V.vec Mode.grow (some 3) l1,V.int n2])],[])):=by kernel_rfl
theorem YN(O:Oracle)(r0:Nat)(n1:Int)(n2:Int)(l3:(List V))(l4:(List V))(st:St):Zf Tryz.prog cfg O 118 [.ref r0 0, .agg [.int n1, .int n2, .vec .plain (some 3) l3], .vec .plain (some 3) l4] st=
 bc ((↑l4.length:Int)==0) (YH (List.length st) (V.agg [V.int n1,V.int n2,V.vec .plain (some 3) l3]) st) (bc (n1==3) (gd (true&&decide (0<(↑l4.length:Int))) (Zc
 [CT.int,CT.int,CT.slice (some 3)] (ZY l4 0) fun n1 n2 l3_1=>Za (Zq O 24 [V.agg [V.int n1,V.int n2,V.vec .plain (some 3) l3_1]]) fun r4=>Zn r4 fun b5=>
 bc (!b5) (Za (O.call 116 [V.int 4] st) fun r6=>Zk r6.fst (fun v7=>Z4 v7 fun c8=>Zj c8 (gd (true&&decide (0<(↑l3.length:Int))) (Zc [CT.int,
 CT.int,CT.slice (some 3)] (ZY l3 0) fun n9 n10 l11=>gd (true&&decide (1≤(↑l4.length:Int))) (Za (O.call 99 [V.ref r0 0,V.agg [V.int n9,V.int n10,
 V.vec .plain (some 3) l11],V.agg [V.vec .plain (some 3) (List.drop 0 (List.take 1 l4)),V.int 0]] r6.snd) fun r12=>Zk r12.fst (fun v13=>Zc [CT.int,CT.int,CT.slice
 (some 3)] v13 fun n14 n15 l16=>gd (true&&decide (1≤(↑l4.length:Int))&&decide ((↑l4.length:Int)≤(↑l4.length:Int))) (Za (O.call 118 [V.ref r0 0,
 V.agg [V.int n14,V.int n15,V.vec .plain (some 3) l16],V.vec .plain (some 3) (List.drop 1 (List.take (↑l4.length:Int).toNat l4))] r12.snd) fun r17=>Zk r17.fst (fun v18=>
 Zc [CT.int,CT.int,CT.slice (some 3)] v18 fun n19 n20 l21=>YH (List.length st) (V.agg [V.int n19,V.int n20,V.vec .plain (some 3) l21]) r17.snd) fun p22=>gd (below
 (List.length st) p22&&Zu (List.length st) (List.take (List.length st) r17.snd)) (some (Out.panic p22,List.take (List.length st) r17.snd)))) fun p23=>gd (true&&decide
 (1≤(↑l4.length:Int))&&decide ((↑l4.length:Int)≤(↑l4.length:Int))) (gd (below (List.length st) p23&&Zu (List.length st) (List.take (List.length st) r12.snd))
 (some (Out.panic p23,List.take (List.length st) r12.snd))))))) fun p24=>gd (below (List.length st) p24&&Zu (List.length st) (List.take (List.length st) r6.snd)) (some
 (Out.panic p24,List.take (List.length st) r6.snd))) (gd (true&&decide (0<(↑l3.length:Int))) (Zc [CT.int,CT.int,CT.slice (some 3)] (ZY l3 0) fun n25 n26 l27=>gd
 (true&&decide (1≤(↑l4.length:Int))) (Za (O.call 99 [V.ref r0 0,V.agg [V.int n25,V.int n26,V.vec .plain (some 3) l27],V.agg [V.vec .plain (some 3)
 (List.drop 0 (List.take 1 l4)),V.int 0]] st) fun r28=>Zk r28.fst (fun v29=>Zc [CT.int,CT.int,CT.slice (some 3)] v29 fun n30 n31 l32=>gd (true&&decide (1≤
 (↑l4.length:Int))&&decide ((↑l4.length:Int)≤(↑l4.length:Int))) (Za (O.call 118 [V.ref r0 0,V.agg [V.int n30,V.int n31,V.vec .plain (some 3) l32],
 V.vec .plain (some 3) (List.drop 1 (List.take (↑l4.length:Int).toNat l4))] r28.snd) fun r33=>Zk r33.fst (fun v34=>Zc [CT.int,CT.int,CT.slice (some 3)] v34 fun n35
 n36 l37=>YH (List.length st) (V.agg [V.int n35,V.int n36,V.vec .plain (some 3) l37]) r33.snd) fun p38=>gd (below (List.length st) p38&&Zu (List.length st) (List.take
 (List.length st) r33.snd)) (some (Out.panic p38,List.take (List.length st) r33.snd)))) fun p39=>gd (true&&decide (1≤(↑l4.length:Int))&&decide ((↑l4.length:Int)≤
 (↑l4.length:Int))) (gd (below (List.length st) p39&&Zu (List.length st) (List.take (List.length st) r28.snd)) (some (Out.panic p39,List.take (List.length st)
 r28.snd)))))))) (bc (n1==4) (Za (Zq O 124 [V.vec .plain none [V.vec .plain (some 3) l3,V.vec .plain (some 3) l4]]) fun r40=>ZS (some 3)
 r40 fun l41=>YH (List.length st) (V.agg [V.int n1,V.int n2,V.vec .plain (some 3) l41]) st) (bc (n1==5) (Za (Zq O 124 [V.vec .plain none
 [V.vec .plain (some 3) l3,V.vec .plain (some 3) l4]]) fun r42=>ZS (some 3) r42 fun l43=>YH (List.length st) (V.agg [V.int n1,V.int n2,V.vec .plain (some 3) l43]) st)
 (bc (n1==2) (Za (Zq O 124 [V.vec .plain none [V.vec .plain (some 3) l3,V.vec .plain (some 3) l4]]) fun r44=>ZS (some 3) r44 fun l45=>
 YH (List.length st) (V.agg [V.int n1,V.int n2,V.vec .plain (some 3) l45]) st) (Za (O.call 116 [V.int 3] st) fun r46=>Zk r46.fst (fun v47=>Z4 v47 fun c48
 =>Zj c48 (YH (List.length st) (V.agg [V.int n1,V.int n2,V.vec .plain (some 3) l3]) r46.snd)) fun p49=>gd (below (List.length st) p49&&Zu (List.length st)
 (List.take (List.length st) r46.snd)) (some (Out.panic p49,List.take (List.length st) r46.snd))))))):=by kernel_rfl
theorem zpb(O:Oracle)(l0:(List V))(n1:Int)(n2:Int):Zf Tryz.prog cfg O 119 [.agg [.vec .plain (some 3) l0, .int n1], .int n2] []=
 bc (decide (n2<(↑l0.length:Int))) (gd (decide (0≤IntKind.i64.wrap (IntKind.i64.wrap ((↑l0.length:Int)-1)-n2))&&decide (IntKind.i64.wrap (IntKind.i64.wrap
 ((↑l0.length:Int)-1)-n2)<(↑l0.length:Int))) (Zc [CT.int,CT.int,CT.slice (some 3)] (ZY l0 (IntKind.i64.wrap (IntKind.i64.wrap ((↑l0.length:Int)-1)-n2)))
 fun n1 n2 l3=>Za (Zq O 93 [V.agg [V.int n1,V.int n2,V.vec .plain (some 3) l3]]) fun r4=>Zc [CT.int,CT.int,CT.slice (some 3)] r4 fun n5 n6 l7=>gd
 (below 0 (V.agg [V.int n5,V.int n6,V.vec .plain (some 3) l7])&&true) (some (Out.ret (V.agg [V.int n5,V.int n6,V.vec .plain (some 3) l7]),[])))) (some (Out.ret (V.agg [V.int
 4,V.int (IntKind.i64.wrap (IntKind.i64.wrap (n2-(↑l0.length:Int))+n1)),V.vec .plain (some 3) []]),[])):=by kernel_rfl
theorem Jb(O:Oracle)(l0:(List V)):Zf Tryz.prog cfg O 124 [.vec .plain none l0] []=
 Za (O.loop 124 3 [V.int 0,V.int 0,V.vec .plain none l0,V.vec .plain none l0,V.int (↑l0.length:Int)] []) fun r1=>Xv r1.fst none none (fun
 i2=>bc (i2.beq 0) (Ze r1.snd.fst fun v3 c4=>ZS none v3 fun l5=>Ze c4 fun v6 c7=>Zt v6 fun n8=>Zj c7 (gd (decide (0≤n8)&&roomFor Tryz.prog
 25 n8.toNat&&true&&true&&true) (Za (O.loop 124 11 [V.int 0,V.vec Mode.grow (some 3) [],V.vec .plain none l5,V.int (↑l5.length
 :Int)] r1.snd.snd) fun r9=>Xv r9.fst none none (fun i10=>bc (i10.beq 2) (Ze r9.snd.fst fun v11 c12=>YW (some 3) v11 fun l13=>Zj c12 (gd (below 0 (V.vec
 .plain (some 3) l13)&&Zu 0 []) (some (Out.ret (V.vec .plain (some 3) l13),[])))) none) fun v14=>none))) none) fun v15=>none:=by kernel_rfl
theorem Yv(O:Oracle)(n0:Int)(n1:Int)(l2:(List V))(l3:(List V))(n4:Int):ZC Tryz.prog cfg O 124 3 [.int n0, .int n1, .vec .plain none l2, .vec .plain none l3, .int n4] []=
 bc (decide (n0<n4)) (gd (decide (0≤n0)&&decide (n0<(↑l2.length:Int))) (ZS (some 3) (ZY l2 n0) fun l1=>bc (decide (IntKind.i64.wrap (n1+(↑l1.length:Int))<0))
 (some (Ex.panic (V.ifc 9 (V.str {data:= #[108,101,110,32,111,117,116,32,111,102,32,114,97,110,103,101]})),[V.vec .plain none l3,V.int
 (IntKind.i64.wrap (n1+(↑l1.length:Int)))],[])) (O.2 124 3 [V.int (IntKind.i64.wrap (n0+1)),V.int (IntKind.i64.wrap (n1+(↑l1.length:
 Int))),V.vec .plain none l2,V.vec .plain none l3,V.int n4] []))) (some (Ex.exit 0,[V.vec .plain none l3,V.int n1],[])):=by kernel_rfl
theorem Ys(O:Oracle)(n0:Int)(l1:(List V))(l2:(List V))(n3:Int):ZC Tryz.prog cfg O 124 11 [.int n0, .vec .grow (some 3) l1, .vec .plain none l2, .int n3] []=
 bc (decide (n0<n3)) (gd (decide (0≤n0)&&decide (n0<(↑l2.length:Int))) (ZS (some 3) (ZY l2 n0) fun l1_1=>gd (true&&roomFor Tryz.prog 25 (l1.length+
 l1_1.length)) (O.2 124 11 [V.int (IntKind.i64.wrap (n0+1)),V.vec Mode.grow (some 3) (l1++l1_1),V.vec .plain none l2,V.int n3] []))) (some
 (Ex.exit 2,[V.vec Mode.grow (some 3) l1],[])):=by kernel_rfl
end Go.Proofs.SZ
namespace Go.Proofs.SZ
open Go Go.AM
set_option maxRecDepth 20000
theorem zpc(O:Oracle)(n0:Int)(n1:Int)(l2:(List V)):Zf Tryz.prog cfg O 93 [.agg [.int n0, .int n1, .vec .plain (some 3) l2]] []=
 Za (O.loop 93 3 [V.int 0,V.vec Mode.grow (some 3) [],V.vec .plain (some 3) l2,V.loc true (some 3) (V.agg [V.int 0,V.int 0,V.vec Mode.full (some 3) []]),V.loc
 false (some 3) (V.agg [V.int n0,V.int n1,V.vec .plain (some 3) l2]),V.int (↑l2.length:Int)] []) fun r1=>Xv r1.fst none none (fun i2=>bc (i2.beq 0) (Ze r1.snd.fst
 fun v3 c4=>YF (some 3) v3 fun d5 v6=>Ze c4 fun v7 c8=>YW (some 3) v7 fun l9=>Ze c8 fun v10 c11=>YF (some 3) v10 fun d12 v13=>Zc [CT.int,
 CT.int,CT.slice (some 3)] (bif d12 then Zo v13 else v13) fun n14 n15 l16=>Zj c11 (gd (below 0 (V.agg [V.int n14,V.int n15,V.vec .plain (some 3) l9])&&Zu 0 [])
 (some (Out.ret (V.agg [V.int n14,V.int n15,V.vec .plain (some 3) l9]),[])))) none) fun v17=>none:=by kernel_rfl
theorem zeE(O:Oracle)(n0:Int)(l1:(List V))(l2:(List V))(v3:V)(n4:Int)(n5:Int)(l6:(List V))(n7:Int):ZC Tryz.prog cfg O 93 3 [.int n0, .vec .grow (some 3) l1, .vec .plain (some 3) l2, .loc true (some 3) v3, .loc false (some 3) (.agg [.int n4, .int n5, .vec .plain (some 3) l6]), .int n7] []=
 bc (decide (n0<n7)) (gd (decide (0≤n0)&&decide (n0<(↑l2.length:Int))) (Zc [CT.int,CT.int,CT.slice (some 3)] (ZY l2 n0) fun n1 n2 l3=>Za (Zq O
 93 [V.agg [V.int n1,V.int n2,V.vec .plain (some 3) l3]]) fun r4=>Zc [CT.int,CT.int,CT.slice (some 3)] r4 fun n5_1 n6 l7=>gd (true&&roomFor Tryz.prog
 25 (l1.length+[V.agg [V.int n5_1,V.int n6,V.vec .plain (some 3) l7]].length)) (O.2 93 3 [V.int (IntKind.i64.wrap (n0+1)),V.vec Mode.grow (some 3) (l1++
 [V.agg [V.int n5_1,V.int n6,V.vec .plain (some 3) l7]]),V.vec .plain (some 3) l2,V.loc true (some 3) v3,V.loc false (some 3) (V.agg [V.int n4,V.int n5,V.vec .plain (some 3)
 l6]),V.int n7] []))) (some (Ex.exit 0,[V.loc true (some 3) v3,V.vec Mode.grow (some 3) l1,V.loc false (some 3) (V.agg [V.int n4,V.int n5,V.vec .plain (some 3) l6])],[])):=by kernel_rfl
end Go.Proofs.SZ
namespace Go.Proofs.SZ
open Go Go.AM Go.Ama
theorem zk7: ∀t:T,t.size≤1099511627776→Ev 93 [enc t] (enc t):=by
 intro t
 induction t using T.ind with
 |_ k h xs ih=>
  intro hs
  simp only[T.size]at hs
  have hlen:=Zy xs
  unfold Ev
  rw[C,enc,zpc]
  have hl:=J9 (n:=xs.length) (L:=fun i=>W.loop 93 3 [V.int (i:Nat),V.vec .grow (some 3) (Zi (xs.take i)),V.vec .plain (some 3) (Zi xs),V.loc true (some 3) (V.agg [V.int 0,V.int 0,V.vec Mode.full (some 3) []]),V.loc false (some 3) (V.agg [V.int k,V.int h,V.vec .plain (some 3) (Zi xs)]),V.int xs.length] [])
   (r:=some (Ex.exit 0,[V.loc true (some 3) (V.agg [V.int 0,V.int 0,V.vec Mode.full (some 3) []]),V.vec .grow (some 3) (Zi xs),V.loc false (some 3) (V.agg [V.int k,V.int h,V.vec .plain (some 3) (Zi xs)])],[]))
   (fun i hi=>by
    have hp:=(ih xs[i] (List.getElem_mem hi) (by have:=size_le (List.getElem_mem hi);omega)).p
    have hr:roomFor Tryz.prog 25 (i+1)=true:=zcn (by omega)
    show W.loop _ _ _ _=_
    rw[L,zeE]
    simp only[Zv,ZU hi,ZA,←Zd,hp,Za,zaE hi]
    rw[Z5 ⟨by omega,by omega⟩]
    have hmin:min i xs.length=i:=by omega
    have hlt:decide ((i:Int)<xs.length)=true:=by simp;omega
    have h0:decide ((0:Int)≤i)=true:=by simp
    simp only[hlt,h0,Zs,Z9,Bool.and_self,zdf,zfM,List.length_singleton,List.length_take,hmin,hr,Zv,Bool.true_and,Int.natCast_add,Int.natCast_one])
   (by
    have hlt:decide ((xs.length:Int)<xs.length)=false:=by simp
    show W.loop _ _ _ _=_
    rw[L,zeE,hlt,List.take_length];rfl)
  have hl':W.loop 93 3 [V.int 0,V.vec .grow (some 3) [],V.vec .plain (some 3) (Zi xs),V.loc true (some 3) (V.agg [V.int 0,V.int 0,V.vec Mode.full (some 3) []]),V.loc false (some 3) (V.agg [V.int k,V.int h,V.vec .plain (some 3) (Zi xs)]),V.int xs.length] []=some (Ex.exit 0,[V.loc true (some 3) (V.agg [V.int 0,V.int 0,V.vec Mode.full (some 3) []]),V.vec .grow (some 3) (Zi xs),V.loc false (some 3) (V.agg [V.int k,V.int h,V.vec .plain (some 3) (Zi xs)])],[]):=hl
  simp only[Zv,hl',Zb,zb7,YS,zkg,zmI,ZW,cond_false,zl0,zdf,zlz,zfM,below,Zh,Zu,QM,Bool.and_self,Z9]
  rfl
theorem ztx(b f h ar:Int)(h1:I64 (f+ar)):Ev 95 [.agg [.int b, .int f], .int h, .int ar] (.tup [.int (upV b f ar h), .bool true]):=by
 unfold Ev
 rw[C,zek]
 rw[Z5 h1]
 unfold upV
 by_cases hc:f+ar≤h
 ·have:decide (h≥f+ar)=true:=by simpa using hc
  simp[hc,Zs]
 ·have:decide (h≥f+ar)=false:=by simpa using hc
  simp[hc]
abbrev upF(b f:Int):V:= .fn 95 [.agg [.int b, .int f]] []
theorem zty:cfg.pure 95=true:=by kernel_rfl
theorem zlL:cfg.pure 113=false:=by kernel_rfl
theorem zn8(b f:Int)(hf:0≤f∧f≤1048576): ∀(t:T) (ar:Int) (st:St),t.size≤1099511627776→0≤ar→ar+t.depth≤1099511627776→
  W.call 94 [enc t, .int ar,upF b f] st=some (.ret (.tup [enc (upT b f ar t), .bool true]),st):=by
 intro t
 induction t using T.ind with
 |_ k h xs ih=>
  intro ar st hs h0 hd
  simp only[T.size,T.depth]at hs hd
  have hlen:=Zy xs
  have hdep: ∀x∈xs,x.depth≤ZF xs:=fun x hx=>zfT hx
  have h1: ∀(i:Nat) (hi:i<xs.length),W.call 113 [.int (i:Int),enc xs[i], .cptr none (.int ar), .cptr (some 3) (.agg [.int k, .int h, .vec .plain (some 3) (Zi xs)]), .cptr none (upF b f)] st=
    some (.ret (.tup [enc (upT b f (if bindsB k&&decide (i+1=xs.length)then ar+1 else ar) xs[i]), .bool true]),st):=by
   intro i hi
   have hx:=List.getElem_mem hi
   have hsz:=size_le hx
   have hdx:=hdep _ hx
   have c1:=ih xs[i] hx (ar+1) st (by omega) (by omega) (by omega)
   have c0:=ih xs[i] hx ar st (by omega) h0 (by omega)
   rw[C,Zd xs[i],zgI]
   rw[Zv,Z5 (n:=ar+1) ⟨by omega,by omega⟩,Z5 (n:=(xs.length:Int)-1) ⟨by omega,by omega⟩,←Zd]
   have hlast:((i:Int)==(xs.length:Int)-1)=decide (i+1=xs.length):=by rw[Yh];congr 1;apply propext;omega
   rw[hlast]
   unfold bindsB
   simp only[Yh]
   by_cases k1:k=1
   ·by_cases hl:i+1=xs.length
    ·simp[k1,hl,c1,YV,←Zd]
    ·simp[k1,hl,c0,YV,←Zd]
   ·by_cases k3:k=3
    ·by_cases hl:i+1=xs.length
     ·simp[k3,hl,c1,YV,←Zd]
     ·simp[k3,hl,c0,YV,←Zd]
    ·simp[k1,k3,c0,YV,←Zd]
  have hul:(ups b f ar (bindsB k) xs).length=xs.length:=JF ..
  have hl:=J9 (n:=xs.length) (L:=fun i=>W.loop 112 3 [V.int (i:Nat),V.vec .grow (some 3) (Zi ((ups b f ar (bindsB k) xs).take i)), .fn 113 [] [.cptr none (.int ar), .cptr (some 3) (.agg [.int k, .int h, .vec .plain (some 3) (Zi xs)]), .cptr none (upF b f)],V.vec .plain (some 3) (Zi xs),V.int xs.length] st)
   (r:=some (Ex.exit 0,[V.vec .grow (some 3) (Zi (ups b f ar (bindsB k) xs))],st))
   (fun i hi=>by
    have hp:=h1 i hi
    have hr:roomFor Tryz.prog 25 (i+1)=true:=zcn (by omega)
    have hi':i<(ups b f ar (bindsB k) xs).length:=by rw[hul];exact hi
    show W.loop _ _ _ _=_
    rw[L,QC,zaE hi',zpF b f ar (bindsB k) xs i hi]
    rw[Z5 ⟨by omega,by omega⟩]
    have hmin:min i xs.length=i:=by omega
    have hlt:decide ((i:Int)<xs.length)=true:=by simp;omega
    have h0:decide ((0:Int)≤i)=true:=by simp
    simp[hlt,ZU hi,zlL,←Zd,hp,hr,hmin,hul,h0,hi])
   (by
    have hlt:decide ((xs.length:Int)<xs.length)=false:=by simp
    show W.loop _ _ _ _=_
    rw[L,QC,hlt,List.take_of_length_le (by omega)];rfl)
  have hl':W.loop 112 3 [V.int 0,V.vec .grow (some 3) [], .fn 113 [] [.cptr none (.int ar), .cptr (some 3) (.agg [.int k, .int h, .vec .plain (some 3) (Zi xs)]), .cptr none (upF b f)],V.vec .plain (some 3) (Zi xs),V.int xs.length] st=some (Ex.exit 0,[V.vec .grow (some 3) (Zi (ups b f ar (bindsB k) xs))],st):=hl
  have he:W.call 112 [.vec .plain (some 3) (Zi xs), .fn 113 [] [.cptr none (.int ar), .cptr (some 3) (.agg [.int k, .int h, .vec .plain (some 3) (Zi xs)]), .cptr none (upF b f)]] st=some (.ret (.tup [.vec .plain (some 3) (Zi (ups b f ar (bindsB k) xs)), .bool true]),st):=by
   rw[C,zcA]
   simp[hl',YV]
  rw[C,enc,ziQ]
  by_cases k4:k=4
  ·have hu:=(ztx b f h ar ⟨by omega,by omega⟩).p
   simp[k4,zty,hu,YV,upT,enc]at he⊢
   simp[he,YV]
  ·simp[k4,he,YV,upT,enc]
end Go.Proofs.SZ
namespace Go.Proofs.SZ
open Go Go.AM Go.Ama
theorem zjC(t:T)(b f:Int)(hs:t.size≤1099511627776):Ev 92 [enc t, .int b, .int f] (.bool (may t&&(decide (0≤b)&&(decide (b≤1048576)&&(decide (0≤f)&&decide (f≤1048576)))))):=by
 have h1:=(Qb t hs).p
 unfold Ev
 rw[C,Zd,zn6,←Zd,h1]
 cases may t
 ·rfl
 ·by_cases a1:0≤b<;>by_cases a2:b≤1048576<;>by_cases a3:0≤f<;>simp[a1,a2,a3]
theorem zpM(t:T)(b f:Int)(hs:t.size≤1099511627776):Ev 78 [enc t, .int b, .int f] (enc (upP t b f)):=by
 have h1:=(zjC t b f hs).p
 have h2:=(zk7 t hs).p
 unfold Ev
 rw[C,Zd t,zpa,←Zd,h1]
 unfold upP
 by_cases hm:(may t&&(decide (0≤b)&&(decide (b≤1048576)&&(decide (0≤f)&&decide (f≤1048576)))))=true
 ·rw[hm]
  simp only[Bool.and_eq_true,decide_eq_true_eq]at hm
  have hd:(t.depth:Int)≤1099511627776:=by have:=ze4 t;omega
  have h3:=zn8 b f hm.2.2.2 t 0 [] hs (by omega) (by omega)
  simp[h3,←Zd]
  simp[below,Zh,Zu,gd]
 ·have hm':(may t&&(decide (0≤b)&&(decide (b≤1048576)&&(decide (0≤f)&&decide (f≤1048576)))))=false:=by simpa using hm
  rw[hm']
  simp[h2,←Zd]
theorem zpd{g:Nat}{a b:List V}(hp:cfg.pure g=true){p:T→Bool}(xs:List T)(hs:xs.length≤1099511627776)(hg: ∀t∈xs,Zq W g (a++[enc t]++b)=some (.bool (p t)))(st:St):
  ∀(n i:Nat),xs.length-i=n→i≤xs.length→(∃j:Nat,(xs.drop i).any p=true∧W.loop 74 2 [.int (i:Int), .vec .plain (some 3) (Zi xs), .fn g a b, .int xs.length] st=some (.ret,[.int (j:Int)],st))∨
   ((xs.drop i).any p=false∧W.loop 74 2 [.int (i:Int), .vec .plain (some 3) (Zi xs), .fn g a b, .int xs.length] st=some (.exit 0,[],st)):=by
 intro n
 induction n with
 |zero=>
  intro i hn hi
  have:i=xs.length:=by omega
  subst this
  right
  refine⟨by simp, ?_⟩
  rw[L,YO]
  simp
 |succ n ih=>
  intro i hn hi
  have hlt:i<xs.length:=by omega
  have hx:=hg xs[i] (List.getElem_mem hlt)
  have hd:xs.drop i=xs[i]::xs.drop (i+1):=List.drop_eq_getElem_cons hlt
  have hstep:W.loop 74 2 [.int (i:Int), .vec .plain (some 3) (Zi xs), .fn g a b, .int xs.length] st=
    bc (p xs[i]) (some (.ret,[.int (i:Int)],st)) (W.loop 74 2 [.int ((i+1:Nat):Int), .vec .plain (some 3) (Zi xs), .fn g a b, .int xs.length] st):=by
   rw[L,YO]
   rw[Z5 ⟨by omega,by omega⟩]
   have h1:(i:Int)<xs.length:=by omega
   simp[h1,ZU hlt,←Zd,hp,hx]at hx⊢
   simp[hx]
  rw[hstep,hd,List.any_cons]
  cases hpx:p xs[i]with
  |true=>exact .inl ⟨i,rfl,rfl⟩
  |false=>
   simp only[bc,Bool.false_or]
   exact ih (i+1) (by omega) (by omega)
theorem zeF{g:Nat}{a b:List V}(hp:cfg.pure g=true){p:T→Bool}(xs:List T)(hs:xs.length≤1099511627776)(hg: ∀t∈xs,Zq W g (a++[enc t]++b)=some (.bool (p t)))(st:St):
  W.call 38 [.vec .plain (some 3) (Zi xs), .fn g a b] st=some (.ret (.bool (xs.any p)),st):=by
 have h:=zpd hp xs hs hg st _ 0 rfl (Nat.zero_le _)
 rw[C,Qh,C,Q8]
 simp only[List.drop_zero,Int.natCast_zero]at h
 rcases h with⟨j,h1,h2⟩|⟨h1,h2⟩
 ·simp[h2,h1,YV]
 ·simp[h2,h1,YV]
theorem zrd:cfg.pure 114=true:=by kernel_rfl
theorem zpe(t:T)(hs:t.size≤1099511627776):Ev 114 [enc t] (.bool (!may t)):=by
 have h1:=(Qb t hs).p
 unfold Ev
 rw[C,Zd,zjA,←Zd,h1]
 rfl
theorem zre(l:List T)(s:Int)(hs:sizes l≤1099511627776):Ev 96 [.agg [.vec .plain (some 3) (Zi l), .int s]] (.bool (zeC l s)):=by
 have hc:=zeF (p:=fun t=> !may t) zrd (a:=[]) (b:=[]) l (by have:=Zy l;omega) (fun t ht=>(zpe t (by have:=size_le ht;omega)).p) []
 unfold Ev
 rw[C,zn7]
 unfold zeC
 have hall:(l.any fun t=> !may t)= !l.all may:=by
  simp[List.not_all_eq_any_not]
 by_cases a1:l.length≤200
 ·have a1':(l.length:Int)≤200:=by omega
  by_cases a2:0≤s<;>by_cases a3:s≤1048576<;>simp[a1,a1',a2,a3,hc,hall]
 ·have a1': ¬(l.length:Int)≤200:=by omega
  simp[a1,a1']
end Go.Proofs.SZ
namespace Go.Proofs.SZ
open Go Go.AM Go.Ama
abbrev Jv(l:List T)(s:Int):V:= .agg [.vec .plain (some 3) (Zi l), .int s]
theorem JG(n:Nat): ∀a b:List V,Zh n (a++b)=(Zh n a&&Zh n b)
 |[],b=>by simp[Zh]
 |x::a,b=>by simp[Zh,JG n a b,Bool.and_assoc]
theorem zpf(l:List T)(s:Int)(hs:sizes l≤1099511627776):Ev 117 [Jv l s] (Jv (ziJ l) (zcq s)):=by
 have hlen:=Zy l
 have hl:=J9 (n:=l.length) (L:=fun i=>W.loop 117 3 [V.int (i:Nat),V.loc true (some 2) (V.agg [V.vec .grow (some 3) (Zi ((l.map fun t=>upP t 1 0).take i)),V.int (zcq s)]),V.vec .plain (some 3) (Zi l),V.loc true (some 2) (V.agg [V.vec Mode.full (some 3) [],V.int 0]),V.int l.length] [])
  (r:=some (Ex.exit 0,[V.loc true (some 2) (V.agg [V.vec Mode.full (some 3) [],V.int 0]),V.loc true (some 2) (V.agg [V.vec .grow (some 3) (Zi (l.map fun t=>upP t 1 0)),V.int (zcq s)])],[]))
  (fun i hi=>by
   have hp:=(zpM l[i] 1 0 (by have:=size_le (List.getElem_mem hi);omega)).p
   have hr:roomFor Tryz.prog 25 (i+1)=true:=zcn (by omega)
   have hi':i<(l.map fun t=>upP t 1 0).length:=by simpa using hi
   show W.loop _ _ _ _=_
   rw[L,zbJ,zaE hi',List.getElem_map]
   rw[Z5 ⟨by omega,by omega⟩]
   have hmin:min i l.length=i:=by omega
   have h1:(i:Int)<l.length:=by omega
   simp[h1,ZU hi,←Zd,hp,hr,hmin])
  (by
   show W.loop _ _ _ _=_
   rw[L,zbJ,List.take_of_length_le (by simp)]
   simp)
 have hl':W.loop 117 3 [V.int 0,V.loc true (some 2) (V.agg [V.vec .grow (some 3) [],V.int (zcq s)]),V.vec .plain (some 3) (Zi l),V.loc true (some 2) (V.agg [V.vec Mode.full (some 3) [],V.int 0]),V.int l.length] []=some (Ex.exit 0,[V.loc true (some 2) (V.agg [V.vec Mode.full (some 3) [],V.int 0]),V.loc true (some 2) (V.agg [V.vec .grow (some 3) (Zi (l.map fun t=>upP t 1 0)),V.int (zcq s)])],[]):=hl
 have hr:roomFor Tryz.prog 25 (l.length+1)=true:=zcn (by omega)
 unfold Ev
 rw[C,zjB]
 show Za (W.loop 117 3 [V.int 0,V.loc true (some 2) (V.agg [V.vec .grow (some 3) [],V.int (zcq s)]),V.vec .plain (some 3) (Zi l),V.loc true (some 2) (V.agg [V.vec Mode.full (some 3) [],V.int 0]),V.int ((Zi l).length:Nat)] []) _=_
 simp[hl',hr,ziJ,Jv,below,Zh,Zu,enc,JG]
theorem ztz(l:List T)(s i:Int)(hs:sizes l≤1099511627776)(h0:0≤i)(h1:I64 i):Ev 119 [Jv l s, .int i] (enc (ofT l s i)):=by
 have hlen:=Zy l
 unfold Ev ofT
 rw[C,zpb]
 by_cases hi:i<l.length
 ·have hj:l.length-1-i.toNat<l.length:=by omega
  have hj2:(l.length:Int)-1-i=((l.length-1-i.toNat:Nat):Int):=by omega
  have ho:=(zk7 (l[l.length-1-i.toNat]) (by have:=size_le (List.getElem_mem hj);omega)).p
  have hd:l.getD (l.length-1-i.toNat) (.mk 0 0 [])=l[l.length-1-i.toNat]:=by rw[List.getD_eq_getElem?_getD,List.getElem?_eq_getElem hj];rfl
  rw[if_pos hi,hd,Zv,Z5 (n:=(l.length:Int)-1) ⟨by omega,by omega⟩,hj2,Z5 ⟨by omega,by omega⟩]
  have h2:((l.length-1-i.toNat:Nat):Int)<l.length:=by omega
  simp only[ZU hj]
  simp[hi,h2,←Zd,ho,below,Zh]
 ·rw[if_neg hi]
  have h2: ¬i<((Zi l).length:Int):=by rw[Zv];exact hi
  simp[hi,enc]
theorem zn9(xs ys:List T)(hs:xs.length+ys.length≤2199023255552):Ev 124 [.vec .plain none [.vec .plain (some 3) (Zi xs), .vec .plain (some 3) (Zi ys)]] (.vec .plain (some 3) (Zi (xs++ys))):=by
 have r1:roomFor Tryz.prog 25 (xs.length+ys.length)=true:=zcn hs
 have r2:roomFor Tryz.prog 25 xs.length=true:=zcn (by omega)
 have a1:IntKind.i64.wrap (0+(xs.length:Int))=xs.length:=by rw[Z5 ⟨by omega,by omega⟩];omega
 have a2:IntKind.i64.wrap ((xs.length:Int)+ys.length)=(xs.length:Int)+ys.length:=Z5 ⟨by omega,by omega⟩
 have w1:IntKind.i64.wrap (0+1)=1:=by decide
 have w2:IntKind.i64.wrap (1+1)=2:=by decide
 have n1: ¬(xs.length:Int)<0:=by omega
 have n2: ¬(xs.length:Int)+ys.length<0:=by omega
 have n3:(0:Int)≤(xs.length:Int)+ys.length:=by omega
 have t2:((xs.length:Int)+ys.length).toNat=xs.length+ys.length:=by omega
 have g0: ∀(a b:V),ZY [a,b] 0=a:=fun _ _=>rfl
 have g1: ∀(a b:V),ZY [a,b] 1=b:=fun _ _=>rfl
 unfold Ev
 rw[C,Jb]
 have L1:W.loop 124 3 [V.int 0,V.int 0,V.vec .plain none [.vec .plain (some 3) (Zi xs), .vec .plain (some 3) (Zi ys)],V.vec .plain none [.vec .plain (some 3) (Zi xs), .vec .plain (some 3) (Zi ys)],V.int 2] []=
   some (.exit 0,[V.vec .plain none [.vec .plain (some 3) (Zi xs), .vec .plain (some 3) (Zi ys)],V.int ((xs.length:Int)+ys.length)],[]):=by
  rw[L,Yv,g0,w1]
  simp only[ZS,if_true,Zv,a1]
  simp[n1]
  rw[L,Yv,g1,w2]
  simp only[ZS,if_true,Zv,a2]
  simp[n2]
  rw[L,Yv]
  simp
 have L2:W.loop 124 11 [V.int 0,V.vec .grow (some 3) [],V.vec .plain none [.vec .plain (some 3) (Zi xs), .vec .plain (some 3) (Zi ys)],V.int 2] []=some (.exit 2,[V.vec .grow (some 3) (Zi (xs++ys))],[]):=by
  rw[L,Ys,g0,w1]
  simp only[ZS,if_true,Zv]
  simp[r2]
  rw[L,Ys,g1,w2]
  simp only[ZS,if_true,Zv]
  simp[r1]
  rw[L,Ys]
  simp
 have e2:((([.vec .plain (some 3) (Zi xs), .vec .plain (some 3) (Zi ys)]:List V).length:Nat):Int)=2:=rfl
 rw[e2,L1]
 simp only[Zb,zb7,Nat.beq_eq_true_eq,YS,ZS,if_true,ZW,Yd,e2,L2]
 simp[n3,t2,r1,JG,below,Zu,L2,e2]
end Go.Proofs.SZ
namespace Go.Proofs.SZ
open Go Go.AM Go.Ama
abbrev bx0:Res:= .box [.int 0, .int 0, .vec .full (some 3) []]
abbrev bx1:Res:= .box [.int 0]
abbrev wst(n:Nat):St:=[bx0,bx1, .box [.int (n:Int)]]
abbrev zrf(e:Int):V:= .ifc 29 (.int e)
section
variable{R:Type}
@[simp] theorem zgJ(x y z:Res)(st:St)(K:Res→Option R):Z6 (x::y::z::st) 2 K=K z:=rfl
@[simp] theorem JH(l:List V)(K:List V→Option R):Z3 (.box l) K=K l:=rfl
@[simp] theorem zk8(n:Int):Zo (AM.partOf [.int n] 0 none)= .int n:=rfl
@[simp] theorem zpN(a b:V):setCells [a] 0 [b]=[b]:=rfl
@[simp] theorem zvE(l:List T)(s:Int)(K:List V→Int→Option R):Zc (R:=R) [CT.slice (some 3),CT.int] (.agg [.vec .plain (some 3) (Zi l), .int s]) K=K (Zi l) s:=rfl
end
theorem zgK(e:Int)(n:Nat):W.call 116 [.int e] (wst n)=some (.panic (zrf e),wst n):=by
 rw[C,zfX];rfl
def RT(o:Oj)(r:Option (Out×St)):Prop:=
 match o with
 | .t t m=>r=some (.ret (enc t),wst m)
 | .e e=> ∃m:Nat,r=some (.panic (zrf e),wst m)
 | .l _ _=>False
noncomputable def lp6(i:Nat)(k h:Int)(acc xs l:List T)(s:Int)(v:V)(n:Nat):Option (Ex×List V×St):=
 W.loop 99 6 [.int (i:Int), .loc true (some 3) (.agg [.int k, .int h, .vec .grow (some 3) (Zi acc)]), .ref 2 0, .loc false (some 2) (.agg [.vec .plain (some 3) (Zi l), .int s]), .loc false (some 3) (.agg [.int k, .int h, .vec .plain (some 3) (Zi xs)]), .vec .plain (some 3) (Zi xs), .loc true (some 3) v, .int xs.length] (wst n)
def Sat:Job→Oj→Prop
 | .ap n t l s,o=>RT o (W.call 99 [.ref 2 0,enc t,Jv l s] (wst n))
 | .sp n t ys,o=>RT o (W.call 118 [.ref 2 0,enc t, .vec .plain (some 3) (Zi ys)] (wst n))
 | .ar n bd ts l s,o=> ∀(k h:Int) (xs acc:List T) (i:Nat) (v:V),xs.drop i=ts→bd=bindsB k→acc.length=i→i≤xs.length→xs.length≤1099511627776→
   match o with
   | .l ys m=>lp6 i k h acc xs l s v n=some (.exit 0,[.loc true (some 3) v, .loc true (some 3) (.agg [.int k, .int h, .vec .grow (some 3) (Zi (acc++ys))]), .loc false (some 3) (.agg [.int k, .int h, .vec .plain (some 3) (Zi xs)]), .loc false (some 2) (.agg [.vec .plain (some 3) (Zi l), .int s]), .ref 2 0],wst m)
   | .e e=> ∃(m:Nat) (vs:List V),lp6 i k h acc xs l s v n=some (.panic (zrf e),vs,wst m)
   | .t _ _=>False
theorem ziR(i:Nat)(k h:Int)(acc xs l:List T)(s:Int)(v:V)(n:Nat)(hi:i<xs.length)(hx:xs.length≤1099511627776)(hl:sizes l≤1099511627776)(hacc:acc.length=i):
  ∃vs,lp6 i k h acc xs l s v n=Za (W.call 99 [.ref 2 0,enc xs[i],Jv (belowL' (bindsB k) (xs.drop (i+1)) l) (belowS' (bindsB k) (xs.drop (i+1)) s)] (wst n)) fun r=>Zk r.1 (fun u=>Zc [CT.int,CT.int,CT.slice (some 3)] u fun a b c=>
   W.loop 99 6 [.int ((i+1:Nat):Int), .loc true (some 3) (.agg [.int k, .int h, .vec .grow (some 3) (Zi acc++[.agg [.int a, .int b, .vec .plain (some 3) c]])]), .ref 2 0, .loc false (some 2) (.agg [.vec .plain (some 3) (Zi l), .int s]), .loc false (some 3) (.agg [.int k, .int h, .vec .plain (some 3) (Zi xs)]), .vec .plain (some 3) (Zi xs), .loc true (some 3) v, .int xs.length] r.2)
   fun p=>some (.panic p,vs,r.2):=by
 have hu:=(zpf l s hl).p
 have hr:roomFor Tryz.prog 25 (i+1)=true:=zcn (by omega)
 have hw:IntKind.i64.wrap ((i:Int)+1)=((i+1:Nat):Int):=by rw[Z5 ⟨by omega,by omega⟩];omega
 have hw2:IntKind.i64.wrap ((xs.length:Int)-1)=(xs.length:Int)-1:=Z5 ⟨by omega,by omega⟩
 have hlt:(i:Int)<xs.length:=by omega
 have hlast:((i:Int)==(xs.length:Int)-1)=(xs.drop (i+1)).isEmpty:=by
  rw[Yh]
  by_cases he:i+1=xs.length
  ·simp[he];omega
  ·have: ¬(i:Int)=(xs.length:Int)-1:=by omega
   simp[this];omega
 unfold lp6
 rw[L,Jz]
 refine⟨[.loc true (some 3) v, .loc true (some 3) (.agg [.int k, .int h, .vec .plain (some 3) (Zi acc)]), .loc false (some 3) (.agg [.int k, .int h, .vec .plain (some 3) (Zi xs)]), .loc false (some 2) (.agg [.vec .plain (some 3) (Zi l), .int s]), .ref 2 0], ?_⟩
 rw[Zv,hw2,hw,hlast]
 unfold belowL' belowS' bindsB
 by_cases k1:k=1
 ·cases he:(xs.drop (i+1)).isEmpty
  ·simp[k1,he,hlt,ZU hi,←Zd,hr,hacc]
  ·simp[k1,he,hlt,ZU hi,←Zd,hr,hacc,hu]
 ·by_cases k3:k=3
  ·cases he:(xs.drop (i+1)).isEmpty
   ·simp[k3,he,hlt,ZU hi,←Zd,hr,hacc]
   ·simp[k3,he,hlt,ZU hi,←Zd,hr,hacc,hu]
  ·simp[k1,k3,hlt,ZU hi,←Zd,hr,hacc]
end Go.Proofs.SZ
namespace Go.Proofs.SZ
open Go Go.AM Go.Ama
theorem zt0(k h:Int)(acc xs l:List T)(s:Int)(v:V)(n i:Nat)(hi:i=xs.length):lp6 i k h acc xs l s v n=some (.exit 0,[.loc true (some 3) v, .loc true (some 3) (.agg [.int k, .int h, .vec .grow (some 3) (Zi acc)]), .loc false (some 3) (.agg [.int k, .int h, .vec .plain (some 3) (Zi xs)]), .loc false (some 2) (.agg [.vec .plain (some 3) (Zi l), .int s]), .ref 2 0],wst n):=by
 subst hi
 unfold lp6
 rw[L,Jz]
 simp
theorem ziS(n:Nat)(t:T)(l:List T)(s:Int)(hn:n+1≤40000)(ht:t.size≤1099511627776):
  W.call 99 [.ref 2 0,enc t,Jv l s] (wst n)=Za (lp6 0 t.k t.h [] t.args l s (.agg [.int 0, .int 0, .vec .full (some 3) []]) (n+1)) fun r12=>Xv r12.1 none none
   (fun i13=>bc (i13.beq 0) (Ze r12.2.1 fun v14 c15=>YF (some 3) v14 fun d16 v17=>Ze c15 fun v18 c19=>YF (some 3) v18 fun d20 v21=>YE v21 fun c22=>
    Ze c22 fun v23 c24=>Zt v23 fun n25=>Ze c24 fun v26 c27=>Zt v26 fun n28=>Ze c27 fun v29 c30=>YW (some 3) v29 fun l31=>Zj c30 (Ze c19 fun
    v32 c33=>YF (some 3) v32 fun d34 v35=>Zc [CT.int,CT.int,CT.slice (some 3)] (bif d34 then Zo v35 else v35) fun n36 n37 l38=>Ze c33 fun v39 c40=>YF
    (some 2) v39 fun d41 v42=>Zc [CT.slice (some 3),CT.int] (bif d41 then Zo v42 else v42) fun l43 n44=>Ze c40 fun v45 c46=>zep v45 fun q47=>Zj c46 (bc
    (n36 !=4) (YH 3 (V.agg [V.int n25,V.int n28,V.vec .plain (some 3) l31]) r12.2.2) (Za (Zq W 119 [V.agg [V.vec .plain (some 3) l43,V.int n44],
    V.int n37]) fun r48=>Zc [CT.int,CT.int,CT.slice (some 3)] r48 fun n49 n50 l51=>Za (W.call 118 [V.ref q47 0,V.agg [V.int n49,V.int n50,V.vec .plain
    (some 3) l51],V.vec .plain (some 3) l31] r12.2.2) fun r52=>Zk r52.fst (fun v53=>Zc [CT.int,CT.int,CT.slice (some 3)] v53 fun n54 n55 l56=>YH 3 (V.agg [V.int n54,V.int n55,V.vec .plain (some 3) l56]) r52.snd) fun p57=>gd (below 3 p57&&Zu 3 (List.take 3 r52.snd))
    (some (Out.panic p57,List.take 3 r52.snd)))))) none) fun v58=>gd (below 3 v58&&Zu 3 (List.take 3 r12.2.2)) (some (Out.panic v58,List.take 3 r12.2.2)):=by
 have hw:IntKind.i64.wrap ((n:Int)+1)=((n+1:Nat):Int):=by rw[Z5 ⟨by omega,by omega⟩];omega
 have hlim: ¬((n+1:Nat):Int)>40000:=by omega
 rw[C,Zd,zaH]
 simp only[zgJ,JH,zk8,zpN,hw]
 show gd _ _=_
 simp only[List.length_cons,List.length_nil,Nat.zero_add,Nat.le_refl,decide_true,Bool.and_self,Z9,Yd]
 show(Z6 (wst n) 2 fun x4=>_)=_
 simp only[zgJ,JH,zk8,zpN,List.length_cons,List.length_nil,Nat.zero_add,Nat.le_refl,decide_true,Bool.and_self,Z9]
 show(Z6 (wst (n+1)) 2 fun x6=>_)=_
 simp only[zgJ,JH,zk8,List.length_cons,List.length_nil,Nat.zero_add,Nat.le_refl,decide_true,Bool.and_self,Z9,Yd,Zv]
 rw[hw,decide_eq_false hlim,Zl]
 rfl
theorem zt1{j:Job}{o:Oj}(h:Big j o):Sat j o:=by
 induction h with
 | @apLimit n t l s h hn=>
  have hw:IntKind.i64.wrap ((n:Int)+1)=((n+1:Nat):Int):=by rw[Z5 ⟨by omega,by omega⟩];omega
  have hlim:((n+1:Nat):Int)>40000:=by omega
  refine⟨n+1, ?_⟩
  rw[C,Zd,zaH]
  simp only[zgJ,JH,zk8,zpN,hw]
  show gd _ _=_
  simp only[List.length_cons,List.length_nil,Nat.zero_add,Nat.le_refl,decide_true,Bool.and_self,Z9,Yd]
  show(Z6 (wst n) 2 fun x4=>_)=_
  simp only[zgJ,JH,zk8,zpN,List.length_cons,List.length_nil,Nat.zero_add,Nat.le_refl,decide_true,Bool.and_self,Z9]
  show(Z6 (wst (n+1)) 2 fun x6=>_)=_
  simp only[zgJ,JH,zk8,List.length_cons,List.length_nil,Nat.zero_add,Nat.le_refl,decide_true,Bool.and_self,Z9,Yd]
  rw[hw,decide_eq_true hlim,Zs]
  show Za (W.call _ _ (wst (n+1))) _=_
  rw[zgK]
  rfl
 | @apErr n t l s e h ht b ih=>
  obtain⟨m,vs,hL⟩:=ih t.k t.h t.args [] 0 (.agg [.int 0, .int 0, .vec .full (some 3) []]) rfl rfl rfl (Nat.zero_le _) (by cases t;simp only[T.size]at ht;have:=Zy (T.args (.mk ‹_› ‹_› ‹_›));simp only[T.args]at this⊢;omega)
  refine⟨m, ?_⟩
  rw[ziS n t l s h ht,hL]
  rfl
 | @apNode n t l s ys m h ht hk b ih=>
  have hL:=ih t.k t.h t.args [] 0 (.agg [.int 0, .int 0, .vec .full (some 3) []]) rfl rfl rfl (Nat.zero_le _) (by cases t;simp only[T.size]at ht;have:=Zy (T.args (.mk ‹_› ‹_› ‹_›));simp only[T.args]at this⊢;omega)
  show _=_
  rw[ziS n t l s h ht,hL]
  have hk':(t.k !=4)=true:=by simpa using hk
  simp[hk',hk,enc]
  rfl
 | @apVar n t l s ys m o h ht hl hk h0 h1 b c ihb ihc=>
  have hL:=ihb t.k t.h t.args [] 0 (.agg [.int 0, .int 0, .vec .full (some 3) []]) rfl rfl rfl (Nat.zero_le _) (by cases t;simp only[T.size]at ht;have:=Zy (T.args (.mk ‹_› ‹_› ‹_›));simp only[T.args]at this⊢;omega)
  have ho:=(ztz l s t.h hl h0 h1).p
  show RT o _
  rw[ziS n t l s h ht,hL]
  have hsp:RT o (W.call 118 [.ref 2 0,enc (ofT l s t.h), .vec .plain (some 3) (Zi ys)] (wst m)):=ihc
  have hgoal:(fun x=>RT o x) (W.call 118 [.ref 2 0,enc (ofT l s t.h), .vec .plain (some 3) (Zi ys)] (wst m)):=hsp
  simp[hk,ho,←Zd]
  cases o with
  |t u k=>
   simp only[RT]at hsp
   rw[hsp]
   simp[RT,←Zd]
   rfl
  |e e=>
   obtain⟨k,hsp⟩:=hsp
   rw[hsp]
   exact⟨k,rfl⟩
  |l _ _=>exact hsp.elim
 | @arNil n bd l s=>
  intro k h xs acc i v hd hb ha hi hx
  have hil:i=xs.length:=by have:=congrArg List.length hd;simp at this;omega
  show _=_
  rw[zt0 _ _ _ _ _ _ _ _ _ hil,List.append_nil]
 | @arErr n bd a ys l s e hl b ih=>
  intro k h xs acc i v hd hb ha hi hx
  have hlt:i<xs.length:=by
   have:=congrArg List.length hd;simp at this;omega
  have hc:xs.drop i=xs[i]::xs.drop (i+1):=List.drop_eq_getElem_cons hlt
  rw[hc]at hd
  obtain⟨rfl,rfl⟩:=List.cons.inj hd
  subst hb
  obtain⟨vs,hs⟩:=ziR i k h acc xs l s v n hlt hx hl ha
  obtain⟨m,hm⟩:=ih
  rw[hs,hm]
  exact⟨m,vs,rfl⟩
 | @arErr2 n m bd a a' ys l s e hl b c ihb ihc=>
  intro k h xs acc i v hd hb ha hi hx
  have hlt:i<xs.length:=by
   have:=congrArg List.length hd;simp at this;omega
  have hc:xs.drop i=xs[i]::xs.drop (i+1):=List.drop_eq_getElem_cons hlt
  rw[hc]at hd
  obtain⟨rfl,rfl⟩:=List.cons.inj hd
  subst hb
  obtain⟨vs,hs⟩:=ziR i k h acc xs l s v n hlt hx hl ha
  have hb1:W.call 99 [.ref 2 0,enc xs[i],Jv (belowL' (bindsB k) (xs.drop (i+1)) l) (belowS' (bindsB k) (xs.drop (i+1)) s)] (wst n)=some (.ret (enc a'),wst m):=ihb
  have:=ihc k h xs (acc++[a']) (i+1) v rfl rfl (by simp[ha]) (by omega) hx
  rw[hs,hb1]
  simp only[Zb,Zm,zuf,←Zd]
  have e1:Zi acc++[enc a']=Zi (acc++[a']):=by simp
  rw[e1]
  exact this
 | @arCons n m k' bd a a' ys ys' l s hl b c ihb ihc=>
  intro k h xs acc i v hd hb ha hi hx
  have hlt:i<xs.length:=by
   have:=congrArg List.length hd;simp at this;omega
  have hc:xs.drop i=xs[i]::xs.drop (i+1):=List.drop_eq_getElem_cons hlt
  rw[hc]at hd
  obtain⟨rfl,rfl⟩:=List.cons.inj hd
  subst hb
  obtain⟨vs,hs⟩:=ziR i k h acc xs l s v n hlt hx hl ha
  have hb1:W.call 99 [.ref 2 0,enc xs[i],Jv (belowL' (bindsB k) (xs.drop (i+1)) l) (belowS' (bindsB k) (xs.drop (i+1)) s)] (wst n)=some (.ret (enc a'),wst m):=ihb
  have:=ihc k h xs (acc++[a']) (i+1) v rfl rfl (by simp[ha]) (by omega) hx
  show _=_
  rw[hs,hb1]
  simp only[Zb,Zm,zuf,←Zd]
  have e1:Zi acc++[enc a']=Zi (acc++[a']):=by simp
  rw[e1]
  simpa[lp6]using this
 | @spNil n t=>
  show _=_
  rw[C,Zd,YN]
  simp[←Zd]
  rfl
 | @spMay n t a ys hk ha hm=>
  have h1:=(Qb a ha).p
  refine⟨n, ?_⟩
  rw[C,Zd,YN]
  have hz: ¬((Zi (a::ys)).length:Int)=0:=by rw[Zv];simp
  simp[hk,h1,hm,zgK,←Zd]
  rfl
 | @spErr n t a b0 r ys e hk ha hm hb b ih=>
  have h1:=(Qb a ha).p
  obtain⟨m,hm2⟩:=ih
  refine⟨m, ?_⟩
  have hm3:W.call 99 [.ref 2 0,enc b0, .agg [.vec .plain (some 3) [enc a], .int 0]] (wst n)=some (.panic (zrf e),wst m):=hm2
  rw[C,Zd,YN]
  simp[hk,h1,hm,hb,hm3,←Zd]
  rfl
 | @spLam n m t a b0 u r ys o hk ha hm hb b c ihb ihc=>
  have h1:=(Qb a ha).p
  have hm3:W.call 99 [.ref 2 0,enc b0, .agg [.vec .plain (some 3) [enc a], .int 0]] (wst n)=some (.ret (enc u),wst m):=ihb
  have hsp:RT o (W.call 118 [.ref 2 0,enc u, .vec .plain (some 3) (Zi ys)] (wst m)):=ihc
  have htk:List.take ys.length (Zi ys)=Zi ys:=List.take_of_length_le (by simp)
  show RT o _
  rw[C,Zd,YN]
  simp[hk,h1,hm,hb,hm3,htk,←Zd]
  cases o with
  |t w k=>
   simp only[RT]at hsp
   rw[hsp]
   simp[RT,←Zd]
   rfl
  |e e=>
   obtain⟨k,hsp⟩:=hsp
   rw[hsp]
   exact⟨k,rfl⟩
  |l _ _=>exact hsp.elim
 | @spApp n t a ys hk hs=>
  have hc:=(zn9 t.args (a::ys) (by simp only[List.length_cons];omega)).p (h2:=by simp[below,Zh,JG])
  simp only[QX]at hc
  show _=_
  rw[C,Zd,YN]
  rcases hk with hk|hk|hk
  ·simp[hk,hc,ZS,enc]
   rfl
  ·simp[hk,hc,ZS,enc]
   rfl
  ·simp[hk,hc,ZS,enc]
   rfl
 | @spType n t a ys h3 h2 h4 h5=>
  refine⟨n, ?_⟩
  rw[C,Zd,YN]
  simp[h3,h2,h4,h5,zgK]
  rfl
end Go.Proofs.SZ
namespace Go.Proofs.SZ
open Go Go.AM
set_option maxRecDepth 20000
theorem zlM(O:Oracle)(f:Nat)(a b:List V):ze2 Tryz.prog cfg O 97 [.fn f a b] []=
 bc (cfg.pure f) (Za (Zq O f (a++[V.ref 2 0]++b)) fun r1=>Zc [CT.int,CT.int,CT.slice (some 3)] r1 fun n2 n3 l4=>Za (Zq O 24 [V.agg [V.int n2,
 V.int n3,V.vec .plain (some 3) l4]]) fun r5=>Zn r5 fun b6=>bc (!b6) (Za (O.call 116 [V.int 4] [Res.box [V.int n2,V.int n3,V.vec .plain (some 3) l4],Res.box
 [V.int 0],Res.box [V.int 0]]) fun r7=>Zk r7.fst (fun v8=>Z4 v8 fun c9=>Zj c9 (Z6 r7.snd 0 fun x10=>Z3 x10 fun c11=>gd (decide (3≤c11.length)&&true)
 (onCells [CT.int,CT.int,CT.slice (some 3)] (List.map plain1 (List.take 3 (List.drop 0 c11))) fun n12 n13 l14=>Z6 r7.snd 0 fun x15=>Z3 x15 fun c16=>gd (decide (3≤
 c16.length)&&true) (Z6 (List.set r7.snd 0 (Res.box (setCells c16 0 [V.int n12,V.int n13,V.vec .plain (some 3) l14]))) 1 fun x17=>Z3 x17 fun c18=>gd (decide (1≤
 c18.length)&&true) (Z6 ((List.set r7.snd 0 (Res.box (setCells c16 0 [V.int n12,V.int n13,V.vec .plain (some 3) l14]))).set 1 (Res.box (setCells c18 0 [V.int 0]))) 0 fun x19
 =>Z3 x19 fun c20=>gd (decide (3≤c20.length)&&true) (Z6 ((List.set r7.snd 0 (Res.box (setCells c16 0 [V.int n12,V.int n13,V.vec .plain (some 3) l14]))).set 1 (Res.box
 (setCells c18 0 [V.int 0]))) 1 fun x21=>Z3 x21 fun c22=>gd (decide (1≤c22.length)&&true) (YH 0 (V.tup [V.agg (List.map plain1 (List.take 3 (List.drop 0 c20))),Zo
 (AM.partOf c22 0 none)]) ((List.set r7.snd 0 (Res.box (setCells c16 0 [V.int n12,V.int n13,V.vec .plain (some 3) l14]))).set 1 (Res.box (setCells c18 0 [V.int 0])))))))))) fun
 p23=>zcB p23 fun t24 n25=>bc (t24.beq 29) (Z6 r7.snd 0 fun x26=>Z3 x26 fun c27=>gd (decide (3≤c27.length)&&true) (Z6 (List.set r7.snd 0 (Res.box (setCells
 c27 0 [V.int 0,V.int 0,V.vec .plain (some 3) []]))) 1 fun x28=>Z3 x28 fun c29=>gd (decide (1≤c29.length)&&true) (Z6 ((List.set r7.snd 0 (Res.box (setCells c27 0
 [V.int 0,V.int 0,V.vec .plain (some 3) []]))).set 1 (Res.box (setCells c29 0 [V.int n25]))) 0 fun x30=>Z3 x30 fun c31=>gd (decide (3≤c31.length)&&true) (Z6
 ((List.set r7.snd 0 (Res.box (setCells c27 0 [V.int 0,V.int 0,V.vec .plain (some 3) []]))).set 1 (Res.box (setCells c29 0 [V.int n25]))) 1 fun x32=>Z3 x32 fun c33=>gd
 (decide (1≤c33.length)&&true) (YH 0 (V.tup [V.agg (List.map plain1 (List.take 3 (List.drop 0 c31))),Zo (AM.partOf c33 0 none)]) ((List.set r7.snd 0 (Res.box (setCells
 c27 0 [V.int 0,V.int 0,V.vec .plain (some 3) []]))).set 1 (Res.box (setCells c29 0 [V.int n25])))))))) none) (YH 0 (V.tup [V.agg [V.int n2,V.int n3,V.vec .plain (some 3) l4],
 V.int 0]) [Res.box [V.int n2,V.int n3,V.vec .plain (some 3) l4],Res.box [V.int 0],Res.box [V.int 0]])) (Za (O.call f (a++[V.ref 2 0]++b) [Res.box [V.int 0,V.int 0,
 V.vec Mode.full (some 3) []],Res.box [V.int 0],Res.box [V.int 0]]) fun r34=>Zk r34.fst (fun v35=>Zc [CT.int,CT.int,CT.slice (some 3)] v35 fun n36 n37 l38=>Z6
 r34.snd 0 fun x39=>Z3 x39 fun c40=>gd (decide (3≤c40.length)&&true) (Z6 (List.set r34.snd 0 (Res.box (setCells c40 0 [V.int n36,V.int n37,V.vec .plain (some 3)
 l38]))) 0 fun x41=>Z3 x41 fun c42=>gd (decide (3≤c42.length)&&true) (onCells [CT.int,CT.int,CT.slice (some 3)] (List.map plain1 (List.take 3 (List.drop 0 c42))) fun
 n43 n44 l45=>Za (Zq O 24 [V.agg [V.int n43,V.int n44,V.vec .plain (some 3) l45]]) fun r46=>Zn r46 fun b47=>bc (!b47) (Za (O.call 116 [V.int
 4] (List.set r34.snd 0 (Res.box (setCells c40 0 [V.int n36,V.int n37,V.vec .plain (some 3) l38])))) fun r48=>Zk r48.fst (fun v49=>Z4 v49 fun c50=>Zj c50 (Z6
 r48.snd 0 fun x51=>Z3 x51 fun c52=>gd (decide (3≤c52.length)&&true) (onCells [CT.int,CT.int,CT.slice (some 3)] (List.map plain1 (List.take 3 (List.drop 0 c52))) fun
 n53 n54 l55=>Z6 r48.snd 0 fun x56=>Z3 x56 fun c57=>gd (decide (3≤c57.length)&&true) (Z6 (List.set r48.snd 0 (Res.box (setCells c57 0 [V.int n53,V.int n54,V.vec
 .plain (some 3) l55]))) 1 fun x58=>Z3 x58 fun c59=>gd (decide (1≤c59.length)&&true) (Z6 ((List.set r48.snd 0 (Res.box (setCells c57 0 [V.int n53,V.int n54,V.vec
 .plain (some 3) l55]))).set 1 (Res.box (setCells c59 0 [V.int 0]))) 0 fun x60=>Z3 x60 fun c61=>gd (decide (3≤c61.length)&&true) (Z6 ((List.set r48.snd 0 (Res.box
 (setCells c57 0 [V.int n53,V.int n54,V.vec .plain (some 3) l55]))).set 1 (Res.box (setCells c59 0 [V.int 0]))) 1 fun x62=>Z3 x62 fun c63=>gd (decide (1≤c63.length)&&
 true) (YH 0 (V.tup [V.agg (List.map plain1 (List.take 3 (List.drop 0 c61))),Zo (AM.partOf c63 0 none)]) ((List.set r48.snd 0 (Res.box (setCells c57 0 [V.int n53,V.int n54,
 V.vec .plain (some 3) l55]))).set 1 (Res.box (setCells c59 0 [V.int 0])))))))))) fun p64=>zcB p64 fun t65 n66=>bc (t65.beq 29) (Z6 r48.snd 0 fun x67=>Z3 x67 fun c68
 =>gd (decide (3≤c68.length)&&true) (Z6 (List.set r48.snd 0 (Res.box (setCells c68 0 [V.int 0,V.int 0,V.vec .plain (some 3) []]))) 1 fun x69=>Z3 x69 fun c70=>gd
 (decide (1≤c70.length)&&true) (Z6 ((List.set r48.snd 0 (Res.box (setCells c68 0 [V.int 0,V.int 0,V.vec .plain (some 3) []]))).set 1 (Res.box (setCells c70 0 [V.int n66])))
 0 fun x71=>Z3 x71 fun c72=>gd (decide (3≤c72.length)&&true) (Z6 ((List.set r48.snd 0 (Res.box (setCells c68 0 [V.int 0,V.int 0,V.vec .plain (some 3) []]))).set 1
 (Res.box (setCells c70 0 [V.int n66]))) 1 fun x73=>Z3 x73 fun c74=>gd (decide (1≤c74.length)&&true) (YH 0 (V.tup [V.agg (List.map plain1 (List.take 3 (List.drop 0
 c72))),Zo (AM.partOf c74 0 none)]) ((List.set r48.snd 0 (Res.box (setCells c68 0 [V.int 0,V.int 0,V.vec .plain (some 3) []]))).set 1 (Res.box (setCells c70 0 [V.int
 n66])))))))) none) (Z6 (List.set r34.snd 0 (Res.box (setCells c40 0 [V.int n36,V.int n37,V.vec .plain (some 3) l38]))) 0 fun x75=>Z3 x75 fun c76=>gd (decide (3≤
 c76.length)&&true) (onCells [CT.int,CT.int,CT.slice (some 3)] (List.map plain1 (List.take 3 (List.drop 0 c76))) fun n77 n78 l79=>Z6 (List.set r34.snd 0 (Res.box (setCells
 c40 0 [V.int n36,V.int n37,V.vec .plain (some 3) l38]))) 0 fun x80=>Z3 x80 fun c81=>gd (decide (3≤c81.length)&&true) (Z6 ((List.set r34.snd 0 (Res.box (setCells c40
 0 [V.int n36,V.int n37,V.vec .plain (some 3) l38]))).set 0 (Res.box (setCells c81 0 [V.int n77,V.int n78,V.vec .plain (some 3) l79]))) 1 fun x82=>Z3 x82 fun c83=>gd
 (decide (1≤c83.length)&&true) (Z6 (((List.set r34.snd 0 (Res.box (setCells c40 0 [V.int n36,V.int n37,V.vec .plain (some 3) l38]))).set 0 (Res.box (setCells c81 0 [V.int
 n77,V.int n78,V.vec .plain (some 3) l79]))).set 1 (Res.box (setCells c83 0 [V.int 0]))) 0 fun x84=>Z3 x84 fun c85=>gd (decide (3≤c85.length)&&true) (Z6 (((List.set
 r34.snd 0 (Res.box (setCells c40 0 [V.int n36,V.int n37,V.vec .plain (some 3) l38]))).set 0 (Res.box (setCells c81 0 [V.int n77,V.int n78,V.vec .plain (some 3) l79]))).set 1
 (Res.box (setCells c83 0 [V.int 0]))) 1 fun x86=>Z3 x86 fun c87=>gd (decide (1≤c87.length)&&true) (YH 0 (V.tup [V.agg (List.map plain1 (List.take 3 (List.drop 0
 c85))),Zo (AM.partOf c87 0 none)]) (((List.set r34.snd 0 (Res.box (setCells c40 0 [V.int n36,V.int n37,V.vec .plain (some 3) l38]))).set 0 (Res.box (setCells c81 0 [V.int
 n77,V.int n78,V.vec .plain (some 3) l79]))).set 1 (Res.box (setCells c83 0 [V.int 0])))))))))))) fun p88=>zcB p88 fun t89 n90=>bc (t89.beq 29) (Z6 r34.snd 0 fun x91=>
 Z3 x91 fun c92=>gd (decide (3≤c92.length)&&true) (Z6 (List.set r34.snd 0 (Res.box (setCells c92 0 [V.int 0,V.int 0,V.vec .plain (some 3) []]))) 1 fun x93=>Z3 x93
 fun c94=>gd (decide (1≤c94.length)&&true) (Z6 ((List.set r34.snd 0 (Res.box (setCells c92 0 [V.int 0,V.int 0,V.vec .plain (some 3) []]))).set 1 (Res.box (setCells c94 0
 [V.int n90]))) 0 fun x95=>Z3 x95 fun c96=>gd (decide (3≤c96.length)&&true) (Z6 ((List.set r34.snd 0 (Res.box (setCells c92 0 [V.int 0,V.int 0,V.vec .plain (some 3)
 []]))).set 1 (Res.box (setCells c94 0 [V.int n90]))) 1 fun x97=>Z3 x97 fun c98=>gd (decide (1≤c98.length)&&true) (YH 0 (V.tup [V.agg (List.map plain1 (List.take 3
 (List.drop 0 c96))),Zo (AM.partOf c98 0 none)]) ((List.set r34.snd 0 (Res.box (setCells c92 0 [V.int 0,V.int 0,V.vec .plain (some 3) []]))).set 1 (Res.box (setCells c94 0
 [V.int n90])))))))) none):=by kernel_rfl
end Go.Proofs.SZ
namespace Go.Proofs.SZ
open Go Go.AM Go.Ama
theorem ztD(a b c x y z:V):setCells [a,b,c] 0 [x,y,z]=[x,y,z]:=rfl
theorem plI(n:Int):plain1 (.int n)= .int n:=rfl
theorem plV(sh:Sh)(l:List V):plain1 (.vec .plain sh l)= .vec .plain sh l:=rfl
theorem zvr(v:V)(a:Res)(st:St)(h:below 0 v=true):YH 0 v (a::st)=some (.ret v,[]):=by
 have:Nat.beq (a::st).length 0=false:=rfl
 unfold YH
 rw[this]
 simp[h,Zu]
theorem znA:cfg.pure 98=false:=by kernel_rfl
theorem znB{t:T}{l:List T}{s:Int}{o:Oj}(h:Big (.ap 0 t l s) o):RT o (W.call 98 [.ref 2 0, .cptr (some 3) (enc t), .cptr (some 2) (Jv l s)] (wst 0)):=by
 have hs:RT o (W.call 99 [.ref 2 0,enc t,Jv l s] (wst 0)):=zt1 h
 rw[C,Zd,zh4,←Zd]
 cases o with
 |t u k=>
  simp only[RT]at hs
  rw[hs]
  simp[RT,←Zd]
  rfl
 |e e=>
  obtain⟨k,hs⟩:=hs
  rw[hs]
  exact⟨k,rfl⟩
 |l _ _=>exact hs.elim
theorem zs5:ext 97=some (fun O args st=>ze2 Tryz.prog cfg O 97 args st):=by
 unfold ext
 rfl
theorem zuW(args:List V)(st:St):W.call 97 args st=ze2 Tryz.prog cfg W 97 args st:=
 Cx (x:=fun O args st=>ze2 Tryz.prog cfg O 97 args st) 97 args st zs5
theorem zrg{t:T}{l:List T}{s:Int}{o:Oj}(h:Big (.ap 0 t l s) o)(hs:zoN o):
  W.call 97 [.fn 98 [] [.cptr (some 3) (enc t), .cptr (some 2) (Jv l s)]] []=some (.ret (.tup [enc (zbF o).1, .int (zbF o).2]),[]):=by
 have h1:=znB h
 rw[zuW,zlM,znA]
 simp only[Zl,List.nil_append,List.singleton_append]
 cases o with
 |t u k=>
  simp only[RT]at h1
  have hm:=(Qb u hs).p
  have h2:W.call 98 [.ref 2 0, .cptr (some 3) (enc t), .cptr (some 2) (Jv l s)] [bx0,bx1, .box [.int 0]]=some (.ret (enc u),wst k):=h1
  rw[h2]
  have hf:W.call 116 [.int 4] [.box [.int u.k, .int u.h, .vec .plain (some 3) (Zi u.args)],bx1, .box [.int (k:Int)]]=some (.panic (zrf 4),[.box [.int u.k, .int u.h, .vec .plain (some 3) (Zi u.args)],bx1, .box [.int (k:Int)]]):=by
   rw[C,zfX]
   simp[below,Zu,zbv,Zh]
  cases hmu:may u with
  |true=>
   have e:zbF (.t u k)=(u,0):=by simp[zbF,hmu]
   rw[hmu]at hm
   rw[e]
   simp[ztD,plI,plV,hm,←Zd]
   exact zvr _ _ _ (by simp[below,Zh])
  |false=>
   have e:zbF (.t u k)=(.mk 0 0 [],4):=by simp[zbF,hmu]
   rw[hmu]at hm
   rw[e]
   simp[ztD,plI,plV,hm,←Zd]
   rw[hf]
   rfl
 |e e=>
  obtain⟨k,h1⟩:=h1
  have h2:W.call 98 [.ref 2 0, .cptr (some 3) (enc t), .cptr (some 2) (Jv l s)] [bx0,bx1, .box [.int 0]]=some (.panic (zrf e),wst k):=h1
  rw[h2]
  simp[zbF]
  rfl
 |l _ _=>exact h1.elim
theorem zpg{t:T}{l:List T}{s:Int}{o:Oj}(ht:t.size≤1099511627776)(hl:sizes l≤1099511627776)(h:may t=true→zeC l s=true→Big (.ap 0 t l s) o∧zoN o):
  Ev 80 [enc t,Jv l s] (.tup [enc (zd8 t l s o).1, .int (zd8 t l s o).2]):=by
 have h1:=(Qb t ht).p
 have h2:=(zre l s hl).p
 unfold Ev
 rw[C,Zd t,zj9,←Zd,h1]
 cases hm:may t with
 |false=>simp[zd8,hm,enc]
 |true=>
  simp only[Zb,Zw,Bool.not_true,Zl]
  rw[h2]
  cases hs:zeC l s with
  |false=>simp[zd8,hm,hs,enc]
  |true=>
   obtain⟨hb,hsm⟩:=h hm hs
   have h3:=zrg hb hsm
   have e:zd8 t l s o=zbF o:=by simp[zd8,hm,hs]
   rw[e]
   simp[h3,←Zd]
   simp[below,Zh,Zu,gd]
theorem zdD{β:Int}(hβ:YC β){t:T}{l:List T}{s:Int}(ht:t.size≤1099511627776)(hl:sizes l≤1099511627776)(h1:may t=true→okB β t)(h2:zeC l s=true→ ∀x∈l,okB β x):
  Ev 80 [enc t,Jv l s] (.tup [enc (YT t l s).1, .int (YT t l s).2]):=
 zpg ht hl fun m1 m2=>by
  obtain⟨b,_,c⟩:=zpH hβ (h1 m1) (h2 m2) m1 m2
  exact⟨b,c⟩
end Go.Proofs.SZ
namespace Go.Proofs.SZ
open Go Go.AM Go.Ama
theorem znC{g:Nat}{a b:List V}(hp:cfg.pure g=false){p:D→Bool}(xs:List D)(hs:xs.length≤1099511627776)(st:St)(hg: ∀t∈xs,W.call g (a++[Jy t]++b) st=some (.ret (.bool (p t)),st)):
  ∀(n i:Nat),xs.length-i=n→i≤xs.length→(∃j:Nat,(xs.drop i).any p=true∧W.loop 75 2 [.int (i:Int), .vec .plain (some 4) (Z2 xs), .fn g a b, .int xs.length] st=some (.ret,[.int (j:Int)],st))∨
   ((xs.drop i).any p=false∧W.loop 75 2 [.int (i:Int), .vec .plain (some 4) (Z2 xs), .fn g a b, .int xs.length] st=some (.exit 0,[],st)):=by
 intro n
 induction n with
 |zero=>
  intro i hn hi
  have:i=xs.length:=by omega
  subst this
  right
  refine⟨by simp, ?_⟩
  rw[L,ZR]
  simp
 |succ n ih=>
  intro i hn hi
  have hlt:i<xs.length:=by omega
  have hx:=hg xs[i] (List.getElem_mem hlt)
  have hd:xs.drop i=xs[i]::xs.drop (i+1):=List.drop_eq_getElem_cons hlt
  have hstep:W.loop 75 2 [.int (i:Int), .vec .plain (some 4) (Z2 xs), .fn g a b, .int xs.length] st=
    bc (p xs[i]) (some (.ret,[.int (i:Int)],st)) (W.loop 75 2 [.int ((i+1:Nat):Int), .vec .plain (some 4) (Z2 xs), .fn g a b, .int xs.length] st):=by
   rw[L,ZR,XR hlt]
   rw[Z5 ⟨by omega,by omega⟩]
   have h1:(i:Int)<xs.length:=by omega
   have e1:V.agg [V.str (ba xs[i].name),V.int xs[i].t.k,V.int xs[i].t.h,V.vec .plain (some 3) (Zi xs[i].t.args)]=Jy xs[i]:=rfl
   simp only[h1,ZX,Int.natCast_nonneg,decide_true,Bool.and_self,Z9,Zs,zvf,hp,Zl,e1,hx,Zb,Zm,Zw]
   rfl
  rw[hstep,hd,List.any_cons]
  cases hpx:p xs[i]with
  |true=>exact .inl ⟨i,rfl,rfl⟩
  |false=>
   simp only[bc,Bool.false_or]
   exact ih (i+1) (by omega) (by omega)
theorem ziT{g:Nat}{a b:List V}(hp:cfg.pure g=false){p:D→Bool}(xs:List D)(hs:xs.length≤1099511627776)(st:St)(hg: ∀t∈xs,W.call g (a++[Jy t]++b) st=some (.ret (.bool (p t)),st)):
  W.call 40 [.vec .plain (some 4) (Z2 xs), .fn g a b] st=some (.ret (.bool (xs.any p)),st):=by
 have h:=znC hp xs hs st hg _ 0 rfl (Nat.zero_le _)
 rw[C,Qg,C,Xd]
 simp only[List.drop_zero,Int.natCast_zero]at h
 rcases h with⟨j,h1,h2⟩|⟨h1,h2⟩
 ·simp[h2,h1,YV]
 ·simp[h2,h1,YV]
end Go.Proofs.SZ
namespace Go.Proofs.SZ
open Go Go.AM
set_option maxRecDepth 20000
theorem X2(O:Oracle)(l0:(List V))(g1:Nat)(l2:(List V))(l3:(List V))(st:St):Zf Tryz.prog cfg O 42 [.vec .plain (some 5) l0, .fn g1 l2 l3] st=
 Za (O.call 76 [V.vec .plain (some 5) l0,V.fn g1 l2 l3] st) fun r1=>Zk r1.fst (fun v2=>Zt v2 fun n3=>YH (List.length st)
 (V.bool (decide (n3≥0))) r1.snd) fun p4=>none:=by kernel_rfl
theorem XG(O:Oracle)(l0:(List V))(g1:Nat)(l2:(List V))(l3:(List V))(st:St):Zf Tryz.prog cfg O 76 [.vec .plain (some 5) l0, .fn g1 l2 l3] st=
 Za (O.loop 76 2 [V.int 0,V.vec .plain (some 5) l0,V.fn g1 l2 l3,V.int (↑l0.length:Int)] st) fun r1=>Xv r1.fst none (Ze
 r1.snd.fst fun v2 c3=>Zt v2 fun n4=>Zj c3 (YH (List.length st) (V.int n4) r1.snd.snd)) (fun i5=>bc (i5.beq 0) (Zj r1.snd.fst (YH (List.length st) (V.int (-1))
 r1.snd.snd)) none) fun v6=>none:=by kernel_rfl
theorem Yx(O:Oracle)(n0:Int)(l1:(List V))(g2:Nat)(l3:(List V))(l4:(List V))(n5:Int)(st:St):ZC Tryz.prog cfg O 76 2 [.int n0, .vec .plain (some 5) l1, .fn g2 l3 l4, .int n5] st=
 bc (decide (n0<n5)) (gd (decide (0≤n0)&&decide (n0<(↑l1.length:Int))) (Zc [CT.slice (some 3),CT.int,CT.int,CT.slice (some 3),CT.bool] (ZY l1 n0) fun l1_1 n2
 n3 l4_1 b5=>bc (cfg.pure g2) (Za (Zq O g2 (l3++[V.agg [V.vec .plain (some 3) l1_1,V.int n2,V.int n3,V.vec .plain (some 3) l4_1,V.bool b5]]++l4)) fun r6=>Zn
 r6 fun b7=>bc b7 (some (Ex.ret,[V.int n0],st)) (O.2 76 2 [V.int (IntKind.i64.wrap (n0+1)),V.vec .plain (some 5) l1,V.fn g2 l3 l4,
 V.int n5] st)) (Za (O.call g2 (l3++[V.agg [V.vec .plain (some 3) l1_1,V.int n2,V.int n3,V.vec .plain (some 3) l4_1,V.bool b5]]++l4) st) fun r8=>Zk r8.fst (fun v9
 =>Zn v9 fun b10=>bc b10 (some (Ex.ret,[V.int n0],r8.snd)) (O.2 76 2 [V.int (IntKind.i64.wrap (n0+1)),V.vec .plain (some 5)
 l1,V.fn g2 l3 l4,V.int n5] r8.snd)) fun p11=>none))) (some (Ex.exit 0,[],st)):=by kernel_rfl
end Go.Proofs.SZ
namespace Go.Proofs.SZ
open Go Go.AM Go.Ama
theorem znD{g:Nat}{a b:List V}(hp:cfg.pure g=false){p:M→Bool}(xs:List M)(hs:xs.length≤1099511627776)(st:St)(hg: ∀t∈xs,W.call g (a++[zd9 t]++b) st=some (.ret (.bool (p t)),st)):
  ∀(n i:Nat),xs.length-i=n→i≤xs.length→(∃j:Nat,(xs.drop i).any p=true∧W.loop 76 2 [.int (i:Int), .vec .plain (some 5) (XX xs), .fn g a b, .int xs.length] st=some (.ret,[.int (j:Int)],st))∨
   ((xs.drop i).any p=false∧W.loop 76 2 [.int (i:Int), .vec .plain (some 5) (XX xs), .fn g a b, .int xs.length] st=some (.exit 0,[],st)):=by
 intro n
 induction n with
 |zero=>
  intro i hn hi
  have:i=xs.length:=by omega
  subst this
  right
  refine⟨by simp, ?_⟩
  rw[L,Yx]
  simp
 |succ n ih=>
  intro i hn hi
  have hlt:i<xs.length:=by omega
  have hx:=hg xs[i] (List.getElem_mem hlt)
  have hd:xs.drop i=xs[i]::xs.drop (i+1):=List.drop_eq_getElem_cons hlt
  have hstep:W.loop 76 2 [.int (i:Int), .vec .plain (some 5) (XX xs), .fn g a b, .int xs.length] st=
    bc (p xs[i]) (some (.ret,[.int (i:Int)],st)) (W.loop 76 2 [.int ((i+1:Nat):Int), .vec .plain (some 5) (XX xs), .fn g a b, .int xs.length] st):=by
   rw[L,Yx,ziK hlt]
   rw[Z5 ⟨by omega,by omega⟩]
   have h1:(i:Int)<xs.length:=by omega
   have e1:V.agg [V.vec .plain (some 3) (Zi xs[i].ctx),V.int xs[i].t.k,V.int xs[i].t.h,V.vec .plain (some 3) (Zi xs[i].t.args),V.bool xs[i].param]=zd9 xs[i]:=rfl
   simp only[h1,zfU,Int.natCast_nonneg,decide_true,Bool.and_self,Z9,Zs,onM,hp,Zl,e1,hx,Zb,Zm,Zw]
   rfl
  rw[hstep,hd,List.any_cons]
  cases hpx:p xs[i]with
  |true=>exact .inl ⟨i,rfl,rfl⟩
  |false=>
   simp only[bc,Bool.false_or]
   exact ih (i+1) (by omega) (by omega)
theorem ziU{g:Nat}{a b:List V}(hp:cfg.pure g=false){p:M→Bool}(xs:List M)(hs:xs.length≤1099511627776)(st:St)(hg: ∀t∈xs,W.call g (a++[zd9 t]++b) st=some (.ret (.bool (p t)),st)):
  W.call 42 [.vec .plain (some 5) (XX xs), .fn g a b] st=some (.ret (.bool (xs.any p)),st):=by
 have h:=znD hp xs hs st hg _ 0 rfl (Nat.zero_le _)
 rw[C,X2,C,XG]
 simp only[List.drop_zero,Int.natCast_zero]at h
 rcases h with⟨j,h1,h2⟩|⟨h1,h2⟩
 ·simp[h2,h1,YV]
 ·simp[h2,h1,YV]
end Go.Proofs.SZ
