import Derived.Test.YtgoppocfbhbamaaGreatDoorGa
import Derived.KernelRfl
import Derived.Test.YtgoppocfbhbamaaGreatDoorAMd
/- The program's functions, each an equation of the abstract machine checked by the kernel, and what they come to as_ plain Lean. -/
set_option linter.unusedVariables false
set_option linter.unusedSimpArgs false
set_option linter.unusedSectionVars false
namespace Go.Proofs.SZ
open Go Go.AM Go.Ama
theorem zrL(x:Bytes)(bs:List Bytes)(v0:V)(st:St)(hb:bs.length≤1048576): ∀d k,k+d=bs.length→
  W.loop 109 2 [.loc true (some 3) v0, .int (k:Nat), .loc false none (.str (ba x)), .vec .plain none (zas bs.reverse), .ref 0 0, .int bs.length] st=
   some (match zkg x (bs.drop k)with
    |some i=>(Ex.ret,[V.loc false (some 3) (V.agg [V.int 4,V.int ((k+i:Nat):Int),V.vec .full (some 3) []])],st)
    |none=>(Ex.exit 0,[V.loc true (some 3) v0,V.ref 0 0,V.loc false none (V.str (ba x))],st)):=by
 intro d
 induction d with
 |zero=>
  intro k hk
  have hkl:k=bs.length:=by omega
  subst hkl
  have hlt:decide (((bs.length:Nat):Int)<bs.length)=false:=by simp
  rw[L,J0,hlt,List.drop_length]
  rfl
 |succ d ih=>
  intro k hk
  have hkl:k<bs.length:=by omega
  have hlt:decide (((k:Nat):Int)<bs.length)=true:=by simp;omega
  have hw:IntKind.i64.wrap (IntKind.i64.wrap (((zas bs.reverse).length:Int)-1)-(k:Nat))=((bs.length-1-k:Nat):Int):=by
   have hw1:IntKind.i64.wrap ((bs.length:Int)-1)=(bs.length:Int)-1:=Z9 ⟨by omega,by omega⟩
   rw[zdE,List.length_reverse,hw1,Z9 ⟨by omega,by omega⟩];omega
  have h0:decide ((0:Int)≤((bs.length-1-k:Nat):Int))=true:=by simp
  have h1:decide ((((bs.length-1-k:Nat):Int))<((zas bs.reverse).length:Int))=true:=by simp;omega
  have hi:bs.length-1-k<bs.reverse.length:=by simp;omega
  have hget:bs.reverse[bs.length-1-k]=bs[k]:=by
   rw[List.getElem_reverse];congr 1;omega
  have hd:bs.drop k=bs[k]::bs.drop (k+1):=List.drop_eq_getElem_cons hkl
  rw[L,J0,hlt,hw,h0,h1,zrJ hi,hget,hd,Zq,XL,zgj]
  simp only[Bool.and_self,Z6,zkg]
  by_cases hx:bs[k]=x
  ·simp[hx,bc]
  ·simp only[hx,decide_false,Zn,if_false]
   rw[Z9 ⟨by omega,by omega⟩]
   have:=ih (k+1) (by omega)
   rw[show(((k+1:Nat)):Int)=(k:Nat)+1 from rfl]at this
   rw[this]
   cases zkg x (bs.drop (k+1))with
   |none=>rfl
   |some i=>simp only[Option.map_some];rw[show k+1+i=k+(i+1) by omega]
def Names(g:Nat)(x:Bytes):Prop:=cfg.pure g=false∧ ∀d st,W.call g [Q3 d, .cptr none (.str (ba x))] st=some (.ret (.bool (decide (d.name=x))),st)
theorem zvj(x:Bytes):Names 123 x:=⟨rfl,fun d st=>by rw[C,Q3,zcR,zgj];exact Yj rfl⟩
theorem zvk(x:Bytes):Names 72 x:=⟨rfl,fun d st=>by rw[C,Q3,zcQ,zgj];exact Yj rfl⟩
theorem ztn{g:Nat}{x:Bytes}(hg:Names g x)(l:List D)(st:St)(hl:l.length≤1048576): ∀d k,k+d=l.length→
  W.loop 75 2 [.int (k:Nat), .vec .plain (some 4) (Zx l), .fn g [] [.cptr none (.str (ba x))], .int l.length] st=
   some (match idx x (l.drop k)with
    |some i=>(Ex.ret,[V.int ((k+i:Nat):Int)],st)
    |none=>(Ex.exit 0,[],st)):=by
 intro d
 induction d with
 |zero=>
  intro k hk
  have hkl:k=l.length:=by omega
  subst hkl
  have hlt:decide (((l.length:Nat):Int)<l.length)=false:=by simp
  rw[L,ZY,hlt,List.drop_length]
  rfl
 |succ d ih=>
  intro k hk
  have hkl:k<l.length:=by omega
  have hlt:decide (((k:Nat):Int)<l.length)=true:=by simp;omega
  have h0:decide ((0:Int)≤(k:Nat))=true:=by simp
  have hd:l.drop k=l[k]::l.drop (k+1):=List.drop_eq_getElem_cons hkl
  have hc:=hg.2 l[k] st
  unfold Q3 at hc
  rw[L,ZY]
  simp only[ZA,hlt,h0,Xi hkl,zb1,hg.1,Zn,Zq,Bool.and_self,Z6,List.nil_append,List.cons_append,hc,Zb,Zk,Zs]
  rw[hd]
  simp only[idx]
  by_cases hx:l[k].name=x
  ·simp[hx,bc]
  ·simp only[hx,decide_false,Zn,if_false]
   rw[Z9 ⟨by omega,by omega⟩]
   have:=ih (k+1) (by omega)
   rw[show(((k+1:Nat)):Int)=(k:Nat)+1 from rfl]at this
   rw[this]
   cases idx x (l.drop (k+1))with
   |none=>rfl
   |some i=>simp only[Option.map_some];rw[show k+1+i=k+(i+1) by omega]
def zup(x:Bytes)(l:List D):Int:=match idx x l with|some i=>(i:Nat)|none=> -1
theorem zdP{g:Nat}{x:Bytes}(hg:Names g x)(l:List D)(st:St)(hl:l.length≤1048576):
  W.call 75 [.vec .plain (some 4) (Zx l), .fn g [] [.cptr none (.str (ba x))]] st=some (.ret (.int (zup x l)),st):=by
 have h:=ztn hg l st hl l.length 0 (by omega)
 rw[C,Xl,ZA]
 rw[show((0:Nat):Int)=0 from rfl]at h
 rw[h,List.drop_zero,Zb]
 unfold zup
 cases idx x l with
 |none=>exact Yj rfl
 |some i=>simp only[Nat.zero_add];exact Yj rfl
theorem zgp{g:Nat}{x:Bytes}(hg:Names g x)(l:List D)(st:St)(hl:l.length≤1048576):
  W.call 40 [.vec .plain (some 4) (Zx l), .fn g [] [.cptr none (.str (ba x))]] st=some (.ret (.bool (idx x l).isSome),st):=by
 rw[C,YV,zdP hg l st hl,Zb,Zk,ZO,Yj rfl]
 unfold zup
 cases idx x l with
 |none=>rfl
 |some i=>simp
theorem zqA{x:Bytes}: ∀{l:List D} {i:Nat},idx x l=some i→i<l.length
 |[],i,h=>by cases h
 |d::l,i,h=>by
  unfold idx at h
  split at h
  ·cases h;simp
  ·cases hq:idx x l with
   |none=>rw[hq]at h;cases h
   |some j=>rw[hq]at h;cases h;have:=zqA hq;simp;omega
def zvl(t:T):V:= .agg [.int t.k, .int t.h, .vec .full (some 3) []]
theorem zkR(m:AM.Mode)(s:PS)(x:Bytes)(bs:List Bytes)(hb:bs.length≤1048576)(hs:s.s.length≤1048576):
  W.call 109 [.ref 0 0, .str (ba x), .vec .plain none (zas bs.reverse)] [Yv m s]=some (.ret (zvl (s.head x bs).1),[Yv m (s.head x bs).2]):=by
 have h:=zrL x bs (V.agg [V.int 0,V.int 0,V.vec .full (some 3) []]) [Yv m s] hb bs.length 0 (by omega)
 rw[show((0:Nat):Int)=0 from rfl,List.drop_zero]at h
 rw[C,Yv,ze4,←Yv,zdE,List.length_reverse,h,Zb]
 unfold PS.head
 cases hbk:zkg x bs with
 |some i=>simp only[Nat.zero_add];rfl
 |none=>
  have hb0:Nat.beq 0 0=true:=rfl
  simp only[za1,hb0,Zq,YO,zkF,zkH,cond_false,XL,ZH]
  have hget: ∀{R:Type} (K:Res→Option R),Z4 [Yv m s] 0 K=K (Yv m s):=fun K=>rfl
  rw[hget,Yv,X0,←Yv]
  have hcl:Zo (AM.partOf [V.vec .plain (some 2) (Zw s.l),V.vec m (some 4) (Zx s.s),V.int s.e] 1 none)= .vec .plain (some 4) (Zx s.s):=by cases m<;>rfl
  rw[hcl,Yt,zdP (zvj x) s.s _ hs,Zb,Zk,ZO]
  unfold zup
  have h2g: ∀{R:Type} (X:Option R),gd (decide (2≤ [V.vec .plain (some 2) (Zw s.l),V.vec m (some 4) (Zx s.s),V.int s.e].length)&&true) X=X:=fun X=>rfl
  cases hix:idx x s.s with
  |none=>
   simp only[h2g,show decide ((-1:Int)<0)=true from rfl,Zq,Qa]
   rfl
  |some i=>
   have hi:=zqA hix
   have hneg:decide (((i:Nat):Int)<0)=false:=by simp
   have h0:decide ((0:Int)≤(i:Nat))=true:=by simp
   have h1:decide (((i:Nat):Int)<((Zx s.s).length:Int))=true:=by simp;omega
   simp only[hneg,Zn]
   rw[hget,Yv,X0,←Yv,hcl,Yt,h0,h1,Xi hi,h2g,h2g]
   have h4: ∀{R:Type} (K:Int→Int→List V→Option R),Y3 (Q3 s.s[i]) (fun c=>gd (decide (4≤c.length)) (onCells (R:=R) [CT.int,CT.int,CT.slice (some 3)] (List.take 3 (List.drop 1 c)) K))=K s.s[i].t.k s.s[i].t.h (Zl s.s[i].t.args):=fun K=>rfl
   rw[Bool.and_self,Z6,h4]
   rw[←Zd,(zhc s.s[i].t).p,Zb,Zs]
   have hg:(s.s.map (·.t)).getD i T0=s.s[i].t:=by simp[List.getD_eq_getElem?_getD,hi]
   simp only[hg]
   by_cases hk:(split s.s[i].t).2.k=0
   ·simp only[hk,decide_true,Zq,if_true];rfl
   ·simp only[hk,decide_false,Zn,if_false];rfl
end Go.Proofs.SZ
namespace Go.Ama
open Go.AM (T)
structure Mono(s r:PS):Prop where
 suf:r.l<:+s.l
 sig:r.s=s.s
 err:s.e≠0→r=s
theorem Mono.len{s r:PS}(h:Mono s r):r.l.length≤s.l.length:=h.suf.length_le
theorem Mono.refl{s:PS}:Mono s s:=⟨List.suffix_refl _,rfl,fun _=>rfl⟩
theorem Mono.trans{s r q:PS}(h:Mono s r)(g:Mono r q):Mono s q:=
 ⟨g.suf.trans h.suf,g.sig.trans h.sig,fun he=>by
  have:=h.err he
  subst this
  exact g.err he⟩
theorem QD(n:Int)(s:PS):Mono s (s.fail n):=by
 unfold PS.fail
 split
 ·rename_i h;exact⟨List.suffix_refl _,rfl,fun he=>absurd h he⟩
 ·exact .refl
theorem zto{s:PS}{c:Bytes}(h:s.is c=true): ∃r,s.l=(1,c)::r∧s.e=0:=by
 unfold PS.is at h
 cases hl:s.l with
 |nil=>rw[hl]at h;simp at h
 |cons t r=>
  rw[hl]at h
  simp only[Bool.and_eq_true,decide_eq_true_eq]at h
  obtain⟨t1,t2⟩:=t
  simp only at h
  exact⟨r,by rw[h.2.1,h.2.2],h.1⟩
theorem zof{s:PS}(h:s.named=true): ∃x r,s.l=(0,x)::r∧s.e=0:=by
 unfold PS.named at h
 cases hl:s.l with
 |nil=>rw[hl]at h;simp at h
 |cons t r=>
  rw[hl]at h
  simp only[Bool.and_eq_true,decide_eq_true_eq]at h
  obtain⟨t1,t2⟩:=t
  simp only at h
  exact⟨t2,r,by rw[h.2],h.1⟩
theorem zpD(n:Int)(s:PS):(s.fail n).l=s.l:=by unfold PS.fail;split<;>rfl
theorem zqB{n:Int}(hn:n≠0)(s:PS):(s.fail n).e≠0:=by unfold PS.fail;split<;>assumption
theorem zdQ{s:PS}{c:Bytes}(h:s.is c=true): ∃r,s.l=(1,c)::r∧s.e=0∧s.take c=⟨r,s.s,0⟩:=by
 obtain⟨r,hl,he⟩:=zto h
 refine⟨r,hl,he, ?_⟩
 unfold PS.take PS.token
 rw[h,hl,←he]
 rfl
theorem zuq{s:PS}{c:Bytes}(h:s.is c=false):s.take c=s.fail 8:=by
 unfold PS.take PS.token
 rw[h]
 rfl
theorem zdR{s:PS}(h:s.named=true): ∃x r,s.l=(0,x)::r∧s.e=0∧s.name=(x,⟨r,s.s,0⟩):=by
 obtain⟨x,r,hl,he⟩:=zof h
 refine⟨x,r,hl,he, ?_⟩
 unfold PS.name PS.token
 rw[h,hl,←he]
 rfl
theorem zmu{s:PS}(h:s.named=false):s.name=([],s.fail 8):=by
 unfold PS.name PS.token
 rw[h]
 rfl
theorem ZJ(c:Bytes)(s:PS):Mono s (s.take c):=by
 cases h:s.is c with
 |true=>
  obtain⟨r,hl,he,ht⟩:=zdQ h
  rw[ht]
  exact⟨by rw[hl];exact List.suffix_cons _ _,rfl,fun h=>absurd he h⟩
 |false=>rw[zuq h];exact QD 8 s
theorem Yx(s:PS):Mono s s.name.2:=by
 cases h:s.named with
 |true=>
  obtain⟨x,r,hl,he,ht⟩:=zdR h
  rw[ht]
  exact⟨by rw[hl];exact List.suffix_cons _ _,rfl,fun h=>absurd he h⟩
 |false=>rw[zmu h];exact QD 8 s
theorem Jl(x:Bytes)(bs:List Bytes)(s:PS):Mono s (s.head x bs).2:=by
 unfold PS.head
 split
 ·exact .refl
 ·split
  ·exact QD 2 s
  ·exact .refl
theorem zhe(x:Bytes)(bs:List Bytes)(s:PS):(s.head x bs).1.args=[]:=by
 unfold PS.head
 split
 ·rfl
 ·split<;>rfl
theorem zaP(s:PS):Mono s s.alone:=by
 unfold PS.alone
 split
 ·exact QD 8 s
 ·exact .refl
section
variable{term:List Bytes→PS→T×PS}(ht: ∀bs s,Mono s (term bs s).2)
include ht
theorem zf0(bs:List Bytes)(s:PS):Mono s (s.inner term bs).2:=((ZJ [40] s).trans (ht bs _)).trans (ZJ [41] _)
theorem zhf(bs:List Bytes)(s:PS):Mono s (s.atom term bs).2:=by
 unfold PS.atom
 split
 ·exact zf0 ht bs s
 ·dsimp only
  split
  ·exact(Yx s).trans (QD 8 _)
  ·exact(Yx s).trans (Jl _ _ _)
theorem zet(bs:List Bytes): ∀m s,Mono s (PS.args term bs m s).2
 |0,s=> .refl
 |m+1,s=>by
  unfold PS.args
  split
  ·exact(zhf ht bs s).trans (zet bs m _)
  ·exact .refl
theorem zpE(bs:List Bytes)(s:PS):Mono s (s.atoms term bs).2:=by
 unfold PS.atoms
 split
 ·exact(zf0 ht bs s).trans (zaP _)
 ·dsimp only
  split
  ·exact Yx s
  ·split
   ·exact(Yx s).trans (zaP _)
   ·exact((Yx s).trans (Jl _ _ _)).trans (zet ht bs _ _)
theorem zmv{bs:List Bytes}{s:PS}(h:(s.named||s.is [40])=true):(s.atom term bs).2.l.length<s.l.length:=by
 unfold PS.atom
 cases hi:s.is [40]with
 |true=>
  obtain⟨r,hl,he,htk⟩:=zdQ hi
  rw[if_pos rfl]
  unfold PS.inner
  rw[htk]
  have h1:=(ht bs ⟨r,s.s,0⟩).len
  have h2:=(ZJ [41] (term bs ⟨r,s.s,0⟩).2).len
  rw[hl]
  simp only[List.length_cons]at*
  omega
 |false=>
  rw[hi,Bool.or_false]at h
  obtain⟨x,r,hl,he,hn⟩:=zdR h
  rw[if_neg (by simp),hn]
  dsimp only
  rw[hl]
  split
  ·rw[zpD];simp
  ·have:=(Jl x bs ⟨r,s.s,0⟩).len
   simp only[List.length_cons]at*
   omega
end
theorem XM: ∀n bs s,Mono s (PS.term n bs s).2
 |0,bs,s=>QD 4 s
 |n+1,bs,s=>by
  have ih:=XM n
  unfold PS.term
  split
  ·exact(((((ZJ _ s).trans (Yx _)).trans (ZJ _ _)).trans (ih _ _)).trans (ZJ _ _)).trans (ih _ _)
  ·split
   ·exact(((ZJ _ s).trans (Yx _)).trans (ZJ _ _)).trans (ih _ _)
   ·exact zpE ih bs s
theorem zje(s:PS):Mono s s.whole.2:=by
 unfold PS.whole
 dsimp only
 split
 ·exact XM _ _ _
 ·exact(XM _ _ _).trans (QD 4 _)
section
open Go.AM
variable{term:List Bytes→PS→T×PS}(ht: ∀bs s,Mono s (term bs s).2)(hz: ∀bs s,(term bs s).1.size+2*(term bs s).2.l.length≤2*s.l.length+1)
include hz
theorem zjf{bs:List Bytes}{s:PS}(h:s.is [40]=true):(s.inner term bs).1.size+2*(s.inner term bs).2.l.length+1≤2*s.l.length:=by
 obtain⟨r,hl,he,htk⟩:=zdQ h
 unfold PS.inner
 rw[htk]
 have h1:=hz bs ⟨r,s.s,0⟩
 have h2:=(ZJ [41] (term bs ⟨r,s.s,0⟩).2).len
 rw[hl]
 simp only[List.length_cons]at*
 omega
theorem zrM{bs:List Bytes}{s:PS}(h:(s.named||s.is [40])=true):(s.atom term bs).1.size+2*(s.atom term bs).2.l.length+1≤2*s.l.length:=by
 unfold PS.atom
 cases hi:s.is [40]with
 |true=>rw[if_pos rfl];exact zjf hz hi
 |false=>
  rw[hi,Bool.or_false]at h
  obtain⟨x,r,hl,he,hn⟩:=zdR h
  rw[if_neg (by simp),hn]
  dsimp only
  rw[hl]
  split
  ·rw[zpD];simp[T.size,sizes];omega
  ·have h1:=(Jl x bs ⟨r,s.s,0⟩).len
   have h2:=zhe x bs ⟨r,s.s,0⟩
   generalize(PS.head x bs ⟨r,s.s,0⟩)=q at*
   obtain⟨⟨k,h,zs⟩,q2⟩:=q
   simp only[T.args]at h2
   subst h2
   simp only[List.length_cons,T.size,sizes]at*
   omega
theorem zjg(bs:List Bytes): ∀m s,sizes (PS.args term bs m s).1+2*(PS.args term bs m s).2.l.length≤2*s.l.length
 |0,s=>by simp[PS.args,sizes]
 |m+1,s=>by
  unfold PS.args
  split
  ·rename_i h
   have h1:=zrM hz (bs:=bs) h
   have h2:=zjg bs m (s.atom term bs).2
   simp only[sizes]
   omega
  ·simp[sizes]
theorem zpF(bs:List Bytes)(s:PS):(s.atoms term bs).1.size+2*(s.atoms term bs).2.l.length≤2*s.l.length+1:=by
 unfold PS.atoms
 split
 ·rename_i h
  have h1:=zjf hz (bs:=bs) h
  have h2:=(zaP (s.inner term bs).2).len
  dsimp only
  omega
 ·dsimp only
  have h1:=(Yx s).len
  split
  ·simp[T.size,sizes];omega
  ·split
   ·have h2:=(zaP s.name.2).len
    simp[T.size,sizes];omega
   ·have h2:=(Jl s.name.1 bs s.name.2).len
    have h3:=zjg hz bs (PS.head s.name.1 bs s.name.2).2.l.length (PS.head s.name.1 bs s.name.2).2
    simp only[T.size];omega
end
theorem zkS: ∀n bs s,(PS.term n bs s).1.size+2*(PS.term n bs s).2.l.length≤2*s.l.length+1
 |0,bs,s=>by simp only[PS.term,zpD];simp[T.size,T.size,Go.AM.sizes];omega
 |n+1,bs,s=>by
  have ih:=zkS n
  unfold PS.term
  split
  ·rename_i h
   obtain⟨r,hl,he,htk⟩:=zdQ h
   dsimp only
   have h1:=(Yx (s.take [123])).len
   have h2:=(ZJ [58] (s.take [123]).name.2).len
   have h3:=ih bs ((s.take [123]).name.2.take [58])
   have h4:=(ZJ [125] (PS.term n bs ((s.take [123]).name.2.take [58])).2).len
   have h5:=ih ((s.take [123]).name.1::bs) ((PS.term n bs ((s.take [123]).name.2.take [58])).2.take [125])
   have h6:(s.take [123]).l.length+1=s.l.length:=by rw[htk,hl];rfl
   simp only[T.size,Go.AM.sizes]
   omega
  ·split
   ·rename_i h
    obtain⟨r,hl,he,htk⟩:=zdQ h
    dsimp only
    have h1:=(Yx (s.take [91])).len
    have h2:=(ZJ [93] (s.take [91]).name.2).len
    have h5:=ih ((s.take [91]).name.1::bs) ((s.take [91]).name.2.take [93])
    have h6:(s.take [91]).l.length+1=s.l.length:=by rw[htk,hl];rfl
    simp only[T.size,Go.AM.sizes]
    omega
   ·exact zpF ih bs s
theorem zhg{s:PS}:(s.fail 8).e≠0:=zqB (by decide) s
theorem zrN(s:PS):s.decl.l<:+s.l∧s.decl.s.length=s.s.length+1∧(s.l≠ []→s.e=0→s.decl.l.length<s.l.length∨s.decl.e≠0):=by
 unfold PS.decl
 dsimp only
 have m1:=Yx s
 have key: ∀s2:PS,Mono s.name.2 s2→((s2.take [58]).whole.2.take [46]).l<:+s.l∧(((s2.take [58]).whole.2.take [46]).s++[(⟨s.name.1,(s2.take [58]).whole.1⟩:D)]).length=s.s.length+1∧
   (s.l≠ []→s.e=0→((s2.take [58]).whole.2.take [46]).l.length<s.l.length∨((s2.take [58]).whole.2.take [46]).e≠0):=by
  intro s2 h
  have m2:=h.trans (((ZJ [58] s2).trans (zje _)).trans (ZJ [46] _))
  have m3:=m1.trans m2
  refine⟨m3.suf,by simp[m3.sig],fun _ he=> ?_⟩
  cases hn:s.named with
  |true=>
   obtain⟨x,r,hl,_,ht⟩:=zdR hn
   left
   have:=m2.len
   rw[ht]at this
   rw[hl]
   simp only[List.length_cons]at*
   omega
  |false=>
   right
   have h1:s.name.2.e≠0:=by rw[zmu hn];exact zhg
   rw[m2.err h1]
   exact h1
 split
 ·exact key _ (QD 8 _)
 ·exact key _ .refl
end Go.Ama
namespace Go.Proofs.SZ
open Go Go.AM Go.Ama
def ztp(n:Nat):Prop:= ∀(m:AM.Mode) (s:PS) (bs:List Bytes),bs.length+n≤1000→s.l.length≤100000→s.s.length≤1000→
 W.call 67 [.ref 0 0, .vec .plain none (zas bs.reverse), .int (121-(n:Nat))] [Yv m s]=some (.ret (enc (s.term n bs).1),[Yv m (s.term n bs).2])
section
variable{n:Nat}(hn:n≤119)(ht:ztp n)
include hn ht
theorem zjh(m:AM.Mode)(s:PS)(bs:List Bytes)(hb:bs.length+n≤1000)(hl:s.l.length≤100000)(hs:s.s.length≤1000):
  W.call 108 [.ref 0 0, .vec .plain none (zas bs.reverse), .int (120-(n:Nat))] [Yv m s]=some (.ret (enc (s.inner (PS.term n) bs).1),[Yv m (s.inner (PS.term n) bs).2]):=by
 have hm:=ZJ [40] s
 have hw:IntKind.i64.wrap (120-(n:Nat)+1)=121-(n:Nat):=by rw[Z9 ⟨by omega,by omega⟩];omega
 rw[C,zdO,show V.str {data:= #[40]}=V.str (ba [40])from rfl,show V.str {data:= #[41]}=V.str (ba [41])from rfl,
  QC,Zb,Zk,Ya,ZH,hw,ht m (s.take [40]) bs hb (by have:=hm.len;omega) (by rw[hm.sig];exact hs),Zb,Zk,ZB,QC,Zb,Zk,Ya,ZH,←Zd]
 rfl
theorem zqC(x:Bytes):((ba x).toList==ByteArray.toList {data:= #[116,121,112,101]})=decide (x=typ):=zgj x typ
theorem zog{s:PS}{x:Bytes}{bs:List Bytes}:Zo (zvl (s.head x bs).1)=enc (s.head x bs).1:=by
 have h:=zhe x bs s
 generalize(s.head x bs).1=t at*
 obtain⟨k,h',zs⟩:=t
 simp only[T.args]at h
 subst h
 rfl
theorem zrO(m:AM.Mode)(s:PS)(bs:List Bytes)(hb:bs.length+n≤1000)(hl:s.l.length≤100000)(hs:s.s.length≤1000):
  W.call 110 [.ref 0 0, .vec .plain none (zas bs.reverse), .int (120-(n:Nat))] [Yv m s]=some (.ret (enc (s.atom (PS.term n) bs).1),[Yv m (s.atom (PS.term n) bs).2]):=by
 have hm:=Yx s
 unfold PS.atom
 rw[C,ze5,show V.str {data:= #[40]}=V.str (ba [40])from rfl,zbh,Zb,Zk,Zs]
 cases hi:s.is [40]with
 |true=>
  rw[Zq,zjh hn ht m s bs hb hl hs,Zb,Zk,ZB,←Zd]
  rfl
 |false=>
  rw[Zn,zaO,Zb,Zk,XL,zqC hn ht]
  by_cases hx:s.name.1=typ
  ·simp only[hx,decide_true,Zq,Qa]
   rfl
  ·simp only[hx,decide_false,Zn]
   rw[zkR m s.name.2 s.name.1 bs (by omega) (by rw[hm.sig];omega),Zb,Zk,zog hn ht,ZB,←Zd]
   simp only[Bool.false_eq_true,if_false]
   rfl
theorem zrP(m:AM.Mode)(bs:List Bytes)(hb:bs.length+n≤1000)(k h:Int)(v6:V): ∀(q:Nat) (s:PS) (xs:List T),s.l.length≤q→s.l.length+xs.length≤100000→s.s.length≤1000→
  W.loop 87 9 [.loc true (some 3) (.agg [.int k, .int h, .vec .grow (some 3) (Zl xs)]), .int (120-(n:Nat)), .vec .plain none (zas bs.reverse), .ref 0 0, .loc true (some 3) v6] [Yv m s]=
   some (Ex.exit 1,[.loc true (some 3) v6, .loc true (some 3) (.agg [.int k, .int h, .vec .grow (some 3) (Zl (xs++(PS.args (PS.term n) bs q s).1))])],[Yv m (PS.args (PS.term n) bs q s).2]):=by
 intro q
 induction q with
 |zero=>
  intro s xs hq hl hs
  have hnil:s.l=[]:=List.eq_nil_of_length_eq_zero (by omega)
  have h1:s.named=false:=by simp[PS.named,hnil]
  have h2:s.is [40]=false:=by simp[PS.is,hnil]
  rw[L,Jk,zbi,Zb,Zk,Zs,h1,Zn,show V.str {data:= #[40]}=V.str (ba [40])from rfl,zbh,Zb,Zk,Zs,h2,Zn]
  simp[PS.args]
 |succ q ih=>
  intro s xs hq hl hs
  have hr:roomFor Tryz.prog 25 (xs.length+1)=true:=zcz (by omega)
  have go:(s.named||s.is [40])=true→Za (W.call 110 [V.ref 0 0,V.vec .plain none (zas bs.reverse),V.int (120-(n:Nat))] [Yv m s])
    (fun r4=>Zj r4.fst (fun v5=>Zc [CT.int,CT.int,CT.slice (some 3)] v5 fun n6 n7 l8=>gd (true&&roomFor Tryz.prog 25 ((Zl xs).length+[V.agg [V.int n6,V.int n7,V.vec .plain (some 3) l8]].length))
     (W.loop 87 9 [V.loc true (some 3) (V.agg [V.int k,V.int h,V.vec Mode.grow (some 3) (Zl xs++[V.agg [V.int n6,V.int n7,V.vec .plain (some 3) l8]])]),V.int (120-(n:Nat)),V.vec .plain none (zas bs.reverse),V.ref 0 0,V.loc true (some 3) v6] r4.snd)) fun p9=>none)=
    some (Ex.exit 1,[.loc true (some 3) v6, .loc true (some 3) (.agg [.int k, .int h, .vec .grow (some 3) (Zl (xs++(PS.args (PS.term n) bs (q+1) s).1))])],[Yv m (PS.args (PS.term n) bs (q+1) s).2]):=by
   intro hc
   have hm:=zhf (XM n) bs s
   have hlt:=zmv (XM n) (bs:=bs) hc
   rw[zrO hn ht m s bs hb (by omega) hs,Zb,Zk,ZB,←Zd]
   simp only[Zt,List.length_singleton,hr,Bool.and_self,Z6]
   have:=ih (s.atom (PS.term n) bs).2 (xs++[(s.atom (PS.term n) bs).1]) (by omega) (by simp;omega) (by rw[hm.sig];exact hs)
   rw[zbe,show Zl [(s.atom (PS.term n) bs).1]=[enc (s.atom (PS.term n) bs).1]from rfl]at this
   rw[this]
   unfold PS.args
   rw[if_pos hc]
   simp only[List.append_assoc,List.singleton_append]
   cases q<;>rfl
  rw[L,Jk,zbi,Zb,Zk,Zs]
  cases h1:s.named with
  |true=>rw[Zq];exact go (by simp[h1])
  |false=>
   rw[Zn,show V.str {data:= #[40]}=V.str (ba [40])from rfl,zbh,Zb,Zk,Zs]
   cases h2:s.is [40]with
   |true=>rw[Zq];exact go (by simp[h2])
   |false=>
    rw[Zn]
    simp[PS.args,h1,h2]
theorem zpG(m:AM.Mode)(s:PS)(bs:List Bytes)(hb:bs.length+n≤1000)(hl:s.l.length≤100000)(hs:s.s.length≤1000):
  W.call 87 [.ref 0 0, .vec .plain none (zas bs.reverse), .int (120-(n:Nat))] [Yv m s]=some (.ret (enc (s.atoms (PS.term n) bs).1),[Yv m (s.atoms (PS.term n) bs).2]):=by
 have hm:=Yx s
 unfold PS.atoms
 rw[C,zdM,show V.str {data:= #[40]}=V.str (ba [40])from rfl,zbh,Zb,Zk,Zs]
 cases hi:s.is [40]with
 |true=>
  rw[Zq,zjh hn ht m s bs hb hl hs,Zb,Zk,ZB,←Zd,zjd,Zb,Zk,ZB,←Zd]
  rfl
 |false=>
  have hget: ∀{R:Type} (K:Res→Option R) (s:PS),Z4 [Yv m s] 0 K=K (Yv m s):=fun K s=>rfl
  have h3g: ∀{R:Type} (a b c:V) (X:Option R),gd (decide (3≤ [a,b,c].length)&&true) X=X:=fun a b c X=>rfl
  have hc: ∀(s:PS),Zo (AM.partOf [V.vec .plain (some 2) (Zw s.l),V.vec m (some 4) (Zx s.s),V.int s.e] 2 none)= .int s.e:=fun s=>rfl
  rw[Zn,zaO,Zb,Zk,XL,hget,Yv,X0,←Yv,h3g,hc,ZO,zqC hn ht,zq6]
  by_cases he:s.name.2.e=0
  ·by_cases hx:s.name.1=typ
   ·simp only[he,hx,decide_true,Bool.not_true,Zn,Zq,ne_eq,not_true_eq_false,if_true,if_false,Bool.false_eq_true]
    rw[show V.agg [V.int 0,V.int 0,V.vec .plain (some 3) []]=enc T0 from rfl,zjd,Zb,Zk,ZB,←Zd]
    rfl
   ·simp only[he,hx,decide_true,decide_false,Bool.not_true,Zn,ne_eq,not_true_eq_false,if_false,Bool.false_eq_true]
    have hh:=Jl s.name.1 bs s.name.2
    have ha:=zhe s.name.1 bs s.name.2
    rw[zkR m s.name.2 s.name.1 bs (by omega) (by rw[hm.sig];omega),Zb,Zk]
    have hon: ∀{R:Type} (t:T) (K:Int→Int→Option R),Zc (R:=R) [CT.int,CT.int,CT.nil (some 3)] (zvl t) K=K t.k t.h:=fun t K=>rfl
    rw[hon]
    have hlp:=zrP hn ht m bs hb (s.name.2.head s.name.1 bs).1.k (s.name.2.head s.name.1 bs).1.h (V.agg [V.int 0,V.int 0,V.vec Mode.full (some 3) []]) (s.name.2.head s.name.1 bs).2.l.length (s.name.2.head s.name.1 bs).2 [] (Nat.le_refl _)
     (by have h1:=hm.len;have h2:=hh.len;simp only[List.length_nil];omega) (by rw[hh.sig,hm.sig];exact hs)
    rw[show Zl []=([]:List V)from rfl,List.nil_append]at hlp
    rw[hlp,Zb,za1]
    rfl
  ·simp only[he,decide_false,Bool.not_false,Zq,ne_eq,not_false_eq_true,if_true,if_false,Bool.false_eq_true]
   rfl
theorem zji(m:AM.Mode)(s:PS)(x:Bytes)(bs:List Bytes)(hb:bs.length+1+n≤1000)(hl:s.l.length≤100000)(hs:s.s.length≤1000):
  W.call 86 [.ref 0 0, .str (ba x), .vec .plain none (zas bs.reverse), .int (120-(n:Nat))] [Yv m s]=some (.ret (enc (s.term n (x::bs)).1),[Yv m (s.term n (x::bs)).2]):=by
 have hw:IntKind.i64.wrap (120-(n:Nat)+1)=121-(n:Nat):=by rw[Z9 ⟨by omega,by omega⟩];omega
 have hr:roomFor Tryz.prog 9 (bs.length+1)=true:=zod (by omega)
 have h1: ∀z:Int,decide (z=z)=true:=fun z=>by simp
 have h2: ∀z:Int,decide (z≤z)=true:=fun z=>by simp
 have h3: ∀z:Nat,decide ((0:Int)≤(z:Nat))=true:=fun z=>by simp
 have:=ht m s (x::bs) (by simpa using hb) hl hs
 rw[List.reverse_cons,zob,show zas [x]=[V.str (ba x)]from rfl]at this
 rw[C,zdL]
 have h4:List.take bs.length (zas bs.reverse)=zas bs.reverse:=List.take_of_length_le (by simp)
 simp only[h1,h2,h3,h4,decide_true,Option.isSome_some,Int.toNat_natCast,List.drop_zero,zdE,List.length_reverse,List.length_singleton,hr,Bool.and_self,Z6,hw]
 rw[this,Zb,Zk,ZB,←Zd]
 rfl
end
theorem zqD: ∀n:Nat,n≤120→ztp n
 |0,_=>fun m s bs _ _ _=>by
  rw[C,zag]
  rw[show decide ((121:Int)-((0:Nat):Int)>120)=true from rfl,Zq,Qa,Zb]
  rfl
 |n+1,hn=>fun m s bs hb hl hs=>by
  have ih:=zqD n (by omega)
  have hd:((121:Int)-((n+1:Nat):Int))=120-(n:Nat):=by omega
  have hgt:decide ((120:Int)-(n:Nat)>120)=false:=by simp;omega
  have hw:IntKind.i64.wrap (120-(n:Nat)+1)=121-(n:Nat):=by rw[Z9 ⟨by omega,by omega⟩];omega
  unfold PS.term
  rw[hd,C,zag,hgt,Zn,show V.str {data:= #[123]}=V.str (ba [123])from rfl,show V.str {data:= #[58]}=V.str (ba [58])from rfl,show V.str {data:= #[125]}=V.str (ba [125])from rfl,
   show V.str {data:= #[91]}=V.str (ba [91])from rfl,show V.str {data:= #[93]}=V.str (ba [93])from rfl,zbh,Zb,Zk,Zs]
  cases h1:s.is [123]with
  |true=>
   have m1:=(ZJ [123] s).trans (Yx _)
   have m2:=m1.trans (ZJ [58] _)
   have m3:=m2.trans (XM n bs _)
   have m4:=m3.trans (ZJ [125] _)
   rw[Zq,QC,Zb,Zk,Ya,ZH,zaO,Zb,Zk,XL,QC,Zb,Zk,Ya,ZH,hw,
    ih m _ bs (by omega) (by have:=m2.len;omega) (by rw[m2.sig];exact hs),Zb,Zk,ZB,QC,Zb,Zk,Ya,ZH,
    zji (by omega) ih m _ _ bs (by omega) (by have:=m4.len;omega) (by rw[m4.sig];exact hs),Zb,Zk,ZB,←Zd,←Zd]
   rfl
  |false=>
   rw[Zn,zbh,Zb,Zk,Zs]
   cases h2:s.is [91]with
   |true=>
    have m1:=(ZJ [91] s).trans (Yx _)
    have m2:=m1.trans (ZJ [93] _)
    rw[Zq,QC,Zb,Zk,Ya,ZH,zaO,Zb,Zk,XL,QC,Zb,Zk,Ya,ZH,
     zji (by omega) ih m _ _ bs (by omega) (by have:=m2.len;omega) (by rw[m2.sig];exact hs),Zb,Zk,ZB,←Zd]
    rfl
   |false=>
    rw[Zn,zpG (by omega) ih m s bs (by omega) hl hs,Zb,Zk,ZB,←Zd]
    rfl
end Go.Proofs.SZ
namespace Go.Proofs.SZ
open Go Go.AM Go.Ama
theorem zpH(m:AM.Mode)(s:PS)(hl:s.l.length≤100000)(hs:s.s.length≤1000):
  W.call 28 [.ref 0 0] [Yv m s]=some (.ret (enc s.whole.1),[Yv m s.whole.2]):=by
 have hz:=zkS 120 [] s
 have ht:=zqD 120 (Nat.le_refl _) m s [] (by simp) hl hs
 rw[show zas ([]:List Bytes).reverse=[]from rfl,show((121:Int)-((120:Nat):Int))=1 from rfl]at ht
 unfold PS.whole
 rw[C,zdI,ht,Zb,Zk,ZB,←Zd,(Qk _ (by omega)).p,Zb,Zs]
 dsimp only
 cases hmy:may (PS.term 120 [] s).1 with
 |true=>rfl
 |false=>
  rw[Bool.not_false,Zq,Qa,Zb,Zk,Ya,ZH]
  rfl
theorem ztq(x:Bytes)(k:Int)(y:Bytes):(k==0&&(ba y).toList==(ba x).toList)=decide ((k,y)=((0:Int),x)):=by
 rw[zgj,Yf]
 by_cases h1:k=0<;>by_cases h2:y=x<;>simp[h1,h2]
theorem zvT(x:Bytes)(h:0<x.length):(((ba x).data.toList.getD (Int.toNat 0) 0).toNat:Int)=(x[0].toNat:Int):=by
 rw[Int.toNat_zero,zvh h]
theorem zkT(x:Bytes)(hx:x.length≤1048576):Ev 23 [.str (ba x)] (.bool (nameOK x)):=by
 unfold Ev nameOK
 rw[C,zms,Xn]
 by_cases h0:x.length=0
 ·have:((x.length:Int)==0)=true:=by simp[h0]
  rw[this,Zq];simp[h0]
 ·have h0':((x.length:Int)==0)=false:=by simp[h0]
  rw[h0',Zn]
  by_cases h40:x.length≤40
  ·have h40':decide ((x.length:Int)>40)=false:=by simp;omega
   have hp:decide ((0:Int)<(x.length:Int))=true:=by simp;omega
   rw[h40',Zn,hp,Bool.true_and,Z6,zvT x (by omega),Yf]
   have hh:x.head? =some x[0]:=by rw[List.head?_eq_getElem?,List.getElem?_eq_getElem (by omega)]
   by_cases h95:x[0]=95
   ·have:decide ((x[0].toNat:Int)=95)=true:=by rw[h95];rfl
    rw[this,Zq];simp[hh,h95]
   ·have:decide ((x[0].toNat:Int)=95)=false:=by
     simp only[decide_eq_false_iff_not]
     intro h
     apply h95
     apply UInt8.toNat_inj.1
     have:(95:UInt8).toNat=95:=rfl
     omega
    rw[this,Zn,show ByteArray.toList {data:= #[116,121,112,101]}=(ba typ).toList from rfl,zgj]
    by_cases ht:x=typ
    ·simp only[ht,decide_true,Zq];simp
    ·have hr:zft x=match YE x with|some l=>(some l,0)|none=>(none,8):=by unfold zft;rw[if_neg (by omega)]<;>cases YE x<;>rfl
     have hne:decide (x.head? ≠some 95)=true:=by rw[hh];simp[h95]
     have hts:=zhN x hx
     rw[hr]at hts
     simp only[ht,decide_false,Zn,zgZ,h0,h40,hne,ne_eq,not_false_eq_true,decide_true,Bool.true_and,Bool.not_false]
     cases htk:YE x with
     |none=>
      rw[htk]at hts
      rw[hts.p (by simp[Zi,below,Xh]) (by simp[zd4,below,Zi,Qj])]
      simp[zd4,bc]
     |some l=>
      rw[htk]at hts
      rw[hts.p (by simp[Zi,below,Xh]) (by simp[zd4,below,Zi,Qj])]
      simp only[zd4,Option.getD_some,Zb,Ya,YO,Yt,ZO,ZH,beq_self_eq_true,Zq,Xu]
      match l with
      |[]=>simp[bc]
      |[t]=>
       obtain⟨k,y⟩:=t
       rw[zes,zcy,ztq]
       simp[bc]
      |t::u::l=>
       have:(((t::u::l:List Tok).length:Int)==1)=false:=by simp;omega
       rw[this,Zn];simp
  ·have h40':decide ((x.length:Int)>40)=true:=by simp;omega
   rw[h40',Zq];simp[h40]
theorem zkU(m:AM.Mode)(hm:m= .grow∨m= .full)(x:Bytes)(s0 s:PS)(hl:s.l.length≤100000)(hs:s.s.length≤999):
  (Za (W.call 73 [V.ref 0 0,V.str {data:= #[58]}] [Yv m s]) fun r9=>Zj r9.fst (fun v10=>Z2 v10 fun c11=>Zh c11 (Za (W.call 28 [V.ref 0 0] r9.snd) fun r12=>Zj
   r12.fst (fun v13=>Zc [CT.int,CT.int,CT.slice (some 3)] v13 fun n14 n15 l16=>Za (W.call 73 [V.ref 0 0,V.str {data:= #[46]}] r12.snd) fun r17=>
   Zj r17.fst (fun v18=>Z2 v18 fun c19=>Zh c19 (Z4 r17.snd 0 fun x20=>Z1 x20 fun c21=>gd (decide (1<c21.length)&&true&&true) (XS (some 4) (c21.getD
   1 V.undef) (fun l22=>gd (true&&roomFor Tryz.prog 46 (l22.length+[V.agg [V.str (ba x),V.int n14,V.int n15,V.vec .plain (some 3) l16]].length)) (Z4 (List.set
   r17.snd 0 (Res.box (c21.set 1 (V.vec .plain (some 4) l22)))) 0 fun x23=>Z1 x23 fun c24=>gd (decide (2≤c24.length)&&true) (Y6 (List.length [Yv m s0]) (V.tup []) ((List.set
   r17.snd 0 (Res.box (c21.set 1 (V.vec .plain (some 4) l22)))).set 0 (Res.box (setCells c24 1 [V.vec Mode.grow (some 4) (l22++[V.agg [V.str (ba x),V.int n14,V.int n15,V.vec
   .plain (some 3) l16]])])))))) fun l25=>gd (true&&roomFor Tryz.prog 46 (l25.length+[V.agg [V.str (ba x),V.int n14,V.int n15,V.vec .plain (some 3) l16]].length))
   (Z4 (List.set r17.snd 0 (Res.box (c21.set 1 (V.vec .plain (some 4) l25)))) 0 fun x26=>Z1 x26 fun c27=>gd (decide (2≤c27.length)&&true) (Y6 (List.length [Yv m s0]) (V.tup
   []) ((List.set r17.snd 0 (Res.box (c21.set 1 (V.vec .plain (some 4) l25)))).set 0 (Res.box (setCells c27 1 [V.vec Mode.grow (some 4) (l25++[V.agg [V.str (ba x),V.int n14,V.int
   n15,V.vec .plain (some 3) l16]])])))))))) fun p28=>none) fun p29=>none)) fun p30=>none)=
  some (.ret (.tup []),[Yv .grow {(s.take [58]).whole.2.take [46]with s:=((s.take [58]).whole.2.take [46]).s++[⟨x,(s.take [58]).whole.1⟩]}]):=by
 have m1:=ZJ [58] s
 have m2:=m1.trans (zje _)
 have m3:=m2.trans (ZJ [46] _)
 rw[show V.str {data:= #[58]}=V.str (ba [58])from rfl,show V.str {data:= #[46]}=V.str (ba [46])from rfl,QC,Zb,Zk,Ya,ZH,
  zpH m _ (by have:=m1.len;omega) (by rw[m1.sig];omega),Zb,Zk,ZB,QC,Zb,Zk,Ya,ZH]
 have hz:((s.take [58]).whole.2.take [46]).s.length≤999:=by rw[m3.sig];exact hs
 generalize(s.take [58]).whole.2.take [46]=q at*
 generalize(s.take [58]).whole.1=t at*
 have hr:roomFor Tryz.prog 46 (q.s.length+1)=true:=zrK (by omega)
 have hap:Zx q.s++[V.agg [V.str (ba x),V.int t.k,V.int t.h,V.vec .plain (some 3) (Zl t.args)]]=Zx (q.s++[⟨x,t⟩]):=by rw[zmr];rfl
 have hget: ∀{R:Type} (y:Res) (K:Res→Option R),Z4 [y] 0 K=K y:=fun y K=>rfl
 have h1g: ∀{R:Type} (a b c:V) (X:Option R),gd (decide (1<[a,b,c].length)&&true&&true) X=X:=fun a b c X=>rfl
 have h2g: ∀{R:Type} (a b c:V) (X:Option R),gd (decide (2≤ [a,b,c].length)&&true) X=X:=fun a b c X=>rfl
 have hset: ∀(y z:Res),List.set [y] 0 z=[z]:=fun y z=>rfl
 have hcs: ∀a b c d:V,[a,b,c].set 1 d=[a,d,c]:=fun a b c d=>rfl
 have hsc: ∀a b c d:V,setCells [a,b,c] 1 [d]=[a,d,c]:=fun a b c d=>rfl
 have hgD: ∀a b c:V,[a,b,c].getD 1 V.undef=b:=fun a b c=>rfl
 rcases hm with rfl|rfl
 ·simp only[Yv,hget,X0,h1g,hgD,zmc,ZA,List.length_singleton,hr,Bool.and_self,Z6,hset,hcs,h2g,hsc,hap]
  exact Yj rfl
 ·simp only[Yv,hget,X0,h1g,hgD,zmd,ZA,List.length_singleton,hr,Bool.and_self,Z6,hset,hcs,h2g,hsc,hap]
  exact Yj rfl
theorem zpI(m:AM.Mode)(hm:m= .grow∨m= .full)(s:PS)(hl:s.l.length≤100000)(hs:s.s.length≤999)(hn: ∀t∈s.l,t.2.length≤1048576):
  W.call 35 [.ref 0 0] [Yv m s]=some (.ret (.tup []),[Yv .grow s.decl]):=by
 have m1:=Yx s
 have m2:=m1.trans (QD 8 s.name.2)
 have hx:s.name.1.length≤1048576:=by
  cases h:s.named with
  |true=>
   obtain⟨x,r,hl,he,ht⟩:=zdR h
   rw[ht];exact hn (0,x) (by rw[hl];simp)
  |false=>rw[zmu h];simp
 have l1:=m1.len
 have l2:=m2.len
 have t1:=zkU m hm s.name.1 s s.name.2 (by omega) (by rw[m1.sig];exact hs)
 have t2:=zkU m hm s.name.1 s (s.name.2.fail 8) (by omega) (by rw[m2.sig];exact hs)
 unfold PS.decl
 dsimp only
 rw[C,ze1,zaO,Zb,Zk,XL,(zkT s.name.1 hx).p,Zb,Zs]
 cases hk:nameOK s.name.1 with
 |false=>
  rw[Bool.not_false,Zq,Qa,Zb,Zk,Ya,ZH]
  simp only[Bool.not_false,Bool.true_or,if_true]
  exact t2
 |true=>
  have hget: ∀{R:Type} (y:Res) (K:Res→Option R),Z4 [y] 0 K=K y:=fun y K=>rfl
  have h2g: ∀{R:Type} (a b c:V) (X:Option R),gd (decide (2≤ [a,b,c].length)&&true) X=X:=fun a b c X=>rfl
  have hcl:Zo (AM.partOf [V.vec .plain (some 2) (Zw s.name.2.l),V.vec m (some 4) (Zx s.name.2.s),V.int s.name.2.e] 1 none)= .vec .plain (some 4) (Zx s.name.2.s):=by cases m<;>rfl
  rw[Bool.not_true,Zn,hget,Yv,X0,←Yv,h2g,hcl,Yt,zgp (zvk s.name.1) s.name.2.s _ (by rw[m1.sig];omega),Zb,Zk,Zs]
  cases hc:(idx s.name.1 s.name.2.s).isSome with
  |true=>
   rw[Zq,Qa,Zb,Zk,Ya,ZH]
   simp only[Bool.or_true,if_true]
   exact t2
  |false=>
   rw[Zn]
   simp only[Bool.not_true,Bool.or_self,Bool.false_eq_true,if_false]
   exact t1
end Go.Proofs.SZ
namespace Go.Proofs.SZ
open Go Go.AM Go.Ama
theorem ztr{n:Nat}(h:n≤1000000000000):roomFor Tryz.prog 5 n=true:=by
 have:((Tryz.prog.info? 5).map (·.bytes)).getD 0=1:=by kernel_rfl
 unfold roomFor
 rw[this]
 simp only[Bool.and_eq_true,decide_eq_true_eq]
 omega
theorem zrQ{sig:List D}(hs: ∀d∈sig,d.name.length≤100)(t:T):(Jj t sig).1.length≤480000:=by
 unfold Jj
 split
 ·rename_i hm
  unfold may at hm
  simp only[Bool.and_eq_true,decide_eq_true_eq]at hm
  split
  ·have h1:=za4 (sig:=sig) t 0
   have h2:=zgn hs t 0 hm.1 (by omega)
   have h3:=zcI (words sig t 0) 1
   show(text (words sig t 0)).length≤_
   unfold text
   omega
  ·simp
 ·simp
theorem zki{sig:List D}(hsig:sig.length≤1000)(hs: ∀d∈sig,d.name.length≤100)(t:T)(ht:t.size≤1099511627776):
  Ev 11 [enc t, .vec .plain (some 4) (Zx sig)] (.tup [.vec .plain none (XP (Jj t sig).1), .int (Jj t sig).2]):=by
 unfold Ev
 have hmay:=(Qk t ht).p
 rw[Zd]at hmay
 rw[C,Zd,znL,hmay,Zb,Zs]
 unfold Jj
 cases hm:may t with
 |false=>rfl
 |true=>
  have hm':=hm
  unfold may at hm'
  simp only[Bool.and_eq_true,decide_eq_true_eq]at hm'
  obtain⟨m',hG,hw⟩:=zpB hsig t 0 .full [] 0 (.inr rfl) hm'.1 (by omega) (by simp;omega)
  rw[Zd]at hw
  have hw':W.call 25 [V.ref 0 0,V.agg [V.int t.k,V.int t.h,V.vec .plain (some 3) (Zl t.args)],V.int 0] [Res.box [V.vec .plain (some 4) (Zx sig),V.vec Mode.full (some 2) [],V.int 0]]=_:=hw
  simp only[Bool.not_true,Zn,if_true]
  rw[hw',Zb,List.nil_append]
  simp only[Zk,Ya,ZH]
  have e1: ∀{α:Type} (ok:Int) (K:List V→Option α),Z4 [Xb m' sig (words sig t 0) ok] 0 (fun x=>Z1 x K)=K [.vec .plain (some 4) (Zx sig), .vec m' (some 2) (Zw (words sig t 0)), .int ok]:=fun ok K=>rfl
  simp only[e1]
  cases ho:okW sig t 0 with
  |false=>rfl
  |true=>
   have h1:=za4 (sig:=sig) t 0
   have h2:=zgn hs t 0 hm'.1 (by omega)
   have htx:=(zrD (words sig t 0) (by omega)).p (by simp[Zi,below,Qj]) (by simp[below,Xh])
   have e2: ∀{α:Type} (K:List V→Option α),ZU (some 2) (Zo (AM.partOf [.vec .plain (some 4) (Zx sig), .vec m' (some 2) (Zw (words sig t 0)), .int (bif true then(0:Int)else 2)] 1 none)) K=K (Zw (words sig t 0)):=by
    intro α K
    rcases hG with rfl|rfl<;>rfl
   simp only[e2,htx,Zb,Yt]
   have hb:below 0 (V.tup [V.vec .plain none (XP (text (words sig t 0))),V.int 0])=true:=by simp[below,Zi,Xh]
   rw[hb]
   rfl
theorem zvm(a b:Bytes):(ba a==ba b)=decide (a=b):=by
 by_cases h:a=b
 ·subst h;rw[decide_eq_true rfl];show ByteArray.beq _ _=true;simp[ByteArray.beq]
 ·rw[decide_eq_false h]
  cases hb:ba a==ba b with
  |false=>rfl
  |true=>exact absurd (zvg.1 (zl6 hb)) h
theorem zjj(a b:Bytes):zcY (.str (ba a)) (.str (ba b))=decide (a=b):=zvm a b
theorem zoh(a b:Bytes)(v d:V): ∀es:List (V×V),Xm (Qs es (.str (ba a)) v) (.str (ba b)) d=if a=b then v else Xm es (.str (ba b)) d
 |[]=>by
  simp only[Qs,Xm,zjj]
  by_cases h:a=b
  ·simp[h]
  ·have hb:b≠a:=fun e=>h e.symm
   simp[h,hb]
 |(k,u)::r=>by
  simp only[Qs]
  cases hk:zcY (.str (ba a)) k with
  |true=>
   simp only[cond_true,Xm,zjj]
   by_cases h:a=b
   ·simp[h]
   ·have hb:b≠a:=fun e=>h e.symm
    cases k<;>try (cases hk;done)
    rename_i s
    have hs:ba a=s:=zl6 hk
    subst hs
    simp[h,hb,zjj]
  |false=>
   simp only[cond_false,Xm,zoh a b v d r]
   cases hk2:zcY (.str (ba b)) k with
   |true=>
    have h:a≠b:=by rintro rfl;rw[hk]at hk2;cases hk2
    simp[h]
   |false=>simp
def Cnt(es:List (V×V))(l:List D):Prop:= ∀x,Xm es (.str (ba x)) (.int 0)= .int (zcP x l:Nat)
theorem zrR(x:Bytes)(l:List D)(d:D):zcP x (l++[d])=zcP x l+(if d.name=x then 1 else 0):=by
 unfold zcP
 rw[List.filter_append,List.length_append]
 by_cases h:d.name=x<;>simp[h]
theorem zqE(x:Bytes)(l:List D):zcP x l≤l.length:=List.length_filter_le ..
theorem zpJ(l:List D)(hl:l.length≤1000): ∀j k es,k+j=l.length→Cnt es (l.take k)→
  ∃es',Cnt es' l∧W.loop 10 3 [.int (k:Nat), .mp 0, .vec .plain (some 4) (Zx l), .vec .plain (some 4) (Zx l), .int (l.length:Nat)] [.map .str .int es]=
   some (.exit 0,[.vec .plain (some 4) (Zx l), .mp 0],[.map .str .int es']):=by
 intro j
 induction j with
 |zero=>
  intro k es hk hc
  have hkl:k=l.length:=by omega
  subst hkl
  rw[List.take_length]at hc
  have hlt:decide (((l.length:Nat):Int)<l.length)=false:=by simp
  refine⟨es,hc, ?_⟩
  rw[L,zcJ,hlt]
  rfl
 |succ j ih=>
  intro k es hk hc
  have hkl:k<l.length:=by omega
  have hlt:decide (((k:Nat):Int)<l.length)=true:=by simp;omega
  have hlt2:(decide ((0:Int)≤(k:Nat))&&decide (((k:Nat):Int)<((Zx l).length:Int)))=true:=by rw[ZA,hlt];simp
  have hw:IntKind.i64.wrap ((k:Nat)+1:Int)=((k+1:Nat):Int):=zcx (by omega) (by omega)
  have hmn:=zqE (l[k]).name (l.take k)
  rw[List.length_take]at hmn
  have hw2:IntKind.i64.wrap (((zcP (l[k]).name (l.take k):Nat):Int)+1)=((zcP (l[k]).name (l.take k)+1:Nat):Int):=zcx (by omega) (by omega)
  have hc':Cnt (Qs es (.str (ba (l[k]).name)) (.int ((zcP (l[k]).name (l.take k)+1:Nat):Int))) (l.take (k+1)):=by
   intro x
   rw[zoh,List.take_succ_eq_append_getElem hkl,zrR,hc x]
   by_cases h:(l[k]).name=x
   ·subst h;simp
   ·simp[h]
  obtain⟨es',h1,h2⟩:=ih (k+1) _ (by omega) hc'
  refine⟨es',h1, ?_⟩
  rw[←h2,L,zcJ,hlt,Zq,hlt2,Z6,Xi hkl,zb1,hc,ZO,hw,hw2]
theorem zoi(sig:List D)(hl:sig.length≤1000)(hs: ∀d∈sig,d.name.length≤100∧d.t.size≤1099511627776)(es:List (V×V))(hc:Cnt es sig): ∀j k (all:Bytes),k+j=sig.length→all.length≤k*500000→
  W.loop 10 9 [.int (k:Nat), .vec .grow none (XP all), .vec .plain (some 4) (Zx sig), .mp 0, .vec .plain (some 4) (Zx sig), .int (sig.length:Nat)] [.map .str .int es]=
   some (if(YS sig all (sig.drop k)).2=0 then(.exit 2,[.vec .grow none (XP (YS sig all (sig.drop k)).1)],[.map .str .int es])else(.ret,[.vec .plain none (XP (YS sig all (sig.drop k)).1), .int (YS sig all (sig.drop k)).2],[.map .str .int es])):=by
 intro j
 induction j with
 |zero=>
  intro k all hk ha
  have hkl:k=sig.length:=by omega
  subst hkl
  have hlt:decide (((sig.length:Nat):Int)<sig.length)=false:=by simp
  rw[L,zcK,hlt,List.drop_length]
  rfl
 |succ j ih=>
  intro k all hk ha
  have hkl:k<sig.length:=by omega
  have hlt:decide (((k:Nat):Int)<sig.length)=true:=by simp;omega
  have hlt2:(decide ((0:Int)≤(k:Nat))&&decide (((k:Nat):Int)<((Zx sig).length:Int)))=true:=by rw[ZA,hlt];simp
  have hw:IntKind.i64.wrap ((k:Nat)+1:Int)=((k+1:Nat):Int):=zcx (by omega) (by omega)
  have hdr:sig.drop k=sig[k]::sig.drop (k+1):=List.drop_eq_getElem_cons hkl
  obtain⟨hs1,hs2⟩:=hs sig[k] (List.getElem_mem hkl)
  have hN:=(zkT (sig[k]).name (by omega)).p
  have hT:=(zki hl (fun d hd=>(hs d hd).1) (sig[k]).t hs2).p (by rw[Zi,zen];simp[Zi,below,Zz]) (by simp[below,Zi,Xh])
  rw[Zd]at hT
  have hTl:=zrQ (sig:=sig) (fun d hd=>(hs d hd).1) (sig[k]).t
  have hmn:=zqE (sig[k]).name sig
  rw[L,zcK,hlt,Zq,hlt2,Z6,Xi hkl,zb1,hN,Zb,Zs,hdr]
  simp only[YS]
  by_cases hn:nameOK (sig[k]).name=true
  case neg=>
   have hn:nameOK (sig[k]).name=false:=by simpa using hn
   simp only[hn,Bool.not_false,Zq,Bool.false_and,Bool.false_eq_true,if_false]
   rfl
  case pos=>
   simp only[hn,Bool.not_true,Zn,Bool.true_and]
   rw[hc,ZO]
   by_cases hmany:zcP (sig[k]).name sig≤1
   ·have hg:decide (((zcP (sig[k]).name sig:Nat):Int)>1)=false:=decide_eq_false (by omega)
    rw[hg,Zn,hT]
    simp only[hmany,decide_true,if_true,Zb,Ya,YO,Yt,ZO,ZH]
    by_cases h0:(Jj (sig[k]).t sig).2=0
    ·have hbs:(({data:= #[32,58,32]}:ByteArray))=ba [32,58,32]:=rfl
     have hbt:(({data:= #[46,10]}:ByteArray))=ba [46,10]:=rfl
     have hne:((Jj (sig[k]).t sig).2 !=0)=false:=by rw[h0];rfl
     simp only[hne,Zn,zkK,Z6,hbs,hbt,zkJ,zkI,Xn,zgZ,zbg,List.length_append,List.length_cons,List.length_nil]
     rw[ztr (by omega)]
     have g1:decide ((sig[k]).name.length+3≤9223372036854775807)=true:=decide_eq_true (by omega)
     have g2:decide ((sig[k]).name.length+(0+1+1+1)+(Jj (sig[k]).t sig).1.length≤9223372036854775807)=true:=decide_eq_true (by omega)
     have g3:decide ((sig[k]).name.length+(0+1+1+1)+(Jj (sig[k]).t sig).1.length+2≤9223372036854775807)=true:=decide_eq_true (by omega)
     simp only[g1,g2,g3,Z6,Bool.and_self]
     rw[if_pos h0]
     have he:XP all++XP ((sig[k]).name++[32,58,32]++(Jj (sig[k]).t sig).1++[46,10])=XP (all++zmq (sig[k]).name (Jj (sig[k]).t sig).1):=by rw[←zd3];rfl
     rw[he,hw]
     exact ih (k+1) _ (by omega) (by simp only[zmq,List.length_append,List.length_cons,List.length_nil];omega)
    ·have hne:((Jj (sig[k]).t sig).2 !=0)=true:=by simpa using h0
     rw[hne,Zq]
     simp only[h0,if_false]
     rfl
   ·have hg:decide (((zcP (sig[k]).name sig:Nat):Int)>1)=true:=decide_eq_true (by omega)
    rw[hg,Zq]
    simp only[hmany,decide_false]
    rfl
theorem zjk(sig:List D)(hl:sig.length≤1000)(hs: ∀d∈sig,d.name.length≤100∧d.t.size≤1099511627776):
  Ev 10 [.vec .plain (some 4) (Zx sig)] (.tup [.vec .plain none (XP (QG sig).1), .int (QG sig).2]):=by
 unfold Ev
 obtain⟨es,hc,h1⟩:=zpJ sig hl sig.length 0 [] (by omega) (by intro x;simp[Xm,zcP])
 have h2:=zoi sig hl hs es hc sig.length 0 [] (by omega) (by simp)
 have h1':W.loop 10 3 [V.int 0,V.mp 0,V.vec .plain (some 4) (Zx sig),V.vec .plain (some 4) (Zx sig),V.int ((Zx sig).length:Nat)] [Res.map CT.str CT.int []]=some (.exit 0,[.vec .plain (some 4) (Zx sig), .mp 0],[.map .str .int es]):=by rw[ZA];exact h1
 have h2':W.loop 10 9 [V.int 0,V.vec Mode.grow none [],V.vec .plain (some 4) (Zx sig),V.mp 0,V.vec .plain (some 4) (Zx sig),V.int ((Zx sig).length:Nat)] [.map .str .int es]=some (if(YS sig [] sig).2=0 then(.exit 2,[.vec .grow none (XP (YS sig [] sig).1)],[.map .str .int es])else(.ret,[.vec .plain none (XP (YS sig [] sig).1), .int (YS sig [] sig).2],[.map .str .int es])):=by rw[ZA];exact h2
 rw[C,zmi,h1',Zb]
 show Za (W.loop 10 9 [V.int 0,V.vec Mode.grow none [],V.vec .plain (some 4) (Zx sig),V.mp 0,V.vec .plain (some 4) (Zx sig),V.int ((Zx sig).length:Nat)] [.map .str .int es]) _=_
 rw[h2',Zb]
 unfold QG
 by_cases h0:(YS sig [] sig).2=0
 ·rw[if_pos h0,h0]
  have hb:below 0 (V.tup [V.vec .plain none (XP (YS sig [] sig).1),V.int 0])=true:=by simp[below,Zi,Xh]
  show gd (below 0 (V.tup [V.vec .plain none (XP (YS sig [] sig).1),V.int 0])&&Zy 0 []) _=_
  rw[hb]
  rfl
 ·rw[if_neg h0]
  have hb:below 0 (V.tup [V.vec .plain none (XP (YS sig [] sig).1),V.int (YS sig [] sig).2])=true:=by simp[below,Zi,Xh]
  show gd (below 0 (V.tup [V.vec .plain none (XP (YS sig [] sig).1),V.int (YS sig [] sig).2])&&Zy 0 []) _=_
  rw[hb]
  rfl
end Go.Proofs.SZ
namespace Go.Proofs.SZ
open Go Go.AM Go.Ama
set_option maxRecDepth 100000
theorem zur:Ev 5 [] (.bool true):=Ev.of_check (m:=300) (by decide+kernel)
end Go.Proofs.SZ
namespace Go.Proofs.SZ
open Go Go.AM
set_option maxRecDepth 20000
end Go.Proofs.SZ
namespace Go.Ama
open Go Go.AM
def upV(b f ar h:Int):Int:=if f+ar≤h then IntKind.i64.wrap (h+b)else h
def bindsB(k:Int):Bool:=decide (k=1)||decide (k=3)
mutual
def upT(b f ar:Int):T→T
 | .mk k h as_=> .mk k (if k=4 then upV b f ar h else h) (ups b f ar (bindsB k) as_)
def ups(b f ar:Int)(bd:Bool):List T→List T
 |[]=> []
 |a::as_=>upT b f (if bd&&as_.isEmpty then ar+1 else ar) a::ups b f ar bd as_
end
theorem JL(b f ar:Int)(bd:Bool): ∀l,(ups b f ar bd l).length=l.length
 |[]=>rfl
 |a::as_=>by simp only[ups,List.length_cons,JL b f ar bd as_]
theorem zqF(b f ar:Int)(bd:Bool): ∀(l:List T) (i:Nat) (h:i<l.length),(ups b f ar bd l)[i]'(by rw[JL];exact h)=upT b f (if bd&&decide (i+1=l.length)then ar+1 else ar) l[i]
 |a::as_,0,h=>by
  cases as_ with
  |nil=>simp[ups]
  |cons c cs=>simp[ups]
 |a::as_,i+1,h=>by
  simp only[ups,List.getElem_cons_succ]
  rw[zqF b f ar bd as_ i (by simpa using h)]
  simp
mutual
theorem zmw(b f:Int): ∀(t:T) (ar:Int),(upT b f ar t).size=t.size
 | .mk k h as_,ar=>by simp only[upT,T.size];rw[zkV b f as_ ar]
theorem zkV(b f:Int): ∀(l:List T) (ar:Int) {bd:Bool},sizes (ups b f ar bd l)=sizes l
 |[],ar,bd=>rfl
 |a::as_,ar,bd=>by simp only[ups,sizes];rw[zmw b f a,zkV b f as_]
end
theorem zgq: ∀{ts:List T} {t:T},t∈ts→t.depth≤ZG ts
 |a::as_,t,h=>by
  simp only[ZG]
  rcases List.mem_cons.1 h with rfl|h
  ·omega
  ·have:=zgq h;omega
def upP(t:T)(b f:Int):T:=if may t&&(decide (0≤b)&&(decide (b≤1048576)&&(decide (0≤f)&&decide (f≤1048576))))then upT b f 0 t else t
theorem zts(t:T)(b f:Int):(upP t b f).size=t.size:=by
 unfold upP;split
 ·exact zmw b f t 0
 ·rfl
def zjl(l:List T):List T:=l.map (fun t=>upP t 1 0)++[.mk 4 0 []]
def zc1(s:Int):Int:=IntKind.i64.wrap (s+1)
def ofT(l:List T)(s i:Int):T:=if i<l.length then l.getD (l.length-1-i.toNat) (.mk 0 0 [])else .mk 4 (IntKind.i64.wrap (IntKind.i64.wrap (i-l.length)+s)) []
inductive Job where
 |ap (n:Nat) (t:T) (l:List T) (s:Int)
 |ar (n:Nat) (bd:Bool) (ts:List T) (l:List T) (s:Int)
 |sp (n:Nat) (t:T) (as_:List T)
inductive Oj where
 |t (t:T) (n:Nat)
 |l (ts:List T) (n:Nat)
 |e (e:Int)
def belowL'(bd:Bool)(as_:List T)(l:List T):List T:=if bd&&as_.isEmpty then zjl l else l
def belowS'(bd:Bool)(as_:List T)(s:Int):Int:=if bd&&as_.isEmpty then zc1 s else s
inductive Big:Job→Oj→Prop where
 |apLimit {n:Nat} {t:T} {l:List T} {s:Int} (h:40000<n+1) (hn:n≤40001):Big (.ap n t l s) (.e 4)
 |apErr {n:Nat} {t:T} {l:List T} {s:Int} {e:Int} (h:n+1≤40000) (ht:t.size≤1099511627776) (b:Big (.ar (n+1) (bindsB t.k) t.args l s) (.e e)):Big (.ap n t l s) (.e e)
 |apNode {n:Nat} {t:T} {l:List T} {s:Int} {as_:List T} {m:Nat} (h:n+1≤40000) (ht:t.size≤1099511627776) (hk:t.k≠4) (b:Big (.ar (n+1) (bindsB t.k) t.args l s) (.l as_ m)):Big (.ap n t l s) (.t (.mk t.k t.h as_) m)
 |apVar {n:Nat} {t:T} {l:List T} {s:Int} {as_:List T} {m:Nat} {o:Oj} (h:n+1≤40000) (ht:t.size≤1099511627776) (hl:sizes l≤1099511627776) (hk:t.k=4) (h0:0≤t.h) (h1:I64 t.h) (b:Big (.ar (n+1) (bindsB t.k) t.args l s) (.l as_ m)) (c:Big (.sp m (ofT l s t.h) as_) o):Big (.ap n t l s) o
 |arNil {n:Nat} {bd:Bool} {l:List T} {s:Int}:Big (.ar n bd [] l s) (.l [] n)
 |arErr {n:Nat} {bd:Bool} {a:T} {as_ l:List T} {s:Int} {e:Int} (hl:sizes l≤1099511627776) (b:Big (.ap n a (belowL' bd as_ l) (belowS' bd as_ s)) (.e e)):Big (.ar n bd (a::as_) l s) (.e e)
 |arErr2 {n m:Nat} {bd:Bool} {a a':T} {as_ l:List T} {s:Int} {e:Int} (hl:sizes l≤1099511627776) (b:Big (.ap n a (belowL' bd as_ l) (belowS' bd as_ s)) (.t a' m)) (c:Big (.ar m bd as_ l s) (.e e)):Big (.ar n bd (a::as_) l s) (.e e)
 |arCons {n m k:Nat} {bd:Bool} {a a':T} {as_ as' l:List T} {s:Int} (hl:sizes l≤1099511627776) (b:Big (.ap n a (belowL' bd as_ l) (belowS' bd as_ s)) (.t a' m)) (c:Big (.ar m bd as_ l s) (.l as' k)):Big (.ar n bd (a::as_) l s) (.l (a'::as') k)
 |spNil {n:Nat} {t:T}:Big (.sp n t []) (.t t n)
 |spMay {n:Nat} {t a:T} {as_:List T} (hk:t.k=3) (ha:a.size≤1099511627776) (hm:may a=false):Big (.sp n t (a::as_)) (.e 4)
 |spErr {n:Nat} {t a b0:T} {r as_:List T} {e:Int} (hk:t.k=3) (ha:a.size≤1099511627776) (hm:may a=true) (hb:t.args=b0::r) (b:Big (.ap n b0 [a] 0) (.e e)):Big (.sp n t (a::as_)) (.e e)
 |spLam {n m:Nat} {t a b0 u:T} {r as_:List T} {o:Oj} (hk:t.k=3) (ha:a.size≤1099511627776) (hm:may a=true) (hb:t.args=b0::r) (b:Big (.ap n b0 [a] 0) (.t u m)) (c:Big (.sp m u as_) o):Big (.sp n t (a::as_)) o
 |spApp {n:Nat} {t a:T} {as_:List T} (hk:t.k=2∨t.k=4∨t.k=5) (hs:t.args.length+as_.length≤1099511627776):Big (.sp n t (a::as_)) (.t (.mk t.k t.h (t.args++a::as_)) n)
 |spType {n:Nat} {t a:T} {as_:List T} (h3:t.k≠3) (h2:t.k≠2) (h4:t.k≠4) (h5:t.k≠5):Big (.sp n t (a::as_)) (.e 3)
end Go.Ama
namespace Go.Ama
open Go Go.AM
mutual
def okB(B:Int):T→Prop
 | .mk k h ys=>(0≤h∧h≤B)∧(k=3→ys≠ [])∧zcS B ys
def zcS(B:Int):List T→Prop
 |[]=>True
 |a::ys=>okB B a∧zcS B ys
end
theorem zaa(B:Int): ∀l,zcS B l↔ ∀x∈l,okB B x
 |[]=>by simp[zcS]
 |a::l=>by simp[zcS,zaa B l]
mutual
theorem Yg{B B':Int}(h:B≤B'): ∀t,okB B t→okB B' t
 | .mk k hd ys,⟨h1,h2,h3⟩=>⟨⟨h1.1,by omega⟩,h2,zbQ h ys h3⟩
theorem zbQ{B B':Int}(h:B≤B'): ∀l,zcS B l→zcS B' l
 |[],_=>trivial
 |a::l,⟨h1,h2⟩=>⟨Yg h a h1,zbQ h l h2⟩
end
mutual
theorem ztt{B:Int}(hB:B≤9223372036854775000)(f:Int): ∀(t:T) (ar:Int),okB B t→okB (B+1) (upT 1 f ar t)
 | .mk k hd ys,ar,⟨h1,h2,h3⟩=>by
  simp only[upT,okB]
  refine⟨?_, ?_,zqG hB f ys ar h3⟩
  ·split
   ·unfold upV
    split
    ·rw[Z9 ⟨by omega,by omega⟩];omega
    ·omega
   ·omega
  ·intro hk e
   have:=congrArg List.length e
   rw[JL]at this
   exact h2 hk (List.length_eq_zero_iff.1 (by simpa using this))
theorem zqG{B:Int}(hB:B≤9223372036854775000)(f:Int): ∀(l:List T) (ar:Int) {bd:Bool},zcS B l→zcS (B+1) (ups 1 f ar bd l)
 |[],ar,bd,_=>trivial
 |a::l,ar,bd,⟨h1,h2⟩=>by simp only[ups,zcS];exact⟨ztt hB f a _ h1,zqG hB f l ar h2⟩
end
theorem zus{B:Int}(hB:B≤9223372036854775000){t:T}(h:okB B t):okB (B+1) (upP t 1 0):=by
 unfold upP;split
 ·exact ztt hB 0 t 0 h
 ·exact Yg (by omega) t h
def bnd(β:Int)(n:Nat):Int:=β+n*2097152
def Y8(β:Int):Prop:=0≤β∧β≤4611686018427387904
def okL(B:Int)(l:List T):Prop:= ∀x∈l,okB B x∧x.size≤4000
theorem zhh{B:Int}: ∀{l:List T},okL B l→sizes l≤l.length*4000
 |[],_=>by simp[sizes]
 |a::l,h=>by
  have h1:=(h a (by simp)).2
  have h2:=zhh (l:=l) fun x hx=>h x (by simp[hx])
  simp only[sizes,List.length_cons];omega
def Inv(β:Int):Job→Prop
 | .ap n t l s=>n≤40000∧t.size≤160040000∧okB (bnd β n) t∧okL (bnd β n) l∧l.length≤200+n∧0≤s∧s≤1048576+n
 | .ar n _ ts l s=>n≤40000∧sizes ts≤160040000∧zcS (bnd β n) ts∧okL (bnd β n-1) l∧l.length+1≤200+n∧0≤s∧s+1≤1048576+n
 | .sp n t ys=>n≤40000∧t.size≤160040000∧sizes ys≤160040000∧okB (bnd β n) t∧zcS (bnd β n) ys
def zvU(β:Int):Job→Oj→Prop
 | .ap n _ _ _, .t u m=>n<m∧m≤40000∧u.size≤4001*(m-n)∧okB (bnd β m) u
 | .ar n _ ts _ _, .l ys m=>n≤m∧m≤40000∧ys.length=ts.length∧sizes ys≤4001*(m-n)∧zcS (bnd β m) ys
 | .sp n t ys, .t u m=>n≤m∧m≤40000∧u.size≤t.size+sizes ys+4001*(m-n)∧okB (bnd β m) u
 |_, .e _=>True
 |_,_=>False
def zpK:Job→Nat
 | .ap n _ _ _=>2*(40002-n)
 | .ar n _ _ _ _=>2*(40002-n)+1
 | .sp n _ _=>2*(40002-n)+1
theorem Qg{t:T}(h:may t=true):t.size≤4000:=by
 unfold may at h
 simp only[Bool.and_eq_true,decide_eq_true_eq]at h
 exact h.2.1
theorem zbR{β:Int}{n m:Nat}(h:n≤m):bnd β n≤bnd β m:=by unfold bnd;omega
theorem zpL{β:Int}(hβ:Y8 β){n:Nat}(h:n≤40000):bnd β n≤4611686118427387904:=by obtain⟨h1,h2⟩:=hβ;unfold bnd;omega
theorem zvo{β:Int}(hβ:Y8 β){n:Nat}:0≤bnd β n:=by obtain⟨h1,h2⟩:=hβ;unfold bnd;omega
theorem zrS{β:Int}(hβ:Y8 β){n:Nat}{bd:Bool}{ys l:List T}{s:Int}(hn:n≤40000)(hl:okL (bnd β n-1) l)(hlen:l.length+1≤200+n)(h0:0≤s)(hs:s+1≤1048576+n):
  okL (bnd β n) (belowL' bd ys l)∧(belowL' bd ys l).length≤200+n∧0≤belowS' bd ys s∧belowS' bd ys s≤1048576+n:=by
 have hb:=zpL hβ hn
 have hb0:0≤bnd β n:=zvo hβ
 unfold belowL' belowS'
 split
 ·refine⟨fun x hx=> ?_, ?_, ?_, ?_⟩
  ·simp only[zjl,List.mem_append,List.mem_map,List.mem_singleton]at hx
   rcases hx with⟨y,hy,rfl⟩|rfl
   ·obtain⟨h1,h2⟩:=hl y hy
    have:=zus (B:=bnd β n-1) (by omega) h1
    rw[show bnd β n-1+1=bnd β n by omega]at this
    exact⟨this,by rw[zts];exact h2⟩
   ·exact⟨⟨⟨by omega,hb0⟩,by simp,trivial⟩,by simp[T.size,sizes]⟩
  ·simp[zjl];omega
  ·unfold zc1;rw[Z9 ⟨by omega,by omega⟩];omega
  ·unfold zc1;rw[Z9 ⟨by omega,by omega⟩];omega
 ·refine⟨fun x hx=> ?_,by omega,h0,by omega⟩
  obtain⟨h1,h2⟩:=hl x hx
  exact⟨Yg (by omega) x h1,h2⟩
theorem zvV{β:Int}(hβ:Y8 β){n:Nat}(hn:n≤40000){l:List T}{s i:Int}(hl:okL (bnd β n) l)(h0:0≤s)(hs:s≤1048576+n)(hi:0≤i)(hi2:i≤bnd β n):okB (bnd β (n+1)) (ofT l s i)∧(ofT l s i).size≤4000:=by
 have hb:=zpL hβ hn
 unfold ofT
 split
 ·rename_i h
  have hj:l.length-1-i.toNat<l.length:=by omega
  rw[List.getD_eq_getElem?_getD,List.getElem?_eq_getElem hj]
  obtain⟨h1,h2⟩:=hl _ (List.getElem_mem hj)
  exact⟨Yg (zbR (Nat.le_succ n)) _ h1,h2⟩
 ·rename_i h
  rw[Z9 (n:=i-l.length) ⟨by omega,by omega⟩,Z9 ⟨by omega,by omega⟩]
  refine⟨⟨⟨by omega, ?_⟩,by simp,trivial⟩,by simp[T.size,sizes]⟩
  have:bnd β (n+1)=bnd β n+2097152:=by unfold bnd;omega
  omega
theorem total{β:Int}(hβ:Y8 β): ∀(N:Nat) (j:Job),zpK j<N→Inv β j→ ∃o,Big j o∧zvU β j o:=by
 intro N
 induction N with
 |zero=>intro j h;omega
 |succ N ih=>
  intro j hj hI
  cases j with
  |ap n t l s=>
   obtain⟨hn,hsz,hok,hl,hlen,h0,hs⟩:=hI
   by_cases hlim:n+1≤40000
   rotate_left
   ·exact⟨_, .apLimit (by omega) (by omega),trivial⟩
   have hsl:=zhh hl
   cases t with
   |mk k h ys=>
    simp only[T.size]at hsz
    obtain⟨⟨hh0,hh1⟩,hk3,hys⟩:=hok
    have hb1:bnd β (n+1)=bnd β n+2097152:=by unfold bnd;omega
    obtain⟨o,hB,hP⟩:=ih (.ar (n+1) (bindsB k) ys l s) (by simp only[zpK]at hj⊢;omega) ⟨hlim,by omega,zbQ (by omega) ys hys,fun x hx=>⟨Yg (by omega) x (hl x hx).1,(hl x hx).2⟩,by omega,h0,by omega⟩
    cases o with
    |t _ _=>exact hP.elim
    |e e=>exact⟨_, .apErr hlim (by simp only[T.size];omega) hB,trivial⟩
    |l zs m=>
     obtain⟨p1,p2,p3,p4,p5⟩:=hP
     have hbm:bnd β n≤bnd β m:=zbR (by omega)
     by_cases hk:k=4
     ·obtain⟨q1,q2⟩:=zvV hβ (by omega) hl h0 hs hh0 hh1
      have hbm1:bnd β (n+1)≤bnd β m:=zbR p1
      obtain⟨o,hB2,hP2⟩:=ih (.sp m (ofT l s h) zs) (by simp only[zpK]at hj⊢;omega) ⟨p2,by omega,by omega,Yg hbm1 _ q1,p5⟩
      have hbn:=zpL hβ (n:=n) (by omega)
      cases o with
      |l _ _=>exact hP2.elim
      |e e=>exact⟨_, .apVar hlim (by simp only[T.size];omega) (by omega) hk hh0 ⟨by simp only[T.h];omega,by simp only[T.h];omega⟩ hB hB2,trivial⟩
      |t u m2=>
       obtain⟨r1,r2,r3,r4⟩:=hP2
       exact⟨_, .apVar hlim (by simp only[T.size];omega) (by omega) hk hh0 ⟨by simp only[T.h];omega,by simp only[T.h];omega⟩ hB hB2,by omega,r2,by omega,r4⟩
     ·refine⟨_, .apNode hlim (by simp only[T.size];omega) hk hB,by omega,p2, ?_, ?_⟩
      ·simp only[T.size,T.k,T.h];omega
      ·refine⟨⟨hh0,by simp only[T.h];omega⟩,fun e he=> ?_,p5⟩
       subst he
       exact hk3 e (List.length_eq_zero_iff.1 (by simpa using p3.symm))
  |ar n bd ts l s=>
   obtain⟨hn,hsz,hok,hl,hlen,h0,hs⟩:=hI
   have hsl:=zhh hl
   cases ts with
   |nil=>exact⟨_, .arNil,Nat.le_refl _,hn,rfl,by simp[sizes],trivial⟩
   |cons a ts=>
    simp only[sizes]at hsz
    obtain⟨ha,hts⟩:=hok
    obtain⟨g1,g2,g3,g4⟩:=zrS hβ (bd:=bd) (ys:=ts) hn hl hlen h0 hs
    obtain⟨o,hB,hP⟩:=ih (.ap n a (belowL' bd ts l) (belowS' bd ts s)) (by simp only[zpK]at hj⊢;omega) ⟨hn,by omega,ha,g1,g2,g3,g4⟩
    cases o with
    |l _ _=>exact hP.elim
    |e e=>exact⟨_, .arErr (by omega) hB,trivial⟩
    |t u m=>
     obtain⟨p1,p2,p3,p4⟩:=hP
     have hbm:bnd β n≤bnd β m:=zbR (by omega)
     obtain⟨o,hB2,hP2⟩:=ih (.ar m bd ts l s) (by simp only[zpK]at hj⊢;omega) ⟨p2,by omega,zbQ hbm ts hts,fun x hx=>⟨Yg (by omega) x (hl x hx).1,(hl x hx).2⟩,by omega,h0,by omega⟩
     cases o with
     |t _ _=>exact hP2.elim
     |e e=>exact⟨_, .arErr2 (by omega) hB hB2,trivial⟩
     |l zs m2=>
      obtain⟨r1,r2,r3,r4,r5⟩:=hP2
      exact⟨_, .arCons (by omega) hB hB2,by omega,r2,by simp[r3],by simp only[sizes];omega,Yg (zbR r1) u p4,r5⟩
  |sp n t ys=>
   obtain⟨hn,hsz,hys,hok,hoy⟩:=hI
   cases ys with
   |nil=>exact⟨_, .spNil,Nat.le_refl _,hn,by simp[sizes],hok⟩
   |cons a ys=>
    simp only[sizes]at hys
    obtain⟨ha,hoy⟩:=hoy
    cases t with
    |mk k h zs=>
     simp only[T.size]at hsz
     obtain⟨hh,hk3,hzs⟩:=hok
     by_cases hk:k=3
     ·cases hm:may a with
      |false=>exact⟨_, .spMay hk (by omega) hm,trivial⟩
      |true=>
       obtain⟨b0,r,hb⟩: ∃b0 r,zs=b0::r:=by
        cases zs with
        |nil=>exact absurd rfl (hk3 hk)
        |cons b r=>exact⟨b,r,rfl⟩
       subst hb
       simp only[sizes]at hsz
       obtain⟨o,hB,hP⟩:=ih (.ap n b0 [a] 0) (by simp only[zpK]at hj⊢;omega) ⟨hn,by omega,hzs.1,fun x hx=>by simp at hx;subst hx;exact⟨ha,Qg hm⟩,by simp;omega,by omega,by omega⟩
       cases o with
       |l _ _=>exact hP.elim
       |e e=>exact⟨_, .spErr hk (by omega) hm rfl hB,trivial⟩
       |t u m=>
        obtain⟨p1,p2,p3,p4⟩:=hP
        obtain⟨o,hB2,hP2⟩:=ih (.sp m u ys) (by simp only[zpK]at hj⊢;omega) ⟨p2,by omega,by omega,p4,zbQ (zbR (by omega)) ys hoy⟩
        cases o with
        |l _ _=>exact hP2.elim
        |e e=>exact⟨_, .spLam hk (by omega) hm rfl hB hB2,trivial⟩
        |t w m2=>
         obtain⟨r1,r2,r3,r4⟩:=hP2
         exact⟨_, .spLam hk (by omega) hm rfl hB hB2,by omega,r2,by simp only[T.size,sizes];omega,r4⟩
     ·by_cases hk2:k=2∨k=4∨k=5
      ·have hz:=Z0 zs
       have hy:=Z0 ys
       refine⟨_, .spApp hk2 (by simp only[T.args];omega),Nat.le_refl _,hn, ?_, ?_⟩
       ·simp only[T.size,T.k,T.h,T.args,zcv,sizes];omega
       ·refine⟨hh,fun e=>absurd e hk, ?_⟩
        rw[zaa]
        intro x hx
        simp only[T.args,List.mem_append,List.mem_cons]at hx
        rcases hx with hx|rfl|hx
        ·exact(zaa _ _).1 hzs x hx
        ·exact ha
        ·exact(zaa _ _).1 hoy x hx
      ·simp only[not_or]at hk2
       exact⟨_, .spType hk hk2.1 hk2.2.1 hk2.2.2,trivial⟩
end Go.Ama
namespace Go.Ama
open Go Go.AM
section
variable{R:Type}
@[simp] theorem zwC(a b:Int)(l:List V)(K:Int→Int→List V→Option R):Zc (R:=R) [CT.int,CT.int,CT.slice (some 3)] (.agg [.int a, .int b, .vec .plain (some 3) l]) K=K a b l:=rfl
@[simp] theorem zvp(t:T)(K:Int→Int→List V→Option R):Zc (R:=R) [CT.int,CT.int,CT.slice (some 3)] (enc t) K=K t.k t.h (Zl t.args):=by cases t;rfl
@[simp] theorem zwD(a b:Int)(l:List V)(K:Int→Int→List V→Option R):onCells (R:=R) [CT.int,CT.int,CT.slice (some 3)] [.int a, .int b, .vec .plain (some 3) l] K=K a b l:=rfl
@[simp] theorem zw2(t:Tok)(K:Int→ByteArray→Option R):Zc (R:=R) [CT.int,CT.str] (zby t) K=K t.1 (ba t.2):=rfl
@[simp] theorem zwE(s:ByteArray)(a b:Int)(l:List V)(K:ByteArray→Int→Int→List V→Option R):Zc (R:=R) [CT.str,CT.int,CT.int,CT.slice (some 3)] (.agg [.str s, .int a, .int b, .vec .plain (some 3) l]) K=K s a b l:=rfl
@[simp] theorem zvW(d:D)(K:ByteArray→Int→Int→List V→Option R):Zc (R:=R) [CT.str,CT.int,CT.int,CT.slice (some 3)] (Q3 d) K=K (ba d.name) d.t.k d.t.h (Zl d.t.args):=rfl
@[simp] theorem zvX(d:D)(K:Int→Int→List V→Option R):Y3 (Q3 d) (fun c=>gd (decide (4≤c.length)) (onCells (R:=R) [CT.int,CT.int,CT.slice (some 3)] (List.take 3 (List.drop 1 c)) K))=K d.t.k d.t.h (Zl d.t.args):=rfl
@[simp] theorem zwF(d:D)(K:ByteArray→Option R):Y3 (Q3 d) (fun c=>gd (decide (1≤c.length)) (YU (AM.partOf c 0 none) K))=K (ba d.name):=rfl
@[simp] theorem zwq(v:V)(l:List V):ZW (v::l) 0=v:=rfl
@[simp] theorem zwm(b:Bool)(x:Option R):bc b x x=x:=by cases b<;>rfl
@[simp] theorem zkW(k h:Int)(l:List T):(T.mk k h l).args=l:=rfl
@[simp] theorem ztu(k h:Int)(l:List T):(T.mk k h l).k=k:=rfl
@[simp] theorem ztv(k h:Int)(l:List T):(T.mk k h l).h=h:=rfl
@[simp] theorem zwG(t:Tok)(K:Int→Option R):Y3 (zby t) (fun c=>gd (decide (1≤c.length)) (Zp (AM.partOf c 0 none) K))=K t.1:=rfl
@[simp] theorem zwH(t:Tok)(K:ByteArray→Option R):Y3 (zby t) (fun c=>gd (decide (2≤c.length)) (YU (AM.partOf c 1 none) K))=K (ba t.2):=rfl
@[simp] theorem zwr(x:Res)(st:St)(K:Res→Option R):Z4 (x::st) 0 K=K x:=rfl
@[simp] theorem zws(x y:Res)(st:St)(K:Res→Option R):Z4 (x::y::st) 1 K=K y:=rfl
@[simp] theorem zwt(m:AM.Mode)(s:PS)(K:List V→Option R):Z1 (Yv m s) K=K [.vec .plain (some 2) (Zw s.l), .vec m (some 4) (Zx s.s), .int s.e]:=rfl
@[simp] theorem cl0(sh:Sh)(l:List V)(b c:V):Zo (AM.partOf [.vec .plain sh l,b,c] 0 none)= .vec .plain sh l:=rfl
@[simp] theorem cl1(sh:Sh)(m:AM.Mode)(l:List V)(a c:V):Zo (AM.partOf [a, .vec m sh l,c] 1 none)= .vec .plain sh l:=by cases m<;>rfl
@[simp] theorem cl2(a b:V)(n:Int):Zo (AM.partOf [a,b, .int n] 2 none)= .int n:=rfl
@[simp] theorem zvA(a b c d:V):setCells [a,b,c] 0 [d]=[d,b,c]:=rfl
@[simp] theorem zvB(a b c d:V):setCells [a,b,c] 1 [d]=[a,d,c]:=rfl
@[simp] theorem zvC(a b c d:V):setCells [a,b,c] 2 [d]=[a,b,d]:=rfl
@[simp] theorem zvY(t:Tok)(r:List Tok):ZW (Zw (t::r)) 0=zby t:=rfl
@[simp] theorem zut(t:Tok)(r:List Tok):Zw (t::r)=zby t::Zw r:=rfl
@[simp] theorem zrT(r:List Tok):(Zw r).take r.length=Zw r:=by rw[←Xu r,List.take_length]
@[simp] theorem zvq(t:V)(r:List Tok):(t::Zw r).take (r.length+1)=t::Zw r:=by rw[List.take_succ_cons,zrT]
@[simp] theorem zw3(d:D)(K:Int→Int→List V→Option R):Y3 (Q3 d) (fun c=>gd (decide (4≤c.length)) (onCells (R:=R) [CT.int,CT.int,CT.slice (some 3)] (List.take 3 c.tail) K))=K d.t.k d.t.h (Zl d.t.args):=rfl
@[simp] theorem zvZ(x:Bytes):((ba x).toList==[116,121,112,101])=decide (x=typ):=by rw[za3];by_cases h:x=typ<;>simp_all[typ]
@[simp] theorem zwa(x:Bytes):((ba x).toList==ByteArray.toList {data:= #[116,121,112,101]})=decide (x=typ):=zgj x typ
@[simp] theorem zw4:V.str {data:= #[40]}=V.str (ba [40]):=rfl
@[simp] theorem zw5:V.str {data:= #[41]}=V.str (ba [41]):=rfl
@[simp] theorem zw6:V.str {data:= #[46]}=V.str (ba [46]):=rfl
@[simp] theorem zw7:V.str {data:= #[58]}=V.str (ba [58]):=rfl
@[simp] theorem zw8:V.str {data:= #[91]}=V.str (ba [91]):=rfl
@[simp] theorem zw9:V.str {data:= #[93]}=V.str (ba [93]):=rfl
@[simp] theorem zwu:V.str {data:= #[123]}=V.str (ba [123]):=rfl
@[simp] theorem zwv:V.str {data:= #[125]}=V.str (ba [125]):=rfl
@[simp] theorem zwI:V.str {data:= #[]}=V.str (ba []):=rfl
@[simp] theorem zww(t:T)(K:Int→Int→Option R):Zc (R:=R) [CT.int,CT.int,CT.nil (some 3)] (.agg [.int t.k, .int t.h, .vec .full (some 3) []]) K=K t.k t.h:=rfl
@[simp] theorem zwb(n:Nat):(1:Int)≤n+1:=by omega
@[simp] theorem zvD(n:Nat):(0:Int)<n+1:=by omega
@[simp] theorem zvE(n:Nat): ¬((n:Int)+1=0):=by omega
@[simp] theorem zwn(n:Nat):((n:Int)+1).toNat=n+1:=by omega
end
end Go.Ama
namespace Go.Ama
open Go Go.AM
theorem Big.det{j:Job}{o:Oj}(h:Big j o): ∀o',Big j o'→o=o':=by
 induction h with
 |apLimit h hn=>intro o' h';cases h'<;>first|rfl|omega
 |apErr h ht b ih=>
  intro o' h';cases h' with
  |apLimit h2 _=>omega
  |apErr _ _ b2=>cases ih _ b2;rfl
  |apNode _ _ _ b2=>cases ih _ b2
  |apVar _ _ _ _ _ _ b2 _=>cases ih _ b2
 |apNode h ht hk b ih=>
  intro o' h';cases h' with
  |apLimit h2 _=>omega
  |apErr _ _ b2=>cases ih _ b2
  |apNode _ _ _ b2=>cases ih _ b2;rfl
  |apVar _ _ _ hk2 _ _ b2 _=>exact absurd hk2 hk
 |apVar h ht hl hk h0 h1 b c ihb ihc=>
  intro o' h';cases h' with
  |apLimit h2 _=>omega
  |apErr _ _ b2=>cases ihb _ b2
  |apNode _ _ hk2 b2=>exact absurd hk hk2
  |apVar _ _ _ _ _ _ b2 c2=>cases ihb _ b2;exact ihc _ c2
 |arNil=>intro o' h';cases h';rfl
 |arErr hl b ih=>
  intro o' h';cases h' with
  |arErr _ b2=>cases ih _ b2;rfl
  |arErr2 _ b2 _=>cases ih _ b2
  |arCons _ b2 _=>cases ih _ b2
 |arErr2 hl b c ihb ihc=>
  intro o' h';cases h' with
  |arErr _ b2=>cases ihb _ b2
  |arErr2 _ b2 c2=>cases ihb _ b2;cases ihc _ c2;rfl
  |arCons _ b2 c2=>cases ihb _ b2;cases ihc _ c2
 |arCons hl b c ihb ihc=>
  intro o' h';cases h' with
  |arErr _ b2=>cases ihb _ b2
  |arErr2 _ b2 c2=>cases ihb _ b2;cases ihc _ c2
  |arCons _ b2 c2=>cases ihb _ b2;cases ihc _ c2;rfl
 |spNil=>intro o' h';cases h';rfl
 |spMay hk ha hm=>
  intro o' h';cases h' with
  |spMay _ _ _=>rfl
  |spErr _ _ hm2 _ _=>rw[hm]at hm2;cases hm2
  |spLam _ _ hm2 _ _ _=>rw[hm]at hm2;cases hm2
  |spApp hk2 _=>omega
  |spType h3 _ _ _=>exact absurd hk h3
 |spErr hk ha hm hb b ih=>
  intro o' h';cases h' with
  |spMay _ _ hm2=>rw[hm]at hm2;cases hm2
  |spErr _ _ _ hb2 b2=>rw[hb]at hb2;cases hb2;cases ih _ b2;rfl
  |spLam _ _ _ hb2 b2 _=>rw[hb]at hb2;cases hb2;cases ih _ b2
  |spApp hk2 _=>omega
  |spType h3 _ _ _=>exact absurd hk h3
 |spLam hk ha hm hb b c ihb ihc=>
  intro o' h';cases h' with
  |spMay _ _ hm2=>rw[hm]at hm2;cases hm2
  |spErr _ _ _ hb2 b2=>rw[hb]at hb2;cases hb2;cases ihb _ b2
  |spLam _ _ _ hb2 b2 c2=>rw[hb]at hb2;cases hb2;cases ihb _ b2;exact ihc _ c2
  |spApp hk2 _=>omega
  |spType h3 _ _ _=>exact absurd hk h3
 |spApp hk hs=>
  intro o' h';cases h' with
  |spMay h3 _ _=>omega
  |spErr h3 _ _ _ _=>omega
  |spLam h3 _ _ _ _ _=>omega
  |spApp _ _=>rfl
  |spType h3 h2 h4 h5=>omega
 |spType h3 h2 h4 h5=>
  intro o' h';cases h' with
  |spMay h6 _ _=>exact absurd h6 h3
  |spErr h6 _ _ _ _=>exact absurd h6 h3
  |spLam h6 _ _ _ _ _=>exact absurd h6 h3
  |spApp hk _=>omega
  |spType _ _ _ _=>rfl
def zeT(l:List T)(s:Int):Bool:=decide (l.length≤200)&&(decide (0≤s)&&(decide (s≤1048576)&&l.all may))
def zbS(o:Oj):T×Int:=
 match o with
 | .t t _=>if may t then(t,0)else(.mk 0 0 [],4)
 | .e e=>(.mk 0 0 [],e)
 | .l _ _=>(.mk 0 0 [],0)
def zpM:Oj→Prop
 | .t t _=>t.size≤1099511627776
 |_=>True
def zdS(t:T)(l:List T)(s:Int)(o:Oj):T×Int:=if may t&&zeT l s then zbS o else(.mk 0 0 [],1)
open Classical in
noncomputable def zpN(t:T)(l:List T)(s:Int):Oj:=if h: ∃o,Big (.ap 0 t l s) o then Classical.choose h else .e 0
theorem zuu{t:T}{l:List T}{s:Int}{o:Oj}(h:Big (.ap 0 t l s) o):zpN t l s=o:=by
 have hx: ∃o,Big (.ap 0 t l s) o:=⟨o,h⟩
 unfold zpN
 rw[dif_pos hx]
 exact(Classical.choose_spec hx).det _ h
noncomputable def Xa(t:T)(l:List T)(s:Int):T×Int:=zdS t l s (zpN t l s)
theorem zhi{t:T}(h:may t=true):Yu t=true:=by
 unfold may at h
 simp only[Bool.and_eq_true]at h
 exact h.1
theorem zrU{l:List T}{s:Int}(h:zeT l s=true):l.length≤200∧0≤s∧s≤1048576∧ ∀x∈l,may x=true:=by
 unfold zeT at h
 simp only[Bool.and_eq_true,decide_eq_true_eq,List.all_eq_true]at h
 exact⟨h.1,h.2.1,h.2.2.1,h.2.2.2⟩
theorem zqH{β:Int}(hβ:Y8 β){t:T}{l:List T}{s:Int}(ht:okB β t)(hl: ∀x∈l,okB β x)(h1:may t=true)(h2:zeT l s=true):
  Big (.ap 0 t l s) (zpN t l s)∧zvU β (.ap 0 t l s) (zpN t l s)∧zpM (zpN t l s):=by
 obtain⟨k1,k2,k3,k4⟩:=zrU h2
 have hb:bnd β 0=β:=by unfold bnd;omega
 obtain⟨o,hB,hP⟩:=total hβ _ (.ap 0 t l s) (Nat.lt_succ_self _) ⟨Nat.zero_le _,Nat.le_trans (Qg h1) (by decide),by rw[hb];exact ht,fun x hx=>⟨by rw[hb];exact hl x hx,Qg (k4 x hx)⟩,by omega,k2,by omega⟩
 rw[zuu hB]
 refine⟨hB,hP, ?_⟩
 cases o with
 |t u m=>obtain⟨p1,p2,p3,p4⟩:=hP;show u.size≤_;omega
 |_=>trivial
end Go.Ama
namespace Go.Ama
open Go Go.AM
def var(i:Nat):T:= .mk 4 i []
def vars(n:Nat):List T:=(List.range n).reverse.map var
end Go.Ama
namespace Go.Ama
open Go Go.AM
@[simp] theorem zwx(a b:V)(l:List V):ZW (a::b::l) 1=b:=rfl
structure M where
 ctx:List T
 t:T
 param:Bool
def zdT(m:M):V:= .agg [.vec .plain (some 3) (Zl m.ctx), .int m.t.k, .int m.t.h, .vec .plain (some 3) (Zl m.t.args), .bool m.param]
def XR(l:List M):List V:=l.map zdT
@[simp] theorem zgr(l:List M):(XR l).length=l.length:=by simp[XR]
@[simp] theorem zrV:XR []=[]:=rfl
@[simp] theorem zuv(a b:List M):XR (a++b)=XR a++XR b:=by simp[XR]
@[simp] theorem zvr(a:M)(b:List M):XR (a::b)=zdT a::XR b:=rfl
theorem zjm{l:List M}{i:Nat}(h:i<l.length):ZW (XR l) (i:Int)=zdT l[i]:=by
 simp[ZW,XR,List.getD_eq_getElem?_getD,List.getElem?_map,h]
theorem zjn(n:Nat)(m:M):below n (zdT m)=true:=by simp[zdT,below,Zi,QV]
@[simp] theorem zok(n:Nat): ∀l:List M,Zi n (XR l)=true
 |[]=>rfl
 |d::l=>by simp[Zi,zjn,zok n l]
section
variable{R:Type}
@[simp] theorem onM(m:M)(K:List V→Int→Int→List V→Bool→Option R):Zc (R:=R) [CT.slice (some 3),CT.int,CT.int,CT.slice (some 3),CT.bool] (zdT m) K=K (Zl m.ctx) m.t.k m.t.h (Zl m.t.args) m.param:=rfl
@[simp] theorem zwK(l l2:List V)(a b:Int)(c:Bool)(K:List V→Int→Int→List V→Bool→Option R):Zc (R:=R) [CT.slice (some 3),CT.int,CT.int,CT.slice (some 3),CT.bool] (.agg [.vec .plain (some 3) l, .int a, .int b, .vec .plain (some 3) l2, .bool c]) K=K l a b l2 c:=rfl
end
theorem zdU(m:M):zdT m= .agg [.vec .plain (some 3) (Zl m.ctx), .int m.t.k, .int m.t.h, .vec .plain (some 3) (Zl m.t.args), .bool m.param]:=rfl
structure Cs where
 ms:List M
 q:T
 t:T
def ztw(c:Cs):V:= .agg [.vec .plain (some 5) (XR c.ms), .int c.q.k, .int c.q.h, .vec .plain (some 3) (Zl c.q.args), .int c.t.k, .int c.t.h, .vec .plain (some 3) (Zl c.t.args)]
def zeU(l:List Cs):List V:=l.map ztw
@[simp] theorem zuw(l:List Cs):(zeU l).length=l.length:=by simp[zeU]
@[simp] theorem zvF:zeU []=[]:=rfl
@[simp] theorem zux(a b:List Cs):zeU (a++b)=zeU a++zeU b:=by simp[zeU]
@[simp] theorem zvs(a:Cs)(b:List Cs):zeU (a::b)=ztw a::zeU b:=rfl
theorem zjo(n:Nat)(m:Cs):below n (ztw m)=true:=by simp[ztw,below,Zi,QV]
@[simp] theorem zol(n:Nat): ∀l:List Cs,Zi n (zeU l)=true
 |[]=>rfl
 |d::l=>by simp[Zi,zjo,zol n l]
section
variable{R:Type}
@[simp] theorem onC(c:Cs)(K:List V→Int→Int→List V→Int→Int→List V→Option R):Zc (R:=R) [CT.slice (some 5),CT.int,CT.int,CT.slice (some 3),CT.int,CT.int,CT.slice (some 3)] (ztw c) K=K (XR c.ms) c.q.k c.q.h (Zl c.q.args) c.t.k c.t.h (Zl c.t.args):=rfl
@[simp] theorem zvG(sh:Sh)(es:List V)(r:Nat)(K:List V→Nat→Option R):zqs sh (.spr sh es r) K=K es r:=by show(if sh=sh then K es r else none)=_;rw[if_pos rfl]
@[simp] theorem ztM(sh:Sh)(n q:Nat)(K:Sh→Nat→Nat→Option R):zeb (.spare sh n q) K=K sh n q:=rfl
end
def zvt(t:T):Int:=if(split t).2.k=2 then(split t).2.h else-1
def zfj(f:Int)(t:T):Bool:=decide (0≤f)&&decide (zvt t=f)
end Go.Ama
namespace Go.Ama
open Go Go.AM
theorem zgs{t:T}:may t=true↔Yu t=true∧t.size≤4000∧t.depth≤60:=by
 unfold may;simp only[Bool.and_eq_true,decide_eq_true_eq]
theorem zrW{t x:T}(h:x∈t.args):x.depth<t.depth:=by
 cases t with
 |mk k hd ys=>have:=zgq h;simp only[T.args]at this h;have:=zgq h;simp only[T.depth];omega
theorem zc2{t x:T}(h:may t=true)(hx:x∈t.args):may x=true:=by
 obtain⟨h1,h2,h3⟩:=zgs.1 h
 refine zgs.2 ⟨?_,by have:=zeq hx;omega,by have:=zrW hx;omega⟩
 cases t with
 |mk k hd ys=>
  simp only[Yu,Bool.and_eq_true,zfw,List.all_eq_true]at h1
  exact h1.2 x hx
theorem zjp{t:T}(h:may t=true):zae t.k t.h t.args.length=true:=by
 obtain⟨h1,_⟩:=zgs.1 h
 cases t with
 |mk k hd ys=>simp only[Yu,Bool.and_eq_true]at h1;exact h1.1
theorem zjq{t:T}(h:may t=true)(hk:t.k=1):t.args.length=2:=by
 have:=zjp h
 rw[hk]at this
 simp[zae]at this
 exact this.2
mutual
theorem ztx{B:Int}(hB:1099511627776≤B): ∀t:T,Yu t=true→low t=true→okB B t
 | .mk k h ys,h1,h2=>by
  simp only[Yu,Bool.and_eq_true]at h1
  simp only[low,Bool.and_eq_true,decide_eq_true_eq]at h2
  refine⟨⟨?_,by omega⟩, ?_,zqI hB ys h1.2 h2.2⟩
  ·have:=h1.1
   unfold zae at this
   repeat' split at this
   all_goals simp at this;omega
  ·rintro rfl e
   subst e
   have:=h1.1
   simp[zae]at this
theorem zqI{B:Int}(hB:1099511627776≤B): ∀l:List T,Y0 l=true→low.lows l=true→zcS B l
 |[],_,_=>trivial
 |a::l,h1,h2=>by
  simp only[Y0,Bool.and_eq_true]at h1
  simp only[low.lows,Bool.and_eq_true]at h2
  exact⟨ztx hB a h1.1 h2.1,zqI hB l h1.2 h2.2⟩
end
theorem zbT{B:Int}{t x:T}(h:okB B t)(hx:x∈t.args):okB B x:=by
 cases t with
 |mk k hd ys=>exact(zaa B ys).1 h.2.2 x hx
theorem zuy{j:Job}{o:Oj}(h:Big j o): ∀e,o= .e e→e=3∨e=4:=by
 induction h with
 |apLimit=>rintro e ⟨⟩;exact .inr rfl
 |apErr _ _ _ ih=>rintro e ⟨⟩;exact ih _ rfl
 |apNode=>rintro e ⟨⟩
 |apVar _ _ _ _ _ _ _ _ _ ih=>exact ih
 |arNil=>rintro e ⟨⟩
 |arErr _ _ ih=>rintro e ⟨⟩;exact ih _ rfl
 |arErr2 _ _ _ _ ih=>rintro e ⟨⟩;exact ih _ rfl
 |arCons=>rintro e ⟨⟩
 |spNil=>rintro e ⟨⟩
 |spMay=>rintro e ⟨⟩;exact .inr rfl
 |spErr _ _ _ _ _ ih=>rintro e ⟨⟩;exact ih _ rfl
 |spLam _ _ _ _ _ _ _ ih=>exact ih
 |spApp=>rintro e ⟨⟩
 |spType=>rintro e ⟨⟩;exact .inl rfl
theorem zeu{β:Int}(hβ:Y8 β){t:T}{l:List T}{s:Int}(ht:may t=true→okB β t)(hl:zeT l s=true→ ∀x∈l,okB β x)(h:(Xa t l s).2=0):
  may (Xa t l s).1=true∧okB (β+83886080000) (Xa t l s).1∧ ∃m,Big (.ap 0 t l s) (.t (Xa t l s).1 m):=by
 unfold Xa zdS at h⊢
 split at h
 ·rename_i hm
  rw[if_pos hm]
  simp only[Bool.and_eq_true]at hm
  obtain⟨hB,hP,_⟩:=zqH hβ (ht hm.1) (hl hm.2) hm.1 hm.2
  generalize zpN t l s=o at*
  cases o with
  |l _ _=>exact hP.elim
  |e e=>
   rcases zuy hB e rfl with rfl|rfl<;>simp[zbS]at h
  |t u m=>
   obtain⟨p1,p2,p3,p4⟩:=hP
   have hmu:may u=true:=by
    cases hx:may u with
    |true=>rfl
    |false=>simp[zbS,hx]at h
   have e:(zbS (.t u m)).1=u:=by simp[zbS,hmu]
   rw[e]
   exact⟨hmu,Yg (by unfold bnd;omega) u p4,m,hB⟩
 ·simp at h
end Go.Ama
namespace Go.Ama
open Go Go.AM
end Go.Ama
namespace Go.Ama
open Go Go.AM
end Go.Ama
namespace Go.Ama
open Go Go.AM
structure Cal where
 f:Int
 ext:List T
 theta:List T
 arg:T
structure Cl where
 metas:List M
 theta:List T
 p:T
 calls:List Cal
 r:T
structure Fun1 where
 name:Bytes
 schema:List T
 delta:List M
 psi:List T
 a:T
 phi:List T
 b:T
 total:Bool
 clauses:List Cl
def zih(c:Cal):V:= .agg [.int c.f, .vec .plain (some 3) (Zl c.ext), .vec .plain (some 3) (Zl c.theta), .int c.arg.k, .int c.arg.h, .vec .plain (some 3) (Zl c.arg.args)]
def zdV(l:List Cal):List V:=l.map zih
def zqJ(c:Cl):V:= .agg [.vec .plain (some 5) (XR c.metas), .vec .plain (some 3) (Zl c.theta), .int c.p.k, .int c.p.h, .vec .plain (some 3) (Zl c.p.args), .vec .plain (some 6) (zdV c.calls), .int c.r.k, .int c.r.h, .vec .plain (some 3) (Zl c.r.args)]
def zmy(l:List Cl):List V:=l.map zqJ
def zty(f:Fun1):V:= .agg [.str (ba f.name), .vec .plain (some 3) (Zl f.schema), .vec .plain (some 5) (XR f.delta), .vec .plain (some 3) (Zl f.psi), .int f.a.k, .int f.a.h, .vec .plain (some 3) (Zl f.a.args), .vec .plain (some 3) (Zl f.phi), .int f.b.k, .int f.b.h, .vec .plain (some 3) (Zl f.b.args), .bool f.total, .vec .plain (some 9) (zmy f.clauses)]
def zpO(l:List Fun1):List V:=l.map zty
@[simp] theorem zsq(l:List Cal):(zdV l).length=l.length:=by simp[zdV]
@[simp] theorem ztN(l:List Cl):(zmy l).length=l.length:=by simp[zmy]
@[simp] theorem ztO(l:List Fun1):(zpO l).length=l.length:=by simp[zpO]
theorem zbU{α:Type}{e:α→V}{n:Nat}(h: ∀a,below n (e a)=true): ∀l:List α,Zi n (l.map e)=true
 |[]=>rfl
 |a::l=>by simp[Zi,h a,zbU h l]
@[simp] theorem zkj(n:Nat)(c:Cal):below n (zih c)=true:=by simp[zih,below,Zi]
@[simp] theorem ztz(n:Nat)(l:List Cal):Zi n (zdV l)=true:=zbU (zkj n) l
@[simp] theorem zom(n:Nat)(c:Cl):below n (zqJ c)=true:=by simp[zqJ,below,Zi]
@[simp] theorem zuz(n:Nat)(l:List Cl):Zi n (zmy l)=true:=zbU (zom n) l
@[simp] theorem zon(n:Nat)(f:Fun1):below n (zty f)=true:=by simp[zty,below,Zi]
@[simp] theorem zu0(n:Nat)(l:List Fun1):Zi n (zpO l)=true:=zbU (zon n) l
attribute [simp] zjn zjb Zz zjo
theorem zt0{l:List V}{v:V}(h:v∈l):Qo v≤Ys l:=by
 induction l with
 |nil=>cases h
 |cons a l ih=>
  simp only[Ys]
  rcases List.mem_cons.1 h with rfl|h
  ·omega
  ·have:=ih h;omega
theorem zoo: ∀l:List V,l.length≤Ys l
 |[]=>Nat.zero_le _
 |v::l=>by
  have:=zoo l
  have:1≤Qo v:=by cases v<;>simp[Qo]
  simp only[List.length_cons,Ys];omega
theorem zpP(t:T):Qo (enc t)=1+1+(Ys (Zl t.args)+1)+1:=by
 rw[Zd];simp only[Qo,Ys];omega
theorem zvu(d:D):4*d.t.size≤Qo (Q3 d):=by
 have h2:=zn3 d.t
 rw[zpP]at h2
 simp only[Q3,Qo,Ys];omega
theorem zu1{l:List D}{d:D}(h:d∈l):4*d.t.size≤Ys (Zx l):=
 Nat.le_trans (zvu d) (zt0 (List.mem_map_of_mem h))
def zop(l:List D):Bool:=decide (l.length≤30)&&l.all fun d=>zgl 1000 80 d.t
section
variable{R:Type}
@[simp] theorem zwy(c:Cal)(K:Int→List V→List V→Int→Int→List V→Option R):Zc (R:=R) [CT.int,CT.slice (some 3),CT.slice (some 3),CT.int,CT.int,CT.slice (some 3)] (zih c) K=K c.f (Zl c.ext) (Zl c.theta) c.arg.k c.arg.h (Zl c.arg.args):=rfl
@[simp] theorem zwL(c:Cl)(K:List V→List V→Int→Int→List V→List V→Int→Int→List V→Option R):Zc (R:=R) [CT.slice (some 5),CT.slice (some 3),CT.int,CT.int,CT.slice (some 3),CT.slice (some 6),CT.int,CT.int,CT.slice (some 3)] (zqJ c) K=K (XR c.metas) (Zl c.theta) c.p.k c.p.h (Zl c.p.args) (zdV c.calls) c.r.k c.r.h (Zl c.r.args):=rfl
@[simp] theorem zwM(m:M)(K:List V→Option R):Y3 (zdT m) (fun c=>gd (decide (1≤c.length)) (ZU (some 3) (AM.partOf c 0 none) K))=K (Zl m.ctx):=by
 show gd true (ZU (some 3) (.vec .plain (some 3) (Zl m.ctx)) K)=_
 simp
@[simp] theorem zwN(m:M)(K:Int→Int→List V→Option R):Y3 (zdT m) (fun c=>gd (decide (4≤c.length)) (onCells (R:=R) [CT.int,CT.int,CT.slice (some 3)] (List.take 3 (List.drop 1 c)) K))=K m.t.k m.t.h (Zl m.t.args):=rfl
end
end Go.Ama
namespace Go.Proofs.SZ
open Go Go.AM Go.Ama
theorem zpQ(n k:Nat):decide ((n:Int)>(k:Int))= !decide (n≤k):=by
 by_cases h:n≤k<;>simp[h]<;>omega
theorem zrX(l:List D)(hb:Ys (Zx l)≤4398046511104):Ev 6 [.vec .plain (some 4) (Zx l)] (.bool (zop l)):=by
 have hlen:=zoo (Zx l)
 rw[ZA]at hlen
 have hl:=zeo (L:=fun i=>W.loop 6 4 [.int i, .vec .plain (some 4) (Zx l)] []) (xs:=l) (g:=fun d=>zgl 1000 80 d.t) (e0:=(Ex.exit 0,[],[])) (e1:=(Ex.ret,[V.bool false],[]))
  (fun i hi=>by
   have hp:=(zpy l[i].t 1000 80 (by have:=zu1 (List.getElem_mem hi);omega)).p
   have hlt:decide ((i:Int)<l.length)=true:=by simp;omega
   show W.loop _ _ _ _=_
   rw[L,zd9,ZA,Xi hi,Z9 ⟨by omega,by omega⟩]
   simp only[hlt,Int.natCast_nonneg,decide_true,Zq,Bool.and_self,Z6,zvX,←Zd,hp,Zb,Zs]
   cases zgl 1000 80 l[i].t<;>rfl)
  (by
   show W.loop _ _ _ _=_
   rw[L,zd9,ZA]
   simp)
 unfold Ev zop
 have e30:decide ((l.length:Int)>30)= !decide (l.length≤30):=zpQ l.length 30
 have hl':W.loop 6 4 [.int 0, .vec .plain (some 4) (Zx l)] []=_:=hl
 rw[C,znM,ZA,hl',e30]
 cases decide (l.length≤30)<;>cases l.all (fun d=>zgl 1000 80 d.t)<;>rfl
end Go.Proofs.SZ
namespace Go.Proofs.SZ
open Go Go.AM Go.Ama
set_option maxRecDepth 20000
theorem zqK{n:Nat}{cs:List V}(h:WT Tryz.prog n 3 cs): ∃z:Int,cs=[.int z]∧I64 z:=by
 cases n with
 |zero=>exact h.elim
 |succ n=>
  simp only[WT,Tryz.underlying3]at h
  obtain⟨z,h1,h2⟩:=h
  refine⟨z,h1, ?_⟩
  simpa[Lit.wf,IntKind.min,IntKind.max,IntKind.signed,IntKind.bits,I64]using h2
theorem zpR{n:Nat}{cs:List V}(h:WT Tryz.prog n 9 cs): ∃s:Bytes,cs=[.str (ba s)]:=by
 cases n with
 |zero=>exact h.elim
 |succ n=>
  simp only[WT,Tryz.underlying9]at h
  obtain⟨s,h1,h2⟩:=h
  exact⟨s.data.toList,by rw[zuj];exact h1⟩
theorem zt1:Tryz.prog.cellsOf 3=1:=by kernel_rfl
theorem zoq:Tryz.prog.cellsOf 9=1:=by kernel_rfl
theorem zt2{v:V}(h:Shaped none v):AM.cellsOf v=[v]:=by cases v<;>first|rfl|exact h.elim
theorem zwc{f:Nat}{args:List V}(h:Ev f args (.bool true)): ∃m st,(XB Tryz.prog cfg ext m).call f args []=some (.ret (.bool true),st):=by
 obtain⟨m,hm⟩:=zue h
 exact⟨m,[],hm⟩
end Go.Proofs.SZ
namespace Go.Proofs.SZ
open Go Go.AM Go.Ama
set_option maxRecDepth 20000
theorem zvv:shOf Tryz.prog 25=some 3:=by kernel_rfl
theorem zpS:Tryz.prog.cellsOf 23=1:=by kernel_rfl
theorem zkX:Tryz.prog.cellsOf 25=3:=by kernel_rfl
theorem zvw:shOf Tryz.prog 46=some 4:=by kernel_rfl
theorem zu2:shOf Tryz.prog 22=none:=by kernel_rfl
theorem zrY:Tryz.prog.cellsOf 46=4:=by kernel_rfl
theorem zwd{l:List V}(h:l.length=3): ∃x y z,l=[x,y,z]:=by
 match l,h with
 |[x,y,z],_=>exact⟨x,y,z,rfl⟩
theorem zwe{l:List V}(h:l.length=4): ∃x y z w,l=[x,y,z,w]:=by
 match l,h with
 |[x,y,z,w],_=>exact⟨x,y,z,w,rfl⟩
theorem zrZ: ∀n:Nat,(∀cs,WT Tryz.prog n 25 cs→ ∃t,V.agg cs=enc t)∧(∀cs,WT Tryz.prog n 23 cs→ ∃ts,cs=[.vec .plain (some 3) (Zl ts)]):=by
 intro n
 induction n with
 |zero=>exact⟨fun cs h=>h.elim,fun cs h=>h.elim⟩
 |succ n ih=>
  refine⟨fun cs h=> ?_,fun cs h=> ?_⟩
  ·simp only[WT,Tryz.underlying25]at h
   obtain⟨hl,hf⟩:=h
   rw[zkX]at hl
   obtain⟨x,y,z,rfl⟩:=zwd hl
   simp only[List.forall_mem_cons]at hf
   obtain⟨f1,f2,f3,_⟩:=hf
   simp only[zt1,zpS,List.drop_zero,List.drop_succ_cons,List.take_succ_cons,List.take_zero]at f1 f2 f3
   obtain⟨k,hk,_⟩:=zqK f1
   obtain⟨h,hh,_⟩:=zqK f2
   obtain⟨ts,hts⟩:=ih.2 _ f3
   cases hk;cases hh;cases hts
   exact⟨.mk k h ts,rfl⟩
  ·simp only[WT,Tryz.underlying23]at h
   obtain⟨es,rfl,_,he⟩:=h
   rw[zvv]at he⊢
   have: ∀es:List V,(∀v∈es,Shaped (some 3) v∧WT Tryz.prog n 25 (AM.cellsOf v))→ ∃ts,es=Zl ts:=by
    intro es
    induction es with
    |nil=>intro _;exact⟨[],rfl⟩
    |cons v es ihe=>
     intro h
     obtain⟨h1,h2⟩:=h v (by simp)
     obtain⟨ts,hts⟩:=ihe fun u hu=>h u (by simp[hu])
     cases v with
     |agg cs=>
      obtain⟨t,ht⟩:=ih.1 cs h2
      exact⟨t::ts,by rw[Qi,←ht,hts]⟩
     |_=>exact h1.elim
   obtain⟨ts,rfl⟩:=this es he
   exact⟨ts,rfl⟩
theorem zsa: ∀n cs,WT Tryz.prog n 46 cs→ ∃d,V.agg cs=Q3 d:=by
 intro n cs h
 cases n with
 |zero=>exact h.elim
 |succ n=>
  simp only[WT,Tryz.underlying46]at h
  obtain⟨hl,hf⟩:=h
  rw[zrY]at hl
  obtain⟨x,y,z,w,rfl⟩:=zwe hl
  simp only[List.forall_mem_cons]at hf
  obtain⟨f1,f2,_⟩:=hf
  simp only[zoq,zkX,List.drop_zero,List.drop_succ_cons,List.take_succ_cons,List.take_zero]at f1 f2
  obtain⟨s,hs⟩:=zpR f1
  obtain⟨t,ht⟩:=(zrZ n).1 _ f2
  cases hs
  obtain⟨k,h,l⟩:=t
  simp only[enc,V.agg.injEq,List.cons.injEq,and_true]at ht
  obtain⟨rfl,rfl,rfl⟩:=ht
  exact⟨⟨s, .mk k h l⟩,rfl⟩
theorem zsb{v:V}(h:(∃n,WT Tryz.prog n 22 (AM.cellsOf v))∧Shaped (shOf Tryz.prog 22) v): ∃l,v= .vec .plain (some 4) (Zx l):=by
 obtain⟨⟨n,h1⟩,h2⟩:=h
 rw[zu2]at h2
 rw[zt2 h2]at h1
 cases n with
 |zero=>exact h1.elim
 |succ n=>
  simp only[WT,Tryz.underlying22]at h1
  obtain⟨es,he0,_,he⟩:=h1
  rw[zvw]at he he0
  have: ∀es:List V,(∀v∈es,Shaped (some 4) v∧WT Tryz.prog n 46 (AM.cellsOf v))→ ∃l,es=Zx l:=by
   intro es
   induction es with
   |nil=>intro _;exact⟨[],rfl⟩
   |cons v es ihe=>
    intro h
    obtain⟨h1,h2⟩:=h v (by simp)
    obtain⟨l,hl⟩:=ihe fun u hu=>h u (by simp[hu])
    cases v with
    |agg cs=>
     obtain⟨d,hd⟩:=zsa n cs h2
     exact⟨d::l,by rw[hl,hd];rfl⟩
    |_=>exact h1.elim
  obtain⟨l,rfl⟩:=this es he
  simp only[List.cons.injEq,and_true]at he0
  exact⟨l,he0⟩
end Go.Proofs.SZ
namespace Go.Proofs.SZ
open Go Go.AM
set_option maxRecDepth 20000
theorem zkk(O:Oracle)(l0:(List V)):Zf Tryz.prog cfg O 7 [.vec .plain (some 4) l0] []=
 Za (O.loop 7 2 [V.int 0,V.vec .plain (some 4) l0] []) fun r1=>Xj r1.fst none (Ze r1.snd.fst fun v2 c3=>Zm v2 fun b4=>Zh c3 (some (Out.ret
 (V.bool b4),[]))) (fun i5=>bc (i5.beq 0) (Zh r1.snd.fst (some (Out.ret (V.bool true),[]))) none) fun v6=>none:=by kernel_rfl
theorem zbV(O:Oracle)(n0:Int)(l1:(List V)):Z8 Tryz.prog cfg O 7 2 [.int n0, .vec .plain (some 4) l1] []=
 bc (decide (n0<(↑l1.length:Int))) (gd (decide (0≤n0)&&decide (n0<(↑l1.length:Int))) (Y3 (ZW l1 n0) fun c1=>gd (decide (1≤c1.length)) (YU (AM.partOf c1 0
 none) fun s2=>bc (decide ((↑s2.size:Int)>100)) (some (Ex.ret,[V.bool false],[])) (O.2 7 2 [V.int (IntKind.i64.wrap (n0+1)),V.vec .plain (some 4) l1] []))))
 (some (Ex.exit 0,[],[])):=by kernel_rfl
end Go.Proofs.SZ
namespace Go.Proofs.SZ
open Go Go.AM Go.Ama
set_option maxRecDepth 100000
def J1(l:List D):Bool:=l.all fun d=>decide (d.name.length≤100)
theorem zkl(d:D)(l:List D):J1 (d::l)=(decide (d.name.length≤100)&&J1 l):=rfl
theorem zmz(l:List D)(hl:l.length≤1099511627776): ∀j k,k+j=l.length→
  W.loop 7 2 [.int (k:Nat), .vec .plain (some 4) (Zx l)] []=some (bif J1 (l.drop k)then(.exit 0,[],[])else(.ret,[.bool false],[])):=by
 intro j
 induction j with
 |zero=>
  intro k hk
  have hkl:k=l.length:=by omega
  subst hkl
  have hlt:decide (((l.length:Nat):Int)<((Zx l).length:Int))=false:=by simp
  rw[L,zbV,hlt,List.drop_length]
  rfl
 |succ j ih=>
  intro k hk
  have hkl:k<l.length:=by omega
  have hlt:decide (((k:Nat):Int)<((Zx l).length:Int))=true:=by rw[ZA];simp;omega
  have hlt2:(decide ((0:Int)≤(k:Nat))&&true)=true:=by simp
  have hw:IntKind.i64.wrap ((k:Nat)+1:Int)=((k+1:Nat):Int):=zcx (by omega) (by omega)
  have hdr:l.drop k=l[k]::l.drop (k+1):=List.drop_eq_getElem_cons hkl
  have hx:ZW (Zx l) ((k:Nat):Int)=Q3 l[k]:=Xi hkl
  have e3: ∀{α:Type} (K:List V→Option α),Y3 (Q3 l[k]) K=K [.str (ba (l[k]).name), .int (l[k]).t.k, .int (l[k]).t.h, .vec .plain (some 3) (Zl (l[k]).t.args)]:=fun K=>rfl
  have e4: ∀{α:Type} (K:ByteArray→Option α),YU (AM.partOf [.str (ba (l[k]).name), .int (l[k]).t.k, .int (l[k]).t.h, .vec .plain (some 3) (Zl (l[k]).t.args)] 0 none) K=K (ba (l[k]).name):=fun K=>rfl
  rw[L,zbV,hlt,Zq,hlt2,Z6,hx,e3,hdr]
  show gd true (YU _ _)=_
  rw[Z6,e4,Xn,hw]
  rw[zkl]
  by_cases hn:(l[k]).name.length≤100
  ·have hg:decide (((l[k]).name.length:Int)>100)=false:=decide_eq_false (by omega)
   rw[hg,Zn,ih (k+1) (by omega),decide_eq_true hn,Bool.true_and]
  ·have hg:decide (((l[k]).name.length:Int)>100)=true:=decide_eq_true (by omega)
   rw[hg,Zq,decide_eq_false hn]
   rfl
theorem zm0(l:List D)(hl:l.length≤1099511627776):Ev 7 [.vec .plain (some 4) (Zx l)] (.bool (J1 l)):=by
 unfold Ev
 have h:=zmz l hl l.length 0 (by omega)
 have h':W.loop 7 2 [V.int 0, .vec .plain (some 4) (Zx l)] []=some (bif J1 (l.drop 0)then(.exit 0,[],[])else(.ret,[.bool false],[])):=h
 rw[C,zkk,h',List.drop_zero]
 cases hn:J1 l<;>rfl
theorem zpT{sig:List D}(h:zop sig=true):sig.length≤30∧ ∀d∈sig,d.t.size≤1000:=by
 unfold zop at h
 simp only[Bool.and_eq_true,decide_eq_true_eq,List.all_eq_true]at h
 refine⟨h.1,fun d hd=> ?_⟩
 have:=h.2 d hd
 unfold zgl at this
 simp only[Bool.and_eq_true,decide_eq_true_eq]at this
 have:=this.2.1
 omega
theorem zor{sig:List D}(h:J1 sig=true): ∀d∈sig,d.name.length≤100:=fun d hd=>by
 unfold J1 at h
 rw[List.all_eq_true]at h
 exact of_decide_eq_true (h d hd)
theorem zu3{sig:List D}(hl:sig.length≤1000)(hs: ∀d∈sig,d.name.length≤100∧d.t.size≤1099511627776):
  Zr W 10 [.vec .plain (some 4) (Zx sig)]=some (.tup [.vec .plain none (XP (QG sig).1), .int (QG sig).2]):=
 (zjk sig hl hs).p (by simp[Zi,below,Zz]) (by simp[below,Zi,Xh])
theorem zkY: ∀l:List D,l.length≤Ys (Zx l)
 |[]=>by simp
 |d::l=>by
  have:=zkY l
  simp only[Zx,List.map_cons,Ys,List.length_cons]at*
  have:1≤Qo (Q3 d):=by simp only[Q3,Qo];omega
  omega
end Go.Proofs.SZ
namespace Go.Proofs.SZ
open Go Go.AM Go.Ama
set_option maxRecDepth 100000
section
variable(sig:List D)(hl:sig.length≤1000)(f e:Int)(t:T)(hf:f=0→ ∀d∈sig,nameOK d.name=true∧zcP d.name sig≤1)
include hl hf
end
end Go.Proofs.SZ
namespace Go.Proofs.SZ
open Go Go.AM Go.Ama
theorem zjr: ∀{l:List Tok} {t:Tok},t∈l→t.2.length≤Yk l
 |(k,s)::l,t,h=>by
  rcases List.mem_cons.1 h with rfl|h
  ·simp only[Yk];omega
  ·have:=zjr h
   simp only[Yk];omega
theorem zqL(b:Bytes):(zft b).1.getD []=(zc0 b).1∧(zft b).2=(zc0 b).2:=by
 unfold zft zc0
 split
 ·exact⟨rfl,rfl⟩
 ·cases YE b<;>exact⟨rfl,rfl⟩
theorem zpU(b:Bytes):(zc0 b).1.length≤20000∧ ∀t∈(zc0 b).1,t.2.length≤1048576:=by
 unfold zc0
 split
 ·exact⟨by simp,by simp⟩
 ·cases h:YE b with
  |none=>exact⟨by simp,by simp⟩
  |some l=>
   have h1:=zn9 b l h
   have h2:=zbM l (zmf b l h)
   refine⟨by simp only;omega,fun t ht=> ?_⟩
   have ht:t∈l:=ht
   exact Nat.le_trans (zjr ht) (by omega)
theorem zvx(b:Bytes)(h:b.length≤1048576):Zr W 27 [.vec .plain none (XP b)]=some (.tup [.vec .plain (some 2) (Zw (zc0 b).1), .int (zc0 b).2]):=by
 have:=(zhN b h).p (by simp[Zi,below,Xh]) (by simp[zd4,below,Zi,Qj])
 rw[zd4,(zqL b).1,(zqL b).2]at this
 exact this
theorem zpV: ∀(q:Nat) (m:AM.Mode) (s:PS),(m= .grow∨m= .full)→(s.l.length≤q∨s.e≠0)→s.l.length≤100000→s.s.length≤999→(∀t∈s.l,t.2.length≤1048576)→
  ∃m',W.loop 15 3 [.ref 0 0] [Yv m s]=some (Ex.exit 0,[.ref 0 0],[Yv m' (PS.decls q s)]):=by
 have hget: ∀{R:Type} (y:Res) (K:Res→Option R),Z4 [y] 0 K=K y:=fun y K=>rfl
 have h1g: ∀{R:Type} (a b c:V) (X:Option R),gd (decide (1≤ [a,b,c].length)&&true) X=X:=fun a b c X=>rfl
 have h2g: ∀{R:Type} (a b c:V) (X:Option R),gd (decide (2≤ [a,b,c].length)&&true) X=X:=fun a b c X=>rfl
 have h3g: ∀{R:Type} (a b c:V) (X:Option R),gd (decide (3≤ [a,b,c].length)&&true) X=X:=fun a b c X=>rfl
 have c0: ∀(m:AM.Mode) (s:PS),Zo (AM.partOf [V.vec .plain (some 2) (Zw s.l),V.vec m (some 4) (Zx s.s),V.int s.e] 0 none)= .vec .plain (some 2) (Zw s.l):=fun m s=>rfl
 have c1: ∀(m:AM.Mode) (s:PS),Zo (AM.partOf [V.vec .plain (some 2) (Zw s.l),V.vec m (some 4) (Zx s.s),V.int s.e] 1 none)= .vec .plain (some 4) (Zx s.s):=fun m s=>by cases m<;>rfl
 have c2: ∀(m:AM.Mode) (s:PS),Zo (AM.partOf [V.vec .plain (some 2) (Zw s.l),V.vec m (some 4) (Zx s.s),V.int s.e] 2 none)= .int s.e:=fun m s=>rfl
 have stop: ∀(q:Nat) (m:AM.Mode) (s:PS),(s.l=[]∨s.e≠0)→W.loop 15 3 [.ref 0 0] [Yv m s]=some (Ex.exit 0,[.ref 0 0],[Yv m (PS.decls q s)]):=by
  intro q m s h
  have hd:PS.decls q s=s:=by
   cases q with
   |zero=>rfl
   |succ q=>
    unfold PS.decls
    rw[if_neg]
    rcases h with h|h
    ·simp[h]
    ·simp[h]
  rw[hd,L,JK]
  simp only[hget,Yv,X0,h1g,h3g,c0,c2,Yt,ZO]
  by_cases hl:s.l=[]
  ·simp[hl,bc,Zw]
  ·have he:s.e≠0:=by rcases h with h|h;exact absurd h hl;exact h
   have hp:decide ((((Zw s.l).length:Nat):Int)>0)=true:=by
    have:=List.length_pos_iff.2 hl
    simp;exact List.length_pos_iff.2 hl
   rw[hp,Zq,Yf]
   simp[he,bc]
 intro q
 induction q with
 |zero=>
  intro m s hm hq _ _ _
  refine⟨m,stop 0 m s ?_⟩
  rcases hq with h|h
  ·exact .inl (List.eq_nil_of_length_eq_zero (by omega))
  ·exact .inr h
 |succ q ih=>
  intro m s hm hq hl hs ht
  by_cases hc:s.l≠ []∧s.e=0
  ·have hp:decide ((((Zw s.l).length:Nat):Int)>0)=true:=by simp;exact List.length_pos_iff.2 hc.1
   have e0:(s.e==0)=true:=by simp[hc.2]
   unfold PS.decls
   rw[if_pos hc]
   by_cases h40:s.s.length≥40
   ·have h4:decide ((s.s.length:Int)≥40)=true:=by simp;omega
    rw[if_pos h40]
    refine⟨m, ?_⟩
    have hf:=Qa m s 4
    rw[L,JK]
    unfold Yv at hf⊢
    simp only[hget,X0,h1g,h2g,h3g,c0,c1,c2,Yt,ZO,hp,e0,Zq,ZA,h4,hf,Zb,Zk,Ya,ZH]
   ·have h4:decide ((s.s.length:Int)≥40)=false:=by simp;omega
    rw[if_neg h40]
    obtain⟨d1,d2,d3⟩:=zrN s
    have d4:=d1.length_le
    have hd:=zpI m hm s hl hs ht
    obtain⟨m',h⟩:=ih .grow s.decl (.inl rfl) (by
     rcases d3 hc.1 hc.2 with h|h
     ·left
      rcases hq with hq|hq
      ·omega
      ·exact absurd hc.2 hq
     ·exact .inr h) (by omega) (by omega) (fun t h=>ht t (d1.subset h))
    refine⟨m', ?_⟩
    rw[←h,L,JK]
    have hd':=hd
    unfold Yv at hd'
    rw[Yv]
    simp only[hget,X0,h1g,h2g,h3g,c0,c1,c2,Yt,ZO,hp,e0,Zq,ZA,h4,Zn,hd',Zb,Zk,Ya,ZH]
    rfl
  ·have:s.l=[]∨s.e≠0:=by
    by_cases hl:s.l=[]
    ·exact .inl hl
    ·exact .inr fun he=>hc ⟨hl,he⟩
   exact⟨m,stop (q+1) m s this⟩
theorem zpW(b:Bytes)(hb:b.length≤1048576):Ev 15 [.vec .plain none (XP b)] (.tup [.vec .plain (some 4) (Zx (zgm b).1), .int (zgm b).2]):=by
 have hget: ∀{R:Type} (y:Res) (K:Res→Option R),Z4 [y] 0 K=K y:=fun y K=>rfl
 have h2g: ∀{R:Type} (a b c:V) (X:Option R),gd (decide (2≤ [a,b,c].length)&&true) X=X:=fun a b c X=>rfl
 have h3g: ∀{R:Type} (a b c:V) (X:Option R),gd (decide (3≤ [a,b,c].length)&&true) X=X:=fun a b c X=>rfl
 have c1: ∀(m:AM.Mode) (s:PS),Zo (AM.partOf [V.vec .plain (some 2) (Zw s.l),V.vec m (some 4) (Zx s.s),V.int s.e] 1 none)= .vec .plain (some 4) (Zx s.s):=fun m s=>by cases m<;>rfl
 have c2: ∀(m:AM.Mode) (s:PS),Zo (AM.partOf [V.vec .plain (some 2) (Zw s.l),V.vec m (some 4) (Zx s.s),V.int s.e] 2 none)= .int s.e:=fun m s=>rfl
 obtain⟨z1,z2⟩:=zpU b
 obtain⟨m',h⟩:=zpV (zc0 b).1.length .full ⟨(zc0 b).1,[],(zc0 b).2⟩ (.inr rfl) (.inl (Nat.le_refl _)) (by simp only;omega) (by simp) z2
 unfold Ev zgm
 rw[C,zkh,zvx b hb,Zb,Ya,YO,Yt,YO,ZO,ZH]
 have h':W.loop 15 3 [V.ref 0 0] [Res.box [V.vec .plain (some 2) (Zw (zc0 b).1),V.vec Mode.full (some 4) [],V.int (zc0 b).2]]=_:=h
 rw[h',Zb,za1]
 dsimp only
 generalize PS.decls (zc0 b).1.length ⟨(zc0 b).1,[],(zc0 b).2⟩=s
 rw[show Nat.beq 0 0=true from rfl,Zq,YO,zkH,ZH]
 simp only[hget,Yv,X0,h2g,h3g,c1,c2,Yt,ZO,zq6]
 by_cases he:s.e=0
 ·have hbl:below 0 (V.tup [V.vec .plain (some 4) (Zx s.s),V.int 0])=true:=by simp[below,Zi,Zz]
  simp only[he,decide_true,Bool.not_true,Zn,hbl,ne_eq,not_true_eq_false,if_false,Bool.true_and]
  rfl
 ·simp only[he,decide_false,Bool.not_false,Zq,ne_eq,not_false_eq_true,if_true]
  rfl
end Go.Proofs.SZ
namespace Go.Ama
open Go Go.AM
theorem zdW(g:Int→T→Bool)(i:Int): ∀l:List T,XC g i false l=l.all (allW g i)
 |[]=>rfl
 |[t]=>by simp[XC]
 |t::u::l=>by
  have:=zdW g i (u::l)
  simp only[XC,this,List.all_cons]
def Sc(i:Nat)(t:T):Prop:=allW (zuk 0 0) i t=true
section
variable{term:List Bytes→PS→T×PS}{bs:List Bytes}(ht: ∀s,Sc bs.length (term bs s).1)(hb:bs.length≤2000)
include ht hb
end
theorem J2{s r:PS}(h:Mono s r)(hr:r.e=0):s.e=0:=by
 rcases Decidable.em (s.e=0)with he|he
 ·exact he
 ·rw[h.err he]at hr;exact hr
end Go.Ama
namespace Go.Ama
open Go.AM (T)
def PS.more(s:PS)(x:List Tok):PS:={s with l:=s.l++x}
def zvy(f:PS→T×PS):Prop:= ∀s x,(f s).2.e=0→(f s).2.l≠ []→f (s.more x)=((f s).1,(f s).2.more x)
section
variable{term:List Bytes→PS→T×PS}(hm: ∀bs s,Mono s (term bs s).2)(hb: ∀bs,zvy (term bs))
include hm hb
omit hb in
end
end Go.Ama
namespace Go.Ama
open Go.AM (T)
structure Sim(φ:PS→PS)(ψ:List Bytes→List Bytes)(G:PS→Prop):Prop where
 mono: ∀{s r},G s→Mono s r→G r
 cons: ∀x bs,ψ (x::bs)=x::ψ bs
 is: ∀{s} c,G s→(c=[40]∨c=[91]∨c=[123])→(φ s).is c=s.is c
 named: ∀{s},G s→(φ s).named=s.named
 take: ∀{s} c,G s→(s.take c).e=0→(φ s).take c=φ (s.take c)
 name: ∀{s},G s→s.name.2.e=0→(φ s).name=(s.name.1,φ s.name.2)
 head: ∀{s} bs,G s→s.name.2.e=0→(s.name.2.head s.name.1 bs).2.e=0→(φ s.name.2).head s.name.1 (ψ bs)=((s.name.2.head s.name.1 bs).1,φ (s.name.2.head s.name.1 bs).2)
 len: ∀s,s.l.length≤(φ s).l.length
 err: ∀s,(φ s).e=s.e
section
variable{φ:PS→PS}{ψ:List Bytes→List Bytes}{G:PS→Prop}(S:Sim φ ψ G)
include S
theorem Sim.alone{s:PS}(g:G s)(he:s.alone.e=0):(φ s).alone=φ s.alone:=by
 unfold PS.alone at*
 rw[S.named g,S.is [40] g (.inl rfl)]
 split
 ·rename_i h;rw[if_pos h]at he;exact absurd he zhg
 ·rfl
def zt3(φ:PS→PS)(G:PS→Prop)(f f':PS→T×PS):Prop:= ∀s,G s→(f s).2.e=0→f' (φ s)=((f s).1,φ (f s).2)
section
variable{term term':List Bytes→PS→T×PS}(hm: ∀bs s,Mono s (term bs s).2)(hm': ∀bs s,Mono s (term' bs s).2)(hb: ∀bs,zt3 φ G (term bs) (term' (ψ bs)))
include hm hb
theorem Sim.inner(bs:List Bytes):zt3 φ G (PS.inner term bs) (PS.inner term' (ψ bs)):=by
 intro s g he
 unfold PS.inner at*
 dsimp only at*
 have e2:=J2 (ZJ [41] _) he
 have e1:=J2 (hm bs (s.take [40])) e2
 have g1:=S.mono g (ZJ [40] s)
 have g2:=S.mono g1 (hm bs _)
 rw[S.take _ g e1,hb bs _ g1 e2,S.take _ g2 he]
theorem Sim.atom(bs:List Bytes):zt3 φ G (PS.atom term bs) (PS.atom term' (ψ bs)):=by
 intro s g he
 unfold PS.atom at*
 rw[S.is [40] g (.inl rfl)]
 split
 ·rename_i h
  rw[if_pos h]at he
  exact S.inner hm hb bs s g he
 ·rename_i h
  rw[if_neg h]at he
  dsimp only at*
  by_cases ht:s.name.1=typ
  ·rw[if_pos ht]at he
   exact absurd he zhg
  ·rw[if_neg ht]at he⊢
   have e1:=J2 (Jl _ _ _) he
   rw[S.name g e1]
   dsimp only
   rw[if_neg ht,S.head bs g e1 he]
include hm'
theorem Sim.args(bs:List Bytes): ∀m k s,s.l.length≤m→(φ s).l.length≤k→G s→(PS.args term bs m s).2.e=0→PS.args term' (ψ bs) k (φ s)=((PS.args term bs m s).1,φ (PS.args term bs m s).2):=by
 intro m
 induction m with
 |zero=>
  intro k s h h' g he
  have hnil:s.l=[]:=List.eq_nil_of_length_eq_zero (by omega)
  have h1:(φ s).named=false:=by rw[S.named g];simp[PS.named,hnil]
  have h2:(φ s).is [40]=false:=by rw[S.is [40] g (.inl rfl)];simp[PS.is,hnil]
  cases k<;>simp[PS.args,h1,h2]
 |succ m ih=>
  intro k s h h' g he
  by_cases hc:(s.named||s.is [40])=true
  ·have hlt:=zmv hm (bs:=bs) hc
   have hc':((φ s).named||(φ s).is [40])=true:=by rw[S.named g,S.is [40] g (.inl rfl)];exact hc
   have hlt':=zmv hm' (bs:=ψ bs) hc'
   obtain⟨k,rfl⟩: ∃j,k=j+1:=⟨k-1,by omega⟩
   unfold PS.args at he⊢
   rw[if_pos hc]at he
   rw[if_pos hc,if_pos hc']
   dsimp only at*
   have e1:=J2 (zet hm bs m _) he
   have ha:=S.atom hm hb bs s g e1
   rw[ha]at hlt'⊢
   dsimp only at*
   rw[ih k _ (by omega) (by omega) (S.mono g (zhf hm bs s)) he]
  ·have hc': ¬((φ s).named||(φ s).is [40])=true:=by rw[S.named g,S.is [40] g (.inl rfl)];exact hc
   have e1:PS.args term bs (m+1) s=([],s):=by unfold PS.args;rw[if_neg hc]
   have e2:PS.args term' (ψ bs) k (φ s)=([],φ s):=by
    cases k with
    |zero=>rfl
    |succ k=>unfold PS.args;rw[if_neg hc']
   rw[e1,e2]
theorem Sim.atoms(bs:List Bytes):zt3 φ G (PS.atoms term bs) (PS.atoms term' (ψ bs)):=by
 intro s g he
 unfold PS.atoms at*
 rw[S.is [40] g (.inl rfl)]
 split
 ·rename_i h
  rw[if_pos h]at he
  dsimp only at*
  have e1:=J2 (zaP _) he
  rw[S.inner hm hb bs s g e1,S.alone (S.mono g (zf0 hm bs s)) he]
 ·rename_i h
  rw[if_neg h]at he
  dsimp only at*
  by_cases h1:s.name.2.e≠0
  ·rw[if_pos h1]at he
   exact absurd he h1
  ·rw[if_neg h1]at he⊢
   have e1:s.name.2.e=0:=by simpa using h1
   have g1:=S.mono g (Yx s)
   rw[S.name g e1]
   dsimp only
   rw[S.err,if_neg h1]
   split
   ·rename_i h2
    rw[if_pos h2]at he
    rw[S.alone g1 he]
   ·rename_i h2
    rw[if_neg h2]at he
    have e2:=J2 (zet hm bs _ _) he
    rw[S.head bs g e1 e2]
    dsimp only
    rw[S.args hm hm' hb bs _ _ _ (Nat.le_refl _) (Nat.le_refl _) (S.mono g1 (Jl _ _ _)) he]
end
theorem Sim.term: ∀n bs,zt3 φ G (PS.term n bs) (PS.term n (ψ bs))
 |0,bs=>fun s _ he=>absurd he (zqB (by decide) _)
 |n+1,bs=>fun s g he=>by
  have ih:=Sim.term n
  unfold PS.term at*
  rw[S.is [123] g (.inr (.inr rfl)),S.is [91] g (.inr (.inl rfl))]
  split
  ·rename_i h
   rw[if_pos h]at he
   dsimp only at*
   have m1:=ZJ [123] s
   have m2:=Yx (s.take [123])
   have m3:=ZJ [58] (s.take [123]).name.2
   have m4:=XM n bs ((s.take [123]).name.2.take [58])
   have m5:=ZJ [125] (PS.term n bs ((s.take [123]).name.2.take [58])).2
   have m6:=XM n ((s.take [123]).name.1::bs) ((PS.term n bs ((s.take [123]).name.2.take [58])).2.take [125])
   have e5:=J2 m6 he
   have e4:=J2 m5 e5
   have e3:=J2 m4 e4
   have e2:=J2 m3 e3
   have e1:=J2 m2 e2
   have g1:=S.mono g m1
   have g2:=S.mono g1 m2
   have g3:=S.mono g2 m3
   have g4:=S.mono g3 m4
   have g5:=S.mono g4 m5
   rw[S.take _ g e1,S.name g1 e2]
   dsimp only
   rw[S.take _ g2 e3,ih bs _ g3 e4]
   dsimp only
   rw[S.take _ g4 e5,←S.cons,ih _ _ g5 he]
  ·rename_i h
   rw[if_neg h]at he
   split
   ·rename_i h'
    rw[if_pos h']at he
    dsimp only at*
    have m1:=ZJ [91] s
    have m2:=Yx (s.take [91])
    have m3:=ZJ [93] (s.take [91]).name.2
    have m4:=XM n ((s.take [91]).name.1::bs) ((s.take [91]).name.2.take [93])
    have e3:=J2 m4 he
    have e2:=J2 m3 e3
    have e1:=J2 m2 e2
    have g1:=S.mono g m1
    have g2:=S.mono g1 m2
    have g3:=S.mono g2 m3
    rw[S.take _ g e1,S.name g1 e2]
    dsimp only
    rw[S.take _ g2 e3,←S.cons,ih _ _ g3 he]
   ·rename_i h'
    rw[if_neg h']at he
    exact S.atoms (XM n) (XM n) ih bs s g he
end
end Go.Ama
namespace Go.Ama
open Go.AM (T)
def zwz(f g:PS→T×PS):Prop:= ∀s,(g s).2.e=0→f s=g s∨(f s).2.e=4
theorem e4{s r:PS}(h:Mono s r)(h4:s.e=4):r.e=4:=by rw[h.err (by rw[h4];decide)];exact h4
theorem zkZ(f:List Bytes→PS→T×PS)(bs:List Bytes)(m:Nat)(s:PS):PS.args f bs (m+1) s=if s.named||s.is [40]then((s.atom f bs).1::(PS.args f bs m (s.atom f bs).2).1,(PS.args f bs m (s.atom f bs).2).2)else([],s):=rfl
theorem zev(n:Nat)(bs:List Bytes)(s:PS):PS.term (n+1) bs s=if s.is [123]then
   (.mk 1 0 [(PS.term n bs ((s.take [123]).name.2.take [58])).1,(PS.term n ((s.take [123]).name.1::bs) ((PS.term n bs ((s.take [123]).name.2.take [58])).2.take [125])).1],(PS.term n ((s.take [123]).name.1::bs) ((PS.term n bs ((s.take [123]).name.2.take [58])).2.take [125])).2)
  else if s.is [91]then
   (.mk 3 0 [(PS.term n ((s.take [91]).name.1::bs) ((s.take [91]).name.2.take [93])).1],(PS.term n ((s.take [91]).name.1::bs) ((s.take [91]).name.2.take [93])).2)
  else s.atoms (PS.term n) bs:=rfl
section
variable{f g:List Bytes→PS→T×PS}(hf: ∀bs s,Mono s (f bs s).2)(hg: ∀bs s,Mono s (g bs s).2)(hb: ∀bs,zwz (f bs) (g bs))
include hb
include hf hg
end
theorem zsc{b:Bytes}{l:List Tok}(hb:b.length≤20000)(h:YE b=some l):zc0 b=(l,0):=by
 unfold zc0
 rw[if_neg (by omega),h]
theorem zt4(s:PS):s.whole=((PS.term 120 [] s).1,if may (PS.term 120 [] s).1 then(PS.term 120 [] s).2 else(PS.term 120 [] s).2.fail 4):=rfl
end Go.Ama
namespace Go.Ama
open Go Go.AM
def zjs(sig:List D)(h:Int):Int:=(split ((sig.map (·.t)).getD h.toNat T0)).2.k
def kindB(sig:List D)(_:Int)(t:T):Bool:=(decide (t.k≠2)||decide (zjs sig t.h=0))&&(decide (t.k≠5)||decide (zjs sig t.h≠0))
structure Good(sig:List D):Prop where
 name: ∀d∈sig,nameOK d.name=true
 nodup:(sig.map (·.name)).Nodup
def zhX:Nat→List Bytes
 |0=> []
 |d+1=>(95::Lib.decDigits d)::zhX d
def stop:List Tok→Bool
 |[]=>true
 |t::_=>decide (t.1=1)&&decide (t.2≠ [40])
theorem zm1{n:Nat}(h:n<100):Lib.decDigits n=if n<10 then[UInt8.ofNat (48+n)]else[UInt8.ofNat (48+n/10),UInt8.ofNat (48+n % 10)]:=by
 rw[Lib.decDigits]
 split
 ·rfl
 ·rw[Lib.decDigits,dif_pos (by omega)]
  rfl
theorem zm2: ∀a b:Fin 100,(if a.val<10 then[UInt8.ofNat (48+a.val)]else[UInt8.ofNat (48+a.val/10),UInt8.ofNat (48+a.val % 10)])=(if b.val<10 then[UInt8.ofNat (48+b.val)]else[UInt8.ofNat (48+b.val/10),UInt8.ofNat (48+b.val % 10)])→a=b:=by decide+kernel
theorem zt5{a b:Nat}(ha:a<100)(hb:b<100)(h:Lib.decDigits a=Lib.decDigits b):a=b:=by
 rw[zm1 ha,zm1 hb]at h
 have:=zm2 ⟨a,ha⟩ ⟨b,hb⟩ h
 exact congrArg Fin.val this
theorem zla: ∀{d i:Nat},i<d→d≤100→zkg (95::Lib.decDigits i) (zhX d)=some (d-1-i)
 |d+1,i,hi,hd=>by
  simp only[zhX,zkg]
  by_cases h:i=d
  ·subst h
   rw[if_pos rfl];congr 1;omega
  ·rw[if_neg fun e=>h (zt5 (by omega) (by omega) (List.cons.inj e).2).symm,zla (by omega) (by omega)]
   simp;omega
theorem zlb{x:Bytes}(h:x.head? ≠some 95): ∀d,zkg x (zhX d)=none
 |0=>rfl
 |d+1=>by
  simp only[zhX,zkg]
  rw[if_neg fun e=>h (by rw[←e];rfl),zlb h d]
  rfl
theorem zt6: ∀{sig:List D} {i:Nat} (hi:i<sig.length),(sig.map (·.name)).Nodup→idx (sig[i]).name sig=some i
 |d::l,0,_,_=>by simp[idx]
 |d::l,i+1,hi,h=>by
  simp only[List.getElem_cons_succ,idx]
  have hi':i<l.length:=by simpa using hi
  rw[List.map_cons,List.nodup_cons]at h
  rw[if_neg fun e=>h.1 (by rw[e];exact List.mem_map.2 ⟨_,List.getElem_mem hi',rfl⟩),zt6 hi' h.2]
  rfl
section
variable{sig:List D}(G:Good sig)
include G
theorem zlc{k h:Int}{d:Nat}{tk:Tok}(hh:0≤h)(hd:d≤100)(hT:YP sig k h d=some tk)(hk:kindB sig 0 (.mk k h [])=true)(l:List Tok):
  tk.1=0∧tk.2≠typ∧PS.head tk.2 (zhX d) ⟨l,sig,0⟩=(.mk k h [],⟨l,sig,0⟩):=by
 unfold YP at hT
 by_cases h4:k=4∧h<d
 ·rw[if_pos h4]at hT
  cases hT
  obtain⟨rfl,hlt⟩:=h4
  refine⟨rfl,by simp[Y1,typ], ?_⟩
  have:(Y1 (d-1-h)).2=95::Lib.decDigits (d-1-h.toNat):=by
   simp only[Y1]
   congr 2
   omega
  unfold PS.head
  rw[this,zla (by omega) hd]
  simp only[Prod.mk.injEq,and_true]
  congr 1
  omega
 ·rw[if_neg h4]at hT
  by_cases h2:(k=2∨k=5)∧h<sig.length
  ·rw[if_pos h2,List.getElem?_eq_getElem (by omega)]at hT
   cases hT
   have hi:h.toNat<sig.length:=by omega
   have hn:=G.name _ (List.getElem_mem hi)
   unfold nameOK at hn
   simp only[Bool.and_eq_true,decide_eq_true_eq]at hn
   refine⟨rfl,hn.1.2, ?_⟩
   unfold PS.head
   simp only[zlb hn.1.1.2 d,zt6 hi G.nodup]
   unfold kindB zjs at hk
   simp only[Bool.and_eq_true,Bool.or_eq_true,T.k,T.h]at hk
   have hki:(if(split ((sig.map (·.t)).getD h.toNat T0)).2.k=0 then(2:Int)else 5)=k:=by
    rcases h2.1 with rfl|rfl
    ·rcases hk.1 with e|e
     ·exact absurd rfl (of_decide_eq_true e)
     ·exact if_pos (of_decide_eq_true e)
    ·rcases hk.2 with e|e
     ·exact absurd rfl (of_decide_eq_true e)
     ·exact if_neg (of_decide_eq_true e)
   rw[hki]
   simp only[Prod.mk.injEq,and_true]
   congr 1
   omega
  ·rw[if_neg h2]at hT
   cases hT
theorem zjt{l:List Tok}(h:stop l=true)(s:List D):PS.named ⟨l,s,0⟩=false∧PS.is [40] ⟨l,s,0⟩=false:=by
 cases l with
 |nil=>exact⟨rfl,rfl⟩
 |cons t l=>
  simp only[stop,Bool.and_eq_true,decide_eq_true_eq]at h
  simp[PS.named,PS.is,h.1,h.2]
theorem zld: ∀(l:List T) (d:Nat),Qm sig l d=true→l.length≤(YF sig l d).length
 |[],_,_=>by simp
 |t::l,d,h=>by
  simp only[Qm,Bool.and_eq_true]at h
  have:=zld l d h.2
  simp only[YF,List.length_cons,List.length_append]
  cases hs:Jz t with
  |false=>simp only[cond_false,List.length_cons,List.length_append];omega
  |true=>
   obtain⟨k,hd,xs⟩:=t
   unfold Jz at hs
   simp only[Bool.and_eq_true,decide_eq_true_eq,T.args,zp6,T.k,Bool.or_eq_true,beq_iff_eq]at hs
   have h1:=h.1
   unfold okW at h1
   rw[if_neg (by omega),if_neg (by omega),if_neg (by omega),Bool.and_eq_true]at h1
   have:1≤(words sig (.mk k hd xs) d).length:=by
    unfold words
    rw[if_neg (by omega),if_neg (by omega),if_neg (by omega)]
    cases hT:YP sig k hd d with
    |none=>rw[hT]at h1;cases h1.1
    |some x=>simp
   simp only[cond_true]
   omega
theorem zaQ: ∀(n:Nat) (t:T) (d:Nat) (rest:List Tok),Yu t=true→okW sig t d=true→(∀i,allW (kindB sig) i t=true)→t.depth≤n→d+t.depth≤100→stop rest=true→
  PS.term n (zhX d) ⟨words sig t d++rest,sig,0⟩=(t,⟨rest,sig,0⟩)
 |0,t,d,rest,_,_,_,h,_,_=>by cases t;simp only[T.depth]at h;omega
 |n+1, .mk k h xs,d,rest,hn,ho,hk,hdn,hd,hst=>by
  simp only[Yu,Bool.and_eq_true]at hn
  simp only[T.depth]at hdn hd
  unfold okW at ho
  have hk0:=hk 0
  simp only[allW,Bool.and_eq_true]at hk0
  unfold words
  by_cases h0:k=0
  ·subst h0
   have:=hn.1
   unfold zae at this
   simp only[if_true,Bool.and_eq_true,decide_eq_true_eq]at this
   obtain⟨rfl,hx⟩:=this
   obtain rfl:=List.length_eq_zero_iff.1 hx
   obtain⟨h1,h2⟩:=zjt G hst sig
   rw[zev]
   simp only[if_true,List.cons_append,List.nil_append]
   rw[if_neg (by simp[PS.is]),if_neg (by simp[PS.is])]
   unfold PS.atoms
   rw[if_neg (by simp[PS.is])]
   have hnm:(PS.name ⟨(0,typ)::rest,sig,0⟩)=(typ,⟨rest,sig,0⟩):=rfl
   simp only[hnm]
   rw[if_neg (by simp),if_pos trivial]
   unfold PS.alone
   rw[h1,h2]
   rfl
  ·rw[if_neg h0]at ho⊢
   by_cases h1:k=1
   ·subst h1
    rw[if_pos rfl]at ho⊢
    have hx:=hn.1
    unfold zae at hx
    simp only[if_neg h0,if_true,Bool.and_eq_true,decide_eq_true_eq]at hx
    obtain⟨rfl,hx⟩:=hx
    match xs,hx,hn,ho,hk,hdn,hd with
    |[a,b],_,hn,ho,hk,hdn,hd=>
     simp only[zrH,Bool.and_eq_true]at ho
     simp only[Y0,Bool.and_eq_true]at hn
     simp only[ZG]at hdn hd
     have hka: ∀i,allW (kindB sig) i a=true:=fun i=>by have:=hk i;simp only[allW,XC,Bool.and_eq_true]at this;exact this.2.1
     have hkb: ∀i,allW (kindB sig) i b=true:=fun i=>by
      have:=hk (i-1);simp only[allW,XC,Bool.and_eq_true,decide_true,Bool.true_or,cond_true]at this;rw[Int.sub_add_cancel]at this;exact this.2.2
     have ha:=zaQ n a d (Xv 125::(words sig b (d+1)++rest)) hn.2.1 ho.1 hka (by omega) (by omega) (by simp[stop,Xv])
     have hb:=zaQ n b (d+1) rest hn.2.2.1 ho.2 hkb (by omega) (by omega) hst
     rw[zev]
     simp only[wPi,List.cons_append,List.append_assoc]
     rw[if_pos (by simp[PS.is,Xv])]
     have e1:(PS.take [123] ⟨Xv 123::Y1 d::Xv 58::(words sig a d++Xv 125::(words sig b (d+1)++rest)),sig,0⟩).name=(95::Lib.decDigits d,⟨Xv 58::(words sig a d++Xv 125::(words sig b (d+1)++rest)),sig,0⟩):=by
      simp[PS.take,PS.token,PS.is,PS.name,PS.named,Xv,Y1]
     have e2:PS.take [58] ⟨Xv 58::(words sig a d++Xv 125::(words sig b (d+1)++rest)),sig,0⟩=⟨words sig a d++Xv 125::(words sig b (d+1)++rest),sig,0⟩:=by
      simp[PS.take,PS.token,PS.is,Xv]
     have e3:PS.take [125] ⟨Xv 125::(words sig b (d+1)++rest),sig,0⟩=⟨words sig b (d+1)++rest,sig,0⟩:=by
      simp[PS.take,PS.token,PS.is,Xv]
     have hb':PS.term n ((95::Lib.decDigits d)::zhX d) ⟨words sig b (d+1)++rest,sig,0⟩=(b,⟨rest,sig,0⟩):=hb
     simp only[e1,e2,ha,e3,hb']
   ·rw[if_neg h1]at ho⊢
    by_cases h3:k=3
    ·subst h3
     rw[if_pos rfl]at ho⊢
     have hx:=hn.1
     unfold zae at hx
     simp only[if_neg h0,if_neg h1,if_true,Bool.and_eq_true,decide_eq_true_eq]at hx
     obtain⟨rfl,hx⟩:=hx
     match xs,hx,hn,ho,hk,hdn,hd with
     |[b],_,hn,ho,hk,hdn,hd=>
      simp only[zkP]at ho
      simp only[Y0,Bool.and_eq_true]at hn
      simp only[ZG]at hdn hd
      have hkb: ∀i,allW (kindB sig) i b=true:=fun i=>by
       have:=hk (i-1);simp only[allW,XC,Bool.and_eq_true,decide_true,Bool.or_true,cond_true]at this;rw[Int.sub_add_cancel]at this;exact this.2
      have hb:=zaQ n b (d+1) rest hn.2.1 ho hkb (by omega) (by omega) hst
      rw[zev]
      simp only[zmp,List.cons_append,List.append_assoc]
      have i1:PS.is [123] ⟨Xv 91::Y1 d::Xv 93::(words sig b (d+1)++rest),sig,0⟩=false:=by simp[PS.is,Xv]
      have i2:PS.is [91] ⟨Xv 91::Y1 d::Xv 93::(words sig b (d+1)++rest),sig,0⟩=true:=by simp[PS.is,Xv]
      simp only[i1,i2,Bool.false_eq_true,if_false,if_true]
      have e1:(PS.take [91] ⟨Xv 91::Y1 d::Xv 93::(words sig b (d+1)++rest),sig,0⟩).name=(95::Lib.decDigits d,⟨Xv 93::(words sig b (d+1)++rest),sig,0⟩):=by
       simp[PS.take,PS.token,PS.is,PS.name,PS.named,Xv,Y1]
      have e2:PS.take [93] ⟨Xv 93::(words sig b (d+1)++rest),sig,0⟩=⟨words sig b (d+1)++rest,sig,0⟩:=by
       simp[PS.take,PS.token,PS.is,Xv]
      have hb':PS.term n ((95::Lib.decDigits d)::zhX d) ⟨words sig b (d+1)++rest,sig,0⟩=(b,⟨rest,sig,0⟩):=hb
      simp only[e1,e2,hb']
    ·rw[if_neg h3]at ho⊢
     rw[Bool.and_eq_true]at ho
     have hh:0≤h:=by
      have:=hn.1
      unfold zae at this
      rw[if_neg h0,if_neg h1,if_neg h3]at this
      simp only[Bool.and_eq_true,decide_eq_true_eq]at this
      exact this.2.2
     obtain⟨tk,hT⟩:=Option.isSome_iff_exists.1 ho.1
     obtain⟨g1,g2,g3⟩:=zlc G hh (by omega) hT hk0.1 (YF sig xs d++rest)
     obtain⟨tk1,tk2⟩:=tk
     have g1:tk1=0:=g1
     subst g1
     have hb:(decide (k=1)||decide (k=3))=false:=by simp[h1,h3]
     rw[zev]
     simp only[hT,Option.toList_some,List.cons_append,List.nil_append]
     rw[if_neg (by simp[PS.is]),if_neg (by simp[PS.is])]
     unfold PS.atoms
     rw[if_neg (by simp[PS.is])]
     have e1:PS.name ⟨(0,tk2)::(YF sig xs d++rest),sig,0⟩=(tk2,⟨YF sig xs d++rest,sig,0⟩):=by simp[PS.name,PS.token,PS.named]
     simp only[e1]
     rw[if_neg (by simp),if_neg g2]
     simp only[g3,T.k,T.h]
     have hargs: ∀(l:List T),Y0 l=true→Qm sig l d=true→(∀a∈l,∀i,allW (kindB sig) i a=true)→ZG l≤n→d+ZG l≤99→ ∀m,l.length≤m→
       PS.args (PS.term n) (zhX d) m ⟨YF sig l d++rest,sig,0⟩=(l,⟨rest,sig,0⟩):=by
      intro l
      induction l with
      |nil=>
       intro _ _ _ _ _ m _
       obtain⟨q1,q2⟩:=zjt G hst sig
       cases m with
       |zero=>rfl
       |succ m=>rw[zkZ];simp only[YF,List.nil_append,q1,q2];rfl
      |cons a l ihl=>
       intro hn ho hk hdn hd m hm
       simp only[Y0,Bool.and_eq_true]at hn
       simp only[Qm,Bool.and_eq_true]at ho
       simp only[ZG]at hdn hd
       simp only[List.length_cons]at hm
       obtain⟨m,rfl⟩: ∃j,m=j+1:=⟨m-1,by omega⟩
       have hl:=ihl hn.2 ho.2 (fun b hb=>hk b (List.mem_cons_of_mem _ hb)) (by omega) (by omega) m (by omega)
       have hka:=hk a (List.mem_cons_self ..)
       rw[zkZ]
       simp only[YF,List.append_assoc]
       cases hs:Jz a with
       |false=>
        simp only[cond_false,List.cons_append,List.append_assoc,List.nil_append]
        have ha:=zaQ n a d (Xv 41::(YF sig l d++rest)) hn.1 ho.1 hka (by omega) (by omega) (by simp[stop,Xv])
        have e2:PS.atom (PS.term n) (zhX d) ⟨Xv 40::(words sig a d++Xv 41::(YF sig l d++rest)),sig,0⟩=(a,⟨YF sig l d++rest,sig,0⟩):=by
         unfold PS.atom
         rw[if_pos (by simp[PS.is,Xv])]
         unfold PS.inner
         have e3:PS.take [40] ⟨Xv 40::(words sig a d++Xv 41::(YF sig l d++rest)),sig,0⟩=⟨words sig a d++Xv 41::(YF sig l d++rest),sig,0⟩:=by
          simp[PS.take,PS.token,PS.is,Xv]
         have e4:PS.take [41] ⟨Xv 41::(YF sig l d++rest),sig,0⟩=⟨YF sig l d++rest,sig,0⟩:=by
          simp[PS.take,PS.token,PS.is,Xv]
         simp only[e3,ha,e4]
        rw[if_pos (by simp[PS.is,Xv])]
        simp only[e2,hl]
       |true=>
        obtain⟨ka,ha,ys⟩:=a
        unfold Jz at hs
        simp only[Bool.and_eq_true,decide_eq_true_eq,T.args,zp6,T.k,Bool.or_eq_true,beq_iff_eq]at hs
        obtain⟨hy,hkk⟩:=hs
        obtain rfl:=List.length_eq_zero_iff.1 (of_decide_eq_true hy)
        have h1:=ho.1
        unfold okW at h1
        rw[if_neg (by omega),if_neg (by omega),if_neg (by omega),Bool.and_eq_true]at h1
        obtain⟨ta,hTa⟩:=Option.isSome_iff_exists.1 h1.1
        have hha:0≤ha:=by
         have:=hn.1
         simp only[Yu,Bool.and_eq_true]at this
         have:=this.1
         unfold zae at this
         rw[if_neg (by omega),if_neg (by omega),if_neg (by omega)]at this
         simp only[Bool.and_eq_true,decide_eq_true_eq]at this
         exact this.2.2
        have hk0:=hka 0
        simp only[allW,Bool.and_eq_true]at hk0
        obtain⟨g1,g2,g3⟩:=zlc G hha (by omega) hTa hk0.1 (YF sig l d++rest)
        obtain⟨t1,t2⟩:=ta
        have g1:t1=0:=g1
        subst g1
        have ew:words sig (.mk ka ha []) d=[(0,t2)]:=by
         unfold words
         rw[if_neg (by omega),if_neg (by omega),if_neg (by omega),hTa]
         rfl
        simp only[cond_true,ew,List.cons_append,List.nil_append]
        have e2:PS.atom (PS.term n) (zhX d) ⟨(0,t2)::(YF sig l d++rest),sig,0⟩=(.mk ka ha [],⟨YF sig l d++rest,sig,0⟩):=by
         unfold PS.atom
         rw[if_neg (by simp[PS.is])]
         have e3:PS.name ⟨(0,t2)::(YF sig l d++rest),sig,0⟩=(t2,⟨YF sig l d++rest,sig,0⟩):=by simp[PS.name,PS.token,PS.named]
         simp only[e3]
         rw[if_neg g2,g3]
        rw[if_pos (by simp[PS.named])]
        simp only[e2,hl]
     have hkx: ∀a∈xs,∀i,allW (kindB sig) i a=true:=by
      intro a ha i
      have:=hk i
      simp only[allW,Bool.and_eq_true,hb]at this
      have h2:=this.2
      rw[zdW,List.all_eq_true]at h2
      exact h2 a ha
     rw[hargs xs hn.2 ho.2 hkx (by omega) (by omega) _ (by rw[List.length_append];have:=zld G xs d ho.2;omega)]
end
end Go.Ama
namespace Go.Ama
open Go Go.AM
mutual
def headsN(n:Nat):T→Bool
 | .mk k h xs=> !((decide (k=2)||decide (k=5))&&decide ((n:Int)≤h))&&zt7 n xs
def zt7(n:Nat):List T→Bool
 |[]=>true
 |t::l=>headsN n t&&zt7 n l
end
end Go.Ama
namespace Go.Ama
open Go Go.AM
structure Rd(sig:List D)(t:T):Prop where
 kind: ∀i,allW (kindB sig) i t=true
 head:headsN sig.length t=true
section
variable{sig:List D}{term:List Bytes→PS→T×PS}{bs:List Bytes}(ht: ∀s,s.s=sig→Rd sig (term bs s).1)(hm: ∀bs s,Mono s (term bs s).2)
include ht hm
end
theorem zhj{n:Int}(h:n<100):zbL (Y1 n):=by
 refine .inr ⟨rfl,by simp[Y1], ?_⟩
 have hall: ∀a:Fin 100,∀c∈(if a.val<10 then[UInt8.ofNat (48+a.val)]else[UInt8.ofNat (48+a.val/10),UInt8.ofNat (48+a.val % 10)]),named c=true:=by decide+kernel
 intro c hc
 simp only[Y1,List.mem_cons]at hc
 rcases hc with rfl|hc
 ·rfl
 ·rw[zm1 (by omega)]at hc
  exact hall ⟨n.toNat,by omega⟩ c hc
theorem zf1{c:UInt8}(h:mark c=true):zbL (Xv c):= .inl ⟨rfl,c,rfl,h⟩
theorem zpX{x:Bytes}(h:nameOK x=true):zbL (0,x):=by
 unfold nameOK at h
 simp only[Bool.and_eq_true,decide_eq_true_eq]at h
 exact zmf x _ h.2 _ (List.mem_singleton.2 rfl)
theorem zt8{sig:List D}(hs: ∀d∈sig,nameOK d.name=true)(t:T): ∀d,Yu t=true→d+t.depth≤100→ ∀x∈words sig t d,zbL x:=by
 induction t using T.ind with
 |_ k h xs ih=>
  intro d hn hd
  have hl: ∀l:List T,(∀a∈l,∀d,Yu a=true→d+a.depth≤100→ ∀x∈words sig a d,zbL x)→Y0 l=true→d+ZG l≤100→ ∀x∈YF sig l d,zbL x:=by
   intro l
   induction l with
   |nil=>intro _ _ _ x hx;cases hx
   |cons a l ihl=>
    intro hh hn hd x hx
    simp only[Y0,Bool.and_eq_true]at hn
    simp only[ZG]at hd
    have h1:=hh a (List.mem_cons_self ..) d hn.1 (by omega)
    have h2:=ihl (fun b hb=>hh b (List.mem_cons_of_mem _ hb)) hn.2 (by omega)
    simp only[YF,List.mem_append]at hx
    rcases hx with hx|hx
    ·cases hs:Jz a<;>rw[hs]at hx
     ·simp only[cond_false,List.cons_append,List.mem_cons,List.mem_append,List.not_mem_nil,or_false]at hx
      rcases hx with rfl|hx|rfl
      ·exact zf1 (by decide)
      ·exact h1 x hx
      ·exact zf1 (by decide)
     ·exact h1 x hx
    ·exact h2 x hx
  intro x hx
  simp only[Yu,Bool.and_eq_true]at hn
  simp only[T.depth]at hd
  unfold words at hx
  split at hx
  ·rw[List.mem_singleton]at hx
   subst hx
   exact .inr ⟨rfl,by decide,by decide⟩
  ·rename_i k0
   split at hx
   ·match xs,ih,hn,hd,hx with
    |[],_,_,_,hx=>cases hx
    |[_],_,_,_,hx=>cases hx
    |a::b::r,ih,hn,hd,hx=>
     simp only[Y0,Bool.and_eq_true]at hn
     simp only[ZG]at hd
     simp only[wPi,List.mem_cons,List.mem_append]at hx
     rcases hx with(rfl|rfl|rfl|hx)|rfl|hx
     ·exact zf1 (by decide)
     ·exact zhj (by omega)
     ·exact zf1 (by decide)
     ·exact ih a (by simp) d hn.2.1 (by omega) x hx
     ·exact zf1 (by decide)
     ·exact ih b (by simp) (d+1) hn.2.2.1 (by omega) x hx
   ·rename_i k1
    split at hx
    ·match xs,ih,hn,hd,hx with
     |[],_,_,_,hx=>cases hx
     |a::r,ih,hn,hd,hx=>
      simp only[Y0,Bool.and_eq_true]at hn
      simp only[ZG]at hd
      simp only[zmp,List.mem_cons]at hx
      rcases hx with rfl|rfl|rfl|hx
      ·exact zf1 (by decide)
      ·exact zhj (by omega)
      ·exact zf1 (by decide)
      ·exact ih a (by simp) (d+1) hn.2.1 (by omega) x hx
    ·rename_i k3
     rw[List.mem_append]at hx
     rcases hx with hx|hx
     ·rw[Option.mem_toList]at hx
      have h0:0≤h:=by
       have:=hn.1
       unfold zae at this
       rw[if_neg k0,if_neg k1,if_neg k3]at this
       simp only[Bool.and_eq_true,decide_eq_true_eq]at this
       exact this.2.2
      unfold YP at hx
      split at hx
      ·cases hx;exact zhj (by omega)
      ·split at hx
       ·cases hg:sig[h.toNat]? with
        |none=>rw[hg]at hx;cases hx
        |some y=>rw[hg]at hx;cases hx;exact zpX (hs y (List.mem_of_getElem? hg))
       ·cases hx
     ·exact hl xs ih hn.2 (by omega) x hx
end Go.Ama
namespace Go.Ama
open Go Go.AM
theorem zju(sig:List D)(d:Nat): ∀l:List T,Qm sig l d=l.all fun t=>okW sig t d
 |[]=>rfl
 |t::l=>by simp[Qm,zju sig d l]
theorem zpY{sig:List D}{k h:Int}{d:Nat}{l:List T}(h1:(YP sig k h d).isSome=true)(hk1:k≠1)(hk3:k≠3)(hl:Qm sig l d=true):okW sig (.mk k h l) d=true:=by
 unfold okW
 by_cases h0:k=0
 ·rw[if_pos h0]
 ·rw[if_neg h0,if_neg hk1,if_neg hk3,h1,hl]
  rfl
section
variable{sig:List D}{term:List Bytes→PS→T×PS}{bs:List Bytes}(ht: ∀s,s.s=sig→okW sig (term bs s).1 bs.length=true)(hm: ∀bs s,Mono s (term bs s).2)
include ht hm
end
end Go.Ama
namespace Go.Proofs.SZ
open Go Go.AM Go.Ama
set_option maxRecDepth 100000
end Go.Proofs.SZ
namespace Go.Proofs.SZ
open Go Go.AM
set_option maxRecDepth 20000
theorem zpZ(O:Oracle)(n0:Int)(n1:Int)(l2:(List V))(n3:Int)(n4:Int):Zf Tryz.prog cfg O 78 [.agg [.int n0, .int n1, .vec .plain (some 3) l2], .int n3, .int n4] []=
 Za (Zr O 92 [V.agg [V.int n0,V.int n1,V.vec .plain (some 3) l2],V.int n3,V.int n4]) fun r1=>Zm r1 fun b2=>bc (!b2) (Za (Zr O 93 [V.agg
 [V.int n0,V.int n1,V.vec .plain (some 3) l2]]) fun r3=>Zc [CT.int,CT.int,CT.slice (some 3)] r3 fun n4 n5 l6=>gd (below 0 (V.agg [V.int n4,V.int n5,V.vec .plain
 (some 3) l6])&&true) (some (Out.ret (V.agg [V.int n4,V.int n5,V.vec .plain (some 3) l6]),[]))) (Za (O.call 94 [V.agg [V.int n0,V.int n1,V.vec .plain (some 3)
 l2],V.int 0,V.fn 95 [V.agg [V.int n3,V.int n4]] []] []) fun r7=>Zj r7.fst (fun v8=>Z2 v8 fun c9=>Ze c9 fun v10 c11=>Zc [CT.int,CT.int,
 CT.slice (some 3)] v10 fun n12 n13 l14=>Ze c11 fun v15 c16=>Zm v15 fun b17=>Zh c16 (gd (below 0 (V.agg [V.int n12,V.int n13,V.vec .plain (some 3) l14])&&
 Zy 0 []) (some (Out.ret (V.agg [V.int n12,V.int n13,V.vec .plain (some 3) l14]),[])))) fun p18=>none):=by kernel_rfl
theorem zkm(O:Oracle)(n0:Int)(n1:Int)(l2:(List V))(l3:(List V))(n4:Int):Zf Tryz.prog cfg O 80 [.agg [.int n0, .int n1, .vec .plain (some 3) l2], .agg [.vec .plain (some 3) l3, .int n4]] []=
 Za (Zr O 24 [V.agg [V.int n0,V.int n1,V.vec .plain (some 3) l2]]) fun r1=>Zm r1 fun b2=>bc (!b2) (some (Out.ret (V.tup [V.agg [V.int 0,V.int 0,V.vec
 .plain (some 3) []],V.int 1]),[])) (Za (Zr O 96 [V.agg [V.vec .plain (some 3) l3,V.int n4]]) fun r3=>Zm r3 fun b4=>bc (!b4) (some (Out.ret (V.tup [V.agg
 [V.int 0,V.int 0,V.vec .plain (some 3) []],V.int 1]),[])) (Za (O.call 97 [V.fn 98 [] [V.cptr (some 3) (V.agg [V.int n0,V.int n1,V.vec .plain (some
 3) l2]),V.cptr (some 2) (V.agg [V.vec .plain (some 3) l3,V.int n4])]] []) fun r5=>Zj r5.fst (fun v6=>Z2 v6 fun c7=>Ze c7 fun v8 c9=>Zc [CT.int,CT.int,
 CT.slice (some 3)] v8 fun n10 n11 l12=>Ze c9 fun v13 c14=>Zp v13 fun n15=>Zh c14 (gd (below 0 (V.tup [V.agg [V.int n10,V.int n11,V.vec .plain (some 3) l12],
 V.int n15])&&Zy 0 []) (some (Out.ret (V.tup [V.agg [V.int n10,V.int n11,V.vec .plain (some 3) l12],V.int n15]),[])))) fun p16=>none)):=by kernel_rfl
theorem zos(O:Oracle)(n0:Int)(n1:Int)(l2:(List V))(n3:Int)(n4:Int):Zf Tryz.prog cfg O 92 [.agg [.int n0, .int n1, .vec .plain (some 3) l2], .int n3, .int n4] []=
 Za (Zr O 24 [V.agg [V.int n0,V.int n1,V.vec .plain (some 3) l2]]) fun r1=>Zm r1 fun b2=>bc b2 (bc (decide (n3≥0)) (bc (decide (n3≤1048576)) (bc (decide
 (n4≥0)) (some (Out.ret (V.bool (decide (n4≤1048576))),[])) (some (Out.ret (V.bool false),[]))) (some (Out.ret (V.bool false),[]))) (some (Out.ret (V.bool false),[])))
 (some (Out.ret (V.bool false),[])):=by kernel_rfl
theorem zjv(O:Oracle)(n0:Int)(n1:Int)(l2:(List V))(n3:Int)(g4:Nat)(l5:(List V))(l6:(List V))(st:St):Zf Tryz.prog cfg O 94 [.agg [.int n0, .int n1, .vec .plain (some 3) l2], .int n3, .fn g4 l5 l6] st=
 bc (n0==4) (bc (cfg.pure g4) (Za (Zr O g4 (l5++[V.int n1,V.int n3]++l6)) fun r1=>Z2 r1 fun c2=>Ze c2 fun v3 c4=>Zp v3 fun n5=>Ze c4 fun v6 c7=>
 Zm v6 fun b8=>Zh c7 (bc (!b8) (Y6 (List.length st) (V.tup [V.agg [V.int 0,V.int 0,V.vec .plain (some 3) []],V.bool false]) st) (Za (O.call 112
 [V.vec .plain (some 3) l2,V.fn 113 [] [V.cptr none (V.int n3),V.cptr (some 3) (V.agg [V.int n0,V.int n1,V.vec .plain (some 3) l2]),V.cptr none (V.fn g4 l5 l6)]]
 st) fun r9=>Zj r9.fst (fun v10=>Z2 v10 fun c11=>Ze c11 fun v12 c13=>ZU (some 3) v12 fun l14=>Ze c13 fun v15 c16=>Zm v15 fun b17=>Zh c16 (bc
 (!b17) (Y6 (List.length st) (V.tup [V.agg [V.int 0,V.int 0,V.vec .plain (some 3) []],V.bool false]) r9.snd) (Y6 (List.length st) (V.tup [V.agg [V.int n0,V.int n5,V.vec
 .plain (some 3) l14],V.bool true]) r9.snd))) fun p18=>none))) (Za (O.call g4 (l5++[V.int n1,V.int n3]++l6) st) fun r19=>Zj r19.fst (fun v20=>Z2 v20 fun c21=>
 Ze c21 fun v22 c23=>Zp v22 fun n24=>Ze c23 fun v25 c26=>Zm v25 fun b27=>Zh c26 (bc (!b27) (Y6 (List.length st) (V.tup [V.agg [V.int 0,V.int 0,V.vec
 .plain (some 3) []],V.bool false]) r19.snd) (Za (O.call 112 [V.vec .plain (some 3) l2,V.fn 113 [] [V.cptr none (V.int n3),V.cptr (some 3)
 (V.agg [V.int n0,V.int n1,V.vec .plain (some 3) l2]),V.cptr none (V.fn g4 l5 l6)]] r19.snd) fun r28=>Zj r28.fst (fun v29=>Z2 v29 fun c30=>Ze c30 fun v31 c32=>
 ZU (some 3) v31 fun l33=>Ze c32 fun v34 c35=>Zm v34 fun b36=>Zh c35 (bc (!b36) (Y6 (List.length st) (V.tup [V.agg [V.int 0,V.int 0,V.vec .plain (some 3)
 []],V.bool false]) r28.snd) (Y6 (List.length st) (V.tup [V.agg [V.int n0,V.int n24,V.vec .plain (some 3) l33],V.bool true]) r28.snd))) fun p37=>none))) fun p38=>none))
 (Za (O.call 112 [V.vec .plain (some 3) l2,V.fn 113 [] [V.cptr none (V.int n3),V.cptr (some 3) (V.agg [V.int n0,V.int n1,V.vec .plain (some 3)
 l2]),V.cptr none (V.fn g4 l5 l6)]] st) fun r39=>Zj r39.fst (fun v40=>Z2 v40 fun c41=>Ze c41 fun v42 c43=>ZU (some 3) v42 fun l44=>Ze c43 fun v45 c46=>
 Zm v45 fun b47=>Zh c46 (bc (!b47) (Y6 (List.length st) (V.tup [V.agg [V.int 0,V.int 0,V.vec .plain (some 3) []],V.bool false]) r39.snd) (Y6 (List.length st) (V.tup
 [V.agg [V.int n0,V.int n1,V.vec .plain (some 3) l44],V.bool true]) r39.snd))) fun p48=>none):=by kernel_rfl
theorem ze6(O:Oracle)(n0:Int)(n1:Int)(n2:Int)(n3:Int):Zf Tryz.prog cfg O 95 [.agg [.int n0, .int n1], .int n2, .int n3] []=
 bc (decide (n2≥IntKind.i64.wrap (n1+n3))) (some (Out.ret (V.tup [V.int (IntKind.i64.wrap (n2+n0)),V.bool true]),[])) (some (Out.ret (V.tup [V.int n2,V.bool true]),[])):=by kernel_rfl
theorem zot(O:Oracle)(l0:(List V))(n1:Int):Zf Tryz.prog cfg O 96 [.agg [.vec .plain (some 3) l0, .int n1]] []=
 bc (decide ((↑l0.length:Int)≤200)) (bc (decide (n1≥0)) (bc (decide (n1≤1048576)) (Za (O.call 38 [V.vec .plain (some 3) l0,V.fn
 114 [] []] []) fun r1=>Zj r1.fst (fun v2=>Zm v2 fun b3=>some (Out.ret (V.bool !b3),[])) fun p4=>none) (some (Out.ret (V.bool false),[]))) (some (Out.ret
 (V.bool false),[]))) (some (Out.ret (V.bool false),[])):=by kernel_rfl
theorem zhY(O:Oracle)(q:Nat)(k h:Int)(xs ls:List V)(sft:Int)(st:St):Zf Tryz.prog cfg O 98 [.ref q 0, .cptr (some 3) (.agg [.int k, .int h, .vec .plain (some 3) xs]), .cptr (some 2) (.agg [.vec .plain (some 3) ls, .int sft])] st=
 Za (O.call 99 [V.ref q 0,V.agg [V.int k,V.int h,V.vec .plain (some 3) xs],V.agg [V.vec .plain (some 3) ls,V.int sft]] st) fun r1=>Zj r1.fst (fun v2=>
 Zc [CT.int,CT.int,CT.slice (some 3)] v2 fun n3 n4 l5=>Y6 (List.length st) (V.agg [V.int n3,V.int n4,V.vec .plain (some 3) l5]) r1.snd) fun p6=>gd (below
 (List.length st) p6&&Zy (List.length st) (List.take (List.length st) r1.snd)) (some (Out.panic p6,List.take (List.length st) r1.snd)):=by kernel_rfl
theorem zaR(O:Oracle)(r0:Nat)(n1:Int)(n2:Int)(l3:(List V))(l4:(List V))(n5:Int)(st:St):Zf Tryz.prog cfg O 99 [.ref r0 0, .agg [.int n1, .int n2, .vec .plain (some 3) l3], .agg [.vec .plain (some 3) l4, .int n5]] st=
 Z4 st r0 fun x1=>Z1 x1 fun c2=>gd (decide (1≤c2.length)&&true) (Zp (Zo (AM.partOf c2 0 none)) fun n3=>Z4 st r0 fun x4=>Z1 x4 fun c5=>gd (decide (1≤
 c5.length)&&true) (Z4 (List.set st r0 (Res.box (setCells c5 0 [V.int (IntKind.i64.wrap (n3+1))]))) r0 fun x6=>Z1 x6 fun c7=>gd (decide (1≤c7.length)&&true) (Zp
 (Zo (AM.partOf c7 0 none)) fun n8=>bc (decide (n8>40000)) (Za (O.call 116 [V.int 4] (List.set st r0 (Res.box (setCells c5 0 [V.int (IntKind.i64.wrap (n3+
 1))])))) fun r9=>Zj r9.fst (fun v10=>Z2 v10 fun c11=>Zh c11 (Za (O.loop 99 6 [V.int 0,V.loc true (some 3) (V.agg [V.int n1,V.int n2,V.vec
 Mode.grow (some 3) []]),V.ref r0 0,V.loc false (some 2) (V.agg [V.vec .plain (some 3) l4,V.int n5]),V.loc false (some 3) (V.agg [V.int n1,V.int n2,V.vec .plain (some 3)
 l3]),V.vec .plain (some 3) l3,V.loc true (some 3) (V.agg [V.int 0,V.int 0,V.vec Mode.full (some 3) []]),V.int (↑l3.length:Int)] r9.snd) fun r12=>Xj r12.fst none none
 (fun i13=>bc (i13.beq 0) (Ze r12.snd.fst fun v14 c15=>YN (some 3) v14 fun d16 v17=>Ze c15 fun v18 c19=>YN (some 3) v18 fun d20 v21=>Y3 v21 fun c22=>
 Ze c22 fun v23 c24=>Zp v23 fun n25=>Ze c24 fun v26 c27=>Zp v26 fun n28=>Ze c27 fun v29 c30=>Xc (some 3) v29 fun l31=>Zh c30 (Ze c19 fun
 v32 c33=>YN (some 3) v32 fun d34 v35=>Zc [CT.int,CT.int,CT.slice (some 3)] (bif d34 then Zo v35 else v35) fun n36 n37 l38=>Ze c33 fun v39 c40=>YN
 (some 2) v39 fun d41 v42=>Zc [CT.slice (some 3),CT.int] (bif d41 then Zo v42 else v42) fun l43 n44=>Ze c40 fun v45 c46=>zcW v45 fun q47=>Zh c46 (bc
 (n36 !=4) (Y6 (List.length st) (V.agg [V.int n25,V.int n28,V.vec .plain (some 3) l31]) r12.snd.snd) (Za (Zr O 119 [V.agg [V.vec .plain (some 3) l43,V.int n44],
 V.int n37]) fun r48=>Zc [CT.int,CT.int,CT.slice (some 3)] r48 fun n49 n50 l51=>Za (O.call 118 [V.ref q47 0,V.agg [V.int n49,V.int n50,V.vec .plain
 (some 3) l51],V.vec .plain (some 3) l31] r12.snd.snd) fun r52=>Zj r52.fst (fun v53=>Zc [CT.int,CT.int,CT.slice (some 3)] v53 fun n54 n55 l56=>Y6 (List.length
 st) (V.agg [V.int n54,V.int n55,V.vec .plain (some 3) l56]) r52.snd) fun p57=>gd (below (List.length st) p57&&Zy (List.length st) (List.take (List.length st) r52.snd))
 (some (Out.panic p57,List.take (List.length st) r52.snd)))))) none) fun v58=>gd (below (List.length st) v58&&Zy (List.length st) (List.take (List.length st)
 r12.snd.snd)) (some (Out.panic v58,List.take (List.length st) r12.snd.snd)))) fun p59=>gd (below (List.length st) p59&&Zy (List.length st) (List.take (List.length st)
 r9.snd)) (some (Out.panic p59,List.take (List.length st) r9.snd))) (Za (O.loop 99 6 [V.int 0,V.loc true (some 3) (V.agg [V.int n1,V.int n2,V.vec Mode.grow
 (some 3) []]),V.ref r0 0,V.loc false (some 2) (V.agg [V.vec .plain (some 3) l4,V.int n5]),V.loc false (some 3) (V.agg [V.int n1,V.int n2,V.vec .plain (some 3) l3]),V.vec
 .plain (some 3) l3,V.loc true (some 3) (V.agg [V.int 0,V.int 0,V.vec Mode.full (some 3) []]),V.int (↑l3.length:Int)] (List.set st r0 (Res.box (setCells c5 0 [V.int
 (IntKind.i64.wrap (n3+1))])))) fun r60=>Xj r60.fst none none (fun i61=>bc (i61.beq 0) (Ze r60.snd.fst fun v62 c63=>YN (some 3) v62 fun d64 v65=>Ze c63 fun
 v66 c67=>YN (some 3) v66 fun d68 v69=>Y3 v69 fun c70=>Ze c70 fun v71 c72=>Zp v71 fun n73=>Ze c72 fun v74 c75=>Zp v74 fun n76=>Ze c75 fun v77
 c78=>Xc (some 3) v77 fun l79=>Zh c78 (Ze c67 fun v80 c81=>YN (some 3) v80 fun d82 v83=>Zc [CT.int,CT.int,CT.slice (some 3)] (bif d82 then Zo v83
 else v83) fun n84 n85 l86=>Ze c81 fun v87 c88=>YN (some 2) v87 fun d89 v90=>Zc [CT.slice (some 3),CT.int] (bif d89 then Zo v90 else v90) fun l91 n92=>
 Ze c88 fun v93 c94=>zcW v93 fun q95=>Zh c94 (bc (n84 !=4) (Y6 (List.length st) (V.agg [V.int n73,V.int n76,V.vec .plain (some 3) l79]) r60.snd.snd) (Za (Zr
 O 119 [V.agg [V.vec .plain (some 3) l91,V.int n92],V.int n85]) fun r96=>Zc [CT.int,CT.int,CT.slice (some 3)] r96 fun n97 n98 l99=>Za (O.call
 118 [V.ref q95 0,V.agg [V.int n97,V.int n98,V.vec .plain (some 3) l99],V.vec .plain (some 3) l79] r60.snd.snd) fun r100=>Zj r100.fst (fun v101=>Zc
 [CT.int,CT.int,CT.slice (some 3)] v101 fun n102 n103 l104=>Y6 (List.length st) (V.agg [V.int n102,V.int n103,V.vec .plain (some 3) l104]) r100.snd) fun p105=>gd (below
 (List.length st) p105&&Zy (List.length st) (List.take (List.length st) r100.snd)) (some (Out.panic p105,List.take (List.length st) r100.snd)))))) none) fun v106=>gd
 (below (List.length st) v106&&Zy (List.length st) (List.take (List.length st) r60.snd.snd)) (some (Out.panic v106,List.take (List.length st) r60.snd.snd)))))):=by kernel_rfl
theorem J6(O:Oracle)(n0:Int)(n1:Int)(n2:Int)(l3:(List V))(r4:Nat)(l5:(List V))(n6:Int)(n7:Int)(n8:Int)(l9:(List V))(l10:(List V))(v11:V)(n12:Int)(st:St):Z8 Tryz.prog cfg O 99 6 [.int n0, .loc true (some 3) (.agg [.int n1, .int n2, .vec .grow (some 3) l3]), .ref r4 0, .loc false (some 2) (.agg [.vec .plain (some 3) l5, .int n6]), .loc false (some 3) (.agg [.int n7, .int n8, .vec .plain (some 3) l9]), .vec .plain (some 3) l10, .loc true (some 3) v11, .int n12] st=
 bc (decide (n0<n12)) (gd (decide (0≤n0)&&decide (n0<(↑l10.length:Int))) (Zc [CT.int,CT.int,CT.slice (some 3)] (ZW l10 n0) fun n1_1 n2_1 l3_1=>bc (n7==1)
 (bc (n0==IntKind.i64.wrap ((↑l9.length:Int)-1)) (Za (Zr O 117 [V.agg [V.vec .plain (some 3) l5,V.int n6]]) fun r4_1=>Zc [CT.slice (some 3),CT.int]
 r4_1 fun l5_1 n6_1=>Za (O.call 99 [V.ref r4 0,V.agg [V.int n1_1,V.int n2_1,V.vec .plain (some 3) l3_1],V.agg [V.vec .plain (some 3) l5_1,V.int n6_1]] st)
 fun r7=>Zj r7.fst (fun v8=>Zc [CT.int,CT.int,CT.slice (some 3)] v8 fun n9 n10 l11=>gd (true&&roomFor Tryz.prog 25 (l3.length+[V.agg [V.int n9,V.int
 n10,V.vec .plain (some 3) l11]].length)) (O.2 99 6 [V.int (IntKind.i64.wrap (n0+1)),V.loc true (some 3) (V.agg [V.int n1,V.int n2,V.vec Mode.grow (some 3)
 (l3++[V.agg [V.int n9,V.int n10,V.vec .plain (some 3) l11]])]),V.ref r4 0,V.loc false (some 2) (V.agg [V.vec .plain (some 3) l5,V.int n6]),V.loc false (some 3) (V.agg
 [V.int n7,V.int n8,V.vec .plain (some 3) l9]),V.vec .plain (some 3) l10,V.loc true (some 3) v11,V.int n12] r7.snd)) fun p12=>some (Ex.panic p12,[V.loc true (some 3) v11,
 V.loc true (some 3) (V.agg [V.int n1,V.int n2,V.vec .plain (some 3) l3]),V.loc false (some 3) (V.agg [V.int n7,V.int n8,V.vec .plain (some 3) l9]),V.loc false (some 2)
 (V.agg [V.vec .plain (some 3) l5,V.int n6]),V.ref r4 0],r7.snd)) (Za (O.call 99 [V.ref r4 0,V.agg [V.int n1_1,V.int n2_1,V.vec .plain (some 3) l3_1],
 V.agg [V.vec .plain (some 3) l5,V.int n6]] st) fun r13=>Zj r13.fst (fun v14=>Zc [CT.int,CT.int,CT.slice (some 3)] v14 fun n15 n16 l17=>gd (true&&roomFor
 Tryz.prog 25 (l3.length+[V.agg [V.int n15,V.int n16,V.vec .plain (some 3) l17]].length)) (O.2 99 6 [V.int (IntKind.i64.wrap (n0+1)),V.loc true
 (some 3) (V.agg [V.int n1,V.int n2,V.vec Mode.grow (some 3) (l3++[V.agg [V.int n15,V.int n16,V.vec .plain (some 3) l17]])]),V.ref r4 0,V.loc false (some 2) (V.agg [V.vec
 .plain (some 3) l5,V.int n6]),V.loc false (some 3) (V.agg [V.int n7,V.int n8,V.vec .plain (some 3) l9]),V.vec .plain (some 3) l10,V.loc true (some 3) v11,V.int n12]
 r13.snd)) fun p18=>some (Ex.panic p18,[V.loc true (some 3) v11,V.loc true (some 3) (V.agg [V.int n1,V.int n2,V.vec .plain (some 3) l3]),V.loc false (some 3) (V.agg [V.int
 n7,V.int n8,V.vec .plain (some 3) l9]),V.loc false (some 2) (V.agg [V.vec .plain (some 3) l5,V.int n6]),V.ref r4 0],r13.snd))) (bc (n7==3) (bc (n0==IntKind.i64.wrap
 ((↑l9.length:Int)-1)) (Za (Zr O 117 [V.agg [V.vec .plain (some 3) l5,V.int n6]]) fun r19=>Zc [CT.slice (some 3),CT.int] r19 fun l20 n21=>Za
 (O.call 99 [V.ref r4 0,V.agg [V.int n1_1,V.int n2_1,V.vec .plain (some 3) l3_1],V.agg [V.vec .plain (some 3) l20,V.int n21]] st) fun r22=>Zj r22.fst (fun
 v23=>Zc [CT.int,CT.int,CT.slice (some 3)] v23 fun n24 n25 l26=>gd (true&&roomFor Tryz.prog 25 (l3.length+[V.agg [V.int n24,V.int n25,V.vec .plain (some
 3) l26]].length)) (O.2 99 6 [V.int (IntKind.i64.wrap (n0+1)),V.loc true (some 3) (V.agg [V.int n1,V.int n2,V.vec Mode.grow (some 3) (l3++[V.agg [V.int n24,
 V.int n25,V.vec .plain (some 3) l26]])]),V.ref r4 0,V.loc false (some 2) (V.agg [V.vec .plain (some 3) l5,V.int n6]),V.loc false (some 3) (V.agg [V.int n7,V.int n8,V.vec
 .plain (some 3) l9]),V.vec .plain (some 3) l10,V.loc true (some 3) v11,V.int n12] r22.snd)) fun p27=>some (Ex.panic p27,[V.loc true (some 3) v11,V.loc true (some 3) (V.agg
 [V.int n1,V.int n2,V.vec .plain (some 3) l3]),V.loc false (some 3) (V.agg [V.int n7,V.int n8,V.vec .plain (some 3) l9]),V.loc false (some 2) (V.agg [V.vec .plain (some 3)
 l5,V.int n6]),V.ref r4 0],r22.snd)) (Za (O.call 99 [V.ref r4 0,V.agg [V.int n1_1,V.int n2_1,V.vec .plain (some 3) l3_1],V.agg [V.vec .plain (some 3) l5,
 V.int n6]] st) fun r28=>Zj r28.fst (fun v29=>Zc [CT.int,CT.int,CT.slice (some 3)] v29 fun n30 n31 l32=>gd (true&&roomFor Tryz.prog 25 (l3.length+
 [V.agg [V.int n30,V.int n31,V.vec .plain (some 3) l32]].length)) (O.2 99 6 [V.int (IntKind.i64.wrap (n0+1)),V.loc true (some 3) (V.agg [V.int n1,V.int n2,
 V.vec Mode.grow (some 3) (l3++[V.agg [V.int n30,V.int n31,V.vec .plain (some 3) l32]])]),V.ref r4 0,V.loc false (some 2) (V.agg [V.vec .plain (some 3) l5,V.int n6]),V.loc
 false (some 3) (V.agg [V.int n7,V.int n8,V.vec .plain (some 3) l9]),V.vec .plain (some 3) l10,V.loc true (some 3) v11,V.int n12] r28.snd)) fun p33=>some (Ex.panic p33,
 [V.loc true (some 3) v11,V.loc true (some 3) (V.agg [V.int n1,V.int n2,V.vec .plain (some 3) l3]),V.loc false (some 3) (V.agg [V.int n7,V.int n8,V.vec .plain (some 3) l9]),
 V.loc false (some 2) (V.agg [V.vec .plain (some 3) l5,V.int n6]),V.ref r4 0],r28.snd))) (Za (O.call 99 [V.ref r4 0,V.agg [V.int n1_1,V.int n2_1,V.vec
 .plain (some 3) l3_1],V.agg [V.vec .plain (some 3) l5,V.int n6]] st) fun r34=>Zj r34.fst (fun v35=>Zc [CT.int,CT.int,CT.slice (some 3)] v35 fun n36 n37 l38=>gd
 (true&&roomFor Tryz.prog 25 (l3.length+[V.agg [V.int n36,V.int n37,V.vec .plain (some 3) l38]].length)) (O.2 99 6 [V.int (IntKind.i64.wrap (n0+
 1)),V.loc true (some 3) (V.agg [V.int n1,V.int n2,V.vec Mode.grow (some 3) (l3++[V.agg [V.int n36,V.int n37,V.vec .plain (some 3) l38]])]),V.ref r4 0,V.loc false (some 2)
 (V.agg [V.vec .plain (some 3) l5,V.int n6]),V.loc false (some 3) (V.agg [V.int n7,V.int n8,V.vec .plain (some 3) l9]),V.vec .plain (some 3) l10,V.loc true (some 3) v11,
 V.int n12] r34.snd)) fun p39=>some (Ex.panic p39,[V.loc true (some 3) v11,V.loc true (some 3) (V.agg [V.int n1,V.int n2,V.vec .plain (some 3) l3]),V.loc false (some 3)
 (V.agg [V.int n7,V.int n8,V.vec .plain (some 3) l9]),V.loc false (some 2) (V.agg [V.vec .plain (some 3) l5,V.int n6]),V.ref r4 0],r34.snd))))) (some (Ex.exit 0,[V.loc true
 (some 3) v11,V.loc true (some 3) (V.agg [V.int n1,V.int n2,V.vec Mode.grow (some 3) l3]),V.loc false (some 3) (V.agg [V.int n7,V.int n8,V.vec .plain (some 3) l9]),V.loc
 false (some 2) (V.agg [V.vec .plain (some 3) l5,V.int n6]),V.ref r4 0],st)):=by kernel_rfl
theorem zcT(O:Oracle)(l0:(List V))(g1:Nat)(l2:(List V))(l3:(List V))(st:St):Zf Tryz.prog cfg O 112 [.vec .plain (some 3) l0, .fn g1 l2 l3] st=
 Za (O.loop 112 3 [V.int 0,V.vec Mode.grow (some 3) [],V.fn g1 l2 l3,V.vec .plain (some 3) l0,V.int (↑l0.length:Int)] st) fun r1=>Xj r1.fst none
 (Ze r1.snd.fst fun v2 c3=>ZU (some 3) v2 fun l4=>Ze c3 fun v5 c6=>Zm v5 fun b7=>Zh c6 (Y6 (List.length st) (V.tup [V.vec .plain (some 3) l4,V.bool b7])
 r1.snd.snd)) (fun i8=>bc (i8.beq 0) (Ze r1.snd.fst fun v9 c10=>Xc (some 3) v9 fun l11=>Zh c10 (Y6 (List.length st) (V.tup [V.vec .plain (some 3) l11,V.bool
 true]) r1.snd.snd)) none) fun v12=>none:=by kernel_rfl
theorem QK(O:Oracle)(n0:Int)(l1:(List V))(g2:Nat)(l3:(List V))(l4:(List V))(l5:(List V))(n6:Int)(st:St):Z8 Tryz.prog cfg O 112 3 [.int n0, .vec .grow (some 3) l1, .fn g2 l3 l4, .vec .plain (some 3) l5, .int n6] st=
 bc (decide (n0<n6)) (gd (decide (0≤n0)&&decide (n0<(↑l5.length:Int))) (Zc [CT.int,CT.int,CT.slice (some 3)] (ZW l5 n0) fun n1 n2 l3_1=>bc (cfg.pure g2)
 (Za (Zr O g2 (l3++[V.int n0,V.agg [V.int n1,V.int n2,V.vec .plain (some 3) l3_1]]++l4)) fun r4=>Z2 r4 fun c5=>Ze c5 fun v6 c7=>Zc [CT.int,CT.int,
 CT.slice (some 3)] v6 fun n8 n9 l10=>Ze c7 fun v11 c12=>Zm v11 fun b13=>Zh c12 (bc (!b13) (some (Ex.ret,[V.vec .plain (some 3) [],V.bool false],st)) (gd (true
 &&roomFor Tryz.prog 25 (l1.length+[V.agg [V.int n8,V.int n9,V.vec .plain (some 3) l10]].length)) (O.2 112 3 [V.int (IntKind.i64.wrap (n0+1)),
 V.vec Mode.grow (some 3) (l1++[V.agg [V.int n8,V.int n9,V.vec .plain (some 3) l10]]),V.fn g2 l3 l4,V.vec .plain (some 3) l5,V.int n6] st)))) (Za (O.call g2 (l3++[V.int
 n0,V.agg [V.int n1,V.int n2,V.vec .plain (some 3) l3_1]]++l4) st) fun r14=>Zj r14.fst (fun v15=>Z2 v15 fun c16=>Ze c16 fun v17 c18=>Zc [CT.int,
 CT.int,CT.slice (some 3)] v17 fun n19 n20 l21=>Ze c18 fun v22 c23=>Zm v22 fun b24=>Zh c23 (bc (!b24) (some (Ex.ret,[V.vec .plain (some 3) [],V.bool false],
 r14.snd)) (gd (true&&roomFor Tryz.prog 25 (l1.length+[V.agg [V.int n19,V.int n20,V.vec .plain (some 3) l21]].length)) (O.2 112 3 [V.int
 (IntKind.i64.wrap (n0+1)),V.vec Mode.grow (some 3) (l1++[V.agg [V.int n19,V.int n20,V.vec .plain (some 3) l21]]),V.fn g2 l3 l4,V.vec .plain (some 3) l5,V.int n6]
 r14.snd)))) fun p25=>none))) (some (Ex.exit 0,[V.vec Mode.grow (some 3) l1],st)):=by kernel_rfl
theorem zhk(O:Oracle)(i k h ar k0 h0:Int)(xs ys:List V)(g:Nat)(a b:List V)(st:St):Zf Tryz.prog cfg O 113 [.int i, .agg [.int k, .int h, .vec .plain (some 3) xs], .cptr none (.int ar), .cptr (some 3) (.agg [.int k0, .int h0, .vec .plain (some 3) ys]), .cptr none (.fn g a b)] st=
 bc (k0==1) (bc (i==IntKind.i64.wrap ((↑ys.length:Int)-1)) (Za (O.call 94 [V.agg [V.int k,V.int h,V.vec .plain (some 3) xs],V.int (IntKind.i64.wrap (ar+
 1)),V.fn g a b] st) fun r1=>Zj r1.fst (fun v2=>Z2 v2 fun c3=>Ze c3 fun v4 c5=>Zc [CT.int,CT.int,CT.slice (some 3)] v4 fun n6 n7 l8=>Ze c5 fun v9
 c10=>Zm v9 fun b11=>Zh c10 (Y6 (List.length st) (V.tup [V.agg [V.int n6,V.int n7,V.vec .plain (some 3) l8],V.bool b11]) r1.snd)) fun p12=>none) (Za (O.call
 94 [V.agg [V.int k,V.int h,V.vec .plain (some 3) xs],V.int ar,V.fn g a b] st) fun r13=>Zj r13.fst (fun v14=>Z2 v14 fun c15=>Ze c15 fun v16 c17=>
 Zc [CT.int,CT.int,CT.slice (some 3)] v16 fun n18 n19 l20=>Ze c17 fun v21 c22=>Zm v21 fun b23=>Zh c22 (Y6 (List.length st) (V.tup [V.agg [V.int n18,V.int
 n19,V.vec .plain (some 3) l20],V.bool b23]) r13.snd)) fun p24=>none)) (bc (k0==3) (bc (i==IntKind.i64.wrap ((↑ys.length:Int)-1)) (Za (O.call 94 [V.agg
 [V.int k,V.int h,V.vec .plain (some 3) xs],V.int (IntKind.i64.wrap (ar+1)),V.fn g a b] st) fun r25=>Zj r25.fst (fun v26=>Z2 v26 fun c27=>Ze c27 fun v28 c29
 =>Zc [CT.int,CT.int,CT.slice (some 3)] v28 fun n30 n31 l32=>Ze c29 fun v33 c34=>Zm v33 fun b35=>Zh c34 (Y6 (List.length st) (V.tup [V.agg [V.int n30,
 V.int n31,V.vec .plain (some 3) l32],V.bool b35]) r25.snd)) fun p36=>none) (Za (O.call 94 [V.agg [V.int k,V.int h,V.vec .plain (some 3) xs],V.int ar,V.fn g
 a b] st) fun r37=>Zj r37.fst (fun v38=>Z2 v38 fun c39=>Ze c39 fun v40 c41=>Zc [CT.int,CT.int,CT.slice (some 3)] v40 fun n42 n43 l44=>Ze c41 fun v45
 c46=>Zm v45 fun b47=>Zh c46 (Y6 (List.length st) (V.tup [V.agg [V.int n42,V.int n43,V.vec .plain (some 3) l44],V.bool b47]) r37.snd)) fun p48=>none)) (Za
 (O.call 94 [V.agg [V.int k,V.int h,V.vec .plain (some 3) xs],V.int ar,V.fn g a b] st) fun r49=>Zj r49.fst (fun v50=>Z2 v50 fun c51=>Ze c51 fun v52
 c53=>Zc [CT.int,CT.int,CT.slice (some 3)] v52 fun n54 n55 l56=>Ze c53 fun v57 c58=>Zm v57 fun b59=>Zh c58 (Y6 (List.length st) (V.tup [V.agg [V.int
 n54,V.int n55,V.vec .plain (some 3) l56],V.bool b59]) r49.snd)) fun p60=>none)):=by kernel_rfl
theorem zkn(O:Oracle)(n0:Int)(n1:Int)(l2:(List V)):Zf Tryz.prog cfg O 114 [.agg [.int n0, .int n1, .vec .plain (some 3) l2]] []=
 Za (Zr O 24 [V.agg [V.int n0,V.int n1,V.vec .plain (some 3) l2]]) fun r1=>Zm r1 fun b2=>some (Out.ret (V.bool !b2),[]):=by kernel_rfl
theorem zgt(O:Oracle)(n0:Int)(st:St):Zf Tryz.prog cfg O 116 [.int n0] st=
 gd (below (List.length st) (V.ifc 29 (V.int n0))&&Zy (List.length st) (List.take (List.length st) st)) (some (Out.panic (V.ifc 29 (V.int n0)),
 List.take (List.length st) st)):=by kernel_rfl
theorem zko(O:Oracle)(l0:(List V))(n1:Int):Zf Tryz.prog cfg O 117 [.agg [.vec .plain (some 3) l0, .int n1]] []=
 Za (O.loop 117 3 [V.int 0,V.loc true (some 2) (V.agg [V.vec Mode.grow (some 3) [],V.int (IntKind.i64.wrap (n1+1))]),V.vec .plain (some 3) l0,V.loc true (some 2)
 (V.agg [V.vec Mode.full (some 3) [],V.int 0]),V.int (↑l0.length:Int)] []) fun r1=>Xj r1.fst none none (fun i2=>bc (i2.beq 0) (Ze r1.snd.fst fun v3 c4=>YN (some
 2) v3 fun d5 v6=>Ze c4 fun v7 c8=>YN (some 2) v7 fun d9 v10=>Y3 v10 fun c11=>Ze c11 fun v12 c13=>Xc (some 3) v12 fun l14=>Ze c13 fun v15 c16=>
 Zp v15 fun n17=>Zh c16 (Zh c8 (gd (true&&roomFor Tryz.prog 25 (l14.length+1)) (gd (below 0 (V.agg [V.vec .plain (some 3) (l14++[V.agg [V.int 4,V.int 0,
 V.vec .plain (some 3) []]]),V.int n17])&&Zy 0 []) (some (Out.ret (V.agg [V.vec .plain (some 3) (l14++[V.agg [V.int 4,V.int 0,V.vec .plain (some 3) []]]),V.int n17]),
 [])))))) none) fun v18=>none:=by kernel_rfl
theorem zbW(O:Oracle)(n0:Int)(l1:(List V))(n2:Int)(l3:(List V))(v4:V)(n5:Int):Z8 Tryz.prog cfg O 117 3 [.int n0, .loc true (some 2) (.agg [.vec .grow (some 3) l1, .int n2]), .vec .plain (some 3) l3, .loc true (some 2) v4, .int n5] []=
 bc (decide (n0<n5)) (gd (decide (0≤n0)&&decide (n0<(↑l3.length:Int))) (Zc [CT.int,CT.int,CT.slice (some 3)] (ZW l3 n0) fun n1 n2_1 l3_1=>Za (Zr O
 78 [V.agg [V.int n1,V.int n2_1,V.vec .plain (some 3) l3_1],V.int 1,V.int 0]) fun r4=>Zc [CT.int,CT.int,CT.slice (some 3)] r4 fun n5_1 n6 l7=>gd (true&&
 roomFor Tryz.prog 25 (l1.length+[V.agg [V.int n5_1,V.int n6,V.vec .plain (some 3) l7]].length)) (O.2 117 3 [V.int (IntKind.i64.wrap (n0+1)),V.loc true
 (some 2) (V.agg [V.vec Mode.grow (some 3) (l1++[V.agg [V.int n5_1,V.int n6,V.vec .plain (some 3) l7]]),V.int n2]),V.vec .plain (some 3) l3,V.loc true (some 2) v4,V.int n5]
 []))) (some (Ex.exit 0,[V.loc true (some 2) v4,V.loc true (some 2) (V.agg [V.vec Mode.grow (some 3) l1,V.int n2])],[])):=by kernel_rfl
theorem YT(O:Oracle)(r0:Nat)(n1:Int)(n2:Int)(l3:(List V))(l4:(List V))(st:St):Zf Tryz.prog cfg O 118 [.ref r0 0, .agg [.int n1, .int n2, .vec .plain (some 3) l3], .vec .plain (some 3) l4] st=
 bc ((↑l4.length:Int)==0) (Y6 (List.length st) (V.agg [V.int n1,V.int n2,V.vec .plain (some 3) l3]) st) (bc (n1==3) (gd (true&&decide (0<(↑l4.length:Int))) (Zc
 [CT.int,CT.int,CT.slice (some 3)] (ZW l4 0) fun n1 n2 l3_1=>Za (Zr O 24 [V.agg [V.int n1,V.int n2,V.vec .plain (some 3) l3_1]]) fun r4=>Zm r4 fun b5=>
 bc (!b5) (Za (O.call 116 [V.int 4] st) fun r6=>Zj r6.fst (fun v7=>Z2 v7 fun c8=>Zh c8 (gd (true&&decide (0<(↑l3.length:Int))) (Zc [CT.int,
 CT.int,CT.slice (some 3)] (ZW l3 0) fun n9 n10 l11=>gd (true&&decide (1≤(↑l4.length:Int))) (Za (O.call 99 [V.ref r0 0,V.agg [V.int n9,V.int n10,
 V.vec .plain (some 3) l11],V.agg [V.vec .plain (some 3) (List.drop 0 (List.take 1 l4)),V.int 0]] r6.snd) fun r12=>Zj r12.fst (fun v13=>Zc [CT.int,CT.int,CT.slice
 (some 3)] v13 fun n14 n15 l16=>gd (true&&decide (1≤(↑l4.length:Int))&&decide ((↑l4.length:Int)≤(↑l4.length:Int))) (Za (O.call 118 [V.ref r0 0,
 V.agg [V.int n14,V.int n15,V.vec .plain (some 3) l16],V.vec .plain (some 3) (List.drop 1 (List.take (↑l4.length:Int).toNat l4))] r12.snd) fun r17=>Zj r17.fst (fun v18=>
 Zc [CT.int,CT.int,CT.slice (some 3)] v18 fun n19 n20 l21=>Y6 (List.length st) (V.agg [V.int n19,V.int n20,V.vec .plain (some 3) l21]) r17.snd) fun p22=>gd (below
 (List.length st) p22&&Zy (List.length st) (List.take (List.length st) r17.snd)) (some (Out.panic p22,List.take (List.length st) r17.snd)))) fun p23=>gd (true&&decide
 (1≤(↑l4.length:Int))&&decide ((↑l4.length:Int)≤(↑l4.length:Int))) (gd (below (List.length st) p23&&Zy (List.length st) (List.take (List.length st) r12.snd))
 (some (Out.panic p23,List.take (List.length st) r12.snd))))))) fun p24=>gd (below (List.length st) p24&&Zy (List.length st) (List.take (List.length st) r6.snd)) (some
 (Out.panic p24,List.take (List.length st) r6.snd))) (gd (true&&decide (0<(↑l3.length:Int))) (Zc [CT.int,CT.int,CT.slice (some 3)] (ZW l3 0) fun n25 n26 l27=>gd
 (true&&decide (1≤(↑l4.length:Int))) (Za (O.call 99 [V.ref r0 0,V.agg [V.int n25,V.int n26,V.vec .plain (some 3) l27],V.agg [V.vec .plain (some 3)
 (List.drop 0 (List.take 1 l4)),V.int 0]] st) fun r28=>Zj r28.fst (fun v29=>Zc [CT.int,CT.int,CT.slice (some 3)] v29 fun n30 n31 l32=>gd (true&&decide (1≤
 (↑l4.length:Int))&&decide ((↑l4.length:Int)≤(↑l4.length:Int))) (Za (O.call 118 [V.ref r0 0,V.agg [V.int n30,V.int n31,V.vec .plain (some 3) l32],
 V.vec .plain (some 3) (List.drop 1 (List.take (↑l4.length:Int).toNat l4))] r28.snd) fun r33=>Zj r33.fst (fun v34=>Zc [CT.int,CT.int,CT.slice (some 3)] v34 fun n35
 n36 l37=>Y6 (List.length st) (V.agg [V.int n35,V.int n36,V.vec .plain (some 3) l37]) r33.snd) fun p38=>gd (below (List.length st) p38&&Zy (List.length st) (List.take
 (List.length st) r33.snd)) (some (Out.panic p38,List.take (List.length st) r33.snd)))) fun p39=>gd (true&&decide (1≤(↑l4.length:Int))&&decide ((↑l4.length:Int)≤
 (↑l4.length:Int))) (gd (below (List.length st) p39&&Zy (List.length st) (List.take (List.length st) r28.snd)) (some (Out.panic p39,List.take (List.length st)
 r28.snd)))))))) (bc (n1==4) (Za (Zr O 124 [V.vec .plain none [V.vec .plain (some 3) l3,V.vec .plain (some 3) l4]]) fun r40=>ZU (some 3)
 r40 fun l41=>Y6 (List.length st) (V.agg [V.int n1,V.int n2,V.vec .plain (some 3) l41]) st) (bc (n1==5) (Za (Zr O 124 [V.vec .plain none
 [V.vec .plain (some 3) l3,V.vec .plain (some 3) l4]]) fun r42=>ZU (some 3) r42 fun l43=>Y6 (List.length st) (V.agg [V.int n1,V.int n2,V.vec .plain (some 3) l43]) st)
 (bc (n1==2) (Za (Zr O 124 [V.vec .plain none [V.vec .plain (some 3) l3,V.vec .plain (some 3) l4]]) fun r44=>ZU (some 3) r44 fun l45=>
 Y6 (List.length st) (V.agg [V.int n1,V.int n2,V.vec .plain (some 3) l45]) st) (Za (O.call 116 [V.int 3] st) fun r46=>Zj r46.fst (fun v47=>Z2 v47 fun c48
 =>Zh c48 (Y6 (List.length st) (V.agg [V.int n1,V.int n2,V.vec .plain (some 3) l3]) r46.snd)) fun p49=>gd (below (List.length st) p49&&Zy (List.length st)
 (List.take (List.length st) r46.snd)) (some (Out.panic p49,List.take (List.length st) r46.snd))))))):=by kernel_rfl
theorem zqa(O:Oracle)(l0:(List V))(n1:Int)(n2:Int):Zf Tryz.prog cfg O 119 [.agg [.vec .plain (some 3) l0, .int n1], .int n2] []=
 bc (decide (n2<(↑l0.length:Int))) (gd (decide (0≤IntKind.i64.wrap (IntKind.i64.wrap ((↑l0.length:Int)-1)-n2))&&decide (IntKind.i64.wrap (IntKind.i64.wrap
 ((↑l0.length:Int)-1)-n2)<(↑l0.length:Int))) (Zc [CT.int,CT.int,CT.slice (some 3)] (ZW l0 (IntKind.i64.wrap (IntKind.i64.wrap ((↑l0.length:Int)-1)-n2)))
 fun n1 n2 l3=>Za (Zr O 93 [V.agg [V.int n1,V.int n2,V.vec .plain (some 3) l3]]) fun r4=>Zc [CT.int,CT.int,CT.slice (some 3)] r4 fun n5 n6 l7=>gd
 (below 0 (V.agg [V.int n5,V.int n6,V.vec .plain (some 3) l7])&&true) (some (Out.ret (V.agg [V.int n5,V.int n6,V.vec .plain (some 3) l7]),[])))) (some (Out.ret (V.agg [V.int
 4,V.int (IntKind.i64.wrap (IntKind.i64.wrap (n2-(↑l0.length:Int))+n1)),V.vec .plain (some 3) []]),[])):=by kernel_rfl
theorem Jm(O:Oracle)(l0:(List V)):Zf Tryz.prog cfg O 124 [.vec .plain none l0] []=
 Za (O.loop 124 3 [V.int 0,V.int 0,V.vec .plain none l0,V.vec .plain none l0,V.int (↑l0.length:Int)] []) fun r1=>Xj r1.fst none none (fun
 i2=>bc (i2.beq 0) (Ze r1.snd.fst fun v3 c4=>ZU none v3 fun l5=>Ze c4 fun v6 c7=>Zp v6 fun n8=>Zh c7 (gd (decide (0≤n8)&&roomFor Tryz.prog
 25 n8.toNat&&true&&true&&true) (Za (O.loop 124 11 [V.int 0,V.vec Mode.grow (some 3) [],V.vec .plain none l5,V.int (↑l5.length
 :Int)] r1.snd.snd) fun r9=>Xj r9.fst none none (fun i10=>bc (i10.beq 2) (Ze r9.snd.fst fun v11 c12=>Xc (some 3) v11 fun l13=>Zh c12 (gd (below 0 (V.vec
 .plain (some 3) l13)&&Zy 0 []) (some (Out.ret (V.vec .plain (some 3) l13),[])))) none) fun v14=>none))) none) fun v15=>none:=by kernel_rfl
theorem Y2(O:Oracle)(n0:Int)(n1:Int)(l2:(List V))(l3:(List V))(n4:Int):Z8 Tryz.prog cfg O 124 3 [.int n0, .int n1, .vec .plain none l2, .vec .plain none l3, .int n4] []=
 bc (decide (n0<n4)) (gd (decide (0≤n0)&&decide (n0<(↑l2.length:Int))) (ZU (some 3) (ZW l2 n0) fun l1=>bc (decide (IntKind.i64.wrap (n1+(↑l1.length:Int))<0))
 (some (Ex.panic (V.ifc 9 (V.str {data:= #[108,101,110,32,111,117,116,32,111,102,32,114,97,110,103,101]})),[V.vec .plain none l3,V.int
 (IntKind.i64.wrap (n1+(↑l1.length:Int)))],[])) (O.2 124 3 [V.int (IntKind.i64.wrap (n0+1)),V.int (IntKind.i64.wrap (n1+(↑l1.length:
 Int))),V.vec .plain none l2,V.vec .plain none l3,V.int n4] []))) (some (Ex.exit 0,[V.vec .plain none l3,V.int n1],[])):=by kernel_rfl
theorem Yy(O:Oracle)(n0:Int)(l1:(List V))(l2:(List V))(n3:Int):Z8 Tryz.prog cfg O 124 11 [.int n0, .vec .grow (some 3) l1, .vec .plain none l2, .int n3] []=
 bc (decide (n0<n3)) (gd (decide (0≤n0)&&decide (n0<(↑l2.length:Int))) (ZU (some 3) (ZW l2 n0) fun l1_1=>gd (true&&roomFor Tryz.prog 25 (l1.length+
 l1_1.length)) (O.2 124 11 [V.int (IntKind.i64.wrap (n0+1)),V.vec Mode.grow (some 3) (l1++l1_1),V.vec .plain none l2,V.int n3] []))) (some
 (Ex.exit 2,[V.vec Mode.grow (some 3) l1],[])):=by kernel_rfl
end Go.Proofs.SZ
namespace Go.Proofs.SZ
open Go Go.AM
set_option maxRecDepth 20000
theorem zqb(O:Oracle)(n0:Int)(n1:Int)(l2:(List V)):Zf Tryz.prog cfg O 93 [.agg [.int n0, .int n1, .vec .plain (some 3) l2]] []=
 Za (O.loop 93 3 [V.int 0,V.vec Mode.grow (some 3) [],V.vec .plain (some 3) l2,V.loc true (some 3) (V.agg [V.int 0,V.int 0,V.vec Mode.full (some 3) []]),V.loc
 false (some 3) (V.agg [V.int n0,V.int n1,V.vec .plain (some 3) l2]),V.int (↑l2.length:Int)] []) fun r1=>Xj r1.fst none none (fun i2=>bc (i2.beq 0) (Ze r1.snd.fst
 fun v3 c4=>YN (some 3) v3 fun d5 v6=>Ze c4 fun v7 c8=>Xc (some 3) v7 fun l9=>Ze c8 fun v10 c11=>YN (some 3) v10 fun d12 v13=>Zc [CT.int,
 CT.int,CT.slice (some 3)] (bif d12 then Zo v13 else v13) fun n14 n15 l16=>Zh c11 (gd (below 0 (V.agg [V.int n14,V.int n15,V.vec .plain (some 3) l9])&&Zy 0 [])
 (some (Out.ret (V.agg [V.int n14,V.int n15,V.vec .plain (some 3) l9]),[])))) none) fun v17=>none:=by kernel_rfl
theorem zeV(O:Oracle)(n0:Int)(l1:(List V))(l2:(List V))(v3:V)(n4:Int)(n5:Int)(l6:(List V))(n7:Int):Z8 Tryz.prog cfg O 93 3 [.int n0, .vec .grow (some 3) l1, .vec .plain (some 3) l2, .loc true (some 3) v3, .loc false (some 3) (.agg [.int n4, .int n5, .vec .plain (some 3) l6]), .int n7] []=
 bc (decide (n0<n7)) (gd (decide (0≤n0)&&decide (n0<(↑l2.length:Int))) (Zc [CT.int,CT.int,CT.slice (some 3)] (ZW l2 n0) fun n1 n2 l3=>Za (Zr O
 93 [V.agg [V.int n1,V.int n2,V.vec .plain (some 3) l3]]) fun r4=>Zc [CT.int,CT.int,CT.slice (some 3)] r4 fun n5_1 n6 l7=>gd (true&&roomFor Tryz.prog
 25 (l1.length+[V.agg [V.int n5_1,V.int n6,V.vec .plain (some 3) l7]].length)) (O.2 93 3 [V.int (IntKind.i64.wrap (n0+1)),V.vec Mode.grow (some 3) (l1++
 [V.agg [V.int n5_1,V.int n6,V.vec .plain (some 3) l7]]),V.vec .plain (some 3) l2,V.loc true (some 3) v3,V.loc false (some 3) (V.agg [V.int n4,V.int n5,V.vec .plain (some 3)
 l6]),V.int n7] []))) (some (Ex.exit 0,[V.loc true (some 3) v3,V.vec Mode.grow (some 3) l1,V.loc false (some 3) (V.agg [V.int n4,V.int n5,V.vec .plain (some 3) l6])],[])):=by kernel_rfl
end Go.Proofs.SZ
namespace Go.Proofs.SZ
open Go Go.AM Go.Ama
theorem zle: ∀t:T,t.size≤1099511627776→Ev 93 [enc t] (enc t):=by
 intro t
 induction t using T.ind with
 |_ k h xs ih=>
  intro hs
  simp only[T.size]at hs
  have hlen:=Z0 xs
  unfold Ev
  rw[C,enc,zqb]
  have hl:=JG (n:=xs.length) (L:=fun i=>W.loop 93 3 [V.int (i:Nat),V.vec .grow (some 3) (Zl (xs.take i)),V.vec .plain (some 3) (Zl xs),V.loc true (some 3) (V.agg [V.int 0,V.int 0,V.vec Mode.full (some 3) []]),V.loc false (some 3) (V.agg [V.int k,V.int h,V.vec .plain (some 3) (Zl xs)]),V.int xs.length] [])
   (r:=some (Ex.exit 0,[V.loc true (some 3) (V.agg [V.int 0,V.int 0,V.vec Mode.full (some 3) []]),V.vec .grow (some 3) (Zl xs),V.loc false (some 3) (V.agg [V.int k,V.int h,V.vec .plain (some 3) (Zl xs)])],[]))
   (fun i hi=>by
    have hp:=(ih xs[i] (List.getElem_mem hi) (by have:=size_le (List.getElem_mem hi);omega)).p
    have hr:roomFor Tryz.prog 25 (i+1)=true:=zcz (by omega)
    show W.loop _ _ _ _=_
    rw[L,zeV]
    simp only[Zt,ZS hi,ZB,←Zd,hp,Za,zaN hi]
    rw[Z9 ⟨by omega,by omega⟩]
    have hmin:min i xs.length=i:=by omega
    have hlt:decide ((i:Int)<xs.length)=true:=by simp;omega
    have h0:decide ((0:Int)≤i)=true:=by simp
    simp only[hlt,h0,Zq,Z6,Bool.and_self,zdz,zgf,List.length_singleton,List.length_take,hmin,hr,Zt,Bool.true_and,Int.natCast_add,Int.natCast_one])
   (by
    have hlt:decide ((xs.length:Int)<xs.length)=false:=by simp
    show W.loop _ _ _ _=_
    rw[L,zeV,hlt,List.take_length];rfl)
  have hl':W.loop 93 3 [V.int 0,V.vec .grow (some 3) [],V.vec .plain (some 3) (Zl xs),V.loc true (some 3) (V.agg [V.int 0,V.int 0,V.vec Mode.full (some 3) []]),V.loc false (some 3) (V.agg [V.int k,V.int h,V.vec .plain (some 3) (Zl xs)]),V.int xs.length] []=some (Ex.exit 0,[V.loc true (some 3) (V.agg [V.int 0,V.int 0,V.vec Mode.full (some 3) []]),V.vec .grow (some 3) (Zl xs),V.loc false (some 3) (V.agg [V.int k,V.int h,V.vec .plain (some 3) (Zl xs)])],[]):=hl
  simp only[Zt,hl',Zb,za1,YO,zkF,zn6,ZH,cond_false,zmb,zdz,zma,zgf,below,Zi,Zy,QV,Bool.and_self,Z6]
  rfl
theorem zu4(b f h ar:Int)(h1:I64 (f+ar)):Ev 95 [.agg [.int b, .int f], .int h, .int ar] (.tup [.int (upV b f ar h), .bool true]):=by
 unfold Ev
 rw[C,ze6]
 rw[Z9 h1]
 unfold upV
 by_cases hc:f+ar≤h
 ·have:decide (h≥f+ar)=true:=by simpa using hc
  simp[hc,Zq]
 ·have:decide (h≥f+ar)=false:=by simpa using hc
  simp[hc]
abbrev upF(b f:Int):V:= .fn 95 [.agg [.int b, .int f]] []
theorem zu5:cfg.pure 95=true:=by kernel_rfl
theorem zm3:cfg.pure 113=false:=by kernel_rfl
theorem zou(b f:Int)(hf:0≤f∧f≤1048576): ∀(t:T) (ar:Int) (st:St),t.size≤1099511627776→0≤ar→ar+t.depth≤1099511627776→
  W.call 94 [enc t, .int ar,upF b f] st=some (.ret (.tup [enc (upT b f ar t), .bool true]),st):=by
 intro t
 induction t using T.ind with
 |_ k h xs ih=>
  intro ar st hs h0 hd
  simp only[T.size,T.depth]at hs hd
  have hlen:=Z0 xs
  have hdep: ∀x∈xs,x.depth≤ZG xs:=fun x hx=>zgq hx
  have h1: ∀(i:Nat) (hi:i<xs.length),W.call 113 [.int (i:Int),enc xs[i], .cptr none (.int ar), .cptr (some 3) (.agg [.int k, .int h, .vec .plain (some 3) (Zl xs)]), .cptr none (upF b f)] st=
    some (.ret (.tup [enc (upT b f (if bindsB k&&decide (i+1=xs.length)then ar+1 else ar) xs[i]), .bool true]),st):=by
   intro i hi
   have hx:=List.getElem_mem hi
   have hsz:=size_le hx
   have hdx:=hdep _ hx
   have c1:=ih xs[i] hx (ar+1) st (by omega) (by omega) (by omega)
   have c0:=ih xs[i] hx ar st (by omega) h0 (by omega)
   rw[C,Zd xs[i],zhk]
   rw[Zt,Z9 (n:=ar+1) ⟨by omega,by omega⟩,Z9 (n:=(xs.length:Int)-1) ⟨by omega,by omega⟩,←Zd]
   have hlast:((i:Int)==(xs.length:Int)-1)=decide (i+1=xs.length):=by rw[Yf];congr 1;apply propext;omega
   rw[hlast]
   unfold bindsB
   simp only[Yf]
   by_cases k1:k=1
   ·by_cases hl:i+1=xs.length
    ·simp[k1,hl,c1,Yj,←Zd]
    ·simp[k1,hl,c0,Yj,←Zd]
   ·by_cases k3:k=3
    ·by_cases hl:i+1=xs.length
     ·simp[k3,hl,c1,Yj,←Zd]
     ·simp[k3,hl,c0,Yj,←Zd]
    ·simp[k1,k3,c0,Yj,←Zd]
  have hul:(ups b f ar (bindsB k) xs).length=xs.length:=JL ..
  have hl:=JG (n:=xs.length) (L:=fun i=>W.loop 112 3 [V.int (i:Nat),V.vec .grow (some 3) (Zl ((ups b f ar (bindsB k) xs).take i)), .fn 113 [] [.cptr none (.int ar), .cptr (some 3) (.agg [.int k, .int h, .vec .plain (some 3) (Zl xs)]), .cptr none (upF b f)],V.vec .plain (some 3) (Zl xs),V.int xs.length] st)
   (r:=some (Ex.exit 0,[V.vec .grow (some 3) (Zl (ups b f ar (bindsB k) xs))],st))
   (fun i hi=>by
    have hp:=h1 i hi
    have hr:roomFor Tryz.prog 25 (i+1)=true:=zcz (by omega)
    have hi':i<(ups b f ar (bindsB k) xs).length:=by rw[hul];exact hi
    show W.loop _ _ _ _=_
    rw[L,QK,zaN hi',zqF b f ar (bindsB k) xs i hi]
    rw[Z9 ⟨by omega,by omega⟩]
    have hmin:min i xs.length=i:=by omega
    have hlt:decide ((i:Int)<xs.length)=true:=by simp;omega
    have h0:decide ((0:Int)≤i)=true:=by simp
    simp[hlt,ZS hi,zm3,←Zd,hp,hr,hmin,hul,h0,hi])
   (by
    have hlt:decide ((xs.length:Int)<xs.length)=false:=by simp
    show W.loop _ _ _ _=_
    rw[L,QK,hlt,List.take_of_length_le (by omega)];rfl)
  have hl':W.loop 112 3 [V.int 0,V.vec .grow (some 3) [], .fn 113 [] [.cptr none (.int ar), .cptr (some 3) (.agg [.int k, .int h, .vec .plain (some 3) (Zl xs)]), .cptr none (upF b f)],V.vec .plain (some 3) (Zl xs),V.int xs.length] st=some (Ex.exit 0,[V.vec .grow (some 3) (Zl (ups b f ar (bindsB k) xs))],st):=hl
  have he:W.call 112 [.vec .plain (some 3) (Zl xs), .fn 113 [] [.cptr none (.int ar), .cptr (some 3) (.agg [.int k, .int h, .vec .plain (some 3) (Zl xs)]), .cptr none (upF b f)]] st=some (.ret (.tup [.vec .plain (some 3) (Zl (ups b f ar (bindsB k) xs)), .bool true]),st):=by
   rw[C,zcT]
   simp[hl',Yj]
  rw[C,enc,zjv]
  by_cases k4:k=4
  ·have hu:=(zu4 b f h ar ⟨by omega,by omega⟩).p
   simp[k4,zu5,hu,Yj,upT,enc]at he⊢
   simp[he,Yj]
  ·simp[k4,he,Yj,upT,enc]
end Go.Proofs.SZ
namespace Go.Proofs.SZ
open Go Go.AM Go.Ama
theorem zkp(t:T)(b f:Int)(hs:t.size≤1099511627776):Ev 92 [enc t, .int b, .int f] (.bool (may t&&(decide (0≤b)&&(decide (b≤1048576)&&(decide (0≤f)&&decide (f≤1048576)))))):=by
 have h1:=(Qk t hs).p
 unfold Ev
 rw[C,Zd,zos,←Zd,h1]
 cases may t
 ·rfl
 ·by_cases a1:0≤b<;>by_cases a2:b≤1048576<;>by_cases a3:0≤f<;>simp[a1,a2,a3]
theorem zqM(t:T)(b f:Int)(hs:t.size≤1099511627776):Ev 78 [enc t, .int b, .int f] (enc (upP t b f)):=by
 have h1:=(zkp t b f hs).p
 have h2:=(zle t hs).p
 unfold Ev
 rw[C,Zd t,zpZ,←Zd,h1]
 unfold upP
 by_cases hm:(may t&&(decide (0≤b)&&(decide (b≤1048576)&&(decide (0≤f)&&decide (f≤1048576)))))=true
 ·rw[hm]
  simp only[Bool.and_eq_true,decide_eq_true_eq]at hm
  have hd:(t.depth:Int)≤1099511627776:=by have:=zeP t;omega
  have h3:=zou b f hm.2.2.2 t 0 [] hs (by omega) (by omega)
  simp[h3,←Zd]
  simp[below,Zi,Zy,gd]
 ·have hm':(may t&&(decide (0≤b)&&(decide (b≤1048576)&&(decide (0≤f)&&decide (f≤1048576)))))=false:=by simpa using hm
  rw[hm']
  simp[h2,←Zd]
theorem zqc{g:Nat}{a b:List V}(hp:cfg.pure g=true){p:T→Bool}(xs:List T)(hs:xs.length≤1099511627776)(hg: ∀t∈xs,Zr W g (a++[enc t]++b)=some (.bool (p t)))(st:St):
  ∀(n i:Nat),xs.length-i=n→i≤xs.length→(∃j:Nat,(xs.drop i).any p=true∧W.loop 74 2 [.int (i:Int), .vec .plain (some 3) (Zl xs), .fn g a b, .int xs.length] st=some (.ret,[.int (j:Int)],st))∨
   ((xs.drop i).any p=false∧W.loop 74 2 [.int (i:Int), .vec .plain (some 3) (Zl xs), .fn g a b, .int xs.length] st=some (.exit 0,[],st)):=by
 intro n
 induction n with
 |zero=>
  intro i hn hi
  have:i=xs.length:=by omega
  subst this
  right
  refine⟨by simp, ?_⟩
  rw[L,YW]
  simp
 |succ n ih=>
  intro i hn hi
  have hlt:i<xs.length:=by omega
  have hx:=hg xs[i] (List.getElem_mem hlt)
  have hd:xs.drop i=xs[i]::xs.drop (i+1):=List.drop_eq_getElem_cons hlt
  have hstep:W.loop 74 2 [.int (i:Int), .vec .plain (some 3) (Zl xs), .fn g a b, .int xs.length] st=
    bc (p xs[i]) (some (.ret,[.int (i:Int)],st)) (W.loop 74 2 [.int ((i+1:Nat):Int), .vec .plain (some 3) (Zl xs), .fn g a b, .int xs.length] st):=by
   rw[L,YW]
   rw[Z9 ⟨by omega,by omega⟩]
   have h1:(i:Int)<xs.length:=by omega
   simp[h1,ZS hlt,←Zd,hp,hx]at hx⊢
   simp[hx]
  rw[hstep,hd,List.any_cons]
  cases hpx:p xs[i]with
  |true=>exact .inl ⟨i,rfl,rfl⟩
  |false=>
   simp only[bc,Bool.false_or]
   exact ih (i+1) (by omega) (by omega)
theorem zeW{g:Nat}{a b:List V}(hp:cfg.pure g=true){p:T→Bool}(xs:List T)(hs:xs.length≤1099511627776)(hg: ∀t∈xs,Zr W g (a++[enc t]++b)=some (.bool (p t)))(st:St):
  W.call 38 [.vec .plain (some 3) (Zl xs), .fn g a b] st=some (.ret (.bool (xs.any p)),st):=by
 have h:=zqc hp xs hs hg st _ 0 rfl (Nat.zero_le _)
 rw[C,Qq,C,QH]
 simp only[List.drop_zero,Int.natCast_zero]at h
 rcases h with⟨j,h1,h2⟩|⟨h1,h2⟩
 ·simp[h2,h1,Yj]
 ·simp[h2,h1,Yj]
theorem zsd:cfg.pure 114=true:=by kernel_rfl
theorem zqd(t:T)(hs:t.size≤1099511627776):Ev 114 [enc t] (.bool (!may t)):=by
 have h1:=(Qk t hs).p
 unfold Ev
 rw[C,Zd,zkn,←Zd,h1]
 rfl
theorem zse(l:List T)(s:Int)(hs:sizes l≤1099511627776):Ev 96 [.agg [.vec .plain (some 3) (Zl l), .int s]] (.bool (zeT l s)):=by
 have hc:=zeW (p:=fun t=> !may t) zsd (a:=[]) (b:=[]) l (by have:=Z0 l;omega) (fun t ht=>(zqd t (by have:=size_le ht;omega)).p) []
 unfold Ev
 rw[C,zot]
 unfold zeT
 have hall:(l.any fun t=> !may t)= !l.all may:=by
  simp[List.not_all_eq_any_not]
 by_cases a1:l.length≤200
 ·have a1':(l.length:Int)≤200:=by omega
  by_cases a2:0≤s<;>by_cases a3:s≤1048576<;>simp[a1,a1',a2,a3,hc,hall]
 ·have a1': ¬(l.length:Int)≤200:=by omega
  simp[a1,a1']
end Go.Proofs.SZ
namespace Go.Proofs.SZ
open Go Go.AM Go.Ama
abbrev J3(l:List T)(s:Int):V:= .agg [.vec .plain (some 3) (Zl l), .int s]
theorem QY(n:Nat): ∀a b:List V,Zi n (a++b)=(Zi n a&&Zi n b)
 |[],b=>by simp[Zi]
 |x::a,b=>by simp[Zi,QY n a b,Bool.and_assoc]
theorem zqe(l:List T)(s:Int)(hs:sizes l≤1099511627776):Ev 117 [J3 l s] (J3 (zjl l) (zc1 s)):=by
 have hlen:=Z0 l
 have hl:=JG (n:=l.length) (L:=fun i=>W.loop 117 3 [V.int (i:Nat),V.loc true (some 2) (V.agg [V.vec .grow (some 3) (Zl ((l.map fun t=>upP t 1 0).take i)),V.int (zc1 s)]),V.vec .plain (some 3) (Zl l),V.loc true (some 2) (V.agg [V.vec Mode.full (some 3) [],V.int 0]),V.int l.length] [])
  (r:=some (Ex.exit 0,[V.loc true (some 2) (V.agg [V.vec Mode.full (some 3) [],V.int 0]),V.loc true (some 2) (V.agg [V.vec .grow (some 3) (Zl (l.map fun t=>upP t 1 0)),V.int (zc1 s)])],[]))
  (fun i hi=>by
   have hp:=(zqM l[i] 1 0 (by have:=size_le (List.getElem_mem hi);omega)).p
   have hr:roomFor Tryz.prog 25 (i+1)=true:=zcz (by omega)
   have hi':i<(l.map fun t=>upP t 1 0).length:=by simpa using hi
   show W.loop _ _ _ _=_
   rw[L,zbW,zaN hi',List.getElem_map]
   rw[Z9 ⟨by omega,by omega⟩]
   have hmin:min i l.length=i:=by omega
   have h1:(i:Int)<l.length:=by omega
   simp[h1,ZS hi,←Zd,hp,hr,hmin])
  (by
   show W.loop _ _ _ _=_
   rw[L,zbW,List.take_of_length_le (by simp)]
   simp)
 have hl':W.loop 117 3 [V.int 0,V.loc true (some 2) (V.agg [V.vec .grow (some 3) [],V.int (zc1 s)]),V.vec .plain (some 3) (Zl l),V.loc true (some 2) (V.agg [V.vec Mode.full (some 3) [],V.int 0]),V.int l.length] []=some (Ex.exit 0,[V.loc true (some 2) (V.agg [V.vec Mode.full (some 3) [],V.int 0]),V.loc true (some 2) (V.agg [V.vec .grow (some 3) (Zl (l.map fun t=>upP t 1 0)),V.int (zc1 s)])],[]):=hl
 have hr:roomFor Tryz.prog 25 (l.length+1)=true:=zcz (by omega)
 unfold Ev
 rw[C,zko]
 show Za (W.loop 117 3 [V.int 0,V.loc true (some 2) (V.agg [V.vec .grow (some 3) [],V.int (zc1 s)]),V.vec .plain (some 3) (Zl l),V.loc true (some 2) (V.agg [V.vec Mode.full (some 3) [],V.int 0]),V.int ((Zl l).length:Nat)] []) _=_
 simp[hl',hr,zjl,J3,below,Zi,Zy,enc,QY]
theorem zu6(l:List T)(s i:Int)(hs:sizes l≤1099511627776)(h0:0≤i)(h1:I64 i):Ev 119 [J3 l s, .int i] (enc (ofT l s i)):=by
 have hlen:=Z0 l
 unfold Ev ofT
 rw[C,zqa]
 by_cases hi:i<l.length
 ·have hj:l.length-1-i.toNat<l.length:=by omega
  have hj2:(l.length:Int)-1-i=((l.length-1-i.toNat:Nat):Int):=by omega
  have ho:=(zle (l[l.length-1-i.toNat]) (by have:=size_le (List.getElem_mem hj);omega)).p
  have hd:l.getD (l.length-1-i.toNat) (.mk 0 0 [])=l[l.length-1-i.toNat]:=by rw[List.getD_eq_getElem?_getD,List.getElem?_eq_getElem hj];rfl
  rw[if_pos hi,hd,Zt,Z9 (n:=(l.length:Int)-1) ⟨by omega,by omega⟩,hj2,Z9 ⟨by omega,by omega⟩]
  have h2:((l.length-1-i.toNat:Nat):Int)<l.length:=by omega
  simp only[ZS hj]
  simp[hi,h2,←Zd,ho,below,Zi]
 ·rw[if_neg hi]
  have h2: ¬i<((Zl l).length:Int):=by rw[Zt];exact hi
  simp[hi,enc]
theorem zov(xs ys:List T)(hs:xs.length+ys.length≤2199023255552):Ev 124 [.vec .plain none [.vec .plain (some 3) (Zl xs), .vec .plain (some 3) (Zl ys)]] (.vec .plain (some 3) (Zl (xs++ys))):=by
 have r1:roomFor Tryz.prog 25 (xs.length+ys.length)=true:=zcz hs
 have r2:roomFor Tryz.prog 25 xs.length=true:=zcz (by omega)
 have a1:IntKind.i64.wrap (0+(xs.length:Int))=xs.length:=by rw[Z9 ⟨by omega,by omega⟩];omega
 have a2:IntKind.i64.wrap ((xs.length:Int)+ys.length)=(xs.length:Int)+ys.length:=Z9 ⟨by omega,by omega⟩
 have w1:IntKind.i64.wrap (0+1)=1:=by decide
 have w2:IntKind.i64.wrap (1+1)=2:=by decide
 have n1: ¬(xs.length:Int)<0:=by omega
 have n2: ¬(xs.length:Int)+ys.length<0:=by omega
 have n3:(0:Int)≤(xs.length:Int)+ys.length:=by omega
 have t2:((xs.length:Int)+ys.length).toNat=xs.length+ys.length:=by omega
 have g0: ∀(a b:V),ZW [a,b] 0=a:=fun _ _=>rfl
 have g1: ∀(a b:V),ZW [a,b] 1=b:=fun _ _=>rfl
 unfold Ev
 rw[C,Jm]
 have L1:W.loop 124 3 [V.int 0,V.int 0,V.vec .plain none [.vec .plain (some 3) (Zl xs), .vec .plain (some 3) (Zl ys)],V.vec .plain none [.vec .plain (some 3) (Zl xs), .vec .plain (some 3) (Zl ys)],V.int 2] []=
   some (.exit 0,[V.vec .plain none [.vec .plain (some 3) (Zl xs), .vec .plain (some 3) (Zl ys)],V.int ((xs.length:Int)+ys.length)],[]):=by
  rw[L,Y2,g0,w1]
  simp only[ZU,if_true,Zt,a1]
  simp[n1]
  rw[L,Y2,g1,w2]
  simp only[ZU,if_true,Zt,a2]
  simp[n2]
  rw[L,Y2]
  simp
 have L2:W.loop 124 11 [V.int 0,V.vec .grow (some 3) [],V.vec .plain none [.vec .plain (some 3) (Zl xs), .vec .plain (some 3) (Zl ys)],V.int 2] []=some (.exit 2,[V.vec .grow (some 3) (Zl (xs++ys))],[]):=by
  rw[L,Yy,g0,w1]
  simp only[ZU,if_true,Zt]
  simp[r2]
  rw[L,Yy,g1,w2]
  simp only[ZU,if_true,Zt]
  simp[r1]
  rw[L,Yy]
  simp
 have e2:((([.vec .plain (some 3) (Zl xs), .vec .plain (some 3) (Zl ys)]:List V).length:Nat):Int)=2:=rfl
 rw[e2,L1]
 simp only[Zb,za1,Nat.beq_eq_true_eq,YO,ZU,if_true,ZH,ZO,e2,L2]
 simp[n3,t2,r1,QY,below,Zy,L2,e2]
end Go.Proofs.SZ
namespace Go.Proofs.SZ
open Go Go.AM Go.Ama
abbrev bx0:Res:= .box [.int 0, .int 0, .vec .full (some 3) []]
abbrev bx1:Res:= .box [.int 0]
abbrev wst(n:Nat):St:=[bx0,bx1, .box [.int (n:Int)]]
abbrev zsf(e:Int):V:= .ifc 29 (.int e)
section
variable{R:Type}
@[simp] theorem zhl(x y z:Res)(st:St)(K:Res→Option R):Z4 (x::y::z::st) 2 K=K z:=rfl
@[simp] theorem JM(l:List V)(K:List V→Option R):Z1 (.box l) K=K l:=rfl
@[simp] theorem zlf(n:Int):Zo (AM.partOf [.int n] 0 none)= .int n:=rfl
@[simp] theorem zqN(a b:V):setCells [a] 0 [b]=[b]:=rfl
@[simp] theorem zwO(l:List T)(s:Int)(K:List V→Int→Option R):Zc (R:=R) [CT.slice (some 3),CT.int] (.agg [.vec .plain (some 3) (Zl l), .int s]) K=K (Zl l) s:=rfl
end
theorem zhm(e:Int)(n:Nat):W.call 116 [.int e] (wst n)=some (.panic (zsf e),wst n):=by
 rw[C,zgt];rfl
def RT(o:Oj)(r:Option (Out×St)):Prop:=
 match o with
 | .t t m=>r=some (.ret (enc t),wst m)
 | .e e=> ∃m:Nat,r=some (.panic (zsf e),wst m)
 | .l _ _=>False
noncomputable def lp6(i:Nat)(k h:Int)(acc xs l:List T)(s:Int)(v:V)(n:Nat):Option (Ex×List V×St):=
 W.loop 99 6 [.int (i:Int), .loc true (some 3) (.agg [.int k, .int h, .vec .grow (some 3) (Zl acc)]), .ref 2 0, .loc false (some 2) (.agg [.vec .plain (some 3) (Zl l), .int s]), .loc false (some 3) (.agg [.int k, .int h, .vec .plain (some 3) (Zl xs)]), .vec .plain (some 3) (Zl xs), .loc true (some 3) v, .int xs.length] (wst n)
def Sat:Job→Oj→Prop
 | .ap n t l s,o=>RT o (W.call 99 [.ref 2 0,enc t,J3 l s] (wst n))
 | .sp n t ys,o=>RT o (W.call 118 [.ref 2 0,enc t, .vec .plain (some 3) (Zl ys)] (wst n))
 | .ar n bd ts l s,o=> ∀(k h:Int) (xs acc:List T) (i:Nat) (v:V),xs.drop i=ts→bd=bindsB k→acc.length=i→i≤xs.length→xs.length≤1099511627776→
   match o with
   | .l ys m=>lp6 i k h acc xs l s v n=some (.exit 0,[.loc true (some 3) v, .loc true (some 3) (.agg [.int k, .int h, .vec .grow (some 3) (Zl (acc++ys))]), .loc false (some 3) (.agg [.int k, .int h, .vec .plain (some 3) (Zl xs)]), .loc false (some 2) (.agg [.vec .plain (some 3) (Zl l), .int s]), .ref 2 0],wst m)
   | .e e=> ∃(m:Nat) (vs:List V),lp6 i k h acc xs l s v n=some (.panic (zsf e),vs,wst m)
   | .t _ _=>False
theorem zjw(i:Nat)(k h:Int)(acc xs l:List T)(s:Int)(v:V)(n:Nat)(hi:i<xs.length)(hx:xs.length≤1099511627776)(hl:sizes l≤1099511627776)(hacc:acc.length=i):
  ∃vs,lp6 i k h acc xs l s v n=Za (W.call 99 [.ref 2 0,enc xs[i],J3 (belowL' (bindsB k) (xs.drop (i+1)) l) (belowS' (bindsB k) (xs.drop (i+1)) s)] (wst n)) fun r=>Zj r.1 (fun u=>Zc [CT.int,CT.int,CT.slice (some 3)] u fun a b c=>
   W.loop 99 6 [.int ((i+1:Nat):Int), .loc true (some 3) (.agg [.int k, .int h, .vec .grow (some 3) (Zl acc++[.agg [.int a, .int b, .vec .plain (some 3) c]])]), .ref 2 0, .loc false (some 2) (.agg [.vec .plain (some 3) (Zl l), .int s]), .loc false (some 3) (.agg [.int k, .int h, .vec .plain (some 3) (Zl xs)]), .vec .plain (some 3) (Zl xs), .loc true (some 3) v, .int xs.length] r.2)
   fun p=>some (.panic p,vs,r.2):=by
 have hu:=(zqe l s hl).p
 have hr:roomFor Tryz.prog 25 (i+1)=true:=zcz (by omega)
 have hw:IntKind.i64.wrap ((i:Int)+1)=((i+1:Nat):Int):=by rw[Z9 ⟨by omega,by omega⟩];omega
 have hw2:IntKind.i64.wrap ((xs.length:Int)-1)=(xs.length:Int)-1:=Z9 ⟨by omega,by omega⟩
 have hlt:(i:Int)<xs.length:=by omega
 have hlast:((i:Int)==(xs.length:Int)-1)=(xs.drop (i+1)).isEmpty:=by
  rw[Yf]
  by_cases he:i+1=xs.length
  ·simp[he];omega
  ·have: ¬(i:Int)=(xs.length:Int)-1:=by omega
   simp[this];omega
 unfold lp6
 rw[L,J6]
 refine⟨[.loc true (some 3) v, .loc true (some 3) (.agg [.int k, .int h, .vec .plain (some 3) (Zl acc)]), .loc false (some 3) (.agg [.int k, .int h, .vec .plain (some 3) (Zl xs)]), .loc false (some 2) (.agg [.vec .plain (some 3) (Zl l), .int s]), .ref 2 0], ?_⟩
 rw[Zt,hw2,hw,hlast]
 unfold belowL' belowS' bindsB
 by_cases k1:k=1
 ·cases he:(xs.drop (i+1)).isEmpty
  ·simp[k1,he,hlt,ZS hi,←Zd,hr,hacc]
  ·simp[k1,he,hlt,ZS hi,←Zd,hr,hacc,hu]
 ·by_cases k3:k=3
  ·cases he:(xs.drop (i+1)).isEmpty
   ·simp[k3,he,hlt,ZS hi,←Zd,hr,hacc]
   ·simp[k3,he,hlt,ZS hi,←Zd,hr,hacc,hu]
  ·simp[k1,k3,hlt,ZS hi,←Zd,hr,hacc]
end Go.Proofs.SZ
namespace Go.Proofs.SZ
open Go Go.AM Go.Ama
theorem zu7(k h:Int)(acc xs l:List T)(s:Int)(v:V)(n i:Nat)(hi:i=xs.length):lp6 i k h acc xs l s v n=some (.exit 0,[.loc true (some 3) v, .loc true (some 3) (.agg [.int k, .int h, .vec .grow (some 3) (Zl acc)]), .loc false (some 3) (.agg [.int k, .int h, .vec .plain (some 3) (Zl xs)]), .loc false (some 2) (.agg [.vec .plain (some 3) (Zl l), .int s]), .ref 2 0],wst n):=by
 subst hi
 unfold lp6
 rw[L,J6]
 simp
theorem zjx(n:Nat)(t:T)(l:List T)(s:Int)(hn:n+1≤40000)(ht:t.size≤1099511627776):
  W.call 99 [.ref 2 0,enc t,J3 l s] (wst n)=Za (lp6 0 t.k t.h [] t.args l s (.agg [.int 0, .int 0, .vec .full (some 3) []]) (n+1)) fun r12=>Xj r12.1 none none
   (fun i13=>bc (i13.beq 0) (Ze r12.2.1 fun v14 c15=>YN (some 3) v14 fun d16 v17=>Ze c15 fun v18 c19=>YN (some 3) v18 fun d20 v21=>Y3 v21 fun c22=>
    Ze c22 fun v23 c24=>Zp v23 fun n25=>Ze c24 fun v26 c27=>Zp v26 fun n28=>Ze c27 fun v29 c30=>Xc (some 3) v29 fun l31=>Zh c30 (Ze c19 fun
    v32 c33=>YN (some 3) v32 fun d34 v35=>Zc [CT.int,CT.int,CT.slice (some 3)] (bif d34 then Zo v35 else v35) fun n36 n37 l38=>Ze c33 fun v39 c40=>YN
    (some 2) v39 fun d41 v42=>Zc [CT.slice (some 3),CT.int] (bif d41 then Zo v42 else v42) fun l43 n44=>Ze c40 fun v45 c46=>zcW v45 fun q47=>Zh c46 (bc
    (n36 !=4) (Y6 3 (V.agg [V.int n25,V.int n28,V.vec .plain (some 3) l31]) r12.2.2) (Za (Zr W 119 [V.agg [V.vec .plain (some 3) l43,V.int n44],
    V.int n37]) fun r48=>Zc [CT.int,CT.int,CT.slice (some 3)] r48 fun n49 n50 l51=>Za (W.call 118 [V.ref q47 0,V.agg [V.int n49,V.int n50,V.vec .plain
    (some 3) l51],V.vec .plain (some 3) l31] r12.2.2) fun r52=>Zj r52.fst (fun v53=>Zc [CT.int,CT.int,CT.slice (some 3)] v53 fun n54 n55 l56=>Y6 3 (V.agg [V.int n54,V.int n55,V.vec .plain (some 3) l56]) r52.snd) fun p57=>gd (below 3 p57&&Zy 3 (List.take 3 r52.snd))
    (some (Out.panic p57,List.take 3 r52.snd)))))) none) fun v58=>gd (below 3 v58&&Zy 3 (List.take 3 r12.2.2)) (some (Out.panic v58,List.take 3 r12.2.2)):=by
 have hw:IntKind.i64.wrap ((n:Int)+1)=((n+1:Nat):Int):=by rw[Z9 ⟨by omega,by omega⟩];omega
 have hlim: ¬((n+1:Nat):Int)>40000:=by omega
 rw[C,Zd,zaR]
 simp only[zhl,JM,zlf,zqN,hw]
 show gd _ _=_
 simp only[List.length_cons,List.length_nil,Nat.zero_add,Nat.le_refl,decide_true,Bool.and_self,Z6,ZO]
 show(Z4 (wst n) 2 fun x4=>_)=_
 simp only[zhl,JM,zlf,zqN,List.length_cons,List.length_nil,Nat.zero_add,Nat.le_refl,decide_true,Bool.and_self,Z6]
 show(Z4 (wst (n+1)) 2 fun x6=>_)=_
 simp only[zhl,JM,zlf,List.length_cons,List.length_nil,Nat.zero_add,Nat.le_refl,decide_true,Bool.and_self,Z6,ZO,Zt]
 rw[hw,decide_eq_false hlim,Zn]
 rfl
theorem zu8{j:Job}{o:Oj}(h:Big j o):Sat j o:=by
 induction h with
 | @apLimit n t l s h hn=>
  have hw:IntKind.i64.wrap ((n:Int)+1)=((n+1:Nat):Int):=by rw[Z9 ⟨by omega,by omega⟩];omega
  have hlim:((n+1:Nat):Int)>40000:=by omega
  refine⟨n+1, ?_⟩
  rw[C,Zd,zaR]
  simp only[zhl,JM,zlf,zqN,hw]
  show gd _ _=_
  simp only[List.length_cons,List.length_nil,Nat.zero_add,Nat.le_refl,decide_true,Bool.and_self,Z6,ZO]
  show(Z4 (wst n) 2 fun x4=>_)=_
  simp only[zhl,JM,zlf,zqN,List.length_cons,List.length_nil,Nat.zero_add,Nat.le_refl,decide_true,Bool.and_self,Z6]
  show(Z4 (wst (n+1)) 2 fun x6=>_)=_
  simp only[zhl,JM,zlf,List.length_cons,List.length_nil,Nat.zero_add,Nat.le_refl,decide_true,Bool.and_self,Z6,ZO]
  rw[hw,decide_eq_true hlim,Zq]
  show Za (W.call _ _ (wst (n+1))) _=_
  rw[zhm]
  rfl
 | @apErr n t l s e h ht b ih=>
  obtain⟨m,vs,hL⟩:=ih t.k t.h t.args [] 0 (.agg [.int 0, .int 0, .vec .full (some 3) []]) rfl rfl rfl (Nat.zero_le _) (by cases t;simp only[T.size]at ht;have:=Z0 (T.args (.mk ‹_› ‹_› ‹_›));simp only[T.args]at this⊢;omega)
  refine⟨m, ?_⟩
  rw[zjx n t l s h ht,hL]
  rfl
 | @apNode n t l s ys m h ht hk b ih=>
  have hL:=ih t.k t.h t.args [] 0 (.agg [.int 0, .int 0, .vec .full (some 3) []]) rfl rfl rfl (Nat.zero_le _) (by cases t;simp only[T.size]at ht;have:=Z0 (T.args (.mk ‹_› ‹_› ‹_›));simp only[T.args]at this⊢;omega)
  show _=_
  rw[zjx n t l s h ht,hL]
  have hk':(t.k !=4)=true:=by simpa using hk
  simp[hk',hk,enc]
  rfl
 | @apVar n t l s ys m o h ht hl hk h0 h1 b c ihb ihc=>
  have hL:=ihb t.k t.h t.args [] 0 (.agg [.int 0, .int 0, .vec .full (some 3) []]) rfl rfl rfl (Nat.zero_le _) (by cases t;simp only[T.size]at ht;have:=Z0 (T.args (.mk ‹_› ‹_› ‹_›));simp only[T.args]at this⊢;omega)
  have ho:=(zu6 l s t.h hl h0 h1).p
  show RT o _
  rw[zjx n t l s h ht,hL]
  have hsp:RT o (W.call 118 [.ref 2 0,enc (ofT l s t.h), .vec .plain (some 3) (Zl ys)] (wst m)):=ihc
  have hgoal:(fun x=>RT o x) (W.call 118 [.ref 2 0,enc (ofT l s t.h), .vec .plain (some 3) (Zl ys)] (wst m)):=hsp
  simp[hk,ho,←Zd]
  cases o with
  |t u k=>
   simp only[RT]at hsp
   rw[hsp]
   simp[RT,←Zd]
   rfl
  |e e=>
   obtain⟨k,hsp⟩:=hsp
   rw[hsp]
   exact⟨k,rfl⟩
  |l _ _=>exact hsp.elim
 | @arNil n bd l s=>
  intro k h xs acc i v hd hb ha hi hx
  have hil:i=xs.length:=by have:=congrArg List.length hd;simp at this;omega
  show _=_
  rw[zu7 _ _ _ _ _ _ _ _ _ hil,List.append_nil]
 | @arErr n bd a ys l s e hl b ih=>
  intro k h xs acc i v hd hb ha hi hx
  have hlt:i<xs.length:=by
   have:=congrArg List.length hd;simp at this;omega
  have hc:xs.drop i=xs[i]::xs.drop (i+1):=List.drop_eq_getElem_cons hlt
  rw[hc]at hd
  obtain⟨rfl,rfl⟩:=List.cons.inj hd
  subst hb
  obtain⟨vs,hs⟩:=zjw i k h acc xs l s v n hlt hx hl ha
  obtain⟨m,hm⟩:=ih
  rw[hs,hm]
  exact⟨m,vs,rfl⟩
 | @arErr2 n m bd a a' ys l s e hl b c ihb ihc=>
  intro k h xs acc i v hd hb ha hi hx
  have hlt:i<xs.length:=by
   have:=congrArg List.length hd;simp at this;omega
  have hc:xs.drop i=xs[i]::xs.drop (i+1):=List.drop_eq_getElem_cons hlt
  rw[hc]at hd
  obtain⟨rfl,rfl⟩:=List.cons.inj hd
  subst hb
  obtain⟨vs,hs⟩:=zjw i k h acc xs l s v n hlt hx hl ha
  have hb1:W.call 99 [.ref 2 0,enc xs[i],J3 (belowL' (bindsB k) (xs.drop (i+1)) l) (belowS' (bindsB k) (xs.drop (i+1)) s)] (wst n)=some (.ret (enc a'),wst m):=ihb
  have:=ihc k h xs (acc++[a']) (i+1) v rfl rfl (by simp[ha]) (by omega) hx
  rw[hs,hb1]
  simp only[Zb,Zk,zvp,←Zd]
  have e1:Zl acc++[enc a']=Zl (acc++[a']):=by simp
  rw[e1]
  exact this
 | @arCons n m k' bd a a' ys ys' l s hl b c ihb ihc=>
  intro k h xs acc i v hd hb ha hi hx
  have hlt:i<xs.length:=by
   have:=congrArg List.length hd;simp at this;omega
  have hc:xs.drop i=xs[i]::xs.drop (i+1):=List.drop_eq_getElem_cons hlt
  rw[hc]at hd
  obtain⟨rfl,rfl⟩:=List.cons.inj hd
  subst hb
  obtain⟨vs,hs⟩:=zjw i k h acc xs l s v n hlt hx hl ha
  have hb1:W.call 99 [.ref 2 0,enc xs[i],J3 (belowL' (bindsB k) (xs.drop (i+1)) l) (belowS' (bindsB k) (xs.drop (i+1)) s)] (wst n)=some (.ret (enc a'),wst m):=ihb
  have:=ihc k h xs (acc++[a']) (i+1) v rfl rfl (by simp[ha]) (by omega) hx
  show _=_
  rw[hs,hb1]
  simp only[Zb,Zk,zvp,←Zd]
  have e1:Zl acc++[enc a']=Zl (acc++[a']):=by simp
  rw[e1]
  simpa[lp6]using this
 | @spNil n t=>
  show _=_
  rw[C,Zd,YT]
  simp[←Zd]
  rfl
 | @spMay n t a ys hk ha hm=>
  have h1:=(Qk a ha).p
  refine⟨n, ?_⟩
  rw[C,Zd,YT]
  have hz: ¬((Zl (a::ys)).length:Int)=0:=by rw[Zt];simp
  simp[hk,h1,hm,zhm,←Zd]
  rfl
 | @spErr n t a b0 r ys e hk ha hm hb b ih=>
  have h1:=(Qk a ha).p
  obtain⟨m,hm2⟩:=ih
  refine⟨m, ?_⟩
  have hm3:W.call 99 [.ref 2 0,enc b0, .agg [.vec .plain (some 3) [enc a], .int 0]] (wst n)=some (.panic (zsf e),wst m):=hm2
  rw[C,Zd,YT]
  simp[hk,h1,hm,hb,hm3,←Zd]
  rfl
 | @spLam n m t a b0 u r ys o hk ha hm hb b c ihb ihc=>
  have h1:=(Qk a ha).p
  have hm3:W.call 99 [.ref 2 0,enc b0, .agg [.vec .plain (some 3) [enc a], .int 0]] (wst n)=some (.ret (enc u),wst m):=ihb
  have hsp:RT o (W.call 118 [.ref 2 0,enc u, .vec .plain (some 3) (Zl ys)] (wst m)):=ihc
  have htk:List.take ys.length (Zl ys)=Zl ys:=List.take_of_length_le (by simp)
  show RT o _
  rw[C,Zd,YT]
  simp[hk,h1,hm,hb,hm3,htk,←Zd]
  cases o with
  |t w k=>
   simp only[RT]at hsp
   rw[hsp]
   simp[RT,←Zd]
   rfl
  |e e=>
   obtain⟨k,hsp⟩:=hsp
   rw[hsp]
   exact⟨k,rfl⟩
  |l _ _=>exact hsp.elim
 | @spApp n t a ys hk hs=>
  have hc:=(zov t.args (a::ys) (by simp only[List.length_cons];omega)).p (h2:=by simp[below,Zi,QY])
  simp only[Qi]at hc
  show _=_
  rw[C,Zd,YT]
  rcases hk with hk|hk|hk
  ·simp[hk,hc,ZU,enc]
   rfl
  ·simp[hk,hc,ZU,enc]
   rfl
  ·simp[hk,hc,ZU,enc]
   rfl
 | @spType n t a ys h3 h2 h4 h5=>
  refine⟨n, ?_⟩
  rw[C,Zd,YT]
  simp[h3,h2,h4,h5,zhm]
  rfl
end Go.Proofs.SZ
namespace Go.Proofs.SZ
open Go Go.AM
set_option maxRecDepth 20000
theorem zm4(O:Oracle)(f:Nat)(a b:List V):zeN Tryz.prog cfg O 97 [.fn f a b] []=
 bc (cfg.pure f) (Za (Zr O f (a++[V.ref 2 0]++b)) fun r1=>Zc [CT.int,CT.int,CT.slice (some 3)] r1 fun n2 n3 l4=>Za (Zr O 24 [V.agg [V.int n2,
 V.int n3,V.vec .plain (some 3) l4]]) fun r5=>Zm r5 fun b6=>bc (!b6) (Za (O.call 116 [V.int 4] [Res.box [V.int n2,V.int n3,V.vec .plain (some 3) l4],Res.box
 [V.int 0],Res.box [V.int 0]]) fun r7=>Zj r7.fst (fun v8=>Z2 v8 fun c9=>Zh c9 (Z4 r7.snd 0 fun x10=>Z1 x10 fun c11=>gd (decide (3≤c11.length)&&true)
 (onCells [CT.int,CT.int,CT.slice (some 3)] (List.map plain1 (List.take 3 (List.drop 0 c11))) fun n12 n13 l14=>Z4 r7.snd 0 fun x15=>Z1 x15 fun c16=>gd (decide (3≤
 c16.length)&&true) (Z4 (List.set r7.snd 0 (Res.box (setCells c16 0 [V.int n12,V.int n13,V.vec .plain (some 3) l14]))) 1 fun x17=>Z1 x17 fun c18=>gd (decide (1≤
 c18.length)&&true) (Z4 ((List.set r7.snd 0 (Res.box (setCells c16 0 [V.int n12,V.int n13,V.vec .plain (some 3) l14]))).set 1 (Res.box (setCells c18 0 [V.int 0]))) 0 fun x19
 =>Z1 x19 fun c20=>gd (decide (3≤c20.length)&&true) (Z4 ((List.set r7.snd 0 (Res.box (setCells c16 0 [V.int n12,V.int n13,V.vec .plain (some 3) l14]))).set 1 (Res.box
 (setCells c18 0 [V.int 0]))) 1 fun x21=>Z1 x21 fun c22=>gd (decide (1≤c22.length)&&true) (Y6 0 (V.tup [V.agg (List.map plain1 (List.take 3 (List.drop 0 c20))),Zo
 (AM.partOf c22 0 none)]) ((List.set r7.snd 0 (Res.box (setCells c16 0 [V.int n12,V.int n13,V.vec .plain (some 3) l14]))).set 1 (Res.box (setCells c18 0 [V.int 0])))))))))) fun
 p23=>zcV p23 fun t24 n25=>bc (t24.beq 29) (Z4 r7.snd 0 fun x26=>Z1 x26 fun c27=>gd (decide (3≤c27.length)&&true) (Z4 (List.set r7.snd 0 (Res.box (setCells
 c27 0 [V.int 0,V.int 0,V.vec .plain (some 3) []]))) 1 fun x28=>Z1 x28 fun c29=>gd (decide (1≤c29.length)&&true) (Z4 ((List.set r7.snd 0 (Res.box (setCells c27 0
 [V.int 0,V.int 0,V.vec .plain (some 3) []]))).set 1 (Res.box (setCells c29 0 [V.int n25]))) 0 fun x30=>Z1 x30 fun c31=>gd (decide (3≤c31.length)&&true) (Z4
 ((List.set r7.snd 0 (Res.box (setCells c27 0 [V.int 0,V.int 0,V.vec .plain (some 3) []]))).set 1 (Res.box (setCells c29 0 [V.int n25]))) 1 fun x32=>Z1 x32 fun c33=>gd
 (decide (1≤c33.length)&&true) (Y6 0 (V.tup [V.agg (List.map plain1 (List.take 3 (List.drop 0 c31))),Zo (AM.partOf c33 0 none)]) ((List.set r7.snd 0 (Res.box (setCells
 c27 0 [V.int 0,V.int 0,V.vec .plain (some 3) []]))).set 1 (Res.box (setCells c29 0 [V.int n25])))))))) none) (Y6 0 (V.tup [V.agg [V.int n2,V.int n3,V.vec .plain (some 3) l4],
 V.int 0]) [Res.box [V.int n2,V.int n3,V.vec .plain (some 3) l4],Res.box [V.int 0],Res.box [V.int 0]])) (Za (O.call f (a++[V.ref 2 0]++b) [Res.box [V.int 0,V.int 0,
 V.vec Mode.full (some 3) []],Res.box [V.int 0],Res.box [V.int 0]]) fun r34=>Zj r34.fst (fun v35=>Zc [CT.int,CT.int,CT.slice (some 3)] v35 fun n36 n37 l38=>Z4
 r34.snd 0 fun x39=>Z1 x39 fun c40=>gd (decide (3≤c40.length)&&true) (Z4 (List.set r34.snd 0 (Res.box (setCells c40 0 [V.int n36,V.int n37,V.vec .plain (some 3)
 l38]))) 0 fun x41=>Z1 x41 fun c42=>gd (decide (3≤c42.length)&&true) (onCells [CT.int,CT.int,CT.slice (some 3)] (List.map plain1 (List.take 3 (List.drop 0 c42))) fun
 n43 n44 l45=>Za (Zr O 24 [V.agg [V.int n43,V.int n44,V.vec .plain (some 3) l45]]) fun r46=>Zm r46 fun b47=>bc (!b47) (Za (O.call 116 [V.int
 4] (List.set r34.snd 0 (Res.box (setCells c40 0 [V.int n36,V.int n37,V.vec .plain (some 3) l38])))) fun r48=>Zj r48.fst (fun v49=>Z2 v49 fun c50=>Zh c50 (Z4
 r48.snd 0 fun x51=>Z1 x51 fun c52=>gd (decide (3≤c52.length)&&true) (onCells [CT.int,CT.int,CT.slice (some 3)] (List.map plain1 (List.take 3 (List.drop 0 c52))) fun
 n53 n54 l55=>Z4 r48.snd 0 fun x56=>Z1 x56 fun c57=>gd (decide (3≤c57.length)&&true) (Z4 (List.set r48.snd 0 (Res.box (setCells c57 0 [V.int n53,V.int n54,V.vec
 .plain (some 3) l55]))) 1 fun x58=>Z1 x58 fun c59=>gd (decide (1≤c59.length)&&true) (Z4 ((List.set r48.snd 0 (Res.box (setCells c57 0 [V.int n53,V.int n54,V.vec
 .plain (some 3) l55]))).set 1 (Res.box (setCells c59 0 [V.int 0]))) 0 fun x60=>Z1 x60 fun c61=>gd (decide (3≤c61.length)&&true) (Z4 ((List.set r48.snd 0 (Res.box
 (setCells c57 0 [V.int n53,V.int n54,V.vec .plain (some 3) l55]))).set 1 (Res.box (setCells c59 0 [V.int 0]))) 1 fun x62=>Z1 x62 fun c63=>gd (decide (1≤c63.length)&&
 true) (Y6 0 (V.tup [V.agg (List.map plain1 (List.take 3 (List.drop 0 c61))),Zo (AM.partOf c63 0 none)]) ((List.set r48.snd 0 (Res.box (setCells c57 0 [V.int n53,V.int n54,
 V.vec .plain (some 3) l55]))).set 1 (Res.box (setCells c59 0 [V.int 0])))))))))) fun p64=>zcV p64 fun t65 n66=>bc (t65.beq 29) (Z4 r48.snd 0 fun x67=>Z1 x67 fun c68
 =>gd (decide (3≤c68.length)&&true) (Z4 (List.set r48.snd 0 (Res.box (setCells c68 0 [V.int 0,V.int 0,V.vec .plain (some 3) []]))) 1 fun x69=>Z1 x69 fun c70=>gd
 (decide (1≤c70.length)&&true) (Z4 ((List.set r48.snd 0 (Res.box (setCells c68 0 [V.int 0,V.int 0,V.vec .plain (some 3) []]))).set 1 (Res.box (setCells c70 0 [V.int n66])))
 0 fun x71=>Z1 x71 fun c72=>gd (decide (3≤c72.length)&&true) (Z4 ((List.set r48.snd 0 (Res.box (setCells c68 0 [V.int 0,V.int 0,V.vec .plain (some 3) []]))).set 1
 (Res.box (setCells c70 0 [V.int n66]))) 1 fun x73=>Z1 x73 fun c74=>gd (decide (1≤c74.length)&&true) (Y6 0 (V.tup [V.agg (List.map plain1 (List.take 3 (List.drop 0
 c72))),Zo (AM.partOf c74 0 none)]) ((List.set r48.snd 0 (Res.box (setCells c68 0 [V.int 0,V.int 0,V.vec .plain (some 3) []]))).set 1 (Res.box (setCells c70 0 [V.int
 n66])))))))) none) (Z4 (List.set r34.snd 0 (Res.box (setCells c40 0 [V.int n36,V.int n37,V.vec .plain (some 3) l38]))) 0 fun x75=>Z1 x75 fun c76=>gd (decide (3≤
 c76.length)&&true) (onCells [CT.int,CT.int,CT.slice (some 3)] (List.map plain1 (List.take 3 (List.drop 0 c76))) fun n77 n78 l79=>Z4 (List.set r34.snd 0 (Res.box (setCells
 c40 0 [V.int n36,V.int n37,V.vec .plain (some 3) l38]))) 0 fun x80=>Z1 x80 fun c81=>gd (decide (3≤c81.length)&&true) (Z4 ((List.set r34.snd 0 (Res.box (setCells c40
 0 [V.int n36,V.int n37,V.vec .plain (some 3) l38]))).set 0 (Res.box (setCells c81 0 [V.int n77,V.int n78,V.vec .plain (some 3) l79]))) 1 fun x82=>Z1 x82 fun c83=>gd
 (decide (1≤c83.length)&&true) (Z4 (((List.set r34.snd 0 (Res.box (setCells c40 0 [V.int n36,V.int n37,V.vec .plain (some 3) l38]))).set 0 (Res.box (setCells c81 0 [V.int
 n77,V.int n78,V.vec .plain (some 3) l79]))).set 1 (Res.box (setCells c83 0 [V.int 0]))) 0 fun x84=>Z1 x84 fun c85=>gd (decide (3≤c85.length)&&true) (Z4 (((List.set
 r34.snd 0 (Res.box (setCells c40 0 [V.int n36,V.int n37,V.vec .plain (some 3) l38]))).set 0 (Res.box (setCells c81 0 [V.int n77,V.int n78,V.vec .plain (some 3) l79]))).set 1
 (Res.box (setCells c83 0 [V.int 0]))) 1 fun x86=>Z1 x86 fun c87=>gd (decide (1≤c87.length)&&true) (Y6 0 (V.tup [V.agg (List.map plain1 (List.take 3 (List.drop 0
 c85))),Zo (AM.partOf c87 0 none)]) (((List.set r34.snd 0 (Res.box (setCells c40 0 [V.int n36,V.int n37,V.vec .plain (some 3) l38]))).set 0 (Res.box (setCells c81 0 [V.int
 n77,V.int n78,V.vec .plain (some 3) l79]))).set 1 (Res.box (setCells c83 0 [V.int 0])))))))))))) fun p88=>zcV p88 fun t89 n90=>bc (t89.beq 29) (Z4 r34.snd 0 fun x91=>
 Z1 x91 fun c92=>gd (decide (3≤c92.length)&&true) (Z4 (List.set r34.snd 0 (Res.box (setCells c92 0 [V.int 0,V.int 0,V.vec .plain (some 3) []]))) 1 fun x93=>Z1 x93
 fun c94=>gd (decide (1≤c94.length)&&true) (Z4 ((List.set r34.snd 0 (Res.box (setCells c92 0 [V.int 0,V.int 0,V.vec .plain (some 3) []]))).set 1 (Res.box (setCells c94 0
 [V.int n90]))) 0 fun x95=>Z1 x95 fun c96=>gd (decide (3≤c96.length)&&true) (Z4 ((List.set r34.snd 0 (Res.box (setCells c92 0 [V.int 0,V.int 0,V.vec .plain (some 3)
 []]))).set 1 (Res.box (setCells c94 0 [V.int n90]))) 1 fun x97=>Z1 x97 fun c98=>gd (decide (1≤c98.length)&&true) (Y6 0 (V.tup [V.agg (List.map plain1 (List.take 3
 (List.drop 0 c96))),Zo (AM.partOf c98 0 none)]) ((List.set r34.snd 0 (Res.box (setCells c92 0 [V.int 0,V.int 0,V.vec .plain (some 3) []]))).set 1 (Res.box (setCells c94 0
 [V.int n90])))))))) none):=by kernel_rfl
end Go.Proofs.SZ
