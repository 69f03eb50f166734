import Derived.Test.YthhifgeblblmcaaGreatAMc
import Derived.OrdersIn
import Derived.RangeFuncLeaves
import Derived.RecoverIn
import Derived.Shelf.SlLaysE0
import Derived.Shelf.RegionOpenPlain
import Derived.WalkKit
import Derived.Deep.LoopGhost
import Derived.Lib.Walk
import Derived.Lib.SliceRun
import Derived.Lib.ItoaNum
import Derived.Maps.RangeWalk
import Derived.Sort.OwnSortedInts
import Derived.OpenShut
import Derived.Carry
import Derived.JoinedCond
/- An abstract machine over tree values that runs the model's code, and its soundness: what it tells of a call, the model does. -/
set_option linter.unusedVariables false
set_option linter.unusedSimpArgs false
set_option linter.unusedSectionVars false
namespace Go.AM
open Go Go.RowKit
section
variable{P:Program}{cfg:Cfg}{O:Oracle}{fid rid:Nat}{all:List Oper}{ρ ρ' ρ1 ρe:Env}{st st' st1 st2 ste:St}{us us1 us2:List (Nat×V)}{R:Type}{r:R}
variable{base n:Nat}{w w' w0:World}{own own' YN:Own}{μ μ' μ0:List Nat}{a:Act}
def zd8(acc:List Nat)(o:Oper):Nat:=o.after.toList.foldl (fun s e=>if Region.binds .any e then s|||(2^e.on|||acc.getD e.on 0)else s) 0
theorem zjo(l:List Oper):Y7 l=l.foldl (fun acc o=>acc++[zd8 acc o]) []:=rfl
theorem zlh(l:List Oper): ∀acc:List Nat,(l.foldl (fun acc o=>acc++[zd8 acc o]) acc).length=acc.length+l.length:=by
 induction l with
 |nil=>intro acc;rfl
 |cons o l ih=>intro acc;simp only[List.foldl_cons,ih];simp;omega
theorem zmr(l:List Oper): ∀acc:List Nat,∃x,l.foldl (fun acc o=>acc++[zd8 acc o]) acc=acc++x:=by
 induction l with
 |nil=>intro acc;exact⟨[],by simp⟩
 |cons o l ih=>
  intro acc
  obtain⟨x,hx⟩:=ih (acc++[zd8 acc o])
  exact⟨[zd8 acc o]++x,by simp only[List.foldl_cons,hx,List.append_assoc]⟩
theorem zrr{i:Nat}{o:Oper}(h:all[i]? =some o):(Y7 all).getD i 0=zd8 (Y7 (all.take i)) o∧ ∀k,k<i→(Y7 (all.take i)).getD k 0=(Y7 all).getD k 0:=by
 have hi:i<all.length:=(List.getElem?_eq_some_iff.1 h).1
 have hsplit:all=all.take i++o::all.drop (i+1):=by
  have h2:all[i]=o:=(List.getElem?_eq_some_iff.1 h).2
  rw[←h2,←List.drop_eq_getElem_cons hi,List.take_append_drop]
 have hlen:(Y7 (all.take i)).length=i:=by
  rw[zjo,zlh];simp;omega
 have: ∃x,Y7 all=Y7 (all.take i)++[zd8 (Y7 (all.take i)) o]++x:=by
  obtain⟨x,hx⟩:=zmr (all.drop (i+1)) (Y7 (all.take i)++[zd8 (Y7 (all.take i)) o])
  refine⟨x, ?_⟩
  rw[←hx]
  conv=>lhs;rw[hsplit]
  simp only[zjo,List.foldl_append,List.foldl_cons]
 obtain⟨x,hx⟩:=this
 refine⟨?_,fun k hk=> ?_⟩
 ·rw[hx,List.getD_eq_getElem?_getD,List.getElem?_append_left (by simp[hlen]),List.getElem?_append_right (by simp[hlen])]
  simp[hlen]
 ·rw[hx,List.getD_eq_getElem?_getD,List.getD_eq_getElem?_getD,List.getElem?_append_left (by simp[hlen];omega),List.getElem?_append_left (by rw[hlen];exact hk)]
theorem zli{G:Edge→Nat}{k:Nat}: ∀(l:List Edge) (s:Nat),Nat.testBit (l.foldl (fun s e=>if Region.binds .any e then s|||(2^e.on|||G e)else s) s) k=true→s.testBit k=true∨ ∃e∈l,Region.binds .any e=true∧(k=e.on∨(G e).testBit k=true)
 |[],s,h=> .inl h
 |e::l,s,h=>by
  simp only[List.foldl_cons]at h
  rcases zli l _ h with h|⟨e',he,hb,hk⟩
  ·split at h
   ·rename_i hb
    rw[Nat.testBit_or,Nat.testBit_or,Bool.or_eq_true,Bool.or_eq_true]at h
    rcases h with h|h|h
    ·exact .inl h
    ·rw[Nat.testBit_two_pow,decide_eq_true_eq]at h
     exact .inr ⟨e,by simp,hb, .inl h.symm⟩
    ·exact .inr ⟨e,by simp,hb, .inr h⟩
   ·exact .inl h
  ·exact .inr ⟨e',by simp[he],hb,hk⟩
theorem J1: ∀(l:List Oper) (i:Nat),QE i l=true→ ∀(k:Nat) (o:Oper),l[k]? =some o→ ∀e∈o.after.toList,Region.binds .any e=true→e.on<i+k
 |[],i,_,k,o,h=>by simp at h
 |x::l,i,he,k,o,h=>by
  simp only[QE,Bool.and_eq_true,List.all_eq_true]at he
  cases k with
  |zero=>
   simp only[List.getElem?_cons_zero,Option.some.injEq]at h
   subst h
   intro e hm hb
   have:=he.1 e hm
   simp only[hb,Bool.not_true,Bool.false_or]at this
   exact Nat.le_of_ble_eq_true this
  |succ k=>
   simp only[List.getElem?_cons_succ]at h
   intro e hm hb
   have:=J1 l (i+1) he.2 k o h e hm hb
   omega
theorem zev(he:QE 0 all=true){i:Nat}{o:Oper}(h:all[i]? =some o){k:Nat}(hk:((Y7 all).getD i 0).testBit k=true):
  ∃e∈o.after.toList,Region.binds .any e=true∧(k=e.on∨((Y7 all).getD e.on 0).testBit k=true):=by
 obtain⟨h1,h2⟩:=zrr h
 rw[h1]at hk
 rcases zli _ _ hk with hk|⟨e,hm,hb,hk⟩
 ·simp at hk
 ·refine⟨e,hm,hb,hk.imp_right fun hk=> ?_⟩
  have:=J1 _ _ he i o h e hm hb
  rwa [h2 _ (by omega)]at hk
theorem zcH{pr:List Nat}: ∀{fs:List Foot},zc0 pr fs=true→fs.Pairwise (fun f g=>zgG pr g f=true)
 |[],_=> .nil
 |f::fs,h=>by
  simp only[zc0,Bool.and_eq_true,List.all_eq_true]at h
  exact .cons (fun g hg=>h.1 g hg) (zcH h.2)
theorem SeqD.idx{is:List Nat}{fts:List Foot}(h:SeqD P cfg O fid rid all is ρ st fts ρe ste):fts.map (·.idx)=is:=by
 induction h with
 |nil=>rfl
 |cons h t ih=>simp only[List.map_cons,ih,h.idx]
theorem GKind.wanted{ops:Array Oper}{o:Oper}{g:List Nat}{b:Bool}(hk:GKind ρ ops.toList o g b)(h:Rel P cfg base n w own μ ρ st a):Region.wanted o (yielded ops a.tmps)=b:=by
 cases hk with
 |plain hg=>simp[Region.wanted,hg]
 |run g want t hg ht hv=>rw[(Jn h hg ht).1 _ hv];simp
 |skip g want t b hg ht hv hb=>rw[(Jn h hg ht).1 _ hv];simpa using hb
 |none g want t hg ht hv=>exact(Jn h hg ht).2 hv
theorem zbf{d:Option Nat}(h:freshDst ρ d=true):okDst all ρ d=true:=by
 unfold freshDst at h
 unfold okDst
 cases d with
 |none=>rfl
 |some d=>
  simp only at h⊢
  split at h
  ·cases h
  ·cases h
  ·rfl
theorem zeI{listed:Array Bool}{k:Nat}(hk:k<listed.size)(h:listed.getD k true≠false):listed.getD k false=true:=by
 rw[Array.getD_eq_getD_getElem?,Array.getElem?_eq_getElem hk]at h⊢
 simpa using h
theorem zgd{listed:Array Bool}{k:Nat}(h:listed.getD k false=true):listed.getD k true=true:=by
 rw[Array.getD_eq_getD_getElem?]at h⊢
 cases hx:listed[k]? with
 |none=>rfl
 |some b=>rw[hx]at h;simpa using h
theorem zge(listed:Array Bool)(j k:Nat)(d:Bool)(hj:j<listed.size):(listed.setIfInBounds j true).getD k d=if k=j then true else listed.getD k d:=by
 simp only[Array.getD_eq_getD_getElem?]
 by_cases e:k=j
 ·subst e;simp[hj]
 ·rw[if_neg e,Array.getElem?_setIfInBounds_ne (Ne.symm e)]
theorem zu8(hP:PlainNames P)(hC:Q2 P cfg O.call)(hRd:QG P cfg O.round){ops:Array Oper}(hdst: ∀o∈ops.toList,∀d,o.dst=some d→d<n)(he:QE 0 ops.toList=true){Q:Exit→Act→World→Prop}{m:Nat}{ro:Option Nat}
  (hQ: ∀ρ' a' w' own' μ',EqE ρ' ρe→Rel P cfg base n w' own' μ' ρ' ste a'→LP ops.toList ρ'→Keeps base w0 YN μ0 w' own' μ'→Q .normal a' w'):
  ∀(fuel:Nat) (is:List Nat) (listed:Array Bool) (ρ:Env) (st:St) (fts:List Foot) (a:Act) (w:World) (own:Own) (μ:List Nat),is.length=fuel→listed.size=ops.size→(∀i,i<ops.size→(listed.getD i true=false↔i∈is))→(∀i∈is,i<ops.size)→is.Pairwise (· < ·)→
   SeqD P cfg O fid rid ops.toList is ρ st fts ρe ste→fts.Pairwise (fun a b=>zgG (Y7 ops.toList) a b=true)→(∀i,listed.getD i false=true→ ∀k,((Y7 ops.toList).getD i 0).testBit k=true→listed.getD k false=true)→
   Rel P cfg base n w own μ ρ st a→LP ops.toList ρ→Keeps base w0 YN μ0 w own μ→wpAnyIn (wide ro) m P .any ops Q fuel listed a w
 |0,is,listed,ρ,st,fts,a,w,own,μ,hl,hsz,hls,hlt,_,hseq,_,_,hR,hlp,hk=>by
  have:is=[]:=List.eq_nil_of_length_eq_zero hl
  subst this
  cases hseq with
  |nil _ hE=>
   refine⟨?_,hQ _ _ _ _ _ hE hR hlp hk⟩
   refine List.eq_nil_iff_forall_not_mem.2 fun j hj=> ?_
   obtain⟨h0,o,ho,_⟩:=mem_ready.1 hj
   have hj':j<ops.size:=(Array.getElem?_eq_some_iff.1 ho).1
   have:=(hls j hj').1 h0
   cases this
 |fuel+1,is,listed,ρ,st,fts,a,w,own,μ,hl,hsz,hls,hlt,hsort,hseq,hpair,hclo,hR,hlp,hk=>by
  refine⟨fun hnil=> ?_,fun j hj=> ?_⟩
  ·exfalso
   cases is with
   |nil=>simp at hl
   |cons i0 rest=>
    have hi0:=hlt i0 (by simp)
    have ho:ops[i0]? =some ops[i0]:=by simp[hi0]
    have:i0∈Region.ready .any ops listed:=by
     refine mem_ready.2 ⟨(hls i0 hi0).2 (by simp),ops[i0],ho,fun e hm hb=> ?_⟩
     have hon:=J1 _ _ he i0 ops[i0] (by rw[Array.getElem?_toList];exact ho) e (by simpa using hm) hb
     have hon:e.on<i0:=by omega
     refine zeI (by omega) fun hf=> ?_
     have:=(hls e.on (by omega)).1 hf
     rcases List.mem_cons.1 this with h|h
     ·omega
     ·have:=(List.pairwise_cons.1 hsort).1 _ h
      omega
    rw[hnil]at this;cases this
  ·obtain⟨h0,o,ho,hall⟩:=mem_ready.1 hj
   have hjs:j<ops.size:=(Array.getElem?_eq_some_iff.1 ho).1
   have hol:ops.toList[j]? =some o:=by rw[Array.getElem?_toList];exact ho
   have hmem:o∈ops.toList:=List.mem_of_getElem? hol
   obtain⟨pre,post,rfl⟩:=List.append_of_mem ((hls j hjs).1 h0)
   have hidx:=hseq.idx
   have hnot: ∀k∈pre,¬((Y7 ops.toList).getD j 0).testBit k=true:=fun k hk hm=>by
    have hun:=(hls k (hlt k (by simp[hk]))).2 (by simp[hk])
    have hlisted:listed.getD k false=true:=by
     obtain⟨e,hme,hb,hke⟩:=zev he hol hm
     have hel:=hall e (by simpa using hme) hb
     rcases hke with rfl|hke
     ·exact hel
     ·exact hclo _ hel _ hke
    rw[zgd hlisted]at hun;cases hun
   obtain⟨fp,fj,fq,rfl,hfl,hs⟩:=SeqD.front hseq fun fp fj fq e hfl f hf=>by
    subst e
    have hp:=(List.pairwise_append.1 hpair).2.2 f hf fj (by simp)
    have h1:fp.map (·.idx)=pre∧fj.idx=j:=by
     rw[List.map_append,List.map_cons]at hidx
     obtain⟨e1,e2⟩:=List.append_inj hidx (by simp[hfl])
     exact⟨e1,(List.cons.inj e2).1⟩
    rw[zgG,Bool.or_eq_true]at hp
    refine hp.resolve_left fun hc=> ?_
    rw[h1.2]at hc
    exact hnot f.idx (by rw[←h1.1];exact List.mem_map.2 ⟨f,hf,rfl⟩) (by simpa using hc)
   cases hs with
   |cons hstp hrest=>
    rename_i st2 us
    obtain⟨o',g,b,ho',hg,hf,hcase⟩:=hstp
    rw[hol]at ho'
    cases ho'
    have hnodup:j∉pre++post:=fun hm=>by
     have h2:=List.pairwise_append.1 hsort
     rcases List.mem_append.1 hm with h|h
     ·exact absurd (h2.2.2 j h j (by simp)) (Nat.lt_irrefl _)
     ·exact absurd ((List.pairwise_cons.1 h2.2.1).1 j h) (Nat.lt_irrefl _)
    have next: ∀a' w' own' μ',Rel P cfg base n w' own' μ' (ρ.apply us) st2 a'→LP ops.toList (ρ.apply us)→Keeps base w own μ w' own' μ'→wpAnyIn (wide ro) m P .any ops Q fuel (listed.setIfInBounds j true) a' w':=fun a' w' own' μ' k1 k2 k3=>by
     refine zu8 hP hC hRd hdst he hQ fuel (pre++post) _ _ _ _ a' w' own' μ' (by simp at hl⊢;omega) (by simpa using hsz) (fun i hi=> ?_) (fun i hi=>hlt i (by simp at hi⊢;rcases hi with h|h<;>simp[h])) ?_ hrest ?_ (fun i hi k hk=> ?_) k1 k2 (hk.trans k3)
     ·rw[zge _ _ _ _ (by omega)]
      split
      ·rename_i e;subst e;simp only[Bool.true_eq_false,false_iff];exact hnodup
      ·rename_i e
       rw[hls i hi]
       simp[e]
     ·exact hsort.sublist (List.Sublist.append (List.Sublist.refl _) (List.sublist_cons_self ..))
     ·exact hpair.sublist (List.Sublist.append (List.Sublist.refl _) (List.sublist_cons_self ..))
     ·rw[zge _ _ _ _ (by omega)]at hi⊢
      split
      ·rfl
      ·split at hi
       ·rename_i e;subst e
        obtain⟨e,hme,hb,hke⟩:=zev he hol hk
        have hel:=hall e (by simpa using hme) hb
        rcases hke with rfl|hke
        ·exact hel
        ·exact hclo _ hel _ hke
       ·exact hclo _ hi _ hk
    have hpre:Pre P cfg base n ops.toList w own μ ρ st a o:=⟨hR,hlp,hmem,hdst o hmem,zbf hf⟩
    have hw:=hg.wanted hR
    unfold wpOpIn
    simp only[ho,hw]
    rcases hcase with⟨rfl,hst,_⟩|⟨rfl,rfl,rfl,_⟩
    ·rw[if_pos rfl]
     refine zfW (r:=(us,st2)) hP hC hRd hpre (fun us' st' a' w' own' μ' e h2 h3 h4=> ?_) (fun v c st' ρ' w' own' μ' e=>by cases e) hst
     cases e
     exact next a' w' own' μ' h2 h4 h3
    ·rw[if_neg (by simp)]
     refine⟨fun f _=>trivial, ?_⟩
     cases hod:o.dst with
     |none=>rw[hod]at next;exact next a w own μ hR hlp Keeps.refl
     |some d=>
      rw[hod]at next
      have hT:VRep w (prOf own) μ (.tup []) undef:= .tup [] #[] rfl fun i hi=>by simp at hi
      exact next _ w own μ (hR.put d (hpre.dst d hod) (hpre.noPtr hod) hT) (hlp.set hmem hod _) Keeps.refl
theorem zuY{p:Nat→Prop}(h: ∃x,p x): ∃x,p x∧ ∀y,y<x→ ¬p y:=by
 obtain⟨x,hx⟩:=h
 induction x using Nat.strongRecOn with
 |_ x ih=>
  by_cases hy: ∃y,y<x∧p y
  ·obtain⟨y,h1,h2⟩:=hy
   exact ih y h1 h2
  ·exact⟨x,hx,fun y h1 h2=>hy ⟨y,h1,h2⟩⟩
theorem zjp: ∀(l:List Nat) (a b:Nat),l.Pairwise (· < ·)→(∀x∈l,a≤x∧x<b)→l.length≤b-a
 |[],a,b,_,_=>Nat.zero_le _
 |x::l,a,b,hp,h=>by
  have hx:=h x (by simp)
  have h2:=List.pairwise_cons.1 hp
  have:=zjp l (x+1) b h2.2 fun y hy=>⟨h2.1 y hy,(h y (by simp[hy])).2⟩
  simp only[List.length_cons]
  omega
theorem zsH(he:QE 0 all=true): ∀(i k:Nat),((Y7 all).getD i 0).testBit k=true→k<i:=by
 intro i
 induction i using Nat.strongRecOn with
 |_ i ih=>
  intro k hk
  cases ho:all[i]? with
  |none=>
   have hl:(Y7 all).length=all.length:=by
    rw[zjo,zlh];simp
   have:(Y7 all).getD i 0=0:=by
    rw[List.getD_eq_getElem?_getD,List.getElem?_eq_none (by rw[hl];exact List.getElem?_eq_none_iff.1 ho)];rfl
   rw[this]at hk
   simp at hk
  |some o=>
   obtain⟨e,hme,hb,hke⟩:=zev he ho hk
   have hon:=J1 _ _ he i o ho e hme hb
   have hon:e.on<i:=by omega
   rcases hke with rfl|hke
   ·exact hon
   ·have:=ih e.on hon k hke
    omega
theorem zu9(hP:PlainNames P)(hC:Q2 P cfg O.call)(hRd:QG P cfg O.round){ops:Array Oper}(hdst: ∀o∈ops.toList,∀d,o.dst=some d→d<n)(he:QE 0 ops.toList=true){Q:Exit→Act→World→Prop}{m:Nat}{ro:Option Nat}
  {i0:Nat} {p:V} {stp:St} {fi:Foot} (hi0:i0<ops.size)
  (hQ: ∀ρ' a' w' own' μ' c,Rel P cfg base n w' own' μ' ρ' stp a'→Keeps base w0 YN μ0 w' own' μ'→VRep w' (prOf own') μ' p c→Q (.panic [{v:=c,recovered:=false}]) a' w'):
  ∀(fuel:Nat) (is:List Nat) (listed:Array Bool) (ρ:Env) (st:St) (fts:List Foot) (a:Act) (w:World) (own:Own) (μ:List Nat),is.length+1≤fuel→listed.size=ops.size→(∀i,i<ops.size→(listed.getD i true=false↔i∈is∨i=i0∨((Y7 ops.toList).getD i 0).testBit i0=true))→(∀i∈is,i<ops.size∧i≠i0∧((Y7 ops.toList).getD i 0).testBit i0=false)→is.Pairwise (· < ·)→
   SeqP P cfg O fid rid ops.toList i0 p stp fi is ρ st fts→fts.Pairwise (fun a b=>zgG (Y7 ops.toList) a b=true)→(∀f∈fts,(((Y7 ops.toList).getD i0 0).testBit f.idx||(XL f fi&&zna f.sk))=true)→
   (∀i,listed.getD i false=true→ ∀k,((Y7 ops.toList).getD i 0).testBit k=true→listed.getD k false=true)→
   Rel P cfg base n w own μ ρ st a→LP ops.toList ρ→Keeps base w0 YN μ0 w own μ→wpAnyIn (wide ro) m P .any ops Q fuel listed a w
 |0,is,listed,ρ,st,fts,a,w,own,μ,hl,_,_,_,_,_,_,_,_,_,_,_=>by omega
 |fuel+1,is,listed,ρ,st,fts,a,w,own,μ,hl,hsz,hls,hlt,hsort,hseq,hpair,hcom,hclo,hR,hlp,hk=>by
  refine⟨fun hnil=> ?_,fun j hj=> ?_⟩
  ·exfalso
   have hex: ∃x,x<ops.size∧listed.getD x true=false:=⟨i0,hi0,(hls i0 hi0).2 (.inr (.inl rfl))⟩
   obtain⟨x,⟨hx,hun⟩,hmin0⟩: ∃x,(x<ops.size∧listed.getD x true=false)∧ ∀y,y<x→ ¬(y<ops.size∧listed.getD y true=false):=by
    exact zuY hex
   have hmin: ∀y,y<ops.size→listed.getD y true=false→x≤y:=fun y h1 h2=>Nat.le_of_not_lt fun h=>hmin0 y h ⟨h1,h2⟩
   have ho:ops[x]? =some ops[x]:=by simp[hx]
   have:x∈Region.ready .any ops listed:=by
    refine mem_ready.2 ⟨hun,ops[x],ho,fun e hm hb=> ?_⟩
    have hon:=J1 _ _ he x ops[x] (by rw[Array.getElem?_toList];exact ho) e (by simpa using hm) hb
    have hon:e.on<x:=by omega
    refine zeI (by omega) fun hf=> ?_
    have:=hmin e.on (by omega) hf
    omega
   rw[hnil]at this;cases this
  ·obtain⟨h0,o,ho,hall⟩:=mem_ready.1 hj
   have hjs:j<ops.size:=(Array.getElem?_eq_some_iff.1 ho).1
   have hol:ops.toList[j]? =some o:=by rw[Array.getElem?_toList];exact ho
   have hmem:o∈ops.toList:=List.mem_of_getElem? hol
   have hahead: ∀k,((Y7 ops.toList).getD j 0).testBit k=true→listed.getD k false=true:=fun k hm=>by
    obtain⟨e,hme,hb,hke⟩:=zev he hol hm
    have hel:=hall e (by simpa using hme) hb
    rcases hke with rfl|hke
    ·exact hel
    ·exact hclo _ hel _ hke
   have hnotl: ∀k,k<ops.size→listed.getD k true=false→ ¬((Y7 ops.toList).getD j 0).testBit k=true:=fun k hk hun hm=>by
    rw[zgd (hahead k hm)]at hun;cases hun
   rcases(hls j hjs).1 h0 with hjm|rfl|hji
   ·
    obtain⟨pre,post,rfl⟩:=List.append_of_mem hjm
    have hidx:=hseq.idx
    have hnot: ∀k∈pre,¬((Y7 ops.toList).getD j 0).testBit k=true:=fun k hk=>by
     have hki:=hlt k (by simp[hk])
     exact hnotl k hki.1 ((hls k hki.1).2 (.inl (by simp[hk])))
    obtain⟨fp,fj,fq,rfl,hfl,hs⟩:=SeqP.front hseq fun fp fj fq e hfl f hf=>by
     subst e
     have hp:=(List.pairwise_append.1 hpair).2.2 f hf fj (by simp)
     have h1:fp.map (·.idx)=pre∧fj.idx=j:=by
      rw[List.map_append,List.map_cons]at hidx
      obtain⟨e1,e2⟩:=List.append_inj hidx (by simp[hfl])
      exact⟨e1,(List.cons.inj e2).1⟩
     rw[zgG,Bool.or_eq_true]at hp
     refine hp.resolve_left fun hc=> ?_
     rw[h1.2]at hc
     exact hnot f.idx (by rw[←h1.1];exact List.mem_map.2 ⟨f,hf,rfl⟩) (by simpa using hc)
    cases hs with
    |cons hstp hrest=>
     rename_i st2 us
     obtain⟨o',g,b,ho',hg,hf,hcase⟩:=hstp
     rw[hol]at ho'
     cases ho'
     have hnodup:j∉pre++post:=fun hm=>by
      have h2:=List.pairwise_append.1 hsort
      rcases List.mem_append.1 hm with h|h
      ·exact absurd (h2.2.2 j h j (by simp)) (Nat.lt_irrefl _)
      ·exact absurd ((List.pairwise_cons.1 h2.2.1).1 j h) (Nat.lt_irrefl _)
     have next: ∀a' w' own' μ',Rel P cfg base n w' own' μ' (ρ.apply us) st2 a'→LP ops.toList (ρ.apply us)→Keeps base w own μ w' own' μ'→wpAnyIn (wide ro) m P .any ops Q fuel (listed.setIfInBounds j true) a' w':=fun a' w' own' μ' k1 k2 k3=>by
      refine zu9 hP hC hRd hdst he hi0 hQ fuel (pre++post) _ _ _ _ a' w' own' μ' (by simp at hl⊢;omega) (by simpa using hsz) (fun i hi=> ?_) (fun i hi=>hlt i (by simp at hi⊢;rcases hi with h|h<;>simp[h])) ?_ hrest ?_ (fun f hf=>hcom f (by
       simp only[List.mem_append,List.mem_cons]at hf⊢
       rcases hf with h|h
       ·exact .inl h
       ·exact .inr (.inr h))) (fun i hi k hk=> ?_) k1 k2 (hk.trans k3)
      ·rw[zge _ _ _ _ (by omega)]
       split
       ·rename_i e;subst e;simp only[Bool.true_eq_false,false_iff,not_or];have:=hlt i (by simp);exact⟨hnodup,this.2.1,by rw[this.2.2];simp⟩
       ·rename_i e
        rw[hls i hi]
        simp[e]
      ·exact hsort.sublist (List.Sublist.append (List.Sublist.refl _) (List.sublist_cons_self ..))
      ·exact hpair.sublist (List.Sublist.append (List.Sublist.refl _) (List.sublist_cons_self ..))
      ·rw[zge _ _ _ _ (by omega)]at hi⊢
       split
       ·rfl
       ·split at hi
        ·rename_i e;subst e
         exact hahead _ hk
        ·exact hclo _ hi _ hk
     have hpre:Pre P cfg base n ops.toList w own μ ρ st a o:=⟨hR,hlp,hmem,hdst o hmem,zbf hf⟩
     have hw:=hg.wanted hR
     unfold wpOpIn
     simp only[ho,hw]
     rcases hcase with⟨rfl,hst,_⟩|⟨rfl,rfl,rfl,_⟩
     ·rw[if_pos rfl]
      refine zfW (r:=(us,st2)) hP hC hRd hpre (fun us' st' a' w' own' μ' e h2 h3 h4=> ?_) (fun v c st' ρ' w' own' μ' e=>by cases e) hst
      cases e
      exact next a' w' own' μ' h2 h4 h3
     ·rw[if_neg (by simp)]
      refine⟨fun f _=>trivial, ?_⟩
      cases hod:o.dst with
      |none=>rw[hod]at next;exact next a w own μ hR hlp Keeps.refl
      |some d=>
       rw[hod]at next
       have hT:VRep w (prOf own) μ (.tup []) undef:= .tup [] #[] rfl fun i hi=>by simp at hi
       exact next _ w own μ (hR.put d (hpre.dst d hod) (hpre.noPtr hod) hT) (hlp.set hmem hod _) Keeps.refl
   ·
    have hidx:=hseq.idx
    obtain⟨o',g,ho',hg,hf,hst,_⟩:=hseq.now fun f hf=>by
     have:=hcom f hf
     rw[Bool.or_eq_true]at this
     have hfi:f.idx∈is:=by rw[←hidx];exact List.mem_map.2 ⟨f,hf,rfl⟩
     have hlf:=hlt _ hfi
     exact this.resolve_left (hnotl f.idx hlf.1 ((hls f.idx hlf.1).2 (.inl hfi)))
    rw[hol]at ho'
    cases ho'
    have hpre:Pre P cfg base n ops.toList w own μ ρ st a o:=⟨hR,hlp,hmem,hdst o hmem,zbf hf⟩
    have hw:=hg.wanted hR
    unfold wpOpIn
    simp only[ho,hw]
    rw[if_pos trivial]
    refine zfW (R:=(List (Nat×V)×St)⊕(V×St)) (r:=Sum.inr (p,stp)) (K:=fun us st=>some (Sum.inl (us,st))) (Kx:=fun v st=>some (Sum.inr (v,st))) hP hC hRd hpre (fun us' st' a' w' own' μ' e=>by cases e) (fun v c st' ρ' w' own' μ' e h2 h3 h4=> ?_) hst
    cases e
    exact hQ _ _ _ _ _ _ h2 (hk.trans h3) h4
   ·
    exact absurd hji (hnotl i0 hi0 ((hls i0 hi0).2 (.inr (.inl rfl))))
theorem zjq(hm:P.follows .mixedOrders=true)(hP:PlainNames P)(hC:Q2 P cfg O.call)(hRd:QG P cfg O.round){ops:Array Oper}(hdst: ∀o∈ops.toList,∀d,o.dst=some d→d<n){K:Ex→Env→St→Option R}{Q:Exit→Act→World→Prop}{m:Nat}{ro:Option Nat}
  (hQ: ∀ρ' st' a' w' own' μ',K .normal ρ' st'=some r→Rel P cfg base n w' own' μ' ρ' st' a'→NoL ρ'→Keeps base w own μ w' own' μ'→Q .normal a' w')
  (hX: ∀v c ρ' ρ'' st' a' w' own' μ',K (.panic v) ρ' st'=some r→Rel P cfg base n w' own' μ' ρ'' st' a'→Keeps base w own μ w' own' μ'→VRep w' (prOf own') μ' v c→Q (.panic [{v:=c,recovered:=false}]) a' w')
  (hR:Rel P cfg base n w own μ ρ st a) (hN:NoL ρ) (h:ZR P cfg O fid rid ops.toList true ops.toList 0 ρ st [] K=some r):(Code.region rid ops true).wpIn (wide ro) m P Q a w:=by
 rcases zd7 _ 0 _ _ _ rfl h with⟨fts,ρe,ste,h1,h2,h3,h4⟩|⟨k,is,fts,p,stp,ρ1,fi,_,h0,h1,h5,h6,h7,g1,g3,g4,h4⟩
 ·refine wpIn_region_any hm ?_
  have hs:=Step.drawn hR.sto (w.drawn+1)
  have hR':=hR.same hs
  refine zu8 (w0:=w) (YN:=own) (μ0:=μ) hP hC hRd hdst h2 (fun ρ' a' w' own' μ' hE k1 k2 k3=> ?_) ops.size (List.range' 0 ops.toList.length) _ ρ st fts a _ own μ (by simp) (by simp) (fun i hi=> ?_) (fun i hi=> ?_) ?_ h1 ?_ (fun i hi=> ?_) hR' (fun t x off e=>absurd e (hN t x off)) (hs.keeps fun h=>h)
  ·obtain⟨g1,g2⟩:=zd3 ops.toList ρe (k1.congr hE) (k2.congr hE)
   exact hQ _ _ _ _ _ _ h4 g1 g2 k3
  ·simp[hi]
  ·simpa using hi
  ·exact List.pairwise_lt_range'
  ·have:=zcH h3
   rw[List.append_nil,List.pairwise_reverse]at this
   exact this
  ·exfalso
   rw[Array.getD_eq_getD_getElem?]at hi
   by_cases hlt:i<ops.size<;>simp[hlt]at hi
 ·refine wpIn_region_any hm ?_
  have hs:=Step.drawn hR.sto (w.drawn+1)
  have hR':=hR.same hs
  have hk0:k<ops.size:=by simpa using h0
  rw[List.append_nil]at g3 g4
  have hlen:is.length+1≤ops.size:=by
   have h8:=zjp (is.map fun x=>if k<x then x-1 else x) 0 (ops.size-1) (List.pairwise_map.2 (List.Pairwise.imp_of_mem (fun {x y} hx hy hxy=>by
    have e1:=(h6 x hx).2.1
    have e2:=(h6 y hy).2.1
    split<;>split<;>omega) h5)) (fun z hz=>by
    obtain⟨x,hx,rfl⟩:=List.mem_map.1 hz
    have e1:=(h6 x hx).2.1
    have e2:=(h6 x hx).2.2.1
    have e3:x<ops.size:=by simpa using e2
    split<;>omega)
   simp only[List.length_map]at h8
   omega
  refine zu9 (w0:=w) (YN:=own) (μ0:=μ) hP hC hRd hdst g1 (i0:=k) (fi:=fi) hk0 (fun ρ' a' w' own' μ' c k1 k2 k3=>hX _ _ _ _ _ _ _ _ _ h4 k1 k2 k3) ops.size is _ ρ st fts a _ own μ hlen (by simp) (fun i hi=> ?_) (fun i hi=> ?_) h5 h1 ?_ (fun f hf=> ?_) (fun i hi=> ?_) hR' (fun t x off e=>absurd e (hN t x off)) (hs.keeps fun h=>h)
  ·have:=h7 i (Nat.zero_le _) (by simpa using hi)
   rw[List.getD_eq_getElem?_getD]at this
   simp[hi,this]
  ·have h6i:=h6 i hi
   have hi2:i<ops.size:=by simpa using h6i.2.2.1
   refine⟨hi2,h6i.2.1, ?_⟩
   rcases Nat.lt_or_gt_of_ne h6i.2.1 with hlt|hgt
   ·cases hb:((Y7 ops.toList).getD i 0).testBit k with
    |false=>rfl
    |true=>exact absurd (zsH g1 i k hb) (by omega)
   ·exact h6i.2.2.2 hgt
  ·have:=zcH g3
   rw[List.pairwise_reverse]at this
   exact this
  ·exact g4 f (by simpa using hf)
  ·exfalso
   rw[Array.getD_eq_getD_getElem?]at hi
   by_cases hlt:i<ops.size<;>simp[hlt]at hi
end
end Go.AM
namespace Go.AM
open Go Go.RowKit
section
variable{P:Program}{cfg:Cfg}{ext:Ext}{base:Nat}{own own':Own}{μ μ':List Nat}{R:Type}{r:R}
def zhh(P:Program)(cfg:Cfg)(ext:Ext)(m0:Nat):Prop:= ∀k,k≤m0→Q2 P cfg (XJ P cfg ext k).call∧QG P cfg (XJ P cfg ext k).round
theorem zcI{n id:Nat}{ops:Array Oper}{draw:Bool}(h:ZI n (.region id ops draw)=true): ∀o∈ops.toList,∀d,o.dst=some d→d<n:=by
 intro o ho d hd
 simp only[ZI,List.all_eq_true]at h
 have:=h o ho
 rw[hd]at this
 simpa using this
theorem ztN{n:Nat}{w w':World}{a':Act}{K:Ex→Env→St→Option R}{y:Code}{O:Oracle}{f:Nat}{Q:Act→World→Prop}{e:Exit}
  (h:Fin P cfg base n w own μ r (fun e ρ st=>match e with| .normal=>exec P cfg O f y ρ st K|e=>K e ρ st) e a' w')
  (hn: ∀ρ st own' μ',exec P cfg O f y ρ st K=some r→Rel P cfg base n w' own' μ' ρ st a'→NoL ρ→Keeps base w own μ w' own' μ'→Q a' w'):Exit.then Q (Fin P cfg base n w own μ r K) e a' w':=by
 cases e with
 |normal=>
  obtain⟨ρ',st',own',μ',h1,h2,h3,h4⟩:=h
  exact hn ρ' st' own' μ' h1 h2 h3 h4
 |outgrown=>exact h.elim
 |_=>exact h
theorem zrs{n:Nat}{w w':World}{a':Act}{K:Ex→Env→St→Option R}{id:Nat}{e:Exit}
  (h:Fin P cfg base n w own μ r (fun e ρ st=>match e with| .exit i=>bc (Nat.beq i id) (K .normal ρ st) (K (.exit i) ρ st)|e=>K e ρ st) e a' w'):Exit.inBlock id (Fin P cfg base n w own μ r K) e a' w':=by
 cases e with
 |exit i=>
  obtain⟨ρ',st',own',μ',h1,h2,h3,h4⟩:=h
  simp only[Exit.inBlock]
  rcases Yn h1 with⟨hi,hk⟩|⟨hi,hk⟩
  ·rw[if_pos (Nat.eq_of_beq_eq_true hi)]
   exact⟨ρ',st',own',μ',hk,h2,h3,h4⟩
  ·rw[if_neg (Nat.ne_of_beq_eq_false hi)]
   exact⟨ρ',st',own',μ',hk,h2,h3,h4⟩
 |outgrown=>exact h.elim
 |_=>exact h
def Told(P:Program)(cfg:Cfg)(ext:Ext)(m0:Nat)(f n:Nat)(ro:Option Nat)(m base:Nat)(c:Code):Prop:=
 ∀(k:Nat),k≤m0→ ∀(R:Type) (r:R) (K:Ex→Env→St→Option R) (ρ:Env) (st:St) (a:Act) (w:World) (own:Own) (μ:List Nat),
   Rel P cfg base n w own μ ρ st a→NoL ρ→exec P cfg (XJ P cfg ext k) f c ρ st K=some r→c.wpIn (wide ro) m P (Fin P cfg base n w own μ r K) a w
def zk7(S:Code→Prop):Code→Prop
 | .seq a b=>zk7 S a∧zk7 S b
 | .cond _ a b=>zk7 S a∧zk7 S b
 | .block _ b=>zk7 S b
 | .loop b=>zk7 S b
 | .scope b=>(Z9 b=true→S b)∧(Z9 b=false→zk7 S b)
 |_=>True
theorem zcJ{S:Code→Prop}: ∀{c:Code},Z9 c=true→zk7 S c
 | .seq a b,h=>by
  simp only[Z9,Bool.and_eq_true]at h
  exact⟨zcJ h.1,zcJ h.2⟩
 | .cond _ a b,h=>by
  simp only[Z9,Bool.and_eq_true]at h
  exact⟨zcJ h.1,zcJ h.2⟩
 | .block _ b,h=>by simp only[Z9]at h;exact zcJ (c:=b) h
 | .loop b,h=>by simp only[Z9]at h;exact zcJ (c:=b) h
 | .rangeFunc _ _ a b,h=>trivial
 | .scope b,h=>by simp[Z9]at h
 | .region ..,_=>trivial
 | .skip,_=>trivial
 | .label _,_=>trivial
 | .exit _,_=>trivial
 | .goto _,_=>trivial
 | .ret,_=>trivial
 | .refuse _,_=>trivial
theorem znE(hm:P.follows .mixedOrders=true)(hP:PlainNames P){m0:Nat}(hO:zhh P cfg ext m0){f:Nat}{fn:Func}{whole:Code}(hf:P.funcs[f]? =some fn)(hb:fn.body=some whole)(hok:zdq fn.ntmps whole=true){ro:Option Nat}{m:Nat}{S:Code→Prop}(hS: ∀b,S b→Told P cfg ext m0 f fn.ntmps ro m base (.scope b)):
  ∀(c:Code),zk7 S c→ZI fn.ntmps c=true→Yf c=true→zbx (fun k=>Y3 k whole) c→zby (fun k=>Ya k whole) c→(ro=none∨ZC c=[])→Told P cfg ext m0 f fn.ntmps ro m base c:=by
 intro c
 induction c with
 |skip=>
  intro _ _ _ _ _ _ k hk R r K ρ st a w own μ hR hN h
  exact wpIn_skip ⟨ρ,st,own,μ,h,hR,hN,Keeps.refl⟩
 |label l=>
  intro _ _ _ _ _ _ k hk R r K ρ st a w own μ hR hN h
  exact wpIn_label ⟨ρ,st,own,μ,h,hR,hN,Keeps.refl⟩
 |exit i=>
  intro _ _ _ _ _ _ k hk R r K ρ st a w own μ hR hN h
  exact wpIn_exit ⟨ρ,st,own,μ,h,hR,hN,Keeps.refl⟩
 |goto l=>
  intro _ _ _ _ _ _ k hk R r K ρ st a w own μ hR hN h
  exact wpIn_goto ⟨ρ,st,own,μ,h,hR,hN,Keeps.refl⟩
 |ret=>
  intro _ _ _ _ _ _ k hk R r K ρ st a w own μ hR hN h
  exact wpIn_ret ⟨ρ,st,own,μ,h,hR,hN,Keeps.refl⟩
 |refuse s=>intro _ _ h;simp[Yf]at h
 |scope b ih=>
  intro hS' ht hs hl hr hro
  cases hn:Z9 b with
  |true=>exact hS b (hS'.1 hn)
  |false=>
   intro k hk R r K ρ st a w own μ hR hN h
   simp only[ZI]at ht
   simp only[Yf]at hs
   simp only[exec,hn]at h
   refine zga (fun _ _ _ _=>False) (wpIn_mono (ih (hS'.2 hn) ht hs hl hr hro k hk R r _ ρ st a w own μ hR hN h) fun e a' w' hF=> ?_) fun l rest k a w _ hJ=>hJ.elim
   cases e with
   |goto l=>
    obtain⟨ρ',st',own',μ',h1,h2,h3,h4⟩:=hF
    simp only at h1
    cases hlb:findLabel b l with
    |some rest=>rw[hlb]at h1;cases h1
    |none=>
     rw[hlb]at h1
     exact .inr ⟨hlb,ρ',st',own',μ',h1,h2,h3,h4⟩
   |outgrown=>exact hF.elim
   |_=>exact hF
 |rangeFunc f' ps x y ih1 ih2=>
  intro _ _ _ _ hr hro k hk R r K ρ st a w own μ hR hN h
  have:ro=none:=hro.resolve_right (by simp[ZC])
  subst this
  exact zsE hP (hO k hk).1 hf hb hok hr.1 hR hN h
 |seq x y ihx ihy=>
  intro hS' ht hs hl hr hro k hk R r K ρ st a w own μ hR hN h
  simp only[ZI,Bool.and_eq_true]at ht
  simp only[Yf,Bool.and_eq_true]at hs
  refine wpIn_seq (wpIn_mono (ihx hS'.1 ht.1 hs.1 hl.1 hr.1 (hro.imp_right fun e=>by simp only[ZC,List.append_eq_nil_iff]at e;exact e.1) k hk R r _ ρ st a w own μ hR hN h) fun e a' w' hF=> ?_)
  refine ztN hF fun ρ' st' own' μ' h1 h2 h3 h4=> ?_
  exact wpIn_mono (ihy hS'.2 ht.2 hs.2 hl.2 hr.2 (hro.imp_right fun e=>by simp only[ZC,List.append_eq_nil_iff]at e;exact e.2) k hk R r K ρ' st' a' w' own' μ' h2 h3 h1) fun e a' w' hF=>hF.keeps h4
 |block id b ih=>
  intro hS' ht hs hl hr hro k hk R r K ρ st a w own μ hR hN h
  simp only[ZI]at ht
  simp only[Yf]at hs
  exact wpIn_block (wpIn_mono (ih hS' ht hs hl hr hro k hk R r _ ρ st a w own μ hR hN h) fun e a' w' hF=>zrs hF)
 |cond c x y ihx ihy=>
  intro hS' ht hs hl hr hro k hk R r K ρ st a w own μ hR hN h
  simp only[ZI,Bool.and_eq_true]at ht
  simp only[Yf,Bool.and_eq_true]at hs
  simp only[exec]at h
  split at h
  ·rename_i t
   split at h
   ·rename_i b hv
    have hev:a.eval (.tmp t)= .bool b:=by
     have:=zfX hR hv
     simp[Act.eval,this]
    rcases Yn h with⟨rfl,h1⟩|⟨rfl,h1⟩
    ·exact wpIn_cond_true hev (ihx hS'.1 ht.1 hs.1 hl.1 hr.1 (hro.imp_right fun e=>by simp only[ZC,List.append_eq_nil_iff]at e;exact e.1) k hk R r K _ st a w own μ (hR.congr (XE hv)) (fun t' x off e=>hN t' x off (by rwa [XE hv]at e)) h1)
    ·exact wpIn_cond_false hev (ihy hS'.2 ht.2 hs.2 hl.2 hr.2 (hro.imp_right fun e=>by simp only[ZC,List.append_eq_nil_iff]at e;exact e.2) k hk R r K _ st a w own μ (hR.congr (XE hv)) (fun t' x off e=>hN t' x off (by rwa [XE hv]at e)) h1)
   ·cases h
  ·rename_i b
   have hev:a.eval (.const (.bool b))= .bool b:=rfl
   rcases Yn h with⟨rfl,h1⟩|⟨rfl,h1⟩
   ·exact wpIn_cond_true hev (ihx hS'.1 ht.1 hs.1 hl.1 hr.1 (hro.imp_right fun e=>by simp only[ZC,List.append_eq_nil_iff]at e;exact e.1) k hk R r K ρ st a w own μ hR hN h1)
   ·exact wpIn_cond_false hev (ihy hS'.2 ht.2 hs.2 hl.2 hr.2 (hro.imp_right fun e=>by simp only[ZC,List.append_eq_nil_iff]at e;exact e.2) k hk R r K ρ st a w own μ hR hN h1)
  ·cases h
 |region id ops draw=>
  intro _ ht hs _ _ _ k hk R r K ρ st a w own μ hR hN h
  simp only[exec]at h
  cases draw with
  |true=>exact zjq hm hP (hO k hk).1 (hO k hk).2 (zcI ht) (fun ρ' st' a' w' own' μ' h1 h2 h3 h4=>⟨ρ',st',own',μ',h1,h2,h3,h4⟩) (fun v c ρ' ρ'' st' a' w' own' μ' h1 h2 h3 h4=>⟨v,c,ρ',ρ'',st',own',μ',h1,h2,h3,h4,rfl⟩) hR hN h
  |false=>
  refine wpIn_region ?_
  have:=Jh (m:=m) (ro:=ro) (Q:=Fin P cfg base fn.ntmps w own μ r K) hP (hO k hk).1 (hO k hk).2 (zcI ht) (fun ρ' st' a' w' own' μ' h1 h2 h3 h4=>⟨ρ',st',own',μ',h1,h2,h3,h4⟩)
   (fun v c ρ' ρ'' st' a' w' own' μ' h1 h2 h3 h4=>⟨v,c,ρ',ρ'',st',own',μ',h1,h2,h3,h4,rfl⟩) ops.toList 0 ρ st [] a w own μ rfl hR (fun t x off e=>absurd e (hN t x off)) Keeps.refl h
  rwa [←List.range_eq_range',Array.length_toList]at this
 |loop b ih=>
  intro hS' ht hs hl hr hro k hk R r K ρ st a w own μ hR hN h
  simp only[ZI]at ht
  simp only[Yf]at hs
  obtain⟨hfind,hkey,hl⟩:=hl
  simp only[exec]at h
  obtain⟨vals,h,hR1,hN1⟩:=Qk hR hN _ _ h
  obtain⟨x,hx,h⟩:=Y8 h
  refine zn5 (fun k' a' w'=> ∃own' μ' vals' st',k'≤m0∧(XJ P cfg ext k').loop f (keyOf b) vals' st'=some x∧
   Rel P cfg base fn.ntmps w' own' μ' (Jk ((cfg.keep f (keyOf b)).map (·.1)) vals') st' a'∧NoL (Jk ((cfg.keep f (keyOf b)).map (·.1)) vals')∧Keeps base w own μ w' own' μ') ?_ (k₀:=k) ⟨own,μ,vals,st,hk,hx,hR1,hN1,Keeps.refl⟩
  rintro k' a' w' ⟨own',μ',vals',st',hk',hx',hR',hN',hK'⟩
  cases k' with
  |zero=>cases hx'
  |succ k'=>
   have hbody:Zz P cfg (XJ P cfg ext k') f (keyOf b) vals' st'=some x:=hx'
   simp only[Zz,hf,hb,hkey,if_true,hfind]at hbody
   refine wpIn_mono (ih hS' ht hs hl hr hro k' (by omega) _ x _ _ st' a' w' own' μ' hR' hN' hbody) fun e a2 w2 hF=> ?_
   have hF:=hF.keeps hK'
   cases e with
   |normal=>
    obtain⟨ρ2,st2,own2,μ2,h1,h2,h3,h4⟩:=hF
    obtain⟨vals2,h1,hR2,hN2⟩:=Qk h2 h3 _ _ h1
    exact⟨k',by omega,own2,μ2,vals2,st2,by omega,h1,hR2,hN2,h4⟩
   |goto l=>
    obtain⟨ρ2,st2,own2,μ2,h1,h2,h3,h4⟩:=hF
    simp only[Option.some.injEq]at h1
    subst h1
    rcases zam h with⟨he,_⟩|⟨he,_⟩|⟨j,he,_⟩|⟨v,he,_⟩<;>cases he
   |outgrown=>exact hF.elim
   |ret=>exact Jo h (fun _ _=>rfl) (fun _ _ _ _=>rfl) (fun _ _ _=>rfl) (by simp) (by simp) hF
   |exit i=>exact Jo h (fun _ _=>rfl) (fun _ _ _ _=>rfl) (fun _ _ _=>rfl) (by simp) (by simp) hF
   |panic ch=>exact Jo h (fun _ _=>rfl) (fun _ _ _ _=>rfl) (fun _ _ _=>rfl) (by simp) (by simp) hF
theorem zb6{n:Nat}{F:Nat→Option Code}{G:Nat→Option (Array Tmp×Code×Code)}{H:Nat→Option Code}{ro:Option Nat}: ∀{c:Code},ZI n c=true→Yf c=true→zbx F c→zby G c→zgb H c→(ro=none∨ZC c=[])→
  zk7 (fun b=>ZI n b=true∧Yf b=true∧zbx F b∧zby G b∧Z9 b=true∧(ro=none∨ZC b=[])∧ ∀l,(findLabel b l).isSome=true→H l=some b) c
 | .seq a b,h1,h2,h3,h4,h5,h6=>by
  simp only[ZI,Bool.and_eq_true]at h1
  simp only[Yf,Bool.and_eq_true]at h2
  simp only[ZC,List.append_eq_nil_iff]at h6
  exact⟨zb6 h1.1 h2.1 h3.1 h4.1 h5.1 (h6.imp_right fun e=>e.1),zb6 h1.2 h2.2 h3.2 h4.2 h5.2 (h6.imp_right fun e=>e.2)⟩
 | .cond _ a b,h1,h2,h3,h4,h5,h6=>by
  simp only[ZI,Bool.and_eq_true]at h1
  simp only[Yf,Bool.and_eq_true]at h2
  simp only[ZC,List.append_eq_nil_iff]at h6
  exact⟨zb6 h1.1 h2.1 h3.1 h4.1 h5.1 (h6.imp_right fun e=>e.1),zb6 h1.2 h2.2 h3.2 h4.2 h5.2 (h6.imp_right fun e=>e.2)⟩
 | .block _ b,h1,h2,h3,h4,h5,h6=>by
  simp only[ZI]at h1
  simp only[Yf]at h2
  simp only[ZC]at h6
  exact zb6 (c:=b) h1 h2 h3 h4 h5 h6
 | .loop b,h1,h2,h3,h4,h5,h6=>by
  simp only[ZI]at h1
  simp only[Yf]at h2
  simp only[ZC]at h6
  exact zb6 (c:=b) h1 h2 h3.2.2 h4 h5 h6
 | .rangeFunc _ _ a b,_,_,_,_,_,_=>trivial
 | .scope b,h1,h2,h3,h4,h5,h6=>by
  simp only[ZI]at h1
  simp only[Yf]at h2
  simp only[ZC]at h6
  exact⟨fun hn=>⟨h1,h2,h3,h4,hn,h6,h5.1 hn⟩,fun hn=>zb6 (c:=b) h1 h2 h3 h4 (h5.2 hn) h6⟩
 | .region ..,_,_,_,_,_,_=>trivial
 | .skip,_,_,_,_,_,_=>trivial
 | .label _,_,_,_,_,_,_=>trivial
 | .exit _,_,_,_,_,_,_=>trivial
 | .goto _,_,_,_,_,_,_=>trivial
 | .ret,_,_,_,_,_,_=>trivial
 | .refuse _,_,_,_,_,_,_=>trivial
theorem zpx(hm:P.follows .mixedOrders=true)(hP:PlainNames P){m0:Nat}(hO:zhh P cfg ext m0){f:Nat}{fn:Func}{whole:Code}(hf:P.funcs[f]? =some fn)(hb:fn.body=some whole)(hok:zdq fn.ntmps whole=true){ro:Option Nat}{m:Nat}{b:Code}
  (ht:ZI fn.ntmps b=true) (hs:Yf b=true) (hl:zbx (fun k=>Y3 k whole) b) (hr:zby (fun k=>Ya k whole) b) (hn:Z9 b=true) (hro:ro=none∨ZC b=[]) (hfs: ∀l,(findLabel b l).isSome=true→Yr l whole=some b):
  Told P cfg ext m0 f fn.ntmps ro m base (.scope b):=by
 intro k hk R r K ρ st a w own μ hR hN h
 have told: ∀(c:Code),Z9 c=true→ZI fn.ntmps c=true→Yf c=true→zbx (fun k=>Y3 k whole) c→zby (fun k=>Ya k whole) c→(ro=none∨ZC c=[])→Told P cfg ext m0 f fn.ntmps ro m base c:=
  fun c hc=>znE hm hP hO hf hb hok (S:=fun _=>False) (fun _ h=>h.elim) c (zcJ hc)
 simp only[exec]at h
 let J:Nat→Nat→Act→World→Prop:=fun l k' a' w'=> ∃x own' μ' vals' st',k'≤m0∧(XJ P cfg ext k').loop f (YG+l) vals' st'=some x∧
  behind P cfg f (YG+l) true (JF b) (XY b) x K=some r∧
  Rel P cfg base fn.ntmps w' own' μ' (Jk ((cfg.keep f (YG+l)).map (·.1)) vals') st' a'∧NoL (Jk ((cfg.keep f (YG+l)).map (·.1)) vals')∧Keeps base w own μ w' own' μ'
 refine zga J ?_ ?_
 ·refine wpIn_mono (told b hn ht hs hl hr hro k hk R r _ ρ st a w own μ hR hN h) fun e a' w' hF=> ?_
  cases e with
  |goto l=>
   obtain⟨ρ',st',own',μ',h1,h2,h3,h4⟩:=hF
   simp only at h1
   cases hlb:findLabel b l with
   |some rest=>
    rw[hlb]at h1
    simp only at h1
    simp only[hn]at h1
    obtain⟨vals,h1,hR1,hN1⟩:=Qk h2 h3 _ _ (show Yh P (cfg.keep f (YG+l)) ρ' _=some r from h1)
    obtain⟨x,hx,h1⟩:=Y8 h1
    exact .inl ⟨by rw[hlb];rfl,k,x,own',μ',vals,st',hk,hx,h1,hR1,hN1,h4⟩
   |none=>
    rw[hlb]at h1
    exact .inr ⟨hlb,ρ',st',own',μ',h1,h2,h3,h4⟩
  |outgrown=>exact hF.elim
  |_=>exact hF
 ·rintro l rest k' a' w' hlb ⟨x,own',μ',vals',st',hk',hx',hbeh,hR',hN',hK'⟩
  cases k' with
  |zero=>cases hx'
  |succ k'=>
   obtain⟨r1,r2,r3,r4,r5,r6⟩:=zfg hlb ht hs hl hr hn
   have hfS:=hfs l (by rw[hlb];rfl)
   have hbody:Zz P cfg (XJ P cfg ext k') f (YG+l) vals' st'=some x:=hx'
   have hkey: ¬(YG+l<YG):=by omega
   simp only[Zz,hf,hb,if_neg hkey,Nat.add_sub_cancel_left,hfS,hlb]at hbody
   refine wpIn_mono (told rest r5 r1 r2 r3 r4 (hro.imp_right r6) k' (by omega) _ x _ _ st' a' w' own' μ' hR' hN' hbody) fun e a2 w2 hF=> ?_
   have hF:=hF.keeps hK'
   cases e with
   |normal=>
    obtain⟨ρ2,st2,own2,μ2,h1,h2,h3,h4⟩:=hF
    simp only[Option.some.injEq]at h1
    subst h1
    rcases zam hbeh with⟨_,hk2⟩|⟨he,_⟩|⟨j,he,_⟩|⟨v,he,_⟩
    ·obtain⟨ρ3,q1,q2,q3⟩:=Je h2 h3 _ _ hk2
     exact⟨ρ3,st2,own2,μ2,q1,q2,q3,h4⟩
    ·cases he
    ·cases he
    ·cases he
   |goto l'=>
    obtain⟨ρ2,st2,own2,μ2,h1,h2,h3,h4⟩:=hF
    simp only at h1
    split at h1
    ·rename_i e;subst e
     obtain⟨vals2,h1,hR2,hN2⟩:=Qk h2 h3 _ _ h1
     exact .inl ⟨by rw[hlb];rfl,k',by omega,x,own2,μ2,vals2,st2,by omega,h1,hbeh,hR2,hN2,h4⟩
    ·cases h1
   |outgrown=>exact hF.elim
   |ret=>exact Jo hbeh (fun _ _=>rfl) (fun _ _ _ _=>rfl) (fun _ _ _=>rfl) (by simp) (by simp) hF
   |exit i=>exact Jo hbeh (fun _ _=>rfl) (fun _ _ _ _=>rfl) (fun _ _ _=>rfl) (by simp) (by simp) hF
   |panic ch=>exact Jo hbeh (fun _ _=>rfl) (fun _ _ _ _=>rfl) (fun _ _ _=>rfl) (by simp) (by simp) hF
theorem zms(hm:P.follows .mixedOrders=true)(hP:PlainNames P){m0:Nat}(hO:zhh P cfg ext m0){f:Nat}{fn:Func}{whole:Code}(hf:P.funcs[f]? =some fn)(hb:fn.body=some whole)(hok:zdq fn.ntmps whole=true){ro:Option Nat}{m:Nat}
  (c:Code) (h1:ZI fn.ntmps c=true) (h2:Yf c=true) (h3:zbx (fun k=>Y3 k whole) c) (h4:zby (fun k=>Ya k whole) c) (h5:zgb (fun l=>Yr l whole) c) (h6:ro=none∨ZC c=[]):Told P cfg ext m0 f fn.ntmps ro m base c:=
 znE hm hP hO hf hb hok (fun b hb'=>zpx hm hP hO hf hb hok hb'.1 hb'.2.1 hb'.2.2.1 hb'.2.2.2.1 hb'.2.2.2.2.1 hb'.2.2.2.2.2.1 hb'.2.2.2.2.2.2) c (zb6 h1 h2 h3 h4 h5 h6) h1 h2 h3 h4 h6
end
end Go.AM
namespace Go.AM
open Go Go.RowKit
section
variable{P:Program}{cfg:Cfg}{base n:Nat}{w w':World}{own own' own1 own2:Own}{μ μ':List Nat}{ρ:Env}{st st':St}{a:Act}{R:Type}{r:Out×St}
def zk8(own:Own):Own:=fun b i=>match own b i with| .t _ _=> .pr| .d=> .free|g=>g
theorem zhi(own:Own):Flat (zk8 own):=fun b i=>by
 unfold zk8
 cases own b i with
 |free=>exact .inl rfl
 |pr=>exact .inr (.inl rfl)
 |fr=>exact .inr (.inr (.inl rfl))
 |d=>exact .inl rfl
 |t t j=>exact .inr (.inl rfl)
 |r q j=>exact .inr (.inr (.inr ⟨q,j,rfl⟩))
theorem step_end(hs:Sto P cfg base w own μ st):Step base w own μ w (zk8 own) μ (fun g=>(∃t j,g= .t t j)∨g= .d):=by
 refine Step.retag hs (fun g=>match g with| .t _ _=> .pr| .d=> .free|g=>g) rfl (fun g hg=> ?_) (fun g hg=> ?_) rfl rfl
 ·cases g with
  |t t j=>exact absurd (.inl ⟨t,j,rfl⟩) hg
  |d=>exact absurd (.inr rfl) hg
  |_=>rfl
 ·cases g with
  |fr=>rfl
  |_=>cases hg
theorem zmt(hs:Sto P cfg base w own μ st):Sto P cfg base w (zk8 own) μ st:=hs.step (step_end hs) hs.len fun r x b h1 h2=> .inl ⟨h1,by rintro j (⟨_,_,e⟩|e)<;>cases e⟩
def znF(q:Nat)(own:Own):Own:=fun b i=>match own b i with| .r q' j=>(if q'=q then .pr else .r q' j)|g=>g
theorem zlj(hs:Sto P cfg base w own μ st)(q:Nat):Step base w own μ w (znF q own) μ (fun g=> ∃j,g= .r q j):=by
 refine Step.retag hs (fun g=>match g with| .r q' j=>(if q'=q then .pr else .r q' j)|g=>g) rfl (fun g hg=> ?_) (fun g hg=> ?_) rfl rfl
 ·cases g with
  |r q' j=>simp only;rw[if_neg (fun e=>hg ⟨j,by rw[e]⟩)]
  |_=>rfl
 ·cases g with
  |r q' j=>
   simp only at hg
   split at hg<;>cases hg
  |fr=>rfl
  |_=>cases hg
theorem ztO{q:Nat}{b i:Nat}(h:own b i= .pr∨ ∃j,own b i= .r q j):znF q own b i= .pr:=by
 rcases h with h|⟨j,h⟩
 ·simp only[znF,h]
 ·simp only[znF,h,if_pos]
theorem zrt(hf:Flat own)(q:Nat):Flat (znF q own):=fun b i=>by
 unfold znF
 rcases hf b i with h|h|h|⟨q',j,h⟩
 ·rw[h];exact .inl rfl
 ·rw[h];exact .inr (.inl rfl)
 ·rw[h];exact .inr (.inr (.inl rfl))
 ·rw[h];simp only;split
  ·exact .inr (.inl rfl)
  ·exact .inr (.inr (.inr ⟨q',j,rfl⟩))
theorem zsI(hs:Sto P cfg base w own μ st)(q:Nat):Sto P cfg base w (znF q own) μ (st.set q .dead):=
 hs.step (zlj hs q) (by simp[hs.len]) fun k y b' h1' h2'=>by
  rcases za8 h1' with⟨rfl,rfl⟩|⟨hne,hk⟩
  ·exact .inr trivial
  ·exact .inl ⟨hk,fun j ⟨j',e⟩=>hne (by cases e;rfl)⟩
def zd9(tmps:Array Value):ResultVar→Sem Value
 | .tmp t=>pure (tmps.getD t undef)
 | .cell a t=>do loadVar t (←asAddr (tmps.getD a undef))
theorem zjr{tmps:Array Value}{x:Nat}{t:TypeId}{b off:Nat}(hx:tmps.getD x undef= .pointer (some ⟨b,off,none⟩)){c:Value}(hl:(loadVar t ⟨b,off,none⟩).run P w= .ok c w):
  (zd9 tmps (.cell x t)).run P w= .ok c w:=by
 simp only[zd9,hx,asAddr,pure_bind,hl]
theorem zmu{st0:St}(hR:Rel P cfg base n w own μ ρ st0 a)(hE:Sto P cfg base w own1 μ st)(hF:Flat own1)
  (h1: ∀b i,(own b i= .pr∨ ∃t j,own b i= .t t j)→own1 b i= .pr) {rm:Bool} {k:Nat} {rv:ResultVar} {t:TypeId} {K:V→St→Option (Out×St)} (h:ziD P rm k ρ st rv t K=some r):
  ∃v st' own2 c,K v st'=some r∧Sto P cfg base w own2 μ st'∧Flat own2∧Keeps base w own1 μ w own2 μ∧VRep w (prOf own2) μ v c∧(zd9 a.tmps rv).run P w= .ok c w:=by
 have hmono: ∀{v c},VRep w (prOf own) μ v c→VRep w (prOf own1) μ v c:=fun hv=>hv.mono (fun b i e=>⟨h1 b i (.inl e),rfl⟩) fun _ _ h=>h
 cases rv with
 |tmp x=>
  have hT:=hR.env x
  have hrun:(zd9 a.tmps (.tmp x)).run P w= .ok (a.tmps.getD x undef) w:=rfl
  simp only[ziD]at h
  have hval: ∀v,zgD false (ZZ P t (ρ.get x))=v→VRep w (prOf own1) μ (plain1 v) (a.tmps.getD x undef)∧ ∀sh q lo m,v= .row sh q lo m→VRep w (prOf own1) μ v (a.tmps.getD x undef):=by
   intro v hv
   have key: ∀{u},VRep w (prOf own1) μ u (a.tmps.getD x undef)→v=zgD false u→(∀d sh z,u≠ .loc d sh z)→(∀y off,u≠ .lptr y off)→VRep w (prOf own1) μ (plain1 v) (a.tmps.getD x undef)∧ ∀sh q lo m,v= .row sh q lo m→VRep w (prOf own1) μ v (a.tmps.getD x undef):=by
    intro u hu e n1 n2
    cases u with
    |loc d sh z=>exact absurd rfl (n1 _ _ _)
    |lptr y off=>exact absurd rfl (n2 _ _)
    |vec m sh es=>
     cases m with
     |grow=>
      exfalso
      generalize a.tmps.getD x undef=c at hu
      cases hu with
      |vecE _ _ A c hg hm=>exact absurd rfl hg
      |vec _ _ _ ad c f hm=>exact absurd rfl hm
     |_=>simp only[zgD]at e;subst e;exact⟨hu.plain1,fun _ _ _ _ e=>by cases e⟩
    |_=>simp only[zgD]at e;subst e;exact⟨hu.plain1,fun _ _ _ _ _=>hu⟩
   cases hx:ρ.get x with
   |loc d sh u=>
    rw[hx]at hT hv
    simp only[ZZ,zgD]at hv
    subst hv
    exact⟨zds hT (fun b i e=>h1 b i (.inr ⟨_,_,e⟩)) (fun b i e=>h1 b i (.inl e)),fun _ _ _ _ e=>by cases e⟩
   |lptr y off=>
    rw[hx]at hv
    simp only[ZZ,zgD]at hv
    subst hv
    exact⟨.undef _,fun _ _ _ _ e=>by cases e⟩
   |vec m sh es=>
    cases m with
    |grow=>
     rw[hx]at hT hv
     simp only[ZZ,zgD]at hv
     subst hv
     exact⟨hmono (GRep.plain hT),fun _ _ _ _ e=>by cases e⟩
    |_=>
     rw[hx]at hT hv
     exact key (zcc (P:=P) (t:=t) (hmono hT)) hv.symm (by simp[ZZ]) (by simp[ZZ])
   |nils=>
    rw[hx]at hT hv
    refine key (zcc (P:=P) (t:=t) (hmono hT)) hv.symm ?_ ?_
    ·intro d sh z;simp only[ZZ];split<;>simp
    ·intro d sh;simp only[ZZ];split<;>simp
   |_=>
    rw[hx]at hT hv
    exact key (zcc (P:=P) (t:=t) (hmono hT)) hv.symm (by simp[ZZ]) (by simp[ZZ])
  split at h
  ·rename_i sh q lo m hv
   obtain⟨_,h⟩:=Zh h
   obtain⟨y,hy,h⟩:=Yd h
   obtain⟨sh',es,rfl,h⟩:=Q1 h
   obtain⟨hg,h⟩:=Zh h
   simp only[Bool.and_eq_true,decide_eq_true_eq]at hg
   obtain⟨rfl,hl⟩:=hg
   have hV:=(hval _ hv).2 _ _ _ _ rfl
   have hs:=zlj hE q
   refine⟨_,_,znF q own1,_,h,zsI hE q,zrt hF q,Yt hs fun g ⟨j,e⟩=> .inr ⟨q,j,e⟩, ?_,hrun⟩
   exact zcA hE hy hl hV hs (fun b i hb=>ztO hb)
  ·rename_i v hn
   exact⟨_,_,own1,_,h,hE,hF,Keeps.refl,(hval _ rfl).1,hrun⟩
 |cell x t'=>
  have hT:=hR.env x
  simp only[ziD]at h
  split at h
  ·rename_i d sh v hx
   rw[hx]at hT
   obtain⟨hsh,h2⟩:=Zh h
   simp only[Qu,Bool.and_eq_true,decide_eq_true_eq]at hsh
   obtain⟨hty,rfl⟩:=hsh
   obtain⟨b,ccs,hc,hB,hs,hcell,hj,hd⟩:=zaO hT
   refine⟨_,_,own1,_,h2,hE,hF,Keeps.refl, ?_,zjr hc (Y6 hty w b 0 (fun j=>ccs.getD j undef) fun j hj'=>by rw[Nat.zero_add];exact hcell j hj')⟩
   cases rm with
   |false=>exact hmono (VRep.of_cells (Qb hs) fun j hj'=>⟨(hj j hj').1,by simp only[cond_false];rw[Y5];exact(hj j hj').2.plain1⟩)
   |true=>exact hmono (VRep.of_cells (znd hs) fun j hj'=>⟨(hj j hj').1,by simp only[cond_true];rw[znc];exact(hj j hj').2.drop1⟩)
  ·rename_i sh v hx
   rw[hx]at hT
   obtain⟨hsh,h2⟩:=Zh h
   simp only[Qu,Bool.and_eq_true,decide_eq_true_eq]at hsh
   obtain⟨hty,rfl⟩:=hsh
   obtain⟨b,off,f,he,hcell,hs,hc⟩:=VRep.cptr_inv (hT:VRep w (prOf own) μ _ _)
   exact⟨_,_,own1,_,h2,hE,hF,Keeps.refl,hmono (VRep.of_cells hs fun j hj=>⟨(hcell j hj).2.2,hc j hj⟩),zjr he (Y6 hty w b off f fun j hj=>(hcell j hj).1)⟩
  ·rename_i q off hx
   rw[hx]at hT
   obtain⟨y,hy,h⟩:=Yd h
   obtain⟨cs,rfl,h⟩:=zc7 h
   obtain⟨hg,h⟩:=Zh h
   simp only[Bool.and_eq_true,decide_eq_true_eq]at hg
   obtain⟨hb,hty⟩:=hg
   have hT':VRep w (prOf own) μ (.ref q off) (a.tmps.getD x undef):=hT
   generalize hc:a.tmps.getD x undef=c at hT'
   cases hT' with
   |ref _ _ b hmu=>
   obtain⟨ccs,ty,fz,hh,hn,hf,ho,hcell,hj⟩:=ziE hE hy hmu
   have hna: ∀j,j<cs.length→ ∀c,cs.getD j .undef≠ .agg c:=fun j hj'=>zc4 (hj j hj').2 (hj j hj').1
   refine⟨_,_,own1,_,h,hE,hF,Keeps.refl,VRep.of_cells (Qb (Qz hb hna)) fun j hj'=> ?_,zjr hc (Y6 hty w b off (fun j=>ccs.getD (off+j) undef) fun j hj'=>hcell _ (by omega))⟩
   have:=hj (off+j) (by omega)
   refine⟨this.1, ?_⟩
   rw[Y5,Q0 hb hna hj']
   exact this.2.plain1
  ·cases h
theorem zbR{st0:St}(hR:Rel P cfg base n w own μ ρ st0 a){rm:Bool}{k:Nat}: ∀(rs:List ResultVar) (ts:List TypeId) (st:St) (own1:Own) (K:List V→St→Option (Out×St)),rs.length≤ts.length→Sto P cfg base w own1 μ st→Flat own1→
  (∀b i,(own b i= .pr∨ ∃t j,own b i= .t t j)→own1 b i= .pr)→Qi P rm k ρ st (rs.zip ts) K=some r→
  ∃vs st' own2 cs,K vs st'=some r∧Sto P cfg base w own2 μ st'∧Flat own2∧Keeps base w own1 μ w own2 μ∧vs.length=cs.length∧(∀i,i<vs.length→VRep w (prOf own2) μ (vs.getD i .undef) (cs.getD i undef))∧
   (rs.mapM (zd9 a.tmps)).run P w= .ok cs w
 |[],ts,st,own1,K,_,hE,hF,h1,h=>⟨[],st,own1,[],h,hE,hF,Keeps.refl,rfl,fun i hi=>by simp at hi,rfl⟩
 |rv::rs,[],st,own1,K,hl,_,_,_,_=>by simp at hl
 |rv::rs,t::ts,st,own1,K,hl,hE,hF,h1,h=>by
  simp only[List.zip_cons_cons,Qi]at h
  obtain⟨v,st',own2,c,h,hE2,hF2,hk,hv,hrun⟩:=zmu hR hE hF h1 h
  obtain⟨vs,st'',own3,cs,h,hE3,hF3,hk3,hl3,hvs,hrun3⟩:=zbR hR rs ts st' own2 _ (by simpa using hl) hE2 hF2 (fun b i hb=>(hk.pr b i (h1 b i hb)).1) h
  refine⟨_,st'',own3,c::cs,h,hE3,hF3,hk.trans hk3,by simp[hl3],fun i hi=> ?_, ?_⟩
  ·cases i with
   |zero=>simpa using hk3.vrep hv
   |succ i=>simpa using hvs i (by simpa using hi)
  ·simp only[List.mapM_cons,Sem.run_bind,hrun,Result.andThen_ok,hrun3,Sem.run_pure]
end
end Go.AM
namespace Go.AM
open Go Go.RowKit
section
variable{P:Program}{cfg:Cfg}{ext:Ext}{base n:Nat}{w w' w0:World}{own own' YN own1 own2:Own}{μ μ' μ0:List Nat}{ρ:Env}{st st':St}{a:Act}{x:Out×St}
theorem zsJ{g:Tag}{sh:Sh}{es:List V}{c:Value}(h:GRep w own μ g sh es c){k:Nat}(hn:Zk k es=true):GRep w own (μ.take k) g sh es c:=by
 obtain⟨A,cap,hc,hl,h⟩:=h
 refine⟨A,cap,hc,hl, ?_⟩
 rcases h with h|⟨a,f,ccs,ty,fz,hA,ha,hb,hcap,hcell,hsh,hrep,hsp⟩
 ·exact .inl h
 ·exact .inr ⟨a,f,ccs,ty,fz,hA,ha,hb,hcap,hcell,hsh,fun i j hi hj=>(hrep i j hi hj).cut (za6 (YV hn i hi) j),hsp⟩
theorem znG{g:Tag}{v:V}{c:Value}(h:CRep w own μ g v c){k:Nat}(hn:below k v=true):CRep w own (μ.take k) g v c:=by
 unfold CRep at*
 split
 ·rename_i sh es
  simp only[below]at hn
  exact zsJ h hn
 ·rename_i hne
  split at h
  ·exact absurd rfl (hne _ _)
  ·exact h.cut hn
theorem zhW{k:Nat}: ∀(ks:List Nat) (vals:List V),Zk k vals=true→ ∀t,below k ((Jk ks vals).get t)=true
 |[],vals,_,t=>by cases vals<;>rfl
 |_::_,[],_,t=>rfl
 |y::ks,v::vals,h,t=>by
  simp only[Zk,Bool.and_eq_true]at h
  have:(Jk (y::ks) (v::vals)).get t=(Env.set (Jk ks vals) y v).get t:=rfl
  rw[this,Zp]
  split
  ·exact h.1
  ·exact zhW ks vals h.2 t
theorem zsK{q b:Nat}{y:Res}(h:RRep P cfg w own μ q b y){k:Nat}(hn:zaW k y=true):RRep P cfg w own (μ.take k) q b y:=by
 cases y with
 |dead=>trivial
 |box cells=>
  obtain⟨ccs,hB,hj⟩:=h
  exact⟨ccs,hB,fun j hj'=>⟨(hj j hj').1,znG (hj j hj').2 (YV hn j hj')⟩⟩
 |row sh es=>
  rcases h with h|⟨m,ccs,hB,hl,hj⟩
  ·exact .inl h
  ·exact .inr ⟨m,ccs,hB,hl,fun i hi=>⟨(hj i hi).1,fun j hj'=>⟨((hj i hi).2 j hj').1,((hj i hi).2 j hj').2.cut (za6 (YV hn i hi) j)⟩⟩⟩
 |spare sh n2 q2=>
  obtain⟨cap,off,h1,h2,h⟩:=h
  simp only[zaW,decide_eq_true_eq]at hn
  exact⟨cap,off,by rw[List.getElem?_take,if_pos (by omega)];exact h1,by rw[List.getElem?_take,if_pos (by omega)];exact h2,h⟩
 |loop fid key vals s p=>
  obtain⟨ho,L,fn,c,hb,h1,h2,h3,h4,h5,h6,h7,h8⟩:=h
  exact⟨ho,L,fn,c,hb,h1,h2,h3,h4,h5,h6,h7,fun t=>(h8 t).cut (zhW _ _ hn t)⟩
 |iter z p=>exact h
 |map ck cv es=>exact h
theorem zhX{k:Nat}: ∀{st:St},Zt k st=true→ ∀(q:Nat) (y:Res),st[q]? =some y→zaW k y=true
 |[],_,q,y,h=>by simp at h
 |z::st,hb,0,y,h=>by
  simp only[Zt,Bool.and_eq_true]at hb
  simp only[List.getElem?_cons_zero,Option.some.injEq]at h
  subst h;exact hb.1
 |z::st,hb,q+1,y,h=>by
  simp only[Zt,Bool.and_eq_true]at hb
  simp only[List.getElem?_cons_succ]at h
  exact zhX hb.2 q y h
theorem zqA(h:Sto P cfg base w own μ st){k:Nat}(hb:Zt k (st.take k)=true):Sto P cfg base w own (μ.take k) (st.take k):=by
 refine⟨by simp[h.len],fun q y b hy hm=> ?_,h.alloc,h.low,h.size⟩
 have hq:zaW k y=true:=zhX hb q y hy
 rw[List.getElem?_take]at hy hm
 split at hy
 ·rename_i hlt
  rw[if_pos hlt]at hm
  exact zsK (h.res q y b hy hm) hq
 ·cases hy
theorem zlk(k:Keeps base w0 YN μ0 w own μ):Keeps base w0 YN μ0 w own (μ.take μ0.length):=by
 refine⟨k.below,k.pr,k.fr,k.blk,k.obj,[], ?_⟩
 obtain⟨ν,rfl⟩:=k.mu
 simp
theorem zmv{p:Bool}{v:V}{c:Value}(hE:Sto P cfg base w own μ st)(hk:Keeps base w0 YN μ0 w own μ)(hv:VRep w (prOf own) μ v c){out:Out}(ho:out= .ret v∨out= .panic v)(h:gc p μ0.length out st=some x):
  ∃μ',Sto P cfg base w own μ' x.2∧Keeps base w0 YN μ0 w own μ'∧x.1=out∧VRep w (prOf own) μ' v c:=by
 have cut:(below μ0.length v&&Zt μ0.length (st.take μ0.length))=true→ ∃μ',Sto P cfg base w own μ' (st.take μ0.length)∧Keeps base w0 YN μ0 w own μ'∧VRep w (prOf own) μ' v c:=fun hb=>by
  simp only[Bool.and_eq_true]at hb
  exact⟨_,zqA hE hb.2,zlk hk,hv.cut hb.1⟩
 rcases ho with rfl|rfl
 ·simp only[gc]at h
  rcases Yn h with⟨_,h⟩|⟨_,h⟩
  ·obtain⟨hb,h⟩:=Zh h
   cases h
   obtain⟨μ',h1,h2,h3⟩:=cut hb
   exact⟨μ',h1,h2,rfl,h3⟩
  ·unfold Xb at h
   rcases Yn h with⟨_,h⟩|⟨_,h⟩
   ·cases h
    exact⟨μ,hE,hk,rfl,hv⟩
   ·rcases Yn h with⟨hb,h⟩|⟨_,h⟩
    ·cases h
     obtain⟨μ',h1,h2,h3⟩:=cut hb
     exact⟨μ',h1,h2,rfl,h3⟩
    ·cases h
     exact⟨μ,hE,hk,rfl,hv⟩
 ·simp only[gc]at h
  obtain⟨hb,h⟩:=Zh h
  cases h
  obtain⟨μ',h1,h2,h3⟩:=cut hb
  exact⟨μ',h1,h2,rfl,h3⟩
theorem zjs{D:Nat}{ds:List Deferred}(h:Rel P cfg base n w own μ ρ st {tmps:=a.tmps,defers:={target:= .collected D,args:= #[]}::ds})(hD:w.heap[D]? =some (.deferred (some [])))(hd: ∀i,own D i= .d):
  Rel P cfg base n (w.putObj D (.deferred none)) own μ ρ st {tmps:=a.tmps,defers:=ds}∧Keeps base w own μ (w.putObj D (.deferred none)) own μ:=by
 have hlow:base≤D:=h.sto.low D 0 (by rw[hd];simp) (by rw[hd];simp) (by rw[hd];simp)
 have hsame: ∀k,k≠D→(w.putObj D (.deferred none)).heap[k]? =w.heap[k]? :=fun k hk=>World.putObj_heap_other hk
 have hB:Below base w (w.putObj D (.deferred none)):=⟨rfl,rfl,rfl,by simp,fun k hk=>hsame k (by omega)⟩
 have s:Step base w own μ (w.putObj D (.deferred none)) own μ (fun g=>g= .d):=Step.obj h.sto hd (by simp) rfl (fun c e f hc=>by rw[hD]at hc;cases hc) hlow hsame hB
 refine⟨⟨h.sto.step s h.sto.len fun r y b h1 h2=> .inl ⟨h1,by simp⟩,fun t=>s.trep (h.env t) (by simp) fun y off hy=>⟨rfl,(Xl h t y off hy).2⟩,h.tmps,fun y hy=> ?_,(List.nodup_cons.1 h.apart).2⟩,s.keeps (by simp)⟩
 obtain⟨D',h1,h2,h3⟩:=h.defers y (by simp only[List.mem_cons];exact .inr hy)
 have hne:D'≠D:=fun e=>(List.nodup_cons.1 h.apart).1 (by rw[←e,←h1];exact hy)
 exact⟨D',h1,(hsame D' hne).trans h2,h3⟩
theorem zaF{F:Fence}{m:Nat}{fn:Func}{R:Ending→World→Prop}{u:FrameMode}(hu:u≠ .run): ∀(ds:List Deferred) (w:World),Rel P cfg base n w own μ ρ st {tmps:=a.tmps,defers:=ds}→Keeps base w0 YN μ0 w own μ→
  (∀w',Rel P cfg base n w' own μ ρ st {tmps:=a.tmps,defers:=[]}→Keeps base w0 YN μ0 w' own μ→Keeps base w own μ w' own μ→LeavesIn F m P fn a.tmps R [] u w')→LeavesInM F m P fn a.tmps R ds u w
 |[],w,h,hk,hend=>hend w h hk Keeps.refl
 |d::ds,w,h,hk,hend=>by
  obtain⟨D,rfl,hD,hd⟩:=h.defers d (by simp)
  obtain⟨h1,h2⟩:=zjs h hD hd
  exact⟨hu, .inl ⟨D,_,rfl,run_takeDeferred hD,zaF hu ds _ h1 (hk.trans h2) fun w' k1 k2 k3=>hend w' k1 k2 (h2.trans k3)⟩⟩
def znH:List Value→Value
 |[c]=>c
 |cs=> .tuple cs.toArray
theorem zdA{fn:Func}{tmps:Array Value}{cs:List Value}(h:(fn.results.toList.mapM (zd9 tmps)).run P w= .ok cs w):(results fn tmps).run P w= .ok (znH cs) w:=by
 have he:(fun| .tmp t=>pure (tmps.getD t undef)| .cell a t=>do loadVar t (←asAddr (tmps.getD a undef)):ResultVar→Sem Value)=zd9 tmps:=by
  funext x;cases x<;>rfl
 have h2:(results fn tmps).run P w=((fn.results.mapM (zd9 tmps)>>=fun vs=>pure (if h:vs.size=1 then vs[0]else .tuple vs):Sem Value)).run P w:=by
  rw[←he];rfl
 rw[h2,Array.mapM_eq_mapM_toList]
 simp only[Sem.run_bind,map_eq_pure_bind,h,Result.andThen_ok,Sem.run_pure]
 match cs with
 |[]=>rfl
 |[c]=>rfl
 |c::c'::cs=>simp[znH]
theorem zhY: ∀{vs:List V} {cs:List Value},vs.length=cs.length→(∀i,i<vs.length→VRep w (prOf own) μ (vs.getD i .undef) (cs.getD i undef))→
  VRep w (prOf own) μ (match vs with|[v]=>v|vs=> .tup vs) (znH cs)
 |[v],[c],_,h8=>by simpa[znH]using h8 0 (by simp)
 |[],[],_,h8=> .tup [] #[] rfl fun i hi=>by simp at hi
 |[],_::_,h,_=>by simp at h
 |_::_,[],h,_=>by simp at h
 |[_],_::_::_,h,_=>by simp at h
 |_::_::_,[_],h,_=>by simp at h
 |v::v'::vs,c::c'::cs,h7,h8=>by
  refine .tup _ _ (by simpa using h7) fun i hi=> ?_
  have:=h8 i hi
  simpa[Array.getD_eq_getD_getElem?,List.getD_eq_getElem?_getD]using this
theorem znI{m:Nat}{F:Fence}{fn:Func}(hR:Rel P cfg base n w own μ ρ st a)(hk:Keeps base w0 YN μ0 w own μ){p:Bool}(hl:fn.results.size≤fn.resultTypes.size)
  {rm:Bool} (h:Qi P rm μ0.length ρ st (fn.results.toList.zip fn.resultTypes.toList) (fun vs st'=>gc p μ0.length (.ret (match vs with|[v]=>v|vs=> .tup vs)) st')=some x):
  LeavesInM F m P fn a.tmps (QV P cfg base w0 YN μ0 x) a.defers .returning w:=by
 refine zaF (by simp) a.defers w hR hk fun w' h1 h2 _=> ?_
 obtain⟨vs,st',own2,cs,h3,h4,h5,h6,h7,h8,h9⟩:=zbR (a:={tmps:=a.tmps,defers:=[]}) h1 _ _ st (zk8 own) _ (by simpa using hl) (zmt h1.sto) (zhi own) (fun b i hb=>by
  rcases hb with hb|⟨t,j,hb⟩<;>simp only[zk8,hb]) h
 refine⟨znH cs,zdA h9, ?_⟩
 have hke:Keeps base w' own μ w' (zk8 own) μ:=(step_end h1.sto).keeps (by simp)
 have hv:=zhY h7 h8
 obtain⟨μ',k1,k2,k3,k4⟩:=zmv h4 ((h2.trans hke).trans h6) hv (.inl rfl) h3
 refine⟨znH cs,own2,μ',k1,k2, ?_⟩
 rw[k3]
 exact⟨rfl,k4⟩
def ziy(t L:Nat)(own:Own):Own:=fun b i=>match own b i with| .t t' j=>(if t'=t∧j=0 then .r L 0 else .pr)| .d=> .free|g=>g
theorem zru(hs:Sto P cfg base w own μ st)(t L:Nat):Step base w own μ w (ziy t L own) μ (fun g=>(∃t j,g= .t t j)∨g= .d):=by
 refine Step.retag hs (fun g=>match g with| .t t' j=>(if t'=t∧j=0 then .r L 0 else .pr)| .d=> .free|g=>g) rfl (fun g hg=> ?_) (fun g hg=> ?_) rfl rfl
 ·cases g with
  |t t j=>exact absurd (.inl ⟨t,j,rfl⟩) hg
  |d=>exact absurd (.inr rfl) hg
  |_=>rfl
 ·cases g with
  |fr=>rfl
  |t t' j=>
   simp only at hg
   split at hg<;>cases hg
  |_=>cases hg
theorem GRep.endG{t L:Nat}{sh:Sh}{es:List V}{c:Value}(h:GRep w own μ (.t t 0) sh es c):GRep w (ziy t L own) μ (.r L 0) sh es c:=by
 obtain⟨A,cap,hc,hl,h⟩:=h
 refine⟨A,cap,hc,hl, ?_⟩
 have hp: ∀b i,own b i= .pr→ziy t L own b i= .pr:=fun b i hp=>by simp[ziy,hp]
 rcases h with h|⟨a,f,ccs,ty,fz,hA,ha,hb,hcap,hcell,hsh,hrep,hsp⟩
 ·exact .inl h
 ·refine .inr ⟨a,f,ccs,ty,fz,hA,ha,hb,hcap,fun i j hi hj=> ?_,hsh,fun i j hi hj=>(hrep i j hi hj).mono (fun b i e=>⟨hp b i e,rfl⟩) fun _ _ h=>h,fun k h1 h2=> ?_⟩
  ·obtain⟨h1,h2,h3⟩:=hcell i j hi hj
   exact⟨h1,hp _ _ h2,h3⟩
  ·obtain⟨h3,h4⟩:=hsp k h1 h2
   exact⟨by simp[ziy,h3],h4⟩
theorem zll{m:Nat}{F:Fence}{fn:Func}(hR:Rel P cfg base n w own μ ρ st a)(hk:Keeps base w0 YN μ0 w own μ){rm:Bool}{t:Nat}{sh:Sh}{es:List V}(hg:zlM rm ρ fn.results.toList=some (t,sh,es))
  (hb:(Zk μ0.length es&&Zt μ0.length (st.take μ0.length))=true):
  LeavesInM F m P fn a.tmps (QV P cfg base w0 YN μ0 (.ret (.spr sh es μ0.length),st.take μ0.length++[.spare sh es.length (μ0.length+1), .dead, .dead])) a.defers .returning w:=by
 refine zaF (by simp) a.defers w hR hk fun w' h1 h2 _=> ?_
 obtain⟨hres,hget⟩:fn.results.toList=[.tmp t]∧ρ.get t= .vec .grow sh es:=by
  unfold zlM at hg
  split at hg
  ·cases hg
  ·split at hg
   ·rename_i x hx
    split at hg
    ·rename_i hv
     cases hg
     exact⟨hx,hv⟩
    ·cases hg
   ·cases hg
 have hG:GRep w' own μ (.t t 0) sh es (a.tmps.getD t undef):=by
  have:=h1.env t
  rw[hget]at this
  exact this
 simp only[Bool.and_eq_true]at hb
 have s:=zru h1.sto t μ0.length
 have hs2:Sto P cfg base w' (ziy t μ0.length own) μ st:=h1.sto.step s h1.sto.len fun r x b h1 h2=> .inl ⟨h1,by rintro j (⟨_,_,e⟩|e)<;>cases e⟩
 have hk2:=h2.trans (s.keeps (by simp))
 have hl:(st.take μ0.length).length=μ0.length:=by
  obtain⟨ν,hν⟩:=h2.mu
  rw[List.length_take,←h1.sto.len,hν]
  simp
 have hb1:below μ0.length (.vec .grow sh es)=true:=by simpa[below]using hb.1
 have hs3:=zqA hs2 hb.2
 have hk3:=zlk hk2
 have hG3:GRep w' (ziy t μ0.length own) (μ.take μ0.length) (.r μ0.length 0) sh es (a.tmps.getD t undef):=znG (v:= .vec .grow sh es) hG.endG hb1
 generalize μ.take μ0.length=μ1 at hs3 hk3 hG3
 have hl1:μ1.length=μ0.length:=by rw[hs3.len,hl]
 obtain⟨A,cap,hc,hcap,hor⟩:=hG3
 obtain⟨blk,off,hA,hroom⟩: ∃blk off,(cap=0∨A=some ⟨blk,off,none⟩)∧(cap=0∨ ∃ccs ty fz,w'.heap[blk]? =some (.cells ccs ty fz)∧off+cap*sh.sz≤ccs.size∧
   ∀k,es.length*sh.sz≤k→k<cap*sh.sz→ziy t μ0.length own blk (off+k)= .r μ0.length 0∧w'.frozen? ⟨blk,off+k,none⟩=false):=by
  rcases hor with⟨_,h0⟩|⟨ad,f,ccs,ty,fz,hA,ha,hb,hsz,_,_,_,hsp⟩
  ·exact⟨0,0, .inl h0, .inl h0⟩
  ·obtain⟨b,off,sp⟩:=ad
   simp only at ha
   subst ha
   exact⟨b,off, .inr hA, .inr ⟨ccs,ty,fz,hb,hsz,hsp⟩⟩
 have s2:Step base w' (ziy t μ0.length own) μ1 w' (ziy t μ0.length own) (μ1++[blk,cap,off]) (fun _=>False):=by
  have:=Step.refl' hs3
  exact⟨this.below,this.pr,this.tag,this.fr,this.alloc,this.low,this.blk,this.whole,_,rfl⟩
 have hplain:VRep w' (prOf (ziy t μ0.length own)) (μ1++[blk,cap,off]) (.vec .plain sh es) (a.tmps.getD t undef):=s2.vrep (GRep.plain ⟨A,cap,hc,hcap,hor⟩)
 have e0:(μ1++[blk,cap,off])[μ0.length]? =some blk:=by rw[←hl1];simp
 have e1:(μ1++[blk,cap,off])[μ0.length+1]? =some cap:=by rw[←hl1];simp
 have e2:(μ1++[blk,cap,off])[μ0.length+2]? =some off:=by rw[←hl1];simp
 refine⟨a.tmps.getD t undef,zdA (cs:=[a.tmps.getD t undef]) (by rw[hres];rfl),a.tmps.getD t undef,ziy t μ0.length own,μ1++[blk,cap,off], ?_,hk3.trans (s2.keeps (by simp)),rfl, ?_⟩
 ·refine hs3.step s2 (by simp[hl,hl1]) fun r x b hx hm=> ?_
  by_cases hr:r<μ0.length
  ·left
   rw[List.getElem?_append_left (by rw[hl];exact hr)]at hx
   exact⟨hx,fun _ h=>h⟩
  ·right
   rw[List.getElem?_append_right (by rw[hl];omega),hl]at hx
   generalize hd:r-μ0.length=d at hx
   match d,hx with
   |0,hx=>
    have:r=μ0.length:=by omega
    subst this
    cases hx
    rw[e0]at hm
    cases hm
    exact⟨cap,off,e1,e2,hroom⟩
   |1,hx=>cases hx;trivial
   |2,hx=>cases hx;trivial
   |k+3,hx=>simp at hx
 ·rw[hc]at hplain⊢
  exact .spr sh es μ0.length blk cap off A e0 e1 e2 hA hplain
theorem zpy{m:Nat}{F:Fence}{fn:Func}{ρ':Env}(hR:Rel P cfg base n w own μ ρ' st a)(hk:Keeps base w0 YN μ0 w own μ){p:Bool}{v:V}{c:Value}(hv:VRep w (prOf own) μ v c)(h:gc p μ0.length (.panic v) st=some x):
  LeavesInM F m P fn a.tmps (QV P cfg base w0 YN μ0 x) a.defers (.panicking [{v:=c,recovered:=false}]) w:=by
 refine zaF (by simp) a.defers w hR hk fun w' h1 h2 h3=> ?_
 obtain⟨μ',k1,k2,k3,k4⟩:=zmv h1.sto h2 (h3.vrep hv) (.inr rfl) h
 refine⟨c,own,μ',k1,k2, ?_⟩
 rw[k3]
 exact⟨rfl,k4⟩
end
end Go.AM
namespace Go.AM
open Go Go.RowKit
section
variable{P:Program}{cfg:Cfg}{ext:Ext}{base n:Nat}{w w' w0:World}{own own' YN own1 own2:Own}{μ μ' μ0:List Nat}{ρ:Env}{st st':St}{a:Act}{x:Out×St}
theorem zde: ∀(vs:List V) (i t:Nat),(Jl i vs).get t=if i≤t∧t<i+vs.length then vs.getD (t-i) .undef else .undef
 |[],i,t=>by
  have: ¬(i≤t∧t<i+0):=by omega
  simp[Jl,Env.get]
 |v::vs,i,t=>by
  have:(Jl i (v::vs)).get t=(Env.set (Jl (i+1) vs) i v).get t:=rfl
  rw[this,Zp,zde vs (i+1) t]
  by_cases e:t=i
  ·subst e;simp
  ·rw[if_neg e]
   by_cases h:i+1≤t∧t<i+1+vs.length
   ·rw[if_pos h,if_pos (by simp;omega)]
    obtain⟨k,hk⟩: ∃k,t-i=k+1:=⟨t-i-1,by omega⟩
    rw[hk,show t-(i+1)=k from by omega]
    simp
   ·rw[if_neg h,if_neg (by simp;omega)]
theorem zhj{fn:Func}{args:List V}{cargs:Array Value}(hs:Sto P cfg base w own μ st)(ha:Args w own μ args cargs)(hl:args.length≤fn.ntmps):
  Rel P cfg base fn.ntmps w own μ (Ja args) st {tmps:=cargs++Array.replicate (fn.ntmps-cargs.size) undef,defers:=[]}∧NoL (Ja args):=by
 have hv: ∀t,(Ja args).get t= .undef∨(t<args.length∧(Ja args).get t=args.getD t .undef):=fun t=>by
  unfold Ja
  rw[zde]
  split
  ·rename_i h;exact .inr ⟨by omega,by simp⟩
  ·exact .inl rfl
 have hT: ∀t,VRep w (prOf own) μ ((Ja args).get t) ((cargs++Array.replicate (fn.ntmps-cargs.size) undef).getD t undef):=fun t=>by
  rcases hv t with h|⟨h,h2⟩
  ·rw[h];exact .undef _
  ·rw[h2]
   have:=ha.2 t h
   have hlt:t<cargs.size:=by rw[←ha.1];exact h
   rw[Array.getD_eq_getD_getElem?,Array.getElem?_append_left hlt,←Array.getD_eq_getD_getElem?]
   exact this
 refine⟨⟨hs,fun t=> .of_val (hT t), ?_,(fun y hy=>by cases hy), .nil⟩,fun t y off e=> ?_⟩
 ·have:=ha.1
  simp;omega
 ·have:=hT t
  rw[e]at this
  cases this
theorem zhZ{n:Nat}{c:Code}(h:zdq n c=true):ZI n c=true∧zbx (fun k=>Y3 k c) c∧zby (fun k=>Ya k c) c∧Yf c=true∧zgb (fun k=>Yr k c) c:=by
 simp only[zdq,Bool.and_eq_true,List.all_eq_true]at h
 obtain⟨⟨⟨⟨⟨h1,h2⟩,h3⟩,h4⟩,h5⟩,h6⟩:=h
 exact⟨h1,zae (zb4 h2) fun k hk=>⟨Nat.le_of_ble_eq_true (h5 k hk),rfl⟩,zaf (zb4 h3) fun k hk=>rfl,h6,zah (zb4 h4) fun l _=>rfl⟩
theorem znJ(hm:P.follows .mixedOrders=true)(hP:PlainNames P){m0:Nat}(hO:zhh P cfg ext m0):Q2 P cfg (Ze P cfg (XJ P cfg ext m0)):=by
 intro f args st x h
 unfold Ze at h
 split at h
 ·cases h
 ·rename_i fn hf
  split at h
  ·cases h
  ·rename_i c hb
   refine⟨⟨fn,hf,by rw[hb];rfl⟩, ?_⟩
   intro n base w own μ cargs hs hfl ha
   obtain⟨hg,h⟩:=Zh h
   simp only[Bool.and_eq_true,decide_eq_true_eq]at hg
   obtain⟨⟨_,hl⟩,hok⟩:=hg
   obtain⟨h1,h2,h3,h4,h5⟩:=zhZ hok
   obtain⟨hR,hN⟩:=zhj (fn:=fn) hs ha hl
   refine callsIn_of_wp_marks hf hb trivial ?_
   refine wpIn_mono (zms (ro:=none) (m:=n) hm hP hO hf hb hok c h1 h4 h2 h3 h5 (.inl rfl) m0 (Nat.le_refl _) _ x _ _ st _ w own μ hR hN h) fun e a' w' hF=> ?_
   rw[←hs.len]at hF
   cases e with
   |normal=>
    obtain⟨ρ',st',own',μ',k1,k2,k3,k4⟩:=hF
    dsimp only at k1
    split at k1
    ·rename_i hg2
     obtain⟨hb2,k1⟩:=Zh k1
     cases k1
     exact zll k2 k4 hg2 hb2
    ·obtain⟨hsz,k1⟩:=Zh k1
     exact znI k2 k4 (by simpa using hsz) k1
   |ret=>
    obtain⟨ρ',st',own',μ',k1,k2,k3,k4⟩:=hF
    dsimp only at k1
    split at k1
    ·rename_i hg2
     obtain⟨hb2,k1⟩:=Zh k1
     cases k1
     exact zll k2 k4 hg2 hb2
    ·obtain⟨hsz,k1⟩:=Zh k1
     exact znI k2 k4 (by simpa using hsz) k1
   |exit i=>obtain⟨ρ',st',own',μ',k1,k2,k3,k4⟩:=hF;cases k1
   |goto l=>obtain⟨ρ',st',own',μ',k1,k2,k3,k4⟩:=hF;cases k1
   |panic ch=>
    obtain⟨v,cv,ρ',ρ'',st',own',μ',k1,k2,k3,k4,rfl⟩:=hF
    exact zpy k2 k3 k4 k1
   |outgrown=>exact hF.elim
end
end Go.AM
namespace Go.AM
open Go Go.RowKit
section
variable{P:Program}{cfg:Cfg}{ext:Ext}{base n:Nat}{w w' w0:World}{own own' YN own1 own2:Own}{μ μ' μ0:List Nat}{ρ:Env}{st st':St}{a:Act}
theorem XI{n:Nat}{F:Nat→Option Code}{G:Nat→Option (Array Tmp×Code×Code)}{key:Nat}{ps:Array Tmp}{x y:Code}: ∀{c:Code},Ya key c=some (ps,x,y)→ZI n c=true→Yf c=true→zbx F c→zby G c→
  (∀d∈ps.toList,d<n)∧(ZI n x=true∧Yf x=true∧zbx F x∧zby G x∧ZC x=[]∧Z9 x=true)∧(ZI n y=true∧Yf y=true∧zbx F y∧zby G y∧ZC y=[]∧Z9 y=true)
 | .seq a b,h,h1,h2,h3,h4=>by
  simp only[ZI,Bool.and_eq_true]at h1
  simp only[Yf,Bool.and_eq_true]at h2
  simp only[Ya]at h
  cases ha:Ya key a with
  |some z=>rw[ha]at h;simp only[Y1]at h;cases h;exact XI ha h1.1 h2.1 h3.1 h4.1
  |none=>rw[ha]at h;exact XI (c:=b) h h1.2 h2.2 h3.2 h4.2
 | .cond _ a b,h,h1,h2,h3,h4=>by
  simp only[ZI,Bool.and_eq_true]at h1
  simp only[Yf,Bool.and_eq_true]at h2
  simp only[Ya]at h
  cases ha:Ya key a with
  |some z=>rw[ha]at h;simp only[Y1]at h;cases h;exact XI ha h1.1 h2.1 h3.1 h4.1
  |none=>rw[ha]at h;exact XI (c:=b) h h1.2 h2.2 h3.2 h4.2
 | .block _ b,h,h1,h2,h3,h4=>by
  simp only[ZI]at h1
  simp only[Yf]at h2
  simp only[Ya]at h
  exact XI h h1 h2 h3 h4
 | .loop b,h,h1,h2,h3,h4=>by
  simp only[ZI]at h1
  simp only[Yf]at h2
  simp only[Ya]at h
  exact XI h h1 h2 h3.2.2 h4
 | .rangeFunc _ ps' a b,h,h1,h2,h3,h4=>by
  simp only[ZI,Bool.and_eq_true,List.all_eq_true]at h1
  simp only[Yf,Bool.and_eq_true,List.isEmpty_iff]at h2
  simp only[Ya]at h
  cases hk:Nat.beq (keyOf b) key with
  |true=>
   rw[hk]at h
   simp only[cond_true]at h
   cases h
   exact⟨fun d hd=>by simpa using h1.1.1 d hd,⟨h1.1.2,h2.1.1.1.1,h3.1,h4.2.1,h2.1.1.2,h2.2.1⟩,⟨h1.2,h2.1.1.1.2,h3.2,h4.2.2,h2.1.2,h2.2.2⟩⟩
  |false=>
   rw[hk]at h
   simp only[cond_false]at h
   cases ha:Ya key a with
   |some z=>rw[ha]at h;simp only[Y1]at h;cases h;exact XI ha h1.1.2 h2.1.1.1.1 h3.1 h4.2.1
   |none=>rw[ha]at h;exact XI (c:=b) h h1.2 h2.1.1.1.2 h3.2 h4.2.2
 | .scope b,h,h1,h2,h3,h4=>by
  simp only[ZI]at h1
  simp only[Yf]at h2
  simp only[Ya]at h
  exact XI h h1 h2 h3 h4
 | .region ..,h,_,_,_,_=>by simp[Ya]at h
 | .skip,h,_,_,_,_=>by simp[Ya]at h
 | .label _,h,_,_,_,_=>by simp[Ya]at h
 | .exit _,h,_,_,_,_=>by simp[Ya]at h
 | .goto _,h,_,_,_,_=>by simp[Ya]at h
 | .ret,h,_,_,_,_=>by simp[Ya]at h
 | .refuse _,h,_,_,_,_=>by simp[Ya]at h
theorem zcK(tm:Array Value)(t:Nat)(c:Value)(ht:t<tm.size)(x:Nat):(tm.setIfInBounds t c).getD x undef=if x=t then c else tm.getD x undef:=by
 simp only[Array.getD_eq_getD_getElem?]
 by_cases e:x=t
 ·subst e;simp[ht]
 ·rw[if_neg e,Array.getElem?_setIfInBounds_ne (Ne.symm e)]
theorem zjt{pr:Nat→Nat→Prop}: ∀(ps:List Nat) (args:List V) (cargs:List Value) (ρ:Env) (tm:Array Value),args.length=cargs.length→(∀i,i<args.length→VRep w pr μ (args.getD i .undef) (cargs.getD i undef))→(∀d∈ps,d<tm.size)→
  (∀t,VRep w pr μ (ρ.get t) (tm.getD t undef))→
  ((ps.zip cargs).foldl (fun tmps (x:Nat×Value)=>tmps.setIfInBounds x.1 x.2) tm).size=tm.size∧ ∀t,VRep w pr μ ((ρ.apply (ps.zip args)).get t) (((ps.zip cargs).foldl (fun tmps (x:Nat×Value)=>tmps.setIfInBounds x.1 x.2) tm).getD t undef)
 |[],args,cargs,ρ,tm,_,_,_,h=>by simpa[Env.apply]using h
 |p::ps,[],[],ρ,tm,_,_,_,h=>by simpa[Env.apply]using h
 |p::ps,[],_::_,ρ,tm,h,_,_,_=>by simp at h
 |p::ps,_::_,[],ρ,tm,h,_,_,_=>by simp at h
 |p::ps,v::args,c::cargs,ρ,tm,hl,ha,hp,h=>by
  simp only[List.zip_cons_cons,List.foldl_cons,Env.apply]
  have hpt:p<tm.size:=hp p (by simp)
  obtain⟨h1,h2⟩:=zjt (pr:=pr) ps args cargs (ρ.set p v) (tm.setIfInBounds p c) (by simpa using hl) (fun i hi=>by simpa using ha (i+1) (by simpa using hi)) (fun d hd=>by simpa using hp d (by simp[hd])) fun t=>by
   rw[Zp,zcK _ _ _ hpt]
   split
   ·simpa using ha 0 (by simp)
   ·exact h t
  exact⟨by simpa using h1,h2⟩
theorem zlm{s:LoopState}{p:Option Code}(h:znb .ready none s p):s= .ready∧p=none:=by
 cases s<;>cases p<;>first|exact⟨rfl,rfl⟩|exact h.elim
theorem zhk{b q:Nat}{jump:Option Code}{s2:LSt}{p2:Option Ex}(hj:znb s2 p2 (if jump.isNone then .ready else .done) jump)(hR:Rel P cfg base n w own μ ρ st a)(hk:Keeps base w0 YN μ0 w own μ)(hb:μ0[q]? =some b){f key:Nat}{vals:List V}{s:LSt}{p:Option Ex}
  (hst:st[q]? =some (.loop f key vals s p)): ∃w',(Instr.endRound b jump).run P w= .ok (.bool jump.isNone) w'∧QV P cfg base w0 YN μ0 (.ret (.bool jump.isNone),st.set q (.loop f key vals s2 p2)) (.returned (.bool jump.isNone)) w':=by
 have hb2:μ[q]? =some b:=by
  obtain⟨ν,rfl⟩:=hk.mu
  exact zc1 hb
 obtain⟨L,hh,_,hput⟩:=zjl hR hst hb2
 obtain⟨k1,k2⟩:=hput {L with state:=if jump.isNone then .ready else .done,pending:=jump} (.loop f key vals s2 p2) ⟨rfl,rfl,rfl,rfl,rfl⟩ (.inr ⟨s2,p2,rfl,hj⟩)
 exact⟨_,run_endRound jump hh,_,own,μ,k1.sto,hk.trans k2,rfl, .bool _⟩
theorem zmw(hm:P.follows .mixedOrders=true)(hP:PlainNames P){m0:Nat}(hO:zhh P cfg ext m0):QG P cfg (Xw P cfg (XJ P cfg ext m0)):=by
 intro q f key vals args st x hst h n base b w own μ cargs hs hb hfl ha
 obtain⟨ho,L,fn,c,hh,h1,h2,h3,_,h5,h6,h7,h8⟩:=hs.res q _ b hst hb
 obtain⟨hL1,hL2⟩:=zlm h7
 simp only[Xw,h1,h2,h5]at h
 obtain⟨hg,h⟩:=Zh h
 simp only[decide_eq_true_eq]at hg
 obtain⟨c1,c2,c3,c4,c5⟩:=zhZ h3
 obtain⟨d0,⟨dx1,dx2,dx3,dx4,dx5,dx6⟩,dy1,dy2,dy3,dy4,dy5,dy6⟩:=XI h5 c1 c4 c2 c3
 refine⟨L.fn,_,L.assign,L.body,run_yield hh (by rw[←ha.1];exact hg),roundIn_of_wpIn trivial ?_⟩
 obtain⟨e1,e2⟩:=zjt (w:=w) (μ:=μ) (pr:=prOf own) L.params.toList args cargs.toList (Jk ((cfg.keep f key).map (·.1)) vals) L.tmps (by simpa using ha.1) (fun i hi=>by
  have:=ha.2 i hi
  simpa[Array.getD_eq_getD_getElem?,List.getD_eq_getElem?_getD]using this) (by rw[h6];exact d0) h8
 have hf:(L.params.zip cargs).foldl (fun tmps (x:Nat×Value)=>tmps.setIfInBounds x.1 x.2) L.tmps=(L.params.toList.zip cargs.toList).foldl (fun tmps (x:Nat×Value)=>tmps.setIfInBounds x.1 x.2) L.tmps:=by
  rw[←Array.foldl_toList,Array.toList_zip]
 have hR:Rel P cfg base fn.ntmps w own μ ((Jk ((cfg.keep f key).map (·.1)) vals).apply (L.params.toList.zip args)) st {tmps:=(L.params.zip cargs).foldl (fun tmps (x:Nat×Value)=>tmps.setIfInBounds x.1 x.2) L.tmps,defers:=[]}:=by
  rw[hf]
  exact⟨hs,fun t=> .of_val (e2 t),e1.trans h6,(fun z hz=>by cases hz), .nil⟩
 have hN:NoL ((Jk ((cfg.keep f key).map (·.1)) vals).apply (L.params.toList.zip args)):=fun t y off e=>by
  have:=e2 t
  rw[e]at this
  cases this
 refine wpIn_mono (zms (ro:=some b) (m:=n) hm hP hO h1 h2 h3 L.assign dx1 dx2 dx3 dx4 (zag dx6) (.inr dx5) m0 (Nat.le_refl _) _ x _ _ st _ w own μ hR hN h) fun e a1 w1 hF=> ?_
 cases e with
 |exit i=>obtain⟨_,_,_,_,k1,_⟩:=hF;cases k1
 |goto l=>obtain⟨_,_,_,_,k1,_⟩:=hF;cases k1
 |ret=>obtain⟨_,_,_,_,k1,_⟩:=hF;cases k1
 |panic ch=>obtain⟨_,_,_,_,_,_,_,k1,_⟩:=hF;cases k1
 |outgrown=>exact hF.elim
 |normal=>
  obtain⟨ρ1,st1,own1,μ1,k1,k2,k3,k4⟩:=hF
  obtain⟨z,hz,k1⟩:=Yd k1
  obtain⟨f1,key1,v1,s1,p1,rfl,k5⟩:=XV k1
  unfold za3 at k5
  split at k5
  ·have hb1:μ1[q]? =some b:=by
    obtain⟨ν,rfl⟩:=k4.mu
    exact zc1 hb
   obtain⟨L1,hh1,hl1,hput⟩:=zjl k2 hz hb1
   obtain⟨g1,g2⟩:=zlm hl1
   obtain⟨k6,k7⟩:=hput {L1 with state:= .busy} (.loop f1 key1 v1 .busy none) ⟨rfl,rfl,rfl,rfl,rfl⟩ (.inr ⟨.busy,none,rfl,trivial⟩)
   refine⟨_,run_beginRound hh1 g1, ?_⟩
   refine wpIn_mono (zms (ro:=some b) (m:=n) hm hP hO h1 h2 h3 L.body dy1 dy2 dy3 dy4 (zag dy6) (.inr dy5) m0 (Nat.le_refl _) _ x _ _ _ _ _ own1 μ1 k6 k3 k5) fun e a2 w2 hF2=> ?_
   have hF2:=hF2.keeps (k4.trans k7)
   cases e with
   |outgrown=>exact hF2.elim
   |panic ch=>
    obtain⟨_,_,_,_,_,_,_,j1,_⟩:=hF2
    obtain⟨z,hz,j1⟩:=Yd j1
    obtain⟨f2,key2,v2,s2,p2,rfl,j5⟩:=XV j1
    cases s2<;>cases j5
   |goto l=>
    obtain⟨_,_,_,_,j1,_⟩:=hF2
    obtain⟨z,hz,j1⟩:=Yd j1
    obtain⟨f2,key2,v2,s2,p2,rfl,j5⟩:=XV j1
    cases s2<;>cases j5
   |normal=>
    obtain⟨ρ2,st2,own2,μ2,j1,j2,_,j4⟩:=hF2
    obtain⟨z,hz,j1⟩:=Yd j1
    obtain⟨f2,key2,v2,s2,p2,rfl,j5⟩:=XV j1
    cases s2<;>cases j5
    obtain⟨w3,e1,e2⟩:=zhk (jump:=none) (s2:= .ready) (p2:=none) trivial j2 j4 hb hz
    exact⟨_,w3,e1,e2⟩
   |ret=>
    obtain⟨ρ2,st2,own2,μ2,j1,j2,_,j4⟩:=hF2
    obtain⟨z,hz,j1⟩:=Yd j1
    obtain⟨f2,key2,v2,s2,p2,rfl,j5⟩:=XV j1
    cases s2<;>cases j5
    obtain⟨w3,e1,e2⟩:=zhk (jump:=some .ret) (s2:= .done) (p2:=some .ret) trivial j2 j4 hb hz
    exact⟨_,w3,e1,e2⟩
   |exit i=>
    obtain⟨ρ2,st2,own2,μ2,j1,j2,_,j4⟩:=hF2
    obtain⟨z,hz,j1⟩:=Yd j1
    obtain⟨f2,key2,v2,s2,p2,rfl,j5⟩:=XV j1
    cases s2<;>cases j5
    obtain⟨w3,e1,e2⟩:=zhk (jump:=some (.exit i)) (s2:= .done) (p2:=some (.exit i)) rfl j2 j4 hb hz
    exact⟨_,w3,e1,e2⟩
  ·cases k5
def zia(P:Program)(cfg:Cfg)(ext:Ext):Prop:=
 ∀(f:Nat) (x:Oracle→List V→St→Option (Out×St)),ext f=some x→ ∀O,Q2 P cfg O.call→QG P cfg O.round→ ∀(args:List V) (st:St) (y:Out×St),x O args st=some y→
  (∃fn,P.funcs[f]? =some fn∧fn.body.isSome=true)∧
  ∀(n base:Nat) (w:World) (own:Own) (μ:List Nat) (cargs:Array Value),Sto P cfg base w own μ st→Flat own→Args w own μ args cargs→CallsIn Fence.wide n P f cargs w (QV P cfg base w own μ y)
theorem zqB(hm:P.follows .mixedOrders=true)(hP:PlainNames P)(hE:zia P cfg ext): ∀m,zhh P cfg ext m
 |0=>fun k hk=>by
  have:k=0:=by omega
  subst this
  exact⟨fun f args st x h=>(by cases h),fun q f key vals args st x _ h=>(by cases h)⟩
 |m+1=>fun k hk=>by
  have ih:=zqB hm hP hE m
  rcases Nat.lt_or_ge k (m+1)with h|h
  ·exact ih k (by omega)
  ·have:k=m+1:=by omega
   subst this
   refine⟨fun f args st x h=> ?_,zmw hm hP ih⟩
   simp only[XJ,zkZ]at h
   split at h
   ·rename_i y hy
    exact hE f y hy _ (ih m (Nat.le_refl _)).1 (ih m (Nat.le_refl _)).2 args st x h
   ·exact znJ hm hP ih f args st x h
theorem zpz(hm:P.follows .mixedOrders=true)(hP:PlainNames P)(hE:zia P cfg ext)(m:Nat):Q2 P cfg (XJ P cfg ext m).call:=(zqB hm hP hE m m (Nat.le_refl _)).1
end
end Go.AM
namespace Go.AM
open Go
section
variable{P:Program}{cfg:Cfg}{fid:Nat}{R:Type}{r:R}{α:Type}
def Evt(p:Nat→Prop):Prop:= ∃n,∀m,n≤m→p m
theorem Evt.of{p:Nat→Prop}(h: ∀m,p m):Evt p:=⟨0,fun m _=>h m⟩
theorem Evt.mono{p q:Nat→Prop}(h:Evt p)(f: ∀m,p m→q m):Evt q:=let⟨n,h⟩:=h;⟨n,fun m hm=>f m (h m hm)⟩
theorem Evt.and{p q:Nat→Prop}(h:Evt p)(k:Evt q):Evt fun m=>p m∧q m:=by
 obtain⟨a,h⟩:=h
 obtain⟨b,k⟩:=k
 exact⟨max a b,fun m hm=>⟨h m (by omega),k m (by omega)⟩⟩
theorem Evt.map2{p q s:Nat→Prop}(h:Evt p)(k:Evt q)(f: ∀m,p m→q m→s m):Evt s:=(h.and k).mono fun m h=>f m h.1 h.2
theorem XF{x:Option α}{K:α→Option R}(h:Za x K=some r): ∃y,x=some y∧K y=some r:=by
 cases x with
 |none=>cases h
 |some y=>exact⟨y,rfl,h⟩
theorem zb7{b:Bool}{x:Option R}(h:gd b x=some r):b=true∧x=some r:=by
 cases b with
 |true=>exact⟨rfl,h⟩
 |false=>cases h
theorem Jq{b:Bool}{x y:Option R}(h:bc b x y=some r):(b=true∧x=some r)∨(b=false∧y=some r):=by
 cases b with
 |true=>exact .inl ⟨rfl,h⟩
 |false=>exact .inr ⟨rfl,h⟩
theorem zdB(sh:Sh)(v:V)(F:Bool→V→Option α)(K:α→Option R):Za (Y0 sh v F) K=Y0 sh v fun d u=>Za (F d u) K:=by
 cases v<;>try rfl
 simp only[Y0];split<;>rfl
theorem zmx(sh:Sh)(v:V)(F:Nat→Nat→Nat→Option α)(K:α→Option R):Za (Qo sh v F) K=Qo sh v fun a b c=>Za (F a b c) K:=by
 cases v<;>try rfl
 simp only[Qo];split<;>rfl
theorem zmy(v:V)(F:Nat→Option α)(K:α→Option R):Za (zdo v F) K=zdo v fun a=>Za (F a) K:=by
 unfold zdo
 split<;>rfl
theorem znK(v:V)(F:Nat→Option α)(K:α→Option R):Za (zf7 v F) K=zf7 v fun a=>Za (F a) K:=by
 cases v<;>try rfl
 rename_i q i
 cases i<;>rfl
theorem zmz(sh:Sh)(v:V)(F:List V→Option α)(K:α→Option R):Za (Xr sh v F) K=Xr sh v fun a=>Za (F a) K:=by
 cases v<;>try rfl
 rename_i m _ _
 cases m<;>try rfl
 ·simp only[Xr];split<;>rfl
 ·simp only[Xr];split<;>rfl
mutual
theorem zbS(k:Kd)(v:V)(F:V→Option α)(K:α→Option R):Za (ZD P k v F) K=ZD P k v fun v=>Za (F v) K:=by
 match k with
 | .ty t=>unfold ZD;exact Xt ..
 | .ct c=>unfold ZD;exact JL ..
 | .loc t=>unfold ZD;rw[zdB];congr 1;funext d u;exact Xt ..
 | .locA sh=>unfold ZD;rw[zdB]
 | .dloc sh ks=>unfold ZD;rw[zdB];congr 1;funext d u;rw[Jp];congr 1;funext cs;exact zdC ..
 | .row sh=>unfold ZD;rw[zmx]
 | .grow sh=>unfold ZD;rw[Zr,zmz]
 | .full sh=>unfold ZD;rw[zaD]
 | .ref=>unfold ZD;rw[znK]
 | .cref=>unfold ZD;rw[zmy]
 | .mp=>unfold ZD;rw[zfi]
 | .any=>unfold ZD;rfl
theorem zdC(ks:List Kd)(vs:List V)(F:List V→Option α)(K:α→Option R):Za (Jy P ks vs F) K=Jy P ks vs fun v=>Za (F v) K:=by
 match ks with
 |[]=>unfold Jy;rw[Q4]
 |k::ks=>unfold Jy;rw[zaC];congr 1;funext v us;rw[zbS];congr 1;funext v;rw[zdC]
end
theorem zcj: ∀(l:List (Nat×Kd)) (ρ:Env) (F:List V→Option α) (K:α→Option R),Za (Yh P l ρ F) K=Yh P l ρ fun v=>Za (F v) K
 |[],ρ,F,K=>by unfold Yh;rfl
 |(t,k)::l,ρ,F,K=>by unfold Yh;rw[zbS];congr 1;funext v;rw[zcj]
theorem zck: ∀(l:List (Nat×Kd)) (vs:List V) (F:Env→Option α) (K:α→Option R),Za (Yg P l vs F) K=Yg P l vs fun v=>Za (F v) K
 |[],vs,F,K=>by unfold Yg;rw[Q4]
 |(t,k)::l,vs,F,K=>by unfold Yg;rw[zaC];congr 1;funext v us;rw[zbS];congr 1;funext v;rw[zck]
theorem X8(l:List (Nat×Kd))(ρ:Env)(K:List V→Option R):Yh P l ρ K=Za (Yh P l ρ some) K:=by rw[zcj];rfl
theorem zdf(l:List (Nat×Kd))(vs:List V)(K:Env→Option R):Yg P l vs K=Za (Yg P l vs some) K:=by rw[zck];rfl
structure OLim(Os:Nat→Oracle)(O:Oracle):Prop where
 call: ∀f args st x,O.call f args st=some x→Evt fun m=>(Os m).call f args st=some x
 loop: ∀f key vals st x,O.loop f key vals st=some x→Evt fun m=>(Os m).loop f key vals st=some x
 round: ∀l f key vals args st x,O.round l f key vals args st=some x→Evt fun m=>(Os m).round l f key vals args st=some x
section
variable{Os:Nat→Oracle}{O:Oracle}(hO:OLim Os O)
include hO
theorem zln{g:Nat}{args:List V}{v:V}(h:Zj O g args=some v):Evt fun m=>Zj (Os m) g args=some v:=by
 unfold Zj at h
 obtain⟨h1,h⟩:=zb7 h
 obtain⟨x,hx,h⟩:=XF h
 refine(hO.call _ _ _ _ hx).mono fun m hm=> ?_
 unfold Zj
 rw[h1,hm]
 exact h
theorem zp0{fv:V}{args:List V}{st:St}{x:Out×St}(h:zdr cfg O fv args st=some x):Evt fun m=>zdr cfg (Os m) fv args st=some x:=by
 unfold zdr at h
 split at h
 ·rename_i g first cap
  rcases Jq h with⟨hp,h⟩|⟨hp,h⟩
  ·obtain⟨v,hv,h⟩:=XF h
   refine(zln hO hv).mono fun m hm=> ?_
   unfold zdr
   simp only[hp,hm]
   exact h
  ·refine(hO.call _ _ _ _ h).mono fun m hm=> ?_
   unfold zdr
   simp only[hp,hm]
   rfl
 ·rename_i l
  unfold Zw at h
  split at h
  ·rename_i y hy
   unfold ZX at h
   dsimp only at h
   split at h
   ·split at h
    ·obtain⟨z,hz,h⟩:=XF h
     refine(hO.round _ _ _ _ _ _ _ hz).mono fun m hm=> ?_
     unfold zdr Zw ZX
     simp only[hy,hm]
     exact h
    ·cases h
   ·cases h
  ·cases h
 ·cases h
theorem zp1{rid idx:Nat}{o:Oper}{c:Call}{f:Operand}{ρ:Env}{st:St}{F:List (Nat×V)→St→Option R}{G:V→St→Option R}(h:Qa P cfg O fid rid idx o c f ρ st F G=some r):Evt fun m=>Qa P cfg (Os m) fid rid idx o c f ρ st F G=some r:=by
 unfold Qa at h
 obtain⟨h1,h⟩:=zb7 h
 split at h
 ·rename_i g
  split at h
  ·rename_i e x hgc
   refine Evt.of fun m=> ?_
   unfold Qa
   simp only[h1,hgc]
   exact h
  rename_i hgc
  rcases Jq h with⟨he,h⟩|⟨he,h⟩
  ·refine Evt.of fun m=> ?_
   unfold Qa
   simp only[h1,hgc,he]
   exact h
  rcases Jq h with⟨hp,h⟩|⟨hp,h⟩
  ·obtain⟨v,hv,h⟩:=XF h
   refine(zln hO hv).mono fun m hm=> ?_
   unfold Qa
   simp only[h1,hgc,he,hp,hm]
   exact h
  ·obtain⟨v,hv,h⟩:=XF h
   refine(hO.call _ _ _ _ hv).mono fun m hm=> ?_
   unfold Qa
   simp only[h1,hgc,he,hp,hm]
   exact h
 ·rename_i hne
  rw[zeq]at h
  obtain⟨v,hv,h⟩:=XF h
  refine(zp0 hO hv).mono fun m hm=> ?_
  unfold Qa
  split
  ·exact absurd rfl (hne _)
  ·simp only[h1,zeq,hm]
   exact h
theorem zlo{rid idx:Nat}{o:Oper}{ρ:Env}{st:St}{y:(List (Nat×V)×St)⊕(V×St)}(h:zhU P cfg O fid rid idx o ρ st=some y):Evt fun m=>zhU P cfg (Os m) fid rid idx o ρ st=some y:=by
 unfold zhU XB at h⊢
 split at h
 ·exact .of fun m=>h
 ·exact zp1 hO h
 ·exact .of fun m=>h
 ·exact .of fun m=>h
 ·exact .of fun m=>h
theorem zlp{rid idx:Nat}{o:Oper}{ρ:Env}{st:St}{F:List (Nat×V)→St→Option R}{G:V→St→Option R}{F':Nat→List (Nat×V)→St→Option R}{G':Nat→V→St→Option R}
  (hF: ∀us st,F us st=some r→Evt fun m=>F' m us st=some r) (hG: ∀v st,G v st=some r→Evt fun m=>G' m v st=some r) (h:XB P cfg O fid rid idx o ρ st F G=some r):
  Evt fun m=>XB P cfg (Os m) fid rid idx o ρ st (F' m) (G' m)=some r:=by
 rw[Q6]at h
 obtain⟨y,hy,h⟩:=XF h
 cases y with
 |inl x=>exact(zlo hO hy).map2 (hF _ _ h) fun m h1 h2=>by rw[Q6,h1];exact h2
 |inr x=>exact(zlo hO hy).map2 (hG _ _ h) fun m h1 h2=>by rw[Q6,h1];exact h2
theorem zfm{rid:Nat}{all:List Oper}{i:Nat}{fi:Foot}{st:St}{X:Option R}{X':Nat→Option R}(hX:X=some r→Evt fun m=>X' m=some r): ∀(rest:List Oper) (j:Nat) (ρ:Env) (fs:List Foot),
  Qw P cfg O fid rid all i fi st rest j ρ fs X=some r→Evt fun m=>Qw P cfg (Os m) fid rid all i fi st rest j ρ fs (X' m)=some r
 |[],j,ρ,fs,h=>by
  simp only[Qw]at h⊢
  obtain⟨hg,h⟩:=zb7 h
  exact(hX h).mono fun m hm=>by rw[hg];exact hm
 |o::rest,j,ρ,fs,h=>by
  simp only[Qw]at h⊢
  rcases Jq h with⟨hb,h⟩|⟨hb,h⟩
  ·exact(zfm hX rest _ _ _ h).mono fun m hm=>by rw[hb];exact hm
  ·obtain⟨hg,h⟩:=zb7 h
   refine(zlp hO (F':=fun m us _=>gd (XL (ZJ cfg fid rid j o [] ρ (us.map (·.1))) fi&&zna (ZJ cfg fid rid j o [] ρ (us.map (·.1))).sk) (Qw P cfg (Os m) fid rid all i fi st rest (j+1) (ρ.apply us) (ZJ cfg fid rid j o [] ρ (us.map (·.1))::fs) (X' m))) (G':=fun m _ _=>none) (fun us st' h=> ?_) (fun v st' h=>by cases h) h).mono fun m hm=> ?_
   ·obtain⟨hg2,h⟩:=zb7 h
    exact(zfm hX rest _ _ _ h).mono fun m hm=>by rw[hg2];exact hm
   ·rw[hb,hg];exact hm
theorem zib{rid:Nat}{all:List Oper}{draw:Bool}{fs:List Foot}{rest:List Oper}{o:Oper}{i:Nat}{ρ:Env}{st:St}{C:List Nat→Env→List (Nat×V)→St→Option R}{D:List Nat→Env→Option R}{K:Ex→Env→St→Option R}
  {C':Nat→List Nat→Env→List (Nat×V)→St→Option R} {D':Nat→List Nat→Env→Option R} {K':Nat→Ex→Env→St→Option R}
  (hC: ∀g ρ us st,C g ρ us st=some r→Evt fun m=>C' m g ρ us st=some r) (hD: ∀g ρ,D g ρ=some r→Evt fun m=>D' m g ρ=some r) (hK: ∀e ρ st,K e ρ st=some r→Evt fun m=>K' m e ρ st=some r)
  (h:za5 P cfg O fid rid all draw fs rest o i ρ st C D K=some r):Evt fun m=>za5 P cfg (Os m) fid rid all draw fs rest o i ρ st (C' m) (D' m) (K' m)=some r:=by
 have run: ∀(g:List Nat) (ρ:Env),gd (bif draw then freshDst ρ o.dst else okDst all ρ o.dst) (XB P cfg O fid rid i o ρ st (C g ρ) (fun p st'=>bc draw (Qw P cfg O fid rid all i (ZJ cfg fid rid i o g ρ []) st rest (i+1) ρ fs (K (.panic p) ρ st')) (K (.panic p) ρ st')))=some r→
   Evt fun m=>gd (bif draw then freshDst ρ o.dst else okDst all ρ o.dst) (XB P cfg (Os m) fid rid i o ρ st (C' m g ρ) (fun p st'=>bc draw (Qw P cfg (Os m) fid rid all i (ZJ cfg fid rid i o g ρ []) st rest (i+1) ρ fs (K' m (.panic p) ρ st')) (K' m (.panic p) ρ st')))=some r:=fun g ρ h=>by
  obtain⟨hg,h⟩:=zb7 h
  refine(zlp hO (F':=fun m=>C' m g ρ) (G':=fun m p st'=>bc draw (Qw P cfg (Os m) fid rid all i (ZJ cfg fid rid i o g ρ []) st rest (i+1) ρ fs (K' m (.panic p) ρ st')) (K' m (.panic p) ρ st')) (fun us st' h=>hC _ _ _ _ h) (fun v st' h=> ?_) h).mono fun m hm=> ?_
  ·rcases Jq h with⟨hd,h⟩|⟨hd,h⟩
   ·refine(zfm hO (hK _ _ _) rest _ _ _ h).mono fun m hm=> ?_
    rw[hd];exact hm
   ·refine(hK _ _ _ h).mono fun m hm=> ?_
    rw[hd];exact hm
  ·rw[hg];exact hm
 have skip: ∀(g:List Nat) (ρ:Env),gd (bif draw then freshDst ρ o.dst else okDst all ρ o.dst) (D g ρ)=some r→Evt fun m=>gd (bif draw then freshDst ρ o.dst else okDst all ρ o.dst) (D' m g ρ)=some r:=fun g ρ h=>by
  obtain⟨hg,h⟩:=zb7 h
  refine(hD _ _ h).mono fun m hm=> ?_
  rw[hg];exact hm
 simp only[za5]at h⊢
 split at h
 ·rename_i hgd
  exact run [] ρ h
 ·rename_i g want hgd
  split at h
  ·cases h
  ·rename_i t ht
   split at h
   ·rename_i b hv
    rcases Jq h with⟨rfl,h1⟩|⟨rfl,h1⟩
    ·rcases Jq h1 with⟨rfl,h2⟩|⟨rfl,h2⟩
     ·exact run _ _ h2
     ·exact skip _ _ h2
    ·rcases Jq h1 with⟨rfl,h2⟩|⟨rfl,h2⟩
     ·exact skip _ _ h2
     ·exact run _ _ h2
   ·exact skip _ _ h
   ·cases h
theorem Jr{rid:Nat}{all:List Oper}{draw:Bool}: ∀(rest:List Oper) (i:Nat) (ρ:Env) (st:St) (fs:List Foot) (K:Ex→Env→St→Option R) (K':Nat→Ex→Env→St→Option R),(∀e ρ st,K e ρ st=some r→Evt fun m=>K' m e ρ st=some r)→
  ZR P cfg O fid rid all draw rest i ρ st fs K=some r→Evt fun m=>ZR P cfg (Os m) fid rid all draw rest i ρ st fs (K' m)=some r
 |[],i,ρ,st,fs,K,K',hK,h=>by
  simp only[ZR]at h⊢
  rcases Jq h with⟨hd,h⟩|⟨hd,h⟩
  ·obtain⟨hg,h⟩:=zb7 h
   refine(hK _ _ _ h).mono fun m hm=> ?_
   rw[hd,hg];exact hm
  ·refine(hK _ _ _ h).mono fun m hm=> ?_
   rw[hd];exact hm
 |[o],i,ρ,st,fs,K,K',hK,h=>by
  exact zib hO (C:=fun g ρ us st'=>ZR P cfg O fid rid all draw [] (i+1) (ρ.apply us) st' (bif draw then ZJ cfg fid rid i o g ρ (us.map (·.1))::fs else fs) K)
   (D:=fun g ρ=>ZR P cfg O fid rid all draw [] (i+1) (ρ.put o.dst (.tup [])) st (bif draw then {idx:=i,reads:=g,writes:=o.dst.toList,sk:= .none}::fs else fs) K)
   (C':=fun m g ρ us st'=>ZR P cfg (Os m) fid rid all draw [] (i+1) (ρ.apply us) st' (bif draw then ZJ cfg fid rid i o g ρ (us.map (·.1))::fs else fs) (K' m))
   (D':=fun m g ρ=>ZR P cfg (Os m) fid rid all draw [] (i+1) (ρ.put o.dst (.tup [])) st (bif draw then {idx:=i,reads:=g,writes:=o.dst.toList,sk:= .none}::fs else fs) (K' m))
   (fun g ρ us st h=>Jr [] _ _ _ _ K K' hK h) (fun g ρ h=>Jr [] _ _ _ _ K K' hK h) hK h
 |o::o2::rest,i,ρ,st,fs,K,K',hK,h=>by
  exact zib hO (C:=fun g ρ us st'=>
    bc (!draw&&Jb P o o2)
     (gd (okDst all (ρ.apply us) o2.dst) (ZR P cfg O fid rid all draw rest (i+2) ((ρ.apply us).put o2.dst ((ρ.apply us).get (o.dst.getD 0))) st' fs K))
     (ZR P cfg O fid rid all draw (o2::rest) (i+1) (ρ.apply us) st' (bif draw then ZJ cfg fid rid i o g ρ (us.map (·.1))::fs else fs) K))
   (D:=fun g ρ=>ZR P cfg O fid rid all draw (o2::rest) (i+1) (ρ.put o.dst (.tup [])) st (bif draw then {idx:=i,reads:=g,writes:=o.dst.toList,sk:= .none}::fs else fs) K)
   (C':=fun m g ρ us st'=>
    bc (!draw&&Jb P o o2)
     (gd (okDst all (ρ.apply us) o2.dst) (ZR P cfg (Os m) fid rid all draw rest (i+2) ((ρ.apply us).put o2.dst ((ρ.apply us).get (o.dst.getD 0))) st' fs (K' m)))
     (ZR P cfg (Os m) fid rid all draw (o2::rest) (i+1) (ρ.apply us) st' (bif draw then ZJ cfg fid rid i o g ρ (us.map (·.1))::fs else fs) (K' m)))
   (D':=fun m g ρ=>ZR P cfg (Os m) fid rid all draw (o2::rest) (i+1) (ρ.put o.dst (.tup [])) st (bif draw then {idx:=i,reads:=g,writes:=o.dst.toList,sk:= .none}::fs else fs) (K' m))
   (fun g ρ us st h=>by
    rcases Jq h with⟨hl,h⟩|⟨hl,h⟩
    ·obtain⟨hg,h⟩:=zb7 h
     refine(Jr rest _ _ _ _ K K' hK h).mono fun m hm=> ?_
     rw[hl,hg];exact hm
    ·refine(Jr (o2::rest) _ _ _ _ K K' hK h).mono fun m hm=> ?_
     rw[hl];exact hm)
   (fun g ρ h=>Jr (o2::rest) _ _ _ _ K K' hK h) hK h
omit hO in
theorem zju{f key:Nat}{nrm rt:Bool}{ids:List Nat}{x:Ex×List V×St}{K:Ex→Env→St→Option R}{K':Nat→Ex→Env→St→Option R}(hK: ∀e ρ st,K e ρ st=some r→Evt fun m=>K' m e ρ st=some r)
  (h:behind P cfg f key nrm rt ids x K=some r):Evt fun m=>behind P cfg f key nrm rt ids x (K' m)=some r:=by
 have outs: ∀(l:List (Nat×Kd)) (vs:List V) (e:Ex) (st:St),Yg P l vs (fun ρ=>K e ρ st)=some r→Evt fun m=>Yg P l vs (fun ρ=>K' m e ρ st)=some r:=fun l vs e st h=>by
  rw[zdf]at h
  obtain⟨ρ,hρ,h⟩:=XF h
  exact(hK _ _ _ h).mono fun m hm=>by rw[zdf,hρ];exact hm
 obtain⟨e,vs,st⟩:=x
 unfold behind Xk at h⊢
 cases e with
 |normal=>
  rcases Jq h with⟨hd,h⟩|⟨hd,h⟩
  ·exact(outs _ _ _ _ h).mono fun m hm=>by simp only[hd];exact hm
  ·cases h
 |ret=>
  rcases Jq h with⟨hd,h⟩|⟨hd,h⟩
  ·exact(outs _ _ _ _ h).mono fun m hm=>by simp only[hd];exact hm
  ·cases h
 |exit i=>
  have: ∀ids:List Nat,Qh i (fun j=>Yg P (cfg.outs f key) vs fun ρ=>K (.exit j) ρ st) ids=some r→Evt fun m=>Qh i (fun j=>Yg P (cfg.outs f key) vs fun ρ=>K' m (.exit j) ρ st) ids=some r:=by
   intro ids
   induction ids with
   |nil=>intro h;cases h
   |cons j js ih=>
    intro h
    unfold Qh at h⊢
    rcases Jq h with⟨hd,h⟩|⟨hd,h⟩
    ·exact(outs _ _ _ _ h).mono fun m hm=>by simp only[hd];exact hm
    ·exact(ih h).mono fun m hm=>by simp only[hd];exact hm
  exact this _ h
 |goto l=>cases h
 |panic v=>
  rcases Jq h with⟨hd,h⟩|⟨hd,h⟩
  ·exact(hK _ _ _ h).mono fun m hm=>by simp only[hd];exact hm
  ·cases h
theorem zao: ∀(c:Code) (ρ:Env) (st:St) (K:Ex→Env→St→Option R) (K':Nat→Ex→Env→St→Option R),(∀e ρ st,K e ρ st=some r→Evt fun m=>K' m e ρ st=some r)→
  exec P cfg O fid c ρ st K=some r→Evt fun m=>exec P cfg (Os m) fid c ρ st (K' m)=some r:=by
 intro c
 induction c with
 |skip=>intro ρ st K K' hK h;exact hK _ _ _ h
 |label l=>intro ρ st K K' hK h;exact hK _ _ _ h
 |exit i=>intro ρ st K K' hK h;exact hK _ _ _ h
 |goto l=>intro ρ st K K' hK h;exact hK _ _ _ h
 |ret=>intro ρ st K K' hK h;exact hK _ _ _ h
 |refuse s=>intro ρ st K K' hK h;cases h
 |region id ops draw=>intro ρ st K K' hK h;exact Jr hO _ _ _ _ _ _ _ hK h
 |seq a b iha ihb=>
  intro ρ st K K' hK h
  simp only[exec]at h⊢
  refine iha _ _ _ _ (fun e ρ st h=> ?_) h
  cases e with
  |normal=>exact ihb _ _ _ _ hK h
  |_=>exact hK _ _ _ h
 |cond c a b iha ihb=>
  intro ρ st K K' hK h
  simp only[exec]at h⊢
  split at h
  ·split at h
   ·rcases Jq h with⟨rfl,h⟩|⟨rfl,h⟩
    ·exact iha _ _ _ _ hK h
    ·exact ihb _ _ _ _ hK h
   ·cases h
  ·rcases Jq h with⟨rfl,h⟩|⟨rfl,h⟩
   ·exact iha _ _ _ _ hK h
   ·exact ihb _ _ _ _ hK h
  ·cases h
 |block id b ih=>
  intro ρ st K K' hK h
  simp only[exec]at h⊢
  refine ih _ _ _ _ (fun e ρ st h=> ?_) h
  cases e with
  |exit i=>
   rcases Jq h with⟨hd,h⟩|⟨hd,h⟩
   ·exact(hK _ _ _ h).mono fun m hm=>by simp only[hd];exact hm
   ·exact(hK _ _ _ h).mono fun m hm=>by simp only[hd];exact hm
  |_=>exact hK _ _ _ h
 |loop b ih=>
  intro ρ st K K' hK h
  simp only[exec]at h⊢
  rw[X8]at h
  obtain⟨vals,hv,h⟩:=XF h
  obtain⟨x,hx,h⟩:=XF h
  refine(hO.loop _ _ _ _ _ hx).map2 (zju hK h) fun m h1 h2=> ?_
  rw[X8,hv]
  show Za ((Os m).loop _ _ _ _) _=_
  rw[h1];exact h2
 |scope b ih=>
  intro ρ st K K' hK h
  simp only[exec]at h⊢
  refine ih _ _ _ _ (fun e ρ st h=> ?_) h
  cases e with
  |goto l=>
   simp only at h⊢
   split at h
   ·rcases Jq h with⟨hn,h⟩|⟨_,h⟩
    ·rw[X8]at h
     obtain⟨vals,hv,h⟩:=XF h
     obtain⟨x,hx,h⟩:=XF h
     refine(hO.loop _ _ _ _ _ hx).map2 (zju hK h) fun m h1 h2=> ?_
     simp only[hn]
     show Yh _ _ _ _=_
     rw[X8,hv]
     show Za ((Os m).loop _ _ _ _) _=_
     rw[h1];exact h2
    ·cases h
   ·exact hK _ _ _ h
  |_=>exact hK _ _ _ h
 |rangeFunc f ps a b iha ihb=>
  intro ρ st K K' hK h
  simp only[exec]at h⊢
  unfold zf8 at h⊢
  split at h
  ·obtain⟨⟨out,st2⟩,hx,h⟩:=XF h
   cases out with
   |panic v=>cases h
   |ret v=>
    unfold Zx Zw ZX at h
    simp only at h
    split at h
    ·rename_i y hy
     split at h
     ·rename_i s p
      have:Evt fun m=>XZ s p (K' m .normal (ρ.apply (upds ρ false (f::((cfg.keep fid (keyOf b)).map (·.1)).map Operand.tmp))) (st2.set st.length .dead)) (bc (JF b) (K' m .ret (ρ.apply (upds ρ false (f::((cfg.keep fid (keyOf b)).map (·.1)).map Operand.tmp))) (st2.set st.length .dead)) none)
        (fun i=>Qh i (fun j=>K' m (.exit j) (ρ.apply (upds ρ false (f::((cfg.keep fid (keyOf b)).map (·.1)).map Operand.tmp))) (st2.set st.length .dead)) (XY b))=some r:=by
       unfold XZ at h⊢
       split at h
       ·exact hK _ _ _ h
       ·rcases Jq h with⟨hd,h⟩|⟨_,h⟩
        ·exact(hK _ _ _ h).mono fun m hm=>by simp only[hd];exact hm
        ·cases h
       ·rename_i i
        have: ∀ids:List Nat,Qh i (fun j=>K (.exit j) (ρ.apply (upds ρ false (f::((cfg.keep fid (keyOf b)).map (·.1)).map Operand.tmp))) (st2.set st.length .dead)) ids=some r→Evt fun m=>Qh i (fun j=>K' m (.exit j) (ρ.apply (upds ρ false (f::((cfg.keep fid (keyOf b)).map (·.1)).map Operand.tmp))) (st2.set st.length .dead)) ids=some r:=by
         intro ids
         induction ids with
         |nil=>intro h;cases h
         |cons j js ih=>
          intro h
          unfold Qh at h⊢
          rcases Jq h with⟨hd,h⟩|⟨hd,h⟩
          ·exact(hK _ _ _ h).mono fun m hm=>by simp only[hd];exact hm
          ·exact(ih h).mono fun m hm=>by simp only[hd];exact hm
        exact this _ h
       ·cases h
      refine(hO.call _ _ _ _ hx).map2 this fun m h1 h2=> ?_
      dsimp only
      rw[h1]
      unfold Za Zx Zw ZX
      simp only[hy]
      exact h2
     ·cases h
    ·cases h
  ·cases h
end
end
end Go.AM
namespace Go.AM
open Go
section
variable{P:Program}{cfg:Cfg}{ext:Ext}{fid:Nat}{R:Type}{r:R}{α:Type}{Os:Nat→Oracle}{O:Oracle}
theorem zm0(hO:OLim Os O){f:Nat}{args:List V}{st:St}{x:Out×St}(h:Ze P cfg O f args st=some x):Evt fun m=>Ze P cfg (Os m) f args st=some x:=by
 unfold Ze at h⊢
 split at h
 ·cases h
 ·rename_i fn hf
  split at h
  ·cases h
  ·rename_i c hb
   obtain⟨hg,h⟩:=zb7 h
   refine(zao hO c _ _ _ (fun _ e ρ st'=>match e with
    | .normal| .ret=>match zlM (cfg.room f) ρ fn.results.toList with
     |some (_,sh,es)=>gd (Zk st.length es&&Zt st.length (st'.take st.length)) (some (.ret (.spr sh es st.length),st'.take st.length++[.spare sh es.length (st.length+1), .dead, .dead]))
     |none=>gd (decide (fn.results.size≤fn.resultTypes.size))<|Qi P (cfg.room f) st.length ρ st' (fn.results.toList.zip fn.resultTypes.toList) fun vs st'=>gc (cfg.pure f) st.length (.ret (match vs with|[v]=>v|vs=> .tup vs)) st'
    | .panic v=>gc (cfg.pure f) st.length (.panic v) st'
    |_=>none) (fun e ρ st h=> .of fun _=>h) h).mono fun m hm=> ?_
   simp only[hf,hb,hg]
   exact hm
theorem zm1(hO:OLim Os O){f key:Nat}{vals:List V}{st:St}{x:Ex×List V×St}(h:Zz P cfg O f key vals st=some x):Evt fun m=>Zz P cfg (Os m) f key vals st=some x:=by
 have keep: ∀(ρ:Env) (st:St),(Yh P (cfg.keep f key) ρ fun vals=>O.loop f key vals st)=some x→Evt fun m=>(Yh P (cfg.keep f key) ρ fun vals=>(Os m).loop f key vals st)=some x:=fun ρ st h=>by
  rw[X8]at h
  obtain⟨vals,hv,h⟩:=XF h
  exact(hO.loop _ _ _ _ _ h).mono fun m hm=>by rw[X8,hv];exact hm
 unfold Zz at h⊢
 split at h
 ·cases h
 ·rename_i fn hf
  split at h
  ·cases h
  ·rename_i c hb
   split at h
   ·rename_i hk
    split at h
    ·cases h
    ·rename_i b hb2
     refine(zao hO b _ _ _ (fun m e ρ st=>match e with
      | .normal=>Yh P (cfg.keep f key) ρ fun vals=>(Os m).loop f key vals st
      | .ret=>some (.ret,(cfg.rets f key).map (fun x=>ρ.get x.1),st)
      |e=>some (e,(cfg.outs f key).map (fun x=>ρ.get x.1),st)) (fun e ρ st h=> ?_) h).mono fun m hm=> ?_
     ·cases e with
      |normal=>exact keep _ _ h
      |_=>exact .of fun _=>h
     ·simp only[hf,hb,if_pos hk,hb2]
      exact hm
   ·rename_i hk
    split at h
    ·cases h
    ·rename_i b hb2
     split at h
     ·cases h
     ·rename_i rest hr
      refine(zao hO rest _ _ _ (fun m e ρ st=>match e with
       | .goto l=>if l=key-YG then Yh P (cfg.keep f key) ρ fun vals=>(Os m).loop f key vals st else none
       | .ret=>some (.ret,(cfg.rets f key).map (fun x=>ρ.get x.1),st)
       |e=>some (e,(cfg.outs f key).map (fun x=>ρ.get x.1),st)) (fun e ρ st h=> ?_) h).mono fun m hm=> ?_
      ·cases e with
       |goto l=>
        simp only at h⊢
        split at h
        ·rename_i hl
         simp only[if_pos hl]
         exact keep _ _ h
        ·cases h
       |_=>exact .of fun _=>h
      ·simp only[hf,hb,if_neg hk,hb2,hr]
       exact hm
theorem zk9(hO:OLim Os O){l f key:Nat}{vals args:List V}{st:St}{x:Bool×St}(h:Xw P cfg O l f key vals args st=some x):Evt fun m=>Xw P cfg (Os m) l f key vals args st=some x:=by
 unfold Xw at h⊢
 split at h
 ·cases h
 ·rename_i fn hf
  split at h
  ·cases h
  ·rename_i c hb
   split at h
   ·cases h
   ·rename_i ps a b hr
    obtain⟨hg,h⟩:=zb7 h
    refine(zao hO a _ _ _ (fun m e ρ st=>match e with
     | .normal=>
      Zw st l fun y=>ZX y fun f1 k1 v1 s1 p1=>
      za3 s1 p1 (
       exec P cfg (Os m) f b ρ (st.set l (.loop f1 k1 v1 .busy none)) fun e _ st'=>
        Zw st' l fun x=>ZX x fun f2 k2 v2 s _=>
         YO s (match e with
         | .normal=>some (true,st'.set l (.loop f2 k2 v2 .ready none))
         | .ret=>some (false,st'.set l (.loop f2 k2 v2 .done (some .ret)))
         | .exit id=>some (false,st'.set l (.loop f2 k2 v2 .done (some (.exit id))))
         |_=>none))
     |_=>none) (fun e ρ st h=> ?_) h).mono fun m hm=> ?_
    ·cases e with
     |normal=>
      simp only at h⊢
      unfold Zw at h⊢
      split at h
      ·rename_i y hy
       unfold ZX at h⊢
       cases y with
       |loop f1 k1 v1 s1 p1=>
        simp only at h⊢
        try simp only[hy]
        cases s1<;>cases p1<;>simp only[za3]at h⊢ <;>first|cases h|skip
        exact zao hO b _ _ _ _ (fun e ρ st h=> .of fun _=>h) h
       |_=>cases h
      ·cases h
     |_=>cases h
    ·simp only[hf,hb,hr,hg]
     exact hm
def zdD(ext:Ext):Prop:= ∀f x,ext f=some x→ ∀(Os:Nat→Oracle) (O:Oracle),OLim Os O→ ∀args st y,x O args st=some y→Evt fun m=>x (Os m) args st=some y
theorem zbg(hE:zdD ext)(hO:OLim Os O):OLim (fun m=>zkZ P cfg ext (Os m)) (zkZ P cfg ext O):=by
 refine⟨fun f args st x h=> ?_,fun f key vals st x h=>zm1 hO h,fun l f key vals args st x h=>zk9 hO h⟩
 simp only[zkZ]at h⊢
 split at h
 ·rename_i y hy
  exact(hE f y hy Os O hO _ _ _ h).mono fun m hm=>by(try simp only[hy]);exact hm
 ·rename_i hy
  exact(zm0 hO h).mono fun m hm=>by(try simp only[hy]);exact hm
theorem OLim.trans{O' O2:Oracle}(h:OLim (fun _=>O') O)(k:OLim (fun _=>O2) O'):OLim (fun _=>O2) O:=
 ⟨fun f args st x e=>let⟨n,h⟩:=h.call f args st x e;k.call _ _ _ _ (h n (Nat.le_refl _)),fun f key vals st x e=>let⟨n,h⟩:=h.loop f key vals st x e;k.loop _ _ _ _ _ (h n (Nat.le_refl _)),
  fun l f key vals args st x e=>let⟨n,h⟩:=h.round l f key vals args st x e;k.round _ _ _ _ _ _ _ (h n (Nat.le_refl _))⟩
theorem zlq(hE:zdD ext): ∀k,OLim (fun _=>XJ P cfg ext (k+1)) (XJ P cfg ext k)
 |0=>⟨fun _ _ _ _ h=>(by cases h),fun _ _ _ _ _ h=>(by cases h),fun _ _ _ _ _ _ _ h=>(by cases h)⟩
 |k+1=>zbg hE (zlq hE k)
theorem ziF(hE:zdD ext)(k:Nat): ∀d,OLim (fun _=>XJ P cfg ext (k+d)) (XJ P cfg ext k)
 |0=>⟨fun _ _ _ _ h=> .of fun _=>h,fun _ _ _ _ _ h=> .of fun _=>h,fun _ _ _ _ _ _ _ h=> .of fun _=>h⟩
 |d+1=>(ziF hE k d).trans (zlq hE (k+d))
noncomputable def zrv(s:Nat→Option α):Option α:=by
 classical
 exact if h: ∃x,Evt fun m=>s m=some x then some h.choose else none
theorem XN{s:Nat→Option α}{x:α}:zrv s=some x↔Evt fun m=>s m=some x:=by
 classical
 unfold zrv
 constructor
 ·intro h
  split at h
  ·rename_i hx
   cases h
   exact hx.choose_spec
  ·cases h
 ·intro h
  rw[dif_pos ⟨x,h⟩]
  obtain⟨n,hn⟩:=h
  obtain⟨n',hn'⟩:=(⟨x,n,hn⟩: ∃x,Evt fun m=>s m=some x).choose_spec
  have h1:=hn (max n n') (by omega)
  have h2:=hn' (max n n') (by omega)
  exact h2.symm.trans h1
noncomputable def Om(P:Program)(cfg:Cfg)(ext:Ext):Oracle where
 call f args st:=zrv fun m=>(XJ P cfg ext m).call f args st
 loop f key vals st:=zrv fun m=>(XJ P cfg ext m).loop f key vals st
 round l f key vals args st:=zrv fun m=>(XJ P cfg ext m).round l f key vals args st
theorem zp2:OLim (fun m=>XJ P cfg ext m) (Om P cfg ext):=
 ⟨fun _ _ _ _ h=>XN.1 h,fun _ _ _ _ _ h=>XN.1 h,fun _ _ _ _ _ _ _ h=>XN.1 h⟩
theorem ziG(hE:zdD ext)(k:Nat):OLim (fun _=>Om P cfg ext) (XJ P cfg ext k):=by
 have key: ∀{β:Type} {s:Nat→Option β} {x:β},(∀d,Evt fun _=>s (k+d)=some x)→zrv s=some x:=fun {β s x} h=>XN.2 ⟨k,fun m hm=>by
  obtain⟨n,h⟩:=h (m-k)
  have:=h n (Nat.le_refl _)
  rwa [show k+(m-k)=m by omega]at this⟩
 exact⟨fun f args st x h=> .of fun _=>key fun d=>(ziF hE k d).call f args st x h,fun f key' vals st x h=> .of fun _=>key fun d=>(ziF hE k d).loop f key' vals st x h,
  fun l f key' vals args st x h=> .of fun _=>key fun d=>(ziF hE k d).round l f key' vals args st x h⟩
theorem zjv{p:Nat→Prop}(h:Evt fun m=>p (m+1)):Evt p:=by
 obtain⟨n,h⟩:=h
 exact⟨n+1,fun m hm=>by obtain⟨k,rfl⟩: ∃k,m=k+1:=⟨m-1,by omega⟩;exact h k (by omega)⟩
theorem zp3{p:Nat→Prop}(h:Evt p): ∃k,p (k+1):=by
 obtain⟨n,h⟩:=h
 exact⟨n,h (n+1) (by omega)⟩
theorem zew{p:Prop}(h:Evt fun _=>p):p:=by
 obtain⟨n,h⟩:=h
 exact h n (Nat.le_refl _)
theorem zm2{x y:Option α}(h1: ∀z,x=some z→y=some z)(h2: ∀z,y=some z→x=some z):x=y:=by
 cases x with
 |none=>
  cases y with
  |none=>rfl
  |some z=>have:=h2 z rfl;cases this
 |some z=>exact(h1 z rfl).symm
theorem zqC(hE:zdD ext)(f:Nat)(args:List V)(st:St):(Om P cfg ext).call f args st=(zkZ P cfg ext (Om P cfg ext)).call f args st:=
 zm2 (fun z h=>by
  obtain⟨k,hk⟩:=zp3 (XN.1 h)
  exact zew ((zbg (P:=P) (cfg:=cfg) hE (ziG hE k)).call f args st z hk))
  fun z h=>XN.2 (zjv ((zbg hE zp2).call f args st z h))
theorem ztP(hE:zdD ext)(f key:Nat)(vals:List V)(st:St):(Om P cfg ext).loop f key vals st=Zz P cfg (Om P cfg ext) f key vals st:=
 zm2 (fun z h=>by
  obtain⟨k,hk⟩:=zp3 (XN.1 h)
  exact zew ((zbg (P:=P) (cfg:=cfg) hE (ziG hE k)).loop f key vals st z hk))
  fun z h=>XN.2 (zjv ((zbg (P:=P) (cfg:=cfg) hE zp2).loop f key vals st z h))
theorem zsL(hE:zdD ext)(l f key:Nat)(vals args:List V)(st:St):(Om P cfg ext).round l f key vals args st=Xw P cfg (Om P cfg ext) l f key vals args st:=
 zm2 (fun z h=>by
  obtain⟨k,hk⟩:=zp3 (XN.1 h)
  exact zew ((zbg (P:=P) (cfg:=cfg) hE (ziG hE k)).round l f key vals args st z hk))
  fun z h=>XN.2 (zjv ((zbg (P:=P) (cfg:=cfg) hE zp2).round l f key vals args st z h))
theorem ztQ{f:Nat}{args:List V}{st:St}{x:Out×St}(h:(Om P cfg ext).call f args st=some x): ∃m,(XJ P cfg ext m).call f args st=some x:=by
 obtain⟨n,h⟩:=XN.1 h
 exact⟨n,h n (Nat.le_refl _)⟩
end
end Go.AM
namespace Go.AM
open Go Go.RowKit
def lift(ds:List Deferred)(a:Act):Act:={a with defers:=a.defers++ds}
section
variable{P:Program}{F:Fence}{n:Nat}{ds:List Deferred}
theorem zjw(a:Act)(d:Option Tmp)(v:Value):(lift ds a).put d v=lift ds (a.put d v):=by cases d<;>rfl
theorem zrw{o:Oper}{a:Act}{next next':Act→World→Prop}{Q Q':Exit→Act→World→Prop}{x:Result Next}(hn: ∀v d w,(d=a.defers∨ ∃d0 w0,d=d0::a.defers∧x= .ok (.defer d0) w0)→next (({a with defers:=d}).put o.dst v) w→next' (lift ds (({a with defers:=d}).put o.dst v)) w)(hq: ∀e w,Q e a w→Q' e (lift ds a) w)
  (hl:LetsOut Q→LetsOut Q') (h:o.uponIn F n P a next Q x):o.uponIn F n P (lift ds a) next' Q' x:=by
 have hn': ∀v w,next (a.put o.dst v) w→next' ((lift ds a).put o.dst v) w:=fun v w h=>by rw[zjw];exact hn v a.defers w (.inl rfl) h
 unfold Oper.uponIn at*
 split at h
 ·exact hn' _ _ h
 ·exact hn' _ _ h
 ·rename_i d w'
  have:=hn undef (d::a.defers) w' (.inr ⟨d,w',rfl,rfl⟩) h
  rw[←zjw]at this
  exact this
 ·refine⟨h.1,h.2.mono fun e w'' he=> ?_⟩
  cases e with
  |returned v=>exact hn' _ _ he
  |panicked ch=>exact hq _ _ he
  |outgrown=>exact hl he
 ·exact⟨h.1,h.2.mono fun v w'' he=>hn' _ _ he⟩
 ·refine⟨h.1,h.2.mono fun e w'' he=> ?_⟩
  cases e with
  |returned v=>exact hn' _ _ he
  |panicked ch=>exact hq _ _ he
  |outgrown=>exact hl he
 ·exact hq _ _ h
 ·exact h.elim
theorem zbh{ops:Array Oper}{Q Q':Exit→Act→World→Prop}{I:Act→Prop}(hI: ∀o∈ops.toList,∀a d v,I a→(d=a.defers∨ ∃d0 ev w w',d=d0::a.defers∧(o.semAt F.round ev).run P w= .ok (.defer d0) w')→I (({a with defers:=d}).put o.dst v))(hq: ∀e a w,I a→Q e a w→Q' e (lift ds a) w)(hl:LetsOut Q→LetsOut Q'):
  ∀(l:List Nat) (a:Act) (w:World),I a→wpOpsIn F n P ops Q l a w→wpOpsIn F n P ops Q' l (lift ds a) w
 |[],a,w,hi,h=>hq _ _ _ hi h
 |i::rest,a,w,hi,h=>by
  simp only[wpOpsIn]at h⊢
  cases ho:ops[i]? with
  |none=>simp only[ho]at h;exact zbh hI hq hl rest a w hi h
  |some o=>
   have hm:o∈ops.toList:=Array.mem_toList_iff.2 (Array.mem_of_getElem? ho)
   simp only[ho]at h
   have ht:(lift ds a).tmps=a.tmps:=rfl
   dsimp only
   rw[ht]
   split at h
   ·rename_i hw
    rw[if_pos hw]
    refine⟨h.1,zrw (fun v d w' hd hn=>zbh hI hq hl rest _ w' (hI o hm a d v hi (hd.imp_right fun⟨d0,w0,e1,e2⟩=>⟨d0,a.eval,w,w0,e1,e2⟩)) hn) (fun e w' he=>hq e a w' hi he) hl h.2⟩
   ·rename_i hw
    rw[if_neg hw]
    refine⟨h.1, ?_⟩
    rw[zjw]
    exact zbh hI hq hl rest _ w (hI o hm a a.defers undef hi (.inl rfl)) h.2
end
def zcl:Code→Bool
 | .skip=>true
 | .ret=>true
 | .seq a b=>zcl a&&zcl b
 | .cond _ a b=>zcl a&&zcl b
 | .region _ _ draw=> !draw
 |_=>false
def zgf(t:Nat):Code→Bool
 | .seq a b=>zgf t a||zgf t b
 | .cond _ a b=>zgf t a||zgf t b
 | .region _ ops _=>ops.toList.any fun o=>match o.dst with|some d=>Nat.beq d t|none=>false
 |_=>false
section
variable{P:Program}{cfg:Cfg}{base n:Nat}{w0 w w':World}{own own' YN:Own}{μ μ' μ0:List Nat}{ρ:Env}{st st':St}{a:Act}{R:Type}{r:R}{O:Oracle}{m:Nat}
def zvL(P:Program)(cfg:Cfg)(base n:Nat)(w0:World)(YN:Own)(μ0:List Nat)(r:R)(K:Ex→Env→St→Option R)(ds:List Deferred)(ts:List (Nat×Value))(e:Exit)(a':Act)(w:World):Prop:=
 ∃a,a'=lift ds a∧(∀x∈ts,a.tmps.getD x.1 undef=x.2)∧Fin P cfg base n w0 YN μ0 r K e a w
theorem zsM{a:Act}{d:Option Nat}{v:Value}{t:Nat}(h: ∀d',d=some d'→Nat.beq d' t=false):(a.put d v).tmps.getD t undef=a.tmps.getD t undef:=by
 cases d with
 |none=>rfl
 |some d'=>
  have:t≠d':=fun e=>by have:=h d' rfl;subst e;simp at this
  simp only[Act.put,Array.getD_eq_getD_getElem?]
  rw[Array.getElem?_setIfInBounds_ne (Ne.symm this)]
theorem zrx(hP:PlainNames P)(hC:Q2 P cfg O.call)(hRd:QG P cfg O.round){f:Nat}{ds:List Deferred}{ts:List (Nat×Value)}: ∀(c:Code),zcl c=true→ZI n c=true→(∀x∈ts,zgf x.1 c=false)→ ∀(K:Ex→Env→St→Option R) (ρ:Env) (st:St) (a:Act) (w:World) (own:Own) (μ:List Nat),
  Rel P cfg base n w own μ ρ st a→NoL ρ→(∀x∈ts,a.tmps.getD x.1 undef=x.2)→exec P cfg O f c ρ st K=some r→c.wpIn Fence.wide m P (zvL P cfg base n w own μ r K ds ts) (lift ds a) w:=by
 intro c
 induction c with
 |skip=>intro _ _ _ K ρ st a w own μ hR hN ht h;exact wpIn_skip ⟨a,rfl,ht,ρ,st,own,μ,h,hR,hN,Keeps.refl⟩
 |ret=>intro _ _ _ K ρ st a w own μ hR hN ht h;exact wpIn_ret ⟨a,rfl,ht,ρ,st,own,μ,h,hR,hN,Keeps.refl⟩
 |seq x y ihx ihy=>
  intro hf ho hs K ρ st a w own μ hR hN ht h
  simp only[zcl,Bool.and_eq_true]at hf
  simp only[ZI,Bool.and_eq_true]at ho
  have hs': ∀z∈ts,zgf z.1 x=false∧zgf z.1 y=false:=fun z hz=>by have:=hs z hz;simpa[zgf]using this
  refine wpIn_seq (wpIn_mono (ihx hf.1 ho.1 (fun z hz=>(hs' z hz).1) _ ρ st a w own μ hR hN ht h) fun e a' w' hF=> ?_)
  obtain⟨a1,rfl,ht1,hF⟩:=hF
  cases e with
  |normal=>
   obtain⟨ρ',st',own',μ',h1,h2,h3,h4⟩:=hF
   refine wpIn_mono (ihy hf.2 ho.2 (fun z hz=>(hs' z hz).2) K ρ' st' a1 w' own' μ' h2 h3 ht1 h1) fun e a' w' hF=> ?_
   obtain⟨a2,rfl,ht2,hF⟩:=hF
   exact⟨a2,rfl,ht2,hF.keeps h4⟩
  |outgrown=>exact hF.elim
  |_=>exact⟨a1,rfl,ht1,hF⟩
 |cond c x y ihx ihy=>
  intro hf ho hs K ρ st a w own μ hR hN ht h
  simp only[zcl,Bool.and_eq_true]at hf
  simp only[ZI,Bool.and_eq_true]at ho
  have hs': ∀z∈ts,zgf z.1 x=false∧zgf z.1 y=false:=fun z hz=>by have:=hs z hz;simpa[zgf]using this
  simp only[exec]at h
  split at h
  ·rename_i t
   split at h
   ·rename_i b hv
    have hev:(lift ds a).eval (.tmp t)= .bool b:=by
     have:=zfX hR hv
     simp[Act.eval,lift,this]
    rcases Yn h with⟨rfl,h1⟩|⟨rfl,h1⟩
    ·exact wpIn_cond_true hev (ihx hf.1 ho.1 (fun z hz=>(hs' z hz).1) K _ st a w own μ (hR.congr (XE hv)) (fun t' x off e=>hN t' x off (by rwa [XE hv]at e)) ht h1)
    ·exact wpIn_cond_false hev (ihy hf.2 ho.2 (fun z hz=>(hs' z hz).2) K _ st a w own μ (hR.congr (XE hv)) (fun t' x off e=>hN t' x off (by rwa [XE hv]at e)) ht h1)
   ·cases h
  ·rename_i b
   have hev:(lift ds a).eval (.const (.bool b))= .bool b:=rfl
   rcases Yn h with⟨rfl,h1⟩|⟨rfl,h1⟩
   ·exact wpIn_cond_true hev (ihx hf.1 ho.1 (fun z hz=>(hs' z hz).1) K ρ st a w own μ hR hN ht h1)
   ·exact wpIn_cond_false hev (ihy hf.2 ho.2 (fun z hz=>(hs' z hz).2) K ρ st a w own μ hR hN ht h1)
  ·cases h
 |region id ops draw=>
  intro hf ho hs K ρ st a w own μ hR hN ht h
  cases draw with
  |true=>cases hf
  |false=>
   simp only[exec]at h
   have hw:=Jh (ro:=none) (m:=m) (Q:=Fin P cfg base n w own μ r K) (w0:=w) (YN:=own) (μ0:=μ) hP hC hRd (zcI ho) (fun ρ' st' a' w' own' μ' h1 h2 h3 h4=>⟨ρ',st',own',μ',h1,h2,h3,h4⟩)
    (fun v c ρ' ρ'' st' a' w' own' μ' h1 h2 h3 h4=>⟨v,c,ρ',ρ'',st',own',μ',h1,h2,h3,h4,rfl⟩) ops.toList 0 ρ st [] a w own μ rfl hR (fun t x off e=>absurd e (hN t x off)) Keeps.refl h
   refine wpIn_region ?_
   have hw':wpOpsIn (wide none) m P ops (Fin P cfg base n w own μ r K) (List.range ops.size) a w:=by
    rw[List.range_eq_range']
    simpa using hw
   refine zbh (I:=fun a=> ∀x∈ts,a.tmps.getD x.1 undef=x.2) (fun o hom a' d v hi _ x hx=> ?_) (fun e a' w' hi hF=>⟨a',rfl,hi,hF⟩) (fun⟨a',w',hF⟩=>hF.elim) _ a w ht (show wpOpsIn Fence.wide m P ops _ _ a w from hw')
   have hx':=hs x hx
   simp only[zgf,List.any_eq_false]at hx'
   rw[zsM fun d' hd'=>by have:=hx' o hom;rw[hd']at this;exact Bool.eq_false_iff.2 this]
   exact hi x hx
 |_=>intro hf;cases hf
def calm(o:Oper):Bool:=
 match o.op with
 | .move _| .assign _| .alloc _| .box .. | .build .. | .load .. | .store .. | .binOp .. | .makeInterface .. | .extract .. | .typeAssert .. | .panic _| .unOp .. | .fieldAddr .. =>true
 |_=>false
def zeJ:Code→Bool
 | .seq a b=>zeJ a&&zeJ b
 | .cond _ a b=>zeJ a&&zeJ b
 | .region _ ops _=>ops.toList.all calm
 |_=>true
theorem zry{s:Sem Value}{w w':World}{d:Deferred}:(do pure (Next.value (←s)):Sem Next).run P w≠ .ok (.defer d) w':=by
 simp only[Sem.run_bind]
 cases s.run P w<;>simp[Result.andThen]
theorem zsN{s:Sem Unit}{w w':World}{d:Deferred}:(do s;pure Next.skip:Sem Next).run P w≠ .ok (.defer d) w':=by
 simp only[Sem.run_bind]
 cases s.run P w<;>simp[Result.andThen]
theorem zsO{o:Oper}(h:calm o=true)(ev:Operand→Value)(w w':World)(d:Deferred):(o.semAt none ev).run P w≠ .ok (.defer d) w':=by
 rw[Oper.semAt_none]
 unfold calm at h
 cases hop:o.op<;>rw[hop]at h<;>first|(cases h;done)|skip
 all_goals simp only[execOp,hop]
 all_goals first|exact zry|exact zsN|simp[Sem.run_pure]
theorem zlr(hP:PlainNames P)(hC:Q2 P cfg O.call)(hRd:QG P cfg O.round){f:Nat}: ∀(c:Code),zcl c=true→zeJ c=true→ZI n c=true→ ∀(K:Ex→Env→St→Option R) (ρ:Env) (st:St) (a:Act) (w:World) (own:Own) (μ:List Nat),
  Rel P cfg base n w own μ ρ st a→NoL ρ→a.defers=[]→exec P cfg O f c ρ st K=some r→c.wpIn Fence.wide m P (fun e a' w'=>Fin P cfg base n w own μ r K e a' w'∧a'.defers=[]) a w:=by
 intro c
 induction c with
 |skip=>intro _ _ _ K ρ st a w own μ hR hN ht h;exact wpIn_skip ⟨⟨ρ,st,own,μ,h,hR,hN,Keeps.refl⟩,ht⟩
 |ret=>intro _ _ _ K ρ st a w own μ hR hN ht h;exact wpIn_ret ⟨⟨ρ,st,own,μ,h,hR,hN,Keeps.refl⟩,ht⟩
 |seq x y ihx ihy=>
  intro hf hs ho K ρ st a w own μ hR hN ht h
  simp only[zcl,Bool.and_eq_true]at hf
  simp only[zeJ,Bool.and_eq_true]at hs
  simp only[ZI,Bool.and_eq_true]at ho
  refine wpIn_seq (wpIn_mono (ihx hf.1 hs.1 ho.1 _ ρ st a w own μ hR hN ht h) fun e a' w' hF=> ?_)
  obtain⟨hF,ht1⟩:=hF
  cases e with
  |normal=>
   obtain⟨ρ',st',own',μ',h1,h2,h3,h4⟩:=hF
   exact wpIn_mono (ihy hf.2 hs.2 ho.2 K ρ' st' a' w' own' μ' h2 h3 ht1 h1) fun e a' w' hF=>⟨hF.1.keeps h4,hF.2⟩
  |outgrown=>exact hF.elim
  |_=>exact⟨hF,ht1⟩
 |cond c x y ihx ihy=>
  intro hf hs ho K ρ st a w own μ hR hN ht h
  simp only[zcl,Bool.and_eq_true]at hf
  simp only[zeJ,Bool.and_eq_true]at hs
  simp only[ZI,Bool.and_eq_true]at ho
  simp only[exec]at h
  split at h
  ·rename_i t
   split at h
   ·rename_i b hv
    have hev:a.eval (.tmp t)= .bool b:=by
     have:=zfX hR hv
     simp[Act.eval,this]
    rcases Yn h with⟨rfl,h1⟩|⟨rfl,h1⟩
    ·exact wpIn_cond_true hev (ihx hf.1 hs.1 ho.1 K _ st a w own μ (hR.congr (XE hv)) (fun t' x off e=>hN t' x off (by rwa [XE hv]at e)) ht h1)
    ·exact wpIn_cond_false hev (ihy hf.2 hs.2 ho.2 K _ st a w own μ (hR.congr (XE hv)) (fun t' x off e=>hN t' x off (by rwa [XE hv]at e)) ht h1)
   ·cases h
  ·rename_i b
   have hev:a.eval (.const (.bool b))= .bool b:=rfl
   rcases Yn h with⟨rfl,h1⟩|⟨rfl,h1⟩
   ·exact wpIn_cond_true hev (ihx hf.1 hs.1 ho.1 K ρ st a w own μ hR hN ht h1)
   ·exact wpIn_cond_false hev (ihy hf.2 hs.2 ho.2 K ρ st a w own μ hR hN ht h1)
  ·cases h
 |region id ops draw=>
  intro hf hs ho K ρ st a w own μ hR hN ht h
  cases draw with
  |true=>cases hf
  |false=>
   simp only[exec]at h
   simp only[zeJ,List.all_eq_true]at hs
   have hw:=Jh (ro:=none) (m:=m) (Q:=Fin P cfg base n w own μ r K) (w0:=w) (YN:=own) (μ0:=μ) hP hC hRd (zcI ho) (fun ρ' st' a' w' own' μ' h1 h2 h3 h4=>⟨ρ',st',own',μ',h1,h2,h3,h4⟩)
    (fun v c ρ' ρ'' st' a' w' own' μ' h1 h2 h3 h4=>⟨v,c,ρ',ρ'',st',own',μ',h1,h2,h3,h4,rfl⟩) ops.toList 0 ρ st [] a w own μ rfl hR (fun t x off e=>absurd e (hN t x off)) Keeps.refl h
   refine wpIn_region ?_
   have hw':wpOpsIn (wide none) m P ops (Fin P cfg base n w own μ r K) (List.range ops.size) a w:=by
    rw[List.range_eq_range']
    simpa using hw
   have:=zbh (ds:=[]) (I:=fun a=>a.defers=[]) (Q':=fun e a' w'=>Fin P cfg base n w own μ r K e a' w'∧a'.defers=[]) (F:=Fence.wide) (fun o hom a' d v hi hd=>by
    rcases hd with rfl|⟨d0,ev,w1,w2,e1,e2⟩
    ·cases o.dst<;>exact hi
    ·exact absurd e2 (zsO (hs o hom) ev w1 w2 d0)) (fun e a' w' hi hF=>by
    have:lift [] a'=a':=by simp[lift]
    rw[this];exact⟨hF,hi⟩) (fun⟨a',w',hF⟩=>hF.elim) _ a w ht (show wpOpsIn Fence.wide m P ops _ _ a w from hw')
   have e:lift [] a=a:=by simp[lift]
   rw[e]at this
   exact this
 |_=>intro hf;cases hf
end
end Go.AM
namespace Go.AM
open Go Go.RowKit
def zp4:Code→Option (Code×Nat×Nat×List Operand×Code)
 | .seq r0 (.seq (.region _ ops false) rest)=>
  match ops.toList with
  |[{dst:=some d4,op:= .makeFunc (.func g) first caps,guard:=none, .. },{dst:=none,op:= .defer {callee:= .value (.tmp t),args, .. },guard:=none, .. }]=>
   if t=d4∧first= #[]∧args= #[]then some (r0,g,d4,caps.toList,rest)else none
  |_=>none
 |_=>none
def zp5:Code→Option (Nat×Nat×Code)
 | .seq (.region _ ops false) rest=>
  match ops.toList with
  |[{dst:=some t5,op:= .call {callee:= .builtin .recover, .. },guard:=none, .. },{dst:=some t2,op:= .assign (.tmp t),guard:=none, .. }]=>if t=t5 then some (t5,t2,rest)else none
  |_=>none
 |_=>none
def zjx:V→Bool
 | .ref _ 0=>true
 |_=>false
section
variable(P:Program)(cfg:Cfg)(O:Oracle)
def Ji(g:Nat)(cv:List V)(p:V)(st:St)(K:St→Option (Out×St)):Option (Out×St):=
 match P.funcs[g]? with
 |none=>none
 |some fg=>
  match fg.body.bind zp5 with
  |none=>none
  |some (t5,t2,rest)=>
   gd (decide (cv.length≤fg.ntmps)&&decide (t5<fg.ntmps)&&decide (t2<fg.ntmps)&&ZI fg.ntmps rest&&zcl rest&&zeJ rest&&fg.results.isEmpty)<|
   exec P cfg O g rest (((Ja cv).set t5 p).set t2 p) st fun e _ st'=>match e with| .normal=>K st'| .ret=>K st'|_=>none
def JN(ρ:Env)(rs:List ResultVar):Env:=rs.filterMap fun| .cell a _=>some (a,ρ.get a)| .tmp _=>none
def znL(ρ:Env)(d4:Nat)(rest:Code)(rs:List ResultVar):Bool:=rs.all fun| .cell a _=>zjx (ρ.get a)&& !zgf a rest&& !Nat.beq d4 a| .tmp _=>false
def zeK(f:Nat)(args:List V)(st:St):Option (Out×St):=
 match P.funcs[f]? with
 |none=>none
 |some fn=>
  match fn.body.bind zp4 with
  |none=>none
  |some (r0,g,d4,caps,rest)=>
   gd (decide (args.length≤fn.ntmps)&&ZI fn.ntmps r0&&ZI fn.ntmps rest&&zcl r0&&zeJ r0&&zcl rest&&decide (d4<fn.ntmps)&&caps.all fun| .tmp _=>true|_=>false)<|
   exec P cfg O f r0 (Ja args) st fun e ρ1 st1=>
    match e with
    | .normal=>
     gd ((caps.map (ev ρ1)).all zjx&&znL ρ1 d4 rest fn.results.toList&&decide (fn.results.size≤fn.resultTypes.size))<|
     let fin (st3:St):Option (Out×St):=
      Qi P (cfg.room f) st.length (JN ρ1 fn.results.toList) st3 (fn.results.toList.zip fn.resultTypes.toList) fun vs st'=>gc (cfg.pure f) st.length (.ret (match vs with|[v]=>v|vs=> .tup vs)) st'
     exec P cfg O f rest (ρ1.set d4 .undef) st1 fun e _ st2=>
      match e with
      | .normal=>Ji P cfg O g (caps.map (ev ρ1)) .nili st2 fin
      | .ret=>Ji P cfg O g (caps.map (ev ρ1)) .nili st2 fin
      | .panic v=>zdn v fun t n=>Ji P cfg O g (caps.map (ev ρ1)) (.ifc t (.int n)) st2 fin
      |_=>none
    |_=>none
end
section
variable{P:Program}{cfg:Cfg}{base n:Nat}{w0 w w':World}{own own' YN:Own}{μ μ' μ0:List Nat}{ρ:Env}{st st':St}{a:Act}{r:Out×St}{O:Oracle}{m:Nat}
theorem zb8{o:Oper}(h:o.guard=none)(y:Nat→Option Bool):Region.wanted o y=true:=by simp[Region.wanted,h]
theorem znM{c rest:Code}{t5 t2:Nat}(h:zp5 c=some (t5,t2,rest)): ∃id ops rc as_,c= .seq (.region id ops false) rest∧ops.toList=[rc,as_]∧rc.dst=some t5∧rc.guard=none∧as_.dst=some t2∧as_.guard=none∧
  (∀ev w,(execOp ev rc).run P w= .ok .recover w)∧ ∀ev w,(execOp ev as_).run P w= .ok (.value (ev (.tmp t5))) w:=by
 unfold zp5 at h
 split at h
 ·rename_i id ops rest'
  split at h
  ·rename_i hl
   split at h
   ·rename_i ht
    subst ht
    simp only[Option.some.injEq,Prod.mk.injEq]at h
    obtain⟨rfl,rfl,rfl⟩:=h
    refine⟨id,ops,_,_,rfl,hl,rfl,rfl,rfl,rfl,fun ev w=> ?_,fun ev w=> ?_⟩
    ·simp only[execOp,resolve,Sem.run_bind,Sem.run_pure,Result.andThen_ok,invoke]
     rfl
    ·simp only[execOp]
     rfl
   ·cases h
  ·cases h
 ·cases h
theorem zrz(hP:PlainNames P)(hC:Q2 P cfg O.call)(hRd:QG P cfg O.round){g:Nat}{cv:List V}{p:V}{K:St→Option (Out×St)}(h:Ji P cfg O g cv p st K=some r)(hs:Sto P cfg base w own μ st)(hF:Flat own){cargs:Array Value}(ha:Args w own μ cv cargs)
  {u:FrameMode} (hu:(u= .returning∧p= .nili)∨ ∃c,u= .panicking [{v:=c,recovered:=false}]∧VRep w (prOf own) μ p c):
  (∃fg,P.funcs[g]? =some fg∧fg.body.isSome=true)∧CallsDIn Fence.wide m P g cargs u w fun e u' w'=> ∃v,e= .returned v∧settle u'= .returning∧ ∃st' own' μ',K st'=some r∧Sto P cfg base w' own' μ' st'∧Flat own'∧Keeps base w own μ w' own' μ':=by
 unfold Ji at h
 split at h
 ·cases h
 ·rename_i fg hf
  split at h
  ·cases h
  ·rename_i t5 t2 rest hb
   obtain⟨c,hc,hp⟩:=Option.bind_eq_some_iff.1 hb
   obtain⟨hg,h⟩:=Zh h
   simp only[Bool.and_eq_true,decide_eq_true_eq]at hg
   obtain⟨⟨⟨⟨⟨⟨g1,g2⟩,g3⟩,g4⟩,g5⟩,g6⟩,g7⟩:=hg
   obtain⟨id,ops,rc,as_,rfl,hl,k1,k2,k3,k4,k5,k6⟩:=znM (P:=P) hp
   refine⟨⟨fg,hf,by rw[hc];rfl⟩,callsDIn_of_wpSIn hf hc trivial fun c₀ cs hmode=> ?_⟩
   obtain⟨hR,hN⟩:=zhj (fn:=fg) hs ha g1
   have hops:ops= #[rc,as_]:=by rw[←hl]
   subst hops
   obtain⟨cp,cs',u',hV,hrec,hcs,hset⟩: ∃cp cs' u',VRep w (prOf own) μ p cp∧(match recoverD (c₀::cs)with|some (v,cs')=>(v,cs')|none=>(Value.nilIface,c₀::cs))=(cp,cs')∧cs'={c₀ with mode:=u'}::cs∧settle u'= .returning:=by
    rcases hu with⟨rfl,rfl⟩|⟨c,rfl,hv⟩
    ·refine⟨.nilIface,c₀::cs, .returning, .nili, ?_, ?_,rfl⟩
     ·simp only[recoverD,hmode]
     ·rw[←hmode]
    ·refine⟨c,_, .panicking [{v:=c,recovered:=true}],hv, ?_,rfl,rfl⟩
     simp only[recoverD,hmode]
   have hno: ∀d,zdt (Ja cv) d:=fun d t off e=>absurd e (hN t d off)
   have hR1:=hR.put t5 g2 (hno t5) hV
   have hN1:NoL ((Ja cv).set t5 p):=fun t x off e=>by
    rw[Zp]at e
    split at e
    ·subst e;cases hV
    ·exact hN t x off e
   have hR2:=hR1.put t2 g3 (fun t off e=>absurd e (hN1 t t2 off)) hV
   have hN2:NoL (((Ja cv).set t5 p).set t2 p):=fun t x off e=>by
    rw[Zp]at e
    split at e
    ·subst e;cases hV
    ·exact hN1 t x off e
   have hbody:=zlr (m:=m) hP hC hRd rest g5 g6 g4 _ _ st _ w own μ hR2 hN2 rfl h
   have hq: ∀(Q:Exit→Act→List Frame→World→Prop),Q .normal ((({tmps:=cargs++Array.replicate (fg.ntmps-cargs.size) undef,defers:=[]}:Act).put (some t5) cp).put (some t2) cp) cs' w→
     wpOpsSIn Fence.wide m P #[rc,as_] Q [0,1] {tmps:=cargs++Array.replicate (fg.ntmps-cargs.size) undef,defers:=[]} (c₀::cs) w:=by
    intro Q hQ
    have hlt:t5<(cargs++Array.replicate (fg.ntmps-cargs.size) undef).size:=by
     have:=hR.tmps
     simp only at this
     rw[this];exact g2
    have hget:((({tmps:=cargs++Array.replicate (fg.ntmps-cargs.size) undef,defers:=[]}:Act).put (some t5) cp).eval (.tmp t5))=cp:=by
     simp only[Act.eval,Act.put]
     rw[zcK _ _ _ hlt,if_pos rfl]
    have step2: ∀cs2,Q .normal ((({tmps:=cargs++Array.replicate (fg.ntmps-cargs.size) undef,defers:=[]}:Act).put (some t5) cp).put (some t2) cp) cs2 w→
      wpOpsSIn Fence.wide m P #[rc,as_] Q [1] (({tmps:=cargs++Array.replicate (fg.ntmps-cargs.size) undef,defers:=[]}:Act).put (some t5) cp) cs2 w:=by
     intro cs2 h2
     simp only[wpOpsSIn,show(#[rc,as_]:Array Oper)[1]? =some as_ from rfl,zb8 k4,if_true,k6,k3,hget]
     exact⟨fun _ _=>trivial,h2⟩
    simp only[wpOpsSIn,show(#[rc,as_]:Array Oper)[0]? =some rc from rfl,zb8 k2,if_true,k5,k1]
    refine⟨fun _ _=>trivial, ?_⟩
    split at hrec
    ·rename_i v cs2 he
     simp only[he]
     simp only[Prod.mk.injEq]at hrec
     obtain⟨rfl,rfl⟩:=hrec
     exact step2 _ hQ
    ·rename_i he
     simp only[he]
     simp only[Prod.mk.injEq]at hrec
     obtain⟨rfl,rfl⟩:=hrec
     have h2:=step2 _ hQ
     simp only[wpOpsSIn,he]at h2
     exact h2
   refine wpSIn_seq (wpSIn_region ?_)
   show wpOpsSIn _ _ _ _ _ [0,1] _ _ _
   refine hq _ ?_
   show rest.wpSIn _ _ _ _ _ _ _
   refine wpSIn_of_wpIn rfl (wpIn_mono hbody fun e a' w' hF=> ?_)
   obtain⟨hF,hd⟩:=hF
   have hres: ∀t,(results fg t).run P w'= .ok (.tuple #[]) w':=fun t=>by
    have:fg.results= #[]:=by simpa using g7
    simp[results,this]
   have fin:zrh P cfg base fg.ntmps w own μ r (fun e _ st'=>match e with| .normal=>K st'| .ret=>K st'|_=>none) .normal a' w'∨zrh P cfg base fg.ntmps w own μ r (fun e _ st'=>match e with| .normal=>K st'| .ret=>K st'|_=>none) .ret a' w'→
     a'.defers=[]∧ ∃u',cs'={c₀ with mode:=u'}::cs∧ ∃v,(results fg a'.tmps).run P w'= .ok v w'∧(∃v',Ending.returned v= .returned v'∧settle u'= .returning∧ ∃st' own' μ',K st'=some r∧Sto P cfg base w' own' μ' st'∧Flat own'∧Keeps base w own μ w' own' μ'):=by
    intro hor
    have key: ∃st' own' μ',K st'=some r∧Sto P cfg base w' own' μ' st'∧Flat own'∧Keeps base w own μ w' own' μ':=by
     rcases hor with hE|hE<;>
     ·obtain⟨ρ',st',own',μ',h1,h2,h3,h4⟩:=hE
      exact⟨st',zk8 own',μ',h1,zmt h2.sto,zhi own',h4.trans ((step_end h2.sto).keeps (by simp))⟩
    exact⟨hd,u',hcs,_,hres _,_,rfl,hset,key⟩
   cases e with
   |normal=>exact fin (.inl hF)
   |ret=>exact fin (.inr hF)
   |exit i=>obtain⟨_,_,_,_,h1,_⟩:=hF;cases h1
   |goto l=>obtain⟨_,_,_,_,h1,_⟩:=hF;cases h1
   |panic ch=>obtain⟨_,_,_,_,_,_,_,h1,_⟩:=hF;cases h1
   |outgrown=>exact hF.elim
theorem znN{c r0 rest:Code}{g d4:Nat}{caps:List Operand}(h:zp4 c=some (r0,g,d4,caps,rest)): ∃id ops mk df,c= .seq r0 (.seq (.region id ops false) rest)∧ops.toList=[mk,df]∧mk.dst=some d4∧mk.guard=none∧df.dst=none∧df.guard=none∧
  (∀ev w,(execOp ev mk).run P w= .ok (.value (.func (.func g) #[] (caps.map ev).toArray)) w)∧ ∀ev w f cf cc,ev (.tmp d4)= .func f cf cc→(execOp ev df).run P w= .ok (.defer {target:= .fn f cc,args:=cf}) w:=by
 unfold zp4 at h
 split at h
 ·rename_i r0' id ops rest'
  split at h
  ·rename_i hl
   split at h
   ·rename_i ht
    obtain⟨rfl,rfl,rfl⟩:=ht
    simp only[Option.some.injEq,Prod.mk.injEq]at h
    obtain⟨rfl,rfl,rfl,rfl,rfl⟩:=h
    refine⟨id,ops,_,_,rfl,hl,rfl,rfl,rfl,rfl,fun ev w=> ?_,fun ev w f cf cc he=> ?_⟩
    ·simp only[execOp,Instr.makeFunc,Sem.run_bind,Sem.run_pure,Result.andThen_ok]
     simp
     apply Array.toList_inj.1
     simp
    ·simp only[execOp,resolve,Sem.run_bind,he,Deferred.ofValue]
     simp
   ·cases h
  ·cases h
 ·cases h
theorem zic{v:V}(h:zjx v=true): ∃q,v= .ref q 0:=by
 unfold zjx at h
 split at h
 ·exact⟨_,rfl⟩
 ·cases h
theorem zid{F:Fence}{k:Nat}{fn:Func}{R:Ending→World→Prop}{u:FrameMode}(hu:u≠ .run){dl:List Deferred}{tm:Array Value}: ∀(ds:List Deferred) (w:World),Rel P cfg base n w own μ ρ st {tmps:=a.tmps,defers:=ds}→Keeps base w0 YN μ0 w own μ→
  (∀w',Rel P cfg base n w' own μ ρ st {tmps:=a.tmps,defers:=[]}→Keeps base w0 YN μ0 w' own μ→Keeps base w own μ w' own μ→LeavesInM F k P fn tm R dl u w')→LeavesInM F k P fn tm R (ds++dl) u w
 |[],w,h,hk,hend=>hend w h hk Keeps.refl
 |d::ds,w,h,hk,hend=>by
  obtain⟨D,rfl,hD,hd⟩:=h.defers d (by simp)
  obtain⟨h1,h2⟩:=zjs h hD hd
  exact⟨hu, .inl ⟨D,_,rfl,run_takeDeferred hD,zid hu ds _ h1 (hk.trans h2) fun w' k1 k2 k3=>hend w' k1 k2 (h2.trans k3)⟩⟩
theorem zp6{rs:List ResultVar}{t:Nat}:(JN ρ rs).get t= .undef∨((JN ρ rs).get t=ρ.get t∧ ∃ty, .cell t ty∈rs):=by
 induction rs with
 |nil=>exact .inl rfl
 |cons x rs ih=>
  cases x with
  |tmp y=>
   have:JN ρ (.tmp y::rs)=JN ρ rs:=rfl
   rw[this]
   rcases ih with h|⟨h,ty,hm⟩
   ·exact .inl h
   ·exact .inr ⟨h,ty,by simp[hm]⟩
  |cell y ty=>
   have:(JN ρ (.cell y ty::rs)).get t=(Env.set (JN ρ rs) y (ρ.get y)).get t:=rfl
   rw[this,Zp]
   by_cases e:t=y
   ·subst e
    rw[if_pos rfl]
    exact .inr ⟨rfl,ty,by simp⟩
   ·rw[if_neg e]
    rcases ih with h|⟨h,ty,hm⟩
    ·exact .inl h
    ·exact .inr ⟨h,ty,by simp[hm]⟩
theorem zie{R:Type}{r:R}{v:V}{K:Nat→Int→Option R}(h:zdn v K=some r): ∃t n,v= .ifc t (.int n)∧K t n=some r:=by
 unfold zdn at h
 split at h
 ·exact⟨_,_,rfl,h⟩
 ·cases h
theorem zsP(hP:PlainNames P)(hC:Q2 P cfg O.call)(hRd:QG P cfg O.round):Q2 P cfg (zeK P cfg O):=by
 intro f args st x h
 unfold zeK at h
 split at h
 ·cases h
 ·rename_i fn hf
  split at h
  ·cases h
  ·rename_i r0 g d4 caps rest hb
   obtain⟨c,hc,hp⟩:=Option.bind_eq_some_iff.1 hb
   refine⟨⟨fn,hf,by rw[hc];rfl⟩,fun n base w own μ cargs hs hfl ha=> ?_⟩
   obtain⟨hg,h⟩:=Zh h
   simp only[Bool.and_eq_true,decide_eq_true_eq]at hg
   obtain⟨⟨⟨⟨⟨⟨⟨g1,g2⟩,g3⟩,g4⟩,g5⟩,g6⟩,g7⟩,g8⟩:=hg
   obtain⟨id,ops,mk,df,rfl,hl,k1,k2,k3,k4,k5,k6⟩:=znN (P:=P) hp
   have hops:ops= #[mk,df]:=by rw[←hl]
   subst hops
   obtain⟨hR,hN⟩:=zhj (fn:=fn) hs ha g1
   refine callsIn_of_wp_marks hf hc trivial ?_
   refine wpIn_seq (wpIn_mono (zlr (m:=n) hP hC hRd r0 g4 g5 g2 _ _ st _ w own μ hR hN rfl h) fun e a1 w1 hF=> ?_)
   obtain⟨hF,hd1⟩:=hF
   cases e with
   |ret=>obtain⟨_,_,_,_,h1,_⟩:=hF;cases h1
   |exit i=>obtain⟨_,_,_,_,h1,_⟩:=hF;cases h1
   |goto l=>obtain⟨_,_,_,_,h1,_⟩:=hF;cases h1
   |panic ch=>obtain⟨_,_,_,_,_,_,_,h1,_⟩:=hF;cases h1
   |outgrown=>exact hF.elim
   |normal=>
   obtain⟨ρ1,st1,own1,μ1,h1,hR1,hN1,hK1⟩:=hF
   obtain⟨hg2,h1⟩:=Zh h1
   simp only[Bool.and_eq_true,List.all_eq_true,decide_eq_true_eq]at hg2
   obtain⟨⟨q1,q2⟩,q3⟩:=hg2
   generalize hfin:(fun st3=>Qi P (cfg.room f) st.length (JN ρ1 fn.results.toList) st3 (fn.results.toList.zip fn.resultTypes.toList) fun vs st'=>gc (cfg.pure f) st.length (.ret (match vs with|[v]=>v|vs=> .tup vs)) st')=fin at h1
   have href: ∀o∈caps,∃q b,ev ρ1 o= .ref q 0∧μ1[q]? =some b∧a1.eval o= .pointer (some ⟨b,0,none⟩):=by
    intro o ho
    obtain⟨q,hq⟩:=zic (q1 _ (List.mem_map.2 ⟨o,ho,rfl⟩))
    cases o with
    |tmp t=>
     have hT:=hR1.env t
     have hq':ρ1.get t= .ref q 0:=hq
     rw[hq']at hT
     have hT:VRep w1 (prOf own1) μ1 (.ref q 0) (a1.tmps.getD t undef):=hT
     generalize hcv:a1.tmps.getD t undef=cv at hT
     cases hT with
     |ref _ _ b hb=>exact⟨q,b,hq,hb,hcv⟩
    |const v=>have:=List.all_eq_true.1 g8 _ ho;cases this
    |global x=>simp[ev]at hq
    |func x=>simp[ev]at hq
   have hlt4:d4<a1.tmps.size:=by rw[hR1.tmps];exact g7
   let fv:Value:= .func (.func g) #[] (caps.map a1.eval).toArray
   let d:Deferred:={target:= .fn (.func g) (caps.map a1.eval).toArray,args:= #[]}
   let a2:Act:=a1.put (some d4) fv
   have hR2:Rel P cfg base fn.ntmps w1 own1 μ1 (ρ1.set d4 .undef) st1 a2:=hR1.put d4 g7 (fun t off e=>absurd e (hN1 t d4 off)) (.undef fv)
   have hN2:NoL (ρ1.set d4 .undef):=fun t y off e=>by
    rw[Zp]at e
    split at e
    ·cases e
    ·exact hN1 t y off e
   have hres: ∀t ty,ResultVar.cell t ty∈fn.results.toList→ ∃q b,ρ1.get t= .ref q 0∧μ1[q]? =some b∧a1.tmps.getD t undef= .pointer (some ⟨b,0,none⟩)∧zgf t rest=false∧t≠d4:=by
    intro t ty hm
    have:=List.all_eq_true.1 q2 _ hm
    simp only[Bool.and_eq_true,Bool.not_eq_true']at this
    obtain⟨⟨j1,j2⟩,j3⟩:=this
    obtain⟨q,hq⟩:=zic j1
    have hT:=hR1.env t
    rw[hq]at hT
    have hT:VRep w1 (prOf own1) μ1 (.ref q 0) (a1.tmps.getD t undef):=hT
    generalize hcv:a1.tmps.getD t undef=cv at hT
    cases hT with
    |ref _ _ b hb=>exact⟨q,b,hq,hb,rfl,j2,fun e=>by subst e;simp at j3⟩
   let ts:List (Nat×Value):=fn.results.toList.filterMap fun| .cell t _=>some (t,a1.tmps.getD t undef)| .tmp _=>none
   have hts: ∀y∈ts,∃ty,ResultVar.cell y.1 ty∈fn.results.toList∧y.2=a1.tmps.getD y.1 undef:=by
    intro y hy
    obtain⟨rv,hm,he⟩:=List.mem_filterMap.1 hy
    cases rv with
    |tmp _=>cases he
    |cell t ty=>simp only[Option.some.injEq]at he;subst he;exact⟨ty,hm,rfl⟩
   have hts': ∀t ty,ResultVar.cell t ty∈fn.results.toList→(t,a1.tmps.getD t undef)∈ts:=fun t ty hm=>List.mem_filterMap.2 ⟨_,hm,rfl⟩
   have hfl2: ∀K,exec P cfg O f rest (ρ1.set d4 .undef) st1 K=some x→rest.wpIn Fence.wide n P (zvL P cfg base fn.ntmps w1 own1 μ1 x K [d] ts) (lift [d] a2) w1:=fun K hK=>
    zrx (m:=n) hP hC hRd rest g6 g3 (fun y hy=>by obtain⟨ty,hm,_⟩:=hts y hy;obtain⟨_,_,_,_,_,j,_⟩:=hres _ ty hm;exact j) K _ st1 a2 w1 own1 μ1 hR2 hN2
     (fun y hy=>by
      obtain⟨ty,hm,e⟩:=hts y hy
      obtain⟨_,_,_,_,_,_,j⟩:=hres _ ty hm
      rw[e]
      show(a1.put (some d4) fv).tmps.getD y.1 undef=_
      simp only[Act.put]
      rw[zcK _ _ _ hlt4,if_neg j]) hK
   refine wpIn_seq (wpIn_region ?_)
   show wpOpsIn _ _ _ _ _ [0,1] _ _
   have hget4:(a1.put (some d4) fv).eval (.tmp d4)=fv:=by
    simp only[Act.eval,Act.put]
    rw[zcK _ _ _ hlt4,if_pos rfl]
   have hopsW: ∀(Q:Exit→Act→World→Prop),Q .normal (lift [d] a2) w1→wpOpsIn Fence.wide n P #[mk,df] Q [0,1] a1 w1:=by
    intro Q hQ
    simp only[wpOpsIn,show(#[mk,df]:Array Oper)[0]? =some mk from rfl,show(#[mk,df]:Array Oper)[1]? =some df from rfl,zb8 k2,zb8 k4,if_true]
    refine⟨fun _ _=>trivial, ?_⟩
    rw[show Fence.wide.round=none from rfl,Oper.semAt_none,k5,Oper.uponIn_value,k1]
    refine⟨fun _ _=>trivial, ?_⟩
    rw[show Fence.wide.round=none from rfl,Oper.semAt_none,k6 _ _ _ _ _ hget4,Oper.uponIn_defer,k3]
    have:({(a1.put (some d4) fv)with defers:=d::(a1.put (some d4) fv).defers}:Act).put none undef=lift [d] a2:=by
     show({tmps:=(a1.put (some d4) fv).tmps,defers:=d::a1.defers}:Act)={tmps:=(a1.put (some d4) fv).tmps,defers:=a1.defers++[d]}
     rw[hd1];rfl
    rw[this]
    exact hQ
   refine hopsW _ ?_
   show rest.wpIn _ _ _ _ _ _
   refine wpIn_mono (hfl2 _ h1) fun e a3 w3 hF3=> ?_
   obtain⟨a4,rfl,ht4,hF3⟩:=hF3
   have last: ∀(p:V) (u:FrameMode) (ρ2:Env) (st2:St) (own2:Own) (μ2:List Nat),u≠ .run→Rel P cfg base fn.ntmps w3 own2 μ2 ρ2 st2 a4→Keeps base w1 own1 μ1 w3 own2 μ2→Ji P cfg O g (caps.map (ev ρ1)) p st2 fin=some x→
     ((u= .returning∧p= .nili)∨ ∃c,u= .panicking [{v:=c,recovered:=false}]∧VRep w3 (prOf own2) μ2 p c)→LeavesInM Fence.wide n P fn a4.tmps (QV P cfg base w own μ x) (a4.defers++[d]) u w3:=by
    intro p u ρ2 st2 own2 μ2 hu hR3 hK3 hput hor
    refine zid hu a4.defers w3 hR3 (hK1.trans hK3) fun w4 hR4 hK4 hK34=> ?_
    have hEnd:=zmt hR4.sto
    have hKE:Keeps base w4 own2 μ2 w4 (zk8 own2) μ2:=(step_end hR4.sto).keeps (by simp)
    have hmu: ∀q b,μ1[q]? =some b→μ2[q]? =some b:=fun q b hq=>by
     obtain⟨ν,rfl⟩:=hK3.mu
     exact zc1 hq
    have hArgs:Args w4 (zk8 own2) μ2 (caps.map (ev ρ1)) (caps.map a1.eval).toArray:=by
     refine⟨by simp,fun i hi=> ?_⟩
     have hi':i<caps.length:=by simpa using hi
     obtain⟨q,b,e1,e2,e3⟩:=href caps[i] (List.getElem_mem hi')
     have e4:(caps.map (ev ρ1)).getD i .undef= .ref q 0:=by simp[List.getD_eq_getElem?_getD,hi',e1]
     have e5:(caps.map a1.eval).toArray.getD i undef= .pointer (some ⟨b,0,none⟩):=by simp[Array.getD_eq_getD_getElem?,hi',e3]
     rw[e4,e5]
     exact .ref q 0 b (hmu _ _ e2)
    obtain⟨hgb,hcall⟩:=zrz (m:=n-1) (u:=u) hP hC hRd hput hEnd (zhi own2) hArgs (by
     rcases hor with hor|⟨c,e1,e2⟩
     ·exact .inl hor
     ·exact .inr ⟨c,e1,hKE.vrep (hK34.vrep e2)⟩)
    refine⟨hu, .inr ⟨fun h=>(by cases h), .func g,(caps.map a1.eval).toArray,g,(caps.map a1.eval).toArray,rfl, ?_,fun _ _=>trivial, ?_⟩⟩
    ·have:=zaA (P:=P) hP hgb (w:=w4) (#[]++(caps.map a1.eval).toArray)
     show(invoke (.fn (.func g) (caps.map a1.eval).toArray) #[]).run P w4=_
     simp only[invoke]
     simpa using this
    ·refine hcall.mono fun e u' w5 hpost=> ?_
     obtain⟨v,rfl,hset,st5,own5,μ5,j1,j2,j3,j4⟩:=hpost
     dsimp only
     rw[hset]
     have hmu5: ∀q b,μ2[q]? =some b→μ5[q]? =some b:=fun q b hq=>by
      obtain⟨ν,rfl⟩:=j4.mu
      exact zc1 hq
     have hRR:Rel P cfg base fn.ntmps w5 own5 μ5 (JN ρ1 fn.results.toList) st5 {tmps:=a4.tmps,defers:=[]}:=by
      refine⟨j2,fun t=> ?_,hR4.tmps,(fun y hy=>(by cases hy)),List.nodup_nil⟩
      rcases zp6 (ρ:=ρ1) (rs:=fn.results.toList) (t:=t)with e|⟨e,ty,hm⟩
      ·rw[e];exact .undef _
      ·obtain⟨q,b,e1,e2,e3,_,_⟩:=hres t ty hm
       rw[e,e1]
       have:=ht4 _ (hts' t ty hm)
       simp only at this
       show VRep _ _ _ _ _
       rw[this,e3]
       exact .ref q 0 b (hmu5 _ _ (hmu _ _ e2))
     rw[←hfin]at j1
     obtain⟨vs,st',own6,cs,i1,i2,i3,i4,i5,i6,i7⟩:=zbR hRR _ _ st5 own5 _ (by simpa using q3) j2 j3 (fun b i hb=>by
      rcases hb with hb|⟨t,j,hb⟩
      ·exact hb
      ·rcases j3 b i with e|e|e|⟨_,_,e⟩<;>rw[e]at hb<;>cases hb) j1
     refine⟨znH cs,zdA i7, ?_⟩
     have hv:=zhY i5 i6
     rw[←hs.len]at i1
     obtain⟨μ',m1,m2,m3,m4⟩:=zmv i2 (((hK4.trans hKE).trans j4).trans i4) hv (.inl rfl) i1
     refine⟨znH cs,own6,μ',m1,m2, ?_⟩
     rw[m3]
     exact⟨rfl,m4⟩
   cases e with
   |normal=>
    obtain⟨ρ2,st2,own2,μ2,j1,j2,j3,j4⟩:=hF3
    exact last _ _ ρ2 st2 own2 μ2 (by simp) j2 j4 j1 (.inl ⟨rfl,rfl⟩)
   |ret=>
    obtain⟨ρ2,st2,own2,μ2,j1,j2,j3,j4⟩:=hF3
    exact last _ _ ρ2 st2 own2 μ2 (by simp) j2 j4 j1 (.inl ⟨rfl,rfl⟩)
   |exit i=>obtain⟨_,_,_,_,h1,_⟩:=hF3;cases h1
   |goto l=>obtain⟨_,_,_,_,h1,_⟩:=hF3;cases h1
   |panic ch=>
    obtain⟨v,cv,ρ2,ρ3,st2,own2,μ2,j1,j2,j3,j4,rfl⟩:=hF3
    obtain⟨t,n,rfl,j1⟩:=zie j1
    exact last _ _ ρ3 st2 own2 μ2 (by simp) j2 j3 j1 (.inr ⟨cv,rfl,j4⟩)
   |outgrown=>exact hF3.elim
end
end Go.AM
namespace Go.AM
open Go
section
variable{P:Program}{cfg:Cfg}{x:Out×St}{Os:Nat→Oracle}{O:Oracle}
theorem zfn(hO:OLim Os O){g:Nat}{cv:List V}{p:V}{st:St}{K:St→Option (Out×St)}(h:Ji P cfg O g cv p st K=some x):Evt fun m=>Ji P cfg (Os m) g cv p st K=some x:=by
 unfold Ji at h⊢
 split at h
 ·cases h
 ·rename_i fg hf
  split at h
  ·cases h
  ·rename_i t5 t2 rest hb
   obtain⟨hg,h⟩:=zb7 h
   refine(zao hO rest _ _ _ (fun _ e _ st'=>match e with| .normal=>K st'| .ret=>K st'|_=>none) (fun e ρ st h=> .of fun _=>h) h).mono fun m hm=> ?_
   simp only[hf,hb,hg]
   exact hm
theorem zr0(hO:OLim Os O){f:Nat}{args:List V}{st:St}(h:zeK P cfg O f args st=some x):Evt fun m=>zeK P cfg (Os m) f args st=some x:=by
 unfold zeK at h⊢
 split at h
 ·cases h
 ·rename_i fn hf
  split at h
  ·cases h
  ·rename_i r0 g d4 caps rest hb
   obtain⟨hg,h⟩:=zb7 h
   refine(zao hO r0 _ _ _ (fun m e ρ1 st1=>match e with
    | .normal=>
     gd ((caps.map (ev ρ1)).all zjx&&znL ρ1 d4 rest fn.results.toList&&decide (fn.results.size≤fn.resultTypes.size))<|
     let fin (st3:St):Option (Out×St):=
      Qi P (cfg.room f) st.length (JN ρ1 fn.results.toList) st3 (fn.results.toList.zip fn.resultTypes.toList) fun vs st'=>gc (cfg.pure f) st.length (.ret (match vs with|[v]=>v|vs=> .tup vs)) st'
     exec P cfg (Os m) f rest (ρ1.set d4 .undef) st1 fun e _ st2=>
      match e with
      | .normal=>Ji P cfg (Os m) g (caps.map (ev ρ1)) .nili st2 fin
      | .ret=>Ji P cfg (Os m) g (caps.map (ev ρ1)) .nili st2 fin
      | .panic v=>zdn v fun t n=>Ji P cfg (Os m) g (caps.map (ev ρ1)) (.ifc t (.int n)) st2 fin
      |_=>none
    |_=>none) (fun e ρ1 st1 h=> ?_) h).mono fun m hm=> ?_
   ·cases e with
    |normal=>
     dsimp only at h⊢
     obtain⟨hg2,h⟩:=zb7 h
     refine(zao hO rest _ _ _ (fun m e _ st2=>match e with
      | .normal=>Ji P cfg (Os m) g (caps.map (ev ρ1)) .nili st2 fun st3=>Qi P (cfg.room f) st.length (JN ρ1 fn.results.toList) st3 (fn.results.toList.zip fn.resultTypes.toList) fun vs st'=>gc (cfg.pure f) st.length (.ret (match vs with|[v]=>v|vs=> .tup vs)) st'
      | .ret=>Ji P cfg (Os m) g (caps.map (ev ρ1)) .nili st2 fun st3=>Qi P (cfg.room f) st.length (JN ρ1 fn.results.toList) st3 (fn.results.toList.zip fn.resultTypes.toList) fun vs st'=>gc (cfg.pure f) st.length (.ret (match vs with|[v]=>v|vs=> .tup vs)) st'
      | .panic v=>zdn v fun t n=>Ji P cfg (Os m) g (caps.map (ev ρ1)) (.ifc t (.int n)) st2 fun st3=>Qi P (cfg.room f) st.length (JN ρ1 fn.results.toList) st3 (fn.results.toList.zip fn.resultTypes.toList) fun vs st'=>gc (cfg.pure f) st.length (.ret (match vs with|[v]=>v|vs=> .tup vs)) st'
      |_=>none) (fun e ρ st h=> ?_) h).mono fun m hm=> ?_
     ·cases e with
      |normal=>exact zfn hO h
      |ret=>exact zfn hO h
      |panic v=>
       obtain⟨t,n,rfl,h⟩:=zie h
       exact zfn hO h
      |exit i=>cases h
      |goto l=>cases h
     ·rw[hg2];exact hm
    |_=>cases h
   ·simp only[hf,hb,hg]
    exact hm
end
end Go.AM
namespace Go.AM
open Go Go.Proofs Go.RowKit Go.Shelf Go.Lib
section
variable{P:Program}{ρ:Ren}
end
section
variable{P:Program}{cfg:Cfg}{base:Nat}{w w':World}{own:Own}{μ:List Nat}{st:St}
theorem Step.above(hs:Sto P cfg base w own μ st)(hB:Below w.heap.size w w'){g:Nat}{t:Tag}(hg:w.heap.size≤g)(hg':g<w'.heap.size)(ht:t≠ .fr)(ν:List Nat):Step base w own μ w' (Xy own g t) (μ++ν) (fun _=>False):=by
 have hlt: ∀{b i},own b i≠ .free→b<w.heap.size:=fun h=>hs.alloc _ _ h
 have hne: ∀{b i},own b i≠ .free→b≠g:=fun h e=>by have:=hlt h;omega
 refine⟨hB.mono hs.size,fun b i h=> ?_,fun b i h _=> ?_,fun b i h=> ?_,fun b i h=> ?_,fun b i h1 h2 h3=> ?_,fun b c e f hb=> ?_,fun b g' h1 h2 _ _=> ?_,ν,rfl⟩
 ·have hb:own b i≠ .free:=by rw[h];simp
  refine⟨by simp[Xy,hne hb,h], ?_⟩
  simp[World.cell?,hB.block b (hlt hb)]
 ·simp[Xy,hne h]
 ·by_cases e:b=g
  ·simp[Xy,e]at h;exact absurd h ht
  ·simpa[Xy,e]using h
 ·by_cases e:b=g
  ·subst e;exact hg'
  ·have:own b i≠ .free:=by simpa[Xy,e]using h
   have:=hs.alloc b i this
   have:=hB.size
   omega
 ·by_cases e:b=g
  ·rw[e];exact Nat.le_trans hs.size hg
  ·simp only[Xy,e,if_false]at h1 h2 h3
   exact hs.low b i h1 h2 h3
 ·exact⟨c,(hB.block b (Array.getElem?_eq_some_iff.1 hb).1).trans hb,rfl⟩
 ·exact hB.block b (hlt (i:=0) (by rw[h1];exact h2))
theorem Step.above'(hs:Sto P cfg base w own μ st)(hB:Below w.heap.size w w')(ν:List Nat):Step base w own μ w' own (μ++ν) (fun _=>False):=by
 have hlt: ∀{b i},own b i≠ .free→b<w.heap.size:=fun h=>hs.alloc _ _ h
 refine⟨hB.mono hs.size,fun b i h=> ?_,fun b i h _=>rfl,fun b i h=>h,fun b i h=>Nat.lt_of_lt_of_le (hlt h) hB.size,hs.low,fun b c e f hb=>⟨c,(hB.block b (Array.getElem?_eq_some_iff.1 hb).1).trans hb,rfl⟩,fun b g' h1 h2 _ _=>hB.block b (hlt (i:=0) (by rw[h1];exact h2)),ν,rfl⟩
 have hb:own b i≠ .free:=by rw[h];simp
 exact⟨h,by simp[World.cell?,hB.block b (hlt hb)]⟩
end
end Go.AM
namespace Go.AM
open Go Go.Proofs Go.RowKit Go.Shelf Go.Lib
variable{P:Program}{cfg:Cfg}
end Go.AM
namespace Go.AM
open Go Go.Proofs Go.RowKit Go.Shelf Go.Lib
def zp7(x:Int):List Int→List Int
 |[]=> [x]
 |y::l=>bif decide (x≤y)then x::y::l else y::zp7 x l
def Q7:List Int→List Int
 |[]=> []
 |x::l=>zp7 x (Q7 l)
def zdg:List (V×V)→Option (List Int)
 |[]=>some []
 |(k,v)::es=>match k,v with| .int n, .bool _=>(zdg es).map (n:: ·)|_,_=>none
def zdE:List Int→Bool
 |[]=>true
 |x::l=>l.all (fun y=> !(y==x))&&zdE l
def zls(n:Int):Bool:=decide (-9223372036854775808≤n)&&decide (n≤9223372036854775807)
def zcL(args:List V)(st:St):Option (Out×St):=
 match args with
 |[.mp r]=>Zw st r fun x=>zhC x fun ck cv es=>
   gd (decide (ck= .int)&&decide (cv= .bool)&&decide (es.length≤1099511627776))<|
   Za (zdg es) fun zs=>gd (zs.all zls&&zdE zs) (some (.ret (.vec .plain none ((Q7 zs).map V.int)),st))
 |_=>none
theorem zhl(x:Int): ∀l,(zp7 x l).Perm (x::l)
 |[]=>List.Perm.refl _
 |y::l=>by
  unfold zp7
  cases decide (x≤y)
  ·exact((zhl x l).cons y).trans (List.Perm.swap x y l)
  ·exact List.Perm.refl _
theorem Q8: ∀l,(Q7 l).Perm l
 |[]=>List.Perm.refl _
 |x::l=>(zhl x _).trans ((Q8 l).cons x)
theorem zif(x:Int): ∀l,l.Pairwise (· ≤ ·)→(zp7 x l).Pairwise (· ≤ ·)
 |[],_=>by simp[zp7]
 |y::l,h=>by
  unfold zp7
  obtain⟨h1,h2⟩:=List.pairwise_cons.1 h
  by_cases hxy:x≤y
  ·rw[decide_eq_true hxy]
   refine List.pairwise_cons.2 ⟨fun z hz=> ?_,h⟩
   rcases List.mem_cons.1 hz with rfl|hz
   ·exact hxy
   ·exact Int.le_trans hxy (h1 z hz)
  ·rw[decide_eq_false hxy]
   refine List.pairwise_cons.2 ⟨fun z hz=> ?_,zif x l h2⟩
   rcases List.mem_cons.1 ((zhl x l).mem_iff.1 hz)with rfl|hz
   ·omega
   ·exact h1 z hz
theorem zeL: ∀l,(Q7 l).Pairwise (· ≤ ·)
 |[]=>List.Pairwise.nil
 |x::l=>zif x _ (zeL l)
theorem zp8: ∀{l l':List Int},l.Perm l'→l.Pairwise (· ≤ ·)→l'.Pairwise (· ≤ ·)→l=l':=fun hp h1 h2=>hp.eq_of_pairwise (le:=(· ≤ ·)) (fun _ _ _ _ ha hb=>Int.le_antisymm ha hb) h1 h2
theorem zhm{l l':List Int}(h:l.Perm l'):l.mergeSort (fun x y=>decide (x≤y))=Q7 l':=by
 refine zp8 ((List.mergeSort_perm _ _).trans (h.trans (Q8 l').symm)) ?_ (zeL l')
 have:=List.pairwise_mergeSort (le:=fun x y:Int=>decide (x≤y)) (fun a b c h1 h2=>by simp at*;omega) (fun a b=>by simp;omega) l
 exact this.imp fun h=>by simpa using h
def znO(P:Program)(g:Nat)(e:TypeId):Prop:=
 (∃fn,P.funcs[g]? =some fn∧fn.body.isSome=true)∧
 ∀(b:Nat) (es:List (V×V)) (ms:Array MapEntry) (clock:Nat) (zs:List Int) (w:World),w.heap[b]? =some (.map ms clock)→za7 .int .bool es ms clock→zdg es=some zs→zs.all zls=true→zdE zs=true→es.length≤1099511627776→
  Calls P g #[.map (some b)] w fun ed w'=> ∃v',ed= .returned v'∧w'.ownsRow w.heap.size e 1 v' zs.length ((Q7 zs).map (Value.int .i64))∧Below w.heap.size w w'
variable{P:Program}{cfg:Cfg}
theorem zhn: ∀{es:List (V×V)} {zs:List Int},zdg es=some zs→zs.length=es.length
 |[],zs,h=>by cases h;rfl
 |(k,v)::es,zs,h=>by
  simp only[zdg]at h
  split at h
  ·cases hk:zdg es with
   |none=>rw[hk]at h;cases h
   |some l=>rw[hk]at h;cases h;simp[zhn hk]
  ·cases h
theorem zp9{g:Nat}{e:TypeId}(hC:znO P g e){args:List V}{st:St}{y:Out×St}(h:zcL args st=some y):(∃fn,P.funcs[g]? =some fn∧fn.body.isSome=true)∧
  ∀(n base:Nat) (w:World) (own:Own) (μ:List Nat) (cargs:Array Value),Sto P cfg base w own μ st→Flat own→Args w own μ args cargs→CallsIn Fence.wide n P g cargs w (QV P cfg base w own μ y):=by
 refine⟨hC.1,fun n base w own μ cargs hs hfl hA=> ?_⟩
 unfold zcL at h
 split at h
 ·rename_i r
  obtain⟨x,hx,h1⟩:=Yd h
  obtain⟨ck,cv,es,rfl,h2⟩:=zfd h1
  obtain⟨hb0,h3⟩:=Zh h2
  simp only[Bool.and_eq_true,decide_eq_true_eq]at hb0
  obtain⟨⟨rfl,rfl⟩,hlen⟩:=hb0
  obtain⟨zs,hz,h4⟩:=Y8 h3
  obtain⟨hb,h5⟩:=Zh h4
  clear h h1 h2 h3 h4
  cases h5
  simp only[Bool.and_eq_true]at hb
  have h0:=hA.2 0 (by simp)
  have hsz1:cargs.size=1:=by have:=hA.1;simpa using this.symm
  have hce:cargs= #[cargs.getD 0 undef]:=by
   apply Array.ext
   ·simp[hsz1]
   ·intro j hj _
    have:j=0:=by omega
    subst this
    simp[Array.getD_eq_getD_getElem?,hj]
  rw[hce]
  simp only[List.getD_cons_zero]at h0
  generalize cargs.getD 0 undef=c at h0
  cases h0 with
  |mp _ b hb'=>
   obtain⟨_,ms,clock,hm,he⟩:=hs.res r _ b hx hb'
   refine callsIn_wide.2 ((hC.2 b es ms clock zs w hm he hz hb.1 hb.2 hlen).mono fun ed w' hp=> ?_)
   obtain⟨v',rfl,⟨hnl,hown⟩,hB⟩:=hp
   have hil:(Q7 zs).length=zs.length:=(Q8 zs).length_eq
   have hempty: ∀A c',zs=[]→QV P cfg base w own μ (.ret (.vec .plain none ((Q7 zs).map V.int)),st) (.returned (.slice A 0 c')) w':=by
    rintro A c' rfl
    have s:=Step.above' hs hB []
    rw[List.append_nil]at s
    refine⟨.slice A 0 c',own,μ,hs.step s hs.len fun r x b hx hb=> .inl ⟨hx,fun _ h=>h⟩,s.keeps fun h=>h,rfl, .vecE _ _ _ _ (by simp) (by simp)⟩
   rcases hown with⟨rfl,hz0⟩|⟨g',cap',cur,rfl,hg1,hg2,hle,_,hcur,htake⟩
   ·exact hempty none 0 (List.length_eq_zero_iff.1 hz0)
   ·by_cases hze:zs=[]
    ·subst hze
     exact hempty _ _ rfl
    ·have hg3:=(Array.getElem?_eq_some_iff.1 hg2).1
     have s:=Step.above hs hB (t:= .pr) hg1 hg3 (by simp) []
     rw[List.append_nil]at s
     refine⟨.slice (some ⟨g',0,none⟩) zs.length cap',_,_,hs.step s hs.len fun r x b hx hb=> .inl ⟨hx,fun _ h=>h⟩,s.keeps fun h=>h,rfl, ?_⟩
     have key: ∀i,i<zs.length→cur[i]? =some (.int .i64 ((Q7 zs).getD i 0)):=by
      intro i hi
      have h1:(cur.toList.take (zs.length*1))[i]? =((Q7 zs).map (Value.int .i64))[i]? :=by rw[htake]
      rw[List.getElem?_take,if_pos (by omega),Array.getElem?_toList]at h1
      rw[h1,List.getElem?_map,List.getElem?_eq_getElem (by omega)]
      simp[List.getD_eq_getElem?_getD,List.getElem?_eq_getElem (show i<(Q7 zs).length by omega)]
     have:=VRep.vec (w:=w') (pr:=prOf (Xy own g' .pr)) (μ:=μ) .plain none ((Q7 zs).map V.int) ⟨g',0,none⟩ cap' (fun i j=> .int .i64 ((Q7 zs).getD i 0)) (by simp) (by simp) (by simp;omega) rfl
      (fun i j hi hj=>by
       simp only[List.length_map,hil]at hi
       have hj0:j=0:=by simp[Sh.sz]at hj;exact hj
       subst hj0
       refine⟨?_,by simp[prOf,Xy],rfl⟩
       simp only[Sh.sz,Nat.mul_one,Nat.add_zero,Nat.zero_add]
       simp[World.cell?,hg2,key i hi])
      (fun i hi=>by
       simp only[List.length_map]at hi
       simp[List.getD_eq_getElem?_getD,hi,Shaped])
      (fun i j hi hj=>by
       simp only[List.length_map]at hi
       have hj0:j=0:=by simp[Sh.sz]at hj;exact hj
       subst hj0
       have e1:((Q7 zs).map V.int).getD i .undef= .int ((Q7 zs).getD i 0):=by simp[List.getD_eq_getElem?_getD,hi]
       rw[e1]
       exact .int _)
     simpa[hil]using this
 ·cases h
end Go.AM
namespace Go.AM
open Go Go.Proofs Go.RowKit Go.Maps Go.ChangeMaps Go.MapKept
open Go.WideElems (Fit rg rg_of rd_key rd_val)
theorem zcM: ∀{l:List Int},zdE l=true→l.Nodup
 |[],_=>List.nodup_nil
 |x::l,h=>by
  simp only[zdE,Bool.and_eq_true,List.all_eq_true,Bool.not_eq_true',beq_eq_false_iff_ne]at h
  exact List.nodup_cons.2 ⟨fun hx=>h.1 x hx rfl,zcM h.2⟩
theorem znP: ∀{es:List (V×V)} {zs:List Int},zdg es=some zs→ ∀(i:Nat) (h:i<es.length) (h':i<zs.length),es[i].1= .int zs[i]∧ ∃b,es[i].2= .bool b
 |[],_,_,i,h,_=>by simp at h
 |(k,v)::es,zs,h,i,hi,hi'=>by
  simp only[zdg]at h
  split at h
  ·cases hk:zdg es with
   |none=>rw[hk]at h;cases h
   |some l=>
    rw[hk]at h
    cases h
    cases i with
    |zero=>exact⟨rfl,_,rfl⟩
    |succ i=>exact znP hk i (by simpa using hi) (by simpa using hi')
  ·cases h
section
variable{P:Program}{k e:TypeId}(hk:P.underlying k=some (.int .i64))(he:P.underlying e=some .bool){w:World}{b:Nat}{ms:Array MapEntry}{clock:Nat}{es:List (V×V)}{zs:List Int}
include hk he
theorem zm3(hb:w.heap[b]? =some (.map ms clock))(hE:za7 .int .bool es ms clock)(hz:zdg es=some zs)(hw:zs.all zls=true)(hf:zdE zs=true)(hl:es.length≤1099511627776):
  ∃D0:DataW Unit,w.ownsMap P k (plainElem P e) b es.length D0∧Maps.size D0=zs.length∧ ∀x:Int,Maps.has D0 (.int .i64 x)=true↔x∈zs:=by
 obtain⟨h1,h2,h3⟩:=hE
 have hzl:=zhn hz
 have hat: ∀(i:Nat) (h:i<ms.size),∃(h':i<zs.length) (t:Bool),ms[i].key= .int .i64 zs[i]∧ms[i].val= .bool t∧ms[i].born=i:=by
  intro i h
  have hi:i<es.length:=by omega
  obtain⟨q1,q2,q3⟩:=h3 i hi h
  obtain⟨r1,t,r2⟩:=znP hz i hi (by omega)
  rw[r1]at q1
  rw[r2]at q2
  simp only[X3,Option.some.injEq]at q1 q2
  exact⟨by omega,t,q1.symm,q2.symm,q3⟩
 have hwf: ∀(i:Nat) (h:i<zs.length),(Lit.int .i64 zs[i]).wf=true:=by
  intro i h
  have:=List.all_eq_true.1 hw _ (List.getElem_mem h)
  unfold zls at this
  simp only[Bool.and_eq_true,decide_eq_true_eq]at this
  have h1:IntKind.i64.min= -9223372036854775808:=by decide
  have h2:IntKind.i64.max=9223372036854775807:=by decide
  simp only[Lit.wf,h1,h2,Bool.and_eq_true,decide_eq_true_eq]
  exact this
 have hnd:=zcM hf
 have hrg: ∀(i:Nat) (h:i<ms.size),∃(h':i<zs.length) (t:Bool),WideElems.rd (H:=Unit) P k (plainElem P e) ms[i]=some (.int .i64 zs[i], .lit (.bool t)):=by
  intro i h
  obtain⟨h',t,q1,q2,_⟩:=hat i h
  refine⟨h',t, ?_⟩
  unfold WideElems.rd
  rw[q1,q2,keyOf_int_mk hk (hwf i h'),plainElem_bool he]
  rfl
 have hmem: ∀x∈ms.toList,∃(i:Nat) (h:i<ms.size),x=ms[i]:=by
  intro x hx
  obtain⟨i,hi,rfl⟩:=List.getElem_of_mem hx
  exact⟨i,by simpa using hi,by simp⟩
 have F:Fit (H:=Unit) P k (plainElem P e) ms clock:=by
  refine⟨by unfold maxLen;omega,(stamped_iff ms clock).2 ⟨?_, ?_, ?_⟩, ?_⟩
  ·intro x hx
   obtain⟨i,hi,rfl⟩:=hmem x hx
   obtain⟨_,_,_,_,q3⟩:=hat i hi
   omega
  ·unfold List.Nodup
   rw[List.pairwise_iff_getElem]
   intro i j hi hj hij
   simp only[List.length_map,Array.length_toList]at hi hj
   simp only[List.getElem_map,Array.getElem_toList]
   obtain⟨_,_,_,_,q3⟩:=hat i hi
   obtain⟨_,_,_,_,q4⟩:=hat j hj
   omega
  ·rw[List.pairwise_iff_getElem]
   intro i j hi hj hij
   simp only[Array.length_toList]at hi hj
   simp only[Array.getElem_toList]
   obtain⟨a1,_,q1,_,_⟩:=hat i hi
   obtain⟨a2,_,q2,_,_⟩:=hat j hj
   rw[q1,q2]
   intro e
   simp only[Value.int.injEq,true_and]at e
   have:=List.pairwise_iff_getElem.1 hnd i j a1 a2 hij
   exact this e
  ·intro x hx
   obtain⟨i,hi,rfl⟩:=hmem x hx
   obtain⟨_,t,q⟩:=hrg i hi
   exact⟨_,q⟩
 refine⟨.map ((ms.toList.map (rg P k (plainElem P e))).foldr DataW.insert []),⟨ms,clock,hb,F,by omega,rfl⟩, ?_,fun x=> ?_⟩
 ·simp[Maps.size,length_sorted];omega
 ·unfold Maps.has
  rw[List.any_eq_true]
  constructor
  ·rintro⟨p,hp,hs⟩
   obtain⟨y,hy,rfl⟩:=List.mem_map.1 (mem_sorted.1 hp)
   obtain⟨i,hi,rfl⟩:=hmem y hy
   obtain⟨h',t,q⟩:=hrg i hi
   rw[rg_of q]at hs
   have:=WideAt.sameKey_eq hs
   simp only[Lit.int.injEq,true_and]at this
   rw[←this]
   exact List.getElem_mem h'
  ·intro hx
   obtain⟨i,hi,rfl⟩:=List.getElem_of_mem hx
   have hi':i<ms.size:=by omega
   obtain⟨h',t,q⟩:=hrg i hi'
   refine⟨rg P k (plainElem P e) ms[i],mem_sorted.2 (List.mem_map.2 ⟨ms[i],by simp,rfl⟩), ?_⟩
   rw[rg_of q]
   simp[Lit.sameKey]
end
def CollI{H:Type}(D0:DataW H)(left:Lit→Bool)(ss:List Int):Prop:=ss.Nodup∧ ∀x:Int,x∈ss↔(has D0 (.int .i64 x)=true∧left (.int .i64 x)=false)
section
variable{H:Type}{D0:DataW H}{left:Lit→Bool}{ss:List Int}
theorem CollI.start(D0:DataW H):CollI D0 (has D0) []:=⟨List.nodup_nil,fun x=>by cases has D0 (.int .i64 x)<;>simp⟩
theorem CollI.step(h:CollI D0 left ss){x:Int}{y:DataW H}(hlk:left (.int .i64 x)=true)(hat: ∀zd,D0.atKey (.int .i64 x) zd=y):CollI D0 (fun z=>left z&& !z.sameKey (.int .i64 x)) (ss++[x]):=by
 have hhas:has D0 (.int .i64 x)=true:=has_true_of_atKey hat
 have hnew:x∉ss:=fun hx=>by have:=((h.2 x).1 hx).2;rw[hlk]at this;cases this
 refine⟨List.nodup_append.2 ⟨h.1,by simp,fun a ha b hb=>by simp at hb;subst hb;exact fun e=>hnew (e▸ha)⟩,fun y=> ?_⟩
 by_cases hy:y=x
 ·subst hy;simp[hhas,Lit.sameKey]
 ·simp[h.2 y,hy,Lit.sameKey]
theorem CollI.perm(h:CollI D0 left ss){zs:List Int}(hz:zs.Nodup)(hm: ∀x:Int,has D0 (.int .i64 x)=true↔x∈zs)(hl: ∀kl,left kl=false):ss.Perm zs:=
 (List.perm_ext_iff_of_nodup h.1 hz).2 fun x=>by rw[h.2 x,hl,hm];simp
end
end Go.AM
namespace Go.AM
open Go Go.RowKit
mutual
def YY:V→Nat
 | .str s=>s.size+1
 | .vec _ _ es=>Yc es+1
 | .agg cs=>Yc cs+1
 |_=>1
def Yc:List V→Nat
 |[]=>0
 |v::vs=>YY v+Yc vs
end
mutual
def Qr{H:Type}:DataW H→Nat
 | .lit (.string bytes)=>bytes.length+1
 | .lit _=>1
 | .nil=>1
 | .ptr d=>Qr d+1
 | .slice elems spare=>XO elems+XO spare+1
 | .agg parts=>XO parts+1
 | .iface _ d=>Qr d+1
 | .map _=>1
 | .held _=>1
def XO{H:Type}:List (DataW H)→Nat
 |[]=>0
 |d::r=>Qr d+XO r
end
theorem zgg(a b:List V):Yc (a++b)=Yc a+Yc b:=by
 induction a with
 |nil=>simp[Yc]
 |cons x a ih=>simp only[List.cons_append,Yc,ih];omega
theorem zkA{H:Type}(a b:List (DataW H)):XO (a++b)=XO a+XO b:=by
 induction a with
 |nil=>simp[XO]
 |cons x a ih=>simp only[List.cons_append,XO,ih];omega
def zho(P:Program)(S:List TypeId):Bool:=
 S.all fun t=>decide (t<P.types.size)&&match P.underlying t with
  |some .bool=>true
  |some (.int _)=>true
  |some .string=>true
  |some (.slice e)=>S.contains e&&decide (0<P.cellsOf e)
  |some (.struct fs)=>fs.toList.all fun f=>S.contains f.type
  |_=>false
def WT(P:Program):Nat→TypeId→List V→Prop
 |0,_,_=>False
 |n+1,t,cs=>
  match P.underlying t with
  |some (.int .i64)=> ∃z,cs=[.int z]∧(Lit.int .i64 z).wf=true
  |some (.int k)=> ∃z,cs=[.ik k z]∧(Lit.int k z).wf=true
  |some .bool=> ∃b,cs=[.bool b]
  |some .string=> ∃s:ByteArray,cs=[.str s]∧s.size≤maxLen
  |some (.slice e)=> ∃es,cs=[.vec .plain (shOf P e) es]∧es.length≤maxLen∧ ∀v∈es,Shaped (shOf P e) v∧WT P n e (AM.cellsOf v)
  |some (.struct fs)=>cs.length=P.cellsOf t∧ ∀f∈fs.toList,WT P n f.type ((cs.drop f.offset).take (P.cellsOf f.type))
  |_=>False
section
variable{H:Type}{enc:TypeId×Value→H}{P:Program}{w:World}{sp:Nat→Bool}{held:Bool}
abbrev prW(w:World):Nat→Nat→Prop:=fun b _=>b<w.heap.size
def zbi(w:World)(vs:List V)(cs:List Value):Prop:=
 vs.length=cs.length∧ ∀i,i<cs.length→(cs.getD i undef).oneCell'=true∧VRep w (prW w) [] (vs.getD i .undef) (cs.getD i undef)
theorem QI{v:V}{c:Value}(h1:c.oneCell'=true)(h:VRep w (prW w) [] v c):zbi w [v] [c]:=by
 refine⟨rfl,fun i hi=> ?_⟩
 have:i=0:=by simpa using hi
 subst this
 exact⟨h1,h⟩
theorem ziz{vs vs':List V}{cs cs':List Value}(h:zbi w vs cs)(h':zbi w vs' cs'):zbi w (vs++vs') (cs++cs'):=by
 refine⟨by simp[h.1,h'.1],fun i hi=> ?_⟩
 rcases Nat.lt_or_ge i cs.length with hlt|hge
 ·have e1:(cs++cs').getD i undef=cs.getD i undef:=by rw[List.getD_eq_getElem?_getD,List.getElem?_append_left hlt,←List.getD_eq_getElem?_getD]
  have e2:(vs++vs').getD i .undef=vs.getD i .undef:=by rw[List.getD_eq_getElem?_getD,List.getElem?_append_left (by rw[h.1];exact hlt),←List.getD_eq_getElem?_getD]
  rw[e1,e2];exact h.2 i hlt
 ·have e1:(cs++cs').getD i undef=cs'.getD (i-cs.length) undef:=by rw[List.getD_eq_getElem?_getD,List.getElem?_append_right hge,←List.getD_eq_getElem?_getD]
  have e2:(vs++vs').getD i .undef=vs'.getD (i-cs.length) .undef:=by rw[List.getD_eq_getElem?_getD,List.getElem?_append_right (by rw[h.1];exact hge),h.1,←List.getD_eq_getElem?_getD]
  rw[e1,e2];exact h'.2 _ (by simp at hi;omega)
theorem JO{S:List TypeId}(hS:zho P S=true){t:TypeId}(ht:t∈S):t<P.types.size∧(P.underlying t=some .bool∨(∃k,P.underlying t=some (.int k))∨P.underlying t=some .string∨
  (∃e,P.underlying t=some (.slice e)∧e∈S∧0<P.cellsOf e)∨ ∃fs,P.underlying t=some (.struct fs)∧ ∀f∈fs.toList,f.type∈S):=by
 have:=List.all_eq_true.1 hS t ht
 simp only[Bool.and_eq_true,decide_eq_true_eq]at this
 refine⟨this.1, ?_⟩
 have h2:=this.2
 split at h2
 ·rename_i h;exact .inl h
 ·rename_i h;exact .inr (.inl ⟨_,h⟩)
 ·rename_i h;exact .inr (.inr (.inl h))
 ·rename_i e h
  simp only[Bool.and_eq_true,decide_eq_true_eq,List.contains_iff_mem]at h2
  exact .inr (.inr (.inr (.inl ⟨e,h,h2.1,h2.2⟩)))
 ·rename_i fs h
  simp only[List.all_eq_true,List.contains_iff_mem]at h2
  exact .inr (.inr (.inr (.inr ⟨fs,h,h2⟩)))
 ·cases h2
theorem zgh{v:V}(h: ∀c,v≠ .agg c):AM.cellsOf v=[v]:=by
 cases v<;>first|rfl|exact absurd rfl (h _)
def zdF(P:Program)(t:TypeId):Nat:=match P.underlying t with|some (.struct _)=>1|_=>0
theorem zjy{n:Nat}{S':List TypeId}(ih: ∀t cs (x:DataW H×List MemPlace),DataW.trod enc P w 0 sp held n t cs=some x→t∈S'→ ∃vs,WT P n t vs∧cs.length=P.cellsOf t∧zbi w vs cs∧(∀v∈vs,∀c,v≠ .agg c)∧Yc vs+zdF P t≤Qr x.1)(cs:List Value):
  ∀(fs:List Field) (off:Nat) (xs:List (DataW H×List MemPlace)),(∀(j:Nat) f,fs[j]? =some f→f.offset=off+((fs.take j).map fun f=>P.cellsOf f.type).sum)→(∀f∈fs,f.type∈S')→xs.length=fs.length→
   (∀(i:Nat) (f:Field),fs[i]? =some f→DataW.trod enc P w 0 sp held n f.type ((cs.drop f.offset).take (P.cellsOf f.type))=xs[i]?)→cs.length=off+(fs.map fun f=>P.cellsOf f.type).sum→
   ∃vs,(∀f∈fs,WT P n f.type ((vs.drop (f.offset-off)).take (P.cellsOf f.type)))∧zbi w vs (cs.drop off)∧(∀v∈vs,∀c,v≠ .agg c)∧Yc vs≤XO (xs.map (·.1))
 |[],off,xs,_,_,hx,_,hl=>by
  refine⟨[],(fun f hf=>by cases hf),⟨by simp at hl⊢;omega,fun i hi=>by simp at hl hi;omega⟩,(fun v hv=>by cases hv),by simp[Yc]⟩
 |f::fs,off,[],_,_,hx,_,_=>by simp at hx
 |f::fs,off,x::xs,hoff,hS,hx,hel,hl=>by
  have h0:f.offset=off:=by simpa using hoff 0 f rfl
  obtain⟨vs0,k1,k2,k3,k4,k5⟩:=ih f.type _ x (by simpa using hel 0 f rfl) (hS f (by simp))
  simp only[List.map_cons,List.sum_cons]at hl
  obtain⟨vs1,j1,j2,j3,j4⟩:=zjy ih cs fs (off+P.cellsOf f.type) xs (fun j g hg=>by
   have:=hoff (j+1) g (by simpa using hg)
   simp only[List.take_succ_cons,List.map_cons,List.sum_cons]at this
   omega) (fun g hg=>hS g (by simp[hg])) (by simpa using hx) (fun i g hg=>by simpa using hel (i+1) g (by simpa using hg)) (by omega)
  have hv0:vs0.length=P.cellsOf f.type:=by rw[k3.1,k2]
  refine⟨vs0++vs1,fun g hg=> ?_, ?_,fun v hv=> ?_, ?_⟩
  ·rcases List.mem_cons.1 hg with rfl|hg
   ·rw[h0,Nat.sub_self,List.drop_zero,List.take_append_of_le_length (by omega),List.take_of_length_le (by omega)]
    exact k1
   ·obtain⟨j,hj,hjg⟩:=List.mem_iff_getElem.1 hg
    have hge:=hoff (j+1) g (by simp[hj,hjg])
    simp only[List.take_succ_cons,List.map_cons,List.sum_cons]at hge
    have e:(vs0++vs1).drop (g.offset-off)=vs1.drop (g.offset-(off+P.cellsOf f.type)):=by
     rw[List.drop_append,hv0,List.drop_of_length_le (by omega),List.nil_append]
     congr 1;omega
    rw[e];exact j1 g hg
  ·have e:cs.drop off=(cs.drop f.offset).take (P.cellsOf f.type)++cs.drop (off+P.cellsOf f.type):=by
    rw[h0,←List.drop_drop,List.take_append_drop]
   rw[e]
   exact ziz k3 j2
  ·rcases List.mem_append.1 hv with h|h
   ·exact k4 v h
   ·exact j3 v h
  ·simp only[zgg,List.map_cons,XO]
   omega
theorem zsQ(hl:laidOutB P=true){S:List TypeId}(hS:zho P S=true): ∀(n:Nat) (t:TypeId) (cs:List Value) (x:DataW H×List MemPlace),DataW.trod enc P w 0 sp held n t cs=some x→t∈S→
  ∃vs,WT P n t vs∧cs.length=P.cellsOf t∧zbi w vs cs∧(∀v∈vs,∀c,v≠ .agg c)∧Yc vs+zdF P t≤Qr x.1:=by
 intro n
 induction n with
 |zero=>intro t cs x h;simp[DataW.trod]at h
 |succ n ih=>
  intro t cs x h htS
  obtain⟨ht,hk⟩:=JO hS htS
  have hone: ∀d,P.underlying t=some d→(∀fs,d≠ .struct fs)→(∀n e,d≠ .array n e)→P.cellsOf t=1:=by
   intro d hd h1 h2
   have:=rowFine_of hl ht
   simp only[rowFine,isVar,ht,hd,decide_true,Bool.true_and]at this
   cases d<;>simp_all[kindOk]
  rcases hk with hu|⟨k,hu⟩|hu|⟨e,hu,heS,hpos⟩|⟨fs,hu,hfs⟩
  ·obtain⟨b,rfl,rfl⟩:=DataW.trod_bool hu h
   refine⟨[.bool b], ?_,(hone _ hu (by simp) (by simp)).symm,QI rfl (.bool b),by simp,by simp[Yc,YY,Qr,zdF,hu]⟩
   simp only[WT,hu]
   exact⟨b,rfl⟩
  ·obtain⟨z,rfl,rfl,hw⟩:=DataW.trod_int hu h
   by_cases hk:k= .i64
   ·subst hk
    refine⟨[.int z], ?_,(hone _ hu (by simp) (by simp)).symm,QI rfl (.int z),by simp,by simp[Yc,YY,Qr,zdF,hu]⟩
    simp only[WT,hu]
    exact⟨z,rfl,hw⟩
   ·refine⟨[.ik k z], ?_,(hone _ hu (by simp) (by simp)).symm,QI rfl (.ik k z),by simp,by simp[Yc,YY,Qr,zdF,hu]⟩
    simp only[WT,hu]
    cases k<;>first|exact absurd rfl hk|exact⟨z,rfl,hw⟩
  ·obtain⟨s,rfl,rfl,hs⟩:=DataW.trod_string hu h
   refine⟨[.str s], ?_,(hone _ hu (by simp) (by simp)).symm,QI rfl (.str s),by simp, ?_⟩
   ·simp only[WT,hu]
    exact⟨s,rfl,hs⟩
   ·simp[Yc,YY,Qr,zdF,hu]
  ·rcases DataW.trod_slice hu h with⟨rfl,rfl⟩|⟨a,len,cap,elems,rest,m,hm,rfl,rfl,_,hle,hmax,hlen,hel,_,_⟩
   ·refine⟨[.vec .plain (shOf P e) []], ?_,(hone _ hu (by simp) (by simp)).symm,QI rfl (.vecE _ _ _ _ (by simp) (by simp)),by simp,by simp[Yc,YY,Qr,zdF,hu]⟩
    simp only[WT,hu]
    exact⟨[],rfl,by simp,by simp⟩
   ·have hm':n=m:=by omega
    subst hm'
    have each: ∀i,i<len→ ∃(v:V) (f:Nat→Value) (y:DataW H×List MemPlace),elems[i]? =some y∧Shaped (shOf P e) v∧WT P n e (AM.cellsOf v)∧YY v≤Qr y.1+0∧
      ∀j,j<(shOf P e).sz→w.cell? ((a.add (i*P.cellsOf e)).add j)=some (f j)∧(f j).oneCell'=true∧VRep w (prW w) [] (cellAt v j) (f j):=by
     intro i hi
     have hei:=hel i hi
     have hsome:elems[i]? =some elems[i]:=by simp[hlen,hi]
     rw[hsome]at hei
     obtain⟨cs',hc,hd⟩:=Option.bind_eq_some_iff.1 hei
     obtain⟨_,hcl,hcell⟩:=World.cells?_some hc
     obtain⟨vs,k1,k2,k3,k4,k5⟩:=ih e cs' _ hd heS
     obtain⟨hte,hke⟩:=JO hS heS
     have hvl:vs.length=P.cellsOf e:=by rw[k3.1,k2]
     have hcells: ∀j,j<P.cellsOf e→w.cell? ((a.add (i*P.cellsOf e)).add j)=some (cs'.getD j undef):=fun j hj=>by
      rw[hcell j hj,List.getD_eq_getElem?_getD,List.getElem?_eq_getElem (by omega)];rfl
     by_cases hst: ∃fs,P.underlying e=some (.struct fs)
     ·obtain⟨fs,hfs⟩:=hst
      have hsh:shOf P e=some (P.cellsOf e):=by simp only[shOf,hfs];rfl
      refine⟨.agg vs,fun j=>cs'.getD j undef,_,hsome,by rw[hsh];exact hvl,k1, ?_,fun j hj=> ?_⟩
      ·
       simpa[YY,zdF,hfs]using k5
      ·rw[hsh]at hj
       exact⟨hcells j hj,(k3.2 j (by rw[k2];exact hj)).1,(k3.2 j (by rw[k2];exact hj)).2⟩
     ·have hsh:shOf P e=none:=by
       rcases hke with h|⟨k,h⟩|h|⟨e',h,_⟩|⟨fs,h,_⟩<;>first|(simp only[shOf,h];done)|exact absurd ⟨_,h⟩ hst
      have h1:P.cellsOf e=1:=by
       have:=rowFine_of hl hte
       rcases hke with h|⟨k,h⟩|h|⟨e',h,_⟩|⟨fs,h,_⟩
       ·simp[rowFine,isVar,hte,h,kindOk]at this;exact this
       ·simp[rowFine,isVar,hte,h,kindOk]at this;exact this
       ·simp[rowFine,isVar,hte,h,kindOk]at this;exact this
       ·simp[rowFine,isVar,hte,h,kindOk]at this;exact this.2
       ·exact absurd ⟨_,h⟩ hst
      rw[h1]at hvl
      obtain⟨v,rfl⟩: ∃v,vs=[v]:=List.length_eq_one_iff.1 hvl
      have hna:=k4 v (by simp)
      have hcv:=zgh hna
      refine⟨v,fun j=>cs'.getD j undef,_,hsome, ?_,by rw[hcv];exact k1,(by simp only[Yc]at k5;omega),fun j hj=> ?_⟩
      ·rw[hsh]
       cases v<;>first|trivial|exact absurd rfl (hna _)
      ·rw[hsh]at hj
       have:j=0:=by simpa[Sh.sz]using hj
       subst this
       refine⟨hcells 0 (by omega),(k3.2 0 (by omega)).1, ?_⟩
       have:=(k3.2 0 (by omega)).2
       unfold cellAt
       rw[hcv];exact this
    refine⟨[.vec .plain (shOf P e) ((List.range len).map fun i=>if hi:i<len then(each i hi).choose else .undef)], ?_,(hone _ hu (by simp) (by simp)).symm,QI rfl ?_,by simp, ?_⟩
    ·simp only[WT,hu]
     refine⟨_,rfl,by simp;omega,fun v hv=> ?_⟩
     obtain⟨i,hi,rfl⟩:=List.mem_map.1 hv
     have hi:=List.mem_range.1 hi
     rw[dif_pos hi]
     obtain⟨f,y,_,h2,h3,_⟩:=(each i hi).choose_spec
     exact⟨h2,h3⟩
    ·have hget: ∀i,i<len→((List.range len).map fun i=>if hi:i<len then(each i hi).choose else V.undef).getD i .undef=if hi:i<len then(each i hi).choose else V.undef:=fun i hi=>by
      simp[List.getD_eq_getElem?_getD,hi]
     by_cases h0:len=0
     ·subst h0
      exact .vecE _ _ _ _ (by simp) (by simp)
     ·have hsz:0<(shOf P e).sz:=by
       obtain⟨hte,hke⟩:=JO hS heS
       rcases hke with h|⟨k,h⟩|h|⟨e',h,_⟩|⟨fs,h,_⟩<;>simp only[shOf,h,Sh.sz]<;>first|exact Nat.one_pos|exact hpos
      have hspot:a.spot=none:=by
       obtain⟨f,y,_,_,_,_,h5⟩:=(each 0 (by omega)).choose_spec
       have:=(h5 0 hsz).1
       simp only[Nat.zero_mul,Addr.add,if_true]at this
       unfold World.cell? at this
       split at this
       ·split at this
        ·cases this
        ·rename_i hs;simpa using hs
       ·cases this
      have hsze:(shOf P e).sz=P.cellsOf e:=by
       obtain⟨hte,hke⟩:=JO hS heS
       have hr:=rowFine_of hl hte
       rcases hke with h|⟨k,h⟩|h|⟨e',h,_⟩|⟨fs,h,_⟩
       ·simp[rowFine,isVar,hte,h,kindOk]at hr;simp only[shOf,h,Sh.sz];exact hr.symm
       ·simp[rowFine,isVar,hte,h,kindOk]at hr;simp only[shOf,h,Sh.sz];exact hr.symm
       ·simp[rowFine,isVar,hte,h,kindOk]at hr;simp only[shOf,h,Sh.sz];exact hr.symm
       ·simp[rowFine,isVar,hte,h,kindOk]at hr;simp only[shOf,h,Sh.sz];exact hr.2.symm
       ·simp only[shOf,h,Sh.sz];rfl
      have hadd: ∀i j,(a.add (i*P.cellsOf e)).add j=⟨a.block,a.off+(i*(shOf P e).sz+j),none⟩:=fun i j=>by
       obtain⟨b,o,s⟩:=a
       simp only at hspot
       subst hspot
       rw[Xz,Xz,hsze,Nat.add_assoc]
      have hlen2:((List.range len).map fun i=>if hi:i<len then(each i hi).choose else V.undef).length=len:=by simp
      have hlift:Value.slice (some a) len cap=Value.slice (some a) ((List.range len).map fun i=>if hi:i<len then(each i hi).choose else V.undef).length cap:=by rw[hlen2]
      rw[hlift]
      refine .vec .plain _ _ a cap (fun i j=>if hi:i<len then(each i hi).choose_spec.choose j else undef) (by simp) (by simp) (by rw[hlen2];exact hle) hspot (fun i j hi hj=> ?_) (fun i hi=> ?_) fun i j hi hj=> ?_
      ·rw[hlen2]at hi
       obtain⟨y,_,_,_,_,h5⟩:=(each i hi).choose_spec.choose_spec
       obtain⟨h6,h7,h8⟩:=h5 j hj
       rw[hadd]at h6
       simp only[dif_pos hi]
       refine⟨h6, ?_,h7⟩
       show a.block<w.heap.size
       unfold World.cell? at h6
       simp only at h6
       cases hh:w.heap[a.block]? with
       |none=>rw[hh]at h6;cases h6
       |some o=>exact(Array.getElem?_eq_some_iff.1 hh).1
      ·rw[hlen2]at hi
       rw[hget i hi,dif_pos hi]
       obtain⟨f,y,_,h2,_⟩:=(each i hi).choose_spec
       exact h2
      ·rw[hlen2]at hi
       rw[hget i hi,dif_pos hi]
       obtain⟨y,_,_,_,_,h5⟩:=(each i hi).choose_spec.choose_spec
       simp only[dif_pos hi]
       exact(h5 j hj).2.2
    ·have hsum: ∀k,k≤len→Yc ((List.range k).map fun i=>if hi:i<len then(each i hi).choose else V.undef)≤XO ((elems.take k).map (·.1)):=by
      intro k
      induction k with
      |zero=>intro _;simp[Yc]
      |succ k ihk=>
       intro hk
       have hi:k<len:=by omega
       obtain⟨f,y,h1,_,_,h4,_⟩:=(each k hi).choose_spec
       have hlt:k<elems.length:=by omega
       have ey:elems[k]=y:=by
        have:=List.getElem?_eq_getElem hlt
        rw[h1]at this;exact(Option.some.inj this).symm
       rw[List.range_succ,List.map_append,zgg,List.take_succ_eq_append_getElem hlt,List.map_append,zkA]
       have:=ihk (by omega)
       simp only[List.map_cons,List.map_nil,Yc,XO,dif_pos hi,ey]
       omega
     have:=hsum len (Nat.le_refl _)
     rw[List.take_of_length_le (by omega)]at this
     simp only[Yc,YY,Qr,zdF,hu]
     omega
  ·obtain⟨xs,m,hm,rfl,hcl,hxl,hel⟩:=DataW.trod_struct hu h
   have hm':n=m:=by omega
   subst hm'
   obtain⟨h1,h2,h3⟩:=kid_struct hl ht hu
   obtain⟨vs,k1,k2,k3,k4⟩:=zjy ih cs fs.toList 0 xs (fun j f hf=>by rw[h3 j f hf];omega) hfs (by simpa using hxl) (fun i f hf=>hel i f (by rw[←hf,Array.getElem?_toList])) (by rw[hcl,h2];omega)
   rw[List.drop_zero]at k2
   refine⟨vs, ?_,hcl,k2,k3, ?_⟩
   ·simp only[WT,hu]
    exact⟨by rw[k2.1,hcl],fun f hf=>by simpa using k1 f hf⟩
   ·simp only[Qr,zdF,hu];omega
end
end Go.AM
namespace Go.AM
open Go Go.RowKit Go.ChangeShapes Go.WideShapes
def zlt(P:Program):List TypeId→List V→Prop
 |[],[]=>True
 |t::ts,v::vs=>(∃n,WT P n t (AM.cellsOf v))∧Shaped (shOf P t) v∧zlt P ts vs
 |_,_=>False
section
variable{H:Type}{enc:TypeId×Value→H}{P:Program}{w:World}{sp:Nat→Bool}{held:Bool}{cfg:Cfg}{ext:Ext}
theorem ztR(hl:laidOutB P=true){S:List TypeId}(hS:zho P S=true){t:TypeId}(ht:t∈S){v:Value}{d:DataW H}{ps:List MemPlace}{b0:Nat}(hv:Value.okWide P w .any b0 t v)(h:DataW.Trod enc P w 0 sp held t v d ps):
  ∃u,(∃n,WT P n t (AM.cellsOf u))∧Shaped (shOf P t) u∧VRep w (prW w) [] u v∧YY u≤Qr d:=by
 obtain⟨n,hn⟩:=h
 obtain⟨vs,k1,k2,k3,k4,k5⟩:=zsQ hl hS n t _ _ hn ht
 obtain⟨hts,hk⟩:=JO hS ht
 have scalar:(∀cs,v≠ .agg cs)→shOf P t=none→ ∃u,(∃n,WT P n t (AM.cellsOf u))∧Shaped (shOf P t) u∧VRep w (prW w) [] u v∧YY u≤Qr d:=by
  intro hna hsh
  have hc:v.cells.toList=[v]:=by cases v<;>first|rfl|exact absurd rfl (hna _)
  rw[hc]at k2 k3
  have hvl:vs.length=1:=k3.1
  obtain⟨u,rfl⟩: ∃v,vs=[v]:=List.length_eq_one_iff.1 hvl
  have hna':=k4 u (by simp)
  refine⟨u,⟨n,by rw[zgh hna'];exact k1⟩, ?_, ?_, ?_⟩
  ·rw[hsh]
   cases u<;>first|trivial|exact absurd rfl (hna' _)
  ·exact(k3.2 0 (by simp)).2
  ·simp only[Yc]at k5;omega
 rcases hk with hu|⟨k,hu⟩|hu|⟨e,hu,_⟩|⟨fs,hu,_⟩
 ·obtain⟨b,rfl⟩:=okWide_bool hu hv
  exact scalar (by simp) (by simp only[shOf,hu])
 ·obtain⟨z,rfl⟩:=okWide_int hu hv
  exact scalar (by simp) (by simp only[shOf,hu])
 ·obtain⟨s,rfl⟩:=okWide_string hu hv
  exact scalar (by simp) (by simp only[shOf,hu])
 ·obtain⟨a,l,c,rfl⟩:=okWide_slice hu hv
  exact scalar (by simp) (by simp only[shOf,hu])
 ·obtain⟨cs,rfl,hsz⟩:=okWide_struct hu hv
  have hsh:shOf P t=some (P.cellsOf t):=by simp only[shOf,hu];rfl
  have hcs:(Value.agg cs).cells.toList=cs.toList:=rfl
  rw[hcs]at k2 k3
  refine⟨.agg vs,⟨n,k1⟩,by rw[hsh];show vs.length=_;rw[k3.1,k2], .agg vs cs (by rw[k3.1];simp) (fun i hi=> ?_) (fun i hi=> ?_), ?_⟩
  ·have:=(k3.2 i (by rw[←k3.1];exact hi)).1
   simpa[Array.getD_eq_getD_getElem?,List.getD_eq_getElem?_getD]using this
  ·have:=(k3.2 i (by rw[←k3.1];exact hi)).2
   simpa[Array.getD_eq_getD_getElem?,List.getD_eq_getElem?_getD]using this
  ·simpa[YY,zdF,hu]using k5
theorem zlu(hl:laidOutB P=true){S:List TypeId}(hS:zho P S=true){b0:Nat}: ∀(ts:List TypeId) (as_:List Value) (ds:List (DataW H)) (ps:List MemPlace),(∀t∈ts,t∈S)→(∀(j:Nat) t v,ts[j]? =some t→as_[j]? =some v→Value.okWide P w .any b0 t v)→
  DataW.TrodAll enc P w 0 sp held ts as_ ds ps→ ∃us,zlt P ts us∧us.length=as_.length∧(∀i,i<us.length→VRep w (prW w) [] (us.getD i .undef) (as_.getD i undef))∧Yc us≤XO ds
 |[],as_,ds,ps,_,_,h=>by
  obtain⟨rfl,rfl,rfl⟩:=trodAll_nil h
  exact⟨[],trivial,rfl,fun i hi=>by simp at hi,by simp[Yc]⟩
 |t::ts,as_,ds,ps,hS',hv,h=>by
  obtain⟨v,vs,d,ds',p,q,rfl,rfl,rfl,h1,h2⟩:=trodAll_cons h
  obtain⟨u,k1,k2,k3,k4⟩:=ztR hl hS (hS' t (by simp)) (hv 0 t v rfl rfl) h1
  obtain⟨us,j1,j2,j3,j4⟩:=zlu hl hS ts vs ds' q (fun t h=>hS' t (by simp[h])) (fun j t v h1 h2=>hv (j+1) t v (by simpa using h1) (by simpa using h2)) h2
  refine⟨u::us,⟨k1,k2,j1⟩,by simp[j2],fun i hi=> ?_,by simp only[Yc,XO];omega⟩
  cases i with
  |zero=>simpa using k3
  |succ i=>simpa using j3 i (by simpa using hi)
def YN(w:World):Own:=fun b _=>if b<w.heap.size then .pr else .free
theorem ztS{b i:Nat}:YN w b i= .pr↔b<w.heap.size:=by
 unfold YN;split<;>simp_all
theorem zwz(P:Program)(cfg:Cfg)(w:World):Sto P cfg w.heap.size w (YN w) [] []:=
 ⟨rfl,(fun r x b h=>by simp at h),(fun b i h=>by unfold YN at h;split at h<;>simp_all),(fun b i h1 h2=>by unfold YN at h1 h2;split at h1<;>simp_all),Nat.le_refl _⟩
theorem zvM(w:World):Flat (YN w):=fun b i=>by
 unfold YN
 split
 ·exact .inr (.inl rfl)
 ·exact .inl rfl
theorem zr1(hm:P.follows .mixedOrders=true)(hP:PlainNames P)(hE:zia P cfg ext)(hl:laidOutB P=true){S:List TypeId}(hS:zho P S=true){f:FuncId}{ts:List TypeId}(hts: ∀t∈ts,t∈S){B:Nat}
  (hpure: ∀us,zlt P ts us→Yc us≤B→ ∃m st,(XJ P cfg ext m).call f us []=some (.ret (.bool true),st)) {args:Array Value} {ds:List (DataW H)} {ps:List MemPlace} {b0:Nat}
  (hv: ∀(j:Nat) t v,ts[j]? =some t→args[j]? =some v→Value.okWide P w .any b0 t v) (h:DataW.TrodAll enc P w 0 sp held ts args.toList ds ps) (hb:XO ds≤B):
  Calls P f args w fun e w'=>e= .returned (.bool true)∧Below w.heap.size w w':=by
 obtain⟨us,k1,k2,k3,k4⟩:=zlu hl hS ts args.toList ds ps hts (fun j t v h1 h2=>hv j t v h1 (by simpa using h2)) h
 obtain⟨m,st,hc⟩:=hpure us k1 (Nat.le_trans k4 hb)
 obtain⟨_,hcalls⟩:=zpz hm hP hE m f us [] _ hc
 have hA:Args w (YN w) [] us args:=by
  refine⟨by simpa using k2,fun i hi=> ?_⟩
  have:=(k3 i hi).mono (w':=w) (pr':=prOf (YN w)) (μ':=[]) (fun b i e=>⟨ztS.2 e,rfl⟩) fun _ _ h=>h
  simpa[Array.getD_eq_getD_getElem?,List.getD_eq_getElem?_getD]using this
 refine((hcalls 0 w.heap.size w (YN w) [] args (zwz P cfg w) (zvM w) hA).calls room_wide).mono fun e w' hpost=> ?_
 obtain⟨c,own',μ',_,h2,h3⟩:=hpost
 obtain⟨rfl,hV⟩:=h3
 exact⟨by rw[hV.bool_inv],h2.below⟩
theorem zeM(hl:laidOutB P=true){w':World}(hb:Below w.heap.size w w'): ∀(ts:List TypeId) (as_:List Value) (ds:List (DataW H)) (ps:List MemPlace),(ts.all fun t=>P.readableRec t&&decide (t<P.types.size))=true→
  DataW.TrodAll enc P w 0 (fun _=>true) true ts as_ ds ps→DataW.TrodAll enc P w' 0 (fun b=>decide (b<w.heap.size)) true ts as_ ds ps
 |[],as_,ds,ps,_,h=>by
  obtain⟨rfl,rfl,rfl⟩:=trodAll_nil h
  exact trodAll_mk0
 |t::ts,as_,ds,ps,hr,h=>by
  obtain⟨v,vs,d,ds',p,q,rfl,rfl,rfl,h1,h2⟩:=trodAll_cons h
  simp only[List.all_cons,Bool.and_eq_true,decide_eq_true_eq]at hr
  have lt: ∀x∈p,x.block<w.heap.size:=by obtain⟨m,hm⟩:=h1;exact DataW.trod_lt m _ _ _ hm
  exact trodAll_cons_mk (Below.trod hl hr.1.1 hr.1.2 h1 hb lt) (zeM hl hb ts vs ds' q (by simpa using hr.2) h2)
theorem zm4(hm:P.follows .mixedOrders=true)(hP:PlainNames P)(hE:zia P cfg ext)(hl:laidOutB P=true){S:List TypeId}(hS:zho P S=true){f:FuncId}{fn:Func}{ts:List TypeId}(hpar:fn.params.toList=ts)(hts: ∀t∈ts,t∈S)
  (hrd:(ts.all fun t=>P.readableRec t&&decide (t<P.types.size))=true) {rt:TypeId} (hrt:fn.resultTypes= #[rt]) (hbool:P.underlying rt=some .bool) {B:Nat}
  (hpure: ∀us,zlt P ts us→Yc us≤B→ ∃m st,(XJ P cfg ext m).call f us []=some (.ret (.bool true),st)) {s:ChangeSpec} (hvars:s.vars=[]) {args:Array Value} {ds gs:List (DataW H)} {before:List MemPlace} {b0:Nat}
  (hs:ds.length=ts.length→s.fn H ds={results:=[.lit (.bool true)],args:=ds})
  (hv: ∀(j:Nat) t v,fn.params[j]? =some t→args[j]? =some v→Value.okWide P w .any b0 t v) (hW:DataW.Whole enc P fn.params.toList s.vars false w args.toList ds gs before) (hb:XO (ds++gs)≤B):
  Calls P f args w fun e w'=> ∃v,e= .returned v∧s.post enc P fn false true false false w args v w':=by
 have hW':=hW
 obtain⟨p,q,hA,hV,rfl,hfz,hnd⟩:=hW
 rw[hvars]at hV
 obtain⟨rfl,rfl⟩:=trodVars_none hV
 rw[hpar]at hA
 rw[List.append_nil]at hb
 have hlen:ds.length=ts.length:=by
  have: ∀(ts:List TypeId) (as_:List Value) (ds:List (DataW H)) (ps:List MemPlace),DataW.TrodAll enc P w 0 (fun _=>true) true ts as_ ds ps→ds.length=ts.length:=by
   intro ts
   induction ts with
   |nil=>intro as_ ds ps h;obtain⟨_,rfl,_⟩:=trodAll_nil h;rfl
   |cons t ts ih=>intro as_ ds ps h;obtain⟨v,vs,d,ds',p,q,rfl,rfl,rfl,h1,h2⟩:=trodAll_cons h;simp[ih _ _ _ h2]
  exact this _ _ _ _ hA
 refine(zr1 hm hP hE hl hS hts hpure (fun j t v h1 h2=>hv j t v (by rw[←hpar,Array.getElem?_toList]at h1;exact h1) h2) hA hb).mono fun e w' ⟨he,bel⟩=> ?_
 subst he
 have hsf:s.fn H (ds++[])={results:=[.lit (.bool true)],args:=ds}:=by rw[List.append_nil];exact hs hlen
 refine⟨_,rfl,ds,[],_,[],p,[],hW', ?_, ?_, ?_,bel.frame _,fun h=>by cases h⟩
 ·rw[hsf,hrt]
  exact trodAll_mk1 (shut_bool hbool _)
 ·rw[hsf,hpar]
  exact zeM hl bel _ _ _ _ hrd hA
 ·rw[hsf,hvars]
  rfl
end
end Go.AM
namespace Go.AM
open Go
inductive T where
 |mk (k h:Int) (as_:List T)
def T.k:T→Int| .mk k _ _=>k
def T.h:T→Int| .mk _ h _=>h
def T.args:T→List T| .mk _ _ l=>l
theorem T.ind{p:T→Prop}(h: ∀k hd as_,(∀a∈as_,p a)→p (.mk k hd as_)): ∀t,p t
 | .mk k hd as_=>h k hd as_ (all as_)
where all: ∀as_:List T,∀a∈as_,p a
 |b::bs,a,ha=>by
  rcases List.mem_cons.1 ha with e|e
  ·rw[e];exact T.ind h b
  ·exact all bs a e
mutual
def enc:T→V
 | .mk k h as_=> .agg [.int k, .int h, .vec .plain (some 3) (Zf as_)]
def Zf:List T→List V
 |[]=> []
 |t::ts=>enc t::Zf ts
end
@[simp] theorem QW:Zf []=[]:=rfl
@[simp] theorem Qn(t:T)(ts:List T):Zf (t::ts)=enc t::Zf ts:=rfl
theorem QX: ∀ts,Zf ts=ts.map enc
 |[]=>rfl
 |t::ts=>by rw[Qn,QX ts];rfl
@[simp] theorem Zi(ts:List T):(Zf ts).length=ts.length:=by rw[QX];simp
@[simp] theorem zdG(a b:List T):Zf (a++b)=Zf a++Zf b:=by simp[QX]
theorem Zb(t:T):enc t= .agg [.int t.k, .int t.h, .vec .plain (some 3) (Zf t.args)]:=by cases t;rfl
def I64(n:Int):Prop:= -9223372036854775808≤n∧n≤9223372036854775807
theorem Zu{n:Int}(h:I64 n):IntKind.i64.wrap n=n:=by
 obtain⟨h1,h2⟩:=h
 show(if(true&&decide (n % 2^64≥2^63))=true then n % 2^64-2^64 else n % 2^64)=n
 by_cases hc:n % 2^64≥2^63
 ·rw[if_pos (by simpa using hc)];omega
 ·rw[if_neg (by simpa using hc)];omega
theorem ZF{ts:List T}{i:Nat}(h:i<ts.length):ZP (Zf ts) (i:Int)=enc ts[i]:=by
 simp[ZP,QX,List.getD_eq_getElem?_getD,h]
mutual
def T.size:T→Nat
 | .mk _ _ as_=>1+sizes as_
def sizes:List T→Nat
 |[]=>0
 |t::ts=>t.size+sizes ts
end
mutual
def T.depth:T→Nat
 | .mk _ _ as_=>Yq as_+1
def Yq:List T→Nat
 |[]=>0
 |t::ts=>max t.depth (Yq ts)
end
theorem XP(t:T):1≤t.size:=by cases t;simp only[T.size];omega
theorem zcN(a b:List T):sizes (a++b)=sizes a+sizes b:=by
 induction a with
 |nil=>simp[sizes]
 |cons x a ih=>simp only[List.cons_append,sizes,ih];omega
theorem size_le{ts:List T}{t:T}(h:t∈ts):t.size≤sizes ts:=by
 induction ts with
 |nil=>cases h
 |cons x ts ih=>
  simp only[sizes]
  rcases List.mem_cons.1 h with rfl|h
  ·omega
  ·have:=ih h;omega
theorem Zo: ∀ts:List T,ts.length≤sizes ts
 |[]=>by simp
 |t::ts=>by simp only[List.length_cons,sizes];have:=XP t;have:=Zo ts;omega
theorem zeN: ∀t:T,t.depth≤t.size:=by
 intro t
 induction t using T.ind with
 |_ k h as_ ih=>
  simp only[T.depth,T.size]
  have: ∀as_:List T,(∀a∈as_,a.depth≤a.size)→Yq as_≤sizes as_:=by
   intro as_
   induction as_ with
   |nil=>intro _;simp[Yq]
   |cons x xs ih=>
    intro h
    have h1:=h x (by simp)
    have h2:=ih fun a ha=>h a (by simp[ha])
    simp only[Yq,sizes];omega
  have:=this as_ ih
  omega
mutual
theorem zap: ∀t:T,4*t.size≤YY (enc t)
 | .mk k h as_=>by simp only[T.size,enc,YY,Yc];have:=QJ as_;omega
theorem QJ: ∀ts:List T,4*sizes ts≤Yc (Zf ts)
 |[]=>by simp[sizes]
 |t::ts=>by simp only[sizes,Qn,Yc];have:=zap t;have:=QJ ts;omega
end
mutual
theorem zhp(n:Nat): ∀t:T,below n (enc t)=true
 | .mk k h as_=>by simp only[enc,below,Zk,Bool.and_true,Bool.true_and];exact Q9 n as_
theorem Q9(n:Nat): ∀ts:List T,Zk n (Zf ts)=true
 |[]=>rfl
 |t::ts=>by simp only[Qn,Zk,zhp n t,Q9 n ts,Bool.and_true]
end
attribute [simp] zhp Q9
inductive OkT:T→Prop where
 |mk {k h:Int} {as_:List T} (h1:I64 k) (h2:I64 h) (h3: ∀a∈as_,OkT a):OkT (.mk k h as_)
theorem zsR{O:Oracle}{f:Nat}{args:List V}{v:V}{st:St}(h:O.call f args []=some (.ret v,st))(h1:Zk 0 args=true)(h2:below 0 v=true):Zj O f args=some v:=by
 unfold Zj
 rw[h1,h]
 show gd (below 0 v) (some v)=some v
 rw[h2];rfl
theorem zsS{α:Type}{L:Int→Option α}{xs:List T}{g:T→Bool}{e0 e1:α}(hstep: ∀(i:Nat) (h:i<xs.length),L i=if g xs[i]=true then L ((i+1:Nat):Int)else some e1)(hend:L (xs.length:Nat)=some e0):
  ∀i:Nat,i≤xs.length→L i=some (if(xs.drop i).all g=true then e0 else e1):=by
 intro i hi
 induction hn:xs.length-i generalizing i with
 |zero=>
  have:i=xs.length:=by omega
  subst this
  rw[hend,List.drop_length];rfl
 |succ n ih=>
  have hlt:i<xs.length:=by omega
  rw[hstep i hlt,List.drop_eq_getElem_cons hlt,List.all_cons]
  cases hg:g xs[i]with
  |true=>
   rw[if_pos rfl,ih (i+1) (by omega) (by omega)]
   simp
  |false=>simp
theorem JP{α:Type}{L:Nat→Option α}{n:Nat}{r:Option α}(hstep: ∀i,i<n→L i=L (i+1))(hend:L n=r):L 0=r:=by
 have: ∀d i,i+d=n→L i=r:=by
  intro d
  induction d with
  |zero=>
       intro i h;have:i=n:=by omega
       rw[this];exact hend
  |succ d ih=>intro i h;rw[hstep i (by omega)];exact ih (i+1) (by omega)
 exact this n 0 (by omega)
theorem zcO{α:Type}{l:List α}{i:Nat}(h:i<l.length):l.take (i+1)=l.take i++[l[i]]:=List.take_succ_eq_append_getElem h
theorem zpA{l:List T}{i:Nat}(h:i<l.length):sizes (l.take (i+1))=sizes (l.take i)+l[i].size:=by
 rw[zcO h,zcN];simp[sizes]
theorem zkB(a b:List T):Yq (a++b)=max (Yq a) (Yq b):=by
 induction a with
 |nil=>simp[Yq]
 |cons x a ih=>simp only[List.cons_append,Yq,ih];omega
theorem zig{l:List T}{i:Nat}(h:i<l.length):Yq (l.take (i+1))=max (Yq (l.take i)) l[i].depth:=by
 rw[zcO h,zkB];simp[Yq]
theorem zbT(l:List T)(i:Nat):sizes (l.take i)≤sizes l:=by
 conv=>rhs;rw[←List.take_append_drop i l,zcN]
 omega
theorem zdh(l:List T):Yq l≤sizes l:=by
 induction l with
 |nil=>simp[Yq]
 |cons x l ih=>simp only[Yq,sizes];have:=zeN x;omega
mutual
def T.same:T→T→Bool
 | .mk k h l, .mk k' h' l'=>decide (k=k')&&(decide (h=h')&&zdi l l')
def zdi:List T→List T→Bool
 |[],[]=>true
 |a::l,b::l'=>a.same b&&zdi l l'
 |_,_=>false
end
mutual
theorem znQ: ∀a b:T,a.same b=true↔a=b
 | .mk k h l, .mk k' h' l'=>by simp only[T.same,Bool.and_eq_true,decide_eq_true_eq,zhq l l',T.mk.injEq]
theorem zhq: ∀l l':List T,zdi l l'=true↔l=l'
 |[],[]=>by simp[zdi]
 |[],_::_=>by simp[zdi]
 |_::_,[]=>by simp[zdi]
 |a::l,b::l'=>by simp only[zdi,Bool.and_eq_true,znQ a b,zhq l l',List.cons.injEq]
end
@[simp] theorem zv3(a:T):a.same a=true:=(znQ a a).2 rfl
@[simp] theorem zuZ(l:List T):zdi l l=true:=(zhq l l).2 rfl
theorem zlv: ∀{l l':List T},l.length=l'.length→zdi l l'=(l.zip l').all fun x=>x.1.same x.2
 |[],[],_=>rfl
 |a::l,b::l',h=>by simp only[zdi,List.zip_cons_cons,List.all_cons,zlv (Nat.succ.inj h)]
 |[],_::_,h=>by cases h
 |_::_,[],h=>by cases h
theorem zlw: ∀{l l':List T},l.length≠l'.length→zdi l l'=false
 |[],[],h=>absurd rfl h
 |a::l,b::l',h=>by
  simp only[List.length_cons,ne_eq,Nat.add_right_cancel_iff]at h
  simp only[zdi,zlw h,Bool.and_false]
 |[],_::_,_=>rfl
 |_::_,[],_=>rfl
theorem JQ{α β:Type}{L:Int→Option α}{xs:List β}{g:β→Bool}{e0 e1:α}(hstep: ∀(i:Nat) (h:i<xs.length),L i=if g xs[i]=true then L ((i+1:Nat):Int)else some e1)(hend:L (xs.length:Nat)=some e0):
  L 0=some (if xs.all g=true then e0 else e1):=by
 have: ∀i:Nat,i≤xs.length→L i=some (if(xs.drop i).all g=true then e0 else e1):=by
  intro i hi
  induction hn:xs.length-i generalizing i with
  |zero=>
   have:i=xs.length:=by omega
   subst this
   rw[hend,List.drop_length];rfl
  |succ n ih=>
   have hlt:i<xs.length:=by omega
   rw[hstep i hlt,List.drop_eq_getElem_cons hlt,List.all_cons]
   cases hg:g xs[i]with
   |true=>
    rw[if_pos rfl,ih (i+1) (by omega) (by omega)]
    simp
   |false=>simp
 have:=this 0 (by omega)
 rwa [List.drop_zero]at this
theorem zaG(a b:Int):(a==b)=decide (a=b):=by by_cases h:a=b<;>simp[h]
theorem zsT(a:Nat):((a:Int)==0)=decide (a=0):=by by_cases h:a=0<;>simp[h]
theorem zsU(a:Nat):((a:Int)==1)=decide (a=1):=by
 by_cases h:a=1
 ·simp[h]
 ·have:(a:Int)≠1:=by omega
  simp[h,this]
theorem znR(a:Nat):((a:Int)==2)=decide (a=2):=by
 by_cases h:a=2
 ·simp[h]
 ·have:(a:Int)≠2:=by omega
  simp[h,this]
section
variable{R:Type}
@[simp] theorem zgi(K:Qv R []):onCells (R:=R) [] [] K=K:=rfl
@[simp] theorem zm5{cs:List CT}{n:Int}{vs:List V}{K:Qv R (.int::cs)}:onCells (R:=R) (.int::cs) (.int n::vs) K=onCells cs vs (K n):=rfl
@[simp] theorem zt8{cs:List CT}{n:Bool}{vs:List V}{K:Qv R (.bool::cs)}:onCells (R:=R) (.bool::cs) (.bool n::vs) K=onCells cs vs (K n):=rfl
theorem Z3{n:Nat}{v:V}{st:St}(h:st.length=n):Xb n v st=some (.ret v,st):=by
 unfold Xb;rw[h,Nat.beq_refl];rfl
@[simp] theorem zwu{x y:Res}{v:V}:Xb (List.length [x]) v [y]=some (.ret v,[y]):=rfl
@[simp] theorem zvN{y:Res}{v:V}:Xb 1 v [y]=some (.ret v,[y]):=rfl
@[simp] theorem ztT{cs:List CT}{n:ByteArray}{vs:List V}{K:Qv R (.str::cs)}:onCells (R:=R) (.str::cs) (.str n::vs) K=onCells cs vs (K n):=rfl
@[simp] theorem zdH{sh:Sh}{cs:List CT}{es vs:List V}{K:Qv R (.slice sh::cs)}:onCells (R:=R) (.slice sh::cs) (.vec .plain sh es::vs) K=onCells cs vs (K es):=by
 show(if sh=sh then onCells cs vs (K es)else none)=_
 rw[if_pos rfl]
@[simp] theorem zm6{cs:List CT}{vs:List V}{K:Qv R cs}:Zc (R:=R) cs (.agg vs) K=onCells cs vs K:=rfl
@[simp] theorem YZ{sh:Sh}{es:List V}{K:List V→Option R}:Yp sh (.vec .plain sh es) K=K es:=by show(if sh=sh then K es else none)=_;rw[if_pos rfl]
@[simp] theorem zlx{sh:Sh}{d:Bool}{v:V}{K:Bool→V→Option R}:Y0 sh (.loc d sh v) K=K d v:=by show(if sh=sh then K d v else none)=_;rw[if_pos rfl]
@[simp] theorem znS{sh:Sh}{es:List V}{K:List V→Option R}:Xr sh (.vec .grow sh es) K=K es:=by show(if sh=sh then K es else none)=_;rw[if_pos rfl]
@[simp] theorem Zg{α:Type}(x:α)(K:α→Option R):Za (some x) K=K x:=rfl
@[simp] theorem zv4(s:ByteArray)(K:ByteArray→Option R):zcY (.str s) K=K s:=rfl
@[simp] theorem zwv(k:IntKind)(n:Int)(K:Int→Option R):zkn k (.ik k n) K=K n:=by show(if k=k then K n else none)=_;rw[if_pos rfl]
@[simp] theorem zr2(cs:List V)(K:List V→Option R):Xc (.agg cs) K=K cs:=rfl
@[simp] theorem zuA(n r:Option R)(x:Nat→Option R)(p:V→Option R):Xk .normal n r x p=n:=rfl
@[simp] theorem ztU{sh:Sh}{es:List V}{K1 K2:List V→Option R}:za4 sh (.vec .grow sh es) K1 K2=K1 es:=by show(if sh=sh then K1 es else none)=_;rw[if_pos rfl]
@[simp] theorem ztV{sh:Sh}{es:List V}{K1 K2:List V→Option R}:za4 sh (.vec .full sh es) K1 K2=K2 es:=by show(if sh=sh then K2 es else none)=_;rw[if_pos rfl]
@[simp] theorem zuB{α:Type}(x:Option α):YO .busy x=x:=rfl
@[simp] theorem zww(q:Nat)(K:Nat→Option R):zkm (.mp q) K=K q:=rfl
@[simp] theorem zv5(a b:CT)(l:List (V×V))(K:CT→CT→List (V×V)→Option R):zhC (.map a b l) K=K a b l:=rfl
@[simp] theorem znT(q:Nat)(K:Nat→Option R):zdo (.cptr none (.ref q 0)) K=K q:=rfl
@[simp] theorem zv6(q:Nat)(K:Nat→Option R):zf7 (.ref q 0) K=K q:=rfl
@[simp] theorem zuC{sh:Sh}{es:List V}{K:List V→Option R}:Xr sh (.vec .full sh es) K=K es:=by show(if sh=sh then K es else none)=_;rw[if_pos rfl]
@[simp] theorem zva{sh:Sh}{q lo n:Nat}{K:Nat→Nat→Nat→Option R}:Qo sh (.row sh q lo n) K=K q lo n:=by show(if sh=sh then K q lo n else none)=_;rw[if_pos rfl]
@[simp] theorem zuD(s:ByteArray)(p:Nat)(K:ByteArray→Nat→Option R):zgC (.iter s p) K=K s p:=rfl
@[simp] theorem zly(sh:Sh)(es:List V)(K:Sh→List V→Option R):za0 (.row sh es) K=K sh es:=rfl
@[simp] theorem ZB(n:Int)(K:Int→Option R):Zm (.int n) K=K n:=rfl
@[simp] theorem ZH(n:Bool)(K:Bool→Option R):Zl (.bool n) K=K n:=rfl
@[simp] theorem Xx(vs:List V)(K:List V→Option R):ZM (.tup vs) K=K vs:=rfl
@[simp] theorem Yk(v:V)(vs:List V)(K:V→List V→Option R):Zd (v::vs) K=K v vs:=rfl
@[simp] theorem Yv(x:Option R):Zn [] x=x:=rfl
@[simp] theorem Js(i:Nat)(n r:Option R)(x:Nat→Option R)(p:V→Option R):Xk (.exit i) n r x p=x i:=rfl
@[simp] theorem zsV(n r:Option R)(x:Nat→Option R)(p:V→Option R):Xk .ret n r x p=r:=rfl
@[simp] theorem ZV(v:V)(K Pk:V→Option R):Zx (.ret v) K Pk=K v:=rfl
@[simp] theorem zgj(g:Nat)(a b:List V)(K:Nat→List V→List V→Option R):zf8 (.fn g a b) K=K g a b:=rfl
@[simp] theorem zhr(cs:List V)(K:List V→Option R):ZE (.box cs) K=K cs:=rfl
@[simp] theorem zaq(f k:Nat)(vs:List V)(s:LSt)(p:Option Ex)(K:Nat→Nat→List V→LSt→Option Ex→Option R):ZX (.loop f k vs s p) K=K f k vs s p:=rfl
@[simp] theorem zaH(n r:Option R)(x:Nat→Option R):XZ .ready none n r x=n:=rfl
@[simp] theorem zvb(n r:Option R)(x:Nat→Option R):XZ .done (some .ret) n r x=r:=rfl
@[simp] theorem Z6(x:Option R):gd true x=x:=rfl
@[simp] theorem Z4(x y:Option R):bc true x y=x:=rfl
@[simp] theorem Z2(x y:Option R):bc false x y=y:=rfl
@[simp] theorem zw0(a b:Bool)(x:Option R):gd (a&&b) x=gd a (gd b x):=by cases a<;>rfl
@[simp] theorem zw1{p:Prop}[Decidable p](h:p)(x:Option R):gd (decide p) x=x:=by rw[decide_eq_true h];rfl
@[simp] theorem zvO{p:Prop}[Decidable p](h:p)(x y:Option R):bc (decide p) x y=x:=by rw[decide_eq_true h];rfl
@[simp] theorem zvP{p:Prop}[Decidable p](h: ¬p)(x y:Option R):bc (decide p) x y=y:=by rw[decide_eq_false h];rfl
@[simp] theorem zvQ{a b:Int}(h:a=b)(x y:Option R):bc (a==b) x y=x:=by rw[beq_iff_eq.2 h];rfl
@[simp] theorem zsW{a b:Int}(h: ¬a=b)(x y:Option R):bc (a==b) x y=y:=by rw[beq_eq_false_iff_ne.2 h];rfl
@[simp] theorem zvR{a b:Int}(h: ¬a=b)(x y:Option R):bc (a !=b) x y=x:=by simp[bne,beq_eq_false_iff_ne.2 h]
@[simp] theorem znU{a b:Int}(h:a=b)(x y:Option R):bc (a !=b) x y=y:=by simp[bne,beq_iff_eq.2 h]
@[simp] theorem zw2(b:Bool)(x y:Option R):bc (!b) x y=bc b y x:=by cases b<;>rfl
@[simp] theorem zw3{n:Int}(h1: -9223372036854775808≤n)(h2:n≤9223372036854775807):IntKind.i64.wrap n=n:=Zu ⟨h1,h2⟩
end
end Go.AM
