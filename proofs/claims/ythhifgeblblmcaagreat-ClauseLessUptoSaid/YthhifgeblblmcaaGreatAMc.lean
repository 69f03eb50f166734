import Derived.Test.YthhifgeblblmcaaGreatAMb
import Derived.KernelRfl
import Derived.ControlIn
import Derived.RangeFuncIn
import Derived.RangeFuncRecord
/- An abstract machine over tree values that runs the model's code, and its soundness: what it tells of a call, the model does. -/
set_option linter.unusedVariables false
set_option linter.unusedSimpArgs false
set_option linter.unusedSectionVars false
namespace Go.AM
open Go Go.RowKit
section
variable{P:Program}{cfg:Cfg}{base n:Nat}{w:World}{own:Own}{μ:List Nat}{ρ:Env}{st:St}{a:Act}
variable{fid rid idx:Nat}{all:List Oper}{o:Oper}{R:Type}{r:R}
theorem zpo(h:Pre P cfg base n all w own μ ρ st a o){t:TypeId}(hop:o.op= .makeMap t none){tk:Bool}{ck cv:CT}:
  OpOK P cfg base n all w own μ o a (ρ.apply (upds ρ tk []++ZL o.dst (.mp st.length))) (st++[.map ck cv []]):=by
 obtain⟨hr,hs1,_⟩:=h.rel.read tk []
 obtain⟨h1,h2⟩:=zjf hr (.map #[] 0) (.map ck cv []) fun w' own' hb ho=>⟨ho,_,_,hb,rfl,rfl,fun i hi=>by simp at hi⟩
 refine Qq h h1 ((Z8 hs1).trans (h2.keeps fun h=>h)) (.mp _ w.heap.size (Jd h.rel.sto.len _)) ?_
 simp only[execOp,hop]
 refine Z7 ?_
 simp only[Option.map_none,Instr.makeMap]
 rfl
theorem zqZ{ck cv:CT}{es:List (V×V)}{ms:Array MapEntry}{cl:Nat}(he:za7 ck cv es ms cl){k v:V}{kx vx:Value}(hk:X3 ck k=some kx)(hv:X3 cv v=some vx):za7 ck cv (es++[(k,v)]) (ms.push {key:=kx,val:=vx,born:=cl}) (cl+1):=by
 obtain⟨h1,h2,h3⟩:=he
 refine⟨by simp[h1],by simp[h2],fun i hi hi'=> ?_⟩
 by_cases hlt:i<es.length
 ·rw[List.getElem_append_left hlt,Array.getElem_push_lt (by omega)]
  exact h3 i hlt (by omega)
 ·have:i=es.length:=by simp at hi;omega
  subst this
  rw[List.getElem_append_right (Nat.le_refl _)]
  have hm:es.length=ms.size:=h1.symm
  simp only[Nat.sub_self,List.getElem_cons_zero]
  have hg:(ms.push {key:=kx,val:=vx,born:=cl})[es.length]'hi'={key:=kx,val:=vx,born:=cl}:=by
   simp only[hm,Array.getElem_push_eq]
  rw[hg]
  exact⟨hk,hv,h2⟩
theorem zs7{ck cv:CT}{es:List (V×V)}{ms:Array MapEntry}{cl:Nat}(he:za7 ck cv es ms cl){k v:V}{kx vx:Value}(hk:X3 ck k=some kx)(hv:X3 cv v=some vx)(j:Nat):za7 ck cv (es.set j (k,v)) (ms.modify j fun e=>{e with key:=kx,val:=vx}) cl:=by
 obtain⟨h1,h2,h3⟩:=he
 refine⟨by simp[h1],by simp[h2],fun i hi hi'=> ?_⟩
 have hi1:i<es.length:=by simpa using hi
 obtain⟨q1,q2,q3⟩:=h3 i hi1 (by omega)
 rw[List.getElem_set,Array.getElem_modify]
 by_cases hij:j=i
 ·subst hij
  simp only[if_true]
  exact⟨hk,hv,q3⟩
 ·simp only[if_neg hij]
  exact⟨q1,q2,q3⟩
theorem zme{c:CT}{v:V}{x:Value}(h:X3 c v=some x)(n:Nat):Instr.sameBits n x x=true:=by
 cases c<;>cases v<;>simp[X3]at h<;>subst h
 ·cases n<;>simp[Instr.sameBits]
 ·cases n<;>simp[Instr.sameBits]
 ·have: ∀s:ByteArray,(s==s)=true:=fun s=>by
   show ByteArray.beq s s=true
   simp[ByteArray.beq]
  cases n<;>simp[Instr.sameBits,this]
theorem zmf(h:Pre P cfg base n all w own μ ρ st a o){t:TypeId}{m k x:Operand}(hop:o.op= .mapUpdate t m k x)(hdst:o.dst=none){tk:Bool}{ck cv:CT}(ht:zfa P t=some (ck,cv)){q:Nat}(hm:rd ρ tk m= .mp q){es:List (V×V)}(hst:st[q]? =some (.map ck cv es)){kx vx:Value}(hk:X3 ck (rd ρ tk k)=some kx)(hv:X3 cv (rd ρ tk x)=some vx):
  OpOK P cfg base n all w own μ o a (ρ.apply (upds ρ tk [m,k,x])) (st.set q (.map ck cv (QQ es (rd ρ tk k) (rd ρ tk x)))):=by
 obtain⟨kt,e,dk,de,hu,hku,hkl,heu,hel,hz⟩:=zc8 ht
 obtain⟨hr,hs1,_⟩:=h.rel.read tk [m,k,x]
 have hM:=(hm▸Z0 h tk (xs:=[m,k,x]) (x:=m) (by simp)).val (by simp)
 have hkn: ∀sh es',rd ρ tk k≠ .vec .grow sh es':=fun sh es' e=>by rw[e]at hk;cases ck<;>simp[X3]at hk
 have hxn: ∀sh es',rd ρ tk x≠ .vec .grow sh es':=fun sh es' e=>by rw[e]at hv;cases cv<;>simp[X3]at hv
 have hK:=zgY hk ((Z0 h tk (xs:=[m,k,x]) (x:=k) (by simp)).val hkn)
 have hX:=zgY hv ((Z0 h tk (xs:=[m,k,x]) (x:=x) (by simp)).val hxn)
 generalize hev:a.eval m=cm at hM
 cases hM with
 |mp _ b hb=>
  obtain⟨ho,ms,cl,hh,hE⟩:=hr.sto.res q _ b hst hb
  have hlow:base≤b:=hr.sto.low b 0 (by rw[ho];simp) (by rw[ho];simp) (by rw[ho];simp)
  have hlt:b<w.heap.size:=(Array.getElem?_eq_some_iff.1 hh).1
  have hget:(getObj b).run P w= .ok (.map ms cl) w:=by simp[getObj,Sem.run,hh]
  have hfin: ∀(ms':Array MapEntry) (cl':Nat),za7 ck cv (QQ es (rd ρ tk k) (rd ρ tk x)) ms' cl'→(Instr.mapUpdate t (.map (some b)) kx vx).run P w= .ok () (w.putObj b (.map ms' cl'))→
    OpOK P cfg base n all w own μ o a (ρ.apply (upds ρ tk [m,k,x])) (st.set q (.map ck cv (QQ es (rd ρ tk k) (rd ρ tk x)))):=fun ms' cl' hE' hrun=>by
   have hsame: ∀k,k≠b→(w.putObj b (.map ms' cl')).heap[k]? =w.heap[k]? :=fun k hk=>World.putObj_heap_other hk
   have hB:Below base w (w.putObj b (.map ms' cl')):=⟨rfl,rfl,rfl,by simp,fun k hk=>hsame k (by omega)⟩
   have s':Step base w (Yy own ρ [m,k,x]) μ (w.putObj b (.map ms' cl')) (Yy own ρ [m,k,x]) μ (fun g=> ∃j,g= .r q j):=Step.obj hr.sto ho (by simp) ⟨0,rfl⟩ (fun c e f hc=>by rw[hh]at hc;cases hc) hlow hsame hB
   refine zet h hdst (hr.step s' (by simp) (by simp[hr.sto.len]) rfl rfl (fun k y' b' k1 k2=> ?_) (fun t=> .inl ⟨rfl,rfl,by simp,Xl hr t⟩)) ((Z8 hs1).trans (Yt s' fun g ⟨j,e⟩=> .inr ⟨q,j,e⟩)) ?_
   ·rcases za8 k1 with⟨rfl,rfl⟩|⟨hne,hk⟩
    ·right
     rw[hb]at k2
     cases k2
     exact⟨ho,ms',cl',World.putObj_heap_same hlt,hE'⟩
    ·exact .inl ⟨hk,fun j ⟨j',e⟩=>hne (by cases e;rfl)⟩
   ·simp only[execOp,hop,hev,hK,hX,Sem.run_bind,hrun,Result.andThen_ok]
    rfl
  have hset: ∀ob,(setObj b ob).run P w= .ok () (w.putObj b ob):=fun ob=>by simp[setObj,Sem.run,hh,World.putObj]
  rcases run_findKey (cv:=cv) hku hkl hk hE w with⟨r1,_,r2⟩|⟨j,hj,hj',r1,rk,_,r2⟩
  ·refine hfin _ _ (by rw[r2];exact zqZ hE hk hv) ?_
   simp only[Instr.mapUpdate,Sem.run_bind,Go.run_underlying hu,Result.andThen_ok,hget,run_checkKey hku hkl,r1]
   exact hset _
  ·refine hfin _ _ (by rw[r2];exact zs7 hE hk hv j) ?_
   have hstay:(Instr.keyThatStays (((ms[j]?).map (·.key)).getD kx) kx).run P w= .ok kx w:=by
    rw[Array.getElem?_eq_getElem hj',Option.map_some,Option.getD_some,rk]
    unfold Instr.keyThatStays
    rw[if_pos (zme hk _)]
    rfl
   simp only[Instr.mapUpdate,Sem.run_bind,Go.run_underlying hu,Result.andThen_ok,hget,run_checkKey hku hkl,r1,hstay]
   exact hset _
end
end Go.AM
namespace Go.AM
open Go Go.RowKit
theorem zra{tk:Bool}{x:V}{cs:List V}(h:(bif tk&&zav x then x else plain1 x)= .agg cs):(bif tk&&zav x then x else plain1 x)=bif tk&&isGrow x then x else plain1 x:=by
 cases x with
 |vec m sh es=>cases m<;>cases tk<;>simp_all[zav,isGrow,plain1]
 |_=>cases tk<;>rfl
section
variable{P:Program}{cfg:Cfg}{base n:Nat}{w:World}{own:Own}{μ:List Nat}{ρ:Env}{st:St}{a:Act}
variable{fid rid idx:Nat}{all:List Oper}{o:Oper}{R:Type}{r:R}
theorem zmg{sh:Sh}{v:V}{K1 K2:List V→Option R}(h:za4 sh v K1 K2=some r):(∃es,v= .vec .grow sh es∧K1 es=some r)∨(∃es,v= .vec .full sh es∧K2 es=some r):=by
 unfold za4 at h
 split at h
 ·split at h
  ·rename_i e;subst e;exact .inl ⟨_,rfl,h⟩
  ·cases h
 ·split at h
  ·rename_i e;subst e;exact .inr ⟨_,rfl,h⟩
  ·cases h
 ·cases h
theorem zmh{x:Res}{K:Sh→Nat→Nat→Option R}(h:zei x K=some r): ∃sh m q,x= .spare sh m q∧K sh m q=some r:=by
 cases x<;>simp[zei]at h
 exact⟨_,_,_,rfl,h⟩
theorem zpp(h:Pre P cfg base n all w own μ ρ st a o){K:List (Nat×V)→St→Option R}(hp:zab P cfg fid rid idx o ρ st K=some r): ∃us st',K us st'=some r∧OpOK P cfg base n all w own μ o a (ρ.apply us) st':=by
 unfold zab at hp
 dsimp only at hp
 split at hp
 ·rename_i t x hop
  rw[hop]at hp
  split at hp
  ·rename_i q off hx
   obtain⟨y,hst,hp⟩:=Yd hp
   obtain⟨cs,rfl,hp1⟩:=zc7 hp
   obtain⟨hb,hp2⟩:=Zh hp1
   simp only[Bool.and_eq_true,decide_eq_true_eq]at hb
   have key:=zha h hop hx hst hb.1.1 hb.1.2 hb.2
   split at hp2
   ·cases hp2
   ·rcases zmg hp2 with⟨es,hv,hp3⟩|⟨es,hv,hp3⟩<;>rw[hv]at key<;>exact⟨_,_,hp3,key⟩
  ·rename_i d sh cs hx
   split at hp
   ·obtain⟨hsh,hp⟩:=Zh hp
    obtain⟨cs',st',hK,hok⟩:=zn1 h hop hx hsh hp
    exact⟨_,_,hK,hok⟩
   ·cases hp
  ·rename_i b off hx
   split at hp
   ·rename_i d sh cs hb
    obtain⟨cs',st',hK,hok⟩:=zhb h hop hx hb hp
    obtain⟨hc,hK⟩:=Zh hK
    simp only[Bool.and_eq_true,decide_eq_true_eq]at hc
    exact⟨_,_,hK,hok hc.1 hc.2⟩
   ·cases hp
  ·cases hp
 ·rename_i t x y hop
  rw[hop]at hp
  obtain⟨hc,hp⟩:=Zh hp
  simp only[Bool.and_eq_true]at hc
  obtain⟨⟨hty,hok⟩,hdst⟩:=hc
  have hdst:o.dst=none:=by cases hd:o.dst with|none=>rfl|some d=>rw[hd]at hdst;cases hdst
  split at hp
  ·rename_i d sh old hx
   split at hp
   ·rename_i b cs hvx hx
    split at hp
    ·rename_i j sh1 es q htk hsp
     obtain⟨hc,hp⟩:=Zh hp
     simp only[Bool.and_eq_true,Qu,decide_eq_true_eq]at hc
     obtain⟨⟨_,rfl⟩,hnt⟩:=hc
     obtain⟨z,hst,hp1⟩:=Yd hp
     obtain⟨sh2,n2,g,rfl,hp2⟩:=zmh hp1
     obtain⟨hc2,hp3⟩:=Zh hp2
     simp only[Bool.and_eq_true,decide_eq_true_eq]at hc2
     obtain⟨⟨rfl,rfl⟩,hg2⟩:=hc2
     obtain rfl:=Nat.eq_of_beq_eq_true hg2
     have hvx':=hvx
     have hok':=hok
     rw[zra hvx]at hvx' hok'
     have hg:(cfg.take fid rid idx&&isGrow (ZZ P t (rd ρ (cfg.take fid rid idx) y)))=true→isGrow (bif cfg.take fid rid idx&&isGrow (ZZ P t (rd ρ (cfg.take fid rid idx) y))then ZZ P t (rd ρ (cfg.take fid rid idx) y)else plain1 (ZZ P t (rd ρ (cfg.take fid rid idx) y)))=true:=by
      intro e;rw[e];simp only[Bool.and_eq_true]at e;exact e.2
     have hs:=ZG hok'
     have hOp:OpOK P cfg base n all w own μ o a (ρ.apply (upds ρ (cfg.take fid rid idx) [y]++[(b, .loc true (shOf P t) (.agg cs))])) st:=by
      rw[←hvx']
      refine ziS h hop hdst (off:=0) (d':=true) (b:=b) hx (fun blk hb=> ?_) (zdw hnt) rfl hg hok' hty (by omega) hs (fun j hj=> ?_) (fun e=> ?_) (fun j sh' es hj=> ?_)
      ·exact hb
      ·rw[if_pos ⟨Nat.zero_le _,by omega⟩];simp
      ·cases e
      ·rw[zb2 hok' j hj];simp
     have hget:(ρ.apply (upds ρ (cfg.take fid rid idx) [y]++[(b, .loc true (shOf P t) (.agg cs))])).get b= .loc true (shOf P t) (.agg cs):=by
      rw[ZT]
      show((ρ.apply (upds ρ (cfg.take fid rid idx) [y])).set b _).get b=_
      rw[Zp,if_pos rfl]
     have hfin:=zqY hOp hget hsp hst hdst
     refine⟨_,_,hp3, ?_⟩
     obtain⟨nx,cv,w',own',μ',k1,k2,k3,k4,k5⟩:=hfin
     have hco: ∀t',(ρ.apply (upds ρ (cfg.take fid rid idx) [y]++[(b, .loc true (shOf P t) (.agg (cs.set j (.vec .grow sh2 es))))])).get t'=((ρ.apply (upds ρ (cfg.take fid rid idx) [y]++[(b, .loc true (shOf P t) (.agg cs))])).set b (.loc true (shOf P t) (.agg (cs.set j (.vec .grow sh2 es))))).get t':=by
      intro t'
      rw[ZT,ZT]
      show((ρ.apply _).set b _).get t'=(((ρ.apply _).set b _).set b _).get t'
      simp only[Zp]
      split<;>rfl
     exact⟨nx,cv,w',own',μ',k1,k2,Rel.congr (ρ':=ρ.apply (upds ρ (cfg.take fid rid idx) [y]++[(b, .loc true (shOf P t) (.agg (cs.set j (.vec .grow sh2 es))))])) k3 hco,k4,fun t' x off e=>k5 t' x off (by rw[←hco];exact e)⟩
    ·cases hp
   ·cases hp
  ·rename_i q off hx
   obtain⟨z,hst,hp⟩:=Yd hp
   obtain⟨cs,rfl,hp1⟩:=zc7 hp
   obtain⟨hb,hp2⟩:=Zh hp1
   simp only[Bool.and_eq_true,decide_eq_true_eq]at hb
   exact⟨_,_,hp2,zmc h hop hdst hx hst hb.1 rfl hok hty⟩
  ·rename_i shp q i off hx
   obtain⟨z,hst,hp⟩:=Yd hp
   obtain⟨sh,es,rfl,hp1⟩:=Q1 hp
   obtain⟨hb,hp2⟩:=Zh hp1
   simp only[Bool.and_eq_true,decide_eq_true_eq,Bool.not_eq_true']at hb
   obtain⟨⟨rfl,hng⟩,hi⟩:=hb
   split at hp2
   ·rename_i hc
    simp only[Qu,Bool.and_eq_true,decide_eq_true_eq]at hc
    obtain⟨rfl,_,rfl⟩:=hc
    refine⟨_,_,hp2,zfS h hop hdst hx hst hi rfl hng hok hty (by omega) (ZG hok) fun j hj=> ?_⟩
    rw[if_pos ⟨by omega,by omega⟩];rfl
   ·split at hp2
    ·obtain⟨cs,hes,hp3⟩:=JG hp2
     obtain⟨hb,hp4⟩:=Zh hp3
     simp only[Bool.and_eq_true,decide_eq_true_eq]at hb
     rename_i m _ _ _ _
     have hs:=ZG hok
     obtain⟨b,hmu,_⟩:=zlY h.rel hx
     obtain⟨_,_,_,_,_,_,_,_,_,_,hjj⟩:=zes h.rel.sto hst hmu (by rintro rfl;simp at hi)
     have hse:=(hjj i hi).1
     rw[hes]at hse
     have hlen:cs.length=_:=hse
     have hb1:=hb.1
     refine⟨_,_,hp4,zfS h hop hdst hx hst hi rfl hng hok hty (by simpa[Sh.sz]using hb.1) ?_ fun j hj=> ?_⟩
     ·show(setCells cs off _).length=_
      rw[X7 (by rw[hs.len,hlen];exact hb1),hlen]
     ·rw[hes]
      exact zda hs (by rw[hlen];exact hb1) j
    ·cases hp2
  ·cases hp
 ·rename_i e hop
  rw[hop]at hp
  obtain⟨hc,hp⟩:=Zh hp
  simp only[Bool.and_eq_true]at hc
  exact⟨_,_,hp,zmb h hop hc.1 hc.2 (cfg.take fid rid idx)⟩
 ·rename_i e x hop
  rw[hop]at hp
  obtain⟨hc,hp⟩:=Zh hp
  simp only[Bool.and_eq_true]at hc
  exact⟨_,_,hp,zpn h hop rfl hc.2⟩
 ·rename_i t l c hop
  rw[hop]at hp
  split at hp
  ·rename_i e he
   obtain⟨l',hl,hp⟩:=YH hp
   obtain⟨c',hcc,hp⟩:=YH hp
   obtain⟨hb,hp2⟩:=Zh hp
   simp only[Bool.and_eq_true,decide_eq_true_eq]at hb
   obtain⟨⟨⟨⟨h0,rfl⟩,hroom⟩,hty⟩,hok⟩:=hb
   exact⟨_,_,hp2,zgZ h hop he hl hcc h0 hroom hty hok⟩
  ·cases hp
 ·rename_i t len ps hop
  rw[hop]at hp
  split at hp
  ·rename_i e he
   split at hp
   ·rename_i es hlay
    obtain⟨hb,hp⟩:=Zh hp
    simp only[Bool.and_eq_true,decide_eq_true_eq]at hb
    have:=zfT h hop he hlay hb.1.1.1 hb.1.1.2 hb.1.2
    exact⟨_,_,hp,by simpa[Z1,Op.operands]using this⟩
   ·cases hp
  ·cases hp
 ·rename_i t ps hop
  rw[hop]at hp
  obtain⟨v,st',hK,hok⟩:=zku h hop (tk:=cfg.take fid rid idx) (q:=cfg.take fid rid idx) (K:=fun v st=>K (upds ρ (cfg.take fid rid idx) (Z1 (.build t ps))++ZL o.dst v) st) hp
  refine⟨_,_,hK, ?_⟩
  simpa[Z1,Op.operands]using hok
 ·rename_i t hop
  split at hp
  ·rename_i sh q lo k hx
   obtain⟨y,hst,hp⟩:=Yd hp
   obtain⟨sh',es,rfl,hp⟩:=Q1 hp
   obtain⟨hb,hp⟩:=Zh hp
   simp only[Bool.and_eq_true,decide_eq_true_eq]at hb
   obtain⟨rfl,hlk⟩:=hb
   exact⟨_,_,hp,znx h hop hx hst hlk⟩
  ·cases hp
 ·rename_i t hop
  rw[hop]at hp
  split at hp
  ·rename_i ck cv ht
   exact⟨_,_,hp,zpo h hop (tk:=cfg.take fid rid idx)⟩
  ·cases hp
 ·rename_i t m k x hop
  rw[hop]at hp
  split at hp
  ·rename_i ck cv ht
   obtain⟨_,_,dk,de,_,_,hkl,_,hel,_⟩:=zc8 ht
   obtain⟨q,hm,hp⟩:=zlc hp
   obtain⟨y,hst,hp⟩:=Yd hp
   obtain⟨ck',cv',es,rfl,hp⟩:=zfd hp
   obtain⟨hc,hp⟩:=Zh hp
   simp only[Bool.and_eq_true,decide_eq_true_eq,Option.isNone_iff_eq_none]at hc
   obtain⟨⟨rfl,rfl⟩,hd⟩:=hc
   obtain⟨kx,hk,hp⟩:=zc9 hkl hp
   obtain⟨vx,hv,hp⟩:=zc9 hel hp
   exact⟨_,_,hp,zmf h hop hd ht hm hst hk hv⟩
  ·cases hp
 ·rename_i t x hop
  rw[hop]at hp
  obtain⟨s,hs,hp⟩:=zc2 hp
  obtain⟨ht,hp⟩:=Zh hp
  exact⟨_,_,hp,zs6 h hop hs ht⟩
 ·rename_i it hop
  rw[hop]at hp
  split at hp
  ·rename_i q off hx
   obtain⟨y,hst,hp⟩:=Yd hp
   obtain⟨s,p,rfl,hp⟩:=znw hp
   obtain⟨h0,hp⟩:=Zh hp
   have h0:=Nat.eq_of_beq_eq_true h0
   subst h0
   obtain⟨k1,k2⟩:=ztL h hop (tk:=cfg.take fid rid idx) hx hst
   rcases Yn hp with⟨hd,hp⟩|⟨hd,hp⟩
   ·exact⟨_,_,hp,k1 (of_decide_eq_true hd)⟩
   ·exact⟨_,_,hp,k2 (of_decide_eq_false hd)⟩
  ·cases hp
 ·rename_i c hop
  rw[hop]at hp
  split at hp
  ·rename_i hc
   split at hp
   ·rename_i s x t t' ha ht
    split at hp
    ·rename_i e sh he hv
     obtain⟨v,st',hK,hok⟩:=zkv h hop hc ha ht (K:=fun v st=>K (upds ρ (cfg.take fid rid idx) (Z1 (.call c))++ZL o.dst v) st) he hv hp
     refine⟨_,_,hK, ?_⟩
     have:Z1 (.call c)=[s,x]:=by simp[Z1,Op.operands,Call.operands,hc,ha]
     rw[this]
     exact hok
    ·cases hp
   ·cases hp
  ·rename_i hc
   split at hp
   ·rename_i d x t t' ha ht
    split at hp
    ·rename_i sh q lo k hd
     obtain⟨hsl,hp⟩:=Zh hp
     obtain⟨v,st',hK,hok⟩:=ztK h hop hc ha ht (K:=fun v st=>K (upds ρ (cfg.take fid rid idx) (Z1 (.call c))++ZL o.dst v) st) hd hsl hp
     refine⟨_,_,hK, ?_⟩
     have:Z1 (.call c)=[d,x]:=by simp[Z1,Op.operands,Call.operands,hc,ha]
     rw[this]
     exact hok
    ·cases hp
   ·cases hp
  ·cases hp
 ·cases hp
theorem zle(h:Pre P cfg base n all w own μ ρ st a o){K:List (Nat×V)→Option R}(hp:JE o ρ K=some r): ∃us,K us=some r∧OpOK P cfg base n all w own μ o a (ρ.apply us) st:=by
 unfold JE at hp
 split at hp
 ·rename_i c hop
  split at hp
  ·rename_i x y hc ha
   split at hp
   ·rename_i i j hx hy
    have hX:=VRep.int_inv (Qj h.rel hx rfl (by simp) (by simp))
    have hY:=VRep.int_inv (Qj h.rel hy rfl (by simp) (by simp))
    refine⟨_,hp,XM h (.int _) (Jm hop hc (zal ha) rfl rfl ?_)⟩
    refine Z7 ?_
    simp[Builtin.max_,Builtin.max2,hX,hY]
   ·cases hp
  ·rename_i x y hc ha
   split at hp
   ·rename_i i j hx hy
    have hX:=VRep.int_inv (Qj h.rel hx rfl (by simp) (by simp))
    have hY:=VRep.int_inv (Qj h.rel hy rfl (by simp) (by simp))
    refine⟨_,hp,XM h (.int _) (Jm hop hc (zal ha) rfl rfl ?_)⟩
    refine Z7 ?_
    simp[Builtin.min_,Builtin.min2,hX,hY]
   ·cases hp
  ·cases hp
 ·cases hp
end
end Go.AM
namespace Go.AM
open Go Go.RowKit
section
variable{P:Program}{cfg:Cfg}{base n:Nat}{w w':World}{own own' own2:Own}{μ μ':List Nat}{ρ:Env}{st st':St}{a:Act}
variable{fid rid idx:Nat}{all:List Oper}{o:Oper}{R:Type}{r:R}
def zbb(own own':Own)(S:Tag→Prop):Prop:= ∀b i,S (own b i)→own' b i=own b i
theorem VRep.tags{S:Tag→Prop}(hS:zbb own own' S)(hp:S .pr){v:V}{c:Value}(h:VRep w (prOf own) μ v c):VRep w (prOf own') μ v c:=
 h.mono (fun b i e=>⟨by have:=hS b i (by rw[show own b i= .pr from e];exact hp);exact this.trans e,rfl⟩) fun _ _ h=>h
theorem GRep.tags{S:Tag→Prop}(hS:zbb own own' S)(hp:S .pr){g:Tag}(hg:S g){sh:Sh}{es:List V}{c:Value}(h:GRep w own μ g sh es c):GRep w own' μ g sh es c:=by
 obtain⟨A,cap,hc,hl,h⟩:=h
 refine⟨A,cap,hc,hl, ?_⟩
 rcases h with h|⟨a,f,ccs,ty,fz,hA,ha,hb,hcap,hcell,hsh,hrep,hsp⟩
 ·exact .inl h
 ·refine .inr ⟨a,f,ccs,ty,fz,hA,ha,hb,hcap,fun i j hi hj=> ?_,hsh,fun i j hi hj=>(hrep i j hi hj).tags hS hp,fun k h1 h2=> ?_⟩
  ·obtain⟨h1,h2,h3⟩:=hcell i j hi hj
   exact⟨h1,(hS _ _ (by rw[h2];exact hp)).trans h2,h3⟩
  ·obtain⟨h3,h4⟩:=hsp k h1 h2
   exact⟨(hS _ _ (by rw[h3];exact hg)).trans h3,h4⟩
theorem CRep.tags{S:Tag→Prop}(hS:zbb own own' S)(hp:S .pr){g:Tag}(hg:S g){v:V}{c:Value}(h:CRep w own μ g v c):CRep w own' μ g v c:=by
 unfold CRep at*
 split
 ·rename_i sh es
  exact GRep.tags hS hp hg h
 ·rename_i hn
  split at h
  ·exact absurd rfl (hn _ _)
  ·exact h.tags hS hp
theorem RRep.tags{S:Tag→Prop}(hS:zbb own own' S)(hp:S .pr)(hr: ∀q j,S (.r q j)){r b:Nat}{x:Res}(h:RRep P cfg w own μ r b x):RRep P cfg w own' μ r b x:=by
 cases x with
 |dead=>trivial
 |box cells=>
  obtain⟨ccs,⟨ty,fz,h1,h2,h3,h4⟩,hj⟩:=h
  exact⟨ccs,⟨ty,fz,h1,h2,h3,fun i=>(hS _ _ (by rw[h4];exact hr _ _)).trans (h4 i)⟩,fun j hj'=>⟨(hj j hj').1,CRep.tags hS hp (hr _ _) (hj j hj').2⟩⟩
 |row sh es=>
  rcases h with h|⟨m,ccs,⟨ty,fz,h1,h2,h3,h4⟩,hl,hj⟩
  ·exact .inl h
  ·exact .inr ⟨m,ccs,⟨ty,fz,h1,h2,h3,fun i=>(hS _ _ (by rw[h4];exact hr _ _)).trans (h4 i)⟩,hl,fun i hi=>⟨(hj i hi).1,fun j hj'=>⟨((hj i hi).2 j hj').1,((hj i hi).2 j hj').2.tags hS hp⟩⟩⟩
 |spare sh n q=>
  obtain⟨cap,off,h1,h2,h⟩:=h
  refine⟨cap,off,h1,h2,h.imp id ?_⟩
  rintro⟨ccs,ty,fz,hb,hsz,hk⟩
  exact⟨ccs,ty,fz,hb,hsz,fun k k1 k2=>⟨(hS _ _ (by rw[(hk k k1 k2).1];exact hr _ _)).trans (hk k k1 k2).1,(hk k k1 k2).2⟩⟩
 |loop fid key vals s p=>
  obtain⟨ho,L,fn,c,hb,h1,h2,h3,h4,h5,h6,h7,h8⟩:=h
  exact⟨fun i=>(hS _ _ (by rw[ho];exact hr _ _)).trans (ho i),L,fn,c,hb,h1,h2,h3,h4,h5,h6,h7,fun t=>(h8 t).tags hS hp⟩
 |iter z p=>exact⟨fun i=>(hS _ _ (by rw[h.1];exact hr _ _)).trans (h.1 i),h.2⟩
 |map ck cv es=>exact⟨fun i=>(hS _ _ (by rw[h.1];exact hr _ _)).trans (h.1 i),h.2⟩
def Flat(own:Own):Prop:= ∀b i,own b i= .free∨own b i= .pr∨own b i= .fr∨ ∃q j,own b i= .r q j
def zcB(own:Own):Own:=fun b i=>match own b i with| .t _ _=> .fr| .d=> .fr|g=>g
theorem zaP(own:Own)(b i:Nat):(zcB own b i=own b i∧(own b i= .free∨own b i= .pr∨own b i= .fr∨ ∃q j,own b i= .r q j))∨(zcB own b i= .fr∧(own b i= .d∨ ∃t j,own b i= .t t j)):=by
 unfold zcB
 cases h:own b i with
 |free=>exact .inl ⟨rfl, .inl rfl⟩
 |pr=>exact .inl ⟨rfl, .inr (.inl rfl)⟩
 |fr=>exact .inl ⟨rfl, .inr (.inr (.inl rfl))⟩
 |d=>exact .inr ⟨rfl, .inl rfl⟩
 |t t j=>exact .inr ⟨rfl, .inr ⟨t,j,rfl⟩⟩
 |r q j=>exact .inl ⟨rfl, .inr (.inr (.inr ⟨q,j,rfl⟩))⟩
theorem zhc(own:Own):Flat (zcB own):=fun b i=>by
 rcases zaP own b i with⟨h1,h2⟩|⟨h1,_⟩
 ·rw[h1];exact h2
 ·exact .inr (.inr (.inl h1))
theorem zhd(own:Own):zbb own (zcB own) (fun g=>g= .pr∨ ∃q j,g= .r q j):=fun b i h=>by
 rcases zaP own b i with⟨h1,_⟩|⟨_,h2⟩
 ·exact h1
 ·exfalso
  rcases h2 with h2|⟨t,j,h2⟩<;>rw[h2]at h<;>rcases h with h|⟨_,_,h⟩<;>cases h
theorem Sto.toC(h:Sto P cfg base w own μ st):Sto P cfg base w (zcB own) μ st:=by
 refine⟨h.len,fun r x b hx hb=>(h.res r x b hx hb).tags (zhd own) (.inl rfl) (fun q j=> .inr ⟨q,j,rfl⟩),fun b i hb=>h.alloc b i fun e=>hb ?_,fun b i h1 h2 h3=> ?_,h.size⟩
 ·rcases zaP own b i with⟨h1,_⟩|⟨_,h2⟩
  ·rw[h1,e]
  ·rw[e]at h2;rcases h2 with h2|⟨_,_,h2⟩<;>cases h2
 ·rcases zaP own b i with⟨h4,_⟩|⟨h4,_⟩
  ·rw[h4]at h1 h2 h3;exact h.low b i h1 h2 h3
  ·exact absurd h4 h3
theorem VRep.toC{v:V}{c:Value}(h:VRep w (prOf own) μ v c):VRep w (prOf (zcB own)) μ v c:=h.tags (zhd own) (.inl rfl)
def zpq(own own':Own):Own:=fun b i=>match zcB own b i with| .fr=>own b i|_=>own' b i
theorem zaQ(hk: ∀b i,zcB own b i= .fr↔own' b i= .fr)(b i:Nat):(zpq own own' b i=own' b i∧own' b i≠ .fr∧zcB own b i≠ .fr)∨(zpq own own' b i=own b i∧own' b i= .fr∧zcB own b i= .fr):=by
 unfold zpq
 cases h:zcB own b i with
 |fr=>exact .inr ⟨rfl,(hk b i).1 h,rfl⟩
 |_=>exact .inl ⟨rfl,(fun e=>by rw[(hk b i).2 e]at h;cases h),by simp⟩
theorem zaR(hk: ∀b i,zcB own b i= .fr↔own' b i= .fr):zbb own' (zpq own own') (fun g=>g= .pr∨ ∃q j,g= .r q j):=fun b i h=>by
 rcases zaQ hk b i with⟨h1,_⟩|⟨_,h2,_⟩
 ·exact h1
 ·rw[h2]at h;rcases h with h|⟨_,_,h⟩<;>cases h
theorem zrb(hs:Sto P cfg base w own μ st)(hs':Sto P cfg base w' own' μ' st')(k:Keeps base w (zcB own) μ w' own' μ'):Step base w own μ w' (zpq own own') μ' (fun g=> ∃q j,g= .r q j):=by
 have hk:=k.fr
 refine⟨k.below,fun b i h=> ?_,fun b i h1 h2=> ?_,fun b i h=> ?_,fun b i h=> ?_,fun b i h1 h2 h3=> ?_,k.blk,fun b g h1 h2 h3 h4=> ?_,k.mu⟩
 ·have hc:zcB own b i= .pr:=by rw[zhd own b i (.inl h),h]
  obtain⟨h1,h2⟩:=k.pr b i hc
  exact⟨by rw[zaR hk b i (.inl h1),h1],h2⟩
 ·rcases zaP own b i with⟨e,hc⟩|⟨e,hc⟩
  ·rcases hc with hc|hc|hc|⟨q,j,hc⟩
   ·exact absurd hc h1
   ·have:=k.pr b i (e.trans hc)
    rw[zaR hk b i (.inl this.1),this.1,hc]
   ·rcases zaQ hk b i with⟨_,_,h5⟩|⟨h5,_⟩
    ·exact absurd (e.trans hc) h5
    ·exact h5
   ·exact absurd ⟨q,j,hc⟩ h2
  ·rcases zaQ hk b i with⟨_,_,h5⟩|⟨h5,_⟩
   ·exact absurd e h5
   ·exact h5
 ·rcases zaQ hk b i with⟨h5,h6,_⟩|⟨h5,_⟩
  ·rw[h5]at h;exact absurd h h6
  ·rw[←h5];exact h
 ·rcases zaQ hk b i with⟨h5,_⟩|⟨h5,_⟩
  ·rw[h5]at h;exact hs'.alloc b i h
  ·rw[h5]at h;exact Nat.lt_of_lt_of_le (hs.alloc b i h) k.below.size
 ·rcases zaQ hk b i with⟨h5,_⟩|⟨h5,_⟩
  ·rw[h5]at h1 h2 h3;exact hs'.low b i h1 h2 h3
  ·rw[h5]at h1 h2 h3;exact hs.low b i h1 h2 h3
 ·refine k.obj b fun i=> ?_
  have:=h1 i
  rcases zaP own b i with⟨e,hc⟩|⟨e,_⟩
  ·rcases hc with hc|hc|hc|⟨q,j,hc⟩
   ·exact absurd (this.symm.trans hc) h2
   ·exact absurd (this.symm.trans hc) h3
   ·exact e.trans hc
   ·exact absurd ⟨q,j,this.symm.trans hc⟩ h4
  ·exact e
theorem zji(h:Rel P cfg base n w own μ ρ st a)(hs':Sto P cfg base w' own' μ' st')(k:Keeps base w (zcB own) μ w' own' μ'):Rel P cfg base n w' (zpq own own') μ' ρ st' a∧Keeps base w own μ w' (zpq own own') μ':=by
 have s:=zrb h.sto hs' k
 refine⟨h.step s (by simp) hs'.len rfl rfl (fun q x b h1 h2=> .inr ?_) (fun t=> .inl ⟨rfl,rfl,by simp,Xl h t⟩),Yt s fun g ⟨q,j,e⟩=> .inr ⟨q,j,e⟩⟩
 exact(hs'.res q x b h1 h2).tags (zaR k.fr) (.inl rfl) (fun q j=> .inr ⟨q,j,rfl⟩)
def Args(w:World)(own:Own)(μ:List Nat)(args:List V)(cargs:Array Value):Prop:=args.length=cargs.size∧ ∀i,i<args.length→VRep w (prOf own) μ (args.getD i .undef) (cargs.getD i undef)
def QV(P:Program)(cfg:Cfg)(base:Nat)(w:World)(own:Own)(μ:List Nat)(x:Out×St)(e:Ending)(w':World):Prop:=
 ∃c own' μ',Sto P cfg base w' own' μ' x.2∧Keeps base w own μ w' own' μ'∧match x.1 with
  | .ret v=>e= .returned c∧VRep w' (prOf own') μ' v c
  | .panic v=>e= .panicked [{v:=c,recovered:=false}]∧VRep w' (prOf own') μ' v c
def Q2(P:Program)(cfg:Cfg)(call:Nat→List V→St→Option (Out×St)):Prop:=
 ∀(f:Nat) (args:List V) (st:St) (x:Out×St),call f args st=some x→(∃fn,P.funcs[f]? =some fn∧fn.body.isSome=true)∧
  ∀(n base:Nat) (w:World) (own:Own) (μ:List Nat) (cargs:Array Value),Sto P cfg base w own μ st→Flat own→Args w own μ args cargs→CallsIn Fence.wide n P f cargs w (QV P cfg base w own μ x)
def QG(P:Program)(cfg:Cfg)(round:Nat→Nat→Nat→List V→List V→St→Option (Bool×St)):Prop:=
 ∀(q f key:Nat) (vals args:List V) (st:St) (x:Bool×St),st[q]? =some (.loop f key vals .ready none)→round q f key vals args st=some x→
  ∀(n base b:Nat) (w:World) (own:Own) (μ:List Nat) (cargs:Array Value),Sto P cfg base w own μ st→μ[q]? =some b→Flat own→Args w own μ args cargs→
   ∃fn tmps assign body,(Instr.yield b cargs).run P w= .ok (.round b fn tmps assign body) w∧
    RoundIn Fence.wide n P b fn tmps assign body w (QV P cfg base w own μ (.ret (.bool x.1),x.2))
end
end Go.AM
namespace Go.AM
open Go Go.RowKit
section
variable{P:Program}{cfg:Cfg}{base n:Nat}{w w':World}{own own' own2:Own}{μ μ':List Nat}{ρ:Env}{st st':St}{a:Act}
variable{fid rid idx:Nat}{all:List Oper}{o:Oper}{R:Type}{r:R}{ro:Option Nat}
def wide(ro:Option Nat):Fence:={Fence.wide with round:=ro}
theorem zbc(ro:Option Nat):(wide ro).depth.isSome=true→1≤n:=by simp[wide,Fence.wide]
theorem zcC{f:FuncId}{args:Array Value}{R:Ending→World→Prop}(h:CallsIn Fence.wide n P f args w R):CallsIn (wide ro) n P f args w R:=h
theorem zpr{l:Nat}{f:FuncId}{tmps:Array Value}{x y:Code}{R:Ending→World→Prop}(h:RoundIn Fence.wide n P l f tmps x y w R):RoundIn (wide ro) n P l f tmps x y w R:=h
theorem zrc{nx:Next}(h:(execOp a.eval o).run P w= .ok nx w')(hn: ∀d,nx≠ .defer d): ∀c,o.op≠ .defer c:=by
 intro c hop
 simp only[execOp,hop,Sem.run_bind]at h
 cases hr:(resolve a.eval c o.type).run P w with
 |ok d w1=>rw[hr]at h;simp only[Result.andThen_ok]at h;cases h;exact hn _ rfl
 |halt x w1=>rw[hr]at h;simp[Result.andThen]at h
theorem zn2{m:Nat}(h:OpOK P cfg base n all w own μ o a (ρ) st){Kw:Act→World→Prop}{Q:Exit→Act→World→Prop}
  (hK: ∀a' w' own' μ',Rel P cfg base n w' own' μ' ρ st a'→Keeps base w own μ w' own' μ'→LP all ρ→Kw a' w'):o.wpIn (wide ro) m P a w Kw Q:=by
 obtain⟨nx,cv,w',own',μ',hrun,hnx,hR,hk,hlp⟩:=h.ok
 refine⟨fun f _=>trivial, ?_⟩
 have hnd:=zrc hrun (by rintro d rfl;rcases hnx with h|⟨h,_⟩<;>cases h)
 rw[Oper.semAt_eq _ _ _ hnd,hrun]
 rcases hnx with rfl|⟨rfl,rfl⟩
 ·exact hK _ _ _ _ hR hk hlp
 ·exact hK _ _ _ _ hR hk hlp
theorem zd2: ∀{ts:List TypeId} {vs:List V} {K:List V→Option R},Qm P ts vs K=some r→K vs=some r
 |[],vs,K,h=>by
  cases vs with
  |nil=>exact h
  |cons v vs=>simp[Qm,Zn]at h
 |t::ts,vs,K,h=>by
  cases vs with
  |nil=>simp[Qm,Zd]at h
  |cons v vs=>
   simp only[Qm,Zd]at h
   exact zd2 (K:=fun vs=>K (v::vs)) (YS h)
theorem zhK{t:TypeId}{v:V}{K:V→Option R}(h:coerce P t v K=some r):K v=some r:=by
 unfold coerce at h
 split at h
 ·obtain⟨vs,rfl,h⟩:=ziQ h
  exact zd2 h
 ·exact YS h
theorem za9{raw:Bool}{t:TypeId}{v:V}{K:V→Option R}(h:zel P raw t v K=some r):K v=some r:=by
 cases raw
 ·exact zhK h
 ·exact h
theorem Y8{α:Type}{x:Option α}{K:α→Option R}(h:Za x K=some r): ∃y,x=some y∧K y=some r:=by
 unfold Za at h
 split at h
 ·exact⟨_,rfl,h⟩
 ·cases h
def zff(own:Own):Own:=fun b i=>match own b i with| .t _ _=> .fr| .d=> .fr| .r _ _=> .fr|g=>g
theorem zaS(own:Own)(b i:Nat):(zff own b i=own b i∧(own b i= .free∨own b i= .pr∨own b i= .fr))∨(zff own b i= .fr∧(own b i= .d∨(∃t j,own b i= .t t j)∨ ∃q j,own b i= .r q j)):=by
 unfold zff
 cases h:own b i with
 |free=>exact .inl ⟨rfl, .inl rfl⟩
 |pr=>exact .inl ⟨rfl, .inr (.inl rfl)⟩
 |fr=>exact .inl ⟨rfl, .inr (.inr rfl)⟩
 |d=>exact .inr ⟨rfl, .inl rfl⟩
 |t t j=>exact .inr ⟨rfl, .inr (.inl ⟨t,j,rfl⟩)⟩
 |r q j=>exact .inr ⟨rfl, .inr (.inr ⟨q,j,rfl⟩)⟩
theorem zrd(own:Own):Flat (zff own):=fun b i=>by
 rcases zaS own b i with⟨h1,h2⟩|⟨h1,_⟩
 ·rw[h1];rcases h2 with h|h|h
  ·exact .inl h
  ·exact .inr (.inl h)
  ·exact .inr (.inr (.inl h))
 ·exact .inr (.inr (.inl h1))
theorem zq6(own:Own):zbb own (zff own) (fun g=>g= .pr):=fun b i h=>by
 rcases zaS own b i with⟨h1,_⟩|⟨_,h2⟩
 ·exact h1
 ·exfalso
  rcases h2 with h2|⟨_,_,h2⟩|⟨_,_,h2⟩<;>rw[h2]at h<;>cases h
theorem Sto.toP(h:Sto P cfg base w own μ st):Sto P cfg base w (zff own) [] []:=by
 refine⟨rfl,fun r x b hx=>by simp at hx,fun b i hb=>h.alloc b i fun e=>hb ?_,fun b i h1 h2 h3=> ?_,h.size⟩
 ·rcases zaS own b i with⟨h1,_⟩|⟨_,h2⟩
  ·rw[h1,e]
  ·rw[e]at h2;rcases h2 with h2|⟨_,_,h2⟩|⟨_,_,h2⟩<;>cases h2
 ·rcases zaS own b i with⟨h4,h5⟩|⟨h4,_⟩
  ·rw[h4]at h1 h2 h3;exact h.low b i h1 h2 h3
  ·exact absurd h4 h3
def zmi(own own':Own):Own:=fun b i=>match zff own b i with| .fr=>own b i|_=>(match own' b i with| .pr=> .pr|_=> .free)
theorem zaT(own own':Own)(b i:Nat):(zff own b i≠ .fr∧((own' b i= .pr∧zmi own own' b i= .pr)∨(own' b i≠ .pr∧zmi own own' b i= .free)))∨(zff own b i= .fr∧zmi own own' b i=own b i):=by
 unfold zmi
 cases h:zff own b i with
 |fr=>exact .inr ⟨rfl,rfl⟩
 |_=>
  left
  refine⟨by simp, ?_⟩
  cases h2:own' b i with
  |pr=>exact .inl ⟨rfl,rfl⟩
  |_=>exact .inr ⟨by simp,rfl⟩
theorem zre(h:Rel P cfg base n w own μ ρ st a){μ1:List Nat}{st1:St}(hs':Sto P cfg base w' own' μ1 st1)(k:Keeps base w (zff own) [] w' own' μ1):
  Rel P cfg base n w' (zmi own own') μ ρ st a∧Keeps base w own μ w' (zmi own own') μ∧ ∀v c,VRep w' (prOf own') [] v c→VRep w' (prOf (zmi own own')) μ v c:=by
 have hs:=h.sto
 have hpr: ∀b i,own' b i= .pr→zmi own own' b i= .pr:=fun b i e=>by
  rcases zaT own own' b i with⟨_,⟨_,h1⟩|⟨h1,_⟩⟩|⟨h1,_⟩
  ·exact h1
  ·exact absurd e h1
  ·have:=(k.fr b i).1 h1
   rw[e]at this;cases this
 have s:Step base w own μ w' (zmi own own') μ (fun _=>False):=by
  refine⟨k.below,fun b i e=> ?_,fun b i h1 _=> ?_,fun b i e=> ?_,fun b i e=> ?_,fun b i h1 h2 h3=> ?_,k.blk,fun b g h1 h2 h3 _=> ?_,[],by simp⟩
  ·have hc:zff own b i= .pr:=by rw[zq6 own b i e,e]
   obtain⟨h1,h2⟩:=k.pr b i hc
   exact⟨hpr b i h1,h2⟩
  ·rcases zaS own b i with⟨e,hc⟩|⟨e,hc⟩
   ·rcases hc with hc|hc|hc
    ·exact absurd hc h1
    ·have:=k.pr b i (e.trans hc)
     rw[hpr b i this.1,hc]
    ·rcases zaT own own' b i with⟨h5,_⟩|⟨_,h5⟩
     ·exact absurd (e.trans hc) h5
     ·exact h5
   ·rcases zaT own own' b i with⟨h5,_⟩|⟨_,h5⟩
    ·exact absurd e h5
    ·exact h5
  ·rcases zaT own own' b i with⟨_,⟨_,h1⟩|⟨_,h1⟩⟩|⟨_,h1⟩
   ·rw[h1]at e;cases e
   ·rw[h1]at e;cases e
   ·rw[←h1];exact e
  ·rcases zaT own own' b i with⟨_,⟨h0,h1⟩|⟨_,h1⟩⟩|⟨_,h1⟩
   ·exact hs'.alloc b i (by rw[h0];simp)
   ·exact absurd h1 e
   ·rw[h1]at e;exact Nat.lt_of_lt_of_le (hs.alloc b i e) k.below.size
  ·rcases zaT own own' b i with⟨_,⟨_,h4⟩|⟨_,h4⟩⟩|⟨_,h4⟩
   ·exact absurd h4 h2
   ·exact absurd h4 h1
   ·rw[h4]at h1 h2 h3;exact hs.low b i h1 h2 h3
  ·refine k.obj b fun i=> ?_
   have:=h1 i
   rcases zaS own b i with⟨e,hc⟩|⟨e,_⟩
   ·rcases hc with hc|hc|hc
    ·exact absurd (this.symm.trans hc) h2
    ·exact absurd (this.symm.trans hc) h3
    ·exact e.trans hc
   ·exact e
 exact⟨h.same s,s.keeps fun h=>h,fun v c hv=>hv.mono (fun b i e=>⟨hpr b i e,rfl⟩) fun r b hb=>by simp at hb⟩
def GrowAt(P:Program)(g:Nat)(e:TypeId):Prop:=
 (∃fn,P.funcs[g]? =some fn∧fn.body.isSome=true)∧ ∀(k:Nat) (w:World) (i:TypeInfo),P.info? e=some i→0<i.size→0<i.bytes→k*i.bytes≤140737488355328→
  Calls P g #[.slice none 0 0, .int .i64 k] w fun ed w'=>(ed= .returned (.slice none 0 0)∧w'=w)∨ ∃cap ccs,ed= .returned (.slice (some ⟨w.heap.size,0,none⟩) 0 cap)∧w'=w.drew.alloc (.cells ccs e (0,0))∧ccs.size=cap*i.size
structure PlainNames(P:Program):Prop where
 names: ∀(f:Nat) (fn:Func),P.funcs[f]? =some fn→fn.name≠ "runtime.NumGoroutine"
 grow: ∀(g:Nat) (e:TypeId),growElem P g=some e→GrowAt P g e
theorem zaA(hP:PlainNames P){g:Nat}(hg: ∃fn,P.funcs[g]? =some fn∧fn.body.isSome=true)(args:Array Value):(callFunc g args).run P w= .ok (.enter g args) w:=by
 obtain⟨fn,hf,hb⟩:=hg
 have hn:=hP.names g fn hf
 obtain⟨c,hc⟩:=Option.isSome_iff_exists.1 hb
 simp[callFunc,program,Sem.run,hf,hn,hc,Bind.bind,Sem.bind,pure]
theorem zs8{ρ':Env}(h:Pre P cfg base n all w own μ ρ st a o){tk:Bool}{xs:List Operand}{as_:Array Operand}(hx: ∀x∈as_.toList,x∈xs){ts:Array TypeId}(hl:as_.size=ts.size):
  Args w (Yy own ρ xs) μ (List.zipWith (fun x t=>plainAs P t (rd ρ tk x)) as_.toList ts.toList) (as_.map a.eval):=by
 refine⟨by simp[hl],fun i hi=> ?_⟩
 have hi1:i<as_.size:=by simp at hi;omega
 have hi2:i<ts.size:=by omega
 have:=(Z0 h tk (xs:=xs) (x:=as_[i]) (hx _ (by simp))).plainAs (P:=P) (t:=ts[i])
 simpa[List.getD_eq_getElem?_getD,Array.getD_eq_getD_getElem?,List.getElem?_zipWith,hi1,hi2]using this
theorem Args.app{xs ys:List V}{cx cy:Array Value}(h1:Args w own μ xs cx)(h2:Args w own μ ys cy):Args w own μ (xs++ys) (cx++cy):=by
 refine⟨by simp[h1.1,h2.1],fun i hi=> ?_⟩
 simp only[List.length_append]at hi
 rw[List.getD_eq_getElem?_getD,Array.getD_eq_getD_getElem?]
 rcases Nat.lt_or_ge i xs.length with h|h
 ·rw[List.getElem?_append_left h,Array.getElem?_append_left (by rw[←h1.1];exact h),←List.getD_eq_getElem?_getD,←Array.getD_eq_getD_getElem?]
  exact h1.2 i h
 ·rw[List.getElem?_append_right h,Array.getElem?_append_right (by rw[←h1.1];exact h),←List.getD_eq_getElem?_getD,←Array.getD_eq_getD_getElem?,←h1.1]
  exact h2.2 _ (by omega)
theorem Args.mono{xs:List V}{cx:Array Value}(h:Args w own μ xs cx)(hv: ∀v c,VRep w (prOf own) μ v c→VRep w' (prOf own') μ' v c):Args w' own' μ' xs cx:=⟨h.1,fun i hi=>hv _ _ (h.2 i hi)⟩
end
end Go.AM
namespace Go.AM
open Go Go.RowKit
section
variable{P:Program}{cfg:Cfg}{base n:Nat}{w w':World}{own own' own2:Own}{μ μ':List Nat}{ρ:Env}{st st':St}{a:Act}
variable{fid rid idx:Nat}{all:List Oper}{o:Oper}{R:Type}{r:R}{ro:Option Nat}{O:Oracle}
theorem zfU(h:Pre P cfg base n all w own μ ρ st a o){tk:Bool}{xs:List Operand}{Kw:Act→World→Prop}{Q:Exit→Act→World→Prop}{K:List (Nat×V)→St→Option R}{Kx:V→St→Option R}
  (hK: ∀us st' a' w' own' μ',K us st'=some r→Rel P cfg base n w' own' μ' (ρ.apply us) st' a'→Keeps base w own μ w' own' μ'→LP all (ρ.apply us)→Kw a' w')
  {own1:Own} {v:V} {c:Value} (hR:Rel P cfg base n w' own1 μ' (ρ.apply (upds ρ tk xs)) st' a) (hk:Keeps base w own μ w' own1 μ') (hv:VRep w' (prOf own1) μ' v c)
  (hf:K (upds ρ tk xs++ZL o.dst v) st'=some r):Kw (a.put o.dst c) w':=by
 have hlp:=h.lp.read tk xs
 cases hd:o.dst with
 |none=>
  rw[hd]at hf
  refine hK _ _ _ _ _ _ hf ?_ hk ?_
  ·rw[ZT];exact hR
  ·rw[ZT];exact hlp
 |some d=>
  rw[hd]at hf
  refine hK _ _ _ _ _ _ hf ?_ hk ?_
  ·rw[ZT];exact hR.put d (h.dst d hd) (Qc (h.noPtr hd) tk xs) hv
  ·rw[ZT];exact hlp.set h.mem hd v
theorem zfV{c:Call}{f:Operand}(hop:o.op= .call c)(hc:c.callee= .value f){d:Deferred}{nx:Next}(hd:(Deferred.ofValue (a.eval f) (c.args.map a.eval)).run P w= .ok d w)(hn:(invoke d.target d.args).run P w= .ok nx w):
  (o.semAt ro a.eval).run P w= .ok nx w:=by
 rw[Oper.semAt_eq _ _ _ (by intro c' h';rw[hop]at h';cases h')]
 simp only[execOp,hop,resolve,hc,Sem.run_bind,hd,Result.andThen_ok,hn]
def Wk(v v':V):Prop:= ∀(w:World) (pr:Nat→Nat→Prop) (μ:List Nat) (c:Value),VRep w pr μ v c→VRep w pr μ v' c
theorem Wk.refl(v:V):Wk v v:=fun _ _ _ _ h=>h
theorem Wk.clean(v:V):Wk v (Zs v):=fun w pr μ c h=>by
 cases v with
 |agg cs=>
  cases h with
  |agg _ ccs hl h1 hc=>exact zfc (.agg cs ccs hl h1 hc)
 |vec m sh es=>cases m<;>exact h.plain1
 |_=>exact h.plain1
theorem zq7(hP:PlainNames P)(hC:Q2 P cfg O.call)(h:Pre P cfg base n all w own μ ρ st a o){c:Call}{f:Operand}(hop:o.op= .call c)(hc:c.callee= .value f){tk:Bool}{xs:List Operand}
  {g:Nat} {cf cc:Array Value} (hev:a.eval f= .func (.func g) cf cc) {args:List V} (hargs:Args w (Yy own ρ xs) μ args (cf++c.args.map a.eval++cc)) {Kw:Act→World→Prop} {Q:Exit→Act→World→Prop} {K:List (Nat×V)→St→Option R} {Kx:V→St→Option R} {m:Nat}
  (hK: ∀us st' a' w' own' μ',K us st'=some r→Rel P cfg base n w' own' μ' (ρ.apply us) st' a'→Keeps base w own μ w' own' μ'→LP all (ρ.apply us)→Kw a' w')
  (hX: ∀v c st' ρ' w' own' μ',Kx v st'=some r→Rel P cfg base n w' own' μ' ρ' st' a→Keeps base w own μ w' own' μ'→VRep w' (prOf own') μ' v c→Q (.panic [{v:=c,recovered:=false}]) a w')
  {fin:V→St→Option R} (hfin: ∀v st',fin v st'=some r→ ∃v',Wk v v'∧K (upds ρ tk xs++ZL o.dst v') st'=some r)
  {pan:Bool} (hcall:bc (cfg.pure g) (Za (Zj O g args) fun v=>fin v st)
   (Za (O.call g args st) fun x=>Zx x.1 (fun v=>fin v x.2) fun p=>bc pan (Kx p x.2) none)=some r):
  o.wpIn (wide ro) m P a w Kw Q:=by
 obtain⟨hr,hs1,_⟩:=h.rel.read tk xs
 have hk1:=Z8 hs1
 refine⟨fun f _=>trivial, ?_⟩
 have hrun:(∃fn,P.funcs[g]? =some fn∧fn.body.isSome=true)→(o.semAt (wide ro).round a.eval).run P w= .ok (.enter g (cf++c.args.map a.eval++cc)) w:=by
  intro hg
  refine zfV hop hc (d:={target:= .fn (.func g) cc,args:=cf++c.args.map a.eval}) (by rw[hev];rfl) ?_
  exact zaA hP hg _
 rcases Yn hcall with⟨_,hcall⟩|⟨_,hcall⟩
 ·obtain⟨v,hp,hcall⟩:=Y8 hcall
  unfold Zj at hp
  obtain⟨hb,hp⟩:=Zh hp
  obtain⟨x,hx,hp⟩:=Y8 hp
  obtain⟨hg,hcalls⟩:=hC g args [] x hx
  rw[hrun hg]
  refine⟨zbc ro,zcC ?_⟩
  have hA:Args w (zff (Yy own ρ xs)) [] args (cf++c.args.map a.eval++cc):=by
   refine⟨hargs.1,fun i hi=> ?_⟩
   have h1:=(hargs.2 i hi).cut (n:=0) (YV hb i hi)
   rw[List.take_zero]at h1
   exact h1.tags (zq6 _) rfl
  refine(hcalls (m-1) base w (zff (Yy own ρ xs)) [] _ hr.sto.toP (zrd _) hA).mono fun e w'' hpost=> ?_
  obtain⟨cv,own2,μ2,h1,h2,h3⟩:=hpost
  obtain⟨out,st2⟩:=x
  cases out with
  |panic p=>simp[Zx]at hp
  |ret v'=>
   simp only[Zx]at hp
   obtain⟨hb2,hp⟩:=Zh hp
   cases hp
   obtain⟨rfl,hv⟩:=h3
   obtain⟨k1,k2,k3⟩:=zre hr h1 h2
   have hv':=hv.cut (n:=0) hb2
   rw[List.take_zero]at hv'
   obtain⟨u,hu,hcall⟩:=hfin _ _ hcall
   exact zfU h (Kx:=Kx) (Q:=Q) hK k1 (hk1.trans k2) (hu _ _ _ _ (k3 _ _ hv')) hcall
 ·obtain⟨x,hx,hcall⟩:=Y8 hcall
  obtain⟨hg,hcalls⟩:=hC g args st x hx
  rw[hrun hg]
  refine⟨zbc ro,zcC ?_⟩
  refine(hcalls (m-1) base w (zcB (Yy own ρ xs)) μ _ hr.sto.toC (zhc _) (hargs.mono fun v c hv=>hv.toC)).mono fun e w'' hpost=> ?_
  obtain⟨cv,own2,μ2,h1,h2,h3⟩:=hpost
  obtain⟨k1,k2⟩:=zji hr h1 h2
  obtain⟨out,st2⟩:=x
  cases out with
  |panic p=>
   simp only[Zx]at hcall
   rcases Yn hcall with⟨_,hcall⟩|⟨_,hcall⟩
   ·obtain⟨rfl,hv⟩:=h3
    exact hX _ _ _ _ _ _ _ hcall k1 (hk1.trans k2) (hv.tags (zaR h2.fr) (.inl rfl))
   ·cases hcall
  |ret v=>
   simp only[Zx]at hcall
   obtain⟨rfl,hv⟩:=h3
   obtain⟨u,hu,hcall⟩:=hfin _ _ hcall
   exact zfU h (Kx:=Kx) (Q:=Q) hK k1 (hk1.trans k2) (hu _ _ _ _ (hv.tags (zaR h2.fr) (.inl rfl))) hcall
theorem zs9{pr:Nat→Nat→Prop}{g:Nat}{fi ca:List V}{c:Value}(h:VRep w pr μ (.fn g fi ca) c): ∃cf cc,c= .func (.func g) cf cc∧(fi.length=cf.size∧ ∀i,i<fi.length→VRep w pr μ (fi.getD i .undef) (cf.getD i undef))∧(ca.length=cc.size∧ ∀i,i<ca.length→VRep w pr μ (ca.getD i .undef) (cc.getD i undef)):=by
 cases h with
 |fn _ _ _ cf cc hf hc h1 h2=>exact⟨cf,cc,rfl,⟨hf,h1⟩,⟨hc,h2⟩⟩
theorem XV{x:Res}{K:Nat→Nat→List V→LSt→Option Ex→Option R}(h:ZX x K=some r): ∃f k vs s p,x= .loop f k vs s p∧K f k vs s p=some r:=by
 cases x<;>simp[ZX]at h
 exact⟨_,_,_,_,_,rfl,h⟩
theorem zsA{fn:Func}(h:fn.name= "internal/bytealg.IndexByteString"):Extern.find fn=some Extern.BytealgIndexByte.indexByte:=by
 have h1:Extern.allGenericRows.lookup "internal/bytealg.IndexByteString" =none:=by kernel_rfl
 have h2:Extern.allTypedRows.lookup "internal/bytealg.IndexByteString" =none:=by kernel_rfl
 have h3:Extern.allRows.lookup "internal/bytealg.IndexByteString" =some Extern.BytealgIndexByte.indexByte:=by kernel_rfl
 unfold Extern.find
 rw[h]
 simp only[h1,h2,h3]
 rfl
theorem zn3(hP:PlainNames P)(h:Pre P cfg base n all w own μ ρ st a o){c:Call}{g:Nat}(hop:o.op= .call c)(hc:c.callee= .value (.func g)){tk:Bool}{xs:List Operand}
  {args:List V} (hargs:Args w (Yy own ρ xs) μ args (c.args.map a.eval)) {Kw:Act→World→Prop} {Q:Exit→Act→World→Prop} {K:List (Nat×V)→St→Option R} {m:Nat}
  (hK: ∀us st' a' w' own' μ',K us st'=some r→Rel P cfg base n w' own' μ' (ρ.apply us) st' a'→Keeps base w own μ w' own' μ'→LP all (ρ.apply us)→Kw a' w')
  {v:V} (hv:zlL P g args=some v) (hcall:K (upds ρ tk xs++ZL o.dst v) st=some r):
  o.wpIn (wide ro) m P a w Kw Q:=by
 obtain⟨hr,hs1,_⟩:=h.rel.read tk xs
 have hk1:=Z8 hs1
 unfold zlL at hv
 split at hv
 ·rename_i fn hfn
  obtain⟨hb,hv⟩:=Zh hv
  simp only[Bool.and_eq_true,beq_iff_eq,Option.isNone_iff_eq_none]at hb
  obtain⟨⟨hb,hn⟩,hname⟩:=hb
  split at hv
  ·rename_i s z _
   cases hv
   have hcargs:c.args.map a.eval= #[.string s, .int .u8 z]:=by
    obtain⟨h1,h2⟩:=hargs
    have e0:=VRep.str_inv (h2 0 (by simp))
    have e1:=VRep.ik_inv (h2 1 (by simp))
    apply Array.ext
    ·simpa using h1.symm
    ·intro i hi _
     have hi2:i<2:=by rw[←h1]at hi;simpa using hi
     match i,hi2 with
     |0,_=>rw[Array.getD_eq_getD_getElem?,Array.getElem?_eq_getElem hi]at e0;simpa using e0
     |1,_=>rw[Array.getD_eq_getD_getElem?,Array.getElem?_eq_getElem hi]at e1;simpa using e1
   refine⟨fun f _=>trivial, ?_⟩
   have hrun:(o.semAt (wide ro).round a.eval).run P w= .ok (.value (.int .i64 (firstIdx s z.toNat.toUInt8))) w:=by
    refine zfV hop hc (d:={target:= .fn (.func g) #[],args:= #[]++c.args.map a.eval}) rfl ?_
    have:=run_callFunc_extern (P:=P) hfn (by have:=hP.names g fn hfn;simpa using this) (by rw[hb];rfl) hn (zsA hname) (c.args.map a.eval) w
    rw[hcargs,run_indexByte_string]at this
    simp only[Array.empty_append,hcargs]
    exact this
   rw[hrun]
   exact zfU h (Kx:=fun _ _=>none) (Q:=Q) hK hr hk1 (.int _) hcall
  ·cases hv
 ·cases hv
theorem zrf(hP:PlainNames P)(h:Pre P cfg base n all w own μ ρ st a o){c:Call}{g:Nat}(hop:o.op= .call c)(hc:c.callee= .value (.func g)){tk:Bool}{e:TypeId}{x:Operand}(hg:zcb P g c=some (e,x)){k:Int}(hx:rd ρ tk x= .int k)
  (h0:0≤k) (hroom:roomFor P e k.toNat=true) (hok:okTy P e=true) (hsz:0<(shOf P e).sz) (hd:o.dst.isSome=true) {Kw:Act→World→Prop} {Q:Exit→Act→World→Prop} {K:List (Nat×V)→St→Option R} {m:Nat}
  (hK: ∀us st' a' w' own' μ',K us st'=some r→Rel P cfg base n w' own' μ' (ρ.apply us) st' a'→Keeps base w own μ w' own' μ'→LP all (ρ.apply us)→Kw a' w')
  (hcall:K (upds ρ tk (.func g::c.args.toList)++ZL o.dst (.vec .grow (shOf P e) [])) st=some r):o.wpIn (wide ro) m P a w Kw Q:=by
 obtain⟨hr,hs1,_⟩:=h.rel.read tk (.func g::c.args.toList)
 have hk1:=Z8 hs1
 unfold zcb at hg
 split at hg
 ·rename_i y hargs
  obtain⟨e',he,hg⟩:=Option.map_eq_some_iff.1 hg
  simp only[Prod.mk.injEq]at hg
  obtain⟨rfl,rfl⟩:=hg
  have hX:=VRep.int_inv ((hx▸Z0 h tk (xs:= .func g::c.args.toList) (x:=y) (by simp[hargs])).val (by simp))
  obtain⟨hgb,hgrow⟩:=hP.grow g e' he
  have hmap:c.args.map a.eval= #[.slice none 0 0, .int .i64 k]:=by
   apply Array.toList_inj.1
   simp only[Array.toList_map,hargs,List.map_cons,List.map_nil,hX]
   rfl
  obtain⟨d,hd'⟩:=Option.isSome_iff_exists.1 hd
  refine⟨fun f _=>trivial, ?_⟩
  have hrun:(o.semAt (wide ro).round a.eval).run P w= .ok (.enter g #[.slice none 0 0, .int .i64 k]) w:=by
   refine zfV hop hc (d:={target:= .fn (.func g) #[],args:= #[]++c.args.map a.eval}) rfl ?_
   rw[hmap]
   have:=zaA (w:=w) hP hgb #[.slice none 0 0, .int .i64 k]
   simpa[invoke]using this
  rw[hrun]
  refine⟨zbc ro,zcC (callsIn_wide.2 ?_)⟩
  obtain⟨i,hi⟩: ∃i,P.info? e'=some i:=by
   unfold okTy at hok
   simp only[Bool.and_eq_true]at hok
   exact Option.isSome_iff_exists.1 hok.1.1.2
  have hisz:i.size=(shOf P e').sz:=by
   unfold okTy at hok
   simp only[Bool.and_eq_true,beq_iff_eq]at hok
   have:=hok.1.2
   rw[hi]at this
   simpa using this
  unfold roomFor at hroom
  rw[hi]at hroom
  simp only[Option.map_some,Option.getD_some,Bool.and_eq_true,decide_eq_true_eq]at hroom
  have hkk:((k.toNat:Nat):Int)=k:=by omega
  have hcl:=hgrow k.toNat w i hi (by rw[hisz];exact hsz) hroom.2 (by
   have:k.toNat*(2*i.bytes)=2*(k.toNat*i.bytes):=by rw[Nat.mul_left_comm]
   have h1:=hroom.1
   rw[this]at h1
   omega)
  rw[hkk]at hcl
  have hput: ∀{w':World} {own1:Own} {cv:Value},Rel P cfg base n w' own1 μ (ρ.apply (upds ρ tk (.func g::c.args.toList))) st a→Keeps base w own μ w' own1 μ→GRep w' own1 μ (.t d 0) (shOf P e') [] cv→Kw (a.put o.dst cv) w':=by
   intro w' own1 cv hR hk hG
   rw[hd']at hcall⊢
   refine hK _ _ _ _ _ _ hcall ?_ hk ?_
   ·rw[ZT]
    exact hR.put_any d (h.dst d hd') (Qc (h.noPtr hd') tk _) (by simp) fun _ _=>hG
   ·rw[ZT]
    exact(h.lp.read tk _).set h.mem hd' _
  refine hcl.mono fun ed w' hpost=> ?_
  rcases hpost with⟨rfl,rfl⟩|⟨cap,ccs,rfl,rfl,hsize⟩
  ·exact hput hr hk1 ⟨none,0,rfl,Nat.le_refl _, .inl ⟨rfl,rfl⟩⟩
  ·have hst:=zhJ (w:=w) hr.sto ccs e' (fun _=> .t d 0) (fun i=>by simp)
   have hG:=znt (g:= .t d 0) (pr:=prOf own) (w':=(drawn w (w.drawn+1)).alloc (.cells ccs e')) (ty:=e') (own':=JI (Yy own ρ (.func g::c.args.toList)) w.heap.size fun _=> .t d 0) (μ:=μ) (cap:=cap) (C:=ccs) (b:=w.heap.size) (es:=[]) (cells:=[]) (sh:=shOf P e')
    ⟨by simp,fun i hi=>absurd hi (by simp),fun i j hi=>absurd hi (by simp)⟩
    (World.alloc_heap_new (drawn w (w.drawn+1)) _) (fun j hj=>by simp at hj) (Nat.zero_le _) (by rw[hsize,hisz];exact Nat.le_refl _) (fun j hj=>by simp at hj) (fun j hj=>by
     simp only[JI]
     rw[if_pos trivial])
   exact hput (hr.same hst) (hk1.trans (hst.keeps fun h=>h)) hG
 ·cases hg
theorem zrg(hP:PlainNames P)(hC:Q2 P cfg O.call)(hRd:QG P cfg O.round)(h:Pre P cfg base n all w own μ ρ st a o){c:Call}{f:Operand}(hop:o.op= .call c)(hc:c.callee= .value f){Kw:Act→World→Prop}{Q:Exit→Act→World→Prop}
  {K:List (Nat×V)→St→Option R} {Kx:V→St→Option R} {m:Nat}
  (hK: ∀us st' a' w' own' μ',K us st'=some r→Rel P cfg base n w' own' μ' (ρ.apply us) st' a'→Keeps base w own μ w' own' μ'→LP all (ρ.apply us)→Kw a' w')
  (hX: ∀v c st' ρ' w' own' μ',Kx v st'=some r→Rel P cfg base n w' own' μ' ρ' st' a→Keeps base w own μ w' own' μ'→VRep w' (prOf own') μ' v c→Q (.panic [{v:=c,recovered:=false}]) a w')
  (hcall:Qa P cfg O fid rid idx o c f ρ st K Kx=some r):o.wpIn (wide ro) m P a w Kw Q:=by
 unfold Qa at hcall
 obtain⟨hl,hcall⟩:=Zh hcall
 have hl:=of_decide_eq_true hl
 have hargs:=zs8 (ρ':=ρ) h (tk:=cfg.take fid rid idx) (xs:=f::c.args.toList) (as_:=c.args) (fun x hx=>List.mem_cons_of_mem _ hx) hl
 split at hcall
 ·rename_i g _
  split at hcall
  ·rename_i e x hgc
   obtain⟨k,hk,hcall⟩:=YH hcall
   obtain⟨hb,hcall⟩:=Zh hcall
   simp only[Bool.and_eq_true,decide_eq_true_eq]at hb
   exact zrf hP h hop hc hgc hk hb.1.1.1.1 hb.1.1.1.2 hb.1.1.2 hb.1.2 hb.2 hK hcall
  rcases Yn hcall with⟨_,hcall⟩|⟨_,hcall⟩
  ·obtain⟨v,hv,hcall⟩:=Y8 hcall
   exact zn3 hP h hop hc (tk:=cfg.take fid rid idx) (xs:= .func g::c.args.toList) hargs hK hv (za9 (K:=fun v=>K (upds ρ (cfg.take fid rid idx) (.func g::c.args.toList)++ZL o.dst v) st) hcall)
  ·exact zq7 hP hC h hop hc (tk:=cfg.take fid rid idx) (xs:= .func g::c.args.toList) (g:=g) (cf:= #[]) (cc:= #[]) rfl (by simpa using hargs) hK hX
    (fin:=fun v st=>bc (cfg.room g) (bc (cfg.take fid rid idx) (zcx P (zmZ P g) o.type v fun v=>K (upds ρ (cfg.take fid rid idx) (.func g::c.args.toList)++ZL o.dst v) st) (coerce P o.type (Zs v) fun v=>K (upds ρ (cfg.take fid rid idx) (.func g::c.args.toList)++ZL o.dst v) st)) (zel P (cfg.take fid rid (idx+1000)) o.type v fun v=>K (upds ρ (cfg.take fid rid idx) (.func g::c.args.toList)++ZL o.dst v) st))
    (fun v st' hf=>by
     rcases Yn hf with⟨_,hf⟩|⟨_,hf⟩
     ·rcases Yn hf with⟨_,hf⟩|⟨_,hf⟩
      ·exact⟨v, .refl v,zlO (K:=fun v=>K (upds ρ (cfg.take fid rid idx) (.func g::c.args.toList)++ZL o.dst v) st') hf⟩
      ·exact⟨_, .clean v,zhK (K:=fun v=>K (upds ρ (cfg.take fid rid idx) (.func g::c.args.toList)++ZL o.dst v) st') hf⟩
     ·exact⟨v, .refl v,za9 (K:=fun v=>K (upds ρ (cfg.take fid rid idx) (.func g::c.args.toList)++ZL o.dst v) st') hf⟩) hcall
 ·rw[zeq]at hcall
  obtain⟨x,hx,hcall⟩:=Y8 hcall
  have hF:=Z0 h (cfg.take fid rid idx) (xs:=f::c.args.toList) (x:=f) (by simp)
  unfold zdr at hx
  split at hx
  ·rename_i g first cap hv
   rw[hv]at hF
   obtain⟨cf,cc,hev,h1,h2⟩:=zs9 (hF.val (by simp))
   refine zq7 hP hC h hop hc (tk:=cfg.take fid rid idx) (xs:=f::c.args.toList) (args:=first++List.zipWith (fun x t=>plainAs P t (rd ρ (cfg.take fid rid idx) x)) c.args.toList c.argTypes.toList++cap) hev ((Args.app h1 hargs).app h2) hK hX (pan:=cfg.pan fid) (fin:=fun v st=>zel P (cfg.take fid rid (idx+1000)) o.type v fun v=>K (upds ρ (cfg.take fid rid idx) (f::c.args.toList)++ZL o.dst v) st)
    (fun v st' hf=>⟨v, .refl v,za9 (K:=fun v=>K (upds ρ (cfg.take fid rid idx) (f::c.args.toList)++ZL o.dst v) st') hf⟩) ?_
   rcases Yn hx with⟨hp,hx⟩|⟨hp,hx⟩
   ·obtain⟨v,hpc,hx⟩:=Y8 hx
    cases hx
    rw[hp,hpc]
    exact hcall
   ·rw[hp,hx]
    exact hcall
  ·rename_i l hv
   rw[hv]at hF
   have hF:=hF.val (by simp)
   obtain⟨y,hst,hx⟩:=Yd hx
   obtain⟨lf,key,vals,s,p,rfl,hx2⟩:=XV hx
   split at hx2
   ·obtain⟨y,hy,hx3⟩:=Y8 hx2
    cases hx3
    obtain⟨hr,hs1,_⟩:=h.rel.read (cfg.take fid rid idx) (f::c.args.toList)
    have hk1:=Z8 hs1
    generalize hev:a.eval f=cv at hF
    cases hF with
    |yld _ b hb=>
     obtain⟨fn,tmps,assign,body,hyr,hround⟩:=hRd l lf key vals _ st y hst hy (m-1) base b w (zcB (Yy own ρ (f::c.args.toList))) μ _ hr.sto.toC hb (zhc _) (hargs.mono fun v c hv=>hv.toC)
     refine⟨fun f _=>trivial, ?_⟩
     have hrun:(o.semAt (wide ro).round a.eval).run P w= .ok (.round b fn tmps assign body) w:=by
      refine zfV hop hc (d:={target:= .fn (.yield b) #[],args:= #[]++c.args.map a.eval}) (by rw[hev];rfl) ?_
      simp only[Array.empty_append]
      exact hyr
     rw[hrun]
     refine⟨zbc ro,zpr (hround.mono fun e w'' hpost=> ?_)⟩
     obtain⟨cv,own2,μ2,h1,h2,h3⟩:=hpost
     obtain⟨k1,k2⟩:=zji hr h1 h2
     obtain⟨rfl,hv⟩:=h3
     exact zfU h (Kx:=Kx) (Q:=Q) hK k1 (hk1.trans k2) (hv.tags (zaR h2.fr) (.inl rfl)) (za9 (K:=fun v=>K (upds ρ (cfg.take fid rid idx) (f::c.args.toList)++ZL o.dst v) _) hcall)
   ·cases hx2
  ·cases hx
end
end Go.AM
namespace Go.AM
open Go Go.RowKit
section
variable{P:Program}{cfg:Cfg}{base n:Nat}{w w':World}{own own' own2:Own}{μ μ':List Nat}{ρ:Env}{st st':St}{a:Act}
variable{fid rid idx:Nat}{all:List Oper}{o:Oper}{R:Type}{r:R}{ro:Option Nat}{O:Oracle}
theorem zfW(hP:PlainNames P)(hC:Q2 P cfg O.call)(hRd:QG P cfg O.round)(h:Pre P cfg base n all w own μ ρ st a o){Kw:Act→World→Prop}{Q:Exit→Act→World→Prop}
  {K:List (Nat×V)→St→Option R} {Kx:V→St→Option R} {m:Nat}
  (hK: ∀us st' a' w' own' μ',K us st'=some r→Rel P cfg base n w' own' μ' (ρ.apply us) st' a'→Keeps base w own μ w' own' μ'→LP all (ρ.apply us)→Kw a' w')
  (hX: ∀v c st' ρ' w' own' μ',Kx v st'=some r→Rel P cfg base n w' own' μ' ρ' st' a→Keeps base w own μ w' own' μ'→VRep w' (prOf own') μ' v c→Q (.panic [{v:=c,recovered:=false}]) a w')
  (hrun:XB P cfg O fid rid idx o ρ st K Kx=some r):o.wpIn (wide ro) m P a w Kw Q:=by
 unfold XB at hrun
 split at hrun
 ·rename_i x hop
  split at hrun
  ·rename_i t v hv
   obtain⟨hr,hs1,_⟩:=h.rel.read false [x]
   have hV:=(hv▸Z0 h false (xs:=[x]) (x:=x) (by simp)).val (by simp)
   refine⟨fun f _=>trivial, ?_⟩
   rw[Oper.semAt_eq _ _ _ (by intro c' h';rw[hop]at h';cases h')]
   cases hev:a.eval x with
   |iface t' c=>
    have:(execOp a.eval o).run P w= .halt (.panic (.iface t' c)) w:=by
     simp only[execOp,hop,hev,Instr.panic,goPanic]
     rfl
    rw[this]
    rw[hev]at hV
    exact hX _ _ _ _ _ _ _ hrun hr (Z8 hs1) hV
   |_=>rw[hev]at hV;cases hV
  ·cases hrun
 ·rename_i f args argTypes hop
  exact zrg hP hC hRd h hop rfl hK hX hrun
 ·obtain⟨us,hus,hok⟩:=zle h hrun
  exact zn2 hok fun a' w' own' μ' h1 h2 h3=>hK _ _ _ _ _ _ hus h1 h2 h3
 ·obtain⟨us,hus,hok⟩:=zle h hrun
  exact zn2 hok fun a' w' own' μ' h1 h2 h3=>hK _ _ _ _ _ _ hus h1 h2 h3
 ·split at hrun
  ·obtain⟨us,hus,hok⟩:=zqT h hrun
   exact zn2 hok fun a' w' own' μ' h1 h2 h3=>hK _ _ _ _ _ _ hus h1 h2 h3
  ·obtain⟨us,hus,hok⟩:=zqX h hrun
   exact zn2 hok fun a' w' own' μ' h1 h2 h3=>hK _ _ _ _ _ _ hus h1 h2 h3
  ·obtain⟨us,st',hus,hok⟩:=zpp h hrun
   exact zn2 hok fun a' w' own' μ' h1 h2 h3=>hK _ _ _ _ _ _ hus h1 h2 h3
theorem LP.congr{ρ':Env}(h:LP all ρ)(hρ: ∀t,ρ'.get t=ρ.get t):LP all ρ':=fun t x off e=>h t x off (by rw[←hρ];exact e)
theorem XE{t:Nat}{v:V}(h:ρ.get t=v)(x:Nat):(ρ.set t v).get x=ρ.get x:=by
 rw[Zp];split
 ·rename_i e;rw[e,h]
 ·rfl
def NoL(ρ:Env):Prop:= ∀t x off,ρ.get t≠ .lptr x off
theorem zsB(h:Rel P cfg base n w own μ ρ st a){d x off:Nat}(hd:ρ.get d= .lptr x off):Rel P cfg base n w own μ (ρ.set d .undef) st a:=by
 refine⟨h.sto,fun t=> ?_,h.tmps,h.defers,h.apart⟩
 rw[Zp]
 split
 ·exact .undef _
 ·have:=h.env t
  cases hv:ρ.get t with
  |lptr y off'=>
   rw[hv]at this
   obtain⟨b,h1,h2,h3⟩:=this
   refine⟨b,h1,h2, ?_⟩
   by_cases e:y=d
   ·rw[e,hd]at h3;exact h3.elim
   ·rw[Zp,if_neg e];exact h3
  |_=>rw[hv]at this;exact this.env (by simp)
theorem zd3: ∀(l:List Oper) (ρ:Env),Rel P cfg base n w own μ ρ st a→LP l ρ→Rel P cfg base n w own μ (tidy l ρ) st a∧NoL (tidy l ρ)
 |[],ρ,h,hl=>⟨h,fun t x off e=>by obtain⟨o,ho,_⟩:=hl t x off e;cases ho⟩
 |o::os,ρ,h,hl=>by
  simp only[tidy]
  have keep:(∀d x off,o.dst=some d→ρ.get d≠ .lptr x off)→LP os ρ:=fun hn t x off e=>by
   obtain⟨o',ho',hd⟩:=hl t x off e
   rcases List.mem_cons.1 ho' with rfl|hm
   ·exact absurd e (hn t x off hd)
   ·exact⟨o',hm,hd⟩
  split
  ·rename_i d hd
   split
   ·rename_i x off hx
    refine zd3 os _ (zsB h hx) fun t y off' e=> ?_
    rw[Zp]at e
    split at e
    ·cases e
    ·rename_i hne
     obtain⟨o',ho',hd'⟩:=hl t y off' e
     rcases List.mem_cons.1 ho' with rfl|hm
     ·rw[hd]at hd';cases hd';exact absurd rfl hne
     ·exact⟨o',hm,hd'⟩
   ·rename_i hne
    exact zd3 os _ h (keep fun d' x off e e2=>by rw[hd]at e;cases e;exact hne x off e2)
  ·rename_i hd
   exact zd3 os _ h (keep fun d' x off e=>by rw[hd]at e;cases e)
theorem zfX(h:Rel P cfg base n w own μ ρ st a){t:Nat}{b:Bool}(ht:ρ.get t= .bool b):a.tmps[t]? =some (.bool b):=by
 have:=h.env t
 rw[ht]at this
 have:=VRep.bool_inv (this:VRep w (prOf own) μ (.bool b) _)
 rw[Array.getD_eq_getD_getElem?]at this
 cases hx:a.tmps[t]? with
 |none=>rw[hx]at this;cases this
 |some v=>rw[hx]at this;simpa using this
theorem ztM(h:Rel P cfg base n w own μ ρ st a){t:Nat}(ht:ρ.get t= .tup []): ∀b,a.tmps[t]? ≠some (.bool b):=by
 intro b hb
 have:=h.env t
 rw[ht,Array.getD_eq_getD_getElem?,hb]at this
 cases(this:VRep w (prOf own) μ (.tup []) _)
theorem Jn(h:Rel P cfg base n w own μ ρ st a){ops:Array Oper}{g:Nat}{want:Bool}(hg:o.guard=some (g,want)){t:Nat}(ht:(ops.toList[g]?).bind (·.dst)=some t):
  (∀b,ρ.get t= .bool b→Region.wanted o (yielded ops a.tmps)=(b==want))∧(ρ.get t= .tup []→Region.wanted o (yielded ops a.tmps)=false):=by
 have hy:((ops[g]?).bind (·.dst))=some t:=by rw[←ht,Array.getElem?_toList]
 refine⟨fun b hb=> ?_,fun hb=> ?_⟩
 ·have:=zfX h hb
  simp only[Region.wanted,hg,yielded,hy,Option.bind_some,this]
  cases b<;>cases want<;>rfl
 ·have:=ztM h hb
  simp only[Region.wanted,hg,yielded,hy,Option.bind_some]
  cases hx:a.tmps[t]? with
  |none=>rfl
  |some v=>cases v<;>first|rfl|exact absurd hx (this _)
inductive Kind(ρ:Env)(all:List Oper)(o:Oper):Env→List Nat→Bool→Prop where
 |plain (h:o.guard=none):Kind ρ all o ρ [] true
 |run (g:Nat) (want:Bool) (t:Nat) (h:o.guard=some (g,want)) (ht:(all[g]?).bind (·.dst)=some t) (hv:ρ.get t= .bool want):Kind ρ all o (ρ.set t (.bool want)) [t] true
 |skip (g:Nat) (want:Bool) (t:Nat) (b:Bool) (h:o.guard=some (g,want)) (ht:(all[g]?).bind (·.dst)=some t) (hv:ρ.get t= .bool b) (hb:b≠want):Kind ρ all o (ρ.set t (.bool b)) [t] false
 |none (g:Nat) (want:Bool) (t:Nat) (h:o.guard=some (g,want)) (ht:(all[g]?).bind (·.dst)=some t) (hv:ρ.get t= .tup []):Kind ρ all o ρ [t] false
theorem Kind.same{ρ1:Env}{g:List Nat}{b:Bool}(h:Kind ρ all o ρ1 g b): ∀t,ρ1.get t=ρ.get t:=by
 cases h with
 |plain h=>exact fun _=>rfl
 |run g want t h ht hv=>exact XE hv
 |skip g want t b h ht hv hb=>exact XE hv
 |none g want t h ht hv=>exact fun _=>rfl
theorem Kind.wanted{ops:Array Oper}{ρ1:Env}{g:List Nat}{b:Bool}(hk:Kind ρ ops.toList o ρ1 g b)(h:Rel P cfg base n w own μ ρ st a):Region.wanted o (yielded ops a.tmps)=b:=by
 cases hk with
 |plain hg=>simp[Region.wanted,hg]
 |run g want t hg ht hv=>rw[(Jn h hg ht).1 _ hv];simp
 |skip g want t b hg ht hv hb=>rw[(Jn h hg ht).1 _ hv];simpa using hb
 |none g want t hg ht hv=>exact(Jn h hg ht).2 hv
theorem zcD{draw:Bool}{fs:List Foot}{rest:List Oper}{i:Nat}{C:List Nat→Env→List (Nat×V)→St→Option R}{D:List Nat→Env→Option R}{K:Ex→Env→St→Option R}(h:za5 P cfg O fid rid all draw fs rest o i ρ st C D K=some r):
  ∃ρ1 g b,Kind ρ all o ρ1 g b∧(bif draw then freshDst ρ1 o.dst else okDst all ρ1 o.dst)=true∧
   (b=true→XB P cfg O fid rid i o ρ1 st (C g ρ1) (fun p st'=>bc draw (Qw P cfg O fid rid all i (ZJ cfg fid rid i o g ρ1 []) st rest (i+1) ρ1 fs (K (.panic p) ρ1 st')) (K (.panic p) ρ1 st'))=some r)∧
   (b=false→D g ρ1=some r):=by
 simp only[za5]at h
 split at h
 ·rename_i hg
  obtain⟨h1,h2⟩:=Zh h
  exact⟨ρ,[],true, .plain hg,h1,fun _=>h2,fun e=>by cases e⟩
 ·rename_i g want hg
  split at h
  ·cases h
  ·rename_i t ht
   split at h
   ·rename_i b hv
    rcases Yn h with⟨rfl,k⟩|⟨rfl,k⟩
    ·rcases Yn k with⟨rfl,k2⟩|⟨rfl,k2⟩
     ·obtain⟨h1,h2⟩:=Zh k2
      exact⟨_,[t],true, .run g true t hg ht hv,h1,fun _=>h2,fun e=>by cases e⟩
     ·obtain⟨h1,h2⟩:=Zh k2
      exact⟨_,[t],false, .skip g true t false hg ht hv (by simp),h1,(fun e=>by cases e),fun _=>h2⟩
    ·rcases Yn k with⟨rfl,k2⟩|⟨rfl,k2⟩
     ·obtain⟨h1,h2⟩:=Zh k2
      exact⟨_,[t],false, .skip g false t true hg ht hv (by simp),h1,(fun e=>by cases e),fun _=>h2⟩
     ·obtain⟨h1,h2⟩:=Zh k2
      exact⟨_,[t],true, .run g false t hg ht hv,h1,fun _=>h2,fun e=>by cases e⟩
   ·rename_i hv
    obtain⟨h1,h2⟩:=Zh h
    exact⟨ρ,[t],false, .none g want t hg ht hv,h1,(fun e=>by cases e),fun _=>h2⟩
   ·cases h
theorem zfY{draw:Bool}{rest:List Oper}{i:Nat}{fs:List Foot}{K:Ex→Env→St→Option R}(hn: ∀o2 r2,rest=o2::r2→(!draw&&Jb P o o2)=false)(h:ZR P cfg O fid rid all draw (o::rest) i ρ st fs K=some r):
  ∃ρ1 g b,Kind ρ all o ρ1 g b∧(bif draw then freshDst ρ1 o.dst else okDst all ρ1 o.dst)=true∧
   (b=true→XB P cfg O fid rid i o ρ1 st (fun us st'=>ZR P cfg O fid rid all draw rest (i+1) (ρ1.apply us) st' (bif draw then ZJ cfg fid rid i o g ρ1 (us.map (·.1))::fs else fs) K) (fun p st'=>bc draw (Qw P cfg O fid rid all i (ZJ cfg fid rid i o g ρ1 []) st rest (i+1) ρ1 fs (K (.panic p) ρ1 st')) (K (.panic p) ρ1 st'))=some r)∧
   (b=false→ZR P cfg O fid rid all draw rest (i+1) (ρ1.put o.dst (.tup [])) st (bif draw then {idx:=i,reads:=g,writes:=o.dst.toList,sk:= .none}::fs else fs) K=some r):=by
 cases rest with
 |nil=>exact zcD (C:=fun g ρ us st'=>ZR P cfg O fid rid all draw [] (i+1) (ρ.apply us) st' (bif draw then ZJ cfg fid rid i o g ρ (us.map (·.1))::fs else fs) K) (D:=fun g ρ=>ZR P cfg O fid rid all draw [] (i+1) (ρ.put o.dst (.tup [])) st (bif draw then {idx:=i,reads:=g,writes:=o.dst.toList,sk:= .none}::fs else fs) K) h
 |cons o2 r2=>
  have h2:za5 P cfg O fid rid all draw fs (o2::r2) o i ρ st
   (fun g ρ us st'=>
    bc (!draw&&Jb P o o2)
     (gd (okDst all (ρ.apply us) o2.dst) (ZR P cfg O fid rid all draw r2 (i+2) ((ρ.apply us).put o2.dst ((ρ.apply us).get (o.dst.getD 0))) st' fs K))
     (ZR P cfg O fid rid all draw (o2::r2) (i+1) (ρ.apply us) st' (bif draw then ZJ cfg fid rid i o g ρ (us.map (·.1))::fs else fs) K))
   (fun g ρ=>ZR P cfg O fid rid all draw (o2::r2) (i+1) (ρ.put o.dst (.tup [])) st (bif draw then {idx:=i,reads:=g,writes:=o.dst.toList,sk:= .none}::fs else fs) K) K=some r:=h
  rw[hn o2 r2 rfl]at h2
  exact zcD h2
theorem zmj{o o2:Oper}(h:Jb P o o2=true): ∃t k ps d e,o.op= .buildSlice t k ps∧o2.op= .convert t t (.tmp d)∧o.dst=some d∧o.guard=none∧o2.guard=none∧0<k∧Yi P t=some e∧P.underlying e=some (.int .u8):=by
 unfold Jb at h
 split at h
 ·rename_i t k ps s u x d h1 h2 h3
  simp only[Bool.and_eq_true,Option.isNone_iff_eq_none]at h
  obtain⟨⟨⟨⟨⟨⟨e1,e2⟩,e3⟩,g1⟩,g2⟩,hk⟩,he⟩:=h
  have e1:=Nat.eq_of_beq_eq_true e1
  have e2:=Nat.eq_of_beq_eq_true e2
  have e3:=Nat.eq_of_beq_eq_true e3
  subst e1 e2 e3
  split at he
  ·rename_i e hel
   split at he
   ·rename_i hu
    exact⟨_,k,ps,_,e,h1,h2,h3,g1,g2,Nat.le_of_ble_eq_true hk,hel,hu⟩
   ·cases he
  ·cases he
 ·cases h
theorem zn4{ops:Array Oper}(hdst: ∀o∈ops.toList,∀d,o.dst=some d→d<n){i:Nat}{o o2:Oper}(hget:ops.toList[i]? =some o)(hget2:ops.toList[i+1]? =some o2)(hR:Rel P cfg base n w own μ ρ st a)(hlp:LP ops.toList ρ)
  (hl:Jb P o o2=true) {K:Ex→Env→St→Option R} {Q:Exit→Act→World→Prop} {m:Nat} {fs:List Foot} {r2:List Oper} (h:ZR P cfg O fid rid ops.toList false (o::o2::r2) i ρ st fs K=some r)
  (hK: ∀ρ2 a2 w2 own2,ZR P cfg O fid rid ops.toList false r2 (i+2) ρ2 st fs K=some r→Rel P cfg base n w2 own2 μ ρ2 st a2→Keeps base w own μ w2 own2 μ→LP ops.toList ρ2→wpOpsIn (wide ro) m P ops Q (List.range' (i+2) r2.length) a2 w2):
  wpOpsIn (wide ro) m P ops Q (List.range' i (o::o2::r2).length) a w:=by
 obtain⟨t,k,ps,d,e,hop,hop2,hd,hg,hg2,hk,hel,hu8⟩:=zmj hl
 have hmem:o∈ops.toList:=List.mem_of_getElem? hget
 have hmem2:o2∈ops.toList:=List.mem_of_getElem? hget2
 have hgo:ops[i]? =some o:=by rw[←hget,Array.getElem?_toList]
 have hgo2:ops[i+1]? =some o2:=by rw[←hget2,Array.getElem?_toList]
 have h2:za5 P cfg O fid rid ops.toList false fs (o2::r2) o i ρ st
   (fun g ρ us st'=>
    bc (!false&&Jb P o o2)
     (gd (okDst ops.toList (ρ.apply us) o2.dst) (ZR P cfg O fid rid ops.toList false r2 (i+2) ((ρ.apply us).put o2.dst ((ρ.apply us).get (o.dst.getD 0))) st' fs K))
     (ZR P cfg O fid rid ops.toList false (o2::r2) (i+1) (ρ.apply us) st' (bif false then ZJ cfg fid rid i o g ρ (us.map (·.1))::fs else fs) K))
   (fun g ρ=>ZR P cfg O fid rid ops.toList false (o2::r2) (i+1) (ρ.put o.dst (.tup [])) st (bif false then {idx:=i,reads:=g,writes:=o.dst.toList,sk:= .none}::fs else fs) K) K=some r:=h
 rw[hl]at h2
 obtain⟨ρ1,g,b,hkind,hok,hrun,_⟩:=zcD h2
 cases hkind with
 |run _ _ _ h'=>rw[hg]at h';cases h'
 |skip _ _ _ _ h'=>rw[hg]at h';cases h'
 |none _ _ _ h'=>rw[hg]at h';cases h'
 |plain _=>
  have hrun:=hrun rfl
  have hpre:Pre P cfg base n ops.toList w own μ ρ st a o:=⟨hR,hlp,hmem,hdst o hmem,hok⟩
  have hsk:zax cfg fid rid i o ρ=if cfg.res fid d then .write else .none:=by simp only[zax,hop,hd]
  simp only[XB,hop,hsk]at hrun
  split at hrun
  ·rename_i hs
   split at hs
   ·cases hs
   ·simp only[Jf,hop,hel]at hrun
    split at hrun
    ·rename_i es hlay
     obtain⟨hc,hrun⟩:=Zh hrun
     simp only[Bool.and_eq_true,decide_eq_true_eq]at hc
     obtain⟨⟨hty,hokz⟩,hsz⟩:=hc
     obtain⟨cells,hcs,hv,hrun1⟩:=zcZ hpre hop hel hlay hty hokz hsz
     have hvo:Z1 (.buildSlice t k ps)=ps.toList.map (·.2):=by simp[Z1,Op.operands]
     rw[hvo,hd]at hrun
     obtain⟨hr,hs1,_⟩:=hpre.rel.read (cfg.take fid rid i) (ps.toList.map (·.2))
     have s:=Step.fresh hr.sto w.drawn cells e (cells.size,cells.size+1)
     have hr2:=hr.same s
     have hV:=hv _ _ s (fun j hj=>by
      have this:((AM.drawn w w.drawn).alloc (.cells cells e (cells.size,cells.size+1))).heap[w.heap.size]? =some (.cells cells e (cells.size,cells.size+1)):=World.alloc_heap_new (AM.drawn w w.drawn) _
      simp only[World.cell?,this]
      simp[Array.getD_eq_getD_getElem?,hj]) (fun j=>zba _ _ _ _)
     have hk2:=(Z8 hs1).trans (s.keeps fun h=>h)
     have hR3:=hr2.put d (hpre.dst d hd) (Qc (hpre.noPtr hd) _ _) hV
     have hlp3:=(hpre.lp.read (cfg.take fid rid i) (ps.toList.map (·.2))).set hmem hd (.vec .full (shOf P e) es)
     have happ:ρ.apply (upds ρ (cfg.take fid rid i) (ps.toList.map (·.2))++ZL (some d) (.vec .full (shOf P e) es))=(ρ.apply (upds ρ (cfg.take fid rid i) (ps.toList.map (·.2)))).set d (.vec .full (shOf P e) es):=by
      rw[ZT];rfl
     rw[happ]at hrun
     simp only[Option.getD_some,Zp,if_true]at hrun
     obtain⟨hok2,hrun⟩:=Zh (show gd _ _=some r from hrun)
     have hpre2:Pre P cfg base n ops.toList _ _ μ _ st _ o2:=⟨hR3,hlp3,hmem2,hdst o2 hmem2,hok2⟩
     simp only[List.length_cons,List.range'_succ,wpOpsIn,hgo]
     have hw1:Region.wanted o (yielded ops a.tmps)=true:=by simp[Region.wanted,hg]
     have hw2: ∀tm,Region.wanted o2 (yielded ops tm)=true:=fun tm=>by simp[Region.wanted,hg2]
     rw[hw1,if_pos rfl]
     refine⟨fun f _=>trivial, ?_⟩
     rw[Oper.semAt_eq _ _ _ (by intro c' h';rw[hop]at h';cases h'),hrun1,Oper.uponIn_value]
     simp only[hgo2,hw2,if_true]
     refine⟨fun f _=>trivial, ?_⟩
     have hev:(a.put (some d) (.slice (some ⟨w.heap.size,0,none⟩) k k)).eval (.tmp d)= .slice (some ⟨w.heap.size,0,none⟩) k k:=by
      have:d<a.tmps.size:=by rw[hR.tmps];exact hpre.dst d hd
      simp[Act.eval,Act.put,this]
     have hrun2:(execOp (a.put o.dst (.slice (some ⟨w.heap.size,0,none⟩) k k)).eval o2).run P ((AM.drawn w w.drawn).alloc (.cells cells e (0,0)))= .ok (.value (.slice (some ⟨w.heap.size,0,none⟩) k k)) ((AM.drawn w w.drawn).alloc (.cells cells e (cells.size,cells.size+1))):=by
      simp only[execOp,hop2,hd,hev]
      exact Z7 (ziw (AM.drawn w w.drawn) cells t e k (YX hel) hu8)
     rw[Oper.semAt_eq _ _ _ (by intro c' h';rw[hop2]at h';cases h'),hrun2,Oper.uponIn_value,hd]
     cases hd2:o2.dst with
     |none=>
      rw[hd2]at hrun
      exact hK _ _ _ _ hrun hR3 hk2 hlp3
     |some d2=>
      rw[hd2]at hrun
      exact hK _ _ _ _ hrun (hR3.put d2 (hpre2.dst d2 hd2) (hpre2.noPtr hd2) hV) hk2 (hlp3.set hmem2 hd2 _)
    ·cases hrun
  ·rename_i hs;split at hs<;>cases hs
  ·simp only[zab,hop,hel]at hrun
   split at hrun
   ·obtain⟨hc,_⟩:=Zh hrun
    simp only[Bool.and_eq_true,zu5,hu8]at hc
    cases hc.2
   ·cases hrun
theorem Jh(hP:PlainNames P)(hC:Q2 P cfg O.call)(hRd:QG P cfg O.round){ops:Array Oper}(hdst: ∀o∈ops.toList,∀d,o.dst=some d→d<n){K:Ex→Env→St→Option R}{Q:Exit→Act→World→Prop}{m:Nat}
  {w0:World} {YN:Own} {μ0:List Nat}
  (hQ: ∀ρ' st' a' w' own' μ',K .normal ρ' st'=some r→Rel P cfg base n w' own' μ' ρ' st' a'→NoL ρ'→Keeps base w0 YN μ0 w' own' μ'→Q .normal a' w')
  (hX: ∀v c ρ' ρ'' st' a' w' own' μ',K (.panic v) ρ' st'=some r→Rel P cfg base n w' own' μ' ρ'' st' a'→Keeps base w0 YN μ0 w' own' μ'→VRep w' (prOf own') μ' v c→Q (.panic [{v:=c,recovered:=false}]) a' w'):
  ∀(rest:List Oper) (i:Nat) (ρ:Env) (st:St) (fs:List Foot) (a:Act) (w:World) (own:Own) (μ:List Nat),ops.toList.drop i=rest→Rel P cfg base n w own μ ρ st a→LP ops.toList ρ→Keeps base w0 YN μ0 w own μ→
   ZR P cfg O fid rid ops.toList false rest i ρ st fs K=some r→wpOpsIn (wide ro) m P ops Q (List.range' i rest.length) a w
 |[],i,ρ,st,fs,a,w,own,μ,_,hR,hlp,hk,h=>by
  simp only[ZR,bc]at h
  obtain⟨h1,h2⟩:=zd3 _ _ hR hlp
  exact hQ _ _ _ _ _ _ h h1 h2 hk
 |o::rest,i,ρ,st,fs,a,w,own,μ,hd,hR,hlp,hk,h=>by
  have hpair:(∃o2 r2,rest=o2::r2∧Jb P o o2=true)∨ ∀o2 r2,rest=o2::r2→(!false&&Jb P o o2)=false:=by
   cases rest with
   |nil=>exact .inr fun _ _ e=>by cases e
   |cons o2 r2=>
    cases hl:Jb P o o2 with
    |true=>exact .inl ⟨o2,r2,rfl,hl⟩
    |false=>exact .inr fun _ _ e=>by cases e;simp[hl]
  rcases hpair with⟨o2,r2,rfl,hl⟩|hnl
  ·have hd2:ops.toList.drop (i+2)=r2:=by
    have:=congrArg (List.drop 2) hd
    simpa[List.drop_drop,Nat.add_comm]using this
   have hget:ops.toList[i]? =some o:=by
    have:=congrArg (·[0]?) hd
    simpa using this
   have hget2:ops.toList[i+1]? =some o2:=by
    have:=congrArg (·[1]?) hd
    simpa using this
   refine zn4 (m:=m) (ro:=ro) hdst hget hget2 hR hlp hl (K:=K) (fs:=fs) (r2:=r2) h fun ρ2 a2 w2 own2 h1 h2 h3 h4=> ?_
   exact Jh hP hC hRd hdst hQ hX r2 (i+2) _ st _ a2 w2 own2 μ hd2 h2 h4 (hk.trans h3) h1
  have hget:ops.toList[i]? =some o:=by
   have:=congrArg (·[0]?) hd
   simpa using this
  have hmem:o∈ops.toList:=List.mem_of_getElem? hget
  have hd':ops.toList.drop (i+1)=rest:=by
   have:=congrArg (List.drop 1) hd
   simpa[List.drop_drop,Nat.add_comm]using this
  have hgo:ops[i]? =some o:=by rw[←hget,Array.getElem?_toList]
  obtain⟨ρ1,g,b,hkind,hok,hrun,hskip⟩:=zfY hnl h
  have hR1:=hR.congr hkind.same
  have hlp1:=hlp.congr hkind.same
  have hw:=hkind.wanted hR
  have hpre:Pre P cfg base n ops.toList w own μ ρ1 st a o:=⟨hR1,hlp1,hmem,hdst o hmem,hok⟩
  simp only[List.length_cons,List.range'_succ,wpOpsIn,hgo,hw]
  cases b with
  |true=>
   rw[if_pos rfl]
   refine zfW hP hC hRd hpre (fun us st' a' w' own' μ' h1 h2 h3 h4=> ?_) (fun v c st' ρ' w' own' μ' h1 h2 h3 h4=> ?_) (hrun rfl)
   ·exact Jh hP hC hRd hdst hQ hX rest (i+1) _ st' _ a' w' own' μ' hd' h2 h4 (hk.trans h3) h1
   ·exact hX _ _ _ _ _ _ _ _ _ h1 h2 (hk.trans h3) h4
  |false=>
   rw[if_neg (by simp)]
   refine⟨fun f _=>trivial, ?_⟩
   have h':=hskip rfl
   cases hod:o.dst with
   |none=>
    rw[hod]at h'
    exact Jh hP hC hRd hdst hQ hX rest (i+1) _ st _ a w own μ hd' hR1 hlp1 hk h'
   |some d=>
    rw[hod]at h'
    have hT:VRep w (prOf own) μ (.tup []) undef:= .tup [] #[] rfl fun i hi=>by simp at hi
    exact Jh hP hC hRd hdst hQ hX rest (i+1) _ st _ _ w own μ hd' (hR1.put d (hpre.dst d hod) (hpre.noPtr hod) hT) (hlp1.set hmem hod _) hk h'
 termination_by rest=>rest.length
end
end Go.AM
namespace Go.AM
open Go Go.RowKit
theorem zn5{F:Fence}{n:Nat}{P:Program}{Q:Exit→Act→World→Prop}{c:Code}(J:Nat→Act→World→Prop)
  (round: ∀k a w,J k a w→c.wpIn F n P (Exit.then (fun a' w'=> ∃k',k'<k∧J k' a' w') Q) a w) {k₀:Nat} {a:Act} {w:World} (h₀:J k₀ a w):(Code.loop c).wpIn F n P Q a w:=by
 intro b k cs hro hb hr
 have key: ∀j a w,J j a w→
   ∃e a' w',Q e a' w'∧ArrivesIn (Machine.fenced P F) P (lone (b.atR a (.code c:: .inLoop c::k)) cs w) b k cs e a' w':=by
  intro j
  induction j using Nat.strongRecOn with
  |_ j ih=>
   intro a w hJ
   obtain⟨e,a₁,w₁,hq,harr⟩:=round j a w hJ b (.inLoop c::k) cs hro hb hr
   cases e with
   |normal=>
    obtain⟨j',hlt,hJ'⟩:=hq
    obtain⟨e₂,a₂,w₂,hq₂,harr₂⟩:=ih j' hlt a₁ w₁ hJ'
    exact⟨e₂,a₂,w₂,hq₂, .of_steps (StepsIn.trans harr (.one (fenced_calm hb hr rfl) stepR_inLoop)) harr₂⟩
   |exit id=>exact⟨_,a₁,w₁,hq, .pass (x:= .inLoop c) rfl (fun _ _=> .inl (by simp)) harr⟩
   |goto l=>exact⟨_,a₁,w₁,hq, .pass (x:= .inLoop c) rfl (fun _ _=> .inl (by simp)) harr⟩
   |ret=>exact⟨_,a₁,w₁,hq, .pass (x:= .inLoop c) rfl (fun _ _=> .inl (by simp)) harr⟩
   |panic ch=>exact⟨_,a₁,w₁,hq, .pass (x:= .inLoop c) rfl (fun _ _=> .inl (by simp)) harr⟩
   |outgrown=>exact⟨_,a₁,w₁,hq, .pass (x:= .inLoop c) rfl (fun _ _=> .inl (by simp)) harr⟩
 obtain⟨e,a',w',hq,harr⟩:=key _ a w h₀
 exact⟨e,a',w',hq, .of_steps (.one (fenced_calm hb hr rfl) stepR_loop) harr⟩
section
variable{P:Program}{cfg:Cfg}{base n:Nat}{w w':World}{own own':Own}{μ μ':List Nat}{ρ:Env}{st st':St}{a:Act}{R:Type}{r:R}
theorem JK{sh:Sh}{v:V}{K:Bool→V→Option R}(h:Y0 sh v K=some r): ∃d u,v= .loc d sh u∧K d u=some r:=by
 unfold Y0 at h
 split at h
 ·split at h
  ·rename_i e;subst e;exact⟨_,_,rfl,h⟩
  ·cases h
 ·cases h
theorem zhM{sh:Sh}{v:V}{K:Nat→Nat→Nat→Option R}(h:Qo sh v K=some r): ∃q lo m,v= .row sh q lo m∧K q lo m=some r:=by
 unfold Qo at h
 split at h
 ·split at h
  ·rename_i e;subst e;exact⟨_,_,_,rfl,h⟩
  ·cases h
 ·cases h
theorem zjj{v:V}{K:Nat→Option R}(h:zkm v K=some r): ∃q,v= .mp q∧K q=some r:=by
 unfold zkm at h
 split at h
 ·exact⟨_,rfl,h⟩
 ·cases h
theorem zhN{v:V}{K:Nat→Option R}(h:zdo v K=some r): ∃q,v= .cptr none (.ref q 0)∧K q=some r:=by
 unfold zdo at h
 split at h
 ·exact⟨_,rfl,h⟩
 ·cases h
theorem zjk{v:V}{K:Nat→Option R}(h:zf7 v K=some r): ∃q,v= .ref q 0∧K q=some r:=by
 unfold zf7 at h
 split at h
 ·exact⟨_,rfl,h⟩
 ·cases h
theorem zhO{sh:Sh}{v:V}{K:List V→Option R}(h:Xr sh v K=some r): ∃es,(v= .vec .grow sh es∨v= .vec .full sh es)∧K es=some r:=by
 unfold Xr at h
 split at h
 ·split at h
  ·rename_i e;subst e;exact⟨_, .inl rfl,h⟩
  ·cases h
 ·split at h
  ·rename_i e;subst e;exact⟨_, .inr rfl,h⟩
  ·cases h
 ·cases h
theorem zhP{sh:Sh}{v:V}{K:List V→Option R}(h:zdp sh v K=some r): ∃es,v= .vec .full sh es∧K es=some r:=by
 unfold zdp at h
 split at h
 ·split at h
  ·rename_i e;subst e;exact⟨_,rfl,h⟩
  ·cases h
 ·cases h
theorem zlf{g:Tag}{sh:Sh}{es:List V}{c:Value}(h:VRep w (prOf own) μ (.vec .full sh es) c)(hz:0<sh.sz):GRep w own μ g sh es c:=by
 cases h with
 |vecE _ _ A c hg hm=>exact zgX (.vecE _ _ A c hg hm) hz
 |vec _ _ _ ad c f hm hf hl ha hcell hsh hc=>exact zgX (.vec _ _ _ ad c f hm hf hl ha hcell hsh hc) hz
mutual
theorem zmk(k:Kd)(v:V)(K:V→Option R)(h:ZD P k v K=some r):
  ∃v',K v'=some r∧ ∀(g:Tag) (c:Value),CRep w own μ g v c→CRep w own μ g v' c:=by
 match k with
 | .ty t=>unfold ZD at h;exact⟨v,YS h,fun _ _ h=>h⟩
 | .ct c=>unfold ZD at h;exact⟨v,Jc h,fun _ _ h=>h⟩
 | .any=>unfold ZD at h;exact⟨v,h,fun _ _ h=>h⟩
 | .ref=>
  unfold ZD at h
  obtain⟨q,rfl,h0⟩:=zjk h
  exact⟨_,h0,fun _ _ h=>h⟩
 | .cref=>
  unfold ZD at h
  obtain⟨q,rfl,h0⟩:=zhN h
  exact⟨_,h0,fun _ _ h=>h⟩
 | .mp=>
  unfold ZD at h
  obtain⟨q,rfl,h0⟩:=zjj h
  exact⟨_,h0,fun _ _ h=>h⟩
 | .row sh=>
  unfold ZD at h
  obtain⟨q,lo,m,rfl,h0⟩:=zhM h
  exact⟨_,h0,fun _ _ h=>h⟩
 | .grow sh=>
  unfold ZD at h
  obtain⟨hz,h⟩:=Zh h
  obtain⟨es,hv,h⟩:=zhO h
  refine⟨_,h,fun g c hc=> ?_⟩
  rcases hv with rfl|rfl
  ·exact hc
  ·exact zlf hc (by simpa using hz)
 | .full sh=>
  unfold ZD at h
  obtain⟨es,rfl,h0⟩:=zhP h
  exact⟨_,h0,fun _ _ h=>h⟩
 | .loc t=>
  unfold ZD at h
  obtain⟨d,u,rfl,h0⟩:=JK h
  exact⟨_,YS (K:=fun v=>K (.loc false (shOf P t) v)) h0,fun _ _ hc=>by cases(hc:VRep _ _ _ _ _)⟩
 | .locA sh=>
  unfold ZD at h
  obtain⟨d,u,rfl,h0⟩:=JK h
  exact⟨_,h0,fun _ _ hc=>by cases(hc:VRep _ _ _ _ _)⟩
 | .dloc sh ks=>
  unfold ZD at h
  obtain⟨d,u,rfl,h0⟩:=JK h
  obtain⟨cs,rfl,h00⟩:=JG h0
  obtain⟨vs',h00,_⟩:=zbM ks cs _ h00
  exact⟨_,h00,fun _ _ hc=>by cases(hc:VRep _ _ _ _ _)⟩
theorem zbM(ks:List Kd)(vs:List V)(K:List V→Option R)(h:Jy P ks vs K=some r):
  ∃vs',K vs'=some r∧vs'.length=vs.length∧ ∀j (g:Tag) (c:Value),CRep w own μ g (vs.getD j .undef) c→CRep w own μ g (vs'.getD j .undef) c:=by
 match ks with
 |[]=>
  unfold Jy at h
  obtain⟨rfl,h0⟩:=zc3 h
  exact⟨_,h0,rfl,fun _ _ _ h0=>h0⟩
 |k::ks=>
  unfold Jy at h
  obtain⟨v,us,rfl,h0⟩:=zdv h
  obtain⟨v',h0,hv⟩:=zmk k v _ h0
  obtain⟨us',h0,hl,hu⟩:=zbM ks us _ h0
  refine⟨_,h0,by simp[hl],fun j g c=> ?_⟩
  cases j with
  |zero=>simpa using hv g c
  |succ j=>simpa using hu j g c
end
theorem zfZ{k:Kd}{v:V}{K:V→Option R}(h:ZD P k v K=some r){tm:Array Value}{t:Nat}{c:Value}(hl: ∀x off,v≠ .lptr x off)(hT:TRep w own μ ρ tm t v c):
  ∃v',K v'=some r∧TRep w own μ ρ tm t v' c∧ ∀x off,v'≠ .lptr x off:=by
 cases k with
 |ty t'=>unfold ZD at h;exact⟨v,YS h,hT,hl⟩
 |ct c=>unfold ZD at h;exact⟨v,Jc h,hT,hl⟩
 |any=>unfold ZD at h;exact⟨v,h,hT,hl⟩
 |ref=>
  unfold ZD at h
  obtain⟨q,rfl,h0⟩:=zjk h
  exact⟨_,h0,hT,hl⟩
 |cref=>
  unfold ZD at h
  obtain⟨q,rfl,h0⟩:=zhN h
  exact⟨_,h0,hT,hl⟩
 |mp=>
  unfold ZD at h
  obtain⟨q,rfl,h0⟩:=zjj h
  exact⟨_,h0,hT,hl⟩
 |row sh=>
  unfold ZD at h
  obtain⟨q,lo,m,rfl,h0⟩:=zhM h
  exact⟨_,h0,hT,hl⟩
 |grow sh=>
  unfold ZD at h
  obtain⟨hz,h⟩:=Zh h
  obtain⟨es,hv,h⟩:=zhO h
  refine⟨_,h, ?_,by simp⟩
  rcases hv with rfl|rfl
  ·exact hT
  ·exact zlf hT (by simpa using hz)
 |full sh=>
  unfold ZD at h
  obtain⟨es,rfl,h0⟩:=zhP h
  exact⟨_,h0,hT,hl⟩
 |loc t'=>
  unfold ZD at h
  obtain⟨d,u,rfl,h0⟩:=JK h
  refine⟨_,YS (K:=fun v=>K (.loc false (shOf P t') v)) h0, ?_,by simp⟩
  obtain⟨b,ccs,hc,hB,hs,hj,hd⟩:=hT
  cases d with
  |false=>exact⟨b,ccs,hc,hB,hs,hj,hd⟩
  |true=>
   refine⟨b,ccs,hc,hB,Qb hs,fun j hj'=>⟨(hj j hj').1, ?_⟩,fun _ j sh' es e=> ?_⟩
   ·simp only[cond_true]
    rw[Y5];exact .of_val (hj j hj').2.plain1
   ·simp only[cond_true]at e
    rw[Y5]at e
    have key: ∀v:V,AM.plain1 v≠ .vec .grow sh' es:=by
     intro v
     cases v with
     |vec m sh es=>cases m<;>simp[AM.plain1]
     |_=>simp[AM.plain1]
    exact key _ e
 |locA sh=>
  unfold ZD at h
  obtain⟨d,u,rfl,h0⟩:=JK h
  obtain⟨b,ccs,hc,hB,hs,hj,hd⟩:=hT
  exact⟨_,h0,⟨b,ccs,hc,hB,hs,hj,fun e=>by cases e⟩,by simp⟩
 |dloc sh ks=>
  unfold ZD at h
  obtain⟨d,u,rfl,h0⟩:=JK h
  obtain⟨cs,rfl,h00⟩:=JG h0
  obtain⟨b,ccs,hc,hB,hs,hj,hd⟩:=hT
  obtain⟨cs',h00,hl',hv⟩:=zbM (w:=w) (own:=own) (μ:=μ) ks cs _ h00
  refine⟨_,h00,⟨b,ccs,hc,hB, ?_,fun j hj'=>⟨(hj j hj').1,hv j _ _ (hj j hj').2⟩,fun e=>by cases e⟩,by simp⟩
  cases sh with
  |none=>exact hs.elim
  |some m=>exact hl'.trans hs
theorem zq8{ρ':Env}(h:Rel P cfg base n w own μ ρ st a)(he: ∀t,TRep w own μ ρ' a.tmps t (ρ'.get t) (a.tmps.getD t undef)):Rel P cfg base n w own μ ρ' st a:=⟨h.sto,he,h.tmps,h.defers,h.apart⟩
theorem zq9(h:Rel P cfg base n w own μ ρ st a):Rel P cfg base n w own μ ([]:List (Nat×V)) st a∧NoL ([]:List (Nat×V)):=
 ⟨zq8 h fun t=> .undef _,fun t x off e=>by cases e⟩
theorem zn6{ρ1:Env}{t:Nat}{v:V}(h:Rel P cfg base n w own μ ρ1 st a)(hn:NoL ρ1)(hl: ∀x off,v≠ .lptr x off)(hv:TRep w own μ ρ a.tmps t v (a.tmps.getD t undef)):
  Rel P cfg base n w own μ (ρ1.set t v) st a∧NoL (ρ1.set t v):=by
 refine⟨zq8 h fun x=> ?_,fun x y off e=> ?_⟩
 ·rw[Zp]
  split
  ·rename_i e;subst e;exact hv.env hl
  ·exact(h.env x).env (hn x)
 ·rw[Zp]at e
  split at e
  ·exact hl _ _ e
  ·exact hn _ _ _ e
theorem Qk(h:Rel P cfg base n w own μ ρ st a)(hn:NoL ρ): ∀(keep:List (Nat×Kd)) (K:List V→Option R),Yh P keep ρ K=some r→
  ∃vals,K vals=some r∧Rel P cfg base n w own μ (Jk (keep.map (·.1)) vals) st a∧NoL (Jk (keep.map (·.1)) vals)
 |[],K,hk=>by
  unfold Yh at hk
  exact⟨[],hk,zq9 h⟩
 |(t,k)::l,K,hk=>by
  unfold Yh at hk
  obtain⟨v',hk,hT,hl⟩:=zfZ hk (hn t) (h.env t)
  obtain⟨vals,hk,hR,hN⟩:=Qk h hn l _ hk
  exact⟨_,hk,zn6 hR hN hl hT⟩
theorem Je(h:Rel P cfg base n w own μ ρ st a)(hn:NoL ρ): ∀(outs:List (Nat×Kd)) (K:Env→Option R),Yg P outs (outs.map fun x=>ρ.get x.1) K=some r→
  ∃ρ',K ρ'=some r∧Rel P cfg base n w own μ ρ' st a∧NoL ρ'
 |[],K,hk=>by
  unfold Yg at hk
  exact⟨_,(zc3 hk).2,zq9 h⟩
 |(t,k)::l,K,hk=>by
  simp only[List.map_cons]at hk
  unfold Yg at hk
  simp only[Zd]at hk
  obtain⟨v',hk,hT,hl⟩:=zfZ hk (hn t) (h.env t)
  obtain⟨ρ',hk,hR,hN⟩:=Je h hn l _ hk
  exact⟨_,hk,zn6 hR hN hl hT⟩
end
end Go.AM
namespace Go.AM
open Go Go.RowKit
section
variable{F:Fence}{n:Nat}{P:Program}{Q:Exit→Act→World→Prop}
theorem zn7{b:Frame}{a:Act}{k:List Item}{cs:List Frame}{w:World}{c:Code}:step P (lone (b.atR a (.code (.scope c)::k)) cs w)= .next (lone (b.atR a (.code c:: .inScope c::k)) cs w):=
 step_lone_go (by simp[stepG,stepG.exec,Frame.atR])
theorem zkw{b:Frame}{a:Act}{k:List Item}{cs:List Frame}{w:World}{c:Code}:step P (lone (b.atR a (.inScope c::k)) cs w)= .next (lone (b.atR a k) cs w):=
 step_lone_go (by simp[stepG,stepG.exec,Frame.atR])
def zsC(c:Code)(J:Nat→Act→World→Prop)(Q:Exit→Act→World→Prop):Exit→Act→World→Prop
 | .goto l,a,w=>((findLabel c l).isSome∧J l a w)∨(findLabel c l=none∧Q (.goto l) a w)
 |e,a,w=>Q e a w
theorem zga{c:Code}(J:Nat→Nat→Act→World→Prop){a:Act}{w:World}
  (first:c.wpIn F n P (zsC c (fun l a w=> ∃k,J l k a w) Q) a w)
  (pass: ∀l rest k a w,findLabel c l=some rest→J l k a w→rest.wpIn F n P (zsC c (fun l' a' w'=> ∃k',k'<k∧J l' k' a' w') Q) a w):(Code.scope c).wpIn F n P Q a w:=by
 intro b k cs hro hb hr
 have hgo: ∀l rest,findLabel c l=some rest→gotoIn l (.inScope c::k)=some (.code rest:: .inScope c::k):=fun l rest h=>by simp[gotoIn,h]
 have hno: ∀l,findLabel c l=none→gotoIn l (.inScope c::k)=gotoIn l k:=fun l h=>by simp[gotoIn,h]
 have hex: ∀i,exitTo i (.inScope c::k)=exitTo i k:=fun i=>by simp[exitTo]
 have fin: ∀(J':Nat→Act→World→Prop) (m:Machine) (e:Exit) (a₁:Act) (w₁:World),zsC c J' Q e a₁ w₁→ArrivesIn (Machine.fenced P F) P m b (.inScope c::k) cs e a₁ w₁→
   (∀l rest,e= .goto l→findLabel c l=some rest→J' l a₁ w₁→StepsIn (Machine.fenced P F) P m (lone (b.atR a₁ (.code rest:: .inScope c::k)) cs w₁)→ ∃e a' w',Q e a' w'∧ArrivesIn (Machine.fenced P F) P m b k cs e a' w')→
   ∃e a' w',Q e a' w'∧ArrivesIn (Machine.fenced P F) P m b k cs e a' w':=by
  intro J' m e a₁ w₁ hq harr hback
  cases e with
  |normal=>exact⟨.normal,a₁,w₁,hq,StepsIn.trans harr (.one (fenced_calm hb hr rfl) zkw)⟩
  |exit id=>exact⟨.exit id,a₁,w₁,hq,fun k' hk=>harr.1 k' (by rw[hex];exact hk),fun hr' hk=>harr.2 hr' (by rw[hex];exact hk)⟩
  |goto l=>
   rcases hq with⟨h1,h2⟩|⟨h1,h2⟩
   ·obtain⟨rest,hf⟩:=Option.isSome_iff_exists.1 h1
    exact hback l rest rfl hf h2 (harr.1 _ (hgo l rest hf))
   ·exact⟨.goto l,a₁,w₁,h2,fun k' hk=>harr.1 k' (by rw[hno l h1];exact hk),fun hr' hk=>harr.2 hr' (by rw[hno l h1];exact hk)⟩
  |ret=>exact⟨_,a₁,w₁,hq,harr⟩
  |panic ch=>exact⟨_,a₁,w₁,hq,harr⟩
  |outgrown=>exact⟨_,a₁,w₁,hq,harr⟩
 have key: ∀j l rest a w,findLabel c l=some rest→J l j a w→
   ∃e a' w',Q e a' w'∧ArrivesIn (Machine.fenced P F) P (lone (b.atR a (.code rest:: .inScope c::k)) cs w) b k cs e a' w':=by
  intro j
  induction j using Nat.strongRecOn with
  |_ j ih=>
   intro l rest a w hf hJ
   obtain⟨e,a₁,w₁,hq,harr⟩:=pass l rest j a w hf hJ b (.inScope c::k) cs hro hb hr
   refine fin _ _ e a₁ w₁ hq harr fun l' rest' _ hf' hJ' hs=> ?_
   obtain⟨j',hlt,hJ'⟩:=hJ'
   obtain⟨e₂,a₂,w₂,hq₂,harr₂⟩:=ih j' hlt l' rest' a₁ w₁ hf' hJ'
   exact⟨e₂,a₂,w₂,hq₂, .of_steps hs harr₂⟩
 obtain⟨e,a₁,w₁,hq,harr⟩:=first b (.inScope c::k) cs hro hb hr
 have h0:StepsIn (Machine.fenced P F) P (lone (b.atR a (.code (.scope c)::k)) cs w) (lone (b.atR a (.code c:: .inScope c::k)) cs w):= .one (fenced_calm hb hr rfl) zn7
 obtain⟨e₂,a₂,w₂,hq₂,harr₂⟩:=fin _ _ e a₁ w₁ hq harr fun l' rest' _ hf' hJ' hs=>by
  obtain⟨j',hJ'⟩:=hJ'
  obtain⟨e₂,a₂,w₂,hq₂,harr₂⟩:=key j' l' rest' a₁ w₁ hf' hJ'
  exact⟨e₂,a₂,w₂,hq₂, .of_steps hs harr₂⟩
 exact⟨e₂,a₂,w₂,hq₂, .of_steps h0 harr₂⟩
end
end Go.AM
namespace Go.AM
open Go Go.RowKit
def zbx(F:Nat→Option Code):Code→Prop
 | .seq a b=>zbx F a∧zbx F b
 | .cond _ a b=>zbx F a∧zbx F b
 | .block _ b=>zbx F b
 | .loop b=>F (keyOf b)=some b∧keyOf b<YG∧zbx F b
 | .rangeFunc _ _ a b=>zbx F a∧zbx F b
 | .scope b=>zbx F b
 |_=>True
theorem zn8{x:Nat}: ∀{l:List Nat},zcz.memB x l=true↔x∈l
 |[]=>by simp[zcz.memB]
 |y::ys=>by
  simp only[zcz.memB,Bool.or_eq_true,Nat.beq_eq,List.mem_cons,zn8]
theorem zb4: ∀{l:List Nat},zcz l=true→l.Nodup
 |[],_=> .nil
 |x::xs,h=>by
  simp only[zcz,Bool.and_eq_true,Bool.not_eq_true']at h
  refine List.nodup_cons.2 ⟨fun hm=> ?_,zb4 h.2⟩
  rw[zn8.2 hm]at h;cases h.1
theorem orElse_some{α:Type}{x y:Option α}{z:α}(h:x=some z):Y1 x y=some z:=by rw[h];rfl
theorem orElse_none{α:Type}{x y:Option α}(h:x=none):Y1 x y=y:=by rw[h];rfl
theorem Y9{k:Nat}: ∀{c:Code},k∉Yu c→Y3 k c=none
 | .seq a b,h=>by
  simp only[Yu,List.mem_append,not_or]at h
  simp only[Y3,orElse_none (Y9 h.1),Y9 h.2]
 | .cond _ a b,h=>by
  simp only[Yu,List.mem_append,not_or]at h
  simp only[Y3,orElse_none (Y9 h.1),Y9 h.2]
 | .block _ b,h=>by simp only[Yu]at h;simp only[Y3,Y9 h]
 | .loop b,h=>by
  simp only[Yu,List.mem_cons,not_or]at h
  have:Nat.beq (keyOf b) k=false:=by
   cases hb:Nat.beq (keyOf b) k with
   |false=>rfl
   |true=>exact absurd (Nat.eq_of_beq_eq_true hb).symm h.1
  simp only[Y3,this,cond_false,Y9 h.2]
 | .rangeFunc _ _ a b,h=>by
  simp only[Yu,List.mem_append,not_or]at h
  simp only[Y3,orElse_none (Y9 h.1),Y9 h.2]
 | .scope b,h=>by simp only[Yu]at h;simp only[Y3,Y9 h]
 | .region ..,_=>rfl
 | .skip,_=>rfl
 | .label _,_=>rfl
 | .exit _,_=>rfl
 | .goto _,_=>rfl
 | .ret,_=>rfl
 | .refuse _,_=>rfl
theorem Xf{k:Nat}: ∀{c:Code},k∈Yu c→ ∃b,Y3 k c=some b
 | .seq a b,h=>by
  by_cases ha:k∈Yu a
  ·obtain⟨z,hz⟩:=Xf ha
   exact⟨z,by simp only[Y3,orElse_some hz]⟩
  ·have hb:k∈Yu b:=by simpa[Yu,ha]using h
   obtain⟨z,hz⟩:=Xf hb
   exact⟨z,by simp only[Y3,orElse_none (Y9 ha),hz]⟩
 | .cond _ a b,h=>by
  by_cases ha:k∈Yu a
  ·obtain⟨z,hz⟩:=Xf ha
   exact⟨z,by simp only[Y3,orElse_some hz]⟩
  ·have hb:k∈Yu b:=by simpa[Yu,ha]using h
   obtain⟨z,hz⟩:=Xf hb
   exact⟨z,by simp only[Y3,orElse_none (Y9 ha),hz]⟩
 | .block _ b,h=>by simp only[Yu]at h;simp only[Y3];exact Xf h
 | .loop b,h=>by
  simp only[Y3]
  cases hb:Nat.beq (keyOf b) k with
  |true=>exact⟨b,rfl⟩
  |false=>
   simp only[Yu,List.mem_cons]at h
   rcases h with h|h
   ·subst h;simp at hb
   ·exact Xf h
 | .rangeFunc _ _ a b,h=>by
  by_cases ha:k∈Yu a
  ·obtain⟨z,hz⟩:=Xf ha
   exact⟨z,by simp only[Y3,orElse_some hz]⟩
  ·have hb:k∈Yu b:=by simpa[Yu,ha]using h
   obtain⟨z,hz⟩:=Xf hb
   exact⟨z,by simp only[Y3,orElse_none (Y9 ha),hz]⟩
 | .scope b,h=>by simp only[Yu]at h;simp only[Y3];exact Xf h
 | .region ..,h=>by simp[Yu]at h
 | .skip,h=>by simp[Yu]at h
 | .label _,h=>by simp[Yu]at h
 | .exit _,h=>by simp[Yu]at h
 | .goto _,h=>by simp[Yu]at h
 | .ret,h=>by simp[Yu]at h
 | .refuse _,h=>by simp[Yu]at h
theorem zae{F:Nat→Option Code}: ∀{c:Code},(Yu c).Nodup→(∀k,k∈Yu c→k<YG∧F k=Y3 k c)→zbx F c
 | .seq a b,hn,hF=>by
  simp only[Yu]at hn hF
  obtain⟨h1,h2,h3⟩:=List.nodup_append.1 hn
  refine⟨zae h1 fun k hk=> ?_,zae h2 fun k hk=> ?_⟩
  ·obtain⟨z,hz⟩:=Xf hk
   refine⟨(hF k (by simp[hk])).1, ?_⟩
   rw[(hF k (by simp[hk])).2];simp only[Y3,hz,Y1]
  ·refine⟨(hF k (by simp[hk])).1, ?_⟩
   rw[(hF k (by simp[hk])).2];simp only[Y3,orElse_none (Y9 (c:=a) fun h=>h3 _ h _ hk rfl)]
 | .cond _ a b,hn,hF=>by
  simp only[Yu]at hn hF
  obtain⟨h1,h2,h3⟩:=List.nodup_append.1 hn
  refine⟨zae h1 fun k hk=> ?_,zae h2 fun k hk=> ?_⟩
  ·obtain⟨z,hz⟩:=Xf hk
   refine⟨(hF k (by simp[hk])).1, ?_⟩
   rw[(hF k (by simp[hk])).2];simp only[Y3,hz,Y1]
  ·refine⟨(hF k (by simp[hk])).1, ?_⟩
   rw[(hF k (by simp[hk])).2];simp only[Y3,orElse_none (Y9 (c:=a) fun h=>h3 _ h _ hk rfl)]
 | .block _ b,hn,hF=>by
  simp only[Yu]at hn hF
  exact zae (c:=b) hn fun k hk=>⟨(hF k hk).1,by rw[(hF k hk).2];simp only[Y3]⟩
 | .loop b,hn,hF=>by
  simp only[Yu]at hn hF
  obtain⟨h1,h2⟩:=List.nodup_cons.1 hn
  refine⟨?_,(hF _ (by simp)).1,zae h2 fun k hk=>⟨(hF k (by simp[hk])).1, ?_⟩⟩
  ·rw[(hF _ (by simp)).2];simp[Y3]
  ·rw[(hF k (by simp[hk])).2]
   have:Nat.beq (keyOf b) k=false:=by
    cases hb:Nat.beq (keyOf b) k with
    |false=>rfl
    |true=>exact absurd (Nat.eq_of_beq_eq_true hb▸hk) h1
   simp only[Y3,this,cond_false]
 | .rangeFunc _ _ a b,hn,hF=>by
  simp only[Yu]at hn hF
  obtain⟨h1,h2,h3⟩:=List.nodup_append.1 hn
  refine⟨zae h1 fun k hk=> ?_,zae h2 fun k hk=> ?_⟩
  ·obtain⟨z,hz⟩:=Xf hk
   refine⟨(hF k (by simp[hk])).1, ?_⟩
   rw[(hF k (by simp[hk])).2];simp only[Y3,hz,Y1]
  ·refine⟨(hF k (by simp[hk])).1, ?_⟩
   rw[(hF k (by simp[hk])).2];simp only[Y3,orElse_none (Y9 (c:=a) fun h=>h3 _ h _ hk rfl)]
 | .scope b,hn,hF=>by
  simp only[Yu]at hn hF
  exact zae (c:=b) hn fun k hk=>⟨(hF k hk).1,by rw[(hF k hk).2];simp only[Y3]⟩
 | .region ..,_,_=>trivial
 | .skip,_,_=>trivial
 | .label _,_,_=>trivial
 | .exit _,_,_=>trivial
 | .goto _,_,_=>trivial
 | .ret,_,_=>trivial
 | .refuse _,_,_=>trivial
def zby(F:Nat→Option (Array Tmp×Code×Code)):Code→Prop
 | .seq a b=>zby F a∧zby F b
 | .cond _ a b=>zby F a∧zby F b
 | .block _ b=>zby F b
 | .loop b=>zby F b
 | .rangeFunc _ ps a b=>F (keyOf b)=some (ps,a,b)∧zby F a∧zby F b
 | .scope b=>zby F b
 |_=>True
theorem YA{k:Nat}: ∀{c:Code},k∉ZC c→Ya k c=none
 | .seq a b,h=>by
  simp only[ZC,List.mem_append,not_or]at h
  simp only[Ya,orElse_none (YA h.1),YA h.2]
 | .cond _ a b,h=>by
  simp only[ZC,List.mem_append,not_or]at h
  simp only[Ya,orElse_none (YA h.1),YA h.2]
 | .block _ b,h=>by simp only[ZC]at h;simp only[Ya,YA h]
 | .loop b,h=>by simp only[ZC]at h;simp only[Ya,YA h]
 | .rangeFunc _ _ a b,h=>by
  simp only[ZC,List.mem_cons,List.mem_append,not_or]at h
  have:Nat.beq (keyOf b) k=false:=by
   cases hb:Nat.beq (keyOf b) k with
   |false=>rfl
   |true=>exact absurd (Nat.eq_of_beq_eq_true hb).symm h.1
  simp only[Ya,this,cond_false,orElse_none (YA h.2.1),YA h.2.2]
 | .scope b,h=>by simp only[ZC]at h;simp only[Ya,YA h]
 | .region ..,_=>rfl
 | .skip,_=>rfl
 | .label _,_=>rfl
 | .exit _,_=>rfl
 | .goto _,_=>rfl
 | .ret,_=>rfl
 | .refuse _,_=>rfl
theorem Xg{k:Nat}: ∀{c:Code},k∈ZC c→ ∃b,Ya k c=some b
 | .seq a b,h=>by
  by_cases ha:k∈ZC a
  ·obtain⟨z,hz⟩:=Xg ha
   exact⟨z,by simp only[Ya,orElse_some hz]⟩
  ·have hb:k∈ZC b:=by simpa[ZC,ha]using h
   obtain⟨z,hz⟩:=Xg hb
   exact⟨z,by simp only[Ya,orElse_none (YA ha),hz]⟩
 | .cond _ a b,h=>by
  by_cases ha:k∈ZC a
  ·obtain⟨z,hz⟩:=Xg ha
   exact⟨z,by simp only[Ya,orElse_some hz]⟩
  ·have hb:k∈ZC b:=by simpa[ZC,ha]using h
   obtain⟨z,hz⟩:=Xg hb
   exact⟨z,by simp only[Ya,orElse_none (YA ha),hz]⟩
 | .block _ b,h=>by simp only[ZC]at h;simp only[Ya];exact Xg h
 | .loop b,h=>by simp only[ZC]at h;simp only[Ya];exact Xg h
 | .rangeFunc _ ps a b,h=>by
  simp only[Ya]
  cases hb:Nat.beq (keyOf b) k with
  |true=>exact⟨(ps,a,b),rfl⟩
  |false=>
   simp only[ZC,List.mem_cons,List.mem_append]at h
   rcases h with h|h
   ·subst h;simp at hb
   ·by_cases ha:k∈ZC a
    ·obtain⟨z,hz⟩:=Xg ha
     exact⟨z,by simp only[cond_false,orElse_some hz]⟩
    ·have hb:k∈ZC b:=by simpa[ha]using h
     obtain⟨z,hz⟩:=Xg hb
     exact⟨z,by simp only[cond_false,orElse_none (YA ha),hz]⟩
 | .scope b,h=>by simp only[ZC]at h;simp only[Ya];exact Xg h
 | .region ..,h=>by simp[ZC]at h
 | .skip,h=>by simp[ZC]at h
 | .label _,h=>by simp[ZC]at h
 | .exit _,h=>by simp[ZC]at h
 | .goto _,h=>by simp[ZC]at h
 | .ret,h=>by simp[ZC]at h
 | .refuse _,h=>by simp[ZC]at h
theorem zaf{F:Nat→Option (Array Tmp×Code×Code)}: ∀{c:Code},(ZC c).Nodup→(∀k,k∈ZC c→F k=Ya k c)→zby F c
 | .seq a b,hn,hF=>by
  simp only[ZC]at hn hF
  obtain⟨h1,h2,h3⟩:=List.nodup_append.1 hn
  refine⟨zaf h1 fun k hk=> ?_,zaf h2 fun k hk=> ?_⟩
  ·obtain⟨z,hz⟩:=Xg hk
   rw[hF k (by simp[hk])];simp only[Ya,hz,Y1]
  ·rw[hF k (by simp[hk])];simp only[Ya,orElse_none (YA (c:=a) fun h=>h3 _ h _ hk rfl)]
 | .cond _ a b,hn,hF=>by
  simp only[ZC]at hn hF
  obtain⟨h1,h2,h3⟩:=List.nodup_append.1 hn
  refine⟨zaf h1 fun k hk=> ?_,zaf h2 fun k hk=> ?_⟩
  ·obtain⟨z,hz⟩:=Xg hk
   rw[hF k (by simp[hk])];simp only[Ya,hz,Y1]
  ·rw[hF k (by simp[hk])];simp only[Ya,orElse_none (YA (c:=a) fun h=>h3 _ h _ hk rfl)]
 | .block _ b,hn,hF=>by
  simp only[ZC]at hn hF
  exact zaf (c:=b) hn fun k hk=>by rw[hF k hk];simp only[Ya]
 | .loop b,hn,hF=>by
  simp only[ZC]at hn hF
  exact zaf (c:=b) hn fun k hk=>by rw[hF k hk];simp only[Ya]
 | .rangeFunc _ ps a b,hn,hF=>by
  simp only[ZC]at hn hF
  obtain⟨h0,hn⟩:=List.nodup_cons.1 hn
  obtain⟨h1,h2,h3⟩:=List.nodup_append.1 hn
  have hne: ∀k,k∈ZC a++ZC b→Nat.beq (keyOf b) k=false:=fun k hk=>by
   cases hb:Nat.beq (keyOf b) k with
   |false=>rfl
   |true=>exact absurd (Nat.eq_of_beq_eq_true hb▸hk) h0
  refine⟨by rw[hF _ (by simp)];simp[Ya],zaf h1 fun k hk=> ?_,zaf h2 fun k hk=> ?_⟩
  ·obtain⟨z,hz⟩:=Xg hk
   have hmem:k∈ZC a++ZC b:=by simp[hk]
   rw[hF k (List.mem_cons_of_mem _ hmem)];simp only[Ya,hne k hmem,cond_false,hz,Y1]
  ·have hmem:k∈ZC a++ZC b:=by simp[hk]
   rw[hF k (List.mem_cons_of_mem _ hmem)];simp only[Ya,hne k hmem,cond_false,orElse_none (YA (c:=a) fun h=>h3 _ h _ hk rfl)]
 | .scope b,hn,hF=>by
  simp only[ZC]at hn hF
  exact zaf (c:=b) hn fun k hk=>by rw[hF k hk];simp only[Ya]
 | .region ..,_,_=>trivial
 | .skip,_,_=>trivial
 | .label _,_,_=>trivial
 | .exit _,_,_=>trivial
 | .goto _,_,_=>trivial
 | .ret,_,_=>trivial
 | .refuse _,_,_=>trivial
def zgb(F:Nat→Option Code):Code→Prop
 | .seq a b=>zgb F a∧zgb F b
 | .cond _ a b=>zgb F a∧zgb F b
 | .block _ b=>zgb F b
 | .loop b=>zgb F b
 | .rangeFunc _ _ a b=>zgb F a∧zgb F b
 | .scope b=>(Z9 b=true→ ∀l,(findLabel b l).isSome=true→F l=some b)∧(Z9 b=false→zgb F b)
 |_=>True
theorem zag{F:Nat→Option Code}: ∀{c:Code},Z9 c=true→zgb F c
 | .seq a b,h=>by
  simp only[Z9,Bool.and_eq_true]at h
  exact⟨zag h.1,zag h.2⟩
 | .cond _ a b,h=>by
  simp only[Z9,Bool.and_eq_true]at h
  exact⟨zag h.1,zag h.2⟩
 | .rangeFunc _ _ a b,h=>by
  simp only[Z9,Bool.and_eq_true]at h
  exact⟨zag h.1,zag h.2⟩
 | .block _ b,h=>by simp only[Z9]at h;exact zag (c:=b) h
 | .loop b,h=>by simp only[Z9]at h;exact zag (c:=b) h
 | .scope b,h=>by simp[Z9]at h
 | .region ..,_=>trivial
 | .skip,_=>trivial
 | .label _,_=>trivial
 | .exit _,_=>trivial
 | .goto _,_=>trivial
 | .ret,_=>trivial
 | .refuse _,_=>trivial
theorem zch{l:Nat}: ∀{c:Code},l∈YU c↔(findLabel c l).isSome=true
 | .seq a b=>by
  simp only[YU,List.mem_append,findLabel]
  rw[zch (c:=a),zch (c:=b)]
  cases findLabel a l<;>simp
 | .label l'=>by
  simp only[YU,List.mem_singleton,findLabel]
  by_cases h:l'=l
  ·subst h;simp
  ·simp[h];exact fun e=>h e.symm
 | .cond .. =>by simp[YU,findLabel]
 | .block .. =>by simp[YU,findLabel]
 | .loop .. =>by simp[YU,findLabel]
 | .rangeFunc .. =>by simp[YU,findLabel]
 | .scope .. =>by simp[YU,findLabel]
 | .region .. =>by simp[YU,findLabel]
 | .skip=>by simp[YU,findLabel]
 | .exit _=>by simp[YU,findLabel]
 | .goto _=>by simp[YU,findLabel]
 | .ret=>by simp[YU,findLabel]
 | .refuse _=>by simp[YU,findLabel]
theorem Qe{l:Nat}: ∀{c:Code},Z9 c=true→Yr l c=none
 | .seq a b,h=>by
  simp only[Z9,Bool.and_eq_true]at h
  simp only[Yr,Qe h.1,Qe h.2,Y1]
 | .cond _ a b,h=>by
  simp only[Z9,Bool.and_eq_true]at h
  simp only[Yr,Qe h.1,Qe h.2,Y1]
 | .rangeFunc _ _ a b,h=>by
  simp only[Z9,Bool.and_eq_true]at h
  simp only[Yr,Qe h.1,Qe h.2,Y1]
 | .block _ b,h=>by simp only[Z9]at h;simp only[Yr];exact Qe h
 | .loop b,h=>by simp only[Z9]at h;simp only[Yr];exact Qe h
 | .scope b,h=>by simp[Z9]at h
 | .region ..,_=>rfl
 | .skip,_=>rfl
 | .label _,_=>rfl
 | .exit _,_=>rfl
 | .goto _,_=>rfl
 | .ret,_=>rfl
 | .refuse _,_=>rfl
theorem Xh{l:Nat}: ∀{c:Code},l∉ZN c→Yr l c=none
 | .seq a b,h=>by
  simp only[ZN,List.mem_append,not_or]at h
  simp only[Yr,orElse_none (Xh h.1),Xh h.2]
 | .cond _ a b,h=>by
  simp only[ZN,List.mem_append,not_or]at h
  simp only[Yr,orElse_none (Xh h.1),Xh h.2]
 | .rangeFunc _ _ a b,h=>by
  simp only[ZN,List.mem_append,not_or]at h
  simp only[Yr,orElse_none (Xh h.1),Xh h.2]
 | .block _ b,h=>by simp only[ZN]at h;simp only[Yr];exact Xh h
 | .loop b,h=>by simp only[ZN]at h;simp only[Yr];exact Xh h
 | .scope b,h=>by
  simp only[ZN]at h
  simp only[Yr]
  cases hn:Z9 b with
  |true=>
   rw[hn]at h
   have:(findLabel b l).isSome=false:=by
    cases hl:(findLabel b l).isSome with
    |false=>rfl
    |true=>exact absurd (zch.2 hl) h
   simp only[this,Bool.and_false,cond_false]
   cases hf:Yr l b with
   |none=>rfl
   |some z=>exact absurd hf (by rw[Qe hn];simp)
  |false=>
   rw[hn]at h
   simp only[Bool.false_and,cond_false]
   exact Xh h
 | .region ..,_=>rfl
 | .skip,_=>rfl
 | .label _,_=>rfl
 | .exit _,_=>rfl
 | .goto _,_=>rfl
 | .ret,_=>rfl
 | .refuse _,_=>rfl
theorem Xi{l:Nat}: ∀{c:Code},l∈ZN c→ ∃z,Yr l c=some z
 | .seq a b,h=>by
  simp only[ZN,List.mem_append]at h
  simp only[Yr]
  cases hx:Yr l a with
  |some z=>exact⟨z,rfl⟩
  |none=>
   rcases h with h|h
   ·obtain⟨z,hz⟩:=Xi h;rw[hz]at hx;cases hx
   ·exact Xi h
 | .cond _ a b,h=>by
  simp only[ZN,List.mem_append]at h
  simp only[Yr]
  cases hx:Yr l a with
  |some z=>exact⟨z,rfl⟩
  |none=>
   rcases h with h|h
   ·obtain⟨z,hz⟩:=Xi h;rw[hz]at hx;cases hx
   ·exact Xi h
 | .rangeFunc _ _ a b,h=>by
  simp only[ZN,List.mem_append]at h
  simp only[Yr]
  cases hx:Yr l a with
  |some z=>exact⟨z,rfl⟩
  |none=>
   rcases h with h|h
   ·obtain⟨z,hz⟩:=Xi h;rw[hz]at hx;cases hx
   ·exact Xi h
 | .block _ b,h=>by simp only[ZN]at h;simp only[Yr];exact Xi h
 | .loop b,h=>by simp only[ZN]at h;simp only[Yr];exact Xi h
 | .scope b,h=>by
  simp only[ZN]at h
  simp only[Yr]
  cases hn:Z9 b with
  |true=>
   rw[hn]at h
   have h:=zch.1 h
   exact⟨b,by simp only[h,Bool.and_self,cond_true]⟩
  |false=>
   rw[hn]at h
   simp only[Bool.false_and,cond_false]
   exact Xi h
 | .region ..,h=>by simp[ZN]at h
 | .skip,h=>by simp[ZN]at h
 | .label _,h=>by simp[ZN]at h
 | .exit _,h=>by simp[ZN]at h
 | .goto _,h=>by simp[ZN]at h
 | .ret,h=>by simp[ZN]at h
 | .refuse _,h=>by simp[ZN]at h
theorem zah{F:Nat→Option Code}: ∀{c:Code},(ZN c).Nodup→(∀l,l∈ZN c→F l=Yr l c)→zgb F c
 | .seq a b,hn,hF=>by
  simp only[ZN]at hn hF
  obtain⟨h1,h2,h3⟩:=List.nodup_append.1 hn
  refine⟨zah h1 fun k hk=> ?_,zah h2 fun k hk=> ?_⟩
  ·obtain⟨z,hz⟩:=Xi hk
   rw[hF k (by simp[hk])];simp only[Yr,hz,Y1]
  ·rw[hF k (by simp[hk])];simp only[Yr,orElse_none (Xh (c:=a) fun h=>h3 _ h _ hk rfl)]
 | .cond _ a b,hn,hF=>by
  simp only[ZN]at hn hF
  obtain⟨h1,h2,h3⟩:=List.nodup_append.1 hn
  refine⟨zah h1 fun k hk=> ?_,zah h2 fun k hk=> ?_⟩
  ·obtain⟨z,hz⟩:=Xi hk
   rw[hF k (by simp[hk])];simp only[Yr,hz,Y1]
  ·rw[hF k (by simp[hk])];simp only[Yr,orElse_none (Xh (c:=a) fun h=>h3 _ h _ hk rfl)]
 | .rangeFunc _ _ a b,hn,hF=>by
  simp only[ZN]at hn hF
  obtain⟨h1,h2,h3⟩:=List.nodup_append.1 hn
  refine⟨zah h1 fun k hk=> ?_,zah h2 fun k hk=> ?_⟩
  ·obtain⟨z,hz⟩:=Xi hk
   rw[hF k (by simp[hk])];simp only[Yr,hz,Y1]
  ·rw[hF k (by simp[hk])];simp only[Yr,orElse_none (Xh (c:=a) fun h=>h3 _ h _ hk rfl)]
 | .block _ b,hn,hF=>by
  simp only[ZN]at hn hF
  exact zah (c:=b) hn fun k hk=>by rw[hF k hk];simp only[Yr]
 | .loop b,hn,hF=>by
  simp only[ZN]at hn hF
  exact zah (c:=b) hn fun k hk=>by rw[hF k hk];simp only[Yr]
 | .scope b,hn,hF=>by
  simp only[ZN]at hn hF
  refine⟨fun h l hl=> ?_,fun h=> ?_⟩
  ·rw[h]at hF
   rw[hF l (zch.2 hl)]
   simp only[Yr,h,hl,Bool.and_self,cond_true]
  ·rw[h]at hn hF
   refine zah (c:=b) hn fun k hk=> ?_
   rw[hF k hk]
   simp only[Yr,h,Bool.false_and,cond_false]
 | .region ..,_,_=>trivial
 | .skip,_,_=>trivial
 | .label _,_,_=>trivial
 | .exit _,_,_=>trivial
 | .goto _,_,_=>trivial
 | .ret,_,_=>trivial
 | .refuse _,_,_=>trivial
theorem zfg{n l:Nat}{F:Nat→Option Code}{G:Nat→Option (Array Tmp×Code×Code)}: ∀{b rest:Code},findLabel b l=some rest→ZI n b=true→Yf b=true→zbx F b→zby G b→Z9 b=true→
  ZI n rest=true∧Yf rest=true∧zbx F rest∧zby G rest∧Z9 rest=true∧(ZC b=[]→ZC rest=[])
 | .seq x y,rest,h,h1,h2,h3,h4,h5=>by
  simp only[ZI,Bool.and_eq_true]at h1
  simp only[Yf,Bool.and_eq_true]at h2
  simp only[Z9,Bool.and_eq_true]at h5
  simp only[findLabel]at h
  cases hx:findLabel x l with
  |some z=>
   rw[hx]at h
   cases h
   obtain⟨k1,k2,k3,k4,k5,k6⟩:=zfg hx h1.1 h2.1 h3.1 h4.1 h5.1
   refine⟨by simp only[ZI,k1,h1.2,Bool.and_self],by simp only[Yf,k2,h2.2,Bool.and_self],⟨k3,h3.2⟩,⟨k4,h4.2⟩,by simp only[Z9,k5,h5.2,Bool.and_self],fun e=> ?_⟩
   simp only[ZC,List.append_eq_nil_iff]at e⊢
   exact⟨k6 e.1,e.2⟩
  |none=>
   rw[hx]at h
   obtain⟨k1,k2,k3,k4,k5,k6⟩:=zfg (b:=y) h h1.2 h2.2 h3.2 h4.2 h5.2
   refine⟨k1,k2,k3,k4,k5,fun e=> ?_⟩
   simp only[ZC,List.append_eq_nil_iff]at e
   exact k6 e.2
 | .label l',rest,h,_,_,_,_,_=>by
  simp only[findLabel]at h
  split at h
  ·cases h;exact⟨rfl,rfl,trivial,trivial,rfl,fun _=>rfl⟩
  ·cases h
 | .cond ..,_,h,_,_,_,_,_=>by simp[findLabel]at h
 | .block ..,_,h,_,_,_,_,_=>by simp[findLabel]at h
 | .loop ..,_,h,_,_,_,_,_=>by simp[findLabel]at h
 | .rangeFunc ..,_,h,_,_,_,_,_=>by simp[findLabel]at h
 | .scope ..,_,h,_,_,_,_,_=>by simp[findLabel]at h
 | .region ..,_,h,_,_,_,_,_=>by simp[findLabel]at h
 | .skip,_,h,_,_,_,_,_=>by simp[findLabel]at h
 | .exit _,_,h,_,_,_,_,_=>by simp[findLabel]at h
 | .goto _,_,h,_,_,_,_,_=>by simp[findLabel]at h
 | .ret,_,h,_,_,_,_,_=>by simp[findLabel]at h
 | .refuse _,_,h,_,_,_,_,_=>by simp[findLabel]at h
section
variable{P:Program}{cfg:Cfg}{base n:Nat}{w w':World}{own own':Own}{μ μ':List Nat}{ρ:Env}{st st':St}{a:Act}{R:Type}{r:R}
def zrh(P:Program)(cfg:Cfg)(base n:Nat)(w0:World)(YN:Own)(μ0:List Nat)(r:R)(K:Ex→Env→St→Option R)(e:Ex)(a:Act)(w:World):Prop:=
 ∃ρ st own μ,K e ρ st=some r∧Rel P cfg base n w own μ ρ st a∧NoL ρ∧Keeps base w0 YN μ0 w own μ
def Fin(P:Program)(cfg:Cfg)(base n:Nat)(w0:World)(YN:Own)(μ0:List Nat)(r:R)(K:Ex→Env→St→Option R):Exit→Act→World→Prop
 | .normal,a,w=>zrh P cfg base n w0 YN μ0 r K .normal a w
 | .exit i,a,w=>zrh P cfg base n w0 YN μ0 r K (.exit i) a w
 | .goto l,a,w=>zrh P cfg base n w0 YN μ0 r K (.goto l) a w
 | .ret,a,w=>zrh P cfg base n w0 YN μ0 r K .ret a w
 | .panic ch,a,w=> ∃v c ρ ρ'' st own μ,K (.panic v) ρ st=some r∧Rel P cfg base n w own μ ρ'' st a∧Keeps base w0 YN μ0 w own μ∧VRep w (prOf own) μ v c∧ch=[{v:=c,recovered:=false}]
 | .outgrown,_,_=>False
theorem Fin.keeps{w0:World}{YN:Own}{μ0:List Nat}{K:Ex→Env→St→Option R}{e:Exit}(k:Keeps base w0 YN μ0 w own μ)(h:Fin P cfg base n w own μ r K e a w'):Fin P cfg base n w0 YN μ0 r K e a w':=by
 cases e with
 |outgrown=>exact h.elim
 |panic ch=>
  obtain⟨v,c,ρ,ρ'',st,own',μ',h1,h2,h3,h4,h5⟩:=h
  exact⟨v,c,ρ,ρ'',st,own',μ',h1,h2,k.trans h3,h4,h5⟩
 |_=>
  obtain⟨ρ,st,own',μ',h1,h2,h3,h4⟩:=h
  exact⟨ρ,st,own',μ',h1,h2,h3,k.trans h4⟩
theorem zbN{i:Nat}{F:Nat→Option R}: ∀{ids:List Nat},Qh i F ids=some r→F i=some r
 |[],h=>by cases h
 |j::js,h=>by
  unfold Qh at h
  rcases Yn h with⟨h1,h2⟩|⟨_,h2⟩
  ·rw[Nat.eq_of_beq_eq_true h1];exact h2
  ·exact zbN h2
theorem zam{f key:Nat}{nrm rt:Bool}{ids:List Nat}{e:Ex}{vs:List V}{K:Ex→Env→St→Option R}(h:behind P cfg f key nrm rt ids (e,vs,st) K=some r):
  (e= .normal∧Yg P (cfg.outs f key) vs (fun ρ=>K .normal ρ st)=some r)∨(e= .ret∧Yg P (cfg.rets f key) vs (fun ρ=>K .ret ρ st)=some r)∨
   (∃i,e= .exit i∧Yg P (cfg.outs f key) vs (fun ρ=>K (.exit i) ρ st)=some r)∨ ∃v,e= .panic v∧K (.panic v) ([]:List (Nat×V)) st=some r:=by
 unfold behind Xk at h
 cases e with
 |normal=>
  rcases Yn h with⟨_,h⟩|⟨_,h⟩
  ·exact .inl ⟨rfl,h⟩
  ·cases h
 |ret=>
  rcases Yn h with⟨_,h⟩|⟨_,h⟩
  ·exact .inr (.inl ⟨rfl,h⟩)
  ·cases h
 |exit i=>exact .inr (.inr (.inl ⟨i,rfl,zbN h⟩))
 |goto l=>cases h
 |panic v=>
  rcases Yn h with⟨_,h⟩|⟨_,h⟩
  ·exact .inr (.inr (.inr ⟨v,rfl,h⟩))
  ·cases h
theorem Jo{f key:Nat}{nrm rt:Bool}{ids:List Nat}{x:Ex×List V×St}{K:Ex→Env→St→Option R}(h:behind P cfg f key nrm rt ids x K=some r){Kr:Ex→Env→St→Option (Ex×List V×St)}
  (hret: ∀ρ st,Kr .ret ρ st=some (.ret,(cfg.rets f key).map (fun x=>ρ.get x.1),st)) {e:Exit} (hex: ∀i ρ st,e= .exit i→Kr (.exit i) ρ st=some (.exit i,(cfg.outs f key).map (fun x=>ρ.get x.1),st))
  (hpan: ∀v ρ st,Kr (.panic v) ρ st=some (.panic v,(cfg.outs f key).map (fun x=>ρ.get x.1),st)) (hn:e≠ .normal) (hg: ∀l,e≠ .goto l)
  (hF:Fin P cfg base n w own μ x Kr e a w'):Fin P cfg base n w own μ r K e a w':=by
 cases e with
 |normal=>exact absurd rfl hn
 |outgrown=>exact hF.elim
 |goto l=>exact absurd rfl (hg l)
 |ret=>
  obtain⟨ρ,st,own',μ',h1,h2,h3,h4⟩:=hF
  rw[hret]at h1;cases h1
  rcases zam h with⟨he,_⟩|⟨_,hk⟩|⟨i,he,_⟩|⟨v,he,_⟩
  ·cases he
  ·obtain⟨ρ',k1,k2,k3⟩:=Je h2 h3 _ _ hk
   exact⟨ρ',st,own',μ',k1,k2,k3,h4⟩
  ·cases he
  ·cases he
 |exit i=>
  obtain⟨ρ,st,own',μ',h1,h2,h3,h4⟩:=hF
  rw[hex i ρ st rfl]at h1;cases h1
  rcases zam h with⟨he,_⟩|⟨he,_⟩|⟨j,he,hk⟩|⟨v,he,_⟩
  ·cases he
  ·cases he
  ·cases he
   obtain⟨ρ',k1,k2,k3⟩:=Je h2 h3 _ _ hk
   exact⟨ρ',st,own',μ',k1,k2,k3,h4⟩
  ·cases he
 |panic ch=>
  obtain⟨v,c,ρ,ρ'',st,own',μ',h1,h2,h3,h4,h5⟩:=hF
  rw[hpan]at h1;cases h1
  rcases zam h with⟨he,_⟩|⟨he,_⟩|⟨j,he,hk⟩|⟨u,he,hk⟩
  ·cases he
  ·cases he
  ·cases he
  ·cases he
   exact⟨v,c,_,ρ'',st,own',μ',hk,h2,h3,h4,h5⟩
end
end Go.AM
namespace Go.AM
open Go Go.RowKit
section
variable{P:Program}{cfg:Cfg}{base n:Nat}{w w':World}{own own':Own}{μ μ':List Nat}{ρ:Env}{st st':St}{a:Act}{R:Type}{r:R}
theorem zsD(h:NoL ρ)(tk:Bool)(xs:List Operand):NoL (ρ.apply (upds ρ tk xs)):=fun t x off e=>by
 obtain⟨o,ho,_⟩:=LP.read (all:=[]) (fun t x off e=>absurd e (h t x off)) tk xs t x off e
 cases ho
theorem zjl(h:Rel P cfg base n w own μ ρ st a){q b f key:Nat}{vals:List V}{s:LSt}{p:Option Ex}(hst:st[q]? =some (.loop f key vals s p))(hb:μ[q]? =some b):
  ∃L,w.heap[b]? =some (.loop L)∧znb s p L.state L.pending∧ ∀(L':Loop) (y:Res),(L'.fn=L.fn∧L'.tmps=L.tmps∧L'.params=L.params∧L'.assign=L.assign∧L'.body=L.body)→
   (y= .dead∨ ∃s' p',y= .loop f key vals s' p'∧znb s' p' L'.state L'.pending)→
   Rel P cfg base n (w.putObj b (.loop L')) own μ ρ (st.set q y) a∧Keeps base w own μ (w.putObj b (.loop L')) own μ:=by
 obtain⟨ho,L,fn,c,hh,h1,h2,h3,h4,h5,h6,h7,h8⟩:=h.sto.res q _ b hst hb
 refine⟨L,hh,h7,fun L' y hL hy=> ?_⟩
 have hlow:base≤b:=h.sto.low b 0 (by rw[ho];simp) (by rw[ho];simp) (by rw[ho];simp)
 have hlt:b<w.heap.size:=(Array.getElem?_eq_some_iff.1 hh).1
 have hsame: ∀k,k≠b→(w.putObj b (.loop L')).heap[k]? =w.heap[k]? :=fun k hk=>World.putObj_heap_other hk
 have hB:Below base w (w.putObj b (.loop L')):=⟨rfl,rfl,rfl,by simp,fun k hk=>hsame k (by omega)⟩
 have s':Step base w own μ (w.putObj b (.loop L')) own μ (fun g=> ∃j,g= .r q j):=Step.obj h.sto ho (by simp) ⟨0,rfl⟩ (fun c e f hc=>by rw[hh]at hc;cases hc) hlow hsame hB
 refine⟨h.step s' (by simp) (by simp[h.sto.len]) rfl rfl (fun k y' b' k1 k2=> ?_) (fun t=> .inl ⟨rfl,rfl,by simp,Xl h t⟩),Yt s' fun g ⟨j,e⟩=> .inr ⟨q,j,e⟩⟩
 rcases za8 k1 with⟨rfl,rfl⟩|⟨hne,hk⟩
 ·right
  rcases hy with rfl|⟨s2,p2,rfl,hok⟩
  ·trivial
  ·rw[hb]at k2
   cases k2
   obtain⟨e1,e2,e3,e4,e5⟩:=hL
   exact⟨ho,L',fn,c,World.putObj_heap_same hlt,h1,h2,h3,trivial,by rw[e3,e4,e5];exact h5,by rw[e2];exact h6,hok,fun t=>by rw[e2];exact s'.vrep (h8 t)⟩
 ·exact .inl ⟨hk,fun j ⟨j',e⟩=>hne (by cases e;rfl)⟩
theorem zn9{s:LSt}{p:Option Ex}{n' r':Option R}{x:Nat→Option R}(h:XZ s p n' r' x=some r):
  (s= .ready∧p=none∧n'=some r)∨(s= .done∧p=some .ret∧r'=some r)∨ ∃i,s= .done∧p=some (.exit i)∧x i=some r:=by
 unfold XZ at h
 split at h
 ·exact .inl ⟨rfl,rfl,h⟩
 ·exact .inr (.inl ⟨rfl,rfl,h⟩)
 ·exact .inr (.inr ⟨_,rfl,rfl,h⟩)
 ·cases h
theorem zkx(ks:List Nat)(F:Nat→V)(t:Nat):(Jk ks (ks.map F)).get t=if t∈ks then F t else .undef:=by
 induction ks with
 |nil=>rfl
 |cons k ks ih=>
  have:(Jk (k::ks) ((k::ks).map F)).get t=(Env.set (Jk ks (ks.map F)) k (F k)).get t:=rfl
  rw[this,Zp,ih]
  by_cases e:t=k
  ·subst e;simp
  ·simp[e]
theorem zri{v:V}{K:Nat→List V→List V→Option R}(h:zf8 v K=some r): ∃g a b,v= .fn g a b∧K g a b=some r:=by
 unfold zf8 at h
 split at h
 ·exact⟨_,_,_,rfl,h⟩
 ·cases h
theorem zsE(hP:PlainNames P){O:Oracle}(hC:Q2 P cfg O.call){fid:Nat}{fn:Func}{whole:Code}(hf:P.funcs[fid]? =some fn)(hb:fn.body=some whole)(hok:zdq fn.ntmps whole=true)
  {g:Operand} {ps:Array Tmp} {x y:Code} (hfind:Ya (keyOf y) whole=some (ps,x,y)) (hR:Rel P cfg base fn.ntmps w own μ ρ st a) (hN:NoL ρ) {K:Ex→Env→St→Option R}
  (h:exec P cfg O fid (.rangeFunc g ps x y) ρ st K=some r) {m:Nat}:(Code.rangeFunc g ps x y).wpIn (wide none) m P (Fin P cfg base fn.ntmps w own μ r K) a w:=by
 simp only[exec]at h
 obtain⟨gf,first,cap,hv,h⟩:=zri h
 ·skip
  obtain⟨⟨out,st2⟩,hx,h⟩:=Y8 h
  refine wpIn_rangeFunc fun fn' _=> ?_
  obtain⟨hr,s1,hval⟩:=hR.read false (g::((cfg.keep fid (keyOf y)).map (·.1)).map Operand.tmp)
  have hk1:=Z8 s1
  have hg:=hval g (by simp)
  rw[hv]at hg
  obtain⟨cf,cc,hev,ha1,ha2⟩:=zs9 (hg.val (by simp))
  have sA:=Step.new hr.sto (.deferred (some [])) .d (by simp) []
  have hA:=hr.sto.step sA (by simp[hr.sto.len]) fun q z b h1 h2=> .inl ⟨h1,fun _ h=>h⟩
  generalize hL:({state:= .ready,pending:=none,fn:=fn',tmps:=a.tmps,params:=ps,assign:=x,body:=y,defers:=w.heap.size}:Loop)=L
  have sB:=Step.new hA (.loop L) (.r st.length 0) (by simp) [w.heap.size+1]
  have s:=(sA.trans sB).weaken (Y:=fun _=>False) fun g h=>h.elim id id
  simp only[List.append_nil,World.size_alloc]at s
  have hD1:((w.alloc (.deferred (some []))).alloc (.loop L)).heap[w.heap.size]? =some (.deferred (some [])):=(Below.heap_alloc _ _ _ (by simp)).trans (World.alloc_heap_new w _)
  have hl1:((w.alloc (.deferred (some []))).alloc (.loop L)).heap[w.heap.size+1]? =some (.loop L):=by
   have:=World.alloc_heap_new (w.alloc (.deferred (some []))) (.loop L);rwa [World.size_alloc]at this
  generalize hW:(w.alloc (.deferred (some []))).alloc (.loop L)=W at s hD1 hl1
  generalize hO:Xy (Xy (Yy own ρ (g::((cfg.keep fid (keyOf y)).map (·.1)).map Operand.tmp)) w.heap.size .d) (w.heap.size+1) (.r st.length 0)=ownB at s
  have hOD: ∀i,ownB w.heap.size i= .d:=fun i=>by rw[←hO];simp[Xy]
  have hOl: ∀i,ownB (w.heap.size+1) i= .r st.length 0:=fun i=>by rw[←hO];simp[Xy]
  have hrec:RRep P cfg W ownB (μ++[w.heap.size+1]) st.length (w.heap.size+1) (.loop fid (keyOf y) (((cfg.keep fid (keyOf y)).map (·.1)).map fun t=>plain1 (rd ρ false (.tmp t))) .ready none):=by
   refine⟨hOl,L,fn,whole,hl1,hf,hb,hok,trivial,by rw[←hL];exact hfind,by rw[←hL];exact hR.tmps,by rw[←hL];trivial,fun t=> ?_⟩
   rw[zkx]
   split
   ·rename_i ht
    have:=(hval (.tmp t) (List.mem_cons_of_mem _ (List.mem_map.2 ⟨t,ht,rfl⟩))).plain
    rw[←hL]
    exact s.vrep this
   ·exact .undef _
  have hS:Sto P cfg base W ownB (μ++[w.heap.size+1]) (st++[.loop fid (keyOf y) (((cfg.keep fid (keyOf y)).map (·.1)).map fun t=>plain1 (rd ρ false (.tmp t))) .ready none]):=by
   refine hr.sto.step s (by simp[hr.sto.len]) fun q z b h1 h2=> ?_
   rcases Nat.lt_or_ge q st.length with hq|hq
   ·rw[List.getElem?_append_left hq]at h1
    exact .inl ⟨h1,fun _ h=>h⟩
   ·right
    have hq':q=st.length:=by
     have:=(List.getElem?_eq_some_iff.1 h1).1
     simp at this;omega
    subst hq'
    rw[List.getElem?_append_right (Nat.le_refl _)]at h1
    simp only[Nat.sub_self,List.getElem?_cons_zero,Option.some.injEq]at h1
    rw[Jd hr.sto.len]at h2
    cases h2
    rw[←h1];exact hrec
  have hdef: ∀z,z∈a.defers→ ∃D,z={target:= .collected D,args:= #[]}∧w.heap[D]? =some (.deferred (some []))∧ ∀i,ownB D i= .d∧W.heap[D]? =some (.deferred (some [])):=fun z hz=>by
   obtain⟨D,h1,h2,h3⟩:=hr.defers z hz
   exact⟨D,h1,h2,fun i=>⟨(s.tag D i (by rw[h3];simp) (fun h=>h)).trans (h3 i),(s.whole D _ h3 (by simp) (by simp) (fun h=>h)).trans h2⟩⟩
  have hrel:Rel P cfg base fn.ntmps W ownB (μ++[w.heap.size+1]) (ρ.apply (upds ρ false (g::((cfg.keep fid (keyOf y)).map (·.1)).map Operand.tmp))) (st++[.loop fid (keyOf y) (((cfg.keep fid (keyOf y)).map (·.1)).map fun t=>plain1 (rd ρ false (.tmp t))) .ready none])
    {a with defers:=[{target:= .collected w.heap.size,args:= #[]}]++a.defers}:=by
   refine⟨hS,fun t=>s.trep (hr.env t) (fun _ h=>h) fun z off hz=>⟨rfl,(Xl hr t z off hz).2⟩,hR.tmps,fun z hz=> ?_, ?_⟩
   ·rcases List.mem_cons.1 hz with rfl|hz
    ·exact⟨_,rfl,hD1,hOD⟩
    ·obtain⟨D,h1,_,h3⟩:=hdef z hz
     exact⟨D,h1,(h3 0).2,fun i=>(h3 i).1⟩
   ·refine List.nodup_cons.2 ⟨fun hm=> ?_,hR.apart⟩
    obtain⟨D,h1,h2,_⟩:=hdef _ hm
    cases h1
    have:=(Array.getElem?_eq_some_iff.1 h2).1
    omega
  have hk2:Keeps base w own μ W ownB (μ++[w.heap.size+1]):=hk1.trans (s.keeps fun h=>h)
  obtain⟨hgf,hcalls⟩:=hC gf _ _ _ hx
  have hargs:Args W ownB (μ++[w.heap.size+1]) (first++[.yld st.length]++cap) (cf++ #[.func (.yield (w.heap.size+1)) #[] #[]]++cc):=by
   refine Args.app (Args.app (Args.mono ha1 fun v c hv=>s.vrep hv) ⟨rfl,fun i hi=> ?_⟩) (Args.mono ha2 fun v c hv=>s.vrep hv)
   have:i=0:=by simpa using hi
   subst this
   exact .yld _ _ (Jd hr.sto.len _)
  refine⟨w.heap.size+1,[{target:= .collected w.heap.size,args:= #[]}],W,{target:= .fn (.func gf) cc,args:=cf++ #[.func (.yield (w.heap.size+1)) #[] #[]]},W,gf,cf++ #[.func (.yield (w.heap.size+1)) #[] #[]]++cc,W, ?_, ?_,fun _ _=>trivial, ?_,zbc none, ?_⟩
  ·rw[←hW,←hL];exact run_enterLoop_outer _ _ _ _ _
  ·simp only[resolve,hev]
   simp[go_sem]
  ·exact zaA hP hgf (cf++ #[.func (.yield (w.heap.size+1)) #[] #[]]++cc)
  ·refine(zcC (hcalls (m-1) base W (zcB ownB) _ _ hS.toC (zhc _) ⟨hargs.1,fun i hi=>(hargs.2 i hi).toC⟩)).mono fun e w2 hpost=> ?_
   obtain⟨cv,own2,μ2,h1,h2,h3⟩:=hpost
   obtain⟨k1,k2⟩:=zji hrel h1 h2
   cases out with
   |panic v=>simp[Zx]at h
   |ret v=>
    simp only[Zx]at h
    obtain⟨rfl,_⟩:=h3
    obtain⟨z,hz,h⟩:=Yd h
    obtain⟨f',key',vals',s',p',rfl,h6⟩:=XV h
    have hb2:μ2[st.length]? =some (w.heap.size+1):=by
     obtain⟨ν,rfl⟩:=k2.mu
     exact zc1 (Jd hr.sto.len _)
    obtain⟨L2,hh,hst,hput⟩:=zjl k1 hz hb2
    obtain⟨k3,k4⟩:=hput {L2 with state:= .exhausted} .dead ⟨rfl,rfl,rfl,rfl,rfl⟩ (.inl rfl)
    have hkk:=(hk2.trans k2).trans k4
    have hN':=zsD hN false (g::((cfg.keep fid (keyOf y)).map (·.1)).map Operand.tmp)
    rcases zn9 h6 with⟨rfl,rfl,h7⟩|⟨rfl,rfl,h7⟩|⟨i,rfl,rfl,h7⟩
    ·cases hs2:L2.state<;>rw[hs2]at hst<;>try exact hst.elim
     cases hp2:L2.pending<;>rw[hp2]at hst<;>try exact hst.elim
     have hend:=run_endLoop (P:=P) hh (by rw[hs2];simp)
     generalize w2.putObj (w.heap.size+1) (.loop {L2 with state:= .exhausted})=W2 at hend k3 hkk
     rw[hp2]at hend
     refine⟨none,W2,hend, ?_⟩
     exact⟨_,_,_,_,h7,k3,hN',hkk⟩
    ·cases hs2:L2.state<;>rw[hs2]at hst<;>try exact hst.elim
     cases hp2:L2.pending with
     |none=>rw[hp2]at hst;exact hst.elim
     |some c=>
      rw[hp2]at hst
      cases c<;>try exact hst.elim
      have hend:=run_endLoop (P:=P) hh (by rw[hs2];simp)
      generalize w2.putObj (w.heap.size+1) (.loop {L2 with state:= .exhausted})=W2 at hend k3 hkk
      rw[hp2]at hend
      refine⟨some .ret,W2,hend, ?_⟩
      rcases Yn h7 with⟨_,h7⟩|⟨_,h7⟩
      ·exact wpIn_ret ⟨_,_,_,_,h7,k3,hN',hkk⟩
      ·cases h7
    ·cases hs2:L2.state<;>rw[hs2]at hst<;>try exact hst.elim
     cases hp2:L2.pending with
     |none=>rw[hp2]at hst;exact hst.elim
     |some c=>
      rw[hp2]at hst
      cases c<;>try exact hst.elim
      rename_i j
      have:i=j:=hst
      subst this
      have hend:=run_endLoop (P:=P) hh (by rw[hs2];simp)
      generalize w2.putObj (w.heap.size+1) (.loop {L2 with state:= .exhausted})=W2 at hend k3 hkk
      rw[hp2]at hend
      refine⟨some (.exit i),W2,hend, ?_⟩
      exact wpIn_exit ⟨_,_,_,_,zbN (F:=fun j=>K (.exit j) _ _) h7,k3,hN',hkk⟩
end
end Go.AM
namespace Go.AM
open Go
section
variable{P:Program}{cfg:Cfg}{fid rid idx:Nat}{o:Oper}{ρ:Env}{st:St}{R:Type}
theorem zfh{α:Type}(x:α)(K:α→Option R):Za (some x) K=K x:=rfl
theorem Q3{α:Type}(K:α→Option R):Za none K=none:=rfl
theorem Zr{α:Type}(b:Bool)(x:Option α)(K:α→Option R):Za (gd b x) K=gd b (Za x K):=by cases b<;>rfl
theorem zbd{α:Type}(b:Bool)(x y:Option α)(K:α→Option R):Za (bc b x y) K=bc b (Za x K) (Za y K):=by cases b<;>rfl
theorem Yo{α:Type}(v:V)(F:Int→Option α)(K:α→Option R):Za (Zm v F) K=Zm v fun i=>Za (F i) K:=by cases v<;>rfl
theorem Jp{α:Type}(v:V)(F:List V→Option α)(K:α→Option R):Za (Xc v F) K=Xc v fun i=>Za (F i) K:=by cases v<;>rfl
theorem zhQ{α:Type}(v:V)(F:List V→Option α)(K:α→Option R):Za (ZM v F) K=ZM v fun i=>Za (F i) K:=by cases v<;>rfl
theorem zaB{α:Type}(v:V)(F:Bool→Option α)(K:α→Option R):Za (Zl v F) K=Zl v fun i=>Za (F i) K:=by cases v<;>rfl
theorem zan{α:Type}(v:V)(F:ByteArray→Option α)(K:α→Option R):Za (zcY v F) K=zcY v fun i=>Za (F i) K:=by cases v<;>rfl
theorem zcE{α:Type}(k:IntKind)(v:V)(F:Int→Option α)(K:α→Option R):Za (zkn k v F) K=zkn k v fun i=>Za (F i) K:=by
 cases v<;>try rfl
 simp only[zkn];split<;>rfl
theorem zd4{α:Type}(sh:Sh)(v:V)(F:List V→Option α)(K:α→Option R):Za (Yp sh v F) K=Yp sh v fun i=>Za (F i) K:=by
 cases v<;>try rfl
 rename_i m sh' es
 cases m<;>try rfl
 simp only[Yp];split<;>rfl
theorem Q4{α:Type}(vs:List V)(x:Option α)(K:α→Option R):Za (Zn vs x) K=Zn vs (Za x K):=by cases vs<;>rfl
theorem zaC{α:Type}(vs:List V)(F:V→List V→Option α)(K:α→Option R):Za (Zd vs F) K=Zd vs fun v vs=>Za (F v vs) K:=by cases vs<;>rfl
theorem YI{α:Type}(q:Nat)(F:Res→Option α)(K:α→Option R):Za (Zw st q F) K=Zw st q fun x=>Za (F x) K:=by
 unfold Zw;cases st[q]? <;>rfl
theorem zd5{α:Type}(x:Res)(F:List V→Option α)(K:α→Option R):Za (ZE x F) K=ZE x fun i=>Za (F i) K:=by cases x<;>rfl
theorem Q5{α:Type}(x:Res)(F:Sh→List V→Option α)(K:α→Option R):Za (za0 x F) K=za0 x fun i j=>Za (F i j) K:=by cases x<;>rfl
theorem zky{α:Type}(x:Res)(F:Sh→Nat→Nat→Option α)(K:α→Option R):Za (zei x F) K=zei x fun i j k=>Za (F i j k) K:=by cases x<;>rfl
theorem zhR{α:Type}(x:Res)(F:CT→CT→List (V×V)→Option α)(K:α→Option R):Za (zhC x F) K=zhC x fun a b c=>Za (F a b c) K:=by cases x<;>rfl
theorem zfi{α:Type}(v:V)(F:Nat→Option α)(K:α→Option R):Za (zkm v F) K=zkm v fun q=>Za (F q) K:=by cases v<;>rfl
theorem zml{α:Type}(x:Res)(F:ByteArray→Nat→Option α)(K:α→Option R):Za (zgC x F) K=zgC x fun i j=>Za (F i j) K:=by cases x<;>rfl
theorem zhS{α:Type}(x:Out)(F G:V→Option α)(K:α→Option R):Za (Zx x F G) K=Zx x (fun v=>Za (F v) K) (fun v=>Za (G v) K):=by cases x<;>rfl
theorem zfj{α:Type}(v:V)(F:Nat→List V→List V→Option α)(K:α→Option R):Za (zf8 v F) K=zf8 v fun a b c=>Za (F a b c) K:=by cases v<;>rfl
theorem zaD{α:Type}(sh:Sh)(v:V)(F:List V→Option α)(K:α→Option R):Za (zdp sh v F) K=zdp sh v fun a=>Za (F a) K:=by
 cases v<;>try rfl
 rename_i m _ _
 cases m<;>try rfl
 simp only[zdp];split<;>rfl
theorem zhT(cs:List CT): ∀(vs:List V) {α:Type} (F:List V→Option α) (K:α→Option R),Za (onCells cs vs (zbw α cs F)) K=onCells cs vs (zbw R cs fun vs=>Za (F vs) K):=by
 induction cs with
 |nil=>intro vs α F K;cases vs<;>rfl
 |cons c cs ih=>
  intro vs α F K
  cases vs with
  |nil=>cases c<;>exact(show(none:Option R)=none from rfl)
  |cons v vs=>
   cases c with
   |int=>cases v with
    |int x=>exact ih vs (fun vs=>F (.int x::vs)) K
    |_=>exact(show(none:Option R)=none from rfl)
   |bool=>cases v with
    |bool x=>exact ih vs (fun vs=>F (.bool x::vs)) K
    |_=>exact(show(none:Option R)=none from rfl)
   |str=>cases v with
    |str x=>exact ih vs (fun vs=>F (.str x::vs)) K
    |_=>exact(show(none:Option R)=none from rfl)
   |fn=>cases v with
    |fn g a b=>exact ih vs (fun vs=>F (.fn g a b::vs)) K
    |_=>exact(show(none:Option R)=none from rfl)
   |any=>exact ih vs (fun vs=>F (v::vs)) K
   |nil sh=>
    cases v with
    |vec m sh' es=>
     cases m with
     |full=>
      cases es with
      |nil=>
       show Za (if sh'=sh then onCells cs vs (zbw α cs fun vs=>F (.vec .full sh []::vs))else none) K=if sh'=sh then onCells cs vs (zbw R cs fun vs=>Za (F (.vec .full sh []::vs)) K)else none
       by_cases h:sh'=sh
       ·rw[if_pos h,if_pos h];exact ih vs (fun vs=>F (.vec .full sh []::vs)) K
       ·rw[if_neg h,if_neg h];rfl
      |cons _ _=>exact(show(none:Option R)=none from rfl)
     |_=>exact(show(none:Option R)=none from rfl)
    |_=>exact(show(none:Option R)=none from rfl)
   |ik k=>
    cases v with
    |ik k' x=>
     show Za (if k'=k then onCells cs vs (zbw α cs fun vs=>F (.ik k x::vs))else none) K=if k'=k then onCells cs vs (zbw R cs fun vs=>Za (F (.ik k x::vs)) K)else none
     by_cases h:k'=k
     ·rw[if_pos h,if_pos h];exact ih vs (fun vs=>F (.ik k x::vs)) K
     ·rw[if_neg h,if_neg h];rfl
    |_=>exact(show(none:Option R)=none from rfl)
   |slice sh=>
    cases v with
    |vec m sh' es=>
     cases m with
     |plain=>
      show Za (if sh'=sh then onCells cs vs (zbw α cs fun vs=>F (.vec .plain sh es::vs))else none) K=if sh'=sh then onCells cs vs (zbw R cs fun vs=>Za (F (.vec .plain sh es::vs)) K)else none
      by_cases h:sh'=sh
      ·rw[if_pos h,if_pos h];exact ih vs (fun vs=>F (.vec .plain sh es::vs)) K
      ·rw[if_neg h,if_neg h];rfl
     |_=>exact(show(none:Option R)=none from rfl)
    |_=>exact(show(none:Option R)=none from rfl)
theorem JL{α:Type}(c:CT)(v:V)(F:V→Option α)(K:α→Option R):Za (Yl c v F) K=Yl c v fun v=>Za (F v) K:=by
 cases c<;>simp only[Yl,Yo,zcE,zaB,zan,zd4,zfj,zaD,Q4]
theorem Xt{α:Type}(t:TypeId)(v:V)(F:V→Option α)(K:α→Option R):Za (QD P t v F) K=QD P t v fun v=>Za (F v) K:=by
 have hc: ∀(c:CT),Za (Yl c v F) K=Yl c v fun v=>Za (F v) K:=by
  intro c
  cases c<;>simp only[Yl,Yo,zcE,zaB,zan,zd4,zfj,zaD,Q4]
 unfold QD
 cases shOf P t with
 |none=>
  simp only
  split
  ·exact hc _
  ·rfl
 |some k=>
  simp only[Zc]
  cases v<;>simp only[Q3]
  exact zhT _ _ _ _
theorem zkz{α:Type}(rw:Bool)(t:TypeId)(v:V)(F:V→Option α)(K:α→Option R):Za (zem P rw t v F) K=zem P rw t v fun v=>Za (F v) K:=by
 unfold zem
 split
 ·split
  ·unfold Qo
   split
   ·split<;>rfl
   ·rfl
  ·rfl
 ·exact Xt _ _ _ _
theorem zk0{α:Type}(t:TypeId)(v:V)(F:V→Option α)(K:α→Option R):Za (zej P t v F) K=zej P t v fun v=>Za (F v) K:=by
 have hc: ∀(c:CT),Za (Yl c v F) K=Yl c v fun v=>Za (F v) K:=by
  intro c
  cases c<;>simp only[Yl,Yo,zcE,zaB,zan,zd4,zfj,zaD,Q4]
 unfold zej
 cases shOf P t with
 |none=>
  simp only
  split
  ·exact hc _
  ·rfl
 |some k=>
  simp only[Zc]
  cases v<;>simp only[Q3]
  exact zhT _ _ _ _
theorem zbO{α:Type}(cl:Bool)(t:TypeId)(v:V)(F:V→Option α)(K:α→Option R):Za (zcx P cl t v F) K=zcx P cl t v fun u=>Za (F u) K:=by
 unfold zcx
 split
 ·cases cl with
  |true=>
   simp only
   cases v<;>try rfl
   simp only[Qo]
   split<;>rfl
  |false=>
   simp only
   cases v<;>try rfl
   simp only[zqy]
   split<;>rfl
 ·exact zk0 _ _ _ _
theorem zeG{α:Type}(t:TypeId)(v:V)(F:V→Option α)(K:α→Option R):Za (zcy P t v F) K=zcy P t v fun u=>Za (F u) K:=by
 unfold zcy
 split
 ·cases v<;>rfl
 ·exact Xt _ _ _ _
theorem zk1{α:Type}(t:TypeId)(v:V)(F:V→Option α)(K:α→Option R):Za (zek P t v F) K=zek P t v fun u=>Za (F u) K:=by
 unfold zek
 split
 ·exact zeG t v F K
 ·rfl
theorem zdc{α:Type}: ∀(ts:List TypeId) (vs:List V) (F:List V→Option α) (K:α→Option R),Za (Qm P ts vs F) K=Qm P ts vs fun v=>Za (F v) K
 |[],vs,F,K=>by simp only[Qm,Q4]
 |t::ts,vs,F,K=>by simp only[Qm,zaC,Xt,zdc ts]
theorem Jz{α:Type}(t:TypeId)(v:V)(F:V→Option α)(K:α→Option R):Za (coerce P t v F) K=coerce P t v fun v=>Za (F v) K:=by
 unfold coerce
 split
 ·simp only[zhQ,zdc]
 ·exact Xt _ _ _ _
theorem zai{α:Type}(raw:Bool)(t:TypeId)(v:V)(F:V→Option α)(K:α→Option R):Za (zel P raw t v F) K=zel P raw t v fun v=>Za (F v) K:=by
 cases raw
 ·exact Jz _ _ _ _
 ·rfl
theorem zrj{α:Type}(isB:Bool)(op:BinOp)(x y:V)(F:V→Option α)(K:α→Option R):Za (bop isB op x y F) K=bop isB op x y fun v=>Za (F v) K:=by
 unfold bop
 split
 ·cases op<;>first|rfl|exact Zr _ _ _
 ·split
  ·cases op<;>first|rfl|exact Zr _ _ _
  ·rfl
 ·cases op<;>first|rfl|exact Zr _ _ _
 ·cases op<;>first|rfl|exact Zr _ _ _
 ·rfl
theorem zbe{α:Type}: ∀(fs:List Field) (as_ bs:List V) (acc:Bool) (F:Bool→Option α) (K:α→Option R),Za (zgE P fs as_ bs acc F) K=zgE P fs as_ bs acc fun b=>Za (F b) K
 |[],as_,bs,acc,F,K=>by simp only[zgE,Q4]
 |f::fs,as_,bs,acc,F,K=>by
  simp only[zgE,zaC]
  congr 1
  funext a as_
  congr 1
  funext b bs
  split
  ·simp only[Yo,zbe fs]
  ·simp only[zcE,zbe fs]
  ·simp only[zaB,zbe fs]
  ·simp only[zan,zbe fs]
  ·rfl
theorem zps{α:Type}(t:TypeId)(op:BinOp)(x y:V)(F:V→Option α)(K:α→Option R):Za (zlK P t op x y F) K=zlK P t op x y fun v=>Za (F v) K:=by
 unfold zlK
 split
 ·rw[Zr]
  congr 1
  split
  ·rw[zbe]
   congr 1
   funext b
   cases op<;>rfl
  ·rfl
 ·rw[Zr];congr 1;cases op<;>rfl
 ·rw[Zr];congr 1;cases op<;>rfl
 ·exact zrj _ _ _ _ _ _
theorem zk2{α:Type}(t:TypeId)(x:V)(F:V→Option α)(K:α→Option R):Za (zen P t x F) K=zen P t x fun v=>Za (F v) K:=by
 unfold zen
 rw[Zr]
 congr 1
 split
 ·rfl
 ·exact zbd _ _ _ _
 ·rfl
theorem zrk{α:Type}(op:UnOp)(x:V)(F:V→Option α)(K:α→Option R):Za (uop op x F) K=uop op x fun v=>Za (F v) K:=by
 unfold uop;split<;>rfl
theorem zpt{α:Type}(t u:TypeId)(x:V)(F:V→Option α)(K:α→Option R):Za (conv P t u x F) K=conv P t u x fun v=>Za (F v) K:=by
 unfold conv
 split<;>try rfl
 ·split
  ·exact Zr _ _ _
  ·rfl
 ·split<;>rfl
theorem zmm{α:Type}(t:TypeId)(x:V)(lo hi mx:Option V)(F:V→Option α)(K:α→Option R):Za (zgF P t x lo hi mx F) K=zgF P t x lo hi mx fun v=>Za (F v) K:=by
 unfold zgF
 split
 ·cases lo<;>cases hi<;>cases mx<;>simp only[Zr,Yo]
 ·cases lo<;>cases hi<;>simp only[Zr,Yo]
 ·cases lo<;>cases hi<;>simp only[Zr,Yo]
 ·rfl
theorem zpu{α:Type}(t:TypeId)(x:V)(F:V→Option α)(K:α→Option R):Za (zqP P t x F) K=zqP P t x fun v=>Za (F v) K:=by
 unfold zqP;split<;>first|exact Zr _ _ _|rfl
theorem zfk{α:Type}(t:TypeId)(x:V)(F:Sh→List V→Option α)(K:α→Option R):Za (ziL P st t x F) K=ziL P st t x fun v w=>Za (F v w) K:=by
 unfold ziL
 split
 ·exact Zr _ _ _
 ·exact Zr _ _ _
 ·simp only[Zr,YI,Q5]
 ·rfl
theorem zk3{α:Type}(sh:Sh)(v:V)(F:List V→Option α)(K:α→Option R):Za (Xr sh v F) K=Xr sh v fun a=>Za (F a) K:=by
 cases v<;>try rfl
 rename_i m _ _
 cases m<;>try rfl
 ·simp only[Xr];split<;>rfl
 ·simp only[Xr];split<;>rfl
theorem zk4{α:Type}(t:TypeId)(s:V)(ys:List V)(sh:Sh)(F:V→Option α)(K:α→Option R):Za (zeo P t s ys sh F) K=zeo P t s ys sh fun v=>Za (F v) K:=by
 unfold zeo
 split
 ·rfl
 ·rw[zk3];simp only[Zr]
theorem zdd{α:Type}: ∀(ps:List (Nat×V)) (st:St) (F:List (Nat×V)→St→Option α) (K:α→Option R),Za (X6 ps st F) K=X6 ps st fun v w=>Za (F v w) K
 |[],st,F,K=>rfl
 |(i,v)::rest,st,F,K=>by
  cases v<;>simp only[X6,zdd rest,YI,Q5,Zr]
end
end Go.AM
namespace Go.AM
open Go
section
variable{P:Program}{cfg:Cfg}{O:Oracle}{fid rid idx:Nat}{o:Oper}{ρ:Env}{st:St}{R:Type}{α:Type}
theorem zgc(F:List (Nat×V)→Option α)(K:α→Option R):Za (Jf P cfg fid rid idx o ρ F) K=Jf P cfg fid rid idx o ρ fun us=>Za (F us) K:=by
 unfold Jf
 dsimp only
 cases hop:o.op<;>try simp only[Q3,Zr,Yo,zhQ,Jp,zps,zrk,zpt,zmm]
 case pick c a b=>cases rd ρ (cfg.take fid rid idx) c<;>first|rfl|exact zbd _ _ _ _
 case build t ps=>split<;>first|rfl|exact Zr _ _ _
 case buildSlice t n ps=>
  split
  ·split<;>first|rfl|exact Zr _ _ _
  ·rfl
 case load t a=>
  split
  ·simp only[Zr,zeG]
  ·exact Zr _ _ _
  ·split
   ·simp only[Zr,zbd,zk1]
   ·exact Zr _ _ _
   ·rfl
  ·rfl
 case store t a x=>
  congr 1
  split
  ·exact Zr _ _ _
  ·split<;>first|rfl|exact Zr _ _ _
  ·rfl
 case fieldAddr s x f=>
  split
  ·rfl
  ·simp only[Zr]
   congr 1
   split<;>first|rfl|exact Zr _ _ _|simp only[Zr,Jp]
 case indexAddr t x i=>
  split
  ·split<;>first|rfl|simp only[Zr,Yo]
  ·split<;>first|rfl|simp only[Zr,Yo]
  ·split
   ·split<;>first|rfl|simp only[Zr,Yo]
   ·rfl
  ·rfl
 case field s x f=>
  split
  ·rfl
  ·simp only[Zr,Jp]
 case index t x i=>split<;>first|rfl|simp only[Zr,Yo]
 case makeFunc f first cap=>split<;>rfl
 case makeSlice t l c=>split<;>first|rfl|simp only[Zr,Yo]
 case nilCheck x=>split<;>first|rfl|exact Zr _ _ _
 case typeAssert x u t c=>cases c<;>simp only[bc,zk2,Q3]
theorem zcF(F:List (Nat×V)→Option α)(K:α→Option R):Za (Jx P cfg fid rid idx o ρ st F) K=Jx P cfg fid rid idx o ρ st fun us=>Za (F us) K:=by
 unfold Jx
 dsimp only
 cases hop:o.op<;>try simp only[Q3]
 case load t a=>
  split
  ·simp only[Zr,YI,zd5,zkz]
  ·simp only[YI,Q5,Zr]
   congr 1
   funext x
   congr 1
   funext sh es
   congr 1
   split
   ·simp only[Xt]
   ·split
    ·simp only[Jp,Zr,Xt]
    ·rfl
  ·rfl
 case lookup t m k c=>
  cases c
  ·simp only
   split
   ·simp only[zfi,YI,zhR,Zr,JL]
   ·rfl
  ·rfl
 case call c=>
  split
  ·split
   ·simp only[Zr,zfk,zk4]
   ·rfl
  ·split
   ·simp only[zpu]
   ·rfl
  ·rfl
theorem zk5(sh:Sh)(v:V)(F G:List V→Option α)(K:α→Option R):Za (za4 sh v F G) K=za4 sh v (fun a=>Za (F a) K) (fun a=>Za (G a) K):=by
 cases v<;>try rfl
 rename_i m _ _
 cases m<;>try rfl
 ·simp only[za4];split<;>rfl
 ·simp only[za4];split<;>rfl
theorem zfl(K:α→Option R): ∀(cs:List V) (st:St) (F:List V→St→Option α),Za (zfB cs st F) K=zfB cs st fun cs st=>Za (F cs st) K
 |[],st,F=>rfl
 |v::cs,st,F=>by
  have ih:=zfl K cs
  cases v<;>first
   |(simp only[zfB,YI,Q5,Zr,ih])
   |(simp only[zfB,ih])
theorem zk6(F:List (Nat×V)→St→Option α)(K:α→Option R):Za (zab P cfg fid rid idx o ρ st F) K=zab P cfg fid rid idx o ρ st fun us st=>Za (F us st) K:=by
 unfold zab
 dsimp only
 cases hop:o.op<;>try simp only[Q3,Zr]
 case load t a=>
  split
  ·simp only[Zr,YI,zd5]
   congr 1
   funext x
   congr 1
   funext cs
   congr 1
   split
   ·rfl
   ·exact zk5 ..
  ·split
   ·simp only[Zr,zfl]
   ·rfl
  ·split
   ·simp only[zfl,Zr]
   ·rfl
  ·rfl
 case store t a x=>
  congr 1
  split
  ·split
   ·split
    ·simp only[Zr,YI,zky]
    ·rfl
   ·rfl
  ·simp only[Zr,YI,zd5]
  ·simp only[YI,Q5,Zr]
   congr 1
   funext x
   congr 1
   funext sh es
   congr 1
   split
   ·rfl
   ·split
    ·simp only[Jp,Zr]
    ·rfl
  ·rfl
 case makeSlice t l c=>split<;>first|rfl|simp only[Zr,Yo]
 case buildSlice t n ps=>
  split
  ·split
   ·exact Zr _ _ _
   ·rfl
  ·rfl
 case build t ps=>
  simp only[zdd]
  congr 1
  funext ps st
  split<;>first|rfl|exact Zr _ _ _
 case move x=>
  cases x<;>try rfl
  simp only
  split
  ·simp only[YI,Q5,Zr]
  ·rfl
 case makeMap t x=>
  cases x
  ·simp only
   split<;>rfl
  ·rfl
 case mapUpdate t m k x=>
  split
  ·simp only[zfi,YI,zhR,Zr,JL]
  ·rfl
 case range t x=>simp only[zan,Zr]
 case next it s=>
  cases s
  ·rfl
  ·simp only
   split
   ·simp only[YI,zml,Zr,zbd]
   ·rfl
 case call c=>
  split
  ·split
   ·split
    ·simp only[Zr,zfk]
    ·rfl
   ·rfl
  ·split
   ·split
    ·simp only[Zr,zfk,YI,Q5]
    ·rfl
   ·rfl
  ·rfl
theorem QH(F:List (Nat×V)→Option α)(K:α→Option R):Za (JE o ρ F) K=JE o ρ fun us=>Za (F us) K:=by
 unfold JE
 split
 ·split
  ·split<;>rfl
  ·split<;>rfl
  ·rfl
 ·rfl
theorem zb5{β:Type}(x:Option β)(F:β→Option α)(K:α→Option R):Za (Za x F) K=Za x fun y=>Za (F y) K:=by cases x<;>rfl
theorem zmn{c:Call}{f:Operand}(F:List (Nat×V)→St→Option α)(G:V→St→Option α)(K:α→Option R):Za (Qa P cfg O fid rid idx o c f ρ st F G) K=Qa P cfg O fid rid idx o c f ρ st (fun us st=>Za (F us st) K) fun v st=>Za (G v st) K:=by
 unfold Qa
 dsimp only
 simp only[Zr]
 congr 1
 split
 ·split
  ·simp only[Yo,Zr]
  ·simp only[zbd,zb5,Jz,zai,zbO,zhS,Q3]
 ·simp only[zeq,zbd,zb5,Jz,zai,zhS,Q3]
theorem znA(F:List (Nat×V)→St→Option α)(G:V→St→Option α)(K:α→Option R):Za (XB P cfg O fid rid idx o ρ st F G) K=XB P cfg O fid rid idx o ρ st (fun us st=>Za (F us st) K) fun v st=>Za (G v st) K:=by
 unfold XB
 split
 ·split<;>rfl
 ·exact zmn _ _ _
 ·exact QH _ _
 ·exact QH _ _
 ·split
  ·exact zgc _ _
  ·exact zcF _ _
  ·exact zk6 _ _
def J0(P:Program)(cfg:Cfg)(O:Oracle)(fid rid idx:Nat)(o:Oper)(ρ:Env)(st:St):Option (List (Nat×V)×St):=XB P cfg O fid rid idx o ρ st (fun us st=>some (us,st)) fun _ _=>none
def zhU(P:Program)(cfg:Cfg)(O:Oracle)(fid rid idx:Nat)(o:Oper)(ρ:Env)(st:St):Option ((List (Nat×V)×St)⊕(V×St)):=
 XB P cfg O fid rid idx o ρ st (fun us st=>some (.inl (us,st))) fun v st=>some (.inr (v,st))
theorem Q6{rid idx:Nat}{o:Oper}{ρ:Env}{st:St}(F:List (Nat×V)→St→Option R)(G:V→St→Option R):
  XB P cfg O fid rid idx o ρ st F G=Za (zhU P cfg O fid rid idx o ρ st) fun| .inl x=>F x.1 x.2| .inr x=>G x.1 x.2:=by
 unfold zhU
 rw[znA]
 rfl
end
end Go.AM
namespace Go.AM
open Go
section
variable{P:Program}{cfg:Cfg}{O:Oracle}{fid rid idx:Nat}{o:Oper}{ρ ρ':Env}{st:St}{R:Type}{α:Type}
def SameOn(ρ ρ':Env)(xs:List Operand):Prop:= ∀x∈xs,ev ρ' x=ev ρ x∧ ∀b off,ev ρ x= .lptr b off→ρ'.get b=ρ.get b
theorem SameOn.rd{xs:List Operand}(h:SameOn ρ ρ' xs)(tk:Bool){x:Operand}(hx:x∈xs):AM.rd ρ' tk x=AM.rd ρ tk x:=by unfold AM.rd;rw[(h x hx).1]
theorem SameOn.upds{xs ys:List Operand}(h:SameOn ρ ρ' xs)(tk:Bool)(hy: ∀y∈ys,y∈xs):AM.upds ρ' tk ys=AM.upds ρ tk ys:=by
 unfold AM.upds
 induction ys with
 |nil=>rfl
 |cons y ys ih=>
  rw[List.flatMap_cons,List.flatMap_cons,ih fun z hz=>hy z (List.mem_cons_of_mem _ hz)]
  congr 1
  have:=(h y (hy y (List.mem_cons_self ..))).1
  unfold zlJ
  cases y with
  |tmp t=>
   have e:ρ'.get t=ρ.get t:=this
   simp only[e]
  |_=>rfl
theorem zay(op:Op): ∀y∈Z1 op,y∈op.operands.toList:=by
 intro y hy
 cases op<;>simp only[Z1]at hy<;>first|exact hy|(simp at hy;done)|(simp only[List.mem_singleton]at hy;subst hy;simp[Op.operands])
theorem zbP{e:TypeId}{f g:Operand→V}: ∀(ps:List (Nat×Operand)) (es:List V),(∀p∈ps,f p.2=g p.2)→YT P e f ps es=YT P e g ps es
 |[],es,_=>rfl
 |(i,x)::ps,es,h=>by
  simp only[YT]
  rw[h (i,x) (List.mem_cons_self ..)]
  congr 1
  exact zbP ps _ fun p hp=>h p (List.mem_cons_of_mem _ hp)
theorem znB(h:SameOn ρ ρ' o.op.operands.toList)(F:List (Nat×V)→Option R):Jf P cfg fid rid idx o ρ' F=Jf P cfg fid rid idx o ρ F:=by
 have hu:=h.upds (cfg.take fid rid idx) (zay o.op)
 have hr:=fun {x} hx=>h.rd (cfg.take fid rid idx) (x:=x) hx
 unfold Jf
 dsimp only
 rw[hu]
 revert h hr
 clear hu
 cases hop:o.op<;>intro h hr<;>simp only[Op.operands]at h hr⊢
 case move x=>rw[hr (by simp)]
 case assign x=>rw[hr (by simp)]
 case pick c a b=>rw[hr (x:=c) (by simp),hr (x:=a) (by simp),hr (x:=b) (by simp)]
 case box e x=>rw[hr (by simp)]
 case build t ps=>
  have:(ps.toList.map fun p=>(p.1,rd ρ' (cfg.take fid rid idx) p.2))=ps.toList.map fun p=>(p.1,rd ρ (cfg.take fid rid idx) p.2):=
   List.map_congr_left fun p hp=>by rw[hr (List.mem_map.2 ⟨p,hp,rfl⟩)]
  rw[this]
 case buildSlice t n ps=>
  have: ∀e,YT P e (rd ρ' (cfg.take fid rid idx)) ps.toList (List.replicate n (zeroV P e))=YT P e (rd ρ (cfg.take fid rid idx)) ps.toList (List.replicate n (zeroV P e)):=
   fun e=>zbP _ _ fun p hp=>hr (List.mem_map.2 ⟨p,hp,rfl⟩)
  simp only[this]
 case load t a=>
  obtain⟨h1,h2⟩:=h a (by simp)
  rw[h1]
  cases hv:ev ρ a<;>try rfl
  rename_i b off
  dsimp only
  rw[h2 b off hv]
 case store t a x=>
  obtain⟨h1,h2⟩:=h a (by simp)
  rw[h1,hr (x:=x) (by simp)]
  cases hv:ev ρ a with
  |lptr b off=>cases a<;>dsimp only<;>rw[h2 b off hv]
  |_=>cases a<;>rfl
 case fieldAddr s x f=>rw[(h x (by simp)).1]
 case indexAddr t x i=>rw[(h x (by simp)).1,hr (x:=i) (by simp)]
 case field s x f=>rw[hr (by simp)]
 case index t x i=>rw[hr (x:=x) (by simp),hr (x:=i) (by simp)]
 case extract x i=>rw[hr (by simp)]
 case binOp op t x y u=>rw[hr (x:=x) (by simp),hr (x:=y) (by simp)]
 case unOp op t x=>rw[hr (by simp)]
 case convert s d x=>rw[hr (by simp)]
 case makeFunc f first cap=>
  have h1:(first.toList.map fun x=>plain1 (rd ρ' (cfg.take fid rid idx) x))=first.toList.map fun x=>plain1 (rd ρ (cfg.take fid rid idx) x):=List.map_congr_left fun x hx=>by rw[hr (by simp at hx⊢;exact .inl hx)]
  have h2:(cap.toList.map fun x=>plain1 (rd ρ' (cfg.take fid rid idx) x))=cap.toList.map fun x=>plain1 (rd ρ (cfg.take fid rid idx) x):=List.map_congr_left fun x hx=>by rw[hr (by simp at hx⊢;exact .inr hx)]
  rw[h1,h2]
 case makeSlice t l c=>rw[hr (x:=l) (by simp),hr (x:=c) (by simp)]
 case slice t x lo hi mx=>
  have ho: ∀y:Option Operand,(∀z,y=some z→z∈(#[x]++lo.toArray++hi.toArray++mx.toArray).toList)→y.map (rd ρ' (cfg.take fid rid idx))=y.map (rd ρ (cfg.take fid rid idx)):=by
   intro y hy
   cases y with
   |none=>rfl
   |some z=>simp only[Option.map_some];rw[hr (hy z rfl)]
  rw[hr (x:=x) (by simp),ho lo (by rintro z rfl;simp),ho hi (by rintro z rfl;simp),ho mx (by rintro z rfl;simp)]
 case nilCheck x=>rw[(h x (by simp)).1]
 case makeInterface t x=>rw[hr (by simp)]
 case typeAssert x u t c=>rw[hr (x:=x) (by simp)]
 all_goals rfl
theorem zbQ{c:Call}{b:Builtin}(hc:c.callee= .builtin b):c.operands.toList=c.args.toList:=by simp[Call.operands,hc]
theorem znC(h:SameOn ρ ρ' o.op.operands.toList)(F:List (Nat×V)→Option R):Jx P cfg fid rid idx o ρ' st F=Jx P cfg fid rid idx o ρ st F:=by
 have hu:=h.upds (cfg.take fid rid idx) (zay o.op)
 have hr:=fun {x} hx=>h.rd (cfg.take fid rid idx) (x:=x) hx
 unfold Jx
 dsimp only
 rw[hu]
 revert h hr
 clear hu
 cases hop:o.op<;>intro h hr<;>simp only[Op.operands]at h hr⊢
 case load t a=>rw[(h a (by simp)).1]
 case lookup t m k c=>
  cases c
  ·dsimp only
   rw[hr (x:=m) (by simp),hr (x:=k) (by simp)]
  ·rfl
 case call c=>
  cases hc:c.callee with
  |builtin b=>
   rw[zbQ hc]at hr
   cases b<;>try rfl
   ·simp only
    split
    ·rename_i s x t t' ha ht
     rw[hr (x:=s) (by rw[ha];simp),hr (x:=x) (by rw[ha];simp)]
    ·rfl
   ·simp only
    split
    ·rename_i x t ha ht
     rw[hr (x:=x) (by rw[ha];simp)]
    ·rfl
  |_=>rfl
 all_goals rfl
theorem zmo(h:SameOn ρ ρ' o.op.operands.toList)(F:List (Nat×V)→St→Option R):zab P cfg fid rid idx o ρ' st F=zab P cfg fid rid idx o ρ st F:=by
 have hu:=h.upds (cfg.take fid rid idx) (zay o.op)
 have hr:=fun {x} hx=>h.rd (cfg.take fid rid idx) (x:=x) hx
 unfold zab
 dsimp only
 rw[hu]
 revert h hr
 clear hu
 cases hop:o.op<;>intro h hr<;>simp only[Op.operands]at h hr⊢
 case load t a=>
  obtain⟨h1,h2⟩:=h a (by simp)
  rw[h1]
  cases hv:ev ρ a with
  |lptr b off=>dsimp only;rw[h2 b off hv]
  |loc d sh v=>cases v<;>rfl
  |_=>rfl
 case buildSlice t n ps=>
  have: ∀e,YT P e (rd ρ' (cfg.take fid rid idx)) ps.toList (List.replicate n (zeroV P e))=YT P e (rd ρ (cfg.take fid rid idx)) ps.toList (List.replicate n (zeroV P e)):=
   fun e=>zbP _ _ fun p hp=>hr (List.mem_map.2 ⟨p,hp,rfl⟩)
  simp only[this]
 case store t a x=>rw[(h a (by simp)).1,hr (x:=x) (by simp)]
 case box e x=>rw[hr (by simp)]
 case makeSlice t l c=>rw[hr (x:=l) (by simp),hr (x:=c) (by simp)]
 case build t ps=>
  have:(ps.toList.map fun p=>(p.1,rd ρ' (cfg.take fid rid idx) p.2))=ps.toList.map fun p=>(p.1,rd ρ (cfg.take fid rid idx) p.2):=
   List.map_congr_left fun p hp=>by rw[hr (List.mem_map.2 ⟨p,hp,rfl⟩)]
  rw[this]
 case move x=>
  cases x with
  |tmp t=>
   have:=(h (.tmp t) (by simp)).1
   simp only[ev]at this
   dsimp only
   rw[this]
  |_=>rfl
 case makeMap t x=>cases x<;>rfl
 case mapUpdate t m k x=>rw[hr (x:=m) (by simp),hr (x:=k) (by simp),hr (x:=x) (by simp)]
 case range t x=>rw[hr (x:=x) (by simp)]
 case next it z=>
  cases z
  ·rfl
  ·dsimp only
   rw[(h it (by simp)).1]
 case call c=>
  cases hc:c.callee with
  |builtin b=>
   rw[zbQ hc]at hr
   cases b<;>try rfl
   ·simp only
    split
    ·rename_i s x t t' ha ht
     rw[hr (x:=s) (by rw[ha];simp),hr (x:=x) (by rw[ha];simp)]
    ·rfl
   ·simp only
    split
    ·rename_i s x t t' ha ht
     rw[hr (x:=s) (by rw[ha];simp),hr (x:=x) (by rw[ha];simp)]
    ·rfl
  |_=>rfl
 all_goals rfl
end
end Go.AM
namespace Go.AM
open Go
section
variable{P:Program}{cfg:Cfg}{O:Oracle}{fid rid idx:Nat}{o:Oper}{ρ ρ':Env}{st:St}{R:Type}{α:Type}
theorem zhV(h:SameOn ρ ρ' o.op.operands.toList)(F:List (Nat×V)→Option R):JE o ρ' F=JE o ρ F:=by
 unfold JE
 revert h
 cases hop:o.op<;>intro h<;>simp only[Op.operands]at h⊢
 rename_i c
 cases hc:c.callee with
 |builtin b=>
  rw[zbQ hc]at h
  cases b<;>try rfl
  ·split<;>try rfl
   ·rename_i x y hb ha
    rw[ha]at h
    rw[(h x (by simp)).1,(h y (by simp)).1]
   ·rename_i x y hb ha
    rw[ha]at h
    rw[(h x (by simp)).1,(h y (by simp)).1]
  ·split<;>try rfl
   ·rename_i x y hb ha
    rw[ha]at h
    rw[(h x (by simp)).1,(h y (by simp)).1]
   ·rename_i x y hb ha
    rw[ha]at h
    rw[(h x (by simp)).1,(h y (by simp)).1]
 |_=>rfl
theorem zmp{g:Nat}{c:Call}{e:TypeId}{x:Operand}(h:zcb P g c=some (e,x)):x∈c.args.toList:=by
 unfold zcb at h
 split at h
 ·rename_i y hy
  obtain⟨_,_,h⟩:=Option.map_eq_some_iff.1 h
  simp only[Prod.mk.injEq]at h
  rw[hy,←h.2]
  simp
 ·cases h
theorem znD{c:Call}{f:Operand}(hc:c.callee= .value f)(h:SameOn ρ ρ' c.operands.toList)(F:List (Nat×V)→St→Option R)(G:V→St→Option R):
  Qa P cfg O fid rid idx o c f ρ' st F G=Qa P cfg O fid rid idx o c f ρ st F G:=by
 have hops:c.operands.toList=f::c.args.toList:=by simp[Call.operands,hc]
 rw[hops]at h
 have hu:=h.upds (cfg.take fid rid idx) (ys:=f::c.args.toList) (fun y hy=>hy)
 have hz:List.zipWith (fun x t=>plainAs P t (rd ρ' (cfg.take fid rid idx) x)) c.args.toList c.argTypes.toList=List.zipWith (fun x t=>plainAs P t (rd ρ (cfg.take fid rid idx) x)) c.args.toList c.argTypes.toList:=by
  have: ∀(xs:List Operand) (ts:List TypeId),(∀x∈xs,x∈f::c.args.toList)→List.zipWith (fun x t=>plainAs P t (rd ρ' (cfg.take fid rid idx) x)) xs ts=List.zipWith (fun x t=>plainAs P t (rd ρ (cfg.take fid rid idx) x)) xs ts:=by
   intro xs
   induction xs with
   |nil=>intro ts _;rfl
   |cons x xs ih=>
    intro ts hx
    cases ts with
    |nil=>rfl
    |cons t ts=>
     simp only[List.zipWith_cons_cons]
     rw[h.rd _ (hx x (List.mem_cons_self ..)),ih ts fun y hy=>hx y (List.mem_cons_of_mem _ hy)]
  exact this _ _ fun x hx=>List.mem_cons_of_mem _ hx
 unfold Qa
 dsimp only
 rw[hu,hz]
 congr 1
 split
 ·split
  ·rename_i hg
   rw[h.rd _ (List.mem_cons_of_mem _ (zmp hg))]
  ·rfl
 ·rw[h.rd _ (List.mem_cons_self ..)]
theorem zhe(h:SameOn ρ ρ' o.op.operands.toList):zax cfg fid rid idx o ρ'=zax cfg fid rid idx o ρ:=by
 unfold zax
 revert h
 cases hop:o.op<;>intro h<;>simp only[Op.operands]at h⊢
 case load t a=>rw[(h a (by simp)).1]
 case store t a x=>rw[(h a (by simp)).1,(h x (by simp)).1]
 case move x=>
  cases x with
  |tmp t=>
   have:=(h (.tmp t) (by simp)).1
   simp only[ev]at this
   simp only[this]
  |_=>rfl
 case build t ps=>
  split
  ·rfl
  congr 1
  apply propext
  constructor
  ·intro hx
   obtain⟨p,hp,hx⟩:=List.any_eq_true.1 hx
   have e:=(h p.2 (List.mem_map.2 ⟨p,hp,rfl⟩)).1
   exact List.any_eq_true.2 ⟨p,hp,by rw[e]at hx;exact hx⟩
  ·intro hx
   obtain⟨p,hp,hx⟩:=List.any_eq_true.1 hx
   have e:=(h p.2 (List.mem_map.2 ⟨p,hp,rfl⟩)).1
   exact List.any_eq_true.2 ⟨p,hp,by rw[e];exact hx⟩
theorem zjm(h:SameOn ρ ρ' o.op.operands.toList)(F:List (Nat×V)→St→Option R)(G:V→St→Option R):XB P cfg O fid rid idx o ρ' st F G=XB P cfg O fid rid idx o ρ st F G:=by
 unfold XB
 split
 ·rename_i x hop
  rw[hop]at h
  simp only[Op.operands]at h
  rw[h.rd false (x:=x) (by simp)]
 ·rename_i f args argTypes hop
  rw[hop]at h
  exact znD (c:={callee:= .value f,args,argTypes}) rfl h F G
 ·exact zhV h _
 ·exact zhV h _
 ·rw[zhe h]
  split
  ·exact znB h _
  ·exact znC h _
  ·exact zmo h _
theorem zjn(h:SameOn ρ ρ' o.op.operands.toList):J0 P cfg O fid rid idx o ρ' st=J0 P cfg O fid rid idx o ρ st:=zjm h _ _
theorem zpv(h:SameOn ρ ρ' o.op.operands.toList):zhU P cfg O fid rid idx o ρ' st=zhU P cfg O fid rid idx o ρ st:=zjm h _ _
theorem zrl(h:SameOn ρ ρ' o.op.operands.toList):zfD cfg fid rid idx o ρ'=zfD cfg fid rid idx o ρ:=by
 unfold zfD
 split
 ·split
  ·rfl
  ·exact zhe h
 ·exact zhe h
theorem zrm(hk:zfD cfg fid rid idx o ρ= .none): ∃y,∀st,J0 P cfg O fid rid idx o ρ st=Za y fun us=>some (us,st):=by
 unfold J0 XB
 split
 ·rename_i x hop
  refine⟨none,fun st=> ?_⟩
  split<;>rfl
 ·rename_i f args argTypes hop
  simp only[zfD,hop]at hk
  cases f with
  |func g=>
   simp only at hk
   split at hk
   ·rename_i hp
    refine⟨Qa P cfg O fid rid idx o {callee:= .value (.func g),args,argTypes} (.func g) ρ [] (fun us _=>some us) (fun _ _=>none),fun st=> ?_⟩
    unfold Qa
    dsimp only
    rw[hp]
    cases zcb P g {callee:= .value (.func g),args,argTypes}with
    |some p=>simp only[Yo,Zr,zfh]
    |none=>
    simp only[zbd,Zr,zb5,Jz,zai,zbO,zfh]
    cases isExtern P g<;>simp only[bc,Zr,zb5,Jz,zai,zbO,zfh]
   ·cases hk
  |_=>simp only[zax,hop]at hk;cases hk
 ·refine⟨JE o ρ some,fun st=> ?_⟩
  rw[QH];rfl
 ·refine⟨JE o ρ some,fun st=> ?_⟩
  rw[QH];rfl
 ·rename_i h1 h2 h3 h4
  have hs:zax cfg fid rid idx o ρ= .none:=by
   unfold zfD at hk
   split at hk
   ·rename_i c hop
    split at hk
    ·rename_i g hc
     exfalso
     cases c with
     |mk callee args argTypes=>
      simp only at hc
      subst hc
      exact h2 _ _ _ hop
    ·exact hk
   ·exact hk
  rw[hs]
  refine⟨Jf P cfg fid rid idx o ρ some,fun st=> ?_⟩
  rw[zgc];rfl
theorem zrn(hk:zfD cfg fid rid idx o ρ= .read)(st:St): ∃y,J0 P cfg O fid rid idx o ρ st=Za y fun us=>some (us,st):=by
 unfold J0 XB
 split
 ·refine⟨none, ?_⟩
  split<;>rfl
 ·rename_i f args argTypes hop
  exfalso
  simp only[zfD,hop]at hk
  cases f with
  |func g=>simp only at hk;split at hk<;>cases hk
  |_=>simp only[zax,hop]at hk;cases hk
 ·refine⟨JE o ρ some, ?_⟩
  rw[QH];rfl
 ·refine⟨JE o ρ some, ?_⟩
  rw[QH];rfl
 ·rename_i h1 h2 h3 h4
  have hs:zax cfg fid rid idx o ρ= .read:=by
   unfold zfD at hk
   split at hk
   ·rename_i c hop
    split at hk
    ·rename_i g hc
     exfalso
     cases c with
     |mk callee args argTypes=>
      simp only at hc
      subst hc
      exact h2 _ _ _ hop
    ·exact hk
   ·exact hk
  rw[hs]
  refine⟨Jx P cfg fid rid idx o ρ st some, ?_⟩
  rw[zcF];rfl
end
end Go.AM
namespace Go.AM
open Go Go.RowKit
section
variable{P:Program}{cfg:Cfg}{O:Oracle}{fid rid:Nat}{all:List Oper}{ρ ρ' ρ1 ρe:Env}{st st' st1 st2 ste:St}{us us1 us2:List (Nat×V)}{R:Type}{r:R}
def EqE(ρ ρ':Env):Prop:= ∀t,ρ'.get t=ρ.get t
theorem EqE.refl(ρ:Env):EqE ρ ρ:=fun _=>rfl
theorem EqE.symm(h:EqE ρ ρ'):EqE ρ' ρ:=fun t=>(h t).symm
theorem EqE.trans(h:EqE ρ ρ')(k:EqE ρ' ρ1):EqE ρ ρ1:=fun t=>(k t).trans (h t)
theorem ZK: ∀(us:List (Nat×V)) (ρ:Env) {t:Nat},t∉us.map (·.1)→(ρ.apply us).get t=ρ.get t
 |[],ρ,t,_=>rfl
 |(k,v)::us,ρ,t,h=>by
  simp only[List.map_cons,List.mem_cons,not_or]at h
  simp only[Env.apply]
  rw[ZK us _ h.2,Zp,if_neg h.1]
theorem zaE: ∀(us:List (Nat×V)) (ρ ρ':Env) {t:Nat},t∈us.map (·.1)→(ρ.apply us).get t=(ρ'.apply us).get t
 |(k,v)::us,ρ,ρ',t,h=>by
  simp only[Env.apply]
  by_cases hm:t∈us.map (·.1)
  ·exact zaE us _ _ hm
  ·have e:t=k:=by simpa[hm]using h
   rw[ZK us _ hm,ZK us _ hm,Zp,Zp,if_pos e,if_pos e]
theorem EqE.apply(h:EqE ρ ρ')(us:List (Nat×V)):EqE (ρ.apply us) (ρ'.apply us):=fun t=>by
 by_cases hm:t∈us.map (·.1)
 ·exact zaE us _ _ hm
 ·rw[ZK us _ hm,ZK us _ hm];exact h t
inductive GKind(ρ:Env)(all:List Oper)(o:Oper):List Nat→Bool→Prop where
 |plain (h:o.guard=none):GKind ρ all o [] true
 |run (g:Nat) (want:Bool) (t:Nat) (h:o.guard=some (g,want)) (ht:(all[g]?).bind (·.dst)=some t) (hv:ρ.get t= .bool want):GKind ρ all o [t] true
 |skip (g:Nat) (want:Bool) (t:Nat) (b:Bool) (h:o.guard=some (g,want)) (ht:(all[g]?).bind (·.dst)=some t) (hv:ρ.get t= .bool b) (hb:b≠want):GKind ρ all o [t] false
 |none (g:Nat) (want:Bool) (t:Nat) (h:o.guard=some (g,want)) (ht:(all[g]?).bind (·.dst)=some t) (hv:ρ.get t= .tup []):GKind ρ all o [t] false
theorem Kind.g{o:Oper}{g:List Nat}{b:Bool}(h:Kind ρ all o ρ1 g b):GKind ρ all o g b:=by
 cases h with
 |plain h=>exact .plain h
 |run g want t h ht hv=>exact .run g want t h ht hv
 |skip g want t b h ht hv hb=>exact .skip g want t b h ht hv hb
 |none g want t h ht hv=>exact .none g want t h ht hv
theorem GKind.congr{o:Oper}{g:List Nat}{b:Bool}(h:GKind ρ all o g b)(he: ∀t∈g,ρ'.get t=ρ.get t):GKind ρ' all o g b:=by
 cases h with
 |plain h=>exact .plain h
 |run g want t h ht hv=>exact .run g want t h ht (by rw[he t (by simp),hv])
 |skip g want t b h ht hv hb=>exact .skip g want t b h ht (by rw[he t (by simp),hv]) hb
 |none g want t h ht hv=>exact .none g want t h ht (by rw[he t (by simp),hv])
def StpD(P:Program)(cfg:Cfg)(O:Oracle)(fid rid:Nat)(all:List Oper)(i:Nat)(ρ:Env)(st:St)(us:List (Nat×V))(st2:St)(ft:Foot):Prop:=
 ∃o g b,all[i]? =some o∧GKind ρ all o g b∧freshDst ρ o.dst=true∧
  ((b=true∧J0 P cfg O fid rid i o ρ st=some (us,st2)∧ft=ZJ cfg fid rid i o g ρ (us.map (·.1)))∨
   (b=false∧us=ZL o.dst (.tup [])∧st2=st∧ft={idx:=i,reads:=g,writes:=o.dst.toList,sk:= .none}))
theorem StpD.idx{i:Nat}{ft:Foot}(h:StpD P cfg O fid rid all i ρ st us st2 ft):ft.idx=i:=by
 obtain⟨o,g,b,_,_,_,⟨_,_,rfl⟩|⟨_,_,_,rfl⟩⟩:=h<;>rfl
theorem StpD.writes{i:Nat}{ft:Foot}(h:StpD P cfg O fid rid all i ρ st us st2 ft): ∀t∈us.map (·.1),t∈ft.writes:=by
 obtain⟨o,g,b,_,_,_,⟨_,_,rfl⟩|⟨_,rfl,_,rfl⟩⟩:=h
 ·intro t ht;simp only[ZJ,List.mem_append];exact .inr ht
 ·intro t ht
  cases hd:o.dst with
  |none=>rw[hd]at ht;simp[ZL]at ht
  |some d=>rw[hd]at ht;simpa[ZL]using ht
theorem zhf{xs:List Operand}(h: ∀t∈tmpsOf xs,ρ'.get t=ρ.get t)(hb: ∀t∈zhD ρ xs,ρ'.get t=ρ.get t):SameOn ρ ρ' xs:=by
 intro x hx
 refine⟨?_,fun b off he=>hb b ?_⟩
 ·cases x with
  |tmp t=>exact h t (List.mem_filterMap.2 ⟨_,hx,rfl⟩)
  |_=>rfl
 ·exact List.mem_filterMap.2 ⟨x,hx,by rw[he]⟩
theorem zpw{xs:List Operand}(h:SameOn ρ ρ' xs):zhD ρ' xs=zhD ρ xs:=by
 unfold zhD
 induction xs with
 |nil=>rfl
 |cons x xs ih=>
  simp only[List.filterMap_cons]
  rw[(h x (by simp)).1,ih fun y hy=>h y (by simp[hy])]
theorem zro{o:Oper}{g ws:List Nat}(h:SameOn ρ ρ' o.op.operands.toList):zko o g ρ' ws=zko o g ρ ws:=by
 unfold zko
 cases hop:o.op with
 |load t a=>
  cases a with
  |tmp x=>
   have:=(h (.tmp x) (by simp[hop,Op.operands])).1
   simp only[ev]at this
   cases g<;>cases o.dst<;>simp only[this]
  |_=>cases g<;>cases o.dst<;>rfl
 |_=>cases g<;>cases o.dst<;>rfl
theorem zrp{o:Oper}{g:List Nat}(h:SameOn ρ ρ' o.op.operands.toList):ziO o g ρ'=ziO o g ρ:=by
 unfold ziO
 cases hop:o.op with
 |fieldAddr s a f=>
  cases a with
  |tmp x=>
   have:=(h (.tmp x) (by simp[hop,Op.operands])).1
   simp only[ev]at this
   cases g<;>cases o.dst<;>simp only[this]
  |_=>cases g<;>cases o.dst<;>rfl
 |_=>cases g<;>cases o.dst<;>rfl
theorem zhg{i:Nat}{o:Oper}{g ws:List Nat}(h:SameOn ρ ρ' o.op.operands.toList):ZJ cfg fid rid i o g ρ' ws=ZJ cfg fid rid i o g ρ ws:=by
 unfold ZJ
 unfold skF
 have hL: ∀f,mvL f o g ρ' ws=mvL f o g ρ ws:=fun f=>by cases f<;>first|rfl|exact zro h
 rw[zpw h,zrl h,hL,zrp h]
theorem zcG{o:Oper}(h: ∀d,o.dst=some d→ρ'.get d=ρ.get d):freshDst ρ' o.dst=freshDst ρ o.dst:=by
 unfold freshDst
 cases hd:o.dst with
 |none=>rfl
 |some d=>simp only;rw[h d hd]
theorem StpD.frame{i:Nat}{ft:Foot}(h:StpD P cfg O fid rid all i ρ st us st2 ft)(he: ∀t,t∈ft.reads∨t∈ft.writes→ρ'.get t=ρ.get t):
  StpD P cfg O fid rid all i ρ' st us st2 ft:=by
 obtain⟨o,g,b,ho,hg,hf,⟨hb,hs,rfl⟩|⟨hb,hu,hst,rfl⟩⟩:=h
 ·have hsame:SameOn ρ ρ' o.op.operands.toList:=zhf (fun t ht=>he t (.inl (by simp[ZJ,ht]))) fun t ht=>he t (.inl (by simp[ZJ,ht]))
  refine⟨o,g,b,ho,hg.congr fun t ht=>he t (.inl (by simp[ZJ,ht])), ?_, .inl ⟨hb,by rw[zjn hsame];exact hs,(zhg hsame).symm⟩⟩
  rw[zcG fun d hd=>he d (.inr (by simp[ZJ,hd]))];exact hf
 ·refine⟨o,g,b,ho,hg.congr fun t ht=>he t (.inl ht), ?_, .inr ⟨hb,hu,hst,rfl⟩⟩
  rw[zcG fun d hd=>he d (.inr (by simp[hd]))];exact hf
theorem StpD.congr{i:Nat}{ft:Foot}(h:StpD P cfg O fid rid all i ρ st us st2 ft)(he:EqE ρ ρ'):StpD P cfg O fid rid all i ρ' st us st2 ft:=h.frame fun t _=>he t
theorem zsF{i:Nat}{o:Oper}(hl:zb0 o=true): ∃y,∀st,J0 P cfg O fid rid i o ρ st=Za y fun us=>some (us,st):=by
 unfold zb0 at hl
 cases hop:o.op with
 |call c=>
  rw[hop]at hl
  simp only at hl
  obtain⟨callee,args,tys⟩:=c
  cases callee with
  |builtin b=>
   cases b with
   |len=>
    have hsk:zax cfg fid rid i o ρ= .read:=by simp only[zax,hop]
    refine⟨Jx P cfg fid rid i o ρ [] some,fun st=> ?_⟩
    have e: ∀F:List (Nat×V)→Option (List (Nat×V)×St),Jx P cfg fid rid i o ρ st F=Jx P cfg fid rid i o ρ [] F:=fun F=>by
     unfold Jx
     simp only[hop]
    unfold J0 XB
    simp only[hop,hsk]
    rw[zcF]
    exact e _
   |_=>simp at hl
  |_=>simp at hl
 |_=>rw[hop]at hl;simp at hl
theorem StpD.pure{i:Nat}{ft:Foot}(h:StpD P cfg O fid rid all i ρ st us st2 ft)(hk:ft.sk= .none):st2=st∧ ∀st',StpD P cfg O fid rid all i ρ st' us st' ft:=by
 obtain⟨o,g,b,ho,hg,hf,⟨hb,hs,rfl⟩|⟨hb,hu,hst,rfl⟩⟩:=h
 ·have hkk:skF cfg fid rid i o ρ= .none:=hk
  obtain⟨y,hy⟩: ∃y,∀st,J0 P cfg O fid rid i o ρ st=Za y fun us=>some (us,st):=by
   unfold skF at hkk
   cases hl:zb0 o with
   |true=>exact zsF hl
   |false=>rw[hl]at hkk;exact zrm (P:=P) (O:=O) hkk
  rw[hy]at hs
  obtain⟨us',rfl,hs⟩:=Y8 hs
  cases hs
  exact⟨rfl,fun st'=>⟨o,g,b,ho,hg,hf, .inl ⟨hb,by rw[hy];rfl,rfl⟩⟩⟩
 ·exact⟨hst,fun st'=>⟨o,g,b,ho,hg,hf, .inr ⟨hb,hu,rfl,rfl⟩⟩⟩
theorem StpD.reads{i:Nat}{ft:Foot}(h:StpD P cfg O fid rid all i ρ st us st2 ft)(hk:ft.sk≠ .write):st2=st:=by
 cases hs:ft.sk with
 |none=>exact(h.pure hs).1
 |write=>exact absurd hs hk
 |read=>
  obtain⟨o,g,b,ho,hg,hf,⟨hb,hst,rfl⟩|⟨hb,hu,hst,rfl⟩⟩:=h
  ·have hkk:skF cfg fid rid i o ρ= .read:=hs
   have hk2:zfD cfg fid rid i o ρ= .read:=by
    unfold skF at hkk
    cases hl:zb0 o with
    |true=>rw[hl]at hkk;cases hkk
    |false=>rw[hl]at hkk;exact hkk
   obtain⟨y,hy⟩:=zrn (P:=P) (O:=O) hk2 st
   rw[hy]at hst
   obtain⟨us',rfl,hst⟩:=Y8 hst
   cases hst;rfl
  ·exact hst
theorem zeu{a b:List Nat}(h:zuQ a b=true): ∀t∈a,t∉b:=by
 intro t ht
 have:=List.all_eq_true.1 h t ht
 simpa using this
theorem zvJ{i j:Nat}{fi fj:Foot}(h1:StpD P cfg O fid rid all i ρ st us1 st1 fi)(h2:StpD P cfg O fid rid all j (ρ.apply us1) st1 us2 st2 fj)(hc:XL fi fj=true):
  ∃stm,StpD P cfg O fid rid all j ρ st us2 stm fj∧StpD P cfg O fid rid all i (ρ.apply us2) stm us1 st2 fi∧EqE ((ρ.apply us1).apply us2) ((ρ.apply us2).apply us1):=by
 simp only[XL,Bool.and_eq_true]at hc
 obtain⟨⟨d1,d2⟩,d3⟩:=hc
 have d1:=zeu d1
 have d2:=zeu d2
 have hj: ∀t,t∈fj.reads∨t∈fj.writes→ρ.get t=(ρ.apply us1).get t:=fun t ht=>
  (ZK us1 ρ fun hm=>d1 t (h1.writes t hm) (by rcases ht with h|h<;>simp[h])).symm
 have hi: ∀t,t∈fi.reads∨t∈fi.writes→(ρ.apply us2).get t=ρ.get t:=fun t ht=>
  ZK us2 ρ fun hm=>by
   have hw:=h2.writes t hm
   rcases ht with h|h
   ·exact d2 t hw h
   ·exact d1 t h (by simp[hw])
 have hE:EqE ((ρ.apply us1).apply us2) ((ρ.apply us2).apply us1):=fun t=>by
  by_cases m1:t∈us1.map (·.1)
  ·have m2:t∉us2.map (·.1):=fun hm=>d1 t (h1.writes t m1) (by simp[h2.writes t hm])
   rw[ZK us2 _ m2]
   exact zaE us1 _ _ m1
  ·rw[ZK us1 _ m1]
   by_cases m2:t∈us2.map (·.1)
   ·exact zaE us2 _ _ m2
   ·rw[ZK us2 _ m2,ZK us2 _ m2,ZK us1 _ m1]
 have h2':=h2.frame hj
 cases hki:fi.sk with
 |none=>
  obtain⟨rfl,ha⟩:=h1.pure hki
  exact⟨st2,h2',(ha st2).frame hi,hE⟩
 |read=>
  rw[hki]at d3
  have e1:=h1.reads (by rw[hki];simp)
  subst e1
  have e2:st2=st1:=by
   cases hkj:fj.sk with
   |none=>exact(h2.pure hkj).1
   |read=>exact h2.reads (by rw[hkj];simp)
   |write=>rw[hkj]at d3;cases d3
  subst e2
  exact⟨_,h2',h1.frame hi,hE⟩
 |write=>
  rw[hki]at d3
  have hkj:fj.sk= .none:=by
   cases hkj:fj.sk with
   |none=>rfl
   |read=>rw[hkj]at d3;cases d3
   |write=>rw[hkj]at d3;cases d3
  obtain⟨rfl,ha⟩:=h2'.pure hkj
  exact⟨st,ha st,h1.frame hi,hE⟩
theorem zci{a b:Nat}(h:(!Nat.beq a b)=true):a≠b:=fun e=>by
 subst e;simp at h
theorem zsG{frz:Bool}{o:Oper}{g ws:List Nat}{y:Nat×Nat×Nat×Nat}(h:mvL frz o g ρ ws=some y):frz=false∧zko o g ρ ws=some y:=by
 cases frz
 ·exact⟨rfl,h⟩
 ·cases h
theorem zrq{o:Oper}{g ws:List Nat}{v off d x:Nat}(h:zko o g ρ ws=some (v,off,d,x)):g=[]∧(∃t,o.op= .load t (.tmp x))∧o.dst=some d∧ρ.get x= .lptr v off∧v∈ws:=by
 unfold zko at h
 split at h
 ·rename_i t y d' h1 h2
  split at h
  ·rename_i v' off' hx
   rw[Bool.cond_eq_ite]at h
   split at h
   ·rename_i hw
    cases h
    obtain⟨z,hz,he⟩:=List.any_eq_true.1 hw
    have:=Nat.eq_of_beq_eq_true he
    subst this
    exact⟨rfl,⟨_,h1⟩,h2,hx,hz⟩
   ·cases h
  ·cases h
 ·cases h
structure MvAt(P:Program)(cfg:Cfg)(fid rid:Nat)(all:List Oper)(i:Nat)(ρ:Env)(v off d x:Nat)(o:Oper)(t:TypeId)(sh:Sh)(cs:List V):Prop where
 ho:all[i]? =some o
 hg:o.guard=none
 hop:o.op= .load t (.tmp x)
 hd:o.dst=some d
 hx:ρ.get x= .lptr v off
 hv: ∃dd,ρ.get v= .loc dd sh (.agg cs)
 hfr:freshDst ρ o.dst=true
 hl:off+(shOf P t).sz≤cs.length
 hty:okTy P t=true
 hsh:shOf P t=none
 htk:cfg.take fid rid i=true
 hgr:isGrow (cs.getD off .undef)=true
 hfz:cfg.take fid rid (i+2000)=false
def JM(v off d:Nat)(sh:Sh)(cs:List V):List (Nat×V):=[(v, .loc true sh (.agg (cs.set off (plain1 (cs.getD off .undef))))),(d,cs.getD off .undef)]
theorem MvAt.step{v off d x:Nat}{o:Oper}{t:TypeId}{sh:Sh}{cs:List V}{i:Nat}(h:MvAt P cfg fid rid all i ρ v off d x o t sh cs)(st:St):
  StpD P cfg O fid rid all i ρ st (JM v off d sh cs) st (ZJ cfg fid rid i o [] ρ [v,d]):=by
 refine⟨o,[],true,h.ho, .plain h.hg,h.hfr, .inl ⟨rfl, ?_,rfl⟩⟩
 obtain⟨dd,hv⟩:=h.hv
 have hsk:zax cfg fid rid i o ρ= .none:=by simp[zax,h.hop,ev,h.hx,h.hfz]
 have hl:=h.hl
 have hp:partOf cs off (shOf P t)=cs.getD off .undef:=by rw[h.hsh];rfl
 unfold J0 XB
 simp only[h.hop,hsk]
 unfold Jf
 simp only[h.hop,ev,h.hx,hv,h.hd,h.htk]
 rw[hp]
 have e1:(decide (off+(shOf P t).sz≤cs.length)&&okTy P t)=true:=by simp[hl,h.hty]
 have e2:(true&&isGrow (cs.getD off .undef)&&(shOf P t).isNone)=true:=by rw[h.hgr,h.hsh];rfl
 rw[e1,e2]
 rfl
theorem zmq{v off x i:Nat}{o:Oper}{t:TypeId}(hop:o.op= .load t (.tmp x))(h1:ρ.get x= .lptr v off)(h2:ρ'.get x= .lptr v off)(g ws:List Nat):ZJ cfg fid rid i o g ρ' ws=ZJ cfg fid rid i o g ρ ws:=by
 cases g<;>cases hd:o.dst<;>simp only[ZJ,hop,hd,Op.operands,skF,zb0,cond_false,zfD,zax,ev,zhD,mvL,zko,ziO,List.filterMap_cons,List.filterMap_nil,h1,h2]
theorem StpD.mvInv{i:Nat}{ft:Foot}(h:StpD P cfg O fid rid all i ρ st us st2 ft){v off d x:Nat}(hm:ft.mv=some (v,off,d,x))(hne:d≠v):
  ∃o t sh cs,MvAt P cfg fid rid all i ρ v off d x o t sh cs∧us=JM v off d sh cs∧st2=st∧ft=ZJ cfg fid rid i o [] ρ [v,d]:=by
 obtain⟨o,g,b,ho,hg,hf,⟨hb,hs,rfl⟩|⟨hb,hu,hst,rfl⟩⟩:=h
 ·obtain⟨hfz,hm⟩:=zsG (show mvL (cfg.take fid rid (i+2000)) o g ρ (us.map (·.1))=_ from hm)
  obtain⟨rfl,⟨t,hop⟩,hd,hx,hw⟩:=zrq hm
  have hgu:o.guard=none:=by cases hg with|plain h=>exact h
  have hsk:zax cfg fid rid i o ρ= .none:=by simp[zax,hop,ev,hx,hfz]
  unfold J0 XB at hs
  simp only[hop,hsk]at hs
  unfold Jf at hs
  simp only[hop,ev,hx,hd]at hs
  have hup:upds ρ (cfg.take fid rid i) (Z1 (.load t (.tmp x)))=[]:=rfl
  split at hs
  ·rename_i dd sh cs hv
   obtain⟨hc,hs⟩:=Zh hs
   simp only[Bool.and_eq_true,decide_eq_true_eq]at hc
   rcases Yn hs with⟨hb2,hs⟩|⟨_,hs⟩
   ·simp only[Bool.and_eq_true,Option.isNone_iff_eq_none]at hb2
    obtain⟨⟨htk,hgr⟩,hsh⟩:=hb2
    have hp:partOf cs off (shOf P t)=cs.getD off .undef:=by rw[hsh];rfl
    rw[hp]at hgr hs
    cases hs
    exact⟨o,t,sh,cs,⟨ho,hgu,hop,hd,hx,⟨dd,hv⟩,hf,hc.1,hc.2,hsh,htk,hgr,hfz⟩,rfl,rfl,rfl⟩
   ·have hs:=zfH hs
    cases hs
    rw[hup]at hw
    simp[ZL]at hw
    exact absurd hw.symm hne
  ·obtain⟨hc,hs⟩:=Zh hs
   cases hs
   rw[hup]at hw
   simp[ZL]at hw
   exact absurd hw.symm hne
  ·cases hs
 ·cases hm
theorem zeH{v d1 d2 t:Nat}{x1 x2 a b:V}(h1:d1≠v)(h2:d2≠v)(h3:d1≠d2):((ρ.apply [(v,a),(d1,x1)]).apply [(v,b),(d2,x2)]).get t=if t=v then b else if t=d1 then x1 else if t=d2 then x2 else ρ.get t:=by
 simp only[Env.apply,Zp]
 by_cases e1:t=v
 ·subst e1;simp[h1.symm,h2.symm]
 ·by_cases e2:t=d1
  ·subst e2;simp[e1,h3]
  ·by_cases e3:t=d2
   ·subst e3;simp[e1,e2]
   ·simp[e1,e2,e3]
theorem zuV{i j:Nat}{fi fj:Foot}{v o1 d1 x1 o2 d2 x2:Nat}(h1:StpD P cfg O fid rid all i ρ st us1 st1 fi)(h2:StpD P cfg O fid rid all j (ρ.apply us1) st1 us2 st2 fj)
  (m1:fi.mv=some (v,o1,d1,x1)) (m2:fj.mv=some (v,o2,d2,x2)) (ho:o1≠o2) (e1:d1≠d2) (e2:d1≠v) (e3:d2≠v) (e4:d1≠x2) (e5:d2≠x1) (e6:x1≠v) (e7:x2≠v):
  ∃stm us1' us2',StpD P cfg O fid rid all j ρ st us2' stm fj∧StpD P cfg O fid rid all i (ρ.apply us2') stm us1' st2 fi∧EqE ((ρ.apply us1).apply us2) ((ρ.apply us2').apply us1'):=by
 obtain⟨oi,ti,sh,cs,hi,rfl,rfl,rfl⟩:=h1.mvInv m1 e2
 obtain⟨oj,tj,sh',cs',hj,rfl,rfl,rfl⟩:=h2.mvInv m2 e3
 obtain⟨dd,hv⟩:=hi.hv
 obtain⟨dd',hv'⟩:=hj.hv
 have hvv:(ρ.apply (JM v o1 d1 sh cs)).get v= .loc true sh (.agg (cs.set o1 (plain1 (cs.getD o1 .undef)))):=by
  simp only[JM,Env.apply,Zp];simp[e2.symm]
 rw[hvv]at hv'
 cases hv'
 have hxj:ρ.get x2= .lptr v o2:=by
  have:=hj.hx
  simp only[JM,Env.apply,Zp]at this
  rwa [if_neg e4.symm,if_neg e7]at this
 have hfrj:freshDst ρ oj.dst=true:=by
  have:=hj.hfr
  rw[hj.hd]at this⊢
  unfold freshDst at this⊢
  simp only[JM,Env.apply,Zp]at this
  rwa [if_neg e1.symm,if_neg e3]at this
 have hg2:(cs.set o1 (plain1 (cs.getD o1 .undef))).getD o2 .undef=cs.getD o2 .undef:=by
  simp[List.getD_eq_getElem?_getD,List.getElem?_set_ne ho]
 have hj':MvAt P cfg fid rid all j ρ v o2 d2 x2 oj tj sh cs:=⟨hj.ho,hj.hg,hj.hop,hj.hd,hxj,⟨dd,hv⟩,hfrj,by simpa using hj.hl,hj.hty,hj.hsh,hj.htk,by rw[←hg2];exact hj.hgr,hj.hfz⟩
 have hxi:(ρ.apply (JM v o2 d2 sh cs)).get x1= .lptr v o1:=by
  simp only[JM,Env.apply,Zp]
  rw[if_neg e5.symm,if_neg e6];exact hi.hx
 have hg1:(cs.set o2 (plain1 (cs.getD o2 .undef))).getD o1 .undef=cs.getD o1 .undef:=by
  simp[List.getD_eq_getElem?_getD,List.getElem?_set_ne (fun e=>ho e.symm)]
 have hi':MvAt P cfg fid rid all i (ρ.apply (JM v o2 d2 sh cs)) v o1 d1 x1 oi ti sh (cs.set o2 (plain1 (cs.getD o2 .undef))):=by
  refine⟨hi.ho,hi.hg,hi.hop,hi.hd,hxi,⟨true, ?_⟩, ?_,by simpa using hi.hl,hi.hty,hi.hsh,hi.htk,by rw[hg1];exact hi.hgr,hi.hfz⟩
  ·simp only[JM,Env.apply,Zp];simp[e3.symm]
  ·have:=hi.hfr
   rw[hi.hd]at this⊢
   unfold freshDst at this⊢
   simp only[JM,Env.apply,Zp]
   rwa [if_neg e1,if_neg e2]
 refine⟨st2,JM v o1 d1 sh (cs.set o2 (plain1 (cs.getD o2 .undef))),JM v o2 d2 sh cs, ?_, ?_,fun t=> ?_⟩
 ·have:=hj'.step (O:=O) st2
  rwa [←zmq hj.hop hxj hj.hx]at this
 ·have:=hi'.step (O:=O) st2
  rwa [zmq hi.hop hi.hx hxi]at this
 ·simp only[JM]
  rw[zeH e3 e2 e1.symm,zeH e2 e3 e1,hg1,hg2]
  by_cases z1:t=v
  ·simp[z1,List.set_comm _ _ ho]
  ·by_cases z2:t=d1
   ·subst z2;simp[z1,e1]
   ·simp[z1,z2]
theorem zlg{o:Oper}{g:List Nat}{v d x:Nat}(h:ziO o g ρ=some (v,d,x)):g=[]∧(∃s f,o.op= .fieldAddr s (.tmp x) f)∧o.dst=some d∧((x=v∧ ∃a b c,ρ.get v= .loc a b c)∨ ∃off,ρ.get x= .lptr v off):=by
 unfold ziO at h
 split at h
 ·rename_i s y f d' h1 h2
  split at h
  ·rename_i a b c hx
   cases h
   exact⟨rfl,⟨_,_,h1⟩,h2, .inl ⟨rfl,_,_,_,hx⟩⟩
  ·rename_i v' off' hx
   cases h
   exact⟨rfl,⟨_,_,h1⟩,h2, .inr ⟨_,hx⟩⟩
  ·cases h
 ·cases h
theorem StpD.faMove{i:Nat}{ft:Foot}(h:StpD P cfg O fid rid all i ρ st us st2 ft){v d x:Nat}(hm:ft.fa=some (v,d,x))(hl: ∃a b c,ρ.get v= .loc a b c)(hl': ∃a b c,ρ'.get v= .loc a b c)(hx:x≠v→ρ'.get x=ρ.get x)(hd:ρ'.get d=ρ.get d)(hdv:d≠v):
  (∃y,us=[(d,y)])∧st2=st∧ ∀st',StpD P cfg O fid rid all i ρ' st' us st' ft:=by
 obtain⟨o,g,b,ho,hg,hf,⟨hb,hs,rfl⟩|⟨hb,hu,hst,rfl⟩⟩:=h
 ·obtain⟨rfl,⟨s,f,hop⟩,hdst,hcase⟩:=zlg (show ziO o g ρ=_ from hm)
  have hgu:o.guard=none:=by cases hg with|plain h=>exact h
  have hsk: ∀ρ:Env,zax cfg fid rid i o ρ= .none:=fun ρ=>by simp only[zax,hop]
  have hfr:freshDst ρ' o.dst=true:=by
   rw[hdst]at hf⊢
   unfold freshDst at hf⊢
   simp only at hf⊢
   rwa [hd]
  have fin: ∀st',J0 P cfg O fid rid i o ρ' st'=some (us,st')∧(∃y,us=[(d,y)])∧st2=st∧ZJ cfg fid rid i o [] ρ' (us.map (·.1))=ZJ cfg fid rid i o [] ρ (us.map (·.1)):=by
   intro st'
   unfold J0 XB at hs⊢
   simp only[hop,hsk]at hs⊢
   unfold Jf at hs⊢
   simp only[hop,ev,hdst]at hs⊢
   have hup: ∀ρ:Env,upds ρ (cfg.take fid rid i) (Z1 (.fieldAddr s (.tmp x) f))=[]:=fun _=>rfl
   rw[hup]at hs⊢
   cases hfo:Qp P s f with
   |none=>rw[hfo]at hs;cases hs
   |some p=>
    obtain⟨off,ft⟩:=p
    rw[hfo]at hs
    simp only at hs⊢
    obtain⟨hc,hs⟩:=Zh hs
    rw[hc]
    rcases hcase with⟨rfl,a,b,c,hxl⟩|⟨off',hxl⟩
    ·obtain⟨a',b',c',hl'⟩:=hl'
     rw[hxl]at hs
     rw[hl']
     simp only at hs⊢
     obtain⟨hc2,hs⟩:=Zh hs
     rw[hc2]
     cases hs
     refine⟨rfl,⟨_,rfl⟩,rfl, ?_⟩
     simp only[ZJ,hop,hdst,Op.operands,skF,zb0,cond_false,zfD,zax,ev,zhD,mvL,zko,ziO,List.filterMap_cons,List.filterMap_nil,hxl,hl']
    ·have hxv:x≠v:=fun e=>by
      subst e
      obtain⟨a,b,c,hl⟩:=hl
      rw[hl]at hxl;cases hxl
     rw[hxl]at hs
     rw[hx hxv,hxl]
     simp only at hs⊢
     obtain⟨hc2,hs⟩:=Zh hs
     rw[hc2]
     cases hs
     refine⟨rfl,⟨_,rfl⟩,rfl, ?_⟩
     simp only[ZJ,hop,hdst,Op.operands,skF,zb0,cond_false,zfD,zax,ev,zhD,mvL,zko,ziO,List.filterMap_cons,List.filterMap_nil,hx hxv,hxl]
  obtain⟨_,hy,hst,_⟩:=fin st
  exact⟨hy,hst,fun st'=>⟨o,[],true,ho, .plain hgu,hfr, .inl ⟨rfl,(fin st').1,(fin st').2.2.2.symm⟩⟩⟩
 ·cases hm
theorem zuW{i j:Nat}{fi fj:Foot}{v o1 d1 x1 d2 x2:Nat}(h1:StpD P cfg O fid rid all i ρ st us1 st1 fi)(h2:StpD P cfg O fid rid all j (ρ.apply us1) st1 us2 st2 fj)
  (m1:fi.mv=some (v,o1,d1,x1)) (m2:fj.fa=some (v,d2,x2)) (e1:d1≠d2) (e2:d1≠v) (e3:d2≠v) (e4:d1≠x2) (e5:d2≠x1) (e6:x1≠v):
  ∃stm us1' us2',StpD P cfg O fid rid all j ρ st us2' stm fj∧StpD P cfg O fid rid all i (ρ.apply us2') stm us1' st2 fi∧EqE ((ρ.apply us1).apply us2) ((ρ.apply us2').apply us1'):=by
 obtain⟨oi,ti,sh,cs,hi,rfl,rfl,rfl⟩:=h1.mvInv m1 e2
 obtain⟨dd,hv⟩:=hi.hv
 have hvv:(ρ.apply (JM v o1 d1 sh cs)).get v= .loc true sh (.agg (cs.set o1 (plain1 (cs.getD o1 .undef)))):=by
  simp only[JM,Env.apply,Zp];simp[e2.symm]
 obtain⟨⟨y,rfl⟩,rfl,hmove⟩:=h2.faMove (ρ':=ρ) m2 ⟨_,_,_,hvv⟩ ⟨_,_,_,hv⟩ (fun hx=>by simp only[JM,Env.apply,Zp];rw[if_neg e4.symm,if_neg hx]) (by simp only[JM,Env.apply,Zp];rw[if_neg e1.symm,if_neg e3]) e3
 have hi':MvAt P cfg fid rid all i (ρ.apply [(d2,y)]) v o1 d1 x1 oi ti sh cs:=by
  have g: ∀t,t≠d2→(ρ.apply [(d2,y)]).get t=ρ.get t:=fun t ht=>by simp only[Env.apply,Zp];rw[if_neg ht]
  refine⟨hi.ho,hi.hg,hi.hop,hi.hd,by rw[g _ e5.symm];exact hi.hx,⟨dd,by rw[g _ e3.symm];exact hv⟩, ?_,hi.hl,hi.hty,hi.hsh,hi.htk,hi.hgr,hi.hfz⟩
  have:=hi.hfr
  rw[hi.hd]at this⊢
  unfold freshDst at this⊢
  simp only at this⊢
  rwa [g _ e1]
 refine⟨st2,JM v o1 d1 sh cs,[(d2,y)],hmove st2, ?_,fun t=> ?_⟩
 ·have:=hi'.step (O:=O) st2
  rwa [zmq hi.hop hi.hx hi'.hx]at this
 ·simp only[JM,Env.apply,Zp]
  by_cases z1:t=d1
  ·subst z1;simp[e1]
  ·by_cases z2:t=v
   ·subst z2;simp[z1,e3.symm]
   ·simp[z1,z2]
theorem zuX{i j:Nat}{fi fj:Foot}{v o2 d1 x1 d2 x2:Nat}(h1:StpD P cfg O fid rid all i ρ st us1 st1 fi)(h2:StpD P cfg O fid rid all j (ρ.apply us1) st1 us2 st2 fj)
  (m1:fi.fa=some (v,d1,x1)) (m2:fj.mv=some (v,o2,d2,x2)) (e1:d1≠d2) (e2:d1≠v) (e3:d2≠v) (e4:d1≠x2) (e5:d2≠x1) (e7:x2≠v):
  ∃stm us1' us2',StpD P cfg O fid rid all j ρ st us2' stm fj∧StpD P cfg O fid rid all i (ρ.apply us2') stm us1' st2 fi∧EqE ((ρ.apply us1).apply us2) ((ρ.apply us2').apply us1'):=by
 obtain⟨oj,tj,sh,cs,hj,rfl,rfl,rfl⟩:=h2.mvInv m2 e3
 obtain⟨dd,hv⟩:=hj.hv
 have hw: ∀t,t∈us1.map (·.1)→t=d1:=by
  obtain⟨o,g,b,ho,hg,hf,⟨hb,hs,rfl⟩|⟨hb,hu,hst,rfl⟩⟩:=h1
  ·obtain⟨rfl,⟨s,f,hop⟩,hdst,hcase⟩:=zlg (show ziO o g ρ=_ from m1)
   have hsk: ∀ρ:Env,zax cfg fid rid i o ρ= .none:=fun ρ=>by simp only[zax,hop]
   unfold J0 XB at hs
   simp only[hop,hsk]at hs
   unfold Jf at hs
   simp only[hop,ev,hdst]at hs
   have hup: ∀ρ:Env,upds ρ (cfg.take fid rid i) (Z1 (.fieldAddr s (.tmp x1) f))=[]:=fun _=>rfl
   rw[hup]at hs
   cases hfo:Qp P s f with
   |none=>rw[hfo]at hs;cases hs
   |some p=>
    rw[hfo]at hs
    simp only at hs
    obtain⟨hc,hs⟩:=Zh hs
    rcases hcase with⟨rfl,a,b,c,hxl⟩|⟨off',hxl⟩
    ·rw[hxl]at hs
     obtain⟨hc2,hs⟩:=Zh hs
     cases hs
     intro t ht;simpa[ZL]using ht
    ·rw[hxl]at hs
     obtain⟨hc2,hs⟩:=Zh hs
     cases hs
     intro t ht;simpa[ZL]using ht
  ·cases m1
 have gn: ∀t,t≠d1→(ρ.apply us1).get t=ρ.get t:=fun t ht=>ZK us1 ρ fun hm=>ht (hw t hm)
 have hv0:ρ.get v= .loc dd sh (.agg cs):=by rw[←gn v e2.symm];exact hv
 have hj':MvAt P cfg fid rid all j ρ v o2 d2 x2 oj tj sh cs:=by
  refine⟨hj.ho,hj.hg,hj.hop,hj.hd,by rw[←gn _ e4.symm];exact hj.hx,⟨dd,hv0⟩, ?_,hj.hl,hj.hty,hj.hsh,hj.htk,hj.hgr,hj.hfz⟩
  have:=hj.hfr
  rw[hj.hd]at this⊢
  unfold freshDst at this⊢
  simp only at this⊢
  rwa [gn _ e1.symm]at this
 have hvv:(ρ.apply (JM v o2 d2 sh cs)).get v= .loc true sh (.agg (cs.set o2 (plain1 (cs.getD o2 .undef)))):=by
  simp only[JM,Env.apply,Zp];simp[e3.symm]
 obtain⟨⟨y,rfl⟩,rfl,hmove⟩:=h1.faMove (ρ':=ρ.apply (JM v o2 d2 sh cs)) m1 ⟨_,_,_,hv0⟩ ⟨_,_,_,hvv⟩ (fun hx=>by simp only[JM,Env.apply,Zp];rw[if_neg e5.symm,if_neg hx]) (by simp only[JM,Env.apply,Zp];rw[if_neg e1,if_neg e2]) e2
 refine⟨st2,[(d1,y)],JM v o2 d2 sh cs, ?_,hmove st2,fun t=> ?_⟩
 ·have:=hj'.step (O:=O) st2
  rwa [←zmq hj.hop hj'.hx hj.hx]at this
 ·simp only[JM,Env.apply,Zp]
  by_cases z1:t=d1
  ·subst z1;simp[e1,e2]
  ·simp[z1]
theorem zu7{i j:Nat}{fi fj:Foot}(h1:StpD P cfg O fid rid all i ρ st us1 st1 fi)(h2:StpD P cfg O fid rid all j (ρ.apply us1) st1 us2 st2 fj)(hc:(XL fi fj||zfC fi fj)=true):
  ∃stm us1' us2',StpD P cfg O fid rid all j ρ st us2' stm fj∧StpD P cfg O fid rid all i (ρ.apply us2') stm us1' st2 fi∧EqE ((ρ.apply us1).apply us2) ((ρ.apply us2').apply us1'):=by
 rcases Bool.or_eq_true .. ▸hc with hc|hc
 ·obtain⟨stm,k1,k2,k3⟩:=zvJ h1 h2 hc
  exact⟨stm,_,_,k1,k2,k3⟩
 ·unfold zfC at hc
  split at hc
  ·rename_i v o1 d1 x1 v' o2 d2 x2 m1 m2
   simp only[Bool.and_eq_true]at hc
   obtain⟨⟨⟨⟨⟨⟨⟨⟨c0,c1⟩,c2⟩,c3⟩,c4⟩,c5⟩,c6⟩,c7⟩,c8⟩:=hc
   obtain rfl:=Nat.eq_of_beq_eq_true c0
   exact zuV h1 h2 m1 m2 (zci c1) (zci c2) (zci c3) (zci c4) (zci c5) (zci c6) (zci c7) (zci c8)
  ·rename_i v o1 d1 x1 v' d2 x2 m1 m2 hn
   simp only[Bool.and_eq_true]at hc
   obtain⟨⟨⟨⟨⟨⟨c0,c2⟩,c3⟩,c4⟩,c5⟩,c6⟩,c7⟩:=hc
   obtain rfl:=Nat.eq_of_beq_eq_true c0
   exact zuW h1 h2 m1 m2 (zci c2) (zci c3) (zci c4) (zci c5) (zci c6) (zci c7)
  ·rename_i v' d2 x2 v o1 d1 x1 m1 m2 hn
   simp only[Bool.and_eq_true]at hc
   obtain⟨⟨⟨⟨⟨⟨c0,c2⟩,c3⟩,c4⟩,c5⟩,c6⟩,c7⟩:=hc
   obtain rfl:=Nat.eq_of_beq_eq_true c0
   exact zuX h1 h2 m1 m2 (fun e=>zci c2 e.symm) (zci c4) (zci c3) (zci c6) (zci c5) (zci c7)
  ·cases hc
inductive SeqD(P:Program)(cfg:Cfg)(O:Oracle)(fid rid:Nat)(all:List Oper):List Nat→Env→St→List Foot→Env→St→Prop where
 |nil {ρ ρe:Env} (st:St) (h:EqE ρ ρe):SeqD P cfg O fid rid all [] ρ st [] ρe st
 |cons {i:Nat} {is:List Nat} {ρ ρe:Env} {st st2 ste:St} {us:List (Nat×V)} {ft:Foot} {fts:List Foot} (h:StpD P cfg O fid rid all i ρ st us st2 ft) (t:SeqD P cfg O fid rid all is (ρ.apply us) st2 fts ρe ste):
   SeqD P cfg O fid rid all (i::is) ρ st (ft::fts) ρe ste
theorem SeqD.congr{is:List Nat}{fts:List Foot}(h:SeqD P cfg O fid rid all is ρ st fts ρe ste): ∀{ρ':Env},EqE ρ ρ'→SeqD P cfg O fid rid all is ρ' st fts ρe ste:=by
 induction h with
 |nil st h=>exact fun he=> .nil st (he.symm.trans h)
 |cons h t ih=>exact fun he=> .cons (h.congr he) (ih (he.apply _))
theorem SeqD.front{j:Nat}{post:List Nat}: ∀{pre:List Nat} {ρ:Env} {st:St} {fts:List Foot},SeqD P cfg O fid rid all (pre++j::post) ρ st fts ρe ste→
  (∀fp fj fq,fts=fp++fj::fq→fp.length=pre.length→ ∀f∈fp,(XL f fj||zfC f fj)=true)→
  ∃fp fj fq,fts=fp++fj::fq∧fp.length=pre.length∧SeqD P cfg O fid rid all (j::(pre++post)) ρ st (fj::(fp++fq)) ρe ste
 |[],ρ,st,_,h,_=>by
  cases h with
  |cons h t=>exact⟨[],_,_,rfl,rfl, .cons h t⟩
 |k::pre,ρ,st,_,h,hc=>by
  cases h with
  |cons h t=>
   rename_i st1 us1 f1 fts
   obtain⟨fp,fj,fq,rfl,hl,hs⟩:=SeqD.front t fun fp fj fq e hl f hf=>hc (f1::fp) fj fq (by rw[e];rfl) (by simp[hl]) f (by simp[hf])
   have hcom:=hc (f1::fp) fj fq rfl (by simp[hl]) f1 (by simp)
   cases hs with
   |cons h2 t2=>
    obtain⟨stm,_,_,k1,k2,k3⟩:=zu7 h h2 hcom
    exact⟨f1::fp,fj,fq,rfl,by simp[hl], .cons k1 (.cons k2 (t2.congr k3))⟩
def StpP(P:Program)(cfg:Cfg)(O:Oracle)(fid rid:Nat)(all:List Oper)(i:Nat)(ρ:Env)(st:St)(p:V)(st':St)(fi:Foot):Prop:=
 ∃o g,all[i]? =some o∧GKind ρ all o g true∧freshDst ρ o.dst=true∧zhU P cfg O fid rid i o ρ st=some (.inr (p,st'))∧fi=ZJ cfg fid rid i o g ρ []
theorem StpP.frame{i:Nat}{p:V}{fi:Foot}(h:StpP P cfg O fid rid all i ρ st p st' fi)(he: ∀t,t∈fi.reads∨t∈fi.writes→ρ'.get t=ρ.get t):StpP P cfg O fid rid all i ρ' st p st' fi:=by
 obtain⟨o,g,ho,hg,hf,hs,rfl⟩:=h
 have hsame:SameOn ρ ρ' o.op.operands.toList:=zhf (fun t ht=>he t (.inl (by simp[ZJ,ht]))) fun t ht=>he t (.inl (by simp[ZJ,ht]))
 refine⟨o,g,ho,hg.congr fun t ht=>he t (.inl (by simp[ZJ,ht])), ?_,by rw[zpv hsame];exact hs,(zhg hsame).symm⟩
 rw[zcG fun d hd=>he d (.inr (by simp[ZJ,hd]))];exact hf
theorem zvK{k i:Nat}{p:V}{fk fi:Foot}(h1:StpD P cfg O fid rid all k ρ st us1 st1 fk)(h2:StpP P cfg O fid rid all i (ρ.apply us1) st1 p st' fi)(hc:XL fk fi=true)(hn:zna fk.sk=true):StpP P cfg O fid rid all i ρ st p st' fi:=by
 simp only[XL,Bool.and_eq_true]at hc
 obtain⟨⟨d1,_⟩,_⟩:=hc
 have d1:=zeu d1
 have hst:st1=st:=h1.reads (by intro e;rw[e]at hn;cases hn)
 subst hst
 exact h2.frame fun t ht=>(ZK us1 ρ fun hm=>d1 t (h1.writes t hm) (by rcases ht with h|h<;>simp[h])).symm
inductive SeqP(P:Program)(cfg:Cfg)(O:Oracle)(fid rid:Nat)(all:List Oper)(i0:Nat)(p:V)(st':St)(fi:Foot):List Nat→Env→St→List Foot→Prop where
 |nil {ρ:Env} {st:St} (h:StpP P cfg O fid rid all i0 ρ st p st' fi):SeqP P cfg O fid rid all i0 p st' fi [] ρ st []
 |cons {i:Nat} {is:List Nat} {ρ:Env} {st st2:St} {us:List (Nat×V)} {ft:Foot} {fts:List Foot} (h:StpD P cfg O fid rid all i ρ st us st2 ft) (t:SeqP P cfg O fid rid all i0 p st' fi is (ρ.apply us) st2 fts):
   SeqP P cfg O fid rid all i0 p st' fi (i::is) ρ st (ft::fts)
theorem SeqP.congr{i0:Nat}{p:V}{fi:Foot}{is:List Nat}{fts:List Foot}(h:SeqP P cfg O fid rid all i0 p st' fi is ρ st fts): ∀{ρ':Env},EqE ρ ρ'→SeqP P cfg O fid rid all i0 p st' fi is ρ' st fts:=by
 induction h with
 |nil h=>exact fun he=> .nil (h.frame fun t _=>he t)
 |cons h t ih=>exact fun he=> .cons (h.congr he) (ih (he.apply _))
theorem SeqP.idx{i0:Nat}{p:V}{fi:Foot}{is:List Nat}{fts:List Foot}(h:SeqP P cfg O fid rid all i0 p st' fi is ρ st fts):fts.map (·.idx)=is:=by
 induction h with
 |nil=>rfl
 |cons h t ih=>simp[h.idx,ih]
theorem SeqP.now{i0:Nat}{p:V}{fi:Foot}{is:List Nat}{fts:List Foot}(h:SeqP P cfg O fid rid all i0 p st' fi is ρ st fts)(hc: ∀f∈fts,(XL f fi&&zna f.sk)=true):StpP P cfg O fid rid all i0 ρ st p st' fi:=by
 induction h with
 |nil h=>exact h
 |cons h t ih=>
  have h2:=ih fun f hf=>hc f (by simp[hf])
  have h3:=hc _ (List.mem_cons_self ..)
  simp only[Bool.and_eq_true]at h3
  exact zvK h h2 h3.1 h3.2
theorem SeqP.front{i0:Nat}{p:V}{fi:Foot}{j:Nat}{post:List Nat}: ∀{pre:List Nat} {ρ:Env} {st:St} {fts:List Foot},SeqP P cfg O fid rid all i0 p st' fi (pre++j::post) ρ st fts→
  (∀fp fj fq,fts=fp++fj::fq→fp.length=pre.length→ ∀f∈fp,(XL f fj||zfC f fj)=true)→
  ∃fp fj fq,fts=fp++fj::fq∧fp.length=pre.length∧SeqP P cfg O fid rid all i0 p st' fi (j::(pre++post)) ρ st (fj::(fp++fq))
 |[],ρ,st,_,h,_=>by
  cases h with
  |cons h t=>exact⟨[],_,_,rfl,rfl, .cons h t⟩
 |k::pre,ρ,st,_,h,hc=>by
  cases h with
  |cons h t=>
   rename_i st1 us1 f1 fts
   obtain⟨fp,fj,fq,rfl,hl,hs⟩:=SeqP.front t fun fp fj fq e hl f hf=>hc (f1::fp) fj fq (by rw[e];rfl) (by simp[hl]) f (by simp[hf])
   have hcom:=hc (f1::fp) fj fq rfl (by simp[hl]) f1 (by simp)
   cases hs with
   |cons h2 t2=>
    obtain⟨stm,_,_,k1,k2,k3⟩:=zu7 h h2 hcom
    exact⟨f1::fp,fj,fq,rfl,by simp[hl], .cons k1 (.cons k2 (t2.congr k3))⟩
theorem zd6{i:Nat}{p:V}{fi:Foot}{X:Option R}: ∀(rest:List Oper) (j:Nat) (ρ:Env) (fs:List Foot),all.drop j=rest→i<j→StpP P cfg O fid rid all i ρ st p st' fi→
  Qw P cfg O fid rid all i fi st rest j ρ fs X=some r→
  ∃J fts,SeqP P cfg O fid rid all i p st' fi J ρ st fts∧J.Pairwise (· < ·)∧(∀x∈J,j≤x∧x<all.length∧((Y7 all).getD x 0).testBit i=false)∧(∀x,j≤x→x<all.length→x∈J∨((Y7 all).getD x 0).testBit i=true)∧
   QE 0 all=true∧zc0 (Y7 all) (fts.reverse++fs)=true∧(∀f∈fts.reverse++fs,(((Y7 all).getD i 0).testBit f.idx||(XL f fi&&zna f.sk))=true)∧X=some r
 |[],j,ρ,fs,hd,hij,hp,h=>by
  simp only[Qw]at h
  obtain⟨hb,h⟩:=Zh h
  simp only[zvI,Bool.and_eq_true]at hb
  have hlen:all.length≤j:=List.drop_eq_nil_iff.1 hd
  exact⟨[],[], .nil hp,List.Pairwise.nil,(fun x hx=>by cases hx),(fun x h1 h2=>by omega),hb.1.1,hb.1.2,(fun f hf=>List.all_eq_true.1 hb.2 f (by simpa using hf)),h⟩
 |o::rest,j,ρ,fs,hd,hij,hp,h=>by
  have hget:all[j]? =some o:=by
   have:=congrArg (·[0]?) hd
   simpa using this
  have hjl:j<all.length:=(List.getElem?_eq_some_iff.1 hget).1
  have hd':all.drop (j+1)=rest:=by
   have:=congrArg (List.drop 1) hd
   simpa[List.drop_drop,Nat.add_comm]using this
  simp only[Qw]at h
  rcases Yn h with⟨hb,h⟩|⟨hbf,h⟩
  ·obtain⟨J,fts,k1,k2,k3,k4,k5⟩:=zd6 rest (j+1) ρ fs hd' (by omega) hp h
   exact⟨J,fts,k1,k2,(fun x hx=>by have:=k3 x hx;exact⟨by omega,this.2⟩),(fun x h1 h2=>by
    by_cases e:x=j
    ·subst e;exact .inr hb
    ·exact k4 x (by omega) h2),k5⟩
  ·obtain⟨hg,h⟩:=Zh h
   simp only[Bool.and_eq_true,Option.isNone_iff_eq_none]at hg
   rw[Q6]at h
   obtain⟨y,hs,h⟩:=Y8 h
   cases y with
   |inr x=>cases h
   |inl x=>
    obtain⟨us,st2⟩:=x
    obtain⟨hc,h⟩:=Zh h
    simp only[Bool.and_eq_true]at hc
    have hsV:J0 P cfg O fid rid j o ρ st=some (us,st2):=by
     unfold J0
     rw[Q6,hs]
     rfl
    have hstp:StpD P cfg O fid rid all j ρ st us st2 (ZJ cfg fid rid j o [] ρ (us.map (·.1))):=⟨o,[],true,hget, .plain hg.1,hg.2, .inl ⟨rfl,hsV,rfl⟩⟩
    have hst:st=st2:=(hstp.reads (by intro e;rw[e]at hc;cases hc.2)).symm
    subst hst
    have hcm:=hc.1
    simp only[XL,Bool.and_eq_true]at hcm
    have d1:=zeu hcm.1.1
    have hp2:StpP P cfg O fid rid all i (ρ.apply us) st p st' fi:=hp.frame fun t ht=>ZK us ρ fun hm=>d1 t (hstp.writes t hm) (by rcases ht with h|h<;>simp[h])
    obtain⟨J,fts,k1,k2,k3,k4,k5,k6,k7,k8⟩:=zd6 rest (j+1) _ _ hd' (by omega) hp2 h
    refine⟨j::J,_::fts, .cons hstp k1,List.pairwise_cons.2 ⟨(fun x hx=>by have:=k3 x hx;omega),k2⟩,fun x hx=> ?_,fun x h1 h2=> ?_,k5,by simpa using k6,fun f hf=>k7 f (by simpa[or_assoc]using hf),k8⟩
    ·rcases List.mem_cons.1 hx with rfl|hx
     ·exact⟨Nat.le_refl _,hjl,hbf⟩
     ·have:=k3 x hx;exact⟨by omega,this.2⟩
    ·by_cases e:x=j
     ·subst e;exact .inl (by simp)
     ·rcases k4 x (by omega) h2 with h|h
      ·exact .inl (List.mem_cons_of_mem _ h)
      ·exact .inr h
theorem zd7{K:Ex→Env→St→Option R}: ∀(rest:List Oper) (i:Nat) (ρ:Env) (st:St) (fs:List Foot),all.drop i=rest→ZR P cfg O fid rid all true rest i ρ st fs K=some r→
  (∃fts ρe ste,SeqD P cfg O fid rid all (List.range' i rest.length) ρ st fts ρe ste∧QE 0 all=true∧zc0 (Y7 all) (fts.reverse++fs)=true∧K .normal (tidy all ρe) ste=some r)∨
  ∃k is fts p st' ρ1 fi,i≤k∧k<all.length∧SeqP P cfg O fid rid all k p st' fi is ρ st fts∧is.Pairwise (· < ·)∧(∀x∈is,i≤x∧x≠k∧x<all.length∧(k<x→((Y7 all).getD x 0).testBit k=false))∧
   (∀x,i≤x→x<all.length→x∈is∨x=k∨((Y7 all).getD x 0).testBit k=true)∧QE 0 all=true∧zc0 (Y7 all) (fts.reverse++fs)=true∧
   (∀f∈fts.reverse++fs,(((Y7 all).getD k 0).testBit f.idx||(XL f fi&&zna f.sk))=true)∧K (.panic p) ρ1 st'=some r
 |[],i,ρ,st,fs,_,h=>by
  simp only[ZR]at h
  have h:gd (QE 0 all&&zc0 (Y7 all) fs) (K .normal (tidy all ρ) st)=some r:=h
  obtain⟨hg,h⟩:=Zh h
  simp only[Bool.and_eq_true]at hg
  exact .inl ⟨[],ρ,st, .nil st (.refl _),hg.1,hg.2,h⟩
 |o::rest,i,ρ,st,fs,hd,h=>by
  have hget:all[i]? =some o:=by
   have:=congrArg (·[0]?) hd
   simpa using this
  have hd':all.drop (i+1)=rest:=by
   have:=congrArg (List.drop 1) hd
   simpa[List.drop_drop,Nat.add_comm]using this
  obtain⟨ρ1,g,b,hkind,hok,hrun,hskip⟩:=zfY (fun _ _ _=>rfl) h
  have hE:EqE ρ1 ρ:=fun t=>(hkind.same t).symm
  simp only[cond_true]at hok
  have hfr:freshDst ρ o.dst=true:=by rw[zcG fun d _=>hE d];exact hok
  have hsame:SameOn ρ1 ρ o.op.operands.toList:=zhf (fun t _=>hE t) fun t _=>hE t
  cases b with
  |true=>
   have hr:=hrun rfl
   have hr:XB P cfg O fid rid i o ρ1 st (fun us st'=>ZR P cfg O fid rid all true rest (i+1) (ρ1.apply us) st' (ZJ cfg fid rid i o g ρ1 (us.map (·.1))::fs) K)
    (fun p st'=>Qw P cfg O fid rid all i (ZJ cfg fid rid i o g ρ1 []) st rest (i+1) ρ1 fs (K (.panic p) ρ1 st'))=some r:=hr
   rw[Q6]at hr
   obtain⟨y,hs,hr⟩:=Y8 hr
   cases y with
   |inr x=>
    obtain⟨p,st'⟩:=x
    have hstp:StpP P cfg O fid rid all i ρ1 st p st' (ZJ cfg fid rid i o g ρ1 []):=⟨o,g,hget,hkind.g.congr fun t _=>(hE t).symm,hok,hs,rfl⟩
    obtain⟨J,fts,k1,k2,k3,k4,k5,k6,k7,k8⟩:=zd6 rest (i+1) ρ1 fs hd' (by omega) hstp hr
    have hil:i<all.length:=(List.getElem?_eq_some_iff.1 hget).1
    refine .inr ⟨i,J,fts,p,st',ρ1,_,Nat.le_refl _,hil,k1.congr hE,k2,(fun x hx=>by have:=k3 x hx;exact⟨by omega,by omega,this.2.1,fun _=>this.2.2⟩),fun x h1 h2=> ?_,k5,k6,k7,k8⟩
    by_cases e:x=i
    ·exact .inr (.inl e)
    ·rcases k4 x (by omega) h2 with h|h
     ·exact .inl h
     ·exact .inr (.inr h)
   |inl x=>
    obtain⟨us,st'⟩:=x
    have hsV:J0 P cfg O fid rid i o ρ st=some (us,st'):=by
     rw[zjn hsame]
     unfold J0
     rw[Q6,hs]
     rfl
    have hstp:StpD P cfg O fid rid all i ρ st us st' (ZJ cfg fid rid i o g ρ1 (us.map (·.1))):=⟨o,g,true,hget,hkind.g,hfr, .inl ⟨rfl,hsV,(zhg hsame).symm⟩⟩
    rcases zd7 rest (i+1) _ _ _ hd' hr with⟨fts,ρe,ste,k1,k2,k3,k4⟩|⟨k,is,fts,p,st2,ρ2,fi,j1,j2,j3,j4,j5,j6,j7,j8,j9,j10⟩
    ·simp only[List.length_cons,List.range'_succ]
     exact .inl ⟨_,ρe,ste, .cons hstp (k1.congr (hE.apply us)),k2,by simpa using k3,k4⟩
    ·refine .inr ⟨k,i::is,ZJ cfg fid rid i o g ρ1 (us.map (·.1))::fts,p,st2,ρ2,fi,by omega,j2, .cons hstp (j3.congr (hE.apply us)),List.pairwise_cons.2 ⟨(fun x hx=>by have:=j5 x hx;omega),j4⟩,fun x hx=> ?_,fun x h1 h2=> ?_,j7,by simpa using j8,fun f hf=>j9 f (by simpa[or_assoc]using hf),j10⟩
     ·rcases List.mem_cons.1 hx with rfl|hx
      ·exact⟨Nat.le_refl _,by omega,(List.getElem?_eq_some_iff.1 hget).1,fun h=>by omega⟩
      ·have:=j5 x hx;exact⟨by omega,this.2⟩
     ·by_cases e:x=i
      ·subst e;exact .inl (by simp)
      ·rcases j6 x (by omega) h2 with h|h
       ·exact .inl (List.mem_cons_of_mem _ h)
       ·exact .inr h
  |false=>
   have hr:=hskip rfl
   simp only[cond_true]at hr
   have hE2:EqE (ρ1.put o.dst (.tup [])) (ρ.apply (ZL o.dst (.tup []))):=by
    cases hdd:o.dst with
    |none=>exact hE
    |some d=>exact hE.apply [(d, .tup [])]
   have hstp:StpD P cfg O fid rid all i ρ st (ZL o.dst (.tup [])) st {idx:=i,reads:=g,writes:=o.dst.toList,sk:= .none}:=⟨o,g,false,hget,hkind.g,hfr, .inr ⟨rfl,rfl,rfl,rfl⟩⟩
   rcases zd7 rest (i+1) _ _ _ hd' hr with⟨fts,ρe,ste,k1,k2,k3,k4⟩|⟨k,is,fts,p,st2,ρ2,fi,j1,j2,j3,j4,j5,j6,j7,j8,j9,j10⟩
   ·simp only[List.length_cons,List.range'_succ]
    exact .inl ⟨_,ρe,ste, .cons hstp (k1.congr hE2),k2,by simpa using k3,k4⟩
   ·refine .inr ⟨k,i::is,{idx:=i,reads:=g,writes:=o.dst.toList,sk:= .none}::fts,p,st2,ρ2,fi,by omega,j2, .cons hstp (j3.congr hE2),List.pairwise_cons.2 ⟨(fun x hx=>by have:=j5 x hx;omega),j4⟩,fun x hx=> ?_,fun x h1 h2=> ?_,j7,by simpa using j8,fun f hf=>j9 f (by simpa[or_assoc]using hf),j10⟩
    ·rcases List.mem_cons.1 hx with rfl|hx
     ·exact⟨Nat.le_refl _,by omega,(List.getElem?_eq_some_iff.1 hget).1,fun h=>by omega⟩
     ·have:=j5 x hx;exact⟨by omega,this.2⟩
    ·by_cases e:x=i
     ·subst e;exact .inl (by simp)
     ·rcases j6 x (by omega) h2 with h|h
      ·exact .inl (List.mem_cons_of_mem _ h)
      ·exact .inr h
end
end Go.AM
