import Derived.Test.YthhifgeblblmcaaGreatGb
/- The program's functions, each an equation of the abstract machine checked by the kernel, and what they come to as_ plain Lean. -/
set_option linter.unusedVariables false
set_option linter.unusedSimpArgs false
set_option linter.unusedSectionVars false
namespace Go.Proofs.CL
open Go Go.AM Go.Ama
set_option maxRecDepth 20000
theorem zgb{α:Type}{en:α→V}{sl e k:Nat}(hu:Tryz.prog.underlying sl=some (.slice e))(hsh:shOf Tryz.prog e=some k)(hd: ∀n cs,WT Tryz.prog n e cs→ ∃a,V.agg cs=en a):
  ∀n cs,WT Tryz.prog n sl cs→ ∃l:List α,cs=[.vec .plain (some k) (l.map en)]:=by
 intro n cs h
 cases n with
 |zero=>exact h.elim
 |succ n=>
  simp only[WT,hu]at h
  obtain⟨es,he0,_,he⟩:=h
  rw[hsh]at he he0
  have: ∀es:List V,(∀v∈es,Shaped (some k) v∧WT Tryz.prog n e (AM.cellsOf v))→ ∃l:List α,es=l.map en:=by
   intro es
   induction es with
   |nil=>intro _;exact⟨[],rfl⟩
   |cons v es ihe=>
    intro h
    obtain⟨h1,h2⟩:=h v (by simp)
    obtain⟨l,hl⟩:=ihe fun u hu=>h u (by simp[hu])
    cases v with
    |agg cs=>
     obtain⟨d,hd⟩:=hd n cs h2
     exact⟨d::l,by rw[hl,hd];rfl⟩
    |_=>exact h1.elim
  obtain⟨l,rfl⟩:=this es he
  exact⟨l,he0⟩
theorem znG{α:Type}{en:α→V}{sl:Nat}{k:Nat}(hsh:shOf Tryz.prog sl=none)(hd: ∀n cs,WT Tryz.prog n sl cs→ ∃l:List α,cs=[.vec .plain (some k) (l.map en)]){v:V}(h:(∃n,WT Tryz.prog n sl (AM.cellsOf v))∧Shaped (shOf Tryz.prog sl) v): ∃l:List α,v= .vec .plain (some k) (l.map en):=by
 obtain⟨⟨n,h1⟩,h2⟩:=h
 rw[hsh]at h2
 rw[one_cell h2]at h1
 obtain⟨l,hl⟩:=hd n _ h1
 simp only[List.cons.injEq,and_true]at hl
 exact⟨l,hl⟩
theorem zgA{α:Type}{en:α→V}{t k:Nat}(hsh:shOf Tryz.prog t=some k)(hd: ∀n cs,WT Tryz.prog n t cs→ ∃a:α,V.agg cs=en a){v:V}(h:(∃n,WT Tryz.prog n t (AM.cellsOf v))∧Shaped (shOf Tryz.prog t) v): ∃a,v=en a:=by
 obtain⟨⟨n,h1⟩,h2⟩:=h
 rw[hsh]at h2
 cases v with
 |agg cs=>exact hd n cs h1
 |_=>exact h2.elim
theorem zmy{n:Nat}{cs:List V}(h:WT Tryz.prog n 4 cs): ∃b,cs=[.bool b]:=by
 cases n with
 |zero=>exact h.elim
 |succ n=>simpa only[WT,Tryz.underlying4]using h
theorem zju:Tryz.prog.cellsOf 4=1:=by kernel_rfl
theorem Jx{cs:List V}{t:T}(h:V.agg cs=enc t):cs=[.int t.k, .int t.h, .vec .plain (some 3) (Zg t.args)]:=by
 rw[Zb]at h;simpa using h
theorem zsl:shOf Tryz.prog 47=some 5:=by kernel_rfl
theorem zrx:shOf Tryz.prog 24=none:=by kernel_rfl
theorem zpu:Tryz.prog.cellsOf 47=5:=by kernel_rfl
theorem zid:Tryz.prog.cellsOf 24=1:=by kernel_rfl
theorem YQ{n:Nat}{l:List V}(h:l.length=n+1): ∃x r,l=x::r∧r.length=n:=by
 cases l with
 |nil=>simp at h
 |cons x r=>exact⟨x,r,rfl,by simpa using h⟩
theorem zpv: ∀n cs,WT Tryz.prog n 47 cs→ ∃m,V.agg cs=JZ m:=by
 intro n cs h
 cases n with
 |zero=>exact h.elim
 |succ n=>
  simp only[WT,Tryz.underlying47]at h
  obtain⟨hl,hf⟩:=h
  rw[zpu]at hl
  obtain⟨a1,cs1,e1,hl1⟩:=YQ hl
  obtain⟨a2,cs2,e2,hl2⟩:=YQ hl1
  obtain⟨a3,cs3,e3,hl3⟩:=YQ hl2
  obtain⟨a4,cs4,e4,hl4⟩:=YQ hl3
  obtain⟨a5,cs5,e5,hl5⟩:=YQ hl4
  have e0:=List.length_eq_zero_iff.1 hl5
  subst e0 e5 e4 e3 e2 e1
  simp only[List.forall_mem_cons]at hf
  obtain⟨f1,f2,f3,_⟩:=hf
  simp only[za7,zak,zju,List.drop_zero,List.drop_succ_cons,List.take_succ_cons,List.take_zero]at f1 f2 f3
  obtain⟨ctx,hc⟩:=(YH n).2 _ f1
  obtain⟨t,ht⟩:=(YH n).1 _ f2
  obtain⟨b,hb⟩:=zmy f3
  have ht:=Jx ht
  simp only[List.cons.injEq,and_true]at hc ht hb
  obtain⟨rfl,rfl,rfl⟩:=ht
  subst hc hb
  exact⟨⟨ctx,t,b⟩,rfl⟩
theorem zes: ∀n cs,WT Tryz.prog n 24 cs→ ∃l,cs=[.vec .plain (some 5) (ZV l)]:=zgb Tryz.underlying24 zsl zpv
theorem zpw{v:V}(h:(∃n,WT Tryz.prog n 24 (AM.cellsOf v))∧Shaped (shOf Tryz.prog 24) v): ∃l,v= .vec .plain (some 5) (ZV l):=znG zrx zes h
theorem zq1:shOf Tryz.prog 43=some 6:=by kernel_rfl
theorem zpx:Tryz.prog.cellsOf 43=6:=by kernel_rfl
theorem znH:Tryz.prog.cellsOf 28=1:=by kernel_rfl
theorem zjv: ∀n cs,WT Tryz.prog n 43 cs→ ∃m,V.agg cs=YT m:=by
 intro n cs h
 cases n with
 |zero=>exact h.elim
 |succ n=>
  simp only[WT,Tryz.underlying43]at h
  obtain⟨hl,hf⟩:=h
  rw[zpx]at hl
  obtain⟨a1,cs1,e1,hl1⟩:=YQ hl
  obtain⟨a2,cs2,e2,hl2⟩:=YQ hl1
  obtain⟨a3,cs3,e3,hl3⟩:=YQ hl2
  obtain⟨a4,cs4,e4,hl4⟩:=YQ hl3
  obtain⟨a5,cs5,e5,hl5⟩:=YQ hl4
  obtain⟨a6,cs6,e6,hl6⟩:=YQ hl5
  have e0:=List.length_eq_zero_iff.1 hl6
  subst e0 e6 e5 e4 e3 e2 e1
  simp only[List.forall_mem_cons]at hf
  obtain⟨f1,f2,f3,f4,_⟩:=hf
  simp only[zmx,za7,zak,List.drop_zero,List.drop_succ_cons,List.take_succ_cons,List.take_zero]at f1 f2 f3 f4
  obtain⟨k,hk,_⟩:=zk0 f1
  obtain⟨e,he⟩:=(YH n).2 _ f2
  obtain⟨th,hth⟩:=(YH n).2 _ f3
  obtain⟨t,ht⟩:=(YH n).1 _ f4
  have ht:=Jx ht
  simp only[List.cons.injEq,and_true]at hk he hth ht
  obtain⟨rfl,rfl,rfl⟩:=ht
  subst hk he hth
  exact⟨⟨k,e,th,t⟩,rfl⟩
theorem znI: ∀n cs,WT Tryz.prog n 28 cs→ ∃l,cs=[.vec .plain (some 6) (XJ l)]:=zgb Tryz.underlying28 zq1 zjv
theorem zq2:shOf Tryz.prog 30=some 9:=by kernel_rfl
theorem zmz:Tryz.prog.cellsOf 30=9:=by kernel_rfl
theorem zk1:Tryz.prog.cellsOf 37=1:=by kernel_rfl
theorem zm0: ∀n cs,WT Tryz.prog n 30 cs→ ∃m,V.agg cs=zaO m:=by
 intro n cs h
 cases n with
 |zero=>exact h.elim
 |succ n=>
  simp only[WT,Tryz.underlying30]at h
  obtain⟨hl,hf⟩:=h
  rw[zmz]at hl
  obtain⟨a1,cs1,e1,hl1⟩:=YQ hl
  obtain⟨a2,cs2,e2,hl2⟩:=YQ hl1
  obtain⟨a3,cs3,e3,hl3⟩:=YQ hl2
  obtain⟨a4,cs4,e4,hl4⟩:=YQ hl3
  obtain⟨a5,cs5,e5,hl5⟩:=YQ hl4
  obtain⟨a6,cs6,e6,hl6⟩:=YQ hl5
  obtain⟨a7,cs7,e7,hl7⟩:=YQ hl6
  obtain⟨a8,cs8,e8,hl8⟩:=YQ hl7
  obtain⟨a9,cs9,e9,hl9⟩:=YQ hl8
  have e0:=List.length_eq_zero_iff.1 hl9
  subst e0 e9 e8 e7 e6 e5 e4 e3 e2 e1
  simp only[List.forall_mem_cons]at hf
  obtain⟨f1,f2,f3,f4,f5,_⟩:=hf
  simp only[zid,za7,zak,znH,List.drop_zero,List.drop_succ_cons,List.take_succ_cons,List.take_zero]at f1 f2 f3 f4 f5
  obtain⟨ms,hms⟩:=zes _ _ f1
  obtain⟨th,hth⟩:=(YH n).2 _ f2
  obtain⟨p,hp⟩:=(YH n).1 _ f3
  obtain⟨cl,hcl⟩:=znI _ _ f4
  obtain⟨r,hr⟩:=(YH n).1 _ f5
  have hp:=Jx hp
  have hr:=Jx hr
  simp only[List.cons.injEq,and_true]at hms hth hp hcl hr
  obtain⟨rfl,rfl,rfl⟩:=hp
  obtain⟨rfl,rfl,rfl⟩:=hr
  subst hms hth hcl
  exact⟨⟨ms,th,p,cl,r⟩,rfl⟩
theorem zk2: ∀n cs,WT Tryz.prog n 37 cs→ ∃l,cs=[.vec .plain (some 9) (za3 l)]:=zgb Tryz.underlying37 zq2 zm0
theorem ztg:shOf Tryz.prog 39=some 13:=by kernel_rfl
theorem zq3:Tryz.prog.cellsOf 39=13:=by kernel_rfl
theorem zq4: ∀n cs,WT Tryz.prog n 39 cs→ ∃m,V.agg cs=Qs m:=by
 intro n cs h
 cases n with
 |zero=>exact h.elim
 |succ n=>
  simp only[WT,Tryz.underlying39]at h
  obtain⟨hl,hf⟩:=h
  rw[zq3]at hl
  obtain⟨a1,cs1,e1,hl1⟩:=YQ hl
  obtain⟨a2,cs2,e2,hl2⟩:=YQ hl1
  obtain⟨a3,cs3,e3,hl3⟩:=YQ hl2
  obtain⟨a4,cs4,e4,hl4⟩:=YQ hl3
  obtain⟨a5,cs5,e5,hl5⟩:=YQ hl4
  obtain⟨a6,cs6,e6,hl6⟩:=YQ hl5
  obtain⟨a7,cs7,e7,hl7⟩:=YQ hl6
  obtain⟨a8,cs8,e8,hl8⟩:=YQ hl7
  obtain⟨a9,cs9,e9,hl9⟩:=YQ hl8
  obtain⟨b1,cs10,e10,hl10⟩:=YQ hl9
  obtain⟨b2,cs11,e11,hl11⟩:=YQ hl10
  obtain⟨b3,cs12,e12,hl12⟩:=YQ hl11
  obtain⟨b4,cs13,e13,hl13⟩:=YQ hl12
  have e0:=List.length_eq_zero_iff.1 hl13
  subst e0 e13 e12 e11 e10 e9 e8 e7 e6 e5 e4 e3 e2 e1
  simp only[List.forall_mem_cons]at hf
  obtain⟨f1,f2,f3,f4,f5,f6,f7,f8,f9,_⟩:=hf
  simp only[zg9,zju,zid,za7,zak,zk1,List.drop_zero,List.drop_succ_cons,List.take_succ_cons,List.take_zero]at f1 f2 f3 f4 f5 f6 f7 f8 f9
  obtain⟨nm,hnm⟩:=zic f1
  obtain⟨sc,hsc⟩:=(YH n).2 _ f2
  obtain⟨dl,hdl⟩:=zes _ _ f3
  obtain⟨ps,hps⟩:=(YH n).2 _ f4
  obtain⟨a,ha⟩:=(YH n).1 _ f5
  obtain⟨ph,hph⟩:=(YH n).2 _ f6
  obtain⟨b,hb⟩:=(YH n).1 _ f7
  obtain⟨t,ht⟩:=zmy f8
  obtain⟨c,hc⟩:=zk2 _ _ f9
  have ha:=Jx ha
  have hb:=Jx hb
  simp only[List.cons.injEq,and_true]at hnm hsc hdl hps ha hph hb ht hc
  obtain⟨rfl,rfl,rfl⟩:=ha
  obtain⟨rfl,rfl,rfl⟩:=hb
  subst hnm hsc hdl hps hph ht hc
  exact⟨⟨nm,sc,dl,ps,a,ph,b,t,c⟩,rfl⟩
theorem zoi{v:V}(h:(∃n,WT Tryz.prog n 39 (AM.cellsOf v))∧Shaped (shOf Tryz.prog 39) v): ∃m,v=Qs m:=zgA ztg zq4 h
end Go.Proofs.CL
namespace Go.Proofs.CL
open Go Go.AM Go.Ama
set_option maxRecDepth 100000
theorem znJ{sig:List D}{over:List M}{g f:Fun1}{c:Cal}(h:(Q8 sig over g f c).2=0):(Q8 sig over g f c).1.ctx.length=c.ext.length+f.phi.length∧(Q8 sig over g f c).1.param=false:=by
 unfold Q8 at h⊢
 by_cases h1:J7 sig over g f c≠0
 ·rw[if_pos h1]at h;exact absurd h h1
 ·rw[if_neg h1]at h⊢
  unfold Q7 at h⊢
  dsimp only at h⊢
  by_cases h2:(Yg c.theta f.phi 0).2≠0
  ·rw[if_pos h2]at h;exact absurd h h2
  ·rw[if_neg h2]at h⊢
   by_cases h3:(X1 f.b c.theta f.phi.length).2≠0
   ·rw[if_pos h3]at h;exact absurd h h3
   ·rw[if_neg h3]
    exact⟨by simp[zda _ _ _ (by simpa using h2)],rfl⟩
theorem zk3{sig:List D}{over:List M}{g f:Fun1}{c:Cal}(h:40<c.ext.length):Q8 sig over g f c=(M0,4):=by
 have:J7 sig over g f c=4:=by
  unfold J7 Jg zcg
  simp[h]
 unfold Q8
 rw[this,if_pos (by decide)]
theorem zdg{sig:List D}{over:List M}{g f:Fun1}{c:Cal}(h:c.ext.length≤40)(h2:(XL f.schema c.ext&&XL f.schema g.schema)=false):Q8 sig over g f c=(M0,9):=by
 have:J7 sig over g f c=9:=by
  unfold J7 Jg
  rw[h2]
  simp[h,Jg,zcg]
 unfold Q8
 rw[this,if_pos (by decide)]
theorem zfe(sig:List D)(over:List M)(g f:Fun1)(c:Cal)(hb:ZL (Y7 sig)+ZL (ZV over)+YA (Qs g)+YA (Qs f)+YA (YT c)≤1048576*1024):
  Ev 6 [.vec .plain (some 4) (Y7 sig), .vec .plain (some 5) (ZV over),Qs g,Qs f,YT c] (.bool true):=by
 have h1:=(zhZ sig over [] (by omega) (by omega) (by simp[sizes])).p (by simp[Zk,below,Z4])
 have h2:=(zeZ g (by omega)).p (by simp[Zk,below,Yk])
 have h3:=(zeZ f (by omega)).p (by simp[Zk,below,Yk])
 have h4:=(zde c (by omega)).p (by simp[Zk,below,Y5])
 simp only[zbx]at h1
 unfold Ev
 rw[C,Yk g,Yk f,Y5 c,zdf,←Yk g,←Yk f,←Y5 c,zrv.p,h1,h2,h3,h4]
 simp only[Zl,ZO,Bool.not_true,ZJ]
 cases c1:zjq sig over []with
 |false=>simp
 |true=>
  cases c2:zdx g with
  |false=>simp
  |true=>
   cases c3:zdx f with
   |false=>simp
   |true=>
    cases c4:Qr c with
    |false=>simp
    |true=>
     have c1':zmd sig=true∧zhR over=true:=by
      unfold zjq at c1
      simp only[Bool.and_eq_true]at c1
      exact⟨c1.1,c1.2.1⟩
     have hs:=zsf c1'.1
     have ho:=znD c1'.2
     have hg:=zoh c2
     have hf:=zoh c3
     have hc:=zmt c4
     have k1:=(zmw (over:=over) hs ⟨by omega,fun m h=>(ho.2 m h).hd⟩ hg hf hc).p (by simp[Zk,below,Z4,Yk,Y5])
     have k2:=(J8 f.schema c.ext (by have:=hf.schema.hds.szs;omega) (by have:=hc.ext.hds.szs;omega)).p
     have k3:=(J8 f.schema g.schema (by have:=hf.schema.hds.szs;omega) (by have:=hg.schema.hds.szs;omega)).p
     have hw:IntKind.i64.wrap ((c.ext.length:Int)+(f.phi.length:Int))=(c.ext.length:Int)+f.phi.length:=Zv ⟨by omega,by have:=hc.ext.len;have:=hf.phi.len;omega⟩
     simp only[Bool.not_true,ZJ,k1,k2,k3,Zl,zaj,X0,onM,Yx,QR,ZO,Zh,hw]
     by_cases hl:40<c.ext.length
     ·have hl':(c.ext.length:Int)>40:=by omega
      rw[zk3 hl]
      cases XL f.schema g.schema<;>simp[hl']
     ·have hl': ¬(c.ext.length:Int)>40:=by omega
      simp only[hl',decide_false,ZJ]
      cases q1:XL f.schema g.schema with
      |false=>
       rw[zdg (by omega) (by rw[q1,Bool.and_false])]
       simp
      |true=>
       cases q2:XL f.schema c.ext with
       |false=>
        rw[zdg (by omega) (by rw[q2,Bool.false_and])]
        simp
       |true=>
        by_cases hz:(Q8 sig over g f c).2=0
        ·obtain⟨z1,z2⟩:=znJ hz
         simp[hz,z1,z2]
        ·simp[hz]
theorem pure_ClauseSchema: ∀us,zje Tryz.prog [22,24,39,39,43] us→ZL us≤1048576→ ∃m st,(Xr Tryz.prog cfg ext m).call 6 us []=some (.ret (.bool true),st):=by
 intro us hW hb
 match us,hW with
 |[u,v,w,x,y],⟨h1,h2,h3,h4,h5,h6,h7,h8,h9,h10,_⟩=>
  obtain⟨sig,rfl⟩:=zpt ⟨h1,h2⟩
  obtain⟨over,rfl⟩:=zpw ⟨h3,h4⟩
  obtain⟨g,rfl⟩:=zoi ⟨h5,h6⟩
  obtain⟨f,rfl⟩:=zoi ⟨h7,h8⟩
  obtain⟨c,rfl⟩:=zgA zq1 zjv ⟨h9,h10⟩
  simp only[ZL,YA]at hb
  exact ztd (zfe sig over g f c (by omega))
end Go.Proofs.CL
