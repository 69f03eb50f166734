import Derived.Test.YthhifgeblblmcaaGreatAMb
import Derived.KernelRfl
import Derived.ControlIn
import Derived.RangeFuncIn
import Derived.RangeFuncRecord
import Derived.OrdersIn
/- An abstract machine over tree values that runs the model's code, and its soundness: what it tells of a call, the model does. -/
set_option linter.unusedVariables false
set_option linter.unusedSimpArgs false
set_option linter.unusedSectionVars false
namespace Go.AM
open Go Go.RowKit
section
variable{P:Program}{cfg:Cfg}{base n:Nat}{w w':World}{own own' own2:Own}{μ μ':List Nat}{ρ:Env}{st st':St}{a:Act}
variable{fid rid idx:Nat}{all:List Oper}{o:Oper}{R:Type}{r:R}
def zar(own own':Own)(S:Tag→Prop):Prop:= ∀b i,S (own b i)→own' b i=own b i
theorem VRep.tags{S:Tag→Prop}(hS:zar own own' S)(hp:S .pr){v:V}{c:Value}(h:VRep w (prOf own) μ v c):VRep w (prOf own') μ v c:=
 h.mono (fun b i e=>⟨by have:=hS b i (by rw[show own b i= .pr from e];exact hp);exact this.trans e,rfl⟩) fun _ _ h=>h
theorem GRep.tags{S:Tag→Prop}(hS:zar own own' S)(hp:S .pr){g:Tag}(hg:S g){sh:Sh}{es:List V}{c:Value}(h:GRep w own μ g sh es c):GRep w own' μ g sh es c:=by
 obtain⟨A,cap,hc,hl,h⟩:=h
 refine⟨A,cap,hc,hl, ?_⟩
 rcases h with h|⟨a,f,ccs,ty,fz,hA,ha,hb,hcap,hcell,hsh,hrep,hsp⟩
 ·exact .inl h
 ·refine .inr ⟨a,f,ccs,ty,fz,hA,ha,hb,hcap,fun i j hi hj=> ?_,hsh,fun i j hi hj=>(hrep i j hi hj).tags hS hp,fun k h1 h2=> ?_⟩
  ·obtain⟨h1,h2,h3⟩:=hcell i j hi hj
   exact⟨h1,(hS _ _ (by rw[h2];exact hp)).trans h2,h3⟩
  ·obtain⟨h3,h4⟩:=hsp k h1 h2
   exact⟨(hS _ _ (by rw[h3];exact hg)).trans h3,h4⟩
theorem CRep.tags{S:Tag→Prop}(hS:zar own own' S)(hp:S .pr){g:Tag}(hg:S g){v:V}{c:Value}(h:CRep w own μ g v c):CRep w own' μ g v c:=by
 unfold CRep at*
 split
 ·rename_i sh es
  exact GRep.tags hS hp hg h
 ·rename_i hn
  split at h
  ·exact absurd rfl (hn _ _)
  ·exact h.tags hS hp
theorem RRep.tags{S:Tag→Prop}(hS:zar own own' S)(hp:S .pr)(hr: ∀q j,S (.r q j)){r b:Nat}{x:Res}(h:RRep P cfg w own μ r b x):RRep P cfg w own' μ r b x:=by
 cases x with
 |dead=>trivial
 |box cells=>
  obtain⟨ccs,⟨ty,fz,h1,h2,h3,h4⟩,hj⟩:=h
  exact⟨ccs,⟨ty,fz,h1,h2,h3,fun i=>(hS _ _ (by rw[h4];exact hr _ _)).trans (h4 i)⟩,fun j hj'=>⟨(hj j hj').1,CRep.tags hS hp (hr _ _) (hj j hj').2⟩⟩
 |row sh es=>
  rcases h with h|⟨m,ccs,⟨ty,fz,h1,h2,h3,h4⟩,hl,hj⟩
  ·exact .inl h
  ·exact .inr ⟨m,ccs,⟨ty,fz,h1,h2,h3,fun i=>(hS _ _ (by rw[h4];exact hr _ _)).trans (h4 i)⟩,hl,fun i hi=>⟨(hj i hi).1,fun j hj'=>⟨((hj i hi).2 j hj').1,((hj i hi).2 j hj').2.tags hS hp⟩⟩⟩
 |spare sh n q=>
  obtain⟨cap,off,h1,h2,h⟩:=h
  refine⟨cap,off,h1,h2,h.imp id ?_⟩
  rintro⟨ccs,ty,fz,hb,hsz,hk⟩
  exact⟨ccs,ty,fz,hb,hsz,fun k k1 k2=>⟨(hS _ _ (by rw[(hk k k1 k2).1];exact hr _ _)).trans (hk k k1 k2).1,(hk k k1 k2).2⟩⟩
 |loop fid key vals s p=>
  obtain⟨ho,L,fn,c,hb,h1,h2,h3,h4,h5,h6,h7,h8⟩:=h
  exact⟨fun i=>(hS _ _ (by rw[ho];exact hr _ _)).trans (ho i),L,fn,c,hb,h1,h2,h3,h4,h5,h6,h7,fun t=>(h8 t).tags hS hp⟩
 |iter z p=>exact⟨fun i=>(hS _ _ (by rw[h.1];exact hr _ _)).trans (h.1 i),h.2⟩
 |map ck cv es=>exact⟨fun i=>(hS _ _ (by rw[h.1];exact hr _ _)).trans (h.1 i),h.2⟩
def Flat(own:Own):Prop:= ∀b i,own b i= .free∨own b i= .pr∨own b i= .fr∨ ∃q j,own b i= .r q j
def zbM(own:Own):Own:=fun b i=>match own b i with| .t _ _=> .fr| .d=> .fr|g=>g
theorem zad(own:Own)(b i:Nat):(zbM own b i=own b i∧(own b i= .free∨own b i= .pr∨own b i= .fr∨ ∃q j,own b i= .r q j))∨(zbM own b i= .fr∧(own b i= .d∨ ∃t j,own b i= .t t j)):=by
 unfold zbM
 cases h:own b i with
 |free=>exact .inl ⟨rfl, .inl rfl⟩
 |pr=>exact .inl ⟨rfl, .inr (.inl rfl)⟩
 |fr=>exact .inl ⟨rfl, .inr (.inr (.inl rfl))⟩
 |d=>exact .inr ⟨rfl, .inl rfl⟩
 |t t j=>exact .inr ⟨rfl, .inr ⟨t,j,rfl⟩⟩
 |r q j=>exact .inl ⟨rfl, .inr (.inr (.inr ⟨q,j,rfl⟩))⟩
theorem zf4(own:Own):Flat (zbM own):=fun b i=>by
 rcases zad own b i with⟨h1,h2⟩|⟨h1,_⟩
 ·rw[h1];exact h2
 ·exact .inr (.inr (.inl h1))
theorem zf5(own:Own):zar own (zbM own) (fun g=>g= .pr∨ ∃q j,g= .r q j):=fun b i h=>by
 rcases zad own b i with⟨h1,_⟩|⟨_,h2⟩
 ·exact h1
 ·exfalso
  rcases h2 with h2|⟨t,j,h2⟩<;>rw[h2]at h<;>rcases h with h|⟨_,_,h⟩<;>cases h
theorem Sto.toC(h:Sto P cfg base w own μ st):Sto P cfg base w (zbM own) μ st:=by
 refine⟨h.len,fun r x b hx hb=>(h.res r x b hx hb).tags (zf5 own) (.inl rfl) (fun q j=> .inr ⟨q,j,rfl⟩),fun b i hb=>h.alloc b i fun e=>hb ?_,fun b i h1 h2 h3=> ?_,h.size⟩
 ·rcases zad own b i with⟨h1,_⟩|⟨_,h2⟩
  ·rw[h1,e]
  ·rw[e]at h2;rcases h2 with h2|⟨_,_,h2⟩<;>cases h2
 ·rcases zad own b i with⟨h4,_⟩|⟨h4,_⟩
  ·rw[h4]at h1 h2 h3;exact h.low b i h1 h2 h3
  ·exact absurd h4 h3
theorem VRep.toC{v:V}{c:Value}(h:VRep w (prOf own) μ v c):VRep w (prOf (zbM own)) μ v c:=h.tags (zf5 own) (.inl rfl)
def zmF(own own':Own):Own:=fun b i=>match zbM own b i with| .fr=>own b i|_=>own' b i
theorem zae(hk: ∀b i,zbM own b i= .fr↔own' b i= .fr)(b i:Nat):(zmF own own' b i=own' b i∧own' b i≠ .fr∧zbM own b i≠ .fr)∨(zmF own own' b i=own b i∧own' b i= .fr∧zbM own b i= .fr):=by
 unfold zmF
 cases h:zbM own b i with
 |fr=>exact .inr ⟨rfl,(hk b i).1 h,rfl⟩
 |_=>exact .inl ⟨rfl,(fun e=>by rw[(hk b i).2 e]at h;cases h),by simp⟩
theorem zaf(hk: ∀b i,zbM own b i= .fr↔own' b i= .fr):zar own' (zmF own own') (fun g=>g= .pr∨ ∃q j,g= .r q j):=fun b i h=>by
 rcases zae hk b i with⟨h1,_⟩|⟨_,h2,_⟩
 ·exact h1
 ·rw[h2]at h;rcases h with h|⟨_,_,h⟩<;>cases h
theorem zov(hs:Sto P cfg base w own μ st)(hs':Sto P cfg base w' own' μ' st')(k:Keeps base w (zbM own) μ w' own' μ'):Step base w own μ w' (zmF own own') μ' (fun g=> ∃q j,g= .r q j):=by
 have hk:=k.fr
 refine⟨k.below,fun b i h=> ?_,fun b i h1 h2=> ?_,fun b i h=> ?_,fun b i h=> ?_,fun b i h1 h2 h3=> ?_,k.blk,fun b g h1 h2 h3 h4=> ?_,k.mu⟩
 ·have hc:zbM own b i= .pr:=by rw[zf5 own b i (.inl h),h]
  obtain⟨h1,h2⟩:=k.pr b i hc
  exact⟨by rw[zaf hk b i (.inl h1),h1],h2⟩
 ·rcases zad own b i with⟨e,hc⟩|⟨e,hc⟩
  ·rcases hc with hc|hc|hc|⟨q,j,hc⟩
   ·exact absurd hc h1
   ·have:=k.pr b i (e.trans hc)
    rw[zaf hk b i (.inl this.1),this.1,hc]
   ·rcases zae hk b i with⟨_,_,h5⟩|⟨h5,_⟩
    ·exact absurd (e.trans hc) h5
    ·exact h5
   ·exact absurd ⟨q,j,hc⟩ h2
  ·rcases zae hk b i with⟨_,_,h5⟩|⟨h5,_⟩
   ·exact absurd e h5
   ·exact h5
 ·rcases zae hk b i with⟨h5,h6,_⟩|⟨h5,_⟩
  ·rw[h5]at h;exact absurd h h6
  ·rw[←h5];exact h
 ·rcases zae hk b i with⟨h5,_⟩|⟨h5,_⟩
  ·rw[h5]at h;exact hs'.alloc b i h
  ·rw[h5]at h;exact Nat.lt_of_lt_of_le (hs.alloc b i h) k.below.size
 ·rcases zae hk b i with⟨h5,_⟩|⟨h5,_⟩
  ·rw[h5]at h1 h2 h3;exact hs'.low b i h1 h2 h3
  ·rw[h5]at h1 h2 h3;exact hs.low b i h1 h2 h3
 ·refine k.obj b fun i=> ?_
  have:=h1 i
  rcases zad own b i with⟨e,hc⟩|⟨e,_⟩
  ·rcases hc with hc|hc|hc|⟨q,j,hc⟩
   ·exact absurd (this.symm.trans hc) h2
   ·exact absurd (this.symm.trans hc) h3
   ·exact e.trans hc
   ·exact absurd ⟨q,j,this.symm.trans hc⟩ h4
  ·exact e
theorem zhp(h:Rel P cfg base n w own μ ρ st a)(hs':Sto P cfg base w' own' μ' st')(k:Keeps base w (zbM own) μ w' own' μ'):Rel P cfg base n w' (zmF own own') μ' ρ st' a∧Keeps base w own μ w' (zmF own own') μ':=by
 have s:=zov h.sto hs' k
 refine⟨h.step s (by simp) hs'.len rfl rfl (fun q x b h1 h2=> .inr ?_) (fun t=> .inl ⟨rfl,rfl,by simp,YN h t⟩),Yl s fun g ⟨q,j,e⟩=> .inr ⟨q,j,e⟩⟩
 exact(hs'.res q x b h1 h2).tags (zaf k.fr) (.inl rfl) (fun q j=> .inr ⟨q,j,rfl⟩)
def Args(w:World)(own:Own)(μ:List Nat)(args:List V)(cargs:Array Value):Prop:=args.length=cargs.size∧ ∀i,i<args.length→VRep w (prOf own) μ (args.getD i .undef) (cargs.getD i undef)
def Qy(P:Program)(cfg:Cfg)(base:Nat)(w:World)(own:Own)(μ:List Nat)(x:Out×St)(e:Ending)(w':World):Prop:=
 ∃c own' μ',Sto P cfg base w' own' μ' x.2∧Keeps base w own μ w' own' μ'∧match x.1 with
  | .ret v=>e= .returned c∧VRep w' (prOf own') μ' v c
  | .panic v=>e= .panicked [{v:=c,recovered:=false}]∧VRep w' (prOf own') μ' v c
def XZ(P:Program)(cfg:Cfg)(call:Nat→List V→St→Option (Out×St)):Prop:=
 ∀(f:Nat) (args:List V) (st:St) (x:Out×St),call f args st=some x→(∃fn,P.funcs[f]? =some fn∧fn.body.isSome=true)∧
  ∀(n base:Nat) (w:World) (own:Own) (μ:List Nat) (cargs:Array Value),Sto P cfg base w own μ st→Flat own→Args w own μ args cargs→CallsIn Fence.wide n P f cargs w (Qy P cfg base w own μ x)
def Qk(P:Program)(cfg:Cfg)(round:Nat→Nat→Nat→List V→List V→St→Option (Bool×St)):Prop:=
 ∀(q f key:Nat) (vals args:List V) (st:St) (x:Bool×St),st[q]? =some (.loop f key vals .ready none)→round q f key vals args st=some x→
  ∀(n base b:Nat) (w:World) (own:Own) (μ:List Nat) (cargs:Array Value),Sto P cfg base w own μ st→μ[q]? =some b→Flat own→Args w own μ args cargs→
   ∃fn tmps assign body,(Instr.yield b cargs).run P w= .ok (.round b fn tmps assign body) w∧
    RoundIn Fence.wide n P b fn tmps assign body w (Qy P cfg base w own μ (.ret (.bool x.1),x.2))
end
end Go.AM
namespace Go.AM
open Go Go.RowKit
section
variable{P:Program}{cfg:Cfg}{base n:Nat}{w w':World}{own own' own2:Own}{μ μ':List Nat}{ρ:Env}{st st':St}{a:Act}
variable{fid rid idx:Nat}{all:List Oper}{o:Oper}{R:Type}{r:R}{ro:Option Nat}
def wide(ro:Option Nat):Fence:={Fence.wide with round:=ro}
theorem zas(ro:Option Nat):(wide ro).depth.isSome=true→1≤n:=by simp[wide,Fence.wide]
theorem zbN{f:FuncId}{args:Array Value}{R:Ending→World→Prop}(h:CallsIn Fence.wide n P f args w R):CallsIn (wide ro) n P f args w R:=h
theorem zmG{l:Nat}{f:FuncId}{tmps:Array Value}{x y:Code}{R:Ending→World→Prop}(h:RoundIn Fence.wide n P l f tmps x y w R):RoundIn (wide ro) n P l f tmps x y w R:=h
theorem zow{nx:Next}(h:(execOp a.eval o).run P w= .ok nx w')(hn: ∀d,nx≠ .defer d): ∀c,o.op≠ .defer c:=by
 intro c hop
 simp only[execOp,hop,Sem.run_bind]at h
 cases hr:(resolve a.eval c o.type).run P w with
 |ok d w1=>rw[hr]at h;simp only[Result.andThen_ok]at h;cases h;exact hn _ rfl
 |halt x w1=>rw[hr]at h;simp[Result.andThen]at h
theorem zkZ{m:Nat}(h:OpOK P cfg base n all w own μ o a (ρ) st){Kw:Act→World→Prop}{Q:Exit→Act→World→Prop}
  (hK: ∀a' w' own' μ',Rel P cfg base n w' own' μ' ρ st a'→Keeps base w own μ w' own' μ'→LP all ρ→Kw a' w'):o.wpIn (wide ro) m P a w Kw Q:=by
 obtain⟨nx,cv,w',own',μ',hrun,hnx,hR,hk,hlp⟩:=h.ok
 refine⟨fun f _=>trivial, ?_⟩
 have hnd:=zow hrun (by rintro d rfl;rcases hnx with h|⟨h,_⟩<;>cases h)
 rw[Oper.semAt_eq _ _ _ hnd,hrun]
 rcases hnx with rfl|⟨rfl,rfl⟩
 ·exact hK _ _ _ _ hR hk hlp
 ·exact hK _ _ _ _ hR hk hlp
theorem zc9: ∀{ts:List TypeId} {vs:List V} {K:List V→Option R},XK P ts vs K=some r→K vs=some r
 |[],vs,K,h=>by
  cases vs with
  |nil=>exact h
  |cons v vs=>simp[XK,Zq]at h
 |t::ts,vs,K,h=>by
  cases vs with
  |nil=>simp[XK,Zd]at h
  |cons v vs=>
   simp only[XK,Zd]at h
   exact zc9 (K:=fun vs=>K (v::vs)) (YD h)
theorem JA{t:TypeId}{v:V}{K:V→Option R}(h:coerce P t v K=some r):K v=some r:=by
 unfold coerce at h
 split at h
 ·obtain⟨vs,rfl,h⟩:=zha h
  exact zc9 h
 ·exact YD h
theorem Yt{α:Type}{x:Option α}{K:α→Option R}(h:Za x K=some r): ∃y,x=some y∧K y=some r:=by
 unfold Za at h
 split at h
 ·exact⟨_,rfl,h⟩
 ·cases h
def zea(own:Own):Own:=fun b i=>match own b i with| .t _ _=> .fr| .d=> .fr| .r _ _=> .fr|g=>g
theorem zag(own:Own)(b i:Nat):(zea own b i=own b i∧(own b i= .free∨own b i= .pr∨own b i= .fr))∨(zea own b i= .fr∧(own b i= .d∨(∃t j,own b i= .t t j)∨ ∃q j,own b i= .r q j)):=by
 unfold zea
 cases h:own b i with
 |free=>exact .inl ⟨rfl, .inl rfl⟩
 |pr=>exact .inl ⟨rfl, .inr (.inl rfl)⟩
 |fr=>exact .inl ⟨rfl, .inr (.inr rfl)⟩
 |d=>exact .inr ⟨rfl, .inl rfl⟩
 |t t j=>exact .inr ⟨rfl, .inr (.inl ⟨t,j,rfl⟩)⟩
 |r q j=>exact .inr ⟨rfl, .inr (.inr ⟨q,j,rfl⟩)⟩
theorem zox(own:Own):Flat (zea own):=fun b i=>by
 rcases zag own b i with⟨h1,h2⟩|⟨h1,_⟩
 ·rw[h1];rcases h2 with h|h|h
  ·exact .inl h
  ·exact .inr (.inl h)
  ·exact .inr (.inr (.inl h))
 ·exact .inr (.inr (.inl h1))
theorem znR(own:Own):zar own (zea own) (fun g=>g= .pr):=fun b i h=>by
 rcases zag own b i with⟨h1,_⟩|⟨_,h2⟩
 ·exact h1
 ·exfalso
  rcases h2 with h2|⟨_,_,h2⟩|⟨_,_,h2⟩<;>rw[h2]at h<;>cases h
theorem Sto.toP(h:Sto P cfg base w own μ st):Sto P cfg base w (zea own) [] []:=by
 refine⟨rfl,fun r x b hx=>by simp at hx,fun b i hb=>h.alloc b i fun e=>hb ?_,fun b i h1 h2 h3=> ?_,h.size⟩
 ·rcases zag own b i with⟨h1,_⟩|⟨_,h2⟩
  ·rw[h1,e]
  ·rw[e]at h2;rcases h2 with h2|⟨_,_,h2⟩|⟨_,_,h2⟩<;>cases h2
 ·rcases zag own b i with⟨h4,h5⟩|⟨h4,_⟩
  ·rw[h4]at h1 h2 h3;exact h.low b i h1 h2 h3
  ·exact absurd h4 h3
def zjN(own own':Own):Own:=fun b i=>match zea own b i with| .fr=>own b i|_=>(match own' b i with| .pr=> .pr|_=> .free)
theorem zah(own own':Own)(b i:Nat):(zea own b i≠ .fr∧((own' b i= .pr∧zjN own own' b i= .pr)∨(own' b i≠ .pr∧zjN own own' b i= .free)))∨(zea own b i= .fr∧zjN own own' b i=own b i):=by
 unfold zjN
 cases h:zea own b i with
 |fr=>exact .inr ⟨rfl,rfl⟩
 |_=>
  left
  refine⟨by simp, ?_⟩
  cases h2:own' b i with
  |pr=>exact .inl ⟨rfl,rfl⟩
  |_=>exact .inr ⟨by simp,rfl⟩
theorem zoy(h:Rel P cfg base n w own μ ρ st a){μ1:List Nat}{st1:St}(hs':Sto P cfg base w' own' μ1 st1)(k:Keeps base w (zea own) [] w' own' μ1):
  Rel P cfg base n w' (zjN own own') μ ρ st a∧Keeps base w own μ w' (zjN own own') μ∧ ∀v c,VRep w' (prOf own') [] v c→VRep w' (prOf (zjN own own')) μ v c:=by
 have hs:=h.sto
 have hpr: ∀b i,own' b i= .pr→zjN own own' b i= .pr:=fun b i e=>by
  rcases zah own own' b i with⟨_,⟨_,h1⟩|⟨h1,_⟩⟩|⟨h1,_⟩
  ·exact h1
  ·exact absurd e h1
  ·have:=(k.fr b i).1 h1
   rw[e]at this;cases this
 have s:Step base w own μ w' (zjN own own') μ (fun _=>False):=by
  refine⟨k.below,fun b i e=> ?_,fun b i h1 _=> ?_,fun b i e=> ?_,fun b i e=> ?_,fun b i h1 h2 h3=> ?_,k.blk,fun b g h1 h2 h3 _=> ?_,[],by simp⟩
  ·have hc:zea own b i= .pr:=by rw[znR own b i e,e]
   obtain⟨h1,h2⟩:=k.pr b i hc
   exact⟨hpr b i h1,h2⟩
  ·rcases zag own b i with⟨e,hc⟩|⟨e,hc⟩
   ·rcases hc with hc|hc|hc
    ·exact absurd hc h1
    ·have:=k.pr b i (e.trans hc)
     rw[hpr b i this.1,hc]
    ·rcases zah own own' b i with⟨h5,_⟩|⟨_,h5⟩
     ·exact absurd (e.trans hc) h5
     ·exact h5
   ·rcases zah own own' b i with⟨h5,_⟩|⟨_,h5⟩
    ·exact absurd e h5
    ·exact h5
  ·rcases zah own own' b i with⟨_,⟨_,h1⟩|⟨_,h1⟩⟩|⟨_,h1⟩
   ·rw[h1]at e;cases e
   ·rw[h1]at e;cases e
   ·rw[←h1];exact e
  ·rcases zah own own' b i with⟨_,⟨h0,h1⟩|⟨_,h1⟩⟩|⟨_,h1⟩
   ·exact hs'.alloc b i (by rw[h0];simp)
   ·exact absurd h1 e
   ·rw[h1]at e;exact Nat.lt_of_lt_of_le (hs.alloc b i e) k.below.size
  ·rcases zah own own' b i with⟨_,⟨_,h4⟩|⟨_,h4⟩⟩|⟨_,h4⟩
   ·exact absurd h4 h2
   ·exact absurd h4 h1
   ·rw[h4]at h1 h2 h3;exact hs.low b i h1 h2 h3
  ·refine k.obj b fun i=> ?_
   have:=h1 i
   rcases zag own b i with⟨e,hc⟩|⟨e,_⟩
   ·rcases hc with hc|hc|hc
    ·exact absurd (this.symm.trans hc) h2
    ·exact absurd (this.symm.trans hc) h3
    ·exact e.trans hc
   ·exact e
 exact⟨h.same s,s.keeps fun h=>h,fun v c hv=>hv.mono (fun b i e=>⟨hpr b i e,rfl⟩) fun r b hb=>by simp at hb⟩
def GrowAt(P:Program)(g:Nat)(e:TypeId):Prop:=
 (∃fn,P.funcs[g]? =some fn∧fn.body.isSome=true)∧ ∀(k:Nat) (w:World) (i:TypeInfo),P.info? e=some i→0<i.size→0<i.bytes→k*i.bytes≤140737488355328→
  Calls P g #[.slice none 0 0, .int .i64 k] w fun ed w'=>(ed= .returned (.slice none 0 0)∧w'=w)∨ ∃cap ccs,ed= .returned (.slice (some ⟨w.heap.size,0,none⟩) 0 cap)∧w'=w.drew.alloc (.cells ccs e (0,0))∧ccs.size=cap*i.size
structure PlainNames(P:Program):Prop where
 names: ∀(f:Nat) (fn:Func),P.funcs[f]? =some fn→fn.name≠ "runtime.NumGoroutine"
 grow: ∀(g:Nat) (e:TypeId),growElem P g=some e→GrowAt P g e
theorem JR(hP:PlainNames P){g:Nat}(hg: ∃fn,P.funcs[g]? =some fn∧fn.body.isSome=true)(args:Array Value):(callFunc g args).run P w= .ok (.enter g args) w:=by
 obtain⟨fn,hf,hb⟩:=hg
 have hn:=hP.names g fn hf
 obtain⟨c,hc⟩:=Option.isSome_iff_exists.1 hb
 simp[callFunc,program,Sem.run,hf,hn,hc,Bind.bind,Sem.bind,pure]
theorem zpK{ρ':Env}(h:Pre P cfg base n all w own μ ρ st a o){tk:Bool}{xs:List Operand}{as_:Array Operand}(hx: ∀x∈as_.toList,x∈xs){ts:Array TypeId}(hl:as_.size=ts.size):
  Args w (Yq own ρ xs) μ (List.zipWith (fun x t=>plainAs P t (rd ρ tk x)) as_.toList ts.toList) (as_.map a.eval):=by
 refine⟨by simp[hl],fun i hi=> ?_⟩
 have hi1:i<as_.size:=by simp at hi;omega
 have hi2:i<ts.size:=by omega
 have:=(Zu h tk (xs:=xs) (x:=as_[i]) (hx _ (by simp))).plainAs (P:=P) (t:=ts[i])
 simpa[List.getD_eq_getElem?_getD,Array.getD_eq_getD_getElem?,List.getElem?_zipWith,hi1,hi2]using this
theorem Args.app{xs ys:List V}{cx cy:Array Value}(h1:Args w own μ xs cx)(h2:Args w own μ ys cy):Args w own μ (xs++ys) (cx++cy):=by
 refine⟨by simp[h1.1,h2.1],fun i hi=> ?_⟩
 simp only[List.length_append]at hi
 rw[List.getD_eq_getElem?_getD,Array.getD_eq_getD_getElem?]
 rcases Nat.lt_or_ge i xs.length with h|h
 ·rw[List.getElem?_append_left h,Array.getElem?_append_left (by rw[←h1.1];exact h),←List.getD_eq_getElem?_getD,←Array.getD_eq_getD_getElem?]
  exact h1.2 i h
 ·rw[List.getElem?_append_right h,Array.getElem?_append_right (by rw[←h1.1];exact h),←List.getD_eq_getElem?_getD,←Array.getD_eq_getD_getElem?,←h1.1]
  exact h2.2 _ (by omega)
theorem Args.mono{xs:List V}{cx:Array Value}(h:Args w own μ xs cx)(hv: ∀v c,VRep w (prOf own) μ v c→VRep w' (prOf own') μ' v c):Args w' own' μ' xs cx:=⟨h.1,fun i hi=>hv _ _ (h.2 i hi)⟩
end
end Go.AM
namespace Go.AM
open Go Go.RowKit
section
variable{P:Program}{cfg:Cfg}{base n:Nat}{w w':World}{own own' own2:Own}{μ μ':List Nat}{ρ:Env}{st st':St}{a:Act}
variable{fid rid idx:Nat}{all:List Oper}{o:Oper}{R:Type}{r:R}{ro:Option Nat}{O:Oracle}
theorem zeB(h:Pre P cfg base n all w own μ ρ st a o){tk:Bool}{xs:List Operand}{Kw:Act→World→Prop}{Q:Exit→Act→World→Prop}{K:List (Nat×V)→St→Option R}{Kx:V→St→Option R}
  (hK: ∀us st' a' w' own' μ',K us st'=some r→Rel P cfg base n w' own' μ' (ρ.apply us) st' a'→Keeps base w own μ w' own' μ'→LP all (ρ.apply us)→Kw a' w')
  {own1:Own} {v:V} {c:Value} (hR:Rel P cfg base n w' own1 μ' (ρ.apply (upds ρ tk xs)) st' a) (hk:Keeps base w own μ w' own1 μ') (hv:VRep w' (prOf own1) μ' v c)
  (hf:K (upds ρ tk xs++ZC o.dst v) st'=some r):Kw (a.put o.dst c) w':=by
 have hlp:=h.lp.read tk xs
 cases hd:o.dst with
 |none=>
  rw[hd]at hf
  refine hK _ _ _ _ _ _ hf ?_ hk ?_
  ·rw[ZF];exact hR
  ·rw[ZF];exact hlp
 |some d=>
  rw[hd]at hf
  refine hK _ _ _ _ _ _ hf ?_ hk ?_
  ·rw[ZF];exact hR.put d (h.dst d hd) (X7 (h.noPtr hd) tk xs) hv
  ·rw[ZF];exact hlp.set h.mem hd v
theorem zeC{c:Call}{f:Operand}(hop:o.op= .call c)(hc:c.callee= .value f){d:Deferred}{nx:Next}(hd:(Deferred.ofValue (a.eval f) (c.args.map a.eval)).run P w= .ok d w)(hn:(invoke d.target d.args).run P w= .ok nx w):
  (o.semAt ro a.eval).run P w= .ok nx w:=by
 rw[Oper.semAt_eq _ _ _ (by intro c' h';rw[hop]at h';cases h')]
 simp only[execOp,hop,resolve,hc,Sem.run_bind,hd,Result.andThen_ok,hn]
def Wk(v v':V):Prop:= ∀(w:World) (pr:Nat→Nat→Prop) (μ:List Nat) (c:Value),VRep w pr μ v c→VRep w pr μ v' c
theorem Wk.refl(v:V):Wk v v:=fun _ _ _ _ h=>h
theorem Wk.clean(v:V):Wk v (Zs v):=fun w pr μ c h=>by
 cases v with
 |agg cs=>
  cases h with
  |agg _ ccs hl h1 hc=>exact zdW (.agg cs ccs hl h1 hc)
 |vec m sh es=>cases m<;>exact h.plain1
 |_=>exact h.plain1
theorem znS(hP:PlainNames P)(hC:XZ P cfg O.call)(h:Pre P cfg base n all w own μ ρ st a o){c:Call}{f:Operand}(hop:o.op= .call c)(hc:c.callee= .value f){tk:Bool}{xs:List Operand}
  {g:Nat} {cf cc:Array Value} (hev:a.eval f= .func (.func g) cf cc) {args:List V} (hargs:Args w (Yq own ρ xs) μ args (cf++c.args.map a.eval++cc)) {Kw:Act→World→Prop} {Q:Exit→Act→World→Prop} {K:List (Nat×V)→St→Option R} {Kx:V→St→Option R} {m:Nat}
  (hK: ∀us st' a' w' own' μ',K us st'=some r→Rel P cfg base n w' own' μ' (ρ.apply us) st' a'→Keeps base w own μ w' own' μ'→LP all (ρ.apply us)→Kw a' w')
  (hX: ∀v c st' ρ' w' own' μ',Kx v st'=some r→Rel P cfg base n w' own' μ' ρ' st' a→Keeps base w own μ w' own' μ'→VRep w' (prOf own') μ' v c→Q (.panic [{v:=c,recovered:=false}]) a w')
  {fin:V→St→Option R} (hfin: ∀v st',fin v st'=some r→ ∃v',Wk v v'∧K (upds ρ tk xs++ZC o.dst v') st'=some r)
  {pan:Bool} (hcall:bc (cfg.pure g) (Za (Zj O g args) fun v=>fin v st)
   (Za (O.call g args st) fun x=>Zx x.1 (fun v=>fin v x.2) fun p=>bc pan (Kx p x.2) none)=some r):
  o.wpIn (wide ro) m P a w Kw Q:=by
 obtain⟨hr,hs1,_⟩:=h.rel.read tk xs
 have hk1:=Z2 hs1
 refine⟨fun f _=>trivial, ?_⟩
 have hrun:(∃fn,P.funcs[g]? =some fn∧fn.body.isSome=true)→(o.semAt (wide ro).round a.eval).run P w= .ok (.enter g (cf++c.args.map a.eval++cc)) w:=by
  intro hg
  refine zeC hop hc (d:={target:= .fn (.func g) cc,args:=cf++c.args.map a.eval}) (by rw[hev];rfl) ?_
  exact JR hP hg _
 rcases Ya hcall with⟨_,hcall⟩|⟨_,hcall⟩
 ·obtain⟨v,hp,hcall⟩:=Yt hcall
  unfold Zj at hp
  obtain⟨hb,hp⟩:=Ze hp
  obtain⟨x,hx,hp⟩:=Yt hp
  obtain⟨hg,hcalls⟩:=hC g args [] x hx
  rw[hrun hg]
  refine⟨zas ro,zbN ?_⟩
  have hA:Args w (zea (Yq own ρ xs)) [] args (cf++c.args.map a.eval++cc):=by
   refine⟨hargs.1,fun i hi=> ?_⟩
   have h1:=(hargs.2 i hi).cut (n:=0) (YF hb i hi)
   rw[List.take_zero]at h1
   exact h1.tags (znR _) rfl
  refine(hcalls (m-1) base w (zea (Yq own ρ xs)) [] _ hr.sto.toP (zox _) hA).mono fun e w'' hpost=> ?_
  obtain⟨cv,own2,μ2,h1,h2,h3⟩:=hpost
  obtain⟨out,st2⟩:=x
  cases out with
  |panic p=>simp[Zx]at hp
  |ret v'=>
   simp only[Zx]at hp
   obtain⟨hb2,hp⟩:=Ze hp
   cases hp
   obtain⟨rfl,hv⟩:=h3
   obtain⟨k1,k2,k3⟩:=zoy hr h1 h2
   have hv':=hv.cut (n:=0) hb2
   rw[List.take_zero]at hv'
   obtain⟨u,hu,hcall⟩:=hfin _ _ hcall
   exact zeB h (Kx:=Kx) (Q:=Q) hK k1 (hk1.trans k2) (hu _ _ _ _ (k3 _ _ hv')) hcall
 ·obtain⟨x,hx,hcall⟩:=Yt hcall
  obtain⟨hg,hcalls⟩:=hC g args st x hx
  rw[hrun hg]
  refine⟨zas ro,zbN ?_⟩
  refine(hcalls (m-1) base w (zbM (Yq own ρ xs)) μ _ hr.sto.toC (zf4 _) (hargs.mono fun v c hv=>hv.toC)).mono fun e w'' hpost=> ?_
  obtain⟨cv,own2,μ2,h1,h2,h3⟩:=hpost
  obtain⟨k1,k2⟩:=zhp hr h1 h2
  obtain⟨out,st2⟩:=x
  cases out with
  |panic p=>
   simp only[Zx]at hcall
   rcases Ya hcall with⟨_,hcall⟩|⟨_,hcall⟩
   ·obtain⟨rfl,hv⟩:=h3
    exact hX _ _ _ _ _ _ _ hcall k1 (hk1.trans k2) (hv.tags (zaf h2.fr) (.inl rfl))
   ·cases hcall
  |ret v=>
   simp only[Zx]at hcall
   obtain⟨rfl,hv⟩:=h3
   obtain⟨u,hu,hcall⟩:=hfin _ _ hcall
   exact zeB h (Kx:=Kx) (Q:=Q) hK k1 (hk1.trans k2) (hu _ _ _ _ (hv.tags (zaf h2.fr) (.inl rfl))) hcall
theorem zpL{pr:Nat→Nat→Prop}{g:Nat}{fi ca:List V}{c:Value}(h:VRep w pr μ (.fn g fi ca) c): ∃cf cc,c= .func (.func g) cf cc∧(fi.length=cf.size∧ ∀i,i<fi.length→VRep w pr μ (fi.getD i .undef) (cf.getD i undef))∧(ca.length=cc.size∧ ∀i,i<ca.length→VRep w pr μ (ca.getD i .undef) (cc.getD i undef)):=by
 cases h with
 |fn _ _ _ cf cc hf hc h1 h2=>exact⟨cf,cc,rfl,⟨hf,h1⟩,⟨hc,h2⟩⟩
theorem Xz{x:Res}{K:Nat→Nat→List V→LSt→Option Ex→Option R}(h:ZP x K=some r): ∃f k vs s p,x= .loop f k vs s p∧K f k vs s p=some r:=by
 cases x<;>simp[ZP]at h
 exact⟨_,_,_,_,_,rfl,h⟩
theorem zpM{fn:Func}(h:fn.name= "internal/bytealg.IndexByteString"):Extern.find fn=some Extern.BytealgIndexByte.indexByte:=by
 have h1:Extern.allGenericRows.lookup "internal/bytealg.IndexByteString" =none:=by kernel_rfl
 have h2:Extern.allTypedRows.lookup "internal/bytealg.IndexByteString" =none:=by kernel_rfl
 have h3:Extern.allRows.lookup "internal/bytealg.IndexByteString" =some Extern.BytealgIndexByte.indexByte:=by kernel_rfl
 unfold Extern.find
 rw[h]
 simp only[h1,h2,h3]
 rfl
theorem zla(hP:PlainNames P)(h:Pre P cfg base n all w own μ ρ st a o){c:Call}{g:Nat}(hop:o.op= .call c)(hc:c.callee= .value (.func g)){tk:Bool}{xs:List Operand}
  {args:List V} (hargs:Args w (Yq own ρ xs) μ args (c.args.map a.eval)) {Kw:Act→World→Prop} {Q:Exit→Act→World→Prop} {K:List (Nat×V)→St→Option R} {m:Nat}
  (hK: ∀us st' a' w' own' μ',K us st'=some r→Rel P cfg base n w' own' μ' (ρ.apply us) st' a'→Keeps base w own μ w' own' μ'→LP all (ρ.apply us)→Kw a' w')
  {v:V} (hv:zjz P g args=some v) (hcall:K (upds ρ tk xs++ZC o.dst v) st=some r):
  o.wpIn (wide ro) m P a w Kw Q:=by
 obtain⟨hr,hs1,_⟩:=h.rel.read tk xs
 have hk1:=Z2 hs1
 unfold zjz at hv
 split at hv
 ·rename_i fn hfn
  obtain⟨hb,hv⟩:=Ze hv
  simp only[Bool.and_eq_true,beq_iff_eq,Option.isNone_iff_eq_none]at hb
  obtain⟨⟨hb,hn⟩,hname⟩:=hb
  split at hv
  ·rename_i s z _
   cases hv
   have hcargs:c.args.map a.eval= #[.string s, .int .u8 z]:=by
    obtain⟨h1,h2⟩:=hargs
    have e0:=VRep.str_inv (h2 0 (by simp))
    have e1:=VRep.ik_inv (h2 1 (by simp))
    apply Array.ext
    ·simpa using h1.symm
    ·intro i hi _
     have hi2:i<2:=by rw[←h1]at hi;simpa using hi
     match i,hi2 with
     |0,_=>rw[Array.getD_eq_getD_getElem?,Array.getElem?_eq_getElem hi]at e0;simpa using e0
     |1,_=>rw[Array.getD_eq_getD_getElem?,Array.getElem?_eq_getElem hi]at e1;simpa using e1
   refine⟨fun f _=>trivial, ?_⟩
   have hrun:(o.semAt (wide ro).round a.eval).run P w= .ok (.value (.int .i64 (firstIdx s z.toNat.toUInt8))) w:=by
    refine zeC hop hc (d:={target:= .fn (.func g) #[],args:= #[]++c.args.map a.eval}) rfl ?_
    have:=run_callFunc_extern (P:=P) hfn (by have:=hP.names g fn hfn;simpa using this) (by rw[hb];rfl) hn (zpM hname) (c.args.map a.eval) w
    rw[hcargs,run_indexByte_string]at this
    simp only[Array.empty_append,hcargs]
    exact this
   rw[hrun]
   exact zeB h (Kx:=fun _ _=>none) (Q:=Q) hK hr hk1 (.int _) hcall
  ·cases hv
 ·cases hv
theorem zoz(hP:PlainNames P)(h:Pre P cfg base n all w own μ ρ st a o){c:Call}{g:Nat}(hop:o.op= .call c)(hc:c.callee= .value (.func g)){tk:Bool}{e:TypeId}{x:Operand}(hg:zbl P g c=some (e,x)){k:Int}(hx:rd ρ tk x= .int k)
  (h0:0≤k) (hroom:roomFor P e k.toNat=true) (hok:okTy P e=true) (hsz:0<(shOf P e).sz) (hd:o.dst.isSome=true) {Kw:Act→World→Prop} {Q:Exit→Act→World→Prop} {K:List (Nat×V)→St→Option R} {m:Nat}
  (hK: ∀us st' a' w' own' μ',K us st'=some r→Rel P cfg base n w' own' μ' (ρ.apply us) st' a'→Keeps base w own μ w' own' μ'→LP all (ρ.apply us)→Kw a' w')
  (hcall:K (upds ρ tk (.func g::c.args.toList)++ZC o.dst (.vec .grow (shOf P e) [])) st=some r):o.wpIn (wide ro) m P a w Kw Q:=by
 obtain⟨hr,hs1,_⟩:=h.rel.read tk (.func g::c.args.toList)
 have hk1:=Z2 hs1
 unfold zbl at hg
 split at hg
 ·rename_i y hargs
  obtain⟨e',he,hg⟩:=Option.map_eq_some_iff.1 hg
  simp only[Prod.mk.injEq]at hg
  obtain⟨rfl,rfl⟩:=hg
  have hX:=VRep.int_inv ((hx▸Zu h tk (xs:= .func g::c.args.toList) (x:=y) (by simp[hargs])).val (by simp))
  obtain⟨hgb,hgrow⟩:=hP.grow g e' he
  have hmap:c.args.map a.eval= #[.slice none 0 0, .int .i64 k]:=by
   apply Array.toList_inj.1
   simp only[Array.toList_map,hargs,List.map_cons,List.map_nil,hX]
   rfl
  obtain⟨d,hd'⟩:=Option.isSome_iff_exists.1 hd
  refine⟨fun f _=>trivial, ?_⟩
  have hrun:(o.semAt (wide ro).round a.eval).run P w= .ok (.enter g #[.slice none 0 0, .int .i64 k]) w:=by
   refine zeC hop hc (d:={target:= .fn (.func g) #[],args:= #[]++c.args.map a.eval}) rfl ?_
   rw[hmap]
   have:=JR (w:=w) hP hgb #[.slice none 0 0, .int .i64 k]
   simpa[invoke]using this
  rw[hrun]
  refine⟨zas ro,zbN (callsIn_wide.2 ?_)⟩
  obtain⟨i,hi⟩: ∃i,P.info? e'=some i:=by
   unfold okTy at hok
   simp only[Bool.and_eq_true]at hok
   exact Option.isSome_iff_exists.1 hok.1.1.2
  have hisz:i.size=(shOf P e').sz:=by
   unfold okTy at hok
   simp only[Bool.and_eq_true,beq_iff_eq]at hok
   have:=hok.1.2
   rw[hi]at this
   simpa using this
  unfold roomFor at hroom
  rw[hi]at hroom
  simp only[Option.map_some,Option.getD_some,Bool.and_eq_true,decide_eq_true_eq]at hroom
  have hkk:((k.toNat:Nat):Int)=k:=by omega
  have hcl:=hgrow k.toNat w i hi (by rw[hisz];exact hsz) hroom.2 (by
   have:k.toNat*(2*i.bytes)=2*(k.toNat*i.bytes):=by rw[Nat.mul_left_comm]
   have h1:=hroom.1
   rw[this]at h1
   omega)
  rw[hkk]at hcl
  have hput: ∀{w':World} {own1:Own} {cv:Value},Rel P cfg base n w' own1 μ (ρ.apply (upds ρ tk (.func g::c.args.toList))) st a→Keeps base w own μ w' own1 μ→GRep w' own1 μ (.t d 0) (shOf P e') [] cv→Kw (a.put o.dst cv) w':=by
   intro w' own1 cv hR hk hG
   rw[hd']at hcall⊢
   refine hK _ _ _ _ _ _ hcall ?_ hk ?_
   ·rw[ZF]
    exact hR.put_any d (h.dst d hd') (X7 (h.noPtr hd') tk _) (by simp) fun _ _=>hG
   ·rw[ZF]
    exact(h.lp.read tk _).set h.mem hd' _
  refine hcl.mono fun ed w' hpost=> ?_
  rcases hpost with⟨rfl,rfl⟩|⟨cap,ccs,rfl,rfl,hsize⟩
  ·exact hput hr hk1 ⟨none,0,rfl,Nat.le_refl _, .inl ⟨rfl,rfl⟩⟩
  ·have hst:=zgj (w:=w) hr.sto ccs e' (fun _=> .t d 0) (fun i=>by simp)
   have hG:=zkS (g:= .t d 0) (pr:=prOf own) (w':=(drawn w (w.drawn+1)).alloc (.cells ccs e')) (ty:=e') (own':=Jo (Yq own ρ (.func g::c.args.toList)) w.heap.size fun _=> .t d 0) (μ:=μ) (cap:=cap) (C:=ccs) (b:=w.heap.size) (es:=[]) (cells:=[]) (sh:=shOf P e')
    ⟨by simp,fun i hi=>absurd hi (by simp),fun i j hi=>absurd hi (by simp)⟩
    (World.alloc_heap_new (drawn w (w.drawn+1)) _) (fun j hj=>by simp at hj) (Nat.zero_le _) (by rw[hsize,hisz];exact Nat.le_refl _) (fun j hj=>by simp at hj) (fun j hj=>by
     simp only[Jo]
     rw[if_pos trivial])
   exact hput (hr.same hst) (hk1.trans (hst.keeps fun h=>h)) hG
 ·cases hg
theorem zo0(hP:PlainNames P)(hC:XZ P cfg O.call)(hRd:Qk P cfg O.round)(h:Pre P cfg base n all w own μ ρ st a o){c:Call}{f:Operand}(hop:o.op= .call c)(hc:c.callee= .value f){Kw:Act→World→Prop}{Q:Exit→Act→World→Prop}
  {K:List (Nat×V)→St→Option R} {Kx:V→St→Option R} {m:Nat}
  (hK: ∀us st' a' w' own' μ',K us st'=some r→Rel P cfg base n w' own' μ' (ρ.apply us) st' a'→Keeps base w own μ w' own' μ'→LP all (ρ.apply us)→Kw a' w')
  (hX: ∀v c st' ρ' w' own' μ',Kx v st'=some r→Rel P cfg base n w' own' μ' ρ' st' a→Keeps base w own μ w' own' μ'→VRep w' (prOf own') μ' v c→Q (.panic [{v:=c,recovered:=false}]) a w')
  (hcall:X4 P cfg O fid rid idx o c f ρ st K Kx=some r):o.wpIn (wide ro) m P a w Kw Q:=by
 unfold X4 at hcall
 obtain⟨hl,hcall⟩:=Ze hcall
 have hl:=of_decide_eq_true hl
 have hargs:=zpK (ρ':=ρ) h (tk:=cfg.take fid rid idx) (xs:=f::c.args.toList) (as_:=c.args) (fun x hx=>List.mem_cons_of_mem _ hx) hl
 split at hcall
 ·rename_i g _
  split at hcall
  ·rename_i e x hgc
   obtain⟨k,hk,hcall⟩:=Y1 hcall
   obtain⟨hb,hcall⟩:=Ze hcall
   simp only[Bool.and_eq_true,decide_eq_true_eq]at hb
   exact zoz hP h hop hc hgc hk hb.1.1.1.1 hb.1.1.1.2 hb.1.1.2 hb.1.2 hb.2 hK hcall
  rcases Ya hcall with⟨_,hcall⟩|⟨_,hcall⟩
  ·obtain⟨v,hv,hcall⟩:=Yt hcall
   exact zla hP h hop hc (tk:=cfg.take fid rid idx) (xs:= .func g::c.args.toList) hargs hK hv (JA (K:=fun v=>K (upds ρ (cfg.take fid rid idx) (.func g::c.args.toList)++ZC o.dst v) st) hcall)
  ·exact znS hP hC h hop hc (tk:=cfg.take fid rid idx) (xs:= .func g::c.args.toList) (g:=g) (cf:= #[]) (cc:= #[]) rfl (by simpa using hargs) hK hX
    (fin:=fun v st=>bc (cfg.room g) (bc (cfg.take fid rid idx) (zb9 P (zk7 P g) o.type v fun v=>K (upds ρ (cfg.take fid rid idx) (.func g::c.args.toList)++ZC o.dst v) st) (coerce P o.type (Zs v) fun v=>K (upds ρ (cfg.take fid rid idx) (.func g::c.args.toList)++ZC o.dst v) st)) (coerce P o.type v fun v=>K (upds ρ (cfg.take fid rid idx) (.func g::c.args.toList)++ZC o.dst v) st))
    (fun v st' hf=>by
     rcases Ya hf with⟨_,hf⟩|⟨_,hf⟩
     ·rcases Ya hf with⟨_,hf⟩|⟨_,hf⟩
      ·exact⟨v, .refl v,zj3 (K:=fun v=>K (upds ρ (cfg.take fid rid idx) (.func g::c.args.toList)++ZC o.dst v) st') hf⟩
      ·exact⟨_, .clean v,JA (K:=fun v=>K (upds ρ (cfg.take fid rid idx) (.func g::c.args.toList)++ZC o.dst v) st') hf⟩
     ·exact⟨v, .refl v,JA (K:=fun v=>K (upds ρ (cfg.take fid rid idx) (.func g::c.args.toList)++ZC o.dst v) st') hf⟩) hcall
 ·rw[zdo]at hcall
  obtain⟨x,hx,hcall⟩:=Yt hcall
  have hF:=Zu h (cfg.take fid rid idx) (xs:=f::c.args.toList) (x:=f) (by simp)
  unfold zcy at hx
  split at hx
  ·rename_i g first cap hv
   rw[hv]at hF
   obtain⟨cf,cc,hev,h1,h2⟩:=zpL (hF.val (by simp))
   refine znS hP hC h hop hc (tk:=cfg.take fid rid idx) (xs:=f::c.args.toList) (args:=first++List.zipWith (fun x t=>plainAs P t (rd ρ (cfg.take fid rid idx) x)) c.args.toList c.argTypes.toList++cap) hev ((Args.app h1 hargs).app h2) hK hX (pan:=cfg.pan fid) (fin:=fun v st=>coerce P o.type v fun v=>K (upds ρ (cfg.take fid rid idx) (f::c.args.toList)++ZC o.dst v) st)
    (fun v st' hf=>⟨v, .refl v,JA (K:=fun v=>K (upds ρ (cfg.take fid rid idx) (f::c.args.toList)++ZC o.dst v) st') hf⟩) ?_
   rcases Ya hx with⟨hp,hx⟩|⟨hp,hx⟩
   ·obtain⟨v,hpc,hx⟩:=Yt hx
    cases hx
    rw[hp,hpc]
    exact hcall
   ·rw[hp,hx]
    exact hcall
  ·rename_i l hv
   rw[hv]at hF
   have hF:=hF.val (by simp)
   obtain⟨y,hst,hx⟩:=ZM hx
   obtain⟨lf,key,vals,s,p,rfl,hx2⟩:=Xz hx
   split at hx2
   ·obtain⟨y,hy,hx3⟩:=Yt hx2
    cases hx3
    obtain⟨hr,hs1,_⟩:=h.rel.read (cfg.take fid rid idx) (f::c.args.toList)
    have hk1:=Z2 hs1
    generalize hev:a.eval f=cv at hF
    cases hF with
    |yld _ b hb=>
     obtain⟨fn,tmps,assign,body,hyr,hround⟩:=hRd l lf key vals _ st y hst hy (m-1) base b w (zbM (Yq own ρ (f::c.args.toList))) μ _ hr.sto.toC hb (zf4 _) (hargs.mono fun v c hv=>hv.toC)
     refine⟨fun f _=>trivial, ?_⟩
     have hrun:(o.semAt (wide ro).round a.eval).run P w= .ok (.round b fn tmps assign body) w:=by
      refine zeC hop hc (d:={target:= .fn (.yield b) #[],args:= #[]++c.args.map a.eval}) (by rw[hev];rfl) ?_
      simp only[Array.empty_append]
      exact hyr
     rw[hrun]
     refine⟨zas ro,zmG (hround.mono fun e w'' hpost=> ?_)⟩
     obtain⟨cv,own2,μ2,h1,h2,h3⟩:=hpost
     obtain⟨k1,k2⟩:=zhp hr h1 h2
     obtain⟨rfl,hv⟩:=h3
     exact zeB h (Kx:=Kx) (Q:=Q) hK k1 (hk1.trans k2) (hv.tags (zaf h2.fr) (.inl rfl)) (JA (K:=fun v=>K (upds ρ (cfg.take fid rid idx) (f::c.args.toList)++ZC o.dst v) _) hcall)
   ·cases hx2
  ·cases hx
end
end Go.AM
namespace Go.AM
open Go Go.RowKit
section
variable{P:Program}{cfg:Cfg}{base n:Nat}{w w':World}{own own' own2:Own}{μ μ':List Nat}{ρ:Env}{st st':St}{a:Act}
variable{fid rid idx:Nat}{all:List Oper}{o:Oper}{R:Type}{r:R}{ro:Option Nat}{O:Oracle}
theorem zeD(hP:PlainNames P)(hC:XZ P cfg O.call)(hRd:Qk P cfg O.round)(h:Pre P cfg base n all w own μ ρ st a o){Kw:Act→World→Prop}{Q:Exit→Act→World→Prop}
  {K:List (Nat×V)→St→Option R} {Kx:V→St→Option R} {m:Nat}
  (hK: ∀us st' a' w' own' μ',K us st'=some r→Rel P cfg base n w' own' μ' (ρ.apply us) st' a'→Keeps base w own μ w' own' μ'→LP all (ρ.apply us)→Kw a' w')
  (hX: ∀v c st' ρ' w' own' μ',Kx v st'=some r→Rel P cfg base n w' own' μ' ρ' st' a→Keeps base w own μ w' own' μ'→VRep w' (prOf own') μ' v c→Q (.panic [{v:=c,recovered:=false}]) a w')
  (hrun:Xj P cfg O fid rid idx o ρ st K Kx=some r):o.wpIn (wide ro) m P a w Kw Q:=by
 unfold Xj at hrun
 split at hrun
 ·rename_i x hop
  split at hrun
  ·rename_i t v hv
   obtain⟨hr,hs1,_⟩:=h.rel.read false [x]
   have hV:=(hv▸Zu h false (xs:=[x]) (x:=x) (by simp)).val (by simp)
   refine⟨fun f _=>trivial, ?_⟩
   rw[Oper.semAt_eq _ _ _ (by intro c' h';rw[hop]at h';cases h')]
   cases hev:a.eval x with
   |iface t' c=>
    have:(execOp a.eval o).run P w= .halt (.panic (.iface t' c)) w:=by
     simp only[execOp,hop,hev,Instr.panic,goPanic]
     rfl
    rw[this]
    rw[hev]at hV
    exact hX _ _ _ _ _ _ _ hrun hr (Z2 hs1) hV
   |_=>rw[hev]at hV;cases hV
  ·cases hrun
 ·rename_i f args argTypes hop
  exact zo0 hP hC hRd h hop rfl hK hX hrun
 ·obtain⟨us,hus,hok⟩:=ziP h hrun
  exact zkZ hok fun a' w' own' μ' h1 h2 h3=>hK _ _ _ _ _ _ hus h1 h2 h3
 ·obtain⟨us,hus,hok⟩:=ziP h hrun
  exact zkZ hok fun a' w' own' μ' h1 h2 h3=>hK _ _ _ _ _ _ hus h1 h2 h3
 ·split at hrun
  ·obtain⟨us,hus,hok⟩:=zon h hrun
   exact zkZ hok fun a' w' own' μ' h1 h2 h3=>hK _ _ _ _ _ _ hus h1 h2 h3
  ·obtain⟨us,hus,hok⟩:=zor h hrun
   exact zkZ hok fun a' w' own' μ' h1 h2 h3=>hK _ _ _ _ _ _ hus h1 h2 h3
  ·obtain⟨us,st',hus,hok⟩:=zmE h hrun
   exact zkZ hok fun a' w' own' μ' h1 h2 h3=>hK _ _ _ _ _ _ hus h1 h2 h3
theorem LP.congr{ρ':Env}(h:LP all ρ)(hρ: ∀t,ρ'.get t=ρ.get t):LP all ρ':=fun t x off e=>h t x off (by rw[←hρ];exact e)
theorem Xl{t:Nat}{v:V}(h:ρ.get t=v)(x:Nat):(ρ.set t v).get x=ρ.get x:=by
 rw[Zo];split
 ·rename_i e;rw[e,h]
 ·rfl
def NoL(ρ:Env):Prop:= ∀t x off,ρ.get t≠ .lptr x off
theorem zpN(h:Rel P cfg base n w own μ ρ st a){d x off:Nat}(hd:ρ.get d= .lptr x off):Rel P cfg base n w own μ (ρ.set d .undef) st a:=by
 refine⟨h.sto,fun t=> ?_,h.tmps,h.defers,h.apart⟩
 rw[Zo]
 split
 ·exact .undef _
 ·have:=h.env t
  cases hv:ρ.get t with
  |lptr y off'=>
   rw[hv]at this
   obtain⟨b,h1,h2,h3⟩:=this
   refine⟨b,h1,h2, ?_⟩
   by_cases e:y=d
   ·rw[e,hd]at h3;exact h3.elim
   ·rw[Zo,if_neg e];exact h3
  |_=>rw[hv]at this;exact this.env (by simp)
theorem zcA: ∀(l:List Oper) (ρ:Env),Rel P cfg base n w own μ ρ st a→LP l ρ→Rel P cfg base n w own μ (tidy l ρ) st a∧NoL (tidy l ρ)
 |[],ρ,h,hl=>⟨h,fun t x off e=>by obtain⟨o,ho,_⟩:=hl t x off e;cases ho⟩
 |o::os,ρ,h,hl=>by
  simp only[tidy]
  have keep:(∀d x off,o.dst=some d→ρ.get d≠ .lptr x off)→LP os ρ:=fun hn t x off e=>by
   obtain⟨o',ho',hd⟩:=hl t x off e
   rcases List.mem_cons.1 ho' with rfl|hm
   ·exact absurd e (hn t x off hd)
   ·exact⟨o',hm,hd⟩
  split
  ·rename_i d hd
   split
   ·rename_i x off hx
    refine zcA os _ (zpN h hx) fun t y off' e=> ?_
    rw[Zo]at e
    split at e
    ·cases e
    ·rename_i hne
     obtain⟨o',ho',hd'⟩:=hl t y off' e
     rcases List.mem_cons.1 ho' with rfl|hm
     ·rw[hd]at hd';cases hd';exact absurd rfl hne
     ·exact⟨o',hm,hd'⟩
   ·rename_i hne
    exact zcA os _ h (keep fun d' x off e e2=>by rw[hd]at e;cases e;exact hne x off e2)
  ·rename_i hd
   exact zcA os _ h (keep fun d' x off e=>by rw[hd]at e;cases e)
theorem zeE(h:Rel P cfg base n w own μ ρ st a){t:Nat}{b:Bool}(ht:ρ.get t= .bool b):a.tmps[t]? =some (.bool b):=by
 have:=h.env t
 rw[ht]at this
 have:=VRep.bool_inv (this:VRep w (prOf own) μ (.bool b) _)
 rw[Array.getD_eq_getD_getElem?]at this
 cases hx:a.tmps[t]? with
 |none=>rw[hx]at this;cases this
 |some v=>rw[hx]at this;simpa using this
theorem zqL(h:Rel P cfg base n w own μ ρ st a){t:Nat}(ht:ρ.get t= .tup []): ∀b,a.tmps[t]? ≠some (.bool b):=by
 intro b hb
 have:=h.env t
 rw[ht,Array.getD_eq_getD_getElem?,hb]at this
 cases(this:VRep w (prOf own) μ (.tup []) _)
theorem QJ(h:Rel P cfg base n w own μ ρ st a){ops:Array Oper}{g:Nat}{want:Bool}(hg:o.guard=some (g,want)){t:Nat}(ht:(ops.toList[g]?).bind (·.dst)=some t):
  (∀b,ρ.get t= .bool b→Region.wanted o (yielded ops a.tmps)=(b==want))∧(ρ.get t= .tup []→Region.wanted o (yielded ops a.tmps)=false):=by
 have hy:((ops[g]?).bind (·.dst))=some t:=by rw[←ht,Array.getElem?_toList]
 refine⟨fun b hb=> ?_,fun hb=> ?_⟩
 ·have:=zeE h hb
  simp only[Region.wanted,hg,yielded,hy,Option.bind_some,this]
  cases b<;>cases want<;>rfl
 ·have:=zqL h hb
  simp only[Region.wanted,hg,yielded,hy,Option.bind_some]
  cases hx:a.tmps[t]? with
  |none=>rfl
  |some v=>cases v<;>first|rfl|exact absurd hx (this _)
inductive Kind(ρ:Env)(all:List Oper)(o:Oper):Env→List Nat→Bool→Prop where
 |plain (h:o.guard=none):Kind ρ all o ρ [] true
 |run (g:Nat) (want:Bool) (t:Nat) (h:o.guard=some (g,want)) (ht:(all[g]?).bind (·.dst)=some t) (hv:ρ.get t= .bool want):Kind ρ all o (ρ.set t (.bool want)) [t] true
 |skip (g:Nat) (want:Bool) (t:Nat) (b:Bool) (h:o.guard=some (g,want)) (ht:(all[g]?).bind (·.dst)=some t) (hv:ρ.get t= .bool b) (hb:b≠want):Kind ρ all o (ρ.set t (.bool b)) [t] false
 |none (g:Nat) (want:Bool) (t:Nat) (h:o.guard=some (g,want)) (ht:(all[g]?).bind (·.dst)=some t) (hv:ρ.get t= .tup []):Kind ρ all o ρ [t] false
theorem Kind.same{ρ1:Env}{g:List Nat}{b:Bool}(h:Kind ρ all o ρ1 g b): ∀t,ρ1.get t=ρ.get t:=by
 cases h with
 |plain h=>exact fun _=>rfl
 |run g want t h ht hv=>exact Xl hv
 |skip g want t b h ht hv hb=>exact Xl hv
 |none g want t h ht hv=>exact fun _=>rfl
theorem Kind.wanted{ops:Array Oper}{ρ1:Env}{g:List Nat}{b:Bool}(hk:Kind ρ ops.toList o ρ1 g b)(h:Rel P cfg base n w own μ ρ st a):Region.wanted o (yielded ops a.tmps)=b:=by
 cases hk with
 |plain hg=>simp[Region.wanted,hg]
 |run g want t hg ht hv=>rw[(QJ h hg ht).1 _ hv];simp
 |skip g want t b hg ht hv hb=>rw[(QJ h hg ht).1 _ hv];simpa using hb
 |none g want t hg ht hv=>exact(QJ h hg ht).2 hv
theorem zbO{draw:Bool}{fs:List Foot}{rest:List Oper}{i:Nat}{C:List Nat→Env→List (Nat×V)→St→Option R}{D:List Nat→Env→Option R}{K:Ex→Env→St→Option R}(h:JN P cfg O fid rid all draw fs rest o i ρ st C D K=some r):
  ∃ρ1 g b,Kind ρ all o ρ1 g b∧(bif draw then freshDst ρ1 o.dst else okDst all ρ1 o.dst)=true∧
   (b=true→Xj P cfg O fid rid i o ρ1 st (C g ρ1) (fun p st'=>bc draw (XT P cfg O fid rid all i (Z8 cfg fid rid i o g ρ1 []) st rest (i+1) ρ1 fs (K (.panic p) ρ1 st')) (K (.panic p) ρ1 st'))=some r)∧
   (b=false→D g ρ1=some r):=by
 simp only[JN]at h
 split at h
 ·rename_i hg
  obtain⟨h1,h2⟩:=Ze h
  exact⟨ρ,[],true, .plain hg,h1,fun _=>h2,fun e=>by cases e⟩
 ·rename_i g want hg
  split at h
  ·cases h
  ·rename_i t ht
   split at h
   ·rename_i b hv
    rcases Ya h with⟨rfl,k⟩|⟨rfl,k⟩
    ·rcases Ya k with⟨rfl,k2⟩|⟨rfl,k2⟩
     ·obtain⟨h1,h2⟩:=Ze k2
      exact⟨_,[t],true, .run g true t hg ht hv,h1,fun _=>h2,fun e=>by cases e⟩
     ·obtain⟨h1,h2⟩:=Ze k2
      exact⟨_,[t],false, .skip g true t false hg ht hv (by simp),h1,(fun e=>by cases e),fun _=>h2⟩
    ·rcases Ya k with⟨rfl,k2⟩|⟨rfl,k2⟩
     ·obtain⟨h1,h2⟩:=Ze k2
      exact⟨_,[t],false, .skip g false t true hg ht hv (by simp),h1,(fun e=>by cases e),fun _=>h2⟩
     ·obtain⟨h1,h2⟩:=Ze k2
      exact⟨_,[t],true, .run g false t hg ht hv,h1,fun _=>h2,fun e=>by cases e⟩
   ·rename_i hv
    obtain⟨h1,h2⟩:=Ze h
    exact⟨ρ,[t],false, .none g want t hg ht hv,h1,(fun e=>by cases e),fun _=>h2⟩
   ·cases h
theorem zeF{draw:Bool}{rest:List Oper}{i:Nat}{fs:List Foot}{K:Ex→Env→St→Option R}(hn: ∀o2 r2,rest=o2::r2→(!draw&&Q3 P o o2)=false)(h:ZD P cfg O fid rid all draw (o::rest) i ρ st fs K=some r):
  ∃ρ1 g b,Kind ρ all o ρ1 g b∧(bif draw then freshDst ρ1 o.dst else okDst all ρ1 o.dst)=true∧
   (b=true→Xj P cfg O fid rid i o ρ1 st (fun us st'=>ZD P cfg O fid rid all draw rest (i+1) (ρ1.apply us) st' (bif draw then Z8 cfg fid rid i o g ρ1 (us.map (·.1))::fs else fs) K) (fun p st'=>bc draw (XT P cfg O fid rid all i (Z8 cfg fid rid i o g ρ1 []) st rest (i+1) ρ1 fs (K (.panic p) ρ1 st')) (K (.panic p) ρ1 st'))=some r)∧
   (b=false→ZD P cfg O fid rid all draw rest (i+1) (ρ1.put o.dst (.tup [])) st (bif draw then {idx:=i,reads:=g,writes:=o.dst.toList,sk:= .none}::fs else fs) K=some r):=by
 cases rest with
 |nil=>exact zbO (C:=fun g ρ us st'=>ZD P cfg O fid rid all draw [] (i+1) (ρ.apply us) st' (bif draw then Z8 cfg fid rid i o g ρ (us.map (·.1))::fs else fs) K) (D:=fun g ρ=>ZD P cfg O fid rid all draw [] (i+1) (ρ.put o.dst (.tup [])) st (bif draw then {idx:=i,reads:=g,writes:=o.dst.toList,sk:= .none}::fs else fs) K) h
 |cons o2 r2=>
  have h2:JN P cfg O fid rid all draw fs (o2::r2) o i ρ st
   (fun g ρ us st'=>
    bc (!draw&&Q3 P o o2)
     (gd (okDst all (ρ.apply us) o2.dst) (ZD P cfg O fid rid all draw r2 (i+2) ((ρ.apply us).put o2.dst ((ρ.apply us).get (o.dst.getD 0))) st' fs K))
     (ZD P cfg O fid rid all draw (o2::r2) (i+1) (ρ.apply us) st' (bif draw then Z8 cfg fid rid i o g ρ (us.map (·.1))::fs else fs) K))
   (fun g ρ=>ZD P cfg O fid rid all draw (o2::r2) (i+1) (ρ.put o.dst (.tup [])) st (bif draw then {idx:=i,reads:=g,writes:=o.dst.toList,sk:= .none}::fs else fs) K) K=some r:=h
  rw[hn o2 r2 rfl]at h2
  exact zbO h2
theorem zjO{o o2:Oper}(h:Q3 P o o2=true): ∃t k ps d e,o.op= .buildSlice t k ps∧o2.op= .convert t t (.tmp d)∧o.dst=some d∧o.guard=none∧o2.guard=none∧0<k∧Yf P t=some e∧P.underlying e=some (.int .u8):=by
 unfold Q3 at h
 split at h
 ·rename_i t k ps s u x d h1 h2 h3
  simp only[Bool.and_eq_true,Option.isNone_iff_eq_none]at h
  obtain⟨⟨⟨⟨⟨⟨e1,e2⟩,e3⟩,g1⟩,g2⟩,hk⟩,he⟩:=h
  have e1:=Nat.eq_of_beq_eq_true e1
  have e2:=Nat.eq_of_beq_eq_true e2
  have e3:=Nat.eq_of_beq_eq_true e3
  subst e1 e2 e3
  split at he
  ·rename_i e hel
   split at he
   ·rename_i hu
    exact⟨_,k,ps,_,e,h1,h2,h3,g1,g2,Nat.le_of_ble_eq_true hk,hel,hu⟩
   ·cases he
  ·cases he
 ·cases h
theorem zlb{ops:Array Oper}(hdst: ∀o∈ops.toList,∀d,o.dst=some d→d<n){i:Nat}{o o2:Oper}(hget:ops.toList[i]? =some o)(hget2:ops.toList[i+1]? =some o2)(hR:Rel P cfg base n w own μ ρ st a)(hlp:LP ops.toList ρ)
  (hl:Q3 P o o2=true) {K:Ex→Env→St→Option R} {Q:Exit→Act→World→Prop} {m:Nat} {fs:List Foot} {r2:List Oper} (h:ZD P cfg O fid rid ops.toList false (o::o2::r2) i ρ st fs K=some r)
  (hK: ∀ρ2 a2 w2 own2,ZD P cfg O fid rid ops.toList false r2 (i+2) ρ2 st fs K=some r→Rel P cfg base n w2 own2 μ ρ2 st a2→Keeps base w own μ w2 own2 μ→LP ops.toList ρ2→wpOpsIn (wide ro) m P ops Q (List.range' (i+2) r2.length) a2 w2):
  wpOpsIn (wide ro) m P ops Q (List.range' i (o::o2::r2).length) a w:=by
 obtain⟨t,k,ps,d,e,hop,hop2,hd,hg,hg2,hk,hel,hu8⟩:=zjO hl
 have hmem:o∈ops.toList:=List.mem_of_getElem? hget
 have hmem2:o2∈ops.toList:=List.mem_of_getElem? hget2
 have hgo:ops[i]? =some o:=by rw[←hget,Array.getElem?_toList]
 have hgo2:ops[i+1]? =some o2:=by rw[←hget2,Array.getElem?_toList]
 have h2:JN P cfg O fid rid ops.toList false fs (o2::r2) o i ρ st
   (fun g ρ us st'=>
    bc (!false&&Q3 P o o2)
     (gd (okDst ops.toList (ρ.apply us) o2.dst) (ZD P cfg O fid rid ops.toList false r2 (i+2) ((ρ.apply us).put o2.dst ((ρ.apply us).get (o.dst.getD 0))) st' fs K))
     (ZD P cfg O fid rid ops.toList false (o2::r2) (i+1) (ρ.apply us) st' (bif false then Z8 cfg fid rid i o g ρ (us.map (·.1))::fs else fs) K))
   (fun g ρ=>ZD P cfg O fid rid ops.toList false (o2::r2) (i+1) (ρ.put o.dst (.tup [])) st (bif false then {idx:=i,reads:=g,writes:=o.dst.toList,sk:= .none}::fs else fs) K) K=some r:=h
 rw[hl]at h2
 obtain⟨ρ1,g,b,hkind,hok,hrun,_⟩:=zbO h2
 cases hkind with
 |run _ _ _ h'=>rw[hg]at h';cases h'
 |skip _ _ _ _ h'=>rw[hg]at h';cases h'
 |none _ _ _ h'=>rw[hg]at h';cases h'
 |plain _=>
  have hrun:=hrun rfl
  have hpre:Pre P cfg base n ops.toList w own μ ρ st a o:=⟨hR,hlp,hmem,hdst o hmem,hok⟩
  have hsk:JJ cfg fid rid i o ρ=if cfg.res fid d then .write else .none:=by simp only[JJ,hop,hd]
  simp only[Xj,hop,hsk]at hrun
  split at hrun
  ·rename_i hs
   split at hs
   ·cases hs
   ·simp only[Q9,hop,hel]at hrun
    split at hrun
    ·rename_i es hlay
     obtain⟨hc,hrun⟩:=Ze hrun
     simp only[Bool.and_eq_true,decide_eq_true_eq]at hc
     obtain⟨⟨hty,hokz⟩,hsz⟩:=hc
     obtain⟨cells,hcs,hv,hrun1⟩:=zci hpre hop hel hlay hty hokz hsz
     have hvo:Zw (.buildSlice t k ps)=ps.toList.map (·.2):=by simp[Zw,Op.operands]
     rw[hvo,hd]at hrun
     obtain⟨hr,hs1,_⟩:=hpre.rel.read (cfg.take fid rid i) (ps.toList.map (·.2))
     have s:=Step.fresh hr.sto w.drawn cells e (cells.size,cells.size+1)
     have hr2:=hr.same s
     have hV:=hv _ _ s (fun j hj=>by
      have this:((AM.drawn w w.drawn).alloc (.cells cells e (cells.size,cells.size+1))).heap[w.heap.size]? =some (.cells cells e (cells.size,cells.size+1)):=World.alloc_heap_new (AM.drawn w w.drawn) _
      simp only[World.cell?,this]
      simp[Array.getD_eq_getD_getElem?,hj]) (fun j=>zap _ _ _ _)
     have hk2:=(Z2 hs1).trans (s.keeps fun h=>h)
     have hR3:=hr2.put d (hpre.dst d hd) (X7 (hpre.noPtr hd) _ _) hV
     have hlp3:=(hpre.lp.read (cfg.take fid rid i) (ps.toList.map (·.2))).set hmem hd (.vec .full (shOf P e) es)
     have happ:ρ.apply (upds ρ (cfg.take fid rid i) (ps.toList.map (·.2))++ZC (some d) (.vec .full (shOf P e) es))=(ρ.apply (upds ρ (cfg.take fid rid i) (ps.toList.map (·.2)))).set d (.vec .full (shOf P e) es):=by
      rw[ZF];rfl
     rw[happ]at hrun
     simp only[Option.getD_some,Zo,if_true]at hrun
     obtain⟨hok2,hrun⟩:=Ze (show gd _ _=some r from hrun)
     have hpre2:Pre P cfg base n ops.toList _ _ μ _ st _ o2:=⟨hR3,hlp3,hmem2,hdst o2 hmem2,hok2⟩
     simp only[List.length_cons,List.range'_succ,wpOpsIn,hgo]
     have hw1:Region.wanted o (yielded ops a.tmps)=true:=by simp[Region.wanted,hg]
     have hw2: ∀tm,Region.wanted o2 (yielded ops tm)=true:=fun tm=>by simp[Region.wanted,hg2]
     rw[hw1,if_pos rfl]
     refine⟨fun f _=>trivial, ?_⟩
     rw[Oper.semAt_eq _ _ _ (by intro c' h';rw[hop]at h';cases h'),hrun1,Oper.uponIn_value]
     simp only[hgo2,hw2,if_true]
     refine⟨fun f _=>trivial, ?_⟩
     have hev:(a.put (some d) (.slice (some ⟨w.heap.size,0,none⟩) k k)).eval (.tmp d)= .slice (some ⟨w.heap.size,0,none⟩) k k:=by
      have:d<a.tmps.size:=by rw[hR.tmps];exact hpre.dst d hd
      simp[Act.eval,Act.put,this]
     have hrun2:(execOp (a.put o.dst (.slice (some ⟨w.heap.size,0,none⟩) k k)).eval o2).run P ((AM.drawn w w.drawn).alloc (.cells cells e (0,0)))= .ok (.value (.slice (some ⟨w.heap.size,0,none⟩) k k)) ((AM.drawn w w.drawn).alloc (.cells cells e (cells.size,cells.size+1))):=by
      simp only[execOp,hop2,hd,hev]
      exact Z0 (zgB (AM.drawn w w.drawn) cells t e k (YV hel) hu8)
     rw[Oper.semAt_eq _ _ _ (by intro c' h';rw[hop2]at h';cases h'),hrun2,Oper.uponIn_value,hd]
     cases hd2:o2.dst with
     |none=>
      rw[hd2]at hrun
      exact hK _ _ _ _ hrun hR3 hk2 hlp3
     |some d2=>
      rw[hd2]at hrun
      exact hK _ _ _ _ hrun (hR3.put d2 (hpre2.dst d2 hd2) (hpre2.noPtr hd2) hV) hk2 (hlp3.set hmem2 hd2 _)
    ·cases hrun
  ·rename_i hs;split at hs<;>cases hs
  ·simp only[J0,hop]at hrun
   cases hrun
theorem QC(hP:PlainNames P)(hC:XZ P cfg O.call)(hRd:Qk P cfg O.round){ops:Array Oper}(hdst: ∀o∈ops.toList,∀d,o.dst=some d→d<n){K:Ex→Env→St→Option R}{Q:Exit→Act→World→Prop}{m:Nat}
  {w0:World} {Y4:Own} {μ0:List Nat}
  (hQ: ∀ρ' st' a' w' own' μ',K .normal ρ' st'=some r→Rel P cfg base n w' own' μ' ρ' st' a'→NoL ρ'→Keeps base w0 Y4 μ0 w' own' μ'→Q .normal a' w')
  (hX: ∀v c ρ' ρ'' st' a' w' own' μ',K (.panic v) ρ' st'=some r→Rel P cfg base n w' own' μ' ρ'' st' a'→Keeps base w0 Y4 μ0 w' own' μ'→VRep w' (prOf own') μ' v c→Q (.panic [{v:=c,recovered:=false}]) a' w'):
  ∀(rest:List Oper) (i:Nat) (ρ:Env) (st:St) (fs:List Foot) (a:Act) (w:World) (own:Own) (μ:List Nat),ops.toList.drop i=rest→Rel P cfg base n w own μ ρ st a→LP ops.toList ρ→Keeps base w0 Y4 μ0 w own μ→
   ZD P cfg O fid rid ops.toList false rest i ρ st fs K=some r→wpOpsIn (wide ro) m P ops Q (List.range' i rest.length) a w
 |[],i,ρ,st,fs,a,w,own,μ,_,hR,hlp,hk,h=>by
  simp only[ZD,bc]at h
  obtain⟨h1,h2⟩:=zcA _ _ hR hlp
  exact hQ _ _ _ _ _ _ h h1 h2 hk
 |o::rest,i,ρ,st,fs,a,w,own,μ,hd,hR,hlp,hk,h=>by
  have hpair:(∃o2 r2,rest=o2::r2∧Q3 P o o2=true)∨ ∀o2 r2,rest=o2::r2→(!false&&Q3 P o o2)=false:=by
   cases rest with
   |nil=>exact .inr fun _ _ e=>by cases e
   |cons o2 r2=>
    cases hl:Q3 P o o2 with
    |true=>exact .inl ⟨o2,r2,rfl,hl⟩
    |false=>exact .inr fun _ _ e=>by cases e;simp[hl]
  rcases hpair with⟨o2,r2,rfl,hl⟩|hnl
  ·have hd2:ops.toList.drop (i+2)=r2:=by
    have:=congrArg (List.drop 2) hd
    simpa[List.drop_drop,Nat.add_comm]using this
   have hget:ops.toList[i]? =some o:=by
    have:=congrArg (·[0]?) hd
    simpa using this
   have hget2:ops.toList[i+1]? =some o2:=by
    have:=congrArg (·[1]?) hd
    simpa using this
   refine zlb (m:=m) (ro:=ro) hdst hget hget2 hR hlp hl (K:=K) (fs:=fs) (r2:=r2) h fun ρ2 a2 w2 own2 h1 h2 h3 h4=> ?_
   exact QC hP hC hRd hdst hQ hX r2 (i+2) _ st _ a2 w2 own2 μ hd2 h2 h4 (hk.trans h3) h1
  have hget:ops.toList[i]? =some o:=by
   have:=congrArg (·[0]?) hd
   simpa using this
  have hmem:o∈ops.toList:=List.mem_of_getElem? hget
  have hd':ops.toList.drop (i+1)=rest:=by
   have:=congrArg (List.drop 1) hd
   simpa[List.drop_drop,Nat.add_comm]using this
  have hgo:ops[i]? =some o:=by rw[←hget,Array.getElem?_toList]
  obtain⟨ρ1,g,b,hkind,hok,hrun,hskip⟩:=zeF hnl h
  have hR1:=hR.congr hkind.same
  have hlp1:=hlp.congr hkind.same
  have hw:=hkind.wanted hR
  have hpre:Pre P cfg base n ops.toList w own μ ρ1 st a o:=⟨hR1,hlp1,hmem,hdst o hmem,hok⟩
  simp only[List.length_cons,List.range'_succ,wpOpsIn,hgo,hw]
  cases b with
  |true=>
   rw[if_pos rfl]
   refine zeD hP hC hRd hpre (fun us st' a' w' own' μ' h1 h2 h3 h4=> ?_) (fun v c st' ρ' w' own' μ' h1 h2 h3 h4=> ?_) (hrun rfl)
   ·exact QC hP hC hRd hdst hQ hX rest (i+1) _ st' _ a' w' own' μ' hd' h2 h4 (hk.trans h3) h1
   ·exact hX _ _ _ _ _ _ _ _ _ h1 h2 (hk.trans h3) h4
  |false=>
   rw[if_neg (by simp)]
   refine⟨fun f _=>trivial, ?_⟩
   have h':=hskip rfl
   cases hod:o.dst with
   |none=>
    rw[hod]at h'
    exact QC hP hC hRd hdst hQ hX rest (i+1) _ st _ a w own μ hd' hR1 hlp1 hk h'
   |some d=>
    rw[hod]at h'
    have hT:VRep w (prOf own) μ (.tup []) undef:= .tup [] #[] rfl fun i hi=>by simp at hi
    exact QC hP hC hRd hdst hQ hX rest (i+1) _ st _ _ w own μ hd' (hR1.put d (hpre.dst d hod) (hpre.noPtr hod) hT) (hlp1.set hmem hod _) hk h'
 termination_by rest=>rest.length
end
end Go.AM
namespace Go.AM
open Go Go.RowKit
theorem zlc{F:Fence}{n:Nat}{P:Program}{Q:Exit→Act→World→Prop}{c:Code}(J:Nat→Act→World→Prop)
  (round: ∀k a w,J k a w→c.wpIn F n P (Exit.then (fun a' w'=> ∃k',k'<k∧J k' a' w') Q) a w) {k₀:Nat} {a:Act} {w:World} (h₀:J k₀ a w):(Code.loop c).wpIn F n P Q a w:=by
 intro b k cs hro hb hr
 have key: ∀j a w,J j a w→
   ∃e a' w',Q e a' w'∧ArrivesIn (Machine.fenced P F) P (lone (b.atR a (.code c:: .inLoop c::k)) cs w) b k cs e a' w':=by
  intro j
  induction j using Nat.strongRecOn with
  |_ j ih=>
   intro a w hJ
   obtain⟨e,a₁,w₁,hq,harr⟩:=round j a w hJ b (.inLoop c::k) cs hro hb hr
   cases e with
   |normal=>
    obtain⟨j',hlt,hJ'⟩:=hq
    obtain⟨e₂,a₂,w₂,hq₂,harr₂⟩:=ih j' hlt a₁ w₁ hJ'
    exact⟨e₂,a₂,w₂,hq₂, .of_steps (StepsIn.trans harr (.one (fenced_calm hb hr rfl) stepR_inLoop)) harr₂⟩
   |exit id=>exact⟨_,a₁,w₁,hq, .pass (x:= .inLoop c) rfl (fun _ _=> .inl (by simp)) harr⟩
   |goto l=>exact⟨_,a₁,w₁,hq, .pass (x:= .inLoop c) rfl (fun _ _=> .inl (by simp)) harr⟩
   |ret=>exact⟨_,a₁,w₁,hq, .pass (x:= .inLoop c) rfl (fun _ _=> .inl (by simp)) harr⟩
   |panic ch=>exact⟨_,a₁,w₁,hq, .pass (x:= .inLoop c) rfl (fun _ _=> .inl (by simp)) harr⟩
   |outgrown=>exact⟨_,a₁,w₁,hq, .pass (x:= .inLoop c) rfl (fun _ _=> .inl (by simp)) harr⟩
 obtain⟨e,a',w',hq,harr⟩:=key _ a w h₀
 exact⟨e,a',w',hq, .of_steps (.one (fenced_calm hb hr rfl) stepR_loop) harr⟩
section
variable{P:Program}{cfg:Cfg}{base n:Nat}{w w':World}{own own':Own}{μ μ':List Nat}{ρ:Env}{st st':St}{a:Act}{R:Type}{r:R}
theorem Jp{sh:Sh}{v:V}{K:Bool→V→Option R}(h:YM sh v K=some r): ∃d u,v= .loc d sh u∧K d u=some r:=by
 unfold YM at h
 split at h
 ·split at h
  ·rename_i e;subst e;exact⟨_,_,rfl,h⟩
  ·cases h
 ·cases h
theorem zgl{sh:Sh}{v:V}{K:Nat→Nat→Nat→Option R}(h:zaS sh v K=some r): ∃q lo m,v= .row sh q lo m∧K q lo m=some r:=by
 unfold zaS at h
 split at h
 ·split at h
  ·rename_i e;subst e;exact⟨_,_,_,rfl,h⟩
  ·cases h
 ·cases h
theorem zhq{v:V}{K:Nat→Option R}(h:zie v K=some r): ∃q,v= .mp q∧K q=some r:=by
 unfold zie at h
 split at h
 ·exact⟨_,rfl,h⟩
 ·cases h
theorem zhr{v:V}{K:Nat→Option R}(h:zet v K=some r): ∃q,v= .ref q 0∧K q=some r:=by
 unfold zet at h
 split at h
 ·exact⟨_,rfl,h⟩
 ·cases h
theorem zgm{sh:Sh}{v:V}{K:List V→Option R}(h:YY sh v K=some r): ∃es,(v= .vec .grow sh es∨v= .vec .full sh es)∧K es=some r:=by
 unfold YY at h
 split at h
 ·split at h
  ·rename_i e;subst e;exact⟨_, .inl rfl,h⟩
  ·cases h
 ·split at h
  ·rename_i e;subst e;exact⟨_, .inr rfl,h⟩
  ·cases h
 ·cases h
theorem zgn{sh:Sh}{v:V}{K:List V→Option R}(h:zcw sh v K=some r): ∃es,v= .vec .full sh es∧K es=some r:=by
 unfold zcw at h
 split at h
 ·split at h
  ·rename_i e;subst e;exact⟨_,rfl,h⟩
  ·cases h
 ·cases h
theorem ziQ{g:Tag}{sh:Sh}{es:List V}{c:Value}(h:VRep w (prOf own) μ (.vec .full sh es) c)(hz:0<sh.sz):GRep w own μ g sh es c:=by
 cases h with
 |vecE _ _ A c hg hm=>exact zf0 (.vecE _ _ A c hg hm) hz
 |vec _ _ _ ad c f hm hf hl ha hcell hsh hc=>exact zf0 (.vec _ _ _ ad c f hm hf hl ha hcell hsh hc) hz
mutual
theorem zjP(k:Kd)(v:V)(K:V→Option R)(h:Z6 P k v K=some r):
  ∃v',K v'=some r∧ ∀(g:Tag) (c:Value),CRep w own μ g v c→CRep w own μ g v' c:=by
 match k with
 | .ty t=>unfold Z6 at h;exact⟨v,YD h,fun _ _ h=>h⟩
 | .ct c=>unfold Z6 at h;exact⟨v,Q4 h,fun _ _ h=>h⟩
 | .any=>unfold Z6 at h;exact⟨v,h,fun _ _ h=>h⟩
 | .ref=>
  unfold Z6 at h
  obtain⟨q,rfl,h0⟩:=zhr h
  exact⟨_,h0,fun _ _ h=>h⟩
 | .mp=>
  unfold Z6 at h
  obtain⟨q,rfl,h0⟩:=zhq h
  exact⟨_,h0,fun _ _ h=>h⟩
 | .row sh=>
  unfold Z6 at h
  obtain⟨q,lo,m,rfl,h0⟩:=zgl h
  exact⟨_,h0,fun _ _ h=>h⟩
 | .grow sh=>
  unfold Z6 at h
  obtain⟨hz,h⟩:=Ze h
  obtain⟨es,hv,h⟩:=zgm h
  refine⟨_,h,fun g c hc=> ?_⟩
  rcases hv with rfl|rfl
  ·exact hc
  ·exact ziQ hc (by simpa using hz)
 | .full sh=>
  unfold Z6 at h
  obtain⟨es,rfl,h0⟩:=zgn h
  exact⟨_,h0,fun _ _ h=>h⟩
 | .loc t=>
  unfold Z6 at h
  obtain⟨d,u,rfl,h0⟩:=Jp h
  exact⟨_,YD (K:=fun v=>K (.loc false (shOf P t) v)) h0,fun _ _ hc=>by cases(hc:VRep _ _ _ _ _)⟩
 | .locA sh=>
  unfold Z6 at h
  obtain⟨d,u,rfl,h0⟩:=Jp h
  exact⟨_,h0,fun _ _ hc=>by cases(hc:VRep _ _ _ _ _)⟩
 | .dloc sh ks=>
  unfold Z6 at h
  obtain⟨d,u,rfl,h0⟩:=Jp h
  obtain⟨cs,rfl,h00⟩:=Jn h0
  obtain⟨vs',h00,_⟩:=zaZ ks cs _ h00
  exact⟨_,h00,fun _ _ hc=>by cases(hc:VRep _ _ _ _ _)⟩
theorem zaZ(ks:List Kd)(vs:List V)(K:List V→Option R)(h:QV P ks vs K=some r):
  ∃vs',K vs'=some r∧vs'.length=vs.length∧ ∀j (g:Tag) (c:Value),CRep w own μ g (vs.getD j .undef) c→CRep w own μ g (vs'.getD j .undef) c:=by
 match ks with
 |[]=>
  unfold QV at h
  obtain⟨rfl,h0⟩:=zbF h
  exact⟨_,h0,rfl,fun _ _ _ h0=>h0⟩
 |k::ks=>
  unfold QV at h
  obtain⟨v,us,rfl,h0⟩:=zc2 h
  obtain⟨v',h0,hv⟩:=zjP k v _ h0
  obtain⟨us',h0,hl,hu⟩:=zaZ ks us _ h0
  refine⟨_,h0,by simp[hl],fun j g c=> ?_⟩
  cases j with
  |zero=>simpa using hv g c
  |succ j=>simpa using hu j g c
end
theorem zeG{k:Kd}{v:V}{K:V→Option R}(h:Z6 P k v K=some r){tm:Array Value}{t:Nat}{c:Value}(hl: ∀x off,v≠ .lptr x off)(hT:TRep w own μ ρ tm t v c):
  ∃v',K v'=some r∧TRep w own μ ρ tm t v' c∧ ∀x off,v'≠ .lptr x off:=by
 cases k with
 |ty t'=>unfold Z6 at h;exact⟨v,YD h,hT,hl⟩
 |ct c=>unfold Z6 at h;exact⟨v,Q4 h,hT,hl⟩
 |any=>unfold Z6 at h;exact⟨v,h,hT,hl⟩
 |ref=>
  unfold Z6 at h
  obtain⟨q,rfl,h0⟩:=zhr h
  exact⟨_,h0,hT,hl⟩
 |mp=>
  unfold Z6 at h
  obtain⟨q,rfl,h0⟩:=zhq h
  exact⟨_,h0,hT,hl⟩
 |row sh=>
  unfold Z6 at h
  obtain⟨q,lo,m,rfl,h0⟩:=zgl h
  exact⟨_,h0,hT,hl⟩
 |grow sh=>
  unfold Z6 at h
  obtain⟨hz,h⟩:=Ze h
  obtain⟨es,hv,h⟩:=zgm h
  refine⟨_,h, ?_,by simp⟩
  rcases hv with rfl|rfl
  ·exact hT
  ·exact ziQ hT (by simpa using hz)
 |full sh=>
  unfold Z6 at h
  obtain⟨es,rfl,h0⟩:=zgn h
  exact⟨_,h0,hT,hl⟩
 |loc t'=>
  unfold Z6 at h
  obtain⟨d,u,rfl,h0⟩:=Jp h
  refine⟨_,YD (K:=fun v=>K (.loc false (shOf P t') v)) h0, ?_,by simp⟩
  obtain⟨b,ccs,hc,hB,hs,hj,hd⟩:=hT
  cases d with
  |false=>exact⟨b,ccs,hc,hB,hs,hj,hd⟩
  |true=>
   refine⟨b,ccs,hc,hB,X6 hs,fun j hj'=>⟨(hj j hj').1, ?_⟩,fun _ j sh' es e=> ?_⟩
   ·simp only[cond_true]
    rw[Y0];exact .of_val (hj j hj').2.plain1
   ·simp only[cond_true]at e
    rw[Y0]at e
    have key: ∀v:V,AM.plain1 v≠ .vec .grow sh' es:=by
     intro v
     cases v with
     |vec m sh es=>cases m<;>simp[AM.plain1]
     |_=>simp[AM.plain1]
    exact key _ e
 |locA sh=>
  unfold Z6 at h
  obtain⟨d,u,rfl,h0⟩:=Jp h
  obtain⟨b,ccs,hc,hB,hs,hj,hd⟩:=hT
  exact⟨_,h0,⟨b,ccs,hc,hB,hs,hj,fun e=>by cases e⟩,by simp⟩
 |dloc sh ks=>
  unfold Z6 at h
  obtain⟨d,u,rfl,h0⟩:=Jp h
  obtain⟨cs,rfl,h00⟩:=Jn h0
  obtain⟨b,ccs,hc,hB,hs,hj,hd⟩:=hT
  obtain⟨cs',h00,hl',hv⟩:=zaZ (w:=w) (own:=own) (μ:=μ) ks cs _ h00
  refine⟨_,h00,⟨b,ccs,hc,hB, ?_,fun j hj'=>⟨(hj j hj').1,hv j _ _ (hj j hj').2⟩,fun e=>by cases e⟩,by simp⟩
  cases sh with
  |none=>exact hs.elim
  |some m=>exact hl'.trans hs
theorem znT{ρ':Env}(h:Rel P cfg base n w own μ ρ st a)(he: ∀t,TRep w own μ ρ' a.tmps t (ρ'.get t) (a.tmps.getD t undef)):Rel P cfg base n w own μ ρ' st a:=⟨h.sto,he,h.tmps,h.defers,h.apart⟩
theorem znU(h:Rel P cfg base n w own μ ρ st a):Rel P cfg base n w own μ ([]:List (Nat×V)) st a∧NoL ([]:List (Nat×V)):=
 ⟨znT h fun t=> .undef _,fun t x off e=>by cases e⟩
theorem zld{ρ1:Env}{t:Nat}{v:V}(h:Rel P cfg base n w own μ ρ1 st a)(hn:NoL ρ1)(hl: ∀x off,v≠ .lptr x off)(hv:TRep w own μ ρ a.tmps t v (a.tmps.getD t undef)):
  Rel P cfg base n w own μ (ρ1.set t v) st a∧NoL (ρ1.set t v):=by
 refine⟨znT h fun x=> ?_,fun x y off e=> ?_⟩
 ·rw[Zo]
  split
  ·rename_i e;subst e;exact hv.env hl
  ·exact(h.env x).env (hn x)
 ·rw[Zo]at e
  split at e
  ·exact hl _ _ e
  ·exact hn _ _ _ e
theorem XG(h:Rel P cfg base n w own μ ρ st a)(hn:NoL ρ): ∀(keep:List (Nat×Kd)) (K:List V→Option R),ZT P keep ρ K=some r→
  ∃vals,K vals=some r∧Rel P cfg base n w own μ (QG (keep.map (·.1)) vals) st a∧NoL (QG (keep.map (·.1)) vals)
 |[],K,hk=>by
  unfold ZT at hk
  exact⟨[],hk,znU h⟩
 |(t,k)::l,K,hk=>by
  unfold ZT at hk
  obtain⟨v',hk,hT,hl⟩:=zeG hk (hn t) (h.env t)
  obtain⟨vals,hk,hR,hN⟩:=XG h hn l _ hk
  exact⟨_,hk,zld hR hN hl hT⟩
theorem Q5(h:Rel P cfg base n w own μ ρ st a)(hn:NoL ρ): ∀(outs:List (Nat×Kd)) (K:Env→Option R),ZS P outs (outs.map fun x=>ρ.get x.1) K=some r→
  ∃ρ',K ρ'=some r∧Rel P cfg base n w own μ ρ' st a∧NoL ρ'
 |[],K,hk=>by
  unfold ZS at hk
  exact⟨_,(zbF hk).2,znU h⟩
 |(t,k)::l,K,hk=>by
  simp only[List.map_cons]at hk
  unfold ZS at hk
  simp only[Zd]at hk
  obtain⟨v',hk,hT,hl⟩:=zeG hk (hn t) (h.env t)
  obtain⟨ρ',hk,hR,hN⟩:=Q5 h hn l _ hk
  exact⟨_,hk,zld hR hN hl hT⟩
end
end Go.AM
namespace Go.AM
open Go Go.RowKit
section
variable{F:Fence}{n:Nat}{P:Program}{Q:Exit→Act→World→Prop}
theorem zle{b:Frame}{a:Act}{k:List Item}{cs:List Frame}{w:World}{c:Code}:step P (lone (b.atR a (.code (.scope c)::k)) cs w)= .next (lone (b.atR a (.code c:: .inScope c::k)) cs w):=
 step_lone_go (by simp[stepG,stepG.exec,Frame.atR])
theorem zir{b:Frame}{a:Act}{k:List Item}{cs:List Frame}{w:World}{c:Code}:step P (lone (b.atR a (.inScope c::k)) cs w)= .next (lone (b.atR a k) cs w):=
 step_lone_go (by simp[stepG,stepG.exec,Frame.atR])
def zpO(c:Code)(J:Nat→Act→World→Prop)(Q:Exit→Act→World→Prop):Exit→Act→World→Prop
 | .goto l,a,w=>((findLabel c l).isSome∧J l a w)∨(findLabel c l=none∧Q (.goto l) a w)
 |e,a,w=>Q e a w
theorem zeH{c:Code}(J:Nat→Nat→Act→World→Prop){a:Act}{w:World}
  (first:c.wpIn F n P (zpO c (fun l a w=> ∃k,J l k a w) Q) a w)
  (pass: ∀l rest k a w,findLabel c l=some rest→J l k a w→rest.wpIn F n P (zpO c (fun l' a' w'=> ∃k',k'<k∧J l' k' a' w') Q) a w):(Code.scope c).wpIn F n P Q a w:=by
 intro b k cs hro hb hr
 have hgo: ∀l rest,findLabel c l=some rest→gotoIn l (.inScope c::k)=some (.code rest:: .inScope c::k):=fun l rest h=>by simp[gotoIn,h]
 have hno: ∀l,findLabel c l=none→gotoIn l (.inScope c::k)=gotoIn l k:=fun l h=>by simp[gotoIn,h]
 have hex: ∀i,exitTo i (.inScope c::k)=exitTo i k:=fun i=>by simp[exitTo]
 have fin: ∀(J':Nat→Act→World→Prop) (m:Machine) (e:Exit) (a₁:Act) (w₁:World),zpO c J' Q e a₁ w₁→ArrivesIn (Machine.fenced P F) P m b (.inScope c::k) cs e a₁ w₁→
   (∀l rest,e= .goto l→findLabel c l=some rest→J' l a₁ w₁→StepsIn (Machine.fenced P F) P m (lone (b.atR a₁ (.code rest:: .inScope c::k)) cs w₁)→ ∃e a' w',Q e a' w'∧ArrivesIn (Machine.fenced P F) P m b k cs e a' w')→
   ∃e a' w',Q e a' w'∧ArrivesIn (Machine.fenced P F) P m b k cs e a' w':=by
  intro J' m e a₁ w₁ hq harr hback
  cases e with
  |normal=>exact⟨.normal,a₁,w₁,hq,StepsIn.trans harr (.one (fenced_calm hb hr rfl) zir)⟩
  |exit id=>exact⟨.exit id,a₁,w₁,hq,fun k' hk=>harr.1 k' (by rw[hex];exact hk),fun hr' hk=>harr.2 hr' (by rw[hex];exact hk)⟩
  |goto l=>
   rcases hq with⟨h1,h2⟩|⟨h1,h2⟩
   ·obtain⟨rest,hf⟩:=Option.isSome_iff_exists.1 h1
    exact hback l rest rfl hf h2 (harr.1 _ (hgo l rest hf))
   ·exact⟨.goto l,a₁,w₁,h2,fun k' hk=>harr.1 k' (by rw[hno l h1];exact hk),fun hr' hk=>harr.2 hr' (by rw[hno l h1];exact hk)⟩
  |ret=>exact⟨_,a₁,w₁,hq,harr⟩
  |panic ch=>exact⟨_,a₁,w₁,hq,harr⟩
  |outgrown=>exact⟨_,a₁,w₁,hq,harr⟩
 have key: ∀j l rest a w,findLabel c l=some rest→J l j a w→
   ∃e a' w',Q e a' w'∧ArrivesIn (Machine.fenced P F) P (lone (b.atR a (.code rest:: .inScope c::k)) cs w) b k cs e a' w':=by
  intro j
  induction j using Nat.strongRecOn with
  |_ j ih=>
   intro l rest a w hf hJ
   obtain⟨e,a₁,w₁,hq,harr⟩:=pass l rest j a w hf hJ b (.inScope c::k) cs hro hb hr
   refine fin _ _ e a₁ w₁ hq harr fun l' rest' _ hf' hJ' hs=> ?_
   obtain⟨j',hlt,hJ'⟩:=hJ'
   obtain⟨e₂,a₂,w₂,hq₂,harr₂⟩:=ih j' hlt l' rest' a₁ w₁ hf' hJ'
   exact⟨e₂,a₂,w₂,hq₂, .of_steps hs harr₂⟩
 obtain⟨e,a₁,w₁,hq,harr⟩:=first b (.inScope c::k) cs hro hb hr
 have h0:StepsIn (Machine.fenced P F) P (lone (b.atR a (.code (.scope c)::k)) cs w) (lone (b.atR a (.code c:: .inScope c::k)) cs w):= .one (fenced_calm hb hr rfl) zle
 obtain⟨e₂,a₂,w₂,hq₂,harr₂⟩:=fin _ _ e a₁ w₁ hq harr fun l' rest' _ hf' hJ' hs=>by
  obtain⟨j',hJ'⟩:=hJ'
  obtain⟨e₂,a₂,w₂,hq₂,harr₂⟩:=key j' l' rest' a₁ w₁ hf' hJ'
  exact⟨e₂,a₂,w₂,hq₂, .of_steps hs harr₂⟩
 exact⟨e₂,a₂,w₂,hq₂, .of_steps h0 harr₂⟩
end
end Go.AM
namespace Go.AM
open Go Go.RowKit
def za9(F:Nat→Option Code):Code→Prop
 | .seq a b=>za9 F a∧za9 F b
 | .cond _ a b=>za9 F a∧za9 F b
 | .block _ b=>za9 F b
 | .loop b=>F (keyOf b)=some b∧keyOf b<Yz∧za9 F b
 | .rangeFunc _ _ a b=>za9 F a∧za9 F b
 | .scope b=>za9 F b
 |_=>True
theorem zlf{x:Nat}: ∀{l:List Nat},zbB.memB x l=true↔x∈l
 |[]=>by simp[zbB.memB]
 |y::ys=>by
  simp only[zbB.memB,Bool.or_eq_true,Nat.beq_eq,List.mem_cons,zlf]
theorem zaG: ∀{l:List Nat},zbB l=true→l.Nodup
 |[],_=> .nil
 |x::xs,h=>by
  simp only[zbB,Bool.and_eq_true,Bool.not_eq_true']at h
  refine List.nodup_cons.2 ⟨fun hm=> ?_,zaG h.2⟩
  rw[zlf.2 hm]at h;cases h.1
theorem orElse_some{α:Type}{x y:Option α}{z:α}(h:x=some z):Yn x y=some z:=by rw[h];rfl
theorem orElse_none{α:Type}{x y:Option α}(h:x=none):Yn x y=y:=by rw[h];rfl
theorem Yu{k:Nat}: ∀{c:Code},k∉Yh c→Yp k c=none
 | .seq a b,h=>by
  simp only[Yh,List.mem_append,not_or]at h
  simp only[Yp,orElse_none (Yu h.1),Yu h.2]
 | .cond _ a b,h=>by
  simp only[Yh,List.mem_append,not_or]at h
  simp only[Yp,orElse_none (Yu h.1),Yu h.2]
 | .block _ b,h=>by simp only[Yh]at h;simp only[Yp,Yu h]
 | .loop b,h=>by
  simp only[Yh,List.mem_cons,not_or]at h
  have:Nat.beq (keyOf b) k=false:=by
   cases hb:Nat.beq (keyOf b) k with
   |false=>rfl
   |true=>exact absurd (Nat.eq_of_beq_eq_true hb).symm h.1
  simp only[Yp,this,cond_false,Yu h.2]
 | .rangeFunc _ _ a b,h=>by
  simp only[Yh,List.mem_append,not_or]at h
  simp only[Yp,orElse_none (Yu h.1),Yu h.2]
 | .scope b,h=>by simp only[Yh]at h;simp only[Yp,Yu h]
 | .region ..,_=>rfl
 | .skip,_=>rfl
 | .label _,_=>rfl
 | .exit _,_=>rfl
 | .goto _,_=>rfl
 | .ret,_=>rfl
 | .refuse _,_=>rfl
theorem YI{k:Nat}: ∀{c:Code},k∈Yh c→ ∃b,Yp k c=some b
 | .seq a b,h=>by
  by_cases ha:k∈Yh a
  ·obtain⟨z,hz⟩:=YI ha
   exact⟨z,by simp only[Yp,orElse_some hz]⟩
  ·have hb:k∈Yh b:=by simpa[Yh,ha]using h
   obtain⟨z,hz⟩:=YI hb
   exact⟨z,by simp only[Yp,orElse_none (Yu ha),hz]⟩
 | .cond _ a b,h=>by
  by_cases ha:k∈Yh a
  ·obtain⟨z,hz⟩:=YI ha
   exact⟨z,by simp only[Yp,orElse_some hz]⟩
  ·have hb:k∈Yh b:=by simpa[Yh,ha]using h
   obtain⟨z,hz⟩:=YI hb
   exact⟨z,by simp only[Yp,orElse_none (Yu ha),hz]⟩
 | .block _ b,h=>by simp only[Yh]at h;simp only[Yp];exact YI h
 | .loop b,h=>by
  simp only[Yp]
  cases hb:Nat.beq (keyOf b) k with
  |true=>exact⟨b,rfl⟩
  |false=>
   simp only[Yh,List.mem_cons]at h
   rcases h with h|h
   ·subst h;simp at hb
   ·exact YI h
 | .rangeFunc _ _ a b,h=>by
  by_cases ha:k∈Yh a
  ·obtain⟨z,hz⟩:=YI ha
   exact⟨z,by simp only[Yp,orElse_some hz]⟩
  ·have hb:k∈Yh b:=by simpa[Yh,ha]using h
   obtain⟨z,hz⟩:=YI hb
   exact⟨z,by simp only[Yp,orElse_none (Yu ha),hz]⟩
 | .scope b,h=>by simp only[Yh]at h;simp only[Yp];exact YI h
 | .region ..,h=>by simp[Yh]at h
 | .skip,h=>by simp[Yh]at h
 | .label _,h=>by simp[Yh]at h
 | .exit _,h=>by simp[Yh]at h
 | .goto _,h=>by simp[Yh]at h
 | .ret,h=>by simp[Yh]at h
 | .refuse _,h=>by simp[Yh]at h
theorem J2{F:Nat→Option Code}: ∀{c:Code},(Yh c).Nodup→(∀k,k∈Yh c→k<Yz∧F k=Yp k c)→za9 F c
 | .seq a b,hn,hF=>by
  simp only[Yh]at hn hF
  obtain⟨h1,h2,h3⟩:=List.nodup_append.1 hn
  refine⟨J2 h1 fun k hk=> ?_,J2 h2 fun k hk=> ?_⟩
  ·obtain⟨z,hz⟩:=YI hk
   refine⟨(hF k (by simp[hk])).1, ?_⟩
   rw[(hF k (by simp[hk])).2];simp only[Yp,hz,Yn]
  ·refine⟨(hF k (by simp[hk])).1, ?_⟩
   rw[(hF k (by simp[hk])).2];simp only[Yp,orElse_none (Yu (c:=a) fun h=>h3 _ h _ hk rfl)]
 | .cond _ a b,hn,hF=>by
  simp only[Yh]at hn hF
  obtain⟨h1,h2,h3⟩:=List.nodup_append.1 hn
  refine⟨J2 h1 fun k hk=> ?_,J2 h2 fun k hk=> ?_⟩
  ·obtain⟨z,hz⟩:=YI hk
   refine⟨(hF k (by simp[hk])).1, ?_⟩
   rw[(hF k (by simp[hk])).2];simp only[Yp,hz,Yn]
  ·refine⟨(hF k (by simp[hk])).1, ?_⟩
   rw[(hF k (by simp[hk])).2];simp only[Yp,orElse_none (Yu (c:=a) fun h=>h3 _ h _ hk rfl)]
 | .block _ b,hn,hF=>by
  simp only[Yh]at hn hF
  exact J2 (c:=b) hn fun k hk=>⟨(hF k hk).1,by rw[(hF k hk).2];simp only[Yp]⟩
 | .loop b,hn,hF=>by
  simp only[Yh]at hn hF
  obtain⟨h1,h2⟩:=List.nodup_cons.1 hn
  refine⟨?_,(hF _ (by simp)).1,J2 h2 fun k hk=>⟨(hF k (by simp[hk])).1, ?_⟩⟩
  ·rw[(hF _ (by simp)).2];simp[Yp]
  ·rw[(hF k (by simp[hk])).2]
   have:Nat.beq (keyOf b) k=false:=by
    cases hb:Nat.beq (keyOf b) k with
    |false=>rfl
    |true=>exact absurd (Nat.eq_of_beq_eq_true hb▸hk) h1
   simp only[Yp,this,cond_false]
 | .rangeFunc _ _ a b,hn,hF=>by
  simp only[Yh]at hn hF
  obtain⟨h1,h2,h3⟩:=List.nodup_append.1 hn
  refine⟨J2 h1 fun k hk=> ?_,J2 h2 fun k hk=> ?_⟩
  ·obtain⟨z,hz⟩:=YI hk
   refine⟨(hF k (by simp[hk])).1, ?_⟩
   rw[(hF k (by simp[hk])).2];simp only[Yp,hz,Yn]
  ·refine⟨(hF k (by simp[hk])).1, ?_⟩
   rw[(hF k (by simp[hk])).2];simp only[Yp,orElse_none (Yu (c:=a) fun h=>h3 _ h _ hk rfl)]
 | .scope b,hn,hF=>by
  simp only[Yh]at hn hF
  exact J2 (c:=b) hn fun k hk=>⟨(hF k hk).1,by rw[(hF k hk).2];simp only[Yp]⟩
 | .region ..,_,_=>trivial
 | .skip,_,_=>trivial
 | .label _,_,_=>trivial
 | .exit _,_,_=>trivial
 | .goto _,_,_=>trivial
 | .ret,_,_=>trivial
 | .refuse _,_,_=>trivial
def zaA(F:Nat→Option (Array Tmp×Code×Code)):Code→Prop
 | .seq a b=>zaA F a∧zaA F b
 | .cond _ a b=>zaA F a∧zaA F b
 | .block _ b=>zaA F b
 | .loop b=>zaA F b
 | .rangeFunc _ ps a b=>F (keyOf b)=some (ps,a,b)∧zaA F a∧zaA F b
 | .scope b=>zaA F b
 |_=>True
theorem Yv{k:Nat}: ∀{c:Code},k∉Z3 c→ZI k c=none
 | .seq a b,h=>by
  simp only[Z3,List.mem_append,not_or]at h
  simp only[ZI,orElse_none (Yv h.1),Yv h.2]
 | .cond _ a b,h=>by
  simp only[Z3,List.mem_append,not_or]at h
  simp only[ZI,orElse_none (Yv h.1),Yv h.2]
 | .block _ b,h=>by simp only[Z3]at h;simp only[ZI,Yv h]
 | .loop b,h=>by simp only[Z3]at h;simp only[ZI,Yv h]
 | .rangeFunc _ _ a b,h=>by
  simp only[Z3,List.mem_cons,List.mem_append,not_or]at h
  have:Nat.beq (keyOf b) k=false:=by
   cases hb:Nat.beq (keyOf b) k with
   |false=>rfl
   |true=>exact absurd (Nat.eq_of_beq_eq_true hb).symm h.1
  simp only[ZI,this,cond_false,orElse_none (Yv h.2.1),Yv h.2.2]
 | .scope b,h=>by simp only[Z3]at h;simp only[ZI,Yv h]
 | .region ..,_=>rfl
 | .skip,_=>rfl
 | .label _,_=>rfl
 | .exit _,_=>rfl
 | .goto _,_=>rfl
 | .ret,_=>rfl
 | .refuse _,_=>rfl
theorem YJ{k:Nat}: ∀{c:Code},k∈Z3 c→ ∃b,ZI k c=some b
 | .seq a b,h=>by
  by_cases ha:k∈Z3 a
  ·obtain⟨z,hz⟩:=YJ ha
   exact⟨z,by simp only[ZI,orElse_some hz]⟩
  ·have hb:k∈Z3 b:=by simpa[Z3,ha]using h
   obtain⟨z,hz⟩:=YJ hb
   exact⟨z,by simp only[ZI,orElse_none (Yv ha),hz]⟩
 | .cond _ a b,h=>by
  by_cases ha:k∈Z3 a
  ·obtain⟨z,hz⟩:=YJ ha
   exact⟨z,by simp only[ZI,orElse_some hz]⟩
  ·have hb:k∈Z3 b:=by simpa[Z3,ha]using h
   obtain⟨z,hz⟩:=YJ hb
   exact⟨z,by simp only[ZI,orElse_none (Yv ha),hz]⟩
 | .block _ b,h=>by simp only[Z3]at h;simp only[ZI];exact YJ h
 | .loop b,h=>by simp only[Z3]at h;simp only[ZI];exact YJ h
 | .rangeFunc _ ps a b,h=>by
  simp only[ZI]
  cases hb:Nat.beq (keyOf b) k with
  |true=>exact⟨(ps,a,b),rfl⟩
  |false=>
   simp only[Z3,List.mem_cons,List.mem_append]at h
   rcases h with h|h
   ·subst h;simp at hb
   ·by_cases ha:k∈Z3 a
    ·obtain⟨z,hz⟩:=YJ ha
     exact⟨z,by simp only[cond_false,orElse_some hz]⟩
    ·have hb:k∈Z3 b:=by simpa[ha]using h
     obtain⟨z,hz⟩:=YJ hb
     exact⟨z,by simp only[cond_false,orElse_none (Yv ha),hz]⟩
 | .scope b,h=>by simp only[Z3]at h;simp only[ZI];exact YJ h
 | .region ..,h=>by simp[Z3]at h
 | .skip,h=>by simp[Z3]at h
 | .label _,h=>by simp[Z3]at h
 | .exit _,h=>by simp[Z3]at h
 | .goto _,h=>by simp[Z3]at h
 | .ret,h=>by simp[Z3]at h
 | .refuse _,h=>by simp[Z3]at h
theorem J3{F:Nat→Option (Array Tmp×Code×Code)}: ∀{c:Code},(Z3 c).Nodup→(∀k,k∈Z3 c→F k=ZI k c)→zaA F c
 | .seq a b,hn,hF=>by
  simp only[Z3]at hn hF
  obtain⟨h1,h2,h3⟩:=List.nodup_append.1 hn
  refine⟨J3 h1 fun k hk=> ?_,J3 h2 fun k hk=> ?_⟩
  ·obtain⟨z,hz⟩:=YJ hk
   rw[hF k (by simp[hk])];simp only[ZI,hz,Yn]
  ·rw[hF k (by simp[hk])];simp only[ZI,orElse_none (Yv (c:=a) fun h=>h3 _ h _ hk rfl)]
 | .cond _ a b,hn,hF=>by
  simp only[Z3]at hn hF
  obtain⟨h1,h2,h3⟩:=List.nodup_append.1 hn
  refine⟨J3 h1 fun k hk=> ?_,J3 h2 fun k hk=> ?_⟩
  ·obtain⟨z,hz⟩:=YJ hk
   rw[hF k (by simp[hk])];simp only[ZI,hz,Yn]
  ·rw[hF k (by simp[hk])];simp only[ZI,orElse_none (Yv (c:=a) fun h=>h3 _ h _ hk rfl)]
 | .block _ b,hn,hF=>by
  simp only[Z3]at hn hF
  exact J3 (c:=b) hn fun k hk=>by rw[hF k hk];simp only[ZI]
 | .loop b,hn,hF=>by
  simp only[Z3]at hn hF
  exact J3 (c:=b) hn fun k hk=>by rw[hF k hk];simp only[ZI]
 | .rangeFunc _ ps a b,hn,hF=>by
  simp only[Z3]at hn hF
  obtain⟨h0,hn⟩:=List.nodup_cons.1 hn
  obtain⟨h1,h2,h3⟩:=List.nodup_append.1 hn
  have hne: ∀k,k∈Z3 a++Z3 b→Nat.beq (keyOf b) k=false:=fun k hk=>by
   cases hb:Nat.beq (keyOf b) k with
   |false=>rfl
   |true=>exact absurd (Nat.eq_of_beq_eq_true hb▸hk) h0
  refine⟨by rw[hF _ (by simp)];simp[ZI],J3 h1 fun k hk=> ?_,J3 h2 fun k hk=> ?_⟩
  ·obtain⟨z,hz⟩:=YJ hk
   have hmem:k∈Z3 a++Z3 b:=by simp[hk]
   rw[hF k (List.mem_cons_of_mem _ hmem)];simp only[ZI,hne k hmem,cond_false,hz,Yn]
  ·have hmem:k∈Z3 a++Z3 b:=by simp[hk]
   rw[hF k (List.mem_cons_of_mem _ hmem)];simp only[ZI,hne k hmem,cond_false,orElse_none (Yv (c:=a) fun h=>h3 _ h _ hk rfl)]
 | .scope b,hn,hF=>by
  simp only[Z3]at hn hF
  exact J3 (c:=b) hn fun k hk=>by rw[hF k hk];simp only[ZI]
 | .region ..,_,_=>trivial
 | .skip,_,_=>trivial
 | .label _,_,_=>trivial
 | .exit _,_,_=>trivial
 | .goto _,_,_=>trivial
 | .ret,_,_=>trivial
 | .refuse _,_,_=>trivial
def zeI(F:Nat→Option Code):Code→Prop
 | .seq a b=>zeI F a∧zeI F b
 | .cond _ a b=>zeI F a∧zeI F b
 | .block _ b=>zeI F b
 | .loop b=>zeI F b
 | .rangeFunc _ _ a b=>zeI F a∧zeI F b
 | .scope b=>(Z1 b=true→ ∀l,(findLabel b l).isSome=true→F l=some b)∧(Z1 b=false→zeI F b)
 |_=>True
theorem J4{F:Nat→Option Code}: ∀{c:Code},Z1 c=true→zeI F c
 | .seq a b,h=>by
  simp only[Z1,Bool.and_eq_true]at h
  exact⟨J4 h.1,J4 h.2⟩
 | .cond _ a b,h=>by
  simp only[Z1,Bool.and_eq_true]at h
  exact⟨J4 h.1,J4 h.2⟩
 | .rangeFunc _ _ a b,h=>by
  simp only[Z1,Bool.and_eq_true]at h
  exact⟨J4 h.1,J4 h.2⟩
 | .block _ b,h=>by simp only[Z1]at h;exact J4 (c:=b) h
 | .loop b,h=>by simp only[Z1]at h;exact J4 (c:=b) h
 | .scope b,h=>by simp[Z1]at h
 | .region ..,_=>trivial
 | .skip,_=>trivial
 | .label _,_=>trivial
 | .exit _,_=>trivial
 | .goto _,_=>trivial
 | .ret,_=>trivial
 | .refuse _,_=>trivial
theorem zbs{l:Nat}: ∀{c:Code},l∈YE c↔(findLabel c l).isSome=true
 | .seq a b=>by
  simp only[YE,List.mem_append,findLabel]
  rw[zbs (c:=a),zbs (c:=b)]
  cases findLabel a l<;>simp
 | .label l'=>by
  simp only[YE,List.mem_singleton,findLabel]
  by_cases h:l'=l
  ·subst h;simp
  ·simp[h];exact fun e=>h e.symm
 | .cond .. =>by simp[YE,findLabel]
 | .block .. =>by simp[YE,findLabel]
 | .loop .. =>by simp[YE,findLabel]
 | .rangeFunc .. =>by simp[YE,findLabel]
 | .scope .. =>by simp[YE,findLabel]
 | .region .. =>by simp[YE,findLabel]
 | .skip=>by simp[YE,findLabel]
 | .exit _=>by simp[YE,findLabel]
 | .goto _=>by simp[YE,findLabel]
 | .ret=>by simp[YE,findLabel]
 | .refuse _=>by simp[YE,findLabel]
theorem X9{l:Nat}: ∀{c:Code},Z1 c=true→Ye l c=none
 | .seq a b,h=>by
  simp only[Z1,Bool.and_eq_true]at h
  simp only[Ye,X9 h.1,X9 h.2,Yn]
 | .cond _ a b,h=>by
  simp only[Z1,Bool.and_eq_true]at h
  simp only[Ye,X9 h.1,X9 h.2,Yn]
 | .rangeFunc _ _ a b,h=>by
  simp only[Z1,Bool.and_eq_true]at h
  simp only[Ye,X9 h.1,X9 h.2,Yn]
 | .block _ b,h=>by simp only[Z1]at h;simp only[Ye];exact X9 h
 | .loop b,h=>by simp only[Z1]at h;simp only[Ye];exact X9 h
 | .scope b,h=>by simp[Z1]at h
 | .region ..,_=>rfl
 | .skip,_=>rfl
 | .label _,_=>rfl
 | .exit _,_=>rfl
 | .goto _,_=>rfl
 | .ret,_=>rfl
 | .refuse _,_=>rfl
theorem YK{l:Nat}: ∀{c:Code},l∉ZB c→Ye l c=none
 | .seq a b,h=>by
  simp only[ZB,List.mem_append,not_or]at h
  simp only[Ye,orElse_none (YK h.1),YK h.2]
 | .cond _ a b,h=>by
  simp only[ZB,List.mem_append,not_or]at h
  simp only[Ye,orElse_none (YK h.1),YK h.2]
 | .rangeFunc _ _ a b,h=>by
  simp only[ZB,List.mem_append,not_or]at h
  simp only[Ye,orElse_none (YK h.1),YK h.2]
 | .block _ b,h=>by simp only[ZB]at h;simp only[Ye];exact YK h
 | .loop b,h=>by simp only[ZB]at h;simp only[Ye];exact YK h
 | .scope b,h=>by
  simp only[ZB]at h
  simp only[Ye]
  cases hn:Z1 b with
  |true=>
   rw[hn]at h
   have:(findLabel b l).isSome=false:=by
    cases hl:(findLabel b l).isSome with
    |false=>rfl
    |true=>exact absurd (zbs.2 hl) h
   simp only[this,Bool.and_false,cond_false]
   cases hf:Ye l b with
   |none=>rfl
   |some z=>exact absurd hf (by rw[X9 hn];simp)
  |false=>
   rw[hn]at h
   simp only[Bool.false_and,cond_false]
   exact YK h
 | .region ..,_=>rfl
 | .skip,_=>rfl
 | .label _,_=>rfl
 | .exit _,_=>rfl
 | .goto _,_=>rfl
 | .ret,_=>rfl
 | .refuse _,_=>rfl
theorem YL{l:Nat}: ∀{c:Code},l∈ZB c→ ∃z,Ye l c=some z
 | .seq a b,h=>by
  simp only[ZB,List.mem_append]at h
  simp only[Ye]
  cases hx:Ye l a with
  |some z=>exact⟨z,rfl⟩
  |none=>
   rcases h with h|h
   ·obtain⟨z,hz⟩:=YL h;rw[hz]at hx;cases hx
   ·exact YL h
 | .cond _ a b,h=>by
  simp only[ZB,List.mem_append]at h
  simp only[Ye]
  cases hx:Ye l a with
  |some z=>exact⟨z,rfl⟩
  |none=>
   rcases h with h|h
   ·obtain⟨z,hz⟩:=YL h;rw[hz]at hx;cases hx
   ·exact YL h
 | .rangeFunc _ _ a b,h=>by
  simp only[ZB,List.mem_append]at h
  simp only[Ye]
  cases hx:Ye l a with
  |some z=>exact⟨z,rfl⟩
  |none=>
   rcases h with h|h
   ·obtain⟨z,hz⟩:=YL h;rw[hz]at hx;cases hx
   ·exact YL h
 | .block _ b,h=>by simp only[ZB]at h;simp only[Ye];exact YL h
 | .loop b,h=>by simp only[ZB]at h;simp only[Ye];exact YL h
 | .scope b,h=>by
  simp only[ZB]at h
  simp only[Ye]
  cases hn:Z1 b with
  |true=>
   rw[hn]at h
   have h:=zbs.1 h
   exact⟨b,by simp only[h,Bool.and_self,cond_true]⟩
  |false=>
   rw[hn]at h
   simp only[Bool.false_and,cond_false]
   exact YL h
 | .region ..,h=>by simp[ZB]at h
 | .skip,h=>by simp[ZB]at h
 | .label _,h=>by simp[ZB]at h
 | .exit _,h=>by simp[ZB]at h
 | .goto _,h=>by simp[ZB]at h
 | .ret,h=>by simp[ZB]at h
 | .refuse _,h=>by simp[ZB]at h
theorem J5{F:Nat→Option Code}: ∀{c:Code},(ZB c).Nodup→(∀l,l∈ZB c→F l=Ye l c)→zeI F c
 | .seq a b,hn,hF=>by
  simp only[ZB]at hn hF
  obtain⟨h1,h2,h3⟩:=List.nodup_append.1 hn
  refine⟨J5 h1 fun k hk=> ?_,J5 h2 fun k hk=> ?_⟩
  ·obtain⟨z,hz⟩:=YL hk
   rw[hF k (by simp[hk])];simp only[Ye,hz,Yn]
  ·rw[hF k (by simp[hk])];simp only[Ye,orElse_none (YK (c:=a) fun h=>h3 _ h _ hk rfl)]
 | .cond _ a b,hn,hF=>by
  simp only[ZB]at hn hF
  obtain⟨h1,h2,h3⟩:=List.nodup_append.1 hn
  refine⟨J5 h1 fun k hk=> ?_,J5 h2 fun k hk=> ?_⟩
  ·obtain⟨z,hz⟩:=YL hk
   rw[hF k (by simp[hk])];simp only[Ye,hz,Yn]
  ·rw[hF k (by simp[hk])];simp only[Ye,orElse_none (YK (c:=a) fun h=>h3 _ h _ hk rfl)]
 | .rangeFunc _ _ a b,hn,hF=>by
  simp only[ZB]at hn hF
  obtain⟨h1,h2,h3⟩:=List.nodup_append.1 hn
  refine⟨J5 h1 fun k hk=> ?_,J5 h2 fun k hk=> ?_⟩
  ·obtain⟨z,hz⟩:=YL hk
   rw[hF k (by simp[hk])];simp only[Ye,hz,Yn]
  ·rw[hF k (by simp[hk])];simp only[Ye,orElse_none (YK (c:=a) fun h=>h3 _ h _ hk rfl)]
 | .block _ b,hn,hF=>by
  simp only[ZB]at hn hF
  exact J5 (c:=b) hn fun k hk=>by rw[hF k hk];simp only[Ye]
 | .loop b,hn,hF=>by
  simp only[ZB]at hn hF
  exact J5 (c:=b) hn fun k hk=>by rw[hF k hk];simp only[Ye]
 | .scope b,hn,hF=>by
  simp only[ZB]at hn hF
  refine⟨fun h l hl=> ?_,fun h=> ?_⟩
  ·rw[h]at hF
   rw[hF l (zbs.2 hl)]
   simp only[Ye,h,hl,Bool.and_self,cond_true]
  ·rw[h]at hn hF
   refine J5 (c:=b) hn fun k hk=> ?_
   rw[hF k hk]
   simp only[Ye,h,Bool.false_and,cond_false]
 | .region ..,_,_=>trivial
 | .skip,_,_=>trivial
 | .label _,_,_=>trivial
 | .exit _,_,_=>trivial
 | .goto _,_,_=>trivial
 | .ret,_,_=>trivial
 | .refuse _,_,_=>trivial
theorem zeb{n l:Nat}{F:Nat→Option Code}{G:Nat→Option (Array Tmp×Code×Code)}: ∀{b rest:Code},findLabel b l=some rest→Z7 n b=true→ZR b=true→za9 F b→zaA G b→Z1 b=true→
  Z7 n rest=true∧ZR rest=true∧za9 F rest∧zaA G rest∧Z1 rest=true∧(Z3 b=[]→Z3 rest=[])
 | .seq x y,rest,h,h1,h2,h3,h4,h5=>by
  simp only[Z7,Bool.and_eq_true]at h1
  simp only[ZR,Bool.and_eq_true]at h2
  simp only[Z1,Bool.and_eq_true]at h5
  simp only[findLabel]at h
  cases hx:findLabel x l with
  |some z=>
   rw[hx]at h
   cases h
   obtain⟨k1,k2,k3,k4,k5,k6⟩:=zeb hx h1.1 h2.1 h3.1 h4.1 h5.1
   refine⟨by simp only[Z7,k1,h1.2,Bool.and_self],by simp only[ZR,k2,h2.2,Bool.and_self],⟨k3,h3.2⟩,⟨k4,h4.2⟩,by simp only[Z1,k5,h5.2,Bool.and_self],fun e=> ?_⟩
   simp only[Z3,List.append_eq_nil_iff]at e⊢
   exact⟨k6 e.1,e.2⟩
  |none=>
   rw[hx]at h
   obtain⟨k1,k2,k3,k4,k5,k6⟩:=zeb (b:=y) h h1.2 h2.2 h3.2 h4.2 h5.2
   refine⟨k1,k2,k3,k4,k5,fun e=> ?_⟩
   simp only[Z3,List.append_eq_nil_iff]at e
   exact k6 e.2
 | .label l',rest,h,_,_,_,_,_=>by
  simp only[findLabel]at h
  split at h
  ·cases h;exact⟨rfl,rfl,trivial,trivial,rfl,fun _=>rfl⟩
  ·cases h
 | .cond ..,_,h,_,_,_,_,_=>by simp[findLabel]at h
 | .block ..,_,h,_,_,_,_,_=>by simp[findLabel]at h
 | .loop ..,_,h,_,_,_,_,_=>by simp[findLabel]at h
 | .rangeFunc ..,_,h,_,_,_,_,_=>by simp[findLabel]at h
 | .scope ..,_,h,_,_,_,_,_=>by simp[findLabel]at h
 | .region ..,_,h,_,_,_,_,_=>by simp[findLabel]at h
 | .skip,_,h,_,_,_,_,_=>by simp[findLabel]at h
 | .exit _,_,h,_,_,_,_,_=>by simp[findLabel]at h
 | .goto _,_,h,_,_,_,_,_=>by simp[findLabel]at h
 | .ret,_,h,_,_,_,_,_=>by simp[findLabel]at h
 | .refuse _,_,h,_,_,_,_,_=>by simp[findLabel]at h
section
variable{P:Program}{cfg:Cfg}{base n:Nat}{w w':World}{own own':Own}{μ μ':List Nat}{ρ:Env}{st st':St}{a:Act}{R:Type}{r:R}
def zo1(P:Program)(cfg:Cfg)(base n:Nat)(w0:World)(Y4:Own)(μ0:List Nat)(r:R)(K:Ex→Env→St→Option R)(e:Ex)(a:Act)(w:World):Prop:=
 ∃ρ st own μ,K e ρ st=some r∧Rel P cfg base n w own μ ρ st a∧NoL ρ∧Keeps base w0 Y4 μ0 w own μ
def Fin(P:Program)(cfg:Cfg)(base n:Nat)(w0:World)(Y4:Own)(μ0:List Nat)(r:R)(K:Ex→Env→St→Option R):Exit→Act→World→Prop
 | .normal,a,w=>zo1 P cfg base n w0 Y4 μ0 r K .normal a w
 | .exit i,a,w=>zo1 P cfg base n w0 Y4 μ0 r K (.exit i) a w
 | .goto l,a,w=>zo1 P cfg base n w0 Y4 μ0 r K (.goto l) a w
 | .ret,a,w=>zo1 P cfg base n w0 Y4 μ0 r K .ret a w
 | .panic ch,a,w=> ∃v c ρ ρ'' st own μ,K (.panic v) ρ st=some r∧Rel P cfg base n w own μ ρ'' st a∧Keeps base w0 Y4 μ0 w own μ∧VRep w (prOf own) μ v c∧ch=[{v:=c,recovered:=false}]
 | .outgrown,_,_=>False
theorem Fin.keeps{w0:World}{Y4:Own}{μ0:List Nat}{K:Ex→Env→St→Option R}{e:Exit}(k:Keeps base w0 Y4 μ0 w own μ)(h:Fin P cfg base n w own μ r K e a w'):Fin P cfg base n w0 Y4 μ0 r K e a w':=by
 cases e with
 |outgrown=>exact h.elim
 |panic ch=>
  obtain⟨v,c,ρ,ρ'',st,own',μ',h1,h2,h3,h4,h5⟩:=h
  exact⟨v,c,ρ,ρ'',st,own',μ',h1,h2,k.trans h3,h4,h5⟩
 |_=>
  obtain⟨ρ,st,own',μ',h1,h2,h3,h4⟩:=h
  exact⟨ρ,st,own',μ',h1,h2,h3,k.trans h4⟩
theorem zba{i:Nat}{F:Nat→Option R}: ∀{ids:List Nat},XD i F ids=some r→F i=some r
 |[],h=>by cases h
 |j::js,h=>by
  unfold XD at h
  rcases Ya h with⟨h1,h2⟩|⟨_,h2⟩
  ·rw[Nat.eq_of_beq_eq_true h1];exact h2
  ·exact zba h2
theorem JB{f key:Nat}{nrm rt:Bool}{ids:List Nat}{e:Ex}{vs:List V}{K:Ex→Env→St→Option R}(h:behind P cfg f key nrm rt ids (e,vs,st) K=some r):
  (e= .normal∧ZS P (cfg.outs f key) vs (fun ρ=>K .normal ρ st)=some r)∨(e= .ret∧ZS P (cfg.rets f key) vs (fun ρ=>K .ret ρ st)=some r)∨
   (∃i,e= .exit i∧ZS P (cfg.outs f key) vs (fun ρ=>K (.exit i) ρ st)=some r)∨ ∃v,e= .panic v∧K (.panic v) ([]:List (Nat×V)) st=some r:=by
 unfold behind XM at h
 cases e with
 |normal=>
  rcases Ya h with⟨_,h⟩|⟨_,h⟩
  ·exact .inl ⟨rfl,h⟩
  ·cases h
 |ret=>
  rcases Ya h with⟨_,h⟩|⟨_,h⟩
  ·exact .inr (.inl ⟨rfl,h⟩)
  ·cases h
 |exit i=>exact .inr (.inr (.inl ⟨i,rfl,zba h⟩))
 |goto l=>cases h
 |panic v=>
  rcases Ya h with⟨_,h⟩|⟨_,h⟩
  ·exact .inr (.inr (.inr ⟨v,rfl,h⟩))
  ·cases h
theorem QK{f key:Nat}{nrm rt:Bool}{ids:List Nat}{x:Ex×List V×St}{K:Ex→Env→St→Option R}(h:behind P cfg f key nrm rt ids x K=some r){Kr:Ex→Env→St→Option (Ex×List V×St)}
  (hret: ∀ρ st,Kr .ret ρ st=some (.ret,(cfg.rets f key).map (fun x=>ρ.get x.1),st)) {e:Exit} (hex: ∀i ρ st,e= .exit i→Kr (.exit i) ρ st=some (.exit i,(cfg.outs f key).map (fun x=>ρ.get x.1),st))
  (hpan: ∀v ρ st,Kr (.panic v) ρ st=some (.panic v,(cfg.outs f key).map (fun x=>ρ.get x.1),st)) (hn:e≠ .normal) (hg: ∀l,e≠ .goto l)
  (hF:Fin P cfg base n w own μ x Kr e a w'):Fin P cfg base n w own μ r K e a w':=by
 cases e with
 |normal=>exact absurd rfl hn
 |outgrown=>exact hF.elim
 |goto l=>exact absurd rfl (hg l)
 |ret=>
  obtain⟨ρ,st,own',μ',h1,h2,h3,h4⟩:=hF
  rw[hret]at h1;cases h1
  rcases JB h with⟨he,_⟩|⟨_,hk⟩|⟨i,he,_⟩|⟨v,he,_⟩
  ·cases he
  ·obtain⟨ρ',k1,k2,k3⟩:=Q5 h2 h3 _ _ hk
   exact⟨ρ',st,own',μ',k1,k2,k3,h4⟩
  ·cases he
  ·cases he
 |exit i=>
  obtain⟨ρ,st,own',μ',h1,h2,h3,h4⟩:=hF
  rw[hex i ρ st rfl]at h1;cases h1
  rcases JB h with⟨he,_⟩|⟨he,_⟩|⟨j,he,hk⟩|⟨v,he,_⟩
  ·cases he
  ·cases he
  ·cases he
   obtain⟨ρ',k1,k2,k3⟩:=Q5 h2 h3 _ _ hk
   exact⟨ρ',st,own',μ',k1,k2,k3,h4⟩
  ·cases he
 |panic ch=>
  obtain⟨v,c,ρ,ρ'',st,own',μ',h1,h2,h3,h4,h5⟩:=hF
  rw[hpan]at h1;cases h1
  rcases JB h with⟨he,_⟩|⟨he,_⟩|⟨j,he,hk⟩|⟨u,he,hk⟩
  ·cases he
  ·cases he
  ·cases he
  ·cases he
   exact⟨v,c,_,ρ'',st,own',μ',hk,h2,h3,h4,h5⟩
end
end Go.AM
namespace Go.AM
open Go Go.RowKit
section
variable{P:Program}{cfg:Cfg}{base n:Nat}{w w':World}{own own':Own}{μ μ':List Nat}{ρ:Env}{st st':St}{a:Act}{R:Type}{r:R}
theorem zpP(h:NoL ρ)(tk:Bool)(xs:List Operand):NoL (ρ.apply (upds ρ tk xs)):=fun t x off e=>by
 obtain⟨o,ho,_⟩:=LP.read (all:=[]) (fun t x off e=>absurd e (h t x off)) tk xs t x off e
 cases ho
theorem zhs(h:Rel P cfg base n w own μ ρ st a){q b f key:Nat}{vals:List V}{s:LSt}{p:Option Ex}(hst:st[q]? =some (.loop f key vals s p))(hb:μ[q]? =some b):
  ∃L,w.heap[b]? =some (.loop L)∧zk9 s p L.state L.pending∧ ∀(L':Loop) (y:Res),(L'.fn=L.fn∧L'.tmps=L.tmps∧L'.params=L.params∧L'.assign=L.assign∧L'.body=L.body)→
   (y= .dead∨ ∃s' p',y= .loop f key vals s' p'∧zk9 s' p' L'.state L'.pending)→
   Rel P cfg base n (w.putObj b (.loop L')) own μ ρ (st.set q y) a∧Keeps base w own μ (w.putObj b (.loop L')) own μ:=by
 obtain⟨ho,L,fn,c,hh,h1,h2,h3,h4,h5,h6,h7,h8⟩:=h.sto.res q _ b hst hb
 refine⟨L,hh,h7,fun L' y hL hy=> ?_⟩
 have hlow:base≤b:=h.sto.low b 0 (by rw[ho];simp) (by rw[ho];simp) (by rw[ho];simp)
 have hlt:b<w.heap.size:=(Array.getElem?_eq_some_iff.1 hh).1
 have hsame: ∀k,k≠b→(w.putObj b (.loop L')).heap[k]? =w.heap[k]? :=fun k hk=>World.putObj_heap_other hk
 have hB:Below base w (w.putObj b (.loop L')):=⟨rfl,rfl,rfl,by simp,fun k hk=>hsame k (by omega)⟩
 have s':Step base w own μ (w.putObj b (.loop L')) own μ (fun g=> ∃j,g= .r q j):=Step.obj h.sto ho (by simp) ⟨0,rfl⟩ (fun c e f hc=>by rw[hh]at hc;cases hc) hlow hsame hB
 refine⟨h.step s' (by simp) (by simp[h.sto.len]) rfl rfl (fun k y' b' k1 k2=> ?_) (fun t=> .inl ⟨rfl,rfl,by simp,YN h t⟩),Yl s' fun g ⟨j,e⟩=> .inr ⟨q,j,e⟩⟩
 rcases JQ k1 with⟨rfl,rfl⟩|⟨hne,hk⟩
 ·right
  rcases hy with rfl|⟨s2,p2,rfl,hok⟩
  ·trivial
  ·rw[hb]at k2
   cases k2
   obtain⟨e1,e2,e3,e4,e5⟩:=hL
   exact⟨ho,L',fn,c,World.putObj_heap_same hlt,h1,h2,h3,trivial,by rw[e3,e4,e5];exact h5,by rw[e2];exact h6,hok,fun t=>by rw[e2];exact s'.vrep (h8 t)⟩
 ·exact .inl ⟨hk,fun j ⟨j',e⟩=>hne (by cases e;rfl)⟩
theorem zlg{s:LSt}{p:Option Ex}{n' r':Option R}{x:Nat→Option R}(h:XS s p n' r' x=some r):
  (s= .ready∧p=none∧n'=some r)∨(s= .done∧p=some .ret∧r'=some r)∨ ∃i,s= .done∧p=some (.exit i)∧x i=some r:=by
 unfold XS at h
 split at h
 ·exact .inl ⟨rfl,rfl,h⟩
 ·exact .inr (.inl ⟨rfl,rfl,h⟩)
 ·exact .inr (.inr ⟨_,rfl,rfl,h⟩)
 ·cases h
theorem zis(ks:List Nat)(F:Nat→V)(t:Nat):(QG ks (ks.map F)).get t=if t∈ks then F t else .undef:=by
 induction ks with
 |nil=>rfl
 |cons k ks ih=>
  have:(QG (k::ks) ((k::ks).map F)).get t=(Env.set (QG ks (ks.map F)) k (F k)).get t:=rfl
  rw[this,Zo,ih]
  by_cases e:t=k
  ·subst e;simp
  ·simp[e]
theorem zo2{v:V}{K:Nat→List V→List V→Option R}(h:zfg v K=some r): ∃g a b,v= .fn g a b∧K g a b=some r:=by
 unfold zfg at h
 split at h
 ·exact⟨_,_,_,rfl,h⟩
 ·cases h
theorem zpQ(hP:PlainNames P){O:Oracle}(hC:XZ P cfg O.call){fid:Nat}{fn:Func}{whole:Code}(hf:P.funcs[fid]? =some fn)(hb:fn.body=some whole)(hok:zcx fn.ntmps whole=true)
  {g:Operand} {ps:Array Tmp} {x y:Code} (hfind:ZI (keyOf y) whole=some (ps,x,y)) (hR:Rel P cfg base fn.ntmps w own μ ρ st a) (hN:NoL ρ) {K:Ex→Env→St→Option R}
  (h:exec P cfg O fid (.rangeFunc g ps x y) ρ st K=some r) {m:Nat}:(Code.rangeFunc g ps x y).wpIn (wide none) m P (Fin P cfg base fn.ntmps w own μ r K) a w:=by
 simp only[exec]at h
 obtain⟨gf,first,cap,hv,h⟩:=zo2 h
 ·skip
  obtain⟨⟨out,st2⟩,hx,h⟩:=Yt h
  refine wpIn_rangeFunc fun fn' _=> ?_
  obtain⟨hr,s1,hval⟩:=hR.read false (g::((cfg.keep fid (keyOf y)).map (·.1)).map Operand.tmp)
  have hk1:=Z2 s1
  have hg:=hval g (by simp)
  rw[hv]at hg
  obtain⟨cf,cc,hev,ha1,ha2⟩:=zpL (hg.val (by simp))
  have sA:=Step.new hr.sto (.deferred (some [])) .d (by simp) []
  have hA:=hr.sto.step sA (by simp[hr.sto.len]) fun q z b h1 h2=> .inl ⟨h1,fun _ h=>h⟩
  generalize hL:({state:= .ready,pending:=none,fn:=fn',tmps:=a.tmps,params:=ps,assign:=x,body:=y,defers:=w.heap.size}:Loop)=L
  have sB:=Step.new hA (.loop L) (.r st.length 0) (by simp) [w.heap.size+1]
  have s:=(sA.trans sB).weaken (Y:=fun _=>False) fun g h=>h.elim id id
  simp only[List.append_nil,World.size_alloc]at s
  have hD1:((w.alloc (.deferred (some []))).alloc (.loop L)).heap[w.heap.size]? =some (.deferred (some [])):=(Below.heap_alloc _ _ _ (by simp)).trans (World.alloc_heap_new w _)
  have hl1:((w.alloc (.deferred (some []))).alloc (.loop L)).heap[w.heap.size+1]? =some (.loop L):=by
   have:=World.alloc_heap_new (w.alloc (.deferred (some []))) (.loop L);rwa [World.size_alloc]at this
  generalize hW:(w.alloc (.deferred (some []))).alloc (.loop L)=W at s hD1 hl1
  generalize hO:Xb (Xb (Yq own ρ (g::((cfg.keep fid (keyOf y)).map (·.1)).map Operand.tmp)) w.heap.size .d) (w.heap.size+1) (.r st.length 0)=ownB at s
  have hOD: ∀i,ownB w.heap.size i= .d:=fun i=>by rw[←hO];simp[Xb]
  have hOl: ∀i,ownB (w.heap.size+1) i= .r st.length 0:=fun i=>by rw[←hO];simp[Xb]
  have hrec:RRep P cfg W ownB (μ++[w.heap.size+1]) st.length (w.heap.size+1) (.loop fid (keyOf y) (((cfg.keep fid (keyOf y)).map (·.1)).map fun t=>plain1 (rd ρ false (.tmp t))) .ready none):=by
   refine⟨hOl,L,fn,whole,hl1,hf,hb,hok,trivial,by rw[←hL];exact hfind,by rw[←hL];exact hR.tmps,by rw[←hL];trivial,fun t=> ?_⟩
   rw[zis]
   split
   ·rename_i ht
    have:=(hval (.tmp t) (List.mem_cons_of_mem _ (List.mem_map.2 ⟨t,ht,rfl⟩))).plain
    rw[←hL]
    exact s.vrep this
   ·exact .undef _
  have hS:Sto P cfg base W ownB (μ++[w.heap.size+1]) (st++[.loop fid (keyOf y) (((cfg.keep fid (keyOf y)).map (·.1)).map fun t=>plain1 (rd ρ false (.tmp t))) .ready none]):=by
   refine hr.sto.step s (by simp[hr.sto.len]) fun q z b h1 h2=> ?_
   rcases Nat.lt_or_ge q st.length with hq|hq
   ·rw[List.getElem?_append_left hq]at h1
    exact .inl ⟨h1,fun _ h=>h⟩
   ·right
    have hq':q=st.length:=by
     have:=(List.getElem?_eq_some_iff.1 h1).1
     simp at this;omega
    subst hq'
    rw[List.getElem?_append_right (Nat.le_refl _)]at h1
    simp only[Nat.sub_self,List.getElem?_cons_zero,Option.some.injEq]at h1
    rw[QW hr.sto.len]at h2
    cases h2
    rw[←h1];exact hrec
  have hdef: ∀z,z∈a.defers→ ∃D,z={target:= .collected D,args:= #[]}∧w.heap[D]? =some (.deferred (some []))∧ ∀i,ownB D i= .d∧W.heap[D]? =some (.deferred (some [])):=fun z hz=>by
   obtain⟨D,h1,h2,h3⟩:=hr.defers z hz
   exact⟨D,h1,h2,fun i=>⟨(s.tag D i (by rw[h3];simp) (fun h=>h)).trans (h3 i),(s.whole D _ h3 (by simp) (by simp) (fun h=>h)).trans h2⟩⟩
  have hrel:Rel P cfg base fn.ntmps W ownB (μ++[w.heap.size+1]) (ρ.apply (upds ρ false (g::((cfg.keep fid (keyOf y)).map (·.1)).map Operand.tmp))) (st++[.loop fid (keyOf y) (((cfg.keep fid (keyOf y)).map (·.1)).map fun t=>plain1 (rd ρ false (.tmp t))) .ready none])
    {a with defers:=[{target:= .collected w.heap.size,args:= #[]}]++a.defers}:=by
   refine⟨hS,fun t=>s.trep (hr.env t) (fun _ h=>h) fun z off hz=>⟨rfl,(YN hr t z off hz).2⟩,hR.tmps,fun z hz=> ?_, ?_⟩
   ·rcases List.mem_cons.1 hz with rfl|hz
    ·exact⟨_,rfl,hD1,hOD⟩
    ·obtain⟨D,h1,_,h3⟩:=hdef z hz
     exact⟨D,h1,(h3 0).2,fun i=>(h3 i).1⟩
   ·refine List.nodup_cons.2 ⟨fun hm=> ?_,hR.apart⟩
    obtain⟨D,h1,h2,_⟩:=hdef _ hm
    cases h1
    have:=(Array.getElem?_eq_some_iff.1 h2).1
    omega
  have hk2:Keeps base w own μ W ownB (μ++[w.heap.size+1]):=hk1.trans (s.keeps fun h=>h)
  obtain⟨hgf,hcalls⟩:=hC gf _ _ _ hx
  have hargs:Args W ownB (μ++[w.heap.size+1]) (first++[.yld st.length]++cap) (cf++ #[.func (.yield (w.heap.size+1)) #[] #[]]++cc):=by
   refine Args.app (Args.app (Args.mono ha1 fun v c hv=>s.vrep hv) ⟨rfl,fun i hi=> ?_⟩) (Args.mono ha2 fun v c hv=>s.vrep hv)
   have:i=0:=by simpa using hi
   subst this
   exact .yld _ _ (QW hr.sto.len _)
  refine⟨w.heap.size+1,[{target:= .collected w.heap.size,args:= #[]}],W,{target:= .fn (.func gf) cc,args:=cf++ #[.func (.yield (w.heap.size+1)) #[] #[]]},W,gf,cf++ #[.func (.yield (w.heap.size+1)) #[] #[]]++cc,W, ?_, ?_,fun _ _=>trivial, ?_,zas none, ?_⟩
  ·rw[←hW,←hL];exact run_enterLoop_outer _ _ _ _ _
  ·simp only[resolve,hev]
   simp[go_sem]
  ·exact JR hP hgf (cf++ #[.func (.yield (w.heap.size+1)) #[] #[]]++cc)
  ·refine(zbN (hcalls (m-1) base W (zbM ownB) _ _ hS.toC (zf4 _) ⟨hargs.1,fun i hi=>(hargs.2 i hi).toC⟩)).mono fun e w2 hpost=> ?_
   obtain⟨cv,own2,μ2,h1,h2,h3⟩:=hpost
   obtain⟨k1,k2⟩:=zhp hrel h1 h2
   cases out with
   |panic v=>simp[Zx]at h
   |ret v=>
    simp only[Zx]at h
    obtain⟨rfl,_⟩:=h3
    obtain⟨z,hz,h⟩:=ZM h
    obtain⟨f',key',vals',s',p',rfl,h6⟩:=Xz h
    have hb2:μ2[st.length]? =some (w.heap.size+1):=by
     obtain⟨ν,rfl⟩:=k2.mu
     exact zbD (QW hr.sto.len _)
    obtain⟨L2,hh,hst,hput⟩:=zhs k1 hz hb2
    obtain⟨k3,k4⟩:=hput {L2 with state:= .exhausted} .dead ⟨rfl,rfl,rfl,rfl,rfl⟩ (.inl rfl)
    have hkk:=(hk2.trans k2).trans k4
    have hN':=zpP hN false (g::((cfg.keep fid (keyOf y)).map (·.1)).map Operand.tmp)
    rcases zlg h6 with⟨rfl,rfl,h7⟩|⟨rfl,rfl,h7⟩|⟨i,rfl,rfl,h7⟩
    ·cases hs2:L2.state<;>rw[hs2]at hst<;>try exact hst.elim
     cases hp2:L2.pending<;>rw[hp2]at hst<;>try exact hst.elim
     have hend:=run_endLoop (P:=P) hh (by rw[hs2];simp)
     generalize w2.putObj (w.heap.size+1) (.loop {L2 with state:= .exhausted})=W2 at hend k3 hkk
     rw[hp2]at hend
     refine⟨none,W2,hend, ?_⟩
     exact⟨_,_,_,_,h7,k3,hN',hkk⟩
    ·cases hs2:L2.state<;>rw[hs2]at hst<;>try exact hst.elim
     cases hp2:L2.pending with
     |none=>rw[hp2]at hst;exact hst.elim
     |some c=>
      rw[hp2]at hst
      cases c<;>try exact hst.elim
      have hend:=run_endLoop (P:=P) hh (by rw[hs2];simp)
      generalize w2.putObj (w.heap.size+1) (.loop {L2 with state:= .exhausted})=W2 at hend k3 hkk
      rw[hp2]at hend
      refine⟨some .ret,W2,hend, ?_⟩
      rcases Ya h7 with⟨_,h7⟩|⟨_,h7⟩
      ·exact wpIn_ret ⟨_,_,_,_,h7,k3,hN',hkk⟩
      ·cases h7
    ·cases hs2:L2.state<;>rw[hs2]at hst<;>try exact hst.elim
     cases hp2:L2.pending with
     |none=>rw[hp2]at hst;exact hst.elim
     |some c=>
      rw[hp2]at hst
      cases c<;>try exact hst.elim
      rename_i j
      have:i=j:=hst
      subst this
      have hend:=run_endLoop (P:=P) hh (by rw[hs2];simp)
      generalize w2.putObj (w.heap.size+1) (.loop {L2 with state:= .exhausted})=W2 at hend k3 hkk
      rw[hp2]at hend
      refine⟨some (.exit i),W2,hend, ?_⟩
      exact wpIn_exit ⟨_,_,_,_,zba (F:=fun j=>K (.exit j) _ _) h7,k3,hN',hkk⟩
end
end Go.AM
namespace Go.AM
open Go
section
variable{P:Program}{cfg:Cfg}{fid rid idx:Nat}{o:Oper}{ρ:Env}{st:St}{R:Type}
theorem zec{α:Type}(x:α)(K:α→Option R):Za (some x) K=K x:=rfl
theorem Qa{α:Type}(K:α→Option R):Za none K=none:=rfl
theorem Zm{α:Type}(b:Bool)(x:Option α)(K:α→Option R):Za (gd b x) K=gd b (Za x K):=by cases b<;>rfl
theorem zat{α:Type}(b:Bool)(x y:Option α)(K:α→Option R):Za (bc b x y) K=bc b (Za x K) (Za y K):=by cases b<;>rfl
theorem Yb{α:Type}(v:V)(F:Int→Option α)(K:α→Option R):Za (Zp v F) K=Zp v fun i=>Za (F i) K:=by cases v<;>rfl
theorem QL{α:Type}(v:V)(F:List V→Option α)(K:α→Option R):Za (Xq v F) K=Xq v fun i=>Za (F i) K:=by cases v<;>rfl
theorem zgo{α:Type}(v:V)(F:List V→Option α)(K:α→Option R):Za (ZQ v F) K=ZQ v fun i=>Za (F i) K:=by cases v<;>rfl
theorem JS{α:Type}(v:V)(F:Bool→Option α)(K:α→Option R):Za (Zi v F) K=Zi v fun i=>Za (F i) K:=by cases v<;>rfl
theorem JC{α:Type}(v:V)(F:ByteArray→Option α)(K:α→Option R):Za (zch v F) K=zch v fun i=>Za (F i) K:=by cases v<;>rfl
theorem zbP{α:Type}(k:IntKind)(v:V)(F:Int→Option α)(K:α→Option R):Za (zif k v F) K=zif k v fun i=>Za (F i) K:=by
 cases v<;>try rfl
 simp only[zif];split<;>rfl
theorem zcB{α:Type}(sh:Sh)(v:V)(F:List V→Option α)(K:α→Option R):Za (Yw sh v F) K=Yw sh v fun i=>Za (F i) K:=by
 cases v<;>try rfl
 rename_i m sh' es
 cases m<;>try rfl
 simp only[Yw];split<;>rfl
theorem Qb{α:Type}(vs:List V)(x:Option α)(K:α→Option R):Za (Zq vs x) K=Zq vs (Za x K):=by cases vs<;>rfl
theorem JT{α:Type}(vs:List V)(F:V→List V→Option α)(K:α→Option R):Za (Zd vs F) K=Zd vs fun v vs=>Za (F v vs) K:=by cases vs<;>rfl
theorem Y8{α:Type}(q:Nat)(F:Res→Option α)(K:α→Option R):Za (Zz st q F) K=Zz st q fun x=>Za (F x) K:=by
 unfold Zz;cases st[q]? <;>rfl
theorem zcC{α:Type}(x:Res)(F:List V→Option α)(K:α→Option R):Za (ZE x F) K=ZE x fun i=>Za (F i) K:=by cases x<;>rfl
theorem QM{α:Type}(x:Res)(F:Sh→List V→Option α)(K:α→Option R):Za (zbi x F) K=zbi x fun i j=>Za (F i j) K:=by cases x<;>rfl
theorem zit{α:Type}(x:Res)(F:Sh→Nat→Nat→Option α)(K:α→Option R):Za (zdj x F) K=zdj x fun i j k=>Za (F i j k) K:=by cases x<;>rfl
theorem zgp{α:Type}(x:Res)(F:CT→CT→List (V×V)→Option α)(K:α→Option R):Za (zgc x F) K=zgc x fun a b c=>Za (F a b c) K:=by cases x<;>rfl
theorem zed{α:Type}(v:V)(F:Nat→Option α)(K:α→Option R):Za (zie v F) K=zie v fun q=>Za (F q) K:=by cases v<;>rfl
theorem zjQ{α:Type}(x:Res)(F:ByteArray→Nat→Option α)(K:α→Option R):Za (zff x F) K=zff x fun i j=>Za (F i j) K:=by cases x<;>rfl
theorem zgq{α:Type}(x:Out)(F G:V→Option α)(K:α→Option R):Za (Zx x F G) K=Zx x (fun v=>Za (F v) K) (fun v=>Za (G v) K):=by cases x<;>rfl
theorem zee{α:Type}(v:V)(F:Nat→List V→List V→Option α)(K:α→Option R):Za (zfg v F) K=zfg v fun a b c=>Za (F a b c) K:=by cases v<;>rfl
theorem JU{α:Type}(sh:Sh)(v:V)(F:List V→Option α)(K:α→Option R):Za (zcw sh v F) K=zcw sh v fun a=>Za (F a) K:=by
 cases v<;>try rfl
 rename_i m _ _
 cases m<;>try rfl
 simp only[zcw];split<;>rfl
theorem zgr(cs:List CT): ∀(vs:List V) {α:Type} (F:List V→Option α) (K:α→Option R),Za (onCells cs vs (za8 α cs F)) K=onCells cs vs (za8 R cs fun vs=>Za (F vs) K):=by
 induction cs with
 |nil=>intro vs α F K;cases vs<;>rfl
 |cons c cs ih=>
  intro vs α F K
  cases vs with
  |nil=>cases c<;>exact(show(none:Option R)=none from rfl)
  |cons v vs=>
   cases c with
   |int=>cases v with
    |int x=>exact ih vs (fun vs=>F (.int x::vs)) K
    |_=>exact(show(none:Option R)=none from rfl)
   |bool=>cases v with
    |bool x=>exact ih vs (fun vs=>F (.bool x::vs)) K
    |_=>exact(show(none:Option R)=none from rfl)
   |str=>cases v with
    |str x=>exact ih vs (fun vs=>F (.str x::vs)) K
    |_=>exact(show(none:Option R)=none from rfl)
   |fn=>cases v with
    |fn g a b=>exact ih vs (fun vs=>F (.fn g a b::vs)) K
    |_=>exact(show(none:Option R)=none from rfl)
   |any=>exact ih vs (fun vs=>F (v::vs)) K
   |nil sh=>
    cases v with
    |vec m sh' es=>
     cases m with
     |full=>
      cases es with
      |nil=>
       show Za (if sh'=sh then onCells cs vs (za8 α cs fun vs=>F (.vec .full sh []::vs))else none) K=if sh'=sh then onCells cs vs (za8 R cs fun vs=>Za (F (.vec .full sh []::vs)) K)else none
       by_cases h:sh'=sh
       ·rw[if_pos h,if_pos h];exact ih vs (fun vs=>F (.vec .full sh []::vs)) K
       ·rw[if_neg h,if_neg h];rfl
      |cons _ _=>exact(show(none:Option R)=none from rfl)
     |_=>exact(show(none:Option R)=none from rfl)
    |_=>exact(show(none:Option R)=none from rfl)
   |ik k=>
    cases v with
    |ik k' x=>
     show Za (if k'=k then onCells cs vs (za8 α cs fun vs=>F (.ik k x::vs))else none) K=if k'=k then onCells cs vs (za8 R cs fun vs=>Za (F (.ik k x::vs)) K)else none
     by_cases h:k'=k
     ·rw[if_pos h,if_pos h];exact ih vs (fun vs=>F (.ik k x::vs)) K
     ·rw[if_neg h,if_neg h];rfl
    |_=>exact(show(none:Option R)=none from rfl)
   |slice sh=>
    cases v with
    |vec m sh' es=>
     cases m with
     |plain=>
      show Za (if sh'=sh then onCells cs vs (za8 α cs fun vs=>F (.vec .plain sh es::vs))else none) K=if sh'=sh then onCells cs vs (za8 R cs fun vs=>Za (F (.vec .plain sh es::vs)) K)else none
      by_cases h:sh'=sh
      ·rw[if_pos h,if_pos h];exact ih vs (fun vs=>F (.vec .plain sh es::vs)) K
      ·rw[if_neg h,if_neg h];rfl
     |_=>exact(show(none:Option R)=none from rfl)
    |_=>exact(show(none:Option R)=none from rfl)
theorem Jq{α:Type}(c:CT)(v:V)(F:V→Option α)(K:α→Option R):Za (ZW c v F) K=ZW c v fun v=>Za (F v) K:=by
 cases c<;>simp only[ZW,Yb,zbP,JS,JC,zcB,zee,JU,Qb]
theorem YW{α:Type}(t:TypeId)(v:V)(F:V→Option α)(K:α→Option R):Za (Qg P t v F) K=Qg P t v fun v=>Za (F v) K:=by
 have hc: ∀(c:CT),Za (ZW c v F) K=ZW c v fun v=>Za (F v) K:=by
  intro c
  cases c<;>simp only[ZW,Yb,zbP,JS,JC,zcB,zee,JU,Qb]
 unfold Qg
 cases shOf P t with
 |none=>
  simp only
  split
  ·exact hc _
  ·rfl
 |some k=>
  simp only[Zc]
  cases v<;>simp only[Qa]
  exact zgr _ _ _ _
theorem ziu{α:Type}(t:TypeId)(v:V)(F:V→Option α)(K:α→Option R):Za (zdk P t v F) K=zdk P t v fun v=>Za (F v) K:=by
 have hc: ∀(c:CT),Za (ZW c v F) K=ZW c v fun v=>Za (F v) K:=by
  intro c
  cases c<;>simp only[ZW,Yb,zbP,JS,JC,zcB,zee,JU,Qb]
 unfold zdk
 cases shOf P t with
 |none=>
  simp only
  split
  ·exact hc _
  ·rfl
 |some k=>
  simp only[Zc]
  cases v<;>simp only[Qa]
  exact zgr _ _ _ _
theorem zbb{α:Type}(cl:Bool)(t:TypeId)(v:V)(F:V→Option α)(K:α→Option R):Za (zb9 P cl t v F) K=zb9 P cl t v fun u=>Za (F u) K:=by
 unfold zb9
 split
 ·cases cl with
  |true=>
   simp only
   cases v<;>try rfl
   simp only[zaS]
   split<;>rfl
  |false=>
   simp only
   cases v<;>try rfl
   simp only[znK]
   split<;>rfl
 ·exact ziu _ _ _ _
theorem zdC{α:Type}(t:TypeId)(v:V)(F:V→Option α)(K:α→Option R):Za (zbA P t v F) K=zbA P t v fun u=>Za (F u) K:=by
 unfold zbA
 split
 ·cases v<;>rfl
 ·exact YW _ _ _ _
theorem ziv{α:Type}(t:TypeId)(v:V)(F:V→Option α)(K:α→Option R):Za (zdl P t v F) K=zdl P t v fun u=>Za (F u) K:=by
 unfold zdl
 split
 ·exact zdC t v F K
 ·rfl
theorem zcl{α:Type}: ∀(ts:List TypeId) (vs:List V) (F:List V→Option α) (K:α→Option R),Za (XK P ts vs F) K=XK P ts vs fun v=>Za (F v) K
 |[],vs,F,K=>by simp only[XK,Qb]
 |t::ts,vs,F,K=>by simp only[XK,JT,YW,zcl ts]
theorem JV{α:Type}(t:TypeId)(v:V)(F:V→Option α)(K:α→Option R):Za (coerce P t v F) K=coerce P t v fun v=>Za (F v) K:=by
 unfold coerce
 split
 ·simp only[zgo,zcl]
 ·exact YW _ _ _ _
theorem zo3{α:Type}(isB:Bool)(op:BinOp)(x y:V)(F:V→Option α)(K:α→Option R):Za (bop isB op x y F) K=bop isB op x y fun v=>Za (F v) K:=by
 unfold bop
 split
 ·cases op<;>first|rfl|exact Zm _ _ _
 ·split
  ·cases op<;>first|rfl|exact Zm _ _ _
  ·rfl
 ·cases op<;>first|rfl|exact Zm _ _ _
 ·cases op<;>first|rfl|exact Zm _ _ _
 ·rfl
theorem zau{α:Type}: ∀(fs:List Field) (as_ bs:List V) (acc:Bool) (F:Bool→Option α) (K:α→Option R),Za (zfi P fs as_ bs acc F) K=zfi P fs as_ bs acc fun b=>Za (F b) K
 |[],as_,bs,acc,F,K=>by simp only[zfi,Qb]
 |f::fs,as_,bs,acc,F,K=>by
  simp only[zfi,JT]
  congr 1
  funext a as_
  congr 1
  funext b bs
  split
  ·simp only[Yb,zau fs]
  ·simp only[zbP,zau fs]
  ·simp only[JS,zau fs]
  ·simp only[JC,zau fs]
  ·rfl
theorem zmH{α:Type}(t:TypeId)(op:BinOp)(x y:V)(F:V→Option α)(K:α→Option R):Za (zjy P t op x y F) K=zjy P t op x y fun v=>Za (F v) K:=by
 unfold zjy
 split
 ·rw[Zm]
  congr 1
  split
  ·rw[zau]
   congr 1
   funext b
   cases op<;>rfl
  ·rfl
 ·rw[Zm];congr 1;cases op<;>rfl
 ·rw[Zm];congr 1;cases op<;>rfl
 ·exact zo3 _ _ _ _ _ _
theorem ziw{α:Type}(t:TypeId)(x:V)(F:V→Option α)(K:α→Option R):Za (zdm P t x F) K=zdm P t x fun v=>Za (F v) K:=by
 unfold zdm
 rw[Zm]
 congr 1
 split
 ·rfl
 ·exact zat _ _ _ _
 ·rfl
theorem zo4{α:Type}(op:UnOp)(x:V)(F:V→Option α)(K:α→Option R):Za (uop op x F) K=uop op x fun v=>Za (F v) K:=by
 unfold uop;split<;>rfl
theorem zmI{α:Type}(t u:TypeId)(x:V)(F:V→Option α)(K:α→Option R):Za (conv P t u x F) K=conv P t u x fun v=>Za (F v) K:=by
 unfold conv
 split<;>try rfl
 ·split
  ·exact Zm _ _ _
  ·rfl
 ·split<;>rfl
theorem zjR{α:Type}(t:TypeId)(x:V)(lo hi mx:Option V)(F:V→Option α)(K:α→Option R):Za (zfj P t x lo hi mx F) K=zfj P t x lo hi mx fun v=>Za (F v) K:=by
 unfold zfj
 split
 ·cases lo<;>cases hi<;>cases mx<;>simp only[Zm,Yb]
 ·cases lo<;>cases hi<;>simp only[Zm,Yb]
 ·cases lo<;>cases hi<;>simp only[Zm,Yb]
 ·rfl
theorem zmJ{α:Type}(t:TypeId)(x:V)(F:V→Option α)(K:α→Option R):Za (zoj P t x F) K=zoj P t x fun v=>Za (F v) K:=by
 unfold zoj;split<;>first|exact Zm _ _ _|rfl
theorem zef{α:Type}(t:TypeId)(x:V)(F:Sh→List V→Option α)(K:α→Option R):Za (zgV P st t x F) K=zgV P st t x fun v w=>Za (F v w) K:=by
 unfold zgV
 split
 ·exact Zm _ _ _
 ·exact Zm _ _ _
 ·simp only[Zm,Y8,QM]
 ·rfl
theorem zix{α:Type}(sh:Sh)(v:V)(F:List V→Option α)(K:α→Option R):Za (YY sh v F) K=YY sh v fun a=>Za (F a) K:=by
 cases v<;>try rfl
 rename_i m _ _
 cases m<;>try rfl
 ·simp only[YY];split<;>rfl
 ·simp only[YY];split<;>rfl
theorem ziy{α:Type}(t:TypeId)(s:V)(ys:List V)(sh:Sh)(F:V→Option α)(K:α→Option R):Za (zdn P t s ys sh F) K=zdn P t s ys sh fun v=>Za (F v) K:=by
 unfold zdn
 split
 ·rfl
 ·rw[zix];simp only[Zm]
theorem zcm{α:Type}: ∀(ps:List (Nat×V)) (st:St) (F:List (Nat×V)→St→Option α) (K:α→Option R),Za (Xe ps st F) K=Xe ps st fun v w=>Za (F v w) K
 |[],st,F,K=>rfl
 |(i,v)::rest,st,F,K=>by
  cases v<;>simp only[Xe,zcm rest,Y8,QM,Zm]
end
end Go.AM
namespace Go.AM
open Go
section
variable{P:Program}{cfg:Cfg}{O:Oracle}{fid rid idx:Nat}{o:Oper}{ρ:Env}{st:St}{R:Type}{α:Type}
theorem zeJ(F:List (Nat×V)→Option α)(K:α→Option R):Za (Q9 P cfg fid rid idx o ρ F) K=Q9 P cfg fid rid idx o ρ fun us=>Za (F us) K:=by
 unfold Q9
 dsimp only
 cases hop:o.op<;>try simp only[Qa,Zm,Yb,zgo,QL,zmH,zo4,zmI,zjR]
 case pick c a b=>cases rd ρ (cfg.take fid rid idx) c<;>first|rfl|exact zat _ _ _ _
 case build t ps=>split<;>first|rfl|exact Zm _ _ _
 case buildSlice t n ps=>
  split
  ·split<;>first|rfl|exact Zm _ _ _
  ·rfl
 case load t a=>
  split
  ·simp only[Zm,zdC]
  ·exact Zm _ _ _
  ·split
   ·simp only[Zm,zat,ziv]
   ·exact Zm _ _ _
   ·rfl
  ·rfl
 case store t a x=>
  congr 1
  split
  ·exact Zm _ _ _
  ·split<;>first|rfl|exact Zm _ _ _
  ·rfl
 case fieldAddr s x f=>
  split
  ·rfl
  ·simp only[Zm]
   congr 1
   split<;>first|rfl|exact Zm _ _ _|simp only[Zm,QL]
 case indexAddr t x i=>
  split
  ·split<;>first|rfl|simp only[Zm,Yb]
  ·split<;>first|rfl|simp only[Zm,Yb]
  ·split
   ·split<;>first|rfl|simp only[Zm,Yb]
   ·rfl
  ·rfl
 case field s x f=>
  split
  ·rfl
  ·simp only[Zm,QL]
 case index t x i=>split<;>first|rfl|simp only[Zm,Yb]
 case makeFunc f first cap=>split<;>rfl
 case makeSlice t l c=>split<;>first|rfl|simp only[Zm,Yb]
 case nilCheck x=>split<;>first|rfl|exact Zm _ _ _
 case typeAssert x u t c=>cases c<;>simp only[bc,ziw,Qa]
theorem zbQ(F:List (Nat×V)→Option α)(K:α→Option R):Za (QU P cfg fid rid idx o ρ st F) K=QU P cfg fid rid idx o ρ st fun us=>Za (F us) K:=by
 unfold QU
 dsimp only
 cases hop:o.op<;>try simp only[Qa]
 case load t a=>
  split
  ·simp only[Zm,Y8,zcC,YW]
  ·simp only[Y8,QM,Zm]
   congr 1
   funext x
   congr 1
   funext sh es
   congr 1
   split
   ·simp only[YW]
   ·split
    ·simp only[QL,Zm,YW]
    ·rfl
  ·rfl
 case lookup t m k c=>
  cases c
  ·simp only
   split
   ·simp only[zed,Y8,zgp,Zm,Jq]
   ·rfl
  ·rfl
 case call c=>
  split
  ·split
   ·simp only[Zm,zef,ziy]
   ·rfl
  ·split
   ·simp only[zmJ]
   ·rfl
  ·rfl
theorem ziz(sh:Sh)(v:V)(F G:List V→Option α)(K:α→Option R):Za (JM sh v F G) K=JM sh v (fun a=>Za (F a) K) (fun a=>Za (G a) K):=by
 cases v<;>try rfl
 rename_i m _ _
 cases m<;>try rfl
 ·simp only[JM];split<;>rfl
 ·simp only[JM];split<;>rfl
theorem zi0(F:List (Nat×V)→St→Option α)(K:α→Option R):Za (J0 P cfg fid rid idx o ρ st F) K=J0 P cfg fid rid idx o ρ st fun us st=>Za (F us st) K:=by
 unfold J0
 dsimp only
 cases hop:o.op<;>try simp only[Qa,Zm]
 case load t a=>
  split
  ·simp only[Zm,Y8,zcC]
   congr 1
   funext x
   congr 1
   funext cs
   congr 1
   split
   ·rfl
   ·exact ziz ..
  ·rfl
 case store t a x=>
  congr 1
  split
  ·split
   ·split
    ·simp only[Zm,Y8,zit]
    ·rfl
   ·rfl
  ·simp only[Zm,Y8,zcC]
  ·simp only[Y8,QM,Zm]
   congr 1
   funext x
   congr 1
   funext sh es
   congr 1
   split
   ·rfl
   ·split
    ·simp only[QL,Zm]
    ·rfl
  ·rfl
 case makeSlice t l c=>split<;>first|rfl|simp only[Zm,Yb]
 case build t ps=>
  simp only[zcm]
  congr 1
  funext ps st
  split<;>first|rfl|exact Zm _ _ _
 case move x=>
  cases x<;>try rfl
  simp only
  split
  ·simp only[Y8,QM,Zm]
  ·rfl
 case makeMap t x=>
  cases x
  ·simp only
   split<;>rfl
  ·rfl
 case mapUpdate t m k x=>
  split
  ·simp only[zed,Y8,zgp,Zm,Jq]
  ·rfl
 case range t x=>simp only[JC,Zm]
 case next it s=>
  cases s
  ·rfl
  ·simp only
   split
   ·simp only[Y8,zjQ,Zm,zat]
   ·rfl
 case call c=>
  split
  ·split
   ·split
    ·simp only[Zm,zef]
    ·rfl
   ·rfl
  ·split
   ·split
    ·simp only[Zm,zef,Y8,QM]
    ·rfl
   ·rfl
  ·rfl
theorem Ql(F:List (Nat×V)→Option α)(K:α→Option R):Za (Jl o ρ F) K=Jl o ρ fun us=>Za (F us) K:=by
 unfold Jl
 split
 ·split
  ·split<;>rfl
  ·split<;>rfl
  ·rfl
 ·rfl
theorem zaH{β:Type}(x:Option β)(F:β→Option α)(K:α→Option R):Za (Za x F) K=Za x fun y=>Za (F y) K:=by cases x<;>rfl
theorem zjS{c:Call}{f:Operand}(F:List (Nat×V)→St→Option α)(G:V→St→Option α)(K:α→Option R):Za (X4 P cfg O fid rid idx o c f ρ st F G) K=X4 P cfg O fid rid idx o c f ρ st (fun us st=>Za (F us st) K) fun v st=>Za (G v st) K:=by
 unfold X4
 dsimp only
 simp only[Zm]
 congr 1
 split
 ·split
  ·simp only[Yb,Zm]
  ·simp only[zat,zaH,JV,zbb,zgq,Qa]
 ·simp only[zdo,zat,zaH,JV,zgq,Qa]
theorem zlh(F:List (Nat×V)→St→Option α)(G:V→St→Option α)(K:α→Option R):Za (Xj P cfg O fid rid idx o ρ st F G) K=Xj P cfg O fid rid idx o ρ st (fun us st=>Za (F us st) K) fun v st=>Za (G v st) K:=by
 unfold Xj
 split
 ·split<;>rfl
 ·exact zjS _ _ _
 ·exact Ql _ _
 ·exact Ql _ _
 ·split
  ·exact zeJ _ _
  ·exact zbQ _ _
  ·exact zi0 _ _
def QX(P:Program)(cfg:Cfg)(O:Oracle)(fid rid idx:Nat)(o:Oper)(ρ:Env)(st:St):Option (List (Nat×V)×St):=Xj P cfg O fid rid idx o ρ st (fun us st=>some (us,st)) fun _ _=>none
def zgs(P:Program)(cfg:Cfg)(O:Oracle)(fid rid idx:Nat)(o:Oper)(ρ:Env)(st:St):Option ((List (Nat×V)×St)⊕(V×St)):=
 Xj P cfg O fid rid idx o ρ st (fun us st=>some (.inl (us,st))) fun v st=>some (.inr (v,st))
theorem Qc{rid idx:Nat}{o:Oper}{ρ:Env}{st:St}(F:List (Nat×V)→St→Option R)(G:V→St→Option R):
  Xj P cfg O fid rid idx o ρ st F G=Za (zgs P cfg O fid rid idx o ρ st) fun| .inl x=>F x.1 x.2| .inr x=>G x.1 x.2:=by
 unfold zgs
 rw[zlh]
 rfl
end
end Go.AM
namespace Go.AM
open Go
section
variable{P:Program}{cfg:Cfg}{O:Oracle}{fid rid idx:Nat}{o:Oper}{ρ ρ':Env}{st:St}{R:Type}{α:Type}
def SameOn(ρ ρ':Env)(xs:List Operand):Prop:= ∀x∈xs,ev ρ' x=ev ρ x∧ ∀b off,ev ρ x= .lptr b off→ρ'.get b=ρ.get b
theorem SameOn.rd{xs:List Operand}(h:SameOn ρ ρ' xs)(tk:Bool){x:Operand}(hx:x∈xs):AM.rd ρ' tk x=AM.rd ρ tk x:=by unfold AM.rd;rw[(h x hx).1]
theorem SameOn.upds{xs ys:List Operand}(h:SameOn ρ ρ' xs)(tk:Bool)(hy: ∀y∈ys,y∈xs):AM.upds ρ' tk ys=AM.upds ρ tk ys:=by
 unfold AM.upds
 induction ys with
 |nil=>rfl
 |cons y ys ih=>
  rw[List.flatMap_cons,List.flatMap_cons,ih fun z hz=>hy z (List.mem_cons_of_mem _ hz)]
  congr 1
  have:=(h y (hy y (List.mem_cons_self ..))).1
  unfold zjx
  cases y with
  |tmp t=>
   have e:ρ'.get t=ρ.get t:=this
   simp only[e]
  |_=>rfl
theorem JK(op:Op): ∀y∈Zw op,y∈op.operands.toList:=by
 intro y hy
 cases op<;>simp only[Zw]at hy<;>first|exact hy|(simp at hy;done)|(simp only[List.mem_singleton]at hy;subst hy;simp[Op.operands])
theorem zdD{e:TypeId}{f g:Operand→V}: ∀(ps:List (Nat×Operand)) (es:List V),(∀p∈ps,f p.2=g p.2)→XC P e f ps es=XC P e g ps es
 |[],es,_=>rfl
 |(i,x)::ps,es,h=>by
  simp only[XC]
  rw[h (i,x) (List.mem_cons_self ..)]
  congr 1
  exact zdD ps _ fun p hp=>h p (List.mem_cons_of_mem _ hp)
theorem zli(h:SameOn ρ ρ' o.op.operands.toList)(F:List (Nat×V)→Option R):Q9 P cfg fid rid idx o ρ' F=Q9 P cfg fid rid idx o ρ F:=by
 have hu:=h.upds (cfg.take fid rid idx) (JK o.op)
 have hr:=fun {x} hx=>h.rd (cfg.take fid rid idx) (x:=x) hx
 unfold Q9
 dsimp only
 rw[hu]
 revert h hr
 clear hu
 cases hop:o.op<;>intro h hr<;>simp only[Op.operands]at h hr⊢
 case move x=>rw[hr (by simp)]
 case assign x=>rw[hr (by simp)]
 case pick c a b=>rw[hr (x:=c) (by simp),hr (x:=a) (by simp),hr (x:=b) (by simp)]
 case box e x=>rw[hr (by simp)]
 case build t ps=>
  have:(ps.toList.map fun p=>(p.1,rd ρ' (cfg.take fid rid idx) p.2))=ps.toList.map fun p=>(p.1,rd ρ (cfg.take fid rid idx) p.2):=
   List.map_congr_left fun p hp=>by rw[hr (List.mem_map.2 ⟨p,hp,rfl⟩)]
  rw[this]
 case buildSlice t n ps=>
  have: ∀e,XC P e (rd ρ' (cfg.take fid rid idx)) ps.toList (List.replicate n (zeroV P e))=XC P e (rd ρ (cfg.take fid rid idx)) ps.toList (List.replicate n (zeroV P e)):=
   fun e=>zdD _ _ fun p hp=>hr (List.mem_map.2 ⟨p,hp,rfl⟩)
  simp only[this]
 case load t a=>
  obtain⟨h1,h2⟩:=h a (by simp)
  rw[h1]
  cases hv:ev ρ a<;>try rfl
  rename_i b off
  dsimp only
  rw[h2 b off hv]
 case store t a x=>
  obtain⟨h1,h2⟩:=h a (by simp)
  rw[h1,hr (x:=x) (by simp)]
  cases hv:ev ρ a with
  |lptr b off=>cases a<;>dsimp only<;>rw[h2 b off hv]
  |_=>cases a<;>rfl
 case fieldAddr s x f=>rw[(h x (by simp)).1]
 case indexAddr t x i=>rw[(h x (by simp)).1,hr (x:=i) (by simp)]
 case field s x f=>rw[hr (by simp)]
 case index t x i=>rw[hr (x:=x) (by simp),hr (x:=i) (by simp)]
 case extract x i=>rw[hr (by simp)]
 case binOp op t x y u=>rw[hr (x:=x) (by simp),hr (x:=y) (by simp)]
 case unOp op t x=>rw[hr (by simp)]
 case convert s d x=>rw[hr (by simp)]
 case makeFunc f first cap=>
  have h1:(first.toList.map fun x=>plain1 (rd ρ' (cfg.take fid rid idx) x))=first.toList.map fun x=>plain1 (rd ρ (cfg.take fid rid idx) x):=List.map_congr_left fun x hx=>by rw[hr (by simp at hx⊢;exact .inl hx)]
  have h2:(cap.toList.map fun x=>plain1 (rd ρ' (cfg.take fid rid idx) x))=cap.toList.map fun x=>plain1 (rd ρ (cfg.take fid rid idx) x):=List.map_congr_left fun x hx=>by rw[hr (by simp at hx⊢;exact .inr hx)]
  rw[h1,h2]
 case makeSlice t l c=>rw[hr (x:=l) (by simp),hr (x:=c) (by simp)]
 case slice t x lo hi mx=>
  have ho: ∀y:Option Operand,(∀z,y=some z→z∈(#[x]++lo.toArray++hi.toArray++mx.toArray).toList)→y.map (rd ρ' (cfg.take fid rid idx))=y.map (rd ρ (cfg.take fid rid idx)):=by
   intro y hy
   cases y with
   |none=>rfl
   |some z=>simp only[Option.map_some];rw[hr (hy z rfl)]
  rw[hr (x:=x) (by simp),ho lo (by rintro z rfl;simp),ho hi (by rintro z rfl;simp),ho mx (by rintro z rfl;simp)]
 case nilCheck x=>rw[(h x (by simp)).1]
 case makeInterface t x=>rw[hr (by simp)]
 case typeAssert x u t c=>rw[hr (x:=x) (by simp)]
 all_goals rfl
theorem zbc{c:Call}{b:Builtin}(hc:c.callee= .builtin b):c.operands.toList=c.args.toList:=by simp[Call.operands,hc]
theorem zlj(h:SameOn ρ ρ' o.op.operands.toList)(F:List (Nat×V)→Option R):QU P cfg fid rid idx o ρ' st F=QU P cfg fid rid idx o ρ st F:=by
 have hu:=h.upds (cfg.take fid rid idx) (JK o.op)
 have hr:=fun {x} hx=>h.rd (cfg.take fid rid idx) (x:=x) hx
 unfold QU
 dsimp only
 rw[hu]
 revert h hr
 clear hu
 cases hop:o.op<;>intro h hr<;>simp only[Op.operands]at h hr⊢
 case load t a=>rw[(h a (by simp)).1]
 case lookup t m k c=>
  cases c
  ·dsimp only
   rw[hr (x:=m) (by simp),hr (x:=k) (by simp)]
  ·rfl
 case call c=>
  cases hc:c.callee with
  |builtin b=>
   rw[zbc hc]at hr
   cases b<;>try rfl
   ·simp only
    split
    ·rename_i s x t t' ha ht
     rw[hr (x:=s) (by rw[ha];simp),hr (x:=x) (by rw[ha];simp)]
    ·rfl
   ·simp only
    split
    ·rename_i x t ha ht
     rw[hr (x:=x) (by rw[ha];simp)]
    ·rfl
  |_=>rfl
 all_goals rfl
theorem zjT(h:SameOn ρ ρ' o.op.operands.toList)(F:List (Nat×V)→St→Option R):J0 P cfg fid rid idx o ρ' st F=J0 P cfg fid rid idx o ρ st F:=by
 have hu:=h.upds (cfg.take fid rid idx) (JK o.op)
 have hr:=fun {x} hx=>h.rd (cfg.take fid rid idx) (x:=x) hx
 unfold J0
 dsimp only
 rw[hu]
 revert h hr
 clear hu
 cases hop:o.op<;>intro h hr<;>simp only[Op.operands]at h hr⊢
 case load t a=>rw[(h a (by simp)).1]
 case store t a x=>rw[(h a (by simp)).1,hr (x:=x) (by simp)]
 case box e x=>rw[hr (by simp)]
 case makeSlice t l c=>rw[hr (x:=l) (by simp),hr (x:=c) (by simp)]
 case build t ps=>
  have:(ps.toList.map fun p=>(p.1,rd ρ' (cfg.take fid rid idx) p.2))=ps.toList.map fun p=>(p.1,rd ρ (cfg.take fid rid idx) p.2):=
   List.map_congr_left fun p hp=>by rw[hr (List.mem_map.2 ⟨p,hp,rfl⟩)]
  rw[this]
 case move x=>
  cases x with
  |tmp t=>
   have:=(h (.tmp t) (by simp)).1
   simp only[ev]at this
   dsimp only
   rw[this]
  |_=>rfl
 case makeMap t x=>cases x<;>rfl
 case mapUpdate t m k x=>rw[hr (x:=m) (by simp),hr (x:=k) (by simp),hr (x:=x) (by simp)]
 case range t x=>rw[hr (x:=x) (by simp)]
 case next it z=>
  cases z
  ·rfl
  ·dsimp only
   rw[(h it (by simp)).1]
 case call c=>
  cases hc:c.callee with
  |builtin b=>
   rw[zbc hc]at hr
   cases b<;>try rfl
   ·simp only
    split
    ·rename_i s x t t' ha ht
     rw[hr (x:=s) (by rw[ha];simp),hr (x:=x) (by rw[ha];simp)]
    ·rfl
   ·simp only
    split
    ·rename_i s x t t' ha ht
     rw[hr (x:=s) (by rw[ha];simp),hr (x:=x) (by rw[ha];simp)]
    ·rfl
  |_=>rfl
 all_goals rfl
end
end Go.AM
namespace Go.AM
open Go
section
variable{P:Program}{cfg:Cfg}{O:Oracle}{fid rid idx:Nat}{o:Oper}{ρ ρ':Env}{st:St}{R:Type}{α:Type}
theorem zgt(h:SameOn ρ ρ' o.op.operands.toList)(F:List (Nat×V)→Option R):Jl o ρ' F=Jl o ρ F:=by
 unfold Jl
 revert h
 cases hop:o.op<;>intro h<;>simp only[Op.operands]at h⊢
 rename_i c
 cases hc:c.callee with
 |builtin b=>
  rw[zbc hc]at h
  cases b<;>try rfl
  ·split<;>try rfl
   ·rename_i x y hb ha
    rw[ha]at h
    rw[(h x (by simp)).1,(h y (by simp)).1]
   ·rename_i x y hb ha
    rw[ha]at h
    rw[(h x (by simp)).1,(h y (by simp)).1]
  ·split<;>try rfl
   ·rename_i x y hb ha
    rw[ha]at h
    rw[(h x (by simp)).1,(h y (by simp)).1]
   ·rename_i x y hb ha
    rw[ha]at h
    rw[(h x (by simp)).1,(h y (by simp)).1]
 |_=>rfl
theorem zjU{g:Nat}{c:Call}{e:TypeId}{x:Operand}(h:zbl P g c=some (e,x)):x∈c.args.toList:=by
 unfold zbl at h
 split at h
 ·rename_i y hy
  obtain⟨_,_,h⟩:=Option.map_eq_some_iff.1 h
  simp only[Prod.mk.injEq]at h
  rw[hy,←h.2]
  simp
 ·cases h
theorem zlk{c:Call}{f:Operand}(hc:c.callee= .value f)(h:SameOn ρ ρ' c.operands.toList)(F:List (Nat×V)→St→Option R)(G:V→St→Option R):
  X4 P cfg O fid rid idx o c f ρ' st F G=X4 P cfg O fid rid idx o c f ρ st F G:=by
 have hops:c.operands.toList=f::c.args.toList:=by simp[Call.operands,hc]
 rw[hops]at h
 have hu:=h.upds (cfg.take fid rid idx) (ys:=f::c.args.toList) (fun y hy=>hy)
 have hz:List.zipWith (fun x t=>plainAs P t (rd ρ' (cfg.take fid rid idx) x)) c.args.toList c.argTypes.toList=List.zipWith (fun x t=>plainAs P t (rd ρ (cfg.take fid rid idx) x)) c.args.toList c.argTypes.toList:=by
  have: ∀(xs:List Operand) (ts:List TypeId),(∀x∈xs,x∈f::c.args.toList)→List.zipWith (fun x t=>plainAs P t (rd ρ' (cfg.take fid rid idx) x)) xs ts=List.zipWith (fun x t=>plainAs P t (rd ρ (cfg.take fid rid idx) x)) xs ts:=by
   intro xs
   induction xs with
   |nil=>intro ts _;rfl
   |cons x xs ih=>
    intro ts hx
    cases ts with
    |nil=>rfl
    |cons t ts=>
     simp only[List.zipWith_cons_cons]
     rw[h.rd _ (hx x (List.mem_cons_self ..)),ih ts fun y hy=>hx y (List.mem_cons_of_mem _ hy)]
  exact this _ _ fun x hx=>List.mem_cons_of_mem _ hx
 unfold X4
 dsimp only
 rw[hu,hz]
 congr 1
 split
 ·split
  ·rename_i hg
   rw[h.rd _ (List.mem_cons_of_mem _ (zjU hg))]
  ·rfl
 ·rw[h.rd _ (List.mem_cons_self ..)]
theorem zf6(h:SameOn ρ ρ' o.op.operands.toList):JJ cfg fid rid idx o ρ'=JJ cfg fid rid idx o ρ:=by
 unfold JJ
 revert h
 cases hop:o.op<;>intro h<;>simp only[Op.operands]at h⊢
 case load t a=>rw[(h a (by simp)).1]
 case store t a x=>rw[(h a (by simp)).1,(h x (by simp)).1]
 case move x=>
  cases x with
  |tmp t=>
   have:=(h (.tmp t) (by simp)).1
   simp only[ev]at this
   simp only[this]
  |_=>rfl
 case build t ps=>
  congr 1
  apply propext
  constructor
  ·intro hx
   obtain⟨p,hp,hx⟩:=List.any_eq_true.1 hx
   have e:=(h p.2 (List.mem_map.2 ⟨p,hp,rfl⟩)).1
   exact List.any_eq_true.2 ⟨p,hp,by rw[e]at hx;exact hx⟩
  ·intro hx
   obtain⟨p,hp,hx⟩:=List.any_eq_true.1 hx
   have e:=(h p.2 (List.mem_map.2 ⟨p,hp,rfl⟩)).1
   exact List.any_eq_true.2 ⟨p,hp,by rw[e];exact hx⟩
theorem zht(h:SameOn ρ ρ' o.op.operands.toList)(F:List (Nat×V)→St→Option R)(G:V→St→Option R):Xj P cfg O fid rid idx o ρ' st F G=Xj P cfg O fid rid idx o ρ st F G:=by
 unfold Xj
 split
 ·rename_i x hop
  rw[hop]at h
  simp only[Op.operands]at h
  rw[h.rd false (x:=x) (by simp)]
 ·rename_i f args argTypes hop
  rw[hop]at h
  exact zlk (c:={callee:= .value f,args,argTypes}) rfl h F G
 ·exact zgt h _
 ·exact zgt h _
 ·rw[zf6 h]
  split
  ·exact zli h _
  ·exact zlj h _
  ·exact zjT h _
theorem zhu(h:SameOn ρ ρ' o.op.operands.toList):QX P cfg O fid rid idx o ρ' st=QX P cfg O fid rid idx o ρ st:=zht h _ _
theorem zmK(h:SameOn ρ ρ' o.op.operands.toList):zgs P cfg O fid rid idx o ρ' st=zgs P cfg O fid rid idx o ρ st:=zht h _ _
theorem zo5(h:SameOn ρ ρ' o.op.operands.toList):zew cfg fid rid idx o ρ'=zew cfg fid rid idx o ρ:=by
 unfold zew
 split
 ·split
  ·rfl
  ·exact zf6 h
 ·exact zf6 h
theorem zo6(hk:zew cfg fid rid idx o ρ= .none): ∃y,∀st,QX P cfg O fid rid idx o ρ st=Za y fun us=>some (us,st):=by
 unfold QX Xj
 split
 ·rename_i x hop
  refine⟨none,fun st=> ?_⟩
  split<;>rfl
 ·rename_i f args argTypes hop
  simp only[zew,hop]at hk
  cases f with
  |func g=>
   simp only at hk
   split at hk
   ·rename_i hp
    refine⟨X4 P cfg O fid rid idx o {callee:= .value (.func g),args,argTypes} (.func g) ρ [] (fun us _=>some us) (fun _ _=>none),fun st=> ?_⟩
    unfold X4
    dsimp only
    rw[hp]
    cases zbl P g {callee:= .value (.func g),args,argTypes}with
    |some p=>simp only[Yb,Zm,zec]
    |none=>
    simp only[zat,Zm,zaH,JV,zbb,zec]
    cases isExtern P g<;>simp only[bc,Zm,zaH,JV,zbb,zec]
   ·cases hk
  |_=>simp only[JJ,hop]at hk;cases hk
 ·refine⟨Jl o ρ some,fun st=> ?_⟩
  rw[Ql];rfl
 ·refine⟨Jl o ρ some,fun st=> ?_⟩
  rw[Ql];rfl
 ·rename_i h1 h2 h3 h4
  have hs:JJ cfg fid rid idx o ρ= .none:=by
   unfold zew at hk
   split at hk
   ·rename_i c hop
    split at hk
    ·rename_i g hc
     exfalso
     cases c with
     |mk callee args argTypes=>
      simp only at hc
      subst hc
      exact h2 _ _ _ hop
    ·exact hk
   ·exact hk
  rw[hs]
  refine⟨Q9 P cfg fid rid idx o ρ some,fun st=> ?_⟩
  rw[zeJ];rfl
theorem zo7(hk:zew cfg fid rid idx o ρ= .read)(st:St): ∃y,QX P cfg O fid rid idx o ρ st=Za y fun us=>some (us,st):=by
 unfold QX Xj
 split
 ·refine⟨none, ?_⟩
  split<;>rfl
 ·rename_i f args argTypes hop
  exfalso
  simp only[zew,hop]at hk
  cases f with
  |func g=>simp only at hk;split at hk<;>cases hk
  |_=>simp only[JJ,hop]at hk;cases hk
 ·refine⟨Jl o ρ some, ?_⟩
  rw[Ql];rfl
 ·refine⟨Jl o ρ some, ?_⟩
  rw[Ql];rfl
 ·rename_i h1 h2 h3 h4
  have hs:JJ cfg fid rid idx o ρ= .read:=by
   unfold zew at hk
   split at hk
   ·rename_i c hop
    split at hk
    ·rename_i g hc
     exfalso
     cases c with
     |mk callee args argTypes=>
      simp only at hc
      subst hc
      exact h2 _ _ _ hop
    ·exact hk
   ·exact hk
  rw[hs]
  refine⟨QU P cfg fid rid idx o ρ st some, ?_⟩
  rw[zbQ];rfl
end
end Go.AM
namespace Go.AM
open Go Go.RowKit
section
variable{P:Program}{cfg:Cfg}{O:Oracle}{fid rid:Nat}{all:List Oper}{ρ ρ' ρ1 ρe:Env}{st st' st1 st2 ste:St}{us us1 us2:List (Nat×V)}{R:Type}{r:R}
def EqE(ρ ρ':Env):Prop:= ∀t,ρ'.get t=ρ.get t
theorem EqE.refl(ρ:Env):EqE ρ ρ:=fun _=>rfl
theorem EqE.symm(h:EqE ρ ρ'):EqE ρ' ρ:=fun t=>(h t).symm
theorem EqE.trans(h:EqE ρ ρ')(k:EqE ρ' ρ1):EqE ρ ρ1:=fun t=>(k t).trans (h t)
theorem Z9: ∀(us:List (Nat×V)) (ρ:Env) {t:Nat},t∉us.map (·.1)→(ρ.apply us).get t=ρ.get t
 |[],ρ,t,_=>rfl
 |(k,v)::us,ρ,t,h=>by
  simp only[List.map_cons,List.mem_cons,not_or]at h
  simp only[Env.apply]
  rw[Z9 us _ h.2,Zo,if_neg h.1]
theorem JW: ∀(us:List (Nat×V)) (ρ ρ':Env) {t:Nat},t∈us.map (·.1)→(ρ.apply us).get t=(ρ'.apply us).get t
 |(k,v)::us,ρ,ρ',t,h=>by
  simp only[Env.apply]
  by_cases hm:t∈us.map (·.1)
  ·exact JW us _ _ hm
  ·have e:t=k:=by simpa[hm]using h
   rw[Z9 us _ hm,Z9 us _ hm,Zo,Zo,if_pos e,if_pos e]
theorem EqE.apply(h:EqE ρ ρ')(us:List (Nat×V)):EqE (ρ.apply us) (ρ'.apply us):=fun t=>by
 by_cases hm:t∈us.map (·.1)
 ·exact JW us _ _ hm
 ·rw[Z9 us _ hm,Z9 us _ hm];exact h t
inductive GKind(ρ:Env)(all:List Oper)(o:Oper):List Nat→Bool→Prop where
 |plain (h:o.guard=none):GKind ρ all o [] true
 |run (g:Nat) (want:Bool) (t:Nat) (h:o.guard=some (g,want)) (ht:(all[g]?).bind (·.dst)=some t) (hv:ρ.get t= .bool want):GKind ρ all o [t] true
 |skip (g:Nat) (want:Bool) (t:Nat) (b:Bool) (h:o.guard=some (g,want)) (ht:(all[g]?).bind (·.dst)=some t) (hv:ρ.get t= .bool b) (hb:b≠want):GKind ρ all o [t] false
 |none (g:Nat) (want:Bool) (t:Nat) (h:o.guard=some (g,want)) (ht:(all[g]?).bind (·.dst)=some t) (hv:ρ.get t= .tup []):GKind ρ all o [t] false
theorem Kind.g{o:Oper}{g:List Nat}{b:Bool}(h:Kind ρ all o ρ1 g b):GKind ρ all o g b:=by
 cases h with
 |plain h=>exact .plain h
 |run g want t h ht hv=>exact .run g want t h ht hv
 |skip g want t b h ht hv hb=>exact .skip g want t b h ht hv hb
 |none g want t h ht hv=>exact .none g want t h ht hv
theorem GKind.congr{o:Oper}{g:List Nat}{b:Bool}(h:GKind ρ all o g b)(he: ∀t∈g,ρ'.get t=ρ.get t):GKind ρ' all o g b:=by
 cases h with
 |plain h=>exact .plain h
 |run g want t h ht hv=>exact .run g want t h ht (by rw[he t (by simp),hv])
 |skip g want t b h ht hv hb=>exact .skip g want t b h ht (by rw[he t (by simp),hv]) hb
 |none g want t h ht hv=>exact .none g want t h ht (by rw[he t (by simp),hv])
def StpD(P:Program)(cfg:Cfg)(O:Oracle)(fid rid:Nat)(all:List Oper)(i:Nat)(ρ:Env)(st:St)(us:List (Nat×V))(st2:St)(ft:Foot):Prop:=
 ∃o g b,all[i]? =some o∧GKind ρ all o g b∧freshDst ρ o.dst=true∧
  ((b=true∧QX P cfg O fid rid i o ρ st=some (us,st2)∧ft=Z8 cfg fid rid i o g ρ (us.map (·.1)))∨
   (b=false∧us=ZC o.dst (.tup [])∧st2=st∧ft={idx:=i,reads:=g,writes:=o.dst.toList,sk:= .none}))
theorem StpD.idx{i:Nat}{ft:Foot}(h:StpD P cfg O fid rid all i ρ st us st2 ft):ft.idx=i:=by
 obtain⟨o,g,b,_,_,_,⟨_,_,rfl⟩|⟨_,_,_,rfl⟩⟩:=h<;>rfl
theorem StpD.writes{i:Nat}{ft:Foot}(h:StpD P cfg O fid rid all i ρ st us st2 ft): ∀t∈us.map (·.1),t∈ft.writes:=by
 obtain⟨o,g,b,_,_,_,⟨_,_,rfl⟩|⟨_,rfl,_,rfl⟩⟩:=h
 ·intro t ht;simp only[Z8,List.mem_append];exact .inr ht
 ·intro t ht
  cases hd:o.dst with
  |none=>rw[hd]at ht;simp[ZC]at ht
  |some d=>rw[hd]at ht;simpa[ZC]using ht
theorem zf7{xs:List Operand}(h: ∀t∈tmpsOf xs,ρ'.get t=ρ.get t)(hb: ∀t∈zge ρ xs,ρ'.get t=ρ.get t):SameOn ρ ρ' xs:=by
 intro x hx
 refine⟨?_,fun b off he=>hb b ?_⟩
 ·cases x with
  |tmp t=>exact h t (List.mem_filterMap.2 ⟨_,hx,rfl⟩)
  |_=>rfl
 ·exact List.mem_filterMap.2 ⟨x,hx,by rw[he]⟩
theorem zmL{xs:List Operand}(h:SameOn ρ ρ' xs):zge ρ' xs=zge ρ xs:=by
 unfold zge
 induction xs with
 |nil=>rfl
 |cons x xs ih=>
  simp only[List.filterMap_cons]
  rw[(h x (by simp)).1,ih fun y hy=>h y (by simp[hy])]
theorem zo8{o:Oper}{g ws:List Nat}(h:SameOn ρ ρ' o.op.operands.toList):zig o g ρ' ws=zig o g ρ ws:=by
 unfold zig
 cases hop:o.op with
 |load t a=>
  cases a with
  |tmp x=>
   have:=(h (.tmp x) (by simp[hop,Op.operands])).1
   simp only[ev]at this
   cases g<;>cases o.dst<;>simp only[this]
  |_=>cases g<;>cases o.dst<;>rfl
 |_=>cases g<;>cases o.dst<;>rfl
theorem zo9{o:Oper}{g:List Nat}(h:SameOn ρ ρ' o.op.operands.toList):zgY o g ρ'=zgY o g ρ:=by
 unfold zgY
 cases hop:o.op with
 |fieldAddr s a f=>
  cases a with
  |tmp x=>
   have:=(h (.tmp x) (by simp[hop,Op.operands])).1
   simp only[ev]at this
   cases g<;>cases o.dst<;>simp only[this]
  |_=>cases g<;>cases o.dst<;>rfl
 |_=>cases g<;>cases o.dst<;>rfl
theorem zf8{i:Nat}{o:Oper}{g ws:List Nat}(h:SameOn ρ ρ' o.op.operands.toList):Z8 cfg fid rid i o g ρ' ws=Z8 cfg fid rid i o g ρ ws:=by
 unfold Z8
 unfold skF
 rw[zmL h,zo5 h,zo8 h,zo9 h]
theorem zbR{o:Oper}(h: ∀d,o.dst=some d→ρ'.get d=ρ.get d):freshDst ρ' o.dst=freshDst ρ o.dst:=by
 unfold freshDst
 cases hd:o.dst with
 |none=>rfl
 |some d=>simp only;rw[h d hd]
theorem StpD.frame{i:Nat}{ft:Foot}(h:StpD P cfg O fid rid all i ρ st us st2 ft)(he: ∀t,t∈ft.reads∨t∈ft.writes→ρ'.get t=ρ.get t):
  StpD P cfg O fid rid all i ρ' st us st2 ft:=by
 obtain⟨o,g,b,ho,hg,hf,⟨hb,hs,rfl⟩|⟨hb,hu,hst,rfl⟩⟩:=h
 ·have hsame:SameOn ρ ρ' o.op.operands.toList:=zf7 (fun t ht=>he t (.inl (by simp[Z8,ht]))) fun t ht=>he t (.inl (by simp[Z8,ht]))
  refine⟨o,g,b,ho,hg.congr fun t ht=>he t (.inl (by simp[Z8,ht])), ?_, .inl ⟨hb,by rw[zhu hsame];exact hs,(zf8 hsame).symm⟩⟩
  rw[zbR fun d hd=>he d (.inr (by simp[Z8,hd]))];exact hf
 ·refine⟨o,g,b,ho,hg.congr fun t ht=>he t (.inl ht), ?_, .inr ⟨hb,hu,hst,rfl⟩⟩
  rw[zbR fun d hd=>he d (.inr (by simp[hd]))];exact hf
theorem StpD.congr{i:Nat}{ft:Foot}(h:StpD P cfg O fid rid all i ρ st us st2 ft)(he:EqE ρ ρ'):StpD P cfg O fid rid all i ρ' st us st2 ft:=h.frame fun t _=>he t
theorem zpR{i:Nat}{o:Oper}(hl:zaC o=true): ∃y,∀st,QX P cfg O fid rid i o ρ st=Za y fun us=>some (us,st):=by
 unfold zaC at hl
 cases hop:o.op with
 |call c=>
  rw[hop]at hl
  simp only at hl
  obtain⟨callee,args,tys⟩:=c
  cases callee with
  |builtin b=>
   cases b with
   |len=>
    have hsk:JJ cfg fid rid i o ρ= .read:=by simp only[JJ,hop]
    refine⟨QU P cfg fid rid i o ρ [] some,fun st=> ?_⟩
    have e: ∀F:List (Nat×V)→Option (List (Nat×V)×St),QU P cfg fid rid i o ρ st F=QU P cfg fid rid i o ρ [] F:=fun F=>by
     unfold QU
     simp only[hop]
    unfold QX Xj
    simp only[hop,hsk]
    rw[zbQ]
    exact e _
   |_=>simp at hl
  |_=>simp at hl
 |_=>rw[hop]at hl;simp at hl
theorem StpD.pure{i:Nat}{ft:Foot}(h:StpD P cfg O fid rid all i ρ st us st2 ft)(hk:ft.sk= .none):st2=st∧ ∀st',StpD P cfg O fid rid all i ρ st' us st' ft:=by
 obtain⟨o,g,b,ho,hg,hf,⟨hb,hs,rfl⟩|⟨hb,hu,hst,rfl⟩⟩:=h
 ·have hkk:skF cfg fid rid i o ρ= .none:=hk
  obtain⟨y,hy⟩: ∃y,∀st,QX P cfg O fid rid i o ρ st=Za y fun us=>some (us,st):=by
   unfold skF at hkk
   cases hl:zaC o with
   |true=>exact zpR hl
   |false=>rw[hl]at hkk;exact zo6 (P:=P) (O:=O) hkk
  rw[hy]at hs
  obtain⟨us',rfl,hs⟩:=Yt hs
  cases hs
  exact⟨rfl,fun st'=>⟨o,g,b,ho,hg,hf, .inl ⟨hb,by rw[hy];rfl,rfl⟩⟩⟩
 ·exact⟨hst,fun st'=>⟨o,g,b,ho,hg,hf, .inr ⟨hb,hu,rfl,rfl⟩⟩⟩
theorem StpD.reads{i:Nat}{ft:Foot}(h:StpD P cfg O fid rid all i ρ st us st2 ft)(hk:ft.sk≠ .write):st2=st:=by
 cases hs:ft.sk with
 |none=>exact(h.pure hs).1
 |write=>exact absurd hs hk
 |read=>
  obtain⟨o,g,b,ho,hg,hf,⟨hb,hst,rfl⟩|⟨hb,hu,hst,rfl⟩⟩:=h
  ·have hkk:skF cfg fid rid i o ρ= .read:=hs
   have hk2:zew cfg fid rid i o ρ= .read:=by
    unfold skF at hkk
    cases hl:zaC o with
    |true=>rw[hl]at hkk;cases hkk
    |false=>rw[hl]at hkk;exact hkk
   obtain⟨y,hy⟩:=zo7 (P:=P) (O:=O) hk2 st
   rw[hy]at hst
   obtain⟨us',rfl,hst⟩:=Yt hst
   cases hst;rfl
  ·exact hst
theorem zds{a b:List Nat}(h:zrH a b=true): ∀t∈a,t∉b:=by
 intro t ht
 have:=List.all_eq_true.1 h t ht
 simpa using this
theorem zs9{i j:Nat}{fi fj:Foot}(h1:StpD P cfg O fid rid all i ρ st us1 st1 fi)(h2:StpD P cfg O fid rid all j (ρ.apply us1) st1 us2 st2 fj)(hc:Xs fi fj=true):
  ∃stm,StpD P cfg O fid rid all j ρ st us2 stm fj∧StpD P cfg O fid rid all i (ρ.apply us2) stm us1 st2 fi∧EqE ((ρ.apply us1).apply us2) ((ρ.apply us2).apply us1):=by
 simp only[Xs,Bool.and_eq_true]at hc
 obtain⟨⟨d1,d2⟩,d3⟩:=hc
 have d1:=zds d1
 have d2:=zds d2
 have hj: ∀t,t∈fj.reads∨t∈fj.writes→ρ.get t=(ρ.apply us1).get t:=fun t ht=>
  (Z9 us1 ρ fun hm=>d1 t (h1.writes t hm) (by rcases ht with h|h<;>simp[h])).symm
 have hi: ∀t,t∈fi.reads∨t∈fi.writes→(ρ.apply us2).get t=ρ.get t:=fun t ht=>
  Z9 us2 ρ fun hm=>by
   have hw:=h2.writes t hm
   rcases ht with h|h
   ·exact d2 t hw h
   ·exact d1 t h (by simp[hw])
 have hE:EqE ((ρ.apply us1).apply us2) ((ρ.apply us2).apply us1):=fun t=>by
  by_cases m1:t∈us1.map (·.1)
  ·have m2:t∉us2.map (·.1):=fun hm=>d1 t (h1.writes t m1) (by simp[h2.writes t hm])
   rw[Z9 us2 _ m2]
   exact JW us1 _ _ m1
  ·rw[Z9 us1 _ m1]
   by_cases m2:t∈us2.map (·.1)
   ·exact JW us2 _ _ m2
   ·rw[Z9 us2 _ m2,Z9 us2 _ m2,Z9 us1 _ m1]
 have h2':=h2.frame hj
 cases hki:fi.sk with
 |none=>
  obtain⟨rfl,ha⟩:=h1.pure hki
  exact⟨st2,h2',(ha st2).frame hi,hE⟩
 |read=>
  rw[hki]at d3
  have e1:=h1.reads (by rw[hki];simp)
  subst e1
  have e2:st2=st1:=by
   cases hkj:fj.sk with
   |none=>exact(h2.pure hkj).1
   |read=>exact h2.reads (by rw[hkj];simp)
   |write=>rw[hkj]at d3;cases d3
  subst e2
  exact⟨_,h2',h1.frame hi,hE⟩
 |write=>
  rw[hki]at d3
  have hkj:fj.sk= .none:=by
   cases hkj:fj.sk with
   |none=>rfl
   |read=>rw[hkj]at d3;cases d3
   |write=>rw[hkj]at d3;cases d3
  obtain⟨rfl,ha⟩:=h2'.pure hkj
  exact⟨st,ha st,h1.frame hi,hE⟩
theorem zbt{a b:Nat}(h:(!Nat.beq a b)=true):a≠b:=fun e=>by
 subst e;simp at h
theorem zoA{o:Oper}{g ws:List Nat}{v off d x:Nat}(h:zig o g ρ ws=some (v,off,d,x)):g=[]∧(∃t,o.op= .load t (.tmp x))∧o.dst=some d∧ρ.get x= .lptr v off∧v∈ws:=by
 unfold zig at h
 split at h
 ·rename_i t y d' h1 h2
  split at h
  ·rename_i v' off' hx
   rw[Bool.cond_eq_ite]at h
   split at h
   ·rename_i hw
    cases h
    obtain⟨z,hz,he⟩:=List.any_eq_true.1 hw
    have:=Nat.eq_of_beq_eq_true he
    subst this
    exact⟨rfl,⟨_,h1⟩,h2,hx,hz⟩
   ·cases h
  ·cases h
 ·cases h
structure MvAt(P:Program)(cfg:Cfg)(fid rid:Nat)(all:List Oper)(i:Nat)(ρ:Env)(v off d x:Nat)(o:Oper)(t:TypeId)(sh:Sh)(cs:List V):Prop where
 ho:all[i]? =some o
 hg:o.guard=none
 hop:o.op= .load t (.tmp x)
 hd:o.dst=some d
 hx:ρ.get x= .lptr v off
 hv: ∃dd,ρ.get v= .loc dd sh (.agg cs)
 hfr:freshDst ρ o.dst=true
 hl:off+(shOf P t).sz≤cs.length
 hty:okTy P t=true
 hsh:shOf P t=none
 htk:cfg.take fid rid i=true
 hgr:isGrow (cs.getD off .undef)=true
def Jr(v off d:Nat)(sh:Sh)(cs:List V):List (Nat×V):=[(v, .loc true sh (.agg (cs.set off (plain1 (cs.getD off .undef))))),(d,cs.getD off .undef)]
theorem MvAt.step{v off d x:Nat}{o:Oper}{t:TypeId}{sh:Sh}{cs:List V}{i:Nat}(h:MvAt P cfg fid rid all i ρ v off d x o t sh cs)(st:St):
  StpD P cfg O fid rid all i ρ st (Jr v off d sh cs) st (Z8 cfg fid rid i o [] ρ [v,d]):=by
 refine⟨o,[],true,h.ho, .plain h.hg,h.hfr, .inl ⟨rfl, ?_,rfl⟩⟩
 obtain⟨dd,hv⟩:=h.hv
 have hsk:JJ cfg fid rid i o ρ= .none:=by simp only[JJ,h.hop,ev,h.hx]
 have hl:=h.hl
 have hp:partOf cs off (shOf P t)=cs.getD off .undef:=by rw[h.hsh];rfl
 unfold QX Xj
 simp only[h.hop,hsk]
 unfold Q9
 simp only[h.hop,ev,h.hx,hv,h.hd,h.htk]
 rw[hp]
 have e1:(decide (off+(shOf P t).sz≤cs.length)&&okTy P t)=true:=by simp[hl,h.hty]
 have e2:(true&&isGrow (cs.getD off .undef)&&(shOf P t).isNone)=true:=by rw[h.hgr,h.hsh];rfl
 rw[e1,e2]
 rfl
theorem zjV{v off x i:Nat}{o:Oper}{t:TypeId}(hop:o.op= .load t (.tmp x))(h1:ρ.get x= .lptr v off)(h2:ρ'.get x= .lptr v off)(g ws:List Nat):Z8 cfg fid rid i o g ρ' ws=Z8 cfg fid rid i o g ρ ws:=by
 cases g<;>cases hd:o.dst<;>simp only[Z8,hop,hd,Op.operands,skF,zaC,cond_false,zew,JJ,ev,zge,zig,zgY,List.filterMap_cons,List.filterMap_nil,h1,h2]
theorem StpD.mvInv{i:Nat}{ft:Foot}(h:StpD P cfg O fid rid all i ρ st us st2 ft){v off d x:Nat}(hm:ft.mv=some (v,off,d,x))(hne:d≠v):
  ∃o t sh cs,MvAt P cfg fid rid all i ρ v off d x o t sh cs∧us=Jr v off d sh cs∧st2=st∧ft=Z8 cfg fid rid i o [] ρ [v,d]:=by
 obtain⟨o,g,b,ho,hg,hf,⟨hb,hs,rfl⟩|⟨hb,hu,hst,rfl⟩⟩:=h
 ·obtain⟨rfl,⟨t,hop⟩,hd,hx,hw⟩:=zoA (show zig o g ρ (us.map (·.1))=_ from hm)
  have hgu:o.guard=none:=by cases hg with|plain h=>exact h
  have hsk:JJ cfg fid rid i o ρ= .none:=by simp only[JJ,hop,ev,hx]
  unfold QX Xj at hs
  simp only[hop,hsk]at hs
  unfold Q9 at hs
  simp only[hop,ev,hx,hd]at hs
  have hup:upds ρ (cfg.take fid rid i) (Zw (.load t (.tmp x)))=[]:=rfl
  split at hs
  ·rename_i dd sh cs hv
   obtain⟨hc,hs⟩:=Ze hs
   simp only[Bool.and_eq_true,decide_eq_true_eq]at hc
   rcases Ya hs with⟨hb2,hs⟩|⟨_,hs⟩
   ·simp only[Bool.and_eq_true,Option.isNone_iff_eq_none]at hb2
    obtain⟨⟨htk,hgr⟩,hsh⟩:=hb2
    have hp:partOf cs off (shOf P t)=cs.getD off .undef:=by rw[hsh];rfl
    rw[hp]at hgr hs
    cases hs
    exact⟨o,t,sh,cs,⟨ho,hgu,hop,hd,hx,⟨dd,hv⟩,hf,hc.1,hc.2,hsh,htk,hgr⟩,rfl,rfl,rfl⟩
   ·have hs:=ze0 hs
    cases hs
    rw[hup]at hw
    simp[ZC]at hw
    exact absurd hw.symm hne
  ·obtain⟨hc,hs⟩:=Ze hs
   cases hs
   rw[hup]at hw
   simp[ZC]at hw
   exact absurd hw.symm hne
  ·cases hs
 ·cases hm
theorem zdE{v d1 d2 t:Nat}{x1 x2 a b:V}(h1:d1≠v)(h2:d2≠v)(h3:d1≠d2):((ρ.apply [(v,a),(d1,x1)]).apply [(v,b),(d2,x2)]).get t=if t=v then b else if t=d1 then x1 else if t=d2 then x2 else ρ.get t:=by
 simp only[Env.apply,Zo]
 by_cases e1:t=v
 ·subst e1;simp[h1.symm,h2.symm]
 ·by_cases e2:t=d1
  ·subst e2;simp[e1,h3]
  ·by_cases e3:t=d2
   ·subst e3;simp[e1,e2]
   ·simp[e1,e2,e3]
theorem zrM{i j:Nat}{fi fj:Foot}{v o1 d1 x1 o2 d2 x2:Nat}(h1:StpD P cfg O fid rid all i ρ st us1 st1 fi)(h2:StpD P cfg O fid rid all j (ρ.apply us1) st1 us2 st2 fj)
  (m1:fi.mv=some (v,o1,d1,x1)) (m2:fj.mv=some (v,o2,d2,x2)) (ho:o1≠o2) (e1:d1≠d2) (e2:d1≠v) (e3:d2≠v) (e4:d1≠x2) (e5:d2≠x1) (e6:x1≠v) (e7:x2≠v):
  ∃stm us1' us2',StpD P cfg O fid rid all j ρ st us2' stm fj∧StpD P cfg O fid rid all i (ρ.apply us2') stm us1' st2 fi∧EqE ((ρ.apply us1).apply us2) ((ρ.apply us2').apply us1'):=by
 obtain⟨oi,ti,sh,cs,hi,rfl,rfl,rfl⟩:=h1.mvInv m1 e2
 obtain⟨oj,tj,sh',cs',hj,rfl,rfl,rfl⟩:=h2.mvInv m2 e3
 obtain⟨dd,hv⟩:=hi.hv
 obtain⟨dd',hv'⟩:=hj.hv
 have hvv:(ρ.apply (Jr v o1 d1 sh cs)).get v= .loc true sh (.agg (cs.set o1 (plain1 (cs.getD o1 .undef)))):=by
  simp only[Jr,Env.apply,Zo];simp[e2.symm]
 rw[hvv]at hv'
 cases hv'
 have hxj:ρ.get x2= .lptr v o2:=by
  have:=hj.hx
  simp only[Jr,Env.apply,Zo]at this
  rwa [if_neg e4.symm,if_neg e7]at this
 have hfrj:freshDst ρ oj.dst=true:=by
  have:=hj.hfr
  rw[hj.hd]at this⊢
  unfold freshDst at this⊢
  simp only[Jr,Env.apply,Zo]at this
  rwa [if_neg e1.symm,if_neg e3]at this
 have hg2:(cs.set o1 (plain1 (cs.getD o1 .undef))).getD o2 .undef=cs.getD o2 .undef:=by
  simp[List.getD_eq_getElem?_getD,List.getElem?_set_ne ho]
 have hj':MvAt P cfg fid rid all j ρ v o2 d2 x2 oj tj sh cs:=⟨hj.ho,hj.hg,hj.hop,hj.hd,hxj,⟨dd,hv⟩,hfrj,by simpa using hj.hl,hj.hty,hj.hsh,hj.htk,by rw[←hg2];exact hj.hgr⟩
 have hxi:(ρ.apply (Jr v o2 d2 sh cs)).get x1= .lptr v o1:=by
  simp only[Jr,Env.apply,Zo]
  rw[if_neg e5.symm,if_neg e6];exact hi.hx
 have hg1:(cs.set o2 (plain1 (cs.getD o2 .undef))).getD o1 .undef=cs.getD o1 .undef:=by
  simp[List.getD_eq_getElem?_getD,List.getElem?_set_ne (fun e=>ho e.symm)]
 have hi':MvAt P cfg fid rid all i (ρ.apply (Jr v o2 d2 sh cs)) v o1 d1 x1 oi ti sh (cs.set o2 (plain1 (cs.getD o2 .undef))):=by
  refine⟨hi.ho,hi.hg,hi.hop,hi.hd,hxi,⟨true, ?_⟩, ?_,by simpa using hi.hl,hi.hty,hi.hsh,hi.htk,by rw[hg1];exact hi.hgr⟩
  ·simp only[Jr,Env.apply,Zo];simp[e3.symm]
  ·have:=hi.hfr
   rw[hi.hd]at this⊢
   unfold freshDst at this⊢
   simp only[Jr,Env.apply,Zo]
   rwa [if_neg e1,if_neg e2]
 refine⟨st2,Jr v o1 d1 sh (cs.set o2 (plain1 (cs.getD o2 .undef))),Jr v o2 d2 sh cs, ?_, ?_,fun t=> ?_⟩
 ·have:=hj'.step (O:=O) st2
  rwa [←zjV hj.hop hxj hj.hx]at this
 ·have:=hi'.step (O:=O) st2
  rwa [zjV hi.hop hi.hx hxi]at this
 ·simp only[Jr]
  rw[zdE e3 e2 e1.symm,zdE e2 e3 e1,hg1,hg2]
  by_cases z1:t=v
  ·simp[z1,List.set_comm _ _ ho]
  ·by_cases z2:t=d1
   ·subst z2;simp[z1,e1]
   ·simp[z1,z2]
theorem ziR{o:Oper}{g:List Nat}{v d x:Nat}(h:zgY o g ρ=some (v,d,x)):g=[]∧(∃s f,o.op= .fieldAddr s (.tmp x) f)∧o.dst=some d∧((x=v∧ ∃a b c,ρ.get v= .loc a b c)∨ ∃off,ρ.get x= .lptr v off):=by
 unfold zgY at h
 split at h
 ·rename_i s y f d' h1 h2
  split at h
  ·rename_i a b c hx
   cases h
   exact⟨rfl,⟨_,_,h1⟩,h2, .inl ⟨rfl,_,_,_,hx⟩⟩
  ·rename_i v' off' hx
   cases h
   exact⟨rfl,⟨_,_,h1⟩,h2, .inr ⟨_,hx⟩⟩
  ·cases h
 ·cases h
theorem StpD.faMove{i:Nat}{ft:Foot}(h:StpD P cfg O fid rid all i ρ st us st2 ft){v d x:Nat}(hm:ft.fa=some (v,d,x))(hl: ∃a b c,ρ.get v= .loc a b c)(hl': ∃a b c,ρ'.get v= .loc a b c)(hx:x≠v→ρ'.get x=ρ.get x)(hd:ρ'.get d=ρ.get d)(hdv:d≠v):
  (∃y,us=[(d,y)])∧st2=st∧ ∀st',StpD P cfg O fid rid all i ρ' st' us st' ft:=by
 obtain⟨o,g,b,ho,hg,hf,⟨hb,hs,rfl⟩|⟨hb,hu,hst,rfl⟩⟩:=h
 ·obtain⟨rfl,⟨s,f,hop⟩,hdst,hcase⟩:=ziR (show zgY o g ρ=_ from hm)
  have hgu:o.guard=none:=by cases hg with|plain h=>exact h
  have hsk: ∀ρ:Env,JJ cfg fid rid i o ρ= .none:=fun ρ=>by simp only[JJ,hop]
  have hfr:freshDst ρ' o.dst=true:=by
   rw[hdst]at hf⊢
   unfold freshDst at hf⊢
   simp only at hf⊢
   rwa [hd]
  have fin: ∀st',QX P cfg O fid rid i o ρ' st'=some (us,st')∧(∃y,us=[(d,y)])∧st2=st∧Z8 cfg fid rid i o [] ρ' (us.map (·.1))=Z8 cfg fid rid i o [] ρ (us.map (·.1)):=by
   intro st'
   unfold QX Xj at hs⊢
   simp only[hop,hsk]at hs⊢
   unfold Q9 at hs⊢
   simp only[hop,ev,hdst]at hs⊢
   have hup: ∀ρ:Env,upds ρ (cfg.take fid rid i) (Zw (.fieldAddr s (.tmp x) f))=[]:=fun _=>rfl
   rw[hup]at hs⊢
   cases hfo:XN P s f with
   |none=>rw[hfo]at hs;cases hs
   |some p=>
    obtain⟨off,ft⟩:=p
    rw[hfo]at hs
    simp only at hs⊢
    obtain⟨hc,hs⟩:=Ze hs
    rw[hc]
    rcases hcase with⟨rfl,a,b,c,hxl⟩|⟨off',hxl⟩
    ·obtain⟨a',b',c',hl'⟩:=hl'
     rw[hxl]at hs
     rw[hl']
     simp only at hs⊢
     obtain⟨hc2,hs⟩:=Ze hs
     rw[hc2]
     cases hs
     refine⟨rfl,⟨_,rfl⟩,rfl, ?_⟩
     simp only[Z8,hop,hdst,Op.operands,skF,zaC,cond_false,zew,JJ,ev,zge,zig,zgY,List.filterMap_cons,List.filterMap_nil,hxl,hl']
    ·have hxv:x≠v:=fun e=>by
      subst e
      obtain⟨a,b,c,hl⟩:=hl
      rw[hl]at hxl;cases hxl
     rw[hxl]at hs
     rw[hx hxv,hxl]
     simp only at hs⊢
     obtain⟨hc2,hs⟩:=Ze hs
     rw[hc2]
     cases hs
     refine⟨rfl,⟨_,rfl⟩,rfl, ?_⟩
     simp only[Z8,hop,hdst,Op.operands,skF,zaC,cond_false,zew,JJ,ev,zge,zig,zgY,List.filterMap_cons,List.filterMap_nil,hx hxv,hxl]
  obtain⟨_,hy,hst,_⟩:=fin st
  exact⟨hy,hst,fun st'=>⟨o,[],true,ho, .plain hgu,hfr, .inl ⟨rfl,(fin st').1,(fin st').2.2.2.symm⟩⟩⟩
 ·cases hm
theorem zrN{i j:Nat}{fi fj:Foot}{v o1 d1 x1 d2 x2:Nat}(h1:StpD P cfg O fid rid all i ρ st us1 st1 fi)(h2:StpD P cfg O fid rid all j (ρ.apply us1) st1 us2 st2 fj)
  (m1:fi.mv=some (v,o1,d1,x1)) (m2:fj.fa=some (v,d2,x2)) (e1:d1≠d2) (e2:d1≠v) (e3:d2≠v) (e4:d1≠x2) (e5:d2≠x1) (e6:x1≠v):
  ∃stm us1' us2',StpD P cfg O fid rid all j ρ st us2' stm fj∧StpD P cfg O fid rid all i (ρ.apply us2') stm us1' st2 fi∧EqE ((ρ.apply us1).apply us2) ((ρ.apply us2').apply us1'):=by
 obtain⟨oi,ti,sh,cs,hi,rfl,rfl,rfl⟩:=h1.mvInv m1 e2
 obtain⟨dd,hv⟩:=hi.hv
 have hvv:(ρ.apply (Jr v o1 d1 sh cs)).get v= .loc true sh (.agg (cs.set o1 (plain1 (cs.getD o1 .undef)))):=by
  simp only[Jr,Env.apply,Zo];simp[e2.symm]
 obtain⟨⟨y,rfl⟩,rfl,hmove⟩:=h2.faMove (ρ':=ρ) m2 ⟨_,_,_,hvv⟩ ⟨_,_,_,hv⟩ (fun hx=>by simp only[Jr,Env.apply,Zo];rw[if_neg e4.symm,if_neg hx]) (by simp only[Jr,Env.apply,Zo];rw[if_neg e1.symm,if_neg e3]) e3
 have hi':MvAt P cfg fid rid all i (ρ.apply [(d2,y)]) v o1 d1 x1 oi ti sh cs:=by
  have g: ∀t,t≠d2→(ρ.apply [(d2,y)]).get t=ρ.get t:=fun t ht=>by simp only[Env.apply,Zo];rw[if_neg ht]
  refine⟨hi.ho,hi.hg,hi.hop,hi.hd,by rw[g _ e5.symm];exact hi.hx,⟨dd,by rw[g _ e3.symm];exact hv⟩, ?_,hi.hl,hi.hty,hi.hsh,hi.htk,hi.hgr⟩
  have:=hi.hfr
  rw[hi.hd]at this⊢
  unfold freshDst at this⊢
  simp only at this⊢
  rwa [g _ e1]
 refine⟨st2,Jr v o1 d1 sh cs,[(d2,y)],hmove st2, ?_,fun t=> ?_⟩
 ·have:=hi'.step (O:=O) st2
  rwa [zjV hi.hop hi.hx hi'.hx]at this
 ·simp only[Jr,Env.apply,Zo]
  by_cases z1:t=d1
  ·subst z1;simp[e1]
  ·by_cases z2:t=v
   ·subst z2;simp[z1,e3.symm]
   ·simp[z1,z2]
theorem zrO{i j:Nat}{fi fj:Foot}{v o2 d1 x1 d2 x2:Nat}(h1:StpD P cfg O fid rid all i ρ st us1 st1 fi)(h2:StpD P cfg O fid rid all j (ρ.apply us1) st1 us2 st2 fj)
  (m1:fi.fa=some (v,d1,x1)) (m2:fj.mv=some (v,o2,d2,x2)) (e1:d1≠d2) (e2:d1≠v) (e3:d2≠v) (e4:d1≠x2) (e5:d2≠x1) (e7:x2≠v):
  ∃stm us1' us2',StpD P cfg O fid rid all j ρ st us2' stm fj∧StpD P cfg O fid rid all i (ρ.apply us2') stm us1' st2 fi∧EqE ((ρ.apply us1).apply us2) ((ρ.apply us2').apply us1'):=by
 obtain⟨oj,tj,sh,cs,hj,rfl,rfl,rfl⟩:=h2.mvInv m2 e3
 obtain⟨dd,hv⟩:=hj.hv
 have hw: ∀t,t∈us1.map (·.1)→t=d1:=by
  obtain⟨o,g,b,ho,hg,hf,⟨hb,hs,rfl⟩|⟨hb,hu,hst,rfl⟩⟩:=h1
  ·obtain⟨rfl,⟨s,f,hop⟩,hdst,hcase⟩:=ziR (show zgY o g ρ=_ from m1)
   have hsk: ∀ρ:Env,JJ cfg fid rid i o ρ= .none:=fun ρ=>by simp only[JJ,hop]
   unfold QX Xj at hs
   simp only[hop,hsk]at hs
   unfold Q9 at hs
   simp only[hop,ev,hdst]at hs
   have hup: ∀ρ:Env,upds ρ (cfg.take fid rid i) (Zw (.fieldAddr s (.tmp x1) f))=[]:=fun _=>rfl
   rw[hup]at hs
   cases hfo:XN P s f with
   |none=>rw[hfo]at hs;cases hs
   |some p=>
    rw[hfo]at hs
    simp only at hs
    obtain⟨hc,hs⟩:=Ze hs
    rcases hcase with⟨rfl,a,b,c,hxl⟩|⟨off',hxl⟩
    ·rw[hxl]at hs
     obtain⟨hc2,hs⟩:=Ze hs
     cases hs
     intro t ht;simpa[ZC]using ht
    ·rw[hxl]at hs
     obtain⟨hc2,hs⟩:=Ze hs
     cases hs
     intro t ht;simpa[ZC]using ht
  ·cases m1
 have gn: ∀t,t≠d1→(ρ.apply us1).get t=ρ.get t:=fun t ht=>Z9 us1 ρ fun hm=>ht (hw t hm)
 have hv0:ρ.get v= .loc dd sh (.agg cs):=by rw[←gn v e2.symm];exact hv
 have hj':MvAt P cfg fid rid all j ρ v o2 d2 x2 oj tj sh cs:=by
  refine⟨hj.ho,hj.hg,hj.hop,hj.hd,by rw[←gn _ e4.symm];exact hj.hx,⟨dd,hv0⟩, ?_,hj.hl,hj.hty,hj.hsh,hj.htk,hj.hgr⟩
  have:=hj.hfr
  rw[hj.hd]at this⊢
  unfold freshDst at this⊢
  simp only at this⊢
  rwa [gn _ e1.symm]at this
 have hvv:(ρ.apply (Jr v o2 d2 sh cs)).get v= .loc true sh (.agg (cs.set o2 (plain1 (cs.getD o2 .undef)))):=by
  simp only[Jr,Env.apply,Zo];simp[e3.symm]
 obtain⟨⟨y,rfl⟩,rfl,hmove⟩:=h1.faMove (ρ':=ρ.apply (Jr v o2 d2 sh cs)) m1 ⟨_,_,_,hv0⟩ ⟨_,_,_,hvv⟩ (fun hx=>by simp only[Jr,Env.apply,Zo];rw[if_neg e5.symm,if_neg hx]) (by simp only[Jr,Env.apply,Zo];rw[if_neg e1,if_neg e2]) e2
 refine⟨st2,[(d1,y)],Jr v o2 d2 sh cs, ?_,hmove st2,fun t=> ?_⟩
 ·have:=hj'.step (O:=O) st2
  rwa [←zjV hj.hop hj'.hx hj.hx]at this
 ·simp only[Jr,Env.apply,Zo]
  by_cases z1:t=d1
  ·subst z1;simp[e1,e2]
  ·simp[z1]
theorem zrz{i j:Nat}{fi fj:Foot}(h1:StpD P cfg O fid rid all i ρ st us1 st1 fi)(h2:StpD P cfg O fid rid all j (ρ.apply us1) st1 us2 st2 fj)(hc:(Xs fi fj||zev fi fj)=true):
  ∃stm us1' us2',StpD P cfg O fid rid all j ρ st us2' stm fj∧StpD P cfg O fid rid all i (ρ.apply us2') stm us1' st2 fi∧EqE ((ρ.apply us1).apply us2) ((ρ.apply us2').apply us1'):=by
 rcases Bool.or_eq_true .. ▸hc with hc|hc
 ·obtain⟨stm,k1,k2,k3⟩:=zs9 h1 h2 hc
  exact⟨stm,_,_,k1,k2,k3⟩
 ·unfold zev at hc
  split at hc
  ·rename_i v o1 d1 x1 v' o2 d2 x2 m1 m2
   simp only[Bool.and_eq_true]at hc
   obtain⟨⟨⟨⟨⟨⟨⟨⟨c0,c1⟩,c2⟩,c3⟩,c4⟩,c5⟩,c6⟩,c7⟩,c8⟩:=hc
   obtain rfl:=Nat.eq_of_beq_eq_true c0
   exact zrM h1 h2 m1 m2 (zbt c1) (zbt c2) (zbt c3) (zbt c4) (zbt c5) (zbt c6) (zbt c7) (zbt c8)
  ·rename_i v o1 d1 x1 v' d2 x2 m1 m2 hn
   simp only[Bool.and_eq_true]at hc
   obtain⟨⟨⟨⟨⟨⟨c0,c2⟩,c3⟩,c4⟩,c5⟩,c6⟩,c7⟩:=hc
   obtain rfl:=Nat.eq_of_beq_eq_true c0
   exact zrN h1 h2 m1 m2 (zbt c2) (zbt c3) (zbt c4) (zbt c5) (zbt c6) (zbt c7)
  ·rename_i v' d2 x2 v o1 d1 x1 m1 m2 hn
   simp only[Bool.and_eq_true]at hc
   obtain⟨⟨⟨⟨⟨⟨c0,c2⟩,c3⟩,c4⟩,c5⟩,c6⟩,c7⟩:=hc
   obtain rfl:=Nat.eq_of_beq_eq_true c0
   exact zrO h1 h2 m1 m2 (fun e=>zbt c2 e.symm) (zbt c4) (zbt c3) (zbt c6) (zbt c5) (zbt c7)
  ·cases hc
inductive SeqD(P:Program)(cfg:Cfg)(O:Oracle)(fid rid:Nat)(all:List Oper):List Nat→Env→St→List Foot→Env→St→Prop where
 |nil {ρ ρe:Env} (st:St) (h:EqE ρ ρe):SeqD P cfg O fid rid all [] ρ st [] ρe st
 |cons {i:Nat} {is:List Nat} {ρ ρe:Env} {st st2 ste:St} {us:List (Nat×V)} {ft:Foot} {fts:List Foot} (h:StpD P cfg O fid rid all i ρ st us st2 ft) (t:SeqD P cfg O fid rid all is (ρ.apply us) st2 fts ρe ste):
   SeqD P cfg O fid rid all (i::is) ρ st (ft::fts) ρe ste
theorem SeqD.congr{is:List Nat}{fts:List Foot}(h:SeqD P cfg O fid rid all is ρ st fts ρe ste): ∀{ρ':Env},EqE ρ ρ'→SeqD P cfg O fid rid all is ρ' st fts ρe ste:=by
 induction h with
 |nil st h=>exact fun he=> .nil st (he.symm.trans h)
 |cons h t ih=>exact fun he=> .cons (h.congr he) (ih (he.apply _))
theorem SeqD.front{j:Nat}{post:List Nat}: ∀{pre:List Nat} {ρ:Env} {st:St} {fts:List Foot},SeqD P cfg O fid rid all (pre++j::post) ρ st fts ρe ste→
  (∀fp fj fq,fts=fp++fj::fq→fp.length=pre.length→ ∀f∈fp,(Xs f fj||zev f fj)=true)→
  ∃fp fj fq,fts=fp++fj::fq∧fp.length=pre.length∧SeqD P cfg O fid rid all (j::(pre++post)) ρ st (fj::(fp++fq)) ρe ste
 |[],ρ,st,_,h,_=>by
  cases h with
  |cons h t=>exact⟨[],_,_,rfl,rfl, .cons h t⟩
 |k::pre,ρ,st,_,h,hc=>by
  cases h with
  |cons h t=>
   rename_i st1 us1 f1 fts
   obtain⟨fp,fj,fq,rfl,hl,hs⟩:=SeqD.front t fun fp fj fq e hl f hf=>hc (f1::fp) fj fq (by rw[e];rfl) (by simp[hl]) f (by simp[hf])
   have hcom:=hc (f1::fp) fj fq rfl (by simp[hl]) f1 (by simp)
   cases hs with
   |cons h2 t2=>
    obtain⟨stm,_,_,k1,k2,k3⟩:=zrz h h2 hcom
    exact⟨f1::fp,fj,fq,rfl,by simp[hl], .cons k1 (.cons k2 (t2.congr k3))⟩
def StpP(P:Program)(cfg:Cfg)(O:Oracle)(fid rid:Nat)(all:List Oper)(i:Nat)(ρ:Env)(st:St)(p:V)(st':St)(fi:Foot):Prop:=
 ∃o g,all[i]? =some o∧GKind ρ all o g true∧freshDst ρ o.dst=true∧zgs P cfg O fid rid i o ρ st=some (.inr (p,st'))∧fi=Z8 cfg fid rid i o g ρ []
theorem StpP.frame{i:Nat}{p:V}{fi:Foot}(h:StpP P cfg O fid rid all i ρ st p st' fi)(he: ∀t,t∈fi.reads∨t∈fi.writes→ρ'.get t=ρ.get t):StpP P cfg O fid rid all i ρ' st p st' fi:=by
 obtain⟨o,g,ho,hg,hf,hs,rfl⟩:=h
 have hsame:SameOn ρ ρ' o.op.operands.toList:=zf7 (fun t ht=>he t (.inl (by simp[Z8,ht]))) fun t ht=>he t (.inl (by simp[Z8,ht]))
 refine⟨o,g,ho,hg.congr fun t ht=>he t (.inl (by simp[Z8,ht])), ?_,by rw[zmK hsame];exact hs,(zf8 hsame).symm⟩
 rw[zbR fun d hd=>he d (.inr (by simp[Z8,hd]))];exact hf
theorem zsA{k i:Nat}{p:V}{fk fi:Foot}(h1:StpD P cfg O fid rid all k ρ st us1 st1 fk)(h2:StpP P cfg O fid rid all i (ρ.apply us1) st1 p st' fi)(hc:Xs fk fi=true)(hn:zk8 fk.sk=true):StpP P cfg O fid rid all i ρ st p st' fi:=by
 simp only[Xs,Bool.and_eq_true]at hc
 obtain⟨⟨d1,_⟩,_⟩:=hc
 have d1:=zds d1
 have hst:st1=st:=h1.reads (by intro e;rw[e]at hn;cases hn)
 subst hst
 exact h2.frame fun t ht=>(Z9 us1 ρ fun hm=>d1 t (h1.writes t hm) (by rcases ht with h|h<;>simp[h])).symm
inductive SeqP(P:Program)(cfg:Cfg)(O:Oracle)(fid rid:Nat)(all:List Oper)(i0:Nat)(p:V)(st':St)(fi:Foot):List Nat→Env→St→List Foot→Prop where
 |nil {ρ:Env} {st:St} (h:StpP P cfg O fid rid all i0 ρ st p st' fi):SeqP P cfg O fid rid all i0 p st' fi [] ρ st []
 |cons {i:Nat} {is:List Nat} {ρ:Env} {st st2:St} {us:List (Nat×V)} {ft:Foot} {fts:List Foot} (h:StpD P cfg O fid rid all i ρ st us st2 ft) (t:SeqP P cfg O fid rid all i0 p st' fi is (ρ.apply us) st2 fts):
   SeqP P cfg O fid rid all i0 p st' fi (i::is) ρ st (ft::fts)
theorem SeqP.congr{i0:Nat}{p:V}{fi:Foot}{is:List Nat}{fts:List Foot}(h:SeqP P cfg O fid rid all i0 p st' fi is ρ st fts): ∀{ρ':Env},EqE ρ ρ'→SeqP P cfg O fid rid all i0 p st' fi is ρ' st fts:=by
 induction h with
 |nil h=>exact fun he=> .nil (h.frame fun t _=>he t)
 |cons h t ih=>exact fun he=> .cons (h.congr he) (ih (he.apply _))
theorem SeqP.idx{i0:Nat}{p:V}{fi:Foot}{is:List Nat}{fts:List Foot}(h:SeqP P cfg O fid rid all i0 p st' fi is ρ st fts):fts.map (·.idx)=is:=by
 induction h with
 |nil=>rfl
 |cons h t ih=>simp[h.idx,ih]
theorem SeqP.now{i0:Nat}{p:V}{fi:Foot}{is:List Nat}{fts:List Foot}(h:SeqP P cfg O fid rid all i0 p st' fi is ρ st fts)(hc: ∀f∈fts,(Xs f fi&&zk8 f.sk)=true):StpP P cfg O fid rid all i0 ρ st p st' fi:=by
 induction h with
 |nil h=>exact h
 |cons h t ih=>
  have h2:=ih fun f hf=>hc f (by simp[hf])
  have h3:=hc _ (List.mem_cons_self ..)
  simp only[Bool.and_eq_true]at h3
  exact zsA h h2 h3.1 h3.2
theorem SeqP.front{i0:Nat}{p:V}{fi:Foot}{j:Nat}{post:List Nat}: ∀{pre:List Nat} {ρ:Env} {st:St} {fts:List Foot},SeqP P cfg O fid rid all i0 p st' fi (pre++j::post) ρ st fts→
  (∀fp fj fq,fts=fp++fj::fq→fp.length=pre.length→ ∀f∈fp,(Xs f fj||zev f fj)=true)→
  ∃fp fj fq,fts=fp++fj::fq∧fp.length=pre.length∧SeqP P cfg O fid rid all i0 p st' fi (j::(pre++post)) ρ st (fj::(fp++fq))
 |[],ρ,st,_,h,_=>by
  cases h with
  |cons h t=>exact⟨[],_,_,rfl,rfl, .cons h t⟩
 |k::pre,ρ,st,_,h,hc=>by
  cases h with
  |cons h t=>
   rename_i st1 us1 f1 fts
   obtain⟨fp,fj,fq,rfl,hl,hs⟩:=SeqP.front t fun fp fj fq e hl f hf=>hc (f1::fp) fj fq (by rw[e];rfl) (by simp[hl]) f (by simp[hf])
   have hcom:=hc (f1::fp) fj fq rfl (by simp[hl]) f1 (by simp)
   cases hs with
   |cons h2 t2=>
    obtain⟨stm,_,_,k1,k2,k3⟩:=zrz h h2 hcom
    exact⟨f1::fp,fj,fq,rfl,by simp[hl], .cons k1 (.cons k2 (t2.congr k3))⟩
theorem zcD{i:Nat}{p:V}{fi:Foot}{X:Option R}: ∀(rest:List Oper) (j:Nat) (ρ:Env) (fs:List Foot),all.drop j=rest→i<j→StpP P cfg O fid rid all i ρ st p st' fi→
  XT P cfg O fid rid all i fi st rest j ρ fs X=some r→
  ∃J fts,SeqP P cfg O fid rid all i p st' fi J ρ st fts∧J.Pairwise (· < ·)∧(∀x∈J,j≤x∧x<all.length∧((Ys all).getD x 0).testBit i=false)∧(∀x,j≤x→x<all.length→x∈J∨((Ys all).getD x 0).testBit i=true)∧
   Qh 0 all=true∧zbC (Ys all) (fts.reverse++fs)=true∧(∀f∈fts.reverse++fs,(((Ys all).getD i 0).testBit f.idx||(Xs f fi&&zk8 f.sk))=true)∧X=some r
 |[],j,ρ,fs,hd,hij,hp,h=>by
  simp only[XT]at h
  obtain⟨hb,h⟩:=Ze h
  simp only[zs8,Bool.and_eq_true]at hb
  have hlen:all.length≤j:=List.drop_eq_nil_iff.1 hd
  exact⟨[],[], .nil hp,List.Pairwise.nil,(fun x hx=>by cases hx),(fun x h1 h2=>by omega),hb.1.1,hb.1.2,(fun f hf=>List.all_eq_true.1 hb.2 f (by simpa using hf)),h⟩
 |o::rest,j,ρ,fs,hd,hij,hp,h=>by
  have hget:all[j]? =some o:=by
   have:=congrArg (·[0]?) hd
   simpa using this
  have hjl:j<all.length:=(List.getElem?_eq_some_iff.1 hget).1
  have hd':all.drop (j+1)=rest:=by
   have:=congrArg (List.drop 1) hd
   simpa[List.drop_drop,Nat.add_comm]using this
  simp only[XT]at h
  rcases Ya h with⟨hb,h⟩|⟨hbf,h⟩
  ·obtain⟨J,fts,k1,k2,k3,k4,k5⟩:=zcD rest (j+1) ρ fs hd' (by omega) hp h
   exact⟨J,fts,k1,k2,(fun x hx=>by have:=k3 x hx;exact⟨by omega,this.2⟩),(fun x h1 h2=>by
    by_cases e:x=j
    ·subst e;exact .inr hb
    ·exact k4 x (by omega) h2),k5⟩
  ·obtain⟨hg,h⟩:=Ze h
   simp only[Bool.and_eq_true,Option.isNone_iff_eq_none]at hg
   rw[Qc]at h
   obtain⟨y,hs,h⟩:=Yt h
   cases y with
   |inr x=>cases h
   |inl x=>
    obtain⟨us,st2⟩:=x
    obtain⟨hc,h⟩:=Ze h
    simp only[Bool.and_eq_true]at hc
    have hsV:QX P cfg O fid rid j o ρ st=some (us,st2):=by
     unfold QX
     rw[Qc,hs]
     rfl
    have hstp:StpD P cfg O fid rid all j ρ st us st2 (Z8 cfg fid rid j o [] ρ (us.map (·.1))):=⟨o,[],true,hget, .plain hg.1,hg.2, .inl ⟨rfl,hsV,rfl⟩⟩
    have hst:st=st2:=(hstp.reads (by intro e;rw[e]at hc;cases hc.2)).symm
    subst hst
    have hcm:=hc.1
    simp only[Xs,Bool.and_eq_true]at hcm
    have d1:=zds hcm.1.1
    have hp2:StpP P cfg O fid rid all i (ρ.apply us) st p st' fi:=hp.frame fun t ht=>Z9 us ρ fun hm=>d1 t (hstp.writes t hm) (by rcases ht with h|h<;>simp[h])
    obtain⟨J,fts,k1,k2,k3,k4,k5,k6,k7,k8⟩:=zcD rest (j+1) _ _ hd' (by omega) hp2 h
    refine⟨j::J,_::fts, .cons hstp k1,List.pairwise_cons.2 ⟨(fun x hx=>by have:=k3 x hx;omega),k2⟩,fun x hx=> ?_,fun x h1 h2=> ?_,k5,by simpa using k6,fun f hf=>k7 f (by simpa[or_assoc]using hf),k8⟩
    ·rcases List.mem_cons.1 hx with rfl|hx
     ·exact⟨Nat.le_refl _,hjl,hbf⟩
     ·have:=k3 x hx;exact⟨by omega,this.2⟩
    ·by_cases e:x=j
     ·subst e;exact .inl (by simp)
     ·rcases k4 x (by omega) h2 with h|h
      ·exact .inl (List.mem_cons_of_mem _ h)
      ·exact .inr h
theorem zcE{K:Ex→Env→St→Option R}: ∀(rest:List Oper) (i:Nat) (ρ:Env) (st:St) (fs:List Foot),all.drop i=rest→ZD P cfg O fid rid all true rest i ρ st fs K=some r→
  (∃fts ρe ste,SeqD P cfg O fid rid all (List.range' i rest.length) ρ st fts ρe ste∧Qh 0 all=true∧zbC (Ys all) (fts.reverse++fs)=true∧K .normal (tidy all ρe) ste=some r)∨
  ∃k is fts p st' ρ1 fi,i≤k∧k<all.length∧SeqP P cfg O fid rid all k p st' fi is ρ st fts∧is.Pairwise (· < ·)∧(∀x∈is,i≤x∧x≠k∧x<all.length∧(k<x→((Ys all).getD x 0).testBit k=false))∧
   (∀x,i≤x→x<all.length→x∈is∨x=k∨((Ys all).getD x 0).testBit k=true)∧Qh 0 all=true∧zbC (Ys all) (fts.reverse++fs)=true∧
   (∀f∈fts.reverse++fs,(((Ys all).getD k 0).testBit f.idx||(Xs f fi&&zk8 f.sk))=true)∧K (.panic p) ρ1 st'=some r
 |[],i,ρ,st,fs,_,h=>by
  simp only[ZD]at h
  have h:gd (Qh 0 all&&zbC (Ys all) fs) (K .normal (tidy all ρ) st)=some r:=h
  obtain⟨hg,h⟩:=Ze h
  simp only[Bool.and_eq_true]at hg
  exact .inl ⟨[],ρ,st, .nil st (.refl _),hg.1,hg.2,h⟩
 |o::rest,i,ρ,st,fs,hd,h=>by
  have hget:all[i]? =some o:=by
   have:=congrArg (·[0]?) hd
   simpa using this
  have hd':all.drop (i+1)=rest:=by
   have:=congrArg (List.drop 1) hd
   simpa[List.drop_drop,Nat.add_comm]using this
  obtain⟨ρ1,g,b,hkind,hok,hrun,hskip⟩:=zeF (fun _ _ _=>rfl) h
  have hE:EqE ρ1 ρ:=fun t=>(hkind.same t).symm
  simp only[cond_true]at hok
  have hfr:freshDst ρ o.dst=true:=by rw[zbR fun d _=>hE d];exact hok
  have hsame:SameOn ρ1 ρ o.op.operands.toList:=zf7 (fun t _=>hE t) fun t _=>hE t
  cases b with
  |true=>
   have hr:=hrun rfl
   have hr:Xj P cfg O fid rid i o ρ1 st (fun us st'=>ZD P cfg O fid rid all true rest (i+1) (ρ1.apply us) st' (Z8 cfg fid rid i o g ρ1 (us.map (·.1))::fs) K)
    (fun p st'=>XT P cfg O fid rid all i (Z8 cfg fid rid i o g ρ1 []) st rest (i+1) ρ1 fs (K (.panic p) ρ1 st'))=some r:=hr
   rw[Qc]at hr
   obtain⟨y,hs,hr⟩:=Yt hr
   cases y with
   |inr x=>
    obtain⟨p,st'⟩:=x
    have hstp:StpP P cfg O fid rid all i ρ1 st p st' (Z8 cfg fid rid i o g ρ1 []):=⟨o,g,hget,hkind.g.congr fun t _=>(hE t).symm,hok,hs,rfl⟩
    obtain⟨J,fts,k1,k2,k3,k4,k5,k6,k7,k8⟩:=zcD rest (i+1) ρ1 fs hd' (by omega) hstp hr
    have hil:i<all.length:=(List.getElem?_eq_some_iff.1 hget).1
    refine .inr ⟨i,J,fts,p,st',ρ1,_,Nat.le_refl _,hil,k1.congr hE,k2,(fun x hx=>by have:=k3 x hx;exact⟨by omega,by omega,this.2.1,fun _=>this.2.2⟩),fun x h1 h2=> ?_,k5,k6,k7,k8⟩
    by_cases e:x=i
    ·exact .inr (.inl e)
    ·rcases k4 x (by omega) h2 with h|h
     ·exact .inl h
     ·exact .inr (.inr h)
   |inl x=>
    obtain⟨us,st'⟩:=x
    have hsV:QX P cfg O fid rid i o ρ st=some (us,st'):=by
     rw[zhu hsame]
     unfold QX
     rw[Qc,hs]
     rfl
    have hstp:StpD P cfg O fid rid all i ρ st us st' (Z8 cfg fid rid i o g ρ1 (us.map (·.1))):=⟨o,g,true,hget,hkind.g,hfr, .inl ⟨rfl,hsV,(zf8 hsame).symm⟩⟩
    rcases zcE rest (i+1) _ _ _ hd' hr with⟨fts,ρe,ste,k1,k2,k3,k4⟩|⟨k,is,fts,p,st2,ρ2,fi,j1,j2,j3,j4,j5,j6,j7,j8,j9,j10⟩
    ·simp only[List.length_cons,List.range'_succ]
     exact .inl ⟨_,ρe,ste, .cons hstp (k1.congr (hE.apply us)),k2,by simpa using k3,k4⟩
    ·refine .inr ⟨k,i::is,Z8 cfg fid rid i o g ρ1 (us.map (·.1))::fts,p,st2,ρ2,fi,by omega,j2, .cons hstp (j3.congr (hE.apply us)),List.pairwise_cons.2 ⟨(fun x hx=>by have:=j5 x hx;omega),j4⟩,fun x hx=> ?_,fun x h1 h2=> ?_,j7,by simpa using j8,fun f hf=>j9 f (by simpa[or_assoc]using hf),j10⟩
     ·rcases List.mem_cons.1 hx with rfl|hx
      ·exact⟨Nat.le_refl _,by omega,(List.getElem?_eq_some_iff.1 hget).1,fun h=>by omega⟩
      ·have:=j5 x hx;exact⟨by omega,this.2⟩
     ·by_cases e:x=i
      ·subst e;exact .inl (by simp)
      ·rcases j6 x (by omega) h2 with h|h
       ·exact .inl (List.mem_cons_of_mem _ h)
       ·exact .inr h
  |false=>
   have hr:=hskip rfl
   simp only[cond_true]at hr
   have hE2:EqE (ρ1.put o.dst (.tup [])) (ρ.apply (ZC o.dst (.tup []))):=by
    cases hdd:o.dst with
    |none=>exact hE
    |some d=>exact hE.apply [(d, .tup [])]
   have hstp:StpD P cfg O fid rid all i ρ st (ZC o.dst (.tup [])) st {idx:=i,reads:=g,writes:=o.dst.toList,sk:= .none}:=⟨o,g,false,hget,hkind.g,hfr, .inr ⟨rfl,rfl,rfl,rfl⟩⟩
   rcases zcE rest (i+1) _ _ _ hd' hr with⟨fts,ρe,ste,k1,k2,k3,k4⟩|⟨k,is,fts,p,st2,ρ2,fi,j1,j2,j3,j4,j5,j6,j7,j8,j9,j10⟩
   ·simp only[List.length_cons,List.range'_succ]
    exact .inl ⟨_,ρe,ste, .cons hstp (k1.congr hE2),k2,by simpa using k3,k4⟩
   ·refine .inr ⟨k,i::is,{idx:=i,reads:=g,writes:=o.dst.toList,sk:= .none}::fts,p,st2,ρ2,fi,by omega,j2, .cons hstp (j3.congr hE2),List.pairwise_cons.2 ⟨(fun x hx=>by have:=j5 x hx;omega),j4⟩,fun x hx=> ?_,fun x h1 h2=> ?_,j7,by simpa using j8,fun f hf=>j9 f (by simpa[or_assoc]using hf),j10⟩
    ·rcases List.mem_cons.1 hx with rfl|hx
     ·exact⟨Nat.le_refl _,by omega,(List.getElem?_eq_some_iff.1 hget).1,fun h=>by omega⟩
     ·have:=j5 x hx;exact⟨by omega,this.2⟩
    ·by_cases e:x=i
     ·subst e;exact .inl (by simp)
     ·rcases j6 x (by omega) h2 with h|h
      ·exact .inl (List.mem_cons_of_mem _ h)
      ·exact .inr h
end
end Go.AM
namespace Go.AM
open Go Go.RowKit
section
variable{P:Program}{cfg:Cfg}{O:Oracle}{fid rid:Nat}{all:List Oper}{ρ ρ' ρ1 ρe:Env}{st st' st1 st2 ste:St}{us us1 us2:List (Nat×V)}{R:Type}{r:R}
variable{base n:Nat}{w w' w0:World}{own own' Y4:Own}{μ μ' μ0:List Nat}{a:Act}
def zcF(acc:List Nat)(o:Oper):Nat:=o.after.toList.foldl (fun s e=>if Region.binds .any e then s|||(2^e.on|||acc.getD e.on 0)else s) 0
theorem zhv(l:List Oper):Ys l=l.foldl (fun acc o=>acc++[zcF acc o]) []:=rfl
theorem ziS(l:List Oper): ∀acc:List Nat,(l.foldl (fun acc o=>acc++[zcF acc o]) acc).length=acc.length+l.length:=by
 induction l with
 |nil=>intro acc;rfl
 |cons o l ih=>intro acc;simp only[List.foldl_cons,ih];simp;omega
theorem zjW(l:List Oper): ∀acc:List Nat,∃x,l.foldl (fun acc o=>acc++[zcF acc o]) acc=acc++x:=by
 induction l with
 |nil=>intro acc;exact⟨[],by simp⟩
 |cons o l ih=>
  intro acc
  obtain⟨x,hx⟩:=ih (acc++[zcF acc o])
  exact⟨[zcF acc o]++x,by simp only[List.foldl_cons,hx,List.append_assoc]⟩
theorem zoB{i:Nat}{o:Oper}(h:all[i]? =some o):(Ys all).getD i 0=zcF (Ys (all.take i)) o∧ ∀k,k<i→(Ys (all.take i)).getD k 0=(Ys all).getD k 0:=by
 have hi:i<all.length:=(List.getElem?_eq_some_iff.1 h).1
 have hsplit:all=all.take i++o::all.drop (i+1):=by
  have h2:all[i]=o:=(List.getElem?_eq_some_iff.1 h).2
  rw[←h2,←List.drop_eq_getElem_cons hi,List.take_append_drop]
 have hlen:(Ys (all.take i)).length=i:=by
  rw[zhv,ziS];simp;omega
 have: ∃x,Ys all=Ys (all.take i)++[zcF (Ys (all.take i)) o]++x:=by
  obtain⟨x,hx⟩:=zjW (all.drop (i+1)) (Ys (all.take i)++[zcF (Ys (all.take i)) o])
  refine⟨x, ?_⟩
  rw[←hx]
  conv=>lhs;rw[hsplit]
  simp only[zhv,List.foldl_append,List.foldl_cons]
 obtain⟨x,hx⟩:=this
 refine⟨?_,fun k hk=> ?_⟩
 ·rw[hx,List.getD_eq_getElem?_getD,List.getElem?_append_left (by simp[hlen]),List.getElem?_append_right (by simp[hlen])]
  simp[hlen]
 ·rw[hx,List.getD_eq_getElem?_getD,List.getD_eq_getElem?_getD,List.getElem?_append_left (by simp[hlen];omega),List.getElem?_append_left (by rw[hlen];exact hk)]
theorem ziT{G:Edge→Nat}{k:Nat}: ∀(l:List Edge) (s:Nat),Nat.testBit (l.foldl (fun s e=>if Region.binds .any e then s|||(2^e.on|||G e)else s) s) k=true→s.testBit k=true∨ ∃e∈l,Region.binds .any e=true∧(k=e.on∨(G e).testBit k=true)
 |[],s,h=> .inl h
 |e::l,s,h=>by
  simp only[List.foldl_cons]at h
  rcases ziT l _ h with h|⟨e',he,hb,hk⟩
  ·split at h
   ·rename_i hb
    rw[Nat.testBit_or,Nat.testBit_or,Bool.or_eq_true,Bool.or_eq_true]at h
    rcases h with h|h|h
    ·exact .inl h
    ·rw[Nat.testBit_two_pow,decide_eq_true_eq]at h
     exact .inr ⟨e,by simp,hb, .inl h.symm⟩
    ·exact .inr ⟨e,by simp,hb, .inr h⟩
   ·exact .inl h
  ·exact .inr ⟨e',by simp[he],hb,hk⟩
theorem QY: ∀(l:List Oper) (i:Nat),Qh i l=true→ ∀(k:Nat) (o:Oper),l[k]? =some o→ ∀e∈o.after.toList,Region.binds .any e=true→e.on<i+k
 |[],i,_,k,o,h=>by simp at h
 |x::l,i,he,k,o,h=>by
  simp only[Qh,Bool.and_eq_true,List.all_eq_true]at he
  cases k with
  |zero=>
   simp only[List.getElem?_cons_zero,Option.some.injEq]at h
   subst h
   intro e hm hb
   have:=he.1 e hm
   simp only[hb,Bool.not_true,Bool.false_or]at this
   exact Nat.le_of_ble_eq_true this
  |succ k=>
   simp only[List.getElem?_cons_succ]at h
   intro e hm hb
   have:=QY l (i+1) he.2 k o h e hm hb
   omega
theorem zdt(he:Qh 0 all=true){i:Nat}{o:Oper}(h:all[i]? =some o){k:Nat}(hk:((Ys all).getD i 0).testBit k=true):
  ∃e∈o.after.toList,Region.binds .any e=true∧(k=e.on∨((Ys all).getD e.on 0).testBit k=true):=by
 obtain⟨h1,h2⟩:=zoB h
 rw[h1]at hk
 rcases ziT _ _ hk with hk|⟨e,hm,hb,hk⟩
 ·simp at hk
 ·refine⟨e,hm,hb,hk.imp_right fun hk=> ?_⟩
  have:=QY _ _ he i o h e hm hb
  rwa [h2 _ (by omega)]at hk
theorem zbS{pr:List Nat}: ∀{fs:List Foot},zbC pr fs=true→fs.Pairwise (fun f g=>zfk pr g f=true)
 |[],_=> .nil
 |f::fs,h=>by
  simp only[zbC,Bool.and_eq_true,List.all_eq_true]at h
  exact .cons (fun g hg=>h.1 g hg) (zbS h.2)
theorem SeqD.idx{is:List Nat}{fts:List Foot}(h:SeqD P cfg O fid rid all is ρ st fts ρe ste):fts.map (·.idx)=is:=by
 induction h with
 |nil=>rfl
 |cons h t ih=>simp only[List.map_cons,ih,h.idx]
theorem GKind.wanted{ops:Array Oper}{o:Oper}{g:List Nat}{b:Bool}(hk:GKind ρ ops.toList o g b)(h:Rel P cfg base n w own μ ρ st a):Region.wanted o (yielded ops a.tmps)=b:=by
 cases hk with
 |plain hg=>simp[Region.wanted,hg]
 |run g want t hg ht hv=>rw[(QJ h hg ht).1 _ hv];simp
 |skip g want t b hg ht hv hb=>rw[(QJ h hg ht).1 _ hv];simpa using hb
 |none g want t hg ht hv=>exact(QJ h hg ht).2 hv
theorem zav{d:Option Nat}(h:freshDst ρ d=true):okDst all ρ d=true:=by
 unfold freshDst at h
 unfold okDst
 cases d with
 |none=>rfl
 |some d=>
  simp only at h⊢
  split at h
  ·cases h
  ·cases h
  ·rfl
theorem zdF{listed:Array Bool}{k:Nat}(hk:k<listed.size)(h:listed.getD k true≠false):listed.getD k false=true:=by
 rw[Array.getD_eq_getD_getElem?,Array.getElem?_eq_getElem hk]at h⊢
 simpa using h
theorem zeK{listed:Array Bool}{k:Nat}(h:listed.getD k false=true):listed.getD k true=true:=by
 rw[Array.getD_eq_getD_getElem?]at h⊢
 cases hx:listed[k]? with
 |none=>rfl
 |some b=>rw[hx]at h;simpa using h
theorem zeL(listed:Array Bool)(j k:Nat)(d:Bool)(hj:j<listed.size):(listed.setIfInBounds j true).getD k d=if k=j then true else listed.getD k d:=by
 simp only[Array.getD_eq_getD_getElem?]
 by_cases e:k=j
 ·subst e;simp[hj]
 ·rw[if_neg e,Array.getElem?_setIfInBounds_ne (Ne.symm e)]
theorem zr0(hP:PlainNames P)(hC:XZ P cfg O.call)(hRd:Qk P cfg O.round){ops:Array Oper}(hdst: ∀o∈ops.toList,∀d,o.dst=some d→d<n)(he:Qh 0 ops.toList=true){Q:Exit→Act→World→Prop}{m:Nat}{ro:Option Nat}
  (hQ: ∀ρ' a' w' own' μ',EqE ρ' ρe→Rel P cfg base n w' own' μ' ρ' ste a'→LP ops.toList ρ'→Keeps base w0 Y4 μ0 w' own' μ'→Q .normal a' w'):
  ∀(fuel:Nat) (is:List Nat) (listed:Array Bool) (ρ:Env) (st:St) (fts:List Foot) (a:Act) (w:World) (own:Own) (μ:List Nat),is.length=fuel→listed.size=ops.size→(∀i,i<ops.size→(listed.getD i true=false↔i∈is))→(∀i∈is,i<ops.size)→is.Pairwise (· < ·)→
   SeqD P cfg O fid rid ops.toList is ρ st fts ρe ste→fts.Pairwise (fun a b=>zfk (Ys ops.toList) a b=true)→(∀i,listed.getD i false=true→ ∀k,((Ys ops.toList).getD i 0).testBit k=true→listed.getD k false=true)→
   Rel P cfg base n w own μ ρ st a→LP ops.toList ρ→Keeps base w0 Y4 μ0 w own μ→wpAnyIn (wide ro) m P .any ops Q fuel listed a w
 |0,is,listed,ρ,st,fts,a,w,own,μ,hl,hsz,hls,hlt,_,hseq,_,_,hR,hlp,hk=>by
  have:is=[]:=List.eq_nil_of_length_eq_zero hl
  subst this
  cases hseq with
  |nil _ hE=>
   refine⟨?_,hQ _ _ _ _ _ hE hR hlp hk⟩
   refine List.eq_nil_iff_forall_not_mem.2 fun j hj=> ?_
   obtain⟨h0,o,ho,_⟩:=mem_ready.1 hj
   have hj':j<ops.size:=(Array.getElem?_eq_some_iff.1 ho).1
   have:=(hls j hj').1 h0
   cases this
 |fuel+1,is,listed,ρ,st,fts,a,w,own,μ,hl,hsz,hls,hlt,hsort,hseq,hpair,hclo,hR,hlp,hk=>by
  refine⟨fun hnil=> ?_,fun j hj=> ?_⟩
  ·exfalso
   cases is with
   |nil=>simp at hl
   |cons i0 rest=>
    have hi0:=hlt i0 (by simp)
    have ho:ops[i0]? =some ops[i0]:=by simp[hi0]
    have:i0∈Region.ready .any ops listed:=by
     refine mem_ready.2 ⟨(hls i0 hi0).2 (by simp),ops[i0],ho,fun e hm hb=> ?_⟩
     have hon:=QY _ _ he i0 ops[i0] (by rw[Array.getElem?_toList];exact ho) e (by simpa using hm) hb
     have hon:e.on<i0:=by omega
     refine zdF (by omega) fun hf=> ?_
     have:=(hls e.on (by omega)).1 hf
     rcases List.mem_cons.1 this with h|h
     ·omega
     ·have:=(List.pairwise_cons.1 hsort).1 _ h
      omega
    rw[hnil]at this;cases this
  ·obtain⟨h0,o,ho,hall⟩:=mem_ready.1 hj
   have hjs:j<ops.size:=(Array.getElem?_eq_some_iff.1 ho).1
   have hol:ops.toList[j]? =some o:=by rw[Array.getElem?_toList];exact ho
   have hmem:o∈ops.toList:=List.mem_of_getElem? hol
   obtain⟨pre,post,rfl⟩:=List.append_of_mem ((hls j hjs).1 h0)
   have hidx:=hseq.idx
   have hnot: ∀k∈pre,¬((Ys ops.toList).getD j 0).testBit k=true:=fun k hk hm=>by
    have hun:=(hls k (hlt k (by simp[hk]))).2 (by simp[hk])
    have hlisted:listed.getD k false=true:=by
     obtain⟨e,hme,hb,hke⟩:=zdt he hol hm
     have hel:=hall e (by simpa using hme) hb
     rcases hke with rfl|hke
     ·exact hel
     ·exact hclo _ hel _ hke
    rw[zeK hlisted]at hun;cases hun
   obtain⟨fp,fj,fq,rfl,hfl,hs⟩:=SeqD.front hseq fun fp fj fq e hfl f hf=>by
    subst e
    have hp:=(List.pairwise_append.1 hpair).2.2 f hf fj (by simp)
    have h1:fp.map (·.idx)=pre∧fj.idx=j:=by
     rw[List.map_append,List.map_cons]at hidx
     obtain⟨e1,e2⟩:=List.append_inj hidx (by simp[hfl])
     exact⟨e1,(List.cons.inj e2).1⟩
    rw[zfk,Bool.or_eq_true]at hp
    refine hp.resolve_left fun hc=> ?_
    rw[h1.2]at hc
    exact hnot f.idx (by rw[←h1.1];exact List.mem_map.2 ⟨f,hf,rfl⟩) (by simpa using hc)
   cases hs with
   |cons hstp hrest=>
    rename_i st2 us
    obtain⟨o',g,b,ho',hg,hf,hcase⟩:=hstp
    rw[hol]at ho'
    cases ho'
    have hnodup:j∉pre++post:=fun hm=>by
     have h2:=List.pairwise_append.1 hsort
     rcases List.mem_append.1 hm with h|h
     ·exact absurd (h2.2.2 j h j (by simp)) (Nat.lt_irrefl _)
     ·exact absurd ((List.pairwise_cons.1 h2.2.1).1 j h) (Nat.lt_irrefl _)
    have next: ∀a' w' own' μ',Rel P cfg base n w' own' μ' (ρ.apply us) st2 a'→LP ops.toList (ρ.apply us)→Keeps base w own μ w' own' μ'→wpAnyIn (wide ro) m P .any ops Q fuel (listed.setIfInBounds j true) a' w':=fun a' w' own' μ' k1 k2 k3=>by
     refine zr0 hP hC hRd hdst he hQ fuel (pre++post) _ _ _ _ a' w' own' μ' (by simp at hl⊢;omega) (by simpa using hsz) (fun i hi=> ?_) (fun i hi=>hlt i (by simp at hi⊢;rcases hi with h|h<;>simp[h])) ?_ hrest ?_ (fun i hi k hk=> ?_) k1 k2 (hk.trans k3)
     ·rw[zeL _ _ _ _ (by omega)]
      split
      ·rename_i e;subst e;simp only[Bool.true_eq_false,false_iff];exact hnodup
      ·rename_i e
       rw[hls i hi]
       simp[e]
     ·exact hsort.sublist (List.Sublist.append (List.Sublist.refl _) (List.sublist_cons_self ..))
     ·exact hpair.sublist (List.Sublist.append (List.Sublist.refl _) (List.sublist_cons_self ..))
     ·rw[zeL _ _ _ _ (by omega)]at hi⊢
      split
      ·rfl
      ·split at hi
       ·rename_i e;subst e
        obtain⟨e,hme,hb,hke⟩:=zdt he hol hk
        have hel:=hall e (by simpa using hme) hb
        rcases hke with rfl|hke
        ·exact hel
        ·exact hclo _ hel _ hke
       ·exact hclo _ hi _ hk
    have hpre:Pre P cfg base n ops.toList w own μ ρ st a o:=⟨hR,hlp,hmem,hdst o hmem,zav hf⟩
    have hw:=hg.wanted hR
    unfold wpOpIn
    simp only[ho,hw]
    rcases hcase with⟨rfl,hst,_⟩|⟨rfl,rfl,rfl,_⟩
    ·rw[if_pos rfl]
     refine zeD (r:=(us,st2)) hP hC hRd hpre (fun us' st' a' w' own' μ' e h2 h3 h4=> ?_) (fun v c st' ρ' w' own' μ' e=>by cases e) hst
     cases e
     exact next a' w' own' μ' h2 h4 h3
    ·rw[if_neg (by simp)]
     refine⟨fun f _=>trivial, ?_⟩
     cases hod:o.dst with
     |none=>rw[hod]at next;exact next a w own μ hR hlp Keeps.refl
     |some d=>
      rw[hod]at next
      have hT:VRep w (prOf own) μ (.tup []) undef:= .tup [] #[] rfl fun i hi=>by simp at hi
      exact next _ w own μ (hR.put d (hpre.dst d hod) (hpre.noPtr hod) hT) (hlp.set hmem hod _) Keeps.refl
theorem zrP{p:Nat→Prop}(h: ∃x,p x): ∃x,p x∧ ∀y,y<x→ ¬p y:=by
 obtain⟨x,hx⟩:=h
 induction x using Nat.strongRecOn with
 |_ x ih=>
  by_cases hy: ∃y,y<x∧p y
  ·obtain⟨y,h1,h2⟩:=hy
   exact ih y h1 h2
  ·exact⟨x,hx,fun y h1 h2=>hy ⟨y,h1,h2⟩⟩
theorem zhw: ∀(l:List Nat) (a b:Nat),l.Pairwise (· < ·)→(∀x∈l,a≤x∧x<b)→l.length≤b-a
 |[],a,b,_,_=>Nat.zero_le _
 |x::l,a,b,hp,h=>by
  have hx:=h x (by simp)
  have h2:=List.pairwise_cons.1 hp
  have:=zhw l (x+1) b h2.2 fun y hy=>⟨h2.1 y hy,(h y (by simp[hy])).2⟩
  simp only[List.length_cons]
  omega
theorem zpS(he:Qh 0 all=true): ∀(i k:Nat),((Ys all).getD i 0).testBit k=true→k<i:=by
 intro i
 induction i using Nat.strongRecOn with
 |_ i ih=>
  intro k hk
  cases ho:all[i]? with
  |none=>
   have hl:(Ys all).length=all.length:=by
    rw[zhv,ziS];simp
   have:(Ys all).getD i 0=0:=by
    rw[List.getD_eq_getElem?_getD,List.getElem?_eq_none (by rw[hl];exact List.getElem?_eq_none_iff.1 ho)];rfl
   rw[this]at hk
   simp at hk
  |some o=>
   obtain⟨e,hme,hb,hke⟩:=zdt he ho hk
   have hon:=QY _ _ he i o ho e hme hb
   have hon:e.on<i:=by omega
   rcases hke with rfl|hke
   ·exact hon
   ·have:=ih e.on hon k hke
    omega
theorem zr1(hP:PlainNames P)(hC:XZ P cfg O.call)(hRd:Qk P cfg O.round){ops:Array Oper}(hdst: ∀o∈ops.toList,∀d,o.dst=some d→d<n)(he:Qh 0 ops.toList=true){Q:Exit→Act→World→Prop}{m:Nat}{ro:Option Nat}
  {i0:Nat} {p:V} {stp:St} {fi:Foot} (hi0:i0<ops.size)
  (hQ: ∀ρ' a' w' own' μ' c,Rel P cfg base n w' own' μ' ρ' stp a'→Keeps base w0 Y4 μ0 w' own' μ'→VRep w' (prOf own') μ' p c→Q (.panic [{v:=c,recovered:=false}]) a' w'):
  ∀(fuel:Nat) (is:List Nat) (listed:Array Bool) (ρ:Env) (st:St) (fts:List Foot) (a:Act) (w:World) (own:Own) (μ:List Nat),is.length+1≤fuel→listed.size=ops.size→(∀i,i<ops.size→(listed.getD i true=false↔i∈is∨i=i0∨((Ys ops.toList).getD i 0).testBit i0=true))→(∀i∈is,i<ops.size∧i≠i0∧((Ys ops.toList).getD i 0).testBit i0=false)→is.Pairwise (· < ·)→
   SeqP P cfg O fid rid ops.toList i0 p stp fi is ρ st fts→fts.Pairwise (fun a b=>zfk (Ys ops.toList) a b=true)→(∀f∈fts,(((Ys ops.toList).getD i0 0).testBit f.idx||(Xs f fi&&zk8 f.sk))=true)→
   (∀i,listed.getD i false=true→ ∀k,((Ys ops.toList).getD i 0).testBit k=true→listed.getD k false=true)→
   Rel P cfg base n w own μ ρ st a→LP ops.toList ρ→Keeps base w0 Y4 μ0 w own μ→wpAnyIn (wide ro) m P .any ops Q fuel listed a w
 |0,is,listed,ρ,st,fts,a,w,own,μ,hl,_,_,_,_,_,_,_,_,_,_,_=>by omega
 |fuel+1,is,listed,ρ,st,fts,a,w,own,μ,hl,hsz,hls,hlt,hsort,hseq,hpair,hcom,hclo,hR,hlp,hk=>by
  refine⟨fun hnil=> ?_,fun j hj=> ?_⟩
  ·exfalso
   have hex: ∃x,x<ops.size∧listed.getD x true=false:=⟨i0,hi0,(hls i0 hi0).2 (.inr (.inl rfl))⟩
   obtain⟨x,⟨hx,hun⟩,hmin0⟩: ∃x,(x<ops.size∧listed.getD x true=false)∧ ∀y,y<x→ ¬(y<ops.size∧listed.getD y true=false):=by
    exact zrP hex
   have hmin: ∀y,y<ops.size→listed.getD y true=false→x≤y:=fun y h1 h2=>Nat.le_of_not_lt fun h=>hmin0 y h ⟨h1,h2⟩
   have ho:ops[x]? =some ops[x]:=by simp[hx]
   have:x∈Region.ready .any ops listed:=by
    refine mem_ready.2 ⟨hun,ops[x],ho,fun e hm hb=> ?_⟩
    have hon:=QY _ _ he x ops[x] (by rw[Array.getElem?_toList];exact ho) e (by simpa using hm) hb
    have hon:e.on<x:=by omega
    refine zdF (by omega) fun hf=> ?_
    have:=hmin e.on (by omega) hf
    omega
   rw[hnil]at this;cases this
  ·obtain⟨h0,o,ho,hall⟩:=mem_ready.1 hj
   have hjs:j<ops.size:=(Array.getElem?_eq_some_iff.1 ho).1
   have hol:ops.toList[j]? =some o:=by rw[Array.getElem?_toList];exact ho
   have hmem:o∈ops.toList:=List.mem_of_getElem? hol
   have hahead: ∀k,((Ys ops.toList).getD j 0).testBit k=true→listed.getD k false=true:=fun k hm=>by
    obtain⟨e,hme,hb,hke⟩:=zdt he hol hm
    have hel:=hall e (by simpa using hme) hb
    rcases hke with rfl|hke
    ·exact hel
    ·exact hclo _ hel _ hke
   have hnotl: ∀k,k<ops.size→listed.getD k true=false→ ¬((Ys ops.toList).getD j 0).testBit k=true:=fun k hk hun hm=>by
    rw[zeK (hahead k hm)]at hun;cases hun
   rcases(hls j hjs).1 h0 with hjm|rfl|hji
   ·
    obtain⟨pre,post,rfl⟩:=List.append_of_mem hjm
    have hidx:=hseq.idx
    have hnot: ∀k∈pre,¬((Ys ops.toList).getD j 0).testBit k=true:=fun k hk=>by
     have hki:=hlt k (by simp[hk])
     exact hnotl k hki.1 ((hls k hki.1).2 (.inl (by simp[hk])))
    obtain⟨fp,fj,fq,rfl,hfl,hs⟩:=SeqP.front hseq fun fp fj fq e hfl f hf=>by
     subst e
     have hp:=(List.pairwise_append.1 hpair).2.2 f hf fj (by simp)
     have h1:fp.map (·.idx)=pre∧fj.idx=j:=by
      rw[List.map_append,List.map_cons]at hidx
      obtain⟨e1,e2⟩:=List.append_inj hidx (by simp[hfl])
      exact⟨e1,(List.cons.inj e2).1⟩
     rw[zfk,Bool.or_eq_true]at hp
     refine hp.resolve_left fun hc=> ?_
     rw[h1.2]at hc
     exact hnot f.idx (by rw[←h1.1];exact List.mem_map.2 ⟨f,hf,rfl⟩) (by simpa using hc)
    cases hs with
    |cons hstp hrest=>
     rename_i st2 us
     obtain⟨o',g,b,ho',hg,hf,hcase⟩:=hstp
     rw[hol]at ho'
     cases ho'
     have hnodup:j∉pre++post:=fun hm=>by
      have h2:=List.pairwise_append.1 hsort
      rcases List.mem_append.1 hm with h|h
      ·exact absurd (h2.2.2 j h j (by simp)) (Nat.lt_irrefl _)
      ·exact absurd ((List.pairwise_cons.1 h2.2.1).1 j h) (Nat.lt_irrefl _)
     have next: ∀a' w' own' μ',Rel P cfg base n w' own' μ' (ρ.apply us) st2 a'→LP ops.toList (ρ.apply us)→Keeps base w own μ w' own' μ'→wpAnyIn (wide ro) m P .any ops Q fuel (listed.setIfInBounds j true) a' w':=fun a' w' own' μ' k1 k2 k3=>by
      refine zr1 hP hC hRd hdst he hi0 hQ fuel (pre++post) _ _ _ _ a' w' own' μ' (by simp at hl⊢;omega) (by simpa using hsz) (fun i hi=> ?_) (fun i hi=>hlt i (by simp at hi⊢;rcases hi with h|h<;>simp[h])) ?_ hrest ?_ (fun f hf=>hcom f (by
       simp only[List.mem_append,List.mem_cons]at hf⊢
       rcases hf with h|h
       ·exact .inl h
       ·exact .inr (.inr h))) (fun i hi k hk=> ?_) k1 k2 (hk.trans k3)
      ·rw[zeL _ _ _ _ (by omega)]
       split
       ·rename_i e;subst e;simp only[Bool.true_eq_false,false_iff,not_or];have:=hlt i (by simp);exact⟨hnodup,this.2.1,by rw[this.2.2];simp⟩
       ·rename_i e
        rw[hls i hi]
        simp[e]
      ·exact hsort.sublist (List.Sublist.append (List.Sublist.refl _) (List.sublist_cons_self ..))
      ·exact hpair.sublist (List.Sublist.append (List.Sublist.refl _) (List.sublist_cons_self ..))
      ·rw[zeL _ _ _ _ (by omega)]at hi⊢
       split
       ·rfl
       ·split at hi
        ·rename_i e;subst e
         exact hahead _ hk
        ·exact hclo _ hi _ hk
     have hpre:Pre P cfg base n ops.toList w own μ ρ st a o:=⟨hR,hlp,hmem,hdst o hmem,zav hf⟩
     have hw:=hg.wanted hR
     unfold wpOpIn
     simp only[ho,hw]
     rcases hcase with⟨rfl,hst,_⟩|⟨rfl,rfl,rfl,_⟩
     ·rw[if_pos rfl]
      refine zeD (r:=(us,st2)) hP hC hRd hpre (fun us' st' a' w' own' μ' e h2 h3 h4=> ?_) (fun v c st' ρ' w' own' μ' e=>by cases e) hst
      cases e
      exact next a' w' own' μ' h2 h4 h3
     ·rw[if_neg (by simp)]
      refine⟨fun f _=>trivial, ?_⟩
      cases hod:o.dst with
      |none=>rw[hod]at next;exact next a w own μ hR hlp Keeps.refl
      |some d=>
       rw[hod]at next
       have hT:VRep w (prOf own) μ (.tup []) undef:= .tup [] #[] rfl fun i hi=>by simp at hi
       exact next _ w own μ (hR.put d (hpre.dst d hod) (hpre.noPtr hod) hT) (hlp.set hmem hod _) Keeps.refl
   ·
    have hidx:=hseq.idx
    obtain⟨o',g,ho',hg,hf,hst,_⟩:=hseq.now fun f hf=>by
     have:=hcom f hf
     rw[Bool.or_eq_true]at this
     have hfi:f.idx∈is:=by rw[←hidx];exact List.mem_map.2 ⟨f,hf,rfl⟩
     have hlf:=hlt _ hfi
     exact this.resolve_left (hnotl f.idx hlf.1 ((hls f.idx hlf.1).2 (.inl hfi)))
    rw[hol]at ho'
    cases ho'
    have hpre:Pre P cfg base n ops.toList w own μ ρ st a o:=⟨hR,hlp,hmem,hdst o hmem,zav hf⟩
    have hw:=hg.wanted hR
    unfold wpOpIn
    simp only[ho,hw]
    rw[if_pos trivial]
    refine zeD (R:=(List (Nat×V)×St)⊕(V×St)) (r:=Sum.inr (p,stp)) (K:=fun us st=>some (Sum.inl (us,st))) (Kx:=fun v st=>some (Sum.inr (v,st))) hP hC hRd hpre (fun us' st' a' w' own' μ' e=>by cases e) (fun v c st' ρ' w' own' μ' e h2 h3 h4=> ?_) hst
    cases e
    exact hQ _ _ _ _ _ _ h2 (hk.trans h3) h4
   ·
    exact absurd hji (hnotl i0 hi0 ((hls i0 hi0).2 (.inr (.inl rfl))))
theorem zhx(hm:P.follows .mixedOrders=true)(hP:PlainNames P)(hC:XZ P cfg O.call)(hRd:Qk P cfg O.round){ops:Array Oper}(hdst: ∀o∈ops.toList,∀d,o.dst=some d→d<n){K:Ex→Env→St→Option R}{Q:Exit→Act→World→Prop}{m:Nat}{ro:Option Nat}
  (hQ: ∀ρ' st' a' w' own' μ',K .normal ρ' st'=some r→Rel P cfg base n w' own' μ' ρ' st' a'→NoL ρ'→Keeps base w own μ w' own' μ'→Q .normal a' w')
  (hX: ∀v c ρ' ρ'' st' a' w' own' μ',K (.panic v) ρ' st'=some r→Rel P cfg base n w' own' μ' ρ'' st' a'→Keeps base w own μ w' own' μ'→VRep w' (prOf own') μ' v c→Q (.panic [{v:=c,recovered:=false}]) a' w')
  (hR:Rel P cfg base n w own μ ρ st a) (hN:NoL ρ) (h:ZD P cfg O fid rid ops.toList true ops.toList 0 ρ st [] K=some r):(Code.region rid ops true).wpIn (wide ro) m P Q a w:=by
 rcases zcE _ 0 _ _ _ rfl h with⟨fts,ρe,ste,h1,h2,h3,h4⟩|⟨k,is,fts,p,stp,ρ1,fi,_,h0,h1,h5,h6,h7,g1,g3,g4,h4⟩
 ·refine wpIn_region_any hm ?_
  have hs:=Step.drawn hR.sto (w.drawn+1)
  have hR':=hR.same hs
  refine zr0 (w0:=w) (Y4:=own) (μ0:=μ) hP hC hRd hdst h2 (fun ρ' a' w' own' μ' hE k1 k2 k3=> ?_) ops.size (List.range' 0 ops.toList.length) _ ρ st fts a _ own μ (by simp) (by simp) (fun i hi=> ?_) (fun i hi=> ?_) ?_ h1 ?_ (fun i hi=> ?_) hR' (fun t x off e=>absurd e (hN t x off)) (hs.keeps fun h=>h)
  ·obtain⟨g1,g2⟩:=zcA ops.toList ρe (k1.congr hE) (k2.congr hE)
   exact hQ _ _ _ _ _ _ h4 g1 g2 k3
  ·simp[hi]
  ·simpa using hi
  ·exact List.pairwise_lt_range'
  ·have:=zbS h3
   rw[List.append_nil,List.pairwise_reverse]at this
   exact this
  ·exfalso
   rw[Array.getD_eq_getD_getElem?]at hi
   by_cases hlt:i<ops.size<;>simp[hlt]at hi
 ·refine wpIn_region_any hm ?_
  have hs:=Step.drawn hR.sto (w.drawn+1)
  have hR':=hR.same hs
  have hk0:k<ops.size:=by simpa using h0
  rw[List.append_nil]at g3 g4
  have hlen:is.length+1≤ops.size:=by
   have h8:=zhw (is.map fun x=>if k<x then x-1 else x) 0 (ops.size-1) (List.pairwise_map.2 (List.Pairwise.imp_of_mem (fun {x y} hx hy hxy=>by
    have e1:=(h6 x hx).2.1
    have e2:=(h6 y hy).2.1
    split<;>split<;>omega) h5)) (fun z hz=>by
    obtain⟨x,hx,rfl⟩:=List.mem_map.1 hz
    have e1:=(h6 x hx).2.1
    have e2:=(h6 x hx).2.2.1
    have e3:x<ops.size:=by simpa using e2
    split<;>omega)
   simp only[List.length_map]at h8
   omega
  refine zr1 (w0:=w) (Y4:=own) (μ0:=μ) hP hC hRd hdst g1 (i0:=k) (fi:=fi) hk0 (fun ρ' a' w' own' μ' c k1 k2 k3=>hX _ _ _ _ _ _ _ _ _ h4 k1 k2 k3) ops.size is _ ρ st fts a _ own μ hlen (by simp) (fun i hi=> ?_) (fun i hi=> ?_) h5 h1 ?_ (fun f hf=> ?_) (fun i hi=> ?_) hR' (fun t x off e=>absurd e (hN t x off)) (hs.keeps fun h=>h)
  ·have:=h7 i (Nat.zero_le _) (by simpa using hi)
   rw[List.getD_eq_getElem?_getD]at this
   simp[hi,this]
  ·have h6i:=h6 i hi
   have hi2:i<ops.size:=by simpa using h6i.2.2.1
   refine⟨hi2,h6i.2.1, ?_⟩
   rcases Nat.lt_or_gt_of_ne h6i.2.1 with hlt|hgt
   ·cases hb:((Ys ops.toList).getD i 0).testBit k with
    |false=>rfl
    |true=>exact absurd (zpS g1 i k hb) (by omega)
   ·exact h6i.2.2.2 hgt
  ·have:=zbS g3
   rw[List.pairwise_reverse]at this
   exact this
  ·exact g4 f (by simpa using hf)
  ·exfalso
   rw[Array.getD_eq_getD_getElem?]at hi
   by_cases hlt:i<ops.size<;>simp[hlt]at hi
end
end Go.AM
