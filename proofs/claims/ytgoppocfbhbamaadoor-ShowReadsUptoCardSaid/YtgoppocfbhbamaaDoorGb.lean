import Derived.Test.YtgoppocfbhbamaaDoorGa
import Derived.KernelRfl
import Derived.Test.YtgoppocfbhbamaaDoorAMd
/- The program's functions, each an equation of the abstract machine checked by the kernel, and what they come to as_ plain Lean. -/
set_option linter.unusedVariables false
set_option linter.unusedSimpArgs false
set_option linter.unusedSectionVars false
namespace Go.Proofs.SW
open Go Go.AM Go.Ama
theorem znj{sig:List D}(hs: ∀d∈sig,d.name.length≤100)(t:T):(JV t sig).1.length≤480000:=by
 unfold JV
 split
 ·rename_i hm
  unfold may at hm
  simp only[Bool.and_eq_true,decide_eq_true_eq]at hm
  split
  ·have h1:=JB (sig:=sig) t 0
   have h2:=zee hs t 0 hm.1 (by omega)
   have h3:=zbz (words sig t 0) 1
   show(text (words sig t 0)).length≤_
   unfold text
   omega
  ·simp
 ·simp
theorem zhn{sig:List D}(hsig:sig.length≤1000)(hs: ∀d∈sig,d.name.length≤100)(t:T)(ht:t.size≤1099511627776):
  Ev 11 [enc t, .vec .plain (some 4) (ZZ sig)] (.tup [.vec .plain none (XY (JV t sig).1), .int (JV t sig).2]):=by
 unfold Ev
 have hmay:=(zhH t ht).p
 rw[Zt]at hmay
 rw[C,Zt,zkf,hmay,Zb,Zr]
 unfold JV
 cases hm:may t with
 |false=>rfl
 |true=>
  have hm':=hm
  unfold may at hm'
  simp only[Bool.and_eq_true,decide_eq_true_eq]at hm'
  obtain⟨m',hG,hw⟩:=zlu hsig t 0 .full [] 0 (.inr rfl) hm'.1 (by omega) (by simp;omega)
  rw[Zt]at hw
  have hw':W.call 24 [V.ref 0 0,V.agg [V.int t.k,V.int t.h,V.vec .plain (some 3) (Z0 t.args)],V.int 0] [Res.box [V.vec .plain (some 4) (ZZ sig),V.vec Mode.full (some 2) [],V.int 0]]=_:=hw
  simp only[Bool.not_true,Zi,if_true]
  rw[hw',Zb,List.nil_append]
  simp only[Zd,Yr,Ye]
  have e1: ∀{α:Type} (ok:Int) (K:List V→Option α),ZH [Y8 m' sig (words sig t 0) ok] 0 (fun x=>ZS x K)=K [.vec .plain (some 4) (ZZ sig), .vec m' (some 2) (Zj (words sig t 0)), .int ok]:=fun ok K=>rfl
  simp only[e1]
  cases ho:okW sig t 0 with
  |false=>rfl
  |true=>
   have h1:=JB (sig:=sig) t 0
   have h2:=zee hs t 0 hm'.1 (by omega)
   have htx:=(zmZ (words sig t 0) (by omega)).p (by simp[Zu,below,Ja]) (by simp[below,Ql])
   have e2: ∀{α:Type} (K:List V→Option α),Ys (some 2) (Zm (AM.partOf [.vec .plain (some 4) (ZZ sig), .vec m' (some 2) (Zj (words sig t 0)), .int (bif true then(0:Int)else 2)] 1 none)) K=K (Zj (words sig t 0)):=by
    intro α K
    rcases hG with rfl|rfl<;>rfl
   simp only[e2,htx,Zb,Y6]
   have hb:below 0 (V.tup [V.vec .plain none (XY (text (words sig t 0))),V.int 0])=true:=by simp[below,Zu,Ql]
   rw[hb]
   rfl
theorem zpQ(a b:Bytes):(ba a==ba b)=decide (a=b):=by
 by_cases h:a=b
 ·subst h;rw[decide_eq_true rfl];show ByteArray.beq _ _=true;simp[ByteArray.beq]
 ·rw[decide_eq_false h]
  cases hb:ba a==ba b with
  |false=>rfl
  |true=>exact absurd (zpJ.1 (zim hb)) h
theorem zg9(a b:Bytes):zb4 (.str (ba a)) (.str (ba b))=decide (a=b):=zpQ a b
theorem zky(a b:Bytes)(v d:V): ∀es:List (V×V),YY (XH es (.str (ba a)) v) (.str (ba b)) d=if a=b then v else YY es (.str (ba b)) d
 |[]=>by
  simp only[XH,YY,zg9]
  by_cases h:a=b
  ·simp[h]
  ·have hb:b≠a:=fun e=>h e.symm
   simp[h,hb]
 |(k,u)::r=>by
  simp only[XH]
  cases hk:zb4 (.str (ba a)) k with
  |true=>
   simp only[cond_true,YY,zg9]
   by_cases h:a=b
   ·simp[h]
   ·have hb:b≠a:=fun e=>h e.symm
    cases k<;>try (cases hk;done)
    rename_i s
    have hs:ba a=s:=zim hk
    subst hs
    simp[h,hb,zg9]
  |false=>
   simp only[cond_false,YY,zky a b v d r]
   cases hk2:zb4 (.str (ba b)) k with
   |true=>
    have h:a≠b:=by rintro rfl;rw[hk]at hk2;cases hk2
    simp[h]
   |false=>simp
def Cnt(es:List (V×V))(l:List D):Prop:= ∀x,YY es (.str (ba x)) (.int 0)= .int (ziQ x l:Nat)
theorem znk(x:Bytes)(l:List D)(d:D):ziQ x (l++[d])=ziQ x l+(if d.name=x then 1 else 0):=by
 unfold ziQ
 rw[List.filter_append,List.length_append]
 by_cases h:d.name=x<;>simp[h]
theorem zpf(x:Bytes)(l:List D):ziQ x l≤l.length:=List.length_filter_le ..
theorem zgq(l:List D)(hl:l.length≤1000): ∀j k es,k+j=l.length→Cnt es (l.take k)→
  ∃es',Cnt es' l∧W.loop 13 3 [.int (k:Nat), .mp 0, .vec .plain (some 4) (ZZ l), .vec .plain (some 4) (ZZ l), .int (l.length:Nat)] [.map .str .int es]=
   some (.exit 0,[.vec .plain (some 4) (ZZ l), .mp 0],[.map .str .int es']):=by
 intro j
 induction j with
 |zero=>
  intro k es hk hc
  have hkl:k=l.length:=by omega
  subst hkl
  rw[List.take_length]at hc
  have hlt:decide (((l.length:Nat):Int)<l.length)=false:=by simp
  refine⟨es,hc, ?_⟩
  rw[L,zb0,hlt]
  rfl
 |succ j ih=>
  intro k es hk hc
  have hkl:k<l.length:=by omega
  have hlt:decide (((k:Nat):Int)<l.length)=true:=by simp;omega
  have hlt2:(decide ((0:Int)≤(k:Nat))&&decide (((k:Nat):Int)<((ZZ l).length:Int)))=true:=by rw[XZ,hlt];simp
  have hw:IntKind.i64.wrap ((k:Nat)+1:Int)=((k+1:Nat):Int):=zds (by omega) (by omega)
  have hmn:=zpf (l[k]).name (l.take k)
  rw[List.length_take]at hmn
  have hw2:IntKind.i64.wrap (((ziQ (l[k]).name (l.take k):Nat):Int)+1)=((ziQ (l[k]).name (l.take k)+1:Nat):Int):=zds (by omega) (by omega)
  have hc':Cnt (XH es (.str (ba (l[k]).name)) (.int ((ziQ (l[k]).name (l.take k)+1:Nat):Int))) (l.take (k+1)):=by
   intro x
   rw[zky,List.take_succ_eq_append_getElem hkl,znk,hc x]
   by_cases h:(l[k]).name=x
   ·subst h;simp
   ·simp[h]
  obtain⟨es',h1,h2⟩:=ih (k+1) _ (by omega) hc'
  refine⟨es',h1, ?_⟩
  rw[←h2,L,zb0,hlt,Zo,hlt2,ZU,zbp hkl,zdd,hc,YL,hw,hw2]
end Go.Proofs.SW
namespace Go.Proofs.SW
open Go Go.AM Go.Ama
set_option maxRecDepth 100000
theorem zpg:Ev 7 [] (.bool true):=Ev.of_check (m:=300) (by decide+kernel)
end Go.Proofs.SW
namespace Go.Proofs.SW
open Go Go.AM
set_option maxRecDepth 20000
end Go.Proofs.SW
namespace Go.Ama
open Go Go.AM
def upV(b f ar h:Int):Int:=if f+ar≤h then IntKind.i64.wrap (h+b)else h
def bindsB(k:Int):Bool:=decide (k=1)||decide (k=3)
mutual
def upT(b f ar:Int):T→T
 | .mk k h as_=> .mk k (if k=4 then upV b f ar h else h) (ups b f ar (bindsB k) as_)
def ups(b f ar:Int)(bd:Bool):List T→List T
 |[]=> []
 |a::as_=>upT b f (if bd&&as_.isEmpty then ar+1 else ar) a::ups b f ar bd as_
end
theorem zgA(b f ar:Int)(bd:Bool): ∀l,(ups b f ar bd l).length=l.length
 |[]=>rfl
 |a::as_=>by simp only[ups,List.length_cons,zgA b f ar bd as_]
mutual
theorem zma(b f:Int): ∀(t:T) (ar:Int),(upT b f ar t).size=t.size
 | .mk k h as_,ar=>by simp only[upT,T.size];rw[zhM b f as_ ar]
theorem zhM(b f:Int): ∀(l:List T) (ar:Int) {bd:Bool},sizes (ups b f ar bd l)=sizes l
 |[],ar,bd=>rfl
 |a::as_,ar,bd=>by simp only[ups,sizes];rw[zma b f a,zhM b f as_]
end
theorem zef: ∀{ts:List T} {t:T},t∈ts→t.depth≤ZI ts
 |a::as_,t,h=>by
  simp only[ZI]
  rcases List.mem_cons.1 h with rfl|h
  ·omega
  ·have:=zef h;omega
def upP(t:T)(b f:Int):T:=if may t&&(decide (0≤b)&&(decide (b≤1048576)&&(decide (0≤f)&&decide (f≤1048576))))then upT b f 0 t else t
theorem zol(t:T)(b f:Int):(upP t b f).size=t.size:=by
 unfold upP;split
 ·exact zma b f t 0
 ·rfl
def zl1(l:List T):List T:=l.map (fun t=>upP t 1 0)++[.mk 4 0 []]
def zl2(s:Int):Int:=IntKind.i64.wrap (s+1)
def ofT(l:List T)(s i:Int):T:=if i<l.length then l.getD (l.length-1-i.toNat) (.mk 0 0 [])else .mk 4 (IntKind.i64.wrap (IntKind.i64.wrap (i-l.length)+s)) []
inductive Job where
 |ap (n:Nat) (t:T) (l:List T) (s:Int)
 |ar (n:Nat) (bd:Bool) (ts:List T) (l:List T) (s:Int)
 |sp (n:Nat) (t:T) (as_:List T)
inductive Oj where
 |t (t:T) (n:Nat)
 |l (ts:List T) (n:Nat)
 |e (e:Int)
def belowL'(bd:Bool)(as_:List T)(l:List T):List T:=if bd&&as_.isEmpty then zl1 l else l
def belowS'(bd:Bool)(as_:List T)(s:Int):Int:=if bd&&as_.isEmpty then zl2 s else s
inductive Big:Job→Oj→Prop where
 |apLimit {n:Nat} {t:T} {l:List T} {s:Int} (h:40000<n+1) (hn:n≤40001):Big (.ap n t l s) (.e 4)
 |apErr {n:Nat} {t:T} {l:List T} {s:Int} {e:Int} (h:n+1≤40000) (ht:t.size≤1099511627776) (b:Big (.ar (n+1) (bindsB t.k) t.args l s) (.e e)):Big (.ap n t l s) (.e e)
 |apNode {n:Nat} {t:T} {l:List T} {s:Int} {as_:List T} {m:Nat} (h:n+1≤40000) (ht:t.size≤1099511627776) (hk:t.k≠4) (b:Big (.ar (n+1) (bindsB t.k) t.args l s) (.l as_ m)):Big (.ap n t l s) (.t (.mk t.k t.h as_) m)
 |apVar {n:Nat} {t:T} {l:List T} {s:Int} {as_:List T} {m:Nat} {o:Oj} (h:n+1≤40000) (ht:t.size≤1099511627776) (hl:sizes l≤1099511627776) (hk:t.k=4) (h0:0≤t.h) (h1:I64 t.h) (b:Big (.ar (n+1) (bindsB t.k) t.args l s) (.l as_ m)) (c:Big (.sp m (ofT l s t.h) as_) o):Big (.ap n t l s) o
 |arNil {n:Nat} {bd:Bool} {l:List T} {s:Int}:Big (.ar n bd [] l s) (.l [] n)
 |arErr {n:Nat} {bd:Bool} {a:T} {as_ l:List T} {s:Int} {e:Int} (hl:sizes l≤1099511627776) (b:Big (.ap n a (belowL' bd as_ l) (belowS' bd as_ s)) (.e e)):Big (.ar n bd (a::as_) l s) (.e e)
 |arErr2 {n m:Nat} {bd:Bool} {a a':T} {as_ l:List T} {s:Int} {e:Int} (hl:sizes l≤1099511627776) (b:Big (.ap n a (belowL' bd as_ l) (belowS' bd as_ s)) (.t a' m)) (c:Big (.ar m bd as_ l s) (.e e)):Big (.ar n bd (a::as_) l s) (.e e)
 |arCons {n m k:Nat} {bd:Bool} {a a':T} {as_ as' l:List T} {s:Int} (hl:sizes l≤1099511627776) (b:Big (.ap n a (belowL' bd as_ l) (belowS' bd as_ s)) (.t a' m)) (c:Big (.ar m bd as_ l s) (.l as' k)):Big (.ar n bd (a::as_) l s) (.l (a'::as') k)
 |spNil {n:Nat} {t:T}:Big (.sp n t []) (.t t n)
 |spMay {n:Nat} {t a:T} {as_:List T} (hk:t.k=3) (ha:a.size≤1099511627776) (hm:may a=false):Big (.sp n t (a::as_)) (.e 4)
 |spErr {n:Nat} {t a b0:T} {r as_:List T} {e:Int} (hk:t.k=3) (ha:a.size≤1099511627776) (hm:may a=true) (hb:t.args=b0::r) (b:Big (.ap n b0 [a] 0) (.e e)):Big (.sp n t (a::as_)) (.e e)
 |spLam {n m:Nat} {t a b0 u:T} {r as_:List T} {o:Oj} (hk:t.k=3) (ha:a.size≤1099511627776) (hm:may a=true) (hb:t.args=b0::r) (b:Big (.ap n b0 [a] 0) (.t u m)) (c:Big (.sp m u as_) o):Big (.sp n t (a::as_)) o
 |spApp {n:Nat} {t a:T} {as_:List T} (hk:t.k=2∨t.k=4∨t.k=5) (hs:t.args.length+as_.length≤1099511627776):Big (.sp n t (a::as_)) (.t (.mk t.k t.h (t.args++a::as_)) n)
 |spType {n:Nat} {t a:T} {as_:List T} (h3:t.k≠3) (h2:t.k≠2) (h4:t.k≠4) (h5:t.k≠5):Big (.sp n t (a::as_)) (.e 3)
end Go.Ama
namespace Go.Ama
open Go Go.AM
mutual
def okB(B:Int):T→Prop
 | .mk k h ys=>(0≤h∧h≤B)∧(k=3→ys≠ [])∧zeP B ys
def zeP(B:Int):List T→Prop
 |[]=>True
 |a::ys=>okB B a∧zeP B ys
end
theorem zeh(B:Int): ∀l,zeP B l↔ ∀x∈l,okB B x
 |[]=>by simp[zeP]
 |a::l=>by simp[zeP,zeh B l]
mutual
theorem Ji{B B':Int}(h:B≤B'): ∀t,okB B t→okB B' t
 | .mk k hd ys,⟨h1,h2,h3⟩=>⟨⟨h1.1,by omega⟩,h2,zaP h ys h3⟩
theorem zaP{B B':Int}(h:B≤B'): ∀l,zeP B l→zeP B' l
 |[],_=>trivial
 |a::l,⟨h1,h2⟩=>⟨Ji h a h1,zaP h l h2⟩
end
mutual
theorem zom{B:Int}(hB:B≤9223372036854775000)(f:Int): ∀(t:T) (ar:Int),okB B t→okB (B+1) (upT 1 f ar t)
 | .mk k hd ys,ar,⟨h1,h2,h3⟩=>by
  simp only[upT,okB]
  refine⟨?_, ?_,zmb hB f ys ar h3⟩
  ·split
   ·unfold upV
    split
    ·rw[Y9 ⟨by omega,by omega⟩];omega
    ·omega
   ·omega
  ·intro hk e
   have:=congrArg List.length e
   rw[zgA]at this
   exact h2 hk (List.length_eq_zero_iff.1 (by simpa using this))
theorem zmb{B:Int}(hB:B≤9223372036854775000)(f:Int): ∀(l:List T) (ar:Int) {bd:Bool},zeP B l→zeP (B+1) (ups 1 f ar bd l)
 |[],ar,bd,_=>trivial
 |a::l,ar,bd,⟨h1,h2⟩=>by simp only[ups,zeP];exact⟨zom hB f a _ h1,zmb hB f l ar h2⟩
end
theorem zph{B:Int}(hB:B≤9223372036854775000){t:T}(h:okB B t):okB (B+1) (upP t 1 0):=by
 unfold upP;split
 ·exact zom hB 0 t 0 h
 ·exact Ji (by omega) t h
def bnd(β:Int)(n:Nat):Int:=β+n*2097152
def zgB(β:Int):Prop:=0≤β∧β≤4611686018427387904
def okL(B:Int)(l:List T):Prop:= ∀x∈l,okB B x∧x.size≤4000
theorem zeQ{B:Int}: ∀{l:List T},okL B l→sizes l≤l.length*4000
 |[],_=>by simp[sizes]
 |a::l,h=>by
  have h1:=(h a (by simp)).2
  have h2:=zeQ (l:=l) fun x hx=>h x (by simp[hx])
  simp only[sizes,List.length_cons];omega
def Inv(β:Int):Job→Prop
 | .ap n t l s=>n≤40000∧t.size≤160040000∧okB (bnd β n) t∧okL (bnd β n) l∧l.length≤200+n∧0≤s∧s≤1048576+n
 | .ar n _ ts l s=>n≤40000∧sizes ts≤160040000∧zeP (bnd β n) ts∧okL (bnd β n-1) l∧l.length+1≤200+n∧0≤s∧s+1≤1048576+n
 | .sp n t ys=>n≤40000∧t.size≤160040000∧sizes ys≤160040000∧okB (bnd β n) t∧zeP (bnd β n) ys
def zqL(β:Int):Job→Oj→Prop
 | .ap n _ _ _, .t u m=>n<m∧m≤40000∧u.size≤4001*(m-n)∧okB (bnd β m) u
 | .ar n _ ts _ _, .l ys m=>n≤m∧m≤40000∧ys.length=ts.length∧sizes ys≤4001*(m-n)∧zeP (bnd β m) ys
 | .sp n t ys, .t u m=>n≤m∧m≤40000∧u.size≤t.size+sizes ys+4001*(m-n)∧okB (bnd β m) u
 |_, .e _=>True
 |_,_=>False
def zl3:Job→Nat
 | .ap n _ _ _=>2*(40002-n)
 | .ar n _ _ _ _=>2*(40002-n)+1
 | .sp n _ _=>2*(40002-n)+1
theorem zkz{t:T}(h:may t=true):t.size≤4000:=by
 unfold may at h
 simp only[Bool.and_eq_true,decide_eq_true_eq]at h
 exact h.2.1
theorem zaQ{β:Int}{n m:Nat}(h:n≤m):bnd β n≤bnd β m:=by unfold bnd;omega
theorem zl4{β:Int}(hβ:zgB β){n:Nat}(h:n≤40000):bnd β n≤4611686118427387904:=by obtain⟨h1,h2⟩:=hβ;unfold bnd;omega
theorem zpR{β:Int}(hβ:zgB β){n:Nat}:0≤bnd β n:=by obtain⟨h1,h2⟩:=hβ;unfold bnd;omega
theorem znl{β:Int}(hβ:zgB β){n:Nat}{bd:Bool}{ys l:List T}{s:Int}(hn:n≤40000)(hl:okL (bnd β n-1) l)(hlen:l.length+1≤200+n)(h0:0≤s)(hs:s+1≤1048576+n):
  okL (bnd β n) (belowL' bd ys l)∧(belowL' bd ys l).length≤200+n∧0≤belowS' bd ys s∧belowS' bd ys s≤1048576+n:=by
 have hb:=zl4 hβ hn
 have hb0:0≤bnd β n:=zpR hβ
 unfold belowL' belowS'
 split
 ·refine⟨fun x hx=> ?_, ?_, ?_, ?_⟩
  ·simp only[zl1,List.mem_append,List.mem_map,List.mem_singleton]at hx
   rcases hx with⟨y,hy,rfl⟩|rfl
   ·obtain⟨h1,h2⟩:=hl y hy
    have:=zph (B:=bnd β n-1) (by omega) h1
    rw[show bnd β n-1+1=bnd β n by omega]at this
    exact⟨this,by rw[zol];exact h2⟩
   ·exact⟨⟨⟨by omega,hb0⟩,by simp,trivial⟩,by simp[T.size,sizes]⟩
  ·simp[zl1];omega
  ·unfold zl2;rw[Y9 ⟨by omega,by omega⟩];omega
  ·unfold zl2;rw[Y9 ⟨by omega,by omega⟩];omega
 ·refine⟨fun x hx=> ?_,by omega,h0,by omega⟩
  obtain⟨h1,h2⟩:=hl x hx
  exact⟨Ji (by omega) x h1,h2⟩
theorem zq7{β:Int}(hβ:zgB β){n:Nat}(hn:n≤40000){l:List T}{s i:Int}(hl:okL (bnd β n) l)(h0:0≤s)(hs:s≤1048576+n)(hi:0≤i)(hi2:i≤bnd β n):okB (bnd β (n+1)) (ofT l s i)∧(ofT l s i).size≤4000:=by
 have hb:=zl4 hβ hn
 unfold ofT
 split
 ·rename_i h
  have hj:l.length-1-i.toNat<l.length:=by omega
  rw[List.getD_eq_getElem?_getD,List.getElem?_eq_getElem hj]
  obtain⟨h1,h2⟩:=hl _ (List.getElem_mem hj)
  exact⟨Ji (zaQ (Nat.le_succ n)) _ h1,h2⟩
 ·rename_i h
  rw[Y9 (n:=i-l.length) ⟨by omega,by omega⟩,Y9 ⟨by omega,by omega⟩]
  refine⟨⟨⟨by omega, ?_⟩,by simp,trivial⟩,by simp[T.size,sizes]⟩
  have:bnd β (n+1)=bnd β n+2097152:=by unfold bnd;omega
  omega
theorem total{β:Int}(hβ:zgB β): ∀(N:Nat) (j:Job),zl3 j<N→Inv β j→ ∃o,Big j o∧zqL β j o:=by
 intro N
 induction N with
 |zero=>intro j h;omega
 |succ N ih=>
  intro j hj hI
  cases j with
  |ap n t l s=>
   obtain⟨hn,hsz,hok,hl,hlen,h0,hs⟩:=hI
   by_cases hlim:n+1≤40000
   rotate_left
   ·exact⟨_, .apLimit (by omega) (by omega),trivial⟩
   have hsl:=zeQ hl
   cases t with
   |mk k h ys=>
    simp only[T.size]at hsz
    obtain⟨⟨hh0,hh1⟩,hk3,hys⟩:=hok
    have hb1:bnd β (n+1)=bnd β n+2097152:=by unfold bnd;omega
    obtain⟨o,hB,hP⟩:=ih (.ar (n+1) (bindsB k) ys l s) (by simp only[zl3]at hj⊢;omega) ⟨hlim,by omega,zaP (by omega) ys hys,fun x hx=>⟨Ji (by omega) x (hl x hx).1,(hl x hx).2⟩,by omega,h0,by omega⟩
    cases o with
    |t _ _=>exact hP.elim
    |e e=>exact⟨_, .apErr hlim (by simp only[T.size];omega) hB,trivial⟩
    |l zs m=>
     obtain⟨p1,p2,p3,p4,p5⟩:=hP
     have hbm:bnd β n≤bnd β m:=zaQ (by omega)
     by_cases hk:k=4
     ·obtain⟨q1,q2⟩:=zq7 hβ (by omega) hl h0 hs hh0 hh1
      have hbm1:bnd β (n+1)≤bnd β m:=zaQ p1
      obtain⟨o,hB2,hP2⟩:=ih (.sp m (ofT l s h) zs) (by simp only[zl3]at hj⊢;omega) ⟨p2,by omega,by omega,Ji hbm1 _ q1,p5⟩
      have hbn:=zl4 hβ (n:=n) (by omega)
      cases o with
      |l _ _=>exact hP2.elim
      |e e=>exact⟨_, .apVar hlim (by simp only[T.size];omega) (by omega) hk hh0 ⟨by simp only[T.h];omega,by simp only[T.h];omega⟩ hB hB2,trivial⟩
      |t u m2=>
       obtain⟨r1,r2,r3,r4⟩:=hP2
       exact⟨_, .apVar hlim (by simp only[T.size];omega) (by omega) hk hh0 ⟨by simp only[T.h];omega,by simp only[T.h];omega⟩ hB hB2,by omega,r2,by omega,r4⟩
     ·refine⟨_, .apNode hlim (by simp only[T.size];omega) hk hB,by omega,p2, ?_, ?_⟩
      ·simp only[T.size,T.k,T.h];omega
      ·refine⟨⟨hh0,by simp only[T.h];omega⟩,fun e he=> ?_,p5⟩
       subst he
       exact hk3 e (List.length_eq_zero_iff.1 (by simpa using p3.symm))
  |ar n bd ts l s=>
   obtain⟨hn,hsz,hok,hl,hlen,h0,hs⟩:=hI
   have hsl:=zeQ hl
   cases ts with
   |nil=>exact⟨_, .arNil,Nat.le_refl _,hn,rfl,by simp[sizes],trivial⟩
   |cons a ts=>
    simp only[sizes]at hsz
    obtain⟨ha,hts⟩:=hok
    obtain⟨g1,g2,g3,g4⟩:=znl hβ (bd:=bd) (ys:=ts) hn hl hlen h0 hs
    obtain⟨o,hB,hP⟩:=ih (.ap n a (belowL' bd ts l) (belowS' bd ts s)) (by simp only[zl3]at hj⊢;omega) ⟨hn,by omega,ha,g1,g2,g3,g4⟩
    cases o with
    |l _ _=>exact hP.elim
    |e e=>exact⟨_, .arErr (by omega) hB,trivial⟩
    |t u m=>
     obtain⟨p1,p2,p3,p4⟩:=hP
     have hbm:bnd β n≤bnd β m:=zaQ (by omega)
     obtain⟨o,hB2,hP2⟩:=ih (.ar m bd ts l s) (by simp only[zl3]at hj⊢;omega) ⟨p2,by omega,zaP hbm ts hts,fun x hx=>⟨Ji (by omega) x (hl x hx).1,(hl x hx).2⟩,by omega,h0,by omega⟩
     cases o with
     |t _ _=>exact hP2.elim
     |e e=>exact⟨_, .arErr2 (by omega) hB hB2,trivial⟩
     |l zs m2=>
      obtain⟨r1,r2,r3,r4,r5⟩:=hP2
      exact⟨_, .arCons (by omega) hB hB2,by omega,r2,by simp[r3],by simp only[sizes];omega,Ji (zaQ r1) u p4,r5⟩
  |sp n t ys=>
   obtain⟨hn,hsz,hys,hok,hoy⟩:=hI
   cases ys with
   |nil=>exact⟨_, .spNil,Nat.le_refl _,hn,by simp[sizes],hok⟩
   |cons a ys=>
    simp only[sizes]at hys
    obtain⟨ha,hoy⟩:=hoy
    cases t with
    |mk k h zs=>
     simp only[T.size]at hsz
     obtain⟨hh,hk3,hzs⟩:=hok
     by_cases hk:k=3
     ·cases hm:may a with
      |false=>exact⟨_, .spMay hk (by omega) hm,trivial⟩
      |true=>
       obtain⟨b0,r,hb⟩: ∃b0 r,zs=b0::r:=by
        cases zs with
        |nil=>exact absurd rfl (hk3 hk)
        |cons b r=>exact⟨b,r,rfl⟩
       subst hb
       simp only[sizes]at hsz
       obtain⟨o,hB,hP⟩:=ih (.ap n b0 [a] 0) (by simp only[zl3]at hj⊢;omega) ⟨hn,by omega,hzs.1,fun x hx=>by simp at hx;subst hx;exact⟨ha,zkz hm⟩,by simp;omega,by omega,by omega⟩
       cases o with
       |l _ _=>exact hP.elim
       |e e=>exact⟨_, .spErr hk (by omega) hm rfl hB,trivial⟩
       |t u m=>
        obtain⟨p1,p2,p3,p4⟩:=hP
        obtain⟨o,hB2,hP2⟩:=ih (.sp m u ys) (by simp only[zl3]at hj⊢;omega) ⟨p2,by omega,by omega,p4,zaP (zaQ (by omega)) ys hoy⟩
        cases o with
        |l _ _=>exact hP2.elim
        |e e=>exact⟨_, .spLam hk (by omega) hm rfl hB hB2,trivial⟩
        |t w m2=>
         obtain⟨r1,r2,r3,r4⟩:=hP2
         exact⟨_, .spLam hk (by omega) hm rfl hB hB2,by omega,r2,by simp only[T.size,sizes];omega,r4⟩
     ·by_cases hk2:k=2∨k=4∨k=5
      ·have hz:=YF zs
       have hy:=YF ys
       refine⟨_, .spApp hk2 (by simp only[T.args];omega),Nat.le_refl _,hn, ?_, ?_⟩
       ·simp only[T.size,T.k,T.h,T.args,ziF,sizes];omega
       ·refine⟨hh,fun e=>absurd e hk, ?_⟩
        rw[zeh]
        intro x hx
        simp only[T.args,List.mem_append,List.mem_cons]at hx
        rcases hx with hx|rfl|hx
        ·exact(zeh _ _).1 hzs x hx
        ·exact ha
        ·exact(zeh _ _).1 hoy x hx
      ·simp only[not_or]at hk2
       exact⟨_, .spType hk hk2.1 hk2.2.1 hk2.2.2,trivial⟩
end Go.Ama
namespace Go.Ama
open Go Go.AM
section
variable{R:Type}
@[simp] theorem zrh(a b:Int)(l:List V)(K:Int→Int→List V→Option R):Zg (R:=R) [CT.int,CT.int,CT.slice (some 3)] (.agg [.int a, .int b, .vec .plain (some 3) l]) K=K a b l:=rfl
@[simp] theorem zri(t:T)(K:Int→Int→List V→Option R):Zg (R:=R) [CT.int,CT.int,CT.slice (some 3)] (enc t) K=K t.k t.h (Z0 t.args):=by cases t;rfl
@[simp] theorem zrj(a b:Int)(l:List V)(K:Int→Int→List V→Option R):onCells (R:=R) [CT.int,CT.int,CT.slice (some 3)] [.int a, .int b, .vec .plain (some 3) l] K=K a b l:=rfl
@[simp] theorem zqZ(t:Tok)(K:Int→ByteArray→Option R):Zg (R:=R) [CT.int,CT.str] (za2 t) K=K t.1 (ba t.2):=rfl
@[simp] theorem zrk(s:ByteArray)(a b:Int)(l:List V)(K:ByteArray→Int→Int→List V→Option R):Zg (R:=R) [CT.str,CT.int,CT.int,CT.slice (some 3)] (.agg [.str s, .int a, .int b, .vec .plain (some 3) l]) K=K s a b l:=rfl
@[simp] theorem zrl(d:D)(K:ByteArray→Int→Int→List V→Option R):Zg (R:=R) [CT.str,CT.int,CT.int,CT.slice (some 3)] (zd0 d) K=K (ba d.name) d.t.k d.t.h (Z0 d.t.args):=rfl
@[simp] theorem zrm(d:D)(K:Int→Int→List V→Option R):YX (zd0 d) (fun c=>gd (decide (4≤c.length)) (onCells (R:=R) [CT.int,CT.int,CT.slice (some 3)] (List.take 3 (List.drop 1 c)) K))=K d.t.k d.t.h (Z0 d.t.args):=rfl
@[simp] theorem zrn(d:D)(K:ByteArray→Option R):YX (zd0 d) (fun c=>gd (decide (1≤c.length)) (YW (AM.partOf c 0 none) K))=K (ba d.name):=rfl
@[simp] theorem zqM(v:V)(l:List V):YR (v::l) 0=v:=rfl
@[simp] theorem zqG(b:Bool)(x:Option R):bc b x x=x:=by cases b<;>rfl
@[simp] theorem zql(k h:Int)(l:List T):(T.mk k h l).args=l:=rfl
@[simp] theorem zqN(k h:Int)(l:List T):(T.mk k h l).k=k:=rfl
@[simp] theorem zqO(k h:Int)(l:List T):(T.mk k h l).h=h:=rfl
@[simp] theorem zro(t:Tok)(K:Int→Option R):YX (za2 t) (fun c=>gd (decide (1≤c.length)) (Z2 (AM.partOf c 0 none) K))=K t.1:=rfl
@[simp] theorem zrp(t:Tok)(K:ByteArray→Option R):YX (za2 t) (fun c=>gd (decide (2≤c.length)) (YW (AM.partOf c 1 none) K))=K (ba t.2):=rfl
@[simp] theorem zqP(x:Res)(st:St)(K:Res→Option R):ZH (x::st) 0 K=K x:=rfl
@[simp] theorem zqQ(x y:Res)(st:St)(K:Res→Option R):ZH (x::y::st) 1 K=K y:=rfl
@[simp] theorem zqR(m:AM.Mode)(s:PS)(K:List V→Option R):ZS (Y0 m s) K=K [.vec .plain (some 2) (Zj s.l), .vec m (some 4) (ZZ s.s), .int s.e]:=rfl
@[simp] theorem cl0(sh:Sh)(l:List V)(b c:V):Zm (AM.partOf [.vec .plain sh l,b,c] 0 none)= .vec .plain sh l:=rfl
@[simp] theorem cl1(sh:Sh)(m:AM.Mode)(l:List V)(a c:V):Zm (AM.partOf [a, .vec m sh l,c] 1 none)= .vec .plain sh l:=by cases m<;>rfl
@[simp] theorem cl2(a b:V)(n:Int):Zm (AM.partOf [a,b, .int n] 2 none)= .int n:=rfl
@[simp] theorem zqm(a b c d:V):setCells [a,b,c] 0 [d]=[d,b,c]:=rfl
@[simp] theorem zqn(a b c d:V):setCells [a,b,c] 1 [d]=[a,d,c]:=rfl
@[simp] theorem zqo(a b c d:V):setCells [a,b,c] 2 [d]=[a,b,d]:=rfl
@[simp] theorem zq8(t:Tok)(r:List Tok):YR (Zj (t::r)) 0=za2 t:=rfl
@[simp] theorem zpi(t:Tok)(r:List Tok):Zj (t::r)=za2 t::Zj r:=rfl
@[simp] theorem znm(r:List Tok):(Zj r).take r.length=Zj r:=by rw[←Xs r,List.take_length]
@[simp] theorem zpS(t:V)(r:List Tok):(t::Zj r).take (r.length+1)=t::Zj r:=by rw[List.take_succ_cons,znm]
@[simp] theorem zra(d:D)(K:Int→Int→List V→Option R):YX (zd0 d) (fun c=>gd (decide (4≤c.length)) (onCells (R:=R) [CT.int,CT.int,CT.slice (some 3)] (List.take 3 c.tail) K))=K d.t.k d.t.h (Z0 d.t.args):=rfl
@[simp] theorem zq9(x:Bytes):((ba x).toList==[116,121,112,101])=decide (x=typ):=by rw[JA];by_cases h:x=typ<;>simp_all[typ]
@[simp] theorem zqA(x:Bytes):((ba x).toList==ByteArray.toList {data:= #[116,121,112,101]})=decide (x=typ):=zjS x typ
@[simp] theorem zrb:V.str {data:= #[40]}=V.str (ba [40]):=rfl
@[simp] theorem zrc:V.str {data:= #[41]}=V.str (ba [41]):=rfl
@[simp] theorem zrd:V.str {data:= #[46]}=V.str (ba [46]):=rfl
@[simp] theorem zre:V.str {data:= #[58]}=V.str (ba [58]):=rfl
@[simp] theorem zrf:V.str {data:= #[91]}=V.str (ba [91]):=rfl
@[simp] theorem zrg:V.str {data:= #[93]}=V.str (ba [93]):=rfl
@[simp] theorem zqS:V.str {data:= #[123]}=V.str (ba [123]):=rfl
@[simp] theorem zqT:V.str {data:= #[125]}=V.str (ba [125]):=rfl
@[simp] theorem zrq:V.str {data:= #[]}=V.str (ba []):=rfl
@[simp] theorem zqU(t:T)(K:Int→Int→Option R):Zg (R:=R) [CT.int,CT.int,CT.nil (some 3)] (.agg [.int t.k, .int t.h, .vec .full (some 3) []]) K=K t.k t.h:=rfl
@[simp] theorem zqB(n:Nat):(1:Int)≤n+1:=by omega
@[simp] theorem zqp(n:Nat):(0:Int)<n+1:=by omega
@[simp] theorem zqq(n:Nat): ¬((n:Int)+1=0):=by omega
@[simp] theorem zqH(n:Nat):((n:Int)+1).toNat=n+1:=by omega
end
end Go.Ama
namespace Go.Ama
open Go Go.AM
end Go.Ama
namespace Go.Ama
open Go Go.AM
def var(i:Nat):T:= .mk 4 i []
def vars(n:Nat):List T:=(List.range n).reverse.map var
end Go.Ama
namespace Go.Ama
open Go Go.AM
@[simp] theorem zqV(a b:V)(l:List V):YR (a::b::l) 1=b:=rfl
structure M where
 ctx:List T
 t:T
 param:Bool
def zl5(m:M):V:= .agg [.vec .plain (some 3) (Z0 m.ctx), .int m.t.k, .int m.t.h, .vec .plain (some 3) (Z0 m.t.args), .bool m.param]
def JX(l:List M):List V:=l.map zl5
@[simp] theorem zpj(l:List M):(JX l).length=l.length:=by simp[JX]
@[simp] theorem zqr:JX []=[]:=rfl
@[simp] theorem zpk(a b:List M):JX (a++b)=JX a++JX b:=by simp[JX]
@[simp] theorem zpT(a:M)(b:List M):JX (a::b)=zl5 a::JX b:=rfl
theorem zgC(n:Nat)(m:M):below n (zl5 m)=true:=by simp[zl5,below,Zu,QL]
@[simp] theorem zk0(n:Nat): ∀l:List M,Zu n (JX l)=true
 |[]=>rfl
 |d::l=>by simp[Zu,zgC,zk0 n l]
section
variable{R:Type}
@[simp] theorem onM(m:M)(K:List V→Int→Int→List V→Bool→Option R):Zg (R:=R) [CT.slice (some 3),CT.int,CT.int,CT.slice (some 3),CT.bool] (zl5 m) K=K (Z0 m.ctx) m.t.k m.t.h (Z0 m.t.args) m.param:=rfl
@[simp] theorem zrr(l l2:List V)(a b:Int)(c:Bool)(K:List V→Int→Int→List V→Bool→Option R):Zg (R:=R) [CT.slice (some 3),CT.int,CT.int,CT.slice (some 3),CT.bool] (.agg [.vec .plain (some 3) l, .int a, .int b, .vec .plain (some 3) l2, .bool c]) K=K l a b l2 c:=rfl
end
structure Cs where
 ms:List M
 q:T
 t:T
def zon(c:Cs):V:= .agg [.vec .plain (some 5) (JX c.ms), .int c.q.k, .int c.q.h, .vec .plain (some 3) (Z0 c.q.args), .int c.t.k, .int c.t.h, .vec .plain (some 3) (Z0 c.t.args)]
def zde(l:List Cs):List V:=l.map zon
@[simp] theorem zpl(l:List Cs):(zde l).length=l.length:=by simp[zde]
@[simp] theorem zqs:zde []=[]:=rfl
@[simp] theorem zpm(a b:List Cs):zde (a++b)=zde a++zde b:=by simp[zde]
@[simp] theorem zpU(a:Cs)(b:List Cs):zde (a::b)=zon a::zde b:=rfl
theorem zgD(n:Nat)(m:Cs):below n (zon m)=true:=by simp[zon,below,Zu,QL]
@[simp] theorem zk1(n:Nat): ∀l:List Cs,Zu n (zde l)=true
 |[]=>rfl
 |d::l=>by simp[Zu,zgD,zk1 n l]
section
variable{R:Type}
@[simp] theorem onC(c:Cs)(K:List V→Int→Int→List V→Int→Int→List V→Option R):Zg (R:=R) [CT.slice (some 5),CT.int,CT.int,CT.slice (some 3),CT.int,CT.int,CT.slice (some 3)] (zon c) K=K (JX c.ms) c.q.k c.q.h (Z0 c.q.args) c.t.k c.t.h (Z0 c.t.args):=rfl
@[simp] theorem zqt(sh:Sh)(es:List V)(r:Nat)(K:List V→Nat→Option R):zlD sh (.spr sh es r) K=K es r:=by show(if sh=sh then K es r else none)=_;rw[if_pos rfl]
@[simp] theorem zo3(sh:Sh)(n q:Nat)(K:Sh→Nat→Nat→Option R):zct (.spare sh n q) K=K sh n q:=rfl
end
def zpV(t:T):Int:=if(split t).2.k=2 then(split t).2.h else-1
def zdl(f:Int)(t:T):Bool:=decide (0≤f)&&decide (zpV t=f)
end Go.Ama
namespace Go.Ama
open Go Go.AM
end Go.Ama
namespace Go.Ama
open Go Go.AM
end Go.Ama
namespace Go.Ama
open Go Go.AM
end Go.Ama
namespace Go.Ama
open Go Go.AM
structure Cal where
 f:Int
 ext:List T
 theta:List T
 arg:T
structure Cl where
 metas:List M
 theta:List T
 p:T
 calls:List Cal
 r:T
structure Fun1 where
 name:Bytes
 schema:List T
 delta:List M
 psi:List T
 a:T
 phi:List T
 b:T
 total:Bool
 clauses:List Cl
def zf9(c:Cal):V:= .agg [.int c.f, .vec .plain (some 3) (Z0 c.ext), .vec .plain (some 3) (Z0 c.theta), .int c.arg.k, .int c.arg.h, .vec .plain (some 3) (Z0 c.arg.args)]
def zcq(l:List Cal):List V:=l.map zf9
def zmc(c:Cl):V:= .agg [.vec .plain (some 5) (JX c.metas), .vec .plain (some 3) (Z0 c.theta), .int c.p.k, .int c.p.h, .vec .plain (some 3) (Z0 c.p.args), .vec .plain (some 6) (zcq c.calls), .int c.r.k, .int c.r.h, .vec .plain (some 3) (Z0 c.r.args)]
def ziU(l:List Cl):List V:=l.map zmc
def zoo(f:Fun1):V:= .agg [.str (ba f.name), .vec .plain (some 3) (Z0 f.schema), .vec .plain (some 5) (JX f.delta), .vec .plain (some 3) (Z0 f.psi), .int f.a.k, .int f.a.h, .vec .plain (some 3) (Z0 f.a.args), .vec .plain (some 3) (Z0 f.phi), .int f.b.k, .int f.b.h, .vec .plain (some 3) (Z0 f.b.args), .bool f.total, .vec .plain (some 9) (ziU f.clauses)]
def zl6(l:List Fun1):List V:=l.map zoo
@[simp] theorem znt(l:List Cal):(zcq l).length=l.length:=by simp[zcq]
@[simp] theorem zo4(l:List Cl):(ziU l).length=l.length:=by simp[ziU]
@[simp] theorem zo5(l:List Fun1):(zl6 l).length=l.length:=by simp[zl6]
theorem zcA{α:Type}{e:α→V}{n:Nat}(h: ∀a,below n (e a)=true): ∀l:List α,Zu n (l.map e)=true
 |[]=>rfl
 |a::l=>by simp[Zu,h a,zcA h l]
@[simp] theorem zho(n:Nat)(c:Cal):below n (zf9 c)=true:=by simp[zf9,below,Zu]
@[simp] theorem zop(n:Nat)(l:List Cal):Zu n (zcq l)=true:=zcA (zho n) l
@[simp] theorem zk2(n:Nat)(c:Cl):below n (zmc c)=true:=by simp[zmc,below,Zu]
@[simp] theorem zpn(n:Nat)(l:List Cl):Zu n (ziU l)=true:=zcA (zk2 n) l
@[simp] theorem zk3(n:Nat)(f:Fun1):below n (zoo f)=true:=by simp[zoo,below,Zu]
@[simp] theorem zpo(n:Nat)(l:List Fun1):Zu n (zl6 l)=true:=zcA (zk3 n) l
attribute [simp] zgC zg0 zan zgD
section
variable{R:Type}
@[simp] theorem zqW(c:Cal)(K:Int→List V→List V→Int→Int→List V→Option R):Zg (R:=R) [CT.int,CT.slice (some 3),CT.slice (some 3),CT.int,CT.int,CT.slice (some 3)] (zf9 c) K=K c.f (Z0 c.ext) (Z0 c.theta) c.arg.k c.arg.h (Z0 c.arg.args):=rfl
@[simp] theorem zrs(c:Cl)(K:List V→List V→Int→Int→List V→List V→Int→Int→List V→Option R):Zg (R:=R) [CT.slice (some 5),CT.slice (some 3),CT.int,CT.int,CT.slice (some 3),CT.slice (some 6),CT.int,CT.int,CT.slice (some 3)] (zmc c) K=K (JX c.metas) (Z0 c.theta) c.p.k c.p.h (Z0 c.p.args) (zcq c.calls) c.r.k c.r.h (Z0 c.r.args):=rfl
@[simp] theorem zrt(m:M)(K:List V→Option R):YX (zl5 m) (fun c=>gd (decide (1≤c.length)) (Ys (some 3) (AM.partOf c 0 none) K))=K (Z0 m.ctx):=by
 show gd true (Ys (some 3) (.vec .plain (some 3) (Z0 m.ctx)) K)=_
 simp
@[simp] theorem zru(m:M)(K:Int→Int→List V→Option R):YX (zl5 m) (fun c=>gd (decide (4≤c.length)) (onCells (R:=R) [CT.int,CT.int,CT.slice (some 3)] (List.take 3 (List.drop 1 c)) K))=K m.t.k m.t.h (Z0 m.t.args):=rfl
end
end Go.Ama
namespace Go.Proofs.SW
open Go Go.AM Go.Ama
end Go.Proofs.SW
namespace Go.Proofs.SW
open Go Go.AM Go.Ama
set_option maxRecDepth 20000
theorem zoq{n:Nat}{cs:List V}(h:WT Tryd.prog n 5 cs): ∃c:UInt8,cs=[.ik .u8 (c.toNat:Int)]:=by
 cases n with
 |zero=>exact h.elim
 |succ n=>
  simp only[WT,Tryd.underlying5]at h
  obtain⟨z,h1,h2⟩:=h
  have h3:0≤z∧z≤255:=by simpa[Lit.wf,IntKind.min,IntKind.max,IntKind.signed,IntKind.bits]using h2
  refine⟨UInt8.ofNat z.toNat, ?_⟩
  rw[h1]
  have:((UInt8.ofNat z.toNat).toNat:Int)=z:=by
   rw[UInt8.toNat_ofNat']
   omega
  rw[this]
theorem zpW:shOf Tryd.prog 5=none:=by kernel_rfl
theorem zpp:shOf Tryd.prog 29=none:=by kernel_rfl
theorem zk4{v:V}(h:Shaped none v):AM.cellsOf v=[v]:=by cases v<;>first|rfl|exact h.elim
theorem znn{v:V}(h:(∃n,WT Tryd.prog n 29 (AM.cellsOf v))∧Shaped (shOf Tryd.prog 29) v): ∃b:Bytes,v= .vec .plain none (XY b):=by
 obtain⟨⟨n,h1⟩,h2⟩:=h
 rw[zpp]at h2
 rw[zk4 h2]at h1
 cases n with
 |zero=>exact h1.elim
 |succ n=>
  simp only[WT,Tryd.underlying29]at h1
  obtain⟨es,he,_,hes⟩:=h1
  simp only[List.cons.injEq,and_true]at he
  subst he
  rw[zpW]at hes⊢
  have: ∀es:List V,(∀v∈es,Shaped none v∧WT Tryd.prog n 5 (AM.cellsOf v))→ ∃b:Bytes,es=XY b:=by
   intro es
   induction es with
   |nil=>intro _;exact⟨[],rfl⟩
   |cons v es ih=>
    intro h
    obtain⟨k1,k2⟩:=h v (by simp)
    obtain⟨b,rfl⟩:=ih fun u hu=>h u (by simp[hu])
    rw[zk4 k1]at k2
    obtain⟨c,hc⟩:=zoq k2
    simp only[List.cons.injEq,and_true]at hc
    exact⟨c::b,by rw[hc];rfl⟩
  obtain⟨b,rfl⟩:=this es hes
  exact⟨b,rfl⟩
theorem zqC{f:Nat}{args:List V}(h:Ev f args (.bool true)): ∃m st,(Xh Tryd.prog cfg ext m).call f args []=some (.ret (.bool true),st):=by
 obtain⟨m,hm⟩:=zoN h
 exact⟨m,[],hm⟩
end Go.Proofs.SW
namespace Go.Proofs.SW
open Go Go.AM Go.Ama
set_option maxRecDepth 20000
end Go.Proofs.SW
namespace Go.Proofs.SW
open Go Go.AM
set_option maxRecDepth 20000
theorem zei(O:Oracle)(l0:(List V)):Ze Tryd.prog cfg O 6 [.vec .plain none l0] []=
 Za (ZD O 7 []) fun r1=>Z6 r1 fun b2=>bc (!b2) (some (Out.ret (V.bool b2),[])) (bc (decide ((↑l0.length:Int)>3000)) (some (Out.ret (V.bool b2),[]))
 (Za (ZD O 19 []) fun r3=>Ys (some 4) r3 fun l4=>Za (ZD O 18 [V.vec .plain none l0,V.vec .plain (some 4) l4]) fun r5=>ZP r5 fun c6=>
 Zy c6 fun v7 c8=>Zg [CT.int,CT.int,CT.slice (some 3)] v7 fun n9 n10 l11=>Zy c8 fun v12 c13=>Z2 v12 fun n14=>Zs c13 (bc (n14 !=0) (some (Out.ret
 (V.bool ((↑l11.length:Int)==0)),[])) (Za (ZD O 19 []) fun r15=>Ys (some 4) r15 fun l16=>Za (ZD O 11 [V.agg [V.int n9,V.int n10,V.vec
 .plain (some 3) l11],V.vec .plain (some 4) l16]) fun r17=>ZP r17 fun c18=>Zy c18 fun v19 c20=>Ys none v19 fun l21=>Zy c20 fun v22 c23=>Z2 v22 fun n24
 =>Zs c23 (Za (ZD O 19 []) fun r25=>Ys (some 4) r25 fun l26=>Za (ZD O 18 [V.vec .plain none l21,V.vec .plain (some 4) l26]) fun r27=>
 ZP r27 fun c28=>Zy c28 fun v29 c30=>Zg [CT.int,CT.int,CT.slice (some 3)] v29 fun n31 n32 l33=>Zy c30 fun v34 c35=>Z2 v34 fun n36=>Zs c35 (bc
 (n24==0) (bc (decide ((↑l21.length:Int)>20000)) (some (Out.ret (V.bool true),[])) (bc (n36==0) (Za (ZD O 20 [V.agg [V.int n9,V.int n10,V.vec .plain (some
 3) l11],V.agg [V.int n31,V.int n32,V.vec .plain (some 3) l33]]) fun r37=>Z6 r37 fun b38=>some (Out.ret (V.bool b38),[])) (some (Out.ret (V.bool false),[])))) (some
 (Out.ret (V.bool false),[])))))))):=by kernel_rfl
end Go.Proofs.SW
namespace Go.Proofs.SW
open Go Go.AM Go.Ama
set_option maxRecDepth 100000
theorem zpX{sig:List D}(hl:sig.length≤1000)(hs: ∀d∈sig,d.name.length≤100)(t:T)(ht:t.size≤1099511627776):
  ZD W 11 [.agg [.int t.k, .int t.h, .vec .plain (some 3) (Z0 t.args)], .vec .plain (some 4) (ZZ sig)]=some (.tup [.vec .plain none (XY (JV t sig).1), .int (JV t sig).2]):=by
 have h:=(zhn hl hs t ht).p (by rw[Zu,J9];simp[Zu,below,zan]) (by simp[below,Zu,Ql])
 rw[Zt]at h
 exact h
end Go.Proofs.SW
namespace Go.Proofs.SW
open Go Go.AM Go.Ama
set_option maxRecDepth 100000
section
variable(sig:List D)(hl:sig.length≤1000)(f e:Int)(t:T)(hf:f=0→ ∀d∈sig,nameOK d.name=true∧ziQ d.name sig≤1)
include hl hf
end
end Go.Proofs.SW
namespace Go.Proofs.SW
open Go Go.AM Go.Ama
theorem zgE: ∀{l:List Tok} {t:Tok},t∈l→t.2.length≤ZT l
 |(k,s)::l,t,h=>by
  rcases List.mem_cons.1 h with rfl|h
  ·simp only[ZT];omega
  ·have:=zgE h
   simp only[ZT];omega
theorem zmd(b:Bytes):(zgt b).1.getD []=(X1 b).1∧(zgt b).2=(X1 b).2:=by
 unfold zgt X1
 split
 ·exact⟨rfl,rfl⟩
 ·cases Xi b<;>exact⟨rfl,rfl⟩
theorem zl7(b:Bytes):(X1 b).1.length≤20000∧ ∀t∈(X1 b).1,t.2.length≤1048576:=by
 unfold X1
 split
 ·exact⟨by simp,by simp⟩
 ·cases h:Xi b with
  |none=>exact⟨by simp,by simp⟩
  |some l=>
   have h1:=zjR b l h
   have h2:=zaL l (zlT b l h)
   refine⟨by simp only;omega,fun t ht=> ?_⟩
   have ht:t∈l:=ht
   exact Nat.le_trans (zgE ht) (by omega)
theorem zpY(b:Bytes)(h:b.length≤1048576):ZD W 32 [.vec .plain none (XY b)]=some (.tup [.vec .plain (some 2) (Zj (X1 b).1), .int (X1 b).2]):=by
 have:=(zke b h).p (by simp[Zu,below,Ql]) (by simp[ziL,below,Zu,Ja])
 rw[ziL,(zmd b).1,(zmd b).2]at this
 exact this
theorem zno(b:Bytes)(sig:List D)(hb:b.length≤1048576)(hs:sig.length≤999):
  Ev 18 [.vec .plain none (XY b), .vec .plain (some 4) (ZZ sig)] (.tup [enc (Ya b sig).1, .int (Ya b sig).2]):=by
 have hget: ∀{R:Type} (y:Res) (K:Res→Option R),ZH [y] 0 K=K y:=fun y K=>rfl
 have h1g: ∀{R:Type} (a b c:V) (X:Option R),gd (decide (1≤ [a,b,c].length)&&true) X=X:=fun a b c X=>rfl
 have h3g: ∀{R:Type} (a b c:V) (X:Option R),gd (decide (3≤ [a,b,c].length)&&true) X=X:=fun a b c X=>rfl
 have c0: ∀(s:PS),Zm (AM.partOf [V.vec .plain (some 2) (Zj s.l),V.vec .plain (some 4) (ZZ s.s),V.int s.e] 0 none)= .vec .plain (some 2) (Zj s.l):=fun s=>rfl
 have c2: ∀(s:PS),Zm (AM.partOf [V.vec .plain (some 2) (Zj s.l),V.vec .plain (some 4) (ZZ s.s),V.int s.e] 2 none)= .int s.e:=fun s=>rfl
 obtain⟨z1,z2⟩:=zl7 b
 have hw:=zl0 .plain ⟨(X1 b).1,sig,(X1 b).2⟩ (by simp only;omega) (by simp only;omega)
 unfold Ev Ya
 rw[C,ziR,zpY b hb,Zb,Yr,Qw,Y6,Qw,YL,Ye]
 have hw':W.call 39 [V.ref 0 0] [Res.box [V.vec .plain (some 2) (Zj (X1 b).1),V.vec .plain (some 4) (ZZ sig),V.int (X1 b).2]]=_:=hw
 rw[hw',Zb,Zd,Z3,←Zt]
 dsimp only
 generalize(PS.whole ⟨(X1 b).1,sig,(X1 b).2⟩)=r
 obtain⟨t,s⟩:=r
 dsimp only
 have fin: ∀s:PS,(bc (s.e !=0) (some (Out.ret (V.tup [V.agg [V.int 0,V.int 0,V.vec .plain (some 3) []],V.int s.e]),([]:St))) (gd (below 0 (V.tup [enc t,V.int 0])&&ZO 0 []) (some (Out.ret (V.tup [enc t,V.int 0]),[]))))=
   some (Out.ret (V.tup [enc (if s.e≠0 then(T0,s.e)else(t,0)).1,V.int (if s.e≠0 then(T0,s.e)else(t,(0:Int))).2]),[]):=by
  intro s
  rw[zlS]
  have hbl:below 0 (V.tup [enc t,V.int 0])=true:=by simp[below,Zu,J9]
  by_cases he:s.e=0
  ·simp only[he,decide_true,Bool.not_true,Zi,hbl,ne_eq,not_true_eq_false,if_false,Bool.true_and];rfl
  ·simp only[he,decide_false,Bool.not_false,Zo,ne_eq,not_false_eq_true,if_true];rfl
 have hf:=QQ .plain s 8
 by_cases hl:s.l=[]
 ·have hp:decide ((((Zj s.l).length:Nat):Int)>0)=false:=by simp[hl,Zj]
  have:=fin s
  rw[show(if s.l≠ []then s.fail 8 else s)=s from if_neg fun h=>h hl]
  simp only[hget,Y0,QM,h1g,h3g,c0,c2,Y6,YL,hp,Zi,this]
 ·have hp:decide ((((Zj s.l).length:Nat):Int)>0)=true:=by simp;exact List.length_pos_iff.2 hl
  have:=fin (s.fail 8)
  unfold Y0 at hf
  rw[show(if s.l≠ []then s.fail 8 else s)=s.fail 8 from if_pos hl]
  simp only[hget,Y0,QM,h1g,h3g,c0,c2,Y6,YL,hp,Zo,hf,Zb,Zd,Yr,Ye,this]
end Go.Proofs.SW
namespace Go.Ama
open Go Go.AM
theorem zme{x:Bytes}: ∀{bs:List Bytes} {i:Nat},zdy x bs=some i→i<bs.length
 |[],i,h=>by cases h
 |y::bs,i,h=>by
  unfold zdy at h
  split at h
  ·cases h;simp
  ·cases hq:zdy x bs with
   |none=>rw[hq]at h;cases h
   |some j=>rw[hq]at h;cases h;have:=zme hq;simp;omega
theorem zcr(g:Int→T→Bool)(i:Int): ∀l:List T,Xe g i false l=l.all (allW g i)
 |[]=>rfl
 |[t]=>by simp[Xe]
 |t::u::l=>by
  have:=zcr g i (u::l)
  simp only[Xe,this,List.all_cons]
def Sc(i:Nat)(t:T):Prop:=allW (zoX 0 0) i t=true
section
variable{term:List Bytes→PS→T×PS}{bs:List Bytes}(ht: ∀s,Sc bs.length (term bs s).1)(hb:bs.length≤2000)
include ht hb
end
theorem zor{s:PS}(h:s.whole.2.e=0):may s.whole.1=true:=by
 unfold PS.whole at*
 dsimp only at*
 split at h
 ·assumption
 ·exact absurd h (zf8 (by decide) _)
theorem QD{s r:PS}(h:Mono s r)(hr:r.e=0):s.e=0:=by
 rcases Decidable.em (s.e=0)with he|he
 ·exact he
 ·rw[h.err he]at hr;exact hr
end Go.Ama
namespace Go.Ama
open Go.AM (T)
def PS.more(s:PS)(x:List Tok):PS:={s with l:=s.l++x}
def zpZ(f:PS→T×PS):Prop:= ∀s x,(f s).2.e=0→(f s).2.l≠ []→f (s.more x)=((f s).1,(f s).2.more x)
section
variable{term:List Bytes→PS→T×PS}(hm: ∀bs s,Mono s (term bs s).2)(hb: ∀bs,zpZ (term bs))
include hm hb
omit hb in
end
end Go.Ama
namespace Go.Ama
open Go.AM (T)
structure Sim(φ:PS→PS)(ψ:List Bytes→List Bytes)(G:PS→Prop):Prop where
 mono: ∀{s r},G s→Mono s r→G r
 cons: ∀x bs,ψ (x::bs)=x::ψ bs
 is: ∀{s} c,G s→(c=[40]∨c=[91]∨c=[123])→(φ s).is c=s.is c
 named: ∀{s},G s→(φ s).named=s.named
 take: ∀{s} c,G s→(s.take c).e=0→(φ s).take c=φ (s.take c)
 name: ∀{s},G s→s.name.2.e=0→(φ s).name=(s.name.1,φ s.name.2)
 head: ∀{s} bs,G s→s.name.2.e=0→(s.name.2.head s.name.1 bs).2.e=0→(φ s.name.2).head s.name.1 (ψ bs)=((s.name.2.head s.name.1 bs).1,φ (s.name.2.head s.name.1 bs).2)
 len: ∀s,s.l.length≤(φ s).l.length
 err: ∀s,(φ s).e=s.e
section
variable{φ:PS→PS}{ψ:List Bytes→List Bytes}{G:PS→Prop}(S:Sim φ ψ G)
include S
theorem Sim.alone{s:PS}(g:G s)(he:s.alone.e=0):(φ s).alone=φ s.alone:=by
 unfold PS.alone at*
 rw[S.named g,S.is [40] g (.inl rfl)]
 split
 ·rename_i h;rw[if_pos h]at he;exact absurd he zhL
 ·rfl
def zos(φ:PS→PS)(G:PS→Prop)(f f':PS→T×PS):Prop:= ∀s,G s→(f s).2.e=0→f' (φ s)=((f s).1,φ (f s).2)
section
variable{term term':List Bytes→PS→T×PS}(hm: ∀bs s,Mono s (term bs s).2)(hm': ∀bs s,Mono s (term' bs s).2)(hb: ∀bs,zos φ G (term bs) (term' (ψ bs)))
include hm hb
theorem Sim.inner(bs:List Bytes):zos φ G (PS.inner term bs) (PS.inner term' (ψ bs)):=by
 intro s g he
 unfold PS.inner at*
 dsimp only at*
 have e2:=QD (Zp [41] _) he
 have e1:=QD (hm bs (s.take [40])) e2
 have g1:=S.mono g (Zp [40] s)
 have g2:=S.mono g1 (hm bs _)
 rw[S.take _ g e1,hb bs _ g1 e2,S.take _ g2 he]
theorem Sim.atom(bs:List Bytes):zos φ G (PS.atom term bs) (PS.atom term' (ψ bs)):=by
 intro s g he
 unfold PS.atom at*
 rw[S.is [40] g (.inl rfl)]
 split
 ·rename_i h
  rw[if_pos h]at he
  exact S.inner hm hb bs s g he
 ·rename_i h
  rw[if_neg h]at he
  dsimp only at*
  by_cases ht:s.name.1=typ
  ·rw[if_pos ht]at he
   exact absurd he zhL
  ·rw[if_neg ht]at he⊢
   have e1:=QD (X9 _ _ _) he
   rw[S.name g e1]
   dsimp only
   rw[if_neg ht,S.head bs g e1 he]
include hm'
theorem Sim.args(bs:List Bytes): ∀m k s,s.l.length≤m→(φ s).l.length≤k→G s→(PS.args term bs m s).2.e=0→PS.args term' (ψ bs) k (φ s)=((PS.args term bs m s).1,φ (PS.args term bs m s).2):=by
 intro m
 induction m with
 |zero=>
  intro k s h h' g he
  have hnil:s.l=[]:=List.eq_nil_of_length_eq_zero (by omega)
  have h1:(φ s).named=false:=by rw[S.named g];simp[PS.named,hnil]
  have h2:(φ s).is [40]=false:=by rw[S.is [40] g (.inl rfl)];simp[PS.is,hnil]
  cases k<;>simp[PS.args,h1,h2]
 |succ m ih=>
  intro k s h h' g he
  by_cases hc:(s.named||s.is [40])=true
  ·have hlt:=ziT hm (bs:=bs) hc
   have hc':((φ s).named||(φ s).is [40])=true:=by rw[S.named g,S.is [40] g (.inl rfl)];exact hc
   have hlt':=ziT hm' (bs:=ψ bs) hc'
   obtain⟨k,rfl⟩: ∃j,k=j+1:=⟨k-1,by omega⟩
   unfold PS.args at he⊢
   rw[if_pos hc]at he
   rw[if_pos hc,if_pos hc']
   dsimp only at*
   have e1:=QD (zc9 hm bs m _) he
   have ha:=S.atom hm hb bs s g e1
   rw[ha]at hlt'⊢
   dsimp only at*
   rw[ih k _ (by omega) (by omega) (S.mono g (zaO hm bs s)) he]
  ·have hc': ¬((φ s).named||(φ s).is [40])=true:=by rw[S.named g,S.is [40] g (.inl rfl)];exact hc
   have e1:PS.args term bs (m+1) s=([],s):=by unfold PS.args;rw[if_neg hc]
   have e2:PS.args term' (ψ bs) k (φ s)=([],φ s):=by
    cases k with
    |zero=>rfl
    |succ k=>unfold PS.args;rw[if_neg hc']
   rw[e1,e2]
theorem Sim.atoms(bs:List Bytes):zos φ G (PS.atoms term bs) (PS.atoms term' (ψ bs)):=by
 intro s g he
 unfold PS.atoms at*
 rw[S.is [40] g (.inl rfl)]
 split
 ·rename_i h
  rw[if_pos h]at he
  dsimp only at*
  have e1:=QD (JW _) he
  rw[S.inner hm hb bs s g e1,S.alone (S.mono g (zd2 hm bs s)) he]
 ·rename_i h
  rw[if_neg h]at he
  dsimp only at*
  by_cases h1:s.name.2.e≠0
  ·rw[if_pos h1]at he
   exact absurd he h1
  ·rw[if_neg h1]at he⊢
   have e1:s.name.2.e=0:=by simpa using h1
   have g1:=S.mono g (ZG s)
   rw[S.name g e1]
   dsimp only
   rw[S.err,if_neg h1]
   split
   ·rename_i h2
    rw[if_pos h2]at he
    rw[S.alone g1 he]
   ·rename_i h2
    rw[if_neg h2]at he
    have e2:=QD (zc9 hm bs _ _) he
    rw[S.head bs g e1 e2]
    dsimp only
    rw[S.args hm hm' hb bs _ _ _ (Nat.le_refl _) (Nat.le_refl _) (S.mono g1 (X9 _ _ _)) he]
end
theorem Sim.term: ∀n bs,zos φ G (PS.term n bs) (PS.term n (ψ bs))
 |0,bs=>fun s _ he=>absurd he (zf8 (by decide) _)
 |n+1,bs=>fun s g he=>by
  have ih:=Sim.term n
  unfold PS.term at*
  rw[S.is [123] g (.inr (.inr rfl)),S.is [91] g (.inr (.inl rfl))]
  split
  ·rename_i h
   rw[if_pos h]at he
   dsimp only at*
   have m1:=Zp [123] s
   have m2:=ZG (s.take [123])
   have m3:=Zp [58] (s.take [123]).name.2
   have m4:=YM n bs ((s.take [123]).name.2.take [58])
   have m5:=Zp [125] (PS.term n bs ((s.take [123]).name.2.take [58])).2
   have m6:=YM n ((s.take [123]).name.1::bs) ((PS.term n bs ((s.take [123]).name.2.take [58])).2.take [125])
   have e5:=QD m6 he
   have e4:=QD m5 e5
   have e3:=QD m4 e4
   have e2:=QD m3 e3
   have e1:=QD m2 e2
   have g1:=S.mono g m1
   have g2:=S.mono g1 m2
   have g3:=S.mono g2 m3
   have g4:=S.mono g3 m4
   have g5:=S.mono g4 m5
   rw[S.take _ g e1,S.name g1 e2]
   dsimp only
   rw[S.take _ g2 e3,ih bs _ g3 e4]
   dsimp only
   rw[S.take _ g4 e5,←S.cons,ih _ _ g5 he]
  ·rename_i h
   rw[if_neg h]at he
   split
   ·rename_i h'
    rw[if_pos h']at he
    dsimp only at*
    have m1:=Zp [91] s
    have m2:=ZG (s.take [91])
    have m3:=Zp [93] (s.take [91]).name.2
    have m4:=YM n ((s.take [91]).name.1::bs) ((s.take [91]).name.2.take [93])
    have e3:=QD m4 he
    have e2:=QD m3 e3
    have e1:=QD m2 e2
    have g1:=S.mono g m1
    have g2:=S.mono g1 m2
    have g3:=S.mono g2 m3
    rw[S.take _ g e1,S.name g1 e2]
    dsimp only
    rw[S.take _ g2 e3,←S.cons,ih _ _ g3 he]
   ·rename_i h'
    rw[if_neg h']at he
    exact S.atoms (YM n) (YM n) ih bs s g he
end
end Go.Ama
namespace Go.Ama
open Go.AM (T)
def zqX(f g:PS→T×PS):Prop:= ∀s,(g s).2.e=0→f s=g s∨(f s).2.e=4
theorem e4{s r:PS}(h:Mono s r)(h4:s.e=4):r.e=4:=by rw[h.err (by rw[h4];decide)];exact h4
theorem zhN(f:List Bytes→PS→T×PS)(bs:List Bytes)(m:Nat)(s:PS):PS.args f bs (m+1) s=if s.named||s.is [40]then((s.atom f bs).1::(PS.args f bs m (s.atom f bs).2).1,(PS.args f bs m (s.atom f bs).2).2)else([],s):=rfl
theorem zcB(n:Nat)(bs:List Bytes)(s:PS):PS.term (n+1) bs s=if s.is [123]then
   (.mk 1 0 [(PS.term n bs ((s.take [123]).name.2.take [58])).1,(PS.term n ((s.take [123]).name.1::bs) ((PS.term n bs ((s.take [123]).name.2.take [58])).2.take [125])).1],(PS.term n ((s.take [123]).name.1::bs) ((PS.term n bs ((s.take [123]).name.2.take [58])).2.take [125])).2)
  else if s.is [91]then
   (.mk 3 0 [(PS.term n ((s.take [91]).name.1::bs) ((s.take [91]).name.2.take [93])).1],(PS.term n ((s.take [91]).name.1::bs) ((s.take [91]).name.2.take [93])).2)
  else s.atoms (PS.term n) bs:=rfl
section
variable{f g:List Bytes→PS→T×PS}(hf: ∀bs s,Mono s (f bs s).2)(hg: ∀bs s,Mono s (g bs s).2)(hb: ∀bs,zqX (f bs) (g bs))
include hb
include hf hg
end
theorem znp{b:Bytes}{l:List Tok}(hb:b.length≤20000)(h:Xi b=some l):X1 b=(l,0):=by
 unfold X1
 rw[if_neg (by omega),h]
def finish(r:T×PS):T×Int:=if(if r.2.l≠ []then r.2.fail 8 else r.2).e≠0 then(T0,(if r.2.l≠ []then r.2.fail 8 else r.2).e)else(r.1,0)
theorem znq(b:Bytes)(sig:List D):Ya b sig=finish (PS.whole ⟨(X1 b).1,sig,(X1 b).2⟩):=rfl
theorem zot(s:PS):s.whole=((PS.term 120 [] s).1,if may (PS.term 120 [] s).1 then(PS.term 120 [] s).2 else(PS.term 120 [] s).2.fail 4):=rfl
theorem znr{b:Bytes}{sig:List D}{l:List Tok}(hb:b.length≤20000)(h:Xi b=some l):Ya b sig=finish (PS.whole ⟨l,sig,0⟩):=by
 rw[znq,znp hb h]
end Go.Ama
namespace Go.Ama
open Go Go.AM
def zk5(sig:List D)(h:Int):Int:=(split ((sig.map (·.t)).getD h.toNat T0)).2.k
def kindB(sig:List D)(_:Int)(t:T):Bool:=(decide (t.k≠2)||decide (zk5 sig t.h=0))&&(decide (t.k≠5)||decide (zk5 sig t.h≠0))
structure Good(sig:List D):Prop where
 name: ∀d∈sig,nameOK d.name=true
 nodup:(sig.map (·.name)).Nodup
def zfz:Nat→List Bytes
 |0=> []
 |d+1=>(95::Lib.decDigits d)::zfz d
def stop:List Tok→Bool
 |[]=>true
 |t::_=>decide (t.1=1)&&decide (t.2≠ [40])
theorem ziV{n:Nat}(h:n<100):Lib.decDigits n=if n<10 then[UInt8.ofNat (48+n)]else[UInt8.ofNat (48+n/10),UInt8.ofNat (48+n % 10)]:=by
 rw[Lib.decDigits]
 split
 ·rfl
 ·rw[Lib.decDigits,dif_pos (by omega)]
  rfl
theorem ziW: ∀a b:Fin 100,(if a.val<10 then[UInt8.ofNat (48+a.val)]else[UInt8.ofNat (48+a.val/10),UInt8.ofNat (48+a.val % 10)])=(if b.val<10 then[UInt8.ofNat (48+b.val)]else[UInt8.ofNat (48+b.val/10),UInt8.ofNat (48+b.val % 10)])→a=b:=by decide+kernel
theorem zou{a b:Nat}(ha:a<100)(hb:b<100)(h:Lib.decDigits a=Lib.decDigits b):a=b:=by
 rw[ziV ha,ziV hb]at h
 have:=ziW ⟨a,ha⟩ ⟨b,hb⟩ h
 exact congrArg Fin.val this
theorem zhO: ∀{d i:Nat},i<d→d≤100→zdy (95::Lib.decDigits i) (zfz d)=some (d-1-i)
 |d+1,i,hi,hd=>by
  simp only[zfz,zdy]
  by_cases h:i=d
  ·subst h
   rw[if_pos rfl];congr 1;omega
  ·rw[if_neg fun e=>h (zou (by omega) (by omega) (List.cons.inj e).2).symm,zhO (by omega) (by omega)]
   simp;omega
theorem zhP{x:Bytes}(h:x.head? ≠some 95): ∀d,zdy x (zfz d)=none
 |0=>rfl
 |d+1=>by
  simp only[zfz,zdy]
  rw[if_neg fun e=>h (by rw[←e];rfl),zhP h d]
  rfl
theorem zov: ∀{sig:List D} {i:Nat} (hi:i<sig.length),(sig.map (·.name)).Nodup→idx (sig[i]).name sig=some i
 |d::l,0,_,_=>by simp[idx]
 |d::l,i+1,hi,h=>by
  simp only[List.getElem_cons_succ,idx]
  have hi':i<l.length:=by simpa using hi
  rw[List.map_cons,List.nodup_cons]at h
  rw[if_neg fun e=>h.1 (by rw[e];exact List.mem_map.2 ⟨_,List.getElem_mem hi',rfl⟩),zov hi' h.2]
  rfl
section
variable{sig:List D}(G:Good sig)
include G
theorem zhQ{k h:Int}{d:Nat}{tk:Tok}(hh:0≤h)(hd:d≤100)(hT:YA sig k h d=some tk)(hk:kindB sig 0 (.mk k h [])=true)(l:List Tok):
  tk.1=0∧tk.2≠typ∧PS.head tk.2 (zfz d) ⟨l,sig,0⟩=(.mk k h [],⟨l,sig,0⟩):=by
 unfold YA at hT
 by_cases h4:k=4∧h<d
 ·rw[if_pos h4]at hT
  cases hT
  obtain⟨rfl,hlt⟩:=h4
  refine⟨rfl,by simp[Yg,typ], ?_⟩
  have:(Yg (d-1-h)).2=95::Lib.decDigits (d-1-h.toNat):=by
   simp only[Yg]
   congr 2
   omega
  unfold PS.head
  rw[this,zhO (by omega) hd]
  simp only[Prod.mk.injEq,and_true]
  congr 1
  omega
 ·rw[if_neg h4]at hT
  by_cases h2:(k=2∨k=5)∧h<sig.length
  ·rw[if_pos h2,List.getElem?_eq_getElem (by omega)]at hT
   cases hT
   have hi:h.toNat<sig.length:=by omega
   have hn:=G.name _ (List.getElem_mem hi)
   unfold nameOK at hn
   simp only[Bool.and_eq_true,decide_eq_true_eq]at hn
   refine⟨rfl,hn.1.2, ?_⟩
   unfold PS.head
   simp only[zhP hn.1.1.2 d,zov hi G.nodup]
   unfold kindB zk5 at hk
   simp only[Bool.and_eq_true,Bool.or_eq_true,T.k,T.h]at hk
   have hki:(if(split ((sig.map (·.t)).getD h.toNat T0)).2.k=0 then(2:Int)else 5)=k:=by
    rcases h2.1 with rfl|rfl
    ·rcases hk.1 with e|e
     ·exact absurd rfl (of_decide_eq_true e)
     ·exact if_pos (of_decide_eq_true e)
    ·rcases hk.2 with e|e
     ·exact absurd rfl (of_decide_eq_true e)
     ·exact if_neg (of_decide_eq_true e)
   rw[hki]
   simp only[Prod.mk.injEq,and_true]
   congr 1
   omega
  ·rw[if_neg h2]at hT
   cases hT
theorem zgF{l:List Tok}(h:stop l=true)(s:List D):PS.named ⟨l,s,0⟩=false∧PS.is [40] ⟨l,s,0⟩=false:=by
 cases l with
 |nil=>exact⟨rfl,rfl⟩
 |cons t l=>
  simp only[stop,Bool.and_eq_true,decide_eq_true_eq]at h
  simp[PS.named,PS.is,h.1,h.2]
theorem zhR: ∀(l:List T) (d:Nat),QB sig l d=true→l.length≤(Yx sig l d).length
 |[],_,_=>by simp
 |t::l,d,h=>by
  simp only[QB,Bool.and_eq_true]at h
  have:=zhR l d h.2
  simp only[Yx,List.length_cons,List.length_append]
  cases hs:QA t with
  |false=>simp only[cond_false,List.length_cons,List.length_append];omega
  |true=>
   obtain⟨k,hd,xs⟩:=t
   unfold QA at hs
   simp only[Bool.and_eq_true,decide_eq_true_eq,T.args,zlr,T.k,Bool.or_eq_true,beq_iff_eq]at hs
   have h1:=h.1
   unfold okW at h1
   rw[if_neg (by omega),if_neg (by omega),if_neg (by omega),Bool.and_eq_true]at h1
   have:1≤(words sig (.mk k hd xs) d).length:=by
    unfold words
    rw[if_neg (by omega),if_neg (by omega),if_neg (by omega)]
    cases hT:YA sig k hd d with
    |none=>rw[hT]at h1;cases h1.1
    |some x=>simp
   simp only[cond_true]
   omega
theorem JY: ∀(n:Nat) (t:T) (d:Nat) (rest:List Tok),XC t=true→okW sig t d=true→(∀i,allW (kindB sig) i t=true)→t.depth≤n→d+t.depth≤100→stop rest=true→
  PS.term n (zfz d) ⟨words sig t d++rest,sig,0⟩=(t,⟨rest,sig,0⟩)
 |0,t,d,rest,_,_,_,h,_,_=>by cases t;simp only[T.depth]at h;omega
 |n+1, .mk k h xs,d,rest,hn,ho,hk,hdn,hd,hst=>by
  simp only[XC,Bool.and_eq_true]at hn
  simp only[T.depth]at hdn hd
  unfold okW at ho
  have hk0:=hk 0
  simp only[allW,Bool.and_eq_true]at hk0
  unfold words
  by_cases h0:k=0
  ·subst h0
   have:=hn.1
   unfold zeL at this
   simp only[if_true,Bool.and_eq_true,decide_eq_true_eq]at this
   obtain⟨rfl,hx⟩:=this
   obtain rfl:=List.length_eq_zero_iff.1 hx
   obtain⟨h1,h2⟩:=zgF G hst sig
   rw[zcB]
   simp only[if_true,List.cons_append,List.nil_append]
   rw[if_neg (by simp[PS.is]),if_neg (by simp[PS.is])]
   unfold PS.atoms
   rw[if_neg (by simp[PS.is])]
   have hnm:(PS.name ⟨(0,typ)::rest,sig,0⟩)=(typ,⟨rest,sig,0⟩):=rfl
   simp only[hnm]
   rw[if_neg (by simp),if_pos trivial]
   unfold PS.alone
   rw[h1,h2]
   rfl
  ·rw[if_neg h0]at ho⊢
   by_cases h1:k=1
   ·subst h1
    rw[if_pos rfl]at ho⊢
    have hx:=hn.1
    unfold zeL at hx
    simp only[if_neg h0,if_true,Bool.and_eq_true,decide_eq_true_eq]at hx
    obtain⟨rfl,hx⟩:=hx
    match xs,hx,hn,ho,hk,hdn,hd with
    |[a,b],_,hn,ho,hk,hdn,hd=>
     simp only[zpa,Bool.and_eq_true]at ho
     simp only[YS,Bool.and_eq_true]at hn
     simp only[ZI]at hdn hd
     have hka: ∀i,allW (kindB sig) i a=true:=fun i=>by have:=hk i;simp only[allW,Xe,Bool.and_eq_true]at this;exact this.2.1
     have hkb: ∀i,allW (kindB sig) i b=true:=fun i=>by
      have:=hk (i-1);simp only[allW,Xe,Bool.and_eq_true,decide_true,Bool.true_or,cond_true]at this;rw[Int.sub_add_cancel]at this;exact this.2.2
     have ha:=JY n a d (YP 125::(words sig b (d+1)++rest)) hn.2.1 ho.1 hka (by omega) (by omega) (by simp[stop,YP])
     have hb:=JY n b (d+1) rest hn.2.2.1 ho.2 hkb (by omega) (by omega) hst
     rw[zcB]
     simp only[wPi,List.cons_append,List.append_assoc]
     rw[if_pos (by simp[PS.is,YP])]
     have e1:(PS.take [123] ⟨YP 123::Yg d::YP 58::(words sig a d++YP 125::(words sig b (d+1)++rest)),sig,0⟩).name=(95::Lib.decDigits d,⟨YP 58::(words sig a d++YP 125::(words sig b (d+1)++rest)),sig,0⟩):=by
      simp[PS.take,PS.token,PS.is,PS.name,PS.named,YP,Yg]
     have e2:PS.take [58] ⟨YP 58::(words sig a d++YP 125::(words sig b (d+1)++rest)),sig,0⟩=⟨words sig a d++YP 125::(words sig b (d+1)++rest),sig,0⟩:=by
      simp[PS.take,PS.token,PS.is,YP]
     have e3:PS.take [125] ⟨YP 125::(words sig b (d+1)++rest),sig,0⟩=⟨words sig b (d+1)++rest,sig,0⟩:=by
      simp[PS.take,PS.token,PS.is,YP]
     have hb':PS.term n ((95::Lib.decDigits d)::zfz d) ⟨words sig b (d+1)++rest,sig,0⟩=(b,⟨rest,sig,0⟩):=hb
     simp only[e1,e2,ha,e3,hb']
   ·rw[if_neg h1]at ho⊢
    by_cases h3:k=3
    ·subst h3
     rw[if_pos rfl]at ho⊢
     have hx:=hn.1
     unfold zeL at hx
     simp only[if_neg h0,if_neg h1,if_true,Bool.and_eq_true,decide_eq_true_eq]at hx
     obtain⟨rfl,hx⟩:=hx
     match xs,hx,hn,ho,hk,hdn,hd with
     |[b],_,hn,ho,hk,hdn,hd=>
      simp only[zlW]at ho
      simp only[YS,Bool.and_eq_true]at hn
      simp only[ZI]at hdn hd
      have hkb: ∀i,allW (kindB sig) i b=true:=fun i=>by
       have:=hk (i-1);simp only[allW,Xe,Bool.and_eq_true,decide_true,Bool.or_true,cond_true]at this;rw[Int.sub_add_cancel]at this;exact this.2
      have hb:=JY n b (d+1) rest hn.2.1 ho hkb (by omega) (by omega) hst
      rw[zcB]
      simp only[zkq,List.cons_append,List.append_assoc]
      have i1:PS.is [123] ⟨YP 91::Yg d::YP 93::(words sig b (d+1)++rest),sig,0⟩=false:=by simp[PS.is,YP]
      have i2:PS.is [91] ⟨YP 91::Yg d::YP 93::(words sig b (d+1)++rest),sig,0⟩=true:=by simp[PS.is,YP]
      simp only[i1,i2,Bool.false_eq_true,if_false,if_true]
      have e1:(PS.take [91] ⟨YP 91::Yg d::YP 93::(words sig b (d+1)++rest),sig,0⟩).name=(95::Lib.decDigits d,⟨YP 93::(words sig b (d+1)++rest),sig,0⟩):=by
       simp[PS.take,PS.token,PS.is,PS.name,PS.named,YP,Yg]
      have e2:PS.take [93] ⟨YP 93::(words sig b (d+1)++rest),sig,0⟩=⟨words sig b (d+1)++rest,sig,0⟩:=by
       simp[PS.take,PS.token,PS.is,YP]
      have hb':PS.term n ((95::Lib.decDigits d)::zfz d) ⟨words sig b (d+1)++rest,sig,0⟩=(b,⟨rest,sig,0⟩):=hb
      simp only[e1,e2,hb']
    ·rw[if_neg h3]at ho⊢
     rw[Bool.and_eq_true]at ho
     have hh:0≤h:=by
      have:=hn.1
      unfold zeL at this
      rw[if_neg h0,if_neg h1,if_neg h3]at this
      simp only[Bool.and_eq_true,decide_eq_true_eq]at this
      exact this.2.2
     obtain⟨tk,hT⟩:=Option.isSome_iff_exists.1 ho.1
     obtain⟨g1,g2,g3⟩:=zhQ G hh (by omega) hT hk0.1 (Yx sig xs d++rest)
     obtain⟨tk1,tk2⟩:=tk
     have g1:tk1=0:=g1
     subst g1
     have hb:(decide (k=1)||decide (k=3))=false:=by simp[h1,h3]
     rw[zcB]
     simp only[hT,Option.toList_some,List.cons_append,List.nil_append]
     rw[if_neg (by simp[PS.is]),if_neg (by simp[PS.is])]
     unfold PS.atoms
     rw[if_neg (by simp[PS.is])]
     have e1:PS.name ⟨(0,tk2)::(Yx sig xs d++rest),sig,0⟩=(tk2,⟨Yx sig xs d++rest,sig,0⟩):=by simp[PS.name,PS.token,PS.named]
     simp only[e1]
     rw[if_neg (by simp),if_neg g2]
     simp only[g3,T.k,T.h]
     have hargs: ∀(l:List T),YS l=true→QB sig l d=true→(∀a∈l,∀i,allW (kindB sig) i a=true)→ZI l≤n→d+ZI l≤99→ ∀m,l.length≤m→
       PS.args (PS.term n) (zfz d) m ⟨Yx sig l d++rest,sig,0⟩=(l,⟨rest,sig,0⟩):=by
      intro l
      induction l with
      |nil=>
       intro _ _ _ _ _ m _
       obtain⟨q1,q2⟩:=zgF G hst sig
       cases m with
       |zero=>rfl
       |succ m=>rw[zhN];simp only[Yx,List.nil_append,q1,q2];rfl
      |cons a l ihl=>
       intro hn ho hk hdn hd m hm
       simp only[YS,Bool.and_eq_true]at hn
       simp only[QB,Bool.and_eq_true]at ho
       simp only[ZI]at hdn hd
       simp only[List.length_cons]at hm
       obtain⟨m,rfl⟩: ∃j,m=j+1:=⟨m-1,by omega⟩
       have hl:=ihl hn.2 ho.2 (fun b hb=>hk b (List.mem_cons_of_mem _ hb)) (by omega) (by omega) m (by omega)
       have hka:=hk a (List.mem_cons_self ..)
       rw[zhN]
       simp only[Yx,List.append_assoc]
       cases hs:QA a with
       |false=>
        simp only[cond_false,List.cons_append,List.append_assoc,List.nil_append]
        have ha:=JY n a d (YP 41::(Yx sig l d++rest)) hn.1 ho.1 hka (by omega) (by omega) (by simp[stop,YP])
        have e2:PS.atom (PS.term n) (zfz d) ⟨YP 40::(words sig a d++YP 41::(Yx sig l d++rest)),sig,0⟩=(a,⟨Yx sig l d++rest,sig,0⟩):=by
         unfold PS.atom
         rw[if_pos (by simp[PS.is,YP])]
         unfold PS.inner
         have e3:PS.take [40] ⟨YP 40::(words sig a d++YP 41::(Yx sig l d++rest)),sig,0⟩=⟨words sig a d++YP 41::(Yx sig l d++rest),sig,0⟩:=by
          simp[PS.take,PS.token,PS.is,YP]
         have e4:PS.take [41] ⟨YP 41::(Yx sig l d++rest),sig,0⟩=⟨Yx sig l d++rest,sig,0⟩:=by
          simp[PS.take,PS.token,PS.is,YP]
         simp only[e3,ha,e4]
        rw[if_pos (by simp[PS.is,YP])]
        simp only[e2,hl]
       |true=>
        obtain⟨ka,ha,ys⟩:=a
        unfold QA at hs
        simp only[Bool.and_eq_true,decide_eq_true_eq,T.args,zlr,T.k,Bool.or_eq_true,beq_iff_eq]at hs
        obtain⟨hy,hkk⟩:=hs
        obtain rfl:=List.length_eq_zero_iff.1 (of_decide_eq_true hy)
        have h1:=ho.1
        unfold okW at h1
        rw[if_neg (by omega),if_neg (by omega),if_neg (by omega),Bool.and_eq_true]at h1
        obtain⟨ta,hTa⟩:=Option.isSome_iff_exists.1 h1.1
        have hha:0≤ha:=by
         have:=hn.1
         simp only[XC,Bool.and_eq_true]at this
         have:=this.1
         unfold zeL at this
         rw[if_neg (by omega),if_neg (by omega),if_neg (by omega)]at this
         simp only[Bool.and_eq_true,decide_eq_true_eq]at this
         exact this.2.2
        have hk0:=hka 0
        simp only[allW,Bool.and_eq_true]at hk0
        obtain⟨g1,g2,g3⟩:=zhQ G hha (by omega) hTa hk0.1 (Yx sig l d++rest)
        obtain⟨t1,t2⟩:=ta
        have g1:t1=0:=g1
        subst g1
        have ew:words sig (.mk ka ha []) d=[(0,t2)]:=by
         unfold words
         rw[if_neg (by omega),if_neg (by omega),if_neg (by omega),hTa]
         rfl
        simp only[cond_true,ew,List.cons_append,List.nil_append]
        have e2:PS.atom (PS.term n) (zfz d) ⟨(0,t2)::(Yx sig l d++rest),sig,0⟩=(.mk ka ha [],⟨Yx sig l d++rest,sig,0⟩):=by
         unfold PS.atom
         rw[if_neg (by simp[PS.is])]
         have e3:PS.name ⟨(0,t2)::(Yx sig l d++rest),sig,0⟩=(t2,⟨Yx sig l d++rest,sig,0⟩):=by simp[PS.name,PS.token,PS.named]
         simp only[e3]
         rw[if_neg g2,g3]
        rw[if_pos (by simp[PS.named])]
        simp only[e2,hl]
     have hkx: ∀a∈xs,∀i,allW (kindB sig) i a=true:=by
      intro a ha i
      have:=hk i
      simp only[allW,Bool.and_eq_true,hb]at this
      have h2:=this.2
      rw[zcr,List.all_eq_true]at h2
      exact h2 a ha
     rw[hargs xs hn.2 ho.2 hkx (by omega) (by omega) _ (by rw[List.length_append];have:=zhR G xs d ho.2;omega)]
end
end Go.Ama
namespace Go.Ama
open Go Go.AM
mutual
def headsN(n:Nat):T→Bool
 | .mk k h xs=> !((decide (k=2)||decide (k=5))&&decide ((n:Int)≤h))&&Jn n xs
def Jn(n:Nat):List T→Bool
 |[]=>true
 |t::l=>headsN n t&&Jn n l
end
end Go.Ama
namespace Go.Ama
open Go Go.AM
structure Rd(sig:List D)(t:T):Prop where
 kind: ∀i,allW (kindB sig) i t=true
 head:headsN sig.length t=true
theorem zmf(sig:List D):Rd sig T0:=⟨fun i=>by simp[allW,Xe,kindB,T.k,T.h],by simp[headsN,Jn]⟩
theorem zeO{x:Bytes}: ∀{l:List D} {i:Nat},idx x l=some i→i<l.length
 |d::l,i,h=>by
  simp only[idx]at h
  split at h
  ·cases h;simp
  ·rw[Option.map_eq_some_iff]at h
   obtain⟨j,h,rfl⟩:=h
   have:=zeO h
   simp;omega
theorem zmg(x:Bytes)(bs:List Bytes)(s:PS):(∀i,kindB s.s i (s.head x bs).1=true)∧headsN s.s.length (s.head x bs).1=true∧(s.head x bs).1.k≠1∧(s.head x bs).1.k≠3:=by
 unfold PS.head
 cases hbk:zdy x bs with
 |some i=>exact⟨fun i=>by simp[kindB,T.k],by simp[headsN,Jn],by simp[T.k],by simp[T.k]⟩
 |none=>
  dsimp only
  cases hi:idx x s.s with
  |none=>exact⟨fun i=>by simp[kindB,T.k],by simp[headsN,Jn],by simp[T.k],by simp[T.k]⟩
  |some i=>
   have hlt:=zeO hi
   dsimp only
   split
   ·rename_i h0
    refine⟨fun j=> ?_,by simp[headsN,Jn];omega,by simp[T.k],by simp[T.k]⟩
    have e:zk5 s.s ((i:Nat):Int)=0:=h0
    unfold kindB
    simp[T.k,T.h,e]
   ·rename_i h0
    refine⟨fun j=> ?_,by simp[headsN,Jn];omega,by simp[T.k],by simp[T.k]⟩
    have e:zk5 s.s ((i:Nat):Int)≠0:=h0
    unfold kindB
    simp[T.k,T.h,e]
theorem zgG(n:Nat): ∀l:List T,Jn n l=l.all (headsN n)
 |[]=>rfl
 |t::l=>by simp[Jn,zgG n l]
theorem zl8(sig:List D)(i:Int)(k h:Int)(l l':List T):kindB sig i (.mk k h l)=kindB sig i (.mk k h l'):=rfl
section
variable{sig:List D}{term:List Bytes→PS→T×PS}{bs:List Bytes}(ht: ∀s,s.s=sig→Rd sig (term bs s).1)(hm: ∀bs s,Mono s (term bs s).2)
include ht hm
theorem zpq(s:PS)(hs:s.s=sig):Rd sig (s.atom term bs).1:=by
 unfold PS.atom
 split
 ·exact ht _ ((Zp _ s).sig.trans hs)
 ·dsimp only
  split
  ·exact zmf _
  ·have hn:s.name.2.s=sig:=(ZG s).sig.trans hs
   obtain⟨h1,h2,h3,h4⟩:=zmg s.name.1 bs s.name.2
   have ha:=QS s.name.1 bs s.name.2
   rw[hn]at h1 h2
   generalize(PS.head s.name.1 bs s.name.2).1=t at*
   obtain⟨k,h,l⟩:=t
   simp only[T.args]at ha
   subst ha
   exact⟨fun i=>by simp only[allW,h1 i,Bool.true_and,Xe],h2⟩
theorem zmh: ∀m s,s.s=sig→ ∀t∈(PS.args term bs m s).1,Rd sig t
 |0,s,_,t,h=>by cases h
 |m+1,s,hs,t,h=>by
  unfold PS.args at h
  split at h
  ·dsimp only at h
   rcases List.mem_cons.1 h with rfl|h
   ·exact zpq ht hm s hs
   ·exact zmh m _ ((zaO hm bs s).sig.trans hs) t h
  ·cases h
theorem zow(s:PS)(hs:s.s=sig):Rd sig (s.atoms term bs).1:=by
 unfold PS.atoms
 split
 ·exact ht _ ((Zp _ s).sig.trans hs)
 ·dsimp only
  split
  ·exact zmf _
  ·split
   ·exact zmf _
   ·have hn:s.name.2.s=sig:=(ZG s).sig.trans hs
    obtain⟨h1,h2,h3,h4⟩:=zmg s.name.1 bs s.name.2
    have ha:=QS s.name.1 bs s.name.2
    have hq:=zmh ht hm (PS.head s.name.1 bs s.name.2).2.l.length (PS.head s.name.1 bs s.name.2).2 ((X9 _ _ _).sig.trans hn)
    have hk:(decide ((PS.head s.name.1 bs s.name.2).1.k=1)||decide ((PS.head s.name.1 bs s.name.2).1.k=3))=false:=by simp[h3,h4]
    rw[hn]at h1 h2
    generalize(PS.args term bs (PS.head s.name.1 bs s.name.2).2.l.length (PS.head s.name.1 bs s.name.2).2).1=l at*
    generalize(PS.head s.name.1 bs s.name.2).1=t at*
    obtain⟨k,h,l'⟩:=t
    simp only[T.args]at ha
    subst ha
    refine⟨fun i=> ?_, ?_⟩
    ·simp only[T.k]at hk
     simp only[T.k,T.h,allW,hk,zcr,Bool.and_eq_true]
     exact⟨(zl8 sig i k h l []).trans (h1 i),List.all_eq_true.2 fun t ht=>(hq t ht).kind i⟩
    ·simp only[headsN,Jn,Bool.and_true]at h2
     simp only[T.k,T.h,headsN,zgG,Bool.and_eq_true]
     exact⟨h2,List.all_eq_true.2 fun t ht=>(hq t ht).head⟩
end
theorem zmi(sig:List D): ∀n bs s,s.s=sig→Rd sig (PS.term n bs s).1
 |0,bs,s,_=>zmf _
 |n+1,bs,s,hs=>by
  have ih:=zmi sig n
  unfold PS.term
  split
  ·have h0:((s.take [123]).name.2.take [58]).s=sig:=((Zp _ _).sig.trans ((ZG _).sig.trans (Zp _ s).sig)).trans hs
   have h1:=ih bs ((s.take [123]).name.2.take [58]) h0
   have h2:=ih ((s.take [123]).name.1::bs) ((PS.term n bs ((s.take [123]).name.2.take [58])).2.take [125]) (((Zp _ _).sig.trans (YM n bs _).sig).trans h0)
   exact⟨fun i=>by simp[allW,Xe,h1.kind,h2.kind,kindB,T.k],by simp[headsN,Jn,h1.head,h2.head]⟩
  ·split
   ·have h2:=ih ((s.take [91]).name.1::bs) ((s.take [91]).name.2.take [93]) (((Zp _ _).sig.trans ((ZG _).sig.trans (Zp _ s).sig)).trans hs)
    exact⟨fun i=>by simp[allW,Xe,h2.kind,kindB,T.k],by simp[headsN,Jn,h2.head]⟩
   ·exact zow (fun s hs=>ih bs s hs) (fun bs s=>YM n bs s) s hs
theorem zeR{n:Int}(h:n<100):zcY (Yg n):=by
 refine .inr ⟨rfl,by simp[Yg], ?_⟩
 have hall: ∀a:Fin 100,∀c∈(if a.val<10 then[UInt8.ofNat (48+a.val)]else[UInt8.ofNat (48+a.val/10),UInt8.ofNat (48+a.val % 10)]),named c=true:=by decide+kernel
 intro c hc
 simp only[Yg,List.mem_cons]at hc
 rcases hc with rfl|hc
 ·rfl
 ·rw[ziV (by omega)]at hc
  exact hall ⟨n.toNat,by omega⟩ c hc
theorem zd3{c:UInt8}(h:mark c=true):zcY (YP c):= .inl ⟨rfl,c,rfl,h⟩
theorem zl9{x:Bytes}(h:nameOK x=true):zcY (0,x):=by
 unfold nameOK at h
 simp only[Bool.and_eq_true,decide_eq_true_eq]at h
 exact zlT x _ h.2 _ (List.mem_singleton.2 rfl)
theorem zox{sig:List D}(hs: ∀d∈sig,nameOK d.name=true)(t:T): ∀d,XC t=true→d+t.depth≤100→ ∀x∈words sig t d,zcY x:=by
 induction t using T.ind with
 |_ k h xs ih=>
  intro d hn hd
  have hl: ∀l:List T,(∀a∈l,∀d,XC a=true→d+a.depth≤100→ ∀x∈words sig a d,zcY x)→YS l=true→d+ZI l≤100→ ∀x∈Yx sig l d,zcY x:=by
   intro l
   induction l with
   |nil=>intro _ _ _ x hx;cases hx
   |cons a l ihl=>
    intro hh hn hd x hx
    simp only[YS,Bool.and_eq_true]at hn
    simp only[ZI]at hd
    have h1:=hh a (List.mem_cons_self ..) d hn.1 (by omega)
    have h2:=ihl (fun b hb=>hh b (List.mem_cons_of_mem _ hb)) hn.2 (by omega)
    simp only[Yx,List.mem_append]at hx
    rcases hx with hx|hx
    ·cases hs:QA a<;>rw[hs]at hx
     ·simp only[cond_false,List.cons_append,List.mem_cons,List.mem_append,List.not_mem_nil,or_false]at hx
      rcases hx with rfl|hx|rfl
      ·exact zd3 (by decide)
      ·exact h1 x hx
      ·exact zd3 (by decide)
     ·exact h1 x hx
    ·exact h2 x hx
  intro x hx
  simp only[XC,Bool.and_eq_true]at hn
  simp only[T.depth]at hd
  unfold words at hx
  split at hx
  ·rw[List.mem_singleton]at hx
   subst hx
   exact .inr ⟨rfl,by decide,by decide⟩
  ·rename_i k0
   split at hx
   ·match xs,ih,hn,hd,hx with
    |[],_,_,_,hx=>cases hx
    |[_],_,_,_,hx=>cases hx
    |a::b::r,ih,hn,hd,hx=>
     simp only[YS,Bool.and_eq_true]at hn
     simp only[ZI]at hd
     simp only[wPi,List.mem_cons,List.mem_append]at hx
     rcases hx with(rfl|rfl|rfl|hx)|rfl|hx
     ·exact zd3 (by decide)
     ·exact zeR (by omega)
     ·exact zd3 (by decide)
     ·exact ih a (by simp) d hn.2.1 (by omega) x hx
     ·exact zd3 (by decide)
     ·exact ih b (by simp) (d+1) hn.2.2.1 (by omega) x hx
   ·rename_i k1
    split at hx
    ·match xs,ih,hn,hd,hx with
     |[],_,_,_,hx=>cases hx
     |a::r,ih,hn,hd,hx=>
      simp only[YS,Bool.and_eq_true]at hn
      simp only[ZI]at hd
      simp only[zkq,List.mem_cons]at hx
      rcases hx with rfl|rfl|rfl|hx
      ·exact zd3 (by decide)
      ·exact zeR (by omega)
      ·exact zd3 (by decide)
      ·exact ih a (by simp) (d+1) hn.2.1 (by omega) x hx
    ·rename_i k3
     rw[List.mem_append]at hx
     rcases hx with hx|hx
     ·rw[Option.mem_toList]at hx
      have h0:0≤h:=by
       have:=hn.1
       unfold zeL at this
       rw[if_neg k0,if_neg k1,if_neg k3]at this
       simp only[Bool.and_eq_true,decide_eq_true_eq]at this
       exact this.2.2
      unfold YA at hx
      split at hx
      ·cases hx;exact zeR (by omega)
      ·split at hx
       ·cases hg:sig[h.toNat]? with
        |none=>rw[hg]at hx;cases hx
        |some y=>rw[hg]at hx;cases hx;exact zl9 (hs y (List.mem_of_getElem? hg))
       ·cases hx
     ·exact hl xs ih hn.2 (by omega) x hx
theorem zns{sig:List D}(G:Good sig){t:T}(hm:may t=true)(ho:okW sig t 0=true)(hk: ∀i,allW (kindB sig) i t=true)(hl:(text (words sig t 0)).length≤20000):Ya (text (words sig t 0)) sig=(t,0):=by
 have hm':=hm
 unfold may at hm
 simp only[Bool.and_eq_true,decide_eq_true_eq]at hm
 have h1:=zdb (words sig t 0) 1 (zox G.name t 0 hm.1 (by omega))
 rw[znr hl h1,zot]
 have h2:=JY G 120 t 0 [] hm.1 ho hk (by omega) (by omega) rfl
 rw[List.append_nil]at h2
 have h3:PS.term 120 [] ⟨words sig t 0,sig,0⟩=(t,⟨[],sig,0⟩):=h2
 rw[h3]
 simp only[hm',if_true]
 rfl
end Go.Ama
namespace Go.Ama
open Go Go.AM
theorem zk6(sig:List D)(d:Nat):okW sig T0 d=true:=by simp[okW]
theorem zmj(x:Bytes)(bs:List Bytes)(s:PS):(s.head x bs).1=T0∨((YA s.s (s.head x bs).1.k (s.head x bs).1.h bs.length).isSome=true∧(s.head x bs).1.k≠1∧(s.head x bs).1.k≠3):=by
 unfold PS.head
 cases hbk:zdy x bs with
 |some i=>
  have h:=zme hbk
  right
  refine⟨?_,by simp[T.k],by simp[T.k]⟩
  unfold YA
  rw[if_pos ⟨rfl,by simp only[T.h];omega⟩]
  rfl
 |none=>
  dsimp only
  cases hi:idx x s.s with
  |none=>exact .inl rfl
  |some i=>
   have hlt:=zeO hi
   right
   dsimp only
   have key: ∀k:Int,(k=2∨k=5)→(YA s.s k ((i:Nat):Int) bs.length).isSome=true:=by
    intro k hk
    unfold YA
    rw[if_neg (by rintro⟨h,_⟩;omega),if_pos ⟨hk,by omega⟩,Option.isSome_map]
    simp[hlt]
   split
   ·exact⟨key 2 (.inl rfl),by simp[T.k],by simp[T.k]⟩
   ·exact⟨key 5 (.inr rfl),by simp[T.k],by simp[T.k]⟩
theorem zgH{sig:List D}{k h:Int}{d:Nat}{l:List T}(h1:(YA sig k h d).isSome=true)(hk1:k≠1)(hk3:k≠3)(hl:QB sig l d=true):okW sig (.mk k h l) d=true:=by
 unfold okW
 by_cases h0:k=0
 ·rw[if_pos h0]
 ·rw[if_neg h0,if_neg hk1,if_neg hk3,h1,hl]
  rfl
section
variable{sig:List D}{term:List Bytes→PS→T×PS}{bs:List Bytes}(ht: ∀s,s.s=sig→okW sig (term bs s).1 bs.length=true)(hm: ∀bs s,Mono s (term bs s).2)
include ht hm
theorem zpr(s:PS)(hs:s.s=sig):okW sig (s.atom term bs).1 bs.length=true:=by
 unfold PS.atom
 split
 ·exact ht _ ((Zp _ s).sig.trans hs)
 ·dsimp only
  split
  ·exact zk6 _ _
  ·have hn:s.name.2.s=sig:=(ZG s).sig.trans hs
   have ha:=QS s.name.1 bs s.name.2
   rcases zmj s.name.1 bs s.name.2 with h|⟨h1,h2,h3⟩
   ·rw[h];exact zk6 _ _
   ·rw[hn]at h1
    generalize(PS.head s.name.1 bs s.name.2).1=t at*
    obtain⟨k,h,l⟩:=t
    simp only[T.args]at ha
    subst ha
    exact zgH h1 h2 h3 rfl
theorem zmk: ∀m s,s.s=sig→QB sig (PS.args term bs m s).1 bs.length=true
 |0,s,_=>rfl
 |m+1,s,hs=>by
  unfold PS.args
  split
  ·dsimp only
   simp only[QB,zpr ht hm s hs,zmk m _ ((zaO hm bs s).sig.trans hs),Bool.and_self]
  ·rfl
theorem zoy(s:PS)(hs:s.s=sig):okW sig (s.atoms term bs).1 bs.length=true:=by
 unfold PS.atoms
 split
 ·exact ht _ ((Zp _ s).sig.trans hs)
 ·dsimp only
  split
  ·exact zk6 _ _
  ·split
   ·exact zk6 _ _
   ·have hn:s.name.2.s=sig:=(ZG s).sig.trans hs
    have ha:=QS s.name.1 bs s.name.2
    have hq:=zmk ht hm (PS.head s.name.1 bs s.name.2).2.l.length (PS.head s.name.1 bs s.name.2).2 ((X9 _ _ _).sig.trans hn)
    rcases zmj s.name.1 bs s.name.2 with h|⟨h1,h2,h3⟩
    ·rw[h]
     unfold okW
     rfl
    ·rw[hn]at h1
     generalize(PS.args term bs (PS.head s.name.1 bs s.name.2).2.l.length (PS.head s.name.1 bs s.name.2).2).1=l at*
     generalize(PS.head s.name.1 bs s.name.2).1=t at*
     obtain⟨k,h,l'⟩:=t
     exact zgH h1 h2 h3 hq
end
theorem zml(sig:List D): ∀n bs s,s.s=sig→okW sig (PS.term n bs s).1 bs.length=true
 |0,bs,s,_=>zk6 _ _
 |n+1,bs,s,hs=>by
  have ih:=zml sig n
  unfold PS.term
  split
  ·have h0:((s.take [123]).name.2.take [58]).s=sig:=((Zp _ _).sig.trans ((ZG _).sig.trans (Zp _ s).sig)).trans hs
   have h1:=ih bs ((s.take [123]).name.2.take [58]) h0
   have h2:=ih ((s.take [123]).name.1::bs) ((PS.term n bs ((s.take [123]).name.2.take [58])).2.take [125]) (((Zp _ _).sig.trans (YM n bs _).sig).trans h0)
   rw[List.length_cons]at h2
   unfold okW
   simp[zpa,h1,h2]
  ·split
   ·have h2:=ih ((s.take [91]).name.1::bs) ((s.take [91]).name.2.take [93]) (((Zp _ _).sig.trans ((ZG _).sig.trans (Zp _ s).sig)).trans hs)
    rw[List.length_cons]at h2
    unfold okW
    simp[zlW,h2]
   ·exact zoy (fun s hs=>ih bs s hs) (fun bs s=>YM n bs s) s hs
theorem zk7{b:Bytes}{sig:List D}(h:(Ya b sig).2=0):may (Ya b sig).1=true∧okW sig (Ya b sig).1 0=true∧ ∀i,allW (kindB sig) i (Ya b sig).1=true:=by
 have key:(Ya b sig).1=(PS.mk (X1 b).1 sig (X1 b).2).whole.1∧(PS.mk (X1 b).1 sig (X1 b).2).whole.2.e=0:=by
  unfold Ya at h⊢
  dsimp only at h⊢
  by_cases h1:(PS.mk (X1 b).1 sig (X1 b).2).whole.2.l≠ []
  ·rw[if_pos h1]at h
   by_cases h2:((PS.mk (X1 b).1 sig (X1 b).2).whole.2.fail 8).e≠0
   ·rw[if_pos h2]at h;exact absurd h h2
   ·exact absurd (by simpa using h2) (zf8 (by decide) _)
  ·rw[if_neg h1]at h⊢
   by_cases h2:(PS.mk (X1 b).1 sig (X1 b).2).whole.2.e≠0
   ·rw[if_pos h2]at h;exact absurd h h2
   ·rw[if_neg h2];exact⟨rfl,by simpa using h2⟩
 rw[key.1]
 exact⟨zor key.2,zml sig 120 [] (PS.mk (X1 b).1 sig (X1 b).2) rfl,(zmi sig 120 [] (PS.mk (X1 b).1 sig (X1 b).2) rfl).kind⟩
theorem zlA{b:Bytes}{sig:List D}(G:Good sig)(h:(Ya b sig).2=0):JV (Ya b sig).1 sig=(text (words sig (Ya b sig).1 0),0)∧((JV (Ya b sig).1 sig).1.length≤20000→Ya (JV (Ya b sig).1 sig).1 sig=((Ya b sig).1,0)):=by
 obtain⟨h1,h2,h3⟩:=zk7 h
 have e:JV (Ya b sig).1 sig=(text (words sig (Ya b sig).1 0),0):=by
  unfold JV
  rw[if_pos h1,if_pos h2]
 refine⟨e,fun hl=> ?_⟩
 rw[e]at hl⊢
 exact zns G h1 h2 h3 hl
theorem zlB{b:Bytes}{sig:List D}(h:(Ya b sig).2≠0):(Ya b sig).1=T0:=by
 unfold Ya at h⊢
 dsimp only at h⊢
 generalize(if(PS.mk (X1 b).1 sig (X1 b).2).whole.2.l≠ []then(PS.mk (X1 b).1 sig (X1 b).2).whole.2.fail 8 else(PS.mk (X1 b).1 sig (X1 b).2).whole.2)=s at*
 by_cases he:s.e≠0
 ·rw[if_pos he]
 ·rw[if_neg he]at h
  exact absurd rfl h
end Go.Ama
namespace Go.Proofs.SW
open Go Go.AM Go.Ama
set_option maxRecDepth 100000
def Y3:List D:=[⟨[110,97,116], .mk 0 0 []⟩,⟨[122], .mk 2 0 []⟩,⟨[115], .mk 1 0 [.mk 2 0 [], .mk 2 0 []]⟩]
theorem zqa:ZD W 19 []=some (.vec .plain (some 4) (ZZ Y3)):=by
 have:Ev 19 [] (.vec .plain (some 4) (ZZ Y3)):=by unfold Ev;rw[C,zki];rfl
 exact this.p rfl rfl
theorem zlC: ∀t:T,t.same t=true:=by
 intro t
 induction t using T.ind with
 |_ k h xs ih=>
  have hl: ∀l:List T,(∀a∈l,a.same a=true)→zal l l=true:=by
   intro l
   induction l with
   |nil=>intro _;rfl
   |cons a l ihl=>intro h;simp only[zal,h a (List.mem_cons_self ..),ihl (fun b hb=>h b (List.mem_cons_of_mem _ hb)),Bool.and_self]
  simp[T.same,hl xs ih]
theorem zmm(b:Bytes)(sig:List D)(hb:b.length≤1048576)(hs:sig.length≤999):
  ZD W 18 [.vec .plain none (XY b), .vec .plain (some 4) (ZZ sig)]=some (.tup [enc (Ya b sig).1, .int (Ya b sig).2]):=
 (zno b sig hb hs).p (by simp[Zu,below,Ql,zan]) (by simp[Zu,below,J9])
theorem zoz:Ama.Good Y3 where
 name:=by
  intro d hd
  simp only[Y3,List.mem_cons,List.not_mem_nil,or_false]at hd
  rcases hd with rfl|rfl|rfl<;>decide+kernel
 nodup:=by decide
theorem ziX(b:Bytes)(hb:b.length≤1048576):Ev 6 [.vec .plain none (XY b)] (.bool true):=by
 unfold Ev
 rw[C,zei,zpg.p,Zb,Zr,Bool.not_true,Zi,zam]
 by_cases h1:(b.length:Int)>3000
 ·rw[decide_eq_true h1];rfl
 have t1:=zmm b Y3 hb (by decide)
 rw[decide_eq_false h1,Zi,zqa,Zb,Y6,t1]
 simp only[Zb,Yr,Qw,Ye,YL,X2]
 by_cases he:(Ya b Y3).2=0
 case neg=>
  have hne:((Ya b Y3).2 !=0)=true:=by simpa using he
  rw[hne,zlB he]
  rfl
 case pos=>
 have hne:((Ya b Y3).2 !=0)=false:=by rw[he];rfl
 have hz:=zkz (zk7 he).1
 obtain⟨r1,r2⟩:=zlA zoz he
 have hT:=zpX (sig:=Y3) (by decide) (by decide) (Ya b Y3).1 (by omega)
 have hlen:=znj (sig:=Y3) (by decide) (Ya b Y3).1
 have t2:=zmm (JV (Ya b Y3).1 Y3).1 Y3 (by omega) (by decide)
 have S:=(zll (Ya b Y3).1 (Ya b Y3).1 (by omega) (by omega)).p
 rw[Zt,zlC]at S
 rw[hne,Zi]
 simp only[Y6]
 rw[hT]
 simp only[Zb,Yr,Qw,Ye,YL,Y6,t2,X2,zam]
 have e0:((JV (Ya b Y3).1 Y3).2==0)=true:=by rw[r1];rfl
 rw[e0,Zo]
 by_cases hl:(JV (Ya b Y3).1 Y3).1.length≤20000
 ·rw[decide_eq_false (by omega),Zi,r2 hl]
  show bc ((0:Int)==0) (Za (ZD W 20 _) _) _=_
  rw[S]
  rfl
 ·rw[decide_eq_true (by omega),Zo]
theorem pure_ShowReads: ∀us,zh6 Tryd.prog [29] us→YH us≤1048576→ ∃m st,(Xh Tryd.prog cfg ext m).call 6 us []=some (.ret (.bool true),st):=by
 intro us hW hb
 match us,hW with
 |[u],⟨h1,h2,_⟩=>
  obtain⟨a,rfl⟩:=znn ⟨h1,h2⟩
  simp only[YH,zak,zhC]at hb
  exact zqC (ziX a (by omega))
end Go.Proofs.SW
