import Derived.Test.YtgoppocfbhbamaaDoorGa
import Derived.Test.YtgoppocfbhbamaaDoorAMd
import Derived.KernelRfl
/- The program's functions, each an equation of the abstract machine checked by the kernel, and what they come to as_ plain Lean. -/
set_option linter.unusedVariables false
set_option linter.unusedSimpArgs false
set_option linter.unusedSectionVars false
namespace Go.Ama
open Go Go.AM
mutual
def okB(B:Int):T→Prop
 | .mk k h ys=>(0≤h∧h≤B)∧(k=3→ys≠ [])∧zeI B ys
def zeI(B:Int):List T→Prop
 |[]=>True
 |a::ys=>okB B a∧zeI B ys
end
theorem zec(B:Int): ∀l,zeI B l↔ ∀x∈l,okB B x
 |[]=>by simp[zeI]
 |a::l=>by simp[zeI,zec B l]
mutual
theorem Jv{B B':Int}(h:B≤B'): ∀t,okB B t→okB B' t
 | .mk k hd ys,⟨h1,h2,h3⟩=>⟨⟨h1.1,by omega⟩,h2,zaV h ys h3⟩
theorem zaV{B B':Int}(h:B≤B'): ∀l,zeI B l→zeI B' l
 |[],_=>trivial
 |a::l,⟨h1,h2⟩=>⟨Jv h a h1,zaV h l h2⟩
end
mutual
theorem zoq{B:Int}(hB:B≤9223372036854775000)(f:Int): ∀(t:T) (ar:Int),okB B t→okB (B+1) (upT 1 f ar t)
 | .mk k hd ys,ar,⟨h1,h2,h3⟩=>by
  simp only[upT,okB]
  refine⟨?_, ?_,zmp hB f ys ar h3⟩
  ·split
   ·unfold upV
    split
    ·rw[Xa ⟨by omega,by omega⟩];omega
    ·omega
   ·omega
  ·intro hk e
   have:=congrArg List.length e
   rw[zgz]at this
   exact h2 hk (List.length_eq_zero_iff.1 (by simpa using this))
theorem zmp{B:Int}(hB:B≤9223372036854775000)(f:Int): ∀(l:List T) (ar:Int) {bd:Bool},zeI B l→zeI (B+1) (ups 1 f ar bd l)
 |[],ar,bd,_=>trivial
 |a::l,ar,bd,⟨h1,h2⟩=>by simp only[ups,zeI];exact⟨zoq hB f a _ h1,zmp hB f l ar h2⟩
end
theorem zpi{B:Int}(hB:B≤9223372036854775000){t:T}(h:okB B t):okB (B+1) (upP t 1 0):=by
 unfold upP;split
 ·exact zoq hB 0 t 0 h
 ·exact Jv (by omega) t h
def bnd(β:Int)(n:Nat):Int:=β+n*2097152
def zg0(β:Int):Prop:=0≤β∧β≤4611686018427387904
def okL(B:Int)(l:List T):Prop:= ∀x∈l,okB B x∧x.size≤4000
theorem zeJ{B:Int}: ∀{l:List T},okL B l→sizes l≤l.length*4000
 |[],_=>by simp[sizes]
 |a::l,h=>by
  have h1:=(h a (by simp)).2
  have h2:=zeJ (l:=l) fun x hx=>h x (by simp[hx])
  simp only[sizes,List.length_cons];omega
def Inv(β:Int):Job→Prop
 | .ap n t l s=>n≤40000∧t.size≤160040000∧okB (bnd β n) t∧okL (bnd β n) l∧l.length≤200+n∧0≤s∧s≤1048576+n
 | .ar n _ ts l s=>n≤40000∧sizes ts≤160040000∧zeI (bnd β n) ts∧okL (bnd β n-1) l∧l.length+1≤200+n∧0≤s∧s+1≤1048576+n
 | .sp n t ys=>n≤40000∧t.size≤160040000∧sizes ys≤160040000∧okB (bnd β n) t∧zeI (bnd β n) ys
def zqQ(β:Int):Job→Oj→Prop
 | .ap n _ _ _, .t u m=>n<m∧m≤40000∧u.size≤4001*(m-n)∧okB (bnd β m) u
 | .ar n _ ts _ _, .l ys m=>n≤m∧m≤40000∧ys.length=ts.length∧sizes ys≤4001*(m-n)∧zeI (bnd β m) ys
 | .sp n t ys, .t u m=>n≤m∧m≤40000∧u.size≤t.size+sizes ys+4001*(m-n)∧okB (bnd β m) u
 |_, .e _=>True
 |_,_=>False
def zlC:Job→Nat
 | .ap n _ _ _=>2*(40002-n)
 | .ar n _ _ _ _=>2*(40002-n)+1
 | .sp n _ _=>2*(40002-n)+1
theorem zor{t:T}(h:may t=true):t.size≤4000:=by
 unfold may at h
 simp only[Bool.and_eq_true,decide_eq_true_eq]at h
 exact h.2.1
theorem zaW{β:Int}{n m:Nat}(h:n≤m):bnd β n≤bnd β m:=by unfold bnd;omega
theorem zlD{β:Int}(hβ:zg0 β){n:Nat}(h:n≤40000):bnd β n≤4611686118427387904:=by obtain⟨h1,h2⟩:=hβ;unfold bnd;omega
theorem zpT{β:Int}(hβ:zg0 β){n:Nat}:0≤bnd β n:=by obtain⟨h1,h2⟩:=hβ;unfold bnd;omega
theorem znh{β:Int}(hβ:zg0 β){n:Nat}{bd:Bool}{ys l:List T}{s:Int}(hn:n≤40000)(hl:okL (bnd β n-1) l)(hlen:l.length+1≤200+n)(h0:0≤s)(hs:s+1≤1048576+n):
  okL (bnd β n) (belowL' bd ys l)∧(belowL' bd ys l).length≤200+n∧0≤belowS' bd ys s∧belowS' bd ys s≤1048576+n:=by
 have hb:=zlD hβ hn
 have hb0:0≤bnd β n:=zpT hβ
 unfold belowL' belowS'
 split
 ·refine⟨fun x hx=> ?_, ?_, ?_, ?_⟩
  ·simp only[zlA,List.mem_append,List.mem_map,List.mem_singleton]at hx
   rcases hx with⟨y,hy,rfl⟩|rfl
   ·obtain⟨h1,h2⟩:=hl y hy
    have:=zpi (B:=bnd β n-1) (by omega) h1
    rw[show bnd β n-1+1=bnd β n by omega]at this
    exact⟨this,by rw[zop];exact h2⟩
   ·exact⟨⟨⟨by omega,hb0⟩,by simp,trivial⟩,by simp[T.size,sizes]⟩
  ·simp[zlA];omega
  ·unfold zlB;rw[Xa ⟨by omega,by omega⟩];omega
  ·unfold zlB;rw[Xa ⟨by omega,by omega⟩];omega
 ·refine⟨fun x hx=> ?_,by omega,h0,by omega⟩
  obtain⟨h1,h2⟩:=hl x hx
  exact⟨Jv (by omega) x h1,h2⟩
theorem zqC{β:Int}(hβ:zg0 β){n:Nat}(hn:n≤40000){l:List T}{s i:Int}(hl:okL (bnd β n) l)(h0:0≤s)(hs:s≤1048576+n)(hi:0≤i)(hi2:i≤bnd β n):okB (bnd β (n+1)) (ofT l s i)∧(ofT l s i).size≤4000:=by
 have hb:=zlD hβ hn
 unfold ofT
 split
 ·rename_i h
  have hj:l.length-1-i.toNat<l.length:=by omega
  rw[List.getD_eq_getElem?_getD,List.getElem?_eq_getElem hj]
  obtain⟨h1,h2⟩:=hl _ (List.getElem_mem hj)
  exact⟨Jv (zaW (Nat.le_succ n)) _ h1,h2⟩
 ·rename_i h
  rw[Xa (n:=i-l.length) ⟨by omega,by omega⟩,Xa ⟨by omega,by omega⟩]
  refine⟨⟨⟨by omega, ?_⟩,by simp,trivial⟩,by simp[T.size,sizes]⟩
  have:bnd β (n+1)=bnd β n+2097152:=by unfold bnd;omega
  omega
theorem total{β:Int}(hβ:zg0 β): ∀(N:Nat) (j:Job),zlC j<N→Inv β j→ ∃o,Big j o∧zqQ β j o:=by
 intro N
 induction N with
 |zero=>intro j h;omega
 |succ N ih=>
  intro j hj hI
  cases j with
  |ap n t l s=>
   obtain⟨hn,hsz,hok,hl,hlen,h0,hs⟩:=hI
   by_cases hlim:n+1≤40000
   rotate_left
   ·exact⟨_, .apLimit (by omega) (by omega),trivial⟩
   have hsl:=zeJ hl
   cases t with
   |mk k h ys=>
    simp only[T.size]at hsz
    obtain⟨⟨hh0,hh1⟩,hk3,hys⟩:=hok
    have hb1:bnd β (n+1)=bnd β n+2097152:=by unfold bnd;omega
    obtain⟨o,hB,hP⟩:=ih (.ar (n+1) (bindsB k) ys l s) (by simp only[zlC]at hj⊢;omega) ⟨hlim,by omega,zaV (by omega) ys hys,fun x hx=>⟨Jv (by omega) x (hl x hx).1,(hl x hx).2⟩,by omega,h0,by omega⟩
    cases o with
    |t _ _=>exact hP.elim
    |e e=>exact⟨_, .apErr hlim (by simp only[T.size];omega) hB,trivial⟩
    |l zs m=>
     obtain⟨p1,p2,p3,p4,p5⟩:=hP
     have hbm:bnd β n≤bnd β m:=zaW (by omega)
     by_cases hk:k=4
     ·obtain⟨q1,q2⟩:=zqC hβ (by omega) hl h0 hs hh0 hh1
      have hbm1:bnd β (n+1)≤bnd β m:=zaW p1
      obtain⟨o,hB2,hP2⟩:=ih (.sp m (ofT l s h) zs) (by simp only[zlC]at hj⊢;omega) ⟨p2,by omega,by omega,Jv hbm1 _ q1,p5⟩
      have hbn:=zlD hβ (n:=n) (by omega)
      cases o with
      |l _ _=>exact hP2.elim
      |e e=>exact⟨_, .apVar hlim (by simp only[T.size];omega) (by omega) hk hh0 ⟨by simp only[T.h];omega,by simp only[T.h];omega⟩ hB hB2,trivial⟩
      |t u m2=>
       obtain⟨r1,r2,r3,r4⟩:=hP2
       exact⟨_, .apVar hlim (by simp only[T.size];omega) (by omega) hk hh0 ⟨by simp only[T.h];omega,by simp only[T.h];omega⟩ hB hB2,by omega,r2,by omega,r4⟩
     ·refine⟨_, .apNode hlim (by simp only[T.size];omega) hk hB,by omega,p2, ?_, ?_⟩
      ·simp only[T.size,T.k,T.h];omega
      ·refine⟨⟨hh0,by simp only[T.h];omega⟩,fun e he=> ?_,p5⟩
       subst he
       exact hk3 e (List.length_eq_zero_iff.1 (by simpa using p3.symm))
  |ar n bd ts l s=>
   obtain⟨hn,hsz,hok,hl,hlen,h0,hs⟩:=hI
   have hsl:=zeJ hl
   cases ts with
   |nil=>exact⟨_, .arNil,Nat.le_refl _,hn,rfl,by simp[sizes],trivial⟩
   |cons a ts=>
    simp only[sizes]at hsz
    obtain⟨ha,hts⟩:=hok
    obtain⟨g1,g2,g3,g4⟩:=znh hβ (bd:=bd) (ys:=ts) hn hl hlen h0 hs
    obtain⟨o,hB,hP⟩:=ih (.ap n a (belowL' bd ts l) (belowS' bd ts s)) (by simp only[zlC]at hj⊢;omega) ⟨hn,by omega,ha,g1,g2,g3,g4⟩
    cases o with
    |l _ _=>exact hP.elim
    |e e=>exact⟨_, .arErr (by omega) hB,trivial⟩
    |t u m=>
     obtain⟨p1,p2,p3,p4⟩:=hP
     have hbm:bnd β n≤bnd β m:=zaW (by omega)
     obtain⟨o,hB2,hP2⟩:=ih (.ar m bd ts l s) (by simp only[zlC]at hj⊢;omega) ⟨p2,by omega,zaV hbm ts hts,fun x hx=>⟨Jv (by omega) x (hl x hx).1,(hl x hx).2⟩,by omega,h0,by omega⟩
     cases o with
     |t _ _=>exact hP2.elim
     |e e=>exact⟨_, .arErr2 (by omega) hB hB2,trivial⟩
     |l zs m2=>
      obtain⟨r1,r2,r3,r4,r5⟩:=hP2
      exact⟨_, .arCons (by omega) hB hB2,by omega,r2,by simp[r3],by simp only[sizes];omega,Jv (zaW r1) u p4,r5⟩
  |sp n t ys=>
   obtain⟨hn,hsz,hys,hok,hoy⟩:=hI
   cases ys with
   |nil=>exact⟨_, .spNil,Nat.le_refl _,hn,by simp[sizes],hok⟩
   |cons a ys=>
    simp only[sizes]at hys
    obtain⟨ha,hoy⟩:=hoy
    cases t with
    |mk k h zs=>
     simp only[T.size]at hsz
     obtain⟨hh,hk3,hzs⟩:=hok
     by_cases hk:k=3
     ·cases hm:may a with
      |false=>exact⟨_, .spMay hk (by omega) hm,trivial⟩
      |true=>
       obtain⟨b0,r,hb⟩: ∃b0 r,zs=b0::r:=by
        cases zs with
        |nil=>exact absurd rfl (hk3 hk)
        |cons b r=>exact⟨b,r,rfl⟩
       subst hb
       simp only[sizes]at hsz
       obtain⟨o,hB,hP⟩:=ih (.ap n b0 [a] 0) (by simp only[zlC]at hj⊢;omega) ⟨hn,by omega,hzs.1,fun x hx=>by simp at hx;subst hx;exact⟨ha,zor hm⟩,by simp;omega,by omega,by omega⟩
       cases o with
       |l _ _=>exact hP.elim
       |e e=>exact⟨_, .spErr hk (by omega) hm rfl hB,trivial⟩
       |t u m=>
        obtain⟨p1,p2,p3,p4⟩:=hP
        obtain⟨o,hB2,hP2⟩:=ih (.sp m u ys) (by simp only[zlC]at hj⊢;omega) ⟨p2,by omega,by omega,p4,zaV (zaW (by omega)) ys hoy⟩
        cases o with
        |l _ _=>exact hP2.elim
        |e e=>exact⟨_, .spLam hk (by omega) hm rfl hB hB2,trivial⟩
        |t w m2=>
         obtain⟨r1,r2,r3,r4⟩:=hP2
         exact⟨_, .spLam hk (by omega) hm rfl hB hB2,by omega,r2,by simp only[T.size,sizes];omega,r4⟩
     ·by_cases hk2:k=2∨k=4∨k=5
      ·have hz:=ZF zs
       have hy:=ZF ys
       refine⟨_, .spApp hk2 (by simp only[T.args];omega),Nat.le_refl _,hn, ?_, ?_⟩
       ·simp only[T.size,T.k,T.h,T.args,zby,sizes];omega
       ·refine⟨hh,fun e=>absurd e hk, ?_⟩
        rw[zec]
        intro x hx
        simp only[T.args,List.mem_append,List.mem_cons]at hx
        rcases hx with hx|rfl|hx
        ·exact(zec _ _).1 hzs x hx
        ·exact ha
        ·exact(zec _ _).1 hoy x hx
      ·simp only[not_or]at hk2
       exact⟨_, .spType hk hk2.1 hk2.2.1 hk2.2.2,trivial⟩
end Go.Ama
namespace Go.Ama
open Go Go.AM
section
variable{R:Type}
@[simp] theorem zrn(a b:Int)(l:List V)(K:Int→Int→List V→Option R):Zl (R:=R) [CT.int,CT.int,CT.slice (some 3)] (.agg [.int a, .int b, .vec .plain (some 3) l]) K=K a b l:=rfl
@[simp] theorem zro(t:T)(K:Int→Int→List V→Option R):Zl (R:=R) [CT.int,CT.int,CT.slice (some 3)] (enc t) K=K t.k t.h (Zs t.args):=by cases t;rfl
@[simp] theorem zrp(a b:Int)(l:List V)(K:Int→Int→List V→Option R):onCells (R:=R) [CT.int,CT.int,CT.slice (some 3)] [.int a, .int b, .vec .plain (some 3) l] K=K a b l:=rfl
@[simp] theorem zrf(t:Tok)(K:Int→ByteArray→Option R):Zl (R:=R) [CT.int,CT.str] (Yz t) K=K t.1 (ba t.2):=rfl
@[simp] theorem zrq(s:ByteArray)(a b:Int)(l:List V)(K:ByteArray→Int→Int→List V→Option R):Zl (R:=R) [CT.str,CT.int,CT.int,CT.slice (some 3)] (.agg [.str s, .int a, .int b, .vec .plain (some 3) l]) K=K s a b l:=rfl
@[simp] theorem zrr(d:D)(K:ByteArray→Int→Int→List V→Option R):Zl (R:=R) [CT.str,CT.int,CT.int,CT.slice (some 3)] (zah d) K=K (ba d.name) d.t.k d.t.h (Zs d.t.args):=rfl
@[simp] theorem zqR(d:D)(K:Int→Int→List V→Option R):Y1 (zah d) (fun c=>gd (decide (4≤c.length)) (onCells (R:=R) [CT.int,CT.int,CT.slice (some 3)] (List.take 3 (List.drop 1 c)) K))=K d.t.k d.t.h (Zs d.t.args):=rfl
@[simp] theorem zrs(d:D)(K:ByteArray→Option R):Y1 (zah d) (fun c=>gd (decide (1≤c.length)) (YA (AM.partOf c 0 none) K))=K (ba d.name):=rfl
@[simp] theorem zqS(v:V)(l:List V):Yf (v::l) 0=v:=rfl
@[simp] theorem zqN(b:Bool)(x:Option R):bc b x x=x:=by cases b<;>rfl
@[simp] theorem zqp(k h:Int)(l:List T):(T.mk k h l).args=l:=rfl
@[simp] theorem zqT(k h:Int)(l:List T):(T.mk k h l).k=k:=rfl
@[simp] theorem zqU(k h:Int)(l:List T):(T.mk k h l).h=h:=rfl
@[simp] theorem zrt(t:Tok)(K:Int→Option R):Y1 (Yz t) (fun c=>gd (decide (1≤c.length)) (Zv (AM.partOf c 0 none) K))=K t.1:=rfl
@[simp] theorem zru(t:Tok)(K:ByteArray→Option R):Y1 (Yz t) (fun c=>gd (decide (2≤c.length)) (YA (AM.partOf c 1 none) K))=K (ba t.2):=rfl
@[simp] theorem zqV(x:Res)(st:St)(K:Res→Option R):Yb (x::st) 0 K=K x:=rfl
@[simp] theorem zqW(x y:Res)(st:St)(K:Res→Option R):Yb (x::y::st) 1 K=K y:=rfl
@[simp] theorem zqX(m:AM.Mode)(s:PS)(K:List V→Option R):Y0 (zpP m s) K=K [.vec .plain (some 2) (Zg s.l), .vec m (some 4) (Zr s.s), .int s.e]:=rfl
@[simp] theorem cl0(sh:Sh)(l:List V)(b c:V):Z2 (AM.partOf [.vec .plain sh l,b,c] 0 none)= .vec .plain sh l:=rfl
@[simp] theorem cl1(sh:Sh)(m:AM.Mode)(l:List V)(a c:V):Z2 (AM.partOf [a, .vec m sh l,c] 1 none)= .vec .plain sh l:=by cases m<;>rfl
@[simp] theorem cl2(a b:V)(n:Int):Z2 (AM.partOf [a,b, .int n] 2 none)= .int n:=rfl
@[simp] theorem zqq(a b c d:V):setCells [a,b,c] 0 [d]=[d,b,c]:=rfl
@[simp] theorem zqr(a b c d:V):setCells [a,b,c] 1 [d]=[a,d,c]:=rfl
@[simp] theorem zqs(a b c d:V):setCells [a,b,c] 2 [d]=[a,b,d]:=rfl
@[simp] theorem zqD(t:Tok)(r:List Tok):Yf (Zg (t::r)) 0=Yz t:=rfl
@[simp] theorem zpj(t:Tok)(r:List Tok):Zg (t::r)=Yz t::Zg r:=rfl
@[simp] theorem zni(r:List Tok):(Zg r).take r.length=Zg r:=by rw[←ZT r,List.take_length]
@[simp] theorem zpU(t:V)(r:List Tok):(t::Zg r).take (r.length+1)=t::Zg r:=by rw[List.take_succ_cons,zni]
@[simp] theorem zrg(d:D)(K:Int→Int→List V→Option R):Y1 (zah d) (fun c=>gd (decide (4≤c.length)) (onCells (R:=R) [CT.int,CT.int,CT.slice (some 3)] (List.take 3 c.tail) K))=K d.t.k d.t.h (Zs d.t.args):=rfl
@[simp] theorem zqE(x:Bytes):((ba x).toList==[116,121,112,101])=decide (x=typ):=by rw[JJ];by_cases h:x=typ<;>simp_all[typ]
@[simp] theorem zqF(x:Bytes):((ba x).toList==ByteArray.toList {data:= #[116,121,112,101]})=decide (x=typ):=zhI x typ
@[simp] theorem zrh:V.str {data:= #[40]}=V.str (ba [40]):=rfl
@[simp] theorem zri:V.str {data:= #[41]}=V.str (ba [41]):=rfl
@[simp] theorem zrj:V.str {data:= #[46]}=V.str (ba [46]):=rfl
@[simp] theorem zrk:V.str {data:= #[58]}=V.str (ba [58]):=rfl
@[simp] theorem zrl:V.str {data:= #[91]}=V.str (ba [91]):=rfl
@[simp] theorem zrm:V.str {data:= #[93]}=V.str (ba [93]):=rfl
@[simp] theorem zqY:V.str {data:= #[123]}=V.str (ba [123]):=rfl
@[simp] theorem zqZ:V.str {data:= #[125]}=V.str (ba [125]):=rfl
@[simp] theorem zrv:V.str {data:= #[]}=V.str (ba []):=rfl
@[simp] theorem zra(t:T)(K:Int→Int→Option R):Zl (R:=R) [CT.int,CT.int,CT.nil (some 3)] (.agg [.int t.k, .int t.h, .vec .full (some 3) []]) K=K t.k t.h:=rfl
@[simp] theorem zqG(n:Nat):(1:Int)≤n+1:=by omega
@[simp] theorem zqt(n:Nat):(0:Int)<n+1:=by omega
@[simp] theorem zqu(n:Nat): ¬((n:Int)+1=0):=by omega
@[simp] theorem zqO(n:Nat):((n:Int)+1).toNat=n+1:=by omega
end
end Go.Ama
namespace Go.Ama
open Go Go.AM
end Go.Ama
namespace Go.Ama
open Go Go.AM
def var(i:Nat):T:= .mk 4 i []
def vars(n:Nat):List T:=(List.range n).reverse.map var
end Go.Ama
namespace Go.Ama
open Go Go.AM
@[simp] theorem zrb(a b:V)(l:List V):Yf (a::b::l) 1=b:=rfl
structure M where
 ctx:List T
 t:T
 param:Bool
def zlE(m:M):V:= .agg [.vec .plain (some 3) (Zs m.ctx), .int m.t.k, .int m.t.h, .vec .plain (some 3) (Zs m.t.args), .bool m.param]
def zai(l:List M):List V:=l.map zlE
@[simp] theorem zpk(l:List M):(zai l).length=l.length:=by simp[zai]
@[simp] theorem zqv:zai []=[]:=rfl
@[simp] theorem zpl(a b:List M):zai (a++b)=zai a++zai b:=by simp[zai]
@[simp] theorem zpV(a:M)(b:List M):zai (a::b)=zlE a::zai b:=rfl
theorem zg1(n:Nat)(m:M):below n (zlE m)=true:=by simp[zlE,below,Ze,Jb]
@[simp] theorem zkA(n:Nat): ∀l:List M,Ze n (zai l)=true
 |[]=>rfl
 |d::l=>by simp[Ze,zg1,zkA n l]
section
variable{R:Type}
@[simp] theorem onM(m:M)(K:List V→Int→Int→List V→Bool→Option R):Zl (R:=R) [CT.slice (some 3),CT.int,CT.int,CT.slice (some 3),CT.bool] (zlE m) K=K (Zs m.ctx) m.t.k m.t.h (Zs m.t.args) m.param:=rfl
@[simp] theorem zrw(l l2:List V)(a b:Int)(c:Bool)(K:List V→Int→Int→List V→Bool→Option R):Zl (R:=R) [CT.slice (some 3),CT.int,CT.int,CT.slice (some 3),CT.bool] (.agg [.vec .plain (some 3) l, .int a, .int b, .vec .plain (some 3) l2, .bool c]) K=K l a b l2 c:=rfl
end
structure Cs where
 ms:List M
 q:T
 t:T
def zos(c:Cs):V:= .agg [.vec .plain (some 5) (zai c.ms), .int c.q.k, .int c.q.h, .vec .plain (some 3) (Zs c.q.args), .int c.t.k, .int c.t.h, .vec .plain (some 3) (Zs c.t.args)]
def zdi(l:List Cs):List V:=l.map zos
@[simp] theorem zpm(l:List Cs):(zdi l).length=l.length:=by simp[zdi]
@[simp] theorem zqw:zdi []=[]:=rfl
@[simp] theorem zpn(a b:List Cs):zdi (a++b)=zdi a++zdi b:=by simp[zdi]
@[simp] theorem zpW(a:Cs)(b:List Cs):zdi (a::b)=zos a::zdi b:=rfl
theorem zg2(n:Nat)(m:Cs):below n (zos m)=true:=by simp[zos,below,Ze,Jb]
@[simp] theorem zkB(n:Nat): ∀l:List Cs,Ze n (zdi l)=true
 |[]=>rfl
 |d::l=>by simp[Ze,zg2,zkB n l]
section
variable{R:Type}
@[simp] theorem onC(c:Cs)(K:List V→Int→Int→List V→Int→Int→List V→Option R):Zl (R:=R) [CT.slice (some 5),CT.int,CT.int,CT.slice (some 3),CT.int,CT.int,CT.slice (some 3)] (zos c) K=K (zai c.ms) c.q.k c.q.h (Zs c.q.args) c.t.k c.t.h (Zs c.t.args):=rfl
@[simp] theorem zqx(sh:Sh)(es:List V)(r:Nat)(K:List V→Nat→Option R):zlP sh (.spr sh es r) K=K es r:=by show(if sh=sh then K es r else none)=_;rw[if_pos rfl]
@[simp] theorem zo5(sh:Sh)(n q:Nat)(K:Sh→Nat→Nat→Option R):zc3 (.spare sh n q) K=K sh n q:=rfl
end
def zpX(t:T):Int:=if(split t).2.k=2 then(split t).2.h else-1
def zdp(f:Int)(t:T):Bool:=decide (0≤f)&&decide (zpX t=f)
end Go.Ama
namespace Go.Ama
open Go Go.AM
end Go.Ama
namespace Go.Ama
open Go Go.AM
end Go.Ama
namespace Go.Ama
open Go Go.AM
end Go.Ama
namespace Go.Ama
open Go Go.AM
structure Cal where
 f:Int
 ext:List T
 theta:List T
 arg:T
structure Cl where
 metas:List M
 theta:List T
 p:T
 calls:List Cal
 r:T
structure Fun1 where
 name:Bytes
 schema:List T
 delta:List M
 psi:List T
 a:T
 phi:List T
 b:T
 total:Bool
 clauses:List Cl
def zfw(c:Cal):V:= .agg [.int c.f, .vec .plain (some 3) (Zs c.ext), .vec .plain (some 3) (Zs c.theta), .int c.arg.k, .int c.arg.h, .vec .plain (some 3) (Zs c.arg.args)]
def zc1(l:List Cal):List V:=l.map zfw
def zmq(c:Cl):V:= .agg [.vec .plain (some 5) (zai c.metas), .vec .plain (some 3) (Zs c.theta), .int c.p.k, .int c.p.h, .vec .plain (some 3) (Zs c.p.args), .vec .plain (some 6) (zc1 c.calls), .int c.r.k, .int c.r.h, .vec .plain (some 3) (Zs c.r.args)]
def zjb(l:List Cl):List V:=l.map zmq
def zot(f:Fun1):V:= .agg [.str (ba f.name), .vec .plain (some 3) (Zs f.schema), .vec .plain (some 5) (zai f.delta), .vec .plain (some 3) (Zs f.psi), .int f.a.k, .int f.a.h, .vec .plain (some 3) (Zs f.a.args), .vec .plain (some 3) (Zs f.phi), .int f.b.k, .int f.b.h, .vec .plain (some 3) (Zs f.b.args), .bool f.total, .vec .plain (some 9) (zjb f.clauses)]
def zlF(l:List Fun1):List V:=l.map zot
@[simp] theorem znq(l:List Cal):(zc1 l).length=l.length:=by simp[zc1]
@[simp] theorem zo6(l:List Cl):(zjb l).length=l.length:=by simp[zjb]
@[simp] theorem zo7(l:List Fun1):(zlF l).length=l.length:=by simp[zlF]
theorem zcM{α:Type}{e:α→V}{n:Nat}(h: ∀a,below n (e a)=true): ∀l:List α,Ze n (l.map e)=true
 |[]=>rfl
 |a::l=>by simp[Ze,h a,zcM h l]
@[simp] theorem zhh(n:Nat)(c:Cal):below n (zfw c)=true:=by simp[zfw,below,Ze]
@[simp] theorem zou(n:Nat)(l:List Cal):Ze n (zc1 l)=true:=zcM (zhh n) l
@[simp] theorem zkC(n:Nat)(c:Cl):below n (zmq c)=true:=by simp[zmq,below,Ze]
@[simp] theorem zpo(n:Nat)(l:List Cl):Ze n (zjb l)=true:=zcM (zkC n) l
@[simp] theorem zkD(n:Nat)(f:Fun1):below n (zot f)=true:=by simp[zot,below,Ze]
@[simp] theorem zpp(n:Nat)(l:List Fun1):Ze n (zlF l)=true:=zcM (zkD n) l
attribute [simp] zg1 zgw YL zg2
theorem zov{l:List V}{v:V}(h:v∈l):XT v≤Yg l:=by
 induction l with
 |nil=>cases h
 |cons a l ih=>
  simp only[Yg]
  rcases List.mem_cons.1 h with rfl|h
  ·omega
  ·have:=ih h;omega
theorem zkE: ∀l:List V,l.length≤Yg l
 |[]=>Nat.zero_le _
 |v::l=>by
  have:=zkE l
  have:1≤XT v:=by cases v<;>simp[XT]
  simp only[List.length_cons,Yg];omega
theorem zlG(t:T):XT (enc t)=1+1+(Yg (Zs t.args)+1)+1:=by
 rw[Zz];simp only[XT,Yg];omega
theorem zpY(d:D):4*d.t.size≤XT (zah d):=by
 have h2:=zgd d.t
 rw[zlG]at h2
 simp only[zah,XT,Yg];omega
theorem zpq{l:List D}{d:D}(h:d∈l):4*d.t.size≤Yg (Zr l):=
 Nat.le_trans (zpY d) (zov (List.mem_map_of_mem h))
def znj(l:List D):Bool:=decide (l.length≤30)&&l.all fun d=>zdf 1000 80 d.t
section
variable{R:Type}
@[simp] theorem zrc(c:Cal)(K:Int→List V→List V→Int→Int→List V→Option R):Zl (R:=R) [CT.int,CT.slice (some 3),CT.slice (some 3),CT.int,CT.int,CT.slice (some 3)] (zfw c) K=K c.f (Zs c.ext) (Zs c.theta) c.arg.k c.arg.h (Zs c.arg.args):=rfl
@[simp] theorem zrx(c:Cl)(K:List V→List V→Int→Int→List V→List V→Int→Int→List V→Option R):Zl (R:=R) [CT.slice (some 5),CT.slice (some 3),CT.int,CT.int,CT.slice (some 3),CT.slice (some 6),CT.int,CT.int,CT.slice (some 3)] (zmq c) K=K (zai c.metas) (Zs c.theta) c.p.k c.p.h (Zs c.p.args) (zc1 c.calls) c.r.k c.r.h (Zs c.r.args):=rfl
@[simp] theorem zry(m:M)(K:List V→Option R):Y1 (zlE m) (fun c=>gd (decide (1≤c.length)) (ZV (some 3) (AM.partOf c 0 none) K))=K (Zs m.ctx):=by
 show gd true (ZV (some 3) (.vec .plain (some 3) (Zs m.ctx)) K)=_
 simp
@[simp] theorem zrz(m:M)(K:Int→Int→List V→Option R):Y1 (zlE m) (fun c=>gd (decide (4≤c.length)) (onCells (R:=R) [CT.int,CT.int,CT.slice (some 3)] (List.take 3 (List.drop 1 c)) K))=K m.t.k m.t.h (Zs m.t.args):=rfl
end
end Go.Ama
namespace Go.Proofs.SW
open Go Go.AM Go.Ama
theorem zlH(n k:Nat):decide ((n:Int)>(k:Int))= !decide (n≤k):=by
 by_cases h:n≤k<;>simp[h]<;>omega
theorem znk(l:List D)(hb:Yg (Zr l)≤4398046511104):Ev 8 [.vec .plain (some 4) (Zr l)] (.bool (znj l)):=by
 have hlen:=zkE (Zr l)
 rw[ZL]at hlen
 have hl:=zhC (L:=fun i=>W.loop 8 4 [.int i, .vec .plain (some 4) (Zr l)] []) (xs:=l) (g:=fun d=>zdf 1000 80 d.t) (e0:=(Ex.exit 0,[],[])) (e1:=(Ex.ret,[V.bool false],[]))
  (fun i hi=>by
   have hp:=(zgs l[i].t 1000 80 (by have:=zpq (List.getElem_mem hi);omega)).p
   have hlt:decide ((i:Int)<l.length)=true:=by simp;omega
   show W.loop _ _ _ _=_
   rw[L,zct,ZL,XD hi,Xa ⟨by omega,by omega⟩]
   simp only[hlt,Int.natCast_nonneg,decide_true,Zk,Bool.and_self,Z0,zqR,←Zz,hp,Zb,Zo]
   cases zdf 1000 80 l[i].t<;>rfl)
  (by
   show W.loop _ _ _ _=_
   rw[L,zct,ZL]
   simp)
 unfold Ev znj
 have e30:decide ((l.length:Int)>30)= !decide (l.length≤30):=zlH l.length 30
 have hl':W.loop 8 4 [.int 0, .vec .plain (some 4) (Zr l)] []=_:=hl
 rw[C,zku,ZL,hl',e30]
 cases decide (l.length≤30)<;>cases l.all (fun d=>zdf 1000 80 d.t)<;>rfl
end Go.Proofs.SW
namespace Go.Proofs.SW
open Go Go.AM Go.Ama
set_option maxRecDepth 20000
theorem zmr{n:Nat}{cs:List V}(h:WT Tryd.prog n 3 cs): ∃z:Int,cs=[.int z]∧I64 z:=by
 cases n with
 |zero=>exact h.elim
 |succ n=>
  simp only[WT,Tryd.underlying3]at h
  obtain⟨z,h1,h2⟩:=h
  refine⟨z,h1, ?_⟩
  simpa[Lit.wf,IntKind.min,IntKind.max,IntKind.signed,IntKind.bits,I64]using h2
theorem zlI{n:Nat}{cs:List V}(h:WT Tryd.prog n 9 cs): ∃s:Bytes,cs=[.str (ba s)]:=by
 cases n with
 |zero=>exact h.elim
 |succ n=>
  simp only[WT,Tryd.underlying9]at h
  obtain⟨s,h1,h2⟩:=h
  exact⟨s.data.toList,by rw[zpa];exact h1⟩
theorem zow:Tryd.prog.cellsOf 3=1:=by kernel_rfl
theorem zkF:Tryd.prog.cellsOf 9=1:=by kernel_rfl
theorem zox{v:V}(h:Shaped none v):AM.cellsOf v=[v]:=by cases v<;>first|rfl|exact h.elim
theorem zqH{f:Nat}{args:List V}(h:Ev f args (.bool true)): ∃m st,(Xw Tryd.prog cfg ext m).call f args []=some (.ret (.bool true),st):=by
 obtain⟨m,hm⟩:=zoP h
 exact⟨m,[],hm⟩
end Go.Proofs.SW
namespace Go.Proofs.SW
open Go Go.AM Go.Ama
set_option maxRecDepth 20000
theorem zoy:shOf Tryd.prog 24=some 3:=by kernel_rfl
theorem zlJ:Tryd.prog.cellsOf 22=1:=by kernel_rfl
theorem zhW:Tryd.prog.cellsOf 24=3:=by kernel_rfl
theorem zpZ:shOf Tryd.prog 36=some 4:=by kernel_rfl
theorem zpr:shOf Tryd.prog 25=none:=by kernel_rfl
theorem znl:Tryd.prog.cellsOf 36=4:=by kernel_rfl
theorem zqI{l:List V}(h:l.length=3): ∃x y z,l=[x,y,z]:=by
 match l,h with
 |[x,y,z],_=>exact⟨x,y,z,rfl⟩
theorem zqJ{l:List V}(h:l.length=4): ∃x y z w,l=[x,y,z,w]:=by
 match l,h with
 |[x,y,z,w],_=>exact⟨x,y,z,w,rfl⟩
theorem zhX: ∀n:Nat,(∀cs,WT Tryd.prog n 24 cs→ ∃t,V.agg cs=enc t)∧(∀cs,WT Tryd.prog n 22 cs→ ∃ts,cs=[.vec .plain (some 3) (Zs ts)]):=by
 intro n
 induction n with
 |zero=>exact⟨fun cs h=>h.elim,fun cs h=>h.elim⟩
 |succ n ih=>
  refine⟨fun cs h=> ?_,fun cs h=> ?_⟩
  ·simp only[WT,Tryd.underlying24]at h
   obtain⟨hl,hf⟩:=h
   rw[zhW]at hl
   obtain⟨x,y,z,rfl⟩:=zqI hl
   simp only[List.forall_mem_cons]at hf
   obtain⟨f1,f2,f3,_⟩:=hf
   simp only[zow,zlJ,List.drop_zero,List.drop_succ_cons,List.take_succ_cons,List.take_zero]at f1 f2 f3
   obtain⟨k,hk,_⟩:=zmr f1
   obtain⟨h,hh,_⟩:=zmr f2
   obtain⟨ts,hts⟩:=ih.2 _ f3
   cases hk;cases hh;cases hts
   exact⟨.mk k h ts,rfl⟩
  ·simp only[WT,Tryd.underlying22]at h
   obtain⟨es,rfl,_,he⟩:=h
   rw[zoy]at he⊢
   have: ∀es:List V,(∀v∈es,Shaped (some 3) v∧WT Tryd.prog n 24 (AM.cellsOf v))→ ∃ts,es=Zs ts:=by
    intro es
    induction es with
    |nil=>intro _;exact⟨[],rfl⟩
    |cons v es ihe=>
     intro h
     obtain⟨h1,h2⟩:=h v (by simp)
     obtain⟨ts,hts⟩:=ihe fun u hu=>h u (by simp[hu])
     cases v with
     |agg cs=>
      obtain⟨t,ht⟩:=ih.1 cs h2
      exact⟨t::ts,by rw[zcG,←ht,hts]⟩
     |_=>exact h1.elim
   obtain⟨ts,rfl⟩:=this es he
   exact⟨ts,rfl⟩
theorem zoz{v:V}(h:(∃n,WT Tryd.prog n 24 (AM.cellsOf v))∧Shaped (shOf Tryd.prog 24) v): ∃t,v=enc t:=by
 obtain⟨⟨n,h1⟩,h2⟩:=h
 rw[zoy]at h2
 cases v with
 |agg cs=>exact(zhX n).1 cs h1
 |_=>exact h2.elim
theorem znm: ∀n cs,WT Tryd.prog n 36 cs→ ∃d,V.agg cs=zah d:=by
 intro n cs h
 cases n with
 |zero=>exact h.elim
 |succ n=>
  simp only[WT,Tryd.underlying36]at h
  obtain⟨hl,hf⟩:=h
  rw[znl]at hl
  obtain⟨x,y,z,w,rfl⟩:=zqJ hl
  simp only[List.forall_mem_cons]at hf
  obtain⟨f1,f2,_⟩:=hf
  simp only[zkF,zhW,List.drop_zero,List.drop_succ_cons,List.take_succ_cons,List.take_zero]at f1 f2
  obtain⟨s,hs⟩:=zlI f1
  obtain⟨t,ht⟩:=(zhX n).1 _ f2
  cases hs
  obtain⟨k,h,l⟩:=t
  simp only[enc,V.agg.injEq,List.cons.injEq,and_true]at ht
  obtain⟨rfl,rfl,rfl⟩:=ht
  exact⟨⟨s, .mk k h l⟩,rfl⟩
theorem znn{v:V}(h:(∃n,WT Tryd.prog n 25 (AM.cellsOf v))∧Shaped (shOf Tryd.prog 25) v): ∃l,v= .vec .plain (some 4) (Zr l):=by
 obtain⟨⟨n,h1⟩,h2⟩:=h
 rw[zpr]at h2
 rw[zox h2]at h1
 cases n with
 |zero=>exact h1.elim
 |succ n=>
  simp only[WT,Tryd.underlying25]at h1
  obtain⟨es,he0,_,he⟩:=h1
  rw[zpZ]at he he0
  have: ∀es:List V,(∀v∈es,Shaped (some 4) v∧WT Tryd.prog n 36 (AM.cellsOf v))→ ∃l,es=Zr l:=by
   intro es
   induction es with
   |nil=>intro _;exact⟨[],rfl⟩
   |cons v es ihe=>
    intro h
    obtain⟨h1,h2⟩:=h v (by simp)
    obtain⟨l,hl⟩:=ihe fun u hu=>h u (by simp[hu])
    cases v with
    |agg cs=>
     obtain⟨d,hd⟩:=znm n cs h2
     exact⟨d::l,by rw[hl,hd];rfl⟩
    |_=>exact h1.elim
  obtain⟨l,rfl⟩:=this es he
  simp only[List.cons.injEq,and_true]at he0
  exact⟨l,he0⟩
end Go.Proofs.SW
namespace Go.Proofs.SW
open Go Go.AM
set_option maxRecDepth 20000
theorem zed(O:Oracle)(n0:Int)(n1:Int)(l2:(List V))(l3:(List V)):Zd Tryd.prog cfg O 3 [.agg [.int n0, .int n1, .vec .plain (some 3) l2], .vec .plain (some 4) l3] []=
 Za (Zi O 7 []) fun r1=>Zp r1 fun b2=>Za (Zi O 8 [V.vec .plain (some 4) l3]) fun r3=>Zp r3 fun b4=>Za (Zi O 9
 [V.agg [V.int n0,V.int n1,V.vec .plain (some 3) l2],V.int 1000,V.int 80]) fun r5=>Zp r5 fun b6=>Za (Zi O 10 [V.vec .plain (some 4) l3]) fun r7=>
 Zp r7 fun b8=>bc (!b2) (some (Out.ret (V.bool b2),[])) (bc (!b4) (some (Out.ret (V.bool b2),[])) (bc (!b6) (some (Out.ret (V.bool b2),[])) (bc (!b8) (some (Out.ret
 (V.bool b2),[])) (Za (Zi O 11 [V.agg [V.int n0,V.int n1,V.vec .plain (some 3) l2],V.vec .plain (some 4) l3]) fun r9=>Yv r9 fun c10=>Zf c10 fun v11
 c12=>ZV none v11 fun l13=>Zf c12 fun v14 c15=>Zv v14 fun n16=>Zj c15 (Za (Zi O 12 [V.agg [V.int n0,V.int n1,V.vec .plain (some 3) l2],V.vec
 .plain (some 4) l3]) fun r17=>Yv r17 fun c18=>Zf c18 fun v19 c20=>ZV none v19 fun l21=>Zf c20 fun v22 c23=>Zv v22 fun n24=>Zj c23 (Za (Zi O
 13 [V.vec .plain (some 4) l3]) fun r25=>Yv r25 fun c26=>Zf c26 fun v27 c28=>ZV none v27 fun l29=>Zf c28 fun v30 c31=>Zv v30 fun n32=>Zj
 c31 (Za (Zi O 14 [V.vec .plain (some 4) l3]) fun r33=>Yv r33 fun c34=>Zf c34 fun v35 c36=>ZV none v35 fun l37=>Zf c36 fun v38 c39=>Zv
 v38 fun n40=>Zj c39 (gd (l13.all zbM) (gd (l21.all zbM) (bc ((YH l13).toList==(YH l21).toList) (bc (n16==n24) (gd (l29.all zbM) (gd (l37.all zbM) (bc ((YH
 l29).toList==(YH l37).toList) (some (Out.ret (V.bool (n32==n40)),[])) (some (Out.ret (V.bool false),[]))))) (some (Out.ret (V.bool false),[]))) (some (Out.ret (V.bool
 false),[])))))))))))):=by kernel_rfl
theorem zhi(O:Oracle)(l0:(List V)):Zd Tryd.prog cfg O 10 [.vec .plain (some 4) l0] []=
 Za (O.loop 10 2 [V.int 0,V.vec .plain (some 4) l0] []) fun r1=>YV r1.fst none (Zf r1.snd.fst fun v2 c3=>Zp v2 fun b4=>Zj c3 (some (Out.ret
 (V.bool b4),[]))) (fun i5=>bc (i5.beq 0) (Zj r1.snd.fst (some (Out.ret (V.bool true),[]))) none) fun v6=>none:=by kernel_rfl
theorem zaX(O:Oracle)(n0:Int)(l1:(List V)):Z3 Tryd.prog cfg O 10 2 [.int n0, .vec .plain (some 4) l1] []=
 bc (decide (n0<(↑l1.length:Int))) (gd (decide (0≤n0)&&decide (n0<(↑l1.length:Int))) (Y1 (Yf l1 n0) fun c1=>gd (decide (1≤c1.length)) (YA (AM.partOf c1 0
 none) fun s2=>bc (decide ((↑s2.size:Int)>100)) (some (Ex.ret,[V.bool false],[])) (O.2 10 2 [V.int (IntKind.i64.wrap (n0+1)),V.vec .plain (some 4) l1] []))))
 (some (Ex.exit 0,[],[])):=by kernel_rfl
end Go.Proofs.SW
namespace Go.Proofs.SW
open Go Go.AM Go.Ama
set_option maxRecDepth 100000
def QQ(l:List D):Bool:=l.all fun d=>decide (d.name.length≤100)
theorem zhj(d:D)(l:List D):QQ (d::l)=(decide (d.name.length≤100)&&QQ l):=rfl
theorem zjc(l:List D)(hl:l.length≤1099511627776): ∀j k,k+j=l.length→
  W.loop 10 2 [.int (k:Nat), .vec .plain (some 4) (Zr l)] []=some (bif QQ (l.drop k)then(.exit 0,[],[])else(.ret,[.bool false],[])):=by
 intro j
 induction j with
 |zero=>
  intro k hk
  have hkl:k=l.length:=by omega
  subst hkl
  have hlt:decide (((l.length:Nat):Int)<((Zr l).length:Int))=false:=by simp
  rw[L,zaX,hlt,List.drop_length]
  rfl
 |succ j ih=>
  intro k hk
  have hkl:k<l.length:=by omega
  have hlt:decide (((k:Nat):Int)<((Zr l).length:Int))=true:=by rw[ZL];simp;omega
  have hlt2:(decide ((0:Int)≤(k:Nat))&&true)=true:=by simp
  have hw:IntKind.i64.wrap ((k:Nat)+1:Int)=((k+1:Nat):Int):=Yl (by omega) (by omega)
  have hdr:l.drop k=l[k]::l.drop (k+1):=List.drop_eq_getElem_cons hkl
  have hx:Yf (Zr l) ((k:Nat):Int)=zah l[k]:=XD hkl
  have e3: ∀{α:Type} (K:List V→Option α),Y1 (zah l[k]) K=K [.str (ba (l[k]).name), .int (l[k]).t.k, .int (l[k]).t.h, .vec .plain (some 3) (Zs (l[k]).t.args)]:=fun K=>rfl
  have e4: ∀{α:Type} (K:ByteArray→Option α),YA (AM.partOf [.str (ba (l[k]).name), .int (l[k]).t.k, .int (l[k]).t.h, .vec .plain (some 3) (Zs (l[k]).t.args)] 0 none) K=K (ba (l[k]).name):=fun K=>rfl
  rw[L,zaX,hlt,Zk,hlt2,Z0,hx,e3,hdr]
  show gd true (YA _ _)=_
  rw[Z0,e4,Y6,hw]
  rw[zhj]
  by_cases hn:(l[k]).name.length≤100
  ·have hg:decide (((l[k]).name.length:Int)>100)=false:=decide_eq_false (by omega)
   rw[hg,Zn,ih (k+1) (by omega),decide_eq_true hn,Bool.true_and]
  ·have hg:decide (((l[k]).name.length:Int)>100)=true:=decide_eq_true (by omega)
   rw[hg,Zk,decide_eq_false hn]
   rfl
theorem zjd(l:List D)(hl:l.length≤1099511627776):Ev 10 [.vec .plain (some 4) (Zr l)] (.bool (QQ l)):=by
 unfold Ev
 have h:=zjc l hl l.length 0 (by omega)
 have h':W.loop 10 2 [V.int 0, .vec .plain (some 4) (Zr l)] []=some (bif QQ (l.drop 0)then(.exit 0,[],[])else(.ret,[.bool false],[])):=h
 rw[C,zhi,h',List.drop_zero]
 cases hn:QQ l<;>rfl
theorem zlK{sig:List D}(h:znj sig=true):sig.length≤30∧ ∀d∈sig,d.t.size≤1000:=by
 unfold znj at h
 simp only[Bool.and_eq_true,decide_eq_true_eq,List.all_eq_true]at h
 refine⟨h.1,fun d hd=> ?_⟩
 have:=h.2 d hd
 unfold zdf at this
 simp only[Bool.and_eq_true,decide_eq_true_eq]at this
 have:=this.2.1
 omega
theorem zkG{sig:List D}(h:QQ sig=true): ∀d∈sig,d.name.length≤100:=fun d hd=>by
 unfold QQ at h
 rw[List.all_eq_true]at h
 exact of_decide_eq_true (h d hd)
theorem zqa{sig:List D}(hl:sig.length≤1000)(hs: ∀d∈sig,d.name.length≤100)(t:T)(ht:t.size≤1099511627776):
  Zi W 11 [.agg [.int t.k, .int t.h, .vec .plain (some 3) (Zs t.args)], .vec .plain (some 4) (Zr sig)]=some (.tup [.vec .plain none (ZM (XI t sig).1), .int (XI t sig).2]):=by
 have h:=(zdh hl hs t ht).p (by rw[Ze,YD];simp[Ze,below,YL]) (by simp[below,Ze,ZU])
 rw[Zz]at h
 exact h
theorem zps{sig:List D}(hl:sig.length≤1000)(hs: ∀d∈sig,d.name.length≤100∧d.t.size≤1099511627776):
  Zi W 13 [.vec .plain (some 4) (Zr sig)]=some (.tup [.vec .plain none (ZM (zcw sig).1), .int (zcw sig).2]):=
 (zgy sig hl hs).p (by simp[Ze,below,YL]) (by simp[below,Ze,ZU])
theorem zhY: ∀l:List D,l.length≤Yg (Zr l)
 |[]=>by simp
 |d::l=>by
  have:=zhY l
  simp only[Zr,List.map_cons,Yg,List.length_cons]at*
  have:1≤XT (zah d):=by simp only[zah,XT];omega
  omega
end Go.Proofs.SW
namespace Go.Proofs.SW
open Go Go.AM
set_option maxRecDepth 20000
theorem zje(O:Oracle)(n0:Int)(n1:Int)(l2:(List V))(l3:(List V)):Zd Tryd.prog cfg O 12 [.agg [.int n0, .int n1, .vec .plain (some 3) l2], .vec .plain (some 4) l3] []=
 Za (Zi O 26 [V.agg [V.int n0,V.int n1,V.vec .plain (some 3) l2]]) fun r1=>Zp r1 fun b2=>bc (!b2) (some (Out.ret (V.tup [V.vec .plain none [],V.int 1]),
 [])) (Za (Zi O 27 [V.agg [V.int n0,V.int n1,V.vec .plain (some 3) l2],V.int 0,V.int 0]) fun r3=>Zp r3 fun b4=>Za (Zi O 28 [V.agg
 [V.int n0,V.int n1,V.vec .plain (some 3) l2],V.int (↑l3.length:Int)]) fun r5=>Zp r5 fun b6=>bc (!b4) (some (Out.ret (V.tup [V.vec .plain none [],V.int 2]),[])) (bc
 (!b6) (some (Out.ret (V.tup [V.vec .plain none [],V.int 2]),[])) (Za (Zi O 30 [V.agg [V.int n0,V.int n1,V.vec .plain (some 3) l2],V.vec .plain (some 4) l3,
 V.int 0]) fun r7=>ZV (some 2) r7 fun l8=>Za (Zi O 29 [V.vec .plain (some 2) l8]) fun r9=>ZV none r9 fun l10=>gd (below 0 (V.tup [V.vec .plain none
 l10,V.int 0])&&true) (some (Out.ret (V.tup [V.vec .plain none l10,V.int 0]),[]))))):=by kernel_rfl
theorem zhk(O:Oracle)(l0:(List V)):Zd Tryd.prog cfg O 14 [.vec .plain (some 4) l0] []=
 Za (O.loop 14 3 [V.int 0,V.vec .plain (some 4) l0,V.vec Mode.grow none []] []) fun r1=>YV r1.fst none (Zf r1.snd.fst fun v2 c3=>ZV none v2 fun l4=>
 Zf c3 fun v5 c6=>Zv v5 fun n7=>Zj c6 (gd (below 0 (V.tup [V.vec .plain none l4,V.int n7])&&Z4 0 []) (some (Out.ret (V.tup [V.vec .plain none l4,V.int n7]),
 [])))) (fun i8=>bc (i8.beq 0) (Zf r1.snd.fst fun v9 c10=>YB none v9 fun l11=>Zj c10 (gd (below 0 (V.tup [V.vec .plain none l11,V.int 0])&&Z4 0 []) (some
 (Out.ret (V.tup [V.vec .plain none l11,V.int 0]),[])))) none) fun v12=>none:=by kernel_rfl
theorem zaY(O:Oracle)(n0:Int)(l1:(List V))(l2:(List V)):Z3 Tryd.prog cfg O 14 3 [.int n0, .vec .plain (some 4) l1, .vec .grow none l2] []=
 bc (decide (n0<(↑l1.length:Int))) (gd (decide (0≤n0)&&decide (n0<(↑l1.length:Int))) (Y1 (Yf l1 n0) fun c1=>gd (decide (1≤c1.length)) (YA (AM.partOf c1 0
 none) fun s2=>Za (Zi O 31 [V.str s2]) fun r3=>Zp r3 fun b4=>Za (O.loop 14 7 [V.int 0,V.int n0,V.vec .plain (some 4) l1,V.vec Mode.grow
 none l2,V.bool b4] []) fun r5=>YV r5.fst none none (fun i6=>bc (i6.beq 2) (Zf r5.snd.fst fun v7 c8=>ZV (some 4) v7 fun l9=>Zf c8 fun v10 c11=>Zv v10 fun
 n12=>Zf c11 fun v13 c14=>YB none v13 fun l15=>Zf c14 fun v16 c17=>Zp v16 fun b18=>Zj c17 (bc (!b18) (some (Ex.ret,[V.vec .plain none [],V.int 1],
 r5.snd.snd)) (gd (decide (0≤n12)&&decide (n12<(↑l9.length:Int))) (Y1 (Yf l9 n12) fun c19=>gd (decide (4≤c19.length)) (onCells [CT.int,CT.int,CT.slice (some 3)]
 (List.take 3 (List.drop 1 c19)) fun n20 n21 l22=>Za (Zi O 12 [V.agg [V.int n20,V.int n21,V.vec .plain (some 3) l22],V.vec .plain (some 4) l9]) fun r23=>
 Yv r23 fun c24=>Zf c24 fun v25 c26=>ZV none v25 fun l27=>Zf c26 fun v28 c29=>Zv v28 fun n30=>Zj c29 (bc (n30 !=0) (some (Ex.ret,[V.vec .plain none
 [],V.int n30],r5.snd.snd)) (gd (decide (0≤n12)&&decide (n12<(↑l9.length:Int))) (Y1 (Yf l9 n12) fun c31=>gd (decide (1≤c31.length)) (YA (AM.partOf c31 0 none)
 fun s32=>gd (true&&roomFor Tryd.prog 5 (l15.length+(ZI s32).length)) (gd (true&&roomFor Tryd.prog 5 ((l15++ZI s32).length+(ZI {data:=
 #[32,58,32]}).length)) (gd (true&&roomFor Tryd.prog 5 ((l15++ZI s32++ZI {data:= #[32,58,32]}).length+l27.length)) (gd (true&&roomFor Tryd.prog
 5 ((l15++ZI s32++ZI {data:= #[32,58,32]}++l27).length+(ZI {data:= #[46,10]}).length)) (O.2 14 3 [V.int (IntKind.i64.wrap (n12+
 1)),V.vec .plain (some 4) l9,V.vec Mode.grow none (l15++ZI s32++ZI {data:= #[32,58,32]}++l27++ZI {data:= #[46,10]})] r5.snd.snd))))))))))))) none)
 fun v33=>none))) (some (Ex.exit 0,[V.vec Mode.grow none l2],[])):=by kernel_rfl
theorem zaZ(O:Oracle)(n0:Int)(n1:Int)(l2:(List V))(l3:(List V))(b4:Bool):Z3 Tryd.prog cfg O 14 7 [.int n0, .int n1, .vec .plain (some 4) l2, .vec .grow none l3, .bool b4] []=
 bc (decide (n0<(↑l2.length:Int))) (bc (n0 !=n1) (gd (decide (0≤n0)&&decide (n0<(↑l2.length:Int))) (Y1 (Yf l2 n0) fun c1=>gd (decide (1≤c1.length)) (YA
 (AM.partOf c1 0 none) fun s2=>gd (decide (0≤n1)&&decide (n1<(↑l2.length:Int))) (Y1 (Yf l2 n1) fun c3=>gd (decide (1≤c3.length)) (YA (AM.partOf c3 0 none) fun
 s4=>bc (s2.toList==s4.toList) (O.2 14 7 [V.int (IntKind.i64.wrap (n0+1)),V.int n1,V.vec .plain (some 4) l2,V.vec Mode.grow none l3,V.bool false] []) (O.2
 14 7 [V.int (IntKind.i64.wrap (n0+1)),V.int n1,V.vec .plain (some 4) l2,V.vec Mode.grow none l3,V.bool b4] [])))))) (O.2 14 7 [V.int (IntKind.i64.wrap
 (n0+1)),V.int n1,V.vec .plain (some 4) l2,V.vec Mode.grow none l3,V.bool b4] [])) (some (Ex.exit 2,[V.vec .plain (some 4) l2,V.int n1,V.vec Mode.grow none l3,V.bool b4],
 [])):=by kernel_rfl
theorem zhl(O:Oracle)(n0:Int)(n1:Int)(l2:(List V))(n3:Int):Zd Tryd.prog cfg O 28 [.agg [.int n0, .int n1, .vec .plain (some 3) l2], .int n3] []=
 bc (n0==2) (bc (decide (n1≥n3)) (some (Out.ret (V.bool false),[])) (Za (O.loop 28 4 [V.int 0,V.int n3,V.loc false (some 3) (V.agg [V.int n0,V.int n1,V.vec
 .plain (some 3) l2])] []) fun r1=>YV r1.fst none (Zf r1.snd.fst fun v2 c3=>Zp v2 fun b4=>Zj c3 (some (Out.ret (V.bool b4),[]))) (fun i5=>bc (i5.beq 0) (Zj
 r1.snd.fst (some (Out.ret (V.bool true),[]))) none) fun v6=>none)) (bc (n0==5) (bc (decide (n1≥n3)) (some (Out.ret (V.bool false),[])) (Za (O.loop 28 4
 [V.int 0,V.int n3,V.loc false (some 3) (V.agg [V.int n0,V.int n1,V.vec .plain (some 3) l2])] []) fun r7=>YV r7.fst none (Zf r7.snd.fst fun v8 c9=>Zp v8 fun b10
 =>Zj c9 (some (Out.ret (V.bool b10),[]))) (fun i11=>bc (i11.beq 0) (Zj r7.snd.fst (some (Out.ret (V.bool true),[]))) none) fun v12=>none)) (Za (O.loop
 28 4 [V.int 0,V.int n3,V.loc false (some 3) (V.agg [V.int n0,V.int n1,V.vec .plain (some 3) l2])] []) fun r13=>YV r13.fst none (Zf r13.snd.fst fun v14 c15
 =>Zp v14 fun b16=>Zj c15 (some (Out.ret (V.bool b16),[]))) (fun i17=>bc (i17.beq 0) (Zj r13.snd.fst (some (Out.ret (V.bool true),[]))) none) fun v18=>none)):=by kernel_rfl
theorem zba(O:Oracle)(n0:Int)(n1:Int)(n2:Int)(n3:Int)(l4:(List V)):Z3 Tryd.prog cfg O 28 4 [.int n0, .int n1, .loc false (some 3) (.agg [.int n2, .int n3, .vec .plain (some 3) l4])] []=
 bc (decide (n0<(↑l4.length:Int))) (gd (decide (0≤n0)&&decide (n0<(↑l4.length:Int))) (Zl [CT.int,CT.int,CT.slice (some 3)] (Yf l4 n0) fun n1_1 n2_1 l3=>
 Za (Zi O 28 [V.agg [V.int n1_1,V.int n2_1,V.vec .plain (some 3) l3],V.int n1]) fun r4=>Zp r4 fun b5=>bc (!b5) (some (Ex.ret,[V.bool false],[])) (O.2
 28 4 [V.int (IntKind.i64.wrap (n0+1)),V.int n1,V.loc false (some 3) (V.agg [V.int n2,V.int n3,V.vec .plain (some 3) l4])] []))) (some (Ex.exit 0,[],[])):=by kernel_rfl
theorem zg3(O:Oracle)(n0:Int)(n1:Int)(l2:(List V))(l3:(List V))(n4:Int):Zd Tryd.prog cfg O 30 [.agg [.int n0, .int n1, .vec .plain (some 3) l2], .vec .plain (some 4) l3, .int n4] []=
 bc (n0==0) (Za (Zi O 52 [V.str {data:= #[116,121,112,101]}]) fun r1=>Zl [CT.int,CT.str] r1 fun n2 s3=>some (Out.ret (V.vec .plain (some 2)
 [V.agg [V.int n2,V.str s3]]),[])) (bc (n0==1) (Za (Zi O 53 [V.str {data:= #[123]}]) fun r4=>Zl [CT.int,CT.str] r4 fun n5 s6=>Za (Zi O
 54 [V.int n4]) fun r7=>Zl [CT.int,CT.str] r7 fun n8 s9=>Za (Zi O 53 [V.str {data:= #[58]}]) fun r10=>Zl [CT.int,CT.str] r10 fun
 n11 s12=>gd (true&&decide (0<(↑l2.length:Int))) (Zl [CT.int,CT.int,CT.slice (some 3)] (Yf l2 0) fun n13 n14 l15=>Za (Zi O 30 [V.agg [V.int
 n13,V.int n14,V.vec .plain (some 3) l15],V.vec .plain (some 4) l3,V.int n4]) fun r16=>ZV (some 2) r16 fun l17=>gd (true&&roomFor Tryd.prog 58 ([V.agg [V.int
 n5,V.str s6],V.agg [V.int n8,V.str s9],V.agg [V.int n11,V.str s12]].length+l17.length)) (Za (Zi O 53 [V.str {data:= #[125]}]) fun r18=>Zl
 [CT.int,CT.str] r18 fun n19 s20=>gd (true&&roomFor Tryd.prog 58 (([V.agg [V.int n5,V.str s6],V.agg [V.int n8,V.str s9],V.agg [V.int n11,V.str s12]]++
 l17).length+[V.agg [V.int n19,V.str s20]].length)) (gd (true&&decide (1<(↑l2.length:Int))) (Zl [CT.int,CT.int,CT.slice (some 3)] (Yf l2 1) fun n21 n22 l23=>
 Za (Zi O 30 [V.agg [V.int n21,V.int n22,V.vec .plain (some 3) l23],V.vec .plain (some 4) l3,V.int (IntKind.i64.wrap (n4+1))]) fun r24=>ZV (some 2) r24
 fun l25=>gd (true&&roomFor Tryd.prog 58 (([V.agg [V.int n5,V.str s6],V.agg [V.int n8,V.str s9],V.agg [V.int n11,V.str s12]]++l17++[V.agg [V.int n19,V.str
 s20]]).length+l25.length)) (gd (below 0 (V.vec .plain (some 2) ([V.agg [V.int n5,V.str s6],V.agg [V.int n8,V.str s9],V.agg [V.int n11,V.str s12]]++l17++[V.agg [V.int
 n19,V.str s20]]++l25))&&true) (some (Out.ret (V.vec .plain (some 2) ([V.agg [V.int n5,V.str s6],V.agg [V.int n8,V.str s9],V.agg [V.int n11,V.str s12]]++l17++[V.agg
 [V.int n19,V.str s20]]++l25)),[])))))))) (bc (n0==3) (Za (Zi O 53 [V.str {data:= #[91]}]) fun r26=>Zl [CT.int,CT.str] r26 fun n27 s28=>Za
 (Zi O 54 [V.int n4]) fun r29=>Zl [CT.int,CT.str] r29 fun n30 s31=>Za (Zi O 53 [V.str {data:= #[93]}]) fun r32=>Zl [CT.int,
 CT.str] r32 fun n33 s34=>gd (true&&decide (0<(↑l2.length:Int))) (Zl [CT.int,CT.int,CT.slice (some 3)] (Yf l2 0) fun n35 n36 l37=>Za (Zi O 30
 [V.agg [V.int n35,V.int n36,V.vec .plain (some 3) l37],V.vec .plain (some 4) l3,V.int (IntKind.i64.wrap (n4+1))]) fun r38=>ZV (some 2) r38 fun l39=>gd (true&&
 roomFor Tryd.prog 58 ([V.agg [V.int n27,V.str s28],V.agg [V.int n30,V.str s31],V.agg [V.int n33,V.str s34]].length+l39.length)) (gd (below 0 (V.vec .plain (some 2)
 ([V.agg [V.int n27,V.str s28],V.agg [V.int n30,V.str s31],V.agg [V.int n33,V.str s34]]++l39))&&true) (some (Out.ret (V.vec .plain (some 2) ([V.agg [V.int n27,V.str s28],
 V.agg [V.int n30,V.str s31],V.agg [V.int n33,V.str s34]]++l39)),[]))))) (bc (n0==4) (Za (Zi O 54 [V.int (IntKind.i64.wrap (IntKind.i64.wrap (n4-1)-
 n1))]) fun r40=>Zl [CT.int,CT.str] r40 fun n41 s42=>Za (O.loop 30 19 [V.int 0,V.int n4,V.vec .plain (some 4) l3,V.vec Mode.grow (some 2) [V.agg [V.int
 n41,V.str s42]],V.loc false (some 3) (V.agg [V.int n0,V.int n1,V.vec .plain (some 3) l2])] []) fun r43=>YV r43.fst none none (fun i44=>bc (i44.beq 1) (Zf r43.snd.fst
 fun v45 c46=>YB (some 2) v45 fun l47=>Zj c46 (gd (below 0 (V.vec .plain (some 2) l47)&&Z4 0 []) (some (Out.ret (V.vec .plain (some 2) l47),[])))) none) fun v48
 =>none) (gd (decide (0≤n1)&&decide (n1<(↑l3.length:Int))) (Y1 (Yf l3 n1) fun c49=>gd (decide (1≤c49.length)) (YA (AM.partOf c49 0 none) fun s50=>Za
 (Zi O 52 [V.str s50]) fun r51=>Zl [CT.int,CT.str] r51 fun n52 s53=>Za (O.loop 30 19 [V.int 0,V.int n4,V.vec .plain (some 4) l3,V.vec
 Mode.grow (some 2) [V.agg [V.int n52,V.str s53]],V.loc false (some 3) (V.agg [V.int n0,V.int n1,V.vec .plain (some 3) l2])] []) fun r54=>YV r54.fst none none (fun i55=>
 bc (i55.beq 1) (Zf r54.snd.fst fun v56 c57=>YB (some 2) v56 fun l58=>Zj c57 (gd (below 0 (V.vec .plain (some 2) l58)&&Z4 0 []) (some (Out.ret (V.vec .plain
 (some 2) l58),[])))) none) fun v59=>none)))))):=by kernel_rfl
theorem zaj(O:Oracle)(n0:Int)(n1:Int)(l2:(List V))(l3:(List V))(n4:Int)(n5:Int)(l6:(List V)):Z3 Tryd.prog cfg O 30 19 [.int n0, .int n1, .vec .plain (some 4) l2, .vec .grow (some 2) l3, .loc false (some 3) (.agg [.int n4, .int n5, .vec .plain (some 3) l6])] []=
 bc (decide (n0<(↑l6.length:Int))) (gd (decide (0≤n0)&&decide (n0<(↑l6.length:Int))) (Zl [CT.int,CT.int,CT.slice (some 3)] (Yf l6 n0) fun n1_1 n2 l3_1=>
 Za (Zi O 55 [V.agg [V.int n1_1,V.int n2,V.vec .plain (some 3) l3_1]]) fun r4=>Zp r4 fun b5=>bc b5 (bc ((↑l3_1.length:Int)==0) (Za (Zi O
 30 [V.agg [V.int n1_1,V.int n2,V.vec .plain (some 3) l3_1],V.vec .plain (some 4) l2,V.int n1]) fun r6=>ZV (some 2) r6 fun l7=>gd (true&&roomFor Tryd.prog
 58 (l3.length+l7.length)) (O.2 30 19 [V.int (IntKind.i64.wrap (n0+1)),V.int n1,V.vec .plain (some 4) l2,V.vec Mode.grow (some 2) (l3++l7),V.loc
 false (some 3) (V.agg [V.int n4,V.int n5,V.vec .plain (some 3) l6])] [])) (Za (Zi O 53 [V.str {data:= #[40]}]) fun r8=>Zl [CT.int,CT.str] r8 fun n9
 s10=>gd (true&&roomFor Tryd.prog 58 (l3.length+[V.agg [V.int n9,V.str s10]].length)) (Za (Zi O 30 [V.agg [V.int n1_1,V.int n2,V.vec .plain
 (some 3) l3_1],V.vec .plain (some 4) l2,V.int n1]) fun r11=>ZV (some 2) r11 fun l12=>gd (true&&roomFor Tryd.prog 58 ((l3++[V.agg [V.int n9,V.str
 s10]]).length+l12.length)) (Za (Zi O 53 [V.str {data:= #[41]}]) fun r13=>Zl [CT.int,CT.str] r13 fun n14 s15=>gd (true&&roomFor Tryd.prog
 58 ((l3++[V.agg [V.int n9,V.str s10]]++l12).length+[V.agg [V.int n14,V.str s15]].length)) (O.2 30 19 [V.int (IntKind.i64.wrap (n0+1)),V.int n1,
 V.vec .plain (some 4) l2,V.vec Mode.grow (some 2) (l3++[V.agg [V.int n9,V.str s10]]++l12++[V.agg [V.int n14,V.str s15]]),V.loc false (some 3) (V.agg [V.int n4,V.int n5,
 V.vec .plain (some 3) l6])] []))))) (Za (Zi O 53 [V.str {data:= #[40]}]) fun r16=>Zl [CT.int,CT.str] r16 fun n17 s18=>gd (true&&roomFor Tryd.prog
 58 (l3.length+[V.agg [V.int n17,V.str s18]].length)) (Za (Zi O 30 [V.agg [V.int n1_1,V.int n2,V.vec .plain (some 3) l3_1],V.vec .plain (some 4)
 l2,V.int n1]) fun r19=>ZV (some 2) r19 fun l20=>gd (true&&roomFor Tryd.prog 58 ((l3++[V.agg [V.int n17,V.str s18]]).length+l20.length)) (Za (Zi O
 53 [V.str {data:= #[41]}]) fun r21=>Zl [CT.int,CT.str] r21 fun n22 s23=>gd (true&&roomFor Tryd.prog 58 ((l3++[V.agg [V.int n17,V.str s18]]++
 l20).length+[V.agg [V.int n22,V.str s23]].length)) (O.2 30 19 [V.int (IntKind.i64.wrap (n0+1)),V.int n1,V.vec .plain (some 4) l2,V.vec Mode.grow (some 2) (l3
 ++[V.agg [V.int n17,V.str s18]]++l20++[V.agg [V.int n22,V.str s23]]),V.loc false (some 3) (V.agg [V.int n4,V.int n5,V.vec .plain (some 3) l6])] [])))))) (some (Ex.exit
 1,[V.vec Mode.grow (some 2) l3],[])):=by kernel_rfl
theorem zjf(O:Oracle)(s0:ByteArray):Zd Tryd.prog cfg O 52 [.str s0] []=
 some (Out.ret (V.agg [V.int 0,V.str s0]),[]):=by kernel_rfl
theorem zjg(O:Oracle)(s0:ByteArray):Zd Tryd.prog cfg O 53 [.str s0] []=
 some (Out.ret (V.agg [V.int 1,V.str s0]),[]):=by kernel_rfl
theorem zhm(O:Oracle)(n0:Int):Zd Tryd.prog cfg O 54 [.int n0] []=
 Za (Zi O 65 [V.int n0]) fun r1=>YA r1 fun s2=>gd (decide (1+s2.size≤9223372036854775807)) (Za (Zi O 52 [V.str ({data:= #[95]}++
 s2)]) fun r3=>Zl [CT.int,CT.str] r3 fun n4 s5=>some (Out.ret (V.agg [V.int n4,V.str s5]),[])):=by kernel_rfl
theorem zhn(O:Oracle)(n0:Int)(n1:Int)(l2:(List V)):Zd Tryd.prog cfg O 55 [.agg [.int n0, .int n1, .vec .plain (some 3) l2]] []=
 bc (n0==4) (some (Out.ret (V.bool true),[])) (bc (n0==2) (some (Out.ret (V.bool true),[])) (some (Out.ret (V.bool (n0==5)),[]))):=by kernel_rfl
theorem zg4(O:Oracle)(n0:Int):Zd Tryd.prog cfg O 65 [.int n0] []=
 Za (O.loop 65 2 [V.int n0,V.str {data:= #[]}] []) fun r1=>YV r1.fst none (Zf r1.snd.fst fun v2 c3=>YA v2 fun s4=>Zj c3 (some (Out.ret (V.str
 s4),[]))) (fun i5=>none) fun v6=>none:=by kernel_rfl
theorem zee(O:Oracle)(n0:Int)(s1:ByteArray):Z3 Tryd.prog cfg O 65 2 [.int n0, .str s1] []=
 gd (decide ((YH [V.ik IntKind.u8 (IntKind.u8.wrap (IntKind.i64.wrap (48+n0.tmod 10)))]).size+s1.size≤9223372036854775807)) (bc (IntKind.i64.wrap (n0.tdiv 10)==0) (some
 (Ex.ret,[V.str (YH [V.ik IntKind.u8 (IntKind.u8.wrap (IntKind.i64.wrap (48+n0.tmod 10)))]++s1)],[])) (O.2 65 2 [V.int (IntKind.i64.wrap (n0.tdiv 10)),V.str
 (YH [V.ik IntKind.u8 (IntKind.u8.wrap (IntKind.i64.wrap (48+n0.tmod 10)))]++s1)] [])):=by kernel_rfl
end Go.Proofs.SW
namespace Go.Ama
open Go Go.AM
mutual
def QR(n:Nat):T→Bool
 | .mk k h xs=> !((decide (k=2)||decide (k=5))&&decide ((n:Int)≤h))&&QS n xs
def QS(n:Nat):List T→Bool
 |[]=>true
 |t::l=>QR n t&&QS n l
end
theorem zno{sig:List D}(t:T): ∀d:Nat,Yo t=true→okW sig t d=true→QR sig.length t=true:=by
 induction t using T.ind with
 |_ k h xs ih=>
  intro d hn ho
  simp only[Yo,Bool.and_eq_true]at hn
  unfold okW at ho
  simp only[QR,Bool.and_eq_true]
  by_cases h0:k=0
  ·subst h0
   have hx:xs=[]:=by
    have:=hn.1
    unfold zaS at this
    simp only[if_true,Bool.and_eq_true,decide_eq_true_eq]at this
    exact List.length_eq_zero_iff.1 this.2
   subst hx
   exact⟨by simp,rfl⟩
  ·rw[if_neg h0]at ho
   by_cases h1:k=1
   ·subst h1
    rw[if_pos rfl]at ho
    have hx:=hn.1
    unfold zaS at hx
    simp only[if_neg h0,if_true,Bool.and_eq_true,decide_eq_true_eq]at hx
    match xs,hx.2,ih,ho,hn with
    |[a,b],_,ih,ho,hn=>
     simp only[znb,Bool.and_eq_true]at ho
     simp only[Y8,Bool.and_eq_true]at hn
     exact⟨by simp,by simp[QS,ih a (by simp) d hn.2.1 ho.1,ih b (by simp) (d+1) hn.2.2.1 ho.2]⟩
   ·rw[if_neg h1]at ho
    by_cases h3:k=3
    ·subst h3
     rw[if_pos rfl]at ho
     have hx:=hn.1
     unfold zaS at hx
     simp only[if_neg h0,if_neg h1,if_true,Bool.and_eq_true,decide_eq_true_eq]at hx
     match xs,hx.2,ih,ho,hn with
     |[a],_,ih,ho,hn=>
      simp only[zhR]at ho
      simp only[Y8,Bool.and_eq_true]at hn
      exact⟨by simp,by simp[QS,ih a (by simp) (d+1) hn.2.1 ho]⟩
    ·rw[if_neg h3,Bool.and_eq_true]at ho
     refine⟨?_, ?_⟩
     ·have:=ho.1
      unfold Xt at this
      by_cases h4:k=4
      ·subst h4;simp
      ·by_cases h2:(k=2∨k=5)∧h<sig.length
       ·simp;omega
       ·simp[h4,h2]at this
     ·have hl: ∀l:List T,(∀a∈l,∀d:Nat,Yo a=true→okW sig a d=true→QR sig.length a=true)→Y8 l=true→Qt sig l d=true→QS sig.length l=true:=by
       intro l
       induction l with
       |nil=>intros;rfl
       |cons a l ihl=>
        intro hh h2 h3
        simp only[Y8,Bool.and_eq_true]at h2
        simp only[Qt,Bool.and_eq_true]at h3
        simp only[QS,hh a (List.mem_cons_self ..) d h2.1 h3.1,ihl (fun c hc=>hh c (List.mem_cons_of_mem _ hc)) h2.2 h3.2,Bool.and_self]
      exact hl xs ih hn.2 ho.2
theorem zlL{sig:List D}(t:T): ∀d:Nat,d≤1099511627776→low t=true→Yo t=true→XR (ZK 0 0) d t=true→QR sig.length t=true→d+t.depth≤1099511627776→okW sig t d=true:=by
 induction t using T.ind with
 |_ k h xs ih=>
  intro d hd hlo hn hs hg hdp
  simp only[low,Bool.and_eq_true,decide_eq_true_eq]at hlo
  simp only[Yo,Bool.and_eq_true]at hn
  simp only[T.depth]at hdp
  simp only[XR,Bool.and_eq_true]at hs
  simp only[QR,Bool.and_eq_true]at hg
  unfold okW
  by_cases h0:k=0
  ·rw[if_pos h0]
  ·rw[if_neg h0]
   by_cases h1:k=1
   ·subst h1
    rw[if_pos rfl]
    have hx:=hn.1
    unfold zaS at hx
    simp only[if_neg h0,if_true,Bool.and_eq_true,decide_eq_true_eq]at hx
    match xs,hx.2,ih,hs,hn,hlo,hdp,hg with
    |[a,b],_,ih,hs,hn,hlo,hdp,hg=>
     simp only[Y8,Bool.and_eq_true]at hn
     simp only[low.lows,Bool.and_eq_true]at hlo
     simp only[Z6]at hdp
     simp only[QS,Bool.and_eq_true]at hg
     simp only[YK,decide_true,Bool.true_or,cond_true,Bool.and_eq_true]at hs
     have h2:=hs.2.2
     simp only[znb,Bool.and_eq_true]
     exact⟨ih a (by simp) d hd hlo.2.1 hn.2.1 hs.2.1 hg.2.1 (by omega),ih b (by simp) (d+1) (by omega) hlo.2.2.1 hn.2.2.1 (by simpa using h2) hg.2.2.1 (by omega)⟩
   ·rw[if_neg h1]
    by_cases h3:k=3
    ·subst h3
     rw[if_pos rfl]
     have hx:=hn.1
     unfold zaS at hx
     simp only[if_neg h0,if_neg h1,if_true,Bool.and_eq_true,decide_eq_true_eq]at hx
     match xs,hx.2,ih,hs,hn,hlo,hdp,hg with
     |[a],_,ih,hs,hn,hlo,hdp,hg=>
      simp only[Y8,Bool.and_eq_true]at hn
      simp only[low.lows,Bool.and_eq_true]at hlo
      simp only[Z6]at hdp
      simp only[QS,Bool.and_eq_true]at hg
      simp only[YK,decide_true,Bool.or_true,cond_true]at hs
      have h2:=hs.2
      simp only[zhR]
      exact ih a (by simp) (d+1) (by omega) hlo.2.1 hn.2.1 (by simpa using h2) hg.2.1 (by omega)
    ·rw[if_neg h3,Bool.and_eq_true]
     have hh:=hn.1
     unfold zaS at hh
     rw[if_neg h0,if_neg h1,if_neg h3]at hh
     simp only[Bool.and_eq_true,decide_eq_true_eq]at hh
     refine⟨?_, ?_⟩
     ·have h5:=hs.1
      have h6:=hg.1
      unfold Xt
      by_cases h4:k=4
      ·subst h4
       have hw:IntKind.i64.wrap (h-d)=h-d:=Yl (by omega) (by omega)
       unfold ZK at h5
       simp only[T.k,T.h,hw,ne_eq,not_true_eq_false,decide_false,Bool.false_or,Bool.and_eq_true,decide_eq_true_eq]at h5
       have h7:h<d:=by have:=h5.1;omega
       rw[if_pos ⟨rfl,h7⟩]
       rfl
      ·have h7: ¬(k=4∧h<d):=fun e=>h4 e.1
       rw[if_neg h7]
       have h8:k≠6:=by
        rintro rfl
        unfold ZK at h5
        simp only[T.k,T.h,ne_eq,not_true_eq_false,decide_false,Bool.false_or,Bool.and_eq_true,decide_eq_true_eq]at h5
        have:h<0:=of_decide_eq_true h5.2
        omega
       have h9:k=2∨k=5:=by omega
       have h10:h<sig.length:=by
        rcases h9 with rfl|rfl<;>simp at h6<;>omega
       rw[if_pos ⟨h9,h10⟩,Option.isSome_map,List.getElem?_eq_getElem (by omega)]
       rfl
     ·have hb:(decide (k=1)||decide (k=3))=false:=by simp[h1,h3]
      have hs2:=hs.2
      rw[hb]at hs2
      have hl: ∀l:List T,(∀a∈l,∀d:Nat,d≤1099511627776→low a=true→Yo a=true→XR (ZK 0 0) d a=true→QR sig.length a=true→d+a.depth≤1099511627776→okW sig a d=true)→low.lows l=true→Y8 l=true→YK (ZK 0 0) d false l=true→QS sig.length l=true→d+Z6 l≤1099511627776→Qt sig l d=true:=by
       intro l
       induction l with
       |nil=>intros;rfl
       |cons a l ihl=>
        intro hh h1 h2 h3 h5 h4
        simp only[low.lows,Bool.and_eq_true]at h1
        simp only[Y8,Bool.and_eq_true]at h2
        simp only[QS,Bool.and_eq_true]at h5
        simp only[Z6]at h4
        have h6:XR (ZK 0 0) d a=true∧YK (ZK 0 0) d false l=true:=by
         cases l with
         |nil=>exact⟨by simpa[YK]using h3,rfl⟩
         |cons b l=>simpa[YK]using h3
        simp only[Qt,hh a (List.mem_cons_self ..) d hd h1.1 h2.1 h6.1 h5.1 (by omega),ihl (fun c hc=>hh c (List.mem_cons_of_mem _ hc)) h1.2 h2.2 h6.2 h5.2 (by omega),Bool.and_self]
      exact hl xs ih hlo.2 hn.2 hs2 hg.2 (by omega)
end Go.Ama
namespace Go.Ama
open Go Go.AM
def Sc(i:Nat)(t:T):Prop:=XR (ZK 0 0) i t=true
section
variable{term:List Bytes→PS→T×PS}{bs:List Bytes}(ht: ∀s,Sc bs.length (term bs s).1)(hb:bs.length≤2000)
include ht hb
end
theorem QT{s r:PS}(h:Mono s r)(hr:r.e=0):s.e=0:=by
 rcases Decidable.em (s.e=0)with he|he
 ·exact he
 ·rw[h.err he]at hr;exact hr
end Go.Ama
namespace Go.Ama
open Go.AM (T)
def PS.more(s:PS)(x:List Tok):PS:={s with l:=s.l++x}
def zqb(f:PS→T×PS):Prop:= ∀s x,(f s).2.e=0→(f s).2.l≠ []→f (s.more x)=((f s).1,(f s).2.more x)
section
variable{term:List Bytes→PS→T×PS}(hm: ∀bs s,Mono s (term bs s).2)(hb: ∀bs,zqb (term bs))
include hm hb
omit hb in
end
end Go.Ama
namespace Go.Ama
open Go.AM (T)
structure Sim(φ:PS→PS)(ψ:List Bytes→List Bytes)(G:PS→Prop):Prop where
 mono: ∀{s r},G s→Mono s r→G r
 cons: ∀x bs,ψ (x::bs)=x::ψ bs
 is: ∀{s} c,G s→(c=[40]∨c=[91]∨c=[123])→(φ s).is c=s.is c
 named: ∀{s},G s→(φ s).named=s.named
 take: ∀{s} c,G s→(s.take c).e=0→(φ s).take c=φ (s.take c)
 name: ∀{s},G s→s.name.2.e=0→(φ s).name=(s.name.1,φ s.name.2)
 head: ∀{s} bs,G s→s.name.2.e=0→(s.name.2.head s.name.1 bs).2.e=0→(φ s.name.2).head s.name.1 (ψ bs)=((s.name.2.head s.name.1 bs).1,φ (s.name.2.head s.name.1 bs).2)
 len: ∀s,s.l.length≤(φ s).l.length
 err: ∀s,(φ s).e=s.e
section
variable{φ:PS→PS}{ψ:List Bytes→List Bytes}{G:PS→Prop}(S:Sim φ ψ G)
include S
theorem Sim.alone{s:PS}(g:G s)(he:s.alone.e=0):(φ s).alone=φ s.alone:=by
 unfold PS.alone at*
 rw[S.named g,S.is [40] g (.inl rfl)]
 split
 ·rename_i h;rw[if_pos h]at he;exact absurd he zhT
 ·rfl
def zo0(φ:PS→PS)(G:PS→Prop)(f f':PS→T×PS):Prop:= ∀s,G s→(f s).2.e=0→f' (φ s)=((f s).1,φ (f s).2)
section
variable{term term':List Bytes→PS→T×PS}(hm: ∀bs s,Mono s (term bs s).2)(hm': ∀bs s,Mono s (term' bs s).2)(hb: ∀bs,zo0 φ G (term bs) (term' (ψ bs)))
include hm hb
theorem Sim.inner(bs:List Bytes):zo0 φ G (PS.inner term bs) (PS.inner term' (ψ bs)):=by
 intro s g he
 unfold PS.inner at*
 dsimp only at*
 have e2:=QT (YF [41] _) he
 have e1:=QT (hm bs (s.take [40])) e2
 have g1:=S.mono g (YF [40] s)
 have g2:=S.mono g1 (hm bs _)
 rw[S.take _ g e1,hb bs _ g1 e2,S.take _ g2 he]
theorem Sim.atom(bs:List Bytes):zo0 φ G (PS.atom term bs) (PS.atom term' (ψ bs)):=by
 intro s g he
 unfold PS.atom at*
 rw[S.is [40] g (.inl rfl)]
 split
 ·rename_i h
  rw[if_pos h]at he
  exact S.inner hm hb bs s g he
 ·rename_i h
  rw[if_neg h]at he
  dsimp only at*
  by_cases ht:s.name.1=typ
  ·rw[if_pos ht]at he
   exact absurd he zhT
  ·rw[if_neg ht]at he⊢
   have e1:=QT (zaU _ _ _) he
   rw[S.name g e1]
   dsimp only
   rw[if_neg ht,S.head bs g e1 he]
include hm'
theorem Sim.args(bs:List Bytes): ∀m k s,s.l.length≤m→(φ s).l.length≤k→G s→(PS.args term bs m s).2.e=0→PS.args term' (ψ bs) k (φ s)=((PS.args term bs m s).1,φ (PS.args term bs m s).2):=by
 intro m
 induction m with
 |zero=>
  intro k s h h' g he
  have hnil:s.l=[]:=List.eq_nil_of_length_eq_zero (by omega)
  have h1:(φ s).named=false:=by rw[S.named g];simp[PS.named,hnil]
  have h2:(φ s).is [40]=false:=by rw[S.is [40] g (.inl rfl)];simp[PS.is,hnil]
  cases k<;>simp[PS.args,h1,h2]
 |succ m ih=>
  intro k s h h' g he
  by_cases hc:(s.named||s.is [40])=true
  ·have hlt:=zmm hm (bs:=bs) hc
   have hc':((φ s).named||(φ s).is [40])=true:=by rw[S.named g,S.is [40] g (.inl rfl)];exact hc
   have hlt':=zmm hm' (bs:=ψ bs) hc'
   obtain⟨k,rfl⟩: ∃j,k=j+1:=⟨k-1,by omega⟩
   unfold PS.args at he⊢
   rw[if_pos hc]at he
   rw[if_pos hc,if_pos hc']
   dsimp only at*
   have e1:=QT (zcL hm bs m _) he
   have ha:=S.atom hm hb bs s g e1
   rw[ha]at hlt'⊢
   dsimp only at*
   rw[ih k _ (by omega) (by omega) (S.mono g (zhS hm bs s)) he]
  ·have hc': ¬((φ s).named||(φ s).is [40])=true:=by rw[S.named g,S.is [40] g (.inl rfl)];exact hc
   have e1:PS.args term bs (m+1) s=([],s):=by unfold PS.args;rw[if_neg hc]
   have e2:PS.args term' (ψ bs) k (φ s)=([],φ s):=by
    cases k with
    |zero=>rfl
    |succ k=>unfold PS.args;rw[if_neg hc']
   rw[e1,e2]
theorem Sim.atoms(bs:List Bytes):zo0 φ G (PS.atoms term bs) (PS.atoms term' (ψ bs)):=by
 intro s g he
 unfold PS.atoms at*
 rw[S.is [40] g (.inl rfl)]
 split
 ·rename_i h
  rw[if_pos h]at he
  dsimp only at*
  have e1:=QT (zd2 _) he
  rw[S.inner hm hb bs s g e1,S.alone (S.mono g (zd3 hm bs s)) he]
 ·rename_i h
  rw[if_neg h]at he
  dsimp only at*
  by_cases h1:s.name.2.e≠0
  ·rw[if_pos h1]at he
   exact absurd he h1
  ·rw[if_neg h1]at he⊢
   have e1:s.name.2.e=0:=by simpa using h1
   have g1:=S.mono g (XN s)
   rw[S.name g e1]
   dsimp only
   rw[S.err,if_neg h1]
   split
   ·rename_i h2
    rw[if_pos h2]at he
    rw[S.alone g1 he]
   ·rename_i h2
    rw[if_neg h2]at he
    have e2:=QT (zcL hm bs _ _) he
    rw[S.head bs g e1 e2]
    dsimp only
    rw[S.args hm hm' hb bs _ _ _ (Nat.le_refl _) (Nat.le_refl _) (S.mono g1 (zaU _ _ _)) he]
end
theorem Sim.term: ∀n bs,zo0 φ G (PS.term n bs) (PS.term n (ψ bs))
 |0,bs=>fun s _ he=>absurd he (zml (by decide) _)
 |n+1,bs=>fun s g he=>by
  have ih:=Sim.term n
  unfold PS.term at*
  rw[S.is [123] g (.inr (.inr rfl)),S.is [91] g (.inr (.inl rfl))]
  split
  ·rename_i h
   rw[if_pos h]at he
   dsimp only at*
   have m1:=YF [123] s
   have m2:=XN (s.take [123])
   have m3:=YF [58] (s.take [123]).name.2
   have m4:=JL n bs ((s.take [123]).name.2.take [58])
   have m5:=YF [125] (PS.term n bs ((s.take [123]).name.2.take [58])).2
   have m6:=JL n ((s.take [123]).name.1::bs) ((PS.term n bs ((s.take [123]).name.2.take [58])).2.take [125])
   have e5:=QT m6 he
   have e4:=QT m5 e5
   have e3:=QT m4 e4
   have e2:=QT m3 e3
   have e1:=QT m2 e2
   have g1:=S.mono g m1
   have g2:=S.mono g1 m2
   have g3:=S.mono g2 m3
   have g4:=S.mono g3 m4
   have g5:=S.mono g4 m5
   rw[S.take _ g e1,S.name g1 e2]
   dsimp only
   rw[S.take _ g2 e3,ih bs _ g3 e4]
   dsimp only
   rw[S.take _ g4 e5,←S.cons,ih _ _ g5 he]
  ·rename_i h
   rw[if_neg h]at he
   split
   ·rename_i h'
    rw[if_pos h']at he
    dsimp only at*
    have m1:=YF [91] s
    have m2:=XN (s.take [91])
    have m3:=YF [93] (s.take [91]).name.2
    have m4:=JL n ((s.take [91]).name.1::bs) ((s.take [91]).name.2.take [93])
    have e3:=QT m4 he
    have e2:=QT m3 e3
    have e1:=QT m2 e2
    have g1:=S.mono g m1
    have g2:=S.mono g1 m2
    have g3:=S.mono g2 m3
    rw[S.take _ g e1,S.name g1 e2]
    dsimp only
    rw[S.take _ g2 e3,←S.cons,ih _ _ g3 he]
   ·rename_i h'
    rw[if_neg h']at he
    exact S.atoms (JL n) (JL n) ih bs s g he
end
end Go.Ama
namespace Go.Ama
open Go.AM (T)
def zrd(f g:PS→T×PS):Prop:= ∀s,(g s).2.e=0→f s=g s∨(f s).2.e=4
theorem e4{s r:PS}(h:Mono s r)(h4:s.e=4):r.e=4:=by rw[h.err (by rw[h4];decide)];exact h4
section
variable{f g:List Bytes→PS→T×PS}(hf: ∀bs s,Mono s (f bs s).2)(hg: ∀bs s,Mono s (g bs s).2)(hb: ∀bs,zrd (f bs) (g bs))
include hb
include hf hg
end
theorem znp{b:Bytes}{l:List Tok}(hb:b.length≤20000)(h:Xb b=some l):zk3 b=(l,0):=by
 unfold zk3
 rw[if_neg (by omega),h]
end Go.Ama
namespace Go.Ama
open Go Go.AM
structure Good(sig:List D):Prop where
 name: ∀d∈sig,nameOK d.name=true
 nodup:(sig.map (·.name)).Nodup
def stop:List Tok→Bool
 |[]=>true
 |t::_=>decide (t.1=1)&&decide (t.2≠ [40])
theorem zpt{n:Nat}(h:n<100):Lib.decDigits n=if n<10 then[UInt8.ofNat (48+n)]else[UInt8.ofNat (48+n/10),UInt8.ofNat (48+n % 10)]:=by
 rw[Lib.decDigits]
 split
 ·rfl
 ·rw[Lib.decDigits,dif_pos (by omega)]
  rfl
section
variable{sig:List D}(G:Good sig)
include G
end
end Go.Ama
namespace Go.Proofs.SW
open Go Go.AM Go.Ama
set_option maxRecDepth 100000
theorem zpu: ∀n:Fin 100,YH [V.ik IntKind.u8 (IntKind.u8.wrap (IntKind.i64.wrap (48+((n.val:Nat):Int).tmod 10)))]=ba [UInt8.ofNat (48+n.val % 10)]∧IntKind.i64.wrap (((n.val:Nat):Int).tdiv 10)=((n.val/10:Nat):Int):=by decide+kernel
theorem zfj(n:Nat)(h:n<100)(s:Bytes)(hs:s.length≤100):W.loop 65 2 [.int (n:Nat), .str (ba s)] []=
  if n<10 then some (.ret,[.str (ba (UInt8.ofNat (48+n % 10)::s))],[])else W.loop 65 2 [.int ((n/10:Nat):Int), .str (ba (UInt8.ofNat (48+n % 10)::s))] []:=by
 obtain⟨h1,h2⟩:=zpu ⟨n,h⟩
 simp only at h1 h2
 have hg:decide ((ba [UInt8.ofNat (48+n % 10)]).size+(ba s).size≤9223372036854775807)=true:=by rw[Y6,Y6];exact decide_eq_true (by simp;omega)
 rw[L,zee,h1,h2,hg,Z0,zcJ]
 by_cases h10:n<10
 ·have hz:n/10=0:=by omega
  rw[if_pos h10,hz]
  rfl
 ·have hb:(((n/10:Nat):Int)==0)=false:=by
   have:((n/10:Nat):Int)≠0:=by omega
   simpa using this
  rw[if_neg h10,hb]
  rfl
theorem zjh{n:Int}(h0:0≤n)(h:n<100):Ev 65 [.int n] (.str (ba (Lib.decDigits n.toNat))):=by
 obtain⟨k,rfl⟩:=Int.eq_ofNat_of_zero_le h0
 unfold Ev
 have hk:k<100:=by omega
 have h1:=zfj k hk [] (by simp)
 have h1':W.loop 65 2 [.int (k:Nat),V.str {data:= #[]}] []=_:=h1
 rw[C,zg4,h1',Int.toNat_natCast,zpt hk]
 by_cases h10:k<10
 ·rw[if_pos h10,if_pos h10,Nat.mod_eq_of_lt h10]
  rfl
 ·rw[if_neg h10,if_neg h10,zfj (k/10) (by omega) _ (by simp),if_pos (by omega),Nat.mod_eq_of_lt (show k/10<10 by omega)]
  rfl
theorem zb4(c:UInt8):Zi W 53 [.str (ba [c])]=some (Yz (YY c)):=by
 have h:Ev 53 [.str (ba [c])] (Yz (YY c)):=by unfold Ev;rw[C,zjg];rfl
 exact h.p (by simp[Ze,below]) (by simp[Yz,below,Ze])
theorem zji(s:Bytes):Zi W 52 [.str (ba s)]=some (Yz (0,s)):=by
 have h:Ev 52 [.str (ba s)] (Yz (0,s)):=by unfold Ev;rw[C,zjf];rfl
 exact h.p (by simp[Ze,below]) (by simp[Yz,below,Ze])
theorem zg5{n:Int}(h0:0≤n)(h:n<100):Zi W 54 [.int n]=some (Yz (Yh n)):=by
 have h':Ev 54 [.int n] (Yz (Yh n)):=by
  unfold Ev
  have hd:=zgv (n:=n.toNat) (by omega)
  have hg:decide (1+(ba (Lib.decDigits n.toNat)).size≤9223372036854775807)=true:=by rw[Y6];exact decide_eq_true (by omega)
  have hs:({data:= #[95]}:ByteArray)++ba (Lib.decDigits n.toNat)=ba (95::Lib.decDigits n.toNat):=zcJ [95] _
  rw[C,zhm,(zjh h0 h).p,Zb,zcH,hg,Z0,hs,zji,Zb,Xc]
  rfl
 exact h'.p (by simp[Ze,below]) (by simp[Yz,below,Ze])
theorem zo1(t:T):Zi W 55 [.agg [.int t.k, .int t.h, .vec .plain (some 3) (Zs t.args)]]=some (.bool (zgu t.k)):=by
 have h:Ev 55 [.agg [.int t.k, .int t.h, .vec .plain (some 3) (Zs t.args)]] (.bool (zgu t.k)):=by
  unfold Ev
  rw[C,zhn]
  unfold zgu
  cases(t.k==4)<;>cases(t.k==2)<;>rfl
 have hb:=YD 0 t
 rw[Zz]at hb
 exact h.p (by rw[Ze,hb];rfl) rfl
end Go.Proofs.SW
namespace Go.Proofs.SW
open Go Go.AM Go.Ama
set_option maxRecDepth 100000
theorem zg6(t:T):below 0 (.agg [.int t.k, .int t.h, .vec .plain (some 3) (Zs t.args)])=true:=by rw[←Zz];exact YD 0 t
theorem zkH(n:Nat)(xs:List T)(ih: ∀a∈xs,Ev 28 [enc a, .int (n:Nat)] (.bool (QR n a)))(hx:xs.length≤1099511627776)(v:V)(k0 h0:Int)(l0:List V)(hv:v= .loc false (some 3) (.agg [.int k0, .int h0, .vec .plain (some 3) (Zs xs)])): ∀j k,k+j=xs.length→
  W.loop 28 4 [.int (k:Nat), .int (n:Nat),v] []=some (bif QS n (xs.drop k)then(.exit 0,[],[])else(.ret,[.bool false],[])):=by
 subst hv
 intro j
 induction j with
 |zero=>
  intro k hk
  have hlt:decide (((k:Nat):Int)<((Zs xs).length:Int))=false:=by rw[ZB];exact decide_eq_false (by omega)
  rw[L,zba,hlt,List.drop_of_length_le (by omega)]
  rfl
 |succ j ihj=>
  intro k hk
  have hkl:k<xs.length:=by omega
  have hlt:decide (((k:Nat):Int)<((Zs xs).length:Int))=true:=by rw[ZB];exact decide_eq_true (by omega)
  have g1:(decide ((0:Int)≤(k:Nat))&&true)=true:=by rw[decide_eq_true (by omega)];rfl
  have hw:IntKind.i64.wrap ((k:Nat)+1:Int)=((k+1:Nat):Int):=Yl (by omega) (by omega)
  have hdr:xs.drop k=xs[k]::xs.drop (k+1):=List.drop_eq_getElem_cons hkl
  have hp:=(ih xs[k] (List.getElem_mem hkl)).p (by rw[Ze,YD];rfl) rfl
  rw[Zz]at hp
  rw[L,zba,hlt,Zk,g1,Z0,Xg hkl,YU,hp,Zb,Zo,hw,ihj (k+1) (by omega),hdr]
  simp only[QS]
  cases QR n xs[k]<;>rfl
theorem zkI(n:Nat)(t:T):t.size≤1099511627776→Ev 28 [enc t, .int (n:Nat)] (.bool (QR n t)):=by
 induction t using T.ind with
 |_ k h xs ih=>
  intro hs
  simp only[T.size]at hs
  have hxl:=ZF xs
  have ih': ∀a∈xs,Ev 28 [enc a, .int (n:Nat)] (.bool (QR n a)):=fun a ha=>ih a ha (by have:=size_le ha;omega)
  have hl:=zkH n xs ih' (by omega) _ k h [] rfl xs.length 0 (by omega)
  have hl':W.loop 28 4 [.int 0, .int (n:Nat), .loc false (some 3) (.agg [.int k, .int h, .vec .plain (some 3) (Zs xs)])] []=some (bif QS n (xs.drop 0)then(.exit 0,[],[])else(.ret,[.bool false],[])):=hl
  unfold Ev
  have hC:W.call 28 [enc (.mk k h xs), .int (n:Nat)] []=Zd Tryd.prog cfg W 28 [.agg [.int k, .int h, .vec .plain (some 3) (Zs xs)], .int (n:Nat)] []:=C ..
  rw[hC,zhl,ZN,ZN,hl',List.drop_zero]
  simp only[QR]
  have hge:decide (h≥(n:Int))=decide ((n:Int)≤h):=rfl
  rw[hge]
  cases decide (k=2)<;>cases decide (k=5)<;>cases decide ((n:Int)≤h)<;>cases QS n xs<;>rfl
def Rt(sig:List D)(t:T):Prop:= ∀d:Nat,Yo t=true→okW sig t d=true→d+t.depth≤100→t.size≤4000→Ev 30 [enc t, .vec .plain (some 4) (Zr sig), .int (d:Nat)] (.vec .plain (some 2) (Zg (words sig t d)))
theorem Rt.p{sig:List D}{t:T}(h:Rt sig t){d:Nat}(h1:Yo t=true)(h2:okW sig t d=true)(h3:d+t.depth≤100)(h4:t.size≤4000):
  Zi W 30 [.agg [.int t.k, .int t.h, .vec .plain (some 3) (Zs t.args)], .vec .plain (some 4) (Zr sig), .int (d:Nat)]=some (.vec .plain (some 2) (Zg (words sig t d))):=by
 have:=(h d h1 h2 h3 h4).p (by rw[Ze,YD];simp[Ze,below,YL]) (by simp[below,Ys])
 rw[Zz]at this
 exact this
theorem zlM{sig:List D}(xs:List T)(ih: ∀a∈xs,Rt sig a)(d:Nat)(hn:Y8 xs=true)(ho:Qt sig xs d=true)(hd:d+Z6 xs≤100)(hx:sizes xs≤4000)(k0 h0:Int): ∀j k,k+j=xs.length→ ∀l:List Tok,l.length+9*sizes (xs.drop k)≤1000000→
  W.loop 30 19 [.int (k:Nat), .int (d:Nat), .vec .plain (some 4) (Zr sig), .vec .grow (some 2) (Zg l), .loc false (some 3) (.agg [.int k0, .int h0, .vec .plain (some 3) (Zs xs)])] []=
   some (.exit 1,[.vec .grow (some 2) (Zg (l++QP sig (xs.drop k) d))],[]):=by
 have hxl:=ZF xs
 intro j
 induction j with
 |zero=>
  intro k hk l hl
  have hlt:decide (((k:Nat):Int)<((Zs xs).length:Int))=false:=by rw[ZB];exact decide_eq_false (by omega)
  rw[L,zaj,hlt,List.drop_of_length_le (by omega)]
  simp[QP,bc]
 |succ j ihj=>
  intro k hk l hl
  have hkl:k<xs.length:=by omega
  have hmem:xs[k]∈xs:=List.getElem_mem hkl
  have hlt:decide (((k:Nat):Int)<((Zs xs).length:Int))=true:=by rw[ZB];exact decide_eq_true (by omega)
  have g1:(decide ((0:Int)≤(k:Nat))&&true)=true:=by rw[decide_eq_true (by omega)];rfl
  have hw:IntKind.i64.wrap ((k:Nat)+1:Int)=((k+1:Nat):Int):=Yl (by omega) (by omega)
  have hdr:xs.drop k=xs[k]::xs.drop (k+1):=List.drop_eq_getElem_cons hkl
  have hna:Yo xs[k]=true:=by rw[zag,List.all_eq_true]at hn;exact hn _ hmem
  have hall: ∀l:List T,Qt sig l d=true→ ∀a∈l,okW sig a d=true:=by
   intro l
   induction l with
   |nil=>intro _ a ha;cases ha
   |cons b l ihl=>
    intro h a ha
    simp only[Qt,Bool.and_eq_true]at h
    rcases List.mem_cons.1 ha with rfl|ha
    ·exact h.1
    ·exact ihl h.2 a ha
  have hoa:=hall xs ho _ hmem
  have hda:=zaT hmem
  have hsa:=size_le hmem
  have hp:=(ih _ hmem).p hna hoa (by omega) (by omega)
  have hlen:=X4 (sig:=sig) xs[k] d
  rw[hdr]at hl
  simp only[sizes]at hl
  have h40:Zi W 53 [.str {data:= #[40]}]=some (Yz (YY 40)):=zb4 40
  have h41:Zi W 53 [.str {data:= #[41]}]=some (Yz (YY 41)):=zb4 41
  have e40:[V.agg [V.int (YY 40).1,V.str (ba (YY 40).2)]]=Zg [YY 40]:=rfl
  have e41:[V.agg [V.int (YY 41).1,V.str (ba (YY 41).2)]]=Zg [YY 41]:=rfl
  have hlen0:(((Zs (xs[k]).args).length:Int)==0)=decide ((xs[k]).args.length=0):=by rw[ZN,ZB];simp
  rw[L,zaj,hlt,Zk,g1,Z0,Xg hkl,YU,zo1,Zb,Zo,hlen0,hp,h40,h41,hdr]
  simp only[Zb,Y9,Xc,e40,e41,←Y7,ZT,hw,QP]
  have r1:roomFor Tryd.prog 58 (l.length+(words sig xs[k] d).length)=true:=YX (by omega)
  have r2:roomFor Tryd.prog 58 (l.length+[YY 40].length)=true:=YX (by simp;omega)
  have r3:roomFor Tryd.prog 58 ((l++[YY 40]).length+(words sig xs[k] d).length)=true:=YX (by simp;omega)
  have r4:roomFor Tryd.prog 58 ((l++[YY 40]++words sig xs[k] d).length+[YY 41].length)=true:=YX (by simp;omega)
  rw[r1,r2,r3,r4]
  simp only[Bool.and_self,Z0]
  have i1:=ihj (k+1) (by omega) (l++words sig xs[k] d) (by simp;omega)
  have i2:=ihj (k+1) (by omega) (l++[YY 40]++words sig xs[k] d++[YY 41]) (by simp;omega)
  rw[i1,i2]
  unfold zb2
  cases zgu (xs[k]).k<;>cases decide ((xs[k]).args.length=0)<;>simp[bc]
end Go.Proofs.SW
namespace Go.Proofs.SW
open Go Go.AM Go.Ama
set_option maxRecDepth 100000
theorem zg7{α:Type}(l:List Tok)(K:List V→Option α):YB (some 2) (.vec .grow (some 2) (Zg l)) K=K (Zg l):=rfl
theorem zlN{sig:List D}(t:T):Rt sig t:=by
 induction t using T.ind with
 |_ k h xs ih=>
  intro d hn ho hd hs
  simp only[Yo,Bool.and_eq_true]at hn
  simp only[T.depth]at hd
  simp only[T.size]at hs
  have hxl:=ZF xs
  have hm1:=hn.1
  unfold zaS at hm1
  unfold okW at ho
  have hw:IntKind.i64.wrap ((d:Int)+1)=((d+1:Nat):Int):=Yl (by omega) (by omega)
  unfold Ev
  have hC:W.call 30 [enc (.mk k h xs), .vec .plain (some 4) (Zr sig), .int (d:Nat)] []=Zd Tryd.prog cfg W 30 [.agg [.int k, .int h, .vec .plain (some 3) (Zs xs)], .vec .plain (some 4) (Zr sig), .int (d:Nat)] []:=C ..
  rw[hC,zg3,ZN,ZN,ZN,ZN]
  unfold words
  by_cases h0:k=0
  ·have hty:Zi W 52 [.str {data:= #[116,121,112,101]}]=some (Yz (0,typ)):=zji typ
   rw[decide_eq_true h0,Zk,hty,if_pos h0,Zb,Xc]
   rfl
  rw[decide_eq_false h0,Zn]
  rw[if_neg h0]at hm1 ho
  simp only[if_neg h0]
  by_cases h1:k=1
  ·rw[if_pos h1]at hm1 ho
   simp only[Bool.and_eq_true,decide_eq_true_eq]at hm1
   rw[decide_eq_true h1,Zk]
   simp only[if_pos h1]
   match xs,hm1.2,ih,hn,hd,hs,ho with
   |[a,b],_,ih,hn,hd,hs,ho=>
    simp only[znb,Bool.and_eq_true]at ho
    simp only[Y8,Bool.and_eq_true]at hn
    simp only[Z6]at hd
    simp only[sizes]at hs
    have la:=X4 (sig:=sig) a d
    have lb:=X4 (sig:=sig) b (d+1)
    have m1:Zi W 53 [.str {data:= #[123]}]=some (Yz (YY 123)):=zb4 123
    have m2:Zi W 53 [.str {data:= #[58]}]=some (Yz (YY 58)):=zb4 58
    have m3:Zi W 53 [.str {data:= #[125]}]=some (Yz (YY 125)):=zb4 125
    have bd:Zi W 54 [.int (d:Nat)]=some (Yz (Yh d)):=zg5 (by omega) (by omega)
    have pa:=(ih a (by simp)).p (d:=d) hn.2.1 ho.1 (by omega) (by omega)
    have pb:=(ih b (by simp)).p (d:=d+1) hn.2.2.1 ho.2 (by omega) (by omega)
    have ga:Yf (Zs [a,b]) 0=enc a:=rfl
    have gb:Yf (Zs [a,b]) 1=enc b:=rfl
    have q0:(true&&decide ((0:Int)<((Zs [a,b]).length:Int)))=true:=rfl
    have q1:(true&&decide ((1:Int)<((Zs [a,b]).length:Int)))=true:=rfl
    have e3:[V.agg [V.int (YY 123).1,V.str (ba (YY 123).2)],V.agg [V.int (Yh d).1,V.str (ba (Yh d).2)],V.agg [V.int (YY 58).1,V.str (ba (YY 58).2)]]=Zg [YY 123,Yh d,YY 58]:=rfl
    have e1:[V.agg [V.int (YY 125).1,V.str (ba (YY 125).2)]]=Zg [YY 125]:=rfl
    have r1:roomFor Tryd.prog 58 ([YY 123,Yh d,YY 58].length+(words sig a d).length)=true:=YX (by simp only[List.length_cons,List.length_nil];omega)
    have r2:roomFor Tryd.prog 58 (([YY 123,Yh d,YY 58]++words sig a d).length+[YY 125].length)=true:=YX (by simp only[List.length_append,List.length_cons,List.length_nil];omega)
    have r3:roomFor Tryd.prog 58 (([YY 123,Yh d,YY 58]++words sig a d++[YY 125]).length+(words sig b (d+1)).length)=true:=YX (by simp only[List.length_append,List.length_cons,List.length_nil];omega)
    have hb: ∀l:List Tok,below 0 (V.vec .plain (some 2) (Zg l))=true:=fun l=>by simp[below,Ys]
    rw[m1,m2,m3,bd,ga,gb,q0,q1,hw]
    simp only[Zb,Xc,Z0,YU,pa,pb,Y9,e3,e1,←Y7,ZT,r1,r2,r3,hb,Bool.and_self,wPi]
    simp
  rw[decide_eq_false h1,Zn]
  rw[if_neg h1]at hm1 ho
  simp only[if_neg h1]
  by_cases h3:k=3
  ·rw[if_pos h3]at hm1 ho
   simp only[Bool.and_eq_true,decide_eq_true_eq]at hm1
   rw[decide_eq_true h3,Zk]
   simp only[if_pos h3]
   match xs,hm1.2,ih,hn,hd,hs,ho with
   |[b],_,ih,hn,hd,hs,ho=>
    simp only[zhR]at ho
    simp only[Y8,Bool.and_eq_true]at hn
    simp only[Z6]at hd
    simp only[sizes]at hs
    have lb:=X4 (sig:=sig) b (d+1)
    have m1:Zi W 53 [.str {data:= #[91]}]=some (Yz (YY 91)):=zb4 91
    have m2:Zi W 53 [.str {data:= #[93]}]=some (Yz (YY 93)):=zb4 93
    have bd:Zi W 54 [.int (d:Nat)]=some (Yz (Yh d)):=zg5 (by omega) (by omega)
    have pb:=(ih b (by simp)).p (d:=d+1) hn.2.1 ho (by omega) (by omega)
    have gb:Yf (Zs [b]) 0=enc b:=rfl
    have q0:(true&&decide ((0:Int)<((Zs [b]).length:Int)))=true:=rfl
    have e3:[V.agg [V.int (YY 91).1,V.str (ba (YY 91).2)],V.agg [V.int (Yh d).1,V.str (ba (Yh d).2)],V.agg [V.int (YY 93).1,V.str (ba (YY 93).2)]]=Zg [YY 91,Yh d,YY 93]:=rfl
    have r1:roomFor Tryd.prog 58 ([YY 91,Yh d,YY 93].length+(words sig b (d+1)).length)=true:=YX (by simp only[List.length_cons,List.length_nil];omega)
    have hb: ∀l:List Tok,below 0 (V.vec .plain (some 2) (Zg l))=true:=fun l=>by simp[below,Ys]
    rw[m1,m2,bd,gb,q0,hw]
    simp only[Zb,Xc,Z0,YU,pb,Y9,e3,←Y7,ZT,r1,hb,Bool.and_self,zl4]
    simp
  rw[decide_eq_false h3,Zn]
  rw[if_neg h3]at hm1 ho
  rw[Bool.and_eq_true]at ho
  simp only[Bool.and_eq_true,decide_eq_true_eq]at hm1
  simp only[if_neg h3]
  obtain⟨tk,hT⟩:=Option.isSome_iff_exists.1 ho.1
  have hl:=zlM xs (fun a ha=>ih a ha) d hn.2 ho.2 (by omega) (by omega) k h xs.length 0 (by omega) [tk] (by simp only[List.length_cons,List.length_nil,List.drop_zero];omega)
  have hl':W.loop 30 19 [.int 0, .int (d:Nat), .vec .plain (some 4) (Zr sig), .vec .grow (some 2) [V.agg [V.int tk.1,V.str (ba tk.2)]], .loc false (some 3) (.agg [.int k, .int h, .vec .plain (some 3) (Zs xs)])] []=
   some (.exit 1,[.vec .grow (some 2) (Zg ([tk]++QP sig (xs.drop 0) d))],[]):=hl
  rw[List.drop_zero]at hl'
  have hb: ∀l:List Tok,below 0 (V.vec .plain (some 2) (Zg l))=true:=fun l=>by simp[below,Ys]
  have q1:Nat.beq 1 1=true:=rfl
  rw[hT]
  unfold Xt at hT
  by_cases h4:k=4∧h<d
  ·rw[if_pos h4]at hT
   cases hT
   have bd:=zg5 (n:=(d:Int)-1-h) (by omega) (by omega)
   rw[decide_eq_true h4.1,Zk,Yl (n:=(d:Int)-1) (by omega) (by omega),Yl (n:=(d:Int)-1-h) (by omega) (by omega),bd,Zb,Xc,hl',Zb]
   simp only[zcI,q1,Zk,Xq,zg7,YO,hb]
   rfl
  ·rw[if_neg h4]at hT
   by_cases h2:(k=2∨k=5)∧h<sig.length
   ·rw[if_pos h2,List.getElem?_eq_getElem (by omega)]at hT
    cases hT
    have hi:h.toNat<sig.length:=by omega
    have hh:h=((h.toNat:Nat):Int):=by omega
    have hx:Yf (Zr sig) h=zah sig[h.toNat]:=(congrArg (Yf (Zr sig)) hh).trans (XD hi)
    have g1:(decide (0≤h)&&decide (h<((Zr sig).length:Int)))=true:=by rw[ZL,decide_eq_true (by omega),decide_eq_true h2.2];rfl
    have e3: ∀{α:Type} (K:List V→Option α),Y1 (zah sig[h.toNat]) K=K [.str (ba (sig[h.toNat]).name), .int (sig[h.toNat]).t.k, .int (sig[h.toNat]).t.h, .vec .plain (some 3) (Zs (sig[h.toNat]).t.args)]:=fun K=>rfl
    have e4: ∀{α:Type} (K:ByteArray→Option α),gd (decide (1≤ [V.str (ba (sig[h.toNat]).name), .int (sig[h.toNat]).t.k, .int (sig[h.toNat]).t.h, .vec .plain (some 3) (Zs (sig[h.toNat]).t.args)].length)) (YA (AM.partOf [.str (ba (sig[h.toNat]).name), .int (sig[h.toNat]).t.k, .int (sig[h.toNat]).t.h, .vec .plain (some 3) (Zs (sig[h.toNat]).t.args)] 0 none) K)=K (ba (sig[h.toNat]).name):=fun K=>rfl
    rw[decide_eq_false (by omega),Zn,g1,Z0,hx,e3,e4,zji,Zb,Xc,hl',Zb]
    simp only[zcI,q1,Zk,Xq,zg7,YO,hb]
    rfl
   ·rw[if_neg h2]at hT
    cases hT
end Go.Proofs.SW
namespace Go.Proofs.SW
open Go Go.AM
set_option maxRecDepth 20000
theorem zg8(O:Oracle)(n0:Int)(n1:Int)(l2:(List V))(n3:Int)(n4:Int):Zd Tryd.prog cfg O 27 [.agg [.int n0, .int n1, .vec .plain (some 3) l2], .int n3, .int n4] []=
 bc (n0==4) (bc (decide (n1≥n3)) (some (Out.ret (V.bool false),[])) (bc (n0==6) (bc (decide (n1≥n4)) (some (Out.ret (V.bool false),[])) (Za (O.loop 27 4
 [V.int 0,V.int n4,V.loc false (some 3) (V.agg [V.int n0,V.int n1,V.vec .plain (some 3) l2]),V.int n3] []) fun r1=>YV r1.fst none (Zf r1.snd.fst fun v2 c3=>Zp v2
 fun b4=>Zj c3 (some (Out.ret (V.bool b4),[]))) (fun i5=>bc (i5.beq 0) (Zj r1.snd.fst (some (Out.ret (V.bool true),[]))) none) fun v6=>none)) (Za (O.loop
 27 4 [V.int 0,V.int n4,V.loc false (some 3) (V.agg [V.int n0,V.int n1,V.vec .plain (some 3) l2]),V.int n3] []) fun r7=>YV r7.fst none (Zf r7.snd.fst fun
 v8 c9=>Zp v8 fun b10=>Zj c9 (some (Out.ret (V.bool b10),[]))) (fun i11=>bc (i11.beq 0) (Zj r7.snd.fst (some (Out.ret (V.bool true),[]))) none) fun v12=>none)))
 (bc (n0==6) (bc (decide (n1≥n4)) (some (Out.ret (V.bool false),[])) (Za (O.loop 27 4 [V.int 0,V.int n4,V.loc false (some 3) (V.agg [V.int n0,V.int n1,V.vec
 .plain (some 3) l2]),V.int n3] []) fun r13=>YV r13.fst none (Zf r13.snd.fst fun v14 c15=>Zp v14 fun b16=>Zj c15 (some (Out.ret (V.bool b16),[]))) (fun i17=>
 bc (i17.beq 0) (Zj r13.snd.fst (some (Out.ret (V.bool true),[]))) none) fun v18=>none)) (Za (O.loop 27 4 [V.int 0,V.int n4,V.loc false (some 3) (V.agg
 [V.int n0,V.int n1,V.vec .plain (some 3) l2]),V.int n3] []) fun r19=>YV r19.fst none (Zf r19.snd.fst fun v20 c21=>Zp v20 fun b22=>Zj c21 (some (Out.ret
 (V.bool b22),[]))) (fun i23=>bc (i23.beq 0) (Zj r19.snd.fst (some (Out.ret (V.bool true),[]))) none) fun v24=>none)):=by kernel_rfl
theorem zav(O:Oracle)(n0:Int)(n1:Int)(n2:Int)(n3:Int)(l4:(List V))(n5:Int):Z3 Tryd.prog cfg O 27 4 [.int n0, .int n1, .loc false (some 3) (.agg [.int n2, .int n3, .vec .plain (some 3) l4]), .int n5] []=
 bc (decide (n0<(↑l4.length:Int))) (gd (decide (0≤n0)&&decide (n0<(↑l4.length:Int))) (Zl [CT.int,CT.int,CT.slice (some 3)] (Yf l4 n0) fun n1_1 n2_1 l3=>
 Za (Zi O 51 [V.agg [V.int n2,V.int n3,V.vec .plain (some 3) l4],V.int n0]) fun r4=>Zv r4 fun n5_1=>Za (Zi O 27 [V.agg [V.int n1_1,
 V.int n2_1,V.vec .plain (some 3) l3],V.int (IntKind.i64.wrap (n5+n5_1)),V.int n1]) fun r6=>Zp r6 fun b7=>bc (!b7) (some (Ex.ret,[V.bool false],[])) (O.2
 27 4 [V.int (IntKind.i64.wrap (n0+1)),V.int n1,V.loc false (some 3) (V.agg [V.int n2,V.int n3,V.vec .plain (some 3) l4]),V.int n5] []))) (some (Ex.exit 0,[],
 [])):=by kernel_rfl
theorem zho(O:Oracle)(n0:Int)(n1:Int)(l2:(List V))(n3:Int):Zd Tryd.prog cfg O 51 [.agg [.int n0, .int n1, .vec .plain (some 3) l2], .int n3] []=
 bc (n0==1) (bc (n3==IntKind.i64.wrap ((↑l2.length:Int)-1)) (some (Out.ret (V.int 1),[])) (some (Out.ret (V.int 0),[]))) (bc (n0==3) (bc (n3==IntKind.i64.wrap
 ((↑l2.length:Int)-1)) (some (Out.ret (V.int 1),[])) (some (Out.ret (V.int 0),[]))) (some (Out.ret (V.int 0),[]))):=by kernel_rfl
end Go.Proofs.SW
namespace Go.Proofs.SW
open Go Go.AM Go.Ama
set_option maxRecDepth 100000
theorem zo2(k h:Int)(xs:List T)(i:Nat)(hx:xs.length≤1099511627776)(hi:i<xs.length):Zi W 51 [.agg [.int k, .int h, .vec .plain (some 3) (Zs xs)], .int (i:Nat)]=some (.int (bif (decide (k=1)||decide (k=3))&&decide (i+1=xs.length)then 1 else 0)):=by
 have h':Ev 51 [.agg [.int k, .int h, .vec .plain (some 3) (Zs xs)], .int (i:Nat)] (.int (bif (decide (k=1)||decide (k=3))&&decide (i+1=xs.length)then 1 else 0)):=by
  unfold Ev
  have hw:IntKind.i64.wrap (((Zs xs).length:Int)-1)=((xs.length-1:Nat):Int):=by rw[ZB,Yl (by omega) (by omega)];omega
  have hb:(((i:Nat):Int)==((xs.length-1:Nat):Int))=decide (i+1=xs.length):=by
   rw[ZN]
   by_cases h:i+1=xs.length
   ·rw[decide_eq_true h,decide_eq_true (by omega)]
   ·rw[decide_eq_false h,decide_eq_false (by omega)]
  rw[C,zho,hw,hb,ZN,ZN]
  cases decide (k=1)<;>cases decide (k=3)<;>cases decide (i+1=xs.length)<;>rfl
 have hbe:=zg6 (.mk k h xs)
 exact h'.p (by rw[Ze];show(below 0 (.agg [.int k, .int h, .vec .plain (some 3) (Zs xs)])&&_)=true;rw[show below 0 (.agg [.int k, .int h, .vec .plain (some 3) (Zs xs)])=true from hbe];rfl) rfl
theorem zjj(k0 h0:Int)(xs:List T)(d:Nat)(hd:d≤1099511627776)(ih: ∀a∈xs,∀d':Nat,d'≤d+1→Ev 27 [enc a, .int (d':Nat), .int 0] (.bool (XR (ZK 0 0) d' a)))(hx:xs.length≤1099511627776): ∀j k,k+j=xs.length→
  W.loop 27 4 [.int (k:Nat), .int 0, .loc false (some 3) (.agg [.int k0, .int h0, .vec .plain (some 3) (Zs xs)]), .int (d:Nat)] []=some (bif YK (ZK 0 0) d (decide (k0=1)||decide (k0=3)) (xs.drop k)then(.exit 0,[],[])else(.ret,[.bool false],[])):=by
 intro j
 induction j with
 |zero=>
  intro k hk
  have hlt:decide (((k:Nat):Int)<((Zs xs).length:Int))=false:=by rw[ZB];exact decide_eq_false (by omega)
  rw[L,zav,hlt,List.drop_of_length_le (by omega)]
  rfl
 |succ j ihj=>
  intro k hk
  have hkl:k<xs.length:=by omega
  have hmem:xs[k]∈xs:=List.getElem_mem hkl
  have hlt:decide (((k:Nat):Int)<((Zs xs).length:Int))=true:=by rw[ZB];exact decide_eq_true (by omega)
  have g1:(decide ((0:Int)≤(k:Nat))&&true)=true:=by rw[decide_eq_true (by omega)];rfl
  have hw:IntKind.i64.wrap ((k:Nat)+1:Int)=((k+1:Nat):Int):=Yl (by omega) (by omega)
  have hdr:xs.drop k=xs[k]::xs.drop (k+1):=List.drop_eq_getElem_cons hkl
  have hp: ∀d':Nat,d'≤d+1→Zi W 27 [.agg [.int (xs[k]).k, .int (xs[k]).h, .vec .plain (some 3) (Zs (xs[k]).args)], .int (d':Nat), .int 0]=some (.bool (XR (ZK 0 0) d' xs[k])):=by
   intro d' hd'
   have:=(ih xs[k] hmem d' hd').p (by rw[Ze,YD];rfl) rfl
   rw[Zz]at this
   exact this
  rw[L,zav,hlt,Zk,g1,Z0,Xg hkl,YU,zo2 k0 h0 xs k hx hkl,Zb,YE,hw,ihj (k+1) (by omega),hdr]
  by_cases hlast:k+1=xs.length
  ·rw[decide_eq_true hlast,Bool.and_true,List.drop_of_length_le (by omega:xs.length≤k+1)]
   simp only[YK]
   cases(decide (k0=1)||decide (k0=3))with
   |true=>
    have hw2:IntKind.i64.wrap (((d:Nat):Int)+(bif true then 1 else 0))=((d+1:Nat):Int):=Yl (by simp only[cond_true,cond_false];omega) (by simp only[cond_true,cond_false];omega)
    have hc:(bif true then((d:Nat):Int)+1 else(d:Nat))=((d+1:Nat):Int):=rfl
    rw[hw2,hp (d+1) (by omega),Zb,Zo,hc]
    cases XR (ZK 0 0) ((d+1:Nat):Int) xs[k]<;>rfl
   |false=>
    have hw2:IntKind.i64.wrap (((d:Nat):Int)+(bif false then 1 else 0))=((d:Nat):Int):=Yl (by simp only[cond_true,cond_false];omega) (by simp only[cond_true,cond_false];omega)
    have hc:(bif false then((d:Nat):Int)+1 else(d:Nat))=((d:Nat):Int):=rfl
    rw[hw2,hp d (by omega),Zb,Zo,hc]
    cases XR (ZK 0 0) ((d:Nat):Int) xs[k]<;>rfl
  ·have hk2:k+1<xs.length:=by omega
   have hdr2:xs.drop (k+1)=xs[k+1]::xs.drop (k+2):=List.drop_eq_getElem_cons hk2
   have hw2:IntKind.i64.wrap (((d:Nat):Int)+(bif (decide (k0=1)||decide (k0=3))&&false then 1 else 0))=((d:Nat):Int):=by rw[Bool.and_false];exact Yl (by simp only[cond_true,cond_false];omega) (by simp only[cond_true,cond_false];omega)
   rw[decide_eq_false hlast,hw2,hp d (by omega),Zb,Zo,hdr2]
   simp only[YK]
   cases XR (ZK 0 0) ((d:Nat):Int) xs[k]<;>rfl
theorem zjk(t:T): ∀d:Nat,d+t.depth≤1099511627776→t.size≤1099511627776→low t=true→Yo t=true→Ev 27 [enc t, .int (d:Nat), .int 0] (.bool (XR (ZK 0 0) d t)):=by
 induction t using T.ind with
 |_ k h xs ih=>
  intro d hd hs hlo hn
  simp only[T.size]at hs
  simp only[T.depth]at hd
  simp only[low,Bool.and_eq_true,decide_eq_true_eq]at hlo
  simp only[Yo,Bool.and_eq_true]at hn
  have hxl:=ZF xs
  have hls: ∀a∈xs,low a=true:=by have:=hlo.2;rw[zgq,List.all_eq_true]at this;exact this
  have hns: ∀a∈xs,Yo a=true:=by have:=hn.2;rw[zag,List.all_eq_true]at this;exact this
  have hl:=zjj k h xs d (by omega) (fun a ha d' hd'=>ih a ha d' (by have:=zaT ha;omega) (by have:=size_le ha;omega) (hls a ha) (hns a ha)) (by omega) xs.length 0 (by omega)
  have hl':W.loop 27 4 [.int 0, .int 0, .loc false (some 3) (.agg [.int k, .int h, .vec .plain (some 3) (Zs xs)]), .int (d:Nat)] []=some (bif YK (ZK 0 0) d (decide (k=1)||decide (k=3)) (xs.drop 0)then(.exit 0,[],[])else(.ret,[.bool false],[])):=hl
  unfold Ev
  have hC:W.call 27 [enc (.mk k h xs), .int (d:Nat), .int 0] []=Zd Tryd.prog cfg W 27 [.agg [.int k, .int h, .vec .plain (some 3) (Zs xs)], .int (d:Nat), .int 0] []:=C ..
  rw[hC,zg8,ZN,ZN,hl',List.drop_zero]
  simp only[XR]
  have hm:=hn.1
  unfold zaS at hm
  generalize YK (ZK 0 0) d (decide (k=1)||decide (k=3)) xs=B
  by_cases h4:k=4
  ·subst h4
   simp only[show¬((4:Int)=0) by decide,show¬((4:Int)=1) by decide,show¬((4:Int)=3) by decide,if_false,Bool.and_eq_true,decide_eq_true_eq]at hm
   have hwr:IntKind.i64.wrap (h-(d:Nat))=h-(d:Nat):=Yl (by omega) (by omega)
   have hsc:ZK 0 0 d (.mk 4 h xs)=decide (h<d):=by
    unfold ZK
    simp only[T.k,T.h,hwr]
    by_cases hlt:h<d
    ·rw[decide_eq_true hlt];simp;omega
    ·rw[decide_eq_false hlt];simp;omega
   rw[hsc]
   by_cases hlt:h<d
   ·rw[decide_eq_true rfl,Zk,decide_eq_false (by omega: ¬h≥(d:Int)),Zn,decide_eq_false (by decide),Zn,decide_eq_true hlt]
    cases B<;>rfl
   ·rw[decide_eq_true rfl,Zk,decide_eq_true (by omega:h≥(d:Int)),Zk,decide_eq_false hlt]
    rfl
  ·rw[decide_eq_false h4,Zn]
   by_cases h6:k=6
   ·subst h6
    simp only[show¬((6:Int)=0) by decide,show¬((6:Int)=1) by decide,show¬((6:Int)=3) by decide,if_false,Bool.and_eq_true,decide_eq_true_eq]at hm
    have hsc:ZK 0 0 d (.mk 6 h xs)=false:=by
     have hf:decide (h<0)=false:=decide_eq_false (by omega)
     unfold ZK
     show((decide ((6:Int)≠4)||decide (IntKind.i64.wrap (h-(d:Nat))<0))&&(decide ((6:Int)≠6)||decide (h<0)))=false
     rw[hf]
     simp
    rw[hsc,decide_eq_true rfl,Zk,decide_eq_true (by omega:h≥(0:Int))]
    rfl
   ·have hsc:ZK 0 0 d (.mk k h xs)=true:=by
     unfold ZK
     simp[T.k,h4,h6]
    rw[hsc,decide_eq_false h6,Zn]
    cases B<;>rfl
end Go.Proofs.SW
namespace Go.Proofs.SW
open Go Go.AM Go.Ama
theorem zms(b:Bytes):(zb1 b).1.getD []=(zk3 b).1∧(zb1 b).2=(zk3 b).2:=by
 unfold zb1 zk3
 split
 ·exact⟨rfl,rfl⟩
 ·cases Xb b<;>exact⟨rfl,rfl⟩
end Go.Proofs.SW
namespace Go.Proofs.SW
open Go Go.AM
set_option maxRecDepth 20000
theorem zjl(O:Oracle)(s0:ByteArray):Zd Tryd.prog cfg O 31 [.str s0] []=
 Za (Zi O 56 [V.vec .plain none (ZI s0)]) fun r1=>Yv r1 fun c2=>Zf c2 fun v3 c4=>ZV (some 2) v3 fun l5=>Zf c4 fun v6 c7=>Zv v6 fun
 n8=>Zj c7 (bc (n8 !=0) (some (Out.ret (V.bool false),[])) (bc (decide ((↑s0.size:Int)<1)) (some (Out.ret (V.bool false),[])) (bc (decide ((↑s0.size:Int)>40)) (some
 (Out.ret (V.bool false),[])) (bc (s0.toList==(ByteArray.toList {data:= #[116,121,112,101]})) (some (Out.ret (V.bool false),[])) (gd (true&&decide (0<(↑s0.size:
 Int))) (bc ((↑(s0.data.toList.getD (Int.toNat 0) 0).toNat:Int)==95) (some (Out.ret (V.bool false),[])) (bc ((↑l5.length:Int)==1) (gd (true&&decide (0<(↑l5.length:
 Int))) (Y1 (Yf l5 0) fun c9=>gd (decide (1≤c9.length)) (Zv (AM.partOf c9 0 none) fun n10=>bc (n10==0) (gd (true&&decide (0<(↑l5.length:Int))) (Y1 (Yf l5
 0) fun c11=>gd (decide (2≤c11.length)) (YA (AM.partOf c11 1 none) fun s12=>some (Out.ret (V.bool (s12.toList==s0.toList)),[])))) (some (Out.ret (V.bool false),[])))))
 (some (Out.ret (V.bool false),[]))))))))):=by kernel_rfl
end Go.Proofs.SW
namespace Go.Proofs.SW
open Go Go.AM Go.Ama
section
variable(m:AM.Mode)(s:PS)
end
theorem zlO(x:Bytes)(hx:x.length≤1048576):Ev 31 [.str (ba x)] (.bool (nameOK x)):=by
 unfold Ev
 have hp:=(ziU x hx).p (by simp[Ze,below,ZU]) (by simp[za9,below,Ze,Ys])
 rw[za9,(zms x).1,(zms x).2]at hp
 rw[C,zjl,Qp,hp]
 unfold nameOK
 simp only[Zb,XL,Xq,Y9,YE,YO,Y6]
 by_cases h40:x.length≤40
 ·have h41: ¬(40:Int)<x.length:=by omega
  cases ht:Xb x with
  |none=>
   have:zk3 x=([],8):=by unfold zk3;rw[if_neg (by omega),ht]
   simp[this]
  |some l=>
   rw[znp (by omega) ht]
   cases x with
   |nil=>simp
   |cons c r=>
    have h1: ¬(r.length:Int)+1<1:=by omega
    have h2:((c.toNat:Int)=95)=(c=95):=by
     have:=QL (p:=fun c=>decide ((c.toNat:Int)=95)=decide (c=95)) (by decide+kernel) c
     simpa using this
    by_cases hty:(c::r:Bytes)=typ
    ·simp[h1,hty]
    ·have h41': ¬(40:Int)<(r.length:Int)+1:=by simp at h41;omega
     have h5:r.length+1≤40:=h40
     by_cases h4:c=95
     ·simp[h1,h41',h2,h4,zgj]
     ·match l with
      |[]=>simp[h1,h41',h2,h4,zgj,hty,h5]
      |[t]=>
       obtain⟨k,y⟩:=t
       by_cases hk:k=0<;>simp[h1,h41',h2,h4,zgj,hty,h5,hk,zhI]
      |t::u::l=>
       have: ¬((l.length:Int)+1+1=1):=by omega
       simp[h1,h41',h2,h4,zgj,hty,h5,this]
 ·have h1: ¬(x.length:Int)<1:=by omega
  have h2:(40:Int)<x.length:=by omega
  by_cases he:(zk3 x).2=0<;>simp[he,h1,h2,h40]
end Go.Proofs.SW
namespace Go.Proofs.SW
open Go Go.AM Go.Ama
set_option maxRecDepth 100000
theorem zg9{sig:List D}(hsig:sig.length≤1000)(hs: ∀d∈sig,d.name.length≤100)(t:T)(ht:t.size≤1099511627776)(hlow:low t=true):
  Ev 12 [enc t, .vec .plain (some 4) (Zr sig)] (.tup [.vec .plain none (ZM (XI t sig).1), .int (XI t sig).2]):=by
 unfold Ev
 have hbe:Ze 0 [V.agg [V.int t.k,V.int t.h,V.vec .plain (some 3) (Zs t.args)]]=true:=by rw[Ze,zg6];rfl
 have hmay:=(zmX t ht).p (by rw[Ze,YD];rfl)
 have hh:=(zkI sig.length t ht).p (by rw[Ze,YD];rfl)
 rw[Zz]at hmay hh
 rw[C,Zz,zje,hmay,Zb,Zo,ZL]
 unfold XI
 by_cases hm:may t=true
 case neg=>
  have hm0:may t=false:=by simpa using hm
  simp only[hm0,Bool.false_eq_true,if_false]
  rfl
 case pos=>
 have hm':=hm
 unfold may at hm'
 simp only[Bool.and_eq_true,decide_eq_true_eq]at hm'
 have hsc0:=(zjk t 0 (by omega) ht hlow hm'.1).p (by rw[Ze,YD];rfl) rfl
 rw[Zz]at hsc0
 have hsc:Zi W 27 [.agg [.int t.k, .int t.h, .vec .plain (some 3) (Zs t.args)], .int 0, .int 0]=some (.bool (XR (ZK 0 0) 0 t)):=hsc0
 simp only[hm,if_true,Bool.not_true,Zn]
 rw[hsc,Zb,Zo,hh,Zb,Zo]
 by_cases ho:okW sig t 0=true
 ·have s1:XR (ZK 0 0) 0 t=true:=zl5 (sig:=sig) t 0 (by omega) hlow hm'.1 ho (by omega)
  have s2:=zno (sig:=sig) t 0 hm'.1 ho
  have hp:=(zlN (sig:=sig) t).p (d:=0) hm'.1 ho (by omega) (by omega)
  have hp':Zi W 30 [.agg [.int t.k, .int t.h, .vec .plain (some 3) (Zs t.args)], .vec .plain (some 4) (Zr sig), .int 0]=some (.vec .plain (some 2) (Zg (words sig t 0))):=hp
  have h1:=X4 (sig:=sig) t 0
  have h2:=zb3 hs t 0 hm'.1 (by omega)
  have htx:=(zlx (words sig t 0) (by omega)).p (by simp[Ze,below,Ys]) (by simp[below,ZU])
  have hb:below 0 (V.tup [V.vec .plain none (ZM (text (words sig t 0))),V.int 0])=true:=by simp[below,Ze,ZU]
  simp only[s1,s2,ho,if_true,Bool.not_true,Zn,hp',Zb,Y9,htx,hb]
  rfl
 ·have hno: ¬(XR (ZK 0 0) 0 t=true∧QR sig.length t=true):=fun hx=>ho (zlL (sig:=sig) t 0 (by omega) hlow hm'.1 hx.1 hx.2 (by omega))
  simp only[ho,Bool.false_eq_true,if_false]
  cases h1:XR (ZK 0 0) 0 t with
  |false=>rfl
  |true=>
   cases h2:QR sig.length t with
   |false=>rfl
   |true=>exact absurd ⟨h1,h2⟩ hno
end Go.Proofs.SW
namespace Go.Proofs.SW
open Go Go.AM Go.Ama
set_option maxRecDepth 100000
theorem zkJ{α:Type}(d:D)(K:List V→Option α):Y1 (zah d) K=K [.str (ba d.name), .int d.t.k, .int d.t.h, .vec .plain (some 3) (Zs d.t.args)]:=rfl
theorem zhZ{α:Type}(d:D)(K:ByteArray→Option α):YA (AM.partOf [.str (ba d.name), .int d.t.k, .int d.t.h, .vec .plain (some 3) (Zs d.t.args)] 0 none) K=K (ba d.name):=rfl
section
variable(sig:List D)(hl:sig.length≤1000)(f e:Int)(t:T)(hf:f=0→ ∀d∈sig,nameOK d.name=true∧JB d.name sig≤1)
include hl hf
end
end Go.Proofs.SW
namespace Go.Proofs.SW
open Go Go.AM Go.Ama
set_option maxRecDepth 100000
def zhp(sig:List D)(i:Nat)(x:Bytes):Nat→List D→Bool
 |_,[]=>true
 |k,d::l=> !(decide (k≠i)&&decide (d.name=x))&&zhp sig i x (k+1) l
theorem zia(x:Bytes)(sig:List D): ∀(l:List D) (k i:Nat),k≤i→(l[i-k]?).map (·.name)=some x→zhp sig i x k l=decide (JB x l≤1)
 |[],k,i,_,hx=>by simp at hx
 |d::l,k,i,hi,hx=>by
  have hgt: ∀(l:List D) (k i:Nat),i<k→zhp sig i x k l=decide (JB x l=0):=by
   intro l
   induction l with
   |nil=>intros;rfl
   |cons e l ih=>
    intro k i hk
    unfold zhp
    rw[ih (k+1) i (by omega)]
    unfold JB
    by_cases he:e.name=x
    ·simp[he];omega
    ·simp[he]
  unfold zhp
  by_cases hk:k=i
  ·subst hk
   have hdx:d.name=x:=by simpa using hx
   rw[hgt l (k+1) k (by omega)]
   unfold JB
   simp[hdx]
  ·have e1:i-k=(i-(k+1))+1:=by omega
   rw[e1,List.getElem?_cons_succ]at hx
   have hrec:=zia x sig l (k+1) i (by omega) hx
   rw[hrec]
   have h1:1≤JB x l:=by
    rw[Option.map_eq_some_iff]at hx
    obtain⟨y,hy,rfl⟩:=hx
    unfold JB
    exact List.length_pos_of_mem (List.mem_filter.2 ⟨List.mem_of_getElem? hy,by simp⟩)
   unfold JB at h1⊢
   by_cases he:d.name=x
   ·rw[List.filter_cons_of_pos (by simp[he]),List.length_cons,decide_eq_false (by omega: ¬_+1≤1)]
    simp[he,hk]
   ·simp[he]
theorem zkK{α:Type}(l:Bytes)(K:List V→Option α):YB none (.vec .grow none (ZM l)) K=K (ZM l):=rfl
theorem zjm(sig:List D)(hl:sig.length≤1000){i:Nat}(hi:i<sig.length)(out:List V): ∀j k (b:Bool),k+j=sig.length→
  W.loop 14 7 [.int (k:Nat), .int (i:Nat), .vec .plain (some 4) (Zr sig), .vec .grow none out, .bool b] []=
   some (.exit 2,[.vec .plain (some 4) (Zr sig), .int (i:Nat), .vec .grow none out, .bool (b&&zhp sig i (sig[i]).name k (sig.drop k))],[]):=by
 intro j
 induction j with
 |zero=>
  intro k b hk
  have hkl:k=sig.length:=by omega
  subst hkl
  have hlt:decide (((sig.length:Nat):Int)<((Zr sig).length:Int))=false:=by simp
  rw[L,zaZ,hlt,List.drop_length]
  simp[zhp,bc]
 |succ j ih=>
  intro k b hk
  have hkl:k<sig.length:=by omega
  have hlt:decide (((k:Nat):Int)<((Zr sig).length:Int))=true:=by rw[ZL];exact decide_eq_true (by omega)
  have g1:(decide ((0:Int)≤(k:Nat))&&true)=true:=by rw[decide_eq_true (by omega)];rfl
  have g2:(decide ((0:Int)≤(i:Nat))&&decide (((i:Nat):Int)<((Zr sig).length:Int)))=true:=by rw[ZL,decide_eq_true (by omega),decide_eq_true (by omega)];rfl
  have hw:IntKind.i64.wrap ((k:Nat)+1:Int)=((k+1:Nat):Int):=Yl (by omega) (by omega)
  have hx1:Yf (Zr sig) ((i:Nat):Int)=zah sig[i]:=XD hi
  have hx2:Yf (Zr sig) ((k:Nat):Int)=zah sig[k]:=XD hkl
  have g3: ∀d:D,decide (1≤ [V.str (ba d.name), .int d.t.k, .int d.t.h, .vec .plain (some 3) (Zs d.t.args)].length)=true:=fun d=>rfl
  have hdr:sig.drop k=sig[k]::sig.drop (k+1):=List.drop_eq_getElem_cons hkl
  have hne:(((k:Nat):Int) !=((i:Nat):Int))=decide (k≠i):=by
   by_cases h:k=i
   ·subst h;simp
   ·simp[h];omega
  rw[L,zaZ,hlt,Zk,hne,hdr]
  simp only[g1,g2,Z0,hx1,hx2,zkJ,g3,zhZ,zhI,hw,ih (k+1) _ (by omega),zhp]
  by_cases h1:k=i
  ·simp[h1,bc]
  ·by_cases h2:(sig[k]).name=(sig[i]).name
   ·simp[h1,h2,bc]
   ·simp[h1,h2,bc]
theorem zjn(sig:List D)(hl:sig.length≤1000)(hs: ∀d∈sig,d.name.length≤100∧d.t.size≤1099511627776∧low d.t=true): ∀j k (all:Bytes),k+j=sig.length→all.length≤k*500000→
  W.loop 14 3 [.int (k:Nat), .vec .plain (some 4) (Zr sig), .vec .grow none (ZM all)] []=
   some (if(Yj sig all (sig.drop k)).2=0 then(.exit 0,[.vec .grow none (ZM (Yj sig all (sig.drop k)).1)],[])else(.ret,[.vec .plain none (ZM (Yj sig all (sig.drop k)).1), .int (Yj sig all (sig.drop k)).2],[])):=by
 intro j
 induction j with
 |zero=>
  intro k all hk ha
  have hkl:k=sig.length:=by omega
  subst hkl
  have hlt:decide (((sig.length:Nat):Int)<((Zr sig).length:Int))=false:=by simp
  rw[L,zaY,hlt,List.drop_length]
  rfl
 |succ j ih=>
  intro k all hk ha
  have hkl:k<sig.length:=by omega
  have hlt:decide (((k:Nat):Int)<((Zr sig).length:Int))=true:=by rw[ZL];exact decide_eq_true (by omega)
  have g1:(decide ((0:Int)≤(k:Nat))&&true)=true:=by rw[decide_eq_true (by omega)];rfl
  have g1':(decide ((0:Int)≤(k:Nat))&&decide (((k:Nat):Int)<((Zr sig).length:Int)))=true:=by rw[hlt,decide_eq_true (by omega)];rfl
  have hw:IntKind.i64.wrap ((k:Nat)+1:Int)=((k+1:Nat):Int):=Yl (by omega) (by omega)
  have hdr:sig.drop k=sig[k]::sig.drop (k+1):=List.drop_eq_getElem_cons hkl
  obtain⟨hs1,hs2,hs3⟩:=hs sig[k] (List.getElem_mem hkl)
  have hN:=(zlO (sig[k]).name (by omega)).p
  have hT:=(zg9 hl (fun d hd=>(hs d hd).1) (sig[k]).t hs2 hs3).p (by rw[Ze,YD];simp[Ze,below,YL]) (by simp[below,Ze,ZU])
  rw[Zz]at hT
  have hTl:=zhU (sig:=sig) (fun d hd=>(hs d hd).1) (sig[k]).t
  have hin:=zjm sig hl hkl (ZM all) sig.length 0 (nameOK (sig[k]).name) (by omega)
  have hin':W.loop 14 7 [.int 0, .int (k:Nat), .vec .plain (some 4) (Zr sig), .vec .grow none (ZM all), .bool (nameOK (sig[k]).name)] []=
   some (.exit 2,[.vec .plain (some 4) (Zr sig), .int (k:Nat), .vec .grow none (ZM all), .bool (nameOK (sig[k]).name&&zhp sig k (sig[k]).name 0 (sig.drop 0))],[]):=hin
  have htw:zhp sig k (sig[k]).name 0 sig=decide (JB (sig[k]).name sig≤1):=zia _ sig sig 0 k (by omega) (by simp[hkl])
  rw[List.drop_zero,htw]at hin'
  have g3: ∀d:D,decide (1≤ [V.str (ba d.name), .int d.t.k, .int d.t.h, .vec .plain (some 3) (Zs d.t.args)].length)=true:=fun d=>rfl
  have g4: ∀d:D,decide (4≤ [V.str (ba d.name), .int d.t.k, .int d.t.h, .vec .plain (some 3) (Zs d.t.args)].length)=true:=fun d=>rfl
  have q2:Nat.beq 2 2=true:=rfl
  have e5: ∀{α:Type} (d:D) (K:Int→Int→List V→Option α),onCells [CT.int,CT.int,CT.slice (some 3)] (List.take 3 (List.drop 1 [V.str (ba d.name), .int d.t.k, .int d.t.h, .vec .plain (some 3) (Zs d.t.args)])) K=K d.t.k d.t.h (Zs d.t.args):=fun d K=>rfl
  rw[L,zaY,hlt,Zk,hdr]
  simp only[g1,g1',Z0,XD hkl,zkJ,g3,g4,zhZ,hN,Zb,Zo,hin',zcI,q2,Zk,Xq,Y9,YE,zkK,YO,e5,hT,XL,hw]
  simp only[Yj]
  by_cases hn:(nameOK (sig[k]).name&&decide (JB (sig[k]).name sig≤1))=true
  case neg=>
   have hn:(nameOK (sig[k]).name&&decide (JB (sig[k]).name sig≤1))=false:=by simpa using hn
   simp only[hn,Bool.not_false,Zk,Bool.false_eq_true,if_false]
   rfl
  case pos=>
   simp only[hn,Bool.not_true,Zn,if_true]
   by_cases h0:(XI (sig[k]).t sig).2=0
   ·have hne:((XI (sig[k]).t sig).2 !=0)=false:=by rw[h0];rfl
    have hbs:ZI {data:= #[32,58,32]}=ZM [32,58,32]:=Qp _
    have hbt:ZI {data:= #[46,10]}=ZM [46,10]:=Qp _
    have he:ZM all++ZM (sig[k]).name++ZM [32,58,32]++ZM (XI (sig[k]).t sig).1++ZM [46,10]=ZM (all++znc (sig[k]).name (XI (sig[k]).t sig).1):=by simp only[znc,←Qh,List.append_assoc]
    simp only[hne,Zn,Qp,hbs,hbt,he]
    rw[zc0 (by simp only[ZC];omega),zc0 (by simp only[List.length_append,ZC,List.length_cons,List.length_nil];omega),zc0 (by simp only[List.length_append,ZC,List.length_cons,List.length_nil];omega),zc0 (by simp only[List.length_append,ZC,List.length_cons,List.length_nil];omega)]
    simp only[Bool.and_self,Z0]
    rw[if_pos h0]
    exact ih (k+1) _ (by omega) (by simp only[znc,List.length_append,List.length_cons,List.length_nil];omega)
   ·have hne:((XI (sig[k]).t sig).2 !=0)=true:=by simpa using h0
    rw[hne,Zk]
    simp only[h0,if_false]
    rfl
theorem zkL(sig:List D)(hl:sig.length≤1000)(hs: ∀d∈sig,d.name.length≤100∧d.t.size≤1099511627776∧low d.t=true):
  Ev 14 [.vec .plain (some 4) (Zr sig)] (.tup [.vec .plain none (ZM (zcw sig).1), .int (zcw sig).2]):=by
 unfold Ev
 have h2:=zjn sig hl hs sig.length 0 [] (by omega) (by simp)
 have h2':W.loop 14 3 [V.int 0,V.vec .plain (some 4) (Zr sig),V.vec Mode.grow none []] []=some (if(Yj sig [] sig).2=0 then(.exit 0,[.vec .grow none (ZM (Yj sig [] sig).1)],[])else(.ret,[.vec .plain none (ZM (Yj sig [] sig).1), .int (Yj sig [] sig).2],[])):=h2
 rw[C,zhk,h2',Zb]
 unfold zcw
 by_cases h0:(Yj sig [] sig).2=0
 ·rw[if_pos h0,h0]
  have hb:below 0 (V.tup [V.vec .plain none (ZM (Yj sig [] sig).1),V.int 0])=true:=by simp[below,Ze,ZU]
  show gd (below 0 (V.tup [V.vec .plain none (ZM (Yj sig [] sig).1),V.int 0])&&Z4 0 []) _=_
  rw[hb]
  rfl
 ·rw[if_neg h0]
  have hb:below 0 (V.tup [V.vec .plain none (ZM (Yj sig [] sig).1),V.int (Yj sig [] sig).2])=true:=by simp[below,Ze,ZU]
  show gd (below 0 (V.tup [V.vec .plain none (ZM (Yj sig [] sig).1),V.int (Yj sig [] sig).2])&&Z4 0 []) _=_
  rw[hb]
  rfl
theorem zjo(t:T)(sig:List D)(ht:t.size≤1048576)(hb:Yg (Zr sig)≤1048576)(hl:sig.length≤1048576):Ev 3 [enc t, .vec .plain (some 4) (Zr sig)] (.bool true):=by
 unfold Ev
 have ha:=zph.p
 have hf:=(znk sig (by omega)).p (by simp[Ze,below,YL])
 have hli:=(zgs t 1000 80 (by omega)).p (by rw[Ze,YD];simp[Ze,below])
 have hn:=(zjd sig (by omega)).p (by simp[Ze,below,YL])
 rw[Zz]at hli
 rw[C,Zz,zed,ha,Zb,Zo,hf,Zb,Zo,hli,Zb,Zo,hn,Zb,Zo]
 cases hfew:znj sig with
 |false=>rfl
 |true=>
 cases hlt:zdf 1000 80 t with
 |false=>rfl
 |true=>
 cases hnm:QQ sig with
 |false=>rfl
 |true=>
 simp only[Bool.not_true,Zn]
 obtain⟨hl30,hsz⟩:=zlK hfew
 have hnam:=zkG hnm
 have hlow:low t=true:=by
  unfold zdf at hlt
  simp only[Bool.and_eq_true]at hlt
  exact hlt.1
 have hlows: ∀d∈sig,low d.t=true:=fun d hd=>by
  unfold znj at hfew
  simp only[Bool.and_eq_true,decide_eq_true_eq,List.all_eq_true]at hfew
  have:=hfew.2 d hd
  unfold zdf at this
  simp only[Bool.and_eq_true]at this
  exact this.1
 have hT1:=zqa (sig:=sig) (by omega) hnam t (by omega)
 have hT2:=(zg9 (sig:=sig) (by omega) hnam t (by omega) hlow).p (by rw[Ze,YD];simp[Ze,below,YL]) (by simp[below,Ze,ZU])
 rw[Zz]at hT2
 have hD1:=zps (sig:=sig) (by omega) (fun x hx=>⟨hnam x hx,by have:=hsz x hx;omega⟩)
 have hD2:=(zkL sig (by omega) (fun x hx=>⟨hnam x hx,by have:=hsz x hx;omega,hlows x hx⟩)).p (by simp[Ze,below,YL]) (by simp[below,Ze,ZU])
 rw[hT1,hT2,hD1,hD2]
 simp only[Zb,XL,Xq,Y9,YE,YO,zeD,zaP,Z0,zhI]
 simp[bc]
theorem pure_ShowTells: ∀us,zh9 Tryd.prog [24,25] us→Yg us≤1048576→ ∃m st,(Xw Tryd.prog cfg ext m).call 3 us []=some (.ret (.bool true),st):=by
 intro us hW hb
 match us,hW with
 |[u,v],⟨h1,h2,h3,h4,_⟩=>
  obtain⟨t,rfl⟩:=zoz ⟨h1,h2⟩
  obtain⟨sig,rfl⟩:=znn ⟨h3,h4⟩
  have b1:=zgd t
  have b3:=zhY sig
  simp only[Yg,XT]at hb
  have b4:Yg (Zr sig)≤1048576:=by omega
  exact zqH (zjo t sig (by omega) b4 (by omega))
end Go.Proofs.SW
