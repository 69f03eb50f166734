import Derived.Test.YthhifgeblblmcaaGreatGa
import Derived.Test.YthhifgeblblmcaaGreatGb
import Derived.KernelRfl
import Derived.Test.YthhifgeblblmcaaGreatAMd
/- The program's functions, each an equation of the abstract machine checked by the kernel, and what they come to as_ plain Lean. -/
set_option linter.unusedVariables false
set_option linter.unusedSimpArgs false
set_option linter.unusedSectionVars false
namespace Go.Proofs.CL
open Go Go.AM Go.Ama
theorem zmN(k h:Int)(xs:List V)(i n:Int)(hx:xs.length≤1099511627776)(hn:0≤n∧n≤4611686018427387904):Ev 184 [.agg [.int k, .int h, .vec .plain (some 3) xs], .int i, .int n] (.int (if bindsB k&&decide (i=(xs.length:Int)-1)then n+1 else n)):=by
 have hw:IntKind.i64.wrap ((xs.length:Int)-1)=(xs.length:Int)-1:=Zu ⟨by omega,by omega⟩
 have hw2:IntKind.i64.wrap (n+1)=n+1:=Zu ⟨by omega,by omega⟩
 unfold Ev bindsB
 rw[C,zka,hw,hw2]
 by_cases h1:k=1
 ·by_cases h2:i=(xs.length:Int)-1<;>simp[h1,h2]
 ·by_cases h3:k=3
  ·by_cases h2:i=(xs.length:Int)-1<;>simp[h3,h2]
  ·simp[h1,h3]
section
variable{σ:Type}{nx:Int→T→σ→σ}{x:σ→St}{g:Nat}{a b:List V}
theorem zkb{S:Nat}(hS:S≤1099511627776)(hp:cfg.pure g=false)(hlen: ∀s s',(x s).length=(x s').length)(hr: ∀(n:Int) (t:T) (s:σ),t.size≤S→0≤n→n≤4611686018427387904→W.call g (a++[enc t, .int n]++b) (x s)=some (.ret (.tup []),x (nx n t s))):
  ∀(N:Nat) (t:T) (n:Int) (s:σ),t.size≤N→t.size≤S→0≤n→n+t.size≤4611686018427387904→W.call 151 [enc t, .int n, .fn g a b] (x s)=some (.ret (.tup []),x (Jj nx t n s)):=by
 intro N
 induction N with
 |zero=>intro t _ _ h;have:=XP t;omega
 |succ N ih=>
  intro t n s hN hs h0 hn
  have hc:=hr n t s hs h0 (by omega)
  obtain⟨k,h,xs⟩:=t
  simp only[T.size]at hN hs hn
  have hxl:=Zo xs
  have hL: ∀(m i:Nat) (s:σ),xs.length-i=m→i≤xs.length→W.loop 151 3 [.int (i:Int), .fn g a b, .int n, .loc false (some 3) (.agg [.int k, .int h, .vec .plain (some 3) (Zf xs)]), .vec .plain (some 3) (Zf xs), .int xs.length] (x s)=some (.exit 0,[],x (zcU nx (xs.drop i) (bindsB k) n s)):=by
   intro m
   induction m with
   |zero=>
    intro i s hm hi
    have:i=xs.length:=by omega
    subst this
    rw[L,zcw]
    simp[zcU]
   |succ m ihm=>
    intro i s hm hi
    have hlt:i<xs.length:=by omega
    have hlt':(i:Int)<xs.length:=by omega
    have hd:xs.drop i=xs[i]::xs.drop (i+1):=List.drop_eq_getElem_cons hlt
    have hsz:=size_le (List.getElem_mem hlt)
    have hw:IntKind.i64.wrap ((i:Int)+1)=((i+1:Nat):Int):=by rw[Zu ⟨by omega,by omega⟩];omega
    have ha:=(zmN k h (Zf xs) i n (by simp;omega) ⟨h0,by omega⟩).p
    rw[Zi]at ha
    have hlast:(bindsB k&&decide ((i:Int)=(xs.length:Int)-1))=(bindsB k&&(xs.drop (i+1)).isEmpty):=by
     congr 1
     by_cases he:i+1=xs.length
     ·have:xs.drop (i+1)=[]:=by rw[he];simp
      rw[this];simp;omega
     ·have:xs.drop (i+1)≠ []:=by simp;omega
      cases hx:xs.drop (i+1)with
      |nil=>exact absurd hx this
      |cons _ _=>simp;omega
    rw[hlast]at ha
    have hv:=ih xs[i] (if(bindsB k&&(xs.drop (i+1)).isEmpty)=true then n+1 else n) s (by omega) (by omega) (by split<;>omega) (by split<;>omega)
    have hm':=ihm (i+1) (Jj nx xs[i] (if(bindsB k&&(xs.drop (i+1)).isEmpty)=true then n+1 else n) s) (by omega) (by omega)
    rw[hd,zcU,L,zcw,hw,ZF hlt,Zi]
    simp only[hlt',Int.natCast_nonneg,decide_true,Bool.and_self,Z6,Z4,zhv,←Zb,ha,Zg,ZB,hv,ZV,Xx,Yv]
    exact hm'
  have h0':=hL _ 0 (nx n (.mk k h xs) s) rfl (Nat.zero_le _)
  simp only[Int.natCast_zero,List.drop_zero]at h0'
  have he:enc (.mk k h xs)= .agg [.int k, .int h, .vec .plain (some 3) (Zf xs)]:=rfl
  rw[he]at hc⊢
  rw[C,zkR,hp,Zi]
  simp only[Z2,hc,Zg,ZV,Xx,Yv,h0',Js,show Nat.beq 0 0=true from rfl,Z4]
  rw[Jj]
  exact Z3 (hlen _ _)
end
theorem zkc(l:List Int)(v:Int)(hl:l.length≤1099511627776): ∃r:Int,Ev 154 [.vec .plain none (zaL l), .int v] (.int r)∧decide (r≥0)=decide (v∈l)∧r=(if v∈l then((l.idxOf v:Nat):Int)else-1):=by
 have hL: ∀(m i:Nat),l.length-i=m→i≤l.length→W.loop 154 2 [.int (i:Int), .vec .plain none (zaL l), .int v, .int l.length] []=if v∈l.drop i then some (.ret,[.int ((i+(l.drop i).idxOf v:Nat):Int)],[])else some (.exit 0,[],[]):=by
  intro m
  induction m with
  |zero=>
   intro i hm hi
   have:i=l.length:=by omega
   subst this
   rw[L,QO]
   simp
  |succ m ih=>
   intro i hm hi
   have hlt:i<l.length:=by omega
   have hlt':(i:Int)<l.length:=by omega
   have hd:l.drop i=l[i]::l.drop (i+1):=List.drop_eq_getElem_cons hlt
   have hw:IntKind.i64.wrap ((i:Int)+1)=((i+1:Nat):Int):=by rw[Zu ⟨by omega,by omega⟩];omega
   have:=ih (i+1) (by omega) (by omega)
   rw[hd,L,QO,hw,zlA hlt,zar]
   by_cases he:v=l[i]
   ·simp[hlt',←he]
   ·have hne:l[i]≠v:=fun h=>he h.symm
    have hm2:(v∈l[i]::l.drop (i+1))=(v∈l.drop (i+1)):=propext (List.mem_cons.trans ⟨fun h=>h.resolve_left he, .inr⟩)
    simp only[hlt',Int.natCast_nonneg,decide_true,Bool.and_self,Z6,Z4,ZB,zsW he,this,hm2]
    split
    ·have hi:(l[i]::l.drop (i+1)).idxOf v=(l.drop (i+1)).idxOf v+1:=by rw[List.idxOf_cons,beq_false_of_ne hne];rfl
     rw[hi,show i+1+(l.drop (i+1)).idxOf v=i+((l.drop (i+1)).idxOf v+1) by omega]
    ·rfl
 have h:=hL _ 0 rfl (Nat.zero_le _)
 simp only[Int.natCast_zero,List.drop_zero,Nat.zero_add]at h
 by_cases hm:v∈l
 ·refine⟨_, ?_, ?_,(if_pos hm).symm⟩
  ·unfold Ev
   rw[C,J9,zar,h,if_pos hm]
   simp
  ·simp[hm]
 ·refine⟨_, ?_, ?_,(if_neg hm).symm⟩
  ·unfold Ev
   rw[C,J9,zar,h,if_neg hm]
   simp
  ·simp[hm]
theorem zbD(l:List Int)(v:Int)(hl:l.length≤1099511627776):Ev 113 [.vec .plain none (zaL l), .int v] (.bool (decide (v∈l))):=by
 obtain⟨r,h1,h2,_⟩:=zkc l v hl
 have h1:=h1.p
 unfold Ev
 rw[C,zbz,h1]
 simp only[Zg,ZB,h2]
theorem zvm:((Tryz.prog.info? 3).map (·.bytes)).getD 0=8:=by kernel_rfl
theorem zwi{n:Nat}(h:n≤1099511627776):roomFor Tryz.prog 3 n=true:=by
 unfold roomFor
 rw[zvm]
 simp
 omega
theorem zmO(xs:List T)(b:Int)(hs:xs.length≤1048576):Ev 156 [.vec .plain (some 3) (Zf xs), .int b] (.tup [.vec .plain none (zaL (zgq xs b).1), .bool (zgq xs b).2]):=by
 have hL: ∀(m i:Nat) (vars:List Int),xs.length-i=m→i≤xs.length→vars.length≤i→W.loop 156 3 [.int (i:Int), .vec .grow none (zaL vars), .int b, .vec .plain (some 3) (Zf xs), .int xs.length] []=
   if(zdV b vars (xs.drop i)).2 then some (.exit 0,[.vec .grow none (zaL (zdV b vars (xs.drop i)).1)],[])else some (.ret,[.vec .plain none [], .bool false],[]):=by
  intro m
  induction m with
  |zero=>
   intro i vars hm hi hv
   have:i=xs.length:=by omega
   subst this
   rw[L,zbr]
   simp[zdV]
  |succ m ih=>
   intro i vars hm hi hv
   have hlt:i<xs.length:=by omega
   have hlt':(i:Int)<xs.length:=by omega
   have hd:xs.drop i=xs[i]::xs.drop (i+1):=List.drop_eq_getElem_cons hlt
   have hw:IntKind.i64.wrap ((i:Int)+1)=((i+1:Nat):Int):=by rw[Zu ⟨by omega,by omega⟩];omega
   have hc:=(zbD vars xs[i].h (by omega)).p
   have hr:roomFor Tryz.prog 3 (vars.length+1)=true:=zwi (by omega)
   have:=ih (i+1) (vars++[xs[i].h]) (by omega) (by omega) (by simp;omega)
   have e1:zaL (vars++[xs[i].h])=zaL vars++[V.int xs[i].h]:=by simp[zaL]
   rw[e1]at this
   rw[hd,L,zbr,hw,ZF hlt,Zi]
   have hno:(xs[i].k≠4∨0<xs[i].args.length∨xs[i].h<0∨b≤xs[i].h∨xs[i].h∈vars)→zdV b vars (xs[i]::xs.drop (i+1))=([],false):=fun h=>by rw[zdV,if_pos h]
   by_cases k4:xs[i].k=4
   ·by_cases ka:0<xs[i].args.length
    ·rw[hno (.inr (.inl ka))]
     simp[hlt',k4,ka]
    ·by_cases kh:xs[i].h<0
     ·rw[hno (.inr (.inr (.inl kh)))]
      simp[hlt',k4,ka,kh]
     ·by_cases kb:b≤xs[i].h
      ·rw[hno (.inr (.inr (.inr (.inl kb))))]
       simp[hlt',k4,ka,kh,kb]
      ·by_cases km:xs[i].h∈vars
       ·rw[hno (.inr (.inr (.inr (.inr km))))]
        simp[hlt',k4,ka,kh,kb,hc,km]
       ·have hy:zdV b vars (xs[i]::xs.drop (i+1))=zdV b (vars++[xs[i].h]) (xs.drop (i+1)):=by
         rw[zdV,if_neg (by simp only[not_or];exact⟨by simpa using k4,ka,kh,kb,km⟩)]
        rw[hy]
        simp[hlt',k4,ka,kh,kb,hc,km,hr]
        simpa using this
   ·rw[hno (.inl k4)]
    simp[hlt',k4]
 have h:=hL _ 0 [] rfl (Nat.zero_le _) (Nat.le_refl _)
 have h':W.loop 156 3 [.int 0, .vec .grow none [], .int b, .vec .plain (some 3) (Zf xs), .int xs.length] []=_:=h
 simp only[List.drop_zero]at h'
 have hf:(zdV b [] xs).2=false→(zdV b [] xs).1=[]:=by
  have: ∀(l:List T) (vars:List Int),(zdV b vars l).2=false→(zdV b vars l).1=[]:=by
   intro l
   induction l with
   |nil=>intro vars h;simp[zdV]at h
   |cons t l ih=>
    intro vars h
    simp only[zdV]at h⊢
    split
    ·rfl
    ·rename_i c;rw[if_neg c]at h;exact ih _ h
  exact this xs []
 unfold Ev zgq
 rw[C,zi4,Zi,h']
 cases hb:(zdV b [] xs).2 with
 |true=>simp[below,Zk,Zt]
 |false=>
  rw[hf hb]
  simp[below,Zk,Zt]
  rfl
theorem zrY:cfg.pure 155=false:=by kernel_rfl
theorem zkS(t:T)(n:Int)(hs:t.size≤1048576)(h0:0≤n)(hn:n≤1099511627776):Ev 114 [enc t, .int n] (.bool (zl9 t n)):=by
 have h:=zkb (nx:=zto) (x:=fun s=> [Res.box [V.bool s]]) (g:=155) (a:=[]) (b:=[.ref 0 0]) (S:=1048576) (by omega) zrY (fun _ _=>rfl) (fun n t s hs h0 hn=>by
  have hl:t.args.length≤1048576:=by cases t;simp only[T.size]at hs;have:=Zo (T.args (.mk ‹_› ‹_› ‹_›));simp only[T.args]at this⊢;omega
  have hp:=(zmO t.args n hl).p
  show W.call 155 [enc t, .int n, .ref 0 0] [Res.box [V.bool s]]=_
  rw[C,Zb t,zf2]
  unfold zto
  by_cases hk:t.k=6
  ·cases s<;>simp[hk,hp]
  ·simp[hk]) t.size t n true (Nat.le_refl _) (by omega) h0 (by omega)
 unfold Ev
 rw[C,Zb t,zhA,←Zb t,h]
 show Za (some _) _=_
 simp[Zw]
 rfl
end Go.Proofs.CL
namespace Go.Proofs.CL
open Go Go.AM Go.Ama
set_option maxRecDepth 100000
theorem zqm:ext 153=some (fun _ args st=>zcL args st):=by
 rfl
theorem zuv(args:List V)(st:St):W.call 153 args st=zcL args st:=
 Cx (x:=fun _ args st=>zcL args st) 153 args st zqm
theorem zmP:cfg.pure 152=false:=by kernel_rfl
theorem zik{B:Int}(hB:B≤9223372036854775807)(t:T)(hs:t.size≤1048576)(ht:okB B t):Ev 112 [enc t] (.vec .plain none ((Xs t).map V.int)):=by
 have hv:=zkb (S:=1048576) (nx:=zgs) (x:=fun s=> [.map .int .bool (Qg s)]) (g:=152) (a:=[]) (b:=[.cptr none (.mp 0)]) (by omega) zmP (fun s s'=>rfl)
  (fun n t s _ _ _=>by
   show W.call 152 [enc t, .int n, .cptr none (.mp 0)] [.map .int .bool (Qg s)]=_
   rw[C,Zb t,zi3,zoJ]
   unfold zgs
   by_cases h:t.k=6
   ·simp[h]
   ·simp[h])
  t.size t 0 [] (Nat.le_refl _) hs (by omega) (by omega)
 have hS:=zf1 (B:=B) t 0 [] 0 ht (zjV B)
 have hw:=hS.wide hB
 have hf:=zij hS.nodup
 have hk:=zlE (Jj zgs t 0 [])
 have hl:(Qg (Jj zgs t 0 [])).length≤1099511627776:=by have:=hS.len;rw[zjU];omega
 have hb: ∀l:List Int,Zk 0 (l.map V.int)=true:=fun l=>by induction l with
  |nil=>rfl
  |cons a l ih=>simpa[Zk,below]using ih
 have hx:W.call 153 [.mp 0] [.map .int .bool (Qg (Jj zgs t 0 []))]=some (.ret (.vec .plain none ((Xs t).map V.int)),[.map .int .bool (Qg (Jj zgs t 0 []))]):=by
  rw[zuv]
  unfold zcL Xs
  simp[hk,hw,hf,hl,Zw]
 have hv':W.call 151 [enc t, .int 0, .fn 152 [] [.cptr none (.mp 0)]] [.map .int .bool []]=some (.ret (.tup []),[.map .int .bool (Qg (Jj zgs t 0 []))]):=hv
 unfold Ev
 rw[C,Zb t,zkP,←Zb t,hv']
 simp[hx,below,hb,Zt]
end Go.Proofs.CL
namespace Go.Proofs.CL
open Go Go.AM
set_option maxRecDepth 20000
end Go.Proofs.CL
namespace Go.Ama
open Go Go.AM
structure Bd where
 is:Bool
 t:T
def B0:Bd:=⟨false,T0⟩
def zlG(b:Bd):V:= .agg [.bool b.is, .int b.t.k, .int b.t.h, .vec .plain (some 3) (Zf b.t.args)]
def zbs(l:List Bd):List V:=l.map zlG
def zf3(l:List Bool):List V:=l.map V.bool
def told(bs:List Bd):List T:=bs.map fun b=>if b.is then b.t else T0
def zil(bs:List Bd)(i:Int):Bool:=decide ((bs.length:Int)≤i)|| !(bs.getD i.toNat B0).is
noncomputable def ztw(bs:List Bd)(p t:T)(n:Int):Int:=
 if p.args.any (fun a=>(Xs a).any (zil bs))then 5
 else if(Xv p (told bs) n).2≠0 then(Xv p (told bs) n).2 else if(Xv p (told bs) n).1.same t then 0 else 6
theorem zeY(l:List Bd):(zbs l).length=l.length:=by simp[zbs]
theorem zim{l:List Bd}{i:Nat}(h:i<l.length):(zbs l).getD i .undef=zlG l[i]:=by
 simp[zbs,List.getD_eq_getElem?_getD,List.getElem?_map,h]
theorem zoP(n:Nat)(b:Bd):below n (zlG b)=true:=by simp[zlG,below,Zk]
theorem zmQ(n:Nat)(l:List Bd):Zk n (zbs l)=true:=Jt (fun _=>zoP n _) l
theorem zqn(n:Nat)(l:List Bool):Zk n (zf3 l)=true:=Jt (fun _=>rfl) l
structure OkBds(B:Int)(bs:List Bd):Prop where
 len:bs.length≤200
 all: ∀b∈bs,b.is=true→may b.t=true∧okB B b.t
 size: ∀b∈bs,b.t.size≤1048576
theorem OkBds.set{B:Int}{bs:List Bd}(h:OkBds B bs)(i:Nat){t:T}(hm:may t=true)(ho:okB B t):OkBds B (bs.set i ⟨true,t⟩):=by
 refine⟨by simpa using h.len,fun b hb=> ?_,fun b hb=> ?_⟩
 ·rcases List.mem_or_eq_of_mem_set hb with hb|rfl
  ·exact h.all b hb
  ·exact fun _=>⟨hm,ho⟩
 ·rcases List.mem_or_eq_of_mem_set hb with hb|rfl
  ·exact h.size b hb
  ·have:=Y4 hm;exact(by omega:t.size≤1048576)
theorem zvn:may T0=true:=by decide
theorem zuw{B:Int}(hB:0≤B){bs:List Bd}(h:OkBds B bs): ∀x∈told bs,may x=true∧okB B x:=by
 intro x hx
 obtain⟨b,hb,rfl⟩:=List.mem_map.1 hx
 split
 ·rename_i e;exact h.all b hb e
 ·exact⟨zvn,⟨⟨Int.le_refl 0,hB⟩,(fun h=>by cases h),trivial⟩⟩
end Go.Ama
namespace Go.Ama
open Go Go.AM
end Go.Ama
namespace Go.Proofs.CL
open Go Go.AM Go.Ama
set_option maxRecDepth 100000
end Go.Proofs.CL
namespace Go.Proofs.CL
open Go Go.AM Go.Ama
set_option maxRecDepth 100000
end Go.Proofs.CL
namespace Go.Proofs.CL
open Go Go.AM
set_option maxRecDepth 20000
theorem zcX(O:Oracle)(pk ph tk th n:Int)(ps' ts:List V)(bs ps rs:List V)(m:Nat):Ze Tryz.prog cfg O 171 [.ref 1 0, .agg [.int pk, .int ph, .vec .plain (some 3) ps'], .agg [.int tk, .int th, .vec .plain (some 3) ts], .int n] [.row (some 4) bs, .box [.row (some 4) 0 0 m, .vec .plain none ps, .vec .plain none rs]]=
 Za (O.loop 171 3 [V.int 0,V.fn 199 [] [V.cptr none (V.ref 1 0)],V.vec .plain (some 3) ps',V.loc false (some 3) (V.agg [V.int tk,
 V.int th,V.vec .plain (some 3) ts]),V.int n,V.cptr none (V.ref 1 0),V.loc false (some 3) (V.agg [V.int pk,V.int ph,V.vec .plain (some 3) ps']),V.int (↑ps'.length:Int)]
 [Res.row (some 4) bs,Res.box [V.row (some 4) 0 0 m,V.vec .plain none ps,V.vec .plain none rs]]) fun r1=>Xk r1.fst none (Zd r1.snd.fst fun v2 c3=>Zm v2 fun n4=>
 Zn c3 (Xb [Res.row (some 4) bs,Res.box [V.row (some 4) 0 0 m,V.vec .plain none ps,V.vec .plain none rs]].length (V.int n4) r1.snd.snd)) (fun i5=>bc (i5.beq 0) (Zd
 r1.snd.fst fun v6 c7=>Y0 (some 3) v6 fun d8 v9=>Zc [CT.int,CT.int,CT.slice (some 3)] (bif d8 then Zs v9 else v9) fun n10 n11 l12=>Zd c7 fun v13 c14=>
 Zm v13 fun n15=>Zd c14 fun v16 c17=>zdo v16 fun q18=>Zd c17 fun v19 c20=>Y0 (some 3) v19 fun d21 v22=>Zc [CT.int,CT.int,CT.slice (some 3)] (bif
 d21 then Zs v22 else v22) fun n23 n24 l25=>Zn c20 (Zw r1.snd.snd q18 fun x26=>ZE x26 fun c27=>gd (decide (1≤c27.length)&&true) (Qo (some 4) (Zs
 (AM.partOf c27 0 none)) fun r28 lo29 n30=>Za (O.call 87 [V.row (some 4) r28 lo29 n30] r1.snd.snd) fun r31=>Zx r31.fst (fun v32=>Yp (some 3) v32 fun l33=>
 Za (Zj O 26 [V.agg [V.int n23,V.int n24,V.vec .plain (some 3) l25],V.vec .plain (some 3) l33,V.int n15]) fun r34=>ZM r34 fun c35=>Zd c35 fun v36 c37
 =>Zc [CT.int,CT.int,CT.slice (some 3)] v36 fun n38 n39 l40=>Zd c37 fun v41 c42=>Zm v41 fun n43=>Zn c42 (bc (n43 !=0) (Xb [Res.row (some 4) bs,Res.box
 [V.row (some 4) 0 0 m,V.vec .plain none ps,V.vec .plain none rs]].length (V.int n43) r31.snd) (Za (Zj O 75 [V.agg [V.int n38,V.int n39,V.vec .plain (some 3)
 l40],V.agg [V.int n10,V.int n11,V.vec .plain (some 3) l12]]) fun r44=>Zl r44 fun b45=>bc (!b45) (Xb [Res.row (some 4) bs,Res.box [V.row (some 4) 0 0 m,V.vec .plain
 none ps,V.vec .plain none rs]].length (V.int 6) r31.snd) (Xb [Res.row (some 4) bs,Res.box [V.row (some 4) 0 0 m,V.vec .plain none ps,V.vec .plain none rs]].length (V.int 0)
 r31.snd)))) fun p46=>none))) none) fun v47=>none:=by kernel_rfl
theorem QP(O:Oracle)(i pk ph tk th n len:Int)(xs ps' ts:List V)(st:St):Zz Tryz.prog cfg O 171 3 [.int i, .fn 199 [] [.cptr none (.ref 1 0)], .vec .plain (some 3) xs, .loc false (some 3) (.agg [.int tk, .int th, .vec .plain (some 3) ts]), .int n, .cptr none (.ref 1 0), .loc false (some 3) (.agg [.int pk, .int ph, .vec .plain (some 3) ps']), .int len] st=
 bc (decide (i<len)) (gd (decide (0≤i)&&decide (i<(↑xs.length:Int))) (Zc [CT.int,CT.int,CT.slice (some 3)] (ZP xs i) fun n1 n2 l3=>Za (Zj O
 112 [V.agg [V.int n1,V.int n2,V.vec .plain (some 3) l3]]) fun r4=>Yp none r4 fun l5=>Za (O.call 200 [V.vec .plain none l5,V.fn
 199 [] [V.cptr none (V.ref 1 0)]] st) fun r6=>Zx r6.fst (fun v7=>Zl v7 fun b8=>bc b8 (some (Ex.ret,[V.int 5],r6.snd)) (O.2
 171 3 [V.int (IntKind.i64.wrap (i+1)),V.fn 199 [] [V.cptr none (V.ref 1 0)],V.vec .plain (some 3) xs,V.loc false (some 3) (V.agg
 [V.int tk,V.int th,V.vec .plain (some 3) ts]),V.int n,V.cptr none (V.ref 1 0),V.loc false (some 3) (V.agg [V.int pk,V.int ph,V.vec .plain (some 3) ps']),V.int len]
 r6.snd)) fun p9=>none)) (some (Ex.exit 0,[V.loc false (some 3) (V.agg [V.int tk,V.int th,V.vec .plain (some 3) ts]),V.int n,V.cptr none (V.ref 1 0),V.loc false (some 3)
 (V.agg [V.int pk,V.int ph,V.vec .plain (some 3) ps'])],st)):=by kernel_rfl
theorem zbY(O:Oracle)(n0:Int)(bs ps rs:List V)(m:Nat):Ze Tryz.prog cfg O 199 [.int n0, .cptr none (.ref 1 0)] [.row (some 4) bs, .box [.row (some 4) 0 0 m, .vec .plain none ps, .vec .plain none rs]]=
 bc (decide (n0≥(↑m:Int))) (Xb [Res.row (some 4) bs,Res.box [V.row (some 4) 0 0 m,V.vec .plain none ps,V.vec .plain none rs]].length (V.bool true) [Res.row (some 4) bs,
 Res.box [V.row (some 4) 0 0 m,V.vec .plain none ps,V.vec .plain none rs]]) (gd (decide (0≤n0)&&decide (n0<(↑m:Int))) (gd (true&&decide (0+n0.toNat<bs.length))
 (Xc (bs.getD (0+n0.toNat) V.undef) fun c1=>Zl (AM.partOf c1 0 none) fun b2=>Xb [Res.row (some 4) bs,Res.box [V.row (some 4) 0 0 m,V.vec .plain none ps,V.vec
 .plain none rs]].length (V.bool !b2) [Res.row (some 4) bs,Res.box [V.row (some 4) 0 0 m,V.vec .plain none ps,V.vec .plain none rs]]))):=by kernel_rfl
theorem zat(O:Oracle)(l0:(List V))(g1:Nat)(l2:(List V))(l3:(List V))(st:St):Ze Tryz.prog cfg O 200 [.vec .plain none l0, .fn g1 l2 l3] st=
 Za (O.call 217 [V.vec .plain none l0,V.fn g1 l2 l3] st) fun r1=>Zx r1.fst (fun v2=>Zm v2 fun n3=>Xb (List.length st) (V.bool (decide (n3≥
 0))) r1.snd) fun p4=>none:=by kernel_rfl
theorem zbt(O:Oracle)(l0:(List V))(g1:Nat)(l2:(List V))(l3:(List V))(st:St):Ze Tryz.prog cfg O 217 [.vec .plain none l0, .fn g1 l2 l3] st=
 Za (O.loop 217 2 [V.int 0,V.vec .plain none l0,V.fn g1 l2 l3,V.int (↑l0.length:Int)] st) fun r1=>Xk r1.fst none (Zd r1.snd.fst fun v2 c3=>
 Zm v2 fun n4=>Zn c3 (Xb (List.length st) (V.int n4) r1.snd.snd)) (fun i5=>bc (i5.beq 0) (Zn r1.snd.fst (Xb (List.length st) (V.int (-1)) r1.snd.snd)) none) fun v6
 =>none:=by kernel_rfl
theorem XX(O:Oracle)(n0:Int)(l1:(List V))(g2:Nat)(l3:(List V))(l4:(List V))(n5:Int)(st:St):Zz Tryz.prog cfg O 217 2 [.int n0, .vec .plain none l1, .fn g2 l3 l4, .int n5] st=
 bc (decide (n0<n5)) (gd (decide (0≤n0)&&decide (n0<(↑l1.length:Int))) (Zm (ZP l1 n0) fun n1=>bc (cfg.pure g2) (Za (Zj O g2 (l3++[V.int n1]++l4)) fun r2
 =>Zl r2 fun b3=>bc b3 (some (Ex.ret,[V.int n0],(Out.ret r2,st).snd)) (O.2 217 2 [V.int (IntKind.i64.wrap (n0+1)),V.vec .plain none l1,V.fn g2
 l3 l4,V.int n5] (Out.ret r2,st).snd)) (Za (O.call g2 (l3++[V.int n1]++l4) st) fun r4=>Zx r4.fst (fun v5=>Zl v5 fun b6=>bc b6 (some (Ex.ret,[V.int n0],
 r4.snd)) (O.2 217 2 [V.int (IntKind.i64.wrap (n0+1)),V.vec .plain none l1,V.fn g2 l3 l4,V.int n5] r4.snd)) fun p7=>none))) (some (Ex.exit 0,[],st)):=by kernel_rfl
theorem zi5(O:Oracle)(bs ps rs:List V)(m:Nat):Ze Tryz.prog cfg O 87 [.row (some 4) 0 0 m] [.row (some 4) bs, .box [.row (some 4) 0 0 m, .vec .plain none ps, .vec .plain none rs]]=
 gd (decide (0≤(↑m:Int))&&decide ((↑m:Int)=(↑m:Int))&&roomFor Tryz.prog 27 (↑m:Int).toNat&&true&&true) (Za (O.loop 87 3 [V.int 0,V.row
 (some 3) [Res.row (some 4) bs,Res.box [V.row (some 4) 0 0 m,V.vec .plain none ps,V.vec .plain none rs]].length 0 (↑m:Int).toNat,V.row (some 4) 0 0 m,V.int (↑m:Int)]
 [Res.row (some 4) bs,Res.box [V.row (some 4) 0 0 m,V.vec .plain none ps,V.vec .plain none rs],Res.row (some 3) (List.replicate (↑m:Int).toNat (V.agg [V.int 0,V.int 0,V.vec
 .plain (some 3) []]))]) fun r1=>Xk r1.fst none none (fun i2=>bc (i2.beq 0) (Zd r1.snd.fst fun v3 c4=>Qo (some 3) v3 fun r5 lo6 n7=>Zn c4 (gd (decide ([Res.row
 (some 4) bs,Res.box [V.row (some 4) 0 0 m,V.vec .plain none ps,V.vec .plain none rs]].length≤r5)) (Zw r1.snd.snd r5 fun x8=>za0 x8 fun sh9 l10=>gd (decide (sh9=some
 3)&&decide (lo6+n7≤l10.length)) (Xb [Res.row (some 4) bs,Res.box [V.row (some 4) 0 0 m,V.vec .plain none ps,V.vec .plain none rs]].length (V.vec .plain (some 3)
 (List.take n7 (List.drop lo6 l10))) (List.set r1.snd.snd r5 Res.dead))))) none) fun v11=>none):=by kernel_rfl
theorem zbu(O:Oracle)(n0 n5:Int)(k:Nat)(es:List V)(bs ps rs:List V)(m:Nat):Zz Tryz.prog cfg O 87 3 [.int n0, .row (some 3) 2 0 k, .row (some 4) 0 0 m, .int n5] [.row (some 4) bs, .box [.row (some 4) 0 0 m, .vec .plain none ps, .vec .plain none rs], .row (some 3) es]=
 bc (decide (n0<n5)) (gd (decide (0≤n0)&&decide (n0<(↑m:Int))) (gd (true&&decide (0+n0.toNat<bs.length)) (Zc [CT.bool,CT.int,CT.int,CT.slice (some 3)]
 (bs.getD (0+n0.toNat) V.undef) fun b1 n2 n3 l4=>bc b1 (gd (decide (0≤n0)&&decide (n0<(↑k:Int))) (gd (true&& !isGrow (V.agg [V.int n2,V.int n3,V.vec .plain (some 3)
 l4])&&decide (0+n0.toNat<es.length)) (O.2 87 3 [V.int (IntKind.i64.wrap (n0+1)),V.row (some 3) 2 0 k,V.row (some 4) 0 0 m,V.int n5] [Res.row (some 4) bs,
 Res.box [V.row (some 4) 0 0 m,V.vec .plain none ps,V.vec .plain none rs],Res.row (some 3) (es.set (0+n0.toNat) (V.agg [V.int n2,V.int n3,V.vec .plain (some 3) l4]))])))
 (O.2 87 3 [V.int (IntKind.i64.wrap (n0+1)),V.row (some 3) 2 0 k,V.row (some 4) 0 0 m,V.int n5] [Res.row (some 4) bs,Res.box [V.row (some 4) 0 0 m,V.vec .plain
 none ps,V.vec .plain none rs],Res.row (some 3) es])))) (some (Ex.exit 0,[V.row (some 3) 2 0 k],[Res.row (some 4) bs,Res.box [V.row (some 4) 0 0 m,V.vec .plain none ps,V.vec
 .plain none rs],Res.row (some 3) es])):=by kernel_rfl
end Go.Proofs.CL
namespace Go.Ama
open Go Go.AM
structure US where
 bs:List Bd
 n:Nat
end Go.Ama
namespace Go.Ama
open Go Go.AM
end Go.Ama
namespace Go.Ama
open Go Go.AM
end Go.Ama
namespace Go.Ama
open Go Go.AM
structure Part(θ:List T)(bs:List Bd):Prop where
 len:bs.length=θ.length
 eq: ∀(i:Nat) (b:Bd) (t:T),bs[i]? =some b→θ[i]? =some t→b.is=true→b.t=t
structure FitsM(B:Int)(ms:List M)(θ:List T):Prop where
 len:θ.length=ms.length
 few:ms.length≤200
 all: ∀x∈θ,may x=true∧okB B x
 ctx: ∀m∈ms,m.ctx.length≤200
 par: ∀(i:Nat) (m:M) (t:T),ms[i]? =some m→θ[i]? =some t→m.param=true→m.ctx=[]∧ ∃h,t= .mk 4 h []
def Grew(bs bs':List Bd):Prop:= ∀(i:Nat) (b:Bd),bs[i]? =some b→b.is=true→ ∃b',bs'[i]? =some b'∧b'.is=true
theorem Grew.refl(bs:List Bd):Grew bs bs:=fun _ b h hb=>⟨b,h,hb⟩
theorem Grew.trans{a b c:List Bd}(h1:Grew a b)(h2:Grew b c):Grew a c:=fun i x hx hb=>by
 obtain⟨y,hy,hyb⟩:=h1 i x hx hb
 exact h2 i y hy hyb
theorem ztx(bs:List Bd):(told bs).length=bs.length:=by simp[told]
theorem Part.set{θ:List T}{bs:List Bd}(hp:Part θ bs){i:Nat}{u:T}(hu:θ[i]? =some u):Part θ (bs.set i ⟨true,u⟩):=by
 refine⟨by simpa using hp.len,fun j b t hb ht his=> ?_⟩
 rw[List.getElem?_set]at hb
 split at hb
 ·rename_i e
  subst e
  split at hb
  ·cases hb
   rw[hu]at ht
   cases ht
   rfl
  ·cases hb
 ·exact hp.eq j b t hb ht his
theorem Grew.set{bs:List Bd}{i:Nat}{u:T}:Grew bs (bs.set i ⟨true,u⟩):=by
 intro j b hb his
 rw[List.getElem?_set]
 by_cases e:i=j
 ·subst e
  have hl:=(List.getElem?_eq_some_iff.1 hb).1
  rw[if_pos rfl,if_pos hl]
  exact⟨_,rfl,rfl⟩
 ·rw[if_neg e]
  exact⟨b,hb,his⟩
end Go.Ama
namespace Go.Proofs.CL
open Go Go.AM Go.Ama
set_option maxRecDepth 100000
def stM(bs:List Bd)(ps rs:List Bool):St:=[.row (some 4) (zbs bs), .box [.row (some 4) 0 0 bs.length, .vec .plain none (zf3 ps), .vec .plain none (zf3 rs)]]
theorem zwj{R:Type}(b:Bd)(K:Bool→Int→Int→List V→Option R):Zc (R:=R) [CT.bool,CT.int,CT.int,CT.slice (some 3)] (zlG b) K=K b.is b.t.k b.t.h (Zf b.t.args):=rfl
theorem zwk{R:Type}(b:Bd)(K:Bool→Option R):(Xc (zlG b) fun c1=>Zl (AM.partOf c1 0 none) K)=K b.is:=rfl
theorem zeb{R:Type}(sh:Sh)(r lo n:Nat)(K:Nat→Nat→Nat→Option R):Qo sh (.row sh r lo n) K=K r lo n:=by simp[Qo]
theorem zty{a b c:Res}{v:V}(h1:below 2 v=true)(h2:Zt 2 [a,b]=true):Xb 2 v [a,b,c]=some (.ret v,[a,b]):=by
 unfold Xb
 have:Nat.beq ([a,b,c].length) 2=false:=rfl
 rw[this,Z2,show List.take 2 [a,b,c]=[a,b]from rfl,h1,h2]
 rfl
def QT(bs:List Bd)(i:Nat):List T:=(told bs).take i++List.replicate (bs.length-i) T0
theorem zqo(bs:List Bd){i:Nat}(h:i≤bs.length):(QT bs i).length=bs.length:=by
 unfold QT told
 simp
 omega
theorem zoR(bs:List Bd):QT bs 0=List.replicate bs.length T0:=by simp[QT]
theorem zqp(bs:List Bd):QT bs bs.length=told bs:=by
 unfold QT
 rw[Nat.sub_self,List.replicate_zero,List.append_nil]
 exact List.take_of_length_le (by simp[told])
theorem zin(bs:List Bd){i:Nat}(h:i<bs.length):QT bs (i+1)=(QT bs i).set i (if bs[i].is then bs[i].t else T0):=by
 have hl:i<(told bs).length:=by simpa[told]using h
 unfold QT
 rw[List.take_succ_eq_append_getElem hl]
 have e:bs.length-i=(bs.length-(i+1))+1:=by omega
 rw[e,List.replicate_succ,List.append_assoc]
 have hlt:((told bs).take i).length=i:=by simp;omega
 rw[List.set_append,if_neg (by omega),hlt,Nat.sub_self]
 simp[told]
theorem zoS(bs:List Bd){i:Nat}(h:i<bs.length)(hb:bs[i].is=false):QT bs (i+1)=QT bs i:=by
 rw[zin bs h,hb]
 have e:bs.length-i=(bs.length-(i+1))+1:=by omega
 have hl:i<(told bs).length:=by simpa[told]using h
 have hlt:((told bs).take i).length=i:=by simp;omega
 unfold QT
 rw[e,List.replicate_succ,List.set_append,if_neg (by omega),hlt,Nat.sub_self]
 rfl
theorem ztz(l:List T)(i:Nat)(t:T):(Zf l).set i (enc t)=Zf (l.set i t):=by simp[QX,List.map_set]
theorem zt0(n:Nat):List.replicate n (V.agg [V.int 0,V.int 0,V.vec .plain (some 3) []])=Zf (List.replicate n T0):=by simp[QX,enc,T0]
theorem zvo{bs:List Bd}{ps rs:List Bool}(hb:bs.length≤1048576):W.call 87 [.row (some 4) 0 0 bs.length] (stM bs ps rs)=some (.ret (.vec .plain (some 3) (Zf (told bs))),stM bs ps rs):=by
 have hL: ∀(m i:Nat),bs.length-i=m→i≤bs.length→W.loop 87 3 [.int (i:Int), .row (some 3) 2 0 bs.length, .row (some 4) 0 0 bs.length, .int bs.length] [.row (some 4) (zbs bs), .box [.row (some 4) 0 0 bs.length, .vec .plain none (zf3 ps), .vec .plain none (zf3 rs)], .row (some 3) (Zf (QT bs i))]=
   some (.exit 0,[.row (some 3) 2 0 bs.length],[.row (some 4) (zbs bs), .box [.row (some 4) 0 0 bs.length, .vec .plain none (zf3 ps), .vec .plain none (zf3 rs)], .row (some 3) (Zf (told bs))]):=by
  intro m
  induction m with
  |zero=>
   intro i hm hi
   have:i=bs.length:=by omega
   subst this
   rw[L,zbu,zqp]
   simp
  |succ m ih=>
   intro i hm hi
   have hlt:i<bs.length:=by omega
   have hlt':(i:Int)<bs.length:=by omega
   have hw:IntKind.i64.wrap ((i:Int)+1)=((i+1:Nat):Int):=by rw[Zu ⟨by omega,by omega⟩];omega
   have hi1:=ih (i+1) (by omega) (by omega)
   have hl1:i<(zbs bs).length:=by rw[zeY];exact hlt
   have hl2:i<(Zf (QT bs i)).length:=by rw[Zi,zqo bs (by omega)];exact hlt
   rw[L,zbu,hw]
   simp only[hlt',Int.natCast_nonneg,decide_true,Bool.and_self,Bool.true_and,Z6,Z4,Nat.zero_add,Int.toNat_natCast,hl1,hl2,zim hlt,zwj]
   cases hb:bs[i].is with
   |true=>
    have e:QT bs (i+1)=(QT bs i).set i bs[i].t:=by rw[zin bs hlt,hb];rfl
    rw[e,←ztz,Zb bs[i].t]at hi1
    simpa[isGrow]using hi1
   |false=>
    rw[zoS bs hlt hb]at hi1
    simpa using hi1
 have h:=hL _ 0 rfl (Nat.zero_le _)
 rw[zoR,←zt0]at h
 have hr:roomFor Tryz.prog 27 bs.length=true:=zbU (by omega)
 have hg:Xb 2 (V.vec .plain (some 3) (Zf (told bs))) [.row (some 4) (zbs bs), .box [.row (some 4) 0 0 bs.length, .vec .plain none (zf3 ps), .vec .plain none (zf3 rs)], .dead]=some (.ret (V.vec .plain (some 3) (Zf (told bs))),stM bs ps rs):=
  zty (by simp only[below];exact Q9 2 _) (by simp[Zt,zaW,Zk,below,zmQ,zqn])
 have hlen:(Zf (told bs)).length=bs.length:=by rw[Zi,told];simp
 unfold stM
 rw[C,zi5]
 simp only[Int.natCast_nonneg,decide_true,Bool.and_self,Bool.true_and,Bool.and_true,Int.toNat_natCast,hr,Z6,List.length_cons,List.length_nil,Nat.zero_add,Nat.reduceAdd]
 rw[show W.loop 87 3 [V.int 0,V.row (some 3) 2 0 bs.length,V.row (some 4) 0 0 bs.length,V.int bs.length] _=_ from h]
 simp only[Zg,Js,show Nat.beq 0 0=true from rfl,Z4,Yk,zeb,Yv]
 simp only[Zw,List.set_cons_succ,List.set_cons_zero,List.getElem?_cons_succ,List.getElem?_cons_zero,zly,Nat.le_refl,decide_true,Z6,Nat.zero_add,hlen,Bool.and_self,List.drop_zero]
 rw[show List.take bs.length (Zf (told bs))=Zf (told bs)from List.take_of_length_le (by rw[hlen];exact Nat.le_refl _)]
 exact hg
theorem zrZ{bs:List Bd}{ps rs:List Bool}{i:Int}(h0:0≤i):W.call 199 [.int i, .cptr none (.ref 1 0)] (stM bs ps rs)=some (.ret (.bool (zil bs i)),stM bs ps rs):=by
 unfold stM zil
 rw[C,zbY]
 by_cases hi:(bs.length:Int)≤i
 ·have hi':i≥(bs.length:Int):=hi
  simp[hi',Z3]
 ·have hi': ¬i≥(bs.length:Int):=hi
  have hn:i.toNat<bs.length:=by omega
  have hlt:i<(bs.length:Int):=by omega
  have hg:bs.getD i.toNat B0=bs[i.toNat]:=by simp[List.getD_eq_getElem?_getD,hn]
  simp only[hi',decide_false,Z2,h0,hlt,decide_true,Bool.and_self,Bool.true_and,Z6,Nat.zero_add,zeY,hn,zim hn,zwk,hg,hi,Bool.false_or]
  exact Z3 rfl
theorem zsa:cfg.pure 199=false:=by kernel_rfl
theorem zkT{g:Nat}{a b:List V}(hp:cfg.pure g=false){p:Int→Bool}(xs:List Int)(hs:xs.length≤1099511627776){st:St}(hg: ∀x∈xs,W.call g (a++[.int x]++b) st=some (.ret (.bool (p x)),st)):
  W.call 200 [.vec .plain none (zaL xs), .fn g a b] st=some (.ret (.bool (xs.any p)),st):=by
 have hL: ∀(m i:Nat),xs.length-i=m→i≤xs.length→(∃j:Nat,(xs.drop i).any p=true∧W.loop 217 2 [.int (i:Int), .vec .plain none (zaL xs), .fn g a b, .int xs.length] st=some (.ret,[.int (j:Int)],st))∨((xs.drop i).any p=false∧W.loop 217 2 [.int (i:Int), .vec .plain none (zaL xs), .fn g a b, .int xs.length] st=some (.exit 0,[],st)):=by
  intro m
  induction m with
  |zero=>
   intro i hm hi
   have:i=xs.length:=by omega
   subst this
   refine .inr ⟨by simp, ?_⟩
   rw[L,XX]
   simp
  |succ m ih=>
   intro i hm hi
   have hlt:i<xs.length:=by omega
   have hlt':(i:Int)<xs.length:=by omega
   have hw:IntKind.i64.wrap ((i:Int)+1)=((i+1:Nat):Int):=by rw[Zu ⟨by omega,by omega⟩];omega
   have h1:=hg _ (List.getElem_mem hlt)
   rw[List.drop_eq_getElem_cons hlt,List.any_cons,L,XX,hw,zlA hlt,zar,hp]
   simp only[hlt',Int.natCast_nonneg,decide_true,Bool.and_self,Z6,Z4,Z2,ZB,h1,Zg,ZV,ZH]
   cases hq:p xs[i]with
   |true=>exact .inl ⟨i,by simp,by simp⟩
   |false=>
    simp only[Bool.false_or,Z2]
    exact ih (i+1) (by omega) (by omega)
 rw[C,zat,C,zbt,zar]
 rcases hL _ 0 rfl (Nat.zero_le _)with⟨j,h1,h2⟩|⟨h1,h2⟩
 ·rw[List.drop_zero]at h1
  simp only[Int.natCast_zero]at h2
  rw[h2,h1]
  simp[Z3]
 ·rw[List.drop_zero]at h1
  simp only[Int.natCast_zero]at h2
  rw[h2,h1]
  simp[Z3]
end Go.Proofs.CL
namespace Go.Proofs.CL
open Go Go.AM Go.Ama
set_option maxRecDepth 100000
theorem zmR{B:Int}{t:T}(ht:okB B t):(∀x∈Xs t,0≤x∧x≤B)∧(Xs t).length≤t.size:=by
 have hS:=zf1 (B:=B) t 0 [] 0 ht (zjV B)
 refine⟨fun x hx=>hS.all x ?_, ?_⟩
 ·unfold Xs at hx
  exact(Q8 _).mem_iff.1 hx
 ·unfold Xs
  rw[(Q8 _).length_eq]
  have:=hS.len
  omega
theorem JO{B:Int}(h0:0≤B)(hβ:ZY (B+360000000000000)){p t:T}{n:Int}{bs:List Bd}{ps rs:List Bool}(hp:okB B p)(hps:p.size≤1048576)(ht:t.size≤1048576)(hb:OkBds B bs):
  W.call 171 [.ref 1 0,enc p,enc t, .int n] (stM bs ps rs)=some (.ret (.int (ztw bs p t n)),stM bs ps rs):=by
 have hargs: ∀x∈p.args,okB B x:=fun x hx=>zbl hp hx
 have hsz: ∀x∈p.args,x.size≤1048576:=fun x hx=>by have:=zcn hx;omega
 have hxl:p.args.length≤1048576:=by cases p;simp only[T.size,T.args]at hps⊢;have:=Zo (T.args (.mk ‹_› ‹_› ‹_›));simp only[T.args]at this;omega
 have hL: ∀(m i:Nat),p.args.length-i=m→i≤p.args.length→W.loop 171 3 [.int (i:Int), .fn 199 [] [.cptr none (.ref 1 0)], .vec .plain (some 3) (Zf p.args), .loc false (some 3) (.agg [.int t.k, .int t.h, .vec .plain (some 3) (Zf t.args)]), .int n, .cptr none (.ref 1 0), .loc false (some 3) (.agg [.int p.k, .int p.h, .vec .plain (some 3) (Zf p.args)]), .int p.args.length] (stM bs ps rs)=
   some (if(p.args.drop i).any (fun a=>(Xs a).any (zil bs))=true then(.ret,[.int 5],stM bs ps rs)else(.exit 0,[.loc false (some 3) (enc t), .int n, .cptr none (.ref 1 0), .loc false (some 3) (enc p)],stM bs ps rs)):=by
  intro m
  induction m with
  |zero=>
   intro i hm hi
   have:i=p.args.length:=by omega
   subst this
   rw[List.drop_length,L,QP,←Zb,←Zb]
   simp
  |succ m ih=>
   intro i hm hi
   have hlt:i<p.args.length:=by omega
   have hlt':(i:Int)<p.args.length:=by omega
   have hw:IntKind.i64.wrap ((i:Int)+1)=((i+1:Nat):Int):=by rw[Zu ⟨by omega,by omega⟩];omega
   have hmem:=List.getElem_mem hlt
   have hm1:=(zik (B:=B) (by unfold ZY at hβ;omega) p.args[i] (hsz _ hmem) (hargs _ hmem)).p (h2:=by simp only[below];exact Jt (fun _=>rfl) _)
   have hmb:=zmR (hargs _ hmem)
   have hc:=zkT (a:=[]) (b:=[.cptr none (.ref 1 0)]) zsa (p:=zil bs) (Xs p.args[i]) (by have:=hsz _ hmem;omega) (st:=stM bs ps rs) (fun x hx=>zrZ (hmb.1 x hx).1)
   have hc':W.call 200 [.vec .plain none ((Xs p.args[i]).map V.int), .fn 199 [] [.cptr none (.ref 1 0)]] (stM bs ps rs)=_:=hc
   have hi1:=ih (i+1) (by omega) (by omega)
   rw[List.drop_eq_getElem_cons hlt,List.any_cons,L,QP,hw,ZF hlt,Zi]
   simp only[hlt',Int.natCast_nonneg,decide_true,Bool.and_self,Z6,Z4,zhv,←Zb,hm1,Zg,YZ,hc',ZV,ZH]
   cases hq:(Xs p.args[i]).any (zil bs)with
   |true=>simp
   |false=>
    simp only[Bool.false_or,Z2]
    rw[←Zb,←Zb]at hi1
    exact hi1
 have h:=hL _ 0 rfl (Nat.zero_le _)
 simp only[Int.natCast_zero,List.drop_zero]at h
 have htold:=zuw h0 hb
 have hr:=zvo (bs:=bs) (ps:=ps) (rs:=rs) (by have:=hb.len;omega)
 have hts:sizes (told bs)≤1099511627776:=by
  have: ∀l:List T,(∀x∈l,x.size≤4000)→sizes l≤4000*l.length:=by
   intro l
   induction l with
   |nil=>intro _;simp[sizes]
   |cons a l ih=>intro h;have:=ih fun x hx=>h x (by simp[hx]);have:=h a (by simp);simp only[sizes,List.length_cons];omega
  have h1:=this (told bs) (fun x hx=>Y4 (htold x hx).1)
  rw[ztx]at h1
  have:=hb.len
  omega
 have hf:=(ze0 (β:=B) h0 hβ (t:=p) (θ:=told bs) (n:=n) (by omega) hts (fun x hx _=>(htold x hx).2) (fun _=>hp)).p
 have hC:W.call 171 [.ref 1 0,enc p,enc t, .int n] (stM bs ps rs)=Ze Tryz.prog cfg W 171 [.ref 1 0,enc p,enc t, .int n] (stM bs ps rs):=C ..
 rw[hC]
 conv=>lhs;rw[Zb p,Zb t]
 unfold stM at h hr⊢
 rw[zcX,Zi,h]
 unfold ztw
 by_cases hany:p.args.any (fun a=>(Xs a).any (zil bs))=true
 ·simp only[hany,if_true,Zg,zsV,Yk,ZB,Yv]
  exact Z3 rfl
 ·have hany':p.args.any (fun a=>(Xs a).any (zil bs))=false:=by simpa using hany
  have hgR: ∀{R:Type} (K:Res→Option R),Zw [Res.row (some 4) (zbs bs),Res.box [V.row (some 4) 0 0 bs.length,V.vec .plain none (zf3 ps),V.vec .plain none (zf3 rs)]] 1 K=K (.box [V.row (some 4) 0 0 bs.length,V.vec .plain none (zf3 ps),V.vec .plain none (zf3 rs)]):=fun K=>rfl
  have hcv:Zs (AM.partOf [V.row (some 4) 0 0 bs.length,V.vec .plain none (zf3 ps),V.vec .plain none (zf3 rs)] 0 none)=V.row (some 4) 0 0 bs.length:=rfl
  have hol: ∀{R:Type} (v:V) (K:Bool→V→Option R),Y0 (some 3) (.loc false (some 3) v) K=K false v:=fun v K=>by simp[Y0]
  simp only[hany',Bool.false_eq_true,if_false,Zg,Js,show Nat.beq 0 0=true from rfl,Z4,Yk,hol,cond_false,zhv,ZB,znT,Yv,hgR,zhr,List.length_cons,List.length_nil,Nat.zero_add,Nat.reduceAdd,Nat.reduceLeDiff,decide_true,Bool.and_self,Z6,hcv,zeb,hr,ZV,YZ,←Zb,hf,Xx]
  by_cases he:(Xv p (told bs) n).2=0
  ·have hsame:=(zfp (Xv p (told bs) n).1 t (by
    have:=(zjO (β:=B) h0 (fun x hx _=>(htold x hx).2) (fun _=>hp) hβ he).1
    have:=Y4 this
    omega) (by omega)).p
   simp only[he,znU,hsame,Zg,ZH]
   cases hs:(Xv p (told bs) n).1.same t with
   |true=>simp[Z3]
   |false=>simp[Z3]
  ·simp[he,Z3]
end Go.Proofs.CL
namespace Go.Proofs.CL
open Go Go.AM Go.Ama
set_option maxRecDepth 100000
end Go.Proofs.CL
namespace Go.Proofs.CL
open Go Go.AM Go.Ama
set_option maxRecDepth 100000
end Go.Proofs.CL
namespace Go.Proofs.CL
open Go Go.AM
set_option maxRecDepth 20000
theorem zi6(O:Oracle)(l0:(List V))(l1:(List V))(s2:ByteArray)(l3:(List V))(l4:(List V))(l5:(List V))(n6:Int)(n7:Int)(l8:(List V))(l9:(List V))(n10:Int)(n11:Int)(l12:(List V))(b13:Bool)(l14:(List V))(s15:ByteArray)(l16:(List V))(l17:(List V))(l18:(List V))(n19:Int)(n20:Int)(l21:(List V))(l22:(List V))(n23:Int)(n24:Int)(l25:(List V))(b26:Bool)(l27:(List V))(n28:Int)(l29:(List V))(l30:(List V))(n31:Int)(n32:Int)(l33:(List V)):Ze Tryz.prog cfg O 19 [.vec .plain (some 4) l0, .vec .plain (some 5) l1, .agg [.str s2, .vec .plain (some 3) l3, .vec .plain (some 5) l4, .vec .plain (some 3) l5, .int n6, .int n7, .vec .plain (some 3) l8, .vec .plain (some 3) l9, .int n10, .int n11, .vec .plain (some 3) l12, .bool b13, .vec .plain (some 9) l14], .agg [.str s15, .vec .plain (some 3) l16, .vec .plain (some 5) l17, .vec .plain (some 3) l18, .int n19, .int n20, .vec .plain (some 3) l21, .vec .plain (some 3) l22, .int n23, .int n24, .vec .plain (some 3) l25, .bool b26, .vec .plain (some 9) l27], .agg [.int n28, .vec .plain (some 3) l29, .vec .plain (some 3) l30, .int n31, .int n32, .vec .plain (some 3) l33]] []=
 Za (O.call 40 [V.vec .plain none [V.fn 66 [] [V.cptr (some 6) (V.agg [V.int n28,V.vec .plain (some 3) l29,V.vec .plain (some 3) l30,V.int n31,
 V.int n32,V.vec .plain (some 3) l33])],V.fn 67 [] [V.cptr (some 13) (V.agg [V.str s15,V.vec .plain (some 3) l16,V.vec .plain (some 5) l17,V.vec .plain (some 3)
 l18,V.int n19,V.int n20,V.vec .plain (some 3) l21,V.vec .plain (some 3) l22,V.int n23,V.int n24,V.vec .plain (some 3) l25,V.bool b26,V.vec .plain (some 9) l27]),V.cptr
 (some 6) (V.agg [V.int n28,V.vec .plain (some 3) l29,V.vec .plain (some 3) l30,V.int n31,V.int n32,V.vec .plain (some 3) l33]),V.cptr (some 13) (V.agg [V.str s2,V.vec
 .plain (some 3) l3,V.vec .plain (some 5) l4,V.vec .plain (some 3) l5,V.int n6,V.int n7,V.vec .plain (some 3) l8,V.vec .plain (some 3) l9,V.int n10,V.int n11,V.vec .plain
 (some 3) l12,V.bool b13,V.vec .plain (some 9) l14])],V.fn 68 [] [V.cptr none (V.vec .plain (some 4) l0),V.cptr none (V.vec .plain (some 5) l1),V.cptr (some 6)
 (V.agg [V.int n28,V.vec .plain (some 3) l29,V.vec .plain (some 3) l30,V.int n31,V.int n32,V.vec .plain (some 3) l33]),V.cptr (some 13) (V.agg [V.str s15,V.vec .plain (some
 3) l16,V.vec .plain (some 5) l17,V.vec .plain (some 3) l18,V.int n19,V.int n20,V.vec .plain (some 3) l21,V.vec .plain (some 3) l22,V.int n23,V.int n24,V.vec .plain (some
 3) l25,V.bool b26,V.vec .plain (some 9) l27])],V.fn 69 [] [V.cptr none (V.vec .plain (some 4) l0),V.cptr none (V.vec .plain (some 5) l1),V.cptr (some 6) (V.agg
 [V.int n28,V.vec .plain (some 3) l29,V.vec .plain (some 3) l30,V.int n31,V.int n32,V.vec .plain (some 3) l33]),V.cptr (some 13) (V.agg [V.str s15,V.vec .plain (some 3) l16,
 V.vec .plain (some 5) l17,V.vec .plain (some 3) l18,V.int n19,V.int n20,V.vec .plain (some 3) l21,V.vec .plain (some 3) l22,V.int n23,V.int n24,V.vec .plain (some 3) l25,
 V.bool b26,V.vec .plain (some 9) l27])]]] []) fun r1=>Zx r1.fst (fun v2=>Zm v2 fun n3=>bc (n3 !=0) (some (Out.ret (V.tup [V.agg [V.vec .plain (some 3) [],V.int 0,
 V.int 0,V.vec .plain (some 3) [],V.bool false],V.int n3]),[])) (Za (Zj O 70 [V.vec .plain (some 3) l29,V.vec .plain (some 3) l22,V.agg [V.int n23,V.int
 n24,V.vec .plain (some 3) l25],V.vec .plain (some 3) l30]) fun r4=>ZM r4 fun c5=>Zd c5 fun v6 c7=>Zc [CT.slice (some 3),CT.int,CT.int,CT.slice (some 3),
 CT.bool] v6 fun l8 n9 n10 l11 b12=>Zd c7 fun v13 c14=>Zm v13 fun n15=>Zn c14 (gd (below 0 (V.tup [V.agg [V.vec .plain (some 3) l8,V.int n9,V.int n10,V.vec
 .plain (some 3) l11,V.bool b12],V.int n15])&&Zt 0 []) (some (Out.ret (V.tup [V.agg [V.vec .plain (some 3) l8,V.int n9,V.int n10,V.vec .plain (some 3) l11,V.bool b12],
 V.int n15]),[]))))) fun p16=>none:=by kernel_rfl
theorem zkd(O:Oracle)(l0:(List V))(st:St):Ze Tryz.prog cfg O 40 [.vec .plain none l0] st=
 Za (O.loop 40 2 [V.int 0,V.vec .plain none l0,V.int (↑l0.length:Int)] st) fun r1=>Xk r1.fst none (Zd r1.snd.fst fun v2 c3=>Zm v2 fun n4=>Zn c3
 (Xb (List.length st) (V.int n4) r1.snd.snd)) (fun i5=>bc (i5.beq 0) (Zn r1.snd.fst (Xb (List.length st) (V.int 0) r1.snd.snd)) none) fun v6=>none:=by kernel_rfl
theorem zbE(O:Oracle)(n0:Int)(l1:List V)(n2:Int)(st:St):Zz Tryz.prog cfg O 40 2 [.int n0, .vec .plain none l1, .int n2] st=
 bc (decide (n0<n2)) (gd (decide (0≤n0)&&decide (n0<(↑l1.length:Int))) (za1 (ZP l1 n0) (fun g1 a2 b3=>bc (cfg.pure g1) (Za (Zj O g1 (a2++[]++b3)) fun r4
 =>Zm r4 fun n5=>bc (n5 !=0) (some (Ex.ret,[V.int n5],st)) (O.2 40 2 [V.int (IntKind.i64.wrap (n0+1)),V.vec .plain none l1,V.int n2] st)) (Za (O.call g1
 (a2++[]++b3) st) fun r6=>Zx r6.fst (fun v7=>Zm v7 fun n8=>bc (n8 !=0) (some (Ex.ret,[V.int n8],r6.snd)) (O.2 40 2 [V.int (IntKind.i64.wrap (n0+
 1)),V.vec .plain none l1,V.int n2] r6.snd)) fun p9=>none)) fun l10=>Zw st l10 fun x11=>ZX x11 fun f12 k13 vs14 s15 p16=>XZ s15 p16 (Za (O.round l10 f12 k13
 vs14 [] st) fun r17=>none) none fun i18=>none)) (some (Ex.exit 0,[],st)):=by kernel_rfl
theorem zke(O:Oracle)(l0:(List V))(l1:(List V)):Ze Tryz.prog cfg O 44 [.vec .plain (some 4) l0, .vec .plain (some 5) l1] []=
 Za (Zj O 104 [V.vec .plain (some 4) l0,V.vec .plain (some 5) l1]) fun r1=>ZM r1 fun c2=>Zd c2 fun v3 c4=>Zm v3 fun n5=>Zd c4 fun v6 c7=>
 Zm v6 fun n8=>Zn c7 (some (Out.ret (V.int n8),[])):=by kernel_rfl
theorem zi7(O:Oracle)(b0:Bool)(n1:Int):Ze Tryz.prog cfg O 49 [.bool b0, .int n1] []=
 bc b0 (some (Out.ret (V.int 0),[])) (some (Out.ret (V.int n1),[])):=by kernel_rfl
theorem zkf(O:Oracle)(l0:(List V))(l1:(List V))(l2:(List V))(l3:(List V))(n4:Int)(n5:Int)(l6:(List V))(l7:(List V))(n8:Int)(n9:Int)(l10:(List V)):Ze Tryz.prog cfg O 58 [.vec .plain (some 4) l0, .vec .plain (some 5) l1, .vec .plain (some 3) l2, .vec .plain (some 3) l3, .agg [.int n4, .int n5, .vec .plain (some 3) l6], .vec .plain (some 3) l7, .agg [.int n8, .int n9, .vec .plain (some 3) l10]] []=
 Za (Zj O 70 [V.vec .plain (some 3) l2,V.vec .plain (some 3) l3,V.agg [V.int n4,V.int n5,V.vec .plain (some 3) l6],V.vec .plain (some 3) l7]) fun r1=>
 ZM r1 fun c2=>Zd c2 fun v3 c4=>Zc [CT.slice (some 3),CT.int,CT.int,CT.slice (some 3),CT.bool] v3 fun l5 n6 n7 l8 b9=>Zd c4 fun v10 c11=>Zm v10 fun
 n12=>Zn c11 (bc (n12 !=0) (some (Out.ret (V.int n12),[])) (Za (Zj O 30 [V.vec .plain (some 4) l0,V.vec .plain (some 5) l1,V.vec .plain (some 3) l5,V.agg
 [V.int n8,V.int n9,V.vec .plain (some 3) l10],V.agg [V.int n6,V.int n7,V.vec .plain (some 3) l8]]) fun r13=>Zm r13 fun n14=>some (Out.ret (V.int n14),[]))):=by kernel_rfl
theorem zhB(O:Oracle)(n0:Int)(n1:Int)(l2:(List V))(n3:Int)(n4:Int):Ze Tryz.prog cfg O 60 [.agg [.int n0, .int n1, .vec .plain (some 3) l2], .int n3, .int n4] []=
 Za (Zj O 112 [V.agg [V.int n0,V.int n1,V.vec .plain (some 3) l2]]) fun r1=>Yp none r1 fun l2_1=>Za (O.loop 60 3 [V.int 0,V.vec .plain
 none l2_1,V.int n3,V.loc false (some 3) (V.agg [V.int n0,V.int n1,V.vec .plain (some 3) l2]),V.int n4] []) fun r3=>Xk r3.fst none (Zd r3.snd.fst fun v4 c5=>Zm v4
 fun n6=>Zn c5 (some (Out.ret (V.int n6),[]))) (fun i7=>bc (i7.beq 0) (Zd r3.snd.fst fun v8 c9=>Zm v8 fun n10=>Zd c9 fun v11 c12=>Y0 (some 3) v11 fun
 d13 v14=>Zc [CT.int,CT.int,CT.slice (some 3)] (bif d13 then Zs v14 else v14) fun n15 n16 l17=>Zn c12 (Za (Zj O 114 [V.agg [V.int n15,V.int
 n16,V.vec .plain (some 3) l17],V.int n10]) fun r18=>Zl r18 fun b19=>Za (Zj O 49 [V.bool b19,V.int 5]) fun r20=>Zm r20 fun n21=>some (Out.ret
 (V.int n21),[]))) none) fun v22=>none:=by kernel_rfl
theorem za2(O:Oracle)(n0:Int)(l1:(List V))(n2:Int)(n3:Int)(n4:Int)(l5:(List V))(n6:Int):Zz Tryz.prog cfg O 60 3 [.int n0, .vec .plain none l1, .int n2, .loc false (some 3) (.agg [.int n3, .int n4, .vec .plain (some 3) l5]), .int n6] []=
 bc (decide (n0<n6)) (Za (Zj O 113 [V.vec .plain none l1,V.int n0]) fun r1=>Zl r1 fun b2=>bc (!b2) (some (Ex.ret,[V.int 5],[])) (O.2
 60 3 [V.int (IntKind.i64.wrap (n0+1)),V.vec .plain none l1,V.int n2,V.loc false (some 3) (V.agg [V.int n3,V.int n4,V.vec .plain (some 3) l5]),V.int n6] []))
 (some (Ex.exit 0,[V.int n2,V.loc false (some 3) (V.agg [V.int n3,V.int n4,V.vec .plain (some 3) l5])],[])):=by kernel_rfl
theorem zi8(O:Oracle)(l0:(List V))(l1:(List V))(n2:Int)(n3:Int)(l4:(List V))(l5:(List V)):Ze Tryz.prog cfg O 70 [.vec .plain (some 3) l0, .vec .plain (some 3) l1, .agg [.int n2, .int n3, .vec .plain (some 3) l4], .vec .plain (some 3) l5] []=
 Za (Zj O 33 [V.vec .plain (some 3) l1,V.vec .plain (some 3) l5,V.int 0]) fun r1=>ZM r1 fun c2=>Zd c2 fun v3 c4=>Yp (some 3) v3 fun l5_1=>Zd
 c4 fun v6 c7=>Zm v6 fun n8=>Zn c7 (bc (n8 !=0) (some (Out.ret (V.tup [V.agg [V.vec .plain (some 3) [],V.int 0,V.int 0,V.vec .plain (some 3) [],V.bool false],V.int
 n8]),[])) (Za (Zj O 26 [V.agg [V.int n2,V.int n3,V.vec .plain (some 3) l4],V.vec .plain (some 3) l5,V.int (↑l1.length:Int)]) fun r9=>ZM r9 fun c10=>
 Zd c10 fun v11 c12=>Zc [CT.int,CT.int,CT.slice (some 3)] v11 fun n13 n14 l15=>Zd c12 fun v16 c17=>Zm v16 fun n18=>Zn c17 (bc (n18 !=0) (some
 (Out.ret (V.tup [V.agg [V.vec .plain (some 3) [],V.int 0,V.int 0,V.vec .plain (some 3) [],V.bool false],V.int n18]),[])) (Za (Zj O 77
 [V.vec .plain none [V.vec .plain (some 3) l0,V.vec .plain (some 3) l5_1]]) fun r19=>Yp (some 3) r19 fun l20=>gd (below 0 (V.tup [V.agg [V.vec .plain (some 3) l20,V.int
 n13,V.int n14,V.vec .plain (some 3) l15,V.bool false],V.int 0])&&true) (some (Out.ret (V.tup [V.agg [V.vec .plain (some 3) l20,V.int n13,V.int n14,V.vec .plain (some 3)
 l15,V.bool false],V.int 0]),[])))))):=by kernel_rfl
end Go.Proofs.CL
namespace Go.Proofs.CL
open Go Go.AM
set_option maxRecDepth 20000
theorem zi9(O:Oracle)(l0:(List V))(l1:(List V))(n2:Int)(l3:(List V))(l4:(List V))(n5:Int)(n6:Int)(l7:(List V))(l8:(List V))(n9:Int)(n10:Int)(l11:(List V)):Ze Tryz.prog cfg O 15 [.vec .plain (some 4) l0, .vec .plain (some 13) l1, .int n2, .agg [.vec .plain (some 5) l3, .vec .plain (some 3) l4, .int n5, .int n6, .vec .plain (some 3) l7, .vec .plain (some 6) l8, .int n9, .int n10, .vec .plain (some 3) l11]] []=
 bc (decide (n2<0)) (some (Out.ret (V.int 2),[])) (bc (decide (n2≥(↑l1.length:Int))) (some (Out.ret (V.int 2),[])) (gd (decide (0≤n2)&&decide (n2<(↑l1.length:Int)))
 (Zc [CT.str,CT.slice (some 3),CT.slice (some 5),CT.slice (some 3),CT.int,CT.int,CT.slice (some 3),CT.slice (some 3),CT.int,CT.int,CT.slice (some 3),CT.bool,
 CT.slice (some 9)] (ZP l1 n2) fun s1 l2 l3_1 l4_1 n5_1 n6_1 l7_1 l8_1 n9_1 n10_1 l11_1 b12 l13=>gd (true&&decide (0≤(↑l3.length:Int))&&decide ((↑l3.length:Int)≤
 (↑l3.length:Int))) (gd (decide ((↑l3.length:Int)=(↑l3.length:Int))&&(some (V.int (↑l3.length:Int))).isSome) (Za (O.call 40 [V.vec .plain none [V.fn
 54 [] [V.cptr (some 9) (V.agg [V.vec .plain (some 5) l3,V.vec .plain (some 3) l4,V.int n5,V.int n6,V.vec .plain (some 3) l7,V.vec .plain (some 6) l8,V.int n9,
 V.int n10,V.vec .plain (some 3) l11])],V.fn 55 [] [V.cptr none (V.vec .plain (some 4) l0),V.cptr (some 9) (V.agg [V.vec .plain (some 5) l3,V.vec .plain (some 3)
 l4,V.int n5,V.int n6,V.vec .plain (some 3) l7,V.vec .plain (some 6) l8,V.int n9,V.int n10,V.vec .plain (some 3) l11])],V.fn 56 [] [V.cptr none (V.vec .plain
 (some 4) l0),V.cptr (some 9) (V.agg [V.vec .plain (some 5) l3,V.vec .plain (some 3) l4,V.int n5,V.int n6,V.vec .plain (some 3) l7,V.vec .plain (some 6) l8,V.int n9,V.int
 n10,V.vec .plain (some 3) l11]),V.cptr (some 13) (V.agg [V.str s1,V.vec .plain (some 3) l2,V.vec .plain (some 5) l3_1,V.vec .plain (some 3) l4_1,V.int n5_1,V.int n6_1,
 V.vec .plain (some 3) l7_1,V.vec .plain (some 3) l8_1,V.int n9_1,V.int n10_1,V.vec .plain (some 3) l11_1,V.bool b12,V.vec .plain (some 9) l13])],V.fn 57 []
 [V.cptr none (V.vec .plain (some 4) l0),V.cptr (some 9) (V.agg [V.vec .plain (some 5) l3,V.vec .plain (some 3) l4,V.int n5,V.int n6,V.vec .plain (some 3) l7,V.vec .plain
 (some 6) l8,V.int n9,V.int n10,V.vec .plain (some 3) l11]),V.cptr (some 13) (V.agg [V.str s1,V.vec .plain (some 3) l2,V.vec .plain (some 5) l3_1,V.vec .plain (some 3) l4_1,
 V.int n5_1,V.int n6_1,V.vec .plain (some 3) l7_1,V.vec .plain (some 3) l8_1,V.int n9_1,V.int n10_1,V.vec .plain (some 3) l11_1,V.bool b12,V.vec .plain (some 9) l13])],
 V.fn 59 [] [V.cptr (some 9) (V.agg [V.vec .plain (some 5) l3,V.vec .plain (some 3) l4,V.int n5,V.int n6,V.vec .plain (some 3) l7,V.vec .plain (some 6) l8,
 V.int n9,V.int n10,V.vec .plain (some 3) l11]),V.cptr (some 13) (V.agg [V.str s1,V.vec .plain (some 3) l2,V.vec .plain (some 5) l3_1,V.vec .plain (some 3) l4_1,V.int n5_1,
 V.int n6_1,V.vec .plain (some 3) l7_1,V.vec .plain (some 3) l8_1,V.int n9_1,V.int n10_1,V.vec .plain (some 3) l11_1,V.bool b12,V.vec .plain (some 9) l13])],V.fn
 53 [] [V.cptr (some 9) (V.agg [V.vec .plain (some 5) l3,V.vec .plain (some 3) l4,V.int n5,V.int n6,V.vec .plain (some 3) l7,V.vec .plain (some 6) l8,V.int n9,
 V.int n10,V.vec .plain (some 3) l11]),V.cptr none (V.vec .plain (some 13) l1),V.cptr none (V.vec .plain (some 4) l0),V.ref 0 0,V.cptr (some 13) (V.agg [V.str s1,V.vec .plain
 (some 3) l2,V.vec .plain (some 5) l3_1,V.vec .plain (some 3) l4_1,V.int n5_1,V.int n6_1,V.vec .plain (some 3) l7_1,V.vec .plain (some 3) l8_1,V.int n9_1,V.int n10_1,V.vec
 .plain (some 3) l11_1,V.bool b12,V.vec .plain (some 9) l13])],V.fn 61 [] [V.cptr none (V.vec .plain (some 4) l0),V.ref 0 0,V.cptr (some 13) (V.agg [V.str s1,
 V.vec .plain (some 3) l2,V.vec .plain (some 5) l3_1,V.vec .plain (some 3) l4_1,V.int n5_1,V.int n6_1,V.vec .plain (some 3) l7_1,V.vec .plain (some 3) l8_1,V.int n9_1,V.int
 n10_1,V.vec .plain (some 3) l11_1,V.bool b12,V.vec .plain (some 9) l13]),V.cptr (some 9) (V.agg [V.vec .plain (some 5) l3,V.vec .plain (some 3) l4,V.int n5,V.int n6,V.vec
 .plain (some 3) l7,V.vec .plain (some 6) l8,V.int n9,V.int n10,V.vec .plain (some 3) l11])]]] [Res.box [V.vec Mode.full (some 5) (List.drop 0 (List.take (↑l3.length:
 Int).toNat l3))]]) fun r14=>Zx r14.fst (fun v15=>Zm v15 fun n16=>some (Out.ret (V.int n16),[])) fun p17=>none))))):=by kernel_rfl
theorem zgx(O:Oracle)(m1:Int)(m2 m3:List V)(m4 m5:Int)(m6:List V):Ze Tryz.prog cfg O 66 [.cptr (some 6) (.agg [.int m1, .vec .plain (some 3) m2, .vec .plain (some 3) m3, .int m4, .int m5, .vec .plain (some 3) m6])] []=
 Za (Zj O 49 [V.bool (decide ((↑m2.length:Int)≤40)),V.int 4]) fun r1=>Zm r1 fun n2=>some (Out.ret (V.int n2),[]):=by kernel_rfl
theorem zgy(O:Oracle)(s1:ByteArray)(l2 l3 l4:List V)(n5 n6:Int)(l7 l8:List V)(n9 n10:Int)(l11:List V)(b12:Bool)(l13:List V)(m1:Int)(m2 m3:List V)(m4 m5:Int)(m6:List V)(s1g:ByteArray)(l2g l3g l4g:List V)(n5g n6g:Int)(l7g l8g:List V)(n9g n10g:Int)(l11g:List V)(b12g:Bool)(l13g:List V):Ze Tryz.prog cfg O 67 [.cptr (some 13) (.agg [.str s1, .vec .plain (some 3) l2, .vec .plain (some 5) l3, .vec .plain (some 3) l4, .int n5, .int n6, .vec .plain (some 3) l7, .vec .plain (some 3) l8, .int n9, .int n10, .vec .plain (some 3) l11, .bool b12, .vec .plain (some 9) l13]), .cptr (some 6) (.agg [.int m1, .vec .plain (some 3) m2, .vec .plain (some 3) m3, .int m4, .int m5, .vec .plain (some 3) m6]), .cptr (some 13) (.agg [.str s1g, .vec .plain (some 3) l2g, .vec .plain (some 5) l3g, .vec .plain (some 3) l4g, .int n5g, .int n6g, .vec .plain (some 3) l7g, .vec .plain (some 3) l8g, .int n9g, .int n10g, .vec .plain (some 3) l11g, .bool b12g, .vec .plain (some 9) l13g])] []=
 Za (Zj O 23 [V.vec .plain (some 3) l2,V.vec .plain (some 3) m2]) fun r1=>Zl r1 fun b2=>bc b2 (Za (Zj O 23 [V.vec .plain (some 3)
 l2,V.vec .plain (some 3) l2g]) fun r3=>Zl r3 fun b4=>Za (Zj O 49 [V.bool b4,V.int 9]) fun r5=>Zm r5 fun n6=>some (Out.ret (V.int n6),[]))
 (Za (Zj O 49 [V.bool false,V.int 9]) fun r7=>Zm r7 fun n8=>some (Out.ret (V.int n8),[])):=by kernel_rfl
theorem zgz(O:Oracle)(sg ds:List V)(m1:Int)(m2 m3:List V)(m4 m5:Int)(m6:List V)(s1:ByteArray)(l2 l3 l4:List V)(n5 n6:Int)(l7 l8:List V)(n9 n10:Int)(l11:List V)(b12:Bool)(l13:List V):Ze Tryz.prog cfg O 68 [.cptr none (.vec .plain (some 4) sg), .cptr none (.vec .plain (some 5) ds), .cptr (some 6) (.agg [.int m1, .vec .plain (some 3) m2, .vec .plain (some 3) m3, .int m4, .int m5, .vec .plain (some 3) m6]), .cptr (some 13) (.agg [.str s1, .vec .plain (some 3) l2, .vec .plain (some 5) l3, .vec .plain (some 3) l4, .int n5, .int n6, .vec .plain (some 3) l7, .vec .plain (some 3) l8, .int n9, .int n10, .vec .plain (some 3) l11, .bool b12, .vec .plain (some 9) l13])] []=
 Za (Zj O 25 [V.vec .plain (some 4) sg,V.vec .plain (some 5) ds,V.vec .plain (some 3) m2,V.vec .plain (some 5) l3,V.vec .plain (some 3) m3]) fun r1=>Zm r1
 fun n2=>some (Out.ret (V.int n2),[]):=by kernel_rfl
theorem zg0(O:Oracle)(sg ds:List V)(m1:Int)(m2 m3:List V)(m4 m5:Int)(m6:List V)(s1:ByteArray)(l2 l3 l4:List V)(n5 n6:Int)(l7 l8:List V)(n9 n10:Int)(l11:List V)(b12:Bool)(l13:List V):Ze Tryz.prog cfg O 69 [.cptr none (.vec .plain (some 4) sg), .cptr none (.vec .plain (some 5) ds), .cptr (some 6) (.agg [.int m1, .vec .plain (some 3) m2, .vec .plain (some 3) m3, .int m4, .int m5, .vec .plain (some 3) m6]), .cptr (some 13) (.agg [.str s1, .vec .plain (some 3) l2, .vec .plain (some 5) l3, .vec .plain (some 3) l4, .int n5, .int n6, .vec .plain (some 3) l7, .vec .plain (some 3) l8, .int n9, .int n10, .vec .plain (some 3) l11, .bool b12, .vec .plain (some 9) l13])] []=
 Za (Zj O 58 [V.vec .plain (some 4) sg,V.vec .plain (some 5) ds,V.vec .plain (some 3) m2,V.vec .plain (some 3) l4,V.agg [V.int n5,V.int n6,V.vec .plain
 (some 3) l7],V.vec .plain (some 3) m3,V.agg [V.int m4,V.int m5,V.vec .plain (some 3) m6]]) fun r1=>Zm r1 fun n2=>some (Out.ret (V.int n2),[]):=by kernel_rfl
end Go.Proofs.CL
namespace Go.Ama
open Go Go.AM
theorem zio{n m:Int}{t:T}(hn:n≤1000)(h:Ql n m t=true):Lo t:=by
 unfold Ql at h
 simp only[Bool.and_eq_true,decide_eq_true_eq]at h
 exact⟨by omega,fun hm=>ztj (by omega) t (zrD hm) h.1⟩
theorem zf4{n m:Int}{l:List T}(hn:n≤1000)(h:X5 n m l=true):Los 60 l:=by
 unfold X5 at h
 simp only[Bool.and_eq_true,decide_eq_true_eq,List.all_eq_true]at h
 exact⟨h.1,fun x hx=>zio hn (h.2 x hx)⟩
theorem zt1{l:List M}(h:zkO l=true):l.length≤30∧ ∀m∈l,LoM m:=by
 unfold zkO at h
 simp only[Bool.and_eq_true,decide_eq_true_eq,List.all_eq_true]at h
 exact⟨h.1,fun m hm=>⟨zf4 (by omega) (h.2 m hm).1,zio (by omega) (h.2 m hm).2⟩⟩
theorem zvp{sig:List D}(h:zqf sig=true):sig.length≤1000∧ ∀d∈sig,Hd d.t:=by
 unfold zqf at h
 simp only[Bool.and_eq_true,decide_eq_true_eq,List.all_eq_true]at h
 exact⟨by omega,fun d hd=>(zio (by omega) (h.2 d hd)).hd⟩
theorem zt2{c:Cal}(h:Ju c=true):LoCal c:=by
 unfold Ju at h
 simp only[Bool.and_eq_true]at h
 exact⟨zf4 (by omega) h.1,zf4 (by omega) h.2.1,zio (by omega) h.2.2⟩
theorem zqN{c:Cl}(h:zaJ c=true):LoCl c:=by
 unfold zaJ at h
 simp only[Bool.and_eq_true,decide_eq_true_eq,List.all_eq_true]at h
 obtain⟨h1,h2,h3,h4,h5,h6⟩:=h
 obtain⟨q1,q2⟩:=zt1 h1
 exact⟨by omega,q2,zf4 (by omega) h2,zio (by omega) h3,zio (by omega) h4,by omega,fun x hx=>zt2 (h6 x hx)⟩
theorem zqO{f:Fun1}(h:zaK f=true):LoFn f:=by
 unfold zaK at h
 simp only[Bool.and_eq_true,decide_eq_true_eq,List.all_eq_true]at h
 obtain⟨h1,h2,h3,h4,h5,h6,h7,h8⟩:=h
 obtain⟨q1,q2⟩:=zt1 h1
 exact⟨by omega,q2,zf4 (by omega) h2,zf4 (by omega) h3,zio (by omega) h5,zf4 (by omega) h4,zio (by omega) h6,by omega,fun x hx=>zqN (h8 x hx)⟩
def zec(l:List Fun1):Bool:=decide (l.length≤20)&&l.all zaK
theorem zt3{l:List Fun1}(h:zec l=true):l.length≤20∧ ∀f∈l,LoFn f:=by
 unfold zec at h
 simp only[Bool.and_eq_true,decide_eq_true_eq,List.all_eq_true]at h
 exact⟨h.1,fun f hf=>zqO (h.2 f hf)⟩
def YM(f:Fun1):Fun1:={f with total:= !f.total,clauses:=[]}
theorem zeZ(sig:List D)(funs:List Fun1)(f:Fun1): ∀(l:List Cal) (over:List M),YC sig (funs.map YM) (YM f) l over=YC sig funs f l over
 |[],over=>rfl
 |x::l,over=>by
  unfold YC
  by_cases h:0≤x.f∧x.f<funs.length
  ·have h':0≤x.f∧x.f<(funs.map YM).length:=by simpa using h
   rw[dif_pos h,dif_pos h']
   have e:YL sig over (YM f) ((funs.map YM)[x.f.toNat]'(by omega)) x=YL sig over f (funs[x.f.toNat]'(by omega)) x:=by
    rw[List.getElem_map];rfl
   simp only[e,zeZ sig funs f l]
  ·have h': ¬(0≤x.f∧x.f<(funs.map YM).length):=by simpa using h
   rw[dif_neg h,dif_neg h']
theorem zed(sig:List D)(funs:List Fun1)(no:Int)(c:Cl):zak sig (funs.map YM) no c=zak sig funs no c:=by
 unfold zak
 by_cases h:0≤no∧no<funs.length
 ·have h':0≤no∧no<(funs.map YM).length:=by simpa using h
  rw[dif_pos h,dif_pos h']
  have e:(funs.map YM)[no.toNat]'(by omega)=YM (funs[no.toNat]'(by omega)):=by rw[List.getElem_map]
  simp only[e,zeZ]
  rfl
 ·have h': ¬(0≤no∧no<(funs.map YM).length):=by simpa using h
  rw[dif_neg h,dif_neg h']
theorem zg1: ∀{l:List Int},QM l=0↔ ∀e∈l,e=0
 |[]=>by simp[QM]
 |e::l=>by
  unfold QM
  by_cases h:e≠0
  ·rw[if_pos h]
   exact⟨fun q=>absurd q h,fun q=>absurd (q e (by simp)) h⟩
  ·have h0:e=0:=by simpa using h
   rw[if_neg h,zg1]
   simp[h0]
theorem ziq{sig:List D}{funs:List Fun1}{f:Fun1}(more:List Fun1): ∀(l:List Cal) (over:List M),(YC sig funs f l over).2=0→YC sig (funs++more) f l over=YC sig funs f l over
 |[],over,_=>rfl
 |x::l,over,hz=>by
  unfold YC at hz⊢
  by_cases h:0≤x.f∧x.f<funs.length
  ·have h':0≤x.f∧x.f<(funs++more).length:=⟨h.1,by simp;omega⟩
   rw[dif_pos h]at hz⊢
   rw[dif_pos h']
   have e:(funs++more)[x.f.toNat]'(by omega)=funs[x.f.toNat]'(by omega):=List.getElem_append_left (by omega)
   simp only[e]
   dsimp only at hz
   by_cases h1:(YL sig over f (funs[x.f.toNat]'(by omega)) x).2≠0
   ·rw[if_pos h1,if_pos h1]
   ·rw[if_neg h1]at hz
    rw[if_neg h1,if_neg h1]
    exact ziq more l _ hz
  ·rw[dif_neg h]at hz
   cases hz
theorem zmS{sig:List D}{funs:List Fun1}{no:Int}{c:Cl}(more:List Fun1)(hz:zak sig funs no c=0):zak sig (funs++more) no c=0:=by
 unfold zak at hz⊢
 by_cases h:0≤no∧no<funs.length
 ·have h':0≤no∧no<(funs++more).length:=⟨h.1,by simp;omega⟩
  rw[dif_pos h]at hz
  rw[dif_pos h']
  have e:(funs++more)[no.toNat]'(by omega)=funs[no.toNat]'(by omega):=List.getElem_append_left (by omega)
  simp only[e]
  dsimp only at hz
  have hc:=zg1.1 hz (YC sig funs (funs[no.toNat]'(by omega)) c.calls c.metas).2 (by simp)
  rw[ziq more _ _ hc]
  exact hz
 ·rw[dif_neg h]at hz
  cases hz
end Go.Ama
namespace Go.Proofs.CL
open Go Go.AM Go.Ama
set_option maxRecDepth 100000
inductive Firsts:List V→St→Int→St→Prop
 |nil (st:St):Firsts [] st 0 st
 |bad {g:Nat} {b l:List V} {st st':St} {e:Int} (hp:cfg.pure g=false) (h:W.call g b st=some (.ret (.int e),st')) (he:e≠0):Firsts (.fn g [] b::l) st e st'
 |ok {g:Nat} {b l:List V} {st st' st'':St} {e:Int} (hp:cfg.pure g=false) (h:W.call g b st=some (.ret (.int 0),st')) (t:Firsts l st' e st''):Firsts (.fn g [] b::l) st e st''
theorem Firsts.one{g:Nat}{b l:List V}{st:St}{e:Int}{es:List Int}(hp:cfg.pure g=false)(h:W.call g b st=some (.ret (.int e),st))(t:e=0→Firsts l st (QM es) st):Firsts (.fn g [] b::l) st (QM (e::es)) st:=by
 unfold QM
 by_cases he:e=0
 ·subst he;exact .ok hp h (t rfl)
 ·rw[if_pos he];exact .bad hp h he
theorem zoT(l0:List V)(hl:l0.length≤1000): ∀(n i:Nat) (st:St) (e:Int) (st':St),l0.length-i=n→i≤l0.length→Firsts (l0.drop i) st e st'→
  W.loop 40 2 [.int (i:Int), .vec .plain none l0, .int l0.length] st=some (if e=0 then(.exit 0,[],st')else(.ret,[.int e],st')):=by
 intro n
 induction n with
 |zero=>
  intro i st e st' hn hi h
  have:i=l0.length:=by omega
  subst this
  rw[List.drop_length]at h
  cases h
  rw[L,zbE]
  simp
 |succ n ih=>
  intro i st e st' hn hi h
  have hlt:i<l0.length:=by omega
  have hlt':(i:Int)<l0.length:=by omega
  have hw:IntKind.i64.wrap ((i:Int)+1)=((i+1:Nat):Int):=by rw[Zu ⟨by omega,by omega⟩];omega
  have hg:ZP l0 (i:Int)=l0[i]:=by simp[ZP,List.getD_eq_getElem?_getD,hlt]
  rw[List.drop_eq_getElem_cons hlt]at h
  rw[L,zbE,hw,hg]
  generalize l0[i]=x at h
  cases h with
  |bad hp hc he=>
   simp only[hlt',Int.natCast_nonneg,decide_true,Z4,Bool.and_self,Z6,za1,hp,Z2,List.nil_append,hc,Zg,ZV,ZB]
   simp[he]
  |ok hp hc t=>
   have:=ih (i+1) _ _ _ (by omega) (by omega) t
   simp only[hlt',Int.natCast_nonneg,decide_true,Z4,Bool.and_self,Z6,za1,hp,Z2,List.nil_append,hc,Zg,ZV,ZB,bne_self_eq_false]
   exact this
theorem zkg{l:List V}{st st':St}{e:Int}(hl:l.length≤1000)(h:Firsts l st e st'):W.call 40 [.vec .plain none l] st=Xb st.length (.int e) st':=by
 have:=zoT l hl _ 0 st e st' rfl (Nat.zero_le _) h
 simp only[Int.natCast_zero]at this
 rw[C,zkd,this]
 by_cases he:e=0
 ·subst he;simp
 ·simp[he]
theorem zg2(b:Bool)(e:Int):Zj W 49 [.bool b, .int e]=some (.int (zbB b e)):=by
 have h:Ev 49 [.bool b, .int e] (.int (zbB b e)):=by
  unfold Ev zbB
  rw[C,zi7]
  cases b<;>simp
 exact h.p
theorem zt4:[41,43,45,47,48,105,107,108,66,67,68,69,53,54,55,56,57,59,61].all (fun g=> !cfg.pure g)=true:=by kernel_rfl
theorem zkh{g:Nat}(h:g∈[41,43,45,47,48,105,107,108,66,67,68,69,53,54,55,56,57,59,61]):cfg.pure g=false:=by
 simpa using List.all_eq_true.1 zt4 g h
structure SigHd(sig:List D):Prop where
 h:sig.length≤1000∧ ∀d∈sig,Hd d.t
theorem zux(sig:List D)(δ:List M)(hs:sig.length≤1000∧ ∀d∈sig,Hd d.t)(hm:δ.length≤1000∧ ∀m∈δ,HdM m):Zj W 44 [.vec .plain (some 4) (Ye sig), .vec .plain (some 5) (ZA δ)]=some (.int (zfy sig δ).2):=by
 have h1:=(zqh sig δ (ztv hs hm (Hds.nil _) (Hds.nil _))).p (by simp[Zk,below,Zq])
 have h:Ev 44 [.vec .plain (some 4) (Ye sig), .vec .plain (some 5) (ZA δ)] (.int (zfy sig δ).2):=by
  unfold Ev
  rw[C,zke,h1]
  simp
 exact h.p (by simp[Zk,below,Zq])
end Go.Proofs.CL
namespace Go.Proofs.CL
open Go Go.AM Go.Ama
set_option maxRecDepth 100000
theorem zir{ext ctx θ:List T}{a:T}(he:Hds 60 ext)(hc:Los 60 ctx)(ha:Lo a)(hθ:Los 60 θ):Ev 70 [.vec .plain (some 3) (Zf ext), .vec .plain (some 3) (Zf ctx),enc a, .vec .plain (some 3) (Zf θ)] (.tup [JU (XH ext ctx a θ).1, .int (XH ext ctx a θ).2]):=by
 have h1:=(zoH (β:=1099511627776) (by omega) ze2 (n:=0) (l:=ctx) (θ:=θ) (by have:=hc.hds.szs;omega) (by omega) (by have:=hθ.hds.szs;omega) (fun x hx=>(hθ.all x hx).ok) (fun x hx=>(hc.all x hx).ok)).p
 have h2:=(ze0 (β:=1099511627776) (by omega) ze2 (t:=a) (θ:=θ) (n:=(ctx.length:Int)) (by have:=ha.size;omega) (by have:=hθ.hds.szs;omega) (fun x hx=>(hθ.all x hx).ok) ha.ok).p
 simp only[Int.natCast_zero]at h1
 unfold Ev XH
 dsimp only
 rw[C,Zb a,zi8,←Zb a,h1,Zi]
 simp only[Zg,Xx,Yk,YZ,ZB,Yv,h2,zhv]
 by_cases c1:(Ys θ ctx 0).2=0
 ·by_cases c2:(Xv a θ ctx.length).2=0
  ·have hch:=zf0 hc hθ.all c1
   have hcat:=(zb9 ext (Ys θ ctx 0).1 (by have:=he.len;have:=hch.len;omega)).p (h2:=by simp[below,Zk,Xj])
   simp only[c1,c2,bne_self_eq_false,Z2,hcat,Zg,YZ,ne_eq,not_true_eq_false,if_false]
   simp[below,Zk,Xj,Xn]
  ·simp[c1,c2,Xn]
 ·simp[c1,Xn]
theorem zf5{sig:List D}{over:List M}{ext ctx θ:List T}{a t:T}(hs:sig.length≤1000∧ ∀d∈sig,Hd d.t)(hm:over.length≤1000∧ ∀m∈over,HdM m)(he:Hds 60 ext)(hc:Los 60 ctx)(ha:Lo a)(hθ:Los 60 θ)(ht:Lo t):
  Ev 58 [.vec .plain (some 4) (Ye sig), .vec .plain (some 5) (ZA over), .vec .plain (some 3) (Zf ext), .vec .plain (some 3) (Zf ctx),enc a, .vec .plain (some 3) (Zf θ),enc t] (.int (zcW sig over ext ctx a θ t)):=by
 have h1:=(zir he hc ha hθ).p (h2:=by simp[below,Zk])
 unfold Ev zcW
 dsimp only
 rw[C,Zb a,Zb t,zkf,←Zb a,←Zb t,h1]
 simp only[Zg,Xx,Yk,onM,ZB,Yv,←Zb]
 by_cases c:(XH ext ctx a θ).2=0
 ·have hf:=zjS he hc ha hθ.all c
  have h2:=(zdQ sig over (XH ext ctx a θ).1.ctx t (XH ext ctx a θ).1.t (ztv hs hm (hf.ctx.mono (by omega)) ⟨by simp,fun x hx=>by
    rcases List.mem_cons.1 hx with rfl|hx
    ·exact ht.hd
    ·rw[List.mem_singleton]at hx;rw[hx];exact hf.t⟩)).p (by simp[Zk,below,Zq])
  simp[c,h2]
 ·simp[c]
theorem zoU{sig:List D}{over:List M}{g f:Fun1}{c:Cal}(hs:sig.length≤1000∧ ∀d∈sig,Hd d.t)(hm:over.length≤1000∧ ∀m∈over,HdM m)(hg:LoFn g)(hf:LoFn f)(hc:LoCal c):
  Ev 19 [.vec .plain (some 4) (Ye sig), .vec .plain (some 5) (ZA over),Xd g,Xd f,X2 c] (.tup [JU (YL sig over g f c).1, .int (YL sig over g f c).2]):=by
 have h2:=(zeX f.schema c.ext (by have:=hf.schema.hds.szs;omega) (by have:=hc.ext.hds.szs;omega)).p
 have h2':=(zeX f.schema g.schema (by have:=hf.schema.hds.szs;omega) (by have:=hg.schema.hds.szs;omega)).p
 have h3:=(zoO sig over c.ext f.delta c.theta hs hm hc.ext.hds hf.delta hc.theta).p (by simp[Zk,below,Zq])
 have h4:=(zf5 hs hm hc.ext.hds hf.psi hf.a hc.theta hc.arg).p (by simp[Zk,below,Zq])
 have h5:=(zir hc.ext.hds hf.phi hf.b hc.theta).p (h2:=by simp[below,Zk])
 have hF:Firsts [.fn 66 [] [.cptr (some 6) (X2 c)], .fn 67 [] [.cptr (some 13) (Xd f), .cptr (some 6) (X2 c), .cptr (some 13) (Xd g)], .fn 68 [] [.cptr none (.vec .plain (some 4) (Ye sig)), .cptr none (.vec .plain (some 5) (ZA over)), .cptr (some 6) (X2 c), .cptr (some 13) (Xd f)], .fn 69 [] [.cptr none (.vec .plain (some 4) (Ye sig)), .cptr none (.vec .plain (some 5) (ZA over)), .cptr (some 6) (X2 c), .cptr (some 13) (Xd f)]] [] (ze1 sig over g f c) []:=by
  unfold ze1
  refine .one (zkh (by decide)) ?_ fun _=> .one (zkh (by decide)) ?_ fun _=> .one (zkh (by decide)) ?_ fun _=> .one (zkh (by decide)) ?_ fun _=> .nil _
  ·rw[C,YD c,zgx,Zi,zg2]
   simp only[Zg,ZB]
   congr 5
   simp
   omega
  ·rw[C,YD c,Zv f,Zv g,zgy,h2,h2']
   cases zcv f.schema c.ext<;>simp[zg2]
  ·rw[C,YD c,Zv f,zgz,h3];simp
  ·rw[C,YD c,Zv f,zg0,←Zb,←Zb,h4];simp
 unfold Ev YL
 rw[C,YD c,Zv f,Zv g,zi6,←YD c,←Zv f,←Zv g,zkg (by simp) hF]
 simp only[Z3 rfl,Zg,ZV,ZB,←Zb,h5,Xx,Yk,onM,Yv]
 by_cases h:ze1 sig over g f c=0
 ·simp[h,←Xn,below,Zk,Zt]
 ·simp[h,Xn]
theorem zkU{B:Int}(hB:B≤9223372036854775807)(p:T)(n many:Nat)(hs:p.size≤1048576)(hp:okB B p)(hn:n≤1048576)(hm:many≤1048576):Ev 60 [enc p, .int (n:Int), .int (many:Int)] (.int (zgt p n many)):=by
 have hM:=zik hB p hs hp
 have hlen:(Xs p).length≤1099511627776:=by
  have hS:=zf1 (B:=B) p 0 [] 0 hp (zjV B)
  have h1:(Xs p).length=(Jj zgs p 0 []).length:=(Q8 _).length_eq
  have:=hS.len
  omega
 have hM:=hM.p (h2:=by have:=zqg 0 (Xs p);simpa[below,zaL]using this)
 have hP:=(zkS p n hs (by omega) (by omega)).p
 have hL: ∀(m i:Nat),many-i=m→i≤many→W.loop 60 3 [.int (i:Int), .vec .plain none (zaL (Xs p)), .int (n:Int), .loc false (some 3) (enc p), .int (many:Int)] []=
   if((List.range many).drop i).all (fun i=>decide (((i:Nat):Int)∈Xs p))=true then some (.exit 0,[.int (n:Int), .loc false (some 3) (enc p)],[])else some (.ret,[.int 5],[]):=by
  intro m
  induction m with
  |zero=>
   intro i hm' hi
   have:i=many:=by omega
   subst this
   rw[L,Zb p,za2,List.drop_of_length_le (by simp)]
   simp
  |succ m ih=>
   intro i hm' hi
   have hlt:i<many:=by omega
   have hlt':(i:Int)<(many:Int):=by omega
   have hw:IntKind.i64.wrap ((i:Int)+1)=((i+1:Nat):Int):=by rw[Zu ⟨by omega,by omega⟩];omega
   have hd:(List.range many).drop i=i::(List.range many).drop (i+1):=by
    rw[List.drop_eq_getElem_cons (by simpa using hlt)];simp
   have hc:=(zbD (Xs p) (i:Int) hlen).p
   rw[hd,L,Zb p,za2,hw,hc,←Zb p]
   have:=ih (i+1) (by omega) (by omega)
   by_cases hmem:(i:Int)∈Xs p
   ·simp only[hlt',decide_true,Z4,Zg,ZH,hmem,Bool.not_true,Z2,List.all_cons,Bool.true_and]
    exact this
   ·simp[hlt',hmem]
 have h0:=hL _ 0 rfl (Nat.zero_le _)
 simp only[Int.natCast_zero,List.drop_zero]at h0
 have hM':Zj W 112 [enc p]=some (.vec .plain none (zaL (Xs p))):=hM
 unfold Ev zgt
 rw[C,Zb p,zhB,←Zb p,hM']
 simp only[Zg,YZ]
 rw[h0]
 by_cases h:(List.range many).all (fun i=>decide (((i:Nat):Int)∈Xs p))=true
 ·rw[if_pos h,if_pos h]
  simp only[Zg,Js,show Nat.beq 0 0=true from rfl,Z4,Yk,ZB,zlx,cond_false,Yv,←Zb,zhv,hP,ZH,zg2]
 ·rw[if_neg h,if_neg h]
  simp
end Go.Proofs.CL
namespace Go.Proofs.CL
open Go Go.AM
set_option maxRecDepth 20000
theorem zg3(O:Oracle)(ov:List V)(sg fs:List V)(c1 c2:List V)(c3 c4:Int)(c5 c6:List V)(c7 c8:Int)(c9:List V)(s1:ByteArray)(l2 l3 l4:List V)(n5 n6:Int)(l7 l8:List V)(n9 n10:Int)(l11:List V)(b12:Bool)(l13:List V):Ze Tryz.prog cfg O 53 [.cptr (some 9) (.agg [.vec .plain (some 5) c1, .vec .plain (some 3) c2, .int c3, .int c4, .vec .plain (some 3) c5, .vec .plain (some 6) c6, .int c7, .int c8, .vec .plain (some 3) c9]), .cptr none (.vec .plain (some 13) fs), .cptr none (.vec .plain (some 4) sg), .ref 0 0, .cptr (some 13) (.agg [.str s1, .vec .plain (some 3) l2, .vec .plain (some 5) l3, .vec .plain (some 3) l4, .int n5, .int n6, .vec .plain (some 3) l7, .vec .plain (some 3) l8, .int n9, .int n10, .vec .plain (some 3) l11, .bool b12, .vec .plain (some 9) l13])] [.box [.vec .full (some 5) ov]]=
 Za (O.loop 53 2 [V.int 0,V.ref 0 0,V.cptr none (V.vec .plain (some 13) fs),V.cptr (some 13) (V.agg [V.str s1,V.vec .plain (some 3) l2,V.vec .plain (some 5)
 l3,V.vec .plain (some 3) l4,V.int n5,V.int n6,V.vec .plain (some 3) l7,V.vec .plain (some 3) l8,V.int n9,V.int n10,V.vec .plain (some 3) l11,V.bool b12,V.vec .plain
 (some 9) l13]),V.cptr none (V.vec .plain (some 4) sg),V.vec .plain (some 6) c6,V.int (↑c6.length:Int)] [Res.box [V.vec Mode.full (some 5) ov]]) fun r1=>Xk r1.fst none
 (Zd r1.snd.fst fun v2 c3=>Zm v2 fun n4=>Zn c3 (Xb [Res.box [V.vec Mode.full (some 5) ov]].length (V.int n4) r1.snd.snd)) (fun i5=>bc (i5.beq 0) (Zn r1.snd.fst
 (Xb [Res.box [V.vec Mode.full (some 5) ov]].length (V.int 0) r1.snd.snd)) none) fun v6=>none:=by kernel_rfl
theorem Xa(O:Oracle)(i n:Int)(sg fs cs ov:List V)(s1:ByteArray)(l2 l3 l4:List V)(n5 n6:Int)(l7 l8:List V)(n9 n10:Int)(l11:List V)(b12:Bool)(l13:List V):Zz Tryz.prog cfg O 53 2 [.int i, .ref 0 0, .cptr none (.vec .plain (some 13) fs), .cptr (some 13) (.agg [.str s1, .vec .plain (some 3) l2, .vec .plain (some 5) l3, .vec .plain (some 3) l4, .int n5, .int n6, .vec .plain (some 3) l7, .vec .plain (some 3) l8, .int n9, .int n10, .vec .plain (some 3) l11, .bool b12, .vec .plain (some 9) l13]), .cptr none (.vec .plain (some 4) sg), .vec .plain (some 6) cs, .int n] [.box [.vec .full (some 5) ov]]=
 bc (decide (i<n)) (gd (decide (0≤i)&&decide (i<(↑cs.length:Int))) (Zc [CT.int,CT.slice (some 3),CT.slice (some 3),CT.int,CT.int,CT.slice (some 3)] (ZP cs i)
 fun n1 l2_1 l3_1 n4 n5_1 l6=>bc (decide (n1<0)) (some (Ex.ret,[V.int 2],[Res.box [V.vec Mode.full (some 5) ov]])) (bc (decide (n1≥(↑fs.length:Int))) (some (Ex.ret,
 [V.int 2],[Res.box [V.vec Mode.full (some 5) ov]])) (gd (decide (0≤n1)&&decide (n1<(↑fs.length:Int))) (Zc [CT.str,CT.slice (some 3),CT.slice (some 5),CT.slice
 (some 3),CT.int,CT.int,CT.slice (some 3),CT.slice (some 3),CT.int,CT.int,CT.slice (some 3),CT.bool,CT.slice (some 9)] (ZP fs n1) fun s7 l8_1 l9 l10 n11 n12 l13_1 l14
 n15 n16 l17 b18 l19=>Za (Zj O 19 [V.vec .plain (some 4) sg,V.vec .plain (some 5) ov,V.agg [V.str s1,V.vec .plain (some 3) l2,V.vec .plain (some 5) l3,
 V.vec .plain (some 3) l4,V.int n5,V.int n6,V.vec .plain (some 3) l7,V.vec .plain (some 3) l8,V.int n9,V.int n10,V.vec .plain (some 3) l11,V.bool b12,V.vec .plain (some 9)
 l13],V.agg [V.str s7,V.vec .plain (some 3) l8_1,V.vec .plain (some 5) l9,V.vec .plain (some 3) l10,V.int n11,V.int n12,V.vec .plain (some 3) l13_1,V.vec .plain (some 3)
 l14,V.int n15,V.int n16,V.vec .plain (some 3) l17,V.bool b18,V.vec .plain (some 9) l19],V.agg [V.int n1,V.vec .plain (some 3) l2_1,V.vec .plain (some 3) l3_1,V.int n4,
 V.int n5_1,V.vec .plain (some 3) l6]]) fun r20=>ZM r20 fun c21=>Zd c21 fun v22 c23=>Zc [CT.slice (some 3),CT.int,CT.int,CT.slice (some 3),CT.bool] v22 fun
 l24 n25 n26 l27 b28=>Zd c23 fun v29 c30=>Zm v29 fun n31=>Zn c30 (bc (n31 !=0) (some (Ex.ret,[V.int n31],[Res.box [V.vec Mode.full (some 5) ov]])) (gd (true&&
 roomFor Tryz.prog 47 (ov.length+[V.agg [V.vec .plain (some 3) l24,V.int n25,V.int n26,V.vec .plain (some 3) l27,V.bool b28]].length)) (O.2 53 2
 [V.int (IntKind.i64.wrap (i+1)),V.ref 0 0,V.cptr none (V.vec .plain (some 13) fs),V.cptr (some 13) (V.agg [V.str s1,V.vec .plain (some 3) l2,V.vec .plain (some 5) l3,V.vec
 .plain (some 3) l4,V.int n5,V.int n6,V.vec .plain (some 3) l7,V.vec .plain (some 3) l8,V.int n9,V.int n10,V.vec .plain (some 3) l11,V.bool b12,V.vec .plain (some 9)
 l13]),V.cptr none (V.vec .plain (some 4) sg),V.vec .plain (some 6) cs,V.int n] [Res.box [V.vec Mode.grow (some 5) (ov++[V.agg [V.vec .plain (some 3) l24,V.int n25,V.int
 n26,V.vec .plain (some 3) l27,V.bool b28]])]])))))))) (some (Ex.exit 0,[],[Res.box [V.vec Mode.full (some 5) ov]])):=by kernel_rfl
theorem zg4(O:Oracle)(ov:List V)(c1 c2:List V)(c3 c4:Int)(c5 c6:List V)(c7 c8:Int)(c9:List V):Ze Tryz.prog cfg O 54 [.cptr (some 9) (.agg [.vec .plain (some 5) c1, .vec .plain (some 3) c2, .int c3, .int c4, .vec .plain (some 3) c5, .vec .plain (some 6) c6, .int c7, .int c8, .vec .plain (some 3) c9])] [.box [.vec .full (some 5) ov]]=
 Za (Zj O 49 [V.bool (decide ((↑c6.length:Int)≤40)),V.int 4]) fun r1=>Zm r1 fun n2=>some (Out.ret (V.int n2),[Res.box [V.vec Mode.full (some 5)
 ov]]):=by kernel_rfl
theorem zg5(O:Oracle)(ov:List V)(sg:List V)(c1 c2:List V)(c3 c4:Int)(c5 c6:List V)(c7 c8:Int)(c9:List V):Ze Tryz.prog cfg O 55 [.cptr none (.vec .plain (some 4) sg), .cptr (some 9) (.agg [.vec .plain (some 5) c1, .vec .plain (some 3) c2, .int c3, .int c4, .vec .plain (some 3) c5, .vec .plain (some 6) c6, .int c7, .int c8, .vec .plain (some 3) c9])] [.box [.vec .full (some 5) ov]]=
 Za (Zj O 44 [V.vec .plain (some 4) sg,V.vec .plain (some 5) c1]) fun r1=>Zm r1 fun n2=>some (Out.ret (V.int n2),[Res.box [V.vec Mode.full (some 5) ov]]):=by kernel_rfl
theorem zg6(O:Oracle)(ov:List V)(sg:List V)(c1 c2:List V)(c3 c4:Int)(c5 c6:List V)(c7 c8:Int)(c9:List V)(s1:ByteArray)(l2 l3 l4:List V)(n5 n6:Int)(l7 l8:List V)(n9 n10:Int)(l11:List V)(b12:Bool)(l13:List V):Ze Tryz.prog cfg O 56 [.cptr none (.vec .plain (some 4) sg), .cptr (some 9) (.agg [.vec .plain (some 5) c1, .vec .plain (some 3) c2, .int c3, .int c4, .vec .plain (some 3) c5, .vec .plain (some 6) c6, .int c7, .int c8, .vec .plain (some 3) c9]), .cptr (some 13) (.agg [.str s1, .vec .plain (some 3) l2, .vec .plain (some 5) l3, .vec .plain (some 3) l4, .int n5, .int n6, .vec .plain (some 3) l7, .vec .plain (some 3) l8, .int n9, .int n10, .vec .plain (some 3) l11, .bool b12, .vec .plain (some 9) l13])] [.box [.vec .full (some 5) ov]]=
 Za (Zj O 25 [V.vec .plain (some 4) sg,V.vec .plain (some 5) c1,V.vec .plain (some 3) [],V.vec .plain (some 5) l3,V.vec .plain (some 3) c2]) fun r1=>Zm r1
 fun n2=>some (Out.ret (V.int n2),[Res.box [V.vec Mode.full (some 5) ov]]):=by kernel_rfl
theorem zg7(O:Oracle)(ov:List V)(sg:List V)(c1 c2:List V)(c3 c4:Int)(c5 c6:List V)(c7 c8:Int)(c9:List V)(s1:ByteArray)(l2 l3 l4:List V)(n5 n6:Int)(l7 l8:List V)(n9 n10:Int)(l11:List V)(b12:Bool)(l13:List V):Ze Tryz.prog cfg O 57 [.cptr none (.vec .plain (some 4) sg), .cptr (some 9) (.agg [.vec .plain (some 5) c1, .vec .plain (some 3) c2, .int c3, .int c4, .vec .plain (some 3) c5, .vec .plain (some 6) c6, .int c7, .int c8, .vec .plain (some 3) c9]), .cptr (some 13) (.agg [.str s1, .vec .plain (some 3) l2, .vec .plain (some 5) l3, .vec .plain (some 3) l4, .int n5, .int n6, .vec .plain (some 3) l7, .vec .plain (some 3) l8, .int n9, .int n10, .vec .plain (some 3) l11, .bool b12, .vec .plain (some 9) l13])] [.box [.vec .full (some 5) ov]]=
 Za (Zj O 58 [V.vec .plain (some 4) sg,V.vec .plain (some 5) c1,V.vec .plain (some 3) [],V.vec .plain (some 3) l4,V.agg [V.int n5,V.int n6,V.vec .plain
 (some 3) l7],V.vec .plain (some 3) c2,V.agg [V.int c3,V.int c4,V.vec .plain (some 3) c5]]) fun r1=>Zm r1 fun n2=>some (Out.ret (V.int n2),[Res.box [V.vec Mode.full
 (some 5) ov]]):=by kernel_rfl
theorem zg8(O:Oracle)(ov:List V)(c1 c2:List V)(c3 c4:Int)(c5 c6:List V)(c7 c8:Int)(c9:List V)(s1:ByteArray)(l2 l3 l4:List V)(n5 n6:Int)(l7 l8:List V)(n9 n10:Int)(l11:List V)(b12:Bool)(l13:List V):Ze Tryz.prog cfg O 59 [.cptr (some 9) (.agg [.vec .plain (some 5) c1, .vec .plain (some 3) c2, .int c3, .int c4, .vec .plain (some 3) c5, .vec .plain (some 6) c6, .int c7, .int c8, .vec .plain (some 3) c9]), .cptr (some 13) (.agg [.str s1, .vec .plain (some 3) l2, .vec .plain (some 5) l3, .vec .plain (some 3) l4, .int n5, .int n6, .vec .plain (some 3) l7, .vec .plain (some 3) l8, .int n9, .int n10, .vec .plain (some 3) l11, .bool b12, .vec .plain (some 9) l13])] [.box [.vec .full (some 5) ov]]=
 Za (Zj O 60 [V.agg [V.int c3,V.int c4,V.vec .plain (some 3) c5],V.int (↑l4.length:Int),V.int (↑c1.length:Int)]) fun r1=>Zm r1 fun n2=>some
 (Out.ret (V.int n2),[Res.box [V.vec Mode.full (some 5) ov]]):=by kernel_rfl
theorem zg9(O:Oracle)(ov:List V)(sg:List V)(c1 c2:List V)(c3 c4:Int)(c5 c6:List V)(c7 c8:Int)(c9:List V)(s1:ByteArray)(l2 l3 l4:List V)(n5 n6:Int)(l7 l8:List V)(n9 n10:Int)(l11:List V)(b12:Bool)(l13:List V):Ze Tryz.prog cfg O 61 [.cptr none (.vec .plain (some 4) sg), .ref 0 0, .cptr (some 13) (.agg [.str s1, .vec .plain (some 3) l2, .vec .plain (some 5) l3, .vec .plain (some 3) l4, .int n5, .int n6, .vec .plain (some 3) l7, .vec .plain (some 3) l8, .int n9, .int n10, .vec .plain (some 3) l11, .bool b12, .vec .plain (some 9) l13]), .cptr (some 9) (.agg [.vec .plain (some 5) c1, .vec .plain (some 3) c2, .int c3, .int c4, .vec .plain (some 3) c5, .vec .plain (some 6) c6, .int c7, .int c8, .vec .plain (some 3) c9])] [.box [.vec .full (some 5) ov]]=
 Za (Zj O 58 [V.vec .plain (some 4) sg,V.vec .plain (some 5) ov,V.vec .plain (some 3) [],V.vec .plain (some 3) l8,V.agg [V.int n9,V.int n10,V.vec .plain
 (some 3) l11],V.vec .plain (some 3) c2,V.agg [V.int c7,V.int c8,V.vec .plain (some 3) c9]]) fun r1=>Zm r1 fun n2=>some (Out.ret (V.int n2),[Res.box [V.vec Mode.full
 (some 5) ov]]):=by kernel_rfl
theorem YF(O:Oracle)(i n:Int)(sg fs cs ov:List V)(s1:ByteArray)(l2 l3 l4:List V)(n5 n6:Int)(l7 l8:List V)(n9 n10:Int)(l11:List V)(b12:Bool)(l13:List V):Zz Tryz.prog cfg O 53 2 [.int i, .ref 0 0, .cptr none (.vec .plain (some 13) fs), .cptr (some 13) (.agg [.str s1, .vec .plain (some 3) l2, .vec .plain (some 5) l3, .vec .plain (some 3) l4, .int n5, .int n6, .vec .plain (some 3) l7, .vec .plain (some 3) l8, .int n9, .int n10, .vec .plain (some 3) l11, .bool b12, .vec .plain (some 9) l13]), .cptr none (.vec .plain (some 4) sg), .vec .plain (some 6) cs, .int n] [.box [.vec .grow (some 5) ov]]=
 bc (decide (i<n)) (gd (decide (0≤i)&&decide (i<(↑cs.length:Int))) (Zc [CT.int,CT.slice (some 3),CT.slice (some 3),CT.int,CT.int,CT.slice (some 3)] (ZP cs i)
 fun n1 l2_1 l3_1 n4 n5_1 l6=>bc (decide (n1<0)) (some (Ex.ret,[V.int 2],[Res.box [V.vec Mode.grow (some 5) ov]])) (bc (decide (n1≥(↑fs.length:Int))) (some (Ex.ret,
 [V.int 2],[Res.box [V.vec Mode.grow (some 5) ov]])) (gd (decide (0≤n1)&&decide (n1<(↑fs.length:Int))) (Zc [CT.str,CT.slice (some 3),CT.slice (some 5),CT.slice
 (some 3),CT.int,CT.int,CT.slice (some 3),CT.slice (some 3),CT.int,CT.int,CT.slice (some 3),CT.bool,CT.slice (some 9)] (ZP fs n1) fun s7 l8_1 l9 l10 n11 n12 l13_1 l14
 n15 n16 l17 b18 l19=>Za (Zj O 19 [V.vec .plain (some 4) sg,V.vec .plain (some 5) ov,V.agg [V.str s1,V.vec .plain (some 3) l2,V.vec .plain (some 5) l3,
 V.vec .plain (some 3) l4,V.int n5,V.int n6,V.vec .plain (some 3) l7,V.vec .plain (some 3) l8,V.int n9,V.int n10,V.vec .plain (some 3) l11,V.bool b12,V.vec .plain (some 9)
 l13],V.agg [V.str s7,V.vec .plain (some 3) l8_1,V.vec .plain (some 5) l9,V.vec .plain (some 3) l10,V.int n11,V.int n12,V.vec .plain (some 3) l13_1,V.vec .plain (some 3)
 l14,V.int n15,V.int n16,V.vec .plain (some 3) l17,V.bool b18,V.vec .plain (some 9) l19],V.agg [V.int n1,V.vec .plain (some 3) l2_1,V.vec .plain (some 3) l3_1,V.int n4,
 V.int n5_1,V.vec .plain (some 3) l6]]) fun r20=>ZM r20 fun c21=>Zd c21 fun v22 c23=>Zc [CT.slice (some 3),CT.int,CT.int,CT.slice (some 3),CT.bool] v22 fun
 l24 n25 n26 l27 b28=>Zd c23 fun v29 c30=>Zm v29 fun n31=>Zn c30 (bc (n31 !=0) (some (Ex.ret,[V.int n31],[Res.box [V.vec Mode.grow (some 5) ov]])) (gd (true&&
 roomFor Tryz.prog 47 (ov.length+[V.agg [V.vec .plain (some 3) l24,V.int n25,V.int n26,V.vec .plain (some 3) l27,V.bool b28]].length)) (O.2 53 2
 [V.int (IntKind.i64.wrap (i+1)),V.ref 0 0,V.cptr none (V.vec .plain (some 13) fs),V.cptr (some 13) (V.agg [V.str s1,V.vec .plain (some 3) l2,V.vec .plain (some 5) l3,V.vec
 .plain (some 3) l4,V.int n5,V.int n6,V.vec .plain (some 3) l7,V.vec .plain (some 3) l8,V.int n9,V.int n10,V.vec .plain (some 3) l11,V.bool b12,V.vec .plain (some 9)
 l13]),V.cptr none (V.vec .plain (some 4) sg),V.vec .plain (some 6) cs,V.int n] [Res.box [V.vec Mode.grow (some 5) (ov++[V.agg [V.vec .plain (some 3) l24,V.int n25,V.int
 n26,V.vec .plain (some 3) l27,V.bool b28]])]])))))))) (some (Ex.exit 0,[],[Res.box [V.vec Mode.grow (some 5) ov]])):=by kernel_rfl
theorem zee(O:Oracle)(ov:List V)(sg:List V)(c1 c2:List V)(c3 c4:Int)(c5 c6:List V)(c7 c8:Int)(c9:List V)(s1:ByteArray)(l2 l3 l4:List V)(n5 n6:Int)(l7 l8:List V)(n9 n10:Int)(l11:List V)(b12:Bool)(l13:List V):Ze Tryz.prog cfg O 61 [.cptr none (.vec .plain (some 4) sg), .ref 0 0, .cptr (some 13) (.agg [.str s1, .vec .plain (some 3) l2, .vec .plain (some 5) l3, .vec .plain (some 3) l4, .int n5, .int n6, .vec .plain (some 3) l7, .vec .plain (some 3) l8, .int n9, .int n10, .vec .plain (some 3) l11, .bool b12, .vec .plain (some 9) l13]), .cptr (some 9) (.agg [.vec .plain (some 5) c1, .vec .plain (some 3) c2, .int c3, .int c4, .vec .plain (some 3) c5, .vec .plain (some 6) c6, .int c7, .int c8, .vec .plain (some 3) c9])] [.box [.vec .grow (some 5) ov]]=
 Za (Zj O 58 [V.vec .plain (some 4) sg,V.vec .plain (some 5) ov,V.vec .plain (some 3) [],V.vec .plain (some 3) l8,V.agg [V.int n9,V.int n10,V.vec .plain
 (some 3) l11],V.vec .plain (some 3) c2,V.agg [V.int c7,V.int c8,V.vec .plain (some 3) c9]]) fun r1=>Zm r1 fun n2=>some (Out.ret (V.int n2),[Res.box [V.vec Mode.grow
 (some 5) ov]]):=by kernel_rfl
end Go.Proofs.CL
namespace Go.Proofs.CL
open Go Go.AM Go.Ama
end Go.Proofs.CL
namespace Go.Proofs.CL
open Go Go.AM Go.Ama
end Go.Proofs.CL
namespace Go.Proofs.CL
open Go Go.AM
set_option maxRecDepth 20000
end Go.Proofs.CL
namespace Go.Proofs.CL
open Go Go.AM Go.Ama
end Go.Proofs.CL
namespace Go.Proofs.CL
open Go Go.AM
set_option maxRecDepth 20000
end Go.Proofs.CL
namespace Go.Proofs.CL
open Go Go.AM Go.Ama
end Go.Proofs.CL
namespace Go.Proofs.CL
open Go Go.AM
set_option maxRecDepth 20000
end Go.Proofs.CL
namespace Go.Proofs.CL
open Go Go.AM Go.Ama
end Go.Proofs.CL
namespace Go.Proofs.CL
open Go Go.AM Go.Ama
end Go.Proofs.CL
namespace Go.Proofs.CL
open Go Go.AM Go.Ama
theorem zvq:((Tryz.prog.info? 47).map (·.bytes)).getD 0=72:=by kernel_rfl
theorem zwl{n:Nat}(h:n≤1099511627776):roomFor Tryz.prog 47 n=true:=by
 unfold roomFor
 rw[zvq]
 simp
 omega
end Go.Proofs.CL
namespace Go.Proofs.CL
open Go Go.AM Go.Ama
set_option maxRecDepth 100000
theorem zef{R:Type}(c:Cal)(K:Int→List V→List V→Int→Int→List V→Option R):Zc (R:=R) [CT.int,CT.slice (some 3),CT.slice (some 3),CT.int,CT.int,CT.slice (some 3)] (X2 c) K=K c.f (Zf c.ext) (Zf c.theta) c.arg.k c.arg.h (Zf c.arg.args):=rfl
theorem zki{R:Type}(f:Fun1)(K:ByteArray→List V→List V→List V→Int→Int→List V→List V→Int→Int→List V→Bool→List V→Option R):Zc (R:=R) [CT.str,CT.slice (some 3),CT.slice (some 5),CT.slice (some 3),CT.int,CT.int,CT.slice (some 3),CT.slice (some 3),CT.int,CT.int,CT.slice (some 3),CT.bool,CT.slice (some 9)] (Xd f) K=
  K (ba f.name) (Zf f.schema) (ZA f.delta) (Zf f.psi) f.a.k f.a.h (Zf f.a.args) (Zf f.phi) f.b.k f.b.h (Zf f.b.args) f.total (JW f.clauses):=rfl
def bx(b:Bool)(ov:List M):Res:= .box [.vec (bif b then .grow else .full) (some 5) (ZA ov)]
theorem zqq(ov:List M):bx true ov= .box [.vec .grow (some 5) (ZA ov)]:=rfl
theorem zgA(ov:List M):bx false ov= .box [.vec .full (some 5) (ZA ov)]:=rfl
theorem zqr{sig:List D}{funs:List Fun1}{f:Fun1}(hs:sig.length≤1000∧ ∀d∈sig,Hd d.t)(hfs:funs.length≤1000∧ ∀g∈funs,LoFn g)(hf:LoFn f)(cs:List Cal)(hcl:cs.length≤60)(hc: ∀x∈cs,LoCal x):
  ∀(n i:Nat) (b:Bool) (ov:List M),cs.length-i=n→i≤cs.length→ov.length≤100+i→(∀m∈ov,HdM m)→ ∃b':Bool,
   W.loop 53 2 [.int (i:Int), .ref 0 0, .cptr none (.vec .plain (some 13) (Yx funs)), .cptr (some 13) (Xd f), .cptr none (.vec .plain (some 4) (Ye sig)), .vec .plain (some 6) (XS cs), .int cs.length] [bx b ov]=
    some (if(YC sig funs f (cs.drop i) ov).2=0 then(.exit 0,[],[bx b' (YC sig funs f (cs.drop i) ov).1])else(.ret,[.int (YC sig funs f (cs.drop i) ov).2],[bx b' (YC sig funs f (cs.drop i) ov).1])):=by
 intro n
 induction n with
 |zero=>
  intro i b ov hn hi hol ho
  have:i=cs.length:=by omega
  subst this
  refine⟨b, ?_⟩
  rw[List.drop_length]
  unfold YC
  cases b
  ·rw[L,zgA,Zv f,Xa];simp
  ·rw[L,zqq,Zv f,YF];simp
 |succ n ih=>
  intro i b ov hn hi hol ho
  have hlt:i<cs.length:=by omega
  have hlt':(i:Int)<cs.length:=by omega
  have hw:IntKind.i64.wrap ((i:Int)+1)=((i+1:Nat):Int):=by rw[Zu ⟨by omega,by omega⟩];omega
  rw[List.drop_eq_getElem_cons hlt]
  have hx:=hc _ (List.getElem_mem hlt)
  have hgc:=zeW hlt
  generalize cs[i]=x at hx hgc⊢
  unfold YC
  by_cases hr:0≤x.f∧x.f<funs.length
  ·have hn':x.f.toNat<funs.length:=by omega
   have hg:=zdS hn'
   have hxe:((x.f.toNat:Nat):Int)=x.f:=by omega
   rw[hxe]at hg
   have hfn:=hfs.2 _ (List.getElem_mem hn')
   have hcd:=(zoU (over:=ov) hs ⟨by omega,ho⟩ hf hfn hx).p (by simp[Zk,below,Zq,Zv,YD])
   have h1: ¬x.f<0:=by omega
   have h2: ¬x.f≥funs.length:=by omega
   rw[dif_pos hr]
   dsimp only
   by_cases he:(YL sig ov f funs[x.f.toNat] x).2=0
   ·obtain⟨b',hb'⟩:=ih (i+1) true (ov++[(YL sig ov f funs[x.f.toNat] x).1]) (by omega) (by omega) (by simp;omega) (fun m hm=>by
     rcases List.mem_append.1 hm with hm|hm
     ·exact ho m hm
     ·rw[List.mem_singleton]at hm;rw[hm];exact zjT hfn hx)
    refine⟨b', ?_⟩
    rw[show(if(YL sig ov f funs[x.f.toNat] x).2≠0 then(ov,(YL sig ov f funs[x.f.toNat] x).2)else YC sig funs f (cs.drop (i+1)) (ov++[(YL sig ov f funs[x.f.toNat] x).1]))=YC sig funs f (cs.drop (i+1)) (ov++[(YL sig ov f funs[x.f.toNat] x).1])from if_neg (by simpa using he),←hb']
    have hrm:roomFor Tryz.prog 47 (ov.length+1)=true:=zwl (by omega)
    have hap:ZA (ov++[(YL sig ov f funs[x.f.toNat] x).1])=ZA ov++[JU (YL sig ov f funs[x.f.toNat] x).1]:=by simp[ZA]
    rw[zqq,hap]
    have hcd':=hcd
    rw[Zv f]at hcd'
    cases b
    ·rw[L,zgA,Zv f,Xa,hw,hgc]
     simp only[hlt',ZS,Yj,ZU,Int.natCast_nonneg,decide_true,Z4,Bool.and_self,Z6,zef,h1,h2,decide_false,Z2,hr.1,hr.2,hg,zki,←Zb,←Zv,←YD,hcd,Zg,Xx,Yk,onM,ZB,Yv,he,bne_self_eq_false,←Xn,List.length_cons,List.length_nil,Nat.zero_add,hrm]
    ·rw[L,zqq,Zv f,YF,hw,hgc]
     simp only[hlt',ZS,Yj,ZU,Int.natCast_nonneg,decide_true,Z4,Bool.and_self,Z6,zef,h1,h2,decide_false,Z2,hr.1,hr.2,hg,zki,←Zb,←Zv,←YD,hcd,Zg,Xx,Yk,onM,ZB,Yv,he,bne_self_eq_false,←Xn,List.length_cons,List.length_nil,Nat.zero_add,hrm]
   ·refine⟨b, ?_⟩
    rw[show(if(YL sig ov f funs[x.f.toNat] x).2≠0 then(ov,(YL sig ov f funs[x.f.toNat] x).2)else YC sig funs f (cs.drop (i+1)) (ov++[(YL sig ov f funs[x.f.toNat] x).1]))=(ov,(YL sig ov f funs[x.f.toNat] x).2)from if_pos (by simpa using he)]
    dsimp only
    rw[if_neg (by simpa using he)]
    have he':((YL sig ov f funs[x.f.toNat] x).2 !=0)=true:=by simpa using he
    cases b
    ·rw[L,zgA,Zv f,Xa,hw,hgc]
     simp only[hlt',ZS,Yj,ZU,Int.natCast_nonneg,decide_true,Z4,Bool.and_self,Z6,zef,h1,h2,decide_false,Z2,hr.1,hr.2,hg,zki,←Zb,←Zv,←YD,hcd,Zg,Xx,Yk,onM,ZB,Yv,he']
    ·rw[L,zqq,Zv f,YF,hw,hgc]
     simp only[hlt',ZS,Yj,ZU,Int.natCast_nonneg,decide_true,Z4,Bool.and_self,Z6,zef,h1,h2,decide_false,Z2,hr.1,hr.2,hg,zki,←Zb,←Zv,←YD,hcd,Zg,Xx,Yk,onM,ZB,Yv,he']
  ·refine⟨b, ?_⟩
   rw[dif_neg hr]
   dsimp only
   rw[if_neg (by omega)]
   by_cases h1:x.f<0
   ·cases b
    ·rw[L,zgA,Zv f,Xa,hw,hgc]
     simp only[hlt',ZS,Int.natCast_nonneg,decide_true,Z4,Bool.and_self,Z6,zef,h1]
    ·rw[L,zqq,Zv f,YF,hw,hgc]
     simp only[hlt',ZS,Int.natCast_nonneg,decide_true,Z4,Bool.and_self,Z6,zef,h1]
   ·have h2:x.f≥funs.length:=by omega
    cases b
    ·rw[L,zgA,Zv f,Xa,hw,hgc]
     simp only[hlt',ZS,Yj,Int.natCast_nonneg,decide_true,Z4,Bool.and_self,Z6,zef,h1,h2,decide_false,Z2]
    ·rw[L,zqq,Zv f,YF,hw,hgc]
     simp only[hlt',ZS,Yj,Int.natCast_nonneg,decide_true,Z4,Bool.and_self,Z6,zef,h1,h2,decide_false,Z2]
def FirstsE(l:List V)(st:St)(e:Int):Prop:= ∃st',st'.length=st.length∧Firsts l st e st'
theorem FirstsE.one{g:Nat}{b l:List V}{st st1:St}{e:Int}{es:List Int}(hp:cfg.pure g=false)(h:W.call g b st=some (.ret (.int e),st1))(hl:st1.length=st.length)(t:e=0→FirstsE l st1 (QM es)):FirstsE (.fn g [] b::l) st (QM (e::es)):=by
 unfold QM
 by_cases he:e=0
 ·subst he
  obtain⟨st',h1,h2⟩:=t rfl
  exact⟨st',h1.trans hl, .ok hp h h2⟩
 ·rw[if_pos he];exact⟨st1,hl, .bad hp h he⟩
theorem zqs{sig:List D}{over:List M}{ext ctx θ:List T}{a t:T}(h:zcW sig over ext ctx a θ t=0):may t=true:=by
 unfold zcW at h
 dsimp only at h
 by_cases c:(XH ext ctx a θ).2=0
 ·rw[if_neg (by simpa using c)]at h
  unfold QB at h
  by_cases hw:zjI sig over (XH ext ctx a θ).1.ctx [t,(XH ext ctx a θ).1.t]=true
  ·exact(zdP.1 hw).2.1 t (by simp)
  ·rw[if_neg hw]at h;cases h
 ·rw[if_pos c]at h;exact absurd h c
theorem zeg{sig:List D}{funs:List Fun1}{no:Int}{c:Cl}(hs:sig.length≤1000∧ ∀d∈sig,Hd d.t)(hfs:funs.length≤1000∧ ∀g∈funs,LoFn g)(hc:LoCl c):
  Ev 15 [.vec .plain (some 4) (Ye sig), .vec .plain (some 13) (Yx funs), .int no,XT c] (.int (zak sig funs no c)):=by
 unfold Ev zak
 rw[C,ZQ c,zi9,Yj,←ZQ c]
 by_cases hr:0≤no∧no<funs.length
 ·have hn':no.toNat<funs.length:=by omega
  have hg:=zdS hn'
  have hxe:((no.toNat:Nat):Int)=no:=by omega
  rw[hxe]at hg
  have hf:=hfs.2 _ (List.getElem_mem hn')
  have h1: ¬no<0:=by omega
  have h2: ¬no≥funs.length:=by omega
  rw[dif_pos hr]
  dsimp only
  generalize funs[no.toNat]=f at hf hg⊢
  have hm:c.metas.length≤1000∧ ∀m∈c.metas,HdM m:=⟨by have:=hc.mlen;omega,fun m h=>(hc.metas m h).hd⟩
  obtain⟨r1,r2⟩:=zlD (sig:=sig) (funs:=funs) (f:=f) hfs.2 c.calls c.metas hc.calls hm.2
  obtain⟨b',hb'⟩:=zqr hs hfs hf c.calls hc.clen hc.calls _ 0 false c.metas rfl (Nat.zero_le _) (by have:=hc.mlen;omega) hm.2
  simp only[Int.natCast_zero,List.drop_zero]at hb'
  have hm':(YC sig funs f c.calls c.metas).1.length≤1000∧ ∀m∈(YC sig funs f c.calls c.metas).1,HdM m:=⟨by have:=hc.mlen;have:=hc.clen;omega,r1⟩
  have q3:=zux sig c.metas hs hm
  have q4:=(zoO sig c.metas [] f.delta c.theta hs hm (Hds.nil _) hf.delta hc.theta).p (by simp[Zk,below,Zq])
  have q5:=(zf5 (over:=c.metas) (ext:=[]) hs hm (Hds.nil _) hf.psi hf.a hc.theta hc.p).p (by simp[Zk,below,Zq])
  have q7:=(zf5 (over:=(YC sig funs f c.calls c.metas).1) (ext:=[]) hs hm' (Hds.nil _) hf.phi hf.b hc.theta hc.r).p (by simp[Zk,below,Zq])
  simp only[QW]at q4 q5 q7
  have hF:FirstsE [.fn 54 [] [.cptr (some 9) (XT c)], .fn 55 [] [.cptr none (.vec .plain (some 4) (Ye sig)), .cptr (some 9) (XT c)], .fn 56 [] [.cptr none (.vec .plain (some 4) (Ye sig)), .cptr (some 9) (XT c), .cptr (some 13) (Xd f)], .fn 57 [] [.cptr none (.vec .plain (some 4) (Ye sig)), .cptr (some 9) (XT c), .cptr (some 13) (Xd f)], .fn 59 [] [.cptr (some 9) (XT c), .cptr (some 13) (Xd f)], .fn 53 [] [.cptr (some 9) (XT c), .cptr none (.vec .plain (some 13) (Yx funs)), .cptr none (.vec .plain (some 4) (Ye sig)), .ref 0 0, .cptr (some 13) (Xd f)], .fn 61 [] [.cptr none (.vec .plain (some 4) (Ye sig)), .ref 0 0, .cptr (some 13) (Xd f), .cptr (some 9) (XT c)]] [bx false c.metas]
    (QM [zbB (decide (c.calls.length≤40)) 4,(zfy sig c.metas).2,zts sig c.metas [] f.delta c.theta,zcW sig c.metas [] f.psi f.a c.theta c.p,zgt c.p f.psi.length c.metas.length,(YC sig funs f c.calls c.metas).2,zcW sig (YC sig funs f c.calls c.metas).1 [] f.phi f.b c.theta c.r]):=by
   refine .one (st1:=[bx false c.metas]) (zkh (by decide)) ?_ rfl fun _=> .one (st1:=[bx false c.metas]) (zkh (by decide)) ?_ rfl fun _=> .one (st1:=[bx false c.metas]) (zkh (by decide)) ?_ rfl fun _=> .one (st1:=[bx false c.metas]) (zkh (by decide)) ?_ rfl fun h5=> .one (st1:=[bx false c.metas]) (zkh (by decide)) ?_ rfl fun _=>
    .one (st1:=[bx b' (YC sig funs f c.calls c.metas).1]) (zkh (by decide)) ?_ rfl fun _=> .one (st1:=[bx b' (YC sig funs f c.calls c.metas).1]) (zkh (by decide)) ?_ rfl fun _=>⟨_,rfl, .nil _⟩
   ·rw[C,zgA,ZQ c,zg4,ZS,zg2]
    simp only[Zg,ZB]
    congr 5
    simp
    omega
   ·rw[C,zgA,ZQ c,zg5,q3];simp
   ·rw[C,zgA,ZQ c,Zv f,zg6,q4];simp
   ·rw[C,zgA,ZQ c,Zv f,zg7,←Zb,←Zb,q5];simp
   ·have q6:=(zkU (B:=1099511627776) (by omega) c.p f.psi.length c.metas.length (by have:=hc.p.size;omega) (hc.p.ok (zqs h5)) (by have:=hf.psi.len;omega) (by have:=hc.mlen;omega)).p
    rw[C,zgA,ZQ c,Zv f,zg8,←Zb,Zi,ZU,q6];simp
   ·rw[C,zgA,ZQ c,Zv f,zg3,←Zv f,ZS,←zgA,hb']
    by_cases hz:(YC sig funs f c.calls c.metas).2=0
    ·simp[hz,Z3]
    ·simp[hz,Z3]
   ·cases b'
    ·rw[C,zgA,ZQ c,Zv f,zg9,←Zb,←Zb,q7];simp
    ·rw[C,zqq,ZQ c,Zv f,zee,←Zb,←Zb,q7];simp
  obtain⟨st',hl,hF⟩:=hF
  have hfi:=zkg (by simp) hF
  rw[Z3 hl]at hfi
  have htk:List.drop 0 (List.take ((c.metas.length:Int)).toNat (ZA c.metas))=ZA c.metas:=by
   rw[List.drop_zero,List.take_of_length_le (by simp)]
  simp only[h1,h2,decide_false,Z2,hr.1,hr.2,decide_true,Bool.and_self,Z6,hg,zki,ZU,Int.natCast_nonneg,Int.le_refl,Option.isSome_some,←Zv,←ZQ,htk,←zgA,hfi,Zg,ZV,ZB]
 ·rw[dif_neg hr]
  by_cases h1:no<0
  ·simp[h1]
  ·have h2:no≥funs.length:=by omega
   simp[h1,h2]
end Go.Proofs.CL
namespace Go.Proofs.CL
open Go Go.AM Go.Ama
set_option maxRecDepth 100000
theorem Ev.of_run{m f:Nat}{args:List V}{v:V}(h:(XJ Tryz.prog cfg ext m).call f args []=some (.ret v,[])):Ev f args v:=zew ((ziG zjz m).call _ _ _ _ h)
def exS:V:= .vec .plain (some 4) [.agg [.str ⟨#[110,97,116]⟩, .int 0, .int 0, .vec .plain (some 3) []], .agg [.str ⟨#[122]⟩, .int 2, .int 0, .vec .plain (some 3) []], .agg [.str ⟨#[115]⟩, .int 1, .int 0, .vec .plain (some 3) [.agg [.int 2, .int 0, .vec .plain (some 3) []], .agg [.int 2, .int 0, .vec .plain (some 3) []]]]]
def exZ:V:= .agg [.vec .plain (some 5) [], .vec .plain (some 3) [], .int 5, .int 1, .vec .plain (some 3) [], .vec .plain (some 6) [], .int 5, .int 1, .vec .plain (some 3) []]
def exN(k h:Int)(l:List V):V:= .agg [.vec .plain (some 5) [.agg [.vec .plain (some 3) [], .int 2, .int 0, .vec .plain (some 3) [], .bool false]], .vec .plain (some 3) [], .int 5, .int 2, .vec .plain (some 3) [.agg [.int 6, .int 0, .vec .plain (some 3) []]], .vec .plain (some 6) [.agg [.int 0, .vec .plain (some 3) [], .vec .plain (some 3) [], .int 6, .int 0, .vec .plain (some 3) []]], .int k, .int h, .vec .plain (some 3) l]
def zvr:V:=exN 5 2 [.agg [.int 5, .int 2, .vec .plain (some 3) [.agg [.int 6, .int 1, .vec .plain (some 3) []]]]]
def exF:V:= .agg [.str ⟨#[100,111,117,98,108,101]⟩, .vec .plain (some 3) [], .vec .plain (some 5) [], .vec .plain (some 3) [], .int 2, .int 0, .vec .plain (some 3) [], .vec .plain (some 3) [], .int 2, .int 0, .vec .plain (some 3) [], .bool true, .vec .plain (some 9) [exZ,zvr]]
theorem zvs:Ev 37 [] exS:=Ev.of_run (m:=20) (by kernel_rfl)
theorem zsb:Ev 36 [] exF:=Ev.of_run (m:=20) (by kernel_rfl)
theorem zuy:Ev 13 [exS,exF] (.int 0):=Ev.of_run (m:=40) (by kernel_rfl)
theorem zwm:Ev 15 [exS, .vec .plain (some 13) [exF], .int 0,exZ] (.int 0):=Ev.of_run (m:=40) (by kernel_rfl)
theorem zwn:Ev 15 [exS, .vec .plain (some 13) [exF], .int 0,exN 6 2 []] (.int 2):=Ev.of_run (m:=40) (by kernel_rfl)
theorem zwo:Ev 15 [exS, .vec .plain (some 13) [exF], .int 0,zvr] (.int 0):=Ev.of_run (m:=40) (by kernel_rfl)
end Go.Proofs.CL
namespace Go.Proofs.CL
open Go Go.AM
set_option maxRecDepth 20000
theorem zkV(O:Oracle):Ze Tryz.prog cfg O 9 [] []=
 Za (Zj O 36 []) fun r1=>Zc [CT.str,CT.slice (some 3),CT.slice (some 5),CT.slice (some 3),CT.int,CT.int,CT.slice (some 3),CT.slice (some 3),
 CT.int,CT.int,CT.slice (some 3),CT.bool,CT.slice (some 9)] r1 fun s2 l3 l4 l5 n6 n7 l8 l9 n10 n11 l12 b13 l14=>gd (true&&decide (1<(↑l14.length:Int))) (Zc
 [CT.slice (some 5),CT.slice (some 3),CT.int,CT.int,CT.slice (some 3),CT.slice (some 6),CT.int,CT.int,CT.slice (some 3)] (ZP l14 1) fun l15 l16 n17 n18 l19 l20 n21 n22
 l23=>Za (Zj O 37 []) fun r24=>Yp (some 4) r24 fun l25=>gd (true&&decide (0<(↑l14.length:Int))) (Zc [CT.slice (some 5),CT.slice (some 3),
 CT.int,CT.int,CT.slice (some 3),CT.slice (some 6),CT.int,CT.int,CT.slice (some 3)] (ZP l14 0) fun l26 l27 n28 n29 l30 l31 n32 n33 l34=>Za (Zj O 15
 [V.vec .plain (some 4) l25,V.vec .plain (some 13) [V.agg [V.str s2,V.vec .plain (some 3) l3,V.vec .plain (some 5) l4,V.vec .plain (some 3) l5,V.int n6,V.int n7,V.vec .plain
 (some 3) l8,V.vec .plain (some 3) l9,V.int n10,V.int n11,V.vec .plain (some 3) l12,V.bool b13,V.vec .plain (some 9) l14]],V.int 0,V.agg [V.vec .plain (some 5) l26,V.vec
 .plain (some 3) l27,V.int n28,V.int n29,V.vec .plain (some 3) l30,V.vec .plain (some 6) l31,V.int n32,V.int n33,V.vec .plain (some 3) l34]]) fun r35=>Zm r35 fun n36=>
 Za (Zj O 37 []) fun r37=>Yp (some 4) r37 fun l38=>gd (true&&decide (1<(↑l14.length:Int))) (Zc [CT.slice (some 5),CT.slice (some 3),CT.int,
 CT.int,CT.slice (some 3),CT.slice (some 6),CT.int,CT.int,CT.slice (some 3)] (ZP l14 1) fun l39 l40 n41 n42 l43 l44 n45 n46 l47=>Za (Zj O 15 [V.vec
 .plain (some 4) l38,V.vec .plain (some 13) [V.agg [V.str s2,V.vec .plain (some 3) l3,V.vec .plain (some 5) l4,V.vec .plain (some 3) l5,V.int n6,V.int n7,V.vec .plain (some
 3) l8,V.vec .plain (some 3) l9,V.int n10,V.int n11,V.vec .plain (some 3) l12,V.bool b13,V.vec .plain (some 9) l14]],V.int 0,V.agg [V.vec .plain (some 5) l39,V.vec .plain
 (some 3) l40,V.int n41,V.int n42,V.vec .plain (some 3) l43,V.vec .plain (some 6) l44,V.int n45,V.int n46,V.vec .plain (some 3) l47]]) fun r48=>Zm r48 fun n49=>Za
 (Zj O 37 []) fun r50=>Yp (some 4) r50 fun l51=>Za (Zj O 15 [V.vec .plain (some 4) l51,V.vec .plain (some 13) [V.agg [V.str s2,V.vec .plain
 (some 3) l3,V.vec .plain (some 5) l4,V.vec .plain (some 3) l5,V.int n6,V.int n7,V.vec .plain (some 3) l8,V.vec .plain (some 3) l9,V.int n10,V.int n11,V.vec .plain (some
 3) l12,V.bool b13,V.vec .plain (some 9) l14]],V.int 0,V.agg [V.vec .plain (some 5) l15,V.vec .plain (some 3) l16,V.int n17,V.int n18,V.vec .plain (some 3) l19,V.vec
 .plain (some 6) l20,V.int 6,V.int 2,V.vec .plain (some 3) []]]) fun r52=>Zm r52 fun n53=>Za (Zj O 37 []) fun r54=>Yp (some 4) r54 fun l55=>Za
 (Zj O 13 [V.vec .plain (some 4) l55,V.agg [V.str s2,V.vec .plain (some 3) l3,V.vec .plain (some 5) l4,V.vec .plain (some 3) l5,V.int n6,V.int n7,V.vec .plain
 (some 3) l8,V.vec .plain (some 3) l9,V.int n10,V.int n11,V.vec .plain (some 3) l12,V.bool b13,V.vec .plain (some 9) l14]]) fun r56=>Zm r56 fun n57=>bc (n57==0) (bc
 (n36==0) (bc (n49==0) (some (Out.ret (V.bool (n53==2)),[])) (some (Out.ret (V.bool false),[]))) (some (Out.ret (V.bool false),[]))) (some (Out.ret (V.bool false),[]))))):=by kernel_rfl
theorem zgB(O:Oracle)(l0:(List V)):Ze Tryz.prog cfg O 11 [.vec .plain (some 13) l0] []=
 bc (decide ((↑l0.length:Int)>20)) (some (Out.ret (V.bool false),[])) (Za (O.loop 11 4 [V.int 0,V.vec .plain (some 13) l0] []) fun r1=>Xk r1.fst none
 (Zd r1.snd.fst fun v2 c3=>Zl v2 fun b4=>Zn c3 (some (Out.ret (V.bool b4),[]))) (fun i5=>bc (i5.beq 0) (Zn r1.snd.fst (some (Out.ret (V.bool true),[]))) none)
 fun v6=>none):=by kernel_rfl
theorem zau(O:Oracle)(n0:Int)(l1:(List V)):Zz Tryz.prog cfg O 11 4 [.int n0, .vec .plain (some 13) l1] []=
 bc (decide (n0<(↑l1.length:Int))) (gd (decide (0≤n0)&&decide (n0<(↑l1.length:Int))) (Zc [CT.str,CT.slice (some 3),CT.slice (some 5),CT.slice (some 3),CT.int,
 CT.int,CT.slice (some 3),CT.slice (some 3),CT.int,CT.int,CT.slice (some 3),CT.bool,CT.slice (some 9)] (ZP l1 n0) fun s1 l2 l3 l4 n5 n6 l7 l8 n9 n10 l11 b12 l13=>Za
 (Zj O 17 [V.agg [V.str s1,V.vec .plain (some 3) l2,V.vec .plain (some 5) l3,V.vec .plain (some 3) l4,V.int n5,V.int n6,V.vec .plain (some 3) l7,V.vec
 .plain (some 3) l8,V.int n9,V.int n10,V.vec .plain (some 3) l11,V.bool b12,V.vec .plain (some 9) l13]]) fun r14=>Zl r14 fun b15=>bc (!b15) (some (Ex.ret,[V.bool
 false],[])) (O.2 11 4 [V.int (IntKind.i64.wrap (n0+1)),V.vec .plain (some 13) l1] []))) (some (Ex.exit 0,[],[])):=by kernel_rfl
end Go.Proofs.CL
namespace Go.Proofs.CL
open Go Go.AM Go.Ama
set_option maxRecDepth 100000
theorem zvt{R:Type}(s:ByteArray)(a b c:List V)(i j:Int)(d e:List V)(k l:Int)(f:List V)(t:Bool)(g:List V)(K:ByteArray→List V→List V→List V→Int→Int→List V→List V→Int→Int→List V→Bool→List V→Option R):Zc (R:=R) [CT.str,CT.slice (some 3),CT.slice (some 5),CT.slice (some 3),CT.int,CT.int,CT.slice (some 3),CT.slice (some 3),CT.int,CT.int,CT.slice (some 3),CT.bool,CT.slice (some 9)]
  (.agg [.str s, .vec .plain (some 3) a, .vec .plain (some 5) b, .vec .plain (some 3) c, .int i, .int j, .vec .plain (some 3) d, .vec .plain (some 3) e, .int k, .int l, .vec .plain (some 3) f, .bool t, .vec .plain (some 9) g]) K=K s a b c i j d e k l f t g:=rfl
theorem zwp{R:Type}(a b:List V)(i j:Int)(c d:List V)(k l:Int)(e:List V)(K:List V→List V→Int→Int→List V→List V→Int→Int→List V→Option R):Zc (R:=R) [CT.slice (some 5),CT.slice (some 3),CT.int,CT.int,CT.slice (some 3),CT.slice (some 6),CT.int,CT.int,CT.slice (some 3)]
  (.agg [.vec .plain (some 5) a, .vec .plain (some 3) b, .int i, .int j, .vec .plain (some 3) c, .vec .plain (some 6) d, .int k, .int l, .vec .plain (some 3) e]) K=K a b i j c d k l e:=rfl
theorem zuz(a b:V)(l:List V):ZP (a::b::l) 1=b:=rfl
theorem zt5(a:V)(l:List V):ZP (a::l) 0=a:=rfl
theorem zu0:Ev 9 [] (.bool true):=by
 have hn:=zvs.p (h2:=by kernel_rfl)
 have hd:=zsb.p (h2:=by kernel_rfl)
 have hh:=zuy.p (h1:=by kernel_rfl)
 have h0:=zwm.p (h1:=by kernel_rfl)
 have h1:=zwo.p (h1:=by kernel_rfl)
 have h2:=zwn.p (h1:=by kernel_rfl)
 simp only[exS,exF,exZ,zvr,exN]at hn hd hh h0 h1 h2
 unfold Ev
 rw[C,zkV,hd]
 rw[Zg,zvt]
 simp only[List.length_cons,List.length_nil,zuz,zt5,zwp,hn,hh,h0,h1,h2,Zg,YZ,ZB]
 simp
end Go.Proofs.CL
namespace Go.Proofs.CL
open Go Go.AM
set_option maxRecDepth 20000
end Go.Proofs.CL
namespace Go.Proofs.CL
open Go Go.AM
set_option maxRecDepth 20000
end Go.Proofs.CL
namespace Go.Proofs.CL
open Go Go.AM Go.Ama
set_option maxRecDepth 20000
theorem ziI{n:Nat}{cs:List V}(h:WT Tryz.prog n 3 cs): ∃z:Int,cs=[.int z]∧I64 z:=by
 cases n with
 |zero=>exact h.elim
 |succ n=>
  simp only[WT,Tryz.underlying3]at h
  obtain⟨z,h1,h2⟩:=h
  refine⟨z,h1, ?_⟩
  simpa[Lit.wf,IntKind.min,IntKind.max,IntKind.signed,IntKind.bits,I64]using h2
theorem zkj{n:Nat}{cs:List V}(h:WT Tryz.prog n 9 cs): ∃s:Bytes,cs=[.str (ba s)]:=by
 cases n with
 |zero=>exact h.elim
 |succ n=>
  simp only[WT,Tryz.underlying9]at h
  obtain⟨s,h1,h2⟩:=h
  exact⟨s.data.toList,by rw[ztX];exact h1⟩
theorem zwq:shOf Tryz.prog 3=none:=by kernel_rfl
theorem zoV:Tryz.prog.cellsOf 3=1:=by kernel_rfl
theorem zis:Tryz.prog.cellsOf 9=1:=by kernel_rfl
theorem one_cell{v:V}(h:Shaped none v):AM.cellsOf v=[v]:=by cases v<;>first|rfl|exact h.elim
theorem zu1{v:V}(h:(∃n,WT Tryz.prog n 3 (AM.cellsOf v))∧Shaped (shOf Tryz.prog 3) v): ∃z,v= .int z∧I64 z:=by
 obtain⟨⟨n,h1⟩,h2⟩:=h
 rw[zwq]at h2
 rw[one_cell h2]at h1
 obtain⟨z,hz,h3⟩:=ziI h1
 simp only[List.cons.injEq,and_true]at hz
 exact⟨z,hz,h3⟩
theorem zwr{f:Nat}{args:List V}(h:Ev f args (.bool true)): ∃m st,(XJ Tryz.prog cfg ext m).call f args []=some (.ret (.bool true),st):=by
 obtain⟨m,hm⟩:=ztQ h
 exact⟨m,[],hm⟩
end Go.Proofs.CL
namespace Go.Proofs.CL
open Go Go.AM Go.Ama
set_option maxRecDepth 20000
theorem zvu:shOf Tryz.prog 27=some 3:=by kernel_rfl
theorem zbv:Tryz.prog.cellsOf 25=1:=by kernel_rfl
theorem zaU:Tryz.prog.cellsOf 27=3:=by kernel_rfl
theorem zvv:shOf Tryz.prog 116=some 4:=by kernel_rfl
theorem zu2:shOf Tryz.prog 22=none:=by kernel_rfl
theorem zsc:Tryz.prog.cellsOf 116=4:=by kernel_rfl
theorem zws{l:List V}(h:l.length=3): ∃x y z,l=[x,y,z]:=by
 match l,h with
 |[x,y,z],_=>exact⟨x,y,z,rfl⟩
theorem zwt{l:List V}(h:l.length=4): ∃x y z w,l=[x,y,z,w]:=by
 match l,h with
 |[x,y,z,w],_=>exact⟨x,y,z,w,rfl⟩
theorem Xe: ∀n:Nat,(∀cs,WT Tryz.prog n 27 cs→ ∃t,V.agg cs=enc t)∧(∀cs,WT Tryz.prog n 25 cs→ ∃ts,cs=[.vec .plain (some 3) (Zf ts)]):=by
 intro n
 induction n with
 |zero=>exact⟨fun cs h=>h.elim,fun cs h=>h.elim⟩
 |succ n ih=>
  refine⟨fun cs h=> ?_,fun cs h=> ?_⟩
  ·simp only[WT,Tryz.underlying27]at h
   obtain⟨hl,hf⟩:=h
   rw[zaU]at hl
   obtain⟨x,y,z,rfl⟩:=zws hl
   simp only[List.forall_mem_cons]at hf
   obtain⟨f1,f2,f3,_⟩:=hf
   simp only[zoV,zbv,List.drop_zero,List.drop_succ_cons,List.take_succ_cons,List.take_zero]at f1 f2 f3
   obtain⟨k,hk,_⟩:=ziI f1
   obtain⟨h,hh,_⟩:=ziI f2
   obtain⟨ts,hts⟩:=ih.2 _ f3
   cases hk;cases hh;cases hts
   exact⟨.mk k h ts,rfl⟩
  ·simp only[WT,Tryz.underlying25]at h
   obtain⟨es,rfl,_,he⟩:=h
   rw[zvu]at he⊢
   have: ∀es:List V,(∀v∈es,Shaped (some 3) v∧WT Tryz.prog n 27 (AM.cellsOf v))→ ∃ts,es=Zf ts:=by
    intro es
    induction es with
    |nil=>intro _;exact⟨[],rfl⟩
    |cons v es ihe=>
     intro h
     obtain⟨h1,h2⟩:=h v (by simp)
     obtain⟨ts,hts⟩:=ihe fun u hu=>h u (by simp[hu])
     cases v with
     |agg cs=>
      obtain⟨t,ht⟩:=ih.1 cs h2
      exact⟨t::ts,by rw[Qn,←ht,hts]⟩
     |_=>exact h1.elim
   obtain⟨ts,rfl⟩:=this es he
   exact⟨ts,rfl⟩
theorem zsd: ∀n cs,WT Tryz.prog n 116 cs→ ∃d,V.agg cs=zdM d:=by
 intro n cs h
 cases n with
 |zero=>exact h.elim
 |succ n=>
  simp only[WT,Tryz.underlying116]at h
  obtain⟨hl,hf⟩:=h
  rw[zsc]at hl
  obtain⟨x,y,z,w,rfl⟩:=zwt hl
  simp only[List.forall_mem_cons]at hf
  obtain⟨f1,f2,_⟩:=hf
  simp only[zis,zaU,List.drop_zero,List.drop_succ_cons,List.take_succ_cons,List.take_zero]at f1 f2
  obtain⟨s,hs⟩:=zkj f1
  obtain⟨t,ht⟩:=(Xe n).1 _ f2
  cases hs
  obtain⟨k,h,l⟩:=t
  simp only[enc,V.agg.injEq,List.cons.injEq,and_true]at ht
  obtain⟨rfl,rfl,rfl⟩:=ht
  exact⟨⟨s, .mk k h l⟩,rfl⟩
theorem zse{v:V}(h:(∃n,WT Tryz.prog n 22 (AM.cellsOf v))∧Shaped (shOf Tryz.prog 22) v): ∃l,v= .vec .plain (some 4) (Ye l):=by
 obtain⟨⟨n,h1⟩,h2⟩:=h
 rw[zu2]at h2
 rw[one_cell h2]at h1
 cases n with
 |zero=>exact h1.elim
 |succ n=>
  simp only[WT,Tryz.underlying22]at h1
  obtain⟨es,he0,_,he⟩:=h1
  rw[zvv]at he he0
  have: ∀es:List V,(∀v∈es,Shaped (some 4) v∧WT Tryz.prog n 116 (AM.cellsOf v))→ ∃l,es=Ye l:=by
   intro es
   induction es with
   |nil=>intro _;exact⟨[],rfl⟩
   |cons v es ihe=>
    intro h
    obtain⟨h1,h2⟩:=h v (by simp)
    obtain⟨l,hl⟩:=ihe fun u hu=>h u (by simp[hu])
    cases v with
    |agg cs=>
     obtain⟨d,hd⟩:=zsd n cs h2
     exact⟨d::l,by rw[hl,hd];rfl⟩
    |_=>exact h1.elim
  obtain⟨l,rfl⟩:=this es he
  simp only[List.cons.injEq,and_true]at he0
  exact⟨l,he0⟩
end Go.Proofs.CL
namespace Go.Proofs.CL
open Go Go.AM Go.Ama
set_option maxRecDepth 20000
theorem ze3{α:Type}{en:α→V}{sl e k:Nat}(hu:Tryz.prog.underlying sl=some (.slice e))(hsh:shOf Tryz.prog e=some k)(hd: ∀n cs,WT Tryz.prog n e cs→ ∃a,V.agg cs=en a):
  ∀n cs,WT Tryz.prog n sl cs→ ∃l:List α,cs=[.vec .plain (some k) (l.map en)]:=by
 intro n cs h
 cases n with
 |zero=>exact h.elim
 |succ n=>
  simp only[WT,hu]at h
  obtain⟨es,he0,_,he⟩:=h
  rw[hsh]at he he0
  have: ∀es:List V,(∀v∈es,Shaped (some k) v∧WT Tryz.prog n e (AM.cellsOf v))→ ∃l:List α,es=l.map en:=by
   intro es
   induction es with
   |nil=>intro _;exact⟨[],rfl⟩
   |cons v es ihe=>
    intro h
    obtain⟨h1,h2⟩:=h v (by simp)
    obtain⟨l,hl⟩:=ihe fun u hu=>h u (by simp[hu])
    cases v with
    |agg cs=>
     obtain⟨d,hd⟩:=hd n cs h2
     exact⟨d::l,by rw[hl,hd];rfl⟩
    |_=>exact h1.elim
  obtain⟨l,rfl⟩:=this es he
  exact⟨l,he0⟩
theorem zqt{α:Type}{en:α→V}{sl:Nat}{k:Nat}(hsh:shOf Tryz.prog sl=none)(hd: ∀n cs,WT Tryz.prog n sl cs→ ∃l:List α,cs=[.vec .plain (some k) (l.map en)]){v:V}(h:(∃n,WT Tryz.prog n sl (AM.cellsOf v))∧Shaped (shOf Tryz.prog sl) v): ∃l:List α,v= .vec .plain (some k) (l.map en):=by
 obtain⟨⟨n,h1⟩,h2⟩:=h
 rw[hsh]at h2
 rw[one_cell h2]at h1
 obtain⟨l,hl⟩:=hd n _ h1
 simp only[List.cons.injEq,and_true]at hl
 exact⟨l,hl⟩
theorem zit{α:Type}{en:α→V}{t k:Nat}(hsh:shOf Tryz.prog t=some k)(hd: ∀n cs,WT Tryz.prog n t cs→ ∃a:α,V.agg cs=en a){v:V}(h:(∃n,WT Tryz.prog n t (AM.cellsOf v))∧Shaped (shOf Tryz.prog t) v): ∃a,v=en a:=by
 obtain⟨⟨n,h1⟩,h2⟩:=h
 rw[hsh]at h2
 cases v with
 |agg cs=>exact hd n cs h1
 |_=>exact h2.elim
theorem zoW{n:Nat}{cs:List V}(h:WT Tryz.prog n 4 cs): ∃b,cs=[.bool b]:=by
 cases n with
 |zero=>exact h.elim
 |succ n=>simpa only[WT,Tryz.underlying4]using h
theorem zlH:Tryz.prog.cellsOf 4=1:=by kernel_rfl
theorem JY{cs:List V}{t:T}(h:V.agg cs=enc t):cs=[.int t.k, .int t.h, .vec .plain (some 3) (Zf t.args)]:=by
 rw[Zb]at h;simpa using h
theorem zvw:shOf Tryz.prog 47=some 5:=by kernel_rfl
theorem zsf:Tryz.prog.cellsOf 47=5:=by kernel_rfl
theorem zkk:Tryz.prog.cellsOf 24=1:=by kernel_rfl
theorem Xp{n:Nat}{l:List V}(h:l.length=n+1): ∃x r,l=x::r∧r.length=n:=by
 cases l with
 |nil=>simp at h
 |cons x r=>exact⟨x,r,rfl,by simpa using h⟩
theorem zsg: ∀n cs,WT Tryz.prog n 47 cs→ ∃m,V.agg cs=JU m:=by
 intro n cs h
 cases n with
 |zero=>exact h.elim
 |succ n=>
  simp only[WT,Tryz.underlying47]at h
  obtain⟨hl,hf⟩:=h
  rw[zsf]at hl
  obtain⟨a1,cs1,e1,hl1⟩:=Xp hl
  obtain⟨a2,cs2,e2,hl2⟩:=Xp hl1
  obtain⟨a3,cs3,e3,hl3⟩:=Xp hl2
  obtain⟨a4,cs4,e4,hl4⟩:=Xp hl3
  obtain⟨a5,cs5,e5,hl5⟩:=Xp hl4
  have e0:=List.length_eq_zero_iff.1 hl5
  subst e0 e5 e4 e3 e2 e1
  simp only[List.forall_mem_cons]at hf
  obtain⟨f1,f2,f3,_⟩:=hf
  simp only[zbv,zaU,zlH,List.drop_zero,List.drop_succ_cons,List.take_succ_cons,List.take_zero]at f1 f2 f3
  obtain⟨ctx,hc⟩:=(Xe n).2 _ f1
  obtain⟨t,ht⟩:=(Xe n).1 _ f2
  obtain⟨b,hb⟩:=zoW f3
  have ht:=JY ht
  simp only[List.cons.injEq,and_true]at hc ht hb
  obtain⟨rfl,rfl,rfl⟩:=ht
  subst hc hb
  exact⟨⟨ctx,t,b⟩,rfl⟩
theorem zkl: ∀n cs,WT Tryz.prog n 24 cs→ ∃l,cs=[.vec .plain (some 5) (ZA l)]:=ze3 Tryz.underlying24 zvw zsg
theorem zvx:shOf Tryz.prog 43=some 6:=by kernel_rfl
theorem zsh:Tryz.prog.cellsOf 43=6:=by kernel_rfl
theorem zqu:Tryz.prog.cellsOf 28=1:=by kernel_rfl
theorem zsi: ∀n cs,WT Tryz.prog n 43 cs→ ∃m,V.agg cs=X2 m:=by
 intro n cs h
 cases n with
 |zero=>exact h.elim
 |succ n=>
  simp only[WT,Tryz.underlying43]at h
  obtain⟨hl,hf⟩:=h
  rw[zsh]at hl
  obtain⟨a1,cs1,e1,hl1⟩:=Xp hl
  obtain⟨a2,cs2,e2,hl2⟩:=Xp hl1
  obtain⟨a3,cs3,e3,hl3⟩:=Xp hl2
  obtain⟨a4,cs4,e4,hl4⟩:=Xp hl3
  obtain⟨a5,cs5,e5,hl5⟩:=Xp hl4
  obtain⟨a6,cs6,e6,hl6⟩:=Xp hl5
  have e0:=List.length_eq_zero_iff.1 hl6
  subst e0 e6 e5 e4 e3 e2 e1
  simp only[List.forall_mem_cons]at hf
  obtain⟨f1,f2,f3,f4,_⟩:=hf
  simp only[zoV,zbv,zaU,List.drop_zero,List.drop_succ_cons,List.take_succ_cons,List.take_zero]at f1 f2 f3 f4
  obtain⟨k,hk,_⟩:=ziI f1
  obtain⟨e,he⟩:=(Xe n).2 _ f2
  obtain⟨th,hth⟩:=(Xe n).2 _ f3
  obtain⟨t,ht⟩:=(Xe n).1 _ f4
  have ht:=JY ht
  simp only[List.cons.injEq,and_true]at hk he hth ht
  obtain⟨rfl,rfl,rfl⟩:=ht
  subst hk he hth
  exact⟨⟨k,e,th,t⟩,rfl⟩
theorem zqv: ∀n cs,WT Tryz.prog n 28 cs→ ∃l,cs=[.vec .plain (some 6) (XS l)]:=ze3 Tryz.underlying28 zvx zsi
theorem zoX:shOf Tryz.prog 30=some 9:=by kernel_rfl
theorem zoY:Tryz.prog.cellsOf 30=9:=by kernel_rfl
theorem zmT:Tryz.prog.cellsOf 37=1:=by kernel_rfl
theorem ziu: ∀n cs,WT Tryz.prog n 30 cs→ ∃m,V.agg cs=XT m:=by
 intro n cs h
 cases n with
 |zero=>exact h.elim
 |succ n=>
  simp only[WT,Tryz.underlying30]at h
  obtain⟨hl,hf⟩:=h
  rw[zoY]at hl
  obtain⟨a1,cs1,e1,hl1⟩:=Xp hl
  obtain⟨a2,cs2,e2,hl2⟩:=Xp hl1
  obtain⟨a3,cs3,e3,hl3⟩:=Xp hl2
  obtain⟨a4,cs4,e4,hl4⟩:=Xp hl3
  obtain⟨a5,cs5,e5,hl5⟩:=Xp hl4
  obtain⟨a6,cs6,e6,hl6⟩:=Xp hl5
  obtain⟨a7,cs7,e7,hl7⟩:=Xp hl6
  obtain⟨a8,cs8,e8,hl8⟩:=Xp hl7
  obtain⟨a9,cs9,e9,hl9⟩:=Xp hl8
  have e0:=List.length_eq_zero_iff.1 hl9
  subst e0 e9 e8 e7 e6 e5 e4 e3 e2 e1
  simp only[List.forall_mem_cons]at hf
  obtain⟨f1,f2,f3,f4,f5,_⟩:=hf
  simp only[zkk,zbv,zaU,zqu,List.drop_zero,List.drop_succ_cons,List.take_succ_cons,List.take_zero]at f1 f2 f3 f4 f5
  obtain⟨ms,hms⟩:=zkl _ _ f1
  obtain⟨th,hth⟩:=(Xe n).2 _ f2
  obtain⟨p,hp⟩:=(Xe n).1 _ f3
  obtain⟨cl,hcl⟩:=zqv _ _ f4
  obtain⟨r,hr⟩:=(Xe n).1 _ f5
  have hp:=JY hp
  have hr:=JY hr
  simp only[List.cons.injEq,and_true]at hms hth hp hcl hr
  obtain⟨rfl,rfl,rfl⟩:=hp
  obtain⟨rfl,rfl,rfl⟩:=hr
  subst hms hth hcl
  exact⟨⟨ms,th,p,cl,r⟩,rfl⟩
theorem zmU: ∀n cs,WT Tryz.prog n 37 cs→ ∃l,cs=[.vec .plain (some 9) (JW l)]:=ze3 Tryz.underlying37 zoX ziu
theorem zqw{v:V}(h:(∃n,WT Tryz.prog n 30 (AM.cellsOf v))∧Shaped (shOf Tryz.prog 30) v): ∃m,v=XT m:=zit zoX ziu h
theorem zuN:shOf Tryz.prog 39=some 13:=by kernel_rfl
theorem zt6:Tryz.prog.cellsOf 39=13:=by kernel_rfl
theorem zoZ: ∀n cs,WT Tryz.prog n 39 cs→ ∃m,V.agg cs=Xd m:=by
 intro n cs h
 cases n with
 |zero=>exact h.elim
 |succ n=>
  simp only[WT,Tryz.underlying39]at h
  obtain⟨hl,hf⟩:=h
  rw[zt6]at hl
  obtain⟨a1,cs1,e1,hl1⟩:=Xp hl
  obtain⟨a2,cs2,e2,hl2⟩:=Xp hl1
  obtain⟨a3,cs3,e3,hl3⟩:=Xp hl2
  obtain⟨a4,cs4,e4,hl4⟩:=Xp hl3
  obtain⟨a5,cs5,e5,hl5⟩:=Xp hl4
  obtain⟨a6,cs6,e6,hl6⟩:=Xp hl5
  obtain⟨a7,cs7,e7,hl7⟩:=Xp hl6
  obtain⟨a8,cs8,e8,hl8⟩:=Xp hl7
  obtain⟨a9,cs9,e9,hl9⟩:=Xp hl8
  obtain⟨b1,cs10,e10,hl10⟩:=Xp hl9
  obtain⟨b2,cs11,e11,hl11⟩:=Xp hl10
  obtain⟨b3,cs12,e12,hl12⟩:=Xp hl11
  obtain⟨b4,cs13,e13,hl13⟩:=Xp hl12
  have e0:=List.length_eq_zero_iff.1 hl13
  subst e0 e13 e12 e11 e10 e9 e8 e7 e6 e5 e4 e3 e2 e1
  simp only[List.forall_mem_cons]at hf
  obtain⟨f1,f2,f3,f4,f5,f6,f7,f8,f9,_⟩:=hf
  simp only[zis,zlH,zkk,zbv,zaU,zmT,List.drop_zero,List.drop_succ_cons,List.take_succ_cons,List.take_zero]at f1 f2 f3 f4 f5 f6 f7 f8 f9
  obtain⟨nm,hnm⟩:=zkj f1
  obtain⟨sc,hsc⟩:=(Xe n).2 _ f2
  obtain⟨dl,hdl⟩:=zkl _ _ f3
  obtain⟨ps,hps⟩:=(Xe n).2 _ f4
  obtain⟨a,ha⟩:=(Xe n).1 _ f5
  obtain⟨ph,hph⟩:=(Xe n).2 _ f6
  obtain⟨b,hb⟩:=(Xe n).1 _ f7
  obtain⟨t,ht⟩:=zoW f8
  obtain⟨c,hc⟩:=zmU _ _ f9
  have ha:=JY ha
  have hb:=JY hb
  simp only[List.cons.injEq,and_true]at hnm hsc hdl hps ha hph hb ht hc
  obtain⟨rfl,rfl,rfl⟩:=ha
  obtain⟨rfl,rfl,rfl⟩:=hb
  subst hnm hsc hdl hps hph ht hc
  exact⟨⟨nm,sc,dl,ps,a,ph,b,t,c⟩,rfl⟩
theorem zu3{v:V}(h:(∃n,WT Tryz.prog n 39 (AM.cellsOf v))∧Shaped (shOf Tryz.prog 39) v): ∃m,v=Xd m:=zit zuN zoZ h
end Go.Proofs.CL
namespace Go.Ama
open Go Go.AM
end Go.Ama
namespace Go.Proofs.CL
open Go Go.AM Go.Ama
set_option maxRecDepth 100000
theorem zkW(l:List Fun1)(hb:Yc (Yx l)≤4398046511104):Ev 11 [.vec .plain (some 13) (Yx l)] (.bool (zec l)):=by
 have hlen:=zct (Yx l)
 rw[Yj]at hlen
 have hl:=JQ (L:=fun i=>W.loop 11 4 [.int i, .vec .plain (some 13) (Yx l)] []) (xs:=l) (g:=zaK) (e0:=(Ex.exit 0,[],[])) (e1:=(Ex.ret,[V.bool false],[]))
  (fun i hi=>by
   have hp:=(zgw l[i] (by have:=zdT (List.mem_map_of_mem (f:=Xd) (List.getElem_mem hi));simp only[Yx]at hb;omega)).p (by simp[Zk,below,Zv])
   have hlt:decide ((i:Int)<l.length)=true:=by simp;omega
   show W.loop _ _ _ _=_
   rw[L,zau,Yj,zdS hi,Zu ⟨by omega,by omega⟩]
   simp only[hlt,Int.natCast_nonneg,decide_true,Z4,Bool.and_self,Z6,zki,←Zv,hp,Zg,ZH]
   cases zaK l[i]<;>rfl)
  (by
   show W.loop _ _ _ _=_
   rw[L,zau,Yj]
   simp)
 unfold Ev zec
 have e20:decide ((l.length:Int)>20)= !decide (l.length≤20):=JX l.length 20
 have hl':W.loop 11 4 [.int 0, .vec .plain (some 13) (Yx l)] []=_:=hl
 rw[C,zgB,Yj,hl',e20]
 cases decide (l.length≤20)<;>cases l.all zaK<;>rfl
theorem zvy:shOf Tryz.prog 23=none:=by kernel_rfl
theorem zsj: ∀n cs,WT Tryz.prog n 23 cs→ ∃l,cs=[.vec .plain (some 13) (Yx l)]:=ze3 Tryz.underlying23 zuN zoZ
theorem zt7{v:V}(h:(∃n,WT Tryz.prog n 23 (AM.cellsOf v))∧Shaped (shOf Tryz.prog 23) v): ∃l,v= .vec .plain (some 13) (Yx l):=zqt zvy zsj h
end Go.Proofs.CL
namespace Go.Proofs.CL
open Go Go.AM
set_option maxRecDepth 20000
theorem zf6(O:Oracle)(l0:(List V))(l1:(List V))(n2:Int)(l3:(List V))(l4:(List V))(n5:Int)(n6:Int)(l7:(List V))(l8:(List V))(n9:Int)(n10:Int)(l11:(List V))(s12:ByteArray)(l13:(List V))(l14:(List V))(l15:(List V))(n16:Int)(n17:Int)(l18:(List V))(l19:(List V))(n20:Int)(n21:Int)(l22:(List V))(b23:Bool)(l24:(List V)):Ze Tryz.prog cfg O 5 [.vec .plain (some 4) l0, .vec .plain (some 13) l1, .int n2, .agg [.vec .plain (some 5) l3, .vec .plain (some 3) l4, .int n5, .int n6, .vec .plain (some 3) l7, .vec .plain (some 6) l8, .int n9, .int n10, .vec .plain (some 3) l11], .agg [.str s12, .vec .plain (some 3) l13, .vec .plain (some 5) l14, .vec .plain (some 3) l15, .int n16, .int n17, .vec .plain (some 3) l18, .vec .plain (some 3) l19, .int n20, .int n21, .vec .plain (some 3) l22, .bool b23, .vec .plain (some 9) l24]] []=
 Za (Zj O 9 []) fun r1=>Zl r1 fun b2=>Za (Zj O 10 [V.vec .plain (some 4) l0,V.vec .plain (some 5) [],V.vec .plain (some 3) []]) fun r3=>
 Zl r3 fun b4=>Za (Zj O 11 [V.vec .plain (some 13) l1]) fun r5=>Zl r5 fun b6=>Za (Zj O 12 [V.agg [V.vec .plain (some 5)
 l3,V.vec .plain (some 3) l4,V.int n5,V.int n6,V.vec .plain (some 3) l7,V.vec .plain (some 6) l8,V.int n9,V.int n10,V.vec .plain (some 3) l11]]) fun r7=>Zl r7 fun b8
 =>Za (Zj O 17 [V.agg [V.str s12,V.vec .plain (some 3) l13,V.vec .plain (some 5) l14,V.vec .plain (some 3) l15,V.int n16,V.int n17,V.vec .plain (some 3)
 l18,V.vec .plain (some 3) l19,V.int n20,V.int n21,V.vec .plain (some 3) l22,V.bool b23,V.vec .plain (some 9) l24]]) fun r9=>Zl r9 fun b10=>bc (!b2) (some (Out.ret
 (V.bool b2),[])) (bc (!b4) (some (Out.ret (V.bool b2),[])) (bc (!b6) (some (Out.ret (V.bool b2),[])) (bc (!b8) (some (Out.ret (V.bool b2),[])) (bc (!b10) (some (Out.ret
 (V.bool b2),[])) (Za (Zj O 15 [V.vec .plain (some 4) l0,V.vec .plain (some 13) l1,V.int n2,V.agg [V.vec .plain (some 5) l3,V.vec .plain (some 3) l4,V.int
 n5,V.int n6,V.vec .plain (some 3) l7,V.vec .plain (some 6) l8,V.int n9,V.int n10,V.vec .plain (some 3) l11]]) fun r11=>Zm r11 fun n12=>gd (true&&roomFor Tryz.prog
 39 l1.length) (Za (O.loop 5 11 [V.int 0,V.row (some 13) 0 0 l1.length,V.int n12,V.loc false (some 9) (V.agg [V.vec .plain (some 5) l3,V.vec
 .plain (some 3) l4,V.int n5,V.int n6,V.vec .plain (some 3) l7,V.vec .plain (some 6) l8,V.int n9,V.int n10,V.vec .plain (some 3) l11]),V.int n2,V.loc false (some 13)
 (V.agg [V.str s12,V.vec .plain (some 3) l13,V.vec .plain (some 5) l14,V.vec .plain (some 3) l15,V.int n16,V.int n17,V.vec .plain (some 3) l18,V.vec .plain (some 3) l19,
 V.int n20,V.int n21,V.vec .plain (some 3) l22,V.bool b23,V.vec .plain (some 9) l24]),V.vec .plain (some 4) l0] [Res.row (some 13) l1]) fun r13=>Xk r13.fst none none (fun
 i14=>bc (i14.beq 0) (Zd r13.snd.fst fun v15 c16=>Zm v15 fun n17=>Zd c16 fun v18 c19=>Y0 (some 9) v18 fun d20 v21=>Zc [CT.slice (some 5),CT.slice
 (some 3),CT.int,CT.int,CT.slice (some 3),CT.slice (some 6),CT.int,CT.int,CT.slice (some 3)] (bif d20 then Zs v21 else v21) fun l22 l23 n24 n25 l26 l27 n28 n29 l30=>
 Zd c19 fun v31 c32=>Zm v31 fun n33=>Zd c32 fun v34 c35=>Y0 (some 13) v34 fun d36 v37=>Zc [CT.str,CT.slice (some 3),CT.slice (some 5),CT.slice (some
 3),CT.int,CT.int,CT.slice (some 3),CT.slice (some 3),CT.int,CT.int,CT.slice (some 3),CT.bool,CT.slice (some 9)] (bif d36 then Zs v37 else v37) fun s38 l39 l40 l41 n42
 n43 l44 l45 n46 n47 l48 b49 l50=>Zd c35 fun v51 c52=>Qo (some 13) v51 fun r53 lo54 n55=>Zd c52 fun v56 c57=>Yp (some 4) v56 fun l58=>Zn c57 (Zw
 r13.snd.snd r53 fun x59=>za0 x59 fun sh60 l61=>gd (decide (sh60=some 13)&&decide (lo54+n55≤l61.length)) (Za (Zj O 15 [V.vec .plain (some 4) l58,
 V.vec .plain (some 13) (List.take n55 (List.drop lo54 l61)),V.int n33,V.agg [V.vec .plain (some 5) l22,V.vec .plain (some 3) l23,V.int n24,V.int n25,V.vec .plain (some 3)
 l26,V.vec .plain (some 6) l27,V.int n28,V.int n29,V.vec .plain (some 3) l30]]) fun r62=>Zm r62 fun n63=>gd (true&&roomFor Tryz.prog 39 (0+(List.take n55
 (List.drop lo54 l61)).length)) (gd (true&&roomFor Tryz.prog 39 (([]++List.take n55 (List.drop lo54 l61)).length+[V.agg [V.str s38,V.vec .plain (some 3) l39,V.vec
 .plain (some 5) l40,V.vec .plain (some 3) l41,V.int n42,V.int n43,V.vec .plain (some 3) l44,V.vec .plain (some 3) l45,V.int n46,V.int n47,V.vec .plain (some 3) l48,V.bool
 b49,V.vec .plain (some 9) l50]].length)) (Za (Zj O 15 [V.vec .plain (some 4) l58,V.vec .plain (some 13) ([]++List.take n55 (List.drop lo54 l61)++[V.agg
 [V.str s38,V.vec .plain (some 3) l39,V.vec .plain (some 5) l40,V.vec .plain (some 3) l41,V.int n42,V.int n43,V.vec .plain (some 3) l44,V.vec .plain (some 3) l45,V.int n46,
 V.int n47,V.vec .plain (some 3) l48,V.bool b49,V.vec .plain (some 9) l50]]),V.int n33,V.agg [V.vec .plain (some 5) l22,V.vec .plain (some 3) l23,V.int n24,V.int n25,V.vec
 .plain (some 3) l26,V.vec .plain (some 6) l27,V.int n28,V.int n29,V.vec .plain (some 3) l30]]) fun r64=>Zm r64 fun n65=>bc (n17==n63) (bc (n17 !=0) (some (Out.ret
 (V.bool true),[])) (some (Out.ret (V.bool (n65==0)),[]))) (some (Out.ret (V.bool false),[]))))))) none) fun v66=>none)))))):=by kernel_rfl
theorem JA(O:Oracle)(i e no:Int)(m:Nat)(zs sg c1 c2:List V)(c3 c4:Int)(c5 c6:List V)(c7 c8:Int)(c9:List V)(s1:ByteArray)(l2 l3 l4:List V)(n5 n6:Int)(l7 l8:List V)(n9 n10:Int)(l11:List V)(b12:Bool)(l13:List V):Zz Tryz.prog cfg O 5 11 [.int i, .row (some 13) 0 0 m, .int e, .loc false (some 9) (.agg [.vec .plain (some 5) c1, .vec .plain (some 3) c2, .int c3, .int c4, .vec .plain (some 3) c5, .vec .plain (some 6) c6, .int c7, .int c8, .vec .plain (some 3) c9]), .int no, .loc false (some 13) (.agg [.str s1, .vec .plain (some 3) l2, .vec .plain (some 5) l3, .vec .plain (some 3) l4, .int n5, .int n6, .vec .plain (some 3) l7, .vec .plain (some 3) l8, .int n9, .int n10, .vec .plain (some 3) l11, .bool b12, .vec .plain (some 9) l13]), .vec .plain (some 4) sg] [.row (some 13) zs]=
 bc (decide (i<(↑m:Int))) (gd (decide (0≤i)&&decide (i<(↑m:Int))) (gd (true&&decide (0+i.toNat<zs.length)) (Xc (zs.getD (0+i.toNat) V.undef) fun c1_1=>
 Zl (AM.partOf c1_1 11 none) fun b2=>gd (decide (0≤i)&&decide (i<(↑m:Int))) (gd (true&& !isGrow (V.bool !b2)&&decide (0+i.toNat<zs.length)) (Xc (zs.getD (0
 +i.toNat) V.undef) fun c3_1=>gd (decide (0≤i)&&decide (i<(↑m:Int))) (gd (true&& !isGrow (V.vec .plain (some 9) [])&&decide (0+i.toNat<(zs.set (0+i.toNat)
 (V.agg (setCells c3_1 11 [V.bool !b2]))).length)) (Xc ((zs.set (0+i.toNat) (V.agg (setCells c3_1 11 [V.bool !b2]))).getD (0+i.toNat) V.undef) fun c4_1=>O.2
 5 11 [V.int (IntKind.i64.wrap (i+1)),V.row (some 13) 0 0 m,V.int e,V.loc false (some 9) (V.agg [V.vec .plain (some 5) c1,V.vec .plain (some 3) c2,V.int c3,
 V.int c4,V.vec .plain (some 3) c5,V.vec .plain (some 6) c6,V.int c7,V.int c8,V.vec .plain (some 3) c9]),V.int no,V.loc false (some 13) (V.agg [V.str s1,V.vec .plain (some
 3) l2,V.vec .plain (some 5) l3,V.vec .plain (some 3) l4,V.int n5,V.int n6,V.vec .plain (some 3) l7,V.vec .plain (some 3) l8,V.int n9,V.int n10,V.vec .plain (some 3) l11,
 V.bool b12,V.vec .plain (some 9) l13]),V.vec .plain (some 4) sg] [Res.row (some 13) ((zs.set (0+i.toNat) (V.agg (setCells c3_1 11 [V.bool !b2]))).set (0+i.toNat) (V.agg
 (setCells c4_1 12 [V.vec .plain (some 9) []])))]))))))) (some (Ex.exit 0,[V.int e,V.loc false (some 9) (V.agg [V.vec .plain (some 5) c1,V.vec .plain (some 3) c2,V.int c3,
 V.int c4,V.vec .plain (some 3) c5,V.vec .plain (some 6) c6,V.int c7,V.int c8,V.vec .plain (some 3) c9]),V.int no,V.loc false (some 13) (V.agg [V.str s1,V.vec .plain (some
 3) l2,V.vec .plain (some 5) l3,V.vec .plain (some 3) l4,V.int n5,V.int n6,V.vec .plain (some 3) l7,V.vec .plain (some 3) l8,V.int n9,V.int n10,V.vec .plain (some 3) l11,
 V.bool b12,V.vec .plain (some 9) l13]),V.row (some 13) 0 0 m,V.vec .plain (some 4) sg],[Res.row (some 13) zs])):=by kernel_rfl
end Go.Proofs.CL
namespace Go.Proofs.CL
open Go Go.AM Go.Ama
set_option maxRecDepth 100000
def Xq(l:List Fun1)(i:Nat):List Fun1:=(l.take i).map YM++l.drop i
theorem zaM(l:List Fun1)(i:Nat):(Xq l i).length=l.length:=by simp[Xq];omega
theorem zkX(l:List Fun1){i:Nat}(h:i<l.length):Xq l (i+1)=(Xq l i).set i (YM l[i]):=by
 unfold Xq
 have hlt:((l.take i).map YM).length=i:=by simp;omega
 rw[List.take_succ_eq_append_getElem h,List.map_append,List.append_assoc,List.set_append,if_neg (by omega),hlt,Nat.sub_self,List.drop_eq_getElem_cons h]
 rfl
theorem zmV(l:List Fun1){i:Nat}(h:i<l.length):(Xq l i)[i]'(by rw[zaM];exact h)=l[i]:=by
 have:(Xq l i)[i]? =some l[i]:=by
  unfold Xq
  have hlt:((l.take i).map YM).length=i:=by simp;omega
  rw[List.getElem?_append_right (by omega),hlt,Nat.sub_self,List.drop_eq_getElem_cons h]
  rfl
 rw[List.getElem?_eq_getElem (by rw[zaM];exact h)]at this
 exact Option.some.inj this
theorem zqx(l:List Fun1)(i:Nat)(f:Fun1):(Yx l).set i (Xd f)=Yx (l.set i f):=by simp[Yx,List.map_set]
theorem zpa{l:List Fun1}{i:Nat}(h:i<l.length):(Yx l).getD i .undef=Xd l[i]:=by
 simp[Yx,List.getD_eq_getElem?_getD,List.getElem?_map,h]
abbrev zbF(f:Fun1):List V:=[.str (ba f.name), .vec .plain (some 3) (Zf f.schema), .vec .plain (some 5) (ZA f.delta), .vec .plain (some 3) (Zf f.psi), .int f.a.k, .int f.a.h, .vec .plain (some 3) (Zf f.a.args), .vec .plain (some 3) (Zf f.phi), .int f.b.k, .int f.b.h, .vec .plain (some 3) (Zf f.b.args), .bool f.total, .vec .plain (some 9) (JW f.clauses)]
theorem zsk(f:Fun1):setCells (zbF f) 11 [V.bool !f.total]=zbF {f with total:= !f.total}:=rfl
theorem zpb(f:Fun1):setCells (zbF {f with total:= !f.total}) 12 [V.vec .plain (some 9) []]=zbF (YM f):=rfl
theorem zsl{funs:List Fun1}{c:Cl}{g:Fun1}{e no:Int}{sig:List D}(hl:funs.length≤1048576): ∀(m i:Nat),funs.length-i=m→i≤funs.length→
  W.loop 5 11 [.int (i:Int), .row (some 13) 0 0 funs.length, .int e, .loc false (some 9) (XT c), .int no, .loc false (some 13) (Xd g), .vec .plain (some 4) (Ye sig)] [.row (some 13) (Yx (Xq funs i))]=
   some (.exit 0,[.int e, .loc false (some 9) (XT c), .int no, .loc false (some 13) (Xd g), .row (some 13) 0 0 funs.length, .vec .plain (some 4) (Ye sig)],[.row (some 13) (Yx (funs.map YM))]):=by
 intro m
 induction m with
 |zero=>
  intro i hm hi
  have:i=funs.length:=by omega
  subst this
  rw[L,ZQ c,Zv g,JA,←ZQ c,←Zv g]
  simp[Xq]
 |succ m ih=>
  intro i hm hi
  have hlt:i<funs.length:=by omega
  have hlt':(i:Int)<funs.length:=by omega
  have hw:IntKind.i64.wrap ((i:Int)+1)=((i+1:Nat):Int):=by rw[Zu ⟨by omega,by omega⟩];omega
  have hi1:=ih (i+1) (by omega) (by omega)
  have hl1:i<(Yx (Xq funs i)).length:=by rw[Yj,zaM];exact hlt
  have hg:(Yx (Xq funs i)).getD i .undef= .agg (zbF funs[i]):=by
   rw[zpa (by rw[zaM];exact hlt),zmV funs hlt,Zv]
  have hp: ∀{R:Type} (K:Bool→Option R),(Xc (V.agg (zbF funs[i])) fun c1=>Zl (AM.partOf c1 11 none) K)=K funs[i].total:=fun K=>rfl
  have hgs: ∀(l:List V) (a:V) (h:i<l.length),(l.set i a).getD i .undef=a:=fun l a h=>by simp[List.getD_eq_getElem?_getD,h]
  have hfin:((Yx (Xq funs i)).set i (V.agg (zbF {funs[i]with total:= !funs[i].total}))).set i (V.agg (zbF (YM funs[i])))=Yx (Xq funs (i+1)):=by
   rw[List.set_set,zkX funs hlt,←zqx,Zv (YM funs[i])]
  rw[L,ZQ c,Zv g,JA,←ZQ c,←Zv g,hw]
  simp only[hlt',Int.natCast_nonneg,decide_true,Bool.and_self,Bool.true_and,Z6,Z4,Nat.zero_add,Int.toNat_natCast,hl1,hg,hp,zr2,isGrow,Bool.not_false,List.length_set,hgs _ _ hl1,zsk,zpb,hfin]
  exact hi1
theorem ziA(sig:List D)(funs:List Fun1)(no:Int)(c:Cl)(g:Fun1)(hb:Yc (Ye sig)+Yc (Yx funs)+YY (XT c)+YY (Xd g)≤1048576*1024):
  Ev 5 [.vec .plain (some 4) (Ye sig), .vec .plain (some 13) (Yx funs), .int no,XT c,Xd g] (.bool true):=by
 have h1:=(zjY sig [] [] (by omega) (by simp[Yc,ZA]) (by simp[sizes])).p (by simp[Zk,below,Zq])
 have h2:=(zkW funs (by omega)).p (by simp[Zk,below])
 have h3:=(zgv c (by omega)).p (by simp[Zk,below,ZQ])
 have h4:=(zgw g (by omega)).p (by simp[Zk,below,Zv])
 simp only[zrJ,QW]at h1
 unfold Ev
 rw[C,ZQ c,Zv g,zf6,←ZQ c,←Zv g,zu0.p,h1,h2,h3,h4]
 simp only[Zg,ZH,Bool.not_true,Z2]
 cases c1:zl8 sig [] []with
 |false=>simp
 |true=>
  cases c2:zec funs with
  |false=>simp
  |true=>
   cases c3:zaJ c with
   |false=>simp
   |true=>
    cases c4:zaK g with
    |false=>simp
    |true=>
     unfold zl8 at c1
     simp only[Bool.and_eq_true]at c1
     have hs:=zvp c1.1
     have hfs:=zt3 c2
     have hcl:=zqN c3
     have hg:=zqO c4
     have hft: ∀f∈funs.map YM,LoFn f:=by
      intro f hf
      obtain⟨f0,h0,rfl⟩:=List.mem_map.1 hf
      have:=hfs.2 f0 h0
      exact⟨this.dlen,this.delta,this.schema,this.psi,this.a,this.phi,this.b,by simp[YM],by simp[YM]⟩
     have k1:=(zeg (no:=no) hs ⟨by omega,hfs.2⟩ hcl).p (by simp[Zk,below,Zq,ZQ])
     have k2:=(zeg (no:=no) (funs:=funs.map YM) hs ⟨by simp;omega,hft⟩ hcl).p (by simp[Zk,below,Zq,ZQ])
     have k3:=(zeg (no:=no) (funs:=funs.map YM++[g]) hs ⟨by simp;omega,fun f hf=>by
      rcases List.mem_append.1 hf with hf|hf
      ·exact hft f hf
      ·rw[List.mem_singleton]at hf;subst hf;exact hg⟩ hcl).p (by simp[Zk,below,Zq,ZQ])
     rw[zed]at k2
     have hlp:=zsl (funs:=funs) (c:=c) (g:=g) (e:=zak sig funs no c) (no:=no) (sig:=sig) (by omega) _ 0 rfl (Nat.zero_le _)
     have ht0:Xq funs 0=funs:=by simp[Xq]
     rw[ht0]at hlp
     simp only[Int.natCast_zero]at hlp
     have hrf: ∀{n:Nat},n≤1000→roomFor Tryz.prog 39 n=true:=by
      intro n hn
      have:((Tryz.prog.info? 39).map (·.bytes)).getD 0=224:=by kernel_rfl
      unfold roomFor
      rw[this]
      simp
      omega
     have hr1:=hrf (show funs.length≤1000 by omega)
     have hr2:=hrf (show funs.length+1≤1000 by omega)
     have hol9: ∀{R:Type} (v:V) (K:Bool→V→Option R),Y0 (some 9) (.loc false (some 9) v) K=K false v:=fun v K=>by simp[Y0]
     have hol13: ∀{R:Type} (v:V) (K:Bool→V→Option R),Y0 (some 13) (.loc false (some 13) v) K=K false v:=fun v K=>by simp[Y0]
     have hgR: ∀{R:Type} (a:Res) (K:Res→Option R),Zw [a] 0 K=K a:=fun a K=>rfl
     have htk:List.take funs.length (Yx (funs.map YM))=Yx (funs.map YM):=List.take_of_length_le (by rw[Yj];simp)
     have happ:Yx (funs.map YM)++[Xd g]=Yx (funs.map YM++[g]):=by simp[Yx]
     simp only[Bool.not_true,Z2,k1,Zg,ZB,Yj,Bool.true_and,hr1,Z6,hlp,Js,show Nat.beq 0 0=true from rfl,Z4,Yk,hol9,hol13,cond_false,zwg,zki,←ZQ,←Zv,zeb,YZ,Yv,hgR,zly,List.length_map,Nat.zero_add,Nat.le_refl,decide_true,Bool.and_self,List.drop_zero,htk,k2,List.nil_append,List.length_cons,List.length_nil,hr2,happ,k3]
     by_cases hz:zak sig funs no c=0
     ·have:=zmS (sig:=sig) (funs:=funs.map YM) (no:=no) (c:=c) [g] (by rw[zed];exact hz)
      simp[hz,this]
     ·simp[hz]
theorem pure_ClauseLess: ∀us,zlt Tryz.prog [22,23,3,30,39] us→Yc us≤1048576→ ∃m st,(XJ Tryz.prog cfg ext m).call 5 us []=some (.ret (.bool true),st):=by
 intro us hW hb
 match us,hW with
 |[u,v,w,x,y],⟨h1,h2,h3,h4,h5,h6,h7,h8,h9,h10,_⟩=>
  obtain⟨sig,rfl⟩:=zse ⟨h1,h2⟩
  obtain⟨funs,rfl⟩:=zt7 ⟨h3,h4⟩
  obtain⟨no,rfl,_⟩:=zu1 ⟨h5,h6⟩
  obtain⟨c,rfl⟩:=zqw ⟨h7,h8⟩
  obtain⟨g,rfl⟩:=zu3 ⟨h9,h10⟩
  simp only[Yc,YY]at hb
  exact zwr (ziA sig funs no c g (by omega))
end Go.Proofs.CL
