import Derived.Test.YthhifgeblblmcaaGreatGa
import Derived.KernelRfl
import Derived.Test.YthhifgeblblmcaaGreatGb
/- The program's functions, each an equation of the abstract machine checked by the kernel, and what they come to as_ plain Lean. -/
set_option linter.unusedVariables false
set_option linter.unusedSimpArgs false
set_option linter.unusedSectionVars false
namespace Go.Proofs.CL
open Go Go.AM
set_option maxRecDepth 20000
theorem ziG(O:Oracle)(n0:Int)(n1:Int)(l2:(List V))(n3:Int):Ze Tryz.prog cfg O 114 [.agg [.int n0, .int n1, .vec .plain (some 3) l2], .int n3] []=
 Za (O.call 151 [V.agg [V.int n0,V.int n1,V.vec .plain (some 3) l2],V.int n3,V.fn 155 [] [V.ref 0 0]] [Res.box [V.bool true]]) fun r1=>Zx
 r1.fst (fun v2=>ZG v2 fun c3=>Zn c3 (Z3 r1.snd 0 fun x4=>ZI x4 fun c5=>gd (decide (1≤c5.length)&&true) (Zi (Zt (AM.partOf c5 0 none)) fun b6=>some
 (Out.ret (V.bool b6),[])))) fun p7=>none:=by kernel_rfl
theorem zmw(O:Oracle)(n0:Int)(n1:Int)(l2:(List V))(n3:Int)(g4:Nat)(l5:(List V))(l6:(List V))(st:St):Ze Tryz.prog cfg O 151 [.agg [.int n0, .int n1, .vec .plain (some 3) l2], .int n3, .fn g4 l5 l6] st=
 bc (cfg.pure g4) (Za (Zj O g4 (l5++[V.agg [V.int n0,V.int n1,V.vec .plain (some 3) l2],V.int n3]++l6)) fun r1=>ZG r1 fun c2=>Zn c2 (Za (O.loop
 151 3 [V.int 0,V.fn g4 l5 l6,V.int n3,V.loc false (some 3) (V.agg [V.int n0,V.int n1,V.vec .plain (some 3) l2]),V.vec .plain (some 3) l2,V.int (↑l2.length:Int)]
 st) fun r3=>Y8 r3.fst none none (fun i4=>bc (i4.beq 0) (Zn r3.snd.fst (Yt (List.length st) (V.tup []) r3.snd.snd)) none) fun v5=>none)) (Za (O.call g4 (l5++[V.agg
 [V.int n0,V.int n1,V.vec .plain (some 3) l2],V.int n3]++l6) st) fun r6=>Zx r6.fst (fun v7=>ZG v7 fun c8=>Zn c8 (Za (O.loop 151 3 [V.int 0,V.fn g4
 l5 l6,V.int n3,V.loc false (some 3) (V.agg [V.int n0,V.int n1,V.vec .plain (some 3) l2]),V.vec .plain (some 3) l2,V.int (↑l2.length:Int)] r6.snd) fun r9=>Y8 r9.fst
 none none (fun i10=>bc (i10.beq 0) (Zn r9.snd.fst (Yt (List.length st) (V.tup []) r9.snd.snd)) none) fun v11=>none)) fun p12=>none):=by kernel_rfl
theorem zdk(O:Oracle)(n0:Int)(g1:Nat)(l2:(List V))(l3:(List V))(n4:Int)(n5:Int)(n6:Int)(l7:(List V))(l8:(List V))(n9:Int)(st:St):Z1 Tryz.prog cfg O 151 3 [.int n0, .fn g1 l2 l3, .int n4, .loc false (some 3) (.agg [.int n5, .int n6, .vec .plain (some 3) l7]), .vec .plain (some 3) l8, .int n9] st=
 bc (decide (n0<n9)) (gd (decide (0≤n0)&&decide (n0<(↑l8.length:Int))) (Zc [CT.int,CT.int,CT.slice (some 3)] (ZA l8 n0) fun n1 n2 l3_1=>Za (Zj O
 184 [V.agg [V.int n5,V.int n6,V.vec .plain (some 3) l7],V.int n0,V.int n4]) fun r4=>Zl r4 fun n5_1=>Za (O.call 151 [V.agg [V.int n1,V.int n2,
 V.vec .plain (some 3) l3_1],V.int n5_1,V.fn g1 l2 l3] st) fun r6=>Zx r6.fst (fun v7=>ZG v7 fun c8=>Zn c8 (O.2 151 3 [V.int (IntKind.i64.wrap (n0+1)),
 V.fn g1 l2 l3,V.int n4,V.loc false (some 3) (V.agg [V.int n5,V.int n6,V.vec .plain (some 3) l7]),V.vec .plain (some 3) l8,V.int n9] r6.snd)) fun p9=>none)) (some (Ex.exit
 0,[],st)):=by kernel_rfl
theorem zgx(O:Oracle)(n0:Int)(n1:Int)(l2:(List V))(n3:Int)(b:Bool):Ze Tryz.prog cfg O 155 [.agg [.int n0, .int n1, .vec .plain (some 3) l2], .int n3, .ref 0 0] [.box [.bool b]]=
 bc (n0==6) (Za (Zj O 156 [V.vec .plain (some 3) l2,V.int n3]) fun r1=>ZG r1 fun c2=>Zd c2 fun v3 c4=>Yi none v3 fun l5=>Zd c4 fun v6 c7
 =>Zi v6 fun b8=>Zn c7 (bc b (some (Out.ret (V.tup []),[Res.box [V.bool b8]])) (some (Out.ret (V.tup []),[Res.box [V.bool false]])))) (some (Out.ret (V.tup []),
 [Res.box [V.bool b]])):=by kernel_rfl
theorem zjG(O:Oracle)(l0:(List V))(n1:Int):Ze Tryz.prog cfg O 156 [.vec .plain (some 3) l0, .int n1] []=
 Za (O.loop 156 3 [V.int 0,V.vec Mode.grow none [],V.int n1,V.vec .plain (some 3) l0,V.int (↑l0.length:Int)] []) fun r1=>Y8 r1.fst none (Zd r1.snd.fst
 fun v2 c3=>Yi none v2 fun l4=>Zd c3 fun v5 c6=>Zi v5 fun b7=>Zn c6 (gd (below 0 (V.tup [V.vec .plain none l4,V.bool b7])&&Zu 0 []) (some (Out.ret
 (V.tup [V.vec .plain none l4,V.bool b7]),[])))) (fun i8=>bc (i8.beq 0) (Zd r1.snd.fst fun v9 c10=>YK none v9 fun l11=>Zn c10 (gd (below 0 (V.tup [V.vec .plain
 none l11,V.bool true])&&Zu 0 []) (some (Out.ret (V.tup [V.vec .plain none l11,V.bool true]),[])))) none) fun v12=>none:=by kernel_rfl
theorem zbQ(O:Oracle)(n0:Int)(l1:(List V))(n2:Int)(l3:(List V))(n4:Int):Z1 Tryz.prog cfg O 156 3 [.int n0, .vec .grow none l1, .int n2, .vec .plain (some 3) l3, .int n4] []=
 bc (decide (n0<n4)) (gd (decide (0≤n0)&&decide (n0<(↑l3.length:Int))) (Zc [CT.int,CT.int,CT.slice (some 3)] (ZA l3 n0) fun n1 n2_1 l3_1=>bc (n1 !=4) (some
 (Ex.ret,[V.vec .plain none [],V.bool false],[])) (bc (decide ((↑l3_1.length:Int)>0)) (some (Ex.ret,[V.vec .plain none [],V.bool false],[])) (bc (decide (n2_1<0)) (some
 (Ex.ret,[V.vec .plain none [],V.bool false],[])) (bc (decide (n2_1≥n2)) (some (Ex.ret,[V.vec .plain none [],V.bool false],[])) (Za (Zj O 113
 [V.vec .plain none l1,V.int n2_1]) fun r4=>Zi r4 fun b5=>bc b5 (some (Ex.ret,[V.vec .plain none [],V.bool false],[])) (gd (true&&roomFor Tryz.prog 3 (l1.length
 +[V.int n2_1].length)) (O.2 156 3 [V.int (IntKind.i64.wrap (n0+1)),V.vec Mode.grow none (l1++[V.int n2_1]),V.int n2,V.vec .plain (some 3) l3,V.int n4]
 [])))))))) (some (Ex.exit 0,[V.vec Mode.grow none l1],[])):=by kernel_rfl
theorem zlq(O:Oracle)(n0:Int)(n1:Int)(l2:(List V))(n3:Int)(n4:Int):Ze Tryz.prog cfg O 184 [.agg [.int n0, .int n1, .vec .plain (some 3) l2], .int n3, .int n4] []=
 bc (n0==1) (bc (n3==IntKind.i64.wrap ((↑l2.length:Int)-1)) (some (Out.ret (V.int (IntKind.i64.wrap (n4+1))),[])) (some (Out.ret (V.int n4),[]))) (bc (n0==3) (bc (n3
 ==IntKind.i64.wrap ((↑l2.length:Int)-1)) (some (Out.ret (V.int (IntKind.i64.wrap (n4+1))),[])) (some (Out.ret (V.int n4),[]))) (some (Out.ret (V.int n4),[]))):=by kernel_rfl
theorem zbY(O:Oracle)(l0:(List V))(n1:Int):Ze Tryz.prog cfg O 113 [.vec .plain none l0, .int n1] []=
 Za (Zj O 154 [V.vec .plain none l0,V.int n1]) fun r1=>Zl r1 fun n2=>some (Out.ret (V.bool (decide (n2≥0))),[]):=by kernel_rfl
theorem zaa(O:Oracle)(l0:(List V))(n1:Int):Ze Tryz.prog cfg O 154 [.vec .plain none l0, .int n1] []=
 Za (O.loop 154 2 [V.int 0,V.vec .plain none l0,V.int n1,V.int (↑l0.length:Int)] []) fun r1=>Y8 r1.fst none (Zd r1.snd.fst fun v2 c3=>Zl v2
 fun n4=>Zn c3 (some (Out.ret (V.int n4),[]))) (fun i5=>bc (i5.beq 0) (Zn r1.snd.fst (some (Out.ret (V.int (-1)),[]))) none) fun v6=>none:=by kernel_rfl
theorem Jm(O:Oracle)(n0:Int)(l1:(List V))(n2:Int)(n3:Int):Z1 Tryz.prog cfg O 154 2 [.int n0, .vec .plain none l1, .int n2, .int n3] []=
 bc (decide (n0<n3)) (gd (decide (0≤n0)&&decide (n0<(↑l1.length:Int))) (Zl (ZA l1 n0) fun n1=>bc (n2==n1) (some (Ex.ret,[V.int n0],[])) (O.2
 154 2 [V.int (IntKind.i64.wrap (n0+1)),V.vec .plain none l1,V.int n2,V.int n3] []))) (some (Ex.exit 0,[],[])):=by kernel_rfl
end Go.Proofs.CL
namespace Go.Proofs.CL
open Go Go.AM Go.Ama
theorem zox(k h:Int)(xs:List V)(i n:Int)(hx:xs.length≤1099511627776)(hn:0≤n∧n≤4611686018427387904):Ev 184 [.agg [.int k, .int h, .vec .plain (some 3) xs], .int i, .int n] (.int (if bindsB k&&decide (i=(xs.length:Int)-1)then n+1 else n)):=by
 have hw:IntKind.i64.wrap ((xs.length:Int)-1)=(xs.length:Int)-1:=Zq ⟨by omega,by omega⟩
 have hw2:IntKind.i64.wrap (n+1)=n+1:=Zq ⟨by omega,by omega⟩
 unfold Ev bindsB
 rw[C,zlq,hw,hw2]
 by_cases h1:k=1
 ·by_cases h2:i=(xs.length:Int)-1<;>simp[h1,h2]
 ·by_cases h3:k=3
  ·by_cases h2:i=(xs.length:Int)-1<;>simp[h3,h2]
  ·simp[h1,h3]
section
variable{σ:Type}{nx:Int→T→σ→σ}{x:σ→St}{g:Nat}{a b:List V}
theorem zlr{S:Nat}(hS:S≤1099511627776)(hp:cfg.pure g=false)(hlen: ∀s s',(x s).length=(x s').length)(hr: ∀(n:Int) (t:T) (s:σ),t.size≤S→0≤n→n≤4611686018427387904→W.call g (a++[enc t, .int n]++b) (x s)=some (.ret (.tup []),x (nx n t s))):
  ∀(N:Nat) (t:T) (n:Int) (s:σ),t.size≤N→t.size≤S→0≤n→n+t.size≤4611686018427387904→W.call 151 [enc t, .int n, .fn g a b] (x s)=some (.ret (.tup []),x (XG nx t n s)):=by
 intro N
 induction N with
 |zero=>intro t _ _ h;have:=Xo t;omega
 |succ N ih=>
  intro t n s hN hs h0 hn
  have hc:=hr n t s hs h0 (by omega)
  obtain⟨k,h,xs⟩:=t
  simp only[T.size]at hN hs hn
  have hxl:=Zp xs
  have hL: ∀(m i:Nat) (s:σ),xs.length-i=m→i≤xs.length→W.loop 151 3 [.int (i:Int), .fn g a b, .int n, .loc false (some 3) (.agg [.int k, .int h, .vec .plain (some 3) (Zg xs)]), .vec .plain (some 3) (Zg xs), .int xs.length] (x s)=some (.exit 0,[],x (Qd nx (xs.drop i) (bindsB k) n s)):=by
   intro m
   induction m with
   |zero=>
    intro i s hm hi
    have:i=xs.length:=by omega
    subst this
    rw[L,zdk]
    simp[Qd]
   |succ m ihm=>
    intro i s hm hi
    have hlt:i<xs.length:=by omega
    have hlt':(i:Int)<xs.length:=by omega
    have hd:xs.drop i=xs[i]::xs.drop (i+1):=List.drop_eq_getElem_cons hlt
    have hsz:=size_le (List.getElem_mem hlt)
    have hw:IntKind.i64.wrap ((i:Int)+1)=((i+1:Nat):Int):=by rw[Zq ⟨by omega,by omega⟩];omega
    have ha:=(zox k h (Zg xs) i n (by simp;omega) ⟨h0,by omega⟩).p
    rw[Zh]at ha
    have hlast:(bindsB k&&decide ((i:Int)=(xs.length:Int)-1))=(bindsB k&&(xs.drop (i+1)).isEmpty):=by
     congr 1
     by_cases he:i+1=xs.length
     ·have:xs.drop (i+1)=[]:=by rw[he];simp
      rw[this];simp;omega
     ·have:xs.drop (i+1)≠ []:=by simp;omega
      cases hx:xs.drop (i+1)with
      |nil=>exact absurd hx this
      |cons _ _=>simp;omega
    rw[hlast]at ha
    have hv:=ih xs[i] (if(bindsB k&&(xs.drop (i+1)).isEmpty)=true then n+1 else n) s (by omega) (by omega) (by split<;>omega) (by split<;>omega)
    have hm':=ihm (i+1) (XG nx xs[i] (if(bindsB k&&(xs.drop (i+1)).isEmpty)=true then n+1 else n) s) (by omega) (by omega)
    rw[hd,Qd,L,zdk,hw,ZC hlt,Zh]
    simp only[hlt',Int.natCast_nonneg,decide_true,Bool.and_self,Zz,Zr,zbX,←Zb,ha,Zf,Z2,hv,Z9,Y1,ZN]
    exact hm'
  have h0':=hL _ 0 (nx n (.mk k h xs) s) rfl (Nat.zero_le _)
  simp only[Int.natCast_zero,List.drop_zero]at h0'
  have he:enc (.mk k h xs)= .agg [.int k, .int h, .vec .plain (some 3) (Zg xs)]:=rfl
  rw[he]at hc⊢
  rw[C,zmw,hp,Zh]
  simp only[Zo,hc,Zf,Z9,Y1,ZN,h0',Ji,show Nat.beq 0 0=true from rfl,Zr]
  rw[XG]
  exact Zy (hlen _ _)
end
theorem zeW(l:List Int)(v:Int)(hl:l.length≤1099511627776): ∃r:Int,Ev 154 [.vec .plain none (Jr l), .int v] (.int r)∧decide (r≥0)=decide (v∈l)∧r=(if v∈l then((l.idxOf v:Nat):Int)else-1):=by
 have hL: ∀(m i:Nat),l.length-i=m→i≤l.length→W.loop 154 2 [.int (i:Int), .vec .plain none (Jr l), .int v, .int l.length] []=if v∈l.drop i then some (.ret,[.int ((i+(l.drop i).idxOf v:Nat):Int)],[])else some (.exit 0,[],[]):=by
  intro m
  induction m with
  |zero=>
   intro i hm hi
   have:i=l.length:=by omega
   subst this
   rw[L,Jm]
   simp
  |succ m ih=>
   intro i hm hi
   have hlt:i<l.length:=by omega
   have hlt':(i:Int)<l.length:=by omega
   have hd:l.drop i=l[i]::l.drop (i+1):=List.drop_eq_getElem_cons hlt
   have hw:IntKind.i64.wrap ((i:Int)+1)=((i+1:Nat):Int):=by rw[Zq ⟨by omega,by omega⟩];omega
   have:=ih (i+1) (by omega) (by omega)
   rw[hd,L,Jm,hw,ziA hlt,X5]
   by_cases he:v=l[i]
   ·simp[hlt',←he]
   ·have hne:l[i]≠v:=fun h=>he h.symm
    have hm2:(v∈l[i]::l.drop (i+1))=(v∈l.drop (i+1)):=propext (List.mem_cons.trans ⟨fun h=>h.resolve_left he, .inr⟩)
    simp only[hlt',Int.natCast_nonneg,decide_true,Bool.and_self,Zz,Zr,Z2,zuY he,this,hm2]
    split
    ·have hi:(l[i]::l.drop (i+1)).idxOf v=(l.drop (i+1)).idxOf v+1:=by rw[List.idxOf_cons,beq_false_of_ne hne];rfl
     rw[hi,show i+1+(l.drop (i+1)).idxOf v=i+((l.drop (i+1)).idxOf v+1) by omega]
    ·rfl
 have h:=hL _ 0 rfl (Nat.zero_le _)
 simp only[Int.natCast_zero,List.drop_zero,Nat.zero_add]at h
 by_cases hm:v∈l
 ·refine⟨_, ?_, ?_,(if_pos hm).symm⟩
  ·unfold Ev
   rw[C,zaa,X5,h,if_pos hm]
   simp
  ·simp[hm]
 ·refine⟨_, ?_, ?_,(if_neg hm).symm⟩
  ·unfold Ev
   rw[C,zaa,X5,h,if_neg hm]
   simp
  ·simp[hm]
theorem zab(l:List Int)(v:Int)(hl:l.length≤1099511627776):Ev 113 [.vec .plain none (Jr l), .int v] (.bool (decide (v∈l))):=by
 obtain⟨r,h1,h2,_⟩:=zeW l v hl
 have h1:=h1.p
 unfold Ev
 rw[C,zbY,h1]
 simp only[Zf,Z2,h2]
theorem zxw:((Tryz.prog.info? 3).map (·.bytes)).getD 0=8:=by kernel_rfl
theorem zyr{n:Nat}(h:n≤1099511627776):roomFor Tryz.prog 3 n=true:=by
 unfold roomFor
 rw[zxw]
 simp
 omega
theorem zhs(xs:List T)(b:Int)(hs:xs.length≤1048576):Ev 156 [.vec .plain (some 3) (Zg xs), .int b] (.tup [.vec .plain none (Jr (Yf xs b).1), .bool (Yf xs b).2]):=by
 have hL: ∀(m i:Nat) (vars:List Int),xs.length-i=m→i≤xs.length→vars.length≤i→W.loop 156 3 [.int (i:Int), .vec .grow none (Jr vars), .int b, .vec .plain (some 3) (Zg xs), .int xs.length] []=
   if(zbo b vars (xs.drop i)).2 then some (.exit 0,[.vec .grow none (Jr (zbo b vars (xs.drop i)).1)],[])else some (.ret,[.vec .plain none [], .bool false],[]):=by
  intro m
  induction m with
  |zero=>
   intro i vars hm hi hv
   have:i=xs.length:=by omega
   subst this
   rw[L,zbQ]
   simp[zbo]
  |succ m ih=>
   intro i vars hm hi hv
   have hlt:i<xs.length:=by omega
   have hlt':(i:Int)<xs.length:=by omega
   have hd:xs.drop i=xs[i]::xs.drop (i+1):=List.drop_eq_getElem_cons hlt
   have hw:IntKind.i64.wrap ((i:Int)+1)=((i+1:Nat):Int):=by rw[Zq ⟨by omega,by omega⟩];omega
   have hc:=(zab vars xs[i].h (by omega)).p
   have hr:roomFor Tryz.prog 3 (vars.length+1)=true:=zyr (by omega)
   have:=ih (i+1) (vars++[xs[i].h]) (by omega) (by omega) (by simp;omega)
   have e1:Jr (vars++[xs[i].h])=Jr vars++[V.int xs[i].h]:=by simp[Jr]
   rw[e1]at this
   rw[hd,L,zbQ,hw,ZC hlt,Zh]
   have hno:(xs[i].k≠4∨0<xs[i].args.length∨xs[i].h<0∨b≤xs[i].h∨xs[i].h∈vars)→zbo b vars (xs[i]::xs.drop (i+1))=([],false):=fun h=>by rw[zbo,if_pos h]
   by_cases k4:xs[i].k=4
   ·by_cases ka:0<xs[i].args.length
    ·rw[hno (.inr (.inl ka))]
     simp[hlt',k4,ka]
    ·by_cases kh:xs[i].h<0
     ·rw[hno (.inr (.inr (.inl kh)))]
      simp[hlt',k4,ka,kh]
     ·by_cases kb:b≤xs[i].h
      ·rw[hno (.inr (.inr (.inr (.inl kb))))]
       simp[hlt',k4,ka,kh,kb]
      ·by_cases km:xs[i].h∈vars
       ·rw[hno (.inr (.inr (.inr (.inr km))))]
        simp[hlt',k4,ka,kh,kb,hc,km]
       ·have hy:zbo b vars (xs[i]::xs.drop (i+1))=zbo b (vars++[xs[i].h]) (xs.drop (i+1)):=by
         rw[zbo,if_neg (by simp only[not_or];exact⟨by simpa using k4,ka,kh,kb,km⟩)]
        rw[hy]
        simp[hlt',k4,ka,kh,kb,hc,km,hr]
        simpa using this
   ·rw[hno (.inl k4)]
    simp[hlt',k4]
 have h:=hL _ 0 [] rfl (Nat.zero_le _) (Nat.le_refl _)
 have h':W.loop 156 3 [.int 0, .vec .grow none [], .int b, .vec .plain (some 3) (Zg xs), .int xs.length] []=_:=h
 simp only[List.drop_zero]at h'
 have hf:(zbo b [] xs).2=false→(zbo b [] xs).1=[]:=by
  have: ∀(l:List T) (vars:List Int),(zbo b vars l).2=false→(zbo b vars l).1=[]:=by
   intro l
   induction l with
   |nil=>intro vars h;simp[zbo]at h
   |cons t l ih=>
    intro vars h
    simp only[zbo]at h⊢
    split
    ·rfl
    ·rename_i c;rw[if_neg c]at h;exact ih _ h
  exact this xs []
 unfold Ev Yf
 rw[C,zjG,Zh,h']
 cases hb:(zbo b [] xs).2 with
 |true=>simp[below,Zm,Zu]
 |false=>
  rw[hf hb]
  simp[below,Zm,Zu]
  rfl
theorem ztV:cfg.pure 155=false:=by kernel_rfl
theorem zmx(t:T)(n:Int)(hs:t.size≤1048576)(h0:0≤n)(hn:n≤1099511627776):Ev 114 [enc t, .int n] (.bool (XA t n)):=by
 have h:=zlr (nx:=zhn) (x:=fun s=> [Res.box [V.bool s]]) (g:=155) (a:=[]) (b:=[.ref 0 0]) (S:=1048576) (by omega) ztV (fun _ _=>rfl) (fun n t s hs h0 hn=>by
  have hl:t.args.length≤1048576:=by cases t;simp only[T.size]at hs;have:=Zp (T.args (.mk ‹_› ‹_› ‹_›));simp only[T.args]at this⊢;omega
  have hp:=(zhs t.args n hl).p
  show W.call 155 [enc t, .int n, .ref 0 0] [Res.box [V.bool s]]=_
  rw[C,Zb t,zgx]
  unfold zhn
  by_cases hk:t.k=6
  ·cases s<;>simp[hk,hp]
  ·simp[hk]) t.size t n true (Nat.le_refl _) (by omega) h0 (by omega)
 unfold Ev
 rw[C,Zb t,ziG,←Zb t,h]
 show Za (some _) _=_
 simp[Z3]
 rfl
end Go.Proofs.CL
namespace Go.Proofs.CL
open Go Go.AM Go.Ama
set_option maxRecDepth 100000
theorem zrV:ext 153=some (fun _ args st=>zdA args st):=by
 rfl
theorem zw1(args:List V)(st:St):W.call 153 args st=zdA args st:=
 Cx (x:=fun _ args st=>zdA args st) 153 args st zrV
theorem zoy:cfg.pure 152=false:=by kernel_rfl
theorem zju{B:Int}(hB:B≤9223372036854775807)(t:T)(hs:t.size≤1048576)(ht:okB B t):Ev 112 [enc t] (.vec .plain none ((YC t).map V.int)):=by
 have hv:=zlr (S:=1048576) (nx:=zdK) (x:=fun s=> [.map .int .bool (Q1 s)]) (g:=152) (a:=[]) (b:=[.cptr none (.mp 0)]) (by omega) zoy (fun s s'=>rfl)
  (fun n t s _ _ _=>by
   show W.call 152 [enc t, .int n, .cptr none (.mp 0)] [.map .int .bool (Q1 s)]=_
   rw[C,Zb t,zjF,zqr]
   unfold zdK
   by_cases h:t.k=6
   ·simp[h]
   ·simp[h])
  t.size t 0 [] (Nat.le_refl _) hs (by omega) (by omega)
 have hS:=zgw (B:=B) t 0 [] 0 ht (zlk B)
 have hw:=hS.wide hB
 have hf:=zjt hS.nodup
 have hk:=zng (XG zdK t 0 [])
 have hl:(Q1 (XG zdK t 0 [])).length≤1099511627776:=by have:=hS.len;rw[zlj];omega
 have hb: ∀l:List Int,Zm 0 (l.map V.int)=true:=fun l=>by induction l with
  |nil=>rfl
  |cons a l ih=>simpa[Zm,below]using ih
 have hx:W.call 153 [.mp 0] [.map .int .bool (Q1 (XG zdK t 0 []))]=some (.ret (.vec .plain none ((YC t).map V.int)),[.map .int .bool (Q1 (XG zdK t 0 []))]):=by
  rw[zw1]
  unfold zdA YC
  simp[hk,hw,hf,hl,Z3]
 have hv':W.call 151 [enc t, .int 0, .fn 152 [] [.cptr none (.mp 0)]] [.map .int .bool []]=some (.ret (.tup []),[.map .int .bool (Q1 (XG zdK t 0 []))]):=hv
 unfold Ev
 rw[C,Zb t,zmu,←Zb t,hv']
 simp[hx,below,hb,Zu]
end Go.Proofs.CL
namespace Go.Proofs.CL
open Go Go.AM
set_option maxRecDepth 20000
theorem zjH(O:Oracle)(n0:Int)(n1:Int)(l2:(List V))(l3:(List V))(n4:Int):Ze Tryz.prog cfg O 172 [.agg [.int n0, .int n1, .vec .plain (some 3) l2], .vec .plain none l3, .int n4] []=
 Za (Zj O 82 [V.agg [V.int n0,V.int n1,V.vec .plain (some 3) l2]]) fun r1=>Zi r1 fun b2=>bc (!b2) (some (Out.ret (V.tup [V.agg [V.int 0,V.int 0,V.vec
 .plain (some 3) []],V.int 1]),[])) (Za (Zj O 201 [V.agg [V.vec .plain none l3,V.int n4]]) fun r3=>Zi r3 fun b4=>bc (!b4) (some (Out.ret (V.tup
 [V.agg [V.int 0,V.int 0,V.vec .plain (some 3) []],V.int 1]),[])) (Za (O.call 202 [V.agg [V.int n0,V.int n1,V.vec .plain (some 3) l2],V.int 0,V.fn
 203 [V.agg [V.vec .plain none l3,V.int n4]] []] []) fun r5=>Zx r5.fst (fun v6=>ZG v6 fun c7=>Zd c7 fun v8 c9=>Zc [CT.int,CT.int,
 CT.slice (some 3)] v8 fun n10 n11 l12=>Zd c9 fun v13 c14=>Zi v13 fun b15=>Zn c14 (bc (!b15) (some (Out.ret (V.tup [V.agg [V.int 0,V.int 0,V.vec .plain (some 3)
 []],V.int 7]),[])) (gd (below 0 (V.tup [V.agg [V.int n10,V.int n11,V.vec .plain (some 3) l12],V.int 0])&&Zu 0 []) (some (Out.ret (V.tup [V.agg [V.int n10,V.int n11,
 V.vec .plain (some 3) l12],V.int 0]),[]))))) fun p16=>none)):=by kernel_rfl
theorem zgy(O:Oracle)(l0:(List V))(n1:Int):Ze Tryz.prog cfg O 201 [.agg [.vec .plain none l0, .int n1]] []=
 bc (decide (n1<0)) (some (Out.ret (V.bool false),[])) (bc (decide (n1>1000)) (some (Out.ret (V.bool false),[])) (Za (O.loop 201 4 [V.int 0,V.loc false
 (some 2) (V.agg [V.vec .plain none l0,V.int n1]),V.vec .plain none l0,V.int (↑l0.length:Int)] []) fun r1=>Y8 r1.fst none (Zd r1.snd.fst fun v2 c3=>Zi v2 fun b4
 =>Zn c3 (some (Out.ret (V.bool b4),[]))) (fun i5=>bc (i5.beq 0) (Zn r1.snd.fst (some (Out.ret (V.bool true),[]))) none) fun v6=>none)):=by kernel_rfl
theorem zai(O:Oracle)(n0:Int)(l1:(List V))(n2:Int)(l3:(List V))(n4:Int):Z1 Tryz.prog cfg O 201 4 [.int n0, .loc false (some 2) (.agg [.vec .plain none l1, .int n2]), .vec .plain none l3, .int n4] []=
 bc (decide (n0<n4)) (gd (decide (0≤n0)&&decide (n0<(↑l3.length:Int))) (Zl (ZA l3 n0) fun n1=>bc (decide (n1<0)) (some (Ex.ret,[V.bool false],[])) (bc (decide
 (n1≥n2)) (some (Ex.ret,[V.bool false],[])) (gd (true&&decide (0≤n0)&&decide (n0≤(↑l1.length:Int))) (Za (Zj O 113 [V.vec .plain none
 (List.drop 0 (List.take n0.toNat l1)),V.int n1]) fun r2=>Zi r2 fun b3=>bc b3 (some (Ex.ret,[V.bool false],[])) (O.2 201 4 [V.int (IntKind.i64.wrap (n0+
 1)),V.loc false (some 2) (V.agg [V.vec .plain none l1,V.int n2]),V.vec .plain none l3,V.int n4] [])))))) (some (Ex.exit 0,[],[])):=by kernel_rfl
theorem ziH(O:Oracle)(n0:Int)(n1:Int)(l2:(List V))(n3:Int)(g4:Nat)(l5:(List V))(l6:(List V))(st:St):Ze Tryz.prog cfg O 202 [.agg [.int n0, .int n1, .vec .plain (some 3) l2], .int n3, .fn g4 l5 l6] st=
 bc (n0==4) (bc (decide (n1≥n3)) (bc (cfg.pure g4) (Za (Zj O g4 (l5++[V.int (IntKind.i64.wrap (n1-n3))]++l6)) fun r1=>ZG r1 fun c2=>Zd c2 fun v3 c4=>
 Zl v3 fun n5=>Zd c4 fun v6 c7=>Zi v6 fun b8=>Zn c7 (bc (!b8) (Yt (List.length st) (V.tup [V.agg [V.int 0,V.int 0,V.vec .plain (some 3) []],V.bool false])
 (Out.ret r1,st).snd) (Za (O.loop 202 8 [V.loc true (some 3) (V.agg [V.int 0,V.int 0,V.vec Mode.full (some 3) []]),V.int 0,V.loc true (some 3) (V.agg [V.int
 n0,V.int (IntKind.i64.wrap (n5+n3)),V.vec Mode.grow (some 3) []]),V.fn g4 l5 l6,V.loc false (some 3) (V.agg [V.int n0,V.int n1,V.vec .plain (some 3) l2]),V.int n3,V.vec
 .plain (some 3) l2,V.int (↑l2.length:Int)] (Out.ret r1,st).snd) fun r9=>Y8 r9.fst none (Zd r9.snd.fst fun v10 c11=>Yj (some 3) v10 fun d12 v13=>Zd c11 fun
 v14 c15=>Zi v14 fun b16=>Zn c15 (Yt (List.length st) (V.tup [bif cfg.room 202 then zeo v13 else Zt v13,V.bool b16]) r9.snd.snd)) (fun i17=>bc
 (i17.beq 0) (Zd r9.snd.fst fun v18 c19=>Yj (some 3) v18 fun d20 v21=>Zd c19 fun v22 c23=>Yj (some 3) v22 fun d24 v25=>YP v25 fun c26=>Zd c26 fun v27
 c28=>Zl v27 fun n29=>Zd c28 fun v30 c31=>Zl v30 fun n32=>Zd c31 fun v33 c34=>YK (some 3) v33 fun l35=>Zn c34 (Zn c23 (Yt (List.length st)
 (V.tup [V.agg [V.int n29,V.int n32,V.vec .plain (some 3) l35],V.bool true]) r9.snd.snd))) none) fun v36=>none))) (Za (O.call g4 (l5++[V.int (IntKind.i64.wrap (n1-n3))]
 ++l6) st) fun r37=>Zx r37.fst (fun v38=>ZG v38 fun c39=>Zd c39 fun v40 c41=>Zl v40 fun n42=>Zd c41 fun v43 c44=>Zi v43 fun b45=>Zn c44 (bc
 (!b45) (Yt (List.length st) (V.tup [V.agg [V.int 0,V.int 0,V.vec .plain (some 3) []],V.bool false]) r37.snd) (Za (O.loop 202 8 [V.loc true (some 3) (V.agg
 [V.int 0,V.int 0,V.vec Mode.full (some 3) []]),V.int 0,V.loc true (some 3) (V.agg [V.int n0,V.int (IntKind.i64.wrap (n42+n3)),V.vec Mode.grow (some 3) []]),V.fn g4 l5 l6,
 V.loc false (some 3) (V.agg [V.int n0,V.int n1,V.vec .plain (some 3) l2]),V.int n3,V.vec .plain (some 3) l2,V.int (↑l2.length:Int)] r37.snd) fun r46=>Y8 r46.fst none
 (Zd r46.snd.fst fun v47 c48=>Yj (some 3) v47 fun d49 v50=>Zd c48 fun v51 c52=>Zi v51 fun b53=>Zn c52 (Yt (List.length st) (V.tup [bif cfg.room
 202 then zeo v50 else Zt v50,V.bool b53]) r46.snd.snd)) (fun i54=>bc (i54.beq 0) (Zd r46.snd.fst fun v55 c56=>Yj (some 3) v55 fun d57 v58=>Zd
 c56 fun v59 c60=>Yj (some 3) v59 fun d61 v62=>YP v62 fun c63=>Zd c63 fun v64 c65=>Zl v64 fun n66=>Zd c65 fun v67 c68=>Zl v67 fun n69=>Zd c68
 fun v70 c71=>YK (some 3) v70 fun l72=>Zn c71 (Zn c60 (Yt (List.length st) (V.tup [V.agg [V.int n66,V.int n69,V.vec .plain (some 3) l72],V.bool true])
 r46.snd.snd))) none) fun v73=>none))) fun p74=>none)) (Za (O.loop 202 8 [V.loc true (some 3) (V.agg [V.int 0,V.int 0,V.vec Mode.full (some 3) []]),V.int 0,
 V.loc true (some 3) (V.agg [V.int n0,V.int n1,V.vec Mode.grow (some 3) []]),V.fn g4 l5 l6,V.loc false (some 3) (V.agg [V.int n0,V.int n1,V.vec .plain (some 3) l2]),V.int
 n3,V.vec .plain (some 3) l2,V.int (↑l2.length:Int)] st) fun r75=>Y8 r75.fst none (Zd r75.snd.fst fun v76 c77=>Yj (some 3) v76 fun d78 v79=>Zd c77 fun v80
 c81=>Zi v80 fun b82=>Zn c81 (Yt (List.length st) (V.tup [bif cfg.room 202 then zeo v79 else Zt v79,V.bool b82]) r75.snd.snd)) (fun i83=>bc
 (i83.beq 0) (Zd r75.snd.fst fun v84 c85=>Yj (some 3) v84 fun d86 v87=>Zd c85 fun v88 c89=>Yj (some 3) v88 fun d90 v91=>YP v91 fun c92=>Zd c92 fun
 v93 c94=>Zl v93 fun n95=>Zd c94 fun v96 c97=>Zl v96 fun n98=>Zd c97 fun v99 c100=>YK (some 3) v99 fun l101=>Zn c100 (Zn c89 (Yt (List.length
 st) (V.tup [V.agg [V.int n95,V.int n98,V.vec .plain (some 3) l101],V.bool true]) r75.snd.snd))) none) fun v102=>none)) (Za (O.loop 202 8 [V.loc true (some 3)
 (V.agg [V.int 0,V.int 0,V.vec Mode.full (some 3) []]),V.int 0,V.loc true (some 3) (V.agg [V.int n0,V.int n1,V.vec Mode.grow (some 3) []]),V.fn g4 l5 l6,V.loc false (some
 3) (V.agg [V.int n0,V.int n1,V.vec .plain (some 3) l2]),V.int n3,V.vec .plain (some 3) l2,V.int (↑l2.length:Int)] st) fun r103=>Y8 r103.fst none (Zd r103.snd.fst
 fun v104 c105=>Yj (some 3) v104 fun d106 v107=>Zd c105 fun v108 c109=>Zi v108 fun b110=>Zn c109 (Yt (List.length st) (V.tup [bif cfg.room 202
 then zeo v107 else Zt v107,V.bool b110]) r103.snd.snd)) (fun i111=>bc (i111.beq 0) (Zd r103.snd.fst fun v112 c113=>Yj (some 3) v112 fun d114 v115=>Zd c113
 fun v116 c117=>Yj (some 3) v116 fun d118 v119=>YP v119 fun c120=>Zd c120 fun v121 c122=>Zl v121 fun n123=>Zd c122 fun v124 c125=>Zl v124 fun n126
 =>Zd c125 fun v127 c128=>YK (some 3) v127 fun l129=>Zn c128 (Zn c117 (Yt (List.length st) (V.tup [V.agg [V.int n123,V.int n126,V.vec .plain (some 3) l129],
 V.bool true]) r103.snd.snd))) none) fun v130=>none):=by kernel_rfl
theorem zaV(O:Oracle)(v0:V)(n1:Int)(n2:Int)(n3:Int)(l4:(List V))(g5:Nat)(l6:(List V))(l7:(List V))(n8:Int)(n9:Int)(l10:(List V))(n11:Int)(l12:(List V))(n13:Int)(st:St):Z1 Tryz.prog cfg O 202 8 [.loc true (some 3) v0, .int n1, .loc true (some 3) (.agg [.int n2, .int n3, .vec .grow (some 3) l4]), .fn g5 l6 l7, .loc false (some 3) (.agg [.int n8, .int n9, .vec .plain (some 3) l10]), .int n11, .vec .plain (some 3) l12, .int n13] st=
 bc (decide (n1<n13)) (gd (decide (0≤n1)&&decide (n1<(↑l12.length:Int))) (Zc [CT.int,CT.int,CT.slice (some 3)] (ZA l12 n1) fun n1_1 n2_1 l3=>bc (n8==1) (bc
 (n1==IntKind.i64.wrap ((↑l10.length:Int)-1)) (Za (O.call 202 [V.agg [V.int n1_1,V.int n2_1,V.vec .plain (some 3) l3],V.int (IntKind.i64.wrap (n11+1)),
 V.fn g5 l6 l7] st) fun r4=>Zx r4.fst (fun v5=>ZG v5 fun c6=>Zd c6 fun v7 c8=>Zc [CT.int,CT.int,CT.slice (some 3)] v7 fun n9_1 n10 l11=>Zd c8 fun
 v12 c13=>Zi v12 fun b14=>Zn c13 (bc (!b14) (some (Ex.ret,[V.loc false (some 3) (V.agg [V.int 0,V.int 0,V.vec .plain (some 3) []]),V.bool false],r4.snd)) (gd (true
 &&roomFor Tryz.prog 27 (l4.length+[V.agg [V.int n9_1,V.int n10,V.vec .plain (some 3) l11]].length)) (O.2 202 8 [V.loc true (some 3) v0,V.int
 (IntKind.i64.wrap (n1+1)),V.loc true (some 3) (V.agg [V.int n2,V.int n3,V.vec Mode.grow (some 3) (l4++[V.agg [V.int n9_1,V.int n10,V.vec .plain (some 3) l11]])]),V.fn g5
 l6 l7,V.loc false (some 3) (V.agg [V.int n8,V.int n9,V.vec .plain (some 3) l10]),V.int n11,V.vec .plain (some 3) l12,V.int n13] r4.snd)))) fun p15=>none) (Za (O.call
 202 [V.agg [V.int n1_1,V.int n2_1,V.vec .plain (some 3) l3],V.int n11,V.fn g5 l6 l7] st) fun r16=>Zx r16.fst (fun v17=>ZG v17 fun c18=>Zd c18 fun
 v19 c20=>Zc [CT.int,CT.int,CT.slice (some 3)] v19 fun n21 n22 l23=>Zd c20 fun v24 c25=>Zi v24 fun b26=>Zn c25 (bc (!b26) (some (Ex.ret,[V.loc false
 (some 3) (V.agg [V.int 0,V.int 0,V.vec .plain (some 3) []]),V.bool false],r16.snd)) (gd (true&&roomFor Tryz.prog 27 (l4.length+[V.agg [V.int n21,V.int n22,
 V.vec .plain (some 3) l23]].length)) (O.2 202 8 [V.loc true (some 3) v0,V.int (IntKind.i64.wrap (n1+1)),V.loc true (some 3) (V.agg [V.int n2,V.int n3,V.vec
 Mode.grow (some 3) (l4++[V.agg [V.int n21,V.int n22,V.vec .plain (some 3) l23]])]),V.fn g5 l6 l7,V.loc false (some 3) (V.agg [V.int n8,V.int n9,V.vec .plain (some 3)
 l10]),V.int n11,V.vec .plain (some 3) l12,V.int n13] r16.snd)))) fun p27=>none)) (bc (n8==3) (bc (n1==IntKind.i64.wrap ((↑l10.length:Int)-1)) (Za (O.call
 202 [V.agg [V.int n1_1,V.int n2_1,V.vec .plain (some 3) l3],V.int (IntKind.i64.wrap (n11+1)),V.fn g5 l6 l7] st) fun r28=>Zx r28.fst (fun v29=>ZG v29
 fun c30=>Zd c30 fun v31 c32=>Zc [CT.int,CT.int,CT.slice (some 3)] v31 fun n33 n34 l35=>Zd c32 fun v36 c37=>Zi v36 fun b38=>Zn c37 (bc (!b38) (some
 (Ex.ret,[V.loc false (some 3) (V.agg [V.int 0,V.int 0,V.vec .plain (some 3) []]),V.bool false],r28.snd)) (gd (true&&roomFor Tryz.prog 27 (l4.length+[V.agg
 [V.int n33,V.int n34,V.vec .plain (some 3) l35]].length)) (O.2 202 8 [V.loc true (some 3) v0,V.int (IntKind.i64.wrap (n1+1)),V.loc true (some 3) (V.agg [V.int
 n2,V.int n3,V.vec Mode.grow (some 3) (l4++[V.agg [V.int n33,V.int n34,V.vec .plain (some 3) l35]])]),V.fn g5 l6 l7,V.loc false (some 3) (V.agg [V.int n8,V.int n9,V.vec
 .plain (some 3) l10]),V.int n11,V.vec .plain (some 3) l12,V.int n13] r28.snd)))) fun p39=>none) (Za (O.call 202 [V.agg [V.int n1_1,V.int n2_1,V.vec .plain
 (some 3) l3],V.int n11,V.fn g5 l6 l7] st) fun r40=>Zx r40.fst (fun v41=>ZG v41 fun c42=>Zd c42 fun v43 c44=>Zc [CT.int,CT.int,CT.slice (some 3)] v43
 fun n45 n46 l47=>Zd c44 fun v48 c49=>Zi v48 fun b50=>Zn c49 (bc (!b50) (some (Ex.ret,[V.loc false (some 3) (V.agg [V.int 0,V.int 0,V.vec .plain (some 3) []]),
 V.bool false],r40.snd)) (gd (true&&roomFor Tryz.prog 27 (l4.length+[V.agg [V.int n45,V.int n46,V.vec .plain (some 3) l47]].length)) (O.2 202 8 [V.loc
 true (some 3) v0,V.int (IntKind.i64.wrap (n1+1)),V.loc true (some 3) (V.agg [V.int n2,V.int n3,V.vec Mode.grow (some 3) (l4++[V.agg [V.int n45,V.int n46,V.vec .plain
 (some 3) l47]])]),V.fn g5 l6 l7,V.loc false (some 3) (V.agg [V.int n8,V.int n9,V.vec .plain (some 3) l10]),V.int n11,V.vec .plain (some 3) l12,V.int n13] r40.snd)))) fun
 p51=>none)) (Za (O.call 202 [V.agg [V.int n1_1,V.int n2_1,V.vec .plain (some 3) l3],V.int n11,V.fn g5 l6 l7] st) fun r52=>Zx r52.fst (fun v53=>ZG
 v53 fun c54=>Zd c54 fun v55 c56=>Zc [CT.int,CT.int,CT.slice (some 3)] v55 fun n57 n58 l59=>Zd c56 fun v60 c61=>Zi v60 fun b62=>Zn c61 (bc (!b62)
 (some (Ex.ret,[V.loc false (some 3) (V.agg [V.int 0,V.int 0,V.vec .plain (some 3) []]),V.bool false],r52.snd)) (gd (true&&roomFor Tryz.prog 27 (l4.length+[V.agg
 [V.int n57,V.int n58,V.vec .plain (some 3) l59]].length)) (O.2 202 8 [V.loc true (some 3) v0,V.int (IntKind.i64.wrap (n1+1)),V.loc true (some 3) (V.agg [V.int
 n2,V.int n3,V.vec Mode.grow (some 3) (l4++[V.agg [V.int n57,V.int n58,V.vec .plain (some 3) l59]])]),V.fn g5 l6 l7,V.loc false (some 3) (V.agg [V.int n8,V.int n9,V.vec
 .plain (some 3) l10]),V.int n11,V.vec .plain (some 3) l12,V.int n13] r52.snd)))) fun p63=>none)))) (some (Ex.exit 0,[V.loc true (some 3) v0,V.loc true (some 3) (V.agg
 [V.int n2,V.int n3,V.vec Mode.grow (some 3) l4])],st)):=by kernel_rfl
theorem QD(O:Oracle)(l0:(List V))(n1:Int)(n2:Int):Ze Tryz.prog cfg O 203 [.agg [.vec .plain none l0, .int n1], .int n2] []=
 bc (decide (n2≥n1)) (some (Out.ret (V.tup [V.int (IntKind.i64.wrap (IntKind.i64.wrap (n2-n1)+(↑l0.length:Int))),V.bool true]),[])) (Za (Zj O 154
 [V.vec .plain none l0,V.int n2]) fun r1=>Zl r1 fun n2=>some (Out.ret (V.tup [V.int (IntKind.i64.wrap (IntKind.i64.wrap ((↑l0.length:Int)-1)-n2)),V.bool (decide (n2
 ≥0))]),[])):=by kernel_rfl
end Go.Proofs.CL
namespace Go.Ama
open Go Go.AM
def Qe(vars:List Int)(n i:Int):Option Int:=
 if n≤i then some (i-n+vars.length)else if i∈vars then some ((vars.length:Int)-1-(vars.idxOf i:Nat))else none
def zdL(vars:List Int)(n k h ar:Int):Option Int:=if k=4∧ar≤h then(Qe vars n (h-ar)).map (· +ar)else some h
mutual
def zaT(vars:List Int)(n:Int):T→Int→Option T
 | .mk k h xs,ar=>
  match zdL vars n k h ar with
  |none=>none
  |some h'=>match Q8 vars n (bindsB k) xs ar with
   |none=>none
   |some ys=>some (.mk k h' ys)
def Q8(vars:List Int)(n:Int)(bd:Bool):List T→Int→Option (List T)
 |[],_=>some []
 |a::zs,ar=>
  match zaT vars n a (if bd&&zs.isEmpty then ar+1 else ar)with
  |none=>none
  |some b=>match Q8 vars n bd zs ar with
   |none=>none
   |some bs=>some (b::bs)
end
def zaf(vars:List Int)(n:Int):Bool:=decide (0≤n)&&(decide (n≤1000)&&(decide vars.Nodup&&vars.all fun v=>decide (0≤v)&&decide (v<n)))
def Xi(t:T)(vars:List Int)(n:Int):T×Int:=
 if !may t|| !zaf vars n then(T0,1)else match zaT vars n t 0 with|none=>(T0,7)|some u=>(u,0)
theorem Qm{vars:List Int}{n:Int}:zaf vars n=true↔0≤n∧n≤1000∧vars.Nodup∧ ∀v∈vars,0≤v∧v<n:=by
 unfold zaf
 simp only[Bool.and_eq_true,decide_eq_true_eq,List.all_eq_true]
theorem zni: ∀(m:Nat) (l:List Int),l.Nodup→(∀v∈l,0≤v∧v<m)→l.length≤m
 |0,[],_,_=>Nat.le_refl _
 |0,a::l,_,h=>by have:=h a (by simp);omega
 |m+1,l,hn,h=>by
  have h1:=zni m (l.filter fun v=>v !=(m:Int)) (hn.filter _) (fun v hv=>by
   rw[List.mem_filter]at hv
   have:=h v hv.1
   have h2:v≠(m:Int):=by simpa using hv.2
   omega)
  have h2:l.length≤(l.filter fun v=>v !=(m:Int)).length+1:=by
   clear h h1
   induction l with
   |nil=>simp
   |cons a l ih=>
    obtain⟨h1,h2⟩:=List.nodup_cons.1 hn
    by_cases e:a=(m:Int)
    ·subst e
     have:(l.filter fun v=>v !=(m:Int))=l:=List.filter_eq_self.2 fun v hv=>by
      simp only[bne_iff_ne,ne_eq]
      rintro rfl
      exact h1 hv
     simp[this]
    ·have:=ih h2
     have hb:(a !=(m:Int))=true:=by simpa using e
     rw[List.filter_cons,if_pos hb]
     simp only[List.length_cons]
     omega
  omega
theorem zht{vars:List Int}{n:Int}(h:zaf vars n=true):(vars.length:Int)≤n∧vars.length≤1000:=by
 obtain⟨h1,h2,h3,h4⟩:=Qm.1 h
 have:=zni n.toNat vars h3 (fun v hv=>by have:=h4 v hv;omega)
 omega
theorem zrW{vars:List Int}{n i j:Int}(h:zaf vars n=true)(hi:0≤i)(hr:Qe vars n i=some j):0≤j∧j≤i+1000:=by
 have hl:=zht h
 have hn:=(Qm.1 h).1
 unfold Qe at hr
 split at hr
 ·cases hr;omega
 ·split at hr
  ·rename_i hm
   have:=List.idxOf_lt_length_iff.2 hm
   cases hr
   omega
  ·cases hr
theorem zsI{vars:List Int}{n k h ar h':Int}(hm:zaf vars n=true)(h0:0≤h)(ha:0≤ar)(hr:zdL vars n k h ar=some h'):0≤h'∧h'≤h+1000∧(k≠4→h'=h):=by
 unfold zdL at hr
 split at hr
 ·rename_i c
  cases hx:Qe vars n (h-ar)with
  |none=>rw[hx]at hr;cases hr
  |some j=>
   rw[hx]at hr
   simp only[Option.map_some,Option.some.injEq]at hr
   have:=zrW hm (by omega) hx
   exact⟨by omega,by omega,fun e=>absurd c.1 e⟩
 ·cases hr
  exact⟨h0,by omega,fun _=>rfl⟩
mutual
theorem zgz{vars:List Int}{n:Int}(hm:zaf vars n=true){B:Int}: ∀(t:T) (ar:Int) (u:T),0≤ar→okB B t→zaT vars n t ar=some u→u.size=t.size∧u.depth=t.depth∧okB (B+1000) u∧(YO t=true→YO u=true)
 | .mk k h xs,ar,u,ha,⟨⟨b1,b2⟩,b3,b4⟩,hr=>by
  unfold zaT at hr
  cases hh:zdL vars n k h ar with
  |none=>rw[hh]at hr;cases hr
  |some h'=>
   rw[hh]at hr
   cases hs:Q8 vars n (bindsB k) xs ar with
   |none=>rw[hs]at hr;cases hr
   |some ys=>
    rw[hs]at hr
    cases hr
    obtain⟨g1,g2,g3⟩:=zsI hm b1 ha hh
    obtain⟨i1,i2,i3,i4,i5⟩:=zct hm xs (bindsB k) ar ys ha b4 hs
    refine⟨by simp only[T.size,i1],by simp only[T.depth,i2],⟨⟨g1,by omega⟩,fun e=> ?_,i3⟩,fun hn=> ?_⟩
    ·intro e2
     subst e2
     exact b3 e (List.length_eq_zero_iff.1 (by simpa using i5.symm))
    ·simp only[YO,Bool.and_eq_true]at hn⊢
     refine⟨?_,i4 hn.2⟩
     rw[i5]
     by_cases h4:k=4
     ·subst h4
      simp only[zcZ]at hn⊢
      simpa using g1
     ·rw[g3 h4];exact hn.1
theorem zct{vars:List Int}{n:Int}(hm:zaf vars n=true){B:Int}: ∀(l:List T) (bd:Bool) (ar:Int) (us:List T),0≤ar→JN B l→Q8 vars n bd l ar=some us→sizes us=sizes l∧Yh us=Yh l∧JN (B+1000) us∧(Xb l=true→Xb us=true)∧us.length=l.length
 |[],bd,ar,us,ha,_,hr=>by
  unfold Q8 at hr
  cases hr
  exact⟨rfl,rfl,trivial,fun h=>h,rfl⟩
 |a::l,bd,ar,us,ha,⟨h1,h2⟩,hr=>by
  unfold Q8 at hr
  cases hh:zaT vars n a (if bd&&l.isEmpty then ar+1 else ar)with
  |none=>rw[hh]at hr;cases hr
  |some b=>
   rw[hh]at hr
   cases hs:Q8 vars n bd l ar with
   |none=>rw[hs]at hr;cases hr
   |some bs=>
    rw[hs]at hr
    cases hr
    obtain⟨g1,g2,g3,g4⟩:=zgz hm a _ b (by split<;>omega) h1 hh
    obtain⟨i1,i2,i3,i4,i5⟩:=zct hm l bd ar bs ha h2 hs
    refine⟨by simp only[sizes,g1,i1],by simp only[Yh,g2,i2],⟨g3,i3⟩,fun hn=> ?_,by simp[i5]⟩
    simp only[Xb,Bool.and_eq_true]at hn⊢
    exact⟨g4 hn.1,i4 hn.2⟩
end
theorem zrX{t:T}{vars:List Int}{n B:Int}(hb:okB B t)(h:(Xi t vars n).2=0):may (Xi t vars n).1=true∧okB (B+1000) (Xi t vars n).1:=by
 unfold Xi at h⊢
 by_cases c:(!may t|| !zaf vars n)=true
 ·rw[if_pos c]at h;cases h
 ·rw[if_neg c]at h⊢
  simp only[Bool.or_eq_true,Bool.not_eq_true',not_or,Bool.not_eq_false]at c
  cases hr:zaT vars n t 0 with
  |none=>rw[hr]at h;cases h
  |some u=>
   obtain⟨g1,g2,g3,g4⟩:=zgz c.2 t 0 u (by omega) hb hr
   refine⟨?_,g3⟩
   have:=c.1
   unfold may at this⊢
   simp only[Bool.and_eq_true]at this⊢
   rw[g1,g2]
   exact⟨g4 this.1,this.2⟩
structure Bd where
 is:Bool
 t:T
def B0:Bd:=⟨false,T0⟩
def zac(b:Bd):V:= .agg [.bool b.is, .int b.t.k, .int b.t.h, .vec .plain (some 3) (Zg b.t.args)]
def Yg(l:List Bd):List V:=l.map zac
def Xq(l:List Bool):List V:=l.map V.bool
def told(bs:List Bd):List T:=bs.map fun b=>if b.is then b.t else T0
def zfT(bs:List Bd)(i:Int):Bool:=decide ((bs.length:Int)≤i)|| !(bs.getD i.toNat B0).is
noncomputable def ziI(bs:List Bd)(p t:T)(n:Int):Int:=
 if p.args.any (fun a=>(YC a).any (zfT bs))then 5
 else if(Yy p (told bs) n).2≠0 then(Yy p (told bs) n).2 else if(Yy p (told bs) n).1.same t then 0 else 6
def zay(rs:List Bool)(t:T):Bool:=if t.k=6 then decide (t.h<rs.length)&&rs.getD t.h.toNat false else decide (t.k=4)&&decide (t.args.length=0)
noncomputable def zhu(ps rs:List Bool)(p t:T)(n:Int)(bs:List Bd):List Bd×Int:=
 if(bs.length:Int)≤p.h then(bs,2)
 else if(bs.getD p.h.toNat B0).is then(bs,ziI bs p t n)
 else if(Yf p.args n).2=false then(bs,5)
 else if(Xi t (Yf p.args n).1 n).2≠0∨(ps.getD p.h.toNat false=true∧zay rs t=false)then(bs,6)
 else(bs.set p.h.toNat ⟨true,(Xi t (Yf p.args n).1 n).1⟩,0)
mutual
noncomputable def X6(ps rs:List Bool):T→T→Int→List Bd→List Bd×Int
 | .mk k h xs,t,n,bs=>
  if k=6 then zhu ps rs (.mk k h xs) t n bs
  else if k≠t.k∨h≠t.h∨xs.length≠t.args.length then(bs,6)
  else Qn ps rs (bindsB k) xs t.args n bs
noncomputable def Qn(ps rs:List Bool)(bd:Bool):List T→List T→Int→List Bd→List Bd×Int
 |[],_,_,bs=>(bs,0)
 |a::zs,cs,n,bs=>
  let r:=X6 ps rs a (cs.headD T0) (if bd&&zs.isEmpty then n+1 else n) bs
  if r.2≠0 then r else Qn ps rs bd zs cs.tail n r.1
end
noncomputable def zls(p t:T)(n:Int)(bs:List Bd)(ps rs:List Bool):List Bd×Int:=
 if !may p||(!may t||(decide (n<0)||(decide (1000<n)||(decide (200<bs.length)||(decide (bs.length≠ps.length)||bs.any fun b=>b.is&& !may b.t)))))then([],1)
 else if(X6 ps rs p t n bs).2≠0 then([],(X6 ps rs p t n bs).2)else((X6 ps rs p t n bs).1,0)
def zlt(bs:List Bd):List T×Bool:=if bs.any (fun b=> !b.is)then([],false)else(told bs,true)
theorem Yp(l:List Bd):(Yg l).length=l.length:=by simp[Yg]
theorem zcu(l:List Bool):(Xq l).length=l.length:=by simp[Xq]
theorem zjv{l:List Bd}{i:Nat}(h:i<l.length):ZA (Yg l) (i:Int)=zac l[i]:=by
 simp[ZA,Yg,List.getD_eq_getElem?_getD,List.getElem?_map,h]
theorem znj{l:List Bool}{i:Nat}(h:i<l.length):ZA (Xq l) (i:Int)= .bool l[i]:=by
 simp[ZA,Xq,List.getD_eq_getElem?_getD,List.getElem?_map,h]
theorem zcv{l:List Bd}{i:Nat}(h:i<l.length):(Yg l).getD i .undef=zac l[i]:=by
 simp[Yg,List.getD_eq_getElem?_getD,List.getElem?_map,h]
theorem zlu(l:List Bd)(i:Nat)(b:Bd):(Yg l).set i (zac b)=Yg (l.set i b):=by simp[Yg,List.map_set]
theorem zeX(n:Nat)(b:Bd):below n (zac b)=true:=by simp[zac,below,Zm]
theorem zad(n:Nat)(l:List Bd):Zm n (Yg l)=true:=JI (fun _=>zeX n _) l
theorem zdM(n:Nat)(l:List Bool):Zm n (Xq l)=true:=JI (fun _=>rfl) l
structure OkBds(B:Int)(bs:List Bd):Prop where
 len:bs.length≤200
 all: ∀b∈bs,b.is=true→may b.t=true∧okB B b.t
 size: ∀b∈bs,b.t.size≤1048576
theorem OkBds.set{B:Int}{bs:List Bd}(h:OkBds B bs)(i:Nat){t:T}(hm:may t=true)(ho:okB B t):OkBds B (bs.set i ⟨true,t⟩):=by
 refine⟨by simpa using h.len,fun b hb=> ?_,fun b hb=> ?_⟩
 ·rcases List.mem_or_eq_of_mem_set hb with hb|rfl
  ·exact h.all b hb
  ·exact fun _=>⟨hm,ho⟩
 ·rcases List.mem_or_eq_of_mem_set hb with hb|rfl
  ·exact h.size b hb
  ·have:=Yu hm;exact(by omega:t.size≤1048576)
theorem zvu:may T0=true:=by decide
theorem zw2{B:Int}(hB:0≤B){bs:List Bd}(h:OkBds B bs): ∀x∈told bs,may x=true∧okB B x:=by
 intro x hx
 obtain⟨b,hb,rfl⟩:=List.mem_map.1 hx
 split
 ·rename_i e;exact h.all b hb e
 ·exact⟨zvu,⟨⟨Int.le_refl 0,hB⟩,(fun h=>by cases h),trivial⟩⟩
theorem zvv{B:Int}{ps rs:List Bool}{p t:T}{n:Int}{bs:List Bd}(ht:okB B t)(h:OkBds (B+1000) bs):OkBds (B+1000) (zhu ps rs p t n bs).1∧(zhu ps rs p t n bs).1.length=bs.length:=by
 unfold zhu
 repeat' split
 all_goals first
  |exact⟨h,rfl⟩
  |skip
 rename_i h4
 simp only[not_or,Decidable.not_not]at h4
 have:=zrX ht h4.1
 exact⟨h.set _ this.1 this.2,by simp⟩
theorem zvw(ps rs:List Bool)(k h:Int)(xs:List T)(t:T)(n:Int)(bs:List Bd):zhu ps rs (.mk k h xs) t n bs=
  if(bs.length:Int)≤h then(bs,2)
  else if(bs.getD h.toNat B0).is then(bs,ziI bs (.mk k h xs) t n)
  else if(Yf xs n).2=false then(bs,5)
  else if(Xi t (Yf xs n).1 n).2≠0∨(ps.getD h.toNat false=true∧zay rs t=false)then(bs,6)
  else(bs.set h.toNat ⟨true,(Xi t (Yf xs n).1 n).1⟩,0):=rfl
theorem zg0(ps rs:List Bool)(bd:Bool)(cs:List T)(n:Int)(bs:List Bd):Qn ps rs bd [] cs n bs=(bs,0):=by rw[Qn]
theorem zg1(ps rs:List Bool)(k h:Int)(xs:List T)(t:T)(n:Int)(bs:List Bd):X6 ps rs (.mk k h xs) t n bs=
  if k=6 then zhu ps rs (.mk k h xs) t n bs else if k≠t.k∨h≠t.h∨xs.length≠t.args.length then(bs,6)else Qn ps rs (bindsB k) xs t.args n bs:=by rw[X6]
theorem ziJ(θ:List T)(b:Bool)(n:Int):Y3 θ b [] n=([],0):=by rw[Y3]
theorem zlv(θ:List T)(b:Bool)(a:T)(l:List T)(n:Int):Y3 θ b (a::l) n=
  if(YX θ a (if b&&l.isEmpty then n+1 else n)).2≠0 then([],(YX θ a (if b&&l.isEmpty then n+1 else n)).2)
  else if(Y3 θ b l n).2≠0 then([],(Y3 θ b l n).2)else((YX θ a (if b&&l.isEmpty then n+1 else n)).1::(Y3 θ b l n).1,0):=by rw[Y3]
theorem zg2(θ:List T)(k h:Int)(xs:List T)(n:Int):YX θ (.mk k h xs) n=
  if(Y3 θ (bindsB k) xs n).2≠0 then(T0,(Y3 θ (bindsB k) xs n).2)
  else if k≠6 then(.mk k h (Y3 θ (bindsB k) xs n).1,0)
  else if(θ.length:Int)≤h then(T0,2)
  else if(Y3 θ (bindsB k) xs n).1.any (fun x=> !may x)then(T0,4)
  else Yz (θ.getD h.toNat T0) (Y3 θ (bindsB k) xs n).1 n:=by rw[YX]
theorem zcw(ps rs:List Bool)(bd:Bool)(a:T)(zs:List T)(c:T)(cs:List T)(n:Int)(bs:List Bd):Qn ps rs bd (a::zs) (c::cs) n bs=
  if(X6 ps rs a c (if bd&&zs.isEmpty then n+1 else n) bs).2≠0 then X6 ps rs a c (if bd&&zs.isEmpty then n+1 else n) bs else Qn ps rs bd zs cs n (X6 ps rs a c (if bd&&zs.isEmpty then n+1 else n) bs).1:=by
 rw[Qn]
 rfl
mutual
theorem zhv{B:Int}{ps rs:List Bool}: ∀(p t:T) (n:Int) (bs:List Bd),okB B t→OkBds (B+1000) bs→OkBds (B+1000) (X6 ps rs p t n bs).1∧(X6 ps rs p t n bs).1.length=bs.length
 | .mk k h xs,t,n,bs,ht,hb=>by
  unfold X6
  split
  ·exact zvv ht hb
  ·split
   ·exact⟨hb,rfl⟩
   ·rename_i _ c
    simp only[not_or,Decidable.not_not]at c
    exact znk (bindsB k) xs t.args n bs (by cases t;exact(Xa _ _).1 ht.2.2) (by omega) hb
theorem znk{B:Int}{ps rs:List Bool}(bd:Bool): ∀(zs cs:List T) (n:Int) (bs:List Bd),(∀x∈cs,okB B x)→zs.length≤cs.length→OkBds (B+1000) bs→OkBds (B+1000) (Qn ps rs bd zs cs n bs).1∧(Qn ps rs bd zs cs n bs).1.length=bs.length
 |[],cs,n,bs,_,_,hb=>by unfold Qn;exact⟨hb,rfl⟩
 |a::zs,c::cs,n,bs,hc,hl,hb=>by
  have h1:=zhv (ps:=ps) (rs:=rs) a c (if bd&&zs.isEmpty then n+1 else n) bs (hc c (by simp)) hb
  rw[zcw]
  generalize(if(bd&&zs.isEmpty)=true then n+1 else n)=n' at h1⊢
  by_cases hz:(X6 ps rs a c n' bs).2≠0
  ·rw[if_pos hz];exact h1
  ·rw[if_neg hz]
   have h2:=znk (ps:=ps) (rs:=rs) bd zs cs n _ (fun x hx=>hc x (by simp[hx])) (by simpa using hl) h1.1
   exact⟨h2.1,h2.2.trans h1.2⟩
 |a::zs,[],n,bs,_,hl,_=>by simp at hl
end
end Go.Ama
namespace Go.Ama
open Go Go.AM
def zbZ(vs:List Int)(d:Nat):List T:=vs.map (fun v=> .mk 4 (v+d) [])++vars d
theorem zdl(vs:List Int)(d:Nat):(zbZ vs d).length=vs.length+d:=by simp[zbZ,zeN]
theorem zjw: ∀(l:List Int) (d:Nat),sizes (l.map fun v=>T.mk 4 (v+d) [])=l.length
 |[],_=>rfl
 |a::l,d=>by simp only[List.map_cons,sizes,T.size,zjw l d,List.length_cons];omega
theorem zjx: ∀(l:List Nat),sizes (l.map var)=l.length
 |[]=>rfl
 |a::l=>by
  have e:(var a).size=1:=rfl
  rw[List.map_cons,List.length_cons]
  show(var a).size+sizes (l.map var)=_
  rw[e,zjx l]
  omega
theorem zlw(vs:List Int)(d:Nat):sizes (zbZ vs d)=vs.length+d:=by
 unfold zbZ vars
 rw[zbk,zjw,zjx]
 simp
theorem zsJ{h:Int}(h0:0≤h)(h1:h≤9223372036854775000):upP (.mk 4 h []) 1 0= .mk 4 (h+1) []:=by
 have hm:may (.mk 4 h [])=true:=by simp[may,YO,Xb,zcZ,T.size,T.depth,sizes,Yh,h0]
 unfold upP
 rw[hm,if_pos (by decide)]
 have e:(0:Int)+0≤h:=by omega
 show T.mk 4 (if(4:Int)=4 then upV 1 0 0 h else h) []=_
 unfold upV
 rw[if_pos rfl,if_pos e,Zq ⟨by omega,by omega⟩]
theorem zjy{vs:List Int}{d:Nat}(hv: ∀v∈vs,0≤v∧v<1000)(hd:d≤100000):zgl (zbZ vs d)=zbZ vs (d+1):=by
 unfold zgl zbZ
 rw[List.map_append,List.append_assoc]
 congr 1
 ·rw[List.map_map]
  refine List.map_congr_left fun v h=> ?_
  have:=hv v h
  simp only[Function.comp]
  rw[zsJ (by omega) (by omega)]
  congr 1
  omega
 ·unfold vars
  rw[List.range_succ_eq_map,List.reverse_cons,List.map_append,List.map_map,←List.map_reverse,List.map_map]
  congr 1
  refine List.map_congr_left fun i hi=> ?_
  have:i<d:=by simpa using hi
  simp only[Function.comp,var]
  rw[zsJ (by omega) (by omega)]
  congr 1
theorem znl{n:Int}{d:Nat}(hn:0≤n)(hn2:n≤1000)(hd:d≤100000):zbG (n+d)=n+((d+1:Nat):Int):=by
 unfold zbG
 rw[Zq ⟨by omega,by omega⟩]
 omega
theorem zxx{vs:List Int}{d:Nat}{s i:Int}(h0:0≤i)(h:i<d):ofT (zbZ vs d) s i= .mk 4 i []:=by
 unfold ofT
 rw[if_pos (by rw[zdl];omega),zdl]
 unfold zbZ
 rw[List.getD_eq_getElem?_getD,List.getElem?_append_right (by simp;omega)]
 have hk:vs.length+d-1-i.toNat-(vs.map fun v=>T.mk 4 (v+d) []).length<(vars d).length:=by rw[zeN,List.length_map];omega
 rw[List.getElem?_eq_getElem hk,Option.getD_some,zvl]
 congr 1
 simp only[List.length_map]
 omega
theorem zxy{vs:List Int}{d p:Nat}{s:Int}(hp:p<vs.length):ofT (zbZ vs d) s ((vs.length:Int)-1-p+d)= .mk 4 (vs[p]+d) []:=by
 unfold ofT
 rw[if_pos (by rw[zdl];omega),zdl]
 unfold zbZ
 have he:vs.length+d-1-((vs.length:Int)-1-p+d).toNat=p:=by omega
 rw[he,List.getD_eq_getElem?_getD,List.getElem?_append_left (by simpa using hp)]
 simp[hp]
theorem zw3{vs:List Int}{d:Nat}{n i:Int}(h:(vs.length:Int)+d≤i)(h2:i≤4611686018427388904)(hn:0≤n∧n≤1000)(hd:d≤100000):ofT (zbZ vs d) (n+d) i= .mk 4 (i-vs.length+n) []:=by
 unfold ofT
 rw[if_neg (by rw[zdl];omega),zdl]
 rw[Zq (n:=i-_) ⟨by omega,by omega⟩,Zq ⟨by omega,by omega⟩]
 congr 1
 omega
theorem zsK{vs:List Int}{n h':Int}{d:Nat}(hm:zaf vs n=true)(h0:0≤h')(h1:h'≤4611686018427387904)(hd:d≤100000): ∃h,ofT (zbZ vs d) (n+d) h'= .mk 4 h []∧zdL vs n 4 h d=some h'∧0≤h∧h≤h'+1000:=by
 obtain⟨m1,m2,m3,m4⟩:=Qm.1 hm
 have ml:=zht hm
 unfold zdL
 rcases Int.lt_or_le h' d with hl|hl
 ·exact⟨h',zxx h0 hl,by rw[if_neg (fun c=>by omega)],h0,by omega⟩
 ·rcases Int.lt_or_le h' (vs.length+d)with hm2|hh
  ·have hp:vs.length-1-(h'-d).toNat<vs.length:=by omega
   have he:h'=(vs.length:Int)-1-((vs.length-1-(h'-d).toNat:Nat):Int)+d:=by omega
   have ho:=zxy (vs:=vs) (d:=d) (s:=n+d) hp
   rw[←he]at ho
   have hb:=m4 _ (List.getElem_mem hp)
   refine⟨_,ho, ?_,by omega,by omega⟩
   rw[if_pos ⟨rfl,by omega⟩]
   unfold Qe
   rw[if_neg (by omega),if_pos (by rw[show vs[vs.length-1-(h'-d).toNat]+(d:Int)-d=vs[vs.length-1-(h'-d).toNat] by omega];exact List.getElem_mem hp)]
   rw[show vs[vs.length-1-(h'-d).toNat]+(d:Int)-d=vs[vs.length-1-(h'-d).toNat] by omega,m3.idxOf_getElem]
   simp only[Option.map_some,Option.some.injEq]
   omega
  ·refine⟨_,zw3 hh (by omega) ⟨m1,m2⟩ hd, ?_,by omega,by omega⟩
   rw[if_pos ⟨rfl,by omega⟩]
   unfold Qe
   rw[if_pos (by omega)]
   simp only[Option.map_some,Option.some.injEq]
   omega
mutual
theorem zoz{vs:List Int}{n:Int}(hm:zaf vs n=true){B:Int}(hB:B≤4611686018427387904): ∀(u t:T) (d m m':Nat),okB B u→d+u.size≤100000→Big (.ap m u (zbZ vs d) (n+d)) (.t t m')→zaT vs n t d=some u
 | .mk k h' ys,t,d,m,m',⟨⟨b1,b2⟩,b3,b4⟩,hd,hb=>by
  simp only[T.size]at hd
  have hsz:=hd
  cases hb with
  |apNode q1 q2 hk b1'=>
   rename_i zs
   have hc:=zlx hm hB ys (bindsB k) zs d (m+1) m' b4 (by omega) b1'
   have hh:zdL vs n k h' d=some h':=by unfold zdL;rw[if_neg (fun c=>hk c.1)]
   unfold zaT
   simp only[T.k,T.h]
   rw[hh,hc]
  |apVar q1 q2 q3 hk q4 q5 b1' c=>
   rename_i zs p
   simp only[T.k]at hk
   subst hk
   have hc:=zlx hm hB ys (bindsB 4) zs d (m+1) p b4 (by omega) b1'
   obtain⟨h,ho,hr,_,_⟩:=zsK hm b1 (by omega:h'≤4611686018427387904) (by omega:d≤100000)
   simp only[T.h]at c
   rw[ho]at c
   have ht:t= .mk 4 h zs:=by
    cases c with
    |spNil=>rfl
    |spLam h3=>cases h3
    |spApp _ _=>rfl
   subst ht
   unfold zaT
   rw[hr,hc]
theorem zlx{vs:List Int}{n:Int}(hm:zaf vs n=true){B:Int}(hB:B≤4611686018427387904): ∀(ys:List T) (bd:Bool) (xs:List T) (d m m':Nat),JN B ys→d+1+sizes ys≤100000→Big (.ar m bd ys (zbZ vs d) (n+d)) (.l xs m')→Q8 vs n bd xs d=some ys
 |[],bd,xs,d,m,m',_,_,hb=>by
  cases hb
  unfold Q8
  rfl
 |b::ys,bd,xs,d,m,m',⟨h1,h2⟩,hd,hb=>by
  obtain⟨m1,m2,m3,m4⟩:=Qm.1 hm
  simp only[sizes]at hd
  cases hb with
  |arCons hl b1 c1=>
   rename_i p a' zs'
   have hc:=zlx hm hB ys bd zs' d p m' h2 (by have:=Xo b;omega) c1
   have he:zs'.isEmpty=ys.isEmpty:=by
    have: ∀(l r:List T) (d:Int),Q8 vs n bd l d=some r→r.length=l.length:=by
     intro l
     induction l with
     |nil=>intro r d h;unfold Q8 at h;cases h;rfl
     |cons x l ih=>
      intro r d h
      unfold Q8 at h
      cases hx:zaT vs n x (if bd&&l.isEmpty then d+1 else d)with
      |none=>rw[hx]at h;cases h
      |some y=>
       rw[hx]at h
       cases hy:Q8 vs n bd l d with
       |none=>rw[hy]at h;cases h
       |some ys=>rw[hy]at h;cases h;simp[ih _ _ hy]
    have:=this _ _ _ hc
    cases zs'<;>cases ys<;>simp_all
   unfold belowL' belowS' at b1
   unfold Q8
   rw[he]
   by_cases hbd:(bd&&ys.isEmpty)=true
   ·rw[if_pos hbd,if_pos hbd,zjy (fun v hv=>by have:=m4 v hv;omega) (by omega),znl m1 m2 (by omega)]at b1
    have:=zoz hm hB b a' (d+1) m p h1 (by omega) b1
    rw[Int.natCast_add,Int.natCast_one]at this
    rw[if_pos hbd,this,hc]
   ·rw[if_neg hbd,if_neg hbd]at b1
    have:=zoz hm hB b a' d m p h1 (by omega) b1
    rw[if_neg hbd,this,hc]
end
def XL(vs:List Int):List T:=vs.map fun v=> .mk 4 v []
theorem ztW(vs:List Int):zbZ vs 0=XL vs:=by simp[zbZ,XL,vars]
theorem zo0{vs:List Int}{n:Int}(hm:zaf vs n=true)(hl:vs.length≤200):zee (XL vs) n=true:=by
 obtain⟨m1,m2,m3,m4⟩:=Qm.1 hm
 unfold zee
 simp only[Bool.and_eq_true,decide_eq_true_eq,List.all_eq_true]
 refine⟨by simpa[XL]using hl,m1,by omega,fun x hx=> ?_⟩
 obtain⟨v,hv,rfl⟩:=List.mem_map.1 hx
 have:=(m4 v hv).1
 simp[may,YO,Xb,zcZ,T.size,T.depth,sizes,Yh,this]
mutual
theorem zly{vs:List Int}{n:Int}(hm:zaf vs n=true){B:Int}(hB:B≤4611686018427387904): ∀(u:T) (d m:Nat),okB B u→d+u.size≤100000→m+u.size≤40000→ ∃t,Big (.ap m u (zbZ vs d) (n+d)) (.t t (m+u.size))∧okB (B+1000) t
 | .mk k h' ys,d,m,⟨⟨b1,b2⟩,b3,b4⟩,hd,hms=>by
  simp only[T.size]at hd hms⊢
  obtain⟨xs,hb,ho,hl⟩:=zqw hm hB ys (bindsB k) d (m+1) b4 (by omega) (by omega)
  have hsz:sizes (zbZ vs d)≤1099511627776:=by have:=zht hm;rw[zlw];omega
  have hxs:sizes xs≤40000∨True:= .inr trivial
  have hle: ∀{hk:k=3},xs≠ []:=fun {hk} e=>by subst e;exact b3 hk (List.length_eq_zero_iff.1 (by simpa using hl.symm))
  rw[show m+(1+sizes ys)=m+1+sizes ys by omega]
  by_cases hk:k=4
  ·subst hk
   obtain⟨h,hof,hr,g1,g2⟩:=zsK hm b1 (by omega:h'≤4611686018427387904) (by omega:d≤100000)
   refine⟨.mk 4 h xs, .apVar (by omega) (by simp only[T.size];omega) hsz rfl b1 ⟨?_, ?_⟩ hb ?_,⟨⟨g1,by omega⟩,(fun e=>by cases e),ho⟩⟩
   ·show-9223372036854775808≤h'
    omega
   ·show h'≤9223372036854775807
    omega
   ·show Big (.sp (m+1+sizes ys) (ofT (zbZ vs d) (n+d) h') xs) _
    rw[hof]
    cases xs with
    |nil=>exact .spNil
    |cons a l=>
     have:=Zp ys
     rw[List.length_cons]at hl
     exact .spApp (.inr (.inl rfl)) (by simp only[T.args,List.length_nil];omega)
  ·exact⟨.mk k h' xs, .apNode (by omega) (by simp only[T.size];omega) hk hb,⟨⟨b1,by omega⟩,fun e=>hle (hk:=e),ho⟩⟩
theorem zqw{vs:List Int}{n:Int}(hm:zaf vs n=true){B:Int}(hB:B≤4611686018427387904): ∀(ys:List T) (bd:Bool) (d m:Nat),JN B ys→d+1+sizes ys≤100000→m+sizes ys≤40000→ ∃xs,Big (.ar m bd ys (zbZ vs d) (n+d)) (.l xs (m+sizes ys))∧JN (B+1000) xs∧xs.length=ys.length
 |[],bd,d,m,_,_,_=>⟨[], .arNil,trivial,rfl⟩
 |b::ys,bd,d,m,⟨h1,h2⟩,hd,hms=>by
  simp only[sizes]at hd hms⊢
  obtain⟨m1,m2,m3,m4⟩:=Qm.1 hm
  have hsz:sizes (zbZ vs d)≤1099511627776:=by have:=zht hm;rw[zlw];omega
  obtain⟨xs,hx,ho,hl⟩:=zqw hm hB ys bd d (m+b.size) h2 (by have:=Xo b;omega) (by omega)
  rw[show m+(b.size+sizes ys)=m+b.size+sizes ys by omega]
  by_cases hbd:(bd&&ys.isEmpty)=true
  ·obtain⟨t,ht,hto⟩:=zly hm hB b (d+1) m h1 (by omega) (by omega)
   refine⟨t::xs, .arCons (m:=m+b.size) hsz ?_ hx,⟨hto,ho⟩,by simp[hl]⟩
   unfold belowL' belowS'
   rw[if_pos hbd,if_pos hbd,zjy (fun v hv=>by have:=m4 v hv;omega) (by omega),znl m1 m2 (by omega)]
   exact ht
  ·obtain⟨t,ht,hto⟩:=zly hm hB b d m h1 (by omega) (by omega)
   refine⟨t::xs, .arCons (m:=m+b.size) hsz ?_ hx,⟨hto,ho⟩,by simp[hl]⟩
   unfold belowL' belowS'
   rw[if_neg hbd,if_neg hbd]
   exact ht
end
mutual
theorem zlz{vs:List Int}{n:Int}(hm:zaf vs n=true){B:Int}: ∀(t:T) (ar:Int) (u:T),0≤ar→okB B t→zaT vs n t ar=some u→YO u=true→YO t=true
 | .mk k h xs,ar,u,ha,⟨⟨b1,b2⟩,b3,b4⟩,hr,hn=>by
  unfold zaT at hr
  cases hh:zdL vs n k h ar with
  |none=>rw[hh]at hr;cases hr
  |some h'=>
   rw[hh]at hr
   cases hs:Q8 vs n (bindsB k) xs ar with
   |none=>rw[hs]at hr;cases hr
   |some ys=>
    rw[hs]at hr
    cases hr
    simp only[YO,Bool.and_eq_true]at hn⊢
    have hl:=(zct hm xs (bindsB k) ar ys ha b4 hs).2.2.2.2
    refine⟨?_,zjz hm xs (bindsB k) ar ys ha b4 hs hn.2⟩
    rw[←hl]
    by_cases h4:k=4
    ·subst h4
     simp[zcZ,b1]
    ·rw[(zsI hm b1 ha hh).2.2 h4]at hn;exact hn.1
theorem zjz{vs:List Int}{n:Int}(hm:zaf vs n=true){B:Int}: ∀(l:List T) (bd:Bool) (ar:Int) (us:List T),0≤ar→JN B l→Q8 vs n bd l ar=some us→Xb us=true→Xb l=true
 |[],_,_,_,_,_,_,_=>rfl
 |a::l,bd,ar,us,ha,⟨h1,h2⟩,hr,hn=>by
  unfold Q8 at hr
  cases hh:zaT vs n a (if bd&&l.isEmpty then ar+1 else ar)with
  |none=>rw[hh]at hr;cases hr
  |some b=>
   rw[hh]at hr
   cases hs:Q8 vs n bd l ar with
   |none=>rw[hs]at hr;cases hr
   |some bs=>
    rw[hs]at hr
    cases hr
    simp only[Xb,Bool.and_eq_true]at hn⊢
    exact⟨zlz hm a _ b (by split<;>omega) h1 hh hn.1,zjz hm l bd ar bs ha h2 hs hn.2⟩
end
theorem zrY{vs:List Int}{n B:Int}{u:T}(hB:B≤4611686018427380000)(hu:okB B u)(hmu:may u=true)(hm:zaf vs n=true)(hl:vs.length≤200):
  ∃t,Yz u (XL vs) n=(t,0)∧may t=true∧okB (B+1000) t∧Xi t vs n=(u,0):=by
 have hs:=Yu hmu
 obtain⟨t,hb,hto⟩:=zly hm (by omega:B≤4611686018427387904) u 0 0 hu (by omega) (by omega)
 have hr:=zoz hm (by omega:B≤4611686018427387904) u t 0 0 _ hu (by omega) hb
 rw[ztW,show n+((0:Nat):Int)=n by omega]at hb
 rw[show((0:Nat):Int)=0 from rfl]at hr
 have hsh:=zgz hm t 0 u (by omega) hto hr
 have hmt:may t=true:=by
  have hn:YO t=true:=zlz hm t 0 u (by omega) hto hr (zfv hmu)
  unfold may at hmu⊢
  simp only[Bool.and_eq_true]at hmu⊢
  rw[←hsh.1,←hsh.2.1]
  exact⟨hn,hmu.2⟩
 refine⟨t, ?_,hmt,hto, ?_⟩
 ·unfold Yz zdD
  rw[zs9 hb,hmu,zo0 hm hl]
  simp[zck,hmt]
 ·unfold Xi
  rw[hmt,hm]
  simp only[Bool.not_true,Bool.or_self]
  rw[hr]
  rfl
end Go.Ama
namespace Go.Proofs.CL
open Go Go.AM Go.Ama
set_option maxRecDepth 100000
theorem zqx{vars:List Int}{n i:Int}(hv:vars.length≤1048576)(hn:0≤n∧n≤1048576)(hi:0≤i∧i≤4611686018427390000): ∃j,Ev 203 [.agg [.vec .plain none (Jr vars), .int n], .int i] (.tup [.int j, .bool (Qe vars n i).isSome])∧ ∀y,Qe vars n i=some y→j=y:=by
 obtain⟨r,h1,_,h3⟩:=zeW vars i (by omega)
 have h1:=h1.p
 have hw1:IntKind.i64.wrap (i-n)=i-n:=Zq ⟨by omega,by omega⟩
 have hw2:IntKind.i64.wrap (i-n+vars.length)=i-n+vars.length:=Zq ⟨by omega,by omega⟩
 have hw3:IntKind.i64.wrap ((vars.length:Int)-1)=vars.length-1:=Zq ⟨by omega,by omega⟩
 by_cases hni:n≤i
 ·refine⟨i-n+vars.length, ?_,fun y hy=> ?_⟩
  ·unfold Ev
   rw[C,QD,X5,hw1,hw2]
   simp[hni,Qe]
  ·simp[Qe,hni]at hy;exact hy
 ·have hni': ¬i≥n:=by omega
  by_cases hm:i∈vars
  ·rw[if_pos hm]at h3
   have hl:=List.idxOf_lt_length_iff.2 hm
   have hw4:IntKind.i64.wrap ((vars.length:Int)-1-r)=(vars.length:Int)-1-(vars.idxOf i:Nat):=by rw[h3,Zq ⟨by omega,by omega⟩]
   refine⟨(vars.length:Int)-1-(vars.idxOf i:Nat), ?_,fun y hy=> ?_⟩
   ·have hr:r≥0:=by omega
    unfold Ev
    rw[C,QD,X5,h1,hw3]
    simp only[hni',decide_false,Zo,Zf,Z2,hw4]
    simp[Qe,hni,hm,hr]
   ·simp[Qe,hni,hm]at hy;exact hy
  ·rw[if_neg hm]at h3
   refine⟨IntKind.i64.wrap ((vars.length:Int)-1-r), ?_,fun y hy=> ?_⟩
   ·have hr: ¬r≥0:=by omega
    unfold Ev
    rw[C,QD,X5,h1,hw3]
    simp only[hni',decide_false,Zo,Zf,Z2]
    simp[Qe,hni,hm,hr]
   ·simp[Qe,hni,hm]at hy
theorem ztX(vars:List Int)(n:Int)(hv:vars.length≤1048576):Ev 201 [.agg [.vec .plain none (Jr vars), .int n]] (.bool (zaf vars n)):=by
 have hL: ∀(m i:Nat),vars.length-i=m→i≤vars.length→W.loop 201 4 [.int (i:Int), .loc false (some 2) (.agg [.vec .plain none (Jr vars), .int n]), .vec .plain none (Jr vars), .int vars.length] []=
   if∀(j:Nat) (h:j<vars.length),i≤j→0≤vars[j]∧vars[j]<n∧vars[j]∉vars.take j then some (.exit 0,[],[])else some (.ret,[.bool false],[]):=by
  intro m
  induction m with
  |zero=>
   intro i hm hi
   have:i=vars.length:=by omega
   subst this
   rw[L,zai,if_pos (fun j h h2=>by omega)]
   simp
  |succ m ih=>
   intro i hm hi
   have hlt:i<vars.length:=by omega
   have hlt':(i:Int)<vars.length:=by omega
   have hle':(i:Int)≤vars.length:=by omega
   have hw:IntKind.i64.wrap ((i:Int)+1)=((i+1:Nat):Int):=by rw[Zq ⟨by omega,by omega⟩];omega
   have hc:=(zab (vars.take i) vars[i] (by simp;omega)).p
   have htk:List.drop 0 (List.take (i:Int).toNat (Jr vars))=Jr (vars.take i):=by simp[Jr,List.map_take]
   have hi1:=ih (i+1) (by omega) (by omega)
   rw[L,zai,hw,ziA hlt,X5,htk]
   by_cases h0:vars[i]<0
   ·rw[if_neg (fun h=>by have:=h i hlt (Nat.le_refl _);omega)]
    simp[hlt',h0]
   ·by_cases h1:n≤vars[i]
    ·rw[if_neg (fun h=>by have:=h i hlt (Nat.le_refl _);omega)]
     simp[hlt',h0,h1]
    ·by_cases h2:vars[i]∈vars.take i
     ·rw[if_neg (fun h=>(h i hlt (Nat.le_refl _)).2.2 h2)]
      simp[hlt',hle',h0,h1,hc,h2]
     ·have e:(∀(j:Nat) (h:j<vars.length),i≤j→0≤vars[j]∧vars[j]<n∧vars[j]∉vars.take j)↔(∀(j:Nat) (h:j<vars.length),i+1≤j→0≤vars[j]∧vars[j]<n∧vars[j]∉vars.take j):=by
       constructor
       ·intro h j hj hij;exact h j hj (by omega)
       ·intro h j hj hij
        by_cases e:j=i
        ·subst e;exact⟨by omega,by omega,h2⟩
        ·exact h j hj (by omega)
      simp only[hlt',hle',h0,h1,hc,h2,decide_true,decide_false,Int.natCast_nonneg,Bool.and_self,Bool.true_and,Zz,Zr,Zo,Z2,Zf,Z0,ge_iff_le]
      rw[hi1]
      simp only[e]
 have h:=hL _ 0 rfl (Nat.zero_le _)
 simp only[Int.natCast_zero]at h
 have hall:(∀(j:Nat) (h:j<vars.length),0≤j→0≤vars[j]∧vars[j]<n∧vars[j]∉vars.take j)↔(vars.Nodup∧ ∀v∈vars,0≤v∧v<n):=by
  constructor
  ·intro h
   refine⟨?_,fun v hv=> ?_⟩
   ·unfold List.Nodup
    rw[List.pairwise_iff_getElem]
    intro i j hi hj hij e
    refine(h j hj (Nat.zero_le _)).2.2 ?_
    rw[←e]
    exact List.mem_take_iff_getElem.2 ⟨i,by omega,rfl⟩
   ·obtain⟨j,hj,rfl⟩:=List.getElem_of_mem hv
    have:=h j hj (Nat.zero_le _)
    exact⟨this.1,this.2.1⟩
  ·rintro⟨h1,h2⟩ j hj _
   have:=h2 _ (List.getElem_mem hj)
   refine⟨this.1,this.2,fun hm=> ?_⟩
   obtain⟨i,hi,e⟩:=List.mem_take_iff_getElem.1 hm
   unfold List.Nodup at h1
   rw[List.pairwise_iff_getElem]at h1
   exact h1 i j (by omega) hj (by omega) e
 unfold Ev
 rw[C,zgy,X5]
 by_cases h0:n<0
 ·have:zaf vars n=false:=by
   cases hx:zaf vars n with
   |false=>rfl
   |true=>have:=Qm.1 hx;omega
  simp[h0,this]
 ·by_cases h1:n>1000
  ·have:zaf vars n=false:=by
    cases hx:zaf vars n with
    |false=>rfl
    |true=>have:=Qm.1 hx;omega
   simp[h0,h1,this]
  ·rw[h]
   by_cases hc:(vars.Nodup∧ ∀v∈vars,0≤v∧v<n)
   ·have:zaf vars n=true:=Qm.2 ⟨by omega,by omega,hc.1,hc.2⟩
    rw[if_pos (hall.2 hc),this]
    simp[h0,h1]
   ·have:zaf vars n=false:=by
     cases hx:zaf vars n with
     |false=>rfl
     |true=>exact absurd ⟨(Qm.1 hx).2.2.1,(Qm.1 hx).2.2.2⟩ hc
    rw[if_neg (fun h=>hc (hall.1 h)),this]
    simp[h0,h1]
theorem zqy:cfg.pure 203=true:=by kernel_rfl
abbrev rnF(vars:List Int)(n:Int):V:= .fn 203 [.agg [.vec .plain none (Jr vars), .int n]] []
def zmy(x:Option T):V:= .tup [enc (x.getD T0), .bool x.isSome]
theorem zo1{vars:List Int}{n:Int}{k h h':Int}{xs:List T}{ar:Nat}(hx:xs.length≤1000000)(har:ar≤1000000)
  (ih: ∀x∈xs,∀a:Nat,a≤ar+1→W.call 202 [enc x, .int (a:Int),rnF vars n] []=some (.ret (zmy (zaT vars n x a)),[])):
  ∀(m i:Nat) (acc:List T),xs.length-i=m→i≤xs.length→acc.length=i→
   W.loop 202 8 [.loc true (some 3) (.agg [.int 0, .int 0, .vec .full (some 3) []]), .int (i:Int), .loc true (some 3) (.agg [.int k, .int h', .vec .grow (some 3) (Zg acc)]),rnF vars n, .loc false (some 3) (.agg [.int k, .int h, .vec .plain (some 3) (Zg xs)]), .int (ar:Int), .vec .plain (some 3) (Zg xs), .int xs.length] []=
    match Q8 vars n (bindsB k) (xs.drop i) ar with
    |some us=>some (.exit 0,[.loc true (some 3) (.agg [.int 0, .int 0, .vec .full (some 3) []]), .loc true (some 3) (.agg [.int k, .int h', .vec .grow (some 3) (Zg (acc++us))])],[])
    |none=>some (.ret,[.loc false (some 3) (enc T0), .bool false],[]):=by
 intro m
 induction m with
 |zero=>
  intro i acc hm hi ha
  have:i=xs.length:=by omega
  subst this
  rw[List.drop_length,L,zaV]
  simp[Q8]
 |succ m ihm=>
  intro i acc hm hi ha
  have hlt:i<xs.length:=by omega
  have hlt':(i:Int)<xs.length:=by omega
  have hw:IntKind.i64.wrap ((i:Int)+1)=((i+1:Nat):Int):=by rw[Zq ⟨by omega,by omega⟩];omega
  have hw1:IntKind.i64.wrap ((xs.length:Int)-1)=(xs.length:Int)-1:=Zq ⟨by omega,by omega⟩
  have hw2:IntKind.i64.wrap ((ar:Int)+1)=((ar+1:Nat):Int):=by rw[Zq ⟨by omega,by omega⟩];omega
  have hd:xs.drop i=xs[i]::xs.drop (i+1):=List.drop_eq_getElem_cons hlt
  have hr:roomFor Tryz.prog 27 (acc.length+1)=true:=zaP (by omega)
  have hc0:=ih xs[i] (List.getElem_mem hlt) ar (by omega)
  have hc1:=ih xs[i] (List.getElem_mem hlt) (ar+1) (by omega)
  have hemp:(xs.drop (i+1)).isEmpty=decide (i+1=xs.length):=by
   rw[Bool.eq_iff_iff]
   simp only[List.isEmpty_iff,decide_eq_true_eq,List.drop_eq_nil_iff]
   omega
  have key: ∀(a:Nat),W.call 202 [enc xs[i], .int (a:Int),rnF vars n] []=some (.ret (zmy (zaT vars n xs[i] a)),[])→(a:Int)=(if(bindsB k&&(xs.drop (i+1)).isEmpty)=true then(ar:Int)+1 else ar)→
    (Za (W.call 202 [enc xs[i], .int (a:Int),rnF vars n] []) fun r4=>Zx r4.fst (fun v5=>ZG v5 fun c6=>Zd c6 fun v7 c8=>Zc [CT.int,CT.int,CT.slice (some 3)] v7 fun n9_1 n10 l11=>Zd c8 fun v12 c13=>Zi v12 fun b14=>Zn c13 (bc (!b14) (some (Ex.ret,[V.loc false (some 3) (V.agg [V.int 0,V.int 0,V.vec .plain (some 3) []]),V.bool false],r4.snd)) (gd (true&&roomFor Tryz.prog 27 ((Zg acc).length+[V.agg [V.int n9_1,V.int n10,V.vec .plain (some 3) l11]].length)) (W.2 202 8 [V.loc true (some 3) (.agg [.int 0, .int 0, .vec .full (some 3) []]),V.int ((i+1:Nat):Int),V.loc true (some 3) (V.agg [V.int k,V.int h',V.vec Mode.grow (some 3) (Zg acc++[V.agg [V.int n9_1,V.int n10,V.vec .plain (some 3) l11]])]),rnF vars n,V.loc false (some 3) (V.agg [V.int k,V.int h,V.vec .plain (some 3) (Zg xs)]),V.int ar,V.vec .plain (some 3) (Zg xs),V.int xs.length] r4.snd)))) fun p15=>none)=
     match Q8 vars n (bindsB k) (xs.drop i) ar with
     |some us=>some (.exit 0,[.loc true (some 3) (.agg [.int 0, .int 0, .vec .full (some 3) []]), .loc true (some 3) (.agg [.int k, .int h', .vec .grow (some 3) (Zg (acc++us))])],[])
     |none=>some (.ret,[.loc false (some 3) (enc T0), .bool false],[]):=by
   intro a hca hae
   rw[hd,hca]
   unfold Q8
   rw[←hae]
   simp only[zmy,Zf,Z9,Y1,ZE,zbX,Z0,ZN,←Zb]
   cases hq:zaT vars n xs[i] a with
   |none=>simp[enc,T0]
   |some u=>
    have e1:Zg acc++[enc u]=Zg (acc++[u]):=by simp[QY]
    have hi1:=ihm (i+1) (acc++[u]) (by omega) (by omega) (by simp[ha])
    simp only[Option.getD_some,Option.isSome_some,Bool.not_true,Zo,Zh,List.length_singleton,hr,Bool.and_self,Zz,e1]
    rw[hi1]
    cases Q8 vars n (bindsB k) (xs.drop (i+1)) ar with
    |none=>rfl
    |some us=>simp
  rw[L,zaV,hw,ZC hlt,Zh,hw1,hw2]
  simp only[hlt',Int.natCast_nonneg,decide_true,Bool.and_self,Zz,Zr,zbX,←Zb]
  by_cases hk1:k=1
  ·subst hk1
   by_cases hl:i+1=xs.length
   ·have e:((i:Int)==(xs.length:Int)-1)=true:=by simp;omega
    rw[e]
    simp only[beq_self_eq_true,Zr]
    exact key (ar+1) hc1 (by rw[hemp];simp[hl,bindsB])
   ·have e:((i:Int)==(xs.length:Int)-1)=false:=by simp;omega
    rw[e]
    simp only[beq_self_eq_true,Zr,Zo]
    exact key ar hc0 (by rw[hemp];simp[hl,bindsB])
  ·have ek1:(k==1)=false:=by simpa using hk1
   by_cases hk3:k=3
   ·subst hk3
    by_cases hl:i+1=xs.length
    ·have e:((i:Int)==(xs.length:Int)-1)=true:=by simp;omega
     rw[e]
     simp only[beq_self_eq_true,Zr,Zo,ek1]
     exact key (ar+1) hc1 (by rw[hemp];simp[hl,bindsB])
    ·have e:((i:Int)==(xs.length:Int)-1)=false:=by simp;omega
     rw[e]
     simp only[beq_self_eq_true,Zr,Zo,ek1]
     exact key ar hc0 (by rw[hemp];simp[hl,bindsB])
   ·have ek3:(k==3)=false:=by simpa using hk3
    simp only[ek1,ek3,Zo]
    exact key ar hc0 (by simp[bindsB,hk1,hk3])
end Go.Proofs.CL
namespace Go.Proofs.CL
open Go Go.AM Go.Ama
set_option maxRecDepth 100000
theorem zo2{vars:List Int}{n:Int}(hv:vars.length≤1048576)(hn:0≤n∧n≤1048576): ∀(N:Nat) (t:T) (ar:Nat),t.size≤N→ar+t.size≤1000000→okB 4611686018427389000 t→
  W.call 202 [enc t, .int (ar:Int),rnF vars n] []=some (.ret (zmy (zaT vars n t ar)),[]):=by
 intro N
 induction N with
 |zero=>intro t ar h;have:=Xo t;omega
 |succ N ih=>
  intro t ar hN hs ht
  obtain⟨k,h,xs⟩:=t
  obtain⟨⟨b1,b2⟩,b3,b4⟩:=ht
  simp only[T.size]at hN hs
  have hxl:=Zp xs
  have hih: ∀x∈xs,∀a:Nat,a≤ar+1→W.call 202 [enc x, .int (a:Int),rnF vars n] []=some (.ret (zmy (zaT vars n x a)),[]):=by
   intro x hx a ha
   have:=size_le hx
   exact ih x a (by omega) (by omega) ((Xa _ _).1 b4 x hx)
  have hloop:=fun h'=>zo1 (k:=k) (h:=h) (h':=h') (xs:=xs) (ar:=ar) (by omega) (by omega) hih _ 0 [] rfl (Nat.zero_le _) rfl
  simp only[Int.natCast_zero,List.drop_zero,Jv,List.nil_append]at hloop
  have key: ∀h':Int,zdL vars n k h ar=some h'→(Za (W.loop 202 8 [V.loc true (some 3) (V.agg [V.int 0,V.int 0,V.vec Mode.full (some 3) []]),V.int 0,V.loc true (some 3) (V.agg [V.int k,V.int h',V.vec Mode.grow (some 3) []]),rnF vars n,V.loc false (some 3) (V.agg [V.int k,V.int h,V.vec .plain (some 3) (Zg xs)]),V.int ar,V.vec .plain (some 3) (Zg xs),V.int xs.length] []) fun r75=>Y8 r75.fst none (Zd r75.snd.fst fun v76 c77=>Yj (some 3) v76 fun d78 v79=>Zd c77 fun v80 c81=>Zi v80 fun b82=>Zn c81 (Yt 0 (V.tup [bif cfg.room 202 then zeo v79 else Zt v79,V.bool b82]) r75.snd.snd)) (fun i83=>bc
    (i83.beq 0) (Zd r75.snd.fst fun v84 c85=>Yj (some 3) v84 fun d86 v87=>Zd c85 fun v88 c89=>Yj (some 3) v88 fun d90 v91=>YP v91 fun c92=>Zd c92 fun v93 c94=>Zl v93 fun n95=>Zd c94 fun v96 c97=>Zl v96 fun n98=>Zd c97 fun v99 c100=>YK (some 3) v99 fun l101=>Zn c100 (Zn c89 (Yt 0 (V.tup [V.agg [V.int n95,V.int n98,V.vec .plain (some 3) l101],V.bool true]) r75.snd.snd))) none) fun v102=>none)=some (.ret (zmy (zaT vars n (.mk k h xs) ar)),[]):=by
   intro h' hh
   rw[hloop h']
   unfold zaT
   rw[hh]
   dsimp only
   have hrm:cfg.room 202=false:=by kernel_rfl
   cases Q8 vars n (bindsB k) xs ar with
   |none=>simp[hrm,zmy,Yj,Zt,plain1,enc,T0,Yt]
   |some ys=>simp[zmy,Yj,YK,enc,Yt]
  have hC:W.call 202 [enc (.mk k h xs), .int (ar:Int),rnF vars n] []=Ze Tryz.prog cfg W 202 [.agg [.int k, .int h, .vec .plain (some 3) (Zg xs)], .int (ar:Int),rnF vars n] []:=C ..
  rw[hC,ziH,zqy,Zh]
  by_cases h4:k=4
  ·subst h4
   by_cases ha:(ar:Int)≤h
   ·have hw1:IntKind.i64.wrap (h-(ar:Int))=h-ar:=Zq ⟨by omega,by omega⟩
    obtain⟨j,hj1,hj2⟩:=zqx (vars:=vars) (n:=n) (i:=h-ar) hv hn ⟨by omega,by omega⟩
    have hj1:=hj1.p
    have ha':h≥(ar:Int):=ha
    rw[hw1]
    simp only[beq_self_eq_true,Zr,ha',decide_true,List.cons_append,List.nil_append,List.append_nil,hj1,Zf,Y1,ZE,Z2,Z0,ZN]
    cases hq:Qe vars n (h-ar)with
    |none=>
     have hr:zdL vars n 4 h ar=none:=by unfold zdL;rw[if_pos ⟨rfl,ha⟩,hq];rfl
     have hrt:zaT vars n (.mk 4 h xs) ar=none:=by unfold zaT;rw[hr]
     rw[hrt]
     simp[zmy,enc,T0,Yt]
    |some y=>
     have hy:=hj2 y hq
     subst hy
     have hr:zdL vars n 4 h ar=some (j+ar):=by unfold zdL;rw[if_pos ⟨rfl,ha⟩,hq];rfl
     have hjb:0≤j+1048577∧j≤4611686018427399000+1048576:=by
      unfold Qe at hq
      split at hq
      ·cases hq;omega
      ·split at hq
       ·rename_i hm
        have:=List.idxOf_lt_length_iff.2 hm
        cases hq;omega
       ·cases hq
     have hw2:IntKind.i64.wrap (j+(ar:Int))=j+ar:=Zq ⟨by omega,by omega⟩
     have:=key _ hr
     simp only[Option.isSome_some,Bool.not_true,Zo,hw2]
     exact this
   ·have hr:zdL vars n 4 h ar=some h:=by unfold zdL;rw[if_neg (fun c=>ha c.2)]
    have ha': ¬h≥(ar:Int):=ha
    have:=key _ hr
    simp only[beq_self_eq_true,Zr,ha',decide_false,Zo]
    exact this
  ·have e4:(k==4)=false:=by simpa using h4
   have hr:zdL vars n k h ar=some h:=by unfold zdL;rw[if_neg (fun c=>h4 c.1)]
   have:=key _ hr
   simp only[e4,Zo]
   exact this
theorem zqz{t:T}{vars:List Int}{n:Int}(ht:t.size≤900000)(hb:may t=true→okB 4611686018427389000 t)(hv:vars.length≤1048576):Ev 172 [enc t, .vec .plain none (Jr vars), .int n] (.tup [enc (Xi t vars n).1, .int (Xi t vars n).2]):=by
 have h1:=(X8 t (by omega)).p
 have h2:=(ztX vars n hv).p
 unfold Ev Xi
 rw[C,Zb t,zjH,←Zb t,h1,h2]
 simp only[Zf,Z0]
 cases hm:may t with
 |false=>simp[enc,T0]
 |true=>
  cases hn:zaf vars n with
  |false=>simp[enc,T0]
  |true=>
   have hn':=Qm.1 hn
   have h3:=zo2 (vars:=vars) (n:=n) hv ⟨hn'.1,by omega⟩ t.size t 0 (Nat.le_refl _) (by omega) (hb hm)
   simp only[Int.natCast_zero]at h3
   rw[h3]
   simp only[Bool.not_true,Zo,Zf,Z9,zmy,Y1,ZE,zbX,Z0,ZN,Bool.or_self,Bool.false_eq_true,if_false,←Zb]
   cases zaT vars n t 0 with
   |none=>simp[enc,T0]
   |some u=>simp[below,Zm,Zu]
end Go.Proofs.CL
namespace Go.Proofs.CL
open Go Go.AM
set_option maxRecDepth 20000
theorem zmz(O:Oracle)(n0:Int)(n1:Int)(l2:(List V))(n3:Int)(n4:Int)(l5:(List V))(n6:Int)(l7:(List V))(l8:(List V))(l9:(List V)):Ze Tryz.prog cfg O 27 [.agg [.int n0, .int n1, .vec .plain (some 3) l2], .agg [.int n3, .int n4, .vec .plain (some 3) l5], .int n6, .vec .plain (some 4) l7, .vec .plain none l8, .vec .plain none l9] []=
 Za (Zj O 82 [V.agg [V.int n0,V.int n1,V.vec .plain (some 3) l2]]) fun r1=>Zi r1 fun b2=>bc (!b2) (some (Out.ret (V.tup [V.vec .plain (some 4) [],V.int
 1]),[])) (Za (Zj O 82 [V.agg [V.int n3,V.int n4,V.vec .plain (some 3) l5]]) fun r3=>Zi r3 fun b4=>bc (!b4) (some (Out.ret (V.tup [V.vec .plain (some 4)
 [],V.int 1]),[])) (bc (decide (n6<0)) (some (Out.ret (V.tup [V.vec .plain (some 4) [],V.int 1]),[])) (bc (decide (n6>1000)) (some (Out.ret (V.tup [V.vec .plain (some 4)
 [],V.int 1]),[])) (bc (decide ((↑l7.length:Int)>200)) (some (Out.ret (V.tup [V.vec .plain (some 4) [],V.int 1]),[])) (bc ((↑l7.length:Int) !=(↑l8.length:Int)) (some
 (Out.ret (V.tup [V.vec .plain (some 4) [],V.int 1]),[])) (Za (O.call 83 [V.vec .plain (some 4) l7,V.fn 81 [] []] []) fun r5
 =>Zx r5.fst (fun v6=>Zi v6 fun b7=>bc b7 (some (Out.ret (V.tup [V.vec .plain (some 4) [],V.int 1]),[])) (gd (decide (0≤(↑l7.length:Int))&&decide ((↑l7.length:
 Int)=(↑l7.length:Int))&&roomFor Tryz.prog 100 (↑l7.length:Int).toNat&&true&&true) (Z3 (r5.snd++[Res.row (some 4) (List.replicate (↑l7.length:Int).toNat
 (V.agg [V.bool false,V.int 0,V.int 0,V.vec .plain (some 3) []]))]++[Res.box [V.row (some 4) (List.length r5.snd) 0 (↑l7.length:Int).toNat,V.vec .plain none l8,V.vec
 .plain none l9]]) (List.length (r5.snd++[Res.row (some 4) (List.replicate (↑l7.length:Int).toNat (V.agg [V.bool false,V.int 0,V.int 0,V.vec .plain (some 3) []]))])) fun x8
 =>ZI x8 fun c9=>gd (decide (1≤c9.length)&&true) (XK (some 4) (Zt (AM.partOf c9 0 none)) fun r10 lo11 n12=>Z3 (r5.snd++[Res.row (some 4) (List.replicate
 (↑l7.length:Int).toNat (V.agg [V.bool false,V.int 0,V.int 0,V.vec .plain (some 3) []]))]++[Res.box [V.row (some 4) (List.length r5.snd) 0 (↑l7.length:Int).toNat,V.vec
 .plain none l8,V.vec .plain none l9]]) r10 fun x13=>JO x13 fun sh14 l15=>gd (true&&decide (sh14=some 4)&&decide (lo11+n12≤l15.length)) (Za (O.call
 84 [V.ref (List.length (r5.snd++[Res.row (some 4) (List.replicate (↑l7.length:Int).toNat (V.agg [V.bool false,V.int 0,V.int 0,V.vec .plain (some 3)
 []]))])) 0,V.agg [V.int n0,V.int n1,V.vec .plain (some 3) l2],V.agg [V.int n3,V.int n4,V.vec .plain (some 3) l5],V.int n6] (List.set (r5.snd++[Res.row (some 4)
 (List.replicate (↑l7.length:Int).toNat (V.agg [V.bool false,V.int 0,V.int 0,V.vec .plain (some 3) []]))]++[Res.box [V.row (some 4) (List.length r5.snd) 0 (↑l7.length:
 Int).toNat,V.vec .plain none l8,V.vec .plain none l9]]) r10 (Res.row (some 4) (List.take lo11 l15++List.take (min l7.length n12) l7++List.drop (lo11+min l7.length n12)
 l15)))) fun r16=>Zx r16.fst (fun v17=>Zl v17 fun n18=>bc (n18 !=0) (some (Out.ret (V.tup [V.vec .plain (some 4) [],V.int n18]),[])) (Z3 r16.snd (List.length
 (r5.snd++[Res.row (some 4) (List.replicate (↑l7.length:Int).toNat (V.agg [V.bool false,V.int 0,V.int 0,V.vec .plain (some 3) []]))])) fun x19=>ZI x19 fun c20=>gd
 (decide (1≤c20.length)&&true) (XK (some 4) (Zt (AM.partOf c20 0 none)) fun r21 lo22 n23=>Za (O.loop 27 10 [V.int 0,V.ref (List.length (r5.snd++
 [Res.row (some 4) (List.replicate (↑l7.length:Int).toNat (V.agg [V.bool false,V.int 0,V.int 0,V.vec .plain (some 3) []]))])) 0,V.int (↑n23:Int)] r16.snd) fun r24=>Y8
 r24.fst none none (fun i25=>bc (i25.beq 0) (Zd r24.snd.fst fun v26 c27=>zf6 v26 fun q28=>Zn c27 (Z3 r24.snd.snd q28 fun x29=>ZI x29 fun c30=>gd (decide (1
 ≤c30.length)&&true) (XK (some 4) (Zt (AM.partOf c30 0 none)) fun r31 lo32 n33=>Z3 r24.snd.snd r31 fun x34=>JO x34 fun sh35 l36=>gd (decide (sh35=some 4)&&
 decide (lo32+n33≤l36.length)) (gd (below 0 (V.tup [V.vec .plain (some 4) (List.take n33 (List.drop lo32 l36)),V.int 0])&&Zu 0 []) (some (Out.ret (V.tup [V.vec .plain
 (some 4) (List.take n33 (List.drop lo32 l36)),V.int 0]),[])))))) none) fun v37=>none))) fun p38=>none))))) fun p39=>none)))))):=by kernel_rfl
theorem zcx(O:Oracle)(n0 n2:Int)(bs ps rs:List V)(m:Nat):Z1 Tryz.prog cfg O 27 10 [.int n0, .ref 1 0, .int n2] [.row (some 4) bs, .box [.row (some 4) 0 0 m, .vec .plain none ps, .vec .plain none rs]]=
 bc (decide (n0<n2)) (gd (decide (0≤n0)&&decide (n0<(↑m:Int))) (gd (true&&decide (0+n0.toNat<bs.length)) (YP (bs.getD (0+n0.toNat) V.undef) fun c1=>onCells
 [CT.int,CT.int,CT.slice (some 3)] (List.take 3 (List.drop 1 c1)) fun n2_1 n3 l4=>Za (Zj O 85 [V.agg [V.int n2_1,V.int n3,V.vec .plain (some 3) l4]]) fun r5=>
 Zc [CT.int,CT.int,CT.slice (some 3)] r5 fun n6 n7 l8=>gd (decide (0≤n0)&&decide (n0<(↑m:Int))) (gd (true&& !isGrow (V.agg [V.int n6,V.int n7,V.vec .plain
 (some 3) l8])&&decide (0+n0.toNat<bs.length)) (YP (bs.getD (0+n0.toNat) V.undef) fun c9=>O.2 27 10 [V.int (IntKind.i64.wrap (n0+1)),V.ref 1 0,V.int n2]
 [Res.row (some 4) (bs.set (0+n0.toNat) (V.agg (setCells c9 1 [V.int n6,V.int n7,V.vec .plain (some 3) l8]))),Res.box [V.row (some 4) 0 0 m,V.vec .plain none ps,V.vec .plain
 none rs]]))))) (some (Ex.exit 0,[V.ref 1 0],[Res.row (some 4) bs,Res.box [V.row (some 4) 0 0 m,V.vec .plain none ps,V.vec .plain none rs]])):=by kernel_rfl
theorem zl0(O:Oracle)(l0:(List V)):Ze Tryz.prog cfg O 28 [.vec .plain (some 5) l0] []=
 Za (O.loop 28 3 [V.int 0,V.vec Mode.grow none [],V.vec .plain (some 5) l0,V.int (↑l0.length:Int)] []) fun r1=>Y8 r1.fst none none (fun i2=>bc (i2.beq 0)
 (Zd r1.snd.fst fun v3 c4=>YK none v3 fun l5=>Zn c4 (gd (below 0 (V.vec .plain none l5)&&Zu 0 []) (some (Out.ret (V.vec .plain none l5),[])))) none) fun v6
 =>none:=by kernel_rfl
theorem zcy(O:Oracle)(n0:Int)(l1:(List V))(l2:(List V))(n3:Int):Z1 Tryz.prog cfg O 28 3 [.int n0, .vec .grow none l1, .vec .plain (some 5) l2, .int n3] []=
 bc (decide (n0<n3)) (gd (decide (0≤n0)&&decide (n0<(↑l2.length:Int))) (Zc [CT.slice (some 3),CT.int,CT.int,CT.slice (some 3),CT.bool] (ZA l2 n0) fun l1_1 n2
 n3_1 l4 b5=>gd (true&&roomFor Tryz.prog 4 (l1.length+[V.bool b5].length)) (O.2 28 3 [V.int (IntKind.i64.wrap (n0+1)),V.vec Mode.grow none (l1++
 [V.bool b5]),V.vec .plain (some 5) l2,V.int n3] []))) (some (Ex.exit 0,[V.vec Mode.grow none l1],[])):=by kernel_rfl
theorem zm0(O:Oracle)(l0:(List V)):Ze Tryz.prog cfg O 29 [.vec .plain (some 4) l0] []=
 Za (O.call 83 [V.vec .plain (some 4) l0,V.fn 86 [] []] []) fun r1=>Zx r1.fst (fun v2=>Zi v2 fun b3=>bc b3 (some
 (Out.ret (V.tup [V.vec .plain (some 3) [],V.bool false]),[])) (Za (O.call 87 [V.vec .plain (some 4) l0] r1.snd) fun r4=>Zx r4.fst (fun v5=>Yi (some 3) v5
 fun l6=>gd (below 0 (V.tup [V.vec .plain (some 3) l6,V.bool true])&&Zu 0 []) (some (Out.ret (V.tup [V.vec .plain (some 3) l6,V.bool true]),[]))) fun p7=>none)) fun
 p8=>none:=by kernel_rfl
theorem zjI(O:Oracle)(b0:Bool)(n1:Int)(n2:Int)(l3:(List V)):Ze Tryz.prog cfg O 81 [.agg [.bool b0, .int n1, .int n2, .vec .plain (some 3) l3]] []=
 bc b0 (Za (Zj O 82 [V.agg [V.int n1,V.int n2,V.vec .plain (some 3) l3]]) fun r1=>Zi r1 fun b2=>some (Out.ret (V.bool !b2),[])) (some (Out.ret (V.bool
 false),[])):=by kernel_rfl
theorem QJ(O:Oracle)(l0:(List V))(g1:Nat)(l2:(List V))(l3:(List V))(st:St):Ze Tryz.prog cfg O 83 [.vec .plain (some 4) l0, .fn g1 l2 l3] st=
 Za (O.call 132 [V.vec .plain (some 4) l0,V.fn g1 l2 l3] st) fun r1=>Zx r1.fst (fun v2=>Zl v2 fun n3=>Yt (List.length st) (V.bool
 (decide (n3≥0))) r1.snd) fun p4=>none:=by kernel_rfl
theorem zej(O:Oracle)(r0:Nat)(n1:Int)(n2:Int)(l3:(List V))(n4:Int)(n5:Int)(l6:(List V))(n7:Int)(st:St):Ze Tryz.prog cfg O 84 [.ref r0 0, .agg [.int n1, .int n2, .vec .plain (some 3) l3], .agg [.int n4, .int n5, .vec .plain (some 3) l6], .int n7] st=
 bc (n1==6) (Za (O.call 133 [V.ref r0 0,V.agg [V.int n1,V.int n2,V.vec .plain (some 3) l3],V.agg [V.int n4,V.int n5,V.vec .plain (some 3) l6],V.int
 n7] st) fun r1=>Zx r1.fst (fun v2=>Zl v2 fun n3=>Yt (List.length st) (V.int n3) r1.snd) fun p4=>none) (bc (n1 !=n4) (Yt (List.length st) (V.int 6) st) (bc (n2 !=
 n5) (Yt (List.length st) (V.int 6) st) (bc ((↑l3.length:Int) !=(↑l6.length:Int)) (Yt (List.length st) (V.int 6) st) (bc (n1==1) (bc (decide (0<(↑l3.length:Int))) (bc
 (0==IntKind.i64.wrap ((↑l3.length:Int)-1)) (gd (true&&decide (0<(↑l3.length:Int))) (Zc [CT.int,CT.int,CT.slice (some 3)] (ZA l3 0) fun n5_1 n6 l7=>gd (true
 &&decide (0<(↑l6.length:Int))) (Zc [CT.int,CT.int,CT.slice (some 3)] (ZA l6 0) fun n8 n9 l10=>Za (O.call 84 [V.ref r0 0,V.agg [V.int n5_1,
 V.int n6,V.vec .plain (some 3) l7],V.agg [V.int n8,V.int n9,V.vec .plain (some 3) l10],V.int (IntKind.i64.wrap (n7+1))] st) fun r11=>Zx r11.fst (fun v12=>Zl v12
 fun n13=>Za (O.loop 84 1000000 [V.loc false (some 3) (V.agg [V.int n4,V.int n5,V.vec .plain (some 3) l6]),V.loc false (some 3) (V.agg [V.int n1,V.int
 n2,V.vec .plain (some 3) l3]),V.ref r0 0,V.bool true,V.int n7,V.int 1,V.int n13,V.int 0] r11.snd) fun r14=>Y8 r14.fst (Zd r14.snd.fst fun v15 c16=>Zl v15 fun
 n17=>Zn c16 (Yt (List.length st) (V.int n17) r14.snd.snd)) (Zd r14.snd.fst fun v18 c19=>Zl v18 fun n20=>Zn c19 (Yt (List.length st) (V.int n20) r14.snd.snd))
 (fun i21=>none) fun v22=>none) fun p23=>none))) (gd (true&&decide (0<(↑l3.length:Int))) (Zc [CT.int,CT.int,CT.slice (some 3)] (ZA l3 0) fun n24 n25 l26=>gd
 (true&&decide (0<(↑l6.length:Int))) (Zc [CT.int,CT.int,CT.slice (some 3)] (ZA l6 0) fun n27 n28 l29=>Za (O.call 84 [V.ref r0 0,V.agg
 [V.int n24,V.int n25,V.vec .plain (some 3) l26],V.agg [V.int n27,V.int n28,V.vec .plain (some 3) l29],V.int n7] st) fun r30=>Zx r30.fst (fun v31=>Zl v31 fun n32=>
 Za (O.loop 84 1000000 [V.loc false (some 3) (V.agg [V.int n4,V.int n5,V.vec .plain (some 3) l6]),V.loc false (some 3) (V.agg [V.int n1,V.int n2,V.vec
 .plain (some 3) l3]),V.ref r0 0,V.bool true,V.int n7,V.int 1,V.int n32,V.int 0] r30.snd) fun r33=>Y8 r33.fst (Zd r33.snd.fst fun v34 c35=>Zl v34 fun n36=>
 Zn c35 (Yt (List.length st) (V.int n36) r33.snd.snd)) (Zd r33.snd.fst fun v37 c38=>Zl v37 fun n39=>Zn c38 (Yt (List.length st) (V.int n39) r33.snd.snd)) (fun
 i40=>none) fun v41=>none) fun p42=>none)))) (Yt (List.length st) (V.int 0) st)) (bc (decide (0<(↑l3.length:Int))) (bc (n1==3) (bc (0==IntKind.i64.wrap ((↑l3.length
 :Int)-1)) (gd (true&&decide (0<(↑l3.length:Int))) (Zc [CT.int,CT.int,CT.slice (some 3)] (ZA l3 0) fun n43 n44 l45=>gd (true&&decide (0<(↑l6.length:
 Int))) (Zc [CT.int,CT.int,CT.slice (some 3)] (ZA l6 0) fun n46 n47 l48=>Za (O.call 84 [V.ref r0 0,V.agg [V.int n43,V.int n44,V.vec .plain
 (some 3) l45],V.agg [V.int n46,V.int n47,V.vec .plain (some 3) l48],V.int (IntKind.i64.wrap (n7+1))] st) fun r49=>Zx r49.fst (fun v50=>Zl v50 fun n51=>Za
 (O.loop 84 1000000 [V.loc false (some 3) (V.agg [V.int n4,V.int n5,V.vec .plain (some 3) l6]),V.loc false (some 3) (V.agg [V.int n1,V.int n2,V.vec .plain
 (some 3) l3]),V.ref r0 0,V.bool (n1==3),V.int n7,V.int 1,V.int n51,V.int 0] r49.snd) fun r52=>Y8 r52.fst (Zd r52.snd.fst fun v53 c54=>Zl v53 fun n55=>Zn
 c54 (Yt (List.length st) (V.int n55) r52.snd.snd)) (Zd r52.snd.fst fun v56 c57=>Zl v56 fun n58=>Zn c57 (Yt (List.length st) (V.int n58) r52.snd.snd)) (fun i59=>
 none) fun v60=>none) fun p61=>none))) (gd (true&&decide (0<(↑l3.length:Int))) (Zc [CT.int,CT.int,CT.slice (some 3)] (ZA l3 0) fun n62 n63 l64=>gd (true&&
 decide (0<(↑l6.length:Int))) (Zc [CT.int,CT.int,CT.slice (some 3)] (ZA l6 0) fun n65 n66 l67=>Za (O.call 84 [V.ref r0 0,V.agg [V.int n62,
 V.int n63,V.vec .plain (some 3) l64],V.agg [V.int n65,V.int n66,V.vec .plain (some 3) l67],V.int n7] st) fun r68=>Zx r68.fst (fun v69=>Zl v69 fun n70=>Za
 (O.loop 84 1000000 [V.loc false (some 3) (V.agg [V.int n4,V.int n5,V.vec .plain (some 3) l6]),V.loc false (some 3) (V.agg [V.int n1,V.int n2,V.vec .plain
 (some 3) l3]),V.ref r0 0,V.bool (n1==3),V.int n7,V.int 1,V.int n70,V.int 0] r68.snd) fun r71=>Y8 r71.fst (Zd r71.snd.fst fun v72 c73=>Zl v72 fun n74=>Zn
 c73 (Yt (List.length st) (V.int n74) r71.snd.snd)) (Zd r71.snd.fst fun v75 c76=>Zl v75 fun n77=>Zn c76 (Yt (List.length st) (V.int n77) r71.snd.snd)) (fun i78=>
 none) fun v79=>none) fun p80=>none)))) (gd (true&&decide (0<(↑l3.length:Int))) (Zc [CT.int,CT.int,CT.slice (some 3)] (ZA l3 0) fun n81 n82 l83=>gd (true&&
 decide (0<(↑l6.length:Int))) (Zc [CT.int,CT.int,CT.slice (some 3)] (ZA l6 0) fun n84 n85 l86=>Za (O.call 84 [V.ref r0 0,V.agg [V.int n81,
 V.int n82,V.vec .plain (some 3) l83],V.agg [V.int n84,V.int n85,V.vec .plain (some 3) l86],V.int n7] st) fun r87=>Zx r87.fst (fun v88=>Zl v88 fun n89=>Za
 (O.loop 84 1000000 [V.loc false (some 3) (V.agg [V.int n4,V.int n5,V.vec .plain (some 3) l6]),V.loc false (some 3) (V.agg [V.int n1,V.int n2,V.vec .plain
 (some 3) l3]),V.ref r0 0,V.bool (n1==3),V.int n7,V.int 1,V.int n89,V.int 0] r87.snd) fun r90=>Y8 r90.fst (Zd r90.snd.fst fun v91 c92=>Zl v91 fun n93=>Zn
 c92 (Yt (List.length st) (V.int n93) r90.snd.snd)) (Zd r90.snd.fst fun v94 c95=>Zl v94 fun n96=>Zn c95 (Yt (List.length st) (V.int n96) r90.snd.snd)) (fun i97=>
 none) fun v98=>none) fun p99=>none)))) (Yt (List.length st) (V.int 0) st)))))):=by kernel_rfl
theorem Qo(O:Oracle)(n0:Int)(n1:Int)(l2:(List V))(n3:Int)(n4:Int)(l5:(List V))(r6:Nat)(b7:Bool)(n8:Int)(n9:Int)(n10:Int)(n11:Int)(st:St):Z1 Tryz.prog cfg O 84 1000000 [.loc false (some 3) (.agg [.int n0, .int n1, .vec .plain (some 3) l2]), .loc false (some 3) (.agg [.int n3, .int n4, .vec .plain (some 3) l5]), .ref r6 0, .bool b7, .int n8, .int n9, .int n10, .int n11] st=
 bc (decide (n9<(↑l5.length:Int))) (bc (n10==0) (bc b7 (bc (n9==IntKind.i64.wrap ((↑l5.length:Int)-1)) (gd (decide (0≤n9)&&decide (n9<(↑l5.length:Int)))
 (Zc [CT.int,CT.int,CT.slice (some 3)] (ZA l5 n9) fun n1_1 n2 l3=>gd (decide (0≤n9)&&decide (n9<(↑l2.length:Int))) (Zc [CT.int,CT.int,CT.slice (some 3)]
 (ZA l2 n9) fun n4_1 n5 l6=>Za (O.call 84 [V.ref r6 0,V.agg [V.int n1_1,V.int n2,V.vec .plain (some 3) l3],V.agg [V.int n4_1,V.int n5,V.vec .plain
 (some 3) l6],V.int (IntKind.i64.wrap (n8+1))] st) fun r7=>Zx r7.fst (fun v8=>Zl v8 fun n9_1=>O.2 84 1000000 [V.loc false (some 3) (V.agg [V.int
 n0,V.int n1,V.vec .plain (some 3) l2]),V.loc false (some 3) (V.agg [V.int n3,V.int n4,V.vec .plain (some 3) l5]),V.ref r6 0,V.bool b7,V.int n8,V.int (IntKind.i64.wrap (n9
 +1)),V.int n9_1,V.int n11] r7.snd) fun p10=>none))) (gd (decide (0≤n9)&&decide (n9<(↑l5.length:Int))) (Zc [CT.int,CT.int,CT.slice (some 3)] (ZA l5 n9) fun
 n11_1 n12 l13=>gd (decide (0≤n9)&&decide (n9<(↑l2.length:Int))) (Zc [CT.int,CT.int,CT.slice (some 3)] (ZA l2 n9) fun n14 n15 l16=>Za (O.call
 84 [V.ref r6 0,V.agg [V.int n11_1,V.int n12,V.vec .plain (some 3) l13],V.agg [V.int n14,V.int n15,V.vec .plain (some 3) l16],V.int n8] st) fun r17=>
 Zx r17.fst (fun v18=>Zl v18 fun n19=>O.2 84 1000000 [V.loc false (some 3) (V.agg [V.int n0,V.int n1,V.vec .plain (some 3) l2]),V.loc false (some 3)
 (V.agg [V.int n3,V.int n4,V.vec .plain (some 3) l5]),V.ref r6 0,V.bool b7,V.int n8,V.int (IntKind.i64.wrap (n9+1)),V.int n19,V.int n11] r17.snd) fun p20=>none)))) (gd
 (decide (0≤n9)&&decide (n9<(↑l5.length:Int))) (Zc [CT.int,CT.int,CT.slice (some 3)] (ZA l5 n9) fun n21 n22 l23=>gd (decide (0≤n9)&&decide (n9<(↑l2.length
 :Int))) (Zc [CT.int,CT.int,CT.slice (some 3)] (ZA l2 n9) fun n24 n25 l26=>Za (O.call 84 [V.ref r6 0,V.agg [V.int n21,V.int n22,V.vec .plain
 (some 3) l23],V.agg [V.int n24,V.int n25,V.vec .plain (some 3) l26],V.int n8] st) fun r27=>Zx r27.fst (fun v28=>Zl v28 fun n29=>O.2 84 1000000
 [V.loc false (some 3) (V.agg [V.int n0,V.int n1,V.vec .plain (some 3) l2]),V.loc false (some 3) (V.agg [V.int n3,V.int n4,V.vec .plain (some 3) l5]),V.ref r6 0,V.bool b7,
 V.int n8,V.int (IntKind.i64.wrap (n9+1)),V.int n29,V.int n11] r27.snd) fun p30=>none)))) (some (Ex.ret,[V.int n10],st))) (some (Ex.ret,[V.int n10],st)):=by kernel_rfl
theorem zjJ(O:Oracle)(b0:Bool)(n1:Int)(n2:Int)(l3:(List V)):Ze Tryz.prog cfg O 86 [.agg [.bool b0, .int n1, .int n2, .vec .plain (some 3) l3]] []=
 some (Out.ret (V.bool !b0),[]):=by kernel_rfl
theorem zo3(O:Oracle)(l0:(List V))(st:St):Ze Tryz.prog cfg O 87 [.vec .plain (some 4) l0] st=
 gd (decide (0≤(↑l0.length:Int))&&decide ((↑l0.length:Int)=(↑l0.length:Int))&&roomFor Tryz.prog 27 (↑l0.length:Int).toNat&&true&&true) (Za (O.loop
 87 3 [V.int 0,V.row (some 3) (List.length st) 0 (↑l0.length:Int).toNat,V.vec .plain (some 4) l0,V.int (↑l0.length:Int)] (st++[Res.row (some 3) (List.replicate
 (↑l0.length:Int).toNat (V.agg [V.int 0,V.int 0,V.vec .plain (some 3) []]))])) fun r1=>Y8 r1.fst none none (fun i2=>bc (i2.beq 0) (Zd r1.snd.fst fun v3 c4=>XK
 (some 3) v3 fun r5 lo6 n7=>Zn c4 (gd (decide (List.length st≤r5)) (Z3 r1.snd.snd r5 fun x8=>JO x8 fun sh9 l10=>gd (decide (sh9=some 3)&&decide (lo6+n7≤
 l10.length)) (Yt (List.length st) (V.vec .plain (some 3) (List.take n7 (List.drop lo6 l10))) (List.set r1.snd.snd r5 Res.dead))))) none) fun v11=>none):=by kernel_rfl
theorem zef(O:Oracle)(n0 n5:Int)(k:Nat)(l4 es:List V):Z1 Tryz.prog cfg O 87 3 [.int n0, .row (some 3) 0 0 k, .vec .plain (some 4) l4, .int n5] [.row (some 3) es]=
 bc (decide (n0<n5)) (gd (decide (0≤n0)&&decide (n0<(↑l4.length:Int))) (Zc [CT.bool,CT.int,CT.int,CT.slice (some 3)] (ZA l4 n0) fun b1 n2 n3 l4_1=>bc b1 (gd
 (decide (0≤n0)&&decide (n0<(↑k:Int))) (gd (true&& !isGrow (V.agg [V.int n2,V.int n3,V.vec .plain (some 3) l4_1])&&decide (0+n0.toNat<es.length)) (O.2 87
 3 [V.int (IntKind.i64.wrap (n0+1)),V.row (some 3) 0 0 k,V.vec .plain (some 4) l4,V.int n5] [Res.row (some 3) (es.set (0+n0.toNat) (V.agg [V.int n2,V.int n3,V.vec .plain
 (some 3) l4_1]))]))) (O.2 87 3 [V.int (IntKind.i64.wrap (n0+1)),V.row (some 3) 0 0 k,V.vec .plain (some 4) l4,V.int n5] [Res.row (some 3) es]))) (some (Ex.exit 0,
 [V.row (some 3) 0 0 k],[Res.row (some 3) es])):=by kernel_rfl
theorem Js(O:Oracle)(l0:(List V))(g1:Nat)(l2:(List V))(l3:(List V))(st:St):Ze Tryz.prog cfg O 132 [.vec .plain (some 4) l0, .fn g1 l2 l3] st=
 Za (O.loop 132 2 [V.int 0,V.vec .plain (some 4) l0,V.fn g1 l2 l3,V.int (↑l0.length:Int)] st) fun r1=>Y8 r1.fst none (Zd r1.snd.fst
 fun v2 c3=>Zl v2 fun n4=>Zn c3 (Yt (List.length st) (V.int n4) r1.snd.snd)) (fun i5=>bc (i5.beq 0) (Zn r1.snd.fst (Yt (List.length st) (V.int (-1)) r1.snd.snd))
 none) fun v6=>none:=by kernel_rfl
theorem Xg(O:Oracle)(n0:Int)(l1:(List V))(g2:Nat)(l3:(List V))(l4:(List V))(n5:Int)(st:St):Z1 Tryz.prog cfg O 132 2 [.int n0, .vec .plain (some 4) l1, .fn g2 l3 l4, .int n5] st=
 bc (decide (n0<n5)) (gd (decide (0≤n0)&&decide (n0<(↑l1.length:Int))) (Zc [CT.bool,CT.int,CT.int,CT.slice (some 3)] (ZA l1 n0) fun b1 n2 n3 l4_1=>bc
 (cfg.pure g2) (Za (Zj O g2 (l3++[V.agg [V.bool b1,V.int n2,V.int n3,V.vec .plain (some 3) l4_1]]++l4)) fun r5=>Zi r5 fun b6=>bc b6 (some (Ex.ret,[V.int n0],
 (Out.ret r5,st).snd)) (O.2 132 2 [V.int (IntKind.i64.wrap (n0+1)),V.vec .plain (some 4) l1,V.fn g2 l3 l4,V.int n5] (Out.ret r5,st).snd))
 (Za (O.call g2 (l3++[V.agg [V.bool b1,V.int n2,V.int n3,V.vec .plain (some 3) l4_1]]++l4) st) fun r7=>Zx r7.fst (fun v8=>Zi v8 fun b9=>bc b9 (some (Ex.ret,
 [V.int n0],r7.snd)) (O.2 132 2 [V.int (IntKind.i64.wrap (n0+1)),V.vec .plain (some 4) l1,V.fn g2 l3 l4,V.int n5] r7.snd)) fun p10=>none)))
 (some (Ex.exit 0,[],st)):=by kernel_rfl
theorem zek(O:Oracle)(pk ph tk th n:Int)(ps' ts:List V)(bs ps rs:List V)(m:Nat):Ze Tryz.prog cfg O 133 [.ref 1 0, .agg [.int pk, .int ph, .vec .plain (some 3) ps'], .agg [.int tk, .int th, .vec .plain (some 3) ts], .int n] [.row (some 4) bs, .box [.row (some 4) 0 0 m, .vec .plain none ps, .vec .plain none rs]]=
 bc (decide (ph≥(↑m:Int))) (Yt [Res.row (some 4) bs,Res.box [V.row (some 4) 0 0 m,V.vec .plain none ps,V.vec .plain none rs]].length (V.int 2) [Res.row (some 4) bs,Res.box
 [V.row (some 4) 0 0 m,V.vec .plain none ps,V.vec .plain none rs]]) (gd (decide (0≤ph)&&decide (ph<(↑m:Int))) (gd (true&&decide (0+ph.toNat<bs.length)) (YP
 (bs.getD (0+ph.toNat) V.undef) fun c1=>Zi (AM.partOf c1 0 none) fun b2=>bc b2 (Za (O.call 171 [V.ref 1 0,V.agg [V.int pk,V.int ph,V.vec .plain
 (some 3) ps'],V.agg [V.int tk,V.int th,V.vec .plain (some 3) ts],V.int n] [Res.row (some 4) bs,Res.box [V.row (some 4) 0 0 m,V.vec .plain none ps,V.vec .plain none rs]])
 fun r3=>Zx r3.fst (fun v4=>Zl v4 fun n5=>Yt [Res.row (some 4) bs,Res.box [V.row (some 4) 0 0 m,V.vec .plain none ps,V.vec .plain none rs]].length (V.int n5)
 r3.snd) fun p6=>none) (Za (Zj O 156 [V.vec .plain (some 3) ps',V.int n]) fun r7=>ZG r7 fun c8=>Zd c8 fun v9 c10=>Yi none v9 fun l11=>Zd
 c10 fun v12 c13=>Zi v12 fun b14=>Zn c13 (bc (!b14) (Yt [Res.row (some 4) bs,Res.box [V.row (some 4) 0 0 m,V.vec .plain none ps,V.vec .plain none rs]].length (V.int
 5) [Res.row (some 4) bs,Res.box [V.row (some 4) 0 0 m,V.vec .plain none ps,V.vec .plain none rs]]) (Za (Zj O 172 [V.agg [V.int tk,V.int th,V.vec .plain
 (some 3) ts],V.vec .plain none l11,V.int n]) fun r15=>ZG r15 fun c16=>Zd c16 fun v17 c18=>Zc [CT.int,CT.int,CT.slice (some 3)] v17 fun n19 n20 l21=>Zd
 c18 fun v22 c23=>Zl v22 fun n24=>Zn c23 (bc (n24 !=0) (Yt [Res.row (some 4) bs,Res.box [V.row (some 4) 0 0 m,V.vec .plain none ps,V.vec .plain none rs]].length
 (V.int 6) [Res.row (some 4) bs,Res.box [V.row (some 4) 0 0 m,V.vec .plain none ps,V.vec .plain none rs]]) (gd (decide (0≤ph)&&decide (ph<(↑ps.length:Int))) (Zi
 (ZA ps ph) fun b25=>bc b25 (Za (O.call 173 [V.ref 1 0,V.agg [V.int tk,V.int th,V.vec .plain (some 3) ts]] [Res.row (some 4) bs,Res.box [V.row
 (some 4) 0 0 m,V.vec .plain none ps,V.vec .plain none rs]]) fun r26=>Zx r26.fst (fun v27=>Zi v27 fun b28=>bc (!b28) (Yt [Res.row (some 4) bs,Res.box [V.row (some
 4) 0 0 m,V.vec .plain none ps,V.vec .plain none rs]].length (V.int 6) r26.snd) (Z3 r26.snd 1 fun x29=>ZI x29 fun c30=>gd (decide (1≤c30.length)&&true) (XK (some
 4) (Zt (AM.partOf c30 0 none)) fun r31 lo32 n33=>gd (decide (0≤ph)&&decide (ph<(↑n33:Int))) (Z3 r26.snd r31 fun x34=>JO x34 fun sh35 l36=>gd (decide (sh35=
 some 4)&& !isGrow (V.agg [V.bool true,V.int n19,V.int n20,V.vec .plain (some 3) l21])&&decide (lo32+ph.toNat<l36.length)) (Yt [Res.row (some 4) bs,Res.box [V.row (some
 4) 0 0 m,V.vec .plain none ps,V.vec .plain none rs]].length (V.int 0) (List.set r26.snd r31 (Res.row (some 4) (l36.set (lo32+ph.toNat) (V.agg [V.bool true,V.int n19,V.int
 n20,V.vec .plain (some 3) l21]))))))))) fun p37=>none) (gd (decide (0≤ph)&&decide (ph<(↑m:Int))) (gd (true&& !isGrow (V.agg [V.bool true,V.int n19,V.int n20,V.vec
 .plain (some 3) l21])&&decide (0+ph.toNat<bs.length)) (Yt [Res.row (some 4) bs,Res.box [V.row (some 4) 0 0 m,V.vec .plain none ps,V.vec .plain none rs]].length (V.int 0)
 [Res.row (some 4) (bs.set (0+ph.toNat) (V.agg [V.bool true,V.int n19,V.int n20,V.vec .plain (some 3) l21])),Res.box [V.row (some 4) 0 0 m,V.vec .plain none ps,V.vec .plain
 none rs]])))))))))))):=by kernel_rfl
theorem zdN(O:Oracle)(pk ph tk th n:Int)(ps' ts:List V)(bs ps rs:List V)(m:Nat):Ze Tryz.prog cfg O 171 [.ref 1 0, .agg [.int pk, .int ph, .vec .plain (some 3) ps'], .agg [.int tk, .int th, .vec .plain (some 3) ts], .int n] [.row (some 4) bs, .box [.row (some 4) 0 0 m, .vec .plain none ps, .vec .plain none rs]]=
 Za (O.loop 171 3 [V.int 0,V.fn 199 [] [V.cptr none (V.ref 1 0)],V.vec .plain (some 3) ps',V.loc false (some 3) (V.agg [V.int tk,
 V.int th,V.vec .plain (some 3) ts]),V.int n,V.cptr none (V.ref 1 0),V.loc false (some 3) (V.agg [V.int pk,V.int ph,V.vec .plain (some 3) ps']),V.int (↑ps'.length:Int)]
 [Res.row (some 4) bs,Res.box [V.row (some 4) 0 0 m,V.vec .plain none ps,V.vec .plain none rs]]) fun r1=>Y8 r1.fst none (Zd r1.snd.fst fun v2 c3=>Zl v2 fun n4=>
 Zn c3 (Yt [Res.row (some 4) bs,Res.box [V.row (some 4) 0 0 m,V.vec .plain none ps,V.vec .plain none rs]].length (V.int n4) r1.snd.snd)) (fun i5=>bc (i5.beq 0) (Zd
 r1.snd.fst fun v6 c7=>Yj (some 3) v6 fun d8 v9=>Zc [CT.int,CT.int,CT.slice (some 3)] (bif d8 then Zt v9 else v9) fun n10 n11 l12=>Zd c7 fun v13 c14=>
 Zl v13 fun n15=>Zd c14 fun v16 c17=>zem v16 fun q18=>Zd c17 fun v19 c20=>Yj (some 3) v19 fun d21 v22=>Zc [CT.int,CT.int,CT.slice (some 3)] (bif
 d21 then Zt v22 else v22) fun n23 n24 l25=>Zn c20 (Z3 r1.snd.snd q18 fun x26=>ZI x26 fun c27=>gd (decide (1≤c27.length)&&true) (XK (some 4) (Zt
 (AM.partOf c27 0 none)) fun r28 lo29 n30=>Za (O.call 87 [V.row (some 4) r28 lo29 n30] r1.snd.snd) fun r31=>Zx r31.fst (fun v32=>Yi (some 3) v32 fun l33=>
 Za (Zj O 26 [V.agg [V.int n23,V.int n24,V.vec .plain (some 3) l25],V.vec .plain (some 3) l33,V.int n15]) fun r34=>ZG r34 fun c35=>Zd c35 fun v36 c37
 =>Zc [CT.int,CT.int,CT.slice (some 3)] v36 fun n38 n39 l40=>Zd c37 fun v41 c42=>Zl v41 fun n43=>Zn c42 (bc (n43 !=0) (Yt [Res.row (some 4) bs,Res.box
 [V.row (some 4) 0 0 m,V.vec .plain none ps,V.vec .plain none rs]].length (V.int n43) r31.snd) (Za (Zj O 75 [V.agg [V.int n38,V.int n39,V.vec .plain (some 3)
 l40],V.agg [V.int n10,V.int n11,V.vec .plain (some 3) l12]]) fun r44=>Zi r44 fun b45=>bc (!b45) (Yt [Res.row (some 4) bs,Res.box [V.row (some 4) 0 0 m,V.vec .plain
 none ps,V.vec .plain none rs]].length (V.int 6) r31.snd) (Yt [Res.row (some 4) bs,Res.box [V.row (some 4) 0 0 m,V.vec .plain none ps,V.vec .plain none rs]].length (V.int 0)
 r31.snd)))) fun p46=>none))) none) fun v47=>none:=by kernel_rfl
theorem Jn(O:Oracle)(i pk ph tk th n len:Int)(xs ps' ts:List V)(st:St):Z1 Tryz.prog cfg O 171 3 [.int i, .fn 199 [] [.cptr none (.ref 1 0)], .vec .plain (some 3) xs, .loc false (some 3) (.agg [.int tk, .int th, .vec .plain (some 3) ts]), .int n, .cptr none (.ref 1 0), .loc false (some 3) (.agg [.int pk, .int ph, .vec .plain (some 3) ps']), .int len] st=
 bc (decide (i<len)) (gd (decide (0≤i)&&decide (i<(↑xs.length:Int))) (Zc [CT.int,CT.int,CT.slice (some 3)] (ZA xs i) fun n1 n2 l3=>Za (Zj O
 112 [V.agg [V.int n1,V.int n2,V.vec .plain (some 3) l3]]) fun r4=>Yi none r4 fun l5=>Za (O.call 200 [V.vec .plain none l5,V.fn
 199 [] [V.cptr none (V.ref 1 0)]] st) fun r6=>Zx r6.fst (fun v7=>Zi v7 fun b8=>bc b8 (some (Ex.ret,[V.int 5],r6.snd)) (O.2
 171 3 [V.int (IntKind.i64.wrap (i+1)),V.fn 199 [] [V.cptr none (V.ref 1 0)],V.vec .plain (some 3) xs,V.loc false (some 3) (V.agg
 [V.int tk,V.int th,V.vec .plain (some 3) ts]),V.int n,V.cptr none (V.ref 1 0),V.loc false (some 3) (V.agg [V.int pk,V.int ph,V.vec .plain (some 3) ps']),V.int len]
 r6.snd)) fun p9=>none)) (some (Ex.exit 0,[V.loc false (some 3) (V.agg [V.int tk,V.int th,V.vec .plain (some 3) ts]),V.int n,V.cptr none (V.ref 1 0),V.loc false (some 3)
 (V.agg [V.int pk,V.int ph,V.vec .plain (some 3) ps'])],st)):=by kernel_rfl
theorem zca(O:Oracle)(tk th:Int)(ts:List V)(bs ps rs:List V)(m:Nat):Ze Tryz.prog cfg O 173 [.ref 1 0, .agg [.int tk, .int th, .vec .plain (some 3) ts]] [.row (some 4) bs, .box [.row (some 4) 0 0 m, .vec .plain none ps, .vec .plain none rs]]=
 bc (tk==6) (bc (decide (th<(↑rs.length:Int))) (gd (decide (0≤th)&&decide (th<(↑rs.length:Int))) (Zi (ZA rs th) fun b1=>Yt [Res.row (some 4) bs,Res.box
 [V.row (some 4) 0 0 m,V.vec .plain none ps,V.vec .plain none rs]].length (V.bool b1) [Res.row (some 4) bs,Res.box [V.row (some 4) 0 0 m,V.vec .plain none ps,V.vec .plain none
 rs]])) (Yt [Res.row (some 4) bs,Res.box [V.row (some 4) 0 0 m,V.vec .plain none ps,V.vec .plain none rs]].length (V.bool false) [Res.row (some 4) bs,Res.box [V.row (some 4) 0
 0 m,V.vec .plain none ps,V.vec .plain none rs]])) (bc (tk==4) (Yt [Res.row (some 4) bs,Res.box [V.row (some 4) 0 0 m,V.vec .plain none ps,V.vec .plain none rs]].length
 (V.bool ((↑ts.length:Int)==0)) [Res.row (some 4) bs,Res.box [V.row (some 4) 0 0 m,V.vec .plain none ps,V.vec .plain none rs]]) (Yt [Res.row (some 4) bs,Res.box [V.row
 (some 4) 0 0 m,V.vec .plain none ps,V.vec .plain none rs]].length (V.bool false) [Res.row (some 4) bs,Res.box [V.row (some 4) 0 0 m,V.vec .plain none ps,V.vec .plain none
 rs]])):=by kernel_rfl
theorem zcI(O:Oracle)(n0:Int)(bs ps rs:List V)(m:Nat):Ze Tryz.prog cfg O 199 [.int n0, .cptr none (.ref 1 0)] [.row (some 4) bs, .box [.row (some 4) 0 0 m, .vec .plain none ps, .vec .plain none rs]]=
 bc (decide (n0≥(↑m:Int))) (Yt [Res.row (some 4) bs,Res.box [V.row (some 4) 0 0 m,V.vec .plain none ps,V.vec .plain none rs]].length (V.bool true) [Res.row (some 4) bs,
 Res.box [V.row (some 4) 0 0 m,V.vec .plain none ps,V.vec .plain none rs]]) (gd (decide (0≤n0)&&decide (n0<(↑m:Int))) (gd (true&&decide (0+n0.toNat<bs.length))
 (YP (bs.getD (0+n0.toNat) V.undef) fun c1=>Zi (AM.partOf c1 0 none) fun b2=>Yt [Res.row (some 4) bs,Res.box [V.row (some 4) 0 0 m,V.vec .plain none ps,V.vec
 .plain none rs]].length (V.bool !b2) [Res.row (some 4) bs,Res.box [V.row (some 4) 0 0 m,V.vec .plain none ps,V.vec .plain none rs]]))):=by kernel_rfl
theorem zaI(O:Oracle)(l0:(List V))(g1:Nat)(l2:(List V))(l3:(List V))(st:St):Ze Tryz.prog cfg O 200 [.vec .plain none l0, .fn g1 l2 l3] st=
 Za (O.call 217 [V.vec .plain none l0,V.fn g1 l2 l3] st) fun r1=>Zx r1.fst (fun v2=>Zl v2 fun n3=>Yt (List.length st) (V.bool (decide (n3≥
 0))) r1.snd) fun p4=>none:=by kernel_rfl
theorem zbR(O:Oracle)(l0:(List V))(g1:Nat)(l2:(List V))(l3:(List V))(st:St):Ze Tryz.prog cfg O 217 [.vec .plain none l0, .fn g1 l2 l3] st=
 Za (O.loop 217 2 [V.int 0,V.vec .plain none l0,V.fn g1 l2 l3,V.int (↑l0.length:Int)] st) fun r1=>Y8 r1.fst none (Zd r1.snd.fst fun v2 c3=>
 Zl v2 fun n4=>Zn c3 (Yt (List.length st) (V.int n4) r1.snd.snd)) (fun i5=>bc (i5.beq 0) (Zn r1.snd.fst (Yt (List.length st) (V.int (-1)) r1.snd.snd)) none) fun v6
 =>none:=by kernel_rfl
theorem Qt(O:Oracle)(n0:Int)(l1:(List V))(g2:Nat)(l3:(List V))(l4:(List V))(n5:Int)(st:St):Z1 Tryz.prog cfg O 217 2 [.int n0, .vec .plain none l1, .fn g2 l3 l4, .int n5] st=
 bc (decide (n0<n5)) (gd (decide (0≤n0)&&decide (n0<(↑l1.length:Int))) (Zl (ZA l1 n0) fun n1=>bc (cfg.pure g2) (Za (Zj O g2 (l3++[V.int n1]++l4)) fun r2
 =>Zi r2 fun b3=>bc b3 (some (Ex.ret,[V.int n0],(Out.ret r2,st).snd)) (O.2 217 2 [V.int (IntKind.i64.wrap (n0+1)),V.vec .plain none l1,V.fn g2
 l3 l4,V.int n5] (Out.ret r2,st).snd)) (Za (O.call g2 (l3++[V.int n1]++l4) st) fun r4=>Zx r4.fst (fun v5=>Zi v5 fun b6=>bc b6 (some (Ex.ret,[V.int n0],
 r4.snd)) (O.2 217 2 [V.int (IntKind.i64.wrap (n0+1)),V.vec .plain none l1,V.fn g2 l3 l4,V.int n5] r4.snd)) fun p7=>none))) (some (Ex.exit 0,[],st)):=by kernel_rfl
theorem zjK(O:Oracle)(bs ps rs:List V)(m:Nat):Ze Tryz.prog cfg O 87 [.row (some 4) 0 0 m] [.row (some 4) bs, .box [.row (some 4) 0 0 m, .vec .plain none ps, .vec .plain none rs]]=
 gd (decide (0≤(↑m:Int))&&decide ((↑m:Int)=(↑m:Int))&&roomFor Tryz.prog 27 (↑m:Int).toNat&&true&&true) (Za (O.loop 87 3 [V.int 0,V.row
 (some 3) [Res.row (some 4) bs,Res.box [V.row (some 4) 0 0 m,V.vec .plain none ps,V.vec .plain none rs]].length 0 (↑m:Int).toNat,V.row (some 4) 0 0 m,V.int (↑m:Int)]
 [Res.row (some 4) bs,Res.box [V.row (some 4) 0 0 m,V.vec .plain none ps,V.vec .plain none rs],Res.row (some 3) (List.replicate (↑m:Int).toNat (V.agg [V.int 0,V.int 0,V.vec
 .plain (some 3) []]))]) fun r1=>Y8 r1.fst none none (fun i2=>bc (i2.beq 0) (Zd r1.snd.fst fun v3 c4=>XK (some 3) v3 fun r5 lo6 n7=>Zn c4 (gd (decide ([Res.row
 (some 4) bs,Res.box [V.row (some 4) 0 0 m,V.vec .plain none ps,V.vec .plain none rs]].length≤r5)) (Z3 r1.snd.snd r5 fun x8=>JO x8 fun sh9 l10=>gd (decide (sh9=some
 3)&&decide (lo6+n7≤l10.length)) (Yt [Res.row (some 4) bs,Res.box [V.row (some 4) 0 0 m,V.vec .plain none ps,V.vec .plain none rs]].length (V.vec .plain (some 3)
 (List.take n7 (List.drop lo6 l10))) (List.set r1.snd.snd r5 Res.dead))))) none) fun v11=>none):=by kernel_rfl
theorem zbS(O:Oracle)(n0 n5:Int)(k:Nat)(es:List V)(bs ps rs:List V)(m:Nat):Z1 Tryz.prog cfg O 87 3 [.int n0, .row (some 3) 2 0 k, .row (some 4) 0 0 m, .int n5] [.row (some 4) bs, .box [.row (some 4) 0 0 m, .vec .plain none ps, .vec .plain none rs], .row (some 3) es]=
 bc (decide (n0<n5)) (gd (decide (0≤n0)&&decide (n0<(↑m:Int))) (gd (true&&decide (0+n0.toNat<bs.length)) (Zc [CT.bool,CT.int,CT.int,CT.slice (some 3)]
 (bs.getD (0+n0.toNat) V.undef) fun b1 n2 n3 l4=>bc b1 (gd (decide (0≤n0)&&decide (n0<(↑k:Int))) (gd (true&& !isGrow (V.agg [V.int n2,V.int n3,V.vec .plain (some 3)
 l4])&&decide (0+n0.toNat<es.length)) (O.2 87 3 [V.int (IntKind.i64.wrap (n0+1)),V.row (some 3) 2 0 k,V.row (some 4) 0 0 m,V.int n5] [Res.row (some 4) bs,
 Res.box [V.row (some 4) 0 0 m,V.vec .plain none ps,V.vec .plain none rs],Res.row (some 3) (es.set (0+n0.toNat) (V.agg [V.int n2,V.int n3,V.vec .plain (some 3) l4]))])))
 (O.2 87 3 [V.int (IntKind.i64.wrap (n0+1)),V.row (some 3) 2 0 k,V.row (some 4) 0 0 m,V.int n5] [Res.row (some 4) bs,Res.box [V.row (some 4) 0 0 m,V.vec .plain
 none ps,V.vec .plain none rs],Res.row (some 3) es])))) (some (Ex.exit 0,[V.row (some 3) 2 0 k],[Res.row (some 4) bs,Res.box [V.row (some 4) 0 0 m,V.vec .plain none ps,V.vec
 .plain none rs],Res.row (some 3) es])):=by kernel_rfl
end Go.Proofs.CL
namespace Go.Ama
open Go Go.AM
structure US where
 bs:List Bd
 n:Nat
end Go.Ama
namespace Go.Ama
open Go Go.AM
end Go.Ama
namespace Go.Ama
open Go Go.AM
theorem zq0{b:Int}: ∀(l:List T) (acc:List Int),(∀v∈acc,0≤v∧v<b)→acc.Nodup→(zbo b acc l).2=true→ ∃vs,l=XL vs∧(zbo b acc l).1=acc++vs∧(acc++vs).Nodup∧ ∀v∈acc++vs,0≤v∧v<b
 |[],acc,h1,h2,_=>⟨[],rfl,by simp[zbo],by simpa using h2,by simpa using h1⟩
 |t::l,acc,h1,h2,h=>by
  unfold zbo at h⊢
  by_cases c:t.k≠4∨0<t.args.length∨t.h<0∨b≤t.h∨t.h∈acc
  ·rw[if_pos c]at h;cases h
  ·rw[if_neg c]at h⊢
   simp only[not_or]at c
   obtain⟨c1,c2,c3,c4,c5⟩:=c
   obtain⟨vs,e1,e2,e3,e4⟩:=zq0 l (acc++[t.h]) (fun v hv=>by
    rcases List.mem_append.1 hv with hv|hv
    ·exact h1 v hv
    ·simp at hv;subst hv;omega) (List.nodup_append.2 ⟨h2,by simp,fun a ha b hb e=>by simp at hb;subst hb;subst e;exact c5 ha⟩) h
   refine⟨t.h::vs, ?_,by rw[e2];simp,by simpa using e3,by simpa using e4⟩
   rw[e1]
   have:t= .mk 4 t.h []:=by
    cases t with
    |mk k h xs=>
     simp only[T.k,T.args]at c1 c2
     have:xs=[]:=List.length_eq_zero_iff.1 (by omega)
     subst this
     rw[Decidable.not_not.1 c1]
     rfl
   show t::XL vs= .mk 4 t.h []::XL vs
   rw[←this]
theorem zq1{l:List T}{b:Int}(h:(Yf l b).2=true): ∃vs,l=XL vs∧Yf l b=(vs,true)∧vs.Nodup∧ ∀v∈vs,0≤v∧v<b:=by
 obtain⟨vs,e1,e2,e3,e4⟩:=zq0 l [] (by simp) List.nodup_nil h
 refine⟨vs,e1, ?_,by simpa using e3,by simpa using e4⟩
 have:Yf l b=((Yf l b).1,(Yf l b).2):=rfl
 rw[this,h]
 unfold Yf
 rw[e2]
 simp
theorem ztY(θ:List T){h:Int}{n:Int}:YX θ (.mk 4 h []) n=(.mk 4 h [],0):=by
 rw[zg2,ziJ]
 simp
theorem zhw(θ:List T){b:Bool}{n:Int}: ∀vs:List Int,Y3 θ b (XL vs) n=(XL vs,0)
 |[]=>by show Y3 θ b [] n=_;rw[ziJ];rfl
 |v::vs=>by
  show Y3 θ b (.mk 4 v []::XL vs) n=(.mk 4 v []::XL vs,0)
  rw[zlv]
  simp only[ztY,zhw θ vs]
  simp
theorem zvx{h:Int}(h0:0≤h):may (.mk 4 h [])=true:=by simp[may,YO,Xb,zcZ,T.size,T.depth,sizes,Yh,h0]
theorem zl1(θ:List T){h n:Int}{vs:List Int}(hv: ∀v∈vs,0≤v)(h1:h<θ.length):YX θ (.mk 6 h (XL vs)) n=Yz (θ.getD h.toNat T0) (XL vs) n:=by
 rw[zg2]
 simp only[zhw]
 rw[if_neg (by decide),if_neg (by decide),if_neg (by omega),if_neg]
 simp only[List.any_eq_true,Bool.not_eq_true',not_exists,not_and,Bool.not_eq_false]
 intro x hx
 obtain⟨v,h,rfl⟩:=List.mem_map.1 hx
 exact zvx (hv v h)
end Go.Ama
namespace Go.Ama
open Go Go.AM
mutual
def zcJ(ms:List M):T→Prop
 | .mk k h xs=>(k=6→h<ms.length∧(ms.getD h.toNat ⟨[],T0,false⟩).ctx.length=xs.length)∧zhx ms xs
def zhx(ms:List M):List T→Prop
 |[]=>True
 |a::l=>zcJ ms a∧zhx ms l
end
theorem zaJ(ms:List M): ∀l,zhx ms l↔ ∀a∈l,zcJ ms a
 |[]=>by simp[zhx]
 |a::l=>by simp[zhx,zaJ ms l]
theorem ziK(sig:List D)(ms:List M): ∀(zs:List T) (ctx:List T) (t:T),(∀a∈zs,∀(ctx:List T) (b:T),YO a=true→Ja sig ms a ctx b=0→zcJ ms a)→Xb zs=true→(YB sig ms zs ctx t).2=0→ ∀a∈zs,zcJ ms a
 |[],_,_,_,_,_,a,ha=>by cases ha
 |b::zs,ctx,t,ih,hn,e,a,ha=>by
  simp only[Xb,Bool.and_eq_true]at hn
  unfold YB at e
  by_cases hk:t.k≠1
  ·rw[if_pos hk]at e;cases e
  ·rw[if_neg hk]at e
   dsimp only at e
   by_cases h1:Ja sig ms b ctx (t.args.getD 0 T0)=0
   ·rw[if_neg (fun c=>c h1)]at e
    rcases List.mem_cons.1 ha with rfl|ha
    ·exact ih a (by simp) ctx _ hn.1 h1
    ·by_cases h2:(Yz (t.args.getD 1 T0) [b] 0).2=0
     ·rw[if_neg (fun c=>c h2)]at e
      exact ziK sig ms zs ctx _ (fun x hx=>ih x (by simp[hx])) hn.2 e a ha
     ·rw[if_pos h2]at e
      exact absurd e h2
   ·rw[if_pos h1]at e
    exact absurd e h1
theorem zq2(sig:List D)(ms:List M): ∀(zs:List T) (ctx done ds:List T),(∀a∈zs,∀(ctx:List T) (b:T),YO a=true→Ja sig ms a ctx b=0→zcJ ms a)→Xb zs=true→ds.length=zs.length→zdf sig ms zs ctx done ds=0→ ∀a∈zs,zcJ ms a
 |[],_,_,_,_,_,_,_,a,ha=>by cases ha
 |b::zs,ctx,done,[],_,_,hl,_,_,_=>by simp at hl
 |b::zs,ctx,done,d::ds,ih,hn,hl,e,a,ha=>by
  simp only[Xb,Bool.and_eq_true]at hn
  unfold zdf at e
  dsimp only at e
  by_cases h2:(Yz d done ctx.length).2=0
  ·rw[if_pos h2]at e
   by_cases h1:Ja sig ms b ctx (Yz d done ctx.length).1=0
   ·rw[if_neg (fun c=>c h1)]at e
    rcases List.mem_cons.1 ha with rfl|ha
    ·exact ih a (by simp) ctx _ hn.1 h1
    ·exact zq2 sig ms zs ctx _ ds (fun x hx=>ih x (by simp[hx])) hn.2 (by simpa using hl) e a ha
   ·rw[if_pos h1]at e
    exact absurd e h1
  ·rw[if_neg h2,if_pos h2]at e
   exact absurd e h2
theorem zvy(sig:List D)(ms:List M)(m:T): ∀(ctx:List T) (a:T),YO m=true→Ja sig ms m ctx a=0→zcJ ms m:=by
 induction m using T.ind with
 |_ k h zs ih=>
  intro ctx a hn e
  simp only[YO,Bool.and_eq_true]at hn
  by_cases h3:k=3∧a.k=1
  ·obtain⟨rfl,ha⟩:=h3
   cases zs with
   |nil=>simp[zcZ]at hn
   |cons b r=>
    have hr:r=[]:=by
     have:=hn.1
     simp only[zcZ]at this
     have:(r.length+1=1):=by simpa using(show decide (h=0)&&decide ((b::r).length=1)=true by simpa using this)|>fun q=>by simp at q;simp[q.2]
     exact List.length_eq_zero_iff.1 (by omega)
    subst hr
    rw[zmZ sig ms ha]at e
    simp only[Xb,Bool.and_eq_true]at hn
    exact⟨(fun c=>by cases c),ih b (by simp) _ _ hn.2.1 e,trivial⟩
  ·by_cases h2:k=3∨a.k≠2
   ·rw[zkZ sig ms h3 h2]at e;cases e
   ·simp only[not_or,Decidable.not_not]at h2
    rw[zkY sig ms h2.1 h2.2]at e
    have hc:(Jq sig ms k h zs ctx).2=0:=by
     refine Decidable.byContradiction fun c=> ?_
     rw[if_pos c]at e;exact c e
    clear e
    unfold Jq at hc
    by_cases h4:k=4
    ·subst h4
     rw[if_pos rfl]at hc
     unfold zoq at hc
     by_cases hl:(ctx.length:Int)≤h
     ·rw[if_pos hl]at hc;cases hc
     ·rw[if_neg hl]at hc
      exact⟨(fun c=>by cases c),(zaJ ms zs).2 (ziK sig ms zs ctx _ ih hn.2 hc)⟩
    ·rw[if_neg h4]at hc
     by_cases h5:k=5
     ·subst h5
      rw[if_pos rfl]at hc
      unfold zdH at hc
      cases hd:X9 sig h false with
      |none=>rw[hd]at hc;cases hc
      |some t=>
       rw[hd]at hc
       exact⟨(fun c=>by cases c),(zaJ ms zs).2 (ziK sig ms zs ctx _ ih hn.2 hc)⟩
     ·rw[if_neg h5]at hc
      by_cases h6:k=6
      ·subst h6
       rw[if_pos rfl]at hc
       unfold zhm at hc
       by_cases hl:(ms.length:Int)≤h
       ·rw[if_pos hl]at hc;cases hc
       ·rw[if_neg hl]at hc
        dsimp only at hc
        by_cases hn2:(ms.getD h.toNat ⟨[],T0,false⟩).ctx.length≠zs.length
        ·rw[if_pos hn2]at hc;cases hc
        ·rw[if_neg hn2]at hc
         have hn3:=Decidable.not_not.1 hn2
         by_cases he:zdf sig ms zs ctx [] (ms.getD h.toNat ⟨[],T0,false⟩).ctx=0
         ·exact⟨fun _=>⟨by omega,hn3⟩,(zaJ ms zs).2 (zq2 sig ms zs ctx [] _ ih hn.2 hn3 he)⟩
         ·rw[if_pos he]at hc;exact absurd hc he
      ·rw[if_neg h6]at hc;cases hc
def zfU:Bool→List T→Int→Bool
 |_,[],_=>true
 |b,a::l,n=>XA a (if b&&l.isEmpty then n+1 else n)&&zfU b l n
theorem ztZ(t:T): ∀(n:Int) (s:Bool),XG zhn t n s=(s&&XA t n):=by
 induction t using T.ind with
 |_ k h xs ih=>
  have hl: ∀(l:List T),(∀a∈l,∀(n:Int) (s:Bool),XG zhn a n s=(s&&XA a n))→ ∀(b:Bool) (n:Int) (s:Bool),Qd zhn l b n s=(s&&zfU b l n):=by
   intro l
   induction l with
   |nil=>intro _ b n s;simp[Qd,zfU]
   |cons a l ihl=>
    intro hi b n s
    unfold Qd zfU
    rw[hi a (by simp),ihl (fun x hx=>hi x (by simp[hx])),Bool.and_assoc]
  intro n s
  unfold XA
  unfold XG
  rw[hl xs ih,hl xs ih]
  unfold zhn
  split
  ·simp[Bool.and_assoc]
  ·simp
theorem zl2{k h:Int}{xs:List T}{n:Int}:XA (.mk k h xs) n=((if k=6 then(Yf xs n).2 else true)&&zfU (bindsB k) xs n):=by
 have hl: ∀(l:List T) (b:Bool) (n:Int) (s:Bool),Qd zhn l b n s=(s&&zfU b l n):=by
  intro l
  induction l with
  |nil=>intro b n s;simp[Qd,zfU]
  |cons a l ihl=>
   intro b n s
   unfold Qd zfU
   rw[ztZ a,ihl,Bool.and_assoc]
 conv=>lhs;unfold XA
 unfold XG
 rw[hl]
 unfold zhn
 simp only[T.k,T.args,Bool.true_and]
structure Part(θ:List T)(bs:List Bd):Prop where
 len:bs.length=θ.length
 eq: ∀(i:Nat) (b:Bd) (t:T),bs[i]? =some b→θ[i]? =some t→b.is=true→b.t=t
structure FitsM(B:Int)(ms:List M)(θ:List T):Prop where
 len:θ.length=ms.length
 few:ms.length≤200
 all: ∀x∈θ,may x=true∧okB B x
 ctx: ∀m∈ms,m.ctx.length≤200
 par: ∀(i:Nat) (m:M) (t:T),ms[i]? =some m→θ[i]? =some t→m.param=true→m.ctx=[]∧ ∃h,t= .mk 4 h []
def Grew(bs bs':List Bd):Prop:= ∀(i:Nat) (b:Bd),bs[i]? =some b→b.is=true→ ∃b',bs'[i]? =some b'∧b'.is=true
theorem Grew.refl(bs:List Bd):Grew bs bs:=fun _ b h hb=>⟨b,h,hb⟩
theorem Grew.trans{a b c:List Bd}(h1:Grew a b)(h2:Grew b c):Grew a c:=fun i x hx hb=>by
 obtain⟨y,hy,hyb⟩:=h1 i x hx hb
 exact h2 i y hy hyb
mutual
def zq3(bs:List Bd):T→Prop
 | .mk k h xs=>(k=6→ ∃b,bs[h.toNat]? =some b∧b.is=true)∧zl3 bs xs
def zl3(bs:List Bd):List T→Prop
 |[]=>True
 |a::l=>zq3 bs a∧zl3 bs l
end
mutual
theorem znm{bs bs':List Bd}(g:Grew bs bs'): ∀t,zq3 bs t→zq3 bs' t
 | .mk k h xs,⟨h1,h2⟩=>⟨fun e=>by obtain⟨b,hb,hi⟩:=h1 e;exact g _ b hb hi,zl4 g xs h2⟩
theorem zl4{bs bs':List Bd}(g:Grew bs bs'): ∀l,zl3 bs l→zl3 bs' l
 |[],_=>trivial
 |a::l,⟨h1,h2⟩=>⟨znm g a h1,zl4 g l h2⟩
end
theorem zdO(bs:List Bd): ∀vs:List Int,zl3 bs (XL vs)
 |[]=>trivial
 |v::vs=>⟨⟨(fun e=>by cases e),trivial⟩,zdO bs vs⟩
theorem zrZ(v:Int):YC (.mk 4 v [])=[]:=by
 unfold YC
 simp[XG,Qd,zdK,T.k]
 rfl
theorem zvz{bs:List Bd}{i:Nat}{b:Bd}(h:bs[i]? =some b)(hb:b.is=true):(told bs).getD i T0=b.t:=by
 simp[told,List.getD_eq_getElem?_getD,List.getElem?_map,h,hb]
theorem zeY(bs:List Bd):(told bs).length=bs.length:=by simp[told]
theorem zv0{B:Int}{θ:List T}{bs:List Bd}(hθ: ∀x∈θ,may x=true∧okB B x)(hp:Part θ bs): ∀x∈told bs,may x=true:=by
 intro x hx
 obtain⟨b,hb,rfl⟩:=List.mem_map.1 hx
 obtain⟨i,hi,e⟩:=List.getElem_of_mem hb
 split
 ·rename_i his
  have hi':i<θ.length:=by rw[←hp.len];exact hi
  have:=hp.eq i b θ[i] (by rw[List.getElem?_eq_getElem hi,e]) (List.getElem?_eq_getElem hi') his
  rw[this]
  exact(hθ _ (List.getElem_mem hi')).1
 ·exact zvu
theorem Part.set{θ:List T}{bs:List Bd}(hp:Part θ bs){i:Nat}{u:T}(hu:θ[i]? =some u):Part θ (bs.set i ⟨true,u⟩):=by
 refine⟨by simpa using hp.len,fun j b t hb ht his=> ?_⟩
 rw[List.getElem?_set]at hb
 split at hb
 ·rename_i e
  subst e
  split at hb
  ·cases hb
   rw[hu]at ht
   cases ht
   rfl
  ·cases hb
 ·exact hp.eq j b t hb ht his
theorem Grew.set{bs:List Bd}{i:Nat}{u:T}:Grew bs (bs.set i ⟨true,u⟩):=by
 intro j b hb his
 rw[List.getElem?_set]
 by_cases e:i=j
 ·subst e
  have hl:=(List.getElem?_eq_some_iff.1 hb).1
  rw[if_pos rfl,if_pos hl]
  exact⟨_,rfl,rfl⟩
 ·rw[if_neg e]
  exact⟨b,hb,his⟩
theorem zl5{B:Int}{ms:List M}{θ:List T}{bd:Bool}: ∀(xs:List T) (n:Int) (bs:List Bd),
  (∀x∈xs,∀(n':Int) (bs:List Bd),n≤n'→n'≤n+1→XA x n'=true→Part θ bs→ ∃t,YX θ x n'=(t,0)∧(may t=true→ ∃bs',X6 (ms.map M.param) [] x t n' bs=(bs',0)∧Part θ bs'∧Grew bs bs'∧zq3 bs' x))→
  zfU bd xs n=true→Part θ bs→ ∃ts,Y3 θ bd xs n=(ts,0)∧ts.length=xs.length∧((∀t∈ts,may t=true)→ ∃bs',Qn (ms.map M.param) [] bd xs ts n bs=(bs',0)∧Part θ bs'∧Grew bs bs'∧zl3 bs' xs)
 |[],n,bs,_,_,hp=>⟨[],ziJ _ _ _,rfl,fun _=>⟨bs,zg0 _ _ _ _ _ _,hp,Grew.refl bs,trivial⟩⟩
 |x::xs,n,bs,ih,hpt,hp=>by
  unfold zfU at hpt
  have hpt:=Bool.and_eq_true_iff.1 hpt
  have hn':n≤(if(bd&&xs.isEmpty)=true then n+1 else n)∧(if(bd&&xs.isEmpty)=true then n+1 else n)≤n+1:=by split<;>omega
  obtain⟨t,h1,h2⟩:=ih x (by simp) _ bs hn'.1 hn'.2 hpt.1 hp
  have hrest:=fun bs' hp'=>zl5 (B:=B) (ms:=ms) (θ:=θ) (bd:=bd) xs n bs' (fun y hy=>ih y (by simp[hy])) hpt.2 hp'
  obtain⟨ts,g1,g2,_⟩:=hrest bs hp
  refine⟨t::ts, ?_,by simp[g2],fun hm=> ?_⟩
  ·rw[zlv]
   simp only[h1,g1]
   simp
  ·obtain⟨bs1,k1,k2,k3,k4⟩:=h2 (hm t (by simp))
   obtain⟨ts',g1',_,g3⟩:=hrest bs1 k2
   rw[g1]at g1'
   cases g1'
   obtain⟨bs2,l1,l2,l3,l4⟩:=g3 (fun y hy=>hm y (by simp[hy]))
   refine⟨bs2, ?_,l2,k3.trans l3,znm l3 _ k4,l4⟩
   rw[zcw]
   simp only[k1,l1]
   simp
theorem zsa{B:Int}(hB:B≤4611686018427380000){ms:List M}{θ:List T}(F:FitsM B ms θ)(p:T): ∀(n:Int) (bs:List Bd),0≤n→n+p.depth≤1000→may p=true→XA p n=true→zcJ ms p→Part θ bs→
  ∃t,YX θ p n=(t,0)∧(may t=true→ ∃bs',X6 (ms.map M.param) [] p t n bs=(bs',0)∧Part θ bs'∧Grew bs bs'∧zq3 bs' p):=by
 induction p using T.ind with
 |_ k h xs ih=>
  intro n bs hn hd hmp hpt hmo hp
  have hnb:=zfv hmp
  rw[zl2]at hpt
  simp only[Bool.and_eq_true]at hpt
  simp only[YO,Bool.and_eq_true]at hnb
  obtain⟨hm6,hms⟩:=hmo
  simp only[T.depth]at hd
  by_cases h6:k=6
  ·subst h6
   obtain⟨hlt,hcl⟩:=hm6 rfl
   have h0:0≤h:=by have:=hnb.1;simp[zcZ]at this;exact this
   have hpat:(Yf xs n).2=true:=by simpa using hpt.1
   obtain⟨vs,rfl,hpe,hnd,hvb⟩:=zq1 hpat
   have hi:h.toNat<ms.length:=by omega
   have hiθ:h.toNat<θ.length:=by rw[F.len];exact hi
   have hib:h.toNat<bs.length:=by rw[hp.len];exact hiθ
   have hm:zaf vs n=true:=Qm.2 ⟨hn,by omega,hnd,hvb⟩
   have hvl:vs.length≤200:=by
    have h1:(ms.getD h.toNat ⟨[],T0,false⟩)=ms[h.toNat]:=by simp[List.getD_eq_getElem?_getD,hi]
    rw[h1]at hcl
    have:=F.ctx _ (List.getElem_mem hi)
    have:(XL vs).length=vs.length:=by simp[XL]
    omega
   have hu:=F.all _ (List.getElem_mem hiθ)
   have hgθ:θ.getD h.toNat T0=θ[h.toNat]:=by simp[List.getD_eq_getElem?_getD,hiθ]
   obtain⟨t,ha,hmt,hto,hinv⟩:=zrY hB hu.2 hu.1 hm hvl
   refine⟨t, ?_,fun _=> ?_⟩
   ·rw[zl1 θ (fun v hv=>(hvb v hv).1) (by rw[F.len];omega),hgθ,ha]
   ·rw[zg1,if_pos rfl,zvw]
    have hgb:bs.getD h.toNat B0=bs[h.toNat]:=by simp[List.getD_eq_getElem?_getD,hib]
    have hgp:(ms.map M.param).getD h.toNat false=ms[h.toNat].param:=by simp[List.getD_eq_getElem?_getD,hi]
    rw[if_neg (by rw[hp.len,F.len];omega),hgb,hpe,hgp]
    cases his:bs[h.toNat].is with
    |true=>
     simp only[if_true]
     have hbt:=hp.eq h.toNat bs[h.toNat] θ[h.toNat] (List.getElem?_eq_getElem hib) (List.getElem?_eq_getElem hiθ) his
     have hk:ziI bs (.mk 6 h (XL vs)) t n=0:=by
      unfold ziI
      have e1:(T.mk 6 h (XL vs)).args.any (fun a=>(YC a).any (zfT bs))=false:=by
       show(XL vs).any (fun a=>(YC a).any (zfT bs))=false
       rw[List.any_eq_false]
       intro a ha
       obtain⟨v,_,rfl⟩:=List.mem_map.1 ha
       rw[zrZ]
       simp
      have e2:Yy (.mk 6 h (XL vs)) (told bs) n=(t,0):=by
       unfold Yy
       have c1:(told bs).any (fun x=> !may x)=false:=by
        rw[List.any_eq_false]
        intro x hx
        rw[zv0 F.all hp x hx]
        simp
       rw[hmp,c1,if_neg (by have:=F.few;have:=F.len;have:=hp.len;simp only[zeY,Bool.not_true,Bool.false_or,Bool.or_false,Bool.or_eq_true,decide_eq_true_eq,not_or];omega)]
       rw[zl1 (told bs) (fun v hv=>(hvb v hv).1) (by rw[zeY];omega),zvz (List.getElem?_eq_getElem hib) his,hbt,ha]
       simp[hmt]
      rw[if_neg (by rw[e1];decide),e2]
      simp[(zhe t t).2 rfl]
     rw[hk]
     exact⟨bs,rfl,hp,Grew.refl bs,fun _=>⟨bs[h.toNat],List.getElem?_eq_getElem hib,his⟩,zdO bs vs⟩
    |false=>
     simp only[Bool.false_eq_true,if_false,hinv,ne_eq,not_true_eq_false,false_or,Bool.true_eq_false]
     have hvar: ¬(ms[h.toNat].param=true∧zay [] t=false):=by
      rintro⟨c1,c2⟩
      obtain⟨q1,h',q2⟩:=F.par h.toNat ms[h.toNat] θ[h.toNat] (List.getElem?_eq_getElem hi) (List.getElem?_eq_getElem hiθ) c1
      have hr: ∃hh,t= .mk 4 hh []:=by
       rw[q2]at hinv
       unfold Xi at hinv
       rw[hmt,hm]at hinv
       simp only[Bool.not_true,Bool.or_self,Bool.false_eq_true,if_false]at hinv
       cases hx:zaT vs n t 0 with
       |none=>rw[hx]at hinv;simp at hinv
       |some w=>
        rw[hx]at hinv
        simp only[Prod.mk.injEq,and_true]at hinv
        subst hinv
        obtain⟨k',hh,ys⟩:=t
        unfold zaT at hx
        cases hy:zdL vs n k' hh 0 with
        |none=>rw[hy]at hx;cases hx
        |some h2=>
         rw[hy]at hx
         cases hz:Q8 vs n (bindsB k') ys 0 with
         |none=>rw[hz]at hx;cases hx
         |some zs=>
          rw[hz]at hx
          simp only[Option.some.injEq,T.mk.injEq]at hx
          obtain⟨rfl,_,rfl⟩:=hx
          have hl:=(zct hm ys (bindsB 4) 0 [] (Int.le_refl _) hto.2.2 hz).2.2.2.2
          have:ys=[]:=List.length_eq_zero_iff.1 hl.symm
          subst this
          exact⟨hh,rfl⟩
      obtain⟨hh,rfl⟩:=hr
      simp[zay,T.k,T.args]at c2
     rw[if_neg hvar]
     refine⟨_,rfl,hp.set (List.getElem?_eq_getElem hiθ),Grew.set,fun _=>⟨⟨true,θ[h.toNat]⟩, ?_,rfl⟩,zdO _ vs⟩
     rw[List.getElem?_set,if_pos rfl,if_pos hib]
  ·obtain⟨ts,g1,g2,g3⟩:=zl5 (B:=B) (ms:=ms) (θ:=θ) (bd:=bindsB k) xs n bs (fun x hx n' bs' hn1 hn2 hpx hpp=>by
    have hdx:=zeL hx
    exact ih x hx n' bs' (by omega) (by omega) (zcn hmp (by simpa[T.args]using hx)) hpx ((zaJ ms xs).1 hms x hx) hpp) hpt.2 hp
   refine⟨.mk k h ts, ?_,fun hmt=> ?_⟩
   ·rw[zg2]
    simp only[g1]
    rw[if_neg (by simp),if_pos h6]
   ·obtain⟨bs',l1,l2,l3,l4⟩:=g3 (fun t ht=>zcn hmt (by simpa[T.args]using ht))
    refine⟨bs', ?_,l2,l3,(fun e=>absurd e h6),l4⟩
    rw[zg1,if_neg h6,if_neg (by simp[T.k,T.h,T.args,g2])]
    exact l1
end Go.Ama
namespace Go.Proofs.CL
open Go Go.AM Go.Ama
set_option maxRecDepth 100000
def stM(bs:List Bd)(ps rs:List Bool):St:=[.row (some 4) (Yg bs), .box [.row (some 4) 0 0 bs.length, .vec .plain none (Xq ps), .vec .plain none (Xq rs)]]
theorem zv1{R:Type}(b:Bd)(K:Bool→Int→Int→List V→Option R):Zc (R:=R) [CT.bool,CT.int,CT.int,CT.slice (some 3)] (zac b) K=K b.is b.t.k b.t.h (Zg b.t.args):=rfl
theorem zwX{R:Type}(b:Bd)(K:Bool→Option R):(YP (zac b) fun c1=>Zi (AM.partOf c1 0 none) K)=K b.is:=rfl
theorem zsL{bs:List Bd}{ps rs:List Bool}{i:Nat}{b:Bd}:[Res.row (some 4) ((Yg bs).set i (zac b)),Res.box [V.row (some 4) 0 0 bs.length,V.vec .plain none (Xq ps),V.vec .plain none (Xq rs)]]=stM (bs.set i b) ps rs:=by
 unfold stM
 rw[zlu,List.length_set]
theorem JL{R:Type}(sh:Sh)(r lo n:Nat)(K:Nat→Nat→Nat→Option R):XK sh (.row sh r lo n) K=K r lo n:=by simp[XK]
theorem zv2{a b c:Res}{v:V}(h1:below 2 v=true)(h2:Zu 2 [a,b]=true):Yt 2 v [a,b,c]=some (.ret v,[a,b]):=by
 unfold Yt
 have:Nat.beq ([a,b,c].length) 2=false:=rfl
 rw[this,Zo,show List.take 2 [a,b,c]=[a,b]from rfl,h1,h2]
 rfl
theorem zua{c:Res}{v:V}(h1:below 0 v=true):Yt 0 v [c]=some (.ret v,[]):=by
 unfold Yt
 have:Nat.beq ([c].length) 0=false:=rfl
 rw[this,Zo,show List.take 0 [c]=[]from rfl,h1]
 rfl
def Qp(bs:List Bd)(i:Nat):List T:=(told bs).take i++List.replicate (bs.length-i) T0
theorem zl6(bs:List Bd){i:Nat}(h:i≤bs.length):(Qp bs i).length=bs.length:=by
 unfold Qp told
 simp
 omega
theorem zj0(bs:List Bd):Qp bs 0=List.replicate bs.length T0:=by simp[Qp]
theorem zl7(bs:List Bd):Qp bs bs.length=told bs:=by
 unfold Qp
 rw[Nat.sub_self,List.replicate_zero,List.append_nil]
 exact List.take_of_length_le (by simp[told])
theorem zeZ(bs:List Bd){i:Nat}(h:i<bs.length):Qp bs (i+1)=(Qp bs i).set i (if bs[i].is then bs[i].t else T0):=by
 have hl:i<(told bs).length:=by simpa[told]using h
 unfold Qp
 rw[List.take_succ_eq_append_getElem hl]
 have e:bs.length-i=(bs.length-(i+1))+1:=by omega
 rw[e,List.replicate_succ,List.append_assoc]
 have hlt:((told bs).take i).length=i:=by simp;omega
 rw[List.set_append,if_neg (by omega),hlt,Nat.sub_self]
 simp[told]
theorem zj1(bs:List Bd){i:Nat}(h:i<bs.length)(hb:bs[i].is=false):Qp bs (i+1)=Qp bs i:=by
 rw[zeZ bs h,hb]
 have e:bs.length-i=(bs.length-(i+1))+1:=by omega
 have hl:i<(told bs).length:=by simpa[told]using h
 have hlt:((told bs).take i).length=i:=by simp;omega
 unfold Qp
 rw[e,List.replicate_succ,List.set_append,if_neg (by omega),hlt,Nat.sub_self]
 rfl
theorem zq4(l:List T)(i:Nat)(t:T):(Zg l).set i (enc t)=Zg (l.set i t):=by simp[QY,List.map_set]
theorem zq5(n:Nat):List.replicate n (V.agg [V.int 0,V.int 0,V.vec .plain (some 3) []])=Zg (List.replicate n T0):=by simp[QY,enc,T0]
theorem zxz{bs:List Bd}{ps rs:List Bool}(hb:bs.length≤1048576):W.call 87 [.row (some 4) 0 0 bs.length] (stM bs ps rs)=some (.ret (.vec .plain (some 3) (Zg (told bs))),stM bs ps rs):=by
 have hL: ∀(m i:Nat),bs.length-i=m→i≤bs.length→W.loop 87 3 [.int (i:Int), .row (some 3) 2 0 bs.length, .row (some 4) 0 0 bs.length, .int bs.length] [.row (some 4) (Yg bs), .box [.row (some 4) 0 0 bs.length, .vec .plain none (Xq ps), .vec .plain none (Xq rs)], .row (some 3) (Zg (Qp bs i))]=
   some (.exit 0,[.row (some 3) 2 0 bs.length],[.row (some 4) (Yg bs), .box [.row (some 4) 0 0 bs.length, .vec .plain none (Xq ps), .vec .plain none (Xq rs)], .row (some 3) (Zg (told bs))]):=by
  intro m
  induction m with
  |zero=>
   intro i hm hi
   have:i=bs.length:=by omega
   subst this
   rw[L,zbS,zl7]
   simp
  |succ m ih=>
   intro i hm hi
   have hlt:i<bs.length:=by omega
   have hlt':(i:Int)<bs.length:=by omega
   have hw:IntKind.i64.wrap ((i:Int)+1)=((i+1:Nat):Int):=by rw[Zq ⟨by omega,by omega⟩];omega
   have hi1:=ih (i+1) (by omega) (by omega)
   have hl1:i<(Yg bs).length:=by rw[Yp];exact hlt
   have hl2:i<(Zg (Qp bs i)).length:=by rw[Zh,zl6 bs (by omega)];exact hlt
   rw[L,zbS,hw]
   simp only[hlt',Int.natCast_nonneg,decide_true,Bool.and_self,Bool.true_and,Zz,Zr,Nat.zero_add,Int.toNat_natCast,hl1,hl2,zcv hlt,zv1]
   cases hb:bs[i].is with
   |true=>
    have e:Qp bs (i+1)=(Qp bs i).set i bs[i].t:=by rw[zeZ bs hlt,hb];rfl
    rw[e,←zq4,Zb bs[i].t]at hi1
    simpa[isGrow]using hi1
   |false=>
    rw[zj1 bs hlt hb]at hi1
    simpa using hi1
 have h:=hL _ 0 rfl (Nat.zero_le _)
 rw[zj0,←zq5]at h
 have hr:roomFor Tryz.prog 27 bs.length=true:=zaP (by omega)
 have hg:Yt 2 (V.vec .plain (some 3) (Zg (told bs))) [.row (some 4) (Yg bs), .box [.row (some 4) 0 0 bs.length, .vec .plain none (Xq ps), .vec .plain none (Xq rs)], .dead]=some (.ret (V.vec .plain (some 3) (Zg (told bs))),stM bs ps rs):=
  zv2 (by simp only[below];exact XZ 2 _) (by simp[Zu,zb0,Zm,below,zad,zdM])
 have hlen:(Zg (told bs)).length=bs.length:=by rw[Zh,told];simp
 unfold stM
 rw[C,zjK]
 simp only[Int.natCast_nonneg,decide_true,Bool.and_self,Bool.true_and,Bool.and_true,Int.toNat_natCast,hr,Zz,List.length_cons,List.length_nil,Nat.zero_add,Nat.reduceAdd]
 rw[show W.loop 87 3 [V.int 0,V.row (some 3) 2 0 bs.length,V.row (some 4) 0 0 bs.length,V.int bs.length] _=_ from h]
 simp only[Zf,Ji,show Nat.beq 0 0=true from rfl,Zr,ZE,JL,ZN]
 simp only[Z3,List.set_cons_succ,List.set_cons_zero,List.getElem?_cons_succ,List.getElem?_cons_zero,zcX,Nat.le_refl,decide_true,Zz,Nat.zero_add,hlen,Bool.and_self,List.drop_zero]
 rw[show List.take bs.length (Zg (told bs))=Zg (told bs)from List.take_of_length_le (by rw[hlen];exact Nat.le_refl _)]
 exact hg
theorem zub{bs:List Bd}(hb:bs.length≤1048576):W.call 87 [.vec .plain (some 4) (Yg bs)] []=some (.ret (.vec .plain (some 3) (Zg (told bs))),[]):=by
 have hL: ∀(m i:Nat),bs.length-i=m→i≤bs.length→W.loop 87 3 [.int (i:Int), .row (some 3) 0 0 bs.length, .vec .plain (some 4) (Yg bs), .int bs.length] [.row (some 3) (Zg (Qp bs i))]=
   some (.exit 0,[.row (some 3) 0 0 bs.length],[.row (some 3) (Zg (told bs))]):=by
  intro m
  induction m with
  |zero=>
   intro i hm hi
   have:i=bs.length:=by omega
   subst this
   rw[L,zef,zl7]
   simp
  |succ m ih=>
   intro i hm hi
   have hlt:i<bs.length:=by omega
   have hlt':(i:Int)<bs.length:=by omega
   have hw:IntKind.i64.wrap ((i:Int)+1)=((i+1:Nat):Int):=by rw[Zq ⟨by omega,by omega⟩];omega
   have hi1:=ih (i+1) (by omega) (by omega)
   have hl2:i<(Zg (Qp bs i)).length:=by rw[Zh,zl6 bs (by omega)];exact hlt
   rw[L,zef,hw,zjv hlt,Yp]
   simp only[hlt',Int.natCast_nonneg,decide_true,Bool.and_self,Bool.true_and,Zz,Zr,Nat.zero_add,Int.toNat_natCast,hl2,zv1]
   cases hb:bs[i].is with
   |true=>
    have e:Qp bs (i+1)=(Qp bs i).set i bs[i].t:=by rw[zeZ bs hlt,hb];rfl
    rw[e,←zq4,Zb bs[i].t]at hi1
    simpa[isGrow]using hi1
   |false=>
    rw[zj1 bs hlt hb]at hi1
    simpa using hi1
 have h:=hL _ 0 rfl (Nat.zero_le _)
 rw[zj0,←zq5]at h
 have hr:roomFor Tryz.prog 27 bs.length=true:=zaP (by omega)
 have hlen:(Zg (told bs)).length=bs.length:=by rw[Zh,told];simp
 rw[C,zo3,Yp]
 simp only[Int.natCast_nonneg,decide_true,Bool.and_self,Bool.true_and,Bool.and_true,Int.toNat_natCast,hr,Zz,List.length_nil,List.nil_append]
 rw[show W.loop 87 3 [V.int 0,V.row (some 3) 0 0 bs.length,V.vec .plain (some 4) (Yg bs),V.int bs.length] _=_ from h]
 simp only[Zf,Ji,show Nat.beq 0 0=true from rfl,Zr,ZE,JL,ZN]
 simp only[Z3,List.set_cons_succ,List.set_cons_zero,List.getElem?_cons_zero,zcX,Nat.le_refl,decide_true,Zz,Nat.zero_add,hlen,Bool.and_self,List.drop_zero]
 rw[show List.take bs.length (Zg (told bs))=Zg (told bs)from List.take_of_length_le (by rw[hlen];exact Nat.le_refl _)]
 exact zua (by simp only[below];exact XZ 0 _)
theorem zuc{bs:List Bd}{ps rs:List Bool}{i:Int}(h0:0≤i):W.call 199 [.int i, .cptr none (.ref 1 0)] (stM bs ps rs)=some (.ret (.bool (zfT bs i)),stM bs ps rs):=by
 unfold stM zfT
 rw[C,zcI]
 by_cases hi:(bs.length:Int)≤i
 ·have hi':i≥(bs.length:Int):=hi
  simp[hi',Zy]
 ·have hi': ¬i≥(bs.length:Int):=hi
  have hn:i.toNat<bs.length:=by omega
  have hlt:i<(bs.length:Int):=by omega
  have hg:bs.getD i.toNat B0=bs[i.toNat]:=by simp[List.getD_eq_getElem?_getD,hn]
  simp only[hi',decide_false,Zo,h0,hlt,decide_true,Bool.and_self,Bool.true_and,Zz,Nat.zero_add,Yp,hn,zcv hn,zwX,hg,hi,Bool.false_or]
  exact Zy rfl
theorem zud:cfg.pure 199=false:=by kernel_rfl
theorem zm1{g:Nat}{a b:List V}(hp:cfg.pure g=false){p:Int→Bool}(xs:List Int)(hs:xs.length≤1099511627776){st:St}(hg: ∀x∈xs,W.call g (a++[.int x]++b) st=some (.ret (.bool (p x)),st)):
  W.call 200 [.vec .plain none (Jr xs), .fn g a b] st=some (.ret (.bool (xs.any p)),st):=by
 have hL: ∀(m i:Nat),xs.length-i=m→i≤xs.length→(∃j:Nat,(xs.drop i).any p=true∧W.loop 217 2 [.int (i:Int), .vec .plain none (Jr xs), .fn g a b, .int xs.length] st=some (.ret,[.int (j:Int)],st))∨((xs.drop i).any p=false∧W.loop 217 2 [.int (i:Int), .vec .plain none (Jr xs), .fn g a b, .int xs.length] st=some (.exit 0,[],st)):=by
  intro m
  induction m with
  |zero=>
   intro i hm hi
   have:i=xs.length:=by omega
   subst this
   refine .inr ⟨by simp, ?_⟩
   rw[L,Qt]
   simp
  |succ m ih=>
   intro i hm hi
   have hlt:i<xs.length:=by omega
   have hlt':(i:Int)<xs.length:=by omega
   have hw:IntKind.i64.wrap ((i:Int)+1)=((i+1:Nat):Int):=by rw[Zq ⟨by omega,by omega⟩];omega
   have h1:=hg _ (List.getElem_mem hlt)
   rw[List.drop_eq_getElem_cons hlt,List.any_cons,L,Qt,hw,ziA hlt,X5,hp]
   simp only[hlt',Int.natCast_nonneg,decide_true,Bool.and_self,Zz,Zr,Zo,Z2,h1,Zf,Z9,Z0]
   cases hq:p xs[i]with
   |true=>exact .inl ⟨i,by simp,by simp⟩
   |false=>
    simp only[Bool.false_or,Zo]
    exact ih (i+1) (by omega) (by omega)
 rw[C,zaI,C,zbR,X5]
 rcases hL _ 0 rfl (Nat.zero_le _)with⟨j,h1,h2⟩|⟨h1,h2⟩
 ·rw[List.drop_zero]at h1
  simp only[Int.natCast_zero]at h2
  rw[h2,h1]
  simp[Zy]
 ·rw[List.drop_zero]at h1
  simp only[Int.natCast_zero]at h2
  rw[h2,h1]
  simp[Zy]
theorem zl8{bs:List Bd}{ps rs:List Bool}{t:T}(h0:t.k=6→0≤t.h):W.call 173 [.ref 1 0,enc t] (stM bs ps rs)=some (.ret (.bool (zay rs t)),stM bs ps rs):=by
 have hC:W.call 173 [.ref 1 0,enc t] (stM bs ps rs)=Ze Tryz.prog cfg W 173 [.ref 1 0,enc t] (stM bs ps rs):=C ..
 unfold stM at hC⊢
 rw[hC,Zb t,zca,zcu,Zh]
 unfold zay
 by_cases h6:t.k=6
 ·have hh:=h0 h6
  by_cases hl:t.h<rs.length
  ·have hn:t.h.toNat<rs.length:=by omega
   have hii:((t.h.toNat:Nat):Int)=t.h:=by omega
   have hg:ZA (Xq rs) t.h= .bool rs[t.h.toNat]:=by have:=znj hn;rwa [hii]at this
   have hd:rs.getD t.h.toNat false=rs[t.h.toNat]:=by simp[List.getD_eq_getElem?_getD,hn]
   simp only[h6,beq_self_eq_true,Zr,hl,hh,decide_true,Bool.and_self,Zz,hg,Z0,hd,if_true,Bool.true_and]
   exact Zy rfl
  ·simp only[h6,beq_self_eq_true,Zr,hl,decide_false,Zo,if_true,Bool.false_and]
   exact Zy rfl
 ·have e6:(t.k==6)=false:=by simpa using h6
  by_cases h4:t.k=4
  ·have e:((t.args.length:Int)==0)=decide (t.args.length=0):=by
    rw[Bool.eq_iff_iff];simp
   have e64: ¬(4:Int)=6:=by decide
   have e64b:((4:Int)==6)=false:=by decide
   simp only[h4,e64b,Zo,beq_self_eq_true,Zr,e,decide_true,Bool.true_and,if_neg e64]
   exact Zy rfl
  ·have e4:(t.k==4)=false:=by simpa using h4
   simp only[e6,Zo,e4,h6,if_false,h4,decide_false,Bool.false_and]
   exact Zy rfl
end Go.Proofs.CL
namespace Go.Proofs.CL
open Go Go.AM Go.Ama
set_option maxRecDepth 100000
theorem zo4{B:Int}{t:T}(ht:okB B t):(∀x∈YC t,0≤x∧x≤B)∧(YC t).length≤t.size:=by
 have hS:=zgw (B:=B) t 0 [] 0 ht (zlk B)
 refine⟨fun x hx=>hS.all x ?_, ?_⟩
 ·unfold YC at hx
  exact(Qs _).mem_iff.1 hx
 ·unfold YC
  rw[(Qs _).length_eq]
  have:=hS.len
  omega
theorem J7{B:Int}(h0:0≤B)(hβ:ZT (B+360000000000000)){p t:T}{n:Int}{bs:List Bd}{ps rs:List Bool}(hp:okB B p)(hps:p.size≤1048576)(ht:t.size≤1048576)(hb:OkBds B bs):
  W.call 171 [.ref 1 0,enc p,enc t, .int n] (stM bs ps rs)=some (.ret (.int (ziI bs p t n)),stM bs ps rs):=by
 have hargs: ∀x∈p.args,okB B x:=fun x hx=>zbH hp hx
 have hsz: ∀x∈p.args,x.size≤1048576:=fun x hx=>by have:=zda hx;omega
 have hxl:p.args.length≤1048576:=by cases p;simp only[T.size,T.args]at hps⊢;have:=Zp (T.args (.mk ‹_› ‹_› ‹_›));simp only[T.args]at this;omega
 have hL: ∀(m i:Nat),p.args.length-i=m→i≤p.args.length→W.loop 171 3 [.int (i:Int), .fn 199 [] [.cptr none (.ref 1 0)], .vec .plain (some 3) (Zg p.args), .loc false (some 3) (.agg [.int t.k, .int t.h, .vec .plain (some 3) (Zg t.args)]), .int n, .cptr none (.ref 1 0), .loc false (some 3) (.agg [.int p.k, .int p.h, .vec .plain (some 3) (Zg p.args)]), .int p.args.length] (stM bs ps rs)=
   some (if(p.args.drop i).any (fun a=>(YC a).any (zfT bs))=true then(.ret,[.int 5],stM bs ps rs)else(.exit 0,[.loc false (some 3) (enc t), .int n, .cptr none (.ref 1 0), .loc false (some 3) (enc p)],stM bs ps rs)):=by
  intro m
  induction m with
  |zero=>
   intro i hm hi
   have:i=p.args.length:=by omega
   subst this
   rw[List.drop_length,L,Jn,←Zb,←Zb]
   simp
  |succ m ih=>
   intro i hm hi
   have hlt:i<p.args.length:=by omega
   have hlt':(i:Int)<p.args.length:=by omega
   have hw:IntKind.i64.wrap ((i:Int)+1)=((i+1:Nat):Int):=by rw[Zq ⟨by omega,by omega⟩];omega
   have hmem:=List.getElem_mem hlt
   have hm1:=(zju (B:=B) (by unfold ZT at hβ;omega) p.args[i] (hsz _ hmem) (hargs _ hmem)).p (h2:=by simp only[below];exact JI (fun _=>rfl) _)
   have hmb:=zo4 (hargs _ hmem)
   have hc:=zm1 (a:=[]) (b:=[.cptr none (.ref 1 0)]) zud (p:=zfT bs) (YC p.args[i]) (by have:=hsz _ hmem;omega) (st:=stM bs ps rs) (fun x hx=>zuc (hmb.1 x hx).1)
   have hc':W.call 200 [.vec .plain none ((YC p.args[i]).map V.int), .fn 199 [] [.cptr none (.ref 1 0)]] (stM bs ps rs)=_:=hc
   have hi1:=ih (i+1) (by omega) (by omega)
   rw[List.drop_eq_getElem_cons hlt,List.any_cons,L,Jn,hw,ZC hlt,Zh]
   simp only[hlt',Int.natCast_nonneg,decide_true,Bool.and_self,Zz,Zr,zbX,←Zb,hm1,Zf,YQ,hc',Z9,Z0]
   cases hq:(YC p.args[i]).any (zfT bs)with
   |true=>simp
   |false=>
    simp only[Bool.false_or,Zo]
    rw[←Zb,←Zb]at hi1
    exact hi1
 have h:=hL _ 0 rfl (Nat.zero_le _)
 simp only[Int.natCast_zero,List.drop_zero]at h
 have htold:=zw2 h0 hb
 have hr:=zxz (bs:=bs) (ps:=ps) (rs:=rs) (by have:=hb.len;omega)
 have hts:sizes (told bs)≤1099511627776:=by
  have: ∀l:List T,(∀x∈l,x.size≤4000)→sizes l≤4000*l.length:=by
   intro l
   induction l with
   |nil=>intro _;simp[sizes]
   |cons a l ih=>intro h;have:=ih fun x hx=>h x (by simp[hx]);have:=h a (by simp);simp only[sizes,List.length_cons];omega
  have h1:=this (told bs) (fun x hx=>Yu (htold x hx).1)
  rw[zeY]at h1
  have:=hb.len
  omega
 have hf:=(zdi (β:=B) h0 hβ (t:=p) (θ:=told bs) (n:=n) (by omega) hts (fun x hx _=>(htold x hx).2) (fun _=>hp)).p
 have hC:W.call 171 [.ref 1 0,enc p,enc t, .int n] (stM bs ps rs)=Ze Tryz.prog cfg W 171 [.ref 1 0,enc p,enc t, .int n] (stM bs ps rs):=C ..
 rw[hC]
 conv=>lhs;rw[Zb p,Zb t]
 unfold stM at h hr⊢
 rw[zdN,Zh,h]
 unfold ziI
 by_cases hany:p.args.any (fun a=>(YC a).any (zfT bs))=true
 ·simp only[hany,if_true,Zf,zkD,ZE,Z2,ZN]
  exact Zy rfl
 ·have hany':p.args.any (fun a=>(YC a).any (zfT bs))=false:=by simpa using hany
  have hgR: ∀{R:Type} (K:Res→Option R),Z3 [Res.row (some 4) (Yg bs),Res.box [V.row (some 4) 0 0 bs.length,V.vec .plain none (Xq ps),V.vec .plain none (Xq rs)]] 1 K=K (.box [V.row (some 4) 0 0 bs.length,V.vec .plain none (Xq ps),V.vec .plain none (Xq rs)]):=fun K=>rfl
  have hcv:Zt (AM.partOf [V.row (some 4) 0 0 bs.length,V.vec .plain none (Xq ps),V.vec .plain none (Xq rs)] 0 none)=V.row (some 4) 0 0 bs.length:=rfl
  have hol: ∀{R:Type} (v:V) (K:Bool→V→Option R),Yj (some 3) (.loc false (some 3) v) K=K false v:=fun v K=>by simp[Yj]
  simp only[hany',Bool.false_eq_true,if_false,Zf,Ji,show Nat.beq 0 0=true from rfl,Zr,ZE,hol,cond_false,zbX,Z2,zp3,ZN,hgR,zbx,List.length_cons,List.length_nil,Nat.zero_add,Nat.reduceAdd,Nat.reduceLeDiff,decide_true,Bool.and_self,Zz,hcv,JL,hr,Z9,YQ,←Zb,hf,Y1]
  by_cases he:(Yy p (told bs) n).2=0
  ·have hsame:=(zgk (Yy p (told bs) n).1 t (by
    have:=(zho (β:=B) h0 (fun x hx _=>(htold x hx).2) (fun _=>hp) hβ he).1
    have:=Yu this
    omega) (by omega)).p
   simp only[he,zbD,hsame,Zf,Z0]
   cases hs:(Yy p (told bs) n).1.same t with
   |true=>simp[Zy]
   |false=>simp[Zy]
  ·simp[he,Zy]
theorem zsb{B:Int}(h0:0≤B)(hβ:ZT (B+360000000000000))(hB2:B≤4611686018427380000){p t:T}{n:Int}{bs:List Bd}{ps rs:List Bool}(hp:okB B p)(hps:p.size≤900000)(ht:t.size≤900000)(hto:okB B t)(hb:OkBds B bs)(hl:ps.length=bs.length):
  W.call 133 [.ref 1 0,enc p,enc t, .int n] (stM bs ps rs)=some (.ret (.int (zhu ps rs p t n bs).2),stM (zhu ps rs p t n bs).1 ps rs):=by
 have hh0:0≤p.h:=by cases p;exact hp.1.1
 have hC:W.call 133 [.ref 1 0,enc p,enc t, .int n] (stM bs ps rs)=Ze Tryz.prog cfg W 133 [.ref 1 0,enc p,enc t, .int n] (stM bs ps rs):=C ..
 have hk:=J7 (n:=n) (ps:=ps) (rs:=rs) h0 hβ hp (by omega) (t:=t) (by omega) hb
 have hv:=zl8 (bs:=bs) (ps:=ps) (rs:=rs) (t:=t) (fun _=>by cases t;exact hto.1.1)
 have hxl:p.args.length≤900000:=by cases p;simp only[T.size,T.args]at hps⊢;have:=Zp (T.args (.mk ‹_› ‹_› ‹_›));simp only[T.args]at this;omega
 have hpa:=(zhs p.args n (by omega)).p
 have hvl:(Yf p.args n).1.length≤1048576:=by
  have: ∀(l:List T) (vs:List Int),(zbo n vs l).1.length≤vs.length+l.length:=by
   intro l
   induction l with
   |nil=>intro vs;simp[zbo]
   |cons a l ih=>
    intro vs
    unfold zbo
    split
    ·simp
    ·have:=ih (vs++[a.h]);simp at this⊢;omega
  have:=this p.args []
  unfold Yf
  simp at this
  omega
 have hinv:=(zqz (t:=t) (vars:=(Yf p.args n).1) (n:=n) ht (fun _=>Z6 (by omega) _ hto) hvl).p
 have hcv:Zt (AM.partOf [V.row (some 4) 0 0 bs.length,V.vec .plain none (Xq ps),V.vec .plain none (Xq rs)] 0 none)=V.row (some 4) 0 0 bs.length:=rfl
 rw[hC]
 conv=>lhs;rw[Zb p,Zb t]
 unfold stM at hk hv
 conv=>lhs;unfold stM
 rw[zek,←Zb,←Zb]
 unfold zhu
 by_cases hlt:(bs.length:Int)≤p.h
 ·have hlt':p.h≥(bs.length:Int):=hlt
  rw[if_pos hlt]
  simp only[hlt',decide_true,Zr]
  exact Zy rfl
 ·have hlt': ¬p.h≥(bs.length:Int):=hlt
  have hn:p.h.toNat<bs.length:=by omega
  have hnp:p.h.toNat<ps.length:=by omega
  have hlt2:p.h<(bs.length:Int):=by omega
  have hlt3:p.h<(ps.length:Int):=by omega
  have hii:((p.h.toNat:Nat):Int)=p.h:=by omega
  have hg:bs.getD p.h.toNat B0=bs[p.h.toNat]:=by simp[List.getD_eq_getElem?_getD,hn]
  have hgp:ps.getD p.h.toNat false=ps[p.h.toNat]:=by simp[List.getD_eq_getElem?_getD,hnp]
  have hgi:ZA (Xq ps) p.h= .bool ps[p.h.toNat]:=by have:=znj hnp;rwa [hii]at this
  rw[if_neg hlt,hg,hgp]
  simp only[hlt',decide_false,Zo,hh0,hlt2,decide_true,Bool.and_self,Bool.true_and,Zz,Nat.zero_add,Yp,hn,zcv hn,zwX]
  cases his:bs[p.h.toNat].is with
  |true=>
   simp only[Zr,hk,Zf,Z9,Z2,if_true]
   exact Zy rfl
  |false=>
   simp only[Zo,hpa,Zf,Y1,ZE,YQ,Z0,ZN,Bool.false_eq_true,if_false]
   cases hq:(Yf p.args n).2 with
   |false=>
    simp only[Bool.not_false,Zr,if_true]
    exact Zy rfl
   |true=>
    simp only[Bool.not_true,Zo,hinv,Zf,Y1,ZE,zbX,Z2,ZN,Bool.true_eq_false,if_false]
    by_cases he:(Xi t (Yf p.args n).1 n).2=0
    ·have hset:(.agg [V.bool true,V.int (Xi t (Yf p.args n).1 n).1.k,V.int (Xi t (Yf p.args n).1 n).1.h,V.vec .plain (some 3) (Zg (Xi t (Yf p.args n).1 n).1.args)])=zac ⟨true,(Xi t (Yf p.args n).1 n).1⟩:=rfl
     simp only[he,zbD,zcu,hlt3,hh0,decide_true,Bool.and_self,Zz,hgi,Z0,hset,ne_eq,not_true_eq_false,false_or]
     cases hpp:ps[p.h.toNat]with
     |true=>
      simp only[Zr,hv,Zf,Z9,Z0,true_and]
      cases hvv:zay rs t with
      |false=>
       simp only[Bool.not_false,Zr,if_true]
       exact Zy rfl
      |true=>
       have hgR: ∀{R:Type} (K:Res→Option R),Z3 [Res.row (some 4) (Yg bs),Res.box [V.row (some 4) 0 0 bs.length,V.vec .plain none (Xq ps),V.vec .plain none (Xq rs)]] 1 K=K (.box [V.row (some 4) 0 0 bs.length,V.vec .plain none (Xq ps),V.vec .plain none (Xq rs)]):=fun K=>rfl
       have hgR0: ∀{R:Type} (K:Res→Option R),Z3 [Res.row (some 4) (Yg bs),Res.box [V.row (some 4) 0 0 bs.length,V.vec .plain none (Xq ps),V.vec .plain none (Xq rs)]] 0 K=K (.row (some 4) (Yg bs)):=fun K=>rfl
       have hig:isGrow (zac ⟨true,(Xi t (Yf p.args n).1 n).1⟩)=false:=rfl
       simp only[Bool.not_true,Zo,Bool.true_eq_false,if_false,hgR,hgR0,zbx,List.length_cons,List.length_nil,Nat.zero_add,Nat.reduceAdd,Nat.reduceLeDiff,decide_true,Bool.and_self,Zz,hcv,JL,hh0,hlt2,zcX,hig,Bool.not_false,Yp,hn,List.set_cons_zero,zsL]
       exact Zy rfl
     |false=>
      have hig:isGrow (zac ⟨true,(Xi t (Yf p.args n).1 n).1⟩)=false:=rfl
      simp only[Zo,hh0,hlt2,decide_true,Bool.and_self,Zz,Nat.zero_add,hig,Bool.not_false,Bool.true_and,Yp,hn,zsL,Bool.false_eq_true,false_and,if_false]
      exact Zy rfl
    ·rw[if_pos (.inl he)]
     simp only[zuZ he]
     exact Zy rfl
end Go.Proofs.CL
namespace Go.Proofs.CL
open Go Go.AM Go.Ama
set_option maxRecDepth 100000
theorem zsc{B:Int}{ps rs:List Bool}{k h k2 h2:Int}{xs ys:List T}{n:Nat}(hx:xs.length≤1000000)(hn:n≤1000000)(hl:xs.length=ys.length)(hy: ∀y∈ys,okB B y)
  (ih: ∀x∈xs,∀y∈ys,∀(m:Nat) (bs:List Bd),m≤n+1→OkBds (B+1000) bs→ps.length=bs.length→W.call 84 [.ref 1 0,enc x,enc y, .int (m:Int)] (stM bs ps rs)=some (.ret (.int (X6 ps rs x y m bs).2),stM (X6 ps rs x y m bs).1 ps rs)) (b:Bool):
  ∀(m i:Nat) (e:Int) (bs:List Bd),xs.length-i=m→i≤xs.length→OkBds (B+1000) bs→ps.length=bs.length→
   W.loop 84 1000000 [.loc false (some 3) (.agg [.int k2, .int h2, .vec .plain (some 3) (Zg ys)]), .loc false (some 3) (.agg [.int k, .int h, .vec .plain (some 3) (Zg xs)]), .ref 1 0, .bool b, .int (n:Int), .int (i:Int), .int e, .int 0] (stM bs ps rs)=
    if e≠0 then some (.ret,[.int e],stM bs ps rs)else some (.ret,[.int (Qn ps rs b (xs.drop i) (ys.drop i) n bs).2],stM (Qn ps rs b (xs.drop i) (ys.drop i) n bs).1 ps rs):=by
 intro m
 induction m with
 |zero=>
  intro i e bs hm hi hb hp
  have:i=xs.length:=by omega
  subst this
  rw[List.drop_length,zg0,L,Qo,Zh]
  by_cases he:e=0
  ·subst he;simp
  ·simp[he]
 |succ m ihm=>
  intro i e bs hm hi hb hp
  have hlt:i<xs.length:=by omega
  have hlty:i<ys.length:=by omega
  have hlt':(i:Int)<xs.length:=by omega
  have hlty':(i:Int)<ys.length:=by omega
  have hw:IntKind.i64.wrap ((i:Int)+1)=((i+1:Nat):Int):=by rw[Zq ⟨by omega,by omega⟩];omega
  have hw1:IntKind.i64.wrap ((xs.length:Int)-1)=(xs.length:Int)-1:=Zq ⟨by omega,by omega⟩
  have hw2:IntKind.i64.wrap ((n:Int)+1)=((n+1:Nat):Int):=by rw[Zq ⟨by omega,by omega⟩];omega
  have hc0:=ih xs[i] (List.getElem_mem hlt) ys[i] (List.getElem_mem hlty) n bs (by omega) hb hp
  have hc1:=ih xs[i] (List.getElem_mem hlt) ys[i] (List.getElem_mem hlty) (n+1) bs (by omega) hb hp
  have hemp:(xs.drop (i+1)).isEmpty=decide (i+1=xs.length):=by
   rw[Bool.eq_iff_iff]
   simp only[List.isEmpty_iff,decide_eq_true_eq,List.drop_eq_nil_iff]
   omega
  rw[L,Qo,hw,ZC hlt,ZC hlty,Zh,Zh,hw1,hw2]
  by_cases he:e=0
  ·subst he
   have key: ∀(q:Nat),W.call 84 [.ref 1 0,enc xs[i],enc ys[i], .int (q:Int)] (stM bs ps rs)=some (.ret (.int (X6 ps rs xs[i] ys[i] q bs).2),stM (X6 ps rs xs[i] ys[i] q bs).1 ps rs)→(q:Int)=(if(b&&(xs.drop (i+1)).isEmpty)=true then(n:Int)+1 else n)→
     (Za (W.call 84 [V.ref 1 0,enc xs[i],enc ys[i],V.int (q:Int)] (stM bs ps rs)) fun r7=>Zx r7.fst (fun v8=>Zl v8 fun n9_1=>W.2 84 1000000 [V.loc false (some 3) (V.agg [V.int k2,V.int h2,V.vec .plain (some 3) (Zg ys)]),V.loc false (some 3) (V.agg [V.int k,V.int h,V.vec .plain (some 3) (Zg xs)]),V.ref 1 0,V.bool b,V.int n,V.int ((i+1:Nat):Int),V.int n9_1,V.int 0] r7.snd) fun p10=>none)=
      some (.ret,[.int (Qn ps rs b (xs.drop i) (ys.drop i) n bs).2],stM (Qn ps rs b (xs.drop i) (ys.drop i) n bs).1 ps rs):=by
    intro q hcq hq
    have hok:=zhv (B:=B) (ps:=ps) (rs:=rs) xs[i] ys[i] (q:Int) bs (hy _ (List.getElem_mem hlty)) hb
    have hi1:=ihm (i+1) (X6 ps rs xs[i] ys[i] q bs).2 (X6 ps rs xs[i] ys[i] q bs).1 (by omega) (by omega) hok.1 (by rw[hok.2];exact hp)
    rw[hcq]
    simp only[Zf,Z9,Z2]
    rw[List.drop_eq_getElem_cons hlt,List.drop_eq_getElem_cons hlty,zcw,←hq]
    by_cases hz:(X6 ps rs xs[i] ys[i] q bs).2≠0
    ·rw[if_pos hz]at hi1⊢
     exact hi1
    ·rw[if_neg hz]at hi1⊢
     exact hi1
   simp only[hlt',hlty',Int.natCast_nonneg,decide_true,Bool.and_self,Zz,Zr,zbX,←Zb,beq_self_eq_true,ne_eq,not_true_eq_false,if_false]
   cases b with
   |false=>
    simp only[Zo]
    exact key n hc0 (by simp)
   |true=>
    simp only[Zr]
    by_cases hl2:i+1=xs.length
    ·have e:((i:Int)==(xs.length:Int)-1)=true:=by simp;omega
     rw[e,Zr]
     exact key (n+1) hc1 (by rw[hemp];simp[hl2])
    ·have e:((i:Int)==(xs.length:Int)-1)=false:=by simp;omega
     rw[e,Zo]
     exact key n hc0 (by rw[hemp];simp[hl2])
  ·have e0:(e==0)=false:=by simpa using he
   rw[if_pos he]
   simp only[hlt',decide_true,Zr,e0,Zo]
theorem zsd{B:Int}(h0:0≤B)(hβ:ZT (B+1000+360000000000000))(hB2:B+1000≤4611686018427380000){ps rs:List Bool}: ∀(N:Nat) (p t:T) (n:Nat) (bs:List Bd),p.size≤N→n+p.size≤900000→t.size≤900000→okB B p→okB B t→OkBds (B+1000) bs→ps.length=bs.length→
  W.call 84 [.ref 1 0,enc p,enc t, .int (n:Int)] (stM bs ps rs)=some (.ret (.int (X6 ps rs p t n bs).2),stM (X6 ps rs p t n bs).1 ps rs):=by
 intro N
 induction N with
 |zero=>intro p t n bs h;have:=Xo p;omega
 |succ N ih=>
  intro p t n bs hN hs hts hp ht hb hl
  have hC:W.call 84 [.ref 1 0,enc p,enc t, .int (n:Int)] (stM bs ps rs)=Ze Tryz.prog cfg W 84 [.ref 1 0,enc p,enc t, .int (n:Int)] (stM bs ps rs):=C ..
  have hmeta:=zsb (B:=B+1000) (n:=(n:Int)) (ps:=ps) (rs:=rs) (by omega) hβ hB2 (Z6 (by omega) p hp) (by omega) (t:=t) hts (Z6 (by omega) t ht) hb hl
  have hst:(stM bs ps rs).length=2:=rfl
  obtain⟨k,h,xs⟩:=p
  obtain⟨k2,h2,ys⟩:=t
  obtain⟨⟨b1,b2⟩,b3,b4⟩:=hp
  obtain⟨_,_,c4⟩:=ht
  simp only[T.size]at hN hs hts
  have hxl:=Zp xs
  rw[hC]
  show Ze Tryz.prog cfg W 84 [.ref 1 0, .agg [.int k, .int h, .vec .plain (some 3) (Zg xs)], .agg [.int k2, .int h2, .vec .plain (some 3) (Zg ys)], .int (n:Int)] (stM bs ps rs)=_
  rw[zej,Zh,Zh,zg1,hst]
  have he: ∀(k h:Int) (l:List T),V.agg [V.int k,V.int h,V.vec .plain (some 3) (Zg l)]=enc (.mk k h l):=fun _ _ _=>rfl
  by_cases h6:k=6
  ·subst h6
   rw[if_pos rfl]
   simp only[beq_self_eq_true,Zr,he,hmeta,Zf,Z9,Z2]
   exact Zy rfl
  ·have e6:(k==6)=false:=by simpa using h6
   rw[if_neg h6]
   by_cases hk:k=k2
   ·subst hk
    by_cases hh:h=h2
    ·subst hh
     by_cases hlen:xs.length=ys.length
     ·rw[if_neg (by simp[T.k,T.h,T.args,hlen])]
      have hlz:((xs.length:Int) !=(ys.length:Int))=false:=by simp[hlen]
      have hchild: ∀x∈xs,∀y∈ys,∀(m:Nat) (bs:List Bd),m≤n+1→OkBds (B+1000) bs→ps.length=bs.length→W.call 84 [.ref 1 0,enc x,enc y, .int (m:Int)] (stM bs ps rs)=some (.ret (.int (X6 ps rs x y m bs).2),stM (X6 ps rs x y m bs).1 ps rs):=by
       intro x hx y hy m bs hm hb hl
       have:=size_le hx
       have:=size_le hy
       exact ih x y m bs (by omega) (by omega) (by omega) ((Xa _ _).1 b4 x hx) ((Xa _ _).1 c4 y hy) hb hl
      show _=some (Out.ret (V.int (Qn ps rs (bindsB k) xs ys n bs).2),stM (Qn ps rs (bindsB k) xs ys n bs).1 ps rs)
      simp only[e6,Zo,bne_self_eq_false,hlz]
      match xs,ys,hlen,hxl,hchild,hlz,hs,c4 with
      |[],ys,hlen,_,_,_,_,_=>
       rw[zg0]
       have: ¬((0:Int)<(([]:List T).length:Int)):=by simp
       simp only[this,decide_false,Zo]
       by_cases h1:k=1
       ·subst h1
        rw[show((1:Int)==1)=true from rfl,Zr]
        exact Zy rfl
       ·have e1:(k==1)=false:=by simpa using h1
        simp only[e1,Zo]
        exact Zy rfl
      |x::xs,[],hlen,_,_,_,_,_=>simp at hlen
      |x::xs,y::ys,hlen,hxl,hchild,hlz,hs,c4=>
       have hpos:(0:Int)<((x::xs).length:Int):=by simp only[List.length_cons];omega
       have hpos':(0:Int)<((y::ys).length:Int):=by simp only[List.length_cons];omega
       have hx0:ZA (Zg (x::xs)) 0=enc x:=rfl
       have hy0:ZA (Zg (y::ys)) 0=enc y:=rfl
       have hw1:IntKind.i64.wrap (((x::xs).length:Int)-1)=((x::xs).length:Int)-1:=Zq ⟨by omega,by omega⟩
       have hw2:IntKind.i64.wrap ((n:Int)+1)=((n+1:Nat):Int):=by rw[Zq ⟨by omega,by omega⟩];omega
       have hc0:=hchild x (by simp) y (by simp) n bs (by omega) hb hl
       have hc1:=hchild x (by simp) y (by simp) (n+1) bs (by omega) hb hl
       have hcys: ∀z∈y::ys,okB B z:=(Xa _ _).1 c4
       have key: ∀(b:Bool) (q:Nat),b=bindsB k→W.call 84 [.ref 1 0,enc x,enc y, .int (q:Int)] (stM bs ps rs)=some (.ret (.int (X6 ps rs x y q bs).2),stM (X6 ps rs x y q bs).1 ps rs)→(q:Int)=(if(bindsB k&&xs.isEmpty)=true then(n:Int)+1 else n)→
         (Za (W.call 84 [V.ref 1 0,enc x,enc y,V.int (q:Int)] (stM bs ps rs)) fun r68=>Zx r68.fst (fun v69=>Zl v69 fun n70=>Za
          (W.loop 84 1000000 [V.loc false (some 3) (V.agg [V.int k,V.int h,V.vec .plain (some 3) (Zg (y::ys))]),V.loc false (some 3) (V.agg [V.int k,V.int h,V.vec .plain (some 3) (Zg (x::xs))]),V.ref 1 0,V.bool b,V.int n,V.int 1,V.int n70,V.int 0] r68.snd) fun r71=>Y8 r71.fst (Zd r71.snd.fst fun v72 c73=>Zl v72 fun n74=>Zn
          c73 (Yt 2 (V.int n74) r71.snd.snd)) (Zd r71.snd.fst fun v75 c76=>Zl v75 fun n77=>Zn c76 (Yt 2 (V.int n77) r71.snd.snd)) (fun i78=>none) fun v79=>none) fun p80=>none)=
          some (Out.ret (V.int (Qn ps rs (bindsB k) (x::xs) (y::ys) n bs).2),stM (Qn ps rs (bindsB k) (x::xs) (y::ys) n bs).1 ps rs):=by
        intro b q hbk hcq hq
        subst hbk
        have hok:=zhv (B:=B) (ps:=ps) (rs:=rs) x y (q:Int) bs (hcys y (by simp)) hb
        have hloop:=zsc (B:=B) (ps:=ps) (rs:=rs) (k:=k) (h:=h) (k2:=k) (h2:=h) (n:=n) (xs:=x::xs) (ys:=y::ys) (by omega) (by omega) hlen hcys hchild (bindsB k) _ 1 (X6 ps rs x y q bs).2 (X6 ps rs x y q bs).1 rfl (by simp) hok.1 (by rw[hok.2];exact hl)
        simp only[Int.natCast_one,List.drop_succ_cons,List.drop_zero]at hloop
        rw[hcq]
        simp only[Zf,Z9,Z2]
        rw[hloop,zcw,←hq]
        by_cases hz:(X6 ps rs x y q bs).2≠0
        ·rw[if_pos hz,if_pos hz]
         simp only[Zf,zkD,ZE,Z2,ZN]
         exact Zy rfl
        ·rw[if_neg hz,if_neg hz]
         simp only[Zf,zkD,ZE,Z2,ZN]
         exact Zy rfl
       simp only[hpos,hpos',decide_true,Zr,Bool.and_self,Zz,hx0,hy0,zbX,←Zb,hw1,hw2]
       have hlast:((0:Int)==((x::xs).length:Int)-1)=xs.isEmpty:=by
        rw[Bool.eq_iff_iff]
        simp only[beq_iff_eq,List.length_cons,List.isEmpty_iff]
        constructor
        ·intro h;exact List.length_eq_zero_iff.1 (by omega)
        ·rintro rfl;simp
       rw[hlast]
       by_cases h1:k=1
       ·subst h1
        simp only[beq_self_eq_true,Zr]
        cases hem:xs.isEmpty with
        |true=>rw[Zr];exact key true (n+1) rfl hc1 (by rw[hem];simp[bindsB])
        |false=>rw[Zo];exact key true n rfl hc0 (by rw[hem];simp[bindsB])
       ·have e1:(k==1)=false:=by simpa using h1
        have eb:(k==3)=bindsB k:=by
         unfold bindsB
         rw[Bool.eq_iff_iff]
         simp[h1]
        simp only[e1,Zo]
        by_cases h3:k=3
        ·subst h3
         simp only[beq_self_eq_true,Zr]
         cases hem:xs.isEmpty with
         |true=>rw[Zr];exact key _ (n+1) rfl hc1 (by rw[hem];simp[bindsB])
         |false=>rw[Zo];exact key _ n rfl hc0 (by rw[hem];simp[bindsB])
        ·have e3:(k==3)=false:=by simpa using h3
         rw[e3]at eb⊢
         rw[Zo]
         exact key false n eb hc0 (by rw[←eb];simp)
     ·have hlz:((xs.length:Int) !=(ys.length:Int))=true:=by simp;omega
      rw[if_pos (.inr (.inr hlen))]
      simp only[e6,Zo,bne_self_eq_false,hlz,Zr]
      exact Zy rfl
    ·have hhz:(h !=h2)=true:=by simpa using hh
     rw[if_pos (.inr (.inl hh))]
     simp only[e6,Zo,bne_self_eq_false,hhz,Zr]
     exact Zy rfl
   ·have hkz:(k !=k2)=true:=by simpa using hk
    rw[if_pos (.inl hk)]
    simp only[e6,Zo,hkz,Zr]
    exact Zy rfl
end Go.Proofs.CL
namespace Go.Proofs.CL
open Go Go.AM Go.Ama
set_option maxRecDepth 100000
theorem zj2{g:Nat}{a b:List V}(hp:cfg.pure g=true){p:Bd→Bool}(xs:List Bd)(hs:xs.length≤1099511627776){st:St}(hg: ∀x∈xs,Zj W g (a++[zac x]++b)=some (.bool (p x))):
  W.call 83 [.vec .plain (some 4) (Yg xs), .fn g a b] st=some (.ret (.bool (xs.any p)),st):=by
 have hL: ∀(m i:Nat),xs.length-i=m→i≤xs.length→(∃j:Nat,(xs.drop i).any p=true∧W.loop 132 2 [.int (i:Int), .vec .plain (some 4) (Yg xs), .fn g a b, .int xs.length] st=some (.ret,[.int (j:Int)],st))∨((xs.drop i).any p=false∧W.loop 132 2 [.int (i:Int), .vec .plain (some 4) (Yg xs), .fn g a b, .int xs.length] st=some (.exit 0,[],st)):=by
  intro m
  induction m with
  |zero=>
   intro i hm hi
   have:i=xs.length:=by omega
   subst this
   refine .inr ⟨by simp, ?_⟩
   rw[L,Xg]
   simp
  |succ m ih=>
   intro i hm hi
   have hlt:i<xs.length:=by omega
   have hlt':(i:Int)<xs.length:=by omega
   have hw:IntKind.i64.wrap ((i:Int)+1)=((i+1:Nat):Int):=by rw[Zq ⟨by omega,by omega⟩];omega
   have h1:=hg _ (List.getElem_mem hlt)
   have he: ∀x:Bd,V.agg [V.bool x.is,V.int x.t.k,V.int x.t.h,V.vec .plain (some 3) (Zg x.t.args)]=zac x:=fun _=>rfl
   rw[List.drop_eq_getElem_cons hlt,List.any_cons,L,Xg,hw,zjv hlt,Yp,hp]
   simp only[hlt',Int.natCast_nonneg,decide_true,Bool.and_self,Zz,Zr,Zo,zv1,he,h1,Zf,Z9,Z0]
   cases hq:p xs[i]with
   |true=>exact .inl ⟨i,by simp,by simp⟩
   |false=>
    simp only[Bool.false_or,Zo]
    exact ih (i+1) (by omega) (by omega)
 rw[C,QJ,C,Js,Yp]
 rcases hL _ 0 rfl (Nat.zero_le _)with⟨j,h1,h2⟩|⟨h1,h2⟩
 ·rw[List.drop_zero]at h1
  simp only[Int.natCast_zero]at h2
  rw[h2,h1]
  simp[Zy]
 ·rw[List.drop_zero]at h1
  simp only[Int.natCast_zero]at h2
  rw[h2,h1]
  simp[Zy]
theorem zx0:((Tryz.prog.info? 100).map (·.bytes)).getD 0=48:=by kernel_rfl
theorem zwY{n:Nat}(h:n≤1099511627776):roomFor Tryz.prog 100 n=true:=by
 unfold roomFor
 rw[zx0]
 simp only[Bool.and_eq_true,decide_eq_true_eq]
 omega
theorem zq6:cfg.pure 81=true:=by kernel_rfl
theorem zq7:cfg.pure 86=true:=by kernel_rfl
theorem zq8(b:Bd)(hs:b.t.size≤1099511627776):Ev 81 [zac b] (.bool (b.is&& !may b.t)):=by
 have h1:=(X8 b.t hs).p
 unfold Ev
 show W.call 81 [.agg [.bool b.is, .int b.t.k, .int b.t.h, .vec .plain (some 3) (Zg b.t.args)]] []=_
 rw[C,zjI,←Zb,h1]
 cases b.is<;>simp
theorem zq9(b:Bd):Ev 86 [zac b] (.bool (!b.is)):=by
 unfold Ev
 show W.call 86 [.agg [.bool b.is, .int b.t.k, .int b.t.h, .vec .plain (some 3) (Zg b.t.args)]] []=_
 rw[C,zjJ]
theorem zse{bs:List Bd}{ps rs:List Bool}(hl:bs.length≤1048576)(hs: ∀b∈bs,b.t.size≤1048576): ∀(m i:Nat),bs.length-i=m→i≤bs.length→
  W.loop 27 10 [.int (i:Int), .ref 1 0, .int bs.length] (stM bs ps rs)=some (.exit 0,[.ref 1 0],stM bs ps rs):=by
 intro m
 induction m with
 |zero=>
  intro i hm hi
  have:i=bs.length:=by omega
  subst this
  unfold stM
  rw[L,zcx]
  simp
 |succ m ih=>
  intro i hm hi
  have hlt:i<bs.length:=by omega
  have hlt':(i:Int)<bs.length:=by omega
  have hw:IntKind.i64.wrap ((i:Int)+1)=((i+1:Nat):Int):=by rw[Zq ⟨by omega,by omega⟩];omega
  have hi1:=ih (i+1) (by omega) (by omega)
  have ho:=(ziz bs[i].t (by have:=hs _ (List.getElem_mem hlt);omega)).p
  have hl1:i<(Yg bs).length:=by rw[Yp];exact hlt
  have hc: ∀{R:Type} (K:List V→Option R),YP (zac bs[i]) K=K [.bool bs[i].is, .int bs[i].t.k, .int bs[i].t.h, .vec .plain (some 3) (Zg bs[i].t.args)]:=fun K=>rfl
  have hc2: ∀{R:Type} (a:Bool) (t:T) (K:Int→Int→List V→Option R),onCells (R:=R) [CT.int,CT.int,CT.slice (some 3)] (List.take 3 (List.drop 1 [V.bool a, .int t.k, .int t.h, .vec .plain (some 3) (Zg t.args)])) K=K t.k t.h (Zg t.args):= @fun R a t K=>by
   show onCells (R:=R) [CT.int,CT.int,CT.slice (some 3)] [.int t.k, .int t.h, .vec .plain (some 3) (Zg t.args)] K=_
   simp
  have hset:(Yg bs).set i (V.agg (setCells [V.bool bs[i].is, .int bs[i].t.k, .int bs[i].t.h, .vec .plain (some 3) (Zg bs[i].t.args)] 1 [.int bs[i].t.k, .int bs[i].t.h, .vec .plain (some 3) (Zg bs[i].t.args)]))=Yg bs:=by
   have:(V.agg (setCells [V.bool bs[i].is, .int bs[i].t.k, .int bs[i].t.h, .vec .plain (some 3) (Zg bs[i].t.args)] 1 [.int bs[i].t.k, .int bs[i].t.h, .vec .plain (some 3) (Zg bs[i].t.args)]))=zac bs[i]:=rfl
   rw[this,zlu]
   simp
  unfold stM at hi1⊢
  rw[L,zcx,hw]
  simp only[hlt',Int.natCast_nonneg,decide_true,Bool.and_self,Bool.true_and,Zz,Zr,Nat.zero_add,Int.toNat_natCast,hl1,zcv hlt,hc,hc2,←Zb,ho,Zf,zbX]
  have hig:isGrow (enc bs[i].t)=false:=by rw[Zb];rfl
  rw[hig]
  simp only[Bool.not_false,Zz,hset]
  exact hi1
theorem zsf{B:Int}(h0:0≤B)(hβ:ZT (B+1000+360000000000000))(hB2:B+1000≤4611686018427380000){p t:T}{n:Int}{bs:List Bd}{ps rs:List Bool}(hps:p.size≤1048576)(hts:t.size≤1048576)(hp:may p=true→okB B p)(ht:may t=true→okB B t)(hbl:bs.length≤1048576)(hbs: ∀b∈bs,b.t.size≤1048576)(hb: ∀b∈bs,b.is=true→may b.t=true→okB (B+1000) b.t):
  Ev 27 [enc p,enc t, .int n, .vec .plain (some 4) (Yg bs), .vec .plain none (Xq ps), .vec .plain none (Xq rs)] (.tup [.vec .plain (some 4) (Yg (zls p t n bs ps rs).1), .int (zls p t n bs ps rs).2]):=by
 have h1:=(X8 p (by omega)).p
 have h2:=(X8 t (by omega)).p
 have h3:=zj2 (a:=[]) (b:=[]) zq6 (p:=fun b=>b.is&& !may b.t) bs (by omega) (st:=[]) (fun x hx=>(zq8 x (by have:=hbs x hx;omega)).p (h1:=by simp[Zm,zeX]))
 have hz:Yg []=[]:=rfl
 unfold Ev zls
 rw[C,Zb p,Zb t,zmz,←Zb,←Zb,h1,h2,Yp,zcu]
 simp only[Zf,Z0]
 cases m1:may p with
 |false=>simp[hz]
 |true=>
  cases m2:may t with
  |false=>simp[hz]
  |true=>
   by_cases c1:n<0
   ·simp[c1,hz]
   by_cases c2:1000<n
   ·have:n>1000:=c2
    simp[c1,c2,hz]
   by_cases c3:200<bs.length
   ·have:(bs.length:Int)>200:=by omega
    simp[c1,c2,c3,this,hz]
   have c3': ¬(bs.length:Int)>200:=by omega
   by_cases c4:bs.length=ps.length
   ·cases c5:bs.any (fun b=>b.is&& !may b.t)with
    |true=>simp[c1,c2,c3,c3',c4,h3,c5,hz]
    |false=>
     have hok:OkBds (B+1000) bs:=⟨by omega,fun b hb2 hi=>by
      have:=List.any_eq_false.1 c5 b hb2
      have hm:may b.t=true:=by simpa[hi]using this
      exact⟨hm,hb b hb2 hi hm⟩,hbs⟩
     obtain⟨m,rfl⟩:=Int.eq_ofNat_of_zero_le (show 0≤n by omega)
     have hps2:=Yu m1
     have hts2:=Yu m2
     have hn:=zsd (ps:=ps) (rs:=rs) h0 hβ hB2 p.size p t m bs (Nat.le_refl _) (by omega) (by omega) (hp m1) (ht m2) hok c4.symm
     have hno:=zhv (B:=B) (ps:=ps) (rs:=rs) p t (m:Int) bs (ht m2) hok
     have hr:roomFor Tryz.prog 100 bs.length=true:=zwY (by omega)
     have hrep: ∀(es:List V),es.length=bs.length→List.take 0 es++List.take (min bs.length bs.length) (Yg bs)++List.drop (min bs.length bs.length) es=Yg bs:=by
      intro es he
      have e1:List.take bs.length (Yg bs)=Yg bs:=List.take_of_length_le (by rw[Yp];exact Nat.le_refl _)
      have e2:List.drop bs.length es=[]:=List.drop_of_length_le (by omega)
      rw[Nat.min_self,e1,e2]
      simp
     have hcv:Zt (AM.partOf [V.row (some 4) 0 0 bs.length,V.vec .plain none (Xq ps),V.vec .plain none (Xq rs)] 0 none)=V.row (some 4) 0 0 bs.length:=rfl
     have c2': ¬(m:Int)>1000:=c2
     have c4z:((bs.length:Int) !=(ps.length:Int))=false:=by simp[c4]
     have hrow:[Res.row (some 4) (List.replicate bs.length (V.agg [V.bool false,V.int 0,V.int 0,V.vec .plain (some 3) []]))]++[Res.box [V.row (some 4) 0 0 bs.length,V.vec .plain none (Xq ps),V.vec .plain none (Xq rs)]]=[Res.row (some 4) (List.replicate bs.length (V.agg [V.bool false,V.int 0,V.int 0,V.vec .plain (some 3) []])),Res.box [V.row (some 4) 0 0 bs.length,V.vec .plain none (Xq ps),V.vec .plain none (Xq rs)]]:=rfl
     have hlr:(List.replicate bs.length (V.agg [V.bool false,V.int 0,V.int 0,V.vec .plain (some 3) []])).length=bs.length:=List.length_replicate
     rw[if_neg (by simp[c1,c2,c4];omega)]
     simp only[Bool.not_true,Zo,c1,c2',c3',decide_false,c4z,h3,Zf,Z9,Z0,c5,Int.natCast_nonneg,decide_true,Bool.and_self,Bool.true_and,Bool.and_true,Int.toNat_natCast,Zz,List.nil_append,List.length_cons,List.length_nil,Nat.zero_add,hr,hrow]
     have g1: ∀{R:Type} (a b:Res) (K:Res→Option R),Z3 [a,b] 1 K=K b:=fun a b K=>rfl
     have g0: ∀{R:Type} (a b:Res) (K:Res→Option R),Z3 [a,b] 0 K=K a:=fun a b K=>rfl
     simp only[g1,g0,zbx,List.length_cons,List.length_nil,Nat.zero_add,Nat.reduceAdd,Nat.reduceLeDiff,decide_true,Zz,hcv,JL,zcX,hlr,Nat.le_refl,Bool.and_self,List.set_cons_zero,hrep _ hlr]
     rw[show W.call 84 [V.ref 1 0,enc p,enc t,V.int (m:Int)] [Res.row (some 4) (Yg bs),Res.box [V.row (some 4) 0 0 bs.length,V.vec .plain none (Xq ps),V.vec .plain none (Xq rs)]]=_ from hn]
     simp only[Zf,Z9,Z2]
     generalize X6 ps rs p t (m:Int) bs=r at hno⊢
     by_cases hz2:r.2=0
     ·have hlp:=zse (bs:=r.1) (ps:=ps) (rs:=rs) (by rw[hno.2];omega) hno.1.size _ 0 rfl (Nat.zero_le _)
      have hcv2:Zt (AM.partOf [V.row (some 4) 0 0 r.1.length,V.vec .plain none (Xq ps),V.vec .plain none (Xq rs)] 0 none)=V.row (some 4) 0 0 r.1.length:=rfl
      have hgs1: ∀{R:Type} (K:Res→Option R),Z3 (stM r.1 ps rs) 1 K=K (.box [V.row (some 4) 0 0 r.1.length,V.vec .plain none (Xq ps),V.vec .plain none (Xq rs)]):=fun K=>rfl
      have hgs0: ∀{R:Type} (K:Res→Option R),Z3 (stM r.1 ps rs) 0 K=K (.row (some 4) (Yg r.1)):=fun K=>rfl
      simp only[Int.natCast_zero]at hlp
      have htk:List.take r.1.length (Yg r.1)=Yg r.1:=List.take_of_length_le (by rw[Yp];exact Nat.le_refl _)
      rw[if_neg (by simp[hz2])]
      simp only[hz2,zbD,hgs1,hgs0,zbx,List.length_cons,List.length_nil,Nat.zero_add,Nat.reduceAdd,Nat.reduceLeDiff,decide_true,Zz,hcv2,JL,hlp,Zf,Ji,show Nat.beq 0 0=true from rfl,Zr,ZE,zt0,ZN,zcX,Yp,Nat.le_refl,Bool.and_self,List.drop_zero,htk]
      simp[below,Zm,Zu,zad]
     ·rw[if_pos hz2]
      simp[hz2,hz]
   ·have:((bs.length:Int) !=(ps.length:Int))=true:=by simp;omega
    simp[c1,c2,c3,c3',c4,this,hz]
theorem zsg{bs:List Bd}(hl:bs.length≤1048576):Ev 29 [.vec .plain (some 4) (Yg bs)] (.tup [.vec .plain (some 3) (Zg (zlt bs).1), .bool (zlt bs).2]):=by
 have h3:=zj2 (a:=[]) (b:=[]) zq7 (p:=fun b=> !b.is) bs (by omega) (st:=[]) (fun x hx=>(zq9 x).p (h1:=by simp[Zm,zeX]))
 have h4:=zub (bs:=bs) hl
 unfold Ev zlt
 rw[C,zm0,h3]
 simp only[Zf,Z9,Z0]
 cases bs.any (fun b=> !b.is)with
 |true=>simp
 |false=>
  simp only[Zo,h4,Zf,Z9,YQ,Bool.false_eq_true,if_false]
  simp[below,Zm,Zu,XZ]
end Go.Proofs.CL
namespace Go.Proofs.CL
open Go Go.AM
set_option maxRecDepth 20000
theorem zjL(O:Oracle)(l0:(List V))(l1:(List V))(s2:ByteArray)(l3:(List V))(l4:(List V))(l5:(List V))(n6:Int)(n7:Int)(l8:(List V))(l9:(List V))(n10:Int)(n11:Int)(l12:(List V))(b13:Bool)(l14:(List V))(s15:ByteArray)(l16:(List V))(l17:(List V))(l18:(List V))(n19:Int)(n20:Int)(l21:(List V))(l22:(List V))(n23:Int)(n24:Int)(l25:(List V))(b26:Bool)(l27:(List V))(n28:Int)(l29:(List V))(l30:(List V))(n31:Int)(n32:Int)(l33:(List V)):Ze Tryz.prog cfg O 19 [.vec .plain (some 4) l0, .vec .plain (some 5) l1, .agg [.str s2, .vec .plain (some 3) l3, .vec .plain (some 5) l4, .vec .plain (some 3) l5, .int n6, .int n7, .vec .plain (some 3) l8, .vec .plain (some 3) l9, .int n10, .int n11, .vec .plain (some 3) l12, .bool b13, .vec .plain (some 9) l14], .agg [.str s15, .vec .plain (some 3) l16, .vec .plain (some 5) l17, .vec .plain (some 3) l18, .int n19, .int n20, .vec .plain (some 3) l21, .vec .plain (some 3) l22, .int n23, .int n24, .vec .plain (some 3) l25, .bool b26, .vec .plain (some 9) l27], .agg [.int n28, .vec .plain (some 3) l29, .vec .plain (some 3) l30, .int n31, .int n32, .vec .plain (some 3) l33]] []=
 Za (O.call 40 [V.vec .plain none [V.fn 66 [] [V.cptr (some 6) (V.agg [V.int n28,V.vec .plain (some 3) l29,V.vec .plain (some 3) l30,V.int n31,
 V.int n32,V.vec .plain (some 3) l33])],V.fn 67 [] [V.cptr (some 13) (V.agg [V.str s15,V.vec .plain (some 3) l16,V.vec .plain (some 5) l17,V.vec .plain (some 3)
 l18,V.int n19,V.int n20,V.vec .plain (some 3) l21,V.vec .plain (some 3) l22,V.int n23,V.int n24,V.vec .plain (some 3) l25,V.bool b26,V.vec .plain (some 9) l27]),V.cptr
 (some 6) (V.agg [V.int n28,V.vec .plain (some 3) l29,V.vec .plain (some 3) l30,V.int n31,V.int n32,V.vec .plain (some 3) l33]),V.cptr (some 13) (V.agg [V.str s2,V.vec
 .plain (some 3) l3,V.vec .plain (some 5) l4,V.vec .plain (some 3) l5,V.int n6,V.int n7,V.vec .plain (some 3) l8,V.vec .plain (some 3) l9,V.int n10,V.int n11,V.vec .plain
 (some 3) l12,V.bool b13,V.vec .plain (some 9) l14])],V.fn 68 [] [V.cptr none (V.vec .plain (some 4) l0),V.cptr none (V.vec .plain (some 5) l1),V.cptr (some 6)
 (V.agg [V.int n28,V.vec .plain (some 3) l29,V.vec .plain (some 3) l30,V.int n31,V.int n32,V.vec .plain (some 3) l33]),V.cptr (some 13) (V.agg [V.str s15,V.vec .plain (some
 3) l16,V.vec .plain (some 5) l17,V.vec .plain (some 3) l18,V.int n19,V.int n20,V.vec .plain (some 3) l21,V.vec .plain (some 3) l22,V.int n23,V.int n24,V.vec .plain (some
 3) l25,V.bool b26,V.vec .plain (some 9) l27])],V.fn 69 [] [V.cptr none (V.vec .plain (some 4) l0),V.cptr none (V.vec .plain (some 5) l1),V.cptr (some 6) (V.agg
 [V.int n28,V.vec .plain (some 3) l29,V.vec .plain (some 3) l30,V.int n31,V.int n32,V.vec .plain (some 3) l33]),V.cptr (some 13) (V.agg [V.str s15,V.vec .plain (some 3) l16,
 V.vec .plain (some 5) l17,V.vec .plain (some 3) l18,V.int n19,V.int n20,V.vec .plain (some 3) l21,V.vec .plain (some 3) l22,V.int n23,V.int n24,V.vec .plain (some 3) l25,
 V.bool b26,V.vec .plain (some 9) l27])]]] []) fun r1=>Zx r1.fst (fun v2=>Zl v2 fun n3=>bc (n3 !=0) (some (Out.ret (V.tup [V.agg [V.vec .plain (some 3) [],V.int 0,
 V.int 0,V.vec .plain (some 3) [],V.bool false],V.int n3]),[])) (Za (Zj O 70 [V.vec .plain (some 3) l29,V.vec .plain (some 3) l22,V.agg [V.int n23,V.int
 n24,V.vec .plain (some 3) l25],V.vec .plain (some 3) l30]) fun r4=>ZG r4 fun c5=>Zd c5 fun v6 c7=>Zc [CT.slice (some 3),CT.int,CT.int,CT.slice (some 3),
 CT.bool] v6 fun l8 n9 n10 l11 b12=>Zd c7 fun v13 c14=>Zl v13 fun n15=>Zn c14 (gd (below 0 (V.tup [V.agg [V.vec .plain (some 3) l8,V.int n9,V.int n10,V.vec
 .plain (some 3) l11,V.bool b12],V.int n15])&&Zu 0 []) (some (Out.ret (V.tup [V.agg [V.vec .plain (some 3) l8,V.int n9,V.int n10,V.vec .plain (some 3) l11,V.bool b12],
 V.int n15]),[]))))) fun p16=>none:=by kernel_rfl
theorem zl9(O:Oracle)(l0:(List V))(st:St):Ze Tryz.prog cfg O 40 [.vec .plain none l0] st=
 Za (O.loop 40 2 [V.int 0,V.vec .plain none l0,V.int (↑l0.length:Int)] st) fun r1=>Y8 r1.fst none (Zd r1.snd.fst fun v2 c3=>Zl v2 fun n4=>Zn c3
 (Yt (List.length st) (V.int n4) r1.snd.snd)) (fun i5=>bc (i5.beq 0) (Zn r1.snd.fst (Yt (List.length st) (V.int 0) r1.snd.snd)) none) fun v6=>none:=by kernel_rfl
theorem zcz(O:Oracle)(n0:Int)(l1:List V)(n2:Int)(st:St):Z1 Tryz.prog cfg O 40 2 [.int n0, .vec .plain none l1, .int n2] st=
 bc (decide (n0<n2)) (gd (decide (0≤n0)&&decide (n0<(↑l1.length:Int))) (zaU (ZA l1 n0) (fun g1 a2 b3=>bc (cfg.pure g1) (Za (Zj O g1 (a2++[]++b3)) fun r4
 =>Zl r4 fun n5=>bc (n5 !=0) (some (Ex.ret,[V.int n5],st)) (O.2 40 2 [V.int (IntKind.i64.wrap (n0+1)),V.vec .plain none l1,V.int n2] st)) (Za (O.call g1
 (a2++[]++b3) st) fun r6=>Zx r6.fst (fun v7=>Zl v7 fun n8=>bc (n8 !=0) (some (Ex.ret,[V.int n8],r6.snd)) (O.2 40 2 [V.int (IntKind.i64.wrap (n0+
 1)),V.vec .plain none l1,V.int n2] r6.snd)) fun p9=>none)) fun l10=>Z3 st l10 fun x11=>Ya x11 fun f12 k13 vs14 s15 p16=>Qv s15 p16 (Za (O.round l10 f12 k13
 vs14 [] st) fun r17=>none) none fun i18=>none)) (some (Ex.exit 0,[],st)):=by kernel_rfl
theorem zlA(O:Oracle)(l0:(List V))(l1:(List V)):Ze Tryz.prog cfg O 44 [.vec .plain (some 4) l0, .vec .plain (some 5) l1] []=
 Za (Zj O 104 [V.vec .plain (some 4) l0,V.vec .plain (some 5) l1]) fun r1=>ZG r1 fun c2=>Zd c2 fun v3 c4=>Zl v3 fun n5=>Zd c4 fun v6 c7=>
 Zl v6 fun n8=>Zn c7 (some (Out.ret (V.int n8),[])):=by kernel_rfl
theorem zjM(O:Oracle)(b0:Bool)(n1:Int):Ze Tryz.prog cfg O 49 [.bool b0, .int n1] []=
 bc b0 (some (Out.ret (V.int 0),[])) (some (Out.ret (V.int n1),[])):=by kernel_rfl
theorem zlB(O:Oracle)(l0:(List V))(l1:(List V))(l2:(List V))(l3:(List V))(n4:Int)(n5:Int)(l6:(List V))(l7:(List V))(n8:Int)(n9:Int)(l10:(List V)):Ze Tryz.prog cfg O 58 [.vec .plain (some 4) l0, .vec .plain (some 5) l1, .vec .plain (some 3) l2, .vec .plain (some 3) l3, .agg [.int n4, .int n5, .vec .plain (some 3) l6], .vec .plain (some 3) l7, .agg [.int n8, .int n9, .vec .plain (some 3) l10]] []=
 Za (Zj O 70 [V.vec .plain (some 3) l2,V.vec .plain (some 3) l3,V.agg [V.int n4,V.int n5,V.vec .plain (some 3) l6],V.vec .plain (some 3) l7]) fun r1=>
 ZG r1 fun c2=>Zd c2 fun v3 c4=>Zc [CT.slice (some 3),CT.int,CT.int,CT.slice (some 3),CT.bool] v3 fun l5 n6 n7 l8 b9=>Zd c4 fun v10 c11=>Zl v10 fun
 n12=>Zn c11 (bc (n12 !=0) (some (Out.ret (V.int n12),[])) (Za (Zj O 30 [V.vec .plain (some 4) l0,V.vec .plain (some 5) l1,V.vec .plain (some 3) l5,V.agg
 [V.int n8,V.int n9,V.vec .plain (some 3) l10],V.agg [V.int n6,V.int n7,V.vec .plain (some 3) l8]]) fun r13=>Zl r13 fun n14=>some (Out.ret (V.int n14),[]))):=by kernel_rfl
theorem ziL(O:Oracle)(n0:Int)(n1:Int)(l2:(List V))(n3:Int)(n4:Int):Ze Tryz.prog cfg O 60 [.agg [.int n0, .int n1, .vec .plain (some 3) l2], .int n3, .int n4] []=
 Za (Zj O 112 [V.agg [V.int n0,V.int n1,V.vec .plain (some 3) l2]]) fun r1=>Yi none r1 fun l2_1=>Za (O.loop 60 3 [V.int 0,V.vec .plain
 none l2_1,V.int n3,V.loc false (some 3) (V.agg [V.int n0,V.int n1,V.vec .plain (some 3) l2]),V.int n4] []) fun r3=>Y8 r3.fst none (Zd r3.snd.fst fun v4 c5=>Zl v4
 fun n6=>Zn c5 (some (Out.ret (V.int n6),[]))) (fun i7=>bc (i7.beq 0) (Zd r3.snd.fst fun v8 c9=>Zl v8 fun n10=>Zd c9 fun v11 c12=>Yj (some 3) v11 fun
 d13 v14=>Zc [CT.int,CT.int,CT.slice (some 3)] (bif d13 then Zt v14 else v14) fun n15 n16 l17=>Zn c12 (Za (Zj O 114 [V.agg [V.int n15,V.int
 n16,V.vec .plain (some 3) l17],V.int n10]) fun r18=>Zi r18 fun b19=>Za (Zj O 49 [V.bool b19,V.int 5]) fun r20=>Zl r20 fun n21=>some (Out.ret
 (V.int n21),[]))) none) fun v22=>none:=by kernel_rfl
theorem zaW(O:Oracle)(n0:Int)(l1:(List V))(n2:Int)(n3:Int)(n4:Int)(l5:(List V))(n6:Int):Z1 Tryz.prog cfg O 60 3 [.int n0, .vec .plain none l1, .int n2, .loc false (some 3) (.agg [.int n3, .int n4, .vec .plain (some 3) l5]), .int n6] []=
 bc (decide (n0<n6)) (Za (Zj O 113 [V.vec .plain none l1,V.int n0]) fun r1=>Zi r1 fun b2=>bc (!b2) (some (Ex.ret,[V.int 5],[])) (O.2
 60 3 [V.int (IntKind.i64.wrap (n0+1)),V.vec .plain none l1,V.int n2,V.loc false (some 3) (V.agg [V.int n3,V.int n4,V.vec .plain (some 3) l5]),V.int n6] []))
 (some (Ex.exit 0,[V.int n2,V.loc false (some 3) (V.agg [V.int n3,V.int n4,V.vec .plain (some 3) l5])],[])):=by kernel_rfl
theorem zjN(O:Oracle)(l0:(List V))(l1:(List V))(n2:Int)(n3:Int)(l4:(List V))(l5:(List V)):Ze Tryz.prog cfg O 70 [.vec .plain (some 3) l0, .vec .plain (some 3) l1, .agg [.int n2, .int n3, .vec .plain (some 3) l4], .vec .plain (some 3) l5] []=
 Za (Zj O 33 [V.vec .plain (some 3) l1,V.vec .plain (some 3) l5,V.int 0]) fun r1=>ZG r1 fun c2=>Zd c2 fun v3 c4=>Yi (some 3) v3 fun l5_1=>Zd
 c4 fun v6 c7=>Zl v6 fun n8=>Zn c7 (bc (n8 !=0) (some (Out.ret (V.tup [V.agg [V.vec .plain (some 3) [],V.int 0,V.int 0,V.vec .plain (some 3) [],V.bool false],V.int
 n8]),[])) (Za (Zj O 26 [V.agg [V.int n2,V.int n3,V.vec .plain (some 3) l4],V.vec .plain (some 3) l5,V.int (↑l1.length:Int)]) fun r9=>ZG r9 fun c10=>
 Zd c10 fun v11 c12=>Zc [CT.int,CT.int,CT.slice (some 3)] v11 fun n13 n14 l15=>Zd c12 fun v16 c17=>Zl v16 fun n18=>Zn c17 (bc (n18 !=0) (some
 (Out.ret (V.tup [V.agg [V.vec .plain (some 3) [],V.int 0,V.int 0,V.vec .plain (some 3) [],V.bool false],V.int n18]),[])) (Za (Zj O 77
 [V.vec .plain none [V.vec .plain (some 3) l0,V.vec .plain (some 3) l5_1]]) fun r19=>Yi (some 3) r19 fun l20=>gd (below 0 (V.tup [V.agg [V.vec .plain (some 3) l20,V.int
 n13,V.int n14,V.vec .plain (some 3) l15,V.bool false],V.int 0])&&true) (some (Out.ret (V.tup [V.agg [V.vec .plain (some 3) l20,V.int n13,V.int n14,V.vec .plain (some 3)
 l15,V.bool false],V.int 0]),[])))))):=by kernel_rfl
end Go.Proofs.CL
namespace Go.Proofs.CL
open Go Go.AM
set_option maxRecDepth 20000
theorem zjO(O:Oracle)(l0:(List V))(l1:(List V))(n2:Int)(l3:(List V))(l4:(List V))(n5:Int)(n6:Int)(l7:(List V))(l8:(List V))(n9:Int)(n10:Int)(l11:(List V)):Ze Tryz.prog cfg O 15 [.vec .plain (some 4) l0, .vec .plain (some 13) l1, .int n2, .agg [.vec .plain (some 5) l3, .vec .plain (some 3) l4, .int n5, .int n6, .vec .plain (some 3) l7, .vec .plain (some 6) l8, .int n9, .int n10, .vec .plain (some 3) l11]] []=
 bc (decide (n2<0)) (some (Out.ret (V.int 2),[])) (bc (decide (n2≥(↑l1.length:Int))) (some (Out.ret (V.int 2),[])) (gd (decide (0≤n2)&&decide (n2<(↑l1.length:Int)))
 (Zc [CT.str,CT.slice (some 3),CT.slice (some 5),CT.slice (some 3),CT.int,CT.int,CT.slice (some 3),CT.slice (some 3),CT.int,CT.int,CT.slice (some 3),CT.bool,
 CT.slice (some 9)] (ZA l1 n2) fun s1 l2 l3_1 l4_1 n5_1 n6_1 l7_1 l8_1 n9_1 n10_1 l11_1 b12 l13=>gd (true&&decide (0≤(↑l3.length:Int))&&decide ((↑l3.length:Int)≤
 (↑l3.length:Int))) (gd (decide ((↑l3.length:Int)=(↑l3.length:Int))&&(some (V.int (↑l3.length:Int))).isSome) (Za (O.call 40 [V.vec .plain none [V.fn
 54 [] [V.cptr (some 9) (V.agg [V.vec .plain (some 5) l3,V.vec .plain (some 3) l4,V.int n5,V.int n6,V.vec .plain (some 3) l7,V.vec .plain (some 6) l8,V.int n9,
 V.int n10,V.vec .plain (some 3) l11])],V.fn 55 [] [V.cptr none (V.vec .plain (some 4) l0),V.cptr (some 9) (V.agg [V.vec .plain (some 5) l3,V.vec .plain (some 3)
 l4,V.int n5,V.int n6,V.vec .plain (some 3) l7,V.vec .plain (some 6) l8,V.int n9,V.int n10,V.vec .plain (some 3) l11])],V.fn 56 [] [V.cptr none (V.vec .plain
 (some 4) l0),V.cptr (some 9) (V.agg [V.vec .plain (some 5) l3,V.vec .plain (some 3) l4,V.int n5,V.int n6,V.vec .plain (some 3) l7,V.vec .plain (some 6) l8,V.int n9,V.int
 n10,V.vec .plain (some 3) l11]),V.cptr (some 13) (V.agg [V.str s1,V.vec .plain (some 3) l2,V.vec .plain (some 5) l3_1,V.vec .plain (some 3) l4_1,V.int n5_1,V.int n6_1,
 V.vec .plain (some 3) l7_1,V.vec .plain (some 3) l8_1,V.int n9_1,V.int n10_1,V.vec .plain (some 3) l11_1,V.bool b12,V.vec .plain (some 9) l13])],V.fn 57 []
 [V.cptr none (V.vec .plain (some 4) l0),V.cptr (some 9) (V.agg [V.vec .plain (some 5) l3,V.vec .plain (some 3) l4,V.int n5,V.int n6,V.vec .plain (some 3) l7,V.vec .plain
 (some 6) l8,V.int n9,V.int n10,V.vec .plain (some 3) l11]),V.cptr (some 13) (V.agg [V.str s1,V.vec .plain (some 3) l2,V.vec .plain (some 5) l3_1,V.vec .plain (some 3) l4_1,
 V.int n5_1,V.int n6_1,V.vec .plain (some 3) l7_1,V.vec .plain (some 3) l8_1,V.int n9_1,V.int n10_1,V.vec .plain (some 3) l11_1,V.bool b12,V.vec .plain (some 9) l13])],
 V.fn 59 [] [V.cptr (some 9) (V.agg [V.vec .plain (some 5) l3,V.vec .plain (some 3) l4,V.int n5,V.int n6,V.vec .plain (some 3) l7,V.vec .plain (some 6) l8,
 V.int n9,V.int n10,V.vec .plain (some 3) l11]),V.cptr (some 13) (V.agg [V.str s1,V.vec .plain (some 3) l2,V.vec .plain (some 5) l3_1,V.vec .plain (some 3) l4_1,V.int n5_1,
 V.int n6_1,V.vec .plain (some 3) l7_1,V.vec .plain (some 3) l8_1,V.int n9_1,V.int n10_1,V.vec .plain (some 3) l11_1,V.bool b12,V.vec .plain (some 9) l13])],V.fn
 53 [] [V.cptr (some 9) (V.agg [V.vec .plain (some 5) l3,V.vec .plain (some 3) l4,V.int n5,V.int n6,V.vec .plain (some 3) l7,V.vec .plain (some 6) l8,V.int n9,
 V.int n10,V.vec .plain (some 3) l11]),V.cptr none (V.vec .plain (some 13) l1),V.cptr none (V.vec .plain (some 4) l0),V.ref 0 0,V.cptr (some 13) (V.agg [V.str s1,V.vec .plain
 (some 3) l2,V.vec .plain (some 5) l3_1,V.vec .plain (some 3) l4_1,V.int n5_1,V.int n6_1,V.vec .plain (some 3) l7_1,V.vec .plain (some 3) l8_1,V.int n9_1,V.int n10_1,V.vec
 .plain (some 3) l11_1,V.bool b12,V.vec .plain (some 9) l13])],V.fn 61 [] [V.cptr none (V.vec .plain (some 4) l0),V.ref 0 0,V.cptr (some 13) (V.agg [V.str s1,
 V.vec .plain (some 3) l2,V.vec .plain (some 5) l3_1,V.vec .plain (some 3) l4_1,V.int n5_1,V.int n6_1,V.vec .plain (some 3) l7_1,V.vec .plain (some 3) l8_1,V.int n9_1,V.int
 n10_1,V.vec .plain (some 3) l11_1,V.bool b12,V.vec .plain (some 9) l13]),V.cptr (some 9) (V.agg [V.vec .plain (some 5) l3,V.vec .plain (some 3) l4,V.int n5,V.int n6,V.vec
 .plain (some 3) l7,V.vec .plain (some 6) l8,V.int n9,V.int n10,V.vec .plain (some 3) l11])]]] [Res.box [V.vec Mode.full (some 5) (List.drop 0 (List.take (↑l3.length:
 Int).toNat l3))]]) fun r14=>Zx r14.fst (fun v15=>Zl v15 fun n16=>some (Out.ret (V.int n16),[])) fun p17=>none))))):=by kernel_rfl
theorem zhy(O:Oracle)(m1:Int)(m2 m3:List V)(m4 m5:Int)(m6:List V):Ze Tryz.prog cfg O 66 [.cptr (some 6) (.agg [.int m1, .vec .plain (some 3) m2, .vec .plain (some 3) m3, .int m4, .int m5, .vec .plain (some 3) m6])] []=
 Za (Zj O 49 [V.bool (decide ((↑m2.length:Int)≤40)),V.int 4]) fun r1=>Zl r1 fun n2=>some (Out.ret (V.int n2),[]):=by kernel_rfl
theorem zhz(O:Oracle)(s1:ByteArray)(l2 l3 l4:List V)(n5 n6:Int)(l7 l8:List V)(n9 n10:Int)(l11:List V)(b12:Bool)(l13:List V)(m1:Int)(m2 m3:List V)(m4 m5:Int)(m6:List V)(s1g:ByteArray)(l2g l3g l4g:List V)(n5g n6g:Int)(l7g l8g:List V)(n9g n10g:Int)(l11g:List V)(b12g:Bool)(l13g:List V):Ze Tryz.prog cfg O 67 [.cptr (some 13) (.agg [.str s1, .vec .plain (some 3) l2, .vec .plain (some 5) l3, .vec .plain (some 3) l4, .int n5, .int n6, .vec .plain (some 3) l7, .vec .plain (some 3) l8, .int n9, .int n10, .vec .plain (some 3) l11, .bool b12, .vec .plain (some 9) l13]), .cptr (some 6) (.agg [.int m1, .vec .plain (some 3) m2, .vec .plain (some 3) m3, .int m4, .int m5, .vec .plain (some 3) m6]), .cptr (some 13) (.agg [.str s1g, .vec .plain (some 3) l2g, .vec .plain (some 5) l3g, .vec .plain (some 3) l4g, .int n5g, .int n6g, .vec .plain (some 3) l7g, .vec .plain (some 3) l8g, .int n9g, .int n10g, .vec .plain (some 3) l11g, .bool b12g, .vec .plain (some 9) l13g])] []=
 Za (Zj O 23 [V.vec .plain (some 3) l2,V.vec .plain (some 3) m2]) fun r1=>Zi r1 fun b2=>bc b2 (Za (Zj O 23 [V.vec .plain (some 3)
 l2,V.vec .plain (some 3) l2g]) fun r3=>Zi r3 fun b4=>Za (Zj O 49 [V.bool b4,V.int 9]) fun r5=>Zl r5 fun n6=>some (Out.ret (V.int n6),[]))
 (Za (Zj O 49 [V.bool false,V.int 9]) fun r7=>Zl r7 fun n8=>some (Out.ret (V.int n8),[])):=by kernel_rfl
theorem zh0(O:Oracle)(sg ds:List V)(m1:Int)(m2 m3:List V)(m4 m5:Int)(m6:List V)(s1:ByteArray)(l2 l3 l4:List V)(n5 n6:Int)(l7 l8:List V)(n9 n10:Int)(l11:List V)(b12:Bool)(l13:List V):Ze Tryz.prog cfg O 68 [.cptr none (.vec .plain (some 4) sg), .cptr none (.vec .plain (some 5) ds), .cptr (some 6) (.agg [.int m1, .vec .plain (some 3) m2, .vec .plain (some 3) m3, .int m4, .int m5, .vec .plain (some 3) m6]), .cptr (some 13) (.agg [.str s1, .vec .plain (some 3) l2, .vec .plain (some 5) l3, .vec .plain (some 3) l4, .int n5, .int n6, .vec .plain (some 3) l7, .vec .plain (some 3) l8, .int n9, .int n10, .vec .plain (some 3) l11, .bool b12, .vec .plain (some 9) l13])] []=
 Za (Zj O 25 [V.vec .plain (some 4) sg,V.vec .plain (some 5) ds,V.vec .plain (some 3) m2,V.vec .plain (some 5) l3,V.vec .plain (some 3) m3]) fun r1=>Zl r1
 fun n2=>some (Out.ret (V.int n2),[]):=by kernel_rfl
theorem zh1(O:Oracle)(sg ds:List V)(m1:Int)(m2 m3:List V)(m4 m5:Int)(m6:List V)(s1:ByteArray)(l2 l3 l4:List V)(n5 n6:Int)(l7 l8:List V)(n9 n10:Int)(l11:List V)(b12:Bool)(l13:List V):Ze Tryz.prog cfg O 69 [.cptr none (.vec .plain (some 4) sg), .cptr none (.vec .plain (some 5) ds), .cptr (some 6) (.agg [.int m1, .vec .plain (some 3) m2, .vec .plain (some 3) m3, .int m4, .int m5, .vec .plain (some 3) m6]), .cptr (some 13) (.agg [.str s1, .vec .plain (some 3) l2, .vec .plain (some 5) l3, .vec .plain (some 3) l4, .int n5, .int n6, .vec .plain (some 3) l7, .vec .plain (some 3) l8, .int n9, .int n10, .vec .plain (some 3) l11, .bool b12, .vec .plain (some 9) l13])] []=
 Za (Zj O 58 [V.vec .plain (some 4) sg,V.vec .plain (some 5) ds,V.vec .plain (some 3) m2,V.vec .plain (some 3) l4,V.agg [V.int n5,V.int n6,V.vec .plain
 (some 3) l7],V.vec .plain (some 3) m3,V.agg [V.int m4,V.int m5,V.vec .plain (some 3) m6]]) fun r1=>Zl r1 fun n2=>some (Out.ret (V.int n2),[]):=by kernel_rfl
end Go.Proofs.CL
namespace Go.Ama
open Go Go.AM
theorem zj3{n m:Int}{t:T}(hn:n≤1000)(h:Q6 n m t=true):Lo t:=by
 unfold Q6 at h
 simp only[Bool.and_eq_true,decide_eq_true_eq]at h
 exact⟨by omega,fun hm=>zvn (by omega) t (zfv hm) h.1⟩
theorem zdP{n m:Int}{l:List T}(hn:n≤1000)(h:XF n m l=true):Los 60 l:=by
 unfold XF at h
 simp only[Bool.and_eq_true,decide_eq_true_eq,List.all_eq_true]at h
 exact⟨h.1,fun x hx=>zj3 hn (h.2 x hx)⟩
theorem zv3{l:List M}(h:zmt l=true):l.length≤30∧ ∀m∈l,LoM m:=by
 unfold zmt at h
 simp only[Bool.and_eq_true,decide_eq_true_eq,List.all_eq_true]at h
 exact⟨h.1,fun m hm=>⟨zdP (by omega) (h.2 m hm).1,zj3 (by omega) (h.2 m hm).2⟩⟩
theorem zx1{sig:List D}(h:zrO sig=true):sig.length≤1000∧ ∀d∈sig,Hd d.t:=by
 unfold zrO at h
 simp only[Bool.and_eq_true,decide_eq_true_eq,List.all_eq_true]at h
 exact⟨by omega,fun d hd=>(zj3 (by omega) (h.2 d hd)).hd⟩
theorem zv4{c:Cal}(h:JJ c=true):LoCal c:=by
 unfold JJ at h
 simp only[Bool.and_eq_true]at h
 exact⟨zdP (by omega) h.1,zdP (by omega) h.2.1,zj3 (by omega) h.2.2⟩
theorem zsM{c:Cl}(h:zbn c=true):LoCl c:=by
 unfold zbn at h
 simp only[Bool.and_eq_true,decide_eq_true_eq,List.all_eq_true]at h
 obtain⟨h1,h2,h3,h4,h5,h6⟩:=h
 obtain⟨q1,q2⟩:=zv3 h1
 exact⟨by omega,q2,zdP (by omega) h2,zj3 (by omega) h3,zj3 (by omega) h4,by omega,fun x hx=>zv4 (h6 x hx)⟩
theorem zw4{f:Fun1}(h:zcp f=true):LoFn f:=by
 unfold zcp at h
 simp only[Bool.and_eq_true,decide_eq_true_eq,List.all_eq_true]at h
 obtain⟨h1,h2,h3,h4,h5,h6,h7,h8⟩:=h
 obtain⟨q1,q2⟩:=zv3 h1
 exact⟨by omega,q2,zdP (by omega) h2,zdP (by omega) h3,zj3 (by omega) h5,zdP (by omega) h4,zj3 (by omega) h6,by omega,fun x hx=>zsM (h8 x hx)⟩
def zfa(l:List Fun1):Bool:=decide (l.length≤20)&&l.all zcp
theorem zv5{l:List Fun1}(h:zfa l=true):l.length≤20∧ ∀f∈l,LoFn f:=by
 unfold zfa at h
 simp only[Bool.and_eq_true,decide_eq_true_eq,List.all_eq_true]at h
 exact⟨h.1,fun f hf=>zw4 (h.2 f hf)⟩
def zyR(f:Fun1):Fun1:={f with total:= !f.total,clauses:=[]}
theorem zh2: ∀{l:List Int},Jk l=0↔ ∀e∈l,e=0
 |[]=>by simp[Jk]
 |e::l=>by
  unfold Jk
  by_cases h:e≠0
  ·rw[if_pos h]
   exact⟨fun q=>absurd q h,fun q=>absurd (q e (by simp)) h⟩
  ·have h0:e=0:=by simpa using h
   rw[if_neg h,zh2]
   simp[h0]
end Go.Ama
namespace Go.Proofs.CL
open Go Go.AM Go.Ama
set_option maxRecDepth 100000
inductive Firsts:List V→St→Int→St→Prop
 |nil (st:St):Firsts [] st 0 st
 |bad {g:Nat} {b l:List V} {st st':St} {e:Int} (hp:cfg.pure g=false) (h:W.call g b st=some (.ret (.int e),st')) (he:e≠0):Firsts (.fn g [] b::l) st e st'
 |ok {g:Nat} {b l:List V} {st st' st'':St} {e:Int} (hp:cfg.pure g=false) (h:W.call g b st=some (.ret (.int 0),st')) (t:Firsts l st' e st''):Firsts (.fn g [] b::l) st e st''
theorem Firsts.one{g:Nat}{b l:List V}{st:St}{e:Int}{es:List Int}(hp:cfg.pure g=false)(h:W.call g b st=some (.ret (.int e),st))(t:e=0→Firsts l st (Jk es) st):Firsts (.fn g [] b::l) st (Jk (e::es)) st:=by
 unfold Jk
 by_cases he:e=0
 ·subst he;exact .ok hp h (t rfl)
 ·rw[if_pos he];exact .bad hp h he
theorem zqA(l0:List V)(hl:l0.length≤1000): ∀(n i:Nat) (st:St) (e:Int) (st':St),l0.length-i=n→i≤l0.length→Firsts (l0.drop i) st e st'→
  W.loop 40 2 [.int (i:Int), .vec .plain none l0, .int l0.length] st=some (if e=0 then(.exit 0,[],st')else(.ret,[.int e],st')):=by
 intro n
 induction n with
 |zero=>
  intro i st e st' hn hi h
  have:i=l0.length:=by omega
  subst this
  rw[List.drop_length]at h
  cases h
  rw[L,zcz]
  simp
 |succ n ih=>
  intro i st e st' hn hi h
  have hlt:i<l0.length:=by omega
  have hlt':(i:Int)<l0.length:=by omega
  have hw:IntKind.i64.wrap ((i:Int)+1)=((i+1:Nat):Int):=by rw[Zq ⟨by omega,by omega⟩];omega
  have hg:ZA l0 (i:Int)=l0[i]:=by simp[ZA,List.getD_eq_getElem?_getD,hlt]
  rw[List.drop_eq_getElem_cons hlt]at h
  rw[L,zcz,hw,hg]
  generalize l0[i]=x at h
  cases h with
  |bad hp hc he=>
   simp only[hlt',Int.natCast_nonneg,decide_true,Zr,Bool.and_self,Zz,zaU,hp,Zo,List.nil_append,hc,Zf,Z9,Z2]
   simp[he]
  |ok hp hc t=>
   have:=ih (i+1) _ _ _ (by omega) (by omega) t
   simp only[hlt',Int.natCast_nonneg,decide_true,Zr,Bool.and_self,Zz,zaU,hp,Zo,List.nil_append,hc,Zf,Z9,Z2,bne_self_eq_false]
   exact this
theorem zlC{l:List V}{st st':St}{e:Int}(hl:l.length≤1000)(h:Firsts l st e st'):W.call 40 [.vec .plain none l] st=Yt st.length (.int e) st':=by
 have:=zqA l hl _ 0 st e st' rfl (Nat.zero_le _) h
 simp only[Int.natCast_zero]at this
 rw[C,zl9,this]
 by_cases he:e=0
 ·subst he;simp
 ·simp[he]
theorem zh3(b:Bool)(e:Int):Zj W 49 [.bool b, .int e]=some (.int (zbp b e)):=by
 have h:Ev 49 [.bool b, .int e] (.int (zbp b e)):=by
  unfold Ev zbp
  rw[C,zjM]
  cases b<;>simp
 exact h.p
theorem zv6:[41,43,45,47,48,105,107,108,66,67,68,69,53,54,55,56,57,59,61].all (fun g=> !cfg.pure g)=true:=by kernel_rfl
theorem zlD{g:Nat}(h:g∈[41,43,45,47,48,105,107,108,66,67,68,69,53,54,55,56,57,59,61]):cfg.pure g=false:=by
 simpa using List.all_eq_true.1 zv6 g h
structure SigHd(sig:List D):Prop where
 h:sig.length≤1000∧ ∀d∈sig,Hd d.t
theorem zw5(sig:List D)(δ:List M)(hs:sig.length≤1000∧ ∀d∈sig,Hd d.t)(hm:δ.length≤1000∧ ∀m∈δ,HdM m):Zj W 44 [.vec .plain (some 4) (Yo sig), .vec .plain (some 5) (ZH δ)]=some (.int (zcG sig δ).2):=by
 have h1:=(zrQ sig δ (zsH hs hm (Hds.nil _) (Hds.nil _))).p (by simp[Zm,below,Zv])
 have h:Ev 44 [.vec .plain (some 4) (Yo sig), .vec .plain (some 5) (ZH δ)] (.int (zcG sig δ).2):=by
  unfold Ev
  rw[C,zlA,h1]
  simp
 exact h.p (by simp[Zm,below,Zv])
end Go.Proofs.CL
namespace Go.Proofs.CL
open Go Go.AM Go.Ama
set_option maxRecDepth 100000
theorem zj4{ext ctx θ:List T}{a:T}(he:Hds 60 ext)(hc:Los 60 ctx)(ha:Lo a)(hθ:Los 60 θ):Ev 70 [.vec .plain (some 3) (Zg ext), .vec .plain (some 3) (Zg ctx),enc a, .vec .plain (some 3) (Zg θ)] (.tup [zaw (Xs ext ctx a θ).1, .int (Xs ext ctx a θ).2]):=by
 have h1:=(zqp (β:=1099511627776) (by omega) zcr (n:=0) (l:=ctx) (θ:=θ) (by have:=hc.hds.szs;omega) (by omega) (by have:=hθ.hds.szs;omega) (fun x hx=>(hθ.all x hx).ok) (fun x hx=>(hc.all x hx).ok)).p
 have h2:=(zdi (β:=1099511627776) (by omega) zcr (t:=a) (θ:=θ) (n:=(ctx.length:Int)) (by have:=ha.size;omega) (by have:=hθ.hds.szs;omega) (fun x hx=>(hθ.all x hx).ok) ha.ok).p
 simp only[Int.natCast_zero]at h1
 unfold Ev Xs
 dsimp only
 rw[C,Zb a,zjN,←Zb a,h1,Zh]
 simp only[Zf,Y1,ZE,YQ,Z2,ZN,h2,zbX]
 by_cases c1:(Ys θ ctx 0).2=0
 ·by_cases c2:(Yy a θ ctx.length).2=0
  ·have hch:=zgv hc hθ.all c1
   have hcat:=(zcl ext (Ys θ ctx 0).1 (by have:=he.len;have:=hch.len;omega)).p (h2:=by simp[below,Zm,Xy])
   simp only[c1,c2,bne_self_eq_false,Zo,hcat,Zf,YQ,ne_eq,not_true_eq_false,if_false]
   simp[below,Zm,Xy,X1]
  ·simp[c1,c2,X1]
 ·simp[c1,X1]
theorem zg3{sig:List D}{over:List M}{ext ctx θ:List T}{a t:T}(hs:sig.length≤1000∧ ∀d∈sig,Hd d.t)(hm:over.length≤1000∧ ∀m∈over,HdM m)(he:Hds 60 ext)(hc:Los 60 ctx)(ha:Lo a)(hθ:Los 60 θ)(ht:Lo t):
  Ev 58 [.vec .plain (some 4) (Yo sig), .vec .plain (some 5) (ZH over), .vec .plain (some 3) (Zg ext), .vec .plain (some 3) (Zg ctx),enc a, .vec .plain (some 3) (Zg θ),enc t] (.int (zaS sig over ext ctx a θ t)):=by
 have h1:=(zj4 he hc ha hθ).p (h2:=by simp[below,Zm])
 unfold Ev zaS
 dsimp only
 rw[C,Zb a,Zb t,zlB,←Zb a,←Zb t,h1]
 simp only[Zf,Y1,ZE,onM,Z2,ZN,←Zb]
 by_cases c:(Xs ext ctx a θ).2=0
 ·have hf:=zlh he hc ha hθ.all c
  have h2:=(zbL sig over (Xs ext ctx a θ).1.ctx t (Xs ext ctx a θ).1.t (zsH hs hm (hf.ctx.mono (by omega)) ⟨by simp,fun x hx=>by
    rcases List.mem_cons.1 hx with rfl|hx
    ·exact ht.hd
    ·rw[List.mem_singleton]at hx;rw[hx];exact hf.t⟩)).p (by simp[Zm,below,Zv])
  simp[c,h2]
 ·simp[c]
theorem zqB{sig:List D}{over:List M}{g f:Fun1}{c:Cal}(hs:sig.length≤1000∧ ∀d∈sig,Hd d.t)(hm:over.length≤1000∧ ∀m∈over,HdM m)(hg:LoFn g)(hf:LoFn f)(hc:LoCal c):
  Ev 19 [.vec .plain (some 4) (Yo sig), .vec .plain (some 5) (ZH over),Ql g,Ql f,XI c] (.tup [zaw (Xt sig over g f c).1, .int (Xt sig over g f c).2]):=by
 have h2:=(zfS f.schema c.ext (by have:=hf.schema.hds.szs;omega) (by have:=hc.ext.hds.szs;omega)).p
 have h2':=(zfS f.schema g.schema (by have:=hf.schema.hds.szs;omega) (by have:=hg.schema.hds.szs;omega)).p
 have h3:=(zlp sig over c.ext f.delta c.theta hs hm hc.ext.hds hf.delta hc.theta).p (by simp[Zm,below,Zv])
 have h4:=(zg3 hs hm hc.ext.hds hf.psi hf.a hc.theta hc.arg).p (by simp[Zm,below,Zv])
 have h5:=(zj4 hc.ext.hds hf.phi hf.b hc.theta).p (h2:=by simp[below,Zm])
 have hF:Firsts [.fn 66 [] [.cptr (some 6) (XI c)], .fn 67 [] [.cptr (some 13) (Ql f), .cptr (some 6) (XI c), .cptr (some 13) (Ql g)], .fn 68 [] [.cptr none (.vec .plain (some 4) (Yo sig)), .cptr none (.vec .plain (some 5) (ZH over)), .cptr (some 6) (XI c), .cptr (some 13) (Ql f)], .fn 69 [] [.cptr none (.vec .plain (some 4) (Yo sig)), .cptr none (.vec .plain (some 5) (ZH over)), .cptr (some 6) (XI c), .cptr (some 13) (Ql f)]] [] (zfw sig over g f c) []:=by
  unfold zfw
  refine .one (zlD (by decide)) ?_ fun _=> .one (zlD (by decide)) ?_ fun _=> .one (zlD (by decide)) ?_ fun _=> .one (zlD (by decide)) ?_ fun _=> .nil _
  ·rw[C,YR c,zhy,Zh,zh3]
   simp only[Zf,Z2]
   congr 5
   simp
   omega
  ·rw[C,YR c,Z8 f,Z8 g,zhz,h2,h2']
   cases zdj f.schema c.ext<;>simp[zh3]
  ·rw[C,YR c,Z8 f,zh0,h3];simp
  ·rw[C,YR c,Z8 f,zh1,←Zb,←Zb,h4];simp
 unfold Ev Xt
 rw[C,YR c,Z8 f,Z8 g,zjL,←YR c,←Z8 f,←Z8 g,zlC (by simp) hF]
 simp only[Zy rfl,Zf,Z9,Z2,←Zb,h5,Y1,ZE,onM,ZN]
 by_cases h:zfw sig over g f c=0
 ·simp[h,←X1,below,Zm,Zu]
 ·simp[h,X1]
theorem zm2{B:Int}(hB:B≤9223372036854775807)(p:T)(n many:Nat)(hs:p.size≤1048576)(hp:okB B p)(hn:n≤1048576)(hm:many≤1048576):Ev 60 [enc p, .int (n:Int), .int (many:Int)] (.int (zbP p n many)):=by
 have hM:=zju hB p hs hp
 have hlen:(YC p).length≤1099511627776:=by
  have hS:=zgw (B:=B) p 0 [] 0 hp (zlk B)
  have h1:(YC p).length=(XG zdK p 0 []).length:=(Qs _).length_eq
  have:=hS.len
  omega
 have hM:=hM.p (h2:=by have:=zrP 0 (YC p);simpa[below,Jr]using this)
 have hP:=(zmx p n hs (by omega) (by omega)).p
 have hL: ∀(m i:Nat),many-i=m→i≤many→W.loop 60 3 [.int (i:Int), .vec .plain none (Jr (YC p)), .int (n:Int), .loc false (some 3) (enc p), .int (many:Int)] []=
   if((List.range many).drop i).all (fun i=>decide (((i:Nat):Int)∈YC p))=true then some (.exit 0,[.int (n:Int), .loc false (some 3) (enc p)],[])else some (.ret,[.int 5],[]):=by
  intro m
  induction m with
  |zero=>
   intro i hm' hi
   have:i=many:=by omega
   subst this
   rw[L,Zb p,zaW,List.drop_of_length_le (by simp)]
   simp
  |succ m ih=>
   intro i hm' hi
   have hlt:i<many:=by omega
   have hlt':(i:Int)<(many:Int):=by omega
   have hw:IntKind.i64.wrap ((i:Int)+1)=((i+1:Nat):Int):=by rw[Zq ⟨by omega,by omega⟩];omega
   have hd:(List.range many).drop i=i::(List.range many).drop (i+1):=by
    rw[List.drop_eq_getElem_cons (by simpa using hlt)];simp
   have hc:=(zab (YC p) (i:Int) hlen).p
   rw[hd,L,Zb p,zaW,hw,hc,←Zb p]
   have:=ih (i+1) (by omega) (by omega)
   by_cases hmem:(i:Int)∈YC p
   ·simp only[hlt',decide_true,Zr,Zf,Z0,hmem,Bool.not_true,Zo,List.all_cons,Bool.true_and]
    exact this
   ·simp[hlt',hmem]
 have h0:=hL _ 0 rfl (Nat.zero_le _)
 simp only[Int.natCast_zero,List.drop_zero]at h0
 have hM':Zj W 112 [enc p]=some (.vec .plain none (Jr (YC p))):=hM
 unfold Ev zbP
 rw[C,Zb p,ziL,←Zb p,hM']
 simp only[Zf,YQ]
 rw[h0]
 by_cases h:(List.range many).all (fun i=>decide (((i:Nat):Int)∈YC p))=true
 ·rw[if_pos h,if_pos h]
  simp only[Zf,Ji,show Nat.beq 0 0=true from rfl,Zr,ZE,Z2,zmR,cond_false,ZN,←Zb,zbX,hP,Z0,zh3]
 ·rw[if_neg h,if_neg h]
  simp
end Go.Proofs.CL
