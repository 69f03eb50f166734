import Derived.Test.YtgoppocfbhbamaaGreatDoorGb
import Derived.Test.YtgoppocfbhbamaaGreatDoorGa
import Derived.KernelRfl
/- The program's functions, each an equation of the abstract machine checked by the kernel, and what they come to as_ plain Lean. -/
set_option linter.unusedVariables false
set_option linter.unusedSimpArgs false
set_option linter.unusedSectionVars false
namespace Go.Proofs.SZ
open Go Go.AM Go.Ama
theorem zuO(a b c x y z:V):setCells [a,b,c] 0 [x,y,z]=[x,y,z]:=rfl
theorem plI(n:Int):plain1 (.int n)= .int n:=rfl
theorem plV(sh:Sh)(l:List V):plain1 (.vec .plain sh l)= .vec .plain sh l:=rfl
theorem zw1(v:V)(a:Res)(st:St)(h:below 0 v=true):Y6 0 v (a::st)=some (.ret v,[]):=by
 have:Nat.beq (a::st).length 0=false:=rfl
 unfold Y6
 rw[this]
 simp[h,Zy]
theorem zow:cfg.pure 98=false:=by kernel_rfl
theorem zox{t:T}{l:List T}{s:Int}{o:Oj}(h:Big (.ap 0 t l s) o):RT o (W.call 98 [.ref 2 0, .cptr (some 3) (enc t), .cptr (some 2) (J3 l s)] (wst 0)):=by
 have hs:RT o (W.call 99 [.ref 2 0,enc t,J3 l s] (wst 0)):=zu8 h
 rw[C,Zd,zhY,←Zd]
 cases o with
 |t u k=>
  simp only[RT]at hs
  rw[hs]
  simp[RT,←Zd]
  rfl
 |e e=>
  obtain⟨k,hs⟩:=hs
  rw[hs]
  exact⟨k,rfl⟩
 |l _ _=>exact hs.elim
theorem zt9:ext 97=some (fun O args st=>zeN Tryz.prog cfg O 97 args st):=by
 unfold ext
 rfl
theorem zwh(args:List V)(st:St):W.call 97 args st=zeN Tryz.prog cfg W 97 args st:=
 Cx (x:=fun O args st=>zeN Tryz.prog cfg O 97 args st) 97 args st zt9
theorem zsg{t:T}{l:List T}{s:Int}{o:Oj}(h:Big (.ap 0 t l s) o)(hs:zpM o):
  W.call 97 [.fn 98 [] [.cptr (some 3) (enc t), .cptr (some 2) (J3 l s)]] []=some (.ret (.tup [enc (zbS o).1, .int (zbS o).2]),[]):=by
 have h1:=zox h
 rw[zwh,zm4,zow]
 simp only[Zn,List.nil_append,List.singleton_append]
 cases o with
 |t u k=>
  simp only[RT]at h1
  have hm:=(Qk u hs).p
  have h2:W.call 98 [.ref 2 0, .cptr (some 3) (enc t), .cptr (some 2) (J3 l s)] [bx0,bx1, .box [.int 0]]=some (.ret (enc u),wst k):=h1
  rw[h2]
  have hf:W.call 116 [.int 4] [.box [.int u.k, .int u.h, .vec .plain (some 3) (Zl u.args)],bx1, .box [.int (k:Int)]]=some (.panic (zsf 4),[.box [.int u.k, .int u.h, .vec .plain (some 3) (Zl u.args)],bx1, .box [.int (k:Int)]]):=by
   rw[C,zgt]
   simp[below,Zy,zb7,Zi]
  cases hmu:may u with
  |true=>
   have e:zbS (.t u k)=(u,0):=by simp[zbS,hmu]
   rw[hmu]at hm
   rw[e]
   simp[zuO,plI,plV,hm,←Zd]
   exact zw1 _ _ _ (by simp[below,Zi])
  |false=>
   have e:zbS (.t u k)=(.mk 0 0 [],4):=by simp[zbS,hmu]
   rw[hmu]at hm
   rw[e]
   simp[zuO,plI,plV,hm,←Zd]
   rw[hf]
   rfl
 |e e=>
  obtain⟨k,h1⟩:=h1
  have h2:W.call 98 [.ref 2 0, .cptr (some 3) (enc t), .cptr (some 2) (J3 l s)] [bx0,bx1, .box [.int 0]]=some (.panic (zsf e),wst k):=h1
  rw[h2]
  simp[zbS]
  rfl
 |l _ _=>exact h1.elim
theorem zqf{t:T}{l:List T}{s:Int}{o:Oj}(ht:t.size≤1099511627776)(hl:sizes l≤1099511627776)(h:may t=true→zeT l s=true→Big (.ap 0 t l s) o∧zpM o):
  Ev 80 [enc t,J3 l s] (.tup [enc (zdS t l s o).1, .int (zdS t l s o).2]):=by
 have h1:=(Qk t ht).p
 have h2:=(zse l s hl).p
 unfold Ev
 rw[C,Zd t,zkm,←Zd,h1]
 cases hm:may t with
 |false=>simp[zdS,hm,enc]
 |true=>
  simp only[Zb,Zs,Bool.not_true,Zn]
  rw[h2]
  cases hs:zeT l s with
  |false=>simp[zdS,hm,hs,enc]
  |true=>
   obtain⟨hb,hsm⟩:=h hm hs
   have h3:=zsg hb hsm
   have e:zdS t l s o=zbS o:=by simp[zdS,hm,hs]
   rw[e]
   simp[h3,←Zd]
   simp[below,Zi,Zy,gd]
theorem zdX{β:Int}(hβ:Y8 β){t:T}{l:List T}{s:Int}(ht:t.size≤1099511627776)(hl:sizes l≤1099511627776)(h1:may t=true→okB β t)(h2:zeT l s=true→ ∀x∈l,okB β x):
  Ev 80 [enc t,J3 l s] (.tup [enc (Xa t l s).1, .int (Xa t l s).2]):=
 zqf ht hl fun m1 m2=>by
  obtain⟨b,_,c⟩:=zqH hβ (h1 m1) (h2 m2) m1 m2
  exact⟨b,c⟩
end Go.Proofs.SZ
namespace Go.Proofs.SZ
open Go Go.AM Go.Ama
theorem zoy{g:Nat}{a b:List V}(hp:cfg.pure g=false){p:D→Bool}(xs:List D)(hs:xs.length≤1099511627776)(st:St)(hg: ∀t∈xs,W.call g (a++[Q3 t]++b) st=some (.ret (.bool (p t)),st)):
  ∀(n i:Nat),xs.length-i=n→i≤xs.length→(∃j:Nat,(xs.drop i).any p=true∧W.loop 75 2 [.int (i:Int), .vec .plain (some 4) (Zx xs), .fn g a b, .int xs.length] st=some (.ret,[.int (j:Int)],st))∨
   ((xs.drop i).any p=false∧W.loop 75 2 [.int (i:Int), .vec .plain (some 4) (Zx xs), .fn g a b, .int xs.length] st=some (.exit 0,[],st)):=by
 intro n
 induction n with
 |zero=>
  intro i hn hi
  have:i=xs.length:=by omega
  subst this
  right
  refine⟨by simp, ?_⟩
  rw[L,ZY]
  simp
 |succ n ih=>
  intro i hn hi
  have hlt:i<xs.length:=by omega
  have hx:=hg xs[i] (List.getElem_mem hlt)
  have hd:xs.drop i=xs[i]::xs.drop (i+1):=List.drop_eq_getElem_cons hlt
  have hstep:W.loop 75 2 [.int (i:Int), .vec .plain (some 4) (Zx xs), .fn g a b, .int xs.length] st=
    bc (p xs[i]) (some (.ret,[.int (i:Int)],st)) (W.loop 75 2 [.int ((i+1:Nat):Int), .vec .plain (some 4) (Zx xs), .fn g a b, .int xs.length] st):=by
   rw[L,ZY,Xi hlt]
   rw[Z9 ⟨by omega,by omega⟩]
   have h1:(i:Int)<xs.length:=by omega
   have e1:V.agg [V.str (ba xs[i].name),V.int xs[i].t.k,V.int xs[i].t.h,V.vec .plain (some 3) (Zl xs[i].t.args)]=Q3 xs[i]:=rfl
   simp only[h1,ZA,Int.natCast_nonneg,decide_true,Bool.and_self,Z6,Zq,zvW,hp,Zn,e1,hx,Zb,Zk,Zs]
   rfl
  rw[hstep,hd,List.any_cons]
  cases hpx:p xs[i]with
  |true=>exact .inl ⟨i,rfl,rfl⟩
  |false=>
   simp only[bc,Bool.false_or]
   exact ih (i+1) (by omega) (by omega)
theorem zjy{g:Nat}{a b:List V}(hp:cfg.pure g=false){p:D→Bool}(xs:List D)(hs:xs.length≤1099511627776)(st:St)(hg: ∀t∈xs,W.call g (a++[Q3 t]++b) st=some (.ret (.bool (p t)),st)):
  W.call 40 [.vec .plain (some 4) (Zx xs), .fn g a b] st=some (.ret (.bool (xs.any p)),st):=by
 have h:=zoy hp xs hs st hg _ 0 rfl (Nat.zero_le _)
 rw[C,YV,C,Xl]
 simp only[List.drop_zero,Int.natCast_zero]at h
 rcases h with⟨j,h1,h2⟩|⟨h1,h2⟩
 ·simp[h2,h1,Yj]
 ·simp[h2,h1,Yj]
end Go.Proofs.SZ
namespace Go.Proofs.SZ
open Go Go.AM
set_option maxRecDepth 20000
theorem X8(O:Oracle)(l0:(List V))(g1:Nat)(l2:(List V))(l3:(List V))(st:St):Zf Tryz.prog cfg O 42 [.vec .plain (some 5) l0, .fn g1 l2 l3] st=
 Za (O.call 76 [V.vec .plain (some 5) l0,V.fn g1 l2 l3] st) fun r1=>Zj r1.fst (fun v2=>Zp v2 fun n3=>Y6 (List.length st)
 (V.bool (decide (n3≥0))) r1.snd) fun p4=>none:=by kernel_rfl
theorem XN(O:Oracle)(l0:(List V))(g1:Nat)(l2:(List V))(l3:(List V))(st:St):Zf Tryz.prog cfg O 76 [.vec .plain (some 5) l0, .fn g1 l2 l3] st=
 Za (O.loop 76 2 [V.int 0,V.vec .plain (some 5) l0,V.fn g1 l2 l3,V.int (↑l0.length:Int)] st) fun r1=>Xj r1.fst none (Ze
 r1.snd.fst fun v2 c3=>Zp v2 fun n4=>Zh c3 (Y6 (List.length st) (V.int n4) r1.snd.snd)) (fun i5=>bc (i5.beq 0) (Zh r1.snd.fst (Y6 (List.length st) (V.int (-1))
 r1.snd.snd)) none) fun v6=>none:=by kernel_rfl
theorem Y5(O:Oracle)(n0:Int)(l1:(List V))(g2:Nat)(l3:(List V))(l4:(List V))(n5:Int)(st:St):Z8 Tryz.prog cfg O 76 2 [.int n0, .vec .plain (some 5) l1, .fn g2 l3 l4, .int n5] st=
 bc (decide (n0<n5)) (gd (decide (0≤n0)&&decide (n0<(↑l1.length:Int))) (Zc [CT.slice (some 3),CT.int,CT.int,CT.slice (some 3),CT.bool] (ZW l1 n0) fun l1_1 n2
 n3 l4_1 b5=>bc (cfg.pure g2) (Za (Zr O g2 (l3++[V.agg [V.vec .plain (some 3) l1_1,V.int n2,V.int n3,V.vec .plain (some 3) l4_1,V.bool b5]]++l4)) fun r6=>Zm
 r6 fun b7=>bc b7 (some (Ex.ret,[V.int n0],st)) (O.2 76 2 [V.int (IntKind.i64.wrap (n0+1)),V.vec .plain (some 5) l1,V.fn g2 l3 l4,
 V.int n5] st)) (Za (O.call g2 (l3++[V.agg [V.vec .plain (some 3) l1_1,V.int n2,V.int n3,V.vec .plain (some 3) l4_1,V.bool b5]]++l4) st) fun r8=>Zj r8.fst (fun v9
 =>Zm v9 fun b10=>bc b10 (some (Ex.ret,[V.int n0],r8.snd)) (O.2 76 2 [V.int (IntKind.i64.wrap (n0+1)),V.vec .plain (some 5)
 l1,V.fn g2 l3 l4,V.int n5] r8.snd)) fun p11=>none))) (some (Ex.exit 0,[],st)):=by kernel_rfl
end Go.Proofs.SZ
namespace Go.Proofs.SZ
open Go Go.AM Go.Ama
theorem zoz{g:Nat}{a b:List V}(hp:cfg.pure g=false){p:M→Bool}(xs:List M)(hs:xs.length≤1099511627776)(st:St)(hg: ∀t∈xs,W.call g (a++[zdT t]++b) st=some (.ret (.bool (p t)),st)):
  ∀(n i:Nat),xs.length-i=n→i≤xs.length→(∃j:Nat,(xs.drop i).any p=true∧W.loop 76 2 [.int (i:Int), .vec .plain (some 5) (XR xs), .fn g a b, .int xs.length] st=some (.ret,[.int (j:Int)],st))∨
   ((xs.drop i).any p=false∧W.loop 76 2 [.int (i:Int), .vec .plain (some 5) (XR xs), .fn g a b, .int xs.length] st=some (.exit 0,[],st)):=by
 intro n
 induction n with
 |zero=>
  intro i hn hi
  have:i=xs.length:=by omega
  subst this
  right
  refine⟨by simp, ?_⟩
  rw[L,Y5]
  simp
 |succ n ih=>
  intro i hn hi
  have hlt:i<xs.length:=by omega
  have hx:=hg xs[i] (List.getElem_mem hlt)
  have hd:xs.drop i=xs[i]::xs.drop (i+1):=List.drop_eq_getElem_cons hlt
  have hstep:W.loop 76 2 [.int (i:Int), .vec .plain (some 5) (XR xs), .fn g a b, .int xs.length] st=
    bc (p xs[i]) (some (.ret,[.int (i:Int)],st)) (W.loop 76 2 [.int ((i+1:Nat):Int), .vec .plain (some 5) (XR xs), .fn g a b, .int xs.length] st):=by
   rw[L,Y5,zjm hlt]
   rw[Z9 ⟨by omega,by omega⟩]
   have h1:(i:Int)<xs.length:=by omega
   have e1:V.agg [V.vec .plain (some 3) (Zl xs[i].ctx),V.int xs[i].t.k,V.int xs[i].t.h,V.vec .plain (some 3) (Zl xs[i].t.args),V.bool xs[i].param]=zdT xs[i]:=rfl
   simp only[h1,zgr,Int.natCast_nonneg,decide_true,Bool.and_self,Z6,Zq,onM,hp,Zn,e1,hx,Zb,Zk,Zs]
   rfl
  rw[hstep,hd,List.any_cons]
  cases hpx:p xs[i]with
  |true=>exact .inl ⟨i,rfl,rfl⟩
  |false=>
   simp only[bc,Bool.false_or]
   exact ih (i+1) (by omega) (by omega)
theorem zjz{g:Nat}{a b:List V}(hp:cfg.pure g=false){p:M→Bool}(xs:List M)(hs:xs.length≤1099511627776)(st:St)(hg: ∀t∈xs,W.call g (a++[zdT t]++b) st=some (.ret (.bool (p t)),st)):
  W.call 42 [.vec .plain (some 5) (XR xs), .fn g a b] st=some (.ret (.bool (xs.any p)),st):=by
 have h:=zoz hp xs hs st hg _ 0 rfl (Nat.zero_le _)
 rw[C,X8,C,XN]
 simp only[List.drop_zero,Int.natCast_zero]at h
 rcases h with⟨j,h1,h2⟩|⟨h1,h2⟩
 ·simp[h2,h1,Yj]
 ·simp[h2,h1,Yj]
end Go.Proofs.SZ
namespace Go.Proofs.SZ
open Go Go.AM
set_option maxRecDepth 20000
theorem zm5(O:Oracle)(l0:(List V))(l1:(List V))(l2:(List V))(n3:Int)(n4:Int)(l5:(List V)):Zf Tryz.prog cfg O 34 [.vec .plain (some 4) l0, .vec .plain (some 5) l1, .vec .plain (some 3) l2, .agg [.int n3, .int n4, .vec .plain (some 3) l5]] []=
 Za (Zr O 21 [V.agg [V.vec .plain (some 4) l0,V.vec .plain (some 5) l1,V.vec .plain (some 3) l2],V.vec .plain (some 3) [V.agg [V.int n3,V.int n4,V.vec
 .plain (some 3) l5]]]) fun r1=>Zm r1 fun b2=>bc (!b2) (some (Out.ret (V.int 1),[])) (Za (Zr O 70 [V.agg [V.vec .plain (some 4) l0,V.vec .plain (some
 5) l1,V.vec .plain (some 3) l2],V.agg [V.int n3,V.int n4,V.vec .plain (some 3) l5]]) fun r3=>Zp r3 fun n4=>some (Out.ret (V.int n4),[])):=by kernel_rfl
theorem zm6(O:Oracle)(l0:(List V))(l1:(List V))(l2:(List V))(n3:Int)(n4:Int)(l5:(List V)):Zf Tryz.prog cfg O 33 [.vec .plain (some 4) l0, .vec .plain (some 5) l1, .vec .plain (some 3) l2, .agg [.int n3, .int n4, .vec .plain (some 3) l5]] []=
 Za (Zr O 21 [V.agg [V.vec .plain (some 4) l0,V.vec .plain (some 5) l1,V.vec .plain (some 3) l2],V.vec .plain (some 3) [V.agg [V.int n3,V.int n4,V.vec
 .plain (some 3) l5]]]) fun r1=>Zm r1 fun b2=>bc (!b2) (some (Out.ret (V.int 1),[])) (Za (Zr O 69 [V.agg [V.vec .plain (some 4) l0,V.vec .plain
 (some 5) l1,V.vec .plain (some 3) l2],V.agg [V.int n3,V.int n4,V.vec .plain (some 3) l5]]) fun r3=>Zp r3 fun n4=>some (Out.ret (V.int n4),[])):=by kernel_rfl
theorem zgu(O:Oracle)(l0:(List V))(l1:(List V))(l2:(List V))(l3:(List V)):Zf Tryz.prog cfg O 21 [.agg [.vec .plain (some 4) l0, .vec .plain (some 5) l1, .vec .plain (some 3) l2], .vec .plain (some 3) l3] []=
 bc (decide ((↑l2.length:Int)>1000)) (some (Out.ret (V.bool false),[])) (Za (O.call 38 [V.vec .plain (some 3) l3,V.fn
 37 [] []] []) fun r1=>Zj r1.fst (fun v2=>Zm v2 fun b3=>bc b3 (some (Out.ret (V.bool false),[])) (Za (O.call
 38 [V.vec .plain (some 3) l2,V.fn 37 [] []] r1.snd) fun r4=>Zj r4.fst (fun v5=>Zm v5 fun b6=>bc b6 (some
 (Out.ret (V.bool false),[])) (Za (O.call 40 [V.vec .plain (some 4) l0,V.fn 41 [] [V.cptr none (V.fn 37
 [] [])]] r4.snd) fun r7=>Zj r7.fst (fun v8=>Zm v8 fun b9=>bc (!b9) (Za (O.call 42 [V.vec .plain (some 5) l1,V.fn
 39 [] [V.cptr none (V.fn 37 [] [])]] r7.snd) fun r10=>Zj r10.fst (fun v11=>Zm v11 fun b12=>some (Out.ret (V.bool !b12),[])) fun p13
 =>none) (some (Out.ret (V.bool false),[]))) fun p14=>none)) fun p15=>none)) fun p16=>none):=by kernel_rfl
theorem zgv(O:Oracle)(l0:(List V))(l1:(List V))(l2:(List V))(n3:Int)(n4:Int)(l5:(List V)):Zf Tryz.prog cfg O 70 [.agg [.vec .plain (some 4) l0, .vec .plain (some 5) l1, .vec .plain (some 3) l2], .agg [.int n3, .int n4, .vec .plain (some 3) l5]] []=
 bc (n3==1) (Za (O.call 89 [V.agg [V.vec .plain (some 4) l0,V.vec .plain (some 5) l1,V.vec .plain (some 3) l2],V.agg [V.int n3,V.int n4,V.vec .plain (some
 3) l5],V.fn 70 [] []] []) fun r1=>Zj r1.fst (fun v2=>Zp v2 fun n3=>some (Out.ret (V.int n3),[])) fun p4=>none) (bc (n3==2) (Za (Zr O
 79 [V.agg [V.vec .plain (some 4) l0,V.vec .plain (some 5) l1,V.vec .plain (some 3) l2],V.int n4,V.bool true]) fun r5=>Z2 r5 fun c6=>Ze c6 fun v7
 c8=>Zc [CT.int,CT.int,CT.slice (some 3)] v7 fun n9 n10 l11=>Ze c8 fun v12 c13=>Zp v12 fun n14=>Zh c13 (bc (n14==0) (Za (Zr O 77
 [V.agg [V.vec .plain (some 4) l0,V.vec .plain (some 5) l1,V.vec .plain (some 3) l2],V.agg [V.int n9,V.int n10,V.vec .plain (some 3) l11],V.vec .plain (some 3) l5]) fun r15
 =>Z2 r15 fun c16=>Ze c16 fun v17 c18=>Zc [CT.int,CT.int,CT.slice (some 3)] v17 fun n19 n20 l21=>Ze c18 fun v22 c23=>Zp v22 fun n24=>Zh c23 (bc
 (n24==0) (bc (n19 !=0) (some (Out.ret (V.int 3),[])) (some (Out.ret (V.int n24),[]))) (some (Out.ret (V.int n24),[])))) (bc (n14==0) (bc (n9 !=0) (some (Out.ret (V.int
 3),[])) (some (Out.ret (V.int n14),[]))) (some (Out.ret (V.int n14),[]))))) (some (Out.ret (V.int 3),[]))):=by kernel_rfl
theorem zf2(O:Oracle)(l0:(List V))(l1:(List V))(l2:(List V))(n3:Int)(n4:Int)(l5:(List V))(n6:Int)(n7:Int)(l8:(List V)):Zf Tryz.prog cfg O 22 [.agg [.vec .plain (some 4) l0, .vec .plain (some 5) l1, .vec .plain (some 3) l2], .agg [.int n3, .int n4, .vec .plain (some 3) l5], .agg [.int n6, .int n7, .vec .plain (some 3) l8]] []=
 bc (n3==3) (bc (n6==1) (gd (true&&decide (0<(↑l8.length:Int))) (Zc [CT.int,CT.int,CT.slice (some 3)] (ZW l8 0) fun n1 n2 l3=>Za (Zr O
 43 [V.agg [V.vec .plain (some 4) l0,V.vec .plain (some 5) l1,V.vec .plain (some 3) l2],V.agg [V.int n1,V.int n2,V.vec .plain (some 3) l3]]) fun r4=>Zc
 [CT.slice (some 4),CT.slice (some 5),CT.slice (some 3)] r4 fun l5_1 l6 l7=>gd (true&&decide (0<(↑l5.length:Int))) (Zc [CT.int,CT.int,CT.slice (some 3)] (ZW l5
 0) fun n8 n9 l10=>gd (true&&decide (1<(↑l8.length:Int))) (Zc [CT.int,CT.int,CT.slice (some 3)] (ZW l8 1) fun n11 n12 l13=>Za (Zr O 22
 [V.agg [V.vec .plain (some 4) l5_1,V.vec .plain (some 5) l6,V.vec .plain (some 3) l7],V.agg [V.int n8,V.int n9,V.vec .plain (some 3) l10],V.agg [V.int n11,V.int n12,V.vec
 .plain (some 3) l13]]) fun r14=>Zp r14 fun n15=>some (Out.ret (V.int n15),[]))))) (bc (n3==3) (some (Out.ret (V.int 3),[])) (bc (n6 !=2) (some (Out.ret (V.int 3),[]))
 (gd (decide (0≤n3)&&decide (n3<7)) (gd (decide (n3.toNat*1+1≤7)&&true) (zb3 (AM.partOf [V.fn 44 [] [],V.fn 44 [] [],V.fn
 44 [] [],V.fn 44 [] [],V.fn 45 [] [],V.fn 46 [] [],V.fn 47 [] []] (n3.toNat*1) none)
 (fun g16 a17 b18=>bc (cfg.pure g16) (Za (Zr O g16 (a17++[V.agg [V.vec .plain (some 4) l0,V.vec .plain (some 5) l1,V.vec .plain (some 3) l2],V.agg [V.int n3,V.int n4,
 V.vec .plain (some 3) l5]]++b18)) fun r19=>Z2 r19 fun c20=>Ze c20 fun v21 c22=>Zc [CT.int,CT.int,CT.slice (some 3)] v21 fun n23 n24 l25=>Ze c22 fun
 v26 c27=>Zp v26 fun n28=>Zh c27 (bc (n28==0) (Za (Zr O 13 [V.agg [V.int n23,V.int n24,V.vec .plain (some 3) l25],V.agg [V.int n6,V.int n7,V.vec
 .plain (some 3) l8]]) fun r29=>Zm r29 fun b30=>bc (!b30) (some (Out.ret (V.int 3),[])) (some (Out.ret (V.int n28),[]))) (some (Out.ret (V.int n28),[])))) (Za (O.call
 g16 (a17++[V.agg [V.vec .plain (some 4) l0,V.vec .plain (some 5) l1,V.vec .plain (some 3) l2],V.agg [V.int n3,V.int n4,V.vec .plain (some 3) l5]]++b18) []) fun r31=>
 Zj r31.fst (fun v32=>Z2 v32 fun c33=>Ze c33 fun v34 c35=>Zc [CT.int,CT.int,CT.slice (some 3)] v34 fun n36 n37 l38=>Ze c35 fun v39 c40=>Zp v39
 fun n41=>Zh c40 (bc (n41==0) (Za (Zr O 13 [V.agg [V.int n36,V.int n37,V.vec .plain (some 3) l38],V.agg [V.int n6,V.int n7,V.vec .plain (some 3) l8]])
 fun r42=>Zm r42 fun b43=>bc (!b43) (some (Out.ret (V.int 3),[])) (some (Out.ret (V.int n41),[]))) (some (Out.ret (V.int n41),[])))) fun p44=>none)) fun l45=>
 none)))))) (bc (n3==3) (some (Out.ret (V.int 3),[])) (bc (n6 !=2) (some (Out.ret (V.int 3),[])) (gd (decide (0≤n3)&&decide (n3<7)) (gd (decide (n3.toNat*1+1≤7)&&
 true) (zb3 (AM.partOf [V.fn 44 [] [],V.fn 44 [] [],V.fn 44 [] [],V.fn 44 [] [],V.fn 45 []
 [],V.fn 46 [] [],V.fn 47 [] []] (n3.toNat*1) none) (fun g46 a47 b48=>bc (cfg.pure g46) (Za (Zr O g46 (a47++[V.agg [V.vec .plain
 (some 4) l0,V.vec .plain (some 5) l1,V.vec .plain (some 3) l2],V.agg [V.int n3,V.int n4,V.vec .plain (some 3) l5]]++b48)) fun r49=>Z2 r49 fun c50=>Ze c50 fun v51
 c52=>Zc [CT.int,CT.int,CT.slice (some 3)] v51 fun n53 n54 l55=>Ze c52 fun v56 c57=>Zp v56 fun n58=>Zh c57 (bc (n58==0) (Za (Zr O 13
 [V.agg [V.int n53,V.int n54,V.vec .plain (some 3) l55],V.agg [V.int n6,V.int n7,V.vec .plain (some 3) l8]]) fun r59=>Zm r59 fun b60=>bc (!b60) (some (Out.ret (V.int
 3),[])) (some (Out.ret (V.int n58),[]))) (some (Out.ret (V.int n58),[])))) (Za (O.call g46 (a47++[V.agg [V.vec .plain (some 4) l0,V.vec .plain (some 5) l1,V.vec .plain
 (some 3) l2],V.agg [V.int n3,V.int n4,V.vec .plain (some 3) l5]]++b48) []) fun r61=>Zj r61.fst (fun v62=>Z2 v62 fun c63=>Ze c63 fun v64 c65=>Zc
 [CT.int,CT.int,CT.slice (some 3)] v64 fun n66 n67 l68=>Ze c65 fun v69 c70=>Zp v69 fun n71=>Zh c70 (bc (n71==0) (Za (Zr O 13 [V.agg [V.int n66,
 V.int n67,V.vec .plain (some 3) l68],V.agg [V.int n6,V.int n7,V.vec .plain (some 3) l8]]) fun r72=>Zm r72 fun b73=>bc (!b73) (some (Out.ret (V.int 3),[])) (some
 (Out.ret (V.int n71),[]))) (some (Out.ret (V.int n71),[])))) fun p74=>none)) fun l75=>none))))):=by kernel_rfl
theorem zf3(O:Oracle)(l0:(List V))(l1:(List V))(l2:(List V))(n3:Int)(n4:Int)(l5:(List V)):Zf Tryz.prog cfg O 69 [.agg [.vec .plain (some 4) l0, .vec .plain (some 5) l1, .vec .plain (some 3) l2], .agg [.int n3, .int n4, .vec .plain (some 3) l5]] []=
 bc (n3==0) (some (Out.ret (V.int 0),[])) (bc (n3==1) (Za (O.call 89 [V.agg [V.vec .plain (some 4) l0,V.vec .plain (some 5) l1,V.vec .plain (some 3) l2],
 V.agg [V.int n3,V.int n4,V.vec .plain (some 3) l5],V.fn 69 [] []] []) fun r1=>Zj r1.fst (fun v2=>Zp v2 fun n3=>some (Out.ret (V.int n3),[])) fun p4
 =>none) (some (Out.ret (V.int 3),[]))):=by kernel_rfl
theorem ze7(O:Oracle)(n0:Int)(n1:Int)(l2:(List V)):Zf Tryz.prog cfg O 37 [.agg [.int n0, .int n1, .vec .plain (some 3) l2]] []=
 Za (Zr O 24 [V.agg [V.int n0,V.int n1,V.vec .plain (some 3) l2]]) fun r1=>Zm r1 fun b2=>some (Out.ret (V.bool !b2),[]):=by kernel_rfl
theorem ze8(O:Oracle)(l0:(List V))(n1:Int)(n2:Int)(l3:(List V))(b4:Bool)(st:St):Zf Tryz.prog cfg O 39 [.agg [.vec .plain (some 3) l0, .int n1, .int n2, .vec .plain (some 3) l3, .bool b4], .cptr none (.fn 37 [] [])] st=
 Za (Zr O 37 [V.agg [V.int n1,V.int n2,V.vec .plain (some 3) l3]]) fun r1=>Zm r1 fun b2=>bc b2 (Y6 (List.length st) (V.bool true) st) (Za
 (O.call 38 [V.vec .plain (some 3) l0,V.fn 37 [] []] st) fun r3=>Zj r3.fst (fun v4=>Zm v4 fun b5=>Y6
 (List.length st) (V.bool b5) r3.snd) fun p6=>none):=by kernel_rfl
theorem ze9(O:Oracle)(s0:ByteArray)(n1:Int)(n2:Int)(l3:(List V))(st:St):Zf Tryz.prog cfg O 41 [.agg [.str s0, .int n1, .int n2, .vec .plain (some 3) l3], .cptr none (.fn 37 [] [])] st=
 Za (Zr O 37 [V.agg [V.int n1,V.int n2,V.vec .plain (some 3) l3]]) fun r1=>Zm r1 fun b2=>Y6 (List.length st) (V.bool b2) st:=by kernel_rfl
theorem zf4(O:Oracle)(l0:(List V))(l1:(List V))(l2:(List V))(n3:Int)(n4:Int)(l5:(List V))(g6:Nat)(l7:(List V))(l8:(List V))(st:St):Zf Tryz.prog cfg O 89 [.agg [.vec .plain (some 4) l0, .vec .plain (some 5) l1, .vec .plain (some 3) l2], .agg [.int n3, .int n4, .vec .plain (some 3) l5], .fn g6 l7 l8] st=
 gd (true&&decide (0<(↑l5.length:Int))) (Zc [CT.int,CT.int,CT.slice (some 3)] (ZW l5 0) fun n1 n2 l3=>Za (Zr O 70 [V.agg [V.vec .plain (some
 4) l0,V.vec .plain (some 5) l1,V.vec .plain (some 3) l2],V.agg [V.int n1,V.int n2,V.vec .plain (some 3) l3]]) fun r4=>Zp r4 fun n5=>bc (n5 !=0) (Y6 (List.length st)
 (V.int n5) st) (gd (true&&decide (0<(↑l5.length:Int))) (Zc [CT.int,CT.int,CT.slice (some 3)] (ZW l5 0) fun n6 n7 l8_1=>Za (Zr O 43 [V.agg
 [V.vec .plain (some 4) l0,V.vec .plain (some 5) l1,V.vec .plain (some 3) l2],V.agg [V.int n6,V.int n7,V.vec .plain (some 3) l8_1]]) fun r9=>Zc [CT.slice (some 4),
 CT.slice (some 5),CT.slice (some 3)] r9 fun l10 l11 l12=>gd (true&&decide (1<(↑l5.length:Int))) (Zc [CT.int,CT.int,CT.slice (some 3)] (ZW l5 1) fun n13 n14 l15
 =>bc (cfg.pure g6) (Za (Zr O g6 (l7++[V.agg [V.vec .plain (some 4) l10,V.vec .plain (some 5) l11,V.vec .plain (some 3) l12],V.agg [V.int n13,V.int n14,V.vec .plain
 (some 3) l15]]++l8)) fun r16=>Zp r16 fun n17=>Y6 (List.length st) (V.int n17) st) (Za (O.call g6 (l7++[V.agg [V.vec .plain (some 4) l10,V.vec .plain (some 5) l11,
 V.vec .plain (some 3) l12],V.agg [V.int n13,V.int n14,V.vec .plain (some 3) l15]]++l8) st) fun r18=>Zj r18.fst (fun v19=>Zp v19 fun n20=>Y6 (List.length st)
 (V.int n20) r18.snd) fun p21=>none))))):=by kernel_rfl
theorem zc3(O:Oracle)(l0:(List V))(l1:(List V))(l2:(List V))(n3:Int)(b4:Bool):Zf Tryz.prog cfg O 79 [.agg [.vec .plain (some 4) l0, .vec .plain (some 5) l1, .vec .plain (some 3) l2], .int n3, .bool b4] []=
 bc (decide (n3≥(↑l0.length:Int))) (some (Out.ret (V.tup [V.agg [V.int 0,V.int 0,V.vec .plain (some 3) []],V.int 2]),[])) (gd (decide (0≤n3)&&decide (n3<(↑l0.length:
 Int))) (Y3 (ZW l0 n3) fun c1=>gd (decide (4≤c1.length)) (onCells [CT.int,CT.int,CT.slice (some 3)] (List.take 3 (List.drop 1 c1)) fun n2 n3_1 l4=>Za (Zr O
 32 [V.agg [V.int n2,V.int n3_1,V.vec .plain (some 3) l4]]) fun r5=>Zm r5 fun b6=>bc (!b6==b4) (some (Out.ret (V.tup [V.agg [V.int 0,V.int 0,V.vec .plain
 (some 3) []],V.int 2]),[])) (gd (decide (0≤n3)&&decide (n3<(↑l0.length:Int))) (Y3 (ZW l0 n3) fun c7=>gd (decide (4≤c7.length)) (onCells [CT.int,CT.int,
 CT.slice (some 3)] (List.take 3 (List.drop 1 c7)) fun n8 n9 l10=>gd (below 0 (V.tup [V.agg [V.int n8,V.int n9,V.vec .plain (some 3) l10],V.int 0])&&true) (some (Out.ret
 (V.tup [V.agg [V.int n8,V.int n9,V.vec .plain (some 3) l10],V.int 0]),[])))))))):=by kernel_rfl
theorem zeA(O:Oracle)(l0:(List V))(l1:(List V))(l2:(List V))(n3:Int)(n4:Int)(l5:(List V))(l6:(List V)):Zf Tryz.prog cfg O 77 [.agg [.vec .plain (some 4) l0, .vec .plain (some 5) l1, .vec .plain (some 3) l2], .agg [.int n3, .int n4, .vec .plain (some 3) l5], .vec .plain (some 3) l6] []=
 Za (O.loop 77 2 [V.loc true (some 3) (V.agg [V.int 0,V.int 0,V.vec Mode.full (some 3) []]),V.int 0,V.loc false (some 3) (V.agg [V.int n3,V.int n4,V.vec
 .plain (some 3) l5]),V.loc false (some 3) (V.agg [V.vec .plain (some 4) l0,V.vec .plain (some 5) l1,V.vec .plain (some 3) l2]),V.vec .plain (some 3) l6,V.int (↑l6.length:
 Int)] []) fun r1=>Xj r1.fst none (Ze r1.snd.fst fun v2 c3=>YN (some 3) v2 fun d4 v5=>Ze c3 fun v6 c7=>Zp v6 fun n8=>Zh c7 (gd (below 0 (V.tup [Zo
 v5,V.int n8])&&Zy 0 []) (some (Out.ret (V.tup [Zo v5,V.int n8]),[])))) (fun i9=>bc (i9.beq 0) (Ze r1.snd.fst fun v10 c11=>YN (some 3) v10 fun d12 v13=>
 Ze c11 fun v14 c15=>YN (some 3) v14 fun d16 v17=>Zc [CT.int,CT.int,CT.slice (some 3)] (bif d16 then Zo v17 else v17) fun n18 n19 l20=>Zh c15 (gd (below
 0 (V.tup [V.agg [V.int n18,V.int n19,V.vec .plain (some 3) l20],V.int 0])&&Zy 0 []) (some (Out.ret (V.tup [V.agg [V.int n18,V.int n19,V.vec .plain (some 3) l20],V.int
 0]),[])))) none) fun v21=>none:=by kernel_rfl
theorem J4(O:Oracle)(v0:V)(n1:Int)(n2:Int)(n3:Int)(l4:(List V))(l5:(List V))(l6:(List V))(l7:(List V))(l8:(List V))(n9:Int):Z8 Tryz.prog cfg O 77 2 [.loc true (some 3) v0, .int n1, .loc false (some 3) (.agg [.int n2, .int n3, .vec .plain (some 3) l4]), .loc false (some 3) (.agg [.vec .plain (some 4) l5, .vec .plain (some 5) l6, .vec .plain (some 3) l7]), .vec .plain (some 3) l8, .int n9] []=
 bc (decide (n1<n9)) (gd (decide (0≤n1)&&decide (n1<(↑l8.length:Int))) (Zc [CT.int,CT.int,CT.slice (some 3)] (ZW l8 n1) fun n1_1 n2_1 l3=>bc (n2 !=1) (some
 (Ex.ret,[V.loc false (some 3) (V.agg [V.int 0,V.int 0,V.vec .plain (some 3) []]),V.int 3],[])) (gd (true&&decide (0<(↑l4.length:Int))) (Zc [CT.int,CT.int,
 CT.slice (some 3)] (ZW l4 0) fun n4 n5 l6_1=>Za (Zr O 22 [V.agg [V.vec .plain (some 4) l5,V.vec .plain (some 5) l6,V.vec .plain (some 3) l7],V.agg
 [V.int n1_1,V.int n2_1,V.vec .plain (some 3) l3],V.agg [V.int n4,V.int n5,V.vec .plain (some 3) l6_1]]) fun r7=>Zp r7 fun n8=>bc (n8 !=0) (some (Ex.ret,[V.loc false
 (some 3) (V.agg [V.int 0,V.int 0,V.vec .plain (some 3) []]),V.int n8],[])) (gd (true&&decide (1<(↑l4.length:Int))) (Zc [CT.int,CT.int,CT.slice (some 3)] (ZW l4
 1) fun n9_1 n10 l11=>Za (Zr O 80 [V.agg [V.int n9_1,V.int n10,V.vec .plain (some 3) l11],V.agg [V.vec .plain (some 3) [V.agg [V.int n1_1,V.int n2_1,V.vec
 .plain (some 3) l3]],V.int 0]]) fun r12=>Z2 r12 fun c13=>Ze c13 fun v14 c15=>Zc [CT.int,CT.int,CT.slice (some 3)] v14 fun n16 n17 l18=>Ze c15 fun v19
 c20=>Zp v19 fun n21=>Zh c20 (bc (n21 !=0) (some (Ex.ret,[V.loc false (some 3) (V.agg [V.int 0,V.int 0,V.vec .plain (some 3) []]),V.int n21],[])) (O.2
 77 2 [V.loc true (some 3) v0,V.int (IntKind.i64.wrap (n1+1)),V.loc false (some 3) (V.agg [V.int n16,V.int n17,V.vec .plain (some 3) l18]),V.loc false (some
 3) (V.agg [V.vec .plain (some 4) l5,V.vec .plain (some 5) l6,V.vec .plain (some 3) l7]),V.vec .plain (some 3) l8,V.int n9] [])))))))) (some (Ex.exit 0,[V.loc true (some 3)
 v0,V.loc false (some 3) (V.agg [V.int n2,V.int n3,V.vec .plain (some 3) l4])],[])):=by kernel_rfl
theorem zf5(O:Oracle)(l0:(List V))(l1:(List V))(l2:(List V))(n3:Int)(n4:Int)(l5:(List V)):Zf Tryz.prog cfg O 43 [.agg [.vec .plain (some 4) l0, .vec .plain (some 5) l1, .vec .plain (some 3) l2], .agg [.int n3, .int n4, .vec .plain (some 3) l5]] []=
 gd (true&&decide (0≤(↑l2.length:Int))&&decide ((↑l2.length:Int)≤(↑l2.length:Int))) (gd (decide ((↑l2.length:Int)=(↑l2.length:Int))&&(some (V.int (↑l2.length
 :Int))).isSome) (gd (true&&roomFor Tryz.prog 25 ((List.drop 0 (List.take (↑l2.length:Int).toNat l2)).length+[V.agg [V.int n3,V.int n4,V.vec .plain (some 3)
 l5]].length)) (gd (below 0 (V.agg [V.vec .plain (some 4) l0,V.vec .plain (some 5) l1,V.vec .plain (some 3) (List.drop 0 (List.take (↑l2.length:Int).toNat l2)++[V.agg [V.int
 n3,V.int n4,V.vec .plain (some 3) l5]])])&&true) (some (Out.ret (V.agg [V.vec .plain (some 4) l0,V.vec .plain (some 5) l1,V.vec .plain (some 3) (List.drop 0 (List.take
 (↑l2.length:Int).toNat l2)++[V.agg [V.int n3,V.int n4,V.vec .plain (some 3) l5]])]),[]))))):=by kernel_rfl
theorem zf6(O:Oracle)(l0:(List V))(l1:(List V))(l2:(List V))(n3:Int)(n4:Int)(l5:(List V)):Zf Tryz.prog cfg O 44 [.agg [.vec .plain (some 4) l0, .vec .plain (some 5) l1, .vec .plain (some 3) l2], .agg [.int n3, .int n4, .vec .plain (some 3) l5]] []=
 some (Out.ret (V.tup [V.agg [V.int 0,V.int 0,V.vec .plain (some 3) []],V.int 3]),[]):=by kernel_rfl
theorem zc4(O:Oracle)(l0:(List V))(l1:(List V))(l2:(List V))(n3:Int)(n4:Int)(l5:(List V)):Zf Tryz.prog cfg O 45 [.agg [.vec .plain (some 4) l0, .vec .plain (some 5) l1, .vec .plain (some 3) l2], .agg [.int n3, .int n4, .vec .plain (some 3) l5]] []=
 bc (decide (n4≥(↑l2.length:Int))) (some (Out.ret (V.tup [V.agg [V.int 0,V.int 0,V.vec .plain (some 3) []],V.int 2]),[])) (gd (decide (0≤IntKind.i64.wrap
 (IntKind.i64.wrap ((↑l2.length:Int)-1)-n4))&&decide (IntKind.i64.wrap (IntKind.i64.wrap ((↑l2.length:Int)-1)-n4)<(↑l2.length:Int))) (Zc [CT.int,CT.int,
 CT.slice (some 3)] (ZW l2 (IntKind.i64.wrap (IntKind.i64.wrap ((↑l2.length:Int)-1)-n4))) fun n1 n2 l3=>Za (Zr O 78 [V.agg [V.int n1,V.int n2,V.vec .plain
 (some 3) l3],V.int (IntKind.i64.wrap (n4+1)),V.int 0]) fun r4=>Zc [CT.int,CT.int,CT.slice (some 3)] r4 fun n5 n6 l7=>Za (Zr O 77 [V.agg
 [V.vec .plain (some 4) l0,V.vec .plain (some 5) l1,V.vec .plain (some 3) l2],V.agg [V.int n5,V.int n6,V.vec .plain (some 3) l7],V.vec .plain (some 3) l5]) fun r8=>Z2 r8
 fun c9=>Ze c9 fun v10 c11=>Zc [CT.int,CT.int,CT.slice (some 3)] v10 fun n12 n13 l14=>Ze c11 fun v15 c16=>Zp v15 fun n17=>Zh c16 (gd (below 0 (V.tup
 [V.agg [V.int n12,V.int n13,V.vec .plain (some 3) l14],V.int n17])&&true) (some (Out.ret (V.tup [V.agg [V.int n12,V.int n13,V.vec .plain (some 3) l14],V.int n17]),[]))))):=by kernel_rfl
theorem zc5(O:Oracle)(l0:(List V))(l1:(List V))(l2:(List V))(n3:Int)(n4:Int)(l5:(List V)):Zf Tryz.prog cfg O 46 [.agg [.vec .plain (some 4) l0, .vec .plain (some 5) l1, .vec .plain (some 3) l2], .agg [.int n3, .int n4, .vec .plain (some 3) l5]] []=
 Za (Zr O 79 [V.agg [V.vec .plain (some 4) l0,V.vec .plain (some 5) l1,V.vec .plain (some 3) l2],V.int n4,V.bool false]) fun r1=>Z2 r1 fun c2=>
 Ze c2 fun v3 c4=>Zc [CT.int,CT.int,CT.slice (some 3)] v3 fun n5 n6 l7=>Ze c4 fun v8 c9=>Zp v8 fun n10=>Zh c9 (bc (n10 !=0) (some (Out.ret (V.tup
 [V.agg [V.int 0,V.int 0,V.vec .plain (some 3) []],V.int n10]),[])) (Za (Zr O 77 [V.agg [V.vec .plain (some 4) l0,V.vec .plain (some 5) l1,V.vec .plain
 (some 3) l2],V.agg [V.int n5,V.int n6,V.vec .plain (some 3) l7],V.vec .plain (some 3) l5]) fun r11=>Z2 r11 fun c12=>Ze c12 fun v13 c14=>Zc [CT.int,CT.int,
 CT.slice (some 3)] v13 fun n15 n16 l17=>Ze c14 fun v18 c19=>Zp v18 fun n20=>Zh c19 (gd (below 0 (V.tup [V.agg [V.int n15,V.int n16,V.vec .plain (some 3) l17],
 V.int n20])&&true) (some (Out.ret (V.tup [V.agg [V.int n15,V.int n16,V.vec .plain (some 3) l17],V.int n20]),[]))))):=by kernel_rfl
theorem zf7(O:Oracle)(l0:(List V))(l1:(List V))(l2:(List V))(n3:Int)(n4:Int)(l5:(List V)):Zf Tryz.prog cfg O 47 [.agg [.vec .plain (some 4) l0, .vec .plain (some 5) l1, .vec .plain (some 3) l2], .agg [.int n3, .int n4, .vec .plain (some 3) l5]] []=
 bc (decide (n4≥(↑l1.length:Int))) (some (Out.ret (V.tup [V.agg [V.int 0,V.int 0,V.vec .plain (some 3) []],V.int 2]),[])) (gd (decide (0≤n4)&&decide (n4<(↑l1.length:
 Int))) (Zc [CT.slice (some 3),CT.int,CT.int,CT.slice (some 3),CT.bool] (ZW l1 n4) fun l1_1 n2 n3_1 l4 b5=>bc ((↑l1_1.length:Int) !=(↑l5.length:Int)) (some
 (Out.ret (V.tup [V.agg [V.int 0,V.int 0,V.vec .plain (some 3) []],V.int 3]),[])) (Za (O.loop 47 7 [V.loc true (some 3) (V.agg [V.int 0,V.int 0,V.vec
 Mode.full (some 3) []]),V.int 0,V.loc false (some 3) (V.agg [V.int n3,V.int n4,V.vec .plain (some 3) l5]),V.loc false (some 3) (V.agg [V.vec .plain (some 4) l0,V.vec .plain
 (some 5) l1,V.vec .plain (some 3) l2]),V.vec .plain (some 3) l1_1,V.loc false (some 5) (V.agg [V.vec .plain (some 3) l1_1,V.int n2,V.int n3_1,V.vec .plain (some 3) l4,
 V.bool b5]),V.int (↑l1_1.length:Int)] []) fun r6=>Xj r6.fst none (Ze r6.snd.fst fun v7 c8=>YN (some 3) v7 fun d9 v10=>Ze c8 fun v11 c12=>Zp v11 fun n13
 =>Zh c12 (gd (below 0 (V.tup [Zo v10,V.int n13])&&Zy 0 []) (some (Out.ret (V.tup [Zo v10,V.int n13]),[])))) (fun i14=>bc (i14.beq 0) (Ze r6.snd.fst fun
 v15 c16=>YN (some 3) v15 fun d17 v18=>Ze c16 fun v19 c20=>YN (some 3) v19 fun d21 v22=>Zc [CT.slice (some 4),CT.slice (some 5),CT.slice (some 3)] (bif
 d21 then Zo v22 else v22) fun l23 l24 l25=>Ze c20 fun v26 c27=>YN (some 3) v26 fun d28 v29=>Zc [CT.int,CT.int,CT.slice (some 3)] (bif d28 then Zo v29
 else v29) fun n30 n31 l32=>Ze c27 fun v33 c34=>YN (some 5) v33 fun d35 v36=>Zc [CT.slice (some 3),CT.int,CT.int,CT.slice (some 3),CT.bool] (bif d35 then
 Zo v36 else v36) fun l37 n38 n39 l40 b41=>Zh c34 (Za (Zr O 80 [V.agg [V.int n38,V.int n39,V.vec .plain (some 3) l40],V.agg [V.vec .plain (some 3) l32,
 V.int (↑l25.length:Int)]]) fun r42=>Z2 r42 fun c43=>Ze c43 fun v44 c45=>Zc [CT.int,CT.int,CT.slice (some 3)] v44 fun n46 n47 l48=>Ze c45 fun v49 c50
 =>Zp v49 fun n51=>Zh c50 (gd (below 0 (V.tup [V.agg [V.int n46,V.int n47,V.vec .plain (some 3) l48],V.int n51])&&Zy 0 []) (some (Out.ret (V.tup [V.agg [V.int
 n46,V.int n47,V.vec .plain (some 3) l48],V.int n51]),[]))))) none) fun v52=>none))):=by kernel_rfl
theorem J7(O:Oracle)(v0:V)(n1:Int)(n2:Int)(n3:Int)(l4:(List V))(l5:(List V))(l6:(List V))(l7:(List V))(l8:(List V))(l9:(List V))(n10:Int)(n11:Int)(l12:(List V))(b13:Bool)(n14:Int):Z8 Tryz.prog cfg O 47 7 [.loc true (some 3) v0, .int n1, .loc false (some 3) (.agg [.int n2, .int n3, .vec .plain (some 3) l4]), .loc false (some 3) (.agg [.vec .plain (some 4) l5, .vec .plain (some 5) l6, .vec .plain (some 3) l7]), .vec .plain (some 3) l8, .loc false (some 5) (.agg [.vec .plain (some 3) l9, .int n10, .int n11, .vec .plain (some 3) l12, .bool b13]), .int n14] []=
 bc (decide (n1<n14)) (gd (decide (0≤n1)&&decide (n1<(↑l8.length:Int))) (Zc [CT.int,CT.int,CT.slice (some 3)] (ZW l8 n1) fun n1_1 n2_1 l3=>gd (true&&decide
 (0≤n1)&&decide (n1≤(↑l4.length:Int))) (Za (Zr O 80 [V.agg [V.int n1_1,V.int n2_1,V.vec .plain (some 3) l3],V.agg [V.vec .plain (some 3) (List.drop 0
 (List.take n1.toNat l4)),V.int (↑l7.length:Int)]]) fun r4=>Z2 r4 fun c5=>Ze c5 fun v6 c7=>Zc [CT.int,CT.int,CT.slice (some 3)] v6 fun n8 n9 l10=>Ze
 c7 fun v11 c12=>Zp v11 fun n13=>Zh c12 (bc (n13==0) (gd (decide (0≤n1)&&decide (n1<(↑l4.length:Int))) (Zc [CT.int,CT.int,CT.slice (some 3)] (ZW l4
 n1) fun n14_1 n15 l16=>Za (Zr O 22 [V.agg [V.vec .plain (some 4) l5,V.vec .plain (some 5) l6,V.vec .plain (some 3) l7],V.agg [V.int n14_1,V.int n15,
 V.vec .plain (some 3) l16],V.agg [V.int n8,V.int n9,V.vec .plain (some 3) l10]]) fun r17=>Zp r17 fun n18=>bc (n18 !=0) (some (Ex.ret,[V.loc false (some 3) (V.agg
 [V.int 0,V.int 0,V.vec .plain (some 3) []]),V.int n18],[])) (O.2 47 7 [V.loc true (some 3) v0,V.int (IntKind.i64.wrap (n1+1)),V.loc false (some 3) (V.agg
 [V.int n2,V.int n3,V.vec .plain (some 3) l4]),V.loc false (some 3) (V.agg [V.vec .plain (some 4) l5,V.vec .plain (some 5) l6,V.vec .plain (some 3) l7]),V.vec .plain (some 3)
 l8,V.loc false (some 5) (V.agg [V.vec .plain (some 3) l9,V.int n10,V.int n11,V.vec .plain (some 3) l12,V.bool b13]),V.int n14] []))) (bc (n13 !=0) (some (Ex.ret,[V.loc
 false (some 3) (V.agg [V.int 0,V.int 0,V.vec .plain (some 3) []]),V.int n13],[])) (O.2 47 7 [V.loc true (some 3) v0,V.int (IntKind.i64.wrap (n1+1)),V.loc
 false (some 3) (V.agg [V.int n2,V.int n3,V.vec .plain (some 3) l4]),V.loc false (some 3) (V.agg [V.vec .plain (some 4) l5,V.vec .plain (some 5) l6,V.vec .plain (some 3) l7]),
 V.vec .plain (some 3) l8,V.loc false (some 5) (V.agg [V.vec .plain (some 3) l9,V.int n10,V.int n11,V.vec .plain (some 3) l12,V.bool b13]),V.int n14] [])))))) (some (Ex.exit
 0,[V.loc true (some 3) v0,V.loc false (some 3) (V.agg [V.vec .plain (some 4) l5,V.vec .plain (some 5) l6,V.vec .plain (some 3) l7]),V.loc false (some 3) (V.agg [V.int n2,
 V.int n3,V.vec .plain (some 3) l4]),V.loc false (some 5) (V.agg [V.vec .plain (some 3) l9,V.int n10,V.int n11,V.vec .plain (some 3) l12,V.bool b13])],[])):=by kernel_rfl
end Go.Proofs.SZ
namespace Go.Ama
open Go Go.AM
def YK(sig:List D)(i:Int)(kind:Bool):Option T:=
 if h:0≤i∧i<sig.length then(if decide ((split (sig[i.toNat]'(by omega)).t).2.k=0)=kind then some (sig[i.toNat]'(by omega)).t else none)else none
mutual
noncomputable def QL(sig:List D)(ms:List M):T→List T→T→Int
 | .mk k h as_,ctx,a=>
  if k=3∧a.k=1 then ztA sig ms as_ (ctx++[a.args.getD 0 T0]) (a.args.getD 1 T0)
  else if k=3∨a.k≠2 then 3
  else
   let r:T×Int:=
    if k=4 then(if(ctx.length:Int)≤h then(T0,2)else Yp sig ms as_ ctx (upP (ctx.getD (ctx.length-1-h.toNat) T0) (h+1) 0))
    else if k=5 then(match YK sig h false with|none=>(T0,2)|some t=>Yp sig ms as_ ctx t)
    else if k=6 then
     (if(ms.length:Int)≤h then(T0,2)
      else
      let d:=ms.getD h.toNat ⟨[],T0,false⟩
      if d.ctx.length≠as_.length then(T0,3)
      else
       let e:=zeY sig ms as_ ctx [] d.ctx
       if e≠0 then(T0,e)else Xa d.t as_ ctx.length)
    else(T0,3)
   if r.2≠0 then r.2 else if r.1.same a then 0 else 3
noncomputable def ztA(sig:List D)(ms:List M):List T→List T→T→Int
 |[],_,_=>3
 |b::_,ctx,a=>QL sig ms b ctx a
noncomputable def Yp(sig:List D)(ms:List M):List T→List T→T→T×Int
 |[],_,t=>(t,0)
 |a::as_,ctx,t=>
  if t.k≠1 then(T0,3)
  else
   let e:=QL sig ms a ctx (t.args.getD 0 T0)
   if e≠0 then(T0,e)
   else
    let u:=Xa (t.args.getD 1 T0) [a] 0
    if u.2≠0 then(T0,u.2)else Yp sig ms as_ ctx u.1
noncomputable def zeY(sig:List D)(ms:List M):List T→List T→List T→List T→Int
 |[],_,_,_=>0
 |_::_,_,_,[]=>0
 |a::as_,ctx,done,d::ds=>
  let t:=Xa d done ctx.length
  let e:=if t.2=0 then QL sig ms a ctx t.1 else t.2
  if e≠0 then e else zeY sig ms as_ ctx (done++[a]) ds
end
mutual
noncomputable def zcU(sig:List D)(ms:List M):T→List T→Int
 | .mk k h as_,ctx=>
  if k=1 then ztB sig ms as_ ctx
  else if k=2 then
   (match YK sig h true with
    |none=>2
    |some t=>
     let r:=Yp sig ms as_ ctx t
     if r.2≠0 then r.2 else if r.1.k≠0 then 3 else 0)
  else 3
noncomputable def ztB(sig:List D)(ms:List M):List T→List T→Int
 |a::as_,ctx=>
  let e:=zcU sig ms a ctx
  if e≠0 then e else zm7 sig ms as_ (ctx++[a])
 |[],_=>3
noncomputable def zm7(sig:List D)(ms:List M):List T→List T→Int
 |b::_,ctx=>zcU sig ms b ctx
 |[],_=>3
end
mutual
noncomputable def zeZ(sig:List D)(ms:List M):T→List T→Int
 | .mk k _ as_,ctx=>if k=0 then 0 else if k=1 then ztC sig ms as_ ctx else 3
noncomputable def ztC(sig:List D)(ms:List M):List T→List T→Int
 |a::as_,ctx=>
  let e:=zcU sig ms a ctx
  if e≠0 then e else zm8 sig ms as_ (ctx++[a])
 |[],_=>3
noncomputable def zm8(sig:List D)(ms:List M):List T→List T→Int
 |b::_,ctx=>zeZ sig ms b ctx
 |[],_=>3
end
def zo0(m:M):Bool:=may m.t&&m.ctx.all may
def zj0(sig:List D)(ms:List M)(ctx l:List T):Bool:=
 decide (ctx.length≤1000)&&(l.all may&&(ctx.all may&&(sig.all (fun d=>may d.t)&&ms.all zo0)))
noncomputable def zc6(sig:List D)(ms:List M)(ctx:List T)(a:T):Int:=if zj0 sig ms ctx [a]then zcU sig ms a ctx else 1
noncomputable def zc7(sig:List D)(ms:List M)(ctx:List T)(a:T):Int:=if zj0 sig ms ctx [a]then zeZ sig ms a ctx else 1
mutual
theorem zqO{B b:Int}(hB:0≤b∧b≤1048576∧B≤9223372036850000000)(f:Int): ∀(t:T) (ar:Int),okB B t→okB (B+b) (upT b f ar t)
 | .mk k hd ys,ar,⟨h1,h2,h3⟩=>by
  simp only[upT,okB]
  refine⟨?_, ?_,zo1 hB f ys ar h3⟩
  ·split
   ·unfold upV
    split
    ·rw[Z9 ⟨by omega,by omega⟩];omega
    ·omega
   ·omega
  ·intro hk e
   have:=congrArg List.length e
   rw[JL]at this
   exact h2 hk (List.length_eq_zero_iff.1 (by simpa using this))
theorem zo1{B b:Int}(hB:0≤b∧b≤1048576∧B≤9223372036850000000)(f:Int): ∀(l:List T) (ar:Int) {bd:Bool},zcS B l→zcS (B+b) (ups b f ar bd l)
 |[],ar,bd,_=>trivial
 |a::l,ar,bd,⟨h1,h2⟩=>by simp only[ups,zcS];exact⟨zqO hB f a _ h1,zo1 hB f l ar h2⟩
end
theorem zo2{B:Int}(hB:Y8 B){t:T}(h:okB B t){b f:Int}(hb:0≤b):okB (B+1048576) (upP t b f):=by
 obtain⟨q1,q2⟩:=hB
 unfold upP;split
 ·rename_i hc
  simp only[Bool.and_eq_true,decide_eq_true_eq]at hc
  exact Yg (by omega) _ (zqO (by omega) f t 0 h)
 ·exact Yg (by omega) t h
mutual
theorem zo3(b f:Int)(hb:0≤b): ∀(t:T) (ar:Int),Yu t=true→(∀B,okB B t→B≤9223372036850000000→b≤1048576→Yu (upT b f ar t)=true)
 | .mk k h as_,ar,hn=>fun B hB h1 h2=>by
  simp only[Yu,Bool.and_eq_true]at hn
  obtain⟨⟨q1,q2⟩,q3,q4⟩:=hB
  simp only[upT,Yu,Bool.and_eq_true,JL]
  refine⟨?_,zlg b f hb as_ ar hn.2 B q4 h1 h2⟩
  split
  ·rename_i hk
   subst hk
   have:0≤upV b f ar h:=by
    unfold upV
    split
    ·rw[Z9 ⟨by omega,by omega⟩];omega
    ·exact q1
   simp[zae,this]
  ·exact hn.1
theorem zlg(b f:Int)(hb:0≤b): ∀(l:List T) (ar:Int) {bd:Bool},Y0 l=true→(∀B,zcS B l→B≤9223372036850000000→b≤1048576→Y0 (ups b f ar bd l)=true)
 |[],_,_,_=>fun _ _ _ _=>rfl
 |a::l,ar,bd,hn=>fun B hB h1 h2=>by
  simp only[Y0,Bool.and_eq_true]at hn
  simp only[ups,Y0,Bool.and_eq_true]
  exact⟨zo3 b f hb a _ hn.1 B hB.1 h1 h2,zlg b f hb l ar hn.2 B hB.2 h1 h2⟩
end
mutual
theorem zo4(b f:Int): ∀(t:T) (ar:Int),(upT b f ar t).depth=t.depth
 | .mk k h as_,ar=>by simp only[upT,T.depth];rw[zj1 b f as_ ar]
theorem zj1(b f:Int): ∀(l:List T) (ar:Int) {bd:Bool},ZG (ups b f ar bd l)=ZG l
 |[],ar,bd=>rfl
 |a::as_,ar,bd=>by simp only[ups,ZG];rw[zo4 b f a,zj1 b f as_]
end
theorem zqP{B:Int}(hB:Y8 B){t:T}(h:okB B t)(hm:may t=true){b f:Int}(hb:0≤b):may (upP t b f)=true:=by
 obtain⟨q1,q2⟩:=hB
 obtain⟨h1,h2,h3⟩:=zgs.1 hm
 unfold upP
 split
 ·rename_i hc
  simp only[Bool.and_eq_true,decide_eq_true_eq]at hc
  exact zgs.2 ⟨zo3 b f hb t 0 h1 B h (by omega) (by omega),by rw[zmw];exact h2,by rw[zo4];exact h3⟩
 ·exact hm
end Go.Ama
namespace Go.Proofs.SZ
open Go Go.AM Go.Ama
abbrev zaf(sig:List D)(ms:List M)(ctx:List T):V:= .agg [.vec .plain (some 4) (Zx sig), .vec .plain (some 5) (XR ms), .vec .plain (some 3) (Zl ctx)]
@[simp] theorem onW{R:Type}(a b c:List V)(K:List V→List V→List V→Option R):Zc (R:=R) [CT.slice (some 4),CT.slice (some 5),CT.slice (some 3)] (.agg [.vec .plain (some 4) a, .vec .plain (some 5) b, .vec .plain (some 3) c]) K=K a b c:=rfl
theorem zj2(n:Nat)(sig:List D)(ms:List M)(ctx:List T):below n (zaf sig ms ctx)=true:=by simp[below,Zi,Zz]
theorem zlh(sig:List D)(ms:List M)(ctx:List T)(a:T)(h:ctx.length≤1099511627776):Ev 43 [zaf sig ms ctx,enc a] (zaf sig ms (ctx++[a])):=by
 have hr:roomFor Tryz.prog 25 (ctx.length+1)=true:=zcz (by omega)
 have htk:List.take ctx.length (Zl ctx)=Zl ctx:=List.take_of_length_le (by simp)
 unfold Ev
 rw[C,Zd a,zf5]
 simp[htk,hr,←Zd,below,Zi,QY,Zz]
theorem zfa(sig:List D)(ms:List M)(ctx:List T)(i:Int)(b:Bool)(h0:0≤i)(hs:sig.length≤1099511627776):Ev 79 [zaf sig ms ctx, .int i, .bool b] (.tup [enc ((YK sig i b).getD T0), .int (match YK sig i b with|none=>2|some _=>0)]):=by
 unfold Ev YK
 rw[C,zc3,ZA]
 by_cases hi:i<sig.length
 ·have hn:i.toNat<sig.length:=by omega
  have hii:((i.toNat:Nat):Int)=i:=by omega
  have hg:ZW (Zx sig) i=Q3 sig[i.toNat]:=by have:=Xi hn;rwa [hii]at this
  have hk:=(zhc sig[i.toNat].t).p
  have hlt: ¬i≥sig.length:=by omega
  have hc:(0≤i∧i<sig.length):=⟨h0,hi⟩
  rw[dif_pos hc,hg]
  simp only[hlt,decide_false,Zn,h0,hi,decide_true,Bool.and_self,Z6,zvX,←Zd,hk,Zb,Zs]
  generalize decide ((split sig[i.toNat].t).2.k=0)=kb
  by_cases hb:kb=b
  ·subst hb
   cases kb<;>simp[below,Zi]
  ·rw[if_neg hb]
   cases kb<;>cases b<;>simp_all
   ·rfl
   ·rfl
 ·have hge:i≥sig.length:=by omega
  rw[dif_neg (fun h=>hi h.2)]
  simp[hge]
  rfl
theorem zqg:cfg.pure 37=true:=by kernel_rfl
theorem zqh:cfg.pure 39=false:=by kernel_rfl
theorem zqi:cfg.pure 41=false:=by kernel_rfl
theorem zhn(t:T)(hs:t.size≤1099511627776):Ev 37 [enc t] (.bool (!may t)):=by
 have h:=(Qk t hs).p
 unfold Ev
 rw[C,Zd t,ze7,←Zd,h]
 simp
theorem zf8(xs:List T)(hs:sizes xs≤1099511627776)(st:St):W.call 38 [.vec .plain (some 3) (Zl xs), .fn 37 [] []] st=some (.ret (.bool (xs.any fun t=> !may t)),st):=
 zeW (a:=[]) (b:=[]) zqg (p:=fun t=> !may t) xs (by have:=Z0 xs;omega) (fun t ht=>(zhn t (by have:=size_le ht;omega)).p) st
theorem zqj(d:D)(hs:d.t.size≤1099511627776)(st:St):W.call 41 ([]++[Q3 d]++[.cptr none (.fn 37 [] [])]) st=some (.ret (.bool (!may d.t)),st):=by
 have h:=(zhn d.t hs).p
 have e1:Q3 d=V.agg [V.str (ba d.name),V.int d.t.k,V.int d.t.h,V.vec .plain (some 3) (Zl d.t.args)]:=rfl
 rw[e1]
 show W.call 41 [V.agg [V.str (ba d.name),V.int d.t.k,V.int d.t.h,V.vec .plain (some 3) (Zl d.t.args)], .cptr none (.fn 37 [] [])] st=_
 rw[C,ze9,←Zd,h]
 simp[Yj]
theorem zqk(m:M)(hs:sizes m.ctx+m.t.size≤1099511627776)(st:St):W.call 39 ([]++[zdT m]++[.cptr none (.fn 37 [] [])]) st=some (.ret (.bool (!zo0 m)),st):=by
 have h:=(zhn m.t (by omega)).p
 have h2:=zf8 m.ctx (by omega) st
 rw[zdU]
 show W.call 39 [V.agg [V.vec .plain (some 3) (Zl m.ctx),V.int m.t.k,V.int m.t.h,V.vec .plain (some 3) (Zl m.t.args),V.bool m.param], .cptr none (.fn 37 [] [])] st=_
 rw[C,ze8,←Zd,h]
 have q2:m.ctx.all may= !m.ctx.any fun d=> !may d:=by simp[List.all_eq_not_any_not]
 unfold zo0
 rw[q2]
 cases may m.t<;>simp[Yj,h2]
theorem zli(sig:List D)(ms:List M)(ctx l:List T)(hsig: ∀d∈sig,d.t.size≤1099511627776)(hsl:sig.length≤1099511627776)(hms: ∀m∈ms,sizes m.ctx+m.t.size≤1099511627776)(hml:ms.length≤1099511627776)(hc:sizes ctx≤1099511627776)(hl:sizes l≤1099511627776):
  Ev 21 [zaf sig ms ctx, .vec .plain (some 3) (Zl l)] (.bool (zj0 sig ms ctx l)):=by
 have h1:=zf8 l hl []
 have h2:=zf8 ctx hc []
 have h3:=zjy (a:=[]) (b:=[.cptr none (.fn 37 [] [])]) zqi (p:=fun d=> !may d.t) sig hsl [] (fun d hd=>zqj d (hsig d hd) [])
 have h4:=zjz (a:=[]) (b:=[.cptr none (.fn 37 [] [])]) zqh (p:=fun d=> !zo0 d) ms hml [] (fun d hd=>zqk d (hms d hd) [])
 have q1:sig.all (fun d=>may d.t)= !sig.any fun d=> !may d.t:=by simp[List.all_eq_not_any_not]
 have q2:ctx.all may= !ctx.any fun d=> !may d:=by simp[List.all_eq_not_any_not]
 have q3:l.all may= !l.any fun d=> !may d:=by simp[List.all_eq_not_any_not]
 have q4:ms.all zo0= !ms.any fun d=> !zo0 d:=by simp[List.all_eq_not_any_not]
 have c1:decide ((ctx.length:Int)>1000)= !decide (ctx.length≤1000):=by by_cases h:ctx.length≤1000<;>simp[h]<;>omega
 unfold Ev zj0
 rw[C,zgu,Zt,c1,h1,q1,q2,q3,q4]
 cases decide (ctx.length≤1000)<;>cases l.any (fun d=> !may d)<;>simp[h2]<;>cases ctx.any (fun d=> !may d)<;>simp[h3]<;>cases sig.any (fun d=> !may d.t)<;>simp[h4]
end Go.Proofs.SZ
namespace Go.Ama
open Go Go.AM
structure OkW(B:Int)(sig:List D)(ms:List M)(ctx:List T):Prop where
 s: ∀d∈sig,may d.t=true∧okB B d.t
 m: ∀m∈ms,may m.t=true∧okB B m.t∧ ∀x∈m.ctx,may x=true∧okB B x
 c: ∀x∈ctx,may x=true∧okB B x
 sl:sig.length≤1048576
 ml:ms.length≤1048576
 mcl: ∀m∈ms,m.ctx.length≤1048576
theorem OkW.mono{B B':Int}(h:B≤B'){sig:List D}{ms:List M}{ctx:List T}(o:OkW B sig ms ctx):OkW B' sig ms ctx:=
 ⟨fun d hd=>⟨(o.s d hd).1,Yg h _ (o.s d hd).2⟩,fun m hm=>⟨(o.m m hm).1,Yg h _ (o.m m hm).2.1,fun x hx=>⟨((o.m m hm).2.2 x hx).1,Yg h _ ((o.m m hm).2.2 x hx).2⟩⟩,
  fun x hx=>⟨(o.c x hx).1,Yg h _ (o.c x hx).2⟩,o.sl,o.ml,o.mcl⟩
theorem OkW.with{B:Int}{sig:List D}{ms:List M}{ctx:List T}(o:OkW B sig ms ctx){a:T}(h1:may a=true)(h2:okB B a):OkW B sig ms (ctx++[a]):=
 ⟨o.s,o.m,fun x hx=>by rcases List.mem_append.1 hx with h|h;exact o.c x h;simp at h;subst h;exact⟨h1,h2⟩,o.sl,o.ml,o.mcl⟩
theorem YL{β γ:Int}(h:Y8 γ)(h0:0≤β)(hl:β≤γ):Y8 β:=⟨h0,by unfold Y8 at h;omega⟩
theorem zho(sig:List D)(ms:List M): ∀(xs:List T) (ctx:List T) (t:T) (β:Int),0≤β→Y8 (β+sizes xs*90000000000)→may t=true→okB β t→(∀x∈xs,okB β x)→(Yp sig ms xs ctx t).2=0→
  may (Yp sig ms xs ctx t).1=true∧okB (β+sizes xs*90000000000) (Yp sig ms xs ctx t).1
 |[],ctx,t,β,_,_,hm,ho,_,_=>by simp only[Yp,sizes];exact⟨hm,Yg (by omega) t ho⟩
 |a::xs,ctx,t,β,h0,hβ,hm,ho,hx,he=>by
  have hp:=X7 a
  simp only[sizes,Int.natCast_add,Int.add_mul]at hβ⊢
  unfold Yp at he⊢
  by_cases hk:t.k=1
  ·rw[if_neg (by simpa using hk)]at he⊢
   dsimp only at he⊢
   split at he
   ·rename_i h;exact absurd he h
   rename_i h1
   rw[if_neg h1]
   split at he
   ·rename_i h;exact absurd he h
   rename_i h2
   rw[if_neg h2]
   obtain⟨a0,b,hab⟩:=znW (zjq hm hk)
   have hb:b∈t.args:=by rw[hab];simp
   simp only[hab,List.getD_cons_succ,List.getD_cons_zero]at h2 he⊢
   have hbase:Y8 β:=YL hβ h0 (by
                          have:(0:Int)≤a.size*90000000000:=by omega
                          have:(0:Int)≤sizes xs*90000000000:=by omega
                          omega)
   obtain⟨u1,u2,_⟩:=zeu (t:=b) (l:=[a]) (s:=0) hbase (fun _=>zbT ho hb) (fun _ x hx'=>by simp at hx';rw[hx'];exact hx a (by simp)) (by simpa using h2)
   have hge:(a.size:Int)*90000000000≥90000000000:=by omega
   obtain⟨r1,r2⟩:=zho sig ms xs ctx _ (β+a.size*90000000000) (by omega) (by rw[show β+ ↑a.size*90000000000+ ↑(sizes xs)*90000000000=β+(↑a.size*90000000000+ ↑(sizes xs)*90000000000) by omega];exact hβ) u1 (Yg (by omega) _ u2) (fun x hx'=>Yg (by omega) x (hx x (by simp[hx']))) he
   exact⟨r1,by rw[show β+(↑a.size*90000000000+ ↑(sizes xs)*90000000000)=β+ ↑a.size*90000000000+ ↑(sizes xs)*90000000000 by omega];exact r2⟩
  ·rw[if_pos hk]at he
   simp at he
noncomputable def zo5(sig:List D)(ms:List M)(h:Int)(xs ctx:List T):T×Int:=
 if(ctx.length:Int)≤h then(T0,2)else Yp sig ms xs ctx (upP (ctx.getD (ctx.length-1-h.toNat) T0) (h+1) 0)
noncomputable def zdY(sig:List D)(ms:List M)(h:Int)(xs ctx:List T):T×Int:=
 match YK sig h false with
 |none=>(T0,2)
 |some t=>Yp sig ms xs ctx t
noncomputable def zhO(sig:List D)(ms:List M)(h:Int)(xs ctx:List T):T×Int:=
 if(ms.length:Int)≤h then(T0,2)
 else
  let d:=ms.getD h.toNat ⟨[],T0,false⟩
  if d.ctx.length≠xs.length then(T0,3)
  else
   let e:=zeY sig ms xs ctx [] d.ctx
   if e≠0 then(T0,e)else Xa d.t xs ctx.length
noncomputable def J5(sig:List D)(ms:List M)(k h:Int)(xs ctx:List T):T×Int:=
 if k=4 then zo5 sig ms h xs ctx else if k=5 then zdY sig ms h xs ctx else if k=6 then zhO sig ms h xs ctx else(T0,3)
theorem zql(sig:List D)(ms:List M){k h:Int}{xs ctx:List T}{a:T}(hk:k≠3)(ha:a.k=2):
  QL sig ms (.mk k h xs) ctx a=if(J5 sig ms k h xs ctx).2≠0 then(J5 sig ms k h xs ctx).2 else if(J5 sig ms k h xs ctx).1.same a then 0 else 3:=by
 rw[QL]
 rw[if_neg (fun c=>hk c.1),if_neg (fun c=>c.elim hk (fun c=>c ha))]
 rfl
theorem zsh(sig:List D)(ms:List M){h:Int}{b:T}{r ctx:List T}{a:T}(ha:a.k=1):
  QL sig ms (.mk 3 h (b::r)) ctx a=QL sig ms b (ctx++[a.args.getD 0 T0]) (a.args.getD 1 T0):=by
 conv=>lhs;rw[QL]
 rw[if_pos ⟨rfl,ha⟩,ztA]
theorem ztD(sig:List D)(ms:List M){k h:Int}{xs ctx:List T}{a:T}(h1: ¬(k=3∧a.k=1))(h2:k=3∨a.k≠2):QL sig ms (.mk k h xs) ctx a=3:=by
 rw[QL,if_neg h1,if_pos h2]
end Go.Ama
namespace Go.Ama
open Go Go.AM
theorem zu9(sig:List D)(ms:List M){h:Int}{a b:T}{ctx:List T}:zcU sig ms (.mk 1 h [a,b]) ctx=if zcU sig ms a ctx≠0 then zcU sig ms a ctx else zcU sig ms b (ctx++[a]):=by
 conv=>lhs;rw[zcU]
 rw[if_pos rfl,ztB,zm7]
theorem ztE(sig:List D)(ms:List M){h:Int}{a b:T}{ctx:List T}:zeZ sig ms (.mk 1 h [a,b]) ctx=if zcU sig ms a ctx≠0 then zcU sig ms a ctx else zeZ sig ms b (ctx++[a]):=by
 conv=>lhs;rw[zeZ]
 rw[if_neg (by decide),if_pos rfl,ztC,zm8]
theorem zj3{sig:List D}{ms:List M}{ctx l:List T}:zj0 sig ms ctx l=true↔ctx.length≤1000∧(∀x∈l,may x=true)∧(∀x∈ctx,may x=true)∧(∀d∈sig,may d.t=true)∧(∀m∈ms,may m.t=true∧ ∀x∈m.ctx,may x=true):=by
 unfold zj0
 simp only[Bool.and_eq_true,decide_eq_true_eq,List.all_eq_true]
 have: ∀m:M,zo0 m=true↔may m.t=true∧ ∀x∈m.ctx,may x=true:=fun m=>by unfold zo0;simp[Bool.and_eq_true,List.all_eq_true]
 simp only[this]
structure In(sig:List D)(ms:List M)(ctx l:List T):Prop where
 s: ∀d∈sig,d.t.size≤1048576∧(may d.t=true→okB 4398046511104 d.t)
 m: ∀m∈ms,sizes m.ctx+m.t.size≤1048576∧(may m.t=true→okB 4398046511104 m.t)∧ ∀x∈m.ctx,may x=true→okB 4398046511104 x
 c:sizes ctx≤1048576∧ ∀x∈ctx,may x=true→okB 4398046511104 x
 l:sizes l≤1048576∧ ∀x∈l,may x=true→okB 4398046511104 x
 sl:sig.length≤1048576
 ml:ms.length≤1048576
theorem In.ok{sig:List D}{ms:List M}{ctx l:List T}(h:In sig ms ctx l)(hm:zj0 sig ms ctx l=true):OkW 4398046511104 sig ms ctx∧ ∀x∈l,may x=true∧okB 4398046511104 x:=by
 obtain⟨_,h2,h3,h4,h5⟩:=zj3.1 hm
 refine⟨⟨fun d hd=>⟨h4 d hd,(h.s d hd).2 (h4 d hd)⟩,fun m hm=>⟨(h5 m hm).1,(h.m m hm).2.1 (h5 m hm).1,fun x hx=>⟨(h5 m hm).2 x hx,(h.m m hm).2.2 x hx ((h5 m hm).2 x hx)⟩⟩,fun x hx=>⟨h3 x hx,h.c.2 x hx (h3 x hx)⟩,h.sl,h.ml,fun m hm=> ?_⟩,fun x hx=>⟨h2 x hx,h.l.2 x hx (h2 x hx)⟩⟩
 have:=(h.m m hm).1
 have:=Z0 m.ctx
 omega
end Go.Ama
namespace Go.Proofs.SZ
open Go Go.AM Go.Ama
section
variable(sig:List D)(ms:List M)
def HT(N:Nat):Prop:= ∀(m:T) (ctx:List T) (a:T) (β:Int),m.size≤N→0≤β→OkW β sig ms ctx→ctx.length+m.size≤1000000→may m=true→okB β m→may a=true→okB β a→Y8 (β+m.size*90000000000)→
 Ev 22 [zaf sig ms ctx,enc m,enc a] (.int (QL sig ms m ctx a))
theorem zo6{N:Nat}(hT:HT sig ms N)(xs ctx:List T)(hxl:xs.length≤1000000): ∀(n i:Nat) (t:T) (β:Int) (v:V),xs.length-i=n→i≤xs.length→sizes (xs.drop i)≤N→0≤β→OkW β sig ms ctx→ctx.length+sizes (xs.drop i)≤1000000→(∀x∈xs,may x=true∧okB β x)→may t=true→okB β t→Y8 (β+sizes (xs.drop i)*90000000000)→
  W.loop 77 2 [.loc true (some 3) v, .int (i:Int), .loc false (some 3) (enc t), .loc false (some 3) (zaf sig ms ctx), .vec .plain (some 3) (Zl xs), .int xs.length] []=
   if(Yp sig ms (xs.drop i) ctx t).2=0 then some (.exit 0,[.loc true (some 3) v, .loc false (some 3) (enc (Yp sig ms (xs.drop i) ctx t).1)],[])else some (.ret,[.loc false (some 3) (enc T0), .int (Yp sig ms (xs.drop i) ctx t).2],[]):=by
 intro n
 induction n with
 |zero=>
  intro i t β v hn hi _ _ _ _ _ _ _ _
  have:i=xs.length:=by omega
  subst this
  rw[L,Zd t,J4]
  simp[Yp,←Zd]
 |succ n ih=>
  intro i t β v hn hi hN h0 hW hcl hx hm ho hβ
  have hlt:i<xs.length:=by omega
  have hlt':(i:Int)<xs.length:=by omega
  have hd:xs.drop i=xs[i]::xs.drop (i+1):=List.drop_eq_getElem_cons hlt
  have hp:=X7 xs[i]
  have hw:IntKind.i64.wrap ((i:Int)+1)=((i+1:Nat):Int):=by rw[Z9 ⟨by omega,by omega⟩];omega
  rw[hd]at hN hcl hβ⊢
  simp only[sizes,Int.natCast_add,Int.add_mul]at hN hcl hβ
  have hbase:Y8 β:=YL hβ h0 (by omega)
  obtain⟨hxm,hxo⟩:=hx _ (List.getElem_mem hlt)
  rw[L,Zd t,J4,←Zd t,hw,ZS hlt,Zt]
  simp only[hlt',decide_true,Zq,Int.natCast_nonneg,Bool.and_self,Z6,zvp,←Zd]
  by_cases hk:t.k=1
  ·obtain⟨a0,b,hab⟩:=znW (zjq hm hk)
   have ha0:a0∈t.args:=by rw[hab];simp
   have hb:b∈t.args:=by rw[hab];simp
   have h1:=(hT xs[i] ctx a0 β (by omega) h0 hW (by omega) hxm hxo (zc2 hm ha0) (zbT ho ha0) (YL hβ (by omega) (by omega))).p (by simp[Zi,below,Zz])
   have hst:Yp sig ms (xs[i]::xs.drop (i+1)) ctx t=(if QL sig ms xs[i] ctx a0≠0 then(T0,QL sig ms xs[i] ctx a0)else if(Xa b [xs[i]] 0).2≠0 then(T0,(Xa b [xs[i]] 0).2)else Yp sig ms (xs.drop (i+1)) ctx (Xa b [xs[i]] 0).1):=by
    conv=>lhs;unfold Yp
    simp[hk,hab]
   rw[hst]
   by_cases he:QL sig ms xs[i] ctx a0=0
   ·have hsb:=Qg (zc2 hm hb)
    have hsx:=Qg hxm
    have hA:=(zdX (s:=0) hbase (t:=b) (l:=[xs[i]]) (by omega) (by simp[sizes];omega) (fun _=>zbT ho hb) (fun _ x hx'=>by simp at hx';rw[hx'];exact hxo)).p
    simp only[J3,Qi,zbJ]at hA
    by_cases hu:(Xa b [xs[i]] 0).2=0
    ·obtain⟨u1,u2,_⟩:=zeu (t:=b) (l:=[xs[i]]) (s:=0) hbase (fun _=>zbT ho hb) (fun _ x hx'=>by simp at hx';rw[hx'];exact hxo) hu
     have:=ih (i+1) (Xa b [xs[i]] 0).1 (β+xs[i].size*90000000000) v (by omega) (by omega) (by omega) (by omega) (hW.mono (by omega)) (by omega) (fun x hx'=>⟨(hx x hx').1,Yg (by omega) x (hx x hx').2⟩) u1 (Yg (by omega) _ u2) (by rw[show β+ ↑xs[i].size*90000000000+ ↑(sizes (xs.drop (i+1)))*90000000000=β+(↑xs[i].size*90000000000+ ↑(sizes (xs.drop (i+1)))*90000000000) by omega];exact hβ)
     simp[hk,hab,h1,he,hA,hu,←Zd]
     simpa using this
    ·simp[hk,hab,h1,he,hA,hu,←Zd,Zd T0]
   ·simp[hk,hab,h1,he,←Zd,Zd T0]
  ·have hst:Yp sig ms (xs[i]::xs.drop (i+1)) ctx t=(T0,3):=by
    conv=>lhs;unfold Yp
    simp[hk]
   rw[hst]
   simp[hk,Zd T0]
theorem zf9{N:Nat}(hT:HT sig ms N)(xs ctx:List T)(t:T)(β:Int)(hN:sizes xs≤N)(h0:0≤β)(hW:OkW β sig ms ctx)(hcl:ctx.length+sizes xs≤1000000)(hx: ∀x∈xs,may x=true∧okB β x)(hm:may t=true)(ho:okB β t)(hβ:Y8 (β+sizes xs*90000000000)):
  Ev 77 [zaf sig ms ctx,enc t, .vec .plain (some 3) (Zl xs)] (.tup [enc (Yp sig ms xs ctx t).1, .int (Yp sig ms xs ctx t).2]):=by
 have hl:=Z0 xs
 have h:=zo6 sig ms hT xs ctx (by omega) _ 0 t β (.agg [.int 0, .int 0, .vec .full (some 3) []]) rfl (Nat.zero_le _) (by simpa using hN) h0 hW (by simpa using hcl) hx hm ho (by simpa using hβ)
 simp only[List.drop_zero,Int.natCast_zero]at h
 have hz:(Yp sig ms xs ctx t).2≠0→(Yp sig ms xs ctx t).1=T0:=by
  have: ∀(ys:List T) (t:T),(Yp sig ms ys ctx t).2≠0→(Yp sig ms ys ctx t).1=T0:=by
   intro ys
   induction ys with
   |nil=>intro t h;simp[Yp]at h
   |cons y ys ih=>
    intro t h
    unfold Yp at h⊢
    dsimp only at h⊢
    repeat' split
    all_goals first|rfl|skip
    rename_i c1 c2 c3
    rw[if_neg c1,if_neg c2,if_neg c3]at h
    exact ih _ h
  exact this xs t
 unfold Ev
 rw[C]
 conv=>lhs;rw[Zd t]
 rw[zeA,Zt,←Zd t,h]
 by_cases he:(Yp sig ms xs ctx t).2=0
 ·simp[he,←Zd,below,Zi,Zy]
 ·have hc: ∀t:T,Zo (enc t)=enc t:=fun t=>by rw[Zd];rfl
  simp[he,hz he,below,Zi,Zy,hc]
end
end Go.Proofs.SZ
namespace Go.Proofs.SZ
open Go Go.AM Go.Ama
section
variable(sig:List D)(ms:List M)
theorem zkq{N:Nat}(hT:HT sig ms N)(k h:Int)(xs ctx:List T)(β:Int)(hN:sizes xs≤N)(h0:0≤β)(hW:OkW β sig ms ctx)(hcl:ctx.length+sizes xs≤1000000)(hx: ∀x∈xs,may x=true∧okB β x)(hh:0≤h)(hβ:Y8 (β+(1+sizes xs:Nat)*90000000000)):
  Ev 45 [zaf sig ms ctx, .agg [.int k, .int h, .vec .plain (some 3) (Zl xs)]] (.tup [enc (zo5 sig ms h xs ctx).1, .int (zo5 sig ms h xs ctx).2]):=by
 simp only[Int.natCast_add,Int.add_mul]at hβ
 have hbase:Y8 β:=YL hβ h0 (by omega)
 unfold Ev zo5
 rw[C,zc4,Zt]
 by_cases hc:(ctx.length:Int)≤h
 ·simp only[hc,if_true]
  simp[hc,Zd T0]
 ·have hw1:IntKind.i64.wrap ((ctx.length:Int)-1)=(ctx.length:Int)-1:=Z9 ⟨by omega,by omega⟩
  have hw2:IntKind.i64.wrap ((ctx.length:Int)-1-h)=((ctx.length-1-h.toNat:Nat):Int):=by rw[Z9 ⟨by omega,by omega⟩];omega
  have hw3:IntKind.i64.wrap (h+1)=h+1:=Z9 ⟨by omega,by omega⟩
  have hlt:ctx.length-1-h.toNat<ctx.length:=by omega
  have hg:ctx.getD (ctx.length-1-h.toNat) T0=ctx[ctx.length-1-h.toNat]:=by simp[List.getD_eq_getElem?_getD,hlt]
  obtain⟨c1,c2⟩:=hW.c _ (List.getElem_mem hlt)
  have hsz:=Qg c1
  have hU:=(zqM ctx[ctx.length-1-h.toNat] (h+1) 0 (by omega)).p
  have hS:=(zf9 sig ms hT xs ctx (upP ctx[ctx.length-1-h.toNat] (h+1) 0) (β+90000000000) hN (by omega) (hW.mono (by omega)) hcl (fun x hx'=>⟨(hx x hx').1,Yg (by omega) x (hx x hx').2⟩) (zqP hbase c2 c1 (by omega)) (Yg (by omega) _ (zo2 hbase c2 (by omega))) (by rw[show β+90000000000+ ↑(sizes xs)*90000000000=β+(((1:Nat):Int)*90000000000+ ↑(sizes xs)*90000000000) by omega];exact hβ)).p (by simp[Zi,below,Zz]) (by simp[below,Zi])
  have hc': ¬(h≥(ctx.length:Int)):=by omega
  have hlt':((ctx.length-1-h.toNat:Nat):Int)<ctx.length:=by omega
  simp only[hc,if_false]
  rw[hw1,hw2,hw3,ZS hlt,hg]
  simp[hc',hlt',hU,←Zd,hS]
  simp[below,Zi]
theorem zkr{N:Nat}(hT:HT sig ms N)(k h:Int)(xs ctx:List T)(β:Int)(hN:sizes xs≤N)(h0:0≤β)(hW:OkW β sig ms ctx)(hcl:ctx.length+sizes xs≤1000000)(hx: ∀x∈xs,may x=true∧okB β x)(hh:0≤h)(hβ:Y8 (β+sizes xs*90000000000)):
  Ev 46 [zaf sig ms ctx, .agg [.int k, .int h, .vec .plain (some 3) (Zl xs)]] (.tup [enc (zdY sig ms h xs ctx).1, .int (zdY sig ms h xs ctx).2]):=by
 have hD:=(zfa sig ms ctx h false hh (by have:=hW.sl;omega)).p (by simp[Zi,below,Zz]) (by simp[below,Zi])
 unfold Ev zdY
 rw[C,zc5,hD]
 cases hd:YK sig h false with
 |none=>simp[Zd T0]
 |some t=>
  obtain⟨d,hdm,hdt⟩: ∃d∈sig,d.t=t:=by
   unfold YK at hd
   split at hd
   ·split at hd
    ·cases hd;exact⟨_,List.getElem_mem _,rfl⟩
    ·cases hd
   ·cases hd
  obtain⟨s1,s2⟩:=hW.s d hdm
  rw[hdt]at s1 s2
  have hS:=(zf9 sig ms hT xs ctx t β hN h0 hW hcl hx s1 s2 hβ).p (by simp[Zi,below,Zz]) (by simp[below,Zi])
  simp[←Zd,hS]
  simp[below,Zi]
theorem zsi(l:List T)(n:Nat):(Zl l).take n=Zl (l.take n):=by simp[zdy,List.map_take]
theorem zqm{N:Nat}(hT:HT sig ms N)(k h:Int)(xs ctx:List T)(d:M)(β:Int)(hN:sizes xs≤N)(h0:0≤β)(hW:OkW β sig ms ctx)(hcl:ctx.length+sizes xs≤1000000)(hx: ∀x∈xs,may x=true∧okB β x)(hd:d∈ms)(hlen:d.ctx.length=xs.length)(hβ:Y8 (β+(1+sizes xs:Nat)*90000000000))(v:V):
  ∀(n i:Nat),xs.length-i=n→i≤xs.length→
  W.loop 47 7 [.loc true (some 3) v, .int (i:Int), .loc false (some 3) (.agg [.int k, .int h, .vec .plain (some 3) (Zl xs)]), .loc false (some 3) (zaf sig ms ctx), .vec .plain (some 3) (Zl d.ctx), .loc false (some 5) (zdT d), .int d.ctx.length] []=
   if zeY sig ms (xs.drop i) ctx (xs.take i) (d.ctx.drop i)=0 then some (.exit 0,[.loc true (some 3) v, .loc false (some 3) (zaf sig ms ctx), .loc false (some 3) (.agg [.int k, .int h, .vec .plain (some 3) (Zl xs)]), .loc false (some 5) (zdT d)],[])
   else some (.ret,[.loc false (some 3) (enc T0), .int (zeY sig ms (xs.drop i) ctx (xs.take i) (d.ctx.drop i))],[]):=by
 have hxl:=Z0 xs
 simp only[Int.natCast_add,Int.add_mul]at hβ
 have hbase:Y8 β:=YL hβ h0 (by omega)
 obtain⟨_,_,m3⟩:=hW.m d hd
 intro n
 induction n with
 |zero=>
  intro i hn hi
  have:i=xs.length:=by omega
  subst this
  rw[L,zdU,J7,←zdU]
  simp[zeY,hlen]
 |succ n ih=>
  intro i hn hi
  have hlt:i<xs.length:=by omega
  have hlt2:i<d.ctx.length:=by omega
  have hlt':(i:Int)<xs.length:=by omega
  have hlt2':(i:Int)<d.ctx.length:=by omega
  have hle':(i:Int)≤xs.length:=by omega
  have hdx:xs.drop i=xs[i]::xs.drop (i+1):=List.drop_eq_getElem_cons hlt
  have hdd:d.ctx.drop i=d.ctx[i]::d.ctx.drop (i+1):=List.drop_eq_getElem_cons hlt2
  have hp:=X7 xs[i]
  have hsx:=size_le (List.getElem_mem hlt)
  have hw:IntKind.i64.wrap ((i:Int)+1)=((i+1:Nat):Int):=by rw[Z9 ⟨by omega,by omega⟩];omega
  obtain⟨hxm,hxo⟩:=hx _ (List.getElem_mem hlt)
  obtain⟨hdm,hdo⟩:=m3 _ (List.getElem_mem hlt2)
  have hsd:=Qg hdm
  have hst:=zeQ xs i
  have htk:List.drop 0 (List.take (i:Int).toNat (Zl xs))=Zl (xs.take i):=by simp[zsi]
  have hok: ∀x∈xs.take i,okB β x:=fun x hx'=>(hx x (List.mem_of_mem_take hx')).2
  have hA:=(zdX (s:=ctx.length) hbase (t:=d.ctx[i]) (l:=xs.take i) (by omega) (by omega) (fun _=>hdo) (fun _=>hok)).p
  simp only[J3]at hA
  have hstep:zeY sig ms (xs.drop i) ctx (xs.take i) (d.ctx.drop i)=(if(if(Xa d.ctx[i] (xs.take i) ctx.length).2=0 then QL sig ms xs[i] ctx (Xa d.ctx[i] (xs.take i) ctx.length).1 else(Xa d.ctx[i] (xs.take i) ctx.length).2)≠0 then(if(Xa d.ctx[i] (xs.take i) ctx.length).2=0 then QL sig ms xs[i] ctx (Xa d.ctx[i] (xs.take i) ctx.length).1 else(Xa d.ctx[i] (xs.take i) ctx.length).2)else zeY sig ms (xs.drop (i+1)) ctx (xs.take (i+1)) (d.ctx.drop (i+1))):=by
   rw[hdx,hdd,zcw hlt]
   conv=>lhs;unfold zeY
  rw[hstep,L,zdU,J7,←zdU,hw,ZS hlt,ZS hlt2,Zt,Zt,Zt,htk]
  have ihh:=ih (i+1) (by omega) (by omega)
  by_cases hu:(Xa d.ctx[i] (xs.take i) ctx.length).2=0
  ·obtain⟨u1,u2,_⟩:=zeu (t:=d.ctx[i]) (l:=xs.take i) (s:=ctx.length) hbase (fun _=>hdo) (fun _=>hok) hu
   have h1:=(hT xs[i] ctx (Xa d.ctx[i] (xs.take i) ctx.length).1 (β+90000000000) (by omega) (by omega) (hW.mono (by omega)) (by omega) hxm (Yg (by omega) _ hxo) u1 (Yg (by omega) _ u2) (YL hβ (by omega) (by omega))).p (by simp[Zi,below,Zz])
   by_cases he:QL sig ms xs[i] ctx (Xa d.ctx[i] (xs.take i) ctx.length).1=0
   ·simp[hlt',hlt2',hle',hA,hu,←Zd,h1,he]
    simpa using ihh
   ·simp[hlt',hlt2',hle',hA,hu,←Zd,h1,he,Zd T0]
  ·simp[hlt',hlt2',hle',hA,hu,←Zd,Zd T0]
theorem zsj{N:Nat}(hT:HT sig ms N)(k h:Int)(xs ctx:List T)(β:Int)(hN:sizes xs≤N)(h0:0≤β)(hW:OkW β sig ms ctx)(hcl:ctx.length+sizes xs≤1000000)(hx: ∀x∈xs,may x=true∧okB β x)(hh:0≤h)(hβ:Y8 (β+(1+sizes xs:Nat)*90000000000)):
  Ev 47 [zaf sig ms ctx, .agg [.int k, .int h, .vec .plain (some 3) (Zl xs)]] (.tup [enc (zhO sig ms h xs ctx).1, .int (zhO sig ms h xs ctx).2]):=by
 have hxl:=Z0 xs
 unfold Ev zhO
 rw[C,zf7,zgr]
 by_cases hc:(ms.length:Int)≤h
 ·simp only[hc,if_true]
  simp[hc,Zd T0]
 ·have hlt:h.toNat<ms.length:=by omega
  have hg:ms.getD h.toNat ⟨[],T0,false⟩=ms[h.toNat]:=by simp[List.getD_eq_getElem?_getD,hlt]
  have hii:((h.toNat:Nat):Int)=h:=by omega
  have hgi:ZW (XR ms) h=zdT ms[h.toNat]:=by have:=zjm hlt;rwa [hii]at this
  have hc': ¬(h≥(ms.length:Int)):=by omega
  have hlt':h<(ms.length:Int):=by omega
  have hmem:=List.getElem_mem hlt
  simp only[hc,if_false]
  rw[hg,hgi]
  generalize ms[h.toNat]=d at*
  by_cases hlen:d.ctx.length=xs.length
  ·have hL:=zqm sig ms hT k h xs ctx d β hN h0 hW hcl hx hmem hlen hβ (.agg [.int 0, .int 0, .vec .full (some 3) []]) _ 0 rfl (Nat.zero_le _)
   simp only[List.drop_zero,Int.natCast_zero,List.take_zero]at hL
   have hbase:Y8 β:=YL hβ h0 (by omega)
   obtain⟨t1,t2,_⟩:=hW.m d hmem
   have hsz:=Qg t1
   have hA:=(zdX (s:=ctx.length) hbase (t:=d.t) (l:=xs) (by omega) (by omega) (fun _=>t2) (fun _ x hx'=>(hx x hx').2)).p
   simp only[J3]at hA
   have hbne:((d.ctx.length:Int) !=(xs.length:Int))=false:=by simp[hlen]
   have hc2: ∀t:T,Zo (enc t)=enc t:=fun t=>by rw[Zd];rfl
   have hL':=hL
   simp only[zdT,hlen,zaf]at hL'
   simp only[hlen,ne_eq,not_true,if_false]
   by_cases he:zeY sig ms xs ctx [] d.ctx=0
   ·rw[if_pos he]at hL'
    simp[hc',hh,hlt',hbne,hL',he,hA,←Zd,below,Zi,hlen]
    simp[below,Zi,Zy]
   ·rw[if_neg he]at hL'
    simp[hc',hh,hlt',hbne,hL',he,hlen,hc2,below,Zi,Zy]
  ·have hbne:((d.ctx.length:Int) !=(xs.length:Int))=true:=by simp;omega
   simp[hc',hh,hlt',hbne,hlen,Zd T0]
end
end Go.Proofs.SZ
namespace Go.Proofs.SZ
open Go Go.AM Go.Ama
theorem zhp:cfg.pure 44=true:=by kernel_rfl
theorem zfb:cfg.pure 45=true:=by kernel_rfl
theorem zfc:cfg.pure 46=true:=by kernel_rfl
theorem zlj:cfg.pure 47=true:=by kernel_rfl
section
variable(sig:List D)(ms:List M)
theorem zhq(k h:Int)(xs ctx:List T):Ev 44 [zaf sig ms ctx, .agg [.int k, .int h, .vec .plain (some 3) (Zl xs)]] (.tup [enc T0, .int 3]):=by
 unfold Ev
 rw[C,zf6]
 rw[Zd T0]
 rfl
theorem zo7{β:Int}{xs ctx:List T}{k h:Int}(h0:0≤β)(hW:OkW β sig ms ctx)(hx: ∀x∈xs,may x=true∧okB β x)(hh:0≤h)(hcl:ctx.length≤1000000)(hβ:Y8 (β+(1+sizes xs:Nat)*90000000000))(he:(J5 sig ms k h xs ctx).2=0):may (J5 sig ms k h xs ctx).1=true:=by
 simp only[Int.natCast_add,Int.add_mul]at hβ
 have hbase:Y8 β:=YL hβ h0 (by omega)
 unfold J5 at he⊢
 split
 ·rename_i hk
  rw[if_pos hk]at he
  unfold zo5 at he⊢
  split
  ·rename_i c;rw[if_pos c]at he;simp at he
  ·rename_i c
   rw[if_neg c]at he
   have hlt:ctx.length-1-h.toNat<ctx.length:=by omega
   have hg:ctx.getD (ctx.length-1-h.toNat) T0=ctx[ctx.length-1-h.toNat]:=by simp[List.getD_eq_getElem?_getD,hlt]
   obtain⟨c1,c2⟩:=hW.c _ (List.getElem_mem hlt)
   rw[hg]at he⊢
   exact(zho sig ms xs ctx _ (β+90000000000) (by omega) (by rw[show β+90000000000+ ↑(sizes xs)*90000000000=β+(((1:Nat):Int)*90000000000+ ↑(sizes xs)*90000000000) by omega];exact hβ) (zqP hbase c2 c1 (by omega)) (Yg (by omega) _ (zo2 hbase c2 (by omega))) (fun x hx'=>Yg (by omega) x (hx x hx').2) he).1
 ·rename_i hk
  rw[if_neg hk]at he
  split
  ·rename_i hk
   rw[if_pos hk]at he
   unfold zdY at he⊢
   cases hd:YK sig h false with
   |none=>rw[hd]at he;simp at he
   |some t=>
    rw[hd]at he
    obtain⟨d,hdm,hdt⟩: ∃d∈sig,d.t=t:=by
     unfold YK at hd
     split at hd
     ·split at hd
      ·cases hd;exact⟨_,List.getElem_mem _,rfl⟩
      ·cases hd
     ·cases hd
    obtain⟨s1,s2⟩:=hW.s d hdm
    rw[hdt]at s1 s2
    exact(zho sig ms xs ctx t β h0 (YL hβ (by omega) (by omega)) s1 s2 (fun x hx'=>(hx x hx').2) he).1
  ·rename_i hk
   rw[if_neg hk]at he
   split
   ·rename_i hk
    rw[if_pos hk]at he
    unfold zhO at he⊢
    split
    ·rename_i c;rw[if_pos c]at he;simp at he
    ·rename_i c
     rw[if_neg c]at he
     have hlt:h.toNat<ms.length:=by omega
     have hg:ms.getD h.toNat ⟨[],T0,false⟩=ms[h.toNat]:=by simp[List.getD_eq_getElem?_getD,hlt]
     obtain⟨t1,t2,_⟩:=hW.m _ (List.getElem_mem hlt)
     rw[hg]at he⊢
     dsimp only at he⊢
     split
     ·rename_i c;rw[if_pos c]at he;simp at he
     ·rename_i c
      rw[if_neg c]at he
      split
      ·rename_i c;rw[if_pos c]at he;exact absurd he c
      ·rename_i c
       rw[if_neg c]at he
       exact(zeu hbase (fun _=>t2) (fun _ x hx'=>(hx x hx').2) he).1
   ·rename_i hk
    rw[if_neg hk]at he
    simp at he
theorem zsk{N:Nat}(hT:HT sig ms N):HT sig ms (N+1):=by
 intro m ctx a β hN h0 hW hcl hm ho ham hao hβ
 obtain⟨k,h,xs⟩:=m
 have hnode:=zjp hm
 obtain⟨⟨hh,_⟩,_,hxs⟩:=ho
 simp only[T.size]at hN hcl hβ
 have hx: ∀x∈xs,may x=true∧okB β x:=fun x hx'=>⟨zc2 hm hx',(zaa _ _).1 hxs x hx'⟩
 have hβ':=hβ
 simp only[Int.natCast_add,Int.add_mul]at hβ
 have hasz:=Qg ham
 show W.call 22 [zaf sig ms ctx, .agg [.int k, .int h, .vec .plain (some 3) (Zl xs)],enc a] []=_
 rw[C,Zd a,zf2,←Zd a,Zt,Zt]
 by_cases hL:k=3∧a.k=1
 ·obtain⟨rfl,hak⟩:=hL
  obtain⟨a0,b,hab⟩:=znW (zjq ham hak)
  have ha0:a0∈a.args:=by rw[hab];simp
  have hb:b∈a.args:=by rw[hab];simp
  simp only[ztu,ztv,zkW,zae]at hnode
  obtain⟨c,hc⟩: ∃c,xs=[c]:=by simp at hnode;exact List.length_eq_one_iff.1 (of_decide_eq_true hnode.2)
  subst hc
  obtain⟨c1,c2⟩:=hx c (by simp)
  simp only[sizes]at hN hcl hβ
  have hw:=(zlh sig ms ctx a0 (by omega)).p (by simp[Zi,below,Zz]) (zj2 0 sig ms _)
  have h1:=(hT c (ctx++[a0]) b β (by omega) h0 (hW.with (zc2 ham ha0) (zbT hao ha0)) (by simp;omega) c1 c2 (zc2 ham hb) (zbT hao hb) (YL hβ (by omega) (by omega))).p (by simp[Zi,below,Zz,QY])
  simp only[zaf,zbe,Qi,zbJ]at h1
  rw[zsh sig ms hak,hab]
  simp[hak,hab,←Zd,hw,h1]
 ·by_cases hno:k=3∨a.k≠2
  ·rw[ztD sig ms hL hno]
   rcases hno with hk|hak
   ·have:a.k≠1:=fun c=>hL ⟨hk,c⟩
    simp[hk,this]
   ·by_cases hk:k=3
    ·have:a.k≠1:=fun c=>hL ⟨hk,c⟩
     simp[hk,this]
    ·simp[hk,hak]
  ·simp only[not_or,ne_eq,Decidable.not_not]at hno
   obtain⟨hk3,ha2⟩:=hno
   rw[zql sig ms hk3 ha2]
   have hcs:=zo7 sig ms (k:=k) (h:=h) h0 hW hx hh (by omega) hβ'
   have hsame:(J5 sig ms k h xs ctx).2=0→Zr W 13 [enc (J5 sig ms k h xs ctx).1,enc a]=some (.bool ((J5 sig ms k h xs ctx).1.same a)):=fun he=>
    (zp0 _ a (by have:=Qg (hcs he);omega) (by omega)).p
   have hk7:k=0∨k=1∨k=2∨k=4∨k=5∨k=6:=by
    simp only[ztu,ztv,zkW]at hnode
    unfold zae at hnode
    repeat' split at hnode
    all_goals simp at hnode
    all_goals omega
   have hnone: ∀k,k≠4→k≠5→k≠6→J5 sig ms k h xs ctx=(T0,3):=fun k h4 h5 h6=>by unfold J5;rw[if_neg h4,if_neg h5,if_neg h6]
   rcases hk7 with rfl|rfl|rfl|rfl|rfl|rfl
   ·have hn:=(zhq sig ms 0 h xs ctx).p (by simp[Zi,below,Zz])
    rw[hnone 0 (by decide) (by decide) (by decide)]at*
    simp[ha2,AM.partOf,zb3,zhp,hn]
   ·have hn:=(zhq sig ms 1 h xs ctx).p (by simp[Zi,below,Zz])
    rw[hnone 1 (by decide) (by decide) (by decide)]at*
    simp[ha2,AM.partOf,zb3,zhp,hn]
   ·have hn:=(zhq sig ms 2 h xs ctx).p (by simp[Zi,below,Zz])
    rw[hnone 2 (by decide) (by decide) (by decide)]at*
    simp[ha2,AM.partOf,zb3,zhp,hn]
   ·have hn:=(zkq sig ms hT 4 h xs ctx β (by omega) h0 hW (by omega) hx hh hβ').p (by simp[Zi,below,Zz]) (by simp[below,Zi])
    have hc:J5 sig ms 4 h xs ctx=zo5 sig ms h xs ctx:=rfl
    rw[hc]
    by_cases he:(zo5 sig ms h xs ctx).2=0
    ·have:=hsame (by rw[hc];exact he)
     rw[hc]at this
     cases hs:(zo5 sig ms h xs ctx).1.same a<;>rw[hs]at this<;>simp[ha2,AM.partOf,zb3,zfb,hn,he,←Zd,this]
    ·simp[ha2,AM.partOf,zb3,zfb,hn,he]
   ·have hn:=(zkr sig ms hT 5 h xs ctx β (by omega) h0 hW (by omega) hx hh (YL hβ (by omega) (by omega))).p (by simp[Zi,below,Zz]) (by simp[below,Zi])
    have hc:J5 sig ms 5 h xs ctx=zdY sig ms h xs ctx:=rfl
    rw[hc]
    by_cases he:(zdY sig ms h xs ctx).2=0
    ·have:=hsame (by rw[hc];exact he)
     rw[hc]at this
     cases hs:(zdY sig ms h xs ctx).1.same a<;>rw[hs]at this<;>simp[ha2,AM.partOf,zb3,zfc,hn,he,←Zd,this]
    ·simp[ha2,AM.partOf,zb3,zfc,hn,he]
   ·have hn:=(zsj sig ms hT 6 h xs ctx β (by omega) h0 hW (by omega) hx hh hβ').p (by simp[Zi,below,Zz]) (by simp[below,Zi])
    have hc:J5 sig ms 6 h xs ctx=zhO sig ms h xs ctx:=rfl
    rw[hc]
    by_cases he:(zhO sig ms h xs ctx).2=0
    ·have:=hsame (by rw[hc];exact he)
     rw[hc]at this
     cases hs:(zhO sig ms h xs ctx).1.same a<;>rw[hs]at this<;>simp[ha2,AM.partOf,zb3,zlj,hn,he,←Zd,this]
    ·simp[ha2,AM.partOf,zb3,zlj,hn,he]
theorem zo8: ∀N,HT sig ms N
 |0=>fun m _ _ _ h=>by have:=X7 m;omega
 |N+1=>zsk sig ms (zo8 N)
end
end Go.Proofs.SZ
namespace Go.Proofs.SZ
open Go Go.AM Go.Ama
theorem ztF:cfg.pure 70=true:=by kernel_rfl
theorem zsl:cfg.pure 69=true:=by kernel_rfl
section
variable(sig:List D)(ms:List M)
theorem zlk{g:Nat}(hg:cfg.pure g=true)(k h:Int)(a b:T)(ctx:List T){e1 e2:Int}(hcl:ctx.length≤1000000)(h1:Ev 70 [zaf sig ms ctx,enc a] (.int e1))(h2:e1=0→Ev g [zaf sig ms (ctx++[a]),enc b] (.int e2)):
  W.call 89 [zaf sig ms ctx, .agg [.int k, .int h, .vec .plain (some 3) [enc a,enc b]], .fn g [] []] []=some (.ret (.int (if e1≠0 then e1 else e2)),[]):=by
 have h1':=h1.p (by simp[Zi,below,Zz])
 have hw:=(zlh sig ms ctx a (by omega)).p (by simp[Zi,below,Zz]) (zj2 0 sig ms _)
 rw[C,zf4]
 by_cases he:e1=0
 ·have h2':=(h2 he).p (by simp[Zi,below,Zz,QY])
  simp only[zaf,zbe,Qi,zbJ]at h2' hw
  simp[←Zd,h1',he,hw,hg,h2',Yj]
 ·simp[←Zd,h1',he,Yj]
theorem zqQ: ∀(N:Nat) (a:T) (ctx:List T) (β:Int),a.size≤N→0≤β→OkW β sig ms ctx→ctx.length+a.size≤1000000→may a=true→okB β a→Y8 (β+a.size*90000000000)→Ev 70 [zaf sig ms ctx,enc a] (.int (zcU sig ms a ctx)):=by
 intro N
 induction N with
 |zero=>intro a _ _ h;have:=X7 a;omega
 |succ N ih=>
  intro a ctx β hN h0 hW hcl hm ho hβ
  obtain⟨k,h,xs⟩:=a
  have hnode:=zjp hm
  obtain⟨⟨hh,_⟩,_,hxs⟩:=ho
  simp only[T.size]at hN hcl hβ
  have hx: ∀x∈xs,may x=true∧okB β x:=fun x hx'=>⟨zc2 hm hx',(zaa _ _).1 hxs x hx'⟩
  simp only[Int.natCast_add,Int.add_mul]at hβ
  show W.call 70 [zaf sig ms ctx, .agg [.int k, .int h, .vec .plain (some 3) (Zl xs)]] []=_
  rw[C,zgv]
  by_cases hk1:k=1
  ·subst hk1
   obtain⟨a,b,rfl⟩:=znW (zjq hm rfl)
   obtain⟨a1,a2⟩:=hx a (by simp)
   obtain⟨b1,b2⟩:=hx b (by simp)
   simp only[sizes]at hN hcl hβ
   have q1:=ih a ctx β (by omega) h0 hW (by omega) a1 a2 (YL hβ (by omega) (by omega))
   have q2:=ih b (ctx++[a]) β (by omega) h0 (hW.with a1 a2) (by simp;omega) b1 b2 (YL hβ (by omega) (by omega))
   have q3:=zlk sig ms ztF 1 h a b ctx (by omega) q1 (fun _=>q2)
   rw[zu9]
   simp[q3]
  ·by_cases hk2:k=2
   ·subst hk2
    have hD:=(zfa sig ms ctx h true hh (by have:=hW.sl;omega)).p (by simp[Zi,below,Zz]) (by simp[below,Zi])
    rw[zcU]
    simp only[if_neg hk1,if_true]
    cases hd:YK sig h true with
    |none=>
     rw[hd]at hD
     simp only[Option.getD_none]at hD
     simp[hD]
    |some t=>
     rw[hd]at hD
     simp only[Option.getD_some]at hD
     obtain⟨d,hdm,hdt⟩: ∃d∈sig,d.t=t:=by
      unfold YK at hd
      split at hd
      ·split at hd
       ·cases hd;exact⟨_,List.getElem_mem _,rfl⟩
       ·cases hd
      ·cases hd
     obtain⟨s1,s2⟩:=hW.s d hdm
     rw[hdt]at s1 s2
     have hS:=(zf9 sig ms (zo8 sig ms (sizes xs)) xs ctx t β (Nat.le_refl _) h0 hW (by omega) hx s1 s2 (YL hβ (by omega) (by omega))).p (by simp[Zi,below,Zz]) (by simp[below,Zi])
     by_cases he:(Yp sig ms xs ctx t).2=0
     ·by_cases hk0:(Yp sig ms xs ctx t).1.k=0
      ·simp[hD,←Zd,hS,he,hk0]
      ·simp[hD,←Zd,hS,he,hk0]
     ·simp[hD,←Zd,hS,he]
   ·rw[zcU]
    simp[hk1,hk2]
theorem ztG: ∀(N:Nat) (a:T) (ctx:List T) (β:Int),a.size≤N→0≤β→OkW β sig ms ctx→ctx.length+a.size≤1000000→may a=true→okB β a→Y8 (β+a.size*90000000000)→Ev 69 [zaf sig ms ctx,enc a] (.int (zeZ sig ms a ctx)):=by
 intro N
 induction N with
 |zero=>intro a _ _ h;have:=X7 a;omega
 |succ N ih=>
  intro a ctx β hN h0 hW hcl hm ho hβ
  obtain⟨k,h,xs⟩:=a
  obtain⟨⟨hh,_⟩,_,hxs⟩:=ho
  simp only[T.size]at hN hcl hβ
  have hx: ∀x∈xs,may x=true∧okB β x:=fun x hx'=>⟨zc2 hm hx',(zaa _ _).1 hxs x hx'⟩
  simp only[Int.natCast_add,Int.add_mul]at hβ
  show W.call 69 [zaf sig ms ctx, .agg [.int k, .int h, .vec .plain (some 3) (Zl xs)]] []=_
  rw[C,zf3]
  by_cases hk0:k=0
  ·rw[zeZ]
   simp[hk0]
  ·by_cases hk1:k=1
   ·subst hk1
    obtain⟨a,b,rfl⟩:=znW (zjq hm rfl)
    obtain⟨a1,a2⟩:=hx a (by simp)
    obtain⟨b1,b2⟩:=hx b (by simp)
    simp only[sizes]at hN hcl hβ
    have q1:=zqQ sig ms N a ctx β (by omega) h0 hW (by omega) a1 a2 (YL hβ (by omega) (by omega))
    have q2:=ih b (ctx++[a]) β (by omega) h0 (hW.with a1 a2) (by simp;omega) b1 b2 (YL hβ (by omega) (by omega))
    have q3:=zlk sig ms zsl 1 h a b ctx (by omega) q1 (fun _=>q2)
    rw[ztE]
    simp[q3]
   ·rw[zeZ]
    simp[hk0,hk1]
theorem zj4(ctx:List T)(a:T)(hI:In sig ms ctx [a]):Ev 34 [.vec .plain (some 4) (Zx sig), .vec .plain (some 5) (XR ms), .vec .plain (some 3) (Zl ctx),enc a] (.int (zc6 sig ms ctx a)):=by
 have hl:=hI.l.1
 simp only[sizes]at hl
 have h1:=(zli sig ms ctx [a] (fun d hd=>by have:=(hI.s d hd).1;omega) (by have:=hI.sl;omega) (fun d hd=>by have:=(hI.m d hd).1;omega) (by have:=hI.ml;omega) (by have:=hI.c.1;omega) (by have:=hI.l.1;omega)).p (by simp[Zi,below,Zz])
 simp only[Qi,zbJ]at h1
 unfold Ev zc6
 rw[C,Zd a,zm5,←Zd a,h1]
 cases hm:zj0 sig ms ctx [a]with
 |false=>simp
 |true=>
  obtain⟨o1,o2⟩:=hI.ok hm
  obtain⟨a1,a2⟩:=o2 a (by simp)
  have hmz:=Qg a1
  have hcl:=(zj3.1 hm).1
  have h2:=(zqQ sig ms a.size a ctx 4398046511104 (Nat.le_refl _) (by omega) o1 (by omega) a1 a2 (by unfold Y8;omega)).p (by simp[Zi,below,Zz])
  simp[h2]
theorem zj5(ctx:List T)(a:T)(hI:In sig ms ctx [a]):Ev 33 [.vec .plain (some 4) (Zx sig), .vec .plain (some 5) (XR ms), .vec .plain (some 3) (Zl ctx),enc a] (.int (zc7 sig ms ctx a)):=by
 have hl:=hI.l.1
 simp only[sizes]at hl
 have h1:=(zli sig ms ctx [a] (fun d hd=>by have:=(hI.s d hd).1;omega) (by have:=hI.sl;omega) (fun d hd=>by have:=(hI.m d hd).1;omega) (by have:=hI.ml;omega) (by have:=hI.c.1;omega) (by have:=hI.l.1;omega)).p (by simp[Zi,below,Zz])
 simp only[Qi,zbJ]at h1
 unfold Ev zc7
 rw[C,Zd a,zm6,←Zd a,h1]
 cases hm:zj0 sig ms ctx [a]with
 |false=>simp
 |true=>
  obtain⟨o1,o2⟩:=hI.ok hm
  obtain⟨a1,a2⟩:=o2 a (by simp)
  have hmz:=Qg a1
  have hcl:=(zj3.1 hm).1
  have h2:=(ztG sig ms a.size a ctx 4398046511104 (Nat.le_refl _) (by omega) o1 (by omega) a1 a2 (by unfold Y8;omega)).p (by simp[Zi,below,Zz])
  simp[h2]
end
end Go.Proofs.SZ
namespace Go.Proofs.SZ
open Go Go.AM
set_option maxRecDepth 20000
theorem zo9(O:Oracle)(l0:(List V)):Zf Tryz.prog cfg O 14 [.vec .plain (some 4) l0] []=
 Za (O.call 30 [V.vec .plain (some 4) l0,V.fn 31 [] [V.cptr none (V.vec .plain (some 4) l0)]] []) fun r1=>Zj r1.fst (fun v2=>Z2 v2 fun
 c3=>Ze c3 fun v4 c5=>Zp v4 fun n6=>Ze c5 fun v7 c8=>Zp v7 fun n9=>Zh c8 (some (Out.ret (V.tup [V.int n6,V.int n9]),[]))) fun p10=>none:=by kernel_rfl
theorem zc8(O:Oracle)(l0:(List V))(g1:Nat)(l2:(List V))(l3:(List V))(st:St):Zf Tryz.prog cfg O 30 [.vec .plain (some 4) l0, .fn g1 l2 l3] st=
 bc (decide ((↑l0.length:Int)>40)) (Y6 (List.length st) (V.tup [V.int 0,V.int 4]) st) (Za (O.loop 30 4 [V.int 0,V.fn g1 l2 l3,V.vec .plain (some 4)
 l0,V.int (↑l0.length:Int)] st) fun r1=>Xj r1.fst none (Ze r1.snd.fst fun v2 c3=>Zp v2 fun n4=>Ze c3 fun v5 c6=>Zp v5 fun n7=>Zh c6 (Y6
 (List.length st) (V.tup [V.int n4,V.int n7]) r1.snd.snd)) (fun i8=>bc (i8.beq 0) (Zh r1.snd.fst (Y6 (List.length st) (V.tup [V.int 0,V.int 0]) r1.snd.snd)) none) fun v9=>
 none):=by kernel_rfl
theorem QE(O:Oracle)(n0:Int)(g1:Nat)(l2:(List V))(l3:(List V))(l4:(List V))(n5:Int)(st:St):Z8 Tryz.prog cfg O 30 4 [.int n0, .fn g1 l2 l3, .vec .plain (some 4) l4, .int n5] st=
 bc (decide (n0<n5)) (gd (decide (0≤n0)&&decide (n0<(↑l4.length:Int))) (Zc [CT.str,CT.int,CT.int,CT.slice (some 3)] (ZW l4 n0) fun s1 n2 n3 l4_1=>bc
 (cfg.pure g1) (Za (Zr O g1 (l2++[V.int n0,V.agg [V.str s1,V.int n2,V.int n3,V.vec .plain (some 3) l4_1]]++l3)) fun r5=>Zp r5 fun n6=>bc (n6 !=0) (some
 (Ex.ret,[V.int n0,V.int n6],st)) (O.2 30 4 [V.int (IntKind.i64.wrap (n0+1)),V.fn g1 l2 l3,V.vec .plain (some 4) l4,V.int n5] st)) (Za (O.call g1 (l2
 ++[V.int n0,V.agg [V.str s1,V.int n2,V.int n3,V.vec .plain (some 3) l4_1]]++l3) st) fun r7=>Zj r7.fst (fun v8=>Zp v8 fun n9=>bc (n9 !=0) (some (Ex.ret,[V.int
 n0,V.int n9],r7.snd)) (O.2 30 4 [V.int (IntKind.i64.wrap (n0+1)),V.fn g1 l2 l3,V.vec .plain (some 4) l4,V.int n5] r7.snd)) fun p10=>none))) (some
 (Ex.exit 0,[],st)):=by kernel_rfl
theorem zks(O:Oracle)(n0:Int)(s1:ByteArray)(n2:Int)(n3:Int)(l4 sg:(List V))(st:St):Zf Tryz.prog cfg O 31 [.int n0, .agg [.str s1, .int n2, .int n3, .vec .plain (some 3) l4], .cptr none (.vec .plain (some 4) sg)] st=
 Za (Zr O 32 [V.agg [V.int n2,V.int n3,V.vec .plain (some 3) l4]]) fun r1=>Zm r1 fun b2=>bc b2 (gd (true&&decide (0≤n0)&&decide (n0≤(↑sg.length:
 Int))) (Za (Zr O 33 [V.vec .plain (some 4) (List.drop 0 (List.take n0.toNat sg)),V.vec .plain (some 5) [],V.vec .plain (some 3) [],V.agg [V.int n2,V.int n3,
 V.vec .plain (some 3) l4]]) fun r3=>Zp r3 fun n4=>Y6 (List.length st) (V.int n4) st)) (gd (true&&decide (0≤n0)&&decide (n0≤(↑sg.length:Int))) (Za (Zr O
 34 [V.vec .plain (some 4) (List.drop 0 (List.take n0.toNat sg)),V.vec .plain (some 5) [],V.vec .plain (some 3) [],V.agg [V.int n2,V.int n3,V.vec .plain (some 3)
 l4]]) fun r5=>Zp r5 fun n6=>Y6 (List.length st) (V.int n6) st)):=by kernel_rfl
end Go.Proofs.SZ
namespace Go.Ama
open Go Go.AM
def XO:Nat→List Int→Int×Int
 |_,[]=>(0,0)
 |i,e::r=>if e≠0 then(i,e)else XO (i+1) r
def zhr(l:List Int):Int×Int:=if 40<l.length then(0,4)else XO 0 l
noncomputable def zoA(sig:List D)(i:Nat)(t:T):Int:=if(split t).2.k=0 then zc7 (sig.take i) [] [] t else zc6 (sig.take i) [] [] t
noncomputable def zat(sig:List D):List Int:=(List.range sig.length).map fun i=>zoA sig i ((sig.map D.t).getD i T0)
noncomputable def zoB(sig:List D):Int×Int:=zhr (zat sig)
theorem zoC{α:Type}{L:Int→Option α}{es:List Int}{e0:α}{e1:Int→Int→α}(hstep: ∀(i:Nat) (h:i<es.length),L i=if es[i]≠0 then some (e1 i es[i])else L ((i+1:Nat):Int))(hend:L (es.length:Nat)=some e0):
  L 0=some (if(XO 0 es).2=0 then e0 else e1 (XO 0 es).1 (XO 0 es).2):=by
 have: ∀d i:Nat,i+d=es.length→L i=some (if(XO i (es.drop i)).2=0 then e0 else e1 (XO i (es.drop i)).1 (XO i (es.drop i)).2):=by
  intro d
  induction d with
  |zero=>
   intro i hi
   have:i=es.length:=by omega
   subst this
   rw[hend,List.drop_length];rfl
  |succ d ih=>
   intro i hi
   have hlt:i<es.length:=by omega
   rw[hstep i hlt,List.drop_eq_getElem_cons hlt]
   by_cases h:es[i]=0
   ·have e:XO i (es[i]::es.drop (i+1))=XO (i+1) (es.drop (i+1)):=by simp[XO,h]
    rw[if_neg (by simpa using h),e]
    exact ih (i+1) (by omega)
   ·have e:XO i (es[i]::es.drop (i+1))=((i:Int),es[i]):=by simp[XO,h]
    rw[if_pos h,e]
    simp[h]
 have:=this es.length 0 (by omega)
 rwa [List.drop_zero]at this
section
variable{σ:Type}(nx:Int→T→σ→σ)
end
def zqn(l:List Int):List V:=l.map V.int
@[simp] theorem zuP(l:List Int):(zqn l).length=l.length:=by simp[zqn]
@[simp] theorem zuQ(a b:List Int):zqn (a++b)=zqn a++zqn b:=by simp[zqn]
@[simp] theorem zvz(n:Nat)(l:List Int):Zi n (zqn l)=true:=zbU (fun _=>rfl) l
end Go.Ama
namespace Go.Ama
open Go Go.AM
theorem In.sub{sig:List D}{ms:List M}{all l:List T}(h:In sig ms all l){ctx:List T}(hc: ∀x∈ctx,x∈all)(hs:sizes ctx≤sizes all){r:List T}(hr: ∀x∈r,x∈all)(hrs:sizes r≤sizes all):In sig ms ctx r:=
 ⟨h.s,h.m,⟨Nat.le_trans hs h.c.1,fun x hx=>h.c.2 x (hc x hx)⟩,⟨Nat.le_trans hrs h.c.1,fun x hx=>h.c.2 x (hr x hx)⟩,h.sl,h.ml⟩
end Go.Ama
namespace Go.Proofs.SZ
open Go Go.AM Go.Ama
theorem zoD{g:Nat}(hp:cfg.pure g=false)(xs:List D)(es:List Int)(hlen:es.length=xs.length)(hs:xs.length≤1099511627776)(b:List V)(st:St)(hg: ∀(i:Nat) (h:i<xs.length),W.call g ([.int (i:Int),Q3 xs[i]]++b) st=some (.ret (.int (es[i]'(by omega))),st)):
  W.call 30 [.vec .plain (some 4) (Zx xs), .fn g [] b] st=some (.ret (.tup [.int (zhr es).1, .int (zhr es).2]),st):=by
 have hl:=zoC (L:=fun i=>W.loop 30 4 [.int i, .fn g [] b, .vec .plain (some 4) (Zx xs), .int xs.length] st) (es:=es) (e0:=(Ex.exit 0,[],st)) (e1:=fun i e=>(Ex.ret,[V.int i,V.int e],st))
  (fun i hi=>by
   have hi':i<xs.length:=by omega
   have hlt:(i:Int)<xs.length:=by omega
   have hw:IntKind.i64.wrap ((i:Int)+1)=((i+1:Nat):Int):=by rw[Z9 ⟨by omega,by omega⟩];omega
   have h1:=hg i hi'
   have e1:V.agg [V.str (ba xs[i].name),V.int xs[i].t.k,V.int xs[i].t.h,V.vec .plain (some 3) (Zl xs[i].t.args)]=Q3 xs[i]:=rfl
   simp only[List.cons_append,List.nil_append]at h1
   show W.loop _ _ _ _=_
   rw[L,QE,hw,Xi hi',ZA,hp]
   simp only[hlt,Int.natCast_nonneg,decide_true,Zq,Zn,Bool.and_self,Z6,zvW,e1,List.nil_append,List.cons_append,h1,Zb,Zk,ZO]
   by_cases he:es[i]=0
   ·simp[he]
   ·simp[he])
  (by
   show W.loop _ _ _ _=_
   rw[L,QE,hlen]
   simp)
 have hl':W.loop 30 4 [.int 0, .fn g [] b, .vec .plain (some 4) (Zx xs), .int xs.length] st=_:=hl
 unfold zhr
 rw[C,zc8,ZA,hl',hlen]
 by_cases h40:40<xs.length
 ·have:(xs.length:Int)>40:=by omega
  simp[h40,this,Yj]
 ·have: ¬(xs.length:Int)>40:=by omega
  by_cases he:(XO 0 es).2=0
  ·have hz:(XO 0 es).1=0:=by
    have: ∀(l:List Int) (i:Nat),(XO i l).2=0→(XO i l).1=0:=by
     intro l
     induction l with
     |nil=>intro i _;rfl
     |cons e l ih=>
      intro i h
      simp only[XO]at h⊢
      split
      ·rename_i c;rw[if_pos c]at h;exact absurd h c
      ·rename_i c;rw[if_neg c]at h;exact ih _ h
    exact this es 0 he
   simp[h40,this,he,hz,Yj]
  ·simp[h40,this,he,Yj]
theorem zsm:cfg.pure 31=false:=by kernel_rfl
theorem ztH(sig:List D)(hI:In sig [] [] []):Ev 14 [.vec .plain (some 4) (Zx sig)] (.tup [.int (zoB sig).1, .int (zoB sig).2]):=by
 have hsl:=hI.sl
 have hlen:(zat sig).length=sig.length:=by simp[zat]
 have hf:=zoD zsm sig (zat sig) hlen (by omega) [.cptr none (.vec .plain (some 4) (Zx sig))] []
  (fun i hi=>by
   obtain⟨hz,ho⟩:=hI.s _ (List.getElem_mem hi)
   have hI':In (sig.take i) [] [] [sig[i].t]:=⟨fun d hd=>hI.s d (List.mem_of_mem_take hd),fun m hm=>by simp at hm,⟨by simp[sizes],fun x hx=>by simp at hx⟩,⟨by simp only[sizes];omega,fun x hx=>by simp at hx;subst hx;exact ho⟩,by simp;omega,by simp⟩
   have hT:=(zj4 (sig.take i) [] [] sig[i].t hI').p (by simp[Zi,below,Zz])
   have hK:=(zj5 (sig.take i) [] [] sig[i].t hI').p (by simp[Zi,below,Zz])
   have hk:=(zhc sig[i].t).p
   simp only[zrV,zbJ]at hT hK
   have he:(zat sig)[i]'(by omega)=zoA sig i sig[i].t:=by
    simp[zat,List.getD_eq_getElem?_getD,hi]
   have htk:List.drop 0 (List.take (i:Int).toNat (Zx sig))=Zx (sig.take i):=by
    simp[zp8]
   have hle:(i:Int)≤(sig.length:Int):=by omega
   have e1:Q3 sig[i]=V.agg [V.str (ba sig[i].name),V.int sig[i].t.k,V.int sig[i].t.h,V.vec .plain (some 3) (Zl sig[i].t.args)]:=rfl
   rw[he]
   show W.call 31 [.int (i:Int),Q3 sig[i], .cptr none (.vec .plain (some 4) (Zx sig))] []=_
   rw[C,e1,zks,htk,ZA,←Zd,hk]
   unfold zoA
   by_cases c:(split sig[i].t).2.k=0
   ·simp only[c,decide_true,Zb,Zs,Zq,Int.natCast_nonneg,hle,Bool.and_self,Z6,hK,ZO,Yj,if_true]
   ·simp only[c,decide_false,Zb,Zs,Zn,Int.natCast_nonneg,decide_true,hle,Bool.and_self,Z6,hT,ZO,Yj,if_false])
 unfold Ev zoB
 rw[C,zo9,hf]
 simp only[Zb,Zk,Ya,YO,ZO,ZH]
end Go.Proofs.SZ
namespace Go.Proofs.SZ
open Go Go.AM
set_option maxRecDepth 20000
theorem zm9(O:Oracle)(l0:(List V))(l1:(List V)):Zf Tryz.prog cfg O 16 [.vec .plain (some 4) l0, .vec .plain (some 4) l1] []=
 bc ((↑l0.length:Int) !=(↑l1.length:Int)) (some (Out.ret (V.bool false),[])) (Za (O.loop 16 4 [V.int 0,V.vec .plain (some 4) l1,V.vec .plain (some 4) l0] [])
 fun r1=>Xj r1.fst none (Ze r1.snd.fst fun v2 c3=>Zm v2 fun b4=>Zh c3 (some (Out.ret (V.bool b4),[]))) (fun i5=>bc (i5.beq 0) (Zh r1.snd.fst (some (Out.ret
 (V.bool true),[]))) none) fun v6=>none):=by kernel_rfl
theorem zcO(O:Oracle)(n0:Int)(l1:(List V))(l2:(List V)):Z8 Tryz.prog cfg O 16 4 [.int n0, .vec .plain (some 4) l1, .vec .plain (some 4) l2] []=
 bc (decide (n0<(↑l2.length:Int))) (gd (decide (0≤n0)&&decide (n0<(↑l2.length:Int))) (Y3 (ZW l2 n0) fun c1=>gd (decide (4≤c1.length)) (onCells [CT.int,CT.int,
 CT.slice (some 3)] (List.take 3 (List.drop 1 c1)) fun n2 n3 l4=>gd (decide (0≤n0)&&decide (n0<(↑l1.length:Int))) (Y3 (ZW l1 n0) fun c5=>gd (decide (4≤
 c5.length)) (onCells [CT.int,CT.int,CT.slice (some 3)] (List.take 3 (List.drop 1 c5)) fun n6 n7 l8=>Za (Zr O 36 [V.agg [V.int n2,V.int n3,V.vec .plain (some
 3) l4],V.agg [V.int n6,V.int n7,V.vec .plain (some 3) l8]]) fun r9=>Zm r9 fun b10=>bc (!b10) (some (Ex.ret,[V.bool false],[])) (gd (decide (0≤n0)&&decide (n0<
 (↑l2.length:Int))) (Y3 (ZW l2 n0) fun c11=>gd (decide (1≤c11.length)) (YU (AM.partOf c11 0 none) fun s12=>gd (decide (0≤n0)&&decide (n0<(↑l1.length:Int)))
 (Y3 (ZW l1 n0) fun c13=>gd (decide (1≤c13.length)) (YU (AM.partOf c13 0 none) fun s14=>bc (!s12.toList==s14.toList) (some (Ex.ret,[V.bool false],[])) (O.2
 16 4 [V.int (IntKind.i64.wrap (n0+1)),V.vec .plain (some 4) l1,V.vec .plain (some 4) l2] []))))))))))) (some (Ex.exit 0,[],[])):=by kernel_rfl
end Go.Proofs.SZ
namespace Go.Proofs.SZ
open Go Go.AM Go.Ama
end Go.Proofs.SZ
namespace Go.Proofs.SZ
open Go Go.AM Go.Ama
theorem zuA{R:Type}(d:D)(K:Int→Int→List V→Option R):Y3 (Q3 d) (fun c=>gd (decide (4≤c.length)) (onCells (R:=R) [CT.int,CT.int,CT.slice (some 3)] (List.take 3 (List.drop 1 c)) K))=K d.t.k d.t.h (Zl d.t.args):=rfl
theorem zuB{R:Type}(d:D)(K:ByteArray→Option R):Y3 (Q3 d) (fun c=>gd (decide (1≤c.length)) (YU (AM.partOf c 0 none) K))=K (ba d.name):=rfl
end Go.Proofs.SZ
namespace Go.Proofs.SZ
open Go Go.AM Go.Ama
def zoE(x:D×D):Bool:=x.1.t.same x.2.t&&decide (x.1.name=x.2.name)
def zmA(a b:List D):Bool:=decide (a.length=b.length)&&(a.zip b).all zoE
theorem zoF(a b:List D)(ha: ∀d∈a,d.t.size≤1048576)(hb: ∀d∈b,d.t.size≤1048576)(hl:a.length≤1048576):Ev 16 [.vec .plain (some 4) (Zx a), .vec .plain (some 4) (Zx b)] (.bool (zmA a b)):=by
 unfold Ev zmA
 rw[C,zm9]
 by_cases c3:a.length=b.length
 ·have hlp:=zeo (L:=fun i=>W.loop 16 4 [V.int i,V.vec .plain (some 4) (Zx b),V.vec .plain (some 4) (Zx a)] []) (xs:=a.zip b) (g:=zoE) (e0:=(Ex.exit 0,[],[])) (e1:=(Ex.ret,[V.bool false],[]))
   (fun i hi=>by
    have hi1:i<a.length:=by simp at hi;omega
    have hi2:i<b.length:=by omega
    have hp:=(zpz a[i].t b[i].t (Nat.le_trans (ha _ (List.getElem_mem hi1)) (by decide)) (Nat.le_trans (hb _ (List.getElem_mem hi2)) (by decide))).p
    have h0:decide ((0:Int)≤(i:Nat))=true:=by simp
    have h1:decide (((i:Nat):Int)<(a.length:Int))=true:=by simp;omega
    have h2:decide (((i:Nat):Int)<(b.length:Int))=true:=by simp;omega
    rw[Zd a[i].t,Zd b[i].t]at hp
    show W.loop _ _ _ _=_
    rw[L,zcO]
    simp only[ZA,h0,h1,h2,Xi hi1,Xi hi2,Zq,Bool.and_self,Z6,zuA,zuB,hp,Zb,Zs,zgj,List.getElem_zip,zoE]
    rw[Z9 ⟨by omega,by omega⟩]
    cases a[i].t.same b[i].t with
    |false=>rfl
    |true=>
     by_cases hn:a[i].name=b[i].name
     ·simp[hn,bc]
     ·simp[hn,bc])
   (by show W.loop _ _ _ _=_;rw[L,zcO];simp[bc,c3])
  simp only[c3,ZA,bne_self_eq_false,hlp,bc,decide_true,Bool.true_and]
  cases(a.zip b).all zoE<;>simp[Za,Xj,Ze,Zm,Zh,bc]
 ·have c4:((a.length:Int) !=(b.length:Int))=true:=by simp;omega
  simp only[ZA,c4,c3]
  simp[bc]
theorem zsn: ∀t:T,t.same t=true:=by
 intro t
 induction t using T.ind with
 |_ k h xs ih=>
  have: ∀l:List T,(∀x∈l,x.same x=true)→zbf l l=true:=by
   intro l
   induction l with
   |nil=>intro _;rfl
   |cons x l ihl=>intro hh;simp only[zbf,hh x (by simp),ihl fun y hy=>hh y (by simp[hy]),Bool.and_self]
  simp[T.same,this xs ih]
theorem zoG(a:List D):zmA a a=true:=by
 unfold zmA
 simp only[decide_true,Bool.true_and]
 induction a with
 |nil=>rfl
 |cons d a ih=>simp[zoE,zsn,ih]
end Go.Proofs.SZ
namespace Go.Ama
open Go Go.AM
theorem zqo{l:List Int}(h:(zhr l).2=0):l.length≤40∧ ∀e∈l,e=0:=by
 unfold zhr at h
 split at h
 ·simp at h
 ·rename_i hl
  refine⟨by omega, ?_⟩
  have: ∀(l:List Int) (i:Nat),(XO i l).2=0→ ∀e∈l,e=0:=by
   intro l
   induction l with
   |nil=>intro i _ e he;cases he
   |cons e l ih=>
    intro i h x hx
    simp only[XO]at h
    split at h
    ·rename_i c;exact absurd h c
    ·rename_i c
     rcases List.mem_cons.1 hx with rfl|hx
     ·simpa using c
     ·exact ih _ h x hx
  exact this l 0 h
end Go.Ama
namespace Go.Proofs.SZ
open Go Go.AM Go.Ama
theorem zqp{n m:Int}{t:T}(h:zgl n m t=true):low t=true∧(t.size:Int)≤n:=by
 unfold zgl at h
 simp only[Bool.and_eq_true,decide_eq_true_eq]at h
 exact⟨h.1,h.2.1⟩
theorem zuC{B:Int}(hB:1099511627776≤B){t:T}(h:low t=true)(hm:may t=true):okB B t:=ztx hB t (zhi hm) h
theorem zuD{sig:List D}(h:zop sig=true):sig.length≤30∧ ∀d∈sig,low d.t=true∧d.t.size≤1000:=by
 unfold zop at h
 simp only[Bool.and_eq_true,decide_eq_true_eq,List.all_eq_true]at h
 refine⟨h.1,fun d hd=> ?_⟩
 have:=zqp (h.2 d hd)
 exact⟨this.1,by omega⟩
theorem zv0{sig:List D}(h:zop sig=true):In sig [] [] []:=by
 obtain⟨g1,g2⟩:=zuD h
 exact⟨fun d hd=>⟨by have:=(g2 d hd).2;omega,fun hm=>zuC (by omega) (g2 d hd).1 hm⟩,by simp,⟨by simp[sizes],by simp⟩,⟨by simp[sizes],by simp⟩,by omega,by simp⟩
end Go.Proofs.SZ
namespace Go.Proofs.SZ
open Go Go.AM
set_option maxRecDepth 20000
theorem zhs(O:Oracle)(l0:(List V)):Zf Tryz.prog cfg O 4 [.vec .plain (some 4) l0] []=
 Za (Zr O 5 []) fun r1=>Zm r1 fun b2=>Za (Zr O 6 [V.vec .plain (some 4) l0]) fun r3=>Zm r3 fun b4=>Za (Zr O 7
 [V.vec .plain (some 4) l0]) fun r5=>Zm r5 fun b6=>bc (!b2) (some (Out.ret (V.bool b2),[])) (bc (!b4) (some (Out.ret (V.bool b2),[])) (bc (!b6) (some (Out.ret (V.bool
 b2),[])) (Za (Zr O 14 [V.vec .plain (some 4) l0]) fun r7=>Z2 r7 fun c8=>Ze c8 fun v9 c10=>Zp v9 fun n11=>Ze c10 fun v12 c13=>Zp v12 fun
 n14=>Zh c13 (Za (Zr O 10 [V.vec .plain (some 4) l0]) fun r15=>Z2 r15 fun c16=>Ze c16 fun v17 c18=>ZU none v17 fun l19=>Ze c18 fun v20
 c21=>Zp v20 fun n22=>Zh c21 (bc (n14 !=0) (bc (n14 !=0) (some (Out.ret (V.bool true),[])) (bc (n22==1) (some (Out.ret (V.bool true),[])) (some (Out.ret (V.bool
 (decide ((↑l19.length:Int)>20000))),[])))) (bc (n22 !=0) (bc (n14 !=0) (some (Out.ret (V.bool true),[])) (bc (n22==1) (some (Out.ret (V.bool true),[])) (some (Out.ret
 (V.bool (decide ((↑l19.length:Int)>20000))),[])))) (bc (decide ((↑l19.length:Int)>20000)) (bc (n14 !=0) (some (Out.ret (V.bool true),[])) (bc (n22==1) (some (Out.ret
 (V.bool true),[])) (some (Out.ret (V.bool (decide ((↑l19.length:Int)>20000))),[])))) (Za (Zr O 15 [V.vec .plain none l19]) fun r23=>Z2 r23 fun c24=>
 Ze c24 fun v25 c26=>ZU (some 4) v25 fun l27=>Ze c26 fun v28 c29=>Zp v28 fun n30=>Zh c29 (Za (Zr O 16 [V.vec .plain (some 4) l27,V.vec
 .plain (some 4) l0]) fun r31=>Zm r31 fun b32=>bc (n30==0) (some (Out.ret (V.bool b32),[])) (some (Out.ret (V.bool false),[]))))))))))):=by kernel_rfl
end Go.Proofs.SZ
namespace Go.Ama
open Go.AM (T)
theorem zmB{x:Bytes}(h:nameOK x=true):x≠ []∧(∀c∈x,named c=true)∧x.length≤40∧x≠typ∧YE x=some [(0,x)]:=by
 unfold nameOK at h
 simp only[Bool.and_eq_true,decide_eq_true_eq]at h
 obtain⟨⟨⟨⟨h1,h2⟩,h3⟩,h4⟩,h5⟩:=h
 have hok:=zmf x _ h5 (0,x) (by simp)
 rcases hok with⟨k,_⟩|⟨_,k1,k2⟩
 ·cases k
 ·exact⟨k1,k2,h2,h4,h5⟩
theorem zqq{x:Bytes}(hx:x≠ [])(hn: ∀c∈x,named c=true)(c:UInt8)(r:Bytes)(hc:named c=false):YE (x++c::r)=(YE (c::r)).map ((0,x):: ·):=by
 obtain⟨y,z,rfl⟩: ∃y z,x=y::z:=by cases x with|nil=>exact absurd rfl hx|cons y z=>exact⟨y,z,rfl⟩
 have hz: ∀c∈z,named c=true:=fun c h=>hn c (by simp[h])
 have tw:=zbx (p:=named) z (c::r) hz (by intro x hx;simp only[List.head?_cons,Option.some.injEq]at hx;rw[←hx];exact hc)
 rw[List.cons_append,zbK _ (hn y (by simp)),tw.1,tw.2]
end Go.Ama
namespace Go.Ama
open Go Go.AM
def Wr1(sig:List D)(t:T)(d:Nat):Prop:=okW sig t d=true∧ ∀i,allW (kindB sig) i t=true
theorem zmC{sig:List D}{k h:Int}{as_:List T}{d:Nat}(hh:(YP sig k h d).isSome=true)(hk: ∀i,kindB sig i (.mk k h as_)=true)(h1:k≠1)(h3:k≠3)(ha: ∀a∈as_,Wr1 sig a d):Wr1 sig (.mk k h as_) d:=by
 refine⟨zpY hh h1 h3 ?_,fun i=> ?_⟩
 ·rw[zju,List.all_eq_true]
  exact fun a h=>(ha a h).1
 ·have hb:(decide (k=1)||decide (k=3))=false:=by simp[h1,h3]
  simp only[allW,hb,zdW,hk,Bool.true_and,List.all_eq_true]
  exact fun a h=>(ha a h).2 i
theorem zfd{sig:List D}{h:Int}{b:Bool}{t:T}(e:YK sig h b=some t):0≤h∧h<sig.length∧decide (zjs sig h=0)=b:=by
 unfold YK at e
 split at e
 ·rename_i hc
  refine⟨hc.1,hc.2, ?_⟩
  split at e
  ·rename_i hb
   unfold zjs
   have hn:h.toNat<sig.length:=by omega
   have:(sig.map (·.t)).getD h.toNat T0=sig[h.toNat].t:=by simp[List.getD_eq_getElem?_getD,hn]
   rw[this]
   exact hb
  ·cases e
 ·cases e
theorem zew(sig:List D): ∀(as_:List T) (ctx:List T) (t:T),(∀a∈as_,∀(ctx:List T) (b:T),Yu a=true→QL sig [] a ctx b=0→Wr1 sig a ctx.length)→Y0 as_=true→(Yp sig [] as_ ctx t).2=0→ ∀a∈as_,Wr1 sig a ctx.length
 |[],_,_,_,_,_,a,ha=>by cases ha
 |b::as_,ctx,t,ih,hn,e,a,ha=>by
  simp only[Y0,Bool.and_eq_true]at hn
  unfold Yp at e
  by_cases hk:t.k≠1
  ·rw[if_pos hk]at e;cases e
  ·rw[if_neg hk]at e
   dsimp only at e
   by_cases h1:QL sig [] b ctx (t.args.getD 0 T0)=0
   ·rw[if_neg (fun c=>c h1)]at e
    rcases List.mem_cons.1 ha with rfl|ha
    ·exact ih a (by simp) ctx _ hn.1 h1
    ·by_cases h2:(Xa (t.args.getD 1 T0) [b] 0).2=0
     ·rw[if_neg (fun c=>c h2)]at e
      exact zew sig as_ ctx _ (fun x hx=>ih x (by simp[hx])) hn.2 e a ha
     ·rw[if_pos h2]at e
      exact absurd e h2
   ·rw[if_pos h1]at e
    exact absurd e h1
theorem ztI(sig:List D)(m:T): ∀(ctx:List T) (a:T),Yu m=true→QL sig [] m ctx a=0→Wr1 sig m ctx.length:=by
 induction m using T.ind with
 |_ k h as_ ih=>
  intro ctx a hn e
  simp only[Yu,Bool.and_eq_true]at hn
  unfold QL at e
  by_cases h3:k=3
  ·subst h3
   by_cases ha:a.k=1
   ·rw[if_pos ⟨rfl,ha⟩]at e
    have hx:=hn.1
    unfold zae at hx
    simp only[show¬((3:Int)=0) by decide,show¬((3:Int)=1) by decide,if_false,if_true,Bool.and_eq_true,decide_eq_true_eq]at hx
    match as_,hx.2,hn,e,ih with
    |[b],_,hn,e,ih=>
     unfold ztA at e
     simp only[Y0,Bool.and_eq_true]at hn
     obtain⟨q1,q2⟩:=ih b (by simp) _ _ hn.2.1 e
     rw[List.length_append,List.length_singleton]at q1
     refine⟨?_,fun i=> ?_⟩
     ·unfold okW
      simp[zkP,q1]
     ·simp only[allW,XC,decide_true,Bool.or_true,cond_true,Bool.and_eq_true]
      exact⟨by simp[kindB,T.k],q2 _⟩
   ·rw[if_neg (fun c=>ha c.2),if_pos (.inl rfl)]at e
    cases e
  ·rw[if_neg (fun c=>h3 c.1)]at e
   by_cases ha:a.k≠2
   ·rw[if_pos (.inr ha)]at e
    cases e
   ·rw[if_neg (by rintro(c|c);exact h3 c;exact ha c)]at e
    dsimp only at e
    have hh:k≠0→k≠1→0≤h:=by
     intro h0 h1
     have hx:=hn.1
     unfold zae at hx
     rw[if_neg h0,if_neg h1,if_neg h3]at hx
     simp only[Bool.and_eq_true,decide_eq_true_eq]at hx
     exact hx.2.2
    by_cases h4:k=4
    ·subst h4
     rw[if_pos rfl]at e
     by_cases hl:(ctx.length:Int)≤h
     ·rw[if_pos hl]at e;cases e
     ·rw[if_neg hl]at e
      have hs:(Yp sig [] as_ ctx (upP (ctx.getD (ctx.length-1-h.toNat) T0) (h+1) 0)).2=0:=by
       refine Decidable.byContradiction fun c=> ?_
       rw[if_pos c]at e;exact c e
      refine zmC ?_ (fun i=>by simp[kindB,T.k]) (by decide) (by decide) (zew sig as_ ctx _ ih hn.2 hs)
      unfold YP
      rw[if_pos ⟨rfl,by omega⟩]
      rfl
    ·rw[if_neg h4]at e
     by_cases h5:k=5
     ·subst h5
      rw[if_pos rfl]at e
      cases hd:YK sig h false with
      |none=>rw[hd]at e;cases e
      |some t=>
       rw[hd]at e
       dsimp only at e
       have hs:(Yp sig [] as_ ctx t).2=0:=by
        refine Decidable.byContradiction fun c=> ?_
        rw[if_pos c]at e;exact c e
       obtain⟨d1,d2,d3⟩:=zfd hd
       refine zmC ?_ (fun i=> ?_) (by decide) (by decide) (zew sig as_ ctx _ ih hn.2 hs)
       ·unfold YP
        rw[if_neg (fun c=>by cases c.1),if_pos ⟨.inr rfl,d2⟩,Option.isSome_map,List.getElem?_eq_getElem (by omega)]
        rfl
       ·unfold kindB
        simp only[T.k,T.h]
        have:zjs sig h≠0:=of_decide_eq_false d3
        simp[this]
     ·rw[if_neg h5]at e
      by_cases h6:k=6
      ·subst h6
       have h0:(([]:List M).length:Int)≤h:=by simpa using hh (by decide) (by decide)
       rw[if_pos rfl,if_pos h0]at e
       cases e
      ·rw[if_neg h6]at e
       cases e
theorem zuR{sig:List D}{h:Int}{a b:T}{d:Nat}(h1:Wr1 sig a d)(h2:Wr1 sig b (d+1)):Wr1 sig (.mk 1 h [a,b]) d:=by
 refine⟨?_,fun i=> ?_⟩
 ·unfold okW
  simp[zrH,h1.1,h2.1]
 ·simp only[allW,XC,decide_true,Bool.true_or,cond_true,Bool.and_eq_true]
  exact⟨by simp[kindB,T.k],h1.2 _,h2.2 _⟩
theorem zqR{h:Int}{as_:List T}(hx:zae 1 h as_.length=true): ∃a b,as_=[a,b]:=by
 unfold zae at hx
 simp only[show¬((1:Int)=0) by decide,if_false,if_true,Bool.and_eq_true,decide_eq_true_eq]at hx
 match as_,hx.2 with
 |[a,b],_=>exact⟨a,b,rfl⟩
theorem zii(sig:List D): ∀(n:Nat) (m:T) (ctx:List T),m.size≤n→Yu m=true→zcU sig [] m ctx=0→Wr1 sig m ctx.length
 |0,m,_,hs,_,_=>by have:=X7 m;omega
 |n+1, .mk k h as_,ctx,hs,hn,e=>by
  simp only[Yu,Bool.and_eq_true]at hn
  simp only[T.size]at hs
  unfold zcU at e
  by_cases h1:k=1
  ·subst h1
   rw[if_pos rfl]at e
   obtain⟨a,b,rfl⟩:=zqR hn.1
   simp only[Y0,Bool.and_eq_true]at hn
   simp only[sizes]at hs
   unfold ztB at e
   dsimp only at e
   by_cases ea:zcU sig [] a ctx=0
   ·rw[if_neg (fun c=>c ea)]at e
    unfold zm7 at e
    have q:=zii sig n b (ctx++[a]) (by omega) hn.2.2.1 e
    rw[List.length_append,List.length_singleton]at q
    exact zuR (zii sig n a ctx (by omega) hn.2.1 ea) q
   ·rw[if_pos ea]at e
    exact absurd e ea
  ·rw[if_neg h1]at e
   by_cases h2:k=2
   ·subst h2
    rw[if_pos rfl]at e
    cases hd:YK sig h true with
    |none=>rw[hd]at e;cases e
    |some t=>
     rw[hd]at e
     dsimp only at e
     have hs2:(Yp sig [] as_ ctx t).2=0:=by
      refine Decidable.byContradiction fun c=> ?_
      rw[if_pos c]at e;exact c e
     obtain⟨d1,d2,d3⟩:=zfd hd
     refine zmC ?_ (fun i=> ?_) (by decide) (by decide) (zew sig as_ ctx _ (fun a _ ctx b=>ztI sig a ctx b) hn.2 hs2)
     ·unfold YP
      rw[if_neg (fun c=>by cases c.1),if_pos ⟨.inl rfl,d2⟩,Option.isSome_map,List.getElem?_eq_getElem (by omega)]
      rfl
     ·unfold kindB
      simp only[T.k,T.h]
      have:zjs sig h=0:=of_decide_eq_true d3
      simp[this]
   ·rw[if_neg h2]at e
    cases e
theorem zoH(sig:List D): ∀(n:Nat) (m:T) (ctx:List T),m.size≤n→Yu m=true→zeZ sig [] m ctx=0→Wr1 sig m ctx.length
 |0,m,_,hs,_,_=>by have:=X7 m;omega
 |n+1, .mk k h as_,ctx,hs,hn,e=>by
  simp only[Yu,Bool.and_eq_true]at hn
  simp only[T.size]at hs
  unfold zeZ at e
  by_cases h0:k=0
  ·subst h0
   have hx:=hn.1
   unfold zae at hx
   simp only[if_true,Bool.and_eq_true,decide_eq_true_eq]at hx
   obtain rfl:=List.length_eq_zero_iff.1 hx.2
   exact⟨by unfold okW;rfl,fun i=>by simp[allW,XC,kindB,T.k]⟩
  ·rw[if_neg h0]at e
   by_cases h1:k=1
   ·subst h1
    rw[if_pos rfl]at e
    obtain⟨a,b,rfl⟩:=zqR hn.1
    simp only[Y0,Bool.and_eq_true]at hn
    simp only[sizes]at hs
    unfold ztC at e
    dsimp only at e
    by_cases ea:zcU sig [] a ctx=0
    ·rw[if_neg (fun c=>c ea)]at e
     unfold zm8 at e
     have q:=zoH sig n b (ctx++[a]) (by omega) hn.2.2.1 e
     rw[List.length_append,List.length_singleton]at q
     exact zuR (zii sig a.size a ctx (Nat.le_refl _) hn.2.1 ea) q
    ·rw[if_pos ea]at e
     exact absurd e ea
   ·rw[if_neg h1]at e
    cases e
theorem ztJ{sig:List D}{i:Nat}{t:T}(e:zoA sig i t=0):may t=true∧Wr1 (sig.take i) t 0:=by
 unfold zoA zc7 zc6 at e
 by_cases hm:zj0 (sig.take i) [] [] [t]=true
 ·simp only[if_pos hm]at e
  unfold zj0 at hm
  simp only[Bool.and_eq_true,List.all_cons]at hm
  refine⟨hm.2.1.1, ?_⟩
  by_cases hk:(split t).2.k=0
  ·rw[if_pos hk]at e
   exact zoH _ _ t [] (Nat.le_refl _) (zhi hm.2.1.1) e
  ·rw[if_neg hk]at e
   exact zii _ _ t [] (Nat.le_refl _) (zhi hm.2.1.1) e
 ·simp only[if_neg hm,ite_self]at e
  cases e
theorem zqS{sig:List D}(e:(zoB sig).2=0):sig.length≤40∧ ∀(i:Nat) (h:i<sig.length),may sig[i].t=true∧Wr1 (sig.take i) sig[i].t 0:=by
 unfold zoB at e
 obtain⟨h1,h2⟩:=zqo e
 have hlen:(zat sig).length=sig.length:=by simp[zat]
 refine⟨by omega,fun i hi=>ztJ (h2 _ ?_)⟩
 unfold zat
 rw[List.mem_map]
 exact⟨i,by simpa using hi,by simp[List.getD_eq_getElem?_getD,hi]⟩
theorem zc9{sig:List D}{t:T}{d:Nat}: ∀(n i:Nat),sig.length-i=n→i≤sig.length→okW (sig.take i) t d=true→okW sig t d=true∧words sig t d=words (sig.take i) t d
 |0,i,hn,hi,ho=>by rw[List.take_of_length_le (by omega)]at ho⊢;exact⟨ho,rfl⟩
 |n+1,i,hn,hi,ho=>by
  have hil:i<sig.length:=by omega
  have e:sig.take (i+1)=sig.take i++[sig[i]]:=List.take_succ_eq_append_getElem hil
  obtain⟨h1,h2⟩:=ztm (sig.take i) sig[i] t d ho
  rw[←e]at h1 h2
  obtain⟨h3,h4⟩:=zc9 n (i+1) (by omega) (by omega) h1
  exact⟨h3,h4.trans h2⟩
theorem zbj{r:Bytes}(hr: ∀x,r.head? =some x→named x=false): ∀(l:List Tok) (k:Int),(∀t∈l,zbL t)→YE (ZQ k l++r)=(YE r).map (l++ ·)
 |[],_,_=>by
  show YE r=_
  cases YE r<;>rfl
 |(j,s)::l,k,hl=>by
  have ih:=fun k=>zbj hr l k fun t ht=>hl t (by simp[ht])
  rcases hl (j,s) (by simp)with⟨h1,c,h2,h3⟩|⟨h1,h2,h3⟩
  ·simp only at h1 h2;subst h1 h2
   have e:(ZQ k ((1,[c])::l))=c::ZQ 1 l:=by simp[ZQ]
   rw[e,List.cons_append,za2 _ h3,ih]
   cases YE r<;>rfl
  ·simp only at h1 h2;subst h1
   have main:YE (s++ZQ 0 l++r)=(YE r).map (((0,s)::l)++ ·):=by
    cases s with
    |nil=>exact absurd rfl h2
    |cons c s=>
     have hd: ∀x,(ZQ 0 l++r).head?=some x→named x=false:=by
      intro x hx
      cases hq:ZQ 0 l with
      |nil=>rw[hq,List.nil_append]at hx;exact hr x hx
      |cons y z=>rw[hq]at hx;exact zr7 l (fun t ht=>hl t (by simp[ht])) rfl x (by rw[hq];exact hx)
     obtain⟨e1,e2⟩:=zbx (p:=named) s (ZQ 0 l++r) (fun x hx=>h3 x (by simp[hx])) hd
     rw[List.append_assoc,List.cons_append,zbK _ (h3 c (by simp)),e1,e2,ih]
     cases YE r<;>rfl
   by_cases hk:k=0
   ·have e:(ZQ k ((0,s)::l))=32::(s++ZQ 0 l):=by simp[ZQ,hk]
    rw[e,List.cons_append,QW _ (by decide)];exact main
   ·have e:(ZQ k ((0,s)::l))=s++ZQ 0 l:=by simp[ZQ,hk]
    rw[e];exact main
def zhP(x:Bytes)(l:List Tok):List Tok:=(0,x)::(1,[58])::l++[(1,[46])]
theorem zso{x:Bytes}{l:List Tok}(hx:nameOK x=true)(hl: ∀t∈l,zbL t)(r:Bytes):YE (zmq x (text l)++r)=(YE r).map (zhP x l++ ·):=by
 obtain⟨h1,h2,_,_,_⟩:=zmB hx
 have e1:YE (46::10::r)=(YE r).map ((1,[46]):: ·):=by rw[za2 _ (by decide),QW _ (by decide)]
 have e2:YE (text l++46::10::r)=(YE r).map (l++(1,[46]):: ·):=by
  unfold text
  rw[zbj (by intro y hy;simp only[List.head?_cons,Option.some.injEq]at hy;subst hy;decide) l 1 hl,e1]
  cases YE r<;>rfl
 have e3:zmq x (text l)++r=x++32::58::32::(text l++46::10::r):=by simp[zmq]
 rw[e3,zqq h1 h2 _ _ (by decide),QW _ (by decide),za2 _ (by decide),QW _ (by decide),e2]
 cases YE r with
 |none=>rfl
 |some l'=>simp[zhP]
theorem zll{x:Bytes}: ∀{l:List D},(∀d∈l,d.name≠x)→idx x l=none
 |[],_=>rfl
 |d::l,h=>by
  unfold idx
  rw[if_neg (h d (by simp)),zll (fun e he=>h e (by simp[he]))]
  rfl
theorem zsp{s:List D}{d:D}(G:Good s)(hn:nameOK d.name=true)(hf: ∀e∈s,e.name≠d.name)(hm:may d.t=true)(hw:Wr1 s d.t 0)(r:List Tok):
  PS.decl ⟨zhP d.name (words s d.t 0)++r,s,0⟩=⟨r,s++[d],0⟩:=by
 have hm':=hm
 unfold may at hm
 simp only[Bool.and_eq_true,decide_eq_true_eq]at hm
 have h2:=zaQ G 120 d.t 0 ((1,[46])::r) hm.1 hw.1 hw.2 (by omega) (by omega) rfl
 have e0:zhP d.name (words s d.t 0)++r=(0,d.name)::(1,[58])::(words s d.t 0++(1,[46])::r):=by simp[zhP]
 have e1:PS.name ⟨(0,d.name)::(1,[58])::(words s d.t 0++(1,[46])::r),s,0⟩=(d.name,⟨(1,[58])::(words s d.t 0++(1,[46])::r),s,0⟩):=by simp[PS.name,PS.token,PS.named]
 have e2:PS.take [58] ⟨(1,[58])::(words s d.t 0++(1,[46])::r),s,0⟩=⟨words s d.t 0++(1,[46])::r,s,0⟩:=by simp[PS.take,PS.token,PS.is]
 have e3:PS.whole ⟨words s d.t 0++(1,[46])::r,s,0⟩=(d.t,⟨(1,[46])::r,s,0⟩):=by
  rw[zt4]
  have h3:PS.term 120 [] ⟨words s d.t 0++(1,[46])::r,s,0⟩=(d.t,⟨(1,[46])::r,s,0⟩):=h2
  rw[h3]
  simp only[hm',if_true]
 have e4:PS.take [46] ⟨(1,[46])::r,s,0⟩=⟨r,s,0⟩:=by simp[PS.take,PS.token,PS.is]
 rw[e0]
 unfold PS.decl
 simp only[e1,hn,zll hf,Bool.not_true,Bool.false_or,Option.isSome_none,Bool.false_eq_true,if_false,e2,e3,e4]
def zdZ(sig:List D):List D→List Tok
 |[]=> []
 |d::l=>zhP d.name (words sig d.t 0)++zdZ sig l
theorem zj6(sig:List D): ∀l,l.length≤(zdZ sig l).length
 |[]=>by simp
 |d::l=>by have:=zj6 sig l;simp only[zdZ,zhP,List.length_append,List.length_cons];omega
structure GoodD(sig:List D):Prop where
 good:Good sig
 few:sig.length≤40
 each: ∀(i:Nat) (h:i<sig.length),may sig[i].t=true∧Wr1 (sig.take i) sig[i].t 0
theorem Good.take{sig:List D}(G:Good sig)(i:Nat):Good (sig.take i)where
 name d hd:=G.name d (List.mem_of_mem_take hd)
 nodup:=by
  rw[List.map_take]
  exact G.nodup.sublist (List.take_sublist _ _)
theorem zhQ{sig:List D}(G:GoodD sig): ∀(n i q:Nat),sig.length-i=n→i≤sig.length→n≤q→PS.decls q ⟨zdZ sig (sig.drop i),sig.take i,0⟩=⟨[],sig,0⟩
 |0,i,q,hn,hi,hq=>by
  have:i=sig.length:=by omega
  subst this
  rw[List.drop_length,List.take_length]
  cases q with
  |zero=>rfl
  |succ q=>unfold PS.decls;rw[if_neg (fun c=>c.1 rfl)];rfl
 |n+1,i,0,_,_,hq=>by omega
 |n+1,i,q+1,hn,hi,hq=>by
  have hil:i<sig.length:=by omega
  have hd:sig.drop i=sig[i]::sig.drop (i+1):=List.drop_eq_getElem_cons hil
  have ht:sig.take (i+1)=sig.take i++[sig[i]]:=List.take_succ_eq_append_getElem hil
  obtain⟨g1,g2⟩:=G.each i hil
  have hf: ∀e∈sig.take i,e.name≠sig[i].name:=by
   intro e he c
   have hnd:=G.good.nodup
   obtain⟨j,hj,rfl⟩:=List.mem_take_iff_getElem.1 he
   have hj':j<i:=by omega
   have:=(List.pairwise_iff_getElem.1 hnd) j i (by simp;omega) (by simpa using hil) hj'
   apply this
   simp[c]
  have hline:=zsp (s:=sig.take i) (d:=sig[i]) (G.good.take i) (G.good.name _ (List.getElem_mem hil)) hf g1 g2 (zdZ sig (sig.drop (i+1)))
  obtain⟨w1,w2⟩:=zc9 (sig:=sig) (t:=sig[i].t) (d:=0) _ i rfl (by omega) g2.1
  rw[hd]
  simp only[zdZ]
  rw[w2]
  unfold PS.decls
  rw[if_pos ⟨by simp[zhP],rfl⟩,if_neg (by simp only[List.length_take];have:=G.few;omega),hline,←ht]
  exact zhQ G n (i+1) q (by omega) (by omega) (by omega)
theorem zj7{sig:List D}(hok: ∀d∈sig,∀t∈words sig d.t 0,zbL t)(hn: ∀d∈sig,nameOK d.name=true): ∀l:List D,(∀d∈l,d∈sig)→YE ((l.map fun d=>zmq d.name (text (words sig d.t 0))).flatten)=some (zdZ sig l)
 |[],_=>zd2
 |d::l,h=>by
  have ih:=zj7 hok hn l fun e he=>h e (by simp[he])
  rw[List.map_cons,List.flatten_cons,zso (hn d (h d (by simp))) (hok d (h d (by simp))),ih]
  rfl
theorem zj8{sig:List D}: ∀(l:List D) (all:Bytes),(YS sig all l).2=0→(∀d∈l,okW sig d.t 0=true∧may d.t=true)→(YS sig all l).1=all++(l.map fun d=>zmq d.name (text (words sig d.t 0))).flatten
 |[],all,_,_=>by simp[YS]
 |d::l,all,h,hk=>by
  have hd:=hk d (by simp)
  have hs:Jj d.t sig=(text (words sig d.t 0),0):=by unfold Jj;rw[if_pos hd.2,if_pos hd.1]
  simp only[YS,hs,if_true]at h⊢
  split at h
  ·rename_i hc
   rw[if_pos hc]
   rw[zj8 l _ h fun e he=>hk e (by simp[he])]
   simp
  ·cases h
theorem zkt{sig:List D}(h:(QG sig).2=0):Good sig where
 name d hd:=(zhd sig sig [] h d hd).1
 nodup:=by
  unfold List.Nodup
  rw[List.pairwise_iff_getElem]
  intro i j hi hj hij e
  have hjl:j<sig.length:=by simpa using hj
  have hil:i<sig.length:=by omega
  simp only[List.getElem_map]at e
  have h1:=(zhd sig sig [] h sig[j] (List.getElem_mem hjl)).2
  have h2:=znZ (l:=sig) hjl hij e.symm
  omega
theorem zqr{sig:List D}(h:(QG sig).2=0)(hs:(zoB sig).2=0)(hl:(QG sig).1.length≤20000):zgm (QG sig).1=(sig,0):=by
 obtain⟨f1,f2⟩:=zqS hs
 have G:GoodD sig:=⟨zkt h,f1,f2⟩
 have hk: ∀d∈sig,okW sig d.t 0=true∧may d.t=true:=by
  intro d hd
  obtain⟨i,hi,rfl⟩:=List.getElem_of_mem hd
  exact⟨(zc9 (sig:=sig) (t:=sig[i].t) (d:=0) _ i rfl (by omega) (f2 i hi).2.1).1,(f2 i hi).1⟩
 have hok: ∀d∈sig,∀t∈words sig d.t 0,zbL t:=by
  intro d hd
  have hm:=(hk d hd).2
  unfold may at hm
  simp only[Bool.and_eq_true,decide_eq_true_eq]at hm
  exact zt8 G.good.name d.t 0 hm.1 (by omega)
 have e1:=zj8 sig [] h hk
 have e1':(QG sig).1=(sig.map fun d=>zmq d.name (text (words sig d.t 0))).flatten:=e1
 have e2:=zj7 hok G.good.name sig fun d hd=>hd
 rw[←e1']at e2
 have e3:=zsc hl e2
 have e4:=zhQ G sig.length 0 (zdZ sig sig).length (by omega) (by omega) (zj6 sig sig)
 rw[List.drop_zero,List.take_zero]at e4
 unfold zgm
 dsimp only
 rw[e3]
 dsimp only
 rw[e4]
 rfl
end Go.Ama
namespace Go.Proofs.SZ
open Go Go.AM Go.Ama
set_option maxRecDepth 100000
theorem zj9{sig:List D}(hk: ∀d∈sig,(Jj d.t sig).2=0): ∀(l:List D) (all:Bytes),(∀d∈l,d∈sig)→(YS sig all l).2=0∨(YS sig all l).2=1
 |[],_,_=> .inl rfl
 |d::l,all,h=>by
  simp only[YS,hk d (h d (by simp)),if_true]
  split
  ·exact zj9 hk l _ fun e he=>h e (by simp[he])
  ·exact .inr rfl
theorem zoI(sig:List D)(hb:Ys (Zx sig)≤1048576)(hl:sig.length≤1048576):Ev 4 [.vec .plain (some 4) (Zx sig)] (.bool true):=by
 unfold Ev
 have hf:=(zrX sig (by omega)).p (by simp[Zi,below,Zz])
 have hn:=(zm0 sig (by omega)).p (by simp[Zi,below,Zz])
 rw[C,zhs,zur.p,Zb,Zs,hf,Zb,Zs,hn,Zb,Zs]
 cases hfew:zop sig with
 |false=>rfl
 |true=>
 cases hnm:J1 sig with
 |false=>rfl
 |true=>
 simp only[Bool.not_true,Zn]
 obtain⟨hl30,hsz⟩:=zpT hfew
 have hnam:=zor hnm
 have I:=zv0 hfew
 have k1:=(ztH sig I).p (by simp[Zi,below,Zz]) (by simp[below,Zi])
 have hD:=zu3 (sig:=sig) (by omega) (fun x hx=>⟨hnam x hx,by have:=hsz x hx;omega⟩)
 rw[k1]
 simp only[Zb,Ya,YO,ZO,ZH,hD,Yt,zbg]
 have hbn:((0:Int) !=0)=false:=rfl
 by_cases hs:(zoB sig).2=0
 case neg=>rw[show((zoB sig).2 !=0)=true by simpa using hs];rfl
 case pos=>
 rw[hs,hbn]
 simp only[Zn]
 obtain⟨f1,f2⟩:=zqS hs
 by_cases h0:(QG sig).2=0
 case neg=>
  have hk: ∀d∈sig,(Jj d.t sig).2=0:=by
   intro d hd
   obtain⟨i,hi,rfl⟩:=List.getElem_of_mem hd
   have:=(zc9 (sig:=sig) (t:=sig[i].t) (d:=0) _ i rfl (by omega) (f2 i hi).2.1).1
   unfold Jj
   rw[if_pos (f2 i hi).1,if_pos this]
  have h1:(QG sig).2=1:=(zj9 hk sig [] (fun d hd=>hd)).resolve_left h0
  rw[h1]
  rfl
 case pos=>
 rw[h0,hbn,Zn]
 by_cases hlen:(QG sig).1.length≤20000
 case neg=>
  rw[decide_eq_true (by omega:((QG sig).1.length:Int)>20000)]
  rfl
 case pos=>
 have db:=zqr h0 hs hlen
 have t2:=(zpW (QG sig).1 (by omega)).p (by simp[Zi,below,Xh]) (by simp[Zi,below,Zz])
 rw[db]at t2
 have S:=(zoF sig sig (fun d hd=>by have:=hsz d hd;omega) (fun d hd=>by have:=hsz d hd;omega) (by omega)).p (by simp[Zi,below,Zz])
 rw[zoG]at S
 rw[decide_eq_false (by omega: ¬((QG sig).1.length:Int)>20000),Zn,t2]
 simp only[Zb,Ya,YO,ZO,ZH,Yt,S,Zs]
 rfl
theorem pure_ShowBack: ∀us,zkC Tryz.prog [22] us→Ys us≤1048576→ ∃m st,(XB Tryz.prog cfg ext m).call 4 us []=some (.ret (.bool true),st):=by
 intro us hW hb
 match us,hW with
 |[u],⟨h1,h2,_⟩=>
  obtain⟨sig,rfl⟩:=zsb ⟨h1,h2⟩
  have b3:=zkY sig
  simp only[Ys,Qo]at hb
  have b4:Ys (Zx sig)≤1048576:=by omega
  exact zwc (zoI sig b4 (by omega))
end Go.Proofs.SZ
