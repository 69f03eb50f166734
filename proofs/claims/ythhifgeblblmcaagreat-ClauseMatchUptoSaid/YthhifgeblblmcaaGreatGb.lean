import Derived.Test.YthhifgeblblmcaaGreatGa
import Derived.KernelRfl
import Derived.Test.YthhifgeblblmcaaGreatAMd
/- The program's functions, each an equation of the abstract machine checked by the kernel, and what they come to as_ plain Lean. -/
set_option linter.unusedVariables false
set_option linter.unusedSimpArgs false
set_option linter.unusedSectionVars false
namespace Go.Proofs.CL
open Go Go.AM Go.Ama
theorem zpQ{g:Nat}{a b:List V}(hp:cfg.pure g=false){p:M→Bool}(xs:List M)(hs:xs.length≤1099511627776)(st:St)(hg: ∀t∈xs,W.call g (a++[zaw t]++b) st=some (.ret (.bool (p t)),st)):
  ∀(n i:Nat),xs.length-i=n→i≤xs.length→(∃j:Nat,(xs.drop i).any p=true∧W.loop 175 2 [.int (i:Int), .vec .plain (some 5) (ZH xs), .fn g a b, .int xs.length] st=some (.ret,[.int (j:Int)],st))∨
   ((xs.drop i).any p=false∧W.loop 175 2 [.int (i:Int), .vec .plain (some 5) (ZH xs), .fn g a b, .int xs.length] st=some (.exit 0,[],st)):=by
 intro n
 induction n with
 |zero=>
  intro i hn hi
  have:i=xs.length:=by omega
  subst this
  right
  refine⟨by simp, ?_⟩
  rw[L,YE]
  simp
 |succ n ih=>
  intro i hn hi
  have hlt:i<xs.length:=by omega
  have hx:=hg xs[i] (List.getElem_mem hlt)
  have hd:xs.drop i=xs[i]::xs.drop (i+1):=List.drop_eq_getElem_cons hlt
  have hstep:W.loop 175 2 [.int (i:Int), .vec .plain (some 5) (ZH xs), .fn g a b, .int xs.length] st=
    bc (p xs[i]) (some (.ret,[.int (i:Int)],st)) (W.loop 175 2 [.int ((i+1:Nat):Int), .vec .plain (some 5) (ZH xs), .fn g a b, .int xs.length] st):=by
   rw[L,YE,J8 hlt]
   rw[Zq ⟨by omega,by omega⟩]
   have h1:(i:Int)<xs.length:=by omega
   have e1:V.agg [V.vec .plain (some 3) (Zg xs[i].ctx),V.int xs[i].t.k,V.int xs[i].t.h,V.vec .plain (some 3) (Zg xs[i].t.args),V.bool xs[i].param]=zaw xs[i]:=rfl
   simp only[h1,ZL,Int.natCast_nonneg,decide_true,Bool.and_self,Zz,Zr,onM,hp,Zo,e1,hx,Zf,Z9,Z0]
   rfl
  rw[hstep,hd,List.any_cons]
  cases hpx:p xs[i]with
  |true=>exact .inl ⟨i,rfl,rfl⟩
  |false=>
   simp only[bc,Bool.false_or]
   exact ih (i+1) (by omega) (by omega)
theorem zkT{g:Nat}{a b:List V}(hp:cfg.pure g=false){p:M→Bool}(xs:List M)(hs:xs.length≤1099511627776)(st:St)(hg: ∀t∈xs,W.call g (a++[zaw t]++b) st=some (.ret (.bool (p t)),st)):
  W.call 138 [.vec .plain (some 5) (ZH xs), .fn g a b] st=some (.ret (.bool (xs.any p)),st):=by
 have h:=zpQ hp xs hs st hg _ 0 rfl (Nat.zero_le _)
 rw[C,XV,C,Qj]
 simp only[List.drop_zero,Int.natCast_zero]at h
 rcases h with⟨j,h1,h2⟩|⟨h1,h2⟩
 ·simp[h2,h1,Zy]
 ·simp[h2,h1,Zy]
end Go.Proofs.CL
namespace Go.Proofs.CL
open Go Go.AM
set_option maxRecDepth 20000
theorem zon(O:Oracle)(l0:(List V))(l1:(List V))(l2:(List V))(n3:Int)(n4:Int)(l5:(List V)):Ze Tryz.prog cfg O 97 [.vec .plain (some 4) l0, .vec .plain (some 5) l1, .vec .plain (some 3) l2, .agg [.int n3, .int n4, .vec .plain (some 3) l5]] []=
 Za (Zj O 88 [V.agg [V.vec .plain (some 4) l0,V.vec .plain (some 5) l1,V.vec .plain (some 3) l2],V.vec .plain (some 3) [V.agg [V.int n3,V.int n4,V.vec
 .plain (some 3) l5]]]) fun r1=>Zi r1 fun b2=>bc (!b2) (some (Out.ret (V.int 1),[])) (Za (Zj O 146 [V.agg [V.vec .plain (some 4) l0,V.vec .plain (some
 5) l1,V.vec .plain (some 3) l2],V.agg [V.int n3,V.int n4,V.vec .plain (some 3) l5]]) fun r3=>Zl r3 fun n4=>some (Out.ret (V.int n4),[])):=by kernel_rfl
theorem zoo(O:Oracle)(l0:(List V))(l1:(List V))(l2:(List V))(n3:Int)(n4:Int)(l5:(List V))(n6:Int)(n7:Int)(l8:(List V)):Ze Tryz.prog cfg O 30 [.vec .plain (some 4) l0, .vec .plain (some 5) l1, .vec .plain (some 3) l2, .agg [.int n3, .int n4, .vec .plain (some 3) l5], .agg [.int n6, .int n7, .vec .plain (some 3) l8]] []=
 Za (Zj O 88 [V.agg [V.vec .plain (some 4) l0,V.vec .plain (some 5) l1,V.vec .plain (some 3) l2],V.vec .plain (some 3) [V.agg [V.int n3,V.int n4,V.vec
 .plain (some 3) l5],V.agg [V.int n6,V.int n7,V.vec .plain (some 3) l8]]]) fun r1=>Zi r1 fun b2=>bc (!b2) (some (Out.ret (V.int 1),[])) (Za (Zj O
 89 [V.agg [V.vec .plain (some 4) l0,V.vec .plain (some 5) l1,V.vec .plain (some 3) l2],V.agg [V.int n3,V.int n4,V.vec .plain (some 3) l5],V.agg [V.int n6,
 V.int n7,V.vec .plain (some 3) l8]]) fun r3=>Zl r3 fun n4=>some (Out.ret (V.int n4),[])):=by kernel_rfl
theorem zhj(O:Oracle)(l0:(List V))(l1:(List V))(l2:(List V))(l3:(List V)):Ze Tryz.prog cfg O 88 [.agg [.vec .plain (some 4) l0, .vec .plain (some 5) l1, .vec .plain (some 3) l2], .vec .plain (some 3) l3] []=
 bc (decide ((↑l2.length:Int)>1000)) (some (Out.ret (V.bool false),[])) (Za (O.call 73 [V.vec .plain (some 3) l3,V.fn
 134 [] []] []) fun r1=>Zx r1.fst (fun v2=>Zi v2 fun b3=>bc b3 (some (Out.ret (V.bool false),[])) (Za (O.call
 73 [V.vec .plain (some 3) l2,V.fn 134 [] []] r1.snd) fun r4=>Zx r4.fst (fun v5=>Zi v5 fun b6=>bc b6 (some
 (Out.ret (V.bool false),[])) (Za (O.call 136 [V.vec .plain (some 4) l0,V.fn 137 [] [V.cptr none (V.fn 134
 [] [])]] r4.snd) fun r7=>Zx r7.fst (fun v8=>Zi v8 fun b9=>bc (!b9) (Za (O.call 138 [V.vec .plain (some 5) l1,V.fn
 135 [] [V.cptr none (V.fn 134 [] [])]] r7.snd) fun r10=>Zx r10.fst (fun v11=>Zi v11 fun b12=>some (Out.ret (V.bool !b12),[])) fun p13
 =>none) (some (Out.ret (V.bool false),[]))) fun p14=>none)) fun p15=>none)) fun p16=>none):=by kernel_rfl
theorem zhk(O:Oracle)(l0:(List V))(l1:(List V))(l2:(List V))(n3:Int)(n4:Int)(l5:(List V)):Ze Tryz.prog cfg O 146 [.agg [.vec .plain (some 4) l0, .vec .plain (some 5) l1, .vec .plain (some 3) l2], .agg [.int n3, .int n4, .vec .plain (some 3) l5]] []=
 bc (n3==1) (Za (O.call 180 [V.agg [V.vec .plain (some 4) l0,V.vec .plain (some 5) l1,V.vec .plain (some 3) l2],V.agg [V.int n3,V.int n4,V.vec .plain (some
 3) l5],V.fn 146 [] []] []) fun r1=>Zx r1.fst (fun v2=>Zl v2 fun n3=>some (Out.ret (V.int n3),[])) fun p4=>none) (bc (n3==2) (Za (Zj O
 178 [V.agg [V.vec .plain (some 4) l0,V.vec .plain (some 5) l1,V.vec .plain (some 3) l2],V.int n4,V.bool true]) fun r5=>ZG r5 fun c6=>Zd c6 fun v7
 c8=>Zc [CT.int,CT.int,CT.slice (some 3)] v7 fun n9 n10 l11=>Zd c8 fun v12 c13=>Zl v12 fun n14=>Zn c13 (bc (n14==0) (Za (Zj O 176
 [V.agg [V.vec .plain (some 4) l0,V.vec .plain (some 5) l1,V.vec .plain (some 3) l2],V.agg [V.int n9,V.int n10,V.vec .plain (some 3) l11],V.vec .plain (some 3) l5]) fun r15
 =>ZG r15 fun c16=>Zd c16 fun v17 c18=>Zc [CT.int,CT.int,CT.slice (some 3)] v17 fun n19 n20 l21=>Zd c18 fun v22 c23=>Zl v22 fun n24=>Zn c23 (bc
 (n24==0) (bc (n19 !=0) (some (Out.ret (V.int 3),[])) (some (Out.ret (V.int n24),[]))) (some (Out.ret (V.int n24),[])))) (bc (n14==0) (bc (n9 !=0) (some (Out.ret (V.int
 3),[])) (some (Out.ret (V.int n14),[]))) (some (Out.ret (V.int n14),[]))))) (some (Out.ret (V.int 3),[]))):=by kernel_rfl
theorem zgn(O:Oracle)(l0:(List V))(l1:(List V))(l2:(List V))(n3:Int)(n4:Int)(l5:(List V))(n6:Int)(n7:Int)(l8:(List V)):Ze Tryz.prog cfg O 89 [.agg [.vec .plain (some 4) l0, .vec .plain (some 5) l1, .vec .plain (some 3) l2], .agg [.int n3, .int n4, .vec .plain (some 3) l5], .agg [.int n6, .int n7, .vec .plain (some 3) l8]] []=
 bc (n3==3) (bc (n6==1) (gd (true&&decide (0<(↑l8.length:Int))) (Zc [CT.int,CT.int,CT.slice (some 3)] (ZA l8 0) fun n1 n2 l3=>Za (Zj O
 139 [V.agg [V.vec .plain (some 4) l0,V.vec .plain (some 5) l1,V.vec .plain (some 3) l2],V.agg [V.int n1,V.int n2,V.vec .plain (some 3) l3]]) fun r4=>Zc
 [CT.slice (some 4),CT.slice (some 5),CT.slice (some 3)] r4 fun l5_1 l6 l7=>gd (true&&decide (0<(↑l5.length:Int))) (Zc [CT.int,CT.int,CT.slice (some 3)] (ZA l5
 0) fun n8 n9 l10=>gd (true&&decide (1<(↑l8.length:Int))) (Zc [CT.int,CT.int,CT.slice (some 3)] (ZA l8 1) fun n11 n12 l13=>Za (Zj O 89
 [V.agg [V.vec .plain (some 4) l5_1,V.vec .plain (some 5) l6,V.vec .plain (some 3) l7],V.agg [V.int n8,V.int n9,V.vec .plain (some 3) l10],V.agg [V.int n11,V.int n12,V.vec
 .plain (some 3) l13]]) fun r14=>Zl r14 fun n15=>some (Out.ret (V.int n15),[]))))) (bc (n3==3) (some (Out.ret (V.int 3),[])) (bc (n6 !=2) (some (Out.ret (V.int 3),[]))
 (gd (decide (0≤n3)&&decide (n3<7)) (gd (decide (n3.toNat*1+1≤7)&&true) (zaU (AM.partOf [V.fn 140 [] [],V.fn 140 [] [],V.fn
 140 [] [],V.fn 140 [] [],V.fn 141 [] [],V.fn 142 [] [],V.fn 143 [] []] (n3.toNat*1) none)
 (fun g16 a17 b18=>bc (cfg.pure g16) (Za (Zj O g16 (a17++[V.agg [V.vec .plain (some 4) l0,V.vec .plain (some 5) l1,V.vec .plain (some 3) l2],V.agg [V.int n3,V.int n4,
 V.vec .plain (some 3) l5]]++b18)) fun r19=>ZG r19 fun c20=>Zd c20 fun v21 c22=>Zc [CT.int,CT.int,CT.slice (some 3)] v21 fun n23 n24 l25=>Zd c22 fun
 v26 c27=>Zl v26 fun n28=>Zn c27 (bc (n28==0) (Za (Zj O 75 [V.agg [V.int n23,V.int n24,V.vec .plain (some 3) l25],V.agg [V.int n6,V.int n7,V.vec
 .plain (some 3) l8]]) fun r29=>Zi r29 fun b30=>bc (!b30) (some (Out.ret (V.int 3),[])) (some (Out.ret (V.int n28),[]))) (some (Out.ret (V.int n28),[])))) (Za (O.call
 g16 (a17++[V.agg [V.vec .plain (some 4) l0,V.vec .plain (some 5) l1,V.vec .plain (some 3) l2],V.agg [V.int n3,V.int n4,V.vec .plain (some 3) l5]]++b18) []) fun r31=>
 Zx r31.fst (fun v32=>ZG v32 fun c33=>Zd c33 fun v34 c35=>Zc [CT.int,CT.int,CT.slice (some 3)] v34 fun n36 n37 l38=>Zd c35 fun v39 c40=>Zl v39
 fun n41=>Zn c40 (bc (n41==0) (Za (Zj O 75 [V.agg [V.int n36,V.int n37,V.vec .plain (some 3) l38],V.agg [V.int n6,V.int n7,V.vec .plain (some 3) l8]])
 fun r42=>Zi r42 fun b43=>bc (!b43) (some (Out.ret (V.int 3),[])) (some (Out.ret (V.int n41),[]))) (some (Out.ret (V.int n41),[])))) fun p44=>none)) fun l45=>
 none)))))) (bc (n3==3) (some (Out.ret (V.int 3),[])) (bc (n6 !=2) (some (Out.ret (V.int 3),[])) (gd (decide (0≤n3)&&decide (n3<7)) (gd (decide (n3.toNat*1+1≤7)&&
 true) (zaU (AM.partOf [V.fn 140 [] [],V.fn 140 [] [],V.fn 140 [] [],V.fn 140 [] [],V.fn 141 []
 [],V.fn 142 [] [],V.fn 143 [] []] (n3.toNat*1) none) (fun g46 a47 b48=>bc (cfg.pure g46) (Za (Zj O g46 (a47++[V.agg [V.vec .plain
 (some 4) l0,V.vec .plain (some 5) l1,V.vec .plain (some 3) l2],V.agg [V.int n3,V.int n4,V.vec .plain (some 3) l5]]++b48)) fun r49=>ZG r49 fun c50=>Zd c50 fun v51
 c52=>Zc [CT.int,CT.int,CT.slice (some 3)] v51 fun n53 n54 l55=>Zd c52 fun v56 c57=>Zl v56 fun n58=>Zn c57 (bc (n58==0) (Za (Zj O 75
 [V.agg [V.int n53,V.int n54,V.vec .plain (some 3) l55],V.agg [V.int n6,V.int n7,V.vec .plain (some 3) l8]]) fun r59=>Zi r59 fun b60=>bc (!b60) (some (Out.ret (V.int
 3),[])) (some (Out.ret (V.int n58),[]))) (some (Out.ret (V.int n58),[])))) (Za (O.call g46 (a47++[V.agg [V.vec .plain (some 4) l0,V.vec .plain (some 5) l1,V.vec .plain
 (some 3) l2],V.agg [V.int n3,V.int n4,V.vec .plain (some 3) l5]]++b48) []) fun r61=>Zx r61.fst (fun v62=>ZG v62 fun c63=>Zd c63 fun v64 c65=>Zc
 [CT.int,CT.int,CT.slice (some 3)] v64 fun n66 n67 l68=>Zd c65 fun v69 c70=>Zl v69 fun n71=>Zn c70 (bc (n71==0) (Za (Zj O 75 [V.agg [V.int n66,
 V.int n67,V.vec .plain (some 3) l68],V.agg [V.int n6,V.int n7,V.vec .plain (some 3) l8]]) fun r72=>Zi r72 fun b73=>bc (!b73) (some (Out.ret (V.int 3),[])) (some
 (Out.ret (V.int n71),[]))) (some (Out.ret (V.int n71),[])))) fun p74=>none)) fun l75=>none))))):=by kernel_rfl
theorem zf0(O:Oracle)(n0:Int)(n1:Int)(l2:(List V)):Ze Tryz.prog cfg O 134 [.agg [.int n0, .int n1, .vec .plain (some 3) l2]] []=
 Za (Zj O 82 [V.agg [V.int n0,V.int n1,V.vec .plain (some 3) l2]]) fun r1=>Zi r1 fun b2=>some (Out.ret (V.bool !b2),[]):=by kernel_rfl
theorem zf1(O:Oracle)(l0:(List V))(n1:Int)(n2:Int)(l3:(List V))(b4:Bool)(st:St):Ze Tryz.prog cfg O 135 [.agg [.vec .plain (some 3) l0, .int n1, .int n2, .vec .plain (some 3) l3, .bool b4], .cptr none (.fn 134 [] [])] st=
 Za (Zj O 134 [V.agg [V.int n1,V.int n2,V.vec .plain (some 3) l3]]) fun r1=>Zi r1 fun b2=>bc b2 (Yt (List.length st) (V.bool true) st) (Za
 (O.call 73 [V.vec .plain (some 3) l0,V.fn 134 [] []] st) fun r3=>Zx r3.fst (fun v4=>Zi v4 fun b5=>Yt
 (List.length st) (V.bool b5) r3.snd) fun p6=>none):=by kernel_rfl
theorem zf2(O:Oracle)(s0:ByteArray)(n1:Int)(n2:Int)(l3:(List V))(st:St):Ze Tryz.prog cfg O 137 [.agg [.str s0, .int n1, .int n2, .vec .plain (some 3) l3], .cptr none (.fn 134 [] [])] st=
 Za (Zj O 134 [V.agg [V.int n1,V.int n2,V.vec .plain (some 3) l3]]) fun r1=>Zi r1 fun b2=>Yt (List.length st) (V.bool b2) st:=by kernel_rfl
theorem zgo(O:Oracle)(l0:(List V))(l1:(List V))(l2:(List V))(n3:Int)(n4:Int)(l5:(List V))(g6:Nat)(l7:(List V))(l8:(List V))(st:St):Ze Tryz.prog cfg O 180 [.agg [.vec .plain (some 4) l0, .vec .plain (some 5) l1, .vec .plain (some 3) l2], .agg [.int n3, .int n4, .vec .plain (some 3) l5], .fn g6 l7 l8] st=
 gd (true&&decide (0<(↑l5.length:Int))) (Zc [CT.int,CT.int,CT.slice (some 3)] (ZA l5 0) fun n1 n2 l3=>Za (Zj O 146 [V.agg [V.vec .plain (some
 4) l0,V.vec .plain (some 5) l1,V.vec .plain (some 3) l2],V.agg [V.int n1,V.int n2,V.vec .plain (some 3) l3]]) fun r4=>Zl r4 fun n5=>bc (n5 !=0) (Yt (List.length st)
 (V.int n5) st) (gd (true&&decide (0<(↑l5.length:Int))) (Zc [CT.int,CT.int,CT.slice (some 3)] (ZA l5 0) fun n6 n7 l8_1=>Za (Zj O 139 [V.agg
 [V.vec .plain (some 4) l0,V.vec .plain (some 5) l1,V.vec .plain (some 3) l2],V.agg [V.int n6,V.int n7,V.vec .plain (some 3) l8_1]]) fun r9=>Zc [CT.slice (some 4),
 CT.slice (some 5),CT.slice (some 3)] r9 fun l10 l11 l12=>gd (true&&decide (1<(↑l5.length:Int))) (Zc [CT.int,CT.int,CT.slice (some 3)] (ZA l5 1) fun n13 n14 l15
 =>bc (cfg.pure g6) (Za (Zj O g6 (l7++[V.agg [V.vec .plain (some 4) l10,V.vec .plain (some 5) l11,V.vec .plain (some 3) l12],V.agg [V.int n13,V.int n14,V.vec .plain
 (some 3) l15]]++l8)) fun r16=>Zl r16 fun n17=>Yt (List.length st) (V.int n17) st) (Za (O.call g6 (l7++[V.agg [V.vec .plain (some 4) l10,V.vec .plain (some 5) l11,
 V.vec .plain (some 3) l12],V.agg [V.int n13,V.int n14,V.vec .plain (some 3) l15]]++l8) st) fun r18=>Zx r18.fst (fun v19=>Zl v19 fun n20=>Yt (List.length st)
 (V.int n20) r18.snd) fun p21=>none))))):=by kernel_rfl
theorem zdE(O:Oracle)(l0:(List V))(l1:(List V))(l2:(List V))(n3:Int)(b4:Bool):Ze Tryz.prog cfg O 178 [.agg [.vec .plain (some 4) l0, .vec .plain (some 5) l1, .vec .plain (some 3) l2], .int n3, .bool b4] []=
 bc (decide (n3≥(↑l0.length:Int))) (some (Out.ret (V.tup [V.agg [V.int 0,V.int 0,V.vec .plain (some 3) []],V.int 2]),[])) (gd (decide (0≤n3)&&decide (n3<(↑l0.length:
 Int))) (YP (ZA l0 n3) fun c1=>gd (decide (4≤c1.length)) (onCells [CT.int,CT.int,CT.slice (some 3)] (List.take 3 (List.drop 1 c1)) fun n2 n3_1 l4=>Za (Zj O
 95 [V.agg [V.int n2,V.int n3_1,V.vec .plain (some 3) l4]]) fun r5=>Zi r5 fun b6=>bc (!b6==b4) (some (Out.ret (V.tup [V.agg [V.int 0,V.int 0,V.vec .plain
 (some 3) []],V.int 2]),[])) (gd (decide (0≤n3)&&decide (n3<(↑l0.length:Int))) (YP (ZA l0 n3) fun c7=>gd (decide (4≤c7.length)) (onCells [CT.int,CT.int,
 CT.slice (some 3)] (List.take 3 (List.drop 1 c7)) fun n8 n9 l10=>gd (below 0 (V.tup [V.agg [V.int n8,V.int n9,V.vec .plain (some 3) l10],V.int 0])&&true) (some (Out.ret
 (V.tup [V.agg [V.int n8,V.int n9,V.vec .plain (some 3) l10],V.int 0]),[])))))))):=by kernel_rfl
theorem zf3(O:Oracle)(l0:(List V))(l1:(List V))(l2:(List V))(n3:Int)(n4:Int)(l5:(List V))(l6:(List V)):Ze Tryz.prog cfg O 176 [.agg [.vec .plain (some 4) l0, .vec .plain (some 5) l1, .vec .plain (some 3) l2], .agg [.int n3, .int n4, .vec .plain (some 3) l5], .vec .plain (some 3) l6] []=
 Za (O.loop 176 2 [V.loc true (some 3) (V.agg [V.int 0,V.int 0,V.vec Mode.full (some 3) []]),V.int 0,V.loc false (some 3) (V.agg [V.int n3,V.int n4,V.vec
 .plain (some 3) l5]),V.loc false (some 3) (V.agg [V.vec .plain (some 4) l0,V.vec .plain (some 5) l1,V.vec .plain (some 3) l2]),V.vec .plain (some 3) l6,V.int (↑l6.length:
 Int)] []) fun r1=>Y8 r1.fst none (Zd r1.snd.fst fun v2 c3=>Yj (some 3) v2 fun d4 v5=>Zd c3 fun v6 c7=>Zl v6 fun n8=>Zn c7 (gd (below 0 (V.tup [Zt
 v5,V.int n8])&&Zu 0 []) (some (Out.ret (V.tup [Zt v5,V.int n8]),[])))) (fun i9=>bc (i9.beq 0) (Zd r1.snd.fst fun v10 c11=>Yj (some 3) v10 fun d12 v13=>
 Zd c11 fun v14 c15=>Yj (some 3) v14 fun d16 v17=>Zc [CT.int,CT.int,CT.slice (some 3)] (bif d16 then Zt v17 else v17) fun n18 n19 l20=>Zn c15 (gd (below
 0 (V.tup [V.agg [V.int n18,V.int n19,V.vec .plain (some 3) l20],V.int 0])&&Zu 0 []) (some (Out.ret (V.tup [V.agg [V.int n18,V.int n19,V.vec .plain (some 3) l20],V.int
 0]),[])))) none) fun v21=>none:=by kernel_rfl
theorem JX(O:Oracle)(v0:V)(n1:Int)(n2:Int)(n3:Int)(l4:(List V))(l5:(List V))(l6:(List V))(l7:(List V))(l8:(List V))(n9:Int):Z1 Tryz.prog cfg O 176 2 [.loc true (some 3) v0, .int n1, .loc false (some 3) (.agg [.int n2, .int n3, .vec .plain (some 3) l4]), .loc false (some 3) (.agg [.vec .plain (some 4) l5, .vec .plain (some 5) l6, .vec .plain (some 3) l7]), .vec .plain (some 3) l8, .int n9] []=
 bc (decide (n1<n9)) (gd (decide (0≤n1)&&decide (n1<(↑l8.length:Int))) (Zc [CT.int,CT.int,CT.slice (some 3)] (ZA l8 n1) fun n1_1 n2_1 l3=>bc (n2 !=1) (some
 (Ex.ret,[V.loc false (some 3) (V.agg [V.int 0,V.int 0,V.vec .plain (some 3) []]),V.int 3],[])) (gd (true&&decide (0<(↑l4.length:Int))) (Zc [CT.int,CT.int,
 CT.slice (some 3)] (ZA l4 0) fun n4 n5 l6_1=>Za (Zj O 89 [V.agg [V.vec .plain (some 4) l5,V.vec .plain (some 5) l6,V.vec .plain (some 3) l7],V.agg
 [V.int n1_1,V.int n2_1,V.vec .plain (some 3) l3],V.agg [V.int n4,V.int n5,V.vec .plain (some 3) l6_1]]) fun r7=>Zl r7 fun n8=>bc (n8 !=0) (some (Ex.ret,[V.loc false
 (some 3) (V.agg [V.int 0,V.int 0,V.vec .plain (some 3) []]),V.int n8],[])) (gd (true&&decide (1<(↑l4.length:Int))) (Zc [CT.int,CT.int,CT.slice (some 3)] (ZA l4
 1) fun n9_1 n10 l11=>Za (Zj O 126 [V.agg [V.int n9_1,V.int n10,V.vec .plain (some 3) l11],V.agg [V.vec .plain (some 3) [V.agg [V.int n1_1,V.int n2_1,V.vec
 .plain (some 3) l3]],V.int 0]]) fun r12=>ZG r12 fun c13=>Zd c13 fun v14 c15=>Zc [CT.int,CT.int,CT.slice (some 3)] v14 fun n16 n17 l18=>Zd c15 fun v19
 c20=>Zl v19 fun n21=>Zn c20 (bc (n21 !=0) (some (Ex.ret,[V.loc false (some 3) (V.agg [V.int 0,V.int 0,V.vec .plain (some 3) []]),V.int n21],[])) (O.2
 176 2 [V.loc true (some 3) v0,V.int (IntKind.i64.wrap (n1+1)),V.loc false (some 3) (V.agg [V.int n16,V.int n17,V.vec .plain (some 3) l18]),V.loc false (some
 3) (V.agg [V.vec .plain (some 4) l5,V.vec .plain (some 5) l6,V.vec .plain (some 3) l7]),V.vec .plain (some 3) l8,V.int n9] [])))))))) (some (Ex.exit 0,[V.loc true (some 3)
 v0,V.loc false (some 3) (V.agg [V.int n2,V.int n3,V.vec .plain (some 3) l4])],[])):=by kernel_rfl
theorem zgp(O:Oracle)(l0:(List V))(l1:(List V))(l2:(List V))(n3:Int)(n4:Int)(l5:(List V)):Ze Tryz.prog cfg O 139 [.agg [.vec .plain (some 4) l0, .vec .plain (some 5) l1, .vec .plain (some 3) l2], .agg [.int n3, .int n4, .vec .plain (some 3) l5]] []=
 gd (true&&decide (0≤(↑l2.length:Int))&&decide ((↑l2.length:Int)≤(↑l2.length:Int))) (gd (decide ((↑l2.length:Int)=(↑l2.length:Int))&&(some (V.int (↑l2.length
 :Int))).isSome) (gd (true&&roomFor Tryz.prog 27 ((List.drop 0 (List.take (↑l2.length:Int).toNat l2)).length+[V.agg [V.int n3,V.int n4,V.vec .plain (some 3)
 l5]].length)) (gd (below 0 (V.agg [V.vec .plain (some 4) l0,V.vec .plain (some 5) l1,V.vec .plain (some 3) (List.drop 0 (List.take (↑l2.length:Int).toNat l2)++[V.agg [V.int
 n3,V.int n4,V.vec .plain (some 3) l5]])])&&true) (some (Out.ret (V.agg [V.vec .plain (some 4) l0,V.vec .plain (some 5) l1,V.vec .plain (some 3) (List.drop 0 (List.take
 (↑l2.length:Int).toNat l2)++[V.agg [V.int n3,V.int n4,V.vec .plain (some 3) l5]])]),[]))))):=by kernel_rfl
theorem zgq(O:Oracle)(l0:(List V))(l1:(List V))(l2:(List V))(n3:Int)(n4:Int)(l5:(List V)):Ze Tryz.prog cfg O 140 [.agg [.vec .plain (some 4) l0, .vec .plain (some 5) l1, .vec .plain (some 3) l2], .agg [.int n3, .int n4, .vec .plain (some 3) l5]] []=
 some (Out.ret (V.tup [V.agg [V.int 0,V.int 0,V.vec .plain (some 3) []],V.int 3]),[]):=by kernel_rfl
theorem zdF(O:Oracle)(l0:(List V))(l1:(List V))(l2:(List V))(n3:Int)(n4:Int)(l5:(List V)):Ze Tryz.prog cfg O 141 [.agg [.vec .plain (some 4) l0, .vec .plain (some 5) l1, .vec .plain (some 3) l2], .agg [.int n3, .int n4, .vec .plain (some 3) l5]] []=
 bc (decide (n4≥(↑l2.length:Int))) (some (Out.ret (V.tup [V.agg [V.int 0,V.int 0,V.vec .plain (some 3) []],V.int 2]),[])) (gd (decide (0≤IntKind.i64.wrap
 (IntKind.i64.wrap ((↑l2.length:Int)-1)-n4))&&decide (IntKind.i64.wrap (IntKind.i64.wrap ((↑l2.length:Int)-1)-n4)<(↑l2.length:Int))) (Zc [CT.int,CT.int,
 CT.slice (some 3)] (ZA l2 (IntKind.i64.wrap (IntKind.i64.wrap ((↑l2.length:Int)-1)-n4))) fun n1 n2 l3=>Za (Zj O 177 [V.agg [V.int n1,V.int n2,V.vec .plain
 (some 3) l3],V.int (IntKind.i64.wrap (n4+1)),V.int 0]) fun r4=>Zc [CT.int,CT.int,CT.slice (some 3)] r4 fun n5 n6 l7=>Za (Zj O 176 [V.agg
 [V.vec .plain (some 4) l0,V.vec .plain (some 5) l1,V.vec .plain (some 3) l2],V.agg [V.int n5,V.int n6,V.vec .plain (some 3) l7],V.vec .plain (some 3) l5]) fun r8=>ZG r8
 fun c9=>Zd c9 fun v10 c11=>Zc [CT.int,CT.int,CT.slice (some 3)] v10 fun n12 n13 l14=>Zd c11 fun v15 c16=>Zl v15 fun n17=>Zn c16 (gd (below 0 (V.tup
 [V.agg [V.int n12,V.int n13,V.vec .plain (some 3) l14],V.int n17])&&true) (some (Out.ret (V.tup [V.agg [V.int n12,V.int n13,V.vec .plain (some 3) l14],V.int n17]),[]))))):=by kernel_rfl
theorem zdG(O:Oracle)(l0:(List V))(l1:(List V))(l2:(List V))(n3:Int)(n4:Int)(l5:(List V)):Ze Tryz.prog cfg O 142 [.agg [.vec .plain (some 4) l0, .vec .plain (some 5) l1, .vec .plain (some 3) l2], .agg [.int n3, .int n4, .vec .plain (some 3) l5]] []=
 Za (Zj O 178 [V.agg [V.vec .plain (some 4) l0,V.vec .plain (some 5) l1,V.vec .plain (some 3) l2],V.int n4,V.bool false]) fun r1=>ZG r1 fun c2=>
 Zd c2 fun v3 c4=>Zc [CT.int,CT.int,CT.slice (some 3)] v3 fun n5 n6 l7=>Zd c4 fun v8 c9=>Zl v8 fun n10=>Zn c9 (bc (n10 !=0) (some (Out.ret (V.tup
 [V.agg [V.int 0,V.int 0,V.vec .plain (some 3) []],V.int n10]),[])) (Za (Zj O 176 [V.agg [V.vec .plain (some 4) l0,V.vec .plain (some 5) l1,V.vec .plain
 (some 3) l2],V.agg [V.int n5,V.int n6,V.vec .plain (some 3) l7],V.vec .plain (some 3) l5]) fun r11=>ZG r11 fun c12=>Zd c12 fun v13 c14=>Zc [CT.int,CT.int,
 CT.slice (some 3)] v13 fun n15 n16 l17=>Zd c14 fun v18 c19=>Zl v18 fun n20=>Zn c19 (gd (below 0 (V.tup [V.agg [V.int n15,V.int n16,V.vec .plain (some 3) l17],
 V.int n20])&&true) (some (Out.ret (V.tup [V.agg [V.int n15,V.int n16,V.vec .plain (some 3) l17],V.int n20]),[]))))):=by kernel_rfl
theorem zgr(O:Oracle)(l0:(List V))(l1:(List V))(l2:(List V))(n3:Int)(n4:Int)(l5:(List V)):Ze Tryz.prog cfg O 143 [.agg [.vec .plain (some 4) l0, .vec .plain (some 5) l1, .vec .plain (some 3) l2], .agg [.int n3, .int n4, .vec .plain (some 3) l5]] []=
 bc (decide (n4≥(↑l1.length:Int))) (some (Out.ret (V.tup [V.agg [V.int 0,V.int 0,V.vec .plain (some 3) []],V.int 2]),[])) (gd (decide (0≤n4)&&decide (n4<(↑l1.length:
 Int))) (Zc [CT.slice (some 3),CT.int,CT.int,CT.slice (some 3),CT.bool] (ZA l1 n4) fun l1_1 n2 n3_1 l4 b5=>bc ((↑l1_1.length:Int) !=(↑l5.length:Int)) (some
 (Out.ret (V.tup [V.agg [V.int 0,V.int 0,V.vec .plain (some 3) []],V.int 3]),[])) (Za (O.loop 143 7 [V.loc true (some 3) (V.agg [V.int 0,V.int 0,V.vec
 Mode.full (some 3) []]),V.int 0,V.loc false (some 3) (V.agg [V.int n3,V.int n4,V.vec .plain (some 3) l5]),V.loc false (some 3) (V.agg [V.vec .plain (some 4) l0,V.vec .plain
 (some 5) l1,V.vec .plain (some 3) l2]),V.vec .plain (some 3) l1_1,V.loc false (some 5) (V.agg [V.vec .plain (some 3) l1_1,V.int n2,V.int n3_1,V.vec .plain (some 3) l4,
 V.bool b5]),V.int (↑l1_1.length:Int)] []) fun r6=>Y8 r6.fst none (Zd r6.snd.fst fun v7 c8=>Yj (some 3) v7 fun d9 v10=>Zd c8 fun v11 c12=>Zl v11 fun n13
 =>Zn c12 (gd (below 0 (V.tup [Zt v10,V.int n13])&&Zu 0 []) (some (Out.ret (V.tup [Zt v10,V.int n13]),[])))) (fun i14=>bc (i14.beq 0) (Zd r6.snd.fst fun
 v15 c16=>Yj (some 3) v15 fun d17 v18=>Zd c16 fun v19 c20=>Yj (some 3) v19 fun d21 v22=>Zc [CT.slice (some 4),CT.slice (some 5),CT.slice (some 3)] (bif
 d21 then Zt v22 else v22) fun l23 l24 l25=>Zd c20 fun v26 c27=>Yj (some 3) v26 fun d28 v29=>Zc [CT.int,CT.int,CT.slice (some 3)] (bif d28 then Zt v29
 else v29) fun n30 n31 l32=>Zd c27 fun v33 c34=>Yj (some 5) v33 fun d35 v36=>Zc [CT.slice (some 3),CT.int,CT.int,CT.slice (some 3),CT.bool] (bif d35 then
 Zt v36 else v36) fun l37 n38 n39 l40 b41=>Zn c34 (Za (Zj O 126 [V.agg [V.int n38,V.int n39,V.vec .plain (some 3) l40],V.agg [V.vec .plain (some 3) l32,
 V.int (↑l25.length:Int)]]) fun r42=>ZG r42 fun c43=>Zd c43 fun v44 c45=>Zc [CT.int,CT.int,CT.slice (some 3)] v44 fun n46 n47 l48=>Zd c45 fun v49 c50
 =>Zl v49 fun n51=>Zn c50 (gd (below 0 (V.tup [V.agg [V.int n46,V.int n47,V.vec .plain (some 3) l48],V.int n51])&&Zu 0 []) (some (Out.ret (V.tup [V.agg [V.int
 n46,V.int n47,V.vec .plain (some 3) l48],V.int n51]),[]))))) none) fun v52=>none))):=by kernel_rfl
theorem zah(O:Oracle)(v0:V)(n1:Int)(n2:Int)(n3:Int)(l4:(List V))(l5:(List V))(l6:(List V))(l7:(List V))(l8:(List V))(l9:(List V))(n10:Int)(n11:Int)(l12:(List V))(b13:Bool)(n14:Int):Z1 Tryz.prog cfg O 143 7 [.loc true (some 3) v0, .int n1, .loc false (some 3) (.agg [.int n2, .int n3, .vec .plain (some 3) l4]), .loc false (some 3) (.agg [.vec .plain (some 4) l5, .vec .plain (some 5) l6, .vec .plain (some 3) l7]), .vec .plain (some 3) l8, .loc false (some 5) (.agg [.vec .plain (some 3) l9, .int n10, .int n11, .vec .plain (some 3) l12, .bool b13]), .int n14] []=
 bc (decide (n1<n14)) (gd (decide (0≤n1)&&decide (n1<(↑l8.length:Int))) (Zc [CT.int,CT.int,CT.slice (some 3)] (ZA l8 n1) fun n1_1 n2_1 l3=>gd (true&&decide
 (0≤n1)&&decide (n1≤(↑l4.length:Int))) (Za (Zj O 126 [V.agg [V.int n1_1,V.int n2_1,V.vec .plain (some 3) l3],V.agg [V.vec .plain (some 3) (List.drop 0
 (List.take n1.toNat l4)),V.int (↑l7.length:Int)]]) fun r4=>ZG r4 fun c5=>Zd c5 fun v6 c7=>Zc [CT.int,CT.int,CT.slice (some 3)] v6 fun n8 n9 l10=>Zd
 c7 fun v11 c12=>Zl v11 fun n13=>Zn c12 (bc (n13==0) (gd (decide (0≤n1)&&decide (n1<(↑l4.length:Int))) (Zc [CT.int,CT.int,CT.slice (some 3)] (ZA l4
 n1) fun n14_1 n15 l16=>Za (Zj O 89 [V.agg [V.vec .plain (some 4) l5,V.vec .plain (some 5) l6,V.vec .plain (some 3) l7],V.agg [V.int n14_1,V.int n15,
 V.vec .plain (some 3) l16],V.agg [V.int n8,V.int n9,V.vec .plain (some 3) l10]]) fun r17=>Zl r17 fun n18=>bc (n18 !=0) (some (Ex.ret,[V.loc false (some 3) (V.agg
 [V.int 0,V.int 0,V.vec .plain (some 3) []]),V.int n18],[])) (O.2 143 7 [V.loc true (some 3) v0,V.int (IntKind.i64.wrap (n1+1)),V.loc false (some 3) (V.agg
 [V.int n2,V.int n3,V.vec .plain (some 3) l4]),V.loc false (some 3) (V.agg [V.vec .plain (some 4) l5,V.vec .plain (some 5) l6,V.vec .plain (some 3) l7]),V.vec .plain (some 3)
 l8,V.loc false (some 5) (V.agg [V.vec .plain (some 3) l9,V.int n10,V.int n11,V.vec .plain (some 3) l12,V.bool b13]),V.int n14] []))) (bc (n13 !=0) (some (Ex.ret,[V.loc
 false (some 3) (V.agg [V.int 0,V.int 0,V.vec .plain (some 3) []]),V.int n13],[])) (O.2 143 7 [V.loc true (some 3) v0,V.int (IntKind.i64.wrap (n1+1)),V.loc
 false (some 3) (V.agg [V.int n2,V.int n3,V.vec .plain (some 3) l4]),V.loc false (some 3) (V.agg [V.vec .plain (some 4) l5,V.vec .plain (some 5) l6,V.vec .plain (some 3) l7]),
 V.vec .plain (some 3) l8,V.loc false (some 5) (V.agg [V.vec .plain (some 3) l9,V.int n10,V.int n11,V.vec .plain (some 3) l12,V.bool b13]),V.int n14] [])))))) (some (Ex.exit
 0,[V.loc true (some 3) v0,V.loc false (some 3) (V.agg [V.vec .plain (some 4) l5,V.vec .plain (some 5) l6,V.vec .plain (some 3) l7]),V.loc false (some 3) (V.agg [V.int n2,
 V.int n3,V.vec .plain (some 3) l4]),V.loc false (some 5) (V.agg [V.vec .plain (some 3) l9,V.int n10,V.int n11,V.vec .plain (some 3) l12,V.bool b13])],[])):=by kernel_rfl
end Go.Proofs.CL
namespace Go.Proofs.CL
open Go Go.AM Go.Ama
def zcF(t:T):Res:= .box [.int t.k, .int t.h, .vec .plain (some 3) (Zg t.args)]
theorem zrG(a b u:T)(x:Res):W.round 2 144 3 [.ref 0 0] [enc a,enc b] [zcF u,x, .loop 144 3 [.ref 0 0] .ready none]=some (true,[zcF b,x, .loop 144 3 [.ref 0 0] .ready none]):=by
 rw[Rd]
 conv=>lhs;rw[Zb a,Zb b]
 exact zkI W _ _ _ _ _ _ _ _ _ x
theorem zpR: ∀(n:Nat) (t u:T),t.size≤n→
  W.loop 207 0 [.ref 1 0, .yld 2] [zcF u,zcF t, .loop 144 3 [.ref 0 0] .ready none]=
   some (.exit 0,[],[zcF (if(split t).1=[]then u else(split t).2),zcF (split t).2, .loop 144 3 [.ref 0 0] .ready none]):=by
 intro n
 induction n with
 |zero=>intro t _ h;have:=Xo t;omega
 |succ n ih=>
  intro t u h
  have hp:=Xo t
  rw[L]
  conv=>lhs;rw[show zcF t= .box [.int t.k, .int t.h, .vec .plain (some 3) (Zg t.args)]from rfl]
  rw[zjD,Zh,zp1,zbl]
  by_cases c1:t.k=1
  ·by_cases c2:t.args.length=2
   ·obtain⟨a,b,hab⟩:=zrz c2
    have hb:=zda (t:=t) (b:=b) (by rw[hab];simp)
    have g0:ZA (Zg t.args) 0=enc a:=by rw[hab];rfl
    have g1:ZA (Zg t.args) 1=enc b:=by rw[hab];rfl
    have hrd:=zrG a b u (zcF t)
    have:=ih b b (by omega)
    rw[zkK c1 hab]
    simp only[c1,c2,decide_true,Zr,g0,g1,YI,←Zb,Bool.true_and,show decide ((0:Int)<((2:Nat):Int))=true from rfl,show decide ((1:Int)<((2:Nat):Int))=true from rfl,Zz,zaG,zbm]
    have hbt:zcF t= .box [.int 1, .int t.h, .vec .plain (some 3) (Zg t.args)]:=by unfold zcF;rw[c1]
    rw[hbt]at hrd
    rw[hrd,Zf]
    simp only[Bool.not_true,Zo]
    have hget: ∀{R:Type} (K:Res→Option R),Z3 [zcF b,Res.box [V.int 1,V.int t.h,V.vec .plain (some 3) (Zg t.args)],Res.loop 144 3 [V.ref 0 0] LSt.ready none] 1 K=K (Res.box [V.int 1,V.int t.h,V.vec .plain (some 3) (Zg t.args)]):=fun K=>rfl
    rw[hget,zbx]
    have hc:Zt (AM.partOf [V.int 1,V.int t.h,V.vec .plain (some 3) (Zg t.args)] 2 none)= .vec .plain (some 3) (Zg t.args):=rfl
    rw[hc,YQ,g1,YI,hget,zbx]
    have h1l:decide ((1:Int)<((Zg t.args).length:Int))=true:=by rw[Zh,c2];rfl
    rw[h1l]
    simp only[List.length_cons,List.length_nil,Nat.zero_add,Nat.reduceAdd,Nat.le_refl,decide_true,Bool.and_self,Zz]
    have hset:List.set [zcF b,Res.box [V.int 1,V.int t.h,V.vec .plain (some 3) (Zg t.args)],Res.loop 144 3 [V.ref 0 0] LSt.ready none] 1
      (Res.box (setCells [V.int 1,V.int t.h,V.vec .plain (some 3) (Zg t.args)] 0 [V.int b.k,V.int b.h,V.vec .plain (some 3) (Zg b.args)]))=[zcF b,zcF b, .loop 144 3 [.ref 0 0] .ready none]:=rfl
    rw[hset,this]
    simp only[if_neg (List.cons_ne_nil a (split b).1)]
    by_cases c:(split b).1=[]
    ·have hsb:(split b).2=b:=by
      by_cases c':b.k=1∧b.args.length=2
      ·obtain⟨a',b',hab'⟩:=zrz c'.2
       rw[zkK c'.1 hab']at c;cases c
      ·rw[zfu c']
     rw[if_pos c,hsb]
    ·rw[if_neg c]
   ·rw[zfu fun c=>c2 c.2]
    simp only[c1,c2,decide_true,decide_false,Zr,Zo,if_true]
    rw[←c1]
    rfl
  ·rw[zfu fun c=>c1 c.1]
   simp only[c1,decide_false,Zo,if_true]
   rfl
theorem zrH(t:T):Ev 144 [enc t] (enc (split t).2):=by
 unfold Ev
 have h:=zpR t.size t t (Nat.le_refl _)
 have hlast:(if(split t).1=[]then t else(split t).2)=(split t).2:=by
  by_cases c':t.k=1∧t.args.length=2
  ·obtain⟨a',b',hab'⟩:=zrz c'.2
   rw[zkK c'.1 hab',if_neg (List.cons_ne_nil _ _)]
  ·rw[zfu c',if_pos rfl]
 rw[hlast]at h
 have hc:W.call 207 [.yld 2, .ref 1 0] [zcF t, .box [.int t.k, .int t.h, .vec .plain (some 3) (Zg t.args)], .loop 144 3 [.ref 0 0] .ready none]=
   some (.ret (.tup []),[zcF (split t).2,zcF (split t).2, .loop 144 3 [.ref 0 0] .ready none]):=by
  rw[C,zoj]
  have h':W.loop 207 0 [V.ref 1 0,V.yld 2] [zcF t,Res.box [V.int t.k,V.int t.h,V.vec .plain (some 3) (Zg t.args)], .loop 144 3 [.ref 0 0] .ready none]=_:=h
  rw[h',Zf,Ji]
  rfl
 rw[C]
 conv=>lhs;rw[Zb]
 have hpis:W.call 179 [V.agg [V.int t.k,V.int t.h,V.vec .plain (some 3) (Zg t.args)]] [Res.box [V.int t.k,V.int t.h,V.vec .plain (some 3) (Zg t.args)]]=
   some (.ret (V.fn 207 [] [V.ref 1 0]),[zcF t,Res.box [V.int t.k,V.int t.h,V.vec .plain (some 3) (Zg t.args)]]):=by
  rw[C,zry];rfl
 rw[zpC,hpis,Zf,Z9,zhg]
 have hc':W.call 207 ([]++[V.yld (List.length [zcF t,Res.box [V.int t.k,V.int t.h,V.vec .plain (some 3) (Zg t.args)]])]++[V.ref 1 0])
   ([zcF t,Res.box [V.int t.k,V.int t.h,V.vec .plain (some 3) (Zg t.args)]]++[Res.loop 144 3 [V.ref 0 0] LSt.ready none])=_:=hc
 rw[hc',Zf,Z9]
 have hfin:gd (below 0 (enc (split t).2)&&Zu 0 []) (some (Out.ret (enc (split t).2),([]:St)))=some (Out.ret (enc (split t).2),[]):=by
  rw[zis];rfl
 have hfin':=hfin
 rw[Zb (split t).2]at hfin'
 rw[Zb (split t).2]
 exact hfin'
theorem ztG(t:T):Ev 95 [enc t] (.bool (decide ((split t).2.k=0))):=by
 unfold Ev
 rw[C,Zb,zpB,←Zb,(zrH t).p]
 simp only[Zf,YI,zbl]
end Go.Proofs.CL
namespace Go.Ama
open Go Go.AM
theorem zhl{t:T}:may t=true↔YO t=true∧t.size≤4000∧t.depth≤60:=by
 unfold may;simp only[Bool.and_eq_true,decide_eq_true_eq]
theorem ztH{t x:T}(h:x∈t.args):x.depth<t.depth:=by
 cases t with
 |mk k hd ys=>have:=zeL h;simp only[T.args]at this h;have:=zeL h;simp only[T.depth];omega
theorem zcn{t x:T}(h:may t=true)(hx:x∈t.args):may x=true:=by
 obtain⟨h1,h2,h3⟩:=zhl.1 h
 refine zhl.2 ⟨?_,by have:=zda hx;omega,by have:=ztH hx;omega⟩
 cases t with
 |mk k hd ys=>
  simp only[YO,Bool.and_eq_true,zkJ,List.all_eq_true]at h1
  exact h1.2 x hx
theorem zkU{t:T}(h:may t=true):zcZ t.k t.h t.args.length=true:=by
 obtain⟨h1,_⟩:=zhl.1 h
 cases t with
 |mk k hd ys=>simp only[YO,Bool.and_eq_true]at h1;exact h1.1
theorem zop{t:T}(h:may t=true)(hk:t.k=1):t.args.length=2:=by
 have:=zkU h
 rw[hk]at this
 simp[zcZ]at this
 exact this.2
mutual
theorem zvn{B:Int}(hB:1099511627776≤B): ∀t:T,YO t=true→low t=true→okB B t
 | .mk k h ys,h1,h2=>by
  simp only[YO,Bool.and_eq_true]at h1
  simp only[low,Bool.and_eq_true,decide_eq_true_eq]at h2
  refine⟨⟨?_,by omega⟩, ?_,zsD hB ys h1.2 h2.2⟩
  ·have:=h1.1
   unfold zcZ at this
   repeat' split at this
   all_goals simp at this;omega
  ·rintro rfl e
   subst e
   have:=h1.1
   simp[zcZ]at this
theorem zsD{B:Int}(hB:1099511627776≤B): ∀l:List T,Xb l=true→low.lows l=true→JN B l
 |[],_,_=>trivial
 |a::l,h1,h2=>by
  simp only[Xb,Bool.and_eq_true]at h1
  simp only[low.lows,Bool.and_eq_true]at h2
  exact⟨zvn hB a h1.1 h2.1,zsD hB l h1.2 h2.2⟩
end
theorem zbH{B:Int}{t x:T}(h:okB B t)(hx:x∈t.args):okB B x:=by
 cases t with
 |mk k hd ys=>exact(Xa B ys).1 h.2.2 x hx
theorem zws{j:Job}{o:Oj}(h:Big j o): ∀e,o= .e e→e=3∨e=4:=by
 induction h with
 |apLimit=>rintro e ⟨⟩;exact .inr rfl
 |apErr _ _ _ ih=>rintro e ⟨⟩;exact ih _ rfl
 |apNode=>rintro e ⟨⟩
 |apVar _ _ _ _ _ _ _ _ _ ih=>exact ih
 |arNil=>rintro e ⟨⟩
 |arErr _ _ ih=>rintro e ⟨⟩;exact ih _ rfl
 |arErr2 _ _ _ _ ih=>rintro e ⟨⟩;exact ih _ rfl
 |arCons=>rintro e ⟨⟩
 |spNil=>rintro e ⟨⟩
 |spMay=>rintro e ⟨⟩;exact .inr rfl
 |spErr _ _ _ _ _ ih=>rintro e ⟨⟩;exact ih _ rfl
 |spLam _ _ _ _ _ _ _ ih=>exact ih
 |spApp=>rintro e ⟨⟩
 |spType=>rintro e ⟨⟩;exact .inl rfl
theorem zde{β:Int}(hβ:ZT β){t:T}{l:List T}{s:Int}(ht:may t=true→okB β t)(hl:zee l s=true→ ∀x∈l,okB β x)(h:(Yz t l s).2=0):
  may (Yz t l s).1=true∧okB (β+83886080000) (Yz t l s).1∧ ∃m,Big (.ap 0 t l s) (.t (Yz t l s).1 m):=by
 unfold Yz zdD at h⊢
 split at h
 ·rename_i hm
  rw[if_pos hm]
  simp only[Bool.and_eq_true]at hm
  obtain⟨hB,hP,_⟩:=zsA hβ (ht hm.1) (hl hm.2) hm.1 hm.2
  generalize zrB t l s=o at*
  cases o with
  |l _ _=>exact hP.elim
  |e e=>
   rcases zws hB e rfl with rfl|rfl<;>simp[zck]at h
  |t u m=>
   obtain⟨p1,p2,p3,p4⟩:=hP
   have hmu:may u=true:=by
    cases hx:may u with
    |true=>rfl
    |false=>simp[zck,hx]at h
   have e:(zck (.t u m)).1=u:=by simp[zck,hmu]
   rw[e]
   exact⟨hmu,Z6 (by unfold bnd;omega) u p4,m,hB⟩
 ·simp at h
end Go.Ama
namespace Go.Ama
open Go Go.AM
end Go.Ama
namespace Go.Ama
open Go Go.AM
end Go.Ama
namespace Go.Ama
open Go Go.AM
def X9(sig:List D)(i:Int)(kind:Bool):Option T:=
 if h:0≤i∧i<sig.length then(if decide ((split (sig[i.toNat]'(by omega)).t).2.k=0)=kind then some (sig[i.toNat]'(by omega)).t else none)else none
mutual
noncomputable def Ja(sig:List D)(ms:List M):T→List T→T→Int
 | .mk k h as_,ctx,a=>
  if k=3∧a.k=1 then zwS sig ms as_ (ctx++[a.args.getD 0 T0]) (a.args.getD 1 T0)
  else if k=3∨a.k≠2 then 3
  else
   let r:T×Int:=
    if k=4 then(if(ctx.length:Int)≤h then(T0,2)else YB sig ms as_ ctx (upP (ctx.getD (ctx.length-1-h.toNat) T0) (h+1) 0))
    else if k=5 then(match X9 sig h false with|none=>(T0,2)|some t=>YB sig ms as_ ctx t)
    else if k=6 then
     (if(ms.length:Int)≤h then(T0,2)
      else
      let d:=ms.getD h.toNat ⟨[],T0,false⟩
      if d.ctx.length≠as_.length then(T0,3)
      else
       let e:=zdf sig ms as_ ctx [] d.ctx
       if e≠0 then(T0,e)else Yz d.t as_ ctx.length)
    else(T0,3)
   if r.2≠0 then r.2 else if r.1.same a then 0 else 3
noncomputable def zwS(sig:List D)(ms:List M):List T→List T→T→Int
 |[],_,_=>3
 |b::_,ctx,a=>Ja sig ms b ctx a
noncomputable def YB(sig:List D)(ms:List M):List T→List T→T→T×Int
 |[],_,t=>(t,0)
 |a::as_,ctx,t=>
  if t.k≠1 then(T0,3)
  else
   let e:=Ja sig ms a ctx (t.args.getD 0 T0)
   if e≠0 then(T0,e)
   else
    let u:=Yz (t.args.getD 1 T0) [a] 0
    if u.2≠0 then(T0,u.2)else YB sig ms as_ ctx u.1
noncomputable def zdf(sig:List D)(ms:List M):List T→List T→List T→List T→Int
 |[],_,_,_=>0
 |_::_,_,_,[]=>0
 |a::as_,ctx,done,d::ds=>
  let t:=Yz d done ctx.length
  let e:=if t.2=0 then Ja sig ms a ctx t.1 else t.2
  if e≠0 then e else zdf sig ms as_ ctx (done++[a]) ds
end
mutual
noncomputable def zkV(sig:List D)(ms:List M):T→List T→Int
 | .mk k h as_,ctx=>
  if k=1 then zwT sig ms as_ ctx
  else if k=2 then
   (match X9 sig h true with
    |none=>2
    |some t=>
     let r:=YB sig ms as_ ctx t
     if r.2≠0 then r.2 else if r.1.k≠0 then 3 else 0)
  else 3
noncomputable def zwT(sig:List D)(ms:List M):List T→List T→Int
 |a::as_,ctx=>
  let e:=zkV sig ms a ctx
  if e≠0 then e else zsE sig ms as_ (ctx++[a])
 |[],_=>3
noncomputable def zsE(sig:List D)(ms:List M):List T→List T→Int
 |b::_,ctx=>zkV sig ms b ctx
 |[],_=>3
end
def zpS(m:M):Bool:=may m.t&&m.ctx.all may
def zi4(sig:List D)(ms:List M)(ctx l:List T):Bool:=
 decide (ctx.length≤1000)&&(l.all may&&(ctx.all may&&(sig.all (fun d=>may d.t)&&ms.all zpS)))
noncomputable def YW(sig:List D)(ms:List M)(ctx:List T)(m a:T):Int:=if zi4 sig ms ctx [m,a]then Ja sig ms m ctx a else 1
noncomputable def zbI(sig:List D)(ms:List M)(ctx:List T)(a:T):Int:=if zi4 sig ms ctx [a]then zkV sig ms a ctx else 1
mutual
theorem zsF{B b:Int}(hB:0≤b∧b≤1048576∧B≤9223372036850000000)(f:Int): ∀(t:T) (ar:Int),okB B t→okB (B+b) (upT b f ar t)
 | .mk k hd ys,ar,⟨h1,h2,h3⟩=>by
  simp only[upT,okB]
  refine⟨?_, ?_,zpT hB f ys ar h3⟩
  ·split
   ·unfold upV
    split
    ·rw[Zq ⟨by omega,by omega⟩];omega
    ·omega
   ·omega
  ·intro hk e
   have:=congrArg List.length e
   rw[zau]at this
   exact h2 hk (List.length_eq_zero_iff.1 (by simpa using this))
theorem zpT{B b:Int}(hB:0≤b∧b≤1048576∧B≤9223372036850000000)(f:Int): ∀(l:List T) (ar:Int) {bd:Bool},JN B l→JN (B+b) (ups b f ar bd l)
 |[],ar,bd,_=>trivial
 |a::l,ar,bd,⟨h1,h2⟩=>by simp only[ups,JN];exact⟨zsF hB f a _ h1,zpT hB f l ar h2⟩
end
theorem zpU{B:Int}(hB:ZT B){t:T}(h:okB B t){b f:Int}(hb:0≤b):okB (B+1048576) (upP t b f):=by
 obtain⟨q1,q2⟩:=hB
 unfold upP;split
 ·rename_i hc
  simp only[Bool.and_eq_true,decide_eq_true_eq]at hc
  exact Z6 (by omega) _ (zsF (by omega) f t 0 h)
 ·exact Z6 (by omega) t h
mutual
theorem zpV(b f:Int)(hb:0≤b): ∀(t:T) (ar:Int),YO t=true→(∀B,okB B t→B≤9223372036850000000→b≤1048576→YO (upT b f ar t)=true)
 | .mk k h as_,ar,hn=>fun B hB h1 h2=>by
  simp only[YO,Bool.and_eq_true]at hn
  obtain⟨⟨q1,q2⟩,q3,q4⟩:=hB
  simp only[upT,YO,Bool.and_eq_true,zau]
  refine⟨?_,zmW b f hb as_ ar hn.2 B q4 h1 h2⟩
  split
  ·rename_i hk
   subst hk
   have:0≤upV b f ar h:=by
    unfold upV
    split
    ·rw[Zq ⟨by omega,by omega⟩];omega
    ·exact q1
   simp[zcZ,this]
  ·exact hn.1
theorem zmW(b f:Int)(hb:0≤b): ∀(l:List T) (ar:Int) {bd:Bool},Xb l=true→(∀B,JN B l→B≤9223372036850000000→b≤1048576→Xb (ups b f ar bd l)=true)
 |[],_,_,_=>fun _ _ _ _=>rfl
 |a::l,ar,bd,hn=>fun B hB h1 h2=>by
  simp only[Xb,Bool.and_eq_true]at hn
  simp only[ups,Xb,Bool.and_eq_true]
  exact⟨zpV b f hb a _ hn.1 B hB.1 h1 h2,zmW b f hb l ar hn.2 B hB.2 h1 h2⟩
end
mutual
theorem zpW(b f:Int): ∀(t:T) (ar:Int),(upT b f ar t).depth=t.depth
 | .mk k h as_,ar=>by simp only[upT,T.depth];rw[zkW b f as_ ar]
theorem zkW(b f:Int): ∀(l:List T) (ar:Int) {bd:Bool},Yh (ups b f ar bd l)=Yh l
 |[],ar,bd=>rfl
 |a::as_,ar,bd=>by simp only[ups,Yh];rw[zpW b f a,zkW b f as_]
end
theorem zsG{B:Int}(hB:ZT B){t:T}(h:okB B t)(hm:may t=true){b f:Int}(hb:0≤b):may (upP t b f)=true:=by
 obtain⟨q1,q2⟩:=hB
 obtain⟨h1,h2,h3⟩:=zhl.1 hm
 unfold upP
 split
 ·rename_i hc
  simp only[Bool.and_eq_true,decide_eq_true_eq]at hc
  exact zhl.2 ⟨zpV b f hb t 0 h1 B h (by omega) (by omega),by rw[zok];exact h2,by rw[zpW];exact h3⟩
 ·exact hm
end Go.Ama
namespace Go.Proofs.CL
open Go Go.AM Go.Ama
abbrev zbJ(sig:List D)(ms:List M)(ctx:List T):V:= .agg [.vec .plain (some 4) (Yo sig), .vec .plain (some 5) (ZH ms), .vec .plain (some 3) (Zg ctx)]
@[simp] theorem onW{R:Type}(a b c:List V)(K:List V→List V→List V→Option R):Zc (R:=R) [CT.slice (some 4),CT.slice (some 5),CT.slice (some 3)] (.agg [.vec .plain (some 4) a, .vec .plain (some 5) b, .vec .plain (some 3) c]) K=K a b c:=rfl
theorem zkX(n:Nat)(sig:List D)(ms:List M)(ctx:List T):below n (zbJ sig ms ctx)=true:=by simp[below,Zm,Zv]
theorem zmX(sig:List D)(ms:List M)(ctx:List T)(a:T)(h:ctx.length≤1099511627776):Ev 139 [zbJ sig ms ctx,enc a] (zbJ sig ms (ctx++[a])):=by
 have hr:roomFor Tryz.prog 27 (ctx.length+1)=true:=zaP (by omega)
 have htk:List.take ctx.length (Zg ctx)=Zg ctx:=List.take_of_length_le (by simp)
 unfold Ev
 rw[C,Zb a,zgp]
 simp[htk,hr,←Zb,below,Zm,Xy,Zv]
theorem zfO(sig:List D)(ms:List M)(ctx:List T)(i:Int)(b:Bool)(h0:0≤i)(hs:sig.length≤1099511627776):Ev 178 [zbJ sig ms ctx, .int i, .bool b] (.tup [enc ((X9 sig i b).getD T0), .int (match X9 sig i b with|none=>2|some _=>0)]):=by
 unfold Ev X9
 rw[C,zdE,Jj]
 by_cases hi:i<sig.length
 ·have hn:i.toNat<sig.length:=by omega
  have hii:((i.toNat:Nat):Int)=i:=by omega
  have hg:ZA (Yo sig) i=zeM sig[i.toNat]:=by have:=zgm hn;rwa [hii]at this
  have hk:=(ztG sig[i.toNat].t).p
  have hlt: ¬i≥sig.length:=by omega
  have hc:(0≤i∧i<sig.length):=⟨h0,hi⟩
  rw[dif_pos hc,hg]
  simp only[hlt,decide_false,Zo,h0,hi,decide_true,Bool.and_self,Zz,zyh,←Zb,hk,Zf,Z0]
  generalize decide ((split sig[i.toNat].t).2.k=0)=kb
  by_cases hb:kb=b
  ·subst hb
   cases kb<;>simp[below,Zm]
  ·rw[if_neg hb]
   cases kb<;>cases b<;>simp_all
   ·rfl
   ·rfl
 ·have hge:i≥sig.length:=by omega
  rw[dif_neg (fun h=>hi h.2)]
  simp[hge]
  rfl
theorem zrI:cfg.pure 134=true:=by kernel_rfl
theorem zrJ:cfg.pure 135=false:=by kernel_rfl
theorem zrK:cfg.pure 137=false:=by kernel_rfl
theorem zi5(t:T)(hs:t.size≤1099511627776):Ev 134 [enc t] (.bool (!may t)):=by
 have h:=(X8 t hs).p
 unfold Ev
 rw[C,Zb t,zf0,←Zb,h]
 simp
theorem zgs(xs:List T)(hs:sizes xs≤1099511627776)(st:St):W.call 73 [.vec .plain (some 3) (Zg xs), .fn 134 [] []] st=some (.ret (.bool (xs.any fun t=> !may t)),st):=
 zcE (a:=[]) (b:=[]) zrI (p:=fun t=> !may t) xs (by have:=Zp xs;omega) (fun t ht=>(zi5 t (by have:=size_le ht;omega)).p) st
theorem zrL(d:D)(hs:d.t.size≤1099511627776)(st:St):W.call 137 ([]++[zeM d]++[.cptr none (.fn 134 [] [])]) st=some (.ret (.bool (!may d.t)),st):=by
 have h:=(zi5 d.t hs).p
 have e1:zeM d=V.agg [V.str (ba d.name),V.int d.t.k,V.int d.t.h,V.vec .plain (some 3) (Zg d.t.args)]:=rfl
 rw[e1]
 show W.call 137 [V.agg [V.str (ba d.name),V.int d.t.k,V.int d.t.h,V.vec .plain (some 3) (Zg d.t.args)], .cptr none (.fn 134 [] [])] st=_
 rw[C,zf2,←Zb,h]
 simp[Zy]
theorem zrM(m:M)(hs:sizes m.ctx+m.t.size≤1099511627776)(st:St):W.call 135 ([]++[zaw m]++[.cptr none (.fn 134 [] [])]) st=some (.ret (.bool (!zpS m)),st):=by
 have h:=(zi5 m.t (by omega)).p
 have h2:=zgs m.ctx (by omega) st
 rw[X1]
 show W.call 135 [V.agg [V.vec .plain (some 3) (Zg m.ctx),V.int m.t.k,V.int m.t.h,V.vec .plain (some 3) (Zg m.t.args),V.bool m.param], .cptr none (.fn 134 [] [])] st=_
 rw[C,zf1,←Zb,h]
 have q2:m.ctx.all may= !m.ctx.any fun d=> !may d:=by simp[List.all_eq_not_any_not]
 unfold zpS
 rw[q2]
 cases may m.t<;>simp[Zy,h2]
theorem zmY(sig:List D)(ms:List M)(ctx l:List T)(hsig: ∀d∈sig,d.t.size≤1099511627776)(hsl:sig.length≤1099511627776)(hms: ∀m∈ms,sizes m.ctx+m.t.size≤1099511627776)(hml:ms.length≤1099511627776)(hc:sizes ctx≤1099511627776)(hl:sizes l≤1099511627776):
  Ev 88 [zbJ sig ms ctx, .vec .plain (some 3) (Zg l)] (.bool (zi4 sig ms ctx l)):=by
 have h1:=zgs l hl []
 have h2:=zgs ctx hc []
 have h3:=zkS (a:=[]) (b:=[.cptr none (.fn 134 [] [])]) zrK (p:=fun d=> !may d.t) sig hsl [] (fun d hd=>zrL d (hsig d hd) [])
 have h4:=zkT (a:=[]) (b:=[.cptr none (.fn 134 [] [])]) zrJ (p:=fun d=> !zpS d) ms hml [] (fun d hd=>zrM d (hms d hd) [])
 have q1:sig.all (fun d=>may d.t)= !sig.any fun d=> !may d.t:=by simp[List.all_eq_not_any_not]
 have q2:ctx.all may= !ctx.any fun d=> !may d:=by simp[List.all_eq_not_any_not]
 have q3:l.all may= !l.any fun d=> !may d:=by simp[List.all_eq_not_any_not]
 have q4:ms.all zpS= !ms.any fun d=> !zpS d:=by simp[List.all_eq_not_any_not]
 have c1:decide ((ctx.length:Int)>1000)= !decide (ctx.length≤1000):=by by_cases h:ctx.length≤1000<;>simp[h]<;>omega
 unfold Ev zi4
 rw[C,zhj,Zh,c1,h1,q1,q2,q3,q4]
 cases decide (ctx.length≤1000)<;>cases l.any (fun d=> !may d)<;>simp[h2]<;>cases ctx.any (fun d=> !may d)<;>simp[h3]<;>cases sig.any (fun d=> !may d.t)<;>simp[h4]
end Go.Proofs.CL
namespace Go.Ama
open Go Go.AM
structure OkW(B:Int)(sig:List D)(ms:List M)(ctx:List T):Prop where
 s: ∀d∈sig,may d.t=true∧okB B d.t
 m: ∀m∈ms,may m.t=true∧okB B m.t∧ ∀x∈m.ctx,may x=true∧okB B x
 c: ∀x∈ctx,may x=true∧okB B x
 sl:sig.length≤1048576
 ml:ms.length≤1048576
 mcl: ∀m∈ms,m.ctx.length≤1048576
theorem OkW.mono{B B':Int}(h:B≤B'){sig:List D}{ms:List M}{ctx:List T}(o:OkW B sig ms ctx):OkW B' sig ms ctx:=
 ⟨fun d hd=>⟨(o.s d hd).1,Z6 h _ (o.s d hd).2⟩,fun m hm=>⟨(o.m m hm).1,Z6 h _ (o.m m hm).2.1,fun x hx=>⟨((o.m m hm).2.2 x hx).1,Z6 h _ ((o.m m hm).2.2 x hx).2⟩⟩,
  fun x hx=>⟨(o.c x hx).1,Z6 h _ (o.c x hx).2⟩,o.sl,o.ml,o.mcl⟩
theorem OkW.with{B:Int}{sig:List D}{ms:List M}{ctx:List T}(o:OkW B sig ms ctx){a:T}(h1:may a=true)(h2:okB B a):OkW B sig ms (ctx++[a]):=
 ⟨o.s,o.m,fun x hx=>by rcases List.mem_append.1 hx with h|h;exact o.c x h;simp at h;subst h;exact⟨h1,h2⟩,o.sl,o.ml,o.mcl⟩
theorem ZZ{β γ:Int}(h:ZT γ)(h0:0≤β)(hl:β≤γ):ZT β:=⟨h0,by unfold ZT at h;omega⟩
theorem zi6(sig:List D)(ms:List M): ∀(xs:List T) (ctx:List T) (t:T) (β:Int),0≤β→ZT (β+sizes xs*90000000000)→may t=true→okB β t→(∀x∈xs,okB β x)→(YB sig ms xs ctx t).2=0→
  may (YB sig ms xs ctx t).1=true∧okB (β+sizes xs*90000000000) (YB sig ms xs ctx t).1
 |[],ctx,t,β,_,_,hm,ho,_,_=>by simp only[YB,sizes];exact⟨hm,Z6 (by omega) t ho⟩
 |a::xs,ctx,t,β,h0,hβ,hm,ho,hx,he=>by
  have hp:=Xo a
  simp only[sizes,Int.natCast_add,Int.add_mul]at hβ⊢
  unfold YB at he⊢
  by_cases hk:t.k=1
  ·rw[if_neg (by simpa using hk)]at he⊢
   dsimp only at he⊢
   split at he
   ·rename_i h;exact absurd he h
   rename_i h1
   rw[if_neg h1]
   split at he
   ·rename_i h;exact absurd he h
   rename_i h2
   rw[if_neg h2]
   obtain⟨a0,b,hab⟩:=zrz (zop hm hk)
   have hb:b∈t.args:=by rw[hab];simp
   simp only[hab,List.getD_cons_succ,List.getD_cons_zero]at h2 he⊢
   have hbase:ZT β:=ZZ hβ h0 (by
                          have:(0:Int)≤a.size*90000000000:=by omega
                          have:(0:Int)≤sizes xs*90000000000:=by omega
                          omega)
   obtain⟨u1,u2,_⟩:=zde (t:=b) (l:=[a]) (s:=0) hbase (fun _=>zbH ho hb) (fun _ x hx'=>by simp at hx';rw[hx'];exact hx a (by simp)) (by simpa using h2)
   have hge:(a.size:Int)*90000000000≥90000000000:=by omega
   obtain⟨r1,r2⟩:=zi6 sig ms xs ctx _ (β+a.size*90000000000) (by omega) (by rw[show β+ ↑a.size*90000000000+ ↑(sizes xs)*90000000000=β+(↑a.size*90000000000+ ↑(sizes xs)*90000000000) by omega];exact hβ) u1 (Z6 (by omega) _ u2) (fun x hx'=>Z6 (by omega) x (hx x (by simp[hx']))) he
   exact⟨r1,by rw[show β+(↑a.size*90000000000+ ↑(sizes xs)*90000000000)=β+ ↑a.size*90000000000+ ↑(sizes xs)*90000000000 by omega];exact r2⟩
  ·rw[if_pos hk]at he
   simp at he
noncomputable def zoq(sig:List D)(ms:List M)(h:Int)(xs ctx:List T):T×Int:=
 if(ctx.length:Int)≤h then(T0,2)else YB sig ms xs ctx (upP (ctx.getD (ctx.length-1-h.toNat) T0) (h+1) 0)
noncomputable def zdH(sig:List D)(ms:List M)(h:Int)(xs ctx:List T):T×Int:=
 match X9 sig h false with
 |none=>(T0,2)
 |some t=>YB sig ms xs ctx t
noncomputable def zhm(sig:List D)(ms:List M)(h:Int)(xs ctx:List T):T×Int:=
 if(ms.length:Int)≤h then(T0,2)
 else
  let d:=ms.getD h.toNat ⟨[],T0,false⟩
  if d.ctx.length≠xs.length then(T0,3)
  else
   let e:=zdf sig ms xs ctx [] d.ctx
   if e≠0 then(T0,e)else Yz d.t xs ctx.length
noncomputable def Jq(sig:List D)(ms:List M)(k h:Int)(xs ctx:List T):T×Int:=
 if k=4 then zoq sig ms h xs ctx else if k=5 then zdH sig ms h xs ctx else if k=6 then zhm sig ms h xs ctx else(T0,3)
theorem zkY(sig:List D)(ms:List M){k h:Int}{xs ctx:List T}{a:T}(hk:k≠3)(ha:a.k=2):
  Ja sig ms (.mk k h xs) ctx a=if(Jq sig ms k h xs ctx).2≠0 then(Jq sig ms k h xs ctx).2 else if(Jq sig ms k h xs ctx).1.same a then 0 else 3:=by
 rw[Ja]
 rw[if_neg (fun c=>hk c.1),if_neg (fun c=>c.elim hk (fun c=>c ha))]
 rfl
theorem zmZ(sig:List D)(ms:List M){h:Int}{b:T}{r ctx:List T}{a:T}(ha:a.k=1):
  Ja sig ms (.mk 3 h (b::r)) ctx a=Ja sig ms b (ctx++[a.args.getD 0 T0]) (a.args.getD 1 T0):=by
 conv=>lhs;rw[Ja]
 rw[if_pos ⟨rfl,ha⟩,zwS]
theorem zkZ(sig:List D)(ms:List M){k h:Int}{xs ctx:List T}{a:T}(h1: ¬(k=3∧a.k=1))(h2:k=3∨a.k≠2):Ja sig ms (.mk k h xs) ctx a=3:=by
 rw[Ja,if_neg h1,if_pos h2]
end Go.Ama
namespace Go.Ama
open Go Go.AM
theorem zwt(sig:List D)(ms:List M){h:Int}{a b:T}{ctx:List T}:zkV sig ms (.mk 1 h [a,b]) ctx=if zkV sig ms a ctx≠0 then zkV sig ms a ctx else zkV sig ms b (ctx++[a]):=by
 conv=>lhs;rw[zkV]
 rw[if_pos rfl,zwT,zsE]
theorem zbK{sig:List D}{ms:List M}{ctx l:List T}:zi4 sig ms ctx l=true↔ctx.length≤1000∧(∀x∈l,may x=true)∧(∀x∈ctx,may x=true)∧(∀d∈sig,may d.t=true)∧(∀m∈ms,may m.t=true∧ ∀x∈m.ctx,may x=true):=by
 unfold zi4
 simp only[Bool.and_eq_true,decide_eq_true_eq,List.all_eq_true]
 have: ∀m:M,zpS m=true↔may m.t=true∧ ∀x∈m.ctx,may x=true:=fun m=>by unfold zpS;simp[Bool.and_eq_true,List.all_eq_true]
 simp only[this]
structure In(sig:List D)(ms:List M)(ctx l:List T):Prop where
 s: ∀d∈sig,d.t.size≤1048576∧(may d.t=true→okB 1152921504606846976 d.t)
 m: ∀m∈ms,sizes m.ctx+m.t.size≤1048576∧(may m.t=true→okB 1152921504606846976 m.t)∧ ∀x∈m.ctx,may x=true→okB 1152921504606846976 x
 c:sizes ctx≤1048576∧ ∀x∈ctx,may x=true→okB 1152921504606846976 x
 l:sizes l≤1048576∧ ∀x∈l,may x=true→okB 1152921504606846976 x
 sl:sig.length≤1048576
 ml:ms.length≤1048576
theorem In.ok{sig:List D}{ms:List M}{ctx l:List T}(h:In sig ms ctx l)(hm:zi4 sig ms ctx l=true):OkW 1152921504606846976 sig ms ctx∧ ∀x∈l,may x=true∧okB 1152921504606846976 x:=by
 obtain⟨_,h2,h3,h4,h5⟩:=zbK.1 hm
 refine⟨⟨fun d hd=>⟨h4 d hd,(h.s d hd).2 (h4 d hd)⟩,fun m hm=>⟨(h5 m hm).1,(h.m m hm).2.1 (h5 m hm).1,fun x hx=>⟨(h5 m hm).2 x hx,(h.m m hm).2.2 x hx ((h5 m hm).2 x hx)⟩⟩,fun x hx=>⟨h3 x hx,h.c.2 x hx (h3 x hx)⟩,h.sl,h.ml,fun m hm=> ?_⟩,fun x hx=>⟨h2 x hx,h.l.2 x hx (h2 x hx)⟩⟩
 have:=(h.m m hm).1
 have:=Zp m.ctx
 omega
end Go.Ama
namespace Go.Proofs.CL
open Go Go.AM Go.Ama
section
variable(sig:List D)(ms:List M)
def HT(N:Nat):Prop:= ∀(m:T) (ctx:List T) (a:T) (β:Int),m.size≤N→0≤β→OkW β sig ms ctx→ctx.length+m.size≤1000000→may m=true→okB β m→may a=true→okB β a→ZT (β+m.size*90000000000)→
 Ev 89 [zbJ sig ms ctx,enc m,enc a] (.int (Ja sig ms m ctx a))
theorem zpX{N:Nat}(hT:HT sig ms N)(xs ctx:List T)(hxl:xs.length≤1000000): ∀(n i:Nat) (t:T) (β:Int) (v:V),xs.length-i=n→i≤xs.length→sizes (xs.drop i)≤N→0≤β→OkW β sig ms ctx→ctx.length+sizes (xs.drop i)≤1000000→(∀x∈xs,may x=true∧okB β x)→may t=true→okB β t→ZT (β+sizes (xs.drop i)*90000000000)→
  W.loop 176 2 [.loc true (some 3) v, .int (i:Int), .loc false (some 3) (enc t), .loc false (some 3) (zbJ sig ms ctx), .vec .plain (some 3) (Zg xs), .int xs.length] []=
   if(YB sig ms (xs.drop i) ctx t).2=0 then some (.exit 0,[.loc true (some 3) v, .loc false (some 3) (enc (YB sig ms (xs.drop i) ctx t).1)],[])else some (.ret,[.loc false (some 3) (enc T0), .int (YB sig ms (xs.drop i) ctx t).2],[]):=by
 intro n
 induction n with
 |zero=>
  intro i t β v hn hi _ _ _ _ _ _ _ _
  have:i=xs.length:=by omega
  subst this
  rw[L,Zb t,JX]
  simp[YB,←Zb]
 |succ n ih=>
  intro i t β v hn hi hN h0 hW hcl hx hm ho hβ
  have hlt:i<xs.length:=by omega
  have hlt':(i:Int)<xs.length:=by omega
  have hd:xs.drop i=xs[i]::xs.drop (i+1):=List.drop_eq_getElem_cons hlt
  have hp:=Xo xs[i]
  have hw:IntKind.i64.wrap ((i:Int)+1)=((i+1:Nat):Int):=by rw[Zq ⟨by omega,by omega⟩];omega
  rw[hd]at hN hcl hβ⊢
  simp only[sizes,Int.natCast_add,Int.add_mul]at hN hcl hβ
  have hbase:ZT β:=ZZ hβ h0 (by omega)
  obtain⟨hxm,hxo⟩:=hx _ (List.getElem_mem hlt)
  rw[L,Zb t,JX,←Zb t,hw,ZC hlt,Zh]
  simp only[hlt',decide_true,Zr,Int.natCast_nonneg,Bool.and_self,Zz,zbX,←Zb]
  by_cases hk:t.k=1
  ·obtain⟨a0,b,hab⟩:=zrz (zop hm hk)
   have ha0:a0∈t.args:=by rw[hab];simp
   have hb:b∈t.args:=by rw[hab];simp
   have h1:=(hT xs[i] ctx a0 β (by omega) h0 hW (by omega) hxm hxo (zcn hm ha0) (zbH ho ha0) (ZZ hβ (by omega) (by omega))).p (by simp[Zm,below,Zv])
   have hst:YB sig ms (xs[i]::xs.drop (i+1)) ctx t=(if Ja sig ms xs[i] ctx a0≠0 then(T0,Ja sig ms xs[i] ctx a0)else if(Yz b [xs[i]] 0).2≠0 then(T0,(Yz b [xs[i]] 0).2)else YB sig ms (xs.drop (i+1)) ctx (Yz b [xs[i]] 0).1):=by
    conv=>lhs;unfold YB
    simp[hk,hab]
   rw[hst]
   by_cases he:Ja sig ms xs[i] ctx a0=0
   ·have hsb:=Yu (zcn hm hb)
    have hsx:=Yu hxm
    have hA:=(zcm (s:=0) hbase (t:=b) (l:=[xs[i]]) (by omega) (by simp[sizes];omega) (fun _=>zbH ho hb) (fun _ x hx'=>by simp at hx';rw[hx'];exact hxo)).p
    simp only[JW,QA,Jv]at hA
    by_cases hu:(Yz b [xs[i]] 0).2=0
    ·obtain⟨u1,u2,_⟩:=zde (t:=b) (l:=[xs[i]]) (s:=0) hbase (fun _=>zbH ho hb) (fun _ x hx'=>by simp at hx';rw[hx'];exact hxo) hu
     have:=ih (i+1) (Yz b [xs[i]] 0).1 (β+xs[i].size*90000000000) v (by omega) (by omega) (by omega) (by omega) (hW.mono (by omega)) (by omega) (fun x hx'=>⟨(hx x hx').1,Z6 (by omega) x (hx x hx').2⟩) u1 (Z6 (by omega) _ u2) (by rw[show β+ ↑xs[i].size*90000000000+ ↑(sizes (xs.drop (i+1)))*90000000000=β+(↑xs[i].size*90000000000+ ↑(sizes (xs.drop (i+1)))*90000000000) by omega];exact hβ)
     simp[hk,hab,h1,he,hA,hu,←Zb]
     simpa using this
    ·simp[hk,hab,h1,he,hA,hu,←Zb,Zb T0]
   ·simp[hk,hab,h1,he,←Zb,Zb T0]
  ·have hst:YB sig ms (xs[i]::xs.drop (i+1)) ctx t=(T0,3):=by
    conv=>lhs;unfold YB
    simp[hk]
   rw[hst]
   simp[hk,Zb T0]
theorem zgt{N:Nat}(hT:HT sig ms N)(xs ctx:List T)(t:T)(β:Int)(hN:sizes xs≤N)(h0:0≤β)(hW:OkW β sig ms ctx)(hcl:ctx.length+sizes xs≤1000000)(hx: ∀x∈xs,may x=true∧okB β x)(hm:may t=true)(ho:okB β t)(hβ:ZT (β+sizes xs*90000000000)):
  Ev 176 [zbJ sig ms ctx,enc t, .vec .plain (some 3) (Zg xs)] (.tup [enc (YB sig ms xs ctx t).1, .int (YB sig ms xs ctx t).2]):=by
 have hl:=Zp xs
 have h:=zpX sig ms hT xs ctx (by omega) _ 0 t β (.agg [.int 0, .int 0, .vec .full (some 3) []]) rfl (Nat.zero_le _) (by simpa using hN) h0 hW (by simpa using hcl) hx hm ho (by simpa using hβ)
 simp only[List.drop_zero,Int.natCast_zero]at h
 have hz:(YB sig ms xs ctx t).2≠0→(YB sig ms xs ctx t).1=T0:=by
  have: ∀(ys:List T) (t:T),(YB sig ms ys ctx t).2≠0→(YB sig ms ys ctx t).1=T0:=by
   intro ys
   induction ys with
   |nil=>intro t h;simp[YB]at h
   |cons y ys ih=>
    intro t h
    unfold YB at h⊢
    dsimp only at h⊢
    repeat' split
    all_goals first|rfl|skip
    rename_i c1 c2 c3
    rw[if_neg c1,if_neg c2,if_neg c3]at h
    exact ih _ h
  exact this xs t
 unfold Ev
 rw[C]
 conv=>lhs;rw[Zb t]
 rw[zf3,Zh,←Zb t,h]
 by_cases he:(YB sig ms xs ctx t).2=0
 ·simp[he,←Zb,below,Zm,Zu]
 ·have hc: ∀t:T,Zt (enc t)=enc t:=fun t=>by rw[Zb];rfl
  simp[he,hz he,below,Zm,Zu,hc]
end
end Go.Proofs.CL
namespace Go.Proofs.CL
open Go Go.AM Go.Ama
section
variable(sig:List D)(ms:List M)
theorem zmo{N:Nat}(hT:HT sig ms N)(k h:Int)(xs ctx:List T)(β:Int)(hN:sizes xs≤N)(h0:0≤β)(hW:OkW β sig ms ctx)(hcl:ctx.length+sizes xs≤1000000)(hx: ∀x∈xs,may x=true∧okB β x)(hh:0≤h)(hβ:ZT (β+(1+sizes xs:Nat)*90000000000)):
  Ev 141 [zbJ sig ms ctx, .agg [.int k, .int h, .vec .plain (some 3) (Zg xs)]] (.tup [enc (zoq sig ms h xs ctx).1, .int (zoq sig ms h xs ctx).2]):=by
 simp only[Int.natCast_add,Int.add_mul]at hβ
 have hbase:ZT β:=ZZ hβ h0 (by omega)
 unfold Ev zoq
 rw[C,zdF,Zh]
 by_cases hc:(ctx.length:Int)≤h
 ·simp only[hc,if_true]
  simp[hc,Zb T0]
 ·have hw1:IntKind.i64.wrap ((ctx.length:Int)-1)=(ctx.length:Int)-1:=Zq ⟨by omega,by omega⟩
  have hw2:IntKind.i64.wrap ((ctx.length:Int)-1-h)=((ctx.length-1-h.toNat:Nat):Int):=by rw[Zq ⟨by omega,by omega⟩];omega
  have hw3:IntKind.i64.wrap (h+1)=h+1:=Zq ⟨by omega,by omega⟩
  have hlt:ctx.length-1-h.toNat<ctx.length:=by omega
  have hg:ctx.getD (ctx.length-1-h.toNat) T0=ctx[ctx.length-1-h.toNat]:=by simp[List.getD_eq_getElem?_getD,hlt]
  obtain⟨c1,c2⟩:=hW.c _ (List.getElem_mem hlt)
  have hsz:=Yu c1
  have hU:=(zsB ctx[ctx.length-1-h.toNat] (h+1) 0 (by omega)).p
  have hS:=(zgt sig ms hT xs ctx (upP ctx[ctx.length-1-h.toNat] (h+1) 0) (β+90000000000) hN (by omega) (hW.mono (by omega)) hcl (fun x hx'=>⟨(hx x hx').1,Z6 (by omega) x (hx x hx').2⟩) (zsG hbase c2 c1 (by omega)) (Z6 (by omega) _ (zpU hbase c2 (by omega))) (by rw[show β+90000000000+ ↑(sizes xs)*90000000000=β+(((1:Nat):Int)*90000000000+ ↑(sizes xs)*90000000000) by omega];exact hβ)).p (by simp[Zm,below,Zv]) (by simp[below,Zm])
  have hc': ¬(h≥(ctx.length:Int)):=by omega
  have hlt':((ctx.length-1-h.toNat:Nat):Int)<ctx.length:=by omega
  simp only[hc,if_false]
  rw[hw1,hw2,hw3,ZC hlt,hg]
  simp[hc',hlt',hU,←Zb,hS]
  simp[below,Zm]
theorem zmp{N:Nat}(hT:HT sig ms N)(k h:Int)(xs ctx:List T)(β:Int)(hN:sizes xs≤N)(h0:0≤β)(hW:OkW β sig ms ctx)(hcl:ctx.length+sizes xs≤1000000)(hx: ∀x∈xs,may x=true∧okB β x)(hh:0≤h)(hβ:ZT (β+sizes xs*90000000000)):
  Ev 142 [zbJ sig ms ctx, .agg [.int k, .int h, .vec .plain (some 3) (Zg xs)]] (.tup [enc (zdH sig ms h xs ctx).1, .int (zdH sig ms h xs ctx).2]):=by
 have hD:=(zfO sig ms ctx h false hh (by have:=hW.sl;omega)).p (by simp[Zm,below,Zv]) (by simp[below,Zm])
 unfold Ev zdH
 rw[C,zdG,hD]
 cases hd:X9 sig h false with
 |none=>simp[Zb T0]
 |some t=>
  obtain⟨d,hdm,hdt⟩: ∃d∈sig,d.t=t:=by
   unfold X9 at hd
   split at hd
   ·split at hd
    ·cases hd;exact⟨_,List.getElem_mem _,rfl⟩
    ·cases hd
   ·cases hd
  obtain⟨s1,s2⟩:=hW.s d hdm
  rw[hdt]at s1 s2
  have hS:=(zgt sig ms hT xs ctx t β hN h0 hW hcl hx s1 s2 hβ).p (by simp[Zm,below,Zv]) (by simp[below,Zm])
  simp[←Zb,hS]
  simp[below,Zm]
theorem zna(l:List T)(n:Nat):(Zg l).take n=Zg (l.take n):=by simp[QY,List.map_take]
theorem zrN{N:Nat}(hT:HT sig ms N)(k h:Int)(xs ctx:List T)(d:M)(β:Int)(hN:sizes xs≤N)(h0:0≤β)(hW:OkW β sig ms ctx)(hcl:ctx.length+sizes xs≤1000000)(hx: ∀x∈xs,may x=true∧okB β x)(hd:d∈ms)(hlen:d.ctx.length=xs.length)(hβ:ZT (β+(1+sizes xs:Nat)*90000000000))(v:V):
  ∀(n i:Nat),xs.length-i=n→i≤xs.length→
  W.loop 143 7 [.loc true (some 3) v, .int (i:Int), .loc false (some 3) (.agg [.int k, .int h, .vec .plain (some 3) (Zg xs)]), .loc false (some 3) (zbJ sig ms ctx), .vec .plain (some 3) (Zg d.ctx), .loc false (some 5) (zaw d), .int d.ctx.length] []=
   if zdf sig ms (xs.drop i) ctx (xs.take i) (d.ctx.drop i)=0 then some (.exit 0,[.loc true (some 3) v, .loc false (some 3) (zbJ sig ms ctx), .loc false (some 3) (.agg [.int k, .int h, .vec .plain (some 3) (Zg xs)]), .loc false (some 5) (zaw d)],[])
   else some (.ret,[.loc false (some 3) (enc T0), .int (zdf sig ms (xs.drop i) ctx (xs.take i) (d.ctx.drop i))],[]):=by
 have hxl:=Zp xs
 simp only[Int.natCast_add,Int.add_mul]at hβ
 have hbase:ZT β:=ZZ hβ h0 (by omega)
 obtain⟨_,_,m3⟩:=hW.m d hd
 intro n
 induction n with
 |zero=>
  intro i hn hi
  have:i=xs.length:=by omega
  subst this
  rw[L,X1,zah,←X1]
  simp[zdf,hlen]
 |succ n ih=>
  intro i hn hi
  have hlt:i<xs.length:=by omega
  have hlt2:i<d.ctx.length:=by omega
  have hlt':(i:Int)<xs.length:=by omega
  have hlt2':(i:Int)<d.ctx.length:=by omega
  have hle':(i:Int)≤xs.length:=by omega
  have hdx:xs.drop i=xs[i]::xs.drop (i+1):=List.drop_eq_getElem_cons hlt
  have hdd:d.ctx.drop i=d.ctx[i]::d.ctx.drop (i+1):=List.drop_eq_getElem_cons hlt2
  have hp:=Xo xs[i]
  have hsx:=size_le (List.getElem_mem hlt)
  have hw:IntKind.i64.wrap ((i:Int)+1)=((i+1:Nat):Int):=by rw[Zq ⟨by omega,by omega⟩];omega
  obtain⟨hxm,hxo⟩:=hx _ (List.getElem_mem hlt)
  obtain⟨hdm,hdo⟩:=m3 _ (List.getElem_mem hlt2)
  have hsd:=Yu hdm
  have hst:=zcD xs i
  have htk:List.drop 0 (List.take (i:Int).toNat (Zg xs))=Zg (xs.take i):=by simp[zna]
  have hok: ∀x∈xs.take i,okB β x:=fun x hx'=>(hx x (List.mem_of_mem_take hx')).2
  have hA:=(zcm (s:=ctx.length) hbase (t:=d.ctx[i]) (l:=xs.take i) (by omega) (by omega) (fun _=>hdo) (fun _=>hok)).p
  simp only[JW]at hA
  have hstep:zdf sig ms (xs.drop i) ctx (xs.take i) (d.ctx.drop i)=(if(if(Yz d.ctx[i] (xs.take i) ctx.length).2=0 then Ja sig ms xs[i] ctx (Yz d.ctx[i] (xs.take i) ctx.length).1 else(Yz d.ctx[i] (xs.take i) ctx.length).2)≠0 then(if(Yz d.ctx[i] (xs.take i) ctx.length).2=0 then Ja sig ms xs[i] ctx (Yz d.ctx[i] (xs.take i) ctx.length).1 else(Yz d.ctx[i] (xs.take i) ctx.length).2)else zdf sig ms (xs.drop (i+1)) ctx (xs.take (i+1)) (d.ctx.drop (i+1))):=by
   rw[hdx,hdd,zdC hlt]
   conv=>lhs;unfold zdf
  rw[hstep,L,X1,zah,←X1,hw,ZC hlt,ZC hlt2,Zh,Zh,Zh,htk]
  have ihh:=ih (i+1) (by omega) (by omega)
  by_cases hu:(Yz d.ctx[i] (xs.take i) ctx.length).2=0
  ·obtain⟨u1,u2,_⟩:=zde (t:=d.ctx[i]) (l:=xs.take i) (s:=ctx.length) hbase (fun _=>hdo) (fun _=>hok) hu
   have h1:=(hT xs[i] ctx (Yz d.ctx[i] (xs.take i) ctx.length).1 (β+90000000000) (by omega) (by omega) (hW.mono (by omega)) (by omega) hxm (Z6 (by omega) _ hxo) u1 (Z6 (by omega) _ u2) (ZZ hβ (by omega) (by omega))).p (by simp[Zm,below,Zv])
   by_cases he:Ja sig ms xs[i] ctx (Yz d.ctx[i] (xs.take i) ctx.length).1=0
   ·simp[hlt',hlt2',hle',hA,hu,←Zb,h1,he]
    simpa using ihh
   ·simp[hlt',hlt2',hle',hA,hu,←Zb,h1,he,Zb T0]
  ·simp[hlt',hlt2',hle',hA,hu,←Zb,Zb T0]
theorem ztI{N:Nat}(hT:HT sig ms N)(k h:Int)(xs ctx:List T)(β:Int)(hN:sizes xs≤N)(h0:0≤β)(hW:OkW β sig ms ctx)(hcl:ctx.length+sizes xs≤1000000)(hx: ∀x∈xs,may x=true∧okB β x)(hh:0≤h)(hβ:ZT (β+(1+sizes xs:Nat)*90000000000)):
  Ev 143 [zbJ sig ms ctx, .agg [.int k, .int h, .vec .plain (some 3) (Zg xs)]] (.tup [enc (zhm sig ms h xs ctx).1, .int (zhm sig ms h xs ctx).2]):=by
 have hxl:=Zp xs
 unfold Ev zhm
 rw[C,zgr,ZL]
 by_cases hc:(ms.length:Int)≤h
 ·simp only[hc,if_true]
  simp[hc,Zb T0]
 ·have hlt:h.toNat<ms.length:=by omega
  have hg:ms.getD h.toNat ⟨[],T0,false⟩=ms[h.toNat]:=by simp[List.getD_eq_getElem?_getD,hlt]
  have hii:((h.toNat:Nat):Int)=h:=by omega
  have hgi:ZA (ZH ms) h=zaw ms[h.toNat]:=by have:=J8 hlt;rwa [hii]at this
  have hc': ¬(h≥(ms.length:Int)):=by omega
  have hlt':h<(ms.length:Int):=by omega
  have hmem:=List.getElem_mem hlt
  simp only[hc,if_false]
  rw[hg,hgi]
  generalize ms[h.toNat]=d at*
  by_cases hlen:d.ctx.length=xs.length
  ·have hL:=zrN sig ms hT k h xs ctx d β hN h0 hW hcl hx hmem hlen hβ (.agg [.int 0, .int 0, .vec .full (some 3) []]) _ 0 rfl (Nat.zero_le _)
   simp only[List.drop_zero,Int.natCast_zero,List.take_zero]at hL
   have hbase:ZT β:=ZZ hβ h0 (by omega)
   obtain⟨t1,t2,_⟩:=hW.m d hmem
   have hsz:=Yu t1
   have hA:=(zcm (s:=ctx.length) hbase (t:=d.t) (l:=xs) (by omega) (by omega) (fun _=>t2) (fun _ x hx'=>(hx x hx').2)).p
   simp only[JW]at hA
   have hbne:((d.ctx.length:Int) !=(xs.length:Int))=false:=by simp[hlen]
   have hc2: ∀t:T,Zt (enc t)=enc t:=fun t=>by rw[Zb];rfl
   have hL':=hL
   simp only[zaw,hlen,zbJ]at hL'
   simp only[hlen,ne_eq,not_true,if_false]
   by_cases he:zdf sig ms xs ctx [] d.ctx=0
   ·rw[if_pos he]at hL'
    simp[hc',hh,hlt',hbne,hL',he,hA,←Zb,below,Zm,hlen]
    simp[below,Zm,Zu]
   ·rw[if_neg he]at hL'
    simp[hc',hh,hlt',hbne,hL',he,hlen,hc2,below,Zm,Zu]
  ·have hbne:((d.ctx.length:Int) !=(xs.length:Int))=true:=by simp;omega
   simp[hc',hh,hlt',hbne,hlen,Zb T0]
end
end Go.Proofs.CL
namespace Go.Proofs.CL
open Go Go.AM Go.Ama
theorem zi7:cfg.pure 140=true:=by kernel_rfl
theorem zfP:cfg.pure 141=true:=by kernel_rfl
theorem zfQ:cfg.pure 142=true:=by kernel_rfl
theorem znb:cfg.pure 143=true:=by kernel_rfl
section
variable(sig:List D)(ms:List M)
theorem zi8(k h:Int)(xs ctx:List T):Ev 140 [zbJ sig ms ctx, .agg [.int k, .int h, .vec .plain (some 3) (Zg xs)]] (.tup [enc T0, .int 3]):=by
 unfold Ev
 rw[C,zgq]
 rw[Zb T0]
 rfl
theorem zpY{β:Int}{xs ctx:List T}{k h:Int}(h0:0≤β)(hW:OkW β sig ms ctx)(hx: ∀x∈xs,may x=true∧okB β x)(hh:0≤h)(hcl:ctx.length≤1000000)(hβ:ZT (β+(1+sizes xs:Nat)*90000000000))(he:(Jq sig ms k h xs ctx).2=0):may (Jq sig ms k h xs ctx).1=true:=by
 simp only[Int.natCast_add,Int.add_mul]at hβ
 have hbase:ZT β:=ZZ hβ h0 (by omega)
 unfold Jq at he⊢
 split
 ·rename_i hk
  rw[if_pos hk]at he
  unfold zoq at he⊢
  split
  ·rename_i c;rw[if_pos c]at he;simp at he
  ·rename_i c
   rw[if_neg c]at he
   have hlt:ctx.length-1-h.toNat<ctx.length:=by omega
   have hg:ctx.getD (ctx.length-1-h.toNat) T0=ctx[ctx.length-1-h.toNat]:=by simp[List.getD_eq_getElem?_getD,hlt]
   obtain⟨c1,c2⟩:=hW.c _ (List.getElem_mem hlt)
   rw[hg]at he⊢
   exact(zi6 sig ms xs ctx _ (β+90000000000) (by omega) (by rw[show β+90000000000+ ↑(sizes xs)*90000000000=β+(((1:Nat):Int)*90000000000+ ↑(sizes xs)*90000000000) by omega];exact hβ) (zsG hbase c2 c1 (by omega)) (Z6 (by omega) _ (zpU hbase c2 (by omega))) (fun x hx'=>Z6 (by omega) x (hx x hx').2) he).1
 ·rename_i hk
  rw[if_neg hk]at he
  split
  ·rename_i hk
   rw[if_pos hk]at he
   unfold zdH at he⊢
   cases hd:X9 sig h false with
   |none=>rw[hd]at he;simp at he
   |some t=>
    rw[hd]at he
    obtain⟨d,hdm,hdt⟩: ∃d∈sig,d.t=t:=by
     unfold X9 at hd
     split at hd
     ·split at hd
      ·cases hd;exact⟨_,List.getElem_mem _,rfl⟩
      ·cases hd
     ·cases hd
    obtain⟨s1,s2⟩:=hW.s d hdm
    rw[hdt]at s1 s2
    exact(zi6 sig ms xs ctx t β h0 (ZZ hβ (by omega) (by omega)) s1 s2 (fun x hx'=>(hx x hx').2) he).1
  ·rename_i hk
   rw[if_neg hk]at he
   split
   ·rename_i hk
    rw[if_pos hk]at he
    unfold zhm at he⊢
    split
    ·rename_i c;rw[if_pos c]at he;simp at he
    ·rename_i c
     rw[if_neg c]at he
     have hlt:h.toNat<ms.length:=by omega
     have hg:ms.getD h.toNat ⟨[],T0,false⟩=ms[h.toNat]:=by simp[List.getD_eq_getElem?_getD,hlt]
     obtain⟨t1,t2,_⟩:=hW.m _ (List.getElem_mem hlt)
     rw[hg]at he⊢
     dsimp only at he⊢
     split
     ·rename_i c;rw[if_pos c]at he;simp at he
     ·rename_i c
      rw[if_neg c]at he
      split
      ·rename_i c;rw[if_pos c]at he;exact absurd he c
      ·rename_i c
       rw[if_neg c]at he
       exact(zde hbase (fun _=>t2) (fun _ x hx'=>(hx x hx').2) he).1
   ·rename_i hk
    rw[if_neg hk]at he
    simp at he
theorem ztJ{N:Nat}(hT:HT sig ms N):HT sig ms (N+1):=by
 intro m ctx a β hN h0 hW hcl hm ho ham hao hβ
 obtain⟨k,h,xs⟩:=m
 have hnode:=zkU hm
 obtain⟨⟨hh,_⟩,_,hxs⟩:=ho
 simp only[T.size]at hN hcl hβ
 have hx: ∀x∈xs,may x=true∧okB β x:=fun x hx'=>⟨zcn hm hx',(Xa _ _).1 hxs x hx'⟩
 have hβ':=hβ
 simp only[Int.natCast_add,Int.add_mul]at hβ
 have hasz:=Yu ham
 show W.call 89 [zbJ sig ms ctx, .agg [.int k, .int h, .vec .plain (some 3) (Zg xs)],enc a] []=_
 rw[C,Zb a,zgn,←Zb a,Zh,Zh]
 by_cases hL:k=3∧a.k=1
 ·obtain⟨rfl,hak⟩:=hL
  obtain⟨a0,b,hab⟩:=zrz (zop ham hak)
  have ha0:a0∈a.args:=by rw[hab];simp
  have hb:b∈a.args:=by rw[hab];simp
  simp only[zvg,zvh,zmU,zcZ]at hnode
  obtain⟨c,hc⟩: ∃c,xs=[c]:=by simp at hnode;exact List.length_eq_one_iff.1 (of_decide_eq_true hnode.2)
  subst hc
  obtain⟨c1,c2⟩:=hx c (by simp)
  simp only[sizes]at hN hcl hβ
  have hw:=(zmX sig ms ctx a0 (by omega)).p (by simp[Zm,below,Zv]) (zkX 0 sig ms _)
  have h1:=(hT c (ctx++[a0]) b β (by omega) h0 (hW.with (zcn ham ha0) (zbH hao ha0)) (by simp;omega) c1 c2 (zcn ham hb) (zbH hao hb) (ZZ hβ (by omega) (by omega))).p (by simp[Zm,below,Zv,Xy])
  simp only[zbJ,zeF,QA,Jv]at h1
  rw[zmZ sig ms hak,hab]
  simp[hak,hab,←Zb,hw,h1]
 ·by_cases hno:k=3∨a.k≠2
  ·rw[zkZ sig ms hL hno]
   rcases hno with hk|hak
   ·have:a.k≠1:=fun c=>hL ⟨hk,c⟩
    simp[hk,this]
   ·by_cases hk:k=3
    ·have:a.k≠1:=fun c=>hL ⟨hk,c⟩
     simp[hk,this]
    ·simp[hk,hak]
  ·simp only[not_or,ne_eq,Decidable.not_not]at hno
   obtain⟨hk3,ha2⟩:=hno
   rw[zkY sig ms hk3 ha2]
   have hcs:=zpY sig ms (k:=k) (h:=h) h0 hW hx hh (by omega) hβ'
   have hsame:(Jq sig ms k h xs ctx).2=0→Zj W 75 [enc (Jq sig ms k h xs ctx).1,enc a]=some (.bool ((Jq sig ms k h xs ctx).1.same a)):=fun he=>
    (zgk _ a (by have:=Yu (hcs he);omega) (by omega)).p
   have hk7:k=0∨k=1∨k=2∨k=4∨k=5∨k=6:=by
    simp only[zvg,zvh,zmU]at hnode
    unfold zcZ at hnode
    repeat' split at hnode
    all_goals simp at hnode
    all_goals omega
   have hnone: ∀k,k≠4→k≠5→k≠6→Jq sig ms k h xs ctx=(T0,3):=fun k h4 h5 h6=>by unfold Jq;rw[if_neg h4,if_neg h5,if_neg h6]
   rcases hk7 with rfl|rfl|rfl|rfl|rfl|rfl
   ·have hn:=(zi8 sig ms 0 h xs ctx).p (by simp[Zm,below,Zv])
    rw[hnone 0 (by decide) (by decide) (by decide)]at*
    simp[ha2,AM.partOf,zaU,zi7,hn]
   ·have hn:=(zi8 sig ms 1 h xs ctx).p (by simp[Zm,below,Zv])
    rw[hnone 1 (by decide) (by decide) (by decide)]at*
    simp[ha2,AM.partOf,zaU,zi7,hn]
   ·have hn:=(zi8 sig ms 2 h xs ctx).p (by simp[Zm,below,Zv])
    rw[hnone 2 (by decide) (by decide) (by decide)]at*
    simp[ha2,AM.partOf,zaU,zi7,hn]
   ·have hn:=(zmo sig ms hT 4 h xs ctx β (by omega) h0 hW (by omega) hx hh hβ').p (by simp[Zm,below,Zv]) (by simp[below,Zm])
    have hc:Jq sig ms 4 h xs ctx=zoq sig ms h xs ctx:=rfl
    rw[hc]
    by_cases he:(zoq sig ms h xs ctx).2=0
    ·have:=hsame (by rw[hc];exact he)
     rw[hc]at this
     cases hs:(zoq sig ms h xs ctx).1.same a<;>rw[hs]at this<;>simp[ha2,AM.partOf,zaU,zfP,hn,he,←Zb,this]
    ·simp[ha2,AM.partOf,zaU,zfP,hn,he]
   ·have hn:=(zmp sig ms hT 5 h xs ctx β (by omega) h0 hW (by omega) hx hh (ZZ hβ (by omega) (by omega))).p (by simp[Zm,below,Zv]) (by simp[below,Zm])
    have hc:Jq sig ms 5 h xs ctx=zdH sig ms h xs ctx:=rfl
    rw[hc]
    by_cases he:(zdH sig ms h xs ctx).2=0
    ·have:=hsame (by rw[hc];exact he)
     rw[hc]at this
     cases hs:(zdH sig ms h xs ctx).1.same a<;>rw[hs]at this<;>simp[ha2,AM.partOf,zaU,zfQ,hn,he,←Zb,this]
    ·simp[ha2,AM.partOf,zaU,zfQ,hn,he]
   ·have hn:=(ztI sig ms hT 6 h xs ctx β (by omega) h0 hW (by omega) hx hh hβ').p (by simp[Zm,below,Zv]) (by simp[below,Zm])
    have hc:Jq sig ms 6 h xs ctx=zhm sig ms h xs ctx:=rfl
    rw[hc]
    by_cases he:(zhm sig ms h xs ctx).2=0
    ·have:=hsame (by rw[hc];exact he)
     rw[hc]at this
     cases hs:(zhm sig ms h xs ctx).1.same a<;>rw[hs]at this<;>simp[ha2,AM.partOf,zaU,znb,hn,he,←Zb,this]
    ·simp[ha2,AM.partOf,zaU,znb,hn,he]
theorem zla: ∀N,HT sig ms N
 |0=>fun m _ _ _ h=>by have:=Xo m;omega
 |N+1=>ztJ sig ms (zla N)
end
end Go.Proofs.CL
namespace Go.Proofs.CL
open Go Go.AM Go.Ama
theorem zvo:cfg.pure 146=true:=by kernel_rfl
section
variable(sig:List D)(ms:List M)
theorem ztK{g:Nat}(hg:cfg.pure g=true)(k h:Int)(a b:T)(ctx:List T){e1 e2:Int}(hcl:ctx.length≤1000000)(h1:Ev 146 [zbJ sig ms ctx,enc a] (.int e1))(h2:e1=0→Ev g [zbJ sig ms (ctx++[a]),enc b] (.int e2)):
  W.call 180 [zbJ sig ms ctx, .agg [.int k, .int h, .vec .plain (some 3) [enc a,enc b]], .fn g [] []] []=some (.ret (.int (if e1≠0 then e1 else e2)),[]):=by
 have h1':=h1.p (by simp[Zm,below,Zv])
 have hw:=(zmX sig ms ctx a (by omega)).p (by simp[Zm,below,Zv]) (zkX 0 sig ms _)
 rw[C,zgo]
 by_cases he:e1=0
 ·have h2':=(h2 he).p (by simp[Zm,below,Zv,Xy])
  simp only[zbJ,zeF,QA,Jv]at h2' hw
  simp[←Zb,h1',he,hw,hg,h2',Zy]
 ·simp[←Zb,h1',he,Zy]
theorem zwu: ∀(N:Nat) (a:T) (ctx:List T) (β:Int),a.size≤N→0≤β→OkW β sig ms ctx→ctx.length+a.size≤1000000→may a=true→okB β a→ZT (β+a.size*90000000000)→Ev 146 [zbJ sig ms ctx,enc a] (.int (zkV sig ms a ctx)):=by
 intro N
 induction N with
 |zero=>intro a _ _ h;have:=Xo a;omega
 |succ N ih=>
  intro a ctx β hN h0 hW hcl hm ho hβ
  obtain⟨k,h,xs⟩:=a
  have hnode:=zkU hm
  obtain⟨⟨hh,_⟩,_,hxs⟩:=ho
  simp only[T.size]at hN hcl hβ
  have hx: ∀x∈xs,may x=true∧okB β x:=fun x hx'=>⟨zcn hm hx',(Xa _ _).1 hxs x hx'⟩
  simp only[Int.natCast_add,Int.add_mul]at hβ
  show W.call 146 [zbJ sig ms ctx, .agg [.int k, .int h, .vec .plain (some 3) (Zg xs)]] []=_
  rw[C,zhk]
  by_cases hk1:k=1
  ·subst hk1
   obtain⟨a,b,rfl⟩:=zrz (zop hm rfl)
   obtain⟨a1,a2⟩:=hx a (by simp)
   obtain⟨b1,b2⟩:=hx b (by simp)
   simp only[sizes]at hN hcl hβ
   have q1:=ih a ctx β (by omega) h0 hW (by omega) a1 a2 (ZZ hβ (by omega) (by omega))
   have q2:=ih b (ctx++[a]) β (by omega) h0 (hW.with a1 a2) (by simp;omega) b1 b2 (ZZ hβ (by omega) (by omega))
   have q3:=ztK sig ms zvo 1 h a b ctx (by omega) q1 (fun _=>q2)
   rw[zwt]
   simp[q3]
  ·by_cases hk2:k=2
   ·subst hk2
    have hD:=(zfO sig ms ctx h true hh (by have:=hW.sl;omega)).p (by simp[Zm,below,Zv]) (by simp[below,Zm])
    rw[zkV]
    simp only[if_neg hk1,if_true]
    cases hd:X9 sig h true with
    |none=>
     rw[hd]at hD
     simp only[Option.getD_none]at hD
     simp[hD]
    |some t=>
     rw[hd]at hD
     simp only[Option.getD_some]at hD
     obtain⟨d,hdm,hdt⟩: ∃d∈sig,d.t=t:=by
      unfold X9 at hd
      split at hd
      ·split at hd
       ·cases hd;exact⟨_,List.getElem_mem _,rfl⟩
       ·cases hd
      ·cases hd
     obtain⟨s1,s2⟩:=hW.s d hdm
     rw[hdt]at s1 s2
     have hS:=(zgt sig ms (zla sig ms (sizes xs)) xs ctx t β (Nat.le_refl _) h0 hW (by omega) hx s1 s2 (ZZ hβ (by omega) (by omega))).p (by simp[Zm,below,Zv]) (by simp[below,Zm])
     by_cases he:(YB sig ms xs ctx t).2=0
     ·by_cases hk0:(YB sig ms xs ctx t).1.k=0
      ·simp[hD,←Zb,hS,he,hk0]
      ·simp[hD,←Zb,hS,he,hk0]
     ·simp[hD,←Zb,hS,he]
   ·rw[zkV]
    simp[hk1,hk2]
theorem zbL(ctx:List T)(m a:T)(hI:In sig ms ctx [m,a]):Ev 30 [.vec .plain (some 4) (Yo sig), .vec .plain (some 5) (ZH ms), .vec .plain (some 3) (Zg ctx),enc m,enc a] (.int (YW sig ms ctx m a)):=by
 have hl:=hI.l.1
 simp only[sizes]at hl
 have h1:=(zmY sig ms ctx [m,a] (fun d hd=>by have:=(hI.s d hd).1;omega) (by have:=hI.sl;omega) (fun d hd=>by have:=(hI.m d hd).1;omega) (by have:=hI.ml;omega) (by have:=hI.c.1;omega) (by have:=hI.l.1;omega)).p (by simp[Zm,below,Zv])
 simp only[QA,Jv]at h1
 unfold Ev YW
 rw[C,Zb m,Zb a,zoo,←Zb m,←Zb a,h1]
 cases hm:zi4 sig ms ctx [m,a]with
 |false=>simp
 |true=>
  obtain⟨o1,o2⟩:=hI.ok hm
  obtain⟨m1,m2⟩:=o2 m (by simp)
  obtain⟨a1,a2⟩:=o2 a (by simp)
  have hmz:=Yu m1
  have hcl:=(zbK.1 hm).1
  have h2:=(zla sig ms m.size m ctx a 1152921504606846976 (Nat.le_refl _) (by omega) o1 (by omega) m1 m2 a1 a2 (by unfold ZT;omega)).p (by simp[Zm,below,Zv])
  simp[h2]
theorem zeO(ctx:List T)(a:T)(hI:In sig ms ctx [a]):Ev 97 [.vec .plain (some 4) (Yo sig), .vec .plain (some 5) (ZH ms), .vec .plain (some 3) (Zg ctx),enc a] (.int (zbI sig ms ctx a)):=by
 have hl:=hI.l.1
 simp only[sizes]at hl
 have h1:=(zmY sig ms ctx [a] (fun d hd=>by have:=(hI.s d hd).1;omega) (by have:=hI.sl;omega) (fun d hd=>by have:=(hI.m d hd).1;omega) (by have:=hI.ml;omega) (by have:=hI.c.1;omega) (by have:=hI.l.1;omega)).p (by simp[Zm,below,Zv])
 simp only[QA,Jv]at h1
 unfold Ev zbI
 rw[C,Zb a,zon,←Zb a,h1]
 cases hm:zi4 sig ms ctx [a]with
 |false=>simp
 |true=>
  obtain⟨o1,o2⟩:=hI.ok hm
  obtain⟨a1,a2⟩:=o2 a (by simp)
  have hmz:=Yu a1
  have hcl:=(zbK.1 hm).1
  have h2:=(zwu sig ms a.size a ctx 1152921504606846976 (Nat.le_refl _) (by omega) o1 (by omega) a1 a2 (by unfold ZT;omega)).p (by simp[Zm,below,Zv])
  simp[h2]
end
end Go.Proofs.CL
namespace Go.Proofs.CL
open Go Go.AM
set_option maxRecDepth 20000
theorem zpZ(O:Oracle)(l0:(List V))(l1:(List V))(l2:(List V))(l3:(List V)):Ze Tryz.prog cfg O 106 [.vec .plain (some 4) l0, .vec .plain (some 5) l1, .vec .plain (some 3) l2, .vec .plain (some 3) l3] []=
 Za (Zj O 77 [V.vec .plain none [V.vec .plain (some 3) l2,V.vec .plain (some 3) l3]]) fun r1=>Yi (some 3) r1 fun l2_1=>Za (O.call
 102 [V.vec .plain (some 3) l3,V.fn 149 [] [V.cptr none (V.vec .plain (some 4) l0),V.cptr none (V.vec .plain (some 5) l1),V.cptr none (V.vec .plain
 (some 3) l2_1),V.cptr none (V.vec .plain (some 3) l2)]] []) fun r3=>Zx r3.fst (fun v4=>ZG v4 fun c5=>Zd c5 fun v6 c7=>Zl v6 fun n8=>Zd c7 fun v9 c10=>
 Zl v9 fun n11=>Zn c10 (some (Out.ret (V.int n11),[]))) fun p12=>none:=by kernel_rfl
theorem zmq(O:Oracle)(l0:(List V))(l1:(List V)):Ze Tryz.prog cfg O 104 [.vec .plain (some 4) l0, .vec .plain (some 5) l1] []=
 bc (decide ((↑l1.length:Int)>40)) (some (Out.ret (V.tup [V.int 0,V.int 4]),[])) (Za (O.call 147 [V.vec .plain (some 5) l1] [Res.box [V.int 0],
 Res.box [V.int 0]]) fun r1=>Zx r1.fst (fun v2=>zg4 v2 fun g3 a4 b5=>Za (O.call g3 (a4++[V.yld (List.length r1.snd)]++b5) (r1.snd++[Res.loop 104 6
 [V.ref 0 0,V.ref 1 0,V.cptr none (V.vec .plain (some 4) l0)] LSt.ready none])) fun r6=>Zx r6.fst (fun v7=>Z3 r6.snd (List.length r1.snd) fun x8=>Ya x8 fun f9 k10
 vs11 s12 p13=>Qv s12 p13 (Z3 (List.set r6.snd (List.length r1.snd) Res.dead) 0 fun x14=>ZI x14 fun c15=>gd (decide (1≤c15.length)&&true) (Z3 ((List.set r6.snd
 (List.length r1.snd) Res.dead).set 0 (Res.box (setCells c15 0 [V.int 0]))) 1 fun x16=>ZI x16 fun c17=>gd (decide (1≤c17.length)&&true) (Z3 (((List.set r6.snd
 (List.length r1.snd) Res.dead).set 0 (Res.box (setCells c15 0 [V.int 0]))).set 1 (Res.box (setCells c17 0 [V.int 0]))) 0 fun x18=>ZI x18 fun c19=>gd (decide (1≤
 c19.length)&&true) (Z3 (((List.set r6.snd (List.length r1.snd) Res.dead).set 0 (Res.box (setCells c15 0 [V.int 0]))).set 1 (Res.box (setCells c17 0 [V.int 0]))) 1 fun x20=>
 ZI x20 fun c21=>gd (decide (1≤c21.length)&&true) (gd (below 0 (V.tup [Zt (AM.partOf c19 0 none),Zt (AM.partOf c21 0 none)])&&Zu 0 []) (some (Out.ret
 (V.tup [Zt (AM.partOf c19 0 none),Zt (AM.partOf c21 0 none)]),[]))))))) (Z3 (List.set r6.snd (List.length r1.snd) Res.dead) 0 fun x22=>ZI x22 fun c23=>gd
 (decide (1≤c23.length)&&true) (Z3 (List.set r6.snd (List.length r1.snd) Res.dead) 1 fun x24=>ZI x24 fun c25=>gd (decide (1≤c25.length)&&true) (gd (below 0 (V.tup
 [Zt (AM.partOf c23 0 none),Zt (AM.partOf c25 0 none)])&&Zu 0 []) (some (Out.ret (V.tup [Zt (AM.partOf c23 0 none),Zt (AM.partOf c25 0 none)]),[]))))) fun
 i26=>none) fun p27=>none) fun p28=>none):=by kernel_rfl
theorem zi9(O:Oracle)(q:Nat)(sg ov ctx ar:List V)(k h:Int)(p:Bool)(st:St):X7 Tryz.prog cfg O q 104 6 [.ref 0 0, .ref 1 0, .cptr none (.vec .plain (some 4) sg)] [.vec .plain (some 5) ov, .agg [.vec .plain (some 3) ctx, .int k, .int h, .vec .plain (some 3) ar, .bool p]] st=
 Z3 st q fun x1=>Ya x1 fun f2 k3 vs4 s5 p6=>zaX s5 p6 (Za (Zj O 148 [V.vec .plain (some 4) sg,V.vec .plain (some 5) ov,V.agg [V.vec .plain (some 3)
 ctx,V.int k,V.int h,V.vec .plain (some 3) ar,V.bool p]]) fun r7=>Zl r7 fun n8=>bc (n8 !=0) (Z3 (List.set st q (Res.loop f2 k3 vs4 LSt.busy none)) 0 fun x9=>ZI
 x9 fun c10=>gd (decide (1≤c10.length)&&true) (Z3 ((List.set st q (Res.loop f2 k3 vs4 LSt.busy none)).set 0 (Res.box (setCells c10 0 [V.int (↑ov.length:Int)]))) 1 fun x11
 =>ZI x11 fun c12=>gd (decide (1≤c12.length)&&true) (Z3 (((List.set st q (Res.loop f2 k3 vs4 LSt.busy none)).set 0 (Res.box (setCells c10 0 [V.int (↑ov.length:
 Int)]))).set 1 (Res.box (setCells c12 0 [V.int n8]))) q fun x13=>Ya x13 fun f14 k15 vs16 s17 p18=>YZ s17 (some (false,(((List.set st q (Res.loop f2 k3 vs4 LSt.busy
 none)).set 0 (Res.box (setCells c10 0 [V.int (↑ov.length:Int)]))).set 1 (Res.box (setCells c12 0 [V.int n8]))).set q (Res.loop f14 k15 vs16 LSt.done (some Ex.ret))))))) (Z3
 (List.set st q (Res.loop f2 k3 vs4 LSt.busy none)) q fun x19=>Ya x19 fun f20 k21 vs22 s23 p24=>YZ s23 (some (true,(List.set st q (Res.loop f2 k3 vs4 LSt.busy
 none)).set q (Res.loop f20 k21 vs22 LSt.ready none))))):=by kernel_rfl
theorem zdI(O:Oracle)(l0:(List V))(g1:Nat)(l2:(List V))(l3:(List V))(st:St):Ze Tryz.prog cfg O 102 [.vec .plain (some 3) l0, .fn g1 l2 l3] st=
 bc (decide ((↑l0.length:Int)>40)) (Yt (List.length st) (V.tup [V.int 0,V.int 4]) st) (Za (O.loop 102 4 [V.int 0,V.fn g1 l2 l3,V.vec .plain (some 3)
 l0,V.int (↑l0.length:Int)] st) fun r1=>Y8 r1.fst none (Zd r1.snd.fst fun v2 c3=>Zl v2 fun n4=>Zd c3 fun v5 c6=>Zl v5 fun n7=>Zn c6 (Yt
 (List.length st) (V.tup [V.int n4,V.int n7]) r1.snd.snd)) (fun i8=>bc (i8.beq 0) (Zn r1.snd.fst (Yt (List.length st) (V.tup [V.int 0,V.int 0]) r1.snd.snd)) none) fun v9=>
 none):=by kernel_rfl
theorem Jl(O:Oracle)(n0:Int)(g1:Nat)(l2:(List V))(l3:(List V))(l4:(List V))(n5:Int)(st:St):Z1 Tryz.prog cfg O 102 4 [.int n0, .fn g1 l2 l3, .vec .plain (some 3) l4, .int n5] st=
 bc (decide (n0<n5)) (gd (decide (0≤n0)&&decide (n0<(↑l4.length:Int))) (Zc [CT.int,CT.int,CT.slice (some 3)] (ZA l4 n0) fun n1 n2 l3_1=>bc (cfg.pure g1)
 (Za (Zj O g1 (l2++[V.int n0,V.agg [V.int n1,V.int n2,V.vec .plain (some 3) l3_1]]++l3)) fun r4=>Zl r4 fun n5_1=>bc (n5_1 !=0) (some (Ex.ret,[V.int n0,V.int
 n5_1],st)) (O.2 102 4 [V.int (IntKind.i64.wrap (n0+1)),V.fn g1 l2 l3,V.vec .plain (some 3) l4,V.int n5] st)) (Za (O.call g1 (l2++[V.int n0,V.agg
 [V.int n1,V.int n2,V.vec .plain (some 3) l3_1]]++l3) st) fun r6=>Zx r6.fst (fun v7=>Zl v7 fun n8=>bc (n8 !=0) (some (Ex.ret,[V.int n0,V.int n8],r6.snd)) (O.2
 102 4 [V.int (IntKind.i64.wrap (n0+1)),V.fn g1 l2 l3,V.vec .plain (some 3) l4,V.int n5] r6.snd)) fun p9=>none))) (some (Ex.exit 0,[],st)):=by kernel_rfl
theorem zmr(O:Oracle)(n0:Int)(n1:Int)(n2:Int)(l3 sg ms all ar:(List V))(st:St):Ze Tryz.prog cfg O 149 [.int n0, .agg [.int n1, .int n2, .vec .plain (some 3) l3], .cptr none (.vec .plain (some 4) sg), .cptr none (.vec .plain (some 5) ms), .cptr none (.vec .plain (some 3) all), .cptr none (.vec .plain (some 3) ar)] st=
 gd (true&&decide (0≤IntKind.i64.wrap ((↑ar.length:Int)+n0))&&decide (IntKind.i64.wrap ((↑ar.length:Int)+n0)≤(↑all.length:Int))) (Za (Zj O 97
 [V.vec .plain (some 4) sg,V.vec .plain (some 5) ms,V.vec .plain (some 3) (List.drop 0 (List.take (IntKind.i64.wrap ((↑ar.length:Int)+n0)).toNat all)),V.agg [V.int n1,V.int
 n2,V.vec .plain (some 3) l3]]) fun r1=>Zl r1 fun n2=>Yt (List.length st) (V.int n2) st):=by kernel_rfl
theorem zbM(O:Oracle)(l0:(List V))(st:St):Ze Tryz.prog cfg O 147 [.vec .plain (some 5) l0] st=
 Yt (List.length st) (V.fn 181 [] [V.cptr none (V.vec .plain (some 5) l0)]) st:=by kernel_rfl
theorem zor(O:Oracle)(l0:(List V))(l1:(List V))(l2:(List V))(n3:Int)(n4:Int)(l5:(List V))(b6:Bool):Ze Tryz.prog cfg O 148 [.vec .plain (some 4) l0, .vec .plain (some 5) l1, .agg [.vec .plain (some 3) l2, .int n3, .int n4, .vec .plain (some 3) l5, .bool b6]] []=
 Za (Zj O 106 [V.vec .plain (some 4) l0,V.vec .plain (some 5) l1,V.vec .plain (some 3) [],V.vec .plain (some 3) l2]) fun r1=>Zl r1 fun n2=>bc (n2 !=0)
 (some (Out.ret (V.int n2),[])) (bc (n3 !=2) (some (Out.ret (V.int 1),[])) (bc b6 (bc (decide ((↑l2.length:Int)>0)) (some (Out.ret (V.int 1),[])) (Za (Zj O
 97 [V.vec .plain (some 4) l0,V.vec .plain (some 5) l1,V.vec .plain (some 3) l2,V.agg [V.int n3,V.int n4,V.vec .plain (some 3) l5]]) fun r3=>Zl r3 fun n4=>
 some (Out.ret (V.int n4),[]))) (Za (Zj O 97 [V.vec .plain (some 4) l0,V.vec .plain (some 5) l1,V.vec .plain (some 3) l2,V.agg [V.int n3,V.int n4,V.vec .plain
 (some 3) l5]]) fun r5=>Zl r5 fun n6=>some (Out.ret (V.int n6),[])))):=by kernel_rfl
theorem zaQ(O:Oracle)(q:Nat)(xs:List V)(st:St):Ze Tryz.prog cfg O 181 [.yld q, .cptr none (.vec .plain (some 5) xs)] st=
 Za (O.loop 181 1 [V.int 0,V.cptr none (V.vec .plain (some 5) xs),V.yld q,V.vec .plain (some 5) xs,V.int (↑xs.length:Int)] st) fun r1=>Y8
 r1.fst none (Zn r1.snd.fst (Yt (List.length st) (V.tup []) r1.snd.snd)) (fun i2=>bc (i2.beq 0) (Zn r1.snd.fst (Yt (List.length st) (V.tup []) r1.snd.snd)) none) fun v3
 =>none:=by kernel_rfl
theorem Qb(O:Oracle)(q:Nat)(i n:Int)(xs ys:List V)(st:St):Z1 Tryz.prog cfg O 181 1 [.int i, .cptr none (.vec .plain (some 5) xs), .yld q, .vec .plain (some 5) ys, .int n] st=
 bc (decide (i<n)) (gd (decide (0≤i)&&decide (i<(↑ys.length:Int))) (Zc [CT.slice (some 3),CT.int,CT.int,CT.slice (some 3),CT.bool] (ZA ys i) fun l1 n2 n3 l4
 b5=>gd (true&&decide (0≤i)&&decide (i≤(↑xs.length:Int))) (gd (decide (i=i)&&(some (V.int i)).isSome) (Z3 st q fun x6=>Ya x6 fun f7 k8 vs9 s10 p11=>Qv
 s10 p11 (Za (O.round q f7 k8 vs9 [V.vec .plain (some 5) (List.drop 0 (List.take i.toNat xs)),V.agg [V.vec .plain (some 3) l1,V.int n2,V.int n3,V.vec .plain (some 3) l4,
 V.bool b5]] st) fun r12=>bc (!r12.fst) (some (Ex.ret,[],r12.snd)) (O.2 181 1 [V.int (IntKind.i64.wrap (i+1)),V.cptr none (V.vec .plain (some 5)
 xs),V.yld q,V.vec .plain (some 5) ys,V.int n] r12.snd)) none fun i13=>none)))) (some (Ex.exit 0,[],st)):=by kernel_rfl
end Go.Proofs.CL
namespace Go.Ama
open Go Go.AM
structure Cal where
 f:Int
 ext:List T
 theta:List T
 arg:T
structure Cl where
 metas:List M
 theta:List T
 p:T
 calls:List Cal
 r:T
structure Fun1 where
 name:Bytes
 schema:List T
 delta:List M
 psi:List T
 a:T
 phi:List T
 b:T
 total:Bool
 clauses:List Cl
def XI(c:Cal):V:= .agg [.int c.f, .vec .plain (some 3) (Zg c.ext), .vec .plain (some 3) (Zg c.theta), .int c.arg.k, .int c.arg.h, .vec .plain (some 3) (Zg c.arg.args)]
def Qk(l:List Cal):List V:=l.map XI
def Q7(c:Cl):V:= .agg [.vec .plain (some 5) (ZH c.metas), .vec .plain (some 3) (Zg c.theta), .int c.p.k, .int c.p.h, .vec .plain (some 3) (Zg c.p.args), .vec .plain (some 6) (Qk c.calls), .int c.r.k, .int c.r.h, .vec .plain (some 3) (Zg c.r.args)]
def zaR(l:List Cl):List V:=l.map Q7
def Ql(f:Fun1):V:= .agg [.str (ba f.name), .vec .plain (some 3) (Zg f.schema), .vec .plain (some 5) (ZH f.delta), .vec .plain (some 3) (Zg f.psi), .int f.a.k, .int f.a.h, .vec .plain (some 3) (Zg f.a.args), .vec .plain (some 3) (Zg f.phi), .int f.b.k, .int f.b.h, .vec .plain (some 3) (Zg f.b.args), .bool f.total, .vec .plain (some 9) (zaR f.clauses)]
def QC(l:List Fun1):List V:=l.map Ql
@[simp] theorem ZW(l:List Cal):(Qk l).length=l.length:=by simp[Qk]
@[simp] theorem zaA(l:List Cl):(zaR l).length=l.length:=by simp[zaR]
@[simp] theorem Y5(l:List Fun1):(QC l).length=l.length:=by simp[QC]
theorem zfR{l:List Cal}{i:Nat}(h:i<l.length):ZA (Qk l) (i:Int)=XI l[i]:=by
 simp[ZA,Qk,List.getD_eq_getElem?_getD,List.getElem?_map,h]
theorem zqa{l:List Cl}{i:Nat}(h:i<l.length):ZA (zaR l) (i:Int)=Q7 l[i]:=by
 simp[ZA,zaR,List.getD_eq_getElem?_getD,List.getElem?_map,h]
theorem zco{l:List Fun1}{i:Nat}(h:i<l.length):ZA (QC l) (i:Int)=Ql l[i]:=by
 simp[ZA,QC,List.getD_eq_getElem?_getD,List.getElem?_map,h]
theorem JI{α:Type}{e:α→V}{n:Nat}(h: ∀a,below n (e a)=true): ∀l:List α,Zm n (l.map e)=true
 |[]=>rfl
 |a::l=>by simp[Zm,h a,JI h l]
@[simp] theorem zms(n:Nat)(c:Cal):below n (XI c)=true:=by simp[XI,below,Zm]
@[simp] theorem zvp(n:Nat)(l:List Cal):Zm n (Qk l)=true:=JI (zms n) l
@[simp] theorem zqb(n:Nat)(c:Cl):below n (Q7 c)=true:=by simp[Q7,below,Zm]
@[simp] theorem zwv(n:Nat)(l:List Cl):Zm n (zaR l)=true:=JI (zqb n) l
@[simp] theorem zqc(n:Nat)(f:Fun1):below n (Ql f)=true:=by simp[Ql,below,Zm]
@[simp] theorem zww(n:Nat)(l:List Fun1):Zm n (QC l)=true:=JI (zqc n) l
attribute [simp] zkQ zkN Zv zkR
theorem zeP{l:List V}{v:V}(h:v∈l):Xr v≤ZY l:=by
 induction l with
 |nil=>cases h
 |cons a l ih=>
  simp only[ZY]
  rcases List.mem_cons.1 h with rfl|h
  ·omega
  ·have:=ih h;omega
theorem zdg: ∀l:List V,l.length≤ZY l
 |[]=>Nat.zero_le _
 |v::l=>by
  have:=zdg l
  have:1≤Xr v:=by cases v<;>simp[Xr]
  simp only[List.length_cons,ZY];omega
theorem zbN(t:T):Xr (enc t)=1+1+(ZY (Zg t.args)+1)+1:=by
 rw[Zb];simp only[Xr,ZY];omega
theorem zxt(m:M):4*(sizes m.ctx+m.t.size)≤Xr (zaw m):=by
 have h1:=Qi m.ctx
 have h2:=zaF m.t
 rw[zbN]at h2
 simp only[zaw,Xr,ZY];omega
theorem zwx{l:List M}{m:M}(h:m∈l):4*(sizes m.ctx+m.t.size)≤ZY (ZH l):=
 Nat.le_trans (zxt m) (zeP (List.mem_map_of_mem h))
theorem zxu(d:D):4*d.t.size≤Xr (zeM d):=by
 have h2:=zaF d.t
 rw[zbN]at h2
 simp only[zeM,Xr,ZY];omega
theorem zwy{l:List D}{d:D}(h:d∈l):4*d.t.size≤ZY (Yo l):=
 Nat.le_trans (zxu d) (zeP (List.mem_map_of_mem h))
theorem ztL(c:Cal):4*(sizes c.ext+sizes c.theta+c.arg.size)≤Xr (XI c):=by
 have h1:=Qi c.ext
 have h3:=Qi c.theta
 have h2:=zaF c.arg
 rw[zbN]at h2
 simp only[XI,Xr,ZY];omega
theorem zwz(c:Cl):ZY (ZH c.metas)+4*(sizes c.theta+c.p.size+c.r.size)+ZY (Qk c.calls)≤Xr (Q7 c):=by
 have h1:=Qi c.theta
 have h2:=zaF c.p
 have h3:=zaF c.r
 rw[zbN]at h2 h3
 simp only[Q7,Xr,ZY];omega
theorem zw0(f:Fun1):ZY (ZH f.delta)+4*(sizes f.schema+sizes f.psi+f.a.size+sizes f.phi+f.b.size)+ZY (zaR f.clauses)≤Xr (Ql f):=by
 have h1:=Qi f.schema
 have h2:=Qi f.psi
 have h3:=Qi f.phi
 have h4:=zaF f.a
 have h5:=zaF f.b
 rw[zbN]at h4 h5
 simp only[Ql,Xr,ZY];omega
def zrO(l:List D):Bool:=decide (l.length≤30)&&l.all fun d=>Q6 1000 80 d.t
def zmt(l:List M):Bool:=decide (l.length≤30)&&l.all fun m=>XF 500 80 m.ctx&&Q6 500 80 m.t
def znc(sig:List D)(ms:List M)(ctx:List T):Bool:=zrO sig&&(zmt ms&&XF 500 80 ctx)
def JJ(c:Cal):Bool:=XF 300 60 c.ext&&(XF 300 60 c.theta&&Q6 300 60 c.arg)
def zbn(c:Cl):Bool:=zmt c.metas&&(XF 300 60 c.theta&&(Q6 300 60 c.p&&(Q6 300 60 c.r&&(decide (c.calls.length≤50)&&c.calls.all JJ))))
def zcp(f:Fun1):Bool:=zmt f.delta&&(XF 300 60 f.schema&&(XF 300 60 f.psi&&(XF 300 60 f.phi&&(Q6 300 60 f.a&&(Q6 300 60 f.b&&(decide (f.clauses.length≤50)&&f.clauses.all zbn))))))
section
variable{R:Type}
@[simp] theorem zxv(c:Cal)(K:Int→List V→List V→Int→Int→List V→Option R):Zc (R:=R) [CT.int,CT.slice (some 3),CT.slice (some 3),CT.int,CT.int,CT.slice (some 3)] (XI c) K=K c.f (Zg c.ext) (Zg c.theta) c.arg.k c.arg.h (Zg c.arg.args):=rfl
@[simp] theorem zyO(c:Cl)(K:List V→List V→Int→Int→List V→List V→Int→Int→List V→Option R):Zc (R:=R) [CT.slice (some 5),CT.slice (some 3),CT.int,CT.int,CT.slice (some 3),CT.slice (some 6),CT.int,CT.int,CT.slice (some 3)] (Q7 c) K=K (ZH c.metas) (Zg c.theta) c.p.k c.p.h (Zg c.p.args) (Qk c.calls) c.r.k c.r.h (Zg c.r.args):=rfl
@[simp] theorem zyP(m:M)(K:List V→Option R):YP (zaw m) (fun c=>gd (decide (1≤c.length)) (Yi (some 3) (AM.partOf c 0 none) K))=K (Zg m.ctx):=by
 show gd true (Yi (some 3) (.vec .plain (some 3) (Zg m.ctx)) K)=_
 simp
@[simp] theorem zyQ(m:M)(K:Int→Int→List V→Option R):YP (zaw m) (fun c=>gd (decide (4≤c.length)) (onCells (R:=R) [CT.int,CT.int,CT.slice (some 3)] (List.take 3 (List.drop 1 c)) K))=K m.t.k m.t.h (Zg m.t.args):=rfl
end
theorem YR(c:Cal):XI c= .agg [.int c.f, .vec .plain (some 3) (Zg c.ext), .vec .plain (some 3) (Zg c.theta), .int c.arg.k, .int c.arg.h, .vec .plain (some 3) (Zg c.arg.args)]:=rfl
theorem Y2(c:Cl):Q7 c= .agg [.vec .plain (some 5) (ZH c.metas), .vec .plain (some 3) (Zg c.theta), .int c.p.k, .int c.p.h, .vec .plain (some 3) (Zg c.p.args), .vec .plain (some 6) (Qk c.calls), .int c.r.k, .int c.r.h, .vec .plain (some 3) (Zg c.r.args)]:=rfl
theorem Z8(f:Fun1):Ql f= .agg [.str (ba f.name), .vec .plain (some 3) (Zg f.schema), .vec .plain (some 5) (ZH f.delta), .vec .plain (some 3) (Zg f.psi), .int f.a.k, .int f.a.h, .vec .plain (some 3) (Zg f.a.args), .vec .plain (some 3) (Zg f.phi), .int f.b.k, .int f.b.h, .vec .plain (some 3) (Zg f.b.args), .bool f.total, .vec .plain (some 9) (zaR f.clauses)]:=rfl
end Go.Ama
namespace Go.Ama
open Go Go.AM
def ZR:Nat→List Int→Int×Int
 |_,[]=>(0,0)
 |i,e::r=>if e≠0 then(i,e)else ZR (i+1) r
def zeQ(l:List Int):Int×Int:=if 40<l.length then(0,4)else ZR 0 l
noncomputable def zcq(sig:List D)(ms:List M)(ar ctx:List T):List Int:=(List.range ctx.length).map fun i=>zbI sig ms ((ar++ctx).take (ar.length+i)) (ctx.getD i T0)
noncomputable def ztM(sig:List D)(ms:List M)(ar ctx:List T):Int:=(zeQ (zcq sig ms ar ctx)).2
noncomputable def zdh(sig:List D)(over:List M)(m:M):Int:=
 if ztM sig over [] m.ctx≠0 then ztM sig over [] m.ctx
 else if m.t.k≠2∨(m.param=true∧0<m.ctx.length)then 1 else zbI sig over m.ctx m.t
noncomputable def Yx(sig:List D)(ms:List M):List Int:=(List.range ms.length).map fun i=>zdh sig (ms.take i) (ms.getD i ⟨[],T0,false⟩)
noncomputable def zcG(sig:List D)(ms:List M):Int×Int:=zeQ (Yx sig ms)
theorem zqd{α:Type}{L:Int→Option α}{es:List Int}{e0:α}{e1:Int→Int→α}(hstep: ∀(i:Nat) (h:i<es.length),L i=if es[i]≠0 then some (e1 i es[i])else L ((i+1:Nat):Int))(hend:L (es.length:Nat)=some e0):
  L 0=some (if(ZR 0 es).2=0 then e0 else e1 (ZR 0 es).1 (ZR 0 es).2):=by
 have: ∀d i:Nat,i+d=es.length→L i=some (if(ZR i (es.drop i)).2=0 then e0 else e1 (ZR i (es.drop i)).1 (ZR i (es.drop i)).2):=by
  intro d
  induction d with
  |zero=>
   intro i hi
   have:i=es.length:=by omega
   subst this
   rw[hend,List.drop_length];rfl
  |succ d ih=>
   intro i hi
   have hlt:i<es.length:=by omega
   rw[hstep i hlt,List.drop_eq_getElem_cons hlt]
   by_cases h:es[i]=0
   ·have e:ZR i (es[i]::es.drop (i+1))=ZR (i+1) (es.drop (i+1)):=by simp[ZR,h]
    rw[if_neg (by simpa using h),e]
    exact ih (i+1) (by omega)
   ·have e:ZR i (es[i]::es.drop (i+1))=((i:Int),es[i]):=by simp[ZR,h]
    rw[if_pos h,e]
    simp[h]
 have:=this es.length 0 (by omega)
 rwa [List.drop_zero]at this
section
variable{σ:Type}(nx:Int→T→σ→σ)
mutual
def XG:T→Int→σ→σ
 | .mk k h as_,n,s=>Qd as_ (bindsB k) n (nx n (.mk k h as_) s)
def Qd:List T→Bool→Int→σ→σ
 |[],_,_,s=>s
 |a::as_,bd,n,s=>Qd as_ bd n (XG a (if bd&&as_.isEmpty then n+1 else n) s)
end
end
def zbo(b:Int):List Int→List T→List Int×Bool
 |vars,[]=>(vars,true)
 |vars,t::r=>if t.k≠4∨0<t.args.length∨t.h<0∨b≤t.h∨t.h∈vars then([],false)else zbo b (vars++[t.h]) r
def Yf(l:List T)(b:Int):List Int×Bool:=zbo b [] l
def zhn(n:Int)(t:T)(s:Bool):Bool:=if t.k=6 then s&&(Yf t.args n).2 else s
def XA(t:T)(n:Int):Bool:=XG zhn t n true
def Jr(l:List Int):List V:=l.map V.int
@[simp] theorem X5(l:List Int):(Jr l).length=l.length:=by simp[Jr]
@[simp] theorem zwU(a b:List Int):Jr (a++b)=Jr a++Jr b:=by simp[Jr]
@[simp] theorem zrP(n:Nat)(l:List Int):Zm n (Jr l)=true:=JI (fun _=>rfl) l
theorem ziA{l:List Int}{i:Nat}(h:i<l.length):ZA (Jr l) (i:Int)= .int l[i]:=by
 simp[ZA,Jr,List.getD_eq_getElem?_getD,List.getElem?_map,h]
end Go.Ama
namespace Go.Ama
open Go Go.AM
theorem In.sub{sig:List D}{ms:List M}{all l:List T}(h:In sig ms all l){ctx:List T}(hc: ∀x∈ctx,x∈all)(hs:sizes ctx≤sizes all){r:List T}(hr: ∀x∈r,x∈all)(hrs:sizes r≤sizes all):In sig ms ctx r:=
 ⟨h.s,h.m,⟨Nat.le_trans hs h.c.1,fun x hx=>h.c.2 x (hc x hx)⟩,⟨Nat.le_trans hrs h.c.1,fun x hx=>h.c.2 x (hr x hx)⟩,h.sl,h.ml⟩
end Go.Ama
namespace Go.Proofs.CL
open Go Go.AM Go.Ama
theorem zqe{g:Nat}(hp:cfg.pure g=false)(xs:List T)(es:List Int)(hlen:es.length=xs.length)(hs:xs.length≤1099511627776)(b:List V)(st:St)(hg: ∀(i:Nat) (h:i<xs.length),W.call g ([.int (i:Int),enc xs[i]]++b) st=some (.ret (.int (es[i]'(by omega))),st)):
  W.call 102 [.vec .plain (some 3) (Zg xs), .fn g [] b] st=some (.ret (.tup [.int (zeQ es).1, .int (zeQ es).2]),st):=by
 have hl:=zqd (L:=fun i=>W.loop 102 4 [.int i, .fn g [] b, .vec .plain (some 3) (Zg xs), .int xs.length] st) (es:=es) (e0:=(Ex.exit 0,[],st)) (e1:=fun i e=>(Ex.ret,[V.int i,V.int e],st))
  (fun i hi=>by
   have hi':i<xs.length:=by omega
   have hlt:(i:Int)<xs.length:=by omega
   have hw:IntKind.i64.wrap ((i:Int)+1)=((i+1:Nat):Int):=by rw[Zq ⟨by omega,by omega⟩];omega
   have h1:=hg i hi'
   simp only[List.cons_append,List.nil_append]at h1
   show W.loop _ _ _ _=_
   rw[L,Jl,hw,ZC hi',Zh,hp]
   simp only[hlt,Int.natCast_nonneg,decide_true,Zr,Zo,Bool.and_self,Zz,zbX,←Zb,List.nil_append,List.cons_append,h1,Zf,Z9,Z2]
   by_cases he:es[i]=0
   ·simp[he]
   ·simp[he])
  (by
   show W.loop _ _ _ _=_
   rw[L,Jl,hlen]
   simp)
 have hl':W.loop 102 4 [.int 0, .fn g [] b, .vec .plain (some 3) (Zg xs), .int xs.length] st=_:=hl
 unfold zeQ
 rw[C,zdI,Zh,hl',hlen]
 by_cases h40:40<xs.length
 ·have:(xs.length:Int)>40:=by omega
  simp[h40,this,Zy]
 ·have: ¬(xs.length:Int)>40:=by omega
  by_cases he:(ZR 0 es).2=0
  ·have hz:(ZR 0 es).1=0:=by
    have: ∀(l:List Int) (i:Nat),(ZR i l).2=0→(ZR i l).1=0:=by
     intro l
     induction l with
     |nil=>intro i _;rfl
     |cons e l ih=>
      intro i h
      simp only[ZR]at h⊢
      split
      ·rename_i c;rw[if_pos c]at h;exact absurd h c
      ·rename_i c;rw[if_neg c]at h;exact ih _ h
    exact this es 0 he
   simp[h40,this,he,hz,Zy]
  ·simp[h40,this,he,Zy]
theorem ztN:cfg.pure 149=false:=by kernel_rfl
theorem zvq(sig:List D)(ms:List M)(ar ctx:List T)(hI:In sig ms (ar++ctx) []):Ev 106 [.vec .plain (some 4) (Yo sig), .vec .plain (some 5) (ZH ms), .vec .plain (some 3) (Zg ar), .vec .plain (some 3) (Zg ctx)] (.int (ztM sig ms ar ctx)):=by
 have hal:=Zp (ar++ctx)
 have hI1:=hI.c.1
 simp only[List.length_append]at hal
 have hc:=(zcl ar ctx (by omega)).p (by simp[Zm,below]) (by simp[below,Xy])
 have hlen:(zcq sig ms ar ctx).length=ctx.length:=by simp[zcq]
 have hf:=zqe ztN ctx (zcq sig ms ar ctx) hlen (by omega) [.cptr none (.vec .plain (some 4) (Yo sig)), .cptr none (.vec .plain (some 5) (ZH ms)), .cptr none (.vec .plain (some 3) (Zg (ar++ctx))), .cptr none (.vec .plain (some 3) (Zg ar))] []
  (fun i hi=>by
   have hw:IntKind.i64.wrap ((ar.length:Int)+i)=((ar.length+i:Nat):Int):=by rw[Zq ⟨by omega,by omega⟩];omega
   have hmem:ctx[i]∈ar++ctx:=List.mem_append.2 (.inr (List.getElem_mem hi))
   have hT:=(zeO sig ms ((ar++ctx).take (ar.length+i)) ctx[i] (hI.sub (fun x hx=>List.mem_of_mem_take hx) (zcD _ _) (fun x hx=>by simp at hx;subst hx;exact hmem) (by simp only[sizes];exact size_le hmem))).p (by simp[Zm,below,Zv])
   have he:(zcq sig ms ar ctx)[i]'(by omega)=zbI sig ms ((ar++ctx).take (ar.length+i)) ctx[i]:=by
    simp[zcq,List.getD_eq_getElem?_getD,hi]
   have htk:List.drop 0 (List.take ((ar.length+i:Nat):Int).toNat (Zg (ar++ctx)))=Zg ((ar++ctx).take (ar.length+i)):=by
    rw[List.drop_zero,Int.toNat_natCast,QY,QY,List.map_take]
   have hle:((ar.length+i:Nat):Int)≤((Zg (ar++ctx)).length:Int):=by simp;omega
   have hge:(0:Int)≤((ar.length+i:Nat):Int):=by omega
   rw[he]
   show W.call 149 [.int (i:Int),enc ctx[i], .cptr none (.vec .plain (some 4) (Yo sig)), .cptr none (.vec .plain (some 5) (ZH ms)), .cptr none (.vec .plain (some 3) (Zg (ar++ctx))), .cptr none (.vec .plain (some 3) (Zg ar))] []=_
   rw[C,Zb ctx[i],zmr,Zh,hw,htk,←Zb ctx[i]]
   simp only[hge,hle,decide_true,Bool.and_self,Zz,hT,Zf,Z2,Zy])
 unfold Ev ztM
 rw[C,zpZ,hc]
 simp only[Zf,YQ,hf,Z9,Y1,ZE,Z2,ZN]
end Go.Proofs.CL
namespace Go.Proofs.CL
open Go Go.AM Go.Ama
theorem ztO(sig:List D)(over:List M)(m:M)(hI:In sig over m.ctx [m.t]):Ev 148 [.vec .plain (some 4) (Yo sig), .vec .plain (some 5) (ZH over),zaw m] (.int (zdh sig over m)):=by
 have hC:=(zvq sig over [] m.ctx ⟨hI.s,hI.m,by simpa using hI.c,⟨by simp[sizes],fun x hx=>by simp at hx⟩,hI.sl,hI.ml⟩).p (by simp[Zm,below,Zv])
 have hT:=(zeO sig over m.ctx m.t hI).p (by simp[Zm,below,Zv])
 simp only[Jv]at hC
 unfold Ev zdh
 rw[C,X1,zor,hC,←Zb,Zh]
 by_cases he:ztM sig over [] m.ctx=0
 ·by_cases hk:m.t.k=2
  ·cases hp:m.param with
   |false=>simp[he,hk,hp,hT]
   |true=>
    by_cases hl:0<m.ctx.length
    ·simp[he,hk,hp,hl]
    ·have h0:m.ctx.length=0:=by omega
     simp[he,hk,hp,h0,hT]
  ·simp[he,hk]
 ·simp[he]
abbrev lpD(sig:List D)(s:LSt)(p:Option Ex):Res:= .loop 104 6 [.ref 0 0, .ref 1 0, .cptr none (.vec .plain (some 4) (Yo sig))] s p
theorem zqf(sig:List D)(over:List M)(m:M)(hI:In sig over m.ctx [m.t])(a e:Int):
  W.round 2 104 6 [.ref 0 0, .ref 1 0, .cptr none (.vec .plain (some 4) (Yo sig))] [.vec .plain (some 5) (ZH over),zaw m] [.box [.int a], .box [.int e],lpD sig .ready none]=
   some (if zdh sig over m=0 then(true,[.box [.int a], .box [.int e],lpD sig .ready none])else(false,[.box [.int over.length], .box [.int (zdh sig over m)],lpD sig .done (some .ret)])):=by
 have hD:=(ztO sig over m hI).p (by simp[Zm,below,Zv])
 rw[Rd,X1,zi9,←X1]
 by_cases he:zdh sig over m=0
 ·simp[Z3,zaX,YZ,hD,he]
 ·simp[Z3,zaX,YZ,hD,he,setCells]
theorem zqg(sig:List D)(ms:List M)(hI:In sig ms [] [])(hml:ms.length≤1048576): ∀(n i:Nat),ms.length-i=n→i≤ms.length→
  W.loop 181 1 [.int (i:Int), .cptr none (.vec .plain (some 5) (ZH ms)), .yld 2, .vec .plain (some 5) (ZH ms), .int ms.length] [.box [.int 0], .box [.int 0],lpD sig .ready none]=
   some (if(ZR i ((Yx sig ms).drop i)).2=0 then(.exit 0,[],[.box [.int 0], .box [.int 0],lpD sig .ready none])else(.ret,[],[.box [.int (ZR i ((Yx sig ms).drop i)).1], .box [.int (ZR i ((Yx sig ms).drop i)).2],lpD sig .done (some .ret)])):=by
 have hlen:(Yx sig ms).length=ms.length:=by simp[Yx]
 intro n
 induction n with
 |zero=>
  intro i hn hi
  have:i=ms.length:=by omega
  subst this
  rw[L,Qb,←hlen,List.drop_length,hlen]
  simp[ZR]
 |succ n ih=>
  intro i hn hi
  have hlt:i<ms.length:=by omega
  have hlt':(i:Int)<ms.length:=by omega
  have hle':(i:Int)≤ms.length:=by omega
  have hw:IntKind.i64.wrap ((i:Int)+1)=((i+1:Nat):Int):=by rw[Zq ⟨by omega,by omega⟩];omega
  have hd:(Yx sig ms).drop i=zdh sig (ms.take i) ms[i]::(Yx sig ms).drop (i+1):=by
   rw[List.drop_eq_getElem_cons (by omega)]
   congr 1
   simp[Yx,List.getD_eq_getElem?_getD,hlt]
  obtain⟨z1,z2,z3⟩:=hI.m _ (List.getElem_mem hlt)
  have hr:=zqf sig (ms.take i) ms[i] ⟨hI.s,fun m hm=>hI.m m (List.mem_of_mem_take hm),⟨by omega,z3⟩,⟨by simp only[sizes];omega,fun x hx=>by simp at hx;subst hx;exact z2⟩,hI.sl,by simp;omega⟩ 0 0
  have htk:List.drop 0 (List.take (i:Int).toNat (ZH ms))=ZH (ms.take i):=by simp[ZH,List.map_take]
  have hmin:((ms.take i).length:Int)=i:=by simp;omega
  rw[hmin]at hr
  have hg: ∀{R:Type} (K:Res→Option R),Z3 [Res.box [.int 0], .box [.int 0],lpD sig .ready none] 2 K=K (lpD sig .ready none):=fun K=>rfl
  rw[hd,L,Qb,hw,J8 hlt,htk,ZL]
  simp only[hlt',hle',Int.natCast_nonneg,decide_true,Bool.and_self,Zz,Zr,onM,←X1,Option.isSome_some,hg,zaG,zbm,hr,Zf]
  by_cases he:zdh sig (ms.take i) ms[i]=0
  ·have e:ZR i (zdh sig (ms.take i) ms[i]::(Yx sig ms).drop (i+1))=ZR (i+1) ((Yx sig ms).drop (i+1)):=by simp[ZR,he]
   rw[e]
   simp only[he,if_true,Bool.not_true,Zo]
   exact ih (i+1) (by omega) (by omega)
  ·have e:ZR i (zdh sig (ms.take i) ms[i]::(Yx sig ms).drop (i+1))=((i:Int),zdh sig (ms.take i) ms[i]):=by simp[ZR,he]
   rw[e]
   simp[he]
theorem zrQ(sig:List D)(ms:List M)(hI:In sig ms [] []):Ev 104 [.vec .plain (some 4) (Yo sig), .vec .plain (some 5) (ZH ms)] (.tup [.int (zcG sig ms).1, .int (zcG sig ms).2]):=by
 have hlen:(Yx sig ms).length=ms.length:=by simp[Yx]
 have hL:=zqg sig ms hI hI.ml _ 0 rfl (Nat.zero_le _)
 simp only[Int.natCast_zero,List.drop_zero]at hL
 have hA:W.call 147 [.vec .plain (some 5) (ZH ms)] [.box [.int 0], .box [.int 0]]=some (.ret (.fn 181 [] [.cptr none (.vec .plain (some 5) (ZH ms))]),[.box [.int 0], .box [.int 0]]):=by
  rw[C,zbM,Zy rfl]
 unfold Ev zcG zeQ
 rw[C,zmq,ZL,hlen]
 by_cases h40:40<ms.length
 ·have:(ms.length:Int)>40:=by omega
  simp[h40,this]
 ·have h40': ¬(ms.length:Int)>40:=by omega
  have hA1:W.call 181 [.yld 2, .cptr none (.vec .plain (some 5) (ZH ms))] [.box [.int 0], .box [.int 0],lpD sig .ready none]=
    some (.ret (.tup []),if(ZR 0 (Yx sig ms)).2=0 then[.box [.int 0], .box [.int 0],lpD sig .ready none]else[.box [.int (ZR 0 (Yx sig ms)).1], .box [.int (ZR 0 (Yx sig ms)).2],lpD sig .done (some .ret)]):=by
   rw[C,zaQ,ZL,hL]
   by_cases he:(ZR 0 (Yx sig ms)).2=0
   ·simp[he,Zy]
   ·simp[he,Zy]
  simp only[h40',decide_false,Zo,hA,Zf,Z9,zhg,List.length_cons,List.length_nil,Nat.zero_add,Nat.reduceAdd,List.nil_append,List.cons_append]
  rw[hA1]
  by_cases he:(ZR 0 (Yx sig ms)).2=0
  ·have hz:(ZR 0 (Yx sig ms)).1=0:=by
    have: ∀(l:List Int) (i:Nat),(ZR i l).2=0→(ZR i l).1=0:=by
     intro l
     induction l with
     |nil=>intro i _;rfl
     |cons e l ih=>
      intro i h
      simp only[ZR]at h⊢
      split
      ·rename_i c;rw[if_pos c]at h;exact absurd h c
      ·rename_i c;rw[if_neg c]at h;exact ih _ h
    exact this _ 0 he
   simp[he,hz,h40,Z3,setCells]
   rfl
  ·simp[he,h40,Z3,setCells]
   rfl
end Go.Proofs.CL
namespace Go.Proofs.CL
open Go Go.AM
set_option maxRecDepth 20000
theorem ziB(O:Oracle)(l0:(List V))(l1:(List V)):Ze Tryz.prog cfg O 23 [.vec .plain (some 3) l0, .vec .plain (some 3) l1] []=
 Za (O.call 73 [V.vec .plain (some 3) l1,V.fn 72 [] [V.cptr none (V.vec .plain (some 3) l0)]] []) fun r1=>Zx r1.fst
 (fun v2=>Zi v2 fun b3=>some (Out.ret (V.bool !b3),[])) fun p4=>none:=by kernel_rfl
theorem zqh(O:Oracle)(l0:(List V))(l1:(List V))(l2:(List V))(l3:(List V))(l4:(List V)):Ze Tryz.prog cfg O 25 [.vec .plain (some 4) l0, .vec .plain (some 5) l1, .vec .plain (some 3) l2, .vec .plain (some 5) l3, .vec .plain (some 3) l4] []=
 bc (decide ((↑l3.length:Int)>40)) (some (Out.ret (V.int 4),[])) (bc ((↑l4.length:Int) !=(↑l3.length:Int)) (some (Out.ret (V.int 3),[])) (Za (O.call
 76 [V.vec .plain (some 3) l4] [Res.box [V.int 0]]) fun r1=>Zx r1.fst (fun v2=>zg4 v2 fun g3 a4 b5=>Za (O.call g3 (a4++[V.yld (List.length
 r1.snd)]++b5) (r1.snd++[Res.loop 25 8 [V.ref 0 0,V.cptr none (V.vec .plain (some 5) l1),V.cptr none (V.vec .plain (some 3) l2),V.cptr none (V.vec .plain (some 4)
 l0),V.cptr none (V.vec .plain (some 5) l3)] LSt.ready none])) fun r6=>Zx r6.fst (fun v7=>Z3 r6.snd (List.length r1.snd) fun x8=>Ya x8 fun f9 k10 vs11 s12 p13=>
 Qv s12 p13 (Z3 (List.set r6.snd (List.length r1.snd) Res.dead) 0 fun x14=>ZI x14 fun c15=>gd (decide (1≤c15.length)&&true) (Z3 ((List.set r6.snd (List.length
 r1.snd) Res.dead).set 0 (Res.box (setCells c15 0 [V.int 0]))) 0 fun x16=>ZI x16 fun c17=>gd (decide (1≤c17.length)&&true) (gd (below 0 (Zt (AM.partOf c17 0 none))
 &&Zu 0 []) (some (Out.ret (Zt (AM.partOf c17 0 none)),[]))))) (Z3 (List.set r6.snd (List.length r1.snd) Res.dead) 0 fun x18=>ZI x18 fun c19=>gd (decide (1≤
 c19.length)&&true) (gd (below 0 (Zt (AM.partOf c19 0 none))&&Zu 0 []) (some (Out.ret (Zt (AM.partOf c19 0 none)),[])))) fun i20=>none) fun p21=>none) fun p22
 =>none)):=by kernel_rfl
theorem zlb(O:Oracle)(q:Nat)(ms ext sg ds over:List V)(k h:Int)(xs:List V)(st:St):X7 Tryz.prog cfg O q 25 8 [.ref 0 0, .cptr none (.vec .plain (some 5) ms), .cptr none (.vec .plain (some 3) ext), .cptr none (.vec .plain (some 4) sg), .cptr none (.vec .plain (some 5) ds)] [.vec .plain (some 3) over, .agg [.int k, .int h, .vec .plain (some 3) xs]] st=
 Z3 st q fun x1=>Ya x1 fun f2 k3 vs4 s5 p6=>zaX s5 p6 (gd (decide (0≤(↑over.length:Int))&&decide ((↑over.length:Int)<(↑ds.length:Int))) (Zc
 [CT.slice (some 3),CT.int,CT.int,CT.slice (some 3),CT.bool] (ZA ds (↑over.length:Int)) fun l7 n8 n9 l10 b11=>Za (Zj O 33 [V.vec .plain (some 3) l7,V.vec
 .plain (some 3) over,V.int 0]) fun r12=>ZG r12 fun c13=>Zd c13 fun v14 c15=>Yi (some 3) v14 fun l16=>Zd c15 fun v17 c18=>Zl v17 fun n19=>Zn c18
 (bc (n19 !=0) (Z3 (List.set st q (Res.loop f2 k3 vs4 LSt.busy none)) 0 fun x20=>ZI x20 fun c21=>gd (decide (1≤c21.length)&&true) (Z3 ((List.set st q (Res.loop f2
 k3 vs4 LSt.busy none)).set 0 (Res.box (setCells c21 0 [V.int n19]))) q fun x22=>Ya x22 fun f23 k24 vs25 s26 p27=>YZ s26 (some (false,((List.set st q (Res.loop f2 k3
 vs4 LSt.busy none)).set 0 (Res.box (setCells c21 0 [V.int n19]))).set q (Res.loop f23 k24 vs25 LSt.done (some Ex.ret)))))) (Za (Zj O 26 [V.agg [V.int n8,V.int n9,
 V.vec .plain (some 3) l10],V.vec .plain (some 3) over,V.int (↑l7.length:Int)]) fun r28=>ZG r28 fun c29=>Zd c29 fun v30 c31=>Zc [CT.int,CT.int,CT.slice
 (some 3)] v30 fun n32 n33 l34=>Zd c31 fun v35 c36=>Zl v35 fun n37=>Zn c36 (bc (n37==0) (Za (Zj O 77 [V.vec .plain none
 [V.vec .plain (some 3) ext,V.vec .plain (some 3) l16]]) fun r38=>Yi (some 3) r38 fun l39=>Za (Zj O 30 [V.vec .plain (some 4) sg,V.vec .plain (some 5) ms,
 V.vec .plain (some 3) l39,V.agg [V.int k,V.int h,V.vec .plain (some 3) xs],V.agg [V.int n32,V.int n33,V.vec .plain (some 3) l34]]) fun r40=>Zl r40 fun n41=>bc (n41==
 0) (bc b11 (Za (Zj O 78 [V.agg [V.int k,V.int h,V.vec .plain (some 3) xs],V.vec .plain (some 5) ms]) fun r42=>Zi r42 fun b43=>bc (!b43) (Z3
 (List.set st q (Res.loop f2 k3 vs4 LSt.busy none)) 0 fun x44=>ZI x44 fun c45=>gd (decide (1≤c45.length)&&true) (Z3 ((List.set st q (Res.loop f2 k3 vs4 LSt.busy
 none)).set 0 (Res.box (setCells c45 0 [V.int 3]))) q fun x46=>Ya x46 fun f47 k48 vs49 s50 p51=>YZ s50 (some (false,((List.set st q (Res.loop f2 k3 vs4 LSt.busy
 none)).set 0 (Res.box (setCells c45 0 [V.int 3]))).set q (Res.loop f47 k48 vs49 LSt.done (some Ex.ret)))))) (bc (n41 !=0) (Z3 (List.set st q (Res.loop f2 k3 vs4 LSt.busy none))
 0 fun x52=>ZI x52 fun c53=>gd (decide (1≤c53.length)&&true) (Z3 ((List.set st q (Res.loop f2 k3 vs4 LSt.busy none)).set 0 (Res.box (setCells c53 0 [V.int n41]))) q
 fun x54=>Ya x54 fun f55 k56 vs57 s58 p59=>YZ s58 (some (false,((List.set st q (Res.loop f2 k3 vs4 LSt.busy none)).set 0 (Res.box (setCells c53 0 [V.int n41]))).set q
 (Res.loop f55 k56 vs57 LSt.done (some Ex.ret)))))) (Z3 (List.set st q (Res.loop f2 k3 vs4 LSt.busy none)) q fun x60=>Ya x60 fun f61 k62 vs63 s64 p65=>YZ s64 (some
 (true,(List.set st q (Res.loop f2 k3 vs4 LSt.busy none)).set q (Res.loop f61 k62 vs63 LSt.ready none)))))) (bc (n41 !=0) (Z3 (List.set st q (Res.loop f2 k3 vs4 LSt.busy none))
 0 fun x66=>ZI x66 fun c67=>gd (decide (1≤c67.length)&&true) (Z3 ((List.set st q (Res.loop f2 k3 vs4 LSt.busy none)).set 0 (Res.box (setCells c67 0 [V.int n41]))) q
 fun x68=>Ya x68 fun f69 k70 vs71 s72 p73=>YZ s72 (some (false,((List.set st q (Res.loop f2 k3 vs4 LSt.busy none)).set 0 (Res.box (setCells c67 0 [V.int n41]))).set q
 (Res.loop f69 k70 vs71 LSt.done (some Ex.ret)))))) (Z3 (List.set st q (Res.loop f2 k3 vs4 LSt.busy none)) q fun x74=>Ya x74 fun f75 k76 vs77 s78 p79=>YZ s78 (some
 (true,(List.set st q (Res.loop f2 k3 vs4 LSt.busy none)).set q (Res.loop f75 k76 vs77 LSt.ready none)))))) (bc (n41 !=0) (Z3 (List.set st q (Res.loop f2 k3 vs4 LSt.busy none))
 0 fun x80=>ZI x80 fun c81=>gd (decide (1≤c81.length)&&true) (Z3 ((List.set st q (Res.loop f2 k3 vs4 LSt.busy none)).set 0 (Res.box (setCells c81 0 [V.int n41]))) q
 fun x82=>Ya x82 fun f83 k84 vs85 s86 p87=>YZ s86 (some (false,((List.set st q (Res.loop f2 k3 vs4 LSt.busy none)).set 0 (Res.box (setCells c81 0 [V.int n41]))).set q
 (Res.loop f83 k84 vs85 LSt.done (some Ex.ret)))))) (Z3 (List.set st q (Res.loop f2 k3 vs4 LSt.busy none)) q fun x88=>Ya x88 fun f89 k90 vs91 s92 p93=>YZ s92 (some
 (true,(List.set st q (Res.loop f2 k3 vs4 LSt.busy none)).set q (Res.loop f89 k90 vs91 LSt.ready none)))))) (bc (n37==0) (bc b11 (Za (Zj O 78 [V.agg [V.int
 k,V.int h,V.vec .plain (some 3) xs],V.vec .plain (some 5) ms]) fun r94=>Zi r94 fun b95=>bc (!b95) (Z3 (List.set st q (Res.loop f2 k3 vs4 LSt.busy none)) 0 fun x96=>
 ZI x96 fun c97=>gd (decide (1≤c97.length)&&true) (Z3 ((List.set st q (Res.loop f2 k3 vs4 LSt.busy none)).set 0 (Res.box (setCells c97 0 [V.int 3]))) q fun x98=>Ya
 x98 fun f99 k100 vs101 s102 p103=>YZ s102 (some (false,((List.set st q (Res.loop f2 k3 vs4 LSt.busy none)).set 0 (Res.box (setCells c97 0 [V.int 3]))).set q (Res.loop f99
 k100 vs101 LSt.done (some Ex.ret)))))) (bc (n37 !=0) (Z3 (List.set st q (Res.loop f2 k3 vs4 LSt.busy none)) 0 fun x104=>ZI x104 fun c105=>gd (decide (1≤c105.length)&&
 true) (Z3 ((List.set st q (Res.loop f2 k3 vs4 LSt.busy none)).set 0 (Res.box (setCells c105 0 [V.int n37]))) q fun x106=>Ya x106 fun f107 k108 vs109 s110 p111=>YZ
 s110 (some (false,((List.set st q (Res.loop f2 k3 vs4 LSt.busy none)).set 0 (Res.box (setCells c105 0 [V.int n37]))).set q (Res.loop f107 k108 vs109 LSt.done (some Ex.ret))))))
 (Z3 (List.set st q (Res.loop f2 k3 vs4 LSt.busy none)) q fun x112=>Ya x112 fun f113 k114 vs115 s116 p117=>YZ s116 (some (true,(List.set st q (Res.loop f2 k3 vs4
 LSt.busy none)).set q (Res.loop f113 k114 vs115 LSt.ready none)))))) (bc (n37 !=0) (Z3 (List.set st q (Res.loop f2 k3 vs4 LSt.busy none)) 0 fun x118=>ZI x118 fun c119=>
 gd (decide (1≤c119.length)&&true) (Z3 ((List.set st q (Res.loop f2 k3 vs4 LSt.busy none)).set 0 (Res.box (setCells c119 0 [V.int n37]))) q fun x120=>Ya x120 fun f121
 k122 vs123 s124 p125=>YZ s124 (some (false,((List.set st q (Res.loop f2 k3 vs4 LSt.busy none)).set 0 (Res.box (setCells c119 0 [V.int n37]))).set q (Res.loop f121 k122
 vs123 LSt.done (some Ex.ret)))))) (Z3 (List.set st q (Res.loop f2 k3 vs4 LSt.busy none)) q fun x126=>Ya x126 fun f127 k128 vs129 s130 p131=>YZ s130 (some (true,
 (List.set st q (Res.loop f2 k3 vs4 LSt.busy none)).set q (Res.loop f127 k128 vs129 LSt.ready none)))))) (bc (n37 !=0) (Z3 (List.set st q (Res.loop f2 k3 vs4 LSt.busy none)) 0
 fun x132=>ZI x132 fun c133=>gd (decide (1≤c133.length)&&true) (Z3 ((List.set st q (Res.loop f2 k3 vs4 LSt.busy none)).set 0 (Res.box (setCells c133 0 [V.int n37]))) q
 fun x134=>Ya x134 fun f135 k136 vs137 s138 p139=>YZ s138 (some (false,((List.set st q (Res.loop f2 k3 vs4 LSt.busy none)).set 0 (Res.box (setCells c133 0 [V.int
 n37]))).set q (Res.loop f135 k136 vs137 LSt.done (some Ex.ret)))))) (Z3 (List.set st q (Res.loop f2 k3 vs4 LSt.busy none)) q fun x140=>Ya x140 fun f141 k142 vs143 s144
 p145=>YZ s144 (some (true,(List.set st q (Res.loop f2 k3 vs4 LSt.busy none)).set q (Res.loop f141 k142 vs143 LSt.ready none))))))))))):=by kernel_rfl
theorem zqi(O:Oracle)(n0:Int)(n1:Int)(l2:(List V))(l3:(List V))(n4:Int):Ze Tryz.prog cfg O 26 [.agg [.int n0, .int n1, .vec .plain (some 3) l2], .vec .plain (some 3) l3, .int n4] []=
 Za (Zj O 79 [V.agg [V.int n0,V.int n1,V.vec .plain (some 3) l2]]) fun r1=>Zi r1 fun b2=>bc b2 (some (Out.ret (V.tup [V.agg [V.int 0,V.int 0,V.vec .plain
 (some 3) []],V.int 1]),[])) (bc (decide (n4<0)) (some (Out.ret (V.tup [V.agg [V.int 0,V.int 0,V.vec .plain (some 3) []],V.int 1]),[])) (bc (decide (n4>1000)) (some
 (Out.ret (V.tup [V.agg [V.int 0,V.int 0,V.vec .plain (some 3) []],V.int 1]),[])) (bc (decide ((↑l3.length:Int)>200)) (some (Out.ret (V.tup [V.agg [V.int 0,V.int 0,V.vec
 .plain (some 3) []],V.int 1]),[])) (Za (O.call 73 [V.vec .plain (some 3) l3,V.fn 79 [] []] []) fun r3=>Zx r3.fst (fun v4=>
 Zi v4 fun b5=>bc b5 (some (Out.ret (V.tup [V.agg [V.int 0,V.int 0,V.vec .plain (some 3) []],V.int 1]),[])) (Za (Zj O 80 [V.agg [V.int n0,V.int n1,V.vec
 .plain (some 3) l2],V.vec .plain (some 3) l3,V.int n4]) fun r6=>ZG r6 fun c7=>Zd c7 fun v8 c9=>Zc [CT.int,CT.int,CT.slice (some 3)] v8 fun n10 n11 l12=>
 Zd c9 fun v13 c14=>Zl v13 fun n15=>Zn c14 (bc (n15 !=0) (some (Out.ret (V.tup [V.agg [V.int 0,V.int 0,V.vec .plain (some 3) []],V.int n15]),[])) (Za (Zj O
 79 [V.agg [V.int n10,V.int n11,V.vec .plain (some 3) l12]]) fun r16=>Zi r16 fun b17=>bc b17 (some (Out.ret (V.tup [V.agg [V.int 0,V.int 0,V.vec .plain (some 3)
 []],V.int 4]),[])) (gd (below 0 (V.tup [V.agg [V.int n10,V.int n11,V.vec .plain (some 3) l12],V.int 0])&&Zu 0 []) (some (Out.ret (V.tup [V.agg [V.int n10,V.int n11,
 V.vec .plain (some 3) l12],V.int 0]),[]))))))) fun p18=>none)))):=by kernel_rfl
theorem zrR(O:Oracle)(l0:(List V))(l1:(List V))(n2:Int):Ze Tryz.prog cfg O 33 [.vec .plain (some 3) l0, .vec .plain (some 3) l1, .int n2] []=
 Za (O.call 98 [V.vec .plain (some 3) l0,V.fn 99 [] [V.cptr none (V.vec .plain (some 3) l1),V.cptr none (V.int n2)]] []) fun r1=>Zx r1.fst
 (fun v2=>ZG v2 fun c3=>Zd c3 fun v4 c5=>Yi (some 3) v4 fun l6=>Zd c5 fun v7 c8=>Zl v7 fun n9=>Zn c8 (gd (below 0 (V.tup [V.vec .plain (some 3) l6,
 V.int n9])&&Zu 0 []) (some (Out.ret (V.tup [V.vec .plain (some 3) l6,V.int n9]),[])))) fun p10=>none:=by kernel_rfl
theorem zgu(O:Oracle)(k h:Int)(xs ys:List V)(st:St):Ze Tryz.prog cfg O 72 [.agg [.int k, .int h, .vec .plain (some 3) xs], .cptr none (.vec .plain (some 3) ys)] st=
 Za (O.call 73 [V.vec .plain (some 3) ys,V.fn 74 [] [V.cptr (some 3) (V.agg [V.int k,V.int h,V.vec .plain (some 3)
 xs])]] st) fun r1=>Zx r1.fst (fun v2=>Zi v2 fun b3=>Yt (List.length st) (V.bool !b3) r1.snd) fun p4=>none:=by kernel_rfl
theorem zeR(O:Oracle)(k h k2 h2:Int)(xs ys:List V)(st:St):Ze Tryz.prog cfg O 74 [.agg [.int k, .int h, .vec .plain (some 3) xs], .cptr (some 3) (.agg [.int k2, .int h2, .vec .plain (some 3) ys])] st=
 Za (Zj O 75 [V.agg [V.int k,V.int h,V.vec .plain (some 3) xs],V.agg [V.int k2,V.int h2,V.vec .plain (some 3) ys]]) fun r1=>Zi r1 fun b2=>Yt
 (List.length st) (V.bool b2) st:=by kernel_rfl
theorem zdJ(O:Oracle)(l0:(List V))(st:St):Ze Tryz.prog cfg O 76 [.vec .plain (some 3) l0] st=
 Yt (List.length st) (V.fn 123 [] [V.cptr none (V.vec .plain (some 3) l0)]) st:=by kernel_rfl
theorem ziC(O:Oracle)(n0:Int)(n1:Int)(l2:(List V))(l3:(List V)):Ze Tryz.prog cfg O 78 [.agg [.int n0, .int n1, .vec .plain (some 3) l2], .vec .plain (some 5) l3] []=
 bc (n0==6) (bc (decide (n1<(↑l3.length:Int))) (gd (decide (0≤n1)&&decide (n1<(↑l3.length:Int))) (YP (ZA l3 n1) fun c1=>gd (decide (5≤c1.length)) (Zi
 (AM.partOf c1 4 none) fun b2=>some (Out.ret (V.bool b2),[])))) (some (Out.ret (V.bool false),[]))) (bc (n0==4) (some (Out.ret (V.bool ((↑l2.length:Int)==0)),[])) (some
 (Out.ret (V.bool false),[]))):=by kernel_rfl
theorem zrS(O:Oracle)(n0:Int)(n1:Int)(l2:(List V)):Ze Tryz.prog cfg O 79 [.agg [.int n0, .int n1, .vec .plain (some 3) l2]] []=
 Za (Zj O 82 [V.agg [V.int n0,V.int n1,V.vec .plain (some 3) l2]]) fun r1=>Zi r1 fun b2=>some (Out.ret (V.bool !b2),[]):=by kernel_rfl
theorem zqj(O:Oracle)(n0:Int)(n1:Int)(l2:(List V))(l3:(List V))(n4:Int):Ze Tryz.prog cfg O 80 [.agg [.int n0, .int n1, .vec .plain (some 3) l2], .vec .plain (some 3) l3, .int n4] []=
 bc (n0==1) (Za (O.call 98 [V.vec .plain (some 3) l2,V.fn 125 [] [V.cptr none (V.bool true),V.cptr (some 3) (V.agg [V.int n0,V.int n1,V.vec
 .plain (some 3) l2]),V.cptr none (V.vec .plain (some 3) l3),V.cptr none (V.int n4)]] []) fun r1=>Zx r1.fst (fun v2=>ZG v2 fun c3=>Zd c3 fun v4 c5=>Yi (some
 3) v4 fun l6=>Zd c5 fun v7 c8=>Zl v7 fun n9=>Zn c8 (bc (n9 !=0) (some (Out.ret (V.tup [V.agg [V.int 0,V.int 0,V.vec .plain (some 3) []],V.int n9]),[])) (bc
 (n0 !=6) (gd (below 0 (V.tup [V.agg [V.int n0,V.int n1,V.vec .plain (some 3) l6],V.int 0])&&Zu 0 []) (some (Out.ret (V.tup [V.agg [V.int n0,V.int n1,V.vec .plain
 (some 3) l6],V.int 0]),[]))) (bc (decide (n1≥(↑l3.length:Int))) (some (Out.ret (V.tup [V.agg [V.int 0,V.int 0,V.vec .plain (some 3) []],V.int 2]),[])) (Za (O.call
 73 [V.vec .plain (some 3) l6,V.fn 79 [] []] r1.snd) fun r10=>Zx r10.fst (fun v11=>Zi v11 fun b12=>bc b12 (some (Out.ret
 (V.tup [V.agg [V.int 0,V.int 0,V.vec .plain (some 3) []],V.int 4]),[])) (gd (decide (0≤n1)&&decide (n1<(↑l3.length:Int))) (Zc [CT.int,CT.int,CT.slice (some 3)]
 (ZA l3 n1) fun n13 n14 l15=>Za (Zj O 126 [V.agg [V.int n13,V.int n14,V.vec .plain (some 3) l15],V.agg [V.vec .plain (some 3) l6,V.int n4]]) fun r16=>
 ZG r16 fun c17=>Zd c17 fun v18 c19=>Zc [CT.int,CT.int,CT.slice (some 3)] v18 fun n20 n21 l22=>Zd c19 fun v23 c24=>Zl v23 fun n25=>Zn c24 (gd
 (below 0 (V.tup [V.agg [V.int n20,V.int n21,V.vec .plain (some 3) l22],V.int n25])&&Zu 0 []) (some (Out.ret (V.tup [V.agg [V.int n20,V.int n21,V.vec .plain (some 3)
 l22],V.int n25]),[])))))) fun p26=>none))))) fun p27=>none) (Za (O.call 98 [V.vec .plain (some 3) l2,V.fn 125 [] [V.cptr none (V.bool (n0==
 3)),V.cptr (some 3) (V.agg [V.int n0,V.int n1,V.vec .plain (some 3) l2]),V.cptr none (V.vec .plain (some 3) l3),V.cptr none (V.int n4)]] []) fun r28=>Zx r28.fst (fun v29
 =>ZG v29 fun c30=>Zd c30 fun v31 c32=>Yi (some 3) v31 fun l33=>Zd c32 fun v34 c35=>Zl v34 fun n36=>Zn c35 (bc (n36 !=0) (some (Out.ret (V.tup
 [V.agg [V.int 0,V.int 0,V.vec .plain (some 3) []],V.int n36]),[])) (bc (n0 !=6) (gd (below 0 (V.tup [V.agg [V.int n0,V.int n1,V.vec .plain (some 3) l33],V.int 0])&&
 Zu 0 []) (some (Out.ret (V.tup [V.agg [V.int n0,V.int n1,V.vec .plain (some 3) l33],V.int 0]),[]))) (bc (decide (n1≥(↑l3.length:Int))) (some (Out.ret (V.tup [V.agg
 [V.int 0,V.int 0,V.vec .plain (some 3) []],V.int 2]),[])) (Za (O.call 73 [V.vec .plain (some 3) l33,V.fn 79 [] []] r28.snd)
 fun r37=>Zx r37.fst (fun v38=>Zi v38 fun b39=>bc b39 (some (Out.ret (V.tup [V.agg [V.int 0,V.int 0,V.vec .plain (some 3) []],V.int 4]),[])) (gd (decide (0≤n1)
 &&decide (n1<(↑l3.length:Int))) (Zc [CT.int,CT.int,CT.slice (some 3)] (ZA l3 n1) fun n40 n41 l42=>Za (Zj O 126 [V.agg [V.int n40,V.int n41,V.vec
 .plain (some 3) l42],V.agg [V.vec .plain (some 3) l33,V.int n4]]) fun r43=>ZG r43 fun c44=>Zd c44 fun v45 c46=>Zc [CT.int,CT.int,CT.slice (some 3)] v45 fun
 n47 n48 l49=>Zd c46 fun v50 c51=>Zl v50 fun n52=>Zn c51 (gd (below 0 (V.tup [V.agg [V.int n47,V.int n48,V.vec .plain (some 3) l49],V.int n52])&&Zu 0 [])
 (some (Out.ret (V.tup [V.agg [V.int n47,V.int n48,V.vec .plain (some 3) l49],V.int n52]),[])))))) fun p53=>none))))) fun p54=>none):=by kernel_rfl
theorem zeS(O:Oracle)(l0:(List V))(g1:Nat)(l2:(List V))(l3:(List V))(st:St):Ze Tryz.prog cfg O 98 [.vec .plain (some 3) l0, .fn g1 l2 l3] st=
 Za (O.loop 98 3 [V.int 0,V.vec Mode.grow (some 3) [],V.fn g1 l2 l3,V.vec .plain (some 3) l0,V.int (↑l0.length:Int)] st) fun r1=>Y8 r1.fst none
 (Zd r1.snd.fst fun v2 c3=>Yi (some 3) v2 fun l4=>Zd c3 fun v5 c6=>Zl v5 fun n7=>Zn c6 (Yt (List.length st) (V.tup [V.vec .plain (some 3) l4,V.int n7])
 r1.snd.snd)) (fun i8=>bc (i8.beq 0) (Zd r1.snd.fst fun v9 c10=>YK (some 3) v9 fun l11=>Zn c10 (Yt (List.length st) (V.tup [V.vec .plain (some 3) l11,V.int 0])
 r1.snd.snd)) none) fun v12=>none:=by kernel_rfl
theorem JK(O:Oracle)(n0:Int)(l1:(List V))(g2:Nat)(l3:(List V))(l4:(List V))(l5:(List V))(n6:Int)(st:St):Z1 Tryz.prog cfg O 98 3 [.int n0, .vec .grow (some 3) l1, .fn g2 l3 l4, .vec .plain (some 3) l5, .int n6] st=
 bc (decide (n0<n6)) (gd (decide (0≤n0)&&decide (n0<(↑l5.length:Int))) (Zc [CT.int,CT.int,CT.slice (some 3)] (ZA l5 n0) fun n1 n2 l3_1=>bc (cfg.pure g2)
 (Za (Zj O g2 (l3++[V.int n0,V.agg [V.int n1,V.int n2,V.vec .plain (some 3) l3_1]]++l4)) fun r4=>ZG r4 fun c5=>Zd c5 fun v6 c7=>Zc [CT.int,CT.int,
 CT.slice (some 3)] v6 fun n8 n9 l10=>Zd c7 fun v11 c12=>Zl v11 fun n13=>Zn c12 (bc (n13 !=0) (some (Ex.ret,[V.vec .plain (some 3) [],V.int n13],st)) (gd (true
 &&roomFor Tryz.prog 27 (l1.length+[V.agg [V.int n8,V.int n9,V.vec .plain (some 3) l10]].length)) (O.2 98 3 [V.int (IntKind.i64.wrap (n0+1)),
 V.vec Mode.grow (some 3) (l1++[V.agg [V.int n8,V.int n9,V.vec .plain (some 3) l10]]),V.fn g2 l3 l4,V.vec .plain (some 3) l5,V.int n6] st)))) (Za (O.call g2 (l3++[V.int
 n0,V.agg [V.int n1,V.int n2,V.vec .plain (some 3) l3_1]]++l4) st) fun r14=>Zx r14.fst (fun v15=>ZG v15 fun c16=>Zd c16 fun v17 c18=>Zc [CT.int,
 CT.int,CT.slice (some 3)] v17 fun n19 n20 l21=>Zd c18 fun v22 c23=>Zl v22 fun n24=>Zn c23 (bc (n24 !=0) (some (Ex.ret,[V.vec .plain (some 3) [],V.int n24],
 r14.snd)) (gd (true&&roomFor Tryz.prog 27 (l1.length+[V.agg [V.int n19,V.int n20,V.vec .plain (some 3) l21]].length)) (O.2 98 3 [V.int
 (IntKind.i64.wrap (n0+1)),V.vec Mode.grow (some 3) (l1++[V.agg [V.int n19,V.int n20,V.vec .plain (some 3) l21]]),V.fn g2 l3 l4,V.vec .plain (some 3) l5,V.int n6]
 r14.snd)))) fun p25=>none))) (some (Ex.exit 0,[V.vec Mode.grow (some 3) l1],st)):=by kernel_rfl
theorem zos(O:Oracle)(i k h n:Int)(xs th:List V)(st:St):Ze Tryz.prog cfg O 99 [.int i, .agg [.int k, .int h, .vec .plain (some 3) xs], .cptr none (.vec .plain (some 3) th), .cptr none (.int n)] st=
 Za (Zj O 26 [V.agg [V.int k,V.int h,V.vec .plain (some 3) xs],V.vec .plain (some 3) th,V.int (IntKind.i64.wrap (n+i))]) fun r1=>ZG r1 fun c2=>Zd c2
 fun v3 c4=>Zc [CT.int,CT.int,CT.slice (some 3)] v3 fun n5 n6 l7=>Zd c4 fun v8 c9=>Zl v8 fun n10=>Zn c9 (Yt (List.length st) (V.tup [V.agg [V.int n5,
 V.int n6,V.vec .plain (some 3) l7],V.int n10]) st):=by kernel_rfl
theorem zmu(O:Oracle)(n0:Int)(n1:Int)(l2:(List V)):Ze Tryz.prog cfg O 112 [.agg [.int n0, .int n1, .vec .plain (some 3) l2]] []=
 Za (O.call 151 [V.agg [V.int n0,V.int n1,V.vec .plain (some 3) l2],V.int 0,V.fn 152 [] [V.cptr none (V.mp 0)]] [Res.map CT.int CT.bool []]) fun r1=>
 Zx r1.fst (fun v2=>ZG v2 fun c3=>Zn c3 (Za (O.call 153 [V.mp 0] r1.snd) fun r4=>Zx r4.fst (fun v5=>Yi none v5 fun l6=>gd (below 0 (V.vec
 .plain none l6)&&Zu 0 []) (some (Out.ret (V.vec .plain none l6),[]))) fun p7=>none)) fun p8=>none:=by kernel_rfl
theorem zcH(O:Oracle)(q:Nat)(xs:List V)(st:St):Ze Tryz.prog cfg O 123 [.yld q, .cptr none (.vec .plain (some 3) xs)] st=
 Za (O.loop 123 1 [V.int 0,V.cptr none (V.vec .plain (some 3) xs),V.yld q,V.vec .plain (some 3) xs,V.int (↑xs.length:Int)] st) fun r1=>Y8 r1.fst
 none (Zn r1.snd.fst (Yt (List.length st) (V.tup []) r1.snd.snd)) (fun i2=>bc (i2.beq 0) (Zn r1.snd.fst (Yt (List.length st) (V.tup []) r1.snd.snd)) none) fun v3=>none:=by kernel_rfl
theorem QH(O:Oracle)(q:Nat)(i n:Int)(xs ys:List V)(st:St):Z1 Tryz.prog cfg O 123 1 [.int i, .cptr none (.vec .plain (some 3) xs), .yld q, .vec .plain (some 3) ys, .int n] st=
 bc (decide (i<n)) (gd (decide (0≤i)&&decide (i<(↑ys.length:Int))) (Zc [CT.int,CT.int,CT.slice (some 3)] (ZA ys i) fun n1 n2 l3=>gd (true&&decide (0≤i)&&
 decide (i≤(↑xs.length:Int))) (gd (decide (i=i)&&(some (V.int i)).isSome) (Z3 st q fun x4=>Ya x4 fun f5 k6 vs7 s8 p9=>Qv s8 p9 (Za (O.round q f5 k6 vs7
 [V.vec .plain (some 3) (List.drop 0 (List.take i.toNat xs)),V.agg [V.int n1,V.int n2,V.vec .plain (some 3) l3]] st) fun r10=>bc (!r10.fst) (some (Ex.ret,[],r10.snd)) (O.2
 123 1 [V.int (IntKind.i64.wrap (i+1)),V.cptr none (V.vec .plain (some 3) xs),V.yld q,V.vec .plain (some 3) ys,V.int n] r10.snd)) none fun i11=>
 none)))) (some (Ex.exit 0,[],st)):=by kernel_rfl
theorem zmv(O:Oracle)(i k h k2 h2 n:Int)(b:Bool)(xs ys th:List V)(st:St):Ze Tryz.prog cfg O 125 [.int i, .agg [.int k, .int h, .vec .plain (some 3) xs], .cptr none (.bool b), .cptr (some 3) (.agg [.int k2, .int h2, .vec .plain (some 3) ys]), .cptr none (.vec .plain (some 3) th), .cptr none (.int n)] st=
 bc b (bc (i==IntKind.i64.wrap ((↑ys.length:Int)-1)) (Za (Zj O 80 [V.agg [V.int k,V.int h,V.vec .plain (some 3) xs],V.vec .plain (some 3) th,V.int
 (IntKind.i64.wrap (n+1))]) fun r1=>ZG r1 fun c2=>Zd c2 fun v3 c4=>Zc [CT.int,CT.int,CT.slice (some 3)] v3 fun n5 n6 l7=>Zd c4 fun v8 c9=>Zl v8
 fun n10=>Zn c9 (Yt (List.length st) (V.tup [V.agg [V.int n5,V.int n6,V.vec .plain (some 3) l7],V.int n10]) st)) (Za (Zj O 80 [V.agg [V.int k,V.int h,
 V.vec .plain (some 3) xs],V.vec .plain (some 3) th,V.int n]) fun r11=>ZG r11 fun c12=>Zd c12 fun v13 c14=>Zc [CT.int,CT.int,CT.slice (some 3)] v13 fun n15
 n16 l17=>Zd c14 fun v18 c19=>Zl v18 fun n20=>Zn c19 (Yt (List.length st) (V.tup [V.agg [V.int n15,V.int n16,V.vec .plain (some 3) l17],V.int n20]) st))) (Za
 (Zj O 80 [V.agg [V.int k,V.int h,V.vec .plain (some 3) xs],V.vec .plain (some 3) th,V.int n]) fun r21=>ZG r21 fun c22=>Zd c22 fun v23 c24=>Zc
 [CT.int,CT.int,CT.slice (some 3)] v23 fun n25 n26 l27=>Zd c24 fun v28 c29=>Zl v28 fun n30=>Zn c29 (Yt (List.length st) (V.tup [V.agg [V.int n25,V.int n26,
 V.vec .plain (some 3) l27],V.int n30]) st)):=by kernel_rfl
theorem zjF(O:Oracle)(k h n:Int)(xs:List V)(es:List (V×V)):Ze Tryz.prog cfg O 152 [.agg [.int k, .int h, .vec .plain (some 3) xs], .int n, .cptr none (.mp 0)] [.map .int .bool es]=
 bc (k==6) (some (Out.ret (V.tup []),[Res.map CT.int CT.bool (Jo es (V.int h) (V.bool true))])) (some (Out.ret (V.tup []),[Res.map CT.int CT.bool es])):=by kernel_rfl
end Go.Proofs.CL
namespace Go.Ama
open Go Go.AM
mutual
noncomputable def YX(θ:List T):T→Int→T×Int
 | .mk k h xs,n=>
  let r:=Y3 θ (bindsB k) xs n
  if r.2≠0 then(T0,r.2)
  else if k≠6 then(.mk k h r.1,0)
  else if(θ.length:Int)≤h then(T0,2)
  else if r.1.any (fun x=> !may x)then(T0,4)
  else Yz (θ.getD h.toNat T0) r.1 n
noncomputable def Y3(θ:List T)(b:Bool):List T→Int→List T×Int
 |[],_=>([],0)
 |a::l,n=>
  let r:=YX θ a (if b&&l.isEmpty then n+1 else n)
  if r.2≠0 then([],r.2)
  else
   let q:=Y3 θ b l n
   if q.2≠0 then([],q.2)else(r.1::q.1,0)
end
noncomputable def Yy(t:T)(θ:List T)(n:Int):T×Int:=
 if !may t||decide (n<0)||decide (1000<n)||decide (200<θ.length)||θ.any (fun x=> !may x)then(T0,1)
 else
  let r:=YX θ t n
  if r.2≠0 then(T0,r.2)else if may r.1 then(r.1,0)else(T0,4)
noncomputable def Ys(θ:List T):List T→Int→List T×Int
 |[],_=>([],0)
 |a::l,n=>
  let r:=Yy a θ n
  if r.2≠0 then([],r.2)
  else
   let q:=Ys θ l (n+1)
   if q.2≠0 then([],q.2)else(r.1::q.1,0)
theorem ziD(θ:List T)(b:Bool): ∀(l:List T) (n:Int),(Y3 θ b l n).2=0→(Y3 θ b l n).1.length=l.length
 |[],_,_=>rfl
 |a::l,n,h=>by
  unfold Y3 at h⊢
  dsimp only at h⊢
  by_cases h1:(YX θ a (if b&&l.isEmpty then n+1 else n)).2≠0
  ·rw[if_pos h1]at h;exact absurd h h1
  ·rw[if_neg h1]at h⊢
   by_cases h2:(Y3 θ b l n).2≠0
   ·rw[if_pos h2]at h;exact absurd h h2
   ·rw[if_neg h2]
    simp only[List.length_cons,ziD θ b l n (by simpa using h2)]
theorem zlc{β:Int}{θ:List T}(hθ: ∀x∈θ,may x=true∧okB β x)(h0:0≤β)(t:T): ∀n:Int,okB β t→ZT (β+t.size*90000000000)→(YX θ t n).2=0→okB (β+t.size*90000000000) (YX θ t n).1∧(YX θ t n).1.size≤4000*t.size:=by
 induction t using T.ind with
 |_ k h xs ih=>
  intro n ht hβ hz
  have hl: ∀(l:List T) (n:Int),(∀a∈l,∀n:Int,okB β a→ZT (β+a.size*90000000000)→(YX θ a n).2=0→okB (β+a.size*90000000000) (YX θ a n).1∧(YX θ a n).1.size≤4000*a.size)→JN β l→ZT (β+sizes l*90000000000)→ ∀b,(Y3 θ b l n).2=0→JN (β+sizes l*90000000000) (Y3 θ b l n).1∧sizes (Y3 θ b l n).1≤4000*sizes l:=by
   intro l
   induction l with
   |nil=>intro n _ _ _ b _;exact⟨trivial,by simp[Y3,sizes]⟩
   |cons a l ihl=>
    intro n ih hb hβ b hz
    obtain⟨hb1,hb2⟩:=hb
    simp only[sizes]at hβ⊢
    unfold Y3 at hz⊢
    dsimp only at hz⊢
    by_cases h1:(YX θ a (if b&&l.isEmpty then n+1 else n)).2≠0
    ·rw[if_pos h1]at hz;exact absurd hz h1
    ·rw[if_neg h1]at hz⊢
     by_cases h2:(Y3 θ b l n).2≠0
     ·rw[if_pos h2]at hz;exact absurd hz h2
     ·rw[if_neg h2]
      have q1:=ih a (by simp) (if b&&l.isEmpty then n+1 else n) hb1 (ZZ hβ (by omega) (by omega)) (Decidable.not_not.1 h1)
      have q2:=ihl n (fun x hx=>ih x (by simp[hx])) hb2 (ZZ hβ (by omega) (by omega)) b (by simpa using h2)
      have q3:=Z6 (B:=β+a.size*90000000000) (B':=β+((a.size+sizes l:Nat):Int)*90000000000) (by omega) _ q1.1
      refine⟨⟨q3, ?_⟩, ?_⟩
      ·have:=q2.1
       rw[Xa]at this⊢
       exact fun x hx=>Z6 (by omega) _ (this x hx)
      ·simp only[sizes]
       have:=q1.2
       have:=q2.2
       omega
  obtain⟨⟨b1,b2⟩,b3,b4⟩:=ht
  simp only[T.size]at hβ⊢
  unfold YX at hz⊢
  dsimp only at hz⊢
  by_cases h1:(Y3 θ (bindsB k) xs n).2≠0
  ·rw[if_pos h1]at hz;exact absurd hz h1
  rw[if_neg h1]at hz⊢
  have h1':(Y3 θ (bindsB k) xs n).2=0:=by simpa using h1
  have q:=hl xs n ih b4 (ZZ hβ (by omega) (by omega)) (bindsB k) h1'
  have hlen:=ziD θ (bindsB k) xs n h1'
  by_cases h6:k≠6
  ·rw[if_pos h6]
   refine⟨⟨⟨b1,by omega⟩,fun hk e=>b3 hk ?_, ?_⟩, ?_⟩
   ·rw[e]at hlen;exact List.length_eq_zero_iff.1 hlen.symm
   ·have:=q.1
    rw[Xa]at this⊢
    exact fun x hx=>Z6 (by omega) _ (this x hx)
   ·simp only[T.size]
    have:=q.2
    omega
  ·rw[if_neg h6]at hz⊢
   by_cases h2:(θ.length:Int)≤h
   ·rw[if_pos h2]at hz;cases hz
   ·rw[if_neg h2]at hz⊢
    by_cases h3:((Y3 θ (bindsB k) xs n).1.any fun x=> !may x)=true
    ·rw[if_pos h3]at hz;cases hz
    ·rw[if_neg h3]at hz⊢
     have hlt:h.toNat<θ.length:=by omega
     have hm:θ.getD h.toNat T0∈θ:=by rw[List.getD_eq_getElem?_getD,List.getElem?_eq_getElem hlt];exact List.getElem_mem hlt
     have hbase:ZT (β+sizes xs*90000000000):=ZZ hβ (by omega) (by omega)
     obtain⟨u1,u2,_⟩:=zde (t:=θ.getD h.toNat T0) (l:=(Y3 θ (bindsB k) xs n).1) (s:=n) hbase (fun _=>Z6 (by omega) _ (hθ _ hm).2) (fun _=>(Xa _ _).1 q.1) hz
     refine⟨Z6 (by omega) _ u2, ?_⟩
     have:=Yu u1
     omega
theorem zvs{β:Int}{θ:List T}(hθ: ∀x∈θ,may x=true∧okB β x)(h0:0≤β)(l:List T)(n:Int)(b:Bool):JN β l→ZT (β+sizes l*90000000000)→(Y3 θ b l n).2=0→JN (β+sizes l*90000000000) (Y3 θ b l n).1∧sizes (Y3 θ b l n).1≤4000*sizes l:=by
 induction l with
 |nil=>intro _ _ _;exact⟨trivial,by simp[Y3,sizes]⟩
 |cons a l ih=>
  intro hb hβ hz
  obtain⟨hb1,hb2⟩:=hb
  simp only[sizes]at hβ⊢
  unfold Y3 at hz⊢
  dsimp only at hz⊢
  by_cases h1:(YX θ a (if b&&l.isEmpty then n+1 else n)).2≠0
  ·rw[if_pos h1]at hz;exact absurd hz h1
  ·rw[if_neg h1]at hz⊢
   by_cases h2:(Y3 θ b l n).2≠0
   ·rw[if_pos h2]at hz;exact absurd hz h2
   ·rw[if_neg h2]
    have q1:=zlc hθ h0 a (if b&&l.isEmpty then n+1 else n) hb1 (ZZ hβ (by omega) (by omega)) (Decidable.not_not.1 h1)
    have q2:=ih hb2 (ZZ hβ (by omega) (by omega)) (Decidable.not_not.1 h2)
    have q3:=Z6 (B:=β+a.size*90000000000) (B':=β+((a.size+sizes l:Nat):Int)*90000000000) (by omega) _ q1.1
    refine⟨⟨q3, ?_⟩, ?_⟩
    ·have:=q2.1
     rw[Xa]at this⊢
     exact fun x hx=>Z6 (by omega) _ (this x hx)
    ·simp only[sizes]
     have:=q1.2
     have:=q2.2
     omega
theorem zho{β:Int}{θ:List T}(h0:0≤β){t:T}{n:Int}(hθ: ∀x∈θ,may x=true→okB β x)(ht:may t=true→okB β t)(hβ:ZT (β+360000000000000))(hz:(Yy t θ n).2=0):
  may (Yy t θ n).1=true∧okB (β+360000000000000) (Yy t θ n).1∧(YX θ t n).2=0∧(Yy t θ n).1=(YX θ t n).1∧may t=true∧0≤n∧n≤1000∧θ.length≤200∧ ∀x∈θ,may x=true:=by
 unfold Yy at hz⊢
 split at hz
 ·cases hz
 ·rename_i hc
  rw[if_neg hc]
  simp only[Bool.not_eq_true,Bool.or_eq_false_iff,Bool.not_eq_false',decide_eq_false_iff_not,List.any_eq_false,Bool.not_eq_true']at hc
  obtain⟨⟨⟨⟨c1,c2⟩,c3⟩,c4⟩,c5⟩:=hc
  have c5': ∀x∈θ,may x=true:=fun x hx=>by simpa using c5 x hx
  dsimp only at hz⊢
  by_cases h1:(YX θ t n).2≠0
  ·rw[if_pos h1]at hz;exact absurd hz h1
  ·rw[if_neg h1]at hz⊢
   by_cases h2:may (YX θ t n).1=true
   ·rw[if_pos h2]
    have h1':(YX θ t n).2=0:=by simpa using h1
    have hsz:=Yu c1
    obtain⟨q,_⟩:=zlc (fun x hx=>⟨c5' x hx,hθ x hx (c5' x hx)⟩) h0 t n (ht c1) (ZZ hβ (by omega) (by omega)) h1'
    exact⟨h2,Z6 (by omega) _ q,h1',rfl,c1,by omega,by omega,by omega,c5'⟩
   ·rw[if_neg h2]at hz;cases hz
theorem zjs(θ:List T): ∀(l:List T) (n:Int),(Ys θ l n).2=0→(Ys θ l n).1.length=l.length
 |[],_,_=>rfl
 |a::l,n,h=>by
  unfold Ys at h⊢
  dsimp only at h⊢
  by_cases h1:(Yy a θ n).2≠0
  ·rw[if_pos h1]at h;exact absurd h h1
  ·rw[if_neg h1]at h⊢
   by_cases h2:(Ys θ l (n+1)).2≠0
   ·rw[if_pos h2]at h;exact absurd h h2
   ·rw[if_neg h2]
    simp only[List.length_cons,zjs θ l (n+1) (by simpa using h2)]
theorem zld{β:Int}{θ:List T}(h0:0≤β)(hθ: ∀x∈θ,may x=true→okB β x)(hβ:ZT (β+360000000000000)): ∀(l:List T) (n:Int),(∀x∈l,may x=true→okB β x)→(Ys θ l n).2=0→ ∀x∈(Ys θ l n).1,may x=true∧okB (β+360000000000000) x
 |[],_,_,_,x,hx=>by cases hx
 |a::l,n,hl,h,x,hx=>by
  unfold Ys at h hx
  dsimp only at h hx
  by_cases h1:(Yy a θ n).2≠0
  ·rw[if_pos h1]at h;exact absurd h h1
  ·rw[if_neg h1]at h hx
   by_cases h2:(Ys θ l (n+1)).2≠0
   ·rw[if_pos h2]at h;exact absurd h h2
   ·rw[if_neg h2]at hx
    rcases List.mem_cons.1 hx with rfl|hx
    ·obtain⟨q1,q2,_⟩:=zho h0 hθ (hl a (by simp)) hβ (by simpa using h1)
     exact⟨q1,q2⟩
    ·exact zld h0 hθ hβ l (n+1) (fun y hy=>hl y (by simp[hy])) (by simpa using h2) x hx
def QB(t:T)(ms:List M):Bool:=
 if t.k=6 then decide (t.h<ms.length)&&(ms.getD t.h.toNat ⟨[],T0,false⟩).param else decide (t.k=4)&&t.args.isEmpty
noncomputable def zle(sig:List D)(ms:List M)(ext:List T)(d:M)(over:List T)(t:T):Int:=
 let c:=Ys over d.ctx 0
 if c.2≠0 then c.2
 else
  let a:=Yy d.t over d.ctx.length
  let e:=if a.2≠0 then a.2 else YW sig ms (ext++c.1) t a.1
  if e=0∧d.param=true∧QB t ms=false then 3 else e
noncomputable def XW(sig:List D)(ms:List M)(ext:List T)(δ:List M)(θ:List T):List Int:=
 (List.range θ.length).map fun i=>zle sig ms ext (δ.getD i ⟨[],T0,false⟩) (θ.take i) (θ.getD i T0)
noncomputable def zot(sig:List D)(ms:List M)(ext:List T)(δ:List M)(θ:List T):Int:=
 if 40<δ.length then 4 else if θ.length≠δ.length then 3 else(ZR 0 (XW sig ms ext δ θ)).2
def X2:List (T×Int)→List T×Int
 |[]=>([],0)
 |r::l=>if r.2≠0 then([],r.2)else if(X2 l).2≠0 then([],(X2 l).2)else(r.1::(X2 l).1,0)
theorem zqk{r:T×Int}{l:List (T×Int)}(h:r.2≠0):X2 (r::l)=([],r.2):=by unfold X2;rw[if_pos h]
theorem znd{r:T×Int}{l:List (T×Int)}(h:r.2=0)(h2:(X2 l).2≠0):X2 (r::l)=([],(X2 l).2):=by
 conv=>lhs;unfold X2
 rw[if_neg (by simpa using h),if_pos h2]
theorem zql{r:T×Int}{l:List (T×Int)}(h:r.2=0)(h2:(X2 l).2=0):X2 (r::l)=(r.1::(X2 l).1,0):=by
 conv=>lhs;unfold X2
 rw[if_neg (by simpa using h),if_neg (by simpa using h2)]
theorem ztP: ∀{l:List (T×Int)},(X2 l).2≠0→(X2 l).1=[]
 |[],h=>absurd rfl h
 |r::l,h=>by
  by_cases h1:r.2=0
  ·by_cases h2:(X2 l).2=0
   ·rw[zql h1 h2]at h;exact absurd rfl h
   ·rw[znd h1 h2]
  ·rw[zqk h1]
noncomputable def zbO(θ:List T)(b:Bool):List T→Int→List (T×Int)
 |[],_=> []
 |a::l,n=>YX θ a (if b&&l.isEmpty then n+1 else n)::zbO θ b l n
theorem zlf(θ:List T)(b:Bool): ∀(l:List T) (n:Int),Y3 θ b l n=X2 (zbO θ b l n)
 |[],_=>rfl
 |a::l,n=>by
  unfold Y3 zbO X2
  dsimp only
  rw[zlf θ b l n]
theorem Jx(θ:List T)(b:Bool): ∀(l:List T) (n:Int),(zbO θ b l n).length=l.length
 |[],_=>rfl
 |a::l,n=>by simp[zbO,Jx θ b l n]
theorem zne(θ:List T)(b:Bool): ∀(l:List T) (n:Int) (i:Nat) (h:i<l.length),(zbO θ b l n)[i]'(by rw[Jx];exact h)=YX θ l[i] (if b&&decide (i+1=l.length)then n+1 else n)
 |a::l,n,0,_=>by
  simp only[zbO,List.getElem_cons_zero,List.length_cons]
  cases l with
  |nil=>simp
  |cons c l=>simp
 |a::l,n,i+1,h=>by
  simp only[zbO,List.getElem_cons_succ]
  have hl:i<l.length:=by simpa using h
  rw[zne θ b l n i hl]
  simp
noncomputable def zeT(θ:List T):List T→Int→List (T×Int)
 |[],_=> []
 |a::l,n=>Yy a θ n::zeT θ l (n+1)
theorem zhp(θ:List T): ∀(l:List T) (n:Int),Ys θ l n=X2 (zeT θ l n)
 |[],_=>rfl
 |a::l,n=>by
  unfold Ys zeT X2
  dsimp only
  rw[zhp θ l (n+1)]
theorem JY(θ:List T): ∀(l:List T) (n:Int),(zeT θ l n).length=l.length
 |[],_=>rfl
 |a::l,n=>by simp[zeT,JY θ l (n+1)]
theorem zqm(θ:List T): ∀(l:List T) (n:Int) (i:Nat) (h:i<l.length),(zeT θ l n)[i]'(by rw[JY];exact h)=Yy l[i] θ (n+i)
 |a::l,n,0,_=>by simp[zeT]
 |a::l,n,i+1,h=>by
  simp only[zeT,List.getElem_cons_succ]
  have hl:i<l.length:=by simpa using h
  rw[zqm θ l (n+1) i hl]
  congr 1
  omega
end Go.Ama
namespace Go.Proofs.CL
open Go Go.AM Go.Ama
set_option maxRecDepth 100000
theorem zlg{g:Nat}{a b:List V}(hp:cfg.pure g=false)(xs:List T)(rs:List (T×Int))(hlen:rs.length=xs.length)(hs:xs.length≤1099511627776)(st:St)
  (hg: ∀(i:Nat) (h:i<xs.length),W.call g (a++[.int (i:Int),enc xs[i]]++b) st=some (.ret (.tup [enc (rs[i]'(by omega)).1, .int (rs[i]'(by omega)).2]),st)):
  W.call 98 [.vec .plain (some 3) (Zg xs), .fn g a b] st=some (.ret (.tup [.vec .plain (some 3) (Zg (X2 rs).1), .int (X2 rs).2]),st):=by
 have hL: ∀(m i:Nat) (acc:List T),xs.length-i=m→i≤xs.length→acc.length=i→
   W.loop 98 3 [.int (i:Int), .vec .grow (some 3) (Zg acc), .fn g a b, .vec .plain (some 3) (Zg xs), .int xs.length] st=
    if(X2 (rs.drop i)).2=0 then some (.exit 0,[.vec .grow (some 3) (Zg (acc++(X2 (rs.drop i)).1))],st)else some (.ret,[.vec .plain (some 3) [], .int (X2 (rs.drop i)).2],st):=by
  intro m
  induction m with
  |zero=>
   intro i acc hm hi ha
   have:i=xs.length:=by omega
   subst this
   rw[L,JK,←hlen,List.drop_length]
   simp[X2]
  |succ m ih=>
   intro i acc hm hi ha
   have hlt:i<xs.length:=by omega
   have hlt':(i:Int)<xs.length:=by omega
   have hd:rs.drop i=rs[i]::rs.drop (i+1):=List.drop_eq_getElem_cons (by omega)
   have hw:IntKind.i64.wrap ((i:Int)+1)=((i+1:Nat):Int):=by rw[Zq ⟨by omega,by omega⟩];omega
   have h1:=hg i hlt
   have hr:roomFor Tryz.prog 27 (acc.length+1)=true:=zaP (by omega)
   have ihh:=ih (i+1) (acc++[rs[i].1]) (by omega) (by omega) (by simp[ha])
   have e1:Zg acc++[enc rs[i].1]=Zg (acc++[rs[i].1]):=by simp[QY]
   rw[L,JK,hw,ZC hlt,Zh,hp]
   simp only[hlt',Int.natCast_nonneg,decide_true,Zr,Zo,Bool.and_self,Zz,zbX,←Zb,h1,Zf,Z9,Y1,ZE,Z2,ZN]
   by_cases he:rs[i].2=0
   ·simp only[he,zbD,Zh,List.length_singleton,hr,Bool.and_self,Zz,e1,ihh]
    by_cases h2:(X2 (rs.drop (i+1))).2=0
    ·have e:X2 (rs.drop i)=(rs[i].1::(X2 (rs.drop (i+1))).1,0):=by rw[hd];exact zql he h2
     simp[h2,e]
    ·have e:X2 (rs.drop i)=([],(X2 (rs.drop (i+1))).2):=by rw[hd];exact znd he h2
     simp[h2,e]
   ·have e:X2 (rs.drop i)=([],rs[i].2):=by rw[hd];exact zqk he
    simp[he,e]
 have h:=hL _ 0 [] rfl (Nat.zero_le _) rfl
 simp only[Int.natCast_zero,List.drop_zero,Jv,List.nil_append]at h
 rw[C,zeS,Zh,h]
 by_cases he:(X2 rs).2=0
 ·rw[if_pos he,he]
  simp[Zy]
 ·rw[if_neg he,ztP he]
  simp[Zy]
theorem zvt(t:T)(h:t.size≤1099511627776):Zj W 79 [enc t]=some (.bool (!may t)):=by
 have hm:=(X8 t h).p
 have h':Ev 79 [enc t] (.bool (!may t)):=by
  unfold Ev
  rw[C,Zb t,zrS,←Zb,hm]
  simp
 exact h'.p
theorem ztQ:cfg.pure 79=true:=by kernel_rfl
theorem zqn:cfg.pure 125=false:=by kernel_rfl
theorem zrT:cfg.pure 99=false:=by kernel_rfl
theorem zqo(xs:List T)(hs:sizes xs≤1099511627776)(st:St):W.call 73 [.vec .plain (some 3) (Zg xs), .fn 79 [] []] st=some (.ret (.bool (xs.any fun t=> !may t)),st):=
 zcE (a:=[]) (b:=[]) ztQ (p:=fun t=> !may t) xs (by have:=Zp xs;omega) (fun t ht=>zvt t (by have:=size_le ht;omega)) st
theorem ztR{β:Int}{θ:List T}(hθ: ∀x∈θ,may x=true∧okB β x)(h0:0≤β)(hl:θ.length≤1048576): ∀(N:Nat) (t:T) (n:Nat),t.size≤N→n+t.size≤100000→okB β t→ZT (β+t.size*90000000000)→Ev 80 [enc t, .vec .plain (some 3) (Zg θ), .int (n:Int)] (.tup [enc (YX θ t n).1, .int (YX θ t n).2]):=by
 intro N
 induction N with
 |zero=>intro t n h;have:=Xo t;omega
 |succ N ih=>
  intro t n hN hs ht hβ
  obtain⟨k,h,xs⟩:=t
  obtain⟨⟨b1,b2⟩,b3,b4⟩:=ht
  simp only[T.size]at hN hs hβ
  have hxl:=Zp xs
  have hh: ∀(m:Nat) (a:T),a∈xs→m≤n+1→Zj W 80 [enc a, .vec .plain (some 3) (Zg θ), .int (m:Int)]=some (.tup [enc (YX θ a m).1, .int (YX θ a m).2]):=by
   intro m a ha hm
   have hsz:=size_le ha
   exact(ih a m (by omega) (by omega) ((Xa _ _).1 b4 a ha) (ZZ hβ (by omega) (by omega))).p
  have h1: ∀(i:Nat) (hi:i<xs.length),W.call 125 ([]++[.int (i:Int),enc xs[i]]++[.cptr none (.bool (bindsB k)), .cptr (some 3) (.agg [.int k, .int h, .vec .plain (some 3) (Zg xs)]), .cptr none (.vec .plain (some 3) (Zg θ)), .cptr none (.int (n:Int))]) []=
    some (.ret (.tup [enc ((zbO θ (bindsB k) xs n)[i]'(by rw[Jx];exact hi)).1, .int ((zbO θ (bindsB k) xs n)[i]'(by rw[Jx];exact hi)).2]),[]):=by
   intro i hi
   have hp0:=hh n xs[i] (List.getElem_mem hi) (by omega)
   have hp1:=hh (n+1) xs[i] (List.getElem_mem hi) (by omega)
   have hw:IntKind.i64.wrap ((xs.length:Int)-1)=(xs.length:Int)-1:=Zq ⟨by omega,by omega⟩
   have hw2:IntKind.i64.wrap ((n:Int)+1)=(n:Int)+1:=Zq ⟨by omega,by omega⟩
   simp only[Int.natCast_add,Int.natCast_one]at hp1
   rw[zne θ _ xs n i hi]
   simp only[List.nil_append,List.cons_append]
   rw[C,Zb xs[i],zmv,←Zb,Zh,hw,hw2]
   cases hb:bindsB k with
   |false=>
    simp[hp0,Zy,←Zb]
   |true=>
    by_cases hl:i+1=xs.length
    ·have:((i:Int)==(xs.length:Int)-1)=true:=by simp;omega
     simp[this,hl,hp1,Zy,←Zb]
    ·have:((i:Int)==(xs.length:Int)-1)=false:=by simp;omega
     simp[this,hl,hp0,Zy,←Zb]
  have h2:=zlg (a:=[]) zqn xs (zbO θ (bindsB k) xs n) (Jx θ _ xs n) (by omega) [] h1
  rw[←zlf]at h2
  have h2':W.call 98 [.vec .plain (some 3) (Zg xs), .fn 125 [] [.cptr none (.bool (bindsB k)), .cptr (some 3) (.agg [.int k, .int h, .vec .plain (some 3) (Zg xs)]), .cptr none (.vec .plain (some 3) (Zg θ)), .cptr none (.int (n:Int))]] []=some (.ret (.tup [.vec .plain (some 3) (Zg (Y3 θ (bindsB k) xs n).1), .int (Y3 θ (bindsB k) xs n).2]),[]):=h2
  unfold Ev
  have hC:W.call 80 [enc (.mk k h xs), .vec .plain (some 3) (Zg θ), .int (n:Int)] []=Ze Tryz.prog cfg W 80 [.agg [.int k, .int h, .vec .plain (some 3) (Zg xs)], .vec .plain (some 3) (Zg θ), .int (n:Int)] []:=C ..
  have hlen:=ziD θ (bindsB k) xs n
  have hok:=zvs hθ h0 xs n (bindsB k) b4 (ZZ hβ (by omega) (by omega))
  have hfl:YX θ (.mk k h xs) n=(if(Y3 θ (bindsB k) xs n).2≠0 then(T0,(Y3 θ (bindsB k) xs n).2)else if k≠6 then(.mk k h (Y3 θ (bindsB k) xs n).1,0)else if(θ.length:Int)≤h then(T0,2)else if(Y3 θ (bindsB k) xs n).1.any (fun x=> !may x)then(T0,4)else Yz (θ.getD h.toNat T0) (Y3 θ (bindsB k) xs n).1 n):=by
   conv=>lhs;unfold YX
  generalize hfx:Y3 θ (bindsB k) xs n=r at*
  have hbn:(bc (k==1) (W.call 98 [.vec .plain (some 3) (Zg xs), .fn 125 [] [.cptr none (.bool true), .cptr (some 3) (.agg [.int k, .int h, .vec .plain (some 3) (Zg xs)]), .cptr none (.vec .plain (some 3) (Zg θ)), .cptr none (.int (n:Int))]] []) (W.call 98 [.vec .plain (some 3) (Zg xs), .fn 125 [] [.cptr none (.bool (k==3)), .cptr (some 3) (.agg [.int k, .int h, .vec .plain (some 3) (Zg xs)]), .cptr none (.vec .plain (some 3) (Zg θ)), .cptr none (.int (n:Int))]] []))=some (.ret (.tup [.vec .plain (some 3) (Zg r.1), .int r.2]),[]):=by
   rw[←h2']
   unfold bindsB
   by_cases h1:k=1
   ·subst h1;rfl
   ·have e1:(k==1)=false:=by simpa using h1
    have e3:(k==3)=decide (k=3):=rfl
    simp[e1,e3,h1]
  have hc1:k=1→W.call 98 [.vec .plain (some 3) (Zg xs), .fn 125 [] [.cptr none (.bool true), .cptr (some 3) (.agg [.int k, .int h, .vec .plain (some 3) (Zg xs)]), .cptr none (.vec .plain (some 3) (Zg θ)), .cptr none (.int (n:Int))]] []=some (.ret (.tup [.vec .plain (some 3) (Zg r.1), .int r.2]),[]):=by
   intro hk
   rw[show(k==1)=true by simpa using hk,Zr]at hbn
   exact hbn
  have hc2:k≠1→W.call 98 [.vec .plain (some 3) (Zg xs), .fn 125 [] [.cptr none (.bool (k==3)), .cptr (some 3) (.agg [.int k, .int h, .vec .plain (some 3) (Zg xs)]), .cptr none (.vec .plain (some 3) (Zg θ)), .cptr none (.int (n:Int))]] []=some (.ret (.tup [.vec .plain (some 3) (Zg r.1), .int r.2]),[]):=by
   intro hk
   rw[show(k==1)=false by simpa using hk,Zo]at hbn
   exact hbn
  rw[hC,zqj,hfl,Zh]
  clear hbn h2 h2' hfl hC
  have hbase:ZT (β+sizes xs*90000000000):=ZZ hβ (by omega) (by omega)
  have hany:=fun(hz:r.2=0)=>zqo r.1 (by have:=(hok hz).2;omega) []
  have hApp:r.2=0→0≤h→(hlt:h<θ.length)→Zj W 126 [enc (θ[h.toNat]'(by omega)), .agg [.vec .plain (some 3) (Zg r.1), .int (n:Int)]]=some (.tup [enc (Yz (θ[h.toNat]'(by omega)) r.1 n).1, .int (Yz (θ[h.toNat]'(by omega)) r.1 n).2]):=by
   intro hz hh0 hlt
   have hm:=hθ _ (List.getElem_mem (show h.toNat<θ.length by omega))
   have:=Yu hm.1
   exact(zcm hbase (t:=θ[h.toNat]'(by omega)) (l:=r.1) (s:=n) (by omega) (by have:=(hok hz).2;omega) (fun _=>Z6 (by omega) _ hm.2) (fun _=>(Xa _ _).1 (hok hz).1)).p
  have hget:(hlt:h<θ.length)→ZA (Zg θ) h=enc (θ[h.toNat]'(by omega))∧θ.getD h.toNat T0=θ[h.toNat]'(by omega):=by
   intro hlt
   have hn:h.toNat<θ.length:=by omega
   have hii:((h.toNat:Nat):Int)=h:=by omega
   refine⟨by have:=ZC hn;rwa [hii]at this,by simp[List.getD_eq_getElem?_getD,hn]⟩
  by_cases hk1:k=1
  ·rw[show(k==1)=true by simpa using hk1,Zr,hc1 hk1]
   subst hk1
   by_cases hz:r.2=0
   ·simp[hz,below,Zm,Zu,enc]
   ·simp[hz,Zb T0]
  ·rw[show(k==1)=false by simpa using hk1,Zo,hc2 hk1]
   by_cases hz:r.2=0
   ·by_cases h6:k=6
    ·by_cases hlt:h<θ.length
     ·obtain⟨g1,g2⟩:=hget hlt
      have hge: ¬(θ.length:Int)≤h:=by omega
      have hge2: ¬h≥(θ.length:Int):=by omega
      cases ha:r.1.any (fun t=> !may t)with
      |true=>simp[hz,h6,hge,hge2,hany hz,ha,Zb T0]
      |false=>simp[hz,h6,hge,hge2,hany hz,ha,hlt,b1,g1,g2,hApp hz b1 hlt,←Zb,below,Zm,Zu]
     ·have hge:(θ.length:Int)≤h:=by omega
      have hge2:h≥(θ.length:Int):=by omega
      simp[hz,h6,hge,hge2,Zb T0]
    ·simp[hz,h6,below,Zm,Zu,enc]
   ·simp[hz,Zb T0]
theorem zdi{β:Int}(h0:0≤β)(hβ:ZT (β+360000000000000)){t:T}{θ:List T}{n:Int}(hs:t.size≤1099511627776)(hl:sizes θ≤1099511627776)(hθ: ∀x∈θ,may x=true→okB β x)(ht:may t=true→okB β t):
  Ev 26 [enc t, .vec .plain (some 3) (Zg θ), .int n] (.tup [enc (Yy t θ n).1, .int (Yy t θ n).2]):=by
 have o1:=zvt t hs
 have o2:=zqo θ hl []
 unfold Ev Yy
 rw[C,Zb t,zqi,←Zb t,o1,Zh]
 cases hm:may t with
 |false=>simp[Zb T0]
 |true=>
  by_cases c1:n<0
  ·simp[c1,Zb T0]
  by_cases c2:1000<n
  ·simp[c1,c2,Zb T0]
  by_cases c3:200<θ.length
  ·have:(θ.length:Int)>200:=by omega
   simp[c1,c2,c3,this,Zb T0]
  have c3': ¬(θ.length:Int)>200:=by omega
  cases c4:θ.any (fun t=> !may t)with
  |true=>simp[c1,c2,c3,c3',o2,c4,Zb T0]
  |false=>
   have hall: ∀x∈θ,may x=true:=fun x hx=>by have:=List.any_eq_false.1 c4 x hx;simpa using this
   have hsz:=Yu hm
   obtain⟨m,rfl⟩:=Int.eq_ofNat_of_zero_le (show 0≤n by omega)
   have hf:=(ztR (β:=β) (fun x hx=>⟨hall x hx,hθ x hx (hall x hx)⟩) h0 (by omega) t.size t m (Nat.le_refl _) (by omega) (ht hm) (ZZ hβ (by omega) (by omega))).p
   have hr:(YX θ t m).2=0→(YX θ t m).1.size≤4000*t.size:=fun hz=>(zlc (fun x hx=>⟨hall x hx,hθ x hx (hall x hx)⟩) h0 t m (ht hm) (ZZ hβ (by omega) (by omega)) hz).2
   by_cases hz:(YX θ t m).2=0
   ·have o3:=zvt (YX θ t m).1 (by have:=hr hz;omega)
    cases hmm:may (YX θ t m).1<;>simp[c1,c2,c3,c3',o2,c4,hf,hz,o3,hmm,Zb T0,←Zb,below,Zm,Zu]
   ·simp[c1,c2,c3,c3',o2,c4,hf,hz,Zb T0]
theorem zqp{β:Int}(h0:0≤β)(hβ:ZT (β+360000000000000)){l θ:List T}{n:Nat}(hs:sizes l≤1099511627776)(hn:n≤1099511627776)(hl:sizes θ≤1099511627776)(hθ: ∀x∈θ,may x=true→okB β x)(ht: ∀x∈l,may x=true→okB β x):
  Ev 33 [.vec .plain (some 3) (Zg l), .vec .plain (some 3) (Zg θ), .int (n:Int)] (.tup [.vec .plain (some 3) (Zg (Ys θ l n).1), .int (Ys θ l n).2]):=by
 have hll:=Zp l
 have h1: ∀(i:Nat) (hi:i<l.length),W.call 99 ([]++[.int (i:Int),enc l[i]]++[.cptr none (.vec .plain (some 3) (Zg θ)), .cptr none (.int (n:Int))]) []=
   some (.ret (.tup [enc ((zeT θ l n)[i]'(by rw[JY];exact hi)).1, .int ((zeT θ l n)[i]'(by rw[JY];exact hi)).2]),[]):=by
  intro i hi
  have hsz:=size_le (List.getElem_mem hi)
  have hf:=(zdi h0 hβ (t:=l[i]) (θ:=θ) (n:=(n:Int)+i) (by omega) hl hθ (ht _ (List.getElem_mem hi))).p
  have hw:IntKind.i64.wrap ((n:Int)+i)=(n:Int)+i:=Zq ⟨by omega,by omega⟩
  rw[zqm θ l n i hi]
  simp only[List.nil_append,List.cons_append]
  rw[C,Zb l[i],zos,←Zb,hw,hf]
  simp[Zy,←Zb]
 have h2:=zlg (a:=[]) zrT l (zeT θ l n) (JY θ l n) (by omega) [] h1
 rw[←zhp]at h2
 unfold Ev
 rw[C,zrR,h2]
 simp[below,Zm,Zu]
end Go.Proofs.CL
namespace Go.Ama
open Go Go.AM
def Jk:List Int→Int
 |[]=>0
 |e::l=>if e≠0 then e else Jk l
def zbp(b:Bool)(e:Int):Int:=if b then 0 else e
def zdj(schema ctx:List T):Bool:=ctx.all fun a=>schema.any fun s=>s.same a
abbrev M0:M:=⟨[],T0,false⟩
noncomputable def Xs(ext ctx:List T)(a:T)(θ:List T):M×Int:=
 let l:=Ys θ ctx 0
 if l.2≠0 then(M0,l.2)
 else
  let t:=Yy a θ ctx.length
  if t.2≠0 then(M0,t.2)else(⟨ext++l.1,t.1,false⟩,0)
noncomputable def zaS(sig:List D)(over:List M)(ext ctx:List T)(a:T)(θ:List T)(t:T):Int:=
 let i:=Xs ext ctx a θ
 if i.2≠0 then i.2 else YW sig over i.1.ctx t i.1.t
noncomputable def zfw(sig:List D)(over:List M)(from_ f:Fun1)(c:Cal):Int:=
 Jk [zbp (decide (c.ext.length≤40)) 4,zbp (zdj f.schema c.ext&&zdj f.schema from_.schema) 9,zot sig over c.ext f.delta c.theta,zaS sig over c.ext f.psi f.a c.theta c.arg]
noncomputable def Xt(sig:List D)(over:List M)(from_ f:Fun1)(c:Cal):M×Int:=
 if zfw sig over from_ f c≠0 then(M0,zfw sig over from_ f c)else Xs c.ext f.phi f.b c.theta
def ztS(h:Int)(s:List Int):List Int:=if h∈s then s else s++[h]
def zdK(_:Int)(t:T)(s:List Int):List Int:=if t.k=6 then ztS t.h s else s
def YC(t:T):List Int:=QX (XG zdK t 0 [])
def zbP(p:T)(n:Int)(many:Nat):Int:=if(List.range many).all (fun i=>decide (((i:Nat):Int)∈YC p))then zbp (XA p n) 5 else 5
noncomputable def XH(sig:List D)(funs:List Fun1)(f:Fun1):List Cal→List M→List M×Int
 |[],over=>(over,0)
 |x::l,over=>
  if h:0≤x.f∧x.f<funs.length then
   let m:=Xt sig over f (funs[x.f.toNat]'(by omega)) x
   if m.2≠0 then(over,m.2)else XH sig funs f l (over++[m.1])
  else(over,2)
noncomputable def zfx(sig:List D)(funs:List Fun1)(no:Int)(c:Cl):Int:=
 if h:0≤no∧no<funs.length then
  let f:=funs[no.toNat]'(by omega)
  let r:=XH sig funs f c.calls c.metas
  Jk [zbp (decide (c.calls.length≤40)) 4,(zcG sig c.metas).2,zot sig c.metas [] f.delta c.theta,zaS sig c.metas [] f.psi f.a c.theta c.p,zbP c.p f.psi.length c.metas.length,r.2,zaS sig r.1 [] f.phi f.b c.theta c.r]
 else 2
structure Hd(x:T):Prop where
 size:x.size≤4000
 ok:may x=true→okB 1000000000000000 x
structure Lo(x:T):Prop where
 size:x.size≤1000
 ok:may x=true→okB 1099511627776 x
theorem Lo.hd{x:T}(h:Lo x):Hd x:=⟨by have:=h.size;omega,fun m=>Z6 (by omega) _ (h.ok m)⟩
structure Los(n:Nat)(l:List T):Prop where
 len:l.length≤n
 all: ∀x∈l,Lo x
structure Hds(n:Nat)(l:List T):Prop where
 len:l.length≤n
 all: ∀x∈l,Hd x
theorem Los.hds{n:Nat}{l:List T}(h:Los n l):Hds n l:=⟨h.len,fun x hx=>(h.all x hx).hd⟩
structure LoM(m:M):Prop where
 ctx:Los 60 m.ctx
 t:Lo m.t
structure HdM(m:M):Prop where
 ctx:Hds 120 m.ctx
 t:Hd m.t
theorem LoM.hd{m:M}(h:LoM m):HdM m:=⟨⟨by have:=h.ctx.len;omega,fun x hx=>(h.ctx.all x hx).hd⟩,h.t.hd⟩
theorem Hds.szs{n:Nat}{l:List T}(h:Hds n l):sizes l≤n*4000:=by
 have: ∀l:List T,(∀x∈l,Hd x)→sizes l≤l.length*4000:=by
  intro l
  induction l with
  |nil=>intro _;simp[sizes]
  |cons a l ih=>intro h;have:=(h a (by simp)).size;have:=ih fun x hx=>h x (by simp[hx]);rw[sizes,List.length_cons,Nat.add_mul];omega
 exact Nat.le_trans (this l h.all) (Nat.mul_le_mul_right 4000 h.len)
theorem Hds.app{n m:Nat}{a b:List T}(h:Hds n a)(g:Hds m b):Hds (n+m) (a++b):=
 ⟨by have:=h.len;have:=g.len;simp;omega,fun x hx=>(List.mem_append.1 hx).elim (h.all x) (g.all x)⟩
theorem Hds.mono{n m:Nat}{a:List T}(h:Hds n a)(hn:n≤m):Hds m a:=⟨by have:=h.len;omega,h.all⟩
theorem Hds.nil(n:Nat):Hds n []:=⟨Nat.zero_le _,fun x hx=>by cases hx⟩
theorem Hds.take{n:Nat}{l:List T}(h:Hds n l)(i:Nat):Hds n (l.take i):=⟨by have:=h.len;simp;omega,fun x hx=>h.all x (List.mem_of_mem_take hx)⟩
theorem zsH{sig:List D}{ms:List M}{ctx l:List T}(hs:sig.length≤1000∧ ∀d∈sig,Hd d.t)(hm:ms.length≤1000∧ ∀m∈ms,HdM m)(hc:Hds 200 ctx)(hl:Hds 200 l):In sig ms ctx l where
 s d hd:=⟨by have:=(hs.2 d hd).size;omega,fun m=>Z6 (by omega) _ ((hs.2 d hd).ok m)⟩
 m m hm':=by
  have h:=hm.2 m hm'
  have h1:=h.ctx.szs
  have h2:=h.t.size
  exact⟨by omega,fun q=>Z6 (by omega) _ (h.t.ok q),fun x hx q=>Z6 (by omega) _ ((h.ctx.all x hx).ok q)⟩
 c:=⟨by have:=hc.szs;omega,fun x hx q=>Z6 (by omega) _ ((hc.all x hx).ok q)⟩
 l:=⟨by have:=hl.szs;omega,fun x hx q=>Z6 (by omega) _ ((hl.all x hx).ok q)⟩
 sl:=by omega
 ml:=by omega
theorem zcr:ZT (1099511627776+360000000000000):=by unfold ZT;omega
theorem zqq{t:T}{θ:List T}{n:Int}(ht:Lo t)(hθ: ∀x∈θ,Lo x)(hz:(Yy t θ n).2=0):Hd (Yy t θ n).1:=by
 obtain⟨q1,q2,_⟩:=zho (β:=1099511627776) (by omega) (fun x hx=>(hθ x hx).ok) ht.ok zcr hz
 exact⟨Yu q1,fun _=>Z6 (by omega) _ q2⟩
theorem zgv{l θ:List T}{n:Int}{N:Nat}(hl:Los N l)(hθ: ∀x∈θ,Lo x)(hz:(Ys θ l n).2=0):Hds N (Ys θ l n).1:=by
 refine⟨by rw[zjs θ l n hz];exact hl.len,fun x hx=> ?_⟩
 obtain⟨q1,q2⟩:=zld (β:=1099511627776) (by omega) (fun x hx=>(hθ x hx).ok) zcr l n (fun x hx=>(hl.all x hx).ok) hz x hx
 exact⟨Yu q1,fun _=>Z6 (by omega) _ q2⟩
theorem zlh{ext ctx θ:List T}{a:T}(he:Hds 60 ext)(hc:Los 60 ctx)(ha:Lo a)(hθ: ∀x∈θ,Lo x)(hz:(Xs ext ctx a θ).2=0):HdM (Xs ext ctx a θ).1:=by
 unfold Xs at hz⊢
 dsimp only at hz⊢
 by_cases h1:(Ys θ ctx 0).2≠0
 ·rw[if_pos h1]at hz;exact absurd hz h1
 ·rw[if_neg h1]at hz⊢
  by_cases h2:(Yy a θ ctx.length).2≠0
  ·rw[if_pos h2]at hz;exact absurd hz h2
  ·rw[if_neg h2]
   exact⟨he.app (zgv hc hθ (Decidable.not_not.1 h1)),zqq ha hθ (Decidable.not_not.1 h2)⟩
theorem zwV:Hd T0:=⟨by decide,fun _=>by simp[okB,JN]⟩
theorem zwW:HdM M0:=⟨Hds.nil _,zwV⟩
structure LoCal(c:Cal):Prop where
 ext:Los 60 c.ext
 theta:Los 60 c.theta
 arg:Lo c.arg
structure LoCl(c:Cl):Prop where
 mlen:c.metas.length≤60
 metas: ∀m∈c.metas,LoM m
 theta:Los 60 c.theta
 p:Lo c.p
 r:Lo c.r
 clen:c.calls.length≤60
 calls: ∀x∈c.calls,LoCal x
structure LoFn(f:Fun1):Prop where
 dlen:f.delta.length≤60
 delta: ∀m∈f.delta,LoM m
 schema:Los 60 f.schema
 psi:Los 60 f.psi
 a:Lo f.a
 phi:Los 60 f.phi
 b:Lo f.b
 clen:f.clauses.length≤60
 clauses: ∀c∈f.clauses,LoCl c
theorem zli{sig:List D}{over:List M}{g f:Fun1}{c:Cal}(hf:LoFn f)(hc:LoCal c):HdM (Xt sig over g f c).1:=by
 unfold Xt
 by_cases h:zfw sig over g f c≠0
 ·rw[if_pos h];exact zwW
 ·rw[if_neg h]
  by_cases hz:(Xs c.ext f.phi f.b c.theta).2=0
  ·exact zlh hc.ext.hds hf.phi hf.b hc.theta.all hz
  ·have:(Xs c.ext f.phi f.b c.theta).1=M0:=by
    unfold Xs at hz⊢
    dsimp only at hz⊢
    by_cases h1:(Ys c.theta f.phi 0).2≠0
    ·rw[if_pos h1]
    ·rw[if_neg h1]at hz⊢
     by_cases h2:(Yy f.b c.theta f.phi.length).2≠0
     ·rw[if_pos h2]
     ·rw[if_neg h2]at hz;exact absurd rfl hz
   rw[this];exact zwW
theorem znf{sig:List D}{funs:List Fun1}{f:Fun1}(hf: ∀g∈funs,LoFn g): ∀(l:List Cal) (over:List M),(∀x∈l,LoCal x)→(∀m∈over,HdM m)→(∀m∈(XH sig funs f l over).1,HdM m)∧(XH sig funs f l over).1.length≤over.length+l.length
 |[],over,_,ho=>⟨ho,by simp[XH]⟩
 |x::l,over,hl,ho=>by
  unfold XH
  split
  ·rename_i h
   dsimp only
   split
   ·exact⟨ho,Nat.le_add_right _ _⟩
   ·obtain⟨q1,q2⟩:=znf hf l (over++[(Xt sig over f (funs[x.f.toNat]'(by omega)) x).1]) (fun y hy=>hl y (by simp[hy])) (fun m hm=>by
     rcases List.mem_append.1 hm with hm|hm
     ·exact ho m hm
     ·rw[List.mem_singleton]at hm
      rw[hm]
      exact zli (hf _ (List.getElem_mem _)) (hl x (by simp)))
    refine⟨q1, ?_⟩
    simp only[List.length_append,List.length_cons,List.length_nil]at q2⊢
    omega
  ·exact⟨ho,Nat.le_add_right _ _⟩
end Go.Ama
namespace Go.Ama
open Go Go.AM
def Q1(s:List Int):List (V×V):=s.map fun h=>(.int h, .bool true)
theorem zqr(h:Int): ∀s:List Int,Jo (Q1 s) (.int h) (.bool true)=Q1 (ztS h s)
 |[]=>rfl
 |x::s=>by
  have ih:=zqr h s
  unfold ztS at ih⊢
  simp only[Q1,List.map_cons,Jo,zg6]
  by_cases hx:h=x
  ·subst hx
   simp
  ·have hb:(h==x)=false:=by simpa using hx
   rw[hb,cond_false]
   have:Jo (List.map (fun h=>(V.int h,V.bool true)) s) (.int h) (.bool true)=_:=ih
   rw[this]
   by_cases hs:h∈s
   ·simp[hs,Q1]
   ·simp[hs,hx,Q1]
theorem zng: ∀s:List Int,zdY (Q1 s)=some s
 |[]=>rfl
 |x::s=>by
  have:=zng s
  simp only[Q1,List.map_cons,zdY]at this⊢
  rw[this]
  rfl
theorem zlj(s:List Int):(Q1 s).length=s.length:=by simp[Q1]
theorem zjt: ∀{s:List Int},s.Nodup→zeD s=true
 |[],_=>rfl
 |x::s,h=>by
  obtain⟨h1,h2⟩:=List.nodup_cons.1 h
  simp only[zeD,Bool.and_eq_true,List.all_eq_true,Bool.not_eq_true',beq_eq_false_iff_ne]
  exact⟨fun y hy e=>h1 (e▸hy),zjt h2⟩
structure Seen(B:Int)(n:Nat)(s:List Int):Prop where
 nodup:s.Nodup
 all: ∀x∈s,0≤x∧x≤B
 len:s.length≤n
theorem ztT{B:Int}{n:Nat}{s:List Int}(h:Seen B n s){x:Int}(hx:0≤x∧x≤B):Seen B (n+1) (ztS x s):=by
 unfold ztS
 by_cases hs:x∈s
 ·rw[if_pos hs];exact⟨h.nodup,h.all,by have:=h.len;omega⟩
 ·rw[if_neg hs]
  refine⟨List.nodup_append.2 ⟨h.nodup,by simp,fun a ha b hb e=> ?_⟩,fun y hy=> ?_,by have:=h.len;simp;omega⟩
  ·rw[List.mem_singleton]at hb
   subst hb;subst e
   exact hs ha
  ·rcases List.mem_append.1 hy with hy|hy
   ·exact h.all y hy
   ·rw[List.mem_singleton]at hy;subst hy;exact hx
theorem zgw{B:Int}(t:T): ∀(n:Int) (s:List Int) (m:Nat),okB B t→Seen B m s→Seen B (m+t.size) (XG zdK t n s):=by
 induction t using T.ind with
 |_ k h xs ih=>
  intro n s m ht hs
  obtain⟨⟨b1,b2⟩,_,b4⟩:=ht
  have hl: ∀(l:List T),(∀a∈l,∀(n:Int) (s:List Int) (m:Nat),okB B a→Seen B m s→Seen B (m+a.size) (XG zdK a n s))→JN B l→ ∀(b:Bool) (n:Int) (s:List Int) (m:Nat),Seen B m s→Seen B (m+sizes l) (Qd zdK l b n s):=by
   intro l
   induction l with
   |nil=>intro _ _ b n s m hs;exact hs
   |cons a l ihl=>
    intro ih hb b n s m hs
    unfold Qd
    have q1:=ih a (by simp) (if(b&&l.isEmpty)=true then n+1 else n) s m hb.1 hs
    have q2:=ihl (fun x hx=>ih x (by simp[hx])) hb.2 b n _ _ q1
    exact⟨q2.nodup,q2.all,by have:=q2.len;simp only[sizes];omega⟩
  unfold XG
  have q1:Seen B (m+1) (zdK n (.mk k h xs) s):=by
   unfold zdK
   by_cases h6:(T.mk k h xs).k=6
   ·rw[if_pos h6];exact ztT hs ⟨b1,b2⟩
   ·rw[if_neg h6];exact⟨hs.nodup,hs.all,by have:=hs.len;omega⟩
  have q2:=hl xs ih b4 (bindsB k) n _ _ q1
  exact⟨q2.nodup,q2.all,by have:=q2.len;simp only[T.size];omega⟩
theorem zlk(B:Int):Seen B 0 []:=⟨List.nodup_nil,(fun x hx=>by cases hx),Nat.le_refl _⟩
theorem Seen.wide{B:Int}{n:Nat}{s:List Int}(h:Seen B n s)(hB:B≤9223372036854775807):s.all zmO=true:=by
 rw[List.all_eq_true]
 intro x hx
 have:=h.all x hx
 unfold zmO
 simp only[Bool.and_eq_true,decide_eq_true_eq]
 omega
end Go.Ama
namespace Go.Proofs.CL
open Go Go.AM Go.Ama
set_option maxRecDepth 100000
theorem zll(t:T)(ms:List M)(h:0≤t.h):Ev 78 [enc t, .vec .plain (some 5) (ZH ms)] (.bool (QB t ms)):=by
 unfold Ev QB
 rw[C,Zb t,ziC,ZL,Zh]
 by_cases h6:t.k=6
 ·by_cases hlt:t.h<ms.length
  ·have hn:t.h.toNat<ms.length:=by omega
   have hii:((t.h.toNat:Nat):Int)=t.h:=by omega
   have hg:ZA (ZH ms) t.h=zaw ms[t.h.toNat]:=by have:=J8 hn;rwa [hii]at this
   have he: ∀(m:M) (K:Bool→Option (Out×St)),YP (zaw m) (fun c=>gd (decide (5≤c.length)) (Zi (AM.partOf c 4 none) K))=K m.param:=fun m K=>rfl
   have hd:ms.getD t.h.toNat ⟨[],T0,false⟩=ms[t.h.toNat]:=by simp[List.getD_eq_getElem?_getD,hn]
   simp[h6,hlt,h,hg,he,hd]
  ·simp[h6,hlt]
 ·by_cases h4:t.k=4
  ·have:((t.args.length:Int)==0)=t.args.isEmpty:=by cases t.args<;>simp
   simp[h4,this]
  ·simp[h6,h4]
theorem zqs{g:Nat}{a b:List V}(hp:cfg.pure g=false){p:T→Bool}(xs:List T)(hs:xs.length≤1099511627776)(st:St)(hg: ∀t∈xs,W.call g (a++[enc t]++b) st=some (.ret (.bool (p t)),st)):
  ∀(n i:Nat),xs.length-i=n→i≤xs.length→(∃j:Nat,(xs.drop i).any p=true∧W.loop 122 2 [.int (i:Int), .vec .plain (some 3) (Zg xs), .fn g a b, .int xs.length] st=some (.ret,[.int (j:Int)],st))∨
   ((xs.drop i).any p=false∧W.loop 122 2 [.int (i:Int), .vec .plain (some 3) (Zg xs), .fn g a b, .int xs.length] st=some (.exit 0,[],st)):=by
 intro n
 induction n with
 |zero=>
  intro i hn hi
  have:i=xs.length:=by omega
  subst this
  right
  refine⟨by simp, ?_⟩
  rw[L,Yd]
  simp
 |succ n ih=>
  intro i hn hi
  have hlt:i<xs.length:=by omega
  have hx:=hg xs[i] (List.getElem_mem hlt)
  have hd:xs.drop i=xs[i]::xs.drop (i+1):=List.drop_eq_getElem_cons hlt
  have hstep:W.loop 122 2 [.int (i:Int), .vec .plain (some 3) (Zg xs), .fn g a b, .int xs.length] st=
    bc (p xs[i]) (some (.ret,[.int (i:Int)],st)) (W.loop 122 2 [.int ((i+1:Nat):Int), .vec .plain (some 3) (Zg xs), .fn g a b, .int xs.length] st):=by
   rw[L,Yd,ZC hlt]
   rw[Zq ⟨by omega,by omega⟩]
   have h1:(i:Int)<xs.length:=by omega
   simp only[h1,Zh,Int.natCast_nonneg,decide_true,Bool.and_self,Zz,Zr,zbX,hp,Zo,←Zb,hx,Zf,Z9,Z0]
   rfl
  rw[hstep,hd,List.any_cons]
  cases hpx:p xs[i]with
  |true=>exact .inl ⟨i,rfl,rfl⟩
  |false=>
   simp only[bc,Bool.false_or]
   exact ih (i+1) (by omega) (by omega)
theorem zeU{g:Nat}{a b:List V}(hp:cfg.pure g=false){p:T→Bool}(xs:List T)(hs:xs.length≤1099511627776)(st:St)(hg: ∀t∈xs,W.call g (a++[enc t]++b) st=some (.ret (.bool (p t)),st)):
  W.call 73 [.vec .plain (some 3) (Zg xs), .fn g a b] st=some (.ret (.bool (xs.any p)),st):=by
 have h:=zqs hp xs hs st hg _ 0 rfl (Nat.zero_le _)
 rw[C,Xe,C,X0]
 simp only[List.drop_zero,Int.natCast_zero]at h
 rcases h with⟨j,h1,h2⟩|⟨h1,h2⟩
 ·simp[h2,h1,Zy]
 ·simp[h2,h1,Zy]
theorem zrU:cfg.pure 72=false:=by kernel_rfl
theorem zqt:cfg.pure 74=false:=by kernel_rfl
theorem zfS(schema ctx:List T)(h1:sizes schema≤1099511627776)(h2:sizes ctx≤1099511627776):Ev 23 [.vec .plain (some 3) (Zg schema), .vec .plain (some 3) (Zg ctx)] (.bool (zdj schema ctx)):=by
 have hl1:=Zp schema
 have hl2:=Zp ctx
 have hin: ∀a∈ctx,W.call 72 ([]++[enc a]++[.cptr none (.vec .plain (some 3) (Zg schema))]) []=some (.ret (.bool (!schema.any fun s=>s.same a)),[]):=by
  intro a ha
  have hs: ∀s∈schema,W.call 74 ([]++[enc s]++[.cptr (some 3) (enc a)]) []=some (.ret (.bool (s.same a)),[]):=by
   intro s hsm
   have S:=(zgk s a (by have:=size_le hsm;omega) (by have:=size_le ha;omega)).p
   simp only[List.nil_append,List.cons_append]
   rw[C,Zb s,Zb a,zeR,←Zb,←Zb,S]
   simp[Zy]
  have hc:=zeU (a:=[]) zqt schema (by omega) [] hs
  simp only[List.nil_append,List.cons_append]
  rw[C,Zb a,zgu,←Zb,hc]
  simp[Zy]
 have hc:=zeU (a:=[]) zrU ctx (by omega) [] hin
 unfold Ev zdj
 rw[C,ziB,hc]
 have:(ctx.all fun a=>schema.any fun s=>s.same a)= !ctx.any fun a=> !schema.any fun s=>s.same a:=by simp[List.all_eq_not_any_not]
 simp[this]
end Go.Proofs.CL
namespace Go.Proofs.CL
open Go Go.AM
set_option maxRecDepth 20000
theorem zqu(O:Oracle)(l0:(List V))(l1:(List V))(l2:(List V)):Ze Tryz.prog cfg O 10 [.vec .plain (some 4) l0, .vec .plain (some 5) l1, .vec .plain (some 3) l2] []=
 Za (Zj O 38 [V.vec .plain (some 4) l0]) fun r1=>Zi r1 fun b2=>bc (!b2) (some (Out.ret (V.bool false),[])) (bc (decide ((↑l1.length:Int)>30)) (some
 (Out.ret (V.bool false),[])) (Za (O.loop 10 5 [V.int 0,V.vec .plain (some 5) l1,V.vec .plain (some 3) l2] []) fun r3=>Y8 r3.fst none (Zd r3.snd.fst fun v4
 c5=>Zi v4 fun b6=>Zn c5 (some (Out.ret (V.bool b6),[]))) (fun i7=>bc (i7.beq 0) (Zd r3.snd.fst fun v8 c9=>Yi (some 3) v8 fun l10=>Zn c9 (Za (Zj O
 24 [V.vec .plain (some 3) l10,V.int 500,V.int 80]) fun r11=>Zi r11 fun b12=>some (Out.ret (V.bool b12),[]))) none) fun v13=>none)):=by kernel_rfl
theorem zeV(O:Oracle)(n0:Int)(l1:(List V))(l2:(List V)):Z1 Tryz.prog cfg O 10 5 [.int n0, .vec .plain (some 5) l1, .vec .plain (some 3) l2] []=
 bc (decide (n0<(↑l1.length:Int))) (gd (decide (0≤n0)&&decide (n0<(↑l1.length:Int))) (YP (ZA l1 n0) fun c1=>gd (decide (1≤c1.length)) (Yi (some 3)
 (AM.partOf c1 0 none) fun l2_1=>Za (Zj O 24 [V.vec .plain (some 3) l2_1,V.int 500,V.int 80]) fun r3=>Zi r3 fun b4=>gd (decide (0≤n0)&&decide (n0
 <(↑l1.length:Int))) (YP (ZA l1 n0) fun c5=>gd (decide (4≤c5.length)) (onCells [CT.int,CT.int,CT.slice (some 3)] (List.take 3 (List.drop 1 c5)) fun n6 n7 l8=>Za
 (Zj O 31 [V.agg [V.int n6,V.int n7,V.vec .plain (some 3) l8],V.int 500,V.int 80]) fun r9=>Zi r9 fun b10=>bc (!b4) (some (Ex.ret,[V.bool false],[])) (bc
 (!b10) (some (Ex.ret,[V.bool false],[])) (O.2 10 5 [V.int (IntKind.i64.wrap (n0+1)),V.vec .plain (some 5) l1,V.vec .plain (some 3) l2] []))))))) (some (Ex.exit 0,
 [V.vec .plain (some 3) l2],[])):=by kernel_rfl
theorem ziE(O:Oracle)(s0:ByteArray)(l1:(List V))(l2:(List V))(l3:(List V))(n4:Int)(n5:Int)(l6:(List V))(l7:(List V))(n8:Int)(n9:Int)(l10:(List V))(b11:Bool)(l12:(List V)):Ze Tryz.prog cfg O 17 [.agg [.str s0, .vec .plain (some 3) l1, .vec .plain (some 5) l2, .vec .plain (some 3) l3, .int n4, .int n5, .vec .plain (some 3) l6, .vec .plain (some 3) l7, .int n8, .int n9, .vec .plain (some 3) l10, .bool b11, .vec .plain (some 9) l12]] []=
 Za (Zj O 39 [V.vec .plain (some 5) l2]) fun r1=>Zi r1 fun b2=>Za (Zj O 24 [V.vec .plain (some 3) l1,V.int 300,V.int 60]) fun r3=>
 Zi r3 fun b4=>Za (Zj O 24 [V.vec .plain (some 3) l3,V.int 300,V.int 60]) fun r5=>Zi r5 fun b6=>Za (Zj O 24 [V.vec .plain (some
 3) l7,V.int 300,V.int 60]) fun r7=>Zi r7 fun b8=>Za (Zj O 31 [V.agg [V.int n4,V.int n5,V.vec .plain (some 3) l6],V.int 300,V.int 60]) fun r9=>
 Zi r9 fun b10=>Za (Zj O 31 [V.agg [V.int n8,V.int n9,V.vec .plain (some 3) l10],V.int 300,V.int 60]) fun r11=>Zi r11 fun b12=>bc (!b2) (some
 (Out.ret (V.bool false),[])) (bc (!b4) (some (Out.ret (V.bool false),[])) (bc (!b6) (some (Out.ret (V.bool false),[])) (bc (!b8) (some (Out.ret (V.bool false),[])) (bc (!b10)
 (some (Out.ret (V.bool false),[])) (bc (!b12) (some (Out.ret (V.bool false),[])) (bc (decide ((↑l12.length:Int)>50)) (some (Out.ret (V.bool false),[])) (Za (O.loop
 17 10 [V.int 0,V.loc false (some 13) (V.agg [V.str s0,V.vec .plain (some 3) l1,V.vec .plain (some 5) l2,V.vec .plain (some 3) l3,V.int n4,V.int n5,V.vec
 .plain (some 3) l6,V.vec .plain (some 3) l7,V.int n8,V.int n9,V.vec .plain (some 3) l10,V.bool b11,V.vec .plain (some 9) l12])] []) fun r13=>Y8 r13.fst none (Zd
 r13.snd.fst fun v14 c15=>Zi v14 fun b16=>Zn c15 (some (Out.ret (V.bool b16),[]))) (fun i17=>bc (i17.beq 0) (Zn r13.snd.fst (some (Out.ret (V.bool true),[])))
 none) fun v18=>none))))))):=by kernel_rfl
theorem zaH(O:Oracle)(n0:Int)(s1:ByteArray)(l2:(List V))(l3:(List V))(l4:(List V))(n5:Int)(n6:Int)(l7:(List V))(l8:(List V))(n9:Int)(n10:Int)(l11:(List V))(b12:Bool)(l13:(List V)):Z1 Tryz.prog cfg O 17 10 [.int n0, .loc false (some 13) (.agg [.str s1, .vec .plain (some 3) l2, .vec .plain (some 5) l3, .vec .plain (some 3) l4, .int n5, .int n6, .vec .plain (some 3) l7, .vec .plain (some 3) l8, .int n9, .int n10, .vec .plain (some 3) l11, .bool b12, .vec .plain (some 9) l13])] []=
 bc (decide (n0<(↑l13.length:Int))) (gd (decide (0≤n0)&&decide (n0<(↑l13.length:Int))) (Zc [CT.slice (some 5),CT.slice (some 3),CT.int,CT.int,CT.slice (some
 3),CT.slice (some 6),CT.int,CT.int,CT.slice (some 3)] (ZA l13 n0) fun l1 l2_1 n3 n4 l5 l6 n7 n8 l9=>Za (Zj O 12 [V.agg [V.vec .plain (some 5) l1,
 V.vec .plain (some 3) l2_1,V.int n3,V.int n4,V.vec .plain (some 3) l5,V.vec .plain (some 6) l6,V.int n7,V.int n8,V.vec .plain (some 3) l9]]) fun r10=>Zi r10 fun b11
 =>bc (!b11) (some (Ex.ret,[V.bool false],[])) (O.2 17 10 [V.int (IntKind.i64.wrap (n0+1)),V.loc false (some 13) (V.agg [V.str s1,V.vec .plain (some 3) l2,
 V.vec .plain (some 5) l3,V.vec .plain (some 3) l4,V.int n5,V.int n6,V.vec .plain (some 3) l7,V.vec .plain (some 3) l8,V.int n9,V.int n10,V.vec .plain (some 3) l11,V.bool
 b12,V.vec .plain (some 9) l13])] []))) (some (Ex.exit 0,[],[])):=by kernel_rfl
theorem zlm(O:Oracle)(l0:(List V))(n1:Int)(n2:Int):Ze Tryz.prog cfg O 24 [.vec .plain (some 3) l0, .int n1, .int n2] []=
 bc (decide ((↑l0.length:Int)>60)) (some (Out.ret (V.bool false),[])) (Za (O.loop 24 4 [V.int 0,V.int n2,V.int n1,V.vec .plain (some 3) l0] []) fun r1=>
 Y8 r1.fst none (Zd r1.snd.fst fun v2 c3=>Zi v2 fun b4=>Zn c3 (some (Out.ret (V.bool b4),[]))) (fun i5=>bc (i5.beq 0) (Zn r1.snd.fst (some (Out.ret (V.bool
 true),[]))) none) fun v6=>none):=by kernel_rfl
theorem zcs(O:Oracle)(n0:Int)(n1:Int)(n2:Int)(l3:(List V)):Z1 Tryz.prog cfg O 24 4 [.int n0, .int n1, .int n2, .vec .plain (some 3) l3] []=
 bc (decide (n0<(↑l3.length:Int))) (gd (decide (0≤n0)&&decide (n0<(↑l3.length:Int))) (Zc [CT.int,CT.int,CT.slice (some 3)] (ZA l3 n0) fun n1_1 n2_1 l3_1=>
 Za (Zj O 31 [V.agg [V.int n1_1,V.int n2_1,V.vec .plain (some 3) l3_1],V.int n2,V.int n1]) fun r4=>Zi r4 fun b5=>bc (!b5) (some (Ex.ret,[V.bool
 false],[])) (O.2 24 4 [V.int (IntKind.i64.wrap (n0+1)),V.int n1,V.int n2,V.vec .plain (some 3) l3] []))) (some (Ex.exit 0,[],[])):=by kernel_rfl
theorem zqv(O:Oracle)(l0:(List V)):Ze Tryz.prog cfg O 39 [.vec .plain (some 5) l0] []=
 Za (Zj O 10 [V.vec .plain (some 4) [],V.vec .plain (some 5) l0,V.vec .plain (some 3) []]) fun r1=>Zi r1 fun b2=>some (Out.ret (V.bool b2),[]):=by kernel_rfl
theorem zf4(O:Oracle)(l0:(List V))(l1:(List V))(n2:Int)(n3:Int)(l4:(List V))(l5:(List V))(n6:Int)(n7:Int)(l8:(List V)):Ze Tryz.prog cfg O 12 [.agg [.vec .plain (some 5) l0, .vec .plain (some 3) l1, .int n2, .int n3, .vec .plain (some 3) l4, .vec .plain (some 6) l5, .int n6, .int n7, .vec .plain (some 3) l8]] []=
 Za (Zj O 39 [V.vec .plain (some 5) l0]) fun r1=>Zi r1 fun b2=>Za (Zj O 24 [V.vec .plain (some 3) l1,V.int 300,V.int 60]) fun r3=>
 Zi r3 fun b4=>Za (Zj O 31 [V.agg [V.int n2,V.int n3,V.vec .plain (some 3) l4],V.int 300,V.int 60]) fun r5=>Zi r5 fun b6=>Za (Zj O
 31 [V.agg [V.int n6,V.int n7,V.vec .plain (some 3) l8],V.int 300,V.int 60]) fun r7=>Zi r7 fun b8=>bc (!b2) (some (Out.ret (V.bool false),[])) (bc (!b4)
 (some (Out.ret (V.bool false),[])) (bc (!b6) (some (Out.ret (V.bool false),[])) (bc (!b8) (some (Out.ret (V.bool false),[])) (bc (decide ((↑l5.length:Int)>50)) (some
 (Out.ret (V.bool false),[])) (Za (O.loop 12 8 [V.int 0,V.loc false (some 9) (V.agg [V.vec .plain (some 5) l0,V.vec .plain (some 3) l1,V.int n2,V.int n3,
 V.vec .plain (some 3) l4,V.vec .plain (some 6) l5,V.int n6,V.int n7,V.vec .plain (some 3) l8])] []) fun r9=>Y8 r9.fst none (Zd r9.snd.fst fun v10 c11=>Zi v10 fun
 b12=>Zn c11 (some (Out.ret (V.bool b12),[]))) (fun i13=>bc (i13.beq 0) (Zn r9.snd.fst (some (Out.ret (V.bool true),[]))) none) fun v14=>none))))):=by kernel_rfl
theorem JZ(O:Oracle)(n0:Int)(l1:(List V))(l2:(List V))(n3:Int)(n4:Int)(l5:(List V))(l6:(List V))(n7:Int)(n8:Int)(l9:(List V)):Z1 Tryz.prog cfg O 12 8 [.int n0, .loc false (some 9) (.agg [.vec .plain (some 5) l1, .vec .plain (some 3) l2, .int n3, .int n4, .vec .plain (some 3) l5, .vec .plain (some 6) l6, .int n7, .int n8, .vec .plain (some 3) l9])] []=
 bc (decide (n0<(↑l6.length:Int))) (gd (decide (0≤n0)&&decide (n0<(↑l6.length:Int))) (Zc [CT.int,CT.slice (some 3),CT.slice (some 3),CT.int,CT.int,CT.slice
 (some 3)] (ZA l6 n0) fun n1 l2_1 l3 n4_1 n5 l6_1=>Za (Zj O 18 [V.agg [V.int n1,V.vec .plain (some 3) l2_1,V.vec .plain (some 3) l3,V.int n4_1,V.int
 n5,V.vec .plain (some 3) l6_1]]) fun r7=>Zi r7 fun b8=>bc (!b8) (some (Ex.ret,[V.bool false],[])) (O.2 12 8 [V.int (IntKind.i64.wrap (n0+1)),V.loc
 false (some 9) (V.agg [V.vec .plain (some 5) l1,V.vec .plain (some 3) l2,V.int n3,V.int n4,V.vec .plain (some 3) l5,V.vec .plain (some 6) l6,V.int n7,V.int n8,V.vec .plain
 (some 3) l9])] []))) (some (Ex.exit 0,[],[])):=by kernel_rfl
theorem zhq(O:Oracle)(n0:Int)(l1:(List V))(l2:(List V))(n3:Int)(n4:Int)(l5:(List V)):Ze Tryz.prog cfg O 18 [.agg [.int n0, .vec .plain (some 3) l1, .vec .plain (some 3) l2, .int n3, .int n4, .vec .plain (some 3) l5]] []=
 Za (Zj O 24 [V.vec .plain (some 3) l1,V.int 300,V.int 60]) fun r1=>Zi r1 fun b2=>Za (Zj O 24 [V.vec .plain (some 3) l2,V.int 300,
 V.int 60]) fun r3=>Zi r3 fun b4=>Za (Zj O 31 [V.agg [V.int n3,V.int n4,V.vec .plain (some 3) l5],V.int 300,V.int 60]) fun r5=>Zi r5 fun b6=>bc
 b2 (bc b4 (some (Out.ret (V.bool b6),[])) (some (Out.ret (V.bool false),[]))) (some (Out.ret (V.bool false),[])):=by kernel_rfl
end Go.Proofs.CL
namespace Go.Proofs.CL
open Go Go.AM Go.Ama
theorem zax(n k:Nat):decide ((n:Int)>(k:Int))= !decide (n≤k):=by
 by_cases h:n≤k<;>simp[h]<;>omega
theorem XX(l:List T)(n m:Int)(hs:sizes l≤1099511627776):Ev 24 [.vec .plain (some 3) (Zg l), .int n, .int m] (.bool (XF n m l)):=by
 have hlen:=Zp l
 have hl:=JH (L:=fun i=>W.loop 24 4 [.int i, .int m, .int n, .vec .plain (some 3) (Zg l)] []) (xs:=l) (g:=Q6 n m) (e0:=(Ex.exit 0,[],[])) (e1:=(Ex.ret,[V.bool false],[]))
  (fun i hi=>by
   have hp:=(QZ l[i] n m (by have:=size_le (List.getElem_mem hi);omega)).p
   have hlt:decide ((i:Int)<l.length)=true:=by simp;omega
   show W.loop _ _ _ _=_
   rw[L,zcs,Zh,ZC hi,Zq ⟨by omega,by omega⟩]
   simp only[hlt,Int.natCast_nonneg,decide_true,Zr,Bool.and_self,Zz,YI,←Zb,hp,Zf,Z0]
   cases Q6 n m l[i]<;>rfl)
  (by
   show W.loop _ _ _ _=_
   rw[L,zcs,Zh]
   simp)
 unfold Ev XF
 have e60:=zax l.length 60
 have hl':W.loop 24 4 [.int 0, .int m, .int n, .vec .plain (some 3) (Zg l)] []=_:=hl
 rw[C,zlm,Zh,hl']
 have e60':decide ((l.length:Int)>60)= !decide (l.length≤60):=e60
 rw[e60']
 cases decide (l.length≤60)<;>cases l.all (Q6 n m)<;>rfl
theorem ztU(l:List D)(hb:ZY (Yo l)≤4398046511104):Ev 38 [.vec .plain (some 4) (Yo l)] (.bool (zrO l)):=by
 have hlen:=zdg (Yo l)
 rw[Jj]at hlen
 have hl:=JH (L:=fun i=>W.loop 38 4 [.int i, .vec .plain (some 4) (Yo l)] []) (xs:=l) (g:=fun d=>Q6 1000 80 d.t) (e0:=(Ex.exit 0,[],[])) (e1:=(Ex.ret,[V.bool false],[]))
  (fun i hi=>by
   have hp:=(QZ l[i].t 1000 80 (by have:=zwy (List.getElem_mem hi);omega)).p
   have hlt:decide ((i:Int)<l.length)=true:=by simp;omega
   show W.loop _ _ _ _=_
   rw[L,zeH,Jj,zgm hi,Zq ⟨by omega,by omega⟩]
   simp only[hlt,Int.natCast_nonneg,decide_true,Zr,Bool.and_self,Zz,zyh,←Zb,hp,Zf,Z0]
   cases Q6 1000 80 l[i].t<;>rfl)
  (by
   show W.loop _ _ _ _=_
   rw[L,zeH,Jj]
   simp)
 unfold Ev zrO
 have e30:decide ((l.length:Int)>30)= !decide (l.length≤30):=zax l.length 30
 have hl':W.loop 38 4 [.int 0, .vec .plain (some 4) (Yo l)] []=_:=hl
 rw[C,zp6,Jj,hl',e30]
 cases decide (l.length≤30)<;>cases l.all (fun d=>Q6 1000 80 d.t)<;>rfl
theorem zln(sig:List D)(l:List M)(ctx:List T)(h1:ZY (Yo sig)≤4398046511104)(hb:ZY (ZH l)≤4398046511104)(h3:sizes ctx≤1099511627776):Ev 10 [.vec .plain (some 4) (Yo sig), .vec .plain (some 5) (ZH l), .vec .plain (some 3) (Zg ctx)] (.bool (znc sig l ctx)):=by
 have hlen:=zdg (ZH l)
 rw[ZL]at hlen
 have hc:=(XX ctx 500 80 h3).p
 have h9:=(ztU sig h1).p
 have hl:=JH (L:=fun i=>W.loop 10 5 [.int i, .vec .plain (some 5) (ZH l), .vec .plain (some 3) (Zg ctx)] []) (xs:=l) (g:=fun m=>XF 500 80 m.ctx&&Q6 500 80 m.t) (e0:=(Ex.exit 0,[.vec .plain (some 3) (Zg ctx)],[])) (e1:=(Ex.ret,[V.bool false],[]))
  (fun i hi=>by
   have hm:=zwx (List.getElem_mem hi)
   have hp:=(QZ l[i].t 500 80 (by omega)).p
   have hq:=(XX l[i].ctx 500 80 (by omega)).p
   have hlt:decide ((i:Int)<l.length)=true:=by simp;omega
   show W.loop _ _ _ _=_
   rw[L,zeV,ZL,J8 hi,Zq ⟨by omega,by omega⟩]
   simp only[hlt,Int.natCast_nonneg,decide_true,Zr,Bool.and_self,Zz,zyP,zyQ,hq,←Zb,hp,Zf,Z0]
   cases Q6 500 80 l[i].t<;>cases XF 500 80 l[i].ctx<;>rfl)
  (by
   show W.loop _ _ _ _=_
   rw[L,zeV,ZL]
   simp)
 unfold Ev znc zmt
 have e30:decide ((l.length:Int)>30)= !decide (l.length≤30):=zax l.length 30
 have hl':W.loop 10 5 [.int 0, .vec .plain (some 5) (ZH l), .vec .plain (some 3) (Zg ctx)] []=_:=hl
 rw[C,zqu,ZL,hl',e30,h9]
 cases decide (l.length≤30)<;>cases l.all (fun m=>XF 500 80 m.ctx&&Q6 500 80 m.t)<;>cases zrO sig<;>simp[hc]
theorem znh(l:List M)(hb:ZY (ZH l)≤4398046511104):Ev 39 [.vec .plain (some 5) (ZH l)] (.bool (zmt l)):=by
 have h:=(zln [] l [] (by simp[ZY]) hb (by simp[sizes])).p
 have e:znc [] l []=zmt l:=by simp[znc,zrO,XF]
 rw[e]at h
 simp only[zt8,Jv]at h
 unfold Ev
 rw[C,zqv,h]
 simp
theorem zlo(c:Cal)(hb:Xr (XI c)≤4398046511104):Ev 18 [XI c] (.bool (JJ c)):=by
 have hm:=ztL c
 have h1:=(XX c.ext 300 60 (by omega)).p
 have h2:=(XX c.theta 300 60 (by omega)).p
 have h3:=(QZ c.arg 300 60 (by omega)).p
 unfold Ev JJ
 rw[C,YR,zhq,←Zb,h1,h2,h3]
 cases XF 300 60 c.ext<;>cases XF 300 60 c.theta<;>rfl
theorem zhr(c:Cl)(hb:Xr (Q7 c)≤4398046511104):Ev 12 [Q7 c] (.bool (zbn c)):=by
 have hm:=zwz c
 have hlen:=zdg (Qk c.calls)
 rw[ZW]at hlen
 have h0:=(znh c.metas (by omega)).p
 have h1:=(XX c.theta 300 60 (by omega)).p
 have h2:=(QZ c.p 300 60 (by omega)).p
 have h3:=(QZ c.r 300 60 (by omega)).p
 have hl:=JH (L:=fun i=>W.loop 12 8 [.int i, .loc false (some 9) (Q7 c)] []) (xs:=c.calls) (g:=JJ) (e0:=(Ex.exit 0,[],[])) (e1:=(Ex.ret,[V.bool false],[]))
  (fun i hi=>by
   have hp:=(zlo c.calls[i] (by have:=zeP (List.mem_map_of_mem (f:=XI) (List.getElem_mem hi));simp only[Qk]at hm;omega)).p
   have hlt:decide ((i:Int)<c.calls.length)=true:=by simp;omega
   show W.loop _ _ _ _=_
   rw[L,Y2,JZ,ZW,zfR hi,Zq ⟨by omega,by omega⟩]
   simp only[hlt,Int.natCast_nonneg,decide_true,Zr,Bool.and_self,Zz,zxv,←YR,hp,Zf,Z0]
   cases JJ c.calls[i]<;>rfl)
  (by
   show W.loop _ _ _ _=_
   rw[L,Y2,JZ,ZW]
   simp)
 unfold Ev zbn
 have e50:decide ((c.calls.length:Int)>50)= !decide (c.calls.length≤50):=zax c.calls.length 50
 have hl':W.loop 12 8 [.int 0, .loc false (some 9) (Q7 c)] []=_:=hl
 rw[C]
 conv=>lhs;rw[Y2]
 rw[zf4,←Y2,←Zb,←Zb,ZW,hl',e50,h0,h1,h2,h3]
 cases zmt c.metas<;>cases XF 300 60 c.theta<;>cases Q6 300 60 c.p<;>cases Q6 300 60 c.r<;>cases decide (c.calls.length≤50)<;>cases c.calls.all JJ<;>rfl
theorem zou(f:Fun1)(hb:Xr (Ql f)≤4398046511104):Ev 17 [Ql f] (.bool (zcp f)):=by
 have hm:=zw0 f
 have hlen:=zdg (zaR f.clauses)
 rw[zaA]at hlen
 have h0:=(znh f.delta (by omega)).p
 have h1:=(XX f.schema 300 60 (by omega)).p
 have h2:=(XX f.psi 300 60 (by omega)).p
 have h3:=(XX f.phi 300 60 (by omega)).p
 have h4:=(QZ f.a 300 60 (by omega)).p
 have h5:=(QZ f.b 300 60 (by omega)).p
 have hl:=JH (L:=fun i=>W.loop 17 10 [.int i, .loc false (some 13) (Ql f)] []) (xs:=f.clauses) (g:=zbn) (e0:=(Ex.exit 0,[],[])) (e1:=(Ex.ret,[V.bool false],[]))
  (fun i hi=>by
   have hp:=(zhr f.clauses[i] (by have:=zeP (List.mem_map_of_mem (f:=Q7) (List.getElem_mem hi));simp only[zaR]at hm;omega)).p
   have hlt:decide ((i:Int)<f.clauses.length)=true:=by simp;omega
   show W.loop _ _ _ _=_
   rw[L,Z8,zaH,zaA,zqa hi,Zq ⟨by omega,by omega⟩]
   simp only[hlt,Int.natCast_nonneg,decide_true,Zr,Bool.and_self,Zz,zyO,←Y2,hp,Zf,Z0]
   cases zbn f.clauses[i]<;>rfl)
  (by
   show W.loop _ _ _ _=_
   rw[L,Z8,zaH,zaA]
   simp)
 unfold Ev zcp
 have e50:decide ((f.clauses.length:Int)>50)= !decide (f.clauses.length≤50):=zax f.clauses.length 50
 have hl':W.loop 17 10 [.int 0, .loc false (some 13) (Ql f)] []=_:=hl
 rw[C]
 conv=>lhs;rw[Z8]
 rw[ziE,←Z8,←Zb,←Zb,zaA,hl',e50,h0,h1,h2,h3,h4,h5]
 cases zmt f.delta<;>cases XF 300 60 f.schema<;>cases XF 300 60 f.psi<;>cases XF 300 60 f.phi<;>cases Q6 300 60 f.a<;>cases Q6 300 60 f.b<;>cases decide (f.clauses.length≤50)<;>cases f.clauses.all zbn<;>rfl
end Go.Proofs.CL
namespace Go.Ama
open Go Go.AM
end Go.Ama
namespace Go.Proofs.CL
open Go Go.AM Go.Ama
end Go.Proofs.CL
namespace Go.Proofs.CL
open Go Go.AM Go.Ama
set_option maxRecDepth 100000
abbrev ziF(sig:List D)(ms:List M)(ext:List T)(ds:List M)(s:LSt)(p:Option Ex):Res:= .loop 25 8 [.ref 0 0, .cptr none (.vec .plain (some 5) (ZH ms)), .cptr none (.vec .plain (some 3) (Zg ext)), .cptr none (.vec .plain (some 4) (Yo sig)), .cptr none (.vec .plain (some 5) (ZH ds))] s p
theorem zov(sig:List D)(ms:List M)(ext:List T)(ds:List M)(over:List T)(t:T)(hs:sig.length≤1000∧ ∀d∈sig,Hd d.t)(hm:ms.length≤1000∧ ∀m∈ms,HdM m)(he:Hds 60 ext)(hd: ∀m∈ds,LoM m)(ho:Los 60 over)(ht:Lo t)(hlt:over.length<ds.length):
  W.round 1 25 8 [.ref 0 0, .cptr none (.vec .plain (some 5) (ZH ms)), .cptr none (.vec .plain (some 3) (Zg ext)), .cptr none (.vec .plain (some 4) (Yo sig)), .cptr none (.vec .plain (some 5) (ZH ds))] [.vec .plain (some 3) (Zg over),enc t] [.box [.int 0],ziF sig ms ext ds .ready none]=
   some (if zle sig ms ext ds[over.length] over t=0 then(true,[.box [.int 0],ziF sig ms ext ds .ready none])else(false,[.box [.int (zle sig ms ext ds[over.length] over t)],ziF sig ms ext ds .done (some .ret)])):=by
 have hdm:=hd _ (List.getElem_mem hlt)
 have hlt':(over.length:Int)<ds.length:=by omega
 have hg:=J8 hlt
 generalize ds[over.length]=d at hdm hg⊢
 have hc:=(zqp (β:=1099511627776) (by omega) zcr (n:=0) (l:=d.ctx) (θ:=over) (by have:=hdm.ctx.hds.szs;omega) (by omega) (by have:=ho.hds.szs;omega) (fun x hx=>(ho.all x hx).ok) (fun x hx=>(hdm.ctx.all x hx).ok)).p
 have hf:=(zdi (β:=1099511627776) (by omega) zcr (t:=d.t) (θ:=over) (n:=(d.ctx.length:Int)) (by have:=hdm.t.size;omega) (by have:=ho.hds.szs;omega) (fun x hx=>(ho.all x hx).ok) hdm.t.ok).p
 rw[Rd,Zb t,zlb,←Zb t,Zh,ZL,hg]
 simp only[Int.natCast_zero]at hc
 have hq: ∀{R:Type} (K:Res→Option R),Z3 [Res.box [.int 0],ziF sig ms ext ds .ready none] 1 K=K (ziF sig ms ext ds .ready none):=fun K=>rfl
 unfold zle
 dsimp only
 rw[hq]
 simp only[zaG,zaX,hlt',Int.natCast_nonneg,decide_true,Bool.and_self,Zz,onM,hc,Zf,Y1,ZE,YQ,Z2,ZN,←Zb,Zh,hf]
 by_cases h1:(Ys over d.ctx 0).2=0
 ·have hch:=zgv hdm.ctx ho.all h1
  by_cases h2:(Yy d.t over d.ctx.length).2=0
  ·have hfh:=zqq hdm.t ho.all h2
   have hcat:=(zcl ext (Ys over d.ctx 0).1 (by have:=he.len;have:=hch.len;omega)).p (h2:=by simp[below,Zm,Xy])
   have hI:In sig ms (ext++(Ys over d.ctx 0).1) [t,(Yy d.t over d.ctx.length).1]:=zsH hs hm ((he.app hch).mono (by omega)) ⟨by simp,fun x hx=>by
    rcases List.mem_cons.1 hx with rfl|hx
    ·exact ht.hd
    ·rw[List.mem_singleton]at hx;subst hx;exact hfh⟩
   have hk:=(zbL sig ms (ext++(Ys over d.ctx 0).1) t (Yy d.t over d.ctx.length).1 hI).p (by simp[Zm,below,Zv,Xy])
   have hv:YW sig ms (ext++(Ys over d.ctx 0).1) t (Yy d.t over d.ctx.length).1=0→Zj W 78 [enc t, .vec .plain (some 5) (ZH ms)]=some (.bool (QB t ms)):=fun h0=>by
    have hm1:may t=true:=by
     unfold YW at h0
     by_cases hw:zi4 sig ms (ext++(Ys over d.ctx 0).1) [t,(Yy d.t over d.ctx.length).1]=true
     ·exact(zbK.1 hw).2.1 t (by simp)
     ·rw[if_neg hw]at h0;cases h0
    have ho:=ht.ok hm1
    have h0':0≤t.h:=by cases t;exact ho.1.1
    exact(zll t ms h0').p (by simp[Zm,below])
   simp only[h1,h2,beq_self_eq_true,Zr,Zo,bne_self_eq_false,hcat,Zf,YQ,zbX,←Zb,hk,Z2,not_true_eq_false,if_false,ne_eq]
   generalize hz:YW sig ms (ext++(Ys over d.ctx 0).1) t (Yy d.t over d.ctx.length).1=z at hv⊢
   by_cases hz0:z=0
   ·subst hz0
    simp only[hv rfl,beq_self_eq_true,Zr,Zf,Z0]
    cases d.param<;>cases QB t ms<;>simp[Z3,YZ,setCells]
   ·simp[hz0,Z3,YZ,setCells]
  ·simp[h1,h2,Z3,YZ,setCells]
 ·simp[h1,Z3,YZ,setCells]
theorem zow(sig:List D)(ms:List M)(ext:List T)(ds:List M)(ts:List T)(hs:sig.length≤1000∧ ∀d∈sig,Hd d.t)(hm:ms.length≤1000∧ ∀m∈ms,HdM m)(he:Hds 60 ext)(hd: ∀m∈ds,LoM m)(ht:Los 60 ts)(hl:ts.length=ds.length): ∀(n i:Nat),ts.length-i=n→i≤ts.length→
  W.loop 123 1 [.int (i:Int), .cptr none (.vec .plain (some 3) (Zg ts)), .yld 1, .vec .plain (some 3) (Zg ts), .int ts.length] [.box [.int 0],ziF sig ms ext ds .ready none]=
   some (if(ZR i ((XW sig ms ext ds ts).drop i)).2=0 then(.exit 0,[],[.box [.int 0],ziF sig ms ext ds .ready none])else(.ret,[],[.box [.int (ZR i ((XW sig ms ext ds ts).drop i)).2],ziF sig ms ext ds .done (some .ret)])):=by
 have hlen:(XW sig ms ext ds ts).length=ts.length:=by simp[XW]
 have h60:=ht.len
 intro n
 induction n with
 |zero=>
  intro i hn hi
  have:i=ts.length:=by omega
  subst this
  rw[L,QH,←hlen,List.drop_length,hlen]
  simp[ZR]
 |succ n ih=>
  intro i hn hi
  have hlt:i<ts.length:=by omega
  have hlt':(i:Int)<ts.length:=by omega
  have hle':(i:Int)≤ts.length:=by omega
  have hw:IntKind.i64.wrap ((i:Int)+1)=((i+1:Nat):Int):=by rw[Zq ⟨by omega,by omega⟩];omega
  have hd':(XW sig ms ext ds ts).drop i=zle sig ms ext (ds[i]'(by omega)) (ts.take i) ts[i]::(XW sig ms ext ds ts).drop (i+1):=by
   rw[List.drop_eq_getElem_cons (by omega)]
   congr 1
   simp[XW,List.getD_eq_getElem?_getD,hlt,(show i<ds.length by omega)]
  have htl:(ts.take i).length=i:=by simp;omega
  have hr:=zov sig ms ext ds (ts.take i) ts[i] hs hm he hd ⟨by omega,fun x hx=>ht.all x (List.mem_of_mem_take hx)⟩ (ht.all _ (List.getElem_mem hlt)) (by omega)
  have htk:List.drop 0 (List.take (i:Int).toNat (Zg ts))=Zg (ts.take i):=by simp[zna]
  simp only[htl]at hr
  have hg: ∀{R:Type} (K:Res→Option R),Z3 [Res.box [.int 0],ziF sig ms ext ds .ready none] 1 K=K (ziF sig ms ext ds .ready none):=fun K=>rfl
  rw[hd',L,QH,hw,ZC hlt,htk,Zh]
  simp only[hlt',hle',Int.natCast_nonneg,decide_true,Bool.and_self,Zz,Zr,zbX,←Zb,Option.isSome_some,hg,zaG,zbm,hr,Zf]
  by_cases hz:zle sig ms ext (ds[i]'(by omega)) (ts.take i) ts[i]=0
  ·have e:ZR i (zle sig ms ext (ds[i]'(by omega)) (ts.take i) ts[i]::(XW sig ms ext ds ts).drop (i+1))=ZR (i+1) ((XW sig ms ext ds ts).drop (i+1)):=by simp[ZR,hz]
   rw[e]
   simp only[hz,if_true,Bool.not_true,Zo]
   exact ih (i+1) (by omega) (by omega)
  ·have e:ZR i (zle sig ms ext (ds[i]'(by omega)) (ts.take i) ts[i]::(XW sig ms ext ds ts).drop (i+1))=((i:Int),zle sig ms ext (ds[i]'(by omega)) (ts.take i) ts[i]):=by simp[ZR,hz]
   rw[e]
   simp[hz]
theorem zlp(sig:List D)(ms:List M)(ext:List T)(ds:List M)(ts:List T)(hs:sig.length≤1000∧ ∀d∈sig,Hd d.t)(hm:ms.length≤1000∧ ∀m∈ms,HdM m)(he:Hds 60 ext)(hd: ∀m∈ds,LoM m)(ht:Los 60 ts):
  Ev 25 [.vec .plain (some 4) (Yo sig), .vec .plain (some 5) (ZH ms), .vec .plain (some 3) (Zg ext), .vec .plain (some 5) (ZH ds), .vec .plain (some 3) (Zg ts)] (.int (zot sig ms ext ds ts)):=by
 have hA:W.call 76 [.vec .plain (some 3) (Zg ts)] [.box [.int 0]]=some (.ret (.fn 123 [] [.cptr none (.vec .plain (some 3) (Zg ts))]),[.box [.int 0]]):=by
  rw[C,zdJ,Zy rfl]
 unfold Ev zot
 rw[C,zqh,ZL,Zh]
 by_cases h40:40<ds.length
 ·have:(ds.length:Int)>40:=by omega
  simp[h40,this]
 ·have h40': ¬(ds.length:Int)>40:=by omega
  by_cases hl:ts.length=ds.length
  ·have hl':((ts.length:Int) !=(ds.length:Int))=false:=by simp[hl]
   have hL:=zow sig ms ext ds ts hs hm he hd ht hl _ 0 rfl (Nat.zero_le _)
   simp only[Int.natCast_zero,List.drop_zero]at hL
   have hA1:W.call 123 [.yld 1, .cptr none (.vec .plain (some 3) (Zg ts))] [.box [.int 0],ziF sig ms ext ds .ready none]=
     some (.ret (.tup []),if(ZR 0 (XW sig ms ext ds ts)).2=0 then[.box [.int 0],ziF sig ms ext ds .ready none]else[.box [.int (ZR 0 (XW sig ms ext ds ts)).2],ziF sig ms ext ds .done (some .ret)]):=by
    rw[C,zcH,Zh,hL]
    by_cases hz:(ZR 0 (XW sig ms ext ds ts)).2=0
    ·simp[hz,Zy]
    ·simp[hz,Zy]
   simp only[h40',decide_false,Zo,hl',hA,Zf,Z9,zhg,List.length_cons,List.length_nil,Nat.zero_add,Nat.reduceAdd,List.nil_append,List.cons_append]
   rw[hA1]
   by_cases hz:(ZR 0 (XW sig ms ext ds ts)).2=0
   ·simp[hz,h40,hl,Z3,setCells]
    try rfl
   ·simp[hz,h40,hl,Z3,setCells]
    try rfl
  ·have hl':((ts.length:Int) !=(ds.length:Int))=true:=by simp;omega
   simp[h40,h40',hl,hl']
end Go.Proofs.CL
