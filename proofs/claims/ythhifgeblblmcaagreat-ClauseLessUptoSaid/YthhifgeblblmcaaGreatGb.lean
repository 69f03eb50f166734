import Derived.Test.YthhifgeblblmcaaGreatGa
import Derived.KernelRfl
import Derived.Test.YthhifgeblblmcaaGreatAMd
/- The program's functions, each an equation of the abstract machine checked by the kernel, and what they come to as_ plain Lean. -/
set_option linter.unusedVariables false
set_option linter.unusedSimpArgs false
set_option linter.unusedSectionVars false
namespace Go.Proofs.CL
open Go Go.AM
set_option maxRecDepth 20000
theorem zmF(O:Oracle)(l0:(List V))(l1:(List V))(l2:(List V))(n3:Int)(n4:Int)(l5:(List V)):Ze Tryz.prog cfg O 97 [.vec .plain (some 4) l0, .vec .plain (some 5) l1, .vec .plain (some 3) l2, .agg [.int n3, .int n4, .vec .plain (some 3) l5]] []=
 Za (Zj O 88 [V.agg [V.vec .plain (some 4) l0,V.vec .plain (some 5) l1,V.vec .plain (some 3) l2],V.vec .plain (some 3) [V.agg [V.int n3,V.int n4,V.vec
 .plain (some 3) l5]]]) fun r1=>Zl r1 fun b2=>bc (!b2) (some (Out.ret (V.int 1),[])) (Za (Zj O 146 [V.agg [V.vec .plain (some 4) l0,V.vec .plain (some
 5) l1,V.vec .plain (some 3) l2],V.agg [V.int n3,V.int n4,V.vec .plain (some 3) l5]]) fun r3=>Zm r3 fun n4=>some (Out.ret (V.int n4),[])):=by kernel_rfl
theorem zmG(O:Oracle)(l0:(List V))(l1:(List V))(l2:(List V))(n3:Int)(n4:Int)(l5:(List V))(n6:Int)(n7:Int)(l8:(List V)):Ze Tryz.prog cfg O 30 [.vec .plain (some 4) l0, .vec .plain (some 5) l1, .vec .plain (some 3) l2, .agg [.int n3, .int n4, .vec .plain (some 3) l5], .agg [.int n6, .int n7, .vec .plain (some 3) l8]] []=
 Za (Zj O 88 [V.agg [V.vec .plain (some 4) l0,V.vec .plain (some 5) l1,V.vec .plain (some 3) l2],V.vec .plain (some 3) [V.agg [V.int n3,V.int n4,V.vec
 .plain (some 3) l5],V.agg [V.int n6,V.int n7,V.vec .plain (some 3) l8]]]) fun r1=>Zl r1 fun b2=>bc (!b2) (some (Out.ret (V.int 1),[])) (Za (Zj O
 89 [V.agg [V.vec .plain (some 4) l0,V.vec .plain (some 5) l1,V.vec .plain (some 3) l2],V.agg [V.int n3,V.int n4,V.vec .plain (some 3) l5],V.agg [V.int n6,
 V.int n7,V.vec .plain (some 3) l8]]) fun r3=>Zm r3 fun n4=>some (Out.ret (V.int n4),[])):=by kernel_rfl
theorem zgn(O:Oracle)(l0:(List V))(l1:(List V))(l2:(List V))(l3:(List V)):Ze Tryz.prog cfg O 88 [.agg [.vec .plain (some 4) l0, .vec .plain (some 5) l1, .vec .plain (some 3) l2], .vec .plain (some 3) l3] []=
 bc (decide ((↑l2.length:Int)>1000)) (some (Out.ret (V.bool false),[])) (Za (O.call 73 [V.vec .plain (some 3) l3,V.fn
 134 [] []] []) fun r1=>Zx r1.fst (fun v2=>Zl v2 fun b3=>bc b3 (some (Out.ret (V.bool false),[])) (Za (O.call
 73 [V.vec .plain (some 3) l2,V.fn 134 [] []] r1.snd) fun r4=>Zx r4.fst (fun v5=>Zl v5 fun b6=>bc b6 (some
 (Out.ret (V.bool false),[])) (Za (O.call 136 [V.vec .plain (some 4) l0,V.fn 137 [] [V.cptr none (V.fn 134
 [] [])]] r4.snd) fun r7=>Zx r7.fst (fun v8=>Zl v8 fun b9=>bc (!b9) (Za (O.call 138 [V.vec .plain (some 5) l1,V.fn
 135 [] [V.cptr none (V.fn 134 [] [])]] r7.snd) fun r10=>Zx r10.fst (fun v11=>Zl v11 fun b12=>some (Out.ret (V.bool !b12),[])) fun p13
 =>none) (some (Out.ret (V.bool false),[]))) fun p14=>none)) fun p15=>none)) fun p16=>none):=by kernel_rfl
theorem zgo(O:Oracle)(l0:(List V))(l1:(List V))(l2:(List V))(n3:Int)(n4:Int)(l5:(List V)):Ze Tryz.prog cfg O 146 [.agg [.vec .plain (some 4) l0, .vec .plain (some 5) l1, .vec .plain (some 3) l2], .agg [.int n3, .int n4, .vec .plain (some 3) l5]] []=
 bc (n3==1) (Za (O.call 180 [V.agg [V.vec .plain (some 4) l0,V.vec .plain (some 5) l1,V.vec .plain (some 3) l2],V.agg [V.int n3,V.int n4,V.vec .plain (some
 3) l5],V.fn 146 [] []] []) fun r1=>Zx r1.fst (fun v2=>Zm v2 fun n3=>some (Out.ret (V.int n3),[])) fun p4=>none) (bc (n3==2) (Za (Zj O
 178 [V.agg [V.vec .plain (some 4) l0,V.vec .plain (some 5) l1,V.vec .plain (some 3) l2],V.int n4,V.bool true]) fun r5=>ZM r5 fun c6=>Zd c6 fun v7
 c8=>Zc [CT.int,CT.int,CT.slice (some 3)] v7 fun n9 n10 l11=>Zd c8 fun v12 c13=>Zm v12 fun n14=>Zn c13 (bc (n14==0) (Za (Zj O 176
 [V.agg [V.vec .plain (some 4) l0,V.vec .plain (some 5) l1,V.vec .plain (some 3) l2],V.agg [V.int n9,V.int n10,V.vec .plain (some 3) l11],V.vec .plain (some 3) l5]) fun r15
 =>ZM r15 fun c16=>Zd c16 fun v17 c18=>Zc [CT.int,CT.int,CT.slice (some 3)] v17 fun n19 n20 l21=>Zd c18 fun v22 c23=>Zm v22 fun n24=>Zn c23 (bc
 (n24==0) (bc (n19 !=0) (some (Out.ret (V.int 3),[])) (some (Out.ret (V.int n24),[]))) (some (Out.ret (V.int n24),[])))) (bc (n14==0) (bc (n9 !=0) (some (Out.ret (V.int
 3),[])) (some (Out.ret (V.int n14),[]))) (some (Out.ret (V.int n14),[]))))) (some (Out.ret (V.int 3),[]))):=by kernel_rfl
theorem zfr(O:Oracle)(l0:(List V))(l1:(List V))(l2:(List V))(n3:Int)(n4:Int)(l5:(List V))(n6:Int)(n7:Int)(l8:(List V)):Ze Tryz.prog cfg O 89 [.agg [.vec .plain (some 4) l0, .vec .plain (some 5) l1, .vec .plain (some 3) l2], .agg [.int n3, .int n4, .vec .plain (some 3) l5], .agg [.int n6, .int n7, .vec .plain (some 3) l8]] []=
 bc (n3==3) (bc (n6==1) (gd (true&&decide (0<(↑l8.length:Int))) (Zc [CT.int,CT.int,CT.slice (some 3)] (ZP l8 0) fun n1 n2 l3=>Za (Zj O
 139 [V.agg [V.vec .plain (some 4) l0,V.vec .plain (some 5) l1,V.vec .plain (some 3) l2],V.agg [V.int n1,V.int n2,V.vec .plain (some 3) l3]]) fun r4=>Zc
 [CT.slice (some 4),CT.slice (some 5),CT.slice (some 3)] r4 fun l5_1 l6 l7=>gd (true&&decide (0<(↑l5.length:Int))) (Zc [CT.int,CT.int,CT.slice (some 3)] (ZP l5
 0) fun n8 n9 l10=>gd (true&&decide (1<(↑l8.length:Int))) (Zc [CT.int,CT.int,CT.slice (some 3)] (ZP l8 1) fun n11 n12 l13=>Za (Zj O 89
 [V.agg [V.vec .plain (some 4) l5_1,V.vec .plain (some 5) l6,V.vec .plain (some 3) l7],V.agg [V.int n8,V.int n9,V.vec .plain (some 3) l10],V.agg [V.int n11,V.int n12,V.vec
 .plain (some 3) l13]]) fun r14=>Zm r14 fun n15=>some (Out.ret (V.int n15),[]))))) (bc (n3==3) (some (Out.ret (V.int 3),[])) (bc (n6 !=2) (some (Out.ret (V.int 3),[]))
 (gd (decide (0≤n3)&&decide (n3<7)) (gd (decide (n3.toNat*1+1≤7)&&true) (za1 (AM.partOf [V.fn 140 [] [],V.fn 140 [] [],V.fn
 140 [] [],V.fn 140 [] [],V.fn 141 [] [],V.fn 142 [] [],V.fn 143 [] []] (n3.toNat*1) none)
 (fun g16 a17 b18=>bc (cfg.pure g16) (Za (Zj O g16 (a17++[V.agg [V.vec .plain (some 4) l0,V.vec .plain (some 5) l1,V.vec .plain (some 3) l2],V.agg [V.int n3,V.int n4,
 V.vec .plain (some 3) l5]]++b18)) fun r19=>ZM r19 fun c20=>Zd c20 fun v21 c22=>Zc [CT.int,CT.int,CT.slice (some 3)] v21 fun n23 n24 l25=>Zd c22 fun
 v26 c27=>Zm v26 fun n28=>Zn c27 (bc (n28==0) (Za (Zj O 75 [V.agg [V.int n23,V.int n24,V.vec .plain (some 3) l25],V.agg [V.int n6,V.int n7,V.vec
 .plain (some 3) l8]]) fun r29=>Zl r29 fun b30=>bc (!b30) (some (Out.ret (V.int 3),[])) (some (Out.ret (V.int n28),[]))) (some (Out.ret (V.int n28),[])))) (Za (O.call
 g16 (a17++[V.agg [V.vec .plain (some 4) l0,V.vec .plain (some 5) l1,V.vec .plain (some 3) l2],V.agg [V.int n3,V.int n4,V.vec .plain (some 3) l5]]++b18) []) fun r31=>
 Zx r31.fst (fun v32=>ZM v32 fun c33=>Zd c33 fun v34 c35=>Zc [CT.int,CT.int,CT.slice (some 3)] v34 fun n36 n37 l38=>Zd c35 fun v39 c40=>Zm v39
 fun n41=>Zn c40 (bc (n41==0) (Za (Zj O 75 [V.agg [V.int n36,V.int n37,V.vec .plain (some 3) l38],V.agg [V.int n6,V.int n7,V.vec .plain (some 3) l8]])
 fun r42=>Zl r42 fun b43=>bc (!b43) (some (Out.ret (V.int 3),[])) (some (Out.ret (V.int n41),[]))) (some (Out.ret (V.int n41),[])))) fun p44=>none)) fun l45=>
 none)))))) (bc (n3==3) (some (Out.ret (V.int 3),[])) (bc (n6 !=2) (some (Out.ret (V.int 3),[])) (gd (decide (0≤n3)&&decide (n3<7)) (gd (decide (n3.toNat*1+1≤7)&&
 true) (za1 (AM.partOf [V.fn 140 [] [],V.fn 140 [] [],V.fn 140 [] [],V.fn 140 [] [],V.fn 141 []
 [],V.fn 142 [] [],V.fn 143 [] []] (n3.toNat*1) none) (fun g46 a47 b48=>bc (cfg.pure g46) (Za (Zj O g46 (a47++[V.agg [V.vec .plain
 (some 4) l0,V.vec .plain (some 5) l1,V.vec .plain (some 3) l2],V.agg [V.int n3,V.int n4,V.vec .plain (some 3) l5]]++b48)) fun r49=>ZM r49 fun c50=>Zd c50 fun v51
 c52=>Zc [CT.int,CT.int,CT.slice (some 3)] v51 fun n53 n54 l55=>Zd c52 fun v56 c57=>Zm v56 fun n58=>Zn c57 (bc (n58==0) (Za (Zj O 75
 [V.agg [V.int n53,V.int n54,V.vec .plain (some 3) l55],V.agg [V.int n6,V.int n7,V.vec .plain (some 3) l8]]) fun r59=>Zl r59 fun b60=>bc (!b60) (some (Out.ret (V.int
 3),[])) (some (Out.ret (V.int n58),[]))) (some (Out.ret (V.int n58),[])))) (Za (O.call g46 (a47++[V.agg [V.vec .plain (some 4) l0,V.vec .plain (some 5) l1,V.vec .plain
 (some 3) l2],V.agg [V.int n3,V.int n4,V.vec .plain (some 3) l5]]++b48) []) fun r61=>Zx r61.fst (fun v62=>ZM v62 fun c63=>Zd c63 fun v64 c65=>Zc
 [CT.int,CT.int,CT.slice (some 3)] v64 fun n66 n67 l68=>Zd c65 fun v69 c70=>Zm v69 fun n71=>Zn c70 (bc (n71==0) (Za (Zj O 75 [V.agg [V.int n66,
 V.int n67,V.vec .plain (some 3) l68],V.agg [V.int n6,V.int n7,V.vec .plain (some 3) l8]]) fun r72=>Zl r72 fun b73=>bc (!b73) (some (Out.ret (V.int 3),[])) (some
 (Out.ret (V.int n71),[]))) (some (Out.ret (V.int n71),[])))) fun p74=>none)) fun l75=>none))))):=by kernel_rfl
theorem ze5(O:Oracle)(n0:Int)(n1:Int)(l2:(List V)):Ze Tryz.prog cfg O 134 [.agg [.int n0, .int n1, .vec .plain (some 3) l2]] []=
 Za (Zj O 82 [V.agg [V.int n0,V.int n1,V.vec .plain (some 3) l2]]) fun r1=>Zl r1 fun b2=>some (Out.ret (V.bool !b2),[]):=by kernel_rfl
theorem ze6(O:Oracle)(l0:(List V))(n1:Int)(n2:Int)(l3:(List V))(b4:Bool)(st:St):Ze Tryz.prog cfg O 135 [.agg [.vec .plain (some 3) l0, .int n1, .int n2, .vec .plain (some 3) l3, .bool b4], .cptr none (.fn 134 [] [])] st=
 Za (Zj O 134 [V.agg [V.int n1,V.int n2,V.vec .plain (some 3) l3]]) fun r1=>Zl r1 fun b2=>bc b2 (Xb (List.length st) (V.bool true) st) (Za
 (O.call 73 [V.vec .plain (some 3) l0,V.fn 134 [] []] st) fun r3=>Zx r3.fst (fun v4=>Zl v4 fun b5=>Xb
 (List.length st) (V.bool b5) r3.snd) fun p6=>none):=by kernel_rfl
theorem ze7(O:Oracle)(s0:ByteArray)(n1:Int)(n2:Int)(l3:(List V))(st:St):Ze Tryz.prog cfg O 137 [.agg [.str s0, .int n1, .int n2, .vec .plain (some 3) l3], .cptr none (.fn 134 [] [])] st=
 Za (Zj O 134 [V.agg [V.int n1,V.int n2,V.vec .plain (some 3) l3]]) fun r1=>Zl r1 fun b2=>Xb (List.length st) (V.bool b2) st:=by kernel_rfl
theorem zfs(O:Oracle)(l0:(List V))(l1:(List V))(l2:(List V))(n3:Int)(n4:Int)(l5:(List V))(g6:Nat)(l7:(List V))(l8:(List V))(st:St):Ze Tryz.prog cfg O 180 [.agg [.vec .plain (some 4) l0, .vec .plain (some 5) l1, .vec .plain (some 3) l2], .agg [.int n3, .int n4, .vec .plain (some 3) l5], .fn g6 l7 l8] st=
 gd (true&&decide (0<(↑l5.length:Int))) (Zc [CT.int,CT.int,CT.slice (some 3)] (ZP l5 0) fun n1 n2 l3=>Za (Zj O 146 [V.agg [V.vec .plain (some
 4) l0,V.vec .plain (some 5) l1,V.vec .plain (some 3) l2],V.agg [V.int n1,V.int n2,V.vec .plain (some 3) l3]]) fun r4=>Zm r4 fun n5=>bc (n5 !=0) (Xb (List.length st)
 (V.int n5) st) (gd (true&&decide (0<(↑l5.length:Int))) (Zc [CT.int,CT.int,CT.slice (some 3)] (ZP l5 0) fun n6 n7 l8_1=>Za (Zj O 139 [V.agg
 [V.vec .plain (some 4) l0,V.vec .plain (some 5) l1,V.vec .plain (some 3) l2],V.agg [V.int n6,V.int n7,V.vec .plain (some 3) l8_1]]) fun r9=>Zc [CT.slice (some 4),
 CT.slice (some 5),CT.slice (some 3)] r9 fun l10 l11 l12=>gd (true&&decide (1<(↑l5.length:Int))) (Zc [CT.int,CT.int,CT.slice (some 3)] (ZP l5 1) fun n13 n14 l15
 =>bc (cfg.pure g6) (Za (Zj O g6 (l7++[V.agg [V.vec .plain (some 4) l10,V.vec .plain (some 5) l11,V.vec .plain (some 3) l12],V.agg [V.int n13,V.int n14,V.vec .plain
 (some 3) l15]]++l8)) fun r16=>Zm r16 fun n17=>Xb (List.length st) (V.int n17) st) (Za (O.call g6 (l7++[V.agg [V.vec .plain (some 4) l10,V.vec .plain (some 5) l11,
 V.vec .plain (some 3) l12],V.agg [V.int n13,V.int n14,V.vec .plain (some 3) l15]]++l8) st) fun r18=>Zx r18.fst (fun v19=>Zm v19 fun n20=>Xb (List.length st)
 (V.int n20) r18.snd) fun p21=>none))))):=by kernel_rfl
theorem zcQ(O:Oracle)(l0:(List V))(l1:(List V))(l2:(List V))(n3:Int)(b4:Bool):Ze Tryz.prog cfg O 178 [.agg [.vec .plain (some 4) l0, .vec .plain (some 5) l1, .vec .plain (some 3) l2], .int n3, .bool b4] []=
 bc (decide (n3≥(↑l0.length:Int))) (some (Out.ret (V.tup [V.agg [V.int 0,V.int 0,V.vec .plain (some 3) []],V.int 2]),[])) (gd (decide (0≤n3)&&decide (n3<(↑l0.length:
 Int))) (Xc (ZP l0 n3) fun c1=>gd (decide (4≤c1.length)) (onCells [CT.int,CT.int,CT.slice (some 3)] (List.take 3 (List.drop 1 c1)) fun n2 n3_1 l4=>Za (Zj O
 95 [V.agg [V.int n2,V.int n3_1,V.vec .plain (some 3) l4]]) fun r5=>Zl r5 fun b6=>bc (!b6==b4) (some (Out.ret (V.tup [V.agg [V.int 0,V.int 0,V.vec .plain
 (some 3) []],V.int 2]),[])) (gd (decide (0≤n3)&&decide (n3<(↑l0.length:Int))) (Xc (ZP l0 n3) fun c7=>gd (decide (4≤c7.length)) (onCells [CT.int,CT.int,
 CT.slice (some 3)] (List.take 3 (List.drop 1 c7)) fun n8 n9 l10=>gd (below 0 (V.tup [V.agg [V.int n8,V.int n9,V.vec .plain (some 3) l10],V.int 0])&&true) (some (Out.ret
 (V.tup [V.agg [V.int n8,V.int n9,V.vec .plain (some 3) l10],V.int 0]),[])))))))):=by kernel_rfl
theorem ze8(O:Oracle)(l0:(List V))(l1:(List V))(l2:(List V))(n3:Int)(n4:Int)(l5:(List V))(l6:(List V)):Ze Tryz.prog cfg O 176 [.agg [.vec .plain (some 4) l0, .vec .plain (some 5) l1, .vec .plain (some 3) l2], .agg [.int n3, .int n4, .vec .plain (some 3) l5], .vec .plain (some 3) l6] []=
 Za (O.loop 176 2 [V.loc true (some 3) (V.agg [V.int 0,V.int 0,V.vec Mode.full (some 3) []]),V.int 0,V.loc false (some 3) (V.agg [V.int n3,V.int n4,V.vec
 .plain (some 3) l5]),V.loc false (some 3) (V.agg [V.vec .plain (some 4) l0,V.vec .plain (some 5) l1,V.vec .plain (some 3) l2]),V.vec .plain (some 3) l6,V.int (↑l6.length:
 Int)] []) fun r1=>Xk r1.fst none (Zd r1.snd.fst fun v2 c3=>Y0 (some 3) v2 fun d4 v5=>Zd c3 fun v6 c7=>Zm v6 fun n8=>Zn c7 (gd (below 0 (V.tup [Zs
 v5,V.int n8])&&Zt 0 []) (some (Out.ret (V.tup [Zs v5,V.int n8]),[])))) (fun i9=>bc (i9.beq 0) (Zd r1.snd.fst fun v10 c11=>Y0 (some 3) v10 fun d12 v13=>
 Zd c11 fun v14 c15=>Y0 (some 3) v14 fun d16 v17=>Zc [CT.int,CT.int,CT.slice (some 3)] (bif d16 then Zs v17 else v17) fun n18 n19 l20=>Zn c15 (gd (below
 0 (V.tup [V.agg [V.int n18,V.int n19,V.vec .plain (some 3) l20],V.int 0])&&Zt 0 []) (some (Out.ret (V.tup [V.agg [V.int n18,V.int n19,V.vec .plain (some 3) l20],V.int
 0]),[])))) none) fun v21=>none:=by kernel_rfl
theorem J5(O:Oracle)(v0:V)(n1:Int)(n2:Int)(n3:Int)(l4:(List V))(l5:(List V))(l6:(List V))(l7:(List V))(l8:(List V))(n9:Int):Zz Tryz.prog cfg O 176 2 [.loc true (some 3) v0, .int n1, .loc false (some 3) (.agg [.int n2, .int n3, .vec .plain (some 3) l4]), .loc false (some 3) (.agg [.vec .plain (some 4) l5, .vec .plain (some 5) l6, .vec .plain (some 3) l7]), .vec .plain (some 3) l8, .int n9] []=
 bc (decide (n1<n9)) (gd (decide (0≤n1)&&decide (n1<(↑l8.length:Int))) (Zc [CT.int,CT.int,CT.slice (some 3)] (ZP l8 n1) fun n1_1 n2_1 l3=>bc (n2 !=1) (some
 (Ex.ret,[V.loc false (some 3) (V.agg [V.int 0,V.int 0,V.vec .plain (some 3) []]),V.int 3],[])) (gd (true&&decide (0<(↑l4.length:Int))) (Zc [CT.int,CT.int,
 CT.slice (some 3)] (ZP l4 0) fun n4 n5 l6_1=>Za (Zj O 89 [V.agg [V.vec .plain (some 4) l5,V.vec .plain (some 5) l6,V.vec .plain (some 3) l7],V.agg
 [V.int n1_1,V.int n2_1,V.vec .plain (some 3) l3],V.agg [V.int n4,V.int n5,V.vec .plain (some 3) l6_1]]) fun r7=>Zm r7 fun n8=>bc (n8 !=0) (some (Ex.ret,[V.loc false
 (some 3) (V.agg [V.int 0,V.int 0,V.vec .plain (some 3) []]),V.int n8],[])) (gd (true&&decide (1<(↑l4.length:Int))) (Zc [CT.int,CT.int,CT.slice (some 3)] (ZP l4
 1) fun n9_1 n10 l11=>Za (Zj O 126 [V.agg [V.int n9_1,V.int n10,V.vec .plain (some 3) l11],V.agg [V.vec .plain (some 3) [V.agg [V.int n1_1,V.int n2_1,V.vec
 .plain (some 3) l3]],V.int 0]]) fun r12=>ZM r12 fun c13=>Zd c13 fun v14 c15=>Zc [CT.int,CT.int,CT.slice (some 3)] v14 fun n16 n17 l18=>Zd c15 fun v19
 c20=>Zm v19 fun n21=>Zn c20 (bc (n21 !=0) (some (Ex.ret,[V.loc false (some 3) (V.agg [V.int 0,V.int 0,V.vec .plain (some 3) []]),V.int n21],[])) (O.2
 176 2 [V.loc true (some 3) v0,V.int (IntKind.i64.wrap (n1+1)),V.loc false (some 3) (V.agg [V.int n16,V.int n17,V.vec .plain (some 3) l18]),V.loc false (some
 3) (V.agg [V.vec .plain (some 4) l5,V.vec .plain (some 5) l6,V.vec .plain (some 3) l7]),V.vec .plain (some 3) l8,V.int n9] [])))))))) (some (Ex.exit 0,[V.loc true (some 3)
 v0,V.loc false (some 3) (V.agg [V.int n2,V.int n3,V.vec .plain (some 3) l4])],[])):=by kernel_rfl
theorem zft(O:Oracle)(l0:(List V))(l1:(List V))(l2:(List V))(n3:Int)(n4:Int)(l5:(List V)):Ze Tryz.prog cfg O 139 [.agg [.vec .plain (some 4) l0, .vec .plain (some 5) l1, .vec .plain (some 3) l2], .agg [.int n3, .int n4, .vec .plain (some 3) l5]] []=
 gd (true&&decide (0≤(↑l2.length:Int))&&decide ((↑l2.length:Int)≤(↑l2.length:Int))) (gd (decide ((↑l2.length:Int)=(↑l2.length:Int))&&(some (V.int (↑l2.length
 :Int))).isSome) (gd (true&&roomFor Tryz.prog 27 ((List.drop 0 (List.take (↑l2.length:Int).toNat l2)).length+[V.agg [V.int n3,V.int n4,V.vec .plain (some 3)
 l5]].length)) (gd (below 0 (V.agg [V.vec .plain (some 4) l0,V.vec .plain (some 5) l1,V.vec .plain (some 3) (List.drop 0 (List.take (↑l2.length:Int).toNat l2)++[V.agg [V.int
 n3,V.int n4,V.vec .plain (some 3) l5]])])&&true) (some (Out.ret (V.agg [V.vec .plain (some 4) l0,V.vec .plain (some 5) l1,V.vec .plain (some 3) (List.drop 0 (List.take
 (↑l2.length:Int).toNat l2)++[V.agg [V.int n3,V.int n4,V.vec .plain (some 3) l5]])]),[]))))):=by kernel_rfl
theorem zfu(O:Oracle)(l0:(List V))(l1:(List V))(l2:(List V))(n3:Int)(n4:Int)(l5:(List V)):Ze Tryz.prog cfg O 140 [.agg [.vec .plain (some 4) l0, .vec .plain (some 5) l1, .vec .plain (some 3) l2], .agg [.int n3, .int n4, .vec .plain (some 3) l5]] []=
 some (Out.ret (V.tup [V.agg [V.int 0,V.int 0,V.vec .plain (some 3) []],V.int 3]),[]):=by kernel_rfl
theorem zcR(O:Oracle)(l0:(List V))(l1:(List V))(l2:(List V))(n3:Int)(n4:Int)(l5:(List V)):Ze Tryz.prog cfg O 141 [.agg [.vec .plain (some 4) l0, .vec .plain (some 5) l1, .vec .plain (some 3) l2], .agg [.int n3, .int n4, .vec .plain (some 3) l5]] []=
 bc (decide (n4≥(↑l2.length:Int))) (some (Out.ret (V.tup [V.agg [V.int 0,V.int 0,V.vec .plain (some 3) []],V.int 2]),[])) (gd (decide (0≤IntKind.i64.wrap
 (IntKind.i64.wrap ((↑l2.length:Int)-1)-n4))&&decide (IntKind.i64.wrap (IntKind.i64.wrap ((↑l2.length:Int)-1)-n4)<(↑l2.length:Int))) (Zc [CT.int,CT.int,
 CT.slice (some 3)] (ZP l2 (IntKind.i64.wrap (IntKind.i64.wrap ((↑l2.length:Int)-1)-n4))) fun n1 n2 l3=>Za (Zj O 177 [V.agg [V.int n1,V.int n2,V.vec .plain
 (some 3) l3],V.int (IntKind.i64.wrap (n4+1)),V.int 0]) fun r4=>Zc [CT.int,CT.int,CT.slice (some 3)] r4 fun n5 n6 l7=>Za (Zj O 176 [V.agg
 [V.vec .plain (some 4) l0,V.vec .plain (some 5) l1,V.vec .plain (some 3) l2],V.agg [V.int n5,V.int n6,V.vec .plain (some 3) l7],V.vec .plain (some 3) l5]) fun r8=>ZM r8
 fun c9=>Zd c9 fun v10 c11=>Zc [CT.int,CT.int,CT.slice (some 3)] v10 fun n12 n13 l14=>Zd c11 fun v15 c16=>Zm v15 fun n17=>Zn c16 (gd (below 0 (V.tup
 [V.agg [V.int n12,V.int n13,V.vec .plain (some 3) l14],V.int n17])&&true) (some (Out.ret (V.tup [V.agg [V.int n12,V.int n13,V.vec .plain (some 3) l14],V.int n17]),[]))))):=by kernel_rfl
theorem zcS(O:Oracle)(l0:(List V))(l1:(List V))(l2:(List V))(n3:Int)(n4:Int)(l5:(List V)):Ze Tryz.prog cfg O 142 [.agg [.vec .plain (some 4) l0, .vec .plain (some 5) l1, .vec .plain (some 3) l2], .agg [.int n3, .int n4, .vec .plain (some 3) l5]] []=
 Za (Zj O 178 [V.agg [V.vec .plain (some 4) l0,V.vec .plain (some 5) l1,V.vec .plain (some 3) l2],V.int n4,V.bool false]) fun r1=>ZM r1 fun c2=>
 Zd c2 fun v3 c4=>Zc [CT.int,CT.int,CT.slice (some 3)] v3 fun n5 n6 l7=>Zd c4 fun v8 c9=>Zm v8 fun n10=>Zn c9 (bc (n10 !=0) (some (Out.ret (V.tup
 [V.agg [V.int 0,V.int 0,V.vec .plain (some 3) []],V.int n10]),[])) (Za (Zj O 176 [V.agg [V.vec .plain (some 4) l0,V.vec .plain (some 5) l1,V.vec .plain
 (some 3) l2],V.agg [V.int n5,V.int n6,V.vec .plain (some 3) l7],V.vec .plain (some 3) l5]) fun r11=>ZM r11 fun c12=>Zd c12 fun v13 c14=>Zc [CT.int,CT.int,
 CT.slice (some 3)] v13 fun n15 n16 l17=>Zd c14 fun v18 c19=>Zm v18 fun n20=>Zn c19 (gd (below 0 (V.tup [V.agg [V.int n15,V.int n16,V.vec .plain (some 3) l17],
 V.int n20])&&true) (some (Out.ret (V.tup [V.agg [V.int n15,V.int n16,V.vec .plain (some 3) l17],V.int n20]),[]))))):=by kernel_rfl
theorem zfv(O:Oracle)(l0:(List V))(l1:(List V))(l2:(List V))(n3:Int)(n4:Int)(l5:(List V)):Ze Tryz.prog cfg O 143 [.agg [.vec .plain (some 4) l0, .vec .plain (some 5) l1, .vec .plain (some 3) l2], .agg [.int n3, .int n4, .vec .plain (some 3) l5]] []=
 bc (decide (n4≥(↑l1.length:Int))) (some (Out.ret (V.tup [V.agg [V.int 0,V.int 0,V.vec .plain (some 3) []],V.int 2]),[])) (gd (decide (0≤n4)&&decide (n4<(↑l1.length:
 Int))) (Zc [CT.slice (some 3),CT.int,CT.int,CT.slice (some 3),CT.bool] (ZP l1 n4) fun l1_1 n2 n3_1 l4 b5=>bc ((↑l1_1.length:Int) !=(↑l5.length:Int)) (some
 (Out.ret (V.tup [V.agg [V.int 0,V.int 0,V.vec .plain (some 3) []],V.int 3]),[])) (Za (O.loop 143 7 [V.loc true (some 3) (V.agg [V.int 0,V.int 0,V.vec
 Mode.full (some 3) []]),V.int 0,V.loc false (some 3) (V.agg [V.int n3,V.int n4,V.vec .plain (some 3) l5]),V.loc false (some 3) (V.agg [V.vec .plain (some 4) l0,V.vec .plain
 (some 5) l1,V.vec .plain (some 3) l2]),V.vec .plain (some 3) l1_1,V.loc false (some 5) (V.agg [V.vec .plain (some 3) l1_1,V.int n2,V.int n3_1,V.vec .plain (some 3) l4,
 V.bool b5]),V.int (↑l1_1.length:Int)] []) fun r6=>Xk r6.fst none (Zd r6.snd.fst fun v7 c8=>Y0 (some 3) v7 fun d9 v10=>Zd c8 fun v11 c12=>Zm v11 fun n13
 =>Zn c12 (gd (below 0 (V.tup [Zs v10,V.int n13])&&Zt 0 []) (some (Out.ret (V.tup [Zs v10,V.int n13]),[])))) (fun i14=>bc (i14.beq 0) (Zd r6.snd.fst fun
 v15 c16=>Y0 (some 3) v15 fun d17 v18=>Zd c16 fun v19 c20=>Y0 (some 3) v19 fun d21 v22=>Zc [CT.slice (some 4),CT.slice (some 5),CT.slice (some 3)] (bif
 d21 then Zs v22 else v22) fun l23 l24 l25=>Zd c20 fun v26 c27=>Y0 (some 3) v26 fun d28 v29=>Zc [CT.int,CT.int,CT.slice (some 3)] (bif d28 then Zs v29
 else v29) fun n30 n31 l32=>Zd c27 fun v33 c34=>Y0 (some 5) v33 fun d35 v36=>Zc [CT.slice (some 3),CT.int,CT.int,CT.slice (some 3),CT.bool] (bif d35 then
 Zs v36 else v36) fun l37 n38 n39 l40 b41=>Zn c34 (Za (Zj O 126 [V.agg [V.int n38,V.int n39,V.vec .plain (some 3) l40],V.agg [V.vec .plain (some 3) l32,
 V.int (↑l25.length:Int)]]) fun r42=>ZM r42 fun c43=>Zd c43 fun v44 c45=>Zc [CT.int,CT.int,CT.slice (some 3)] v44 fun n46 n47 l48=>Zd c45 fun v49 c50
 =>Zm v49 fun n51=>Zn c50 (gd (below 0 (V.tup [V.agg [V.int n46,V.int n47,V.vec .plain (some 3) l48],V.int n51])&&Zt 0 []) (some (Out.ret (V.tup [V.agg [V.int
 n46,V.int n47,V.vec .plain (some 3) l48],V.int n51]),[]))))) none) fun v52=>none))):=by kernel_rfl
theorem JC(O:Oracle)(v0:V)(n1:Int)(n2:Int)(n3:Int)(l4:(List V))(l5:(List V))(l6:(List V))(l7:(List V))(l8:(List V))(l9:(List V))(n10:Int)(n11:Int)(l12:(List V))(b13:Bool)(n14:Int):Zz Tryz.prog cfg O 143 7 [.loc true (some 3) v0, .int n1, .loc false (some 3) (.agg [.int n2, .int n3, .vec .plain (some 3) l4]), .loc false (some 3) (.agg [.vec .plain (some 4) l5, .vec .plain (some 5) l6, .vec .plain (some 3) l7]), .vec .plain (some 3) l8, .loc false (some 5) (.agg [.vec .plain (some 3) l9, .int n10, .int n11, .vec .plain (some 3) l12, .bool b13]), .int n14] []=
 bc (decide (n1<n14)) (gd (decide (0≤n1)&&decide (n1<(↑l8.length:Int))) (Zc [CT.int,CT.int,CT.slice (some 3)] (ZP l8 n1) fun n1_1 n2_1 l3=>gd (true&&decide
 (0≤n1)&&decide (n1≤(↑l4.length:Int))) (Za (Zj O 126 [V.agg [V.int n1_1,V.int n2_1,V.vec .plain (some 3) l3],V.agg [V.vec .plain (some 3) (List.drop 0
 (List.take n1.toNat l4)),V.int (↑l7.length:Int)]]) fun r4=>ZM r4 fun c5=>Zd c5 fun v6 c7=>Zc [CT.int,CT.int,CT.slice (some 3)] v6 fun n8 n9 l10=>Zd
 c7 fun v11 c12=>Zm v11 fun n13=>Zn c12 (bc (n13==0) (gd (decide (0≤n1)&&decide (n1<(↑l4.length:Int))) (Zc [CT.int,CT.int,CT.slice (some 3)] (ZP l4
 n1) fun n14_1 n15 l16=>Za (Zj O 89 [V.agg [V.vec .plain (some 4) l5,V.vec .plain (some 5) l6,V.vec .plain (some 3) l7],V.agg [V.int n14_1,V.int n15,
 V.vec .plain (some 3) l16],V.agg [V.int n8,V.int n9,V.vec .plain (some 3) l10]]) fun r17=>Zm r17 fun n18=>bc (n18 !=0) (some (Ex.ret,[V.loc false (some 3) (V.agg
 [V.int 0,V.int 0,V.vec .plain (some 3) []]),V.int n18],[])) (O.2 143 7 [V.loc true (some 3) v0,V.int (IntKind.i64.wrap (n1+1)),V.loc false (some 3) (V.agg
 [V.int n2,V.int n3,V.vec .plain (some 3) l4]),V.loc false (some 3) (V.agg [V.vec .plain (some 4) l5,V.vec .plain (some 5) l6,V.vec .plain (some 3) l7]),V.vec .plain (some 3)
 l8,V.loc false (some 5) (V.agg [V.vec .plain (some 3) l9,V.int n10,V.int n11,V.vec .plain (some 3) l12,V.bool b13]),V.int n14] []))) (bc (n13 !=0) (some (Ex.ret,[V.loc
 false (some 3) (V.agg [V.int 0,V.int 0,V.vec .plain (some 3) []]),V.int n13],[])) (O.2 143 7 [V.loc true (some 3) v0,V.int (IntKind.i64.wrap (n1+1)),V.loc
 false (some 3) (V.agg [V.int n2,V.int n3,V.vec .plain (some 3) l4]),V.loc false (some 3) (V.agg [V.vec .plain (some 4) l5,V.vec .plain (some 5) l6,V.vec .plain (some 3) l7]),
 V.vec .plain (some 3) l8,V.loc false (some 5) (V.agg [V.vec .plain (some 3) l9,V.int n10,V.int n11,V.vec .plain (some 3) l12,V.bool b13]),V.int n14] [])))))) (some (Ex.exit
 0,[V.loc true (some 3) v0,V.loc false (some 3) (V.agg [V.vec .plain (some 4) l5,V.vec .plain (some 5) l6,V.vec .plain (some 3) l7]),V.loc false (some 3) (V.agg [V.int n2,
 V.int n3,V.vec .plain (some 3) l4]),V.loc false (some 5) (V.agg [V.vec .plain (some 3) l9,V.int n10,V.int n11,V.vec .plain (some 3) l12,V.bool b13])],[])):=by kernel_rfl
end Go.Proofs.CL
namespace Go.Proofs.CL
open Go Go.AM Go.Ama
def zbW(t:T):Res:= .box [.int t.k, .int t.h, .vec .plain (some 3) (Zf t.args)]
theorem zpW(a b u:T)(x:Res):W.round 2 144 3 [.ref 0 0] [enc a,enc b] [zbW u,x, .loop 144 3 [.ref 0 0] .ready none]=some (true,[zbW b,x, .loop 144 3 [.ref 0 0] .ready none]):=by
 rw[Rd]
 conv=>lhs;rw[Zb a,Zb b]
 exact zj3 W _ _ _ _ _ _ _ _ _ x
theorem zos: ∀(n:Nat) (t u:T),t.size≤n→
  W.loop 207 0 [.ref 1 0, .yld 2] [zbW u,zbW t, .loop 144 3 [.ref 0 0] .ready none]=
   some (.exit 0,[],[zbW (if(split t).1=[]then u else(split t).2),zbW (split t).2, .loop 144 3 [.ref 0 0] .ready none]):=by
 intro n
 induction n with
 |zero=>intro t _ h;have:=XP t;omega
 |succ n ih=>
  intro t u h
  have hp:=XP t
  rw[L]
  conv=>lhs;rw[show zbW t= .box [.int t.k, .int t.h, .vec .plain (some 3) (Zf t.args)]from rfl]
  rw[zi0,Zi,znR,zaG]
  by_cases c1:t.k=1
  ·by_cases c2:t.args.length=2
   ·obtain⟨a,b,hab⟩:=zpG c2
    have hb:=zcn (t:=t) (b:=b) (by rw[hab];simp)
    have g0:ZP (Zf t.args) 0=enc a:=by rw[hab];rfl
    have g1:ZP (Zf t.args) 1=enc b:=by rw[hab];rfl
    have hrd:=zpW a b u (zbW t)
    have:=ih b b (by omega)
    rw[zj5 c1 hab]
    simp only[c1,c2,decide_true,Z4,g0,g1,YJ,←Zb,Bool.true_and,show decide ((0:Int)<((2:Nat):Int))=true from rfl,show decide ((1:Int)<((2:Nat):Int))=true from rfl,Z6,zaq,zaH]
    have hbt:zbW t= .box [.int 1, .int t.h, .vec .plain (some 3) (Zf t.args)]:=by unfold zbW;rw[c1]
    rw[hbt]at hrd
    rw[hrd,Zg]
    simp only[Bool.not_true,Z2]
    have hget: ∀{R:Type} (K:Res→Option R),Zw [zbW b,Res.box [V.int 1,V.int t.h,V.vec .plain (some 3) (Zf t.args)],Res.loop 144 3 [V.ref 0 0] LSt.ready none] 1 K=K (Res.box [V.int 1,V.int t.h,V.vec .plain (some 3) (Zf t.args)]):=fun K=>rfl
    rw[hget,zhr]
    have hc:Zs (AM.partOf [V.int 1,V.int t.h,V.vec .plain (some 3) (Zf t.args)] 2 none)= .vec .plain (some 3) (Zf t.args):=rfl
    rw[hc,YZ,g1,YJ,hget,zhr]
    have h1l:decide ((1:Int)<((Zf t.args).length:Int))=true:=by rw[Zi,c2];rfl
    rw[h1l]
    simp only[List.length_cons,List.length_nil,Nat.zero_add,Nat.reduceAdd,Nat.le_refl,decide_true,Bool.and_self,Z6]
    have hset:List.set [zbW b,Res.box [V.int 1,V.int t.h,V.vec .plain (some 3) (Zf t.args)],Res.loop 144 3 [V.ref 0 0] LSt.ready none] 1
      (Res.box (setCells [V.int 1,V.int t.h,V.vec .plain (some 3) (Zf t.args)] 0 [V.int b.k,V.int b.h,V.vec .plain (some 3) (Zf b.args)]))=[zbW b,zbW b, .loop 144 3 [.ref 0 0] .ready none]:=rfl
    rw[hset,this]
    simp only[if_neg (List.cons_ne_nil a (split b).1)]
    by_cases c:(split b).1=[]
    ·have hsb:(split b).2=b:=by
      by_cases c':b.k=1∧b.args.length=2
      ·obtain⟨a',b',hab'⟩:=zpG c'.2
       rw[zj5 c'.1 hab']at c;cases c
      ·rw[zex c']
     rw[if_pos c,hsb]
    ·rw[if_neg c]
   ·rw[zex fun c=>c2 c.2]
    simp only[c1,c2,decide_true,decide_false,Z4,Z2,if_true]
    rw[←c1]
    rfl
  ·rw[zex fun c=>c1 c.1]
   simp only[c1,decide_false,Z2,if_true]
   rfl
theorem zpX(t:T):Ev 144 [enc t] (enc (split t).2):=by
 unfold Ev
 have h:=zos t.size t t (Nat.le_refl _)
 have hlast:(if(split t).1=[]then t else(split t).2)=(split t).2:=by
  by_cases c':t.k=1∧t.args.length=2
  ·obtain⟨a',b',hab'⟩:=zpG c'.2
   rw[zj5 c'.1 hab',if_neg (List.cons_ne_nil _ _)]
  ·rw[zex c',if_pos rfl]
 rw[hlast]at h
 have hc:W.call 207 [.yld 2, .ref 1 0] [zbW t, .box [.int t.k, .int t.h, .vec .plain (some 3) (Zf t.args)], .loop 144 3 [.ref 0 0] .ready none]=
   some (.ret (.tup []),[zbW (split t).2,zbW (split t).2, .loop 144 3 [.ref 0 0] .ready none]):=by
  rw[C,zmB]
  have h':W.loop 207 0 [V.ref 1 0,V.yld 2] [zbW t,Res.box [V.int t.k,V.int t.h,V.vec .plain (some 3) (Zf t.args)], .loop 144 3 [.ref 0 0] .ready none]=_:=h
  rw[h',Zg,Js]
  rfl
 rw[C]
 conv=>lhs;rw[Zb]
 have hpis:W.call 179 [V.agg [V.int t.k,V.int t.h,V.vec .plain (some 3) (Zf t.args)]] [Res.box [V.int t.k,V.int t.h,V.vec .plain (some 3) (Zf t.args)]]=
   some (.ret (V.fn 207 [] [V.ref 1 0]),[zbW t,Res.box [V.int t.k,V.int t.h,V.vec .plain (some 3) (Zf t.args)]]):=by
  rw[C,zpF];rfl
 rw[zod,hpis,Zg,ZV,zgj]
 have hc':W.call 207 ([]++[V.yld (List.length [zbW t,Res.box [V.int t.k,V.int t.h,V.vec .plain (some 3) (Zf t.args)]])]++[V.ref 1 0])
   ([zbW t,Res.box [V.int t.k,V.int t.h,V.vec .plain (some 3) (Zf t.args)]]++[Res.loop 144 3 [V.ref 0 0] LSt.ready none])=_:=hc
 rw[hc',Zg,ZV]
 have hfin:gd (below 0 (enc (split t).2)&&Zt 0 []) (some (Out.ret (enc (split t).2),([]:St)))=some (Out.ret (enc (split t).2),[]):=by
  rw[zhp];rfl
 have hfin':=hfin
 rw[Zb (split t).2]at hfin'
 rw[Zb (split t).2]
 exact hfin'
theorem zrK(t:T):Ev 95 [enc t] (.bool (decide ((split t).2.k=0))):=by
 unfold Ev
 rw[C,Zb,zoc,←Zb,(zpX t).p]
 simp only[Zg,YJ,zaG]
end Go.Proofs.CL
namespace Go.Ama
open Go Go.AM
theorem zgp{t:T}:may t=true↔QR t=true∧t.size≤4000∧t.depth≤60:=by
 unfold may;simp only[Bool.and_eq_true,decide_eq_true_eq]
theorem zrL{t x:T}(h:x∈t.args):x.depth<t.depth:=by
 cases t with
 |mk k hd ys=>have:=zgm h;simp only[T.args]at this h;have:=zgm h;simp only[T.depth];omega
theorem zey{t x:T}(h:may t=true)(hx:x∈t.args):may x=true:=by
 obtain⟨h1,h2,h3⟩:=zgp.1 h
 refine zgp.2 ⟨?_,by have:=zcn hx;omega,by have:=zrL hx;omega⟩
 cases t with
 |mk k hd ys=>
  simp only[QR,Bool.and_eq_true,zj4,List.all_eq_true]at h1
  exact h1.2 x hx
theorem zjG{t:T}(h:may t=true):zi1 t.k t.h t.args.length=true:=by
 obtain⟨h1,_⟩:=zgp.1 h
 cases t with
 |mk k hd ys=>simp only[QR,Bool.and_eq_true]at h1;exact h1.1
theorem zmH{t:T}(h:may t=true)(hk:t.k=1):t.args.length=2:=by
 have:=zjG h
 rw[hk]at this
 simp[zi1]at this
 exact this.2
mutual
theorem ztj{B:Int}(hB:1099511627776≤B): ∀t:T,QR t=true→low t=true→okB B t
 | .mk k h ys,h1,h2=>by
  simp only[QR,Bool.and_eq_true]at h1
  simp only[low,Bool.and_eq_true,decide_eq_true_eq]at h2
  refine⟨⟨?_,by omega⟩, ?_,zqJ hB ys h1.2 h2.2⟩
  ·have:=h1.1
   unfold zi1 at this
   repeat' split at this
   all_goals simp at this;omega
  ·rintro rfl e
   subst e
   have:=h1.1
   simp[zi1]at this
theorem zqJ{B:Int}(hB:1099511627776≤B): ∀l:List T,JR l=true→low.lows l=true→zaI B l
 |[],_,_=>trivial
 |a::l,h1,h2=>by
  simp only[JR,Bool.and_eq_true]at h1
  simp only[low.lows,Bool.and_eq_true]at h2
  exact⟨ztj hB a h1.1 h2.1,zqJ hB l h1.2 h2.2⟩
end
theorem zbl{B:Int}{t x:T}(h:okB B t)(hx:x∈t.args):okB B x:=by
 cases t with
 |mk k hd ys=>exact(XQ B ys).1 h.2.2 x hx
theorem zum{j:Job}{o:Oj}(h:Big j o): ∀e,o= .e e→e=3∨e=4:=by
 induction h with
 |apLimit=>rintro e ⟨⟩;exact .inr rfl
 |apErr _ _ _ ih=>rintro e ⟨⟩;exact ih _ rfl
 |apNode=>rintro e ⟨⟩
 |apVar _ _ _ _ _ _ _ _ _ ih=>exact ih
 |arNil=>rintro e ⟨⟩
 |arErr _ _ ih=>rintro e ⟨⟩;exact ih _ rfl
 |arErr2 _ _ _ _ ih=>rintro e ⟨⟩;exact ih _ rfl
 |arCons=>rintro e ⟨⟩
 |spNil=>rintro e ⟨⟩
 |spMay=>rintro e ⟨⟩;exact .inr rfl
 |spErr _ _ _ _ _ ih=>rintro e ⟨⟩;exact ih _ rfl
 |spLam _ _ _ _ _ _ _ ih=>exact ih
 |spApp=>rintro e ⟨⟩
 |spType=>rintro e ⟨⟩;exact .inl rfl
theorem zcs{β:Int}(hβ:ZY β){t:T}{l:List T}{s:Int}(ht:may t=true→okB β t)(hl:zeP l s=true→ ∀x∈l,okB β x)(h:(YK t l s).2=0):
  may (YK t l s).1=true∧okB (β+83886080000) (YK t l s).1∧ ∃m,Big (.ap 0 t l s) (.t (YK t l s).1 m):=by
 unfold YK zdN at h⊢
 split at h
 ·rename_i hm
  rw[if_pos hm]
  simp only[Bool.and_eq_true]at hm
  obtain⟨hB,hP,_⟩:=zqG hβ (ht hm.1) (hl hm.2) hm.1 hm.2
  generalize zpR t l s=o at*
  cases o with
  |l _ _=>exact hP.elim
  |e e=>
   rcases zum hB e rfl with rfl|rfl<;>simp[zcr]at h
  |t u m=>
   obtain⟨p1,p2,p3,p4⟩:=hP
   have hmu:may u=true:=by
    cases hx:may u with
    |true=>rfl
    |false=>simp[zcr,hx]at h
   have e:(zcr (.t u m)).1=u:=by simp[zcr,hmu]
   rw[e]
   exact⟨hmu,Z5 (by unfold bnd;omega) u p4,m,hB⟩
 ·simp at h
end Go.Ama
namespace Go.Ama
open Go Go.AM
end Go.Ama
namespace Go.Ama
open Go Go.AM
end Go.Ama
namespace Go.Ama
open Go Go.AM
def X9(sig:List D)(i:Int)(kind:Bool):Option T:=
 if h:0≤i∧i<sig.length then(if decide ((split (sig[i.toNat]'(by omega)).t).2.k=0)=kind then some (sig[i.toNat]'(by omega)).t else none)else none
mutual
noncomputable def JD(sig:List D)(ms:List M):T→List T→T→Int
 | .mk k h as_,ctx,a=>
  if k=3∧a.k=1 then zuJ sig ms as_ (ctx++[a.args.getD 0 T0]) (a.args.getD 1 T0)
  else if k=3∨a.k≠2 then 3
  else
   let r:T×Int:=
    if k=4 then(if(ctx.length:Int)≤h then(T0,2)else YB sig ms as_ ctx (upP (ctx.getD (ctx.length-1-h.toNat) T0) (h+1) 0))
    else if k=5 then(match X9 sig h false with|none=>(T0,2)|some t=>YB sig ms as_ ctx t)
    else if k=6 then
     (if(ms.length:Int)≤h then(T0,2)
      else
      let d:=ms.getD h.toNat ⟨[],T0,false⟩
      if d.ctx.length≠as_.length then(T0,3)
      else
       let e:=zeS sig ms as_ ctx [] d.ctx
       if e≠0 then(T0,e)else YK d.t as_ ctx.length)
    else(T0,3)
   if r.2≠0 then r.2 else if r.1.same a then 0 else 3
noncomputable def zuJ(sig:List D)(ms:List M):List T→List T→T→Int
 |[],_,_=>3
 |b::_,ctx,a=>JD sig ms b ctx a
noncomputable def YB(sig:List D)(ms:List M):List T→List T→T→T×Int
 |[],_,t=>(t,0)
 |a::as_,ctx,t=>
  if t.k≠1 then(T0,3)
  else
   let e:=JD sig ms a ctx (t.args.getD 0 T0)
   if e≠0 then(T0,e)
   else
    let u:=YK (t.args.getD 1 T0) [a] 0
    if u.2≠0 then(T0,u.2)else YB sig ms as_ ctx u.1
noncomputable def zeS(sig:List D)(ms:List M):List T→List T→List T→List T→Int
 |[],_,_,_=>0
 |_::_,_,_,[]=>0
 |a::as_,ctx,done,d::ds=>
  let t:=YK d done ctx.length
  let e:=if t.2=0 then JD sig ms a ctx t.1 else t.2
  if e≠0 then e else zeS sig ms as_ ctx (done++[a]) ds
end
mutual
noncomputable def zjH(sig:List D)(ms:List M):T→List T→Int
 | .mk k h as_,ctx=>
  if k=1 then zuK sig ms as_ ctx
  else if k=2 then
   (match X9 sig h true with
    |none=>2
    |some t=>
     let r:=YB sig ms as_ ctx t
     if r.2≠0 then r.2 else if r.1.k≠0 then 3 else 0)
  else 3
noncomputable def zuK(sig:List D)(ms:List M):List T→List T→Int
 |a::as_,ctx=>
  let e:=zjH sig ms a ctx
  if e≠0 then e else zqK sig ms as_ (ctx++[a])
 |[],_=>3
noncomputable def zqK(sig:List D)(ms:List M):List T→List T→Int
 |b::_,ctx=>zjH sig ms b ctx
 |[],_=>3
end
def zot(m:M):Bool:=may m.t&&m.ctx.all may
def zjI(sig:List D)(ms:List M)(ctx l:List T):Bool:=
 decide (ctx.length≤1000)&&(l.all may&&(ctx.all may&&(sig.all (fun d=>may d.t)&&ms.all zot)))
noncomputable def QB(sig:List D)(ms:List M)(ctx:List T)(m a:T):Int:=if zjI sig ms ctx [m,a]then JD sig ms m ctx a else 1
noncomputable def zbm(sig:List D)(ms:List M)(ctx:List T)(a:T):Int:=if zjI sig ms ctx [a]then zjH sig ms a ctx else 1
mutual
theorem zqL{B b:Int}(hB:0≤b∧b≤1048576∧B≤9223372036850000000)(f:Int): ∀(t:T) (ar:Int),okB B t→okB (B+b) (upT b f ar t)
 | .mk k hd ys,ar,⟨h1,h2,h3⟩=>by
  simp only[upT,okB]
  refine⟨?_, ?_,zou hB f ys ar h3⟩
  ·split
   ·unfold upV
    split
    ·rw[Zu ⟨by omega,by omega⟩];omega
    ·omega
   ·omega
  ·intro hk e
   have:=congrArg List.length e
   rw[JS]at this
   exact h2 hk (List.length_eq_zero_iff.1 (by simpa using this))
theorem zou{B b:Int}(hB:0≤b∧b≤1048576∧B≤9223372036850000000)(f:Int): ∀(l:List T) (ar:Int) {bd:Bool},zaI B l→zaI (B+b) (ups b f ar bd l)
 |[],ar,bd,_=>trivial
 |a::l,ar,bd,⟨h1,h2⟩=>by simp only[ups,zaI];exact⟨zqL hB f a _ h1,zou hB f l ar h2⟩
end
theorem zov{B:Int}(hB:ZY B){t:T}(h:okB B t){b f:Int}(hb:0≤b):okB (B+1048576) (upP t b f):=by
 obtain⟨q1,q2⟩:=hB
 unfold upP;split
 ·rename_i hc
  simp only[Bool.and_eq_true,decide_eq_true_eq]at hc
  exact Z5 (by omega) _ (zqL (by omega) f t 0 h)
 ·exact Z5 (by omega) t h
mutual
theorem zow(b f:Int)(hb:0≤b): ∀(t:T) (ar:Int),QR t=true→(∀B,okB B t→B≤9223372036850000000→b≤1048576→QR (upT b f ar t)=true)
 | .mk k h as_,ar,hn=>fun B hB h1 h2=>by
  simp only[QR,Bool.and_eq_true]at hn
  obtain⟨⟨q1,q2⟩,q3,q4⟩:=hB
  simp only[upT,QR,Bool.and_eq_true,JS]
  refine⟨?_,zl3 b f hb as_ ar hn.2 B q4 h1 h2⟩
  split
  ·rename_i hk
   subst hk
   have:0≤upV b f ar h:=by
    unfold upV
    split
    ·rw[Zu ⟨by omega,by omega⟩];omega
    ·exact q1
   simp[zi1,this]
  ·exact hn.1
theorem zl3(b f:Int)(hb:0≤b): ∀(l:List T) (ar:Int) {bd:Bool},JR l=true→(∀B,zaI B l→B≤9223372036850000000→b≤1048576→JR (ups b f ar bd l)=true)
 |[],_,_,_=>fun _ _ _ _=>rfl
 |a::l,ar,bd,hn=>fun B hB h1 h2=>by
  simp only[JR,Bool.and_eq_true]at hn
  simp only[ups,JR,Bool.and_eq_true]
  exact⟨zow b f hb a _ hn.1 B hB.1 h1 h2,zl3 b f hb l ar hn.2 B hB.2 h1 h2⟩
end
mutual
theorem zox(b f:Int): ∀(t:T) (ar:Int),(upT b f ar t).depth=t.depth
 | .mk k h as_,ar=>by simp only[upT,T.depth];rw[zjJ b f as_ ar]
theorem zjJ(b f:Int): ∀(l:List T) (ar:Int) {bd:Bool},Yq (ups b f ar bd l)=Yq l
 |[],ar,bd=>rfl
 |a::as_,ar,bd=>by simp only[ups,Yq];rw[zox b f a,zjJ b f as_]
end
theorem zqM{B:Int}(hB:ZY B){t:T}(h:okB B t)(hm:may t=true){b f:Int}(hb:0≤b):may (upP t b f)=true:=by
 obtain⟨q1,q2⟩:=hB
 obtain⟨h1,h2,h3⟩:=zgp.1 hm
 unfold upP
 split
 ·rename_i hc
  simp only[Bool.and_eq_true,decide_eq_true_eq]at hc
  exact zgp.2 ⟨zow b f hb t 0 h1 B h (by omega) (by omega),by rw[zmC];exact h2,by rw[zox];exact h3⟩
 ·exact hm
end Go.Ama
namespace Go.Proofs.CL
open Go Go.AM Go.Ama
abbrev zbn(sig:List D)(ms:List M)(ctx:List T):V:= .agg [.vec .plain (some 4) (Ye sig), .vec .plain (some 5) (ZA ms), .vec .plain (some 3) (Zf ctx)]
@[simp] theorem onW{R:Type}(a b c:List V)(K:List V→List V→List V→Option R):Zc (R:=R) [CT.slice (some 4),CT.slice (some 5),CT.slice (some 3)] (.agg [.vec .plain (some 4) a, .vec .plain (some 5) b, .vec .plain (some 3) c]) K=K a b c:=rfl
theorem zjK(n:Nat)(sig:List D)(ms:List M)(ctx:List T):below n (zbn sig ms ctx)=true:=by simp[below,Zk,Zq]
theorem zl4(sig:List D)(ms:List M)(ctx:List T)(a:T)(h:ctx.length≤1099511627776):Ev 139 [zbn sig ms ctx,enc a] (zbn sig ms (ctx++[a])):=by
 have hr:roomFor Tryz.prog 27 (ctx.length+1)=true:=zbU (by omega)
 have htk:List.take ctx.length (Zf ctx)=Zf ctx:=List.take_of_length_le (by simp)
 unfold Ev
 rw[C,Zb a,zft]
 simp[htk,hr,←Zb,below,Zk,Xj,Zq]
theorem zeT(sig:List D)(ms:List M)(ctx:List T)(i:Int)(b:Bool)(h0:0≤i)(hs:sig.length≤1099511627776):Ev 178 [zbn sig ms ctx, .int i, .bool b] (.tup [enc ((X9 sig i b).getD T0), .int (match X9 sig i b with|none=>2|some _=>0)]):=by
 unfold Ev X9
 rw[C,zcQ,QK]
 by_cases hi:i<sig.length
 ·have hn:i.toNat<sig.length:=by omega
  have hii:((i.toNat:Nat):Int)=i:=by omega
  have hg:ZP (Ye sig) i=zdM sig[i.toNat]:=by have:=zfq hn;rwa [hii]at this
  have hk:=(zrK sig[i.toNat].t).p
  have hlt: ¬i≥sig.length:=by omega
  have hc:(0≤i∧i<sig.length):=⟨h0,hi⟩
  rw[dif_pos hc,hg]
  simp only[hlt,decide_false,Z2,h0,hi,decide_true,Bool.and_self,Z6,zvW,←Zb,hk,Zg,ZH]
  generalize decide ((split sig[i.toNat].t).2.k=0)=kb
  by_cases hb:kb=b
  ·subst hb
   cases kb<;>simp[below,Zk]
  ·rw[if_neg hb]
   cases kb<;>cases b<;>simp_all
   ·rfl
   ·rfl
 ·have hge:i≥sig.length:=by omega
  rw[dif_neg (fun h=>hi h.2)]
  simp[hge]
  rfl
theorem zpY:cfg.pure 134=true:=by kernel_rfl
theorem zpZ:cfg.pure 135=false:=by kernel_rfl
theorem zqa:cfg.pure 137=false:=by kernel_rfl
theorem zhz(t:T)(hs:t.size≤1099511627776):Ev 134 [enc t] (.bool (!may t)):=by
 have h:=(QL t hs).p
 unfold Ev
 rw[C,Zb t,ze5,←Zb,h]
 simp
theorem zfw(xs:List T)(hs:sizes xs≤1099511627776)(st:St):W.call 73 [.vec .plain (some 3) (Zf xs), .fn 134 [] []] st=some (.ret (.bool (xs.any fun t=> !may t)),st):=
 zbV (a:=[]) (b:=[]) zpY (p:=fun t=> !may t) xs (by have:=Zo xs;omega) (fun t ht=>(zhz t (by have:=size_le ht;omega)).p) st
theorem zqb(d:D)(hs:d.t.size≤1099511627776)(st:St):W.call 137 ([]++[zdM d]++[.cptr none (.fn 134 [] [])]) st=some (.ret (.bool (!may d.t)),st):=by
 have h:=(zhz d.t hs).p
 have e1:zdM d=V.agg [V.str (ba d.name),V.int d.t.k,V.int d.t.h,V.vec .plain (some 3) (Zf d.t.args)]:=rfl
 rw[e1]
 show W.call 137 [V.agg [V.str (ba d.name),V.int d.t.k,V.int d.t.h,V.vec .plain (some 3) (Zf d.t.args)], .cptr none (.fn 134 [] [])] st=_
 rw[C,ze7,←Zb,h]
 simp[Z3]
theorem zqc(m:M)(hs:sizes m.ctx+m.t.size≤1099511627776)(st:St):W.call 135 ([]++[JU m]++[.cptr none (.fn 134 [] [])]) st=some (.ret (.bool (!zot m)),st):=by
 have h:=(zhz m.t (by omega)).p
 have h2:=zfw m.ctx (by omega) st
 rw[Xn]
 show W.call 135 [V.agg [V.vec .plain (some 3) (Zf m.ctx),V.int m.t.k,V.int m.t.h,V.vec .plain (some 3) (Zf m.t.args),V.bool m.param], .cptr none (.fn 134 [] [])] st=_
 rw[C,ze6,←Zb,h]
 have q2:m.ctx.all may= !m.ctx.any fun d=> !may d:=by simp[List.all_eq_not_any_not]
 unfold zot
 rw[q2]
 cases may m.t<;>simp[Z3,h2]
theorem zl5(sig:List D)(ms:List M)(ctx l:List T)(hsig: ∀d∈sig,d.t.size≤1099511627776)(hsl:sig.length≤1099511627776)(hms: ∀m∈ms,sizes m.ctx+m.t.size≤1099511627776)(hml:ms.length≤1099511627776)(hc:sizes ctx≤1099511627776)(hl:sizes l≤1099511627776):
  Ev 88 [zbn sig ms ctx, .vec .plain (some 3) (Zf l)] (.bool (zjI sig ms ctx l)):=by
 have h1:=zfw l hl []
 have h2:=zfw ctx hc []
 have h3:=zjE (a:=[]) (b:=[.cptr none (.fn 134 [] [])]) zqa (p:=fun d=> !may d.t) sig hsl [] (fun d hd=>zqb d (hsig d hd) [])
 have h4:=zjF (a:=[]) (b:=[.cptr none (.fn 134 [] [])]) zpZ (p:=fun d=> !zot d) ms hml [] (fun d hd=>zqc d (hms d hd) [])
 have q1:sig.all (fun d=>may d.t)= !sig.any fun d=> !may d.t:=by simp[List.all_eq_not_any_not]
 have q2:ctx.all may= !ctx.any fun d=> !may d:=by simp[List.all_eq_not_any_not]
 have q3:l.all may= !l.any fun d=> !may d:=by simp[List.all_eq_not_any_not]
 have q4:ms.all zot= !ms.any fun d=> !zot d:=by simp[List.all_eq_not_any_not]
 have c1:decide ((ctx.length:Int)>1000)= !decide (ctx.length≤1000):=by by_cases h:ctx.length≤1000<;>simp[h]<;>omega
 unfold Ev zjI
 rw[C,zgn,Zi,c1,h1,q1,q2,q3,q4]
 cases decide (ctx.length≤1000)<;>cases l.any (fun d=> !may d)<;>simp[h2]<;>cases ctx.any (fun d=> !may d)<;>simp[h3]<;>cases sig.any (fun d=> !may d.t)<;>simp[h4]
end Go.Proofs.CL
namespace Go.Ama
open Go Go.AM
structure OkW(B:Int)(sig:List D)(ms:List M)(ctx:List T):Prop where
 s: ∀d∈sig,may d.t=true∧okB B d.t
 m: ∀m∈ms,may m.t=true∧okB B m.t∧ ∀x∈m.ctx,may x=true∧okB B x
 c: ∀x∈ctx,may x=true∧okB B x
 sl:sig.length≤1048576
 ml:ms.length≤1048576
 mcl: ∀m∈ms,m.ctx.length≤1048576
theorem OkW.mono{B B':Int}(h:B≤B'){sig:List D}{ms:List M}{ctx:List T}(o:OkW B sig ms ctx):OkW B' sig ms ctx:=
 ⟨fun d hd=>⟨(o.s d hd).1,Z5 h _ (o.s d hd).2⟩,fun m hm=>⟨(o.m m hm).1,Z5 h _ (o.m m hm).2.1,fun x hx=>⟨((o.m m hm).2.2 x hx).1,Z5 h _ ((o.m m hm).2.2 x hx).2⟩⟩,
  fun x hx=>⟨(o.c x hx).1,Z5 h _ (o.c x hx).2⟩,o.sl,o.ml,o.mcl⟩
theorem OkW.with{B:Int}{sig:List D}{ms:List M}{ctx:List T}(o:OkW B sig ms ctx){a:T}(h1:may a=true)(h2:okB B a):OkW B sig ms (ctx++[a]):=
 ⟨o.s,o.m,fun x hx=>by rcases List.mem_append.1 hx with h|h;exact o.c x h;simp at h;subst h;exact⟨h1,h2⟩,o.sl,o.ml,o.mcl⟩
theorem ZW{β γ:Int}(h:ZY γ)(h0:0≤β)(hl:β≤γ):ZY β:=⟨h0,by unfold ZY at h;omega⟩
theorem zh0(sig:List D)(ms:List M): ∀(xs:List T) (ctx:List T) (t:T) (β:Int),0≤β→ZY (β+sizes xs*90000000000)→may t=true→okB β t→(∀x∈xs,okB β x)→(YB sig ms xs ctx t).2=0→
  may (YB sig ms xs ctx t).1=true∧okB (β+sizes xs*90000000000) (YB sig ms xs ctx t).1
 |[],ctx,t,β,_,_,hm,ho,_,_=>by simp only[YB,sizes];exact⟨hm,Z5 (by omega) t ho⟩
 |a::xs,ctx,t,β,h0,hβ,hm,ho,hx,he=>by
  have hp:=XP a
  simp only[sizes,Int.natCast_add,Int.add_mul]at hβ⊢
  unfold YB at he⊢
  by_cases hk:t.k=1
  ·rw[if_neg (by simpa using hk)]at he⊢
   dsimp only at he⊢
   split at he
   ·rename_i h;exact absurd he h
   rename_i h1
   rw[if_neg h1]
   split at he
   ·rename_i h;exact absurd he h
   rename_i h2
   rw[if_neg h2]
   obtain⟨a0,b,hab⟩:=zpG (zmH hm hk)
   have hb:b∈t.args:=by rw[hab];simp
   simp only[hab,List.getD_cons_succ,List.getD_cons_zero]at h2 he⊢
   have hbase:ZY β:=ZW hβ h0 (by
                          have:(0:Int)≤a.size*90000000000:=by omega
                          have:(0:Int)≤sizes xs*90000000000:=by omega
                          omega)
   obtain⟨u1,u2,_⟩:=zcs (t:=b) (l:=[a]) (s:=0) hbase (fun _=>zbl ho hb) (fun _ x hx'=>by simp at hx';rw[hx'];exact hx a (by simp)) (by simpa using h2)
   have hge:(a.size:Int)*90000000000≥90000000000:=by omega
   obtain⟨r1,r2⟩:=zh0 sig ms xs ctx _ (β+a.size*90000000000) (by omega) (by rw[show β+ ↑a.size*90000000000+ ↑(sizes xs)*90000000000=β+(↑a.size*90000000000+ ↑(sizes xs)*90000000000) by omega];exact hβ) u1 (Z5 (by omega) _ u2) (fun x hx'=>Z5 (by omega) x (hx x (by simp[hx']))) he
   exact⟨r1,by rw[show β+(↑a.size*90000000000+ ↑(sizes xs)*90000000000)=β+ ↑a.size*90000000000+ ↑(sizes xs)*90000000000 by omega];exact r2⟩
  ·rw[if_pos hk]at he
   simp at he
noncomputable def zoy(sig:List D)(ms:List M)(h:Int)(xs ctx:List T):T×Int:=
 if(ctx.length:Int)≤h then(T0,2)else YB sig ms xs ctx (upP (ctx.getD (ctx.length-1-h.toNat) T0) (h+1) 0)
noncomputable def zdO(sig:List D)(ms:List M)(h:Int)(xs ctx:List T):T×Int:=
 match X9 sig h false with
 |none=>(T0,2)
 |some t=>YB sig ms xs ctx t
noncomputable def zih(sig:List D)(ms:List M)(h:Int)(xs ctx:List T):T×Int:=
 if(ms.length:Int)≤h then(T0,2)
 else
  let d:=ms.getD h.toNat ⟨[],T0,false⟩
  if d.ctx.length≠xs.length then(T0,3)
  else
   let e:=zeS sig ms xs ctx [] d.ctx
   if e≠0 then(T0,e)else YK d.t xs ctx.length
noncomputable def J6(sig:List D)(ms:List M)(k h:Int)(xs ctx:List T):T×Int:=
 if k=4 then zoy sig ms h xs ctx else if k=5 then zdO sig ms h xs ctx else if k=6 then zih sig ms h xs ctx else(T0,3)
theorem zqd(sig:List D)(ms:List M){k h:Int}{xs ctx:List T}{a:T}(hk:k≠3)(ha:a.k=2):
  JD sig ms (.mk k h xs) ctx a=if(J6 sig ms k h xs ctx).2≠0 then(J6 sig ms k h xs ctx).2 else if(J6 sig ms k h xs ctx).1.same a then 0 else 3:=by
 rw[JD]
 rw[if_neg (fun c=>hk c.1),if_neg (fun c=>c.elim hk (fun c=>c ha))]
 rfl
theorem zrM(sig:List D)(ms:List M){h:Int}{b:T}{r ctx:List T}{a:T}(ha:a.k=1):
  JD sig ms (.mk 3 h (b::r)) ctx a=JD sig ms b (ctx++[a.args.getD 0 T0]) (a.args.getD 1 T0):=by
 conv=>lhs;rw[JD]
 rw[if_pos ⟨rfl,ha⟩,zuJ]
theorem ztk(sig:List D)(ms:List M){k h:Int}{xs ctx:List T}{a:T}(h1: ¬(k=3∧a.k=1))(h2:k=3∨a.k≠2):JD sig ms (.mk k h xs) ctx a=3:=by
 rw[JD,if_neg h1,if_pos h2]
end Go.Ama
namespace Go.Ama
open Go Go.AM
theorem zun(sig:List D)(ms:List M){h:Int}{a b:T}{ctx:List T}:zjH sig ms (.mk 1 h [a,b]) ctx=if zjH sig ms a ctx≠0 then zjH sig ms a ctx else zjH sig ms b (ctx++[a]):=by
 conv=>lhs;rw[zjH]
 rw[if_pos rfl,zuK,zqK]
theorem zdP{sig:List D}{ms:List M}{ctx l:List T}:zjI sig ms ctx l=true↔ctx.length≤1000∧(∀x∈l,may x=true)∧(∀x∈ctx,may x=true)∧(∀d∈sig,may d.t=true)∧(∀m∈ms,may m.t=true∧ ∀x∈m.ctx,may x=true):=by
 unfold zjI
 simp only[Bool.and_eq_true,decide_eq_true_eq,List.all_eq_true]
 have: ∀m:M,zot m=true↔may m.t=true∧ ∀x∈m.ctx,may x=true:=fun m=>by unfold zot;simp[Bool.and_eq_true,List.all_eq_true]
 simp only[this]
structure In(sig:List D)(ms:List M)(ctx l:List T):Prop where
 s: ∀d∈sig,d.t.size≤1048576∧(may d.t=true→okB 1152921504606846976 d.t)
 m: ∀m∈ms,sizes m.ctx+m.t.size≤1048576∧(may m.t=true→okB 1152921504606846976 m.t)∧ ∀x∈m.ctx,may x=true→okB 1152921504606846976 x
 c:sizes ctx≤1048576∧ ∀x∈ctx,may x=true→okB 1152921504606846976 x
 l:sizes l≤1048576∧ ∀x∈l,may x=true→okB 1152921504606846976 x
 sl:sig.length≤1048576
 ml:ms.length≤1048576
theorem In.ok{sig:List D}{ms:List M}{ctx l:List T}(h:In sig ms ctx l)(hm:zjI sig ms ctx l=true):OkW 1152921504606846976 sig ms ctx∧ ∀x∈l,may x=true∧okB 1152921504606846976 x:=by
 obtain⟨_,h2,h3,h4,h5⟩:=zdP.1 hm
 refine⟨⟨fun d hd=>⟨h4 d hd,(h.s d hd).2 (h4 d hd)⟩,fun m hm=>⟨(h5 m hm).1,(h.m m hm).2.1 (h5 m hm).1,fun x hx=>⟨(h5 m hm).2 x hx,(h.m m hm).2.2 x hx ((h5 m hm).2 x hx)⟩⟩,fun x hx=>⟨h3 x hx,h.c.2 x hx (h3 x hx)⟩,h.sl,h.ml,fun m hm=> ?_⟩,fun x hx=>⟨h2 x hx,h.l.2 x hx (h2 x hx)⟩⟩
 have:=(h.m m hm).1
 have:=Zo m.ctx
 omega
end Go.Ama
namespace Go.Proofs.CL
open Go Go.AM Go.Ama
section
variable(sig:List D)(ms:List M)
def HT(N:Nat):Prop:= ∀(m:T) (ctx:List T) (a:T) (β:Int),m.size≤N→0≤β→OkW β sig ms ctx→ctx.length+m.size≤1000000→may m=true→okB β m→may a=true→okB β a→ZY (β+m.size*90000000000)→
 Ev 89 [zbn sig ms ctx,enc m,enc a] (.int (JD sig ms m ctx a))
theorem zoz{N:Nat}(hT:HT sig ms N)(xs ctx:List T)(hxl:xs.length≤1000000): ∀(n i:Nat) (t:T) (β:Int) (v:V),xs.length-i=n→i≤xs.length→sizes (xs.drop i)≤N→0≤β→OkW β sig ms ctx→ctx.length+sizes (xs.drop i)≤1000000→(∀x∈xs,may x=true∧okB β x)→may t=true→okB β t→ZY (β+sizes (xs.drop i)*90000000000)→
  W.loop 176 2 [.loc true (some 3) v, .int (i:Int), .loc false (some 3) (enc t), .loc false (some 3) (zbn sig ms ctx), .vec .plain (some 3) (Zf xs), .int xs.length] []=
   if(YB sig ms (xs.drop i) ctx t).2=0 then some (.exit 0,[.loc true (some 3) v, .loc false (some 3) (enc (YB sig ms (xs.drop i) ctx t).1)],[])else some (.ret,[.loc false (some 3) (enc T0), .int (YB sig ms (xs.drop i) ctx t).2],[]):=by
 intro n
 induction n with
 |zero=>
  intro i t β v hn hi _ _ _ _ _ _ _ _
  have:i=xs.length:=by omega
  subst this
  rw[L,Zb t,J5]
  simp[YB,←Zb]
 |succ n ih=>
  intro i t β v hn hi hN h0 hW hcl hx hm ho hβ
  have hlt:i<xs.length:=by omega
  have hlt':(i:Int)<xs.length:=by omega
  have hd:xs.drop i=xs[i]::xs.drop (i+1):=List.drop_eq_getElem_cons hlt
  have hp:=XP xs[i]
  have hw:IntKind.i64.wrap ((i:Int)+1)=((i+1:Nat):Int):=by rw[Zu ⟨by omega,by omega⟩];omega
  rw[hd]at hN hcl hβ⊢
  simp only[sizes,Int.natCast_add,Int.add_mul]at hN hcl hβ
  have hbase:ZY β:=ZW hβ h0 (by omega)
  obtain⟨hxm,hxo⟩:=hx _ (List.getElem_mem hlt)
  rw[L,Zb t,J5,←Zb t,hw,ZF hlt,Zi]
  simp only[hlt',decide_true,Z4,Int.natCast_nonneg,Bool.and_self,Z6,zhv,←Zb]
  by_cases hk:t.k=1
  ·obtain⟨a0,b,hab⟩:=zpG (zmH hm hk)
   have ha0:a0∈t.args:=by rw[hab];simp
   have hb:b∈t.args:=by rw[hab];simp
   have h1:=(hT xs[i] ctx a0 β (by omega) h0 hW (by omega) hxm hxo (zey hm ha0) (zbl ho ha0) (ZW hβ (by omega) (by omega))).p (by simp[Zk,below,Zq])
   have hst:YB sig ms (xs[i]::xs.drop (i+1)) ctx t=(if JD sig ms xs[i] ctx a0≠0 then(T0,JD sig ms xs[i] ctx a0)else if(YK b [xs[i]] 0).2≠0 then(T0,(YK b [xs[i]] 0).2)else YB sig ms (xs.drop (i+1)) ctx (YK b [xs[i]] 0).1):=by
    conv=>lhs;unfold YB
    simp[hk,hab]
   rw[hst]
   by_cases he:JD sig ms xs[i] ctx a0=0
   ·have hsb:=Y4 (zey hm hb)
    have hsx:=Y4 hxm
    have hA:=(zbA (s:=0) hbase (t:=b) (l:=[xs[i]]) (by omega) (by simp[sizes];omega) (fun _=>zbl ho hb) (fun _ x hx'=>by simp at hx';rw[hx'];exact hxo)).p
    simp only[J4,Qn,QW]at hA
    by_cases hu:(YK b [xs[i]] 0).2=0
    ·obtain⟨u1,u2,_⟩:=zcs (t:=b) (l:=[xs[i]]) (s:=0) hbase (fun _=>zbl ho hb) (fun _ x hx'=>by simp at hx';rw[hx'];exact hxo) hu
     have:=ih (i+1) (YK b [xs[i]] 0).1 (β+xs[i].size*90000000000) v (by omega) (by omega) (by omega) (by omega) (hW.mono (by omega)) (by omega) (fun x hx'=>⟨(hx x hx').1,Z5 (by omega) x (hx x hx').2⟩) u1 (Z5 (by omega) _ u2) (by rw[show β+ ↑xs[i].size*90000000000+ ↑(sizes (xs.drop (i+1)))*90000000000=β+(↑xs[i].size*90000000000+ ↑(sizes (xs.drop (i+1)))*90000000000) by omega];exact hβ)
     simp[hk,hab,h1,he,hA,hu,←Zb]
     simpa using this
    ·simp[hk,hab,h1,he,hA,hu,←Zb,Zb T0]
   ·simp[hk,hab,h1,he,←Zb,Zb T0]
  ·have hst:YB sig ms (xs[i]::xs.drop (i+1)) ctx t=(T0,3):=by
    conv=>lhs;unfold YB
    simp[hk]
   rw[hst]
   simp[hk,Zb T0]
theorem zfx{N:Nat}(hT:HT sig ms N)(xs ctx:List T)(t:T)(β:Int)(hN:sizes xs≤N)(h0:0≤β)(hW:OkW β sig ms ctx)(hcl:ctx.length+sizes xs≤1000000)(hx: ∀x∈xs,may x=true∧okB β x)(hm:may t=true)(ho:okB β t)(hβ:ZY (β+sizes xs*90000000000)):
  Ev 176 [zbn sig ms ctx,enc t, .vec .plain (some 3) (Zf xs)] (.tup [enc (YB sig ms xs ctx t).1, .int (YB sig ms xs ctx t).2]):=by
 have hl:=Zo xs
 have h:=zoz sig ms hT xs ctx (by omega) _ 0 t β (.agg [.int 0, .int 0, .vec .full (some 3) []]) rfl (Nat.zero_le _) (by simpa using hN) h0 hW (by simpa using hcl) hx hm ho (by simpa using hβ)
 simp only[List.drop_zero,Int.natCast_zero]at h
 have hz:(YB sig ms xs ctx t).2≠0→(YB sig ms xs ctx t).1=T0:=by
  have: ∀(ys:List T) (t:T),(YB sig ms ys ctx t).2≠0→(YB sig ms ys ctx t).1=T0:=by
   intro ys
   induction ys with
   |nil=>intro t h;simp[YB]at h
   |cons y ys ih=>
    intro t h
    unfold YB at h⊢
    dsimp only at h⊢
    repeat' split
    all_goals first|rfl|skip
    rename_i c1 c2 c3
    rw[if_neg c1,if_neg c2,if_neg c3]at h
    exact ih _ h
  exact this xs t
 unfold Ev
 rw[C]
 conv=>lhs;rw[Zb t]
 rw[ze8,Zi,←Zb t,h]
 by_cases he:(YB sig ms xs ctx t).2=0
 ·simp[he,←Zb,below,Zk,Zt]
 ·have hc: ∀t:T,Zs (enc t)=enc t:=fun t=>by rw[Zb];rfl
  simp[he,hz he,below,Zk,Zt,hc]
end
end Go.Proofs.CL
namespace Go.Proofs.CL
open Go Go.AM Go.Ama
section
variable(sig:List D)(ms:List M)
theorem zkJ{N:Nat}(hT:HT sig ms N)(k h:Int)(xs ctx:List T)(β:Int)(hN:sizes xs≤N)(h0:0≤β)(hW:OkW β sig ms ctx)(hcl:ctx.length+sizes xs≤1000000)(hx: ∀x∈xs,may x=true∧okB β x)(hh:0≤h)(hβ:ZY (β+(1+sizes xs:Nat)*90000000000)):
  Ev 141 [zbn sig ms ctx, .agg [.int k, .int h, .vec .plain (some 3) (Zf xs)]] (.tup [enc (zoy sig ms h xs ctx).1, .int (zoy sig ms h xs ctx).2]):=by
 simp only[Int.natCast_add,Int.add_mul]at hβ
 have hbase:ZY β:=ZW hβ h0 (by omega)
 unfold Ev zoy
 rw[C,zcR,Zi]
 by_cases hc:(ctx.length:Int)≤h
 ·simp only[hc,if_true]
  simp[hc,Zb T0]
 ·have hw1:IntKind.i64.wrap ((ctx.length:Int)-1)=(ctx.length:Int)-1:=Zu ⟨by omega,by omega⟩
  have hw2:IntKind.i64.wrap ((ctx.length:Int)-1-h)=((ctx.length-1-h.toNat:Nat):Int):=by rw[Zu ⟨by omega,by omega⟩];omega
  have hw3:IntKind.i64.wrap (h+1)=h+1:=Zu ⟨by omega,by omega⟩
  have hlt:ctx.length-1-h.toNat<ctx.length:=by omega
  have hg:ctx.getD (ctx.length-1-h.toNat) T0=ctx[ctx.length-1-h.toNat]:=by simp[List.getD_eq_getElem?_getD,hlt]
  obtain⟨c1,c2⟩:=hW.c _ (List.getElem_mem hlt)
  have hsz:=Y4 c1
  have hU:=(zqH ctx[ctx.length-1-h.toNat] (h+1) 0 (by omega)).p
  have hS:=(zfx sig ms hT xs ctx (upP ctx[ctx.length-1-h.toNat] (h+1) 0) (β+90000000000) hN (by omega) (hW.mono (by omega)) hcl (fun x hx'=>⟨(hx x hx').1,Z5 (by omega) x (hx x hx').2⟩) (zqM hbase c2 c1 (by omega)) (Z5 (by omega) _ (zov hbase c2 (by omega))) (by rw[show β+90000000000+ ↑(sizes xs)*90000000000=β+(((1:Nat):Int)*90000000000+ ↑(sizes xs)*90000000000) by omega];exact hβ)).p (by simp[Zk,below,Zq]) (by simp[below,Zk])
  have hc': ¬(h≥(ctx.length:Int)):=by omega
  have hlt':((ctx.length-1-h.toNat:Nat):Int)<ctx.length:=by omega
  simp only[hc,if_false]
  rw[hw1,hw2,hw3,ZF hlt,hg]
  simp[hc',hlt',hU,←Zb,hS]
  simp[below,Zk]
theorem zkK{N:Nat}(hT:HT sig ms N)(k h:Int)(xs ctx:List T)(β:Int)(hN:sizes xs≤N)(h0:0≤β)(hW:OkW β sig ms ctx)(hcl:ctx.length+sizes xs≤1000000)(hx: ∀x∈xs,may x=true∧okB β x)(hh:0≤h)(hβ:ZY (β+sizes xs*90000000000)):
  Ev 142 [zbn sig ms ctx, .agg [.int k, .int h, .vec .plain (some 3) (Zf xs)]] (.tup [enc (zdO sig ms h xs ctx).1, .int (zdO sig ms h xs ctx).2]):=by
 have hD:=(zeT sig ms ctx h false hh (by have:=hW.sl;omega)).p (by simp[Zk,below,Zq]) (by simp[below,Zk])
 unfold Ev zdO
 rw[C,zcS,hD]
 cases hd:X9 sig h false with
 |none=>simp[Zb T0]
 |some t=>
  obtain⟨d,hdm,hdt⟩: ∃d∈sig,d.t=t:=by
   unfold X9 at hd
   split at hd
   ·split at hd
    ·cases hd;exact⟨_,List.getElem_mem _,rfl⟩
    ·cases hd
   ·cases hd
  obtain⟨s1,s2⟩:=hW.s d hdm
  rw[hdt]at s1 s2
  have hS:=(zfx sig ms hT xs ctx t β hN h0 hW hcl hx s1 s2 hβ).p (by simp[Zk,below,Zq]) (by simp[below,Zk])
  simp[←Zb,hS]
  simp[below,Zk]
theorem zl6(l:List T)(n:Nat):(Zf l).take n=Zf (l.take n):=by simp[QX,List.map_take]
theorem zqe{N:Nat}(hT:HT sig ms N)(k h:Int)(xs ctx:List T)(d:M)(β:Int)(hN:sizes xs≤N)(h0:0≤β)(hW:OkW β sig ms ctx)(hcl:ctx.length+sizes xs≤1000000)(hx: ∀x∈xs,may x=true∧okB β x)(hd:d∈ms)(hlen:d.ctx.length=xs.length)(hβ:ZY (β+(1+sizes xs:Nat)*90000000000))(v:V):
  ∀(n i:Nat),xs.length-i=n→i≤xs.length→
  W.loop 143 7 [.loc true (some 3) v, .int (i:Int), .loc false (some 3) (.agg [.int k, .int h, .vec .plain (some 3) (Zf xs)]), .loc false (some 3) (zbn sig ms ctx), .vec .plain (some 3) (Zf d.ctx), .loc false (some 5) (JU d), .int d.ctx.length] []=
   if zeS sig ms (xs.drop i) ctx (xs.take i) (d.ctx.drop i)=0 then some (.exit 0,[.loc true (some 3) v, .loc false (some 3) (zbn sig ms ctx), .loc false (some 3) (.agg [.int k, .int h, .vec .plain (some 3) (Zf xs)]), .loc false (some 5) (JU d)],[])
   else some (.ret,[.loc false (some 3) (enc T0), .int (zeS sig ms (xs.drop i) ctx (xs.take i) (d.ctx.drop i))],[]):=by
 have hxl:=Zo xs
 simp only[Int.natCast_add,Int.add_mul]at hβ
 have hbase:ZY β:=ZW hβ h0 (by omega)
 obtain⟨_,_,m3⟩:=hW.m d hd
 intro n
 induction n with
 |zero=>
  intro i hn hi
  have:i=xs.length:=by omega
  subst this
  rw[L,Xn,JC,←Xn]
  simp[zeS,hlen]
 |succ n ih=>
  intro i hn hi
  have hlt:i<xs.length:=by omega
  have hlt2:i<d.ctx.length:=by omega
  have hlt':(i:Int)<xs.length:=by omega
  have hlt2':(i:Int)<d.ctx.length:=by omega
  have hle':(i:Int)≤xs.length:=by omega
  have hdx:xs.drop i=xs[i]::xs.drop (i+1):=List.drop_eq_getElem_cons hlt
  have hdd:d.ctx.drop i=d.ctx[i]::d.ctx.drop (i+1):=List.drop_eq_getElem_cons hlt2
  have hp:=XP xs[i]
  have hsx:=size_le (List.getElem_mem hlt)
  have hw:IntKind.i64.wrap ((i:Int)+1)=((i+1:Nat):Int):=by rw[Zu ⟨by omega,by omega⟩];omega
  obtain⟨hxm,hxo⟩:=hx _ (List.getElem_mem hlt)
  obtain⟨hdm,hdo⟩:=m3 _ (List.getElem_mem hlt2)
  have hsd:=Y4 hdm
  have hst:=zbT xs i
  have htk:List.drop 0 (List.take (i:Int).toNat (Zf xs))=Zf (xs.take i):=by simp[zl6]
  have hok: ∀x∈xs.take i,okB β x:=fun x hx'=>(hx x (List.mem_of_mem_take hx')).2
  have hA:=(zbA (s:=ctx.length) hbase (t:=d.ctx[i]) (l:=xs.take i) (by omega) (by omega) (fun _=>hdo) (fun _=>hok)).p
  simp only[J4]at hA
  have hstep:zeS sig ms (xs.drop i) ctx (xs.take i) (d.ctx.drop i)=(if(if(YK d.ctx[i] (xs.take i) ctx.length).2=0 then JD sig ms xs[i] ctx (YK d.ctx[i] (xs.take i) ctx.length).1 else(YK d.ctx[i] (xs.take i) ctx.length).2)≠0 then(if(YK d.ctx[i] (xs.take i) ctx.length).2=0 then JD sig ms xs[i] ctx (YK d.ctx[i] (xs.take i) ctx.length).1 else(YK d.ctx[i] (xs.take i) ctx.length).2)else zeS sig ms (xs.drop (i+1)) ctx (xs.take (i+1)) (d.ctx.drop (i+1))):=by
   rw[hdx,hdd,zcO hlt]
   conv=>lhs;unfold zeS
  rw[hstep,L,Xn,JC,←Xn,hw,ZF hlt,ZF hlt2,Zi,Zi,Zi,htk]
  have ihh:=ih (i+1) (by omega) (by omega)
  by_cases hu:(YK d.ctx[i] (xs.take i) ctx.length).2=0
  ·obtain⟨u1,u2,_⟩:=zcs (t:=d.ctx[i]) (l:=xs.take i) (s:=ctx.length) hbase (fun _=>hdo) (fun _=>hok) hu
   have h1:=(hT xs[i] ctx (YK d.ctx[i] (xs.take i) ctx.length).1 (β+90000000000) (by omega) (by omega) (hW.mono (by omega)) (by omega) hxm (Z5 (by omega) _ hxo) u1 (Z5 (by omega) _ u2) (ZW hβ (by omega) (by omega))).p (by simp[Zk,below,Zq])
   by_cases he:JD sig ms xs[i] ctx (YK d.ctx[i] (xs.take i) ctx.length).1=0
   ·simp[hlt',hlt2',hle',hA,hu,←Zb,h1,he]
    simpa using ihh
   ·simp[hlt',hlt2',hle',hA,hu,←Zb,h1,he,Zb T0]
  ·simp[hlt',hlt2',hle',hA,hu,←Zb,Zb T0]
theorem zrN{N:Nat}(hT:HT sig ms N)(k h:Int)(xs ctx:List T)(β:Int)(hN:sizes xs≤N)(h0:0≤β)(hW:OkW β sig ms ctx)(hcl:ctx.length+sizes xs≤1000000)(hx: ∀x∈xs,may x=true∧okB β x)(hh:0≤h)(hβ:ZY (β+(1+sizes xs:Nat)*90000000000)):
  Ev 143 [zbn sig ms ctx, .agg [.int k, .int h, .vec .plain (some 3) (Zf xs)]] (.tup [enc (zih sig ms h xs ctx).1, .int (zih sig ms h xs ctx).2]):=by
 have hxl:=Zo xs
 unfold Ev zih
 rw[C,zfv,ZU]
 by_cases hc:(ms.length:Int)≤h
 ·simp only[hc,if_true]
  simp[hc,Zb T0]
 ·have hlt:h.toNat<ms.length:=by omega
  have hg:ms.getD h.toNat ⟨[],T0,false⟩=ms[h.toNat]:=by simp[List.getD_eq_getElem?_getD,hlt]
  have hii:((h.toNat:Nat):Int)=h:=by omega
  have hgi:ZP (ZA ms) h=JU ms[h.toNat]:=by have:=JV hlt;rwa [hii]at this
  have hc': ¬(h≥(ms.length:Int)):=by omega
  have hlt':h<(ms.length:Int):=by omega
  have hmem:=List.getElem_mem hlt
  simp only[hc,if_false]
  rw[hg,hgi]
  generalize ms[h.toNat]=d at*
  by_cases hlen:d.ctx.length=xs.length
  ·have hL:=zqe sig ms hT k h xs ctx d β hN h0 hW hcl hx hmem hlen hβ (.agg [.int 0, .int 0, .vec .full (some 3) []]) _ 0 rfl (Nat.zero_le _)
   simp only[List.drop_zero,Int.natCast_zero,List.take_zero]at hL
   have hbase:ZY β:=ZW hβ h0 (by omega)
   obtain⟨t1,t2,_⟩:=hW.m d hmem
   have hsz:=Y4 t1
   have hA:=(zbA (s:=ctx.length) hbase (t:=d.t) (l:=xs) (by omega) (by omega) (fun _=>t2) (fun _ x hx'=>(hx x hx').2)).p
   simp only[J4]at hA
   have hbne:((d.ctx.length:Int) !=(xs.length:Int))=false:=by simp[hlen]
   have hc2: ∀t:T,Zs (enc t)=enc t:=fun t=>by rw[Zb];rfl
   have hL':=hL
   simp only[JU,hlen,zbn]at hL'
   simp only[hlen,ne_eq,not_true,if_false]
   by_cases he:zeS sig ms xs ctx [] d.ctx=0
   ·rw[if_pos he]at hL'
    simp[hc',hh,hlt',hbne,hL',he,hA,←Zb,below,Zk,hlen]
    simp[below,Zk,Zt]
   ·rw[if_neg he]at hL'
    simp[hc',hh,hlt',hbne,hL',he,hlen,hc2,below,Zk,Zt]
  ·have hbne:((d.ctx.length:Int) !=(xs.length:Int))=true:=by simp;omega
   simp[hc',hh,hlt',hbne,hlen,Zb T0]
end
end Go.Proofs.CL
namespace Go.Proofs.CL
open Go Go.AM Go.Ama
theorem zh1:cfg.pure 140=true:=by kernel_rfl
theorem zeU:cfg.pure 141=true:=by kernel_rfl
theorem zeV:cfg.pure 142=true:=by kernel_rfl
theorem zl7:cfg.pure 143=true:=by kernel_rfl
section
variable(sig:List D)(ms:List M)
theorem zh2(k h:Int)(xs ctx:List T):Ev 140 [zbn sig ms ctx, .agg [.int k, .int h, .vec .plain (some 3) (Zf xs)]] (.tup [enc T0, .int 3]):=by
 unfold Ev
 rw[C,zfu]
 rw[Zb T0]
 rfl
theorem zo0{β:Int}{xs ctx:List T}{k h:Int}(h0:0≤β)(hW:OkW β sig ms ctx)(hx: ∀x∈xs,may x=true∧okB β x)(hh:0≤h)(hcl:ctx.length≤1000000)(hβ:ZY (β+(1+sizes xs:Nat)*90000000000))(he:(J6 sig ms k h xs ctx).2=0):may (J6 sig ms k h xs ctx).1=true:=by
 simp only[Int.natCast_add,Int.add_mul]at hβ
 have hbase:ZY β:=ZW hβ h0 (by omega)
 unfold J6 at he⊢
 split
 ·rename_i hk
  rw[if_pos hk]at he
  unfold zoy at he⊢
  split
  ·rename_i c;rw[if_pos c]at he;simp at he
  ·rename_i c
   rw[if_neg c]at he
   have hlt:ctx.length-1-h.toNat<ctx.length:=by omega
   have hg:ctx.getD (ctx.length-1-h.toNat) T0=ctx[ctx.length-1-h.toNat]:=by simp[List.getD_eq_getElem?_getD,hlt]
   obtain⟨c1,c2⟩:=hW.c _ (List.getElem_mem hlt)
   rw[hg]at he⊢
   exact(zh0 sig ms xs ctx _ (β+90000000000) (by omega) (by rw[show β+90000000000+ ↑(sizes xs)*90000000000=β+(((1:Nat):Int)*90000000000+ ↑(sizes xs)*90000000000) by omega];exact hβ) (zqM hbase c2 c1 (by omega)) (Z5 (by omega) _ (zov hbase c2 (by omega))) (fun x hx'=>Z5 (by omega) x (hx x hx').2) he).1
 ·rename_i hk
  rw[if_neg hk]at he
  split
  ·rename_i hk
   rw[if_pos hk]at he
   unfold zdO at he⊢
   cases hd:X9 sig h false with
   |none=>rw[hd]at he;simp at he
   |some t=>
    rw[hd]at he
    obtain⟨d,hdm,hdt⟩: ∃d∈sig,d.t=t:=by
     unfold X9 at hd
     split at hd
     ·split at hd
      ·cases hd;exact⟨_,List.getElem_mem _,rfl⟩
      ·cases hd
     ·cases hd
    obtain⟨s1,s2⟩:=hW.s d hdm
    rw[hdt]at s1 s2
    exact(zh0 sig ms xs ctx t β h0 (ZW hβ (by omega) (by omega)) s1 s2 (fun x hx'=>(hx x hx').2) he).1
  ·rename_i hk
   rw[if_neg hk]at he
   split
   ·rename_i hk
    rw[if_pos hk]at he
    unfold zih at he⊢
    split
    ·rename_i c;rw[if_pos c]at he;simp at he
    ·rename_i c
     rw[if_neg c]at he
     have hlt:h.toNat<ms.length:=by omega
     have hg:ms.getD h.toNat ⟨[],T0,false⟩=ms[h.toNat]:=by simp[List.getD_eq_getElem?_getD,hlt]
     obtain⟨t1,t2,_⟩:=hW.m _ (List.getElem_mem hlt)
     rw[hg]at he⊢
     dsimp only at he⊢
     split
     ·rename_i c;rw[if_pos c]at he;simp at he
     ·rename_i c
      rw[if_neg c]at he
      split
      ·rename_i c;rw[if_pos c]at he;exact absurd he c
      ·rename_i c
       rw[if_neg c]at he
       exact(zcs hbase (fun _=>t2) (fun _ x hx'=>(hx x hx').2) he).1
   ·rename_i hk
    rw[if_neg hk]at he
    simp at he
theorem zrO{N:Nat}(hT:HT sig ms N):HT sig ms (N+1):=by
 intro m ctx a β hN h0 hW hcl hm ho ham hao hβ
 obtain⟨k,h,xs⟩:=m
 have hnode:=zjG hm
 obtain⟨⟨hh,_⟩,_,hxs⟩:=ho
 simp only[T.size]at hN hcl hβ
 have hx: ∀x∈xs,may x=true∧okB β x:=fun x hx'=>⟨zey hm hx',(XQ _ _).1 hxs x hx'⟩
 have hβ':=hβ
 simp only[Int.natCast_add,Int.add_mul]at hβ
 have hasz:=Y4 ham
 show W.call 89 [zbn sig ms ctx, .agg [.int k, .int h, .vec .plain (some 3) (Zf xs)],enc a] []=_
 rw[C,Zb a,zfr,←Zb a,Zi,Zi]
 by_cases hL:k=3∧a.k=1
 ·obtain⟨rfl,hak⟩:=hL
  obtain⟨a0,b,hab⟩:=zpG (zmH ham hak)
  have ha0:a0∈a.args:=by rw[hab];simp
  have hb:b∈a.args:=by rw[hab];simp
  simp only[ztd,zte,zl0,zi1]at hnode
  obtain⟨c,hc⟩: ∃c,xs=[c]:=by simp at hnode;exact List.length_eq_one_iff.1 (of_decide_eq_true hnode.2)
  subst hc
  obtain⟨c1,c2⟩:=hx c (by simp)
  simp only[sizes]at hN hcl hβ
  have hw:=(zl4 sig ms ctx a0 (by omega)).p (by simp[Zk,below,Zq]) (zjK 0 sig ms _)
  have h1:=(hT c (ctx++[a0]) b β (by omega) h0 (hW.with (zey ham ha0) (zbl hao ha0)) (by simp;omega) c1 c2 (zey ham hb) (zbl hao hb) (ZW hβ (by omega) (by omega))).p (by simp[Zk,below,Zq,Xj])
  simp only[zbn,zdG,Qn,QW]at h1
  rw[zrM sig ms hak,hab]
  simp[hak,hab,←Zb,hw,h1]
 ·by_cases hno:k=3∨a.k≠2
  ·rw[ztk sig ms hL hno]
   rcases hno with hk|hak
   ·have:a.k≠1:=fun c=>hL ⟨hk,c⟩
    simp[hk,this]
   ·by_cases hk:k=3
    ·have:a.k≠1:=fun c=>hL ⟨hk,c⟩
     simp[hk,this]
    ·simp[hk,hak]
  ·simp only[not_or,ne_eq,Decidable.not_not]at hno
   obtain⟨hk3,ha2⟩:=hno
   rw[zqd sig ms hk3 ha2]
   have hcs:=zo0 sig ms (k:=k) (h:=h) h0 hW hx hh (by omega) hβ'
   have hsame:(J6 sig ms k h xs ctx).2=0→Zj W 75 [enc (J6 sig ms k h xs ctx).1,enc a]=some (.bool ((J6 sig ms k h xs ctx).1.same a)):=fun he=>
    (zfp _ a (by have:=Y4 (hcs he);omega) (by omega)).p
   have hk7:k=0∨k=1∨k=2∨k=4∨k=5∨k=6:=by
    simp only[ztd,zte,zl0]at hnode
    unfold zi1 at hnode
    repeat' split at hnode
    all_goals simp at hnode
    all_goals omega
   have hnone: ∀k,k≠4→k≠5→k≠6→J6 sig ms k h xs ctx=(T0,3):=fun k h4 h5 h6=>by unfold J6;rw[if_neg h4,if_neg h5,if_neg h6]
   rcases hk7 with rfl|rfl|rfl|rfl|rfl|rfl
   ·have hn:=(zh2 sig ms 0 h xs ctx).p (by simp[Zk,below,Zq])
    rw[hnone 0 (by decide) (by decide) (by decide)]at*
    simp[ha2,AM.partOf,za1,zh1,hn]
   ·have hn:=(zh2 sig ms 1 h xs ctx).p (by simp[Zk,below,Zq])
    rw[hnone 1 (by decide) (by decide) (by decide)]at*
    simp[ha2,AM.partOf,za1,zh1,hn]
   ·have hn:=(zh2 sig ms 2 h xs ctx).p (by simp[Zk,below,Zq])
    rw[hnone 2 (by decide) (by decide) (by decide)]at*
    simp[ha2,AM.partOf,za1,zh1,hn]
   ·have hn:=(zkJ sig ms hT 4 h xs ctx β (by omega) h0 hW (by omega) hx hh hβ').p (by simp[Zk,below,Zq]) (by simp[below,Zk])
    have hc:J6 sig ms 4 h xs ctx=zoy sig ms h xs ctx:=rfl
    rw[hc]
    by_cases he:(zoy sig ms h xs ctx).2=0
    ·have:=hsame (by rw[hc];exact he)
     rw[hc]at this
     cases hs:(zoy sig ms h xs ctx).1.same a<;>rw[hs]at this<;>simp[ha2,AM.partOf,za1,zeU,hn,he,←Zb,this]
    ·simp[ha2,AM.partOf,za1,zeU,hn,he]
   ·have hn:=(zkK sig ms hT 5 h xs ctx β (by omega) h0 hW (by omega) hx hh (ZW hβ (by omega) (by omega))).p (by simp[Zk,below,Zq]) (by simp[below,Zk])
    have hc:J6 sig ms 5 h xs ctx=zdO sig ms h xs ctx:=rfl
    rw[hc]
    by_cases he:(zdO sig ms h xs ctx).2=0
    ·have:=hsame (by rw[hc];exact he)
     rw[hc]at this
     cases hs:(zdO sig ms h xs ctx).1.same a<;>rw[hs]at this<;>simp[ha2,AM.partOf,za1,zeV,hn,he,←Zb,this]
    ·simp[ha2,AM.partOf,za1,zeV,hn,he]
   ·have hn:=(zrN sig ms hT 6 h xs ctx β (by omega) h0 hW (by omega) hx hh hβ').p (by simp[Zk,below,Zq]) (by simp[below,Zk])
    have hc:J6 sig ms 6 h xs ctx=zih sig ms h xs ctx:=rfl
    rw[hc]
    by_cases he:(zih sig ms h xs ctx).2=0
    ·have:=hsame (by rw[hc];exact he)
     rw[hc]at this
     cases hs:(zih sig ms h xs ctx).1.same a<;>rw[hs]at this<;>simp[ha2,AM.partOf,za1,zl7,hn,he,←Zb,this]
    ·simp[ha2,AM.partOf,za1,zl7,hn,he]
theorem zjL: ∀N,HT sig ms N
 |0=>fun m _ _ _ h=>by have:=XP m;omega
 |N+1=>zrO sig ms (zjL N)
end
end Go.Proofs.CL
namespace Go.Proofs.CL
open Go Go.AM Go.Ama
theorem ztl:cfg.pure 146=true:=by kernel_rfl
section
variable(sig:List D)(ms:List M)
theorem zrP{g:Nat}(hg:cfg.pure g=true)(k h:Int)(a b:T)(ctx:List T){e1 e2:Int}(hcl:ctx.length≤1000000)(h1:Ev 146 [zbn sig ms ctx,enc a] (.int e1))(h2:e1=0→Ev g [zbn sig ms (ctx++[a]),enc b] (.int e2)):
  W.call 180 [zbn sig ms ctx, .agg [.int k, .int h, .vec .plain (some 3) [enc a,enc b]], .fn g [] []] []=some (.ret (.int (if e1≠0 then e1 else e2)),[]):=by
 have h1':=h1.p (by simp[Zk,below,Zq])
 have hw:=(zl4 sig ms ctx a (by omega)).p (by simp[Zk,below,Zq]) (zjK 0 sig ms _)
 rw[C,zfs]
 by_cases he:e1=0
 ·have h2':=(h2 he).p (by simp[Zk,below,Zq,Xj])
  simp only[zbn,zdG,Qn,QW]at h2' hw
  simp[←Zb,h1',he,hw,hg,h2',Z3]
 ·simp[←Zb,h1',he,Z3]
theorem zuo: ∀(N:Nat) (a:T) (ctx:List T) (β:Int),a.size≤N→0≤β→OkW β sig ms ctx→ctx.length+a.size≤1000000→may a=true→okB β a→ZY (β+a.size*90000000000)→Ev 146 [zbn sig ms ctx,enc a] (.int (zjH sig ms a ctx)):=by
 intro N
 induction N with
 |zero=>intro a _ _ h;have:=XP a;omega
 |succ N ih=>
  intro a ctx β hN h0 hW hcl hm ho hβ
  obtain⟨k,h,xs⟩:=a
  have hnode:=zjG hm
  obtain⟨⟨hh,_⟩,_,hxs⟩:=ho
  simp only[T.size]at hN hcl hβ
  have hx: ∀x∈xs,may x=true∧okB β x:=fun x hx'=>⟨zey hm hx',(XQ _ _).1 hxs x hx'⟩
  simp only[Int.natCast_add,Int.add_mul]at hβ
  show W.call 146 [zbn sig ms ctx, .agg [.int k, .int h, .vec .plain (some 3) (Zf xs)]] []=_
  rw[C,zgo]
  by_cases hk1:k=1
  ·subst hk1
   obtain⟨a,b,rfl⟩:=zpG (zmH hm rfl)
   obtain⟨a1,a2⟩:=hx a (by simp)
   obtain⟨b1,b2⟩:=hx b (by simp)
   simp only[sizes]at hN hcl hβ
   have q1:=ih a ctx β (by omega) h0 hW (by omega) a1 a2 (ZW hβ (by omega) (by omega))
   have q2:=ih b (ctx++[a]) β (by omega) h0 (hW.with a1 a2) (by simp;omega) b1 b2 (ZW hβ (by omega) (by omega))
   have q3:=zrP sig ms ztl 1 h a b ctx (by omega) q1 (fun _=>q2)
   rw[zun]
   simp[q3]
  ·by_cases hk2:k=2
   ·subst hk2
    have hD:=(zeT sig ms ctx h true hh (by have:=hW.sl;omega)).p (by simp[Zk,below,Zq]) (by simp[below,Zk])
    rw[zjH]
    simp only[if_neg hk1,if_true]
    cases hd:X9 sig h true with
    |none=>
     rw[hd]at hD
     simp only[Option.getD_none]at hD
     simp[hD]
    |some t=>
     rw[hd]at hD
     simp only[Option.getD_some]at hD
     obtain⟨d,hdm,hdt⟩: ∃d∈sig,d.t=t:=by
      unfold X9 at hd
      split at hd
      ·split at hd
       ·cases hd;exact⟨_,List.getElem_mem _,rfl⟩
       ·cases hd
      ·cases hd
     obtain⟨s1,s2⟩:=hW.s d hdm
     rw[hdt]at s1 s2
     have hS:=(zfx sig ms (zjL sig ms (sizes xs)) xs ctx t β (Nat.le_refl _) h0 hW (by omega) hx s1 s2 (ZW hβ (by omega) (by omega))).p (by simp[Zk,below,Zq]) (by simp[below,Zk])
     by_cases he:(YB sig ms xs ctx t).2=0
     ·by_cases hk0:(YB sig ms xs ctx t).1.k=0
      ·simp[hD,←Zb,hS,he,hk0]
      ·simp[hD,←Zb,hS,he,hk0]
     ·simp[hD,←Zb,hS,he]
   ·rw[zjH]
    simp[hk1,hk2]
theorem zdQ(ctx:List T)(m a:T)(hI:In sig ms ctx [m,a]):Ev 30 [.vec .plain (some 4) (Ye sig), .vec .plain (some 5) (ZA ms), .vec .plain (some 3) (Zf ctx),enc m,enc a] (.int (QB sig ms ctx m a)):=by
 have hl:=hI.l.1
 simp only[sizes]at hl
 have h1:=(zl5 sig ms ctx [m,a] (fun d hd=>by have:=(hI.s d hd).1;omega) (by have:=hI.sl;omega) (fun d hd=>by have:=(hI.m d hd).1;omega) (by have:=hI.ml;omega) (by have:=hI.c.1;omega) (by have:=hI.l.1;omega)).p (by simp[Zk,below,Zq])
 simp only[Qn,QW]at h1
 unfold Ev QB
 rw[C,Zb m,Zb a,zmG,←Zb m,←Zb a,h1]
 cases hm:zjI sig ms ctx [m,a]with
 |false=>simp
 |true=>
  obtain⟨o1,o2⟩:=hI.ok hm
  obtain⟨m1,m2⟩:=o2 m (by simp)
  obtain⟨a1,a2⟩:=o2 a (by simp)
  have hmz:=Y4 m1
  have hcl:=(zdP.1 hm).1
  have h2:=(zjL sig ms m.size m ctx a 1152921504606846976 (Nat.le_refl _) (by omega) o1 (by omega) m1 m2 a1 a2 (by unfold ZY;omega)).p (by simp[Zk,below,Zq])
  simp[h2]
theorem zdR(ctx:List T)(a:T)(hI:In sig ms ctx [a]):Ev 97 [.vec .plain (some 4) (Ye sig), .vec .plain (some 5) (ZA ms), .vec .plain (some 3) (Zf ctx),enc a] (.int (zbm sig ms ctx a)):=by
 have hl:=hI.l.1
 simp only[sizes]at hl
 have h1:=(zl5 sig ms ctx [a] (fun d hd=>by have:=(hI.s d hd).1;omega) (by have:=hI.sl;omega) (fun d hd=>by have:=(hI.m d hd).1;omega) (by have:=hI.ml;omega) (by have:=hI.c.1;omega) (by have:=hI.l.1;omega)).p (by simp[Zk,below,Zq])
 simp only[Qn,QW]at h1
 unfold Ev zbm
 rw[C,Zb a,zmF,←Zb a,h1]
 cases hm:zjI sig ms ctx [a]with
 |false=>simp
 |true=>
  obtain⟨o1,o2⟩:=hI.ok hm
  obtain⟨a1,a2⟩:=o2 a (by simp)
  have hmz:=Y4 a1
  have hcl:=(zdP.1 hm).1
  have h2:=(zuo sig ms a.size a ctx 1152921504606846976 (Nat.le_refl _) (by omega) o1 (by omega) a1 a2 (by unfold ZY;omega)).p (by simp[Zk,below,Zq])
  simp[h2]
end
end Go.Proofs.CL
namespace Go.Proofs.CL
open Go Go.AM
set_option maxRecDepth 20000
theorem zo1(O:Oracle)(l0:(List V))(l1:(List V))(l2:(List V))(l3:(List V)):Ze Tryz.prog cfg O 106 [.vec .plain (some 4) l0, .vec .plain (some 5) l1, .vec .plain (some 3) l2, .vec .plain (some 3) l3] []=
 Za (Zj O 77 [V.vec .plain none [V.vec .plain (some 3) l2,V.vec .plain (some 3) l3]]) fun r1=>Yp (some 3) r1 fun l2_1=>Za (O.call
 102 [V.vec .plain (some 3) l3,V.fn 149 [] [V.cptr none (V.vec .plain (some 4) l0),V.cptr none (V.vec .plain (some 5) l1),V.cptr none (V.vec .plain
 (some 3) l2_1),V.cptr none (V.vec .plain (some 3) l2)]] []) fun r3=>Zx r3.fst (fun v4=>ZM v4 fun c5=>Zd c5 fun v6 c7=>Zm v6 fun n8=>Zd c7 fun v9 c10=>
 Zm v9 fun n11=>Zn c10 (some (Out.ret (V.int n11),[]))) fun p12=>none:=by kernel_rfl
theorem zkL(O:Oracle)(l0:(List V))(l1:(List V)):Ze Tryz.prog cfg O 104 [.vec .plain (some 4) l0, .vec .plain (some 5) l1] []=
 bc (decide ((↑l1.length:Int)>40)) (some (Out.ret (V.tup [V.int 0,V.int 4]),[])) (Za (O.call 147 [V.vec .plain (some 5) l1] [Res.box [V.int 0],
 Res.box [V.int 0]]) fun r1=>Zx r1.fst (fun v2=>zf8 v2 fun g3 a4 b5=>Za (O.call g3 (a4++[V.yld (List.length r1.snd)]++b5) (r1.snd++[Res.loop 104 6
 [V.ref 0 0,V.ref 1 0,V.cptr none (V.vec .plain (some 4) l0)] LSt.ready none])) fun r6=>Zx r6.fst (fun v7=>Zw r6.snd (List.length r1.snd) fun x8=>ZX x8 fun f9 k10
 vs11 s12 p13=>XZ s12 p13 (Zw (List.set r6.snd (List.length r1.snd) Res.dead) 0 fun x14=>ZE x14 fun c15=>gd (decide (1≤c15.length)&&true) (Zw ((List.set r6.snd
 (List.length r1.snd) Res.dead).set 0 (Res.box (setCells c15 0 [V.int 0]))) 1 fun x16=>ZE x16 fun c17=>gd (decide (1≤c17.length)&&true) (Zw (((List.set r6.snd
 (List.length r1.snd) Res.dead).set 0 (Res.box (setCells c15 0 [V.int 0]))).set 1 (Res.box (setCells c17 0 [V.int 0]))) 0 fun x18=>ZE x18 fun c19=>gd (decide (1≤
 c19.length)&&true) (Zw (((List.set r6.snd (List.length r1.snd) Res.dead).set 0 (Res.box (setCells c15 0 [V.int 0]))).set 1 (Res.box (setCells c17 0 [V.int 0]))) 1 fun x20=>
 ZE x20 fun c21=>gd (decide (1≤c21.length)&&true) (gd (below 0 (V.tup [Zs (AM.partOf c19 0 none),Zs (AM.partOf c21 0 none)])&&Zt 0 []) (some (Out.ret
 (V.tup [Zs (AM.partOf c19 0 none),Zs (AM.partOf c21 0 none)]),[]))))))) (Zw (List.set r6.snd (List.length r1.snd) Res.dead) 0 fun x22=>ZE x22 fun c23=>gd
 (decide (1≤c23.length)&&true) (Zw (List.set r6.snd (List.length r1.snd) Res.dead) 1 fun x24=>ZE x24 fun c25=>gd (decide (1≤c25.length)&&true) (gd (below 0 (V.tup
 [Zs (AM.partOf c23 0 none),Zs (AM.partOf c25 0 none)])&&Zt 0 []) (some (Out.ret (V.tup [Zs (AM.partOf c23 0 none),Zs (AM.partOf c25 0 none)]),[]))))) fun
 i26=>none) fun p27=>none) fun p28=>none):=by kernel_rfl
theorem zh3(O:Oracle)(q:Nat)(sg ov ctx ar:List V)(k h:Int)(p:Bool)(st:St):Xw Tryz.prog cfg O q 104 6 [.ref 0 0, .ref 1 0, .cptr none (.vec .plain (some 4) sg)] [.vec .plain (some 5) ov, .agg [.vec .plain (some 3) ctx, .int k, .int h, .vec .plain (some 3) ar, .bool p]] st=
 Zw st q fun x1=>ZX x1 fun f2 k3 vs4 s5 p6=>za3 s5 p6 (Za (Zj O 148 [V.vec .plain (some 4) sg,V.vec .plain (some 5) ov,V.agg [V.vec .plain (some 3)
 ctx,V.int k,V.int h,V.vec .plain (some 3) ar,V.bool p]]) fun r7=>Zm r7 fun n8=>bc (n8 !=0) (Zw (List.set st q (Res.loop f2 k3 vs4 LSt.busy none)) 0 fun x9=>ZE
 x9 fun c10=>gd (decide (1≤c10.length)&&true) (Zw ((List.set st q (Res.loop f2 k3 vs4 LSt.busy none)).set 0 (Res.box (setCells c10 0 [V.int (↑ov.length:Int)]))) 1 fun x11
 =>ZE x11 fun c12=>gd (decide (1≤c12.length)&&true) (Zw (((List.set st q (Res.loop f2 k3 vs4 LSt.busy none)).set 0 (Res.box (setCells c10 0 [V.int (↑ov.length:
 Int)]))).set 1 (Res.box (setCells c12 0 [V.int n8]))) q fun x13=>ZX x13 fun f14 k15 vs16 s17 p18=>YO s17 (some (false,(((List.set st q (Res.loop f2 k3 vs4 LSt.busy
 none)).set 0 (Res.box (setCells c10 0 [V.int (↑ov.length:Int)]))).set 1 (Res.box (setCells c12 0 [V.int n8]))).set q (Res.loop f14 k15 vs16 LSt.done (some Ex.ret))))))) (Zw
 (List.set st q (Res.loop f2 k3 vs4 LSt.busy none)) q fun x19=>ZX x19 fun f20 k21 vs22 s23 p24=>YO s23 (some (true,(List.set st q (Res.loop f2 k3 vs4 LSt.busy
 none)).set q (Res.loop f20 k21 vs22 LSt.ready none))))):=by kernel_rfl
theorem zcT(O:Oracle)(l0:(List V))(g1:Nat)(l2:(List V))(l3:(List V))(st:St):Ze Tryz.prog cfg O 102 [.vec .plain (some 3) l0, .fn g1 l2 l3] st=
 bc (decide ((↑l0.length:Int)>40)) (Xb (List.length st) (V.tup [V.int 0,V.int 4]) st) (Za (O.loop 102 4 [V.int 0,V.fn g1 l2 l3,V.vec .plain (some 3)
 l0,V.int (↑l0.length:Int)] st) fun r1=>Xk r1.fst none (Zd r1.snd.fst fun v2 c3=>Zm v2 fun n4=>Zd c3 fun v5 c6=>Zm v5 fun n7=>Zn c6 (Xb
 (List.length st) (V.tup [V.int n4,V.int n7]) r1.snd.snd)) (fun i8=>bc (i8.beq 0) (Zn r1.snd.fst (Xb (List.length st) (V.tup [V.int 0,V.int 0]) r1.snd.snd)) none) fun v9=>
 none):=by kernel_rfl
theorem QN(O:Oracle)(n0:Int)(g1:Nat)(l2:(List V))(l3:(List V))(l4:(List V))(n5:Int)(st:St):Zz Tryz.prog cfg O 102 4 [.int n0, .fn g1 l2 l3, .vec .plain (some 3) l4, .int n5] st=
 bc (decide (n0<n5)) (gd (decide (0≤n0)&&decide (n0<(↑l4.length:Int))) (Zc [CT.int,CT.int,CT.slice (some 3)] (ZP l4 n0) fun n1 n2 l3_1=>bc (cfg.pure g1)
 (Za (Zj O g1 (l2++[V.int n0,V.agg [V.int n1,V.int n2,V.vec .plain (some 3) l3_1]]++l3)) fun r4=>Zm r4 fun n5_1=>bc (n5_1 !=0) (some (Ex.ret,[V.int n0,V.int
 n5_1],st)) (O.2 102 4 [V.int (IntKind.i64.wrap (n0+1)),V.fn g1 l2 l3,V.vec .plain (some 3) l4,V.int n5] st)) (Za (O.call g1 (l2++[V.int n0,V.agg
 [V.int n1,V.int n2,V.vec .plain (some 3) l3_1]]++l3) st) fun r6=>Zx r6.fst (fun v7=>Zm v7 fun n8=>bc (n8 !=0) (some (Ex.ret,[V.int n0,V.int n8],r6.snd)) (O.2
 102 4 [V.int (IntKind.i64.wrap (n0+1)),V.fn g1 l2 l3,V.vec .plain (some 3) l4,V.int n5] r6.snd)) fun p9=>none))) (some (Ex.exit 0,[],st)):=by kernel_rfl
theorem zkM(O:Oracle)(n0:Int)(n1:Int)(n2:Int)(l3 sg ms all ar:(List V))(st:St):Ze Tryz.prog cfg O 149 [.int n0, .agg [.int n1, .int n2, .vec .plain (some 3) l3], .cptr none (.vec .plain (some 4) sg), .cptr none (.vec .plain (some 5) ms), .cptr none (.vec .plain (some 3) all), .cptr none (.vec .plain (some 3) ar)] st=
 gd (true&&decide (0≤IntKind.i64.wrap ((↑ar.length:Int)+n0))&&decide (IntKind.i64.wrap ((↑ar.length:Int)+n0)≤(↑all.length:Int))) (Za (Zj O 97
 [V.vec .plain (some 4) sg,V.vec .plain (some 5) ms,V.vec .plain (some 3) (List.drop 0 (List.take (IntKind.i64.wrap ((↑ar.length:Int)+n0)).toNat all)),V.agg [V.int n1,V.int
 n2,V.vec .plain (some 3) l3]]) fun r1=>Zm r1 fun n2=>Xb (List.length st) (V.int n2) st):=by kernel_rfl
theorem zbo(O:Oracle)(l0:(List V))(st:St):Ze Tryz.prog cfg O 147 [.vec .plain (some 5) l0] st=
 Xb (List.length st) (V.fn 181 [] [V.cptr none (V.vec .plain (some 5) l0)]) st:=by kernel_rfl
theorem zmI(O:Oracle)(l0:(List V))(l1:(List V))(l2:(List V))(n3:Int)(n4:Int)(l5:(List V))(b6:Bool):Ze Tryz.prog cfg O 148 [.vec .plain (some 4) l0, .vec .plain (some 5) l1, .agg [.vec .plain (some 3) l2, .int n3, .int n4, .vec .plain (some 3) l5, .bool b6]] []=
 Za (Zj O 106 [V.vec .plain (some 4) l0,V.vec .plain (some 5) l1,V.vec .plain (some 3) [],V.vec .plain (some 3) l2]) fun r1=>Zm r1 fun n2=>bc (n2 !=0)
 (some (Out.ret (V.int n2),[])) (bc (n3 !=2) (some (Out.ret (V.int 1),[])) (bc b6 (bc (decide ((↑l2.length:Int)>0)) (some (Out.ret (V.int 1),[])) (Za (Zj O
 97 [V.vec .plain (some 4) l0,V.vec .plain (some 5) l1,V.vec .plain (some 3) l2,V.agg [V.int n3,V.int n4,V.vec .plain (some 3) l5]]) fun r3=>Zm r3 fun n4=>
 some (Out.ret (V.int n4),[]))) (Za (Zj O 97 [V.vec .plain (some 4) l0,V.vec .plain (some 5) l1,V.vec .plain (some 3) l2,V.agg [V.int n3,V.int n4,V.vec .plain
 (some 3) l5]]) fun r5=>Zm r5 fun n6=>some (Out.ret (V.int n6),[])))):=by kernel_rfl
theorem zaz(O:Oracle)(q:Nat)(xs:List V)(st:St):Ze Tryz.prog cfg O 181 [.yld q, .cptr none (.vec .plain (some 5) xs)] st=
 Za (O.loop 181 1 [V.int 0,V.cptr none (V.vec .plain (some 5) xs),V.yld q,V.vec .plain (some 5) xs,V.int (↑xs.length:Int)] st) fun r1=>Xk
 r1.fst none (Zn r1.snd.fst (Xb (List.length st) (V.tup []) r1.snd.snd)) (fun i2=>bc (i2.beq 0) (Zn r1.snd.fst (Xb (List.length st) (V.tup []) r1.snd.snd)) none) fun v3
 =>none:=by kernel_rfl
theorem XK(O:Oracle)(q:Nat)(i n:Int)(xs ys:List V)(st:St):Zz Tryz.prog cfg O 181 1 [.int i, .cptr none (.vec .plain (some 5) xs), .yld q, .vec .plain (some 5) ys, .int n] st=
 bc (decide (i<n)) (gd (decide (0≤i)&&decide (i<(↑ys.length:Int))) (Zc [CT.slice (some 3),CT.int,CT.int,CT.slice (some 3),CT.bool] (ZP ys i) fun l1 n2 n3 l4
 b5=>gd (true&&decide (0≤i)&&decide (i≤(↑xs.length:Int))) (gd (decide (i=i)&&(some (V.int i)).isSome) (Zw st q fun x6=>ZX x6 fun f7 k8 vs9 s10 p11=>XZ
 s10 p11 (Za (O.round q f7 k8 vs9 [V.vec .plain (some 5) (List.drop 0 (List.take i.toNat xs)),V.agg [V.vec .plain (some 3) l1,V.int n2,V.int n3,V.vec .plain (some 3) l4,
 V.bool b5]] st) fun r12=>bc (!r12.fst) (some (Ex.ret,[],r12.snd)) (O.2 181 1 [V.int (IntKind.i64.wrap (i+1)),V.cptr none (V.vec .plain (some 5)
 xs),V.yld q,V.vec .plain (some 5) ys,V.int n] r12.snd)) none fun i13=>none)))) (some (Ex.exit 0,[],st)):=by kernel_rfl
end Go.Proofs.CL
namespace Go.Ama
open Go Go.AM
structure Cal where
 f:Int
 ext:List T
 theta:List T
 arg:T
structure Cl where
 metas:List M
 theta:List T
 p:T
 calls:List Cal
 r:T
structure Fun1 where
 name:Bytes
 schema:List T
 delta:List M
 psi:List T
 a:T
 phi:List T
 b:T
 total:Bool
 clauses:List Cl
def X2(c:Cal):V:= .agg [.int c.f, .vec .plain (some 3) (Zf c.ext), .vec .plain (some 3) (Zf c.theta), .int c.arg.k, .int c.arg.h, .vec .plain (some 3) (Zf c.arg.args)]
def XS(l:List Cal):List V:=l.map X2
def XT(c:Cl):V:= .agg [.vec .plain (some 5) (ZA c.metas), .vec .plain (some 3) (Zf c.theta), .int c.p.k, .int c.p.h, .vec .plain (some 3) (Zf c.p.args), .vec .plain (some 6) (XS c.calls), .int c.r.k, .int c.r.h, .vec .plain (some 3) (Zf c.r.args)]
def JW(l:List Cl):List V:=l.map XT
def Xd(f:Fun1):V:= .agg [.str (ba f.name), .vec .plain (some 3) (Zf f.schema), .vec .plain (some 5) (ZA f.delta), .vec .plain (some 3) (Zf f.psi), .int f.a.k, .int f.a.h, .vec .plain (some 3) (Zf f.a.args), .vec .plain (some 3) (Zf f.phi), .int f.b.k, .int f.b.h, .vec .plain (some 3) (Zf f.b.args), .bool f.total, .vec .plain (some 9) (JW f.clauses)]
def Yx(l:List Fun1):List V:=l.map Xd
@[simp] theorem ZS(l:List Cal):(XS l).length=l.length:=by simp[XS]
@[simp] theorem zaj(l:List Cl):(JW l).length=l.length:=by simp[JW]
@[simp] theorem Yj(l:List Fun1):(Yx l).length=l.length:=by simp[Yx]
theorem zeW{l:List Cal}{i:Nat}(h:i<l.length):ZP (XS l) (i:Int)=X2 l[i]:=by
 simp[ZP,XS,List.getD_eq_getElem?_getD,List.getElem?_map,h]
theorem zo2{l:List Cl}{i:Nat}(h:i<l.length):ZP (JW l) (i:Int)=XT l[i]:=by
 simp[ZP,JW,List.getD_eq_getElem?_getD,List.getElem?_map,h]
theorem zdS{l:List Fun1}{i:Nat}(h:i<l.length):ZP (Yx l) (i:Int)=Xd l[i]:=by
 simp[ZP,Yx,List.getD_eq_getElem?_getD,List.getElem?_map,h]
theorem Jt{α:Type}{e:α→V}{n:Nat}(h: ∀a,below n (e a)=true): ∀l:List α,Zk n (l.map e)=true
 |[]=>rfl
 |a::l=>by simp[Zk,h a,Jt h l]
@[simp] theorem zkN(n:Nat)(c:Cal):below n (X2 c)=true:=by simp[X2,below,Zk]
@[simp] theorem ztm(n:Nat)(l:List Cal):Zk n (XS l)=true:=Jt (zkN n) l
@[simp] theorem zo3(n:Nat)(c:Cl):below n (XT c)=true:=by simp[XT,below,Zk]
@[simp] theorem zup(n:Nat)(l:List Cl):Zk n (JW l)=true:=Jt (zo3 n) l
@[simp] theorem zo4(n:Nat)(f:Fun1):below n (Xd f)=true:=by simp[Xd,below,Zk]
@[simp] theorem zuq(n:Nat)(l:List Fun1):Zk n (Yx l)=true:=Jt (zo4 n) l
attribute [simp] zjC zj9 Zq zjD
theorem zdT{l:List V}{v:V}(h:v∈l):YY v≤Yc l:=by
 induction l with
 |nil=>cases h
 |cons a l ih=>
  simp only[Yc]
  rcases List.mem_cons.1 h with rfl|h
  ·omega
  ·have:=ih h;omega
theorem zct: ∀l:List V,l.length≤Yc l
 |[]=>Nat.zero_le _
 |v::l=>by
  have:=zct l
  have:1≤YY v:=by cases v<;>simp[YY]
  simp only[List.length_cons,Yc];omega
theorem zbp(t:T):YY (enc t)=1+1+(Yc (Zf t.args)+1)+1:=by
 rw[Zb];simp only[YY,Yc];omega
theorem zvj(m:M):4*(sizes m.ctx+m.t.size)≤YY (JU m):=by
 have h1:=QJ m.ctx
 have h2:=zap m.t
 rw[zbp]at h2
 simp only[JU,YY,Yc];omega
theorem zur{l:List M}{m:M}(h:m∈l):4*(sizes m.ctx+m.t.size)≤Yc (ZA l):=
 Nat.le_trans (zvj m) (zdT (List.mem_map_of_mem h))
theorem zvk(d:D):4*d.t.size≤YY (zdM d):=by
 have h2:=zap d.t
 rw[zbp]at h2
 simp only[zdM,YY,Yc];omega
theorem zus{l:List D}{d:D}(h:d∈l):4*d.t.size≤Yc (Ye l):=
 Nat.le_trans (zvk d) (zdT (List.mem_map_of_mem h))
theorem zrQ(c:Cal):4*(sizes c.ext+sizes c.theta+c.arg.size)≤YY (X2 c):=by
 have h1:=QJ c.ext
 have h3:=QJ c.theta
 have h2:=zap c.arg
 rw[zbp]at h2
 simp only[X2,YY,Yc];omega
theorem zut(c:Cl):Yc (ZA c.metas)+4*(sizes c.theta+c.p.size+c.r.size)+Yc (XS c.calls)≤YY (XT c):=by
 have h1:=QJ c.theta
 have h2:=zap c.p
 have h3:=zap c.r
 rw[zbp]at h2 h3
 simp only[XT,YY,Yc];omega
theorem zuu(f:Fun1):Yc (ZA f.delta)+4*(sizes f.schema+sizes f.psi+f.a.size+sizes f.phi+f.b.size)+Yc (JW f.clauses)≤YY (Xd f):=by
 have h1:=QJ f.schema
 have h2:=QJ f.psi
 have h3:=QJ f.phi
 have h4:=zap f.a
 have h5:=zap f.b
 rw[zbp]at h4 h5
 simp only[Xd,YY,Yc];omega
def zqf(l:List D):Bool:=decide (l.length≤30)&&l.all fun d=>Ql 1000 80 d.t
def zkO(l:List M):Bool:=decide (l.length≤30)&&l.all fun m=>X5 500 80 m.ctx&&Ql 500 80 m.t
def zl8(sig:List D)(ms:List M)(ctx:List T):Bool:=zqf sig&&(zkO ms&&X5 500 80 ctx)
def Ju(c:Cal):Bool:=X5 300 60 c.ext&&(X5 300 60 c.theta&&Ql 300 60 c.arg)
def zaJ(c:Cl):Bool:=zkO c.metas&&(X5 300 60 c.theta&&(Ql 300 60 c.p&&(Ql 300 60 c.r&&(decide (c.calls.length≤50)&&c.calls.all Ju))))
def zaK(f:Fun1):Bool:=zkO f.delta&&(X5 300 60 f.schema&&(X5 300 60 f.psi&&(X5 300 60 f.phi&&(Ql 300 60 f.a&&(Ql 300 60 f.b&&(decide (f.clauses.length≤50)&&f.clauses.all zaJ))))))
section
variable{R:Type}
@[simp] theorem zvl(c:Cal)(K:Int→List V→List V→Int→Int→List V→Option R):Zc (R:=R) [CT.int,CT.slice (some 3),CT.slice (some 3),CT.int,CT.int,CT.slice (some 3)] (X2 c) K=K c.f (Zf c.ext) (Zf c.theta) c.arg.k c.arg.h (Zf c.arg.args):=rfl
@[simp] theorem zwg(c:Cl)(K:List V→List V→Int→Int→List V→List V→Int→Int→List V→Option R):Zc (R:=R) [CT.slice (some 5),CT.slice (some 3),CT.int,CT.int,CT.slice (some 3),CT.slice (some 6),CT.int,CT.int,CT.slice (some 3)] (XT c) K=K (ZA c.metas) (Zf c.theta) c.p.k c.p.h (Zf c.p.args) (XS c.calls) c.r.k c.r.h (Zf c.r.args):=rfl
@[simp] theorem zwG(m:M)(K:List V→Option R):Xc (JU m) (fun c=>gd (decide (1≤c.length)) (Yp (some 3) (AM.partOf c 0 none) K))=K (Zf m.ctx):=by
 show gd true (Yp (some 3) (.vec .plain (some 3) (Zf m.ctx)) K)=_
 simp
@[simp] theorem zwH(m:M)(K:Int→Int→List V→Option R):Xc (JU m) (fun c=>gd (decide (4≤c.length)) (onCells (R:=R) [CT.int,CT.int,CT.slice (some 3)] (List.take 3 (List.drop 1 c)) K))=K m.t.k m.t.h (Zf m.t.args):=rfl
end
theorem YD(c:Cal):X2 c= .agg [.int c.f, .vec .plain (some 3) (Zf c.ext), .vec .plain (some 3) (Zf c.theta), .int c.arg.k, .int c.arg.h, .vec .plain (some 3) (Zf c.arg.args)]:=rfl
theorem ZQ(c:Cl):XT c= .agg [.vec .plain (some 5) (ZA c.metas), .vec .plain (some 3) (Zf c.theta), .int c.p.k, .int c.p.h, .vec .plain (some 3) (Zf c.p.args), .vec .plain (some 6) (XS c.calls), .int c.r.k, .int c.r.h, .vec .plain (some 3) (Zf c.r.args)]:=rfl
theorem Zv(f:Fun1):Xd f= .agg [.str (ba f.name), .vec .plain (some 3) (Zf f.schema), .vec .plain (some 5) (ZA f.delta), .vec .plain (some 3) (Zf f.psi), .int f.a.k, .int f.a.h, .vec .plain (some 3) (Zf f.a.args), .vec .plain (some 3) (Zf f.phi), .int f.b.k, .int f.b.h, .vec .plain (some 3) (Zf f.b.args), .bool f.total, .vec .plain (some 9) (JW f.clauses)]:=rfl
end Go.Ama
namespace Go.Ama
open Go Go.AM
def ZO:Nat→List Int→Int×Int
 |_,[]=>(0,0)
 |i,e::r=>if e≠0 then(i,e)else ZO (i+1) r
def zh4(l:List Int):Int×Int:=if 40<l.length then(0,4)else ZO 0 l
noncomputable def zez(sig:List D)(ms:List M)(ar ctx:List T):List Int:=(List.range ctx.length).map fun i=>zbm sig ms ((ar++ctx).take (ar.length+i)) (ctx.getD i T0)
noncomputable def ztn(sig:List D)(ms:List M)(ar ctx:List T):Int:=(zh4 (zez sig ms ar ctx)).2
noncomputable def zdU(sig:List D)(over:List M)(m:M):Int:=
 if ztn sig over [] m.ctx≠0 then ztn sig over [] m.ctx
 else if m.t.k≠2∨(m.param=true∧0<m.ctx.length)then 1 else zbm sig over m.ctx m.t
noncomputable def YE(sig:List D)(ms:List M):List Int:=(List.range ms.length).map fun i=>zdU sig (ms.take i) (ms.getD i ⟨[],T0,false⟩)
noncomputable def zfy(sig:List D)(ms:List M):Int×Int:=zh4 (YE sig ms)
theorem zo5{α:Type}{L:Int→Option α}{es:List Int}{e0:α}{e1:Int→Int→α}(hstep: ∀(i:Nat) (h:i<es.length),L i=if es[i]≠0 then some (e1 i es[i])else L ((i+1:Nat):Int))(hend:L (es.length:Nat)=some e0):
  L 0=some (if(ZO 0 es).2=0 then e0 else e1 (ZO 0 es).1 (ZO 0 es).2):=by
 have: ∀d i:Nat,i+d=es.length→L i=some (if(ZO i (es.drop i)).2=0 then e0 else e1 (ZO i (es.drop i)).1 (ZO i (es.drop i)).2):=by
  intro d
  induction d with
  |zero=>
   intro i hi
   have:i=es.length:=by omega
   subst this
   rw[hend,List.drop_length];rfl
  |succ d ih=>
   intro i hi
   have hlt:i<es.length:=by omega
   rw[hstep i hlt,List.drop_eq_getElem_cons hlt]
   by_cases h:es[i]=0
   ·have e:ZO i (es[i]::es.drop (i+1))=ZO (i+1) (es.drop (i+1)):=by simp[ZO,h]
    rw[if_neg (by simpa using h),e]
    exact ih (i+1) (by omega)
   ·have e:ZO i (es[i]::es.drop (i+1))=((i:Int),es[i]):=by simp[ZO,h]
    rw[if_pos h,e]
    simp[h]
 have:=this es.length 0 (by omega)
 rwa [List.drop_zero]at this
section
variable{σ:Type}(nx:Int→T→σ→σ)
mutual
def Jj:T→Int→σ→σ
 | .mk k h as_,n,s=>zcU as_ (bindsB k) n (nx n (.mk k h as_) s)
def zcU:List T→Bool→Int→σ→σ
 |[],_,_,s=>s
 |a::as_,bd,n,s=>zcU as_ bd n (Jj a (if bd&&as_.isEmpty then n+1 else n) s)
end
end
def zdV(b:Int):List Int→List T→List Int×Bool
 |vars,[]=>(vars,true)
 |vars,t::r=>if t.k≠4∨0<t.args.length∨t.h<0∨b≤t.h∨t.h∈vars then([],false)else zdV b (vars++[t.h]) r
def zgq(l:List T)(b:Int):List Int×Bool:=zdV b [] l
def zto(n:Int)(t:T)(s:Bool):Bool:=if t.k=6 then s&&(zgq t.args n).2 else s
def zl9(t:T)(n:Int):Bool:=Jj zto t n true
def zaL(l:List Int):List V:=l.map V.int
@[simp] theorem zar(l:List Int):(zaL l).length=l.length:=by simp[zaL]
@[simp] theorem zuL(a b:List Int):zaL (a++b)=zaL a++zaL b:=by simp[zaL]
@[simp] theorem zqg(n:Nat)(l:List Int):Zk n (zaL l)=true:=Jt (fun _=>rfl) l
theorem zlA{l:List Int}{i:Nat}(h:i<l.length):ZP (zaL l) (i:Int)= .int l[i]:=by
 simp[ZP,zaL,List.getD_eq_getElem?_getD,List.getElem?_map,h]
end Go.Ama
namespace Go.Ama
open Go Go.AM
theorem In.sub{sig:List D}{ms:List M}{all l:List T}(h:In sig ms all l){ctx:List T}(hc: ∀x∈ctx,x∈all)(hs:sizes ctx≤sizes all){r:List T}(hr: ∀x∈r,x∈all)(hrs:sizes r≤sizes all):In sig ms ctx r:=
 ⟨h.s,h.m,⟨Nat.le_trans hs h.c.1,fun x hx=>h.c.2 x (hc x hx)⟩,⟨Nat.le_trans hrs h.c.1,fun x hx=>h.c.2 x (hr x hx)⟩,h.sl,h.ml⟩
end Go.Ama
namespace Go.Proofs.CL
open Go Go.AM Go.Ama
theorem zo6{g:Nat}(hp:cfg.pure g=false)(xs:List T)(es:List Int)(hlen:es.length=xs.length)(hs:xs.length≤1099511627776)(b:List V)(st:St)(hg: ∀(i:Nat) (h:i<xs.length),W.call g ([.int (i:Int),enc xs[i]]++b) st=some (.ret (.int (es[i]'(by omega))),st)):
  W.call 102 [.vec .plain (some 3) (Zf xs), .fn g [] b] st=some (.ret (.tup [.int (zh4 es).1, .int (zh4 es).2]),st):=by
 have hl:=zo5 (L:=fun i=>W.loop 102 4 [.int i, .fn g [] b, .vec .plain (some 3) (Zf xs), .int xs.length] st) (es:=es) (e0:=(Ex.exit 0,[],st)) (e1:=fun i e=>(Ex.ret,[V.int i,V.int e],st))
  (fun i hi=>by
   have hi':i<xs.length:=by omega
   have hlt:(i:Int)<xs.length:=by omega
   have hw:IntKind.i64.wrap ((i:Int)+1)=((i+1:Nat):Int):=by rw[Zu ⟨by omega,by omega⟩];omega
   have h1:=hg i hi'
   simp only[List.cons_append,List.nil_append]at h1
   show W.loop _ _ _ _=_
   rw[L,QN,hw,ZF hi',Zi,hp]
   simp only[hlt,Int.natCast_nonneg,decide_true,Z4,Z2,Bool.and_self,Z6,zhv,←Zb,List.nil_append,List.cons_append,h1,Zg,ZV,ZB]
   by_cases he:es[i]=0
   ·simp[he]
   ·simp[he])
  (by
   show W.loop _ _ _ _=_
   rw[L,QN,hlen]
   simp)
 have hl':W.loop 102 4 [.int 0, .fn g [] b, .vec .plain (some 3) (Zf xs), .int xs.length] st=_:=hl
 unfold zh4
 rw[C,zcT,Zi,hl',hlen]
 by_cases h40:40<xs.length
 ·have:(xs.length:Int)>40:=by omega
  simp[h40,this,Z3]
 ·have: ¬(xs.length:Int)>40:=by omega
  by_cases he:(ZO 0 es).2=0
  ·have hz:(ZO 0 es).1=0:=by
    have: ∀(l:List Int) (i:Nat),(ZO i l).2=0→(ZO i l).1=0:=by
     intro l
     induction l with
     |nil=>intro i _;rfl
     |cons e l ih=>
      intro i h
      simp only[ZO]at h⊢
      split
      ·rename_i c;rw[if_pos c]at h;exact absurd h c
      ·rename_i c;rw[if_neg c]at h;exact ih _ h
    exact this es 0 he
   simp[h40,this,he,hz,Z3]
  ·simp[h40,this,he,Z3]
theorem zrR:cfg.pure 149=false:=by kernel_rfl
theorem ztp(sig:List D)(ms:List M)(ar ctx:List T)(hI:In sig ms (ar++ctx) []):Ev 106 [.vec .plain (some 4) (Ye sig), .vec .plain (some 5) (ZA ms), .vec .plain (some 3) (Zf ar), .vec .plain (some 3) (Zf ctx)] (.int (ztn sig ms ar ctx)):=by
 have hal:=Zo (ar++ctx)
 have hI1:=hI.c.1
 simp only[List.length_append]at hal
 have hc:=(zb9 ar ctx (by omega)).p (by simp[Zk,below]) (by simp[below,Xj])
 have hlen:(zez sig ms ar ctx).length=ctx.length:=by simp[zez]
 have hf:=zo6 zrR ctx (zez sig ms ar ctx) hlen (by omega) [.cptr none (.vec .plain (some 4) (Ye sig)), .cptr none (.vec .plain (some 5) (ZA ms)), .cptr none (.vec .plain (some 3) (Zf (ar++ctx))), .cptr none (.vec .plain (some 3) (Zf ar))] []
  (fun i hi=>by
   have hw:IntKind.i64.wrap ((ar.length:Int)+i)=((ar.length+i:Nat):Int):=by rw[Zu ⟨by omega,by omega⟩];omega
   have hmem:ctx[i]∈ar++ctx:=List.mem_append.2 (.inr (List.getElem_mem hi))
   have hT:=(zdR sig ms ((ar++ctx).take (ar.length+i)) ctx[i] (hI.sub (fun x hx=>List.mem_of_mem_take hx) (zbT _ _) (fun x hx=>by simp at hx;subst hx;exact hmem) (by simp only[sizes];exact size_le hmem))).p (by simp[Zk,below,Zq])
   have he:(zez sig ms ar ctx)[i]'(by omega)=zbm sig ms ((ar++ctx).take (ar.length+i)) ctx[i]:=by
    simp[zez,List.getD_eq_getElem?_getD,hi]
   have htk:List.drop 0 (List.take ((ar.length+i:Nat):Int).toNat (Zf (ar++ctx)))=Zf ((ar++ctx).take (ar.length+i)):=by
    rw[List.drop_zero,Int.toNat_natCast,QX,QX,List.map_take]
   have hle:((ar.length+i:Nat):Int)≤((Zf (ar++ctx)).length:Int):=by simp;omega
   have hge:(0:Int)≤((ar.length+i:Nat):Int):=by omega
   rw[he]
   show W.call 149 [.int (i:Int),enc ctx[i], .cptr none (.vec .plain (some 4) (Ye sig)), .cptr none (.vec .plain (some 5) (ZA ms)), .cptr none (.vec .plain (some 3) (Zf (ar++ctx))), .cptr none (.vec .plain (some 3) (Zf ar))] []=_
   rw[C,Zb ctx[i],zkM,Zi,hw,htk,←Zb ctx[i]]
   simp only[hge,hle,decide_true,Bool.and_self,Z6,hT,Zg,ZB,Z3])
 unfold Ev ztn
 rw[C,zo1,hc]
 simp only[Zg,YZ,hf,ZV,Xx,Yk,ZB,Yv]
end Go.Proofs.CL
namespace Go.Proofs.CL
open Go Go.AM Go.Ama
theorem zrS(sig:List D)(over:List M)(m:M)(hI:In sig over m.ctx [m.t]):Ev 148 [.vec .plain (some 4) (Ye sig), .vec .plain (some 5) (ZA over),JU m] (.int (zdU sig over m)):=by
 have hC:=(ztp sig over [] m.ctx ⟨hI.s,hI.m,by simpa using hI.c,⟨by simp[sizes],fun x hx=>by simp at hx⟩,hI.sl,hI.ml⟩).p (by simp[Zk,below,Zq])
 have hT:=(zdR sig over m.ctx m.t hI).p (by simp[Zk,below,Zq])
 simp only[QW]at hC
 unfold Ev zdU
 rw[C,Xn,zmI,hC,←Zb,Zi]
 by_cases he:ztn sig over [] m.ctx=0
 ·by_cases hk:m.t.k=2
  ·cases hp:m.param with
   |false=>simp[he,hk,hp,hT]
   |true=>
    by_cases hl:0<m.ctx.length
    ·simp[he,hk,hp,hl]
    ·have h0:m.ctx.length=0:=by omega
     simp[he,hk,hp,h0,hT]
  ·simp[he,hk]
 ·simp[he]
abbrev lpD(sig:List D)(s:LSt)(p:Option Ex):Res:= .loop 104 6 [.ref 0 0, .ref 1 0, .cptr none (.vec .plain (some 4) (Ye sig))] s p
theorem zo7(sig:List D)(over:List M)(m:M)(hI:In sig over m.ctx [m.t])(a e:Int):
  W.round 2 104 6 [.ref 0 0, .ref 1 0, .cptr none (.vec .plain (some 4) (Ye sig))] [.vec .plain (some 5) (ZA over),JU m] [.box [.int a], .box [.int e],lpD sig .ready none]=
   some (if zdU sig over m=0 then(true,[.box [.int a], .box [.int e],lpD sig .ready none])else(false,[.box [.int over.length], .box [.int (zdU sig over m)],lpD sig .done (some .ret)])):=by
 have hD:=(zrS sig over m hI).p (by simp[Zk,below,Zq])
 rw[Rd,Xn,zh3,←Xn]
 by_cases he:zdU sig over m=0
 ·simp[Zw,za3,YO,hD,he]
 ·simp[Zw,za3,YO,hD,he,setCells]
theorem zo8(sig:List D)(ms:List M)(hI:In sig ms [] [])(hml:ms.length≤1048576): ∀(n i:Nat),ms.length-i=n→i≤ms.length→
  W.loop 181 1 [.int (i:Int), .cptr none (.vec .plain (some 5) (ZA ms)), .yld 2, .vec .plain (some 5) (ZA ms), .int ms.length] [.box [.int 0], .box [.int 0],lpD sig .ready none]=
   some (if(ZO i ((YE sig ms).drop i)).2=0 then(.exit 0,[],[.box [.int 0], .box [.int 0],lpD sig .ready none])else(.ret,[],[.box [.int (ZO i ((YE sig ms).drop i)).1], .box [.int (ZO i ((YE sig ms).drop i)).2],lpD sig .done (some .ret)])):=by
 have hlen:(YE sig ms).length=ms.length:=by simp[YE]
 intro n
 induction n with
 |zero=>
  intro i hn hi
  have:i=ms.length:=by omega
  subst this
  rw[L,XK,←hlen,List.drop_length,hlen]
  simp[ZO]
 |succ n ih=>
  intro i hn hi
  have hlt:i<ms.length:=by omega
  have hlt':(i:Int)<ms.length:=by omega
  have hle':(i:Int)≤ms.length:=by omega
  have hw:IntKind.i64.wrap ((i:Int)+1)=((i+1:Nat):Int):=by rw[Zu ⟨by omega,by omega⟩];omega
  have hd:(YE sig ms).drop i=zdU sig (ms.take i) ms[i]::(YE sig ms).drop (i+1):=by
   rw[List.drop_eq_getElem_cons (by omega)]
   congr 1
   simp[YE,List.getD_eq_getElem?_getD,hlt]
  obtain⟨z1,z2,z3⟩:=hI.m _ (List.getElem_mem hlt)
  have hr:=zo7 sig (ms.take i) ms[i] ⟨hI.s,fun m hm=>hI.m m (List.mem_of_mem_take hm),⟨by omega,z3⟩,⟨by simp only[sizes];omega,fun x hx=>by simp at hx;subst hx;exact z2⟩,hI.sl,by simp;omega⟩ 0 0
  have htk:List.drop 0 (List.take (i:Int).toNat (ZA ms))=ZA (ms.take i):=by simp[ZA,List.map_take]
  have hmin:((ms.take i).length:Int)=i:=by simp;omega
  rw[hmin]at hr
  have hg: ∀{R:Type} (K:Res→Option R),Zw [Res.box [.int 0], .box [.int 0],lpD sig .ready none] 2 K=K (lpD sig .ready none):=fun K=>rfl
  rw[hd,L,XK,hw,JV hlt,htk,ZU]
  simp only[hlt',hle',Int.natCast_nonneg,decide_true,Bool.and_self,Z6,Z4,onM,←Xn,Option.isSome_some,hg,zaq,zaH,hr,Zg]
  by_cases he:zdU sig (ms.take i) ms[i]=0
  ·have e:ZO i (zdU sig (ms.take i) ms[i]::(YE sig ms).drop (i+1))=ZO (i+1) ((YE sig ms).drop (i+1)):=by simp[ZO,he]
   rw[e]
   simp only[he,if_true,Bool.not_true,Z2]
   exact ih (i+1) (by omega) (by omega)
  ·have e:ZO i (zdU sig (ms.take i) ms[i]::(YE sig ms).drop (i+1))=((i:Int),zdU sig (ms.take i) ms[i]):=by simp[ZO,he]
   rw[e]
   simp[he]
theorem zqh(sig:List D)(ms:List M)(hI:In sig ms [] []):Ev 104 [.vec .plain (some 4) (Ye sig), .vec .plain (some 5) (ZA ms)] (.tup [.int (zfy sig ms).1, .int (zfy sig ms).2]):=by
 have hlen:(YE sig ms).length=ms.length:=by simp[YE]
 have hL:=zo8 sig ms hI hI.ml _ 0 rfl (Nat.zero_le _)
 simp only[Int.natCast_zero,List.drop_zero]at hL
 have hA:W.call 147 [.vec .plain (some 5) (ZA ms)] [.box [.int 0], .box [.int 0]]=some (.ret (.fn 181 [] [.cptr none (.vec .plain (some 5) (ZA ms))]),[.box [.int 0], .box [.int 0]]):=by
  rw[C,zbo,Z3 rfl]
 unfold Ev zfy zh4
 rw[C,zkL,ZU,hlen]
 by_cases h40:40<ms.length
 ·have:(ms.length:Int)>40:=by omega
  simp[h40,this]
 ·have h40': ¬(ms.length:Int)>40:=by omega
  have hA1:W.call 181 [.yld 2, .cptr none (.vec .plain (some 5) (ZA ms))] [.box [.int 0], .box [.int 0],lpD sig .ready none]=
    some (.ret (.tup []),if(ZO 0 (YE sig ms)).2=0 then[.box [.int 0], .box [.int 0],lpD sig .ready none]else[.box [.int (ZO 0 (YE sig ms)).1], .box [.int (ZO 0 (YE sig ms)).2],lpD sig .done (some .ret)]):=by
   rw[C,zaz,ZU,hL]
   by_cases he:(ZO 0 (YE sig ms)).2=0
   ·simp[he,Z3]
   ·simp[he,Z3]
  simp only[h40',decide_false,Z2,hA,Zg,ZV,zgj,List.length_cons,List.length_nil,Nat.zero_add,Nat.reduceAdd,List.nil_append,List.cons_append]
  rw[hA1]
  by_cases he:(ZO 0 (YE sig ms)).2=0
  ·have hz:(ZO 0 (YE sig ms)).1=0:=by
    have: ∀(l:List Int) (i:Nat),(ZO i l).2=0→(ZO i l).1=0:=by
     intro l
     induction l with
     |nil=>intro i _;rfl
     |cons e l ih=>
      intro i h
      simp only[ZO]at h⊢
      split
      ·rename_i c;rw[if_pos c]at h;exact absurd h c
      ·rename_i c;rw[if_neg c]at h;exact ih _ h
    exact this _ 0 he
   simp[he,hz,h40,Zw,setCells]
   rfl
  ·simp[he,h40,Zw,setCells]
   rfl
end Go.Proofs.CL
namespace Go.Proofs.CL
open Go Go.AM
set_option maxRecDepth 20000
theorem zh5(O:Oracle)(l0:(List V))(l1:(List V)):Ze Tryz.prog cfg O 23 [.vec .plain (some 3) l0, .vec .plain (some 3) l1] []=
 Za (O.call 73 [V.vec .plain (some 3) l1,V.fn 72 [] [V.cptr none (V.vec .plain (some 3) l0)]] []) fun r1=>Zx r1.fst
 (fun v2=>Zl v2 fun b3=>some (Out.ret (V.bool !b3),[])) fun p4=>none:=by kernel_rfl
theorem zo9(O:Oracle)(l0:(List V))(l1:(List V))(l2:(List V))(l3:(List V))(l4:(List V)):Ze Tryz.prog cfg O 25 [.vec .plain (some 4) l0, .vec .plain (some 5) l1, .vec .plain (some 3) l2, .vec .plain (some 5) l3, .vec .plain (some 3) l4] []=
 bc (decide ((↑l3.length:Int)>40)) (some (Out.ret (V.int 4),[])) (bc ((↑l4.length:Int) !=(↑l3.length:Int)) (some (Out.ret (V.int 3),[])) (Za (O.call
 76 [V.vec .plain (some 3) l4] [Res.box [V.int 0]]) fun r1=>Zx r1.fst (fun v2=>zf8 v2 fun g3 a4 b5=>Za (O.call g3 (a4++[V.yld (List.length
 r1.snd)]++b5) (r1.snd++[Res.loop 25 8 [V.ref 0 0,V.cptr none (V.vec .plain (some 5) l1),V.cptr none (V.vec .plain (some 3) l2),V.cptr none (V.vec .plain (some 4)
 l0),V.cptr none (V.vec .plain (some 5) l3)] LSt.ready none])) fun r6=>Zx r6.fst (fun v7=>Zw r6.snd (List.length r1.snd) fun x8=>ZX x8 fun f9 k10 vs11 s12 p13=>
 XZ s12 p13 (Zw (List.set r6.snd (List.length r1.snd) Res.dead) 0 fun x14=>ZE x14 fun c15=>gd (decide (1≤c15.length)&&true) (Zw ((List.set r6.snd (List.length
 r1.snd) Res.dead).set 0 (Res.box (setCells c15 0 [V.int 0]))) 0 fun x16=>ZE x16 fun c17=>gd (decide (1≤c17.length)&&true) (gd (below 0 (Zs (AM.partOf c17 0 none))
 &&Zt 0 []) (some (Out.ret (Zs (AM.partOf c17 0 none)),[]))))) (Zw (List.set r6.snd (List.length r1.snd) Res.dead) 0 fun x18=>ZE x18 fun c19=>gd (decide (1≤
 c19.length)&&true) (gd (below 0 (Zs (AM.partOf c19 0 none))&&Zt 0 []) (some (Out.ret (Zs (AM.partOf c19 0 none)),[])))) fun i20=>none) fun p21=>none) fun p22
 =>none)):=by kernel_rfl
theorem zjM(O:Oracle)(q:Nat)(ms ext sg ds over:List V)(k h:Int)(xs:List V)(st:St):Xw Tryz.prog cfg O q 25 8 [.ref 0 0, .cptr none (.vec .plain (some 5) ms), .cptr none (.vec .plain (some 3) ext), .cptr none (.vec .plain (some 4) sg), .cptr none (.vec .plain (some 5) ds)] [.vec .plain (some 3) over, .agg [.int k, .int h, .vec .plain (some 3) xs]] st=
 Zw st q fun x1=>ZX x1 fun f2 k3 vs4 s5 p6=>za3 s5 p6 (gd (decide (0≤(↑over.length:Int))&&decide ((↑over.length:Int)<(↑ds.length:Int))) (Zc
 [CT.slice (some 3),CT.int,CT.int,CT.slice (some 3),CT.bool] (ZP ds (↑over.length:Int)) fun l7 n8 n9 l10 b11=>Za (Zj O 33 [V.vec .plain (some 3) l7,V.vec
 .plain (some 3) over,V.int 0]) fun r12=>ZM r12 fun c13=>Zd c13 fun v14 c15=>Yp (some 3) v14 fun l16=>Zd c15 fun v17 c18=>Zm v17 fun n19=>Zn c18
 (bc (n19 !=0) (Zw (List.set st q (Res.loop f2 k3 vs4 LSt.busy none)) 0 fun x20=>ZE x20 fun c21=>gd (decide (1≤c21.length)&&true) (Zw ((List.set st q (Res.loop f2
 k3 vs4 LSt.busy none)).set 0 (Res.box (setCells c21 0 [V.int n19]))) q fun x22=>ZX x22 fun f23 k24 vs25 s26 p27=>YO s26 (some (false,((List.set st q (Res.loop f2 k3
 vs4 LSt.busy none)).set 0 (Res.box (setCells c21 0 [V.int n19]))).set q (Res.loop f23 k24 vs25 LSt.done (some Ex.ret)))))) (Za (Zj O 26 [V.agg [V.int n8,V.int n9,
 V.vec .plain (some 3) l10],V.vec .plain (some 3) over,V.int (↑l7.length:Int)]) fun r28=>ZM r28 fun c29=>Zd c29 fun v30 c31=>Zc [CT.int,CT.int,CT.slice
 (some 3)] v30 fun n32 n33 l34=>Zd c31 fun v35 c36=>Zm v35 fun n37=>Zn c36 (bc (n37==0) (Za (Zj O 77 [V.vec .plain none
 [V.vec .plain (some 3) ext,V.vec .plain (some 3) l16]]) fun r38=>Yp (some 3) r38 fun l39=>Za (Zj O 30 [V.vec .plain (some 4) sg,V.vec .plain (some 5) ms,
 V.vec .plain (some 3) l39,V.agg [V.int k,V.int h,V.vec .plain (some 3) xs],V.agg [V.int n32,V.int n33,V.vec .plain (some 3) l34]]) fun r40=>Zm r40 fun n41=>bc (n41==
 0) (bc b11 (Za (Zj O 78 [V.agg [V.int k,V.int h,V.vec .plain (some 3) xs],V.vec .plain (some 5) ms]) fun r42=>Zl r42 fun b43=>bc (!b43) (Zw
 (List.set st q (Res.loop f2 k3 vs4 LSt.busy none)) 0 fun x44=>ZE x44 fun c45=>gd (decide (1≤c45.length)&&true) (Zw ((List.set st q (Res.loop f2 k3 vs4 LSt.busy
 none)).set 0 (Res.box (setCells c45 0 [V.int 3]))) q fun x46=>ZX x46 fun f47 k48 vs49 s50 p51=>YO s50 (some (false,((List.set st q (Res.loop f2 k3 vs4 LSt.busy
 none)).set 0 (Res.box (setCells c45 0 [V.int 3]))).set q (Res.loop f47 k48 vs49 LSt.done (some Ex.ret)))))) (bc (n41 !=0) (Zw (List.set st q (Res.loop f2 k3 vs4 LSt.busy none))
 0 fun x52=>ZE x52 fun c53=>gd (decide (1≤c53.length)&&true) (Zw ((List.set st q (Res.loop f2 k3 vs4 LSt.busy none)).set 0 (Res.box (setCells c53 0 [V.int n41]))) q
 fun x54=>ZX x54 fun f55 k56 vs57 s58 p59=>YO s58 (some (false,((List.set st q (Res.loop f2 k3 vs4 LSt.busy none)).set 0 (Res.box (setCells c53 0 [V.int n41]))).set q
 (Res.loop f55 k56 vs57 LSt.done (some Ex.ret)))))) (Zw (List.set st q (Res.loop f2 k3 vs4 LSt.busy none)) q fun x60=>ZX x60 fun f61 k62 vs63 s64 p65=>YO s64 (some
 (true,(List.set st q (Res.loop f2 k3 vs4 LSt.busy none)).set q (Res.loop f61 k62 vs63 LSt.ready none)))))) (bc (n41 !=0) (Zw (List.set st q (Res.loop f2 k3 vs4 LSt.busy none))
 0 fun x66=>ZE x66 fun c67=>gd (decide (1≤c67.length)&&true) (Zw ((List.set st q (Res.loop f2 k3 vs4 LSt.busy none)).set 0 (Res.box (setCells c67 0 [V.int n41]))) q
 fun x68=>ZX x68 fun f69 k70 vs71 s72 p73=>YO s72 (some (false,((List.set st q (Res.loop f2 k3 vs4 LSt.busy none)).set 0 (Res.box (setCells c67 0 [V.int n41]))).set q
 (Res.loop f69 k70 vs71 LSt.done (some Ex.ret)))))) (Zw (List.set st q (Res.loop f2 k3 vs4 LSt.busy none)) q fun x74=>ZX x74 fun f75 k76 vs77 s78 p79=>YO s78 (some
 (true,(List.set st q (Res.loop f2 k3 vs4 LSt.busy none)).set q (Res.loop f75 k76 vs77 LSt.ready none)))))) (bc (n41 !=0) (Zw (List.set st q (Res.loop f2 k3 vs4 LSt.busy none))
 0 fun x80=>ZE x80 fun c81=>gd (decide (1≤c81.length)&&true) (Zw ((List.set st q (Res.loop f2 k3 vs4 LSt.busy none)).set 0 (Res.box (setCells c81 0 [V.int n41]))) q
 fun x82=>ZX x82 fun f83 k84 vs85 s86 p87=>YO s86 (some (false,((List.set st q (Res.loop f2 k3 vs4 LSt.busy none)).set 0 (Res.box (setCells c81 0 [V.int n41]))).set q
 (Res.loop f83 k84 vs85 LSt.done (some Ex.ret)))))) (Zw (List.set st q (Res.loop f2 k3 vs4 LSt.busy none)) q fun x88=>ZX x88 fun f89 k90 vs91 s92 p93=>YO s92 (some
 (true,(List.set st q (Res.loop f2 k3 vs4 LSt.busy none)).set q (Res.loop f89 k90 vs91 LSt.ready none)))))) (bc (n37==0) (bc b11 (Za (Zj O 78 [V.agg [V.int
 k,V.int h,V.vec .plain (some 3) xs],V.vec .plain (some 5) ms]) fun r94=>Zl r94 fun b95=>bc (!b95) (Zw (List.set st q (Res.loop f2 k3 vs4 LSt.busy none)) 0 fun x96=>
 ZE x96 fun c97=>gd (decide (1≤c97.length)&&true) (Zw ((List.set st q (Res.loop f2 k3 vs4 LSt.busy none)).set 0 (Res.box (setCells c97 0 [V.int 3]))) q fun x98=>ZX
 x98 fun f99 k100 vs101 s102 p103=>YO s102 (some (false,((List.set st q (Res.loop f2 k3 vs4 LSt.busy none)).set 0 (Res.box (setCells c97 0 [V.int 3]))).set q (Res.loop f99
 k100 vs101 LSt.done (some Ex.ret)))))) (bc (n37 !=0) (Zw (List.set st q (Res.loop f2 k3 vs4 LSt.busy none)) 0 fun x104=>ZE x104 fun c105=>gd (decide (1≤c105.length)&&
 true) (Zw ((List.set st q (Res.loop f2 k3 vs4 LSt.busy none)).set 0 (Res.box (setCells c105 0 [V.int n37]))) q fun x106=>ZX x106 fun f107 k108 vs109 s110 p111=>YO
 s110 (some (false,((List.set st q (Res.loop f2 k3 vs4 LSt.busy none)).set 0 (Res.box (setCells c105 0 [V.int n37]))).set q (Res.loop f107 k108 vs109 LSt.done (some Ex.ret))))))
 (Zw (List.set st q (Res.loop f2 k3 vs4 LSt.busy none)) q fun x112=>ZX x112 fun f113 k114 vs115 s116 p117=>YO s116 (some (true,(List.set st q (Res.loop f2 k3 vs4
 LSt.busy none)).set q (Res.loop f113 k114 vs115 LSt.ready none)))))) (bc (n37 !=0) (Zw (List.set st q (Res.loop f2 k3 vs4 LSt.busy none)) 0 fun x118=>ZE x118 fun c119=>
 gd (decide (1≤c119.length)&&true) (Zw ((List.set st q (Res.loop f2 k3 vs4 LSt.busy none)).set 0 (Res.box (setCells c119 0 [V.int n37]))) q fun x120=>ZX x120 fun f121
 k122 vs123 s124 p125=>YO s124 (some (false,((List.set st q (Res.loop f2 k3 vs4 LSt.busy none)).set 0 (Res.box (setCells c119 0 [V.int n37]))).set q (Res.loop f121 k122
 vs123 LSt.done (some Ex.ret)))))) (Zw (List.set st q (Res.loop f2 k3 vs4 LSt.busy none)) q fun x126=>ZX x126 fun f127 k128 vs129 s130 p131=>YO s130 (some (true,
 (List.set st q (Res.loop f2 k3 vs4 LSt.busy none)).set q (Res.loop f127 k128 vs129 LSt.ready none)))))) (bc (n37 !=0) (Zw (List.set st q (Res.loop f2 k3 vs4 LSt.busy none)) 0
 fun x132=>ZE x132 fun c133=>gd (decide (1≤c133.length)&&true) (Zw ((List.set st q (Res.loop f2 k3 vs4 LSt.busy none)).set 0 (Res.box (setCells c133 0 [V.int n37]))) q
 fun x134=>ZX x134 fun f135 k136 vs137 s138 p139=>YO s138 (some (false,((List.set st q (Res.loop f2 k3 vs4 LSt.busy none)).set 0 (Res.box (setCells c133 0 [V.int
 n37]))).set q (Res.loop f135 k136 vs137 LSt.done (some Ex.ret)))))) (Zw (List.set st q (Res.loop f2 k3 vs4 LSt.busy none)) q fun x140=>ZX x140 fun f141 k142 vs143 s144
 p145=>YO s144 (some (true,(List.set st q (Res.loop f2 k3 vs4 LSt.busy none)).set q (Res.loop f141 k142 vs143 LSt.ready none))))))))))):=by kernel_rfl
theorem zoA(O:Oracle)(n0:Int)(n1:Int)(l2:(List V))(l3:(List V))(n4:Int):Ze Tryz.prog cfg O 26 [.agg [.int n0, .int n1, .vec .plain (some 3) l2], .vec .plain (some 3) l3, .int n4] []=
 Za (Zj O 79 [V.agg [V.int n0,V.int n1,V.vec .plain (some 3) l2]]) fun r1=>Zl r1 fun b2=>bc b2 (some (Out.ret (V.tup [V.agg [V.int 0,V.int 0,V.vec .plain
 (some 3) []],V.int 1]),[])) (bc (decide (n4<0)) (some (Out.ret (V.tup [V.agg [V.int 0,V.int 0,V.vec .plain (some 3) []],V.int 1]),[])) (bc (decide (n4>1000)) (some
 (Out.ret (V.tup [V.agg [V.int 0,V.int 0,V.vec .plain (some 3) []],V.int 1]),[])) (bc (decide ((↑l3.length:Int)>200)) (some (Out.ret (V.tup [V.agg [V.int 0,V.int 0,V.vec
 .plain (some 3) []],V.int 1]),[])) (Za (O.call 73 [V.vec .plain (some 3) l3,V.fn 79 [] []] []) fun r3=>Zx r3.fst (fun v4=>
 Zl v4 fun b5=>bc b5 (some (Out.ret (V.tup [V.agg [V.int 0,V.int 0,V.vec .plain (some 3) []],V.int 1]),[])) (Za (Zj O 80 [V.agg [V.int n0,V.int n1,V.vec
 .plain (some 3) l2],V.vec .plain (some 3) l3,V.int n4]) fun r6=>ZM r6 fun c7=>Zd c7 fun v8 c9=>Zc [CT.int,CT.int,CT.slice (some 3)] v8 fun n10 n11 l12=>
 Zd c9 fun v13 c14=>Zm v13 fun n15=>Zn c14 (bc (n15 !=0) (some (Out.ret (V.tup [V.agg [V.int 0,V.int 0,V.vec .plain (some 3) []],V.int n15]),[])) (Za (Zj O
 79 [V.agg [V.int n10,V.int n11,V.vec .plain (some 3) l12]]) fun r16=>Zl r16 fun b17=>bc b17 (some (Out.ret (V.tup [V.agg [V.int 0,V.int 0,V.vec .plain (some 3)
 []],V.int 4]),[])) (gd (below 0 (V.tup [V.agg [V.int n10,V.int n11,V.vec .plain (some 3) l12],V.int 0])&&Zt 0 []) (some (Out.ret (V.tup [V.agg [V.int n10,V.int n11,
 V.vec .plain (some 3) l12],V.int 0]),[]))))))) fun p18=>none)))):=by kernel_rfl
theorem zqi(O:Oracle)(l0:(List V))(l1:(List V))(n2:Int):Ze Tryz.prog cfg O 33 [.vec .plain (some 3) l0, .vec .plain (some 3) l1, .int n2] []=
 Za (O.call 98 [V.vec .plain (some 3) l0,V.fn 99 [] [V.cptr none (V.vec .plain (some 3) l1),V.cptr none (V.int n2)]] []) fun r1=>Zx r1.fst
 (fun v2=>ZM v2 fun c3=>Zd c3 fun v4 c5=>Yp (some 3) v4 fun l6=>Zd c5 fun v7 c8=>Zm v7 fun n9=>Zn c8 (gd (below 0 (V.tup [V.vec .plain (some 3) l6,
 V.int n9])&&Zt 0 []) (some (Out.ret (V.tup [V.vec .plain (some 3) l6,V.int n9]),[])))) fun p10=>none:=by kernel_rfl
theorem zfz(O:Oracle)(k h:Int)(xs ys:List V)(st:St):Ze Tryz.prog cfg O 72 [.agg [.int k, .int h, .vec .plain (some 3) xs], .cptr none (.vec .plain (some 3) ys)] st=
 Za (O.call 73 [V.vec .plain (some 3) ys,V.fn 74 [] [V.cptr (some 3) (V.agg [V.int k,V.int h,V.vec .plain (some 3)
 xs])]] st) fun r1=>Zx r1.fst (fun v2=>Zl v2 fun b3=>Xb (List.length st) (V.bool !b3) r1.snd) fun p4=>none:=by kernel_rfl
theorem zdW(O:Oracle)(k h k2 h2:Int)(xs ys:List V)(st:St):Ze Tryz.prog cfg O 74 [.agg [.int k, .int h, .vec .plain (some 3) xs], .cptr (some 3) (.agg [.int k2, .int h2, .vec .plain (some 3) ys])] st=
 Za (Zj O 75 [V.agg [V.int k,V.int h,V.vec .plain (some 3) xs],V.agg [V.int k2,V.int h2,V.vec .plain (some 3) ys]]) fun r1=>Zl r1 fun b2=>Xb
 (List.length st) (V.bool b2) st:=by kernel_rfl
theorem zcV(O:Oracle)(l0:(List V))(st:St):Ze Tryz.prog cfg O 76 [.vec .plain (some 3) l0] st=
 Xb (List.length st) (V.fn 123 [] [V.cptr none (V.vec .plain (some 3) l0)]) st:=by kernel_rfl
theorem zh6(O:Oracle)(n0:Int)(n1:Int)(l2:(List V))(l3:(List V)):Ze Tryz.prog cfg O 78 [.agg [.int n0, .int n1, .vec .plain (some 3) l2], .vec .plain (some 5) l3] []=
 bc (n0==6) (bc (decide (n1<(↑l3.length:Int))) (gd (decide (0≤n1)&&decide (n1<(↑l3.length:Int))) (Xc (ZP l3 n1) fun c1=>gd (decide (5≤c1.length)) (Zl
 (AM.partOf c1 4 none) fun b2=>some (Out.ret (V.bool b2),[])))) (some (Out.ret (V.bool false),[]))) (bc (n0==4) (some (Out.ret (V.bool ((↑l2.length:Int)==0)),[])) (some
 (Out.ret (V.bool false),[]))):=by kernel_rfl
theorem zqj(O:Oracle)(n0:Int)(n1:Int)(l2:(List V)):Ze Tryz.prog cfg O 79 [.agg [.int n0, .int n1, .vec .plain (some 3) l2]] []=
 Za (Zj O 82 [V.agg [V.int n0,V.int n1,V.vec .plain (some 3) l2]]) fun r1=>Zl r1 fun b2=>some (Out.ret (V.bool !b2),[]):=by kernel_rfl
theorem zoB(O:Oracle)(n0:Int)(n1:Int)(l2:(List V))(l3:(List V))(n4:Int):Ze Tryz.prog cfg O 80 [.agg [.int n0, .int n1, .vec .plain (some 3) l2], .vec .plain (some 3) l3, .int n4] []=
 bc (n0==1) (Za (O.call 98 [V.vec .plain (some 3) l2,V.fn 125 [] [V.cptr none (V.bool true),V.cptr (some 3) (V.agg [V.int n0,V.int n1,V.vec
 .plain (some 3) l2]),V.cptr none (V.vec .plain (some 3) l3),V.cptr none (V.int n4)]] []) fun r1=>Zx r1.fst (fun v2=>ZM v2 fun c3=>Zd c3 fun v4 c5=>Yp (some
 3) v4 fun l6=>Zd c5 fun v7 c8=>Zm v7 fun n9=>Zn c8 (bc (n9 !=0) (some (Out.ret (V.tup [V.agg [V.int 0,V.int 0,V.vec .plain (some 3) []],V.int n9]),[])) (bc
 (n0 !=6) (gd (below 0 (V.tup [V.agg [V.int n0,V.int n1,V.vec .plain (some 3) l6],V.int 0])&&Zt 0 []) (some (Out.ret (V.tup [V.agg [V.int n0,V.int n1,V.vec .plain
 (some 3) l6],V.int 0]),[]))) (bc (decide (n1≥(↑l3.length:Int))) (some (Out.ret (V.tup [V.agg [V.int 0,V.int 0,V.vec .plain (some 3) []],V.int 2]),[])) (Za (O.call
 73 [V.vec .plain (some 3) l6,V.fn 79 [] []] r1.snd) fun r10=>Zx r10.fst (fun v11=>Zl v11 fun b12=>bc b12 (some (Out.ret
 (V.tup [V.agg [V.int 0,V.int 0,V.vec .plain (some 3) []],V.int 4]),[])) (gd (decide (0≤n1)&&decide (n1<(↑l3.length:Int))) (Zc [CT.int,CT.int,CT.slice (some 3)]
 (ZP l3 n1) fun n13 n14 l15=>Za (Zj O 126 [V.agg [V.int n13,V.int n14,V.vec .plain (some 3) l15],V.agg [V.vec .plain (some 3) l6,V.int n4]]) fun r16=>
 ZM r16 fun c17=>Zd c17 fun v18 c19=>Zc [CT.int,CT.int,CT.slice (some 3)] v18 fun n20 n21 l22=>Zd c19 fun v23 c24=>Zm v23 fun n25=>Zn c24 (gd
 (below 0 (V.tup [V.agg [V.int n20,V.int n21,V.vec .plain (some 3) l22],V.int n25])&&Zt 0 []) (some (Out.ret (V.tup [V.agg [V.int n20,V.int n21,V.vec .plain (some 3)
 l22],V.int n25]),[])))))) fun p26=>none))))) fun p27=>none) (Za (O.call 98 [V.vec .plain (some 3) l2,V.fn 125 [] [V.cptr none (V.bool (n0==
 3)),V.cptr (some 3) (V.agg [V.int n0,V.int n1,V.vec .plain (some 3) l2]),V.cptr none (V.vec .plain (some 3) l3),V.cptr none (V.int n4)]] []) fun r28=>Zx r28.fst (fun v29
 =>ZM v29 fun c30=>Zd c30 fun v31 c32=>Yp (some 3) v31 fun l33=>Zd c32 fun v34 c35=>Zm v34 fun n36=>Zn c35 (bc (n36 !=0) (some (Out.ret (V.tup
 [V.agg [V.int 0,V.int 0,V.vec .plain (some 3) []],V.int n36]),[])) (bc (n0 !=6) (gd (below 0 (V.tup [V.agg [V.int n0,V.int n1,V.vec .plain (some 3) l33],V.int 0])&&
 Zt 0 []) (some (Out.ret (V.tup [V.agg [V.int n0,V.int n1,V.vec .plain (some 3) l33],V.int 0]),[]))) (bc (decide (n1≥(↑l3.length:Int))) (some (Out.ret (V.tup [V.agg
 [V.int 0,V.int 0,V.vec .plain (some 3) []],V.int 2]),[])) (Za (O.call 73 [V.vec .plain (some 3) l33,V.fn 79 [] []] r28.snd)
 fun r37=>Zx r37.fst (fun v38=>Zl v38 fun b39=>bc b39 (some (Out.ret (V.tup [V.agg [V.int 0,V.int 0,V.vec .plain (some 3) []],V.int 4]),[])) (gd (decide (0≤n1)
 &&decide (n1<(↑l3.length:Int))) (Zc [CT.int,CT.int,CT.slice (some 3)] (ZP l3 n1) fun n40 n41 l42=>Za (Zj O 126 [V.agg [V.int n40,V.int n41,V.vec
 .plain (some 3) l42],V.agg [V.vec .plain (some 3) l33,V.int n4]]) fun r43=>ZM r43 fun c44=>Zd c44 fun v45 c46=>Zc [CT.int,CT.int,CT.slice (some 3)] v45 fun
 n47 n48 l49=>Zd c46 fun v50 c51=>Zm v50 fun n52=>Zn c51 (gd (below 0 (V.tup [V.agg [V.int n47,V.int n48,V.vec .plain (some 3) l49],V.int n52])&&Zt 0 [])
 (some (Out.ret (V.tup [V.agg [V.int n47,V.int n48,V.vec .plain (some 3) l49],V.int n52]),[])))))) fun p53=>none))))) fun p54=>none):=by kernel_rfl
theorem zdX(O:Oracle)(l0:(List V))(g1:Nat)(l2:(List V))(l3:(List V))(st:St):Ze Tryz.prog cfg O 98 [.vec .plain (some 3) l0, .fn g1 l2 l3] st=
 Za (O.loop 98 3 [V.int 0,V.vec Mode.grow (some 3) [],V.fn g1 l2 l3,V.vec .plain (some 3) l0,V.int (↑l0.length:Int)] st) fun r1=>Xk r1.fst none
 (Zd r1.snd.fst fun v2 c3=>Yp (some 3) v2 fun l4=>Zd c3 fun v5 c6=>Zm v5 fun n7=>Zn c6 (Xb (List.length st) (V.tup [V.vec .plain (some 3) l4,V.int n7])
 r1.snd.snd)) (fun i8=>bc (i8.beq 0) (Zd r1.snd.fst fun v9 c10=>Xr (some 3) v9 fun l11=>Zn c10 (Xb (List.length st) (V.tup [V.vec .plain (some 3) l11,V.int 0])
 r1.snd.snd)) none) fun v12=>none:=by kernel_rfl
theorem Jv(O:Oracle)(n0:Int)(l1:(List V))(g2:Nat)(l3:(List V))(l4:(List V))(l5:(List V))(n6:Int)(st:St):Zz Tryz.prog cfg O 98 3 [.int n0, .vec .grow (some 3) l1, .fn g2 l3 l4, .vec .plain (some 3) l5, .int n6] st=
 bc (decide (n0<n6)) (gd (decide (0≤n0)&&decide (n0<(↑l5.length:Int))) (Zc [CT.int,CT.int,CT.slice (some 3)] (ZP l5 n0) fun n1 n2 l3_1=>bc (cfg.pure g2)
 (Za (Zj O g2 (l3++[V.int n0,V.agg [V.int n1,V.int n2,V.vec .plain (some 3) l3_1]]++l4)) fun r4=>ZM r4 fun c5=>Zd c5 fun v6 c7=>Zc [CT.int,CT.int,
 CT.slice (some 3)] v6 fun n8 n9 l10=>Zd c7 fun v11 c12=>Zm v11 fun n13=>Zn c12 (bc (n13 !=0) (some (Ex.ret,[V.vec .plain (some 3) [],V.int n13],st)) (gd (true
 &&roomFor Tryz.prog 27 (l1.length+[V.agg [V.int n8,V.int n9,V.vec .plain (some 3) l10]].length)) (O.2 98 3 [V.int (IntKind.i64.wrap (n0+1)),
 V.vec Mode.grow (some 3) (l1++[V.agg [V.int n8,V.int n9,V.vec .plain (some 3) l10]]),V.fn g2 l3 l4,V.vec .plain (some 3) l5,V.int n6] st)))) (Za (O.call g2 (l3++[V.int
 n0,V.agg [V.int n1,V.int n2,V.vec .plain (some 3) l3_1]]++l4) st) fun r14=>Zx r14.fst (fun v15=>ZM v15 fun c16=>Zd c16 fun v17 c18=>Zc [CT.int,
 CT.int,CT.slice (some 3)] v17 fun n19 n20 l21=>Zd c18 fun v22 c23=>Zm v22 fun n24=>Zn c23 (bc (n24 !=0) (some (Ex.ret,[V.vec .plain (some 3) [],V.int n24],
 r14.snd)) (gd (true&&roomFor Tryz.prog 27 (l1.length+[V.agg [V.int n19,V.int n20,V.vec .plain (some 3) l21]].length)) (O.2 98 3 [V.int
 (IntKind.i64.wrap (n0+1)),V.vec Mode.grow (some 3) (l1++[V.agg [V.int n19,V.int n20,V.vec .plain (some 3) l21]]),V.fn g2 l3 l4,V.vec .plain (some 3) l5,V.int n6]
 r14.snd)))) fun p25=>none))) (some (Ex.exit 0,[V.vec Mode.grow (some 3) l1],st)):=by kernel_rfl
theorem zmJ(O:Oracle)(i k h n:Int)(xs th:List V)(st:St):Ze Tryz.prog cfg O 99 [.int i, .agg [.int k, .int h, .vec .plain (some 3) xs], .cptr none (.vec .plain (some 3) th), .cptr none (.int n)] st=
 Za (Zj O 26 [V.agg [V.int k,V.int h,V.vec .plain (some 3) xs],V.vec .plain (some 3) th,V.int (IntKind.i64.wrap (n+i))]) fun r1=>ZM r1 fun c2=>Zd c2
 fun v3 c4=>Zc [CT.int,CT.int,CT.slice (some 3)] v3 fun n5 n6 l7=>Zd c4 fun v8 c9=>Zm v8 fun n10=>Zn c9 (Xb (List.length st) (V.tup [V.agg [V.int n5,
 V.int n6,V.vec .plain (some 3) l7],V.int n10]) st):=by kernel_rfl
theorem zkP(O:Oracle)(n0:Int)(n1:Int)(l2:(List V)):Ze Tryz.prog cfg O 112 [.agg [.int n0, .int n1, .vec .plain (some 3) l2]] []=
 Za (O.call 151 [V.agg [V.int n0,V.int n1,V.vec .plain (some 3) l2],V.int 0,V.fn 152 [] [V.cptr none (V.mp 0)]] [Res.map CT.int CT.bool []]) fun r1=>
 Zx r1.fst (fun v2=>ZM v2 fun c3=>Zn c3 (Za (O.call 153 [V.mp 0] r1.snd) fun r4=>Zx r4.fst (fun v5=>Yp none v5 fun l6=>gd (below 0 (V.vec
 .plain none l6)&&Zt 0 []) (some (Out.ret (V.vec .plain none l6),[]))) fun p7=>none)) fun p8=>none:=by kernel_rfl
theorem zbX(O:Oracle)(q:Nat)(xs:List V)(st:St):Ze Tryz.prog cfg O 123 [.yld q, .cptr none (.vec .plain (some 3) xs)] st=
 Za (O.loop 123 1 [V.int 0,V.cptr none (V.vec .plain (some 3) xs),V.yld q,V.vec .plain (some 3) xs,V.int (↑xs.length:Int)] st) fun r1=>Xk r1.fst
 none (Zn r1.snd.fst (Xb (List.length st) (V.tup []) r1.snd.snd)) (fun i2=>bc (i2.beq 0) (Zn r1.snd.fst (Xb (List.length st) (V.tup []) r1.snd.snd)) none) fun v3=>none:=by kernel_rfl
theorem Qs(O:Oracle)(q:Nat)(i n:Int)(xs ys:List V)(st:St):Zz Tryz.prog cfg O 123 1 [.int i, .cptr none (.vec .plain (some 3) xs), .yld q, .vec .plain (some 3) ys, .int n] st=
 bc (decide (i<n)) (gd (decide (0≤i)&&decide (i<(↑ys.length:Int))) (Zc [CT.int,CT.int,CT.slice (some 3)] (ZP ys i) fun n1 n2 l3=>gd (true&&decide (0≤i)&&
 decide (i≤(↑xs.length:Int))) (gd (decide (i=i)&&(some (V.int i)).isSome) (Zw st q fun x4=>ZX x4 fun f5 k6 vs7 s8 p9=>XZ s8 p9 (Za (O.round q f5 k6 vs7
 [V.vec .plain (some 3) (List.drop 0 (List.take i.toNat xs)),V.agg [V.int n1,V.int n2,V.vec .plain (some 3) l3]] st) fun r10=>bc (!r10.fst) (some (Ex.ret,[],r10.snd)) (O.2
 123 1 [V.int (IntKind.i64.wrap (i+1)),V.cptr none (V.vec .plain (some 3) xs),V.yld q,V.vec .plain (some 3) ys,V.int n] r10.snd)) none fun i11=>
 none)))) (some (Ex.exit 0,[],st)):=by kernel_rfl
theorem zkQ(O:Oracle)(i k h k2 h2 n:Int)(b:Bool)(xs ys th:List V)(st:St):Ze Tryz.prog cfg O 125 [.int i, .agg [.int k, .int h, .vec .plain (some 3) xs], .cptr none (.bool b), .cptr (some 3) (.agg [.int k2, .int h2, .vec .plain (some 3) ys]), .cptr none (.vec .plain (some 3) th), .cptr none (.int n)] st=
 bc b (bc (i==IntKind.i64.wrap ((↑ys.length:Int)-1)) (Za (Zj O 80 [V.agg [V.int k,V.int h,V.vec .plain (some 3) xs],V.vec .plain (some 3) th,V.int
 (IntKind.i64.wrap (n+1))]) fun r1=>ZM r1 fun c2=>Zd c2 fun v3 c4=>Zc [CT.int,CT.int,CT.slice (some 3)] v3 fun n5 n6 l7=>Zd c4 fun v8 c9=>Zm v8
 fun n10=>Zn c9 (Xb (List.length st) (V.tup [V.agg [V.int n5,V.int n6,V.vec .plain (some 3) l7],V.int n10]) st)) (Za (Zj O 80 [V.agg [V.int k,V.int h,
 V.vec .plain (some 3) xs],V.vec .plain (some 3) th,V.int n]) fun r11=>ZM r11 fun c12=>Zd c12 fun v13 c14=>Zc [CT.int,CT.int,CT.slice (some 3)] v13 fun n15
 n16 l17=>Zd c14 fun v18 c19=>Zm v18 fun n20=>Zn c19 (Xb (List.length st) (V.tup [V.agg [V.int n15,V.int n16,V.vec .plain (some 3) l17],V.int n20]) st))) (Za
 (Zj O 80 [V.agg [V.int k,V.int h,V.vec .plain (some 3) xs],V.vec .plain (some 3) th,V.int n]) fun r21=>ZM r21 fun c22=>Zd c22 fun v23 c24=>Zc
 [CT.int,CT.int,CT.slice (some 3)] v23 fun n25 n26 l27=>Zd c24 fun v28 c29=>Zm v28 fun n30=>Zn c29 (Xb (List.length st) (V.tup [V.agg [V.int n25,V.int n26,
 V.vec .plain (some 3) l27],V.int n30]) st)):=by kernel_rfl
theorem zi3(O:Oracle)(k h n:Int)(xs:List V)(es:List (V×V)):Ze Tryz.prog cfg O 152 [.agg [.int k, .int h, .vec .plain (some 3) xs], .int n, .cptr none (.mp 0)] [.map .int .bool es]=
 bc (k==6) (some (Out.ret (V.tup []),[Res.map CT.int CT.bool (QQ es (V.int h) (V.bool true))])) (some (Out.ret (V.tup []),[Res.map CT.int CT.bool es])):=by kernel_rfl
end Go.Proofs.CL
namespace Go.Ama
open Go Go.AM
mutual
noncomputable def X4(θ:List T):T→Int→T×Int
 | .mk k h xs,n=>
  let r:=Xu θ (bindsB k) xs n
  if r.2≠0 then(T0,r.2)
  else if k≠6 then(.mk k h r.1,0)
  else if(θ.length:Int)≤h then(T0,2)
  else if r.1.any (fun x=> !may x)then(T0,4)
  else YK (θ.getD h.toNat T0) r.1 n
noncomputable def Xu(θ:List T)(b:Bool):List T→Int→List T×Int
 |[],_=>([],0)
 |a::l,n=>
  let r:=X4 θ a (if b&&l.isEmpty then n+1 else n)
  if r.2≠0 then([],r.2)
  else
   let q:=Xu θ b l n
   if q.2≠0 then([],q.2)else(r.1::q.1,0)
end
noncomputable def Xv(t:T)(θ:List T)(n:Int):T×Int:=
 if !may t||decide (n<0)||decide (1000<n)||decide (200<θ.length)||θ.any (fun x=> !may x)then(T0,1)
 else
  let r:=X4 θ t n
  if r.2≠0 then(T0,r.2)else if may r.1 then(r.1,0)else(T0,4)
noncomputable def Ys(θ:List T):List T→Int→List T×Int
 |[],_=>([],0)
 |a::l,n=>
  let r:=Xv a θ n
  if r.2≠0 then([],r.2)
  else
   let q:=Ys θ l (n+1)
   if q.2≠0 then([],q.2)else(r.1::q.1,0)
theorem zh7(θ:List T)(b:Bool): ∀(l:List T) (n:Int),(Xu θ b l n).2=0→(Xu θ b l n).1.length=l.length
 |[],_,_=>rfl
 |a::l,n,h=>by
  unfold Xu at h⊢
  dsimp only at h⊢
  by_cases h1:(X4 θ a (if b&&l.isEmpty then n+1 else n)).2≠0
  ·rw[if_pos h1]at h;exact absurd h h1
  ·rw[if_neg h1]at h⊢
   by_cases h2:(Xu θ b l n).2≠0
   ·rw[if_pos h2]at h;exact absurd h h2
   ·rw[if_neg h2]
    simp only[List.length_cons,zh7 θ b l n (by simpa using h2)]
theorem zjN{β:Int}{θ:List T}(hθ: ∀x∈θ,may x=true∧okB β x)(h0:0≤β)(t:T): ∀n:Int,okB β t→ZY (β+t.size*90000000000)→(X4 θ t n).2=0→okB (β+t.size*90000000000) (X4 θ t n).1∧(X4 θ t n).1.size≤4000*t.size:=by
 induction t using T.ind with
 |_ k h xs ih=>
  intro n ht hβ hz
  have hl: ∀(l:List T) (n:Int),(∀a∈l,∀n:Int,okB β a→ZY (β+a.size*90000000000)→(X4 θ a n).2=0→okB (β+a.size*90000000000) (X4 θ a n).1∧(X4 θ a n).1.size≤4000*a.size)→zaI β l→ZY (β+sizes l*90000000000)→ ∀b,(Xu θ b l n).2=0→zaI (β+sizes l*90000000000) (Xu θ b l n).1∧sizes (Xu θ b l n).1≤4000*sizes l:=by
   intro l
   induction l with
   |nil=>intro n _ _ _ b _;exact⟨trivial,by simp[Xu,sizes]⟩
   |cons a l ihl=>
    intro n ih hb hβ b hz
    obtain⟨hb1,hb2⟩:=hb
    simp only[sizes]at hβ⊢
    unfold Xu at hz⊢
    dsimp only at hz⊢
    by_cases h1:(X4 θ a (if b&&l.isEmpty then n+1 else n)).2≠0
    ·rw[if_pos h1]at hz;exact absurd hz h1
    ·rw[if_neg h1]at hz⊢
     by_cases h2:(Xu θ b l n).2≠0
     ·rw[if_pos h2]at hz;exact absurd hz h2
     ·rw[if_neg h2]
      have q1:=ih a (by simp) (if b&&l.isEmpty then n+1 else n) hb1 (ZW hβ (by omega) (by omega)) (Decidable.not_not.1 h1)
      have q2:=ihl n (fun x hx=>ih x (by simp[hx])) hb2 (ZW hβ (by omega) (by omega)) b (by simpa using h2)
      have q3:=Z5 (B:=β+a.size*90000000000) (B':=β+((a.size+sizes l:Nat):Int)*90000000000) (by omega) _ q1.1
      refine⟨⟨q3, ?_⟩, ?_⟩
      ·have:=q2.1
       rw[XQ]at this⊢
       exact fun x hx=>Z5 (by omega) _ (this x hx)
      ·simp only[sizes]
       have:=q1.2
       have:=q2.2
       omega
  obtain⟨⟨b1,b2⟩,b3,b4⟩:=ht
  simp only[T.size]at hβ⊢
  unfold X4 at hz⊢
  dsimp only at hz⊢
  by_cases h1:(Xu θ (bindsB k) xs n).2≠0
  ·rw[if_pos h1]at hz;exact absurd hz h1
  rw[if_neg h1]at hz⊢
  have h1':(Xu θ (bindsB k) xs n).2=0:=by simpa using h1
  have q:=hl xs n ih b4 (ZW hβ (by omega) (by omega)) (bindsB k) h1'
  have hlen:=zh7 θ (bindsB k) xs n h1'
  by_cases h6:k≠6
  ·rw[if_pos h6]
   refine⟨⟨⟨b1,by omega⟩,fun hk e=>b3 hk ?_, ?_⟩, ?_⟩
   ·rw[e]at hlen;exact List.length_eq_zero_iff.1 hlen.symm
   ·have:=q.1
    rw[XQ]at this⊢
    exact fun x hx=>Z5 (by omega) _ (this x hx)
   ·simp only[T.size]
    have:=q.2
    omega
  ·rw[if_neg h6]at hz⊢
   by_cases h2:(θ.length:Int)≤h
   ·rw[if_pos h2]at hz;cases hz
   ·rw[if_neg h2]at hz⊢
    by_cases h3:((Xu θ (bindsB k) xs n).1.any fun x=> !may x)=true
    ·rw[if_pos h3]at hz;cases hz
    ·rw[if_neg h3]at hz⊢
     have hlt:h.toNat<θ.length:=by omega
     have hm:θ.getD h.toNat T0∈θ:=by rw[List.getD_eq_getElem?_getD,List.getElem?_eq_getElem hlt];exact List.getElem_mem hlt
     have hbase:ZY (β+sizes xs*90000000000):=ZW hβ (by omega) (by omega)
     obtain⟨u1,u2,_⟩:=zcs (t:=θ.getD h.toNat T0) (l:=(Xu θ (bindsB k) xs n).1) (s:=n) hbase (fun _=>Z5 (by omega) _ (hθ _ hm).2) (fun _=>(XQ _ _).1 q.1) hz
     refine⟨Z5 (by omega) _ u2, ?_⟩
     have:=Y4 u1
     omega
theorem ztr{β:Int}{θ:List T}(hθ: ∀x∈θ,may x=true∧okB β x)(h0:0≤β)(l:List T)(n:Int)(b:Bool):zaI β l→ZY (β+sizes l*90000000000)→(Xu θ b l n).2=0→zaI (β+sizes l*90000000000) (Xu θ b l n).1∧sizes (Xu θ b l n).1≤4000*sizes l:=by
 induction l with
 |nil=>intro _ _ _;exact⟨trivial,by simp[Xu,sizes]⟩
 |cons a l ih=>
  intro hb hβ hz
  obtain⟨hb1,hb2⟩:=hb
  simp only[sizes]at hβ⊢
  unfold Xu at hz⊢
  dsimp only at hz⊢
  by_cases h1:(X4 θ a (if b&&l.isEmpty then n+1 else n)).2≠0
  ·rw[if_pos h1]at hz;exact absurd hz h1
  ·rw[if_neg h1]at hz⊢
   by_cases h2:(Xu θ b l n).2≠0
   ·rw[if_pos h2]at hz;exact absurd hz h2
   ·rw[if_neg h2]
    have q1:=zjN hθ h0 a (if b&&l.isEmpty then n+1 else n) hb1 (ZW hβ (by omega) (by omega)) (Decidable.not_not.1 h1)
    have q2:=ih hb2 (ZW hβ (by omega) (by omega)) (Decidable.not_not.1 h2)
    have q3:=Z5 (B:=β+a.size*90000000000) (B':=β+((a.size+sizes l:Nat):Int)*90000000000) (by omega) _ q1.1
    refine⟨⟨q3, ?_⟩, ?_⟩
    ·have:=q2.1
     rw[XQ]at this⊢
     exact fun x hx=>Z5 (by omega) _ (this x hx)
    ·simp only[sizes]
     have:=q1.2
     have:=q2.2
     omega
theorem zjO{β:Int}{θ:List T}(h0:0≤β){t:T}{n:Int}(hθ: ∀x∈θ,may x=true→okB β x)(ht:may t=true→okB β t)(hβ:ZY (β+360000000000000))(hz:(Xv t θ n).2=0):
  may (Xv t θ n).1=true∧okB (β+360000000000000) (Xv t θ n).1∧(X4 θ t n).2=0∧(Xv t θ n).1=(X4 θ t n).1∧may t=true∧0≤n∧n≤1000∧θ.length≤200∧ ∀x∈θ,may x=true:=by
 unfold Xv at hz⊢
 split at hz
 ·cases hz
 ·rename_i hc
  rw[if_neg hc]
  simp only[Bool.not_eq_true,Bool.or_eq_false_iff,Bool.not_eq_false',decide_eq_false_iff_not,List.any_eq_false,Bool.not_eq_true']at hc
  obtain⟨⟨⟨⟨c1,c2⟩,c3⟩,c4⟩,c5⟩:=hc
  have c5': ∀x∈θ,may x=true:=fun x hx=>by simpa using c5 x hx
  dsimp only at hz⊢
  by_cases h1:(X4 θ t n).2≠0
  ·rw[if_pos h1]at hz;exact absurd hz h1
  ·rw[if_neg h1]at hz⊢
   by_cases h2:may (X4 θ t n).1=true
   ·rw[if_pos h2]
    have h1':(X4 θ t n).2=0:=by simpa using h1
    have hsz:=Y4 c1
    obtain⟨q,_⟩:=zjN (fun x hx=>⟨c5' x hx,hθ x hx (c5' x hx)⟩) h0 t n (ht c1) (ZW hβ (by omega) (by omega)) h1'
    exact⟨h2,Z5 (by omega) _ q,h1',rfl,c1,by omega,by omega,by omega,c5'⟩
   ·rw[if_neg h2]at hz;cases hz
theorem zii(θ:List T): ∀(l:List T) (n:Int),(Ys θ l n).2=0→(Ys θ l n).1.length=l.length
 |[],_,_=>rfl
 |a::l,n,h=>by
  unfold Ys at h⊢
  dsimp only at h⊢
  by_cases h1:(Xv a θ n).2≠0
  ·rw[if_pos h1]at h;exact absurd h h1
  ·rw[if_neg h1]at h⊢
   by_cases h2:(Ys θ l (n+1)).2≠0
   ·rw[if_pos h2]at h;exact absurd h h2
   ·rw[if_neg h2]
    simp only[List.length_cons,zii θ l (n+1) (by simpa using h2)]
theorem zjP{β:Int}{θ:List T}(h0:0≤β)(hθ: ∀x∈θ,may x=true→okB β x)(hβ:ZY (β+360000000000000)): ∀(l:List T) (n:Int),(∀x∈l,may x=true→okB β x)→(Ys θ l n).2=0→ ∀x∈(Ys θ l n).1,may x=true∧okB (β+360000000000000) x
 |[],_,_,_,x,hx=>by cases hx
 |a::l,n,hl,h,x,hx=>by
  unfold Ys at h hx
  dsimp only at h hx
  by_cases h1:(Xv a θ n).2≠0
  ·rw[if_pos h1]at h;exact absurd h h1
  ·rw[if_neg h1]at h hx
   by_cases h2:(Ys θ l (n+1)).2≠0
   ·rw[if_pos h2]at h;exact absurd h h2
   ·rw[if_neg h2]at hx
    rcases List.mem_cons.1 hx with rfl|hx
    ·obtain⟨q1,q2,_⟩:=zjO h0 hθ (hl a (by simp)) hβ (by simpa using h1)
     exact⟨q1,q2⟩
    ·exact zjP h0 hθ hβ l (n+1) (fun y hy=>hl y (by simp[hy])) (by simpa using h2) x hx
def zcu(t:T)(ms:List M):Bool:=
 if t.k=6 then decide (t.h<ms.length)&&(ms.getD t.h.toNat ⟨[],T0,false⟩).param else decide (t.k=4)&&t.args.isEmpty
noncomputable def zmK(sig:List D)(ms:List M)(ext:List T)(d:M)(over:List T)(t:T):Int:=
 let c:=Ys over d.ctx 0
 if c.2≠0 then c.2
 else
  let a:=Xv d.t over d.ctx.length
  let e:=if a.2≠0 then a.2 else QB sig ms (ext++c.1) t a.1
  if e=0∧d.param=true∧zcu t ms=false then 3 else e
noncomputable def Qf(sig:List D)(ms:List M)(ext:List T)(δ:List M)(θ:List T):List Int:=
 (List.range θ.length).map fun i=>zmK sig ms ext (δ.getD i ⟨[],T0,false⟩) (θ.take i) (θ.getD i T0)
noncomputable def zts(sig:List D)(ms:List M)(ext:List T)(δ:List M)(θ:List T):Int:=
 if 40<δ.length then 4 else if θ.length≠δ.length then 3 else(ZO 0 (Qf sig ms ext δ θ)).2
def Xo:List (T×Int)→List T×Int
 |[]=>([],0)
 |r::l=>if r.2≠0 then([],r.2)else if(Xo l).2≠0 then([],(Xo l).2)else(r.1::(Xo l).1,0)
theorem zoC{r:T×Int}{l:List (T×Int)}(h:r.2≠0):Xo (r::l)=([],r.2):=by unfold Xo;rw[if_pos h]
theorem zlB{r:T×Int}{l:List (T×Int)}(h:r.2=0)(h2:(Xo l).2≠0):Xo (r::l)=([],(Xo l).2):=by
 conv=>lhs;unfold Xo
 rw[if_neg (by simpa using h),if_pos h2]
theorem zoD{r:T×Int}{l:List (T×Int)}(h:r.2=0)(h2:(Xo l).2=0):Xo (r::l)=(r.1::(Xo l).1,0):=by
 conv=>lhs;unfold Xo
 rw[if_neg (by simpa using h),if_neg (by simpa using h2)]
theorem zrT: ∀{l:List (T×Int)},(Xo l).2≠0→(Xo l).1=[]
 |[],h=>absurd rfl h
 |r::l,h=>by
  by_cases h1:r.2=0
  ·by_cases h2:(Xo l).2=0
   ·rw[zoD h1 h2]at h;exact absurd rfl h
   ·rw[zlB h1 h2]
  ·rw[zoC h1]
noncomputable def zbq(θ:List T)(b:Bool):List T→Int→List (T×Int)
 |[],_=> []
 |a::l,n=>X4 θ a (if b&&l.isEmpty then n+1 else n)::zbq θ b l n
theorem zjQ(θ:List T)(b:Bool): ∀(l:List T) (n:Int),Xu θ b l n=Xo (zbq θ b l n)
 |[],_=>rfl
 |a::l,n=>by
  unfold Xu zbq Xo
  dsimp only
  rw[zjQ θ b l n]
theorem QZ(θ:List T)(b:Bool): ∀(l:List T) (n:Int),(zbq θ b l n).length=l.length
 |[],_=>rfl
 |a::l,n=>by simp[zbq,QZ θ b l n]
theorem zlC(θ:List T)(b:Bool): ∀(l:List T) (n:Int) (i:Nat) (h:i<l.length),(zbq θ b l n)[i]'(by rw[QZ];exact h)=X4 θ l[i] (if b&&decide (i+1=l.length)then n+1 else n)
 |a::l,n,0,_=>by
  simp only[zbq,List.getElem_cons_zero,List.length_cons]
  cases l with
  |nil=>simp
  |cons c l=>simp
 |a::l,n,i+1,h=>by
  simp only[zbq,List.getElem_cons_succ]
  have hl:i<l.length:=by simpa using h
  rw[zlC θ b l n i hl]
  simp
noncomputable def zdY(θ:List T):List T→Int→List (T×Int)
 |[],_=> []
 |a::l,n=>Xv a θ n::zdY θ l (n+1)
theorem zgr(θ:List T): ∀(l:List T) (n:Int),Ys θ l n=Xo (zdY θ l n)
 |[],_=>rfl
 |a::l,n=>by
  unfold Ys zdY Xo
  dsimp only
  rw[zgr θ l (n+1)]
theorem J7(θ:List T): ∀(l:List T) (n:Int),(zdY θ l n).length=l.length
 |[],_=>rfl
 |a::l,n=>by simp[zdY,J7 θ l (n+1)]
theorem zoE(θ:List T): ∀(l:List T) (n:Int) (i:Nat) (h:i<l.length),(zdY θ l n)[i]'(by rw[J7];exact h)=Xv l[i] θ (n+i)
 |a::l,n,0,_=>by simp[zdY]
 |a::l,n,i+1,h=>by
  simp only[zdY,List.getElem_cons_succ]
  have hl:i<l.length:=by simpa using h
  rw[zoE θ l (n+1) i hl]
  congr 1
  omega
end Go.Ama
namespace Go.Proofs.CL
open Go Go.AM Go.Ama
set_option maxRecDepth 100000
theorem zjR{g:Nat}{a b:List V}(hp:cfg.pure g=false)(xs:List T)(rs:List (T×Int))(hlen:rs.length=xs.length)(hs:xs.length≤1099511627776)(st:St)
  (hg: ∀(i:Nat) (h:i<xs.length),W.call g (a++[.int (i:Int),enc xs[i]]++b) st=some (.ret (.tup [enc (rs[i]'(by omega)).1, .int (rs[i]'(by omega)).2]),st)):
  W.call 98 [.vec .plain (some 3) (Zf xs), .fn g a b] st=some (.ret (.tup [.vec .plain (some 3) (Zf (Xo rs).1), .int (Xo rs).2]),st):=by
 have hL: ∀(m i:Nat) (acc:List T),xs.length-i=m→i≤xs.length→acc.length=i→
   W.loop 98 3 [.int (i:Int), .vec .grow (some 3) (Zf acc), .fn g a b, .vec .plain (some 3) (Zf xs), .int xs.length] st=
    if(Xo (rs.drop i)).2=0 then some (.exit 0,[.vec .grow (some 3) (Zf (acc++(Xo (rs.drop i)).1))],st)else some (.ret,[.vec .plain (some 3) [], .int (Xo (rs.drop i)).2],st):=by
  intro m
  induction m with
  |zero=>
   intro i acc hm hi ha
   have:i=xs.length:=by omega
   subst this
   rw[L,Jv,←hlen,List.drop_length]
   simp[Xo]
  |succ m ih=>
   intro i acc hm hi ha
   have hlt:i<xs.length:=by omega
   have hlt':(i:Int)<xs.length:=by omega
   have hd:rs.drop i=rs[i]::rs.drop (i+1):=List.drop_eq_getElem_cons (by omega)
   have hw:IntKind.i64.wrap ((i:Int)+1)=((i+1:Nat):Int):=by rw[Zu ⟨by omega,by omega⟩];omega
   have h1:=hg i hlt
   have hr:roomFor Tryz.prog 27 (acc.length+1)=true:=zbU (by omega)
   have ihh:=ih (i+1) (acc++[rs[i].1]) (by omega) (by omega) (by simp[ha])
   have e1:Zf acc++[enc rs[i].1]=Zf (acc++[rs[i].1]):=by simp[QX]
   rw[L,Jv,hw,ZF hlt,Zi,hp]
   simp only[hlt',Int.natCast_nonneg,decide_true,Z4,Z2,Bool.and_self,Z6,zhv,←Zb,h1,Zg,ZV,Xx,Yk,ZB,Yv]
   by_cases he:rs[i].2=0
   ·simp only[he,znU,Zi,List.length_singleton,hr,Bool.and_self,Z6,e1,ihh]
    by_cases h2:(Xo (rs.drop (i+1))).2=0
    ·have e:Xo (rs.drop i)=(rs[i].1::(Xo (rs.drop (i+1))).1,0):=by rw[hd];exact zoD he h2
     simp[h2,e]
    ·have e:Xo (rs.drop i)=([],(Xo (rs.drop (i+1))).2):=by rw[hd];exact zlB he h2
     simp[h2,e]
   ·have e:Xo (rs.drop i)=([],rs[i].2):=by rw[hd];exact zoC he
    simp[he,e]
 have h:=hL _ 0 [] rfl (Nat.zero_le _) rfl
 simp only[Int.natCast_zero,List.drop_zero,QW,List.nil_append]at h
 rw[C,zdX,Zi,h]
 by_cases he:(Xo rs).2=0
 ·rw[if_pos he,he]
  simp[Z3]
 ·rw[if_neg he,zrT he]
  simp[Z3]
theorem ztt(t:T)(h:t.size≤1099511627776):Zj W 79 [enc t]=some (.bool (!may t)):=by
 have hm:=(QL t h).p
 have h':Ev 79 [enc t] (.bool (!may t)):=by
  unfold Ev
  rw[C,Zb t,zqj,←Zb,hm]
  simp
 exact h'.p
theorem zrU:cfg.pure 79=true:=by kernel_rfl
theorem zoF:cfg.pure 125=false:=by kernel_rfl
theorem zqk:cfg.pure 99=false:=by kernel_rfl
theorem zoG(xs:List T)(hs:sizes xs≤1099511627776)(st:St):W.call 73 [.vec .plain (some 3) (Zf xs), .fn 79 [] []] st=some (.ret (.bool (xs.any fun t=> !may t)),st):=
 zbV (a:=[]) (b:=[]) zrU (p:=fun t=> !may t) xs (by have:=Zo xs;omega) (fun t ht=>ztt t (by have:=size_le ht;omega)) st
theorem zrV{β:Int}{θ:List T}(hθ: ∀x∈θ,may x=true∧okB β x)(h0:0≤β)(hl:θ.length≤1048576): ∀(N:Nat) (t:T) (n:Nat),t.size≤N→n+t.size≤100000→okB β t→ZY (β+t.size*90000000000)→Ev 80 [enc t, .vec .plain (some 3) (Zf θ), .int (n:Int)] (.tup [enc (X4 θ t n).1, .int (X4 θ t n).2]):=by
 intro N
 induction N with
 |zero=>intro t n h;have:=XP t;omega
 |succ N ih=>
  intro t n hN hs ht hβ
  obtain⟨k,h,xs⟩:=t
  obtain⟨⟨b1,b2⟩,b3,b4⟩:=ht
  simp only[T.size]at hN hs hβ
  have hxl:=Zo xs
  have hh: ∀(m:Nat) (a:T),a∈xs→m≤n+1→Zj W 80 [enc a, .vec .plain (some 3) (Zf θ), .int (m:Int)]=some (.tup [enc (X4 θ a m).1, .int (X4 θ a m).2]):=by
   intro m a ha hm
   have hsz:=size_le ha
   exact(ih a m (by omega) (by omega) ((XQ _ _).1 b4 a ha) (ZW hβ (by omega) (by omega))).p
  have h1: ∀(i:Nat) (hi:i<xs.length),W.call 125 ([]++[.int (i:Int),enc xs[i]]++[.cptr none (.bool (bindsB k)), .cptr (some 3) (.agg [.int k, .int h, .vec .plain (some 3) (Zf xs)]), .cptr none (.vec .plain (some 3) (Zf θ)), .cptr none (.int (n:Int))]) []=
    some (.ret (.tup [enc ((zbq θ (bindsB k) xs n)[i]'(by rw[QZ];exact hi)).1, .int ((zbq θ (bindsB k) xs n)[i]'(by rw[QZ];exact hi)).2]),[]):=by
   intro i hi
   have hp0:=hh n xs[i] (List.getElem_mem hi) (by omega)
   have hp1:=hh (n+1) xs[i] (List.getElem_mem hi) (by omega)
   have hw:IntKind.i64.wrap ((xs.length:Int)-1)=(xs.length:Int)-1:=Zu ⟨by omega,by omega⟩
   have hw2:IntKind.i64.wrap ((n:Int)+1)=(n:Int)+1:=Zu ⟨by omega,by omega⟩
   simp only[Int.natCast_add,Int.natCast_one]at hp1
   rw[zlC θ _ xs n i hi]
   simp only[List.nil_append,List.cons_append]
   rw[C,Zb xs[i],zkQ,←Zb,Zi,hw,hw2]
   cases hb:bindsB k with
   |false=>
    simp[hp0,Z3,←Zb]
   |true=>
    by_cases hl:i+1=xs.length
    ·have:((i:Int)==(xs.length:Int)-1)=true:=by simp;omega
     simp[this,hl,hp1,Z3,←Zb]
    ·have:((i:Int)==(xs.length:Int)-1)=false:=by simp;omega
     simp[this,hl,hp0,Z3,←Zb]
  have h2:=zjR (a:=[]) zoF xs (zbq θ (bindsB k) xs n) (QZ θ _ xs n) (by omega) [] h1
  rw[←zjQ]at h2
  have h2':W.call 98 [.vec .plain (some 3) (Zf xs), .fn 125 [] [.cptr none (.bool (bindsB k)), .cptr (some 3) (.agg [.int k, .int h, .vec .plain (some 3) (Zf xs)]), .cptr none (.vec .plain (some 3) (Zf θ)), .cptr none (.int (n:Int))]] []=some (.ret (.tup [.vec .plain (some 3) (Zf (Xu θ (bindsB k) xs n).1), .int (Xu θ (bindsB k) xs n).2]),[]):=h2
  unfold Ev
  have hC:W.call 80 [enc (.mk k h xs), .vec .plain (some 3) (Zf θ), .int (n:Int)] []=Ze Tryz.prog cfg W 80 [.agg [.int k, .int h, .vec .plain (some 3) (Zf xs)], .vec .plain (some 3) (Zf θ), .int (n:Int)] []:=C ..
  have hlen:=zh7 θ (bindsB k) xs n
  have hok:=ztr hθ h0 xs n (bindsB k) b4 (ZW hβ (by omega) (by omega))
  have hfl:X4 θ (.mk k h xs) n=(if(Xu θ (bindsB k) xs n).2≠0 then(T0,(Xu θ (bindsB k) xs n).2)else if k≠6 then(.mk k h (Xu θ (bindsB k) xs n).1,0)else if(θ.length:Int)≤h then(T0,2)else if(Xu θ (bindsB k) xs n).1.any (fun x=> !may x)then(T0,4)else YK (θ.getD h.toNat T0) (Xu θ (bindsB k) xs n).1 n):=by
   conv=>lhs;unfold X4
  generalize hfx:Xu θ (bindsB k) xs n=r at*
  have hbn:(bc (k==1) (W.call 98 [.vec .plain (some 3) (Zf xs), .fn 125 [] [.cptr none (.bool true), .cptr (some 3) (.agg [.int k, .int h, .vec .plain (some 3) (Zf xs)]), .cptr none (.vec .plain (some 3) (Zf θ)), .cptr none (.int (n:Int))]] []) (W.call 98 [.vec .plain (some 3) (Zf xs), .fn 125 [] [.cptr none (.bool (k==3)), .cptr (some 3) (.agg [.int k, .int h, .vec .plain (some 3) (Zf xs)]), .cptr none (.vec .plain (some 3) (Zf θ)), .cptr none (.int (n:Int))]] []))=some (.ret (.tup [.vec .plain (some 3) (Zf r.1), .int r.2]),[]):=by
   rw[←h2']
   unfold bindsB
   by_cases h1:k=1
   ·subst h1;rfl
   ·have e1:(k==1)=false:=by simpa using h1
    have e3:(k==3)=decide (k=3):=rfl
    simp[e1,e3,h1]
  have hc1:k=1→W.call 98 [.vec .plain (some 3) (Zf xs), .fn 125 [] [.cptr none (.bool true), .cptr (some 3) (.agg [.int k, .int h, .vec .plain (some 3) (Zf xs)]), .cptr none (.vec .plain (some 3) (Zf θ)), .cptr none (.int (n:Int))]] []=some (.ret (.tup [.vec .plain (some 3) (Zf r.1), .int r.2]),[]):=by
   intro hk
   rw[show(k==1)=true by simpa using hk,Z4]at hbn
   exact hbn
  have hc2:k≠1→W.call 98 [.vec .plain (some 3) (Zf xs), .fn 125 [] [.cptr none (.bool (k==3)), .cptr (some 3) (.agg [.int k, .int h, .vec .plain (some 3) (Zf xs)]), .cptr none (.vec .plain (some 3) (Zf θ)), .cptr none (.int (n:Int))]] []=some (.ret (.tup [.vec .plain (some 3) (Zf r.1), .int r.2]),[]):=by
   intro hk
   rw[show(k==1)=false by simpa using hk,Z2]at hbn
   exact hbn
  rw[hC,zoB,hfl,Zi]
  clear hbn h2 h2' hfl hC
  have hbase:ZY (β+sizes xs*90000000000):=ZW hβ (by omega) (by omega)
  have hany:=fun(hz:r.2=0)=>zoG r.1 (by have:=(hok hz).2;omega) []
  have hApp:r.2=0→0≤h→(hlt:h<θ.length)→Zj W 126 [enc (θ[h.toNat]'(by omega)), .agg [.vec .plain (some 3) (Zf r.1), .int (n:Int)]]=some (.tup [enc (YK (θ[h.toNat]'(by omega)) r.1 n).1, .int (YK (θ[h.toNat]'(by omega)) r.1 n).2]):=by
   intro hz hh0 hlt
   have hm:=hθ _ (List.getElem_mem (show h.toNat<θ.length by omega))
   have:=Y4 hm.1
   exact(zbA hbase (t:=θ[h.toNat]'(by omega)) (l:=r.1) (s:=n) (by omega) (by have:=(hok hz).2;omega) (fun _=>Z5 (by omega) _ hm.2) (fun _=>(XQ _ _).1 (hok hz).1)).p
  have hget:(hlt:h<θ.length)→ZP (Zf θ) h=enc (θ[h.toNat]'(by omega))∧θ.getD h.toNat T0=θ[h.toNat]'(by omega):=by
   intro hlt
   have hn:h.toNat<θ.length:=by omega
   have hii:((h.toNat:Nat):Int)=h:=by omega
   refine⟨by have:=ZF hn;rwa [hii]at this,by simp[List.getD_eq_getElem?_getD,hn]⟩
  by_cases hk1:k=1
  ·rw[show(k==1)=true by simpa using hk1,Z4,hc1 hk1]
   subst hk1
   by_cases hz:r.2=0
   ·simp[hz,below,Zk,Zt,enc]
   ·simp[hz,Zb T0]
  ·rw[show(k==1)=false by simpa using hk1,Z2,hc2 hk1]
   by_cases hz:r.2=0
   ·by_cases h6:k=6
    ·by_cases hlt:h<θ.length
     ·obtain⟨g1,g2⟩:=hget hlt
      have hge: ¬(θ.length:Int)≤h:=by omega
      have hge2: ¬h≥(θ.length:Int):=by omega
      cases ha:r.1.any (fun t=> !may t)with
      |true=>simp[hz,h6,hge,hge2,hany hz,ha,Zb T0]
      |false=>simp[hz,h6,hge,hge2,hany hz,ha,hlt,b1,g1,g2,hApp hz b1 hlt,←Zb,below,Zk,Zt]
     ·have hge:(θ.length:Int)≤h:=by omega
      have hge2:h≥(θ.length:Int):=by omega
      simp[hz,h6,hge,hge2,Zb T0]
    ·simp[hz,h6,below,Zk,Zt,enc]
   ·simp[hz,Zb T0]
theorem ze0{β:Int}(h0:0≤β)(hβ:ZY (β+360000000000000)){t:T}{θ:List T}{n:Int}(hs:t.size≤1099511627776)(hl:sizes θ≤1099511627776)(hθ: ∀x∈θ,may x=true→okB β x)(ht:may t=true→okB β t):
  Ev 26 [enc t, .vec .plain (some 3) (Zf θ), .int n] (.tup [enc (Xv t θ n).1, .int (Xv t θ n).2]):=by
 have o1:=ztt t hs
 have o2:=zoG θ hl []
 unfold Ev Xv
 rw[C,Zb t,zoA,←Zb t,o1,Zi]
 cases hm:may t with
 |false=>simp[Zb T0]
 |true=>
  by_cases c1:n<0
  ·simp[c1,Zb T0]
  by_cases c2:1000<n
  ·simp[c1,c2,Zb T0]
  by_cases c3:200<θ.length
  ·have:(θ.length:Int)>200:=by omega
   simp[c1,c2,c3,this,Zb T0]
  have c3': ¬(θ.length:Int)>200:=by omega
  cases c4:θ.any (fun t=> !may t)with
  |true=>simp[c1,c2,c3,c3',o2,c4,Zb T0]
  |false=>
   have hall: ∀x∈θ,may x=true:=fun x hx=>by have:=List.any_eq_false.1 c4 x hx;simpa using this
   have hsz:=Y4 hm
   obtain⟨m,rfl⟩:=Int.eq_ofNat_of_zero_le (show 0≤n by omega)
   have hf:=(zrV (β:=β) (fun x hx=>⟨hall x hx,hθ x hx (hall x hx)⟩) h0 (by omega) t.size t m (Nat.le_refl _) (by omega) (ht hm) (ZW hβ (by omega) (by omega))).p
   have hr:(X4 θ t m).2=0→(X4 θ t m).1.size≤4000*t.size:=fun hz=>(zjN (fun x hx=>⟨hall x hx,hθ x hx (hall x hx)⟩) h0 t m (ht hm) (ZW hβ (by omega) (by omega)) hz).2
   by_cases hz:(X4 θ t m).2=0
   ·have o3:=ztt (X4 θ t m).1 (by have:=hr hz;omega)
    cases hmm:may (X4 θ t m).1<;>simp[c1,c2,c3,c3',o2,c4,hf,hz,o3,hmm,Zb T0,←Zb,below,Zk,Zt]
   ·simp[c1,c2,c3,c3',o2,c4,hf,hz,Zb T0]
theorem zoH{β:Int}(h0:0≤β)(hβ:ZY (β+360000000000000)){l θ:List T}{n:Nat}(hs:sizes l≤1099511627776)(hn:n≤1099511627776)(hl:sizes θ≤1099511627776)(hθ: ∀x∈θ,may x=true→okB β x)(ht: ∀x∈l,may x=true→okB β x):
  Ev 33 [.vec .plain (some 3) (Zf l), .vec .plain (some 3) (Zf θ), .int (n:Int)] (.tup [.vec .plain (some 3) (Zf (Ys θ l n).1), .int (Ys θ l n).2]):=by
 have hll:=Zo l
 have h1: ∀(i:Nat) (hi:i<l.length),W.call 99 ([]++[.int (i:Int),enc l[i]]++[.cptr none (.vec .plain (some 3) (Zf θ)), .cptr none (.int (n:Int))]) []=
   some (.ret (.tup [enc ((zdY θ l n)[i]'(by rw[J7];exact hi)).1, .int ((zdY θ l n)[i]'(by rw[J7];exact hi)).2]),[]):=by
  intro i hi
  have hsz:=size_le (List.getElem_mem hi)
  have hf:=(ze0 h0 hβ (t:=l[i]) (θ:=θ) (n:=(n:Int)+i) (by omega) hl hθ (ht _ (List.getElem_mem hi))).p
  have hw:IntKind.i64.wrap ((n:Int)+i)=(n:Int)+i:=Zu ⟨by omega,by omega⟩
  rw[zoE θ l n i hi]
  simp only[List.nil_append,List.cons_append]
  rw[C,Zb l[i],zmJ,←Zb,hw,hf]
  simp[Z3,←Zb]
 have h2:=zjR (a:=[]) zqk l (zdY θ l n) (J7 θ l n) (by omega) [] h1
 rw[←zgr]at h2
 unfold Ev
 rw[C,zqi,h2]
 simp[below,Zk,Zt]
end Go.Proofs.CL
namespace Go.Ama
open Go Go.AM
def QM:List Int→Int
 |[]=>0
 |e::l=>if e≠0 then e else QM l
def zbB(b:Bool)(e:Int):Int:=if b then 0 else e
def zcv(schema ctx:List T):Bool:=ctx.all fun a=>schema.any fun s=>s.same a
abbrev M0:M:=⟨[],T0,false⟩
noncomputable def XH(ext ctx:List T)(a:T)(θ:List T):M×Int:=
 let l:=Ys θ ctx 0
 if l.2≠0 then(M0,l.2)
 else
  let t:=Xv a θ ctx.length
  if t.2≠0 then(M0,t.2)else(⟨ext++l.1,t.1,false⟩,0)
noncomputable def zcW(sig:List D)(over:List M)(ext ctx:List T)(a:T)(θ:List T)(t:T):Int:=
 let i:=XH ext ctx a θ
 if i.2≠0 then i.2 else QB sig over i.1.ctx t i.1.t
noncomputable def ze1(sig:List D)(over:List M)(from_ f:Fun1)(c:Cal):Int:=
 QM [zbB (decide (c.ext.length≤40)) 4,zbB (zcv f.schema c.ext&&zcv f.schema from_.schema) 9,zts sig over c.ext f.delta c.theta,zcW sig over c.ext f.psi f.a c.theta c.arg]
noncomputable def YL(sig:List D)(over:List M)(from_ f:Fun1)(c:Cal):M×Int:=
 if ze1 sig over from_ f c≠0 then(M0,ze1 sig over from_ f c)else XH c.ext f.phi f.b c.theta
def ztu(h:Int)(s:List Int):List Int:=if h∈s then s else s++[h]
def zgs(_:Int)(t:T)(s:List Int):List Int:=if t.k=6 then ztu t.h s else s
def Xs(t:T):List Int:=Q7 (Jj zgs t 0 [])
def zgt(p:T)(n:Int)(many:Nat):Int:=if(List.range many).all (fun i=>decide (((i:Nat):Int)∈Xs p))then zbB (zl9 p n) 5 else 5
noncomputable def YC(sig:List D)(funs:List Fun1)(f:Fun1):List Cal→List M→List M×Int
 |[],over=>(over,0)
 |x::l,over=>
  if h:0≤x.f∧x.f<funs.length then
   let m:=YL sig over f (funs[x.f.toNat]'(by omega)) x
   if m.2≠0 then(over,m.2)else YC sig funs f l (over++[m.1])
  else(over,2)
noncomputable def zak(sig:List D)(funs:List Fun1)(no:Int)(c:Cl):Int:=
 if h:0≤no∧no<funs.length then
  let f:=funs[no.toNat]'(by omega)
  let r:=YC sig funs f c.calls c.metas
  QM [zbB (decide (c.calls.length≤40)) 4,(zfy sig c.metas).2,zts sig c.metas [] f.delta c.theta,zcW sig c.metas [] f.psi f.a c.theta c.p,zgt c.p f.psi.length c.metas.length,r.2,zcW sig r.1 [] f.phi f.b c.theta c.r]
 else 2
structure Hd(x:T):Prop where
 size:x.size≤4000
 ok:may x=true→okB 1000000000000000 x
structure Lo(x:T):Prop where
 size:x.size≤1000
 ok:may x=true→okB 1099511627776 x
theorem Lo.hd{x:T}(h:Lo x):Hd x:=⟨by have:=h.size;omega,fun m=>Z5 (by omega) _ (h.ok m)⟩
structure Los(n:Nat)(l:List T):Prop where
 len:l.length≤n
 all: ∀x∈l,Lo x
structure Hds(n:Nat)(l:List T):Prop where
 len:l.length≤n
 all: ∀x∈l,Hd x
theorem Los.hds{n:Nat}{l:List T}(h:Los n l):Hds n l:=⟨h.len,fun x hx=>(h.all x hx).hd⟩
structure LoM(m:M):Prop where
 ctx:Los 60 m.ctx
 t:Lo m.t
structure HdM(m:M):Prop where
 ctx:Hds 120 m.ctx
 t:Hd m.t
theorem LoM.hd{m:M}(h:LoM m):HdM m:=⟨⟨by have:=h.ctx.len;omega,fun x hx=>(h.ctx.all x hx).hd⟩,h.t.hd⟩
theorem Hds.szs{n:Nat}{l:List T}(h:Hds n l):sizes l≤n*4000:=by
 have: ∀l:List T,(∀x∈l,Hd x)→sizes l≤l.length*4000:=by
  intro l
  induction l with
  |nil=>intro _;simp[sizes]
  |cons a l ih=>intro h;have:=(h a (by simp)).size;have:=ih fun x hx=>h x (by simp[hx]);rw[sizes,List.length_cons,Nat.add_mul];omega
 exact Nat.le_trans (this l h.all) (Nat.mul_le_mul_right 4000 h.len)
theorem Hds.app{n m:Nat}{a b:List T}(h:Hds n a)(g:Hds m b):Hds (n+m) (a++b):=
 ⟨by have:=h.len;have:=g.len;simp;omega,fun x hx=>(List.mem_append.1 hx).elim (h.all x) (g.all x)⟩
theorem Hds.mono{n m:Nat}{a:List T}(h:Hds n a)(hn:n≤m):Hds m a:=⟨by have:=h.len;omega,h.all⟩
theorem Hds.nil(n:Nat):Hds n []:=⟨Nat.zero_le _,fun x hx=>by cases hx⟩
theorem Hds.take{n:Nat}{l:List T}(h:Hds n l)(i:Nat):Hds n (l.take i):=⟨by have:=h.len;simp;omega,fun x hx=>h.all x (List.mem_of_mem_take hx)⟩
theorem ztv{sig:List D}{ms:List M}{ctx l:List T}(hs:sig.length≤1000∧ ∀d∈sig,Hd d.t)(hm:ms.length≤1000∧ ∀m∈ms,HdM m)(hc:Hds 200 ctx)(hl:Hds 200 l):In sig ms ctx l where
 s d hd:=⟨by have:=(hs.2 d hd).size;omega,fun m=>Z5 (by omega) _ ((hs.2 d hd).ok m)⟩
 m m hm':=by
  have h:=hm.2 m hm'
  have h1:=h.ctx.szs
  have h2:=h.t.size
  exact⟨by omega,fun q=>Z5 (by omega) _ (h.t.ok q),fun x hx q=>Z5 (by omega) _ ((h.ctx.all x hx).ok q)⟩
 c:=⟨by have:=hc.szs;omega,fun x hx q=>Z5 (by omega) _ ((hc.all x hx).ok q)⟩
 l:=⟨by have:=hl.szs;omega,fun x hx q=>Z5 (by omega) _ ((hl.all x hx).ok q)⟩
 sl:=by omega
 ml:=by omega
theorem ze2:ZY (1099511627776+360000000000000):=by unfold ZY;omega
theorem zoI{t:T}{θ:List T}{n:Int}(ht:Lo t)(hθ: ∀x∈θ,Lo x)(hz:(Xv t θ n).2=0):Hd (Xv t θ n).1:=by
 obtain⟨q1,q2,_⟩:=zjO (β:=1099511627776) (by omega) (fun x hx=>(hθ x hx).ok) ht.ok ze2 hz
 exact⟨Y4 q1,fun _=>Z5 (by omega) _ q2⟩
theorem zf0{l θ:List T}{n:Int}{N:Nat}(hl:Los N l)(hθ: ∀x∈θ,Lo x)(hz:(Ys θ l n).2=0):Hds N (Ys θ l n).1:=by
 refine⟨by rw[zii θ l n hz];exact hl.len,fun x hx=> ?_⟩
 obtain⟨q1,q2⟩:=zjP (β:=1099511627776) (by omega) (fun x hx=>(hθ x hx).ok) ze2 l n (fun x hx=>(hl.all x hx).ok) hz x hx
 exact⟨Y4 q1,fun _=>Z5 (by omega) _ q2⟩
theorem zjS{ext ctx θ:List T}{a:T}(he:Hds 60 ext)(hc:Los 60 ctx)(ha:Lo a)(hθ: ∀x∈θ,Lo x)(hz:(XH ext ctx a θ).2=0):HdM (XH ext ctx a θ).1:=by
 unfold XH at hz⊢
 dsimp only at hz⊢
 by_cases h1:(Ys θ ctx 0).2≠0
 ·rw[if_pos h1]at hz;exact absurd hz h1
 ·rw[if_neg h1]at hz⊢
  by_cases h2:(Xv a θ ctx.length).2≠0
  ·rw[if_pos h2]at hz;exact absurd hz h2
  ·rw[if_neg h2]
   exact⟨he.app (zf0 hc hθ (Decidable.not_not.1 h1)),zoI ha hθ (Decidable.not_not.1 h2)⟩
theorem zwh:Hd T0:=⟨by decide,fun _=>by simp[okB,zaI]⟩
theorem zuM:HdM M0:=⟨Hds.nil _,zwh⟩
structure LoCal(c:Cal):Prop where
 ext:Los 60 c.ext
 theta:Los 60 c.theta
 arg:Lo c.arg
structure LoCl(c:Cl):Prop where
 mlen:c.metas.length≤60
 metas: ∀m∈c.metas,LoM m
 theta:Los 60 c.theta
 p:Lo c.p
 r:Lo c.r
 clen:c.calls.length≤60
 calls: ∀x∈c.calls,LoCal x
structure LoFn(f:Fun1):Prop where
 dlen:f.delta.length≤60
 delta: ∀m∈f.delta,LoM m
 schema:Los 60 f.schema
 psi:Los 60 f.psi
 a:Lo f.a
 phi:Los 60 f.phi
 b:Lo f.b
 clen:f.clauses.length≤60
 clauses: ∀c∈f.clauses,LoCl c
theorem zjT{sig:List D}{over:List M}{g f:Fun1}{c:Cal}(hf:LoFn f)(hc:LoCal c):HdM (YL sig over g f c).1:=by
 unfold YL
 by_cases h:ze1 sig over g f c≠0
 ·rw[if_pos h];exact zuM
 ·rw[if_neg h]
  by_cases hz:(XH c.ext f.phi f.b c.theta).2=0
  ·exact zjS hc.ext.hds hf.phi hf.b hc.theta.all hz
  ·have:(XH c.ext f.phi f.b c.theta).1=M0:=by
    unfold XH at hz⊢
    dsimp only at hz⊢
    by_cases h1:(Ys c.theta f.phi 0).2≠0
    ·rw[if_pos h1]
    ·rw[if_neg h1]at hz⊢
     by_cases h2:(Xv f.b c.theta f.phi.length).2≠0
     ·rw[if_pos h2]
     ·rw[if_neg h2]at hz;exact absurd rfl hz
   rw[this];exact zuM
theorem zlD{sig:List D}{funs:List Fun1}{f:Fun1}(hf: ∀g∈funs,LoFn g): ∀(l:List Cal) (over:List M),(∀x∈l,LoCal x)→(∀m∈over,HdM m)→(∀m∈(YC sig funs f l over).1,HdM m)∧(YC sig funs f l over).1.length≤over.length+l.length
 |[],over,_,ho=>⟨ho,by simp[YC]⟩
 |x::l,over,hl,ho=>by
  unfold YC
  split
  ·rename_i h
   dsimp only
   split
   ·exact⟨ho,Nat.le_add_right _ _⟩
   ·obtain⟨q1,q2⟩:=zlD hf l (over++[(YL sig over f (funs[x.f.toNat]'(by omega)) x).1]) (fun y hy=>hl y (by simp[hy])) (fun m hm=>by
     rcases List.mem_append.1 hm with hm|hm
     ·exact ho m hm
     ·rw[List.mem_singleton]at hm
      rw[hm]
      exact zjT (hf _ (List.getElem_mem _)) (hl x (by simp)))
    refine⟨q1, ?_⟩
    simp only[List.length_append,List.length_cons,List.length_nil]at q2⊢
    omega
  ·exact⟨ho,Nat.le_add_right _ _⟩
end Go.Ama
namespace Go.Ama
open Go Go.AM
def Qg(s:List Int):List (V×V):=s.map fun h=>(.int h, .bool true)
theorem zoJ(h:Int): ∀s:List Int,QQ (Qg s) (.int h) (.bool true)=Qg (ztu h s)
 |[]=>rfl
 |x::s=>by
  have ih:=zoJ h s
  unfold ztu at ih⊢
  simp only[Qg,List.map_cons,QQ,zfA]
  by_cases hx:h=x
  ·subst hx
   simp
  ·have hb:(h==x)=false:=by simpa using hx
   rw[hb,cond_false]
   have:QQ (List.map (fun h=>(V.int h,V.bool true)) s) (.int h) (.bool true)=_:=ih
   rw[this]
   by_cases hs:h∈s
   ·simp[hs,Qg]
   ·simp[hs,hx,Qg]
theorem zlE: ∀s:List Int,zdg (Qg s)=some s
 |[]=>rfl
 |x::s=>by
  have:=zlE s
  simp only[Qg,List.map_cons,zdg]at this⊢
  rw[this]
  rfl
theorem zjU(s:List Int):(Qg s).length=s.length:=by simp[Qg]
theorem zij: ∀{s:List Int},s.Nodup→zdE s=true
 |[],_=>rfl
 |x::s,h=>by
  obtain⟨h1,h2⟩:=List.nodup_cons.1 h
  simp only[zdE,Bool.and_eq_true,List.all_eq_true,Bool.not_eq_true',beq_eq_false_iff_ne]
  exact⟨fun y hy e=>h1 (e▸hy),zij h2⟩
structure Seen(B:Int)(n:Nat)(s:List Int):Prop where
 nodup:s.Nodup
 all: ∀x∈s,0≤x∧x≤B
 len:s.length≤n
theorem zrW{B:Int}{n:Nat}{s:List Int}(h:Seen B n s){x:Int}(hx:0≤x∧x≤B):Seen B (n+1) (ztu x s):=by
 unfold ztu
 by_cases hs:x∈s
 ·rw[if_pos hs];exact⟨h.nodup,h.all,by have:=h.len;omega⟩
 ·rw[if_neg hs]
  refine⟨List.nodup_append.2 ⟨h.nodup,by simp,fun a ha b hb e=> ?_⟩,fun y hy=> ?_,by have:=h.len;simp;omega⟩
  ·rw[List.mem_singleton]at hb
   subst hb;subst e
   exact hs ha
  ·rcases List.mem_append.1 hy with hy|hy
   ·exact h.all y hy
   ·rw[List.mem_singleton]at hy;subst hy;exact hx
theorem zf1{B:Int}(t:T): ∀(n:Int) (s:List Int) (m:Nat),okB B t→Seen B m s→Seen B (m+t.size) (Jj zgs t n s):=by
 induction t using T.ind with
 |_ k h xs ih=>
  intro n s m ht hs
  obtain⟨⟨b1,b2⟩,_,b4⟩:=ht
  have hl: ∀(l:List T),(∀a∈l,∀(n:Int) (s:List Int) (m:Nat),okB B a→Seen B m s→Seen B (m+a.size) (Jj zgs a n s))→zaI B l→ ∀(b:Bool) (n:Int) (s:List Int) (m:Nat),Seen B m s→Seen B (m+sizes l) (zcU zgs l b n s):=by
   intro l
   induction l with
   |nil=>intro _ _ b n s m hs;exact hs
   |cons a l ihl=>
    intro ih hb b n s m hs
    unfold zcU
    have q1:=ih a (by simp) (if(b&&l.isEmpty)=true then n+1 else n) s m hb.1 hs
    have q2:=ihl (fun x hx=>ih x (by simp[hx])) hb.2 b n _ _ q1
    exact⟨q2.nodup,q2.all,by have:=q2.len;simp only[sizes];omega⟩
  unfold Jj
  have q1:Seen B (m+1) (zgs n (.mk k h xs) s):=by
   unfold zgs
   by_cases h6:(T.mk k h xs).k=6
   ·rw[if_pos h6];exact zrW hs ⟨b1,b2⟩
   ·rw[if_neg h6];exact⟨hs.nodup,hs.all,by have:=hs.len;omega⟩
  have q2:=hl xs ih b4 (bindsB k) n _ _ q1
  exact⟨q2.nodup,q2.all,by have:=q2.len;simp only[T.size];omega⟩
theorem zjV(B:Int):Seen B 0 []:=⟨List.nodup_nil,(fun x hx=>by cases hx),Nat.le_refl _⟩
theorem Seen.wide{B:Int}{n:Nat}{s:List Int}(h:Seen B n s)(hB:B≤9223372036854775807):s.all zls=true:=by
 rw[List.all_eq_true]
 intro x hx
 have:=h.all x hx
 unfold zls
 simp only[Bool.and_eq_true,decide_eq_true_eq]
 omega
end Go.Ama
namespace Go.Proofs.CL
open Go Go.AM Go.Ama
set_option maxRecDepth 100000
theorem zjW(t:T)(ms:List M)(h:0≤t.h):Ev 78 [enc t, .vec .plain (some 5) (ZA ms)] (.bool (zcu t ms)):=by
 unfold Ev zcu
 rw[C,Zb t,zh6,ZU,Zi]
 by_cases h6:t.k=6
 ·by_cases hlt:t.h<ms.length
  ·have hn:t.h.toNat<ms.length:=by omega
   have hii:((t.h.toNat:Nat):Int)=t.h:=by omega
   have hg:ZP (ZA ms) t.h=JU ms[t.h.toNat]:=by have:=JV hn;rwa [hii]at this
   have he: ∀(m:M) (K:Bool→Option (Out×St)),Xc (JU m) (fun c=>gd (decide (5≤c.length)) (Zl (AM.partOf c 4 none) K))=K m.param:=fun m K=>rfl
   have hd:ms.getD t.h.toNat ⟨[],T0,false⟩=ms[t.h.toNat]:=by simp[List.getD_eq_getElem?_getD,hn]
   simp[h6,hlt,h,hg,he,hd]
  ·simp[h6,hlt]
 ·by_cases h4:t.k=4
  ·have:((t.args.length:Int)==0)=t.args.isEmpty:=by cases t.args<;>simp
   simp[h4,this]
  ·simp[h6,h4]
theorem zoK{g:Nat}{a b:List V}(hp:cfg.pure g=false){p:T→Bool}(xs:List T)(hs:xs.length≤1099511627776)(st:St)(hg: ∀t∈xs,W.call g (a++[enc t]++b) st=some (.ret (.bool (p t)),st)):
  ∀(n i:Nat),xs.length-i=n→i≤xs.length→(∃j:Nat,(xs.drop i).any p=true∧W.loop 122 2 [.int (i:Int), .vec .plain (some 3) (Zf xs), .fn g a b, .int xs.length] st=some (.ret,[.int (j:Int)],st))∨
   ((xs.drop i).any p=false∧W.loop 122 2 [.int (i:Int), .vec .plain (some 3) (Zf xs), .fn g a b, .int xs.length] st=some (.exit 0,[],st)):=by
 intro n
 induction n with
 |zero=>
  intro i hn hi
  have:i=xs.length:=by omega
  subst this
  right
  refine⟨by simp, ?_⟩
  rw[L,Yb]
  simp
 |succ n ih=>
  intro i hn hi
  have hlt:i<xs.length:=by omega
  have hx:=hg xs[i] (List.getElem_mem hlt)
  have hd:xs.drop i=xs[i]::xs.drop (i+1):=List.drop_eq_getElem_cons hlt
  have hstep:W.loop 122 2 [.int (i:Int), .vec .plain (some 3) (Zf xs), .fn g a b, .int xs.length] st=
    bc (p xs[i]) (some (.ret,[.int (i:Int)],st)) (W.loop 122 2 [.int ((i+1:Nat):Int), .vec .plain (some 3) (Zf xs), .fn g a b, .int xs.length] st):=by
   rw[L,Yb,ZF hlt]
   rw[Zu ⟨by omega,by omega⟩]
   have h1:(i:Int)<xs.length:=by omega
   simp only[h1,Zi,Int.natCast_nonneg,decide_true,Bool.and_self,Z6,Z4,zhv,hp,Z2,←Zb,hx,Zg,ZV,ZH]
   rfl
  rw[hstep,hd,List.any_cons]
  cases hpx:p xs[i]with
  |true=>exact .inl ⟨i,rfl,rfl⟩
  |false=>
   simp only[bc,Bool.false_or]
   exact ih (i+1) (by omega) (by omega)
theorem zdZ{g:Nat}{a b:List V}(hp:cfg.pure g=false){p:T→Bool}(xs:List T)(hs:xs.length≤1099511627776)(st:St)(hg: ∀t∈xs,W.call g (a++[enc t]++b) st=some (.ret (.bool (p t)),st)):
  W.call 73 [.vec .plain (some 3) (Zf xs), .fn g a b] st=some (.ret (.bool (xs.any p)),st):=by
 have h:=zoK hp xs hs st hg _ 0 rfl (Nat.zero_le _)
 rw[C,YQ,C,Xm]
 simp only[List.drop_zero,Int.natCast_zero]at h
 rcases h with⟨j,h1,h2⟩|⟨h1,h2⟩
 ·simp[h2,h1,Z3]
 ·simp[h2,h1,Z3]
theorem zql:cfg.pure 72=false:=by kernel_rfl
theorem zoL:cfg.pure 74=false:=by kernel_rfl
theorem zeX(schema ctx:List T)(h1:sizes schema≤1099511627776)(h2:sizes ctx≤1099511627776):Ev 23 [.vec .plain (some 3) (Zf schema), .vec .plain (some 3) (Zf ctx)] (.bool (zcv schema ctx)):=by
 have hl1:=Zo schema
 have hl2:=Zo ctx
 have hin: ∀a∈ctx,W.call 72 ([]++[enc a]++[.cptr none (.vec .plain (some 3) (Zf schema))]) []=some (.ret (.bool (!schema.any fun s=>s.same a)),[]):=by
  intro a ha
  have hs: ∀s∈schema,W.call 74 ([]++[enc s]++[.cptr (some 3) (enc a)]) []=some (.ret (.bool (s.same a)),[]):=by
   intro s hsm
   have S:=(zfp s a (by have:=size_le hsm;omega) (by have:=size_le ha;omega)).p
   simp only[List.nil_append,List.cons_append]
   rw[C,Zb s,Zb a,zdW,←Zb,←Zb,S]
   simp[Z3]
  have hc:=zdZ (a:=[]) zoL schema (by omega) [] hs
  simp only[List.nil_append,List.cons_append]
  rw[C,Zb a,zfz,←Zb,hc]
  simp[Z3]
 have hc:=zdZ (a:=[]) zql ctx (by omega) [] hin
 unfold Ev zcv
 rw[C,zh5,hc]
 have:(ctx.all fun a=>schema.any fun s=>s.same a)= !ctx.any fun a=> !schema.any fun s=>s.same a:=by simp[List.all_eq_not_any_not]
 simp[this]
end Go.Proofs.CL
namespace Go.Proofs.CL
open Go Go.AM
set_option maxRecDepth 20000
theorem zoM(O:Oracle)(l0:(List V))(l1:(List V))(l2:(List V)):Ze Tryz.prog cfg O 10 [.vec .plain (some 4) l0, .vec .plain (some 5) l1, .vec .plain (some 3) l2] []=
 Za (Zj O 38 [V.vec .plain (some 4) l0]) fun r1=>Zl r1 fun b2=>bc (!b2) (some (Out.ret (V.bool false),[])) (bc (decide ((↑l1.length:Int)>30)) (some
 (Out.ret (V.bool false),[])) (Za (O.loop 10 5 [V.int 0,V.vec .plain (some 5) l1,V.vec .plain (some 3) l2] []) fun r3=>Xk r3.fst none (Zd r3.snd.fst fun v4
 c5=>Zl v4 fun b6=>Zn c5 (some (Out.ret (V.bool b6),[]))) (fun i7=>bc (i7.beq 0) (Zd r3.snd.fst fun v8 c9=>Yp (some 3) v8 fun l10=>Zn c9 (Za (Zj O
 24 [V.vec .plain (some 3) l10,V.int 500,V.int 80]) fun r11=>Zl r11 fun b12=>some (Out.ret (V.bool b12),[]))) none) fun v13=>none)):=by kernel_rfl
theorem zea(O:Oracle)(n0:Int)(l1:(List V))(l2:(List V)):Zz Tryz.prog cfg O 10 5 [.int n0, .vec .plain (some 5) l1, .vec .plain (some 3) l2] []=
 bc (decide (n0<(↑l1.length:Int))) (gd (decide (0≤n0)&&decide (n0<(↑l1.length:Int))) (Xc (ZP l1 n0) fun c1=>gd (decide (1≤c1.length)) (Yp (some 3)
 (AM.partOf c1 0 none) fun l2_1=>Za (Zj O 24 [V.vec .plain (some 3) l2_1,V.int 500,V.int 80]) fun r3=>Zl r3 fun b4=>gd (decide (0≤n0)&&decide (n0
 <(↑l1.length:Int))) (Xc (ZP l1 n0) fun c5=>gd (decide (4≤c5.length)) (onCells [CT.int,CT.int,CT.slice (some 3)] (List.take 3 (List.drop 1 c5)) fun n6 n7 l8=>Za
 (Zj O 31 [V.agg [V.int n6,V.int n7,V.vec .plain (some 3) l8],V.int 500,V.int 80]) fun r9=>Zl r9 fun b10=>bc (!b4) (some (Ex.ret,[V.bool false],[])) (bc
 (!b10) (some (Ex.ret,[V.bool false],[])) (O.2 10 5 [V.int (IntKind.i64.wrap (n0+1)),V.vec .plain (some 5) l1,V.vec .plain (some 3) l2] []))))))) (some (Ex.exit 0,
 [V.vec .plain (some 3) l2],[])):=by kernel_rfl
theorem zh8(O:Oracle)(s0:ByteArray)(l1:(List V))(l2:(List V))(l3:(List V))(n4:Int)(n5:Int)(l6:(List V))(l7:(List V))(n8:Int)(n9:Int)(l10:(List V))(b11:Bool)(l12:(List V)):Ze Tryz.prog cfg O 17 [.agg [.str s0, .vec .plain (some 3) l1, .vec .plain (some 5) l2, .vec .plain (some 3) l3, .int n4, .int n5, .vec .plain (some 3) l6, .vec .plain (some 3) l7, .int n8, .int n9, .vec .plain (some 3) l10, .bool b11, .vec .plain (some 9) l12]] []=
 Za (Zj O 39 [V.vec .plain (some 5) l2]) fun r1=>Zl r1 fun b2=>Za (Zj O 24 [V.vec .plain (some 3) l1,V.int 300,V.int 60]) fun r3=>
 Zl r3 fun b4=>Za (Zj O 24 [V.vec .plain (some 3) l3,V.int 300,V.int 60]) fun r5=>Zl r5 fun b6=>Za (Zj O 24 [V.vec .plain (some
 3) l7,V.int 300,V.int 60]) fun r7=>Zl r7 fun b8=>Za (Zj O 31 [V.agg [V.int n4,V.int n5,V.vec .plain (some 3) l6],V.int 300,V.int 60]) fun r9=>
 Zl r9 fun b10=>Za (Zj O 31 [V.agg [V.int n8,V.int n9,V.vec .plain (some 3) l10],V.int 300,V.int 60]) fun r11=>Zl r11 fun b12=>bc (!b2) (some
 (Out.ret (V.bool false),[])) (bc (!b4) (some (Out.ret (V.bool false),[])) (bc (!b6) (some (Out.ret (V.bool false),[])) (bc (!b8) (some (Out.ret (V.bool false),[])) (bc (!b10)
 (some (Out.ret (V.bool false),[])) (bc (!b12) (some (Out.ret (V.bool false),[])) (bc (decide ((↑l12.length:Int)>50)) (some (Out.ret (V.bool false),[])) (Za (O.loop
 17 10 [V.int 0,V.loc false (some 13) (V.agg [V.str s0,V.vec .plain (some 3) l1,V.vec .plain (some 5) l2,V.vec .plain (some 3) l3,V.int n4,V.int n5,V.vec
 .plain (some 3) l6,V.vec .plain (some 3) l7,V.int n8,V.int n9,V.vec .plain (some 3) l10,V.bool b11,V.vec .plain (some 9) l12])] []) fun r13=>Xk r13.fst none (Zd
 r13.snd.fst fun v14 c15=>Zl v14 fun b16=>Zn c15 (some (Out.ret (V.bool b16),[]))) (fun i17=>bc (i17.beq 0) (Zn r13.snd.fst (some (Out.ret (V.bool true),[])))
 none) fun v18=>none))))))):=by kernel_rfl
theorem zas(O:Oracle)(n0:Int)(s1:ByteArray)(l2:(List V))(l3:(List V))(l4:(List V))(n5:Int)(n6:Int)(l7:(List V))(l8:(List V))(n9:Int)(n10:Int)(l11:(List V))(b12:Bool)(l13:(List V)):Zz Tryz.prog cfg O 17 10 [.int n0, .loc false (some 13) (.agg [.str s1, .vec .plain (some 3) l2, .vec .plain (some 5) l3, .vec .plain (some 3) l4, .int n5, .int n6, .vec .plain (some 3) l7, .vec .plain (some 3) l8, .int n9, .int n10, .vec .plain (some 3) l11, .bool b12, .vec .plain (some 9) l13])] []=
 bc (decide (n0<(↑l13.length:Int))) (gd (decide (0≤n0)&&decide (n0<(↑l13.length:Int))) (Zc [CT.slice (some 5),CT.slice (some 3),CT.int,CT.int,CT.slice (some
 3),CT.slice (some 6),CT.int,CT.int,CT.slice (some 3)] (ZP l13 n0) fun l1 l2_1 n3 n4 l5 l6 n7 n8 l9=>Za (Zj O 12 [V.agg [V.vec .plain (some 5) l1,
 V.vec .plain (some 3) l2_1,V.int n3,V.int n4,V.vec .plain (some 3) l5,V.vec .plain (some 6) l6,V.int n7,V.int n8,V.vec .plain (some 3) l9]]) fun r10=>Zl r10 fun b11
 =>bc (!b11) (some (Ex.ret,[V.bool false],[])) (O.2 17 10 [V.int (IntKind.i64.wrap (n0+1)),V.loc false (some 13) (V.agg [V.str s1,V.vec .plain (some 3) l2,
 V.vec .plain (some 5) l3,V.vec .plain (some 3) l4,V.int n5,V.int n6,V.vec .plain (some 3) l7,V.vec .plain (some 3) l8,V.int n9,V.int n10,V.vec .plain (some 3) l11,V.bool
 b12,V.vec .plain (some 9) l13])] []))) (some (Ex.exit 0,[],[])):=by kernel_rfl
theorem zjX(O:Oracle)(l0:(List V))(n1:Int)(n2:Int):Ze Tryz.prog cfg O 24 [.vec .plain (some 3) l0, .int n1, .int n2] []=
 bc (decide ((↑l0.length:Int)>60)) (some (Out.ret (V.bool false),[])) (Za (O.loop 24 4 [V.int 0,V.int n2,V.int n1,V.vec .plain (some 3) l0] []) fun r1=>
 Xk r1.fst none (Zd r1.snd.fst fun v2 c3=>Zl v2 fun b4=>Zn c3 (some (Out.ret (V.bool b4),[]))) (fun i5=>bc (i5.beq 0) (Zn r1.snd.fst (some (Out.ret (V.bool
 true),[]))) none) fun v6=>none):=by kernel_rfl
theorem zbC(O:Oracle)(n0:Int)(n1:Int)(n2:Int)(l3:(List V)):Zz Tryz.prog cfg O 24 4 [.int n0, .int n1, .int n2, .vec .plain (some 3) l3] []=
 bc (decide (n0<(↑l3.length:Int))) (gd (decide (0≤n0)&&decide (n0<(↑l3.length:Int))) (Zc [CT.int,CT.int,CT.slice (some 3)] (ZP l3 n0) fun n1_1 n2_1 l3_1=>
 Za (Zj O 31 [V.agg [V.int n1_1,V.int n2_1,V.vec .plain (some 3) l3_1],V.int n2,V.int n1]) fun r4=>Zl r4 fun b5=>bc (!b5) (some (Ex.ret,[V.bool
 false],[])) (O.2 24 4 [V.int (IntKind.i64.wrap (n0+1)),V.int n1,V.int n2,V.vec .plain (some 3) l3] []))) (some (Ex.exit 0,[],[])):=by kernel_rfl
theorem zoN(O:Oracle)(l0:(List V)):Ze Tryz.prog cfg O 39 [.vec .plain (some 5) l0] []=
 Za (Zj O 10 [V.vec .plain (some 4) [],V.vec .plain (some 5) l0,V.vec .plain (some 3) []]) fun r1=>Zl r1 fun b2=>some (Out.ret (V.bool b2),[]):=by kernel_rfl
theorem ze9(O:Oracle)(l0:(List V))(l1:(List V))(n2:Int)(n3:Int)(l4:(List V))(l5:(List V))(n6:Int)(n7:Int)(l8:(List V)):Ze Tryz.prog cfg O 12 [.agg [.vec .plain (some 5) l0, .vec .plain (some 3) l1, .int n2, .int n3, .vec .plain (some 3) l4, .vec .plain (some 6) l5, .int n6, .int n7, .vec .plain (some 3) l8]] []=
 Za (Zj O 39 [V.vec .plain (some 5) l0]) fun r1=>Zl r1 fun b2=>Za (Zj O 24 [V.vec .plain (some 3) l1,V.int 300,V.int 60]) fun r3=>
 Zl r3 fun b4=>Za (Zj O 31 [V.agg [V.int n2,V.int n3,V.vec .plain (some 3) l4],V.int 300,V.int 60]) fun r5=>Zl r5 fun b6=>Za (Zj O
 31 [V.agg [V.int n6,V.int n7,V.vec .plain (some 3) l8],V.int 300,V.int 60]) fun r7=>Zl r7 fun b8=>bc (!b2) (some (Out.ret (V.bool false),[])) (bc (!b4)
 (some (Out.ret (V.bool false),[])) (bc (!b6) (some (Out.ret (V.bool false),[])) (bc (!b8) (some (Out.ret (V.bool false),[])) (bc (decide ((↑l5.length:Int)>50)) (some
 (Out.ret (V.bool false),[])) (Za (O.loop 12 8 [V.int 0,V.loc false (some 9) (V.agg [V.vec .plain (some 5) l0,V.vec .plain (some 3) l1,V.int n2,V.int n3,
 V.vec .plain (some 3) l4,V.vec .plain (some 6) l5,V.int n6,V.int n7,V.vec .plain (some 3) l8])] []) fun r9=>Xk r9.fst none (Zd r9.snd.fst fun v10 c11=>Zl v10 fun
 b12=>Zn c11 (some (Out.ret (V.bool b12),[]))) (fun i13=>bc (i13.beq 0) (Zn r9.snd.fst (some (Out.ret (V.bool true),[]))) none) fun v14=>none))))):=by kernel_rfl
theorem J8(O:Oracle)(n0:Int)(l1:(List V))(l2:(List V))(n3:Int)(n4:Int)(l5:(List V))(l6:(List V))(n7:Int)(n8:Int)(l9:(List V)):Zz Tryz.prog cfg O 12 8 [.int n0, .loc false (some 9) (.agg [.vec .plain (some 5) l1, .vec .plain (some 3) l2, .int n3, .int n4, .vec .plain (some 3) l5, .vec .plain (some 6) l6, .int n7, .int n8, .vec .plain (some 3) l9])] []=
 bc (decide (n0<(↑l6.length:Int))) (gd (decide (0≤n0)&&decide (n0<(↑l6.length:Int))) (Zc [CT.int,CT.slice (some 3),CT.slice (some 3),CT.int,CT.int,CT.slice
 (some 3)] (ZP l6 n0) fun n1 l2_1 l3 n4_1 n5 l6_1=>Za (Zj O 18 [V.agg [V.int n1,V.vec .plain (some 3) l2_1,V.vec .plain (some 3) l3,V.int n4_1,V.int
 n5,V.vec .plain (some 3) l6_1]]) fun r7=>Zl r7 fun b8=>bc (!b8) (some (Ex.ret,[V.bool false],[])) (O.2 12 8 [V.int (IntKind.i64.wrap (n0+1)),V.loc
 false (some 9) (V.agg [V.vec .plain (some 5) l1,V.vec .plain (some 3) l2,V.int n3,V.int n4,V.vec .plain (some 3) l5,V.vec .plain (some 6) l6,V.int n7,V.int n8,V.vec .plain
 (some 3) l9])] []))) (some (Ex.exit 0,[],[])):=by kernel_rfl
theorem zgu(O:Oracle)(n0:Int)(l1:(List V))(l2:(List V))(n3:Int)(n4:Int)(l5:(List V)):Ze Tryz.prog cfg O 18 [.agg [.int n0, .vec .plain (some 3) l1, .vec .plain (some 3) l2, .int n3, .int n4, .vec .plain (some 3) l5]] []=
 Za (Zj O 24 [V.vec .plain (some 3) l1,V.int 300,V.int 60]) fun r1=>Zl r1 fun b2=>Za (Zj O 24 [V.vec .plain (some 3) l2,V.int 300,
 V.int 60]) fun r3=>Zl r3 fun b4=>Za (Zj O 31 [V.agg [V.int n3,V.int n4,V.vec .plain (some 3) l5],V.int 300,V.int 60]) fun r5=>Zl r5 fun b6=>bc
 b2 (bc b4 (some (Out.ret (V.bool b6),[])) (some (Out.ret (V.bool false),[]))) (some (Out.ret (V.bool false),[])):=by kernel_rfl
end Go.Proofs.CL
namespace Go.Proofs.CL
open Go Go.AM Go.Ama
theorem JX(n k:Nat):decide ((n:Int)>(k:Int))= !decide (n≤k):=by
 by_cases h:n≤k<;>simp[h]<;>omega
theorem XW(l:List T)(n m:Int)(hs:sizes l≤1099511627776):Ev 24 [.vec .plain (some 3) (Zf l), .int n, .int m] (.bool (X5 n m l)):=by
 have hlen:=Zo l
 have hl:=JQ (L:=fun i=>W.loop 24 4 [.int i, .int m, .int n, .vec .plain (some 3) (Zf l)] []) (xs:=l) (g:=Ql n m) (e0:=(Ex.exit 0,[],[])) (e1:=(Ex.ret,[V.bool false],[]))
  (fun i hi=>by
   have hp:=(QA l[i] n m (by have:=size_le (List.getElem_mem hi);omega)).p
   have hlt:decide ((i:Int)<l.length)=true:=by simp;omega
   show W.loop _ _ _ _=_
   rw[L,zbC,Zi,ZF hi,Zu ⟨by omega,by omega⟩]
   simp only[hlt,Int.natCast_nonneg,decide_true,Z4,Bool.and_self,Z6,YJ,←Zb,hp,Zg,ZH]
   cases Ql n m l[i]<;>rfl)
  (by
   show W.loop _ _ _ _=_
   rw[L,zbC,Zi]
   simp)
 unfold Ev X5
 have e60:=JX l.length 60
 have hl':W.loop 24 4 [.int 0, .int m, .int n, .vec .plain (some 3) (Zf l)] []=_:=hl
 rw[C,zjX,Zi,hl']
 have e60':decide ((l.length:Int)>60)= !decide (l.length≤60):=e60
 rw[e60']
 cases decide (l.length≤60)<;>cases l.all (Ql n m)<;>rfl
theorem zrX(l:List D)(hb:Yc (Ye l)≤4398046511104):Ev 38 [.vec .plain (some 4) (Ye l)] (.bool (zqf l)):=by
 have hlen:=zct (Ye l)
 rw[QK]at hlen
 have hl:=JQ (L:=fun i=>W.loop 38 4 [.int i, .vec .plain (some 4) (Ye l)] []) (xs:=l) (g:=fun d=>Ql 1000 80 d.t) (e0:=(Ex.exit 0,[],[])) (e1:=(Ex.ret,[V.bool false],[]))
  (fun i hi=>by
   have hp:=(QA l[i].t 1000 80 (by have:=zus (List.getElem_mem hi);omega)).p
   have hlt:decide ((i:Int)<l.length)=true:=by simp;omega
   show W.loop _ _ _ _=_
   rw[L,zdI,QK,zfq hi,Zu ⟨by omega,by omega⟩]
   simp only[hlt,Int.natCast_nonneg,decide_true,Z4,Bool.and_self,Z6,zvW,←Zb,hp,Zg,ZH]
   cases Ql 1000 80 l[i].t<;>rfl)
  (by
   show W.loop _ _ _ _=_
   rw[L,zdI,QK]
   simp)
 unfold Ev zqf
 have e30:decide ((l.length:Int)>30)= !decide (l.length≤30):=JX l.length 30
 have hl':W.loop 38 4 [.int 0, .vec .plain (some 4) (Ye l)] []=_:=hl
 rw[C,znX,QK,hl',e30]
 cases decide (l.length≤30)<;>cases l.all (fun d=>Ql 1000 80 d.t)<;>rfl
theorem zjY(sig:List D)(l:List M)(ctx:List T)(h1:Yc (Ye sig)≤4398046511104)(hb:Yc (ZA l)≤4398046511104)(h3:sizes ctx≤1099511627776):Ev 10 [.vec .plain (some 4) (Ye sig), .vec .plain (some 5) (ZA l), .vec .plain (some 3) (Zf ctx)] (.bool (zl8 sig l ctx)):=by
 have hlen:=zct (ZA l)
 rw[ZU]at hlen
 have hc:=(XW ctx 500 80 h3).p
 have h9:=(zrX sig h1).p
 have hl:=JQ (L:=fun i=>W.loop 10 5 [.int i, .vec .plain (some 5) (ZA l), .vec .plain (some 3) (Zf ctx)] []) (xs:=l) (g:=fun m=>X5 500 80 m.ctx&&Ql 500 80 m.t) (e0:=(Ex.exit 0,[.vec .plain (some 3) (Zf ctx)],[])) (e1:=(Ex.ret,[V.bool false],[]))
  (fun i hi=>by
   have hm:=zur (List.getElem_mem hi)
   have hp:=(QA l[i].t 500 80 (by omega)).p
   have hq:=(XW l[i].ctx 500 80 (by omega)).p
   have hlt:decide ((i:Int)<l.length)=true:=by simp;omega
   show W.loop _ _ _ _=_
   rw[L,zea,ZU,JV hi,Zu ⟨by omega,by omega⟩]
   simp only[hlt,Int.natCast_nonneg,decide_true,Z4,Bool.and_self,Z6,zwG,zwH,hq,←Zb,hp,Zg,ZH]
   cases Ql 500 80 l[i].t<;>cases X5 500 80 l[i].ctx<;>rfl)
  (by
   show W.loop _ _ _ _=_
   rw[L,zea,ZU]
   simp)
 unfold Ev zl8 zkO
 have e30:decide ((l.length:Int)>30)= !decide (l.length≤30):=JX l.length 30
 have hl':W.loop 10 5 [.int 0, .vec .plain (some 5) (ZA l), .vec .plain (some 3) (Zf ctx)] []=_:=hl
 rw[C,zoM,ZU,hl',e30,h9]
 cases decide (l.length≤30)<;>cases l.all (fun m=>X5 500 80 m.ctx&&Ql 500 80 m.t)<;>cases zqf sig<;>simp[hc]
theorem zlF(l:List M)(hb:Yc (ZA l)≤4398046511104):Ev 39 [.vec .plain (some 5) (ZA l)] (.bool (zkO l)):=by
 have h:=(zjY [] l [] (by simp[Yc]) hb (by simp[sizes])).p
 have e:zl8 [] l []=zkO l:=by simp[zl8,zqf,X5]
 rw[e]at h
 simp only[zrA,QW]at h
 unfold Ev
 rw[C,zoN,h]
 simp
theorem zjZ(c:Cal)(hb:YY (X2 c)≤4398046511104):Ev 18 [X2 c] (.bool (Ju c)):=by
 have hm:=zrQ c
 have h1:=(XW c.ext 300 60 (by omega)).p
 have h2:=(XW c.theta 300 60 (by omega)).p
 have h3:=(QA c.arg 300 60 (by omega)).p
 unfold Ev Ju
 rw[C,YD,zgu,←Zb,h1,h2,h3]
 cases X5 300 60 c.ext<;>cases X5 300 60 c.theta<;>rfl
theorem zgv(c:Cl)(hb:YY (XT c)≤4398046511104):Ev 12 [XT c] (.bool (zaJ c)):=by
 have hm:=zut c
 have hlen:=zct (XS c.calls)
 rw[ZS]at hlen
 have h0:=(zlF c.metas (by omega)).p
 have h1:=(XW c.theta 300 60 (by omega)).p
 have h2:=(QA c.p 300 60 (by omega)).p
 have h3:=(QA c.r 300 60 (by omega)).p
 have hl:=JQ (L:=fun i=>W.loop 12 8 [.int i, .loc false (some 9) (XT c)] []) (xs:=c.calls) (g:=Ju) (e0:=(Ex.exit 0,[],[])) (e1:=(Ex.ret,[V.bool false],[]))
  (fun i hi=>by
   have hp:=(zjZ c.calls[i] (by have:=zdT (List.mem_map_of_mem (f:=X2) (List.getElem_mem hi));simp only[XS]at hm;omega)).p
   have hlt:decide ((i:Int)<c.calls.length)=true:=by simp;omega
   show W.loop _ _ _ _=_
   rw[L,ZQ,J8,ZS,zeW hi,Zu ⟨by omega,by omega⟩]
   simp only[hlt,Int.natCast_nonneg,decide_true,Z4,Bool.and_self,Z6,zvl,←YD,hp,Zg,ZH]
   cases Ju c.calls[i]<;>rfl)
  (by
   show W.loop _ _ _ _=_
   rw[L,ZQ,J8,ZS]
   simp)
 unfold Ev zaJ
 have e50:decide ((c.calls.length:Int)>50)= !decide (c.calls.length≤50):=JX c.calls.length 50
 have hl':W.loop 12 8 [.int 0, .loc false (some 9) (XT c)] []=_:=hl
 rw[C]
 conv=>lhs;rw[ZQ]
 rw[ze9,←ZQ,←Zb,←Zb,ZS,hl',e50,h0,h1,h2,h3]
 cases zkO c.metas<;>cases X5 300 60 c.theta<;>cases Ql 300 60 c.p<;>cases Ql 300 60 c.r<;>cases decide (c.calls.length≤50)<;>cases c.calls.all Ju<;>rfl
theorem zgw(f:Fun1)(hb:YY (Xd f)≤4398046511104):Ev 17 [Xd f] (.bool (zaK f)):=by
 have hm:=zuu f
 have hlen:=zct (JW f.clauses)
 rw[zaj]at hlen
 have h0:=(zlF f.delta (by omega)).p
 have h1:=(XW f.schema 300 60 (by omega)).p
 have h2:=(XW f.psi 300 60 (by omega)).p
 have h3:=(XW f.phi 300 60 (by omega)).p
 have h4:=(QA f.a 300 60 (by omega)).p
 have h5:=(QA f.b 300 60 (by omega)).p
 have hl:=JQ (L:=fun i=>W.loop 17 10 [.int i, .loc false (some 13) (Xd f)] []) (xs:=f.clauses) (g:=zaJ) (e0:=(Ex.exit 0,[],[])) (e1:=(Ex.ret,[V.bool false],[]))
  (fun i hi=>by
   have hp:=(zgv f.clauses[i] (by have:=zdT (List.mem_map_of_mem (f:=XT) (List.getElem_mem hi));simp only[JW]at hm;omega)).p
   have hlt:decide ((i:Int)<f.clauses.length)=true:=by simp;omega
   show W.loop _ _ _ _=_
   rw[L,Zv,zas,zaj,zo2 hi,Zu ⟨by omega,by omega⟩]
   simp only[hlt,Int.natCast_nonneg,decide_true,Z4,Bool.and_self,Z6,zwg,←ZQ,hp,Zg,ZH]
   cases zaJ f.clauses[i]<;>rfl)
  (by
   show W.loop _ _ _ _=_
   rw[L,Zv,zas,zaj]
   simp)
 unfold Ev zaK
 have e50:decide ((f.clauses.length:Int)>50)= !decide (f.clauses.length≤50):=JX f.clauses.length 50
 have hl':W.loop 17 10 [.int 0, .loc false (some 13) (Xd f)] []=_:=hl
 rw[C]
 conv=>lhs;rw[Zv]
 rw[zh8,←Zv,←Zb,←Zb,zaj,hl',e50,h0,h1,h2,h3,h4,h5]
 cases zkO f.delta<;>cases X5 300 60 f.schema<;>cases X5 300 60 f.psi<;>cases X5 300 60 f.phi<;>cases Ql 300 60 f.a<;>cases Ql 300 60 f.b<;>cases decide (f.clauses.length≤50)<;>cases f.clauses.all zaJ<;>rfl
end Go.Proofs.CL
namespace Go.Ama
open Go Go.AM
end Go.Ama
namespace Go.Proofs.CL
open Go Go.AM Go.Ama
end Go.Proofs.CL
namespace Go.Proofs.CL
open Go Go.AM Go.Ama
set_option maxRecDepth 100000
abbrev zh9(sig:List D)(ms:List M)(ext:List T)(ds:List M)(s:LSt)(p:Option Ex):Res:= .loop 25 8 [.ref 0 0, .cptr none (.vec .plain (some 5) (ZA ms)), .cptr none (.vec .plain (some 3) (Zf ext)), .cptr none (.vec .plain (some 4) (Ye sig)), .cptr none (.vec .plain (some 5) (ZA ds))] s p
theorem zmL(sig:List D)(ms:List M)(ext:List T)(ds:List M)(over:List T)(t:T)(hs:sig.length≤1000∧ ∀d∈sig,Hd d.t)(hm:ms.length≤1000∧ ∀m∈ms,HdM m)(he:Hds 60 ext)(hd: ∀m∈ds,LoM m)(ho:Los 60 over)(ht:Lo t)(hlt:over.length<ds.length):
  W.round 1 25 8 [.ref 0 0, .cptr none (.vec .plain (some 5) (ZA ms)), .cptr none (.vec .plain (some 3) (Zf ext)), .cptr none (.vec .plain (some 4) (Ye sig)), .cptr none (.vec .plain (some 5) (ZA ds))] [.vec .plain (some 3) (Zf over),enc t] [.box [.int 0],zh9 sig ms ext ds .ready none]=
   some (if zmK sig ms ext ds[over.length] over t=0 then(true,[.box [.int 0],zh9 sig ms ext ds .ready none])else(false,[.box [.int (zmK sig ms ext ds[over.length] over t)],zh9 sig ms ext ds .done (some .ret)])):=by
 have hdm:=hd _ (List.getElem_mem hlt)
 have hlt':(over.length:Int)<ds.length:=by omega
 have hg:=JV hlt
 generalize ds[over.length]=d at hdm hg⊢
 have hc:=(zoH (β:=1099511627776) (by omega) ze2 (n:=0) (l:=d.ctx) (θ:=over) (by have:=hdm.ctx.hds.szs;omega) (by omega) (by have:=ho.hds.szs;omega) (fun x hx=>(ho.all x hx).ok) (fun x hx=>(hdm.ctx.all x hx).ok)).p
 have hf:=(ze0 (β:=1099511627776) (by omega) ze2 (t:=d.t) (θ:=over) (n:=(d.ctx.length:Int)) (by have:=hdm.t.size;omega) (by have:=ho.hds.szs;omega) (fun x hx=>(ho.all x hx).ok) hdm.t.ok).p
 rw[Rd,Zb t,zjM,←Zb t,Zi,ZU,hg]
 simp only[Int.natCast_zero]at hc
 have hq: ∀{R:Type} (K:Res→Option R),Zw [Res.box [.int 0],zh9 sig ms ext ds .ready none] 1 K=K (zh9 sig ms ext ds .ready none):=fun K=>rfl
 unfold zmK
 dsimp only
 rw[hq]
 simp only[zaq,za3,hlt',Int.natCast_nonneg,decide_true,Bool.and_self,Z6,onM,hc,Zg,Xx,Yk,YZ,ZB,Yv,←Zb,Zi,hf]
 by_cases h1:(Ys over d.ctx 0).2=0
 ·have hch:=zf0 hdm.ctx ho.all h1
  by_cases h2:(Xv d.t over d.ctx.length).2=0
  ·have hfh:=zoI hdm.t ho.all h2
   have hcat:=(zb9 ext (Ys over d.ctx 0).1 (by have:=he.len;have:=hch.len;omega)).p (h2:=by simp[below,Zk,Xj])
   have hI:In sig ms (ext++(Ys over d.ctx 0).1) [t,(Xv d.t over d.ctx.length).1]:=ztv hs hm ((he.app hch).mono (by omega)) ⟨by simp,fun x hx=>by
    rcases List.mem_cons.1 hx with rfl|hx
    ·exact ht.hd
    ·rw[List.mem_singleton]at hx;subst hx;exact hfh⟩
   have hk:=(zdQ sig ms (ext++(Ys over d.ctx 0).1) t (Xv d.t over d.ctx.length).1 hI).p (by simp[Zk,below,Zq,Xj])
   have hv:QB sig ms (ext++(Ys over d.ctx 0).1) t (Xv d.t over d.ctx.length).1=0→Zj W 78 [enc t, .vec .plain (some 5) (ZA ms)]=some (.bool (zcu t ms)):=fun h0=>by
    have hm1:may t=true:=by
     unfold QB at h0
     by_cases hw:zjI sig ms (ext++(Ys over d.ctx 0).1) [t,(Xv d.t over d.ctx.length).1]=true
     ·exact(zdP.1 hw).2.1 t (by simp)
     ·rw[if_neg hw]at h0;cases h0
    have ho:=ht.ok hm1
    have h0':0≤t.h:=by cases t;exact ho.1.1
    exact(zjW t ms h0').p (by simp[Zk,below])
   simp only[h1,h2,beq_self_eq_true,Z4,Z2,bne_self_eq_false,hcat,Zg,YZ,zhv,←Zb,hk,ZB,not_true_eq_false,if_false,ne_eq]
   generalize hz:QB sig ms (ext++(Ys over d.ctx 0).1) t (Xv d.t over d.ctx.length).1=z at hv⊢
   by_cases hz0:z=0
   ·subst hz0
    simp only[hv rfl,beq_self_eq_true,Z4,Zg,ZH]
    cases d.param<;>cases zcu t ms<;>simp[Zw,YO,setCells]
   ·simp[hz0,Zw,YO,setCells]
  ·simp[h1,h2,Zw,YO,setCells]
 ·simp[h1,Zw,YO,setCells]
theorem zmM(sig:List D)(ms:List M)(ext:List T)(ds:List M)(ts:List T)(hs:sig.length≤1000∧ ∀d∈sig,Hd d.t)(hm:ms.length≤1000∧ ∀m∈ms,HdM m)(he:Hds 60 ext)(hd: ∀m∈ds,LoM m)(ht:Los 60 ts)(hl:ts.length=ds.length): ∀(n i:Nat),ts.length-i=n→i≤ts.length→
  W.loop 123 1 [.int (i:Int), .cptr none (.vec .plain (some 3) (Zf ts)), .yld 1, .vec .plain (some 3) (Zf ts), .int ts.length] [.box [.int 0],zh9 sig ms ext ds .ready none]=
   some (if(ZO i ((Qf sig ms ext ds ts).drop i)).2=0 then(.exit 0,[],[.box [.int 0],zh9 sig ms ext ds .ready none])else(.ret,[],[.box [.int (ZO i ((Qf sig ms ext ds ts).drop i)).2],zh9 sig ms ext ds .done (some .ret)])):=by
 have hlen:(Qf sig ms ext ds ts).length=ts.length:=by simp[Qf]
 have h60:=ht.len
 intro n
 induction n with
 |zero=>
  intro i hn hi
  have:i=ts.length:=by omega
  subst this
  rw[L,Qs,←hlen,List.drop_length,hlen]
  simp[ZO]
 |succ n ih=>
  intro i hn hi
  have hlt:i<ts.length:=by omega
  have hlt':(i:Int)<ts.length:=by omega
  have hle':(i:Int)≤ts.length:=by omega
  have hw:IntKind.i64.wrap ((i:Int)+1)=((i+1:Nat):Int):=by rw[Zu ⟨by omega,by omega⟩];omega
  have hd':(Qf sig ms ext ds ts).drop i=zmK sig ms ext (ds[i]'(by omega)) (ts.take i) ts[i]::(Qf sig ms ext ds ts).drop (i+1):=by
   rw[List.drop_eq_getElem_cons (by omega)]
   congr 1
   simp[Qf,List.getD_eq_getElem?_getD,hlt,(show i<ds.length by omega)]
  have htl:(ts.take i).length=i:=by simp;omega
  have hr:=zmL sig ms ext ds (ts.take i) ts[i] hs hm he hd ⟨by omega,fun x hx=>ht.all x (List.mem_of_mem_take hx)⟩ (ht.all _ (List.getElem_mem hlt)) (by omega)
  have htk:List.drop 0 (List.take (i:Int).toNat (Zf ts))=Zf (ts.take i):=by simp[zl6]
  simp only[htl]at hr
  have hg: ∀{R:Type} (K:Res→Option R),Zw [Res.box [.int 0],zh9 sig ms ext ds .ready none] 1 K=K (zh9 sig ms ext ds .ready none):=fun K=>rfl
  rw[hd',L,Qs,hw,ZF hlt,htk,Zi]
  simp only[hlt',hle',Int.natCast_nonneg,decide_true,Bool.and_self,Z6,Z4,zhv,←Zb,Option.isSome_some,hg,zaq,zaH,hr,Zg]
  by_cases hz:zmK sig ms ext (ds[i]'(by omega)) (ts.take i) ts[i]=0
  ·have e:ZO i (zmK sig ms ext (ds[i]'(by omega)) (ts.take i) ts[i]::(Qf sig ms ext ds ts).drop (i+1))=ZO (i+1) ((Qf sig ms ext ds ts).drop (i+1)):=by simp[ZO,hz]
   rw[e]
   simp only[hz,if_true,Bool.not_true,Z2]
   exact ih (i+1) (by omega) (by omega)
  ·have e:ZO i (zmK sig ms ext (ds[i]'(by omega)) (ts.take i) ts[i]::(Qf sig ms ext ds ts).drop (i+1))=((i:Int),zmK sig ms ext (ds[i]'(by omega)) (ts.take i) ts[i]):=by simp[ZO,hz]
   rw[e]
   simp[hz]
theorem zoO(sig:List D)(ms:List M)(ext:List T)(ds:List M)(ts:List T)(hs:sig.length≤1000∧ ∀d∈sig,Hd d.t)(hm:ms.length≤1000∧ ∀m∈ms,HdM m)(he:Hds 60 ext)(hd: ∀m∈ds,LoM m)(ht:Los 60 ts):
  Ev 25 [.vec .plain (some 4) (Ye sig), .vec .plain (some 5) (ZA ms), .vec .plain (some 3) (Zf ext), .vec .plain (some 5) (ZA ds), .vec .plain (some 3) (Zf ts)] (.int (zts sig ms ext ds ts)):=by
 have hA:W.call 76 [.vec .plain (some 3) (Zf ts)] [.box [.int 0]]=some (.ret (.fn 123 [] [.cptr none (.vec .plain (some 3) (Zf ts))]),[.box [.int 0]]):=by
  rw[C,zcV,Z3 rfl]
 unfold Ev zts
 rw[C,zo9,ZU,Zi]
 by_cases h40:40<ds.length
 ·have:(ds.length:Int)>40:=by omega
  simp[h40,this]
 ·have h40': ¬(ds.length:Int)>40:=by omega
  by_cases hl:ts.length=ds.length
  ·have hl':((ts.length:Int) !=(ds.length:Int))=false:=by simp[hl]
   have hL:=zmM sig ms ext ds ts hs hm he hd ht hl _ 0 rfl (Nat.zero_le _)
   simp only[Int.natCast_zero,List.drop_zero]at hL
   have hA1:W.call 123 [.yld 1, .cptr none (.vec .plain (some 3) (Zf ts))] [.box [.int 0],zh9 sig ms ext ds .ready none]=
     some (.ret (.tup []),if(ZO 0 (Qf sig ms ext ds ts)).2=0 then[.box [.int 0],zh9 sig ms ext ds .ready none]else[.box [.int (ZO 0 (Qf sig ms ext ds ts)).2],zh9 sig ms ext ds .done (some .ret)]):=by
    rw[C,zbX,Zi,hL]
    by_cases hz:(ZO 0 (Qf sig ms ext ds ts)).2=0
    ·simp[hz,Z3]
    ·simp[hz,Z3]
   simp only[h40',decide_false,Z2,hl',hA,Zg,ZV,zgj,List.length_cons,List.length_nil,Nat.zero_add,Nat.reduceAdd,List.nil_append,List.cons_append]
   rw[hA1]
   by_cases hz:(ZO 0 (Qf sig ms ext ds ts)).2=0
   ·simp[hz,h40,hl,Zw,setCells]
    try rfl
   ·simp[hz,h40,hl,Zw,setCells]
    try rfl
  ·have hl':((ts.length:Int) !=(ds.length:Int))=true:=by simp;omega
   simp[h40,h40',hl,hl']
end Go.Proofs.CL
namespace Go.Proofs.CL
open Go Go.AM
set_option maxRecDepth 20000
theorem zhA(O:Oracle)(n0:Int)(n1:Int)(l2:(List V))(n3:Int):Ze Tryz.prog cfg O 114 [.agg [.int n0, .int n1, .vec .plain (some 3) l2], .int n3] []=
 Za (O.call 151 [V.agg [V.int n0,V.int n1,V.vec .plain (some 3) l2],V.int n3,V.fn 155 [] [V.ref 0 0]] [Res.box [V.bool true]]) fun r1=>Zx
 r1.fst (fun v2=>ZM v2 fun c3=>Zn c3 (Zw r1.snd 0 fun x4=>ZE x4 fun c5=>gd (decide (1≤c5.length)&&true) (Zl (Zs (AM.partOf c5 0 none)) fun b6=>some
 (Out.ret (V.bool b6),[])))) fun p7=>none:=by kernel_rfl
theorem zkR(O:Oracle)(n0:Int)(n1:Int)(l2:(List V))(n3:Int)(g4:Nat)(l5:(List V))(l6:(List V))(st:St):Ze Tryz.prog cfg O 151 [.agg [.int n0, .int n1, .vec .plain (some 3) l2], .int n3, .fn g4 l5 l6] st=
 bc (cfg.pure g4) (Za (Zj O g4 (l5++[V.agg [V.int n0,V.int n1,V.vec .plain (some 3) l2],V.int n3]++l6)) fun r1=>ZM r1 fun c2=>Zn c2 (Za (O.loop
 151 3 [V.int 0,V.fn g4 l5 l6,V.int n3,V.loc false (some 3) (V.agg [V.int n0,V.int n1,V.vec .plain (some 3) l2]),V.vec .plain (some 3) l2,V.int (↑l2.length:Int)]
 st) fun r3=>Xk r3.fst none none (fun i4=>bc (i4.beq 0) (Zn r3.snd.fst (Xb (List.length st) (V.tup []) r3.snd.snd)) none) fun v5=>none)) (Za (O.call g4 (l5++[V.agg
 [V.int n0,V.int n1,V.vec .plain (some 3) l2],V.int n3]++l6) st) fun r6=>Zx r6.fst (fun v7=>ZM v7 fun c8=>Zn c8 (Za (O.loop 151 3 [V.int 0,V.fn g4
 l5 l6,V.int n3,V.loc false (some 3) (V.agg [V.int n0,V.int n1,V.vec .plain (some 3) l2]),V.vec .plain (some 3) l2,V.int (↑l2.length:Int)] r6.snd) fun r9=>Xk r9.fst
 none none (fun i10=>bc (i10.beq 0) (Zn r9.snd.fst (Xb (List.length st) (V.tup []) r9.snd.snd)) none) fun v11=>none)) fun p12=>none):=by kernel_rfl
theorem zcw(O:Oracle)(n0:Int)(g1:Nat)(l2:(List V))(l3:(List V))(n4:Int)(n5:Int)(n6:Int)(l7:(List V))(l8:(List V))(n9:Int)(st:St):Zz Tryz.prog cfg O 151 3 [.int n0, .fn g1 l2 l3, .int n4, .loc false (some 3) (.agg [.int n5, .int n6, .vec .plain (some 3) l7]), .vec .plain (some 3) l8, .int n9] st=
 bc (decide (n0<n9)) (gd (decide (0≤n0)&&decide (n0<(↑l8.length:Int))) (Zc [CT.int,CT.int,CT.slice (some 3)] (ZP l8 n0) fun n1 n2 l3_1=>Za (Zj O
 184 [V.agg [V.int n5,V.int n6,V.vec .plain (some 3) l7],V.int n0,V.int n4]) fun r4=>Zm r4 fun n5_1=>Za (O.call 151 [V.agg [V.int n1,V.int n2,
 V.vec .plain (some 3) l3_1],V.int n5_1,V.fn g1 l2 l3] st) fun r6=>Zx r6.fst (fun v7=>ZM v7 fun c8=>Zn c8 (O.2 151 3 [V.int (IntKind.i64.wrap (n0+1)),
 V.fn g1 l2 l3,V.int n4,V.loc false (some 3) (V.agg [V.int n5,V.int n6,V.vec .plain (some 3) l7]),V.vec .plain (some 3) l8,V.int n9] r6.snd)) fun p9=>none)) (some (Ex.exit
 0,[],st)):=by kernel_rfl
theorem zf2(O:Oracle)(n0:Int)(n1:Int)(l2:(List V))(n3:Int)(b:Bool):Ze Tryz.prog cfg O 155 [.agg [.int n0, .int n1, .vec .plain (some 3) l2], .int n3, .ref 0 0] [.box [.bool b]]=
 bc (n0==6) (Za (Zj O 156 [V.vec .plain (some 3) l2,V.int n3]) fun r1=>ZM r1 fun c2=>Zd c2 fun v3 c4=>Yp none v3 fun l5=>Zd c4 fun v6 c7
 =>Zl v6 fun b8=>Zn c7 (bc b (some (Out.ret (V.tup []),[Res.box [V.bool b8]])) (some (Out.ret (V.tup []),[Res.box [V.bool false]])))) (some (Out.ret (V.tup []),
 [Res.box [V.bool b]])):=by kernel_rfl
theorem zi4(O:Oracle)(l0:(List V))(n1:Int):Ze Tryz.prog cfg O 156 [.vec .plain (some 3) l0, .int n1] []=
 Za (O.loop 156 3 [V.int 0,V.vec Mode.grow none [],V.int n1,V.vec .plain (some 3) l0,V.int (↑l0.length:Int)] []) fun r1=>Xk r1.fst none (Zd r1.snd.fst
 fun v2 c3=>Yp none v2 fun l4=>Zd c3 fun v5 c6=>Zl v5 fun b7=>Zn c6 (gd (below 0 (V.tup [V.vec .plain none l4,V.bool b7])&&Zt 0 []) (some (Out.ret
 (V.tup [V.vec .plain none l4,V.bool b7]),[])))) (fun i8=>bc (i8.beq 0) (Zd r1.snd.fst fun v9 c10=>Xr none v9 fun l11=>Zn c10 (gd (below 0 (V.tup [V.vec .plain
 none l11,V.bool true])&&Zt 0 []) (some (Out.ret (V.tup [V.vec .plain none l11,V.bool true]),[])))) none) fun v12=>none:=by kernel_rfl
theorem zbr(O:Oracle)(n0:Int)(l1:(List V))(n2:Int)(l3:(List V))(n4:Int):Zz Tryz.prog cfg O 156 3 [.int n0, .vec .grow none l1, .int n2, .vec .plain (some 3) l3, .int n4] []=
 bc (decide (n0<n4)) (gd (decide (0≤n0)&&decide (n0<(↑l3.length:Int))) (Zc [CT.int,CT.int,CT.slice (some 3)] (ZP l3 n0) fun n1 n2_1 l3_1=>bc (n1 !=4) (some
 (Ex.ret,[V.vec .plain none [],V.bool false],[])) (bc (decide ((↑l3_1.length:Int)>0)) (some (Ex.ret,[V.vec .plain none [],V.bool false],[])) (bc (decide (n2_1<0)) (some
 (Ex.ret,[V.vec .plain none [],V.bool false],[])) (bc (decide (n2_1≥n2)) (some (Ex.ret,[V.vec .plain none [],V.bool false],[])) (Za (Zj O 113
 [V.vec .plain none l1,V.int n2_1]) fun r4=>Zl r4 fun b5=>bc b5 (some (Ex.ret,[V.vec .plain none [],V.bool false],[])) (gd (true&&roomFor Tryz.prog 3 (l1.length
 +[V.int n2_1].length)) (O.2 156 3 [V.int (IntKind.i64.wrap (n0+1)),V.vec Mode.grow none (l1++[V.int n2_1]),V.int n2,V.vec .plain (some 3) l3,V.int n4]
 [])))))))) (some (Ex.exit 0,[V.vec Mode.grow none l1],[])):=by kernel_rfl
theorem zka(O:Oracle)(n0:Int)(n1:Int)(l2:(List V))(n3:Int)(n4:Int):Ze Tryz.prog cfg O 184 [.agg [.int n0, .int n1, .vec .plain (some 3) l2], .int n3, .int n4] []=
 bc (n0==1) (bc (n3==IntKind.i64.wrap ((↑l2.length:Int)-1)) (some (Out.ret (V.int (IntKind.i64.wrap (n4+1))),[])) (some (Out.ret (V.int n4),[]))) (bc (n0==3) (bc (n3
 ==IntKind.i64.wrap ((↑l2.length:Int)-1)) (some (Out.ret (V.int (IntKind.i64.wrap (n4+1))),[])) (some (Out.ret (V.int n4),[]))) (some (Out.ret (V.int n4),[]))):=by kernel_rfl
theorem zbz(O:Oracle)(l0:(List V))(n1:Int):Ze Tryz.prog cfg O 113 [.vec .plain none l0, .int n1] []=
 Za (Zj O 154 [V.vec .plain none l0,V.int n1]) fun r1=>Zm r1 fun n2=>some (Out.ret (V.bool (decide (n2≥0))),[]):=by kernel_rfl
theorem J9(O:Oracle)(l0:(List V))(n1:Int):Ze Tryz.prog cfg O 154 [.vec .plain none l0, .int n1] []=
 Za (O.loop 154 2 [V.int 0,V.vec .plain none l0,V.int n1,V.int (↑l0.length:Int)] []) fun r1=>Xk r1.fst none (Zd r1.snd.fst fun v2 c3=>Zm v2
 fun n4=>Zn c3 (some (Out.ret (V.int n4),[]))) (fun i5=>bc (i5.beq 0) (Zn r1.snd.fst (some (Out.ret (V.int (-1)),[]))) none) fun v6=>none:=by kernel_rfl
theorem QO(O:Oracle)(n0:Int)(l1:(List V))(n2:Int)(n3:Int):Zz Tryz.prog cfg O 154 2 [.int n0, .vec .plain none l1, .int n2, .int n3] []=
 bc (decide (n0<n3)) (gd (decide (0≤n0)&&decide (n0<(↑l1.length:Int))) (Zm (ZP l1 n0) fun n1=>bc (n2==n1) (some (Ex.ret,[V.int n0],[])) (O.2
 154 2 [V.int (IntKind.i64.wrap (n0+1)),V.vec .plain none l1,V.int n2,V.int n3] []))) (some (Ex.exit 0,[],[])):=by kernel_rfl
end Go.Proofs.CL
