import Derived.Test.YthhifgeblblmcaaGreatGa
import Derived.KernelRfl
import Derived.Test.YthhifgeblblmcaaGreatAMd
/- The program's functions, each an equation of the abstract machine checked by the kernel, and what they come to as_ plain Lean. -/
set_option linter.unusedVariables false
set_option linter.unusedSimpArgs false
set_option linter.unusedSectionVars false
namespace Go.Proofs.CL
open Go Go.AM
set_option maxRecDepth 20000
theorem zku(O:Oracle)(l0:(List V))(l1:(List V))(l2:(List V))(n3:Int)(n4:Int)(l5:(List V))(n6:Int)(n7:Int)(l8:(List V)):Zf Tryz.prog cfg O 30 [.vec .plain (some 4) l0, .vec .plain (some 5) l1, .vec .plain (some 3) l2, .agg [.int n3, .int n4, .vec .plain (some 3) l5], .agg [.int n6, .int n7, .vec .plain (some 3) l8]] []=
 Za (Zj O 88 [V.agg [V.vec .plain (some 4) l0,V.vec .plain (some 5) l1,V.vec .plain (some 3) l2],V.vec .plain (some 3) [V.agg [V.int n3,V.int n4,V.vec
 .plain (some 3) l5],V.agg [V.int n6,V.int n7,V.vec .plain (some 3) l8]]]) fun r1=>Zi r1 fun b2=>bc (!b2) (some (Out.ret (V.int 1),[])) (Za (Zj O
 89 [V.agg [V.vec .plain (some 4) l0,V.vec .plain (some 5) l1,V.vec .plain (some 3) l2],V.agg [V.int n3,V.int n4,V.vec .plain (some 3) l5],V.agg [V.int n6,
 V.int n7,V.vec .plain (some 3) l8]]) fun r3=>Zp r3 fun n4=>some (Out.ret (V.int n4),[])):=by kernel_rfl
theorem zeT(O:Oracle)(l0:(List V))(l1:(List V))(l2:(List V))(l3:(List V)):Zf Tryz.prog cfg O 88 [.agg [.vec .plain (some 4) l0, .vec .plain (some 5) l1, .vec .plain (some 3) l2], .vec .plain (some 3) l3] []=
 bc (decide ((↑l2.length:Int)>1000)) (some (Out.ret (V.bool false),[])) (Za (O.call 73 [V.vec .plain (some 3) l3,V.fn
 134 [] []] []) fun r1=>Zx r1.fst (fun v2=>Zi v2 fun b3=>bc b3 (some (Out.ret (V.bool false),[])) (Za (O.call
 73 [V.vec .plain (some 3) l2,V.fn 134 [] []] r1.snd) fun r4=>Zx r4.fst (fun v5=>Zi v5 fun b6=>bc b6 (some
 (Out.ret (V.bool false),[])) (Za (O.call 136 [V.vec .plain (some 4) l0,V.fn 137 [] [V.cptr none (V.fn 134
 [] [])]] r4.snd) fun r7=>Zx r7.fst (fun v8=>Zi v8 fun b9=>bc (!b9) (Za (O.call 138 [V.vec .plain (some 5) l1,V.fn
 135 [] [V.cptr none (V.fn 134 [] [])]] r7.snd) fun r10=>Zx r10.fst (fun v11=>Zi v11 fun b12=>some (Out.ret (V.bool !b12),[])) fun p13
 =>none) (some (Out.ret (V.bool false),[]))) fun p14=>none)) fun p15=>none)) fun p16=>none):=by kernel_rfl
theorem zek(O:Oracle)(l0:(List V))(l1:(List V))(l2:(List V))(n3:Int)(n4:Int)(l5:(List V))(n6:Int)(n7:Int)(l8:(List V)):Zf Tryz.prog cfg O 89 [.agg [.vec .plain (some 4) l0, .vec .plain (some 5) l1, .vec .plain (some 3) l2], .agg [.int n3, .int n4, .vec .plain (some 3) l5], .agg [.int n6, .int n7, .vec .plain (some 3) l8]] []=
 bc (n3==3) (bc (n6==1) (gd (true&&decide (0<(↑l8.length:Int))) (Zc [CT.int,CT.int,CT.slice (some 3)] (ZZ l8 0) fun n1 n2 l3=>Za (Zj O
 139 [V.agg [V.vec .plain (some 4) l0,V.vec .plain (some 5) l1,V.vec .plain (some 3) l2],V.agg [V.int n1,V.int n2,V.vec .plain (some 3) l3]]) fun r4=>Zc
 [CT.slice (some 4),CT.slice (some 5),CT.slice (some 3)] r4 fun l5_1 l6 l7=>gd (true&&decide (0<(↑l5.length:Int))) (Zc [CT.int,CT.int,CT.slice (some 3)] (ZZ l5
 0) fun n8 n9 l10=>gd (true&&decide (1<(↑l8.length:Int))) (Zc [CT.int,CT.int,CT.slice (some 3)] (ZZ l8 1) fun n11 n12 l13=>Za (Zj O 89
 [V.agg [V.vec .plain (some 4) l5_1,V.vec .plain (some 5) l6,V.vec .plain (some 3) l7],V.agg [V.int n8,V.int n9,V.vec .plain (some 3) l10],V.agg [V.int n11,V.int n12,V.vec
 .plain (some 3) l13]]) fun r14=>Zp r14 fun n15=>some (Out.ret (V.int n15),[]))))) (bc (n3==3) (some (Out.ret (V.int 3),[])) (bc (n6 !=2) (some (Out.ret (V.int 3),[]))
 (gd (decide (0≤n3)&&decide (n3<7)) (gd (decide (n3.toNat*1+1≤7)&&true) (JL (AM.partOf [V.fn 140 [] [],V.fn 140 [] [],V.fn
 140 [] [],V.fn 140 [] [],V.fn 141 [] [],V.fn 142 [] [],V.fn 143 [] []] (n3.toNat*1) none)
 (fun g16 a17 b18=>bc (cfg.pure g16) (Za (Zj O g16 (a17++[V.agg [V.vec .plain (some 4) l0,V.vec .plain (some 5) l1,V.vec .plain (some 3) l2],V.agg [V.int n3,V.int n4,
 V.vec .plain (some 3) l5]]++b18)) fun r19=>ZQ r19 fun c20=>Zd c20 fun v21 c22=>Zc [CT.int,CT.int,CT.slice (some 3)] v21 fun n23 n24 l25=>Zd c22 fun
 v26 c27=>Zp v26 fun n28=>Zq c27 (bc (n28==0) (Za (Zj O 75 [V.agg [V.int n23,V.int n24,V.vec .plain (some 3) l25],V.agg [V.int n6,V.int n7,V.vec
 .plain (some 3) l8]]) fun r29=>Zi r29 fun b30=>bc (!b30) (some (Out.ret (V.int 3),[])) (some (Out.ret (V.int n28),[]))) (some (Out.ret (V.int n28),[])))) (Za (O.call
 g16 (a17++[V.agg [V.vec .plain (some 4) l0,V.vec .plain (some 5) l1,V.vec .plain (some 3) l2],V.agg [V.int n3,V.int n4,V.vec .plain (some 3) l5]]++b18) []) fun r31=>
 Zx r31.fst (fun v32=>ZQ v32 fun c33=>Zd c33 fun v34 c35=>Zc [CT.int,CT.int,CT.slice (some 3)] v34 fun n36 n37 l38=>Zd c35 fun v39 c40=>Zp v39
 fun n41=>Zq c40 (bc (n41==0) (Za (Zj O 75 [V.agg [V.int n36,V.int n37,V.vec .plain (some 3) l38],V.agg [V.int n6,V.int n7,V.vec .plain (some 3) l8]])
 fun r42=>Zi r42 fun b43=>bc (!b43) (some (Out.ret (V.int 3),[])) (some (Out.ret (V.int n41),[]))) (some (Out.ret (V.int n41),[])))) fun p44=>none)) fun l45=>
 none)))))) (bc (n3==3) (some (Out.ret (V.int 3),[])) (bc (n6 !=2) (some (Out.ret (V.int 3),[])) (gd (decide (0≤n3)&&decide (n3<7)) (gd (decide (n3.toNat*1+1≤7)&&
 true) (JL (AM.partOf [V.fn 140 [] [],V.fn 140 [] [],V.fn 140 [] [],V.fn 140 [] [],V.fn 141 []
 [],V.fn 142 [] [],V.fn 143 [] []] (n3.toNat*1) none) (fun g46 a47 b48=>bc (cfg.pure g46) (Za (Zj O g46 (a47++[V.agg [V.vec .plain
 (some 4) l0,V.vec .plain (some 5) l1,V.vec .plain (some 3) l2],V.agg [V.int n3,V.int n4,V.vec .plain (some 3) l5]]++b48)) fun r49=>ZQ r49 fun c50=>Zd c50 fun v51
 c52=>Zc [CT.int,CT.int,CT.slice (some 3)] v51 fun n53 n54 l55=>Zd c52 fun v56 c57=>Zp v56 fun n58=>Zq c57 (bc (n58==0) (Za (Zj O 75
 [V.agg [V.int n53,V.int n54,V.vec .plain (some 3) l55],V.agg [V.int n6,V.int n7,V.vec .plain (some 3) l8]]) fun r59=>Zi r59 fun b60=>bc (!b60) (some (Out.ret (V.int
 3),[])) (some (Out.ret (V.int n58),[]))) (some (Out.ret (V.int n58),[])))) (Za (O.call g46 (a47++[V.agg [V.vec .plain (some 4) l0,V.vec .plain (some 5) l1,V.vec .plain
 (some 3) l2],V.agg [V.int n3,V.int n4,V.vec .plain (some 3) l5]]++b48) []) fun r61=>Zx r61.fst (fun v62=>ZQ v62 fun c63=>Zd c63 fun v64 c65=>Zc
 [CT.int,CT.int,CT.slice (some 3)] v64 fun n66 n67 l68=>Zd c65 fun v69 c70=>Zp v69 fun n71=>Zq c70 (bc (n71==0) (Za (Zj O 75 [V.agg [V.int n66,
 V.int n67,V.vec .plain (some 3) l68],V.agg [V.int n6,V.int n7,V.vec .plain (some 3) l8]]) fun r72=>Zi r72 fun b73=>bc (!b73) (some (Out.ret (V.int 3),[])) (some
 (Out.ret (V.int n71),[]))) (some (Out.ret (V.int n71),[])))) fun p74=>none)) fun l75=>none))))):=by kernel_rfl
theorem zd0(O:Oracle)(n0:Int)(n1:Int)(l2:(List V)):Zf Tryz.prog cfg O 134 [.agg [.int n0, .int n1, .vec .plain (some 3) l2]] []=
 Za (Zj O 82 [V.agg [V.int n0,V.int n1,V.vec .plain (some 3) l2]]) fun r1=>Zi r1 fun b2=>some (Out.ret (V.bool !b2),[]):=by kernel_rfl
theorem zd1(O:Oracle)(l0:(List V))(n1:Int)(n2:Int)(l3:(List V))(b4:Bool)(st:St):Zf Tryz.prog cfg O 135 [.agg [.vec .plain (some 3) l0, .int n1, .int n2, .vec .plain (some 3) l3, .bool b4], .cptr none (.fn 134 [] [])] st=
 Za (Zj O 134 [V.agg [V.int n1,V.int n2,V.vec .plain (some 3) l3]]) fun r1=>Zi r1 fun b2=>bc b2 (X5 (List.length st) (V.bool true) st) (Za
 (O.call 73 [V.vec .plain (some 3) l0,V.fn 134 [] []] st) fun r3=>Zx r3.fst (fun v4=>Zi v4 fun b5=>X5
 (List.length st) (V.bool b5) r3.snd) fun p6=>none):=by kernel_rfl
theorem zd2(O:Oracle)(s0:ByteArray)(n1:Int)(n2:Int)(l3:(List V))(st:St):Zf Tryz.prog cfg O 137 [.agg [.str s0, .int n1, .int n2, .vec .plain (some 3) l3], .cptr none (.fn 134 [] [])] st=
 Za (Zj O 134 [V.agg [V.int n1,V.int n2,V.vec .plain (some 3) l3]]) fun r1=>Zi r1 fun b2=>X5 (List.length st) (V.bool b2) st:=by kernel_rfl
theorem zcc(O:Oracle)(l0:(List V))(l1:(List V))(l2:(List V))(n3:Int)(b4:Bool):Zf Tryz.prog cfg O 178 [.agg [.vec .plain (some 4) l0, .vec .plain (some 5) l1, .vec .plain (some 3) l2], .int n3, .bool b4] []=
 bc (decide (n3≥(↑l0.length:Int))) (some (Out.ret (V.tup [V.agg [V.int 0,V.int 0,V.vec .plain (some 3) []],V.int 2]),[])) (gd (decide (0≤n3)&&decide (n3<(↑l0.length:
 Int))) (Xq (ZZ l0 n3) fun c1=>gd (decide (4≤c1.length)) (onCells [CT.int,CT.int,CT.slice (some 3)] (List.take 3 (List.drop 1 c1)) fun n2 n3_1 l4=>Za (Zj O
 95 [V.agg [V.int n2,V.int n3_1,V.vec .plain (some 3) l4]]) fun r5=>Zi r5 fun b6=>bc (!b6==b4) (some (Out.ret (V.tup [V.agg [V.int 0,V.int 0,V.vec .plain
 (some 3) []],V.int 2]),[])) (gd (decide (0≤n3)&&decide (n3<(↑l0.length:Int))) (Xq (ZZ l0 n3) fun c7=>gd (decide (4≤c7.length)) (onCells [CT.int,CT.int,
 CT.slice (some 3)] (List.take 3 (List.drop 1 c7)) fun n8 n9 l10=>gd (below 0 (V.tup [V.agg [V.int n8,V.int n9,V.vec .plain (some 3) l10],V.int 0])&&true) (some (Out.ret
 (V.tup [V.agg [V.int n8,V.int n9,V.vec .plain (some 3) l10],V.int 0]),[])))))))):=by kernel_rfl
theorem zd3(O:Oracle)(l0:(List V))(l1:(List V))(l2:(List V))(n3:Int)(n4:Int)(l5:(List V))(l6:(List V)):Zf Tryz.prog cfg O 176 [.agg [.vec .plain (some 4) l0, .vec .plain (some 5) l1, .vec .plain (some 3) l2], .agg [.int n3, .int n4, .vec .plain (some 3) l5], .vec .plain (some 3) l6] []=
 Za (O.loop 176 2 [V.loc true (some 3) (V.agg [V.int 0,V.int 0,V.vec Mode.full (some 3) []]),V.int 0,V.loc false (some 3) (V.agg [V.int n3,V.int n4,V.vec
 .plain (some 3) l5]),V.loc false (some 3) (V.agg [V.vec .plain (some 4) l0,V.vec .plain (some 5) l1,V.vec .plain (some 3) l2]),V.vec .plain (some 3) l6,V.int (↑l6.length:
 Int)] []) fun r1=>XM r1.fst none (Zd r1.snd.fst fun v2 c3=>YM (some 3) v2 fun d4 v5=>Zd c3 fun v6 c7=>Zp v6 fun n8=>Zq c7 (gd (below 0 (V.tup [Zs
 v5,V.int n8])&&Zr 0 []) (some (Out.ret (V.tup [Zs v5,V.int n8]),[])))) (fun i9=>bc (i9.beq 0) (Zd r1.snd.fst fun v10 c11=>YM (some 3) v10 fun d12 v13=>
 Zd c11 fun v14 c15=>YM (some 3) v14 fun d16 v17=>Zc [CT.int,CT.int,CT.slice (some 3)] (bif d16 then Zs v17 else v17) fun n18 n19 l20=>Zq c15 (gd (below
 0 (V.tup [V.agg [V.int n18,V.int n19,V.vec .plain (some 3) l20],V.int 0])&&Zr 0 []) (some (Out.ret (V.tup [V.agg [V.int n18,V.int n19,V.vec .plain (some 3) l20],V.int
 0]),[])))) none) fun v21=>none:=by kernel_rfl
theorem Jc(O:Oracle)(v0:V)(n1:Int)(n2:Int)(n3:Int)(l4:(List V))(l5:(List V))(l6:(List V))(l7:(List V))(l8:(List V))(n9:Int):Z5 Tryz.prog cfg O 176 2 [.loc true (some 3) v0, .int n1, .loc false (some 3) (.agg [.int n2, .int n3, .vec .plain (some 3) l4]), .loc false (some 3) (.agg [.vec .plain (some 4) l5, .vec .plain (some 5) l6, .vec .plain (some 3) l7]), .vec .plain (some 3) l8, .int n9] []=
 bc (decide (n1<n9)) (gd (decide (0≤n1)&&decide (n1<(↑l8.length:Int))) (Zc [CT.int,CT.int,CT.slice (some 3)] (ZZ l8 n1) fun n1_1 n2_1 l3=>bc (n2 !=1) (some
 (Ex.ret,[V.loc false (some 3) (V.agg [V.int 0,V.int 0,V.vec .plain (some 3) []]),V.int 3],[])) (gd (true&&decide (0<(↑l4.length:Int))) (Zc [CT.int,CT.int,
 CT.slice (some 3)] (ZZ l4 0) fun n4 n5 l6_1=>Za (Zj O 89 [V.agg [V.vec .plain (some 4) l5,V.vec .plain (some 5) l6,V.vec .plain (some 3) l7],V.agg
 [V.int n1_1,V.int n2_1,V.vec .plain (some 3) l3],V.agg [V.int n4,V.int n5,V.vec .plain (some 3) l6_1]]) fun r7=>Zp r7 fun n8=>bc (n8 !=0) (some (Ex.ret,[V.loc false
 (some 3) (V.agg [V.int 0,V.int 0,V.vec .plain (some 3) []]),V.int n8],[])) (gd (true&&decide (1<(↑l4.length:Int))) (Zc [CT.int,CT.int,CT.slice (some 3)] (ZZ l4
 1) fun n9_1 n10 l11=>Za (Zj O 126 [V.agg [V.int n9_1,V.int n10,V.vec .plain (some 3) l11],V.agg [V.vec .plain (some 3) [V.agg [V.int n1_1,V.int n2_1,V.vec
 .plain (some 3) l3]],V.int 0]]) fun r12=>ZQ r12 fun c13=>Zd c13 fun v14 c15=>Zc [CT.int,CT.int,CT.slice (some 3)] v14 fun n16 n17 l18=>Zd c15 fun v19
 c20=>Zp v19 fun n21=>Zq c20 (bc (n21 !=0) (some (Ex.ret,[V.loc false (some 3) (V.agg [V.int 0,V.int 0,V.vec .plain (some 3) []]),V.int n21],[])) (O.2
 176 2 [V.loc true (some 3) v0,V.int (IntKind.i64.wrap (n1+1)),V.loc false (some 3) (V.agg [V.int n16,V.int n17,V.vec .plain (some 3) l18]),V.loc false (some
 3) (V.agg [V.vec .plain (some 4) l5,V.vec .plain (some 5) l6,V.vec .plain (some 3) l7]),V.vec .plain (some 3) l8,V.int n9] [])))))))) (some (Ex.exit 0,[V.loc true (some 3)
 v0,V.loc false (some 3) (V.agg [V.int n2,V.int n3,V.vec .plain (some 3) l4])],[])):=by kernel_rfl
theorem zel(O:Oracle)(l0:(List V))(l1:(List V))(l2:(List V))(n3:Int)(n4:Int)(l5:(List V)):Zf Tryz.prog cfg O 139 [.agg [.vec .plain (some 4) l0, .vec .plain (some 5) l1, .vec .plain (some 3) l2], .agg [.int n3, .int n4, .vec .plain (some 3) l5]] []=
 gd (true&&decide (0≤(↑l2.length:Int))&&decide ((↑l2.length:Int)≤(↑l2.length:Int))) (gd (decide ((↑l2.length:Int)=(↑l2.length:Int))&&(some (V.int (↑l2.length
 :Int))).isSome) (gd (true&&roomFor Tryz.prog 27 ((List.drop 0 (List.take (↑l2.length:Int).toNat l2)).length+[V.agg [V.int n3,V.int n4,V.vec .plain (some 3)
 l5]].length)) (gd (below 0 (V.agg [V.vec .plain (some 4) l0,V.vec .plain (some 5) l1,V.vec .plain (some 3) (List.drop 0 (List.take (↑l2.length:Int).toNat l2)++[V.agg [V.int
 n3,V.int n4,V.vec .plain (some 3) l5]])])&&true) (some (Out.ret (V.agg [V.vec .plain (some 4) l0,V.vec .plain (some 5) l1,V.vec .plain (some 3) (List.drop 0 (List.take
 (↑l2.length:Int).toNat l2)++[V.agg [V.int n3,V.int n4,V.vec .plain (some 3) l5]])]),[]))))):=by kernel_rfl
theorem zem(O:Oracle)(l0:(List V))(l1:(List V))(l2:(List V))(n3:Int)(n4:Int)(l5:(List V)):Zf Tryz.prog cfg O 140 [.agg [.vec .plain (some 4) l0, .vec .plain (some 5) l1, .vec .plain (some 3) l2], .agg [.int n3, .int n4, .vec .plain (some 3) l5]] []=
 some (Out.ret (V.tup [V.agg [V.int 0,V.int 0,V.vec .plain (some 3) []],V.int 3]),[]):=by kernel_rfl
theorem zcd(O:Oracle)(l0:(List V))(l1:(List V))(l2:(List V))(n3:Int)(n4:Int)(l5:(List V)):Zf Tryz.prog cfg O 141 [.agg [.vec .plain (some 4) l0, .vec .plain (some 5) l1, .vec .plain (some 3) l2], .agg [.int n3, .int n4, .vec .plain (some 3) l5]] []=
 bc (decide (n4≥(↑l2.length:Int))) (some (Out.ret (V.tup [V.agg [V.int 0,V.int 0,V.vec .plain (some 3) []],V.int 2]),[])) (gd (decide (0≤IntKind.i64.wrap
 (IntKind.i64.wrap ((↑l2.length:Int)-1)-n4))&&decide (IntKind.i64.wrap (IntKind.i64.wrap ((↑l2.length:Int)-1)-n4)<(↑l2.length:Int))) (Zc [CT.int,CT.int,
 CT.slice (some 3)] (ZZ l2 (IntKind.i64.wrap (IntKind.i64.wrap ((↑l2.length:Int)-1)-n4))) fun n1 n2 l3=>Za (Zj O 177 [V.agg [V.int n1,V.int n2,V.vec .plain
 (some 3) l3],V.int (IntKind.i64.wrap (n4+1)),V.int 0]) fun r4=>Zc [CT.int,CT.int,CT.slice (some 3)] r4 fun n5 n6 l7=>Za (Zj O 176 [V.agg
 [V.vec .plain (some 4) l0,V.vec .plain (some 5) l1,V.vec .plain (some 3) l2],V.agg [V.int n5,V.int n6,V.vec .plain (some 3) l7],V.vec .plain (some 3) l5]) fun r8=>ZQ r8
 fun c9=>Zd c9 fun v10 c11=>Zc [CT.int,CT.int,CT.slice (some 3)] v10 fun n12 n13 l14=>Zd c11 fun v15 c16=>Zp v15 fun n17=>Zq c16 (gd (below 0 (V.tup
 [V.agg [V.int n12,V.int n13,V.vec .plain (some 3) l14],V.int n17])&&true) (some (Out.ret (V.tup [V.agg [V.int n12,V.int n13,V.vec .plain (some 3) l14],V.int n17]),[]))))):=by kernel_rfl
theorem zce(O:Oracle)(l0:(List V))(l1:(List V))(l2:(List V))(n3:Int)(n4:Int)(l5:(List V)):Zf Tryz.prog cfg O 142 [.agg [.vec .plain (some 4) l0, .vec .plain (some 5) l1, .vec .plain (some 3) l2], .agg [.int n3, .int n4, .vec .plain (some 3) l5]] []=
 Za (Zj O 178 [V.agg [V.vec .plain (some 4) l0,V.vec .plain (some 5) l1,V.vec .plain (some 3) l2],V.int n4,V.bool false]) fun r1=>ZQ r1 fun c2=>
 Zd c2 fun v3 c4=>Zc [CT.int,CT.int,CT.slice (some 3)] v3 fun n5 n6 l7=>Zd c4 fun v8 c9=>Zp v8 fun n10=>Zq c9 (bc (n10 !=0) (some (Out.ret (V.tup
 [V.agg [V.int 0,V.int 0,V.vec .plain (some 3) []],V.int n10]),[])) (Za (Zj O 176 [V.agg [V.vec .plain (some 4) l0,V.vec .plain (some 5) l1,V.vec .plain
 (some 3) l2],V.agg [V.int n5,V.int n6,V.vec .plain (some 3) l7],V.vec .plain (some 3) l5]) fun r11=>ZQ r11 fun c12=>Zd c12 fun v13 c14=>Zc [CT.int,CT.int,
 CT.slice (some 3)] v13 fun n15 n16 l17=>Zd c14 fun v18 c19=>Zp v18 fun n20=>Zq c19 (gd (below 0 (V.tup [V.agg [V.int n15,V.int n16,V.vec .plain (some 3) l17],
 V.int n20])&&true) (some (Out.ret (V.tup [V.agg [V.int n15,V.int n16,V.vec .plain (some 3) l17],V.int n20]),[]))))):=by kernel_rfl
theorem zen(O:Oracle)(l0:(List V))(l1:(List V))(l2:(List V))(n3:Int)(n4:Int)(l5:(List V)):Zf Tryz.prog cfg O 143 [.agg [.vec .plain (some 4) l0, .vec .plain (some 5) l1, .vec .plain (some 3) l2], .agg [.int n3, .int n4, .vec .plain (some 3) l5]] []=
 bc (decide (n4≥(↑l1.length:Int))) (some (Out.ret (V.tup [V.agg [V.int 0,V.int 0,V.vec .plain (some 3) []],V.int 2]),[])) (gd (decide (0≤n4)&&decide (n4<(↑l1.length:
 Int))) (Zc [CT.slice (some 3),CT.int,CT.int,CT.slice (some 3),CT.bool] (ZZ l1 n4) fun l1_1 n2 n3_1 l4 b5=>bc ((↑l1_1.length:Int) !=(↑l5.length:Int)) (some
 (Out.ret (V.tup [V.agg [V.int 0,V.int 0,V.vec .plain (some 3) []],V.int 3]),[])) (Za (O.loop 143 7 [V.loc true (some 3) (V.agg [V.int 0,V.int 0,V.vec
 Mode.full (some 3) []]),V.int 0,V.loc false (some 3) (V.agg [V.int n3,V.int n4,V.vec .plain (some 3) l5]),V.loc false (some 3) (V.agg [V.vec .plain (some 4) l0,V.vec .plain
 (some 5) l1,V.vec .plain (some 3) l2]),V.vec .plain (some 3) l1_1,V.loc false (some 5) (V.agg [V.vec .plain (some 3) l1_1,V.int n2,V.int n3_1,V.vec .plain (some 3) l4,
 V.bool b5]),V.int (↑l1_1.length:Int)] []) fun r6=>XM r6.fst none (Zd r6.snd.fst fun v7 c8=>YM (some 3) v7 fun d9 v10=>Zd c8 fun v11 c12=>Zp v11 fun n13
 =>Zq c12 (gd (below 0 (V.tup [Zs v10,V.int n13])&&Zr 0 []) (some (Out.ret (V.tup [Zs v10,V.int n13]),[])))) (fun i14=>bc (i14.beq 0) (Zd r6.snd.fst fun
 v15 c16=>YM (some 3) v15 fun d17 v18=>Zd c16 fun v19 c20=>YM (some 3) v19 fun d21 v22=>Zc [CT.slice (some 4),CT.slice (some 5),CT.slice (some 3)] (bif
 d21 then Zs v22 else v22) fun l23 l24 l25=>Zd c20 fun v26 c27=>YM (some 3) v26 fun d28 v29=>Zc [CT.int,CT.int,CT.slice (some 3)] (bif d28 then Zs v29
 else v29) fun n30 n31 l32=>Zd c27 fun v33 c34=>YM (some 5) v33 fun d35 v36=>Zc [CT.slice (some 3),CT.int,CT.int,CT.slice (some 3),CT.bool] (bif d35 then
 Zs v36 else v36) fun l37 n38 n39 l40 b41=>Zq c34 (Za (Zj O 126 [V.agg [V.int n38,V.int n39,V.vec .plain (some 3) l40],V.agg [V.vec .plain (some 3) l32,
 V.int (↑l25.length:Int)]]) fun r42=>ZQ r42 fun c43=>Zd c43 fun v44 c45=>Zc [CT.int,CT.int,CT.slice (some 3)] v44 fun n46 n47 l48=>Zd c45 fun v49 c50
 =>Zp v49 fun n51=>Zq c50 (gd (below 0 (V.tup [V.agg [V.int n46,V.int n47,V.vec .plain (some 3) l48],V.int n51])&&Zr 0 []) (some (Out.ret (V.tup [V.agg [V.int
 n46,V.int n47,V.vec .plain (some 3) l48],V.int n51]),[]))))) none) fun v52=>none))):=by kernel_rfl
theorem Jj(O:Oracle)(v0:V)(n1:Int)(n2:Int)(n3:Int)(l4:(List V))(l5:(List V))(l6:(List V))(l7:(List V))(l8:(List V))(l9:(List V))(n10:Int)(n11:Int)(l12:(List V))(b13:Bool)(n14:Int):Z5 Tryz.prog cfg O 143 7 [.loc true (some 3) v0, .int n1, .loc false (some 3) (.agg [.int n2, .int n3, .vec .plain (some 3) l4]), .loc false (some 3) (.agg [.vec .plain (some 4) l5, .vec .plain (some 5) l6, .vec .plain (some 3) l7]), .vec .plain (some 3) l8, .loc false (some 5) (.agg [.vec .plain (some 3) l9, .int n10, .int n11, .vec .plain (some 3) l12, .bool b13]), .int n14] []=
 bc (decide (n1<n14)) (gd (decide (0≤n1)&&decide (n1<(↑l8.length:Int))) (Zc [CT.int,CT.int,CT.slice (some 3)] (ZZ l8 n1) fun n1_1 n2_1 l3=>gd (true&&decide
 (0≤n1)&&decide (n1≤(↑l4.length:Int))) (Za (Zj O 126 [V.agg [V.int n1_1,V.int n2_1,V.vec .plain (some 3) l3],V.agg [V.vec .plain (some 3) (List.drop 0
 (List.take n1.toNat l4)),V.int (↑l7.length:Int)]]) fun r4=>ZQ r4 fun c5=>Zd c5 fun v6 c7=>Zc [CT.int,CT.int,CT.slice (some 3)] v6 fun n8 n9 l10=>Zd
 c7 fun v11 c12=>Zp v11 fun n13=>Zq c12 (bc (n13==0) (gd (decide (0≤n1)&&decide (n1<(↑l4.length:Int))) (Zc [CT.int,CT.int,CT.slice (some 3)] (ZZ l4
 n1) fun n14_1 n15 l16=>Za (Zj O 89 [V.agg [V.vec .plain (some 4) l5,V.vec .plain (some 5) l6,V.vec .plain (some 3) l7],V.agg [V.int n14_1,V.int n15,
 V.vec .plain (some 3) l16],V.agg [V.int n8,V.int n9,V.vec .plain (some 3) l10]]) fun r17=>Zp r17 fun n18=>bc (n18 !=0) (some (Ex.ret,[V.loc false (some 3) (V.agg
 [V.int 0,V.int 0,V.vec .plain (some 3) []]),V.int n18],[])) (O.2 143 7 [V.loc true (some 3) v0,V.int (IntKind.i64.wrap (n1+1)),V.loc false (some 3) (V.agg
 [V.int n2,V.int n3,V.vec .plain (some 3) l4]),V.loc false (some 3) (V.agg [V.vec .plain (some 4) l5,V.vec .plain (some 5) l6,V.vec .plain (some 3) l7]),V.vec .plain (some 3)
 l8,V.loc false (some 5) (V.agg [V.vec .plain (some 3) l9,V.int n10,V.int n11,V.vec .plain (some 3) l12,V.bool b13]),V.int n14] []))) (bc (n13 !=0) (some (Ex.ret,[V.loc
 false (some 3) (V.agg [V.int 0,V.int 0,V.vec .plain (some 3) []]),V.int n13],[])) (O.2 143 7 [V.loc true (some 3) v0,V.int (IntKind.i64.wrap (n1+1)),V.loc
 false (some 3) (V.agg [V.int n2,V.int n3,V.vec .plain (some 3) l4]),V.loc false (some 3) (V.agg [V.vec .plain (some 4) l5,V.vec .plain (some 5) l6,V.vec .plain (some 3) l7]),
 V.vec .plain (some 3) l8,V.loc false (some 5) (V.agg [V.vec .plain (some 3) l9,V.int n10,V.int n11,V.vec .plain (some 3) l12,V.bool b13]),V.int n14] [])))))) (some (Ex.exit
 0,[V.loc true (some 3) v0,V.loc false (some 3) (V.agg [V.vec .plain (some 4) l5,V.vec .plain (some 5) l6,V.vec .plain (some 3) l7]),V.loc false (some 3) (V.agg [V.int n2,
 V.int n3,V.vec .plain (some 3) l4]),V.loc false (some 5) (V.agg [V.vec .plain (some 3) l9,V.int n10,V.int n11,V.vec .plain (some 3) l12,V.bool b13])],[])):=by kernel_rfl
end Go.Proofs.CL
namespace Go.Proofs.CL
open Go Go.AM Go.Ama
def zbg(t:T):Res:= .box [.int t.k, .int t.h, .vec .plain (some 3) (Zg t.args)]
theorem znu(a b u:T)(x:Res):W.round 2 144 3 [.ref 0 0] [enc a,enc b] [zbg u,x, .loop 144 3 [.ref 0 0] .ready none]=some (true,[zbg b,x, .loop 144 3 [.ref 0 0] .ready none]):=by
 rw[Rd]
 conv=>lhs;rw[Zb a,Zb b]
 exact zhA W _ _ _ _ _ _ _ _ _ x
theorem zlO: ∀(n:Nat) (t u:T),t.size≤n→
  W.loop 207 0 [.ref 1 0, .yld 2] [zbg u,zbg t, .loop 144 3 [.ref 0 0] .ready none]=
   some (.exit 0,[],[zbg (if(split t).1=[]then u else(split t).2),zbg (split t).2, .loop 144 3 [.ref 0 0] .ready none]):=by
 intro n
 induction n with
 |zero=>intro t _ h;have:=Qd t;omega
 |succ n ih=>
  intro t u h
  have hp:=Qd t
  rw[L]
  conv=>lhs;rw[show zbg t= .box [.int t.k, .int t.h, .vec .plain (some 3) (Zg t.args)]from rfl]
  rw[zgF,Zh,zly,JY]
  by_cases c1:t.k=1
  ·by_cases c2:t.args.length=2
   ·obtain⟨a,b,hab⟩:=zoR c2
    have hb:=zdv (t:=t) (b:=b) (by rw[hab];simp)
    have g0:ZZ (Zg t.args) 0=enc a:=by rw[hab];rfl
    have g1:ZZ (Zg t.args) 1=enc b:=by rw[hab];rfl
    have hrd:=znu a b u (zbg t)
    have:=ih b b (by omega)
    rw[zhC c1 hab]
    simp only[c1,c2,decide_true,Yc,g0,g1,Y2,←Zb,Bool.true_and,show decide ((0:Int)<((2:Nat):Int))=true from rfl,show decide ((1:Int)<((2:Nat):Int))=true from rfl,Yi,zaM,zbZ]
    have hbt:zbg t= .box [.int 1, .int t.h, .vec .plain (some 3) (Zg t.args)]:=by unfold zbg;rw[c1]
    rw[hbt]at hrd
    rw[hrd,Zl]
    simp only[Bool.not_true,ZJ]
    have hget: ∀{R:Type} (K:Res→Option R),Zz [zbg b,Res.box [V.int 1,V.int t.h,V.vec .plain (some 3) (Zg t.args)],Res.loop 144 3 [V.ref 0 0] LSt.ready none] 1 K=K (Res.box [V.int 1,V.int t.h,V.vec .plain (some 3) (Zg t.args)]):=fun K=>rfl
    rw[hget,zji]
    have hc:Zs (AM.partOf [V.int 1,V.int t.h,V.vec .plain (some 3) (Zg t.args)] 2 none)= .vec .plain (some 3) (Zg t.args):=rfl
    rw[hc,QQ,g1,Y2,hget,zji]
    have h1l:decide ((1:Int)<((Zg t.args).length:Int))=true:=by rw[Zh,c2];rfl
    rw[h1l]
    simp only[List.length_cons,List.length_nil,Nat.zero_add,Nat.reduceAdd,Nat.le_refl,decide_true,Bool.and_self,Yi]
    have hset:List.set [zbg b,Res.box [V.int 1,V.int t.h,V.vec .plain (some 3) (Zg t.args)],Res.loop 144 3 [V.ref 0 0] LSt.ready none] 1
      (Res.box (setCells [V.int 1,V.int t.h,V.vec .plain (some 3) (Zg t.args)] 0 [V.int b.k,V.int b.h,V.vec .plain (some 3) (Zg b.args)]))=[zbg b,zbg b, .loop 144 3 [.ref 0 0] .ready none]:=rfl
    rw[hset,this]
    simp only[if_neg (List.cons_ne_nil a (split b).1)]
    by_cases c:(split b).1=[]
    ·have hsb:(split b).2=b:=by
      by_cases c':b.k=1∧b.args.length=2
      ·obtain⟨a',b',hab'⟩:=zoR c'.2
       rw[zhC c'.1 hab']at c;cases c
      ·rw[zdw c']
     rw[if_pos c,hsb]
    ·rw[if_neg c]
   ·rw[zdw fun c=>c2 c.2]
    simp only[c1,c2,decide_true,decide_false,Yc,ZJ,if_true]
    rw[←c1]
    rfl
  ·rw[zdw fun c=>c1 c.1]
   simp only[c1,decide_false,ZJ,if_true]
   rfl
theorem znv(t:T):Ev 144 [enc t] (enc (split t).2):=by
 unfold Ev
 have h:=zlO t.size t t (Nat.le_refl _)
 have hlast:(if(split t).1=[]then t else(split t).2)=(split t).2:=by
  by_cases c':t.k=1∧t.args.length=2
  ·obtain⟨a',b',hab'⟩:=zoR c'.2
   rw[zhC c'.1 hab',if_neg (List.cons_ne_nil _ _)]
  ·rw[zdw c',if_pos rfl]
 rw[hlast]at h
 have hc:W.call 207 [.yld 2, .ref 1 0] [zbg t, .box [.int t.k, .int t.h, .vec .plain (some 3) (Zg t.args)], .loop 144 3 [.ref 0 0] .ready none]=
   some (.ret (.tup []),[zbg (split t).2,zbg (split t).2, .loop 144 3 [.ref 0 0] .ready none]):=by
  rw[C,zkq]
  have h':W.loop 207 0 [V.ref 1 0,V.yld 2] [zbg t,Res.box [V.int t.k,V.int t.h,V.vec .plain (some 3) (Zg t.args)], .loop 144 3 [.ref 0 0] .ready none]=_:=h
  rw[h',Zl,zfK]
  rfl
 rw[C]
 conv=>lhs;rw[Zb]
 have hpis:W.call 179 [V.agg [V.int t.k,V.int t.h,V.vec .plain (some 3) (Zg t.args)]] [Res.box [V.int t.k,V.int t.h,V.vec .plain (some 3) (Zg t.args)]]=
   some (.ret (V.fn 207 [] [V.ref 1 0]),[zbg t,Res.box [V.int t.k,V.int t.h,V.vec .plain (some 3) (Zg t.args)]]):=by
  rw[C,zne];rfl
 rw[zl8,hpis,Zl,Yy,zgR]
 have hc':W.call 207 ([]++[V.yld (List.length [zbg t,Res.box [V.int t.k,V.int t.h,V.vec .plain (some 3) (Zg t.args)]])]++[V.ref 1 0])
   ([zbg t,Res.box [V.int t.k,V.int t.h,V.vec .plain (some 3) (Zg t.args)]]++[Res.loop 144 3 [V.ref 0 0] LSt.ready none])=_:=hc
 rw[hc',Zl,Yy]
 have hfin:gd (below 0 (enc (split t).2)&&Zr 0 []) (some (Out.ret (enc (split t).2),([]:St)))=some (Out.ret (enc (split t).2),[]):=by
  rw[zfI];rfl
 have hfin':=hfin
 rw[Zb (split t).2]at hfin'
 rw[Zb (split t).2]
 exact hfin'
theorem zpe(t:T):Ev 95 [enc t] (.bool (decide ((split t).2.k=0))):=by
 unfold Ev
 rw[C,Zb,zl7,←Zb,(znv t).p]
 simp only[Zl,Y2,JY]
end Go.Proofs.CL
namespace Go.Ama
open Go Go.AM
theorem zeU{t:T}:may t=true↔Qv t=true∧t.size≤4000∧t.depth≤60:=by
 unfold may;simp only[Bool.and_eq_true,decide_eq_true_eq]
theorem zpf{t x:T}(h:x∈t.args):x.depth<t.depth:=by
 cases t with
 |mk k hd ys=>have:=zeS h;simp only[T.args]at this h;have:=zeS h;simp only[T.depth];omega
theorem zeV{t x:T}(h:may t=true)(hx:x∈t.args):may x=true:=by
 obtain⟨h1,h2,h3⟩:=zeU.1 h
 refine zeU.2 ⟨?_,by have:=zdv hx;omega,by have:=zpf hx;omega⟩
 cases t with
 |mk k hd ys=>
  simp only[Qv,Bool.and_eq_true,zhB,List.all_eq_true]at h1
  exact h1.2 x hx
theorem zlP{t:T}(h:may t=true):zgG t.k t.h t.args.length=true:=by
 obtain⟨h1,_⟩:=zeU.1 h
 cases t with
 |mk k hd ys=>simp only[Qv,Bool.and_eq_true]at h1;exact h1.1
theorem znw{t:T}(h:may t=true)(hk:t.k=1):t.args.length=2:=by
 have:=zlP h
 rw[hk]at this
 simp[zgG]at this
 exact this.2
mutual
theorem zqt{B:Int}(hB:1099511627776≤B): ∀t:T,Qv t=true→low t=true→okB B t
 | .mk k h ys,h1,h2=>by
  simp only[Qv,Bool.and_eq_true]at h1
  simp only[low,Bool.and_eq_true,decide_eq_true_eq]at h2
  refine⟨⟨?_,by omega⟩, ?_,zoe hB ys h1.2 h2.2⟩
  ·have:=h1.1
   unfold zgG at this
   repeat' split at this
   all_goals simp at this;omega
  ·rintro rfl e
   subst e
   have:=h1.1
   simp[zgG]at this
theorem zoe{B:Int}(hB:1099511627776≤B): ∀l:List T,Ju l=true→low.lows l=true→zaB B l
 |[],_,_=>trivial
 |a::l,h1,h2=>by
  simp only[Ju,Bool.and_eq_true]at h1
  simp only[low.lows,Bool.and_eq_true]at h2
  exact⟨zqt hB a h1.1 h2.1,zoe hB l h1.2 h2.2⟩
end
theorem zb4{B:Int}{t x:T}(h:okB B t)(hx:x∈t.args):okB B x:=by
 cases t with
 |mk k hd ys=>exact(XI B ys).1 h.2.2 x hx
theorem zrk{j:Job}{o:Oj}(h:Big j o): ∀e,o= .e e→e=3∨e=4:=by
 induction h with
 |apLimit=>rintro e ⟨⟩;exact .inr rfl
 |apErr _ _ _ ih=>rintro e ⟨⟩;exact ih _ rfl
 |apNode=>rintro e ⟨⟩
 |apVar _ _ _ _ _ _ _ _ _ ih=>exact ih
 |arNil=>rintro e ⟨⟩
 |arErr _ _ ih=>rintro e ⟨⟩;exact ih _ rfl
 |arErr2 _ _ _ _ ih=>rintro e ⟨⟩;exact ih _ rfl
 |arCons=>rintro e ⟨⟩
 |spNil=>rintro e ⟨⟩
 |spMay=>rintro e ⟨⟩;exact .inr rfl
 |spErr _ _ _ _ _ ih=>rintro e ⟨⟩;exact ih _ rfl
 |spLam _ _ _ _ _ _ _ ih=>exact ih
 |spApp=>rintro e ⟨⟩
 |spType=>rintro e ⟨⟩;exact .inl rfl
theorem zb5{β:Int}(hβ:ZN β){t:T}{l:List T}{s:Int}(ht:may t=true→okB β t)(hl:zdO l s=true→ ∀x∈l,okB β x)(h:(Y3 t l s).2=0):
  may (Y3 t l s).1=true∧okB (β+83886080000) (Y3 t l s).1∧ ∃m,Big (.ap 0 t l s) (.t (Y3 t l s).1 m):=by
 unfold Y3 zcS at h⊢
 split at h
 ·rename_i hm
  rw[if_pos hm]
  simp only[Bool.and_eq_true]at hm
  obtain⟨hB,hP,_⟩:=zob hβ (ht hm.1) (hl hm.2) hm.1 hm.2
  generalize znp t l s=o at*
  cases o with
  |l _ _=>exact hP.elim
  |e e=>
   rcases zrk hB e rfl with rfl|rfl<;>simp[zb3]at h
  |t u m=>
   obtain⟨p1,p2,p3,p4⟩:=hP
   have hmu:may u=true:=by
    cases hx:may u with
    |true=>rfl
    |false=>simp[zb3,hx]at h
   have e:(zb3 (.t u m)).1=u:=by simp[zb3,hmu]
   rw[e]
   exact⟨hmu,Zy (by unfold bnd;omega) u p4,m,hB⟩
 ·simp at h
end Go.Ama
namespace Go.Ama
open Go Go.AM
end Go.Ama
namespace Go.Ama
open Go Go.AM
end Go.Ama
namespace Go.Ama
open Go Go.AM
def Qq(sig:List D)(i:Int)(kind:Bool):Option T:=
 if h:0≤i∧i<sig.length then(if decide ((split (sig[i.toNat]'(by omega)).t).2.k=0)=kind then some (sig[i.toNat]'(by omega)).t else none)else none
mutual
noncomputable def Jk(sig:List D)(ms:List M):T→List T→T→Int
 | .mk k h as_,ctx,a=>
  if k=3∧a.k=1 then zrB sig ms as_ (ctx++[a.args.getD 0 T0]) (a.args.getD 1 T0)
  else if k=3∨a.k≠2 then 3
  else
   let r:T×Int:=
    if k=4 then(if(ctx.length:Int)≤h then(T0,2)else Y6 sig ms as_ ctx (upP (ctx.getD (ctx.length-1-h.toNat) T0) (h+1) 0))
    else if k=5 then(match Qq sig h false with|none=>(T0,2)|some t=>Y6 sig ms as_ ctx t)
    else if k=6 then
     (if(ms.length:Int)≤h then(T0,2)
      else
      let d:=ms.getD h.toNat ⟨[],T0,false⟩
      if d.ctx.length≠as_.length then(T0,3)
      else
       let e:=zdR sig ms as_ ctx [] d.ctx
       if e≠0 then(T0,e)else Y3 d.t as_ ctx.length)
    else(T0,3)
   if r.2≠0 then r.2 else if r.1.same a then 0 else 3
noncomputable def zrB(sig:List D)(ms:List M):List T→List T→T→Int
 |[],_,_=>3
 |b::_,ctx,a=>Jk sig ms b ctx a
noncomputable def Y6(sig:List D)(ms:List M):List T→List T→T→T×Int
 |[],_,t=>(t,0)
 |a::as_,ctx,t=>
  if t.k≠1 then(T0,3)
  else
   let e:=Jk sig ms a ctx (t.args.getD 0 T0)
   if e≠0 then(T0,e)
   else
    let u:=Y3 (t.args.getD 1 T0) [a] 0
    if u.2≠0 then(T0,u.2)else Y6 sig ms as_ ctx u.1
noncomputable def zdR(sig:List D)(ms:List M):List T→List T→List T→List T→Int
 |[],_,_,_=>0
 |_::_,_,_,[]=>0
 |a::as_,ctx,done,d::ds=>
  let t:=Y3 d done ctx.length
  let e:=if t.2=0 then Jk sig ms a ctx t.1 else t.2
  if e≠0 then e else zdR sig ms as_ ctx (done++[a]) ds
end
def zlQ(m:M):Bool:=may m.t&&m.ctx.all may
def zlR(sig:List D)(ms:List M)(ctx l:List T):Bool:=
 decide (ctx.length≤1000)&&(l.all may&&(ctx.all may&&(sig.all (fun d=>may d.t)&&ms.all zlQ)))
noncomputable def QF(sig:List D)(ms:List M)(ctx:List T)(m a:T):Int:=if zlR sig ms ctx [m,a]then Jk sig ms m ctx a else 1
mutual
theorem zof{B b:Int}(hB:0≤b∧b≤1048576∧B≤9223372036850000000)(f:Int): ∀(t:T) (ar:Int),okB B t→okB (B+b) (upT b f ar t)
 | .mk k hd ys,ar,⟨h1,h2,h3⟩=>by
  simp only[upT,okB]
  refine⟨?_, ?_,zlS hB f ys ar h3⟩
  ·split
   ·unfold upV
    split
    ·rw[Zv ⟨by omega,by omega⟩];omega
    ·omega
   ·omega
  ·intro hk e
   have:=congrArg List.length e
   rw[Jv]at this
   exact h2 hk (List.length_eq_zero_iff.1 (by simpa using this))
theorem zlS{B b:Int}(hB:0≤b∧b≤1048576∧B≤9223372036850000000)(f:Int): ∀(l:List T) (ar:Int) {bd:Bool},zaB B l→zaB (B+b) (ups b f ar bd l)
 |[],ar,bd,_=>trivial
 |a::l,ar,bd,⟨h1,h2⟩=>by simp only[ups,zaB];exact⟨zof hB f a _ h1,zlS hB f l ar h2⟩
end
theorem zlT{B:Int}(hB:ZN B){t:T}(h:okB B t){b f:Int}(hb:0≤b):okB (B+1048576) (upP t b f):=by
 obtain⟨q1,q2⟩:=hB
 unfold upP;split
 ·rename_i hc
  simp only[Bool.and_eq_true,decide_eq_true_eq]at hc
  exact Zy (by omega) _ (zof (by omega) f t 0 h)
 ·exact Zy (by omega) t h
mutual
theorem zlU(b f:Int)(hb:0≤b): ∀(t:T) (ar:Int),Qv t=true→(∀B,okB B t→B≤9223372036850000000→b≤1048576→Qv (upT b f ar t)=true)
 | .mk k h as_,ar,hn=>fun B hB h1 h2=>by
  simp only[Qv,Bool.and_eq_true]at hn
  obtain⟨⟨q1,q2⟩,q3,q4⟩:=hB
  simp only[upT,Qv,Bool.and_eq_true,Jv]
  refine⟨?_,zjn b f hb as_ ar hn.2 B q4 h1 h2⟩
  split
  ·rename_i hk
   subst hk
   have:0≤upV b f ar h:=by
    unfold upV
    split
    ·rw[Zv ⟨by omega,by omega⟩];omega
    ·exact q1
   simp[zgG,this]
  ·exact hn.1
theorem zjn(b f:Int)(hb:0≤b): ∀(l:List T) (ar:Int) {bd:Bool},Ju l=true→(∀B,zaB B l→B≤9223372036850000000→b≤1048576→Ju (ups b f ar bd l)=true)
 |[],_,_,_=>fun _ _ _ _=>rfl
 |a::l,ar,bd,hn=>fun B hB h1 h2=>by
  simp only[Ju,Bool.and_eq_true]at hn
  simp only[ups,Ju,Bool.and_eq_true]
  exact⟨zlU b f hb a _ hn.1 B hB.1 h1 h2,zjn b f hb l ar hn.2 B hB.2 h1 h2⟩
end
mutual
theorem zlV(b f:Int): ∀(t:T) (ar:Int),(upT b f ar t).depth=t.depth
 | .mk k h as_,ar=>by simp only[upT,T.depth];rw[zhO b f as_ ar]
theorem zhO(b f:Int): ∀(l:List T) (ar:Int) {bd:Bool},Yd (ups b f ar bd l)=Yd l
 |[],ar,bd=>rfl
 |a::as_,ar,bd=>by simp only[ups,Yd];rw[zlV b f a,zhO b f as_]
end
theorem zog{B:Int}(hB:ZN B){t:T}(h:okB B t)(hm:may t=true){b f:Int}(hb:0≤b):may (upP t b f)=true:=by
 obtain⟨q1,q2⟩:=hB
 obtain⟨h1,h2,h3⟩:=zeU.1 hm
 unfold upP
 split
 ·rename_i hc
  simp only[Bool.and_eq_true,decide_eq_true_eq]at hc
  exact zeU.2 ⟨zlU b f hb t 0 h1 B h (by omega) (by omega),by rw[zkr];exact h2,by rw[zlV];exact h3⟩
 ·exact hm
end Go.Ama
namespace Go.Proofs.CL
open Go Go.AM Go.Ama
abbrev zcU(sig:List D)(ms:List M)(ctx:List T):V:= .agg [.vec .plain (some 4) (Y7 sig), .vec .plain (some 5) (ZV ms), .vec .plain (some 3) (Zg ctx)]
@[simp] theorem onW{R:Type}(a b c:List V)(K:List V→List V→List V→Option R):Zc (R:=R) [CT.slice (some 4),CT.slice (some 5),CT.slice (some 3)] (.agg [.vec .plain (some 4) a, .vec .plain (some 5) b, .vec .plain (some 3) c]) K=K a b c:=rfl
theorem znx(n:Nat)(sig:List D)(ms:List M)(ctx:List T):below n (zcU sig ms ctx)=true:=by simp[below,Zk,Z4]
theorem zpg(sig:List D)(ms:List M)(ctx:List T)(a:T)(h:ctx.length≤1099511627776):Ev 139 [zcU sig ms ctx,enc a] (zcU sig ms (ctx++[a])):=by
 have hr:roomFor Tryz.prog 27 (ctx.length+1)=true:=zca (by omega)
 have htk:List.take ctx.length (Zg ctx)=Zg ctx:=List.take_of_length_le (by simp)
 unfold Ev
 rw[C,Zb a,zel]
 simp[htk,hr,←Zb,below,Zk,Xp,Z4]
theorem ziD(sig:List D)(ms:List M)(ctx:List T)(i:Int)(b:Bool)(h0:0≤i)(hs:sig.length≤1099511627776):Ev 178 [zcU sig ms ctx, .int i, .bool b] (.tup [enc ((Qq sig i b).getD T0), .int (match Qq sig i b with|none=>2|some _=>0)]):=by
 unfold Ev Qq
 rw[C,zcc,Qo]
 by_cases hi:i<sig.length
 ·have hn:i.toNat<sig.length:=by omega
  have hii:((i.toNat:Nat):Int)=i:=by omega
  have hg:ZZ (Y7 sig) i=zcR sig[i.toNat]:=by have:=zej hn;rwa [hii]at this
  have hk:=(zpe sig[i.toNat].t).p
  have hlt: ¬i≥sig.length:=by omega
  have hc:(0≤i∧i<sig.length):=⟨h0,hi⟩
  rw[dif_pos hc,hg]
  simp only[hlt,decide_false,ZJ,h0,hi,decide_true,Bool.and_self,Yi,zsO,←Zb,hk,Zl,ZO]
  generalize decide ((split sig[i.toNat].t).2.k=0)=kb
  by_cases hb:kb=b
  ·subst hb
   cases kb<;>simp[below,Zk]
  ·rw[if_neg hb]
   cases kb<;>cases b<;>simp_all
   ·rfl
   ·rfl
 ·have hge:i≥sig.length:=by omega
  rw[dif_neg (fun h=>hi h.2)]
  simp[hge]
  rfl
theorem zny:cfg.pure 134=true:=by kernel_rfl
theorem znz:cfg.pure 135=false:=by kernel_rfl
theorem zn0:cfg.pure 137=false:=by kernel_rfl
theorem zfR(t:T)(hs:t.size≤1099511627776):Ev 134 [enc t] (.bool (!may t)):=by
 have h:=(Qp t hs).p
 unfold Ev
 rw[C,Zb t,zd0,←Zb,h]
 simp
theorem zeo(xs:List T)(hs:sizes xs≤1099511627776)(st:St):W.call 73 [.vec .plain (some 3) (Zg xs), .fn 134 [] []] st=some (.ret (.bool (xs.any fun t=> !may t)),st):=
 zbf (a:=[]) (b:=[]) zny (p:=fun t=> !may t) xs (by have:=Zn xs;omega) (fun t ht=>(zfR t (by have:=size_le ht;omega)).p) st
theorem zn1(d:D)(hs:d.t.size≤1099511627776)(st:St):W.call 137 ([]++[zcR d]++[.cptr none (.fn 134 [] [])]) st=some (.ret (.bool (!may d.t)),st):=by
 have h:=(zfR d.t hs).p
 have e1:zcR d=V.agg [V.str (ba d.name),V.int d.t.k,V.int d.t.h,V.vec .plain (some 3) (Zg d.t.args)]:=rfl
 rw[e1]
 show W.call 137 [V.agg [V.str (ba d.name),V.int d.t.k,V.int d.t.h,V.vec .plain (some 3) (Zg d.t.args)], .cptr none (.fn 134 [] [])] st=_
 rw[C,zd2,←Zb,h]
 simp[ZY]
theorem zn2(m:M)(hs:sizes m.ctx+m.t.size≤1099511627776)(st:St):W.call 135 ([]++[JZ m]++[.cptr none (.fn 134 [] [])]) st=some (.ret (.bool (!zlQ m)),st):=by
 have h:=(zfR m.t (by omega)).p
 have h2:=zeo m.ctx (by omega) st
 rw[Q0]
 show W.call 135 [V.agg [V.vec .plain (some 3) (Zg m.ctx),V.int m.t.k,V.int m.t.h,V.vec .plain (some 3) (Zg m.t.args),V.bool m.param], .cptr none (.fn 134 [] [])] st=_
 rw[C,zd1,←Zb,h]
 have q2:m.ctx.all may= !m.ctx.any fun d=> !may d:=by simp[List.all_eq_not_any_not]
 unfold zlQ
 rw[q2]
 cases may m.t<;>simp[ZY,h2]
theorem zph(sig:List D)(ms:List M)(ctx l:List T)(hsig: ∀d∈sig,d.t.size≤1099511627776)(hsl:sig.length≤1099511627776)(hms: ∀m∈ms,sizes m.ctx+m.t.size≤1099511627776)(hml:ms.length≤1099511627776)(hc:sizes ctx≤1099511627776)(hl:sizes l≤1099511627776):
  Ev 88 [zcU sig ms ctx, .vec .plain (some 3) (Zg l)] (.bool (zlR sig ms ctx l)):=by
 have h1:=zeo l hl []
 have h2:=zeo ctx hc []
 have h3:=zhM (a:=[]) (b:=[.cptr none (.fn 134 [] [])]) zn0 (p:=fun d=> !may d.t) sig hsl [] (fun d hd=>zn1 d (hsig d hd) [])
 have h4:=zhN (a:=[]) (b:=[.cptr none (.fn 134 [] [])]) znz (p:=fun d=> !zlQ d) ms hml [] (fun d hd=>zn2 d (hms d hd) [])
 have q1:sig.all (fun d=>may d.t)= !sig.any fun d=> !may d.t:=by simp[List.all_eq_not_any_not]
 have q2:ctx.all may= !ctx.any fun d=> !may d:=by simp[List.all_eq_not_any_not]
 have q3:l.all may= !l.any fun d=> !may d:=by simp[List.all_eq_not_any_not]
 have q4:ms.all zlQ= !ms.any fun d=> !zlQ d:=by simp[List.all_eq_not_any_not]
 have c1:decide ((ctx.length:Int)>1000)= !decide (ctx.length≤1000):=by by_cases h:ctx.length≤1000<;>simp[h]<;>omega
 unfold Ev zlR
 rw[C,zeT,Zh,c1,h1,q1,q2,q3,q4]
 cases decide (ctx.length≤1000)<;>cases l.any (fun d=> !may d)<;>simp[h2]<;>cases ctx.any (fun d=> !may d)<;>simp[h3]<;>cases sig.any (fun d=> !may d.t)<;>simp[h4]
end Go.Proofs.CL
namespace Go.Ama
open Go Go.AM
structure OkW(B:Int)(sig:List D)(ms:List M)(ctx:List T):Prop where
 s: ∀d∈sig,may d.t=true∧okB B d.t
 m: ∀m∈ms,may m.t=true∧okB B m.t∧ ∀x∈m.ctx,may x=true∧okB B x
 c: ∀x∈ctx,may x=true∧okB B x
 sl:sig.length≤1048576
 ml:ms.length≤1048576
 mcl: ∀m∈ms,m.ctx.length≤1048576
theorem OkW.mono{B B':Int}(h:B≤B'){sig:List D}{ms:List M}{ctx:List T}(o:OkW B sig ms ctx):OkW B' sig ms ctx:=
 ⟨fun d hd=>⟨(o.s d hd).1,Zy h _ (o.s d hd).2⟩,fun m hm=>⟨(o.m m hm).1,Zy h _ (o.m m hm).2.1,fun x hx=>⟨((o.m m hm).2.2 x hx).1,Zy h _ ((o.m m hm).2.2 x hx).2⟩⟩,
  fun x hx=>⟨(o.c x hx).1,Zy h _ (o.c x hx).2⟩,o.sl,o.ml,o.mcl⟩
theorem OkW.with{B:Int}{sig:List D}{ms:List M}{ctx:List T}(o:OkW B sig ms ctx){a:T}(h1:may a=true)(h2:okB B a):OkW B sig ms (ctx++[a]):=
 ⟨o.s,o.m,fun x hx=>by rcases List.mem_append.1 hx with h|h;exact o.c x h;simp at h;subst h;exact⟨h1,h2⟩,o.sl,o.ml,o.mcl⟩
theorem ZU{β γ:Int}(h:ZN γ)(h0:0≤β)(hl:β≤γ):ZN β:=⟨h0,by unfold ZN at h;omega⟩
theorem zfS(sig:List D)(ms:List M): ∀(xs:List T) (ctx:List T) (t:T) (β:Int),0≤β→ZN (β+sizes xs*90000000000)→may t=true→okB β t→(∀x∈xs,okB β x)→(Y6 sig ms xs ctx t).2=0→
  may (Y6 sig ms xs ctx t).1=true∧okB (β+sizes xs*90000000000) (Y6 sig ms xs ctx t).1
 |[],ctx,t,β,_,_,hm,ho,_,_=>by simp only[Y6,sizes];exact⟨hm,Zy (by omega) t ho⟩
 |a::xs,ctx,t,β,h0,hβ,hm,ho,hx,he=>by
  have hp:=Qd a
  simp only[sizes,Int.natCast_add,Int.add_mul]at hβ⊢
  unfold Y6 at he⊢
  by_cases hk:t.k=1
  ·rw[if_neg (by simpa using hk)]at he⊢
   dsimp only at he⊢
   split at he
   ·rename_i h;exact absurd he h
   rename_i h1
   rw[if_neg h1]
   split at he
   ·rename_i h;exact absurd he h
   rename_i h2
   rw[if_neg h2]
   obtain⟨a0,b,hab⟩:=zoR (znw hm hk)
   have hb:b∈t.args:=by rw[hab];simp
   simp only[hab,List.getD_cons_succ,List.getD_cons_zero]at h2 he⊢
   have hbase:ZN β:=ZU hβ h0 (by
                          have:(0:Int)≤a.size*90000000000:=by omega
                          have:(0:Int)≤sizes xs*90000000000:=by omega
                          omega)
   obtain⟨u1,u2,_⟩:=zb5 (t:=b) (l:=[a]) (s:=0) hbase (fun _=>zb4 ho hb) (fun _ x hx'=>by simp at hx';rw[hx'];exact hx a (by simp)) (by simpa using h2)
   have hge:(a.size:Int)*90000000000≥90000000000:=by omega
   obtain⟨r1,r2⟩:=zfS sig ms xs ctx _ (β+a.size*90000000000) (by omega) (by rw[show β+ ↑a.size*90000000000+ ↑(sizes xs)*90000000000=β+(↑a.size*90000000000+ ↑(sizes xs)*90000000000) by omega];exact hβ) u1 (Zy (by omega) _ u2) (fun x hx'=>Zy (by omega) x (hx x (by simp[hx']))) he
   exact⟨r1,by rw[show β+(↑a.size*90000000000+ ↑(sizes xs)*90000000000)=β+ ↑a.size*90000000000+ ↑(sizes xs)*90000000000 by omega];exact r2⟩
  ·rw[if_pos hk]at he
   simp at he
noncomputable def zlW(sig:List D)(ms:List M)(h:Int)(xs ctx:List T):T×Int:=
 if(ctx.length:Int)≤h then(T0,2)else Y6 sig ms xs ctx (upP (ctx.getD (ctx.length-1-h.toNat) T0) (h+1) 0)
noncomputable def zcV(sig:List D)(ms:List M)(h:Int)(xs ctx:List T):T×Int:=
 match Qq sig h false with
 |none=>(T0,2)
 |some t=>Y6 sig ms xs ctx t
noncomputable def zg6(sig:List D)(ms:List M)(h:Int)(xs ctx:List T):T×Int:=
 if(ms.length:Int)≤h then(T0,2)
 else
  let d:=ms.getD h.toNat ⟨[],T0,false⟩
  if d.ctx.length≠xs.length then(T0,3)
  else
   let e:=zdR sig ms xs ctx [] d.ctx
   if e≠0 then(T0,e)else Y3 d.t xs ctx.length
noncomputable def Jd(sig:List D)(ms:List M)(k h:Int)(xs ctx:List T):T×Int:=
 if k=4 then zlW sig ms h xs ctx else if k=5 then zcV sig ms h xs ctx else if k=6 then zg6 sig ms h xs ctx else(T0,3)
theorem zn3(sig:List D)(ms:List M){k h:Int}{xs ctx:List T}{a:T}(hk:k≠3)(ha:a.k=2):
  Jk sig ms (.mk k h xs) ctx a=if(Jd sig ms k h xs ctx).2≠0 then(Jd sig ms k h xs ctx).2 else if(Jd sig ms k h xs ctx).1.same a then 0 else 3:=by
 rw[Jk]
 rw[if_neg (fun c=>hk c.1),if_neg (fun c=>c.elim hk (fun c=>c ha))]
 rfl
theorem zpi(sig:List D)(ms:List M){h:Int}{b:T}{r ctx:List T}{a:T}(ha:a.k=1):
  Jk sig ms (.mk 3 h (b::r)) ctx a=Jk sig ms b (ctx++[a.args.getD 0 T0]) (a.args.getD 1 T0):=by
 conv=>lhs;rw[Jk]
 rw[if_pos ⟨rfl,ha⟩,zrB]
theorem zqu(sig:List D)(ms:List M){k h:Int}{xs ctx:List T}{a:T}(h1: ¬(k=3∧a.k=1))(h2:k=3∨a.k≠2):Jk sig ms (.mk k h xs) ctx a=3:=by
 rw[Jk,if_neg h1,if_pos h2]
end Go.Ama
namespace Go.Ama
open Go Go.AM
theorem zhP{sig:List D}{ms:List M}{ctx l:List T}:zlR sig ms ctx l=true↔ctx.length≤1000∧(∀x∈l,may x=true)∧(∀x∈ctx,may x=true)∧(∀d∈sig,may d.t=true)∧(∀m∈ms,may m.t=true∧ ∀x∈m.ctx,may x=true):=by
 unfold zlR
 simp only[Bool.and_eq_true,decide_eq_true_eq,List.all_eq_true]
 have: ∀m:M,zlQ m=true↔may m.t=true∧ ∀x∈m.ctx,may x=true:=fun m=>by unfold zlQ;simp[Bool.and_eq_true,List.all_eq_true]
 simp only[this]
structure In(sig:List D)(ms:List M)(ctx l:List T):Prop where
 s: ∀d∈sig,d.t.size≤1048576∧(may d.t=true→okB 1152921504606846976 d.t)
 m: ∀m∈ms,sizes m.ctx+m.t.size≤1048576∧(may m.t=true→okB 1152921504606846976 m.t)∧ ∀x∈m.ctx,may x=true→okB 1152921504606846976 x
 c:sizes ctx≤1048576∧ ∀x∈ctx,may x=true→okB 1152921504606846976 x
 l:sizes l≤1048576∧ ∀x∈l,may x=true→okB 1152921504606846976 x
 sl:sig.length≤1048576
 ml:ms.length≤1048576
theorem In.ok{sig:List D}{ms:List M}{ctx l:List T}(h:In sig ms ctx l)(hm:zlR sig ms ctx l=true):OkW 1152921504606846976 sig ms ctx∧ ∀x∈l,may x=true∧okB 1152921504606846976 x:=by
 obtain⟨_,h2,h3,h4,h5⟩:=zhP.1 hm
 refine⟨⟨fun d hd=>⟨h4 d hd,(h.s d hd).2 (h4 d hd)⟩,fun m hm=>⟨(h5 m hm).1,(h.m m hm).2.1 (h5 m hm).1,fun x hx=>⟨(h5 m hm).2 x hx,(h.m m hm).2.2 x hx ((h5 m hm).2 x hx)⟩⟩,fun x hx=>⟨h3 x hx,h.c.2 x hx (h3 x hx)⟩,h.sl,h.ml,fun m hm=> ?_⟩,fun x hx=>⟨h2 x hx,h.l.2 x hx (h2 x hx)⟩⟩
 have:=(h.m m hm).1
 have:=Zn m.ctx
 omega
end Go.Ama
namespace Go.Proofs.CL
open Go Go.AM Go.Ama
section
variable(sig:List D)(ms:List M)
def HT(N:Nat):Prop:= ∀(m:T) (ctx:List T) (a:T) (β:Int),m.size≤N→0≤β→OkW β sig ms ctx→ctx.length+m.size≤1000000→may m=true→okB β m→may a=true→okB β a→ZN (β+m.size*90000000000)→
 Ev 89 [zcU sig ms ctx,enc m,enc a] (.int (Jk sig ms m ctx a))
theorem zlX{N:Nat}(hT:HT sig ms N)(xs ctx:List T)(hxl:xs.length≤1000000): ∀(n i:Nat) (t:T) (β:Int) (v:V),xs.length-i=n→i≤xs.length→sizes (xs.drop i)≤N→0≤β→OkW β sig ms ctx→ctx.length+sizes (xs.drop i)≤1000000→(∀x∈xs,may x=true∧okB β x)→may t=true→okB β t→ZN (β+sizes (xs.drop i)*90000000000)→
  W.loop 176 2 [.loc true (some 3) v, .int (i:Int), .loc false (some 3) (enc t), .loc false (some 3) (zcU sig ms ctx), .vec .plain (some 3) (Zg xs), .int xs.length] []=
   if(Y6 sig ms (xs.drop i) ctx t).2=0 then some (.exit 0,[.loc true (some 3) v, .loc false (some 3) (enc (Y6 sig ms (xs.drop i) ctx t).1)],[])else some (.ret,[.loc false (some 3) (enc T0), .int (Y6 sig ms (xs.drop i) ctx t).2],[]):=by
 intro n
 induction n with
 |zero=>
  intro i t β v hn hi _ _ _ _ _ _ _ _
  have:i=xs.length:=by omega
  subst this
  rw[L,Zb t,Jc]
  simp[Y6,←Zb]
 |succ n ih=>
  intro i t β v hn hi hN h0 hW hcl hx hm ho hβ
  have hlt:i<xs.length:=by omega
  have hlt':(i:Int)<xs.length:=by omega
  have hd:xs.drop i=xs[i]::xs.drop (i+1):=List.drop_eq_getElem_cons hlt
  have hp:=Qd xs[i]
  have hw:IntKind.i64.wrap ((i:Int)+1)=((i+1:Nat):Int):=by rw[Zv ⟨by omega,by omega⟩];omega
  rw[hd]at hN hcl hβ⊢
  simp only[sizes,Int.natCast_add,Int.add_mul]at hN hcl hβ
  have hbase:ZN β:=ZU hβ h0 (by omega)
  obtain⟨hxm,hxo⟩:=hx _ (List.getElem_mem hlt)
  rw[L,Zb t,Jc,←Zb t,hw,ZG hlt,Zh]
  simp only[hlt',decide_true,Yc,Int.natCast_nonneg,Bool.and_self,Yi,zlG,←Zb]
  by_cases hk:t.k=1
  ·obtain⟨a0,b,hab⟩:=zoR (znw hm hk)
   have ha0:a0∈t.args:=by rw[hab];simp
   have hb:b∈t.args:=by rw[hab];simp
   have h1:=(hT xs[i] ctx a0 β (by omega) h0 hW (by omega) hxm hxo (zeV hm ha0) (zb4 ho ha0) (ZU hβ (by omega) (by omega))).p (by simp[Zk,below,Z4])
   have hst:Y6 sig ms (xs[i]::xs.drop (i+1)) ctx t=(if Jk sig ms xs[i] ctx a0≠0 then(T0,Jk sig ms xs[i] ctx a0)else if(Y3 b [xs[i]] 0).2≠0 then(T0,(Y3 b [xs[i]] 0).2)else Y6 sig ms (xs.drop (i+1)) ctx (Y3 b [xs[i]] 0).1):=by
    conv=>lhs;unfold Y6
    simp[hk,hab]
   rw[hst]
   by_cases he:Jk sig ms xs[i] ctx a0=0
   ·have hsb:=YG (zeV hm hb)
    have hsx:=YG hxm
    have hA:=(zaN (s:=0) hbase (t:=b) (l:=[xs[i]]) (by omega) (by simp[sizes];omega) (fun _=>zb4 ho hb) (fun _ x hx'=>by simp at hx';rw[hx'];exact hxo)).p
    simp only[Jb,QP,zbx]at hA
    by_cases hu:(Y3 b [xs[i]] 0).2=0
    ·obtain⟨u1,u2,_⟩:=zb5 (t:=b) (l:=[xs[i]]) (s:=0) hbase (fun _=>zb4 ho hb) (fun _ x hx'=>by simp at hx';rw[hx'];exact hxo) hu
     have:=ih (i+1) (Y3 b [xs[i]] 0).1 (β+xs[i].size*90000000000) v (by omega) (by omega) (by omega) (by omega) (hW.mono (by omega)) (by omega) (fun x hx'=>⟨(hx x hx').1,Zy (by omega) x (hx x hx').2⟩) u1 (Zy (by omega) _ u2) (by rw[show β+ ↑xs[i].size*90000000000+ ↑(sizes (xs.drop (i+1)))*90000000000=β+(↑xs[i].size*90000000000+ ↑(sizes (xs.drop (i+1)))*90000000000) by omega];exact hβ)
     simp[hk,hab,h1,he,hA,hu,←Zb]
     simpa using this
    ·simp[hk,hab,h1,he,hA,hu,←Zb,Zb T0]
   ·simp[hk,hab,h1,he,←Zb,Zb T0]
  ·have hst:Y6 sig ms (xs[i]::xs.drop (i+1)) ctx t=(T0,3):=by
    conv=>lhs;unfold Y6
    simp[hk]
   rw[hst]
   simp[hk,Zb T0]
theorem zhQ{N:Nat}(hT:HT sig ms N)(xs ctx:List T)(t:T)(β:Int)(hN:sizes xs≤N)(h0:0≤β)(hW:OkW β sig ms ctx)(hcl:ctx.length+sizes xs≤1000000)(hx: ∀x∈xs,may x=true∧okB β x)(hm:may t=true)(ho:okB β t)(hβ:ZN (β+sizes xs*90000000000)):
  Ev 176 [zcU sig ms ctx,enc t, .vec .plain (some 3) (Zg xs)] (.tup [enc (Y6 sig ms xs ctx t).1, .int (Y6 sig ms xs ctx t).2]):=by
 have hl:=Zn xs
 have h:=zlX sig ms hT xs ctx (by omega) _ 0 t β (.agg [.int 0, .int 0, .vec .full (some 3) []]) rfl (Nat.zero_le _) (by simpa using hN) h0 hW (by simpa using hcl) hx hm ho (by simpa using hβ)
 simp only[List.drop_zero,Int.natCast_zero]at h
 have hz:(Y6 sig ms xs ctx t).2≠0→(Y6 sig ms xs ctx t).1=T0:=by
  have: ∀(ys:List T) (t:T),(Y6 sig ms ys ctx t).2≠0→(Y6 sig ms ys ctx t).1=T0:=by
   intro ys
   induction ys with
   |nil=>intro t h;simp[Y6]at h
   |cons y ys ih=>
    intro t h
    unfold Y6 at h⊢
    dsimp only at h⊢
    repeat' split
    all_goals first|rfl|skip
    rename_i c1 c2 c3
    rw[if_neg c1,if_neg c2,if_neg c3]at h
    exact ih _ h
  exact this xs t
 unfold Ev
 rw[C]
 conv=>lhs;rw[Zb t]
 rw[zd3,Zh,←Zb t,h]
 by_cases he:(Y6 sig ms xs ctx t).2=0
 ·simp[he,←Zb,below,Zk,Zr]
 ·have hc: ∀t:T,Zs (enc t)=enc t:=fun t=>by rw[Zb];rfl
  simp[he,hz he,below,Zk,Zr,hc]
end
end Go.Proofs.CL
namespace Go.Proofs.CL
open Go Go.AM Go.Ama
section
variable(sig:List D)(ms:List M)
theorem ziE{N:Nat}(hT:HT sig ms N)(k h:Int)(xs ctx:List T)(β:Int)(hN:sizes xs≤N)(h0:0≤β)(hW:OkW β sig ms ctx)(hcl:ctx.length+sizes xs≤1000000)(hx: ∀x∈xs,may x=true∧okB β x)(hh:0≤h)(hβ:ZN (β+(1+sizes xs:Nat)*90000000000)):
  Ev 141 [zcU sig ms ctx, .agg [.int k, .int h, .vec .plain (some 3) (Zg xs)]] (.tup [enc (zlW sig ms h xs ctx).1, .int (zlW sig ms h xs ctx).2]):=by
 simp only[Int.natCast_add,Int.add_mul]at hβ
 have hbase:ZN β:=ZU hβ h0 (by omega)
 unfold Ev zlW
 rw[C,zcd,Zh]
 by_cases hc:(ctx.length:Int)≤h
 ·simp only[hc,if_true]
  simp[hc,Zb T0]
 ·have hw1:IntKind.i64.wrap ((ctx.length:Int)-1)=(ctx.length:Int)-1:=Zv ⟨by omega,by omega⟩
  have hw2:IntKind.i64.wrap ((ctx.length:Int)-1-h)=((ctx.length-1-h.toNat:Nat):Int):=by rw[Zv ⟨by omega,by omega⟩];omega
  have hw3:IntKind.i64.wrap (h+1)=h+1:=Zv ⟨by omega,by omega⟩
  have hlt:ctx.length-1-h.toNat<ctx.length:=by omega
  have hg:ctx.getD (ctx.length-1-h.toNat) T0=ctx[ctx.length-1-h.toNat]:=by simp[List.getD_eq_getElem?_getD,hlt]
  obtain⟨c1,c2⟩:=hW.c _ (List.getElem_mem hlt)
  have hsz:=YG c1
  have hU:=(zoc ctx[ctx.length-1-h.toNat] (h+1) 0 (by omega)).p
  have hS:=(zhQ sig ms hT xs ctx (upP ctx[ctx.length-1-h.toNat] (h+1) 0) (β+90000000000) hN (by omega) (hW.mono (by omega)) hcl (fun x hx'=>⟨(hx x hx').1,Zy (by omega) x (hx x hx').2⟩) (zog hbase c2 c1 (by omega)) (Zy (by omega) _ (zlT hbase c2 (by omega))) (by rw[show β+90000000000+ ↑(sizes xs)*90000000000=β+(((1:Nat):Int)*90000000000+ ↑(sizes xs)*90000000000) by omega];exact hβ)).p (by simp[Zk,below,Z4]) (by simp[below,Zk])
  have hc': ¬(h≥(ctx.length:Int)):=by omega
  have hlt':((ctx.length-1-h.toNat:Nat):Int)<ctx.length:=by omega
  simp only[hc,if_false]
  rw[hw1,hw2,hw3,ZG hlt,hg]
  simp[hc',hlt',hU,←Zb,hS]
  simp[below,Zk]
theorem ziF{N:Nat}(hT:HT sig ms N)(k h:Int)(xs ctx:List T)(β:Int)(hN:sizes xs≤N)(h0:0≤β)(hW:OkW β sig ms ctx)(hcl:ctx.length+sizes xs≤1000000)(hx: ∀x∈xs,may x=true∧okB β x)(hh:0≤h)(hβ:ZN (β+sizes xs*90000000000)):
  Ev 142 [zcU sig ms ctx, .agg [.int k, .int h, .vec .plain (some 3) (Zg xs)]] (.tup [enc (zcV sig ms h xs ctx).1, .int (zcV sig ms h xs ctx).2]):=by
 have hD:=(ziD sig ms ctx h false hh (by have:=hW.sl;omega)).p (by simp[Zk,below,Z4]) (by simp[below,Zk])
 unfold Ev zcV
 rw[C,zce,hD]
 cases hd:Qq sig h false with
 |none=>simp[Zb T0]
 |some t=>
  obtain⟨d,hdm,hdt⟩: ∃d∈sig,d.t=t:=by
   unfold Qq at hd
   split at hd
   ·split at hd
    ·cases hd;exact⟨_,List.getElem_mem _,rfl⟩
    ·cases hd
   ·cases hd
  obtain⟨s1,s2⟩:=hW.s d hdm
  rw[hdt]at s1 s2
  have hS:=(zhQ sig ms hT xs ctx t β hN h0 hW hcl hx s1 s2 hβ).p (by simp[Zk,below,Z4]) (by simp[below,Zk])
  simp[←Zb,hS]
  simp[below,Zk]
theorem zjo(l:List T)(n:Nat):(Zg l).take n=Zg (l.take n):=by simp[zby,List.map_take]
theorem zn4{N:Nat}(hT:HT sig ms N)(k h:Int)(xs ctx:List T)(d:M)(β:Int)(hN:sizes xs≤N)(h0:0≤β)(hW:OkW β sig ms ctx)(hcl:ctx.length+sizes xs≤1000000)(hx: ∀x∈xs,may x=true∧okB β x)(hd:d∈ms)(hlen:d.ctx.length=xs.length)(hβ:ZN (β+(1+sizes xs:Nat)*90000000000))(v:V):
  ∀(n i:Nat),xs.length-i=n→i≤xs.length→
  W.loop 143 7 [.loc true (some 3) v, .int (i:Int), .loc false (some 3) (.agg [.int k, .int h, .vec .plain (some 3) (Zg xs)]), .loc false (some 3) (zcU sig ms ctx), .vec .plain (some 3) (Zg d.ctx), .loc false (some 5) (JZ d), .int d.ctx.length] []=
   if zdR sig ms (xs.drop i) ctx (xs.take i) (d.ctx.drop i)=0 then some (.exit 0,[.loc true (some 3) v, .loc false (some 3) (zcU sig ms ctx), .loc false (some 3) (.agg [.int k, .int h, .vec .plain (some 3) (Zg xs)]), .loc false (some 5) (JZ d)],[])
   else some (.ret,[.loc false (some 3) (enc T0), .int (zdR sig ms (xs.drop i) ctx (xs.take i) (d.ctx.drop i))],[]):=by
 have hxl:=Zn xs
 simp only[Int.natCast_add,Int.add_mul]at hβ
 have hbase:ZN β:=ZU hβ h0 (by omega)
 obtain⟨_,_,m3⟩:=hW.m d hd
 intro n
 induction n with
 |zero=>
  intro i hn hi
  have:i=xs.length:=by omega
  subst this
  rw[L,Q0,Jj,←Q0]
  simp[zdR,hlen]
 |succ n ih=>
  intro i hn hi
  have hlt:i<xs.length:=by omega
  have hlt2:i<d.ctx.length:=by omega
  have hlt':(i:Int)<xs.length:=by omega
  have hlt2':(i:Int)<d.ctx.length:=by omega
  have hle':(i:Int)≤xs.length:=by omega
  have hdx:xs.drop i=xs[i]::xs.drop (i+1):=List.drop_eq_getElem_cons hlt
  have hdd:d.ctx.drop i=d.ctx[i]::d.ctx.drop (i+1):=List.drop_eq_getElem_cons hlt2
  have hp:=Qd xs[i]
  have hsx:=size_le (List.getElem_mem hlt)
  have hw:IntKind.i64.wrap ((i:Int)+1)=((i+1:Nat):Int):=by rw[Zv ⟨by omega,by omega⟩];omega
  obtain⟨hxm,hxo⟩:=hx _ (List.getElem_mem hlt)
  obtain⟨hdm,hdo⟩:=m3 _ (List.getElem_mem hlt2)
  have hsd:=YG hdm
  have hst:=zdM xs i
  have htk:List.drop 0 (List.take (i:Int).toNat (Zg xs))=Zg (xs.take i):=by simp[zjo]
  have hok: ∀x∈xs.take i,okB β x:=fun x hx'=>(hx x (List.mem_of_mem_take hx')).2
  have hA:=(zaN (s:=ctx.length) hbase (t:=d.ctx[i]) (l:=xs.take i) (by omega) (by omega) (fun _=>hdo) (fun _=>hok)).p
  simp only[Jb]at hA
  have hstep:zdR sig ms (xs.drop i) ctx (xs.take i) (d.ctx.drop i)=(if(if(Y3 d.ctx[i] (xs.take i) ctx.length).2=0 then Jk sig ms xs[i] ctx (Y3 d.ctx[i] (xs.take i) ctx.length).1 else(Y3 d.ctx[i] (xs.take i) ctx.length).2)≠0 then(if(Y3 d.ctx[i] (xs.take i) ctx.length).2=0 then Jk sig ms xs[i] ctx (Y3 d.ctx[i] (xs.take i) ctx.length).1 else(Y3 d.ctx[i] (xs.take i) ctx.length).2)else zdR sig ms (xs.drop (i+1)) ctx (xs.take (i+1)) (d.ctx.drop (i+1))):=by
   rw[hdx,hdd,zbY hlt]
   conv=>lhs;unfold zdR
  rw[hstep,L,Q0,Jj,←Q0,hw,ZG hlt,ZG hlt2,Zh,Zh,Zh,htk]
  have ihh:=ih (i+1) (by omega) (by omega)
  by_cases hu:(Y3 d.ctx[i] (xs.take i) ctx.length).2=0
  ·obtain⟨u1,u2,_⟩:=zb5 (t:=d.ctx[i]) (l:=xs.take i) (s:=ctx.length) hbase (fun _=>hdo) (fun _=>hok) hu
   have h1:=(hT xs[i] ctx (Y3 d.ctx[i] (xs.take i) ctx.length).1 (β+90000000000) (by omega) (by omega) (hW.mono (by omega)) (by omega) hxm (Zy (by omega) _ hxo) u1 (Zy (by omega) _ u2) (ZU hβ (by omega) (by omega))).p (by simp[Zk,below,Z4])
   by_cases he:Jk sig ms xs[i] ctx (Y3 d.ctx[i] (xs.take i) ctx.length).1=0
   ·simp[hlt',hlt2',hle',hA,hu,←Zb,h1,he]
    simpa using ihh
   ·simp[hlt',hlt2',hle',hA,hu,←Zb,h1,he,Zb T0]
  ·simp[hlt',hlt2',hle',hA,hu,←Zb,Zb T0]
theorem zpj{N:Nat}(hT:HT sig ms N)(k h:Int)(xs ctx:List T)(β:Int)(hN:sizes xs≤N)(h0:0≤β)(hW:OkW β sig ms ctx)(hcl:ctx.length+sizes xs≤1000000)(hx: ∀x∈xs,may x=true∧okB β x)(hh:0≤h)(hβ:ZN (β+(1+sizes xs:Nat)*90000000000)):
  Ev 143 [zcU sig ms ctx, .agg [.int k, .int h, .vec .plain (some 3) (Zg xs)]] (.tup [enc (zg6 sig ms h xs ctx).1, .int (zg6 sig ms h xs ctx).2]):=by
 have hxl:=Zn xs
 unfold Ev zg6
 rw[C,zen,YS]
 by_cases hc:(ms.length:Int)≤h
 ·simp only[hc,if_true]
  simp[hc,Zb T0]
 ·have hlt:h.toNat<ms.length:=by omega
  have hg:ms.getD h.toNat ⟨[],T0,false⟩=ms[h.toNat]:=by simp[List.getD_eq_getElem?_getD,hlt]
  have hii:((h.toNat:Nat):Int)=h:=by omega
  have hgi:ZZ (ZV ms) h=JZ ms[h.toNat]:=by have:=za2 hlt;rwa [hii]at this
  have hc': ¬(h≥(ms.length:Int)):=by omega
  have hlt':h<(ms.length:Int):=by omega
  have hmem:=List.getElem_mem hlt
  simp only[hc,if_false]
  rw[hg,hgi]
  generalize ms[h.toNat]=d at*
  by_cases hlen:d.ctx.length=xs.length
  ·have hL:=zn4 sig ms hT k h xs ctx d β hN h0 hW hcl hx hmem hlen hβ (.agg [.int 0, .int 0, .vec .full (some 3) []]) _ 0 rfl (Nat.zero_le _)
   simp only[List.drop_zero,Int.natCast_zero,List.take_zero]at hL
   have hbase:ZN β:=ZU hβ h0 (by omega)
   obtain⟨t1,t2,_⟩:=hW.m d hmem
   have hsz:=YG t1
   have hA:=(zaN (s:=ctx.length) hbase (t:=d.t) (l:=xs) (by omega) (by omega) (fun _=>t2) (fun _ x hx'=>(hx x hx').2)).p
   simp only[Jb]at hA
   have hbne:((d.ctx.length:Int) !=(xs.length:Int))=false:=by simp[hlen]
   have hc2: ∀t:T,Zs (enc t)=enc t:=fun t=>by rw[Zb];rfl
   have hL':=hL
   simp only[JZ,hlen,zcU]at hL'
   simp only[hlen,ne_eq,not_true,if_false]
   by_cases he:zdR sig ms xs ctx [] d.ctx=0
   ·rw[if_pos he]at hL'
    simp[hc',hh,hlt',hbne,hL',he,hA,←Zb,below,Zk,hlen]
    simp[below,Zk,Zr]
   ·rw[if_neg he]at hL'
    simp[hc',hh,hlt',hbne,hL',he,hlen,hc2,below,Zk,Zr]
  ·have hbne:((d.ctx.length:Int) !=(xs.length:Int))=true:=by simp;omega
   simp[hc',hh,hlt',hbne,hlen,Zb T0]
end
end Go.Proofs.CL
namespace Go.Proofs.CL
open Go Go.AM Go.Ama
theorem zfT:cfg.pure 140=true:=by kernel_rfl
theorem zdS:cfg.pure 141=true:=by kernel_rfl
theorem zdT:cfg.pure 142=true:=by kernel_rfl
theorem zjp:cfg.pure 143=true:=by kernel_rfl
section
variable(sig:List D)(ms:List M)
theorem zfU(k h:Int)(xs ctx:List T):Ev 140 [zcU sig ms ctx, .agg [.int k, .int h, .vec .plain (some 3) (Zg xs)]] (.tup [enc T0, .int 3]):=by
 unfold Ev
 rw[C,zem]
 rw[Zb T0]
 rfl
theorem zlY{β:Int}{xs ctx:List T}{k h:Int}(h0:0≤β)(hW:OkW β sig ms ctx)(hx: ∀x∈xs,may x=true∧okB β x)(hh:0≤h)(hcl:ctx.length≤1000000)(hβ:ZN (β+(1+sizes xs:Nat)*90000000000))(he:(Jd sig ms k h xs ctx).2=0):may (Jd sig ms k h xs ctx).1=true:=by
 simp only[Int.natCast_add,Int.add_mul]at hβ
 have hbase:ZN β:=ZU hβ h0 (by omega)
 unfold Jd at he⊢
 split
 ·rename_i hk
  rw[if_pos hk]at he
  unfold zlW at he⊢
  split
  ·rename_i c;rw[if_pos c]at he;simp at he
  ·rename_i c
   rw[if_neg c]at he
   have hlt:ctx.length-1-h.toNat<ctx.length:=by omega
   have hg:ctx.getD (ctx.length-1-h.toNat) T0=ctx[ctx.length-1-h.toNat]:=by simp[List.getD_eq_getElem?_getD,hlt]
   obtain⟨c1,c2⟩:=hW.c _ (List.getElem_mem hlt)
   rw[hg]at he⊢
   exact(zfS sig ms xs ctx _ (β+90000000000) (by omega) (by rw[show β+90000000000+ ↑(sizes xs)*90000000000=β+(((1:Nat):Int)*90000000000+ ↑(sizes xs)*90000000000) by omega];exact hβ) (zog hbase c2 c1 (by omega)) (Zy (by omega) _ (zlT hbase c2 (by omega))) (fun x hx'=>Zy (by omega) x (hx x hx').2) he).1
 ·rename_i hk
  rw[if_neg hk]at he
  split
  ·rename_i hk
   rw[if_pos hk]at he
   unfold zcV at he⊢
   cases hd:Qq sig h false with
   |none=>rw[hd]at he;simp at he
   |some t=>
    rw[hd]at he
    obtain⟨d,hdm,hdt⟩: ∃d∈sig,d.t=t:=by
     unfold Qq at hd
     split at hd
     ·split at hd
      ·cases hd;exact⟨_,List.getElem_mem _,rfl⟩
      ·cases hd
     ·cases hd
    obtain⟨s1,s2⟩:=hW.s d hdm
    rw[hdt]at s1 s2
    exact(zfS sig ms xs ctx t β h0 (ZU hβ (by omega) (by omega)) s1 s2 (fun x hx'=>(hx x hx').2) he).1
  ·rename_i hk
   rw[if_neg hk]at he
   split
   ·rename_i hk
    rw[if_pos hk]at he
    unfold zg6 at he⊢
    split
    ·rename_i c;rw[if_pos c]at he;simp at he
    ·rename_i c
     rw[if_neg c]at he
     have hlt:h.toNat<ms.length:=by omega
     have hg:ms.getD h.toNat ⟨[],T0,false⟩=ms[h.toNat]:=by simp[List.getD_eq_getElem?_getD,hlt]
     obtain⟨t1,t2,_⟩:=hW.m _ (List.getElem_mem hlt)
     rw[hg]at he⊢
     dsimp only at he⊢
     split
     ·rename_i c;rw[if_pos c]at he;simp at he
     ·rename_i c
      rw[if_neg c]at he
      split
      ·rename_i c;rw[if_pos c]at he;exact absurd he c
      ·rename_i c
       rw[if_neg c]at he
       exact(zb5 hbase (fun _=>t2) (fun _ x hx'=>(hx x hx').2) he).1
   ·rename_i hk
    rw[if_neg hk]at he
    simp at he
theorem zpk{N:Nat}(hT:HT sig ms N):HT sig ms (N+1):=by
 intro m ctx a β hN h0 hW hcl hm ho ham hao hβ
 obtain⟨k,h,xs⟩:=m
 have hnode:=zlP hm
 obtain⟨⟨hh,_⟩,_,hxs⟩:=ho
 simp only[T.size]at hN hcl hβ
 have hx: ∀x∈xs,may x=true∧okB β x:=fun x hx'=>⟨zeV hm hx',(XI _ _).1 hxs x hx'⟩
 have hβ':=hβ
 simp only[Int.natCast_add,Int.add_mul]at hβ
 have hasz:=YG ham
 show W.call 89 [zcU sig ms ctx, .agg [.int k, .int h, .vec .plain (some 3) (Zg xs)],enc a] []=_
 rw[C,Zb a,zek,←Zb a,Zh,Zh]
 by_cases hL:k=3∧a.k=1
 ·obtain⟨rfl,hak⟩:=hL
  obtain⟨a0,b,hab⟩:=zoR (znw ham hak)
  have ha0:a0∈a.args:=by rw[hab];simp
  have hb:b∈a.args:=by rw[hab];simp
  simp only[zqn,zqo,zjk,zgG]at hnode
  obtain⟨c,hc⟩: ∃c,xs=[c]:=by simp at hnode;exact List.length_eq_one_iff.1 (of_decide_eq_true hnode.2)
  subst hc
  obtain⟨c1,c2⟩:=hx c (by simp)
  simp only[sizes]at hN hcl hβ
  have hw:=(zpg sig ms ctx a0 (by omega)).p (by simp[Zk,below,Z4]) (znx 0 sig ms _)
  have h1:=(hT c (ctx++[a0]) b β (by omega) h0 (hW.with (zeV ham ha0) (zb4 hao ha0)) (by simp;omega) c1 c2 (zeV ham hb) (zb4 hao hb) (ZU hβ (by omega) (by omega))).p (by simp[Zk,below,Z4,Xp])
  simp only[zcU,zg4,QP,zbx]at h1
  rw[zpi sig ms hak,hab]
  simp[hak,hab,←Zb,hw,h1]
 ·by_cases hno:k=3∨a.k≠2
  ·rw[zqu sig ms hL hno]
   rcases hno with hk|hak
   ·have:a.k≠1:=fun c=>hL ⟨hk,c⟩
    simp[hk,this]
   ·by_cases hk:k=3
    ·have:a.k≠1:=fun c=>hL ⟨hk,c⟩
     simp[hk,this]
    ·simp[hk,hak]
  ·simp only[not_or,ne_eq,Decidable.not_not]at hno
   obtain⟨hk3,ha2⟩:=hno
   rw[zn3 sig ms hk3 ha2]
   have hcs:=zlY sig ms (k:=k) (h:=h) h0 hW hx hh (by omega) hβ'
   have hsame:(Jd sig ms k h xs ctx).2=0→Zj W 75 [enc (Jd sig ms k h xs ctx).1,enc a]=some (.bool ((Jd sig ms k h xs ctx).1.same a)):=fun he=>
    (zhD _ a (by have:=YG (hcs he);omega) (by omega)).p
   have hk7:k=0∨k=1∨k=2∨k=4∨k=5∨k=6:=by
    simp only[zqn,zqo,zjk]at hnode
    unfold zgG at hnode
    repeat' split at hnode
    all_goals simp at hnode
    all_goals omega
   have hnone: ∀k,k≠4→k≠5→k≠6→Jd sig ms k h xs ctx=(T0,3):=fun k h4 h5 h6=>by unfold Jd;rw[if_neg h4,if_neg h5,if_neg h6]
   rcases hk7 with rfl|rfl|rfl|rfl|rfl|rfl
   ·have hn:=(zfU sig ms 0 h xs ctx).p (by simp[Zk,below,Z4])
    rw[hnone 0 (by decide) (by decide) (by decide)]at*
    simp[ha2,AM.partOf,JL,zfT,hn]
   ·have hn:=(zfU sig ms 1 h xs ctx).p (by simp[Zk,below,Z4])
    rw[hnone 1 (by decide) (by decide) (by decide)]at*
    simp[ha2,AM.partOf,JL,zfT,hn]
   ·have hn:=(zfU sig ms 2 h xs ctx).p (by simp[Zk,below,Z4])
    rw[hnone 2 (by decide) (by decide) (by decide)]at*
    simp[ha2,AM.partOf,JL,zfT,hn]
   ·have hn:=(ziE sig ms hT 4 h xs ctx β (by omega) h0 hW (by omega) hx hh hβ').p (by simp[Zk,below,Z4]) (by simp[below,Zk])
    have hc:Jd sig ms 4 h xs ctx=zlW sig ms h xs ctx:=rfl
    rw[hc]
    by_cases he:(zlW sig ms h xs ctx).2=0
    ·have:=hsame (by rw[hc];exact he)
     rw[hc]at this
     cases hs:(zlW sig ms h xs ctx).1.same a<;>rw[hs]at this<;>simp[ha2,AM.partOf,JL,zdS,hn,he,←Zb,this]
    ·simp[ha2,AM.partOf,JL,zdS,hn,he]
   ·have hn:=(ziF sig ms hT 5 h xs ctx β (by omega) h0 hW (by omega) hx hh (ZU hβ (by omega) (by omega))).p (by simp[Zk,below,Z4]) (by simp[below,Zk])
    have hc:Jd sig ms 5 h xs ctx=zcV sig ms h xs ctx:=rfl
    rw[hc]
    by_cases he:(zcV sig ms h xs ctx).2=0
    ·have:=hsame (by rw[hc];exact he)
     rw[hc]at this
     cases hs:(zcV sig ms h xs ctx).1.same a<;>rw[hs]at this<;>simp[ha2,AM.partOf,JL,zdT,hn,he,←Zb,this]
    ·simp[ha2,AM.partOf,JL,zdT,hn,he]
   ·have hn:=(zpj sig ms hT 6 h xs ctx β (by omega) h0 hW (by omega) hx hh hβ').p (by simp[Zk,below,Z4]) (by simp[below,Zk])
    have hc:Jd sig ms 6 h xs ctx=zg6 sig ms h xs ctx:=rfl
    rw[hc]
    by_cases he:(zg6 sig ms h xs ctx).2=0
    ·have:=hsame (by rw[hc];exact he)
     rw[hc]at this
     cases hs:(zg6 sig ms h xs ctx).1.same a<;>rw[hs]at this<;>simp[ha2,AM.partOf,JL,zjp,hn,he,←Zb,this]
    ·simp[ha2,AM.partOf,JL,zjp,hn,he]
theorem zlZ: ∀N,HT sig ms N
 |0=>fun m _ _ _ h=>by have:=Qd m;omega
 |N+1=>zpk sig ms (zlZ N)
end
end Go.Proofs.CL
namespace Go.Proofs.CL
open Go Go.AM Go.Ama
section
variable(sig:List D)(ms:List M)
theorem zcW(ctx:List T)(m a:T)(hI:In sig ms ctx [m,a]):Ev 30 [.vec .plain (some 4) (Y7 sig), .vec .plain (some 5) (ZV ms), .vec .plain (some 3) (Zg ctx),enc m,enc a] (.int (QF sig ms ctx m a)):=by
 have hl:=hI.l.1
 simp only[sizes]at hl
 have h1:=(zph sig ms ctx [m,a] (fun d hd=>by have:=(hI.s d hd).1;omega) (by have:=hI.sl;omega) (fun d hd=>by have:=(hI.m d hd).1;omega) (by have:=hI.ml;omega) (by have:=hI.c.1;omega) (by have:=hI.l.1;omega)).p (by simp[Zk,below,Z4])
 simp only[QP,zbx]at h1
 unfold Ev QF
 rw[C,Zb m,Zb a,zku,←Zb m,←Zb a,h1]
 cases hm:zlR sig ms ctx [m,a]with
 |false=>simp
 |true=>
  obtain⟨o1,o2⟩:=hI.ok hm
  obtain⟨m1,m2⟩:=o2 m (by simp)
  obtain⟨a1,a2⟩:=o2 a (by simp)
  have hmz:=YG m1
  have hcl:=(zhP.1 hm).1
  have h2:=(zlZ sig ms m.size m ctx a 1152921504606846976 (Nat.le_refl _) (by omega) o1 (by omega) m1 m2 a1 a2 (by unfold ZN;omega)).p (by simp[Zk,below,Z4])
  simp[h2]
end
end Go.Proofs.CL
namespace Go.Proofs.CL
open Go Go.AM
set_option maxRecDepth 20000
end Go.Proofs.CL
namespace Go.Ama
open Go Go.AM
structure Cal where
 f:Int
 ext:List T
 theta:List T
 arg:T
structure Cl where
 metas:List M
 theta:List T
 p:T
 calls:List Cal
 r:T
structure Fun1 where
 name:Bytes
 schema:List T
 delta:List M
 psi:List T
 a:T
 phi:List T
 b:T
 total:Bool
 clauses:List Cl
def YT(c:Cal):V:= .agg [.int c.f, .vec .plain (some 3) (Zg c.ext), .vec .plain (some 3) (Zg c.theta), .int c.arg.k, .int c.arg.h, .vec .plain (some 3) (Zg c.arg.args)]
def XJ(l:List Cal):List V:=l.map YT
def zaO(c:Cl):V:= .agg [.vec .plain (some 5) (ZV c.metas), .vec .plain (some 3) (Zg c.theta), .int c.p.k, .int c.p.h, .vec .plain (some 3) (Zg c.p.args), .vec .plain (some 6) (XJ c.calls), .int c.r.k, .int c.r.h, .vec .plain (some 3) (Zg c.r.args)]
def za3(l:List Cl):List V:=l.map zaO
def Qs(f:Fun1):V:= .agg [.str (ba f.name), .vec .plain (some 3) (Zg f.schema), .vec .plain (some 5) (ZV f.delta), .vec .plain (some 3) (Zg f.psi), .int f.a.k, .int f.a.h, .vec .plain (some 3) (Zg f.a.args), .vec .plain (some 3) (Zg f.phi), .int f.b.k, .int f.b.h, .vec .plain (some 3) (Zg f.b.args), .bool f.total, .vec .plain (some 9) (za3 f.clauses)]
def zn5(l:List Fun1):List V:=l.map Qs
@[simp] theorem Q6(l:List Cal):(XJ l).length=l.length:=by simp[XJ]
@[simp] theorem J6(l:List Cl):(za3 l).length=l.length:=by simp[za3]
@[simp] theorem zq7(l:List Fun1):(zn5 l).length=l.length:=by simp[zn5]
theorem ziG{l:List Cal}{i:Nat}(h:i<l.length):ZZ (XJ l) (i:Int)=YT l[i]:=by
 simp[ZZ,XJ,List.getD_eq_getElem?_getD,List.getElem?_map,h]
theorem zma{l:List Cl}{i:Nat}(h:i<l.length):ZZ (za3 l) (i:Int)=zaO l[i]:=by
 simp[ZZ,za3,List.getD_eq_getElem?_getD,List.getElem?_map,h]
theorem zb6{α:Type}{e:α→V}{n:Nat}(h: ∀a,below n (e a)=true): ∀l:List α,Zk n (l.map e)=true
 |[]=>rfl
 |a::l=>by simp[Zk,h a,zb6 h l]
@[simp] theorem ziH(n:Nat)(c:Cal):below n (YT c)=true:=by simp[YT,below,Zk]
@[simp] theorem zqv(n:Nat)(l:List Cal):Zk n (XJ l)=true:=zb6 (ziH n) l
@[simp] theorem zmb(n:Nat)(c:Cl):below n (zaO c)=true:=by simp[zaO,below,Zk]
@[simp] theorem zrl(n:Nat)(l:List Cl):Zk n (za3 l)=true:=zb6 (zmb n) l
@[simp] theorem zmc(n:Nat)(f:Fun1):below n (Qs f)=true:=by simp[Qs,below,Zk]
@[simp] theorem zrm(n:Nat)(l:List Fun1):Zk n (zn5 l)=true:=zb6 (zmc n) l
attribute [simp] zhK zhH Z4 zhL
theorem zeW{l:List V}{v:V}(h:v∈l):YA v≤ZL l:=by
 induction l with
 |nil=>cases h
 |cons a l ih=>
  simp only[ZL]
  rcases List.mem_cons.1 h with rfl|h
  ·omega
  ·have:=ih h;omega
theorem zcX: ∀l:List V,l.length≤ZL l
 |[]=>Nat.zero_le _
 |v::l=>by
  have:=zcX l
  have:1≤YA v:=by cases v<;>simp[YA]
  simp only[List.length_cons,ZL];omega
theorem za4(t:T):YA (enc t)=1+1+(ZL (Zg t.args)+1)+1:=by
 rw[Zb];simp only[YA,ZL];omega
theorem zsa(m:M):4*(sizes m.ctx+m.t.size)≤YA (JZ m):=by
 have h1:=Qn m.ctx
 have h2:=JE m.t
 rw[za4]at h2
 simp only[JZ,YA,ZL];omega
theorem zrn{l:List M}{m:M}(h:m∈l):4*(sizes m.ctx+m.t.size)≤ZL (ZV l):=
 Nat.le_trans (zsa m) (zeW (List.mem_map_of_mem h))
theorem zsb(d:D):4*d.t.size≤YA (zcR d):=by
 have h2:=JE d.t
 rw[za4]at h2
 simp only[zcR,YA,ZL];omega
theorem zro{l:List D}{d:D}(h:d∈l):4*d.t.size≤ZL (Y7 l):=
 Nat.le_trans (zsb d) (zeW (List.mem_map_of_mem h))
theorem zpl(c:Cal):4*(sizes c.ext+sizes c.theta+c.arg.size)≤YA (YT c):=by
 have h1:=Qn c.ext
 have h3:=Qn c.theta
 have h2:=JE c.arg
 rw[za4]at h2
 simp only[YT,YA,ZL];omega
theorem zrp(c:Cl):ZL (ZV c.metas)+4*(sizes c.theta+c.p.size+c.r.size)+ZL (XJ c.calls)≤YA (zaO c):=by
 have h1:=Qn c.theta
 have h2:=JE c.p
 have h3:=JE c.r
 rw[za4]at h2 h3
 simp only[zaO,YA,ZL];omega
theorem zrq(f:Fun1):ZL (ZV f.delta)+4*(sizes f.schema+sizes f.psi+f.a.size+sizes f.phi+f.b.size)+ZL (za3 f.clauses)≤YA (Qs f):=by
 have h1:=Qn f.schema
 have h2:=Qn f.psi
 have h3:=Qn f.phi
 have h4:=JE f.a
 have h5:=JE f.b
 rw[za4]at h4 h5
 simp only[Qs,YA,ZL];omega
def zmd(l:List D):Bool:=decide (l.length≤30)&&l.all fun d=>XH 1000 80 d.t
def zhR(l:List M):Bool:=decide (l.length≤30)&&l.all fun m=>Xd 500 80 m.ctx&&XH 500 80 m.t
def zjq(sig:List D)(ms:List M)(ctx:List T):Bool:=zmd sig&&(zhR ms&&Xd 500 80 ctx)
def Qr(c:Cal):Bool:=Xd 300 60 c.ext&&(Xd 300 60 c.theta&&XH 300 60 c.arg)
def zaP(c:Cl):Bool:=zhR c.metas&&(Xd 300 60 c.theta&&(XH 300 60 c.p&&(XH 300 60 c.r&&(decide (c.calls.length≤50)&&c.calls.all Qr))))
def zdx(f:Fun1):Bool:=zhR f.delta&&(Xd 300 60 f.schema&&(Xd 300 60 f.psi&&(Xd 300 60 f.phi&&(XH 300 60 f.a&&(XH 300 60 f.b&&(decide (f.clauses.length≤50)&&f.clauses.all zaP))))))
section
variable{R:Type}
@[simp] theorem zsc(c:Cal)(K:Int→List V→List V→Int→Int→List V→Option R):Zc (R:=R) [CT.int,CT.slice (some 3),CT.slice (some 3),CT.int,CT.int,CT.slice (some 3)] (YT c) K=K c.f (Zg c.ext) (Zg c.theta) c.arg.k c.arg.h (Zg c.arg.args):=rfl
@[simp] theorem zt3(c:Cl)(K:List V→List V→Int→Int→List V→List V→Int→Int→List V→Option R):Zc (R:=R) [CT.slice (some 5),CT.slice (some 3),CT.int,CT.int,CT.slice (some 3),CT.slice (some 6),CT.int,CT.int,CT.slice (some 3)] (zaO c) K=K (ZV c.metas) (Zg c.theta) c.p.k c.p.h (Zg c.p.args) (XJ c.calls) c.r.k c.r.h (Zg c.r.args):=rfl
@[simp] theorem zt4(m:M)(K:List V→Option R):Xq (JZ m) (fun c=>gd (decide (1≤c.length)) (Yw (some 3) (AM.partOf c 0 none) K))=K (Zg m.ctx):=by
 show gd true (Yw (some 3) (.vec .plain (some 3) (Zg m.ctx)) K)=_
 simp
@[simp] theorem zt5(m:M)(K:Int→Int→List V→Option R):Xq (JZ m) (fun c=>gd (decide (4≤c.length)) (onCells (R:=R) [CT.int,CT.int,CT.slice (some 3)] (List.take 3 (List.drop 1 c)) K))=K m.t.k m.t.h (Zg m.t.args):=rfl
end
theorem Y5(c:Cal):YT c= .agg [.int c.f, .vec .plain (some 3) (Zg c.ext), .vec .plain (some 3) (Zg c.theta), .int c.arg.k, .int c.arg.h, .vec .plain (some 3) (Zg c.arg.args)]:=rfl
theorem zb7(c:Cl):zaO c= .agg [.vec .plain (some 5) (ZV c.metas), .vec .plain (some 3) (Zg c.theta), .int c.p.k, .int c.p.h, .vec .plain (some 3) (Zg c.p.args), .vec .plain (some 6) (XJ c.calls), .int c.r.k, .int c.r.h, .vec .plain (some 3) (Zg c.r.args)]:=rfl
theorem Yk(f:Fun1):Qs f= .agg [.str (ba f.name), .vec .plain (some 3) (Zg f.schema), .vec .plain (some 5) (ZV f.delta), .vec .plain (some 3) (Zg f.psi), .int f.a.k, .int f.a.h, .vec .plain (some 3) (Zg f.a.args), .vec .plain (some 3) (Zg f.phi), .int f.b.k, .int f.b.h, .vec .plain (some 3) (Zg f.b.args), .bool f.total, .vec .plain (some 9) (za3 f.clauses)]:=rfl
end Go.Ama
namespace Go.Ama
open Go Go.AM
def Je:Nat→List Int→Int×Int
 |_,[]=>(0,0)
 |i,e::r=>if e≠0 then(i,e)else Je (i+1) r
section
variable{σ:Type}(nx:Int→T→σ→σ)
end
def zn6(l:List Int):List V:=l.map V.int
@[simp] theorem zrC(l:List Int):(zn6 l).length=l.length:=by simp[zn6]
@[simp] theorem zrD(a b:List Int):zn6 (a++b)=zn6 a++zn6 b:=by simp[zn6]
@[simp] theorem zsd(n:Nat)(l:List Int):Zk n (zn6 l)=true:=zb6 (fun _=>rfl) l
end Go.Ama
namespace Go.Ama
open Go Go.AM
theorem In.sub{sig:List D}{ms:List M}{all l:List T}(h:In sig ms all l){ctx:List T}(hc: ∀x∈ctx,x∈all)(hs:sizes ctx≤sizes all){r:List T}(hr: ∀x∈r,x∈all)(hrs:sizes r≤sizes all):In sig ms ctx r:=
 ⟨h.s,h.m,⟨Nat.le_trans hs h.c.1,fun x hx=>h.c.2 x (hc x hx)⟩,⟨Nat.le_trans hrs h.c.1,fun x hx=>h.c.2 x (hr x hx)⟩,h.sl,h.ml⟩
end Go.Ama
namespace Go.Proofs.CL
open Go Go.AM Go.Ama
end Go.Proofs.CL
namespace Go.Proofs.CL
open Go Go.AM Go.Ama
end Go.Proofs.CL
namespace Go.Proofs.CL
open Go Go.AM
set_option maxRecDepth 20000
theorem zfV(O:Oracle)(l0:(List V))(l1:(List V)):Zf Tryz.prog cfg O 23 [.vec .plain (some 3) l0, .vec .plain (some 3) l1] []=
 Za (O.call 73 [V.vec .plain (some 3) l1,V.fn 72 [] [V.cptr none (V.vec .plain (some 3) l0)]] []) fun r1=>Zx r1.fst
 (fun v2=>Zi v2 fun b3=>some (Out.ret (V.bool !b3),[])) fun p4=>none:=by kernel_rfl
theorem zme(O:Oracle)(l0:(List V))(l1:(List V))(l2:(List V))(l3:(List V))(l4:(List V)):Zf Tryz.prog cfg O 25 [.vec .plain (some 4) l0, .vec .plain (some 5) l1, .vec .plain (some 3) l2, .vec .plain (some 5) l3, .vec .plain (some 3) l4] []=
 bc (decide ((↑l3.length:Int)>40)) (some (Out.ret (V.int 4),[])) (bc ((↑l4.length:Int) !=(↑l3.length:Int)) (some (Out.ret (V.int 3),[])) (Za (O.call
 76 [V.vec .plain (some 3) l4] [Res.box [V.int 0]]) fun r1=>Zx r1.fst (fun v2=>zfg v2 fun g3 a4 b5=>Za (O.call g3 (a4++[V.yld (List.length
 r1.snd)]++b5) (r1.snd++[Res.loop 25 8 [V.ref 0 0,V.cptr none (V.vec .plain (some 5) l1),V.cptr none (V.vec .plain (some 3) l2),V.cptr none (V.vec .plain (some 4)
 l0),V.cptr none (V.vec .plain (some 5) l3)] LSt.ready none])) fun r6=>Zx r6.fst (fun v7=>Zz r6.snd (List.length r1.snd) fun x8=>ZP x8 fun f9 k10 vs11 s12 p13=>
 XS s12 p13 (Zz (List.set r6.snd (List.length r1.snd) Res.dead) 0 fun x14=>ZE x14 fun c15=>gd (decide (1≤c15.length)&&true) (Zz ((List.set r6.snd (List.length
 r1.snd) Res.dead).set 0 (Res.box (setCells c15 0 [V.int 0]))) 0 fun x16=>ZE x16 fun c17=>gd (decide (1≤c17.length)&&true) (gd (below 0 (Zs (AM.partOf c17 0 none))
 &&Zr 0 []) (some (Out.ret (Zs (AM.partOf c17 0 none)),[]))))) (Zz (List.set r6.snd (List.length r1.snd) Res.dead) 0 fun x18=>ZE x18 fun c19=>gd (decide (1≤
 c19.length)&&true) (gd (below 0 (Zs (AM.partOf c19 0 none))&&Zr 0 []) (some (Out.ret (Zs (AM.partOf c19 0 none)),[])))) fun i20=>none) fun p21=>none) fun p22
 =>none)):=by kernel_rfl
theorem zhS(O:Oracle)(q:Nat)(ms ext sg ds over:List V)(k h:Int)(xs:List V)(st:St):Xf Tryz.prog cfg O q 25 8 [.ref 0 0, .cptr none (.vec .plain (some 5) ms), .cptr none (.vec .plain (some 3) ext), .cptr none (.vec .plain (some 4) sg), .cptr none (.vec .plain (some 5) ds)] [.vec .plain (some 3) over, .agg [.int k, .int h, .vec .plain (some 3) xs]] st=
 Zz st q fun x1=>ZP x1 fun f2 k3 vs4 s5 p6=>zdi s5 p6 (gd (decide (0≤(↑over.length:Int))&&decide ((↑over.length:Int)<(↑ds.length:Int))) (Zc
 [CT.slice (some 3),CT.int,CT.int,CT.slice (some 3),CT.bool] (ZZ ds (↑over.length:Int)) fun l7 n8 n9 l10 b11=>Za (Zj O 33 [V.vec .plain (some 3) l7,V.vec
 .plain (some 3) over,V.int 0]) fun r12=>ZQ r12 fun c13=>Zd c13 fun v14 c15=>Yw (some 3) v14 fun l16=>Zd c15 fun v17 c18=>Zp v17 fun n19=>Zq c18
 (bc (n19 !=0) (Zz (List.set st q (Res.loop f2 k3 vs4 LSt.busy none)) 0 fun x20=>ZE x20 fun c21=>gd (decide (1≤c21.length)&&true) (Zz ((List.set st q (Res.loop f2
 k3 vs4 LSt.busy none)).set 0 (Res.box (setCells c21 0 [V.int n19]))) q fun x22=>ZP x22 fun f23 k24 vs25 s26 p27=>YR s26 (some (false,((List.set st q (Res.loop f2 k3
 vs4 LSt.busy none)).set 0 (Res.box (setCells c21 0 [V.int n19]))).set q (Res.loop f23 k24 vs25 LSt.done (some Ex.ret)))))) (Za (Zj O 26 [V.agg [V.int n8,V.int n9,
 V.vec .plain (some 3) l10],V.vec .plain (some 3) over,V.int (↑l7.length:Int)]) fun r28=>ZQ r28 fun c29=>Zd c29 fun v30 c31=>Zc [CT.int,CT.int,CT.slice
 (some 3)] v30 fun n32 n33 l34=>Zd c31 fun v35 c36=>Zp v35 fun n37=>Zq c36 (bc (n37==0) (Za (Zj O 77 [V.vec .plain none
 [V.vec .plain (some 3) ext,V.vec .plain (some 3) l16]]) fun r38=>Yw (some 3) r38 fun l39=>Za (Zj O 30 [V.vec .plain (some 4) sg,V.vec .plain (some 5) ms,
 V.vec .plain (some 3) l39,V.agg [V.int k,V.int h,V.vec .plain (some 3) xs],V.agg [V.int n32,V.int n33,V.vec .plain (some 3) l34]]) fun r40=>Zp r40 fun n41=>bc (n41==
 0) (bc b11 (Za (Zj O 78 [V.agg [V.int k,V.int h,V.vec .plain (some 3) xs],V.vec .plain (some 5) ms]) fun r42=>Zi r42 fun b43=>bc (!b43) (Zz
 (List.set st q (Res.loop f2 k3 vs4 LSt.busy none)) 0 fun x44=>ZE x44 fun c45=>gd (decide (1≤c45.length)&&true) (Zz ((List.set st q (Res.loop f2 k3 vs4 LSt.busy
 none)).set 0 (Res.box (setCells c45 0 [V.int 3]))) q fun x46=>ZP x46 fun f47 k48 vs49 s50 p51=>YR s50 (some (false,((List.set st q (Res.loop f2 k3 vs4 LSt.busy
 none)).set 0 (Res.box (setCells c45 0 [V.int 3]))).set q (Res.loop f47 k48 vs49 LSt.done (some Ex.ret)))))) (bc (n41 !=0) (Zz (List.set st q (Res.loop f2 k3 vs4 LSt.busy none))
 0 fun x52=>ZE x52 fun c53=>gd (decide (1≤c53.length)&&true) (Zz ((List.set st q (Res.loop f2 k3 vs4 LSt.busy none)).set 0 (Res.box (setCells c53 0 [V.int n41]))) q
 fun x54=>ZP x54 fun f55 k56 vs57 s58 p59=>YR s58 (some (false,((List.set st q (Res.loop f2 k3 vs4 LSt.busy none)).set 0 (Res.box (setCells c53 0 [V.int n41]))).set q
 (Res.loop f55 k56 vs57 LSt.done (some Ex.ret)))))) (Zz (List.set st q (Res.loop f2 k3 vs4 LSt.busy none)) q fun x60=>ZP x60 fun f61 k62 vs63 s64 p65=>YR s64 (some
 (true,(List.set st q (Res.loop f2 k3 vs4 LSt.busy none)).set q (Res.loop f61 k62 vs63 LSt.ready none)))))) (bc (n41 !=0) (Zz (List.set st q (Res.loop f2 k3 vs4 LSt.busy none))
 0 fun x66=>ZE x66 fun c67=>gd (decide (1≤c67.length)&&true) (Zz ((List.set st q (Res.loop f2 k3 vs4 LSt.busy none)).set 0 (Res.box (setCells c67 0 [V.int n41]))) q
 fun x68=>ZP x68 fun f69 k70 vs71 s72 p73=>YR s72 (some (false,((List.set st q (Res.loop f2 k3 vs4 LSt.busy none)).set 0 (Res.box (setCells c67 0 [V.int n41]))).set q
 (Res.loop f69 k70 vs71 LSt.done (some Ex.ret)))))) (Zz (List.set st q (Res.loop f2 k3 vs4 LSt.busy none)) q fun x74=>ZP x74 fun f75 k76 vs77 s78 p79=>YR s78 (some
 (true,(List.set st q (Res.loop f2 k3 vs4 LSt.busy none)).set q (Res.loop f75 k76 vs77 LSt.ready none)))))) (bc (n41 !=0) (Zz (List.set st q (Res.loop f2 k3 vs4 LSt.busy none))
 0 fun x80=>ZE x80 fun c81=>gd (decide (1≤c81.length)&&true) (Zz ((List.set st q (Res.loop f2 k3 vs4 LSt.busy none)).set 0 (Res.box (setCells c81 0 [V.int n41]))) q
 fun x82=>ZP x82 fun f83 k84 vs85 s86 p87=>YR s86 (some (false,((List.set st q (Res.loop f2 k3 vs4 LSt.busy none)).set 0 (Res.box (setCells c81 0 [V.int n41]))).set q
 (Res.loop f83 k84 vs85 LSt.done (some Ex.ret)))))) (Zz (List.set st q (Res.loop f2 k3 vs4 LSt.busy none)) q fun x88=>ZP x88 fun f89 k90 vs91 s92 p93=>YR s92 (some
 (true,(List.set st q (Res.loop f2 k3 vs4 LSt.busy none)).set q (Res.loop f89 k90 vs91 LSt.ready none)))))) (bc (n37==0) (bc b11 (Za (Zj O 78 [V.agg [V.int
 k,V.int h,V.vec .plain (some 3) xs],V.vec .plain (some 5) ms]) fun r94=>Zi r94 fun b95=>bc (!b95) (Zz (List.set st q (Res.loop f2 k3 vs4 LSt.busy none)) 0 fun x96=>
 ZE x96 fun c97=>gd (decide (1≤c97.length)&&true) (Zz ((List.set st q (Res.loop f2 k3 vs4 LSt.busy none)).set 0 (Res.box (setCells c97 0 [V.int 3]))) q fun x98=>ZP
 x98 fun f99 k100 vs101 s102 p103=>YR s102 (some (false,((List.set st q (Res.loop f2 k3 vs4 LSt.busy none)).set 0 (Res.box (setCells c97 0 [V.int 3]))).set q (Res.loop f99
 k100 vs101 LSt.done (some Ex.ret)))))) (bc (n37 !=0) (Zz (List.set st q (Res.loop f2 k3 vs4 LSt.busy none)) 0 fun x104=>ZE x104 fun c105=>gd (decide (1≤c105.length)&&
 true) (Zz ((List.set st q (Res.loop f2 k3 vs4 LSt.busy none)).set 0 (Res.box (setCells c105 0 [V.int n37]))) q fun x106=>ZP x106 fun f107 k108 vs109 s110 p111=>YR
 s110 (some (false,((List.set st q (Res.loop f2 k3 vs4 LSt.busy none)).set 0 (Res.box (setCells c105 0 [V.int n37]))).set q (Res.loop f107 k108 vs109 LSt.done (some Ex.ret))))))
 (Zz (List.set st q (Res.loop f2 k3 vs4 LSt.busy none)) q fun x112=>ZP x112 fun f113 k114 vs115 s116 p117=>YR s116 (some (true,(List.set st q (Res.loop f2 k3 vs4
 LSt.busy none)).set q (Res.loop f113 k114 vs115 LSt.ready none)))))) (bc (n37 !=0) (Zz (List.set st q (Res.loop f2 k3 vs4 LSt.busy none)) 0 fun x118=>ZE x118 fun c119=>
 gd (decide (1≤c119.length)&&true) (Zz ((List.set st q (Res.loop f2 k3 vs4 LSt.busy none)).set 0 (Res.box (setCells c119 0 [V.int n37]))) q fun x120=>ZP x120 fun f121
 k122 vs123 s124 p125=>YR s124 (some (false,((List.set st q (Res.loop f2 k3 vs4 LSt.busy none)).set 0 (Res.box (setCells c119 0 [V.int n37]))).set q (Res.loop f121 k122
 vs123 LSt.done (some Ex.ret)))))) (Zz (List.set st q (Res.loop f2 k3 vs4 LSt.busy none)) q fun x126=>ZP x126 fun f127 k128 vs129 s130 p131=>YR s130 (some (true,
 (List.set st q (Res.loop f2 k3 vs4 LSt.busy none)).set q (Res.loop f127 k128 vs129 LSt.ready none)))))) (bc (n37 !=0) (Zz (List.set st q (Res.loop f2 k3 vs4 LSt.busy none)) 0
 fun x132=>ZE x132 fun c133=>gd (decide (1≤c133.length)&&true) (Zz ((List.set st q (Res.loop f2 k3 vs4 LSt.busy none)).set 0 (Res.box (setCells c133 0 [V.int n37]))) q
 fun x134=>ZP x134 fun f135 k136 vs137 s138 p139=>YR s138 (some (false,((List.set st q (Res.loop f2 k3 vs4 LSt.busy none)).set 0 (Res.box (setCells c133 0 [V.int
 n37]))).set q (Res.loop f135 k136 vs137 LSt.done (some Ex.ret)))))) (Zz (List.set st q (Res.loop f2 k3 vs4 LSt.busy none)) q fun x140=>ZP x140 fun f141 k142 vs143 s144
 p145=>YR s144 (some (true,(List.set st q (Res.loop f2 k3 vs4 LSt.busy none)).set q (Res.loop f141 k142 vs143 LSt.ready none))))))))))):=by kernel_rfl
theorem zmf(O:Oracle)(n0:Int)(n1:Int)(l2:(List V))(l3:(List V))(n4:Int):Zf Tryz.prog cfg O 26 [.agg [.int n0, .int n1, .vec .plain (some 3) l2], .vec .plain (some 3) l3, .int n4] []=
 Za (Zj O 79 [V.agg [V.int n0,V.int n1,V.vec .plain (some 3) l2]]) fun r1=>Zi r1 fun b2=>bc b2 (some (Out.ret (V.tup [V.agg [V.int 0,V.int 0,V.vec .plain
 (some 3) []],V.int 1]),[])) (bc (decide (n4<0)) (some (Out.ret (V.tup [V.agg [V.int 0,V.int 0,V.vec .plain (some 3) []],V.int 1]),[])) (bc (decide (n4>1000)) (some
 (Out.ret (V.tup [V.agg [V.int 0,V.int 0,V.vec .plain (some 3) []],V.int 1]),[])) (bc (decide ((↑l3.length:Int)>200)) (some (Out.ret (V.tup [V.agg [V.int 0,V.int 0,V.vec
 .plain (some 3) []],V.int 1]),[])) (Za (O.call 73 [V.vec .plain (some 3) l3,V.fn 79 [] []] []) fun r3=>Zx r3.fst (fun v4=>
 Zi v4 fun b5=>bc b5 (some (Out.ret (V.tup [V.agg [V.int 0,V.int 0,V.vec .plain (some 3) []],V.int 1]),[])) (Za (Zj O 80 [V.agg [V.int n0,V.int n1,V.vec
 .plain (some 3) l2],V.vec .plain (some 3) l3,V.int n4]) fun r6=>ZQ r6 fun c7=>Zd c7 fun v8 c9=>Zc [CT.int,CT.int,CT.slice (some 3)] v8 fun n10 n11 l12=>
 Zd c9 fun v13 c14=>Zp v13 fun n15=>Zq c14 (bc (n15 !=0) (some (Out.ret (V.tup [V.agg [V.int 0,V.int 0,V.vec .plain (some 3) []],V.int n15]),[])) (Za (Zj O
 79 [V.agg [V.int n10,V.int n11,V.vec .plain (some 3) l12]]) fun r16=>Zi r16 fun b17=>bc b17 (some (Out.ret (V.tup [V.agg [V.int 0,V.int 0,V.vec .plain (some 3)
 []],V.int 4]),[])) (gd (below 0 (V.tup [V.agg [V.int n10,V.int n11,V.vec .plain (some 3) l12],V.int 0])&&Zr 0 []) (some (Out.ret (V.tup [V.agg [V.int n10,V.int n11,
 V.vec .plain (some 3) l12],V.int 0]),[]))))))) fun p18=>none)))):=by kernel_rfl
theorem zn7(O:Oracle)(l0:(List V))(l1:(List V))(n2:Int):Zf Tryz.prog cfg O 33 [.vec .plain (some 3) l0, .vec .plain (some 3) l1, .int n2] []=
 Za (O.call 98 [V.vec .plain (some 3) l0,V.fn 99 [] [V.cptr none (V.vec .plain (some 3) l1),V.cptr none (V.int n2)]] []) fun r1=>Zx r1.fst
 (fun v2=>ZQ v2 fun c3=>Zd c3 fun v4 c5=>Yw (some 3) v4 fun l6=>Zd c5 fun v7 c8=>Zp v7 fun n9=>Zq c8 (gd (below 0 (V.tup [V.vec .plain (some 3) l6,
 V.int n9])&&Zr 0 []) (some (Out.ret (V.tup [V.vec .plain (some 3) l6,V.int n9]),[])))) fun p10=>none:=by kernel_rfl
theorem zep(O:Oracle)(k h:Int)(xs ys:List V)(st:St):Zf Tryz.prog cfg O 72 [.agg [.int k, .int h, .vec .plain (some 3) xs], .cptr none (.vec .plain (some 3) ys)] st=
 Za (O.call 73 [V.vec .plain (some 3) ys,V.fn 74 [] [V.cptr (some 3) (V.agg [V.int k,V.int h,V.vec .plain (some 3)
 xs])]] st) fun r1=>Zx r1.fst (fun v2=>Zi v2 fun b3=>X5 (List.length st) (V.bool !b3) r1.snd) fun p4=>none:=by kernel_rfl
theorem zcY(O:Oracle)(k h k2 h2:Int)(xs ys:List V)(st:St):Zf Tryz.prog cfg O 74 [.agg [.int k, .int h, .vec .plain (some 3) xs], .cptr (some 3) (.agg [.int k2, .int h2, .vec .plain (some 3) ys])] st=
 Za (Zj O 75 [V.agg [V.int k,V.int h,V.vec .plain (some 3) xs],V.agg [V.int k2,V.int h2,V.vec .plain (some 3) ys]]) fun r1=>Zi r1 fun b2=>X5
 (List.length st) (V.bool b2) st:=by kernel_rfl
theorem zcf(O:Oracle)(l0:(List V))(st:St):Zf Tryz.prog cfg O 76 [.vec .plain (some 3) l0] st=
 X5 (List.length st) (V.fn 123 [] [V.cptr none (V.vec .plain (some 3) l0)]) st:=by kernel_rfl
theorem zfW(O:Oracle)(n0:Int)(n1:Int)(l2:(List V))(l3:(List V)):Zf Tryz.prog cfg O 78 [.agg [.int n0, .int n1, .vec .plain (some 3) l2], .vec .plain (some 5) l3] []=
 bc (n0==6) (bc (decide (n1<(↑l3.length:Int))) (gd (decide (0≤n1)&&decide (n1<(↑l3.length:Int))) (Xq (ZZ l3 n1) fun c1=>gd (decide (5≤c1.length)) (Zi
 (AM.partOf c1 4 none) fun b2=>some (Out.ret (V.bool b2),[])))) (some (Out.ret (V.bool false),[]))) (bc (n0==4) (some (Out.ret (V.bool ((↑l2.length:Int)==0)),[])) (some
 (Out.ret (V.bool false),[]))):=by kernel_rfl
theorem zn8(O:Oracle)(n0:Int)(n1:Int)(l2:(List V)):Zf Tryz.prog cfg O 79 [.agg [.int n0, .int n1, .vec .plain (some 3) l2]] []=
 Za (Zj O 82 [V.agg [V.int n0,V.int n1,V.vec .plain (some 3) l2]]) fun r1=>Zi r1 fun b2=>some (Out.ret (V.bool !b2),[]):=by kernel_rfl
theorem zmg(O:Oracle)(n0:Int)(n1:Int)(l2:(List V))(l3:(List V))(n4:Int):Zf Tryz.prog cfg O 80 [.agg [.int n0, .int n1, .vec .plain (some 3) l2], .vec .plain (some 3) l3, .int n4] []=
 bc (n0==1) (Za (O.call 98 [V.vec .plain (some 3) l2,V.fn 125 [] [V.cptr none (V.bool true),V.cptr (some 3) (V.agg [V.int n0,V.int n1,V.vec
 .plain (some 3) l2]),V.cptr none (V.vec .plain (some 3) l3),V.cptr none (V.int n4)]] []) fun r1=>Zx r1.fst (fun v2=>ZQ v2 fun c3=>Zd c3 fun v4 c5=>Yw (some
 3) v4 fun l6=>Zd c5 fun v7 c8=>Zp v7 fun n9=>Zq c8 (bc (n9 !=0) (some (Out.ret (V.tup [V.agg [V.int 0,V.int 0,V.vec .plain (some 3) []],V.int n9]),[])) (bc
 (n0 !=6) (gd (below 0 (V.tup [V.agg [V.int n0,V.int n1,V.vec .plain (some 3) l6],V.int 0])&&Zr 0 []) (some (Out.ret (V.tup [V.agg [V.int n0,V.int n1,V.vec .plain
 (some 3) l6],V.int 0]),[]))) (bc (decide (n1≥(↑l3.length:Int))) (some (Out.ret (V.tup [V.agg [V.int 0,V.int 0,V.vec .plain (some 3) []],V.int 2]),[])) (Za (O.call
 73 [V.vec .plain (some 3) l6,V.fn 79 [] []] r1.snd) fun r10=>Zx r10.fst (fun v11=>Zi v11 fun b12=>bc b12 (some (Out.ret
 (V.tup [V.agg [V.int 0,V.int 0,V.vec .plain (some 3) []],V.int 4]),[])) (gd (decide (0≤n1)&&decide (n1<(↑l3.length:Int))) (Zc [CT.int,CT.int,CT.slice (some 3)]
 (ZZ l3 n1) fun n13 n14 l15=>Za (Zj O 126 [V.agg [V.int n13,V.int n14,V.vec .plain (some 3) l15],V.agg [V.vec .plain (some 3) l6,V.int n4]]) fun r16=>
 ZQ r16 fun c17=>Zd c17 fun v18 c19=>Zc [CT.int,CT.int,CT.slice (some 3)] v18 fun n20 n21 l22=>Zd c19 fun v23 c24=>Zp v23 fun n25=>Zq c24 (gd
 (below 0 (V.tup [V.agg [V.int n20,V.int n21,V.vec .plain (some 3) l22],V.int n25])&&Zr 0 []) (some (Out.ret (V.tup [V.agg [V.int n20,V.int n21,V.vec .plain (some 3)
 l22],V.int n25]),[])))))) fun p26=>none))))) fun p27=>none) (Za (O.call 98 [V.vec .plain (some 3) l2,V.fn 125 [] [V.cptr none (V.bool (n0==
 3)),V.cptr (some 3) (V.agg [V.int n0,V.int n1,V.vec .plain (some 3) l2]),V.cptr none (V.vec .plain (some 3) l3),V.cptr none (V.int n4)]] []) fun r28=>Zx r28.fst (fun v29
 =>ZQ v29 fun c30=>Zd c30 fun v31 c32=>Yw (some 3) v31 fun l33=>Zd c32 fun v34 c35=>Zp v34 fun n36=>Zq c35 (bc (n36 !=0) (some (Out.ret (V.tup
 [V.agg [V.int 0,V.int 0,V.vec .plain (some 3) []],V.int n36]),[])) (bc (n0 !=6) (gd (below 0 (V.tup [V.agg [V.int n0,V.int n1,V.vec .plain (some 3) l33],V.int 0])&&
 Zr 0 []) (some (Out.ret (V.tup [V.agg [V.int n0,V.int n1,V.vec .plain (some 3) l33],V.int 0]),[]))) (bc (decide (n1≥(↑l3.length:Int))) (some (Out.ret (V.tup [V.agg
 [V.int 0,V.int 0,V.vec .plain (some 3) []],V.int 2]),[])) (Za (O.call 73 [V.vec .plain (some 3) l33,V.fn 79 [] []] r28.snd)
 fun r37=>Zx r37.fst (fun v38=>Zi v38 fun b39=>bc b39 (some (Out.ret (V.tup [V.agg [V.int 0,V.int 0,V.vec .plain (some 3) []],V.int 4]),[])) (gd (decide (0≤n1)
 &&decide (n1<(↑l3.length:Int))) (Zc [CT.int,CT.int,CT.slice (some 3)] (ZZ l3 n1) fun n40 n41 l42=>Za (Zj O 126 [V.agg [V.int n40,V.int n41,V.vec
 .plain (some 3) l42],V.agg [V.vec .plain (some 3) l33,V.int n4]]) fun r43=>ZQ r43 fun c44=>Zd c44 fun v45 c46=>Zc [CT.int,CT.int,CT.slice (some 3)] v45 fun
 n47 n48 l49=>Zd c46 fun v50 c51=>Zp v50 fun n52=>Zq c51 (gd (below 0 (V.tup [V.agg [V.int n47,V.int n48,V.vec .plain (some 3) l49],V.int n52])&&Zr 0 [])
 (some (Out.ret (V.tup [V.agg [V.int n47,V.int n48,V.vec .plain (some 3) l49],V.int n52]),[])))))) fun p53=>none))))) fun p54=>none):=by kernel_rfl
theorem zcZ(O:Oracle)(l0:(List V))(g1:Nat)(l2:(List V))(l3:(List V))(st:St):Zf Tryz.prog cfg O 98 [.vec .plain (some 3) l0, .fn g1 l2 l3] st=
 Za (O.loop 98 3 [V.int 0,V.vec Mode.grow (some 3) [],V.fn g1 l2 l3,V.vec .plain (some 3) l0,V.int (↑l0.length:Int)] st) fun r1=>XM r1.fst none
 (Zd r1.snd.fst fun v2 c3=>Yw (some 3) v2 fun l4=>Zd c3 fun v5 c6=>Zp v5 fun n7=>Zq c6 (X5 (List.length st) (V.tup [V.vec .plain (some 3) l4,V.int n7])
 r1.snd.snd)) (fun i8=>bc (i8.beq 0) (Zd r1.snd.fst fun v9 c10=>YY (some 3) v9 fun l11=>Zq c10 (X5 (List.length st) (V.tup [V.vec .plain (some 3) l11,V.int 0])
 r1.snd.snd)) none) fun v12=>none:=by kernel_rfl
theorem QS(O:Oracle)(n0:Int)(l1:(List V))(g2:Nat)(l3:(List V))(l4:(List V))(l5:(List V))(n6:Int)(st:St):Z5 Tryz.prog cfg O 98 3 [.int n0, .vec .grow (some 3) l1, .fn g2 l3 l4, .vec .plain (some 3) l5, .int n6] st=
 bc (decide (n0<n6)) (gd (decide (0≤n0)&&decide (n0<(↑l5.length:Int))) (Zc [CT.int,CT.int,CT.slice (some 3)] (ZZ l5 n0) fun n1 n2 l3_1=>bc (cfg.pure g2)
 (Za (Zj O g2 (l3++[V.int n0,V.agg [V.int n1,V.int n2,V.vec .plain (some 3) l3_1]]++l4)) fun r4=>ZQ r4 fun c5=>Zd c5 fun v6 c7=>Zc [CT.int,CT.int,
 CT.slice (some 3)] v6 fun n8 n9 l10=>Zd c7 fun v11 c12=>Zp v11 fun n13=>Zq c12 (bc (n13 !=0) (some (Ex.ret,[V.vec .plain (some 3) [],V.int n13],st)) (gd (true
 &&roomFor Tryz.prog 27 (l1.length+[V.agg [V.int n8,V.int n9,V.vec .plain (some 3) l10]].length)) (O.2 98 3 [V.int (IntKind.i64.wrap (n0+1)),
 V.vec Mode.grow (some 3) (l1++[V.agg [V.int n8,V.int n9,V.vec .plain (some 3) l10]]),V.fn g2 l3 l4,V.vec .plain (some 3) l5,V.int n6] st)))) (Za (O.call g2 (l3++[V.int
 n0,V.agg [V.int n1,V.int n2,V.vec .plain (some 3) l3_1]]++l4) st) fun r14=>Zx r14.fst (fun v15=>ZQ v15 fun c16=>Zd c16 fun v17 c18=>Zc [CT.int,
 CT.int,CT.slice (some 3)] v17 fun n19 n20 l21=>Zd c18 fun v22 c23=>Zp v22 fun n24=>Zq c23 (bc (n24 !=0) (some (Ex.ret,[V.vec .plain (some 3) [],V.int n24],
 r14.snd)) (gd (true&&roomFor Tryz.prog 27 (l1.length+[V.agg [V.int n19,V.int n20,V.vec .plain (some 3) l21]].length)) (O.2 98 3 [V.int
 (IntKind.i64.wrap (n0+1)),V.vec Mode.grow (some 3) (l1++[V.agg [V.int n19,V.int n20,V.vec .plain (some 3) l21]]),V.fn g2 l3 l4,V.vec .plain (some 3) l5,V.int n6]
 r14.snd)))) fun p25=>none))) (some (Ex.exit 0,[V.vec Mode.grow (some 3) l1],st)):=by kernel_rfl
theorem zkv(O:Oracle)(i k h n:Int)(xs th:List V)(st:St):Zf Tryz.prog cfg O 99 [.int i, .agg [.int k, .int h, .vec .plain (some 3) xs], .cptr none (.vec .plain (some 3) th), .cptr none (.int n)] st=
 Za (Zj O 26 [V.agg [V.int k,V.int h,V.vec .plain (some 3) xs],V.vec .plain (some 3) th,V.int (IntKind.i64.wrap (n+i))]) fun r1=>ZQ r1 fun c2=>Zd c2
 fun v3 c4=>Zc [CT.int,CT.int,CT.slice (some 3)] v3 fun n5 n6 l7=>Zd c4 fun v8 c9=>Zp v8 fun n10=>Zq c9 (X5 (List.length st) (V.tup [V.agg [V.int n5,
 V.int n6,V.vec .plain (some 3) l7],V.int n10]) st):=by kernel_rfl
theorem zbh(O:Oracle)(q:Nat)(xs:List V)(st:St):Zf Tryz.prog cfg O 123 [.yld q, .cptr none (.vec .plain (some 3) xs)] st=
 Za (O.loop 123 1 [V.int 0,V.cptr none (V.vec .plain (some 3) xs),V.yld q,V.vec .plain (some 3) xs,V.int (↑xs.length:Int)] st) fun r1=>XM r1.fst
 none (Zq r1.snd.fst (X5 (List.length st) (V.tup []) r1.snd.snd)) (fun i2=>bc (i2.beq 0) (Zq r1.snd.fst (X5 (List.length st) (V.tup []) r1.snd.snd)) none) fun v3=>none:=by kernel_rfl
theorem XP(O:Oracle)(q:Nat)(i n:Int)(xs ys:List V)(st:St):Z5 Tryz.prog cfg O 123 1 [.int i, .cptr none (.vec .plain (some 3) xs), .yld q, .vec .plain (some 3) ys, .int n] st=
 bc (decide (i<n)) (gd (decide (0≤i)&&decide (i<(↑ys.length:Int))) (Zc [CT.int,CT.int,CT.slice (some 3)] (ZZ ys i) fun n1 n2 l3=>gd (true&&decide (0≤i)&&
 decide (i≤(↑xs.length:Int))) (gd (decide (i=i)&&(some (V.int i)).isSome) (Zz st q fun x4=>ZP x4 fun f5 k6 vs7 s8 p9=>XS s8 p9 (Za (O.round q f5 k6 vs7
 [V.vec .plain (some 3) (List.drop 0 (List.take i.toNat xs)),V.agg [V.int n1,V.int n2,V.vec .plain (some 3) l3]] st) fun r10=>bc (!r10.fst) (some (Ex.ret,[],r10.snd)) (O.2
 123 1 [V.int (IntKind.i64.wrap (i+1)),V.cptr none (V.vec .plain (some 3) xs),V.yld q,V.vec .plain (some 3) ys,V.int n] r10.snd)) none fun i11=>
 none)))) (some (Ex.exit 0,[],st)):=by kernel_rfl
theorem ziI(O:Oracle)(i k h k2 h2 n:Int)(b:Bool)(xs ys th:List V)(st:St):Zf Tryz.prog cfg O 125 [.int i, .agg [.int k, .int h, .vec .plain (some 3) xs], .cptr none (.bool b), .cptr (some 3) (.agg [.int k2, .int h2, .vec .plain (some 3) ys]), .cptr none (.vec .plain (some 3) th), .cptr none (.int n)] st=
 bc b (bc (i==IntKind.i64.wrap ((↑ys.length:Int)-1)) (Za (Zj O 80 [V.agg [V.int k,V.int h,V.vec .plain (some 3) xs],V.vec .plain (some 3) th,V.int
 (IntKind.i64.wrap (n+1))]) fun r1=>ZQ r1 fun c2=>Zd c2 fun v3 c4=>Zc [CT.int,CT.int,CT.slice (some 3)] v3 fun n5 n6 l7=>Zd c4 fun v8 c9=>Zp v8
 fun n10=>Zq c9 (X5 (List.length st) (V.tup [V.agg [V.int n5,V.int n6,V.vec .plain (some 3) l7],V.int n10]) st)) (Za (Zj O 80 [V.agg [V.int k,V.int h,
 V.vec .plain (some 3) xs],V.vec .plain (some 3) th,V.int n]) fun r11=>ZQ r11 fun c12=>Zd c12 fun v13 c14=>Zc [CT.int,CT.int,CT.slice (some 3)] v13 fun n15
 n16 l17=>Zd c14 fun v18 c19=>Zp v18 fun n20=>Zq c19 (X5 (List.length st) (V.tup [V.agg [V.int n15,V.int n16,V.vec .plain (some 3) l17],V.int n20]) st))) (Za
 (Zj O 80 [V.agg [V.int k,V.int h,V.vec .plain (some 3) xs],V.vec .plain (some 3) th,V.int n]) fun r21=>ZQ r21 fun c22=>Zd c22 fun v23 c24=>Zc
 [CT.int,CT.int,CT.slice (some 3)] v23 fun n25 n26 l27=>Zd c24 fun v28 c29=>Zp v28 fun n30=>Zq c29 (X5 (List.length st) (V.tup [V.agg [V.int n25,V.int n26,
 V.vec .plain (some 3) l27],V.int n30]) st)):=by kernel_rfl
end Go.Proofs.CL
namespace Go.Ama
open Go Go.AM
mutual
noncomputable def Xc(θ:List T):T→Int→T×Int
 | .mk k h xs,n=>
  let r:=YX θ (bindsB k) xs n
  if r.2≠0 then(T0,r.2)
  else if k≠6 then(.mk k h r.1,0)
  else if(θ.length:Int)≤h then(T0,2)
  else if r.1.any (fun x=> !may x)then(T0,4)
  else Y3 (θ.getD h.toNat T0) r.1 n
noncomputable def YX(θ:List T)(b:Bool):List T→Int→List T×Int
 |[],_=>([],0)
 |a::l,n=>
  let r:=Xc θ a (if b&&l.isEmpty then n+1 else n)
  if r.2≠0 then([],r.2)
  else
   let q:=YX θ b l n
   if q.2≠0 then([],q.2)else(r.1::q.1,0)
end
noncomputable def X1(t:T)(θ:List T)(n:Int):T×Int:=
 if !may t||decide (n<0)||decide (1000<n)||decide (200<θ.length)||θ.any (fun x=> !may x)then(T0,1)
 else
  let r:=Xc θ t n
  if r.2≠0 then(T0,r.2)else if may r.1 then(r.1,0)else(T0,4)
noncomputable def Yg(θ:List T):List T→Int→List T×Int
 |[],_=>([],0)
 |a::l,n=>
  let r:=X1 a θ n
  if r.2≠0 then([],r.2)
  else
   let q:=Yg θ l (n+1)
   if q.2≠0 then([],q.2)else(r.1::q.1,0)
theorem zfX(θ:List T)(b:Bool): ∀(l:List T) (n:Int),(YX θ b l n).2=0→(YX θ b l n).1.length=l.length
 |[],_,_=>rfl
 |a::l,n,h=>by
  unfold YX at h⊢
  dsimp only at h⊢
  by_cases h1:(Xc θ a (if b&&l.isEmpty then n+1 else n)).2≠0
  ·rw[if_pos h1]at h;exact absurd h h1
  ·rw[if_neg h1]at h⊢
   by_cases h2:(YX θ b l n).2≠0
   ·rw[if_pos h2]at h;exact absurd h h2
   ·rw[if_neg h2]
    simp only[List.length_cons,zfX θ b l n (by simpa using h2)]
theorem zhT{β:Int}{θ:List T}(hθ: ∀x∈θ,may x=true∧okB β x)(h0:0≤β)(t:T): ∀n:Int,okB β t→ZN (β+t.size*90000000000)→(Xc θ t n).2=0→okB (β+t.size*90000000000) (Xc θ t n).1∧(Xc θ t n).1.size≤4000*t.size:=by
 induction t using T.ind with
 |_ k h xs ih=>
  intro n ht hβ hz
  have hl: ∀(l:List T) (n:Int),(∀a∈l,∀n:Int,okB β a→ZN (β+a.size*90000000000)→(Xc θ a n).2=0→okB (β+a.size*90000000000) (Xc θ a n).1∧(Xc θ a n).1.size≤4000*a.size)→zaB β l→ZN (β+sizes l*90000000000)→ ∀b,(YX θ b l n).2=0→zaB (β+sizes l*90000000000) (YX θ b l n).1∧sizes (YX θ b l n).1≤4000*sizes l:=by
   intro l
   induction l with
   |nil=>intro n _ _ _ b _;exact⟨trivial,by simp[YX,sizes]⟩
   |cons a l ihl=>
    intro n ih hb hβ b hz
    obtain⟨hb1,hb2⟩:=hb
    simp only[sizes]at hβ⊢
    unfold YX at hz⊢
    dsimp only at hz⊢
    by_cases h1:(Xc θ a (if b&&l.isEmpty then n+1 else n)).2≠0
    ·rw[if_pos h1]at hz;exact absurd hz h1
    ·rw[if_neg h1]at hz⊢
     by_cases h2:(YX θ b l n).2≠0
     ·rw[if_pos h2]at hz;exact absurd hz h2
     ·rw[if_neg h2]
      have q1:=ih a (by simp) (if b&&l.isEmpty then n+1 else n) hb1 (ZU hβ (by omega) (by omega)) (Decidable.not_not.1 h1)
      have q2:=ihl n (fun x hx=>ih x (by simp[hx])) hb2 (ZU hβ (by omega) (by omega)) b (by simpa using h2)
      have q3:=Zy (B:=β+a.size*90000000000) (B':=β+((a.size+sizes l:Nat):Int)*90000000000) (by omega) _ q1.1
      refine⟨⟨q3, ?_⟩, ?_⟩
      ·have:=q2.1
       rw[XI]at this⊢
       exact fun x hx=>Zy (by omega) _ (this x hx)
      ·simp only[sizes]
       have:=q1.2
       have:=q2.2
       omega
  obtain⟨⟨b1,b2⟩,b3,b4⟩:=ht
  simp only[T.size]at hβ⊢
  unfold Xc at hz⊢
  dsimp only at hz⊢
  by_cases h1:(YX θ (bindsB k) xs n).2≠0
  ·rw[if_pos h1]at hz;exact absurd hz h1
  rw[if_neg h1]at hz⊢
  have h1':(YX θ (bindsB k) xs n).2=0:=by simpa using h1
  have q:=hl xs n ih b4 (ZU hβ (by omega) (by omega)) (bindsB k) h1'
  have hlen:=zfX θ (bindsB k) xs n h1'
  by_cases h6:k≠6
  ·rw[if_pos h6]
   refine⟨⟨⟨b1,by omega⟩,fun hk e=>b3 hk ?_, ?_⟩, ?_⟩
   ·rw[e]at hlen;exact List.length_eq_zero_iff.1 hlen.symm
   ·have:=q.1
    rw[XI]at this⊢
    exact fun x hx=>Zy (by omega) _ (this x hx)
   ·simp only[T.size]
    have:=q.2
    omega
  ·rw[if_neg h6]at hz⊢
   by_cases h2:(θ.length:Int)≤h
   ·rw[if_pos h2]at hz;cases hz
   ·rw[if_neg h2]at hz⊢
    by_cases h3:((YX θ (bindsB k) xs n).1.any fun x=> !may x)=true
    ·rw[if_pos h3]at hz;cases hz
    ·rw[if_neg h3]at hz⊢
     have hlt:h.toNat<θ.length:=by omega
     have hm:θ.getD h.toNat T0∈θ:=by rw[List.getD_eq_getElem?_getD,List.getElem?_eq_getElem hlt];exact List.getElem_mem hlt
     have hbase:ZN (β+sizes xs*90000000000):=ZU hβ (by omega) (by omega)
     obtain⟨u1,u2,_⟩:=zb5 (t:=θ.getD h.toNat T0) (l:=(YX θ (bindsB k) xs n).1) (s:=n) hbase (fun _=>Zy (by omega) _ (hθ _ hm).2) (fun _=>(XI _ _).1 q.1) hz
     refine⟨Zy (by omega) _ u2, ?_⟩
     have:=YG u1
     omega
theorem zqw{β:Int}{θ:List T}(hθ: ∀x∈θ,may x=true∧okB β x)(h0:0≤β)(l:List T)(n:Int)(b:Bool):zaB β l→ZN (β+sizes l*90000000000)→(YX θ b l n).2=0→zaB (β+sizes l*90000000000) (YX θ b l n).1∧sizes (YX θ b l n).1≤4000*sizes l:=by
 induction l with
 |nil=>intro _ _ _;exact⟨trivial,by simp[YX,sizes]⟩
 |cons a l ih=>
  intro hb hβ hz
  obtain⟨hb1,hb2⟩:=hb
  simp only[sizes]at hβ⊢
  unfold YX at hz⊢
  dsimp only at hz⊢
  by_cases h1:(Xc θ a (if b&&l.isEmpty then n+1 else n)).2≠0
  ·rw[if_pos h1]at hz;exact absurd hz h1
  ·rw[if_neg h1]at hz⊢
   by_cases h2:(YX θ b l n).2≠0
   ·rw[if_pos h2]at hz;exact absurd hz h2
   ·rw[if_neg h2]
    have q1:=zhT hθ h0 a (if b&&l.isEmpty then n+1 else n) hb1 (ZU hβ (by omega) (by omega)) (Decidable.not_not.1 h1)
    have q2:=ih hb2 (ZU hβ (by omega) (by omega)) (Decidable.not_not.1 h2)
    have q3:=Zy (B:=β+a.size*90000000000) (B':=β+((a.size+sizes l:Nat):Int)*90000000000) (by omega) _ q1.1
    refine⟨⟨q3, ?_⟩, ?_⟩
    ·have:=q2.1
     rw[XI]at this⊢
     exact fun x hx=>Zy (by omega) _ (this x hx)
    ·simp only[sizes]
     have:=q1.2
     have:=q2.2
     omega
theorem zmh{β:Int}{θ:List T}(h0:0≤β){t:T}{n:Int}(hθ: ∀x∈θ,may x=true→okB β x)(ht:may t=true→okB β t)(hβ:ZN (β+360000000000000))(hz:(X1 t θ n).2=0):
  may (X1 t θ n).1=true∧okB (β+360000000000000) (X1 t θ n).1∧(Xc θ t n).2=0∧(X1 t θ n).1=(Xc θ t n).1∧may t=true∧0≤n∧n≤1000∧θ.length≤200∧ ∀x∈θ,may x=true:=by
 unfold X1 at hz⊢
 split at hz
 ·cases hz
 ·rename_i hc
  rw[if_neg hc]
  simp only[Bool.not_eq_true,Bool.or_eq_false_iff,Bool.not_eq_false',decide_eq_false_iff_not,List.any_eq_false,Bool.not_eq_true']at hc
  obtain⟨⟨⟨⟨c1,c2⟩,c3⟩,c4⟩,c5⟩:=hc
  have c5': ∀x∈θ,may x=true:=fun x hx=>by simpa using c5 x hx
  dsimp only at hz⊢
  by_cases h1:(Xc θ t n).2≠0
  ·rw[if_pos h1]at hz;exact absurd hz h1
  ·rw[if_neg h1]at hz⊢
   by_cases h2:may (Xc θ t n).1=true
   ·rw[if_pos h2]
    have h1':(Xc θ t n).2=0:=by simpa using h1
    have hsz:=YG c1
    obtain⟨q,_⟩:=zhT (fun x hx=>⟨c5' x hx,hθ x hx (c5' x hx)⟩) h0 t n (ht c1) (ZU hβ (by omega) (by omega)) h1'
    exact⟨h2,Zy (by omega) _ q,h1',rfl,c1,by omega,by omega,by omega,c5'⟩
   ·rw[if_neg h2]at hz;cases hz
theorem zda(θ:List T): ∀(l:List T) (n:Int),(Yg θ l n).2=0→(Yg θ l n).1.length=l.length
 |[],_,_=>rfl
 |a::l,n,h=>by
  unfold Yg at h⊢
  dsimp only at h⊢
  by_cases h1:(X1 a θ n).2≠0
  ·rw[if_pos h1]at h;exact absurd h h1
  ·rw[if_neg h1]at h⊢
   by_cases h2:(Yg θ l (n+1)).2≠0
   ·rw[if_pos h2]at h;exact absurd h h2
   ·rw[if_neg h2]
    simp only[List.length_cons,zda θ l (n+1) (by simpa using h2)]
theorem zhU{β:Int}{θ:List T}(h0:0≤β)(hθ: ∀x∈θ,may x=true→okB β x)(hβ:ZN (β+360000000000000)): ∀(l:List T) (n:Int),(∀x∈l,may x=true→okB β x)→(Yg θ l n).2=0→ ∀x∈(Yg θ l n).1,may x=true∧okB (β+360000000000000) x
 |[],_,_,_,x,hx=>by cases hx
 |a::l,n,hl,h,x,hx=>by
  unfold Yg at h hx
  dsimp only at h hx
  by_cases h1:(X1 a θ n).2≠0
  ·rw[if_pos h1]at h;exact absurd h h1
  ·rw[if_neg h1]at h hx
   by_cases h2:(Yg θ l (n+1)).2≠0
   ·rw[if_pos h2]at h;exact absurd h h2
   ·rw[if_neg h2]at hx
    rcases List.mem_cons.1 hx with rfl|hx
    ·obtain⟨q1,q2,_⟩:=zmh h0 hθ (hl a (by simp)) hβ (by simpa using h1)
     exact⟨q1,q2⟩
    ·exact zhU h0 hθ hβ l (n+1) (fun y hy=>hl y (by simp[hy])) (by simpa using h2) x hx
def zb8(t:T)(ms:List M):Bool:=
 if t.k=6 then decide (t.h<ms.length)&&(ms.getD t.h.toNat ⟨[],T0,false⟩).param else decide (t.k=4)&&t.args.isEmpty
noncomputable def zkw(sig:List D)(ms:List M)(ext:List T)(d:M)(over:List T)(t:T):Int:=
 let c:=Yg over d.ctx 0
 if c.2≠0 then c.2
 else
  let a:=X1 d.t over d.ctx.length
  let e:=if a.2≠0 then a.2 else QF sig ms (ext++c.1) t a.1
  if e=0∧d.param=true∧zb8 t ms=false then 3 else e
noncomputable def XA(sig:List D)(ms:List M)(ext:List T)(δ:List M)(θ:List T):List Int:=
 (List.range θ.length).map fun i=>zkw sig ms ext (δ.getD i ⟨[],T0,false⟩) (θ.take i) (θ.getD i T0)
noncomputable def zse(sig:List D)(ms:List M)(ext:List T)(δ:List M)(θ:List T):Int:=
 if 40<δ.length then 4 else if θ.length≠δ.length then 3 else(Je 0 (XA sig ms ext δ θ)).2
def YP:List (T×Int)→List T×Int
 |[]=>([],0)
 |r::l=>if r.2≠0 then([],r.2)else if(YP l).2≠0 then([],(YP l).2)else(r.1::(YP l).1,0)
theorem zmi{r:T×Int}{l:List (T×Int)}(h:r.2≠0):YP (r::l)=([],r.2):=by unfold YP;rw[if_pos h]
theorem zjr{r:T×Int}{l:List (T×Int)}(h:r.2=0)(h2:(YP l).2≠0):YP (r::l)=([],(YP l).2):=by
 conv=>lhs;unfold YP
 rw[if_neg (by simpa using h),if_pos h2]
theorem zmj{r:T×Int}{l:List (T×Int)}(h:r.2=0)(h2:(YP l).2=0):YP (r::l)=(r.1::(YP l).1,0):=by
 conv=>lhs;unfold YP
 rw[if_neg (by simpa using h),if_neg (by simpa using h2)]
theorem zpm: ∀{l:List (T×Int)},(YP l).2≠0→(YP l).1=[]
 |[],h=>absurd rfl h
 |r::l,h=>by
  by_cases h1:r.2=0
  ·by_cases h2:(YP l).2=0
   ·rw[zmj h1 h2]at h;exact absurd rfl h
   ·rw[zjr h1 h2]
  ·rw[zmi h1]
noncomputable def za5(θ:List T)(b:Bool):List T→Int→List (T×Int)
 |[],_=> []
 |a::l,n=>Xc θ a (if b&&l.isEmpty then n+1 else n)::za5 θ b l n
theorem zhV(θ:List T)(b:Bool): ∀(l:List T) (n:Int),YX θ b l n=YP (za5 θ b l n)
 |[],_=>rfl
 |a::l,n=>by
  unfold YX za5 YP
  dsimp only
  rw[zhV θ b l n]
theorem Q1(θ:List T)(b:Bool): ∀(l:List T) (n:Int),(za5 θ b l n).length=l.length
 |[],_=>rfl
 |a::l,n=>by simp[za5,Q1 θ b l n]
theorem zjs(θ:List T)(b:Bool): ∀(l:List T) (n:Int) (i:Nat) (h:i<l.length),(za5 θ b l n)[i]'(by rw[Q1];exact h)=Xc θ l[i] (if b&&decide (i+1=l.length)then n+1 else n)
 |a::l,n,0,_=>by
  simp only[za5,List.getElem_cons_zero,List.length_cons]
  cases l with
  |nil=>simp
  |cons c l=>simp
 |a::l,n,i+1,h=>by
  simp only[za5,List.getElem_cons_succ]
  have hl:i<l.length:=by simpa using h
  rw[zjs θ b l n i hl]
  simp
noncomputable def zdb(θ:List T):List T→Int→List (T×Int)
 |[],_=> []
 |a::l,n=>X1 a θ n::zdb θ l (n+1)
theorem zeX(θ:List T): ∀(l:List T) (n:Int),Yg θ l n=YP (zdb θ l n)
 |[],_=>rfl
 |a::l,n=>by
  unfold Yg zdb YP
  dsimp only
  rw[zeX θ l (n+1)]
theorem Jf(θ:List T): ∀(l:List T) (n:Int),(zdb θ l n).length=l.length
 |[],_=>rfl
 |a::l,n=>by simp[zdb,Jf θ l (n+1)]
theorem zmk(θ:List T): ∀(l:List T) (n:Int) (i:Nat) (h:i<l.length),(zdb θ l n)[i]'(by rw[Jf];exact h)=X1 l[i] θ (n+i)
 |a::l,n,0,_=>by simp[zdb]
 |a::l,n,i+1,h=>by
  simp only[zdb,List.getElem_cons_succ]
  have hl:i<l.length:=by simpa using h
  rw[zmk θ l (n+1) i hl]
  congr 1
  omega
end Go.Ama
namespace Go.Proofs.CL
open Go Go.AM Go.Ama
set_option maxRecDepth 100000
theorem zhW{g:Nat}{a b:List V}(hp:cfg.pure g=false)(xs:List T)(rs:List (T×Int))(hlen:rs.length=xs.length)(hs:xs.length≤1099511627776)(st:St)
  (hg: ∀(i:Nat) (h:i<xs.length),W.call g (a++[.int (i:Int),enc xs[i]]++b) st=some (.ret (.tup [enc (rs[i]'(by omega)).1, .int (rs[i]'(by omega)).2]),st)):
  W.call 98 [.vec .plain (some 3) (Zg xs), .fn g a b] st=some (.ret (.tup [.vec .plain (some 3) (Zg (YP rs).1), .int (YP rs).2]),st):=by
 have hL: ∀(m i:Nat) (acc:List T),xs.length-i=m→i≤xs.length→acc.length=i→
   W.loop 98 3 [.int (i:Int), .vec .grow (some 3) (Zg acc), .fn g a b, .vec .plain (some 3) (Zg xs), .int xs.length] st=
    if(YP (rs.drop i)).2=0 then some (.exit 0,[.vec .grow (some 3) (Zg (acc++(YP (rs.drop i)).1))],st)else some (.ret,[.vec .plain (some 3) [], .int (YP (rs.drop i)).2],st):=by
  intro m
  induction m with
  |zero=>
   intro i acc hm hi ha
   have:i=xs.length:=by omega
   subst this
   rw[L,QS,←hlen,List.drop_length]
   simp[YP]
  |succ m ih=>
   intro i acc hm hi ha
   have hlt:i<xs.length:=by omega
   have hlt':(i:Int)<xs.length:=by omega
   have hd:rs.drop i=rs[i]::rs.drop (i+1):=List.drop_eq_getElem_cons (by omega)
   have hw:IntKind.i64.wrap ((i:Int)+1)=((i+1:Nat):Int):=by rw[Zv ⟨by omega,by omega⟩];omega
   have h1:=hg i hlt
   have hr:roomFor Tryz.prog 27 (acc.length+1)=true:=zca (by omega)
   have ihh:=ih (i+1) (acc++[rs[i].1]) (by omega) (by omega) (by simp[ha])
   have e1:Zg acc++[enc rs[i].1]=Zg (acc++[rs[i].1]):=by simp[zby]
   rw[L,QS,hw,ZG hlt,Zh,hp]
   simp only[hlt',Int.natCast_nonneg,decide_true,Yc,ZJ,Bool.and_self,Yi,zlG,←Zb,h1,Zl,Yy,zaj,X0,Yx,QR]
   by_cases he:rs[i].2=0
   ·simp only[he,zqg,Zh,List.length_singleton,hr,Bool.and_self,Yi,e1,ihh]
    by_cases h2:(YP (rs.drop (i+1))).2=0
    ·have e:YP (rs.drop i)=(rs[i].1::(YP (rs.drop (i+1))).1,0):=by rw[hd];exact zmj he h2
     simp[h2,e]
    ·have e:YP (rs.drop i)=([],(YP (rs.drop (i+1))).2):=by rw[hd];exact zjr he h2
     simp[h2,e]
   ·have e:YP (rs.drop i)=([],rs[i].2):=by rw[hd];exact zmi he
    simp[he,e]
 have h:=hL _ 0 [] rfl (Nat.zero_le _) rfl
 simp only[Int.natCast_zero,List.drop_zero,zbx,List.nil_append]at h
 rw[C,zcZ,Zh,h]
 by_cases he:(YP rs).2=0
 ·rw[if_pos he,he]
  simp[ZY]
 ·rw[if_neg he,zpm he]
  simp[ZY]
theorem zqx(t:T)(h:t.size≤1099511627776):Zj W 79 [enc t]=some (.bool (!may t)):=by
 have hm:=(Qp t h).p
 have h':Ev 79 [enc t] (.bool (!may t)):=by
  unfold Ev
  rw[C,Zb t,zn8,←Zb,hm]
  simp
 exact h'.p
theorem zpn:cfg.pure 79=true:=by kernel_rfl
theorem zml:cfg.pure 125=false:=by kernel_rfl
theorem zn9:cfg.pure 99=false:=by kernel_rfl
theorem zmm(xs:List T)(hs:sizes xs≤1099511627776)(st:St):W.call 73 [.vec .plain (some 3) (Zg xs), .fn 79 [] []] st=some (.ret (.bool (xs.any fun t=> !may t)),st):=
 zbf (a:=[]) (b:=[]) zpn (p:=fun t=> !may t) xs (by have:=Zn xs;omega) (fun t ht=>zqx t (by have:=size_le ht;omega)) st
theorem zpo{β:Int}{θ:List T}(hθ: ∀x∈θ,may x=true∧okB β x)(h0:0≤β)(hl:θ.length≤1048576): ∀(N:Nat) (t:T) (n:Nat),t.size≤N→n+t.size≤100000→okB β t→ZN (β+t.size*90000000000)→Ev 80 [enc t, .vec .plain (some 3) (Zg θ), .int (n:Int)] (.tup [enc (Xc θ t n).1, .int (Xc θ t n).2]):=by
 intro N
 induction N with
 |zero=>intro t n h;have:=Qd t;omega
 |succ N ih=>
  intro t n hN hs ht hβ
  obtain⟨k,h,xs⟩:=t
  obtain⟨⟨b1,b2⟩,b3,b4⟩:=ht
  simp only[T.size]at hN hs hβ
  have hxl:=Zn xs
  have hh: ∀(m:Nat) (a:T),a∈xs→m≤n+1→Zj W 80 [enc a, .vec .plain (some 3) (Zg θ), .int (m:Int)]=some (.tup [enc (Xc θ a m).1, .int (Xc θ a m).2]):=by
   intro m a ha hm
   have hsz:=size_le ha
   exact(ih a m (by omega) (by omega) ((XI _ _).1 b4 a ha) (ZU hβ (by omega) (by omega))).p
  have h1: ∀(i:Nat) (hi:i<xs.length),W.call 125 ([]++[.int (i:Int),enc xs[i]]++[.cptr none (.bool (bindsB k)), .cptr (some 3) (.agg [.int k, .int h, .vec .plain (some 3) (Zg xs)]), .cptr none (.vec .plain (some 3) (Zg θ)), .cptr none (.int (n:Int))]) []=
    some (.ret (.tup [enc ((za5 θ (bindsB k) xs n)[i]'(by rw[Q1];exact hi)).1, .int ((za5 θ (bindsB k) xs n)[i]'(by rw[Q1];exact hi)).2]),[]):=by
   intro i hi
   have hp0:=hh n xs[i] (List.getElem_mem hi) (by omega)
   have hp1:=hh (n+1) xs[i] (List.getElem_mem hi) (by omega)
   have hw:IntKind.i64.wrap ((xs.length:Int)-1)=(xs.length:Int)-1:=Zv ⟨by omega,by omega⟩
   have hw2:IntKind.i64.wrap ((n:Int)+1)=(n:Int)+1:=Zv ⟨by omega,by omega⟩
   simp only[Int.natCast_add,Int.natCast_one]at hp1
   rw[zjs θ _ xs n i hi]
   simp only[List.nil_append,List.cons_append]
   rw[C,Zb xs[i],ziI,←Zb,Zh,hw,hw2]
   cases hb:bindsB k with
   |false=>
    simp[hp0,ZY,←Zb]
   |true=>
    by_cases hl:i+1=xs.length
    ·have:((i:Int)==(xs.length:Int)-1)=true:=by simp;omega
     simp[this,hl,hp1,ZY,←Zb]
    ·have:((i:Int)==(xs.length:Int)-1)=false:=by simp;omega
     simp[this,hl,hp0,ZY,←Zb]
  have h2:=zhW (a:=[]) zml xs (za5 θ (bindsB k) xs n) (Q1 θ _ xs n) (by omega) [] h1
  rw[←zhV]at h2
  have h2':W.call 98 [.vec .plain (some 3) (Zg xs), .fn 125 [] [.cptr none (.bool (bindsB k)), .cptr (some 3) (.agg [.int k, .int h, .vec .plain (some 3) (Zg xs)]), .cptr none (.vec .plain (some 3) (Zg θ)), .cptr none (.int (n:Int))]] []=some (.ret (.tup [.vec .plain (some 3) (Zg (YX θ (bindsB k) xs n).1), .int (YX θ (bindsB k) xs n).2]),[]):=h2
  unfold Ev
  have hC:W.call 80 [enc (.mk k h xs), .vec .plain (some 3) (Zg θ), .int (n:Int)] []=Zf Tryz.prog cfg W 80 [.agg [.int k, .int h, .vec .plain (some 3) (Zg xs)], .vec .plain (some 3) (Zg θ), .int (n:Int)] []:=C ..
  have hlen:=zfX θ (bindsB k) xs n
  have hok:=zqw hθ h0 xs n (bindsB k) b4 (ZU hβ (by omega) (by omega))
  have hfl:Xc θ (.mk k h xs) n=(if(YX θ (bindsB k) xs n).2≠0 then(T0,(YX θ (bindsB k) xs n).2)else if k≠6 then(.mk k h (YX θ (bindsB k) xs n).1,0)else if(θ.length:Int)≤h then(T0,2)else if(YX θ (bindsB k) xs n).1.any (fun x=> !may x)then(T0,4)else Y3 (θ.getD h.toNat T0) (YX θ (bindsB k) xs n).1 n):=by
   conv=>lhs;unfold Xc
  generalize hfx:YX θ (bindsB k) xs n=r at*
  have hbn:(bc (k==1) (W.call 98 [.vec .plain (some 3) (Zg xs), .fn 125 [] [.cptr none (.bool true), .cptr (some 3) (.agg [.int k, .int h, .vec .plain (some 3) (Zg xs)]), .cptr none (.vec .plain (some 3) (Zg θ)), .cptr none (.int (n:Int))]] []) (W.call 98 [.vec .plain (some 3) (Zg xs), .fn 125 [] [.cptr none (.bool (k==3)), .cptr (some 3) (.agg [.int k, .int h, .vec .plain (some 3) (Zg xs)]), .cptr none (.vec .plain (some 3) (Zg θ)), .cptr none (.int (n:Int))]] []))=some (.ret (.tup [.vec .plain (some 3) (Zg r.1), .int r.2]),[]):=by
   rw[←h2']
   unfold bindsB
   by_cases h1:k=1
   ·subst h1;rfl
   ·have e1:(k==1)=false:=by simpa using h1
    have e3:(k==3)=decide (k=3):=rfl
    simp[e1,e3,h1]
  have hc1:k=1→W.call 98 [.vec .plain (some 3) (Zg xs), .fn 125 [] [.cptr none (.bool true), .cptr (some 3) (.agg [.int k, .int h, .vec .plain (some 3) (Zg xs)]), .cptr none (.vec .plain (some 3) (Zg θ)), .cptr none (.int (n:Int))]] []=some (.ret (.tup [.vec .plain (some 3) (Zg r.1), .int r.2]),[]):=by
   intro hk
   rw[show(k==1)=true by simpa using hk,Yc]at hbn
   exact hbn
  have hc2:k≠1→W.call 98 [.vec .plain (some 3) (Zg xs), .fn 125 [] [.cptr none (.bool (k==3)), .cptr (some 3) (.agg [.int k, .int h, .vec .plain (some 3) (Zg xs)]), .cptr none (.vec .plain (some 3) (Zg θ)), .cptr none (.int (n:Int))]] []=some (.ret (.tup [.vec .plain (some 3) (Zg r.1), .int r.2]),[]):=by
   intro hk
   rw[show(k==1)=false by simpa using hk,ZJ]at hbn
   exact hbn
  rw[hC,zmg,hfl,Zh]
  clear hbn h2 h2' hfl hC
  have hbase:ZN (β+sizes xs*90000000000):=ZU hβ (by omega) (by omega)
  have hany:=fun(hz:r.2=0)=>zmm r.1 (by have:=(hok hz).2;omega) []
  have hApp:r.2=0→0≤h→(hlt:h<θ.length)→Zj W 126 [enc (θ[h.toNat]'(by omega)), .agg [.vec .plain (some 3) (Zg r.1), .int (n:Int)]]=some (.tup [enc (Y3 (θ[h.toNat]'(by omega)) r.1 n).1, .int (Y3 (θ[h.toNat]'(by omega)) r.1 n).2]):=by
   intro hz hh0 hlt
   have hm:=hθ _ (List.getElem_mem (show h.toNat<θ.length by omega))
   have:=YG hm.1
   exact(zaN hbase (t:=θ[h.toNat]'(by omega)) (l:=r.1) (s:=n) (by omega) (by have:=(hok hz).2;omega) (fun _=>Zy (by omega) _ hm.2) (fun _=>(XI _ _).1 (hok hz).1)).p
  have hget:(hlt:h<θ.length)→ZZ (Zg θ) h=enc (θ[h.toNat]'(by omega))∧θ.getD h.toNat T0=θ[h.toNat]'(by omega):=by
   intro hlt
   have hn:h.toNat<θ.length:=by omega
   have hii:((h.toNat:Nat):Int)=h:=by omega
   refine⟨by have:=ZG hn;rwa [hii]at this,by simp[List.getD_eq_getElem?_getD,hn]⟩
  by_cases hk1:k=1
  ·rw[show(k==1)=true by simpa using hk1,Yc,hc1 hk1]
   subst hk1
   by_cases hz:r.2=0
   ·simp[hz,below,Zk,Zr,enc]
   ·simp[hz,Zb T0]
  ·rw[show(k==1)=false by simpa using hk1,ZJ,hc2 hk1]
   by_cases hz:r.2=0
   ·by_cases h6:k=6
    ·by_cases hlt:h<θ.length
     ·obtain⟨g1,g2⟩:=hget hlt
      have hge: ¬(θ.length:Int)≤h:=by omega
      have hge2: ¬h≥(θ.length:Int):=by omega
      cases ha:r.1.any (fun t=> !may t)with
      |true=>simp[hz,h6,hge,hge2,hany hz,ha,Zb T0]
      |false=>simp[hz,h6,hge,hge2,hany hz,ha,hlt,b1,g1,g2,hApp hz b1 hlt,←Zb,below,Zk,Zr]
     ·have hge:(θ.length:Int)≤h:=by omega
      have hge2:h≥(θ.length:Int):=by omega
      simp[hz,h6,hge,hge2,Zb T0]
    ·simp[hz,h6,below,Zk,Zr,enc]
   ·simp[hz,Zb T0]
theorem zfY{β:Int}(h0:0≤β)(hβ:ZN (β+360000000000000)){t:T}{θ:List T}{n:Int}(hs:t.size≤1099511627776)(hl:sizes θ≤1099511627776)(hθ: ∀x∈θ,may x=true→okB β x)(ht:may t=true→okB β t):
  Ev 26 [enc t, .vec .plain (some 3) (Zg θ), .int n] (.tup [enc (X1 t θ n).1, .int (X1 t θ n).2]):=by
 have o1:=zqx t hs
 have o2:=zmm θ hl []
 unfold Ev X1
 rw[C,Zb t,zmf,←Zb t,o1,Zh]
 cases hm:may t with
 |false=>simp[Zb T0]
 |true=>
  by_cases c1:n<0
  ·simp[c1,Zb T0]
  by_cases c2:1000<n
  ·simp[c1,c2,Zb T0]
  by_cases c3:200<θ.length
  ·have:(θ.length:Int)>200:=by omega
   simp[c1,c2,c3,this,Zb T0]
  have c3': ¬(θ.length:Int)>200:=by omega
  cases c4:θ.any (fun t=> !may t)with
  |true=>simp[c1,c2,c3,c3',o2,c4,Zb T0]
  |false=>
   have hall: ∀x∈θ,may x=true:=fun x hx=>by have:=List.any_eq_false.1 c4 x hx;simpa using this
   have hsz:=YG hm
   obtain⟨m,rfl⟩:=Int.eq_ofNat_of_zero_le (show 0≤n by omega)
   have hf:=(zpo (β:=β) (fun x hx=>⟨hall x hx,hθ x hx (hall x hx)⟩) h0 (by omega) t.size t m (Nat.le_refl _) (by omega) (ht hm) (ZU hβ (by omega) (by omega))).p
   have hr:(Xc θ t m).2=0→(Xc θ t m).1.size≤4000*t.size:=fun hz=>(zhT (fun x hx=>⟨hall x hx,hθ x hx (hall x hx)⟩) h0 t m (ht hm) (ZU hβ (by omega) (by omega)) hz).2
   by_cases hz:(Xc θ t m).2=0
   ·have o3:=zqx (Xc θ t m).1 (by have:=hr hz;omega)
    cases hmm:may (Xc θ t m).1<;>simp[c1,c2,c3,c3',o2,c4,hf,hz,o3,hmm,Zb T0,←Zb,below,Zk,Zr]
   ·simp[c1,c2,c3,c3',o2,c4,hf,hz,Zb T0]
theorem zmn{β:Int}(h0:0≤β)(hβ:ZN (β+360000000000000)){l θ:List T}{n:Nat}(hs:sizes l≤1099511627776)(hn:n≤1099511627776)(hl:sizes θ≤1099511627776)(hθ: ∀x∈θ,may x=true→okB β x)(ht: ∀x∈l,may x=true→okB β x):
  Ev 33 [.vec .plain (some 3) (Zg l), .vec .plain (some 3) (Zg θ), .int (n:Int)] (.tup [.vec .plain (some 3) (Zg (Yg θ l n).1), .int (Yg θ l n).2]):=by
 have hll:=Zn l
 have h1: ∀(i:Nat) (hi:i<l.length),W.call 99 ([]++[.int (i:Int),enc l[i]]++[.cptr none (.vec .plain (some 3) (Zg θ)), .cptr none (.int (n:Int))]) []=
   some (.ret (.tup [enc ((zdb θ l n)[i]'(by rw[Jf];exact hi)).1, .int ((zdb θ l n)[i]'(by rw[Jf];exact hi)).2]),[]):=by
  intro i hi
  have hsz:=size_le (List.getElem_mem hi)
  have hf:=(zfY h0 hβ (t:=l[i]) (θ:=θ) (n:=(n:Int)+i) (by omega) hl hθ (ht _ (List.getElem_mem hi))).p
  have hw:IntKind.i64.wrap ((n:Int)+i)=(n:Int)+i:=Zv ⟨by omega,by omega⟩
  rw[zmk θ l n i hi]
  simp only[List.nil_append,List.cons_append]
  rw[C,Zb l[i],zkv,←Zb,hw,hf]
  simp[ZY,←Zb]
 have h2:=zhW (a:=[]) zn9 l (zdb θ l n) (Jf θ l n) (by omega) [] h1
 rw[←zeX]at h2
 unfold Ev
 rw[C,zn7,h2]
 simp[below,Zk,Zr]
end Go.Proofs.CL
namespace Go.Ama
open Go Go.AM
def Jg:List Int→Int
 |[]=>0
 |e::l=>if e≠0 then e else Jg l
def zcg(b:Bool)(e:Int):Int:=if b then 0 else e
def XL(schema ctx:List T):Bool:=ctx.all fun a=>schema.any fun s=>s.same a
abbrev M0:M:=⟨[],T0,false⟩
noncomputable def Q7(ext ctx:List T)(a:T)(θ:List T):M×Int:=
 let l:=Yg θ ctx 0
 if l.2≠0 then(M0,l.2)
 else
  let t:=X1 a θ ctx.length
  if t.2≠0 then(M0,t.2)else(⟨ext++l.1,t.1,false⟩,0)
noncomputable def znA(sig:List D)(over:List M)(ext ctx:List T)(a:T)(θ:List T)(t:T):Int:=
 let i:=Q7 ext ctx a θ
 if i.2≠0 then i.2 else QF sig over i.1.ctx t i.1.t
noncomputable def J7(sig:List D)(over:List M)(from_ f:Fun1)(c:Cal):Int:=
 Jg [zcg (decide (c.ext.length≤40)) 4,zcg (XL f.schema c.ext&&XL f.schema from_.schema) 9,zse sig over c.ext f.delta c.theta,znA sig over c.ext f.psi f.a c.theta c.arg]
noncomputable def Q8(sig:List D)(over:List M)(from_ f:Fun1)(c:Cal):M×Int:=
 if J7 sig over from_ f c≠0 then(M0,J7 sig over from_ f c)else Q7 c.ext f.phi f.b c.theta
structure Hd(x:T):Prop where
 size:x.size≤4000
 ok:may x=true→okB 1000000000000000 x
structure Lo(x:T):Prop where
 size:x.size≤1000
 ok:may x=true→okB 1099511627776 x
theorem Lo.hd{x:T}(h:Lo x):Hd x:=⟨by have:=h.size;omega,fun m=>Zy (by omega) _ (h.ok m)⟩
structure Los(n:Nat)(l:List T):Prop where
 len:l.length≤n
 all: ∀x∈l,Lo x
structure Hds(n:Nat)(l:List T):Prop where
 len:l.length≤n
 all: ∀x∈l,Hd x
theorem Los.hds{n:Nat}{l:List T}(h:Los n l):Hds n l:=⟨h.len,fun x hx=>(h.all x hx).hd⟩
structure LoM(m:M):Prop where
 ctx:Los 60 m.ctx
 t:Lo m.t
structure HdM(m:M):Prop where
 ctx:Hds 120 m.ctx
 t:Hd m.t
theorem LoM.hd{m:M}(h:LoM m):HdM m:=⟨⟨by have:=h.ctx.len;omega,fun x hx=>(h.ctx.all x hx).hd⟩,h.t.hd⟩
theorem Hds.szs{n:Nat}{l:List T}(h:Hds n l):sizes l≤n*4000:=by
 have: ∀l:List T,(∀x∈l,Hd x)→sizes l≤l.length*4000:=by
  intro l
  induction l with
  |nil=>intro _;simp[sizes]
  |cons a l ih=>intro h;have:=(h a (by simp)).size;have:=ih fun x hx=>h x (by simp[hx]);rw[sizes,List.length_cons,Nat.add_mul];omega
 exact Nat.le_trans (this l h.all) (Nat.mul_le_mul_right 4000 h.len)
theorem Hds.app{n m:Nat}{a b:List T}(h:Hds n a)(g:Hds m b):Hds (n+m) (a++b):=
 ⟨by have:=h.len;have:=g.len;simp;omega,fun x hx=>(List.mem_append.1 hx).elim (h.all x) (g.all x)⟩
theorem Hds.mono{n m:Nat}{a:List T}(h:Hds n a)(hn:n≤m):Hds m a:=⟨by have:=h.len;omega,h.all⟩
theorem Hds.nil(n:Nat):Hds n []:=⟨Nat.zero_le _,fun x hx=>by cases hx⟩
theorem Hds.take{n:Nat}{l:List T}(h:Hds n l)(i:Nat):Hds n (l.take i):=⟨by have:=h.len;simp;omega,fun x hx=>h.all x (List.mem_of_mem_take hx)⟩
theorem zrE{sig:List D}{ms:List M}{ctx l:List T}(hs:sig.length≤1000∧ ∀d∈sig,Hd d.t)(hm:ms.length≤1000∧ ∀m∈ms,HdM m)(hc:Hds 200 ctx)(hl:Hds 200 l):In sig ms ctx l where
 s d hd:=⟨by have:=(hs.2 d hd).size;omega,fun m=>Zy (by omega) _ ((hs.2 d hd).ok m)⟩
 m m hm':=by
  have h:=hm.2 m hm'
  have h1:=h.ctx.szs
  have h2:=h.t.size
  exact⟨by omega,fun q=>Zy (by omega) _ (h.t.ok q),fun x hx q=>Zy (by omega) _ ((h.ctx.all x hx).ok q)⟩
 c:=⟨by have:=hc.szs;omega,fun x hx q=>Zy (by omega) _ ((hc.all x hx).ok q)⟩
 l:=⟨by have:=hl.szs;omega,fun x hx q=>Zy (by omega) _ ((hl.all x hx).ok q)⟩
 sl:=by omega
 ml:=by omega
theorem zdy:ZN (1099511627776+360000000000000):=by unfold ZN;omega
theorem zmo{t:T}{θ:List T}{n:Int}(ht:Lo t)(hθ: ∀x∈θ,Lo x)(hz:(X1 t θ n).2=0):Hd (X1 t θ n).1:=by
 obtain⟨q1,q2,_⟩:=zmh (β:=1099511627776) (by omega) (fun x hx=>(hθ x hx).ok) ht.ok zdy hz
 exact⟨YG q1,fun _=>Zy (by omega) _ q2⟩
theorem zeq{l θ:List T}{n:Int}{N:Nat}(hl:Los N l)(hθ: ∀x∈θ,Lo x)(hz:(Yg θ l n).2=0):Hds N (Yg θ l n).1:=by
 refine⟨by rw[zda θ l n hz];exact hl.len,fun x hx=> ?_⟩
 obtain⟨q1,q2⟩:=zhU (β:=1099511627776) (by omega) (fun x hx=>(hθ x hx).ok) zdy l n (fun x hx=>(hl.all x hx).ok) hz x hx
 exact⟨YG q1,fun _=>Zy (by omega) _ q2⟩
theorem znB{ext ctx θ:List T}{a:T}(he:Hds 60 ext)(hc:Los 60 ctx)(ha:Lo a)(hθ: ∀x∈θ,Lo x)(hz:(Q7 ext ctx a θ).2=0):HdM (Q7 ext ctx a θ).1:=by
 unfold Q7 at hz⊢
 dsimp only at hz⊢
 by_cases h1:(Yg θ ctx 0).2≠0
 ·rw[if_pos h1]at hz;exact absurd hz h1
 ·rw[if_neg h1]at hz⊢
  by_cases h2:(X1 a θ ctx.length).2≠0
  ·rw[if_pos h2]at hz;exact absurd hz h2
  ·rw[if_neg h2]
   exact⟨he.app (zeq hc hθ (Decidable.not_not.1 h1)),zmo ha hθ (Decidable.not_not.1 h2)⟩
structure LoCal(c:Cal):Prop where
 ext:Los 60 c.ext
 theta:Los 60 c.theta
 arg:Lo c.arg
structure LoCl(c:Cl):Prop where
 mlen:c.metas.length≤60
 metas: ∀m∈c.metas,LoM m
 theta:Los 60 c.theta
 p:Lo c.p
 r:Lo c.r
 clen:c.calls.length≤60
 calls: ∀x∈c.calls,LoCal x
structure LoFn(f:Fun1):Prop where
 dlen:f.delta.length≤60
 delta: ∀m∈f.delta,LoM m
 schema:Los 60 f.schema
 psi:Los 60 f.psi
 a:Lo f.a
 phi:Los 60 f.phi
 b:Lo f.b
 clen:f.clauses.length≤60
 clauses: ∀c∈f.clauses,LoCl c
end Go.Ama
namespace Go.Ama
open Go Go.AM
structure Seen(B:Int)(n:Nat)(s:List Int):Prop where
 nodup:s.Nodup
 all: ∀x∈s,0≤x∧x≤B
 len:s.length≤n
theorem Seen.wide{B:Int}{n:Nat}{s:List Int}(h:Seen B n s)(hB:B≤9223372036854775807):s.all zjd=true:=by
 rw[List.all_eq_true]
 intro x hx
 have:=h.all x hx
 unfold zjd
 simp only[Bool.and_eq_true,decide_eq_true_eq]
 omega
end Go.Ama
namespace Go.Proofs.CL
open Go Go.AM Go.Ama
set_option maxRecDepth 100000
theorem zhX(t:T)(ms:List M)(h:0≤t.h):Ev 78 [enc t, .vec .plain (some 5) (ZV ms)] (.bool (zb8 t ms)):=by
 unfold Ev zb8
 rw[C,Zb t,zfW,YS,Zh]
 by_cases h6:t.k=6
 ·by_cases hlt:t.h<ms.length
  ·have hn:t.h.toNat<ms.length:=by omega
   have hii:((t.h.toNat:Nat):Int)=t.h:=by omega
   have hg:ZZ (ZV ms) t.h=JZ ms[t.h.toNat]:=by have:=za2 hn;rwa [hii]at this
   have he: ∀(m:M) (K:Bool→Option (Out×St)),Xq (JZ m) (fun c=>gd (decide (5≤c.length)) (Zi (AM.partOf c 4 none) K))=K m.param:=fun m K=>rfl
   have hd:ms.getD t.h.toNat ⟨[],T0,false⟩=ms[t.h.toNat]:=by simp[List.getD_eq_getElem?_getD,hn]
   simp[h6,hlt,h,hg,he,hd]
  ·simp[h6,hlt]
 ·by_cases h4:t.k=4
  ·have:((t.args.length:Int)==0)=t.args.isEmpty:=by cases t.args<;>simp
   simp[h4,this]
  ·simp[h6,h4]
theorem zmp{g:Nat}{a b:List V}(hp:cfg.pure g=false){p:T→Bool}(xs:List T)(hs:xs.length≤1099511627776)(st:St)(hg: ∀t∈xs,W.call g (a++[enc t]++b) st=some (.ret (.bool (p t)),st)):
  ∀(n i:Nat),xs.length-i=n→i≤xs.length→(∃j:Nat,(xs.drop i).any p=true∧W.loop 122 2 [.int (i:Int), .vec .plain (some 3) (Zg xs), .fn g a b, .int xs.length] st=some (.ret,[.int (j:Int)],st))∨
   ((xs.drop i).any p=false∧W.loop 122 2 [.int (i:Int), .vec .plain (some 3) (Zg xs), .fn g a b, .int xs.length] st=some (.exit 0,[],st)):=by
 intro n
 induction n with
 |zero=>
  intro i hn hi
  have:i=xs.length:=by omega
  subst this
  right
  refine⟨by simp, ?_⟩
  rw[L,ZK]
  simp
 |succ n ih=>
  intro i hn hi
  have hlt:i<xs.length:=by omega
  have hx:=hg xs[i] (List.getElem_mem hlt)
  have hd:xs.drop i=xs[i]::xs.drop (i+1):=List.drop_eq_getElem_cons hlt
  have hstep:W.loop 122 2 [.int (i:Int), .vec .plain (some 3) (Zg xs), .fn g a b, .int xs.length] st=
    bc (p xs[i]) (some (.ret,[.int (i:Int)],st)) (W.loop 122 2 [.int ((i+1:Nat):Int), .vec .plain (some 3) (Zg xs), .fn g a b, .int xs.length] st):=by
   rw[L,ZK,ZG hlt]
   rw[Zv ⟨by omega,by omega⟩]
   have h1:(i:Int)<xs.length:=by omega
   simp only[h1,Zh,Int.natCast_nonneg,decide_true,Bool.and_self,Yi,Yc,zlG,hp,ZJ,←Zb,hx,Zl,Yy,ZO]
   rfl
  rw[hstep,hd,List.any_cons]
  cases hpx:p xs[i]with
  |true=>exact .inl ⟨i,rfl,rfl⟩
  |false=>
   simp only[bc,Bool.false_or]
   exact ih (i+1) (by omega) (by omega)
theorem zdc{g:Nat}{a b:List V}(hp:cfg.pure g=false){p:T→Bool}(xs:List T)(hs:xs.length≤1099511627776)(st:St)(hg: ∀t∈xs,W.call g (a++[enc t]++b) st=some (.ret (.bool (p t)),st)):
  W.call 73 [.vec .plain (some 3) (Zg xs), .fn g a b] st=some (.ret (.bool (xs.any p)),st):=by
 have h:=zmp hp xs hs st hg _ 0 rfl (Nat.zero_le _)
 rw[C,YB,C,YO]
 simp only[List.drop_zero,Int.natCast_zero]at h
 rcases h with⟨j,h1,h2⟩|⟨h1,h2⟩
 ·simp[h2,h1,ZY]
 ·simp[h2,h1,ZY]
theorem znC:cfg.pure 72=false:=by kernel_rfl
theorem zmq:cfg.pure 74=false:=by kernel_rfl
theorem J8(schema ctx:List T)(h1:sizes schema≤1099511627776)(h2:sizes ctx≤1099511627776):Ev 23 [.vec .plain (some 3) (Zg schema), .vec .plain (some 3) (Zg ctx)] (.bool (XL schema ctx)):=by
 have hl1:=Zn schema
 have hl2:=Zn ctx
 have hin: ∀a∈ctx,W.call 72 ([]++[enc a]++[.cptr none (.vec .plain (some 3) (Zg schema))]) []=some (.ret (.bool (!schema.any fun s=>s.same a)),[]):=by
  intro a ha
  have hs: ∀s∈schema,W.call 74 ([]++[enc s]++[.cptr (some 3) (enc a)]) []=some (.ret (.bool (s.same a)),[]):=by
   intro s hsm
   have S:=(zhD s a (by have:=size_le hsm;omega) (by have:=size_le ha;omega)).p
   simp only[List.nil_append,List.cons_append]
   rw[C,Zb s,Zb a,zcY,←Zb,←Zb,S]
   simp[ZY]
  have hc:=zdc (a:=[]) zmq schema (by omega) [] hs
  simp only[List.nil_append,List.cons_append]
  rw[C,Zb a,zep,←Zb,hc]
  simp[ZY]
 have hc:=zdc (a:=[]) znC ctx (by omega) [] hin
 unfold Ev XL
 rw[C,zfV,hc]
 have:(ctx.all fun a=>schema.any fun s=>s.same a)= !ctx.any fun a=> !schema.any fun s=>s.same a:=by simp[List.all_eq_not_any_not]
 simp[this]
end Go.Proofs.CL
namespace Go.Proofs.CL
open Go Go.AM
set_option maxRecDepth 20000
theorem zmr(O:Oracle)(l0:(List V))(l1:(List V))(l2:(List V)):Zf Tryz.prog cfg O 10 [.vec .plain (some 4) l0, .vec .plain (some 5) l1, .vec .plain (some 3) l2] []=
 Za (Zj O 38 [V.vec .plain (some 4) l0]) fun r1=>Zi r1 fun b2=>bc (!b2) (some (Out.ret (V.bool false),[])) (bc (decide ((↑l1.length:Int)>30)) (some
 (Out.ret (V.bool false),[])) (Za (O.loop 10 5 [V.int 0,V.vec .plain (some 5) l1,V.vec .plain (some 3) l2] []) fun r3=>XM r3.fst none (Zd r3.snd.fst fun v4
 c5=>Zi v4 fun b6=>Zq c5 (some (Out.ret (V.bool b6),[]))) (fun i7=>bc (i7.beq 0) (Zd r3.snd.fst fun v8 c9=>Yw (some 3) v8 fun l10=>Zq c9 (Za (Zj O
 24 [V.vec .plain (some 3) l10,V.int 500,V.int 80]) fun r11=>Zi r11 fun b12=>some (Out.ret (V.bool b12),[]))) none) fun v13=>none)):=by kernel_rfl
theorem zdd(O:Oracle)(n0:Int)(l1:(List V))(l2:(List V)):Z5 Tryz.prog cfg O 10 5 [.int n0, .vec .plain (some 5) l1, .vec .plain (some 3) l2] []=
 bc (decide (n0<(↑l1.length:Int))) (gd (decide (0≤n0)&&decide (n0<(↑l1.length:Int))) (Xq (ZZ l1 n0) fun c1=>gd (decide (1≤c1.length)) (Yw (some 3)
 (AM.partOf c1 0 none) fun l2_1=>Za (Zj O 24 [V.vec .plain (some 3) l2_1,V.int 500,V.int 80]) fun r3=>Zi r3 fun b4=>gd (decide (0≤n0)&&decide (n0
 <(↑l1.length:Int))) (Xq (ZZ l1 n0) fun c5=>gd (decide (4≤c5.length)) (onCells [CT.int,CT.int,CT.slice (some 3)] (List.take 3 (List.drop 1 c5)) fun n6 n7 l8=>Za
 (Zj O 31 [V.agg [V.int n6,V.int n7,V.vec .plain (some 3) l8],V.int 500,V.int 80]) fun r9=>Zi r9 fun b10=>bc (!b4) (some (Ex.ret,[V.bool false],[])) (bc
 (!b10) (some (Ex.ret,[V.bool false],[])) (O.2 10 5 [V.int (IntKind.i64.wrap (n0+1)),V.vec .plain (some 5) l1,V.vec .plain (some 3) l2] []))))))) (some (Ex.exit 0,
 [V.vec .plain (some 3) l2],[])):=by kernel_rfl
theorem zfZ(O:Oracle)(s0:ByteArray)(l1:(List V))(l2:(List V))(l3:(List V))(n4:Int)(n5:Int)(l6:(List V))(l7:(List V))(n8:Int)(n9:Int)(l10:(List V))(b11:Bool)(l12:(List V)):Zf Tryz.prog cfg O 17 [.agg [.str s0, .vec .plain (some 3) l1, .vec .plain (some 5) l2, .vec .plain (some 3) l3, .int n4, .int n5, .vec .plain (some 3) l6, .vec .plain (some 3) l7, .int n8, .int n9, .vec .plain (some 3) l10, .bool b11, .vec .plain (some 9) l12]] []=
 Za (Zj O 39 [V.vec .plain (some 5) l2]) fun r1=>Zi r1 fun b2=>Za (Zj O 24 [V.vec .plain (some 3) l1,V.int 300,V.int 60]) fun r3=>
 Zi r3 fun b4=>Za (Zj O 24 [V.vec .plain (some 3) l3,V.int 300,V.int 60]) fun r5=>Zi r5 fun b6=>Za (Zj O 24 [V.vec .plain (some
 3) l7,V.int 300,V.int 60]) fun r7=>Zi r7 fun b8=>Za (Zj O 31 [V.agg [V.int n4,V.int n5,V.vec .plain (some 3) l6],V.int 300,V.int 60]) fun r9=>
 Zi r9 fun b10=>Za (Zj O 31 [V.agg [V.int n8,V.int n9,V.vec .plain (some 3) l10],V.int 300,V.int 60]) fun r11=>Zi r11 fun b12=>bc (!b2) (some
 (Out.ret (V.bool false),[])) (bc (!b4) (some (Out.ret (V.bool false),[])) (bc (!b6) (some (Out.ret (V.bool false),[])) (bc (!b8) (some (Out.ret (V.bool false),[])) (bc (!b10)
 (some (Out.ret (V.bool false),[])) (bc (!b12) (some (Out.ret (V.bool false),[])) (bc (decide ((↑l12.length:Int)>50)) (some (Out.ret (V.bool false),[])) (Za (O.loop
 17 10 [V.int 0,V.loc false (some 13) (V.agg [V.str s0,V.vec .plain (some 3) l1,V.vec .plain (some 5) l2,V.vec .plain (some 3) l3,V.int n4,V.int n5,V.vec
 .plain (some 3) l6,V.vec .plain (some 3) l7,V.int n8,V.int n9,V.vec .plain (some 3) l10,V.bool b11,V.vec .plain (some 9) l12])] []) fun r13=>XM r13.fst none (Zd
 r13.snd.fst fun v14 c15=>Zi v14 fun b16=>Zq c15 (some (Out.ret (V.bool b16),[]))) (fun i17=>bc (i17.beq 0) (Zq r13.snd.fst (some (Out.ret (V.bool true),[])))
 none) fun v18=>none))))))):=by kernel_rfl
theorem JF(O:Oracle)(n0:Int)(s1:ByteArray)(l2:(List V))(l3:(List V))(l4:(List V))(n5:Int)(n6:Int)(l7:(List V))(l8:(List V))(n9:Int)(n10:Int)(l11:(List V))(b12:Bool)(l13:(List V)):Z5 Tryz.prog cfg O 17 10 [.int n0, .loc false (some 13) (.agg [.str s1, .vec .plain (some 3) l2, .vec .plain (some 5) l3, .vec .plain (some 3) l4, .int n5, .int n6, .vec .plain (some 3) l7, .vec .plain (some 3) l8, .int n9, .int n10, .vec .plain (some 3) l11, .bool b12, .vec .plain (some 9) l13])] []=
 bc (decide (n0<(↑l13.length:Int))) (gd (decide (0≤n0)&&decide (n0<(↑l13.length:Int))) (Zc [CT.slice (some 5),CT.slice (some 3),CT.int,CT.int,CT.slice (some
 3),CT.slice (some 6),CT.int,CT.int,CT.slice (some 3)] (ZZ l13 n0) fun l1 l2_1 n3 n4 l5 l6 n7 n8 l9=>Za (Zj O 12 [V.agg [V.vec .plain (some 5) l1,
 V.vec .plain (some 3) l2_1,V.int n3,V.int n4,V.vec .plain (some 3) l5,V.vec .plain (some 6) l6,V.int n7,V.int n8,V.vec .plain (some 3) l9]]) fun r10=>Zi r10 fun b11
 =>bc (!b11) (some (Ex.ret,[V.bool false],[])) (O.2 17 10 [V.int (IntKind.i64.wrap (n0+1)),V.loc false (some 13) (V.agg [V.str s1,V.vec .plain (some 3) l2,
 V.vec .plain (some 5) l3,V.vec .plain (some 3) l4,V.int n5,V.int n6,V.vec .plain (some 3) l7,V.vec .plain (some 3) l8,V.int n9,V.int n10,V.vec .plain (some 3) l11,V.bool
 b12,V.vec .plain (some 9) l13])] []))) (some (Ex.exit 0,[],[])):=by kernel_rfl
theorem zhY(O:Oracle)(l0:(List V))(n1:Int)(n2:Int):Zf Tryz.prog cfg O 24 [.vec .plain (some 3) l0, .int n1, .int n2] []=
 bc (decide ((↑l0.length:Int)>60)) (some (Out.ret (V.bool false),[])) (Za (O.loop 24 4 [V.int 0,V.int n2,V.int n1,V.vec .plain (some 3) l0] []) fun r1=>
 XM r1.fst none (Zd r1.snd.fst fun v2 c3=>Zi v2 fun b4=>Zq c3 (some (Out.ret (V.bool b4),[]))) (fun i5=>bc (i5.beq 0) (Zq r1.snd.fst (some (Out.ret (V.bool
 true),[]))) none) fun v6=>none):=by kernel_rfl
theorem zaQ(O:Oracle)(n0:Int)(n1:Int)(n2:Int)(l3:(List V)):Z5 Tryz.prog cfg O 24 4 [.int n0, .int n1, .int n2, .vec .plain (some 3) l3] []=
 bc (decide (n0<(↑l3.length:Int))) (gd (decide (0≤n0)&&decide (n0<(↑l3.length:Int))) (Zc [CT.int,CT.int,CT.slice (some 3)] (ZZ l3 n0) fun n1_1 n2_1 l3_1=>
 Za (Zj O 31 [V.agg [V.int n1_1,V.int n2_1,V.vec .plain (some 3) l3_1],V.int n2,V.int n1]) fun r4=>Zi r4 fun b5=>bc (!b5) (some (Ex.ret,[V.bool
 false],[])) (O.2 24 4 [V.int (IntKind.i64.wrap (n0+1)),V.int n1,V.int n2,V.vec .plain (some 3) l3] []))) (some (Ex.exit 0,[],[])):=by kernel_rfl
theorem zms(O:Oracle)(l0:(List V)):Zf Tryz.prog cfg O 39 [.vec .plain (some 5) l0] []=
 Za (Zj O 10 [V.vec .plain (some 4) [],V.vec .plain (some 5) l0,V.vec .plain (some 3) []]) fun r1=>Zi r1 fun b2=>some (Out.ret (V.bool b2),[]):=by kernel_rfl
theorem zd4(O:Oracle)(l0:(List V))(l1:(List V))(n2:Int)(n3:Int)(l4:(List V))(l5:(List V))(n6:Int)(n7:Int)(l8:(List V)):Zf Tryz.prog cfg O 12 [.agg [.vec .plain (some 5) l0, .vec .plain (some 3) l1, .int n2, .int n3, .vec .plain (some 3) l4, .vec .plain (some 6) l5, .int n6, .int n7, .vec .plain (some 3) l8]] []=
 Za (Zj O 39 [V.vec .plain (some 5) l0]) fun r1=>Zi r1 fun b2=>Za (Zj O 24 [V.vec .plain (some 3) l1,V.int 300,V.int 60]) fun r3=>
 Zi r3 fun b4=>Za (Zj O 31 [V.agg [V.int n2,V.int n3,V.vec .plain (some 3) l4],V.int 300,V.int 60]) fun r5=>Zi r5 fun b6=>Za (Zj O
 31 [V.agg [V.int n6,V.int n7,V.vec .plain (some 3) l8],V.int 300,V.int 60]) fun r7=>Zi r7 fun b8=>bc (!b2) (some (Out.ret (V.bool false),[])) (bc (!b4)
 (some (Out.ret (V.bool false),[])) (bc (!b6) (some (Out.ret (V.bool false),[])) (bc (!b8) (some (Out.ret (V.bool false),[])) (bc (decide ((↑l5.length:Int)>50)) (some
 (Out.ret (V.bool false),[])) (Za (O.loop 12 8 [V.int 0,V.loc false (some 9) (V.agg [V.vec .plain (some 5) l0,V.vec .plain (some 3) l1,V.int n2,V.int n3,
 V.vec .plain (some 3) l4,V.vec .plain (some 6) l5,V.int n6,V.int n7,V.vec .plain (some 3) l8])] []) fun r9=>XM r9.fst none (Zd r9.snd.fst fun v10 c11=>Zi v10 fun
 b12=>Zq c11 (some (Out.ret (V.bool b12),[]))) (fun i13=>bc (i13.beq 0) (Zq r9.snd.fst (some (Out.ret (V.bool true),[]))) none) fun v14=>none))))):=by kernel_rfl
theorem Jh(O:Oracle)(n0:Int)(l1:(List V))(l2:(List V))(n3:Int)(n4:Int)(l5:(List V))(l6:(List V))(n7:Int)(n8:Int)(l9:(List V)):Z5 Tryz.prog cfg O 12 8 [.int n0, .loc false (some 9) (.agg [.vec .plain (some 5) l1, .vec .plain (some 3) l2, .int n3, .int n4, .vec .plain (some 3) l5, .vec .plain (some 6) l6, .int n7, .int n8, .vec .plain (some 3) l9])] []=
 bc (decide (n0<(↑l6.length:Int))) (gd (decide (0≤n0)&&decide (n0<(↑l6.length:Int))) (Zc [CT.int,CT.slice (some 3),CT.slice (some 3),CT.int,CT.int,CT.slice
 (some 3)] (ZZ l6 n0) fun n1 l2_1 l3 n4_1 n5 l6_1=>Za (Zj O 18 [V.agg [V.int n1,V.vec .plain (some 3) l2_1,V.vec .plain (some 3) l3,V.int n4_1,V.int
 n5,V.vec .plain (some 3) l6_1]]) fun r7=>Zi r7 fun b8=>bc (!b8) (some (Ex.ret,[V.bool false],[])) (O.2 12 8 [V.int (IntKind.i64.wrap (n0+1)),V.loc
 false (some 9) (V.agg [V.vec .plain (some 5) l1,V.vec .plain (some 3) l2,V.int n3,V.int n4,V.vec .plain (some 3) l5,V.vec .plain (some 6) l6,V.int n7,V.int n8,V.vec .plain
 (some 3) l9])] []))) (some (Ex.exit 0,[],[])):=by kernel_rfl
theorem zeY(O:Oracle)(n0:Int)(l1:(List V))(l2:(List V))(n3:Int)(n4:Int)(l5:(List V)):Zf Tryz.prog cfg O 18 [.agg [.int n0, .vec .plain (some 3) l1, .vec .plain (some 3) l2, .int n3, .int n4, .vec .plain (some 3) l5]] []=
 Za (Zj O 24 [V.vec .plain (some 3) l1,V.int 300,V.int 60]) fun r1=>Zi r1 fun b2=>Za (Zj O 24 [V.vec .plain (some 3) l2,V.int 300,
 V.int 60]) fun r3=>Zi r3 fun b4=>Za (Zj O 31 [V.agg [V.int n3,V.int n4,V.vec .plain (some 3) l5],V.int 300,V.int 60]) fun r5=>Zi r5 fun b6=>bc
 b2 (bc b4 (some (Out.ret (V.bool b6),[])) (some (Out.ret (V.bool false),[]))) (some (Out.ret (V.bool false),[])):=by kernel_rfl
end Go.Proofs.CL
namespace Go.Proofs.CL
open Go Go.AM Go.Ama
theorem za6(n k:Nat):decide ((n:Int)>(k:Int))= !decide (n≤k):=by
 by_cases h:n≤k<;>simp[h]<;>omega
theorem X2(l:List T)(n m:Int)(hs:sizes l≤1099511627776):Ev 24 [.vec .plain (some 3) (Zg l), .int n, .int m] (.bool (Xd n m l)):=by
 have hlen:=Zn l
 have hl:=zai (L:=fun i=>W.loop 24 4 [.int i, .int m, .int n, .vec .plain (some 3) (Zg l)] []) (xs:=l) (g:=XH n m) (e0:=(Ex.exit 0,[],[])) (e1:=(Ex.ret,[V.bool false],[]))
  (fun i hi=>by
   have hp:=(Qe l[i] n m (by have:=size_le (List.getElem_mem hi);omega)).p
   have hlt:decide ((i:Int)<l.length)=true:=by simp;omega
   show W.loop _ _ _ _=_
   rw[L,zaQ,Zh,ZG hi,Zv ⟨by omega,by omega⟩]
   simp only[hlt,Int.natCast_nonneg,decide_true,Yc,Bool.and_self,Yi,Y2,←Zb,hp,Zl,ZO]
   cases XH n m l[i]<;>rfl)
  (by
   show W.loop _ _ _ _=_
   rw[L,zaQ,Zh]
   simp)
 unfold Ev Xd
 have e60:=za6 l.length 60
 have hl':W.loop 24 4 [.int 0, .int m, .int n, .vec .plain (some 3) (Zg l)] []=_:=hl
 rw[C,zhY,Zh,hl']
 have e60':decide ((l.length:Int)>60)= !decide (l.length≤60):=e60
 rw[e60']
 cases decide (l.length≤60)<;>cases l.all (XH n m)<;>rfl
theorem zpp(l:List D)(hb:ZL (Y7 l)≤4398046511104):Ev 38 [.vec .plain (some 4) (Y7 l)] (.bool (zmd l)):=by
 have hlen:=zcX (Y7 l)
 rw[Qo]at hlen
 have hl:=zai (L:=fun i=>W.loop 38 4 [.int i, .vec .plain (some 4) (Y7 l)] []) (xs:=l) (g:=fun d=>XH 1000 80 d.t) (e0:=(Ex.exit 0,[],[])) (e1:=(Ex.ret,[V.bool false],[]))
  (fun i hi=>by
   have hp:=(Qe l[i].t 1000 80 (by have:=zro (List.getElem_mem hi);omega)).p
   have hlt:decide ((i:Int)<l.length)=true:=by simp;omega
   show W.loop _ _ _ _=_
   rw[L,zcN,Qo,zej hi,Zv ⟨by omega,by omega⟩]
   simp only[hlt,Int.natCast_nonneg,decide_true,Yc,Bool.and_self,Yi,zsO,←Zb,hp,Zl,ZO]
   cases XH 1000 80 l[i].t<;>rfl)
  (by
   show W.loop _ _ _ _=_
   rw[L,zcN,Qo]
   simp)
 unfold Ev zmd
 have e30:decide ((l.length:Int)>30)= !decide (l.length≤30):=za6 l.length 30
 have hl':W.loop 38 4 [.int 0, .vec .plain (some 4) (Y7 l)] []=_:=hl
 rw[C,zl2,Qo,hl',e30]
 cases decide (l.length≤30)<;>cases l.all (fun d=>XH 1000 80 d.t)<;>rfl
theorem zhZ(sig:List D)(l:List M)(ctx:List T)(h1:ZL (Y7 sig)≤4398046511104)(hb:ZL (ZV l)≤4398046511104)(h3:sizes ctx≤1099511627776):Ev 10 [.vec .plain (some 4) (Y7 sig), .vec .plain (some 5) (ZV l), .vec .plain (some 3) (Zg ctx)] (.bool (zjq sig l ctx)):=by
 have hlen:=zcX (ZV l)
 rw[YS]at hlen
 have hc:=(X2 ctx 500 80 h3).p
 have h9:=(zpp sig h1).p
 have hl:=zai (L:=fun i=>W.loop 10 5 [.int i, .vec .plain (some 5) (ZV l), .vec .plain (some 3) (Zg ctx)] []) (xs:=l) (g:=fun m=>Xd 500 80 m.ctx&&XH 500 80 m.t) (e0:=(Ex.exit 0,[.vec .plain (some 3) (Zg ctx)],[])) (e1:=(Ex.ret,[V.bool false],[]))
  (fun i hi=>by
   have hm:=zrn (List.getElem_mem hi)
   have hp:=(Qe l[i].t 500 80 (by omega)).p
   have hq:=(X2 l[i].ctx 500 80 (by omega)).p
   have hlt:decide ((i:Int)<l.length)=true:=by simp;omega
   show W.loop _ _ _ _=_
   rw[L,zdd,YS,za2 hi,Zv ⟨by omega,by omega⟩]
   simp only[hlt,Int.natCast_nonneg,decide_true,Yc,Bool.and_self,Yi,zt4,zt5,hq,←Zb,hp,Zl,ZO]
   cases XH 500 80 l[i].t<;>cases Xd 500 80 l[i].ctx<;>rfl)
  (by
   show W.loop _ _ _ _=_
   rw[L,zdd,YS]
   simp)
 unfold Ev zjq zhR
 have e30:decide ((l.length:Int)>30)= !decide (l.length≤30):=za6 l.length 30
 have hl':W.loop 10 5 [.int 0, .vec .plain (some 5) (ZV l), .vec .plain (some 3) (Zg ctx)] []=_:=hl
 rw[C,zmr,YS,hl',e30,h9]
 cases decide (l.length≤30)<;>cases l.all (fun m=>Xd 500 80 m.ctx&&XH 500 80 m.t)<;>cases zmd sig<;>simp[hc]
theorem zjt(l:List M)(hb:ZL (ZV l)≤4398046511104):Ev 39 [.vec .plain (some 5) (ZV l)] (.bool (zhR l)):=by
 have h:=(zhZ [] l [] (by simp[ZL]) hb (by simp[sizes])).p
 have e:zjq [] l []=zhR l:=by simp[zjq,zmd,Xd]
 rw[e]at h
 simp only[zoV,zbx]at h
 unfold Ev
 rw[C,zms,h]
 simp
theorem zde(c:Cal)(hb:YA (YT c)≤4398046511104):Ev 18 [YT c] (.bool (Qr c)):=by
 have hm:=zpl c
 have h1:=(X2 c.ext 300 60 (by omega)).p
 have h2:=(X2 c.theta 300 60 (by omega)).p
 have h3:=(Qe c.arg 300 60 (by omega)).p
 unfold Ev Qr
 rw[C,Y5,zeY,←Zb,h1,h2,h3]
 cases Xd 300 60 c.ext<;>cases Xd 300 60 c.theta<;>rfl
theorem zkx(c:Cl)(hb:YA (zaO c)≤4398046511104):Ev 12 [zaO c] (.bool (zaP c)):=by
 have hm:=zrp c
 have hlen:=zcX (XJ c.calls)
 rw[Q6]at hlen
 have h0:=(zjt c.metas (by omega)).p
 have h1:=(X2 c.theta 300 60 (by omega)).p
 have h2:=(Qe c.p 300 60 (by omega)).p
 have h3:=(Qe c.r 300 60 (by omega)).p
 have hl:=zai (L:=fun i=>W.loop 12 8 [.int i, .loc false (some 9) (zaO c)] []) (xs:=c.calls) (g:=Qr) (e0:=(Ex.exit 0,[],[])) (e1:=(Ex.ret,[V.bool false],[]))
  (fun i hi=>by
   have hp:=(zde c.calls[i] (by have:=zeW (List.mem_map_of_mem (f:=YT) (List.getElem_mem hi));simp only[XJ]at hm;omega)).p
   have hlt:decide ((i:Int)<c.calls.length)=true:=by simp;omega
   show W.loop _ _ _ _=_
   rw[L,zb7,Jh,Q6,ziG hi,Zv ⟨by omega,by omega⟩]
   simp only[hlt,Int.natCast_nonneg,decide_true,Yc,Bool.and_self,Yi,zsc,←Y5,hp,Zl,ZO]
   cases Qr c.calls[i]<;>rfl)
  (by
   show W.loop _ _ _ _=_
   rw[L,zb7,Jh,Q6]
   simp)
 unfold Ev zaP
 have e50:decide ((c.calls.length:Int)>50)= !decide (c.calls.length≤50):=za6 c.calls.length 50
 have hl':W.loop 12 8 [.int 0, .loc false (some 9) (zaO c)] []=_:=hl
 rw[C]
 conv=>lhs;rw[zb7]
 rw[zd4,←zb7,←Zb,←Zb,Q6,hl',e50,h0,h1,h2,h3]
 cases zhR c.metas<;>cases Xd 300 60 c.theta<;>cases XH 300 60 c.p<;>cases XH 300 60 c.r<;>cases decide (c.calls.length≤50)<;>cases c.calls.all Qr<;>rfl
theorem zeZ(f:Fun1)(hb:YA (Qs f)≤4398046511104):Ev 17 [Qs f] (.bool (zdx f)):=by
 have hm:=zrq f
 have hlen:=zcX (za3 f.clauses)
 rw[J6]at hlen
 have h0:=(zjt f.delta (by omega)).p
 have h1:=(X2 f.schema 300 60 (by omega)).p
 have h2:=(X2 f.psi 300 60 (by omega)).p
 have h3:=(X2 f.phi 300 60 (by omega)).p
 have h4:=(Qe f.a 300 60 (by omega)).p
 have h5:=(Qe f.b 300 60 (by omega)).p
 have hl:=zai (L:=fun i=>W.loop 17 10 [.int i, .loc false (some 13) (Qs f)] []) (xs:=f.clauses) (g:=zaP) (e0:=(Ex.exit 0,[],[])) (e1:=(Ex.ret,[V.bool false],[]))
  (fun i hi=>by
   have hp:=(zkx f.clauses[i] (by have:=zeW (List.mem_map_of_mem (f:=zaO) (List.getElem_mem hi));simp only[za3]at hm;omega)).p
   have hlt:decide ((i:Int)<f.clauses.length)=true:=by simp;omega
   show W.loop _ _ _ _=_
   rw[L,Yk,JF,J6,zma hi,Zv ⟨by omega,by omega⟩]
   simp only[hlt,Int.natCast_nonneg,decide_true,Yc,Bool.and_self,Yi,zt3,←zb7,hp,Zl,ZO]
   cases zaP f.clauses[i]<;>rfl)
  (by
   show W.loop _ _ _ _=_
   rw[L,Yk,JF,J6]
   simp)
 unfold Ev zdx
 have e50:decide ((f.clauses.length:Int)>50)= !decide (f.clauses.length≤50):=za6 f.clauses.length 50
 have hl':W.loop 17 10 [.int 0, .loc false (some 13) (Qs f)] []=_:=hl
 rw[C]
 conv=>lhs;rw[Yk]
 rw[zfZ,←Yk,←Zb,←Zb,J6,hl',e50,h0,h1,h2,h3,h4,h5]
 cases zhR f.delta<;>cases Xd 300 60 f.schema<;>cases Xd 300 60 f.psi<;>cases Xd 300 60 f.phi<;>cases XH 300 60 f.a<;>cases XH 300 60 f.b<;>cases decide (f.clauses.length≤50)<;>cases f.clauses.all zaP<;>rfl
end Go.Proofs.CL
namespace Go.Ama
open Go Go.AM
end Go.Ama
namespace Go.Proofs.CL
open Go Go.AM Go.Ama
end Go.Proofs.CL
namespace Go.Proofs.CL
open Go Go.AM Go.Ama
set_option maxRecDepth 100000
abbrev zga(sig:List D)(ms:List M)(ext:List T)(ds:List M)(s:LSt)(p:Option Ex):Res:= .loop 25 8 [.ref 0 0, .cptr none (.vec .plain (some 5) (ZV ms)), .cptr none (.vec .plain (some 3) (Zg ext)), .cptr none (.vec .plain (some 4) (Y7 sig)), .cptr none (.vec .plain (some 5) (ZV ds))] s p
theorem zky(sig:List D)(ms:List M)(ext:List T)(ds:List M)(over:List T)(t:T)(hs:sig.length≤1000∧ ∀d∈sig,Hd d.t)(hm:ms.length≤1000∧ ∀m∈ms,HdM m)(he:Hds 60 ext)(hd: ∀m∈ds,LoM m)(ho:Los 60 over)(ht:Lo t)(hlt:over.length<ds.length):
  W.round 1 25 8 [.ref 0 0, .cptr none (.vec .plain (some 5) (ZV ms)), .cptr none (.vec .plain (some 3) (Zg ext)), .cptr none (.vec .plain (some 4) (Y7 sig)), .cptr none (.vec .plain (some 5) (ZV ds))] [.vec .plain (some 3) (Zg over),enc t] [.box [.int 0],zga sig ms ext ds .ready none]=
   some (if zkw sig ms ext ds[over.length] over t=0 then(true,[.box [.int 0],zga sig ms ext ds .ready none])else(false,[.box [.int (zkw sig ms ext ds[over.length] over t)],zga sig ms ext ds .done (some .ret)])):=by
 have hdm:=hd _ (List.getElem_mem hlt)
 have hlt':(over.length:Int)<ds.length:=by omega
 have hg:=za2 hlt
 generalize ds[over.length]=d at hdm hg⊢
 have hc:=(zmn (β:=1099511627776) (by omega) zdy (n:=0) (l:=d.ctx) (θ:=over) (by have:=hdm.ctx.hds.szs;omega) (by omega) (by have:=ho.hds.szs;omega) (fun x hx=>(ho.all x hx).ok) (fun x hx=>(hdm.ctx.all x hx).ok)).p
 have hf:=(zfY (β:=1099511627776) (by omega) zdy (t:=d.t) (θ:=over) (n:=(d.ctx.length:Int)) (by have:=hdm.t.size;omega) (by have:=ho.hds.szs;omega) (fun x hx=>(ho.all x hx).ok) hdm.t.ok).p
 rw[Rd,Zb t,zhS,←Zb t,Zh,YS,hg]
 simp only[Int.natCast_zero]at hc
 have hq: ∀{R:Type} (K:Res→Option R),Zz [Res.box [.int 0],zga sig ms ext ds .ready none] 1 K=K (zga sig ms ext ds .ready none):=fun K=>rfl
 unfold zkw
 dsimp only
 rw[hq]
 simp only[zaM,zdi,hlt',Int.natCast_nonneg,decide_true,Bool.and_self,Yi,onM,hc,Zl,zaj,X0,QQ,Yx,QR,←Zb,Zh,hf]
 by_cases h1:(Yg over d.ctx 0).2=0
 ·have hch:=zeq hdm.ctx ho.all h1
  by_cases h2:(X1 d.t over d.ctx.length).2=0
  ·have hfh:=zmo hdm.t ho.all h2
   have hcat:=(zcT ext (Yg over d.ctx 0).1 (by have:=he.len;have:=hch.len;omega)).p (h2:=by simp[below,Zk,Xp])
   have hI:In sig ms (ext++(Yg over d.ctx 0).1) [t,(X1 d.t over d.ctx.length).1]:=zrE hs hm ((he.app hch).mono (by omega)) ⟨by simp,fun x hx=>by
    rcases List.mem_cons.1 hx with rfl|hx
    ·exact ht.hd
    ·rw[List.mem_singleton]at hx;subst hx;exact hfh⟩
   have hk:=(zcW sig ms (ext++(Yg over d.ctx 0).1) t (X1 d.t over d.ctx.length).1 hI).p (by simp[Zk,below,Z4,Xp])
   have hv:QF sig ms (ext++(Yg over d.ctx 0).1) t (X1 d.t over d.ctx.length).1=0→Zj W 78 [enc t, .vec .plain (some 5) (ZV ms)]=some (.bool (zb8 t ms)):=fun h0=>by
    have hm1:may t=true:=by
     unfold QF at h0
     by_cases hw:zlR sig ms (ext++(Yg over d.ctx 0).1) [t,(X1 d.t over d.ctx.length).1]=true
     ·exact(zhP.1 hw).2.1 t (by simp)
     ·rw[if_neg hw]at h0;cases h0
    have ho:=ht.ok hm1
    have h0':0≤t.h:=by cases t;exact ho.1.1
    exact(zhX t ms h0').p (by simp[Zk,below])
   simp only[h1,h2,beq_self_eq_true,Yc,ZJ,bne_self_eq_false,hcat,Zl,QQ,zlG,←Zb,hk,Yx,not_true_eq_false,if_false,ne_eq]
   generalize hz:QF sig ms (ext++(Yg over d.ctx 0).1) t (X1 d.t over d.ctx.length).1=z at hv⊢
   by_cases hz0:z=0
   ·subst hz0
    simp only[hv rfl,beq_self_eq_true,Yc,Zl,ZO]
    cases d.param<;>cases zb8 t ms<;>simp[Zz,YR,setCells]
   ·simp[hz0,Zz,YR,setCells]
  ·simp[h1,h2,Zz,YR,setCells]
 ·simp[h1,Zz,YR,setCells]
theorem zkz(sig:List D)(ms:List M)(ext:List T)(ds:List M)(ts:List T)(hs:sig.length≤1000∧ ∀d∈sig,Hd d.t)(hm:ms.length≤1000∧ ∀m∈ms,HdM m)(he:Hds 60 ext)(hd: ∀m∈ds,LoM m)(ht:Los 60 ts)(hl:ts.length=ds.length): ∀(n i:Nat),ts.length-i=n→i≤ts.length→
  W.loop 123 1 [.int (i:Int), .cptr none (.vec .plain (some 3) (Zg ts)), .yld 1, .vec .plain (some 3) (Zg ts), .int ts.length] [.box [.int 0],zga sig ms ext ds .ready none]=
   some (if(Je i ((XA sig ms ext ds ts).drop i)).2=0 then(.exit 0,[],[.box [.int 0],zga sig ms ext ds .ready none])else(.ret,[],[.box [.int (Je i ((XA sig ms ext ds ts).drop i)).2],zga sig ms ext ds .done (some .ret)])):=by
 have hlen:(XA sig ms ext ds ts).length=ts.length:=by simp[XA]
 have h60:=ht.len
 intro n
 induction n with
 |zero=>
  intro i hn hi
  have:i=ts.length:=by omega
  subst this
  rw[L,XP,←hlen,List.drop_length,hlen]
  simp[Je]
 |succ n ih=>
  intro i hn hi
  have hlt:i<ts.length:=by omega
  have hlt':(i:Int)<ts.length:=by omega
  have hle':(i:Int)≤ts.length:=by omega
  have hw:IntKind.i64.wrap ((i:Int)+1)=((i+1:Nat):Int):=by rw[Zv ⟨by omega,by omega⟩];omega
  have hd':(XA sig ms ext ds ts).drop i=zkw sig ms ext (ds[i]'(by omega)) (ts.take i) ts[i]::(XA sig ms ext ds ts).drop (i+1):=by
   rw[List.drop_eq_getElem_cons (by omega)]
   congr 1
   simp[XA,List.getD_eq_getElem?_getD,hlt,(show i<ds.length by omega)]
  have htl:(ts.take i).length=i:=by simp;omega
  have hr:=zky sig ms ext ds (ts.take i) ts[i] hs hm he hd ⟨by omega,fun x hx=>ht.all x (List.mem_of_mem_take hx)⟩ (ht.all _ (List.getElem_mem hlt)) (by omega)
  have htk:List.drop 0 (List.take (i:Int).toNat (Zg ts))=Zg (ts.take i):=by simp[zjo]
  simp only[htl]at hr
  have hg: ∀{R:Type} (K:Res→Option R),Zz [Res.box [.int 0],zga sig ms ext ds .ready none] 1 K=K (zga sig ms ext ds .ready none):=fun K=>rfl
  rw[hd',L,XP,hw,ZG hlt,htk,Zh]
  simp only[hlt',hle',Int.natCast_nonneg,decide_true,Bool.and_self,Yi,Yc,zlG,←Zb,Option.isSome_some,hg,zaM,zbZ,hr,Zl]
  by_cases hz:zkw sig ms ext (ds[i]'(by omega)) (ts.take i) ts[i]=0
  ·have e:Je i (zkw sig ms ext (ds[i]'(by omega)) (ts.take i) ts[i]::(XA sig ms ext ds ts).drop (i+1))=Je (i+1) ((XA sig ms ext ds ts).drop (i+1)):=by simp[Je,hz]
   rw[e]
   simp only[hz,if_true,Bool.not_true,ZJ]
   exact ih (i+1) (by omega) (by omega)
  ·have e:Je i (zkw sig ms ext (ds[i]'(by omega)) (ts.take i) ts[i]::(XA sig ms ext ds ts).drop (i+1))=((i:Int),zkw sig ms ext (ds[i]'(by omega)) (ts.take i) ts[i]):=by simp[Je,hz]
   rw[e]
   simp[hz]
theorem zqy(sig:List D)(ms:List M)(ext:List T)(ds:List M)(ts:List T)(hs:sig.length≤1000∧ ∀d∈sig,Hd d.t)(hm:ms.length≤1000∧ ∀m∈ms,HdM m)(he:Hds 60 ext)(hd: ∀m∈ds,LoM m)(ht:Los 60 ts):
  Ev 25 [.vec .plain (some 4) (Y7 sig), .vec .plain (some 5) (ZV ms), .vec .plain (some 3) (Zg ext), .vec .plain (some 5) (ZV ds), .vec .plain (some 3) (Zg ts)] (.int (zse sig ms ext ds ts)):=by
 have hA:W.call 76 [.vec .plain (some 3) (Zg ts)] [.box [.int 0]]=some (.ret (.fn 123 [] [.cptr none (.vec .plain (some 3) (Zg ts))]),[.box [.int 0]]):=by
  rw[C,zcf,ZY rfl]
 unfold Ev zse
 rw[C,zme,YS,Zh]
 by_cases h40:40<ds.length
 ·have:(ds.length:Int)>40:=by omega
  simp[h40,this]
 ·have h40': ¬(ds.length:Int)>40:=by omega
  by_cases hl:ts.length=ds.length
  ·have hl':((ts.length:Int) !=(ds.length:Int))=false:=by simp[hl]
   have hL:=zkz sig ms ext ds ts hs hm he hd ht hl _ 0 rfl (Nat.zero_le _)
   simp only[Int.natCast_zero,List.drop_zero]at hL
   have hA1:W.call 123 [.yld 1, .cptr none (.vec .plain (some 3) (Zg ts))] [.box [.int 0],zga sig ms ext ds .ready none]=
     some (.ret (.tup []),if(Je 0 (XA sig ms ext ds ts)).2=0 then[.box [.int 0],zga sig ms ext ds .ready none]else[.box [.int (Je 0 (XA sig ms ext ds ts)).2],zga sig ms ext ds .done (some .ret)]):=by
    rw[C,zbh,Zh,hL]
    by_cases hz:(Je 0 (XA sig ms ext ds ts)).2=0
    ·simp[hz,ZY]
    ·simp[hz,ZY]
   simp only[h40',decide_false,ZJ,hl',hA,Zl,Yy,zgR,List.length_cons,List.length_nil,Nat.zero_add,Nat.reduceAdd,List.nil_append,List.cons_append]
   rw[hA1]
   by_cases hz:(Je 0 (XA sig ms ext ds ts)).2=0
   ·simp[hz,h40,hl,Zz,setCells]
    try rfl
   ·simp[hz,h40,hl,Zz,setCells]
    try rfl
  ·have hl':((ts.length:Int) !=(ds.length:Int))=true:=by simp;omega
   simp[h40,h40',hl,hl']
end Go.Proofs.CL
namespace Go.Proofs.CL
open Go Go.AM
set_option maxRecDepth 20000
end Go.Proofs.CL
namespace Go.Proofs.CL
open Go Go.AM Go.Ama
section
variable{σ:Type}{nx:Int→T→σ→σ}{x:σ→St}{g:Nat}{a b:List V}
end
end Go.Proofs.CL
namespace Go.Proofs.CL
open Go Go.AM Go.Ama
set_option maxRecDepth 100000
end Go.Proofs.CL
namespace Go.Proofs.CL
open Go Go.AM
set_option maxRecDepth 20000
theorem zgI(O:Oracle)(l0:(List V))(l1:(List V))(s2:ByteArray)(l3:(List V))(l4:(List V))(l5:(List V))(n6:Int)(n7:Int)(l8:(List V))(l9:(List V))(n10:Int)(n11:Int)(l12:(List V))(b13:Bool)(l14:(List V))(s15:ByteArray)(l16:(List V))(l17:(List V))(l18:(List V))(n19:Int)(n20:Int)(l21:(List V))(l22:(List V))(n23:Int)(n24:Int)(l25:(List V))(b26:Bool)(l27:(List V))(n28:Int)(l29:(List V))(l30:(List V))(n31:Int)(n32:Int)(l33:(List V)):Zf Tryz.prog cfg O 19 [.vec .plain (some 4) l0, .vec .plain (some 5) l1, .agg [.str s2, .vec .plain (some 3) l3, .vec .plain (some 5) l4, .vec .plain (some 3) l5, .int n6, .int n7, .vec .plain (some 3) l8, .vec .plain (some 3) l9, .int n10, .int n11, .vec .plain (some 3) l12, .bool b13, .vec .plain (some 9) l14], .agg [.str s15, .vec .plain (some 3) l16, .vec .plain (some 5) l17, .vec .plain (some 3) l18, .int n19, .int n20, .vec .plain (some 3) l21, .vec .plain (some 3) l22, .int n23, .int n24, .vec .plain (some 3) l25, .bool b26, .vec .plain (some 9) l27], .agg [.int n28, .vec .plain (some 3) l29, .vec .plain (some 3) l30, .int n31, .int n32, .vec .plain (some 3) l33]] []=
 Za (O.call 40 [V.vec .plain none [V.fn 66 [] [V.cptr (some 6) (V.agg [V.int n28,V.vec .plain (some 3) l29,V.vec .plain (some 3) l30,V.int n31,
 V.int n32,V.vec .plain (some 3) l33])],V.fn 67 [] [V.cptr (some 13) (V.agg [V.str s15,V.vec .plain (some 3) l16,V.vec .plain (some 5) l17,V.vec .plain (some 3)
 l18,V.int n19,V.int n20,V.vec .plain (some 3) l21,V.vec .plain (some 3) l22,V.int n23,V.int n24,V.vec .plain (some 3) l25,V.bool b26,V.vec .plain (some 9) l27]),V.cptr
 (some 6) (V.agg [V.int n28,V.vec .plain (some 3) l29,V.vec .plain (some 3) l30,V.int n31,V.int n32,V.vec .plain (some 3) l33]),V.cptr (some 13) (V.agg [V.str s2,V.vec
 .plain (some 3) l3,V.vec .plain (some 5) l4,V.vec .plain (some 3) l5,V.int n6,V.int n7,V.vec .plain (some 3) l8,V.vec .plain (some 3) l9,V.int n10,V.int n11,V.vec .plain
 (some 3) l12,V.bool b13,V.vec .plain (some 9) l14])],V.fn 68 [] [V.cptr none (V.vec .plain (some 4) l0),V.cptr none (V.vec .plain (some 5) l1),V.cptr (some 6)
 (V.agg [V.int n28,V.vec .plain (some 3) l29,V.vec .plain (some 3) l30,V.int n31,V.int n32,V.vec .plain (some 3) l33]),V.cptr (some 13) (V.agg [V.str s15,V.vec .plain (some
 3) l16,V.vec .plain (some 5) l17,V.vec .plain (some 3) l18,V.int n19,V.int n20,V.vec .plain (some 3) l21,V.vec .plain (some 3) l22,V.int n23,V.int n24,V.vec .plain (some
 3) l25,V.bool b26,V.vec .plain (some 9) l27])],V.fn 69 [] [V.cptr none (V.vec .plain (some 4) l0),V.cptr none (V.vec .plain (some 5) l1),V.cptr (some 6) (V.agg
 [V.int n28,V.vec .plain (some 3) l29,V.vec .plain (some 3) l30,V.int n31,V.int n32,V.vec .plain (some 3) l33]),V.cptr (some 13) (V.agg [V.str s15,V.vec .plain (some 3) l16,
 V.vec .plain (some 5) l17,V.vec .plain (some 3) l18,V.int n19,V.int n20,V.vec .plain (some 3) l21,V.vec .plain (some 3) l22,V.int n23,V.int n24,V.vec .plain (some 3) l25,
 V.bool b26,V.vec .plain (some 9) l27])]]] []) fun r1=>Zx r1.fst (fun v2=>Zp v2 fun n3=>bc (n3 !=0) (some (Out.ret (V.tup [V.agg [V.vec .plain (some 3) [],V.int 0,
 V.int 0,V.vec .plain (some 3) [],V.bool false],V.int n3]),[])) (Za (Zj O 70 [V.vec .plain (some 3) l29,V.vec .plain (some 3) l22,V.agg [V.int n23,V.int
 n24,V.vec .plain (some 3) l25],V.vec .plain (some 3) l30]) fun r4=>ZQ r4 fun c5=>Zd c5 fun v6 c7=>Zc [CT.slice (some 3),CT.int,CT.int,CT.slice (some 3),
 CT.bool] v6 fun l8 n9 n10 l11 b12=>Zd c7 fun v13 c14=>Zp v13 fun n15=>Zq c14 (gd (below 0 (V.tup [V.agg [V.vec .plain (some 3) l8,V.int n9,V.int n10,V.vec
 .plain (some 3) l11,V.bool b12],V.int n15])&&Zr 0 []) (some (Out.ret (V.tup [V.agg [V.vec .plain (some 3) l8,V.int n9,V.int n10,V.vec .plain (some 3) l11,V.bool b12],
 V.int n15]),[]))))) fun p16=>none:=by kernel_rfl
theorem zia(O:Oracle)(l0:(List V))(st:St):Zf Tryz.prog cfg O 40 [.vec .plain none l0] st=
 Za (O.loop 40 2 [V.int 0,V.vec .plain none l0,V.int (↑l0.length:Int)] st) fun r1=>XM r1.fst none (Zd r1.snd.fst fun v2 c3=>Zp v2 fun n4=>Zq c3
 (X5 (List.length st) (V.int n4) r1.snd.snd)) (fun i5=>bc (i5.beq 0) (Zq r1.snd.fst (X5 (List.length st) (V.int 0) r1.snd.snd)) none) fun v6=>none:=by kernel_rfl
theorem zaR(O:Oracle)(n0:Int)(l1:List V)(n2:Int)(st:St):Z5 Tryz.prog cfg O 40 2 [.int n0, .vec .plain none l1, .int n2] st=
 bc (decide (n0<n2)) (gd (decide (0≤n0)&&decide (n0<(↑l1.length:Int))) (JL (ZZ l1 n0) (fun g1 a2 b3=>bc (cfg.pure g1) (Za (Zj O g1 (a2++[]++b3)) fun r4
 =>Zp r4 fun n5=>bc (n5 !=0) (some (Ex.ret,[V.int n5],st)) (O.2 40 2 [V.int (IntKind.i64.wrap (n0+1)),V.vec .plain none l1,V.int n2] st)) (Za (O.call g1
 (a2++[]++b3) st) fun r6=>Zx r6.fst (fun v7=>Zp v7 fun n8=>bc (n8 !=0) (some (Ex.ret,[V.int n8],r6.snd)) (O.2 40 2 [V.int (IntKind.i64.wrap (n0+
 1)),V.vec .plain none l1,V.int n2] r6.snd)) fun p9=>none)) fun l10=>Zz st l10 fun x11=>ZP x11 fun f12 k13 vs14 s15 p16=>XS s15 p16 (Za (O.round l10 f12 k13
 vs14 [] st) fun r17=>none) none fun i18=>none)) (some (Ex.exit 0,[],st)):=by kernel_rfl
theorem zgJ(O:Oracle)(b0:Bool)(n1:Int):Zf Tryz.prog cfg O 49 [.bool b0, .int n1] []=
 bc b0 (some (Out.ret (V.int 0),[])) (some (Out.ret (V.int n1),[])):=by kernel_rfl
theorem zib(O:Oracle)(l0:(List V))(l1:(List V))(l2:(List V))(l3:(List V))(n4:Int)(n5:Int)(l6:(List V))(l7:(List V))(n8:Int)(n9:Int)(l10:(List V)):Zf Tryz.prog cfg O 58 [.vec .plain (some 4) l0, .vec .plain (some 5) l1, .vec .plain (some 3) l2, .vec .plain (some 3) l3, .agg [.int n4, .int n5, .vec .plain (some 3) l6], .vec .plain (some 3) l7, .agg [.int n8, .int n9, .vec .plain (some 3) l10]] []=
 Za (Zj O 70 [V.vec .plain (some 3) l2,V.vec .plain (some 3) l3,V.agg [V.int n4,V.int n5,V.vec .plain (some 3) l6],V.vec .plain (some 3) l7]) fun r1=>
 ZQ r1 fun c2=>Zd c2 fun v3 c4=>Zc [CT.slice (some 3),CT.int,CT.int,CT.slice (some 3),CT.bool] v3 fun l5 n6 n7 l8 b9=>Zd c4 fun v10 c11=>Zp v10 fun
 n12=>Zq c11 (bc (n12 !=0) (some (Out.ret (V.int n12),[])) (Za (Zj O 30 [V.vec .plain (some 4) l0,V.vec .plain (some 5) l1,V.vec .plain (some 3) l5,V.agg
 [V.int n8,V.int n9,V.vec .plain (some 3) l10],V.agg [V.int n6,V.int n7,V.vec .plain (some 3) l8]]) fun r13=>Zp r13 fun n14=>some (Out.ret (V.int n14),[]))):=by kernel_rfl
theorem zgK(O:Oracle)(l0:(List V))(l1:(List V))(n2:Int)(n3:Int)(l4:(List V))(l5:(List V)):Zf Tryz.prog cfg O 70 [.vec .plain (some 3) l0, .vec .plain (some 3) l1, .agg [.int n2, .int n3, .vec .plain (some 3) l4], .vec .plain (some 3) l5] []=
 Za (Zj O 33 [V.vec .plain (some 3) l1,V.vec .plain (some 3) l5,V.int 0]) fun r1=>ZQ r1 fun c2=>Zd c2 fun v3 c4=>Yw (some 3) v3 fun l5_1=>Zd
 c4 fun v6 c7=>Zp v6 fun n8=>Zq c7 (bc (n8 !=0) (some (Out.ret (V.tup [V.agg [V.vec .plain (some 3) [],V.int 0,V.int 0,V.vec .plain (some 3) [],V.bool false],V.int
 n8]),[])) (Za (Zj O 26 [V.agg [V.int n2,V.int n3,V.vec .plain (some 3) l4],V.vec .plain (some 3) l5,V.int (↑l1.length:Int)]) fun r9=>ZQ r9 fun c10=>
 Zd c10 fun v11 c12=>Zc [CT.int,CT.int,CT.slice (some 3)] v11 fun n13 n14 l15=>Zd c12 fun v16 c17=>Zp v16 fun n18=>Zq c17 (bc (n18 !=0) (some
 (Out.ret (V.tup [V.agg [V.vec .plain (some 3) [],V.int 0,V.int 0,V.vec .plain (some 3) [],V.bool false],V.int n18]),[])) (Za (Zj O 77
 [V.vec .plain none [V.vec .plain (some 3) l0,V.vec .plain (some 3) l5_1]]) fun r19=>Yw (some 3) r19 fun l20=>gd (below 0 (V.tup [V.agg [V.vec .plain (some 3) l20,V.int
 n13,V.int n14,V.vec .plain (some 3) l15,V.bool false],V.int 0])&&true) (some (Out.ret (V.tup [V.agg [V.vec .plain (some 3) l20,V.int n13,V.int n14,V.vec .plain (some 3)
 l15,V.bool false],V.int 0]),[])))))):=by kernel_rfl
end Go.Proofs.CL
namespace Go.Proofs.CL
open Go Go.AM
set_option maxRecDepth 20000
theorem zfa(O:Oracle)(m1:Int)(m2 m3:List V)(m4 m5:Int)(m6:List V):Zf Tryz.prog cfg O 66 [.cptr (some 6) (.agg [.int m1, .vec .plain (some 3) m2, .vec .plain (some 3) m3, .int m4, .int m5, .vec .plain (some 3) m6])] []=
 Za (Zj O 49 [V.bool (decide ((↑m2.length:Int)≤40)),V.int 4]) fun r1=>Zp r1 fun n2=>some (Out.ret (V.int n2),[]):=by kernel_rfl
theorem zfb(O:Oracle)(s1:ByteArray)(l2 l3 l4:List V)(n5 n6:Int)(l7 l8:List V)(n9 n10:Int)(l11:List V)(b12:Bool)(l13:List V)(m1:Int)(m2 m3:List V)(m4 m5:Int)(m6:List V)(s1g:ByteArray)(l2g l3g l4g:List V)(n5g n6g:Int)(l7g l8g:List V)(n9g n10g:Int)(l11g:List V)(b12g:Bool)(l13g:List V):Zf Tryz.prog cfg O 67 [.cptr (some 13) (.agg [.str s1, .vec .plain (some 3) l2, .vec .plain (some 5) l3, .vec .plain (some 3) l4, .int n5, .int n6, .vec .plain (some 3) l7, .vec .plain (some 3) l8, .int n9, .int n10, .vec .plain (some 3) l11, .bool b12, .vec .plain (some 9) l13]), .cptr (some 6) (.agg [.int m1, .vec .plain (some 3) m2, .vec .plain (some 3) m3, .int m4, .int m5, .vec .plain (some 3) m6]), .cptr (some 13) (.agg [.str s1g, .vec .plain (some 3) l2g, .vec .plain (some 5) l3g, .vec .plain (some 3) l4g, .int n5g, .int n6g, .vec .plain (some 3) l7g, .vec .plain (some 3) l8g, .int n9g, .int n10g, .vec .plain (some 3) l11g, .bool b12g, .vec .plain (some 9) l13g])] []=
 Za (Zj O 23 [V.vec .plain (some 3) l2,V.vec .plain (some 3) m2]) fun r1=>Zi r1 fun b2=>bc b2 (Za (Zj O 23 [V.vec .plain (some 3)
 l2,V.vec .plain (some 3) l2g]) fun r3=>Zi r3 fun b4=>Za (Zj O 49 [V.bool b4,V.int 9]) fun r5=>Zp r5 fun n6=>some (Out.ret (V.int n6),[]))
 (Za (Zj O 49 [V.bool false,V.int 9]) fun r7=>Zp r7 fun n8=>some (Out.ret (V.int n8),[])):=by kernel_rfl
theorem zfc(O:Oracle)(sg ds:List V)(m1:Int)(m2 m3:List V)(m4 m5:Int)(m6:List V)(s1:ByteArray)(l2 l3 l4:List V)(n5 n6:Int)(l7 l8:List V)(n9 n10:Int)(l11:List V)(b12:Bool)(l13:List V):Zf Tryz.prog cfg O 68 [.cptr none (.vec .plain (some 4) sg), .cptr none (.vec .plain (some 5) ds), .cptr (some 6) (.agg [.int m1, .vec .plain (some 3) m2, .vec .plain (some 3) m3, .int m4, .int m5, .vec .plain (some 3) m6]), .cptr (some 13) (.agg [.str s1, .vec .plain (some 3) l2, .vec .plain (some 5) l3, .vec .plain (some 3) l4, .int n5, .int n6, .vec .plain (some 3) l7, .vec .plain (some 3) l8, .int n9, .int n10, .vec .plain (some 3) l11, .bool b12, .vec .plain (some 9) l13])] []=
 Za (Zj O 25 [V.vec .plain (some 4) sg,V.vec .plain (some 5) ds,V.vec .plain (some 3) m2,V.vec .plain (some 5) l3,V.vec .plain (some 3) m3]) fun r1=>Zp r1
 fun n2=>some (Out.ret (V.int n2),[]):=by kernel_rfl
theorem zfd(O:Oracle)(sg ds:List V)(m1:Int)(m2 m3:List V)(m4 m5:Int)(m6:List V)(s1:ByteArray)(l2 l3 l4:List V)(n5 n6:Int)(l7 l8:List V)(n9 n10:Int)(l11:List V)(b12:Bool)(l13:List V):Zf Tryz.prog cfg O 69 [.cptr none (.vec .plain (some 4) sg), .cptr none (.vec .plain (some 5) ds), .cptr (some 6) (.agg [.int m1, .vec .plain (some 3) m2, .vec .plain (some 3) m3, .int m4, .int m5, .vec .plain (some 3) m6]), .cptr (some 13) (.agg [.str s1, .vec .plain (some 3) l2, .vec .plain (some 5) l3, .vec .plain (some 3) l4, .int n5, .int n6, .vec .plain (some 3) l7, .vec .plain (some 3) l8, .int n9, .int n10, .vec .plain (some 3) l11, .bool b12, .vec .plain (some 9) l13])] []=
 Za (Zj O 58 [V.vec .plain (some 4) sg,V.vec .plain (some 5) ds,V.vec .plain (some 3) m2,V.vec .plain (some 3) l4,V.agg [V.int n5,V.int n6,V.vec .plain
 (some 3) l7],V.vec .plain (some 3) m3,V.agg [V.int m4,V.int m5,V.vec .plain (some 3) m6]]) fun r1=>Zp r1 fun n2=>some (Out.ret (V.int n2),[]):=by kernel_rfl
end Go.Proofs.CL
namespace Go.Ama
open Go Go.AM
theorem zg7{n m:Int}{t:T}(hn:n≤1000)(h:XH n m t=true):Lo t:=by
 unfold XH at h
 simp only[Bool.and_eq_true,decide_eq_true_eq]at h
 exact⟨by omega,fun hm=>zqt (by omega) t (zoY hm) h.1⟩
theorem zer{n m:Int}{l:List T}(hn:n≤1000)(h:Xd n m l=true):Los 60 l:=by
 unfold Xd at h
 simp only[Bool.and_eq_true,decide_eq_true_eq,List.all_eq_true]at h
 exact⟨h.1,fun x hx=>zg7 hn (h.2 x hx)⟩
theorem znD{l:List M}(h:zhR l=true):l.length≤30∧ ∀m∈l,LoM m:=by
 unfold zhR at h
 simp only[Bool.and_eq_true,decide_eq_true_eq,List.all_eq_true]at h
 exact⟨h.1,fun m hm=>⟨zer (by omega) (h.2 m hm).1,zg7 (by omega) (h.2 m hm).2⟩⟩
theorem zsf{sig:List D}(h:zmd sig=true):sig.length≤1000∧ ∀d∈sig,Hd d.t:=by
 unfold zmd at h
 simp only[Bool.and_eq_true,decide_eq_true_eq,List.all_eq_true]at h
 exact⟨by omega,fun d hd=>(zg7 (by omega) (h.2 d hd)).hd⟩
theorem zmt{c:Cal}(h:Qr c=true):LoCal c:=by
 unfold Qr at h
 simp only[Bool.and_eq_true]at h
 exact⟨zer (by omega) h.1,zer (by omega) h.2.1,zg7 (by omega) h.2.2⟩
theorem zrr{c:Cl}(h:zaP c=true):LoCl c:=by
 unfold zaP at h
 simp only[Bool.and_eq_true,decide_eq_true_eq,List.all_eq_true]at h
 obtain⟨h1,h2,h3,h4,h5,h6⟩:=h
 obtain⟨q1,q2⟩:=znD h1
 exact⟨by omega,q2,zer (by omega) h2,zg7 (by omega) h3,zg7 (by omega) h4,by omega,fun x hx=>zmt (h6 x hx)⟩
theorem zoh{f:Fun1}(h:zdx f=true):LoFn f:=by
 unfold zdx at h
 simp only[Bool.and_eq_true,decide_eq_true_eq,List.all_eq_true]at h
 obtain⟨h1,h2,h3,h4,h5,h6,h7,h8⟩:=h
 obtain⟨q1,q2⟩:=znD h1
 exact⟨by omega,q2,zer (by omega) h2,zer (by omega) h3,zg7 (by omega) h5,zer (by omega) h4,zg7 (by omega) h6,by omega,fun x hx=>zrr (h8 x hx)⟩
def zt6(f:Fun1):Fun1:={f with total:= !f.total,clauses:=[]}
end Go.Ama
namespace Go.Proofs.CL
open Go Go.AM Go.Ama
set_option maxRecDepth 100000
inductive Firsts:List V→St→Int→St→Prop
 |nil (st:St):Firsts [] st 0 st
 |bad {g:Nat} {b l:List V} {st st':St} {e:Int} (hp:cfg.pure g=false) (h:W.call g b st=some (.ret (.int e),st')) (he:e≠0):Firsts (.fn g [] b::l) st e st'
 |ok {g:Nat} {b l:List V} {st st' st'':St} {e:Int} (hp:cfg.pure g=false) (h:W.call g b st=some (.ret (.int 0),st')) (t:Firsts l st' e st''):Firsts (.fn g [] b::l) st e st''
theorem Firsts.one{g:Nat}{b l:List V}{st:St}{e:Int}{es:List Int}(hp:cfg.pure g=false)(h:W.call g b st=some (.ret (.int e),st))(t:e=0→Firsts l st (Jg es) st):Firsts (.fn g [] b::l) st (Jg (e::es)) st:=by
 unfold Jg
 by_cases he:e=0
 ·subst he;exact .ok hp h (t rfl)
 ·rw[if_pos he];exact .bad hp h he
theorem zmu(l0:List V)(hl:l0.length≤1000): ∀(n i:Nat) (st:St) (e:Int) (st':St),l0.length-i=n→i≤l0.length→Firsts (l0.drop i) st e st'→
  W.loop 40 2 [.int (i:Int), .vec .plain none l0, .int l0.length] st=some (if e=0 then(.exit 0,[],st')else(.ret,[.int e],st')):=by
 intro n
 induction n with
 |zero=>
  intro i st e st' hn hi h
  have:i=l0.length:=by omega
  subst this
  rw[List.drop_length]at h
  cases h
  rw[L,zaR]
  simp
 |succ n ih=>
  intro i st e st' hn hi h
  have hlt:i<l0.length:=by omega
  have hlt':(i:Int)<l0.length:=by omega
  have hw:IntKind.i64.wrap ((i:Int)+1)=((i+1:Nat):Int):=by rw[Zv ⟨by omega,by omega⟩];omega
  have hg:ZZ l0 (i:Int)=l0[i]:=by simp[ZZ,List.getD_eq_getElem?_getD,hlt]
  rw[List.drop_eq_getElem_cons hlt]at h
  rw[L,zaR,hw,hg]
  generalize l0[i]=x at h
  cases h with
  |bad hp hc he=>
   simp only[hlt',Int.natCast_nonneg,decide_true,Yc,Bool.and_self,Yi,JL,hp,ZJ,List.nil_append,hc,Zl,Yy,Yx]
   simp[he]
  |ok hp hc t=>
   have:=ih (i+1) _ _ _ (by omega) (by omega) t
   simp only[hlt',Int.natCast_nonneg,decide_true,Yc,Bool.and_self,Yi,JL,hp,ZJ,List.nil_append,hc,Zl,Yy,Yx,bne_self_eq_false]
   exact this
theorem znE{l:List V}{st st':St}{e:Int}(hl:l.length≤1000)(h:Firsts l st e st'):W.call 40 [.vec .plain none l] st=X5 st.length (.int e) st':=by
 have:=zmu l hl _ 0 st e st' rfl (Nat.zero_le _) h
 simp only[Int.natCast_zero]at this
 rw[C,zia,this]
 by_cases he:e=0
 ·subst he;simp
 ·simp[he]
theorem zmv(b:Bool)(e:Int):Zj W 49 [.bool b, .int e]=some (.int (zcg b e)):=by
 have h:Ev 49 [.bool b, .int e] (.int (zcg b e)):=by
  unfold Ev zcg
  rw[C,zgJ]
  cases b<;>simp
 exact h.p
theorem zqz:[41,43,45,47,48,105,107,108,66,67,68,69,53,54,55,56,57,59,61].all (fun g=> !cfg.pure g)=true:=by kernel_rfl
theorem zrs{g:Nat}(h:g∈[41,43,45,47,48,105,107,108,66,67,68,69,53,54,55,56,57,59,61]):cfg.pure g=false:=by
 simpa using List.all_eq_true.1 zqz g h
structure SigHd(sig:List D):Prop where
 h:sig.length≤1000∧ ∀d∈sig,Hd d.t
end Go.Proofs.CL
namespace Go.Proofs.CL
open Go Go.AM Go.Ama
set_option maxRecDepth 100000
theorem zg8{ext ctx θ:List T}{a:T}(he:Hds 60 ext)(hc:Los 60 ctx)(ha:Lo a)(hθ:Los 60 θ):Ev 70 [.vec .plain (some 3) (Zg ext), .vec .plain (some 3) (Zg ctx),enc a, .vec .plain (some 3) (Zg θ)] (.tup [JZ (Q7 ext ctx a θ).1, .int (Q7 ext ctx a θ).2]):=by
 have h1:=(zmn (β:=1099511627776) (by omega) zdy (n:=0) (l:=ctx) (θ:=θ) (by have:=hc.hds.szs;omega) (by omega) (by have:=hθ.hds.szs;omega) (fun x hx=>(hθ.all x hx).ok) (fun x hx=>(hc.all x hx).ok)).p
 have h2:=(zfY (β:=1099511627776) (by omega) zdy (t:=a) (θ:=θ) (n:=(ctx.length:Int)) (by have:=ha.size;omega) (by have:=hθ.hds.szs;omega) (fun x hx=>(hθ.all x hx).ok) ha.ok).p
 simp only[Int.natCast_zero]at h1
 unfold Ev Q7
 dsimp only
 rw[C,Zb a,zgK,←Zb a,h1,Zh]
 simp only[Zl,zaj,X0,QQ,Yx,QR,h2,zlG]
 by_cases c1:(Yg θ ctx 0).2=0
 ·by_cases c2:(X1 a θ ctx.length).2=0
  ·have hch:=zeq hc hθ.all c1
   have hcat:=(zcT ext (Yg θ ctx 0).1 (by have:=he.len;have:=hch.len;omega)).p (h2:=by simp[below,Zk,Xp])
   simp only[c1,c2,bne_self_eq_false,ZJ,hcat,Zl,QQ,ne_eq,not_true_eq_false,if_false]
   simp[below,Zk,Xp,Q0]
  ·simp[c1,c2,Q0]
 ·simp[c1,Q0]
theorem znF{sig:List D}{over:List M}{ext ctx θ:List T}{a t:T}(hs:sig.length≤1000∧ ∀d∈sig,Hd d.t)(hm:over.length≤1000∧ ∀m∈over,HdM m)(he:Hds 60 ext)(hc:Los 60 ctx)(ha:Lo a)(hθ:Los 60 θ)(ht:Lo t):
  Ev 58 [.vec .plain (some 4) (Y7 sig), .vec .plain (some 5) (ZV over), .vec .plain (some 3) (Zg ext), .vec .plain (some 3) (Zg ctx),enc a, .vec .plain (some 3) (Zg θ),enc t] (.int (znA sig over ext ctx a θ t)):=by
 have h1:=(zg8 he hc ha hθ).p (h2:=by simp[below,Zk])
 unfold Ev znA
 dsimp only
 rw[C,Zb a,Zb t,zib,←Zb a,←Zb t,h1]
 simp only[Zl,zaj,X0,onM,Yx,QR,←Zb]
 by_cases c:(Q7 ext ctx a θ).2=0
 ·have hf:=znB he hc ha hθ.all c
  have h2:=(zcW sig over (Q7 ext ctx a θ).1.ctx t (Q7 ext ctx a θ).1.t (zrE hs hm (hf.ctx.mono (by omega)) ⟨by simp,fun x hx=>by
    rcases List.mem_cons.1 hx with rfl|hx
    ·exact ht.hd
    ·rw[List.mem_singleton]at hx;rw[hx];exact hf.t⟩)).p (by simp[Zk,below,Z4])
  simp[c,h2]
 ·simp[c]
theorem zmw{sig:List D}{over:List M}{g f:Fun1}{c:Cal}(hs:sig.length≤1000∧ ∀d∈sig,Hd d.t)(hm:over.length≤1000∧ ∀m∈over,HdM m)(hg:LoFn g)(hf:LoFn f)(hc:LoCal c):
  Ev 19 [.vec .plain (some 4) (Y7 sig), .vec .plain (some 5) (ZV over),Qs g,Qs f,YT c] (.tup [JZ (Q8 sig over g f c).1, .int (Q8 sig over g f c).2]):=by
 have h2:=(J8 f.schema c.ext (by have:=hf.schema.hds.szs;omega) (by have:=hc.ext.hds.szs;omega)).p
 have h2':=(J8 f.schema g.schema (by have:=hf.schema.hds.szs;omega) (by have:=hg.schema.hds.szs;omega)).p
 have h3:=(zqy sig over c.ext f.delta c.theta hs hm hc.ext.hds hf.delta hc.theta).p (by simp[Zk,below,Z4])
 have h4:=(znF hs hm hc.ext.hds hf.psi hf.a hc.theta hc.arg).p (by simp[Zk,below,Z4])
 have h5:=(zg8 hc.ext.hds hf.phi hf.b hc.theta).p (h2:=by simp[below,Zk])
 have hF:Firsts [.fn 66 [] [.cptr (some 6) (YT c)], .fn 67 [] [.cptr (some 13) (Qs f), .cptr (some 6) (YT c), .cptr (some 13) (Qs g)], .fn 68 [] [.cptr none (.vec .plain (some 4) (Y7 sig)), .cptr none (.vec .plain (some 5) (ZV over)), .cptr (some 6) (YT c), .cptr (some 13) (Qs f)], .fn 69 [] [.cptr none (.vec .plain (some 4) (Y7 sig)), .cptr none (.vec .plain (some 5) (ZV over)), .cptr (some 6) (YT c), .cptr (some 13) (Qs f)]] [] (J7 sig over g f c) []:=by
  unfold J7
  refine .one (zrs (by decide)) ?_ fun _=> .one (zrs (by decide)) ?_ fun _=> .one (zrs (by decide)) ?_ fun _=> .one (zrs (by decide)) ?_ fun _=> .nil _
  ·rw[C,Y5 c,zfa,Zh,zmv]
   simp only[Zl,Yx]
   congr 5
   simp
   omega
  ·rw[C,Y5 c,Yk f,Yk g,zfb,h2,h2']
   cases XL f.schema c.ext<;>simp[zmv]
  ·rw[C,Y5 c,Yk f,zfc,h3];simp
  ·rw[C,Y5 c,Yk f,zfd,←Zb,←Zb,h4];simp
 unfold Ev Q8
 rw[C,Y5 c,Yk f,Yk g,zgI,←Y5 c,←Yk f,←Yk g,znE (by simp) hF]
 simp only[ZY rfl,Zl,Yy,Yx,←Zb,h5,zaj,X0,onM,QR]
 by_cases h:J7 sig over g f c=0
 ·simp[h,←Q0,below,Zk,Zr]
 ·simp[h,Q0]
end Go.Proofs.CL
namespace Go.Proofs.CL
open Go Go.AM
set_option maxRecDepth 20000
end Go.Proofs.CL
namespace Go.Proofs.CL
open Go Go.AM Go.Ama
end Go.Proofs.CL
namespace Go.Proofs.CL
open Go Go.AM Go.Ama
end Go.Proofs.CL
namespace Go.Proofs.CL
open Go Go.AM
set_option maxRecDepth 20000
end Go.Proofs.CL
namespace Go.Proofs.CL
open Go Go.AM Go.Ama
end Go.Proofs.CL
namespace Go.Proofs.CL
open Go Go.AM
set_option maxRecDepth 20000
end Go.Proofs.CL
namespace Go.Proofs.CL
open Go Go.AM Go.Ama
end Go.Proofs.CL
namespace Go.Proofs.CL
open Go Go.AM
set_option maxRecDepth 20000
end Go.Proofs.CL
namespace Go.Proofs.CL
open Go Go.AM Go.Ama
end Go.Proofs.CL
namespace Go.Proofs.CL
open Go Go.AM Go.Ama
end Go.Proofs.CL
namespace Go.Proofs.CL
open Go Go.AM Go.Ama
end Go.Proofs.CL
namespace Go.Proofs.CL
open Go Go.AM Go.Ama
set_option maxRecDepth 100000
def FirstsE(l:List V)(st:St)(e:Int):Prop:= ∃st',st'.length=st.length∧Firsts l st e st'
theorem FirstsE.one{g:Nat}{b l:List V}{st st1:St}{e:Int}{es:List Int}(hp:cfg.pure g=false)(h:W.call g b st=some (.ret (.int e),st1))(hl:st1.length=st.length)(t:e=0→FirstsE l st1 (Jg es)):FirstsE (.fn g [] b::l) st (Jg (e::es)):=by
 unfold Jg
 by_cases he:e=0
 ·subst he
  obtain⟨st',h1,h2⟩:=t rfl
  exact⟨st',h1.trans hl, .ok hp h h2⟩
 ·rw[if_pos he];exact⟨st1,hl, .bad hp h he⟩
end Go.Proofs.CL
namespace Go.Proofs.CL
open Go Go.AM Go.Ama
set_option maxRecDepth 100000
theorem Ev.of_run{m f:Nat}{args:List V}{v:V}(h:(Xr Tryz.prog cfg ext m).call f args []=some (.ret v,[])):Ev f args v:=zdu ((zgQ zh6 m).call _ _ _ _ h)
def exS:V:= .vec .plain (some 4) [.agg [.str ⟨#[110,97,116]⟩, .int 0, .int 0, .vec .plain (some 3) []], .agg [.str ⟨#[122]⟩, .int 2, .int 0, .vec .plain (some 3) []], .agg [.str ⟨#[115]⟩, .int 1, .int 0, .vec .plain (some 3) [.agg [.int 2, .int 0, .vec .plain (some 3) []], .agg [.int 2, .int 0, .vec .plain (some 3) []]]]]
def exZ:V:= .agg [.vec .plain (some 5) [], .vec .plain (some 3) [], .int 5, .int 1, .vec .plain (some 3) [], .vec .plain (some 6) [], .int 5, .int 1, .vec .plain (some 3) []]
def exN(k h:Int)(l:List V):V:= .agg [.vec .plain (some 5) [.agg [.vec .plain (some 3) [], .int 2, .int 0, .vec .plain (some 3) [], .bool false]], .vec .plain (some 3) [], .int 5, .int 2, .vec .plain (some 3) [.agg [.int 6, .int 0, .vec .plain (some 3) []]], .vec .plain (some 6) [.agg [.int 0, .vec .plain (some 3) [], .vec .plain (some 3) [], .int 6, .int 0, .vec .plain (some 3) []]], .int k, .int h, .vec .plain (some 3) l]
def zsg:V:=exN 5 2 [.agg [.int 5, .int 2, .vec .plain (some 3) [.agg [.int 6, .int 1, .vec .plain (some 3) []]]]]
def exF:V:= .agg [.str ⟨#[100,111,117,98,108,101]⟩, .vec .plain (some 3) [], .vec .plain (some 5) [], .vec .plain (some 3) [], .int 2, .int 0, .vec .plain (some 3) [], .vec .plain (some 3) [], .int 2, .int 0, .vec .plain (some 3) [], .bool true, .vec .plain (some 9) [exZ,zsg]]
theorem zsh:Ev 37 [] exS:=Ev.of_run (m:=20) (by kernel_rfl)
theorem zpq:Ev 36 [] exF:=Ev.of_run (m:=20) (by kernel_rfl)
theorem zrt:Ev 13 [exS,exF] (.int 0):=Ev.of_run (m:=40) (by kernel_rfl)
theorem zsZ:Ev 15 [exS, .vec .plain (some 13) [exF], .int 0,exZ] (.int 0):=Ev.of_run (m:=40) (by kernel_rfl)
theorem zta:Ev 15 [exS, .vec .plain (some 13) [exF], .int 0,exN 6 2 []] (.int 2):=Ev.of_run (m:=40) (by kernel_rfl)
theorem ztb:Ev 15 [exS, .vec .plain (some 13) [exF], .int 0,zsg] (.int 0):=Ev.of_run (m:=40) (by kernel_rfl)
end Go.Proofs.CL
namespace Go.Proofs.CL
open Go Go.AM
set_option maxRecDepth 20000
theorem zdf(O:Oracle)(l0:(List V))(l1:(List V))(s2:ByteArray)(l3:(List V))(l4:(List V))(l5:(List V))(n6:Int)(n7:Int)(l8:(List V))(l9:(List V))(n10:Int)(n11:Int)(l12:(List V))(b13:Bool)(l14:(List V))(s15:ByteArray)(l16:(List V))(l17:(List V))(l18:(List V))(n19:Int)(n20:Int)(l21:(List V))(l22:(List V))(n23:Int)(n24:Int)(l25:(List V))(b26:Bool)(l27:(List V))(n28:Int)(l29:(List V))(l30:(List V))(n31:Int)(n32:Int)(l33:(List V)):Zf Tryz.prog cfg O 6 [.vec .plain (some 4) l0, .vec .plain (some 5) l1, .agg [.str s2, .vec .plain (some 3) l3, .vec .plain (some 5) l4, .vec .plain (some 3) l5, .int n6, .int n7, .vec .plain (some 3) l8, .vec .plain (some 3) l9, .int n10, .int n11, .vec .plain (some 3) l12, .bool b13, .vec .plain (some 9) l14], .agg [.str s15, .vec .plain (some 3) l16, .vec .plain (some 5) l17, .vec .plain (some 3) l18, .int n19, .int n20, .vec .plain (some 3) l21, .vec .plain (some 3) l22, .int n23, .int n24, .vec .plain (some 3) l25, .bool b26, .vec .plain (some 9) l27], .agg [.int n28, .vec .plain (some 3) l29, .vec .plain (some 3) l30, .int n31, .int n32, .vec .plain (some 3) l33]] []=
 Za (Zj O 9 []) fun r1=>Zi r1 fun b2=>Za (Zj O 10 [V.vec .plain (some 4) l0,V.vec .plain (some 5) l1,V.vec .plain (some 3) []]) fun r3=>
 Zi r3 fun b4=>Za (Zj O 17 [V.agg [V.str s2,V.vec .plain (some 3) l3,V.vec .plain (some 5) l4,V.vec .plain (some 3) l5,V.int n6,V.int n7,V.vec
 .plain (some 3) l8,V.vec .plain (some 3) l9,V.int n10,V.int n11,V.vec .plain (some 3) l12,V.bool b13,V.vec .plain (some 9) l14]]) fun r5=>Zi r5 fun b6=>Za (Zj
 O 17 [V.agg [V.str s15,V.vec .plain (some 3) l16,V.vec .plain (some 5) l17,V.vec .plain (some 3) l18,V.int n19,V.int n20,V.vec .plain (some 3) l21,V.vec
 .plain (some 3) l22,V.int n23,V.int n24,V.vec .plain (some 3) l25,V.bool b26,V.vec .plain (some 9) l27]]) fun r7=>Zi r7 fun b8=>Za (Zj O 18
 [V.agg [V.int n28,V.vec .plain (some 3) l29,V.vec .plain (some 3) l30,V.int n31,V.int n32,V.vec .plain (some 3) l33]]) fun r9=>Zi r9 fun b10=>bc (!b2) (some (Out.ret
 (V.bool b2),[])) (bc (!b4) (some (Out.ret (V.bool b2),[])) (bc (!b6) (some (Out.ret (V.bool b2),[])) (bc (!b8) (some (Out.ret (V.bool b2),[])) (bc (!b10) (some (Out.ret
 (V.bool b2),[])) (Za (Zj O 19 [V.vec .plain (some 4) l0,V.vec .plain (some 5) l1,V.agg [V.str s2,V.vec .plain (some 3) l3,V.vec .plain (some 5) l4,V.vec
 .plain (some 3) l5,V.int n6,V.int n7,V.vec .plain (some 3) l8,V.vec .plain (some 3) l9,V.int n10,V.int n11,V.vec .plain (some 3) l12,V.bool b13,V.vec .plain (some 9)
 l14],V.agg [V.str s15,V.vec .plain (some 3) l16,V.vec .plain (some 5) l17,V.vec .plain (some 3) l18,V.int n19,V.int n20,V.vec .plain (some 3) l21,V.vec .plain (some 3)
 l22,V.int n23,V.int n24,V.vec .plain (some 3) l25,V.bool b26,V.vec .plain (some 9) l27],V.agg [V.int n28,V.vec .plain (some 3) l29,V.vec .plain (some 3) l30,V.int n31,
 V.int n32,V.vec .plain (some 3) l33]]) fun r11=>ZQ r11 fun c12=>Zd c12 fun v13 c14=>Zc [CT.slice (some 3),CT.int,CT.int,CT.slice (some 3),CT.bool] v13 fun
 l15 n16 n17 l18 b19=>Zd c14 fun v20 c21=>Zp v20 fun n22=>Zq c21 (Za (Zj O 23 [V.vec .plain (some 3) l16,V.vec .plain (some 3) l3]) fun r23=>
 Zi r23 fun b24=>bc b24 (Za (Zj O 23 [V.vec .plain (some 3) l16,V.vec .plain (some 3) l29]) fun r25=>Zi r25 fun b26=>bc (decide ((↑l29.length:
 Int)>40)) (some (Out.ret (V.bool (n22==4)),[])) (bc (!b26) (bc (n22==9) (some (Out.ret (V.bool ((↑l15.length:Int)==0)),[])) (some (Out.ret (V.bool false),[]))) (bc
 (n22 !=0) (some (Out.ret (V.bool true),[])) (bc ((↑l15.length:Int)==IntKind.i64.wrap ((↑l29.length:Int)+(↑l22.length:Int))) (some (Out.ret (V.bool !b19),[])) (some
 (Out.ret (V.bool false),[])))))) (bc (decide ((↑l29.length:Int)>40)) (some (Out.ret (V.bool (n22==4)),[])) (bc (n22==9) (some (Out.ret (V.bool ((↑l15.length:Int)==
 0)),[])) (some (Out.ret (V.bool false),[])))))))))):=by kernel_rfl
theorem ziJ(O:Oracle):Zf Tryz.prog cfg O 9 [] []=
 Za (Zj O 36 []) fun r1=>Zc [CT.str,CT.slice (some 3),CT.slice (some 5),CT.slice (some 3),CT.int,CT.int,CT.slice (some 3),CT.slice (some 3),
 CT.int,CT.int,CT.slice (some 3),CT.bool,CT.slice (some 9)] r1 fun s2 l3 l4 l5 n6 n7 l8 l9 n10 n11 l12 b13 l14=>gd (true&&decide (1<(↑l14.length:Int))) (Zc
 [CT.slice (some 5),CT.slice (some 3),CT.int,CT.int,CT.slice (some 3),CT.slice (some 6),CT.int,CT.int,CT.slice (some 3)] (ZZ l14 1) fun l15 l16 n17 n18 l19 l20 n21 n22
 l23=>Za (Zj O 37 []) fun r24=>Yw (some 4) r24 fun l25=>gd (true&&decide (0<(↑l14.length:Int))) (Zc [CT.slice (some 5),CT.slice (some 3),
 CT.int,CT.int,CT.slice (some 3),CT.slice (some 6),CT.int,CT.int,CT.slice (some 3)] (ZZ l14 0) fun l26 l27 n28 n29 l30 l31 n32 n33 l34=>Za (Zj O 15
 [V.vec .plain (some 4) l25,V.vec .plain (some 13) [V.agg [V.str s2,V.vec .plain (some 3) l3,V.vec .plain (some 5) l4,V.vec .plain (some 3) l5,V.int n6,V.int n7,V.vec .plain
 (some 3) l8,V.vec .plain (some 3) l9,V.int n10,V.int n11,V.vec .plain (some 3) l12,V.bool b13,V.vec .plain (some 9) l14]],V.int 0,V.agg [V.vec .plain (some 5) l26,V.vec
 .plain (some 3) l27,V.int n28,V.int n29,V.vec .plain (some 3) l30,V.vec .plain (some 6) l31,V.int n32,V.int n33,V.vec .plain (some 3) l34]]) fun r35=>Zp r35 fun n36=>
 Za (Zj O 37 []) fun r37=>Yw (some 4) r37 fun l38=>gd (true&&decide (1<(↑l14.length:Int))) (Zc [CT.slice (some 5),CT.slice (some 3),CT.int,
 CT.int,CT.slice (some 3),CT.slice (some 6),CT.int,CT.int,CT.slice (some 3)] (ZZ l14 1) fun l39 l40 n41 n42 l43 l44 n45 n46 l47=>Za (Zj O 15 [V.vec
 .plain (some 4) l38,V.vec .plain (some 13) [V.agg [V.str s2,V.vec .plain (some 3) l3,V.vec .plain (some 5) l4,V.vec .plain (some 3) l5,V.int n6,V.int n7,V.vec .plain (some
 3) l8,V.vec .plain (some 3) l9,V.int n10,V.int n11,V.vec .plain (some 3) l12,V.bool b13,V.vec .plain (some 9) l14]],V.int 0,V.agg [V.vec .plain (some 5) l39,V.vec .plain
 (some 3) l40,V.int n41,V.int n42,V.vec .plain (some 3) l43,V.vec .plain (some 6) l44,V.int n45,V.int n46,V.vec .plain (some 3) l47]]) fun r48=>Zp r48 fun n49=>Za
 (Zj O 37 []) fun r50=>Yw (some 4) r50 fun l51=>Za (Zj O 15 [V.vec .plain (some 4) l51,V.vec .plain (some 13) [V.agg [V.str s2,V.vec .plain
 (some 3) l3,V.vec .plain (some 5) l4,V.vec .plain (some 3) l5,V.int n6,V.int n7,V.vec .plain (some 3) l8,V.vec .plain (some 3) l9,V.int n10,V.int n11,V.vec .plain (some
 3) l12,V.bool b13,V.vec .plain (some 9) l14]],V.int 0,V.agg [V.vec .plain (some 5) l15,V.vec .plain (some 3) l16,V.int n17,V.int n18,V.vec .plain (some 3) l19,V.vec
 .plain (some 6) l20,V.int 6,V.int 2,V.vec .plain (some 3) []]]) fun r52=>Zp r52 fun n53=>Za (Zj O 37 []) fun r54=>Yw (some 4) r54 fun l55=>Za
 (Zj O 13 [V.vec .plain (some 4) l55,V.agg [V.str s2,V.vec .plain (some 3) l3,V.vec .plain (some 5) l4,V.vec .plain (some 3) l5,V.int n6,V.int n7,V.vec .plain
 (some 3) l8,V.vec .plain (some 3) l9,V.int n10,V.int n11,V.vec .plain (some 3) l12,V.bool b13,V.vec .plain (some 9) l14]]) fun r56=>Zp r56 fun n57=>bc (n57==0) (bc
 (n36==0) (bc (n49==0) (some (Out.ret (V.bool (n53==2)),[])) (some (Out.ret (V.bool false),[]))) (some (Out.ret (V.bool false),[]))) (some (Out.ret (V.bool false),[]))))):=by kernel_rfl
end Go.Proofs.CL
namespace Go.Proofs.CL
open Go Go.AM Go.Ama
set_option maxRecDepth 100000
theorem zsi{R:Type}(s:ByteArray)(a b c:List V)(i j:Int)(d e:List V)(k l:Int)(f:List V)(t:Bool)(g:List V)(K:ByteArray→List V→List V→List V→Int→Int→List V→List V→Int→Int→List V→Bool→List V→Option R):Zc (R:=R) [CT.str,CT.slice (some 3),CT.slice (some 5),CT.slice (some 3),CT.int,CT.int,CT.slice (some 3),CT.slice (some 3),CT.int,CT.int,CT.slice (some 3),CT.bool,CT.slice (some 9)]
  (.agg [.str s, .vec .plain (some 3) a, .vec .plain (some 5) b, .vec .plain (some 3) c, .int i, .int j, .vec .plain (some 3) d, .vec .plain (some 3) e, .int k, .int l, .vec .plain (some 3) f, .bool t, .vec .plain (some 9) g]) K=K s a b c i j d e k l f t g:=rfl
theorem ztc{R:Type}(a b:List V)(i j:Int)(c d:List V)(k l:Int)(e:List V)(K:List V→List V→Int→Int→List V→List V→Int→Int→List V→Option R):Zc (R:=R) [CT.slice (some 5),CT.slice (some 3),CT.int,CT.int,CT.slice (some 3),CT.slice (some 6),CT.int,CT.int,CT.slice (some 3)]
  (.agg [.vec .plain (some 5) a, .vec .plain (some 3) b, .int i, .int j, .vec .plain (some 3) c, .vec .plain (some 6) d, .int k, .int l, .vec .plain (some 3) e]) K=K a b i j c d k l e:=rfl
theorem zru(a b:V)(l:List V):ZZ (a::b::l) 1=b:=rfl
theorem zq0(a:V)(l:List V):ZZ (a::l) 0=a:=rfl
theorem zrv:Ev 9 [] (.bool true):=by
 have hn:=zsh.p (h2:=by kernel_rfl)
 have hd:=zpq.p (h2:=by kernel_rfl)
 have hh:=zrt.p (h1:=by kernel_rfl)
 have h0:=zsZ.p (h1:=by kernel_rfl)
 have h1:=ztb.p (h1:=by kernel_rfl)
 have h2:=zta.p (h1:=by kernel_rfl)
 simp only[exS,exF,exZ,zsg,exN]at hn hd hh h0 h1 h2
 unfold Ev
 rw[C,ziJ,hd]
 rw[Zl,zsi]
 simp only[List.length_cons,List.length_nil,zru,zq0,ztc,hn,hh,h0,h1,h2,Zl,QQ,Yx]
 simp
end Go.Proofs.CL
namespace Go.Proofs.CL
open Go Go.AM Go.Ama
set_option maxRecDepth 20000
theorem zk0{n:Nat}{cs:List V}(h:WT Tryz.prog n 3 cs): ∃z:Int,cs=[.int z]∧I64 z:=by
 cases n with
 |zero=>exact h.elim
 |succ n=>
  simp only[WT,Tryz.underlying3]at h
  obtain⟨z,h1,h2⟩:=h
  refine⟨z,h1, ?_⟩
  simpa[Lit.wf,IntKind.min,IntKind.max,IntKind.signed,IntKind.bits,I64]using h2
theorem zic{n:Nat}{cs:List V}(h:WT Tryz.prog n 9 cs): ∃s:Bytes,cs=[.str (ba s)]:=by
 cases n with
 |zero=>exact h.elim
 |succ n=>
  simp only[WT,Tryz.underlying9]at h
  obtain⟨s,h1,h2⟩:=h
  exact⟨s.data.toList,by rw[zqW];exact h1⟩
theorem zmx:Tryz.prog.cellsOf 3=1:=by kernel_rfl
theorem zg9:Tryz.prog.cellsOf 9=1:=by kernel_rfl
theorem one_cell{v:V}(h:Shaped none v):AM.cellsOf v=[v]:=by cases v<;>first|rfl|exact h.elim
theorem ztd{f:Nat}{args:List V}(h:Ev f args (.bool true)): ∃m st,(Xr Tryz.prog cfg ext m).call f args []=some (.ret (.bool true),st):=by
 obtain⟨m,hm⟩:=zqP h
 exact⟨m,[],hm⟩
end Go.Proofs.CL
namespace Go.Proofs.CL
open Go Go.AM Go.Ama
set_option maxRecDepth 20000
theorem zsj:shOf Tryz.prog 27=some 3:=by kernel_rfl
theorem za7:Tryz.prog.cellsOf 25=1:=by kernel_rfl
theorem zak:Tryz.prog.cellsOf 27=3:=by kernel_rfl
theorem zsk:shOf Tryz.prog 116=some 4:=by kernel_rfl
theorem zrw:shOf Tryz.prog 22=none:=by kernel_rfl
theorem zpr:Tryz.prog.cellsOf 116=4:=by kernel_rfl
theorem zte{l:List V}(h:l.length=3): ∃x y z,l=[x,y,z]:=by
 match l,h with
 |[x,y,z],_=>exact⟨x,y,z,rfl⟩
theorem ztf{l:List V}(h:l.length=4): ∃x y z w,l=[x,y,z,w]:=by
 match l,h with
 |[x,y,z,w],_=>exact⟨x,y,z,w,rfl⟩
theorem YH: ∀n:Nat,(∀cs,WT Tryz.prog n 27 cs→ ∃t,V.agg cs=enc t)∧(∀cs,WT Tryz.prog n 25 cs→ ∃ts,cs=[.vec .plain (some 3) (Zg ts)]):=by
 intro n
 induction n with
 |zero=>exact⟨fun cs h=>h.elim,fun cs h=>h.elim⟩
 |succ n ih=>
  refine⟨fun cs h=> ?_,fun cs h=> ?_⟩
  ·simp only[WT,Tryz.underlying27]at h
   obtain⟨hl,hf⟩:=h
   rw[zak]at hl
   obtain⟨x,y,z,rfl⟩:=zte hl
   simp only[List.forall_mem_cons]at hf
   obtain⟨f1,f2,f3,_⟩:=hf
   simp only[zmx,za7,List.drop_zero,List.drop_succ_cons,List.take_succ_cons,List.take_zero]at f1 f2 f3
   obtain⟨k,hk,_⟩:=zk0 f1
   obtain⟨h,hh,_⟩:=zk0 f2
   obtain⟨ts,hts⟩:=ih.2 _ f3
   cases hk;cases hh;cases hts
   exact⟨.mk k h ts,rfl⟩
  ·simp only[WT,Tryz.underlying25]at h
   obtain⟨es,rfl,_,he⟩:=h
   rw[zsj]at he⊢
   have: ∀es:List V,(∀v∈es,Shaped (some 3) v∧WT Tryz.prog n 27 (AM.cellsOf v))→ ∃ts,es=Zg ts:=by
    intro es
    induction es with
    |nil=>intro _;exact⟨[],rfl⟩
    |cons v es ihe=>
     intro h
     obtain⟨h1,h2⟩:=h v (by simp)
     obtain⟨ts,hts⟩:=ihe fun u hu=>h u (by simp[hu])
     cases v with
     |agg cs=>
      obtain⟨t,ht⟩:=ih.1 cs h2
      exact⟨t::ts,by rw[QP,←ht,hts]⟩
     |_=>exact h1.elim
   obtain⟨ts,rfl⟩:=this es he
   exact⟨ts,rfl⟩
theorem zps: ∀n cs,WT Tryz.prog n 116 cs→ ∃d,V.agg cs=zcR d:=by
 intro n cs h
 cases n with
 |zero=>exact h.elim
 |succ n=>
  simp only[WT,Tryz.underlying116]at h
  obtain⟨hl,hf⟩:=h
  rw[zpr]at hl
  obtain⟨x,y,z,w,rfl⟩:=ztf hl
  simp only[List.forall_mem_cons]at hf
  obtain⟨f1,f2,_⟩:=hf
  simp only[zg9,zak,List.drop_zero,List.drop_succ_cons,List.take_succ_cons,List.take_zero]at f1 f2
  obtain⟨s,hs⟩:=zic f1
  obtain⟨t,ht⟩:=(YH n).1 _ f2
  cases hs
  obtain⟨k,h,l⟩:=t
  simp only[enc,V.agg.injEq,List.cons.injEq,and_true]at ht
  obtain⟨rfl,rfl,rfl⟩:=ht
  exact⟨⟨s, .mk k h l⟩,rfl⟩
theorem zpt{v:V}(h:(∃n,WT Tryz.prog n 22 (AM.cellsOf v))∧Shaped (shOf Tryz.prog 22) v): ∃l,v= .vec .plain (some 4) (Y7 l):=by
 obtain⟨⟨n,h1⟩,h2⟩:=h
 rw[zrw]at h2
 rw[one_cell h2]at h1
 cases n with
 |zero=>exact h1.elim
 |succ n=>
  simp only[WT,Tryz.underlying22]at h1
  obtain⟨es,he0,_,he⟩:=h1
  rw[zsk]at he he0
  have: ∀es:List V,(∀v∈es,Shaped (some 4) v∧WT Tryz.prog n 116 (AM.cellsOf v))→ ∃l,es=Y7 l:=by
   intro es
   induction es with
   |nil=>intro _;exact⟨[],rfl⟩
   |cons v es ihe=>
    intro h
    obtain⟨h1,h2⟩:=h v (by simp)
    obtain⟨l,hl⟩:=ihe fun u hu=>h u (by simp[hu])
    cases v with
    |agg cs=>
     obtain⟨d,hd⟩:=zps n cs h2
     exact⟨d::l,by rw[hl,hd];rfl⟩
    |_=>exact h1.elim
  obtain⟨l,rfl⟩:=this es he
  simp only[List.cons.injEq,and_true]at he0
  exact⟨l,he0⟩
end Go.Proofs.CL
