import Derived.Test.YtgoppocfbhbamaaGreatDoorGa
import Derived.KernelRfl
import Derived.Test.YtgoppocfbhbamaaGreatDoorGb
/- The program's functions, each an equation of the abstract machine checked by the kernel, and what they come to as_ plain Lean. -/
set_option linter.unusedVariables false
set_option linter.unusedSimpArgs false
set_option linter.unusedSectionVars false
namespace Go.Proofs.SZ
open Go Go.AM
set_option maxRecDepth 20000
theorem zlN(O:Oracle)(l0:(List V))(l1:(List V))(l2:(List V))(n3:Int)(n4:Int)(l5:(List V))(n6:Int)(n7:Int)(l8:(List V)):Zf Tryz.prog cfg O 9 [.vec .plain (some 4) l0, .vec .plain (some 5) l1, .vec .plain (some 3) l2, .agg [.int n3, .int n4, .vec .plain (some 3) l5], .agg [.int n6, .int n7, .vec .plain (some 3) l8]] []=
 Za (Zq O 21 [V.agg [V.vec .plain (some 4) l0,V.vec .plain (some 5) l1,V.vec .plain (some 3) l2],V.vec .plain (some 3) [V.agg [V.int n3,V.int n4,V.vec
 .plain (some 3) l5],V.agg [V.int n6,V.int n7,V.vec .plain (some 3) l8]]]) fun r1=>Zn r1 fun b2=>bc (!b2) (some (Out.ret (V.int 1),[])) (Za (Zq O
 22 [V.agg [V.vec .plain (some 4) l0,V.vec .plain (some 5) l1,V.vec .plain (some 3) l2],V.agg [V.int n3,V.int n4,V.vec .plain (some 3) l5],V.agg [V.int n6,
 V.int n7,V.vec .plain (some 3) l8]]) fun r3=>Zt r3 fun n4=>some (Out.ret (V.int n4),[])):=by kernel_rfl
theorem zfY(O:Oracle)(l0:(List V))(l1:(List V))(l2:(List V))(l3:(List V)):Zf Tryz.prog cfg O 21 [.agg [.vec .plain (some 4) l0, .vec .plain (some 5) l1, .vec .plain (some 3) l2], .vec .plain (some 3) l3] []=
 bc (decide ((↑l2.length:Int)>1000)) (some (Out.ret (V.bool false),[])) (Za (O.call 38 [V.vec .plain (some 3) l3,V.fn
 37 [] []] []) fun r1=>Zk r1.fst (fun v2=>Zn v2 fun b3=>bc b3 (some (Out.ret (V.bool false),[])) (Za (O.call
 38 [V.vec .plain (some 3) l2,V.fn 37 [] []] r1.snd) fun r4=>Zk r4.fst (fun v5=>Zn v5 fun b6=>bc b6 (some
 (Out.ret (V.bool false),[])) (Za (O.call 40 [V.vec .plain (some 4) l0,V.fn 41 [] [V.cptr none (V.fn 37
 [] [])]] r4.snd) fun r7=>Zk r7.fst (fun v8=>Zn v8 fun b9=>bc (!b9) (Za (O.call 42 [V.vec .plain (some 5) l1,V.fn
 39 [] [V.cptr none (V.fn 37 [] [])]] r7.snd) fun r10=>Zk r10.fst (fun v11=>Zn v11 fun b12=>some (Out.ret (V.bool !b12),[])) fun p13
 =>none) (some (Out.ret (V.bool false),[]))) fun p14=>none)) fun p15=>none)) fun p16=>none):=by kernel_rfl
theorem zfj(O:Oracle)(l0:(List V))(l1:(List V))(l2:(List V))(n3:Int)(n4:Int)(l5:(List V))(n6:Int)(n7:Int)(l8:(List V)):Zf Tryz.prog cfg O 22 [.agg [.vec .plain (some 4) l0, .vec .plain (some 5) l1, .vec .plain (some 3) l2], .agg [.int n3, .int n4, .vec .plain (some 3) l5], .agg [.int n6, .int n7, .vec .plain (some 3) l8]] []=
 bc (n3==3) (bc (n6==1) (gd (true&&decide (0<(↑l8.length:Int))) (Zc [CT.int,CT.int,CT.slice (some 3)] (ZY l8 0) fun n1 n2 l3=>Za (Zq O
 43 [V.agg [V.vec .plain (some 4) l0,V.vec .plain (some 5) l1,V.vec .plain (some 3) l2],V.agg [V.int n1,V.int n2,V.vec .plain (some 3) l3]]) fun r4=>Zc
 [CT.slice (some 4),CT.slice (some 5),CT.slice (some 3)] r4 fun l5_1 l6 l7=>gd (true&&decide (0<(↑l5.length:Int))) (Zc [CT.int,CT.int,CT.slice (some 3)] (ZY l5
 0) fun n8 n9 l10=>gd (true&&decide (1<(↑l8.length:Int))) (Zc [CT.int,CT.int,CT.slice (some 3)] (ZY l8 1) fun n11 n12 l13=>Za (Zq O 22
 [V.agg [V.vec .plain (some 4) l5_1,V.vec .plain (some 5) l6,V.vec .plain (some 3) l7],V.agg [V.int n8,V.int n9,V.vec .plain (some 3) l10],V.agg [V.int n11,V.int n12,V.vec
 .plain (some 3) l13]]) fun r14=>Zt r14 fun n15=>some (Out.ret (V.int n15),[]))))) (bc (n3==3) (some (Out.ret (V.int 3),[])) (bc (n6 !=2) (some (Out.ret (V.int 3),[]))
 (gd (decide (0≤n3)&&decide (n3<7)) (gd (decide (n3.toNat*1+1≤7)&&true) (zbr (AM.partOf [V.fn 44 [] [],V.fn 44 [] [],V.fn
 44 [] [],V.fn 44 [] [],V.fn 45 [] [],V.fn 46 [] [],V.fn 47 [] []] (n3.toNat*1) none)
 (fun g16 a17 b18=>bc (cfg.pure g16) (Za (Zq O g16 (a17++[V.agg [V.vec .plain (some 4) l0,V.vec .plain (some 5) l1,V.vec .plain (some 3) l2],V.agg [V.int n3,V.int n4,
 V.vec .plain (some 3) l5]]++b18)) fun r19=>Z4 r19 fun c20=>Ze c20 fun v21 c22=>Zc [CT.int,CT.int,CT.slice (some 3)] v21 fun n23 n24 l25=>Ze c22 fun
 v26 c27=>Zt v26 fun n28=>Zj c27 (bc (n28==0) (Za (Zq O 13 [V.agg [V.int n23,V.int n24,V.vec .plain (some 3) l25],V.agg [V.int n6,V.int n7,V.vec
 .plain (some 3) l8]]) fun r29=>Zn r29 fun b30=>bc (!b30) (some (Out.ret (V.int 3),[])) (some (Out.ret (V.int n28),[]))) (some (Out.ret (V.int n28),[])))) (Za (O.call
 g16 (a17++[V.agg [V.vec .plain (some 4) l0,V.vec .plain (some 5) l1,V.vec .plain (some 3) l2],V.agg [V.int n3,V.int n4,V.vec .plain (some 3) l5]]++b18) []) fun r31=>
 Zk r31.fst (fun v32=>Z4 v32 fun c33=>Ze c33 fun v34 c35=>Zc [CT.int,CT.int,CT.slice (some 3)] v34 fun n36 n37 l38=>Ze c35 fun v39 c40=>Zt v39
 fun n41=>Zj c40 (bc (n41==0) (Za (Zq O 13 [V.agg [V.int n36,V.int n37,V.vec .plain (some 3) l38],V.agg [V.int n6,V.int n7,V.vec .plain (some 3) l8]])
 fun r42=>Zn r42 fun b43=>bc (!b43) (some (Out.ret (V.int 3),[])) (some (Out.ret (V.int n41),[]))) (some (Out.ret (V.int n41),[])))) fun p44=>none)) fun l45=>
 none)))))) (bc (n3==3) (some (Out.ret (V.int 3),[])) (bc (n6 !=2) (some (Out.ret (V.int 3),[])) (gd (decide (0≤n3)&&decide (n3<7)) (gd (decide (n3.toNat*1+1≤7)&&
 true) (zbr (AM.partOf [V.fn 44 [] [],V.fn 44 [] [],V.fn 44 [] [],V.fn 44 [] [],V.fn 45 []
 [],V.fn 46 [] [],V.fn 47 [] []] (n3.toNat*1) none) (fun g46 a47 b48=>bc (cfg.pure g46) (Za (Zq O g46 (a47++[V.agg [V.vec .plain
 (some 4) l0,V.vec .plain (some 5) l1,V.vec .plain (some 3) l2],V.agg [V.int n3,V.int n4,V.vec .plain (some 3) l5]]++b48)) fun r49=>Z4 r49 fun c50=>Ze c50 fun v51
 c52=>Zc [CT.int,CT.int,CT.slice (some 3)] v51 fun n53 n54 l55=>Ze c52 fun v56 c57=>Zt v56 fun n58=>Zj c57 (bc (n58==0) (Za (Zq O 13
 [V.agg [V.int n53,V.int n54,V.vec .plain (some 3) l55],V.agg [V.int n6,V.int n7,V.vec .plain (some 3) l8]]) fun r59=>Zn r59 fun b60=>bc (!b60) (some (Out.ret (V.int
 3),[])) (some (Out.ret (V.int n58),[]))) (some (Out.ret (V.int n58),[])))) (Za (O.call g46 (a47++[V.agg [V.vec .plain (some 4) l0,V.vec .plain (some 5) l1,V.vec .plain
 (some 3) l2],V.agg [V.int n3,V.int n4,V.vec .plain (some 3) l5]]++b48) []) fun r61=>Zk r61.fst (fun v62=>Z4 v62 fun c63=>Ze c63 fun v64 c65=>Zc
 [CT.int,CT.int,CT.slice (some 3)] v64 fun n66 n67 l68=>Ze c65 fun v69 c70=>Zt v69 fun n71=>Zj c70 (bc (n71==0) (Za (Zq O 13 [V.agg [V.int n66,
 V.int n67,V.vec .plain (some 3) l68],V.agg [V.int n6,V.int n7,V.vec .plain (some 3) l8]]) fun r72=>Zn r72 fun b73=>bc (!b73) (some (Out.ret (V.int 3),[])) (some
 (Out.ret (V.int n71),[]))) (some (Out.ret (V.int n71),[])))) fun p74=>none)) fun l75=>none))))):=by kernel_rfl
theorem zel(O:Oracle)(n0:Int)(n1:Int)(l2:(List V)):Zf Tryz.prog cfg O 37 [.agg [.int n0, .int n1, .vec .plain (some 3) l2]] []=
 Za (Zq O 24 [V.agg [V.int n0,V.int n1,V.vec .plain (some 3) l2]]) fun r1=>Zn r1 fun b2=>some (Out.ret (V.bool !b2),[]):=by kernel_rfl
theorem zem(O:Oracle)(l0:(List V))(n1:Int)(n2:Int)(l3:(List V))(b4:Bool)(st:St):Zf Tryz.prog cfg O 39 [.agg [.vec .plain (some 3) l0, .int n1, .int n2, .vec .plain (some 3) l3, .bool b4], .cptr none (.fn 37 [] [])] st=
 Za (Zq O 37 [V.agg [V.int n1,V.int n2,V.vec .plain (some 3) l3]]) fun r1=>Zn r1 fun b2=>bc b2 (YH (List.length st) (V.bool true) st) (Za
 (O.call 38 [V.vec .plain (some 3) l0,V.fn 37 [] []] st) fun r3=>Zk r3.fst (fun v4=>Zn v4 fun b5=>YH
 (List.length st) (V.bool b5) r3.snd) fun p6=>none):=by kernel_rfl
theorem zen(O:Oracle)(s0:ByteArray)(n1:Int)(n2:Int)(l3:(List V))(st:St):Zf Tryz.prog cfg O 41 [.agg [.str s0, .int n1, .int n2, .vec .plain (some 3) l3], .cptr none (.fn 37 [] [])] st=
 Za (Zq O 37 [V.agg [V.int n1,V.int n2,V.vec .plain (some 3) l3]]) fun r1=>Zn r1 fun b2=>YH (List.length st) (V.bool b2) st:=by kernel_rfl
theorem zcr(O:Oracle)(l0:(List V))(l1:(List V))(l2:(List V))(n3:Int)(b4:Bool):Zf Tryz.prog cfg O 79 [.agg [.vec .plain (some 4) l0, .vec .plain (some 5) l1, .vec .plain (some 3) l2], .int n3, .bool b4] []=
 bc (decide (n3≥(↑l0.length:Int))) (some (Out.ret (V.tup [V.agg [V.int 0,V.int 0,V.vec .plain (some 3) []],V.int 2]),[])) (gd (decide (0≤n3)&&decide (n3<(↑l0.length:
 Int))) (YE (ZY l0 n3) fun c1=>gd (decide (4≤c1.length)) (onCells [CT.int,CT.int,CT.slice (some 3)] (List.take 3 (List.drop 1 c1)) fun n2 n3_1 l4=>Za (Zq O
 32 [V.agg [V.int n2,V.int n3_1,V.vec .plain (some 3) l4]]) fun r5=>Zn r5 fun b6=>bc (!b6==b4) (some (Out.ret (V.tup [V.agg [V.int 0,V.int 0,V.vec .plain
 (some 3) []],V.int 2]),[])) (gd (decide (0≤n3)&&decide (n3<(↑l0.length:Int))) (YE (ZY l0 n3) fun c7=>gd (decide (4≤c7.length)) (onCells [CT.int,CT.int,
 CT.slice (some 3)] (List.take 3 (List.drop 1 c7)) fun n8 n9 l10=>gd (below 0 (V.tup [V.agg [V.int n8,V.int n9,V.vec .plain (some 3) l10],V.int 0])&&true) (some (Out.ret
 (V.tup [V.agg [V.int n8,V.int n9,V.vec .plain (some 3) l10],V.int 0]),[])))))))):=by kernel_rfl
theorem zeo(O:Oracle)(l0:(List V))(l1:(List V))(l2:(List V))(n3:Int)(n4:Int)(l5:(List V))(l6:(List V)):Zf Tryz.prog cfg O 77 [.agg [.vec .plain (some 4) l0, .vec .plain (some 5) l1, .vec .plain (some 3) l2], .agg [.int n3, .int n4, .vec .plain (some 3) l5], .vec .plain (some 3) l6] []=
 Za (O.loop 77 2 [V.loc true (some 3) (V.agg [V.int 0,V.int 0,V.vec Mode.full (some 3) []]),V.int 0,V.loc false (some 3) (V.agg [V.int n3,V.int n4,V.vec
 .plain (some 3) l5]),V.loc false (some 3) (V.agg [V.vec .plain (some 4) l0,V.vec .plain (some 5) l1,V.vec .plain (some 3) l2]),V.vec .plain (some 3) l6,V.int (↑l6.length:
 Int)] []) fun r1=>Xv r1.fst none (Ze r1.snd.fst fun v2 c3=>YF (some 3) v2 fun d4 v5=>Ze c3 fun v6 c7=>Zt v6 fun n8=>Zj c7 (gd (below 0 (V.tup [Zo
 v5,V.int n8])&&Zu 0 []) (some (Out.ret (V.tup [Zo v5,V.int n8]),[])))) (fun i9=>bc (i9.beq 0) (Ze r1.snd.fst fun v10 c11=>YF (some 3) v10 fun d12 v13=>
 Ze c11 fun v14 c15=>YF (some 3) v14 fun d16 v17=>Zc [CT.int,CT.int,CT.slice (some 3)] (bif d16 then Zo v17 else v17) fun n18 n19 l20=>Zj c15 (gd (below
 0 (V.tup [V.agg [V.int n18,V.int n19,V.vec .plain (some 3) l20],V.int 0])&&Zu 0 []) (some (Out.ret (V.tup [V.agg [V.int n18,V.int n19,V.vec .plain (some 3) l20],V.int
 0]),[])))) none) fun v21=>none:=by kernel_rfl
theorem Jw(O:Oracle)(v0:V)(n1:Int)(n2:Int)(n3:Int)(l4:(List V))(l5:(List V))(l6:(List V))(l7:(List V))(l8:(List V))(n9:Int):ZC Tryz.prog cfg O 77 2 [.loc true (some 3) v0, .int n1, .loc false (some 3) (.agg [.int n2, .int n3, .vec .plain (some 3) l4]), .loc false (some 3) (.agg [.vec .plain (some 4) l5, .vec .plain (some 5) l6, .vec .plain (some 3) l7]), .vec .plain (some 3) l8, .int n9] []=
 bc (decide (n1<n9)) (gd (decide (0≤n1)&&decide (n1<(↑l8.length:Int))) (Zc [CT.int,CT.int,CT.slice (some 3)] (ZY l8 n1) fun n1_1 n2_1 l3=>bc (n2 !=1) (some
 (Ex.ret,[V.loc false (some 3) (V.agg [V.int 0,V.int 0,V.vec .plain (some 3) []]),V.int 3],[])) (gd (true&&decide (0<(↑l4.length:Int))) (Zc [CT.int,CT.int,
 CT.slice (some 3)] (ZY l4 0) fun n4 n5 l6_1=>Za (Zq O 22 [V.agg [V.vec .plain (some 4) l5,V.vec .plain (some 5) l6,V.vec .plain (some 3) l7],V.agg
 [V.int n1_1,V.int n2_1,V.vec .plain (some 3) l3],V.agg [V.int n4,V.int n5,V.vec .plain (some 3) l6_1]]) fun r7=>Zt r7 fun n8=>bc (n8 !=0) (some (Ex.ret,[V.loc false
 (some 3) (V.agg [V.int 0,V.int 0,V.vec .plain (some 3) []]),V.int n8],[])) (gd (true&&decide (1<(↑l4.length:Int))) (Zc [CT.int,CT.int,CT.slice (some 3)] (ZY l4
 1) fun n9_1 n10 l11=>Za (Zq O 80 [V.agg [V.int n9_1,V.int n10,V.vec .plain (some 3) l11],V.agg [V.vec .plain (some 3) [V.agg [V.int n1_1,V.int n2_1,V.vec
 .plain (some 3) l3]],V.int 0]]) fun r12=>Z4 r12 fun c13=>Ze c13 fun v14 c15=>Zc [CT.int,CT.int,CT.slice (some 3)] v14 fun n16 n17 l18=>Ze c15 fun v19
 c20=>Zt v19 fun n21=>Zj c20 (bc (n21 !=0) (some (Ex.ret,[V.loc false (some 3) (V.agg [V.int 0,V.int 0,V.vec .plain (some 3) []]),V.int n21],[])) (O.2
 77 2 [V.loc true (some 3) v0,V.int (IntKind.i64.wrap (n1+1)),V.loc false (some 3) (V.agg [V.int n16,V.int n17,V.vec .plain (some 3) l18]),V.loc false (some
 3) (V.agg [V.vec .plain (some 4) l5,V.vec .plain (some 5) l6,V.vec .plain (some 3) l7]),V.vec .plain (some 3) l8,V.int n9] [])))))))) (some (Ex.exit 0,[V.loc true (some 3)
 v0,V.loc false (some 3) (V.agg [V.int n2,V.int n3,V.vec .plain (some 3) l4])],[])):=by kernel_rfl
theorem zfk(O:Oracle)(l0:(List V))(l1:(List V))(l2:(List V))(n3:Int)(n4:Int)(l5:(List V)):Zf Tryz.prog cfg O 43 [.agg [.vec .plain (some 4) l0, .vec .plain (some 5) l1, .vec .plain (some 3) l2], .agg [.int n3, .int n4, .vec .plain (some 3) l5]] []=
 gd (true&&decide (0≤(↑l2.length:Int))&&decide ((↑l2.length:Int)≤(↑l2.length:Int))) (gd (decide ((↑l2.length:Int)=(↑l2.length:Int))&&(some (V.int (↑l2.length
 :Int))).isSome) (gd (true&&roomFor Tryz.prog 25 ((List.drop 0 (List.take (↑l2.length:Int).toNat l2)).length+[V.agg [V.int n3,V.int n4,V.vec .plain (some 3)
 l5]].length)) (gd (below 0 (V.agg [V.vec .plain (some 4) l0,V.vec .plain (some 5) l1,V.vec .plain (some 3) (List.drop 0 (List.take (↑l2.length:Int).toNat l2)++[V.agg [V.int
 n3,V.int n4,V.vec .plain (some 3) l5]])])&&true) (some (Out.ret (V.agg [V.vec .plain (some 4) l0,V.vec .plain (some 5) l1,V.vec .plain (some 3) (List.drop 0 (List.take
 (↑l2.length:Int).toNat l2)++[V.agg [V.int n3,V.int n4,V.vec .plain (some 3) l5]])]),[]))))):=by kernel_rfl
theorem zfl(O:Oracle)(l0:(List V))(l1:(List V))(l2:(List V))(n3:Int)(n4:Int)(l5:(List V)):Zf Tryz.prog cfg O 44 [.agg [.vec .plain (some 4) l0, .vec .plain (some 5) l1, .vec .plain (some 3) l2], .agg [.int n3, .int n4, .vec .plain (some 3) l5]] []=
 some (Out.ret (V.tup [V.agg [V.int 0,V.int 0,V.vec .plain (some 3) []],V.int 3]),[]):=by kernel_rfl
theorem zcs(O:Oracle)(l0:(List V))(l1:(List V))(l2:(List V))(n3:Int)(n4:Int)(l5:(List V)):Zf Tryz.prog cfg O 45 [.agg [.vec .plain (some 4) l0, .vec .plain (some 5) l1, .vec .plain (some 3) l2], .agg [.int n3, .int n4, .vec .plain (some 3) l5]] []=
 bc (decide (n4≥(↑l2.length:Int))) (some (Out.ret (V.tup [V.agg [V.int 0,V.int 0,V.vec .plain (some 3) []],V.int 2]),[])) (gd (decide (0≤IntKind.i64.wrap
 (IntKind.i64.wrap ((↑l2.length:Int)-1)-n4))&&decide (IntKind.i64.wrap (IntKind.i64.wrap ((↑l2.length:Int)-1)-n4)<(↑l2.length:Int))) (Zc [CT.int,CT.int,
 CT.slice (some 3)] (ZY l2 (IntKind.i64.wrap (IntKind.i64.wrap ((↑l2.length:Int)-1)-n4))) fun n1 n2 l3=>Za (Zq O 78 [V.agg [V.int n1,V.int n2,V.vec .plain
 (some 3) l3],V.int (IntKind.i64.wrap (n4+1)),V.int 0]) fun r4=>Zc [CT.int,CT.int,CT.slice (some 3)] r4 fun n5 n6 l7=>Za (Zq O 77 [V.agg
 [V.vec .plain (some 4) l0,V.vec .plain (some 5) l1,V.vec .plain (some 3) l2],V.agg [V.int n5,V.int n6,V.vec .plain (some 3) l7],V.vec .plain (some 3) l5]) fun r8=>Z4 r8
 fun c9=>Ze c9 fun v10 c11=>Zc [CT.int,CT.int,CT.slice (some 3)] v10 fun n12 n13 l14=>Ze c11 fun v15 c16=>Zt v15 fun n17=>Zj c16 (gd (below 0 (V.tup
 [V.agg [V.int n12,V.int n13,V.vec .plain (some 3) l14],V.int n17])&&true) (some (Out.ret (V.tup [V.agg [V.int n12,V.int n13,V.vec .plain (some 3) l14],V.int n17]),[]))))):=by kernel_rfl
theorem zct(O:Oracle)(l0:(List V))(l1:(List V))(l2:(List V))(n3:Int)(n4:Int)(l5:(List V)):Zf Tryz.prog cfg O 46 [.agg [.vec .plain (some 4) l0, .vec .plain (some 5) l1, .vec .plain (some 3) l2], .agg [.int n3, .int n4, .vec .plain (some 3) l5]] []=
 Za (Zq O 79 [V.agg [V.vec .plain (some 4) l0,V.vec .plain (some 5) l1,V.vec .plain (some 3) l2],V.int n4,V.bool false]) fun r1=>Z4 r1 fun c2=>
 Ze c2 fun v3 c4=>Zc [CT.int,CT.int,CT.slice (some 3)] v3 fun n5 n6 l7=>Ze c4 fun v8 c9=>Zt v8 fun n10=>Zj c9 (bc (n10 !=0) (some (Out.ret (V.tup
 [V.agg [V.int 0,V.int 0,V.vec .plain (some 3) []],V.int n10]),[])) (Za (Zq O 77 [V.agg [V.vec .plain (some 4) l0,V.vec .plain (some 5) l1,V.vec .plain
 (some 3) l2],V.agg [V.int n5,V.int n6,V.vec .plain (some 3) l7],V.vec .plain (some 3) l5]) fun r11=>Z4 r11 fun c12=>Ze c12 fun v13 c14=>Zc [CT.int,CT.int,
 CT.slice (some 3)] v13 fun n15 n16 l17=>Ze c14 fun v18 c19=>Zt v18 fun n20=>Zj c19 (gd (below 0 (V.tup [V.agg [V.int n15,V.int n16,V.vec .plain (some 3) l17],
 V.int n20])&&true) (some (Out.ret (V.tup [V.agg [V.int n15,V.int n16,V.vec .plain (some 3) l17],V.int n20]),[]))))):=by kernel_rfl
theorem zfm(O:Oracle)(l0:(List V))(l1:(List V))(l2:(List V))(n3:Int)(n4:Int)(l5:(List V)):Zf Tryz.prog cfg O 47 [.agg [.vec .plain (some 4) l0, .vec .plain (some 5) l1, .vec .plain (some 3) l2], .agg [.int n3, .int n4, .vec .plain (some 3) l5]] []=
 bc (decide (n4≥(↑l1.length:Int))) (some (Out.ret (V.tup [V.agg [V.int 0,V.int 0,V.vec .plain (some 3) []],V.int 2]),[])) (gd (decide (0≤n4)&&decide (n4<(↑l1.length:
 Int))) (Zc [CT.slice (some 3),CT.int,CT.int,CT.slice (some 3),CT.bool] (ZY l1 n4) fun l1_1 n2 n3_1 l4 b5=>bc ((↑l1_1.length:Int) !=(↑l5.length:Int)) (some
 (Out.ret (V.tup [V.agg [V.int 0,V.int 0,V.vec .plain (some 3) []],V.int 3]),[])) (Za (O.loop 47 7 [V.loc true (some 3) (V.agg [V.int 0,V.int 0,V.vec
 Mode.full (some 3) []]),V.int 0,V.loc false (some 3) (V.agg [V.int n3,V.int n4,V.vec .plain (some 3) l5]),V.loc false (some 3) (V.agg [V.vec .plain (some 4) l0,V.vec .plain
 (some 5) l1,V.vec .plain (some 3) l2]),V.vec .plain (some 3) l1_1,V.loc false (some 5) (V.agg [V.vec .plain (some 3) l1_1,V.int n2,V.int n3_1,V.vec .plain (some 3) l4,
 V.bool b5]),V.int (↑l1_1.length:Int)] []) fun r6=>Xv r6.fst none (Ze r6.snd.fst fun v7 c8=>YF (some 3) v7 fun d9 v10=>Ze c8 fun v11 c12=>Zt v11 fun n13
 =>Zj c12 (gd (below 0 (V.tup [Zo v10,V.int n13])&&Zu 0 []) (some (Out.ret (V.tup [Zo v10,V.int n13]),[])))) (fun i14=>bc (i14.beq 0) (Ze r6.snd.fst fun
 v15 c16=>YF (some 3) v15 fun d17 v18=>Ze c16 fun v19 c20=>YF (some 3) v19 fun d21 v22=>Zc [CT.slice (some 4),CT.slice (some 5),CT.slice (some 3)] (bif
 d21 then Zo v22 else v22) fun l23 l24 l25=>Ze c20 fun v26 c27=>YF (some 3) v26 fun d28 v29=>Zc [CT.int,CT.int,CT.slice (some 3)] (bif d28 then Zo v29
 else v29) fun n30 n31 l32=>Ze c27 fun v33 c34=>YF (some 5) v33 fun d35 v36=>Zc [CT.slice (some 3),CT.int,CT.int,CT.slice (some 3),CT.bool] (bif d35 then
 Zo v36 else v36) fun l37 n38 n39 l40 b41=>Zj c34 (Za (Zq O 80 [V.agg [V.int n38,V.int n39,V.vec .plain (some 3) l40],V.agg [V.vec .plain (some 3) l32,
 V.int (↑l25.length:Int)]]) fun r42=>Z4 r42 fun c43=>Ze c43 fun v44 c45=>Zc [CT.int,CT.int,CT.slice (some 3)] v44 fun n46 n47 l48=>Ze c45 fun v49 c50
 =>Zt v49 fun n51=>Zj c50 (gd (below 0 (V.tup [V.agg [V.int n46,V.int n47,V.vec .plain (some 3) l48],V.int n51])&&Zu 0 []) (some (Out.ret (V.tup [V.agg [V.int
 n46,V.int n47,V.vec .plain (some 3) l48],V.int n51]),[]))))) none) fun v52=>none))):=by kernel_rfl
theorem J0(O:Oracle)(v0:V)(n1:Int)(n2:Int)(n3:Int)(l4:(List V))(l5:(List V))(l6:(List V))(l7:(List V))(l8:(List V))(l9:(List V))(n10:Int)(n11:Int)(l12:(List V))(b13:Bool)(n14:Int):ZC Tryz.prog cfg O 47 7 [.loc true (some 3) v0, .int n1, .loc false (some 3) (.agg [.int n2, .int n3, .vec .plain (some 3) l4]), .loc false (some 3) (.agg [.vec .plain (some 4) l5, .vec .plain (some 5) l6, .vec .plain (some 3) l7]), .vec .plain (some 3) l8, .loc false (some 5) (.agg [.vec .plain (some 3) l9, .int n10, .int n11, .vec .plain (some 3) l12, .bool b13]), .int n14] []=
 bc (decide (n1<n14)) (gd (decide (0≤n1)&&decide (n1<(↑l8.length:Int))) (Zc [CT.int,CT.int,CT.slice (some 3)] (ZY l8 n1) fun n1_1 n2_1 l3=>gd (true&&decide
 (0≤n1)&&decide (n1≤(↑l4.length:Int))) (Za (Zq O 80 [V.agg [V.int n1_1,V.int n2_1,V.vec .plain (some 3) l3],V.agg [V.vec .plain (some 3) (List.drop 0
 (List.take n1.toNat l4)),V.int (↑l7.length:Int)]]) fun r4=>Z4 r4 fun c5=>Ze c5 fun v6 c7=>Zc [CT.int,CT.int,CT.slice (some 3)] v6 fun n8 n9 l10=>Ze
 c7 fun v11 c12=>Zt v11 fun n13=>Zj c12 (bc (n13==0) (gd (decide (0≤n1)&&decide (n1<(↑l4.length:Int))) (Zc [CT.int,CT.int,CT.slice (some 3)] (ZY l4
 n1) fun n14_1 n15 l16=>Za (Zq O 22 [V.agg [V.vec .plain (some 4) l5,V.vec .plain (some 5) l6,V.vec .plain (some 3) l7],V.agg [V.int n14_1,V.int n15,
 V.vec .plain (some 3) l16],V.agg [V.int n8,V.int n9,V.vec .plain (some 3) l10]]) fun r17=>Zt r17 fun n18=>bc (n18 !=0) (some (Ex.ret,[V.loc false (some 3) (V.agg
 [V.int 0,V.int 0,V.vec .plain (some 3) []]),V.int n18],[])) (O.2 47 7 [V.loc true (some 3) v0,V.int (IntKind.i64.wrap (n1+1)),V.loc false (some 3) (V.agg
 [V.int n2,V.int n3,V.vec .plain (some 3) l4]),V.loc false (some 3) (V.agg [V.vec .plain (some 4) l5,V.vec .plain (some 5) l6,V.vec .plain (some 3) l7]),V.vec .plain (some 3)
 l8,V.loc false (some 5) (V.agg [V.vec .plain (some 3) l9,V.int n10,V.int n11,V.vec .plain (some 3) l12,V.bool b13]),V.int n14] []))) (bc (n13 !=0) (some (Ex.ret,[V.loc
 false (some 3) (V.agg [V.int 0,V.int 0,V.vec .plain (some 3) []]),V.int n13],[])) (O.2 47 7 [V.loc true (some 3) v0,V.int (IntKind.i64.wrap (n1+1)),V.loc
 false (some 3) (V.agg [V.int n2,V.int n3,V.vec .plain (some 3) l4]),V.loc false (some 3) (V.agg [V.vec .plain (some 4) l5,V.vec .plain (some 5) l6,V.vec .plain (some 3) l7]),
 V.vec .plain (some 3) l8,V.loc false (some 5) (V.agg [V.vec .plain (some 3) l9,V.int n10,V.int n11,V.vec .plain (some 3) l12,V.bool b13]),V.int n14] [])))))) (some (Ex.exit
 0,[V.loc true (some 3) v0,V.loc false (some 3) (V.agg [V.vec .plain (some 4) l5,V.vec .plain (some 5) l6,V.vec .plain (some 3) l7]),V.loc false (some 3) (V.agg [V.int n2,
 V.int n3,V.vec .plain (some 3) l4]),V.loc false (some 5) (V.agg [V.vec .plain (some 3) l9,V.int n10,V.int n11,V.vec .plain (some 3) l12,V.bool b13])],[])):=by kernel_rfl
end Go.Proofs.SZ
namespace Go.Ama
open Go Go.AM
def Xu(sig:List D)(i:Int)(kind:Bool):Option T:=
 if h:0≤i∧i<sig.length then(if decide ((split (sig[i.toNat]'(by omega)).t).2.k=0)=kind then some (sig[i.toNat]'(by omega)).t else none)else none
mutual
noncomputable def Q6(sig:List D)(ms:List M):T→List T→T→Int
 | .mk k h as_,ctx,a=>
  if k=3∧a.k=1 then zs6 sig ms as_ (ctx++[a.args.getD 0 T0]) (a.args.getD 1 T0)
  else if k=3∨a.k≠2 then 3
  else
   let r:T×Int:=
    if k=4 then(if(ctx.length:Int)≤h then(T0,2)else Yz sig ms as_ ctx (upP (ctx.getD (ctx.length-1-h.toNat) T0) (h+1) 0))
    else if k=5 then(match Xu sig h false with|none=>(T0,2)|some t=>Yz sig ms as_ ctx t)
    else if k=6 then
     (if(ms.length:Int)≤h then(T0,2)
      else
      let d:=ms.getD h.toNat ⟨[],T0,false⟩
      if d.ctx.length≠as_.length then(T0,3)
      else
       let e:=zeH sig ms as_ ctx [] d.ctx
       if e≠0 then(T0,e)else YT d.t as_ ctx.length)
    else(T0,3)
   if r.2≠0 then r.2 else if r.1.same a then 0 else 3
noncomputable def zs6(sig:List D)(ms:List M):List T→List T→T→Int
 |[],_,_=>3
 |b::_,ctx,a=>Q6 sig ms b ctx a
noncomputable def Yz(sig:List D)(ms:List M):List T→List T→T→T×Int
 |[],_,t=>(t,0)
 |a::as_,ctx,t=>
  if t.k≠1 then(T0,3)
  else
   let e:=Q6 sig ms a ctx (t.args.getD 0 T0)
   if e≠0 then(T0,e)
   else
    let u:=YT (t.args.getD 1 T0) [a] 0
    if u.2≠0 then(T0,u.2)else Yz sig ms as_ ctx u.1
noncomputable def zeH(sig:List D)(ms:List M):List T→List T→List T→List T→Int
 |[],_,_,_=>0
 |_::_,_,_,[]=>0
 |a::as_,ctx,done,d::ds=>
  let t:=YT d done ctx.length
  let e:=if t.2=0 then Q6 sig ms a ctx t.1 else t.2
  if e≠0 then e else zeH sig ms as_ ctx (done++[a]) ds
end
def znE(m:M):Bool:=may m.t&&m.ctx.all may
def znF(sig:List D)(ms:List M)(ctx l:List T):Bool:=
 decide (ctx.length≤1000)&&(l.all may&&(ctx.all may&&(sig.all (fun d=>may d.t)&&ms.all znE)))
noncomputable def JI(sig:List D)(ms:List M)(ctx:List T)(m a:T):Int:=if znF sig ms ctx [m,a]then Q6 sig ms m ctx a else 1
mutual
theorem zpO{B b:Int}(hB:0≤b∧b≤1048576∧B≤9223372036850000000)(f:Int): ∀(t:T) (ar:Int),okB B t→okB (B+b) (upT b f ar t)
 | .mk k hd ys,ar,⟨h1,h2,h3⟩=>by
  simp only[upT,okB]
  refine⟨?_, ?_,znG hB f ys ar h3⟩
  ·split
   ·unfold upV
    split
    ·rw[Z5 ⟨by omega,by omega⟩];omega
    ·omega
   ·omega
  ·intro hk e
   have:=congrArg List.length e
   rw[JF]at this
   exact h2 hk (List.length_eq_zero_iff.1 (by simpa using this))
theorem znG{B b:Int}(hB:0≤b∧b≤1048576∧B≤9223372036850000000)(f:Int): ∀(l:List T) (ar:Int) {bd:Bool},zc9 B l→zc9 (B+b) (ups b f ar bd l)
 |[],ar,bd,_=>trivial
 |a::l,ar,bd,⟨h1,h2⟩=>by simp only[ups,zc9];exact⟨zpO hB f a _ h1,znG hB f l ar h2⟩
end
theorem znH{B:Int}(hB:YC B){t:T}(h:okB B t){b f:Int}(hb:0≤b):okB (B+1048576) (upP t b f):=by
 obtain⟨q1,q2⟩:=hB
 unfold upP;split
 ·rename_i hc
  simp only[Bool.and_eq_true,decide_eq_true_eq]at hc
  exact Ye (by omega) _ (zpO (by omega) f t 0 h)
 ·exact Ye (by omega) t h
mutual
theorem znI(b f:Int)(hb:0≤b): ∀(t:T) (ar:Int),Y5 t=true→(∀B,okB B t→B≤9223372036850000000→b≤1048576→Y5 (upT b f ar t)=true)
 | .mk k h as_,ar,hn=>fun B hB h1 h2=>by
  simp only[Y5,Bool.and_eq_true]at hn
  obtain⟨⟨q1,q2⟩,q3,q4⟩:=hB
  simp only[upT,Y5,Bool.and_eq_true,JF]
  refine⟨?_,zk9 b f hb as_ ar hn.2 B q4 h1 h2⟩
  split
  ·rename_i hk
   subst hk
   have:0≤upV b f ar h:=by
    unfold upV
    split
    ·rw[Z5 ⟨by omega,by omega⟩];omega
    ·exact q1
   simp[zaL,this]
  ·exact hn.1
theorem zk9(b f:Int)(hb:0≤b): ∀(l:List T) (ar:Int) {bd:Bool},Y6 l=true→(∀B,zc9 B l→B≤9223372036850000000→b≤1048576→Y6 (ups b f ar bd l)=true)
 |[],_,_,_=>fun _ _ _ _=>rfl
 |a::l,ar,bd,hn=>fun B hB h1 h2=>by
  simp only[Y6,Bool.and_eq_true]at hn
  simp only[ups,Y6,Bool.and_eq_true]
  exact⟨znI b f hb a _ hn.1 B hB.1 h1 h2,zk9 b f hb l ar hn.2 B hB.2 h1 h2⟩
end
mutual
theorem znJ(b f:Int): ∀(t:T) (ar:Int),(upT b f ar t).depth=t.depth
 | .mk k h as_,ar=>by simp only[upT,T.depth];rw[ziV b f as_ ar]
theorem ziV(b f:Int): ∀(l:List T) (ar:Int) {bd:Bool},ZF (ups b f ar bd l)=ZF l
 |[],ar,bd=>rfl
 |a::as_,ar,bd=>by simp only[ups,ZF];rw[znJ b f a,ziV b f as_]
end
theorem zpP{B:Int}(hB:YC B){t:T}(h:okB B t)(hm:may t=true){b f:Int}(hb:0≤b):may (upP t b f)=true:=by
 obtain⟨q1,q2⟩:=hB
 obtain⟨h1,h2,h3⟩:=zfV.1 hm
 unfold upP
 split
 ·rename_i hc
  simp only[Bool.and_eq_true,decide_eq_true_eq]at hc
  exact zfV.2 ⟨znI b f hb t 0 h1 B h (by omega) (by omega),by rw[zlE];exact h2,by rw[znJ];exact h3⟩
 ·exact hm
end Go.Ama
namespace Go.Proofs.SZ
open Go Go.AM Go.Ama
abbrev zdE(sig:List D)(ms:List M)(ctx:List T):V:= .agg [.vec .plain (some 4) (Z2 sig), .vec .plain (some 5) (XX ms), .vec .plain (some 3) (Zi ctx)]
@[simp] theorem onW{R:Type}(a b c:List V)(K:List V→List V→List V→Option R):Zc (R:=R) [CT.slice (some 4),CT.slice (some 5),CT.slice (some 3)] (.agg [.vec .plain (some 4) a, .vec .plain (some 5) b, .vec .plain (some 3) c]) K=K a b c:=rfl
theorem zph(n:Nat)(sig:List D)(ms:List M)(ctx:List T):below n (zdE sig ms ctx)=true:=by simp[below,Zh,ZD]
theorem zrh(sig:List D)(ms:List M)(ctx:List T)(a:T)(h:ctx.length≤1099511627776):Ev 43 [zdE sig ms ctx,enc a] (zdE sig ms (ctx++[a])):=by
 have hr:roomFor Tryz.prog 25 (ctx.length+1)=true:=zcn (by omega)
 have htk:List.take ctx.length (Zi ctx)=Zi ctx:=List.take_of_length_le (by simp)
 unfold Ev
 rw[C,Zd a,zfk]
 simp[htk,hr,←Zd,below,Zh,JG,ZD]
theorem zjD(sig:List D)(ms:List M)(ctx:List T)(i:Int)(b:Bool)(h0:0≤i)(hs:sig.length≤1099511627776):Ev 79 [zdE sig ms ctx, .int i, .bool b] (.tup [enc ((Xu sig i b).getD T0), .int (match Xu sig i b with|none=>2|some _=>0)]):=by
 unfold Ev Xu
 rw[C,zcr,ZX]
 by_cases hi:i<sig.length
 ·have hn:i.toNat<sig.length:=by omega
  have hii:((i.toNat:Nat):Int)=i:=by omega
  have hg:ZY (Z2 sig) i=Jy sig[i.toNat]:=by have:=XR hn;rwa [hii]at this
  have hk:=(zkp sig[i.toNat].t).p
  have hlt: ¬i≥sig.length:=by omega
  have hc:(0≤i∧i<sig.length):=⟨h0,hi⟩
  rw[dif_pos hc,hg]
  simp only[hlt,decide_false,Zl,h0,hi,decide_true,Bool.and_self,Z9,zuM,←Zd,hk,Zb,Zw]
  generalize decide ((split sig[i.toNat].t).2.k=0)=kb
  by_cases hb:kb=b
  ·subst hb
   cases kb<;>simp[below,Zh]
  ·rw[if_neg hb]
   cases kb<;>cases b<;>simp_all
   ·rfl
   ·rfl
 ·have hge:i≥sig.length:=by omega
  rw[dif_neg (fun h=>hi h.2)]
  simp[hge]
  rfl
theorem zpi:cfg.pure 37=true:=by kernel_rfl
theorem zpj:cfg.pure 39=false:=by kernel_rfl
theorem zpk:cfg.pure 41=false:=by kernel_rfl
theorem zgL(t:T)(hs:t.size≤1099511627776):Ev 37 [enc t] (.bool (!may t)):=by
 have h:=(Qb t hs).p
 unfold Ev
 rw[C,Zd t,zel,←Zd,h]
 simp
theorem zfn(xs:List T)(hs:sizes xs≤1099511627776)(st:St):W.call 38 [.vec .plain (some 3) (Zi xs), .fn 37 [] []] st=some (.ret (.bool (xs.any fun t=> !may t)),st):=
 zeF (a:=[]) (b:=[]) zpi (p:=fun t=> !may t) xs (by have:=Zy xs;omega) (fun t ht=>(zgL t (by have:=size_le ht;omega)).p) st
theorem zpl(d:D)(hs:d.t.size≤1099511627776)(st:St):W.call 41 ([]++[Jy d]++[.cptr none (.fn 37 [] [])]) st=some (.ret (.bool (!may d.t)),st):=by
 have h:=(zgL d.t hs).p
 have e1:Jy d=V.agg [V.str (ba d.name),V.int d.t.k,V.int d.t.h,V.vec .plain (some 3) (Zi d.t.args)]:=rfl
 rw[e1]
 show W.call 41 [V.agg [V.str (ba d.name),V.int d.t.k,V.int d.t.h,V.vec .plain (some 3) (Zi d.t.args)], .cptr none (.fn 37 [] [])] st=_
 rw[C,zen,←Zd,h]
 simp[YV]
theorem zpm(m:M)(hs:sizes m.ctx+m.t.size≤1099511627776)(st:St):W.call 39 ([]++[zd9 m]++[.cptr none (.fn 37 [] [])]) st=some (.ret (.bool (!znE m)),st):=by
 have h:=(zgL m.t (by omega)).p
 have h2:=zfn m.ctx (by omega) st
 rw[zdA]
 show W.call 39 [V.agg [V.vec .plain (some 3) (Zi m.ctx),V.int m.t.k,V.int m.t.h,V.vec .plain (some 3) (Zi m.t.args),V.bool m.param], .cptr none (.fn 37 [] [])] st=_
 rw[C,zem,←Zd,h]
 have q2:m.ctx.all may= !m.ctx.any fun d=> !may d:=by simp[List.all_eq_not_any_not]
 unfold znE
 rw[q2]
 cases may m.t<;>simp[YV,h2]
theorem zri(sig:List D)(ms:List M)(ctx l:List T)(hsig: ∀d∈sig,d.t.size≤1099511627776)(hsl:sig.length≤1099511627776)(hms: ∀m∈ms,sizes m.ctx+m.t.size≤1099511627776)(hml:ms.length≤1099511627776)(hc:sizes ctx≤1099511627776)(hl:sizes l≤1099511627776):
  Ev 21 [zdE sig ms ctx, .vec .plain (some 3) (Zi l)] (.bool (znF sig ms ctx l)):=by
 have h1:=zfn l hl []
 have h2:=zfn ctx hc []
 have h3:=ziT (a:=[]) (b:=[.cptr none (.fn 37 [] [])]) zpk (p:=fun d=> !may d.t) sig hsl [] (fun d hd=>zpl d (hsig d hd) [])
 have h4:=ziU (a:=[]) (b:=[.cptr none (.fn 37 [] [])]) zpj (p:=fun d=> !znE d) ms hml [] (fun d hd=>zpm d (hms d hd) [])
 have q1:sig.all (fun d=>may d.t)= !sig.any fun d=> !may d.t:=by simp[List.all_eq_not_any_not]
 have q2:ctx.all may= !ctx.any fun d=> !may d:=by simp[List.all_eq_not_any_not]
 have q3:l.all may= !l.any fun d=> !may d:=by simp[List.all_eq_not_any_not]
 have q4:ms.all znE= !ms.any fun d=> !znE d:=by simp[List.all_eq_not_any_not]
 have c1:decide ((ctx.length:Int)>1000)= !decide (ctx.length≤1000):=by by_cases h:ctx.length≤1000<;>simp[h]<;>omega
 unfold Ev znF
 rw[C,zfY,Zv,c1,h1,q1,q2,q3,q4]
 cases decide (ctx.length≤1000)<;>cases l.any (fun d=> !may d)<;>simp[h2]<;>cases ctx.any (fun d=> !may d)<;>simp[h3]<;>cases sig.any (fun d=> !may d.t)<;>simp[h4]
end Go.Proofs.SZ
namespace Go.Ama
open Go Go.AM
structure OkW(B:Int)(sig:List D)(ms:List M)(ctx:List T):Prop where
 s: ∀d∈sig,may d.t=true∧okB B d.t
 m: ∀m∈ms,may m.t=true∧okB B m.t∧ ∀x∈m.ctx,may x=true∧okB B x
 c: ∀x∈ctx,may x=true∧okB B x
 sl:sig.length≤1048576
 ml:ms.length≤1048576
 mcl: ∀m∈ms,m.ctx.length≤1048576
theorem OkW.mono{B B':Int}(h:B≤B'){sig:List D}{ms:List M}{ctx:List T}(o:OkW B sig ms ctx):OkW B' sig ms ctx:=
 ⟨fun d hd=>⟨(o.s d hd).1,Ye h _ (o.s d hd).2⟩,fun m hm=>⟨(o.m m hm).1,Ye h _ (o.m m hm).2.1,fun x hx=>⟨((o.m m hm).2.2 x hx).1,Ye h _ ((o.m m hm).2.2 x hx).2⟩⟩,
  fun x hx=>⟨(o.c x hx).1,Ye h _ (o.c x hx).2⟩,o.sl,o.ml,o.mcl⟩
theorem OkW.with{B:Int}{sig:List D}{ms:List M}{ctx:List T}(o:OkW B sig ms ctx){a:T}(h1:may a=true)(h2:okB B a):OkW B sig ms (ctx++[a]):=
 ⟨o.s,o.m,fun x hx=>by rcases List.mem_append.1 hx with h|h;exact o.c x h;simp at h;subst h;exact⟨h1,h2⟩,o.sl,o.ml,o.mcl⟩
theorem XH{β γ:Int}(h:YC γ)(h0:0≤β)(hl:β≤γ):YC β:=⟨h0,by unfold YC at h;omega⟩
theorem zgM(sig:List D)(ms:List M): ∀(xs:List T) (ctx:List T) (t:T) (β:Int),0≤β→YC (β+sizes xs*90000000000)→may t=true→okB β t→(∀x∈xs,okB β x)→(Yz sig ms xs ctx t).2=0→
  may (Yz sig ms xs ctx t).1=true∧okB (β+sizes xs*90000000000) (Yz sig ms xs ctx t).1
 |[],ctx,t,β,_,_,hm,ho,_,_=>by simp only[Yz,sizes];exact⟨hm,Ye (by omega) t ho⟩
 |a::xs,ctx,t,β,h0,hβ,hm,ho,hx,he=>by
  have hp:=QB a
  simp only[sizes,Int.natCast_add,Int.add_mul]at hβ⊢
  unfold Yz at he⊢
  by_cases hk:t.k=1
  ·rw[if_neg (by simpa using hk)]at he⊢
   dsimp only at he⊢
   split at he
   ·rename_i h;exact absurd he h
   rename_i h1
   rw[if_neg h1]
   split at he
   ·rename_i h;exact absurd he h
   rename_i h2
   rw[if_neg h2]
   obtain⟨a0,b,hab⟩:=zqD (zoP hm hk)
   have hb:b∈t.args:=by rw[hab];simp
   simp only[hab,List.getD_cons_succ,List.getD_cons_zero]at h2 he⊢
   have hbase:YC β:=XH hβ h0 (by
                          have:(0:Int)≤a.size*90000000000:=by omega
                          have:(0:Int)≤sizes xs*90000000000:=by omega
                          omega)
   obtain⟨u1,u2,_⟩:=zea (t:=b) (l:=[a]) (s:=0) hbase (fun _=>zbG ho hb) (fun _ x hx'=>by simp at hx';rw[hx'];exact hx a (by simp)) (by simpa using h2)
   have hge:(a.size:Int)*90000000000≥90000000000:=by omega
   obtain⟨r1,r2⟩:=zgM sig ms xs ctx _ (β+a.size*90000000000) (by omega) (by rw[show β+ ↑a.size*90000000000+ ↑(sizes xs)*90000000000=β+(↑a.size*90000000000+ ↑(sizes xs)*90000000000) by omega];exact hβ) u1 (Ye (by omega) _ u2) (fun x hx'=>Ye (by omega) x (hx x (by simp[hx']))) he
   exact⟨r1,by rw[show β+(↑a.size*90000000000+ ↑(sizes xs)*90000000000)=β+ ↑a.size*90000000000+ ↑(sizes xs)*90000000000 by omega];exact r2⟩
  ·rw[if_pos hk]at he
   simp at he
noncomputable def znK(sig:List D)(ms:List M)(h:Int)(xs ctx:List T):T×Int:=
 if(ctx.length:Int)≤h then(T0,2)else Yz sig ms xs ctx (upP (ctx.getD (ctx.length-1-h.toNat) T0) (h+1) 0)
noncomputable def zdF(sig:List D)(ms:List M)(h:Int)(xs ctx:List T):T×Int:=
 match Xu sig h false with
 |none=>(T0,2)
 |some t=>Yz sig ms xs ctx t
noncomputable def zhw(sig:List D)(ms:List M)(h:Int)(xs ctx:List T):T×Int:=
 if(ms.length:Int)≤h then(T0,2)
 else
  let d:=ms.getD h.toNat ⟨[],T0,false⟩
  if d.ctx.length≠xs.length then(T0,3)
  else
   let e:=zeH sig ms xs ctx [] d.ctx
   if e≠0 then(T0,e)else YT d.t xs ctx.length
noncomputable def Jx(sig:List D)(ms:List M)(k h:Int)(xs ctx:List T):T×Int:=
 if k=4 then znK sig ms h xs ctx else if k=5 then zdF sig ms h xs ctx else if k=6 then zhw sig ms h xs ctx else(T0,3)
theorem zpn(sig:List D)(ms:List M){k h:Int}{xs ctx:List T}{a:T}(hk:k≠3)(ha:a.k=2):
  Q6 sig ms (.mk k h xs) ctx a=if(Jx sig ms k h xs ctx).2≠0 then(Jx sig ms k h xs ctx).2 else if(Jx sig ms k h xs ctx).1.same a then 0 else 3:=by
 rw[Q6]
 rw[if_neg (fun c=>hk c.1),if_neg (fun c=>c.elim hk (fun c=>c ha))]
 rfl
theorem zrj(sig:List D)(ms:List M){h:Int}{b:T}{r ctx:List T}{a:T}(ha:a.k=1):
  Q6 sig ms (.mk 3 h (b::r)) ctx a=Q6 sig ms b (ctx++[a.args.getD 0 T0]) (a.args.getD 1 T0):=by
 conv=>lhs;rw[Q6]
 rw[if_pos ⟨rfl,ha⟩,zs6]
theorem zs7(sig:List D)(ms:List M){k h:Int}{xs ctx:List T}{a:T}(h1: ¬(k=3∧a.k=1))(h2:k=3∨a.k≠2):Q6 sig ms (.mk k h xs) ctx a=3:=by
 rw[Q6,if_neg h1,if_pos h2]
end Go.Ama
namespace Go.Ama
open Go Go.AM
theorem znL{sig:List D}{ms:List M}{ctx l:List T}:znF sig ms ctx l=true↔ctx.length≤1000∧(∀x∈l,may x=true)∧(∀x∈ctx,may x=true)∧(∀d∈sig,may d.t=true)∧(∀m∈ms,may m.t=true∧ ∀x∈m.ctx,may x=true):=by
 unfold znF
 simp only[Bool.and_eq_true,decide_eq_true_eq,List.all_eq_true]
 have: ∀m:M,znE m=true↔may m.t=true∧ ∀x∈m.ctx,may x=true:=fun m=>by unfold znE;simp[Bool.and_eq_true,List.all_eq_true]
 simp only[this]
structure In(sig:List D)(ms:List M)(ctx l:List T):Prop where
 s: ∀d∈sig,d.t.size≤1048576∧(may d.t=true→okB 4398046511104 d.t)
 m: ∀m∈ms,sizes m.ctx+m.t.size≤1048576∧(may m.t=true→okB 4398046511104 m.t)∧ ∀x∈m.ctx,may x=true→okB 4398046511104 x
 c:sizes ctx≤1048576∧ ∀x∈ctx,may x=true→okB 4398046511104 x
 l:sizes l≤1048576∧ ∀x∈l,may x=true→okB 4398046511104 x
 sl:sig.length≤1048576
 ml:ms.length≤1048576
theorem In.ok{sig:List D}{ms:List M}{ctx l:List T}(h:In sig ms ctx l)(hm:znF sig ms ctx l=true):OkW 4398046511104 sig ms ctx∧ ∀x∈l,may x=true∧okB 4398046511104 x:=by
 obtain⟨_,h2,h3,h4,h5⟩:=znL.1 hm
 refine⟨⟨fun d hd=>⟨h4 d hd,(h.s d hd).2 (h4 d hd)⟩,fun m hm=>⟨(h5 m hm).1,(h.m m hm).2.1 (h5 m hm).1,fun x hx=>⟨(h5 m hm).2 x hx,(h.m m hm).2.2 x hx ((h5 m hm).2 x hx)⟩⟩,fun x hx=>⟨h3 x hx,h.c.2 x hx (h3 x hx)⟩,h.sl,h.ml,fun m hm=> ?_⟩,fun x hx=>⟨h2 x hx,h.l.2 x hx (h2 x hx)⟩⟩
 have:=(h.m m hm).1
 have:=Zy m.ctx
 omega
end Go.Ama
namespace Go.Proofs.SZ
open Go Go.AM Go.Ama
section
variable(sig:List D)(ms:List M)
def HT(N:Nat):Prop:= ∀(m:T) (ctx:List T) (a:T) (β:Int),m.size≤N→0≤β→OkW β sig ms ctx→ctx.length+m.size≤1000000→may m=true→okB β m→may a=true→okB β a→YC (β+m.size*90000000000)→
 Ev 22 [zdE sig ms ctx,enc m,enc a] (.int (Q6 sig ms m ctx a))
theorem znM{N:Nat}(hT:HT sig ms N)(xs ctx:List T)(hxl:xs.length≤1000000): ∀(n i:Nat) (t:T) (β:Int) (v:V),xs.length-i=n→i≤xs.length→sizes (xs.drop i)≤N→0≤β→OkW β sig ms ctx→ctx.length+sizes (xs.drop i)≤1000000→(∀x∈xs,may x=true∧okB β x)→may t=true→okB β t→YC (β+sizes (xs.drop i)*90000000000)→
  W.loop 77 2 [.loc true (some 3) v, .int (i:Int), .loc false (some 3) (enc t), .loc false (some 3) (zdE sig ms ctx), .vec .plain (some 3) (Zi xs), .int xs.length] []=
   if(Yz sig ms (xs.drop i) ctx t).2=0 then some (.exit 0,[.loc true (some 3) v, .loc false (some 3) (enc (Yz sig ms (xs.drop i) ctx t).1)],[])else some (.ret,[.loc false (some 3) (enc T0), .int (Yz sig ms (xs.drop i) ctx t).2],[]):=by
 intro n
 induction n with
 |zero=>
  intro i t β v hn hi _ _ _ _ _ _ _ _
  have:i=xs.length:=by omega
  subst this
  rw[L,Zd t,Jw]
  simp[Yz,←Zd]
 |succ n ih=>
  intro i t β v hn hi hN h0 hW hcl hx hm ho hβ
  have hlt:i<xs.length:=by omega
  have hlt':(i:Int)<xs.length:=by omega
  have hd:xs.drop i=xs[i]::xs.drop (i+1):=List.drop_eq_getElem_cons hlt
  have hp:=QB xs[i]
  have hw:IntKind.i64.wrap ((i:Int)+1)=((i+1:Nat):Int):=by rw[Z5 ⟨by omega,by omega⟩];omega
  rw[hd]at hN hcl hβ⊢
  simp only[sizes,Int.natCast_add,Int.add_mul]at hN hcl hβ
  have hbase:YC β:=XH hβ h0 (by omega)
  obtain⟨hxm,hxo⟩:=hx _ (List.getElem_mem hlt)
  rw[L,Zd t,Jw,←Zd t,hw,ZU hlt,Zv]
  simp only[hlt',decide_true,Zs,Int.natCast_nonneg,Bool.and_self,Z9,zuf,←Zd]
  by_cases hk:t.k=1
  ·obtain⟨a0,b,hab⟩:=zqD (zoP hm hk)
   have ha0:a0∈t.args:=by rw[hab];simp
   have hb:b∈t.args:=by rw[hab];simp
   have h1:=(hT xs[i] ctx a0 β (by omega) h0 hW (by omega) hxm hxo (zfW hm ha0) (zbG ho ha0) (XH hβ (by omega) (by omega))).p (by simp[Zh,below,ZD])
   have hst:Yz sig ms (xs[i]::xs.drop (i+1)) ctx t=(if Q6 sig ms xs[i] ctx a0≠0 then(T0,Q6 sig ms xs[i] ctx a0)else if(YT b [xs[i]] 0).2≠0 then(T0,(YT b [xs[i]] 0).2)else Yz sig ms (xs.drop (i+1)) ctx (YT b [xs[i]] 0).1):=by
    conv=>lhs;unfold Yz
    simp[hk,hab]
   rw[hst]
   by_cases he:Q6 sig ms xs[i] ctx a0=0
   ·have hsb:=Qv (zfW hm hb)
    have hsx:=Qv hxm
    have hA:=(zdD (s:=0) hbase (t:=b) (l:=[xs[i]]) (by omega) (by simp[sizes];omega) (fun _=>zbG ho hb) (fun _ x hx'=>by simp at hx';rw[hx'];exact hxo)).p
    simp only[Jv,QX,zfK]at hA
    by_cases hu:(YT b [xs[i]] 0).2=0
    ·obtain⟨u1,u2,_⟩:=zea (t:=b) (l:=[xs[i]]) (s:=0) hbase (fun _=>zbG ho hb) (fun _ x hx'=>by simp at hx';rw[hx'];exact hxo) hu
     have:=ih (i+1) (YT b [xs[i]] 0).1 (β+xs[i].size*90000000000) v (by omega) (by omega) (by omega) (by omega) (hW.mono (by omega)) (by omega) (fun x hx'=>⟨(hx x hx').1,Ye (by omega) x (hx x hx').2⟩) u1 (Ye (by omega) _ u2) (by rw[show β+ ↑xs[i].size*90000000000+ ↑(sizes (xs.drop (i+1)))*90000000000=β+(↑xs[i].size*90000000000+ ↑(sizes (xs.drop (i+1)))*90000000000) by omega];exact hβ)
     simp[hk,hab,h1,he,hA,hu,←Zd]
     simpa using this
    ·simp[hk,hab,h1,he,hA,hu,←Zd,Zd T0]
   ·simp[hk,hab,h1,he,←Zd,Zd T0]
  ·have hst:Yz sig ms (xs[i]::xs.drop (i+1)) ctx t=(T0,3):=by
    conv=>lhs;unfold Yz
    simp[hk]
   rw[hst]
   simp[hk,Zd T0]
theorem ziW{N:Nat}(hT:HT sig ms N)(xs ctx:List T)(t:T)(β:Int)(hN:sizes xs≤N)(h0:0≤β)(hW:OkW β sig ms ctx)(hcl:ctx.length+sizes xs≤1000000)(hx: ∀x∈xs,may x=true∧okB β x)(hm:may t=true)(ho:okB β t)(hβ:YC (β+sizes xs*90000000000)):
  Ev 77 [zdE sig ms ctx,enc t, .vec .plain (some 3) (Zi xs)] (.tup [enc (Yz sig ms xs ctx t).1, .int (Yz sig ms xs ctx t).2]):=by
 have hl:=Zy xs
 have h:=znM sig ms hT xs ctx (by omega) _ 0 t β (.agg [.int 0, .int 0, .vec .full (some 3) []]) rfl (Nat.zero_le _) (by simpa using hN) h0 hW (by simpa using hcl) hx hm ho (by simpa using hβ)
 simp only[List.drop_zero,Int.natCast_zero]at h
 have hz:(Yz sig ms xs ctx t).2≠0→(Yz sig ms xs ctx t).1=T0:=by
  have: ∀(ys:List T) (t:T),(Yz sig ms ys ctx t).2≠0→(Yz sig ms ys ctx t).1=T0:=by
   intro ys
   induction ys with
   |nil=>intro t h;simp[Yz]at h
   |cons y ys ih=>
    intro t h
    unfold Yz at h⊢
    dsimp only at h⊢
    repeat' split
    all_goals first|rfl|skip
    rename_i c1 c2 c3
    rw[if_neg c1,if_neg c2,if_neg c3]at h
    exact ih _ h
  exact this xs t
 unfold Ev
 rw[C]
 conv=>lhs;rw[Zd t]
 rw[zeo,Zv,←Zd t,h]
 by_cases he:(Yz sig ms xs ctx t).2=0
 ·simp[he,←Zd,below,Zh,Zu]
 ·have hc: ∀t:T,Zo (enc t)=enc t:=fun t=>by rw[Zd];rfl
  simp[he,hz he,below,Zh,Zu,hc]
end
end Go.Proofs.SZ
namespace Go.Proofs.SZ
open Go Go.AM Go.Ama
section
variable(sig:List D)(ms:List M)
theorem zjE{N:Nat}(hT:HT sig ms N)(k h:Int)(xs ctx:List T)(β:Int)(hN:sizes xs≤N)(h0:0≤β)(hW:OkW β sig ms ctx)(hcl:ctx.length+sizes xs≤1000000)(hx: ∀x∈xs,may x=true∧okB β x)(hh:0≤h)(hβ:YC (β+(1+sizes xs:Nat)*90000000000)):
  Ev 45 [zdE sig ms ctx, .agg [.int k, .int h, .vec .plain (some 3) (Zi xs)]] (.tup [enc (znK sig ms h xs ctx).1, .int (znK sig ms h xs ctx).2]):=by
 simp only[Int.natCast_add,Int.add_mul]at hβ
 have hbase:YC β:=XH hβ h0 (by omega)
 unfold Ev znK
 rw[C,zcs,Zv]
 by_cases hc:(ctx.length:Int)≤h
 ·simp only[hc,if_true]
  simp[hc,Zd T0]
 ·have hw1:IntKind.i64.wrap ((ctx.length:Int)-1)=(ctx.length:Int)-1:=Z5 ⟨by omega,by omega⟩
  have hw2:IntKind.i64.wrap ((ctx.length:Int)-1-h)=((ctx.length-1-h.toNat:Nat):Int):=by rw[Z5 ⟨by omega,by omega⟩];omega
  have hw3:IntKind.i64.wrap (h+1)=h+1:=Z5 ⟨by omega,by omega⟩
  have hlt:ctx.length-1-h.toNat<ctx.length:=by omega
  have hg:ctx.getD (ctx.length-1-h.toNat) T0=ctx[ctx.length-1-h.toNat]:=by simp[List.getD_eq_getElem?_getD,hlt]
  obtain⟨c1,c2⟩:=hW.c _ (List.getElem_mem hlt)
  have hsz:=Qv c1
  have hU:=(zpM ctx[ctx.length-1-h.toNat] (h+1) 0 (by omega)).p
  have hS:=(ziW sig ms hT xs ctx (upP ctx[ctx.length-1-h.toNat] (h+1) 0) (β+90000000000) hN (by omega) (hW.mono (by omega)) hcl (fun x hx'=>⟨(hx x hx').1,Ye (by omega) x (hx x hx').2⟩) (zpP hbase c2 c1 (by omega)) (Ye (by omega) _ (znH hbase c2 (by omega))) (by rw[show β+90000000000+ ↑(sizes xs)*90000000000=β+(((1:Nat):Int)*90000000000+ ↑(sizes xs)*90000000000) by omega];exact hβ)).p (by simp[Zh,below,ZD]) (by simp[below,Zh])
  have hc': ¬(h≥(ctx.length:Int)):=by omega
  have hlt':((ctx.length-1-h.toNat:Nat):Int)<ctx.length:=by omega
  simp only[hc,if_false]
  rw[hw1,hw2,hw3,ZU hlt,hg]
  simp[hc',hlt',hU,←Zd,hS]
  simp[below,Zh]
theorem zjF{N:Nat}(hT:HT sig ms N)(k h:Int)(xs ctx:List T)(β:Int)(hN:sizes xs≤N)(h0:0≤β)(hW:OkW β sig ms ctx)(hcl:ctx.length+sizes xs≤1000000)(hx: ∀x∈xs,may x=true∧okB β x)(hh:0≤h)(hβ:YC (β+sizes xs*90000000000)):
  Ev 46 [zdE sig ms ctx, .agg [.int k, .int h, .vec .plain (some 3) (Zi xs)]] (.tup [enc (zdF sig ms h xs ctx).1, .int (zdF sig ms h xs ctx).2]):=by
 have hD:=(zjD sig ms ctx h false hh (by have:=hW.sl;omega)).p (by simp[Zh,below,ZD]) (by simp[below,Zh])
 unfold Ev zdF
 rw[C,zct,hD]
 cases hd:Xu sig h false with
 |none=>simp[Zd T0]
 |some t=>
  obtain⟨d,hdm,hdt⟩: ∃d∈sig,d.t=t:=by
   unfold Xu at hd
   split at hd
   ·split at hd
    ·cases hd;exact⟨_,List.getElem_mem _,rfl⟩
    ·cases hd
   ·cases hd
  obtain⟨s1,s2⟩:=hW.s d hdm
  rw[hdt]at s1 s2
  have hS:=(ziW sig ms hT xs ctx t β hN h0 hW hcl hx s1 s2 hβ).p (by simp[Zh,below,ZD]) (by simp[below,Zh])
  simp[←Zd,hS]
  simp[below,Zh]
theorem zrk(l:List T)(n:Nat):(Zi l).take n=Zi (l.take n):=by simp[zdd,List.map_take]
theorem zpo{N:Nat}(hT:HT sig ms N)(k h:Int)(xs ctx:List T)(d:M)(β:Int)(hN:sizes xs≤N)(h0:0≤β)(hW:OkW β sig ms ctx)(hcl:ctx.length+sizes xs≤1000000)(hx: ∀x∈xs,may x=true∧okB β x)(hd:d∈ms)(hlen:d.ctx.length=xs.length)(hβ:YC (β+(1+sizes xs:Nat)*90000000000))(v:V):
  ∀(n i:Nat),xs.length-i=n→i≤xs.length→
  W.loop 47 7 [.loc true (some 3) v, .int (i:Int), .loc false (some 3) (.agg [.int k, .int h, .vec .plain (some 3) (Zi xs)]), .loc false (some 3) (zdE sig ms ctx), .vec .plain (some 3) (Zi d.ctx), .loc false (some 5) (zd9 d), .int d.ctx.length] []=
   if zeH sig ms (xs.drop i) ctx (xs.take i) (d.ctx.drop i)=0 then some (.exit 0,[.loc true (some 3) v, .loc false (some 3) (zdE sig ms ctx), .loc false (some 3) (.agg [.int k, .int h, .vec .plain (some 3) (Zi xs)]), .loc false (some 5) (zd9 d)],[])
   else some (.ret,[.loc false (some 3) (enc T0), .int (zeH sig ms (xs.drop i) ctx (xs.take i) (d.ctx.drop i))],[]):=by
 have hxl:=Zy xs
 simp only[Int.natCast_add,Int.add_mul]at hβ
 have hbase:YC β:=XH hβ h0 (by omega)
 obtain⟨_,_,m3⟩:=hW.m d hd
 intro n
 induction n with
 |zero=>
  intro i hn hi
  have:i=xs.length:=by omega
  subst this
  rw[L,zdA,J0,←zdA]
  simp[zeH,hlen]
 |succ n ih=>
  intro i hn hi
  have hlt:i<xs.length:=by omega
  have hlt2:i<d.ctx.length:=by omega
  have hlt':(i:Int)<xs.length:=by omega
  have hlt2':(i:Int)<d.ctx.length:=by omega
  have hle':(i:Int)≤xs.length:=by omega
  have hdx:xs.drop i=xs[i]::xs.drop (i+1):=List.drop_eq_getElem_cons hlt
  have hdd:d.ctx.drop i=d.ctx[i]::d.ctx.drop (i+1):=List.drop_eq_getElem_cons hlt2
  have hp:=QB xs[i]
  have hsx:=size_le (List.getElem_mem hlt)
  have hw:IntKind.i64.wrap ((i:Int)+1)=((i+1:Nat):Int):=by rw[Z5 ⟨by omega,by omega⟩];omega
  obtain⟨hxm,hxo⟩:=hx _ (List.getElem_mem hlt)
  obtain⟨hdm,hdo⟩:=m3 _ (List.getElem_mem hlt2)
  have hsd:=Qv hdm
  have hst:=ze5 xs i
  have htk:List.drop 0 (List.take (i:Int).toNat (Zi xs))=Zi (xs.take i):=by simp[zrk]
  have hok: ∀x∈xs.take i,okB β x:=fun x hx'=>(hx x (List.mem_of_mem_take hx')).2
  have hA:=(zdD (s:=ctx.length) hbase (t:=d.ctx[i]) (l:=xs.take i) (by omega) (by omega) (fun _=>hdo) (fun _=>hok)).p
  simp only[Jv]at hA
  have hstep:zeH sig ms (xs.drop i) ctx (xs.take i) (d.ctx.drop i)=(if(if(YT d.ctx[i] (xs.take i) ctx.length).2=0 then Q6 sig ms xs[i] ctx (YT d.ctx[i] (xs.take i) ctx.length).1 else(YT d.ctx[i] (xs.take i) ctx.length).2)≠0 then(if(YT d.ctx[i] (xs.take i) ctx.length).2=0 then Q6 sig ms xs[i] ctx (YT d.ctx[i] (xs.take i) ctx.length).1 else(YT d.ctx[i] (xs.take i) ctx.length).2)else zeH sig ms (xs.drop (i+1)) ctx (xs.take (i+1)) (d.ctx.drop (i+1))):=by
   rw[hdx,hdd,zcj hlt]
   conv=>lhs;unfold zeH
  rw[hstep,L,zdA,J0,←zdA,hw,ZU hlt,ZU hlt2,Zv,Zv,Zv,htk]
  have ihh:=ih (i+1) (by omega) (by omega)
  by_cases hu:(YT d.ctx[i] (xs.take i) ctx.length).2=0
  ·obtain⟨u1,u2,_⟩:=zea (t:=d.ctx[i]) (l:=xs.take i) (s:=ctx.length) hbase (fun _=>hdo) (fun _=>hok) hu
   have h1:=(hT xs[i] ctx (YT d.ctx[i] (xs.take i) ctx.length).1 (β+90000000000) (by omega) (by omega) (hW.mono (by omega)) (by omega) hxm (Ye (by omega) _ hxo) u1 (Ye (by omega) _ u2) (XH hβ (by omega) (by omega))).p (by simp[Zh,below,ZD])
   by_cases he:Q6 sig ms xs[i] ctx (YT d.ctx[i] (xs.take i) ctx.length).1=0
   ·simp[hlt',hlt2',hle',hA,hu,←Zd,h1,he]
    simpa using ihh
   ·simp[hlt',hlt2',hle',hA,hu,←Zd,h1,he,Zd T0]
  ·simp[hlt',hlt2',hle',hA,hu,←Zd,Zd T0]
theorem zrl{N:Nat}(hT:HT sig ms N)(k h:Int)(xs ctx:List T)(β:Int)(hN:sizes xs≤N)(h0:0≤β)(hW:OkW β sig ms ctx)(hcl:ctx.length+sizes xs≤1000000)(hx: ∀x∈xs,may x=true∧okB β x)(hh:0≤h)(hβ:YC (β+(1+sizes xs:Nat)*90000000000)):
  Ev 47 [zdE sig ms ctx, .agg [.int k, .int h, .vec .plain (some 3) (Zi xs)]] (.tup [enc (zhw sig ms h xs ctx).1, .int (zhw sig ms h xs ctx).2]):=by
 have hxl:=Zy xs
 unfold Ev zhw
 rw[C,zfm,zfU]
 by_cases hc:(ms.length:Int)≤h
 ·simp only[hc,if_true]
  simp[hc,Zd T0]
 ·have hlt:h.toNat<ms.length:=by omega
  have hg:ms.getD h.toNat ⟨[],T0,false⟩=ms[h.toNat]:=by simp[List.getD_eq_getElem?_getD,hlt]
  have hii:((h.toNat:Nat):Int)=h:=by omega
  have hgi:ZY (XX ms) h=zd9 ms[h.toNat]:=by have:=ziK hlt;rwa [hii]at this
  have hc': ¬(h≥(ms.length:Int)):=by omega
  have hlt':h<(ms.length:Int):=by omega
  have hmem:=List.getElem_mem hlt
  simp only[hc,if_false]
  rw[hg,hgi]
  generalize ms[h.toNat]=d at*
  by_cases hlen:d.ctx.length=xs.length
  ·have hL:=zpo sig ms hT k h xs ctx d β hN h0 hW hcl hx hmem hlen hβ (.agg [.int 0, .int 0, .vec .full (some 3) []]) _ 0 rfl (Nat.zero_le _)
   simp only[List.drop_zero,Int.natCast_zero,List.take_zero]at hL
   have hbase:YC β:=XH hβ h0 (by omega)
   obtain⟨t1,t2,_⟩:=hW.m d hmem
   have hsz:=Qv t1
   have hA:=(zdD (s:=ctx.length) hbase (t:=d.t) (l:=xs) (by omega) (by omega) (fun _=>t2) (fun _ x hx'=>(hx x hx').2)).p
   simp only[Jv]at hA
   have hbne:((d.ctx.length:Int) !=(xs.length:Int))=false:=by simp[hlen]
   have hc2: ∀t:T,Zo (enc t)=enc t:=fun t=>by rw[Zd];rfl
   have hL':=hL
   simp only[zd9,hlen,zdE]at hL'
   simp only[hlen,ne_eq,not_true,if_false]
   by_cases he:zeH sig ms xs ctx [] d.ctx=0
   ·rw[if_pos he]at hL'
    simp[hc',hh,hlt',hbne,hL',he,hA,←Zd,below,Zh,hlen]
    simp[below,Zh,Zu]
   ·rw[if_neg he]at hL'
    simp[hc',hh,hlt',hbne,hL',he,hlen,hc2,below,Zh,Zu]
  ·have hbne:((d.ctx.length:Int) !=(xs.length:Int))=true:=by simp;omega
   simp[hc',hh,hlt',hbne,hlen,Zd T0]
end
end Go.Proofs.SZ
namespace Go.Proofs.SZ
open Go Go.AM Go.Ama
theorem zgN:cfg.pure 44=true:=by kernel_rfl
theorem zeI:cfg.pure 45=true:=by kernel_rfl
theorem zeJ:cfg.pure 46=true:=by kernel_rfl
theorem zkA:cfg.pure 47=true:=by kernel_rfl
section
variable(sig:List D)(ms:List M)
theorem zgO(k h:Int)(xs ctx:List T):Ev 44 [zdE sig ms ctx, .agg [.int k, .int h, .vec .plain (some 3) (Zi xs)]] (.tup [enc T0, .int 3]):=by
 unfold Ev
 rw[C,zfl]
 rw[Zd T0]
 rfl
theorem znN{β:Int}{xs ctx:List T}{k h:Int}(h0:0≤β)(hW:OkW β sig ms ctx)(hx: ∀x∈xs,may x=true∧okB β x)(hh:0≤h)(hcl:ctx.length≤1000000)(hβ:YC (β+(1+sizes xs:Nat)*90000000000))(he:(Jx sig ms k h xs ctx).2=0):may (Jx sig ms k h xs ctx).1=true:=by
 simp only[Int.natCast_add,Int.add_mul]at hβ
 have hbase:YC β:=XH hβ h0 (by omega)
 unfold Jx at he⊢
 split
 ·rename_i hk
  rw[if_pos hk]at he
  unfold znK at he⊢
  split
  ·rename_i c;rw[if_pos c]at he;simp at he
  ·rename_i c
   rw[if_neg c]at he
   have hlt:ctx.length-1-h.toNat<ctx.length:=by omega
   have hg:ctx.getD (ctx.length-1-h.toNat) T0=ctx[ctx.length-1-h.toNat]:=by simp[List.getD_eq_getElem?_getD,hlt]
   obtain⟨c1,c2⟩:=hW.c _ (List.getElem_mem hlt)
   rw[hg]at he⊢
   exact(zgM sig ms xs ctx _ (β+90000000000) (by omega) (by rw[show β+90000000000+ ↑(sizes xs)*90000000000=β+(((1:Nat):Int)*90000000000+ ↑(sizes xs)*90000000000) by omega];exact hβ) (zpP hbase c2 c1 (by omega)) (Ye (by omega) _ (znH hbase c2 (by omega))) (fun x hx'=>Ye (by omega) x (hx x hx').2) he).1
 ·rename_i hk
  rw[if_neg hk]at he
  split
  ·rename_i hk
   rw[if_pos hk]at he
   unfold zdF at he⊢
   cases hd:Xu sig h false with
   |none=>rw[hd]at he;simp at he
   |some t=>
    rw[hd]at he
    obtain⟨d,hdm,hdt⟩: ∃d∈sig,d.t=t:=by
     unfold Xu at hd
     split at hd
     ·split at hd
      ·cases hd;exact⟨_,List.getElem_mem _,rfl⟩
      ·cases hd
     ·cases hd
    obtain⟨s1,s2⟩:=hW.s d hdm
    rw[hdt]at s1 s2
    exact(zgM sig ms xs ctx t β h0 (XH hβ (by omega) (by omega)) s1 s2 (fun x hx'=>(hx x hx').2) he).1
  ·rename_i hk
   rw[if_neg hk]at he
   split
   ·rename_i hk
    rw[if_pos hk]at he
    unfold zhw at he⊢
    split
    ·rename_i c;rw[if_pos c]at he;simp at he
    ·rename_i c
     rw[if_neg c]at he
     have hlt:h.toNat<ms.length:=by omega
     have hg:ms.getD h.toNat ⟨[],T0,false⟩=ms[h.toNat]:=by simp[List.getD_eq_getElem?_getD,hlt]
     obtain⟨t1,t2,_⟩:=hW.m _ (List.getElem_mem hlt)
     rw[hg]at he⊢
     dsimp only at he⊢
     split
     ·rename_i c;rw[if_pos c]at he;simp at he
     ·rename_i c
      rw[if_neg c]at he
      split
      ·rename_i c;rw[if_pos c]at he;exact absurd he c
      ·rename_i c
       rw[if_neg c]at he
       exact(zea hbase (fun _=>t2) (fun _ x hx'=>(hx x hx').2) he).1
   ·rename_i hk
    rw[if_neg hk]at he
    simp at he
theorem zrm{N:Nat}(hT:HT sig ms N):HT sig ms (N+1):=by
 intro m ctx a β hN h0 hW hcl hm ho ham hao hβ
 obtain⟨k,h,xs⟩:=m
 have hnode:=zny hm
 obtain⟨⟨hh,_⟩,_,hxs⟩:=ho
 simp only[T.size]at hN hcl hβ
 have hx: ∀x∈xs,may x=true∧okB β x:=fun x hx'=>⟨zfW hm hx',(zbC _ _).1 hxs x hx'⟩
 have hβ':=hβ
 simp only[Int.natCast_add,Int.add_mul]at hβ
 have hasz:=Qv ham
 show W.call 22 [zdE sig ms ctx, .agg [.int k, .int h, .vec .plain (some 3) (Zi xs)],enc a] []=_
 rw[C,Zd a,zfj,←Zd a,Zv,Zv]
 by_cases hL:k=3∧a.k=1
 ·obtain⟨rfl,hak⟩:=hL
  obtain⟨a0,b,hab⟩:=zqD (zoP ham hak)
  have ha0:a0∈a.args:=by rw[hab];simp
  have hb:b∈a.args:=by rw[hab];simp
  simp only[zsp,zsq,zkw,zaL]at hnode
  obtain⟨c,hc⟩: ∃c,xs=[c]:=by simp at hnode;exact List.length_eq_one_iff.1 (of_decide_eq_true hnode.2)
  subst hc
  obtain⟨c1,c2⟩:=hx c (by simp)
  simp only[sizes]at hN hcl hβ
  have hw:=(zrh sig ms ctx a0 (by omega)).p (by simp[Zh,below,ZD]) (zph 0 sig ms _)
  have h1:=(hT c (ctx++[a0]) b β (by omega) h0 (hW.with (zfW ham ha0) (zbG hao ha0)) (by simp;omega) c1 c2 (zfW ham hb) (zbG hao hb) (XH hβ (by omega) (by omega))).p (by simp[Zh,below,ZD,JG])
  simp only[zdE,zde,QX,zfK]at h1
  rw[zrj sig ms hak,hab]
  simp[hak,hab,←Zd,hw,h1]
 ·by_cases hno:k=3∨a.k≠2
  ·rw[zs7 sig ms hL hno]
   rcases hno with hk|hak
   ·have:a.k≠1:=fun c=>hL ⟨hk,c⟩
    simp[hk,this]
   ·by_cases hk:k=3
    ·have:a.k≠1:=fun c=>hL ⟨hk,c⟩
     simp[hk,this]
    ·simp[hk,hak]
  ·simp only[not_or,ne_eq,Decidable.not_not]at hno
   obtain⟨hk3,ha2⟩:=hno
   rw[zpn sig ms hk3 ha2]
   have hcs:=znN sig ms (k:=k) (h:=h) h0 hW hx hh (by omega) hβ'
   have hsame:(Jx sig ms k h xs ctx).2=0→Zq W 13 [enc (Jx sig ms k h xs ctx).1,enc a]=some (.bool ((Jx sig ms k h xs ctx).1.same a)):=fun he=>
    (zi6 _ a (by have:=Qv (hcs he);omega) (by omega)).p
   have hk7:k=0∨k=1∨k=2∨k=4∨k=5∨k=6:=by
    simp only[zsp,zsq,zkw]at hnode
    unfold zaL at hnode
    repeat' split at hnode
    all_goals simp at hnode
    all_goals omega
   have hnone: ∀k,k≠4→k≠5→k≠6→Jx sig ms k h xs ctx=(T0,3):=fun k h4 h5 h6=>by unfold Jx;rw[if_neg h4,if_neg h5,if_neg h6]
   rcases hk7 with rfl|rfl|rfl|rfl|rfl|rfl
   ·have hn:=(zgO sig ms 0 h xs ctx).p (by simp[Zh,below,ZD])
    rw[hnone 0 (by decide) (by decide) (by decide)]at*
    simp[ha2,AM.partOf,zbr,zgN,hn]
   ·have hn:=(zgO sig ms 1 h xs ctx).p (by simp[Zh,below,ZD])
    rw[hnone 1 (by decide) (by decide) (by decide)]at*
    simp[ha2,AM.partOf,zbr,zgN,hn]
   ·have hn:=(zgO sig ms 2 h xs ctx).p (by simp[Zh,below,ZD])
    rw[hnone 2 (by decide) (by decide) (by decide)]at*
    simp[ha2,AM.partOf,zbr,zgN,hn]
   ·have hn:=(zjE sig ms hT 4 h xs ctx β (by omega) h0 hW (by omega) hx hh hβ').p (by simp[Zh,below,ZD]) (by simp[below,Zh])
    have hc:Jx sig ms 4 h xs ctx=znK sig ms h xs ctx:=rfl
    rw[hc]
    by_cases he:(znK sig ms h xs ctx).2=0
    ·have:=hsame (by rw[hc];exact he)
     rw[hc]at this
     cases hs:(znK sig ms h xs ctx).1.same a<;>rw[hs]at this<;>simp[ha2,AM.partOf,zbr,zeI,hn,he,←Zd,this]
    ·simp[ha2,AM.partOf,zbr,zeI,hn,he]
   ·have hn:=(zjF sig ms hT 5 h xs ctx β (by omega) h0 hW (by omega) hx hh (XH hβ (by omega) (by omega))).p (by simp[Zh,below,ZD]) (by simp[below,Zh])
    have hc:Jx sig ms 5 h xs ctx=zdF sig ms h xs ctx:=rfl
    rw[hc]
    by_cases he:(zdF sig ms h xs ctx).2=0
    ·have:=hsame (by rw[hc];exact he)
     rw[hc]at this
     cases hs:(zdF sig ms h xs ctx).1.same a<;>rw[hs]at this<;>simp[ha2,AM.partOf,zbr,zeJ,hn,he,←Zd,this]
    ·simp[ha2,AM.partOf,zbr,zeJ,hn,he]
   ·have hn:=(zrl sig ms hT 6 h xs ctx β (by omega) h0 hW (by omega) hx hh hβ').p (by simp[Zh,below,ZD]) (by simp[below,Zh])
    have hc:Jx sig ms 6 h xs ctx=zhw sig ms h xs ctx:=rfl
    rw[hc]
    by_cases he:(zhw sig ms h xs ctx).2=0
    ·have:=hsame (by rw[hc];exact he)
     rw[hc]at this
     cases hs:(zhw sig ms h xs ctx).1.same a<;>rw[hs]at this<;>simp[ha2,AM.partOf,zbr,zkA,hn,he,←Zd,this]
    ·simp[ha2,AM.partOf,zbr,zkA,hn,he]
theorem znO: ∀N,HT sig ms N
 |0=>fun m _ _ _ h=>by have:=QB m;omega
 |N+1=>zrm sig ms (znO N)
end
end Go.Proofs.SZ
namespace Go.Proofs.SZ
open Go Go.AM Go.Ama
section
variable(sig:List D)(ms:List M)
theorem ziX(ctx:List T)(m a:T)(hI:In sig ms ctx [m,a]):Ev 9 [.vec .plain (some 4) (Z2 sig), .vec .plain (some 5) (XX ms), .vec .plain (some 3) (Zi ctx),enc m,enc a] (.int (JI sig ms ctx m a)):=by
 have hl:=hI.l.1
 simp only[sizes]at hl
 have h1:=(zri sig ms ctx [m,a] (fun d hd=>by have:=(hI.s d hd).1;omega) (by have:=hI.sl;omega) (fun d hd=>by have:=(hI.m d hd).1;omega) (by have:=hI.ml;omega) (by have:=hI.c.1;omega) (by have:=hI.l.1;omega)).p (by simp[Zh,below,ZD])
 simp only[QX,zfK]at h1
 unfold Ev JI
 rw[C,Zd m,Zd a,zlN,←Zd m,←Zd a,h1]
 cases hm:znF sig ms ctx [m,a]with
 |false=>simp
 |true=>
  obtain⟨o1,o2⟩:=hI.ok hm
  obtain⟨m1,m2⟩:=o2 m (by simp)
  obtain⟨a1,a2⟩:=o2 a (by simp)
  have hmz:=Qv m1
  have hcl:=(znL.1 hm).1
  have h2:=(znO sig ms m.size m ctx a 4398046511104 (Nat.le_refl _) (by omega) o1 (by omega) m1 m2 a1 a2 (by unfold YC;omega)).p (by simp[Zh,below,ZD])
  simp[h2]
end
end Go.Proofs.SZ
namespace Go.Proofs.SZ
open Go Go.AM
set_option maxRecDepth 20000
end Go.Proofs.SZ
namespace Go.Ama
open Go Go.AM
section
variable{σ:Type}(nx:Int→T→σ→σ)
end
def zpp(l:List Int):List V:=l.map V.int
@[simp] theorem ztE(l:List Int):(zpp l).length=l.length:=by simp[zpp]
@[simp] theorem ztF(a b:List Int):zpp (a++b)=zpp a++zpp b:=by simp[zpp]
@[simp] theorem zup(n:Nat)(l:List Int):Zh n (zpp l)=true:=zbH (fun _=>rfl) l
end Go.Ama
namespace Go.Ama
open Go Go.AM
theorem In.sub{sig:List D}{ms:List M}{all l:List T}(h:In sig ms all l){ctx:List T}(hc: ∀x∈ctx,x∈all)(hs:sizes ctx≤sizes all){r:List T}(hr: ∀x∈r,x∈all)(hrs:sizes r≤sizes all):In sig ms ctx r:=
 ⟨h.s,h.m,⟨Nat.le_trans hs h.c.1,fun x hx=>h.c.2 x (hc x hx)⟩,⟨Nat.le_trans hrs h.c.1,fun x hx=>h.c.2 x (hr x hx)⟩,h.sl,h.ml⟩
end Go.Ama
namespace Go.Proofs.SZ
open Go Go.AM Go.Ama
end Go.Proofs.SZ
namespace Go.Proofs.SZ
open Go Go.AM
set_option maxRecDepth 20000
end Go.Proofs.SZ
namespace Go.Proofs.SZ
open Go Go.AM Go.Ama
end Go.Proofs.SZ
namespace Go.Proofs.SZ
open Go Go.AM Go.Ama
end Go.Proofs.SZ
namespace Go.Proofs.SZ
open Go Go.AM Go.Ama
end Go.Proofs.SZ
namespace Go.Ama
open Go Go.AM
end Go.Ama
namespace Go.Proofs.SZ
open Go Go.AM Go.Ama
theorem zfo{n m:Int}{t:T}(h:zdt n m t=true):low t=true∧(t.size:Int)≤n:=by
 unfold zdt at h
 simp only[Bool.and_eq_true,decide_eq_true_eq]at h
 exact⟨h.1,h.2.1⟩
theorem zlO{B:Int}(hB:1099511627776≤B){t:T}(h:low t=true)(hm:may t=true):okB B t:=zss hB t (zkx hm) h
theorem zt2{sig:List D}(h:zn2 sig=true):sig.length≤30∧ ∀d∈sig,low d.t=true∧d.t.size≤1000:=by
 unfold zn2 at h
 simp only[Bool.and_eq_true,decide_eq_true_eq,List.all_eq_true]at h
 refine⟨h.1,fun d hd=> ?_⟩
 have:=zfo (h.2 d hd)
 exact⟨this.1,by omega⟩
theorem zuq{sig:List D}(h:zn2 sig=true):In sig [] [] []:=by
 obtain⟨g1,g2⟩:=zt2 h
 exact⟨fun d hd=>⟨by have:=(g2 d hd).2;omega,fun hm=>zlO (by omega) (g2 d hd).1 hm⟩,by simp,⟨by simp[sizes],by simp⟩,⟨by simp[sizes],by simp⟩,by omega,by simp⟩
end Go.Proofs.SZ
namespace Go.Proofs.SZ
open Go Go.AM
set_option maxRecDepth 20000
theorem zgP(O:Oracle)(l0:(List V))(n1:Int)(n2:Int)(l3:(List V))(n4:Int)(n5:Int)(l6:(List V)):Zf Tryz.prog cfg O 3 [.vec .plain (some 4) l0, .agg [.int n1, .int n2, .vec .plain (some 3) l3], .agg [.int n4, .int n5, .vec .plain (some 3) l6]] []=
 Za (Zq O 5 []) fun r1=>Zn r1 fun b2=>Za (Zq O 6 [V.vec .plain (some 4) l0]) fun r3=>Zn r3 fun b4=>Za (Zq O 7
 [V.vec .plain (some 4) l0]) fun r5=>Zn r5 fun b6=>Za (Zq O 8 [V.agg [V.int n1,V.int n2,V.vec .plain (some 3) l3],V.int 500,V.int 60]) fun r7=>
 Zn r7 fun b8=>Za (Zq O 8 [V.agg [V.int n4,V.int n5,V.vec .plain (some 3) l6],V.int 500,V.int 60]) fun r9=>Zn r9 fun b10=>bc (!b2) (some
 (Out.ret (V.bool b2),[])) (bc (!b4) (some (Out.ret (V.bool b2),[])) (bc (!b6) (some (Out.ret (V.bool b2),[])) (bc (!b8) (some (Out.ret (V.bool b2),[])) (bc (!b10) (some
 (Out.ret (V.bool b2),[])) (Za (Zq O 9 [V.vec .plain (some 4) l0,V.vec .plain (some 5) [],V.vec .plain (some 3) [],V.agg [V.int n1,V.int n2,V.vec .plain
 (some 3) l3],V.agg [V.int n4,V.int n5,V.vec .plain (some 3) l6]]) fun r11=>Zt r11 fun n12=>bc (n12 !=0) (some (Out.ret (V.bool b2),[])) (Za (Zq O 10
 [V.vec .plain (some 4) l0]) fun r13=>Z4 r13 fun c14=>Ze c14 fun v15 c16=>ZS none v15 fun l17=>Ze c16 fun v18 c19=>Zt v18 fun n20=>Zj c19 (Za
 (Zq O 11 [V.agg [V.int n1,V.int n2,V.vec .plain (some 3) l3],V.vec .plain (some 4) l0]) fun r21=>Z4 r21 fun c22=>Ze c22 fun v23 c24=>ZS none v23 fun
 l25=>Ze c24 fun v26 c27=>Zt v26 fun n28=>Zj c27 (bc (n20 !=0) (some (Out.ret (V.bool (n28==0)),[])) (bc (n28 !=0) (some (Out.ret (V.bool (n28==0)),[])) (bc
 (decide ((↑l25.length:Int)>20000)) (some (Out.ret (V.bool (n28==0)),[])) (Za (Zq O 12 [V.vec .plain none l25,V.vec .plain (some 4) l0]) fun r29=>Z4
 r29 fun c30=>Ze c30 fun v31 c32=>Zc [CT.int,CT.int,CT.slice (some 3)] v31 fun n33 n34 l35=>Ze c32 fun v36 c37=>Zt v36 fun n38=>Zj c37 (bc (n38==
 0) (Za (Zq O 13 [V.agg [V.int n1,V.int n2,V.vec .plain (some 3) l3],V.agg [V.int n33,V.int n34,V.vec .plain (some 3) l35]]) fun r39=>Zn r39 fun b40=>
 some (Out.ret (V.bool b40),[])) (some (Out.ret (V.bool false),[])))))))))))))):=by kernel_rfl
end Go.Proofs.SZ
namespace Go.Ama
open Go.AM (T)
end Go.Ama
namespace Go.Ama
open Go Go.AM
def Wr1(sig:List D)(t:T)(d:Nat):Prop:=okW sig t d=true∧ ∀i,allW (kindB sig) i t=true
theorem zpQ{sig:List D}{k h:Int}{as_:List T}{d:Nat}(hh:(Xc sig k h d).isSome=true)(hk: ∀i,kindB sig i (.mk k h as_)=true)(h1:k≠1)(h3:k≠3)(ha: ∀a∈as_,Wr1 sig a d):Wr1 sig (.mk k h as_) d:=by
 refine⟨zoY hh h1 h3 ?_,fun i=> ?_⟩
 ·rw[ziP,List.all_eq_true]
  exact fun a h=>(ha a h).1
 ·have hb:(decide (k=1)||decide (k=3))=false:=by simp[h1,h3]
  simp only[allW,hb,zdC,hk,Bool.true_and,List.all_eq_true]
  exact fun a h=>(ha a h).2 i
theorem zjG{sig:List D}{h:Int}{b:Bool}{t:T}(e:Xu sig h b=some t):0≤h∧h<sig.length∧decide (zk2 sig h=0)=b:=by
 unfold Xu at e
 split at e
 ·rename_i hc
  refine⟨hc.1,hc.2, ?_⟩
  split at e
  ·rename_i hb
   unfold zk2
   have hn:h.toNat<sig.length:=by omega
   have:(sig.map (·.t)).getD h.toNat T0=sig[h.toNat].t:=by simp[List.getD_eq_getElem?_getD,hn]
   rw[this]
   exact hb
  ·cases e
 ·cases e
theorem zgQ(sig:List D): ∀(as_:List T) (ctx:List T) (t:T),(∀a∈as_,∀(ctx:List T) (b:T),Y5 a=true→Q6 sig [] a ctx b=0→Wr1 sig a ctx.length)→Y6 as_=true→(Yz sig [] as_ ctx t).2=0→ ∀a∈as_,Wr1 sig a ctx.length
 |[],_,_,_,_,_,a,ha=>by cases ha
 |b::as_,ctx,t,ih,hn,e,a,ha=>by
  simp only[Y6,Bool.and_eq_true]at hn
  unfold Yz at e
  by_cases hk:t.k≠1
  ·rw[if_pos hk]at e;cases e
  ·rw[if_neg hk]at e
   dsimp only at e
   by_cases h1:Q6 sig [] b ctx (t.args.getD 0 T0)=0
   ·rw[if_neg (fun c=>c h1)]at e
    rcases List.mem_cons.1 ha with rfl|ha
    ·exact ih a (by simp) ctx _ hn.1 h1
    ·by_cases h2:(YT (t.args.getD 1 T0) [b] 0).2=0
     ·rw[if_neg (fun c=>c h2)]at e
      exact zgQ sig as_ ctx _ (fun x hx=>ih x (by simp[hx])) hn.2 e a ha
     ·rw[if_pos h2]at e
      exact absurd e h2
   ·rw[if_pos h1]at e
    exact absurd e h1
theorem zs8(sig:List D)(m:T): ∀(ctx:List T) (a:T),Y5 m=true→Q6 sig [] m ctx a=0→Wr1 sig m ctx.length:=by
 induction m using T.ind with
 |_ k h as_ ih=>
  intro ctx a hn e
  simp only[Y5,Bool.and_eq_true]at hn
  unfold Q6 at e
  by_cases h3:k=3
  ·subst h3
   by_cases ha:a.k=1
   ·rw[if_pos ⟨rfl,ha⟩]at e
    have hx:=hn.1
    unfold zaL at hx
    simp only[show¬((3:Int)=0) by decide,show¬((3:Int)=1) by decide,if_false,if_true,Bool.and_eq_true,decide_eq_true_eq]at hx
    match as_,hx.2,hn,e,ih with
    |[b],_,hn,e,ih=>
     unfold zs6 at e
     simp only[Y6,Bool.and_eq_true]at hn
     obtain⟨q1,q2⟩:=ih b (by simp) _ _ hn.2.1 e
     rw[List.length_append,List.length_singleton]at q1
     refine⟨?_,fun i=> ?_⟩
     ·unfold okW
      simp[zp8,q1]
     ·simp only[allW,XJ,decide_true,Bool.or_true,cond_true,Bool.and_eq_true]
      exact⟨by simp[kindB,T.k],q2 _⟩
   ·rw[if_neg (fun c=>ha c.2),if_pos (.inl rfl)]at e
    cases e
  ·rw[if_neg (fun c=>h3 c.1)]at e
   by_cases ha:a.k≠2
   ·rw[if_pos (.inr ha)]at e
    cases e
   ·rw[if_neg (by rintro(c|c);exact h3 c;exact ha c)]at e
    dsimp only at e
    have hh:k≠0→k≠1→0≤h:=by
     intro h0 h1
     have hx:=hn.1
     unfold zaL at hx
     rw[if_neg h0,if_neg h1,if_neg h3]at hx
     simp only[Bool.and_eq_true,decide_eq_true_eq]at hx
     exact hx.2.2
    by_cases h4:k=4
    ·subst h4
     rw[if_pos rfl]at e
     by_cases hl:(ctx.length:Int)≤h
     ·rw[if_pos hl]at e;cases e
     ·rw[if_neg hl]at e
      have hs:(Yz sig [] as_ ctx (upP (ctx.getD (ctx.length-1-h.toNat) T0) (h+1) 0)).2=0:=by
       refine Decidable.byContradiction fun c=> ?_
       rw[if_pos c]at e;exact c e
      refine zpQ ?_ (fun i=>by simp[kindB,T.k]) (by decide) (by decide) (zgQ sig as_ ctx _ ih hn.2 hs)
      unfold Xc
      rw[if_pos ⟨rfl,by omega⟩]
      rfl
    ·rw[if_neg h4]at e
     by_cases h5:k=5
     ·subst h5
      rw[if_pos rfl]at e
      cases hd:Xu sig h false with
      |none=>rw[hd]at e;cases e
      |some t=>
       rw[hd]at e
       dsimp only at e
       have hs:(Yz sig [] as_ ctx t).2=0:=by
        refine Decidable.byContradiction fun c=> ?_
        rw[if_pos c]at e;exact c e
       obtain⟨d1,d2,d3⟩:=zjG hd
       refine zpQ ?_ (fun i=> ?_) (by decide) (by decide) (zgQ sig as_ ctx _ ih hn.2 hs)
       ·unfold Xc
        rw[if_neg (fun c=>by cases c.1),if_pos ⟨.inr rfl,d2⟩,Option.isSome_map,List.getElem?_eq_getElem (by omega)]
        rfl
       ·unfold kindB
        simp only[T.k,T.h]
        have:zk2 sig h≠0:=of_decide_eq_false d3
        simp[this]
     ·rw[if_neg h5]at e
      by_cases h6:k=6
      ·subst h6
       have h0:(([]:List M).length:Int)≤h:=by simpa using hh (by decide) (by decide)
       rw[if_pos rfl,if_pos h0]at e
       cases e
      ·rw[if_neg h6]at e
       cases e
theorem zlP{sig:List D}{m a:T}(e:JI sig [] [] m a=0):may m=true∧Wr1 sig m 0:=by
 unfold JI at e
 split at e
 ·rename_i hm
  unfold znF at hm
  simp only[Bool.and_eq_true,List.all_cons]at hm
  exact⟨hm.2.1.1,zs8 sig m [] a (zkx hm.2.1.1) e⟩
 ·cases e
structure GoodD(sig:List D):Prop where
 good:Good sig
 few:sig.length≤40
 each: ∀(i:Nat) (h:i<sig.length),may sig[i].t=true∧Wr1 (sig.take i) sig[i].t 0
theorem Good.take{sig:List D}(G:Good sig)(i:Nat):Good (sig.take i)where
 name d hd:=G.name d (List.mem_of_mem_take hd)
 nodup:=by
  rw[List.map_take]
  exact G.nodup.sublist (List.take_sublist _ _)
theorem zjH{sig:List D}(h:(zdv sig).2=0):Good sig where
 name d hd:=(zgD sig sig [] h d hd).1
 nodup:=by
  unfold List.Nodup
  rw[List.pairwise_iff_getElem]
  intro i j hi hj hij e
  have hjl:j<sig.length:=by simpa using hj
  have hil:i<sig.length:=by omega
  simp only[List.getElem_map]at e
  have h1:=(zgD sig sig [] h sig[j] (List.getElem_mem hjl)).2
  have h2:=znl (l:=sig) hjl hij e.symm
  omega
end Go.Ama
namespace Go.Proofs.SZ
open Go Go.AM Go.Ama
set_option maxRecDepth 100000
theorem znP(sig:List D)(m a:T)(hb:Yq (Z2 sig)≤1048576)(hl:sig.length≤1048576)(hm:m.size≤1048576)(ha:a.size≤1048576):Ev 3 [.vec .plain (some 4) (Z2 sig),enc m,enc a] (.bool true):=by
 unfold Ev
 have hf:=(zqU sig (by omega)).p (by simp[Zh,below,ZD])
 have hli:=(zfe m 500 60 (by omega)).p (by rw[Zh,Q4];simp[Zh,below])
 have hla:=(zfe a 500 60 (by omega)).p (by rw[Zh,Q4];simp[Zh,below])
 have hn:=(zlI sig (by omega)).p (by simp[Zh,below,ZD])
 rw[C,Zd m,Zd a,zgP,←Zd,←Zd,ztj.p,Zb,Zw,hf,Zb,Zw,hn,Zb,Zw,hli,Zb,Zw,hla,Zb,Zw]
 cases hfew:zn2 sig with
 |false=>rfl
 |true=>
 cases hnm:Jt sig with
 |false=>rfl
 |true=>
 cases hlt:zdt 500 60 m with
 |false=>rfl
 |true=>
 cases hlu:zdt 500 60 a with
 |false=>rfl
 |true=>
 simp only[Bool.not_true,Zl]
 obtain⟨hl30,hsz⟩:=zoV hfew
 have hnam:=zn5 hnm
 obtain⟨m1,m2⟩:=zfo hlt
 obtain⟨a1,a2⟩:=zfo hlu
 have I:=zuq hfew
 have I2:In sig [] [] [m,a]:=⟨I.s,I.m,I.c,⟨by simp only[sizes];omega,fun x hx hmx=>by
  simp only[List.mem_cons,List.not_mem_nil,or_false]at hx
  rcases hx with rfl|rfl
  ·exact zlO (by omega) m1 hmx
  ·exact zlO (by omega) a1 hmx⟩,I.sl,I.ml⟩
 have hC:=(ziX sig [] [] m a I2).p (by simp[Zh,below,ZD])
 simp only[zqS,zfK]at hC
 rw[hC,Zb,Yd]
 by_cases he:JI sig [] [] m a=0
 case neg=>rw[show(JI sig [] [] m a !=0)=true by simpa using he];rfl
 case pos=>
 rw[he]
 obtain⟨w1,w2,w3⟩:=zlP he
 have hs:Jr m sig=(text (words sig m 0),0):=by unfold Jr;rw[if_pos w1,if_pos w2]
 have hT:=zum (sig:=sig) (by omega) hnam m (by omega)
 have hTl:=zku (sig:=sig) hnam m
 have hD:=ztv (sig:=sig) (by omega) (fun x hx=>⟨hnam x hx,by have:=hsz x hx;omega⟩)
 rw[←Zd]at hT
 have hbn:((0:Int) !=0)=false:=rfl
 rw[hbn,Zl,hD]
 simp only[Zb,Yo,YS,YG,Yd,ZW]
 rw[hT]
 simp only[Zb,Yo,YS,YG,Yd,ZW]
 rw[hs]at hTl⊢
 simp only[hbn,Zl,zaW]
 by_cases h0:(zdv sig).2=0
 case neg=>rw[show((zdv sig).2 !=0)=true by simpa using h0];rfl
 case pos=>
 rw[h0,hbn,Zl]
 by_cases hlen:(text (words sig m 0)).length≤20000
 case neg=>rw[decide_eq_true (by omega)];rfl
 case pos=>
 have tb:=zrc (zjH h0) w1 w2 w3 hlen
 have t2:=ztw (text (words sig m 0)) sig (by omega) (by omega)
 rw[tb]at t2
 have S:=(zi6 m m (by omega) (by omega)).p
 rw[Zd,zoZ]at S
 rw[decide_eq_false (by omega),Zl,t2]
 simp only[Zb,Yo,YS,Yd,ZW,Qu]
 rw[show((0:Int)==0)=true from rfl,Zs,Zd,S]
 rfl
theorem pure_ShowTerm: ∀us,zka Tryz.prog [22,25,25] us→Yq us≤1048576→ ∃m st,(X5 Tryz.prog cfg ext m).call 3 us []=some (.ret (.bool true),st):=by
 intro us hW hb
 match us,hW with
 |[u,v,w],⟨h1,h2,h3,h4,h5,h6,_⟩=>
  obtain⟨sig,rfl⟩:=zqX ⟨h1,h2⟩
  obtain⟨t,rfl⟩:=zn4 ⟨h3,h4⟩
  obtain⟨a,rfl⟩:=zn4 ⟨h5,h6⟩
  have b1:=zfL t
  have b2:=zfL a
  have b3:=zk0 sig
  simp only[Yq,Qe]at hb
  have b4:Yq (Z2 sig)≤1048576:=by omega
  exact zuR (znP sig t a b4 (by omega) (by omega) (by omega))
end Go.Proofs.SZ
