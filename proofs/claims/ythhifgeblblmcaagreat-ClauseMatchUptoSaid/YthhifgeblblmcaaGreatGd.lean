import Derived.Test.YthhifgeblblmcaaGreatGa
import Derived.KernelRfl
import Derived.Test.YthhifgeblblmcaaGreatGb
import Derived.Test.YthhifgeblblmcaaGreatGc
import Derived.Test.YthhifgeblblmcaaGreatAMd
/- The program's functions, each an equation of the abstract machine checked by the kernel, and what they come to as_ plain Lean. -/
set_option linter.unusedVariables false
set_option linter.unusedSimpArgs false
set_option linter.unusedSectionVars false
namespace Go.Proofs.CL
open Go Go.AM
set_option maxRecDepth 20000
theorem zh4(O:Oracle)(ov:List V)(sg fs:List V)(c1 c2:List V)(c3 c4:Int)(c5 c6:List V)(c7 c8:Int)(c9:List V)(s1:ByteArray)(l2 l3 l4:List V)(n5 n6:Int)(l7 l8:List V)(n9 n10:Int)(l11:List V)(b12:Bool)(l13:List V):Ze Tryz.prog cfg O 53 [.cptr (some 9) (.agg [.vec .plain (some 5) c1, .vec .plain (some 3) c2, .int c3, .int c4, .vec .plain (some 3) c5, .vec .plain (some 6) c6, .int c7, .int c8, .vec .plain (some 3) c9]), .cptr none (.vec .plain (some 13) fs), .cptr none (.vec .plain (some 4) sg), .ref 0 0, .cptr (some 13) (.agg [.str s1, .vec .plain (some 3) l2, .vec .plain (some 5) l3, .vec .plain (some 3) l4, .int n5, .int n6, .vec .plain (some 3) l7, .vec .plain (some 3) l8, .int n9, .int n10, .vec .plain (some 3) l11, .bool b12, .vec .plain (some 9) l13])] [.box [.vec .full (some 5) ov]]=
 Za (O.loop 53 2 [V.int 0,V.ref 0 0,V.cptr none (V.vec .plain (some 13) fs),V.cptr (some 13) (V.agg [V.str s1,V.vec .plain (some 3) l2,V.vec .plain (some 5)
 l3,V.vec .plain (some 3) l4,V.int n5,V.int n6,V.vec .plain (some 3) l7,V.vec .plain (some 3) l8,V.int n9,V.int n10,V.vec .plain (some 3) l11,V.bool b12,V.vec .plain
 (some 9) l13]),V.cptr none (V.vec .plain (some 4) sg),V.vec .plain (some 6) c6,V.int (↑c6.length:Int)] [Res.box [V.vec Mode.full (some 5) ov]]) fun r1=>Y8 r1.fst none
 (Zd r1.snd.fst fun v2 c3=>Zl v2 fun n4=>Zn c3 (Yt [Res.box [V.vec Mode.full (some 5) ov]].length (V.int n4) r1.snd.snd)) (fun i5=>bc (i5.beq 0) (Zn r1.snd.fst
 (Yt [Res.box [V.vec Mode.full (some 5) ov]].length (V.int 0) r1.snd.snd)) none) fun v6=>none:=by kernel_rfl
theorem Xp(O:Oracle)(i n:Int)(sg fs cs ov:List V)(s1:ByteArray)(l2 l3 l4:List V)(n5 n6:Int)(l7 l8:List V)(n9 n10:Int)(l11:List V)(b12:Bool)(l13:List V):Z1 Tryz.prog cfg O 53 2 [.int i, .ref 0 0, .cptr none (.vec .plain (some 13) fs), .cptr (some 13) (.agg [.str s1, .vec .plain (some 3) l2, .vec .plain (some 5) l3, .vec .plain (some 3) l4, .int n5, .int n6, .vec .plain (some 3) l7, .vec .plain (some 3) l8, .int n9, .int n10, .vec .plain (some 3) l11, .bool b12, .vec .plain (some 9) l13]), .cptr none (.vec .plain (some 4) sg), .vec .plain (some 6) cs, .int n] [.box [.vec .full (some 5) ov]]=
 bc (decide (i<n)) (gd (decide (0≤i)&&decide (i<(↑cs.length:Int))) (Zc [CT.int,CT.slice (some 3),CT.slice (some 3),CT.int,CT.int,CT.slice (some 3)] (ZA cs i)
 fun n1 l2_1 l3_1 n4 n5_1 l6=>bc (decide (n1<0)) (some (Ex.ret,[V.int 2],[Res.box [V.vec Mode.full (some 5) ov]])) (bc (decide (n1≥(↑fs.length:Int))) (some (Ex.ret,
 [V.int 2],[Res.box [V.vec Mode.full (some 5) ov]])) (gd (decide (0≤n1)&&decide (n1<(↑fs.length:Int))) (Zc [CT.str,CT.slice (some 3),CT.slice (some 5),CT.slice
 (some 3),CT.int,CT.int,CT.slice (some 3),CT.slice (some 3),CT.int,CT.int,CT.slice (some 3),CT.bool,CT.slice (some 9)] (ZA fs n1) fun s7 l8_1 l9 l10 n11 n12 l13_1 l14
 n15 n16 l17 b18 l19=>Za (Zj O 19 [V.vec .plain (some 4) sg,V.vec .plain (some 5) ov,V.agg [V.str s1,V.vec .plain (some 3) l2,V.vec .plain (some 5) l3,
 V.vec .plain (some 3) l4,V.int n5,V.int n6,V.vec .plain (some 3) l7,V.vec .plain (some 3) l8,V.int n9,V.int n10,V.vec .plain (some 3) l11,V.bool b12,V.vec .plain (some 9)
 l13],V.agg [V.str s7,V.vec .plain (some 3) l8_1,V.vec .plain (some 5) l9,V.vec .plain (some 3) l10,V.int n11,V.int n12,V.vec .plain (some 3) l13_1,V.vec .plain (some 3)
 l14,V.int n15,V.int n16,V.vec .plain (some 3) l17,V.bool b18,V.vec .plain (some 9) l19],V.agg [V.int n1,V.vec .plain (some 3) l2_1,V.vec .plain (some 3) l3_1,V.int n4,
 V.int n5_1,V.vec .plain (some 3) l6]]) fun r20=>ZG r20 fun c21=>Zd c21 fun v22 c23=>Zc [CT.slice (some 3),CT.int,CT.int,CT.slice (some 3),CT.bool] v22 fun
 l24 n25 n26 l27 b28=>Zd c23 fun v29 c30=>Zl v29 fun n31=>Zn c30 (bc (n31 !=0) (some (Ex.ret,[V.int n31],[Res.box [V.vec Mode.full (some 5) ov]])) (gd (true&&
 roomFor Tryz.prog 47 (ov.length+[V.agg [V.vec .plain (some 3) l24,V.int n25,V.int n26,V.vec .plain (some 3) l27,V.bool b28]].length)) (O.2 53 2
 [V.int (IntKind.i64.wrap (i+1)),V.ref 0 0,V.cptr none (V.vec .plain (some 13) fs),V.cptr (some 13) (V.agg [V.str s1,V.vec .plain (some 3) l2,V.vec .plain (some 5) l3,V.vec
 .plain (some 3) l4,V.int n5,V.int n6,V.vec .plain (some 3) l7,V.vec .plain (some 3) l8,V.int n9,V.int n10,V.vec .plain (some 3) l11,V.bool b12,V.vec .plain (some 9)
 l13]),V.cptr none (V.vec .plain (some 4) sg),V.vec .plain (some 6) cs,V.int n] [Res.box [V.vec Mode.grow (some 5) (ov++[V.agg [V.vec .plain (some 3) l24,V.int n25,V.int
 n26,V.vec .plain (some 3) l27,V.bool b28]])]])))))))) (some (Ex.exit 0,[],[Res.box [V.vec Mode.full (some 5) ov]])):=by kernel_rfl
theorem zh5(O:Oracle)(ov:List V)(c1 c2:List V)(c3 c4:Int)(c5 c6:List V)(c7 c8:Int)(c9:List V):Ze Tryz.prog cfg O 54 [.cptr (some 9) (.agg [.vec .plain (some 5) c1, .vec .plain (some 3) c2, .int c3, .int c4, .vec .plain (some 3) c5, .vec .plain (some 6) c6, .int c7, .int c8, .vec .plain (some 3) c9])] [.box [.vec .full (some 5) ov]]=
 Za (Zj O 49 [V.bool (decide ((↑c6.length:Int)≤40)),V.int 4]) fun r1=>Zl r1 fun n2=>some (Out.ret (V.int n2),[Res.box [V.vec Mode.full (some 5)
 ov]]):=by kernel_rfl
theorem zh6(O:Oracle)(ov:List V)(sg:List V)(c1 c2:List V)(c3 c4:Int)(c5 c6:List V)(c7 c8:Int)(c9:List V):Ze Tryz.prog cfg O 55 [.cptr none (.vec .plain (some 4) sg), .cptr (some 9) (.agg [.vec .plain (some 5) c1, .vec .plain (some 3) c2, .int c3, .int c4, .vec .plain (some 3) c5, .vec .plain (some 6) c6, .int c7, .int c8, .vec .plain (some 3) c9])] [.box [.vec .full (some 5) ov]]=
 Za (Zj O 44 [V.vec .plain (some 4) sg,V.vec .plain (some 5) c1]) fun r1=>Zl r1 fun n2=>some (Out.ret (V.int n2),[Res.box [V.vec Mode.full (some 5) ov]]):=by kernel_rfl
theorem zh7(O:Oracle)(ov:List V)(sg:List V)(c1 c2:List V)(c3 c4:Int)(c5 c6:List V)(c7 c8:Int)(c9:List V)(s1:ByteArray)(l2 l3 l4:List V)(n5 n6:Int)(l7 l8:List V)(n9 n10:Int)(l11:List V)(b12:Bool)(l13:List V):Ze Tryz.prog cfg O 56 [.cptr none (.vec .plain (some 4) sg), .cptr (some 9) (.agg [.vec .plain (some 5) c1, .vec .plain (some 3) c2, .int c3, .int c4, .vec .plain (some 3) c5, .vec .plain (some 6) c6, .int c7, .int c8, .vec .plain (some 3) c9]), .cptr (some 13) (.agg [.str s1, .vec .plain (some 3) l2, .vec .plain (some 5) l3, .vec .plain (some 3) l4, .int n5, .int n6, .vec .plain (some 3) l7, .vec .plain (some 3) l8, .int n9, .int n10, .vec .plain (some 3) l11, .bool b12, .vec .plain (some 9) l13])] [.box [.vec .full (some 5) ov]]=
 Za (Zj O 25 [V.vec .plain (some 4) sg,V.vec .plain (some 5) c1,V.vec .plain (some 3) [],V.vec .plain (some 5) l3,V.vec .plain (some 3) c2]) fun r1=>Zl r1
 fun n2=>some (Out.ret (V.int n2),[Res.box [V.vec Mode.full (some 5) ov]]):=by kernel_rfl
theorem zh8(O:Oracle)(ov:List V)(sg:List V)(c1 c2:List V)(c3 c4:Int)(c5 c6:List V)(c7 c8:Int)(c9:List V)(s1:ByteArray)(l2 l3 l4:List V)(n5 n6:Int)(l7 l8:List V)(n9 n10:Int)(l11:List V)(b12:Bool)(l13:List V):Ze Tryz.prog cfg O 57 [.cptr none (.vec .plain (some 4) sg), .cptr (some 9) (.agg [.vec .plain (some 5) c1, .vec .plain (some 3) c2, .int c3, .int c4, .vec .plain (some 3) c5, .vec .plain (some 6) c6, .int c7, .int c8, .vec .plain (some 3) c9]), .cptr (some 13) (.agg [.str s1, .vec .plain (some 3) l2, .vec .plain (some 5) l3, .vec .plain (some 3) l4, .int n5, .int n6, .vec .plain (some 3) l7, .vec .plain (some 3) l8, .int n9, .int n10, .vec .plain (some 3) l11, .bool b12, .vec .plain (some 9) l13])] [.box [.vec .full (some 5) ov]]=
 Za (Zj O 58 [V.vec .plain (some 4) sg,V.vec .plain (some 5) c1,V.vec .plain (some 3) [],V.vec .plain (some 3) l4,V.agg [V.int n5,V.int n6,V.vec .plain
 (some 3) l7],V.vec .plain (some 3) c2,V.agg [V.int c3,V.int c4,V.vec .plain (some 3) c5]]) fun r1=>Zl r1 fun n2=>some (Out.ret (V.int n2),[Res.box [V.vec Mode.full
 (some 5) ov]]):=by kernel_rfl
theorem zh9(O:Oracle)(ov:List V)(c1 c2:List V)(c3 c4:Int)(c5 c6:List V)(c7 c8:Int)(c9:List V)(s1:ByteArray)(l2 l3 l4:List V)(n5 n6:Int)(l7 l8:List V)(n9 n10:Int)(l11:List V)(b12:Bool)(l13:List V):Ze Tryz.prog cfg O 59 [.cptr (some 9) (.agg [.vec .plain (some 5) c1, .vec .plain (some 3) c2, .int c3, .int c4, .vec .plain (some 3) c5, .vec .plain (some 6) c6, .int c7, .int c8, .vec .plain (some 3) c9]), .cptr (some 13) (.agg [.str s1, .vec .plain (some 3) l2, .vec .plain (some 5) l3, .vec .plain (some 3) l4, .int n5, .int n6, .vec .plain (some 3) l7, .vec .plain (some 3) l8, .int n9, .int n10, .vec .plain (some 3) l11, .bool b12, .vec .plain (some 9) l13])] [.box [.vec .full (some 5) ov]]=
 Za (Zj O 60 [V.agg [V.int c3,V.int c4,V.vec .plain (some 3) c5],V.int (↑l4.length:Int),V.int (↑c1.length:Int)]) fun r1=>Zl r1 fun n2=>some
 (Out.ret (V.int n2),[Res.box [V.vec Mode.full (some 5) ov]]):=by kernel_rfl
theorem zhA(O:Oracle)(ov:List V)(sg:List V)(c1 c2:List V)(c3 c4:Int)(c5 c6:List V)(c7 c8:Int)(c9:List V)(s1:ByteArray)(l2 l3 l4:List V)(n5 n6:Int)(l7 l8:List V)(n9 n10:Int)(l11:List V)(b12:Bool)(l13:List V):Ze Tryz.prog cfg O 61 [.cptr none (.vec .plain (some 4) sg), .ref 0 0, .cptr (some 13) (.agg [.str s1, .vec .plain (some 3) l2, .vec .plain (some 5) l3, .vec .plain (some 3) l4, .int n5, .int n6, .vec .plain (some 3) l7, .vec .plain (some 3) l8, .int n9, .int n10, .vec .plain (some 3) l11, .bool b12, .vec .plain (some 9) l13]), .cptr (some 9) (.agg [.vec .plain (some 5) c1, .vec .plain (some 3) c2, .int c3, .int c4, .vec .plain (some 3) c5, .vec .plain (some 6) c6, .int c7, .int c8, .vec .plain (some 3) c9])] [.box [.vec .full (some 5) ov]]=
 Za (Zj O 58 [V.vec .plain (some 4) sg,V.vec .plain (some 5) ov,V.vec .plain (some 3) [],V.vec .plain (some 3) l8,V.agg [V.int n9,V.int n10,V.vec .plain
 (some 3) l11],V.vec .plain (some 3) c2,V.agg [V.int c7,V.int c8,V.vec .plain (some 3) c9]]) fun r1=>Zl r1 fun n2=>some (Out.ret (V.int n2),[Res.box [V.vec Mode.full
 (some 5) ov]]):=by kernel_rfl
theorem YS(O:Oracle)(i n:Int)(sg fs cs ov:List V)(s1:ByteArray)(l2 l3 l4:List V)(n5 n6:Int)(l7 l8:List V)(n9 n10:Int)(l11:List V)(b12:Bool)(l13:List V):Z1 Tryz.prog cfg O 53 2 [.int i, .ref 0 0, .cptr none (.vec .plain (some 13) fs), .cptr (some 13) (.agg [.str s1, .vec .plain (some 3) l2, .vec .plain (some 5) l3, .vec .plain (some 3) l4, .int n5, .int n6, .vec .plain (some 3) l7, .vec .plain (some 3) l8, .int n9, .int n10, .vec .plain (some 3) l11, .bool b12, .vec .plain (some 9) l13]), .cptr none (.vec .plain (some 4) sg), .vec .plain (some 6) cs, .int n] [.box [.vec .grow (some 5) ov]]=
 bc (decide (i<n)) (gd (decide (0≤i)&&decide (i<(↑cs.length:Int))) (Zc [CT.int,CT.slice (some 3),CT.slice (some 3),CT.int,CT.int,CT.slice (some 3)] (ZA cs i)
 fun n1 l2_1 l3_1 n4 n5_1 l6=>bc (decide (n1<0)) (some (Ex.ret,[V.int 2],[Res.box [V.vec Mode.grow (some 5) ov]])) (bc (decide (n1≥(↑fs.length:Int))) (some (Ex.ret,
 [V.int 2],[Res.box [V.vec Mode.grow (some 5) ov]])) (gd (decide (0≤n1)&&decide (n1<(↑fs.length:Int))) (Zc [CT.str,CT.slice (some 3),CT.slice (some 5),CT.slice
 (some 3),CT.int,CT.int,CT.slice (some 3),CT.slice (some 3),CT.int,CT.int,CT.slice (some 3),CT.bool,CT.slice (some 9)] (ZA fs n1) fun s7 l8_1 l9 l10 n11 n12 l13_1 l14
 n15 n16 l17 b18 l19=>Za (Zj O 19 [V.vec .plain (some 4) sg,V.vec .plain (some 5) ov,V.agg [V.str s1,V.vec .plain (some 3) l2,V.vec .plain (some 5) l3,
 V.vec .plain (some 3) l4,V.int n5,V.int n6,V.vec .plain (some 3) l7,V.vec .plain (some 3) l8,V.int n9,V.int n10,V.vec .plain (some 3) l11,V.bool b12,V.vec .plain (some 9)
 l13],V.agg [V.str s7,V.vec .plain (some 3) l8_1,V.vec .plain (some 5) l9,V.vec .plain (some 3) l10,V.int n11,V.int n12,V.vec .plain (some 3) l13_1,V.vec .plain (some 3)
 l14,V.int n15,V.int n16,V.vec .plain (some 3) l17,V.bool b18,V.vec .plain (some 9) l19],V.agg [V.int n1,V.vec .plain (some 3) l2_1,V.vec .plain (some 3) l3_1,V.int n4,
 V.int n5_1,V.vec .plain (some 3) l6]]) fun r20=>ZG r20 fun c21=>Zd c21 fun v22 c23=>Zc [CT.slice (some 3),CT.int,CT.int,CT.slice (some 3),CT.bool] v22 fun
 l24 n25 n26 l27 b28=>Zd c23 fun v29 c30=>Zl v29 fun n31=>Zn c30 (bc (n31 !=0) (some (Ex.ret,[V.int n31],[Res.box [V.vec Mode.grow (some 5) ov]])) (gd (true&&
 roomFor Tryz.prog 47 (ov.length+[V.agg [V.vec .plain (some 3) l24,V.int n25,V.int n26,V.vec .plain (some 3) l27,V.bool b28]].length)) (O.2 53 2
 [V.int (IntKind.i64.wrap (i+1)),V.ref 0 0,V.cptr none (V.vec .plain (some 13) fs),V.cptr (some 13) (V.agg [V.str s1,V.vec .plain (some 3) l2,V.vec .plain (some 5) l3,V.vec
 .plain (some 3) l4,V.int n5,V.int n6,V.vec .plain (some 3) l7,V.vec .plain (some 3) l8,V.int n9,V.int n10,V.vec .plain (some 3) l11,V.bool b12,V.vec .plain (some 9)
 l13]),V.cptr none (V.vec .plain (some 4) sg),V.vec .plain (some 6) cs,V.int n] [Res.box [V.vec Mode.grow (some 5) (ov++[V.agg [V.vec .plain (some 3) l24,V.int n25,V.int
 n26,V.vec .plain (some 3) l27,V.bool b28]])]])))))))) (some (Ex.exit 0,[],[Res.box [V.vec Mode.grow (some 5) ov]])):=by kernel_rfl
theorem zfb(O:Oracle)(ov:List V)(sg:List V)(c1 c2:List V)(c3 c4:Int)(c5 c6:List V)(c7 c8:Int)(c9:List V)(s1:ByteArray)(l2 l3 l4:List V)(n5 n6:Int)(l7 l8:List V)(n9 n10:Int)(l11:List V)(b12:Bool)(l13:List V):Ze Tryz.prog cfg O 61 [.cptr none (.vec .plain (some 4) sg), .ref 0 0, .cptr (some 13) (.agg [.str s1, .vec .plain (some 3) l2, .vec .plain (some 5) l3, .vec .plain (some 3) l4, .int n5, .int n6, .vec .plain (some 3) l7, .vec .plain (some 3) l8, .int n9, .int n10, .vec .plain (some 3) l11, .bool b12, .vec .plain (some 9) l13]), .cptr (some 9) (.agg [.vec .plain (some 5) c1, .vec .plain (some 3) c2, .int c3, .int c4, .vec .plain (some 3) c5, .vec .plain (some 6) c6, .int c7, .int c8, .vec .plain (some 3) c9])] [.box [.vec .grow (some 5) ov]]=
 Za (Zj O 58 [V.vec .plain (some 4) sg,V.vec .plain (some 5) ov,V.vec .plain (some 3) [],V.vec .plain (some 3) l8,V.agg [V.int n9,V.int n10,V.vec .plain
 (some 3) l11],V.vec .plain (some 3) c2,V.agg [V.int c7,V.int c8,V.vec .plain (some 3) c9]]) fun r1=>Zl r1 fun n2=>some (Out.ret (V.int n2),[Res.box [V.vec Mode.grow
 (some 5) ov]]):=by kernel_rfl
end Go.Proofs.CL
namespace Go.Proofs.CL
open Go Go.AM Go.Ama
end Go.Proofs.CL
namespace Go.Proofs.CL
open Go Go.AM Go.Ama
end Go.Proofs.CL
namespace Go.Proofs.CL
open Go Go.AM
set_option maxRecDepth 20000
end Go.Proofs.CL
namespace Go.Proofs.CL
open Go Go.AM Go.Ama
end Go.Proofs.CL
namespace Go.Proofs.CL
open Go Go.AM
set_option maxRecDepth 20000
end Go.Proofs.CL
namespace Go.Proofs.CL
open Go Go.AM Go.Ama
end Go.Proofs.CL
namespace Go.Proofs.CL
open Go Go.AM
set_option maxRecDepth 20000
end Go.Proofs.CL
namespace Go.Proofs.CL
open Go Go.AM Go.Ama
end Go.Proofs.CL
namespace Go.Proofs.CL
open Go Go.AM Go.Ama
end Go.Proofs.CL
namespace Go.Proofs.CL
open Go Go.AM Go.Ama
theorem zx2:((Tryz.prog.info? 47).map (·.bytes)).getD 0=72:=by kernel_rfl
theorem zys{n:Nat}(h:n≤1099511627776):roomFor Tryz.prog 47 n=true:=by
 unfold roomFor
 rw[zx2]
 simp
 omega
end Go.Proofs.CL
namespace Go.Proofs.CL
open Go Go.AM Go.Ama
set_option maxRecDepth 100000
theorem zfc{R:Type}(c:Cal)(K:Int→List V→List V→Int→Int→List V→Option R):Zc (R:=R) [CT.int,CT.slice (some 3),CT.slice (some 3),CT.int,CT.int,CT.slice (some 3)] (XI c) K=K c.f (Zg c.ext) (Zg c.theta) c.arg.k c.arg.h (Zg c.arg.args):=rfl
theorem znn{R:Type}(f:Fun1)(K:ByteArray→List V→List V→List V→Int→Int→List V→List V→Int→Int→List V→Bool→List V→Option R):Zc (R:=R) [CT.str,CT.slice (some 3),CT.slice (some 5),CT.slice (some 3),CT.int,CT.int,CT.slice (some 3),CT.slice (some 3),CT.int,CT.int,CT.slice (some 3),CT.bool,CT.slice (some 9)] (Ql f) K=
  K (ba f.name) (Zg f.schema) (ZH f.delta) (Zg f.psi) f.a.k f.a.h (Zg f.a.args) (Zg f.phi) f.b.k f.b.h (Zg f.b.args) f.total (zaR f.clauses):=rfl
def bx(b:Bool)(ov:List M):Res:= .box [.vec (bif b then .grow else .full) (some 5) (ZH ov)]
theorem zsh(ov:List M):bx true ov= .box [.vec .grow (some 5) (ZH ov)]:=rfl
theorem zhB(ov:List M):bx false ov= .box [.vec .full (some 5) (ZH ov)]:=rfl
theorem zsi{sig:List D}{funs:List Fun1}{f:Fun1}(hs:sig.length≤1000∧ ∀d∈sig,Hd d.t)(hfs:funs.length≤1000∧ ∀g∈funs,LoFn g)(hf:LoFn f)(cs:List Cal)(hcl:cs.length≤60)(hc: ∀x∈cs,LoCal x):
  ∀(n i:Nat) (b:Bool) (ov:List M),cs.length-i=n→i≤cs.length→ov.length≤100+i→(∀m∈ov,HdM m)→ ∃b':Bool,
   W.loop 53 2 [.int (i:Int), .ref 0 0, .cptr none (.vec .plain (some 13) (QC funs)), .cptr (some 13) (Ql f), .cptr none (.vec .plain (some 4) (Yo sig)), .vec .plain (some 6) (Qk cs), .int cs.length] [bx b ov]=
    some (if(XH sig funs f (cs.drop i) ov).2=0 then(.exit 0,[],[bx b' (XH sig funs f (cs.drop i) ov).1])else(.ret,[.int (XH sig funs f (cs.drop i) ov).2],[bx b' (XH sig funs f (cs.drop i) ov).1])):=by
 intro n
 induction n with
 |zero=>
  intro i b ov hn hi hol ho
  have:i=cs.length:=by omega
  subst this
  refine⟨b, ?_⟩
  rw[List.drop_length]
  unfold XH
  cases b
  ·rw[L,zhB,Z8 f,Xp];simp
  ·rw[L,zsh,Z8 f,YS];simp
 |succ n ih=>
  intro i b ov hn hi hol ho
  have hlt:i<cs.length:=by omega
  have hlt':(i:Int)<cs.length:=by omega
  have hw:IntKind.i64.wrap ((i:Int)+1)=((i+1:Nat):Int):=by rw[Zq ⟨by omega,by omega⟩];omega
  rw[List.drop_eq_getElem_cons hlt]
  have hx:=hc _ (List.getElem_mem hlt)
  have hgc:=zfR hlt
  generalize cs[i]=x at hx hgc⊢
  unfold XH
  by_cases hr:0≤x.f∧x.f<funs.length
  ·have hn':x.f.toNat<funs.length:=by omega
   have hg:=zco hn'
   have hxe:((x.f.toNat:Nat):Int)=x.f:=by omega
   rw[hxe]at hg
   have hfn:=hfs.2 _ (List.getElem_mem hn')
   have hcd:=(zqB (over:=ov) hs ⟨by omega,ho⟩ hf hfn hx).p (by simp[Zm,below,Zv,Z8,YR])
   have h1: ¬x.f<0:=by omega
   have h2: ¬x.f≥funs.length:=by omega
   rw[dif_pos hr]
   dsimp only
   by_cases he:(Xt sig ov f funs[x.f.toNat] x).2=0
   ·obtain⟨b',hb'⟩:=ih (i+1) true (ov++[(Xt sig ov f funs[x.f.toNat] x).1]) (by omega) (by omega) (by simp;omega) (fun m hm=>by
     rcases List.mem_append.1 hm with hm|hm
     ·exact ho m hm
     ·rw[List.mem_singleton]at hm;rw[hm];exact zli hfn hx)
    refine⟨b', ?_⟩
    rw[show(if(Xt sig ov f funs[x.f.toNat] x).2≠0 then(ov,(Xt sig ov f funs[x.f.toNat] x).2)else XH sig funs f (cs.drop (i+1)) (ov++[(Xt sig ov f funs[x.f.toNat] x).1]))=XH sig funs f (cs.drop (i+1)) (ov++[(Xt sig ov f funs[x.f.toNat] x).1])from if_neg (by simpa using he),←hb']
    have hrm:roomFor Tryz.prog 47 (ov.length+1)=true:=zys (by omega)
    have hap:ZH (ov++[(Xt sig ov f funs[x.f.toNat] x).1])=ZH ov++[zaw (Xt sig ov f funs[x.f.toNat] x).1]:=by simp[ZH]
    rw[zsh,hap]
    have hcd':=hcd
    rw[Z8 f]at hcd'
    cases b
    ·rw[L,zhB,Z8 f,Xp,hw,hgc]
     simp only[hlt',ZW,Y5,ZL,Int.natCast_nonneg,decide_true,Zr,Bool.and_self,Zz,zfc,h1,h2,decide_false,Zo,hr.1,hr.2,hg,znn,←Zb,←Z8,←YR,hcd,Zf,Y1,ZE,onM,Z2,ZN,he,bne_self_eq_false,←X1,List.length_cons,List.length_nil,Nat.zero_add,hrm]
    ·rw[L,zsh,Z8 f,YS,hw,hgc]
     simp only[hlt',ZW,Y5,ZL,Int.natCast_nonneg,decide_true,Zr,Bool.and_self,Zz,zfc,h1,h2,decide_false,Zo,hr.1,hr.2,hg,znn,←Zb,←Z8,←YR,hcd,Zf,Y1,ZE,onM,Z2,ZN,he,bne_self_eq_false,←X1,List.length_cons,List.length_nil,Nat.zero_add,hrm]
   ·refine⟨b, ?_⟩
    rw[show(if(Xt sig ov f funs[x.f.toNat] x).2≠0 then(ov,(Xt sig ov f funs[x.f.toNat] x).2)else XH sig funs f (cs.drop (i+1)) (ov++[(Xt sig ov f funs[x.f.toNat] x).1]))=(ov,(Xt sig ov f funs[x.f.toNat] x).2)from if_pos (by simpa using he)]
    dsimp only
    rw[if_neg (by simpa using he)]
    have he':((Xt sig ov f funs[x.f.toNat] x).2 !=0)=true:=by simpa using he
    cases b
    ·rw[L,zhB,Z8 f,Xp,hw,hgc]
     simp only[hlt',ZW,Y5,ZL,Int.natCast_nonneg,decide_true,Zr,Bool.and_self,Zz,zfc,h1,h2,decide_false,Zo,hr.1,hr.2,hg,znn,←Zb,←Z8,←YR,hcd,Zf,Y1,ZE,onM,Z2,ZN,he']
    ·rw[L,zsh,Z8 f,YS,hw,hgc]
     simp only[hlt',ZW,Y5,ZL,Int.natCast_nonneg,decide_true,Zr,Bool.and_self,Zz,zfc,h1,h2,decide_false,Zo,hr.1,hr.2,hg,znn,←Zb,←Z8,←YR,hcd,Zf,Y1,ZE,onM,Z2,ZN,he']
  ·refine⟨b, ?_⟩
   rw[dif_neg hr]
   dsimp only
   rw[if_neg (by omega)]
   by_cases h1:x.f<0
   ·cases b
    ·rw[L,zhB,Z8 f,Xp,hw,hgc]
     simp only[hlt',ZW,Int.natCast_nonneg,decide_true,Zr,Bool.and_self,Zz,zfc,h1]
    ·rw[L,zsh,Z8 f,YS,hw,hgc]
     simp only[hlt',ZW,Int.natCast_nonneg,decide_true,Zr,Bool.and_self,Zz,zfc,h1]
   ·have h2:x.f≥funs.length:=by omega
    cases b
    ·rw[L,zhB,Z8 f,Xp,hw,hgc]
     simp only[hlt',ZW,Y5,Int.natCast_nonneg,decide_true,Zr,Bool.and_self,Zz,zfc,h1,h2,decide_false,Zo]
    ·rw[L,zsh,Z8 f,YS,hw,hgc]
     simp only[hlt',ZW,Y5,Int.natCast_nonneg,decide_true,Zr,Bool.and_self,Zz,zfc,h1,h2,decide_false,Zo]
def FirstsE(l:List V)(st:St)(e:Int):Prop:= ∃st',st'.length=st.length∧Firsts l st e st'
theorem FirstsE.one{g:Nat}{b l:List V}{st st1:St}{e:Int}{es:List Int}(hp:cfg.pure g=false)(h:W.call g b st=some (.ret (.int e),st1))(hl:st1.length=st.length)(t:e=0→FirstsE l st1 (Jk es)):FirstsE (.fn g [] b::l) st (Jk (e::es)):=by
 unfold Jk
 by_cases he:e=0
 ·subst he
  obtain⟨st',h1,h2⟩:=t rfl
  exact⟨st',h1.trans hl, .ok hp h h2⟩
 ·rw[if_pos he];exact⟨st1,hl, .bad hp h he⟩
theorem zsj{sig:List D}{over:List M}{ext ctx θ:List T}{a t:T}(h:zaS sig over ext ctx a θ t=0):may t=true:=by
 unfold zaS at h
 dsimp only at h
 by_cases c:(Xs ext ctx a θ).2=0
 ·rw[if_neg (by simpa using c)]at h
  unfold YW at h
  by_cases hw:zi4 sig over (Xs ext ctx a θ).1.ctx [t,(Xs ext ctx a θ).1.t]=true
  ·exact(zbK.1 hw).2.1 t (by simp)
  ·rw[if_neg hw]at h;cases h
 ·rw[if_pos c]at h;exact absurd h c
theorem zqC{sig:List D}{funs:List Fun1}{no:Int}{c:Cl}(hs:sig.length≤1000∧ ∀d∈sig,Hd d.t)(hfs:funs.length≤1000∧ ∀g∈funs,LoFn g)(hc:LoCl c):
  Ev 15 [.vec .plain (some 4) (Yo sig), .vec .plain (some 13) (QC funs), .int no,Q7 c] (.int (zfx sig funs no c)):=by
 unfold Ev zfx
 rw[C,Y2 c,zjO,Y5,←Y2 c]
 by_cases hr:0≤no∧no<funs.length
 ·have hn':no.toNat<funs.length:=by omega
  have hg:=zco hn'
  have hxe:((no.toNat:Nat):Int)=no:=by omega
  rw[hxe]at hg
  have hf:=hfs.2 _ (List.getElem_mem hn')
  have h1: ¬no<0:=by omega
  have h2: ¬no≥funs.length:=by omega
  rw[dif_pos hr]
  dsimp only
  generalize funs[no.toNat]=f at hf hg⊢
  have hm:c.metas.length≤1000∧ ∀m∈c.metas,HdM m:=⟨by have:=hc.mlen;omega,fun m h=>(hc.metas m h).hd⟩
  obtain⟨r1,r2⟩:=znf (sig:=sig) (funs:=funs) (f:=f) hfs.2 c.calls c.metas hc.calls hm.2
  obtain⟨b',hb'⟩:=zsi hs hfs hf c.calls hc.clen hc.calls _ 0 false c.metas rfl (Nat.zero_le _) (by have:=hc.mlen;omega) hm.2
  simp only[Int.natCast_zero,List.drop_zero]at hb'
  have hm':(XH sig funs f c.calls c.metas).1.length≤1000∧ ∀m∈(XH sig funs f c.calls c.metas).1,HdM m:=⟨by have:=hc.mlen;have:=hc.clen;omega,r1⟩
  have q3:=zw5 sig c.metas hs hm
  have q4:=(zlp sig c.metas [] f.delta c.theta hs hm (Hds.nil _) hf.delta hc.theta).p (by simp[Zm,below,Zv])
  have q5:=(zg3 (over:=c.metas) (ext:=[]) hs hm (Hds.nil _) hf.psi hf.a hc.theta hc.p).p (by simp[Zm,below,Zv])
  have q7:=(zg3 (over:=(XH sig funs f c.calls c.metas).1) (ext:=[]) hs hm' (Hds.nil _) hf.phi hf.b hc.theta hc.r).p (by simp[Zm,below,Zv])
  simp only[Jv]at q4 q5 q7
  have hF:FirstsE [.fn 54 [] [.cptr (some 9) (Q7 c)], .fn 55 [] [.cptr none (.vec .plain (some 4) (Yo sig)), .cptr (some 9) (Q7 c)], .fn 56 [] [.cptr none (.vec .plain (some 4) (Yo sig)), .cptr (some 9) (Q7 c), .cptr (some 13) (Ql f)], .fn 57 [] [.cptr none (.vec .plain (some 4) (Yo sig)), .cptr (some 9) (Q7 c), .cptr (some 13) (Ql f)], .fn 59 [] [.cptr (some 9) (Q7 c), .cptr (some 13) (Ql f)], .fn 53 [] [.cptr (some 9) (Q7 c), .cptr none (.vec .plain (some 13) (QC funs)), .cptr none (.vec .plain (some 4) (Yo sig)), .ref 0 0, .cptr (some 13) (Ql f)], .fn 61 [] [.cptr none (.vec .plain (some 4) (Yo sig)), .ref 0 0, .cptr (some 13) (Ql f), .cptr (some 9) (Q7 c)]] [bx false c.metas]
    (Jk [zbp (decide (c.calls.length≤40)) 4,(zcG sig c.metas).2,zot sig c.metas [] f.delta c.theta,zaS sig c.metas [] f.psi f.a c.theta c.p,zbP c.p f.psi.length c.metas.length,(XH sig funs f c.calls c.metas).2,zaS sig (XH sig funs f c.calls c.metas).1 [] f.phi f.b c.theta c.r]):=by
   refine .one (st1:=[bx false c.metas]) (zlD (by decide)) ?_ rfl fun _=> .one (st1:=[bx false c.metas]) (zlD (by decide)) ?_ rfl fun _=> .one (st1:=[bx false c.metas]) (zlD (by decide)) ?_ rfl fun _=> .one (st1:=[bx false c.metas]) (zlD (by decide)) ?_ rfl fun h5=> .one (st1:=[bx false c.metas]) (zlD (by decide)) ?_ rfl fun _=>
    .one (st1:=[bx b' (XH sig funs f c.calls c.metas).1]) (zlD (by decide)) ?_ rfl fun _=> .one (st1:=[bx b' (XH sig funs f c.calls c.metas).1]) (zlD (by decide)) ?_ rfl fun _=>⟨_,rfl, .nil _⟩
   ·rw[C,zhB,Y2 c,zh5,ZW,zh3]
    simp only[Zf,Z2]
    congr 5
    simp
    omega
   ·rw[C,zhB,Y2 c,zh6,q3];simp
   ·rw[C,zhB,Y2 c,Z8 f,zh7,q4];simp
   ·rw[C,zhB,Y2 c,Z8 f,zh8,←Zb,←Zb,q5];simp
   ·have q6:=(zm2 (B:=1099511627776) (by omega) c.p f.psi.length c.metas.length (by have:=hc.p.size;omega) (hc.p.ok (zsj h5)) (by have:=hf.psi.len;omega) (by have:=hc.mlen;omega)).p
    rw[C,zhB,Y2 c,Z8 f,zh9,←Zb,Zh,ZL,q6];simp
   ·rw[C,zhB,Y2 c,Z8 f,zh4,←Z8 f,ZW,←zhB,hb']
    by_cases hz:(XH sig funs f c.calls c.metas).2=0
    ·simp[hz,Zy]
    ·simp[hz,Zy]
   ·cases b'
    ·rw[C,zhB,Y2 c,Z8 f,zhA,←Zb,←Zb,q7];simp
    ·rw[C,zsh,Y2 c,Z8 f,zfb,←Zb,←Zb,q7];simp
  obtain⟨st',hl,hF⟩:=hF
  have hfi:=zlC (by simp) hF
  rw[Zy hl]at hfi
  have htk:List.drop 0 (List.take ((c.metas.length:Int)).toNat (ZH c.metas))=ZH c.metas:=by
   rw[List.drop_zero,List.take_of_length_le (by simp)]
  simp only[h1,h2,decide_false,Zo,hr.1,hr.2,decide_true,Bool.and_self,Zz,hg,znn,ZL,Int.natCast_nonneg,Int.le_refl,Option.isSome_some,←Z8,←Y2,htk,←zhB,hfi,Zf,Z9,Z2]
 ·rw[dif_neg hr]
  by_cases h1:no<0
  ·simp[h1]
  ·have h2:no≥funs.length:=by omega
   simp[h1,h2]
end Go.Proofs.CL
namespace Go.Proofs.CL
open Go Go.AM Go.Ama
set_option maxRecDepth 100000
theorem Ev.of_run{m f:Nat}{args:List V}{v:V}(h:(Qa Tryz.prog cfg ext m).call f args []=some (.ret v,[])):Ev f args v:=zft ((zjU zkE m).call _ _ _ _ h)
def exS:V:= .vec .plain (some 4) [.agg [.str ⟨#[110,97,116]⟩, .int 0, .int 0, .vec .plain (some 3) []], .agg [.str ⟨#[122]⟩, .int 2, .int 0, .vec .plain (some 3) []], .agg [.str ⟨#[115]⟩, .int 1, .int 0, .vec .plain (some 3) [.agg [.int 2, .int 0, .vec .plain (some 3) []], .agg [.int 2, .int 0, .vec .plain (some 3) []]]]]
def exZ:V:= .agg [.vec .plain (some 5) [], .vec .plain (some 3) [], .int 5, .int 1, .vec .plain (some 3) [], .vec .plain (some 6) [], .int 5, .int 1, .vec .plain (some 3) []]
def exN(k h:Int)(l:List V):V:= .agg [.vec .plain (some 5) [.agg [.vec .plain (some 3) [], .int 2, .int 0, .vec .plain (some 3) [], .bool false]], .vec .plain (some 3) [], .int 5, .int 2, .vec .plain (some 3) [.agg [.int 6, .int 0, .vec .plain (some 3) []]], .vec .plain (some 6) [.agg [.int 0, .vec .plain (some 3) [], .vec .plain (some 3) [], .int 6, .int 0, .vec .plain (some 3) []]], .int k, .int h, .vec .plain (some 3) l]
def zx3:V:=exN 5 2 [.agg [.int 5, .int 2, .vec .plain (some 3) [.agg [.int 6, .int 1, .vec .plain (some 3) []]]]]
def exF:V:= .agg [.str ⟨#[100,111,117,98,108,101]⟩, .vec .plain (some 3) [], .vec .plain (some 5) [], .vec .plain (some 3) [], .int 2, .int 0, .vec .plain (some 3) [], .vec .plain (some 3) [], .int 2, .int 0, .vec .plain (some 3) [], .bool true, .vec .plain (some 9) [exZ,zx3]]
theorem zx4:Ev 37 [] exS:=Ev.of_run (m:=20) (by kernel_rfl)
theorem zue:Ev 36 [] exF:=Ev.of_run (m:=20) (by kernel_rfl)
theorem zw6:Ev 13 [exS,exF] (.int 0):=Ev.of_run (m:=40) (by kernel_rfl)
theorem zyt:Ev 15 [exS, .vec .plain (some 13) [exF], .int 0,exZ] (.int 0):=Ev.of_run (m:=40) (by kernel_rfl)
theorem zyu:Ev 15 [exS, .vec .plain (some 13) [exF], .int 0,exN 6 2 []] (.int 2):=Ev.of_run (m:=40) (by kernel_rfl)
theorem zyv:Ev 15 [exS, .vec .plain (some 13) [exF], .int 0,zx3] (.int 0):=Ev.of_run (m:=40) (by kernel_rfl)
end Go.Proofs.CL
namespace Go.Proofs.CL
open Go Go.AM
set_option maxRecDepth 20000
theorem zm3(O:Oracle):Ze Tryz.prog cfg O 9 [] []=
 Za (Zj O 36 []) fun r1=>Zc [CT.str,CT.slice (some 3),CT.slice (some 5),CT.slice (some 3),CT.int,CT.int,CT.slice (some 3),CT.slice (some 3),
 CT.int,CT.int,CT.slice (some 3),CT.bool,CT.slice (some 9)] r1 fun s2 l3 l4 l5 n6 n7 l8 l9 n10 n11 l12 b13 l14=>gd (true&&decide (1<(↑l14.length:Int))) (Zc
 [CT.slice (some 5),CT.slice (some 3),CT.int,CT.int,CT.slice (some 3),CT.slice (some 6),CT.int,CT.int,CT.slice (some 3)] (ZA l14 1) fun l15 l16 n17 n18 l19 l20 n21 n22
 l23=>Za (Zj O 37 []) fun r24=>Yi (some 4) r24 fun l25=>gd (true&&decide (0<(↑l14.length:Int))) (Zc [CT.slice (some 5),CT.slice (some 3),
 CT.int,CT.int,CT.slice (some 3),CT.slice (some 6),CT.int,CT.int,CT.slice (some 3)] (ZA l14 0) fun l26 l27 n28 n29 l30 l31 n32 n33 l34=>Za (Zj O 15
 [V.vec .plain (some 4) l25,V.vec .plain (some 13) [V.agg [V.str s2,V.vec .plain (some 3) l3,V.vec .plain (some 5) l4,V.vec .plain (some 3) l5,V.int n6,V.int n7,V.vec .plain
 (some 3) l8,V.vec .plain (some 3) l9,V.int n10,V.int n11,V.vec .plain (some 3) l12,V.bool b13,V.vec .plain (some 9) l14]],V.int 0,V.agg [V.vec .plain (some 5) l26,V.vec
 .plain (some 3) l27,V.int n28,V.int n29,V.vec .plain (some 3) l30,V.vec .plain (some 6) l31,V.int n32,V.int n33,V.vec .plain (some 3) l34]]) fun r35=>Zl r35 fun n36=>
 Za (Zj O 37 []) fun r37=>Yi (some 4) r37 fun l38=>gd (true&&decide (1<(↑l14.length:Int))) (Zc [CT.slice (some 5),CT.slice (some 3),CT.int,
 CT.int,CT.slice (some 3),CT.slice (some 6),CT.int,CT.int,CT.slice (some 3)] (ZA l14 1) fun l39 l40 n41 n42 l43 l44 n45 n46 l47=>Za (Zj O 15 [V.vec
 .plain (some 4) l38,V.vec .plain (some 13) [V.agg [V.str s2,V.vec .plain (some 3) l3,V.vec .plain (some 5) l4,V.vec .plain (some 3) l5,V.int n6,V.int n7,V.vec .plain (some
 3) l8,V.vec .plain (some 3) l9,V.int n10,V.int n11,V.vec .plain (some 3) l12,V.bool b13,V.vec .plain (some 9) l14]],V.int 0,V.agg [V.vec .plain (some 5) l39,V.vec .plain
 (some 3) l40,V.int n41,V.int n42,V.vec .plain (some 3) l43,V.vec .plain (some 6) l44,V.int n45,V.int n46,V.vec .plain (some 3) l47]]) fun r48=>Zl r48 fun n49=>Za
 (Zj O 37 []) fun r50=>Yi (some 4) r50 fun l51=>Za (Zj O 15 [V.vec .plain (some 4) l51,V.vec .plain (some 13) [V.agg [V.str s2,V.vec .plain
 (some 3) l3,V.vec .plain (some 5) l4,V.vec .plain (some 3) l5,V.int n6,V.int n7,V.vec .plain (some 3) l8,V.vec .plain (some 3) l9,V.int n10,V.int n11,V.vec .plain (some
 3) l12,V.bool b13,V.vec .plain (some 9) l14]],V.int 0,V.agg [V.vec .plain (some 5) l15,V.vec .plain (some 3) l16,V.int n17,V.int n18,V.vec .plain (some 3) l19,V.vec
 .plain (some 6) l20,V.int 6,V.int 2,V.vec .plain (some 3) []]]) fun r52=>Zl r52 fun n53=>Za (Zj O 37 []) fun r54=>Yi (some 4) r54 fun l55=>Za
 (Zj O 13 [V.vec .plain (some 4) l55,V.agg [V.str s2,V.vec .plain (some 3) l3,V.vec .plain (some 5) l4,V.vec .plain (some 3) l5,V.int n6,V.int n7,V.vec .plain
 (some 3) l8,V.vec .plain (some 3) l9,V.int n10,V.int n11,V.vec .plain (some 3) l12,V.bool b13,V.vec .plain (some 9) l14]]) fun r56=>Zl r56 fun n57=>bc (n57==0) (bc
 (n36==0) (bc (n49==0) (some (Out.ret (V.bool (n53==2)),[])) (some (Out.ret (V.bool false),[]))) (some (Out.ret (V.bool false),[]))) (some (Out.ret (V.bool false),[]))))):=by kernel_rfl
theorem zhC(O:Oracle)(l0:(List V)):Ze Tryz.prog cfg O 11 [.vec .plain (some 13) l0] []=
 bc (decide ((↑l0.length:Int)>20)) (some (Out.ret (V.bool false),[])) (Za (O.loop 11 4 [V.int 0,V.vec .plain (some 13) l0] []) fun r1=>Y8 r1.fst none
 (Zd r1.snd.fst fun v2 c3=>Zi v2 fun b4=>Zn c3 (some (Out.ret (V.bool b4),[]))) (fun i5=>bc (i5.beq 0) (Zn r1.snd.fst (some (Out.ret (V.bool true),[]))) none)
 fun v6=>none):=by kernel_rfl
theorem zaK(O:Oracle)(n0:Int)(l1:(List V)):Z1 Tryz.prog cfg O 11 4 [.int n0, .vec .plain (some 13) l1] []=
 bc (decide (n0<(↑l1.length:Int))) (gd (decide (0≤n0)&&decide (n0<(↑l1.length:Int))) (Zc [CT.str,CT.slice (some 3),CT.slice (some 5),CT.slice (some 3),CT.int,
 CT.int,CT.slice (some 3),CT.slice (some 3),CT.int,CT.int,CT.slice (some 3),CT.bool,CT.slice (some 9)] (ZA l1 n0) fun s1 l2 l3 l4 n5 n6 l7 l8 n9 n10 l11 b12 l13=>Za
 (Zj O 17 [V.agg [V.str s1,V.vec .plain (some 3) l2,V.vec .plain (some 5) l3,V.vec .plain (some 3) l4,V.int n5,V.int n6,V.vec .plain (some 3) l7,V.vec
 .plain (some 3) l8,V.int n9,V.int n10,V.vec .plain (some 3) l11,V.bool b12,V.vec .plain (some 9) l13]]) fun r14=>Zi r14 fun b15=>bc (!b15) (some (Ex.ret,[V.bool
 false],[])) (O.2 11 4 [V.int (IntKind.i64.wrap (n0+1)),V.vec .plain (some 13) l1] []))) (some (Ex.exit 0,[],[])):=by kernel_rfl
end Go.Proofs.CL
namespace Go.Proofs.CL
open Go Go.AM Go.Ama
set_option maxRecDepth 100000
theorem zx5{R:Type}(s:ByteArray)(a b c:List V)(i j:Int)(d e:List V)(k l:Int)(f:List V)(t:Bool)(g:List V)(K:ByteArray→List V→List V→List V→Int→Int→List V→List V→Int→Int→List V→Bool→List V→Option R):Zc (R:=R) [CT.str,CT.slice (some 3),CT.slice (some 5),CT.slice (some 3),CT.int,CT.int,CT.slice (some 3),CT.slice (some 3),CT.int,CT.int,CT.slice (some 3),CT.bool,CT.slice (some 9)]
  (.agg [.str s, .vec .plain (some 3) a, .vec .plain (some 5) b, .vec .plain (some 3) c, .int i, .int j, .vec .plain (some 3) d, .vec .plain (some 3) e, .int k, .int l, .vec .plain (some 3) f, .bool t, .vec .plain (some 9) g]) K=K s a b c i j d e k l f t g:=rfl
theorem zyw{R:Type}(a b:List V)(i j:Int)(c d:List V)(k l:Int)(e:List V)(K:List V→List V→Int→Int→List V→List V→Int→Int→List V→Option R):Zc (R:=R) [CT.slice (some 5),CT.slice (some 3),CT.int,CT.int,CT.slice (some 3),CT.slice (some 6),CT.int,CT.int,CT.slice (some 3)]
  (.agg [.vec .plain (some 5) a, .vec .plain (some 3) b, .int i, .int j, .vec .plain (some 3) c, .vec .plain (some 6) d, .int k, .int l, .vec .plain (some 3) e]) K=K a b i j c d k l e:=rfl
theorem zw7(a b:V)(l:List V):ZA (a::b::l) 1=b:=rfl
theorem zv7(a:V)(l:List V):ZA (a::l) 0=a:=rfl
theorem zw8:Ev 9 [] (.bool true):=by
 have hn:=zx4.p (h2:=by kernel_rfl)
 have hd:=zue.p (h2:=by kernel_rfl)
 have hh:=zw6.p (h1:=by kernel_rfl)
 have h0:=zyt.p (h1:=by kernel_rfl)
 have h1:=zyv.p (h1:=by kernel_rfl)
 have h2:=zyu.p (h1:=by kernel_rfl)
 simp only[exS,exF,exZ,zx3,exN]at hn hd hh h0 h1 h2
 unfold Ev
 rw[C,zm3,hd]
 rw[Zf,zx5]
 simp only[List.length_cons,List.length_nil,zw7,zv7,zyw,hn,hh,h0,h1,h2,Zf,YQ,Z2]
 simp
end Go.Proofs.CL
namespace Go.Proofs.CL
open Go Go.AM
set_option maxRecDepth 20000
theorem zf5(O:Oracle)(l0:(List V))(l1:(List V))(n2:Int)(l3:(List V))(l4:(List V))(n5:Int)(n6:Int)(l7:(List V))(l8:(List V))(n9:Int)(n10:Int)(l11:(List V))(l12:(List V))(l13:(List V)):Ze Tryz.prog cfg O 7 [.vec .plain (some 4) l0, .vec .plain (some 13) l1, .int n2, .agg [.vec .plain (some 5) l3, .vec .plain (some 3) l4, .int n5, .int n6, .vec .plain (some 3) l7, .vec .plain (some 6) l8, .int n9, .int n10, .vec .plain (some 3) l11], .vec .plain (some 3) l12, .vec .plain (some 3) l13] []=
 Za (Zj O 9 []) fun r1=>Zi r1 fun b2=>Za (Zj O 10 [V.vec .plain (some 4) l0,V.vec .plain (some 5) [],V.vec .plain (some 3) l12]) fun r3
 =>Zi r3 fun b4=>Za (Zj O 11 [V.vec .plain (some 13) l1]) fun r5=>Zi r5 fun b6=>Za (Zj O 12 [V.agg [V.vec .plain (some 5)
 l3,V.vec .plain (some 3) l4,V.int n5,V.int n6,V.vec .plain (some 3) l7,V.vec .plain (some 6) l8,V.int n9,V.int n10,V.vec .plain (some 3) l11]]) fun r7=>Zi r7 fun b8
 =>Za (Zj O 24 [V.vec .plain (some 3) l13,V.int 200,V.int 40]) fun r9=>Zi r9 fun b10=>bc (!b2) (some (Out.ret (V.bool b2),[])) (bc (!b4) (some
 (Out.ret (V.bool b2),[])) (bc (!b6) (some (Out.ret (V.bool b2),[])) (bc (!b8) (some (Out.ret (V.bool b2),[])) (bc (!b10) (some (Out.ret (V.bool b2),[])) (bc (decide (n2<0))
 (some (Out.ret (V.bool b2),[])) (bc (decide (n2≥(↑l1.length:Int))) (some (Out.ret (V.bool b2),[])) (Za (Zj O 15 [V.vec .plain (some 4) l0,V.vec .plain
 (some 13) l1,V.int n2,V.agg [V.vec .plain (some 5) l3,V.vec .plain (some 3) l4,V.int n5,V.int n6,V.vec .plain (some 3) l7,V.vec .plain (some 6) l8,V.int n9,V.int n10,
 V.vec .plain (some 3) l11]]) fun r11=>Zl r11 fun n12=>bc (n12 !=0) (some (Out.ret (V.bool b2),[])) (Za (Zj O 25 [V.vec .plain (some 4) l0,V.vec .plain
 (some 5) [],V.vec .plain (some 3) l12,V.vec .plain (some 5) l3,V.vec .plain (some 3) l13]) fun r13=>Zl r13 fun n14=>bc (n14 !=0) (some (Out.ret (V.bool b2),[])) (gd
 (decide (0≤n2)&&decide (n2<(↑l1.length:Int))) (YP (ZA l1 n2) fun c15=>gd (decide (4≤c15.length)) (Yi (some 3) (AM.partOf c15 3 none) fun l16=>Za (Zj O
 26 [V.agg [V.int n5,V.int n6,V.vec .plain (some 3) l7],V.vec .plain (some 3) l13,V.int (↑l16.length:Int)]) fun r17=>ZG r17 fun c18=>Zd c18 fun v19 c20=>
 Zc [CT.int,CT.int,CT.slice (some 3)] v19 fun n21 n22 l23=>Zd c20 fun v24 c25=>Zl v24 fun n26=>Zn c25 (bc (n26 !=0) (bc (n26==4) (some (Out.ret (V.bool
 true),[])) (some (Out.ret (V.bool (n26==1)),[]))) (gd (decide (0≤(↑l3.length:Int))&&decide ((↑l3.length:Int)=(↑l3.length:Int))&&roomFor Tryz.prog 100
 (↑l3.length:Int).toNat&&true&&true) (Za (Zj O 28 [V.vec .plain (some 5) l3]) fun r27=>Yi none r27 fun l28=>Za (Zj O 27 [V.agg
 [V.int n5,V.int n6,V.vec .plain (some 3) l7],V.agg [V.int n21,V.int n22,V.vec .plain (some 3) l23],V.int (↑l16.length:Int),V.vec .plain (some 4) (List.replicate
 (↑l3.length:Int).toNat (V.agg [V.bool false,V.int 0,V.int 0,V.vec .plain (some 3) []])),V.vec .plain none l28,V.vec .plain none []]) fun r29=>ZG r29 fun c30=>Zd
 c30 fun v31 c32=>Yi (some 4) v31 fun l33=>Zd c32 fun v34 c35=>Zl v34 fun n36=>Zn c35 (Za (Zj O 29 [V.vec .plain (some 4) l33]) fun r37=>
 ZG r37 fun c38=>Zd c38 fun v39 c40=>Yi (some 3) v39 fun l41=>Zd c40 fun v42 c43=>Zi v42 fun b44=>Zn c43 (Za (Zj O 21 [V.vec .plain
 (some 3) l41,V.vec .plain (some 3) l13]) fun r45=>Zi r45 fun b46=>Za (Zj O 30 [V.vec .plain (some 4) l0,V.vec .plain (some 5) [],V.vec .plain (some 3)
 l12,V.agg [V.int n21,V.int n22,V.vec .plain (some 3) l23],V.agg [V.int 0,V.int 0,V.vec .plain (some 3) []]]) fun r47=>Zl r47 fun n48=>bc (n36==0) (bc b44 (bc b46
 (some (Out.ret (V.bool (n48 !=0)),[])) (some (Out.ret (V.bool false),[]))) (some (Out.ret (V.bool false),[]))) (some (Out.ret (V.bool false),[])))))))))))))))))):=by kernel_rfl
end Go.Proofs.CL
namespace Go.Proofs.CL
open Go Go.AM
set_option maxRecDepth 20000
theorem zo5(O:Oracle)(l0:(List V))(l1:(List V)):Ze Tryz.prog cfg O 21 [.vec .plain (some 3) l0, .vec .plain (some 3) l1] []=
 bc ((↑l0.length:Int) !=(↑l1.length:Int)) (some (Out.ret (V.bool false),[])) (Za (O.loop 21 4 [V.int 0,V.vec .plain (some 3) l1,V.vec .plain (some 3) l0] [])
 fun r1=>Y8 r1.fst none (Zd r1.snd.fst fun v2 c3=>Zi v2 fun b4=>Zn c3 (some (Out.ret (V.bool b4),[]))) (fun i5=>bc (i5.beq 0) (Zn r1.snd.fst (some (Out.ret
 (V.bool true),[]))) none) fun v6=>none):=by kernel_rfl
theorem zeg(O:Oracle)(n0:Int)(l1:(List V))(l2:(List V)):Z1 Tryz.prog cfg O 21 4 [.int n0, .vec .plain (some 3) l1, .vec .plain (some 3) l2] []=
 bc (decide (n0<(↑l2.length:Int))) (gd (decide (0≤n0)&&decide (n0<(↑l2.length:Int))) (Zc [CT.int,CT.int,CT.slice (some 3)] (ZA l2 n0) fun n1 n2 l3=>gd
 (decide (0≤n0)&&decide (n0<(↑l1.length:Int))) (Zc [CT.int,CT.int,CT.slice (some 3)] (ZA l1 n0) fun n4 n5 l6=>Za (Zj O 22 [V.agg [V.int n1,
 V.int n2,V.vec .plain (some 3) l3],V.agg [V.int n4,V.int n5,V.vec .plain (some 3) l6]]) fun r7=>Zi r7 fun b8=>bc (!b8) (some (Ex.ret,[V.bool false],[])) (O.2
 21 4 [V.int (IntKind.i64.wrap (n0+1)),V.vec .plain (some 3) l1,V.vec .plain (some 3) l2] [])))) (some (Ex.exit 0,[],[])):=by kernel_rfl
end Go.Proofs.CL
namespace Go.Proofs.CL
open Go Go.AM Go.Ama
set_option maxRecDepth 20000
theorem zjW{n:Nat}{cs:List V}(h:WT Tryz.prog n 3 cs): ∃z:Int,cs=[.int z]∧I64 z:=by
 cases n with
 |zero=>exact h.elim
 |succ n=>
  simp only[WT,Tryz.underlying3]at h
  obtain⟨z,h1,h2⟩:=h
  refine⟨z,h1, ?_⟩
  simpa[Lit.wf,IntKind.min,IntKind.max,IntKind.signed,IntKind.bits,I64]using h2
theorem zlE{n:Nat}{cs:List V}(h:WT Tryz.prog n 9 cs): ∃s:Bytes,cs=[.str (ba s)]:=by
 cases n with
 |zero=>exact h.elim
 |succ n=>
  simp only[WT,Tryz.underlying9]at h
  obtain⟨s,h1,h2⟩:=h
  exact⟨s.data.toList,by rw[zwe];exact h1⟩
theorem zyx:shOf Tryz.prog 3=none:=by kernel_rfl
theorem zqD:Tryz.prog.cellsOf 3=1:=by kernel_rfl
theorem zj5:Tryz.prog.cellsOf 9=1:=by kernel_rfl
theorem one_cell{v:V}(h:Shaped none v):AM.cellsOf v=[v]:=by cases v<;>first|rfl|exact h.elim
theorem zw9{v:V}(h:(∃n,WT Tryz.prog n 3 (AM.cellsOf v))∧Shaped (shOf Tryz.prog 3) v): ∃z,v= .int z∧I64 z:=by
 obtain⟨⟨n,h1⟩,h2⟩:=h
 rw[zyx]at h2
 rw[one_cell h2]at h1
 obtain⟨z,hz,h3⟩:=zjW h1
 simp only[List.cons.injEq,and_true]at hz
 exact⟨z,hz,h3⟩
theorem zyy{f:Nat}{args:List V}(h:Ev f args (.bool true)): ∃m st,(Qa Tryz.prog cfg ext m).call f args []=some (.ret (.bool true),st):=by
 obtain⟨m,hm⟩:=zvX h
 exact⟨m,[],hm⟩
end Go.Proofs.CL
namespace Go.Proofs.CL
open Go Go.AM Go.Ama
set_option maxRecDepth 20000
theorem zx6:shOf Tryz.prog 27=some 3:=by kernel_rfl
theorem zwA:shOf Tryz.prog 25=none:=by kernel_rfl
theorem zbT:Tryz.prog.cellsOf 25=1:=by kernel_rfl
theorem zby:Tryz.prog.cellsOf 27=3:=by kernel_rfl
theorem zx7:shOf Tryz.prog 116=some 4:=by kernel_rfl
theorem zwB:shOf Tryz.prog 22=none:=by kernel_rfl
theorem zuf:Tryz.prog.cellsOf 116=4:=by kernel_rfl
theorem zyz{l:List V}(h:l.length=3): ∃x y z,l=[x,y,z]:=by
 match l,h with
 |[x,y,z],_=>exact⟨x,y,z,rfl⟩
theorem zy0{l:List V}(h:l.length=4): ∃x y z w,l=[x,y,z,w]:=by
 match l,h with
 |[x,y,z,w],_=>exact⟨x,y,z,w,rfl⟩
theorem Xd: ∀n:Nat,(∀cs,WT Tryz.prog n 27 cs→ ∃t,V.agg cs=enc t)∧(∀cs,WT Tryz.prog n 25 cs→ ∃ts,cs=[.vec .plain (some 3) (Zg ts)]):=by
 intro n
 induction n with
 |zero=>exact⟨fun cs h=>h.elim,fun cs h=>h.elim⟩
 |succ n ih=>
  refine⟨fun cs h=> ?_,fun cs h=> ?_⟩
  ·simp only[WT,Tryz.underlying27]at h
   obtain⟨hl,hf⟩:=h
   rw[zby]at hl
   obtain⟨x,y,z,rfl⟩:=zyz hl
   simp only[List.forall_mem_cons]at hf
   obtain⟨f1,f2,f3,_⟩:=hf
   simp only[zqD,zbT,List.drop_zero,List.drop_succ_cons,List.take_succ_cons,List.take_zero]at f1 f2 f3
   obtain⟨k,hk,_⟩:=zjW f1
   obtain⟨h,hh,_⟩:=zjW f2
   obtain⟨ts,hts⟩:=ih.2 _ f3
   cases hk;cases hh;cases hts
   exact⟨.mk k h ts,rfl⟩
  ·simp only[WT,Tryz.underlying25]at h
   obtain⟨es,rfl,_,he⟩:=h
   rw[zx6]at he⊢
   have: ∀es:List V,(∀v∈es,Shaped (some 3) v∧WT Tryz.prog n 27 (AM.cellsOf v))→ ∃ts,es=Zg ts:=by
    intro es
    induction es with
    |nil=>intro _;exact⟨[],rfl⟩
    |cons v es ihe=>
     intro h
     obtain⟨h1,h2⟩:=h v (by simp)
     obtain⟨ts,hts⟩:=ihe fun u hu=>h u (by simp[hu])
     cases v with
     |agg cs=>
      obtain⟨t,ht⟩:=ih.1 cs h2
      exact⟨t::ts,by rw[QA,←ht,hts]⟩
     |_=>exact h1.elim
   obtain⟨ts,rfl⟩:=this es he
   exact⟨ts,rfl⟩
theorem zqE{v:V}(h:(∃n,WT Tryz.prog n 25 (AM.cellsOf v))∧Shaped (shOf Tryz.prog 25) v): ∃ts,v= .vec .plain (some 3) (Zg ts):=by
 obtain⟨⟨n,h1⟩,h2⟩:=h
 rw[zwA]at h2
 rw[one_cell h2]at h1
 obtain⟨ts,hts⟩:=(Xd n).2 _ h1
 simp only[List.cons.injEq,and_true]at hts
 exact⟨ts,hts⟩
theorem zug: ∀n cs,WT Tryz.prog n 116 cs→ ∃d,V.agg cs=zeM d:=by
 intro n cs h
 cases n with
 |zero=>exact h.elim
 |succ n=>
  simp only[WT,Tryz.underlying116]at h
  obtain⟨hl,hf⟩:=h
  rw[zuf]at hl
  obtain⟨x,y,z,w,rfl⟩:=zy0 hl
  simp only[List.forall_mem_cons]at hf
  obtain⟨f1,f2,_⟩:=hf
  simp only[zj5,zby,List.drop_zero,List.drop_succ_cons,List.take_succ_cons,List.take_zero]at f1 f2
  obtain⟨s,hs⟩:=zlE f1
  obtain⟨t,ht⟩:=(Xd n).1 _ f2
  cases hs
  obtain⟨k,h,l⟩:=t
  simp only[enc,V.agg.injEq,List.cons.injEq,and_true]at ht
  obtain⟨rfl,rfl,rfl⟩:=ht
  exact⟨⟨s, .mk k h l⟩,rfl⟩
theorem zuh{v:V}(h:(∃n,WT Tryz.prog n 22 (AM.cellsOf v))∧Shaped (shOf Tryz.prog 22) v): ∃l,v= .vec .plain (some 4) (Yo l):=by
 obtain⟨⟨n,h1⟩,h2⟩:=h
 rw[zwB]at h2
 rw[one_cell h2]at h1
 cases n with
 |zero=>exact h1.elim
 |succ n=>
  simp only[WT,Tryz.underlying22]at h1
  obtain⟨es,he0,_,he⟩:=h1
  rw[zx7]at he he0
  have: ∀es:List V,(∀v∈es,Shaped (some 4) v∧WT Tryz.prog n 116 (AM.cellsOf v))→ ∃l,es=Yo l:=by
   intro es
   induction es with
   |nil=>intro _;exact⟨[],rfl⟩
   |cons v es ihe=>
    intro h
    obtain⟨h1,h2⟩:=h v (by simp)
    obtain⟨l,hl⟩:=ihe fun u hu=>h u (by simp[hu])
    cases v with
    |agg cs=>
     obtain⟨d,hd⟩:=zug n cs h2
     exact⟨d::l,by rw[hl,hd];rfl⟩
    |_=>exact h1.elim
  obtain⟨l,rfl⟩:=this es he
  simp only[List.cons.injEq,and_true]at he0
  exact⟨l,he0⟩
end Go.Proofs.CL
namespace Go.Proofs.CL
open Go Go.AM Go.Ama
set_option maxRecDepth 20000
theorem zfy{α:Type}{en:α→V}{sl e k:Nat}(hu:Tryz.prog.underlying sl=some (.slice e))(hsh:shOf Tryz.prog e=some k)(hd: ∀n cs,WT Tryz.prog n e cs→ ∃a,V.agg cs=en a):
  ∀n cs,WT Tryz.prog n sl cs→ ∃l:List α,cs=[.vec .plain (some k) (l.map en)]:=by
 intro n cs h
 cases n with
 |zero=>exact h.elim
 |succ n=>
  simp only[WT,hu]at h
  obtain⟨es,he0,_,he⟩:=h
  rw[hsh]at he he0
  have: ∀es:List V,(∀v∈es,Shaped (some k) v∧WT Tryz.prog n e (AM.cellsOf v))→ ∃l:List α,es=l.map en:=by
   intro es
   induction es with
   |nil=>intro _;exact⟨[],rfl⟩
   |cons v es ihe=>
    intro h
    obtain⟨h1,h2⟩:=h v (by simp)
    obtain⟨l,hl⟩:=ihe fun u hu=>h u (by simp[hu])
    cases v with
    |agg cs=>
     obtain⟨d,hd⟩:=hd n cs h2
     exact⟨d::l,by rw[hl,hd];rfl⟩
    |_=>exact h1.elim
  obtain⟨l,rfl⟩:=this es he
  exact⟨l,he0⟩
theorem zsk{α:Type}{en:α→V}{sl:Nat}{k:Nat}(hsh:shOf Tryz.prog sl=none)(hd: ∀n cs,WT Tryz.prog n sl cs→ ∃l:List α,cs=[.vec .plain (some k) (l.map en)]){v:V}(h:(∃n,WT Tryz.prog n sl (AM.cellsOf v))∧Shaped (shOf Tryz.prog sl) v): ∃l:List α,v= .vec .plain (some k) (l.map en):=by
 obtain⟨⟨n,h1⟩,h2⟩:=h
 rw[hsh]at h2
 rw[one_cell h2]at h1
 obtain⟨l,hl⟩:=hd n _ h1
 simp only[List.cons.injEq,and_true]at hl
 exact⟨l,hl⟩
theorem zqF{α:Type}{en:α→V}{t k:Nat}(hsh:shOf Tryz.prog t=some k)(hd: ∀n cs,WT Tryz.prog n t cs→ ∃a:α,V.agg cs=en a){v:V}(h:(∃n,WT Tryz.prog n t (AM.cellsOf v))∧Shaped (shOf Tryz.prog t) v): ∃a,v=en a:=by
 obtain⟨⟨n,h1⟩,h2⟩:=h
 rw[hsh]at h2
 cases v with
 |agg cs=>exact hd n cs h1
 |_=>exact h2.elim
theorem zqG{n:Nat}{cs:List V}(h:WT Tryz.prog n 4 cs): ∃b,cs=[.bool b]:=by
 cases n with
 |zero=>exact h.elim
 |succ n=>simpa only[WT,Tryz.underlying4]using h
theorem zno:Tryz.prog.cellsOf 4=1:=by kernel_rfl
theorem zaz{cs:List V}{t:T}(h:V.agg cs=enc t):cs=[.int t.k, .int t.h, .vec .plain (some 3) (Zg t.args)]:=by
 rw[Zb]at h;simpa using h
theorem zx8:shOf Tryz.prog 47=some 5:=by kernel_rfl
theorem zui:Tryz.prog.cellsOf 47=5:=by kernel_rfl
theorem zlF:Tryz.prog.cellsOf 24=1:=by kernel_rfl
theorem X3{n:Nat}{l:List V}(h:l.length=n+1): ∃x r,l=x::r∧r.length=n:=by
 cases l with
 |nil=>simp at h
 |cons x r=>exact⟨x,r,rfl,by simpa using h⟩
theorem zuj: ∀n cs,WT Tryz.prog n 47 cs→ ∃m,V.agg cs=zaw m:=by
 intro n cs h
 cases n with
 |zero=>exact h.elim
 |succ n=>
  simp only[WT,Tryz.underlying47]at h
  obtain⟨hl,hf⟩:=h
  rw[zui]at hl
  obtain⟨a1,cs1,e1,hl1⟩:=X3 hl
  obtain⟨a2,cs2,e2,hl2⟩:=X3 hl1
  obtain⟨a3,cs3,e3,hl3⟩:=X3 hl2
  obtain⟨a4,cs4,e4,hl4⟩:=X3 hl3
  obtain⟨a5,cs5,e5,hl5⟩:=X3 hl4
  have e0:=List.length_eq_zero_iff.1 hl5
  subst e0 e5 e4 e3 e2 e1
  simp only[List.forall_mem_cons]at hf
  obtain⟨f1,f2,f3,_⟩:=hf
  simp only[zbT,zby,zno,List.drop_zero,List.drop_succ_cons,List.take_succ_cons,List.take_zero]at f1 f2 f3
  obtain⟨ctx,hc⟩:=(Xd n).2 _ f1
  obtain⟨t,ht⟩:=(Xd n).1 _ f2
  obtain⟨b,hb⟩:=zqG f3
  have ht:=zaz ht
  simp only[List.cons.injEq,and_true]at hc ht hb
  obtain⟨rfl,rfl,rfl⟩:=ht
  subst hc hb
  exact⟨⟨ctx,t,b⟩,rfl⟩
theorem zlG: ∀n cs,WT Tryz.prog n 24 cs→ ∃l,cs=[.vec .plain (some 5) (ZH l)]:=zfy Tryz.underlying24 zx8 zuj
theorem zx9:shOf Tryz.prog 43=some 6:=by kernel_rfl
theorem zuk:Tryz.prog.cellsOf 43=6:=by kernel_rfl
theorem zsl:Tryz.prog.cellsOf 28=1:=by kernel_rfl
theorem zul: ∀n cs,WT Tryz.prog n 43 cs→ ∃m,V.agg cs=XI m:=by
 intro n cs h
 cases n with
 |zero=>exact h.elim
 |succ n=>
  simp only[WT,Tryz.underlying43]at h
  obtain⟨hl,hf⟩:=h
  rw[zuk]at hl
  obtain⟨a1,cs1,e1,hl1⟩:=X3 hl
  obtain⟨a2,cs2,e2,hl2⟩:=X3 hl1
  obtain⟨a3,cs3,e3,hl3⟩:=X3 hl2
  obtain⟨a4,cs4,e4,hl4⟩:=X3 hl3
  obtain⟨a5,cs5,e5,hl5⟩:=X3 hl4
  obtain⟨a6,cs6,e6,hl6⟩:=X3 hl5
  have e0:=List.length_eq_zero_iff.1 hl6
  subst e0 e6 e5 e4 e3 e2 e1
  simp only[List.forall_mem_cons]at hf
  obtain⟨f1,f2,f3,f4,_⟩:=hf
  simp only[zqD,zbT,zby,List.drop_zero,List.drop_succ_cons,List.take_succ_cons,List.take_zero]at f1 f2 f3 f4
  obtain⟨k,hk,_⟩:=zjW f1
  obtain⟨e,he⟩:=(Xd n).2 _ f2
  obtain⟨th,hth⟩:=(Xd n).2 _ f3
  obtain⟨t,ht⟩:=(Xd n).1 _ f4
  have ht:=zaz ht
  simp only[List.cons.injEq,and_true]at hk he hth ht
  obtain⟨rfl,rfl,rfl⟩:=ht
  subst hk he hth
  exact⟨⟨k,e,th,t⟩,rfl⟩
theorem zsm: ∀n cs,WT Tryz.prog n 28 cs→ ∃l,cs=[.vec .plain (some 6) (Qk l)]:=zfy Tryz.underlying28 zx9 zul
theorem zqH:shOf Tryz.prog 30=some 9:=by kernel_rfl
theorem zqI:Tryz.prog.cellsOf 30=9:=by kernel_rfl
theorem zo6:Tryz.prog.cellsOf 37=1:=by kernel_rfl
theorem zj6: ∀n cs,WT Tryz.prog n 30 cs→ ∃m,V.agg cs=Q7 m:=by
 intro n cs h
 cases n with
 |zero=>exact h.elim
 |succ n=>
  simp only[WT,Tryz.underlying30]at h
  obtain⟨hl,hf⟩:=h
  rw[zqI]at hl
  obtain⟨a1,cs1,e1,hl1⟩:=X3 hl
  obtain⟨a2,cs2,e2,hl2⟩:=X3 hl1
  obtain⟨a3,cs3,e3,hl3⟩:=X3 hl2
  obtain⟨a4,cs4,e4,hl4⟩:=X3 hl3
  obtain⟨a5,cs5,e5,hl5⟩:=X3 hl4
  obtain⟨a6,cs6,e6,hl6⟩:=X3 hl5
  obtain⟨a7,cs7,e7,hl7⟩:=X3 hl6
  obtain⟨a8,cs8,e8,hl8⟩:=X3 hl7
  obtain⟨a9,cs9,e9,hl9⟩:=X3 hl8
  have e0:=List.length_eq_zero_iff.1 hl9
  subst e0 e9 e8 e7 e6 e5 e4 e3 e2 e1
  simp only[List.forall_mem_cons]at hf
  obtain⟨f1,f2,f3,f4,f5,_⟩:=hf
  simp only[zlF,zbT,zby,zsl,List.drop_zero,List.drop_succ_cons,List.take_succ_cons,List.take_zero]at f1 f2 f3 f4 f5
  obtain⟨ms,hms⟩:=zlG _ _ f1
  obtain⟨th,hth⟩:=(Xd n).2 _ f2
  obtain⟨p,hp⟩:=(Xd n).1 _ f3
  obtain⟨cl,hcl⟩:=zsm _ _ f4
  obtain⟨r,hr⟩:=(Xd n).1 _ f5
  have hp:=zaz hp
  have hr:=zaz hr
  simp only[List.cons.injEq,and_true]at hms hth hp hcl hr
  obtain⟨rfl,rfl,rfl⟩:=hp
  obtain⟨rfl,rfl,rfl⟩:=hr
  subst hms hth hcl
  exact⟨⟨ms,th,p,cl,r⟩,rfl⟩
theorem zo7: ∀n cs,WT Tryz.prog n 37 cs→ ∃l,cs=[.vec .plain (some 9) (zaR l)]:=zfy Tryz.underlying37 zqH zj6
theorem zsn{v:V}(h:(∃n,WT Tryz.prog n 30 (AM.cellsOf v))∧Shaped (shOf Tryz.prog 30) v): ∃m,v=Q7 m:=zqF zqH zj6 h
theorem zy1:shOf Tryz.prog 39=some 13:=by kernel_rfl
theorem zv8:Tryz.prog.cellsOf 39=13:=by kernel_rfl
theorem zv9: ∀n cs,WT Tryz.prog n 39 cs→ ∃m,V.agg cs=Ql m:=by
 intro n cs h
 cases n with
 |zero=>exact h.elim
 |succ n=>
  simp only[WT,Tryz.underlying39]at h
  obtain⟨hl,hf⟩:=h
  rw[zv8]at hl
  obtain⟨a1,cs1,e1,hl1⟩:=X3 hl
  obtain⟨a2,cs2,e2,hl2⟩:=X3 hl1
  obtain⟨a3,cs3,e3,hl3⟩:=X3 hl2
  obtain⟨a4,cs4,e4,hl4⟩:=X3 hl3
  obtain⟨a5,cs5,e5,hl5⟩:=X3 hl4
  obtain⟨a6,cs6,e6,hl6⟩:=X3 hl5
  obtain⟨a7,cs7,e7,hl7⟩:=X3 hl6
  obtain⟨a8,cs8,e8,hl8⟩:=X3 hl7
  obtain⟨a9,cs9,e9,hl9⟩:=X3 hl8
  obtain⟨b1,cs10,e10,hl10⟩:=X3 hl9
  obtain⟨b2,cs11,e11,hl11⟩:=X3 hl10
  obtain⟨b3,cs12,e12,hl12⟩:=X3 hl11
  obtain⟨b4,cs13,e13,hl13⟩:=X3 hl12
  have e0:=List.length_eq_zero_iff.1 hl13
  subst e0 e13 e12 e11 e10 e9 e8 e7 e6 e5 e4 e3 e2 e1
  simp only[List.forall_mem_cons]at hf
  obtain⟨f1,f2,f3,f4,f5,f6,f7,f8,f9,_⟩:=hf
  simp only[zj5,zno,zlF,zbT,zby,zo6,List.drop_zero,List.drop_succ_cons,List.take_succ_cons,List.take_zero]at f1 f2 f3 f4 f5 f6 f7 f8 f9
  obtain⟨nm,hnm⟩:=zlE f1
  obtain⟨sc,hsc⟩:=(Xd n).2 _ f2
  obtain⟨dl,hdl⟩:=zlG _ _ f3
  obtain⟨ps,hps⟩:=(Xd n).2 _ f4
  obtain⟨a,ha⟩:=(Xd n).1 _ f5
  obtain⟨ph,hph⟩:=(Xd n).2 _ f6
  obtain⟨b,hb⟩:=(Xd n).1 _ f7
  obtain⟨t,ht⟩:=zqG f8
  obtain⟨c,hc⟩:=zo7 _ _ f9
  have ha:=zaz ha
  have hb:=zaz hb
  simp only[List.cons.injEq,and_true]at hnm hsc hdl hps ha hph hb ht hc
  obtain⟨rfl,rfl,rfl⟩:=ha
  obtain⟨rfl,rfl,rfl⟩:=hb
  subst hnm hsc hdl hps hph ht hc
  exact⟨⟨nm,sc,dl,ps,a,ph,b,t,c⟩,rfl⟩
end Go.Proofs.CL
namespace Go.Ama
open Go Go.AM
theorem zfd: ∀(l:List Int) (i:Nat),(ZR i l).2=0→ ∀e∈l,e=0
 |[],_,_,e,h=>by cases h
 |a::l,i,h,e,he=>by
  unfold ZR at h
  by_cases ha:a≠0
  ·rw[if_pos ha]at h;exact absurd h ha
  ·rw[if_neg ha]at h
   rcases List.mem_cons.1 he with rfl|he
   ·exact Decidable.not_not.1 ha
   ·exact zfd l (i+1) h e he
theorem zj7{l:List Int}(h:(zeQ l).2=0):l.length≤40∧ ∀e∈l,e=0:=by
 unfold zeQ at h
 by_cases c:40<l.length
 ·rw[if_pos c]at h;cases h
 ·rw[if_neg c]at h
  exact⟨by omega,zfd l 0 h⟩
theorem zum{sig:List D}{ms:List M}(h:(zcG sig ms).2=0):ms.length≤40∧ ∀m∈ms,m.ctx.length≤40∧(m.param=true→m.ctx=[]):=by
 obtain⟨h1,h2⟩:=zj7 h
 have hl:(Yx sig ms).length=ms.length:=by simp[Yx]
 refine⟨by omega,fun m hm=> ?_⟩
 obtain⟨i,hi,rfl⟩:=List.getElem_of_mem hm
 have he:zdh sig (ms.take i) ms[i]∈Yx sig ms:=by
  unfold Yx
  refine List.mem_map.2 ⟨i,by simpa using hi, ?_⟩
  simp[List.getD_eq_getElem?_getD,hi]
 have:=h2 _ he
 unfold zdh at this
 by_cases c1:ztM sig (ms.take i) [] ms[i].ctx≠0
 ·rw[if_pos c1]at this;exact absurd this c1
 ·rw[if_neg c1]at this
  by_cases c2:ms[i].t.k≠2∨(ms[i].param=true∧0<ms[i].ctx.length)
  ·rw[if_pos c2]at this;cases this
  ·simp only[not_or,not_and]at c2
   have c3:=(zj7 (Decidable.not_not.1 c1)).1
   have hl2:(zcq sig (ms.take i) [] ms[i].ctx).length=ms[i].ctx.length:=by simp[zcq]
   exact⟨by omega,fun hp=>List.length_eq_zero_iff.1 (by have:=c2.2 hp;omega)⟩
theorem zwC{sig:List D}{ms:List M}{ext:List T}{δ:List M}{θ:List T}(h:zot sig ms ext δ θ=0):θ.length=δ.length∧ ∀(i:Nat) (d:M) (t:T),δ[i]? =some d→θ[i]? =some t→may t=true∧(d.param=true→QB t ms=true):=by
 unfold zot at h
 by_cases c1:40<δ.length
 ·rw[if_pos c1]at h;cases h
 ·rw[if_neg c1]at h
  by_cases c2:θ.length≠δ.length
  ·rw[if_pos c2]at h;cases h
  ·rw[if_neg c2]at h
   refine⟨Decidable.not_not.1 c2,fun i d t hd ht=> ?_⟩
   obtain⟨hi,hd'⟩:=List.getElem?_eq_some_iff.1 hd
   obtain⟨hj,ht'⟩:=List.getElem?_eq_some_iff.1 ht
   have he:zle sig ms ext d (θ.take i) t∈XW sig ms ext δ θ:=by
    unfold XW
    refine List.mem_map.2 ⟨i,by simpa using hj, ?_⟩
    simp[List.getD_eq_getElem?_getD,hi,hj,hd',ht']
   have h0:=zfd _ _ h _ he
   unfold zle at h0
   dsimp only at h0
   by_cases e1:(Ys (θ.take i) d.ctx 0).2≠0
   ·rw[if_pos e1]at h0;exact absurd h0 e1
   ·rw[if_neg e1]at h0
    by_cases e2:(Yy d.t (θ.take i) d.ctx.length).2≠0
    ·rw[if_pos e2]at h0
     by_cases e3:(Yy d.t (θ.take i) d.ctx.length).2=0∧d.param=true∧QB t ms=false
     ·rw[if_pos e3]at h0;cases h0
     ·rw[if_neg e3]at h0;exact absurd h0 e2
    ·rw[if_neg e2]at h0
     by_cases e3:YW sig ms (ext++(Ys (θ.take i) d.ctx 0).1) t (Yy d.t (θ.take i) d.ctx.length).1=0∧d.param=true∧QB t ms=false
     ·rw[if_pos e3]at h0;cases h0
     ·rw[if_neg e3]at h0
      refine⟨?_,fun hp=> ?_⟩
      ·unfold YW at h0
       by_cases hw:zi4 sig ms (ext++(Ys (θ.take i) d.ctx 0).1) [t,(Yy d.t (θ.take i) d.ctx.length).1]=true
       ·exact(zbK.1 hw).2.1 t (by simp)
       ·rw[if_neg hw]at h0;cases h0
      ·cases hv:QB t ms with
       |true=>rfl
       |false=>exact absurd ⟨h0,hp,hv⟩ e3
theorem zun{sig:List D}{over:List M}{ext ctx θ:List T}{a t:T}(h:zaS sig over ext ctx a θ t=0):may t=true∧zcJ over t:=by
 unfold zaS at h
 dsimp only at h
 by_cases c:(Xs ext ctx a θ).2≠0
 ·rw[if_pos c]at h;exact absurd h c
 ·rw[if_neg c]at h
  unfold YW at h
  by_cases hw:zi4 sig over (Xs ext ctx a θ).1.ctx [t,(Xs ext ctx a θ).1.t]=true
  ·rw[if_pos hw]at h
   have hm:=(zbK.1 hw).2.1 t (by simp)
   exact⟨hm,zvy sig over t _ _ (zfv hm) h⟩
  ·rw[if_neg hw]at h;cases h
theorem zqJ{p:T}{n:Int}{many:Nat}(h:zbP p n many=0):XA p n=true∧ ∀i:Nat,i<many→((i:Nat):Int)∈YC p:=by
 unfold zbP at h
 by_cases c:(List.range many).all (fun i=>decide (((i:Nat):Int)∈YC p))=true
 ·rw[if_pos c]at h
  refine⟨?_,fun i hi=> ?_⟩
  ·unfold zbp at h
   cases hp:XA p n with
   |true=>rfl
   |false=>rw[hp]at h;cases h
  ·have:=List.all_eq_true.1 c i (by simpa using hi)
   simpa using this
 ·rw[if_neg c]at h;cases h
theorem zso{sig:List D}{funs:List Fun1}{no:Int}{c:Cl}{n:Nat}(hn:no=n)(hlt:n<funs.length)(h:zfx sig funs no c=0):
  (zcG sig c.metas).2=0∧may c.p=true∧zcJ c.metas c.p∧XA c.p (funs[n].psi.length:Int)=true∧ ∀i:Nat,i<c.metas.length→((i:Nat):Int)∈YC c.p:=by
 subst hn
 unfold zfx at h
 rw[dif_pos ⟨by omega,by omega⟩]at h
 have h0:=zh2.1 h
 have e1:=h0 (zcG sig c.metas).2 (by simp)
 have e2:=h0 (zaS sig c.metas [] funs[n].psi funs[n].a c.theta c.p) (by simp)
 have e3:=h0 (zbP c.p funs[n].psi.length c.metas.length) (by simp)
 obtain⟨g1,g2⟩:=zun e2
 obtain⟨g3,g4⟩:=zqJ e3
 exact⟨e1,g1,g2,g3,g4⟩
theorem zvA{bs:List Bd}(t:T): ∀(n:Int) (s:List Int),zq3 bs t→ ∀x∈XG zdK t n s,x∈s∨ ∃b,bs[x.toNat]? =some b∧b.is=true:=by
 induction t using T.ind with
 |_ k h xs ih=>
  intro n s ⟨h1,h2⟩ x hx
  have hl: ∀(l:List T),(∀a∈l,∀(n:Int) (s:List Int),zq3 bs a→ ∀x∈XG zdK a n s,x∈s∨ ∃b,bs[x.toNat]? =some b∧b.is=true)→ ∀(b:Bool) (n:Int) (s:List Int),zl3 bs l→ ∀x∈Qd zdK l b n s,x∈s∨ ∃b,bs[x.toNat]? =some b∧b.is=true:=by
   intro l
   induction l with
   |nil=>intro _ b n s _ x hx;exact .inl hx
   |cons a l ihl=>
    intro hi b n s ⟨q1,q2⟩ x hx
    unfold Qd at hx
    rcases ihl (fun y hy=>hi y (by simp[hy])) b n _ q2 x hx with h|h
    ·exact hi a (by simp) _ _ q1 x h
    ·exact .inr h
  unfold XG at hx
  rcases hl xs ih (bindsB k) n _ h2 x hx with hx|hx
  ·unfold zdK at hx
   by_cases h6:(T.mk k h xs).k=6
   ·rw[if_pos h6]at hx
    unfold ztS at hx
    split at hx
    ·exact .inl hx
    ·rcases List.mem_append.1 hx with hx|hx
     ·exact .inl hx
     ·simp at hx
      subst hx
      exact .inr (h1 h6)
   ·rw[if_neg h6]at hx;exact .inl hx
  ·exact .inr hx
theorem zsp{bs:List Bd}{t:T}(h:zq3 bs t){x:Int}(hx:x∈YC t): ∃b,bs[x.toNat]? =some b∧b.is=true:=by
 unfold YC at hx
 rcases zvA t 0 [] h x ((Qs _).mem_iff.1 hx)with h|h
 ·cases h
 ·exact h
theorem zhD{B:Int}(hB1:0≤B)(hB:B≤4611686018427380000){sig:List D}{funs:List Fun1}{no:Int}{c:Cl}{around ρ:List T}{n:Nat}(hn:no=n)(hlt:n<funs.length)(hpsi:funs[n].psi.length≤60)
  (h1:zfx sig funs no c=0) (h2:zot sig [] around c.metas ρ=0) (hρ: ∀x∈ρ,may x=true→okB B x):
  ((Yy c.p ρ (funs[n].psi.length:Int)).2≠0→(Yy c.p ρ (funs[n].psi.length:Int)).2=4)∧
  ((Yy c.p ρ (funs[n].psi.length:Int)).2=0→ ∃bs,zls c.p (Yy c.p ρ (funs[n].psi.length:Int)).1 (funs[n].psi.length:Int) (List.replicate c.metas.length B0) (c.metas.map M.param) []=(bs,0)∧zlt bs=(ρ,true)∧bs.length≤40):=by
 obtain⟨e1,e2,e3,e4,e5⟩:=zso hn hlt h1
 obtain⟨d1,d2⟩:=zum e1
 obtain⟨s1,s2⟩:=zwC h2
 have F:FitsM B c.metas ρ:=by
  refine⟨s1,by omega,fun x hx=> ?_,fun m hm=>by have:=(d2 m hm).1;omega,fun i m t hm ht hp=> ?_⟩
  ·obtain⟨i,hi,rfl⟩:=List.getElem_of_mem hx
   have:=(s2 i c.metas[i] ρ[i] (List.getElem?_eq_getElem (by omega)) (List.getElem?_eq_getElem hi)).1
   exact⟨this,hρ _ hx this⟩
  ·obtain⟨q1,q2⟩:=s2 i m t hm ht
   have hmm:m∈c.metas:=List.mem_of_getElem? hm
   refine⟨(d2 m hmm).2 hp, ?_⟩
   have hv:=q2 hp
   unfold QB at hv
   by_cases h6:t.k=6
   ·rw[if_pos h6]at hv
    have h0:0≤t.h:=by cases t;have:=(hρ _ (List.mem_of_getElem? ht) q1).1;exact this.1
    have hn0: ¬t.h<0:=by omega
    simp[hn0]at hv
   ·rw[if_neg h6]at hv
    simp only[Bool.and_eq_true,decide_eq_true_eq,List.isEmpty_iff]at hv
    cases t with
    |mk k h xs=>
     simp only[T.k,T.args]at hv
     rw[hv.1,hv.2]
     exact⟨h,rfl⟩
 have hP:Part ρ (List.replicate c.metas.length B0):=⟨by simp[s1],fun i b t hb _ his=>by
  have:=List.mem_of_getElem? hb
  rw[List.mem_replicate]at this
  rw[this.2]at his
  cases his⟩
 have hdep:c.p.depth≤60:=by
  have:=e2
  unfold may at this
  simp only[Bool.and_eq_true,decide_eq_true_eq]at this
  exact this.2.2
 obtain⟨t,f1,f2⟩:=zsa hB F c.p (funs[n].psi.length:Int) (List.replicate c.metas.length B0) (by omega) (by omega) e2 e4 e3 hP
 have hfill:Yy c.p ρ (funs[n].psi.length:Int)=if may t=true then(t,0)else(T0,4):=by
  unfold Yy
  have c1:ρ.any (fun x=> !may x)=false:=by
   rw[List.any_eq_false]
   intro x hx
   rw[(F.all x hx).1]
   simp
  rw[e2,c1,if_neg (by simp only[Bool.not_true,Bool.false_or,Bool.or_false,Bool.or_eq_true,decide_eq_true_eq,not_or];omega),f1]
  simp
 rw[hfill]
 by_cases hm:may t=true
 ·rw[if_pos hm]
  refine⟨fun h=>absurd rfl h,fun _=> ?_⟩
  obtain⟨bs,g1,g2,_,g4⟩:=f2 hm
  refine⟨bs, ?_, ?_,by rw[g2.len,s1];omega⟩
  ·unfold zls
   have c5:(List.replicate c.metas.length B0).any (fun b=>b.is&& !may b.t)=false:=by
    rw[List.any_eq_false]
    intro b hb
    rw[List.mem_replicate]at hb
    rw[hb.2]
    simp[B0]
   rw[e2,hm,c5,if_neg (by simp only[Bool.not_true,Bool.false_or,Bool.or_false,Bool.or_eq_true,decide_eq_true_eq,not_or,List.length_replicate,List.length_map];omega),g1]
   simp
  ·have hall: ∀i (hi:i<bs.length),bs[i].is=true:=by
    intro i hi
    have hi2:i<c.metas.length:=by have:=g2.len;omega
    obtain⟨b,hb,his⟩:=zsp g4 (e5 i hi2)
    simp only[Int.toNat_natCast]at hb
    rw[List.getElem?_eq_getElem hi]at hb
    cases hb
    exact his
   unfold zlt
   have c6:bs.any (fun b=> !b.is)=false:=by
    rw[List.any_eq_false]
    intro b hb
    obtain⟨i,hi,rfl⟩:=List.getElem_of_mem hb
    rw[hall i hi]
    simp
   rw[c6]
   simp only[Bool.false_eq_true,if_false,Prod.mk.injEq,and_true]
   refine List.ext_getElem (by rw[zeY,g2.len]) fun i h1 h2=> ?_
   have hi:i<bs.length:=by rw[zeY]at h1;exact h1
   have:=g2.eq i bs[i] ρ[i] (List.getElem?_eq_getElem hi) (List.getElem?_eq_getElem h2) (hall i hi)
   simp[told,hall i hi,this]
 ·rw[if_neg hm]
  exact⟨fun _=>rfl,fun h=>by cases h⟩
theorem zvB{sig:List D}{ms:List M}{ctx:List T}{m:T}:YW sig ms ctx m T0≠0:=by
 unfold YW
 split
 ·cases m with
  |mk k h xs=>rw[zkZ sig ms (fun c=>by cases c.2) (.inr (by decide))];decide
 ·decide
end Go.Ama
namespace Go.Proofs.CL
open Go Go.AM Go.Ama
set_option maxRecDepth 100000
theorem zm4(l:List Fun1)(hb:ZY (QC l)≤4398046511104):Ev 11 [.vec .plain (some 13) (QC l)] (.bool (zfa l)):=by
 have hlen:=zdg (QC l)
 rw[Y5]at hlen
 have hl:=JH (L:=fun i=>W.loop 11 4 [.int i, .vec .plain (some 13) (QC l)] []) (xs:=l) (g:=zcp) (e0:=(Ex.exit 0,[],[])) (e1:=(Ex.ret,[V.bool false],[]))
  (fun i hi=>by
   have hp:=(zou l[i] (by have:=zeP (List.mem_map_of_mem (f:=Ql) (List.getElem_mem hi));simp only[QC]at hb;omega)).p (by simp[Zm,below,Z8])
   have hlt:decide ((i:Int)<l.length)=true:=by simp;omega
   show W.loop _ _ _ _=_
   rw[L,zaK,Y5,zco hi,Zq ⟨by omega,by omega⟩]
   simp only[hlt,Int.natCast_nonneg,decide_true,Zr,Bool.and_self,Zz,znn,←Z8,hp,Zf,Z0]
   cases zcp l[i]<;>rfl)
  (by
   show W.loop _ _ _ _=_
   rw[L,zaK,Y5]
   simp)
 unfold Ev zfa
 have e20:decide ((l.length:Int)>20)= !decide (l.length≤20):=zax l.length 20
 have hl':W.loop 11 4 [.int 0, .vec .plain (some 13) (QC l)] []=_:=hl
 rw[C,zhC,Y5,hl',e20]
 cases decide (l.length≤20)<;>cases l.all zcp<;>rfl
theorem zqK(ms:List M)(hl:ms.length≤1048576):Ev 28 [.vec .plain (some 5) (ZH ms)] (.vec .plain none (Xq (ms.map M.param))):=by
 have hL: ∀(m i:Nat),ms.length-i=m→i≤ms.length→W.loop 28 3 [.int (i:Int), .vec .grow none (Xq ((ms.take i).map M.param)), .vec .plain (some 5) (ZH ms), .int ms.length] []=some (.exit 0,[.vec .grow none (Xq (ms.map M.param))],[]):=by
  intro m
  induction m with
  |zero=>
   intro i hm hi
   have:i=ms.length:=by omega
   subst this
   rw[L,zcy,List.take_length]
   simp
  |succ m ih=>
   intro i hm hi
   have hlt:i<ms.length:=by omega
   have hlt':(i:Int)<ms.length:=by omega
   have hw:IntKind.i64.wrap ((i:Int)+1)=((i+1:Nat):Int):=by rw[Zq ⟨by omega,by omega⟩];omega
   have hi1:=ih (i+1) (by omega) (by omega)
   have ht:Xq ((ms.take (i+1)).map M.param)=Xq ((ms.take i).map M.param)++[.bool ms[i].param]:=by
    unfold Xq
    rw[List.take_succ_eq_append_getElem hlt,List.map_append,List.map_append]
    rfl
   have hr:roomFor Tryz.prog 4 (min i ms.length+1)=true:=by
    have:((Tryz.prog.info? 4).map (·.bytes)).getD 0=1:=by kernel_rfl
    unfold roomFor
    rw[this]
    simp
    omega
   rw[L,zcy,hw,J8 hlt,ZL]
   rw[ht]at hi1
   simp only[hlt',Int.natCast_nonneg,decide_true,Bool.and_self,Bool.true_and,Zz,Zr,onM,zcu,List.length_map,List.length_take,List.length_cons,List.length_nil,Nat.zero_add,hr]
   exact hi1
 have h:=hL _ 0 rfl (Nat.zero_le _)
 have h':W.loop 28 3 [.int 0, .vec .grow none [], .vec .plain (some 5) (ZH ms), .int ms.length] []=_:=h
 unfold Ev
 rw[C,zl0,ZL,h']
 simp[below,Zu,zdM]
theorem zsq: ∀(l r:List T),sizes l≤1099511627776→sizes r≤1099511627776→l=r→Ev 21 [.vec .plain (some 3) (Zg l), .vec .plain (some 3) (Zg r)] (.bool true):=by
 intro l r h1 _ e
 subst e
 have hlen:=Zp l
 have hL: ∀(m i:Nat),l.length-i=m→i≤l.length→W.loop 21 4 [.int (i:Int), .vec .plain (some 3) (Zg l), .vec .plain (some 3) (Zg l)] []=some (.exit 0,[],[]):=by
  intro m
  induction m with
  |zero=>
   intro i hm hi
   have:i=l.length:=by omega
   subst this
   rw[L,zeg]
   simp
  |succ m ih=>
   intro i hm hi
   have hlt:i<l.length:=by omega
   have hlt':(i:Int)<l.length:=by omega
   have hw:IntKind.i64.wrap ((i:Int)+1)=((i+1:Nat):Int):=by rw[Zq ⟨by omega,by omega⟩];omega
   have hs:l[i].size≤1099511627776:=by have:=size_le (List.getElem_mem hlt);omega
   have hm:=(zr1 l[i] l[i] hs hs).p
   rw[L,zeg,hw,ZC hlt,Zh]
   have hss:l[i].same l[i]=true:=(zhe _ _).2 rfl
   simp only[hlt',Int.natCast_nonneg,decide_true,Bool.and_self,Zz,Zr,zbX,←Zb,hm,Zf,Z0,hss,Bool.not_true,Zo]
   exact ih (i+1) (by omega) (by omega)
 have h:=hL _ 0 rfl (Nat.zero_le _)
 simp only[Int.natCast_zero]at h
 unfold Ev
 rw[C,zo5,Zh,h]
 simp
theorem ziM(sig:List D)(funs:List Fun1)(no:Int)(c:Cl)(around ρ:List T)(hb:ZY (Yo sig)+ZY (QC funs)+Xr (Q7 c)+ZY (Zg around)+ZY (Zg ρ)≤1048576*1024):
  Ev 7 [.vec .plain (some 4) (Yo sig), .vec .plain (some 13) (QC funs), .int no,Q7 c, .vec .plain (some 3) (Zg around), .vec .plain (some 3) (Zg ρ)] (.bool true):=by
 have hba:=Qi around
 have hbr:=Qi ρ
 have h1:=(zln sig [] around (by omega) (by simp[ZY,ZH]) (by omega)).p (by simp[Zm,below,Zv])
 have h2:=(zm4 funs (by omega)).p (by simp[Zm,below])
 have h3:=(zhr c (by omega)).p (by simp[Zm,below,Y2])
 have h4:=(XX ρ 200 40 (by omega)).p
 simp only[zi3]at h1
 unfold Ev
 rw[C,Y2 c,zf5,←Y2 c,zw8.p,h1,h2,h3,h4,Y5]
 simp only[Zf,Z0,Bool.not_true,Zo]
 cases c1:znc sig [] around with
 |false=>simp
 |true=>
  cases c2:zfa funs with
  |false=>simp
  |true=>
   cases c3:zbn c with
   |false=>simp
   |true=>
    cases c4:XF 200 40 ρ with
    |false=>simp
    |true=>
     by_cases n1:no<0
     ·simp[n1]
     by_cases n2:no≥(funs.length:Int)
     ·simp[n1,n2]
     obtain⟨n,rfl⟩:=Int.eq_ofNat_of_zero_le (show 0≤no by omega)
     have hlt:n<funs.length:=by omega
     have hlt':(n:Int)<funs.length:=by omega
     unfold znc at c1
     simp only[Bool.and_eq_true]at c1
     have hs:=zx1 c1.1
     have hfs:=zv5 c2
     have hcl:=zsM c3
     have hρ:=zdP (by omega) c4
     have har:=zdP (by omega) c1.2.2
     have hf:=hfs.2 _ (List.getElem_mem hlt)
     have hg:=zco hlt
     have k1:=(zqC (no:=(n:Int)) hs ⟨by omega,hfs.2⟩ hcl).p (by simp[Zm,below,Zv,Y2])
     have k2:=(zlp sig [] around c.metas ρ hs ⟨by simp,by simp⟩ har.hds hcl.metas hρ).p (by simp[Zm,below,Zv])
     have k3:=(zdi (β:=1099511627776) (by omega) zcr (t:=c.p) (θ:=ρ) (n:=(funs[n].psi.length:Int)) (by have:=hcl.p.size;omega) (by have:=hρ.hds.szs;omega) (fun x hx=>(hρ.all x hx).ok) hcl.p.ok).p
     simp only[zi3]at k2
     have hpsi: ∀{R:Type} (K:List V→Option R),(YP (Ql funs[n]) fun c15=>gd (decide (4≤c15.length)) (Yi (some 3) (AM.partOf c15 3 none) K))=K (Zg funs[n].psi):=fun K=>by
      rw[Z8]
      simp[AM.partOf]
     simp only[Bool.not_true,Zo,n1,n2,decide_false,k1,Zf,Z2]
     by_cases z1:zfx sig funs (n:Int) c=0
     ·simp only[z1,zbD,k2,Zf,Z2]
      by_cases z2:zot sig [] around c.metas ρ=0
      ·simp only[z2,zbD,Int.natCast_nonneg,hlt',decide_true,Bool.and_self,Zz,hg,hpsi,←Zb,Zh,k3,Zf,Y1,ZE,zbX,Z2,ZN]
       obtain⟨p1,p2⟩:=zhD (B:=1099511627776) (by omega) (by omega) rfl hlt hf.psi.len z1 z2 (fun x hx=>(hρ.all x hx).ok)
       by_cases z3:(Yy c.p ρ (funs[n].psi.length:Int)).2=0
       ·obtain⟨bs,q1,q2,q3⟩:=p2 z3
        obtain⟨f1,f2,_⟩:=zho (β:=1099511627776) (by omega) (fun x hx=>(hρ.all x hx).ok) hcl.p.ok zcr z3
        have hfs1:=Yu f1
        have hcm:c.metas.length≤60:=hcl.mlen
        have k4:=(zqK c.metas (by omega)).p (h2:=by simp only[below];exact zdM 0 _)
        have hrepl:List.replicate c.metas.length (V.agg [V.bool false,V.int 0,V.int 0,V.vec .plain (some 3) []])=Yg (List.replicate c.metas.length B0):=by
         simp[Yg,zac,B0,T0]
        have hrb:roomFor Tryz.prog 100 c.metas.length=true:=zwY (by omega)
        have k5:=(zsf (B:=1152921504606846976) (by omega) (by unfold ZT;omega) (by omega) (p:=c.p) (t:=(Yy c.p ρ (funs[n].psi.length:Int)).1) (n:=(funs[n].psi.length:Int)) (bs:=List.replicate c.metas.length B0) (ps:=c.metas.map M.param) (rs:=[]) (by have:=hcl.p.size;omega) (by omega) (fun hm=>Z6 (by omega) _ (hcl.p.ok hm)) (fun _=>Z6 (by omega) _ f2) (by simp;omega) (fun b hb=>by rw[List.mem_replicate]at hb;rw[hb.2];decide) (fun b hb hi=>by rw[List.mem_replicate]at hb;rw[hb.2]at hi;cases hi)).p (h1:=by simp[Zm,below,zad,zdM]) (h2:=by simp[below,Zm,zad])
        rw[q1]at k5
        have k6:=(zsg (bs:=bs) (by omega)).p (h1:=by simp[Zm,below,zad])
        rw[q2]at k6
        have k7:=(zsq ρ ρ (by have:=hρ.hds.szs;omega) (by have:=hρ.hds.szs;omega) rfl).p
        have hI:In sig [] around [(Yy c.p ρ (funs[n].psi.length:Int)).1,T0]:=zsH hs ⟨by simp,by simp⟩ (har.hds.mono (by omega)) ⟨by simp,fun x hx=>by
         rcases List.mem_cons.1 hx with rfl|hx
         ·exact⟨hfs1,fun _=>Z6 (by omega) _ f2⟩
         ·rw[List.mem_singleton]at hx;subst hx;exact zwV⟩
        have k8:=(zbL sig [] around (Yy c.p ρ (funs[n].psi.length:Int)).1 T0 hI).p (by simp[Zm,below,Zv])
        simp only[zi3]at k8
        have hT0:V.agg [V.int 0,V.int 0,V.vec .plain (some 3) []]=enc T0:=rfl
        have hrs:Xq []=[]:=rfl
        rw[hrs]at k5
        have hck:(YW sig [] around (Yy c.p ρ (funs[n].psi.length:Int)).1 T0 !=0)=true:=by simpa using zvB
        simp only[z3,zbD,ZL,Int.natCast_nonneg,decide_true,Bool.and_self,Bool.true_and,Bool.and_true,Int.toNat_natCast,hrb,Zz,k4,Zf,YQ,hrepl,k5,Y1,ZE,Z2,ZN,k6,Z0,k7,hT0,k8,beq_self_eq_true,Zr,hck]
       ·have:=p1 z3
        rw[this]
        simp
      ·simp[z2]
     ·simp[z1]
theorem zxA:shOf Tryz.prog 23=none:=by kernel_rfl
theorem zuo: ∀n cs,WT Tryz.prog n 23 cs→ ∃l,cs=[.vec .plain (some 13) (QC l)]:=zfy Tryz.underlying23 zy1 zv9
theorem zvC{v:V}(h:(∃n,WT Tryz.prog n 23 (AM.cellsOf v))∧Shaped (shOf Tryz.prog 23) v): ∃l,v= .vec .plain (some 13) (QC l):=zsk zxA zuo h
theorem pure_ClauseMatch: ∀us,zmP Tryz.prog [22,23,3,30,25,25] us→ZY us≤1048576→ ∃m st,(Qa Tryz.prog cfg ext m).call 7 us []=some (.ret (.bool true),st):=by
 intro us hW hb
 match us,hW with
 |[u,v,w,x,y,z],⟨h1,h2,h3,h4,h5,h6,h7,h8,h9,h10,h11,h12,_⟩=>
  obtain⟨sig,rfl⟩:=zuh ⟨h1,h2⟩
  obtain⟨funs,rfl⟩:=zvC ⟨h3,h4⟩
  obtain⟨no,rfl,_⟩:=zw9 ⟨h5,h6⟩
  obtain⟨c,rfl⟩:=zsn ⟨h7,h8⟩
  obtain⟨around,rfl⟩:=zqE ⟨h9,h10⟩
  obtain⟨ρ,rfl⟩:=zqE ⟨h11,h12⟩
  simp only[ZY,Xr]at hb
  exact zyy (ziM sig funs no c around ρ (by omega))
end Go.Proofs.CL
