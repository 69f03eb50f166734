import Derived.Test.YthhifgeblblmcaaGreatChecked
import Derived.Shelf.Lays
import Derived.KernelRfl
import Derived.Test.YthhifgeblblmcaaGreatAMd
import Derived.Maps.AppendAt
import Derived.WalkKit
import Derived.ProofKit
import Derived.Shelf.Sort.Plain
import Derived.Shelf.Slices.In.SortNone
import Derived.Test.YthhifgeblblmcaaGreatAMa
import Derived.Test.YthhifgeblblmcaaGreatProg
import Derived.Shelf.Spec.SlicesGrow
import Derived.CallsIn
/- The program's functions, each an equation of the abstract machine checked by the kernel, and what they come to as_ plain Lean. -/
set_option linter.unusedVariables false
set_option linter.unusedSimpArgs false
set_option linter.unusedSectionVars false
namespace Go.Proofs.CL
open Go Go.Shelf
set_option maxRecDepth 100000
def ztW:Go.Shelf.Ren:=⟨fun|125=>210|128=>229|129=>230|189=>185|215=>240|216=>226|257=>209|294=>220|295=>221|296=>222|297=>223|298=>224|299=>225|300=>227|301=>228|328=>235|329=>236|330=>237|331=>238|332=>239|343=>241|n=>n,fun|0=>0|3=>3|4=>4|5=>5|9=>9|28=>73|46=>216|51=>233|53=>235|131=>221|182=>225|183=>226|218=>237|222=>241|228=>243|229=>244|n=>n,fun n=>n⟩
theorem znV:Lays.n189 Tryz.prog ztW where
 mixed:=by kernel_rfl
 f125:=Tryz.func210.trans (congrArg some (by kernel_rfl))
 f128:=Tryz.func229.trans (congrArg some (by kernel_rfl))
 f129:=Tryz.func230.trans (congrArg some (by kernel_rfl))
 f189:=Tryz.func185.trans (congrArg some (by kernel_rfl))
 f215:=Tryz.func240.trans (congrArg some (by kernel_rfl))
 f216:=Tryz.func226.trans (congrArg some (by kernel_rfl))
 f257:=Tryz.func209.trans (congrArg some (by kernel_rfl))
 f294:=Tryz.func220.trans (congrArg some (by kernel_rfl))
 f295:=Tryz.func221.trans (congrArg some (by kernel_rfl))
 f296:=Tryz.func222.trans (congrArg some (by kernel_rfl))
 f297:=Tryz.func223.trans (congrArg some (by kernel_rfl))
 f298:=Tryz.func224.trans (congrArg some (by kernel_rfl))
 f299:=Tryz.func225.trans (congrArg some (by kernel_rfl))
 f300:=Tryz.func227.trans (congrArg some (by kernel_rfl))
 f301:=Tryz.func228.trans (congrArg some (by kernel_rfl))
 f328:=Tryz.func235.trans (congrArg some (by kernel_rfl))
 f329:=Tryz.func236.trans (congrArg some (by kernel_rfl))
 f330:=Tryz.func237.trans (congrArg some (by kernel_rfl))
 f331:=Tryz.func238.trans (congrArg some (by kernel_rfl))
 f332:=Tryz.func239.trans (congrArg some (by kernel_rfl))
 f343:=Tryz.func241.trans (congrArg some (by kernel_rfl))
 t0:=Tryz.underlying0
 a0:=Tryz.isAgg0
 z0:=Tryz.sizeOf0
 v0:=Tryz.zeroValue0
 t3:=Tryz.underlying3
 a3:=Tryz.isAgg3
 z3:=Tryz.sizeOf3
 v3:=Tryz.zeroValue3
 t4:=Tryz.underlying4
 a4:=Tryz.isAgg4
 z4:=Tryz.sizeOf4
 v4:=Tryz.zeroValue4
 t5:=Tryz.underlying5
 a5:=Tryz.isAgg5
 z5:=Tryz.sizeOf5
 v5:=Tryz.zeroValue5
 t9:=Tryz.underlying9
 a9:=Tryz.isAgg9
 z9:=Tryz.sizeOf9
 v9:=Tryz.zeroValue9
 t28:=Tryz.underlying73
 a28:=Tryz.isAgg73
 z28:=Tryz.sizeOf73
 v28:=Tryz.zeroValue73
 t46:=Tryz.underlying216
 a46:=Tryz.isAgg216
 z46:=Tryz.sizeOf216
 v46:=Tryz.zeroValue216
 t51:=Tryz.underlying233
 a51:=Tryz.isAgg233
 z51:=Tryz.sizeOf233
 v51:=Tryz.zeroValue233
 t53:=Tryz.underlying235
 a53:=Tryz.isAgg235
 z53:=Tryz.sizeOf235
 v53:=Tryz.zeroValue235
 t131:=Tryz.underlying221
 a131:=Tryz.isAgg221
 z131:=Tryz.sizeOf221
 v131:=Tryz.zeroValue221
 t182:=Tryz.underlying225
 a182:=Tryz.isAgg225
 z182:=Tryz.sizeOf225
 v182:=Tryz.zeroValue225
 t183:=Tryz.underlying226
 a183:=Tryz.isAgg226
 z183:=Tryz.sizeOf226
 v183:=Tryz.zeroValue226
 t218:=Tryz.underlying237
 a218:=Tryz.isAgg237
 z218:=Tryz.sizeOf237
 v218:=Tryz.zeroValue237
 t222:=Tryz.underlying241
 a222:=Tryz.isAgg241
 z222:=Tryz.sizeOf241
 v222:=Tryz.zeroValue241
 t228:=Tryz.underlying243
 a228:=Tryz.isAgg243
 z228:=Tryz.sizeOf243
 v228:=Tryz.zeroValue243
 t229:=Tryz.underlying244
 a229:=Tryz.isAgg244
 z229:=Tryz.sizeOf244
 v229:=Tryz.zeroValue244
end Go.Proofs.CL
namespace Go.Proofs.CL
open Go Go.AM Go.RowKit Go.Maps Go.Sort Go.Shelf
theorem zqD:Keyed Tryz.prog 3:=int_keyed Tryz.underlying3
theorem zsX:(Tryz.prog.info? 3).map (fun i=>(i.zero,i.size,i.bytes))=some (some (.int .i64 0),1,8):=by kernel_rfl
theorem zr3(w:World):Calls Tryz.prog 185 #[.slice none 0 0] w fun e w'=>e= .returned (.tuple #[])∧w'=w:=Any.slices_Sort_int_none znV none 0 w
theorem zr4(g cap:Nat)(ss:List Int)(w:World)(hH:Holds (Value.int .i64) w g 0 ss.toArray)(hg:g<w.heap.size)(hl:ss.length<4611686018427387904):
  Calls Tryz.prog 185 #[.slice (some ⟨g,0,none⟩) ss.length cap] w fun e w'=>e= .returned (.tuple #[])∧ ∃n os,w'=grow (putRow (Value.int .i64) (Sort.ahead w n) g 0 (ss.mergeSort fun x y=>decide (x≤y)).toArray) os:=Any.slices_Sort_int znV g 0 cap ss w hH hg hl
set_option maxRecDepth 100000 in
set_option maxHeartbeats 1000000 in
theorem zsY:znO Tryz.prog 153 3:=by
 refine⟨⟨_,Tryz.func153,rfl⟩,fun b es ms clock zs w hb hE hz hw hf hl=> ?_⟩
 obtain⟨D0,hown,hsize,hhas⟩:=zm3 Tryz.underlying3 Tryz.underlying4 hb hE hz hw hf hl
 have hzl:=zhn hz
 have hnd:=zcM hf
 obtain⟨i0,hi,hz0,hz1,hz2⟩:=info_parts zsX
 have hbl:=hown.lt
 have hmax:Maps.size D0≤1099511627776:=by omega
 clear hb hE hz hw hf
 go_enter Tryz.func153,Tryz.ntmps153
 go_wp2_with (first
  |(at_range;refine wpList_range_own _ rfl _ 157 rfl 3 4 zqD Tryz.underlying157 _ b es.length _ rfl hown ?_;intro w0 hrg0 hg0 hs0)
  |go_in)
 go_frame
 go_loopw [3] (fun v wr=> ∃(left:Lit→Bool) (cnt:Nat) (ss:List Int),wr.ranges Tryz.prog 3 (plainElem Tryz.prog 4) b w.heap.size es.length D0 left cnt∧ss.length+cnt≤Maps.size D0∧
   wr.ownsRow w.heap.size 3 1 v ss.length (ss.map (Value.int .i64))∧CollI D0 left ss∧Below w.heap.size w wr)
  (fun _ wr=>wr.rangeLeft b w.heap.size)
 case atStart=>
  exact⟨_,_,[],hrg0,by simp,⟨rfl, .inl ⟨rfl,rfl⟩⟩,CollI.start D0,(Below.refl _ _).grown hg0 (Nat.le_refl _) (fun j hj=>by cases hj)⟩
 case round=>
  obtain⟨left,cnt,ss,hrg,hcs,hrow,hC,hnx⟩:=hrel
  go_wp2_with (first
   |(at_next;refine wpList_next_ranges _ rfl _ rfl 3 zqD (plainElem Tryz.prog 4) (Value.int .i64) (fun v:Value=>v) (fun key kl hk=>by obtain⟨x,hx,_⟩:=Maps.keyOf_int_inv Tryz.underlying3 hk;exact⟨x,hx⟩) (fun v y hv=>⟨v,rfl⟩) b w.heap.size es.length _ _ _ rfl hrg ?_ ?_)
   |go_in)
  ·intro hc0 hl0
   have hp:=hC.perm hnd hhas hl0
   have hlen:ss.length=zs.length:=hp.length_eq
   have hms:=zhm hp
   rcases hrow.2 with⟨rfl,hz0⟩|⟨g,cap,cur,rfl,hbase,hb,h1,h2,h3,h4⟩
   ·have hc:=zr3 wr
    have hss:ss=[]:=List.length_eq_zero_iff.1 hz0
    subst hss
    go_wp2_with (go_at_call 185;refine Calls.mono hc ?_;rintro e w' ⟨he,hw⟩;subst he;subst hw)
    go_ret
    have hz0':zs=[]:=List.length_eq_zero_iff.1 hlen.symm
    subst hz0'
    exact⟨_,rfl,⟨rfl, .inl ⟨rfl,rfl⟩⟩,hnx⟩
   ·have hH:Holds (Value.int .i64) wr g 0 ss.toArray:=holds_of_blockI hb (by simpa using h4)
    have hgl:g<wr.heap.size:=(Array.getElem?_eq_some_iff.1 hb).1
    have hc:=zr4 g cap ss wr hH hgl (by omega)
    rw[hms,hlen,hzl]at hc
    go_wp2_with (go_at_call 185;refine Calls.mono hc ?_;rintro e w' ⟨he,nn,os,hw⟩;subst he;subst hw)
    go_ret
    have hown':=ownsRow_sortedI (w:=wr) (n:=nn) (os:=os) (ss:=ss) (ts:=Q7 zs) (by rw[hlen];exact(Q8 zs).length_eq) hbase hb h1 h2 h3
    rw[hlen,hzl]at hown'
    exact⟨_,rfl,by rw[hzl];exact hown',hnx.grown (grownBy_sortedI _) hnx.size (fun j hj=>by cases hj;exact hbase)⟩
  ·intro x c kl yd yp w2 cnt2 hkey hlk hv hat hrg2 hlt hg2 hs2 hen
   obtain⟨x',ex,rfl,_⟩:=Maps.keyOf_int_inv Tryz.underlying3 hkey
   obtain rfl:x=x':=by simpa using ex
   have hrow2:=hrow.kept hg2 (Or.inr (row_ne_iter hrow hrg).symm)
   clear hs2
   go_wp2_with (first
    |(at_builtin;refine wpList_append_own _ rfl _ _ 73 rfl w.heap.size 3 i0 (.int .i64 0) 1 8 Tryz.underlying73 hi hz0 hz1 hz2 rfl (by decide) _ _ _ rfl (hrow2.alloc _) ⟨w2.heap.size,0,none⟩ 1 1 [Value.int .i64 x] rfl rfl (cell_one_new _ _ _) (by simp[Value.oneCell']) (by unfold maxLen at*;omega) (by omega) (by have:=hnx.size;have:=hg2.size;simp;omega) ?_;intro v' w3 hown' hg3 hnil3;go_frame)
    |go_in)
   have hrg3:=(hrg2.alloc _).kept hg3 (row_ne_low hrow2 hbl) (row_ne_iter hrow2 hrg2)
   go_roundw
   case rel=>
    refine⟨_,cnt2,ss++[x],hrg3,by simp;omega,by simpa using hown',hC.step hlk hat, ?_⟩
    exact((hnx.grown hg2 hnx.size (fun j hj=>by cases hj;exact Nat.le_refl _)).alloc (by have:=hnx.size;have:=hg2.size;omega) _).grown hg3 (by have:=hnx.size;have:=hg2.size;simp;omega) (fun j hj=>(hrow2.lt j hj).1)
   case measure=>rw[hrg3.left_eq,hrg.left_eq];exact hlt
end Go.Proofs.CL
namespace Go.Proofs.CL
open Go Go.AM
def zvS:Nat→Option FnHints
 |2=>some ⟨true,[],[],[],[],[]⟩
 |3=>some ⟨true,[],[],[(8,[(13, .ty 3),(1, .any),(0, .any),(7, .loc 30),(2, .ty 3)])],[(8,[(7, .loc 30),(2, .ty 3),(1, .ty 23),(0, .ty 22)])],[(8, .ty 4)]⟩
 |4=>some ⟨true,[],[],[],[],[(10, .ty 4)]⟩
 |5=>some ⟨true,[55],[(15,1),(16,2),(16,5)],[(11,[(18, .ty 3),(17, .row (some 13)),(16, .ty 35),(8, .loc 30),(2, .ty 3),(9, .loc 39),(0, .any)])],[(11,[(16, .ty 35),(8, .loc 30),(2, .ty 3),(9, .loc 39),(17, .row (some 13)),(0, .ty 22)])],[(10, .ty 4)]⟩
 |6=>some ⟨true,[],[],[],[],[(10, .ty 4)]⟩
 |7=>some ⟨true,[],[],[],[],[(12, .ty 4)]⟩
 |8=>some ⟨true,[],[(15,9),(15,11),(30,2),(30,4)],[],[],[(14, .ty 4)]⟩
 |9=>some ⟨true,[],[],[],[],[(0, .ty 4)]⟩
 |10=>some ⟨true,[],[],[(5,[(8, .ty 3),(1, .any),(2, .any)])],[(5,[(2, .ty 25)])],[(6, .ty 4)]⟩
 |11=>some ⟨true,[],[],[(4,[(3, .ty 3),(0, .any)])],[(4,[])],[(2, .ty 4)]⟩
 |12=>some ⟨true,[],[],[(8,[(7, .ty 3),(1, .loc 30)])],[(8,[])],[(2, .ty 4)]⟩
 |13=>some ⟨true,[],[],[],[],[(4, .ty 35)]⟩
 |14=>some ⟨true,[],[],[],[],[(4, .ty 35)]⟩
 |15=>some ⟨true,[10],[(3,16)],[],[],[(8, .ty 35)]⟩
 |16=>some ⟨true,[],[(21,2),(21,3),(31,3),(31,0),(31,4)],[(23,[(19, .ty 3),(18, .grow (some 5)),(1, .any),(9, .loc 39),(0, .any),(7, .loc 30)])],[(23,[(7, .loc 30),(18, .grow (some 5)),(0, .ty 22),(9, .loc 39)])],[(8, .ty 35)]⟩
 |17=>some ⟨true,[],[],[(10,[(9, .ty 3),(1, .loc 39)])],[(10,[])],[(2, .ty 4)]⟩
 |18=>some ⟨true,[],[],[],[],[(2, .ty 4)]⟩
 |19=>some ⟨true,[],[],[],[],[(10, .locA (some 5)),(11, .ty 35)]⟩
 |20=>some ⟨true,[],[],[],[],[(10, .locA (some 5)),(11, .ty 35)]⟩
 |21=>some ⟨true,[],[],[(4,[(5, .ty 3),(1, .any),(0, .any)])],[(4,[])],[(4, .ty 4)]⟩
 |22=>some ⟨true,[],[],[(4,[(5, .ty 3),(3, .loc 27),(2, .loc 27)])],[(4,[])],[(4, .ty 4)]⟩
 |23=>some ⟨true,[],[],[],[],[(4, .ty 4)]⟩
 |24=>some ⟨true,[],[],[(4,[(7, .ty 3),(2, .ty 3),(1, .ty 3),(0, .any)])],[(4,[])],[(6, .ty 4)]⟩
 |25=>some ⟨true,[10],[],[(8,[(10, .any),(6, .any),(7, .any),(5, .any),(8, .any)])],[],[(10, .ref)]⟩
 |26=>some ⟨true,[],[],[],[],[(6, .locA (some 3)),(7, .ty 35)]⟩
 |27=>some ⟨true,[57,53],[(0,2),(3,0),(8,1),(5,1003),(9,1003),(12,1003),(12,1008),(14,1003),(4,1005)],[(10,[(77, .ty 3),(15, .ref),(76, .ty 3)])],[(10,[(15, .ref)])],[(12, .ty 58),(13, .ty 35)]⟩
 |28=>some ⟨true,[],[(5,4),(5,0),(5,5),(0,0)],[(3,[(8, .ty 3),(3, .grow none),(6, .any),(7, .ty 3)])],[(3,[(3, .grow none)])],[(2, .ty 61)]⟩
 |29=>some ⟨true,[],[(0,0),(2,0)],[],[],[(2, .ty 25),(3, .ty 4)]⟩
 |30=>some ⟨true,[],[],[],[],[(10, .ty 35)]⟩
 |31=>some ⟨true,[],[],[],[],[(6, .ty 4)]⟩
 |32=>some ⟨true,[],[],[],[],[(2, .ty 3),(3, .ty 35)]⟩
 |33=>some ⟨true,[],[(0,2)],[],[],[(6, .ty 25),(7, .ty 35)]⟩
 |34=>some ⟨true,[],[(0,2),(2,0)],[],[],[(6, .ty 25),(7, .ty 35)]⟩
 |35=>some ⟨true,[],[(5,5),(5,0),(5,6),(0,0)],[(3,[(8, .ty 3),(3, .grow none),(6, .any),(7, .ty 3)])],[(3,[(3, .grow none)])],[(2, .ty 73)]⟩
 |36=>some ⟨true,[],[],[],[],[(0, .locA (some 13))]⟩
 |37=>some ⟨true,[],[(0,0)],[],[],[(0, .ty 22)]⟩
 |38=>some ⟨true,[],[],[(4,[(3, .ty 3),(0, .any)])],[(4,[])],[(2, .ty 4)]⟩
 |39=>some ⟨true,[],[],[],[],[(2, .ty 4)]⟩
 |40=>some ⟨false,[],[],[(2,[(8, .ty 3),(6, .any),(7, .ty 3)])],[(2,[])],[(2, .ty 35)]⟩
 |41=>some ⟨false,[],[],[],[],[(2, .ty 35)]⟩
 |42=>some ⟨true,[],[],[],[],[(4, .ty 35)]⟩
 |43=>some ⟨false,[],[],[],[],[(2, .ty 35)]⟩
 |44=>some ⟨true,[],[],[],[],[(4, .ty 35)]⟩
 |45=>some ⟨false,[],[],[],[],[(2, .ty 35)]⟩
 |46=>some ⟨true,[],[],[],[],[(8, .ty 35)]⟩
 |47=>some ⟨false,[],[],[],[],[(2, .ty 35)]⟩
 |48=>some ⟨false,[],[],[],[],[(1, .ty 35)]⟩
 |49=>some ⟨true,[],[],[],[],[(4, .ty 35)]⟩
 |50=>some ⟨true,[],[],[(4,[(5, .ty 3),(1, .any),(0, .any)])],[(4,[])],[(4, .ty 35)]⟩
 |51=>some ⟨true,[],[],[(4,[(6, .ty 3),(1, .any),(0, .any)])],[(4,[])],[(4, .ty 3),(5, .ty 35)]⟩
 |52=>some ⟨true,[],[],[],[],[(8, .ty 35)]⟩
 |53=>some ⟨false,[],[(9,3),(9,0),(9,4)],[(2,[(13, .ty 3),(3, .any),(1, .any),(4, .any),(2, .any),(11, .any),(12, .ty 3)])],[(2,[])],[(5, .ty 35)]⟩
 |54=>some ⟨false,[],[],[],[],[(1, .ty 35)]⟩
 |55=>some ⟨false,[],[],[],[],[(2, .ty 35)]⟩
 |56=>some ⟨false,[],[],[],[],[(3, .ty 35)]⟩
 |57=>some ⟨false,[],[],[],[],[(3, .ty 35)]⟩
 |58=>some ⟨true,[],[],[],[],[(14, .ty 35)]⟩
 |59=>some ⟨false,[],[],[],[],[(2, .ty 35)]⟩
 |60=>some ⟨true,[],[],[(3,[(12, .ty 3),(7, .any),(1, .ty 3),(3, .loc 27),(11, .ty 3)])],[(3,[(1, .ty 3),(3, .loc 27)])],[(6, .ty 35)]⟩
 |61=>some ⟨false,[],[],[],[],[(4, .ty 35)]⟩
 |62=>some ⟨true,[],[],[(6,[(11, .ty 3),(4, .any),(3, .any),(2, .any),(1, .any),(0, .any)])],[(6,[])],[(10, .ty 35)]⟩
 |63=>some ⟨true,[],[(7,1),(7,3),(7,5)],[],[],[(8, .grow (some 3)),(9, .locA (some 3)),(10, .ty 35)]⟩
 |64=>some ⟨true,[25],[],[],[],[(10, .ty 35)]⟩
 |65=>some ⟨true,[],[],[(5,[(10, .ty 3),(9, .ty 3),(2, .ty 3),(8, .any),(7, .ty 4)])],[(5,[(2, .ty 3),(9, .ty 3),(7, .ty 4)])],[(6, .ty 35)]⟩
 |66=>some ⟨false,[],[],[],[],[(1, .ty 35)]⟩
 |67=>some ⟨false,[],[],[],[],[(3, .ty 35)]⟩
 |68=>some ⟨false,[],[],[],[],[(4, .ty 35)]⟩
 |69=>some ⟨false,[],[],[],[],[(4, .ty 35)]⟩
 |70=>some ⟨true,[],[],[],[],[(8, .locA (some 5)),(9, .ty 35)]⟩
 |71=>some ⟨true,[],[],[(2,[(5, .ty 3),(1, .any),(0, .any)]),(6,[(7, .ty 3),(6, .ty 4),(5, .ty 3),(1, .any),(0, .any)])],[(2,[]),(6,[(1, .ty 25),(0, .ty 25),(5, .ty 3),(6, .ty 4)])],[(4, .ty 4)]⟩
 |72=>some ⟨false,[],[],[],[],[(3, .ty 4)]⟩
 |73=>some ⟨false,[],[],[],[],[(4, .ty 4)]⟩
 |74=>some ⟨false,[],[],[],[],[(3, .ty 4)]⟩
 |75=>some ⟨true,[],[],[(4,[(31, .ty 3),(3, .loc 27),(29, .any),(30, .ty 3)])],[(4,[])],[(4, .ty 4)]⟩
 |76=>some ⟨false,[],[],[],[],[(2, .any)]⟩
 |77=>some ⟨true,[],[(9,2),(13,2),(13,0),(13,3),(0,0)],[(3,[(11, .ty 3),(3, .ty 3),(9, .any),(0, .any),(10, .ty 3)]),(11,[(27, .ty 3),(6, .grow (some 3)),(25, .any),(26, .ty 3)])],[(3,[(0, .ty 136),(3, .ty 3)]),(11,[(6, .grow (some 3))])],[(2, .ty 25)]⟩
 |78=>some ⟨true,[],[],[],[],[(4, .ty 4)]⟩
 |79=>some ⟨true,[],[],[],[],[(2, .ty 4)]⟩
 |80=>some ⟨true,[],[],[],[],[(6, .locA (some 3)),(7, .ty 35)]⟩
 |81=>some ⟨true,[],[],[],[],[(2, .ty 4)]⟩
 |82=>some ⟨true,[],[],[],[],[(2, .ty 4)]⟩
 |83=>some ⟨false,[],[],[],[],[(4, .ty 4)]⟩
 |84=>some ⟨false,[],[],[(1000000,[(6, .loc 27),(5, .loc 27),(0, .ref),(9, .ty 4),(3, .ty 3),(11, .ty 3),(10, .ty 35),(8, .ty 35)])],[(1000000,[(8, .ty 35)])],[(8, .ty 35)]⟩
 |85=>some ⟨true,[],[(5,4),(5,0),(5,5)],[(3,[(9, .ty 3),(3, .grow (some 3)),(7, .any),(2, .locA (some 3)),(1, .loc 27),(8, .ty 3)])],[(3,[(2, .locA (some 3)),(3, .grow (some 3)),(1, .loc 27)])],[(2, .locA (some 3))]⟩
 |86=>some ⟨true,[],[],[],[],[(2, .ty 4)]⟩
 |87=>some ⟨false,[8],[(0,0)],[(3,[(11, .ty 3),(3, .row (some 3)),(9, .any),(10, .ty 3)])],[(3,[(3, .row (some 3))])],[(2, .row (some 3))]⟩
 |88=>some ⟨true,[],[],[],[],[(4, .ty 4)]⟩
 |89=>some ⟨true,[],[],[],[],[(6, .ty 35)]⟩
 |90=>some ⟨true,[],[],[(4,[(3, .ty 3),(1, .loc 27)])],[(4,[])],[(2, .ty 4)]⟩
 |91=>some ⟨true,[],[],[(3,[(4, .ty 3),(1, .loc 27),(3, .ty 3)])],[(3,[(3, .ty 3)])],[(2, .ty 3)]⟩
 |92=>some ⟨true,[],[],[(3,[(4, .ty 3),(3, .ty 3),(1, .loc 27)])],[(3,[(3, .ty 3)])],[(2, .ty 3)]⟩
 |93=>some ⟨false,[],[],[(4,[(14, .ty 3),(1, .any),(12, .any),(13, .ty 3)])],[(4,[])],[(4, .ty 3),(5, .ty 35)]⟩
 |94=>some ⟨false,[],[],[],[],[(5, .ty 35)]⟩
 |95=>some ⟨true,[],[],[],[],[(2, .ty 4)]⟩
 |96=>some ⟨true,[],[],[],[],[(8, .ty 35)]⟩
 |97=>some ⟨true,[],[],[],[],[(8, .ty 35)]⟩
 |98=>some ⟨false,[],[(8,3),(8,0),(8,4),(0,0),(7,1)],[(3,[(13, .ty 3),(6, .grow (some 3)),(1, .any),(11, .any),(12, .ty 3)])],[(3,[(6, .grow (some 3))])],[(4, .ty 25),(5, .ty 35)]⟩
 |99=>some ⟨false,[],[],[],[],[(6, .locA (some 3)),(7, .ty 35)]⟩
 |100=>some ⟨false,[],[],[],[],[(6, .locA (some 3)),(7, .ty 35)]⟩
 |101=>some ⟨true,[],[],[],[],[(2, .locA (some 3))]⟩
 |102=>some ⟨false,[],[],[(4,[(14, .ty 3),(1, .any),(12, .any),(13, .ty 3)])],[(4,[])],[(4, .ty 3),(5, .ty 35)]⟩
 |103=>some ⟨false,[],[],[],[],[(5, .ty 35)]⟩
 |104=>some ⟨true,[4,5],[],[(6,[(4, .any),(5, .any),(2, .any)])],[],[(4, .ref),(5, .ref)]⟩
 |105=>some ⟨false,[],[],[],[],[(3, .ty 35)]⟩
 |106=>some ⟨true,[],[],[],[],[(8, .ty 35)]⟩
 |107=>some ⟨false,[],[],[],[],[(1, .ty 35)]⟩
 |108=>some ⟨false,[],[],[],[],[(4, .ty 35)]⟩
 |109=>some ⟨true,[22],[],[],[],[(8, .ty 35)]⟩
 |110=>some ⟨true,[],[],[],[],[(6, .ty 35)]⟩
 |111=>some ⟨true,[],[(3,1),(3,2),(10,6),(10,0),(10,7)],[(5,[(10, .ty 3),(3, .any),(9, .grow (some 3)),(1, .any),(0, .any)])],[(5,[])],[(8, .ty 35)]⟩
 |112=>some ⟨true,[],[(0,1)],[],[],[(2, .ty 73)]⟩
 |113=>some ⟨true,[],[],[],[],[(4, .ty 4)]⟩
 |114=>some ⟨true,[5],[],[],[],[(4, .ty 4)]⟩
 |115=>some ⟨true,[],[(7,3),(7,5)],[],[],[(12, .ty 35)]⟩
 |116=>some ⟨true,[],[(8,3),(8,0),(8,4),(0,0),(7,1)],[(3,[(9, .ty 3),(8, .grow (some 3)),(2, .ty 3),(1, .any),(0, .any)])],[(3,[(8, .grow (some 3))])],[(6, .ty 25),(7, .ty 35)]⟩
 |117=>some ⟨true,[],[],[(5,[(6, .locA (some 3)),(9, .ty 3),(1, .any),(2, .ty 3),(3, .loc 27)])],[(5,[(6, .locA (some 3)),(2, .ty 3),(1, .ty 25),(3, .loc 27)])],[(6, .locA (some 3)),(7, .ty 35)]⟩
 |118=>some ⟨true,[],[],[(4,[(9, .ty 3),(0, .any),(1, .any),(3, .any),(2, .any)]),(10,[(11, .ty 3),(1, .any),(3, .any),(2, .any)])],[(4,[(1, .ty 24),(3, .ty 25),(2, .ty 25)]),(10,[(3, .ty 25),(2, .ty 25)])],[(8, .ty 4)]⟩
 |119=>some ⟨false,[],[],[],[],[(8, .ty 35)]⟩
 |120=>some ⟨true,[],[],[(6,[(7, .ty 3),(2, .loc 27),(1, .ty 3)])],[(6,[])],[(4, .ty 4)]⟩
 |121=>some ⟨true,[],[(0,1)],[],[],[(2, .ty 73)]⟩
 |122=>some ⟨false,[],[],[(2,[(8, .ty 3),(0, .any),(1, .any),(7, .ty 3)])],[(2,[])],[(4, .ty 3)]⟩
 |123=>some ⟨false,[],[],[(1,[(7, .ty 3),(1, .any),(0, .any),(5, .any),(6, .ty 3)])],[(1,[])],[]⟩
 |124=>some ⟨true,[],[(5,5),(0,0)],[],[],[(4, .ty 25)]⟩
 |125=>some ⟨false,[],[],[],[],[(8, .locA (some 3)),(9, .ty 35)]⟩
 |126=>some ⟨true,[],[],[],[],[(4, .locA (some 3)),(5, .ty 35)]⟩
 |127=>some ⟨true,[],[],[(3,[(9, .ty 3),(3, .ty 3),(7, .any),(8, .ty 3)])],[(3,[(3, .ty 3)])],[(2, .ty 3)]⟩
 |128=>some ⟨true,[3],[],[(3,[(3, .any)])],[],[(2, .ty 3)]⟩
 |129=>some ⟨false,[4],[],[(4,[(4, .any),(3, .any)])],[],[(4, .ref)]⟩
 |130=>some ⟨true,[],[],[],[],[(4, .ty 4)]⟩
 |131=>some ⟨true,[],[],[],[],[(2, .ty 4)]⟩
 |132=>some ⟨false,[],[],[(2,[(8, .ty 3),(0, .any),(1, .any),(7, .ty 3)])],[(2,[])],[(4, .ty 3)]⟩
 |133=>some ⟨false,[],[(1,1005),(3,1003),(11,1003)],[],[],[(8, .ty 35)]⟩
 |134=>some ⟨true,[],[],[],[],[(2, .ty 4)]⟩
 |135=>some ⟨false,[],[],[],[],[(3, .ty 4)]⟩
 |136=>some ⟨false,[],[],[],[],[(4, .ty 4)]⟩
 |137=>some ⟨false,[],[],[],[],[(3, .ty 4)]⟩
 |138=>some ⟨false,[],[],[],[],[(4, .ty 4)]⟩
 |139=>some ⟨true,[],[(1,11),(1,13)],[],[],[(4, .locA (some 3))]⟩
 |140=>some ⟨true,[],[],[],[],[(4, .locA (some 3)),(5, .ty 35)]⟩
 |141=>some ⟨true,[],[],[],[],[(4, .locA (some 3)),(5, .ty 35)]⟩
 |142=>some ⟨true,[],[],[],[],[(4, .locA (some 3)),(5, .ty 35)]⟩
 |143=>some ⟨true,[],[],[(7,[(4, .locA (some 3)),(35, .ty 3),(3, .loc 27),(2, .loc 110),(33, .any),(6, .loc 47),(34, .ty 3)])],[(7,[(4, .locA (some 3)),(2, .loc 110),(3, .loc 27),(6, .loc 47)])],[(4, .locA (some 3)),(5, .ty 35)]⟩
 |144=>some ⟨true,[1],[],[(3,[(1, .any)])],[],[(2, .locA (some 3))]⟩
 |145=>some ⟨true,[],[],[],[],[(4, .ty 35)]⟩
 |146=>some ⟨true,[],[],[],[],[(4, .ty 35)]⟩
 |147=>some ⟨false,[],[],[],[],[(2, .any)]⟩
 |148=>some ⟨true,[],[],[],[],[(6, .ty 35)]⟩
 |149=>some ⟨false,[],[],[],[],[(8, .ty 35)]⟩
 |150=>some ⟨false,[],[],[],[],[(6, .ty 35)]⟩
 |151=>some ⟨false,[],[],[(3,[(15, .ty 3),(2, .any),(1, .ty 3),(3, .loc 27),(13, .any),(14, .ty 3)])],[(3,[])],[]⟩
 |152=>some ⟨false,[],[],[],[],[]⟩
 |153=>some ⟨false,[],[(5,3),(5,0),(5,4),(0,0)],[(3,[(3, .grow none),(6, .any)])],[(3,[(3, .grow none)])],[(2, .ty 73)]⟩
 |154=>some ⟨true,[],[],[(2,[(8, .ty 3),(0, .any),(1, .ty 3),(7, .ty 3)])],[(2,[])],[(4, .ty 3)]⟩
 |155=>some ⟨false,[],[],[],[],[]⟩
 |156=>some ⟨true,[],[(7,4),(7,0),(7,5),(0,0),(6,0)],[(3,[(11, .ty 3),(6, .grow none),(1, .ty 3),(9, .any),(10, .ty 3)])],[(3,[(6, .grow none)])],[(4, .ty 73),(5, .ty 4)]⟩
 |157=>some ⟨true,[],[],[],[],[(4, .ty 4)]⟩
 |158=>some ⟨true,[],[],[],[],[(2, .ty 4)]⟩
 |159=>some ⟨true,[],[(9,3),(9,0),(9,4)],[(4,[(6, .locA (some 3)),(8, .loc 27),(10, .ty 3),(9, .grow (some 3)),(3, .loc 27),(2, .ty 3),(1, .any)]),(15,[(6, .locA (some 3)),(8, .loc 27),(13, .ty 3),(9, .grow (some 3)),(2, .ty 3),(3, .loc 27),(1, .any)])],[(4,[(6, .locA (some 3)),(9, .grow (some 3)),(3, .loc 27),(8, .loc 27),(2, .ty 3),(1, .ty 25)]),(15,[(6, .locA (some 3)),(2, .ty 3),(9, .grow (some 3)),(3, .loc 27),(1, .ty 25)])],[(6, .locA (some 3)),(7, .ty 35)]⟩
 |160=>some ⟨true,[],[],[(2,[(3, .ty 3),(0, .any)])],[(2,[])],[(2, .ty 4)]⟩
 |161=>some ⟨true,[],[(1,1),(1,4),(1,5)],[],[],[(4, .grow (some 3))]⟩
 |162=>some ⟨false,[],[],[],[],[(6, .locA (some 3)),(7, .ty 35)]⟩
 |163=>some ⟨true,[],[(12,7),(12,0),(12,8),(0,0),(6,0),(11,0)],[(3,[(7, .ty 3),(0, .any),(6, .grow none),(1, .ty 3)]),(8,[(8, .ty 3),(7, .ty 3),(0, .any),(1, .ty 3),(6, .grow none)])],[(3,[(6, .grow none)]),(8,[(0, .ty 25),(1, .ty 3),(7, .ty 3),(6, .grow none)])],[(4, .ty 73),(5, .ty 4)]⟩
 |164=>some ⟨true,[],[],[],[],[(4, .ty 3)]⟩
 |165=>some ⟨true,[],[(0,1)],[(4,[(5, .ty 3),(1, .any),(2, .loc 27)])],[(4,[(1, .ty 73)])],[(4, .ty 73)]⟩
 |166=>some ⟨true,[],[],[],[],[(2, .ty 4)]⟩
 |167=>some ⟨false,[2,3,7],[],[],[],[(2, .ref),(3, .ref)]⟩
 |168=>some ⟨false,[],[],[],[],[(4, .locA (some 3))]⟩
 |169=>some ⟨false,[],[(11,7),(11,1),(11,9),(4,6),(4,4)],[(6,[(32, .ty 3),(7, .dloc (some 3) [.ct .int, .ct .int, .grow (some 3)]),(0, .ref),(5, .loc 140),(4, .loc 27),(30, .any),(6, .locA (some 3)),(31, .ty 3)])],[(6,[(6, .locA (some 3)),(7, .dloc (some 3) [.ct .int, .ct .int, .grow (some 3)]),(4, .loc 27),(5, .loc 140),(0, .ref)])],[(6, .locA (some 3))]⟩
 |170=>some ⟨false,[],[],[],[],[(2, .any)]⟩
 |171=>some ⟨false,[],[(8,1004)],[(3,[(18, .ty 3),(9, .any),(16, .any),(6, .loc 27),(3, .ty 3),(4, .cref),(5, .loc 27),(17, .ty 3)])],[(3,[(6, .loc 27),(3, .ty 3),(4, .cref),(5, .loc 27)])],[(8, .ty 35)]⟩
 |172=>some ⟨true,[],[],[],[],[(6, .locA (some 3)),(7, .ty 35)]⟩
 |173=>some ⟨false,[],[],[],[],[(4, .ty 4)]⟩
 |174=>some ⟨false,[],[],[(2,[(8, .ty 3),(0, .any),(1, .any),(7, .ty 3)])],[(2,[])],[(4, .ty 3)]⟩
 |175=>some ⟨false,[],[],[(2,[(8, .ty 3),(0, .any),(1, .any),(7, .ty 3)])],[(2,[])],[(4, .ty 3)]⟩
 |176=>some ⟨true,[],[],[(2,[(6, .locA (some 3)),(15, .ty 3),(4, .loc 27),(3, .loc 110),(13, .any),(14, .ty 3)])],[(2,[(6, .locA (some 3)),(4, .loc 27)])],[(6, .locA (some 3)),(7, .ty 35)]⟩
 |177=>some ⟨true,[],[],[],[],[(6, .locA (some 3))]⟩
 |178=>some ⟨true,[],[],[],[],[(6, .locA (some 3)),(7, .ty 35)]⟩
 |179=>some ⟨false,[1],[],[],[],[(2, .any)]⟩
 |180=>some ⟨false,[],[],[],[],[(6, .ty 35)]⟩
 |181=>some ⟨false,[],[],[(1,[(7, .ty 3),(1, .any),(0, .any),(5, .any),(6, .ty 3)])],[(1,[])],[]⟩
 |182=>some ⟨true,[],[],[],[],[(2, .ty 4)]⟩
 |183=>some ⟨false,[],[],[(2,[(8, .locA (some 3)),(10, .ty 3),(6, .loc 27),(3, .any),(1, .any),(0, .ref)])],[(2,[(8, .locA (some 3)),(6, .loc 27)])],[(8, .locA (some 3)),(9, .ty 35)]⟩
 |184=>some ⟨true,[],[],[],[],[(6, .ty 3)]⟩
 |185=>some ⟨true,[],[],[],[],[]⟩
 |186=>some ⟨true,[],[],[(19,[(3, .ty 3),(1, .loc 27)])],[(19,[])],[(2, .ty 4)]⟩
 |187=>some ⟨true,[24],[],[],[],[(4, .locA (some 3)),(5, .ty 35)]⟩
 |188=>some ⟨true,[],[],[],[],[(6, .locA (some 3))]⟩
 |189=>some ⟨false,[],[],[(7,[(6, .locA (some 3)),(9, .ty 3),(5, .loc 27),(1, .any),(0, .ref),(8, .loc 47)])],[(7,[(6, .locA (some 3)),(1, .ty 25),(5, .loc 27),(8, .loc 47)])],[(6, .locA (some 3)),(7, .ty 35)]⟩
 |190=>some ⟨true,[],[(7,3),(7,0),(7,4),(10,6),(10,0),(10,7),(12,3),(12,0),(12,4),(0,0)],[(4,[(7, .ty 3),(0, .any),(1, .ty 3),(5, .grow none),(6, .ty 4)])],[(4,[(1, .ty 3),(5, .grow none),(6, .ty 4)])],[(4, .ty 73)]⟩
 |191=>some ⟨true,[],[],[],[],[(2, .ty 4)]⟩
 |192=>some ⟨false,[],[],[],[],[]⟩
 |193=>some ⟨false,[],[],[],[],[]⟩
 |194=>some ⟨true,[],[(5,5),(5,1),(5,7),(7,4),(7,1),(7,6),(1,5),(1,3)],[(3,[(13, .ty 3),(3, .dloc (some 2) [.grow (some 3), .ct .int]),(11, .any),(2, .locA (some 2)),(12, .ty 3)])],[(3,[(2, .locA (some 2)),(3, .dloc (some 2) [.grow (some 3), .ct .int])])],[(2, .locA (some 2))]⟩
 |195=>some ⟨false,[],[],[],[],[(6, .locA (some 3))]⟩
 |196=>some ⟨true,[],[],[],[],[(4, .locA (some 3))]⟩
 |197=>some ⟨false,[],[],[],[],[]⟩
 |198=>some ⟨false,[],[],[(4,[(18, .ty 3),(2, .any),(3, .loc 27),(1, .ty 3),(16, .any),(17, .ty 3)])],[(4,[])],[(6, .ty 4)]⟩
 |199=>some ⟨false,[],[(1,1004),(1,1011)],[],[],[(3, .ty 4)]⟩
 |200=>some ⟨false,[],[],[],[],[(4, .ty 4)]⟩
 |201=>some ⟨true,[],[],[(4,[(16, .ty 3),(1, .loc 204),(14, .any),(15, .ty 3)])],[(4,[])],[(2, .ty 4)]⟩
 |202=>some ⟨false,[],[(16,4),(16,1),(16,6),(1,6),(1,4)],[(8,[(6, .locA (some 3)),(49, .ty 3),(8, .dloc (some 3) [.ct .int, .ct .int, .grow (some 3)]),(2, .any),(3, .loc 27),(1, .ty 3),(47, .any),(48, .ty 3)])],[(8,[(6, .locA (some 3)),(8, .dloc (some 3) [.ct .int, .ct .int, .grow (some 3)])])],[(6, .locA (some 3)),(7, .ty 4)]⟩
 |203=>some ⟨true,[],[],[],[],[(4, .ty 3),(5, .ty 4)]⟩
 |204=>some ⟨true,[],[],[],[],[(6, .ty 4)]⟩
 |205=>some ⟨false,[],[],[],[],[(6, .locA (some 3)),(7, .ty 4)]⟩
 |206=>some ⟨true,[],[],[],[],[(6, .ty 3),(7, .ty 4)]⟩
 |207=>some ⟨false,[],[],[(0,[(1, .any),(0, .any)])],[(0,[])],[]⟩
 |208=>some ⟨true,[],[(3,6),(3,0),(3,7),(0,1)],[(2,[(1, .loc 27),(4, .grow (some 3)),(3, .locA (some 3))])],[(2,[(3, .locA (some 3)),(1, .loc 27),(4, .grow (some 3))])],[(2, .ty 25),(3, .locA (some 3))]⟩
 |209=>some ⟨true,[],[],[(2,[(2, .ty 3),(1, .ty 3),(0, .any),(9, .ty 4),(8, .ty 4),(3, .ty 3)])],[(2,[])],[]⟩
 |210=>some ⟨true,[],[],[],[],[(2, .ty 3)]⟩
 |211=>some ⟨true,[],[],[(4,[(3, .ty 3),(1, .loc 140)])],[(4,[])],[(2, .ty 4)]⟩
 |212=>some ⟨false,[],[(14,3),(14,0),(14,4)],[(6,[(6, .locA (some 3)),(8, .ty 3),(7, .grow (some 3)),(0, .ref),(4, .loc 27),(5, .loc 140)])],[(6,[(6, .locA (some 3)),(7, .grow (some 3)),(4, .loc 27),(5, .loc 140),(0, .ref)])],[(6, .locA (some 3))]⟩
 |213=>some ⟨false,[],[],[],[],[(4, .locA (some 3)),(5, .ty 35)]⟩
 |214=>some ⟨true,[],[],[],[],[(6, .ty 4)]⟩
 |215=>some ⟨true,[],[(7,15),(7,1),(7,17),(1,6),(1,4)],[(5,[(8, .ty 3),(7, .dloc (some 3) [.ct .int, .ct .int, .grow (some 3)]),(3, .loc 27),(2, .ty 3),(1, .ty 3),(6, .locA (some 3))])],[(5,[(6, .locA (some 3)),(7, .dloc (some 3) [.ct .int, .ct .int, .grow (some 3)])])],[(6, .locA (some 3))]⟩
 |216=>some ⟨true,[],[],[],[],[(2, .ty 4)]⟩
 |217=>some ⟨false,[],[],[(2,[(8, .ty 3),(0, .any),(1, .any),(7, .ty 3)])],[(2,[])],[(4, .ty 3)]⟩
 |218=>some ⟨false,[],[(8,3),(8,0),(8,4),(0,0),(7,0)],[(3,[(13, .ty 3),(6, .grow (some 3)),(1, .any),(11, .any),(12, .ty 3)])],[(3,[(6, .grow (some 3))])],[(4, .ty 25),(5, .ty 4)]⟩
 |219=>some ⟨false,[],[],[],[],[(7, .locA (some 3)),(8, .ty 4)]⟩
 |220=>some ⟨true,[],[],[(1,[(0, .any),(6, .ty 3),(1, .ty 3),(2, .ty 3)]),(4,[(7, .ty 3),(0, .any),(1, .ty 3),(2, .ty 3),(6, .ty 3)])],[(1,[]),(4,[(0, .ty 73),(1, .ty 3),(2, .ty 3),(6, .ty 3)])],[]⟩
 |221=>some ⟨true,[],[],[(4,[(9, .ty 3),(6, .ty 3),(8, .ty 3),(0, .any),(7, .ty 3)]),(8,[(10, .ty 3),(6, .ty 3),(7, .ty 3),(0, .any)])],[(4,[(6, .ty 3),(7, .ty 3),(0, .ty 73),(8, .ty 3)]),(8,[])],[]⟩
 |222=>some ⟨true,[7],[],[(5,[(9, .ty 3),(0, .any),(1, .ty 3),(6, .ty 3),(8, .ty 216),(7, .ref)])],[(5,[])],[]⟩
 |223=>some ⟨true,[9],[],[],[],[(6, .ty 3),(7, .ty 225)]⟩
 |224=>some ⟨true,[],[],[(2,[(7, .ty 3),(6, .ty 3),(0, .any)])],[(2,[])],[]⟩
 |225=>some ⟨true,[],[],[(3,[(7, .ty 3),(8, .ty 3),(0, .any),(2, .ty 3),(1, .ty 3)]),(5,[(7, .ty 3),(0, .any),(2, .ty 3),(1, .ty 3),(8, .ty 3)]),(14,[(7, .ty 3),(0, .any),(2, .ty 3),(1, .ty 3),(8, .ty 3),(9, .ty 3)]),(20,[(7, .ty 3),(0, .any),(2, .ty 3),(1, .ty 3),(8, .ty 3),(10, .ty 3)])],[(3,[]),(5,[(7, .ty 3),(0, .ty 73),(2, .ty 3),(1, .ty 3),(8, .ty 3)]),(14,[(7, .ty 3),(0, .ty 73),(2, .ty 3),(1, .ty 3),(8, .ty 3)]),(20,[(7, .ty 3),(0, .ty 73),(2, .ty 3),(1, .ty 3),(8, .ty 3)])],[(6, .ty 4)]⟩
 |226=>some ⟨true,[],[],[],[],[(4, .ty 4)]⟩
 |227=>some ⟨true,[],[],[(3,[(9, .ty 3),(10, .ty 3),(0, .any),(1, .ty 3)]),(5,[(10, .ty 3),(9, .ty 3),(0, .any),(1, .ty 3)])],[(3,[(9, .ty 3)]),(5,[(9, .ty 3),(0, .ty 73),(1, .ty 3),(10, .ty 3)])],[(8, .ty 3)]⟩
 |228=>some ⟨true,[],[],[(3,[(10, .ty 3),(11, .ty 3),(0, .any),(1, .ty 3)]),(5,[(11, .ty 3),(0, .any),(1, .ty 3),(10, .ty 3)]),(13,[(10, .ty 3),(11, .ty 3),(0, .any),(1, .ty 3)]),(15,[(11, .ty 3),(0, .any),(1, .ty 3),(10, .ty 3)])],[(3,[(11, .ty 3),(0, .ty 73),(1, .ty 3),(10, .ty 3)]),(5,[(11, .ty 3),(0, .ty 73),(1, .ty 3),(10, .ty 3)]),(13,[(11, .ty 3),(0, .ty 73),(1, .ty 3)]),(15,[(11, .ty 3),(0, .ty 73),(1, .ty 3),(10, .ty 3)])],[(8, .ty 3),(9, .ty 4)]⟩
 |229=>some ⟨true,[],[],[],[],[(2, .ty 3)]⟩
 |230=>some ⟨true,[],[],[],[],[(2, .ty 3)]⟩
 |231=>some ⟨false,[],[],[],[],[(4, .locA (some 3))]⟩
 |232=>some ⟨true,[],[(5,9),(5,1),(5,11),(6,4),(6,1),(6,6),(1,5),(1,3)],[(3,[(4, .ty 3),(3, .dloc (some 2) [.grow (some 3), .ct .int]),(1, .loc 140),(2, .locA (some 2))])],[(3,[(2, .locA (some 2)),(3, .dloc (some 2) [.grow (some 3), .ct .int])])],[(2, .locA (some 2))]⟩
 |233=>some ⟨false,[],[(13,2),(13,3),(14,2),(14,0),(14,3)],[(1,[(6, .locA (some 3)),(0, .ref),(4, .loc 27),(2, .any)])],[(1,[(6, .locA (some 3)),(4, .loc 27),(0, .ref),(2, .ty 25)])],[(6, .locA (some 3))]⟩
 |234=>some ⟨true,[],[],[],[],[(4, .locA (some 3))]⟩
 |235=>some ⟨true,[],[],[(1,[(8, .ty 3),(3, .ty 3),(0, .any),(2, .ty 3)])],[(1,[])],[]⟩
 |236=>some ⟨true,[],[],[],[],[(2, .ty 216)]⟩
 |237=>some ⟨false,[],[],[],[],[(2, .ty 235)]⟩
 |238=>some ⟨false,[],[],[],[],[(6, .ty 3)]⟩
 |239=>some ⟨false,[],[],[],[],[(10, .ty 3)]⟩
 |240=>some ⟨true,[],[],[],[],[(2, .ty 4)]⟩
 |241=>some ⟨false,[],[],[],[],[(8, .ty 3),(9, .ty 3)]⟩
 |_=>none
def cfg:Cfg:=Cfg.of zvS [] [167,168,169,193,195]
end Go.Proofs.CL
namespace Go.Proofs.CL
open Go Go.AM Go.RowKit
set_option maxRecDepth 100000
theorem zr5{P:Program}{ρ:Go.Shelf.Ren}(L:Lays8.n4 P ρ){fn:Func}(hf:P.funcs[ρ.f 4]? =some fn)(hb:fn.body.isSome=true){i0:TypeInfo}(hi0:P.info? (ρ.t 25)=some i0){z:Value}(hz:i0.zero=some z)(hzl:z.cells.size=i0.size):GrowAt P (ρ.f 4) (ρ.t 25):=by
 refine⟨⟨fn,hf,hb⟩,fun k w i hi hs hb2 hk=> ?_⟩
 rw[hi0]at hi
 cases hi
 by_cases h0:k=0
 ·subst h0
  exact(Any8.slices_Grow_room L none 0 0 0 w (Nat.le_refl _) (by decide) (by decide) (Nat.le_refl _)).mono fun ed w' h=> .inl h
 ·have hk63:k≤140737488355328:=Nat.le_trans (Nat.le_mul_of_pos_right k hb2) hk
  refine(Any8.slices_Grow_grow L i0 z hi0 hz hs none 0 0 k [] w (Nat.le_refl _) (by omega) (by simpa using hk) (by omega) (by simp) (fun _=>rfl) (fun a h=>by cases h)).mono fun ed w' h=> .inr ⟨_,_,h.1,h.2, ?_⟩
  have hge:0+k≤grownCap w (0+k) 0 (ρ.t 25):=grownCap_ge w _ _ _
  generalize grownCap w (0+k) 0 (ρ.t 25)=G at hge⊢
  simp only[Array.size_append,List.size_toArray,List.length_nil,Nat.zero_add,size_zeroCells,hzl]
  rw[←Nat.add_mul]
  congr 1
  omega
theorem names:(Tryz.prog.funcs.all fun fn=>fn.name != "runtime.NumGoroutine")=true:=by kernel_rfl
def zpB:Go.Shelf.Ren:=⟨fun|4=>124|_=>0,fun|0=>0|3=>3|4=>4|9=>9|20=>20|22=>25|25=>27|_=>0,fun _=>0⟩
theorem znW:Lays8.n4 Tryz.prog zpB where
 mixed:=by kernel_rfl
 f4:=⟨"slices.Grow[[]amanuensis/api.Term,amanuensis/api.Term]",by decide,Tryz.func124.trans (congrArg some (by kernel_rfl))⟩
 t0:=Tryz.underlying0
 a0:=Tryz.isAgg0
 z0:=Tryz.sizeOf0
 v0:=Tryz.zeroValue0
 t3:=Tryz.underlying3
 a3:=Tryz.isAgg3
 z3:=Tryz.sizeOf3
 v3:=Tryz.zeroValue3
 t4:=Tryz.underlying4
 a4:=Tryz.isAgg4
 z4:=Tryz.sizeOf4
 v4:=Tryz.zeroValue4
 t9:=Tryz.underlying9
 a9:=Tryz.isAgg9
 z9:=Tryz.sizeOf9
 v9:=Tryz.zeroValue9
 t20:=Tryz.underlying20
 a20:=Tryz.isAgg20
 z20:=Tryz.sizeOf20
 v20:=Tryz.zeroValue20
 t22:=Tryz.underlying25
 a22:=Tryz.isAgg25
 z22:=Tryz.sizeOf25
 v22:=Tryz.zeroValue25
theorem zr6:GrowAt Tryz.prog 124 27:=zr5 znW Tryz.func124 rfl rfl rfl rfl
theorem zsZ:((List.range Tryz.prog.funcs.size).all fun g=>match growElem Tryz.prog g with|none=>true|some e=>(g==124&&e==27))=true:=by kernel_rfl
theorem plainNames:PlainNames Tryz.prog where
 names f fn h e:=by
  have:=Array.all_eq_true_iff_forall_mem.1 names fn (Array.mem_of_getElem? h)
  simp[e]at this
 grow g e h:=by
  have hg:g<Tryz.prog.funcs.size:=by
   unfold growElem at h
   split at h
   ·rename_i hh;exact(Array.getElem?_eq_some_iff.1 hh).1
   ·cases h
  have:=List.all_eq_true.1 zsZ g (List.mem_range.2 hg)
  simp only[h]at this
  simp only[Bool.or_eq_true,Bool.and_eq_true,beq_iff_eq]at this
  rcases this with⟨rfl,rfl⟩
  ·exact zr6
end Go.Proofs.CL
namespace Go.Proofs.CL
open Go Go.AM Go.RowKit
set_option maxRecDepth 100000
noncomputable def ext:Ext:=fun f=>bif Nat.beq f 167 then some (fun O args st=>zeK Tryz.prog cfg O 167 args st)
 else bif Nat.beq f 153 then some (fun _ args st=>zcL args st)else none
theorem extOK:zia Tryz.prog cfg ext:=fun f x h O hC hRd args st y hy=>by
 unfold ext at h
 cases h167:Nat.beq f 167
 case true=>
  rw[h167]at h
  cases h
  obtain rfl:=Nat.eq_of_beq_eq_true h167
  exact zsP plainNames hC hRd _ _ _ _ hy
 rw[h167]at h
 cases h153:Nat.beq f 153
 case true=>
  rw[h153]at h
  cases h
  obtain rfl:=Nat.eq_of_beq_eq_true h153
  exact zp9 zsY hy
 rw[h153]at h
 cases h
theorem zjz:zdD ext:=fun f x h=>by
 unfold ext at h
 cases h167:Nat.beq f 167
 case true=>
  rw[h167]at h
  cases h
  exact fun Os O hO args st x hx=>zr0 hO hx
 rw[h167]at h
 cases h153:Nat.beq f 153
 case true=>
  rw[h153]at h
  cases h
  exact fun Os O hO args st x hx=> .of fun _=>hx
 rw[h153]at h
 cases h
class NoExt(f:Nat):Prop where
 h:ext f=none
instance:NoExt 2:=⟨rfl⟩
instance:NoExt 3:=⟨rfl⟩
instance:NoExt 4:=⟨rfl⟩
instance:NoExt 5:=⟨rfl⟩
instance:NoExt 6:=⟨rfl⟩
instance:NoExt 7:=⟨rfl⟩
instance:NoExt 8:=⟨rfl⟩
instance:NoExt 9:=⟨rfl⟩
instance:NoExt 10:=⟨rfl⟩
instance:NoExt 11:=⟨rfl⟩
instance:NoExt 12:=⟨rfl⟩
instance:NoExt 13:=⟨rfl⟩
instance:NoExt 14:=⟨rfl⟩
instance:NoExt 15:=⟨rfl⟩
instance:NoExt 16:=⟨rfl⟩
instance:NoExt 17:=⟨rfl⟩
instance:NoExt 18:=⟨rfl⟩
instance:NoExt 19:=⟨rfl⟩
instance:NoExt 20:=⟨rfl⟩
instance:NoExt 21:=⟨rfl⟩
instance:NoExt 22:=⟨rfl⟩
instance:NoExt 23:=⟨rfl⟩
instance:NoExt 24:=⟨rfl⟩
instance:NoExt 25:=⟨rfl⟩
instance:NoExt 26:=⟨rfl⟩
instance:NoExt 27:=⟨rfl⟩
instance:NoExt 28:=⟨rfl⟩
instance:NoExt 29:=⟨rfl⟩
instance:NoExt 30:=⟨rfl⟩
instance:NoExt 31:=⟨rfl⟩
instance:NoExt 32:=⟨rfl⟩
instance:NoExt 33:=⟨rfl⟩
instance:NoExt 34:=⟨rfl⟩
instance:NoExt 35:=⟨rfl⟩
instance:NoExt 36:=⟨rfl⟩
instance:NoExt 37:=⟨rfl⟩
instance:NoExt 38:=⟨rfl⟩
instance:NoExt 39:=⟨rfl⟩
instance:NoExt 40:=⟨rfl⟩
instance:NoExt 41:=⟨rfl⟩
instance:NoExt 42:=⟨rfl⟩
instance:NoExt 43:=⟨rfl⟩
instance:NoExt 44:=⟨rfl⟩
instance:NoExt 45:=⟨rfl⟩
instance:NoExt 46:=⟨rfl⟩
instance:NoExt 47:=⟨rfl⟩
instance:NoExt 48:=⟨rfl⟩
instance:NoExt 49:=⟨rfl⟩
instance:NoExt 50:=⟨rfl⟩
instance:NoExt 51:=⟨rfl⟩
instance:NoExt 52:=⟨rfl⟩
instance:NoExt 53:=⟨rfl⟩
instance:NoExt 54:=⟨rfl⟩
instance:NoExt 55:=⟨rfl⟩
instance:NoExt 56:=⟨rfl⟩
instance:NoExt 57:=⟨rfl⟩
instance:NoExt 58:=⟨rfl⟩
instance:NoExt 59:=⟨rfl⟩
instance:NoExt 60:=⟨rfl⟩
instance:NoExt 61:=⟨rfl⟩
instance:NoExt 62:=⟨rfl⟩
instance:NoExt 63:=⟨rfl⟩
instance:NoExt 64:=⟨rfl⟩
instance:NoExt 65:=⟨rfl⟩
instance:NoExt 66:=⟨rfl⟩
instance:NoExt 67:=⟨rfl⟩
instance:NoExt 68:=⟨rfl⟩
instance:NoExt 69:=⟨rfl⟩
instance:NoExt 70:=⟨rfl⟩
instance:NoExt 71:=⟨rfl⟩
instance:NoExt 72:=⟨rfl⟩
instance:NoExt 73:=⟨rfl⟩
instance:NoExt 74:=⟨rfl⟩
instance:NoExt 75:=⟨rfl⟩
instance:NoExt 76:=⟨rfl⟩
instance:NoExt 77:=⟨rfl⟩
instance:NoExt 78:=⟨rfl⟩
instance:NoExt 79:=⟨rfl⟩
instance:NoExt 80:=⟨rfl⟩
instance:NoExt 81:=⟨rfl⟩
instance:NoExt 82:=⟨rfl⟩
instance:NoExt 83:=⟨rfl⟩
instance:NoExt 84:=⟨rfl⟩
instance:NoExt 85:=⟨rfl⟩
instance:NoExt 86:=⟨rfl⟩
instance:NoExt 87:=⟨rfl⟩
instance:NoExt 88:=⟨rfl⟩
instance:NoExt 89:=⟨rfl⟩
instance:NoExt 90:=⟨rfl⟩
instance:NoExt 91:=⟨rfl⟩
instance:NoExt 92:=⟨rfl⟩
instance:NoExt 93:=⟨rfl⟩
instance:NoExt 94:=⟨rfl⟩
instance:NoExt 95:=⟨rfl⟩
instance:NoExt 96:=⟨rfl⟩
instance:NoExt 97:=⟨rfl⟩
instance:NoExt 98:=⟨rfl⟩
instance:NoExt 99:=⟨rfl⟩
instance:NoExt 100:=⟨rfl⟩
instance:NoExt 101:=⟨rfl⟩
instance:NoExt 102:=⟨rfl⟩
instance:NoExt 103:=⟨rfl⟩
instance:NoExt 104:=⟨rfl⟩
instance:NoExt 105:=⟨rfl⟩
instance:NoExt 106:=⟨rfl⟩
instance:NoExt 107:=⟨rfl⟩
instance:NoExt 108:=⟨rfl⟩
instance:NoExt 109:=⟨rfl⟩
instance:NoExt 110:=⟨rfl⟩
instance:NoExt 111:=⟨rfl⟩
instance:NoExt 112:=⟨rfl⟩
instance:NoExt 113:=⟨rfl⟩
instance:NoExt 114:=⟨rfl⟩
instance:NoExt 115:=⟨rfl⟩
instance:NoExt 116:=⟨rfl⟩
instance:NoExt 117:=⟨rfl⟩
instance:NoExt 118:=⟨rfl⟩
instance:NoExt 119:=⟨rfl⟩
instance:NoExt 120:=⟨rfl⟩
instance:NoExt 121:=⟨rfl⟩
instance:NoExt 122:=⟨rfl⟩
instance:NoExt 123:=⟨rfl⟩
instance:NoExt 124:=⟨rfl⟩
instance:NoExt 125:=⟨rfl⟩
instance:NoExt 126:=⟨rfl⟩
instance:NoExt 127:=⟨rfl⟩
instance:NoExt 128:=⟨rfl⟩
instance:NoExt 129:=⟨rfl⟩
instance:NoExt 130:=⟨rfl⟩
instance:NoExt 131:=⟨rfl⟩
instance:NoExt 132:=⟨rfl⟩
instance:NoExt 133:=⟨rfl⟩
instance:NoExt 134:=⟨rfl⟩
instance:NoExt 135:=⟨rfl⟩
instance:NoExt 136:=⟨rfl⟩
instance:NoExt 137:=⟨rfl⟩
instance:NoExt 138:=⟨rfl⟩
instance:NoExt 139:=⟨rfl⟩
instance:NoExt 140:=⟨rfl⟩
instance:NoExt 141:=⟨rfl⟩
instance:NoExt 142:=⟨rfl⟩
instance:NoExt 143:=⟨rfl⟩
instance:NoExt 144:=⟨rfl⟩
instance:NoExt 145:=⟨rfl⟩
instance:NoExt 146:=⟨rfl⟩
instance:NoExt 147:=⟨rfl⟩
instance:NoExt 148:=⟨rfl⟩
instance:NoExt 149:=⟨rfl⟩
instance:NoExt 150:=⟨rfl⟩
instance:NoExt 151:=⟨rfl⟩
instance:NoExt 152:=⟨rfl⟩
instance:NoExt 154:=⟨rfl⟩
instance:NoExt 155:=⟨rfl⟩
instance:NoExt 156:=⟨rfl⟩
instance:NoExt 157:=⟨rfl⟩
instance:NoExt 158:=⟨rfl⟩
instance:NoExt 159:=⟨rfl⟩
instance:NoExt 160:=⟨rfl⟩
instance:NoExt 161:=⟨rfl⟩
instance:NoExt 162:=⟨rfl⟩
instance:NoExt 163:=⟨rfl⟩
instance:NoExt 164:=⟨rfl⟩
instance:NoExt 165:=⟨rfl⟩
instance:NoExt 166:=⟨rfl⟩
instance:NoExt 168:=⟨rfl⟩
instance:NoExt 169:=⟨rfl⟩
instance:NoExt 170:=⟨rfl⟩
instance:NoExt 171:=⟨rfl⟩
instance:NoExt 172:=⟨rfl⟩
instance:NoExt 173:=⟨rfl⟩
instance:NoExt 174:=⟨rfl⟩
instance:NoExt 175:=⟨rfl⟩
instance:NoExt 176:=⟨rfl⟩
instance:NoExt 177:=⟨rfl⟩
instance:NoExt 178:=⟨rfl⟩
instance:NoExt 179:=⟨rfl⟩
instance:NoExt 180:=⟨rfl⟩
instance:NoExt 181:=⟨rfl⟩
instance:NoExt 182:=⟨rfl⟩
instance:NoExt 183:=⟨rfl⟩
instance:NoExt 184:=⟨rfl⟩
instance:NoExt 185:=⟨rfl⟩
instance:NoExt 186:=⟨rfl⟩
instance:NoExt 187:=⟨rfl⟩
instance:NoExt 188:=⟨rfl⟩
instance:NoExt 189:=⟨rfl⟩
instance:NoExt 190:=⟨rfl⟩
instance:NoExt 191:=⟨rfl⟩
instance:NoExt 192:=⟨rfl⟩
instance:NoExt 193:=⟨rfl⟩
instance:NoExt 194:=⟨rfl⟩
instance:NoExt 195:=⟨rfl⟩
instance:NoExt 196:=⟨rfl⟩
instance:NoExt 197:=⟨rfl⟩
instance:NoExt 198:=⟨rfl⟩
instance:NoExt 199:=⟨rfl⟩
instance:NoExt 200:=⟨rfl⟩
instance:NoExt 201:=⟨rfl⟩
instance:NoExt 202:=⟨rfl⟩
instance:NoExt 203:=⟨rfl⟩
instance:NoExt 204:=⟨rfl⟩
instance:NoExt 205:=⟨rfl⟩
instance:NoExt 206:=⟨rfl⟩
instance:NoExt 207:=⟨rfl⟩
instance:NoExt 208:=⟨rfl⟩
instance:NoExt 209:=⟨rfl⟩
instance:NoExt 210:=⟨rfl⟩
instance:NoExt 211:=⟨rfl⟩
instance:NoExt 212:=⟨rfl⟩
instance:NoExt 213:=⟨rfl⟩
instance:NoExt 214:=⟨rfl⟩
instance:NoExt 215:=⟨rfl⟩
instance:NoExt 216:=⟨rfl⟩
instance:NoExt 217:=⟨rfl⟩
instance:NoExt 218:=⟨rfl⟩
instance:NoExt 219:=⟨rfl⟩
instance:NoExt 220:=⟨rfl⟩
instance:NoExt 221:=⟨rfl⟩
instance:NoExt 222:=⟨rfl⟩
instance:NoExt 223:=⟨rfl⟩
instance:NoExt 224:=⟨rfl⟩
instance:NoExt 225:=⟨rfl⟩
instance:NoExt 226:=⟨rfl⟩
instance:NoExt 227:=⟨rfl⟩
instance:NoExt 228:=⟨rfl⟩
instance:NoExt 229:=⟨rfl⟩
instance:NoExt 230:=⟨rfl⟩
instance:NoExt 231:=⟨rfl⟩
instance:NoExt 232:=⟨rfl⟩
instance:NoExt 233:=⟨rfl⟩
instance:NoExt 234:=⟨rfl⟩
instance:NoExt 235:=⟨rfl⟩
instance:NoExt 236:=⟨rfl⟩
instance:NoExt 237:=⟨rfl⟩
instance:NoExt 238:=⟨rfl⟩
instance:NoExt 239:=⟨rfl⟩
instance:NoExt 240:=⟨rfl⟩
instance:NoExt 241:=⟨rfl⟩
end Go.Proofs.CL
namespace Go.Ama
abbrev Bytes:=List UInt8
abbrev Tok:=Int×Bytes
def named(c:UInt8):Bool:=(decide (97≤c)&&decide (c≤122))||(decide (65≤c)&&decide (c≤90))||(decide (48≤c)&&decide (c≤57))||c==95||c==39
end Go.Ama
namespace Go.Ama
open Go Go.AM
def ba(l:Bytes):ByteArray:=⟨l.toArray⟩
def zvT(l:Bytes):List V:=l.map fun b=> .ik .u8 (b.toNat:Int)
def zhs(t:Tok):V:= .agg [.int t.1, .str (ba t.2)]
def J2(l:List Tok):List V:=l.map zhs
theorem ztX(s:ByteArray):ba s.data.toList=s:=by cases s;simp[ba]
theorem zht(l:Bytes):(ba l).toList=l:=by rw[ByteArray.toList_eq];simp[ba]
theorem zvU(a b:Bytes):((ba a).toList==(ba b).toList)=decide (a=b):=by
 rw[zht,zht]
 by_cases h:a=b<;>simp[h]
@[simp] theorem zuE(l:Bytes):(zvT l).length=l.length:=by simp[zvT]
@[simp] theorem zj0(l:List Tok):(J2 l).length=l.length:=by simp[J2]
end Go.Ama
namespace Go.Proofs.CL
open Go Go.AM Go.Ama
noncomputable abbrev W:Oracle:=Om Tryz.prog cfg ext
theorem C(f:Nat)(args:List V)(st:St)[h:NoExt f]:W.call f args st=Ze Tryz.prog cfg W f args st:=
 (zqC zjz f args st).trans (by show(match ext f with|some x=>x W args st|none=>Ze Tryz.prog cfg W f args st)=_;rw[h.h])
theorem Cx(f:Nat){x:Oracle→List V→St→Option (Out×St)}(args:List V)(st:St)(h:ext f=some x):W.call f args st=x W args st:=
 (zqC zjz f args st).trans (by show(match ext f with|some x=>x W args st|none=>Ze Tryz.prog cfg W f args st)=_;rw[h])
theorem L(f key:Nat)(vals:List V)(st:St):W.loop f key vals st=Zz Tryz.prog cfg W f key vals st:=ztP zjz f key vals st
theorem Rd(l f key:Nat)(vals args:List V)(st:St):W.round l f key vals args st=Xw Tryz.prog cfg W l f key vals args st:=zsL zjz l f key vals args st
def Ev(f:Nat)(args:List V)(v:V):Prop:=W.call f args []=some (.ret v,[])
theorem Ev.p{f:Nat}{args:List V}{v:V}(h:Ev f args v)(h1:Zk 0 args=true:=by simp[Zk,below])(h2:below 0 v=true:=by simp[below,Zk]):Zj W f args=some v:=zsR h h1 h2
end Go.Proofs.CL
namespace Go.Proofs.CL
open Go Go.AM
set_option maxRecDepth 20000
theorem zpC(O:Oracle)(n0:Int)(n1:Int)(l2:(List V)):Ze Tryz.prog cfg O 82 [.agg [.int n0, .int n1, .vec .plain (some 3) l2]] []=
 Za (Zj O 127 [V.agg [V.int n0,V.int n1,V.vec .plain (some 3) l2]]) fun r1=>Zm r1 fun n2=>bc (decide (n2≤60)) (Za (Zj O 128 [V.agg [V.int
 n0,V.int n1,V.vec .plain (some 3) l2]]) fun r3=>Zm r3 fun n4=>bc (decide (n4≤4000)) (Za (O.call 129 [V.agg [V.int n0,V.int n1,V.vec .plain (some 3) l2],
 V.fn 130 [] []] []) fun r5=>Zx r5.fst (fun v6=>Zl v6 fun b7=>some (Out.ret (V.bool b7),[])) fun p8=>none) (some (Out.ret (V.bool false),[]))) (some
 (Out.ret (V.bool false),[])):=by kernel_rfl
theorem znX(O:Oracle)(l0:(List V)):Ze Tryz.prog cfg O 38 [.vec .plain (some 4) l0] []=
 bc (decide ((↑l0.length:Int)>30)) (some (Out.ret (V.bool false),[])) (Za (O.loop 38 4 [V.int 0,V.vec .plain (some 4) l0] []) fun r1=>Xk r1.fst none (Zd
 r1.snd.fst fun v2 c3=>Zl v2 fun b4=>Zn c3 (some (Out.ret (V.bool b4),[]))) (fun i5=>bc (i5.beq 0) (Zn r1.snd.fst (some (Out.ret (V.bool true),[]))) none) fun v6
 =>none):=by kernel_rfl
theorem zdI(O:Oracle)(n0:Int)(l1:(List V)):Zz Tryz.prog cfg O 38 4 [.int n0, .vec .plain (some 4) l1] []=
 bc (decide (n0<(↑l1.length:Int))) (gd (decide (0≤n0)&&decide (n0<(↑l1.length:Int))) (Xc (ZP l1 n0) fun c1=>gd (decide (4≤c1.length)) (onCells [CT.int,CT.int,
 CT.slice (some 3)] (List.take 3 (List.drop 1 c1)) fun n2 n3 l4=>Za (Zj O 31 [V.agg [V.int n2,V.int n3,V.vec .plain (some 3) l4],V.int 1000,V.int 80]) fun r5
 =>Zl r5 fun b6=>bc (!b6) (some (Ex.ret,[V.bool false],[])) (O.2 38 4 [V.int (IntKind.i64.wrap (n0+1)),V.vec .plain (some 4) l1] [])))) (some (Ex.exit 0,[],
 [])):=by kernel_rfl
theorem znY(O:Oracle)(n0:Int)(n1:Int)(l2:(List V))(n3:Int)(n4:Int)(l5:(List V)):Ze Tryz.prog cfg O 75 [.agg [.int n0, .int n1, .vec .plain (some 3) l2], .agg [.int n3, .int n4, .vec .plain (some 3) l5]] []=
 bc (n0 !=n3) (some (Out.ret (V.bool false),[])) (bc (n1 !=n4) (some (Out.ret (V.bool false),[])) (bc ((↑l2.length:Int) !=(↑l5.length:Int)) (some (Out.ret (V.bool false),
 [])) (Za (O.loop 75 4 [V.int 0,V.loc false (some 3) (V.agg [V.int n3,V.int n4,V.vec .plain (some 3) l5]),V.vec .plain (some 3) l2,V.int (↑l2.length:Int)] [])
 fun r1=>Xk r1.fst none (Zd r1.snd.fst fun v2 c3=>Zl v2 fun b4=>Zn c3 (some (Out.ret (V.bool b4),[]))) (fun i5=>bc (i5.beq 0) (Zn r1.snd.fst (some (Out.ret
 (V.bool true),[]))) none) fun v6=>none))):=by kernel_rfl
theorem zdJ(O:Oracle)(n0:Int)(n1:Int)(n2:Int)(l3:(List V))(l4:(List V))(n5:Int):Zz Tryz.prog cfg O 75 4 [.int n0, .loc false (some 3) (.agg [.int n1, .int n2, .vec .plain (some 3) l3]), .vec .plain (some 3) l4, .int n5] []=
 bc (decide (n0<n5)) (gd (decide (0≤n0)&&decide (n0<(↑l4.length:Int))) (Zc [CT.int,CT.int,CT.slice (some 3)] (ZP l4 n0) fun n1_1 n2_1 l3_1=>gd (decide (0≤
 n0)&&decide (n0<(↑l3.length:Int))) (Zc [CT.int,CT.int,CT.slice (some 3)] (ZP l3 n0) fun n4 n5_1 l6=>Za (Zj O 75 [V.agg [V.int n1_1,V.int n2_1,
 V.vec .plain (some 3) l3_1],V.agg [V.int n4,V.int n5_1,V.vec .plain (some 3) l6]]) fun r7=>Zl r7 fun b8=>bc (!b8) (some (Ex.ret,[V.bool false],[])) (O.2 75 4
 [V.int (IntKind.i64.wrap (n0+1)),V.loc false (some 3) (V.agg [V.int n1,V.int n2,V.vec .plain (some 3) l3]),V.vec .plain (some 3) l4,V.int n5] [])))) (some (Ex.exit 0,[],
 [])):=by kernel_rfl
theorem znZ(O:Oracle)(n0:Int)(n1:Int)(l2:(List V)):Ze Tryz.prog cfg O 128 [.agg [.int n0, .int n1, .vec .plain (some 3) l2]] []=
 Za (O.call 170 [V.agg [V.int n0,V.int n1,V.vec .plain (some 3) l2]] [Res.box [V.int 0]]) fun r1=>Zx r1.fst (fun v2=>zf8 v2 fun g3 a4 b5=>Za (O.call g3
 (a4++[V.yld (List.length r1.snd)]++b5) (r1.snd++[Res.loop 128 3 [V.ref 0 0] LSt.ready none])) fun r6=>Zx r6.fst (fun v7=>Zw r6.snd (List.length r1.snd) fun
 x8=>ZX x8 fun f9 k10 vs11 s12 p13=>XZ s12 p13 (Zw (List.set r6.snd (List.length r1.snd) Res.dead) 0 fun x14=>ZE x14 fun c15=>gd (decide (1≤c15.length)&&
 true) (Zm (Zs (AM.partOf c15 0 none)) fun n16=>some (Out.ret (V.int n16),[]))) none fun i17=>none) fun p18=>none) fun p19=>none:=by kernel_rfl
theorem zj1(O:Oracle)(n i:Int)(c:List V):Xw Tryz.prog cfg O 1 128 3 [.ref 0 0] [.int i, .agg c] [.box [.int n], .loop 128 3 [.ref 0 0] .ready none]=
 some (true,[Res.box [V.int (IntKind.i64.wrap (n+1))],Res.loop 128 3 [V.ref 0 0] LSt.ready none]):=by kernel_rfl
theorem zm7(O:Oracle)(n0:Int)(n1:Int)(l2:(List V)):Ze Tryz.prog cfg O 127 [.agg [.int n0, .int n1, .vec .plain (some 3) l2]] []=
 Za (O.loop 127 3 [V.int 0,V.int 0,V.vec .plain (some 3) l2,V.int (↑l2.length:Int)] []) fun r1=>Xk r1.fst none none (fun i2=>bc (i2.beq 0) (Zd r1.snd.fst
 fun v3 c4=>Zm v3 fun n5=>Zn c4 (some (Out.ret (V.int (IntKind.i64.wrap (n5+1))),[]))) none) fun v6=>none:=by kernel_rfl
theorem zdj(O:Oracle)(n0:Int)(n1:Int)(l2:(List V))(n3:Int):Zz Tryz.prog cfg O 127 3 [.int n0, .int n1, .vec .plain (some 3) l2, .int n3] []=
 bc (decide (n0<n3)) (gd (decide (0≤n0)&&decide (n0<(↑l2.length:Int))) (Zc [CT.int,CT.int,CT.slice (some 3)] (ZP l2 n0) fun n1_1 n2 l3=>Za (Zj O
 127 [V.agg [V.int n1_1,V.int n2,V.vec .plain (some 3) l3]]) fun r4=>Zm r4 fun n5=>O.2 127 3 [V.int (IntKind.i64.wrap (n0+1)),V.int (if n5>n1 then
 n5 else n1),V.vec .plain (some 3) l2,V.int n3] [])) (some (Ex.exit 0,[V.int n1],[])):=by kernel_rfl
theorem zpD(O:Oracle)(k h:Int)(xs:List V)(g:Nat)(a b:List V):Ze Tryz.prog cfg O 129 [.agg [.int k, .int h, .vec .plain (some 3) xs], .fn g a b] []=
 Za (O.call 170 [V.agg [V.int k,V.int h,V.vec .plain (some 3) xs]] [Res.box [V.bool false]]) fun r1=>Zx r1.fst (fun v2=>zf8 v2 fun g3 a4 b5=>Za (O.call
 g3 (a4++[V.yld (List.length r1.snd)]++b5) (r1.snd++[Res.loop 129 4 [V.ref 0 0,V.cptr none (V.fn g a b)] LSt.ready none])) fun r6=>Zx r6.fst (fun v7=>Zw
 r6.snd (List.length r1.snd) fun x8=>ZX x8 fun f9 k10 vs11 s12 p13=>XZ s12 p13 (Zw (List.set r6.snd (List.length r1.snd) Res.dead) 0 fun x14=>ZE x14 fun c15=>
 gd (decide (1≤c15.length)&&true) (Zw ((List.set r6.snd (List.length r1.snd) Res.dead).set 0 (Res.box (setCells c15 0 [V.bool true]))) 0 fun x16=>ZE x16 fun c17=>gd
 (decide (1≤c17.length)&&true) (Xb 0 (Zs (AM.partOf c17 0 none)) ((List.set r6.snd (List.length r1.snd) Res.dead).set 0 (Res.box (setCells c15 0 [V.bool true])))))) (Zw
 (List.set r6.snd (List.length r1.snd) Res.dead) 0 fun x18=>ZE x18 fun c19=>gd (decide (1≤c19.length)&&true) (Xb 0 (Zs (AM.partOf c19 0 none)) (List.set r6.snd
 (List.length r1.snd) Res.dead))) fun i20=>none) fun p21=>none) fun p22=>none:=by kernel_rfl
theorem zkC(O:Oracle)(i k h:Int)(xs:List V)(b0:Bool)(g:Nat)(a b:List V):Xw Tryz.prog cfg O 1 129 4 [.ref 0 0, .cptr none (.fn g a b)] [.int i, .agg [.int k, .int h, .vec .plain (some 3) xs]] [.box [.bool b0], .loop 129 4 [.ref 0 0, .cptr none (.fn g a b)] .ready none]=
 bc (cfg.pure g) (Za (Zj O g (a++[V.int i,V.agg [V.int k,V.int h,V.vec .plain (some 3) xs]]++b)) fun r1=>Zl r1 fun b2=>bc (!b2) (some (false,[Res.box [V.bool
 false],Res.loop 129 4 [V.ref 0 0,V.cptr none (V.fn g a b)] LSt.done (some Ex.ret)])) (some (true,[Res.box [V.bool b0],Res.loop 129 4 [V.ref 0 0,V.cptr none
 (V.fn g a b)] LSt.ready none]))) (Za (O.call g (a++[V.int i,V.agg [V.int k,V.int h,V.vec .plain (some 3) xs]]++b) [Res.box [V.bool b0],Res.loop 129 4 [V.ref 0 0,
 V.cptr none (V.fn g a b)] LSt.busy none]) fun r3=>Zx r3.fst (fun v4=>Zl v4 fun b5=>bc (!b5) (Zw r3.snd 0 fun x6=>ZE x6 fun c7=>gd (decide (1≤c7.length)&&
 true) (Zw (List.set r3.snd 0 (Res.box (setCells c7 0 [V.bool false]))) 1 fun x8=>ZX x8 fun f9 k10 vs11 s12 p13=>YO s12 (some (false,(List.set r3.snd 0 (Res.box
 (setCells c7 0 [V.bool false]))).set 1 (Res.loop f9 k10 vs11 LSt.done (some Ex.ret)))))) (Zw r3.snd 1 fun x14=>ZX x14 fun f15 k16 vs17 s18 p19=>YO s18 (some (true,
 List.set r3.snd 1 (Res.loop f15 k16 vs17 LSt.ready none))))) fun p20=>none):=by kernel_rfl
theorem zm8(O:Oracle)(n0:Int)(n1:Int)(n2:Int)(l3:(List V)):Ze Tryz.prog cfg O 130 [.int n0, .agg [.int n1, .int n2, .vec .plain (some 3) l3]] []=
 Za (Zj O 131 [V.agg [V.int n1,V.int n2,V.vec .plain (some 3) l3]]) fun r1=>Zl r1 fun b2=>some (Out.ret (V.bool b2),[]):=by kernel_rfl
theorem zpE(O:Oracle)(n0:Int)(n1:Int)(l2:(List V)):Ze Tryz.prog cfg O 131 [.agg [.int n0, .int n1, .vec .plain (some 3) l2]] []=
 bc (n0==0) (bc (n1==0) (some (Out.ret (V.bool ((↑l2.length:Int)==0)),[])) (some (Out.ret (V.bool false),[]))) (bc (n0==1) (bc (n1==0) (some (Out.ret (V.bool
 ((↑l2.length:Int)==2)),[])) (some (Out.ret (V.bool false),[]))) (bc (n0==3) (bc (n1==0) (some (Out.ret (V.bool ((↑l2.length:Int)==1)),[])) (some (Out.ret (V.bool
 false),[]))) (bc (decide (n0≥0)) (bc (decide (n0<7)) (some (Out.ret (V.bool (decide (n1≥0))),[])) (some (Out.ret (V.bool false),[]))) (some (Out.ret (V.bool false),
 []))))):=by kernel_rfl
theorem zkD(O:Oracle)(n0:Int)(n1:Int)(l2:(List V))(n3:Int)(n4:Int):Ze Tryz.prog cfg O 31 [.agg [.int n0, .int n1, .vec .plain (some 3) l2], .int n3, .int n4] []=
 Za (Zj O 90 [V.agg [V.int n0,V.int n1,V.vec .plain (some 3) l2]]) fun r1=>Zl r1 fun b2=>bc b2 (Za (Zj O 91 [V.agg [V.int n0,V.int n1,
 V.vec .plain (some 3) l2]]) fun r3=>Zm r3 fun n4_1=>bc (decide (n4_1≤n3)) (Za (Zj O 92 [V.agg [V.int n0,V.int n1,V.vec .plain (some 3) l2]]) fun r5=>
 Zm r5 fun n6=>some (Out.ret (V.bool (decide (n6≤n4))),[])) (some (Out.ret (V.bool false),[]))) (some (Out.ret (V.bool false),[])):=by kernel_rfl
theorem zgk(O:Oracle)(k h:Int)(xs:List V)(x:Res):Ze Tryz.prog cfg O 170 [.agg [.int k, .int h, .vec .plain (some 3) xs]] [x]=
 some (Out.ret (V.fn 197 [] [V.cptr (some 3) (V.agg [V.int k,V.int h,V.vec .plain (some 3) xs])]),[x]):=by kernel_rfl
theorem zoa(O:Oracle)(n0:Int)(n1:Int)(l2:(List V)):Ze Tryz.prog cfg O 90 [.agg [.int n0, .int n1, .vec .plain (some 3) l2]] []=
 bc (decide (n1>1099511627776)) (some (Out.ret (V.bool false),[])) (Za (O.loop 90 4 [V.int 0,V.loc false (some 3) (V.agg [V.int n0,V.int n1,V.vec .plain (some 3)
 l2])] []) fun r1=>Xk r1.fst none (Zd r1.snd.fst fun v2 c3=>Zl v2 fun b4=>Zn c3 (some (Out.ret (V.bool b4),[]))) (fun i5=>bc (i5.beq 0) (Zn r1.snd.fst
 (some (Out.ret (V.bool true),[]))) none) fun v6=>none):=by kernel_rfl
theorem zdK(O:Oracle)(n0:Int)(n1:Int)(n2:Int)(l3:(List V)):Zz Tryz.prog cfg O 90 4 [.int n0, .loc false (some 3) (.agg [.int n1, .int n2, .vec .plain (some 3) l3])] []=
 bc (decide (n0<(↑l3.length:Int))) (gd (decide (0≤n0)&&decide (n0<(↑l3.length:Int))) (Zc [CT.int,CT.int,CT.slice (some 3)] (ZP l3 n0) fun n1_1 n2_1 l3_1=>
 Za (Zj O 90 [V.agg [V.int n1_1,V.int n2_1,V.vec .plain (some 3) l3_1]]) fun r4=>Zl r4 fun b5=>bc (!b5) (some (Ex.ret,[V.bool false],[])) (O.2
 90 4 [V.int (IntKind.i64.wrap (n0+1)),V.loc false (some 3) (V.agg [V.int n1,V.int n2,V.vec .plain (some 3) l3])] []))) (some (Ex.exit 0,[],[])):=by kernel_rfl
theorem zm9(O:Oracle)(n0:Int)(n1:Int)(l2:(List V)):Ze Tryz.prog cfg O 91 [.agg [.int n0, .int n1, .vec .plain (some 3) l2]] []=
 Za (O.loop 91 3 [V.int 0,V.loc false (some 3) (V.agg [V.int n0,V.int n1,V.vec .plain (some 3) l2]),V.int 1] []) fun r1=>Xk r1.fst none none (fun i2=>bc
 (i2.beq 0) (Zd r1.snd.fst fun v3 c4=>Zm v3 fun n5=>Zn c4 (some (Out.ret (V.int n5),[]))) none) fun v6=>none:=by kernel_rfl
theorem zdk(O:Oracle)(n0:Int)(n1:Int)(n2:Int)(l3:(List V))(n4:Int):Zz Tryz.prog cfg O 91 3 [.int n0, .loc false (some 3) (.agg [.int n1, .int n2, .vec .plain (some 3) l3]), .int n4] []=
 bc (decide (n0<(↑l3.length:Int))) (gd (decide (0≤n0)&&decide (n0<(↑l3.length:Int))) (Zc [CT.int,CT.int,CT.slice (some 3)] (ZP l3 n0) fun n1_1 n2_1 l3_1=>
 Za (Zj O 91 [V.agg [V.int n1_1,V.int n2_1,V.vec .plain (some 3) l3_1]]) fun r4=>Zm r4 fun n5=>O.2 91 3 [V.int (IntKind.i64.wrap (n0+1)),V.loc
 false (some 3) (V.agg [V.int n1,V.int n2,V.vec .plain (some 3) l3]),V.int (IntKind.i64.wrap (n4+n5))] [])) (some (Ex.exit 0,[V.int n4],[])):=by kernel_rfl
theorem zkE(O:Oracle)(n0:Int)(n1:Int)(l2:(List V)):Ze Tryz.prog cfg O 92 [.agg [.int n0, .int n1, .vec .plain (some 3) l2]] []=
 Za (O.loop 92 3 [V.int 0,V.int 0,V.loc false (some 3) (V.agg [V.int n0,V.int n1,V.vec .plain (some 3) l2])] []) fun r1=>Xk r1.fst none none (fun i2=>bc
 (i2.beq 0) (Zd r1.snd.fst fun v3 c4=>Zm v3 fun n5=>Zn c4 (some (Out.ret (V.int (IntKind.i64.wrap (n5+1))),[]))) none) fun v6=>none:=by kernel_rfl
theorem zcm(O:Oracle)(n0:Int)(n1:Int)(n2:Int)(n3:Int)(l4:(List V)):Zz Tryz.prog cfg O 92 3 [.int n0, .int n1, .loc false (some 3) (.agg [.int n2, .int n3, .vec .plain (some 3) l4])] []=
 bc (decide (n0<(↑l4.length:Int))) (gd (decide (0≤n0)&&decide (n0<(↑l4.length:Int))) (Zc [CT.int,CT.int,CT.slice (some 3)] (ZP l4 n0) fun n1_1 n2_1 l3=>
 Za (Zj O 92 [V.agg [V.int n1_1,V.int n2_1,V.vec .plain (some 3) l3]]) fun r4=>Zm r4 fun n5=>bc (decide (n5>n1)) (O.2 92 3 [V.int
 (IntKind.i64.wrap (n0+1)),V.int n5,V.loc false (some 3) (V.agg [V.int n2,V.int n3,V.vec .plain (some 3) l4])] []) (O.2 92 3 [V.int (IntKind.i64.wrap (n0+1)),
 V.int n1,V.loc false (some 3) (V.agg [V.int n2,V.int n3,V.vec .plain (some 3) l4])] []))) (some (Ex.exit 0,[V.int n1],[])):=by kernel_rfl
theorem zj2(O:Oracle)(k h:Int)(xs:List V)(x y:Res):Ze Tryz.prog cfg O 197 [.yld 1, .cptr (some 3) (.agg [.int k, .int h, .vec .plain (some 3) xs])] [x,y]=
 Za (O.call 198 [V.agg [V.int k,V.int h,V.vec .plain (some 3) xs],V.int 0,V.yld 1] [x,y]) fun r1=>Zx r1.fst (fun v2=>Zl v2 fun b3=>Xb [x,y].length
 (V.tup []) r1.snd) fun p4=>none:=by kernel_rfl
theorem zob(O:Oracle)(k h i:Int)(xs:List V)(x y:Res):Ze Tryz.prog cfg O 198 [.agg [.int k, .int h, .vec .plain (some 3) xs], .int i, .yld 1] [x,y]=
 ZX y fun f1 k2 vs3 s4 p5=>XZ s4 p5 (Za (O.round 1 f1 k2 vs3 [V.int i,V.agg [V.int k,V.int h,V.vec .plain (some 3) xs]] [x,y]) fun r6=>bc (!r6.fst) (Xb [x,
 y].length (V.bool false) r6.snd) (Za (O.loop 198 4 [V.int 0,V.yld 1,V.loc false (some 3) (V.agg [V.int k,V.int h,V.vec .plain (some 3) xs]),V.int i,V.vec .plain
 (some 3) xs,V.int (↑xs.length:Int)] r6.snd) fun r7=>Xk r7.fst none (Zd r7.snd.fst fun v8 c9=>Zl v8 fun b10=>Zn c9 (Xb [x,y].length (V.bool b10)
 r7.snd.snd)) (fun i11=>bc (i11.beq 0) (Zn r7.snd.fst (Xb [x,y].length (V.bool true) r7.snd.snd)) none) fun v12=>none)) none fun i13=>none:=by kernel_rfl
theorem zdL(O:Oracle)(i n j k h:Int)(xs ys:List V)(x y:Res):Zz Tryz.prog cfg O 198 4 [.int i, .yld 1, .loc false (some 3) (.agg [.int k, .int h, .vec .plain (some 3) xs]), .int j, .vec .plain (some 3) ys, .int n] [x,y]=
 bc (decide (i<n)) (gd (decide (0≤i)&&decide (i<(↑ys.length:Int))) (Zc [CT.int,CT.int,CT.slice (some 3)] (ZP ys i) fun n1 n2 l3=>Za (Zj O 216
 [V.agg [V.int k,V.int h,V.vec .plain (some 3) xs]]) fun r4=>Zl r4 fun b5=>bc b5 (bc (i==IntKind.i64.wrap ((↑xs.length:Int)-1)) (Za (O.call 198 [V.agg
 [V.int n1,V.int n2,V.vec .plain (some 3) l3],V.int (IntKind.i64.wrap (j+1)),V.yld 1] [x,y]) fun r6=>Zx r6.fst (fun v7=>Zl v7 fun b8=>bc (!b8) (some (Ex.ret,
 [V.bool false],r6.snd)) (O.2 198 4 [V.int (IntKind.i64.wrap (i+1)),V.yld 1,V.loc false (some 3) (V.agg [V.int k,V.int h,V.vec .plain (some 3) xs]),V.int j,V.vec
 .plain (some 3) ys,V.int n] r6.snd)) fun p9=>none) (Za (O.call 198 [V.agg [V.int n1,V.int n2,V.vec .plain (some 3) l3],V.int j,V.yld 1] [x,y]) fun r10=>Zx
 r10.fst (fun v11=>Zl v11 fun b12=>bc (!b12) (some (Ex.ret,[V.bool false],r10.snd)) (O.2 198 4 [V.int (IntKind.i64.wrap (i+1)),V.yld 1,V.loc false (some 3)
 (V.agg [V.int k,V.int h,V.vec .plain (some 3) xs]),V.int j,V.vec .plain (some 3) ys,V.int n] r10.snd)) fun p13=>none)) (Za (O.call 198 [V.agg [V.int n1,V.int
 n2,V.vec .plain (some 3) l3],V.int j,V.yld 1] [x,y]) fun r14=>Zx r14.fst (fun v15=>Zl v15 fun b16=>bc (!b16) (some (Ex.ret,[V.bool false],r14.snd)) (O.2
 198 4 [V.int (IntKind.i64.wrap (i+1)),V.yld 1,V.loc false (some 3) (V.agg [V.int k,V.int h,V.vec .plain (some 3) xs]),V.int j,V.vec .plain (some 3) ys,V.int n]
 r14.snd)) fun p17=>none))) (some (Ex.exit 0,[],[x,y])):=by kernel_rfl
theorem zmA(O:Oracle)(n0:Int)(n1:Int)(l2:(List V)):Ze Tryz.prog cfg O 216 [.agg [.int n0, .int n1, .vec .plain (some 3) l2]] []=
 bc (n0==1) (some (Out.ret (V.bool true),[])) (some (Out.ret (V.bool (n0==3)),[])):=by kernel_rfl
theorem zoc(O:Oracle)(n0:Int)(n1:Int)(l2:(List V)):Ze Tryz.prog cfg O 95 [.agg [.int n0, .int n1, .vec .plain (some 3) l2]] []=
 Za (Zj O 144 [V.agg [V.int n0,V.int n1,V.vec .plain (some 3) l2]]) fun r1=>Zc [CT.int,CT.int,CT.slice (some 3)] r1 fun n2 n3 l4=>some (Out.ret (V.bool
 (n2==0)),[]):=by kernel_rfl
theorem zod(O:Oracle)(n0:Int)(n1:Int)(l2:(List V)):Ze Tryz.prog cfg O 144 [.agg [.int n0, .int n1, .vec .plain (some 3) l2]] []=
 Za (O.call 179 [V.agg [V.int n0,V.int n1,V.vec .plain (some 3) l2]] [Res.box [V.int n0,V.int n1,V.vec .plain (some 3) l2]]) fun r1=>Zx r1.fst (fun v2=>zf8 v2
 fun g3 a4 b5=>Za (O.call g3 (a4++[V.yld (List.length r1.snd)]++b5) (r1.snd++[Res.loop 144 3 [V.ref 0 0] LSt.ready none])) fun r6=>Zx r6.fst (fun v7=>Zw
 r6.snd (List.length r1.snd) fun x8=>ZX x8 fun f9 k10 vs11 s12 p13=>XZ s12 p13 (Zw (List.set r6.snd (List.length r1.snd) Res.dead) 0 fun x14=>ZE x14 fun c15=>
 gd (decide (3≤c15.length)&&true) (onCells [CT.int,CT.int,CT.slice (some 3)] (List.map plain1 (List.take 3 (List.drop 0 c15))) fun n16 n17 l18=>gd (below 0 (V.agg [V.int
 n16,V.int n17,V.vec .plain (some 3) l18])&&Zt 0 []) (some (Out.ret (V.agg [V.int n16,V.int n17,V.vec .plain (some 3) l18]),[])))) none fun i19=>none) fun p20=>
 none) fun p21=>none:=by kernel_rfl
theorem zj3(O:Oracle)(k h k2 h2 k3 h3:Int)(xs ys zs:List V)(x:Res):Xw Tryz.prog cfg O 2 144 3 [.ref 0 0] [.agg [.int k, .int h, .vec .plain (some 3) xs], .agg [.int k2, .int h2, .vec .plain (some 3) ys]] [.box [.int k3, .int h3, .vec .plain (some 3) zs],x, .loop 144 3 [.ref 0 0] .ready none]=
 some (true,[Res.box [V.int k2,V.int h2,V.vec .plain (some 3) ys],x,Res.loop 144 3 [V.ref 0 0] LSt.ready none]):=by kernel_rfl
theorem zpF(O:Oracle)(k h:Int)(xs:List V)(x:Res):Ze Tryz.prog cfg O 179 [.agg [.int k, .int h, .vec .plain (some 3) xs]] [x]=
 Xb [x].length (V.fn 207 [] [V.ref [x].length 0]) [x,Res.box [V.int k,V.int h,V.vec .plain (some 3) xs]]:=by kernel_rfl
theorem zmB(O:Oracle)(k h:Int)(xs:List V)(x z:Res):Ze Tryz.prog cfg O 207 [.yld 2, .ref 1 0] [x, .box [.int k, .int h, .vec .plain (some 3) xs],z]=
 Za (O.loop 207 0 [V.ref 1 0,V.yld 2] [x,Res.box [V.int k,V.int h,V.vec .plain (some 3) xs],z]) fun r1=>Xk r1.fst none (Zn r1.snd.fst (Xb [x,Res.box
 [V.int k,V.int h,V.vec .plain (some 3) xs],z].length (V.tup []) r1.snd.snd)) (fun i2=>bc (i2.beq 0) (Zn r1.snd.fst (Xb [x,Res.box [V.int k,V.int h,V.vec .plain (some
 3) xs],z].length (V.tup []) r1.snd.snd)) none) fun v3=>none:=by kernel_rfl
theorem zi0(O:Oracle)(k h:Int)(xs:List V)(x z:Res):Zz Tryz.prog cfg O 207 0 [.ref 1 0, .yld 2] [x, .box [.int k, .int h, .vec .plain (some 3) xs],z]=
 bc (k==1) (bc ((↑xs.length:Int)==2) (gd (true&&decide (0<(↑xs.length:Int))) (Zc [CT.int,CT.int,CT.slice (some 3)] (ZP xs 0) fun n1 n2 l3=>gd (true&&
 decide (1<(↑xs.length:Int))) (Zc [CT.int,CT.int,CT.slice (some 3)] (ZP xs 1) fun n4 n5 l6=>ZX z fun f7 k8 vs9 s10 p11=>XZ s10 p11 (Za (O.round 2 f7 k8
 vs9 [V.agg [V.int n1,V.int n2,V.vec .plain (some 3) l3],V.agg [V.int n4,V.int n5,V.vec .plain (some 3) l6]] [x,Res.box [V.int k,V.int h,V.vec .plain (some 3) xs],z]) fun
 r12=>bc (!r12.fst) (some (Ex.ret,[],r12.snd)) (Zw r12.snd 1 fun x13=>ZE x13 fun c14=>gd (decide (3≤c14.length)&&true) (Yp (some 3) (Zs (AM.partOf c14 2
 none)) fun l15=>gd (true&&decide (1<(↑l15.length:Int))) (Zc [CT.int,CT.int,CT.slice (some 3)] (ZP l15 1) fun n16 n17 l18=>Zw r12.snd 1 fun x19=>ZE x19
 fun c20=>gd (decide (3≤c20.length)&&true) (O.2 207 0 [V.ref 1 0,V.yld 2] (List.set r12.snd 1 (Res.box (setCells c20 0 [V.int n16,V.int n17,V.vec .plain (some 3)
 l18])))))))) none fun i21=>none))) (some (Ex.exit 0,[],[x,Res.box [V.int k,V.int h,V.vec .plain (some 3) xs],z]))) (some (Ex.exit 0,[],[x,Res.box [V.int k,V.int h,
 V.vec .plain (some 3) xs],z])):=by kernel_rfl
end Go.Proofs.CL
namespace Go.Ama
open Go Go.AM
def low:T→Bool
 | .mk _ h xs=>decide (h≤1099511627776)&&lows xs
where lows:List T→Bool
 |[]=>true
 |t::ts=>low t&&lows ts
theorem zoe: ∀ts,low.lows ts=ts.all low
 |[]=>rfl
 |t::ts=>by simp[low.lows,zoe ts]
def Ql(n m:Int)(t:T):Bool:=low t&&(decide ((t.size:Int)≤n)&&decide ((t.depth:Int)≤m))
def X5(n m:Int)(l:List T):Bool:=decide (l.length≤60)&&l.all (Ql n m)
def zi1(k h:Int)(n:Nat):Bool:=
 if k=0 then decide (h=0)&&decide (n=0)else if k=1 then decide (h=0)&&decide (n=2)else if k=3 then decide (h=0)&&decide (n=1)else decide (0≤k)&&(decide (k<7)&&decide (0≤h))
mutual
def QR:T→Bool
 | .mk k h l=>zi1 k h l.length&&JR l
def JR:List T→Bool
 |[]=>true
 |t::l=>QR t&&JR l
end
theorem zj4: ∀l,JR l=l.all QR
 |[]=>rfl
 |t::l=>by simp[JR,zj4 l]
def may(t:T):Bool:=QR t&&(decide (t.size≤4000)&&decide (t.depth≤60))
mutual
def zdl(g:Int→T→Bool)(i:Int):T→Bool
 | .mk k h l=>g i (.mk k h l)&&J3 g i (decide (k=1)||decide (k=3)) l
def J3(g:Int→T→Bool)(i:Int)(b:Bool):List T→Bool
 |[]=>true
 |[t]=>zdl g (bif b then i+1 else i) t
 |t::u::l=>zdl g i t&&J3 g i b (u::l)
end
def iter{σ:Type}(f:σ→σ):Nat→σ→σ
 |0,s=>s
 |n+1,s=>iter f n (f s)
theorem zof{σ:Type}(f:σ→σ)(a b:Nat)(s:σ):iter f (a+b) s=iter f b (iter f a s):=by
 induction a generalizing s with
 |zero=>simp[iter]
 |succ a ih=>rw[Nat.succ_add];exact ih (f s)
def ztY(t:T):Bool:=zi1 t.k t.h t.args.length
theorem zta: ∀(t:T) (i:Int),zdl (fun _ t=>ztY t) i t=QR t:=by
 intro t
 induction t using T.ind with
 |_ k h xs ih=>
  intro i
  simp only[zdl,QR]
  generalize(decide (k=1)||decide (k=3))=b
  have: ∀l:List T,(∀a∈l,∀i,zdl (fun _ t=>ztY t) i a=QR a)→J3 (fun _ t=>ztY t) i b l=JR l:=by
   intro l
   induction l with
   |nil=>intro _;rfl
   |cons a l ihl=>
    intro h
    cases l with
    |nil=>simp only[J3,JR,Bool.and_true];exact h a (by simp) _
    |cons u l=>simp only[J3,h a (by simp)];rw[ihl fun a ha=>h a (by simp[ha])];simp only[JR]
  rw[this xs ih]
  rfl
def zfo:Nat→T→List T×T
 |0,t=>([],t)
 |n+1,t=>if t.k=1 then match t.args with|[a,b]=>let r:=zfo n b;(a::r.1,r.2)|_=>([],t)else([],t)
def split(t:T):List T×T:=zfo t.size t
theorem zcn{t b:T}(h:b∈t.args):b.size<t.size:=by
 cases t with
 |mk k h' l=>simp only[T.args]at h;simp only[T.size];have:=size_le h;omega
theorem zog: ∀(n m:Nat) (t:T),t.size≤n→t.size≤m→zfo n t=zfo m t:=by
 intro n
 induction n with
 |zero=>intro m t h;have:=XP t;omega
 |succ n ih=>
  intro m t h h'
  cases m with
  |zero=>have:=XP t;omega
  |succ m=>
   simp only[zfo]
   split
   ·split
    ·rename_i a b hab
     have:=zcn (t:=t) (b:=b) (by rw[hab];simp)
     rw[ih m b (by omega) (by omega)]
    ·rfl
   ·rfl
theorem zj5{t a b:T}(h:t.k=1)(ha:t.args=[a,b]):split t=(a::(split b).1,(split b).2):=by
 unfold split
 have hb:=zcn (t:=t) (b:=b) (by rw[ha];simp)
 obtain⟨n,hn⟩: ∃n,t.size=n+1:=⟨t.size-1,by omega⟩
 rw[hn]
 simp only[zfo,h,ha,if_true]
 rw[zog n b.size b (by omega) (Nat.le_refl _)]
theorem zex{t:T}(h: ¬(t.k=1∧t.args.length=2)):split t=([],t):=by
 unfold split
 have:=XP t
 obtain⟨n,hn⟩: ∃n,t.size=n+1:=⟨t.size-1,by omega⟩
 rw[hn]
 simp only[zfo]
 split
 ·rename_i h1
  split
  ·rename_i a b hab;exact absurd ⟨h1,by rw[hab];rfl⟩ h
  ·rfl
 ·rfl
theorem zpG{l:List T}(h:l.length=2): ∃a b,l=[a,b]:=by
 match l,h with
 |[a,b],_=>exact⟨a,b,rfl⟩
theorem zbj{xs:List T}{i:Nat}(hi:i<xs.length):Zf (xs.take (i+1))=Zf (xs.take i)++[enc xs[i]]:=by rw[zcO hi,zdG];rfl
end Go.Ama
namespace Go.Proofs.CL
open Go Go.AM Go.Ama
theorem YJ{R:Type}(t:T)(K:Int→Int→List V→Option R):Zc (R:=R) [CT.int,CT.int,CT.slice (some 3)] (enc t) K=K t.k t.h (Zf t.args):=by cases t;rfl
theorem ztb: ∀t:T,t.size≤1099511627776→Ev 90 [enc t] (.bool (low t)):=by
 intro t
 induction t using T.ind with
 |_ k h xs ih=>
  intro hs
  simp only[T.size]at hs
  have hlen:=Zo xs
  unfold Ev
  rw[C,enc,zoa]
  by_cases hh:h>1099511627776
  ·have: ¬h≤1099511627776:=by omega
   simp[bc,low,hh,this]
  ·have hle:h≤1099511627776:=by omega
   have hl:=zsS (L:=fun i=>W.loop 90 4 [V.int i,V.loc false (some 3) (V.agg [V.int k,V.int h,V.vec .plain (some 3) (Zf xs)])] []) (xs:=xs) (g:=low) (e0:=(Ex.exit 0,[],[])) (e1:=(Ex.ret,[V.bool false],[]))
    (fun i hi=>by
     have hp:=(ih xs[i] (List.getElem_mem hi) (by have:=size_le (List.getElem_mem hi);omega)).p
     show W.loop _ _ _ _=_
     rw[L,zdK]
     simp only[Zi,ZF hi,YJ,←Zb,hp]
     rw[Zu ⟨by omega,by omega⟩]
     cases low xs[i]<;>simp[bc,gd,Za,Zl,hi])
    (by show W.loop _ _ _ _=_;rw[L,zdK];simp[bc]) 0 (by omega)
   simp only[List.drop_zero,Int.ofNat_zero,Int.natCast_zero]at hl
   simp only[hl,hh,low,zoe,hle]
   cases xs.all low<;>rfl
theorem zr7: ∀t:T,t.size≤1099511627776→Ev 91 [enc t] (.int t.size):=by
 intro t
 induction t using T.ind with
 |_ k h xs ih=>
  intro hs
  simp only[T.size]at hs
  have hlen:=Zo xs
  unfold Ev
  rw[C,enc,zm9]
  have hl:=JP (n:=xs.length) (L:=fun i=>W.loop 91 3 [V.int (i:Nat),V.loc false (some 3) (V.agg [V.int k,V.int h,V.vec .plain (some 3) (Zf xs)]),V.int ((1+sizes (xs.take i):Nat):Int)] []) (r:=some (Ex.exit 0,[V.int ((1+sizes xs:Nat):Int)],[]))
   (fun i hi=>by
    have hp:=(ih xs[i] (List.getElem_mem hi) (by have:=size_le (List.getElem_mem hi);omega)).p
    have h1:=zpA hi
    have h2:=zbT xs (i+1)
    show W.loop _ _ _ _=_
    rw[L,zdk]
    simp only[Zi,ZF hi,YJ,←Zb,hp,Za,Zm]
    rw[Zu ⟨by omega,by omega⟩,Zu ⟨by omega,by omega⟩]
    rw[h1]
    simp[bc,gd,hi,Int.add_assoc])
   (by show W.loop _ _ _ _=_;rw[L,zdk];simp[bc])
  simp only[List.take_zero,sizes]at hl
  have hl':W.loop 91 3 [V.int 0,V.loc false (some 3) (V.agg [V.int k,V.int h,V.vec .plain (some 3) (Zf xs)]),V.int 1] []=some (Ex.exit 0,[V.int ((1+sizes xs:Nat):Int)],[]):=hl
  simp only[hl',T.size]
  rfl
theorem zpH: ∀t:T,t.size≤1099511627776→Ev 92 [enc t] (.int t.depth):=by
 intro t
 induction t using T.ind with
 |_ k h xs ih=>
  intro hs
  simp only[T.size]at hs
  have hlen:=Zo xs
  unfold Ev
  rw[C,enc,zkE]
  have hl:=JP (n:=xs.length) (L:=fun i=>W.loop 92 3 [V.int (i:Nat),V.int (Yq (xs.take i):Nat),V.loc false (some 3) (V.agg [V.int k,V.int h,V.vec .plain (some 3) (Zf xs)])] []) (r:=some (Ex.exit 0,[V.int (Yq xs:Nat)],[]))
   (fun i hi=>by
    have hp:=(ih xs[i] (List.getElem_mem hi) (by have:=size_le (List.getElem_mem hi);omega)).p
    have h1:=zig hi
    show W.loop _ _ _ _=_
    rw[L,zcm]
    simp only[Zi,ZF hi,YJ,←Zb,hp,Za,Zm]
    rw[Zu ⟨by omega,by omega⟩]
    rw[h1]
    by_cases hc:Yq (xs.take i)<xs[i].depth
    ·have:max (Yq (xs.take i)) xs[i].depth=xs[i].depth:=by omega
     rw[this]
     simp[bc,gd,hi,hc]
    ·have:max (Yq (xs.take i)) xs[i].depth=Yq (xs.take i):=by omega
     rw[this]
     simp[bc,gd,hi,hc])
   (by show W.loop _ _ _ _=_;rw[L,zcm];simp[bc])
  have hl':W.loop 92 3 [V.int 0,V.int 0,V.loc false (some 3) (V.agg [V.int k,V.int h,V.vec .plain (some 3) (Zf xs)])] []=some (Ex.exit 0,[V.int (Yq xs:Nat)],[]):=hl
  have hd:=zdh xs
  simp only[hl',T.depth,Za,Xk,Zd,Zm,Zn,bc]
  rw[Zu ⟨by omega,by omega⟩]
  rfl
theorem QA(t:T)(n m:Int)(hs:t.size≤1099511627776):Ev 31 [enc t, .int n, .int m] (.bool (Ql n m t)):=by
 unfold Ev
 rw[C,Zb,zkD,←Zb,(ztb t hs).p,(zr7 t hs).p,(zpH t hs).p]
 simp only[Za,Zl,Zm,Ql]
 cases low t<;>simp[bc]
 by_cases h:(t.size:Int)≤n<;>simp[h]
theorem zfp: ∀a b:T,a.size≤1099511627776→b.size≤1099511627776→Ev 75 [enc a,enc b] (.bool (a.same b)):=by
 intro a
 induction a using T.ind with
 |_ k h xs ih=>
  intro b hs hs'
  obtain⟨k2,h2,ys⟩:=b
  simp only[T.size]at hs hs'
  have hlen:=Zo xs
  unfold Ev
  rw[C,enc,enc,znY]
  simp only[T.same]
  by_cases c1:k=k2
  ·by_cases c2:h=h2
   ·by_cases c3:xs.length=ys.length
    ·have hl:=JQ (L:=fun i=>W.loop 75 4 [V.int i,V.loc false (some 3) (V.agg [V.int k2,V.int h2,V.vec .plain (some 3) (Zf ys)]),V.vec .plain (some 3) (Zf xs),V.int xs.length] []) (xs:=xs.zip ys) (g:=fun x=>x.1.same x.2) (e0:=(Ex.exit 0,[],[])) (e1:=(Ex.ret,[V.bool false],[]))
      (fun i hi=>by
       have hi1:i<xs.length:=by simp at hi;omega
       have hi2:i<ys.length:=by omega
       have hp:=(ih xs[i] (List.getElem_mem hi1) ys[i] (by have:=size_le (List.getElem_mem hi1);omega) (by have:=size_le (List.getElem_mem hi2);omega)).p
       show W.loop _ _ _ _=_
       rw[L,zdJ]
       simp only[Zi,ZF hi1,ZF hi2,YJ,←Zb,hp,List.getElem_zip]
       rw[Zu ⟨by omega,by omega⟩]
       cases xs[i].same ys[i]<;>simp[bc,gd,Za,Zl,hi1,hi2])
      (by show W.loop _ _ _ _=_;rw[L,zdJ];simp[bc,c3])
     simp only[c1,c2,c3,Zi,zlv c3,bne_self_eq_false,hl,bc]
     rw[c3]at hl
     simp only[hl]
     cases(xs.zip ys).all (fun x=>x.1.same x.2)<;>simp[Za,Xk,Zd,Zl,Zn,bc]
    ·have c4:((xs.length:Int) !=(ys.length:Int))=true:=by simp;omega
     simp only[c1,c2,zlw c3,Zi,c4,bne_self_eq_false]
     simp[bc]
   ·have c4:(h !=h2)=true:=by simp[c2]
    simp only[c1,c4,c2,bne_self_eq_false]
    simp[bc]
  ·have c4:(k !=k2)=true:=by simp[c1]
   simp only[c4,c1]
   simp[bc]
theorem ztZ:((Tryz.prog.info? 27).map (·.bytes)).getD 0=40:=by kernel_rfl
theorem zbU{n:Nat}(h:n≤2199023255552):roomFor Tryz.prog 27 n=true:=by
 unfold roomFor
 rw[ztZ]
 simp only[Bool.and_eq_true,decide_eq_true_eq]
 omega
theorem zoh: ∀t:T,t.size≤1099511627776→Ev 127 [enc t] (.int t.depth):=by
 intro t
 induction t using T.ind with
 |_ k h xs ih=>
  intro hs
  simp only[T.size]at hs
  have hlen:=Zo xs
  unfold Ev
  rw[C,enc,zm7]
  have hl:=JP (n:=xs.length) (L:=fun i=>W.loop 127 3 [V.int (i:Nat),V.int (Yq (xs.take i):Nat),V.vec .plain (some 3) (Zf xs),V.int xs.length] []) (r:=some (Ex.exit 0,[V.int (Yq xs:Nat)],[]))
   (fun i hi=>by
    have hp:=(ih xs[i] (List.getElem_mem hi) (by have:=size_le (List.getElem_mem hi);omega)).p
    have h1:=zig hi
    show W.loop _ _ _ _=_
    rw[L,zdj]
    simp only[Zi,ZF hi,YJ,←Zb,hp,Za,Zm]
    rw[Zu ⟨by omega,by omega⟩]
    rw[h1]
    by_cases hc:Yq (xs.take i)<xs[i].depth
    ·have:max (Yq (xs.take i)) xs[i].depth=xs[i].depth:=by omega
     rw[this]
     simp[bc,gd,hi,hc]
    ·have:max (Yq (xs.take i)) xs[i].depth=Yq (xs.take i):=by omega
     rw[this]
     simp[bc,gd,hi,hc])
   (by show W.loop _ _ _ _=_;rw[L,zdj];simp[bc])
  have hl':W.loop 127 3 [V.int 0,V.int 0,V.vec .plain (some 3) (Zf xs),V.int xs.length] []=some (Ex.exit 0,[V.int (Yq xs:Nat)],[]):=hl
  have hd:=zdh xs
  simp only[Zi,hl',T.depth,Za,Xk,Zd,Zm,Zn,bc]
  rw[Zu ⟨by omega,by omega⟩]
  rfl
end Go.Proofs.CL
namespace Go.Proofs.CL
open Go Go.AM Go.Ama
theorem zpI(t:T):Ev 216 [enc t] (.bool (decide (t.k=1)||decide (t.k=3))):=by
 unfold Ev
 rw[C,Zb,zmA,zaG,zaG]
 cases decide (t.k=1)<;>simp[bc]
section
variable{σ:Type}{x:σ→Res}{nx:σ→σ}{f key:Nat}{vals:List V}{g:Int→T→Bool}{b1 b2:Res}
theorem zr8(hr: ∀(i:Int) (t:T) (s:σ),W.round 1 f key vals [.int i,enc t] [x s, .loop f key vals .ready none]=some (if g i t=true then(true,[x (nx s), .loop f key vals .ready none])else(false,[b1,b2]))):
  ∀(t:T) (i:Int) (s:σ),0≤i→i+t.size≤4611686018427387904→W.call 198 [enc t, .int i, .yld 1] [x s, .loop f key vals .ready none]=
   some (if zdl g i t=true then(.ret (.bool true),[x (iter nx t.size s), .loop f key vals .ready none])else(.ret (.bool false),[b1,b2])):=by
 intro t
 induction t using T.ind with
 |_ k h xs ih=>
  intro i s hi hs
  simp only[T.size]at hs
  have hlen:=Zo xs
  rw[C]
  simp only[enc]
  rw[zob,zaq,zaH]
  have hr0:=hr i (.mk k h xs) s
  simp only[enc]at hr0
  rw[hr0]
  cases hg:g i (.mk k h xs)with
  |false=>
   simp only[zdl,hg,Bool.false_and,Zg]
   rfl
  |true=>
   have hl: ∀(d j:Nat) (s:σ),j+d=xs.length→W.loop 198 4 [V.int (j:Nat),V.yld 1,V.loc false (some 3) (V.agg [V.int k,V.int h,V.vec .plain (some 3) (Zf xs)]),V.int i,V.vec .plain (some 3) (Zf xs),V.int xs.length] [x s, .loop f key vals .ready none]=
     some (if J3 g i (decide (k=1)||decide (k=3)) (xs.drop j)=true then(Ex.exit 0,[],[x (iter nx (sizes (xs.drop j)) s), .loop f key vals .ready none])else(Ex.ret,[V.bool false],[b1,b2])):=by
    intro d
    induction d with
    |zero=>
     intro j s hj
     have:j=xs.length:=by omega
     subst this
     have hlt:decide ((xs.length:Int)<xs.length)=false:=by simp
     rw[L,zdL,hlt,List.drop_length]
     rfl
    |succ d ihd=>
     intro j s hj
     have hjl:j<xs.length:=by omega
     have hsz:=size_le (List.getElem_mem hjl)
     have hlt:decide ((j:Int)<xs.length)=true:=by simp;omega
     have h0:decide ((0:Int)≤j)=true:=by simp
     have hb:Zj W 216 [V.agg [V.int k,V.int h,V.vec .plain (some 3) (Zf xs)]]=some (.bool (decide (k=1)||decide (k=3))):=(zpI (.mk k h xs)).p
     have hne:decide ((j:Int)=IntKind.i64.wrap ((xs.length:Int)-1))=decide (j+1=xs.length):=by
      rw[Zu ⟨by omega,by omega⟩]
      by_cases c:j+1=xs.length<;>simp[c]<;>omega
     have step: ∀i':Int,0≤i'→i'+xs[j].size≤4611686018427387904→J3 g i (decide (k=1)||decide (k=3)) (xs.drop j)=(zdl g i' xs[j]&&J3 g i (decide (k=1)||decide (k=3)) (xs.drop (j+1)))→
       (Za (W.call 198 [enc xs[j],V.int i',V.yld 1] [x s, .loop f key vals .ready none]) fun r6=>
        Zx r6.fst (fun v7=>Zl v7 fun b8=>bc (!b8) (some (Ex.ret,[V.bool false],r6.snd))
         (W.loop 198 4 [V.int (IntKind.i64.wrap ((j:Nat)+1)),V.yld 1,V.loc false (some 3) (V.agg [V.int k,V.int h,V.vec .plain (some 3) (Zf xs)]),V.int i,V.vec .plain (some 3) (Zf xs),V.int xs.length] r6.snd)) fun p9=>none)=
       some (if J3 g i (decide (k=1)||decide (k=3)) (xs.drop j)=true then(Ex.exit 0,[],[x (iter nx (sizes (xs.drop j)) s), .loop f key vals .ready none])else(Ex.ret,[V.bool false],[b1,b2])):=by
      intro i' hi' hs' he
      rw[ih xs[j] (List.getElem_mem hjl) i' s hi' hs',Zg,he]
      cases zdl g i' xs[j]with
      |false=>simp only[Bool.false_and];rfl
      |true=>
       simp only[if_true,ZV,ZH,Bool.not_true,Z2,Bool.true_and]
       rw[Zu ⟨by omega,by omega⟩]
       have:=ihd (j+1) (iter nx xs[j].size s) (by omega)
       rw[show((j:Nat):Int)+1=((j+1:Nat):Int)from rfl,this]
       have:sizes (xs.drop j)=xs[j].size+sizes (xs.drop (j+1)):=by rw[List.drop_eq_getElem_cons hjl];rfl
       rw[this,zof]
     rw[L,zdL]
     simp only[Zi,hlt,h0,Z4,Z6,Bool.and_self,ZF hjl,YJ,←Zb,hb,Zg,ZH,zaG,hne]
     by_cases hlast:j+1=xs.length
     ·have hd:xs.drop j=[xs[j]]:=by rw[List.drop_eq_getElem_cons hjl,hlast,List.drop_length]
      have hd':xs.drop (j+1)=[]:=by rw[hlast,List.drop_length]
      simp only[hlast,decide_true,Z4]
      have hw:IntKind.i64.wrap (i+1)=i+1:=Zu ⟨by omega,by omega⟩
      cases hbb:(decide (k=1)||decide (k=3))with
      |true=>
       simp only[Z4,hw]
       have:=step (i+1) (by omega) (by omega) (by rw[hd,hd',hbb];simp[J3])
       rw[hbb]at this
       exact this
      |false=>
       simp only[Z2]
       have:=step i hi (by omega) (by rw[hd,hd',hbb];simp[J3])
       rw[hbb]at this
       exact this
     ·have hd:J3 g i (decide (k=1)||decide (k=3)) (xs.drop j)=(zdl g i xs[j]&&J3 g i (decide (k=1)||decide (k=3)) (xs.drop (j+1))):=by
       have h2:j+1<xs.length:=by omega
       rw[List.drop_eq_getElem_cons hjl,List.drop_eq_getElem_cons h2]
       simp only[J3]
      simp only[hlast,decide_false,Z2]
      have:=step i hi (by omega) hd
      cases hbb:(decide (k=1)||decide (k=3))with
      |true=>rw[hbb]at this;exact this
      |false=>rw[hbb]at this;exact this
   have h1:=hl xs.length 0 (nx s) (by omega)
   simp only[if_true,Zg,Bool.not_true,Z2,Zi]
   have h1':W.loop 198 4 [V.int 0,V.yld 1,V.loc false (some 3) (V.agg [V.int k,V.int h,V.vec .plain (some 3) (Zf xs)]),V.int i,V.vec .plain (some 3) (Zf xs),V.int xs.length] [x (nx s), .loop f key vals .ready none]=
     some (if J3 g i (decide (k=1)||decide (k=3)) xs=true then(Ex.exit 0,[],[x (iter nx (sizes xs) (nx s)), .loop f key vals .ready none])else(Ex.ret,[V.bool false],[b1,b2])):=by
    rw[List.drop_zero]at h1;exact h1
   rw[h1',Zg]
   have hsz:iter nx (T.mk k h xs).size s=iter nx (sizes xs) (nx s):=by
    simp only[T.size]
    rw[zof]
    rfl
   simp only[zdl,hg,Bool.true_and,hsz]
   cases J3 g i (decide (k=1)||decide (k=3)) xs<;>rfl
theorem zj6(hr: ∀(i:Int) (t:T) (s:σ),W.round 1 f key vals [.int i,enc t] [x s, .loop f key vals .ready none]=some (if g i t=true then(true,[x (nx s), .loop f key vals .ready none])else(false,[b1,b2])))
  (t:T) (s:σ) (hs:t.size≤1099511627776):W.call 197 [.yld 1, .cptr (some 3) (enc t)] [x s, .loop f key vals .ready none]=
   some (.ret (.tup []),if zdl g 0 t=true then[x (iter nx t.size s), .loop f key vals .ready none]else[b1,b2]):=by
 have hw:=zr8 hr t 0 s (by omega) (by omega)
 rw[C]
 rw[Zb]at hw⊢
 rw[zj2,hw,Zg]
 cases zdl g 0 t<;>rfl
end
theorem zpJ(t:T)(hs:t.size≤1099511627776):Ev 128 [enc t] (.int t.size):=by
 unfold Ev
 have hr: ∀(i:Int) (t:T) (s:Int),W.round 1 128 3 [.ref 0 0] [.int i,enc t] [.box [.int s], .loop 128 3 [.ref 0 0] .ready none]=
   some (if(fun _ _=>true:Int→T→Bool) i t=true then(true,[.box [.int (IntKind.i64.wrap (s+1))], .loop 128 3 [.ref 0 0] .ready none])else(false,[.dead, .dead])):=by
  intro i t s
  rw[Rd,Zb,zj1]
  rfl
 have hn:=zj6 (x:=fun s:Int=> .box [.int s]) (nx:=fun s=>IntKind.i64.wrap (s+1)) (g:=fun _ _=>true) (b1:= .dead) (b2:= .dead) hr t 0 hs
 have hall: ∀(t:T) (i:Int),zdl (fun _ _=>true) i t=true:=by
  intro t
  induction t using T.ind with
  |_ k h xs ih=>
   intro i
   simp only[zdl,Bool.true_and]
   generalize(decide (k=1)||decide (k=3))=b
   have: ∀l:List T,(∀a∈l,∀i,zdl (fun _ _=>true) i a=true)→J3 (fun _ _=>true) i b l=true:=by
    intro l
    induction l with
    |nil=>intro _;rfl
    |cons a l ihl=>
     intro h
     cases l with
     |nil=>simp only[J3];exact h a (by simp) _
     |cons u l=>simp only[J3,h a (by simp),Bool.true_and];exact ihl fun a ha=>h a (by simp[ha])
   exact this xs ih
 have hit: ∀(n:Nat) (s:Int),0≤s→s+n≤4611686018427387904→iter (fun s=>IntKind.i64.wrap (s+1)) n s=s+n:=by
  intro n
  induction n with
  |zero=>intro s _ _;simp[iter]
  |succ n ih=>
   intro s h0 h1
   simp only[iter]
   rw[Zu ⟨by omega,by omega⟩,ih _ (by omega) (by omega)]
   omega
 rw[hall,if_pos rfl]at hn
 rw[hit t.size 0 (by omega) (by omega)]at hn
 rw[C]
 rw[Zb]at hn⊢
 rw[znZ,C,zgk,Zg,ZV,zgj]
 have hn':W.call 197 ([]++[V.yld (List.length [Res.box [V.int 0]])]++[V.cptr (some 3) (V.agg [V.int t.k,V.int t.h,V.vec .plain (some 3) (Zf t.args)])]) ([Res.box [V.int 0]]++[Res.loop 128 3 [V.ref 0 0] LSt.ready none])=_:=hn
 rw[hn',Zg]
 simp only[Int.zero_add]
 rfl
theorem zpK(k h:Int)(xs:List V):Ev 131 [.agg [.int k, .int h, .vec .plain (some 3) xs]] (.bool (zi1 k h xs.length)):=by
 unfold Ev
 rw[C,zpE]
 simp only[zsT,zsU,znR]
 simp only[zaG,zi1]
 by_cases k0:k=0
 ·subst k0
  simp only[decide_true,Z4,if_true]
  cases decide (h=0)<;>rfl
 by_cases k1:k=1
 ·subst k1
  simp only[show(1:Int)≠0 by decide,decide_true,decide_false,Z4,Z2,if_true,if_false]
  cases decide (h=0)<;>rfl
 by_cases k3:k=3
 ·subst k3
  simp only[show(3:Int)≠0 by decide,show(3:Int)≠1 by decide,decide_true,decide_false,Z4,Z2,if_true,if_false]
  cases decide (h=0)<;>rfl
 simp only[k0,k1,k3,decide_false,Z2,if_false,ge_iff_le]
 cases decide (0≤k)<;>cases decide (k<7)<;>simp[bc]
theorem zr9(i k h:Int)(xs:List T):Ev 130 [.int i, .agg [.int k, .int h, .vec .plain (some 3) (Zf xs)]] (.bool (zi1 k h xs.length)):=by
 unfold Ev
 have:=(zpK k h (Zf xs)).p (by simp[Zk,below])
 rw[Zi]at this
 rw[C,zm8,this]
 rfl
end Go.Proofs.CL
namespace Go.Proofs.CL
open Go Go.AM
set_option maxRecDepth 20000
theorem zpL(O:Oracle)(n0:Int)(n1:Int)(l2:(List V))(n3:Int)(n4:Int):Ze Tryz.prog cfg O 177 [.agg [.int n0, .int n1, .vec .plain (some 3) l2], .int n3, .int n4] []=
 Za (Zj O 204 [V.agg [V.int n0,V.int n1,V.vec .plain (some 3) l2],V.int n3,V.int n4]) fun r1=>Zl r1 fun b2=>bc (!b2) (Za (Zj O 85 [V.agg
 [V.int n0,V.int n1,V.vec .plain (some 3) l2]]) fun r3=>Zc [CT.int,CT.int,CT.slice (some 3)] r3 fun n4 n5 l6=>gd (below 0 (V.agg [V.int n4,V.int n5,V.vec .plain
 (some 3) l6])&&true) (some (Out.ret (V.agg [V.int n4,V.int n5,V.vec .plain (some 3) l6]),[]))) (Za (O.call 205 [V.agg [V.int n0,V.int n1,V.vec .plain (some 3)
 l2],V.int 0,V.fn 206 [V.agg [V.int n3,V.int n4]] []] []) fun r7=>Zx r7.fst (fun v8=>ZM v8 fun c9=>Zd c9 fun v10 c11=>Zc [CT.int,CT.int,
 CT.slice (some 3)] v10 fun n12 n13 l14=>Zd c11 fun v15 c16=>Zl v15 fun b17=>Zn c16 (gd (below 0 (V.agg [V.int n12,V.int n13,V.vec .plain (some 3) l14])&&
 Zt 0 []) (some (Out.ret (V.agg [V.int n12,V.int n13,V.vec .plain (some 3) l14]),[])))) fun p18=>none):=by kernel_rfl
theorem zkF(O:Oracle)(n0:Int)(n1:Int)(l2:(List V))(l3:(List V))(n4:Int):Ze Tryz.prog cfg O 126 [.agg [.int n0, .int n1, .vec .plain (some 3) l2], .agg [.vec .plain (some 3) l3, .int n4]] []=
 Za (Zj O 82 [V.agg [V.int n0,V.int n1,V.vec .plain (some 3) l2]]) fun r1=>Zl r1 fun b2=>bc (!b2) (some (Out.ret (V.tup [V.agg [V.int 0,V.int 0,V.vec
 .plain (some 3) []],V.int 1]),[])) (Za (Zj O 166 [V.agg [V.vec .plain (some 3) l3,V.int n4]]) fun r3=>Zl r3 fun b4=>bc (!b4) (some (Out.ret (V.tup [V.agg
 [V.int 0,V.int 0,V.vec .plain (some 3) []],V.int 1]),[])) (Za (O.call 167 [V.fn 168 [] [V.cptr (some 3) (V.agg [V.int n0,V.int n1,V.vec .plain (some
 3) l2]),V.cptr (some 2) (V.agg [V.vec .plain (some 3) l3,V.int n4])]] []) fun r5=>Zx r5.fst (fun v6=>ZM v6 fun c7=>Zd c7 fun v8 c9=>Zc [CT.int,CT.int,
 CT.slice (some 3)] v8 fun n10 n11 l12=>Zd c9 fun v13 c14=>Zm v13 fun n15=>Zn c14 (gd (below 0 (V.tup [V.agg [V.int n10,V.int n11,V.vec .plain (some 3) l12],
 V.int n15])&&Zt 0 []) (some (Out.ret (V.tup [V.agg [V.int n10,V.int n11,V.vec .plain (some 3) l12],V.int n15]),[])))) fun p16=>none)):=by kernel_rfl
theorem zoi(O:Oracle)(n0:Int)(n1:Int)(l2:(List V))(n3:Int)(n4:Int):Ze Tryz.prog cfg O 204 [.agg [.int n0, .int n1, .vec .plain (some 3) l2], .int n3, .int n4] []=
 Za (Zj O 82 [V.agg [V.int n0,V.int n1,V.vec .plain (some 3) l2]]) fun r1=>Zl r1 fun b2=>bc b2 (bc (decide (n3≥0)) (bc (decide (n3≤1048576)) (bc (decide
 (n4≥0)) (some (Out.ret (V.bool (decide (n4≤1048576))),[])) (some (Out.ret (V.bool false),[]))) (some (Out.ret (V.bool false),[]))) (some (Out.ret (V.bool false),[])))
 (some (Out.ret (V.bool false),[])):=by kernel_rfl
theorem zj7(O:Oracle)(n0:Int)(n1:Int)(l2:(List V))(n3:Int)(g4:Nat)(l5:(List V))(l6:(List V))(st:St):Ze Tryz.prog cfg O 205 [.agg [.int n0, .int n1, .vec .plain (some 3) l2], .int n3, .fn g4 l5 l6] st=
 bc (n0==4) (bc (cfg.pure g4) (Za (Zj O g4 (l5++[V.int n1,V.int n3]++l6)) fun r1=>ZM r1 fun c2=>Zd c2 fun v3 c4=>Zm v3 fun n5=>Zd c4 fun v6 c7=>
 Zl v6 fun b8=>Zn c7 (bc (!b8) (Xb (List.length st) (V.tup [V.agg [V.int 0,V.int 0,V.vec .plain (some 3) []],V.bool false]) st) (Za (O.call 218
 [V.vec .plain (some 3) l2,V.fn 219 [] [V.cptr none (V.int n3),V.cptr (some 3) (V.agg [V.int n0,V.int n1,V.vec .plain (some 3) l2]),V.cptr none (V.fn g4 l5 l6)]]
 st) fun r9=>Zx r9.fst (fun v10=>ZM v10 fun c11=>Zd c11 fun v12 c13=>Yp (some 3) v12 fun l14=>Zd c13 fun v15 c16=>Zl v15 fun b17=>Zn c16 (bc
 (!b17) (Xb (List.length st) (V.tup [V.agg [V.int 0,V.int 0,V.vec .plain (some 3) []],V.bool false]) r9.snd) (Xb (List.length st) (V.tup [V.agg [V.int n0,V.int n5,V.vec
 .plain (some 3) l14],V.bool true]) r9.snd))) fun p18=>none))) (Za (O.call g4 (l5++[V.int n1,V.int n3]++l6) st) fun r19=>Zx r19.fst (fun v20=>ZM v20 fun c21=>
 Zd c21 fun v22 c23=>Zm v22 fun n24=>Zd c23 fun v25 c26=>Zl v25 fun b27=>Zn c26 (bc (!b27) (Xb (List.length st) (V.tup [V.agg [V.int 0,V.int 0,V.vec
 .plain (some 3) []],V.bool false]) r19.snd) (Za (O.call 218 [V.vec .plain (some 3) l2,V.fn 219 [] [V.cptr none (V.int n3),V.cptr (some 3)
 (V.agg [V.int n0,V.int n1,V.vec .plain (some 3) l2]),V.cptr none (V.fn g4 l5 l6)]] r19.snd) fun r28=>Zx r28.fst (fun v29=>ZM v29 fun c30=>Zd c30 fun v31 c32=>
 Yp (some 3) v31 fun l33=>Zd c32 fun v34 c35=>Zl v34 fun b36=>Zn c35 (bc (!b36) (Xb (List.length st) (V.tup [V.agg [V.int 0,V.int 0,V.vec .plain (some 3)
 []],V.bool false]) r28.snd) (Xb (List.length st) (V.tup [V.agg [V.int n0,V.int n24,V.vec .plain (some 3) l33],V.bool true]) r28.snd))) fun p37=>none))) fun p38=>none))
 (Za (O.call 218 [V.vec .plain (some 3) l2,V.fn 219 [] [V.cptr none (V.int n3),V.cptr (some 3) (V.agg [V.int n0,V.int n1,V.vec .plain (some 3)
 l2]),V.cptr none (V.fn g4 l5 l6)]] st) fun r39=>Zx r39.fst (fun v40=>ZM v40 fun c41=>Zd c41 fun v42 c43=>Yp (some 3) v42 fun l44=>Zd c43 fun v45 c46=>
 Zl v45 fun b47=>Zn c46 (bc (!b47) (Xb (List.length st) (V.tup [V.agg [V.int 0,V.int 0,V.vec .plain (some 3) []],V.bool false]) r39.snd) (Xb (List.length st) (V.tup
 [V.agg [V.int n0,V.int n1,V.vec .plain (some 3) l44],V.bool true]) r39.snd))) fun p48=>none):=by kernel_rfl
theorem ze4(O:Oracle)(n0:Int)(n1:Int)(n2:Int)(n3:Int):Ze Tryz.prog cfg O 206 [.agg [.int n0, .int n1], .int n2, .int n3] []=
 bc (decide (n2≥IntKind.i64.wrap (n1+n3))) (some (Out.ret (V.tup [V.int (IntKind.i64.wrap (n2+n0)),V.bool true]),[])) (some (Out.ret (V.tup [V.int n2,V.bool true]),[])):=by kernel_rfl
theorem zoj(O:Oracle)(l0:(List V))(n1:Int):Ze Tryz.prog cfg O 166 [.agg [.vec .plain (some 3) l0, .int n1]] []=
 bc (decide ((↑l0.length:Int)≤200)) (bc (decide (n1≥0)) (bc (decide (n1≤1048576)) (Za (O.call 73 [V.vec .plain (some 3) l0,V.fn
 191 [] []] []) fun r1=>Zx r1.fst (fun v2=>Zl v2 fun b3=>some (Out.ret (V.bool !b3),[])) fun p4=>none) (some (Out.ret (V.bool false),[]))) (some (Out.ret
 (V.bool false),[]))) (some (Out.ret (V.bool false),[])):=by kernel_rfl
theorem zi2(O:Oracle)(q:Nat)(k h:Int)(xs ls:List V)(sft:Int)(st:St):Ze Tryz.prog cfg O 168 [.ref q 0, .cptr (some 3) (.agg [.int k, .int h, .vec .plain (some 3) xs]), .cptr (some 2) (.agg [.vec .plain (some 3) ls, .int sft])] st=
 Za (O.call 169 [V.ref q 0,V.agg [V.int k,V.int h,V.vec .plain (some 3) xs],V.agg [V.vec .plain (some 3) ls,V.int sft]] st) fun r1=>Zx r1.fst (fun v2=>
 Zc [CT.int,CT.int,CT.slice (some 3)] v2 fun n3 n4 l5=>Xb (List.length st) (V.agg [V.int n3,V.int n4,V.vec .plain (some 3) l5]) r1.snd) fun p6=>gd (below
 (List.length st) p6&&Zt (List.length st) (List.take (List.length st) r1.snd)) (some (Out.panic p6,List.take (List.length st) r1.snd)):=by kernel_rfl
theorem zbk(O:Oracle)(r0:Nat)(n1:Int)(n2:Int)(l3:(List V))(l4:(List V))(n5:Int)(st:St):Ze Tryz.prog cfg O 169 [.ref r0 0, .agg [.int n1, .int n2, .vec .plain (some 3) l3], .agg [.vec .plain (some 3) l4, .int n5]] st=
 Zw st r0 fun x1=>ZE x1 fun c2=>gd (decide (1≤c2.length)&&true) (Zm (Zs (AM.partOf c2 0 none)) fun n3=>Zw st r0 fun x4=>ZE x4 fun c5=>gd (decide (1≤
 c5.length)&&true) (Zw (List.set st r0 (Res.box (setCells c5 0 [V.int (IntKind.i64.wrap (n3+1))]))) r0 fun x6=>ZE x6 fun c7=>gd (decide (1≤c7.length)&&true) (Zm
 (Zs (AM.partOf c7 0 none)) fun n8=>bc (decide (n8>40000)) (Za (O.call 193 [V.int 4] (List.set st r0 (Res.box (setCells c5 0 [V.int (IntKind.i64.wrap (n3+
 1))])))) fun r9=>Zx r9.fst (fun v10=>ZM v10 fun c11=>Zn c11 (Za (O.loop 169 6 [V.int 0,V.loc true (some 3) (V.agg [V.int n1,V.int n2,V.vec
 Mode.grow (some 3) []]),V.ref r0 0,V.loc false (some 2) (V.agg [V.vec .plain (some 3) l4,V.int n5]),V.loc false (some 3) (V.agg [V.int n1,V.int n2,V.vec .plain (some 3)
 l3]),V.vec .plain (some 3) l3,V.loc true (some 3) (V.agg [V.int 0,V.int 0,V.vec Mode.full (some 3) []]),V.int (↑l3.length:Int)] r9.snd) fun r12=>Xk r12.fst none none
 (fun i13=>bc (i13.beq 0) (Zd r12.snd.fst fun v14 c15=>Y0 (some 3) v14 fun d16 v17=>Zd c15 fun v18 c19=>Y0 (some 3) v18 fun d20 v21=>Xc v21 fun c22=>
 Zd c22 fun v23 c24=>Zm v23 fun n25=>Zd c24 fun v26 c27=>Zm v26 fun n28=>Zd c27 fun v29 c30=>Xr (some 3) v29 fun l31=>Zn c30 (Zd c19 fun
 v32 c33=>Y0 (some 3) v32 fun d34 v35=>Zc [CT.int,CT.int,CT.slice (some 3)] (bif d34 then Zs v35 else v35) fun n36 n37 l38=>Zd c33 fun v39 c40=>Y0
 (some 2) v39 fun d41 v42=>Zc [CT.slice (some 3),CT.int] (bif d41 then Zs v42 else v42) fun l43 n44=>Zd c40 fun v45 c46=>zf7 v45 fun q47=>Zn c46 (bc
 (n36 !=4) (Xb (List.length st) (V.agg [V.int n25,V.int n28,V.vec .plain (some 3) l31]) r12.snd.snd) (Za (Zj O 196 [V.agg [V.vec .plain (some 3) l43,V.int n44],
 V.int n37]) fun r48=>Zc [CT.int,CT.int,CT.slice (some 3)] r48 fun n49 n50 l51=>Za (O.call 195 [V.ref q47 0,V.agg [V.int n49,V.int n50,V.vec .plain
 (some 3) l51],V.vec .plain (some 3) l31] r12.snd.snd) fun r52=>Zx r52.fst (fun v53=>Zc [CT.int,CT.int,CT.slice (some 3)] v53 fun n54 n55 l56=>Xb (List.length
 st) (V.agg [V.int n54,V.int n55,V.vec .plain (some 3) l56]) r52.snd) fun p57=>gd (below (List.length st) p57&&Zt (List.length st) (List.take (List.length st) r52.snd))
 (some (Out.panic p57,List.take (List.length st) r52.snd)))))) none) fun v58=>gd (below (List.length st) v58&&Zt (List.length st) (List.take (List.length st)
 r12.snd.snd)) (some (Out.panic v58,List.take (List.length st) r12.snd.snd)))) fun p59=>gd (below (List.length st) p59&&Zt (List.length st) (List.take (List.length st)
 r9.snd)) (some (Out.panic p59,List.take (List.length st) r9.snd))) (Za (O.loop 169 6 [V.int 0,V.loc true (some 3) (V.agg [V.int n1,V.int n2,V.vec Mode.grow
 (some 3) []]),V.ref r0 0,V.loc false (some 2) (V.agg [V.vec .plain (some 3) l4,V.int n5]),V.loc false (some 3) (V.agg [V.int n1,V.int n2,V.vec .plain (some 3) l3]),V.vec
 .plain (some 3) l3,V.loc true (some 3) (V.agg [V.int 0,V.int 0,V.vec Mode.full (some 3) []]),V.int (↑l3.length:Int)] (List.set st r0 (Res.box (setCells c5 0 [V.int
 (IntKind.i64.wrap (n3+1))])))) fun r60=>Xk r60.fst none none (fun i61=>bc (i61.beq 0) (Zd r60.snd.fst fun v62 c63=>Y0 (some 3) v62 fun d64 v65=>Zd c63 fun
 v66 c67=>Y0 (some 3) v66 fun d68 v69=>Xc v69 fun c70=>Zd c70 fun v71 c72=>Zm v71 fun n73=>Zd c72 fun v74 c75=>Zm v74 fun n76=>Zd c75 fun v77
 c78=>Xr (some 3) v77 fun l79=>Zn c78 (Zd c67 fun v80 c81=>Y0 (some 3) v80 fun d82 v83=>Zc [CT.int,CT.int,CT.slice (some 3)] (bif d82 then Zs v83
 else v83) fun n84 n85 l86=>Zd c81 fun v87 c88=>Y0 (some 2) v87 fun d89 v90=>Zc [CT.slice (some 3),CT.int] (bif d89 then Zs v90 else v90) fun l91 n92=>
 Zd c88 fun v93 c94=>zf7 v93 fun q95=>Zn c94 (bc (n84 !=4) (Xb (List.length st) (V.agg [V.int n73,V.int n76,V.vec .plain (some 3) l79]) r60.snd.snd) (Za (Zj
 O 196 [V.agg [V.vec .plain (some 3) l91,V.int n92],V.int n85]) fun r96=>Zc [CT.int,CT.int,CT.slice (some 3)] r96 fun n97 n98 l99=>Za (O.call
 195 [V.ref q95 0,V.agg [V.int n97,V.int n98,V.vec .plain (some 3) l99],V.vec .plain (some 3) l79] r60.snd.snd) fun r100=>Zx r100.fst (fun v101=>Zc
 [CT.int,CT.int,CT.slice (some 3)] v101 fun n102 n103 l104=>Xb (List.length st) (V.agg [V.int n102,V.int n103,V.vec .plain (some 3) l104]) r100.snd) fun p105=>gd (below
 (List.length st) p105&&Zt (List.length st) (List.take (List.length st) r100.snd)) (some (Out.panic p105,List.take (List.length st) r100.snd)))))) none) fun v106=>gd
 (below (List.length st) v106&&Zt (List.length st) (List.take (List.length st) r60.snd.snd)) (some (Out.panic v106,List.take (List.length st) r60.snd.snd)))))):=by kernel_rfl
theorem JB(O:Oracle)(n0:Int)(n1:Int)(n2:Int)(l3:(List V))(r4:Nat)(l5:(List V))(n6:Int)(n7:Int)(n8:Int)(l9:(List V))(l10:(List V))(v11:V)(n12:Int)(st:St):Zz Tryz.prog cfg O 169 6 [.int n0, .loc true (some 3) (.agg [.int n1, .int n2, .vec .grow (some 3) l3]), .ref r4 0, .loc false (some 2) (.agg [.vec .plain (some 3) l5, .int n6]), .loc false (some 3) (.agg [.int n7, .int n8, .vec .plain (some 3) l9]), .vec .plain (some 3) l10, .loc true (some 3) v11, .int n12] st=
 bc (decide (n0<n12)) (gd (decide (0≤n0)&&decide (n0<(↑l10.length:Int))) (Zc [CT.int,CT.int,CT.slice (some 3)] (ZP l10 n0) fun n1_1 n2_1 l3_1=>bc (n7==1)
 (bc (n0==IntKind.i64.wrap ((↑l9.length:Int)-1)) (Za (Zj O 194 [V.agg [V.vec .plain (some 3) l5,V.int n6]]) fun r4_1=>Zc [CT.slice (some 3),CT.int]
 r4_1 fun l5_1 n6_1=>Za (O.call 169 [V.ref r4 0,V.agg [V.int n1_1,V.int n2_1,V.vec .plain (some 3) l3_1],V.agg [V.vec .plain (some 3) l5_1,V.int n6_1]] st)
 fun r7=>Zx r7.fst (fun v8=>Zc [CT.int,CT.int,CT.slice (some 3)] v8 fun n9 n10 l11=>gd (true&&roomFor Tryz.prog 27 (l3.length+[V.agg [V.int n9,V.int
 n10,V.vec .plain (some 3) l11]].length)) (O.2 169 6 [V.int (IntKind.i64.wrap (n0+1)),V.loc true (some 3) (V.agg [V.int n1,V.int n2,V.vec Mode.grow (some 3)
 (l3++[V.agg [V.int n9,V.int n10,V.vec .plain (some 3) l11]])]),V.ref r4 0,V.loc false (some 2) (V.agg [V.vec .plain (some 3) l5,V.int n6]),V.loc false (some 3) (V.agg
 [V.int n7,V.int n8,V.vec .plain (some 3) l9]),V.vec .plain (some 3) l10,V.loc true (some 3) v11,V.int n12] r7.snd)) fun p12=>some (Ex.panic p12,[V.loc true (some 3) v11,
 V.loc true (some 3) (V.agg [V.int n1,V.int n2,V.vec .plain (some 3) l3]),V.loc false (some 3) (V.agg [V.int n7,V.int n8,V.vec .plain (some 3) l9]),V.loc false (some 2)
 (V.agg [V.vec .plain (some 3) l5,V.int n6]),V.ref r4 0],r7.snd)) (Za (O.call 169 [V.ref r4 0,V.agg [V.int n1_1,V.int n2_1,V.vec .plain (some 3) l3_1],
 V.agg [V.vec .plain (some 3) l5,V.int n6]] st) fun r13=>Zx r13.fst (fun v14=>Zc [CT.int,CT.int,CT.slice (some 3)] v14 fun n15 n16 l17=>gd (true&&roomFor
 Tryz.prog 27 (l3.length+[V.agg [V.int n15,V.int n16,V.vec .plain (some 3) l17]].length)) (O.2 169 6 [V.int (IntKind.i64.wrap (n0+1)),V.loc true
 (some 3) (V.agg [V.int n1,V.int n2,V.vec Mode.grow (some 3) (l3++[V.agg [V.int n15,V.int n16,V.vec .plain (some 3) l17]])]),V.ref r4 0,V.loc false (some 2) (V.agg [V.vec
 .plain (some 3) l5,V.int n6]),V.loc false (some 3) (V.agg [V.int n7,V.int n8,V.vec .plain (some 3) l9]),V.vec .plain (some 3) l10,V.loc true (some 3) v11,V.int n12]
 r13.snd)) fun p18=>some (Ex.panic p18,[V.loc true (some 3) v11,V.loc true (some 3) (V.agg [V.int n1,V.int n2,V.vec .plain (some 3) l3]),V.loc false (some 3) (V.agg [V.int
 n7,V.int n8,V.vec .plain (some 3) l9]),V.loc false (some 2) (V.agg [V.vec .plain (some 3) l5,V.int n6]),V.ref r4 0],r13.snd))) (bc (n7==3) (bc (n0==IntKind.i64.wrap
 ((↑l9.length:Int)-1)) (Za (Zj O 194 [V.agg [V.vec .plain (some 3) l5,V.int n6]]) fun r19=>Zc [CT.slice (some 3),CT.int] r19 fun l20 n21=>Za
 (O.call 169 [V.ref r4 0,V.agg [V.int n1_1,V.int n2_1,V.vec .plain (some 3) l3_1],V.agg [V.vec .plain (some 3) l20,V.int n21]] st) fun r22=>Zx r22.fst (fun
 v23=>Zc [CT.int,CT.int,CT.slice (some 3)] v23 fun n24 n25 l26=>gd (true&&roomFor Tryz.prog 27 (l3.length+[V.agg [V.int n24,V.int n25,V.vec .plain (some
 3) l26]].length)) (O.2 169 6 [V.int (IntKind.i64.wrap (n0+1)),V.loc true (some 3) (V.agg [V.int n1,V.int n2,V.vec Mode.grow (some 3) (l3++[V.agg [V.int n24,
 V.int n25,V.vec .plain (some 3) l26]])]),V.ref r4 0,V.loc false (some 2) (V.agg [V.vec .plain (some 3) l5,V.int n6]),V.loc false (some 3) (V.agg [V.int n7,V.int n8,V.vec
 .plain (some 3) l9]),V.vec .plain (some 3) l10,V.loc true (some 3) v11,V.int n12] r22.snd)) fun p27=>some (Ex.panic p27,[V.loc true (some 3) v11,V.loc true (some 3) (V.agg
 [V.int n1,V.int n2,V.vec .plain (some 3) l3]),V.loc false (some 3) (V.agg [V.int n7,V.int n8,V.vec .plain (some 3) l9]),V.loc false (some 2) (V.agg [V.vec .plain (some 3)
 l5,V.int n6]),V.ref r4 0],r22.snd)) (Za (O.call 169 [V.ref r4 0,V.agg [V.int n1_1,V.int n2_1,V.vec .plain (some 3) l3_1],V.agg [V.vec .plain (some 3) l5,
 V.int n6]] st) fun r28=>Zx r28.fst (fun v29=>Zc [CT.int,CT.int,CT.slice (some 3)] v29 fun n30 n31 l32=>gd (true&&roomFor Tryz.prog 27 (l3.length+
 [V.agg [V.int n30,V.int n31,V.vec .plain (some 3) l32]].length)) (O.2 169 6 [V.int (IntKind.i64.wrap (n0+1)),V.loc true (some 3) (V.agg [V.int n1,V.int n2,
 V.vec Mode.grow (some 3) (l3++[V.agg [V.int n30,V.int n31,V.vec .plain (some 3) l32]])]),V.ref r4 0,V.loc false (some 2) (V.agg [V.vec .plain (some 3) l5,V.int n6]),V.loc
 false (some 3) (V.agg [V.int n7,V.int n8,V.vec .plain (some 3) l9]),V.vec .plain (some 3) l10,V.loc true (some 3) v11,V.int n12] r28.snd)) fun p33=>some (Ex.panic p33,
 [V.loc true (some 3) v11,V.loc true (some 3) (V.agg [V.int n1,V.int n2,V.vec .plain (some 3) l3]),V.loc false (some 3) (V.agg [V.int n7,V.int n8,V.vec .plain (some 3) l9]),
 V.loc false (some 2) (V.agg [V.vec .plain (some 3) l5,V.int n6]),V.ref r4 0],r28.snd))) (Za (O.call 169 [V.ref r4 0,V.agg [V.int n1_1,V.int n2_1,V.vec
 .plain (some 3) l3_1],V.agg [V.vec .plain (some 3) l5,V.int n6]] st) fun r34=>Zx r34.fst (fun v35=>Zc [CT.int,CT.int,CT.slice (some 3)] v35 fun n36 n37 l38=>gd
 (true&&roomFor Tryz.prog 27 (l3.length+[V.agg [V.int n36,V.int n37,V.vec .plain (some 3) l38]].length)) (O.2 169 6 [V.int (IntKind.i64.wrap (n0+
 1)),V.loc true (some 3) (V.agg [V.int n1,V.int n2,V.vec Mode.grow (some 3) (l3++[V.agg [V.int n36,V.int n37,V.vec .plain (some 3) l38]])]),V.ref r4 0,V.loc false (some 2)
 (V.agg [V.vec .plain (some 3) l5,V.int n6]),V.loc false (some 3) (V.agg [V.int n7,V.int n8,V.vec .plain (some 3) l9]),V.vec .plain (some 3) l10,V.loc true (some 3) v11,
 V.int n12] r34.snd)) fun p39=>some (Ex.panic p39,[V.loc true (some 3) v11,V.loc true (some 3) (V.agg [V.int n1,V.int n2,V.vec .plain (some 3) l3]),V.loc false (some 3)
 (V.agg [V.int n7,V.int n8,V.vec .plain (some 3) l9]),V.loc false (some 2) (V.agg [V.vec .plain (some 3) l5,V.int n6]),V.ref r4 0],r34.snd))))) (some (Ex.exit 0,[V.loc true
 (some 3) v11,V.loc true (some 3) (V.agg [V.int n1,V.int n2,V.vec Mode.grow (some 3) l3]),V.loc false (some 3) (V.agg [V.int n7,V.int n8,V.vec .plain (some 3) l9]),V.loc
 false (some 2) (V.agg [V.vec .plain (some 3) l5,V.int n6]),V.ref r4 0],st)):=by kernel_rfl
theorem zdm(O:Oracle)(l0:(List V))(g1:Nat)(l2:(List V))(l3:(List V))(st:St):Ze Tryz.prog cfg O 218 [.vec .plain (some 3) l0, .fn g1 l2 l3] st=
 Za (O.loop 218 3 [V.int 0,V.vec Mode.grow (some 3) [],V.fn g1 l2 l3,V.vec .plain (some 3) l0,V.int (↑l0.length:Int)] st) fun r1=>Xk r1.fst none
 (Zd r1.snd.fst fun v2 c3=>Yp (some 3) v2 fun l4=>Zd c3 fun v5 c6=>Zl v5 fun b7=>Zn c6 (Xb (List.length st) (V.tup [V.vec .plain (some 3) l4,V.bool b7])
 r1.snd.snd)) (fun i8=>bc (i8.beq 0) (Zd r1.snd.fst fun v9 c10=>Xr (some 3) v9 fun l11=>Zn c10 (Xb (List.length st) (V.tup [V.vec .plain (some 3) l11,V.bool
 true]) r1.snd.snd)) none) fun v12=>none:=by kernel_rfl
theorem QY(O:Oracle)(n0:Int)(l1:(List V))(g2:Nat)(l3:(List V))(l4:(List V))(l5:(List V))(n6:Int)(st:St):Zz Tryz.prog cfg O 218 3 [.int n0, .vec .grow (some 3) l1, .fn g2 l3 l4, .vec .plain (some 3) l5, .int n6] st=
 bc (decide (n0<n6)) (gd (decide (0≤n0)&&decide (n0<(↑l5.length:Int))) (Zc [CT.int,CT.int,CT.slice (some 3)] (ZP l5 n0) fun n1 n2 l3_1=>bc (cfg.pure g2)
 (Za (Zj O g2 (l3++[V.int n0,V.agg [V.int n1,V.int n2,V.vec .plain (some 3) l3_1]]++l4)) fun r4=>ZM r4 fun c5=>Zd c5 fun v6 c7=>Zc [CT.int,CT.int,
 CT.slice (some 3)] v6 fun n8 n9 l10=>Zd c7 fun v11 c12=>Zl v11 fun b13=>Zn c12 (bc (!b13) (some (Ex.ret,[V.vec .plain (some 3) [],V.bool false],st)) (gd (true
 &&roomFor Tryz.prog 27 (l1.length+[V.agg [V.int n8,V.int n9,V.vec .plain (some 3) l10]].length)) (O.2 218 3 [V.int (IntKind.i64.wrap (n0+1)),
 V.vec Mode.grow (some 3) (l1++[V.agg [V.int n8,V.int n9,V.vec .plain (some 3) l10]]),V.fn g2 l3 l4,V.vec .plain (some 3) l5,V.int n6] st)))) (Za (O.call g2 (l3++[V.int
 n0,V.agg [V.int n1,V.int n2,V.vec .plain (some 3) l3_1]]++l4) st) fun r14=>Zx r14.fst (fun v15=>ZM v15 fun c16=>Zd c16 fun v17 c18=>Zc [CT.int,
 CT.int,CT.slice (some 3)] v17 fun n19 n20 l21=>Zd c18 fun v22 c23=>Zl v22 fun b24=>Zn c23 (bc (!b24) (some (Ex.ret,[V.vec .plain (some 3) [],V.bool false],
 r14.snd)) (gd (true&&roomFor Tryz.prog 27 (l1.length+[V.agg [V.int n19,V.int n20,V.vec .plain (some 3) l21]].length)) (O.2 218 3 [V.int
 (IntKind.i64.wrap (n0+1)),V.vec Mode.grow (some 3) (l1++[V.agg [V.int n19,V.int n20,V.vec .plain (some 3) l21]]),V.fn g2 l3 l4,V.vec .plain (some 3) l5,V.int n6]
 r14.snd)))) fun p25=>none))) (some (Ex.exit 0,[V.vec Mode.grow (some 3) l1],st)):=by kernel_rfl
theorem zhu(O:Oracle)(i k h ar k0 h0:Int)(xs ys:List V)(g:Nat)(a b:List V)(st:St):Ze Tryz.prog cfg O 219 [.int i, .agg [.int k, .int h, .vec .plain (some 3) xs], .cptr none (.int ar), .cptr (some 3) (.agg [.int k0, .int h0, .vec .plain (some 3) ys]), .cptr none (.fn g a b)] st=
 bc (k0==1) (bc (i==IntKind.i64.wrap ((↑ys.length:Int)-1)) (Za (O.call 205 [V.agg [V.int k,V.int h,V.vec .plain (some 3) xs],V.int (IntKind.i64.wrap (ar+
 1)),V.fn g a b] st) fun r1=>Zx r1.fst (fun v2=>ZM v2 fun c3=>Zd c3 fun v4 c5=>Zc [CT.int,CT.int,CT.slice (some 3)] v4 fun n6 n7 l8=>Zd c5 fun v9
 c10=>Zl v9 fun b11=>Zn c10 (Xb (List.length st) (V.tup [V.agg [V.int n6,V.int n7,V.vec .plain (some 3) l8],V.bool b11]) r1.snd)) fun p12=>none) (Za (O.call
 205 [V.agg [V.int k,V.int h,V.vec .plain (some 3) xs],V.int ar,V.fn g a b] st) fun r13=>Zx r13.fst (fun v14=>ZM v14 fun c15=>Zd c15 fun v16 c17=>
 Zc [CT.int,CT.int,CT.slice (some 3)] v16 fun n18 n19 l20=>Zd c17 fun v21 c22=>Zl v21 fun b23=>Zn c22 (Xb (List.length st) (V.tup [V.agg [V.int n18,V.int
 n19,V.vec .plain (some 3) l20],V.bool b23]) r13.snd)) fun p24=>none)) (bc (k0==3) (bc (i==IntKind.i64.wrap ((↑ys.length:Int)-1)) (Za (O.call 205 [V.agg
 [V.int k,V.int h,V.vec .plain (some 3) xs],V.int (IntKind.i64.wrap (ar+1)),V.fn g a b] st) fun r25=>Zx r25.fst (fun v26=>ZM v26 fun c27=>Zd c27 fun v28 c29
 =>Zc [CT.int,CT.int,CT.slice (some 3)] v28 fun n30 n31 l32=>Zd c29 fun v33 c34=>Zl v33 fun b35=>Zn c34 (Xb (List.length st) (V.tup [V.agg [V.int n30,
 V.int n31,V.vec .plain (some 3) l32],V.bool b35]) r25.snd)) fun p36=>none) (Za (O.call 205 [V.agg [V.int k,V.int h,V.vec .plain (some 3) xs],V.int ar,V.fn g
 a b] st) fun r37=>Zx r37.fst (fun v38=>ZM v38 fun c39=>Zd c39 fun v40 c41=>Zc [CT.int,CT.int,CT.slice (some 3)] v40 fun n42 n43 l44=>Zd c41 fun v45
 c46=>Zl v45 fun b47=>Zn c46 (Xb (List.length st) (V.tup [V.agg [V.int n42,V.int n43,V.vec .plain (some 3) l44],V.bool b47]) r37.snd)) fun p48=>none)) (Za
 (O.call 205 [V.agg [V.int k,V.int h,V.vec .plain (some 3) xs],V.int ar,V.fn g a b] st) fun r49=>Zx r49.fst (fun v50=>ZM v50 fun c51=>Zd c51 fun v52
 c53=>Zc [CT.int,CT.int,CT.slice (some 3)] v52 fun n54 n55 l56=>Zd c53 fun v57 c58=>Zl v57 fun b59=>Zn c58 (Xb (List.length st) (V.tup [V.agg [V.int
 n54,V.int n55,V.vec .plain (some 3) l56],V.bool b59]) r49.snd)) fun p60=>none)):=by kernel_rfl
theorem zkG(O:Oracle)(n0:Int)(n1:Int)(l2:(List V)):Ze Tryz.prog cfg O 191 [.agg [.int n0, .int n1, .vec .plain (some 3) l2]] []=
 Za (Zj O 82 [V.agg [V.int n0,V.int n1,V.vec .plain (some 3) l2]]) fun r1=>Zl r1 fun b2=>some (Out.ret (V.bool !b2),[]):=by kernel_rfl
theorem zgl(O:Oracle)(n0:Int)(st:St):Ze Tryz.prog cfg O 193 [.int n0] st=
 gd (below (List.length st) (V.ifc 35 (V.int n0))&&Zt (List.length st) (List.take (List.length st) st)) (some (Out.panic (V.ifc 35 (V.int n0)),
 List.take (List.length st) st)):=by kernel_rfl
theorem zkH(O:Oracle)(l0:(List V))(n1:Int):Ze Tryz.prog cfg O 194 [.agg [.vec .plain (some 3) l0, .int n1]] []=
 Za (O.loop 194 3 [V.int 0,V.loc true (some 2) (V.agg [V.vec Mode.grow (some 3) [],V.int (IntKind.i64.wrap (n1+1))]),V.vec .plain (some 3) l0,V.loc true (some 2)
 (V.agg [V.vec Mode.full (some 3) [],V.int 0]),V.int (↑l0.length:Int)] []) fun r1=>Xk r1.fst none none (fun i2=>bc (i2.beq 0) (Zd r1.snd.fst fun v3 c4=>Y0 (some
 2) v3 fun d5 v6=>Zd c4 fun v7 c8=>Y0 (some 2) v7 fun d9 v10=>Xc v10 fun c11=>Zd c11 fun v12 c13=>Xr (some 3) v12 fun l14=>Zd c13 fun v15 c16=>
 Zm v15 fun n17=>Zn c16 (Zn c8 (gd (true&&roomFor Tryz.prog 27 (l14.length+1)) (gd (below 0 (V.agg [V.vec .plain (some 3) (l14++[V.agg [V.int 4,V.int 0,
 V.vec .plain (some 3) []]]),V.int n17])&&Zt 0 []) (some (Out.ret (V.agg [V.vec .plain (some 3) (l14++[V.agg [V.int 4,V.int 0,V.vec .plain (some 3) []]]),V.int n17]),
 [])))))) none) fun v18=>none:=by kernel_rfl
theorem zco(O:Oracle)(n0:Int)(l1:(List V))(n2:Int)(l3:(List V))(v4:V)(n5:Int):Zz Tryz.prog cfg O 194 3 [.int n0, .loc true (some 2) (.agg [.vec .grow (some 3) l1, .int n2]), .vec .plain (some 3) l3, .loc true (some 2) v4, .int n5] []=
 bc (decide (n0<n5)) (gd (decide (0≤n0)&&decide (n0<(↑l3.length:Int))) (Zc [CT.int,CT.int,CT.slice (some 3)] (ZP l3 n0) fun n1 n2_1 l3_1=>Za (Zj O
 177 [V.agg [V.int n1,V.int n2_1,V.vec .plain (some 3) l3_1],V.int 1,V.int 0]) fun r4=>Zc [CT.int,CT.int,CT.slice (some 3)] r4 fun n5_1 n6 l7=>gd (true&&
 roomFor Tryz.prog 27 (l1.length+[V.agg [V.int n5_1,V.int n6,V.vec .plain (some 3) l7]].length)) (O.2 194 3 [V.int (IntKind.i64.wrap (n0+1)),V.loc true
 (some 2) (V.agg [V.vec Mode.grow (some 3) (l1++[V.agg [V.int n5_1,V.int n6,V.vec .plain (some 3) l7]]),V.int n2]),V.vec .plain (some 3) l3,V.loc true (some 2) v4,V.int n5]
 []))) (some (Ex.exit 0,[V.loc true (some 2) v4,V.loc true (some 2) (V.agg [V.vec Mode.grow (some 3) l1,V.int n2])],[])):=by kernel_rfl
theorem YP(O:Oracle)(r0:Nat)(n1:Int)(n2:Int)(l3:(List V))(l4:(List V))(st:St):Ze Tryz.prog cfg O 195 [.ref r0 0, .agg [.int n1, .int n2, .vec .plain (some 3) l3], .vec .plain (some 3) l4] st=
 bc ((↑l4.length:Int)==0) (Xb (List.length st) (V.agg [V.int n1,V.int n2,V.vec .plain (some 3) l3]) st) (bc (n1==3) (gd (true&&decide (0<(↑l4.length:Int))) (Zc
 [CT.int,CT.int,CT.slice (some 3)] (ZP l4 0) fun n1 n2 l3_1=>Za (Zj O 82 [V.agg [V.int n1,V.int n2,V.vec .plain (some 3) l3_1]]) fun r4=>Zl r4 fun b5=>
 bc (!b5) (Za (O.call 193 [V.int 4] st) fun r6=>Zx r6.fst (fun v7=>ZM v7 fun c8=>Zn c8 (gd (true&&decide (0<(↑l3.length:Int))) (Zc [CT.int,
 CT.int,CT.slice (some 3)] (ZP l3 0) fun n9 n10 l11=>gd (true&&decide (1≤(↑l4.length:Int))) (Za (O.call 169 [V.ref r0 0,V.agg [V.int n9,V.int n10,
 V.vec .plain (some 3) l11],V.agg [V.vec .plain (some 3) (List.drop 0 (List.take 1 l4)),V.int 0]] r6.snd) fun r12=>Zx r12.fst (fun v13=>Zc [CT.int,CT.int,CT.slice
 (some 3)] v13 fun n14 n15 l16=>gd (true&&decide (1≤(↑l4.length:Int))&&decide ((↑l4.length:Int)≤(↑l4.length:Int))) (Za (O.call 195 [V.ref r0 0,
 V.agg [V.int n14,V.int n15,V.vec .plain (some 3) l16],V.vec .plain (some 3) (List.drop 1 (List.take (↑l4.length:Int).toNat l4))] r12.snd) fun r17=>Zx r17.fst (fun v18=>
 Zc [CT.int,CT.int,CT.slice (some 3)] v18 fun n19 n20 l21=>Xb (List.length st) (V.agg [V.int n19,V.int n20,V.vec .plain (some 3) l21]) r17.snd) fun p22=>gd (below
 (List.length st) p22&&Zt (List.length st) (List.take (List.length st) r17.snd)) (some (Out.panic p22,List.take (List.length st) r17.snd)))) fun p23=>gd (true&&decide
 (1≤(↑l4.length:Int))&&decide ((↑l4.length:Int)≤(↑l4.length:Int))) (gd (below (List.length st) p23&&Zt (List.length st) (List.take (List.length st) r12.snd))
 (some (Out.panic p23,List.take (List.length st) r12.snd))))))) fun p24=>gd (below (List.length st) p24&&Zt (List.length st) (List.take (List.length st) r6.snd)) (some
 (Out.panic p24,List.take (List.length st) r6.snd))) (gd (true&&decide (0<(↑l3.length:Int))) (Zc [CT.int,CT.int,CT.slice (some 3)] (ZP l3 0) fun n25 n26 l27=>gd
 (true&&decide (1≤(↑l4.length:Int))) (Za (O.call 169 [V.ref r0 0,V.agg [V.int n25,V.int n26,V.vec .plain (some 3) l27],V.agg [V.vec .plain (some 3)
 (List.drop 0 (List.take 1 l4)),V.int 0]] st) fun r28=>Zx r28.fst (fun v29=>Zc [CT.int,CT.int,CT.slice (some 3)] v29 fun n30 n31 l32=>gd (true&&decide (1≤
 (↑l4.length:Int))&&decide ((↑l4.length:Int)≤(↑l4.length:Int))) (Za (O.call 195 [V.ref r0 0,V.agg [V.int n30,V.int n31,V.vec .plain (some 3) l32],
 V.vec .plain (some 3) (List.drop 1 (List.take (↑l4.length:Int).toNat l4))] r28.snd) fun r33=>Zx r33.fst (fun v34=>Zc [CT.int,CT.int,CT.slice (some 3)] v34 fun n35
 n36 l37=>Xb (List.length st) (V.agg [V.int n35,V.int n36,V.vec .plain (some 3) l37]) r33.snd) fun p38=>gd (below (List.length st) p38&&Zt (List.length st) (List.take
 (List.length st) r33.snd)) (some (Out.panic p38,List.take (List.length st) r33.snd)))) fun p39=>gd (true&&decide (1≤(↑l4.length:Int))&&decide ((↑l4.length:Int)≤
 (↑l4.length:Int))) (gd (below (List.length st) p39&&Zt (List.length st) (List.take (List.length st) r28.snd)) (some (Out.panic p39,List.take (List.length st)
 r28.snd)))))))) (bc (n1==4) (Za (Zj O 77 [V.vec .plain none [V.vec .plain (some 3) l3,V.vec .plain (some 3) l4]]) fun r40=>Yp (some 3)
 r40 fun l41=>Xb (List.length st) (V.agg [V.int n1,V.int n2,V.vec .plain (some 3) l41]) st) (bc (n1==5) (Za (Zj O 77 [V.vec .plain none
 [V.vec .plain (some 3) l3,V.vec .plain (some 3) l4]]) fun r42=>Yp (some 3) r42 fun l43=>Xb (List.length st) (V.agg [V.int n1,V.int n2,V.vec .plain (some 3) l43]) st)
 (bc (n1==2) (Za (Zj O 77 [V.vec .plain none [V.vec .plain (some 3) l3,V.vec .plain (some 3) l4]]) fun r44=>Yp (some 3) r44 fun l45=>
 Xb (List.length st) (V.agg [V.int n1,V.int n2,V.vec .plain (some 3) l45]) st) (Za (O.call 193 [V.int 3] st) fun r46=>Zx r46.fst (fun v47=>ZM v47 fun c48
 =>Zn c48 (Xb (List.length st) (V.agg [V.int n1,V.int n2,V.vec .plain (some 3) l3]) r46.snd)) fun p49=>gd (below (List.length st) p49&&Zt (List.length st)
 (List.take (List.length st) r46.snd)) (some (Out.panic p49,List.take (List.length st) r46.snd))))))):=by kernel_rfl
theorem zpM(O:Oracle)(l0:(List V))(n1:Int)(n2:Int):Ze Tryz.prog cfg O 196 [.agg [.vec .plain (some 3) l0, .int n1], .int n2] []=
 bc (decide (n2<(↑l0.length:Int))) (gd (decide (0≤IntKind.i64.wrap (IntKind.i64.wrap ((↑l0.length:Int)-1)-n2))&&decide (IntKind.i64.wrap (IntKind.i64.wrap
 ((↑l0.length:Int)-1)-n2)<(↑l0.length:Int))) (Zc [CT.int,CT.int,CT.slice (some 3)] (ZP l0 (IntKind.i64.wrap (IntKind.i64.wrap ((↑l0.length:Int)-1)-n2)))
 fun n1 n2 l3=>Za (Zj O 85 [V.agg [V.int n1,V.int n2,V.vec .plain (some 3) l3]]) fun r4=>Zc [CT.int,CT.int,CT.slice (some 3)] r4 fun n5 n6 l7=>gd
 (below 0 (V.agg [V.int n5,V.int n6,V.vec .plain (some 3) l7])&&true) (some (Out.ret (V.agg [V.int n5,V.int n6,V.vec .plain (some 3) l7]),[])))) (some (Out.ret (V.agg [V.int
 4,V.int (IntKind.i64.wrap (IntKind.i64.wrap (n2-(↑l0.length:Int))+n1)),V.vec .plain (some 3) []]),[])):=by kernel_rfl
theorem Jw(O:Oracle)(l0:(List V)):Ze Tryz.prog cfg O 77 [.vec .plain none l0] []=
 Za (O.loop 77 3 [V.int 0,V.int 0,V.vec .plain none l0,V.vec .plain none l0,V.int (↑l0.length:Int)] []) fun r1=>Xk r1.fst none none (fun
 i2=>bc (i2.beq 0) (Zd r1.snd.fst fun v3 c4=>Yp none v3 fun l5=>Zd c4 fun v6 c7=>Zm v6 fun n8=>Zn c7 (gd (decide (0≤n8)&&roomFor Tryz.prog
 27 n8.toNat&&true&&true&&true) (Za (O.loop 77 11 [V.int 0,V.vec Mode.grow (some 3) [],V.vec .plain none l5,V.int (↑l5.length
 :Int)] r1.snd.snd) fun r9=>Xk r9.fst none none (fun i10=>bc (i10.beq 2) (Zd r9.snd.fst fun v11 c12=>Xr (some 3) v11 fun l13=>Zn c12 (gd (below 0 (V.vec
 .plain (some 3) l13)&&Zt 0 []) (some (Out.ret (V.vec .plain (some 3) l13),[])))) none) fun v14=>none))) none) fun v15=>none:=by kernel_rfl
theorem Yz(O:Oracle)(n0:Int)(n1:Int)(l2:(List V))(l3:(List V))(n4:Int):Zz Tryz.prog cfg O 77 3 [.int n0, .int n1, .vec .plain none l2, .vec .plain none l3, .int n4] []=
 bc (decide (n0<n4)) (gd (decide (0≤n0)&&decide (n0<(↑l2.length:Int))) (Yp (some 3) (ZP l2 n0) fun l1=>bc (decide (IntKind.i64.wrap (n1+(↑l1.length:Int))<0))
 (some (Ex.panic (V.ifc 9 (V.str {data:= #[108,101,110,32,111,117,116,32,111,102,32,114,97,110,103,101]})),[V.vec .plain none l3,V.int
 (IntKind.i64.wrap (n1+(↑l1.length:Int)))],[])) (O.2 77 3 [V.int (IntKind.i64.wrap (n0+1)),V.int (IntKind.i64.wrap (n1+(↑l1.length:
 Int))),V.vec .plain none l2,V.vec .plain none l3,V.int n4] []))) (some (Ex.exit 0,[V.vec .plain none l3,V.int n1],[])):=by kernel_rfl
theorem Yw(O:Oracle)(n0:Int)(l1:(List V))(l2:(List V))(n3:Int):Zz Tryz.prog cfg O 77 11 [.int n0, .vec .grow (some 3) l1, .vec .plain none l2, .int n3] []=
 bc (decide (n0<n3)) (gd (decide (0≤n0)&&decide (n0<(↑l2.length:Int))) (Yp (some 3) (ZP l2 n0) fun l1_1=>gd (true&&roomFor Tryz.prog 27 (l1.length+
 l1_1.length)) (O.2 77 11 [V.int (IntKind.i64.wrap (n0+1)),V.vec Mode.grow (some 3) (l1++l1_1),V.vec .plain none l2,V.int n3] []))) (some
 (Ex.exit 2,[V.vec Mode.grow (some 3) l1],[])):=by kernel_rfl
end Go.Proofs.CL
namespace Go.Proofs.CL
open Go Go.AM
set_option maxRecDepth 20000
theorem zpN(O:Oracle)(n0:Int)(n1:Int)(l2:(List V)):Ze Tryz.prog cfg O 85 [.agg [.int n0, .int n1, .vec .plain (some 3) l2]] []=
 Za (O.loop 85 3 [V.int 0,V.vec Mode.grow (some 3) [],V.vec .plain (some 3) l2,V.loc true (some 3) (V.agg [V.int 0,V.int 0,V.vec Mode.full (some 3) []]),V.loc
 false (some 3) (V.agg [V.int n0,V.int n1,V.vec .plain (some 3) l2]),V.int (↑l2.length:Int)] []) fun r1=>Xk r1.fst none none (fun i2=>bc (i2.beq 0) (Zd r1.snd.fst
 fun v3 c4=>Y0 (some 3) v3 fun d5 v6=>Zd c4 fun v7 c8=>Xr (some 3) v7 fun l9=>Zd c8 fun v10 c11=>Y0 (some 3) v10 fun d12 v13=>Zc [CT.int,
 CT.int,CT.slice (some 3)] (bif d12 then Zs v13 else v13) fun n14 n15 l16=>Zn c11 (gd (below 0 (V.agg [V.int n14,V.int n15,V.vec .plain (some 3) l9])&&Zt 0 [])
 (some (Out.ret (V.agg [V.int n14,V.int n15,V.vec .plain (some 3) l9]),[])))) none) fun v17=>none:=by kernel_rfl
theorem zeO(O:Oracle)(n0:Int)(l1:(List V))(l2:(List V))(v3:V)(n4:Int)(n5:Int)(l6:(List V))(n7:Int):Zz Tryz.prog cfg O 85 3 [.int n0, .vec .grow (some 3) l1, .vec .plain (some 3) l2, .loc true (some 3) v3, .loc false (some 3) (.agg [.int n4, .int n5, .vec .plain (some 3) l6]), .int n7] []=
 bc (decide (n0<n7)) (gd (decide (0≤n0)&&decide (n0<(↑l2.length:Int))) (Zc [CT.int,CT.int,CT.slice (some 3)] (ZP l2 n0) fun n1 n2 l3=>Za (Zj O
 85 [V.agg [V.int n1,V.int n2,V.vec .plain (some 3) l3]]) fun r4=>Zc [CT.int,CT.int,CT.slice (some 3)] r4 fun n5_1 n6 l7=>gd (true&&roomFor Tryz.prog
 27 (l1.length+[V.agg [V.int n5_1,V.int n6,V.vec .plain (some 3) l7]].length)) (O.2 85 3 [V.int (IntKind.i64.wrap (n0+1)),V.vec Mode.grow (some 3) (l1++
 [V.agg [V.int n5_1,V.int n6,V.vec .plain (some 3) l7]]),V.vec .plain (some 3) l2,V.loc true (some 3) v3,V.loc false (some 3) (V.agg [V.int n4,V.int n5,V.vec .plain (some 3)
 l6]),V.int n7] []))) (some (Ex.exit 0,[V.loc true (some 3) v3,V.vec Mode.grow (some 3) l1,V.loc false (some 3) (V.agg [V.int n4,V.int n5,V.vec .plain (some 3) l6])],[])):=by kernel_rfl
end Go.Proofs.CL
namespace Go.Ama
open Go Go.AM
def upV(b f ar h:Int):Int:=if f+ar≤h then IntKind.i64.wrap (h+b)else h
def bindsB(k:Int):Bool:=decide (k=1)||decide (k=3)
mutual
def upT(b f ar:Int):T→T
 | .mk k h as_=> .mk k (if k=4 then upV b f ar h else h) (ups b f ar (bindsB k) as_)
def ups(b f ar:Int)(bd:Bool):List T→List T
 |[]=> []
 |a::as_=>upT b f (if bd&&as_.isEmpty then ar+1 else ar) a::ups b f ar bd as_
end
theorem JS(b f ar:Int)(bd:Bool): ∀l,(ups b f ar bd l).length=l.length
 |[]=>rfl
 |a::as_=>by simp only[ups,List.length_cons,JS b f ar bd as_]
theorem zqE(b f ar:Int)(bd:Bool): ∀(l:List T) (i:Nat) (h:i<l.length),(ups b f ar bd l)[i]'(by rw[JS];exact h)=upT b f (if bd&&decide (i+1=l.length)then ar+1 else ar) l[i]
 |a::as_,0,h=>by
  cases as_ with
  |nil=>simp[ups]
  |cons c cs=>simp[ups]
 |a::as_,i+1,h=>by
  simp only[ups,List.getElem_cons_succ]
  rw[zqE b f ar bd as_ i (by simpa using h)]
  simp
mutual
theorem zmC(b f:Int): ∀(t:T) (ar:Int),(upT b f ar t).size=t.size
 | .mk k h as_,ar=>by simp only[upT,T.size];rw[zlz b f as_ ar]
theorem zlz(b f:Int): ∀(l:List T) (ar:Int) {bd:Bool},sizes (ups b f ar bd l)=sizes l
 |[],ar,bd=>rfl
 |a::as_,ar,bd=>by simp only[ups,sizes];rw[zmC b f a,zlz b f as_]
end
theorem zgm: ∀{ts:List T} {t:T},t∈ts→t.depth≤Yq ts
 |a::as_,t,h=>by
  simp only[Yq]
  rcases List.mem_cons.1 h with rfl|h
  ·omega
  ·have:=zgm h;omega
def upP(t:T)(b f:Int):T:=if may t&&(decide (0≤b)&&(decide (b≤1048576)&&(decide (0≤f)&&decide (f≤1048576))))then upT b f 0 t else t
theorem ztc(t:T)(b f:Int):(upP t b f).size=t.size:=by
 unfold upP;split
 ·exact zmC b f t 0
 ·rfl
def zj8(l:List T):List T:=l.map (fun t=>upP t 1 0)++[.mk 4 0 []]
def zcP(s:Int):Int:=IntKind.i64.wrap (s+1)
def ofT(l:List T)(s i:Int):T:=if i<l.length then l.getD (l.length-1-i.toNat) (.mk 0 0 [])else .mk 4 (IntKind.i64.wrap (IntKind.i64.wrap (i-l.length)+s)) []
inductive Job where
 |ap (n:Nat) (t:T) (l:List T) (s:Int)
 |ar (n:Nat) (bd:Bool) (ts:List T) (l:List T) (s:Int)
 |sp (n:Nat) (t:T) (as_:List T)
inductive Oj where
 |t (t:T) (n:Nat)
 |l (ts:List T) (n:Nat)
 |e (e:Int)
def belowL'(bd:Bool)(as_:List T)(l:List T):List T:=if bd&&as_.isEmpty then zj8 l else l
def belowS'(bd:Bool)(as_:List T)(s:Int):Int:=if bd&&as_.isEmpty then zcP s else s
inductive Big:Job→Oj→Prop where
 |apLimit {n:Nat} {t:T} {l:List T} {s:Int} (h:40000<n+1) (hn:n≤40001):Big (.ap n t l s) (.e 4)
 |apErr {n:Nat} {t:T} {l:List T} {s:Int} {e:Int} (h:n+1≤40000) (ht:t.size≤1099511627776) (b:Big (.ar (n+1) (bindsB t.k) t.args l s) (.e e)):Big (.ap n t l s) (.e e)
 |apNode {n:Nat} {t:T} {l:List T} {s:Int} {as_:List T} {m:Nat} (h:n+1≤40000) (ht:t.size≤1099511627776) (hk:t.k≠4) (b:Big (.ar (n+1) (bindsB t.k) t.args l s) (.l as_ m)):Big (.ap n t l s) (.t (.mk t.k t.h as_) m)
 |apVar {n:Nat} {t:T} {l:List T} {s:Int} {as_:List T} {m:Nat} {o:Oj} (h:n+1≤40000) (ht:t.size≤1099511627776) (hl:sizes l≤1099511627776) (hk:t.k=4) (h0:0≤t.h) (h1:I64 t.h) (b:Big (.ar (n+1) (bindsB t.k) t.args l s) (.l as_ m)) (c:Big (.sp m (ofT l s t.h) as_) o):Big (.ap n t l s) o
 |arNil {n:Nat} {bd:Bool} {l:List T} {s:Int}:Big (.ar n bd [] l s) (.l [] n)
 |arErr {n:Nat} {bd:Bool} {a:T} {as_ l:List T} {s:Int} {e:Int} (hl:sizes l≤1099511627776) (b:Big (.ap n a (belowL' bd as_ l) (belowS' bd as_ s)) (.e e)):Big (.ar n bd (a::as_) l s) (.e e)
 |arErr2 {n m:Nat} {bd:Bool} {a a':T} {as_ l:List T} {s:Int} {e:Int} (hl:sizes l≤1099511627776) (b:Big (.ap n a (belowL' bd as_ l) (belowS' bd as_ s)) (.t a' m)) (c:Big (.ar m bd as_ l s) (.e e)):Big (.ar n bd (a::as_) l s) (.e e)
 |arCons {n m k:Nat} {bd:Bool} {a a':T} {as_ as' l:List T} {s:Int} (hl:sizes l≤1099511627776) (b:Big (.ap n a (belowL' bd as_ l) (belowS' bd as_ s)) (.t a' m)) (c:Big (.ar m bd as_ l s) (.l as' k)):Big (.ar n bd (a::as_) l s) (.l (a'::as') k)
 |spNil {n:Nat} {t:T}:Big (.sp n t []) (.t t n)
 |spMay {n:Nat} {t a:T} {as_:List T} (hk:t.k=3) (ha:a.size≤1099511627776) (hm:may a=false):Big (.sp n t (a::as_)) (.e 4)
 |spErr {n:Nat} {t a b0:T} {r as_:List T} {e:Int} (hk:t.k=3) (ha:a.size≤1099511627776) (hm:may a=true) (hb:t.args=b0::r) (b:Big (.ap n b0 [a] 0) (.e e)):Big (.sp n t (a::as_)) (.e e)
 |spLam {n m:Nat} {t a b0 u:T} {r as_:List T} {o:Oj} (hk:t.k=3) (ha:a.size≤1099511627776) (hm:may a=true) (hb:t.args=b0::r) (b:Big (.ap n b0 [a] 0) (.t u m)) (c:Big (.sp m u as_) o):Big (.sp n t (a::as_)) o
 |spApp {n:Nat} {t a:T} {as_:List T} (hk:t.k=2∨t.k=4∨t.k=5) (hs:t.args.length+as_.length≤1099511627776):Big (.sp n t (a::as_)) (.t (.mk t.k t.h (t.args++a::as_)) n)
 |spType {n:Nat} {t a:T} {as_:List T} (h3:t.k≠3) (h2:t.k≠2) (h4:t.k≠4) (h5:t.k≠5):Big (.sp n t (a::as_)) (.e 3)
end Go.Ama
namespace Go.Ama
open Go.AM (T)
structure D where
 name:Bytes
 t:T
structure PS where
 l:List Tok
 s:List D
 e:Int
abbrev T0:T:= .mk 0 0 []
abbrev typ:Bytes:=[116,121,112,101]
def PS.fail(n:Int)(s:PS):PS:=if s.e=0 then {s with e:=n}else s
def PS.is(c:Bytes)(s:PS):Bool:=decide (s.e=0)&&match s.l with|[]=>false|t::_=>decide (t.1=1)&&decide (t.2=c)
def PS.named(s:PS):Bool:=decide (s.e=0)&&match s.l with|[]=>false|t::_=>decide (t.1=0)
def PS.token(b:Bool)(s:PS):Bytes×PS:=if b then match s.l with|[]=>([],s)|t::r=>(t.2,{s with l:=r})else([],s.fail 8)
def PS.take(c:Bytes)(s:PS):PS:=(s.token (s.is c)).2
def PS.name(s:PS):Bytes×PS:=s.token s.named
def zvV(x:Bytes):List Bytes→Option Nat
 |[]=>none
 |y::l=>if y=x then some 0 else(zvV x l).map (· +1)
def idx(x:Bytes):List D→Option Nat
 |[]=>none
 |d::l=>if d.name=x then some 0 else(idx x l).map (· +1)
def PS.head(x:Bytes)(bs:List Bytes)(s:PS):T×PS:=
 match zvV x bs with
 |some i=>(.mk 4 i [],s)
 |none=>
  match idx x s.s with
  |none=>(T0,s.fail 2)
  |some i=>(.mk (if(split ((s.s.map (·.t)).getD i T0)).2.k=0 then 2 else 5) i [],s)
def PS.alone(s:PS):PS:=if s.named||s.is [40]then s.fail 8 else s
section
variable(term:List Bytes→PS→T×PS)
def PS.inner(bs:List Bytes)(s:PS):T×PS:=let r:=term bs (s.take [40]);(r.1,r.2.take [41])
def PS.atom(bs:List Bytes)(s:PS):T×PS:=
 if s.is [40]then s.inner term bs
 else
  let r:=s.name
  if r.1=typ then(T0,r.2.fail 8)else r.2.head r.1 bs
def PS.args(bs:List Bytes):Nat→PS→List T×PS
 |0,s=>([],s)
 |m+1,s=>if s.named||s.is [40]then
   let r:=s.atom term bs
   let q:=PS.args bs m r.2
   (r.1::q.1,q.2)
  else([],s)
def PS.atoms(bs:List Bytes)(s:PS):T×PS:=
 if s.is [40]then
  let r:=s.inner term bs
  (r.1,r.2.alone)
 else
  let r:=s.name
  if r.2.e≠0 then(T0,r.2)
  else if r.1=typ then(T0,r.2.alone)
  else
   let h:=r.2.head r.1 bs
   let q:=PS.args term bs h.2.l.length h.2
   (.mk h.1.k h.1.h q.1,q.2)
end
def PS.term:Nat→List Bytes→PS→T×PS
 |0,_,s=>(T0,s.fail 4)
 |n+1,bs,s=>
  if s.is [123]then
   let x:=(s.take [123]).name
   let a:=PS.term n bs (x.2.take [58])
   let b:=PS.term n (x.1::bs) (a.2.take [125])
   (.mk 1 0 [a.1,b.1],b.2)
  else if s.is [91]then
   let x:=(s.take [91]).name
   let b:=PS.term n (x.1::bs) (x.2.take [93])
   (.mk 3 0 [b.1],b.2)
  else s.atoms (PS.term n) bs
def PS.whole(s:PS):T×PS:=
 let r:=s.term 120 []
 (r.1,if may r.1 then r.2 else r.2.fail 4)
end Go.Ama
namespace Go.Ama
open Go Go.AM
def zdM(d:D):V:= .agg [.str (ba d.name), .int d.t.k, .int d.t.h, .vec .plain (some 3) (Zf d.t.args)]
def Ye(l:List D):List V:=l.map zdM
def encS(l:List Bytes):List V:=l.map fun b=> .str (ba b)
@[simp] theorem QK(l:List D):(Ye l).length=l.length:=by simp[Ye]
@[simp] theorem zrA:Ye []=[]:=rfl
@[simp] theorem zuF(l:List Bytes):(encS l).length=l.length:=by simp[encS]
theorem zfq{l:List D}{i:Nat}(h:i<l.length):ZP (Ye l) (i:Int)=zdM l[i]:=by
 simp[ZP,Ye,List.getD_eq_getElem?_getD,List.getElem?_map,h]
theorem zj9(n:Nat)(d:D):below n (zdM d)=true:=by simp[zdM,below,Zk,Q9]
theorem Zq(n:Nat): ∀l:List D,Zk n (Ye l)=true
 |[]=>rfl
 |d::l=>by
  have:=Zq n l
  simp only[Ye]at this
  simp[Ye,Zk,zj9,this]
def zw4(m:AM.Mode)(s:PS):Res:= .box [.vec .plain (some 2) (J2 s.l), .vec m (some 4) (Ye s.s), .int s.e]
end Go.Ama
namespace Go.Ama
open Go Go.AM
section
variable{R:Type}
@[simp] theorem zwU(a b:Int)(l:List V)(K:Int→Int→List V→Option R):Zc (R:=R) [CT.int,CT.int,CT.slice (some 3)] (.agg [.int a, .int b, .vec .plain (some 3) l]) K=K a b l:=rfl
@[simp] theorem zhv(t:T)(K:Int→Int→List V→Option R):Zc (R:=R) [CT.int,CT.int,CT.slice (some 3)] (enc t) K=K t.k t.h (Zf t.args):=by cases t;rfl
@[simp] theorem zwV(a b:Int)(l:List V)(K:Int→Int→List V→Option R):onCells (R:=R) [CT.int,CT.int,CT.slice (some 3)] [.int a, .int b, .vec .plain (some 3) l] K=K a b l:=rfl
@[simp] theorem zwK(t:Tok)(K:Int→ByteArray→Option R):Zc (R:=R) [CT.int,CT.str] (zhs t) K=K t.1 (ba t.2):=rfl
@[simp] theorem zwW(s:ByteArray)(a b:Int)(l:List V)(K:ByteArray→Int→Int→List V→Option R):Zc (R:=R) [CT.str,CT.int,CT.int,CT.slice (some 3)] (.agg [.str s, .int a, .int b, .vec .plain (some 3) l]) K=K s a b l:=rfl
@[simp] theorem zw5(d:D)(K:ByteArray→Int→Int→List V→Option R):Zc (R:=R) [CT.str,CT.int,CT.int,CT.slice (some 3)] (zdM d) K=K (ba d.name) d.t.k d.t.h (Zf d.t.args):=rfl
@[simp] theorem zvW(d:D)(K:Int→Int→List V→Option R):Xc (zdM d) (fun c=>gd (decide (4≤c.length)) (onCells (R:=R) [CT.int,CT.int,CT.slice (some 3)] (List.take 3 (List.drop 1 c)) K))=K d.t.k d.t.h (Zf d.t.args):=rfl
@[simp] theorem zwX(d:D)(K:ByteArray→Option R):Xc (zdM d) (fun c=>gd (decide (1≤c.length)) (zcY (AM.partOf c 0 none) K))=K (ba d.name):=rfl
@[simp] theorem zw6(v:V)(l:List V):ZP (v::l) 0=v:=rfl
@[simp] theorem zwx(b:Bool)(x:Option R):bc b x x=x:=by cases b<;>rfl
@[simp] theorem zl0(k h:Int)(l:List T):(T.mk k h l).args=l:=rfl
@[simp] theorem ztd(k h:Int)(l:List T):(T.mk k h l).k=k:=rfl
@[simp] theorem zte(k h:Int)(l:List T):(T.mk k h l).h=h:=rfl
@[simp] theorem zwY(t:Tok)(K:Int→Option R):Xc (zhs t) (fun c=>gd (decide (1≤c.length)) (Zm (AM.partOf c 0 none) K))=K t.1:=rfl
@[simp] theorem zwZ(t:Tok)(K:ByteArray→Option R):Xc (zhs t) (fun c=>gd (decide (2≤c.length)) (zcY (AM.partOf c 1 none) K))=K (ba t.2):=rfl
@[simp] theorem zw7(x:Res)(st:St)(K:Res→Option R):Zw (x::st) 0 K=K x:=rfl
@[simp] theorem zw8(x y:Res)(st:St)(K:Res→Option R):Zw (x::y::st) 1 K=K y:=rfl
@[simp] theorem zw9(m:AM.Mode)(s:PS)(K:List V→Option R):ZE (zw4 m s) K=K [.vec .plain (some 2) (J2 s.l), .vec m (some 4) (Ye s.s), .int s.e]:=rfl
@[simp] theorem cl0(sh:Sh)(l:List V)(b c:V):Zs (AM.partOf [.vec .plain sh l,b,c] 0 none)= .vec .plain sh l:=rfl
@[simp] theorem cl1(sh:Sh)(m:AM.Mode)(l:List V)(a c:V):Zs (AM.partOf [a, .vec m sh l,c] 1 none)= .vec .plain sh l:=by cases m<;>rfl
@[simp] theorem cl2(a b:V)(n:Int):Zs (AM.partOf [a,b, .int n] 2 none)= .int n:=rfl
@[simp] theorem zv7(a b c d:V):setCells [a,b,c] 0 [d]=[d,b,c]:=rfl
@[simp] theorem zv8(a b c d:V):setCells [a,b,c] 1 [d]=[a,d,c]:=rfl
@[simp] theorem zv9(a b c d:V):setCells [a,b,c] 2 [d]=[a,b,d]:=rfl
@[simp] theorem zvX(t:Tok)(r:List Tok):ZP (J2 (t::r)) 0=zhs t:=rfl
@[simp] theorem zua(t:Tok)(r:List Tok):J2 (t::r)=zhs t::J2 r:=rfl
@[simp] theorem zrB(r:List Tok):(J2 r).take r.length=J2 r:=by rw[←zj0 r,List.take_length]
@[simp] theorem zve(t:V)(r:List Tok):(t::J2 r).take (r.length+1)=t::J2 r:=by rw[List.take_succ_cons,zrB]
@[simp] theorem zwL(d:D)(K:Int→Int→List V→Option R):Xc (zdM d) (fun c=>gd (decide (4≤c.length)) (onCells (R:=R) [CT.int,CT.int,CT.slice (some 3)] (List.take 3 c.tail) K))=K d.t.k d.t.h (Zf d.t.args):=rfl
@[simp] theorem zvY(x:Bytes):((ba x).toList==[116,121,112,101])=decide (x=typ):=by rw[zht];by_cases h:x=typ<;>simp_all[typ]
@[simp] theorem zvZ(x:Bytes):((ba x).toList==ByteArray.toList {data:= #[116,121,112,101]})=decide (x=typ):=zvU x typ
@[simp] theorem zwM:V.str {data:= #[40]}=V.str (ba [40]):=rfl
@[simp] theorem zwN:V.str {data:= #[41]}=V.str (ba [41]):=rfl
@[simp] theorem zwO:V.str {data:= #[46]}=V.str (ba [46]):=rfl
@[simp] theorem zwP:V.str {data:= #[58]}=V.str (ba [58]):=rfl
@[simp] theorem zwQ:V.str {data:= #[91]}=V.str (ba [91]):=rfl
@[simp] theorem zwR:V.str {data:= #[93]}=V.str (ba [93]):=rfl
@[simp] theorem zwA:V.str {data:= #[123]}=V.str (ba [123]):=rfl
@[simp] theorem zwB:V.str {data:= #[125]}=V.str (ba [125]):=rfl
@[simp] theorem zxa:V.str {data:= #[]}=V.str (ba []):=rfl
@[simp] theorem zwC(t:T)(K:Int→Int→Option R):Zc (R:=R) [CT.int,CT.int,CT.nil (some 3)] (.agg [.int t.k, .int t.h, .vec .full (some 3) []]) K=K t.k t.h:=rfl
@[simp] theorem zwa(n:Nat):(1:Int)≤n+1:=by omega
@[simp] theorem zvA(n:Nat):(0:Int)<n+1:=by omega
@[simp] theorem zvB(n:Nat): ¬((n:Int)+1=0):=by omega
@[simp] theorem zwy(n:Nat):((n:Int)+1).toNat=n+1:=by omega
end
end Go.Ama
namespace Go.Proofs.CL
open Go Go.AM Go.Ama
theorem zl1: ∀t:T,t.size≤1099511627776→Ev 85 [enc t] (enc t):=by
 intro t
 induction t using T.ind with
 |_ k h xs ih=>
  intro hs
  simp only[T.size]at hs
  have hlen:=Zo xs
  unfold Ev
  rw[C,enc,zpN]
  have hl:=JP (n:=xs.length) (L:=fun i=>W.loop 85 3 [V.int (i:Nat),V.vec .grow (some 3) (Zf (xs.take i)),V.vec .plain (some 3) (Zf xs),V.loc true (some 3) (V.agg [V.int 0,V.int 0,V.vec Mode.full (some 3) []]),V.loc false (some 3) (V.agg [V.int k,V.int h,V.vec .plain (some 3) (Zf xs)]),V.int xs.length] [])
   (r:=some (Ex.exit 0,[V.loc true (some 3) (V.agg [V.int 0,V.int 0,V.vec Mode.full (some 3) []]),V.vec .grow (some 3) (Zf xs),V.loc false (some 3) (V.agg [V.int k,V.int h,V.vec .plain (some 3) (Zf xs)])],[]))
   (fun i hi=>by
    have hp:=(ih xs[i] (List.getElem_mem hi) (by have:=size_le (List.getElem_mem hi);omega)).p
    have hr:roomFor Tryz.prog 27 (i+1)=true:=zbU (by omega)
    show W.loop _ _ _ _=_
    rw[L,zeO]
    simp only[Zi,ZF hi,YJ,←Zb,hp,Za,zbj hi]
    rw[Zu ⟨by omega,by omega⟩]
    have hmin:min i xs.length=i:=by omega
    have hlt:decide ((i:Int)<xs.length)=true:=by simp;omega
    have h0:decide ((0:Int)≤i)=true:=by simp
    simp only[hlt,h0,Z4,Z6,Bool.and_self,zdH,zgi,List.length_singleton,List.length_take,hmin,hr,Zi,Bool.true_and,Int.natCast_add,Int.natCast_one])
   (by
    have hlt:decide ((xs.length:Int)<xs.length)=false:=by simp
    show W.loop _ _ _ _=_
    rw[L,zeO,hlt,List.take_length];rfl)
  have hl':W.loop 85 3 [V.int 0,V.vec .grow (some 3) [],V.vec .plain (some 3) (Zf xs),V.loc true (some 3) (V.agg [V.int 0,V.int 0,V.vec Mode.full (some 3) []]),V.loc false (some 3) (V.agg [V.int k,V.int h,V.vec .plain (some 3) (Zf xs)]),V.int xs.length] []=some (Ex.exit 0,[V.loc true (some 3) (V.agg [V.int 0,V.int 0,V.vec Mode.full (some 3) []]),V.vec .grow (some 3) (Zf xs),V.loc false (some 3) (V.agg [V.int k,V.int h,V.vec .plain (some 3) (Zf xs)])],[]):=hl
  simp only[Zi,hl',Zg,Js,Yk,zlx,znS,Yv,cond_false,zm6,zdH,zm5,zgi,below,Zk,Zt,Q9,Bool.and_self,Z6]
  rfl
theorem zub(b f h ar:Int)(h1:I64 (f+ar)):Ev 206 [.agg [.int b, .int f], .int h, .int ar] (.tup [.int (upV b f ar h), .bool true]):=by
 unfold Ev
 rw[C,ze4]
 rw[Zu h1]
 unfold upV
 by_cases hc:f+ar≤h
 ·have:decide (h≥f+ar)=true:=by simpa using hc
  simp[hc,Z4]
 ·have:decide (h≥f+ar)=false:=by simpa using hc
  simp[hc]
abbrev upF(b f:Int):V:= .fn 206 [.agg [.int b, .int f]] []
theorem zuc:cfg.pure 206=true:=by kernel_rfl
theorem zmD:cfg.pure 219=false:=by kernel_rfl
theorem zol(b f:Int)(hf:0≤f∧f≤1048576): ∀(t:T) (ar:Int) (st:St),t.size≤1099511627776→0≤ar→ar+t.depth≤1099511627776→
  W.call 205 [enc t, .int ar,upF b f] st=some (.ret (.tup [enc (upT b f ar t), .bool true]),st):=by
 intro t
 induction t using T.ind with
 |_ k h xs ih=>
  intro ar st hs h0 hd
  simp only[T.size,T.depth]at hs hd
  have hlen:=Zo xs
  have hdep: ∀x∈xs,x.depth≤Yq xs:=fun x hx=>zgm hx
  have h1: ∀(i:Nat) (hi:i<xs.length),W.call 219 [.int (i:Int),enc xs[i], .cptr none (.int ar), .cptr (some 3) (.agg [.int k, .int h, .vec .plain (some 3) (Zf xs)]), .cptr none (upF b f)] st=
    some (.ret (.tup [enc (upT b f (if bindsB k&&decide (i+1=xs.length)then ar+1 else ar) xs[i]), .bool true]),st):=by
   intro i hi
   have hx:=List.getElem_mem hi
   have hsz:=size_le hx
   have hdx:=hdep _ hx
   have c1:=ih xs[i] hx (ar+1) st (by omega) (by omega) (by omega)
   have c0:=ih xs[i] hx ar st (by omega) h0 (by omega)
   rw[C,Zb xs[i],zhu]
   rw[Zi,Zu (n:=ar+1) ⟨by omega,by omega⟩,Zu (n:=(xs.length:Int)-1) ⟨by omega,by omega⟩,←Zb]
   have hlast:((i:Int)==(xs.length:Int)-1)=decide (i+1=xs.length):=by rw[zaG];congr 1;apply propext;omega
   rw[hlast]
   unfold bindsB
   simp only[zaG]
   by_cases k1:k=1
   ·by_cases hl:i+1=xs.length
    ·simp[k1,hl,c1,Z3,←Zb]
    ·simp[k1,hl,c0,Z3,←Zb]
   ·by_cases k3:k=3
    ·by_cases hl:i+1=xs.length
     ·simp[k3,hl,c1,Z3,←Zb]
     ·simp[k3,hl,c0,Z3,←Zb]
    ·simp[k1,k3,c0,Z3,←Zb]
  have hul:(ups b f ar (bindsB k) xs).length=xs.length:=JS ..
  have hl:=JP (n:=xs.length) (L:=fun i=>W.loop 218 3 [V.int (i:Nat),V.vec .grow (some 3) (Zf ((ups b f ar (bindsB k) xs).take i)), .fn 219 [] [.cptr none (.int ar), .cptr (some 3) (.agg [.int k, .int h, .vec .plain (some 3) (Zf xs)]), .cptr none (upF b f)],V.vec .plain (some 3) (Zf xs),V.int xs.length] st)
   (r:=some (Ex.exit 0,[V.vec .grow (some 3) (Zf (ups b f ar (bindsB k) xs))],st))
   (fun i hi=>by
    have hp:=h1 i hi
    have hr:roomFor Tryz.prog 27 (i+1)=true:=zbU (by omega)
    have hi':i<(ups b f ar (bindsB k) xs).length:=by rw[hul];exact hi
    show W.loop _ _ _ _=_
    rw[L,QY,zbj hi',zqE b f ar (bindsB k) xs i hi]
    rw[Zu ⟨by omega,by omega⟩]
    have hmin:min i xs.length=i:=by omega
    have hlt:decide ((i:Int)<xs.length)=true:=by simp;omega
    have h0:decide ((0:Int)≤i)=true:=by simp
    simp[hlt,ZF hi,zmD,←Zb,hp,hr,hmin,hul,h0,hi])
   (by
    have hlt:decide ((xs.length:Int)<xs.length)=false:=by simp
    show W.loop _ _ _ _=_
    rw[L,QY,hlt,List.take_of_length_le (by omega)];rfl)
  have hl':W.loop 218 3 [V.int 0,V.vec .grow (some 3) [], .fn 219 [] [.cptr none (.int ar), .cptr (some 3) (.agg [.int k, .int h, .vec .plain (some 3) (Zf xs)]), .cptr none (upF b f)],V.vec .plain (some 3) (Zf xs),V.int xs.length] st=some (Ex.exit 0,[V.vec .grow (some 3) (Zf (ups b f ar (bindsB k) xs))],st):=hl
  have he:W.call 218 [.vec .plain (some 3) (Zf xs), .fn 219 [] [.cptr none (.int ar), .cptr (some 3) (.agg [.int k, .int h, .vec .plain (some 3) (Zf xs)]), .cptr none (upF b f)]] st=some (.ret (.tup [.vec .plain (some 3) (Zf (ups b f ar (bindsB k) xs)), .bool true]),st):=by
   rw[C,zdm]
   simp[hl',Z3]
  rw[C,enc,zj7]
  by_cases k4:k=4
  ·have hu:=(zub b f h ar ⟨by omega,by omega⟩).p
   simp[k4,zuc,hu,Z3,upT,enc]at he⊢
   simp[he,Z3]
  ·simp[k4,he,Z3,upT,enc]
end Go.Proofs.CL
namespace Go.Ama
open Go Go.AM
mutual
def okB(B:Int):T→Prop
 | .mk k h ys=>(0≤h∧h≤B)∧(k=3→ys≠ [])∧zaI B ys
def zaI(B:Int):List T→Prop
 |[]=>True
 |a::ys=>okB B a∧zaI B ys
end
theorem XQ(B:Int): ∀l,zaI B l↔ ∀x∈l,okB B x
 |[]=>by simp[zaI]
 |a::l=>by simp[zaI,XQ B l]
mutual
theorem Z5{B B':Int}(h:B≤B'): ∀t,okB B t→okB B' t
 | .mk k hd ys,⟨h1,h2,h3⟩=>⟨⟨h1.1,by omega⟩,h2,zcp h ys h3⟩
theorem zcp{B B':Int}(h:B≤B'): ∀l,zaI B l→zaI B' l
 |[],_=>trivial
 |a::l,⟨h1,h2⟩=>⟨Z5 h a h1,zcp h l h2⟩
end
mutual
theorem ztf{B:Int}(hB:B≤9223372036854775000)(f:Int): ∀(t:T) (ar:Int),okB B t→okB (B+1) (upT 1 f ar t)
 | .mk k hd ys,ar,⟨h1,h2,h3⟩=>by
  simp only[upT,okB]
  refine⟨?_, ?_,zqF hB f ys ar h3⟩
  ·split
   ·unfold upV
    split
    ·rw[Zu ⟨by omega,by omega⟩];omega
    ·omega
   ·omega
  ·intro hk e
   have:=congrArg List.length e
   rw[JS]at this
   exact h2 hk (List.length_eq_zero_iff.1 (by simpa using this))
theorem zqF{B:Int}(hB:B≤9223372036854775000)(f:Int): ∀(l:List T) (ar:Int) {bd:Bool},zaI B l→zaI (B+1) (ups 1 f ar bd l)
 |[],ar,bd,_=>trivial
 |a::l,ar,bd,⟨h1,h2⟩=>by simp only[ups,zaI];exact⟨ztf hB f a _ h1,zqF hB f l ar h2⟩
end
theorem zud{B:Int}(hB:B≤9223372036854775000){t:T}(h:okB B t):okB (B+1) (upP t 1 0):=by
 unfold upP;split
 ·exact ztf hB 0 t 0 h
 ·exact Z5 (by omega) t h
def bnd(β:Int)(n:Nat):Int:=β+n*2097152
def ZY(β:Int):Prop:=0≤β∧β≤4611686018427387904
def okL(B:Int)(l:List T):Prop:= ∀x∈l,okB B x∧x.size≤4000
theorem zhw{B:Int}: ∀{l:List T},okL B l→sizes l≤l.length*4000
 |[],_=>by simp[sizes]
 |a::l,h=>by
  have h1:=(h a (by simp)).2
  have h2:=zhw (l:=l) fun x hx=>h x (by simp[hx])
  simp only[sizes,List.length_cons];omega
def Inv(β:Int):Job→Prop
 | .ap n t l s=>n≤40000∧t.size≤160040000∧okB (bnd β n) t∧okL (bnd β n) l∧l.length≤200+n∧0≤s∧s≤1048576+n
 | .ar n _ ts l s=>n≤40000∧sizes ts≤160040000∧zaI (bnd β n) ts∧okL (bnd β n-1) l∧l.length+1≤200+n∧0≤s∧s+1≤1048576+n
 | .sp n t ys=>n≤40000∧t.size≤160040000∧sizes ys≤160040000∧okB (bnd β n) t∧zaI (bnd β n) ys
def zwc(β:Int):Job→Oj→Prop
 | .ap n _ _ _, .t u m=>n<m∧m≤40000∧u.size≤4001*(m-n)∧okB (bnd β m) u
 | .ar n _ ts _ _, .l ys m=>n≤m∧m≤40000∧ys.length=ts.length∧sizes ys≤4001*(m-n)∧zaI (bnd β m) ys
 | .sp n t ys, .t u m=>n≤m∧m≤40000∧u.size≤t.size+sizes ys+4001*(m-n)∧okB (bnd β m) u
 |_, .e _=>True
 |_,_=>False
def zpO:Job→Nat
 | .ap n _ _ _=>2*(40002-n)
 | .ar n _ _ _ _=>2*(40002-n)+1
 | .sp n _ _=>2*(40002-n)+1
theorem Y4{t:T}(h:may t=true):t.size≤4000:=by
 unfold may at h
 simp only[Bool.and_eq_true,decide_eq_true_eq]at h
 exact h.2.1
theorem zcq{β:Int}{n m:Nat}(h:n≤m):bnd β n≤bnd β m:=by unfold bnd;omega
theorem zpP{β:Int}(hβ:ZY β){n:Nat}(h:n≤40000):bnd β n≤4611686118427387904:=by obtain⟨h1,h2⟩:=hβ;unfold bnd;omega
theorem zvf{β:Int}(hβ:ZY β){n:Nat}:0≤bnd β n:=by obtain⟨h1,h2⟩:=hβ;unfold bnd;omega
theorem zrC{β:Int}(hβ:ZY β){n:Nat}{bd:Bool}{ys l:List T}{s:Int}(hn:n≤40000)(hl:okL (bnd β n-1) l)(hlen:l.length+1≤200+n)(h0:0≤s)(hs:s+1≤1048576+n):
  okL (bnd β n) (belowL' bd ys l)∧(belowL' bd ys l).length≤200+n∧0≤belowS' bd ys s∧belowS' bd ys s≤1048576+n:=by
 have hb:=zpP hβ hn
 have hb0:0≤bnd β n:=zvf hβ
 unfold belowL' belowS'
 split
 ·refine⟨fun x hx=> ?_, ?_, ?_, ?_⟩
  ·simp only[zj8,List.mem_append,List.mem_map,List.mem_singleton]at hx
   rcases hx with⟨y,hy,rfl⟩|rfl
   ·obtain⟨h1,h2⟩:=hl y hy
    have:=zud (B:=bnd β n-1) (by omega) h1
    rw[show bnd β n-1+1=bnd β n by omega]at this
    exact⟨this,by rw[ztc];exact h2⟩
   ·exact⟨⟨⟨by omega,hb0⟩,by simp,trivial⟩,by simp[T.size,sizes]⟩
  ·simp[zj8];omega
  ·unfold zcP;rw[Zu ⟨by omega,by omega⟩];omega
  ·unfold zcP;rw[Zu ⟨by omega,by omega⟩];omega
 ·refine⟨fun x hx=> ?_,by omega,h0,by omega⟩
  obtain⟨h1,h2⟩:=hl x hx
  exact⟨Z5 (by omega) x h1,h2⟩
theorem zwd{β:Int}(hβ:ZY β){n:Nat}(hn:n≤40000){l:List T}{s i:Int}(hl:okL (bnd β n) l)(h0:0≤s)(hs:s≤1048576+n)(hi:0≤i)(hi2:i≤bnd β n):okB (bnd β (n+1)) (ofT l s i)∧(ofT l s i).size≤4000:=by
 have hb:=zpP hβ hn
 unfold ofT
 split
 ·rename_i h
  have hj:l.length-1-i.toNat<l.length:=by omega
  rw[List.getD_eq_getElem?_getD,List.getElem?_eq_getElem hj]
  obtain⟨h1,h2⟩:=hl _ (List.getElem_mem hj)
  exact⟨Z5 (zcq (Nat.le_succ n)) _ h1,h2⟩
 ·rename_i h
  rw[Zu (n:=i-l.length) ⟨by omega,by omega⟩,Zu ⟨by omega,by omega⟩]
  refine⟨⟨⟨by omega, ?_⟩,by simp,trivial⟩,by simp[T.size,sizes]⟩
  have:bnd β (n+1)=bnd β n+2097152:=by unfold bnd;omega
  omega
theorem total{β:Int}(hβ:ZY β): ∀(N:Nat) (j:Job),zpO j<N→Inv β j→ ∃o,Big j o∧zwc β j o:=by
 intro N
 induction N with
 |zero=>intro j h;omega
 |succ N ih=>
  intro j hj hI
  cases j with
  |ap n t l s=>
   obtain⟨hn,hsz,hok,hl,hlen,h0,hs⟩:=hI
   by_cases hlim:n+1≤40000
   rotate_left
   ·exact⟨_, .apLimit (by omega) (by omega),trivial⟩
   have hsl:=zhw hl
   cases t with
   |mk k h ys=>
    simp only[T.size]at hsz
    obtain⟨⟨hh0,hh1⟩,hk3,hys⟩:=hok
    have hb1:bnd β (n+1)=bnd β n+2097152:=by unfold bnd;omega
    obtain⟨o,hB,hP⟩:=ih (.ar (n+1) (bindsB k) ys l s) (by simp only[zpO]at hj⊢;omega) ⟨hlim,by omega,zcp (by omega) ys hys,fun x hx=>⟨Z5 (by omega) x (hl x hx).1,(hl x hx).2⟩,by omega,h0,by omega⟩
    cases o with
    |t _ _=>exact hP.elim
    |e e=>exact⟨_, .apErr hlim (by simp only[T.size];omega) hB,trivial⟩
    |l zs m=>
     obtain⟨p1,p2,p3,p4,p5⟩:=hP
     have hbm:bnd β n≤bnd β m:=zcq (by omega)
     by_cases hk:k=4
     ·obtain⟨q1,q2⟩:=zwd hβ (by omega) hl h0 hs hh0 hh1
      have hbm1:bnd β (n+1)≤bnd β m:=zcq p1
      obtain⟨o,hB2,hP2⟩:=ih (.sp m (ofT l s h) zs) (by simp only[zpO]at hj⊢;omega) ⟨p2,by omega,by omega,Z5 hbm1 _ q1,p5⟩
      have hbn:=zpP hβ (n:=n) (by omega)
      cases o with
      |l _ _=>exact hP2.elim
      |e e=>exact⟨_, .apVar hlim (by simp only[T.size];omega) (by omega) hk hh0 ⟨by simp only[T.h];omega,by simp only[T.h];omega⟩ hB hB2,trivial⟩
      |t u m2=>
       obtain⟨r1,r2,r3,r4⟩:=hP2
       exact⟨_, .apVar hlim (by simp only[T.size];omega) (by omega) hk hh0 ⟨by simp only[T.h];omega,by simp only[T.h];omega⟩ hB hB2,by omega,r2,by omega,r4⟩
     ·refine⟨_, .apNode hlim (by simp only[T.size];omega) hk hB,by omega,p2, ?_, ?_⟩
      ·simp only[T.size,T.k,T.h];omega
      ·refine⟨⟨hh0,by simp only[T.h];omega⟩,fun e he=> ?_,p5⟩
       subst he
       exact hk3 e (List.length_eq_zero_iff.1 (by simpa using p3.symm))
  |ar n bd ts l s=>
   obtain⟨hn,hsz,hok,hl,hlen,h0,hs⟩:=hI
   have hsl:=zhw hl
   cases ts with
   |nil=>exact⟨_, .arNil,Nat.le_refl _,hn,rfl,by simp[sizes],trivial⟩
   |cons a ts=>
    simp only[sizes]at hsz
    obtain⟨ha,hts⟩:=hok
    obtain⟨g1,g2,g3,g4⟩:=zrC hβ (bd:=bd) (ys:=ts) hn hl hlen h0 hs
    obtain⟨o,hB,hP⟩:=ih (.ap n a (belowL' bd ts l) (belowS' bd ts s)) (by simp only[zpO]at hj⊢;omega) ⟨hn,by omega,ha,g1,g2,g3,g4⟩
    cases o with
    |l _ _=>exact hP.elim
    |e e=>exact⟨_, .arErr (by omega) hB,trivial⟩
    |t u m=>
     obtain⟨p1,p2,p3,p4⟩:=hP
     have hbm:bnd β n≤bnd β m:=zcq (by omega)
     obtain⟨o,hB2,hP2⟩:=ih (.ar m bd ts l s) (by simp only[zpO]at hj⊢;omega) ⟨p2,by omega,zcp hbm ts hts,fun x hx=>⟨Z5 (by omega) x (hl x hx).1,(hl x hx).2⟩,by omega,h0,by omega⟩
     cases o with
     |t _ _=>exact hP2.elim
     |e e=>exact⟨_, .arErr2 (by omega) hB hB2,trivial⟩
     |l zs m2=>
      obtain⟨r1,r2,r3,r4,r5⟩:=hP2
      exact⟨_, .arCons (by omega) hB hB2,by omega,r2,by simp[r3],by simp only[sizes];omega,Z5 (zcq r1) u p4,r5⟩
  |sp n t ys=>
   obtain⟨hn,hsz,hys,hok,hoy⟩:=hI
   cases ys with
   |nil=>exact⟨_, .spNil,Nat.le_refl _,hn,by simp[sizes],hok⟩
   |cons a ys=>
    simp only[sizes]at hys
    obtain⟨ha,hoy⟩:=hoy
    cases t with
    |mk k h zs=>
     simp only[T.size]at hsz
     obtain⟨hh,hk3,hzs⟩:=hok
     by_cases hk:k=3
     ·cases hm:may a with
      |false=>exact⟨_, .spMay hk (by omega) hm,trivial⟩
      |true=>
       obtain⟨b0,r,hb⟩: ∃b0 r,zs=b0::r:=by
        cases zs with
        |nil=>exact absurd rfl (hk3 hk)
        |cons b r=>exact⟨b,r,rfl⟩
       subst hb
       simp only[sizes]at hsz
       obtain⟨o,hB,hP⟩:=ih (.ap n b0 [a] 0) (by simp only[zpO]at hj⊢;omega) ⟨hn,by omega,hzs.1,fun x hx=>by simp at hx;subst hx;exact⟨ha,Y4 hm⟩,by simp;omega,by omega,by omega⟩
       cases o with
       |l _ _=>exact hP.elim
       |e e=>exact⟨_, .spErr hk (by omega) hm rfl hB,trivial⟩
       |t u m=>
        obtain⟨p1,p2,p3,p4⟩:=hP
        obtain⟨o,hB2,hP2⟩:=ih (.sp m u ys) (by simp only[zpO]at hj⊢;omega) ⟨p2,by omega,by omega,p4,zcp (zcq (by omega)) ys hoy⟩
        cases o with
        |l _ _=>exact hP2.elim
        |e e=>exact⟨_, .spLam hk (by omega) hm rfl hB hB2,trivial⟩
        |t w m2=>
         obtain⟨r1,r2,r3,r4⟩:=hP2
         exact⟨_, .spLam hk (by omega) hm rfl hB hB2,by omega,r2,by simp only[T.size,sizes];omega,r4⟩
     ·by_cases hk2:k=2∨k=4∨k=5
      ·have hz:=Zo zs
       have hy:=Zo ys
       refine⟨_, .spApp hk2 (by simp only[T.args];omega),Nat.le_refl _,hn, ?_, ?_⟩
       ·simp only[T.size,T.k,T.h,T.args,zcN,sizes];omega
       ·refine⟨hh,fun e=>absurd e hk, ?_⟩
        rw[XQ]
        intro x hx
        simp only[T.args,List.mem_append,List.mem_cons]at hx
        rcases hx with hx|rfl|hx
        ·exact(XQ _ _).1 hzs x hx
        ·exact ha
        ·exact(XQ _ _).1 hoy x hx
      ·simp only[not_or]at hk2
       exact⟨_, .spType hk hk2.1 hk2.2.1 hk2.2.2,trivial⟩
end Go.Ama
namespace Go.Ama
open Go Go.AM
theorem Big.det{j:Job}{o:Oj}(h:Big j o): ∀o',Big j o'→o=o':=by
 induction h with
 |apLimit h hn=>intro o' h';cases h'<;>first|rfl|omega
 |apErr h ht b ih=>
  intro o' h';cases h' with
  |apLimit h2 _=>omega
  |apErr _ _ b2=>cases ih _ b2;rfl
  |apNode _ _ _ b2=>cases ih _ b2
  |apVar _ _ _ _ _ _ b2 _=>cases ih _ b2
 |apNode h ht hk b ih=>
  intro o' h';cases h' with
  |apLimit h2 _=>omega
  |apErr _ _ b2=>cases ih _ b2
  |apNode _ _ _ b2=>cases ih _ b2;rfl
  |apVar _ _ _ hk2 _ _ b2 _=>exact absurd hk2 hk
 |apVar h ht hl hk h0 h1 b c ihb ihc=>
  intro o' h';cases h' with
  |apLimit h2 _=>omega
  |apErr _ _ b2=>cases ihb _ b2
  |apNode _ _ hk2 b2=>exact absurd hk hk2
  |apVar _ _ _ _ _ _ b2 c2=>cases ihb _ b2;exact ihc _ c2
 |arNil=>intro o' h';cases h';rfl
 |arErr hl b ih=>
  intro o' h';cases h' with
  |arErr _ b2=>cases ih _ b2;rfl
  |arErr2 _ b2 _=>cases ih _ b2
  |arCons _ b2 _=>cases ih _ b2
 |arErr2 hl b c ihb ihc=>
  intro o' h';cases h' with
  |arErr _ b2=>cases ihb _ b2
  |arErr2 _ b2 c2=>cases ihb _ b2;cases ihc _ c2;rfl
  |arCons _ b2 c2=>cases ihb _ b2;cases ihc _ c2
 |arCons hl b c ihb ihc=>
  intro o' h';cases h' with
  |arErr _ b2=>cases ihb _ b2
  |arErr2 _ b2 c2=>cases ihb _ b2;cases ihc _ c2
  |arCons _ b2 c2=>cases ihb _ b2;cases ihc _ c2;rfl
 |spNil=>intro o' h';cases h';rfl
 |spMay hk ha hm=>
  intro o' h';cases h' with
  |spMay _ _ _=>rfl
  |spErr _ _ hm2 _ _=>rw[hm]at hm2;cases hm2
  |spLam _ _ hm2 _ _ _=>rw[hm]at hm2;cases hm2
  |spApp hk2 _=>omega
  |spType h3 _ _ _=>exact absurd hk h3
 |spErr hk ha hm hb b ih=>
  intro o' h';cases h' with
  |spMay _ _ hm2=>rw[hm]at hm2;cases hm2
  |spErr _ _ _ hb2 b2=>rw[hb]at hb2;cases hb2;cases ih _ b2;rfl
  |spLam _ _ _ hb2 b2 _=>rw[hb]at hb2;cases hb2;cases ih _ b2
  |spApp hk2 _=>omega
  |spType h3 _ _ _=>exact absurd hk h3
 |spLam hk ha hm hb b c ihb ihc=>
  intro o' h';cases h' with
  |spMay _ _ hm2=>rw[hm]at hm2;cases hm2
  |spErr _ _ _ hb2 b2=>rw[hb]at hb2;cases hb2;cases ihb _ b2
  |spLam _ _ _ hb2 b2 c2=>rw[hb]at hb2;cases hb2;cases ihb _ b2;exact ihc _ c2
  |spApp hk2 _=>omega
  |spType h3 _ _ _=>exact absurd hk h3
 |spApp hk hs=>
  intro o' h';cases h' with
  |spMay h3 _ _=>omega
  |spErr h3 _ _ _ _=>omega
  |spLam h3 _ _ _ _ _=>omega
  |spApp _ _=>rfl
  |spType h3 h2 h4 h5=>omega
 |spType h3 h2 h4 h5=>
  intro o' h';cases h' with
  |spMay h6 _ _=>exact absurd h6 h3
  |spErr h6 _ _ _ _=>exact absurd h6 h3
  |spLam h6 _ _ _ _ _=>exact absurd h6 h3
  |spApp hk _=>omega
  |spType _ _ _ _=>rfl
def zeP(l:List T)(s:Int):Bool:=decide (l.length≤200)&&(decide (0≤s)&&(decide (s≤1048576)&&l.all may))
def zcr(o:Oj):T×Int:=
 match o with
 | .t t _=>if may t then(t,0)else(.mk 0 0 [],4)
 | .e e=>(.mk 0 0 [],e)
 | .l _ _=>(.mk 0 0 [],0)
def zpQ:Oj→Prop
 | .t t _=>t.size≤1099511627776
 |_=>True
def zdN(t:T)(l:List T)(s:Int)(o:Oj):T×Int:=if may t&&zeP l s then zcr o else(.mk 0 0 [],1)
open Classical in
noncomputable def zpR(t:T)(l:List T)(s:Int):Oj:=if h: ∃o,Big (.ap 0 t l s) o then Classical.choose h else .e 0
theorem zue{t:T}{l:List T}{s:Int}{o:Oj}(h:Big (.ap 0 t l s) o):zpR t l s=o:=by
 have hx: ∃o,Big (.ap 0 t l s) o:=⟨o,h⟩
 unfold zpR
 rw[dif_pos hx]
 exact(Classical.choose_spec hx).det _ h
noncomputable def YK(t:T)(l:List T)(s:Int):T×Int:=zdN t l s (zpR t l s)
theorem zrD{t:T}(h:may t=true):QR t=true:=by
 unfold may at h
 simp only[Bool.and_eq_true]at h
 exact h.1
theorem zrE{l:List T}{s:Int}(h:zeP l s=true):l.length≤200∧0≤s∧s≤1048576∧ ∀x∈l,may x=true:=by
 unfold zeP at h
 simp only[Bool.and_eq_true,decide_eq_true_eq,List.all_eq_true]at h
 exact⟨h.1,h.2.1,h.2.2.1,h.2.2.2⟩
theorem zqG{β:Int}(hβ:ZY β){t:T}{l:List T}{s:Int}(ht:okB β t)(hl: ∀x∈l,okB β x)(h1:may t=true)(h2:zeP l s=true):
  Big (.ap 0 t l s) (zpR t l s)∧zwc β (.ap 0 t l s) (zpR t l s)∧zpQ (zpR t l s):=by
 obtain⟨k1,k2,k3,k4⟩:=zrE h2
 have hb:bnd β 0=β:=by unfold bnd;omega
 obtain⟨o,hB,hP⟩:=total hβ _ (.ap 0 t l s) (Nat.lt_succ_self _) ⟨Nat.zero_le _,Nat.le_trans (Y4 h1) (by decide),by rw[hb];exact ht,fun x hx=>⟨by rw[hb];exact hl x hx,Y4 (k4 x hx)⟩,by omega,k2,by omega⟩
 rw[zue hB]
 refine⟨hB,hP, ?_⟩
 cases o with
 |t u m=>obtain⟨p1,p2,p3,p4⟩:=hP;show u.size≤_;omega
 |_=>trivial
end Go.Ama
namespace Go.Proofs.CL
open Go Go.AM
set_option maxRecDepth 20000
theorem Qt(O:Oracle)(l0:(List V))(g1:Nat)(l2:(List V))(l3:(List V))(st:St):Ze Tryz.prog cfg O 136 [.vec .plain (some 4) l0, .fn g1 l2 l3] st=
 Za (O.call 174 [V.vec .plain (some 4) l0,V.fn g1 l2 l3] st) fun r1=>Zx r1.fst (fun v2=>Zm v2 fun n3=>Xb (List.length st) (V.bool
 (decide (n3≥0))) r1.snd) fun p4=>none:=by kernel_rfl
theorem YQ(O:Oracle)(l0:(List V))(g1:Nat)(l2:(List V))(l3:(List V))(st:St):Ze Tryz.prog cfg O 73 [.vec .plain (some 3) l0, .fn g1 l2 l3] st=
 Za (O.call 122 [V.vec .plain (some 3) l0,V.fn g1 l2 l3] st) fun r1=>Zx r1.fst (fun v2=>Zm v2 fun n3=>Xb (List.length st) (V.bool
 (decide (n3≥0))) r1.snd) fun p4=>none:=by kernel_rfl
theorem QS(O:Oracle)(l0:(List V))(g1:Nat)(l2:(List V))(l3:(List V))(st:St):Ze Tryz.prog cfg O 174 [.vec .plain (some 4) l0, .fn g1 l2 l3] st=
 Za (O.loop 174 2 [V.int 0,V.vec .plain (some 4) l0,V.fn g1 l2 l3,V.int (↑l0.length:Int)] st) fun r1=>Xk r1.fst none (Zd r1.snd.fst
 fun v2 c3=>Zm v2 fun n4=>Zn c3 (Xb (List.length st) (V.int n4) r1.snd.snd)) (fun i5=>bc (i5.beq 0) (Zn r1.snd.fst (Xb (List.length st) (V.int (-1)) r1.snd.snd))
 none) fun v6=>none:=by kernel_rfl
theorem YR(O:Oracle)(n0:Int)(l1:(List V))(g2:Nat)(l3:(List V))(l4:(List V))(n5:Int)(st:St):Zz Tryz.prog cfg O 174 2 [.int n0, .vec .plain (some 4) l1, .fn g2 l3 l4, .int n5] st=
 bc (decide (n0<n5)) (gd (decide (0≤n0)&&decide (n0<(↑l1.length:Int))) (Zc [CT.str,CT.int,CT.int,CT.slice (some 3)] (ZP l1 n0) fun s1 n2 n3 l4_1=>bc
 (cfg.pure g2) (Za (Zj O g2 (l3++[V.agg [V.str s1,V.int n2,V.int n3,V.vec .plain (some 3) l4_1]]++l4)) fun r5=>Zl r5 fun b6=>bc b6 (some (Ex.ret,[V.int n0],
 st)) (O.2 174 2 [V.int (IntKind.i64.wrap (n0+1)),V.vec .plain (some 4) l1,V.fn g2 l3 l4,V.int n5] st)) (Za (O.call g2 (l3++[V.agg [V.str
 s1,V.int n2,V.int n3,V.vec .plain (some 3) l4_1]]++l4) st) fun r7=>Zx r7.fst (fun v8=>Zl v8 fun b9=>bc b9 (some (Ex.ret,[V.int n0],r7.snd)) (O.2
 174 2 [V.int (IntKind.i64.wrap (n0+1)),V.vec .plain (some 4) l1,V.fn g2 l3 l4,V.int n5] r7.snd)) fun p10=>none))) (some (Ex.exit 0,[],
 st)):=by kernel_rfl
theorem Xm(O:Oracle)(l0:(List V))(g1:Nat)(l2:(List V))(l3:(List V))(st:St):Ze Tryz.prog cfg O 122 [.vec .plain (some 3) l0, .fn g1 l2 l3] st=
 Za (O.loop 122 2 [V.int 0,V.vec .plain (some 3) l0,V.fn g1 l2 l3,V.int (↑l0.length:Int)] st) fun r1=>Xk r1.fst none (Zd r1.snd.fst
 fun v2 c3=>Zm v2 fun n4=>Zn c3 (Xb (List.length st) (V.int n4) r1.snd.snd)) (fun i5=>bc (i5.beq 0) (Zn r1.snd.fst (Xb (List.length st) (V.int (-1)) r1.snd.snd))
 none) fun v6=>none:=by kernel_rfl
theorem Yb(O:Oracle)(n0:Int)(l1:(List V))(g2:Nat)(l3:(List V))(l4:(List V))(n5:Int)(st:St):Zz Tryz.prog cfg O 122 2 [.int n0, .vec .plain (some 3) l1, .fn g2 l3 l4, .int n5] st=
 bc (decide (n0<n5)) (gd (decide (0≤n0)&&decide (n0<(↑l1.length:Int))) (Zc [CT.int,CT.int,CT.slice (some 3)] (ZP l1 n0) fun n1 n2 l3_1=>bc (cfg.pure g2)
 (Za (Zj O g2 (l3++[V.agg [V.int n1,V.int n2,V.vec .plain (some 3) l3_1]]++l4)) fun r4=>Zl r4 fun b5=>bc b5 (some (Ex.ret,[V.int n0],st)) (O.2
 122 2 [V.int (IntKind.i64.wrap (n0+1)),V.vec .plain (some 3) l1,V.fn g2 l3 l4,V.int n5] st)) (Za (O.call g2 (l3++[V.agg [V.int n1,V.int
 n2,V.vec .plain (some 3) l3_1]]++l4) st) fun r6=>Zx r6.fst (fun v7=>Zl v7 fun b8=>bc b8 (some (Ex.ret,[V.int n0],r6.snd)) (O.2
 122 2 [V.int (IntKind.i64.wrap (n0+1)),V.vec .plain (some 3) l1,V.fn g2 l3 l4,V.int n5] r6.snd)) fun p9=>none))) (some (Ex.exit 0,[],st)):=by kernel_rfl
end Go.Proofs.CL
namespace Go.Proofs.CL
open Go Go.AM Go.Ama
def zuG(g:Nat)(a b:List V)(p:Int→T→Bool):Prop:=
 (cfg.pure g=true∧ ∀i t,Zj W g (a++[.int i,enc t]++b)=some (.bool (p i t)))∨
 (cfg.pure g=false∧ ∀i t st,W.call g (a++[.int i,enc t]++b) st=some (.ret (.bool (p i t)),st))
theorem ztg{g:Nat}{a b:List V}{p:Int→T→Bool}(hg:zuG g a b p)(t:T)(hs:t.size≤1099511627776):W.call 129 [enc t, .fn g a b] []=some (.ret (.bool (zdl p 0 t)),[]):=by
 have hr: ∀(i:Int) (t:T) (s:Unit),W.round 1 129 4 [.ref 0 0, .cptr none (.fn g a b)] [.int i,enc t] [(fun _=> .box [.bool false]:Unit→Res) s, .loop 129 4 [.ref 0 0, .cptr none (.fn g a b)] .ready none]=
   some (if p i t=true then(true,[(fun _=> .box [.bool false]:Unit→Res) ((fun s=>s) s), .loop 129 4 [.ref 0 0, .cptr none (.fn g a b)] .ready none])else(false,[.box [.bool false], .loop 129 4 [.ref 0 0, .cptr none (.fn g a b)] .done (some .ret)])):=by
  intro i t s
  rw[Rd,Zb,zkC]
  rcases hg with⟨hp,hm⟩|⟨hp,hm⟩
  ·have hm:=hm i t
   rw[Zb]at hm
   rw[hp,Z4,hm,Zg,ZH]
   cases p i t<;>rfl
  ·have hm:=hm i t
   rw[Zb]at hm
   rw[hp,Z2,hm,Zg,ZV,ZH]
   cases p i t<;>rfl
 have hn:=zj6 (x:=fun _:Unit=> .box [.bool false]) (nx:=fun s=>s) (g:=p) hr t () hs
 rw[C]
 rw[Zb]at hn
 conv=>lhs;rw[Zb]
 rw[zpD,C,zgk,Zg,ZV,zgj]
 have hn':W.call 197 ([]++[V.yld (List.length [Res.box [V.bool false]])]++[V.cptr (some 3) (V.agg [V.int t.k,V.int t.h,V.vec .plain (some 3) (Zf t.args)])]) ([Res.box [V.bool false]]++[Res.loop 129 4 [V.ref 0 0,V.cptr none (V.fn g a b)] LSt.ready none])=_:=hn
 rw[hn',Zg]
 cases zdl p 0 t<;>rfl
theorem QL(t:T)(hs:t.size≤1099511627776):Ev 82 [enc t] (.bool (may t)):=by
 unfold Ev
 have hg:zuG 130 [] [] (fun _ t=>ztY t):= .inl ⟨rfl,fun i t=>by
  rw[Zb];exact(zr9 i t.k t.h t.args).p (by simp[Zk,below])⟩
 have ha:=ztg hg t hs
 rw[zta]at ha
 rw[C,Zb,zpC,←Zb,(zoh t hs).p,(zpJ t hs).p,ha]
 simp only[Zg,ZB,ZV,ZH,may]
 have e1:decide ((t.depth:Int)≤60)=decide (t.depth≤60):=decide_eq_decide.2 (by omega)
 have e2:decide ((t.size:Int)≤4000)=decide (t.size≤4000):=decide_eq_decide.2 (by omega)
 rw[e1,e2]
 cases decide (t.depth≤60)<;>cases decide (t.size≤4000)<;>simp[bc]
end Go.Proofs.CL
namespace Go.Proofs.CL
open Go Go.AM Go.Ama
theorem zkI(t:T)(b f:Int)(hs:t.size≤1099511627776):Ev 204 [enc t, .int b, .int f] (.bool (may t&&(decide (0≤b)&&(decide (b≤1048576)&&(decide (0≤f)&&decide (f≤1048576)))))):=by
 have h1:=(QL t hs).p
 unfold Ev
 rw[C,Zb,zoi,←Zb,h1]
 cases may t
 ·rfl
 ·by_cases a1:0≤b<;>by_cases a2:b≤1048576<;>by_cases a3:0≤f<;>simp[a1,a2,a3]
theorem zqH(t:T)(b f:Int)(hs:t.size≤1099511627776):Ev 177 [enc t, .int b, .int f] (enc (upP t b f)):=by
 have h1:=(zkI t b f hs).p
 have h2:=(zl1 t hs).p
 unfold Ev
 rw[C,Zb t,zpL,←Zb,h1]
 unfold upP
 by_cases hm:(may t&&(decide (0≤b)&&(decide (b≤1048576)&&(decide (0≤f)&&decide (f≤1048576)))))=true
 ·rw[hm]
  simp only[Bool.and_eq_true,decide_eq_true_eq]at hm
  have hd:(t.depth:Int)≤1099511627776:=by have:=zeN t;omega
  have h3:=zol b f hm.2.2.2 t 0 [] hs (by omega) (by omega)
  simp[h3,←Zb]
  simp[below,Zk,Zt,gd]
 ·have hm':(may t&&(decide (0≤b)&&(decide (b≤1048576)&&(decide (0≤f)&&decide (f≤1048576)))))=false:=by simpa using hm
  rw[hm']
  simp[h2,←Zb]
theorem zpS{g:Nat}{a b:List V}(hp:cfg.pure g=true){p:T→Bool}(xs:List T)(hs:xs.length≤1099511627776)(hg: ∀t∈xs,Zj W g (a++[enc t]++b)=some (.bool (p t)))(st:St):
  ∀(n i:Nat),xs.length-i=n→i≤xs.length→(∃j:Nat,(xs.drop i).any p=true∧W.loop 122 2 [.int (i:Int), .vec .plain (some 3) (Zf xs), .fn g a b, .int xs.length] st=some (.ret,[.int (j:Int)],st))∨
   ((xs.drop i).any p=false∧W.loop 122 2 [.int (i:Int), .vec .plain (some 3) (Zf xs), .fn g a b, .int xs.length] st=some (.exit 0,[],st)):=by
 intro n
 induction n with
 |zero=>
  intro i hn hi
  have:i=xs.length:=by omega
  subst this
  right
  refine⟨by simp, ?_⟩
  rw[L,Yb]
  simp
 |succ n ih=>
  intro i hn hi
  have hlt:i<xs.length:=by omega
  have hx:=hg xs[i] (List.getElem_mem hlt)
  have hd:xs.drop i=xs[i]::xs.drop (i+1):=List.drop_eq_getElem_cons hlt
  have hstep:W.loop 122 2 [.int (i:Int), .vec .plain (some 3) (Zf xs), .fn g a b, .int xs.length] st=
    bc (p xs[i]) (some (.ret,[.int (i:Int)],st)) (W.loop 122 2 [.int ((i+1:Nat):Int), .vec .plain (some 3) (Zf xs), .fn g a b, .int xs.length] st):=by
   rw[L,Yb]
   rw[Zu ⟨by omega,by omega⟩]
   have h1:(i:Int)<xs.length:=by omega
   simp[h1,ZF hlt,←Zb,hp,hx]at hx⊢
   simp[hx]
  rw[hstep,hd,List.any_cons]
  cases hpx:p xs[i]with
  |true=>exact .inl ⟨i,rfl,rfl⟩
  |false=>
   simp only[bc,Bool.false_or]
   exact ih (i+1) (by omega) (by omega)
theorem zbV{g:Nat}{a b:List V}(hp:cfg.pure g=true){p:T→Bool}(xs:List T)(hs:xs.length≤1099511627776)(hg: ∀t∈xs,Zj W g (a++[enc t]++b)=some (.bool (p t)))(st:St):
  W.call 73 [.vec .plain (some 3) (Zf xs), .fn g a b] st=some (.ret (.bool (xs.any p)),st):=by
 have h:=zpS hp xs hs hg st _ 0 rfl (Nat.zero_le _)
 rw[C,YQ,C,Xm]
 simp only[List.drop_zero,Int.natCast_zero]at h
 rcases h with⟨j,h1,h2⟩|⟨h1,h2⟩
 ·simp[h2,h1,Z3]
 ·simp[h2,h1,Z3]
theorem zrF:cfg.pure 191=true:=by kernel_rfl
theorem zpT(t:T)(hs:t.size≤1099511627776):Ev 191 [enc t] (.bool (!may t)):=by
 have h1:=(QL t hs).p
 unfold Ev
 rw[C,Zb,zkG,←Zb,h1]
 rfl
theorem zrG(l:List T)(s:Int)(hs:sizes l≤1099511627776):Ev 166 [.agg [.vec .plain (some 3) (Zf l), .int s]] (.bool (zeP l s)):=by
 have hc:=zbV (p:=fun t=> !may t) zrF (a:=[]) (b:=[]) l (by have:=Zo l;omega) (fun t ht=>(zpT t (by have:=size_le ht;omega)).p) []
 unfold Ev
 rw[C,zoj]
 unfold zeP
 have hall:(l.any fun t=> !may t)= !l.all may:=by
  simp[List.not_all_eq_any_not]
 by_cases a1:l.length≤200
 ·have a1':(l.length:Int)≤200:=by omega
  by_cases a2:0≤s<;>by_cases a3:s≤1048576<;>simp[a1,a1',a2,a3,hc,hall]
 ·have a1': ¬(l.length:Int)≤200:=by omega
  simp[a1,a1']
end Go.Proofs.CL
namespace Go.Proofs.CL
open Go Go.AM Go.Ama
abbrev J4(l:List T)(s:Int):V:= .agg [.vec .plain (some 3) (Zf l), .int s]
theorem Xj(n:Nat): ∀a b:List V,Zk n (a++b)=(Zk n a&&Zk n b)
 |[],b=>by simp[Zk]
 |x::a,b=>by simp[Zk,Xj n a b,Bool.and_assoc]
theorem zpU(l:List T)(s:Int)(hs:sizes l≤1099511627776):Ev 194 [J4 l s] (J4 (zj8 l) (zcP s)):=by
 have hlen:=Zo l
 have hl:=JP (n:=l.length) (L:=fun i=>W.loop 194 3 [V.int (i:Nat),V.loc true (some 2) (V.agg [V.vec .grow (some 3) (Zf ((l.map fun t=>upP t 1 0).take i)),V.int (zcP s)]),V.vec .plain (some 3) (Zf l),V.loc true (some 2) (V.agg [V.vec Mode.full (some 3) [],V.int 0]),V.int l.length] [])
  (r:=some (Ex.exit 0,[V.loc true (some 2) (V.agg [V.vec Mode.full (some 3) [],V.int 0]),V.loc true (some 2) (V.agg [V.vec .grow (some 3) (Zf (l.map fun t=>upP t 1 0)),V.int (zcP s)])],[]))
  (fun i hi=>by
   have hp:=(zqH l[i] 1 0 (by have:=size_le (List.getElem_mem hi);omega)).p
   have hr:roomFor Tryz.prog 27 (i+1)=true:=zbU (by omega)
   have hi':i<(l.map fun t=>upP t 1 0).length:=by simpa using hi
   show W.loop _ _ _ _=_
   rw[L,zco,zbj hi',List.getElem_map]
   rw[Zu ⟨by omega,by omega⟩]
   have hmin:min i l.length=i:=by omega
   have h1:(i:Int)<l.length:=by omega
   simp[h1,ZF hi,←Zb,hp,hr,hmin])
  (by
   show W.loop _ _ _ _=_
   rw[L,zco,List.take_of_length_le (by simp)]
   simp)
 have hl':W.loop 194 3 [V.int 0,V.loc true (some 2) (V.agg [V.vec .grow (some 3) [],V.int (zcP s)]),V.vec .plain (some 3) (Zf l),V.loc true (some 2) (V.agg [V.vec Mode.full (some 3) [],V.int 0]),V.int l.length] []=some (Ex.exit 0,[V.loc true (some 2) (V.agg [V.vec Mode.full (some 3) [],V.int 0]),V.loc true (some 2) (V.agg [V.vec .grow (some 3) (Zf (l.map fun t=>upP t 1 0)),V.int (zcP s)])],[]):=hl
 have hr:roomFor Tryz.prog 27 (l.length+1)=true:=zbU (by omega)
 unfold Ev
 rw[C,zkH]
 show Za (W.loop 194 3 [V.int 0,V.loc true (some 2) (V.agg [V.vec .grow (some 3) [],V.int (zcP s)]),V.vec .plain (some 3) (Zf l),V.loc true (some 2) (V.agg [V.vec Mode.full (some 3) [],V.int 0]),V.int ((Zf l).length:Nat)] []) _=_
 simp[hl',hr,zj8,J4,below,Zk,Zt,enc,Xj]
theorem zuf(l:List T)(s i:Int)(hs:sizes l≤1099511627776)(h0:0≤i)(h1:I64 i):Ev 196 [J4 l s, .int i] (enc (ofT l s i)):=by
 have hlen:=Zo l
 unfold Ev ofT
 rw[C,zpM]
 by_cases hi:i<l.length
 ·have hj:l.length-1-i.toNat<l.length:=by omega
  have hj2:(l.length:Int)-1-i=((l.length-1-i.toNat:Nat):Int):=by omega
  have ho:=(zl1 (l[l.length-1-i.toNat]) (by have:=size_le (List.getElem_mem hj);omega)).p
  have hd:l.getD (l.length-1-i.toNat) (.mk 0 0 [])=l[l.length-1-i.toNat]:=by rw[List.getD_eq_getElem?_getD,List.getElem?_eq_getElem hj];rfl
  rw[if_pos hi,hd,Zi,Zu (n:=(l.length:Int)-1) ⟨by omega,by omega⟩,hj2,Zu ⟨by omega,by omega⟩]
  have h2:((l.length-1-i.toNat:Nat):Int)<l.length:=by omega
  simp only[ZF hj]
  simp[hi,h2,←Zb,ho,below,Zk]
 ·rw[if_neg hi]
  have h2: ¬i<((Zf l).length:Int):=by rw[Zi];exact hi
  simp[hi,enc]
theorem zb9(xs ys:List T)(hs:xs.length+ys.length≤2199023255552):Ev 77 [.vec .plain none [.vec .plain (some 3) (Zf xs), .vec .plain (some 3) (Zf ys)]] (.vec .plain (some 3) (Zf (xs++ys))):=by
 have r1:roomFor Tryz.prog 27 (xs.length+ys.length)=true:=zbU hs
 have r2:roomFor Tryz.prog 27 xs.length=true:=zbU (by omega)
 have a1:IntKind.i64.wrap (0+(xs.length:Int))=xs.length:=by rw[Zu ⟨by omega,by omega⟩];omega
 have a2:IntKind.i64.wrap ((xs.length:Int)+ys.length)=(xs.length:Int)+ys.length:=Zu ⟨by omega,by omega⟩
 have w1:IntKind.i64.wrap (0+1)=1:=by decide
 have w2:IntKind.i64.wrap (1+1)=2:=by decide
 have n1: ¬(xs.length:Int)<0:=by omega
 have n2: ¬(xs.length:Int)+ys.length<0:=by omega
 have n3:(0:Int)≤(xs.length:Int)+ys.length:=by omega
 have t2:((xs.length:Int)+ys.length).toNat=xs.length+ys.length:=by omega
 have g0: ∀(a b:V),ZP [a,b] 0=a:=fun _ _=>rfl
 have g1: ∀(a b:V),ZP [a,b] 1=b:=fun _ _=>rfl
 unfold Ev
 rw[C,Jw]
 have L1:W.loop 77 3 [V.int 0,V.int 0,V.vec .plain none [.vec .plain (some 3) (Zf xs), .vec .plain (some 3) (Zf ys)],V.vec .plain none [.vec .plain (some 3) (Zf xs), .vec .plain (some 3) (Zf ys)],V.int 2] []=
   some (.exit 0,[V.vec .plain none [.vec .plain (some 3) (Zf xs), .vec .plain (some 3) (Zf ys)],V.int ((xs.length:Int)+ys.length)],[]):=by
  rw[L,Yz,g0,w1]
  simp only[Yp,if_true,Zi,a1]
  simp[n1]
  rw[L,Yz,g1,w2]
  simp only[Yp,if_true,Zi,a2]
  simp[n2]
  rw[L,Yz]
  simp
 have L2:W.loop 77 11 [V.int 0,V.vec .grow (some 3) [],V.vec .plain none [.vec .plain (some 3) (Zf xs), .vec .plain (some 3) (Zf ys)],V.int 2] []=some (.exit 2,[V.vec .grow (some 3) (Zf (xs++ys))],[]):=by
  rw[L,Yw,g0,w1]
  simp only[Yp,if_true,Zi]
  simp[r2]
  rw[L,Yw,g1,w2]
  simp only[Yp,if_true,Zi]
  simp[r1]
  rw[L,Yw]
  simp
 have e2:((([.vec .plain (some 3) (Zf xs), .vec .plain (some 3) (Zf ys)]:List V).length:Nat):Int)=2:=rfl
 rw[e2,L1]
 simp only[Zg,Js,Nat.beq_eq_true_eq,Yk,Yp,if_true,Yv,ZB,e2,L2]
 simp[n3,t2,r1,Xj,below,Zt,L2,e2]
end Go.Proofs.CL
namespace Go.Proofs.CL
open Go Go.AM Go.Ama
abbrev bx0:Res:= .box [.int 0, .int 0, .vec .full (some 3) []]
abbrev bx1:Res:= .box [.int 0]
abbrev wst(n:Nat):St:=[bx0,bx1, .box [.int (n:Int)]]
abbrev zrH(e:Int):V:= .ifc 35 (.int e)
section
variable{R:Type}
@[simp] theorem zhx(x y z:Res)(st:St)(K:Res→Option R):Zw (x::y::z::st) 2 K=K z:=rfl
@[simp] theorem JT(l:List V)(K:List V→Option R):ZE (.box l) K=K l:=rfl
@[simp] theorem zl2(n:Int):Zs (AM.partOf [.int n] 0 none)= .int n:=rfl
@[simp] theorem zqI(a b:V):setCells [a] 0 [b]=[b]:=rfl
@[simp] theorem zxb(l:List T)(s:Int)(K:List V→Int→Option R):Zc (R:=R) [CT.slice (some 3),CT.int] (.agg [.vec .plain (some 3) (Zf l), .int s]) K=K (Zf l) s:=rfl
end
theorem zhy(e:Int)(n:Nat):W.call 193 [.int e] (wst n)=some (.panic (zrH e),wst n):=by
 rw[C,zgl];rfl
def RT(o:Oj)(r:Option (Out×St)):Prop:=
 match o with
 | .t t m=>r=some (.ret (enc t),wst m)
 | .e e=> ∃m:Nat,r=some (.panic (zrH e),wst m)
 | .l _ _=>False
noncomputable def lp6(i:Nat)(k h:Int)(acc xs l:List T)(s:Int)(v:V)(n:Nat):Option (Ex×List V×St):=
 W.loop 169 6 [.int (i:Int), .loc true (some 3) (.agg [.int k, .int h, .vec .grow (some 3) (Zf acc)]), .ref 2 0, .loc false (some 2) (.agg [.vec .plain (some 3) (Zf l), .int s]), .loc false (some 3) (.agg [.int k, .int h, .vec .plain (some 3) (Zf xs)]), .vec .plain (some 3) (Zf xs), .loc true (some 3) v, .int xs.length] (wst n)
def Sat:Job→Oj→Prop
 | .ap n t l s,o=>RT o (W.call 169 [.ref 2 0,enc t,J4 l s] (wst n))
 | .sp n t ys,o=>RT o (W.call 195 [.ref 2 0,enc t, .vec .plain (some 3) (Zf ys)] (wst n))
 | .ar n bd ts l s,o=> ∀(k h:Int) (xs acc:List T) (i:Nat) (v:V),xs.drop i=ts→bd=bindsB k→acc.length=i→i≤xs.length→xs.length≤1099511627776→
   match o with
   | .l ys m=>lp6 i k h acc xs l s v n=some (.exit 0,[.loc true (some 3) v, .loc true (some 3) (.agg [.int k, .int h, .vec .grow (some 3) (Zf (acc++ys))]), .loc false (some 3) (.agg [.int k, .int h, .vec .plain (some 3) (Zf xs)]), .loc false (some 2) (.agg [.vec .plain (some 3) (Zf l), .int s]), .ref 2 0],wst m)
   | .e e=> ∃(m:Nat) (vs:List V),lp6 i k h acc xs l s v n=some (.panic (zrH e),vs,wst m)
   | .t _ _=>False
theorem zjA(i:Nat)(k h:Int)(acc xs l:List T)(s:Int)(v:V)(n:Nat)(hi:i<xs.length)(hx:xs.length≤1099511627776)(hl:sizes l≤1099511627776)(hacc:acc.length=i):
  ∃vs,lp6 i k h acc xs l s v n=Za (W.call 169 [.ref 2 0,enc xs[i],J4 (belowL' (bindsB k) (xs.drop (i+1)) l) (belowS' (bindsB k) (xs.drop (i+1)) s)] (wst n)) fun r=>Zx r.1 (fun u=>Zc [CT.int,CT.int,CT.slice (some 3)] u fun a b c=>
   W.loop 169 6 [.int ((i+1:Nat):Int), .loc true (some 3) (.agg [.int k, .int h, .vec .grow (some 3) (Zf acc++[.agg [.int a, .int b, .vec .plain (some 3) c]])]), .ref 2 0, .loc false (some 2) (.agg [.vec .plain (some 3) (Zf l), .int s]), .loc false (some 3) (.agg [.int k, .int h, .vec .plain (some 3) (Zf xs)]), .vec .plain (some 3) (Zf xs), .loc true (some 3) v, .int xs.length] r.2)
   fun p=>some (.panic p,vs,r.2):=by
 have hu:=(zpU l s hl).p
 have hr:roomFor Tryz.prog 27 (i+1)=true:=zbU (by omega)
 have hw:IntKind.i64.wrap ((i:Int)+1)=((i+1:Nat):Int):=by rw[Zu ⟨by omega,by omega⟩];omega
 have hw2:IntKind.i64.wrap ((xs.length:Int)-1)=(xs.length:Int)-1:=Zu ⟨by omega,by omega⟩
 have hlt:(i:Int)<xs.length:=by omega
 have hlast:((i:Int)==(xs.length:Int)-1)=(xs.drop (i+1)).isEmpty:=by
  rw[zaG]
  by_cases he:i+1=xs.length
  ·simp[he];omega
  ·have: ¬(i:Int)=(xs.length:Int)-1:=by omega
   simp[this];omega
 unfold lp6
 rw[L,JB]
 refine⟨[.loc true (some 3) v, .loc true (some 3) (.agg [.int k, .int h, .vec .plain (some 3) (Zf acc)]), .loc false (some 3) (.agg [.int k, .int h, .vec .plain (some 3) (Zf xs)]), .loc false (some 2) (.agg [.vec .plain (some 3) (Zf l), .int s]), .ref 2 0], ?_⟩
 rw[Zi,hw2,hw,hlast]
 unfold belowL' belowS' bindsB
 by_cases k1:k=1
 ·cases he:(xs.drop (i+1)).isEmpty
  ·simp[k1,he,hlt,ZF hi,←Zb,hr,hacc]
  ·simp[k1,he,hlt,ZF hi,←Zb,hr,hacc,hu]
 ·by_cases k3:k=3
  ·cases he:(xs.drop (i+1)).isEmpty
   ·simp[k3,he,hlt,ZF hi,←Zb,hr,hacc]
   ·simp[k3,he,hlt,ZF hi,←Zb,hr,hacc,hu]
  ·simp[k1,k3,hlt,ZF hi,←Zb,hr,hacc]
end Go.Proofs.CL
namespace Go.Proofs.CL
open Go Go.AM Go.Ama
theorem zug(k h:Int)(acc xs l:List T)(s:Int)(v:V)(n i:Nat)(hi:i=xs.length):lp6 i k h acc xs l s v n=some (.exit 0,[.loc true (some 3) v, .loc true (some 3) (.agg [.int k, .int h, .vec .grow (some 3) (Zf acc)]), .loc false (some 3) (.agg [.int k, .int h, .vec .plain (some 3) (Zf xs)]), .loc false (some 2) (.agg [.vec .plain (some 3) (Zf l), .int s]), .ref 2 0],wst n):=by
 subst hi
 unfold lp6
 rw[L,JB]
 simp
theorem zjB(n:Nat)(t:T)(l:List T)(s:Int)(hn:n+1≤40000)(ht:t.size≤1099511627776):
  W.call 169 [.ref 2 0,enc t,J4 l s] (wst n)=Za (lp6 0 t.k t.h [] t.args l s (.agg [.int 0, .int 0, .vec .full (some 3) []]) (n+1)) fun r12=>Xk r12.1 none none
   (fun i13=>bc (i13.beq 0) (Zd r12.2.1 fun v14 c15=>Y0 (some 3) v14 fun d16 v17=>Zd c15 fun v18 c19=>Y0 (some 3) v18 fun d20 v21=>Xc v21 fun c22=>
    Zd c22 fun v23 c24=>Zm v23 fun n25=>Zd c24 fun v26 c27=>Zm v26 fun n28=>Zd c27 fun v29 c30=>Xr (some 3) v29 fun l31=>Zn c30 (Zd c19 fun
    v32 c33=>Y0 (some 3) v32 fun d34 v35=>Zc [CT.int,CT.int,CT.slice (some 3)] (bif d34 then Zs v35 else v35) fun n36 n37 l38=>Zd c33 fun v39 c40=>Y0
    (some 2) v39 fun d41 v42=>Zc [CT.slice (some 3),CT.int] (bif d41 then Zs v42 else v42) fun l43 n44=>Zd c40 fun v45 c46=>zf7 v45 fun q47=>Zn c46 (bc
    (n36 !=4) (Xb 3 (V.agg [V.int n25,V.int n28,V.vec .plain (some 3) l31]) r12.2.2) (Za (Zj W 196 [V.agg [V.vec .plain (some 3) l43,V.int n44],
    V.int n37]) fun r48=>Zc [CT.int,CT.int,CT.slice (some 3)] r48 fun n49 n50 l51=>Za (W.call 195 [V.ref q47 0,V.agg [V.int n49,V.int n50,V.vec .plain
    (some 3) l51],V.vec .plain (some 3) l31] r12.2.2) fun r52=>Zx r52.fst (fun v53=>Zc [CT.int,CT.int,CT.slice (some 3)] v53 fun n54 n55 l56=>Xb 3 (V.agg [V.int n54,V.int n55,V.vec .plain (some 3) l56]) r52.snd) fun p57=>gd (below 3 p57&&Zt 3 (List.take 3 r52.snd))
    (some (Out.panic p57,List.take 3 r52.snd)))))) none) fun v58=>gd (below 3 v58&&Zt 3 (List.take 3 r12.2.2)) (some (Out.panic v58,List.take 3 r12.2.2)):=by
 have hw:IntKind.i64.wrap ((n:Int)+1)=((n+1:Nat):Int):=by rw[Zu ⟨by omega,by omega⟩];omega
 have hlim: ¬((n+1:Nat):Int)>40000:=by omega
 rw[C,Zb,zbk]
 simp only[zhx,JT,zl2,zqI,hw]
 show gd _ _=_
 simp only[List.length_cons,List.length_nil,Nat.zero_add,Nat.le_refl,decide_true,Bool.and_self,Z6,ZB]
 show(Zw (wst n) 2 fun x4=>_)=_
 simp only[zhx,JT,zl2,zqI,List.length_cons,List.length_nil,Nat.zero_add,Nat.le_refl,decide_true,Bool.and_self,Z6]
 show(Zw (wst (n+1)) 2 fun x6=>_)=_
 simp only[zhx,JT,zl2,List.length_cons,List.length_nil,Nat.zero_add,Nat.le_refl,decide_true,Bool.and_self,Z6,ZB,Zi]
 rw[hw,decide_eq_false hlim,Z2]
 rfl
theorem zuh{j:Job}{o:Oj}(h:Big j o):Sat j o:=by
 induction h with
 | @apLimit n t l s h hn=>
  have hw:IntKind.i64.wrap ((n:Int)+1)=((n+1:Nat):Int):=by rw[Zu ⟨by omega,by omega⟩];omega
  have hlim:((n+1:Nat):Int)>40000:=by omega
  refine⟨n+1, ?_⟩
  rw[C,Zb,zbk]
  simp only[zhx,JT,zl2,zqI,hw]
  show gd _ _=_
  simp only[List.length_cons,List.length_nil,Nat.zero_add,Nat.le_refl,decide_true,Bool.and_self,Z6,ZB]
  show(Zw (wst n) 2 fun x4=>_)=_
  simp only[zhx,JT,zl2,zqI,List.length_cons,List.length_nil,Nat.zero_add,Nat.le_refl,decide_true,Bool.and_self,Z6]
  show(Zw (wst (n+1)) 2 fun x6=>_)=_
  simp only[zhx,JT,zl2,List.length_cons,List.length_nil,Nat.zero_add,Nat.le_refl,decide_true,Bool.and_self,Z6,ZB]
  rw[hw,decide_eq_true hlim,Z4]
  show Za (W.call _ _ (wst (n+1))) _=_
  rw[zhy]
  rfl
 | @apErr n t l s e h ht b ih=>
  obtain⟨m,vs,hL⟩:=ih t.k t.h t.args [] 0 (.agg [.int 0, .int 0, .vec .full (some 3) []]) rfl rfl rfl (Nat.zero_le _) (by cases t;simp only[T.size]at ht;have:=Zo (T.args (.mk ‹_› ‹_› ‹_›));simp only[T.args]at this⊢;omega)
  refine⟨m, ?_⟩
  rw[zjB n t l s h ht,hL]
  rfl
 | @apNode n t l s ys m h ht hk b ih=>
  have hL:=ih t.k t.h t.args [] 0 (.agg [.int 0, .int 0, .vec .full (some 3) []]) rfl rfl rfl (Nat.zero_le _) (by cases t;simp only[T.size]at ht;have:=Zo (T.args (.mk ‹_› ‹_› ‹_›));simp only[T.args]at this⊢;omega)
  show _=_
  rw[zjB n t l s h ht,hL]
  have hk':(t.k !=4)=true:=by simpa using hk
  simp[hk',hk,enc]
  rfl
 | @apVar n t l s ys m o h ht hl hk h0 h1 b c ihb ihc=>
  have hL:=ihb t.k t.h t.args [] 0 (.agg [.int 0, .int 0, .vec .full (some 3) []]) rfl rfl rfl (Nat.zero_le _) (by cases t;simp only[T.size]at ht;have:=Zo (T.args (.mk ‹_› ‹_› ‹_›));simp only[T.args]at this⊢;omega)
  have ho:=(zuf l s t.h hl h0 h1).p
  show RT o _
  rw[zjB n t l s h ht,hL]
  have hsp:RT o (W.call 195 [.ref 2 0,enc (ofT l s t.h), .vec .plain (some 3) (Zf ys)] (wst m)):=ihc
  have hgoal:(fun x=>RT o x) (W.call 195 [.ref 2 0,enc (ofT l s t.h), .vec .plain (some 3) (Zf ys)] (wst m)):=hsp
  simp[hk,ho,←Zb]
  cases o with
  |t u k=>
   simp only[RT]at hsp
   rw[hsp]
   simp[RT,←Zb]
   rfl
  |e e=>
   obtain⟨k,hsp⟩:=hsp
   rw[hsp]
   exact⟨k,rfl⟩
  |l _ _=>exact hsp.elim
 | @arNil n bd l s=>
  intro k h xs acc i v hd hb ha hi hx
  have hil:i=xs.length:=by have:=congrArg List.length hd;simp at this;omega
  show _=_
  rw[zug _ _ _ _ _ _ _ _ _ hil,List.append_nil]
 | @arErr n bd a ys l s e hl b ih=>
  intro k h xs acc i v hd hb ha hi hx
  have hlt:i<xs.length:=by
   have:=congrArg List.length hd;simp at this;omega
  have hc:xs.drop i=xs[i]::xs.drop (i+1):=List.drop_eq_getElem_cons hlt
  rw[hc]at hd
  obtain⟨rfl,rfl⟩:=List.cons.inj hd
  subst hb
  obtain⟨vs,hs⟩:=zjA i k h acc xs l s v n hlt hx hl ha
  obtain⟨m,hm⟩:=ih
  rw[hs,hm]
  exact⟨m,vs,rfl⟩
 | @arErr2 n m bd a a' ys l s e hl b c ihb ihc=>
  intro k h xs acc i v hd hb ha hi hx
  have hlt:i<xs.length:=by
   have:=congrArg List.length hd;simp at this;omega
  have hc:xs.drop i=xs[i]::xs.drop (i+1):=List.drop_eq_getElem_cons hlt
  rw[hc]at hd
  obtain⟨rfl,rfl⟩:=List.cons.inj hd
  subst hb
  obtain⟨vs,hs⟩:=zjA i k h acc xs l s v n hlt hx hl ha
  have hb1:W.call 169 [.ref 2 0,enc xs[i],J4 (belowL' (bindsB k) (xs.drop (i+1)) l) (belowS' (bindsB k) (xs.drop (i+1)) s)] (wst n)=some (.ret (enc a'),wst m):=ihb
  have:=ihc k h xs (acc++[a']) (i+1) v rfl rfl (by simp[ha]) (by omega) hx
  rw[hs,hb1]
  simp only[Zg,ZV,zhv,←Zb]
  have e1:Zf acc++[enc a']=Zf (acc++[a']):=by simp
  rw[e1]
  exact this
 | @arCons n m k' bd a a' ys ys' l s hl b c ihb ihc=>
  intro k h xs acc i v hd hb ha hi hx
  have hlt:i<xs.length:=by
   have:=congrArg List.length hd;simp at this;omega
  have hc:xs.drop i=xs[i]::xs.drop (i+1):=List.drop_eq_getElem_cons hlt
  rw[hc]at hd
  obtain⟨rfl,rfl⟩:=List.cons.inj hd
  subst hb
  obtain⟨vs,hs⟩:=zjA i k h acc xs l s v n hlt hx hl ha
  have hb1:W.call 169 [.ref 2 0,enc xs[i],J4 (belowL' (bindsB k) (xs.drop (i+1)) l) (belowS' (bindsB k) (xs.drop (i+1)) s)] (wst n)=some (.ret (enc a'),wst m):=ihb
  have:=ihc k h xs (acc++[a']) (i+1) v rfl rfl (by simp[ha]) (by omega) hx
  show _=_
  rw[hs,hb1]
  simp only[Zg,ZV,zhv,←Zb]
  have e1:Zf acc++[enc a']=Zf (acc++[a']):=by simp
  rw[e1]
  simpa[lp6]using this
 | @spNil n t=>
  show _=_
  rw[C,Zb,YP]
  simp[←Zb]
  rfl
 | @spMay n t a ys hk ha hm=>
  have h1:=(QL a ha).p
  refine⟨n, ?_⟩
  rw[C,Zb,YP]
  have hz: ¬((Zf (a::ys)).length:Int)=0:=by rw[Zi];simp
  simp[hk,h1,hm,zhy,←Zb]
  rfl
 | @spErr n t a b0 r ys e hk ha hm hb b ih=>
  have h1:=(QL a ha).p
  obtain⟨m,hm2⟩:=ih
  refine⟨m, ?_⟩
  have hm3:W.call 169 [.ref 2 0,enc b0, .agg [.vec .plain (some 3) [enc a], .int 0]] (wst n)=some (.panic (zrH e),wst m):=hm2
  rw[C,Zb,YP]
  simp[hk,h1,hm,hb,hm3,←Zb]
  rfl
 | @spLam n m t a b0 u r ys o hk ha hm hb b c ihb ihc=>
  have h1:=(QL a ha).p
  have hm3:W.call 169 [.ref 2 0,enc b0, .agg [.vec .plain (some 3) [enc a], .int 0]] (wst n)=some (.ret (enc u),wst m):=ihb
  have hsp:RT o (W.call 195 [.ref 2 0,enc u, .vec .plain (some 3) (Zf ys)] (wst m)):=ihc
  have htk:List.take ys.length (Zf ys)=Zf ys:=List.take_of_length_le (by simp)
  show RT o _
  rw[C,Zb,YP]
  simp[hk,h1,hm,hb,hm3,htk,←Zb]
  cases o with
  |t w k=>
   simp only[RT]at hsp
   rw[hsp]
   simp[RT,←Zb]
   rfl
  |e e=>
   obtain⟨k,hsp⟩:=hsp
   rw[hsp]
   exact⟨k,rfl⟩
  |l _ _=>exact hsp.elim
 | @spApp n t a ys hk hs=>
  have hc:=(zb9 t.args (a::ys) (by simp only[List.length_cons];omega)).p (h2:=by simp[below,Zk,Xj])
  simp only[Qn]at hc
  show _=_
  rw[C,Zb,YP]
  rcases hk with hk|hk|hk
  ·simp[hk,hc,Yp,enc]
   rfl
  ·simp[hk,hc,Yp,enc]
   rfl
  ·simp[hk,hc,Yp,enc]
   rfl
 | @spType n t a ys h3 h2 h4 h5=>
  refine⟨n, ?_⟩
  rw[C,Zb,YP]
  simp[h3,h2,h4,h5,zhy]
  rfl
end Go.Proofs.CL
namespace Go.Proofs.CL
open Go Go.AM
set_option maxRecDepth 20000
theorem zmE(O:Oracle)(f:Nat)(a b:List V):zeK Tryz.prog cfg O 167 [.fn f a b] []=
 bc (cfg.pure f) (Za (Zj O f (a++[V.ref 2 0]++b)) fun r1=>Zc [CT.int,CT.int,CT.slice (some 3)] r1 fun n2 n3 l4=>Za (Zj O 82 [V.agg [V.int n2,
 V.int n3,V.vec .plain (some 3) l4]]) fun r5=>Zl r5 fun b6=>bc (!b6) (Za (O.call 193 [V.int 4] [Res.box [V.int n2,V.int n3,V.vec .plain (some 3) l4],Res.box
 [V.int 0],Res.box [V.int 0]]) fun r7=>Zx r7.fst (fun v8=>ZM v8 fun c9=>Zn c9 (Zw r7.snd 0 fun x10=>ZE x10 fun c11=>gd (decide (3≤c11.length)&&true)
 (onCells [CT.int,CT.int,CT.slice (some 3)] (List.map plain1 (List.take 3 (List.drop 0 c11))) fun n12 n13 l14=>Zw r7.snd 0 fun x15=>ZE x15 fun c16=>gd (decide (3≤
 c16.length)&&true) (Zw (List.set r7.snd 0 (Res.box (setCells c16 0 [V.int n12,V.int n13,V.vec .plain (some 3) l14]))) 1 fun x17=>ZE x17 fun c18=>gd (decide (1≤
 c18.length)&&true) (Zw ((List.set r7.snd 0 (Res.box (setCells c16 0 [V.int n12,V.int n13,V.vec .plain (some 3) l14]))).set 1 (Res.box (setCells c18 0 [V.int 0]))) 0 fun x19
 =>ZE x19 fun c20=>gd (decide (3≤c20.length)&&true) (Zw ((List.set r7.snd 0 (Res.box (setCells c16 0 [V.int n12,V.int n13,V.vec .plain (some 3) l14]))).set 1 (Res.box
 (setCells c18 0 [V.int 0]))) 1 fun x21=>ZE x21 fun c22=>gd (decide (1≤c22.length)&&true) (Xb 0 (V.tup [V.agg (List.map plain1 (List.take 3 (List.drop 0 c20))),Zs
 (AM.partOf c22 0 none)]) ((List.set r7.snd 0 (Res.box (setCells c16 0 [V.int n12,V.int n13,V.vec .plain (some 3) l14]))).set 1 (Res.box (setCells c18 0 [V.int 0])))))))))) fun
 p23=>zdn p23 fun t24 n25=>bc (t24.beq 35) (Zw r7.snd 0 fun x26=>ZE x26 fun c27=>gd (decide (3≤c27.length)&&true) (Zw (List.set r7.snd 0 (Res.box (setCells
 c27 0 [V.int 0,V.int 0,V.vec .plain (some 3) []]))) 1 fun x28=>ZE x28 fun c29=>gd (decide (1≤c29.length)&&true) (Zw ((List.set r7.snd 0 (Res.box (setCells c27 0
 [V.int 0,V.int 0,V.vec .plain (some 3) []]))).set 1 (Res.box (setCells c29 0 [V.int n25]))) 0 fun x30=>ZE x30 fun c31=>gd (decide (3≤c31.length)&&true) (Zw
 ((List.set r7.snd 0 (Res.box (setCells c27 0 [V.int 0,V.int 0,V.vec .plain (some 3) []]))).set 1 (Res.box (setCells c29 0 [V.int n25]))) 1 fun x32=>ZE x32 fun c33=>gd
 (decide (1≤c33.length)&&true) (Xb 0 (V.tup [V.agg (List.map plain1 (List.take 3 (List.drop 0 c31))),Zs (AM.partOf c33 0 none)]) ((List.set r7.snd 0 (Res.box (setCells
 c27 0 [V.int 0,V.int 0,V.vec .plain (some 3) []]))).set 1 (Res.box (setCells c29 0 [V.int n25])))))))) none) (Xb 0 (V.tup [V.agg [V.int n2,V.int n3,V.vec .plain (some 3) l4],
 V.int 0]) [Res.box [V.int n2,V.int n3,V.vec .plain (some 3) l4],Res.box [V.int 0],Res.box [V.int 0]])) (Za (O.call f (a++[V.ref 2 0]++b) [Res.box [V.int 0,V.int 0,
 V.vec Mode.full (some 3) []],Res.box [V.int 0],Res.box [V.int 0]]) fun r34=>Zx r34.fst (fun v35=>Zc [CT.int,CT.int,CT.slice (some 3)] v35 fun n36 n37 l38=>Zw
 r34.snd 0 fun x39=>ZE x39 fun c40=>gd (decide (3≤c40.length)&&true) (Zw (List.set r34.snd 0 (Res.box (setCells c40 0 [V.int n36,V.int n37,V.vec .plain (some 3)
 l38]))) 0 fun x41=>ZE x41 fun c42=>gd (decide (3≤c42.length)&&true) (onCells [CT.int,CT.int,CT.slice (some 3)] (List.map plain1 (List.take 3 (List.drop 0 c42))) fun
 n43 n44 l45=>Za (Zj O 82 [V.agg [V.int n43,V.int n44,V.vec .plain (some 3) l45]]) fun r46=>Zl r46 fun b47=>bc (!b47) (Za (O.call 193 [V.int
 4] (List.set r34.snd 0 (Res.box (setCells c40 0 [V.int n36,V.int n37,V.vec .plain (some 3) l38])))) fun r48=>Zx r48.fst (fun v49=>ZM v49 fun c50=>Zn c50 (Zw
 r48.snd 0 fun x51=>ZE x51 fun c52=>gd (decide (3≤c52.length)&&true) (onCells [CT.int,CT.int,CT.slice (some 3)] (List.map plain1 (List.take 3 (List.drop 0 c52))) fun
 n53 n54 l55=>Zw r48.snd 0 fun x56=>ZE x56 fun c57=>gd (decide (3≤c57.length)&&true) (Zw (List.set r48.snd 0 (Res.box (setCells c57 0 [V.int n53,V.int n54,V.vec
 .plain (some 3) l55]))) 1 fun x58=>ZE x58 fun c59=>gd (decide (1≤c59.length)&&true) (Zw ((List.set r48.snd 0 (Res.box (setCells c57 0 [V.int n53,V.int n54,V.vec
 .plain (some 3) l55]))).set 1 (Res.box (setCells c59 0 [V.int 0]))) 0 fun x60=>ZE x60 fun c61=>gd (decide (3≤c61.length)&&true) (Zw ((List.set r48.snd 0 (Res.box
 (setCells c57 0 [V.int n53,V.int n54,V.vec .plain (some 3) l55]))).set 1 (Res.box (setCells c59 0 [V.int 0]))) 1 fun x62=>ZE x62 fun c63=>gd (decide (1≤c63.length)&&
 true) (Xb 0 (V.tup [V.agg (List.map plain1 (List.take 3 (List.drop 0 c61))),Zs (AM.partOf c63 0 none)]) ((List.set r48.snd 0 (Res.box (setCells c57 0 [V.int n53,V.int n54,
 V.vec .plain (some 3) l55]))).set 1 (Res.box (setCells c59 0 [V.int 0])))))))))) fun p64=>zdn p64 fun t65 n66=>bc (t65.beq 35) (Zw r48.snd 0 fun x67=>ZE x67 fun c68
 =>gd (decide (3≤c68.length)&&true) (Zw (List.set r48.snd 0 (Res.box (setCells c68 0 [V.int 0,V.int 0,V.vec .plain (some 3) []]))) 1 fun x69=>ZE x69 fun c70=>gd
 (decide (1≤c70.length)&&true) (Zw ((List.set r48.snd 0 (Res.box (setCells c68 0 [V.int 0,V.int 0,V.vec .plain (some 3) []]))).set 1 (Res.box (setCells c70 0 [V.int n66])))
 0 fun x71=>ZE x71 fun c72=>gd (decide (3≤c72.length)&&true) (Zw ((List.set r48.snd 0 (Res.box (setCells c68 0 [V.int 0,V.int 0,V.vec .plain (some 3) []]))).set 1
 (Res.box (setCells c70 0 [V.int n66]))) 1 fun x73=>ZE x73 fun c74=>gd (decide (1≤c74.length)&&true) (Xb 0 (V.tup [V.agg (List.map plain1 (List.take 3 (List.drop 0
 c72))),Zs (AM.partOf c74 0 none)]) ((List.set r48.snd 0 (Res.box (setCells c68 0 [V.int 0,V.int 0,V.vec .plain (some 3) []]))).set 1 (Res.box (setCells c70 0 [V.int
 n66])))))))) none) (Zw (List.set r34.snd 0 (Res.box (setCells c40 0 [V.int n36,V.int n37,V.vec .plain (some 3) l38]))) 0 fun x75=>ZE x75 fun c76=>gd (decide (3≤
 c76.length)&&true) (onCells [CT.int,CT.int,CT.slice (some 3)] (List.map plain1 (List.take 3 (List.drop 0 c76))) fun n77 n78 l79=>Zw (List.set r34.snd 0 (Res.box (setCells
 c40 0 [V.int n36,V.int n37,V.vec .plain (some 3) l38]))) 0 fun x80=>ZE x80 fun c81=>gd (decide (3≤c81.length)&&true) (Zw ((List.set r34.snd 0 (Res.box (setCells c40
 0 [V.int n36,V.int n37,V.vec .plain (some 3) l38]))).set 0 (Res.box (setCells c81 0 [V.int n77,V.int n78,V.vec .plain (some 3) l79]))) 1 fun x82=>ZE x82 fun c83=>gd
 (decide (1≤c83.length)&&true) (Zw (((List.set r34.snd 0 (Res.box (setCells c40 0 [V.int n36,V.int n37,V.vec .plain (some 3) l38]))).set 0 (Res.box (setCells c81 0 [V.int
 n77,V.int n78,V.vec .plain (some 3) l79]))).set 1 (Res.box (setCells c83 0 [V.int 0]))) 0 fun x84=>ZE x84 fun c85=>gd (decide (3≤c85.length)&&true) (Zw (((List.set
 r34.snd 0 (Res.box (setCells c40 0 [V.int n36,V.int n37,V.vec .plain (some 3) l38]))).set 0 (Res.box (setCells c81 0 [V.int n77,V.int n78,V.vec .plain (some 3) l79]))).set 1
 (Res.box (setCells c83 0 [V.int 0]))) 1 fun x86=>ZE x86 fun c87=>gd (decide (1≤c87.length)&&true) (Xb 0 (V.tup [V.agg (List.map plain1 (List.take 3 (List.drop 0
 c85))),Zs (AM.partOf c87 0 none)]) (((List.set r34.snd 0 (Res.box (setCells c40 0 [V.int n36,V.int n37,V.vec .plain (some 3) l38]))).set 0 (Res.box (setCells c81 0 [V.int
 n77,V.int n78,V.vec .plain (some 3) l79]))).set 1 (Res.box (setCells c83 0 [V.int 0])))))))))))) fun p88=>zdn p88 fun t89 n90=>bc (t89.beq 35) (Zw r34.snd 0 fun x91=>
 ZE x91 fun c92=>gd (decide (3≤c92.length)&&true) (Zw (List.set r34.snd 0 (Res.box (setCells c92 0 [V.int 0,V.int 0,V.vec .plain (some 3) []]))) 1 fun x93=>ZE x93
 fun c94=>gd (decide (1≤c94.length)&&true) (Zw ((List.set r34.snd 0 (Res.box (setCells c92 0 [V.int 0,V.int 0,V.vec .plain (some 3) []]))).set 1 (Res.box (setCells c94 0
 [V.int n90]))) 0 fun x95=>ZE x95 fun c96=>gd (decide (3≤c96.length)&&true) (Zw ((List.set r34.snd 0 (Res.box (setCells c92 0 [V.int 0,V.int 0,V.vec .plain (some 3)
 []]))).set 1 (Res.box (setCells c94 0 [V.int n90]))) 1 fun x97=>ZE x97 fun c98=>gd (decide (1≤c98.length)&&true) (Xb 0 (V.tup [V.agg (List.map plain1 (List.take 3
 (List.drop 0 c96))),Zs (AM.partOf c98 0 none)]) ((List.set r34.snd 0 (Res.box (setCells c92 0 [V.int 0,V.int 0,V.vec .plain (some 3) []]))).set 1 (Res.box (setCells c94 0
 [V.int n90])))))))) none):=by kernel_rfl
end Go.Proofs.CL
namespace Go.Proofs.CL
open Go Go.AM Go.Ama
theorem zuI(a b c x y z:V):setCells [a,b,c] 0 [x,y,z]=[x,y,z]:=rfl
theorem plI(n:Int):plain1 (.int n)= .int n:=rfl
theorem plV(sh:Sh)(l:List V):plain1 (.vec .plain sh l)= .vec .plain sh l:=rfl
theorem zwE(v:V)(a:Res)(st:St)(h:below 0 v=true):Xb 0 v (a::st)=some (.ret v,[]):=by
 have:Nat.beq (a::st).length 0=false:=rfl
 unfold Xb
 rw[this]
 simp[h,Zt]
theorem zom:cfg.pure 168=false:=by kernel_rfl
theorem zon{t:T}{l:List T}{s:Int}{o:Oj}(h:Big (.ap 0 t l s) o):RT o (W.call 168 [.ref 2 0, .cptr (some 3) (enc t), .cptr (some 2) (J4 l s)] (wst 0)):=by
 have hs:RT o (W.call 169 [.ref 2 0,enc t,J4 l s] (wst 0)):=zuh h
 rw[C,Zb,zi2,←Zb]
 cases o with
 |t u k=>
  simp only[RT]at hs
  rw[hs]
  simp[RT,←Zb]
  rfl
 |e e=>
  obtain⟨k,hs⟩:=hs
  rw[hs]
  exact⟨k,rfl⟩
 |l _ _=>exact hs.elim
theorem zth:ext 167=some (fun O args st=>zeK Tryz.prog cfg O 167 args st):=by
 unfold ext
 rfl
theorem zwf(args:List V)(st:St):W.call 167 args st=zeK Tryz.prog cfg W 167 args st:=
 Cx (x:=fun O args st=>zeK Tryz.prog cfg O 167 args st) 167 args st zth
theorem zrI{t:T}{l:List T}{s:Int}{o:Oj}(h:Big (.ap 0 t l s) o)(hs:zpQ o):
  W.call 167 [.fn 168 [] [.cptr (some 3) (enc t), .cptr (some 2) (J4 l s)]] []=some (.ret (.tup [enc (zcr o).1, .int (zcr o).2]),[]):=by
 have h1:=zon h
 rw[zwf,zmE,zom]
 simp only[Z2,List.nil_append,List.singleton_append]
 cases o with
 |t u k=>
  simp only[RT]at h1
  have hm:=(QL u hs).p
  have h2:W.call 168 [.ref 2 0, .cptr (some 3) (enc t), .cptr (some 2) (J4 l s)] [bx0,bx1, .box [.int 0]]=some (.ret (enc u),wst k):=h1
  rw[h2]
  have hf:W.call 193 [.int 4] [.box [.int u.k, .int u.h, .vec .plain (some 3) (Zf u.args)],bx1, .box [.int (k:Int)]]=some (.panic (zrH 4),[.box [.int u.k, .int u.h, .vec .plain (some 3) (Zf u.args)],bx1, .box [.int (k:Int)]]):=by
   rw[C,zgl]
   simp[below,Zt,zaW,Zk]
  cases hmu:may u with
  |true=>
   have e:zcr (.t u k)=(u,0):=by simp[zcr,hmu]
   rw[hmu]at hm
   rw[e]
   simp[zuI,plI,plV,hm,←Zb]
   exact zwE _ _ _ (by simp[below,Zk])
  |false=>
   have e:zcr (.t u k)=(.mk 0 0 [],4):=by simp[zcr,hmu]
   rw[hmu]at hm
   rw[e]
   simp[zuI,plI,plV,hm,←Zb]
   rw[hf]
   rfl
 |e e=>
  obtain⟨k,h1⟩:=h1
  have h2:W.call 168 [.ref 2 0, .cptr (some 3) (enc t), .cptr (some 2) (J4 l s)] [bx0,bx1, .box [.int 0]]=some (.panic (zrH e),wst k):=h1
  rw[h2]
  simp[zcr]
  rfl
 |l _ _=>exact h1.elim
theorem zpV{t:T}{l:List T}{s:Int}{o:Oj}(ht:t.size≤1099511627776)(hl:sizes l≤1099511627776)(h:may t=true→zeP l s=true→Big (.ap 0 t l s) o∧zpQ o):
  Ev 126 [enc t,J4 l s] (.tup [enc (zdN t l s o).1, .int (zdN t l s o).2]):=by
 have h1:=(QL t ht).p
 have h2:=(zrG l s hl).p
 unfold Ev
 rw[C,Zb t,zkF,←Zb,h1]
 cases hm:may t with
 |false=>simp[zdN,hm,enc]
 |true=>
  simp only[Zg,ZH,Bool.not_true,Z2]
  rw[h2]
  cases hs:zeP l s with
  |false=>simp[zdN,hm,hs,enc]
  |true=>
   obtain⟨hb,hsm⟩:=h hm hs
   have h3:=zrI hb hsm
   have e:zdN t l s o=zcr o:=by simp[zdN,hm,hs]
   rw[e]
   simp[h3,←Zb]
   simp[below,Zk,Zt,gd]
theorem zbA{β:Int}(hβ:ZY β){t:T}{l:List T}{s:Int}(ht:t.size≤1099511627776)(hl:sizes l≤1099511627776)(h1:may t=true→okB β t)(h2:zeP l s=true→ ∀x∈l,okB β x):
  Ev 126 [enc t,J4 l s] (.tup [enc (YK t l s).1, .int (YK t l s).2]):=
 zpV ht hl fun m1 m2=>by
  obtain⟨b,_,c⟩:=zqG hβ (h1 m1) (h2 m2) m1 m2
  exact⟨b,c⟩
end Go.Proofs.CL
namespace Go.Ama
open Go Go.AM
def var(i:Nat):T:= .mk 4 i []
def vars(n:Nat):List T:=(List.range n).reverse.map var
end Go.Ama
namespace Go.Ama
open Go Go.AM
@[simp] theorem zwF(a b:V)(l:List V):ZP (a::b::l) 1=b:=rfl
structure M where
 ctx:List T
 t:T
 param:Bool
def JU(m:M):V:= .agg [.vec .plain (some 3) (Zf m.ctx), .int m.t.k, .int m.t.h, .vec .plain (some 3) (Zf m.t.args), .bool m.param]
def ZA(l:List M):List V:=l.map JU
@[simp] theorem ZU(l:List M):(ZA l).length=l.length:=by simp[ZA]
@[simp] theorem zrJ:ZA []=[]:=rfl
@[simp] theorem zui(a b:List M):ZA (a++b)=ZA a++ZA b:=by simp[ZA]
@[simp] theorem zvg(a:M)(b:List M):ZA (a::b)=JU a::ZA b:=rfl
theorem JV{l:List M}{i:Nat}(h:i<l.length):ZP (ZA l) (i:Int)=JU l[i]:=by
 simp[ZP,ZA,List.getD_eq_getElem?_getD,List.getElem?_map,h]
theorem zjC(n:Nat)(m:M):below n (JU m)=true:=by simp[JU,below,Zk,Q9]
@[simp] theorem zoo(n:Nat): ∀l:List M,Zk n (ZA l)=true
 |[]=>rfl
 |d::l=>by simp[Zk,zjC,zoo n l]
section
variable{R:Type}
@[simp] theorem onM(m:M)(K:List V→Int→Int→List V→Bool→Option R):Zc (R:=R) [CT.slice (some 3),CT.int,CT.int,CT.slice (some 3),CT.bool] (JU m) K=K (Zf m.ctx) m.t.k m.t.h (Zf m.t.args) m.param:=rfl
@[simp] theorem zxd(l l2:List V)(a b:Int)(c:Bool)(K:List V→Int→Int→List V→Bool→Option R):Zc (R:=R) [CT.slice (some 3),CT.int,CT.int,CT.slice (some 3),CT.bool] (.agg [.vec .plain (some 3) l, .int a, .int b, .vec .plain (some 3) l2, .bool c]) K=K l a b l2 c:=rfl
end
theorem Xn(m:M):JU m= .agg [.vec .plain (some 3) (Zf m.ctx), .int m.t.k, .int m.t.h, .vec .plain (some 3) (Zf m.t.args), .bool m.param]:=rfl
structure Cs where
 ms:List M
 q:T
 t:T
def zti(c:Cs):V:= .agg [.vec .plain (some 5) (ZA c.ms), .int c.q.k, .int c.q.h, .vec .plain (some 3) (Zf c.q.args), .int c.t.k, .int c.t.h, .vec .plain (some 3) (Zf c.t.args)]
def zeR(l:List Cs):List V:=l.map zti
@[simp] theorem zuk(l:List Cs):(zeR l).length=l.length:=by simp[zeR]
@[simp] theorem zvD:zeR []=[]:=rfl
@[simp] theorem zul(a b:List Cs):zeR (a++b)=zeR a++zeR b:=by simp[zeR]
@[simp] theorem zvh(a:Cs)(b:List Cs):zeR (a::b)=zti a::zeR b:=rfl
theorem zjD(n:Nat)(m:Cs):below n (zti m)=true:=by simp[zti,below,Zk,Q9]
@[simp] theorem zop(n:Nat): ∀l:List Cs,Zk n (zeR l)=true
 |[]=>rfl
 |d::l=>by simp[Zk,zjD,zop n l]
section
variable{R:Type}
@[simp] theorem onC(c:Cs)(K:List V→Int→Int→List V→Int→Int→List V→Option R):Zc (R:=R) [CT.slice (some 5),CT.int,CT.int,CT.slice (some 3),CT.int,CT.int,CT.slice (some 3)] (zti c) K=K (ZA c.ms) c.q.k c.q.h (Zf c.q.args) c.t.k c.t.h (Zf c.t.args):=rfl
@[simp] theorem zvE(sh:Sh)(es:List V)(r:Nat)(K:List V→Nat→Option R):zqy sh (.spr sh es r) K=K es r:=by show(if sh=sh then K es r else none)=_;rw[if_pos rfl]
@[simp] theorem zt9(sh:Sh)(n q:Nat)(K:Sh→Nat→Nat→Option R):zei (.spare sh n q) K=K sh n q:=rfl
end
def zvi(t:T):Int:=if(split t).2.k=2 then(split t).2.h else-1
def zff(f:Int)(t:T):Bool:=decide (0≤f)&&decide (zvi t=f)
end Go.Ama
namespace Go.Proofs.CL
open Go Go.AM Go.Ama
theorem zoq{g:Nat}{a b:List V}(hp:cfg.pure g=false){p:D→Bool}(xs:List D)(hs:xs.length≤1099511627776)(st:St)(hg: ∀t∈xs,W.call g (a++[zdM t]++b) st=some (.ret (.bool (p t)),st)):
  ∀(n i:Nat),xs.length-i=n→i≤xs.length→(∃j:Nat,(xs.drop i).any p=true∧W.loop 174 2 [.int (i:Int), .vec .plain (some 4) (Ye xs), .fn g a b, .int xs.length] st=some (.ret,[.int (j:Int)],st))∨
   ((xs.drop i).any p=false∧W.loop 174 2 [.int (i:Int), .vec .plain (some 4) (Ye xs), .fn g a b, .int xs.length] st=some (.exit 0,[],st)):=by
 intro n
 induction n with
 |zero=>
  intro i hn hi
  have:i=xs.length:=by omega
  subst this
  right
  refine⟨by simp, ?_⟩
  rw[L,YR]
  simp
 |succ n ih=>
  intro i hn hi
  have hlt:i<xs.length:=by omega
  have hx:=hg xs[i] (List.getElem_mem hlt)
  have hd:xs.drop i=xs[i]::xs.drop (i+1):=List.drop_eq_getElem_cons hlt
  have hstep:W.loop 174 2 [.int (i:Int), .vec .plain (some 4) (Ye xs), .fn g a b, .int xs.length] st=
    bc (p xs[i]) (some (.ret,[.int (i:Int)],st)) (W.loop 174 2 [.int ((i+1:Nat):Int), .vec .plain (some 4) (Ye xs), .fn g a b, .int xs.length] st):=by
   rw[L,YR,zfq hlt]
   rw[Zu ⟨by omega,by omega⟩]
   have h1:(i:Int)<xs.length:=by omega
   have e1:V.agg [V.str (ba xs[i].name),V.int xs[i].t.k,V.int xs[i].t.h,V.vec .plain (some 3) (Zf xs[i].t.args)]=zdM xs[i]:=rfl
   simp only[h1,QK,Int.natCast_nonneg,decide_true,Bool.and_self,Z6,Z4,zw5,hp,Z2,e1,hx,Zg,ZV,ZH]
   rfl
  rw[hstep,hd,List.any_cons]
  cases hpx:p xs[i]with
  |true=>exact .inl ⟨i,rfl,rfl⟩
  |false=>
   simp only[bc,Bool.false_or]
   exact ih (i+1) (by omega) (by omega)
theorem zjE{g:Nat}{a b:List V}(hp:cfg.pure g=false){p:D→Bool}(xs:List D)(hs:xs.length≤1099511627776)(st:St)(hg: ∀t∈xs,W.call g (a++[zdM t]++b) st=some (.ret (.bool (p t)),st)):
  W.call 136 [.vec .plain (some 4) (Ye xs), .fn g a b] st=some (.ret (.bool (xs.any p)),st):=by
 have h:=zoq hp xs hs st hg _ 0 rfl (Nat.zero_le _)
 rw[C,Qt,C,QS]
 simp only[List.drop_zero,Int.natCast_zero]at h
 rcases h with⟨j,h1,h2⟩|⟨h1,h2⟩
 ·simp[h2,h1,Z3]
 ·simp[h2,h1,Z3]
end Go.Proofs.CL
namespace Go.Proofs.CL
open Go Go.AM
set_option maxRecDepth 20000
theorem XG(O:Oracle)(l0:(List V))(g1:Nat)(l2:(List V))(l3:(List V))(st:St):Ze Tryz.prog cfg O 138 [.vec .plain (some 5) l0, .fn g1 l2 l3] st=
 Za (O.call 175 [V.vec .plain (some 5) l0,V.fn g1 l2 l3] st) fun r1=>Zx r1.fst (fun v2=>Zm v2 fun n3=>Xb (List.length st)
 (V.bool (decide (n3≥0))) r1.snd) fun p4=>none:=by kernel_rfl
theorem XR(O:Oracle)(l0:(List V))(g1:Nat)(l2:(List V))(l3:(List V))(st:St):Ze Tryz.prog cfg O 175 [.vec .plain (some 5) l0, .fn g1 l2 l3] st=
 Za (O.loop 175 2 [V.int 0,V.vec .plain (some 5) l0,V.fn g1 l2 l3,V.int (↑l0.length:Int)] st) fun r1=>Xk r1.fst none (Zd
 r1.snd.fst fun v2 c3=>Zm v2 fun n4=>Zn c3 (Xb (List.length st) (V.int n4) r1.snd.snd)) (fun i5=>bc (i5.beq 0) (Zn r1.snd.fst (Xb (List.length st) (V.int (-1))
 r1.snd.snd)) none) fun v6=>none:=by kernel_rfl
theorem Y2(O:Oracle)(n0:Int)(l1:(List V))(g2:Nat)(l3:(List V))(l4:(List V))(n5:Int)(st:St):Zz Tryz.prog cfg O 175 2 [.int n0, .vec .plain (some 5) l1, .fn g2 l3 l4, .int n5] st=
 bc (decide (n0<n5)) (gd (decide (0≤n0)&&decide (n0<(↑l1.length:Int))) (Zc [CT.slice (some 3),CT.int,CT.int,CT.slice (some 3),CT.bool] (ZP l1 n0) fun l1_1 n2
 n3 l4_1 b5=>bc (cfg.pure g2) (Za (Zj O g2 (l3++[V.agg [V.vec .plain (some 3) l1_1,V.int n2,V.int n3,V.vec .plain (some 3) l4_1,V.bool b5]]++l4)) fun r6=>Zl
 r6 fun b7=>bc b7 (some (Ex.ret,[V.int n0],st)) (O.2 175 2 [V.int (IntKind.i64.wrap (n0+1)),V.vec .plain (some 5) l1,V.fn g2 l3 l4,
 V.int n5] st)) (Za (O.call g2 (l3++[V.agg [V.vec .plain (some 3) l1_1,V.int n2,V.int n3,V.vec .plain (some 3) l4_1,V.bool b5]]++l4) st) fun r8=>Zx r8.fst (fun v9
 =>Zl v9 fun b10=>bc b10 (some (Ex.ret,[V.int n0],r8.snd)) (O.2 175 2 [V.int (IntKind.i64.wrap (n0+1)),V.vec .plain (some 5)
 l1,V.fn g2 l3 l4,V.int n5] r8.snd)) fun p11=>none))) (some (Ex.exit 0,[],st)):=by kernel_rfl
end Go.Proofs.CL
namespace Go.Proofs.CL
open Go Go.AM Go.Ama
theorem zor{g:Nat}{a b:List V}(hp:cfg.pure g=false){p:M→Bool}(xs:List M)(hs:xs.length≤1099511627776)(st:St)(hg: ∀t∈xs,W.call g (a++[JU t]++b) st=some (.ret (.bool (p t)),st)):
  ∀(n i:Nat),xs.length-i=n→i≤xs.length→(∃j:Nat,(xs.drop i).any p=true∧W.loop 175 2 [.int (i:Int), .vec .plain (some 5) (ZA xs), .fn g a b, .int xs.length] st=some (.ret,[.int (j:Int)],st))∨
   ((xs.drop i).any p=false∧W.loop 175 2 [.int (i:Int), .vec .plain (some 5) (ZA xs), .fn g a b, .int xs.length] st=some (.exit 0,[],st)):=by
 intro n
 induction n with
 |zero=>
  intro i hn hi
  have:i=xs.length:=by omega
  subst this
  right
  refine⟨by simp, ?_⟩
  rw[L,Y2]
  simp
 |succ n ih=>
  intro i hn hi
  have hlt:i<xs.length:=by omega
  have hx:=hg xs[i] (List.getElem_mem hlt)
  have hd:xs.drop i=xs[i]::xs.drop (i+1):=List.drop_eq_getElem_cons hlt
  have hstep:W.loop 175 2 [.int (i:Int), .vec .plain (some 5) (ZA xs), .fn g a b, .int xs.length] st=
    bc (p xs[i]) (some (.ret,[.int (i:Int)],st)) (W.loop 175 2 [.int ((i+1:Nat):Int), .vec .plain (some 5) (ZA xs), .fn g a b, .int xs.length] st):=by
   rw[L,Y2,JV hlt]
   rw[Zu ⟨by omega,by omega⟩]
   have h1:(i:Int)<xs.length:=by omega
   have e1:V.agg [V.vec .plain (some 3) (Zf xs[i].ctx),V.int xs[i].t.k,V.int xs[i].t.h,V.vec .plain (some 3) (Zf xs[i].t.args),V.bool xs[i].param]=JU xs[i]:=rfl
   simp only[h1,ZU,Int.natCast_nonneg,decide_true,Bool.and_self,Z6,Z4,onM,hp,Z2,e1,hx,Zg,ZV,ZH]
   rfl
  rw[hstep,hd,List.any_cons]
  cases hpx:p xs[i]with
  |true=>exact .inl ⟨i,rfl,rfl⟩
  |false=>
   simp only[bc,Bool.false_or]
   exact ih (i+1) (by omega) (by omega)
theorem zjF{g:Nat}{a b:List V}(hp:cfg.pure g=false){p:M→Bool}(xs:List M)(hs:xs.length≤1099511627776)(st:St)(hg: ∀t∈xs,W.call g (a++[JU t]++b) st=some (.ret (.bool (p t)),st)):
  W.call 138 [.vec .plain (some 5) (ZA xs), .fn g a b] st=some (.ret (.bool (xs.any p)),st):=by
 have h:=zor hp xs hs st hg _ 0 rfl (Nat.zero_le _)
 rw[C,XG,C,XR]
 simp only[List.drop_zero,Int.natCast_zero]at h
 rcases h with⟨j,h1,h2⟩|⟨h1,h2⟩
 ·simp[h2,h1,Z3]
 ·simp[h2,h1,Z3]
end Go.Proofs.CL
