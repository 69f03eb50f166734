import Derived.Test.YtgoppocfbhbamaaDoorAMa
import Derived.Test.YtgoppocfbhbamaaDoorProg
import Derived.Test.YtgoppocfbhbamaaDoorChecked
import Derived.Test.YtgoppocfbhbamaaDoorAMd
import Derived.Shelf.Strconv.Itoa3
import Derived.CallsIn
import Derived.KernelRfl
import Derived.Lib.Bytealg
import Derived.Lib.ItoaNum
/- The program's functions, each an equation of the abstract machine checked by the kernel, and what they come to as_ plain Lean. -/
set_option linter.unusedVariables false
set_option linter.unusedSimpArgs false
set_option linter.unusedSectionVars false
namespace Go.Proofs.SW
open Go Go.AM
def zq7:Nat→Option FnHints
 |2=>some ⟨true,[],[],[],[],[]⟩
 |3=>some ⟨true,[],[],[],[],[(4, .ty 4)]⟩
 |4=>some ⟨true,[],[(8,1),(8,4),(8,5)],[],[],[(6, .ty 4)]⟩
 |5=>some ⟨true,[],[],[(10,[(12, .ty 30),(1, .any),(13, .ty 3),(10, .ty 30),(2, .loc 24)]),(13,[(14, .ty 3),(12, .ty 30),(1, .any),(13, .ty 3),(10, .ty 30),(2, .loc 24)])],[(10,[(10, .ty 30),(2, .loc 24)]),(13,[(12, .ty 30),(1, .ty 25),(10, .ty 30),(2, .loc 24),(13, .ty 3)])],[(4, .ty 4)]⟩
 |6=>some ⟨true,[],[],[],[],[(2, .ty 4)]⟩
 |7=>some ⟨true,[],[],[],[],[(0, .ty 4)]⟩
 |8=>some ⟨true,[],[],[(4,[(3, .ty 3),(0, .any)])],[(4,[])],[(2, .ty 4)]⟩
 |9=>some ⟨true,[],[],[],[],[(6, .ty 4)]⟩
 |10=>some ⟨true,[],[],[(2,[(3, .ty 3),(0, .any)])],[(2,[])],[(2, .ty 4)]⟩
 |11=>some ⟨true,[12],[(3,1),(0,1),(2,0),(6,4)],[],[],[(4, .ty 29),(5, .ty 30)]⟩
 |12=>some ⟨true,[],[(0,1),(3,0),(7,0)],[],[],[(4, .ty 29),(5, .ty 30)]⟩
 |13=>some ⟨true,[],[(16,8),(16,0),(16,9),(0,0),(12,0),(15,1)],[(3,[(15, .ty 3),(4, .mp),(13, .any),(0, .any),(14, .ty 3)]),(9,[(27, .ty 3),(7, .grow none),(0, .any),(4, .mp),(25, .any),(26, .ty 3)])],[(3,[(0, .ty 25),(4, .mp)]),(9,[(7, .grow none)])],[(2, .ty 29),(3, .ty 30)]⟩
 |14=>some ⟨true,[],[(16,6),(16,0),(16,7),(17,1),(17,0),(17,2),(18,2),(18,0),(18,3),(19,1),(19,0),(19,2),(0,0),(12,0),(15,1)],[(3,[(5, .ty 3),(0, .any),(4, .grow none)]),(7,[(7, .ty 3),(5, .ty 3),(0, .any),(4, .grow none),(6, .ty 4)])],[(3,[(4, .grow none)]),(7,[(0, .ty 25),(5, .ty 3),(4, .grow none),(6, .ty 4)])],[(2, .ty 29),(3, .ty 30)]⟩
 |15=>some ⟨true,[],[],[],[],[(2, .ty 4)]⟩
 |16=>some ⟨true,[],[],[],[],[(2, .ty 4)]⟩
 |17=>some ⟨true,[],[],[],[],[(6, .ty 4)]⟩
 |18=>some ⟨true,[19],[],[],[],[(4, .locA (some 3)),(5, .ty 30)]⟩
 |19=>some ⟨true,[],[(0,0)],[],[],[(0, .ty 25)]⟩
 |20=>some ⟨true,[],[],[(4,[(31, .ty 3),(3, .loc 24),(29, .any),(30, .ty 3)])],[(4,[])],[(4, .ty 4)]⟩
 |21=>some ⟨true,[],[],[(4,[(3, .ty 3),(1, .loc 24)])],[(4,[])],[(2, .ty 4)]⟩
 |22=>some ⟨true,[],[],[(3,[(4, .ty 3),(1, .loc 24),(3, .ty 3)])],[(3,[(3, .ty 3)])],[(2, .ty 3)]⟩
 |23=>some ⟨true,[],[],[(3,[(4, .ty 3),(3, .ty 3),(1, .loc 24)])],[(3,[(3, .ty 3)])],[(2, .ty 3)]⟩
 |24=>some ⟨false,[],[],[(4,[(17, .ty 3),(5, .any),(3, .any),(15, .any),(16, .ty 3)])],[(4,[])],[]⟩
 |25=>some ⟨true,[],[(7,2),(7,0),(7,3),(8,3),(8,0),(8,6),(0,0)],[(4,[(9, .ty 3),(3, .grow none),(4, .ty 3),(7, .any),(8, .ty 3)])],[(4,[(3, .grow none)])],[(2, .ty 29)]⟩
 |26=>some ⟨true,[],[],[],[],[(2, .ty 4)]⟩
 |27=>some ⟨true,[],[],[(4,[(7, .ty 3),(2, .ty 3),(3, .loc 24),(1, .ty 3)])],[(4,[])],[(6, .ty 4)]⟩
 |28=>some ⟨true,[],[],[(4,[(5, .ty 3),(1, .ty 3),(2, .loc 24)])],[(4,[])],[(4, .ty 4)]⟩
 |29=>some ⟨true,[],[(6,2),(6,0),(6,3),(7,6),(7,0),(7,7),(0,0)],[(3,[(4, .ty 3),(0, .any),(3, .grow none)])],[(3,[(3, .grow none)])],[(2, .ty 29)]⟩
 |30=>some ⟨true,[],[(6,8),(6,0),(6,9),(7,3),(7,0),(7,4),(8,9),(8,0),(8,10),(12,9),(12,0),(12,10),(16,8),(16,0),(16,9),(17,9),(17,0),(17,10),(24,5),(24,0),(24,6),(25,3),(25,0),(25,4),(26,5),(26,0),(26,6),(27,3),(27,0),(27,4),(0,1)],[(19,[(10, .ty 3),(2, .ty 3),(1, .any),(9, .grow (some 2)),(3, .loc 24)])],[(19,[(9, .grow (some 2))])],[(6, .ty 47)]⟩
 |31=>some ⟨true,[],[],[],[],[(2, .ty 4)]⟩
 |32=>some ⟨true,[],[(13,6),(13,0),(13,7),(16,6),(16,0),(16,7),(0,0),(2,0),(8,0)],[(1000000,[(5, .grow (some 2)),(4, .ty 9),(2, .any),(3, .ty 30)])],[(1000000,[(2, .ty 47),(3, .ty 30)])],[(2, .ty 47),(3, .ty 30)]⟩
 |33=>some ⟨true,[],[],[(3,[(9, .ty 3),(3, .ty 3),(7, .any),(8, .ty 3)])],[(3,[(3, .ty 3)])],[(2, .ty 3)]⟩
 |34=>some ⟨true,[3],[],[(3,[(3, .any)])],[],[(2, .ty 3)]⟩
 |35=>some ⟨false,[4],[],[(4,[(4, .any),(3, .any)])],[],[(4, .ref)]⟩
 |36=>some ⟨true,[],[],[],[],[(4, .ty 4)]⟩
 |37=>some ⟨true,[],[],[],[],[(2, .ty 4)]⟩
 |38=>some ⟨false,[],[],[],[],[(6, .ty 4)]⟩
 |39=>some ⟨false,[],[],[],[],[(2, .locA (some 3))]⟩
 |40=>some ⟨false,[],[],[],[],[]⟩
 |41=>some ⟨false,[],[(0,8),(0,4),(0,11)],[],[],[]⟩
 |42=>some ⟨false,[],[],[],[],[]⟩
 |43=>some ⟨false,[],[],[],[],[]⟩
 |44=>some ⟨false,[],[],[],[],[]⟩
 |45=>some ⟨false,[],[(3,8),(3,4),(3,11)],[(1,[(8, .ty 3),(0, .ref),(6, .any),(7, .ty 3)])],[(1,[])],[]⟩
 |46=>some ⟨false,[],[],[],[],[]⟩
 |47=>some ⟨false,[],[],[],[],[]⟩
 |48=>some ⟨true,[],[],[],[],[(2, .ty 4)]⟩
 |49=>some ⟨false,[],[],[],[],[]⟩
 |50=>some ⟨true,[],[],[(19,[(3, .ty 3),(1, .loc 24)])],[(19,[])],[(2, .ty 4)]⟩
 |51=>some ⟨true,[],[],[],[],[(4, .ty 3)]⟩
 |52=>some ⟨true,[],[],[],[],[(2, .locA (some 2))]⟩
 |53=>some ⟨true,[],[],[],[],[(2, .locA (some 2))]⟩
 |54=>some ⟨true,[],[],[],[],[(2, .locA (some 2))]⟩
 |55=>some ⟨true,[],[],[],[],[(2, .ty 4)]⟩
 |56=>some ⟨true,[],[(15,9),(15,0),(15,10),(25,8),(25,0),(25,9),(0,0),(2,0),(18,0)],[(5,[(5, .ty 3),(0, .any),(4, .grow (some 2))]),(12,[(5, .ty 3),(0, .any),(4, .grow (some 2))]),(20,[(0, .any),(9, .ty 3),(5, .ty 3),(4, .grow (some 2)),(8, .ty 4)])],[(5,[(4, .grow (some 2))]),(12,[(5, .ty 3),(0, .ty 29),(4, .grow (some 2))]),(20,[(0, .ty 29),(9, .ty 3),(5, .ty 3),(4, .grow (some 2))])],[(2, .ty 47),(3, .ty 30)]⟩
 |57=>some ⟨true,[],[],[],[],[(2, .ty 4)]⟩
 |58=>some ⟨true,[],[],[],[],[(2, .ty 3)]⟩
 |59=>some ⟨true,[],[],[],[],[(4, .ty 4)]⟩
 |60=>some ⟨true,[],[],[],[],[(2, .ty 4)]⟩
 |61=>some ⟨true,[],[],[(2,[(0, .ty 9),(6, .any)])],[(2,[(0, .ty 9)])],[(2, .ty 3)]⟩
 |62=>some ⟨false,[],[],[],[],[(2, .any)]⟩
 |63=>some ⟨false,[],[],[],[],[(6, .locA (some 3))]⟩
 |64=>some ⟨true,[],[],[],[],[(2, .ty 9)]⟩
 |65=>some ⟨true,[],[],[(2,[(0, .ty 3),(3, .ty 9)])],[(2,[])],[(2, .ty 9)]⟩
 |66=>some ⟨true,[],[],[],[],[(2, .ty 4)]⟩
 |67=>some ⟨true,[],[],[],[],[(2, .ty 4)]⟩
 |68=>some ⟨true,[],[],[],[],[(4, .ty 3)]⟩
 |69=>some ⟨true,[],[],[(1000001,[(8, .ty 3),(9, .ty 3),(1, .ty 21),(0, .ty 9),(7, .ty 9),(4, .ty 3)]),(5,[(8, .ty 3),(1, .ty 21),(0, .ty 9),(7, .ty 9),(10, .ty 3),(9, .ty 3)]),(1000000,[(8, .ty 3),(1, .ty 21),(0, .ty 9),(7, .ty 9),(9, .ty 3),(10, .ty 3)]),(12,[(8, .ty 3),(1, .ty 21),(0, .ty 9),(7, .ty 9),(9, .ty 3),(10, .ty 3),(12, .ty 3)]),(1000002,[(9, .ty 3),(8, .ty 3),(7, .ty 9),(0, .ty 9),(15, .ty 5),(14, .ty 5)]),(25,[(9, .ty 3),(8, .ty 3),(7, .ty 9),(0, .ty 9),(15, .ty 5),(14, .ty 5)]),(29,[(8, .ty 3),(7, .ty 9),(0, .ty 9),(15, .ty 5),(14, .ty 5),(9, .ty 3),(16, .ty 3)]),(38,[(175, .any)])],[(1000001,[(4, .ty 3)]),(5,[(8, .ty 3),(9, .ty 3),(1, .ty 21),(0, .ty 9),(7, .ty 9)]),(1000000,[(8, .ty 3),(1, .ty 21),(0, .ty 9),(7, .ty 9),(10, .ty 3),(9, .ty 3)]),(12,[(8, .ty 3),(9, .ty 3),(1, .ty 21),(0, .ty 9),(7, .ty 9),(10, .ty 3)]),(1000002,[]),(25,[]),(29,[(8, .ty 3),(9, .ty 3),(7, .ty 9),(0, .ty 9),(15, .ty 5),(14, .ty 5)]),(38,[])],[(4, .ty 3)]⟩
 |70=>some ⟨false,[],[],[],[],[]⟩
 |71=>some ⟨false,[],[],[(4,[(18, .ty 3),(2, .any),(3, .loc 24),(1, .ty 3),(16, .any),(17, .ty 3)])],[(4,[])],[(6, .ty 4)]⟩
 |72=>some ⟨false,[],[],[],[],[(4, .ty 4)]⟩
 |73=>some ⟨false,[],[],[],[],[]⟩
 |74=>some ⟨false,[],[],[],[],[(2, .ty 9)]⟩
 |75=>some ⟨false,[],[(1,9)],[],[],[(8, .locA (some 3))]⟩
 |76=>some ⟨false,[],[(10,7),(10,1),(10,9),(8,3)],[(9,[(8, .dloc (some 3) [.ct .int, .ct .int, .grow (some 3)]),(2, .ty 3),(1, .any),(0, .ref),(6, .locA (some 3))])],[(9,[(6, .locA (some 3)),(8, .dloc (some 3) [.ct .int, .ct .int, .grow (some 3)])])],[(6, .locA (some 3))]⟩
 |77=>some ⟨true,[],[],[],[],[(2, .ty 9)]⟩
 |78=>some ⟨true,[],[],[],[],[(4, .ty 3)]⟩
 |79=>some ⟨true,[],[],[],[],[(2, .ty 4)]⟩
 |80=>some ⟨true,[],[],[],[],[(2, .ty 3)]⟩
 |82=>some ⟨true,[],[],[],[],[(2, .ty 4)]⟩
 |83=>some ⟨false,[],[],[],[],[(4, .ty 9)]⟩
 |84=>some ⟨false,[],[],[],[],[(2, .ty 4)]⟩
 |85=>some ⟨false,[],[],[],[],[(4, .locA (some 3))]⟩
 |86=>some ⟨false,[],[],[],[],[(6, .locA (some 3))]⟩
 |87=>some ⟨false,[],[(5,1),(10,0),(12,1),(13,1)],[(2,[(6, .locA (some 3)),(11, .ty 3),(4, .loc 9),(2, .any),(0, .ref),(10, .ty 3)])],[(2,[(6, .locA (some 3)),(0, .ref),(4, .loc 9)])],[(6, .locA (some 3))]⟩
 |88=>some ⟨false,[],[],[],[],[(6, .locA (some 3))]⟩
 |89=>some ⟨true,[],[],[],[],[(4, .ty 9)]⟩
 |91=>some ⟨false,[],[],[(2,[(8, .ty 3),(0, .any),(1, .any),(7, .ty 3)])],[(2,[])],[(4, .ty 3)]⟩
 |92=>some ⟨false,[],[],[],[],[(3, .ty 4)]⟩
 |93=>some ⟨true,[],[],[],[],[(2, .ty 4)]⟩
 |94=>some ⟨true,[],[],[],[],[(2, .ty 9)]⟩
 |95=>some ⟨true,[],[],[],[],[(2, .ty 3)]⟩
 |96=>some ⟨true,[],[],[(1,[(4, .ty 3),(0, .any),(1, .ty 98)])],[(1,[(0, .ty 29),(4, .ty 3),(1, .ty 98)])],[]⟩
 |97=>some ⟨true,[],[(29,3),(29,0),(29,4)],[(18,[(12, .loc 106),(17, .ty 98),(1, .ty 98),(13, .ty 3),(11, .ty 9),(0, .any),(10, .grow none),(4, .ty 4),(3, .ty 4)]),(11,[(14, .ty 89),(1, .ty 98),(12, .loc 106),(16, .ty 89),(13, .ty 3),(11, .ty 9),(0, .any),(10, .grow none),(4, .ty 4),(3, .ty 4),(15, .ty 98)])],[(18,[(11, .ty 9),(12, .loc 106),(0, .ty 29),(10, .grow none),(4, .ty 4),(3, .ty 4),(1, .ty 98),(13, .ty 3)]),(11,[(11, .ty 9),(12, .loc 106),(0, .ty 29),(10, .grow none),(4, .ty 4),(3, .ty 4),(1, .ty 98),(13, .ty 3)])],[(10, .grow none),(11, .ty 9)]⟩
 |98=>some ⟨true,[1],[],[(3,[(1, .any)])],[],[(2, .locA (some 3))]⟩
 |99=>some ⟨true,[],[],[],[],[(2, .ty 3)]⟩
 |100=>some ⟨true,[],[],[],[],[(2, .ty 3)]⟩
 |101=>some ⟨true,[],[],[],[],[(2, .ty 3)]⟩
 |102=>some ⟨true,[],[],[],[],[(2, .ty 4)]⟩
 |103=>some ⟨true,[],[],[],[],[(2, .ty 3)]⟩
 |104=>some ⟨false,[1],[],[],[],[(2, .any)]⟩
 |105=>some ⟨true,[],[],[],[],[(2, .ty 3)]⟩
 |106=>some ⟨true,[],[],[],[],[(2, .ty 3)]⟩
 |107=>some ⟨false,[],[],[(0,[(1, .any),(0, .any)])],[(0,[])],[]⟩
 |130=>some ⟨true,[],[],[],[],[]⟩
 |_=>none
def cfg:Cfg:=Cfg.of zq7 [87] []
end Go.Proofs.SW
namespace Go.Proofs.SW
open Go Go.AM Go.RowKit
set_option maxRecDepth 100000
theorem names:(Tryd.prog.funcs.all fun fn=>fn.name != "runtime.NumGoroutine")=true:=by kernel_rfl
theorem zof:((List.range Tryd.prog.funcs.size).all fun g=>match growElem Tryd.prog g with|none=>true|some e=>false)=true:=by kernel_rfl
theorem plainNames:PlainNames Tryd.prog where
 names f fn h e:=by
  have:=Array.all_eq_true_iff_forall_mem.1 names fn (Array.mem_of_getElem? h)
  simp[e]at this
 grow g e h:=by
  have hg:g<Tryd.prog.funcs.size:=by
   unfold growElem at h
   split at h
   ·rename_i hh;exact(Array.getElem?_eq_some_iff.1 hh).1
   ·cases h
  have:=List.all_eq_true.1 zof g (List.mem_range.2 hg)
  simp only[h]at this
  cases this
end Go.Proofs.SW
namespace Go.Proofs.SW
open Go Go.AM Go.RowKit
set_option maxRecDepth 100000
noncomputable def ext:Ext:=fun f=>bif Nat.beq f 64 then some (fun _ args st=>zmd args st)else none
def zoZ:Go.Shelf.Ren:=⟨fun|129=>100|171=>64|243=>77|246=>89|283=>94|284=>95|285=>96|286=>97|317=>99|318=>101|319=>102|320=>103|337=>105|338=>106|n=>n,fun|0=>0|2=>2|3=>3|4=>4|5=>5|9=>9|20=>20|37=>29|46=>89|51=>105|53=>98|171=>97|173=>101|212=>104|213=>106|232=>113|233=>114|n=>n,fun|17=>1|18=>2|19=>3|n=>n⟩
theorem zog:Lays.n171 Tryd.prog zoZ where
 mixed:=by kernel_rfl
 f129:=Tryd.func100.trans (congrArg some (by kernel_rfl))
 f171:=Tryd.func64.trans (congrArg some (by kernel_rfl))
 f243:=Tryd.func77.trans (congrArg some (by kernel_rfl))
 f246:=Tryd.func89.trans (congrArg some (by kernel_rfl))
 f283:=Tryd.func94.trans (congrArg some (by kernel_rfl))
 f284:=Tryd.func95.trans (congrArg some (by kernel_rfl))
 f285:=Tryd.func96.trans (congrArg some (by kernel_rfl))
 f286:=Tryd.func97.trans (congrArg some (by kernel_rfl))
 f317:=Tryd.func99.trans (congrArg some (by kernel_rfl))
 f318:=Tryd.func101.trans (congrArg some (by kernel_rfl))
 f319:=Tryd.func102.trans (congrArg some (by kernel_rfl))
 f320:=Tryd.func103.trans (congrArg some (by kernel_rfl))
 f337:=Tryd.func105.trans (congrArg some (by kernel_rfl))
 f338:=Tryd.func106.trans (congrArg some (by kernel_rfl))
 t0:=Tryd.underlying0
 a0:=Tryd.isAgg0
 z0:=Tryd.sizeOf0
 v0:=Tryd.zeroValue0
 t2:=Tryd.underlying2
 a2:=Tryd.isAgg2
 z2:=Tryd.sizeOf2
 v2:=Tryd.zeroValue2
 t3:=Tryd.underlying3
 a3:=Tryd.isAgg3
 z3:=Tryd.sizeOf3
 v3:=Tryd.zeroValue3
 t4:=Tryd.underlying4
 a4:=Tryd.isAgg4
 z4:=Tryd.sizeOf4
 v4:=Tryd.zeroValue4
 t5:=Tryd.underlying5
 a5:=Tryd.isAgg5
 z5:=Tryd.sizeOf5
 v5:=Tryd.zeroValue5
 t9:=Tryd.underlying9
 a9:=Tryd.isAgg9
 z9:=Tryd.sizeOf9
 v9:=Tryd.zeroValue9
 t20:=Tryd.underlying20
 a20:=Tryd.isAgg20
 z20:=Tryd.sizeOf20
 v20:=Tryd.zeroValue20
 t37:=Tryd.underlying29
 a37:=Tryd.isAgg29
 z37:=Tryd.sizeOf29
 v37:=Tryd.zeroValue29
 t46:=Tryd.underlying89
 a46:=Tryd.isAgg89
 z46:=Tryd.sizeOf89
 v46:=Tryd.zeroValue89
 t51:=Tryd.underlying105
 a51:=Tryd.isAgg105
 z51:=Tryd.sizeOf105
 v51:=Tryd.zeroValue105
 t53:=Tryd.underlying98
 a53:=Tryd.isAgg98
 z53:=Tryd.sizeOf98
 v53:=Tryd.zeroValue98
 t171:=Tryd.underlying97
 a171:=Tryd.isAgg97
 z171:=Tryd.sizeOf97
 v171:=Tryd.zeroValue97
 t173:=Tryd.underlying101
 a173:=Tryd.isAgg101
 z173:=Tryd.sizeOf101
 v173:=Tryd.zeroValue101
 t212:=Tryd.underlying104
 a212:=Tryd.isAgg104
 z212:=Tryd.sizeOf104
 v212:=Tryd.zeroValue104
 t213:=Tryd.underlying106
 a213:=Tryd.isAgg106
 z213:=Tryd.sizeOf106
 t232:=Tryd.underlying113
 a232:=Tryd.isAgg113
 z232:=Tryd.sizeOf113
 v232:=Tryd.zeroValue113
 t233:=Tryd.underlying114
 a233:=Tryd.isAgg114
 z233:=Tryd.sizeOf114
 v233:=Tryd.zeroValue114
 g17:=by kernel_rfl
 g18:=by kernel_rfl
 g19:=by kernel_rfl
theorem zpL:znQ Tryd.prog 64:=⟨⟨_,Tryd.func64,rfl⟩,fun i hi w=>Any.strconv_Itoa_small zog i hi w⟩
theorem extOK:zfe Tryd.prog cfg ext:=fun f x h O hC hRd args st y hy=>by
 unfold ext at h
 cases h64:Nat.beq f 64
 case true=>
  rw[h64]at h
  cases h
  obtain rfl:=Nat.eq_of_beq_eq_true h64
  exact znR zpL hy
 rw[h64]at h
 cases h
theorem zgf:zcl ext:=fun f x h=>by
 unfold ext at h
 cases h64:Nat.beq f 64
 case true=>
  rw[h64]at h
  cases h
  exact fun Os O hO args st x hx=> .of fun _=>hx
 rw[h64]at h
 cases h
class NoExt(f:Nat):Prop where
 h:ext f=none
instance:NoExt 2:=⟨rfl⟩
instance:NoExt 3:=⟨rfl⟩
instance:NoExt 4:=⟨rfl⟩
instance:NoExt 5:=⟨rfl⟩
instance:NoExt 6:=⟨rfl⟩
instance:NoExt 7:=⟨rfl⟩
instance:NoExt 8:=⟨rfl⟩
instance:NoExt 9:=⟨rfl⟩
instance:NoExt 10:=⟨rfl⟩
instance:NoExt 11:=⟨rfl⟩
instance:NoExt 12:=⟨rfl⟩
instance:NoExt 13:=⟨rfl⟩
instance:NoExt 14:=⟨rfl⟩
instance:NoExt 15:=⟨rfl⟩
instance:NoExt 16:=⟨rfl⟩
instance:NoExt 17:=⟨rfl⟩
instance:NoExt 18:=⟨rfl⟩
instance:NoExt 19:=⟨rfl⟩
instance:NoExt 20:=⟨rfl⟩
instance:NoExt 21:=⟨rfl⟩
instance:NoExt 22:=⟨rfl⟩
instance:NoExt 23:=⟨rfl⟩
instance:NoExt 24:=⟨rfl⟩
instance:NoExt 25:=⟨rfl⟩
instance:NoExt 26:=⟨rfl⟩
instance:NoExt 27:=⟨rfl⟩
instance:NoExt 28:=⟨rfl⟩
instance:NoExt 29:=⟨rfl⟩
instance:NoExt 30:=⟨rfl⟩
instance:NoExt 31:=⟨rfl⟩
instance:NoExt 32:=⟨rfl⟩
instance:NoExt 33:=⟨rfl⟩
instance:NoExt 34:=⟨rfl⟩
instance:NoExt 35:=⟨rfl⟩
instance:NoExt 36:=⟨rfl⟩
instance:NoExt 37:=⟨rfl⟩
instance:NoExt 38:=⟨rfl⟩
instance:NoExt 39:=⟨rfl⟩
instance:NoExt 40:=⟨rfl⟩
instance:NoExt 41:=⟨rfl⟩
instance:NoExt 42:=⟨rfl⟩
instance:NoExt 43:=⟨rfl⟩
instance:NoExt 44:=⟨rfl⟩
instance:NoExt 45:=⟨rfl⟩
instance:NoExt 46:=⟨rfl⟩
instance:NoExt 47:=⟨rfl⟩
instance:NoExt 48:=⟨rfl⟩
instance:NoExt 49:=⟨rfl⟩
instance:NoExt 50:=⟨rfl⟩
instance:NoExt 51:=⟨rfl⟩
instance:NoExt 52:=⟨rfl⟩
instance:NoExt 53:=⟨rfl⟩
instance:NoExt 54:=⟨rfl⟩
instance:NoExt 55:=⟨rfl⟩
instance:NoExt 56:=⟨rfl⟩
instance:NoExt 57:=⟨rfl⟩
instance:NoExt 58:=⟨rfl⟩
instance:NoExt 59:=⟨rfl⟩
instance:NoExt 60:=⟨rfl⟩
instance:NoExt 61:=⟨rfl⟩
instance:NoExt 62:=⟨rfl⟩
instance:NoExt 63:=⟨rfl⟩
instance:NoExt 65:=⟨rfl⟩
instance:NoExt 66:=⟨rfl⟩
instance:NoExt 67:=⟨rfl⟩
instance:NoExt 68:=⟨rfl⟩
instance:NoExt 69:=⟨rfl⟩
instance:NoExt 70:=⟨rfl⟩
instance:NoExt 71:=⟨rfl⟩
instance:NoExt 72:=⟨rfl⟩
instance:NoExt 73:=⟨rfl⟩
instance:NoExt 74:=⟨rfl⟩
instance:NoExt 75:=⟨rfl⟩
instance:NoExt 76:=⟨rfl⟩
instance:NoExt 77:=⟨rfl⟩
instance:NoExt 78:=⟨rfl⟩
instance:NoExt 79:=⟨rfl⟩
instance:NoExt 80:=⟨rfl⟩
instance:NoExt 82:=⟨rfl⟩
instance:NoExt 83:=⟨rfl⟩
instance:NoExt 84:=⟨rfl⟩
instance:NoExt 85:=⟨rfl⟩
instance:NoExt 86:=⟨rfl⟩
instance:NoExt 87:=⟨rfl⟩
instance:NoExt 88:=⟨rfl⟩
instance:NoExt 89:=⟨rfl⟩
instance:NoExt 91:=⟨rfl⟩
instance:NoExt 92:=⟨rfl⟩
instance:NoExt 93:=⟨rfl⟩
instance:NoExt 94:=⟨rfl⟩
instance:NoExt 95:=⟨rfl⟩
instance:NoExt 96:=⟨rfl⟩
instance:NoExt 97:=⟨rfl⟩
instance:NoExt 98:=⟨rfl⟩
instance:NoExt 99:=⟨rfl⟩
instance:NoExt 100:=⟨rfl⟩
instance:NoExt 101:=⟨rfl⟩
instance:NoExt 102:=⟨rfl⟩
instance:NoExt 103:=⟨rfl⟩
instance:NoExt 104:=⟨rfl⟩
instance:NoExt 105:=⟨rfl⟩
instance:NoExt 106:=⟨rfl⟩
instance:NoExt 107:=⟨rfl⟩
instance:NoExt 130:=⟨rfl⟩
end Go.Proofs.SW
namespace Go.Ama
abbrev Bytes:=List UInt8
abbrev Tok:=Int×Bytes
def blank(c:UInt8):Bool:=c==32||c==9||c==10
def mark(c:UInt8):Bool:=c==40||c==41||c==91||c==93||c==123||c==125||c==58||c==46
def named(c:UInt8):Bool:=(decide (97≤c)&&decide (c≤122))||(decide (65≤c)&&decide (c≤90))||(decide (48≤c)&&decide (c≤57))||c==95||c==39
def Yc(c:UInt8):Bool:=c !=10
theorem Ym{α:Type}(p:α→Bool): ∀l:List α,(l.dropWhile p).length≤l.length
 |[]=>Nat.le_refl _
 |x::l=>by
  rw[List.dropWhile_cons]
  split
  ·have:=Ym p l;simp;omega
  ·exact Nat.le_refl _
def Xb:Bytes→Option (List Tok)
 |[]=>some []
 |c::r=>
  if blank c then Xb r
  else if c==37 then Xb (r.dropWhile Yc)
  else if mark c then(Xb r).map ((1,[c]):: ·)
  else if named c then(Xb (r.dropWhile named)).map ((0,c::r.takeWhile named):: ·)
  else none
termination_by l=>l.length
decreasing_by
 all_goals first
  |(simp;done)
  |(have:=Ym Yc r;simp;omega)
  |(have:=Ym named r;simp;omega)
def Xr:Int→List Tok→Bytes
 |_,[]=> []
 |last,(k,s)::l=>(if k=0∧last=0 then[32]else[])++s++Xr k l
def text(l:List Tok):Bytes:=Xr 1 l
theorem zgg:Xb []=some []:=by unfold Xb;rfl
theorem zgh{c:UInt8}(r:Bytes)(h:blank c=true):Xb (c::r)=Xb r:=by rw[Xb,if_pos h]
theorem zhE{c:UInt8}(r:Bytes)(h:c=37):Xb (c::r)=Xb (r.dropWhile Yc):=by subst h;rw[Xb,if_neg (by decide),if_pos (by decide)]
theorem zdw{c:UInt8}(h:mark c=true):blank c=false∧(c==37)=false∧named c=false:=by
 simp only[mark,Bool.or_eq_true,beq_iff_eq]at h
 rcases h with((((((h|h)|h)|h)|h)|h)|h)|h<;>subst h<;>decide
theorem QL{p:UInt8→Prop}(h: ∀n:Fin 256,p (UInt8.ofNat n.val))(c:UInt8):p c:=by
 have:=h ⟨c.toNat,c.toNat_lt⟩
 simpa using this
theorem zmR: ∀n:Fin 256,named (UInt8.ofNat n.val)=true→blank (UInt8.ofNat n.val)=false∧(UInt8.ofNat n.val==37)=false∧mark (UInt8.ofNat n.val)=false∧Yc (UInt8.ofNat n.val)=true:=by decide+kernel
theorem zcn{c:UInt8}(h:named c=true):blank c=false∧(c==37)=false∧mark c=false∧Yc c=true:=by
 exact QL (p:=fun c=>named c=true→blank c=false∧(c==37)=false∧mark c=false∧Yc c=true) zmR c h
theorem zhF{c:UInt8}(r:Bytes)(h:mark c=true):Xb (c::r)=(Xb r).map ((1,[c]):: ·):=by
 obtain⟨h1,h2,_⟩:=zdw h
 rw[Xb,if_neg (by simp[h1]),if_neg (by simp[h2]),if_pos h]
theorem zhG{c:UInt8}(r:Bytes)(h:named c=true):Xb (c::r)=(Xb (r.dropWhile named)).map ((0,c::r.takeWhile named):: ·):=by
 obtain⟨h1,h2,h3,_⟩:=zcn h
 rw[Xb,if_neg (by simp[h1]),if_neg (by simp[h2]),if_neg (by simp[h3]),if_pos h]
theorem zgi{c:UInt8}(r:Bytes)(h1:blank c=false)(h2:(c==37)=false)(h3:mark c=false)(h4:named c=false):Xb (c::r)=none:=by
 rw[Xb,if_neg (by simp[h1]),if_neg (by simp[h2]),if_neg (by simp[h3]),if_neg (by simp[h4])]
theorem zhH{p:Bytes→Prop}(h0:p [])(h1: ∀c r,blank c=true→p r→p (c::r))(h2: ∀r,p (r.dropWhile Yc)→p (37::r))(h3: ∀c r,mark c=true→p r→p (c::r))
  (h4: ∀c r,named c=true→p (r.dropWhile named)→p (c::r)) (h5: ∀c r,blank c=false→(c==37)=false→mark c=false→named c=false→p (c::r)): ∀l,p l:=by
 intro l
 generalize hn:l.length=n
 induction n using Nat.strongRecOn generalizing l with
 |_ n ih=>
  subst hn
  cases l with
  |nil=>exact h0
  |cons c r=>
   cases b1:blank c with
   |true=>exact h1 c r b1 (ih r.length (by simp) r rfl)
   |false=>
    cases b2:c==37 with
    |true=>
     rw[beq_iff_eq]at b2;subst b2
     exact h2 r (ih _ (by have:=Ym Yc r;simp;omega) _ rfl)
    |false=>
     cases b3:mark c with
     |true=>exact h3 c r b3 (ih r.length (by simp) r rfl)
     |false=>
      cases b4:named c with
      |true=>exact h4 c r b4 (ih _ (by have:=Ym named r;simp;omega) _ rfl)
      |false=>exact h5 c r b1 b2 b3 b4
theorem Qg{α:Type}(p:α→Bool)(l:List α):(l.takeWhile p).length+(l.dropWhile p).length=l.length:=by
 rw[←List.length_append,List.takeWhile_append_dropWhile]
def Yn:List Tok→Nat
 |[]=>0
 |(_,s)::l=>s.length+Yn l
theorem zbE: ∀(l:List Tok) (k:Int),(Xr k l).length≤Yn l+l.length
 |[],_=>by simp[Xr]
 |(j,s)::l,k=>by
  have:=zbE l j
  simp only[Xr,Yn,List.length_append,List.length_cons]
  split<;>simp<;>omega
end Go.Ama
namespace Go.Ama
open Go Go.AM
def ba(l:Bytes):ByteArray:=⟨l.toArray⟩
def ZM(l:Bytes):List V:=l.map fun b=> .ik .u8 (b.toNat:Int)
def Yz(t:Tok):V:= .agg [.int t.1, .str (ba t.2)]
def Zg(l:List Tok):List V:=l.map Yz
theorem zpa(s:ByteArray):ba s.data.toList=s:=by cases s;simp[ba]
theorem zpM{a b:Bytes}:ba a=ba b↔a=b:=by
 constructor
 ·intro h
  have:(ba a).data.toList=(ba b).data.toList:=by rw[h]
  simpa[ba]using this
 ·rintro rfl;rfl
theorem Y6(l:Bytes):(ba l).size=l.length:=by simp[ba,ByteArray.size]
theorem JJ(l:Bytes):(ba l).toList=l:=by rw[ByteArray.toList_eq];simp[ba]
theorem zgj(l:Bytes):(ba l).data.toList=l:=by simp[ba]
theorem zcJ(a b:Bytes):ba a++ba b=ba (a++b):=by
 apply ByteArray.ext
 simp[ba,ByteArray.data_append]
theorem zdx(l:Bytes)(i j:Nat):(ba l).extract i j=ba ((l.take j).drop i):=by
 apply ByteArray.ext
 simp[ba,ByteArray.data_extract,List.drop_take]
theorem zhI(a b:Bytes):((ba a).toList==(ba b).toList)=decide (a=b):=by
 rw[JJ,JJ]
 by_cases h:a=b<;>simp[h]
theorem Qp(l:Bytes):ZI (ba l)=ZM l:=by simp[ZI,ba,ZM]
theorem zaP(l:Bytes):YH (ZM l)=ba l:=by
 unfold YH ZM ba
 congr 1
 rw[List.map_map]
 congr 1
 conv=>rhs;rw[←List.map_id l]
 apply List.map_congr_left
 intro b _
 simp[zie]
theorem zeD(l:Bytes):(ZM l).all zbM=true:=by
 rw[List.all_eq_true]
 intro v hv
 obtain⟨b,_,rfl⟩:=List.mem_map.1 hv
 rfl
@[simp] theorem ZC(l:Bytes):(ZM l).length=l.length:=by simp[ZM]
theorem Qh(a b:Bytes):ZM (a++b)=ZM a++ZM b:=by simp[ZM]
theorem zhJ(l:Bytes)(n:Nat):(ZM l).take n=ZM (l.take n):=by simp[ZM,List.map_take]
theorem zhK(l:Bytes)(n:Nat):(ZM l).drop n=ZM (l.drop n):=by simp[ZM,List.map_drop]
@[simp] theorem ZT(l:List Tok):(Zg l).length=l.length:=by simp[Zg]
theorem Y7(a b:List Tok):Zg (a++b)=Zg a++Zg b:=by simp[Zg]
theorem Jc{l:Bytes}{i:Nat}(h:i<l.length):Yf (ZM l) (i:Int)= .ik .u8 (l[i].toNat:Int):=by
 simp[Yf,ZM,List.getD_eq_getElem?_getD,List.getElem?_map,h]
theorem zb0{l:List Tok}{i:Nat}(h:i<l.length):Yf (Zg l) (i:Int)=Yz l[i]:=by
 simp[Yf,Zg,List.getD_eq_getElem?_getD,List.getElem?_map,h]
theorem ZU(n:Nat): ∀l:Bytes,Ze n (ZM l)=true
 |[]=>rfl
 |b::l=>by
  have:=ZU n l
  simp only[ZM]at this
  simp[ZM,Ze,below,this]
theorem Ys(n:Nat): ∀l:List Tok,Ze n (Zg l)=true
 |[]=>rfl
 |t::l=>by
  have:=Ys n l
  simp only[Zg]at this
  simp[Zg,Yz,Ze,below,this]
theorem zpN{l:Bytes}{i:Nat}(h:i<l.length):((ba l).data.toList.getD i 0)=l[i]:=by
 rw[zgj,List.getD_eq_getElem?_getD,List.getElem?_eq_getElem h];rfl
theorem zmf{l:Bytes}{i:Nat}(h:i<l.length):(ba l).get! i=l[i]:=by
 show(ba l).data[i]! =l[i]
 have:(ba l).data=l.toArray:=rfl
 rw[this,getElem!_pos l.toArray i (by simpa using h)]
 simp
theorem zmS{l:Bytes}{i:Nat}(h:i<l.length)(h1:l[i]<128):Utf8.decode (ba l) i=(l[i].toNat,1):=by
 have e:((ba l).get! (i+0)).toNat=l[i].toNat:=by rw[Nat.add_zero,zmf h]
 have h2:l[i].toNat<128:=by simpa[UInt8.lt_iff_toNat_lt]using h1
 unfold Utf8.decode
 simp only[e]
 rw[if_pos h2]
theorem zmT{l:Bytes}{i:Nat}(h:i<l.length)(h1:128≤l[i]):128≤(Utf8.decode (ba l) i).1:=by
 have e:((ba l).get! (i+0)).toNat=l[i].toNat:=by rw[Nat.add_zero,zmf h]
 have h2: ¬l[i].toNat<128:=by
  have:128≤l[i].toNat:=by simpa[UInt8.le_iff_toNat_le]using h1
  omega
 unfold Utf8.decode
 simp only[e]
 rw[if_neg h2]
 split
 ·split
  ·simpa using‹_›
  ·simp[Utf8.runeError]
 ·split
  ·split
   ·rename_i h;simp at h;simp;omega
   ·simp[Utf8.runeError]
  ·split
   ·split
    ·rename_i h;simp at h;simp;omega
    ·simp[Utf8.runeError]
   ·simp[Utf8.runeError]
end Go.Ama
namespace Go.Proofs.SW
open Go Go.AM Go.Ama
noncomputable abbrev W:Oracle:=Om Tryd.prog cfg ext
theorem C(f:Nat)(args:List V)(st:St)[h:NoExt f]:W.call f args st=Zd Tryd.prog cfg W f args st:=
 (zmc zgf f args st).trans (by show(match ext f with|some x=>x W args st|none=>Zd Tryd.prog cfg W f args st)=_;rw[h.h])
theorem Cx(f:Nat){x:Oracle→List V→St→Option (Out×St)}(args:List V)(st:St)(h:ext f=some x):W.call f args st=x W args st:=
 (zmc zgf f args st).trans (by show(match ext f with|some x=>x W args st|none=>Zd Tryd.prog cfg W f args st)=_;rw[h])
theorem L(f key:Nat)(vals:List V)(st:St):W.loop f key vals st=Z3 Tryd.prog cfg W f key vals st:=zoO zgf f key vals st
theorem Rd(l f key:Nat)(vals args:List V)(st:St):W.round l f key vals args st=XK Tryd.prog cfg W l f key vals args st:=znP zgf l f key vals args st
def Ev(f:Nat)(args:List V)(v:V):Prop:=W.call f args []=some (.ret v,[])
theorem Ev.p{f:Nat}{args:List V}{v:V}(h:Ev f args v)(h1:Ze 0 args=true:=by simp[Ze,below])(h2:below 0 v=true:=by simp[below,Ze]):Zi W f args=some v:=znU h h1 h2
noncomputable def zac(m f:Nat)(args:List V):Option Bool:=
 match(Xw Tryd.prog cfg ext m).call f args []with
 |some (.ret (.bool b),[])=>some b
 |_=>none
theorem Ev.of_check{m f:Nat}{args:List V}{b:Bool}(h:zac m f args=some b):Ev f args (.bool b):=by
 unfold zac at h
 split at h
 ·rename_i b' hc
  cases h
  exact zcF ((zfu zgf m).call _ _ _ _ hc)
 ·cases h
end Go.Proofs.SW
namespace Go.Proofs.SW
open Go Go.AM
set_option maxRecDepth 20000
theorem ziP(O:Oracle)(l0:(List V)):Zd Tryd.prog cfg O 32 [.vec .plain none l0] []=
 bc (decide ((↑l0.length:Int)>20000)) (some (Out.ret (V.tup [V.vec .plain (some 2) [],V.int 4]),[])) (gd (l0.all zbM) (bc ((YH l0).toList==[]) (some (Out.ret (V.tup
 [V.vec .plain (some 2) [],V.int 0]),[])) (gd (true&&decide (0<(↑(YH l0).size:Int))) (Za (Zi O 57 [V.ik IntKind.i32 (IntKind.i32.wrap (↑((YH
 l0).data.toList.getD (Int.toNat 0) 0).toNat:Int))]) fun r1=>Zp r1 fun b2=>bc b2 (gd (true&&decide (1≤(↑(YH l0).size:Int))&&decide ((↑(YH l0).size:Int)≤
 (↑(YH l0).size:Int))&&true) (Za (O.loop 32 1000000 [V.vec Mode.grow (some 2) [],V.str ((YH l0).extract 1 (↑(YH l0).size:Int).toNat),V.vec .plain (some
 2) [],V.int 0] []) fun r3=>YV r3.fst (Zf r3.snd.fst fun v4 c5=>ZV (some 2) v4 fun l6=>Zf c5 fun v7 c8=>Zv v7 fun n9=>Zj c8 (gd (below 0 (V.tup [V.vec
 .plain (some 2) l6,V.int n9])&&Z4 0 []) (some (Out.ret (V.tup [V.vec .plain (some 2) l6,V.int n9]),[])))) (Zf r3.snd.fst fun v10 c11=>ZV (some 2) v10 fun l12=>
 Zf c11 fun v13 c14=>Zv v13 fun n15=>Zj c14 (gd (below 0 (V.tup [V.vec .plain (some 2) l12,V.int n15])&&Z4 0 []) (some (Out.ret (V.tup [V.vec .plain (some 2)
 l12,V.int n15]),[])))) (fun i16=>none) fun v17=>none)) (bc (IntKind.i32.wrap (↑((YH l0).data.toList.getD (Int.toNat 0) 0).toNat:Int)==37) (Za (Zi O 58
 [V.str (YH l0)]) fun r18=>Zv r18 fun n19=>gd (decide (0≤n19)&&decide (n19≤(↑(YH l0).size:Int))&&decide ((↑(YH l0).size:Int)≤(↑(YH l0).size:Int))&&
 true) (Za (O.loop 32 1000000 [V.vec Mode.grow (some 2) [],V.str ((YH l0).extract n19.toNat (↑(YH l0).size:Int).toNat),V.vec .plain (some 2) [],V.int 0] [])
 fun r20=>YV r20.fst (Zf r20.snd.fst fun v21 c22=>ZV (some 2) v21 fun l23=>Zf c22 fun v24 c25=>Zv v24 fun n26=>Zj c25 (gd (below 0 (V.tup [V.vec .plain
 (some 2) l23,V.int n26])&&Z4 0 []) (some (Out.ret (V.tup [V.vec .plain (some 2) l23,V.int n26]),[])))) (Zf r20.snd.fst fun v27 c28=>ZV (some 2) v27 fun l29=>
 Zf c28 fun v30 c31=>Zv v30 fun n32=>Zj c31 (gd (below 0 (V.tup [V.vec .plain (some 2) l29,V.int n32])&&Z4 0 []) (some (Out.ret (V.tup [V.vec .plain (some 2)
 l29,V.int n32]),[])))) (fun i33=>none) fun v34=>none)) (Za (Zi O 59 [V.str {data:= #[40,41,91,93,123,125,58,46]},V.ik IntKind.i32
 (IntKind.i32.wrap (↑((YH l0).data.toList.getD (Int.toNat 0) 0).toNat:Int))]) fun r35=>Zp r35 fun b36=>bc b36 (gd (true&&decide (1≤(↑(YH l0).size:Int))&&true)
 (gd (true&&decide (1≤(↑(YH l0).size:Int))&&decide ((↑(YH l0).size:Int)≤(↑(YH l0).size:Int))&&true) (Za (O.loop 32 1000000 [V.vec Mode.grow (some
 2) [V.agg [V.int 1,V.str ((YH l0).extract 0 1)]],V.str ((YH l0).extract 1 (↑(YH l0).size:Int).toNat),V.vec .plain (some 2) [],V.int 0] []) fun r37=>YV r37.fst
 (Zf r37.snd.fst fun v38 c39=>ZV (some 2) v38 fun l40=>Zf c39 fun v41 c42=>Zv v41 fun n43=>Zj c42 (gd (below 0 (V.tup [V.vec .plain (some 2) l40,V.int
 n43])&&Z4 0 []) (some (Out.ret (V.tup [V.vec .plain (some 2) l40,V.int n43]),[])))) (Zf r37.snd.fst fun v44 c45=>ZV (some 2) v44 fun l46=>Zf c45 fun v47
 c48=>Zv v47 fun n49=>Zj c48 (gd (below 0 (V.tup [V.vec .plain (some 2) l46,V.int n49])&&Z4 0 []) (some (Out.ret (V.tup [V.vec .plain (some 2) l46,V.int n49]),
 [])))) (fun i50=>none) fun v51=>none))) (Za (Zi O 60 [V.ik IntKind.i32 (IntKind.i32.wrap (↑((YH l0).data.toList.getD (Int.toNat 0) 0).toNat:Int))]) fun r52
 =>Zp r52 fun b53=>bc b53 (Za (Zi O 61 [V.str (YH l0)]) fun r54=>Zv r54 fun n55=>gd (true&&decide (0≤n55)&&decide (n55≤(↑(YH l0).size:
 Int))&&true) (gd (decide (0≤n55)&&decide (n55≤(↑(YH l0).size:Int))&&decide ((↑(YH l0).size:Int)≤(↑(YH l0).size:Int))&&true) (Za (O.loop 32
 1000000 [V.vec Mode.grow (some 2) [V.agg [V.int 0,V.str ((YH l0).extract 0 n55.toNat)]],V.str ((YH l0).extract n55.toNat (↑(YH l0).size:Int).toNat),V.vec .plain (some
 2) [],V.int 0] []) fun r56=>YV r56.fst (Zf r56.snd.fst fun v57 c58=>ZV (some 2) v57 fun l59=>Zf c58 fun v60 c61=>Zv v60 fun n62=>Zj c61 (gd (below 0
 (V.tup [V.vec .plain (some 2) l59,V.int n62])&&Z4 0 []) (some (Out.ret (V.tup [V.vec .plain (some 2) l59,V.int n62]),[])))) (Zf r56.snd.fst fun v63 c64=>ZV
 (some 2) v63 fun l65=>Zf c64 fun v66 c67=>Zv v66 fun n68=>Zj c67 (gd (below 0 (V.tup [V.vec .plain (some 2) l65,V.int n68])&&Z4 0 []) (some (Out.ret (V.tup
 [V.vec .plain (some 2) l65,V.int n68]),[])))) (fun i69=>none) fun v70=>none))) (some (Out.ret (V.tup [V.vec .plain (some 2) [],V.int 8]),[]))))))))):=by kernel_rfl
theorem Ya(O:Oracle)(l0:(List V))(s1:ByteArray)(l2:(List V))(n3:Int):Z3 Tryd.prog cfg O 32 1000000 [.vec .grow (some 2) l0, .str s1, .vec .plain (some 2) l2, .int n3] []=
 bc (s1.toList==[]) (some (Ex.ret,[V.vec .plain (some 2) l0,V.int 0],[])) (gd (true&&decide (0<(↑s1.size:Int))) (Za (Zi O 57 [V.ik IntKind.i32
 (IntKind.i32.wrap (↑(s1.data.toList.getD (Int.toNat 0) 0).toNat:Int))]) fun r1=>Zp r1 fun b2=>bc b2 (gd (true&&decide (1≤(↑s1.size:Int))&&decide ((↑s1.size:
 Int)≤(↑s1.size:Int))&&true) (O.2 32 1000000 [V.vec Mode.grow (some 2) l0,V.str (s1.extract 1 (↑s1.size:Int).toNat),V.vec .plain (some 2) l2,V.int n3] [])) (bc
 (IntKind.i32.wrap (↑(s1.data.toList.getD (Int.toNat 0) 0).toNat:Int)==37) (Za (Zi O 58 [V.str s1]) fun r3=>Zv r3 fun n4=>gd (decide (0≤n4)&&decide (n4
 ≤(↑s1.size:Int))&&decide ((↑s1.size:Int)≤(↑s1.size:Int))&&true) (O.2 32 1000000 [V.vec Mode.grow (some 2) l0,V.str (s1.extract n4.toNat (↑s1.size:
 Int).toNat),V.vec .plain (some 2) l2,V.int n3] [])) (Za (Zi O 59 [V.str {data:= #[40,41,91,93,123,125,58,46]},V.ik IntKind.i32
 (IntKind.i32.wrap (↑(s1.data.toList.getD (Int.toNat 0) 0).toNat:Int))]) fun r5=>Zp r5 fun b6=>bc b6 (gd (true&&decide (1≤(↑s1.size:Int))&&true) (gd (true&&
 roomFor Tryd.prog 58 (l0.length+[V.agg [V.int 1,V.str (s1.extract 0 1)]].length)) (gd (true&&decide (1≤(↑s1.size:Int))&&decide ((↑s1.size:Int)≤(↑s1.size:
 Int))&&true) (O.2 32 1000000 [V.vec Mode.grow (some 2) (l0++[V.agg [V.int 1,V.str (s1.extract 0 1)]]),V.str (s1.extract 1 (↑s1.size:Int).toNat),V.vec .plain
 (some 2) l2,V.int n3] [])))) (Za (Zi O 60 [V.ik IntKind.i32 (IntKind.i32.wrap (↑(s1.data.toList.getD (Int.toNat 0) 0).toNat:Int))]) fun r7=>Zp r7 fun b8=>
 bc b8 (Za (Zi O 61 [V.str s1]) fun r9=>Zv r9 fun n10=>gd (true&&decide (0≤n10)&&decide (n10≤(↑s1.size:Int))&&true) (gd (true&&roomFor Tryd.prog
 58 (l0.length+[V.agg [V.int 0,V.str (s1.extract 0 n10.toNat)]].length)) (gd (decide (0≤n10)&&decide (n10≤(↑s1.size:Int))&&decide ((↑s1.size:Int)≤
 (↑s1.size:Int))&&true) (O.2 32 1000000 [V.vec Mode.grow (some 2) (l0++[V.agg [V.int 0,V.str (s1.extract 0 n10.toNat)]]),V.str (s1.extract n10.toNat (↑s1.size:
 Int).toNat),V.vec .plain (some 2) l2,V.int n3] [])))) (some (Ex.ret,[V.vec .plain (some 2) [],V.int 8],[]))))))):=by kernel_rfl
theorem zgk(O:Oracle)(l0:(List V)):Zd Tryd.prog cfg O 56 [.vec .plain none l0] []=
 bc (decide ((↑l0.length:Int)>20000)) (some (Out.ret (V.tup [V.vec .plain (some 2) [],V.int 4]),[])) (Za (O.loop 56 5 [V.int 0,V.vec .plain none l0,V.vec
 Mode.grow (some 2) []] []) fun r1=>YV r1.fst none (Zf r1.snd.fst fun v2 c3=>ZV (some 2) v2 fun l4=>Zf c3 fun v5 c6=>Zv v5 fun n7=>Zj c6 (gd (below 0
 (V.tup [V.vec .plain (some 2) l4,V.int n7])&&Z4 0 []) (some (Out.ret (V.tup [V.vec .plain (some 2) l4,V.int n7]),[])))) (fun i8=>bc (i8.beq 0) (Zf r1.snd.fst fun
 v9 c10=>YB (some 2) v9 fun l11=>Zj c10 (gd (below 0 (V.tup [V.vec .plain (some 2) l11,V.int 0])&&Z4 0 []) (some (Out.ret (V.tup [V.vec .plain (some 2) l11,
 V.int 0]),[])))) none) fun v12=>none):=by kernel_rfl
theorem YP(O:Oracle)(n0:Int)(l1:(List V))(l2:(List V)):Z3 Tryd.prog cfg O 56 5 [.int n0, .vec .plain none l1, .vec .grow (some 2) l2] []=
 bc (decide (n0<(↑l1.length:Int))) (gd (decide (0≤n0)&&decide (n0<(↑l1.length:Int))) (zeg IntKind.u8 (Yf l1 n0) fun n1=>Za (Zi O 66 [V.ik
 IntKind.u8 n1]) fun r2=>Zp r2 fun b3=>Za (Zi O 67 [V.ik IntKind.u8 n1]) fun r4=>Zp r4 fun b5=>bc (n1==32) (O.2 56 5 [V.int
 (IntKind.i64.wrap (n0+1)),V.vec .plain none l1,V.vec Mode.grow (some 2) l2] []) (bc (n1==9) (O.2 56 5 [V.int (IntKind.i64.wrap (n0+1)),V.vec .plain none l1,
 V.vec Mode.grow (some 2) l2] []) (bc (n1==10) (O.2 56 5 [V.int (IntKind.i64.wrap (n0+1)),V.vec .plain none l1,V.vec Mode.grow (some 2) l2] []) (bc (n1==37)
 (Za (O.loop 56 12 [V.int n0,V.vec .plain none l1,V.vec Mode.grow (some 2) l2] []) fun r6=>YV r6.fst none none (fun i7=>bc (i7.beq 2) (Zf r6.snd.fst fun
 v8 c9=>Zv v8 fun n10=>Zf c9 fun v11 c12=>ZV none v11 fun l13=>Zf c12 fun v14 c15=>YB (some 2) v14 fun l16=>Zj c15 (O.2 56 5 [V.int
 n10,V.vec .plain none l13,V.vec Mode.grow (some 2) l16] r6.snd.snd)) none) fun v17=>none) (bc b3 (gd (decide (0≤n0)&&decide (n0≤IntKind.i64.wrap (n0+1))&&decide
 (IntKind.i64.wrap (n0+1)≤(↑l1.length:Int))) (gd ((List.drop n0.toNat (List.take (IntKind.i64.wrap (n0+1)).toNat l1)).all zbM) (gd (true&&roomFor Tryd.prog 58
 (l2.length+[V.agg [V.int 1,V.str (YH (List.drop n0.toNat (List.take (IntKind.i64.wrap (n0+1)).toNat l1)))]].length)) (O.2 56 5 [V.int (IntKind.i64.wrap (n0+
 1)),V.vec .plain none l1,V.vec Mode.grow (some 2) (l2++[V.agg [V.int 1,V.str (YH (List.drop n0.toNat (List.take (IntKind.i64.wrap (n0+1)).toNat l1)))]])] [])))) (bc (!b5)
 (some (Ex.ret,[V.vec .plain (some 2) [],V.int 8],[])) (Za (O.loop 56 20 [V.vec .plain none l1,V.int n0,V.int n0,V.vec Mode.grow (some 2) l2,V.bool b5] [])
 fun r18=>YV r18.fst none none (fun i19=>bc (i19.beq 4) (Zf r18.snd.fst fun v20 c21=>ZV none v20 fun l22=>Zf c21 fun v23 c24=>Zv v23 fun n25=>Zf c24
 fun v26 c27=>Zv v26 fun n28=>Zf c27 fun v29 c30=>YB (some 2) v29 fun l31=>Zj c30 (gd (decide (0≤n28)&&decide (n28≤n25)&&decide (n25≤(↑l22.length:
 Int))) (gd ((List.drop n28.toNat (List.take n25.toNat l22)).all zbM) (gd (true&&roomFor Tryd.prog 58 (l31.length+[V.agg [V.int 0,V.str (YH (List.drop n28.toNat
 (List.take n25.toNat l22)))]].length)) (O.2 56 5 [V.int n25,V.vec .plain none l22,V.vec Mode.grow (some 2) (l31++[V.agg [V.int 0,V.str (YH (List.drop n28.toNat
 (List.take n25.toNat l22)))]])] r18.snd.snd))))) none) fun v32=>none)))))))) (some (Ex.exit 0,[V.vec Mode.grow (some 2) l2],[])):=by kernel_rfl
theorem zad(O:Oracle)(n0:Int)(l1:(List V))(l2:(List V)):Z3 Tryd.prog cfg O 56 12 [.int n0, .vec .plain none l1, .vec .grow (some 2) l2] []=
 bc (decide (n0<(↑l1.length:Int))) (gd (decide (0≤n0)&&decide (n0<(↑l1.length:Int))) (zeg IntKind.u8 (Yf l1 n0) fun n1=>bc (n1 !=10) (O.2 56 12 [V.int
 (IntKind.i64.wrap (n0+1)),V.vec .plain none l1,V.vec Mode.grow (some 2) l2] []) (some (Ex.exit 2,[V.int n0,V.vec .plain none l1,V.vec Mode.grow (some 2) l2],[])))) (some
 (Ex.exit 2,[V.int n0,V.vec .plain none l1,V.vec Mode.grow (some 2) l2],[])):=by kernel_rfl
theorem Q3(O:Oracle)(l0:(List V))(n1:Int)(n2:Int)(l3:(List V))(b4:Bool):Z3 Tryd.prog cfg O 56 20 [.vec .plain none l0, .int n1, .int n2, .vec .grow (some 2) l3, .bool b4] []=
 bc b4 (bc (decide (IntKind.i64.wrap (n1+1)<(↑l0.length:Int))) (gd (decide (0≤IntKind.i64.wrap (n1+1))&&decide (IntKind.i64.wrap (n1+1)<(↑l0.length:Int))) (zeg
 IntKind.u8 (Yf l0 (IntKind.i64.wrap (n1+1))) fun n1_1=>Za (Zi O 67 [V.ik IntKind.u8 n1_1]) fun r2=>Zp r2 fun b3=>O.2 56 20 [V.vec .plain
 none l0,V.int (IntKind.i64.wrap (n1+1)),V.int n2,V.vec Mode.grow (some 2) l3,V.bool b3] [])) (O.2 56 20 [V.vec .plain none l0,V.int (IntKind.i64.wrap (n1+1)),
 V.int n2,V.vec Mode.grow (some 2) l3,V.bool (decide (IntKind.i64.wrap (n1+1)<(↑l0.length:Int)))] [])) (some (Ex.exit 4,[V.vec .plain none l0,V.int n1,V.int n2,V.vec
 Mode.grow (some 2) l3],[])):=by kernel_rfl
theorem zlr(O:Oracle)(l0:(List V)):Zd Tryd.prog cfg O 25 [.vec .plain (some 2) l0] []=
 Za (O.loop 25 4 [V.int 0,V.vec Mode.grow none [],V.int 1,V.vec .plain (some 2) l0,V.int (↑l0.length:Int)] []) fun r1=>YV r1.fst none none (fun i2=>bc
 (i2.beq 0) (Zf r1.snd.fst fun v3 c4=>YB none v3 fun l5=>Zj c4 (gd (below 0 (V.vec .plain none l5)&&Z4 0 []) (some (Out.ret (V.vec .plain none l5),[]))))
 none) fun v6=>none:=by kernel_rfl
theorem zde(O:Oracle)(n0:Int)(l1:(List V))(n2:Int)(l3:(List V))(n4:Int):Z3 Tryd.prog cfg O 25 4 [.int n0, .vec .grow none l1, .int n2, .vec .plain (some 2) l3, .int n4] []=
 bc (decide (n0<n4)) (gd (decide (0≤n0)&&decide (n0<(↑l3.length:Int))) (Zl [CT.int,CT.str] (Yf l3 n0) fun n1 s2=>bc (n1==0) (bc (n2==0) (gd (true&&
 roomFor Tryd.prog 5 (l1.length+1)) (gd (true&&roomFor Tryd.prog 5 ((l1++[V.ik IntKind.u8 32]).length+(ZI s2).length)) (O.2 25 4 [V.int
 (IntKind.i64.wrap (n0+1)),V.vec Mode.grow none (l1++[V.ik IntKind.u8 32]++ZI s2),V.int n1,V.vec .plain (some 2) l3,V.int n4] []))) (gd (true&&roomFor Tryd.prog
 5 (l1.length+(ZI s2).length)) (O.2 25 4 [V.int (IntKind.i64.wrap (n0+1)),V.vec Mode.grow none (l1++ZI s2),V.int n1,V.vec .plain (some 2) l3,
 V.int n4] []))) (gd (true&&roomFor Tryd.prog 5 (l1.length+(ZI s2).length)) (O.2 25 4 [V.int (IntKind.i64.wrap (n0+1)),V.vec Mode.grow none (l1++ZI
 s2),V.int n1,V.vec .plain (some 2) l3,V.int n4] [])))) (some (Ex.exit 0,[V.vec Mode.grow none l1],[])):=by kernel_rfl
theorem ziQ(O:Oracle)(l0:(List V)):Zd Tryd.prog cfg O 29 [.vec .plain (some 2) l0] []=
 Za (O.loop 29 3 [V.int 0,V.vec .plain (some 2) l0,V.vec Mode.grow none []] []) fun r1=>YV r1.fst none none (fun i2=>bc (i2.beq 0) (Zf r1.snd.fst fun v3 c4
 =>YB none v3 fun l5=>Zj c4 (gd (below 0 (V.vec .plain none l5)&&Z4 0 []) (some (Out.ret (V.vec .plain none l5),[])))) none) fun v6=>none:=by kernel_rfl
theorem zbF(O:Oracle)(n0:Int)(l1:(List V))(l2:(List V)):Z3 Tryd.prog cfg O 29 3 [.int n0, .vec .plain (some 2) l1, .vec .grow none l2] []=
 bc (decide (n0<(↑l1.length:Int))) (bc (decide (n0>0)) (gd (decide (0≤n0)&&decide (n0<(↑l1.length:Int))) (Y1 (Yf l1 n0) fun c1=>gd (decide (1≤c1.length))
 (Zv (AM.partOf c1 0 none) fun n2=>bc (n2==0) (gd (decide (0≤IntKind.i64.wrap (n0-1))&&decide (IntKind.i64.wrap (n0-1)<(↑l1.length:Int))) (Y1 (Yf l1
 (IntKind.i64.wrap (n0-1))) fun c3=>gd (decide (1≤c3.length)) (Zv (AM.partOf c3 0 none) fun n4=>bc (n4==0) (gd (true&&roomFor Tryd.prog 5 (l2.length+1))
 (gd (decide (0≤n0)&&decide (n0<(↑l1.length:Int))) (Y1 (Yf l1 n0) fun c5=>gd (decide (2≤c5.length)) (YA (AM.partOf c5 1 none) fun s6=>gd (true&&roomFor
 Tryd.prog 5 ((l2++[V.ik IntKind.u8 32]).length+(ZI s6).length)) (O.2 29 3 [V.int (IntKind.i64.wrap (n0+1)),V.vec .plain (some 2) l1,V.vec Mode.grow
 none (l2++[V.ik IntKind.u8 32]++ZI s6)] []))))) (gd (decide (0≤n0)&&decide (n0<(↑l1.length:Int))) (Y1 (Yf l1 n0) fun c7=>gd (decide (2≤c7.length)) (YA
 (AM.partOf c7 1 none) fun s8=>gd (true&&roomFor Tryd.prog 5 (l2.length+(ZI s8).length)) (O.2 29 3 [V.int (IntKind.i64.wrap (n0+1)),V.vec .plain
 (some 2) l1,V.vec Mode.grow none (l2++ZI s8)] []))))))) (gd (decide (0≤n0)&&decide (n0<(↑l1.length:Int))) (Y1 (Yf l1 n0) fun c9=>gd (decide (2≤c9.length))
 (YA (AM.partOf c9 1 none) fun s10=>gd (true&&roomFor Tryd.prog 5 (l2.length+(ZI s10).length)) (O.2 29 3 [V.int (IntKind.i64.wrap (n0+1)),V.vec
 .plain (some 2) l1,V.vec Mode.grow none (l2++ZI s10)] []))))))) (gd (decide (0≤n0)&&decide (n0<(↑l1.length:Int))) (Y1 (Yf l1 n0) fun c11=>gd (decide (2≤
 c11.length)) (YA (AM.partOf c11 1 none) fun s12=>gd (true&&roomFor Tryd.prog 5 (l2.length+(ZI s12).length)) (O.2 29 3 [V.int (IntKind.i64.wrap (n0+
 1)),V.vec .plain (some 2) l1,V.vec Mode.grow none (l2++ZI s12)] []))))) (some (Ex.exit 0,[V.vec Mode.grow none l2],[])):=by kernel_rfl
theorem zkh(O:Oracle)(n0:Int):Zd Tryd.prog cfg O 57 [.ik .i32 n0] []=
 bc (n0==32) (some (Out.ret (V.bool true),[])) (bc (n0==9) (some (Out.ret (V.bool true),[])) (some (Out.ret (V.bool (n0==10)),[]))):=by kernel_rfl
theorem zls(O:Oracle)(s0:ByteArray):Zd Tryd.prog cfg O 58 [.str s0] []=
 Za (Zi O 68 [V.str s0,V.ik IntKind.u8 10]) fun r1=>Zv r1 fun n2=>bc (decide (n2≥0)) (some (Out.ret (V.int n2),[])) (some (Out.ret (V.int
 (↑s0.size:Int)),[])):=by kernel_rfl
theorem zki(O:Oracle)(n0:Int):Zd Tryd.prog cfg O 60 [.ik .i32 n0] []=
 bc (decide (n0≥97)) (bc (decide (n0≤122)) (some (Out.ret (V.bool true),[])) (bc (decide (n0≥65)) (bc (decide (n0≤90)) (some (Out.ret (V.bool true),[])) (bc (decide (n0≥
 48)) (bc (decide (n0≤57)) (some (Out.ret (V.bool true),[])) (bc (n0==95) (some (Out.ret (V.bool true),[])) (some (Out.ret (V.bool (n0==39)),[])))) (bc (n0==95) (some
 (Out.ret (V.bool true),[])) (some (Out.ret (V.bool (n0==39)),[]))))) (bc (decide (n0≥48)) (bc (decide (n0≤57)) (some (Out.ret (V.bool true),[])) (bc (n0==95) (some
 (Out.ret (V.bool true),[])) (some (Out.ret (V.bool (n0==39)),[])))) (bc (n0==95) (some (Out.ret (V.bool true),[])) (some (Out.ret (V.bool (n0==39)),[])))))) (bc (decide
 (n0≥65)) (bc (decide (n0≤90)) (some (Out.ret (V.bool true),[])) (bc (decide (n0≥48)) (bc (decide (n0≤57)) (some (Out.ret (V.bool true),[])) (bc (n0==95) (some (Out.ret
 (V.bool true),[])) (some (Out.ret (V.bool (n0==39)),[])))) (bc (n0==95) (some (Out.ret (V.bool true),[])) (some (Out.ret (V.bool (n0==39)),[]))))) (bc (decide (n0≥48))
 (bc (decide (n0≤57)) (some (Out.ret (V.bool true),[])) (bc (n0==95) (some (Out.ret (V.bool true),[])) (some (Out.ret (V.bool (n0==39)),[])))) (bc (n0==95) (some
 (Out.ret (V.bool true),[])) (some (Out.ret (V.bool (n0==39)),[]))))):=by kernel_rfl
theorem zlt(O:Oracle)(s0:ByteArray):Zd Tryd.prog cfg O 61 [.str s0] []=
 Za (O.loop 61 2 [V.str s0,V.ref 0 0] [Res.iter s0 0]) fun r1=>YV r1.fst none (Zf r1.snd.fst fun v2 c3=>Zv v2 fun n4=>Zj c3 (some (Out.ret (V.int n4),
 []))) (fun i5=>bc (i5.beq 0) (Zf r1.snd.fst fun v6 c7=>YA v6 fun s8=>Zj c7 (some (Out.ret (V.int (↑s8.size:Int)),[]))) none) fun v9=>none:=by kernel_rfl
theorem za8(O:Oracle)(s0 t:ByteArray)(p:Nat):Z3 Tryd.prog cfg O 61 2 [.str s0, .ref 0 0] [.iter t p]=
 bc (decide (p<t.size)) (Za (Zi O 60 [V.ik IntKind.i32 (↑(Utf8.decode t p).fst:Int)]) fun r1=>Zp r1 fun b2=>bc (!b2) (some (Ex.ret,[V.int (↑p:Int)],
 [Res.iter t (p+(Utf8.decode t p).snd)])) (O.2 61 2 [V.str s0,V.ref 0 0] [Res.iter t (p+(Utf8.decode t p).snd)])) (some (Ex.exit 0,[V.str s0],[Res.iter t p])):=by kernel_rfl
theorem ziR(O:Oracle)(n0:Int):Zd Tryd.prog cfg O 66 [.ik .u8 n0] []=
 bc (n0==40) (some (Out.ret (V.bool true),[])) (bc (n0==41) (some (Out.ret (V.bool true),[])) (bc (n0==91) (some (Out.ret (V.bool true),[])) (bc (n0==93) (some (Out.ret
 (V.bool true),[])) (bc (n0==123) (some (Out.ret (V.bool true),[])) (bc (n0==125) (some (Out.ret (V.bool true),[])) (bc (n0==58) (some (Out.ret (V.bool true),[])) (some
 (Out.ret (V.bool (n0==46)),[])))))))):=by kernel_rfl
theorem zhb(O:Oracle)(n0:Int):Zd Tryd.prog cfg O 67 [.ik .u8 n0] []=
 bc (decide (n0≥97)) (bc (decide (n0≤122)) (some (Out.ret (V.bool true),[])) (bc (decide (n0≥65)) (bc (decide (n0≤90)) (some (Out.ret (V.bool true),[])) (bc (decide (n0≥
 48)) (bc (decide (n0≤57)) (some (Out.ret (V.bool true),[])) (bc (n0==95) (some (Out.ret (V.bool true),[])) (some (Out.ret (V.bool (n0==39)),[])))) (bc (n0==95) (some
 (Out.ret (V.bool true),[])) (some (Out.ret (V.bool (n0==39)),[]))))) (bc (decide (n0≥48)) (bc (decide (n0≤57)) (some (Out.ret (V.bool true),[])) (bc (n0==95) (some
 (Out.ret (V.bool true),[])) (some (Out.ret (V.bool (n0==39)),[])))) (bc (n0==95) (some (Out.ret (V.bool true),[])) (some (Out.ret (V.bool (n0==39)),[])))))) (bc (decide
 (n0≥65)) (bc (decide (n0≤90)) (some (Out.ret (V.bool true),[])) (bc (decide (n0≥48)) (bc (decide (n0≤57)) (some (Out.ret (V.bool true),[])) (bc (n0==95) (some (Out.ret
 (V.bool true),[])) (some (Out.ret (V.bool (n0==39)),[])))) (bc (n0==95) (some (Out.ret (V.bool true),[])) (some (Out.ret (V.bool (n0==39)),[]))))) (bc (decide (n0≥48))
 (bc (decide (n0≤57)) (some (Out.ret (V.bool true),[])) (bc (n0==95) (some (Out.ret (V.bool true),[])) (some (Out.ret (V.bool (n0==39)),[])))) (bc (n0==95) (some
 (Out.ret (V.bool true),[])) (some (Out.ret (V.bool (n0==39)),[]))))):=by kernel_rfl
theorem zcN(O:Oracle)(s0:ByteArray)(n1:Int):Zd Tryd.prog cfg O 68 [.str s0, .ik .u8 n1] []=
 Za (Zi O 78 [V.str s0,V.ik IntKind.u8 n1]) fun r1=>Zv r1 fun n2=>some (Out.ret (V.int n2),[]):=by kernel_rfl
theorem QM(O:Oracle)(s0:ByteArray)(n1:Int):Zd Tryd.prog cfg O 78 [.str s0, .ik .u8 n1] []=
 Za (gd true (some (V.int (firstIdx s0 n1.toNat.toUInt8)))) fun r1=>Zv r1 fun n2=>some (Out.ret (V.int n2),[]):=by kernel_rfl
end Go.Proofs.SW
namespace Go.Proofs.SW
open Go Go.AM Go.Ama
theorem Jd(b:UInt8):((b.toNat:Int)==32||((b.toNat:Int)==9||(b.toNat:Int)==10))=Ama.blank b:=
 QL (p:=fun b=>((b.toNat:Int)==32||((b.toNat:Int)==9||(b.toNat:Int)==10))=Ama.blank b) (by decide+kernel) b
theorem zmU(b:UInt8):IntKind.i32.wrap (b.toNat:Int)=b.toNat:=
 QL (p:=fun b=>IntKind.i32.wrap (b.toNat:Int)=b.toNat) (by decide+kernel) b
theorem Xs(b:UInt8):((b.toNat:Int)==37)=(b==37):=
 QL (p:=fun b=>((b.toNat:Int)==37)=(b==37)) (by decide+kernel) b
theorem Je(c:Int):Ev 57 [.ik .i32 c] (.bool (c==32||(c==9||c==10))):=by
 unfold Ev
 rw[C,zkh]
 cases h1:(c==32)<;>cases h2:(c==9)<;>rfl
def zco(c:Int):Bool:=(decide (c≥97)&&decide (c≤122))||(decide (c≥65)&&decide (c≤90))||(decide (c≥48)&&decide (c≤57))||c==95||c==39
theorem zae(c:Int):Ev 60 [.ik .i32 c] (.bool (zco c)):=by
 unfold Ev zco
 rw[C,zki]
 generalize decide (c≥97)=a1
 generalize decide (c≤122)=a2
 generalize decide (c≥65)=a3
 generalize decide (c≤90)=a4
 generalize decide (c≥48)=a5
 generalize decide (c≤57)=a6
 generalize(c==95)=a7
 generalize(c==39)=a8
 cases a1<;>cases a2<;>cases a3<;>cases a4<;>cases a5<;>cases a6<;>cases a7<;>cases a8<;>rfl
theorem Jf(b:UInt8):zco (b.toNat:Int)=named b:=
 QL (p:=fun b=>zco (b.toNat:Int)=named b) (by decide+kernel) b
theorem zfi{c:Int}(h:128≤c):zco c=false:=by
 have h1: ¬c≤122:=by omega
 have h2: ¬c≤90:=by omega
 have h3: ¬c≤57:=by omega
 have h4:(c==95)=false:=by simp;omega
 have h5:(c==39)=false:=by simp;omega
 simp[zco,h1,h2,h3,h4,h5]
theorem zlu{b:UInt8}(h:128≤b):named b=false:=by
 rw[←Jf];exact zfi (by
                      have:128≤b.toNat:=by simpa[UInt8.le_iff_toNat_le]using h
                      omega)
theorem zhL(s:ByteArray)(l:Bytes): ∀k p,p+k=l.length→ ∃st',W.loop 61 2 [.str s, .ref 0 0] [.iter (ba l) p]=some (if(l.drop p).all named then(Ex.exit 0,[V.str s],st')else(Ex.ret,[V.int ((p+((l.drop p).takeWhile named).length:Nat):Int)],st'))
 |0,p,h=>by
  refine⟨[.iter (ba l) p], ?_⟩
  rw[L,za8]
  have:l.drop p=[]:=by rw[List.drop_eq_nil_iff];omega
  have h2: ¬p<l.length:=by omega
  simp[this,Y6,h2,bc]
 |k+1,p,h=>by
  have hp:p<l.length:=by omega
  obtain⟨st',ih⟩:=zhL s l k (p+1) (by omega)
  have hd:l.drop p=l[p]::l.drop (p+1):=List.drop_eq_getElem_cons hp
  have hsz:decide (p<(ba l).size)=true:=by rw[Y6];simpa using hp
  by_cases h8:l[p]<128
  ·rw[L,za8,zmS hp h8,hsz]
   simp only[(zae _).p,Jf,hd,List.all_cons,List.takeWhile_cons]
   cases hn:named l[p]with
   |true=>
    refine⟨st', ?_⟩
    show W.loop _ _ _ _=_
    rw[ih]
    cases(l.drop (p+1)).all named
    ·simp;omega
    ·simp
   |false=>exact⟨[.iter (ba l) (p+1)],by simp[bc]⟩
  ·have h8':128≤l[p]:=by
    rw[UInt8.lt_iff_toNat_lt]at h8
    rw[UInt8.le_iff_toNat_le]
    simpa using h8
   have hge:=zmT hp h8'
   refine⟨[.iter (ba l) (p+(Utf8.decode (ba l) p).2)], ?_⟩
   rw[L,za8,hsz]
   simp only[(zae _).p,zfi (c:=((Utf8.decode (ba l) p).1:Int)) (by omega),hd,List.all_cons,List.takeWhile_cons,zlu h8']
   simp[bc]
theorem zeE{p:UInt8→Bool}{l:Bytes}(h:l.all p=true):l.takeWhile p=l:=by
 induction l with
 |nil=>rfl
 |cons x l ih=>simp only[List.all_cons,Bool.and_eq_true]at h;simp[List.takeWhile_cons,h.1,ih h.2]
theorem zhM(l:Bytes):Ev 61 [.str (ba l)] (.int (l.takeWhile named).length):=by
 unfold Ev
 rw[C,zlt]
 obtain⟨st',h⟩:=zhL (ba l) l l.length 0 (by omega)
 rw[h,List.drop_zero]
 cases ha:l.all named with
 |true=>simp[zeE ha,Y6,bc]
 |false=>simp
theorem zgl: ∀l:Bytes,Lib.indexByte l 10=if(l.takeWhile Yc).length<l.length then((l.takeWhile Yc).length:Int)else-1
 |[]=>rfl
 |c::l=>by
  rw[Lib.indexByte,zgl l]
  cases h:(c==10)with
  |true=>simp[List.takeWhile_cons,Yc,bne,h]
  |false=>
   have hi:Yc c=true:=by simp[Yc,bne,h]
   simp only[List.takeWhile_cons,hi,if_true,List.length_cons]
   by_cases hl:(l.takeWhile Yc).length<l.length
   ·have h2:((((l.takeWhile Yc).length:Nat):Int)== -1)=false:=by simp
    rw[if_pos hl,h2,if_pos (Nat.succ_lt_succ hl)]
    simp
   ·rw[if_neg hl,if_neg (fun h=>hl (Nat.lt_of_succ_lt_succ h))];rfl
theorem zhN(l:Bytes):Ev 58 [.str (ba l)] (.int (l.takeWhile Yc).length):=by
 have h1:Ev 78 [.str (ba l), .ik .u8 10] (.int (Lib.indexByte l 10)):=by
  unfold Ev
  rw[C,QM,Lib.firstIdx_eq,zgj]
  rfl
 have h2:Ev 68 [.str (ba l), .ik .u8 10] (.int (Lib.indexByte l 10)):=by
  unfold Ev
  rw[C,zcN,h1.p]
  rfl
 unfold Ev
 rw[C,zls,h2.p,zgl]
 have h3:=Qg Yc l
 by_cases h:(l.takeWhile Yc).length<l.length
 ·have h4:((l.takeWhile Yc).length:Int)≥0:=by omega
  simp[h,h4,bc]
 ·have h4:(l.takeWhile Yc).length=l.length:=by omega
  simp[h4,bc,Y6]
theorem zkj: ∀n:Fin 32,zac 12 59 [.str (ba [40,41,91,93,123,125,58,46]), .ik .i32 ((UInt8.ofNat (n.val+0)).toNat:Int)]=some (Ama.mark (UInt8.ofNat (n.val+0))):=by decide+kernel
theorem zkk: ∀n:Fin 32,zac 12 59 [.str (ba [40,41,91,93,123,125,58,46]), .ik .i32 ((UInt8.ofNat (n.val+32)).toNat:Int)]=some (Ama.mark (UInt8.ofNat (n.val+32))):=by decide+kernel
theorem zkl: ∀n:Fin 32,zac 12 59 [.str (ba [40,41,91,93,123,125,58,46]), .ik .i32 ((UInt8.ofNat (n.val+64)).toNat:Int)]=some (Ama.mark (UInt8.ofNat (n.val+64))):=by decide+kernel
theorem zkm: ∀n:Fin 32,zac 12 59 [.str (ba [40,41,91,93,123,125,58,46]), .ik .i32 ((UInt8.ofNat (n.val+96)).toNat:Int)]=some (Ama.mark (UInt8.ofNat (n.val+96))):=by decide+kernel
theorem zkn: ∀n:Fin 32,zac 12 59 [.str (ba [40,41,91,93,123,125,58,46]), .ik .i32 ((UInt8.ofNat (n.val+128)).toNat:Int)]=some (Ama.mark (UInt8.ofNat (n.val+128))):=by decide+kernel
theorem zko: ∀n:Fin 32,zac 12 59 [.str (ba [40,41,91,93,123,125,58,46]), .ik .i32 ((UInt8.ofNat (n.val+160)).toNat:Int)]=some (Ama.mark (UInt8.ofNat (n.val+160))):=by decide+kernel
theorem zkp: ∀n:Fin 32,zac 12 59 [.str (ba [40,41,91,93,123,125,58,46]), .ik .i32 ((UInt8.ofNat (n.val+192)).toNat:Int)]=some (Ama.mark (UInt8.ofNat (n.val+192))):=by decide+kernel
theorem zkq: ∀n:Fin 32,zac 12 59 [.str (ba [40,41,91,93,123,125,58,46]), .ik .i32 ((UInt8.ofNat (n.val+224)).toNat:Int)]=some (Ama.mark (UInt8.ofNat (n.val+224))):=by decide+kernel
theorem ziS(m:Nat)(hm:m<256):zac 12 59 [.str (ba [40,41,91,93,123,125,58,46]), .ik .i32 ((UInt8.ofNat m).toNat:Int)]=some (Ama.mark (UInt8.ofNat m)):=by
 by_cases h0:m<32
 ·have:=zkj ⟨m-0,by omega⟩
  simp only[show m-0+0=m by omega]at this
  exact this
 by_cases h1:m<64
 ·have:=zkk ⟨m-32,by omega⟩
  simp only[show m-32+32=m by omega]at this
  exact this
 by_cases h2:m<96
 ·have:=zkl ⟨m-64,by omega⟩
  simp only[show m-64+64=m by omega]at this
  exact this
 by_cases h3:m<128
 ·have:=zkm ⟨m-96,by omega⟩
  simp only[show m-96+96=m by omega]at this
  exact this
 by_cases h4:m<160
 ·have:=zkn ⟨m-128,by omega⟩
  simp only[show m-128+128=m by omega]at this
  exact this
 by_cases h5:m<192
 ·have:=zko ⟨m-160,by omega⟩
  simp only[show m-160+160=m by omega]at this
  exact this
 by_cases h6:m<224
 ·have:=zkp ⟨m-192,by omega⟩
  simp only[show m-192+192=m by omega]at this
  exact this
 have:=zkq ⟨m-224,by omega⟩
 simp only[show m-224+224=m by omega]at this
 exact this
theorem Jo(c:UInt8):Ev 59 [.str (ba [40,41,91,93,123,125,58,46]), .ik .i32 (c.toNat:Int)] (.bool (Ama.mark c)):=by
 have h:=ziS c.toNat c.toNat_lt
 have e:UInt8.ofNat c.toNat=c:=by simp
 simp only[e]at h
 exact Ev.of_check h
end Go.Proofs.SW
namespace Go.Proofs.SW
open Go Go.AM Go.Ama
theorem YX{n:Nat}(h:n≤1048576):roomFor Tryd.prog 58 n=true:=by
 have:((Tryd.prog.info? 58).map (·.bytes)).getD 0=24:=by kernel_rfl
 unfold roomFor
 rw[this]
 simp only[Bool.and_eq_true,decide_eq_true_eq]
 omega
theorem zeF{n:Nat}(h:n≤10485760):roomFor Tryd.prog 5 n=true:=by
 have:((Tryd.prog.info? 5).map (·.bytes)).getD 0=1:=by kernel_rfl
 unfold roomFor
 rw[this]
 simp only[Bool.and_eq_true,decide_eq_true_eq]
 omega
def J0(acc:List Tok):Option (List Tok)→Ex×List V×St
 |some t=>(Ex.ret,[V.vec .plain (some 2) (Zg (acc++t)),V.int 0],[])
 |none=>(Ex.ret,[V.vec .plain (some 2) [],V.int 8],[])
theorem QD(c:UInt8)(r:Bytes):((ba (c::r)).toList==[])=false:=by rw[JJ];rfl
theorem zaQ(c:UInt8)(r:Bytes):IntKind.i32.wrap (((ba (c::r)).data.toList.getD (Int.toNat 0) 0).toNat:Int)=c.toNat:=by rw[zgj];exact zmU c
theorem zfv(l:Bytes)(n:Nat):(ba l).extract n ((ba l).size:Int).toNat=ba (l.drop n):=by
 rw[zdx,Y6,Int.toNat_natCast,List.take_length]
theorem zoh(l:Bytes)(n:Nat):(ba l).extract n l.length=ba (l.drop n):=by rw[zdx,List.take_length]
theorem zmg(l:Bytes)(n:Nat):(ba l).extract 0 n=ba (l.take n):=by rw[zdx,List.drop_zero]
theorem take_takeWhile{p:UInt8→Bool}: ∀l:Bytes,l.take (l.takeWhile p).length=l.takeWhile p∧l.drop (l.takeWhile p).length=l.dropWhile p
 |[]=>⟨rfl,rfl⟩
 |c::l=>by
  obtain⟨h1,h2⟩:=take_takeWhile (p:=p) l
  rw[List.takeWhile_cons,List.dropWhile_cons]
  split<;>simp[h1,h2]
theorem Qq{p:UInt8→Bool}(l:Bytes):(l.takeWhile p).length≤l.length:=by have:=Qg p l;omega
theorem zcK:V.str {data:= #[40,41,91,93,123,125,58,46]}=V.str (ba [40,41,91,93,123,125,58,46]):=rfl
theorem zkr: ∀(b:Bytes) (acc:List Tok) (l2:List V) (n3:Int),acc.length+b.length≤20000→
  W.loop 32 1000000 [.vec .grow (some 2) (Zg acc), .str (ba b), .vec .plain (some 2) l2, .int n3] []=some (J0 acc (Xb b)):=by
 refine zhH ?_ ?_ ?_ ?_ ?_ ?_
 ·intro acc l2 n3 _
  rw[L,Ya,zgg,JJ]
  simp[J0]
 ·intro c r hc ih acc l2 n3 hl
  simp only[List.length_cons]at hl
  have ih:=ih acc l2 n3 (by omega)
  rw[L,Ya,zgh r hc,QD,zaQ,(Je _).p,Jd,hc,zfv,←ih]
  simp(disch:=omega) [Y6]
 ·intro r ih acc l2 n3 hl
  simp only[List.length_cons]at hl
  have hd:=Ym Yc r
  have ih:=ih acc l2 n3 (by omega)
  have ht:=Qq (p:=Yc) (37::r)
  rw[L,Ya,zhE r rfl,QD,zaQ,(Je _).p,Jd,Xs,(zhN _).p,←ih]
  have h3:(37::r).dropWhile Yc=r.dropWhile Yc:=by simp[List.dropWhile_cons,Yc]
  have h4:Ama.blank 37=false:=by decide
  rw[List.length_cons]at ht
  simp(disch:=omega)only[YE,Zb,Zo,h4,Int.toNat_natCast,zfv,(take_takeWhile (37::r)).2,h3,Y6,List.length_cons,XO,XP,Z0,Zn,Zk,beq_self_eq_true]
  rw[show r.length+1=(37::r:Bytes).length from rfl,zoh,(take_takeWhile (37::r)).2,h3]
 ·intro c r hc ih acc l2 n3 hl
  simp only[List.length_cons]at hl
  have ih:=ih (acc++[(1,[c])]) l2 n3 (by simp;omega)
  obtain⟨h7,h8,_⟩:=zdw hc
  rw[L,Ya,zhF r hc,QD,zaQ,(Je _).p,Jd,Xs,h7,h8,zcK,(Jo c).p,hc,zfv,zmg]
  have he:Zg acc++[V.agg [V.int 1,V.str (ba [c])]]=Zg (acc++[(1,[c])]):=by rw[Y7];rfl
  have hend:J0 acc ((Xb r).map ((1,[c]):: ·))=J0 (acc++[(1,[c])]) (Xb r):=by cases Xb r<;>simp[J0]
  rw[hend,←ih]
  simp(disch:=omega) [he,Y6,YX]
 ·intro c r hc ih acc l2 n3 hl
  simp only[List.length_cons]at hl
  have hd:=Ym named r
  have ih:=ih (acc++[(0,c::r.takeWhile named)]) l2 n3 (by simp;omega)
  obtain⟨h7,h8,h9,_⟩:=zcn hc
  have ht:=Qq (p:=named) r
  have h10:(c::r).dropWhile named=r.dropWhile named:=by simp[List.dropWhile_cons,hc]
  have h11:(c::r).takeWhile named=c::r.takeWhile named:=by simp[List.takeWhile_cons,hc]
  have h12:=take_takeWhile (p:=named) (c::r)
  rw[h10,h11]at h12
  have he:Zg acc++[V.agg [V.int 0,V.str (ba (c::r.takeWhile named))]]=Zg (acc++[(0,c::r.takeWhile named)]):=by rw[Y7];rfl
  have hend:J0 acc ((Xb (r.dropWhile named)).map ((0,c::r.takeWhile named):: ·))=J0 (acc++[(0,c::r.takeWhile named)]) (Xb (r.dropWhile named)):=by cases Xb (r.dropWhile named)<;>simp[J0]
  rw[L,Ya,zhG r hc,QD,zaQ,(Je _).p,Jd,Xs,h7,h8,zcK,(Jo c).p,h9,(zae _).p,Jf,hc,(zhM _).p,h11,hend,←ih]
  simp only[YE,Zb,Zo,Zn,Zk,XO,Z0,Int.toNat_natCast,zfv,zmg,h12.1,h12.2,he,Y6,List.length_cons,ZT]
  simp(disch:=omega)only[XP,YX,List.length_cons,List.length_nil,Z0]
  rw[show r.length+1=(c::r).length from rfl,show(r.takeWhile named).length+1=(c::r.takeWhile named).length from rfl,zoh,h12.1,h12.2,he]
 ·intro c r h1' h2' h3' h4' acc l2 n3 hl
  rw[L,Ya,zgi r h1' h2' h3' h4',QD,zaQ,(Je _).p,Jd,Xs,h1',h2',zcK,(Jo c).p,h3',(zae _).p,Jf,h4']
  simp(disch:=omega) [Y6,J0]
def zb1(b:Bytes):Option (List Tok)×Int:=if b.length>20000 then(none,4)else match Xb b with|some l=>(some l,0)|none=>(none,8)
def za9(x:Option (List Tok)×Int):V:= .tup [.vec .plain (some 2) (Zg (x.1.getD [])), .int x.2]
theorem zlv(l:Bytes):List.all (ZM l) zbM=true:=zeD l
theorem zhO(l:List Tok)(n:Int):below 0 (V.tup [V.vec .plain (some 2) (Zg l),V.int n])=true:=by simp[below,Ze,Ys]
theorem zks(b:Bytes)(hb:b.length≤1048576):Ev 32 [.vec .plain none (ZM b)] (za9 (zb1 b)):=by
 unfold Ev zb1 za9
 rw[C,ziP,ZC,zaP,zlv]
 by_cases hl:b.length>20000
 ·simp(disch:=omega) [hl,Zg]
 ·have hl':b.length≤20000:=by omega
  rw[zdZ (by omega),Z0,if_neg hl]
  have h0:=zkr b [] [] 0 (by simpa using hl')
  rw[L]at h0
  cases b with
  |nil=>rw[JJ,zgg];rfl
  |cons c r=>
   rw[Ya]at h0
   rw[QD]at h0⊢
   simp only[Zn]at h0⊢
   revert h0
   simp only[zaQ,(Je _).p,Jd,Xs,(zhN _).p,zcK,(Jo c).p,(zae _).p,Jf,(zhM _).p,Zb,Zo,YE]
   have fin: ∀(z:Option (Ex×List V×St)),z=some (J0 [] (Xb (c::r)))→(Za z fun r3=>
     YV r3.fst (Zf r3.snd.fst fun v4 c5=>ZV (some 2) v4 fun l6=>Zf c5 fun v7 c8=>Zv v7 fun n9=>Zj c8 (gd (below 0 (V.tup [V.vec .plain (some 2) l6,V.int n9])) (gd (Z4 0 []) (some (Out.ret (V.tup [V.vec .plain (some 2) l6,V.int n9]),([]:St))))))
      (Zf r3.snd.fst fun v10 c11=>ZV (some 2) v10 fun l12=>Zf c11 fun v13 c14=>Zv v13 fun n15=>Zj c14 (gd (below 0 (V.tup [V.vec .plain (some 2) l12,V.int n15])) (gd (Z4 0 []) (some (Out.ret (V.tup [V.vec .plain (some 2) l12,V.int n15]),[])))))
      (fun i16=>none) fun v17=>none)=some (Out.ret (V.tup [V.vec .plain (some 2) (Zg ((match Xb (c::r)with|some l=>(some l,(0:Int))|none=>(none,8)).1.getD [])),V.int (match Xb (c::r)with|some l=>(some l,(0:Int))|none=>(none,8)).2]),[]):=by
    intro z hz
    subst hz
    cases Xb (c::r)with
    |none=>simp[J0,Zg,below,Ze,Z4]
    |some t=>
     have:=zhO t 0
     simp only[J0,List.nil_append,Zb,zod,Xq,Y9,YE,YO,this,Z4,Bool.and_self,Z0]
     rfl
   intro h0
   cases hb1:Ama.blank c with
   |true=>
    rw[hb1]at h0
    simp(disch:=omega)only[Zk,XO,Z0,XP,Y6,List.length_cons]at h0⊢
    exact fin _ h0
   |false=>
    rw[hb1]at h0
    simp only[Zn]at h0⊢
    cases hb2:(c==37)with
    |true=>
     rw[hb2]at h0
     have ht:=Qq (p:=Yc) (c::r)
     simp only[List.length_cons]at ht
     simp(disch:=omega)only[Zk,XO,Z0,XP,Y6,List.length_cons]at h0⊢
     exact fin _ h0
    |false=>
     rw[hb2]at h0
     simp only[Zn]at h0⊢
     cases hb3:Ama.mark c with
     |true=>
      rw[hb3]at h0
      simp(disch:=omega)only[Zk,XO,Z0,XP,Y6,List.length_cons,List.length_nil,ZT,YX]at h0⊢
      exact fin _ h0
     |false=>
      rw[hb3]at h0
      simp only[Zn]at h0⊢
      cases hb4:named c with
      |true=>
       rw[hb4]at h0
       have ht:=Qq (p:=named) (c::r)
       simp only[List.length_cons]at ht
       simp(disch:=omega)only[Zk,XO,Z0,XP,Y6,List.length_cons,List.length_nil,ZT,YX]at h0⊢
       exact fin _ h0
      |false=>
       rw[zgi r hb1 hb2 hb3 hb4]
       simp(disch:=omega)only[XO,Z0,XP,Y6,List.length_cons,Zn]
       rfl
end Go.Proofs.SW
namespace Go.Proofs.SW
open Go Go.AM Go.Ama
theorem zaf(c:UInt8):Ev 66 [.ik .u8 (c.toNat:Int)] (.bool (Ama.mark c)):=by
 have h: ∀n:Int,Ev 66 [.ik .u8 n] (.bool (n==40||(n==41||(n==91||(n==93||(n==123||(n==125||(n==58||n==46)))))))):=by
  intro n
  unfold Ev
  rw[C,ziR]
  cases n==40<;>cases n==41<;>cases n==91<;>cases n==93<;>cases n==123<;>cases n==125<;>cases n==58<;>rfl
 have e:(((c.toNat:Int)==40||((c.toNat:Int)==41||((c.toNat:Int)==91||((c.toNat:Int)==93||((c.toNat:Int)==123||((c.toNat:Int)==125||((c.toNat:Int)==58||(c.toNat:Int)==46))))))))=Ama.mark c:=
  QL (p:=fun c=>(((c.toNat:Int)==40||((c.toNat:Int)==41||((c.toNat:Int)==91||((c.toNat:Int)==93||((c.toNat:Int)==123||((c.toNat:Int)==125||((c.toNat:Int)==58||(c.toNat:Int)==46))))))))=Ama.mark c) (by decide+kernel) c
 rw[←e];exact h _
theorem QE(c:UInt8):Ev 67 [.ik .u8 (c.toNat:Int)] (.bool (named c)):=by
 have h: ∀n:Int,Ev 67 [.ik .u8 n] (.bool (zco n)):=by
  intro c
  unfold Ev zco
  rw[C,zhb]
  generalize decide (c≥97)=a1
  generalize decide (c≤122)=a2
  generalize decide (c≥65)=a3
  generalize decide (c≤90)=a4
  generalize decide (c≥48)=a5
  generalize decide (c≤57)=a6
  generalize(c==95)=a7
  generalize(c==39)=a8
  cases a1<;>cases a2<;>cases a3<;>cases a4<;>cases a5<;>cases a6<;>cases a7<;>cases a8<;>rfl
 rw[←Jf];exact h _
theorem drop_cons{b:Bytes}{i:Nat}{c:UInt8}{r:Bytes}(h:b.drop i=c::r): ∃hi:i<b.length,b[i]=c∧b.drop (i+1)=r:=by
 have hi:i<b.length:=by
  rcases Nat.lt_or_ge i b.length with h'|h'
  ·exact h'
  ·rw[List.drop_eq_nil_iff.2 h']at h;cases h
 rw[List.drop_eq_getElem_cons hi]at h
 simp only[List.cons.injEq]at h
 exact⟨hi,h.1,h.2⟩
theorem zq8(c:UInt8):((c.toNat:Int) !=10)=Yc c:=QL (p:=fun c=>((c.toNat:Int) !=10)=Yc c) (by decide+kernel) c
theorem zgm(b:Bytes)(hb:b.length≤1048576)(acc:List V): ∀k i,i+k=b.length→W.loop 56 12 [.int (i:Nat), .vec .plain none (ZM b), .vec .grow (some 2) acc] []=
  some (Ex.exit 2,[.int ((i+((b.drop i).takeWhile Yc).length:Nat):Int), .vec .plain none (ZM b), .vec .grow (some 2) acc],[])
 |0,i,h=>by
  rw[L,zad,List.drop_eq_nil_iff.2 (by omega),ZC]
  simp(disch:=omega)
 |k+1,i,h=>by
  have hi:i<b.length:=by omega
  have ih:=zgm b hb acc k (i+1) (by omega)
  rw[L,zad,List.drop_eq_getElem_cons hi,ZC,Jc hi,zbz,zq8,List.takeWhile_cons]
  simp(disch:=omega)only[Qw,XO,XP,Yl]
  cases Yc b[i]with
  |false=>simp
  |true=>
   simp only[Zk,if_true,List.length_cons]
   have e:((i:Int)+1)=((i+1:Nat):Int):=by omega
   rw[e]
   refine Eq.trans ih ?_
   simp;omega
theorem zlw(b:Bytes)(hb:b.length≤1048576)(i0:Int)(acc:List V): ∀k i,i+1+k=b.length→W.loop 56 20 [.vec .plain none (ZM b), .int (i:Nat), .int i0, .vec .grow (some 2) acc, .bool true] []=
  some (Ex.exit 4,[.vec .plain none (ZM b), .int ((i+1+((b.drop (i+1)).takeWhile named).length:Nat):Int), .int i0, .vec .grow (some 2) acc],[]):=by
 have stop: ∀i:Int,W.loop 56 20 [.vec .plain none (ZM b), .int i, .int i0, .vec .grow (some 2) acc, .bool false] []=some (Ex.exit 4,[.vec .plain none (ZM b), .int i, .int i0, .vec .grow (some 2) acc],[]):=by
  intro i;rw[L,Q3];rfl
 intro k
 induction k with
 |zero=>
  intro i h
  have h2: ¬((i:Int)+1<(b.length:Int)):=by omega
  rw[L,Q3,List.drop_eq_nil_iff.2 (by omega),ZC]
  simp(disch:=omega)only[Zk,Yl,zdZ]
  rw[decide_eq_false h2]
  refine Eq.trans (stop _) ?_
  simp
 |succ k ih=>
  intro i h
  have hi:i+1<b.length:=by omega
  have ih:=ih (i+1) (by omega)
  have e:((i:Int)+1)=((i+1:Nat):Int):=by omega
  rw[L,Q3,List.drop_eq_getElem_cons hi,ZC,List.takeWhile_cons]
  simp(disch:=omega)only[Zk,Yl,Qw,XO,XP]
  rw[e,Jc hi]
  simp only[zbz,(QE _).p,Zb,Zo]
  cases hn:named b[i+1]with
  |false=>refine Eq.trans (stop _) ?_;simp
  |true=>
   refine Eq.trans ih ?_
   simp;omega
theorem take_one{b:Bytes}{i:Nat}(hi:i<b.length):(b.take (i+1)).drop i=[b[i]]:=by
 rw[List.take_succ_eq_append_getElem hi,List.drop_append_of_le_length (by simp;omega),List.drop_take]
 simp
theorem zmV(b:Bytes)(i n:Nat):(b.take (i+n)).drop i=(b.drop i).take n:=by rw[List.drop_take];congr 1;omega
theorem zmh(c:UInt8):((c.toNat:Int)==32)=(c==32):=QL (p:=fun c=>((c.toNat:Int)==32)=(c==32)) (by decide+kernel) c
theorem zpb(c:UInt8):((c.toNat:Int)==9)=(c==9):=QL (p:=fun c=>((c.toNat:Int)==9)=(c==9)) (by decide+kernel) c
theorem zmi(c:UInt8):((c.toNat:Int)==10)=(c==10):=QL (p:=fun c=>((c.toNat:Int)==10)=(c==10)) (by decide+kernel) c
theorem zeG{c:UInt8}(h:Ama.blank c=false):(c==32)=false∧(c==9)=false∧(c==10)=false:=by
 simp only[Ama.blank,Bool.or_eq_false_iff]at h
 exact⟨h.1.1,h.1.2,h.2⟩
def QN(acc:List Tok):Option (List Tok)→Ex×List V×St
 |some t=>(Ex.exit 0,[V.vec .grow (some 2) (Zg (acc++t))],[])
 |none=>(Ex.ret,[V.vec .plain (some 2) [],V.int 8],[])
theorem ziT(b:Bytes)(hb:b.length≤20000): ∀(rest:Bytes) (i:Nat) (acc:List Tok),b.drop i=rest→i≤b.length→acc.length≤i→
  W.loop 56 5 [.int (i:Nat), .vec .plain none (ZM b), .vec .grow (some 2) (Zg acc)] []=some (QN acc (Xb rest)):=by
 refine zhH ?_ ?_ ?_ ?_ ?_ ?_
 ·intro i acc hd hi ha
  have:b.length≤i:=List.drop_eq_nil_iff.1 hd
  rw[L,YP,ZC,zgg]
  simp(disch:=omega) [QN]
 ·intro c r hc ih i acc hd hi ha
  obtain⟨hi',rfl,hr⟩:=drop_cons hd
  have ih:=ih (i+1) acc hr (by omega) (by omega)
  have e:((i:Int)+1)=((i+1:Nat):Int):=by omega
  rw[L,YP,ZC,Jc hi',zgh _ hc,←ih]
  simp(disch:=omega)only[Qw,XO,XP,zbz,(zaf _).p,(QE _).p,Zb,Zo,Yl,zmh,zpb,zmi,e]
  simp only[Ama.blank,Bool.or_eq_true]at hc
  rcases hc with(hc|hc)|hc
  ·rw[hc];rfl
  ·rw[hc];cases b[i]==32<;>rfl
  ·rw[hc];cases b[i]==32<;>cases b[i]==9<;>rfl
 ·intro r ih i acc hd hi ha
  obtain⟨hi',hc,hr⟩:=drop_cons hd
  have hsk:=zgm b (by omega) (Zg acc) (b.length-i) i (by omega)
  have htd:=take_takeWhile (p:=Yc) (37::r)
  have h3:(37::r).dropWhile Yc=r.dropWhile Yc:=by simp[List.dropWhile_cons,Yc]
  have hlen:=Qq (p:=Yc) (37::r)
  have hbl:(b.drop i).length=b.length-i:=List.length_drop
  rw[hd]at hsk hbl
  have ih:=ih (i+((37::r).takeWhile Yc).length) acc (by rw[←List.drop_drop,hd,htd.2,h3]) (by omega) (by omega)
  rw[L,YP,ZC,Jc hi',hc,zhE _ rfl,←ih]
  simp(disch:=omega)only[Qw,XO,XP,zbz,(zaf _).p,(QE _).p,Zb,Zo,hsk]
  have h37:((37:UInt8).toNat:Int)=37:=by decide
  simp[h37]
 ·intro c r hc ih i acc hd hi ha
  obtain⟨hi',rfl,hr⟩:=drop_cons hd
  obtain⟨h7,h8,_⟩:=zdw hc
  obtain⟨h9,h10,h11⟩:=zeG h7
  have ih:=ih (i+1) (acc++[(1,[b[i]])]) hr (by omega) (by simp;omega)
  have e:((i:Int)+1)=((i+1:Nat):Int):=by omega
  have he:Zg acc++[V.agg [V.int 1,V.str (ba [b[i]])]]=Zg (acc++[(1,[b[i]])]):=by rw[Y7];rfl
  have hend:QN acc ((Xb r).map ((1,[b[i]]):: ·))=QN (acc++[(1,[b[i]])]) (Xb r):=by cases Xb r<;>simp[QN]
  rw[L,YP,ZC,Jc hi',zhF _ hc,hend,←ih]
  simp(disch:=omega)only[Qw,XO,XP,zbz,(zaf _).p,(QE _).p,Zb,Zo,Yl,zmh,zpb,zmi,Xs,h8,h9,h10,h11,Zn,hc,Zk,Z0,List.length_cons,List.length_nil,ZT,YX]
  rw[e]
  simp only[Int.toNat_natCast,zhJ,zhK,take_one hi',zlv,Z0,zaP,he]
 ·intro c r hc ih i acc hd hi ha
  obtain⟨hi',rfl,hr⟩:=drop_cons hd
  obtain⟨h7,h8,h12,_⟩:=zcn hc
  obtain⟨h9,h10,h11⟩:=zeG h7
  have hnl:=zlw b (by omega) (i:Nat) (Zg acc) (b.length-i-1) i (by omega)
  have htd:=take_takeWhile (p:=named) r
  have hlen:=Qq (p:=named) r
  have hbl:(b.drop (i+1)).length=b.length-(i+1):=List.length_drop
  rw[hr]at hnl hbl
  have hpart:(b.take (i+1+(r.takeWhile named).length)).drop i=b[i]::r.takeWhile named:=by
   rw[show i+1+(r.takeWhile named).length=i+((r.takeWhile named).length+1) by omega,zmV,hd,List.take_succ_cons,htd.1]
  have ih:=ih (i+1+(r.takeWhile named).length) (acc++[(0,b[i]::r.takeWhile named)]) (by rw[←List.drop_drop,hr,htd.2]) (by omega) (by simp;omega)
  have he:Zg acc++[V.agg [V.int 0,V.str (ba (b[i]::r.takeWhile named))]]=Zg (acc++[(0,b[i]::r.takeWhile named)]):=by rw[Y7];rfl
  have hend:QN acc ((Xb (r.dropWhile named)).map ((0,b[i]::r.takeWhile named):: ·))=QN (acc++[(0,b[i]::r.takeWhile named)]) (Xb (r.dropWhile named)):=by cases Xb (r.dropWhile named)<;>simp[QN]
  rw[L,YP,ZC,Jc hi',zhG _ hc,hend,←ih]
  simp(disch:=omega)only[Qw,XO,XP,zbz,(zaf _).p,(QE _).p,Zb,Zo,Yl,zmh,zpb,zmi,Xs,h8,h9,h10,h11,h12,Zn,hc,zoe,Zk]
  simp(disch:=omega)only[hnl,Zb,zcI,Nat.beq_refl,Zk,Xq,Y9,YE,zke,YO,XP,XO,ZC,List.length_cons,List.length_nil,ZT,YX,Z0,Int.toNat_natCast,zhJ,zhK,hpart,zlv,zaP,he]
 ·intro c r h1' h2' h3' h4' i acc hd hi ha
  obtain⟨hi',rfl,hr⟩:=drop_cons hd
  obtain⟨h9,h10,h11⟩:=zeG h1'
  rw[L,YP,ZC,Jc hi',zgi _ h1' h2' h3' h4']
  simp(disch:=omega)only[Qw,XO,XP,zbz,(zaf _).p,(QE _).p,Zb,Zo,Yl,zmh,zpb,zmi,Xs,h2',h9,h10,h11,h3',h4',Zn,zoe,Zk]
  rfl
theorem ziU(b:Bytes)(hb:b.length≤1048576):Ev 56 [.vec .plain none (ZM b)] (za9 (zb1 b)):=by
 unfold Ev zb1 za9
 rw[C,zgk,ZC]
 by_cases hl:b.length>20000
 ·simp(disch:=omega) [hl,Zg]
 ·have h0:=ziT b (by omega) b 0 [] rfl (by omega) (by simp)
  have h0':W.loop 56 5 [.int 0, .vec .plain none (ZM b), .vec .grow (some 2) []] []=some (QN [] (Xb b)):=h0
  rw[zdZ (by omega),if_neg hl,h0']
  cases Xb b with
  |none=>simp[QN,Zg,below,Ze,Z4]
  |some t=>
   have:=zhO t 0
   simp[QN,this,Z4]
theorem Xc{R:Type}(t:Tok)(K:Int→ByteArray→Option R):Zl (R:=R) [CT.int,CT.str] (Yz t) K=K t.1 (ba t.2):=rfl
theorem zhP(l:List Tok)(hl:Yn l+2*l.length≤1048576): ∀k i (acc:Bytes) (last:Int),i+k=l.length→acc.length+Yn (l.drop i)+2*(l.drop i).length≤10485760→
  W.loop 25 4 [.int (i:Nat), .vec .grow none (ZM acc), .int last, .vec .plain (some 2) (Zg l), .int l.length] []=some (Ex.exit 0,[.vec .grow none (ZM (acc++Xr last (l.drop i)))],[])
 |0,i,acc,last,h,_=>by
  rw[L,zde,List.drop_eq_nil_iff.2 (by omega)]
  simp(disch:=omega) [Xr]
 |k+1,i,acc,last,h,hw=>by
  have hi:i<l.length:=by omega
  rw[List.drop_eq_getElem_cons hi]at hw⊢
  obtain⟨kd,s,ht⟩: ∃kd s,l[i]=(kd,s):=⟨_,_,rfl⟩
  rw[ht]at hw⊢
  simp only[Yn,List.length_cons]at hw
  have e:((i:Int)+1)=((i+1:Nat):Int):=by omega
  have ih:=fun acc h=>zhP l hl k (i+1) acc kd (by omega) h
  rw[L,zde,ZT,zb0 hi,ht]
  simp(disch:=omega)only[Qw,XO,XP,Z0,Yl,Xc,Qp,List.length_append,List.length_cons,List.length_nil,ZC,zeF,e]
  have e32:ZM acc++[V.ik IntKind.u8 32]=ZM (acc++[32]):=by rw[Qh];rfl
  simp only[e32,←Qh]
  have r0:=ih (acc++s) (by simp only[List.length_append];omega)
  have r1:=ih (acc++[32]++s) (by simp only[List.length_append,List.length_cons,List.length_nil];omega)
  by_cases h1:kd=0
  ·subst h1
   by_cases h2:last=0
   ·subst h2
    simp only[beq_self_eq_true,Zk]
    refine Eq.trans r1 ?_
    simp[Xr]
   ·simp(disch:=omega)only[beq_self_eq_true,Zk,zea]
    refine Eq.trans r0 ?_
    simp[Xr,h2]
  ·simp(disch:=omega)only[zea]
   refine Eq.trans r0 ?_
   simp[Xr,h1]
theorem zmW(l:List Tok)(hl:Yn l+2*l.length≤1048576):Ev 25 [.vec .plain (some 2) (Zg l)] (.vec .plain none (ZM (text l))):=by
 have h:=zhP l hl l.length 0 [] 1 (by omega) (by simp;omega)
 have h':W.loop 25 4 [.int 0, .vec .grow none [], .int 1, .vec .plain (some 2) (Zg l), .int l.length] []=some (Ex.exit 0,[.vec .grow none (ZM (text l))],[]):=h
 unfold Ev
 rw[C,zlr,ZT,h']
 simp[below,Z4,ZU]
theorem zoi(t:Tok):AM.partOf [V.int t.1,V.str (ba t.2)] 0 none=V.int t.1:=rfl
theorem zmj(t:Tok):AM.partOf [V.int t.1,V.str (ba t.2)] 1 none=V.str (ba t.2):=rfl
theorem zgn(l:List Tok)(hl:Yn l+2*l.length≤1048576): ∀k i (acc:Bytes),i+k=l.length→acc.length+Yn (l.drop i)+2*(l.drop i).length≤10485760→
  W.loop 29 3 [.int (i:Nat), .vec .plain (some 2) (Zg l), .vec .grow none (ZM acc)] []=some (Ex.exit 0,[.vec .grow none (ZM (acc++Xr (if h:i≠0∧i≤l.length then(l[i-1]'(by omega)).1 else 1) (l.drop i)))],[])
 |0,i,acc,h,_=>by
  rw[L,zbF,List.drop_eq_nil_iff.2 (by omega)]
  simp(disch:=omega) [Xr]
 |k+1,i,acc,h,hw=>by
  have hi:i<l.length:=by omega
  have hd:=List.drop_eq_getElem_cons hi
  rw[hd]at hw⊢
  have hws:Yn (l[i]::l.drop (i+1))=l[i].2.length+Yn (l.drop (i+1)):=rfl
  rw[hws,List.length_cons]at hw
  have e:((i:Int)+1)=((i+1:Nat):Int):=by omega
  have ih:=fun acc h=>zgn l hl k (i+1) acc (by omega) h
  have hts: ∀last,Xr last (l[i]::l.drop (i+1))=(if l[i].1=0∧last=0 then[32]else[])++l[i].2++Xr l[i].1 (l.drop (i+1)):=fun last=>rfl
  have hc1:(i+1≠0∧i+1≤l.length):=⟨by omega,by omega⟩
  simp only[dif_pos hc1,Nat.add_sub_cancel]at ih
  have e32:ZM acc++[V.ik IntKind.u8 32]=ZM (acc++[32]):=by rw[Qh];rfl
  have r0:=ih (acc++l[i].2) (by simp only[List.length_append];omega)
  have r1:=ih (acc++[32]++l[i].2) (by simp only[List.length_append,List.length_cons,List.length_nil];omega)
  rw[L,zbF,ZT,zb0 hi,hts]
  by_cases h0:i=0
  ·subst h0
   rw[dif_neg (by omega)]
   simp(disch:=omega)only[Qw,zdZ,XO,XP,Z0,Yl,Yz,zhD,List.length_cons,List.length_nil,zmj,zcH,Qp,ZC,zeF,e,←Qh]
   refine Eq.trans r0 ?_
   simp
  ·have hi1:i-1<l.length:=by omega
   have e1:((i:Int)-1)=((i-1:Nat):Int):=by omega
   rw[dif_pos ⟨h0,by omega⟩]
   simp(disch:=omega)only[Qw,XO,XP,Z0,Yl,Yz,zhD,List.length_cons,List.length_nil,zoi,zmj,zcH,YE,Qp,ZC,List.length_append,zeF,e,e1,e32,zb0 hi1,←Qh]
   by_cases h1:l[i].1=0
   ·by_cases h2:l[i-1].1=0
    ·simp(disch:=omega)only[zkg]
     refine Eq.trans r1 ?_
     simp[h1,h2]
    ·simp(disch:=omega)only[zkg,zea]
     refine Eq.trans r0 ?_
     simp[h2]
   ·simp(disch:=omega)only[zea]
    refine Eq.trans r0 ?_
    simp[h1]
theorem zlx(l:List Tok)(hl:Yn l+2*l.length≤1048576):Ev 29 [.vec .plain (some 2) (Zg l)] (.vec .plain none (ZM (text l))):=by
 have h:=zgn l hl l.length 0 [] (by omega) (by simp;omega)
 have h':W.loop 29 3 [.int 0, .vec .plain (some 2) (Zg l), .vec .grow none []] []=some (Ex.exit 0,[.vec .grow none (ZM (text l))],[]):=by
  rw[dif_neg (by omega)]at h;exact h
 unfold Ev
 rw[C,ziQ,h']
 simp[below,Z4,ZU]
end Go.Proofs.SW
namespace Go.Proofs.SW
open Go Go.AM
set_option maxRecDepth 20000
theorem zkt(O:Oracle)(n0:Int)(n1:Int)(l2:(List V))(l3:(List V)):Zd Tryd.prog cfg O 11 [.agg [.int n0, .int n1, .vec .plain (some 3) l2], .vec .plain (some 4) l3] []=
 Za (Zi O 16 [V.agg [V.int n0,V.int n1,V.vec .plain (some 3) l2]]) fun r1=>Zp r1 fun b2=>bc (!b2) (some (Out.ret (V.tup [V.vec .plain none [],V.int 1]),
 [])) (Za (O.call 24 [V.ref 0 0,V.agg [V.int n0,V.int n1,V.vec .plain (some 3) l2],V.int 0] [Res.box [V.vec .plain (some 4) l3,V.vec Mode.full (some 2) [],
 V.int 0]]) fun r3=>ZW r3.fst (fun v4=>Yv v4 fun c5=>Zj c5 (Yb r3.snd 0 fun x6=>Y0 x6 fun c7=>gd (decide (3≤c7.length)&&true) (Zv (Z2 (AM.partOf
 c7 2 none)) fun n8=>bc (n8 !=0) (Yb r3.snd 0 fun x9=>Y0 x9 fun c10=>gd (decide (3≤c10.length)&&true) (Zv (Z2 (AM.partOf c10 2 none)) fun n11=>some
 (Out.ret (V.tup [V.vec .plain none [],V.int n11]),[]))) (Yb r3.snd 0 fun x12=>Y0 x12 fun c13=>gd (decide (2≤c13.length)&&true) (ZV (some 2) (Z2 (AM.partOf
 c13 1 none)) fun l14=>Za (Zi O 25 [V.vec .plain (some 2) l14]) fun r15=>ZV none r15 fun l16=>gd (below 0 (V.tup [V.vec .plain none l16,V.int 0])&&Z4
 0 []) (some (Out.ret (V.tup [V.vec .plain none l16,V.int 0]),[]))))))) fun p17=>none):=by kernel_rfl
theorem ziV(O:Oracle)(l0:(List V)):Zd Tryd.prog cfg O 13 [.vec .plain (some 4) l0] []=
 Za (O.loop 13 3 [V.int 0,V.mp 0,V.vec .plain (some 4) l0,V.vec .plain (some 4) l0,V.int (↑l0.length:Int)] [Res.map CT.str CT.int []]) fun r1=>YV r1.fst none
 none (fun i2=>bc (i2.beq 0) (Zf r1.snd.fst fun v3 c4=>ZV (some 4) v3 fun l5=>Zf c4 fun v6 c7=>zfy v6 fun q8=>Zj c7 (Za (O.loop 13 9 [V.int 0,
 V.vec Mode.grow none [],V.vec .plain (some 4) l5,V.mp q8,V.vec .plain (some 4) l5,V.int (↑l5.length:Int)] r1.snd.snd) fun r9=>YV r9.fst none (Zf r9.snd.fst fun v10
 c11=>ZV none v10 fun l12=>Zf c11 fun v13 c14=>Zv v13 fun n15=>Zj c14 (gd (below 0 (V.tup [V.vec .plain none l12,V.int n15])&&Z4 0 []) (some (Out.ret
 (V.tup [V.vec .plain none l12,V.int n15]),[])))) (fun i16=>bc (i16.beq 2) (Zf r9.snd.fst fun v17 c18=>YB none v17 fun l19=>Zj c18 (gd (below 0 (V.tup [V.vec
 .plain none l19,V.int 0])&&Z4 0 []) (some (Out.ret (V.tup [V.vec .plain none l19,V.int 0]),[])))) none) fun v20=>none)) none) fun v21=>none:=by kernel_rfl
theorem zbG(O:Oracle)(n0:Int)(l2:(List V))(l3:(List V))(n4:Int)(es:List (V×V)):Z3 Tryd.prog cfg O 13 3 [.int n0, .mp 0, .vec .plain (some 4) l2, .vec .plain (some 4) l3, .int n4] [.map .str .int es]=
 bc (decide (n0<n4)) (gd (decide (0≤n0)&&decide (n0<(↑l2.length:Int))) (Zl [CT.str,CT.int,CT.int,CT.slice (some 3)] (Yf l2 n0) fun s1 n2 n3 l4=>Zv
 (YZ es (V.str s1) (V.int 0)) fun n5=>O.2 13 3 [V.int (IntKind.i64.wrap (n0+1)),V.mp 0,V.vec .plain (some 4) l2,V.vec .plain (some 4) l3,V.int n4] [Res.map
 CT.str CT.int (XW es (V.str s1) (V.int (IntKind.i64.wrap (n5+1))))])) (some (Ex.exit 0,[V.vec .plain (some 4) l3,V.mp 0],[Res.map CT.str CT.int es])):=by kernel_rfl
theorem zbH(O:Oracle)(n0:Int)(l1:(List V))(l2:(List V))(l3:(List V))(n4:Int)(es:List (V×V)):Z3 Tryd.prog cfg O 13 9 [.int n0, .vec .grow none l1, .vec .plain (some 4) l2, .mp 0, .vec .plain (some 4) l3, .int n4] [.map .str .int es]=
 bc (decide (n0<n4)) (gd (decide (0≤n0)&&decide (n0<(↑l3.length:Int))) (Zl [CT.str,CT.int,CT.int,CT.slice (some 3)] (Yf l3 n0) fun s1 n2 n3 l4=>Za (Zi
 O 15 [V.str s1]) fun r5=>Zp r5 fun b6=>bc (!b6) (some (Ex.ret,[V.vec .plain none [],V.int 1],[Res.map CT.str CT.int es])) (Zv (YZ es (V.str s1) (V.int
 0)) fun n7=>bc (decide (n7>1)) (some (Ex.ret,[V.vec .plain none [],V.int 1],[Res.map CT.str CT.int es])) (Za (Zi O 11 [V.agg [V.int n2,V.int n3,V.vec
 .plain (some 3) l4],V.vec .plain (some 4) l2]) fun r8=>Yv r8 fun c9=>Zf c9 fun v10 c11=>ZV none v10 fun l12=>Zf c11 fun v13 c14=>Zv v13 fun n15=>
 Zj c14 (bc (n15 !=0) (some (Ex.ret,[V.vec .plain none [],V.int n15],[Res.map CT.str CT.int es])) (gd (decide (s1.size+3≤9223372036854775807)) (gd (l12.all zbM) (gd
 (decide ((s1++{data:= #[32,58,32]}).size+(YH l12).size≤9223372036854775807)) (gd (decide ((s1++{data:= #[32,58,32]}++YH l12).size+2≤
 9223372036854775807)) (gd (true&&roomFor Tryd.prog 5 (l1.length+(ZI (s1++{data:= #[32,58,32]}++YH l12++{data:= #[46,10]})).length)) (O.2
 13 9 [V.int (IntKind.i64.wrap (n0+1)),V.vec Mode.grow none (l1++ZI (s1++{data:= #[32,58,32]}++YH l12++{data:= #[46,10]})),V.vec .plain (some
 4) l2,V.mp 0,V.vec .plain (some 4) l3,V.int n4] [Res.map CT.str CT.int es]))))))))))) (some (Ex.exit 2,[V.vec Mode.grow none l1],[Res.map CT.str CT.int es])):=by kernel_rfl
theorem zdy(O:Oracle)(r0:Nat)(n1:Int)(n2:Int)(l3:(List V))(n4:Int)(st:St):Zd Tryd.prog cfg O 24 [.ref r0 0, .agg [.int n1, .int n2, .vec .plain (some 3) l3], .int n4] st=
 bc (n1==0) (Za (O.call 41 [V.ref r0 0,V.str {data:= #[116,121,112,101]}] st) fun r1=>ZW r1.fst (fun v2=>Yv v2 fun c3=>Zj c3 (gcE
 (List.length st) (V.tup []) r1.snd)) fun p4=>none) (bc (n1==1) (Za (O.call 42 [V.ref r0 0,V.str {data:= #[123]},V.str {data:= #[125]},V.fn
 43 [] [V.cptr none (V.ref r0 0),V.cptr none (V.int n4),V.cptr (some 3) (V.agg [V.int n1,V.int n2,V.vec .plain (some 3) l3])]] st) fun r5=>ZW r5.fst (fun
 v6=>Yv v6 fun c7=>Zj c7 (gd (true&&decide (1<(↑l3.length:Int))) (Zl [CT.int,CT.int,CT.slice (some 3)] (Yf l3 1) fun n8 n9 l10=>Za (O.call
 24 [V.ref r0 0,V.agg [V.int n8,V.int n9,V.vec .plain (some 3) l10],V.int (IntKind.i64.wrap (n4+1))] r5.snd) fun r11=>ZW r11.fst (fun v12=>Yv v12
 fun c13=>Zj c13 (gcE (List.length st) (V.tup []) r11.snd)) fun p14=>none))) fun p15=>none) (bc (n1==3) (Za (O.call 42 [V.ref r0 0,V.str {data:=
 #[91]},V.str {data:= #[93]},V.fn 46 [] [V.cptr none (V.ref r0 0),V.cptr none (V.int n4)]] st) fun r16=>ZW r16.fst (fun v17=>Yv v17 fun c18=>
 Zj c18 (gd (true&&decide (0<(↑l3.length:Int))) (Zl [CT.int,CT.int,CT.slice (some 3)] (Yf l3 0) fun n19 n20 l21=>Za (O.call 24 [V.ref r0 0,
 V.agg [V.int n19,V.int n20,V.vec .plain (some 3) l21],V.int (IntKind.i64.wrap (n4+1))] r16.snd) fun r22=>ZW r22.fst (fun v23=>Yv v23 fun c24=>Zj c24 (gcE
 (List.length st) (V.tup []) r22.snd)) fun p25=>none))) fun p26=>none) (Za (O.call 47 [V.ref r0 0,V.agg [V.int n1,V.int n2,V.vec .plain (some 3) l3],
 V.int n4] st) fun r27=>ZW r27.fst (fun v28=>Yv v28 fun c29=>Zj c29 (Za (O.loop 24 4 [V.int 0,V.loc false none (V.int n4),V.loc false none
 (V.ref r0 0),V.vec .plain (some 3) l3,V.int (↑l3.length:Int)] r27.snd) fun r30=>YV r30.fst none none (fun i31=>bc (i31.beq 1) (Zj r30.snd.fst (gcE (List.length st)
 (V.tup []) r30.snd.snd)) none) fun v32=>none)) fun p33=>none))):=by kernel_rfl
theorem XQ(O:Oracle)(n0:Int)(n1:Int)(r2:Nat)(l3:(List V))(n4:Int)(st:St):Z3 Tryd.prog cfg O 24 4 [.int n0, .cptr none (.int n1), .cptr none (.ref r2 0), .vec .plain (some 3) l3, .int n4] st=
 bc (decide (n0<n4)) (gd (decide (0≤n0)&&decide (n0<(↑l3.length:Int))) (Zl [CT.int,CT.int,CT.slice (some 3)] (Yf l3 n0) fun n1_1 n2 l3_1=>Za (Zi O
 48 [V.agg [V.int n1_1,V.int n2,V.vec .plain (some 3) l3_1]]) fun r4=>Zp r4 fun b5=>bc b5 (Za (O.call 24 [V.ref r2 0,V.agg [V.int n1_1,
 V.int n2,V.vec .plain (some 3) l3_1],V.int n1] st) fun r6=>ZW r6.fst (fun v7=>Yv v7 fun c8=>Zj c8 (O.2 24 4 [V.int (IntKind.i64.wrap (n0+1)),
 V.cptr none (V.int n1),V.cptr none (V.ref r2 0),V.vec .plain (some 3) l3,V.int n4] r6.snd)) fun p9=>none) (Za (O.call 42 [V.ref r2 0,V.str {data:=
 #[40]},V.str {data:= #[41]},V.fn 49 [] [V.cptr none (V.ref r2 0),V.cptr (some 3) (V.agg [V.int n1_1,V.int n2,V.vec .plain (some 3) l3_1]),V.cptr none
 (V.int n1)]] st) fun r10=>ZW r10.fst (fun v11=>Yv v11 fun c12=>Zj c12 (O.2 24 4 [V.int (IntKind.i64.wrap (n0+1)),V.cptr none (V.int n1),V.cptr
 none (V.ref r2 0),V.vec .plain (some 3) l3,V.int n4] r10.snd)) fun p13=>none))) (some (Ex.exit 1,[],st)):=by kernel_rfl
theorem zdz(O:Oracle)(r0:Nat)(s1:ByteArray)(st:St):Zd Tryd.prog cfg O 41 [.ref r0 0, .str s1] st=
 Yb st r0 fun x1=>Y0 x1 fun c2=>gd (decide (1<c2.length)&&true&&true) (QF (some 2) (c2.getD 1 V.undef) (fun l3=>gd (true&&roomFor Tryd.prog 58
 (l3.length+[V.agg [V.int 0,V.str s1]].length)) (Yb (List.set st r0 (Res.box (c2.set 1 (V.vec .plain (some 2) l3)))) r0 fun x4=>Y0 x4 fun c5=>gd (decide (2≤c5.length)
 &&true) (gcE (List.length st) (V.tup []) ((List.set st r0 (Res.box (c2.set 1 (V.vec .plain (some 2) l3)))).set r0 (Res.box (setCells c5 1 [V.vec Mode.grow (some 2) (l3++[V.agg
 [V.int 0,V.str s1]])])))))) fun l6=>gd (true&&roomFor Tryd.prog 58 (l6.length+[V.agg [V.int 0,V.str s1]].length)) (Yb (List.set st r0 (Res.box (c2.set 1 (V.vec
 .plain (some 2) l6)))) r0 fun x7=>Y0 x7 fun c8=>gd (decide (2≤c8.length)&&true) (gcE (List.length st) (V.tup []) ((List.set st r0 (Res.box (c2.set 1 (V.vec .plain (some
 2) l6)))).set r0 (Res.box (setCells c8 1 [V.vec Mode.grow (some 2) (l6++[V.agg [V.int 0,V.str s1]])])))))):=by kernel_rfl
theorem zcp(O:Oracle)(r0:Nat)(s1:ByteArray)(s2:ByteArray)(g3:Nat)(l4:(List V))(l5:(List V))(st:St):Zd Tryd.prog cfg O 42 [.ref r0 0, .str s1, .str s2, .fn g3 l4 l5] st=
 Za (O.call 45 [V.ref r0 0,V.vec .plain none [V.str s1]] st) fun r1=>ZW r1.fst (fun v2=>Yv v2 fun c3=>Zj c3 (bc (cfg.pure g3) (Za (Zi O g3
 (l4++[]++l5)) fun r4=>Yv r4 fun c5=>Zj c5 (Za (O.call 45 [V.ref r0 0,V.vec .plain none [V.str s2]] r1.snd) fun r6=>ZW r6.fst (fun v7=>
 Yv v7 fun c8=>Zj c8 (gcE (List.length st) (V.tup []) r6.snd)) fun p9=>none)) (Za (O.call g3 (l4++[]++l5) r1.snd) fun r10=>ZW r10.fst (fun v11=>Yv v11
 fun c12=>Zj c12 (Za (O.call 45 [V.ref r0 0,V.vec .plain none [V.str s2]] r10.snd) fun r13=>ZW r13.fst (fun v14=>Yv v14 fun c15=>Zj c15
 (gcE (List.length st) (V.tup []) r13.snd)) fun p16=>none)) fun p17=>none))) fun p18=>none:=by kernel_rfl
theorem zcq(O:Oracle)(r0:Nat)(n0:Int)(k:Int)(h:Int)(l:(List V))(st:St):Zd Tryd.prog cfg O 43 [.cptr none (.ref r0 0), .cptr none (.int n0), .cptr (some 3) (.agg [.int k, .int h, .vec .plain (some 3) l])] st=
 Za (O.call 44 [V.ref r0 0,V.int n0] st) fun r1=>ZW r1.fst (fun v2=>Yv v2 fun c3=>Zj c3 (Za (O.call 45 [V.ref r0 0,V.vec
 .plain none [V.str {data:= #[58]}]] r1.snd) fun r4=>ZW r4.fst (fun v5=>Yv v5 fun c6=>Zj c6 (gd (true&&decide (0<(↑l.length:Int))) (Zl [CT.int,
 CT.int,CT.slice (some 3)] (Yf l 0) fun n7 n8 l9=>Za (O.call 24 [V.ref r0 0,V.agg [V.int n7,V.int n8,V.vec .plain (some 3) l9],V.int n0] r4.snd) fun r10
 =>ZW r10.fst (fun v11=>Yv v11 fun c12=>Zj c12 (gcE (List.length st) (V.tup []) r10.snd)) fun p13=>none))) fun p14=>none)) fun p15=>none:=by kernel_rfl
theorem zcO(O:Oracle)(r0:Nat)(n1:Int)(st:St):Zd Tryd.prog cfg O 44 [.ref r0 0, .int n1] st=
 Za (Zi O 64 [V.int n1]) fun r1=>YA r1 fun s2=>gd (decide (1+s2.size≤9223372036854775807)) (Za (O.call 41 [V.ref r0 0,V.str ({data
 := #[95]}++s2)] st) fun r3=>ZW r3.fst (fun v4=>Yv v4 fun c5=>Zj c5 (gcE (List.length st) (V.tup []) r3.snd)) fun p6=>none):=by kernel_rfl
theorem zcP(O:Oracle)(r0:Nat)(l1:(List V))(st:St):Zd Tryd.prog cfg O 45 [.ref r0 0, .vec .plain none l1] st=
 Za (O.loop 45 1 [V.int 0,V.ref r0 0,V.vec .plain none l1,V.int (↑l1.length:Int)] st) fun r1=>YV r1.fst none none (fun i2=>bc (i2.beq 0) (Zj
 r1.snd.fst (gcE (List.length st) (V.tup []) r1.snd.snd)) none) fun v3=>none:=by kernel_rfl
theorem QO(O:Oracle)(n0:Int)(r1:Nat)(l2:(List V))(n3:Int)(st:St):Z3 Tryd.prog cfg O 45 1 [.int n0, .ref r1 0, .vec .plain none l2, .int n3] st=
 bc (decide (n0<n3)) (gd (decide (0≤n0)&&decide (n0<(↑l2.length:Int))) (YA (Yf l2 n0) fun s1=>Yb st r1 fun x2=>Y0 x2 fun c3=>gd (decide (1<c3.length)&&
 true&&true) (QF (some 2) (c3.getD 1 V.undef) (fun l4=>gd (true&&roomFor Tryd.prog 58 (l4.length+[V.agg [V.int 1,V.str s1]].length)) (Yb (List.set st r1
 (Res.box (c3.set 1 (V.vec .plain (some 2) l4)))) r1 fun x5=>Y0 x5 fun c6=>gd (decide (2≤c6.length)&&true) (O.2 45 1 [V.int (IntKind.i64.wrap (n0+1)),
 V.ref r1 0,V.vec .plain none l2,V.int n3] ((List.set st r1 (Res.box (c3.set 1 (V.vec .plain (some 2) l4)))).set r1 (Res.box (setCells c6 1 [V.vec Mode.grow (some 2) (l4++
 [V.agg [V.int 1,V.str s1]])])))))) fun l7=>gd (true&&roomFor Tryd.prog 58 (l7.length+[V.agg [V.int 1,V.str s1]].length)) (Yb (List.set st r1 (Res.box (c3.set 1
 (V.vec .plain (some 2) l7)))) r1 fun x8=>Y0 x8 fun c9=>gd (decide (2≤c9.length)&&true) (O.2 45 1 [V.int (IntKind.i64.wrap (n0+1)),V.ref r1 0,V.vec
 .plain none l2,V.int n3] ((List.set st r1 (Res.box (c3.set 1 (V.vec .plain (some 2) l7)))).set r1 (Res.box (setCells c9 1 [V.vec Mode.grow (some 2) (l7++[V.agg [V.int 1,V.str
 s1]])])))))))) (some (Ex.exit 0,[],st)):=by kernel_rfl
theorem zcr(O:Oracle)(r0:Nat)(n0:Int)(st:St):Zd Tryd.prog cfg O 46 [.cptr none (.ref r0 0), .cptr none (.int n0)] st=
 Za (O.call 44 [V.ref r0 0,V.int n0] st) fun r1=>ZW r1.fst (fun v2=>Yv v2 fun c3=>Zj c3 (gcE (List.length st) (V.tup []) r1.snd)) fun p4=>none:=by kernel_rfl
theorem XC(O:Oracle)(r0:Nat)(n1:Int)(n2:Int)(l3:(List V))(n4:Int)(st:St):Zd Tryd.prog cfg O 47 [.ref r0 0, .agg [.int n1, .int n2, .vec .plain (some 3) l3], .int n4] st=
 bc (n1==4) (bc (decide (n2<n4)) (Za (O.call 44 [V.ref r0 0,V.int (IntKind.i64.wrap (IntKind.i64.wrap (n4-1)-n2))] st) fun r1=>ZW r1.fst (fun v2
 =>Yv v2 fun c3=>Zj c3 (gcE (List.length st) (V.tup []) r1.snd)) fun p4=>none) (bc (n1==2) (Yb st r0 fun x5=>Y0 x5 fun c6=>gd (decide (1≤c6.length)&&true)
 (ZV (some 4) (Z2 (AM.partOf c6 0 none)) fun l7=>bc (decide (n2<(↑l7.length:Int))) (Yb st r0 fun x8=>Y0 x8 fun c9=>gd (decide (1≤c9.length)&&true) (ZV
 (some 4) (Z2 (AM.partOf c9 0 none)) fun l10=>gd (decide (0≤n2)&&decide (n2<(↑l10.length:Int))) (Y1 (Yf l10 n2) fun c11=>gd (decide (1≤c11.length)) (YA
 (AM.partOf c11 0 none) fun s12=>Za (O.call 41 [V.ref r0 0,V.str s12] st) fun r13=>ZW r13.fst (fun v14=>Yv v14 fun c15=>Zj c15 (gcE
 (List.length st) (V.tup []) r13.snd)) fun p16=>none)))) (Yb st r0 fun x17=>Y0 x17 fun c18=>gd (decide (3≤c18.length)&&true) (gcE (List.length st) (V.tup [])
 (List.set st r0 (Res.box (setCells c18 2 [V.int 2]))))))) (bc (n1==5) (Yb st r0 fun x19=>Y0 x19 fun c20=>gd (decide (1≤c20.length)&&true) (ZV (some 4) (Z2
 (AM.partOf c20 0 none)) fun l21=>bc (decide (n2<(↑l21.length:Int))) (Yb st r0 fun x22=>Y0 x22 fun c23=>gd (decide (1≤c23.length)&&true) (ZV (some 4) (Z2
 (AM.partOf c23 0 none)) fun l24=>gd (decide (0≤n2)&&decide (n2<(↑l24.length:Int))) (Y1 (Yf l24 n2) fun c25=>gd (decide (1≤c25.length)) (YA (AM.partOf c25 0
 none) fun s26=>Za (O.call 41 [V.ref r0 0,V.str s26] st) fun r27=>ZW r27.fst (fun v28=>Yv v28 fun c29=>Zj c29 (gcE (List.length st) (V.tup [])
 r27.snd)) fun p30=>none)))) (Yb st r0 fun x31=>Y0 x31 fun c32=>gd (decide (3≤c32.length)&&true) (gcE (List.length st) (V.tup []) (List.set st r0 (Res.box (setCells
 c32 2 [V.int 2]))))))) (Yb st r0 fun x33=>Y0 x33 fun c34=>gd (decide (3≤c34.length)&&true) (gcE (List.length st) (V.tup []) (List.set st r0 (Res.box (setCells c34 2
 [V.int 2])))))))) (bc (n1==2) (Yb st r0 fun x35=>Y0 x35 fun c36=>gd (decide (1≤c36.length)&&true) (ZV (some 4) (Z2 (AM.partOf c36 0 none)) fun l37=>bc
 (decide (n2<(↑l37.length:Int))) (Yb st r0 fun x38=>Y0 x38 fun c39=>gd (decide (1≤c39.length)&&true) (ZV (some 4) (Z2 (AM.partOf c39 0 none)) fun l40=>gd
 (decide (0≤n2)&&decide (n2<(↑l40.length:Int))) (Y1 (Yf l40 n2) fun c41=>gd (decide (1≤c41.length)) (YA (AM.partOf c41 0 none) fun s42=>Za (O.call
 41 [V.ref r0 0,V.str s42] st) fun r43=>ZW r43.fst (fun v44=>Yv v44 fun c45=>Zj c45 (gcE (List.length st) (V.tup []) r43.snd)) fun p46=>none))))
 (Yb st r0 fun x47=>Y0 x47 fun c48=>gd (decide (3≤c48.length)&&true) (gcE (List.length st) (V.tup []) (List.set st r0 (Res.box (setCells c48 2 [V.int 2]))))))) (bc (n1
 ==5) (Yb st r0 fun x49=>Y0 x49 fun c50=>gd (decide (1≤c50.length)&&true) (ZV (some 4) (Z2 (AM.partOf c50 0 none)) fun l51=>bc (decide (n2<(↑l51.length:
 Int))) (Yb st r0 fun x52=>Y0 x52 fun c53=>gd (decide (1≤c53.length)&&true) (ZV (some 4) (Z2 (AM.partOf c53 0 none)) fun l54=>gd (decide (0≤n2)&&decide
 (n2<(↑l54.length:Int))) (Y1 (Yf l54 n2) fun c55=>gd (decide (1≤c55.length)) (YA (AM.partOf c55 0 none) fun s56=>Za (O.call 41 [V.ref r0 0,
 V.str s56] st) fun r57=>ZW r57.fst (fun v58=>Yv v58 fun c59=>Zj c59 (gcE (List.length st) (V.tup []) r57.snd)) fun p60=>none)))) (Yb st r0 fun x61=>Y0 x61
 fun c62=>gd (decide (3≤c62.length)&&true) (gcE (List.length st) (V.tup []) (List.set st r0 (Res.box (setCells c62 2 [V.int 2]))))))) (Yb st r0 fun x63=>Y0 x63 fun c64
 =>gd (decide (3≤c64.length)&&true) (gcE (List.length st) (V.tup []) (List.set st r0 (Res.box (setCells c64 2 [V.int 2]))))))):=by kernel_rfl
theorem zhc(O:Oracle)(n0:Int)(n1:Int)(l2:(List V)):Zd Tryd.prog cfg O 48 [.agg [.int n0, .int n1, .vec .plain (some 3) l2]] []=
 bc ((↑l2.length:Int)==0) (bc (n0==4) (some (Out.ret (V.bool true),[])) (bc (n0==2) (some (Out.ret (V.bool true),[])) (some (Out.ret (V.bool (n0==5)),[])))) (some
 (Out.ret (V.bool false),[])):=by kernel_rfl
theorem zcs(O:Oracle)(r0:Nat)(n0:Int)(k:Int)(h:Int)(l:(List V))(st:St):Zd Tryd.prog cfg O 49 [.cptr none (.ref r0 0), .cptr (some 3) (.agg [.int k, .int h, .vec .plain (some 3) l]), .cptr none (.int n0)] st=
 Za (O.call 24 [V.ref r0 0,V.agg [V.int k,V.int h,V.vec .plain (some 3) l],V.int n0] st) fun r1=>ZW r1.fst (fun v2=>Yv v2 fun c3=>Zj c3 (gcE
 (List.length st) (V.tup []) r1.snd)) fun p4=>none:=by kernel_rfl
theorem Xv(O:Oracle)(n0:Int)(n1:Int)(r2:Nat)(l3:(List V))(n4:Int)(st:St):Z3 Tryd.prog cfg O 24 4 [.int n0, .loc false none (.int n1), .loc false none (.ref r2 0), .vec .plain (some 3) l3, .int n4] st=
 bc (decide (n0<n4)) (gd (decide (0≤n0)&&decide (n0<(↑l3.length:Int))) (Zl [CT.int,CT.int,CT.slice (some 3)] (Yf l3 n0) fun n1_1 n2 l3_1=>Za (Zi O
 48 [V.agg [V.int n1_1,V.int n2,V.vec .plain (some 3) l3_1]]) fun r4=>Zp r4 fun b5=>bc b5 (Za (O.call 24 [V.ref r2 0,V.agg [V.int n1_1,
 V.int n2,V.vec .plain (some 3) l3_1],V.int n1] st) fun r6=>ZW r6.fst (fun v7=>Yv v7 fun c8=>Zj c8 (O.2 24 4 [V.int (IntKind.i64.wrap (n0+1)),
 V.loc false none (V.int n1),V.loc false none (V.ref r2 0),V.vec .plain (some 3) l3,V.int n4] r6.snd)) fun p9=>none) (Za (O.call 42 [V.ref r2 0,V.str {
 data:= #[40]},V.str {data:= #[41]},V.fn 49 [] [V.cptr none (V.ref r2 0),V.cptr (some 3) (V.agg [V.int n1_1,V.int n2,V.vec .plain (some 3) l3_1]),
 V.cptr none (V.int n1)]] st) fun r10=>ZW r10.fst (fun v11=>Yv v11 fun c12=>Zj c12 (O.2 24 4 [V.int (IntKind.i64.wrap (n0+1)),V.cptr none (V.int
 n1),V.cptr none (V.ref r2 0),V.vec .plain (some 3) l3,V.int n4] r10.snd)) fun p13=>none))) (some (Ex.exit 1,[],st)):=by kernel_rfl
end Go.Proofs.SW
namespace Go.Proofs.SW
open Go Go.AM
set_option maxRecDepth 20000
theorem zly(O:Oracle)(n0:Int)(n1:Int)(l2:(List V)):Zd Tryd.prog cfg O 16 [.agg [.int n0, .int n1, .vec .plain (some 3) l2]] []=
 Za (Zi O 33 [V.agg [V.int n0,V.int n1,V.vec .plain (some 3) l2]]) fun r1=>Zv r1 fun n2=>bc (decide (n2≤60)) (Za (Zi O 34 [V.agg [V.int
 n0,V.int n1,V.vec .plain (some 3) l2]]) fun r3=>Zv r3 fun n4=>bc (decide (n4≤4000)) (Za (O.call 35 [V.agg [V.int n0,V.int n1,V.vec .plain (some 3) l2],
 V.fn 36 [] []] []) fun r5=>ZW r5.fst (fun v6=>Zp v6 fun b7=>some (Out.ret (V.bool b7),[])) fun p8=>none) (some (Out.ret (V.bool false),[]))) (some
 (Out.ret (V.bool false),[])):=by kernel_rfl
theorem zku(O:Oracle)(l0:(List V)):Zd Tryd.prog cfg O 8 [.vec .plain (some 4) l0] []=
 bc (decide ((↑l0.length:Int)>30)) (some (Out.ret (V.bool false),[])) (Za (O.loop 8 4 [V.int 0,V.vec .plain (some 4) l0] []) fun r1=>YV r1.fst none (Zf
 r1.snd.fst fun v2 c3=>Zp v2 fun b4=>Zj c3 (some (Out.ret (V.bool b4),[]))) (fun i5=>bc (i5.beq 0) (Zj r1.snd.fst (some (Out.ret (V.bool true),[]))) none) fun v6
 =>none):=by kernel_rfl
theorem zct(O:Oracle)(n0:Int)(l1:(List V)):Z3 Tryd.prog cfg O 8 4 [.int n0, .vec .plain (some 4) l1] []=
 bc (decide (n0<(↑l1.length:Int))) (gd (decide (0≤n0)&&decide (n0<(↑l1.length:Int))) (Y1 (Yf l1 n0) fun c1=>gd (decide (4≤c1.length)) (onCells [CT.int,CT.int,
 CT.slice (some 3)] (List.take 3 (List.drop 1 c1)) fun n2 n3 l4=>Za (Zi O 9 [V.agg [V.int n2,V.int n3,V.vec .plain (some 3) l4],V.int 1000,V.int 80]) fun r5
 =>Zp r5 fun b6=>bc (!b6) (some (Ex.ret,[V.bool false],[])) (O.2 8 4 [V.int (IntKind.i64.wrap (n0+1)),V.vec .plain (some 4) l1] [])))) (some (Ex.exit 0,[],
 [])):=by kernel_rfl
theorem zkv(O:Oracle)(n0:Int)(n1:Int)(l2:(List V)):Zd Tryd.prog cfg O 34 [.agg [.int n0, .int n1, .vec .plain (some 3) l2]] []=
 Za (O.call 62 [V.agg [V.int n0,V.int n1,V.vec .plain (some 3) l2]] [Res.box [V.int 0]]) fun r1=>ZW r1.fst (fun v2=>zfz v2 fun g3 a4 b5=>Za (O.call g3
 (a4++[V.yld (List.length r1.snd)]++b5) (r1.snd++[Res.loop 34 3 [V.ref 0 0] LSt.ready none])) fun r6=>ZW r6.fst (fun v7=>Yb r6.snd (List.length r1.snd) fun
 x8=>Xz x8 fun f9 k10 vs11 s12 p13=>Jx s12 p13 (Yb (List.set r6.snd (List.length r1.snd) Res.dead) 0 fun x14=>Y0 x14 fun c15=>gd (decide (1≤c15.length)&&
 true) (Zv (Z2 (AM.partOf c15 0 none)) fun n16=>some (Out.ret (V.int n16),[]))) none fun i17=>none) fun p18=>none) fun p19=>none:=by kernel_rfl
theorem zgo(O:Oracle)(n i:Int)(c:List V):XK Tryd.prog cfg O 1 34 3 [.ref 0 0] [.int i, .agg c] [.box [.int n], .loop 34 3 [.ref 0 0] .ready none]=
 some (true,[Res.box [V.int (IntKind.i64.wrap (n+1))],Res.loop 34 3 [V.ref 0 0] LSt.ready none]):=by kernel_rfl
theorem ziW(O:Oracle)(n0:Int)(n1:Int)(l2:(List V)):Zd Tryd.prog cfg O 33 [.agg [.int n0, .int n1, .vec .plain (some 3) l2]] []=
 Za (O.loop 33 3 [V.int 0,V.int 0,V.vec .plain (some 3) l2,V.int (↑l2.length:Int)] []) fun r1=>YV r1.fst none none (fun i2=>bc (i2.beq 0) (Zf r1.snd.fst
 fun v3 c4=>Zv v3 fun n5=>Zj c4 (some (Out.ret (V.int (IntKind.i64.wrap (n5+1))),[]))) none) fun v6=>none:=by kernel_rfl
theorem zbI(O:Oracle)(n0:Int)(n1:Int)(l2:(List V))(n3:Int):Z3 Tryd.prog cfg O 33 3 [.int n0, .int n1, .vec .plain (some 3) l2, .int n3] []=
 bc (decide (n0<n3)) (gd (decide (0≤n0)&&decide (n0<(↑l2.length:Int))) (Zl [CT.int,CT.int,CT.slice (some 3)] (Yf l2 n0) fun n1_1 n2 l3=>Za (Zi O
 33 [V.agg [V.int n1_1,V.int n2,V.vec .plain (some 3) l3]]) fun r4=>Zv r4 fun n5=>O.2 33 3 [V.int (IntKind.i64.wrap (n0+1)),V.int (if n5>n1 then
 n5 else n1),V.vec .plain (some 3) l2,V.int n3] [])) (some (Ex.exit 0,[V.int n1],[])):=by kernel_rfl
theorem zlz(O:Oracle)(k h:Int)(xs:List V)(g:Nat)(a b:List V):Zd Tryd.prog cfg O 35 [.agg [.int k, .int h, .vec .plain (some 3) xs], .fn g a b] []=
 Za (O.call 62 [V.agg [V.int k,V.int h,V.vec .plain (some 3) xs]] [Res.box [V.bool false]]) fun r1=>ZW r1.fst (fun v2=>zfz v2 fun g3 a4 b5=>Za (O.call
 g3 (a4++[V.yld (List.length r1.snd)]++b5) (r1.snd++[Res.loop 35 4 [V.ref 0 0,V.cptr none (V.fn g a b)] LSt.ready none])) fun r6=>ZW r6.fst (fun v7=>Yb
 r6.snd (List.length r1.snd) fun x8=>Xz x8 fun f9 k10 vs11 s12 p13=>Jx s12 p13 (Yb (List.set r6.snd (List.length r1.snd) Res.dead) 0 fun x14=>Y0 x14 fun c15=>
 gd (decide (1≤c15.length)&&true) (Yb ((List.set r6.snd (List.length r1.snd) Res.dead).set 0 (Res.box (setCells c15 0 [V.bool true]))) 0 fun x16=>Y0 x16 fun c17=>gd
 (decide (1≤c17.length)&&true) (gcE 0 (Z2 (AM.partOf c17 0 none)) ((List.set r6.snd (List.length r1.snd) Res.dead).set 0 (Res.box (setCells c15 0 [V.bool true])))))) (Yb
 (List.set r6.snd (List.length r1.snd) Res.dead) 0 fun x18=>Y0 x18 fun c19=>gd (decide (1≤c19.length)&&true) (gcE 0 (Z2 (AM.partOf c19 0 none)) (List.set r6.snd
 (List.length r1.snd) Res.dead))) fun i20=>none) fun p21=>none) fun p22=>none:=by kernel_rfl
theorem zhd(O:Oracle)(i k h:Int)(xs:List V)(b0:Bool)(g:Nat)(a b:List V):XK Tryd.prog cfg O 1 35 4 [.ref 0 0, .cptr none (.fn g a b)] [.int i, .agg [.int k, .int h, .vec .plain (some 3) xs]] [.box [.bool b0], .loop 35 4 [.ref 0 0, .cptr none (.fn g a b)] .ready none]=
 bc (cfg.pure g) (Za (Zi O g (a++[V.int i,V.agg [V.int k,V.int h,V.vec .plain (some 3) xs]]++b)) fun r1=>Zp r1 fun b2=>bc (!b2) (some (false,[Res.box [V.bool
 false],Res.loop 35 4 [V.ref 0 0,V.cptr none (V.fn g a b)] LSt.done (some Ex.ret)])) (some (true,[Res.box [V.bool b0],Res.loop 35 4 [V.ref 0 0,V.cptr none
 (V.fn g a b)] LSt.ready none]))) (Za (O.call g (a++[V.int i,V.agg [V.int k,V.int h,V.vec .plain (some 3) xs]]++b) [Res.box [V.bool b0],Res.loop 35 4 [V.ref 0 0,
 V.cptr none (V.fn g a b)] LSt.busy none]) fun r3=>ZW r3.fst (fun v4=>Zp v4 fun b5=>bc (!b5) (Yb r3.snd 0 fun x6=>Y0 x6 fun c7=>gd (decide (1≤c7.length)&&
 true) (Yb (List.set r3.snd 0 (Res.box (setCells c7 0 [V.bool false]))) 1 fun x8=>Xz x8 fun f9 k10 vs11 s12 p13=>zf6 s12 (some (false,(List.set r3.snd 0 (Res.box
 (setCells c7 0 [V.bool false]))).set 1 (Res.loop f9 k10 vs11 LSt.done (some Ex.ret)))))) (Yb r3.snd 1 fun x14=>Xz x14 fun f15 k16 vs17 s18 p19=>zf6 s18 (some (true,
 List.set r3.snd 1 (Res.loop f15 k16 vs17 LSt.ready none))))) fun p20=>none):=by kernel_rfl
theorem ziX(O:Oracle)(n0:Int)(n1:Int)(n2:Int)(l3:(List V)):Zd Tryd.prog cfg O 36 [.int n0, .agg [.int n1, .int n2, .vec .plain (some 3) l3]] []=
 Za (Zi O 37 [V.agg [V.int n1,V.int n2,V.vec .plain (some 3) l3]]) fun r1=>Zp r1 fun b2=>some (Out.ret (V.bool b2),[]):=by kernel_rfl
theorem zl0(O:Oracle)(n0:Int)(n1:Int)(l2:(List V)):Zd Tryd.prog cfg O 37 [.agg [.int n0, .int n1, .vec .plain (some 3) l2]] []=
 bc (n0==0) (bc (n1==0) (some (Out.ret (V.bool ((↑l2.length:Int)==0)),[])) (some (Out.ret (V.bool false),[]))) (bc (n0==1) (bc (n1==0) (some (Out.ret (V.bool
 ((↑l2.length:Int)==2)),[])) (some (Out.ret (V.bool false),[]))) (bc (n0==3) (bc (n1==0) (some (Out.ret (V.bool ((↑l2.length:Int)==1)),[])) (some (Out.ret (V.bool
 false),[]))) (bc (decide (n0≥0)) (bc (decide (n0<7)) (some (Out.ret (V.bool (decide (n1≥0))),[])) (some (Out.ret (V.bool false),[]))) (some (Out.ret (V.bool false),
 []))))):=by kernel_rfl
theorem zhe(O:Oracle)(n0:Int)(n1:Int)(l2:(List V))(n3:Int)(n4:Int):Zd Tryd.prog cfg O 9 [.agg [.int n0, .int n1, .vec .plain (some 3) l2], .int n3, .int n4] []=
 Za (Zi O 21 [V.agg [V.int n0,V.int n1,V.vec .plain (some 3) l2]]) fun r1=>Zp r1 fun b2=>bc b2 (Za (Zi O 22 [V.agg [V.int n0,V.int n1,
 V.vec .plain (some 3) l2]]) fun r3=>Zv r3 fun n4_1=>bc (decide (n4_1≤n3)) (Za (Zi O 23 [V.agg [V.int n0,V.int n1,V.vec .plain (some 3) l2]]) fun r5=>
 Zv r5 fun n6=>some (Out.ret (V.bool (decide (n6≤n4))),[])) (some (Out.ret (V.bool false),[]))) (some (Out.ret (V.bool false),[])):=by kernel_rfl
theorem zeb(O:Oracle)(k h:Int)(xs:List V)(x:Res):Zd Tryd.prog cfg O 62 [.agg [.int k, .int h, .vec .plain (some 3) xs]] [x]=
 some (Out.ret (V.fn 70 [] [V.cptr (some 3) (V.agg [V.int k,V.int h,V.vec .plain (some 3) xs])]),[x]):=by kernel_rfl
theorem zkw(O:Oracle)(n0:Int)(n1:Int)(l2:(List V)):Zd Tryd.prog cfg O 21 [.agg [.int n0, .int n1, .vec .plain (some 3) l2]] []=
 bc (decide (n1>1099511627776)) (some (Out.ret (V.bool false),[])) (Za (O.loop 21 4 [V.int 0,V.loc false (some 3) (V.agg [V.int n0,V.int n1,V.vec .plain (some 3)
 l2])] []) fun r1=>YV r1.fst none (Zf r1.snd.fst fun v2 c3=>Zp v2 fun b4=>Zj c3 (some (Out.ret (V.bool b4),[]))) (fun i5=>bc (i5.beq 0) (Zj r1.snd.fst
 (some (Out.ret (V.bool true),[]))) none) fun v6=>none):=by kernel_rfl
theorem zcu(O:Oracle)(n0:Int)(n1:Int)(n2:Int)(l3:(List V)):Z3 Tryd.prog cfg O 21 4 [.int n0, .loc false (some 3) (.agg [.int n1, .int n2, .vec .plain (some 3) l3])] []=
 bc (decide (n0<(↑l3.length:Int))) (gd (decide (0≤n0)&&decide (n0<(↑l3.length:Int))) (Zl [CT.int,CT.int,CT.slice (some 3)] (Yf l3 n0) fun n1_1 n2_1 l3_1=>
 Za (Zi O 21 [V.agg [V.int n1_1,V.int n2_1,V.vec .plain (some 3) l3_1]]) fun r4=>Zp r4 fun b5=>bc (!b5) (some (Ex.ret,[V.bool false],[])) (O.2
 21 4 [V.int (IntKind.i64.wrap (n0+1)),V.loc false (some 3) (V.agg [V.int n1,V.int n2,V.vec .plain (some 3) l3])] []))) (some (Ex.exit 0,[],[])):=by kernel_rfl
theorem ziY(O:Oracle)(n0:Int)(n1:Int)(l2:(List V)):Zd Tryd.prog cfg O 22 [.agg [.int n0, .int n1, .vec .plain (some 3) l2]] []=
 Za (O.loop 22 3 [V.int 0,V.loc false (some 3) (V.agg [V.int n0,V.int n1,V.vec .plain (some 3) l2]),V.int 1] []) fun r1=>YV r1.fst none none (fun i2=>bc
 (i2.beq 0) (Zf r1.snd.fst fun v3 c4=>Zv v3 fun n5=>Zj c4 (some (Out.ret (V.int n5),[]))) none) fun v6=>none:=by kernel_rfl
theorem zbJ(O:Oracle)(n0:Int)(n1:Int)(n2:Int)(l3:(List V))(n4:Int):Z3 Tryd.prog cfg O 22 3 [.int n0, .loc false (some 3) (.agg [.int n1, .int n2, .vec .plain (some 3) l3]), .int n4] []=
 bc (decide (n0<(↑l3.length:Int))) (gd (decide (0≤n0)&&decide (n0<(↑l3.length:Int))) (Zl [CT.int,CT.int,CT.slice (some 3)] (Yf l3 n0) fun n1_1 n2_1 l3_1=>
 Za (Zi O 22 [V.agg [V.int n1_1,V.int n2_1,V.vec .plain (some 3) l3_1]]) fun r4=>Zv r4 fun n5=>O.2 22 3 [V.int (IntKind.i64.wrap (n0+1)),V.loc
 false (some 3) (V.agg [V.int n1,V.int n2,V.vec .plain (some 3) l3]),V.int (IntKind.i64.wrap (n4+n5))] [])) (some (Ex.exit 0,[V.int n4],[])):=by kernel_rfl
theorem zhf(O:Oracle)(n0:Int)(n1:Int)(l2:(List V)):Zd Tryd.prog cfg O 23 [.agg [.int n0, .int n1, .vec .plain (some 3) l2]] []=
 Za (O.loop 23 3 [V.int 0,V.int 0,V.loc false (some 3) (V.agg [V.int n0,V.int n1,V.vec .plain (some 3) l2])] []) fun r1=>YV r1.fst none none (fun i2=>bc
 (i2.beq 0) (Zf r1.snd.fst fun v3 c4=>Zv v3 fun n5=>Zj c4 (some (Out.ret (V.int (IntKind.i64.wrap (n5+1))),[]))) none) fun v6=>none:=by kernel_rfl
theorem zaR(O:Oracle)(n0:Int)(n1:Int)(n2:Int)(n3:Int)(l4:(List V)):Z3 Tryd.prog cfg O 23 3 [.int n0, .int n1, .loc false (some 3) (.agg [.int n2, .int n3, .vec .plain (some 3) l4])] []=
 bc (decide (n0<(↑l4.length:Int))) (gd (decide (0≤n0)&&decide (n0<(↑l4.length:Int))) (Zl [CT.int,CT.int,CT.slice (some 3)] (Yf l4 n0) fun n1_1 n2_1 l3=>
 Za (Zi O 23 [V.agg [V.int n1_1,V.int n2_1,V.vec .plain (some 3) l3]]) fun r4=>Zv r4 fun n5=>bc (decide (n5>n1)) (O.2 23 3 [V.int
 (IntKind.i64.wrap (n0+1)),V.int n5,V.loc false (some 3) (V.agg [V.int n2,V.int n3,V.vec .plain (some 3) l4])] []) (O.2 23 3 [V.int (IntKind.i64.wrap (n0+1)),
 V.int n1,V.loc false (some 3) (V.agg [V.int n2,V.int n3,V.vec .plain (some 3) l4])] []))) (some (Ex.exit 0,[V.int n1],[])):=by kernel_rfl
theorem zgp(O:Oracle)(k h:Int)(xs:List V)(x y:Res):Zd Tryd.prog cfg O 70 [.yld 1, .cptr (some 3) (.agg [.int k, .int h, .vec .plain (some 3) xs])] [x,y]=
 Za (O.call 71 [V.agg [V.int k,V.int h,V.vec .plain (some 3) xs],V.int 0,V.yld 1] [x,y]) fun r1=>ZW r1.fst (fun v2=>Zp v2 fun b3=>gcE [x,y].length
 (V.tup []) r1.snd) fun p4=>none:=by kernel_rfl
theorem zkx(O:Oracle)(k h i:Int)(xs:List V)(x y:Res):Zd Tryd.prog cfg O 71 [.agg [.int k, .int h, .vec .plain (some 3) xs], .int i, .yld 1] [x,y]=
 Xz y fun f1 k2 vs3 s4 p5=>Jx s4 p5 (Za (O.round 1 f1 k2 vs3 [V.int i,V.agg [V.int k,V.int h,V.vec .plain (some 3) xs]] [x,y]) fun r6=>bc (!r6.fst) (gcE [x,
 y].length (V.bool false) r6.snd) (Za (O.loop 71 4 [V.int 0,V.yld 1,V.loc false (some 3) (V.agg [V.int k,V.int h,V.vec .plain (some 3) xs]),V.int i,V.vec .plain
 (some 3) xs,V.int (↑xs.length:Int)] r6.snd) fun r7=>YV r7.fst none (Zf r7.snd.fst fun v8 c9=>Zp v8 fun b10=>Zj c9 (gcE [x,y].length (V.bool b10)
 r7.snd.snd)) (fun i11=>bc (i11.beq 0) (Zj r7.snd.fst (gcE [x,y].length (V.bool true) r7.snd.snd)) none) fun v12=>none)) none fun i13=>none:=by kernel_rfl
theorem zcv(O:Oracle)(i n j k h:Int)(xs ys:List V)(x y:Res):Z3 Tryd.prog cfg O 71 4 [.int i, .yld 1, .loc false (some 3) (.agg [.int k, .int h, .vec .plain (some 3) xs]), .int j, .vec .plain (some 3) ys, .int n] [x,y]=
 bc (decide (i<n)) (gd (decide (0≤i)&&decide (i<(↑ys.length:Int))) (Zl [CT.int,CT.int,CT.slice (some 3)] (Yf ys i) fun n1 n2 l3=>Za (Zi O 82
 [V.agg [V.int k,V.int h,V.vec .plain (some 3) xs]]) fun r4=>Zp r4 fun b5=>bc b5 (bc (i==IntKind.i64.wrap ((↑xs.length:Int)-1)) (Za (O.call 71 [V.agg
 [V.int n1,V.int n2,V.vec .plain (some 3) l3],V.int (IntKind.i64.wrap (j+1)),V.yld 1] [x,y]) fun r6=>ZW r6.fst (fun v7=>Zp v7 fun b8=>bc (!b8) (some (Ex.ret,
 [V.bool false],r6.snd)) (O.2 71 4 [V.int (IntKind.i64.wrap (i+1)),V.yld 1,V.loc false (some 3) (V.agg [V.int k,V.int h,V.vec .plain (some 3) xs]),V.int j,V.vec
 .plain (some 3) ys,V.int n] r6.snd)) fun p9=>none) (Za (O.call 71 [V.agg [V.int n1,V.int n2,V.vec .plain (some 3) l3],V.int j,V.yld 1] [x,y]) fun r10=>ZW
 r10.fst (fun v11=>Zp v11 fun b12=>bc (!b12) (some (Ex.ret,[V.bool false],r10.snd)) (O.2 71 4 [V.int (IntKind.i64.wrap (i+1)),V.yld 1,V.loc false (some 3)
 (V.agg [V.int k,V.int h,V.vec .plain (some 3) xs]),V.int j,V.vec .plain (some 3) ys,V.int n] r10.snd)) fun p13=>none)) (Za (O.call 71 [V.agg [V.int n1,V.int
 n2,V.vec .plain (some 3) l3],V.int j,V.yld 1] [x,y]) fun r14=>ZW r14.fst (fun v15=>Zp v15 fun b16=>bc (!b16) (some (Ex.ret,[V.bool false],r14.snd)) (O.2
 71 4 [V.int (IntKind.i64.wrap (i+1)),V.yld 1,V.loc false (some 3) (V.agg [V.int k,V.int h,V.vec .plain (some 3) xs]),V.int j,V.vec .plain (some 3) ys,V.int n]
 r14.snd)) fun p17=>none))) (some (Ex.exit 0,[],[x,y])):=by kernel_rfl
theorem ziZ(O:Oracle)(n0:Int)(n1:Int)(l2:(List V)):Zd Tryd.prog cfg O 82 [.agg [.int n0, .int n1, .vec .plain (some 3) l2]] []=
 bc (n0==1) (some (Out.ret (V.bool true),[])) (some (Out.ret (V.bool (n0==3)),[])):=by kernel_rfl
theorem zky(O:Oracle)(n0:Int)(n1:Int)(l2:(List V)):Zd Tryd.prog cfg O 26 [.agg [.int n0, .int n1, .vec .plain (some 3) l2]] []=
 Za (Zi O 50 [V.agg [V.int n0,V.int n1,V.vec .plain (some 3) l2]]) fun r1=>Zp r1 fun b2=>bc b2 (Za (Zi O 22 [V.agg [V.int n0,V.int n1,
 V.vec .plain (some 3) l2]]) fun r3=>Zv r3 fun n4=>bc (decide (n4≤4000)) (Za (Zi O 23 [V.agg [V.int n0,V.int n1,V.vec .plain (some 3) l2]]) fun r5=>
 Zv r5 fun n6=>some (Out.ret (V.bool (decide (n6≤60))),[])) (some (Out.ret (V.bool false),[]))) (some (Out.ret (V.bool false),[])):=by kernel_rfl
theorem zhg(O:Oracle)(n0:Int)(n1:Int)(l2:(List V)):Zd Tryd.prog cfg O 50 [.agg [.int n0, .int n1, .vec .plain (some 3) l2]] []=
 bc (n0==0) (bc (n1 !=0) (some (Out.ret (V.bool false),[])) (bc ((↑l2.length:Int) !=0) (some (Out.ret (V.bool false),[])) (Za (O.loop 50 19 [V.int 0,V.loc
 false (some 3) (V.agg [V.int n0,V.int n1,V.vec .plain (some 3) l2])] []) fun r1=>YV r1.fst none (Zf r1.snd.fst fun v2 c3=>Zp v2 fun b4=>Zj c3 (some (Out.ret
 (V.bool b4),[]))) (fun i5=>bc (i5.beq 1) (Zj r1.snd.fst (some (Out.ret (V.bool true),[]))) none) fun v6=>none))) (bc (n0==1) (bc (n1 !=0) (some (Out.ret (V.bool
 false),[])) (bc ((↑l2.length:Int) !=2) (some (Out.ret (V.bool false),[])) (Za (O.loop 50 19 [V.int 0,V.loc false (some 3) (V.agg [V.int n0,V.int n1,V.vec
 .plain (some 3) l2])] []) fun r7=>YV r7.fst none (Zf r7.snd.fst fun v8 c9=>Zp v8 fun b10=>Zj c9 (some (Out.ret (V.bool b10),[]))) (fun i11=>bc (i11.beq 1)
 (Zj r7.snd.fst (some (Out.ret (V.bool true),[]))) none) fun v12=>none))) (bc (n0==3) (bc (n1 !=0) (some (Out.ret (V.bool false),[])) (bc ((↑l2.length:Int) !=1) (some
 (Out.ret (V.bool false),[])) (Za (O.loop 50 19 [V.int 0,V.loc false (some 3) (V.agg [V.int n0,V.int n1,V.vec .plain (some 3) l2])] []) fun r13=>YV r13.fst
 none (Zf r13.snd.fst fun v14 c15=>Zp v14 fun b16=>Zj c15 (some (Out.ret (V.bool b16),[]))) (fun i17=>bc (i17.beq 1) (Zj r13.snd.fst (some (Out.ret (V.bool
 true),[]))) none) fun v18=>none))) (bc (n0==2) (bc (decide (n1<0)) (some (Out.ret (V.bool false),[])) (Za (O.loop 50 19 [V.int 0,V.loc false (some 3) (V.agg
 [V.int n0,V.int n1,V.vec .plain (some 3) l2])] []) fun r19=>YV r19.fst none (Zf r19.snd.fst fun v20 c21=>Zp v20 fun b22=>Zj c21 (some (Out.ret (V.bool b22),
 []))) (fun i23=>bc (i23.beq 1) (Zj r19.snd.fst (some (Out.ret (V.bool true),[]))) none) fun v24=>none)) (bc (n0==4) (bc (decide (n1<0)) (some (Out.ret (V.bool false),
 [])) (Za (O.loop 50 19 [V.int 0,V.loc false (some 3) (V.agg [V.int n0,V.int n1,V.vec .plain (some 3) l2])] []) fun r25=>YV r25.fst none (Zf r25.snd.fst
 fun v26 c27=>Zp v26 fun b28=>Zj c27 (some (Out.ret (V.bool b28),[]))) (fun i29=>bc (i29.beq 1) (Zj r25.snd.fst (some (Out.ret (V.bool true),[]))) none) fun v30
 =>none)) (bc (n0==5) (bc (decide (n1<0)) (some (Out.ret (V.bool false),[])) (Za (O.loop 50 19 [V.int 0,V.loc false (some 3) (V.agg [V.int n0,V.int n1,V.vec
 .plain (some 3) l2])] []) fun r31=>YV r31.fst none (Zf r31.snd.fst fun v32 c33=>Zp v32 fun b34=>Zj c33 (some (Out.ret (V.bool b34),[]))) (fun i35=>bc
 (i35.beq 1) (Zj r31.snd.fst (some (Out.ret (V.bool true),[]))) none) fun v36=>none)) (bc (n0==6) (bc (decide (n1<0)) (some (Out.ret (V.bool false),[])) (Za (O.loop
 50 19 [V.int 0,V.loc false (some 3) (V.agg [V.int n0,V.int n1,V.vec .plain (some 3) l2])] []) fun r37=>YV r37.fst none (Zf r37.snd.fst fun v38 c39=>Zp
 v38 fun b40=>Zj c39 (some (Out.ret (V.bool b40),[]))) (fun i41=>bc (i41.beq 1) (Zj r37.snd.fst (some (Out.ret (V.bool true),[]))) none) fun v42=>none)) (some
 (Out.ret (V.bool false),[])))))))):=by kernel_rfl
theorem zau(O:Oracle)(n0:Int)(n1:Int)(n2:Int)(l3:(List V)):Z3 Tryd.prog cfg O 50 19 [.int n0, .loc false (some 3) (.agg [.int n1, .int n2, .vec .plain (some 3) l3])] []=
 bc (decide (n0<(↑l3.length:Int))) (gd (decide (0≤n0)&&decide (n0<(↑l3.length:Int))) (Zl [CT.int,CT.int,CT.slice (some 3)] (Yf l3 n0) fun n1_1 n2_1 l3_1=>
 Za (Zi O 50 [V.agg [V.int n1_1,V.int n2_1,V.vec .plain (some 3) l3_1]]) fun r4=>Zp r4 fun b5=>bc (!b5) (some (Ex.ret,[V.bool false],[])) (O.2
 50 19 [V.int (IntKind.i64.wrap (n0+1)),V.loc false (some 3) (V.agg [V.int n1,V.int n2,V.vec .plain (some 3) l3])] []))) (some (Ex.exit 1,[],[])):=by kernel_rfl
end Go.Proofs.SW
namespace Go.Ama
open Go Go.AM
def low:T→Bool
 | .mk _ h xs=>decide (h≤1099511627776)&&lows xs
where lows:List T→Bool
 |[]=>true
 |t::ts=>low t&&lows ts
theorem zgq: ∀ts,low.lows ts=ts.all low
 |[]=>rfl
 |t::ts=>by simp[low.lows,zgq ts]
def zdf(n m:Int)(t:T):Bool:=low t&&(decide ((t.size:Int)≤n)&&decide ((t.depth:Int)≤m))
def zaS(k h:Int)(n:Nat):Bool:=
 if k=0 then decide (h=0)&&decide (n=0)else if k=1 then decide (h=0)&&decide (n=2)else if k=3 then decide (h=0)&&decide (n=1)else decide (0≤k)&&(decide (k<7)&&decide (0≤h))
mutual
def Yo:T→Bool
 | .mk k h l=>zaS k h l.length&&Y8 l
def Y8:List T→Bool
 |[]=>true
 |t::l=>Yo t&&Y8 l
end
theorem zag: ∀l,Y8 l=l.all Yo
 |[]=>rfl
 |t::l=>by simp[Y8,zag l]
def may(t:T):Bool:=Yo t&&(decide (t.size≤4000)&&decide (t.depth≤60))
mutual
def XR(g:Int→T→Bool)(i:Int):T→Bool
 | .mk k h l=>g i (.mk k h l)&&YK g i (decide (k=1)||decide (k=3)) l
def YK(g:Int→T→Bool)(i:Int)(b:Bool):List T→Bool
 |[]=>true
 |[t]=>XR g (bif b then i+1 else i) t
 |t::u::l=>XR g i t&&YK g i b (u::l)
end
def iter{σ:Type}(f:σ→σ):Nat→σ→σ
 |0,s=>s
 |n+1,s=>iter f n (f s)
theorem zkz{σ:Type}(f:σ→σ)(a b:Nat)(s:σ):iter f (a+b) s=iter f b (iter f a s):=by
 induction a generalizing s with
 |zero=>simp[iter]
 |succ a ih=>rw[Nat.succ_add];exact ih (f s)
def ZK(vars metas:Int)(i:Int)(t:T):Bool:=(decide (t.k≠4)||decide (IntKind.i64.wrap (t.h-i)<vars))&&(decide (t.k≠6)||decide (t.h<metas))
def zpc(t:T):Bool:=zaS t.k t.h t.args.length
theorem zoj: ∀(t:T) (i:Int),XR (fun _ t=>zpc t) i t=Yo t:=by
 intro t
 induction t using T.ind with
 |_ k h xs ih=>
  intro i
  simp only[XR,Yo]
  generalize(decide (k=1)||decide (k=3))=b
  have: ∀l:List T,(∀a∈l,∀i,XR (fun _ t=>zpc t) i a=Yo a)→YK (fun _ t=>zpc t) i b l=Y8 l:=by
   intro l
   induction l with
   |nil=>intro _;rfl
   |cons a l ihl=>
    intro h
    cases l with
    |nil=>simp only[YK,Y8,Bool.and_true];exact h a (by simp) _
    |cons u l=>simp only[YK,h a (by simp)];rw[ihl fun a ha=>h a (by simp[ha])];simp only[Y8]
  rw[this xs ih]
  rfl
def zok:Nat→T→List T×T
 |0,t=>([],t)
 |n+1,t=>if t.k=1 then match t.args with|[a,b]=>let r:=zok n b;(a::r.1,r.2)|_=>([],t)else([],t)
def split(t:T):List T×T:=zok t.size t
end Go.Ama
namespace Go.Proofs.SW
open Go Go.AM Go.Ama
theorem Qr{R:Type}(t:T)(K:Int→Int→List V→Option R):Zl (R:=R) [CT.int,CT.int,CT.slice (some 3)] (enc t) K=K t.k t.h (Zs t.args):=by cases t;rfl
theorem zol: ∀t:T,t.size≤1099511627776→Ev 21 [enc t] (.bool (low t)):=by
 intro t
 induction t using T.ind with
 |_ k h xs ih=>
  intro hs
  simp only[T.size]at hs
  have hlen:=ZF xs
  unfold Ev
  rw[C,enc,zkw]
  by_cases hh:h>1099511627776
  ·have: ¬h≤1099511627776:=by omega
   simp[bc,low,hh,this]
  ·have hle:h≤1099511627776:=by omega
   have hl:=znV (L:=fun i=>W.loop 21 4 [V.int i,V.loc false (some 3) (V.agg [V.int k,V.int h,V.vec .plain (some 3) (Zs xs)])] []) (xs:=xs) (g:=low) (e0:=(Ex.exit 0,[],[])) (e1:=(Ex.ret,[V.bool false],[]))
    (fun i hi=>by
     have hp:=(ih xs[i] (List.getElem_mem hi) (by have:=size_le (List.getElem_mem hi);omega)).p
     show W.loop _ _ _ _=_
     rw[L,zcu]
     simp only[ZB,Xg hi,Qr,←Zz,hp]
     rw[Xa ⟨by omega,by omega⟩]
     cases low xs[i]<;>simp[bc,gd,Za,Zp,hi])
    (by show W.loop _ _ _ _=_;rw[L,zcu];simp[bc]) 0 (by omega)
   simp only[List.drop_zero,Int.ofNat_zero,Int.natCast_zero]at hl
   simp only[hl,hh,low,zgq,hle]
   cases xs.all low<;>rfl
theorem zhQ: ∀t:T,t.size≤1099511627776→Ev 22 [enc t] (.int t.size):=by
 intro t
 induction t using T.ind with
 |_ k h xs ih=>
  intro hs
  simp only[T.size]at hs
  have hlen:=ZF xs
  unfold Ev
  rw[C,enc,ziY]
  have hl:=zab (n:=xs.length) (L:=fun i=>W.loop 22 3 [V.int (i:Nat),V.loc false (some 3) (V.agg [V.int k,V.int h,V.vec .plain (some 3) (Zs xs)]),V.int ((1+sizes (xs.take i):Nat):Int)] []) (r:=some (Ex.exit 0,[V.int ((1+sizes xs:Nat):Int)],[]))
   (fun i hi=>by
    have hp:=(ih xs[i] (List.getElem_mem hi) (by have:=size_le (List.getElem_mem hi);omega)).p
    have h1:=zlq hi
    have h2:=zha xs (i+1)
    show W.loop _ _ _ _=_
    rw[L,zbJ]
    simp only[ZB,Xg hi,Qr,←Zz,hp,Za,Zv]
    rw[Xa ⟨by omega,by omega⟩,Xa ⟨by omega,by omega⟩]
    rw[h1]
    simp[bc,gd,hi,Int.add_assoc])
   (by show W.loop _ _ _ _=_;rw[L,zbJ];simp[bc])
  simp only[List.take_zero,sizes]at hl
  have hl':W.loop 22 3 [V.int 0,V.loc false (some 3) (V.agg [V.int k,V.int h,V.vec .plain (some 3) (Zs xs)]),V.int 1] []=some (Ex.exit 0,[V.int ((1+sizes xs:Nat):Int)],[]):=hl
  simp only[hl',T.size]
  rfl
theorem zgr: ∀t:T,t.size≤1099511627776→Ev 23 [enc t] (.int t.depth):=by
 intro t
 induction t using T.ind with
 |_ k h xs ih=>
  intro hs
  simp only[T.size]at hs
  have hlen:=ZF xs
  unfold Ev
  rw[C,enc,zhf]
  have hl:=zab (n:=xs.length) (L:=fun i=>W.loop 23 3 [V.int (i:Nat),V.int (Z6 (xs.take i):Nat),V.loc false (some 3) (V.agg [V.int k,V.int h,V.vec .plain (some 3) (Zs xs)])] []) (r:=some (Ex.exit 0,[V.int (Z6 xs:Nat)],[]))
   (fun i hi=>by
    have hp:=(ih xs[i] (List.getElem_mem hi) (by have:=size_le (List.getElem_mem hi);omega)).p
    have h1:=zfg hi
    show W.loop _ _ _ _=_
    rw[L,zaR]
    simp only[ZB,Xg hi,Qr,←Zz,hp,Za,Zv]
    rw[Xa ⟨by omega,by omega⟩]
    rw[h1]
    by_cases hc:Z6 (xs.take i)<xs[i].depth
    ·have:max (Z6 (xs.take i)) xs[i].depth=xs[i].depth:=by omega
     rw[this]
     simp[bc,gd,hi,hc]
    ·have:max (Z6 (xs.take i)) xs[i].depth=Z6 (xs.take i):=by omega
     rw[this]
     simp[bc,gd,hi,hc])
   (by show W.loop _ _ _ _=_;rw[L,zaR];simp[bc])
  have hl':W.loop 23 3 [V.int 0,V.int 0,V.loc false (some 3) (V.agg [V.int k,V.int h,V.vec .plain (some 3) (Zs xs)])] []=some (Ex.exit 0,[V.int (Z6 xs:Nat)],[]):=hl
  have hd:=zbD xs
  simp only[hl',T.depth,Za,YV,Zf,Zv,Zj,bc]
  rw[Xa ⟨by omega,by omega⟩]
  rfl
theorem zgs(t:T)(n m:Int)(hs:t.size≤1099511627776):Ev 9 [enc t, .int n, .int m] (.bool (zdf n m t)):=by
 unfold Ev
 rw[C,Zz,zhe,←Zz,(zol t hs).p,(zhQ t hs).p,(zgr t hs).p]
 simp only[Za,Zp,Zv,zdf]
 cases low t<;>simp[bc]
 by_cases h:(t.size:Int)≤n<;>simp[h]
theorem zk0: ∀t:T,t.size≤1099511627776→Ev 50 [enc t] (.bool (Yo t)):=by
 intro t
 induction t using T.ind with
 |_ k h xs ih=>
  intro hs
  simp only[T.size]at hs
  have hlen:=ZF xs
  unfold Ev
  have hl:=zhC (L:=fun i=>W.loop 50 19 [V.int i,V.loc false (some 3) (V.agg [V.int k,V.int h,V.vec .plain (some 3) (Zs xs)])] []) (xs:=xs) (g:=Yo) (e0:=(Ex.exit 1,[],[])) (e1:=(Ex.ret,[V.bool false],[]))
   (fun i hi=>by
    have hp:=(ih xs[i] (List.getElem_mem hi) (by have:=size_le (List.getElem_mem hi);omega)).p
    show W.loop _ _ _ _=_
    rw[L,zau]
    simp only[ZB,Xg hi,Qr,←Zz,hp]
    rw[Xa ⟨by omega,by omega⟩]
    cases Yo xs[i]<;>simp[bc,gd,Za,Zp,hi])
   (by show W.loop _ _ _ _=_;rw[L,zau];simp[bc])
  rw[C,enc,zhg]
  simp only[hl,ZB,Yo,zaS,zag]
  have fin: ∀b:Bool,(Za (some (if b=true then((Ex.exit 1,[],[]):Ex×List V×St)else(Ex.ret,[V.bool false],[]))) fun r1=>
    YV r1.fst none (Zf r1.snd.fst fun v2 c3=>Zp v2 fun b4=>Zj c3 (some (Out.ret (V.bool b4),[])))
     (fun i5=>bc (i5.beq 1) (Zj r1.snd.fst (some (Out.ret (V.bool true),[]))) none) fun v6=>none)=some (Out.ret (V.bool b),([]:St)):=by
   intro b;cases b<;>rfl
  simp only[fin,znW,znX,znY]
  simp only[zoS,ZN]
  by_cases k0:k=0
  ·subst k0
   simp only[decide_true,bc,if_true]
   cases decide (h=0)<;>cases decide (xs.length=0)<;>rfl
  by_cases k1:k=1
  ·subst k1
   simp only[show(1:Int)≠0 by decide,if_false,decide_false,decide_true,bc,if_true]
   cases decide (h=0)<;>cases decide (xs.length=2)<;>rfl
  by_cases k3:k=3
  ·subst k3
   simp only[show(3:Int)≠0 by decide,show(3:Int)≠1 by decide,if_false,decide_false,decide_true,bc,if_true]
   cases decide (h=0)<;>cases decide (xs.length=1)<;>rfl
  have hh:decide (0≤h)= !decide (h<0):=by by_cases c:h<0<;>simp[c]<;>omega
  simp only[k0,k1,k3,if_false,hh,decide_false]
  by_cases k2:k=2
  ·subst k2;cases decide (h<0)<;>rfl
  by_cases k4:k=4
  ·subst k4;cases decide (h<0)<;>rfl
  by_cases k5:k=5
  ·subst k5;cases decide (h<0)<;>rfl
  by_cases k6:k=6
  ·subst k6;cases decide (h<0)<;>rfl
  have:(decide (0≤k)&&(decide (k<7)&& !decide (h<0)))=false:=by
   by_cases a:0≤k<;>by_cases b:k<7<;>simp[a,b]<;>omega
  simp only[k2,k4,k5,k6,decide_false,bc,this,Bool.false_and]
theorem zmX(t:T)(hs:t.size≤1099511627776):Ev 26 [enc t] (.bool (may t)):=by
 unfold Ev
 rw[C,Zz,zky,←Zz,(zk0 t hs).p,(zhQ t hs).p,(zgr t hs).p]
 simp only[Za,Zp,Zv,may]
 cases Yo t<;>simp[bc]
 by_cases h:t.size≤4000
 ·have:decide ((t.size:Int)≤4000)=true:=by simp;omega
  rw[this];simp[h];omega
 ·have:decide ((t.size:Int)≤4000)=false:=by simp;omega
  rw[this];simp[h]
theorem zk1: ∀t:T,t.size≤1099511627776→Ev 33 [enc t] (.int t.depth):=by
 intro t
 induction t using T.ind with
 |_ k h xs ih=>
  intro hs
  simp only[T.size]at hs
  have hlen:=ZF xs
  unfold Ev
  rw[C,enc,ziW]
  have hl:=zab (n:=xs.length) (L:=fun i=>W.loop 33 3 [V.int (i:Nat),V.int (Z6 (xs.take i):Nat),V.vec .plain (some 3) (Zs xs),V.int xs.length] []) (r:=some (Ex.exit 0,[V.int (Z6 xs:Nat)],[]))
   (fun i hi=>by
    have hp:=(ih xs[i] (List.getElem_mem hi) (by have:=size_le (List.getElem_mem hi);omega)).p
    have h1:=zfg hi
    show W.loop _ _ _ _=_
    rw[L,zbI]
    simp only[ZB,Xg hi,Qr,←Zz,hp,Za,Zv]
    rw[Xa ⟨by omega,by omega⟩]
    rw[h1]
    by_cases hc:Z6 (xs.take i)<xs[i].depth
    ·have:max (Z6 (xs.take i)) xs[i].depth=xs[i].depth:=by omega
     rw[this]
     simp[bc,gd,hi,hc]
    ·have:max (Z6 (xs.take i)) xs[i].depth=Z6 (xs.take i):=by omega
     rw[this]
     simp[bc,gd,hi,hc])
   (by show W.loop _ _ _ _=_;rw[L,zbI];simp[bc])
  have hl':W.loop 33 3 [V.int 0,V.int 0,V.vec .plain (some 3) (Zs xs),V.int xs.length] []=some (Ex.exit 0,[V.int (Z6 xs:Nat)],[]):=hl
  have hd:=zbD xs
  simp only[ZB,hl',T.depth,Za,YV,Zf,Zv,Zj,bc]
  rw[Xa ⟨by omega,by omega⟩]
  rfl
end Go.Proofs.SW
namespace Go.Proofs.SW
open Go Go.AM Go.Ama
end Go.Proofs.SW
namespace Go.Proofs.SW
open Go Go.AM Go.Ama
theorem zl1(t:T):Ev 82 [enc t] (.bool (decide (t.k=1)||decide (t.k=3))):=by
 unfold Ev
 rw[C,Zz,ziZ,ZN,ZN]
 cases decide (t.k=1)<;>simp[bc]
section
variable{σ:Type}{x:σ→Res}{nx:σ→σ}{f key:Nat}{vals:List V}{g:Int→T→Bool}{b1 b2:Res}
theorem zmY(hr: ∀(i:Int) (t:T) (s:σ),W.round 1 f key vals [.int i,enc t] [x s, .loop f key vals .ready none]=some (if g i t=true then(true,[x (nx s), .loop f key vals .ready none])else(false,[b1,b2]))):
  ∀(t:T) (i:Int) (s:σ),0≤i→i+t.size≤4611686018427387904→W.call 71 [enc t, .int i, .yld 1] [x s, .loop f key vals .ready none]=
   some (if XR g i t=true then(.ret (.bool true),[x (iter nx t.size s), .loop f key vals .ready none])else(.ret (.bool false),[b1,b2])):=by
 intro t
 induction t using T.ind with
 |_ k h xs ih=>
  intro i s hi hs
  simp only[T.size]at hs
  have hlen:=ZF xs
  rw[C]
  simp only[enc]
  rw[zkx,zkf,ziO]
  have hr0:=hr i (.mk k h xs) s
  simp only[enc]at hr0
  rw[hr0]
  cases hg:g i (.mk k h xs)with
  |false=>
   simp only[XR,hg,Bool.false_and,Zb]
   rfl
  |true=>
   have hl: ∀(d j:Nat) (s:σ),j+d=xs.length→W.loop 71 4 [V.int (j:Nat),V.yld 1,V.loc false (some 3) (V.agg [V.int k,V.int h,V.vec .plain (some 3) (Zs xs)]),V.int i,V.vec .plain (some 3) (Zs xs),V.int xs.length] [x s, .loop f key vals .ready none]=
     some (if YK g i (decide (k=1)||decide (k=3)) (xs.drop j)=true then(Ex.exit 0,[],[x (iter nx (sizes (xs.drop j)) s), .loop f key vals .ready none])else(Ex.ret,[V.bool false],[b1,b2])):=by
    intro d
    induction d with
    |zero=>
     intro j s hj
     have:j=xs.length:=by omega
     subst this
     have hlt:decide ((xs.length:Int)<xs.length)=false:=by simp
     rw[L,zcv,hlt,List.drop_length]
     rfl
    |succ d ihd=>
     intro j s hj
     have hjl:j<xs.length:=by omega
     have hsz:=size_le (List.getElem_mem hjl)
     have hlt:decide ((j:Int)<xs.length)=true:=by simp;omega
     have h0:decide ((0:Int)≤j)=true:=by simp
     have hb:Zi W 82 [V.agg [V.int k,V.int h,V.vec .plain (some 3) (Zs xs)]]=some (.bool (decide (k=1)||decide (k=3))):=(zl1 (.mk k h xs)).p
     have hne:decide ((j:Int)=IntKind.i64.wrap ((xs.length:Int)-1))=decide (j+1=xs.length):=by
      rw[Xa ⟨by omega,by omega⟩]
      by_cases c:j+1=xs.length<;>simp[c]<;>omega
     have step: ∀i':Int,0≤i'→i'+xs[j].size≤4611686018427387904→YK g i (decide (k=1)||decide (k=3)) (xs.drop j)=(XR g i' xs[j]&&YK g i (decide (k=1)||decide (k=3)) (xs.drop (j+1)))→
       (Za (W.call 71 [enc xs[j],V.int i',V.yld 1] [x s, .loop f key vals .ready none]) fun r6=>
        ZW r6.fst (fun v7=>Zp v7 fun b8=>bc (!b8) (some (Ex.ret,[V.bool false],r6.snd))
         (W.loop 71 4 [V.int (IntKind.i64.wrap ((j:Nat)+1)),V.yld 1,V.loc false (some 3) (V.agg [V.int k,V.int h,V.vec .plain (some 3) (Zs xs)]),V.int i,V.vec .plain (some 3) (Zs xs),V.int xs.length] r6.snd)) fun p9=>none)=
       some (if YK g i (decide (k=1)||decide (k=3)) (xs.drop j)=true then(Ex.exit 0,[],[x (iter nx (sizes (xs.drop j)) s), .loop f key vals .ready none])else(Ex.ret,[V.bool false],[b1,b2])):=by
      intro i' hi' hs' he
      rw[ih xs[j] (List.getElem_mem hjl) i' s hi' hs',Zb,he]
      cases XR g i' xs[j]with
      |false=>simp only[Bool.false_and];rfl
      |true=>
       simp only[if_true,XM,Zo,Bool.not_true,Zn,Bool.true_and]
       rw[Xa ⟨by omega,by omega⟩]
       have:=ihd (j+1) (iter nx xs[j].size s) (by omega)
       rw[show((j:Nat):Int)+1=((j+1:Nat):Int)from rfl,this]
       have:sizes (xs.drop j)=xs[j].size+sizes (xs.drop (j+1)):=by rw[List.drop_eq_getElem_cons hjl];rfl
       rw[this,zkz]
     rw[L,zcv]
     simp only[ZB,hlt,h0,Zk,Z0,Bool.and_self,Xg hjl,Qr,←Zz,hb,Zb,Zo,ZN,hne]
     by_cases hlast:j+1=xs.length
     ·have hd:xs.drop j=[xs[j]]:=by rw[List.drop_eq_getElem_cons hjl,hlast,List.drop_length]
      have hd':xs.drop (j+1)=[]:=by rw[hlast,List.drop_length]
      simp only[hlast,decide_true,Zk]
      have hw:IntKind.i64.wrap (i+1)=i+1:=Xa ⟨by omega,by omega⟩
      cases hbb:(decide (k=1)||decide (k=3))with
      |true=>
       simp only[Zk,hw]
       have:=step (i+1) (by omega) (by omega) (by rw[hd,hd',hbb];simp[YK])
       rw[hbb]at this
       exact this
      |false=>
       simp only[Zn]
       have:=step i hi (by omega) (by rw[hd,hd',hbb];simp[YK])
       rw[hbb]at this
       exact this
     ·have hd:YK g i (decide (k=1)||decide (k=3)) (xs.drop j)=(XR g i xs[j]&&YK g i (decide (k=1)||decide (k=3)) (xs.drop (j+1))):=by
       have h2:j+1<xs.length:=by omega
       rw[List.drop_eq_getElem_cons hjl,List.drop_eq_getElem_cons h2]
       simp only[YK]
      simp only[hlast,decide_false,Zn]
      have:=step i hi (by omega) hd
      cases hbb:(decide (k=1)||decide (k=3))with
      |true=>rw[hbb]at this;exact this
      |false=>rw[hbb]at this;exact this
   have h1:=hl xs.length 0 (nx s) (by omega)
   simp only[if_true,Zb,Bool.not_true,Zn,ZB]
   have h1':W.loop 71 4 [V.int 0,V.yld 1,V.loc false (some 3) (V.agg [V.int k,V.int h,V.vec .plain (some 3) (Zs xs)]),V.int i,V.vec .plain (some 3) (Zs xs),V.int xs.length] [x (nx s), .loop f key vals .ready none]=
     some (if YK g i (decide (k=1)||decide (k=3)) xs=true then(Ex.exit 0,[],[x (iter nx (sizes xs) (nx s)), .loop f key vals .ready none])else(Ex.ret,[V.bool false],[b1,b2])):=by
    rw[List.drop_zero]at h1;exact h1
   rw[h1',Zb]
   have hsz:iter nx (T.mk k h xs).size s=iter nx (sizes xs) (nx s):=by
    simp only[T.size]
    rw[zkz]
    rfl
   simp only[XR,hg,Bool.true_and,hsz]
   cases YK g i (decide (k=1)||decide (k=3)) xs<;>rfl
theorem zgt(hr: ∀(i:Int) (t:T) (s:σ),W.round 1 f key vals [.int i,enc t] [x s, .loop f key vals .ready none]=some (if g i t=true then(true,[x (nx s), .loop f key vals .ready none])else(false,[b1,b2])))
  (t:T) (s:σ) (hs:t.size≤1099511627776):W.call 70 [.yld 1, .cptr (some 3) (enc t)] [x s, .loop f key vals .ready none]=
   some (.ret (.tup []),if XR g 0 t=true then[x (iter nx t.size s), .loop f key vals .ready none]else[b1,b2]):=by
 have hw:=zmY hr t 0 s (by omega) (by omega)
 rw[C]
 rw[Zz]at hw⊢
 rw[zgp,hw,Zb]
 cases XR g 0 t<;>rfl
end
theorem zl2(t:T)(hs:t.size≤1099511627776):Ev 34 [enc t] (.int t.size):=by
 unfold Ev
 have hr: ∀(i:Int) (t:T) (s:Int),W.round 1 34 3 [.ref 0 0] [.int i,enc t] [.box [.int s], .loop 34 3 [.ref 0 0] .ready none]=
   some (if(fun _ _=>true:Int→T→Bool) i t=true then(true,[.box [.int (IntKind.i64.wrap (s+1))], .loop 34 3 [.ref 0 0] .ready none])else(false,[.dead, .dead])):=by
  intro i t s
  rw[Rd,Zz,zgo]
  rfl
 have hn:=zgt (x:=fun s:Int=> .box [.int s]) (nx:=fun s=>IntKind.i64.wrap (s+1)) (g:=fun _ _=>true) (b1:= .dead) (b2:= .dead) hr t 0 hs
 have hall: ∀(t:T) (i:Int),XR (fun _ _=>true) i t=true:=by
  intro t
  induction t using T.ind with
  |_ k h xs ih=>
   intro i
   simp only[XR,Bool.true_and]
   generalize(decide (k=1)||decide (k=3))=b
   have: ∀l:List T,(∀a∈l,∀i,XR (fun _ _=>true) i a=true)→YK (fun _ _=>true) i b l=true:=by
    intro l
    induction l with
    |nil=>intro _;rfl
    |cons a l ihl=>
     intro h
     cases l with
     |nil=>simp only[YK];exact h a (by simp) _
     |cons u l=>simp only[YK,h a (by simp),Bool.true_and];exact ihl fun a ha=>h a (by simp[ha])
   exact this xs ih
 have hit: ∀(n:Nat) (s:Int),0≤s→s+n≤4611686018427387904→iter (fun s=>IntKind.i64.wrap (s+1)) n s=s+n:=by
  intro n
  induction n with
  |zero=>intro s _ _;simp[iter]
  |succ n ih=>
   intro s h0 h1
   simp only[iter]
   rw[Xa ⟨by omega,by omega⟩,ih _ (by omega) (by omega)]
   omega
 rw[hall,if_pos rfl]at hn
 rw[hit t.size 0 (by omega) (by omega)]at hn
 rw[C]
 rw[Zz]at hn⊢
 rw[zkv,C,zeb,Zb,XM,zme]
 have hn':W.call 70 ([]++[V.yld (List.length [Res.box [V.int 0]])]++[V.cptr (some 3) (V.agg [V.int t.k,V.int t.h,V.vec .plain (some 3) (Zs t.args)])]) ([Res.box [V.int 0]]++[Res.loop 34 3 [V.ref 0 0] LSt.ready none])=_:=hn
 rw[hn',Zb]
 simp only[Int.zero_add]
 rfl
theorem zl3(k h:Int)(xs:List V):Ev 37 [.agg [.int k, .int h, .vec .plain (some 3) xs]] (.bool (zaS k h xs.length)):=by
 unfold Ev
 rw[C,zl0]
 simp only[znZ,zoa,zob]
 simp only[ZN,zaS]
 by_cases k0:k=0
 ·subst k0
  simp only[decide_true,Zk,if_true]
  cases decide (h=0)<;>rfl
 by_cases k1:k=1
 ·subst k1
  simp only[show(1:Int)≠0 by decide,decide_true,decide_false,Zk,Zn,if_true,if_false]
  cases decide (h=0)<;>rfl
 by_cases k3:k=3
 ·subst k3
  simp only[show(3:Int)≠0 by decide,show(3:Int)≠1 by decide,decide_true,decide_false,Zk,Zn,if_true,if_false]
  cases decide (h=0)<;>rfl
 simp only[k0,k1,k3,decide_false,Zn,if_false,ge_iff_le]
 cases decide (0≤k)<;>cases decide (k<7)<;>simp[bc]
theorem zmZ(i k h:Int)(xs:List T):Ev 36 [.int i, .agg [.int k, .int h, .vec .plain (some 3) (Zs xs)]] (.bool (zaS k h xs.length)):=by
 unfold Ev
 have:=(zl3 k h (Zs xs)).p (by simp[Ze,below])
 rw[ZB]at this
 rw[C,ziX,this]
 rfl
end Go.Proofs.SW
namespace Go.Proofs.SW
open Go Go.AM Go.Ama
def zp5(g:Nat)(a b:List V)(p:Int→T→Bool):Prop:=
 (cfg.pure g=true∧ ∀i t,Zi W g (a++[.int i,enc t]++b)=some (.bool (p i t)))∨
 (cfg.pure g=false∧ ∀i t st,W.call g (a++[.int i,enc t]++b) st=some (.ret (.bool (p i t)),st))
theorem zom{g:Nat}{a b:List V}{p:Int→T→Bool}(hg:zp5 g a b p)(t:T)(hs:t.size≤1099511627776):W.call 35 [enc t, .fn g a b] []=some (.ret (.bool (XR p 0 t)),[]):=by
 have hr: ∀(i:Int) (t:T) (s:Unit),W.round 1 35 4 [.ref 0 0, .cptr none (.fn g a b)] [.int i,enc t] [(fun _=> .box [.bool false]:Unit→Res) s, .loop 35 4 [.ref 0 0, .cptr none (.fn g a b)] .ready none]=
   some (if p i t=true then(true,[(fun _=> .box [.bool false]:Unit→Res) ((fun s=>s) s), .loop 35 4 [.ref 0 0, .cptr none (.fn g a b)] .ready none])else(false,[.box [.bool false], .loop 35 4 [.ref 0 0, .cptr none (.fn g a b)] .done (some .ret)])):=by
  intro i t s
  rw[Rd,Zz,zhd]
  rcases hg with⟨hp,hm⟩|⟨hp,hm⟩
  ·have hm:=hm i t
   rw[Zz]at hm
   rw[hp,Zk,hm,Zb,Zo]
   cases p i t<;>rfl
  ·have hm:=hm i t
   rw[Zz]at hm
   rw[hp,Zn,hm,Zb,XM,Zo]
   cases p i t<;>rfl
 have hn:=zgt (x:=fun _:Unit=> .box [.bool false]) (nx:=fun s=>s) (g:=p) hr t () hs
 rw[C]
 rw[Zz]at hn
 conv=>lhs;rw[Zz]
 rw[zlz,C,zeb,Zb,XM,zme]
 have hn':W.call 70 ([]++[V.yld (List.length [Res.box [V.bool false]])]++[V.cptr (some 3) (V.agg [V.int t.k,V.int t.h,V.vec .plain (some 3) (Zs t.args)])]) ([Res.box [V.bool false]]++[Res.loop 35 4 [V.ref 0 0,V.cptr none (V.fn g a b)] LSt.ready none])=_:=hn
 rw[hn',Zb]
 cases XR p 0 t<;>rfl
theorem zna(t:T)(hs:t.size≤1099511627776):Ev 16 [enc t] (.bool (may t)):=by
 unfold Ev
 have hg:zp5 36 [] [] (fun _ t=>zpc t):= .inl ⟨rfl,fun i t=>by
  rw[Zz];exact(zmZ i t.k t.h t.args).p (by simp[Ze,below])⟩
 have ha:=zom hg t hs
 rw[zoj]at ha
 rw[C,Zz,zly,←Zz,(zk1 t hs).p,(zl2 t hs).p,ha]
 simp only[Zb,YE,XM,Zo,may]
 have e1:decide ((t.depth:Int)≤60)=decide (t.depth≤60):=decide_eq_decide.2 (by omega)
 have e2:decide ((t.size:Int)≤4000)=decide (t.size≤4000):=decide_eq_decide.2 (by omega)
 rw[e1,e2]
 cases decide (t.depth≤60)<;>cases decide (t.size≤4000)<;>simp[bc]
end Go.Proofs.SW
namespace Go.Ama
open Go.AM (T)
structure D where
 name:Bytes
 t:T
structure PS where
 l:List Tok
 s:List D
 e:Int
abbrev T0:T:= .mk 0 0 []
abbrev typ:Bytes:=[116,121,112,101]
def PS.fail(n:Int)(s:PS):PS:=if s.e=0 then {s with e:=n}else s
def PS.is(c:Bytes)(s:PS):Bool:=decide (s.e=0)&&match s.l with|[]=>false|t::_=>decide (t.1=1)&&decide (t.2=c)
def PS.named(s:PS):Bool:=decide (s.e=0)&&match s.l with|[]=>false|t::_=>decide (t.1=0)
def PS.token(b:Bool)(s:PS):Bytes×PS:=if b then match s.l with|[]=>([],s)|t::r=>(t.2,{s with l:=r})else([],s.fail 8)
def PS.take(c:Bytes)(s:PS):PS:=(s.token (s.is c)).2
def PS.name(s:PS):Bytes×PS:=s.token s.named
def zq9(x:Bytes):List Bytes→Option Nat
 |[]=>none
 |y::l=>if y=x then some 0 else(zq9 x l).map (· +1)
def idx(x:Bytes):List D→Option Nat
 |[]=>none
 |d::l=>if d.name=x then some 0 else(idx x l).map (· +1)
def PS.head(x:Bytes)(bs:List Bytes)(s:PS):T×PS:=
 match zq9 x bs with
 |some i=>(.mk 4 i [],s)
 |none=>
  match idx x s.s with
  |none=>(T0,s.fail 2)
  |some i=>(.mk (if(split ((s.s.map (·.t)).getD i T0)).2.k=0 then 2 else 5) i [],s)
def PS.alone(s:PS):PS:=if s.named||s.is [40]then s.fail 8 else s
section
variable(term:List Bytes→PS→T×PS)
def PS.inner(bs:List Bytes)(s:PS):T×PS:=let r:=term bs (s.take [40]);(r.1,r.2.take [41])
def PS.atom(bs:List Bytes)(s:PS):T×PS:=
 if s.is [40]then s.inner term bs
 else
  let r:=s.name
  if r.1=typ then(T0,r.2.fail 8)else r.2.head r.1 bs
def PS.args(bs:List Bytes):Nat→PS→List T×PS
 |0,s=>([],s)
 |m+1,s=>if s.named||s.is [40]then
   let r:=s.atom term bs
   let q:=PS.args bs m r.2
   (r.1::q.1,q.2)
  else([],s)
def PS.atoms(bs:List Bytes)(s:PS):T×PS:=
 if s.is [40]then
  let r:=s.inner term bs
  (r.1,r.2.alone)
 else
  let r:=s.name
  if r.2.e≠0 then(T0,r.2)
  else if r.1=typ then(T0,r.2.alone)
  else
   let h:=r.2.head r.1 bs
   let q:=PS.args term bs h.2.l.length h.2
   (.mk h.1.k h.1.h q.1,q.2)
end
def PS.term:Nat→List Bytes→PS→T×PS
 |0,_,s=>(T0,s.fail 4)
 |n+1,bs,s=>
  if s.is [123]then
   let x:=(s.take [123]).name
   let a:=PS.term n bs (x.2.take [58])
   let b:=PS.term n (x.1::bs) (a.2.take [125])
   (.mk 1 0 [a.1,b.1],b.2)
  else if s.is [91]then
   let x:=(s.take [91]).name
   let b:=PS.term n (x.1::bs) (x.2.take [93])
   (.mk 3 0 [b.1],b.2)
  else s.atoms (PS.term n) bs
def PS.whole(s:PS):T×PS:=
 let r:=s.term 120 []
 (r.1,if may r.1 then r.2 else r.2.fail 4)
def nameOK(x:Bytes):Bool:=decide (x.length≠0)&&decide (x.length≤40)&&decide (x.head? ≠some 95)&&decide (x≠typ)&&decide (Xb x=some [(0,x)])
def zk3(b:Bytes):List Tok×Int:=if b.length>20000 then([],4)else match Xb b with|some l=>(l,0)|none=>([],8)
end Go.Ama
namespace Go.Ama
open Go Go.AM
def Yh(d:Int):Tok:=(0,95::Lib.decDigits d.toNat)
def YY(c:UInt8):Tok:=(1,[c])
def zgu(k:Int):Bool:=k==4||k==2||k==5
def Xt(sig:List D)(k h:Int)(d:Nat):Option Tok:=
 if k=4∧h<d then some (Yh (d-1-h))
 else if(k=2∨k=5)∧h<sig.length then(sig[h.toNat]?).map fun d=>(0,d.name)
 else none
def zb2(t:T):Bool:=decide (t.args.length=0)&&zgu t.k
section
variable(sig:List D)
mutual
def words:T→Nat→List Tok
 | .mk k h xs,d=>if k=0 then[(0,typ)]else if k=1 then wPi xs d else if k=3 then zl4 xs d else(Xt sig k h d).toList++QP xs d
def QP:List T→Nat→List Tok
 |[],_=> []
 |t::l,d=>(bif zb2 t then words t d else YY 40::words t d++[YY 41])++QP l d
def wPi:List T→Nat→List Tok
 |a::b::_,d=>YY 123::Yh d::YY 58::words a d++YY 125::words b (d+1)
 |_,_=> []
def zl4:List T→Nat→List Tok
 |a::_,d=>YY 91::Yh d::YY 93::words a (d+1)
 |_,_=> []
end
mutual
def okW:T→Nat→Bool
 | .mk k h xs,d=>if k=0 then true else if k=1 then znb xs d else if k=3 then zhR xs d else(Xt sig k h d).isSome&&Qt xs d
def Qt:List T→Nat→Bool
 |[],_=>true
 |t::l,d=>okW t d&&Qt l d
def znb:List T→Nat→Bool
 |a::b::_,d=>okW a d&&okW b (d+1)
 |_,_=>true
def zhR:List T→Nat→Bool
 |a::_,d=>okW a (d+1)
 |_,_=>true
end
end
def XI(t:T)(sig:List D):Bytes×Int:=
 if may t then(if okW sig t 0 then(text (words sig t 0),0)else([],2))else([],1)
def znc(x b:Bytes):Bytes:=x++[32,58,32]++b++[46,10]
def JB(x:Bytes)(l:List D):Nat:=(l.filter fun d=>decide (d.name=x)).length
def Yj(sig:List D):Bytes→List D→Bytes×Int
 |all,[]=>(all,0)
 |all,d::l=>
  if nameOK d.name&&decide (JB d.name sig≤1)then
   (if(XI d.t sig).2=0 then Yj sig (all++znc d.name (XI d.t sig).1) l else([],(XI d.t sig).2))
  else([],1)
def zcw(sig:List D):Bytes×Int:=Yj sig [] sig
end Go.Ama
namespace Go.Ama
open Go Go.AM
theorem Jg: ∀a b:List Tok,Yn (a++b)=Yn a+Yn b
 |[],b=>by simp[Yn]
 |(_,s)::a,b=>by simp only[List.cons_append,Yn,Jg a b];omega
theorem zgv{n:Nat}(h:n<100):(Lib.decDigits n).length≤2:=by
 rw[Lib.decDigits]
 split
 ·simp
 ·rw[Lib.decDigits,dif_pos (by omega)]
  simp
theorem zd0{n:Int}(h:n<100):(Yh n).2.length≤100:=by
 have:=zgv (n:=n.toNat) (by omega)
 simp only[Yh,List.length_cons]
 omega
theorem znd{sig:List D}(hs: ∀d∈sig,d.name.length≤100){k h:Int}{d:Nat}(hd:d≤99)(hh:0≤h):Yn (Xt sig k h d).toList≤100:=by
 unfold Xt
 split
 ·have:=zd0 (n:=d-1-h) (by omega)
  simp only[Option.toList_some,Yn]
  exact this
 ·split
  ·cases hx:sig[h.toNat]? with
   |none=>simp[Yn]
   |some x=>have:=hs x (List.mem_of_getElem? hx);simpa[Yn]using this
  ·simp[Yn]
theorem X4{sig:List D}(t:T): ∀d,(words sig t d).length+2≤9*t.size:=by
 induction t using T.ind with
 |_ k h xs ih=>
  intro d
  have hl: ∀l:List T,(∀a∈l,∀d,(words sig a d).length+2≤9*a.size)→ ∀d,(QP sig l d).length≤9*sizes l:=by
   intro l
   induction l with
   |nil=>intro _ d;simp[QP]
   |cons a l ihl=>
    intro hh d
    have h1:=hh a (List.mem_cons_self ..) d
    have h2:=ihl (fun b hb=>hh b (List.mem_cons_of_mem _ hb)) d
    simp only[QP,sizes,List.length_append]
    cases zb2 a<;>simp only[cond_true,cond_false,List.length_cons,List.length_append,List.length_nil]<;>omega
  unfold words
  simp only[T.size]
  split
  ·simp;omega
  ·split
   ·match xs,ih with
    |[],_=>simp[wPi];omega
    |[_],_=>simp[wPi];omega
    |a::b::r,ih=>
     have h1:=ih a (by simp) d
     have h2:=ih b (by simp) (d+1)
     simp only[wPi,sizes,List.length_cons,List.length_append]
     omega
   ·split
    ·match xs,ih with
     |[],_=>simp[zl4];omega
     |a::r,ih=>
      have h1:=ih a (by simp) (d+1)
      simp only[zl4,sizes,List.length_cons]
      omega
    ·have h1:=hl xs ih d
     have h2:(Xt sig k h d).toList.length≤1:=by cases Xt sig k h d<;>simp
     simp only[List.length_append]
     omega
theorem zb3{sig:List D}(hs: ∀d∈sig,d.name.length≤100)(t:T): ∀d,Yo t=true→d+t.depth≤100→Yn (words sig t d)+2≤110*t.size:=by
 induction t using T.ind with
 |_ k h xs ih=>
  intro d hn hd
  have hl: ∀l:List T,(∀a∈l,∀d,Yo a=true→d+a.depth≤100→Yn (words sig a d)+2≤110*a.size)→ ∀d,Y8 l=true→d+Z6 l≤100→Yn (QP sig l d)≤110*sizes l:=by
   intro l
   induction l with
   |nil=>intro _ d _ _;simp[QP,Yn]
   |cons a l ihl=>
    intro hh d hn hd
    simp only[Y8,Bool.and_eq_true]at hn
    simp only[Z6]at hd
    have h1:=hh a (List.mem_cons_self ..) d hn.1 (by omega)
    have h2:=ihl (fun b hb=>hh b (List.mem_cons_of_mem _ hb)) d hn.2 (by omega)
    simp only[QP,sizes,Jg]
    cases zb2 a<;>simp only[cond_true,cond_false,List.cons_append,YY,Yn,Jg,List.length_cons,List.length_nil]<;>omega
  unfold words
  simp only[Yo,Bool.and_eq_true]at hn
  simp only[T.depth]at hd
  simp only[T.size]
  split
  ·simp[Yn,typ];omega
  ·rename_i k0
   split
   ·match xs,ih,hn,hd with
    |[],_,_,_=>simp[wPi,Yn];omega
    |[_],_,_,_=>simp[wPi,Yn];omega
    |a::b::r,ih,hn,hd=>
     simp only[Y8,Bool.and_eq_true]at hn
     simp only[Z6]at hd
     have h1:=ih a (by simp) d hn.2.1 (by omega)
     have h2:=ih b (by simp) (d+1) hn.2.2.1 (by omega)
     have h3:=zd0 (n:=(d:Int)) (by omega)
     simp only[wPi,sizes,Yh,Yn,Jg,YY,List.length_cons,List.length_nil]at h3⊢
     omega
   ·rename_i k1
    split
    ·match xs,ih,hn,hd with
     |[],_,_,_=>simp[zl4,Yn];omega
     |a::r,ih,hn,hd=>
      simp only[Y8,Bool.and_eq_true]at hn
      simp only[Z6]at hd
      have h1:=ih a (by simp) (d+1) hn.2.1 (by omega)
      have h3:=zd0 (n:=(d:Int)) (by omega)
      simp only[zl4,sizes,Yh,Yn,Jg,YY,List.length_cons,List.length_nil]at h3⊢
      omega
    ·rename_i k3
     have h0:0≤h:=by
      have:=hn.1
      unfold zaS at this
      rw[if_neg k0,if_neg k1,if_neg k3]at this
      simp only[Bool.and_eq_true,decide_eq_true_eq]at this
      exact this.2.2
     have h1:=hl xs ih d hn.2 (by omega)
     have h2:=znd hs (k:=k) (h:=h) (d:=d) (by omega) h0
     rw[Jg]
     omega
theorem zl5{sig:List D}(t:T): ∀d:Nat,d≤1099511627776→low t=true→Yo t=true→okW sig t d=true→d+t.depth≤1099511627776→XR (ZK 0 0) d t=true:=by
 induction t using T.ind with
 |_ k h xs ih=>
  intro d hd hlo hn ho hdp
  simp only[low,Bool.and_eq_true,decide_eq_true_eq]at hlo
  simp only[Yo,Bool.and_eq_true]at hn
  simp only[T.depth]at hdp
  unfold okW at ho
  simp only[XR,Bool.and_eq_true]
  have hls:=low.lows
  by_cases h0:k=0
  ·subst h0
   have hx:xs=[]:=by
    have:=hn.1
    unfold zaS at this
    simp only[if_true,Bool.and_eq_true,decide_eq_true_eq]at this
    exact List.length_eq_zero_iff.1 this.2
   subst hx
   exact⟨by simp[ZK,T.k],rfl⟩
  ·rw[if_neg h0]at ho
   by_cases h1:k=1
   ·subst h1
    rw[if_pos rfl]at ho
    have hx:=hn.1
    unfold zaS at hx
    simp only[if_neg h0,if_true,Bool.and_eq_true,decide_eq_true_eq]at hx
    match xs,hx.2,ih,ho,hn,hlo,hdp with
    |[a,b],_,ih,ho,hn,hlo,hdp=>
     simp only[znb,Bool.and_eq_true]at ho
     simp only[Y8,Bool.and_eq_true]at hn
     simp only[low.lows,Bool.and_eq_true]at hlo
     simp only[Z6]at hdp
     refine⟨by simp[ZK,T.k], ?_⟩
     simp only[YK,decide_true,Bool.true_or,cond_true,Bool.and_eq_true]
     exact⟨ih a (by simp) d hd hlo.2.1 hn.2.1 ho.1 (by omega),by have:=ih b (by simp) (d+1) (by omega) hlo.2.2.1 hn.2.2.1 ho.2 (by omega);simpa using this⟩
   ·rw[if_neg h1]at ho
    by_cases h3:k=3
    ·subst h3
     rw[if_pos rfl]at ho
     have hx:=hn.1
     unfold zaS at hx
     simp only[if_neg h0,if_neg h1,if_true,Bool.and_eq_true,decide_eq_true_eq]at hx
     match xs,hx.2,ih,ho,hn,hlo,hdp with
     |[a],_,ih,ho,hn,hlo,hdp=>
      simp only[zhR]at ho
      simp only[Y8,Bool.and_eq_true]at hn
      simp only[low.lows,Bool.and_eq_true]at hlo
      simp only[Z6]at hdp
      refine⟨by simp[ZK,T.k], ?_⟩
      simp only[YK,decide_true,Bool.or_true,cond_true]
      have:=ih a (by simp) (d+1) (by omega) hlo.2.1 hn.2.1 ho (by omega)
      simpa using this
    ·rw[if_neg h3,Bool.and_eq_true]at ho
     refine⟨?_, ?_⟩
     ·have hh:0≤h:=by
       have:=hn.1
       unfold zaS at this
       rw[if_neg h0,if_neg h1,if_neg h3]at this
       simp only[Bool.and_eq_true,decide_eq_true_eq]at this
       exact this.2.2
      have:=ho.1
      unfold Xt at this
      by_cases h4:k=4
      ·subst h4
       by_cases hlt:h<d
       ·have hw:IntKind.i64.wrap (h-d)=h-d:=Yl (by omega) (by omega)
        unfold ZK
        simp only[T.k,T.h,hw]
        simp;omega
       ·simp[hlt]at this
      ·by_cases h6:k=6
       ·subst h6;simp at this
       ·simp[ZK,T.k,h4,h6]
     ·have hb:(decide (k=1)||decide (k=3))=false:=by simp[h1,h3]
      rw[hb]
      have hl: ∀l:List T,(∀a∈l,∀d:Nat,d≤1099511627776→low a=true→Yo a=true→okW sig a d=true→d+a.depth≤1099511627776→XR (ZK 0 0) d a=true)→low.lows l=true→Y8 l=true→Qt sig l d=true→d+Z6 l≤1099511627776→YK (ZK 0 0) d false l=true:=by
       intro l
       induction l with
       |nil=>intros;rfl
       |cons a l ihl=>
        intro hh h1 h2 h3 h4
        simp only[low.lows,Bool.and_eq_true]at h1
        simp only[Y8,Bool.and_eq_true]at h2
        simp only[Qt,Bool.and_eq_true]at h3
        simp only[Z6]at h4
        have ha:=hh a (List.mem_cons_self ..) d hd h1.1 h2.1 h3.1 (by omega)
        cases l with
        |nil=>simpa[YK]using ha
        |cons b l=>simp only[YK,ha,Bool.true_and];exact ihl (fun c hc=>hh c (List.mem_cons_of_mem _ hc)) h1.2 h2.2 h3.2 (by omega)
      exact hl xs ih hlo.2 hn.2 ho.2 (by omega)
end Go.Ama
namespace Go.Ama
open Go Go.AM
def zah(d:D):V:= .agg [.str (ba d.name), .int d.t.k, .int d.t.h, .vec .plain (some 3) (Zs d.t.args)]
def Zr(l:List D):List V:=l.map zah
def zpO(l:List Bytes):List V:=l.map fun b=> .str (ba b)
@[simp] theorem ZL(l:List D):(Zr l).length=l.length:=by simp[Zr]
@[simp] theorem zqm:Zr []=[]:=rfl
@[simp] theorem zp6(l:List Bytes):(zpO l).length=l.length:=by simp[zpO]
theorem XD{l:List D}{i:Nat}(h:i<l.length):Yf (Zr l) (i:Int)=zah l[i]:=by
 simp[Yf,Zr,List.getD_eq_getElem?_getD,List.getElem?_map,h]
theorem zgw(n:Nat)(d:D):below n (zah d)=true:=by simp[zah,below,Ze,Jb]
theorem YL(n:Nat): ∀l:List D,Ze n (Zr l)=true
 |[]=>rfl
 |d::l=>by
  have:=YL n l
  simp only[Zr]at this
  simp[Zr,Ze,zgw,this]
theorem zdg{R:Type}(d:D)(K:ByteArray→Int→Int→List V→Option R):Zl (R:=R) [CT.str,CT.int,CT.int,CT.slice (some 3)] (zah d) K=K (ba d.name) d.t.k d.t.h (Zs d.t.args):=rfl
def zpP(m:AM.Mode)(s:PS):Res:= .box [.vec .plain (some 2) (Zg s.l), .vec m (some 4) (Zr s.s), .int s.e]
end Go.Ama
namespace Go.Proofs.SW
open Go Go.AM Go.Ama
def YN(m:AM.Mode)(sig:List D)(l:List Tok)(e:Int):Res:= .box [.vec .plain (some 4) (Zr sig), .vec m (some 2) (Zg l), .int e]
def GF(m:AM.Mode):Prop:=m= .grow∨m= .full
theorem zpe{n:Int}(h0:0≤n)(h1:n<100):Ev 64 [.int n] (.str (ba (Lib.decDigits n.toNat))):=by
 unfold Ev
 rw[Cx 64 _ _ (x:=fun _ args st=>zmd args st) rfl]
 show gd (decide (0≤n)&&decide (n<100)) _=_
 rw[decide_eq_true h0,decide_eq_true h1]
 rfl
section
variable{sig:List D}{m:AM.Mode}(hm:GF m)
include hm
theorem zd1(l:List Tok)(e:Int)(s:Bytes)(hl:l.length≤1000000):W.call 41 [.ref 0 0, .str (ba s)] [YN m sig l e]=some (.ret (.tup []),[YN .grow sig (l++[(0,s)]) e]):=by
 have hr:roomFor Tryd.prog 58 ((Zg l).length+[V.agg [V.int 0,V.str (ba s)]].length)=true:=YX (by simp;omega)
 have hb:YN .grow sig (l++[(0,s)]) e= .box [.vec .plain (some 4) (Zr sig), .vec .grow (some 2) (Zg l++[V.agg [V.int 0,V.str (ba s)]]), .int e]:=by rw[YN,Y7];rfl
 rw[C,zdz,hb]
 generalize roomFor Tryd.prog 58=R at hr⊢
 rcases hm with rfl|rfl<;>
 ·refine Eq.trans (b:=gd (true&&R ((Zg l).length+[V.agg [V.int 0,V.str (ba s)]].length)) (some (.ret (.tup []),[.box [.vec .plain (some 4) (Zr sig), .vec .grow (some 2) (Zg l++[V.agg [V.int 0,V.str (ba s)]]), .int e]]))) rfl ?_
  rw[hr]
  rfl
theorem zcx(l:List Tok)(e:Int)(c:UInt8)(hl:l.length≤1000000):W.call 45 [.ref 0 0, .vec .plain none [.str (ba [c])]] [YN m sig l e]=some (.ret (.tup []),[YN .grow sig (l++[YY c]) e]):=by
 have hr:roomFor Tryd.prog 58 ((Zg l).length+[V.agg [V.int 1,V.str (ba [c])]].length)=true:=YX (by simp;omega)
 have hb:YN .grow sig (l++[YY c]) e= .box [.vec .plain (some 4) (Zr sig), .vec .grow (some 2) (Zg l++[V.agg [V.int 1,V.str (ba [c])]]), .int e]:=by rw[YN,Y7];rfl
 have h1:W.loop 45 1 [.int 1, .ref 0 0, .vec .plain none [.str (ba [c])], .int 1] [YN .grow sig (l++[YY c]) e]=some (.exit 0,[],[YN .grow sig (l++[YY c]) e]):=by
  rw[L,QO]
  rfl
 have h2:W.loop 45 1 [.int 0, .ref 0 0, .vec .plain none [.str (ba [c])], .int 1] [YN m sig l e]=some (.exit 0,[],[YN .grow sig (l++[YY c]) e]):=by
  rw[←h1,L,QO,hb]
  generalize roomFor Tryd.prog 58=R at hr⊢
  generalize W=O
  rcases hm with rfl|rfl<;>
  ·refine Eq.trans (b:=gd (true&&R ((Zg l).length+[V.agg [V.int 1,V.str (ba [c])]].length)) (O.loop 45 1 [.int (IntKind.i64.wrap (0+1)), .ref 0 0, .vec .plain none [.str (ba [c])], .int 1] [.box [.vec .plain (some 4) (Zr sig), .vec .grow (some 2) (Zg l++[V.agg [V.int 1,V.str (ba [c])]]), .int e]])) rfl ?_
   rw[hr]
   rfl
 rw[C,zcP]
 have h3:W.loop 45 1 [.int 0, .ref 0 0, .vec .plain none [.str (ba [c])], .int (([V.str (ba [c])].length:Nat):Int)] [YN m sig l e]=_:=h2
 rw[h3]
 rfl
theorem zcy(l:List Tok)(e:Int)(n:Int)(h0:0≤n)(h1:n<100)(hl:l.length≤1000000):W.call 44 [.ref 0 0, .int n] [YN m sig l e]=some (.ret (.tup []),[YN .grow sig (l++[Yh n]) e]):=by
 have hd:=zgv (n:=n.toNat) (by omega)
 have hg:decide (1+(ba (Lib.decDigits n.toNat)).size≤9223372036854775807)=true:=by rw[Y6];exact decide_eq_true (by omega)
 have hs:({data:= #[95]}:ByteArray)++ba (Lib.decDigits n.toNat)=ba (95::Lib.decDigits n.toNat):=zcJ [95] _
 rw[C,zcO,(zpe h0 h1).p,Zb,zcH,hg,Z0,hs,zd1 hm l e _ hl]
 rfl
theorem zcz(l:List Tok)(e:Int)(o c:UInt8){g:Nat}{caps:List V}(hp:cfg.pure g=false){m2:AM.Mode}{l2:List Tok}{e2:Int}(hm2:GF m2)
  (hc:W.call g caps [YN .grow sig (l++[YY o]) e]=some (.ret (.tup []),[YN m2 sig l2 e2])) (hl:l.length≤1000000) (hl2:l2.length≤1000000):
  W.call 42 [.ref 0 0, .str (ba [o]), .str (ba [c]), .fn g [] caps] [YN m sig l e]=some (.ret (.tup []),[YN .grow sig (l2++[YY c]) e2]):=by
 rw[C,zcp,zcx hm l e o hl]
 show bc (cfg.pure g) _ (Za (W.call g caps [YN .grow sig (l++[YY o]) e]) _)=_
 rw[hp,Zn,hc]
 show Za (W.call 45 [.ref 0 0, .vec .plain none [.str (ba [c])]] [YN m2 sig l2 e2]) _=_
 rw[zcx hm2 l2 e2 c hl2]
 rfl
theorem zl6(hs:sig.length≤1000)(l:List Tok)(e:Int)(k h:Int)(xs:List T)(d:Nat)(hh:0≤h)(hd:d≤100)(hl:l.length≤1000000):
  ∃m',GF m'∧W.call 47 [.ref 0 0, .agg [.int k, .int h, .vec .plain (some 3) (Zs xs)], .int d] [YN m sig l e]=some (.ret (.tup []),[YN m' sig (l++(Xt sig k h d).toList) (bif (Xt sig k h d).isSome then e else 2)]):=by
 have hfail:W.call 47 [.ref 0 0, .agg [.int k, .int h, .vec .plain (some 3) (Zs xs)], .int d] [YN m sig l e]=some (.ret (.tup []),[YN m sig l 2])→
  Xt sig k h d=none→ ∃m',GF m'∧W.call 47 [.ref 0 0, .agg [.int k, .int h, .vec .plain (some 3) (Zs xs)], .int d] [YN m sig l e]=some (.ret (.tup []),[YN m' sig (l++(Xt sig k h d).toList) (bif (Xt sig k h d).isSome then e else 2)]):=by
  intro h1 h2
  refine⟨m,hm, ?_⟩
  rw[h1,h2]
  simp
 have hname: ∀i:Nat,(hi:i<sig.length)→W.call 41 [.ref 0 0, .str (ba (sig[i]).name)] [YN m sig l e]=some (.ret (.tup []),[YN .grow sig (l++[(0,(sig[i]).name)]) e]):=fun i hi=>zd1 hm l e _ hl
 obtain⟨i,rfl⟩:=Int.eq_ofNat_of_zero_le hh
 by_cases h4:k=4
 ·subst h4
  by_cases hlt:(i:Int)<d
  ·have hT:Xt sig 4 i d=some (Yh (d-1-i)):=by unfold Xt;rw[if_pos ⟨rfl,hlt⟩]
   refine⟨.grow, .inl rfl, ?_⟩
   rw[hT,C,XC,ZN,decide_eq_true rfl,Zk,decide_eq_true hlt,Zk,Yl (n:=(d:Int)-1) (by omega) (by omega),Yl (n:=(d:Int)-1-i) (by omega) (by omega),zcy hm l e _ (by omega) (by omega) hl]
   rfl
  ·refine hfail ?_ (by unfold Xt;rw[if_neg (by omega),if_neg (by omega)])
   rw[C,XC,ZN,decide_eq_true rfl,Zk,decide_eq_false hlt]
   rfl
 ·by_cases h2:(k=2∨k=5)∧(i:Int)<sig.length
  ·have hi:i<sig.length:=by omega
   have hT:Xt sig k i d=some (0,(sig[i]).name):=by
    unfold Xt
    rw[if_neg (by omega),if_pos h2,Int.toNat_natCast,List.getElem?_eq_getElem hi]
    rfl
   refine⟨.grow, .inl rfl, ?_⟩
   have hi2:decide ((i:Int)<((Zr sig).length:Int))=true:=by rw[ZL];exact decide_eq_true h2.2
   have hi3:(decide ((0:Int)≤(i:Int))&&decide ((i:Int)<((Zr sig).length:Int)))=true:=by rw[hi2,decide_eq_true (by omega)];rfl
   have hx:Yf (Zr sig) (i:Int)=zah sig[i]:=XD hi
   have e1: ∀{α:Type} (K:List V→Option α),Yb [YN m sig l e] 0 (fun x=>Y0 x K)=K [.vec .plain (some 4) (Zr sig), .vec m (some 2) (Zg l), .int e]:=fun K=>rfl
   have e2: ∀{α:Type} (K:List V→Option α),ZV (some 4) (Z2 (AM.partOf [.vec .plain (some 4) (Zr sig), .vec m (some 2) (Zg l), .int e] 0 none)) K=K (Zr sig):=fun K=>rfl
   have e3: ∀{α:Type} (K:List V→Option α),Y1 (zah sig[i]) K=K [.str (ba (sig[i]).name), .int (sig[i]).t.k, .int (sig[i]).t.h, .vec .plain (some 3) (Zs (sig[i]).t.args)]:=fun K=>rfl
   have e4: ∀{α:Type} (K:ByteArray→Option α),YA (AM.partOf [.str (ba (sig[i]).name), .int (sig[i]).t.k, .int (sig[i]).t.h, .vec .plain (some 3) (Zs (sig[i]).t.args)] 0 none) K=K (ba (sig[i]).name):=fun K=>rfl
   rw[hT,C,XC,ZN,decide_eq_false h4,Zn]
   rcases h2.1 with rfl|rfl
   ·rw[ZN,decide_eq_true rfl,Zk]
    simp only[e1,e2,hi2,Zk,hi3,hx,e3,e4,hname i hi]
    rfl
   ·rw[ZN,decide_eq_false (by decide),Zn,ZN,decide_eq_true rfl,Zk]
    simp only[e1,e2,hi2,Zk,hi3,hx,e3,e4,hname i hi]
    rfl
  ·refine hfail ?_ (by unfold Xt;rw[if_neg (by omega),if_neg h2])
   have e1: ∀{α:Type} (K:List V→Option α),Yb [YN m sig l e] 0 (fun x=>Y0 x K)=K [.vec .plain (some 4) (Zr sig), .vec m (some 2) (Zg l), .int e]:=fun K=>rfl
   have e2: ∀{α:Type} (K:List V→Option α),ZV (some 4) (Z2 (AM.partOf [.vec .plain (some 4) (Zr sig), .vec m (some 2) (Zg l), .int e] 0 none)) K=K (Zr sig):=fun K=>rfl
   rw[C,XC,ZN,decide_eq_false h4,Zn]
   by_cases hk2:k=2
   ·subst hk2
    have hi2:decide ((i:Int)<((Zr sig).length:Int))=false:=by rw[ZL];exact decide_eq_false (by omega)
    rw[ZN,decide_eq_true rfl,Zk]
    simp only[e1,e2,hi2]
    rfl
   ·rw[ZN,decide_eq_false hk2,Zn]
    by_cases hk5:k=5
    ·subst hk5
     have hi2:decide ((i:Int)<((Zr sig).length:Int))=false:=by rw[ZL];exact decide_eq_false (by omega)
     rw[ZN,decide_eq_true rfl,Zk]
     simp only[e1,e2,hi2]
     rfl
    ·rw[ZN,decide_eq_false hk5,Zn]
     rfl
end
end Go.Proofs.SW
namespace Go.Proofs.SW
open Go Go.AM Go.Ama
theorem zk4(t:T):Ev 48 [enc t] (.bool (zb2 t)):=by
 obtain⟨k,h,xs⟩:=t
 unfold Ev
 rw[C]
 show Zd Tryd.prog cfg W 48 [.agg [.int k, .int h, .vec .plain (some 3) (Zs xs)]] []=_
 rw[zhc]
 have hx:(((Zs xs).length:Int)==0)=decide (xs.length=0):=by rw[ZN,ZB];simp
 rw[hx]
 unfold zb2
 show _=some (Out.ret (V.bool (decide (xs.length=0)&&(k==4||k==2||k==5))),[])
 cases decide (xs.length=0)<;>cases(k==4)<;>cases(k==2)<;>rfl
theorem YU{α:Type}(t:T)(K:Int→Int→List V→Option α):Zl [CT.int,CT.int,CT.slice (some 3)] (enc t) K=K t.k t.h (Zs t.args):=by cases t;rfl
theorem zmk{a b:Bool}{e:Int}:(bif b then(bif a then e else 2)else 2)=(bif (a&&b)then e else 2):=by cases a<;>cases b<;>rfl
theorem zaT: ∀{l:List T} {a:T},a∈l→a.depth≤Z6 l
 |b::l,a,h=>by
  simp only[Z6]
  rcases List.mem_cons.1 h with rfl|h
  ·omega
  ·have:=zaT h;omega
def Wr(sig:List D)(t:T):Prop:= ∀(d:Nat) (m:AM.Mode) (l:List Tok) (e:Int),GF m→Yo t=true→d+t.depth≤100→l.length+10*t.size≤1000000→
 ∃m',GF m'∧W.call 24 [.ref 0 0,enc t, .int d] [YN m sig l e]=some (.ret (.tup []),[YN m' sig (l++words sig t d) (bif okW sig t d then e else 2)])
theorem zl7{sig:List D}(xs:List T)(ih: ∀a∈xs,Wr sig a)(d:Nat)(hn:Y8 xs=true)(hd:d+Z6 xs≤100)(hx:xs.length≤1000000): ∀j k,k+j=xs.length→ ∀(c:Bool) (m:AM.Mode) (l:List Tok) (e:Int),GF m→l.length+10*sizes (xs.drop k)+1≤1000000→
  ∃m',GF m'∧W.loop 24 4 [.int (k:Nat),(bif c then .cptr none (.int d)else .loc false none (.int d)),(bif c then .cptr none (.ref 0 0)else .loc false none (.ref 0 0)), .vec .plain (some 3) (Zs xs), .int xs.length] [YN m sig l e]=
   some (.exit 1,[],[YN m' sig (l++QP sig (xs.drop k) d) (bif Qt sig (xs.drop k) d then e else 2)]):=by
 intro j
 induction j with
 |zero=>
  intro k hk c m l e hm hl
  have hkl:k=xs.length:=by omega
  subst hkl
  have hlt:decide (((xs.length:Nat):Int)<xs.length)=false:=by simp
  refine⟨m,hm, ?_⟩
  rw[List.drop_length]
  cases c
  ·simp only[cond_false]
   rw[L,Xv,hlt,Zn]
   simp[QP,Qt]
  ·simp only[cond_true]
   rw[L,XQ,hlt,Zn]
   simp[QP,Qt]
 |succ j ihj=>
  intro k hk c m l e hm hl
  have hkl:k<xs.length:=by omega
  have hlt:decide (((k:Nat):Int)<xs.length)=true:=by simp;omega
  have hlt2:(decide ((0:Int)≤(k:Nat))&&decide (((k:Nat):Int)<((Zs xs).length:Int)))=true:=by rw[ZB,hlt];simp
  have hdr:xs.drop k=xs[k]::xs.drop (k+1):=List.drop_eq_getElem_cons hkl
  have hmem:xs[k]∈xs:=List.getElem_mem hkl
  have hna:Yo xs[k]=true:=by rw[zag,List.all_eq_true]at hn;exact hn _ hmem
  have hda:d+(xs[k]).depth≤100:=by have:=zaT hmem;omega
  rw[hdr]at hl
  simp only[sizes]at hl
  have hw:IntKind.i64.wrap ((k:Nat)+1:Int)=((k+1:Nat):Int):=Yl (by omega) (by omega)
  have hp:=(zk4 xs[k]).p
  rw[Zz]at hp
  have hlen:=X4 (sig:=sig) xs[k] d
  rw[hdr]
  simp only[QP,Qt]
  cases hs:zb2 xs[k]
  ·
   obtain⟨m1,hm1,h1⟩:=ih _ hmem d .grow (l++[YY 40]) e (.inl rfl) hna hda (by simp;omega)
   have hc:W.call 49 [.cptr none (.ref 0 0), .cptr (some 3) (.agg [.int (xs[k]).k, .int (xs[k]).h, .vec .plain (some 3) (Zs (xs[k]).args)]), .cptr none (.int d)] [YN .grow sig (l++[YY 40]) e]=some (.ret (.tup []),[YN m1 sig (l++[YY 40]++words sig xs[k] d) (bif okW sig xs[k] d then e else 2)]):=by
    rw[Zz]at h1
    rw[C,zcs,h1]
    rfl
   have h2:=zcz hm l e 40 41 (g:=49) rfl hm1 hc (by omega) (by simp;omega)
   have h2':W.call 42 [V.ref 0 0,V.str {data:= #[40]},V.str {data:= #[41]},V.fn 49 [] [.cptr none (.ref 0 0), .cptr (some 3) (.agg [.int (xs[k]).k, .int (xs[k]).h, .vec .plain (some 3) (Zs (xs[k]).args)]), .cptr none (.int d)]] [YN m sig l e]=_:=h2
   obtain⟨m3,hm3,h3⟩:=ihj (k+1) (by omega) true .grow (l++[YY 40]++words sig xs[k] d++[YY 41]) (bif okW sig xs[k] d then e else 2) (.inl rfl) (by simp;omega)
   refine⟨m3,hm3, ?_⟩
   rw[zmk]at h3
   simp only[cond_true]at h3
   simp only[cond_false]
   have he:l++(YY 40::words sig xs[k] d++[YY 41]++QP sig (xs.drop (k+1)) d)=l++[YY 40]++words sig xs[k] d++[YY 41]++QP sig (xs.drop (k+1)) d:=by simp
   rw[he,←h3]
   cases c
   ·simp only[cond_false]
    rw[L,Xv,hlt,Zk,hlt2,Z0,Xg hkl,YU,hp,Zb,hs,Zo,Zn,h2',hw]
    rfl
   ·simp only[cond_true]
    rw[L,XQ,hlt,Zk,hlt2,Z0,Xg hkl,YU,hp,Zb,hs,Zo,Zn,h2',hw]
    rfl
  ·obtain⟨m1,hm1,h1⟩:=ih _ hmem d m l e hm hna hda (by omega)
   rw[Zz]at h1
   obtain⟨m3,hm3,h3⟩:=ihj (k+1) (by omega) c m1 (l++words sig xs[k] d) (bif okW sig xs[k] d then e else 2) hm1 (by simp;omega)
   refine⟨m3,hm3, ?_⟩
   rw[zmk]at h3
   simp only[cond_true]
   rw[←List.append_assoc,←h3]
   cases c
   ·simp only[cond_false]
    rw[L,Xv,hlt,Zk,hlt2,Z0,Xg hkl,YU,hp,Zb,hs,Zo,Zk,h1,hw]
    rfl
   ·simp only[cond_true]
    rw[L,XQ,hlt,Zk,hlt2,Z0,Xg hkl,YU,hp,Zb,hs,Zo,Zk,h1,hw]
    rfl
theorem zl8{sig:List D}(hsig:sig.length≤1000)(t:T):Wr sig t:=by
 induction t using T.ind with
 |_ k h xs ih=>
  intro d m l e hm hn hd hl
  simp only[Yo,Bool.and_eq_true]at hn
  simp only[T.depth]at hd
  simp only[T.size]at hl
  have hC:W.call 24 [.ref 0 0,enc (.mk k h xs), .int d] [YN m sig l e]=Zd Tryd.prog cfg W 24 [.ref 0 0, .agg [.int k, .int h, .vec .plain (some 3) (Zs xs)], .int d] [YN m sig l e]:=C ..
  rw[hC,zdy,ZN,ZN,ZN]
  have hm1:=hn.1
  unfold zaS at hm1
  unfold words okW
  by_cases h0:k=0
  ·have hT:W.call 41 [.ref 0 0, .str {data:= #[116,121,112,101]}] [YN m sig l e]=_:=zd1 hm l e typ (by omega)
   refine⟨.grow, .inl rfl, ?_⟩
   rw[decide_eq_true h0,Zk,hT,if_pos h0,if_pos h0]
   rfl
  ·rw[decide_eq_false h0,Zn]
   rw[if_neg h0]at hm1
   simp only[if_neg h0]
   have hw:IntKind.i64.wrap ((d:Int)+1)=((d+1:Nat):Int):=Yl (by omega) (by omega)
   by_cases h1:k=1
   ·rw[if_pos h1]at hm1
    simp only[Bool.and_eq_true,decide_eq_true_eq]at hm1
    rw[decide_eq_true h1,Zk]
    simp only[if_pos h1]
    match xs,hm1.2,ih,hn,hd,hl with
    |[a,b],_,ih,hn,hd,hl=>
     simp only[Y8,Bool.and_eq_true]at hn
     simp only[Z6]at hd
     simp only[sizes]at hl
     have la:=X4 (sig:=sig) a d
     have lb:=X4 (sig:=sig) b (d+1)
     obtain⟨m1,hm1,w1⟩:=ih a (by simp) d .grow (l++[YY 123]++[Yh d]++[YY 58]) e (.inl rfl) hn.2.1 (by omega) (by simp;omega)
     have hc:W.call 43 [.cptr none (.ref 0 0), .cptr none (.int d), .cptr (some 3) (.agg [.int k, .int h, .vec .plain (some 3) (Zs [a,b])])] [YN .grow sig (l++[YY 123]) e]=some (.ret (.tup []),[YN m1 sig (l++[YY 123]++[Yh d]++[YY 58]++words sig a d) (bif okW sig a d then e else 2)]):=by
      have hbd:=zcy (sig:=sig) (m:= .grow) (.inl rfl) (l++[YY 123]) e (d:Int) (by omega) (by omega) (by simp;omega)
      have hmk:=zcx (sig:=sig) (m:= .grow) (.inl rfl) (l++[YY 123]++[Yh d]) e 58 (by simp;omega)
      have hmk':W.call 45 [V.ref 0 0,V.vec .plain none [V.str {data:= #[58]}]] [YN .grow sig (l++[YY 123]++[Yh d]) e]=_:=hmk
      rw[Zz]at w1
      rw[C,zcq,hbd]
      show Za (W.call 45 [V.ref 0 0,V.vec .plain none [V.str {data:= #[58]}]] [YN .grow sig (l++[YY 123]++[Yh d]) e]) _=_
      rw[hmk']
      have hg:Yf (Zs [a,b]) 0=enc a:=rfl
      have hq:(true&&decide ((0:Int)<((Zs [a,b]).length:Int)))=true:=rfl
      simp only[Zb,XM,XL,YO,hq,Z0,hg,YU,w1]
      rfl
     have h2:=zcz hm l e 123 125 (g:=43) rfl hm1 hc (by omega) (by simp;omega)
     have h2':W.call 42 [V.ref 0 0,V.str {data:= #[123]},V.str {data:= #[125]},V.fn 43 [] [.cptr none (.ref 0 0), .cptr none (.int d), .cptr (some 3) (.agg [.int k, .int h, .vec .plain (some 3) (Zs [a,b])])]] [YN m sig l e]=_:=h2
     obtain⟨m3,hm3,w3⟩:=ih b (by simp) (d+1) .grow (l++[YY 123]++[Yh d]++[YY 58]++words sig a d++[YY 125]) (bif okW sig a d then e else 2) (.inl rfl) hn.2.2.1 (by omega) (by simp;omega)
     refine⟨m3,hm3, ?_⟩
     rw[zmk,Zz]at w3
     simp only[wPi,znb]
     have he:l++(YY 123::Yh ↑d::YY 58::words sig a d++YY 125::words sig b (d+1))=l++[YY 123]++[Yh d]++[YY 58]++words sig a d++[YY 125]++words sig b (d+1):=by simp
     rw[he,h2',hw]
     have hg:Yf (Zs [a,b]) 1=enc b:=rfl
     have hq:(true&&decide ((1:Int)<((Zs [a,b]).length:Int)))=true:=rfl
     simp only[Zb,XM,XL,YO,hq,Z0,hg,YU,w3]
     rfl
   ·rw[decide_eq_false h1,Zn]
    rw[if_neg h1]at hm1
    simp only[if_neg h1]
    by_cases h3:k=3
    ·rw[if_pos h3]at hm1
     simp only[Bool.and_eq_true,decide_eq_true_eq]at hm1
     rw[decide_eq_true h3,Zk]
     simp only[if_pos h3]
     match xs,hm1.2,ih,hn,hd,hl with
     |[b],_,ih,hn,hd,hl=>
      simp only[Y8,Bool.and_eq_true]at hn
      simp only[Z6]at hd
      simp only[sizes]at hl
      have lb:=X4 (sig:=sig) b (d+1)
      have hc:W.call 46 [.cptr none (.ref 0 0), .cptr none (.int d)] [YN .grow sig (l++[YY 91]) e]=some (.ret (.tup []),[YN .grow sig (l++[YY 91]++[Yh d]) e]):=by
       have hbd:=zcy (sig:=sig) (m:= .grow) (.inl rfl) (l++[YY 91]) e (d:Int) (by omega) (by omega) (by simp;omega)
       rw[C,zcr,hbd]
       rfl
      have h2:=zcz hm l e 91 93 (g:=46) rfl (.inl rfl) hc (by omega) (by simp;omega)
      have h2':W.call 42 [V.ref 0 0,V.str {data:= #[91]},V.str {data:= #[93]},V.fn 46 [] [.cptr none (.ref 0 0), .cptr none (.int d)]] [YN m sig l e]=_:=h2
      obtain⟨m3,hm3,w3⟩:=ih b (by simp) (d+1) .grow (l++[YY 91]++[Yh d]++[YY 93]) e (.inl rfl) hn.2.1 (by omega) (by simp;omega)
      refine⟨m3,hm3, ?_⟩
      rw[Zz]at w3
      simp only[zl4,zhR]
      have he:l++(YY 91::Yh ↑d::YY 93::words sig b (d+1))=l++[YY 91]++[Yh d]++[YY 93]++words sig b (d+1):=by simp
      rw[he,h2',hw]
      have hg:Yf (Zs [b]) 0=enc b:=rfl
      have hq:(true&&decide ((0:Int)<((Zs [b]).length:Int)))=true:=rfl
      simp only[Zb,XM,XL,YO,hq,Z0,hg,YU,w3]
      rfl
    ·rw[decide_eq_false h3,Zn]
     rw[if_neg h3]at hm1
     simp only[Bool.and_eq_true,decide_eq_true_eq]at hm1
     simp only[if_neg h3]
     obtain⟨m1,hm1',w1⟩:=zl6 hm hsig l e k h xs d hm1.2.2 (by omega) (by omega)
     have hlen:(Xt sig k h d).toList.length≤1:=by cases Xt sig k h d<;>simp
     have hxl:xs.length≤sizes xs:=ZF xs
     obtain⟨m3,hm3,w3⟩:=zl7 xs ih d hn.2 (by omega) (by omega) xs.length 0 (by omega) false m1 (l++(Xt sig k h d).toList) (bif (Xt sig k h d).isSome then e else 2) hm1' (by simp only[List.length_append,List.drop_zero];omega)
     refine⟨m3,hm3, ?_⟩
     rw[zmk,List.drop_zero]at w3
     simp only[cond_false]at w3
     rw[w1,←List.append_assoc]
     simp only[Zb,XM,XL,YO,ZB]
     have w3':W.loop 24 4 [.int 0, .loc false none (.int d), .loc false none (.ref 0 0), .vec .plain (some 3) (Zs xs), .int (xs.length:Nat)] [YN m1 sig (l++(Xt sig k h d).toList) (bif (Xt sig k h d).isSome then e else 2)]=some (.exit 1,[],[YN m3 sig (l++(Xt sig k h d).toList++QP sig xs d) (bif ((Xt sig k h d).isSome&&Qt sig xs d)then e else 2)]):=w3
     rw[w3']
     rfl
end Go.Proofs.SW
namespace Go.Proofs.SW
open Go Go.AM
set_option maxRecDepth 20000
theorem zja(O:Oracle)(s0:ByteArray):Zd Tryd.prog cfg O 15 [.str s0] []=
 bc ((↑s0.size:Int)==0) (some (Out.ret (V.bool false),[])) (bc (decide ((↑s0.size:Int)>40)) (some (Out.ret (V.bool false),[])) (gd (true&&decide (0<(↑s0.size:Int)))
 (bc ((↑(s0.data.toList.getD (Int.toNat 0) 0).toNat:Int)==95) (some (Out.ret (V.bool false),[])) (bc (s0.toList==(ByteArray.toList {data:= #[116,121,112,101]})) (some
 (Out.ret (V.bool false),[])) (Za (Zi O 32 [V.vec .plain none (ZI s0)]) fun r1=>Yv r1 fun c2=>Zf c2 fun v3 c4=>ZV (some 2) v3 fun l5=>Zf
 c4 fun v6 c7=>Zv v6 fun n8=>Zj c7 (bc (n8==0) (bc ((↑l5.length:Int)==1) (gd (true&&decide (0<(↑l5.length:Int))) (Zl [CT.int,CT.str] (Yf l5 0) fun n9
 s10=>some (Out.ret (V.bool (true&&n9==0&&s10.toList==s0.toList)),[]))) (some (Out.ret (V.bool false),[]))) (some (Out.ret (V.bool false),[])))))))):=by kernel_rfl
end Go.Proofs.SW
namespace Go.Proofs.SW
open Go Go.AM Go.Ama
theorem zne(t:Tok)(r:List Tok):Yf (Zg (t::r)) 0=Yz t:=rfl
section
variable(m:AM.Mode)(s:PS)
end
end Go.Proofs.SW
namespace Go.Proofs.SW
open Go Go.AM Go.Ama
end Go.Proofs.SW
namespace Go.Ama
open Go.AM (T)
structure Mono(s r:PS):Prop where
 suf:r.l<:+s.l
 sig:r.s=s.s
 err:s.e≠0→r=s
theorem Mono.len{s r:PS}(h:Mono s r):r.l.length≤s.l.length:=h.suf.length_le
theorem Mono.refl{s:PS}:Mono s s:=⟨List.suffix_refl _,rfl,fun _=>rfl⟩
theorem Mono.trans{s r q:PS}(h:Mono s r)(g:Mono r q):Mono s q:=
 ⟨g.suf.trans h.suf,g.sig.trans h.sig,fun he=>by
  have:=h.err he
  subst this
  exact g.err he⟩
theorem JK(n:Int)(s:PS):Mono s (s.fail n):=by
 unfold PS.fail
 split
 ·rename_i h;exact⟨List.suffix_refl _,rfl,fun he=>absurd h he⟩
 ·exact .refl
theorem zon{s:PS}{c:Bytes}(h:s.is c=true): ∃r,s.l=(1,c)::r∧s.e=0:=by
 unfold PS.is at h
 cases hl:s.l with
 |nil=>rw[hl]at h;simp at h
 |cons t r=>
  rw[hl]at h
  simp only[Bool.and_eq_true,decide_eq_true_eq]at h
  obtain⟨t1,t2⟩:=t
  simp only at h
  exact⟨r,by rw[h.2.1,h.2.2],h.1⟩
theorem zk5{s:PS}(h:s.named=true): ∃x r,s.l=(0,x)::r∧s.e=0:=by
 unfold PS.named at h
 cases hl:s.l with
 |nil=>rw[hl]at h;simp at h
 |cons t r=>
  rw[hl]at h
  simp only[Bool.and_eq_true,decide_eq_true_eq]at h
  obtain⟨t1,t2⟩:=t
  simp only at h
  exact⟨t2,r,by rw[h.2],h.1⟩
theorem zpQ(n:Int)(s:PS):(s.fail n).l=s.l:=by unfold PS.fail;split<;>rfl
theorem zml{n:Int}(hn:n≠0)(s:PS):(s.fail n).e≠0:=by unfold PS.fail;split<;>assumption
theorem zk6{s:PS}{c:Bytes}(h:s.is c=true): ∃r,s.l=(1,c)::r∧s.e=0∧s.take c=⟨r,s.s,0⟩:=by
 obtain⟨r,hl,he⟩:=zon h
 refine⟨r,hl,he, ?_⟩
 unfold PS.take PS.token
 rw[h,hl,←he]
 rfl
theorem zpf{s:PS}{c:Bytes}(h:s.is c=false):s.take c=s.fail 8:=by
 unfold PS.take PS.token
 rw[h]
 rfl
theorem zk7{s:PS}(h:s.named=true): ∃x r,s.l=(0,x)::r∧s.e=0∧s.name=(x,⟨r,s.s,0⟩):=by
 obtain⟨x,r,hl,he⟩:=zk5 h
 refine⟨x,r,hl,he, ?_⟩
 unfold PS.name PS.token
 rw[h,hl,←he]
 rfl
theorem zpg{s:PS}(h:s.named=false):s.name=([],s.fail 8):=by
 unfold PS.name PS.token
 rw[h]
 rfl
theorem YF(c:Bytes)(s:PS):Mono s (s.take c):=by
 cases h:s.is c with
 |true=>
  obtain⟨r,hl,he,ht⟩:=zk6 h
  rw[ht]
  exact⟨by rw[hl];exact List.suffix_cons _ _,rfl,fun h=>absurd he h⟩
 |false=>rw[zpf h];exact JK 8 s
theorem XN(s:PS):Mono s s.name.2:=by
 cases h:s.named with
 |true=>
  obtain⟨x,r,hl,he,ht⟩:=zk7 h
  rw[ht]
  exact⟨by rw[hl];exact List.suffix_cons _ _,rfl,fun h=>absurd he h⟩
 |false=>rw[zpg h];exact JK 8 s
theorem zaU(x:Bytes)(bs:List Bytes)(s:PS):Mono s (s.head x bs).2:=by
 unfold PS.head
 split
 ·exact .refl
 ·split
  ·exact JK 2 s
  ·exact .refl
theorem zd2(s:PS):Mono s s.alone:=by
 unfold PS.alone
 split
 ·exact JK 8 s
 ·exact .refl
section
variable{term:List Bytes→PS→T×PS}(ht: ∀bs s,Mono s (term bs s).2)
include ht
theorem zd3(bs:List Bytes)(s:PS):Mono s (s.inner term bs).2:=((YF [40] s).trans (ht bs _)).trans (YF [41] _)
theorem zhS(bs:List Bytes)(s:PS):Mono s (s.atom term bs).2:=by
 unfold PS.atom
 split
 ·exact zd3 ht bs s
 ·dsimp only
  split
  ·exact(XN s).trans (JK 8 _)
  ·exact(XN s).trans (zaU _ _ _)
theorem zcL(bs:List Bytes): ∀m s,Mono s (PS.args term bs m s).2
 |0,s=> .refl
 |m+1,s=>by
  unfold PS.args
  split
  ·exact(zhS ht bs s).trans (zcL bs m _)
  ·exact .refl
theorem zl9(bs:List Bytes)(s:PS):Mono s (s.atoms term bs).2:=by
 unfold PS.atoms
 split
 ·exact(zd3 ht bs s).trans (zd2 _)
 ·dsimp only
  split
  ·exact XN s
  ·split
   ·exact(XN s).trans (zd2 _)
   ·exact((XN s).trans (zaU _ _ _)).trans (zcL ht bs _ _)
theorem zmm{bs:List Bytes}{s:PS}(h:(s.named||s.is [40])=true):(s.atom term bs).2.l.length<s.l.length:=by
 unfold PS.atom
 cases hi:s.is [40]with
 |true=>
  obtain⟨r,hl,he,htk⟩:=zk6 hi
  rw[if_pos rfl]
  unfold PS.inner
  rw[htk]
  have h1:=(ht bs ⟨r,s.s,0⟩).len
  have h2:=(YF [41] (term bs ⟨r,s.s,0⟩).2).len
  rw[hl]
  simp only[List.length_cons]at*
  omega
 |false=>
  rw[hi,Bool.or_false]at h
  obtain⟨x,r,hl,he,hn⟩:=zk7 h
  rw[if_neg (by simp),hn]
  dsimp only
  rw[hl]
  split
  ·rw[zpQ];simp
  ·have:=(zaU x bs ⟨r,s.s,0⟩).len
   simp only[List.length_cons]at*
   omega
end
theorem JL: ∀n bs s,Mono s (PS.term n bs s).2
 |0,bs,s=>JK 4 s
 |n+1,bs,s=>by
  have ih:=JL n
  unfold PS.term
  split
  ·exact(((((YF _ s).trans (XN _)).trans (YF _ _)).trans (ih _ _)).trans (YF _ _)).trans (ih _ _)
  ·split
   ·exact(((YF _ s).trans (XN _)).trans (YF _ _)).trans (ih _ _)
   ·exact zl9 ih bs s
section
open Go.AM
variable{term:List Bytes→PS→T×PS}(ht: ∀bs s,Mono s (term bs s).2)(hz: ∀bs s,(term bs s).1.size+2*(term bs s).2.l.length≤2*s.l.length+1)
include hz
end
theorem zhT{s:PS}:(s.fail 8).e≠0:=zml (by decide) s
end Go.Ama
namespace Go.Proofs.SW
open Go Go.AM Go.Ama
def zpR(n:Nat):Prop:= ∀(m:AM.Mode) (s:PS) (bs:List Bytes),bs.length+n≤1000→s.l.length≤100000→s.s.length≤1000→
 W.call 63 [.ref 0 0, .vec .plain none (zpO bs.reverse), .int (121-(n:Nat))] [zpP m s]=some (.ret (enc (s.term n bs).1),[zpP m (s.term n bs).2])
section
variable{n:Nat}(hn:n≤119)(ht:zpR n)
include hn ht
end
end Go.Proofs.SW
namespace Go.Proofs.SW
open Go Go.AM Go.Ama
theorem zoo(x:Bytes)(k:Int)(y:Bytes):(k==0&&(ba y).toList==(ba x).toList)=decide ((k,y)=((0:Int),x)):=by
 rw[zhI,ZN]
 by_cases h1:k=0<;>by_cases h2:y=x<;>simp[h1,h2]
theorem zqA(x:Bytes)(h:0<x.length):(((ba x).data.toList.getD (Int.toNat 0) 0).toNat:Int)=(x[0].toNat:Int):=by
 rw[Int.toNat_zero,zpN h]
theorem znf(x:Bytes)(hx:x.length≤1048576):Ev 15 [.str (ba x)] (.bool (nameOK x)):=by
 unfold Ev nameOK
 rw[C,zja,Y6]
 by_cases h0:x.length=0
 ·have:((x.length:Int)==0)=true:=by simp[h0]
  rw[this,Zk];simp[h0]
 ·have h0':((x.length:Int)==0)=false:=by simp[h0]
  rw[h0',Zn]
  by_cases h40:x.length≤40
  ·have h40':decide ((x.length:Int)>40)=false:=by simp;omega
   have hp:decide ((0:Int)<(x.length:Int))=true:=by simp;omega
   rw[h40',Zn,hp,Bool.true_and,Z0,zqA x (by omega),ZN]
   have hh:x.head? =some x[0]:=by rw[List.head?_eq_getElem?,List.getElem?_eq_getElem (by omega)]
   by_cases h95:x[0]=95
   ·have:decide ((x[0].toNat:Int)=95)=true:=by rw[h95];rfl
    rw[this,Zk];simp[hh,h95]
   ·have:decide ((x[0].toNat:Int)=95)=false:=by
     simp only[decide_eq_false_iff_not]
     intro h
     apply h95
     apply UInt8.toNat_inj.1
     have:(95:UInt8).toNat=95:=rfl
     omega
    rw[this,Zn,show ByteArray.toList {data:= #[116,121,112,101]}=(ba typ).toList from rfl,zhI]
    by_cases ht:x=typ
    ·simp only[ht,decide_true,Zk];simp
    ·have hr:zb1 x=match Xb x with|some l=>(some l,0)|none=>(none,8):=by unfold zb1;rw[if_neg (by omega)]<;>cases Xb x<;>rfl
     have hne:decide (x.head? ≠some 95)=true:=by rw[hh];simp[h95]
     have hts:=zks x hx
     rw[hr]at hts
     simp only[ht,decide_false,Zn,Qp,h0,h40,hne,ne_eq,not_false_eq_true,decide_true,Bool.true_and,Bool.not_false]
     cases htk:Xb x with
     |none=>
      rw[htk]at hts
      rw[hts.p (by simp[Ze,below,ZU]) (by simp[za9,below,Ze,Ys])]
      simp[za9,bc]
     |some l=>
      rw[htk]at hts
      rw[hts.p (by simp[Ze,below,ZU]) (by simp[za9,below,Ze,Ys])]
      simp only[za9,Option.getD_some,Zb,XL,Xq,Y9,YE,YO,beq_self_eq_true,Zk,ZT]
      match l with
      |[]=>simp[bc]
      |[t]=>
       obtain⟨k,y⟩:=t
       rw[zne,Xc,zoo]
       simp[bc]
      |t::u::l=>
       have:(((t::u::l:List Tok).length:Int)==1)=false:=by simp;omega
       rw[this,Zn];simp
  ·have h40':decide ((x.length:Int)>40)=true:=by simp;omega
   rw[h40',Zk];simp[h40]
end Go.Proofs.SW
namespace Go.Proofs.SW
open Go Go.AM Go.Ama
theorem zc0{n:Nat}(h:n≤1000000000000):roomFor Tryd.prog 5 n=true:=by
 have:((Tryd.prog.info? 5).map (·.bytes)).getD 0=1:=by kernel_rfl
 unfold roomFor
 rw[this]
 simp only[Bool.and_eq_true,decide_eq_true_eq]
 omega
theorem zhU{sig:List D}(hs: ∀d∈sig,d.name.length≤100)(t:T):(XI t sig).1.length≤480000:=by
 unfold XI
 split
 ·rename_i hm
  unfold may at hm
  simp only[Bool.and_eq_true,decide_eq_true_eq]at hm
  split
  ·have h1:=X4 (sig:=sig) t 0
   have h2:=zb3 hs t 0 hm.1 (by omega)
   have h3:=zbE (words sig t 0) 1
   show(text (words sig t 0)).length≤_
   unfold text
   omega
  ·simp
 ·simp
theorem zdh{sig:List D}(hsig:sig.length≤1000)(hs: ∀d∈sig,d.name.length≤100)(t:T)(ht:t.size≤1099511627776):
  Ev 11 [enc t, .vec .plain (some 4) (Zr sig)] (.tup [.vec .plain none (ZM (XI t sig).1), .int (XI t sig).2]):=by
 unfold Ev
 have hmay:=(zna t ht).p
 rw[Zz]at hmay
 rw[C,Zz,zkt,hmay,Zb,Zo]
 unfold XI
 cases hm:may t with
 |false=>rfl
 |true=>
  have hm':=hm
  unfold may at hm'
  simp only[Bool.and_eq_true,decide_eq_true_eq]at hm'
  obtain⟨m',hG,hw⟩:=zl8 hsig t 0 .full [] 0 (.inr rfl) hm'.1 (by omega) (by simp;omega)
  rw[Zz]at hw
  have hw':W.call 24 [V.ref 0 0,V.agg [V.int t.k,V.int t.h,V.vec .plain (some 3) (Zs t.args)],V.int 0] [Res.box [V.vec .plain (some 4) (Zr sig),V.vec Mode.full (some 2) [],V.int 0]]=_:=hw
  simp only[Bool.not_true,Zn,if_true]
  rw[hw',Zb,List.nil_append]
  simp only[XM,XL,YO]
  have e1: ∀{α:Type} (ok:Int) (K:List V→Option α),Yb [YN m' sig (words sig t 0) ok] 0 (fun x=>Y0 x K)=K [.vec .plain (some 4) (Zr sig), .vec m' (some 2) (Zg (words sig t 0)), .int ok]:=fun ok K=>rfl
  simp only[e1]
  cases ho:okW sig t 0 with
  |false=>rfl
  |true=>
   have h1:=X4 (sig:=sig) t 0
   have h2:=zb3 hs t 0 hm'.1 (by omega)
   have htx:=(zmW (words sig t 0) (by omega)).p (by simp[Ze,below,Ys]) (by simp[below,ZU])
   have e2: ∀{α:Type} (K:List V→Option α),ZV (some 2) (Z2 (AM.partOf [.vec .plain (some 4) (Zr sig), .vec m' (some 2) (Zg (words sig t 0)), .int (bif true then(0:Int)else 2)] 1 none)) K=K (Zg (words sig t 0)):=by
    intro α K
    rcases hG with rfl|rfl<;>rfl
   simp only[e2,htx,Zb,Y9]
   have hb:below 0 (V.tup [V.vec .plain none (ZM (text (words sig t 0))),V.int 0])=true:=by simp[below,Ze,ZU]
   rw[hb]
   rfl
theorem zpS(a b:Bytes):(ba a==ba b)=decide (a=b):=by
 by_cases h:a=b
 ·subst h;rw[decide_eq_true rfl];show ByteArray.beq _ _=true;simp[ByteArray.beq]
 ·rw[decide_eq_false h]
  cases hb:ba a==ba b with
  |false=>rfl
  |true=>exact absurd (zpM.1 (ziw hb)) h
theorem zgx(a b:Bytes):zbL (.str (ba a)) (.str (ba b))=decide (a=b):=zpS a b
theorem zk8(a b:Bytes)(v d:V): ∀es:List (V×V),YZ (XW es (.str (ba a)) v) (.str (ba b)) d=if a=b then v else YZ es (.str (ba b)) d
 |[]=>by
  simp only[XW,YZ,zgx]
  by_cases h:a=b
  ·simp[h]
  ·have hb:b≠a:=fun e=>h e.symm
   simp[h,hb]
 |(k,u)::r=>by
  simp only[XW]
  cases hk:zbL (.str (ba a)) k with
  |true=>
   simp only[cond_true,YZ,zgx]
   by_cases h:a=b
   ·simp[h]
   ·have hb:b≠a:=fun e=>h e.symm
    cases k<;>try (cases hk;done)
    rename_i s
    have hs:ba a=s:=ziw hk
    subst hs
    simp[h,hb,zgx]
  |false=>
   simp only[cond_false,YZ,zk8 a b v d r]
   cases hk2:zbL (.str (ba b)) k with
   |true=>
    have h:a≠b:=by rintro rfl;rw[hk]at hk2;cases hk2
    simp[h]
   |false=>simp
def Cnt(es:List (V×V))(l:List D):Prop:= ∀x,YZ es (.str (ba x)) (.int 0)= .int (JB x l:Nat)
theorem zng(x:Bytes)(l:List D)(d:D):JB x (l++[d])=JB x l+(if d.name=x then 1 else 0):=by
 unfold JB
 rw[List.filter_append,List.length_append]
 by_cases h:d.name=x<;>simp[h]
theorem zmn(x:Bytes)(l:List D):JB x l≤l.length:=List.length_filter_le ..
theorem zab(l:List D)(hl:l.length≤1000): ∀j k es,k+j=l.length→Cnt es (l.take k)→
  ∃es',Cnt es' l∧W.loop 13 3 [.int (k:Nat), .mp 0, .vec .plain (some 4) (Zr l), .vec .plain (some 4) (Zr l), .int (l.length:Nat)] [.map .str .int es]=
   some (.exit 0,[.vec .plain (some 4) (Zr l), .mp 0],[.map .str .int es']):=by
 intro j
 induction j with
 |zero=>
  intro k es hk hc
  have hkl:k=l.length:=by omega
  subst hkl
  rw[List.take_length]at hc
  have hlt:decide (((l.length:Nat):Int)<l.length)=false:=by simp
  refine⟨es,hc, ?_⟩
  rw[L,zbG,hlt]
  rfl
 |succ j ih=>
  intro k es hk hc
  have hkl:k<l.length:=by omega
  have hlt:decide (((k:Nat):Int)<l.length)=true:=by simp;omega
  have hlt2:(decide ((0:Int)≤(k:Nat))&&decide (((k:Nat):Int)<((Zr l).length:Int)))=true:=by rw[ZL,hlt];simp
  have hw:IntKind.i64.wrap ((k:Nat)+1:Int)=((k+1:Nat):Int):=Yl (by omega) (by omega)
  have hmn:=zmn (l[k]).name (l.take k)
  rw[List.length_take]at hmn
  have hw2:IntKind.i64.wrap (((JB (l[k]).name (l.take k):Nat):Int)+1)=((JB (l[k]).name (l.take k)+1:Nat):Int):=Yl (by omega) (by omega)
  have hc':Cnt (XW es (.str (ba (l[k]).name)) (.int ((JB (l[k]).name (l.take k)+1:Nat):Int))) (l.take (k+1)):=by
   intro x
   rw[zk8,List.take_succ_eq_append_getElem hkl,zng,hc x]
   by_cases h:(l[k]).name=x
   ·subst h;simp
   ·simp[h]
  obtain⟨es',h1,h2⟩:=ih (k+1) _ (by omega) hc'
  refine⟨es',h1, ?_⟩
  rw[←h2,L,zbG,hlt,Zk,hlt2,Z0,XD hkl,zdg,hc,YE,hw,hw2]
theorem zk9(sig:List D)(hl:sig.length≤1000)(hs: ∀d∈sig,d.name.length≤100∧d.t.size≤1099511627776)(es:List (V×V))(hc:Cnt es sig): ∀j k (all:Bytes),k+j=sig.length→all.length≤k*500000→
  W.loop 13 9 [.int (k:Nat), .vec .grow none (ZM all), .vec .plain (some 4) (Zr sig), .mp 0, .vec .plain (some 4) (Zr sig), .int (sig.length:Nat)] [.map .str .int es]=
   some (if(Yj sig all (sig.drop k)).2=0 then(.exit 2,[.vec .grow none (ZM (Yj sig all (sig.drop k)).1)],[.map .str .int es])else(.ret,[.vec .plain none (ZM (Yj sig all (sig.drop k)).1), .int (Yj sig all (sig.drop k)).2],[.map .str .int es])):=by
 intro j
 induction j with
 |zero=>
  intro k all hk ha
  have hkl:k=sig.length:=by omega
  subst hkl
  have hlt:decide (((sig.length:Nat):Int)<sig.length)=false:=by simp
  rw[L,zbH,hlt,List.drop_length]
  rfl
 |succ j ih=>
  intro k all hk ha
  have hkl:k<sig.length:=by omega
  have hlt:decide (((k:Nat):Int)<sig.length)=true:=by simp;omega
  have hlt2:(decide ((0:Int)≤(k:Nat))&&decide (((k:Nat):Int)<((Zr sig).length:Int)))=true:=by rw[ZL,hlt];simp
  have hw:IntKind.i64.wrap ((k:Nat)+1:Int)=((k+1:Nat):Int):=Yl (by omega) (by omega)
  have hdr:sig.drop k=sig[k]::sig.drop (k+1):=List.drop_eq_getElem_cons hkl
  obtain⟨hs1,hs2⟩:=hs sig[k] (List.getElem_mem hkl)
  have hN:=(znf (sig[k]).name (by omega)).p
  have hT:=(zdh hl (fun d hd=>(hs d hd).1) (sig[k]).t hs2).p (by rw[Ze,YD];simp[Ze,below,YL]) (by simp[below,Ze,ZU])
  rw[Zz]at hT
  have hTl:=zhU (sig:=sig) (fun d hd=>(hs d hd).1) (sig[k]).t
  have hmn:=zmn (sig[k]).name sig
  rw[L,zbH,hlt,Zk,hlt2,Z0,XD hkl,zdg,hN,Zb,Zo,hdr]
  simp only[Yj]
  by_cases hn:nameOK (sig[k]).name=true
  case neg=>
   have hn:nameOK (sig[k]).name=false:=by simpa using hn
   simp only[hn,Bool.not_false,Zk,Bool.false_and,Bool.false_eq_true,if_false]
   rfl
  case pos=>
   simp only[hn,Bool.not_true,Zn,Bool.true_and]
   rw[hc,YE]
   by_cases hmany:JB (sig[k]).name sig≤1
   ·have hg:decide (((JB (sig[k]).name sig:Nat):Int)>1)=false:=decide_eq_false (by omega)
    rw[hg,Zn,hT]
    simp only[hmany,decide_true,if_true,Zb,XL,Xq,Y9,YE,YO]
    by_cases h0:(XI (sig[k]).t sig).2=0
    ·have hbs:(({data:= #[32,58,32]}:ByteArray))=ba [32,58,32]:=rfl
     have hbt:(({data:= #[46,10]}:ByteArray))=ba [46,10]:=rfl
     have hne:((XI (sig[k]).t sig).2 !=0)=false:=by rw[h0];rfl
     simp only[hne,Zn,zeD,Z0,hbs,hbt,zaP,zcJ,Y6,Qp,ZC,List.length_append,List.length_cons,List.length_nil]
     rw[zc0 (by omega)]
     have g1:decide ((sig[k]).name.length+3≤9223372036854775807)=true:=decide_eq_true (by omega)
     have g2:decide ((sig[k]).name.length+(0+1+1+1)+(XI (sig[k]).t sig).1.length≤9223372036854775807)=true:=decide_eq_true (by omega)
     have g3:decide ((sig[k]).name.length+(0+1+1+1)+(XI (sig[k]).t sig).1.length+2≤9223372036854775807)=true:=decide_eq_true (by omega)
     simp only[g1,g2,g3,Z0,Bool.and_self]
     rw[if_pos h0]
     have he:ZM all++ZM ((sig[k]).name++[32,58,32]++(XI (sig[k]).t sig).1++[46,10])=ZM (all++znc (sig[k]).name (XI (sig[k]).t sig).1):=by rw[←Qh];rfl
     rw[he,hw]
     exact ih (k+1) _ (by omega) (by simp only[znc,List.length_append,List.length_cons,List.length_nil];omega)
    ·have hne:((XI (sig[k]).t sig).2 !=0)=true:=by simpa using h0
     rw[hne,Zk]
     simp only[h0,if_false]
     rfl
   ·have hg:decide (((JB (sig[k]).name sig:Nat):Int)>1)=true:=decide_eq_true (by omega)
    rw[hg,Zk]
    simp only[hmany,decide_false]
    rfl
theorem zgy(sig:List D)(hl:sig.length≤1000)(hs: ∀d∈sig,d.name.length≤100∧d.t.size≤1099511627776):
  Ev 13 [.vec .plain (some 4) (Zr sig)] (.tup [.vec .plain none (ZM (zcw sig).1), .int (zcw sig).2]):=by
 unfold Ev
 obtain⟨es,hc,h1⟩:=zab sig hl sig.length 0 [] (by omega) (by intro x;simp[YZ,JB])
 have h2:=zk9 sig hl hs es hc sig.length 0 [] (by omega) (by simp)
 have h1':W.loop 13 3 [V.int 0,V.mp 0,V.vec .plain (some 4) (Zr sig),V.vec .plain (some 4) (Zr sig),V.int ((Zr sig).length:Nat)] [Res.map CT.str CT.int []]=some (.exit 0,[.vec .plain (some 4) (Zr sig), .mp 0],[.map .str .int es]):=by rw[ZL];exact h1
 have h2':W.loop 13 9 [V.int 0,V.vec Mode.grow none [],V.vec .plain (some 4) (Zr sig),V.mp 0,V.vec .plain (some 4) (Zr sig),V.int ((Zr sig).length:Nat)] [.map .str .int es]=some (if(Yj sig [] sig).2=0 then(.exit 2,[.vec .grow none (ZM (Yj sig [] sig).1)],[.map .str .int es])else(.ret,[.vec .plain none (ZM (Yj sig [] sig).1), .int (Yj sig [] sig).2],[.map .str .int es])):=by rw[ZL];exact h2
 rw[C,ziV,h1',Zb]
 show Za (W.loop 13 9 [V.int 0,V.vec Mode.grow none [],V.vec .plain (some 4) (Zr sig),V.mp 0,V.vec .plain (some 4) (Zr sig),V.int ((Zr sig).length:Nat)] [.map .str .int es]) _=_
 rw[h2',Zb]
 unfold zcw
 by_cases h0:(Yj sig [] sig).2=0
 ·rw[if_pos h0,h0]
  have hb:below 0 (V.tup [V.vec .plain none (ZM (Yj sig [] sig).1),V.int 0])=true:=by simp[below,Ze,ZU]
  show gd (below 0 (V.tup [V.vec .plain none (ZM (Yj sig [] sig).1),V.int 0])&&Z4 0 []) _=_
  rw[hb]
  rfl
 ·rw[if_neg h0]
  have hb:below 0 (V.tup [V.vec .plain none (ZM (Yj sig [] sig).1),V.int (Yj sig [] sig).2])=true:=by simp[below,Ze,ZU]
  show gd (below 0 (V.tup [V.vec .plain none (ZM (Yj sig [] sig).1),V.int (Yj sig [] sig).2])&&Z4 0 []) _=_
  rw[hb]
  rfl
end Go.Proofs.SW
namespace Go.Proofs.SW
open Go Go.AM Go.Ama
set_option maxRecDepth 100000
theorem zph:Ev 7 [] (.bool true):=Ev.of_check (m:=300) (by decide+kernel)
end Go.Proofs.SW
namespace Go.Proofs.SW
open Go Go.AM
set_option maxRecDepth 20000
end Go.Proofs.SW
namespace Go.Ama
open Go Go.AM
def upV(b f ar h:Int):Int:=if f+ar≤h then IntKind.i64.wrap (h+b)else h
def bindsB(k:Int):Bool:=decide (k=1)||decide (k=3)
mutual
def upT(b f ar:Int):T→T
 | .mk k h as_=> .mk k (if k=4 then upV b f ar h else h) (ups b f ar (bindsB k) as_)
def ups(b f ar:Int)(bd:Bool):List T→List T
 |[]=> []
 |a::as_=>upT b f (if bd&&as_.isEmpty then ar+1 else ar) a::ups b f ar bd as_
end
theorem zgz(b f ar:Int)(bd:Bool): ∀l,(ups b f ar bd l).length=l.length
 |[]=>rfl
 |a::as_=>by simp only[ups,List.length_cons,zgz b f ar bd as_]
mutual
theorem zmo(b f:Int): ∀(t:T) (ar:Int),(upT b f ar t).size=t.size
 | .mk k h as_,ar=>by simp only[upT,T.size];rw[zhV b f as_ ar]
theorem zhV(b f:Int): ∀(l:List T) (ar:Int) {bd:Bool},sizes (ups b f ar bd l)=sizes l
 |[],ar,bd=>rfl
 |a::as_,ar,bd=>by simp only[ups,sizes];rw[zmo b f a,zhV b f as_]
end
theorem zaT: ∀{ts:List T} {t:T},t∈ts→t.depth≤Z6 ts
 |a::as_,t,h=>by
  simp only[Z6]
  rcases List.mem_cons.1 h with rfl|h
  ·omega
  ·have:=zaT h;omega
def upP(t:T)(b f:Int):T:=if may t&&(decide (0≤b)&&(decide (b≤1048576)&&(decide (0≤f)&&decide (f≤1048576))))then upT b f 0 t else t
theorem zop(t:T)(b f:Int):(upP t b f).size=t.size:=by
 unfold upP;split
 ·exact zmo b f t 0
 ·rfl
def zlA(l:List T):List T:=l.map (fun t=>upP t 1 0)++[.mk 4 0 []]
def zlB(s:Int):Int:=IntKind.i64.wrap (s+1)
def ofT(l:List T)(s i:Int):T:=if i<l.length then l.getD (l.length-1-i.toNat) (.mk 0 0 [])else .mk 4 (IntKind.i64.wrap (IntKind.i64.wrap (i-l.length)+s)) []
inductive Job where
 |ap (n:Nat) (t:T) (l:List T) (s:Int)
 |ar (n:Nat) (bd:Bool) (ts:List T) (l:List T) (s:Int)
 |sp (n:Nat) (t:T) (as_:List T)
inductive Oj where
 |t (t:T) (n:Nat)
 |l (ts:List T) (n:Nat)
 |e (e:Int)
def belowL'(bd:Bool)(as_:List T)(l:List T):List T:=if bd&&as_.isEmpty then zlA l else l
def belowS'(bd:Bool)(as_:List T)(s:Int):Int:=if bd&&as_.isEmpty then zlB s else s
inductive Big:Job→Oj→Prop where
 |apLimit {n:Nat} {t:T} {l:List T} {s:Int} (h:40000<n+1) (hn:n≤40001):Big (.ap n t l s) (.e 4)
 |apErr {n:Nat} {t:T} {l:List T} {s:Int} {e:Int} (h:n+1≤40000) (ht:t.size≤1099511627776) (b:Big (.ar (n+1) (bindsB t.k) t.args l s) (.e e)):Big (.ap n t l s) (.e e)
 |apNode {n:Nat} {t:T} {l:List T} {s:Int} {as_:List T} {m:Nat} (h:n+1≤40000) (ht:t.size≤1099511627776) (hk:t.k≠4) (b:Big (.ar (n+1) (bindsB t.k) t.args l s) (.l as_ m)):Big (.ap n t l s) (.t (.mk t.k t.h as_) m)
 |apVar {n:Nat} {t:T} {l:List T} {s:Int} {as_:List T} {m:Nat} {o:Oj} (h:n+1≤40000) (ht:t.size≤1099511627776) (hl:sizes l≤1099511627776) (hk:t.k=4) (h0:0≤t.h) (h1:I64 t.h) (b:Big (.ar (n+1) (bindsB t.k) t.args l s) (.l as_ m)) (c:Big (.sp m (ofT l s t.h) as_) o):Big (.ap n t l s) o
 |arNil {n:Nat} {bd:Bool} {l:List T} {s:Int}:Big (.ar n bd [] l s) (.l [] n)
 |arErr {n:Nat} {bd:Bool} {a:T} {as_ l:List T} {s:Int} {e:Int} (hl:sizes l≤1099511627776) (b:Big (.ap n a (belowL' bd as_ l) (belowS' bd as_ s)) (.e e)):Big (.ar n bd (a::as_) l s) (.e e)
 |arErr2 {n m:Nat} {bd:Bool} {a a':T} {as_ l:List T} {s:Int} {e:Int} (hl:sizes l≤1099511627776) (b:Big (.ap n a (belowL' bd as_ l) (belowS' bd as_ s)) (.t a' m)) (c:Big (.ar m bd as_ l s) (.e e)):Big (.ar n bd (a::as_) l s) (.e e)
 |arCons {n m k:Nat} {bd:Bool} {a a':T} {as_ as' l:List T} {s:Int} (hl:sizes l≤1099511627776) (b:Big (.ap n a (belowL' bd as_ l) (belowS' bd as_ s)) (.t a' m)) (c:Big (.ar m bd as_ l s) (.l as' k)):Big (.ar n bd (a::as_) l s) (.l (a'::as') k)
 |spNil {n:Nat} {t:T}:Big (.sp n t []) (.t t n)
 |spMay {n:Nat} {t a:T} {as_:List T} (hk:t.k=3) (ha:a.size≤1099511627776) (hm:may a=false):Big (.sp n t (a::as_)) (.e 4)
 |spErr {n:Nat} {t a b0:T} {r as_:List T} {e:Int} (hk:t.k=3) (ha:a.size≤1099511627776) (hm:may a=true) (hb:t.args=b0::r) (b:Big (.ap n b0 [a] 0) (.e e)):Big (.sp n t (a::as_)) (.e e)
 |spLam {n m:Nat} {t a b0 u:T} {r as_:List T} {o:Oj} (hk:t.k=3) (ha:a.size≤1099511627776) (hm:may a=true) (hb:t.args=b0::r) (b:Big (.ap n b0 [a] 0) (.t u m)) (c:Big (.sp m u as_) o):Big (.sp n t (a::as_)) o
 |spApp {n:Nat} {t a:T} {as_:List T} (hk:t.k=2∨t.k=4∨t.k=5) (hs:t.args.length+as_.length≤1099511627776):Big (.sp n t (a::as_)) (.t (.mk t.k t.h (t.args++a::as_)) n)
 |spType {n:Nat} {t a:T} {as_:List T} (h3:t.k≠3) (h2:t.k≠2) (h4:t.k≠4) (h5:t.k≠5):Big (.sp n t (a::as_)) (.e 3)
end Go.Ama
