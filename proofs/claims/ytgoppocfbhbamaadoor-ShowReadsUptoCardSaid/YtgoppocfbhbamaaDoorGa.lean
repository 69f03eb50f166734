import Derived.Test.YtgoppocfbhbamaaDoorAMa
import Derived.Test.YtgoppocfbhbamaaDoorProg
import Derived.Test.YtgoppocfbhbamaaDoorChecked
import Derived.Test.YtgoppocfbhbamaaDoorAMd
import Derived.Shelf.Strconv.Itoa3
import Derived.CallsIn
import Derived.KernelRfl
import Derived.Lib.Bytealg
import Derived.Lib.ItoaNum
/- The program's functions, each an equation of the abstract machine checked by the kernel, and what they come to as_ plain Lean. -/
set_option linter.unusedVariables false
set_option linter.unusedSimpArgs false
set_option linter.unusedSectionVars false
namespace Go.Proofs.SW
open Go Go.AM
def zq4:Nat→Option FnHints
 |2=>some ⟨true,[],[],[],[],[]⟩
 |3=>some ⟨true,[],[],[],[],[(4, .ty 4)]⟩
 |4=>some ⟨true,[],[(8,1),(8,4),(8,5)],[],[],[(6, .ty 4)]⟩
 |5=>some ⟨true,[],[],[(10,[(12, .ty 30),(1, .any),(13, .ty 3),(10, .ty 30),(2, .loc 24)]),(13,[(14, .ty 3),(12, .ty 30),(1, .any),(13, .ty 3),(10, .ty 30),(2, .loc 24)])],[(10,[(10, .ty 30),(2, .loc 24)]),(13,[(12, .ty 30),(1, .ty 25),(10, .ty 30),(2, .loc 24),(13, .ty 3)])],[(4, .ty 4)]⟩
 |6=>some ⟨true,[],[],[],[],[(2, .ty 4)]⟩
 |7=>some ⟨true,[],[],[],[],[(0, .ty 4)]⟩
 |8=>some ⟨true,[],[],[(4,[(3, .ty 3),(0, .any)])],[(4,[])],[(2, .ty 4)]⟩
 |9=>some ⟨true,[],[],[],[],[(6, .ty 4)]⟩
 |10=>some ⟨true,[],[],[(2,[(3, .ty 3),(0, .any)])],[(2,[])],[(2, .ty 4)]⟩
 |11=>some ⟨true,[12],[(3,1),(0,1),(2,0),(6,4)],[],[],[(4, .ty 29),(5, .ty 30)]⟩
 |12=>some ⟨true,[],[(0,1),(3,0),(7,0)],[],[],[(4, .ty 29),(5, .ty 30)]⟩
 |13=>some ⟨true,[],[(16,8),(16,0),(16,9),(0,0),(12,0),(15,1)],[(3,[(15, .ty 3),(4, .mp),(13, .any),(0, .any),(14, .ty 3)]),(9,[(27, .ty 3),(7, .grow none),(0, .any),(4, .mp),(25, .any),(26, .ty 3)])],[(3,[(0, .ty 25),(4, .mp)]),(9,[(7, .grow none)])],[(2, .ty 29),(3, .ty 30)]⟩
 |14=>some ⟨true,[],[(16,6),(16,0),(16,7),(17,1),(17,0),(17,2),(18,2),(18,0),(18,3),(19,1),(19,0),(19,2),(0,0),(12,0),(15,1)],[(3,[(5, .ty 3),(0, .any),(4, .grow none)]),(7,[(7, .ty 3),(5, .ty 3),(0, .any),(4, .grow none),(6, .ty 4)])],[(3,[(4, .grow none)]),(7,[(0, .ty 25),(5, .ty 3),(4, .grow none),(6, .ty 4)])],[(2, .ty 29),(3, .ty 30)]⟩
 |15=>some ⟨true,[],[],[],[],[(2, .ty 4)]⟩
 |16=>some ⟨true,[],[],[],[],[(2, .ty 4)]⟩
 |17=>some ⟨true,[],[],[],[],[(6, .ty 4)]⟩
 |18=>some ⟨true,[19],[],[],[],[(4, .locA (some 3)),(5, .ty 30)]⟩
 |19=>some ⟨true,[],[(0,0)],[],[],[(0, .ty 25)]⟩
 |20=>some ⟨true,[],[],[(4,[(31, .ty 3),(3, .loc 24),(29, .any),(30, .ty 3)])],[(4,[])],[(4, .ty 4)]⟩
 |21=>some ⟨true,[],[],[(4,[(3, .ty 3),(1, .loc 24)])],[(4,[])],[(2, .ty 4)]⟩
 |22=>some ⟨true,[],[],[(3,[(4, .ty 3),(1, .loc 24),(3, .ty 3)])],[(3,[(3, .ty 3)])],[(2, .ty 3)]⟩
 |23=>some ⟨true,[],[],[(3,[(4, .ty 3),(3, .ty 3),(1, .loc 24)])],[(3,[(3, .ty 3)])],[(2, .ty 3)]⟩
 |24=>some ⟨false,[],[],[(4,[(17, .ty 3),(5, .any),(3, .any),(15, .any),(16, .ty 3)])],[(4,[])],[]⟩
 |25=>some ⟨true,[],[(7,2),(7,0),(7,3),(8,3),(8,0),(8,6),(0,0)],[(4,[(9, .ty 3),(3, .grow none),(4, .ty 3),(7, .any),(8, .ty 3)])],[(4,[(3, .grow none)])],[(2, .ty 29)]⟩
 |26=>some ⟨true,[],[],[],[],[(2, .ty 4)]⟩
 |27=>some ⟨true,[],[],[(4,[(7, .ty 3),(2, .ty 3),(3, .loc 24),(1, .ty 3)])],[(4,[])],[(6, .ty 4)]⟩
 |28=>some ⟨true,[],[],[(4,[(5, .ty 3),(1, .ty 3),(2, .loc 24)])],[(4,[])],[(4, .ty 4)]⟩
 |29=>some ⟨true,[],[(6,2),(6,0),(6,3),(7,6),(7,0),(7,7),(0,0)],[(3,[(4, .ty 3),(0, .any),(3, .grow none)])],[(3,[(3, .grow none)])],[(2, .ty 29)]⟩
 |30=>some ⟨true,[],[(6,8),(6,0),(6,9),(7,3),(7,0),(7,4),(8,9),(8,0),(8,10),(12,9),(12,0),(12,10),(16,8),(16,0),(16,9),(17,9),(17,0),(17,10),(24,5),(24,0),(24,6),(25,3),(25,0),(25,4),(26,5),(26,0),(26,6),(27,3),(27,0),(27,4),(0,1)],[(19,[(10, .ty 3),(2, .ty 3),(1, .any),(9, .grow (some 2)),(3, .loc 24)])],[(19,[(9, .grow (some 2))])],[(6, .ty 47)]⟩
 |31=>some ⟨true,[],[],[],[],[(2, .ty 4)]⟩
 |32=>some ⟨true,[],[(13,6),(13,0),(13,7),(16,6),(16,0),(16,7),(0,0),(2,0),(8,0)],[(1000000,[(5, .grow (some 2)),(4, .ty 9),(2, .any),(3, .ty 30)])],[(1000000,[(2, .ty 47),(3, .ty 30)])],[(2, .ty 47),(3, .ty 30)]⟩
 |33=>some ⟨true,[],[],[(3,[(9, .ty 3),(3, .ty 3),(7, .any),(8, .ty 3)])],[(3,[(3, .ty 3)])],[(2, .ty 3)]⟩
 |34=>some ⟨true,[3],[],[(3,[(3, .any)])],[],[(2, .ty 3)]⟩
 |35=>some ⟨false,[4],[],[(4,[(4, .any),(3, .any)])],[],[(4, .ref)]⟩
 |36=>some ⟨true,[],[],[],[],[(4, .ty 4)]⟩
 |37=>some ⟨true,[],[],[],[],[(2, .ty 4)]⟩
 |38=>some ⟨false,[],[],[],[],[(6, .ty 4)]⟩
 |39=>some ⟨false,[],[],[],[],[(2, .locA (some 3))]⟩
 |40=>some ⟨false,[],[],[],[],[]⟩
 |41=>some ⟨false,[],[(0,8),(0,4),(0,11)],[],[],[]⟩
 |42=>some ⟨false,[],[],[],[],[]⟩
 |43=>some ⟨false,[],[],[],[],[]⟩
 |44=>some ⟨false,[],[],[],[],[]⟩
 |45=>some ⟨false,[],[(3,8),(3,4),(3,11)],[(1,[(8, .ty 3),(0, .ref),(6, .any),(7, .ty 3)])],[(1,[])],[]⟩
 |46=>some ⟨false,[],[],[],[],[]⟩
 |47=>some ⟨false,[],[],[],[],[]⟩
 |48=>some ⟨true,[],[],[],[],[(2, .ty 4)]⟩
 |49=>some ⟨false,[],[],[],[],[]⟩
 |50=>some ⟨true,[],[],[(19,[(3, .ty 3),(1, .loc 24)])],[(19,[])],[(2, .ty 4)]⟩
 |51=>some ⟨true,[],[],[],[],[(4, .ty 3)]⟩
 |52=>some ⟨true,[],[],[],[],[(2, .locA (some 2))]⟩
 |53=>some ⟨true,[],[],[],[],[(2, .locA (some 2))]⟩
 |54=>some ⟨true,[],[],[],[],[(2, .locA (some 2))]⟩
 |55=>some ⟨true,[],[],[],[],[(2, .ty 4)]⟩
 |56=>some ⟨true,[],[(15,9),(15,0),(15,10),(25,8),(25,0),(25,9),(0,0),(2,0),(18,0)],[(5,[(5, .ty 3),(0, .any),(4, .grow (some 2))]),(12,[(5, .ty 3),(0, .any),(4, .grow (some 2))]),(20,[(0, .any),(9, .ty 3),(5, .ty 3),(4, .grow (some 2)),(8, .ty 4)])],[(5,[(4, .grow (some 2))]),(12,[(5, .ty 3),(0, .ty 29),(4, .grow (some 2))]),(20,[(0, .ty 29),(9, .ty 3),(5, .ty 3),(4, .grow (some 2))])],[(2, .ty 47),(3, .ty 30)]⟩
 |57=>some ⟨true,[],[],[],[],[(2, .ty 4)]⟩
 |58=>some ⟨true,[],[],[],[],[(2, .ty 3)]⟩
 |59=>some ⟨true,[],[],[],[],[(4, .ty 4)]⟩
 |60=>some ⟨true,[],[],[],[],[(2, .ty 4)]⟩
 |61=>some ⟨true,[],[],[(2,[(0, .ty 9),(6, .any)])],[(2,[(0, .ty 9)])],[(2, .ty 3)]⟩
 |62=>some ⟨false,[],[],[],[],[(2, .any)]⟩
 |63=>some ⟨false,[],[],[],[],[(6, .locA (some 3))]⟩
 |64=>some ⟨true,[],[],[],[],[(2, .ty 9)]⟩
 |65=>some ⟨true,[],[],[(2,[(0, .ty 3),(3, .ty 9)])],[(2,[])],[(2, .ty 9)]⟩
 |66=>some ⟨true,[],[],[],[],[(2, .ty 4)]⟩
 |67=>some ⟨true,[],[],[],[],[(2, .ty 4)]⟩
 |68=>some ⟨true,[],[],[],[],[(4, .ty 3)]⟩
 |69=>some ⟨true,[],[],[(1000001,[(8, .ty 3),(9, .ty 3),(1, .ty 21),(0, .ty 9),(7, .ty 9),(4, .ty 3)]),(5,[(8, .ty 3),(1, .ty 21),(0, .ty 9),(7, .ty 9),(10, .ty 3),(9, .ty 3)]),(1000000,[(8, .ty 3),(1, .ty 21),(0, .ty 9),(7, .ty 9),(9, .ty 3),(10, .ty 3)]),(12,[(8, .ty 3),(1, .ty 21),(0, .ty 9),(7, .ty 9),(9, .ty 3),(10, .ty 3),(12, .ty 3)]),(1000002,[(9, .ty 3),(8, .ty 3),(7, .ty 9),(0, .ty 9),(15, .ty 5),(14, .ty 5)]),(25,[(9, .ty 3),(8, .ty 3),(7, .ty 9),(0, .ty 9),(15, .ty 5),(14, .ty 5)]),(29,[(8, .ty 3),(7, .ty 9),(0, .ty 9),(15, .ty 5),(14, .ty 5),(9, .ty 3),(16, .ty 3)]),(38,[(175, .any)])],[(1000001,[(4, .ty 3)]),(5,[(8, .ty 3),(9, .ty 3),(1, .ty 21),(0, .ty 9),(7, .ty 9)]),(1000000,[(8, .ty 3),(1, .ty 21),(0, .ty 9),(7, .ty 9),(10, .ty 3),(9, .ty 3)]),(12,[(8, .ty 3),(9, .ty 3),(1, .ty 21),(0, .ty 9),(7, .ty 9),(10, .ty 3)]),(1000002,[]),(25,[]),(29,[(8, .ty 3),(9, .ty 3),(7, .ty 9),(0, .ty 9),(15, .ty 5),(14, .ty 5)]),(38,[])],[(4, .ty 3)]⟩
 |70=>some ⟨false,[],[],[],[],[]⟩
 |71=>some ⟨false,[],[],[(4,[(18, .ty 3),(2, .any),(3, .loc 24),(1, .ty 3),(16, .any),(17, .ty 3)])],[(4,[])],[(6, .ty 4)]⟩
 |72=>some ⟨false,[],[],[],[],[(4, .ty 4)]⟩
 |73=>some ⟨false,[],[],[],[],[]⟩
 |74=>some ⟨false,[],[],[],[],[(2, .ty 9)]⟩
 |75=>some ⟨false,[],[(1,9)],[],[],[(8, .locA (some 3))]⟩
 |76=>some ⟨false,[],[(10,7),(10,1),(10,9),(8,3)],[(9,[(8, .dloc (some 3) [.ct .int, .ct .int, .grow (some 3)]),(2, .ty 3),(1, .any),(0, .ref),(6, .locA (some 3))])],[(9,[(6, .locA (some 3)),(8, .dloc (some 3) [.ct .int, .ct .int, .grow (some 3)])])],[(6, .locA (some 3))]⟩
 |77=>some ⟨true,[],[],[],[],[(2, .ty 9)]⟩
 |78=>some ⟨true,[],[],[],[],[(4, .ty 3)]⟩
 |79=>some ⟨true,[],[],[],[],[(2, .ty 4)]⟩
 |80=>some ⟨true,[],[],[],[],[(2, .ty 3)]⟩
 |82=>some ⟨true,[],[],[],[],[(2, .ty 4)]⟩
 |83=>some ⟨false,[],[],[],[],[(4, .ty 9)]⟩
 |84=>some ⟨false,[],[],[],[],[(2, .ty 4)]⟩
 |85=>some ⟨false,[],[],[],[],[(4, .locA (some 3))]⟩
 |86=>some ⟨false,[],[],[],[],[(6, .locA (some 3))]⟩
 |87=>some ⟨false,[],[(5,1),(10,0),(12,1),(13,1)],[(2,[(6, .locA (some 3)),(11, .ty 3),(4, .loc 9),(2, .any),(0, .ref),(10, .ty 3)])],[(2,[(6, .locA (some 3)),(0, .ref),(4, .loc 9)])],[(6, .locA (some 3))]⟩
 |88=>some ⟨false,[],[],[],[],[(6, .locA (some 3))]⟩
 |89=>some ⟨true,[],[],[],[],[(4, .ty 9)]⟩
 |91=>some ⟨false,[],[],[(2,[(8, .ty 3),(0, .any),(1, .any),(7, .ty 3)])],[(2,[])],[(4, .ty 3)]⟩
 |92=>some ⟨false,[],[],[],[],[(3, .ty 4)]⟩
 |93=>some ⟨true,[],[],[],[],[(2, .ty 4)]⟩
 |94=>some ⟨true,[],[],[],[],[(2, .ty 9)]⟩
 |95=>some ⟨true,[],[],[],[],[(2, .ty 3)]⟩
 |96=>some ⟨true,[],[],[(1,[(4, .ty 3),(0, .any),(1, .ty 98)])],[(1,[(0, .ty 29),(4, .ty 3),(1, .ty 98)])],[]⟩
 |97=>some ⟨true,[],[(29,3),(29,0),(29,4)],[(18,[(12, .loc 106),(17, .ty 98),(1, .ty 98),(13, .ty 3),(11, .ty 9),(0, .any),(10, .grow none),(4, .ty 4),(3, .ty 4)]),(11,[(14, .ty 89),(1, .ty 98),(12, .loc 106),(16, .ty 89),(13, .ty 3),(11, .ty 9),(0, .any),(10, .grow none),(4, .ty 4),(3, .ty 4),(15, .ty 98)])],[(18,[(11, .ty 9),(12, .loc 106),(0, .ty 29),(10, .grow none),(4, .ty 4),(3, .ty 4),(1, .ty 98),(13, .ty 3)]),(11,[(11, .ty 9),(12, .loc 106),(0, .ty 29),(10, .grow none),(4, .ty 4),(3, .ty 4),(1, .ty 98),(13, .ty 3)])],[(10, .grow none),(11, .ty 9)]⟩
 |98=>some ⟨true,[1],[],[(3,[(1, .any)])],[],[(2, .locA (some 3))]⟩
 |99=>some ⟨true,[],[],[],[],[(2, .ty 3)]⟩
 |100=>some ⟨true,[],[],[],[],[(2, .ty 3)]⟩
 |101=>some ⟨true,[],[],[],[],[(2, .ty 3)]⟩
 |102=>some ⟨true,[],[],[],[],[(2, .ty 4)]⟩
 |103=>some ⟨true,[],[],[],[],[(2, .ty 3)]⟩
 |104=>some ⟨false,[1],[],[],[],[(2, .any)]⟩
 |105=>some ⟨true,[],[],[],[],[(2, .ty 3)]⟩
 |106=>some ⟨true,[],[],[],[],[(2, .ty 3)]⟩
 |107=>some ⟨false,[],[],[(0,[(1, .any),(0, .any)])],[(0,[])],[]⟩
 |130=>some ⟨true,[],[],[],[],[]⟩
 |_=>none
def cfg:Cfg:=Cfg.of zq4 [87] []
end Go.Proofs.SW
namespace Go.Proofs.SW
open Go Go.AM Go.RowKit
set_option maxRecDepth 100000
theorem names:(Tryd.prog.funcs.all fun fn=>fn.name != "runtime.NumGoroutine")=true:=by kernel_rfl
theorem zod:((List.range Tryd.prog.funcs.size).all fun g=>match growElem Tryd.prog g with|none=>true|some e=>false)=true:=by kernel_rfl
theorem plainNames:PlainNames Tryd.prog where
 names f fn h e:=by
  have:=Array.all_eq_true_iff_forall_mem.1 names fn (Array.mem_of_getElem? h)
  simp[e]at this
 grow g e h:=by
  have hg:g<Tryd.prog.funcs.size:=by
   unfold growElem at h
   split at h
   ·rename_i hh;exact(Array.getElem?_eq_some_iff.1 hh).1
   ·cases h
  have:=List.all_eq_true.1 zod g (List.mem_range.2 hg)
  simp only[h]at this
  cases this
end Go.Proofs.SW
namespace Go.Proofs.SW
open Go Go.AM Go.RowKit
set_option maxRecDepth 100000
noncomputable def ext:Ext:=fun f=>bif Nat.beq f 64 then some (fun _ args st=>zlR args st)else none
def zoW:Go.Shelf.Ren:=⟨fun|129=>100|171=>64|243=>77|246=>89|283=>94|284=>95|285=>96|286=>97|317=>99|318=>101|319=>102|320=>103|337=>105|338=>106|n=>n,fun|0=>0|2=>2|3=>3|4=>4|5=>5|9=>9|20=>20|37=>29|46=>89|51=>105|53=>98|171=>97|173=>101|212=>104|213=>106|232=>113|233=>114|n=>n,fun|17=>1|18=>2|19=>3|n=>n⟩
theorem zoe:Lays.n171 Tryd.prog zoW where
 mixed:=by kernel_rfl
 f129:=Tryd.func100.trans (congrArg some (by kernel_rfl))
 f171:=Tryd.func64.trans (congrArg some (by kernel_rfl))
 f243:=Tryd.func77.trans (congrArg some (by kernel_rfl))
 f246:=Tryd.func89.trans (congrArg some (by kernel_rfl))
 f283:=Tryd.func94.trans (congrArg some (by kernel_rfl))
 f284:=Tryd.func95.trans (congrArg some (by kernel_rfl))
 f285:=Tryd.func96.trans (congrArg some (by kernel_rfl))
 f286:=Tryd.func97.trans (congrArg some (by kernel_rfl))
 f317:=Tryd.func99.trans (congrArg some (by kernel_rfl))
 f318:=Tryd.func101.trans (congrArg some (by kernel_rfl))
 f319:=Tryd.func102.trans (congrArg some (by kernel_rfl))
 f320:=Tryd.func103.trans (congrArg some (by kernel_rfl))
 f337:=Tryd.func105.trans (congrArg some (by kernel_rfl))
 f338:=Tryd.func106.trans (congrArg some (by kernel_rfl))
 t0:=Tryd.underlying0
 a0:=Tryd.isAgg0
 z0:=Tryd.sizeOf0
 v0:=Tryd.zeroValue0
 t2:=Tryd.underlying2
 a2:=Tryd.isAgg2
 z2:=Tryd.sizeOf2
 v2:=Tryd.zeroValue2
 t3:=Tryd.underlying3
 a3:=Tryd.isAgg3
 z3:=Tryd.sizeOf3
 v3:=Tryd.zeroValue3
 t4:=Tryd.underlying4
 a4:=Tryd.isAgg4
 z4:=Tryd.sizeOf4
 v4:=Tryd.zeroValue4
 t5:=Tryd.underlying5
 a5:=Tryd.isAgg5
 z5:=Tryd.sizeOf5
 v5:=Tryd.zeroValue5
 t9:=Tryd.underlying9
 a9:=Tryd.isAgg9
 z9:=Tryd.sizeOf9
 v9:=Tryd.zeroValue9
 t20:=Tryd.underlying20
 a20:=Tryd.isAgg20
 z20:=Tryd.sizeOf20
 v20:=Tryd.zeroValue20
 t37:=Tryd.underlying29
 a37:=Tryd.isAgg29
 z37:=Tryd.sizeOf29
 v37:=Tryd.zeroValue29
 t46:=Tryd.underlying89
 a46:=Tryd.isAgg89
 z46:=Tryd.sizeOf89
 v46:=Tryd.zeroValue89
 t51:=Tryd.underlying105
 a51:=Tryd.isAgg105
 z51:=Tryd.sizeOf105
 v51:=Tryd.zeroValue105
 t53:=Tryd.underlying98
 a53:=Tryd.isAgg98
 z53:=Tryd.sizeOf98
 v53:=Tryd.zeroValue98
 t171:=Tryd.underlying97
 a171:=Tryd.isAgg97
 z171:=Tryd.sizeOf97
 v171:=Tryd.zeroValue97
 t173:=Tryd.underlying101
 a173:=Tryd.isAgg101
 z173:=Tryd.sizeOf101
 v173:=Tryd.zeroValue101
 t212:=Tryd.underlying104
 a212:=Tryd.isAgg104
 z212:=Tryd.sizeOf104
 v212:=Tryd.zeroValue104
 t213:=Tryd.underlying106
 a213:=Tryd.isAgg106
 z213:=Tryd.sizeOf106
 t232:=Tryd.underlying113
 a232:=Tryd.isAgg113
 z232:=Tryd.sizeOf113
 v232:=Tryd.zeroValue113
 t233:=Tryd.underlying114
 a233:=Tryd.isAgg114
 z233:=Tryd.sizeOf114
 v233:=Tryd.zeroValue114
 g17:=by kernel_rfl
 g18:=by kernel_rfl
 g19:=by kernel_rfl
theorem zpI:znT Tryd.prog 64:=⟨⟨_,Tryd.func64,rfl⟩,fun i hi w=>Any.strconv_Itoa_small zoe i hi w⟩
theorem extOK:zfm Tryd.prog cfg ext:=fun f x h O hC hRd args st y hy=>by
 unfold ext at h
 cases h64:Nat.beq f 64
 case true=>
  rw[h64]at h
  cases h
  obtain rfl:=Nat.eq_of_beq_eq_true h64
  exact znU zpI hy
 rw[h64]at h
 cases h
theorem zgr:zbT ext:=fun f x h=>by
 unfold ext at h
 cases h64:Nat.beq f 64
 case true=>
  rw[h64]at h
  cases h
  exact fun Os O hO args st x hx=> .of fun _=>hx
 rw[h64]at h
 cases h
class NoExt(f:Nat):Prop where
 h:ext f=none
instance:NoExt 2:=⟨rfl⟩
instance:NoExt 3:=⟨rfl⟩
instance:NoExt 4:=⟨rfl⟩
instance:NoExt 5:=⟨rfl⟩
instance:NoExt 6:=⟨rfl⟩
instance:NoExt 7:=⟨rfl⟩
instance:NoExt 8:=⟨rfl⟩
instance:NoExt 9:=⟨rfl⟩
instance:NoExt 10:=⟨rfl⟩
instance:NoExt 11:=⟨rfl⟩
instance:NoExt 12:=⟨rfl⟩
instance:NoExt 13:=⟨rfl⟩
instance:NoExt 14:=⟨rfl⟩
instance:NoExt 15:=⟨rfl⟩
instance:NoExt 16:=⟨rfl⟩
instance:NoExt 17:=⟨rfl⟩
instance:NoExt 18:=⟨rfl⟩
instance:NoExt 19:=⟨rfl⟩
instance:NoExt 20:=⟨rfl⟩
instance:NoExt 21:=⟨rfl⟩
instance:NoExt 22:=⟨rfl⟩
instance:NoExt 23:=⟨rfl⟩
instance:NoExt 24:=⟨rfl⟩
instance:NoExt 25:=⟨rfl⟩
instance:NoExt 26:=⟨rfl⟩
instance:NoExt 27:=⟨rfl⟩
instance:NoExt 28:=⟨rfl⟩
instance:NoExt 29:=⟨rfl⟩
instance:NoExt 30:=⟨rfl⟩
instance:NoExt 31:=⟨rfl⟩
instance:NoExt 32:=⟨rfl⟩
instance:NoExt 33:=⟨rfl⟩
instance:NoExt 34:=⟨rfl⟩
instance:NoExt 35:=⟨rfl⟩
instance:NoExt 36:=⟨rfl⟩
instance:NoExt 37:=⟨rfl⟩
instance:NoExt 38:=⟨rfl⟩
instance:NoExt 39:=⟨rfl⟩
instance:NoExt 40:=⟨rfl⟩
instance:NoExt 41:=⟨rfl⟩
instance:NoExt 42:=⟨rfl⟩
instance:NoExt 43:=⟨rfl⟩
instance:NoExt 44:=⟨rfl⟩
instance:NoExt 45:=⟨rfl⟩
instance:NoExt 46:=⟨rfl⟩
instance:NoExt 47:=⟨rfl⟩
instance:NoExt 48:=⟨rfl⟩
instance:NoExt 49:=⟨rfl⟩
instance:NoExt 50:=⟨rfl⟩
instance:NoExt 51:=⟨rfl⟩
instance:NoExt 52:=⟨rfl⟩
instance:NoExt 53:=⟨rfl⟩
instance:NoExt 54:=⟨rfl⟩
instance:NoExt 55:=⟨rfl⟩
instance:NoExt 56:=⟨rfl⟩
instance:NoExt 57:=⟨rfl⟩
instance:NoExt 58:=⟨rfl⟩
instance:NoExt 59:=⟨rfl⟩
instance:NoExt 60:=⟨rfl⟩
instance:NoExt 61:=⟨rfl⟩
instance:NoExt 62:=⟨rfl⟩
instance:NoExt 63:=⟨rfl⟩
instance:NoExt 65:=⟨rfl⟩
instance:NoExt 66:=⟨rfl⟩
instance:NoExt 67:=⟨rfl⟩
instance:NoExt 68:=⟨rfl⟩
instance:NoExt 69:=⟨rfl⟩
instance:NoExt 70:=⟨rfl⟩
instance:NoExt 71:=⟨rfl⟩
instance:NoExt 72:=⟨rfl⟩
instance:NoExt 73:=⟨rfl⟩
instance:NoExt 74:=⟨rfl⟩
instance:NoExt 75:=⟨rfl⟩
instance:NoExt 76:=⟨rfl⟩
instance:NoExt 77:=⟨rfl⟩
instance:NoExt 78:=⟨rfl⟩
instance:NoExt 79:=⟨rfl⟩
instance:NoExt 80:=⟨rfl⟩
instance:NoExt 82:=⟨rfl⟩
instance:NoExt 83:=⟨rfl⟩
instance:NoExt 84:=⟨rfl⟩
instance:NoExt 85:=⟨rfl⟩
instance:NoExt 86:=⟨rfl⟩
instance:NoExt 87:=⟨rfl⟩
instance:NoExt 88:=⟨rfl⟩
instance:NoExt 89:=⟨rfl⟩
instance:NoExt 91:=⟨rfl⟩
instance:NoExt 92:=⟨rfl⟩
instance:NoExt 93:=⟨rfl⟩
instance:NoExt 94:=⟨rfl⟩
instance:NoExt 95:=⟨rfl⟩
instance:NoExt 96:=⟨rfl⟩
instance:NoExt 97:=⟨rfl⟩
instance:NoExt 98:=⟨rfl⟩
instance:NoExt 99:=⟨rfl⟩
instance:NoExt 100:=⟨rfl⟩
instance:NoExt 101:=⟨rfl⟩
instance:NoExt 102:=⟨rfl⟩
instance:NoExt 103:=⟨rfl⟩
instance:NoExt 104:=⟨rfl⟩
instance:NoExt 105:=⟨rfl⟩
instance:NoExt 106:=⟨rfl⟩
instance:NoExt 107:=⟨rfl⟩
instance:NoExt 130:=⟨rfl⟩
end Go.Proofs.SW
namespace Go.Ama
abbrev Bytes:=List UInt8
abbrev Tok:=Int×Bytes
def blank(c:UInt8):Bool:=c==32||c==9||c==10
def mark(c:UInt8):Bool:=c==40||c==41||c==91||c==93||c==123||c==125||c==58||c==46
def named(c:UInt8):Bool:=(decide (97≤c)&&decide (c≤122))||(decide (65≤c)&&decide (c≤90))||(decide (48≤c)&&decide (c≤57))||c==95||c==39
def Yz(c:UInt8):Bool:=c !=10
theorem ZW{α:Type}(p:α→Bool): ∀l:List α,(l.dropWhile p).length≤l.length
 |[]=>Nat.le_refl _
 |x::l=>by
  rw[List.dropWhile_cons]
  split
  ·have:=ZW p l;simp;omega
  ·exact Nat.le_refl _
def Xi:Bytes→Option (List Tok)
 |[]=>some []
 |c::r=>
  if blank c then Xi r
  else if c==37 then Xi (r.dropWhile Yz)
  else if mark c then(Xi r).map ((1,[c]):: ·)
  else if named c then(Xi (r.dropWhile named)).map ((0,c::r.takeWhile named):: ·)
  else none
termination_by l=>l.length
decreasing_by
 all_goals first
  |(simp;done)
  |(have:=ZW Yz r;simp;omega)
  |(have:=ZW named r;simp;omega)
def ZE:Int→List Tok→Bytes
 |_,[]=> []
 |last,(k,s)::l=>(if k=0∧last=0 then[32]else[])++s++ZE k l
def text(l:List Tok):Bytes:=ZE 1 l
theorem zbX:Xi []=some []:=by unfold Xi;rfl
theorem zbo{c:UInt8}(r:Bytes)(h:blank c=true):Xi (c::r)=Xi r:=by rw[Xi,if_pos h]
theorem zeH{c:UInt8}(r:Bytes)(h:c=37):Xi (c::r)=Xi (r.dropWhile Yz):=by subst h;rw[Xi,if_neg (by decide),if_pos (by decide)]
theorem zdt{c:UInt8}(h:mark c=true):blank c=false∧(c==37)=false∧named c=false:=by
 simp only[mark,Bool.or_eq_true,beq_iff_eq]at h
 rcases h with((((((h|h)|h)|h)|h)|h)|h)|h<;>subst h<;>decide
theorem zea{p:UInt8→Prop}(h: ∀n:Fin 256,p (UInt8.ofNat n.val))(c:UInt8):p c:=by
 have:=h ⟨c.toNat,c.toNat_lt⟩
 simpa using this
theorem zmO: ∀n:Fin 256,named (UInt8.ofNat n.val)=true→blank (UInt8.ofNat n.val)=false∧(UInt8.ofNat n.val==37)=false∧mark (UInt8.ofNat n.val)=false∧Yz (UInt8.ofNat n.val)=true:=by decide+kernel
theorem zfp{c:UInt8}(h:named c=true):blank c=false∧(c==37)=false∧mark c=false∧Yz c=true:=by
 exact zea (p:=fun c=>named c=true→blank c=false∧(c==37)=false∧mark c=false∧Yz c=true) zmO c h
theorem zc5{c:UInt8}(r:Bytes)(h:mark c=true):Xi (c::r)=(Xi r).map ((1,[c]):: ·):=by
 obtain⟨h1,h2,_⟩:=zdt h
 rw[Xi,if_neg (by simp[h1]),if_neg (by simp[h2]),if_pos h]
theorem zc6{c:UInt8}(r:Bytes)(h:named c=true):Xi (c::r)=(Xi (r.dropWhile named)).map ((0,c::r.takeWhile named):: ·):=by
 obtain⟨h1,h2,h3,_⟩:=zfp h
 rw[Xi,if_neg (by simp[h1]),if_neg (by simp[h2]),if_neg (by simp[h3]),if_pos h]
theorem zeb{c:UInt8}(r:Bytes)(h1:blank c=false)(h2:(c==37)=false)(h3:mark c=false)(h4:named c=false):Xi (c::r)=none:=by
 rw[Xi,if_neg (by simp[h1]),if_neg (by simp[h2]),if_neg (by simp[h3]),if_neg (by simp[h4])]
theorem zeI{p:Bytes→Prop}(h0:p [])(h1: ∀c r,blank c=true→p r→p (c::r))(h2: ∀r,p (r.dropWhile Yz)→p (37::r))(h3: ∀c r,mark c=true→p r→p (c::r))
  (h4: ∀c r,named c=true→p (r.dropWhile named)→p (c::r)) (h5: ∀c r,blank c=false→(c==37)=false→mark c=false→named c=false→p (c::r)): ∀l,p l:=by
 intro l
 generalize hn:l.length=n
 induction n using Nat.strongRecOn generalizing l with
 |_ n ih=>
  subst hn
  cases l with
  |nil=>exact h0
  |cons c r=>
   cases b1:blank c with
   |true=>exact h1 c r b1 (ih r.length (by simp) r rfl)
   |false=>
    cases b2:c==37 with
    |true=>
     rw[beq_iff_eq]at b2;subst b2
     exact h2 r (ih _ (by have:=ZW Yz r;simp;omega) _ rfl)
    |false=>
     cases b3:mark c with
     |true=>exact h3 c r b3 (ih r.length (by simp) r rfl)
     |false=>
      cases b4:named c with
      |true=>exact h4 c r b4 (ih _ (by have:=ZW named r;simp;omega) _ rfl)
      |false=>exact h5 c r b1 b2 b3 b4
def zcY(t:Tok):Prop:=(t.1=1∧ ∃c,t.2=[c]∧mark c=true)∨(t.1=0∧t.2≠ []∧ ∀c∈t.2,named c=true)
theorem zcZ{α:Type}{p:α→Bool}: ∀{l:List α} {x:α},x∈l.takeWhile p→p x=true
 |[],_,h=>by simp at h
 |y::l,x,h=>by
  rw[List.takeWhile_cons]at h
  split at h
  ·rename_i hy
   rcases List.mem_cons.1 h with rfl|h
   ·exact hy
   ·exact zcZ h
  ·simp at h
theorem zlT: ∀(b:Bytes) (l:List Tok),Xi b=some l→ ∀t∈l,zcY t:=by
 refine zeI ?_ ?_ ?_ ?_ ?_ ?_
 ·intro l h t ht;rw[zbX]at h;cases h;simp at ht
 ·intro c r hc ih l h;rw[zbo r hc]at h;exact ih l h
 ·intro r ih l h;rw[zeH r rfl]at h;exact ih l h
 ·intro c r hc ih l h t ht
  rw[zc5 r hc,Option.map_eq_some_iff]at h
  obtain⟨l',h,rfl⟩:=h
  rcases List.mem_cons.1 ht with rfl|ht
  ·exact .inl ⟨rfl,c,rfl,hc⟩
  ·exact ih l' h t ht
 ·intro c r hc ih l h t ht
  rw[zc6 r hc,Option.map_eq_some_iff]at h
  obtain⟨l',h,rfl⟩:=h
  rcases List.mem_cons.1 ht with rfl|ht
  ·refine .inr ⟨rfl,by simp,fun x hx=> ?_⟩
   rcases List.mem_cons.1 hx with rfl|hx
   ·exact hc
   ·exact zcZ hx
  ·exact ih l' h t ht
 ·intro c r h1 h2 h3 h4 l h;rw[zeb r h1 h2 h3 h4]at h;cases h
theorem zda{α:Type}{p:α→Bool}: ∀(a b:List α),(∀x∈a,p x=true)→(∀x,b.head? =some x→p x=false)→(a++b).takeWhile p=a∧(a++b).dropWhile p=b
 |[],b,_,hb=>by
  cases b with
  |nil=>exact⟨rfl,rfl⟩
  |cons x b=>simp[List.takeWhile_cons,List.dropWhile_cons,hb x rfl]
 |x::a,b,ha,hb=>by
  obtain⟨h1,h2⟩:=zda a b (fun y hy=>ha y (by simp[hy])) hb
  simp[List.takeWhile_cons,List.dropWhile_cons,ha x (by simp),h1,h2]
theorem zmP{k:Int}: ∀(l:List Tok),(∀t∈l,zcY t)→k=0→ ∀x,(ZE k l).head?=some x→named x=false
 |[],_,_,x,h=>by simp[ZE]at h
 |(j,s)::l,hl,hk,x,h=>by
  subst hk
  rcases hl (j,s) (by simp)with⟨h1,c,h2,h3⟩|⟨h1,h2,h3⟩
  ·simp only at h1 h2;subst h1 h2
   have e:(ZE 0 ((1,[c])::l))=c::ZE 1 l:=by simp[ZE]
   rw[e]at h
   simp only[List.head?_cons,Option.some.injEq]at h
   subst h;exact(zdt h3).2.2
  ·simp only at h1 h2;subst h1
   have e:(ZE 0 ((0,s)::l))=32::(s++ZE 0 l):=by simp[ZE]
   rw[e]at h
   simp only[List.head?_cons,Option.some.injEq]at h
   subst h;decide
theorem zdb: ∀(l:List Tok) (k:Int),(∀t∈l,zcY t)→Xi (ZE k l)=some l
 |[],_,_=>zbX
 |(j,s)::l,k,hl=>by
  have ih:=fun k=>zdb l k fun t ht=>hl t (by simp[ht])
  rcases hl (j,s) (by simp)with⟨h1,c,h2,h3⟩|⟨h1,h2,h3⟩
  ·simp only at h1 h2;subst h1 h2
   have e:(ZE k ((1,[c])::l))=c::ZE 1 l:=by simp[ZE]
   rw[e,zc5 _ h3,ih];rfl
  ·simp only at h1 h2;subst h1
   have main:Xi (s++ZE 0 l)=some ((0,s)::l):=by
    cases s with
    |nil=>exact absurd rfl h2
    |cons c s=>
     obtain⟨e1,e2⟩:=zda (p:=named) s (ZE 0 l) (fun x hx=>h3 x (by simp[hx])) (zmP l (fun t ht=>hl t (by simp[ht])) rfl)
     rw[List.cons_append,zc6 _ (h3 c (by simp)),e1,e2,ih];rfl
   by_cases hk:k=0
   ·have e:(ZE k ((0,s)::l))=32::(s++ZE 0 l):=by simp[ZE,hk]
    rw[e,zbo _ (by decide)];exact main
   ·have e:(ZE k ((0,s)::l))=s++ZE 0 l:=by simp[ZE,hk]
    rw[e];exact main
theorem YO{α:Type}(p:α→Bool)(l:List α):(l.takeWhile p).length+(l.dropWhile p).length=l.length:=by
 rw[←List.length_append,List.takeWhile_append_dropWhile]
def ZT:List Tok→Nat
 |[]=>0
 |(_,s)::l=>s.length+ZT l
theorem zjR: ∀(b:Bytes) (l:List Tok),Xi b=some l→ZT l≤b.length:=by
 refine zeI ?_ ?_ ?_ ?_ ?_ ?_
 ·intro l h;rw[zbX]at h;cases h;simp[ZT]
 ·intro c r hc ih l h;rw[zbo r hc]at h;have:=ih l h;simp;omega
 ·intro r ih l h;rw[zeH r rfl]at h;have:=ih l h;have:=ZW Yz r;simp;omega
 ·intro c r hc ih l h
  rw[zc5 r hc,Option.map_eq_some_iff]at h
  obtain⟨l',h,rfl⟩:=h
  have:=ih l' h;simp[ZT];omega
 ·intro c r hc ih l h
  rw[zc6 r hc,Option.map_eq_some_iff]at h
  obtain⟨l',h,rfl⟩:=h
  have:=ih l' h
  have:=YO named r
  simp[ZT];omega
 ·intro c r h1 h2 h3 h4 l h;rw[zeb r h1 h2 h3 h4]at h;cases h
theorem zaL: ∀(l:List Tok),(∀t∈l,zcY t)→l.length≤ZT l
 |[],_=>by simp[ZT]
 |(j,s)::l,h=>by
  have:=zaL l fun t ht=>h t (by simp[ht])
  have hs:1≤s.length:=by
   rcases h (j,s) (by simp)with⟨_,c,h2,_⟩|⟨_,h2,_⟩
   ·simp only at h2;rw[h2];simp
   ·cases s with
    |nil=>exact absurd rfl h2
    |cons=>simp
  simp[ZT];omega
theorem zbz: ∀(l:List Tok) (k:Int),(ZE k l).length≤ZT l+l.length
 |[],_=>by simp[ZE]
 |(j,s)::l,k=>by
  have:=zbz l j
  simp only[ZE,ZT,List.length_append,List.length_cons]
  split<;>simp<;>omega
end Go.Ama
namespace Go.Ama
open Go Go.AM
def ba(l:Bytes):ByteArray:=⟨l.toArray⟩
def XY(l:Bytes):List V:=l.map fun b=> .ik .u8 (b.toNat:Int)
def za2(t:Tok):V:= .agg [.int t.1, .str (ba t.2)]
def Zj(l:List Tok):List V:=l.map za2
theorem zpJ{a b:Bytes}:ba a=ba b↔a=b:=by
 constructor
 ·intro h
  have:(ba a).data.toList=(ba b).data.toList:=by rw[h]
  simpa[ba]using this
 ·rintro rfl;rfl
theorem Xl(l:Bytes):(ba l).size=l.length:=by simp[ba,ByteArray.size]
theorem JA(l:Bytes):(ba l).toList=l:=by rw[ByteArray.toList_eq];simp[ba]
theorem zp2(l:Bytes):(ba l).data.toList=l:=by simp[ba]
theorem zmQ(a b:Bytes):ba a++ba b=ba (a++b):=by
 apply ByteArray.ext
 simp[ba,ByteArray.data_append]
theorem zdu(l:Bytes)(i j:Nat):(ba l).extract i j=ba ((l.take j).drop i):=by
 apply ByteArray.ext
 simp[ba,ByteArray.data_extract,List.drop_take]
theorem zjS(a b:Bytes):((ba a).toList==(ba b).toList)=decide (a=b):=by
 rw[JA,JA]
 by_cases h:a=b<;>simp[h]
theorem zmR(l:Bytes):Xm (ba l)=XY l:=by simp[Xm,ba,XY]
theorem zmS(l:Bytes):XA (XY l)=ba l:=by
 unfold XA XY ba
 congr 1
 rw[List.map_map]
 congr 1
 conv=>rhs;rw[←List.map_id l]
 apply List.map_congr_left
 intro b _
 simp[zhV]
theorem zmT(l:Bytes):(XY l).all zgK=true:=by
 rw[List.all_eq_true]
 intro v hv
 obtain⟨b,_,rfl⟩:=List.mem_map.1 hv
 rfl
@[simp] theorem zam(l:Bytes):(XY l).length=l.length:=by simp[XY]
theorem zfq(a b:Bytes):XY (a++b)=XY a++XY b:=by simp[XY]
@[simp] theorem Xs(l:List Tok):(Zj l).length=l.length:=by simp[Zj]
theorem Q6(a b:List Tok):Zj (a++b)=Zj a++Zj b:=by simp[Zj]
theorem ziI{l:List Tok}{i:Nat}(h:i<l.length):YR (Zj l) (i:Int)=za2 l[i]:=by
 simp[YR,Zj,List.getD_eq_getElem?_getD,List.getElem?_map,h]
theorem Ql(n:Nat): ∀l:Bytes,Zu n (XY l)=true
 |[]=>rfl
 |b::l=>by
  have:=Ql n l
  simp only[XY]at this
  simp[XY,Zu,below,this]
theorem Ja(n:Nat): ∀l:List Tok,Zu n (Zj l)=true
 |[]=>rfl
 |t::l=>by
  have:=Ja n l
  simp only[Zj]at this
  simp[Zj,za2,Zu,below,this]
theorem zhC: ∀l:Bytes,YH (XY l)=l.length
 |[]=>rfl
 |b::l=>by
  have:=zhC l
  simp only[XY]at this
  simp only[XY,List.map_cons,YH,zak,List.length_cons,this];omega
theorem zlU{l:Bytes}{i:Nat}(h:i<l.length):(ba l).get! i=l[i]:=by
 show(ba l).data[i]! =l[i]
 have:(ba l).data=l.toArray:=rfl
 rw[this,getElem!_pos l.toArray i (by simpa using h)]
 simp
theorem zmU{l:Bytes}{i:Nat}(h:i<l.length)(h1:l[i]<128):Utf8.decode (ba l) i=(l[i].toNat,1):=by
 have e:((ba l).get! (i+0)).toNat=l[i].toNat:=by rw[Nat.add_zero,zlU h]
 have h2:l[i].toNat<128:=by simpa[UInt8.lt_iff_toNat_lt]using h1
 unfold Utf8.decode
 simp only[e]
 rw[if_pos h2]
theorem zmV{l:Bytes}{i:Nat}(h:i<l.length)(h1:128≤l[i]):128≤(Utf8.decode (ba l) i).1:=by
 have e:((ba l).get! (i+0)).toNat=l[i].toNat:=by rw[Nat.add_zero,zlU h]
 have h2: ¬l[i].toNat<128:=by
  have:128≤l[i].toNat:=by simpa[UInt8.le_iff_toNat_le]using h1
  omega
 unfold Utf8.decode
 simp only[e]
 rw[if_neg h2]
 split
 ·split
  ·simpa using‹_›
  ·simp[Utf8.runeError]
 ·split
  ·split
   ·rename_i h;simp at h;simp;omega
   ·simp[Utf8.runeError]
  ·split
   ·split
    ·rename_i h;simp at h;simp;omega
    ·simp[Utf8.runeError]
   ·simp[Utf8.runeError]
end Go.Ama
namespace Go.Proofs.SW
open Go Go.AM Go.Ama
noncomputable abbrev W:Oracle:=Om Tryd.prog cfg ext
theorem C(f:Nat)(args:List V)(st:St)[h:NoExt f]:W.call f args st=Ze Tryd.prog cfg W f args st:=
 (zlQ zgr f args st).trans (by show(match ext f with|some x=>x W args st|none=>Ze Tryd.prog cfg W f args st)=_;rw[h.h])
theorem Cx(f:Nat){x:Oracle→List V→St→Option (Out×St)}(args:List V)(st:St)(h:ext f=some x):W.call f args st=x W args st:=
 (zlQ zgr f args st).trans (by show(match ext f with|some x=>x W args st|none=>Ze Tryd.prog cfg W f args st)=_;rw[h])
theorem L(f key:Nat)(vals:List V)(st:St):W.loop f key vals st=ZY Tryd.prog cfg W f key vals st:=zoM zgr f key vals st
theorem Rd(l f key:Nat)(vals args:List V)(st:St):W.round l f key vals args st=Xn Tryd.prog cfg W l f key vals args st:=znS zgr l f key vals args st
def Ev(f:Nat)(args:List V)(v:V):Prop:=W.call f args []=some (.ret v,[])
theorem Ev.p{f:Nat}{args:List V}{v:V}(h:Ev f args v)(h1:Zu 0 args=true:=by simp[Zu,below])(h2:below 0 v=true:=by simp[below,Zu]):ZD W f args=some v:=znW h h1 h2
noncomputable def JS(m f:Nat)(args:List V):Option Bool:=
 match(Xh Tryd.prog cfg ext m).call f args []with
 |some (.ret (.bool b),[])=>some b
 |_=>none
theorem Ev.of_check{m f:Nat}{args:List V}{b:Bool}(h:JS m f args=some b):Ev f args (.bool b):=by
 unfold JS at h
 split at h
 ·rename_i b' hc
  cases h
  exact zc4 ((zf6 zgr m).call _ _ _ _ hc)
 ·cases h
end Go.Proofs.SW
namespace Go.Proofs.SW
open Go Go.AM
set_option maxRecDepth 20000
theorem ziJ(O:Oracle)(l0:(List V)):Ze Tryd.prog cfg O 32 [.vec .plain none l0] []=
 bc (decide ((↑l0.length:Int)>20000)) (some (Out.ret (V.tup [V.vec .plain (some 2) [],V.int 4]),[])) (gd (l0.all zgK) (bc ((XA l0).toList==[]) (some (Out.ret (V.tup
 [V.vec .plain (some 2) [],V.int 0]),[])) (gd (true&&decide (0<(↑(XA l0).size:Int))) (Za (ZD O 57 [V.ik IntKind.i32 (IntKind.i32.wrap (↑((XA
 l0).data.toList.getD (Int.toNat 0) 0).toNat:Int))]) fun r1=>Z6 r1 fun b2=>bc b2 (gd (true&&decide (1≤(↑(XA l0).size:Int))&&decide ((↑(XA l0).size:Int)≤
 (↑(XA l0).size:Int))&&true) (Za (O.loop 32 1000000 [V.vec Mode.grow (some 2) [],V.str ((XA l0).extract 1 (↑(XA l0).size:Int).toNat),V.vec .plain (some
 2) [],V.int 0] []) fun r3=>Jp r3.fst (Zy r3.snd.fst fun v4 c5=>Ys (some 2) v4 fun l6=>Zy c5 fun v7 c8=>Z2 v7 fun n9=>Zs c8 (gd (below 0 (V.tup [V.vec
 .plain (some 2) l6,V.int n9])&&ZO 0 []) (some (Out.ret (V.tup [V.vec .plain (some 2) l6,V.int n9]),[])))) (Zy r3.snd.fst fun v10 c11=>Ys (some 2) v10 fun l12=>
 Zy c11 fun v13 c14=>Z2 v13 fun n15=>Zs c14 (gd (below 0 (V.tup [V.vec .plain (some 2) l12,V.int n15])&&ZO 0 []) (some (Out.ret (V.tup [V.vec .plain (some 2)
 l12,V.int n15]),[])))) (fun i16=>none) fun v17=>none)) (bc (IntKind.i32.wrap (↑((XA l0).data.toList.getD (Int.toNat 0) 0).toNat:Int)==37) (Za (ZD O 58
 [V.str (XA l0)]) fun r18=>Z2 r18 fun n19=>gd (decide (0≤n19)&&decide (n19≤(↑(XA l0).size:Int))&&decide ((↑(XA l0).size:Int)≤(↑(XA l0).size:Int))&&
 true) (Za (O.loop 32 1000000 [V.vec Mode.grow (some 2) [],V.str ((XA l0).extract n19.toNat (↑(XA l0).size:Int).toNat),V.vec .plain (some 2) [],V.int 0] [])
 fun r20=>Jp r20.fst (Zy r20.snd.fst fun v21 c22=>Ys (some 2) v21 fun l23=>Zy c22 fun v24 c25=>Z2 v24 fun n26=>Zs c25 (gd (below 0 (V.tup [V.vec .plain
 (some 2) l23,V.int n26])&&ZO 0 []) (some (Out.ret (V.tup [V.vec .plain (some 2) l23,V.int n26]),[])))) (Zy r20.snd.fst fun v27 c28=>Ys (some 2) v27 fun l29=>
 Zy c28 fun v30 c31=>Z2 v30 fun n32=>Zs c31 (gd (below 0 (V.tup [V.vec .plain (some 2) l29,V.int n32])&&ZO 0 []) (some (Out.ret (V.tup [V.vec .plain (some 2)
 l29,V.int n32]),[])))) (fun i33=>none) fun v34=>none)) (Za (ZD O 59 [V.str {data:= #[40,41,91,93,123,125,58,46]},V.ik IntKind.i32
 (IntKind.i32.wrap (↑((XA l0).data.toList.getD (Int.toNat 0) 0).toNat:Int))]) fun r35=>Z6 r35 fun b36=>bc b36 (gd (true&&decide (1≤(↑(XA l0).size:Int))&&true)
 (gd (true&&decide (1≤(↑(XA l0).size:Int))&&decide ((↑(XA l0).size:Int)≤(↑(XA l0).size:Int))&&true) (Za (O.loop 32 1000000 [V.vec Mode.grow (some
 2) [V.agg [V.int 1,V.str ((XA l0).extract 0 1)]],V.str ((XA l0).extract 1 (↑(XA l0).size:Int).toNat),V.vec .plain (some 2) [],V.int 0] []) fun r37=>Jp r37.fst
 (Zy r37.snd.fst fun v38 c39=>Ys (some 2) v38 fun l40=>Zy c39 fun v41 c42=>Z2 v41 fun n43=>Zs c42 (gd (below 0 (V.tup [V.vec .plain (some 2) l40,V.int
 n43])&&ZO 0 []) (some (Out.ret (V.tup [V.vec .plain (some 2) l40,V.int n43]),[])))) (Zy r37.snd.fst fun v44 c45=>Ys (some 2) v44 fun l46=>Zy c45 fun v47
 c48=>Z2 v47 fun n49=>Zs c48 (gd (below 0 (V.tup [V.vec .plain (some 2) l46,V.int n49])&&ZO 0 []) (some (Out.ret (V.tup [V.vec .plain (some 2) l46,V.int n49]),
 [])))) (fun i50=>none) fun v51=>none))) (Za (ZD O 60 [V.ik IntKind.i32 (IntKind.i32.wrap (↑((XA l0).data.toList.getD (Int.toNat 0) 0).toNat:Int))]) fun r52
 =>Z6 r52 fun b53=>bc b53 (Za (ZD O 61 [V.str (XA l0)]) fun r54=>Z2 r54 fun n55=>gd (true&&decide (0≤n55)&&decide (n55≤(↑(XA l0).size:
 Int))&&true) (gd (decide (0≤n55)&&decide (n55≤(↑(XA l0).size:Int))&&decide ((↑(XA l0).size:Int)≤(↑(XA l0).size:Int))&&true) (Za (O.loop 32
 1000000 [V.vec Mode.grow (some 2) [V.agg [V.int 0,V.str ((XA l0).extract 0 n55.toNat)]],V.str ((XA l0).extract n55.toNat (↑(XA l0).size:Int).toNat),V.vec .plain (some
 2) [],V.int 0] []) fun r56=>Jp r56.fst (Zy r56.snd.fst fun v57 c58=>Ys (some 2) v57 fun l59=>Zy c58 fun v60 c61=>Z2 v60 fun n62=>Zs c61 (gd (below 0
 (V.tup [V.vec .plain (some 2) l59,V.int n62])&&ZO 0 []) (some (Out.ret (V.tup [V.vec .plain (some 2) l59,V.int n62]),[])))) (Zy r56.snd.fst fun v63 c64=>Ys
 (some 2) v63 fun l65=>Zy c64 fun v66 c67=>Z2 v66 fun n68=>Zs c67 (gd (below 0 (V.tup [V.vec .plain (some 2) l65,V.int n68])&&ZO 0 []) (some (Out.ret (V.tup
 [V.vec .plain (some 2) l65,V.int n68]),[])))) (fun i69=>none) fun v70=>none))) (some (Out.ret (V.tup [V.vec .plain (some 2) [],V.int 8]),[]))))))))):=by kernel_rfl
theorem ZX(O:Oracle)(l0:(List V))(s1:ByteArray)(l2:(List V))(n3:Int):ZY Tryd.prog cfg O 32 1000000 [.vec .grow (some 2) l0, .str s1, .vec .plain (some 2) l2, .int n3] []=
 bc (s1.toList==[]) (some (Ex.ret,[V.vec .plain (some 2) l0,V.int 0],[])) (gd (true&&decide (0<(↑s1.size:Int))) (Za (ZD O 57 [V.ik IntKind.i32
 (IntKind.i32.wrap (↑(s1.data.toList.getD (Int.toNat 0) 0).toNat:Int))]) fun r1=>Z6 r1 fun b2=>bc b2 (gd (true&&decide (1≤(↑s1.size:Int))&&decide ((↑s1.size:
 Int)≤(↑s1.size:Int))&&true) (O.2 32 1000000 [V.vec Mode.grow (some 2) l0,V.str (s1.extract 1 (↑s1.size:Int).toNat),V.vec .plain (some 2) l2,V.int n3] [])) (bc
 (IntKind.i32.wrap (↑(s1.data.toList.getD (Int.toNat 0) 0).toNat:Int)==37) (Za (ZD O 58 [V.str s1]) fun r3=>Z2 r3 fun n4=>gd (decide (0≤n4)&&decide (n4
 ≤(↑s1.size:Int))&&decide ((↑s1.size:Int)≤(↑s1.size:Int))&&true) (O.2 32 1000000 [V.vec Mode.grow (some 2) l0,V.str (s1.extract n4.toNat (↑s1.size:
 Int).toNat),V.vec .plain (some 2) l2,V.int n3] [])) (Za (ZD O 59 [V.str {data:= #[40,41,91,93,123,125,58,46]},V.ik IntKind.i32
 (IntKind.i32.wrap (↑(s1.data.toList.getD (Int.toNat 0) 0).toNat:Int))]) fun r5=>Z6 r5 fun b6=>bc b6 (gd (true&&decide (1≤(↑s1.size:Int))&&true) (gd (true&&
 roomFor Tryd.prog 58 (l0.length+[V.agg [V.int 1,V.str (s1.extract 0 1)]].length)) (gd (true&&decide (1≤(↑s1.size:Int))&&decide ((↑s1.size:Int)≤(↑s1.size:
 Int))&&true) (O.2 32 1000000 [V.vec Mode.grow (some 2) (l0++[V.agg [V.int 1,V.str (s1.extract 0 1)]]),V.str (s1.extract 1 (↑s1.size:Int).toNat),V.vec .plain
 (some 2) l2,V.int n3] [])))) (Za (ZD O 60 [V.ik IntKind.i32 (IntKind.i32.wrap (↑(s1.data.toList.getD (Int.toNat 0) 0).toNat:Int))]) fun r7=>Z6 r7 fun b8=>
 bc b8 (Za (ZD O 61 [V.str s1]) fun r9=>Z2 r9 fun n10=>gd (true&&decide (0≤n10)&&decide (n10≤(↑s1.size:Int))&&true) (gd (true&&roomFor Tryd.prog
 58 (l0.length+[V.agg [V.int 0,V.str (s1.extract 0 n10.toNat)]].length)) (gd (decide (0≤n10)&&decide (n10≤(↑s1.size:Int))&&decide ((↑s1.size:Int)≤
 (↑s1.size:Int))&&true) (O.2 32 1000000 [V.vec Mode.grow (some 2) (l0++[V.agg [V.int 0,V.str (s1.extract 0 n10.toNat)]]),V.str (s1.extract n10.toNat (↑s1.size:
 Int).toNat),V.vec .plain (some 2) l2,V.int n3] [])))) (some (Ex.ret,[V.vec .plain (some 2) [],V.int 8],[]))))))):=by kernel_rfl
theorem zld(O:Oracle)(l0:(List V)):Ze Tryd.prog cfg O 25 [.vec .plain (some 2) l0] []=
 Za (O.loop 25 4 [V.int 0,V.vec Mode.grow none [],V.int 1,V.vec .plain (some 2) l0,V.int (↑l0.length:Int)] []) fun r1=>Jp r1.fst none none (fun i2=>bc
 (i2.beq 0) (Zy r1.snd.fst fun v3 c4=>XF none v3 fun l5=>Zs c4 (gd (below 0 (V.vec .plain none l5)&&ZO 0 []) (some (Out.ret (V.vec .plain none l5),[]))))
 none) fun v6=>none:=by kernel_rfl
theorem zdc(O:Oracle)(n0:Int)(l1:(List V))(n2:Int)(l3:(List V))(n4:Int):ZY Tryd.prog cfg O 25 4 [.int n0, .vec .grow none l1, .int n2, .vec .plain (some 2) l3, .int n4] []=
 bc (decide (n0<n4)) (gd (decide (0≤n0)&&decide (n0<(↑l3.length:Int))) (Zg [CT.int,CT.str] (YR l3 n0) fun n1 s2=>bc (n1==0) (bc (n2==0) (gd (true&&
 roomFor Tryd.prog 5 (l1.length+1)) (gd (true&&roomFor Tryd.prog 5 ((l1++[V.ik IntKind.u8 32]).length+(Xm s2).length)) (O.2 25 4 [V.int
 (IntKind.i64.wrap (n0+1)),V.vec Mode.grow none (l1++[V.ik IntKind.u8 32]++Xm s2),V.int n1,V.vec .plain (some 2) l3,V.int n4] []))) (gd (true&&roomFor Tryd.prog
 5 (l1.length+(Xm s2).length)) (O.2 25 4 [V.int (IntKind.i64.wrap (n0+1)),V.vec Mode.grow none (l1++Xm s2),V.int n1,V.vec .plain (some 2) l3,
 V.int n4] []))) (gd (true&&roomFor Tryd.prog 5 (l1.length+(Xm s2).length)) (O.2 25 4 [V.int (IntKind.i64.wrap (n0+1)),V.vec Mode.grow none (l1++Xm
 s2),V.int n1,V.vec .plain (some 2) l3,V.int n4] [])))) (some (Ex.exit 0,[V.vec Mode.grow none l1],[])):=by kernel_rfl
theorem zjT(O:Oracle)(n0:Int):Ze Tryd.prog cfg O 57 [.ik .i32 n0] []=
 bc (n0==32) (some (Out.ret (V.bool true),[])) (bc (n0==9) (some (Out.ret (V.bool true),[])) (some (Out.ret (V.bool (n0==10)),[]))):=by kernel_rfl
theorem zle(O:Oracle)(s0:ByteArray):Ze Tryd.prog cfg O 58 [.str s0] []=
 Za (ZD O 68 [V.str s0,V.ik IntKind.u8 10]) fun r1=>Z2 r1 fun n2=>bc (decide (n2≥0)) (some (Out.ret (V.int n2),[])) (some (Out.ret (V.int
 (↑s0.size:Int)),[])):=by kernel_rfl
theorem zjU(O:Oracle)(n0:Int):Ze Tryd.prog cfg O 60 [.ik .i32 n0] []=
 bc (decide (n0≥97)) (bc (decide (n0≤122)) (some (Out.ret (V.bool true),[])) (bc (decide (n0≥65)) (bc (decide (n0≤90)) (some (Out.ret (V.bool true),[])) (bc (decide (n0≥
 48)) (bc (decide (n0≤57)) (some (Out.ret (V.bool true),[])) (bc (n0==95) (some (Out.ret (V.bool true),[])) (some (Out.ret (V.bool (n0==39)),[])))) (bc (n0==95) (some
 (Out.ret (V.bool true),[])) (some (Out.ret (V.bool (n0==39)),[]))))) (bc (decide (n0≥48)) (bc (decide (n0≤57)) (some (Out.ret (V.bool true),[])) (bc (n0==95) (some
 (Out.ret (V.bool true),[])) (some (Out.ret (V.bool (n0==39)),[])))) (bc (n0==95) (some (Out.ret (V.bool true),[])) (some (Out.ret (V.bool (n0==39)),[])))))) (bc (decide
 (n0≥65)) (bc (decide (n0≤90)) (some (Out.ret (V.bool true),[])) (bc (decide (n0≥48)) (bc (decide (n0≤57)) (some (Out.ret (V.bool true),[])) (bc (n0==95) (some (Out.ret
 (V.bool true),[])) (some (Out.ret (V.bool (n0==39)),[])))) (bc (n0==95) (some (Out.ret (V.bool true),[])) (some (Out.ret (V.bool (n0==39)),[]))))) (bc (decide (n0≥48))
 (bc (decide (n0≤57)) (some (Out.ret (V.bool true),[])) (bc (n0==95) (some (Out.ret (V.bool true),[])) (some (Out.ret (V.bool (n0==39)),[])))) (bc (n0==95) (some
 (Out.ret (V.bool true),[])) (some (Out.ret (V.bool (n0==39)),[]))))):=by kernel_rfl
theorem zlf(O:Oracle)(s0:ByteArray):Ze Tryd.prog cfg O 61 [.str s0] []=
 Za (O.loop 61 2 [V.str s0,V.ref 0 0] [Res.iter s0 0]) fun r1=>Jp r1.fst none (Zy r1.snd.fst fun v2 c3=>Z2 v2 fun n4=>Zs c3 (some (Out.ret (V.int n4),
 []))) (fun i5=>bc (i5.beq 0) (Zy r1.snd.fst fun v6 c7=>YW v6 fun s8=>Zs c7 (some (Out.ret (V.int (↑s8.size:Int)),[]))) none) fun v9=>none:=by kernel_rfl
theorem za3(O:Oracle)(s0 t:ByteArray)(p:Nat):ZY Tryd.prog cfg O 61 2 [.str s0, .ref 0 0] [.iter t p]=
 bc (decide (p<t.size)) (Za (ZD O 60 [V.ik IntKind.i32 (↑(Utf8.decode t p).fst:Int)]) fun r1=>Z6 r1 fun b2=>bc (!b2) (some (Ex.ret,[V.int (↑p:Int)],
 [Res.iter t (p+(Utf8.decode t p).snd)])) (O.2 61 2 [V.str s0,V.ref 0 0] [Res.iter t (p+(Utf8.decode t p).snd)])) (some (Ex.exit 0,[V.str s0],[Res.iter t p])):=by kernel_rfl
theorem zcC(O:Oracle)(s0:ByteArray)(n1:Int):Ze Tryd.prog cfg O 68 [.str s0, .ik .u8 n1] []=
 Za (ZD O 78 [V.str s0,V.ik IntKind.u8 n1]) fun r1=>Z2 r1 fun n2=>some (Out.ret (V.int n2),[]):=by kernel_rfl
theorem Q7(O:Oracle)(s0:ByteArray)(n1:Int):Ze Tryd.prog cfg O 78 [.str s0, .ik .u8 n1] []=
 Za (gd true (some (V.int (firstIdx s0 n1.toNat.toUInt8)))) fun r1=>Z2 r1 fun n2=>some (Out.ret (V.int n2),[]):=by kernel_rfl
end Go.Proofs.SW
namespace Go.Proofs.SW
open Go Go.AM Go.Ama
theorem QN(b:UInt8):((b.toNat:Int)==32||((b.toNat:Int)==9||(b.toNat:Int)==10))=Ama.blank b:=
 zea (p:=fun b=>((b.toNat:Int)==32||((b.toNat:Int)==9||(b.toNat:Int)==10))=Ama.blank b) (by decide+kernel) b
theorem zmW(b:UInt8):IntKind.i32.wrap (b.toNat:Int)=b.toNat:=
 zea (p:=fun b=>IntKind.i32.wrap (b.toNat:Int)=b.toNat) (by decide+kernel) b
theorem Q8(b:UInt8):((b.toNat:Int)==37)=(b==37):=
 zea (p:=fun b=>((b.toNat:Int)==37)=(b==37)) (by decide+kernel) b
theorem QO(c:Int):Ev 57 [.ik .i32 c] (.bool (c==32||(c==9||c==10))):=by
 unfold Ev
 rw[C,zjT]
 cases h1:(c==32)<;>cases h2:(c==9)<;>rfl
def zeJ(c:Int):Bool:=(decide (c≥97)&&decide (c≤122))||(decide (c≥65)&&decide (c≤90))||(decide (c≥48)&&decide (c≤57))||c==95||c==39
theorem JT(c:Int):Ev 60 [.ik .i32 c] (.bool (zeJ c)):=by
 unfold Ev zeJ
 rw[C,zjU]
 generalize decide (c≥97)=a1
 generalize decide (c≤122)=a2
 generalize decide (c≥65)=a3
 generalize decide (c≤90)=a4
 generalize decide (c≥48)=a5
 generalize decide (c≤57)=a6
 generalize(c==95)=a7
 generalize(c==39)=a8
 cases a1<;>cases a2<;>cases a3<;>cases a4<;>cases a5<;>cases a6<;>cases a7<;>cases a8<;>rfl
theorem JU(b:UInt8):zeJ (b.toNat:Int)=named b:=
 zea (p:=fun b=>zeJ (b.toNat:Int)=named b) (by decide+kernel) b
theorem zfr{c:Int}(h:128≤c):zeJ c=false:=by
 have h1: ¬c≤122:=by omega
 have h2: ¬c≤90:=by omega
 have h3: ¬c≤57:=by omega
 have h4:(c==95)=false:=by simp;omega
 have h5:(c==39)=false:=by simp;omega
 simp[zeJ,h1,h2,h3,h4,h5]
theorem zlg{b:UInt8}(h:128≤b):named b=false:=by
 rw[←JU];exact zfr (by
                      have:128≤b.toNat:=by simpa[UInt8.le_iff_toNat_le]using h
                      omega)
theorem zhD(s:ByteArray)(l:Bytes): ∀k p,p+k=l.length→ ∃st',W.loop 61 2 [.str s, .ref 0 0] [.iter (ba l) p]=some (if(l.drop p).all named then(Ex.exit 0,[V.str s],st')else(Ex.ret,[V.int ((p+((l.drop p).takeWhile named).length:Nat):Int)],st'))
 |0,p,h=>by
  refine⟨[.iter (ba l) p], ?_⟩
  rw[L,za3]
  have:l.drop p=[]:=by rw[List.drop_eq_nil_iff];omega
  have h2: ¬p<l.length:=by omega
  simp[this,Xl,h2,bc]
 |k+1,p,h=>by
  have hp:p<l.length:=by omega
  obtain⟨st',ih⟩:=zhD s l k (p+1) (by omega)
  have hd:l.drop p=l[p]::l.drop (p+1):=List.drop_eq_getElem_cons hp
  have hsz:decide (p<(ba l).size)=true:=by rw[Xl];simpa using hp
  by_cases h8:l[p]<128
  ·rw[L,za3,zmU hp h8,hsz]
   simp only[(JT _).p,JU,hd,List.all_cons,List.takeWhile_cons]
   cases hn:named l[p]with
   |true=>
    refine⟨st', ?_⟩
    show W.loop _ _ _ _=_
    rw[ih]
    cases(l.drop (p+1)).all named
    ·simp;omega
    ·simp
   |false=>exact⟨[.iter (ba l) (p+1)],by simp[bc]⟩
  ·have h8':128≤l[p]:=by
    rw[UInt8.lt_iff_toNat_lt]at h8
    rw[UInt8.le_iff_toNat_le]
    simpa using h8
   have hge:=zmV hp h8'
   refine⟨[.iter (ba l) (p+(Utf8.decode (ba l) p).2)], ?_⟩
   rw[L,za3,hsz]
   simp only[(JT _).p,zfr (c:=((Utf8.decode (ba l) p).1:Int)) (by omega),hd,List.all_cons,List.takeWhile_cons,zlg h8']
   simp[bc]
theorem zeK{p:UInt8→Bool}{l:Bytes}(h:l.all p=true):l.takeWhile p=l:=by
 induction l with
 |nil=>rfl
 |cons x l ih=>simp only[List.all_cons,Bool.and_eq_true]at h;simp[List.takeWhile_cons,h.1,ih h.2]
theorem zhE(l:Bytes):Ev 61 [.str (ba l)] (.int (l.takeWhile named).length):=by
 unfold Ev
 rw[C,zlf]
 obtain⟨st',h⟩:=zhD (ba l) l l.length 0 (by omega)
 rw[h,List.drop_zero]
 cases ha:l.all named with
 |true=>simp[zeK ha,Xl,bc]
 |false=>simp
theorem zgs: ∀l:Bytes,Lib.indexByte l 10=if(l.takeWhile Yz).length<l.length then((l.takeWhile Yz).length:Int)else-1
 |[]=>rfl
 |c::l=>by
  rw[Lib.indexByte,zgs l]
  cases h:(c==10)with
  |true=>simp[List.takeWhile_cons,Yz,bne,h]
  |false=>
   have hi:Yz c=true:=by simp[Yz,bne,h]
   simp only[List.takeWhile_cons,hi,if_true,List.length_cons]
   by_cases hl:(l.takeWhile Yz).length<l.length
   ·have h2:((((l.takeWhile Yz).length:Nat):Int)== -1)=false:=by simp
    rw[if_pos hl,h2,if_pos (Nat.succ_lt_succ hl)]
    simp
   ·rw[if_neg hl,if_neg (fun h=>hl (Nat.lt_of_succ_lt_succ h))];rfl
theorem zhF(l:Bytes):Ev 58 [.str (ba l)] (.int (l.takeWhile Yz).length):=by
 have h1:Ev 78 [.str (ba l), .ik .u8 10] (.int (Lib.indexByte l 10)):=by
  unfold Ev
  rw[C,Q7,Lib.firstIdx_eq,zp2]
  rfl
 have h2:Ev 68 [.str (ba l), .ik .u8 10] (.int (Lib.indexByte l 10)):=by
  unfold Ev
  rw[C,zcC,h1.p]
  rfl
 unfold Ev
 rw[C,zle,h2.p,zgs]
 have h3:=YO Yz l
 by_cases h:(l.takeWhile Yz).length<l.length
 ·have h4:((l.takeWhile Yz).length:Int)≥0:=by omega
  simp[h,h4,bc]
 ·have h4:(l.takeWhile Yz).length=l.length:=by omega
  simp[h4,bc,Xl]
theorem zjV: ∀n:Fin 32,JS 12 59 [.str (ba [40,41,91,93,123,125,58,46]), .ik .i32 ((UInt8.ofNat (n.val+0)).toNat:Int)]=some (Ama.mark (UInt8.ofNat (n.val+0))):=by decide+kernel
theorem zjW: ∀n:Fin 32,JS 12 59 [.str (ba [40,41,91,93,123,125,58,46]), .ik .i32 ((UInt8.ofNat (n.val+32)).toNat:Int)]=some (Ama.mark (UInt8.ofNat (n.val+32))):=by decide+kernel
theorem zjX: ∀n:Fin 32,JS 12 59 [.str (ba [40,41,91,93,123,125,58,46]), .ik .i32 ((UInt8.ofNat (n.val+64)).toNat:Int)]=some (Ama.mark (UInt8.ofNat (n.val+64))):=by decide+kernel
theorem zjY: ∀n:Fin 32,JS 12 59 [.str (ba [40,41,91,93,123,125,58,46]), .ik .i32 ((UInt8.ofNat (n.val+96)).toNat:Int)]=some (Ama.mark (UInt8.ofNat (n.val+96))):=by decide+kernel
theorem zjZ: ∀n:Fin 32,JS 12 59 [.str (ba [40,41,91,93,123,125,58,46]), .ik .i32 ((UInt8.ofNat (n.val+128)).toNat:Int)]=some (Ama.mark (UInt8.ofNat (n.val+128))):=by decide+kernel
theorem zka: ∀n:Fin 32,JS 12 59 [.str (ba [40,41,91,93,123,125,58,46]), .ik .i32 ((UInt8.ofNat (n.val+160)).toNat:Int)]=some (Ama.mark (UInt8.ofNat (n.val+160))):=by decide+kernel
theorem zkb: ∀n:Fin 32,JS 12 59 [.str (ba [40,41,91,93,123,125,58,46]), .ik .i32 ((UInt8.ofNat (n.val+192)).toNat:Int)]=some (Ama.mark (UInt8.ofNat (n.val+192))):=by decide+kernel
theorem zkc: ∀n:Fin 32,JS 12 59 [.str (ba [40,41,91,93,123,125,58,46]), .ik .i32 ((UInt8.ofNat (n.val+224)).toNat:Int)]=some (Ama.mark (UInt8.ofNat (n.val+224))):=by decide+kernel
theorem ziK(m:Nat)(hm:m<256):JS 12 59 [.str (ba [40,41,91,93,123,125,58,46]), .ik .i32 ((UInt8.ofNat m).toNat:Int)]=some (Ama.mark (UInt8.ofNat m)):=by
 by_cases h0:m<32
 ·have:=zjV ⟨m-0,by omega⟩
  simp only[show m-0+0=m by omega]at this
  exact this
 by_cases h1:m<64
 ·have:=zjW ⟨m-32,by omega⟩
  simp only[show m-32+32=m by omega]at this
  exact this
 by_cases h2:m<96
 ·have:=zjX ⟨m-64,by omega⟩
  simp only[show m-64+64=m by omega]at this
  exact this
 by_cases h3:m<128
 ·have:=zjY ⟨m-96,by omega⟩
  simp only[show m-96+96=m by omega]at this
  exact this
 by_cases h4:m<160
 ·have:=zjZ ⟨m-128,by omega⟩
  simp only[show m-128+128=m by omega]at this
  exact this
 by_cases h5:m<192
 ·have:=zka ⟨m-160,by omega⟩
  simp only[show m-160+160=m by omega]at this
  exact this
 by_cases h6:m<224
 ·have:=zkb ⟨m-192,by omega⟩
  simp only[show m-192+192=m by omega]at this
  exact this
 have:=zkc ⟨m-224,by omega⟩
 simp only[show m-224+224=m by omega]at this
 exact this
theorem Jb(c:UInt8):Ev 59 [.str (ba [40,41,91,93,123,125,58,46]), .ik .i32 (c.toNat:Int)] (.bool (Ama.mark c)):=by
 have h:=ziK c.toNat c.toNat_lt
 have e:UInt8.ofNat c.toNat=c:=by simp
 simp only[e]at h
 exact Ev.of_check h
end Go.Proofs.SW
namespace Go.Proofs.SW
open Go Go.AM Go.Ama
theorem zaM{n:Nat}(h:n≤1048576):roomFor Tryd.prog 58 n=true:=by
 have:((Tryd.prog.info? 58).map (·.bytes)).getD 0=24:=by kernel_rfl
 unfold roomFor
 rw[this]
 simp only[Bool.and_eq_true,decide_eq_true_eq]
 omega
theorem zmX{n:Nat}(h:n≤10485760):roomFor Tryd.prog 5 n=true:=by
 have:((Tryd.prog.info? 5).map (·.bytes)).getD 0=1:=by kernel_rfl
 unfold roomFor
 rw[this]
 simp only[Bool.and_eq_true,decide_eq_true_eq]
 omega
def Jm(acc:List Tok):Option (List Tok)→Ex×List V×St
 |some t=>(Ex.ret,[V.vec .plain (some 2) (Zj (acc++t)),V.int 0],[])
 |none=>(Ex.ret,[V.vec .plain (some 2) [],V.int 8],[])
theorem Qx(c:UInt8)(r:Bytes):((ba (c::r)).toList==[])=false:=by rw[JA];rfl
theorem zaN(c:UInt8)(r:Bytes):IntKind.i32.wrap (((ba (c::r)).data.toList.getD (Int.toNat 0) 0).toNat:Int)=c.toNat:=by rw[zp2];exact zmW c
theorem zf7(l:Bytes)(n:Nat):(ba l).extract n ((ba l).size:Int).toNat=ba (l.drop n):=by
 rw[zdu,Xl,Int.toNat_natCast,List.take_length]
theorem zof(l:Bytes)(n:Nat):(ba l).extract n l.length=ba (l.drop n):=by rw[zdu,List.take_length]
theorem zlV(l:Bytes)(n:Nat):(ba l).extract 0 n=ba (l.take n):=by rw[zdu,List.drop_zero]
theorem take_takeWhile{p:UInt8→Bool}: ∀l:Bytes,l.take (l.takeWhile p).length=l.takeWhile p∧l.drop (l.takeWhile p).length=l.dropWhile p
 |[]=>⟨rfl,rfl⟩
 |c::l=>by
  obtain⟨h1,h2⟩:=take_takeWhile (p:=p) l
  rw[List.takeWhile_cons,List.dropWhile_cons]
  split<;>simp[h1,h2]
theorem J0{p:UInt8→Bool}(l:Bytes):(l.takeWhile p).length≤l.length:=by have:=YO p l;omega
theorem zc7:V.str {data:= #[40,41,91,93,123,125,58,46]}=V.str (ba [40,41,91,93,123,125,58,46]):=rfl
theorem zkd: ∀(b:Bytes) (acc:List Tok) (l2:List V) (n3:Int),acc.length+b.length≤20000→
  W.loop 32 1000000 [.vec .grow (some 2) (Zj acc), .str (ba b), .vec .plain (some 2) l2, .int n3] []=some (Jm acc (Xi b)):=by
 refine zeI ?_ ?_ ?_ ?_ ?_ ?_
 ·intro acc l2 n3 _
  rw[L,ZX,zbX,JA]
  simp[Jm]
 ·intro c r hc ih acc l2 n3 hl
  simp only[List.length_cons]at hl
  have ih:=ih acc l2 n3 (by omega)
  rw[L,ZX,zbo r hc,Qx,zaN,(QO _).p,QN,hc,zf7,←ih]
  simp(disch:=omega) [Xl]
 ·intro r ih acc l2 n3 hl
  simp only[List.length_cons]at hl
  have hd:=ZW Yz r
  have ih:=ih acc l2 n3 (by omega)
  have ht:=J0 (p:=Yz) (37::r)
  rw[L,ZX,zeH r rfl,Qx,zaN,(QO _).p,QN,Q8,(zhF _).p,←ih]
  have h3:(37::r).dropWhile Yz=r.dropWhile Yz:=by simp[List.dropWhile_cons,Yz]
  have h4:Ama.blank 37=false:=by decide
  rw[List.length_cons]at ht
  simp(disch:=omega)only[YL,Zb,Zr,h4,Int.toNat_natCast,zf7,(take_takeWhile (37::r)).2,h3,Xl,List.length_cons,zbV,zbW,ZU,Zi,Zo,beq_self_eq_true]
  rw[show r.length+1=(37::r:Bytes).length from rfl,zof,(take_takeWhile (37::r)).2,h3]
 ·intro c r hc ih acc l2 n3 hl
  simp only[List.length_cons]at hl
  have ih:=ih (acc++[(1,[c])]) l2 n3 (by simp;omega)
  obtain⟨h7,h8,_⟩:=zdt hc
  rw[L,ZX,zc5 r hc,Qx,zaN,(QO _).p,QN,Q8,h7,h8,zc7,(Jb c).p,hc,zf7,zlV]
  have he:Zj acc++[V.agg [V.int 1,V.str (ba [c])]]=Zj (acc++[(1,[c])]):=by rw[Q6];rfl
  have hend:Jm acc ((Xi r).map ((1,[c]):: ·))=Jm (acc++[(1,[c])]) (Xi r):=by cases Xi r<;>simp[Jm]
  rw[hend,←ih]
  simp(disch:=omega) [he,Xl,zaM]
 ·intro c r hc ih acc l2 n3 hl
  simp only[List.length_cons]at hl
  have hd:=ZW named r
  have ih:=ih (acc++[(0,c::r.takeWhile named)]) l2 n3 (by simp;omega)
  obtain⟨h7,h8,h9,_⟩:=zfp hc
  have ht:=J0 (p:=named) r
  have h10:(c::r).dropWhile named=r.dropWhile named:=by simp[List.dropWhile_cons,hc]
  have h11:(c::r).takeWhile named=c::r.takeWhile named:=by simp[List.takeWhile_cons,hc]
  have h12:=take_takeWhile (p:=named) (c::r)
  rw[h10,h11]at h12
  have he:Zj acc++[V.agg [V.int 0,V.str (ba (c::r.takeWhile named))]]=Zj (acc++[(0,c::r.takeWhile named)]):=by rw[Q6];rfl
  have hend:Jm acc ((Xi (r.dropWhile named)).map ((0,c::r.takeWhile named):: ·))=Jm (acc++[(0,c::r.takeWhile named)]) (Xi (r.dropWhile named)):=by cases Xi (r.dropWhile named)<;>simp[Jm]
  rw[L,ZX,zc6 r hc,Qx,zaN,(QO _).p,QN,Q8,h7,h8,zc7,(Jb c).p,h9,(JT _).p,JU,hc,(zhE _).p,h11,hend,←ih]
  simp only[YL,Zb,Zr,Zi,Zo,zbV,ZU,Int.toNat_natCast,zf7,zlV,h12.1,h12.2,he,Xl,List.length_cons,Xs]
  simp(disch:=omega)only[zbW,zaM,List.length_cons,List.length_nil,ZU]
  rw[show r.length+1=(c::r).length from rfl,show(r.takeWhile named).length+1=(c::r.takeWhile named).length from rfl,zof,h12.1,h12.2,he]
 ·intro c r h1' h2' h3' h4' acc l2 n3 hl
  rw[L,ZX,zeb r h1' h2' h3' h4',Qx,zaN,(QO _).p,QN,Q8,h1',h2',zc7,(Jb c).p,h3',(JT _).p,JU,h4']
  simp(disch:=omega) [Xl,Jm]
def zgt(b:Bytes):Option (List Tok)×Int:=if b.length>20000 then(none,4)else match Xi b with|some l=>(some l,0)|none=>(none,8)
def ziL(x:Option (List Tok)×Int):V:= .tup [.vec .plain (some 2) (Zj (x.1.getD [])), .int x.2]
theorem zpK(l:Bytes):List.all (XY l) zgK=true:=zmT l
theorem zmY(l:List Tok)(n:Int):below 0 (V.tup [V.vec .plain (some 2) (Zj l),V.int n])=true:=by simp[below,Zu,Ja]
theorem zke(b:Bytes)(hb:b.length≤1048576):Ev 32 [.vec .plain none (XY b)] (ziL (zgt b)):=by
 unfold Ev zgt ziL
 rw[C,ziJ,zam,zmS,zpK]
 by_cases hl:b.length>20000
 ·simp(disch:=omega) [hl,Zj]
 ·have hl':b.length≤20000:=by omega
  rw[zoc (by omega),ZU,if_neg hl]
  have h0:=zkd b [] [] 0 (by simpa using hl')
  rw[L]at h0
  cases b with
  |nil=>rw[JA,zbX];rfl
  |cons c r=>
   rw[ZX]at h0
   rw[Qx]at h0⊢
   simp only[Zi]at h0⊢
   revert h0
   simp only[zaN,(QO _).p,QN,Q8,(zhF _).p,zc7,(Jb c).p,(JT _).p,JU,(zhE _).p,Zb,Zr,YL]
   have fin: ∀(z:Option (Ex×List V×St)),z=some (Jm [] (Xi (c::r)))→(Za z fun r3=>
     Jp r3.fst (Zy r3.snd.fst fun v4 c5=>Ys (some 2) v4 fun l6=>Zy c5 fun v7 c8=>Z2 v7 fun n9=>Zs c8 (gd (below 0 (V.tup [V.vec .plain (some 2) l6,V.int n9])) (gd (ZO 0 []) (some (Out.ret (V.tup [V.vec .plain (some 2) l6,V.int n9]),([]:St))))))
      (Zy r3.snd.fst fun v10 c11=>Ys (some 2) v10 fun l12=>Zy c11 fun v13 c14=>Z2 v13 fun n15=>Zs c14 (gd (below 0 (V.tup [V.vec .plain (some 2) l12,V.int n15])) (gd (ZO 0 []) (some (Out.ret (V.tup [V.vec .plain (some 2) l12,V.int n15]),[])))))
      (fun i16=>none) fun v17=>none)=some (Out.ret (V.tup [V.vec .plain (some 2) (Zj ((match Xi (c::r)with|some l=>(some l,(0:Int))|none=>(none,8)).1.getD [])),V.int (match Xi (c::r)with|some l=>(some l,(0:Int))|none=>(none,8)).2]),[]):=by
    intro z hz
    subst hz
    cases Xi (c::r)with
    |none=>simp[Jm,Zj,below,Zu,ZO]
    |some t=>
     have:=zmY t 0
     simp only[Jm,List.nil_append,Zb,zoa,Qw,Y6,YL,Ye,this,ZO,Bool.and_self,ZU]
     rfl
   intro h0
   cases hb1:Ama.blank c with
   |true=>
    rw[hb1]at h0
    simp(disch:=omega)only[Zo,zbV,ZU,zbW,Xl,List.length_cons]at h0⊢
    exact fin _ h0
   |false=>
    rw[hb1]at h0
    simp only[Zi]at h0⊢
    cases hb2:(c==37)with
    |true=>
     rw[hb2]at h0
     have ht:=J0 (p:=Yz) (c::r)
     simp only[List.length_cons]at ht
     simp(disch:=omega)only[Zo,zbV,ZU,zbW,Xl,List.length_cons]at h0⊢
     exact fin _ h0
    |false=>
     rw[hb2]at h0
     simp only[Zi]at h0⊢
     cases hb3:Ama.mark c with
     |true=>
      rw[hb3]at h0
      simp(disch:=omega)only[Zo,zbV,ZU,zbW,Xl,List.length_cons,List.length_nil,Xs,zaM]at h0⊢
      exact fin _ h0
     |false=>
      rw[hb3]at h0
      simp only[Zi]at h0⊢
      cases hb4:named c with
      |true=>
       rw[hb4]at h0
       have ht:=J0 (p:=named) (c::r)
       simp only[List.length_cons]at ht
       simp(disch:=omega)only[Zo,zbV,ZU,zbW,Xl,List.length_cons,List.length_nil,Xs,zaM]at h0⊢
       exact fin _ h0
      |false=>
       rw[zeb r hb1 hb2 hb3 hb4]
       simp(disch:=omega)only[zbV,ZU,zbW,Xl,List.length_cons,Zi]
       rfl
end Go.Proofs.SW
namespace Go.Proofs.SW
open Go Go.AM Go.Ama
theorem zec{R:Type}(t:Tok)(K:Int→ByteArray→Option R):Zg (R:=R) [CT.int,CT.str] (za2 t) K=K t.1 (ba t.2):=rfl
theorem zhG(l:List Tok)(hl:ZT l+2*l.length≤1048576): ∀k i (acc:Bytes) (last:Int),i+k=l.length→acc.length+ZT (l.drop i)+2*(l.drop i).length≤10485760→
  W.loop 25 4 [.int (i:Nat), .vec .grow none (XY acc), .int last, .vec .plain (some 2) (Zj l), .int l.length] []=some (Ex.exit 0,[.vec .grow none (XY (acc++ZE last (l.drop i)))],[])
 |0,i,acc,last,h,_=>by
  rw[L,zdc,List.drop_eq_nil_iff.2 (by omega)]
  simp(disch:=omega) [ZE]
 |k+1,i,acc,last,h,hw=>by
  have hi:i<l.length:=by omega
  rw[List.drop_eq_getElem_cons hi]at hw⊢
  obtain⟨kd,s,ht⟩: ∃kd s,l[i]=(kd,s):=⟨_,_,rfl⟩
  rw[ht]at hw⊢
  simp only[ZT,List.length_cons]at hw
  have e:((i:Int)+1)=((i+1:Nat):Int):=by omega
  have ih:=fun acc h=>zhG l hl k (i+1) acc kd (by omega) h
  rw[L,zdc,Xs,ziI hi,ht]
  simp(disch:=omega)only[zob,zbV,zbW,ZU,zds,zec,zmR,List.length_append,List.length_cons,List.length_nil,zam,zmX,e]
  have e32:XY acc++[V.ik IntKind.u8 32]=XY (acc++[32]):=by rw[zfq];rfl
  simp only[e32,←zfq]
  have r0:=ih (acc++s) (by simp only[List.length_append];omega)
  have r1:=ih (acc++[32]++s) (by simp only[List.length_append,List.length_cons,List.length_nil];omega)
  by_cases h1:kd=0
  ·subst h1
   by_cases h2:last=0
   ·subst h2
    simp only[beq_self_eq_true,Zo]
    refine Eq.trans r1 ?_
    simp[ZE]
   ·simp(disch:=omega)only[beq_self_eq_true,Zo,zjQ]
    refine Eq.trans r0 ?_
    simp[ZE,h2]
  ·simp(disch:=omega)only[zjQ]
   refine Eq.trans r0 ?_
   simp[ZE,h1]
theorem zmZ(l:List Tok)(hl:ZT l+2*l.length≤1048576):Ev 25 [.vec .plain (some 2) (Zj l)] (.vec .plain none (XY (text l))):=by
 have h:=zhG l hl l.length 0 [] 1 (by omega) (by simp;omega)
 have h':W.loop 25 4 [.int 0, .vec .grow none [], .int 1, .vec .plain (some 2) (Zj l), .int l.length] []=some (Ex.exit 0,[.vec .grow none (XY (text l))],[]):=h
 unfold Ev
 rw[C,zld,Xs,h']
 simp[below,ZO,Ql]
end Go.Proofs.SW
namespace Go.Proofs.SW
open Go Go.AM
set_option maxRecDepth 20000
theorem zkf(O:Oracle)(n0:Int)(n1:Int)(l2:(List V))(l3:(List V)):Ze Tryd.prog cfg O 11 [.agg [.int n0, .int n1, .vec .plain (some 3) l2], .vec .plain (some 4) l3] []=
 Za (ZD O 16 [V.agg [V.int n0,V.int n1,V.vec .plain (some 3) l2]]) fun r1=>Z6 r1 fun b2=>bc (!b2) (some (Out.ret (V.tup [V.vec .plain none [],V.int 1]),
 [])) (Za (O.call 24 [V.ref 0 0,V.agg [V.int n0,V.int n1,V.vec .plain (some 3) l2],V.int 0] [Res.box [V.vec .plain (some 4) l3,V.vec Mode.full (some 2) [],
 V.int 0]]) fun r3=>Zk r3.fst (fun v4=>ZP v4 fun c5=>Zs c5 (ZH r3.snd 0 fun x6=>ZS x6 fun c7=>gd (decide (3≤c7.length)&&true) (Z2 (Zm (AM.partOf
 c7 2 none)) fun n8=>bc (n8 !=0) (ZH r3.snd 0 fun x9=>ZS x9 fun c10=>gd (decide (3≤c10.length)&&true) (Z2 (Zm (AM.partOf c10 2 none)) fun n11=>some
 (Out.ret (V.tup [V.vec .plain none [],V.int n11]),[]))) (ZH r3.snd 0 fun x12=>ZS x12 fun c13=>gd (decide (2≤c13.length)&&true) (Ys (some 2) (Zm (AM.partOf
 c13 1 none)) fun l14=>Za (ZD O 25 [V.vec .plain (some 2) l14]) fun r15=>Ys none r15 fun l16=>gd (below 0 (V.tup [V.vec .plain none l16,V.int 0])&&ZO
 0 []) (some (Out.ret (V.tup [V.vec .plain none l16,V.int 0]),[]))))))) fun p17=>none):=by kernel_rfl
theorem zb0(O:Oracle)(n0:Int)(l2:(List V))(l3:(List V))(n4:Int)(es:List (V×V)):ZY Tryd.prog cfg O 13 3 [.int n0, .mp 0, .vec .plain (some 4) l2, .vec .plain (some 4) l3, .int n4] [.map .str .int es]=
 bc (decide (n0<n4)) (gd (decide (0≤n0)&&decide (n0<(↑l2.length:Int))) (Zg [CT.str,CT.int,CT.int,CT.slice (some 3)] (YR l2 n0) fun s1 n2 n3 l4=>Z2
 (YY es (V.str s1) (V.int 0)) fun n5=>O.2 13 3 [V.int (IntKind.i64.wrap (n0+1)),V.mp 0,V.vec .plain (some 4) l2,V.vec .plain (some 4) l3,V.int n4] [Res.map
 CT.str CT.int (XH es (V.str s1) (V.int (IntKind.i64.wrap (n5+1))))])) (some (Ex.exit 0,[V.vec .plain (some 4) l3,V.mp 0],[Res.map CT.str CT.int es])):=by kernel_rfl
theorem zdv(O:Oracle)(r0:Nat)(n1:Int)(n2:Int)(l3:(List V))(n4:Int)(st:St):Ze Tryd.prog cfg O 24 [.ref r0 0, .agg [.int n1, .int n2, .vec .plain (some 3) l3], .int n4] st=
 bc (n1==0) (Za (O.call 41 [V.ref r0 0,V.str {data:= #[116,121,112,101]}] st) fun r1=>Zk r1.fst (fun v2=>ZP v2 fun c3=>Zs c3 (Qb
 (List.length st) (V.tup []) r1.snd)) fun p4=>none) (bc (n1==1) (Za (O.call 42 [V.ref r0 0,V.str {data:= #[123]},V.str {data:= #[125]},V.fn
 43 [] [V.cptr none (V.ref r0 0),V.cptr none (V.int n4),V.cptr (some 3) (V.agg [V.int n1,V.int n2,V.vec .plain (some 3) l3])]] st) fun r5=>Zk r5.fst (fun
 v6=>ZP v6 fun c7=>Zs c7 (gd (true&&decide (1<(↑l3.length:Int))) (Zg [CT.int,CT.int,CT.slice (some 3)] (YR l3 1) fun n8 n9 l10=>Za (O.call
 24 [V.ref r0 0,V.agg [V.int n8,V.int n9,V.vec .plain (some 3) l10],V.int (IntKind.i64.wrap (n4+1))] r5.snd) fun r11=>Zk r11.fst (fun v12=>ZP v12
 fun c13=>Zs c13 (Qb (List.length st) (V.tup []) r11.snd)) fun p14=>none))) fun p15=>none) (bc (n1==3) (Za (O.call 42 [V.ref r0 0,V.str {data:=
 #[91]},V.str {data:= #[93]},V.fn 46 [] [V.cptr none (V.ref r0 0),V.cptr none (V.int n4)]] st) fun r16=>Zk r16.fst (fun v17=>ZP v17 fun c18=>
 Zs c18 (gd (true&&decide (0<(↑l3.length:Int))) (Zg [CT.int,CT.int,CT.slice (some 3)] (YR l3 0) fun n19 n20 l21=>Za (O.call 24 [V.ref r0 0,
 V.agg [V.int n19,V.int n20,V.vec .plain (some 3) l21],V.int (IntKind.i64.wrap (n4+1))] r16.snd) fun r22=>Zk r22.fst (fun v23=>ZP v23 fun c24=>Zs c24 (Qb
 (List.length st) (V.tup []) r22.snd)) fun p25=>none))) fun p26=>none) (Za (O.call 47 [V.ref r0 0,V.agg [V.int n1,V.int n2,V.vec .plain (some 3) l3],
 V.int n4] st) fun r27=>Zk r27.fst (fun v28=>ZP v28 fun c29=>Zs c29 (Za (O.loop 24 4 [V.int 0,V.loc false none (V.int n4),V.loc false none
 (V.ref r0 0),V.vec .plain (some 3) l3,V.int (↑l3.length:Int)] r27.snd) fun r30=>Jp r30.fst none none (fun i31=>bc (i31.beq 1) (Zs r30.snd.fst (Qb (List.length st)
 (V.tup []) r30.snd.snd)) none) fun v32=>none)) fun p33=>none))):=by kernel_rfl
theorem XB(O:Oracle)(n0:Int)(n1:Int)(r2:Nat)(l3:(List V))(n4:Int)(st:St):ZY Tryd.prog cfg O 24 4 [.int n0, .cptr none (.int n1), .cptr none (.ref r2 0), .vec .plain (some 3) l3, .int n4] st=
 bc (decide (n0<n4)) (gd (decide (0≤n0)&&decide (n0<(↑l3.length:Int))) (Zg [CT.int,CT.int,CT.slice (some 3)] (YR l3 n0) fun n1_1 n2 l3_1=>Za (ZD O
 48 [V.agg [V.int n1_1,V.int n2,V.vec .plain (some 3) l3_1]]) fun r4=>Z6 r4 fun b5=>bc b5 (Za (O.call 24 [V.ref r2 0,V.agg [V.int n1_1,
 V.int n2,V.vec .plain (some 3) l3_1],V.int n1] st) fun r6=>Zk r6.fst (fun v7=>ZP v7 fun c8=>Zs c8 (O.2 24 4 [V.int (IntKind.i64.wrap (n0+1)),
 V.cptr none (V.int n1),V.cptr none (V.ref r2 0),V.vec .plain (some 3) l3,V.int n4] r6.snd)) fun p9=>none) (Za (O.call 42 [V.ref r2 0,V.str {data:=
 #[40]},V.str {data:= #[41]},V.fn 49 [] [V.cptr none (V.ref r2 0),V.cptr (some 3) (V.agg [V.int n1_1,V.int n2,V.vec .plain (some 3) l3_1]),V.cptr none
 (V.int n1)]] st) fun r10=>Zk r10.fst (fun v11=>ZP v11 fun c12=>Zs c12 (O.2 24 4 [V.int (IntKind.i64.wrap (n0+1)),V.cptr none (V.int n1),V.cptr
 none (V.ref r2 0),V.vec .plain (some 3) l3,V.int n4] r10.snd)) fun p13=>none))) (some (Ex.exit 1,[],st)):=by kernel_rfl
theorem zdw(O:Oracle)(r0:Nat)(s1:ByteArray)(st:St):Ze Tryd.prog cfg O 41 [.ref r0 0, .str s1] st=
 ZH st r0 fun x1=>ZS x1 fun c2=>gd (decide (1<c2.length)&&true&&true) (Qz (some 2) (c2.getD 1 V.undef) (fun l3=>gd (true&&roomFor Tryd.prog 58
 (l3.length+[V.agg [V.int 0,V.str s1]].length)) (ZH (List.set st r0 (Res.box (c2.set 1 (V.vec .plain (some 2) l3)))) r0 fun x4=>ZS x4 fun c5=>gd (decide (2≤c5.length)
 &&true) (Qb (List.length st) (V.tup []) ((List.set st r0 (Res.box (c2.set 1 (V.vec .plain (some 2) l3)))).set r0 (Res.box (setCells c5 1 [V.vec Mode.grow (some 2) (l3++[V.agg
 [V.int 0,V.str s1]])])))))) fun l6=>gd (true&&roomFor Tryd.prog 58 (l6.length+[V.agg [V.int 0,V.str s1]].length)) (ZH (List.set st r0 (Res.box (c2.set 1 (V.vec
 .plain (some 2) l6)))) r0 fun x7=>ZS x7 fun c8=>gd (decide (2≤c8.length)&&true) (Qb (List.length st) (V.tup []) ((List.set st r0 (Res.box (c2.set 1 (V.vec .plain (some
 2) l6)))).set r0 (Res.box (setCells c8 1 [V.vec Mode.grow (some 2) (l6++[V.agg [V.int 0,V.str s1]])])))))):=by kernel_rfl
theorem zbY(O:Oracle)(r0:Nat)(s1:ByteArray)(s2:ByteArray)(g3:Nat)(l4:(List V))(l5:(List V))(st:St):Ze Tryd.prog cfg O 42 [.ref r0 0, .str s1, .str s2, .fn g3 l4 l5] st=
 Za (O.call 45 [V.ref r0 0,V.vec .plain none [V.str s1]] st) fun r1=>Zk r1.fst (fun v2=>ZP v2 fun c3=>Zs c3 (bc (cfg.pure g3) (Za (ZD O g3
 (l4++[]++l5)) fun r4=>ZP r4 fun c5=>Zs c5 (Za (O.call 45 [V.ref r0 0,V.vec .plain none [V.str s2]] r1.snd) fun r6=>Zk r6.fst (fun v7=>
 ZP v7 fun c8=>Zs c8 (Qb (List.length st) (V.tup []) r6.snd)) fun p9=>none)) (Za (O.call g3 (l4++[]++l5) r1.snd) fun r10=>Zk r10.fst (fun v11=>ZP v11
 fun c12=>Zs c12 (Za (O.call 45 [V.ref r0 0,V.vec .plain none [V.str s2]] r10.snd) fun r13=>Zk r13.fst (fun v14=>ZP v14 fun c15=>Zs c15
 (Qb (List.length st) (V.tup []) r13.snd)) fun p16=>none)) fun p17=>none))) fun p18=>none:=by kernel_rfl
theorem zbZ(O:Oracle)(r0:Nat)(n0:Int)(k:Int)(h:Int)(l:(List V))(st:St):Ze Tryd.prog cfg O 43 [.cptr none (.ref r0 0), .cptr none (.int n0), .cptr (some 3) (.agg [.int k, .int h, .vec .plain (some 3) l])] st=
 Za (O.call 44 [V.ref r0 0,V.int n0] st) fun r1=>Zk r1.fst (fun v2=>ZP v2 fun c3=>Zs c3 (Za (O.call 45 [V.ref r0 0,V.vec
 .plain none [V.str {data:= #[58]}]] r1.snd) fun r4=>Zk r4.fst (fun v5=>ZP v5 fun c6=>Zs c6 (gd (true&&decide (0<(↑l.length:Int))) (Zg [CT.int,
 CT.int,CT.slice (some 3)] (YR l 0) fun n7 n8 l9=>Za (O.call 24 [V.ref r0 0,V.agg [V.int n7,V.int n8,V.vec .plain (some 3) l9],V.int n0] r4.snd) fun r10
 =>Zk r10.fst (fun v11=>ZP v11 fun c12=>Zs c12 (Qb (List.length st) (V.tup []) r10.snd)) fun p13=>none))) fun p14=>none)) fun p15=>none:=by kernel_rfl
theorem zcD(O:Oracle)(r0:Nat)(n1:Int)(st:St):Ze Tryd.prog cfg O 44 [.ref r0 0, .int n1] st=
 Za (ZD O 64 [V.int n1]) fun r1=>YW r1 fun s2=>gd (decide (1+s2.size≤9223372036854775807)) (Za (O.call 41 [V.ref r0 0,V.str ({data
 := #[95]}++s2)] st) fun r3=>Zk r3.fst (fun v4=>ZP v4 fun c5=>Zs c5 (Qb (List.length st) (V.tup []) r3.snd)) fun p6=>none):=by kernel_rfl
theorem zcE(O:Oracle)(r0:Nat)(l1:(List V))(st:St):Ze Tryd.prog cfg O 45 [.ref r0 0, .vec .plain none l1] st=
 Za (O.loop 45 1 [V.int 0,V.ref r0 0,V.vec .plain none l1,V.int (↑l1.length:Int)] st) fun r1=>Jp r1.fst none none (fun i2=>bc (i2.beq 0) (Zs
 r1.snd.fst (Qb (List.length st) (V.tup []) r1.snd.snd)) none) fun v3=>none:=by kernel_rfl
theorem Q9(O:Oracle)(n0:Int)(r1:Nat)(l2:(List V))(n3:Int)(st:St):ZY Tryd.prog cfg O 45 1 [.int n0, .ref r1 0, .vec .plain none l2, .int n3] st=
 bc (decide (n0<n3)) (gd (decide (0≤n0)&&decide (n0<(↑l2.length:Int))) (YW (YR l2 n0) fun s1=>ZH st r1 fun x2=>ZS x2 fun c3=>gd (decide (1<c3.length)&&
 true&&true) (Qz (some 2) (c3.getD 1 V.undef) (fun l4=>gd (true&&roomFor Tryd.prog 58 (l4.length+[V.agg [V.int 1,V.str s1]].length)) (ZH (List.set st r1
 (Res.box (c3.set 1 (V.vec .plain (some 2) l4)))) r1 fun x5=>ZS x5 fun c6=>gd (decide (2≤c6.length)&&true) (O.2 45 1 [V.int (IntKind.i64.wrap (n0+1)),
 V.ref r1 0,V.vec .plain none l2,V.int n3] ((List.set st r1 (Res.box (c3.set 1 (V.vec .plain (some 2) l4)))).set r1 (Res.box (setCells c6 1 [V.vec Mode.grow (some 2) (l4++
 [V.agg [V.int 1,V.str s1]])])))))) fun l7=>gd (true&&roomFor Tryd.prog 58 (l7.length+[V.agg [V.int 1,V.str s1]].length)) (ZH (List.set st r1 (Res.box (c3.set 1
 (V.vec .plain (some 2) l7)))) r1 fun x8=>ZS x8 fun c9=>gd (decide (2≤c9.length)&&true) (O.2 45 1 [V.int (IntKind.i64.wrap (n0+1)),V.ref r1 0,V.vec
 .plain none l2,V.int n3] ((List.set st r1 (Res.box (c3.set 1 (V.vec .plain (some 2) l7)))).set r1 (Res.box (setCells c9 1 [V.vec Mode.grow (some 2) (l7++[V.agg [V.int 1,V.str
 s1]])])))))))) (some (Ex.exit 0,[],st)):=by kernel_rfl
theorem zca(O:Oracle)(r0:Nat)(n0:Int)(st:St):Ze Tryd.prog cfg O 46 [.cptr none (.ref r0 0), .cptr none (.int n0)] st=
 Za (O.call 44 [V.ref r0 0,V.int n0] st) fun r1=>Zk r1.fst (fun v2=>ZP v2 fun c3=>Zs c3 (Qb (List.length st) (V.tup []) r1.snd)) fun p4=>none:=by kernel_rfl
theorem X0(O:Oracle)(r0:Nat)(n1:Int)(n2:Int)(l3:(List V))(n4:Int)(st:St):Ze Tryd.prog cfg O 47 [.ref r0 0, .agg [.int n1, .int n2, .vec .plain (some 3) l3], .int n4] st=
 bc (n1==4) (bc (decide (n2<n4)) (Za (O.call 44 [V.ref r0 0,V.int (IntKind.i64.wrap (IntKind.i64.wrap (n4-1)-n2))] st) fun r1=>Zk r1.fst (fun v2
 =>ZP v2 fun c3=>Zs c3 (Qb (List.length st) (V.tup []) r1.snd)) fun p4=>none) (bc (n1==2) (ZH st r0 fun x5=>ZS x5 fun c6=>gd (decide (1≤c6.length)&&true)
 (Ys (some 4) (Zm (AM.partOf c6 0 none)) fun l7=>bc (decide (n2<(↑l7.length:Int))) (ZH st r0 fun x8=>ZS x8 fun c9=>gd (decide (1≤c9.length)&&true) (Ys
 (some 4) (Zm (AM.partOf c9 0 none)) fun l10=>gd (decide (0≤n2)&&decide (n2<(↑l10.length:Int))) (YX (YR l10 n2) fun c11=>gd (decide (1≤c11.length)) (YW
 (AM.partOf c11 0 none) fun s12=>Za (O.call 41 [V.ref r0 0,V.str s12] st) fun r13=>Zk r13.fst (fun v14=>ZP v14 fun c15=>Zs c15 (Qb
 (List.length st) (V.tup []) r13.snd)) fun p16=>none)))) (ZH st r0 fun x17=>ZS x17 fun c18=>gd (decide (3≤c18.length)&&true) (Qb (List.length st) (V.tup [])
 (List.set st r0 (Res.box (setCells c18 2 [V.int 2]))))))) (bc (n1==5) (ZH st r0 fun x19=>ZS x19 fun c20=>gd (decide (1≤c20.length)&&true) (Ys (some 4) (Zm
 (AM.partOf c20 0 none)) fun l21=>bc (decide (n2<(↑l21.length:Int))) (ZH st r0 fun x22=>ZS x22 fun c23=>gd (decide (1≤c23.length)&&true) (Ys (some 4) (Zm
 (AM.partOf c23 0 none)) fun l24=>gd (decide (0≤n2)&&decide (n2<(↑l24.length:Int))) (YX (YR l24 n2) fun c25=>gd (decide (1≤c25.length)) (YW (AM.partOf c25 0
 none) fun s26=>Za (O.call 41 [V.ref r0 0,V.str s26] st) fun r27=>Zk r27.fst (fun v28=>ZP v28 fun c29=>Zs c29 (Qb (List.length st) (V.tup [])
 r27.snd)) fun p30=>none)))) (ZH st r0 fun x31=>ZS x31 fun c32=>gd (decide (3≤c32.length)&&true) (Qb (List.length st) (V.tup []) (List.set st r0 (Res.box (setCells
 c32 2 [V.int 2]))))))) (ZH st r0 fun x33=>ZS x33 fun c34=>gd (decide (3≤c34.length)&&true) (Qb (List.length st) (V.tup []) (List.set st r0 (Res.box (setCells c34 2
 [V.int 2])))))))) (bc (n1==2) (ZH st r0 fun x35=>ZS x35 fun c36=>gd (decide (1≤c36.length)&&true) (Ys (some 4) (Zm (AM.partOf c36 0 none)) fun l37=>bc
 (decide (n2<(↑l37.length:Int))) (ZH st r0 fun x38=>ZS x38 fun c39=>gd (decide (1≤c39.length)&&true) (Ys (some 4) (Zm (AM.partOf c39 0 none)) fun l40=>gd
 (decide (0≤n2)&&decide (n2<(↑l40.length:Int))) (YX (YR l40 n2) fun c41=>gd (decide (1≤c41.length)) (YW (AM.partOf c41 0 none) fun s42=>Za (O.call
 41 [V.ref r0 0,V.str s42] st) fun r43=>Zk r43.fst (fun v44=>ZP v44 fun c45=>Zs c45 (Qb (List.length st) (V.tup []) r43.snd)) fun p46=>none))))
 (ZH st r0 fun x47=>ZS x47 fun c48=>gd (decide (3≤c48.length)&&true) (Qb (List.length st) (V.tup []) (List.set st r0 (Res.box (setCells c48 2 [V.int 2]))))))) (bc (n1
 ==5) (ZH st r0 fun x49=>ZS x49 fun c50=>gd (decide (1≤c50.length)&&true) (Ys (some 4) (Zm (AM.partOf c50 0 none)) fun l51=>bc (decide (n2<(↑l51.length:
 Int))) (ZH st r0 fun x52=>ZS x52 fun c53=>gd (decide (1≤c53.length)&&true) (Ys (some 4) (Zm (AM.partOf c53 0 none)) fun l54=>gd (decide (0≤n2)&&decide
 (n2<(↑l54.length:Int))) (YX (YR l54 n2) fun c55=>gd (decide (1≤c55.length)) (YW (AM.partOf c55 0 none) fun s56=>Za (O.call 41 [V.ref r0 0,
 V.str s56] st) fun r57=>Zk r57.fst (fun v58=>ZP v58 fun c59=>Zs c59 (Qb (List.length st) (V.tup []) r57.snd)) fun p60=>none)))) (ZH st r0 fun x61=>ZS x61
 fun c62=>gd (decide (3≤c62.length)&&true) (Qb (List.length st) (V.tup []) (List.set st r0 (Res.box (setCells c62 2 [V.int 2]))))))) (ZH st r0 fun x63=>ZS x63 fun c64
 =>gd (decide (3≤c64.length)&&true) (Qb (List.length st) (V.tup []) (List.set st r0 (Res.box (setCells c64 2 [V.int 2]))))))):=by kernel_rfl
theorem zhl(O:Oracle)(n0:Int)(n1:Int)(l2:(List V)):Ze Tryd.prog cfg O 48 [.agg [.int n0, .int n1, .vec .plain (some 3) l2]] []=
 bc ((↑l2.length:Int)==0) (bc (n0==4) (some (Out.ret (V.bool true),[])) (bc (n0==2) (some (Out.ret (V.bool true),[])) (some (Out.ret (V.bool (n0==5)),[])))) (some
 (Out.ret (V.bool false),[])):=by kernel_rfl
theorem zcb(O:Oracle)(r0:Nat)(n0:Int)(k:Int)(h:Int)(l:(List V))(st:St):Ze Tryd.prog cfg O 49 [.cptr none (.ref r0 0), .cptr (some 3) (.agg [.int k, .int h, .vec .plain (some 3) l]), .cptr none (.int n0)] st=
 Za (O.call 24 [V.ref r0 0,V.agg [V.int k,V.int h,V.vec .plain (some 3) l],V.int n0] st) fun r1=>Zk r1.fst (fun v2=>ZP v2 fun c3=>Zs c3 (Qb
 (List.length st) (V.tup []) r1.snd)) fun p4=>none:=by kernel_rfl
theorem Xg(O:Oracle)(n0:Int)(n1:Int)(r2:Nat)(l3:(List V))(n4:Int)(st:St):ZY Tryd.prog cfg O 24 4 [.int n0, .loc false none (.int n1), .loc false none (.ref r2 0), .vec .plain (some 3) l3, .int n4] st=
 bc (decide (n0<n4)) (gd (decide (0≤n0)&&decide (n0<(↑l3.length:Int))) (Zg [CT.int,CT.int,CT.slice (some 3)] (YR l3 n0) fun n1_1 n2 l3_1=>Za (ZD O
 48 [V.agg [V.int n1_1,V.int n2,V.vec .plain (some 3) l3_1]]) fun r4=>Z6 r4 fun b5=>bc b5 (Za (O.call 24 [V.ref r2 0,V.agg [V.int n1_1,
 V.int n2,V.vec .plain (some 3) l3_1],V.int n1] st) fun r6=>Zk r6.fst (fun v7=>ZP v7 fun c8=>Zs c8 (O.2 24 4 [V.int (IntKind.i64.wrap (n0+1)),
 V.loc false none (V.int n1),V.loc false none (V.ref r2 0),V.vec .plain (some 3) l3,V.int n4] r6.snd)) fun p9=>none) (Za (O.call 42 [V.ref r2 0,V.str {
 data:= #[40]},V.str {data:= #[41]},V.fn 49 [] [V.cptr none (V.ref r2 0),V.cptr (some 3) (V.agg [V.int n1_1,V.int n2,V.vec .plain (some 3) l3_1]),
 V.cptr none (V.int n1)]] st) fun r10=>Zk r10.fst (fun v11=>ZP v11 fun c12=>Zs c12 (O.2 24 4 [V.int (IntKind.i64.wrap (n0+1)),V.cptr none (V.int
 n1),V.cptr none (V.ref r2 0),V.vec .plain (some 3) l3,V.int n4] r10.snd)) fun p13=>none))) (some (Ex.exit 1,[],st)):=by kernel_rfl
end Go.Proofs.SW
namespace Go.Proofs.SW
open Go Go.AM
set_option maxRecDepth 20000
theorem zlh(O:Oracle)(n0:Int)(n1:Int)(l2:(List V)):Ze Tryd.prog cfg O 16 [.agg [.int n0, .int n1, .vec .plain (some 3) l2]] []=
 Za (ZD O 33 [V.agg [V.int n0,V.int n1,V.vec .plain (some 3) l2]]) fun r1=>Z2 r1 fun n2=>bc (decide (n2≤60)) (Za (ZD O 34 [V.agg [V.int
 n0,V.int n1,V.vec .plain (some 3) l2]]) fun r3=>Z2 r3 fun n4=>bc (decide (n4≤4000)) (Za (O.call 35 [V.agg [V.int n0,V.int n1,V.vec .plain (some 3) l2],
 V.fn 36 [] []] []) fun r5=>Zk r5.fst (fun v6=>Z6 v6 fun b7=>some (Out.ret (V.bool b7),[])) fun p8=>none) (some (Out.ret (V.bool false),[]))) (some
 (Out.ret (V.bool false),[])):=by kernel_rfl
theorem zkg(O:Oracle)(n0:Int)(n1:Int)(l2:(List V))(n3:Int)(n4:Int)(l5:(List V)):Ze Tryd.prog cfg O 20 [.agg [.int n0, .int n1, .vec .plain (some 3) l2], .agg [.int n3, .int n4, .vec .plain (some 3) l5]] []=
 bc (n0 !=n3) (some (Out.ret (V.bool false),[])) (bc (n1 !=n4) (some (Out.ret (V.bool false),[])) (bc ((↑l2.length:Int) !=(↑l5.length:Int)) (some (Out.ret (V.bool false),
 [])) (Za (O.loop 20 4 [V.int 0,V.loc false (some 3) (V.agg [V.int n3,V.int n4,V.vec .plain (some 3) l5]),V.vec .plain (some 3) l2,V.int (↑l2.length:Int)] [])
 fun r1=>Jp r1.fst none (Zy r1.snd.fst fun v2 c3=>Z6 v2 fun b4=>Zs c3 (some (Out.ret (V.bool b4),[]))) (fun i5=>bc (i5.beq 0) (Zs r1.snd.fst (some (Out.ret
 (V.bool true),[]))) none) fun v6=>none))):=by kernel_rfl
theorem zcc(O:Oracle)(n0:Int)(n1:Int)(n2:Int)(l3:(List V))(l4:(List V))(n5:Int):ZY Tryd.prog cfg O 20 4 [.int n0, .loc false (some 3) (.agg [.int n1, .int n2, .vec .plain (some 3) l3]), .vec .plain (some 3) l4, .int n5] []=
 bc (decide (n0<n5)) (gd (decide (0≤n0)&&decide (n0<(↑l4.length:Int))) (Zg [CT.int,CT.int,CT.slice (some 3)] (YR l4 n0) fun n1_1 n2_1 l3_1=>gd (decide (0≤
 n0)&&decide (n0<(↑l3.length:Int))) (Zg [CT.int,CT.int,CT.slice (some 3)] (YR l3 n0) fun n4 n5_1 l6=>Za (ZD O 20 [V.agg [V.int n1_1,V.int n2_1,
 V.vec .plain (some 3) l3_1],V.agg [V.int n4,V.int n5_1,V.vec .plain (some 3) l6]]) fun r7=>Z6 r7 fun b8=>bc (!b8) (some (Ex.ret,[V.bool false],[])) (O.2 20 4
 [V.int (IntKind.i64.wrap (n0+1)),V.loc false (some 3) (V.agg [V.int n1,V.int n2,V.vec .plain (some 3) l3]),V.vec .plain (some 3) l4,V.int n5] [])))) (some (Ex.exit 0,[],
 [])):=by kernel_rfl
theorem zkh(O:Oracle)(n0:Int)(n1:Int)(l2:(List V)):Ze Tryd.prog cfg O 34 [.agg [.int n0, .int n1, .vec .plain (some 3) l2]] []=
 Za (O.call 62 [V.agg [V.int n0,V.int n1,V.vec .plain (some 3) l2]] [Res.box [V.int 0]]) fun r1=>Zk r1.fst (fun v2=>zfs v2 fun g3 a4 b5=>Za (O.call g3
 (a4++[V.yld (List.length r1.snd)]++b5) (r1.snd++[Res.loop 34 3 [V.ref 0 0] LSt.ready none])) fun r6=>Zk r6.fst (fun v7=>ZH r6.snd (List.length r1.snd) fun
 x8=>YQ x8 fun f9 k10 vs11 s12 p13=>Q2 s12 p13 (ZH (List.set r6.snd (List.length r1.snd) Res.dead) 0 fun x14=>ZS x14 fun c15=>gd (decide (1≤c15.length)&&
 true) (Z2 (Zm (AM.partOf c15 0 none)) fun n16=>some (Out.ret (V.int n16),[]))) none fun i17=>none) fun p18=>none) fun p19=>none:=by kernel_rfl
theorem zgu(O:Oracle)(n i:Int)(c:List V):Xn Tryd.prog cfg O 1 34 3 [.ref 0 0] [.int i, .agg c] [.box [.int n], .loop 34 3 [.ref 0 0] .ready none]=
 some (true,[Res.box [V.int (IntKind.i64.wrap (n+1))],Res.loop 34 3 [V.ref 0 0] LSt.ready none]):=by kernel_rfl
theorem zki(O:Oracle):Ze Tryd.prog cfg O 19 [] []=
 some (Out.ret (V.vec .plain (some 4) [V.agg [V.str {data:= #[110,97,116]},V.int 0,V.int 0,V.vec .plain (some 3) []],V.agg [V.str {data:= #[122]},V.int 2,V.int 0,
 V.vec .plain (some 3) []],V.agg [V.str {data:= #[115]},V.int 1,V.int 0,V.vec .plain (some 3) [V.agg [V.int 2,V.int 0,V.vec .plain (some 3) []],V.agg [V.int 2,V.int 0,
 V.vec .plain (some 3) []]]]]),[]):=by kernel_rfl
theorem ziM(O:Oracle)(n0:Int)(n1:Int)(l2:(List V)):Ze Tryd.prog cfg O 33 [.agg [.int n0, .int n1, .vec .plain (some 3) l2]] []=
 Za (O.loop 33 3 [V.int 0,V.int 0,V.vec .plain (some 3) l2,V.int (↑l2.length:Int)] []) fun r1=>Jp r1.fst none none (fun i2=>bc (i2.beq 0) (Zy r1.snd.fst
 fun v3 c4=>Z2 v3 fun n5=>Zs c4 (some (Out.ret (V.int (IntKind.i64.wrap (n5+1))),[]))) none) fun v6=>none:=by kernel_rfl
theorem zb1(O:Oracle)(n0:Int)(n1:Int)(l2:(List V))(n3:Int):ZY Tryd.prog cfg O 33 3 [.int n0, .int n1, .vec .plain (some 3) l2, .int n3] []=
 bc (decide (n0<n3)) (gd (decide (0≤n0)&&decide (n0<(↑l2.length:Int))) (Zg [CT.int,CT.int,CT.slice (some 3)] (YR l2 n0) fun n1_1 n2 l3=>Za (ZD O
 33 [V.agg [V.int n1_1,V.int n2,V.vec .plain (some 3) l3]]) fun r4=>Z2 r4 fun n5=>O.2 33 3 [V.int (IntKind.i64.wrap (n0+1)),V.int (if n5>n1 then
 n5 else n1),V.vec .plain (some 3) l2,V.int n3] [])) (some (Ex.exit 0,[V.int n1],[])):=by kernel_rfl
theorem zli(O:Oracle)(k h:Int)(xs:List V)(g:Nat)(a b:List V):Ze Tryd.prog cfg O 35 [.agg [.int k, .int h, .vec .plain (some 3) xs], .fn g a b] []=
 Za (O.call 62 [V.agg [V.int k,V.int h,V.vec .plain (some 3) xs]] [Res.box [V.bool false]]) fun r1=>Zk r1.fst (fun v2=>zfs v2 fun g3 a4 b5=>Za (O.call
 g3 (a4++[V.yld (List.length r1.snd)]++b5) (r1.snd++[Res.loop 35 4 [V.ref 0 0,V.cptr none (V.fn g a b)] LSt.ready none])) fun r6=>Zk r6.fst (fun v7=>ZH
 r6.snd (List.length r1.snd) fun x8=>YQ x8 fun f9 k10 vs11 s12 p13=>Q2 s12 p13 (ZH (List.set r6.snd (List.length r1.snd) Res.dead) 0 fun x14=>ZS x14 fun c15=>
 gd (decide (1≤c15.length)&&true) (ZH ((List.set r6.snd (List.length r1.snd) Res.dead).set 0 (Res.box (setCells c15 0 [V.bool true]))) 0 fun x16=>ZS x16 fun c17=>gd
 (decide (1≤c17.length)&&true) (Qb 0 (Zm (AM.partOf c17 0 none)) ((List.set r6.snd (List.length r1.snd) Res.dead).set 0 (Res.box (setCells c15 0 [V.bool true])))))) (ZH
 (List.set r6.snd (List.length r1.snd) Res.dead) 0 fun x18=>ZS x18 fun c19=>gd (decide (1≤c19.length)&&true) (Qb 0 (Zm (AM.partOf c19 0 none)) (List.set r6.snd
 (List.length r1.snd) Res.dead))) fun i20=>none) fun p21=>none) fun p22=>none:=by kernel_rfl
theorem zhm(O:Oracle)(i k h:Int)(xs:List V)(b0:Bool)(g:Nat)(a b:List V):Xn Tryd.prog cfg O 1 35 4 [.ref 0 0, .cptr none (.fn g a b)] [.int i, .agg [.int k, .int h, .vec .plain (some 3) xs]] [.box [.bool b0], .loop 35 4 [.ref 0 0, .cptr none (.fn g a b)] .ready none]=
 bc (cfg.pure g) (Za (ZD O g (a++[V.int i,V.agg [V.int k,V.int h,V.vec .plain (some 3) xs]]++b)) fun r1=>Z6 r1 fun b2=>bc (!b2) (some (false,[Res.box [V.bool
 false],Res.loop 35 4 [V.ref 0 0,V.cptr none (V.fn g a b)] LSt.done (some Ex.ret)])) (some (true,[Res.box [V.bool b0],Res.loop 35 4 [V.ref 0 0,V.cptr none
 (V.fn g a b)] LSt.ready none]))) (Za (O.call g (a++[V.int i,V.agg [V.int k,V.int h,V.vec .plain (some 3) xs]]++b) [Res.box [V.bool b0],Res.loop 35 4 [V.ref 0 0,
 V.cptr none (V.fn g a b)] LSt.busy none]) fun r3=>Zk r3.fst (fun v4=>Z6 v4 fun b5=>bc (!b5) (ZH r3.snd 0 fun x6=>ZS x6 fun c7=>gd (decide (1≤c7.length)&&
 true) (ZH (List.set r3.snd 0 (Res.box (setCells c7 0 [V.bool false]))) 1 fun x8=>YQ x8 fun f9 k10 vs11 s12 p13=>zfJ s12 (some (false,(List.set r3.snd 0 (Res.box
 (setCells c7 0 [V.bool false]))).set 1 (Res.loop f9 k10 vs11 LSt.done (some Ex.ret)))))) (ZH r3.snd 1 fun x14=>YQ x14 fun f15 k16 vs17 s18 p19=>zfJ s18 (some (true,
 List.set r3.snd 1 (Res.loop f15 k16 vs17 LSt.ready none))))) fun p20=>none):=by kernel_rfl
theorem ziN(O:Oracle)(n0:Int)(n1:Int)(n2:Int)(l3:(List V)):Ze Tryd.prog cfg O 36 [.int n0, .agg [.int n1, .int n2, .vec .plain (some 3) l3]] []=
 Za (ZD O 37 [V.agg [V.int n1,V.int n2,V.vec .plain (some 3) l3]]) fun r1=>Z6 r1 fun b2=>some (Out.ret (V.bool b2),[]):=by kernel_rfl
theorem zlj(O:Oracle)(n0:Int)(n1:Int)(l2:(List V)):Ze Tryd.prog cfg O 37 [.agg [.int n0, .int n1, .vec .plain (some 3) l2]] []=
 bc (n0==0) (bc (n1==0) (some (Out.ret (V.bool ((↑l2.length:Int)==0)),[])) (some (Out.ret (V.bool false),[]))) (bc (n0==1) (bc (n1==0) (some (Out.ret (V.bool
 ((↑l2.length:Int)==2)),[])) (some (Out.ret (V.bool false),[]))) (bc (n0==3) (bc (n1==0) (some (Out.ret (V.bool ((↑l2.length:Int)==1)),[])) (some (Out.ret (V.bool
 false),[]))) (bc (decide (n0≥0)) (bc (decide (n0<7)) (some (Out.ret (V.bool (decide (n1≥0))),[])) (some (Out.ret (V.bool false),[]))) (some (Out.ret (V.bool false),
 []))))):=by kernel_rfl
theorem zed(O:Oracle)(k h:Int)(xs:List V)(x:Res):Ze Tryd.prog cfg O 62 [.agg [.int k, .int h, .vec .plain (some 3) xs]] [x]=
 some (Out.ret (V.fn 70 [] [V.cptr (some 3) (V.agg [V.int k,V.int h,V.vec .plain (some 3) xs])]),[x]):=by kernel_rfl
theorem zgv(O:Oracle)(k h:Int)(xs:List V)(x y:Res):Ze Tryd.prog cfg O 70 [.yld 1, .cptr (some 3) (.agg [.int k, .int h, .vec .plain (some 3) xs])] [x,y]=
 Za (O.call 71 [V.agg [V.int k,V.int h,V.vec .plain (some 3) xs],V.int 0,V.yld 1] [x,y]) fun r1=>Zk r1.fst (fun v2=>Z6 v2 fun b3=>Qb [x,y].length
 (V.tup []) r1.snd) fun p4=>none:=by kernel_rfl
theorem zkj(O:Oracle)(k h i:Int)(xs:List V)(x y:Res):Ze Tryd.prog cfg O 71 [.agg [.int k, .int h, .vec .plain (some 3) xs], .int i, .yld 1] [x,y]=
 YQ y fun f1 k2 vs3 s4 p5=>Q2 s4 p5 (Za (O.round 1 f1 k2 vs3 [V.int i,V.agg [V.int k,V.int h,V.vec .plain (some 3) xs]] [x,y]) fun r6=>bc (!r6.fst) (Qb [x,
 y].length (V.bool false) r6.snd) (Za (O.loop 71 4 [V.int 0,V.yld 1,V.loc false (some 3) (V.agg [V.int k,V.int h,V.vec .plain (some 3) xs]),V.int i,V.vec .plain
 (some 3) xs,V.int (↑xs.length:Int)] r6.snd) fun r7=>Jp r7.fst none (Zy r7.snd.fst fun v8 c9=>Z6 v8 fun b10=>Zs c9 (Qb [x,y].length (V.bool b10)
 r7.snd.snd)) (fun i11=>bc (i11.beq 0) (Zs r7.snd.fst (Qb [x,y].length (V.bool true) r7.snd.snd)) none) fun v12=>none)) none fun i13=>none:=by kernel_rfl
theorem zcd(O:Oracle)(i n j k h:Int)(xs ys:List V)(x y:Res):ZY Tryd.prog cfg O 71 4 [.int i, .yld 1, .loc false (some 3) (.agg [.int k, .int h, .vec .plain (some 3) xs]), .int j, .vec .plain (some 3) ys, .int n] [x,y]=
 bc (decide (i<n)) (gd (decide (0≤i)&&decide (i<(↑ys.length:Int))) (Zg [CT.int,CT.int,CT.slice (some 3)] (YR ys i) fun n1 n2 l3=>Za (ZD O 82
 [V.agg [V.int k,V.int h,V.vec .plain (some 3) xs]]) fun r4=>Z6 r4 fun b5=>bc b5 (bc (i==IntKind.i64.wrap ((↑xs.length:Int)-1)) (Za (O.call 71 [V.agg
 [V.int n1,V.int n2,V.vec .plain (some 3) l3],V.int (IntKind.i64.wrap (j+1)),V.yld 1] [x,y]) fun r6=>Zk r6.fst (fun v7=>Z6 v7 fun b8=>bc (!b8) (some (Ex.ret,
 [V.bool false],r6.snd)) (O.2 71 4 [V.int (IntKind.i64.wrap (i+1)),V.yld 1,V.loc false (some 3) (V.agg [V.int k,V.int h,V.vec .plain (some 3) xs]),V.int j,V.vec
 .plain (some 3) ys,V.int n] r6.snd)) fun p9=>none) (Za (O.call 71 [V.agg [V.int n1,V.int n2,V.vec .plain (some 3) l3],V.int j,V.yld 1] [x,y]) fun r10=>Zk
 r10.fst (fun v11=>Z6 v11 fun b12=>bc (!b12) (some (Ex.ret,[V.bool false],r10.snd)) (O.2 71 4 [V.int (IntKind.i64.wrap (i+1)),V.yld 1,V.loc false (some 3)
 (V.agg [V.int k,V.int h,V.vec .plain (some 3) xs]),V.int j,V.vec .plain (some 3) ys,V.int n] r10.snd)) fun p13=>none)) (Za (O.call 71 [V.agg [V.int n1,V.int
 n2,V.vec .plain (some 3) l3],V.int j,V.yld 1] [x,y]) fun r14=>Zk r14.fst (fun v15=>Z6 v15 fun b16=>bc (!b16) (some (Ex.ret,[V.bool false],r14.snd)) (O.2
 71 4 [V.int (IntKind.i64.wrap (i+1)),V.yld 1,V.loc false (some 3) (V.agg [V.int k,V.int h,V.vec .plain (some 3) xs]),V.int j,V.vec .plain (some 3) ys,V.int n]
 r14.snd)) fun p17=>none))) (some (Ex.exit 0,[],[x,y])):=by kernel_rfl
theorem ziO(O:Oracle)(n0:Int)(n1:Int)(l2:(List V)):Ze Tryd.prog cfg O 82 [.agg [.int n0, .int n1, .vec .plain (some 3) l2]] []=
 bc (n0==1) (some (Out.ret (V.bool true),[])) (some (Out.ret (V.bool (n0==3)),[])):=by kernel_rfl
theorem zkk(O:Oracle)(n0:Int)(n1:Int)(l2:(List V)):Ze Tryd.prog cfg O 93 [.agg [.int n0, .int n1, .vec .plain (some 3) l2]] []=
 Za (ZD O 98 [V.agg [V.int n0,V.int n1,V.vec .plain (some 3) l2]]) fun r1=>Zg [CT.int,CT.int,CT.slice (some 3)] r1 fun n2 n3 l4=>some (Out.ret (V.bool
 (n2==0)),[]):=by kernel_rfl
theorem zkl(O:Oracle)(n0:Int)(n1:Int)(l2:(List V)):Ze Tryd.prog cfg O 98 [.agg [.int n0, .int n1, .vec .plain (some 3) l2]] []=
 Za (O.call 104 [V.agg [V.int n0,V.int n1,V.vec .plain (some 3) l2]] [Res.box [V.int n0,V.int n1,V.vec .plain (some 3) l2]]) fun r1=>Zk r1.fst (fun v2=>zfs v2
 fun g3 a4 b5=>Za (O.call g3 (a4++[V.yld (List.length r1.snd)]++b5) (r1.snd++[Res.loop 98 3 [V.ref 0 0] LSt.ready none])) fun r6=>Zk r6.fst (fun v7=>ZH
 r6.snd (List.length r1.snd) fun x8=>YQ x8 fun f9 k10 vs11 s12 p13=>Q2 s12 p13 (ZH (List.set r6.snd (List.length r1.snd) Res.dead) 0 fun x14=>ZS x14 fun c15=>
 gd (decide (3≤c15.length)&&true) (onCells [CT.int,CT.int,CT.slice (some 3)] (List.map plain1 (List.take 3 (List.drop 0 c15))) fun n16 n17 l18=>gd (below 0 (V.agg [V.int
 n16,V.int n17,V.vec .plain (some 3) l18])&&ZO 0 []) (some (Out.ret (V.agg [V.int n16,V.int n17,V.vec .plain (some 3) l18]),[])))) none fun i19=>none) fun p20=>
 none) fun p21=>none:=by kernel_rfl
theorem zgw(O:Oracle)(k h k2 h2 k3 h3:Int)(xs ys zs:List V)(x:Res):Xn Tryd.prog cfg O 2 98 3 [.ref 0 0] [.agg [.int k, .int h, .vec .plain (some 3) xs], .agg [.int k2, .int h2, .vec .plain (some 3) ys]] [.box [.int k3, .int h3, .vec .plain (some 3) zs],x, .loop 98 3 [.ref 0 0] .ready none]=
 some (true,[Res.box [V.int k2,V.int h2,V.vec .plain (some 3) ys],x,Res.loop 98 3 [V.ref 0 0] LSt.ready none]):=by kernel_rfl
theorem zlk(O:Oracle)(k h:Int)(xs:List V)(x:Res):Ze Tryd.prog cfg O 104 [.agg [.int k, .int h, .vec .plain (some 3) xs]] [x]=
 Qb [x].length (V.fn 107 [] [V.ref [x].length 0]) [x,Res.box [V.int k,V.int h,V.vec .plain (some 3) xs]]:=by kernel_rfl
theorem ziP(O:Oracle)(k h:Int)(xs:List V)(x z:Res):Ze Tryd.prog cfg O 107 [.yld 2, .ref 1 0] [x, .box [.int k, .int h, .vec .plain (some 3) xs],z]=
 Za (O.loop 107 0 [V.ref 1 0,V.yld 2] [x,Res.box [V.int k,V.int h,V.vec .plain (some 3) xs],z]) fun r1=>Jp r1.fst none (Zs r1.snd.fst (Qb [x,Res.box
 [V.int k,V.int h,V.vec .plain (some 3) xs],z].length (V.tup []) r1.snd.snd)) (fun i2=>bc (i2.beq 0) (Zs r1.snd.fst (Qb [x,Res.box [V.int k,V.int h,V.vec .plain (some
 3) xs],z].length (V.tup []) r1.snd.snd)) none) fun v3=>none:=by kernel_rfl
theorem zfy(O:Oracle)(k h:Int)(xs:List V)(x z:Res):ZY Tryd.prog cfg O 107 0 [.ref 1 0, .yld 2] [x, .box [.int k, .int h, .vec .plain (some 3) xs],z]=
 bc (k==1) (bc ((↑xs.length:Int)==2) (gd (true&&decide (0<(↑xs.length:Int))) (Zg [CT.int,CT.int,CT.slice (some 3)] (YR xs 0) fun n1 n2 l3=>gd (true&&
 decide (1<(↑xs.length:Int))) (Zg [CT.int,CT.int,CT.slice (some 3)] (YR xs 1) fun n4 n5 l6=>YQ z fun f7 k8 vs9 s10 p11=>Q2 s10 p11 (Za (O.round 2 f7 k8
 vs9 [V.agg [V.int n1,V.int n2,V.vec .plain (some 3) l3],V.agg [V.int n4,V.int n5,V.vec .plain (some 3) l6]] [x,Res.box [V.int k,V.int h,V.vec .plain (some 3) xs],z]) fun
 r12=>bc (!r12.fst) (some (Ex.ret,[],r12.snd)) (ZH r12.snd 1 fun x13=>ZS x13 fun c14=>gd (decide (3≤c14.length)&&true) (Ys (some 3) (Zm (AM.partOf c14 2
 none)) fun l15=>gd (true&&decide (1<(↑l15.length:Int))) (Zg [CT.int,CT.int,CT.slice (some 3)] (YR l15 1) fun n16 n17 l18=>ZH r12.snd 1 fun x19=>ZS x19
 fun c20=>gd (decide (3≤c20.length)&&true) (O.2 107 0 [V.ref 1 0,V.yld 2] (List.set r12.snd 1 (Res.box (setCells c20 0 [V.int n16,V.int n17,V.vec .plain (some 3)
 l18])))))))) none fun i21=>none))) (some (Ex.exit 0,[],[x,Res.box [V.int k,V.int h,V.vec .plain (some 3) xs],z]))) (some (Ex.exit 0,[],[x,Res.box [V.int k,V.int h,
 V.vec .plain (some 3) xs],z])):=by kernel_rfl
end Go.Proofs.SW
namespace Go.Ama
open Go Go.AM
def low:T→Bool
 | .mk _ h xs=>decide (h≤1099511627776)&&lows xs
where lows:List T→Bool
 |[]=>true
 |t::ts=>low t&&lows ts
def zeL(k h:Int)(n:Nat):Bool:=
 if k=0 then decide (h=0)&&decide (n=0)else if k=1 then decide (h=0)&&decide (n=2)else if k=3 then decide (h=0)&&decide (n=1)else decide (0≤k)&&(decide (k<7)&&decide (0≤h))
mutual
def XC:T→Bool
 | .mk k h l=>zeL k h l.length&&YS l
def YS:List T→Bool
 |[]=>true
 |t::l=>XC t&&YS l
end
theorem zgx: ∀l,YS l=l.all XC
 |[]=>rfl
 |t::l=>by simp[YS,zgx l]
def may(t:T):Bool:=XC t&&(decide (t.size≤4000)&&decide (t.depth≤60))
mutual
def allW(g:Int→T→Bool)(i:Int):T→Bool
 | .mk k h l=>g i (.mk k h l)&&Xe g i (decide (k=1)||decide (k=3)) l
def Xe(g:Int→T→Bool)(i:Int)(b:Bool):List T→Bool
 |[]=>true
 |[t]=>allW g (bif b then i+1 else i) t
 |t::u::l=>allW g i t&&Xe g i b (u::l)
end
def iter{σ:Type}(f:σ→σ):Nat→σ→σ
 |0,s=>s
 |n+1,s=>iter f n (f s)
theorem zkm{σ:Type}(f:σ→σ)(a b:Nat)(s:σ):iter f (a+b) s=iter f b (iter f a s):=by
 induction a generalizing s with
 |zero=>simp[iter]
 |succ a ih=>rw[Nat.succ_add];exact ih (f s)
def zoX(vars metas:Int)(i:Int)(t:T):Bool:=(decide (t.k≠4)||decide (IntKind.i64.wrap (t.h-i)<vars))&&(decide (t.k≠6)||decide (t.h<metas))
def zoY(t:T):Bool:=zeL t.k t.h t.args.length
theorem zog: ∀(t:T) (i:Int),allW (fun _ t=>zoY t) i t=XC t:=by
 intro t
 induction t using T.ind with
 |_ k h xs ih=>
  intro i
  simp only[allW,XC]
  generalize(decide (k=1)||decide (k=3))=b
  have: ∀l:List T,(∀a∈l,∀i,allW (fun _ t=>zoY t) i a=XC a)→Xe (fun _ t=>zoY t) i b l=YS l:=by
   intro l
   induction l with
   |nil=>intro _;rfl
   |cons a l ihl=>
    intro h
    cases l with
    |nil=>simp only[Xe,YS,Bool.and_true];exact h a (by simp) _
    |cons u l=>simp only[Xe,h a (by simp)];rw[ihl fun a ha=>h a (by simp[ha])];simp only[YS]
  rw[this xs ih]
  rfl
def zdx:Nat→T→List T×T
 |0,t=>([],t)
 |n+1,t=>if t.k=1 then match t.args with|[a,b]=>let r:=zdx n b;(a::r.1,r.2)|_=>([],t)else([],t)
def split(t:T):List T×T:=zdx t.size t
theorem zeM{t b:T}(h:b∈t.args):b.size<t.size:=by
 cases t with
 |mk k h' l=>simp only[T.args]at h;simp only[T.size];have:=size_le h;omega
theorem zkn: ∀(n m:Nat) (t:T),t.size≤n→t.size≤m→zdx n t=zdx m t:=by
 intro n
 induction n with
 |zero=>intro m t h;have:=zaK t;omega
 |succ n ih=>
  intro m t h h'
  cases m with
  |zero=>have:=zaK t;omega
  |succ m=>
   simp only[zdx]
   split
   ·split
    ·rename_i a b hab
     have:=zeM (t:=t) (b:=b) (by rw[hab];simp)
     rw[ih m b (by omega) (by omega)]
    ·rfl
   ·rfl
theorem zgy{t a b:T}(h:t.k=1)(ha:t.args=[a,b]):split t=(a::(split b).1,(split b).2):=by
 unfold split
 have hb:=zeM (t:=t) (b:=b) (by rw[ha];simp)
 obtain⟨n,hn⟩: ∃n,t.size=n+1:=⟨t.size-1,by omega⟩
 rw[hn]
 simp only[zdx,h,ha,if_true]
 rw[zkn n b.size b (by omega) (Nat.le_refl _)]
theorem zc8{t:T}(h: ¬(t.k=1∧t.args.length=2)):split t=([],t):=by
 unfold split
 have:=zaK t
 obtain⟨n,hn⟩: ∃n,t.size=n+1:=⟨t.size-1,by omega⟩
 rw[hn]
 simp only[zdx]
 split
 ·rename_i h1
  split
  ·rename_i a b hab;exact absurd ⟨h1,by rw[hab];rfl⟩ h
  ·rfl
 ·rfl
theorem zpL{l:List T}(h:l.length=2): ∃a b,l=[a,b]:=by
 match l,h with
 |[a,b],_=>exact⟨a,b,rfl⟩
end Go.Ama
namespace Go.Proofs.SW
open Go Go.AM Go.Ama
theorem Z3{R:Type}(t:T)(K:Int→Int→List V→Option R):Zg (R:=R) [CT.int,CT.int,CT.slice (some 3)] (enc t) K=K t.k t.h (Z0 t.args):=by cases t;rfl
theorem zll: ∀a b:T,a.size≤1099511627776→b.size≤1099511627776→Ev 20 [enc a,enc b] (.bool (a.same b)):=by
 intro a
 induction a using T.ind with
 |_ k h xs ih=>
  intro b hs hs'
  obtain⟨k2,h2,ys⟩:=b
  simp only[T.size]at hs hs'
  have hlen:=YF xs
  unfold Ev
  rw[C,enc,enc,zkg]
  simp only[T.same]
  by_cases c1:k=k2
  ·by_cases c2:h=h2
   ·by_cases c3:xs.length=ys.length
    ·have hl:=zmL (L:=fun i=>W.loop 20 4 [V.int i,V.loc false (some 3) (V.agg [V.int k2,V.int h2,V.vec .plain (some 3) (Z0 ys)]),V.vec .plain (some 3) (Z0 xs),V.int xs.length] []) (xs:=xs.zip ys) (g:=fun x=>x.1.same x.2) (e0:=(Ex.exit 0,[],[])) (e1:=(Ex.ret,[V.bool false],[]))
      (fun i hi=>by
       have hi1:i<xs.length:=by simp at hi;omega
       have hi2:i<ys.length:=by omega
       have hp:=(ih xs[i] (List.getElem_mem hi1) ys[i] (by have:=size_le (List.getElem_mem hi1);omega) (by have:=size_le (List.getElem_mem hi2);omega)).p
       show W.loop _ _ _ _=_
       rw[L,zcc]
       simp only[Yj,Qv hi1,Qv hi2,Z3,←Zt,hp,List.getElem_zip]
       rw[Y9 ⟨by omega,by omega⟩]
       cases xs[i].same ys[i]<;>simp[bc,gd,Za,Z6,hi1,hi2])
      (by show W.loop _ _ _ _=_;rw[L,zcc];simp[bc,c3])
     simp only[c1,c2,c3,Yj,zh9 c3,bne_self_eq_false,hl,bc]
     rw[c3]at hl
     simp only[hl]
     cases(xs.zip ys).all (fun x=>x.1.same x.2)<;>simp[Za,Jp,Zy,Z6,Zs,bc]
    ·have c4:((xs.length:Int) !=(ys.length:Int))=true:=by simp;omega
     simp only[c1,c2,zhA c3,Yj,c4,bne_self_eq_false]
     simp[bc]
   ·have c4:(h !=h2)=true:=by simp[c2]
    simp only[c1,c4,c2,bne_self_eq_false]
    simp[bc]
  ·have c4:(k !=k2)=true:=by simp[c1]
   simp only[c4,c1]
   simp[bc]
theorem zoZ:((Tryd.prog.info? 24).map (·.bytes)).getD 0=40:=by kernel_rfl
theorem zpM{n:Nat}(h:n≤2199023255552):roomFor Tryd.prog 24 n=true:=by
 unfold roomFor
 rw[zoZ]
 simp only[Bool.and_eq_true,decide_eq_true_eq]
 omega
theorem zko: ∀t:T,t.size≤1099511627776→Ev 33 [enc t] (.int t.depth):=by
 intro t
 induction t using T.ind with
 |_ k h xs ih=>
  intro hs
  simp only[T.size]at hs
  have hlen:=YF xs
  unfold Ev
  rw[C,enc,ziM]
  have hl:=zgq (n:=xs.length) (L:=fun i=>W.loop 33 3 [V.int (i:Nat),V.int (ZI (xs.take i):Nat),V.vec .plain (some 3) (Z0 xs),V.int xs.length] []) (r:=some (Ex.exit 0,[V.int (ZI xs:Nat)],[]))
   (fun i hi=>by
    have hp:=(ih xs[i] (List.getElem_mem hi) (by have:=size_le (List.getElem_mem hi);omega)).p
    have h1:=zjN hi
    show W.loop _ _ _ _=_
    rw[L,zb1]
    simp only[Yj,Qv hi,Z3,←Zt,hp,Za,Z2]
    rw[Y9 ⟨by omega,by omega⟩]
    rw[h1]
    by_cases hc:ZI (xs.take i)<xs[i].depth
    ·have:max (ZI (xs.take i)) xs[i].depth=xs[i].depth:=by omega
     rw[this]
     simp[bc,gd,hi,hc]
    ·have:max (ZI (xs.take i)) xs[i].depth=ZI (xs.take i):=by omega
     rw[this]
     simp[bc,gd,hi,hc])
   (by show W.loop _ _ _ _=_;rw[L,zb1];simp[bc])
  have hl':W.loop 33 3 [V.int 0,V.int 0,V.vec .plain (some 3) (Z0 xs),V.int xs.length] []=some (Ex.exit 0,[V.int (ZI xs:Nat)],[]):=hl
  have hd:=zfx xs
  simp only[Yj,hl',T.depth,Za,Jp,Zy,Z2,Zs,bc]
  rw[Y9 ⟨by omega,by omega⟩]
  rfl
end Go.Proofs.SW
namespace Go.Proofs.SW
open Go Go.AM Go.Ama
def za4(t:T):Res:= .box [.int t.k, .int t.h, .vec .plain (some 3) (Z0 t.args)]
theorem zlm(a b u:T)(x:Res):W.round 2 98 3 [.ref 0 0] [enc a,enc b] [za4 u,x, .loop 98 3 [.ref 0 0] .ready none]=some (true,[za4 b,x, .loop 98 3 [.ref 0 0] .ready none]):=by
 rw[Rd]
 conv=>lhs;rw[Zt a,Zt b]
 exact zgw W _ _ _ _ _ _ _ _ _ x
theorem zkp: ∀(n:Nat) (t u:T),t.size≤n→
  W.loop 107 0 [.ref 1 0, .yld 2] [za4 u,za4 t, .loop 98 3 [.ref 0 0] .ready none]=
   some (.exit 0,[],[za4 (if(split t).1=[]then u else(split t).2),za4 (split t).2, .loop 98 3 [.ref 0 0] .ready none]):=by
 intro n
 induction n with
 |zero=>intro t _ h;have:=zaK t;omega
 |succ n ih=>
  intro t u h
  have hp:=zaK t
  rw[L]
  conv=>lhs;rw[show za4 t= .box [.int t.k, .int t.h, .vec .plain (some 3) (Z0 t.args)]from rfl]
  rw[zfy,Yj,zjP,Yk]
  by_cases c1:t.k=1
  ·by_cases c2:t.args.length=2
   ·obtain⟨a,b,hab⟩:=zpL c2
    have hb:=zeM (t:=t) (b:=b) (by rw[hab];simp)
    have g0:YR (Z0 t.args) 0=enc a:=by rw[hab];rfl
    have g1:YR (Z0 t.args) 1=enc b:=by rw[hab];rfl
    have hrd:=zlm a b u (za4 t)
    have:=ih b b (by omega)
    rw[zgy c1 hab]
    simp only[c1,c2,decide_true,Zo,g0,g1,Z3,←Zt,Bool.true_and,show decide ((0:Int)<((2:Nat):Int))=true from rfl,show decide ((1:Int)<((2:Nat):Int))=true from rfl,ZU,zfo,zdZ]
    have hbt:za4 t= .box [.int 1, .int t.h, .vec .plain (some 3) (Z0 t.args)]:=by unfold za4;rw[c1]
    rw[hbt]at hrd
    rw[hrd,Zb]
    simp only[Bool.not_true,Zi]
    have hget: ∀{R:Type} (K:Res→Option R),ZH [za4 b,Res.box [V.int 1,V.int t.h,V.vec .plain (some 3) (Z0 t.args)],Res.loop 98 3 [V.ref 0 0] LSt.ready none] 1 K=K (Res.box [V.int 1,V.int t.h,V.vec .plain (some 3) (Z0 t.args)]):=fun K=>rfl
    rw[hget,QM]
    have hc:Zm (AM.partOf [V.int 1,V.int t.h,V.vec .plain (some 3) (Z0 t.args)] 2 none)= .vec .plain (some 3) (Z0 t.args):=rfl
    rw[hc,Y6,g1,Z3,hget,QM]
    have h1l:decide ((1:Int)<((Z0 t.args).length:Int))=true:=by rw[Yj,c2];rfl
    rw[h1l]
    simp only[List.length_cons,List.length_nil,Nat.zero_add,Nat.reduceAdd,Nat.le_refl,decide_true,Bool.and_self,ZU]
    have hset:List.set [za4 b,Res.box [V.int 1,V.int t.h,V.vec .plain (some 3) (Z0 t.args)],Res.loop 98 3 [V.ref 0 0] LSt.ready none] 1
      (Res.box (setCells [V.int 1,V.int t.h,V.vec .plain (some 3) (Z0 t.args)] 0 [V.int b.k,V.int b.h,V.vec .plain (some 3) (Z0 b.args)]))=[za4 b,za4 b, .loop 98 3 [.ref 0 0] .ready none]:=rfl
    rw[hset,this]
    simp only[if_neg (List.cons_ne_nil a (split b).1)]
    by_cases c:(split b).1=[]
    ·have hsb:(split b).2=b:=by
      by_cases c':b.k=1∧b.args.length=2
      ·obtain⟨a',b',hab'⟩:=zpL c'.2
       rw[zgy c'.1 hab']at c;cases c
      ·rw[zc8 c']
     rw[if_pos c,hsb]
    ·rw[if_neg c]
   ·rw[zc8 fun c=>c2 c.2]
    simp only[c1,c2,decide_true,decide_false,Zo,Zi,if_true]
    rw[←c1]
    rfl
  ·rw[zc8 fun c=>c1 c.1]
   simp only[c1,decide_false,Zi,if_true]
   rfl
theorem zln(t:T):Ev 98 [enc t] (enc (split t).2):=by
 unfold Ev
 have h:=zkp t.size t t (Nat.le_refl _)
 have hlast:(if(split t).1=[]then t else(split t).2)=(split t).2:=by
  by_cases c':t.k=1∧t.args.length=2
  ·obtain⟨a',b',hab'⟩:=zpL c'.2
   rw[zgy c'.1 hab',if_neg (List.cons_ne_nil _ _)]
  ·rw[zc8 c',if_pos rfl]
 rw[hlast]at h
 have hc:W.call 107 [.yld 2, .ref 1 0] [za4 t, .box [.int t.k, .int t.h, .vec .plain (some 3) (Z0 t.args)], .loop 98 3 [.ref 0 0] .ready none]=
   some (.ret (.tup []),[za4 (split t).2,za4 (split t).2, .loop 98 3 [.ref 0 0] .ready none]):=by
  rw[C,ziP]
  have h':W.loop 107 0 [V.ref 1 0,V.yld 2] [za4 t,Res.box [V.int t.k,V.int t.h,V.vec .plain (some 3) (Z0 t.args)], .loop 98 3 [.ref 0 0] .ready none]=_:=h
  rw[h',Zb,zeG]
  rfl
 rw[C]
 conv=>lhs;rw[Zt]
 have hpis:W.call 104 [V.agg [V.int t.k,V.int t.h,V.vec .plain (some 3) (Z0 t.args)]] [Res.box [V.int t.k,V.int t.h,V.vec .plain (some 3) (Z0 t.args)]]=
   some (.ret (V.fn 107 [] [V.ref 1 0]),[za4 t,Res.box [V.int t.k,V.int t.h,V.vec .plain (some 3) (Z0 t.args)]]):=by
  rw[C,zlk];rfl
 rw[zkl,hpis,Zb,Zd,ziH]
 have hc':W.call 107 ([]++[V.yld (List.length [za4 t,Res.box [V.int t.k,V.int t.h,V.vec .plain (some 3) (Z0 t.args)]])]++[V.ref 1 0])
   ([za4 t,Res.box [V.int t.k,V.int t.h,V.vec .plain (some 3) (Z0 t.args)]]++[Res.loop 98 3 [V.ref 0 0] LSt.ready none])=_:=hc
 rw[hc',Zb,Zd]
 have hfin:gd (below 0 (enc (split t).2)&&ZO 0 []) (some (Out.ret (enc (split t).2),([]:St)))=some (Out.ret (enc (split t).2),[]):=by
  rw[J9];rfl
 have hfin':=hfin
 rw[Zt (split t).2]at hfin'
 rw[Zt (split t).2]
 exact hfin'
theorem zna(t:T):Ev 93 [enc t] (.bool (decide ((split t).2.k=0))):=by
 unfold Ev
 rw[C,Zt,zkk,←Zt,(zln t).p]
 simp only[Zb,Z3,Yk]
end Go.Proofs.SW
namespace Go.Proofs.SW
open Go Go.AM Go.Ama
theorem zlo(t:T):Ev 82 [enc t] (.bool (decide (t.k=1)||decide (t.k=3))):=by
 unfold Ev
 rw[C,Zt,ziO,Yk,Yk]
 cases decide (t.k=1)<;>simp[bc]
section
variable{σ:Type}{x:σ→Res}{nx:σ→σ}{f key:Nat}{vals:List V}{g:Int→T→Bool}{b1 b2:Res}
theorem znb(hr: ∀(i:Int) (t:T) (s:σ),W.round 1 f key vals [.int i,enc t] [x s, .loop f key vals .ready none]=some (if g i t=true then(true,[x (nx s), .loop f key vals .ready none])else(false,[b1,b2]))):
  ∀(t:T) (i:Int) (s:σ),0≤i→i+t.size≤4611686018427387904→W.call 71 [enc t, .int i, .yld 1] [x s, .loop f key vals .ready none]=
   some (if allW g i t=true then(.ret (.bool true),[x (iter nx t.size s), .loop f key vals .ready none])else(.ret (.bool false),[b1,b2])):=by
 intro t
 induction t using T.ind with
 |_ k h xs ih=>
  intro i s hi hs
  simp only[T.size]at hs
  have hlen:=YF xs
  rw[C]
  simp only[enc]
  rw[zkj,zfo,zdZ]
  have hr0:=hr i (.mk k h xs) s
  simp only[enc]at hr0
  rw[hr0]
  cases hg:g i (.mk k h xs)with
  |false=>
   simp only[allW,hg,Bool.false_and,Zb]
   rfl
  |true=>
   have hl: ∀(d j:Nat) (s:σ),j+d=xs.length→W.loop 71 4 [V.int (j:Nat),V.yld 1,V.loc false (some 3) (V.agg [V.int k,V.int h,V.vec .plain (some 3) (Z0 xs)]),V.int i,V.vec .plain (some 3) (Z0 xs),V.int xs.length] [x s, .loop f key vals .ready none]=
     some (if Xe g i (decide (k=1)||decide (k=3)) (xs.drop j)=true then(Ex.exit 0,[],[x (iter nx (sizes (xs.drop j)) s), .loop f key vals .ready none])else(Ex.ret,[V.bool false],[b1,b2])):=by
    intro d
    induction d with
    |zero=>
     intro j s hj
     have:j=xs.length:=by omega
     subst this
     have hlt:decide ((xs.length:Int)<xs.length)=false:=by simp
     rw[L,zcd,hlt,List.drop_length]
     rfl
    |succ d ihd=>
     intro j s hj
     have hjl:j<xs.length:=by omega
     have hsz:=size_le (List.getElem_mem hjl)
     have hlt:decide ((j:Int)<xs.length)=true:=by simp;omega
     have h0:decide ((0:Int)≤j)=true:=by simp
     have hb:ZD W 82 [V.agg [V.int k,V.int h,V.vec .plain (some 3) (Z0 xs)]]=some (.bool (decide (k=1)||decide (k=3))):=(zlo (.mk k h xs)).p
     have hne:decide ((j:Int)=IntKind.i64.wrap ((xs.length:Int)-1))=decide (j+1=xs.length):=by
      rw[Y9 ⟨by omega,by omega⟩]
      by_cases c:j+1=xs.length<;>simp[c]<;>omega
     have step: ∀i':Int,0≤i'→i'+xs[j].size≤4611686018427387904→Xe g i (decide (k=1)||decide (k=3)) (xs.drop j)=(allW g i' xs[j]&&Xe g i (decide (k=1)||decide (k=3)) (xs.drop (j+1)))→
       (Za (W.call 71 [enc xs[j],V.int i',V.yld 1] [x s, .loop f key vals .ready none]) fun r6=>
        Zk r6.fst (fun v7=>Z6 v7 fun b8=>bc (!b8) (some (Ex.ret,[V.bool false],r6.snd))
         (W.loop 71 4 [V.int (IntKind.i64.wrap ((j:Nat)+1)),V.yld 1,V.loc false (some 3) (V.agg [V.int k,V.int h,V.vec .plain (some 3) (Z0 xs)]),V.int i,V.vec .plain (some 3) (Z0 xs),V.int xs.length] r6.snd)) fun p9=>none)=
       some (if Xe g i (decide (k=1)||decide (k=3)) (xs.drop j)=true then(Ex.exit 0,[],[x (iter nx (sizes (xs.drop j)) s), .loop f key vals .ready none])else(Ex.ret,[V.bool false],[b1,b2])):=by
      intro i' hi' hs' he
      rw[ih xs[j] (List.getElem_mem hjl) i' s hi' hs',Zb,he]
      cases allW g i' xs[j]with
      |false=>simp only[Bool.false_and];rfl
      |true=>
       simp only[if_true,Zd,Zr,Bool.not_true,Zi,Bool.true_and]
       rw[Y9 ⟨by omega,by omega⟩]
       have:=ihd (j+1) (iter nx xs[j].size s) (by omega)
       rw[show((j:Nat):Int)+1=((j+1:Nat):Int)from rfl,this]
       have:sizes (xs.drop j)=xs[j].size+sizes (xs.drop (j+1)):=by rw[List.drop_eq_getElem_cons hjl];rfl
       rw[this,zkm]
     rw[L,zcd]
     simp only[Yj,hlt,h0,Zo,ZU,Bool.and_self,Qv hjl,Z3,←Zt,hb,Zb,Zr,Yk,hne]
     by_cases hlast:j+1=xs.length
     ·have hd:xs.drop j=[xs[j]]:=by rw[List.drop_eq_getElem_cons hjl,hlast,List.drop_length]
      have hd':xs.drop (j+1)=[]:=by rw[hlast,List.drop_length]
      simp only[hlast,decide_true,Zo]
      have hw:IntKind.i64.wrap (i+1)=i+1:=Y9 ⟨by omega,by omega⟩
      cases hbb:(decide (k=1)||decide (k=3))with
      |true=>
       simp only[Zo,hw]
       have:=step (i+1) (by omega) (by omega) (by rw[hd,hd',hbb];simp[Xe])
       rw[hbb]at this
       exact this
      |false=>
       simp only[Zi]
       have:=step i hi (by omega) (by rw[hd,hd',hbb];simp[Xe])
       rw[hbb]at this
       exact this
     ·have hd:Xe g i (decide (k=1)||decide (k=3)) (xs.drop j)=(allW g i xs[j]&&Xe g i (decide (k=1)||decide (k=3)) (xs.drop (j+1))):=by
       have h2:j+1<xs.length:=by omega
       rw[List.drop_eq_getElem_cons hjl,List.drop_eq_getElem_cons h2]
       simp only[Xe]
      simp only[hlast,decide_false,Zi]
      have:=step i hi (by omega) hd
      cases hbb:(decide (k=1)||decide (k=3))with
      |true=>rw[hbb]at this;exact this
      |false=>rw[hbb]at this;exact this
   have h1:=hl xs.length 0 (nx s) (by omega)
   simp only[if_true,Zb,Bool.not_true,Zi,Yj]
   have h1':W.loop 71 4 [V.int 0,V.yld 1,V.loc false (some 3) (V.agg [V.int k,V.int h,V.vec .plain (some 3) (Z0 xs)]),V.int i,V.vec .plain (some 3) (Z0 xs),V.int xs.length] [x (nx s), .loop f key vals .ready none]=
     some (if Xe g i (decide (k=1)||decide (k=3)) xs=true then(Ex.exit 0,[],[x (iter nx (sizes xs) (nx s)), .loop f key vals .ready none])else(Ex.ret,[V.bool false],[b1,b2])):=by
    rw[List.drop_zero]at h1;exact h1
   rw[h1',Zb]
   have hsz:iter nx (T.mk k h xs).size s=iter nx (sizes xs) (nx s):=by
    simp only[T.size]
    rw[zkm]
    rfl
   simp only[allW,hg,Bool.true_and,hsz]
   cases Xe g i (decide (k=1)||decide (k=3)) xs<;>rfl
theorem zgz(hr: ∀(i:Int) (t:T) (s:σ),W.round 1 f key vals [.int i,enc t] [x s, .loop f key vals .ready none]=some (if g i t=true then(true,[x (nx s), .loop f key vals .ready none])else(false,[b1,b2])))
  (t:T) (s:σ) (hs:t.size≤1099511627776):W.call 70 [.yld 1, .cptr (some 3) (enc t)] [x s, .loop f key vals .ready none]=
   some (.ret (.tup []),if allW g 0 t=true then[x (iter nx t.size s), .loop f key vals .ready none]else[b1,b2]):=by
 have hw:=znb hr t 0 s (by omega) (by omega)
 rw[C]
 rw[Zt]at hw⊢
 rw[zgv,hw,Zb]
 cases allW g 0 t<;>rfl
end
theorem zlp(t:T)(hs:t.size≤1099511627776):Ev 34 [enc t] (.int t.size):=by
 unfold Ev
 have hr: ∀(i:Int) (t:T) (s:Int),W.round 1 34 3 [.ref 0 0] [.int i,enc t] [.box [.int s], .loop 34 3 [.ref 0 0] .ready none]=
   some (if(fun _ _=>true:Int→T→Bool) i t=true then(true,[.box [.int (IntKind.i64.wrap (s+1))], .loop 34 3 [.ref 0 0] .ready none])else(false,[.dead, .dead])):=by
  intro i t s
  rw[Rd,Zt,zgu]
  rfl
 have hn:=zgz (x:=fun s:Int=> .box [.int s]) (nx:=fun s=>IntKind.i64.wrap (s+1)) (g:=fun _ _=>true) (b1:= .dead) (b2:= .dead) hr t 0 hs
 have hall: ∀(t:T) (i:Int),allW (fun _ _=>true) i t=true:=by
  intro t
  induction t using T.ind with
  |_ k h xs ih=>
   intro i
   simp only[allW,Bool.true_and]
   generalize(decide (k=1)||decide (k=3))=b
   have: ∀l:List T,(∀a∈l,∀i,allW (fun _ _=>true) i a=true)→Xe (fun _ _=>true) i b l=true:=by
    intro l
    induction l with
    |nil=>intro _;rfl
    |cons a l ihl=>
     intro h
     cases l with
     |nil=>simp only[Xe];exact h a (by simp) _
     |cons u l=>simp only[Xe,h a (by simp),Bool.true_and];exact ihl fun a ha=>h a (by simp[ha])
   exact this xs ih
 have hit: ∀(n:Nat) (s:Int),0≤s→s+n≤4611686018427387904→iter (fun s=>IntKind.i64.wrap (s+1)) n s=s+n:=by
  intro n
  induction n with
  |zero=>intro s _ _;simp[iter]
  |succ n ih=>
   intro s h0 h1
   simp only[iter]
   rw[Y9 ⟨by omega,by omega⟩,ih _ (by omega) (by omega)]
   omega
 rw[hall,if_pos rfl]at hn
 rw[hit t.size 0 (by omega) (by omega)]at hn
 rw[C]
 rw[Zt]at hn⊢
 rw[zkh,C,zed,Zb,Zd,ziH]
 have hn':W.call 70 ([]++[V.yld (List.length [Res.box [V.int 0]])]++[V.cptr (some 3) (V.agg [V.int t.k,V.int t.h,V.vec .plain (some 3) (Z0 t.args)])]) ([Res.box [V.int 0]]++[Res.loop 34 3 [V.ref 0 0] LSt.ready none])=_:=hn
 rw[hn',Zb]
 simp only[Int.zero_add]
 rfl
theorem zlq(k h:Int)(xs:List V):Ev 37 [.agg [.int k, .int h, .vec .plain (some 3) xs]] (.bool (zeL k h xs.length)):=by
 unfold Ev
 rw[C,zlj]
 simp only[znX,znY,zjP]
 simp only[Yk,zeL]
 by_cases k0:k=0
 ·subst k0
  simp only[decide_true,Zo,if_true]
  cases decide (h=0)<;>rfl
 by_cases k1:k=1
 ·subst k1
  simp only[show(1:Int)≠0 by decide,decide_true,decide_false,Zo,Zi,if_true,if_false]
  cases decide (h=0)<;>rfl
 by_cases k3:k=3
 ·subst k3
  simp only[show(3:Int)≠0 by decide,show(3:Int)≠1 by decide,decide_true,decide_false,Zo,Zi,if_true,if_false]
  cases decide (h=0)<;>rfl
 simp only[k0,k1,k3,decide_false,Zi,if_false,ge_iff_le]
 cases decide (0≤k)<;>cases decide (k<7)<;>simp[bc]
theorem znc(i k h:Int)(xs:List T):Ev 36 [.int i, .agg [.int k, .int h, .vec .plain (some 3) (Z0 xs)]] (.bool (zeL k h xs.length)):=by
 unfold Ev
 have:=(zlq k h (Z0 xs)).p (by simp[Zu,below])
 rw[Yj]at this
 rw[C,ziN,this]
 rfl
end Go.Proofs.SW
namespace Go.Proofs.SW
open Go Go.AM Go.Ama
def zp3(g:Nat)(a b:List V)(p:Int→T→Bool):Prop:=
 (cfg.pure g=true∧ ∀i t,ZD W g (a++[.int i,enc t]++b)=some (.bool (p i t)))∨
 (cfg.pure g=false∧ ∀i t st,W.call g (a++[.int i,enc t]++b) st=some (.ret (.bool (p i t)),st))
theorem zoh{g:Nat}{a b:List V}{p:Int→T→Bool}(hg:zp3 g a b p)(t:T)(hs:t.size≤1099511627776):W.call 35 [enc t, .fn g a b] []=some (.ret (.bool (allW p 0 t)),[]):=by
 have hr: ∀(i:Int) (t:T) (s:Unit),W.round 1 35 4 [.ref 0 0, .cptr none (.fn g a b)] [.int i,enc t] [(fun _=> .box [.bool false]:Unit→Res) s, .loop 35 4 [.ref 0 0, .cptr none (.fn g a b)] .ready none]=
   some (if p i t=true then(true,[(fun _=> .box [.bool false]:Unit→Res) ((fun s=>s) s), .loop 35 4 [.ref 0 0, .cptr none (.fn g a b)] .ready none])else(false,[.box [.bool false], .loop 35 4 [.ref 0 0, .cptr none (.fn g a b)] .done (some .ret)])):=by
  intro i t s
  rw[Rd,Zt,zhm]
  rcases hg with⟨hp,hm⟩|⟨hp,hm⟩
  ·have hm:=hm i t
   rw[Zt]at hm
   rw[hp,Zo,hm,Zb,Zr]
   cases p i t<;>rfl
  ·have hm:=hm i t
   rw[Zt]at hm
   rw[hp,Zi,hm,Zb,Zd,Zr]
   cases p i t<;>rfl
 have hn:=zgz (x:=fun _:Unit=> .box [.bool false]) (nx:=fun s=>s) (g:=p) hr t () hs
 rw[C]
 rw[Zt]at hn
 conv=>lhs;rw[Zt]
 rw[zli,C,zed,Zb,Zd,ziH]
 have hn':W.call 70 ([]++[V.yld (List.length [Res.box [V.bool false]])]++[V.cptr (some 3) (V.agg [V.int t.k,V.int t.h,V.vec .plain (some 3) (Z0 t.args)])]) ([Res.box [V.bool false]]++[Res.loop 35 4 [V.ref 0 0,V.cptr none (V.fn g a b)] LSt.ready none])=_:=hn
 rw[hn',Zb]
 cases allW p 0 t<;>rfl
theorem zhH(t:T)(hs:t.size≤1099511627776):Ev 16 [enc t] (.bool (may t)):=by
 unfold Ev
 have hg:zp3 36 [] [] (fun _ t=>zoY t):= .inl ⟨rfl,fun i t=>by
  rw[Zt];exact(znc i t.k t.h t.args).p (by simp[Zu,below])⟩
 have ha:=zoh hg t hs
 rw[zog]at ha
 rw[C,Zt,zlh,←Zt,(zko t hs).p,(zlp t hs).p,ha]
 simp only[Zb,YL,Zd,Zr,may]
 have e1:decide ((t.depth:Int)≤60)=decide (t.depth≤60):=decide_eq_decide.2 (by omega)
 have e2:decide ((t.size:Int)≤4000)=decide (t.size≤4000):=decide_eq_decide.2 (by omega)
 rw[e1,e2]
 cases decide (t.depth≤60)<;>cases decide (t.size≤4000)<;>simp[bc]
end Go.Proofs.SW
namespace Go.Ama
open Go.AM (T)
structure D where
 name:Bytes
 t:T
structure PS where
 l:List Tok
 s:List D
 e:Int
abbrev T0:T:= .mk 0 0 []
abbrev typ:Bytes:=[116,121,112,101]
def PS.fail(n:Int)(s:PS):PS:=if s.e=0 then {s with e:=n}else s
def PS.is(c:Bytes)(s:PS):Bool:=decide (s.e=0)&&match s.l with|[]=>false|t::_=>decide (t.1=1)&&decide (t.2=c)
def PS.named(s:PS):Bool:=decide (s.e=0)&&match s.l with|[]=>false|t::_=>decide (t.1=0)
def PS.token(b:Bool)(s:PS):Bytes×PS:=if b then match s.l with|[]=>([],s)|t::r=>(t.2,{s with l:=r})else([],s.fail 8)
def PS.take(c:Bytes)(s:PS):PS:=(s.token (s.is c)).2
def PS.name(s:PS):Bytes×PS:=s.token s.named
def zdy(x:Bytes):List Bytes→Option Nat
 |[]=>none
 |y::l=>if y=x then some 0 else(zdy x l).map (· +1)
def idx(x:Bytes):List D→Option Nat
 |[]=>none
 |d::l=>if d.name=x then some 0 else(idx x l).map (· +1)
def PS.head(x:Bytes)(bs:List Bytes)(s:PS):T×PS:=
 match zdy x bs with
 |some i=>(.mk 4 i [],s)
 |none=>
  match idx x s.s with
  |none=>(T0,s.fail 2)
  |some i=>(.mk (if(split ((s.s.map (·.t)).getD i T0)).2.k=0 then 2 else 5) i [],s)
def PS.alone(s:PS):PS:=if s.named||s.is [40]then s.fail 8 else s
section
variable(term:List Bytes→PS→T×PS)
def PS.inner(bs:List Bytes)(s:PS):T×PS:=let r:=term bs (s.take [40]);(r.1,r.2.take [41])
def PS.atom(bs:List Bytes)(s:PS):T×PS:=
 if s.is [40]then s.inner term bs
 else
  let r:=s.name
  if r.1=typ then(T0,r.2.fail 8)else r.2.head r.1 bs
def PS.args(bs:List Bytes):Nat→PS→List T×PS
 |0,s=>([],s)
 |m+1,s=>if s.named||s.is [40]then
   let r:=s.atom term bs
   let q:=PS.args bs m r.2
   (r.1::q.1,q.2)
  else([],s)
def PS.atoms(bs:List Bytes)(s:PS):T×PS:=
 if s.is [40]then
  let r:=s.inner term bs
  (r.1,r.2.alone)
 else
  let r:=s.name
  if r.2.e≠0 then(T0,r.2)
  else if r.1=typ then(T0,r.2.alone)
  else
   let h:=r.2.head r.1 bs
   let q:=PS.args term bs h.2.l.length h.2
   (.mk h.1.k h.1.h q.1,q.2)
end
def PS.term:Nat→List Bytes→PS→T×PS
 |0,_,s=>(T0,s.fail 4)
 |n+1,bs,s=>
  if s.is [123]then
   let x:=(s.take [123]).name
   let a:=PS.term n bs (x.2.take [58])
   let b:=PS.term n (x.1::bs) (a.2.take [125])
   (.mk 1 0 [a.1,b.1],b.2)
  else if s.is [91]then
   let x:=(s.take [91]).name
   let b:=PS.term n (x.1::bs) (x.2.take [93])
   (.mk 3 0 [b.1],b.2)
  else s.atoms (PS.term n) bs
def PS.whole(s:PS):T×PS:=
 let r:=s.term 120 []
 (r.1,if may r.1 then r.2 else r.2.fail 4)
def nameOK(x:Bytes):Bool:=decide (x.length≠0)&&decide (x.length≤40)&&decide (x.head? ≠some 95)&&decide (x≠typ)&&decide (Xi x=some [(0,x)])
def X1(b:Bytes):List Tok×Int:=if b.length>20000 then([],4)else match Xi b with|some l=>(l,0)|none=>([],8)
def Ya(b:Bytes)(sig:List D):T×Int:=
 let x:=X1 b
 let r:=(PS.mk x.1 sig x.2).whole
 let s:=if r.2.l≠ []then r.2.fail 8 else r.2
 if s.e≠0 then(T0,s.e)else(r.1,0)
end Go.Ama
namespace Go.Ama
open Go Go.AM
def Yg(d:Int):Tok:=(0,95::Lib.decDigits d.toNat)
def YP(c:UInt8):Tok:=(1,[c])
def zlr(k:Int):Bool:=k==4||k==2||k==5
def YA(sig:List D)(k h:Int)(d:Nat):Option Tok:=
 if k=4∧h<d then some (Yg (d-1-h))
 else if(k=2∨k=5)∧h<sig.length then(sig[h.toNat]?).map fun d=>(0,d.name)
 else none
def QA(t:T):Bool:=decide (t.args.length=0)&&zlr t.k
section
variable(sig:List D)
mutual
def words:T→Nat→List Tok
 | .mk k h xs,d=>if k=0 then[(0,typ)]else if k=1 then wPi xs d else if k=3 then zkq xs d else(YA sig k h d).toList++Yx xs d
def Yx:List T→Nat→List Tok
 |[],_=> []
 |t::l,d=>(bif QA t then words t d else YP 40::words t d++[YP 41])++Yx l d
def wPi:List T→Nat→List Tok
 |a::b::_,d=>YP 123::Yg d::YP 58::words a d++YP 125::words b (d+1)
 |_,_=> []
def zkq:List T→Nat→List Tok
 |a::_,d=>YP 91::Yg d::YP 93::words a (d+1)
 |_,_=> []
end
mutual
def okW:T→Nat→Bool
 | .mk k h xs,d=>if k=0 then true else if k=1 then zpa xs d else if k=3 then zlW xs d else(YA sig k h d).isSome&&QB xs d
def QB:List T→Nat→Bool
 |[],_=>true
 |t::l,d=>okW t d&&QB l d
def zpa:List T→Nat→Bool
 |a::b::_,d=>okW a d&&okW b (d+1)
 |_,_=>true
def zlW:List T→Nat→Bool
 |a::_,d=>okW a (d+1)
 |_,_=>true
end
end
def JV(t:T)(sig:List D):Bytes×Int:=
 if may t then(if okW sig t 0 then(text (words sig t 0),0)else([],2))else([],1)
def ziQ(x:Bytes)(l:List D):Nat:=(l.filter fun d=>decide (d.name=x)).length
end Go.Ama
namespace Go.Ama
open Go Go.AM
theorem QP: ∀a b:List Tok,ZT (a++b)=ZT a+ZT b
 |[],b=>by simp[ZT]
 |(_,s)::a,b=>by simp only[List.cons_append,ZT,QP a b];omega
theorem zkr{n:Nat}(h:n<100):(Lib.decDigits n).length≤2:=by
 rw[Lib.decDigits]
 split
 ·simp
 ·rw[Lib.decDigits,dif_pos (by omega)]
  simp
theorem zdz{n:Int}(h:n<100):(Yg n).2.length≤100:=by
 have:=zkr (n:=n.toNat) (by omega)
 simp only[Yg,List.length_cons]
 omega
theorem znd{sig:List D}(hs: ∀d∈sig,d.name.length≤100){k h:Int}{d:Nat}(hd:d≤99)(hh:0≤h):ZT (YA sig k h d).toList≤100:=by
 unfold YA
 split
 ·have:=zdz (n:=d-1-h) (by omega)
  simp only[Option.toList_some,ZT]
  exact this
 ·split
  ·cases hx:sig[h.toNat]? with
   |none=>simp[ZT]
   |some x=>have:=hs x (List.mem_of_getElem? hx);simpa[ZT]using this
  ·simp[ZT]
theorem JB{sig:List D}(t:T): ∀d,(words sig t d).length+2≤9*t.size:=by
 induction t using T.ind with
 |_ k h xs ih=>
  intro d
  have hl: ∀l:List T,(∀a∈l,∀d,(words sig a d).length+2≤9*a.size)→ ∀d,(Yx sig l d).length≤9*sizes l:=by
   intro l
   induction l with
   |nil=>intro _ d;simp[Yx]
   |cons a l ihl=>
    intro hh d
    have h1:=hh a (List.mem_cons_self ..) d
    have h2:=ihl (fun b hb=>hh b (List.mem_cons_of_mem _ hb)) d
    simp only[Yx,sizes,List.length_append]
    cases QA a<;>simp only[cond_true,cond_false,List.length_cons,List.length_append,List.length_nil]<;>omega
  unfold words
  simp only[T.size]
  split
  ·simp;omega
  ·split
   ·match xs,ih with
    |[],_=>simp[wPi];omega
    |[_],_=>simp[wPi];omega
    |a::b::r,ih=>
     have h1:=ih a (by simp) d
     have h2:=ih b (by simp) (d+1)
     simp only[wPi,sizes,List.length_cons,List.length_append]
     omega
   ·split
    ·match xs,ih with
     |[],_=>simp[zkq];omega
     |a::r,ih=>
      have h1:=ih a (by simp) (d+1)
      simp only[zkq,sizes,List.length_cons]
      omega
    ·have h1:=hl xs ih d
     have h2:(YA sig k h d).toList.length≤1:=by cases YA sig k h d<;>simp
     simp only[List.length_append]
     omega
theorem zee{sig:List D}(hs: ∀d∈sig,d.name.length≤100)(t:T): ∀d,XC t=true→d+t.depth≤100→ZT (words sig t d)+2≤110*t.size:=by
 induction t using T.ind with
 |_ k h xs ih=>
  intro d hn hd
  have hl: ∀l:List T,(∀a∈l,∀d,XC a=true→d+a.depth≤100→ZT (words sig a d)+2≤110*a.size)→ ∀d,YS l=true→d+ZI l≤100→ZT (Yx sig l d)≤110*sizes l:=by
   intro l
   induction l with
   |nil=>intro _ d _ _;simp[Yx,ZT]
   |cons a l ihl=>
    intro hh d hn hd
    simp only[YS,Bool.and_eq_true]at hn
    simp only[ZI]at hd
    have h1:=hh a (List.mem_cons_self ..) d hn.1 (by omega)
    have h2:=ihl (fun b hb=>hh b (List.mem_cons_of_mem _ hb)) d hn.2 (by omega)
    simp only[Yx,sizes,QP]
    cases QA a<;>simp only[cond_true,cond_false,List.cons_append,YP,ZT,QP,List.length_cons,List.length_nil]<;>omega
  unfold words
  simp only[XC,Bool.and_eq_true]at hn
  simp only[T.depth]at hd
  simp only[T.size]
  split
  ·simp[ZT,typ];omega
  ·rename_i k0
   split
   ·match xs,ih,hn,hd with
    |[],_,_,_=>simp[wPi,ZT];omega
    |[_],_,_,_=>simp[wPi,ZT];omega
    |a::b::r,ih,hn,hd=>
     simp only[YS,Bool.and_eq_true]at hn
     simp only[ZI]at hd
     have h1:=ih a (by simp) d hn.2.1 (by omega)
     have h2:=ih b (by simp) (d+1) hn.2.2.1 (by omega)
     have h3:=zdz (n:=(d:Int)) (by omega)
     simp only[wPi,sizes,Yg,ZT,QP,YP,List.length_cons,List.length_nil]at h3⊢
     omega
   ·rename_i k1
    split
    ·match xs,ih,hn,hd with
     |[],_,_,_=>simp[zkq,ZT];omega
     |a::r,ih,hn,hd=>
      simp only[YS,Bool.and_eq_true]at hn
      simp only[ZI]at hd
      have h1:=ih a (by simp) (d+1) hn.2.1 (by omega)
      have h3:=zdz (n:=(d:Int)) (by omega)
      simp only[zkq,sizes,Yg,ZT,QP,YP,List.length_cons,List.length_nil]at h3⊢
      omega
    ·rename_i k3
     have h0:0≤h:=by
      have:=hn.1
      unfold zeL at this
      rw[if_neg k0,if_neg k1,if_neg k3]at this
      simp only[Bool.and_eq_true,decide_eq_true_eq]at this
      exact this.2.2
     have h1:=hl xs ih d hn.2 (by omega)
     have h2:=znd hs (k:=k) (h:=h) (d:=d) (by omega) h0
     rw[QP]
     omega
end Go.Ama
namespace Go.Ama
open Go Go.AM
def zd0(d:D):V:= .agg [.str (ba d.name), .int d.t.k, .int d.t.h, .vec .plain (some 3) (Z0 d.t.args)]
def ZZ(l:List D):List V:=l.map zd0
def J1(l:List Bytes):List V:=l.map fun b=> .str (ba b)
@[simp] theorem XZ(l:List D):(ZZ l).length=l.length:=by simp[ZZ]
@[simp] theorem zqi:ZZ []=[]:=rfl
@[simp] theorem zce(l:List Bytes):(J1 l).length=l.length:=by simp[J1]
theorem zks(a b:List Bytes):J1 (a++b)=J1 a++J1 b:=by simp[J1]
theorem zbp{l:List D}{i:Nat}(h:i<l.length):YR (ZZ l) (i:Int)=zd0 l[i]:=by
 simp[YR,ZZ,List.getD_eq_getElem?_getD,List.getElem?_map,h]
theorem zne{l:List Bytes}{i:Nat}(h:i<l.length):YR (J1 l) (i:Int)= .str (ba l[i]):=by
 simp[YR,J1,List.getD_eq_getElem?_getD,List.getElem?_map,h]
theorem zg0(n:Nat)(d:D):below n (zd0 d)=true:=by simp[zd0,below,Zu,QL]
theorem zan(n:Nat): ∀l:List D,Zu n (ZZ l)=true
 |[]=>rfl
 |d::l=>by
  have:=zan n l
  simp only[ZZ]at this
  simp[ZZ,Zu,zg0,this]
theorem zdd{R:Type}(d:D)(K:ByteArray→Int→Int→List V→Option R):Zg (R:=R) [CT.str,CT.int,CT.int,CT.slice (some 3)] (zd0 d) K=K (ba d.name) d.t.k d.t.h (Z0 d.t.args):=rfl
def Y0(m:AM.Mode)(s:PS):Res:= .box [.vec .plain (some 2) (Zj s.l), .vec m (some 4) (ZZ s.s), .int s.e]
end Go.Ama
namespace Go.Proofs.SW
open Go Go.AM Go.Ama
def Y8(m:AM.Mode)(sig:List D)(l:List Tok)(e:Int):Res:= .box [.vec .plain (some 4) (ZZ sig), .vec m (some 2) (Zj l), .int e]
def GF(m:AM.Mode):Prop:=m= .grow∨m= .full
theorem zpb{n:Int}(h0:0≤n)(h1:n<100):Ev 64 [.int n] (.str (ba (Lib.decDigits n.toNat))):=by
 unfold Ev
 rw[Cx 64 _ _ (x:=fun _ args st=>zlR args st) rfl]
 show gd (decide (0≤n)&&decide (n<100)) _=_
 rw[decide_eq_true h0,decide_eq_true h1]
 rfl
section
variable{sig:List D}{m:AM.Mode}(hm:GF m)
include hm
theorem zd1(l:List Tok)(e:Int)(s:Bytes)(hl:l.length≤1000000):W.call 41 [.ref 0 0, .str (ba s)] [Y8 m sig l e]=some (.ret (.tup []),[Y8 .grow sig (l++[(0,s)]) e]):=by
 have hr:roomFor Tryd.prog 58 ((Zj l).length+[V.agg [V.int 0,V.str (ba s)]].length)=true:=zaM (by simp;omega)
 have hb:Y8 .grow sig (l++[(0,s)]) e= .box [.vec .plain (some 4) (ZZ sig), .vec .grow (some 2) (Zj l++[V.agg [V.int 0,V.str (ba s)]]), .int e]:=by rw[Y8,Q6];rfl
 rw[C,zdw,hb]
 generalize roomFor Tryd.prog 58=R at hr⊢
 rcases hm with rfl|rfl<;>
 ·refine Eq.trans (b:=gd (true&&R ((Zj l).length+[V.agg [V.int 0,V.str (ba s)]].length)) (some (.ret (.tup []),[.box [.vec .plain (some 4) (ZZ sig), .vec .grow (some 2) (Zj l++[V.agg [V.int 0,V.str (ba s)]]), .int e]]))) rfl ?_
  rw[hr]
  rfl
theorem zcf(l:List Tok)(e:Int)(c:UInt8)(hl:l.length≤1000000):W.call 45 [.ref 0 0, .vec .plain none [.str (ba [c])]] [Y8 m sig l e]=some (.ret (.tup []),[Y8 .grow sig (l++[YP c]) e]):=by
 have hr:roomFor Tryd.prog 58 ((Zj l).length+[V.agg [V.int 1,V.str (ba [c])]].length)=true:=zaM (by simp;omega)
 have hb:Y8 .grow sig (l++[YP c]) e= .box [.vec .plain (some 4) (ZZ sig), .vec .grow (some 2) (Zj l++[V.agg [V.int 1,V.str (ba [c])]]), .int e]:=by rw[Y8,Q6];rfl
 have h1:W.loop 45 1 [.int 1, .ref 0 0, .vec .plain none [.str (ba [c])], .int 1] [Y8 .grow sig (l++[YP c]) e]=some (.exit 0,[],[Y8 .grow sig (l++[YP c]) e]):=by
  rw[L,Q9]
  rfl
 have h2:W.loop 45 1 [.int 0, .ref 0 0, .vec .plain none [.str (ba [c])], .int 1] [Y8 m sig l e]=some (.exit 0,[],[Y8 .grow sig (l++[YP c]) e]):=by
  rw[←h1,L,Q9,hb]
  generalize roomFor Tryd.prog 58=R at hr⊢
  generalize W=O
  rcases hm with rfl|rfl<;>
  ·refine Eq.trans (b:=gd (true&&R ((Zj l).length+[V.agg [V.int 1,V.str (ba [c])]].length)) (O.loop 45 1 [.int (IntKind.i64.wrap (0+1)), .ref 0 0, .vec .plain none [.str (ba [c])], .int 1] [.box [.vec .plain (some 4) (ZZ sig), .vec .grow (some 2) (Zj l++[V.agg [V.int 1,V.str (ba [c])]]), .int e]])) rfl ?_
   rw[hr]
   rfl
 rw[C,zcE]
 have h3:W.loop 45 1 [.int 0, .ref 0 0, .vec .plain none [.str (ba [c])], .int (([V.str (ba [c])].length:Nat):Int)] [Y8 m sig l e]=_:=h2
 rw[h3]
 rfl
theorem zcg(l:List Tok)(e:Int)(n:Int)(h0:0≤n)(h1:n<100)(hl:l.length≤1000000):W.call 44 [.ref 0 0, .int n] [Y8 m sig l e]=some (.ret (.tup []),[Y8 .grow sig (l++[Yg n]) e]):=by
 have hd:=zkr (n:=n.toNat) (by omega)
 have hg:decide (1+(ba (Lib.decDigits n.toNat)).size≤9223372036854775807)=true:=by rw[Xl];exact decide_eq_true (by omega)
 have hs:({data:= #[95]}:ByteArray)++ba (Lib.decDigits n.toNat)=ba (95::Lib.decDigits n.toNat):=zmQ [95] _
 rw[C,zcD,(zpb h0 h1).p,Zb,X8,hg,ZU,hs,zd1 hm l e _ hl]
 rfl
theorem zch(l:List Tok)(e:Int)(o c:UInt8){g:Nat}{caps:List V}(hp:cfg.pure g=false){m2:AM.Mode}{l2:List Tok}{e2:Int}(hm2:GF m2)
  (hc:W.call g caps [Y8 .grow sig (l++[YP o]) e]=some (.ret (.tup []),[Y8 m2 sig l2 e2])) (hl:l.length≤1000000) (hl2:l2.length≤1000000):
  W.call 42 [.ref 0 0, .str (ba [o]), .str (ba [c]), .fn g [] caps] [Y8 m sig l e]=some (.ret (.tup []),[Y8 .grow sig (l2++[YP c]) e2]):=by
 rw[C,zbY,zcf hm l e o hl]
 show bc (cfg.pure g) _ (Za (W.call g caps [Y8 .grow sig (l++[YP o]) e]) _)=_
 rw[hp,Zi,hc]
 show Za (W.call 45 [.ref 0 0, .vec .plain none [.str (ba [c])]] [Y8 m2 sig l2 e2]) _=_
 rw[zcf hm2 l2 e2 c hl2]
 rfl
theorem zls(hs:sig.length≤1000)(l:List Tok)(e:Int)(k h:Int)(xs:List T)(d:Nat)(hh:0≤h)(hd:d≤100)(hl:l.length≤1000000):
  ∃m',GF m'∧W.call 47 [.ref 0 0, .agg [.int k, .int h, .vec .plain (some 3) (Z0 xs)], .int d] [Y8 m sig l e]=some (.ret (.tup []),[Y8 m' sig (l++(YA sig k h d).toList) (bif (YA sig k h d).isSome then e else 2)]):=by
 have hfail:W.call 47 [.ref 0 0, .agg [.int k, .int h, .vec .plain (some 3) (Z0 xs)], .int d] [Y8 m sig l e]=some (.ret (.tup []),[Y8 m sig l 2])→
  YA sig k h d=none→ ∃m',GF m'∧W.call 47 [.ref 0 0, .agg [.int k, .int h, .vec .plain (some 3) (Z0 xs)], .int d] [Y8 m sig l e]=some (.ret (.tup []),[Y8 m' sig (l++(YA sig k h d).toList) (bif (YA sig k h d).isSome then e else 2)]):=by
  intro h1 h2
  refine⟨m,hm, ?_⟩
  rw[h1,h2]
  simp
 have hname: ∀i:Nat,(hi:i<sig.length)→W.call 41 [.ref 0 0, .str (ba (sig[i]).name)] [Y8 m sig l e]=some (.ret (.tup []),[Y8 .grow sig (l++[(0,(sig[i]).name)]) e]):=fun i hi=>zd1 hm l e _ hl
 obtain⟨i,rfl⟩:=Int.eq_ofNat_of_zero_le hh
 by_cases h4:k=4
 ·subst h4
  by_cases hlt:(i:Int)<d
  ·have hT:YA sig 4 i d=some (Yg (d-1-i)):=by unfold YA;rw[if_pos ⟨rfl,hlt⟩]
   refine⟨.grow, .inl rfl, ?_⟩
   rw[hT,C,X0,Yk,decide_eq_true rfl,Zo,decide_eq_true hlt,Zo,zds (n:=(d:Int)-1) (by omega) (by omega),zds (n:=(d:Int)-1-i) (by omega) (by omega),zcg hm l e _ (by omega) (by omega) hl]
   rfl
  ·refine hfail ?_ (by unfold YA;rw[if_neg (by omega),if_neg (by omega)])
   rw[C,X0,Yk,decide_eq_true rfl,Zo,decide_eq_false hlt]
   rfl
 ·by_cases h2:(k=2∨k=5)∧(i:Int)<sig.length
  ·have hi:i<sig.length:=by omega
   have hT:YA sig k i d=some (0,(sig[i]).name):=by
    unfold YA
    rw[if_neg (by omega),if_pos h2,Int.toNat_natCast,List.getElem?_eq_getElem hi]
    rfl
   refine⟨.grow, .inl rfl, ?_⟩
   have hi2:decide ((i:Int)<((ZZ sig).length:Int))=true:=by rw[XZ];exact decide_eq_true h2.2
   have hi3:(decide ((0:Int)≤(i:Int))&&decide ((i:Int)<((ZZ sig).length:Int)))=true:=by rw[hi2,decide_eq_true (by omega)];rfl
   have hx:YR (ZZ sig) (i:Int)=zd0 sig[i]:=zbp hi
   have e1: ∀{α:Type} (K:List V→Option α),ZH [Y8 m sig l e] 0 (fun x=>ZS x K)=K [.vec .plain (some 4) (ZZ sig), .vec m (some 2) (Zj l), .int e]:=fun K=>rfl
   have e2: ∀{α:Type} (K:List V→Option α),Ys (some 4) (Zm (AM.partOf [.vec .plain (some 4) (ZZ sig), .vec m (some 2) (Zj l), .int e] 0 none)) K=K (ZZ sig):=fun K=>rfl
   have e3: ∀{α:Type} (K:List V→Option α),YX (zd0 sig[i]) K=K [.str (ba (sig[i]).name), .int (sig[i]).t.k, .int (sig[i]).t.h, .vec .plain (some 3) (Z0 (sig[i]).t.args)]:=fun K=>rfl
   have e4: ∀{α:Type} (K:ByteArray→Option α),YW (AM.partOf [.str (ba (sig[i]).name), .int (sig[i]).t.k, .int (sig[i]).t.h, .vec .plain (some 3) (Z0 (sig[i]).t.args)] 0 none) K=K (ba (sig[i]).name):=fun K=>rfl
   rw[hT,C,X0,Yk,decide_eq_false h4,Zi]
   rcases h2.1 with rfl|rfl
   ·rw[Yk,decide_eq_true rfl,Zo]
    simp only[e1,e2,hi2,Zo,hi3,hx,e3,e4,hname i hi]
    rfl
   ·rw[Yk,decide_eq_false (by decide),Zi,Yk,decide_eq_true rfl,Zo]
    simp only[e1,e2,hi2,Zo,hi3,hx,e3,e4,hname i hi]
    rfl
  ·refine hfail ?_ (by unfold YA;rw[if_neg (by omega),if_neg h2])
   have e1: ∀{α:Type} (K:List V→Option α),ZH [Y8 m sig l e] 0 (fun x=>ZS x K)=K [.vec .plain (some 4) (ZZ sig), .vec m (some 2) (Zj l), .int e]:=fun K=>rfl
   have e2: ∀{α:Type} (K:List V→Option α),Ys (some 4) (Zm (AM.partOf [.vec .plain (some 4) (ZZ sig), .vec m (some 2) (Zj l), .int e] 0 none)) K=K (ZZ sig):=fun K=>rfl
   rw[C,X0,Yk,decide_eq_false h4,Zi]
   by_cases hk2:k=2
   ·subst hk2
    have hi2:decide ((i:Int)<((ZZ sig).length:Int))=false:=by rw[XZ];exact decide_eq_false (by omega)
    rw[Yk,decide_eq_true rfl,Zo]
    simp only[e1,e2,hi2]
    rfl
   ·rw[Yk,decide_eq_false hk2,Zi]
    by_cases hk5:k=5
    ·subst hk5
     have hi2:decide ((i:Int)<((ZZ sig).length:Int))=false:=by rw[XZ];exact decide_eq_false (by omega)
     rw[Yk,decide_eq_true rfl,Zo]
     simp only[e1,e2,hi2]
     rfl
    ·rw[Yk,decide_eq_false hk5,Zi]
     rfl
end
end Go.Proofs.SW
namespace Go.Proofs.SW
open Go Go.AM Go.Ama
theorem zkt(t:T):Ev 48 [enc t] (.bool (QA t)):=by
 obtain⟨k,h,xs⟩:=t
 unfold Ev
 rw[C]
 show Ze Tryd.prog cfg W 48 [.agg [.int k, .int h, .vec .plain (some 3) (Z0 xs)]] []=_
 rw[zhl]
 have hx:(((Z0 xs).length:Int)==0)=decide (xs.length=0):=by rw[Yk,Yj];simp
 rw[hx]
 unfold QA
 show _=some (Out.ret (V.bool (decide (xs.length=0)&&(k==4||k==2||k==5))),[])
 cases decide (xs.length=0)<;>cases(k==4)<;>cases(k==2)<;>rfl
theorem X2{α:Type}(t:T)(K:Int→Int→List V→Option α):Zg [CT.int,CT.int,CT.slice (some 3)] (enc t) K=K t.k t.h (Z0 t.args):=by cases t;rfl
theorem zlX{a b:Bool}{e:Int}:(bif b then(bif a then e else 2)else 2)=(bif (a&&b)then e else 2):=by cases a<;>cases b<;>rfl
theorem zef: ∀{l:List T} {a:T},a∈l→a.depth≤ZI l
 |b::l,a,h=>by
  simp only[ZI]
  rcases List.mem_cons.1 h with rfl|h
  ·omega
  ·have:=zef h;omega
def Wr(sig:List D)(t:T):Prop:= ∀(d:Nat) (m:AM.Mode) (l:List Tok) (e:Int),GF m→XC t=true→d+t.depth≤100→l.length+10*t.size≤1000000→
 ∃m',GF m'∧W.call 24 [.ref 0 0,enc t, .int d] [Y8 m sig l e]=some (.ret (.tup []),[Y8 m' sig (l++words sig t d) (bif okW sig t d then e else 2)])
theorem zlt{sig:List D}(xs:List T)(ih: ∀a∈xs,Wr sig a)(d:Nat)(hn:YS xs=true)(hd:d+ZI xs≤100)(hx:xs.length≤1000000): ∀j k,k+j=xs.length→ ∀(c:Bool) (m:AM.Mode) (l:List Tok) (e:Int),GF m→l.length+10*sizes (xs.drop k)+1≤1000000→
  ∃m',GF m'∧W.loop 24 4 [.int (k:Nat),(bif c then .cptr none (.int d)else .loc false none (.int d)),(bif c then .cptr none (.ref 0 0)else .loc false none (.ref 0 0)), .vec .plain (some 3) (Z0 xs), .int xs.length] [Y8 m sig l e]=
   some (.exit 1,[],[Y8 m' sig (l++Yx sig (xs.drop k) d) (bif QB sig (xs.drop k) d then e else 2)]):=by
 intro j
 induction j with
 |zero=>
  intro k hk c m l e hm hl
  have hkl:k=xs.length:=by omega
  subst hkl
  have hlt:decide (((xs.length:Nat):Int)<xs.length)=false:=by simp
  refine⟨m,hm, ?_⟩
  rw[List.drop_length]
  cases c
  ·simp only[cond_false]
   rw[L,Xg,hlt,Zi]
   simp[Yx,QB]
  ·simp only[cond_true]
   rw[L,XB,hlt,Zi]
   simp[Yx,QB]
 |succ j ihj=>
  intro k hk c m l e hm hl
  have hkl:k<xs.length:=by omega
  have hlt:decide (((k:Nat):Int)<xs.length)=true:=by simp;omega
  have hlt2:(decide ((0:Int)≤(k:Nat))&&decide (((k:Nat):Int)<((Z0 xs).length:Int)))=true:=by rw[Yj,hlt];simp
  have hdr:xs.drop k=xs[k]::xs.drop (k+1):=List.drop_eq_getElem_cons hkl
  have hmem:xs[k]∈xs:=List.getElem_mem hkl
  have hna:XC xs[k]=true:=by rw[zgx,List.all_eq_true]at hn;exact hn _ hmem
  have hda:d+(xs[k]).depth≤100:=by have:=zef hmem;omega
  rw[hdr]at hl
  simp only[sizes]at hl
  have hw:IntKind.i64.wrap ((k:Nat)+1:Int)=((k+1:Nat):Int):=zds (by omega) (by omega)
  have hp:=(zkt xs[k]).p
  rw[Zt]at hp
  have hlen:=JB (sig:=sig) xs[k] d
  rw[hdr]
  simp only[Yx,QB]
  cases hs:QA xs[k]
  ·
   obtain⟨m1,hm1,h1⟩:=ih _ hmem d .grow (l++[YP 40]) e (.inl rfl) hna hda (by simp;omega)
   have hc:W.call 49 [.cptr none (.ref 0 0), .cptr (some 3) (.agg [.int (xs[k]).k, .int (xs[k]).h, .vec .plain (some 3) (Z0 (xs[k]).args)]), .cptr none (.int d)] [Y8 .grow sig (l++[YP 40]) e]=some (.ret (.tup []),[Y8 m1 sig (l++[YP 40]++words sig xs[k] d) (bif okW sig xs[k] d then e else 2)]):=by
    rw[Zt]at h1
    rw[C,zcb,h1]
    rfl
   have h2:=zch hm l e 40 41 (g:=49) rfl hm1 hc (by omega) (by simp;omega)
   have h2':W.call 42 [V.ref 0 0,V.str {data:= #[40]},V.str {data:= #[41]},V.fn 49 [] [.cptr none (.ref 0 0), .cptr (some 3) (.agg [.int (xs[k]).k, .int (xs[k]).h, .vec .plain (some 3) (Z0 (xs[k]).args)]), .cptr none (.int d)]] [Y8 m sig l e]=_:=h2
   obtain⟨m3,hm3,h3⟩:=ihj (k+1) (by omega) true .grow (l++[YP 40]++words sig xs[k] d++[YP 41]) (bif okW sig xs[k] d then e else 2) (.inl rfl) (by simp;omega)
   refine⟨m3,hm3, ?_⟩
   rw[zlX]at h3
   simp only[cond_true]at h3
   simp only[cond_false]
   have he:l++(YP 40::words sig xs[k] d++[YP 41]++Yx sig (xs.drop (k+1)) d)=l++[YP 40]++words sig xs[k] d++[YP 41]++Yx sig (xs.drop (k+1)) d:=by simp
   rw[he,←h3]
   cases c
   ·simp only[cond_false]
    rw[L,Xg,hlt,Zo,hlt2,ZU,Qv hkl,X2,hp,Zb,hs,Zr,Zi,h2',hw]
    rfl
   ·simp only[cond_true]
    rw[L,XB,hlt,Zo,hlt2,ZU,Qv hkl,X2,hp,Zb,hs,Zr,Zi,h2',hw]
    rfl
  ·obtain⟨m1,hm1,h1⟩:=ih _ hmem d m l e hm hna hda (by omega)
   rw[Zt]at h1
   obtain⟨m3,hm3,h3⟩:=ihj (k+1) (by omega) c m1 (l++words sig xs[k] d) (bif okW sig xs[k] d then e else 2) hm1 (by simp;omega)
   refine⟨m3,hm3, ?_⟩
   rw[zlX]at h3
   simp only[cond_true]
   rw[←List.append_assoc,←h3]
   cases c
   ·simp only[cond_false]
    rw[L,Xg,hlt,Zo,hlt2,ZU,Qv hkl,X2,hp,Zb,hs,Zr,Zo,h1,hw]
    rfl
   ·simp only[cond_true]
    rw[L,XB,hlt,Zo,hlt2,ZU,Qv hkl,X2,hp,Zb,hs,Zr,Zo,h1,hw]
    rfl
theorem zlu{sig:List D}(hsig:sig.length≤1000)(t:T):Wr sig t:=by
 induction t using T.ind with
 |_ k h xs ih=>
  intro d m l e hm hn hd hl
  simp only[XC,Bool.and_eq_true]at hn
  simp only[T.depth]at hd
  simp only[T.size]at hl
  have hC:W.call 24 [.ref 0 0,enc (.mk k h xs), .int d] [Y8 m sig l e]=Ze Tryd.prog cfg W 24 [.ref 0 0, .agg [.int k, .int h, .vec .plain (some 3) (Z0 xs)], .int d] [Y8 m sig l e]:=C ..
  rw[hC,zdv,Yk,Yk,Yk]
  have hm1:=hn.1
  unfold zeL at hm1
  unfold words okW
  by_cases h0:k=0
  ·have hT:W.call 41 [.ref 0 0, .str {data:= #[116,121,112,101]}] [Y8 m sig l e]=_:=zd1 hm l e typ (by omega)
   refine⟨.grow, .inl rfl, ?_⟩
   rw[decide_eq_true h0,Zo,hT,if_pos h0,if_pos h0]
   rfl
  ·rw[decide_eq_false h0,Zi]
   rw[if_neg h0]at hm1
   simp only[if_neg h0]
   have hw:IntKind.i64.wrap ((d:Int)+1)=((d+1:Nat):Int):=zds (by omega) (by omega)
   by_cases h1:k=1
   ·rw[if_pos h1]at hm1
    simp only[Bool.and_eq_true,decide_eq_true_eq]at hm1
    rw[decide_eq_true h1,Zo]
    simp only[if_pos h1]
    match xs,hm1.2,ih,hn,hd,hl with
    |[a,b],_,ih,hn,hd,hl=>
     simp only[YS,Bool.and_eq_true]at hn
     simp only[ZI]at hd
     simp only[sizes]at hl
     have la:=JB (sig:=sig) a d
     have lb:=JB (sig:=sig) b (d+1)
     obtain⟨m1,hm1,w1⟩:=ih a (by simp) d .grow (l++[YP 123]++[Yg d]++[YP 58]) e (.inl rfl) hn.2.1 (by omega) (by simp;omega)
     have hc:W.call 43 [.cptr none (.ref 0 0), .cptr none (.int d), .cptr (some 3) (.agg [.int k, .int h, .vec .plain (some 3) (Z0 [a,b])])] [Y8 .grow sig (l++[YP 123]) e]=some (.ret (.tup []),[Y8 m1 sig (l++[YP 123]++[Yg d]++[YP 58]++words sig a d) (bif okW sig a d then e else 2)]):=by
      have hbd:=zcg (sig:=sig) (m:= .grow) (.inl rfl) (l++[YP 123]) e (d:Int) (by omega) (by omega) (by simp;omega)
      have hmk:=zcf (sig:=sig) (m:= .grow) (.inl rfl) (l++[YP 123]++[Yg d]) e 58 (by simp;omega)
      have hmk':W.call 45 [V.ref 0 0,V.vec .plain none [V.str {data:= #[58]}]] [Y8 .grow sig (l++[YP 123]++[Yg d]) e]=_:=hmk
      rw[Zt]at w1
      rw[C,zbZ,hbd]
      show Za (W.call 45 [V.ref 0 0,V.vec .plain none [V.str {data:= #[58]}]] [Y8 .grow sig (l++[YP 123]++[Yg d]) e]) _=_
      rw[hmk']
      have hg:YR (Z0 [a,b]) 0=enc a:=rfl
      have hq:(true&&decide ((0:Int)<((Z0 [a,b]).length:Int)))=true:=rfl
      simp only[Zb,Zd,Yr,Ye,hq,ZU,hg,X2,w1]
      rfl
     have h2:=zch hm l e 123 125 (g:=43) rfl hm1 hc (by omega) (by simp;omega)
     have h2':W.call 42 [V.ref 0 0,V.str {data:= #[123]},V.str {data:= #[125]},V.fn 43 [] [.cptr none (.ref 0 0), .cptr none (.int d), .cptr (some 3) (.agg [.int k, .int h, .vec .plain (some 3) (Z0 [a,b])])]] [Y8 m sig l e]=_:=h2
     obtain⟨m3,hm3,w3⟩:=ih b (by simp) (d+1) .grow (l++[YP 123]++[Yg d]++[YP 58]++words sig a d++[YP 125]) (bif okW sig a d then e else 2) (.inl rfl) hn.2.2.1 (by omega) (by simp;omega)
     refine⟨m3,hm3, ?_⟩
     rw[zlX,Zt]at w3
     simp only[wPi,zpa]
     have he:l++(YP 123::Yg ↑d::YP 58::words sig a d++YP 125::words sig b (d+1))=l++[YP 123]++[Yg d]++[YP 58]++words sig a d++[YP 125]++words sig b (d+1):=by simp
     rw[he,h2',hw]
     have hg:YR (Z0 [a,b]) 1=enc b:=rfl
     have hq:(true&&decide ((1:Int)<((Z0 [a,b]).length:Int)))=true:=rfl
     simp only[Zb,Zd,Yr,Ye,hq,ZU,hg,X2,w3]
     rfl
   ·rw[decide_eq_false h1,Zi]
    rw[if_neg h1]at hm1
    simp only[if_neg h1]
    by_cases h3:k=3
    ·rw[if_pos h3]at hm1
     simp only[Bool.and_eq_true,decide_eq_true_eq]at hm1
     rw[decide_eq_true h3,Zo]
     simp only[if_pos h3]
     match xs,hm1.2,ih,hn,hd,hl with
     |[b],_,ih,hn,hd,hl=>
      simp only[YS,Bool.and_eq_true]at hn
      simp only[ZI]at hd
      simp only[sizes]at hl
      have lb:=JB (sig:=sig) b (d+1)
      have hc:W.call 46 [.cptr none (.ref 0 0), .cptr none (.int d)] [Y8 .grow sig (l++[YP 91]) e]=some (.ret (.tup []),[Y8 .grow sig (l++[YP 91]++[Yg d]) e]):=by
       have hbd:=zcg (sig:=sig) (m:= .grow) (.inl rfl) (l++[YP 91]) e (d:Int) (by omega) (by omega) (by simp;omega)
       rw[C,zca,hbd]
       rfl
      have h2:=zch hm l e 91 93 (g:=46) rfl (.inl rfl) hc (by omega) (by simp;omega)
      have h2':W.call 42 [V.ref 0 0,V.str {data:= #[91]},V.str {data:= #[93]},V.fn 46 [] [.cptr none (.ref 0 0), .cptr none (.int d)]] [Y8 m sig l e]=_:=h2
      obtain⟨m3,hm3,w3⟩:=ih b (by simp) (d+1) .grow (l++[YP 91]++[Yg d]++[YP 93]) e (.inl rfl) hn.2.1 (by omega) (by simp;omega)
      refine⟨m3,hm3, ?_⟩
      rw[Zt]at w3
      simp only[zkq,zlW]
      have he:l++(YP 91::Yg ↑d::YP 93::words sig b (d+1))=l++[YP 91]++[Yg d]++[YP 93]++words sig b (d+1):=by simp
      rw[he,h2',hw]
      have hg:YR (Z0 [b]) 0=enc b:=rfl
      have hq:(true&&decide ((0:Int)<((Z0 [b]).length:Int)))=true:=rfl
      simp only[Zb,Zd,Yr,Ye,hq,ZU,hg,X2,w3]
      rfl
    ·rw[decide_eq_false h3,Zi]
     rw[if_neg h3]at hm1
     simp only[Bool.and_eq_true,decide_eq_true_eq]at hm1
     simp only[if_neg h3]
     obtain⟨m1,hm1',w1⟩:=zls hm hsig l e k h xs d hm1.2.2 (by omega) (by omega)
     have hlen:(YA sig k h d).toList.length≤1:=by cases YA sig k h d<;>simp
     have hxl:xs.length≤sizes xs:=YF xs
     obtain⟨m3,hm3,w3⟩:=zlt xs ih d hn.2 (by omega) (by omega) xs.length 0 (by omega) false m1 (l++(YA sig k h d).toList) (bif (YA sig k h d).isSome then e else 2) hm1' (by simp only[List.length_append,List.drop_zero];omega)
     refine⟨m3,hm3, ?_⟩
     rw[zlX,List.drop_zero]at w3
     simp only[cond_false]at w3
     rw[w1,←List.append_assoc]
     simp only[Zb,Zd,Yr,Ye,Yj]
     have w3':W.loop 24 4 [.int 0, .loc false none (.int d), .loc false none (.ref 0 0), .vec .plain (some 3) (Z0 xs), .int (xs.length:Nat)] [Y8 m1 sig (l++(YA sig k h d).toList) (bif (YA sig k h d).isSome then e else 2)]=some (.exit 1,[],[Y8 m3 sig (l++(YA sig k h d).toList++Yx sig xs d) (bif ((YA sig k h d).isSome&&QB sig xs d)then e else 2)]):=w3
     rw[w3']
     rfl
end Go.Proofs.SW
namespace Go.Proofs.SW
open Go Go.AM
set_option maxRecDepth 20000
theorem ziR(O:Oracle)(l0:(List V))(l1:(List V)):Ze Tryd.prog cfg O 18 [.vec .plain none l0, .vec .plain (some 4) l1] []=
 Za (ZD O 32 [V.vec .plain none l0]) fun r1=>ZP r1 fun c2=>Zy c2 fun v3 c4=>Ys (some 2) v3 fun l5=>Zy c4 fun v6 c7=>Z2 v6 fun n8=>Zs
 c7 (Za (O.call 39 [V.ref 0 0] [Res.box [V.vec .plain (some 2) l5,V.vec .plain (some 4) l1,V.int n8]]) fun r9=>Zk r9.fst (fun v10=>Zg [CT.int,
 CT.int,CT.slice (some 3)] v10 fun n11 n12 l13=>ZH r9.snd 0 fun x14=>ZS x14 fun c15=>gd (decide (1≤c15.length)&&true) (Ys (some 2) (Zm (AM.partOf c15 0
 none)) fun l16=>bc (decide ((↑l16.length:Int)>0)) (Za (O.call 40 [V.ref 0 0,V.int 8] r9.snd) fun r17=>Zk r17.fst (fun v18=>ZP v18 fun c19=>
 Zs c19 (ZH r17.snd 0 fun x20=>ZS x20 fun c21=>gd (decide (3≤c21.length)&&true) (Z2 (Zm (AM.partOf c21 2 none)) fun n22=>bc (n22 !=0) (ZH r17.snd 0 fun
 x23=>ZS x23 fun c24=>gd (decide (3≤c24.length)&&true) (Z2 (Zm (AM.partOf c24 2 none)) fun n25=>some (Out.ret (V.tup [V.agg [V.int 0,V.int 0,V.vec .plain
 (some 3) []],V.int n25]),[]))) (gd (below 0 (V.tup [V.agg [V.int n11,V.int n12,V.vec .plain (some 3) l13],V.int 0])&&ZO 0 []) (some (Out.ret (V.tup [V.agg [V.int n11,
 V.int n12,V.vec .plain (some 3) l13],V.int 0]),[])))))) fun p26=>none) (ZH r9.snd 0 fun x27=>ZS x27 fun c28=>gd (decide (3≤c28.length)&&true) (Z2 (Zm
 (AM.partOf c28 2 none)) fun n29=>bc (n29 !=0) (ZH r9.snd 0 fun x30=>ZS x30 fun c31=>gd (decide (3≤c31.length)&&true) (Z2 (Zm (AM.partOf c31 2 none)) fun n32
 =>some (Out.ret (V.tup [V.agg [V.int 0,V.int 0,V.vec .plain (some 3) []],V.int n32]),[]))) (gd (below 0 (V.tup [V.agg [V.int n11,V.int n12,V.vec .plain (some 3) l13],V.int
 0])&&ZO 0 []) (some (Out.ret (V.tup [V.agg [V.int n11,V.int n12,V.vec .plain (some 3) l13],V.int 0]),[]))))))) fun p33=>none):=by kernel_rfl
theorem zcF(O:Oracle)(l s:List V)(m:AM.Mode)(e n:Int):Ze Tryd.prog cfg O 40 [.ref 0 0, .int n] [.box [.vec .plain (some 2) l, .vec m (some 4) s, .int e]]=
 bc (e==0) (some (Out.ret (V.tup []),[Res.box [V.vec .plain (some 2) l,V.vec m (some 4) s,V.int n]])) (some (Out.ret (V.tup []),[Res.box [V.vec .plain (some 2) l,V.vec m
 (some 4) s,V.int e]])):=by kernel_rfl
theorem zci(O:Oracle)(r0:Nat)(st:St):Ze Tryd.prog cfg O 39 [.ref r0 0] st=
 Za (O.call 63 [V.ref r0 0,V.vec .plain none [],V.int 1] st) fun r1=>Zk r1.fst (fun v2=>Zg [CT.int,CT.int,CT.slice (some 3)] v2 fun n3 n4 l5=>
 Za (ZD O 16 [V.agg [V.int n3,V.int n4,V.vec .plain (some 3) l5]]) fun r6=>Z6 r6 fun b7=>bc (!b7) (Za (O.call 40 [V.ref r0 0,V.int 4]
 r1.snd) fun r8=>Zk r8.fst (fun v9=>ZP v9 fun c10=>Zs c10 (Qb (List.length st) (V.agg [V.int n3,V.int n4,V.vec .plain (some 3) l5]) r8.snd)) fun p11=>none) (Qb
 (List.length st) (V.agg [V.int n3,V.int n4,V.vec .plain (some 3) l5]) r1.snd)) fun p12=>none:=by kernel_rfl
theorem zcG(O:Oracle)(r0:Nat)(st:St):Ze Tryd.prog cfg O 74 [.ref r0 0] st=
 Za (O.call 84 [V.ref r0 0] st) fun r1=>Zk r1.fst (fun v2=>Z6 v2 fun b3=>Za (O.call 83 [V.ref r0 0,V.bool b3] r1.snd) fun r4
 =>Zk r4.fst (fun v5=>YW v5 fun s6=>Qb (List.length st) (V.str s6) r4.snd) fun p7=>none) fun p8=>none:=by kernel_rfl
theorem zcH(O:Oracle)(r0:Nat)(s1:ByteArray)(st:St):Ze Tryd.prog cfg O 73 [.ref r0 0, .str s1] st=
 Za (O.call 72 [V.ref r0 0,V.str s1] st) fun r1=>Zk r1.fst (fun v2=>Z6 v2 fun b3=>Za (O.call 83 [V.ref r0 0,V.bool b3] r1.snd)
 fun r4=>Zk r4.fst (fun v5=>YW v5 fun s6=>Qb (List.length st) (V.tup []) r4.snd) fun p7=>none) fun p8=>none:=by kernel_rfl
theorem Jo(O:Oracle)(r0:Nat)(l1:(List V))(n2:Int)(st:St):Ze Tryd.prog cfg O 63 [.ref r0 0, .vec .plain none l1, .int n2] st=
 bc (decide (n2>120)) (Za (O.call 40 [V.ref r0 0,V.int 4] st) fun r1=>Zk r1.fst (fun v2=>ZP v2 fun c3=>Zs c3 (Qb (List.length st) (V.agg
 [V.int 0,V.int 0,V.vec .plain (some 3) []]) r1.snd)) fun p4=>none) (Za (O.call 72 [V.ref r0 0,V.str {data:= #[123]}] st) fun r5=>Zk r5.fst (fun v6
 =>Z6 v6 fun b7=>bc b7 (Za (O.call 73 [V.ref r0 0,V.str {data:= #[123]}] r5.snd) fun r8=>Zk r8.fst (fun v9=>ZP v9 fun c10=>Zs c10
 (Za (O.call 74 [V.ref r0 0] r8.snd) fun r11=>Zk r11.fst (fun v12=>YW v12 fun s13=>Za (O.call 73 [V.ref r0 0,V.str {data:=
 #[58]}] r11.snd) fun r14=>Zk r14.fst (fun v15=>ZP v15 fun c16=>Zs c16 (Za (O.call 63 [V.ref r0 0,V.vec .plain none l1,V.int (IntKind.i64.wrap
 (n2+1))] r14.snd) fun r17=>Zk r17.fst (fun v18=>Zg [CT.int,CT.int,CT.slice (some 3)] v18 fun n19 n20 l21=>Za (O.call 73 [V.ref r0 0,V.str {
 data:= #[125]}] r17.snd) fun r22=>Zk r22.fst (fun v23=>ZP v23 fun c24=>Zs c24 (Za (O.call 75 [V.ref r0 0,V.str s13,V.vec .plain none l1,
 V.int n2] r22.snd) fun r25=>Zk r25.fst (fun v26=>Zg [CT.int,CT.int,CT.slice (some 3)] v26 fun n27 n28 l29=>Qb (List.length st) (V.agg [V.int 1,V.int 0,V.vec
 .plain (some 3) [V.agg [V.int n19,V.int n20,V.vec .plain (some 3) l21],V.agg [V.int n27,V.int n28,V.vec .plain (some 3) l29]]]) r25.snd) fun p30=>none)) fun p31=>none)
 fun p32=>none)) fun p33=>none) fun p34=>none)) fun p35=>none) (Za (O.call 72 [V.ref r0 0,V.str {data:= #[91]}] r5.snd) fun r36=>Zk r36.fst (fun
 v37=>Z6 v37 fun b38=>bc b38 (Za (O.call 73 [V.ref r0 0,V.str {data:= #[91]}] r36.snd) fun r39=>Zk r39.fst (fun v40=>ZP v40 fun c41=>
 Zs c41 (Za (O.call 74 [V.ref r0 0] r39.snd) fun r42=>Zk r42.fst (fun v43=>YW v43 fun s44=>Za (O.call 73 [V.ref r0 0,V.str {
 data:= #[93]}] r42.snd) fun r45=>Zk r45.fst (fun v46=>ZP v46 fun c47=>Zs c47 (Za (O.call 75 [V.ref r0 0,V.str s44,V.vec .plain none l1,
 V.int n2] r45.snd) fun r48=>Zk r48.fst (fun v49=>Zg [CT.int,CT.int,CT.slice (some 3)] v49 fun n50 n51 l52=>Qb (List.length st) (V.agg [V.int 3,V.int 0,V.vec
 .plain (some 3) [V.agg [V.int n50,V.int n51,V.vec .plain (some 3) l52]]]) r48.snd) fun p53=>none)) fun p54=>none) fun p55=>none)) fun p56=>none) (Za (O.call
 76 [V.ref r0 0,V.vec .plain none l1,V.int n2] r36.snd) fun r57=>Zk r57.fst (fun v58=>Zg [CT.int,CT.int,CT.slice (some 3)] v58 fun n59 n60 l61=>
 Qb (List.length st) (V.agg [V.int n59,V.int n60,V.vec .plain (some 3) l61]) r57.snd) fun p62=>none)) fun p63=>none)) fun p64=>none):=by kernel_rfl
theorem zcj(O:Oracle)(l s:List V)(m:AM.Mode)(e:Int)(b:Bool):Ze Tryd.prog cfg O 83 [.ref 0 0, .bool b] [.box [.vec .plain (some 2) l, .vec m (some 4) s, .int e]]=
 bc (!b) (Za (O.call 40 [V.ref 0 0,V.int 8] [Res.box [V.vec .plain (some 2) l,V.vec m (some 4) s,V.int e]]) fun r1=>Zk r1.fst (fun v2=>ZP v2 fun c3
 =>Zs c3 (Qb [Res.box [V.vec .plain (some 2) l,V.vec m (some 4) s,V.int e]].length (V.str {data:= #[]}) r1.snd)) fun p4=>none) (gd (true&&decide (0<(↑l.length:
 Int))) (YX (YR l 0) fun c5=>gd (decide (2≤c5.length)) (YW (AM.partOf c5 1 none) fun s6=>gd (true&&decide (1≤(↑l.length:Int))&&decide ((↑l.length:Int)≤
 (↑l.length:Int))) (some (Out.ret (V.str s6),[Res.box [V.vec .plain (some 2) (List.drop 1 (List.take (↑l.length:Int).toNat l)),V.vec m (some 4) s,V.int e]]))))):=by kernel_rfl
theorem zck(O:Oracle)(l s:List V)(m:AM.Mode)(e:Int):Ze Tryd.prog cfg O 84 [.ref 0 0] [.box [.vec .plain (some 2) l, .vec m (some 4) s, .int e]]=
 bc (e==0) (bc (decide ((↑l.length:Int)>0)) (gd (true&&decide (0<(↑l.length:Int))) (YX (YR l 0) fun c1=>gd (decide (1≤c1.length)) (Z2 (AM.partOf c1 0 none)
 fun n2=>some (Out.ret (V.bool (n2==0)),[Res.box [V.vec .plain (some 2) l,V.vec m (some 4) s,V.int e]])))) (some (Out.ret (V.bool false),[Res.box [V.vec .plain (some 2) l,
 V.vec m (some 4) s,V.int e]]))) (some (Out.ret (V.bool false),[Res.box [V.vec .plain (some 2) l,V.vec m (some 4) s,V.int e]])):=by kernel_rfl
theorem Qc(O:Oracle)(l0:(List V))(g1:Nat)(l2:(List V))(l3:(List V))(st:St):Ze Tryd.prog cfg O 91 [.vec .plain (some 4) l0, .fn g1 l2 l3] st=
 Za (O.loop 91 2 [V.int 0,V.vec .plain (some 4) l0,V.fn g1 l2 l3,V.int (↑l0.length:Int)] st) fun r1=>Jp r1.fst none (Zy r1.snd.fst
 fun v2 c3=>Z2 v2 fun n4=>Zs c3 (Qb (List.length st) (V.int n4) r1.snd.snd)) (fun i5=>bc (i5.beq 0) (Zs r1.snd.fst (Qb (List.length st) (V.int (-1)) r1.snd.snd))
 none) fun v6=>none:=by kernel_rfl
theorem Y1(O:Oracle)(n0:Int)(l1:(List V))(g2:Nat)(l3:(List V))(l4:(List V))(n5:Int)(st:St):ZY Tryd.prog cfg O 91 2 [.int n0, .vec .plain (some 4) l1, .fn g2 l3 l4, .int n5] st=
 bc (decide (n0<n5)) (gd (decide (0≤n0)&&decide (n0<(↑l1.length:Int))) (Zg [CT.str,CT.int,CT.int,CT.slice (some 3)] (YR l1 n0) fun s1 n2 n3 l4_1=>bc
 (cfg.pure g2) (Za (ZD O g2 (l3++[V.agg [V.str s1,V.int n2,V.int n3,V.vec .plain (some 3) l4_1]]++l4)) fun r5=>Z6 r5 fun b6=>bc b6 (some (Ex.ret,[V.int n0],
 st)) (O.2 91 2 [V.int (IntKind.i64.wrap (n0+1)),V.vec .plain (some 4) l1,V.fn g2 l3 l4,V.int n5] st)) (Za (O.call g2 (l3++[V.agg [V.str
 s1,V.int n2,V.int n3,V.vec .plain (some 3) l4_1]]++l4) st) fun r7=>Zk r7.fst (fun v8=>Z6 v8 fun b9=>bc b9 (some (Ex.ret,[V.int n0],r7.snd)) (O.2
 91 2 [V.int (IntKind.i64.wrap (n0+1)),V.vec .plain (some 4) l1,V.fn g2 l3 l4,V.int n5] r7.snd)) fun p10=>none))) (some (Ex.exit 0,[],
 st)):=by kernel_rfl
theorem zeg(O:Oracle)(l s:List V)(m:AM.Mode)(e:Int)(t:ByteArray):Ze Tryd.prog cfg O 72 [.ref 0 0, .str t] [.box [.vec .plain (some 2) l, .vec m (some 4) s, .int e]]=
 bc (e==0) (bc (decide ((↑l.length:Int)>0)) (gd (true&&decide (0<(↑l.length:Int))) (Zg [CT.int,CT.str] (YR l 0) fun n1 s2=>some (Out.ret (V.bool (true&&n1
 ==1&&s2.toList==t.toList)),[Res.box [V.vec .plain (some 2) l,V.vec m (some 4) s,V.int e]]))) (some (Out.ret (V.bool false),[Res.box [V.vec .plain (some 2) l,V.vec m
 (some 4) s,V.int e]]))) (some (Out.ret (V.bool false),[Res.box [V.vec .plain (some 2) l,V.vec m (some 4) s,V.int e]])):=by kernel_rfl
theorem zcl(O:Oracle)(r0:Nat)(s1:ByteArray)(l2:(List V))(n3:Int)(st:St):Ze Tryd.prog cfg O 75 [.ref r0 0, .str s1, .vec .plain none l2, .int n3] st=
 gd (true&&decide (0≤(↑l2.length:Int))&&decide ((↑l2.length:Int)≤(↑l2.length:Int))) (gd (decide ((↑l2.length:Int)=(↑l2.length:Int))&&(some (V.int (↑l2.length
 :Int))).isSome) (gd (true&&roomFor Tryd.prog 9 ((List.drop 0 (List.take (↑l2.length:Int).toNat l2)).length+[V.str s1].length)) (Za (O.call 63
 [V.ref r0 0,V.vec .plain none (List.drop 0 (List.take (↑l2.length:Int).toNat l2)++[V.str s1]),V.int (IntKind.i64.wrap (n3+1))] st) fun r1=>Zk r1.fst (fun v2=>
 Zg [CT.int,CT.int,CT.slice (some 3)] v2 fun n3 n4 l5=>Qb (List.length st) (V.agg [V.int n3,V.int n4,V.vec .plain (some 3) l5]) r1.snd) fun p6=>none))):=by kernel_rfl
theorem zcm(O:Oracle)(r0:Nat)(l1:(List V))(n2:Int)(st:St):Ze Tryd.prog cfg O 76 [.ref r0 0, .vec .plain none l1, .int n2] st=
 Za (O.call 72 [V.ref r0 0,V.str {data:= #[40]}] st) fun r1=>Zk r1.fst (fun v2=>Z6 v2 fun b3=>bc b3 (Za (O.call 86 [V.ref r0
 0,V.vec .plain none l1,V.int n2] r1.snd) fun r4=>Zk r4.fst (fun v5=>Zg [CT.int,CT.int,CT.slice (some 3)] v5 fun n6 n7 l8=>Za (O.call 85
 [V.ref r0 0,V.agg [V.int n6,V.int n7,V.vec .plain (some 3) l8]] r4.snd) fun r9=>Zk r9.fst (fun v10=>Zg [CT.int,CT.int,CT.slice (some 3)] v10 fun n11 n12 l13=>
 Qb (List.length st) (V.agg [V.int n11,V.int n12,V.vec .plain (some 3) l13]) r9.snd) fun p14=>none) fun p15=>none) (Za (O.call 74 [V.ref r0 0] r1.snd)
 fun r16=>Zk r16.fst (fun v17=>YW v17 fun s18=>ZH r16.snd r0 fun x19=>ZS x19 fun c20=>gd (decide (3≤c20.length)&&true) (Z2 (Zm (AM.partOf c20 2
 none)) fun n21=>bc (n21 !=0) (Qb (List.length st) (V.agg [V.int 0,V.int 0,V.vec .plain (some 3) []]) r16.snd) (bc (s18.toList==(ByteArray.toList {data:= #[116,121,112,
 101]})) (Za (O.call 85 [V.ref r0 0,V.agg [V.int 0,V.int 0,V.vec .plain (some 3) []]] r16.snd) fun r22=>Zk r22.fst (fun v23=>Zg [CT.int,
 CT.int,CT.slice (some 3)] v23 fun n24 n25 l26=>Qb (List.length st) (V.agg [V.int n24,V.int n25,V.vec .plain (some 3) l26]) r22.snd) fun p27=>none) (Za (O.call
 87 [V.ref r0 0,V.str s18,V.vec .plain none l1] r16.snd) fun r28=>Zk r28.fst (fun v29=>Zg [CT.int,CT.int,CT.nil (some 3)] v29 fun n30 n31=>Za
 (O.loop 76 9 [V.loc true (some 3) (V.agg [V.int n30,V.int n31,V.vec Mode.grow (some 3) []]),V.int n2,V.vec .plain none l1,V.ref r0 0,V.loc true (some 3)
 (V.agg [V.int 0,V.int 0,V.vec Mode.full (some 3) []])] r28.snd) fun r32=>Jp r32.fst none none (fun i33=>bc (i33.beq 1) (Zy r32.snd.fst fun v34 c35=>zac (some 3)
 v34 fun d36 v37=>Zy c35 fun v38 c39=>zac (some 3) v38 fun d40 v41=>YX v41 fun c42=>Zy c42 fun v43 c44=>Z2 v43 fun n45=>Zy c44 fun v46 c47=>Z2
 v46 fun n48=>Zy c47 fun v49 c50=>XF (some 3) v49 fun l51=>Zs c50 (Zs c39 (Qb (List.length st) (V.agg [V.int n45,V.int n48,V.vec .plain (some 3) l51])
 r32.snd.snd))) none) fun v52=>none) fun p53=>none)))) fun p54=>none)) fun p55=>none:=by kernel_rfl
theorem Qy(O:Oracle)(n0:Int)(n1:Int)(l2:(List V))(n3:Int)(l4:(List V))(r5:Nat)(v6:V)(st:St):ZY Tryd.prog cfg O 76 9 [.loc true (some 3) (.agg [.int n0, .int n1, .vec .grow (some 3) l2]), .int n3, .vec .plain none l4, .ref r5 0, .loc true (some 3) v6] st=
 Za (O.call 84 [V.ref r5 0] st) fun r1=>Zk r1.fst (fun v2=>Z6 v2 fun b3=>bc b3 (Za (O.call 88 [V.ref r5 0,V.vec .plain none
 l4,V.int n3] r1.snd) fun r4=>Zk r4.fst (fun v5=>Zg [CT.int,CT.int,CT.slice (some 3)] v5 fun n6 n7 l8=>gd (true&&roomFor Tryd.prog 24 (l2.length+
 [V.agg [V.int n6,V.int n7,V.vec .plain (some 3) l8]].length)) (O.2 76 9 [V.loc true (some 3) (V.agg [V.int n0,V.int n1,V.vec Mode.grow (some 3) (l2++[V.agg
 [V.int n6,V.int n7,V.vec .plain (some 3) l8]])]),V.int n3,V.vec .plain none l4,V.ref r5 0,V.loc true (some 3) v6] r4.snd)) fun p9=>none) (Za (O.call 72
 [V.ref r5 0,V.str {data:= #[40]}] r1.snd) fun r10=>Zk r10.fst (fun v11=>Z6 v11 fun b12=>bc b12 (Za (O.call 88 [V.ref r5 0,V.vec .plain none
 l4,V.int n3] r10.snd) fun r13=>Zk r13.fst (fun v14=>Zg [CT.int,CT.int,CT.slice (some 3)] v14 fun n15 n16 l17=>gd (true&&roomFor Tryd.prog 24
 (l2.length+[V.agg [V.int n15,V.int n16,V.vec .plain (some 3) l17]].length)) (O.2 76 9 [V.loc true (some 3) (V.agg [V.int n0,V.int n1,V.vec Mode.grow (some
 3) (l2++[V.agg [V.int n15,V.int n16,V.vec .plain (some 3) l17]])]),V.int n3,V.vec .plain none l4,V.ref r5 0,V.loc true (some 3) v6] r13.snd)) fun p18=>none) (some
 (Ex.exit 1,[V.loc true (some 3) v6,V.loc true (some 3) (V.agg [V.int n0,V.int n1,V.vec Mode.grow (some 3) l2])],r10.snd))) fun p19=>none)) fun p20=>none:=by kernel_rfl
theorem zcn(O:Oracle)(r0:Nat)(n1:Int)(n2:Int)(l3:(List V))(st:St):Ze Tryd.prog cfg O 85 [.ref r0 0, .agg [.int n1, .int n2, .vec .plain (some 3) l3]] st=
 Za (O.call 84 [V.ref r0 0] st) fun r1=>Zk r1.fst (fun v2=>Z6 v2 fun b3=>bc b3 (Za (O.call 40 [V.ref r0 0,V.int 8] r1.snd)
 fun r4=>Zk r4.fst (fun v5=>ZP v5 fun c6=>Zs c6 (Qb (List.length st) (V.agg [V.int n1,V.int n2,V.vec .plain (some 3) l3]) r4.snd)) fun p7=>none) (Za (O.call
 72 [V.ref r0 0,V.str {data:= #[40]}] r1.snd) fun r8=>Zk r8.fst (fun v9=>Z6 v9 fun b10=>bc b10 (Za (O.call 40 [V.ref r0 0,V.int
 8] r8.snd) fun r11=>Zk r11.fst (fun v12=>ZP v12 fun c13=>Zs c13 (Qb (List.length st) (V.agg [V.int n1,V.int n2,V.vec .plain (some 3) l3]) r11.snd)) fun p14=>
 none) (Qb (List.length st) (V.agg [V.int n1,V.int n2,V.vec .plain (some 3) l3]) r8.snd)) fun p15=>none)) fun p16=>none:=by kernel_rfl
theorem zco(O:Oracle)(r0:Nat)(l1:(List V))(n2:Int)(st:St):Ze Tryd.prog cfg O 86 [.ref r0 0, .vec .plain none l1, .int n2] st=
 Za (O.call 73 [V.ref r0 0,V.str {data:= #[40]}] st) fun r1=>Zk r1.fst (fun v2=>ZP v2 fun c3=>Zs c3 (Za (O.call 63 [V.ref
 r0 0,V.vec .plain none l1,V.int (IntKind.i64.wrap (n2+1))] r1.snd) fun r4=>Zk r4.fst (fun v5=>Zg [CT.int,CT.int,CT.slice (some 3)] v5 fun n6 n7 l8=>Za
 (O.call 73 [V.ref r0 0,V.str {data:= #[41]}] r4.snd) fun r9=>Zk r9.fst (fun v10=>ZP v10 fun c11=>Zs c11 (Qb (List.length st) (V.agg [V.int n6,
 V.int n7,V.vec .plain (some 3) l8]) r9.snd)) fun p12=>none) fun p13=>none)) fun p14=>none:=by kernel_rfl
theorem zcI(O:Oracle)(l s:List V)(m:AM.Mode)(e:Int)(t:ByteArray)(bs:List V):Ze Tryd.prog cfg O 87 [.ref 0 0, .str t, .vec .plain none bs] [.box [.vec .plain (some 2) l, .vec m (some 4) s, .int e]]=
 Za (O.loop 87 2 [V.loc true (some 3) (V.agg [V.int 0,V.int 0,V.vec Mode.full (some 3) []]),V.int 0,V.loc false none (V.str t),V.vec .plain none bs,V.ref
 0 0,V.int (↑bs.length:Int)] [Res.box [V.vec .plain (some 2) l,V.vec m (some 4) s,V.int e]]) fun r1=>Jp r1.fst none (Zy r1.snd.fst fun v2 c3=>zac (some 3) v2 fun
 d4 v5=>Zs c3 (Qb [Res.box [V.vec .plain (some 2) l,V.vec m (some 4) s,V.int e]].length (zfC v5) r1.snd.snd)) (fun i6=>bc (i6.beq 0) (Zy r1.snd.fst fun v7 c8=>
 zac (some 3) v7 fun d9 v10=>Zy c8 fun v11 c12=>zfB v11 fun q13=>Zy c12 fun v14 c15=>zac none v14 fun d16 v17=>YW (bif d16 then Zm v17 else v17) fun
 s18=>Zs c15 (ZH r1.snd.snd q13 fun x19=>ZS x19 fun c20=>gd (decide (2≤c20.length)&&true) (Ys (some 4) (Zm (AM.partOf c20 1 none)) fun l21=>Za (O.call
 91 [V.vec .plain (some 4) l21,V.fn 92 [] [V.cptr none (V.str s18)]] r1.snd.snd) fun r22=>Zk r22.fst (fun v23=>Z2
 v23 fun n24=>bc (decide (n24<0)) (Za (O.call 40 [V.ref q13 0,V.int 2] r22.snd) fun r25=>Zk r25.fst (fun v26=>ZP v26 fun c27=>Zs c27 (Qb
 [Res.box [V.vec .plain (some 2) l,V.vec m (some 4) s,V.int e]].length (V.agg [V.int 0,V.int 0,V.vec Mode.full (some 3) []]) r25.snd)) fun p28=>none) (ZH r22.snd q13 fun
 x29=>ZS x29 fun c30=>gd (decide (2≤c30.length)&&true) (Ys (some 4) (Zm (AM.partOf c30 1 none)) fun l31=>gd (decide (0≤n24)&&decide (n24<(↑l31.length:
 Int))) (YX (YR l31 n24) fun c32=>gd (decide (4≤c32.length)) (onCells [CT.int,CT.int,CT.slice (some 3)] (List.take 3 (List.drop 1 c32)) fun n33 n34 l35=>Za (ZD O
 93 [V.agg [V.int n33,V.int n34,V.vec .plain (some 3) l35]]) fun r36=>Z6 r36 fun b37=>bc b37 (Qb [Res.box [V.vec .plain (some 2) l,V.vec m (some 4) s,V.int
 e]].length (V.agg [V.int 2,V.int n24,V.vec Mode.full (some 3) []]) r22.snd) (Qb [Res.box [V.vec .plain (some 2) l,V.vec m (some 4) s,V.int e]].length (V.agg [V.int 5,V.int
 n24,V.vec Mode.full (some 3) []]) r22.snd)))))) fun p38=>none))) none) fun v39=>none:=by kernel_rfl
theorem QC(O:Oracle)(v0:V)(n1:Int)(s2:ByteArray)(l3:(List V))(r4:Nat)(n5:Int)(st:St):ZY Tryd.prog cfg O 87 2 [.loc true (some 3) v0, .int n1, .loc false none (.str s2), .vec .plain none l3, .ref r4 0, .int n5] st=
 bc (decide (n1<n5)) (gd (decide (0≤IntKind.i64.wrap (IntKind.i64.wrap ((↑l3.length:Int)-1)-n1))&&decide (IntKind.i64.wrap (IntKind.i64.wrap ((↑l3.length:Int)-1)-
 n1)<(↑l3.length:Int))) (YW (YR l3 (IntKind.i64.wrap (IntKind.i64.wrap ((↑l3.length:Int)-1)-n1))) fun s1=>bc (s1.toList==s2.toList) (some (Ex.ret,[V.loc false
 (some 3) (V.agg [V.int 4,V.int n1,V.vec Mode.full (some 3) []])],st)) (O.2 87 2 [V.loc true (some 3) v0,V.int (IntKind.i64.wrap (n1+1)),V.loc false none
 (V.str s2),V.vec .plain none l3,V.ref r4 0,V.int n5] st))) (some (Ex.exit 0,[V.loc true (some 3) v0,V.ref r4 0,V.loc false none (V.str s2)],st)):=by kernel_rfl
theorem zcJ(O:Oracle)(r0:Nat)(l1:(List V))(n2:Int)(st:St):Ze Tryd.prog cfg O 88 [.ref r0 0, .vec .plain none l1, .int n2] st=
 Za (O.call 72 [V.ref r0 0,V.str {data:= #[40]}] st) fun r1=>Zk r1.fst (fun v2=>Z6 v2 fun b3=>bc b3 (Za (O.call 86 [V.ref r0
 0,V.vec .plain none l1,V.int n2] r1.snd) fun r4=>Zk r4.fst (fun v5=>Zg [CT.int,CT.int,CT.slice (some 3)] v5 fun n6 n7 l8=>Qb (List.length st) (V.agg [V.int n6,
 V.int n7,V.vec .plain (some 3) l8]) r4.snd) fun p9=>none) (Za (O.call 74 [V.ref r0 0] r1.snd) fun r10=>Zk r10.fst (fun v11=>YW v11 fun s12=>bc
 (s12.toList==(ByteArray.toList {data:= #[116,121,112,101]})) (Za (O.call 40 [V.ref r0 0,V.int 8] r10.snd) fun r13=>Zk r13.fst (fun v14=>ZP
 v14 fun c15=>Zs c15 (Qb (List.length st) (V.agg [V.int 0,V.int 0,V.vec .plain (some 3) []]) r13.snd)) fun p16=>none) (Za (O.call 87 [V.ref r0 0,
 V.str s12,V.vec .plain none l1] r10.snd) fun r17=>Zk r17.fst (fun v18=>Zg [CT.int,CT.int,CT.slice (some 3)] (Zm v18) fun n19 n20 l21=>Qb (List.length st)
 (V.agg [V.int n19,V.int n20,V.vec .plain (some 3) l21]) r17.snd) fun p22=>none)) fun p23=>none)) fun p24=>none:=by kernel_rfl
theorem zb2(O:Oracle)(s t:ByteArray)(n1:Int)(n2:Int)(l3:(List V))(st:St):Ze Tryd.prog cfg O 92 [.agg [.str t, .int n1, .int n2, .vec .plain (some 3) l3], .cptr none (.str s)] st=
 Qb (List.length st) (V.bool (t.toList==s.toList)) st:=by kernel_rfl
end Go.Proofs.SW
namespace Go.Proofs.SW
open Go Go.AM Go.Ama
theorem zku{n:Nat}(h:n≤1048576):roomFor Tryd.prog 9 n=true:=by
 have:((Tryd.prog.info? 9).map (·.bytes)).getD 0=16:=by kernel_rfl
 unfold roomFor
 rw[this]
 simp only[Bool.and_eq_true,decide_eq_true_eq]
 omega
theorem zeN(t:Tok)(r:List Tok):YR (Zj (t::r)) 0=za2 t:=rfl
theorem zkv(t:Tok)(r:List Tok):decide ((((Zj (t::r)).length:Nat):Int)>0)=true:=by simp
theorem ziS(t:Tok)(r:List Tok):decide ((0:Int)<(((Zj (t::r)).length:Nat):Int))=true:=by simp
section
variable(m:AM.Mode)(s:PS)
theorem QQ(n:Int):W.call 40 [.ref 0 0, .int n] [Y0 m s]=some (.ret (.tup []),[Y0 m (s.fail n)]):=by
 rw[C,Y0,zcF,Yk]
 unfold PS.fail
 by_cases h:s.e=0<;>simp[h,bc,Y0]
theorem zao(c:Bytes):W.call 72 [.ref 0 0, .str (ba c)] [Y0 m s]=some (.ret (.bool (s.is c)),[Y0 m s]):=by
 rw[C,Y0,zeg,Yk]
 unfold PS.is
 by_cases h:s.e=0
 ·rw[h]
  cases hl:s.l with
  |nil=>rfl
  |cons t r=>
   simp only[zkv,ziS,zeN,zec,zjS,Yk]
   simp[bc]
 ·simp[h,bc]
theorem zap:W.call 84 [.ref 0 0] [Y0 m s]=some (.ret (.bool s.named),[Y0 m s]):=by
 rw[C,Y0,zck,Yk]
 unfold PS.named
 by_cases h:s.e=0
 ·rw[h]
  cases hl:s.l with
  |nil=>rfl
  |cons t r=>
   simp only[zkv,ziS,zeN]
   show bc (decide True) (bc true (gd true (YX (.agg [.int t.1, .str (ba t.2)]) _)) _) _=_
   rw[zhB]
   show some (Out.ret (V.bool (t.1==0)),_)=_
   rw[Yk];simp
 ·simp[h,bc]
theorem zpc{c:Bytes}(h:s.is c=true): ∃r,s.l=(1,c)::r∧s.e=0:=by
 unfold PS.is at h
 cases hl:s.l with
 |nil=>rw[hl]at h;simp at h
 |cons t r=>
  rw[hl]at h
  simp only[Bool.and_eq_true,decide_eq_true_eq]at h
  obtain⟨t1,t2⟩:=t
  simp only at h
  exact⟨r,by rw[h.2.1,h.2.2],h.1⟩
theorem zlv(h:s.named=true): ∃x r,s.l=(0,x)::r∧s.e=0:=by
 unfold PS.named at h
 cases hl:s.l with
 |nil=>rw[hl]at h;simp at h
 |cons t r=>
  rw[hl]at h
  simp only[Bool.and_eq_true,decide_eq_true_eq]at h
  obtain⟨t1,t2⟩:=t
  simp only at h
  exact⟨t2,r,by rw[h.2],h.1⟩
theorem zg1(b:Bool)(h:b=true→ ∃t r,s.l=t::r):W.call 83 [.ref 0 0, .bool b] [Y0 m s]=some (.ret (.str (ba (s.token b).1)),[Y0 m (s.token b).2]):=by
 rw[C,Y0,zcj,←Y0,QQ]
 cases b with
 |false=>rfl
 |true=>
  obtain⟨t,r,hl⟩:=h rfl
  unfold PS.token
  rw[hl]
  simp only[ziS,zeN,if_true,Bool.not_true,Zi,Bool.true_and,ZU]
  show YX (.agg [.int t.1, .str (ba t.2)]) _=_
  rw[zhB]
  rw[show decide (2≤ [V.int t.1,V.str (ba t.2)].length)=true from rfl,ZU,show AM.partOf [V.int t.1,V.str (ba t.2)] 1 none=V.str (ba t.2)from rfl,X8]
  have h1:decide ((1:Int)≤(((Zj (t::r)).length:Nat):Int))=true:=by simp;omega
  have h2:decide ((((Zj (t::r)).length:Nat):Int)≤(((Zj (t::r)).length:Nat):Int))=true:=by simp
  rw[h1,h2,Int.toNat_natCast,List.take_length]
  rfl
theorem QR(c:Bytes):W.call 73 [.ref 0 0, .str (ba c)] [Y0 m s]=some (.ret (.tup []),[Y0 m (s.take c)]):=by
 rw[C,zcH,zao,Zb,Zd,Zr,zg1 _ _ _ (fun h=>by obtain⟨r,h,_⟩:=zpc s h;exact⟨_,_,h⟩),Zb,Zd,X8]
 rfl
theorem zbq:W.call 74 [.ref 0 0] [Y0 m s]=some (.ret (.str (ba s.name.1)),[Y0 m s.name.2]):=by
 rw[C,zcG,zap,Zb,Zd,Zr,zg1 _ _ _ (fun h=>by obtain⟨x,r,h,_⟩:=zlv s h;exact⟨_,_,h⟩),Zb,Zd,X8]
 rfl
theorem zq5:V.str {data:= #[40]}=V.str (ba [40]):=rfl
theorem zg2(t:T):W.call 85 [.ref 0 0,enc t] [Y0 m s]=some (.ret (enc t),[Y0 m s.alone]):=by
 unfold PS.alone
 rw[C,Zt,zcn,zap,Zb,Zd,Zr,zq5,zao,Zb,Zd,Zr,QQ,←Zt]
 cases s.named<;>cases s.is [40]<;>rfl
end
end Go.Proofs.SW
namespace Go.Proofs.SW
open Go Go.AM Go.Ama
theorem znf(x:Bytes)(bs:List Bytes)(v0:V)(st:St)(hb:bs.length≤1048576): ∀d k,k+d=bs.length→
  W.loop 87 2 [.loc true (some 3) v0, .int (k:Nat), .loc false none (.str (ba x)), .vec .plain none (J1 bs.reverse), .ref 0 0, .int bs.length] st=
   some (match zdy x (bs.drop k)with
    |some i=>(Ex.ret,[V.loc false (some 3) (V.agg [V.int 4,V.int ((k+i:Nat):Int),V.vec .full (some 3) []])],st)
    |none=>(Ex.exit 0,[V.loc true (some 3) v0,V.ref 0 0,V.loc false none (V.str (ba x))],st)):=by
 intro d
 induction d with
 |zero=>
  intro k hk
  have hkl:k=bs.length:=by omega
  subst hkl
  have hlt:decide (((bs.length:Nat):Int)<bs.length)=false:=by simp
  rw[L,QC,hlt,List.drop_length]
  rfl
 |succ d ih=>
  intro k hk
  have hkl:k<bs.length:=by omega
  have hlt:decide (((k:Nat):Int)<bs.length)=true:=by simp;omega
  have hw:IntKind.i64.wrap (IntKind.i64.wrap (((J1 bs.reverse).length:Int)-1)-(k:Nat))=((bs.length-1-k:Nat):Int):=by
   have hw1:IntKind.i64.wrap ((bs.length:Int)-1)=(bs.length:Int)-1:=Y9 ⟨by omega,by omega⟩
   rw[zce,List.length_reverse,hw1,Y9 ⟨by omega,by omega⟩];omega
  have h0:decide ((0:Int)≤((bs.length-1-k:Nat):Int))=true:=by simp
  have h1:decide ((((bs.length-1-k:Nat):Int))<((J1 bs.reverse).length:Int))=true:=by simp;omega
  have hi:bs.length-1-k<bs.reverse.length:=by simp;omega
  have hget:bs.reverse[bs.length-1-k]=bs[k]:=by
   rw[List.getElem_reverse];congr 1;omega
  have hd:bs.drop k=bs[k]::bs.drop (k+1):=List.drop_eq_getElem_cons hkl
  rw[L,QC,hlt,hw,h0,h1,zne hi,hget,hd,Zo,X8,zjS]
  simp only[Bool.and_self,ZU,zdy]
  by_cases hx:bs[k]=x
  ·simp[hx,bc]
  ·simp only[hx,decide_false,Zi,if_false]
   rw[Y9 ⟨by omega,by omega⟩]
   have:=ih (k+1) (by omega)
   rw[show(((k+1:Nat)):Int)=(k:Nat)+1 from rfl]at this
   rw[this]
   cases zdy x (bs.drop (k+1))with
   |none=>rfl
   |some i=>simp only[Option.map_some];rw[show k+1+i=k+(i+1) by omega]
def Names(g:Nat)(x:Bytes):Prop:=cfg.pure g=false∧ ∀d st,W.call g [zd0 d, .cptr none (.str (ba x))] st=some (.ret (.bool (decide (d.name=x))),st)
theorem zpN(x:Bytes):Names 92 x:=⟨rfl,fun d st=>by rw[C,zd0,zb2,zjS];exact ziG rfl⟩
theorem zoi{g:Nat}{x:Bytes}(hg:Names g x)(l:List D)(st:St)(hl:l.length≤1048576): ∀d k,k+d=l.length→
  W.loop 91 2 [.int (k:Nat), .vec .plain (some 4) (ZZ l), .fn g [] [.cptr none (.str (ba x))], .int l.length] st=
   some (match idx x (l.drop k)with
    |some i=>(Ex.ret,[V.int ((k+i:Nat):Int)],st)
    |none=>(Ex.exit 0,[],st)):=by
 intro d
 induction d with
 |zero=>
  intro k hk
  have hkl:k=l.length:=by omega
  subst hkl
  have hlt:decide (((l.length:Nat):Int)<l.length)=false:=by simp
  rw[L,Y1,hlt,List.drop_length]
  rfl
 |succ d ih=>
  intro k hk
  have hkl:k<l.length:=by omega
  have hlt:decide (((k:Nat):Int)<l.length)=true:=by simp;omega
  have h0:decide ((0:Int)≤(k:Nat))=true:=by simp
  have hd:l.drop k=l[k]::l.drop (k+1):=List.drop_eq_getElem_cons hkl
  have hc:=hg.2 l[k] st
  unfold zd0 at hc
  rw[L,Y1]
  simp only[XZ,hlt,h0,zbp hkl,zdd,hg.1,Zi,Zo,Bool.and_self,ZU,List.nil_append,List.cons_append,hc,Zb,Zd,Zr]
  rw[hd]
  simp only[idx]
  by_cases hx:l[k].name=x
  ·simp[hx,bc]
  ·simp only[hx,decide_false,Zi,if_false]
   rw[Y9 ⟨by omega,by omega⟩]
   have:=ih (k+1) (by omega)
   rw[show(((k+1:Nat)):Int)=(k:Nat)+1 from rfl]at this
   rw[this]
   cases idx x (l.drop (k+1))with
   |none=>rfl
   |some i=>simp only[Option.map_some];rw[show k+1+i=k+(i+1) by omega]
def zpO(x:Bytes)(l:List D):Int:=match idx x l with|some i=>(i:Nat)|none=> -1
theorem zg3{g:Nat}{x:Bytes}(hg:Names g x)(l:List D)(st:St)(hl:l.length≤1048576):
  W.call 91 [.vec .plain (some 4) (ZZ l), .fn g [] [.cptr none (.str (ba x))]] st=some (.ret (.int (zpO x l)),st):=by
 have h:=zoi hg l st hl l.length 0 (by omega)
 rw[C,Qc,XZ]
 rw[show((0:Nat):Int)=0 from rfl]at h
 rw[h,List.drop_zero,Zb]
 unfold zpO
 cases idx x l with
 |none=>exact ziG rfl
 |some i=>simp only[Nat.zero_add];exact ziG rfl
theorem zeO{x:Bytes}: ∀{l:List D} {i:Nat},idx x l=some i→i<l.length
 |[],i,h=>by cases h
 |d::l,i,h=>by
  unfold idx at h
  split at h
  ·cases h;simp
  ·cases hq:idx x l with
   |none=>rw[hq]at h;cases h
   |some j=>rw[hq]at h;cases h;have:=zeO hq;simp;omega
def zpP(t:T):V:= .agg [.int t.k, .int t.h, .vec .full (some 3) []]
theorem zhJ(m:AM.Mode)(s:PS)(x:Bytes)(bs:List Bytes)(hb:bs.length≤1048576)(hs:s.s.length≤1048576):
  W.call 87 [.ref 0 0, .str (ba x), .vec .plain none (J1 bs.reverse)] [Y0 m s]=some (.ret (zpP (s.head x bs).1),[Y0 m (s.head x bs).2]):=by
 have h:=znf x bs (V.agg [V.int 0,V.int 0,V.vec .full (some 3) []]) [Y0 m s] hb bs.length 0 (by omega)
 rw[show((0:Nat):Int)=0 from rfl,List.drop_zero]at h
 rw[C,Y0,zcI,←Y0,zce,List.length_reverse,h,Zb]
 unfold PS.head
 cases hbk:zdy x bs with
 |some i=>simp only[Nat.zero_add];rfl
 |none=>
  have hb0:Nat.beq 0 0=true:=rfl
  simp only[zeG,hb0,Zo,Qw,zmM,zmN,cond_false,X8,Ye]
  have hget: ∀{R:Type} (K:Res→Option R),ZH [Y0 m s] 0 K=K (Y0 m s):=fun K=>rfl
  rw[hget,Y0,QM,←Y0]
  have hcl:Zm (AM.partOf [V.vec .plain (some 2) (Zj s.l),V.vec m (some 4) (ZZ s.s),V.int s.e] 1 none)= .vec .plain (some 4) (ZZ s.s):=by cases m<;>rfl
  rw[hcl,Y6,zg3 (zpN x) s.s _ hs,Zb,Zd,YL]
  unfold zpO
  have h2g: ∀{R:Type} (X:Option R),gd (decide (2≤ [V.vec .plain (some 2) (Zj s.l),V.vec m (some 4) (ZZ s.s),V.int s.e].length)&&true) X=X:=fun X=>rfl
  cases hix:idx x s.s with
  |none=>
   simp only[h2g,show decide ((-1:Int)<0)=true from rfl,Zo,QQ]
   rfl
  |some i=>
   have hi:=zeO hix
   have hneg:decide (((i:Nat):Int)<0)=false:=by simp
   have h0:decide ((0:Int)≤(i:Nat))=true:=by simp
   have h1:decide (((i:Nat):Int)<((ZZ s.s).length:Int))=true:=by simp;omega
   simp only[hneg,Zi]
   rw[hget,Y0,QM,←Y0,hcl,Y6,h0,h1,zbp hi,h2g,h2g]
   have h4: ∀{R:Type} (K:Int→Int→List V→Option R),YX (zd0 s.s[i]) (fun c=>gd (decide (4≤c.length)) (onCells (R:=R) [CT.int,CT.int,CT.slice (some 3)] (List.take 3 (List.drop 1 c)) K))=K s.s[i].t.k s.s[i].t.h (Z0 s.s[i].t.args):=fun K=>rfl
   rw[Bool.and_self,ZU,h4]
   rw[←Zt,(zna s.s[i].t).p,Zb,Zr]
   have hg:(s.s.map (·.t)).getD i T0=s.s[i].t:=by simp[List.getD_eq_getElem?_getD,hi]
   simp only[hg]
   by_cases hk:(split s.s[i].t).2.k=0
   ·simp only[hk,decide_true,Zo,if_true];rfl
   ·simp only[hk,decide_false,Zi,if_false];rfl
end Go.Proofs.SW
namespace Go.Ama
open Go.AM (T)
structure Mono(s r:PS):Prop where
 suf:r.l<:+s.l
 sig:r.s=s.s
 err:s.e≠0→r=s
theorem Mono.len{s r:PS}(h:Mono s r):r.l.length≤s.l.length:=h.suf.length_le
theorem Mono.refl{s:PS}:Mono s s:=⟨List.suffix_refl _,rfl,fun _=>rfl⟩
theorem Mono.trans{s r q:PS}(h:Mono s r)(g:Mono r q):Mono s q:=
 ⟨g.suf.trans h.suf,g.sig.trans h.sig,fun he=>by
  have:=h.err he
  subst this
  exact g.err he⟩
theorem JC(n:Int)(s:PS):Mono s (s.fail n):=by
 unfold PS.fail
 split
 ·rename_i h;exact⟨List.suffix_refl _,rfl,fun he=>absurd h he⟩
 ·exact .refl
theorem zoj{s:PS}{c:Bytes}(h:s.is c=true): ∃r,s.l=(1,c)::r∧s.e=0:=by
 unfold PS.is at h
 cases hl:s.l with
 |nil=>rw[hl]at h;simp at h
 |cons t r=>
  rw[hl]at h
  simp only[Bool.and_eq_true,decide_eq_true_eq]at h
  obtain⟨t1,t2⟩:=t
  simp only at h
  exact⟨r,by rw[h.2.1,h.2.2],h.1⟩
theorem zkw{s:PS}(h:s.named=true): ∃x r,s.l=(0,x)::r∧s.e=0:=by
 unfold PS.named at h
 cases hl:s.l with
 |nil=>rw[hl]at h;simp at h
 |cons t r=>
  rw[hl]at h
  simp only[Bool.and_eq_true,decide_eq_true_eq]at h
  obtain⟨t1,t2⟩:=t
  simp only at h
  exact⟨t2,r,by rw[h.2],h.1⟩
theorem zlw(n:Int)(s:PS):(s.fail n).l=s.l:=by unfold PS.fail;split<;>rfl
theorem zf8{n:Int}(hn:n≠0)(s:PS):(s.fail n).e≠0:=by unfold PS.fail;split<;>assumption
theorem zcp{s:PS}{c:Bytes}(h:s.is c=true): ∃r,s.l=(1,c)::r∧s.e=0∧s.take c=⟨r,s.s,0⟩:=by
 obtain⟨r,hl,he⟩:=zoj h
 refine⟨r,hl,he, ?_⟩
 unfold PS.take PS.token
 rw[h,hl,←he]
 rfl
theorem zpd{s:PS}{c:Bytes}(h:s.is c=false):s.take c=s.fail 8:=by
 unfold PS.take PS.token
 rw[h]
 rfl
theorem zg4{s:PS}(h:s.named=true): ∃x r,s.l=(0,x)::r∧s.e=0∧s.name=(x,⟨r,s.s,0⟩):=by
 obtain⟨x,r,hl,he⟩:=zkw h
 refine⟨x,r,hl,he, ?_⟩
 unfold PS.name PS.token
 rw[h,hl,←he]
 rfl
theorem zpe{s:PS}(h:s.named=false):s.name=([],s.fail 8):=by
 unfold PS.name PS.token
 rw[h]
 rfl
theorem Zp(c:Bytes)(s:PS):Mono s (s.take c):=by
 cases h:s.is c with
 |true=>
  obtain⟨r,hl,he,ht⟩:=zcp h
  rw[ht]
  exact⟨by rw[hl];exact List.suffix_cons _ _,rfl,fun h=>absurd he h⟩
 |false=>rw[zpd h];exact JC 8 s
theorem ZG(s:PS):Mono s s.name.2:=by
 cases h:s.named with
 |true=>
  obtain⟨x,r,hl,he,ht⟩:=zg4 h
  rw[ht]
  exact⟨by rw[hl];exact List.suffix_cons _ _,rfl,fun h=>absurd he h⟩
 |false=>rw[zpe h];exact JC 8 s
theorem X9(x:Bytes)(bs:List Bytes)(s:PS):Mono s (s.head x bs).2:=by
 unfold PS.head
 split
 ·exact .refl
 ·split
  ·exact JC 2 s
  ·exact .refl
theorem QS(x:Bytes)(bs:List Bytes)(s:PS):(s.head x bs).1.args=[]:=by
 unfold PS.head
 split
 ·rfl
 ·split<;>rfl
theorem JW(s:PS):Mono s s.alone:=by
 unfold PS.alone
 split
 ·exact JC 8 s
 ·exact .refl
section
variable{term:List Bytes→PS→T×PS}(ht: ∀bs s,Mono s (term bs s).2)
include ht
theorem zd2(bs:List Bytes)(s:PS):Mono s (s.inner term bs).2:=((Zp [40] s).trans (ht bs _)).trans (Zp [41] _)
theorem zaO(bs:List Bytes)(s:PS):Mono s (s.atom term bs).2:=by
 unfold PS.atom
 split
 ·exact zd2 ht bs s
 ·dsimp only
  split
  ·exact(ZG s).trans (JC 8 _)
  ·exact(ZG s).trans (X9 _ _ _)
theorem zc9(bs:List Bytes): ∀m s,Mono s (PS.args term bs m s).2
 |0,s=> .refl
 |m+1,s=>by
  unfold PS.args
  split
  ·exact(zaO ht bs s).trans (zc9 bs m _)
  ·exact .refl
theorem zlx(bs:List Bytes)(s:PS):Mono s (s.atoms term bs).2:=by
 unfold PS.atoms
 split
 ·exact(zd2 ht bs s).trans (JW _)
 ·dsimp only
  split
  ·exact ZG s
  ·split
   ·exact(ZG s).trans (JW _)
   ·exact((ZG s).trans (X9 _ _ _)).trans (zc9 ht bs _ _)
theorem ziT{bs:List Bytes}{s:PS}(h:(s.named||s.is [40])=true):(s.atom term bs).2.l.length<s.l.length:=by
 unfold PS.atom
 cases hi:s.is [40]with
 |true=>
  obtain⟨r,hl,he,htk⟩:=zcp hi
  rw[if_pos rfl]
  unfold PS.inner
  rw[htk]
  have h1:=(ht bs ⟨r,s.s,0⟩).len
  have h2:=(Zp [41] (term bs ⟨r,s.s,0⟩).2).len
  rw[hl]
  simp only[List.length_cons]at*
  omega
 |false=>
  rw[hi,Bool.or_false]at h
  obtain⟨x,r,hl,he,hn⟩:=zg4 h
  rw[if_neg (by simp),hn]
  dsimp only
  rw[hl]
  split
  ·rw[zlw];simp
  ·have:=(X9 x bs ⟨r,s.s,0⟩).len
   simp only[List.length_cons]at*
   omega
end
theorem YM: ∀n bs s,Mono s (PS.term n bs s).2
 |0,bs,s=>JC 4 s
 |n+1,bs,s=>by
  have ih:=YM n
  unfold PS.term
  split
  ·exact(((((Zp _ s).trans (ZG _)).trans (Zp _ _)).trans (ih _ _)).trans (Zp _ _)).trans (ih _ _)
  ·split
   ·exact(((Zp _ s).trans (ZG _)).trans (Zp _ _)).trans (ih _ _)
   ·exact zlx ih bs s
section
open Go.AM
variable{term:List Bytes→PS→T×PS}(ht: ∀bs s,Mono s (term bs s).2)(hz: ∀bs s,(term bs s).1.size+2*(term bs s).2.l.length≤2*s.l.length+1)
include hz
theorem zg5{bs:List Bytes}{s:PS}(h:s.is [40]=true):(s.inner term bs).1.size+2*(s.inner term bs).2.l.length+1≤2*s.l.length:=by
 obtain⟨r,hl,he,htk⟩:=zcp h
 unfold PS.inner
 rw[htk]
 have h1:=hz bs ⟨r,s.s,0⟩
 have h2:=(Zp [41] (term bs ⟨r,s.s,0⟩).2).len
 rw[hl]
 simp only[List.length_cons]at*
 omega
theorem zng{bs:List Bytes}{s:PS}(h:(s.named||s.is [40])=true):(s.atom term bs).1.size+2*(s.atom term bs).2.l.length+1≤2*s.l.length:=by
 unfold PS.atom
 cases hi:s.is [40]with
 |true=>rw[if_pos rfl];exact zg5 hz hi
 |false=>
  rw[hi,Bool.or_false]at h
  obtain⟨x,r,hl,he,hn⟩:=zg4 h
  rw[if_neg (by simp),hn]
  dsimp only
  rw[hl]
  split
  ·rw[zlw];simp[T.size,sizes];omega
  ·have h1:=(X9 x bs ⟨r,s.s,0⟩).len
   have h2:=QS x bs ⟨r,s.s,0⟩
   generalize(PS.head x bs ⟨r,s.s,0⟩)=q at*
   obtain⟨⟨k,h,zs⟩,q2⟩:=q
   simp only[T.args]at h2
   subst h2
   simp only[List.length_cons,T.size,sizes]at*
   omega
theorem zg6(bs:List Bytes): ∀m s,sizes (PS.args term bs m s).1+2*(PS.args term bs m s).2.l.length≤2*s.l.length
 |0,s=>by simp[PS.args,sizes]
 |m+1,s=>by
  unfold PS.args
  split
  ·rename_i h
   have h1:=zng hz (bs:=bs) h
   have h2:=zg6 bs m (s.atom term bs).2
   simp only[sizes]
   omega
  ·simp[sizes]
theorem zly(bs:List Bytes)(s:PS):(s.atoms term bs).1.size+2*(s.atoms term bs).2.l.length≤2*s.l.length+1:=by
 unfold PS.atoms
 split
 ·rename_i h
  have h1:=zg5 hz (bs:=bs) h
  have h2:=(JW (s.inner term bs).2).len
  dsimp only
  omega
 ·dsimp only
  have h1:=(ZG s).len
  split
  ·simp[T.size,sizes];omega
  ·split
   ·have h2:=(JW s.name.2).len
    simp[T.size,sizes];omega
   ·have h2:=(X9 s.name.1 bs s.name.2).len
    have h3:=zg6 hz bs (PS.head s.name.1 bs s.name.2).2.l.length (PS.head s.name.1 bs s.name.2).2
    simp only[T.size];omega
end
theorem zhK: ∀n bs s,(PS.term n bs s).1.size+2*(PS.term n bs s).2.l.length≤2*s.l.length+1
 |0,bs,s=>by simp only[PS.term,zlw];simp[T.size,T.size,Go.AM.sizes];omega
 |n+1,bs,s=>by
  have ih:=zhK n
  unfold PS.term
  split
  ·rename_i h
   obtain⟨r,hl,he,htk⟩:=zcp h
   dsimp only
   have h1:=(ZG (s.take [123])).len
   have h2:=(Zp [58] (s.take [123]).name.2).len
   have h3:=ih bs ((s.take [123]).name.2.take [58])
   have h4:=(Zp [125] (PS.term n bs ((s.take [123]).name.2.take [58])).2).len
   have h5:=ih ((s.take [123]).name.1::bs) ((PS.term n bs ((s.take [123]).name.2.take [58])).2.take [125])
   have h6:(s.take [123]).l.length+1=s.l.length:=by rw[htk,hl];rfl
   simp only[T.size,Go.AM.sizes]
   omega
  ·split
   ·rename_i h
    obtain⟨r,hl,he,htk⟩:=zcp h
    dsimp only
    have h1:=(ZG (s.take [91])).len
    have h2:=(Zp [93] (s.take [91]).name.2).len
    have h5:=ih ((s.take [91]).name.1::bs) ((s.take [91]).name.2.take [93])
    have h6:(s.take [91]).l.length+1=s.l.length:=by rw[htk,hl];rfl
    simp only[T.size,Go.AM.sizes]
    omega
   ·exact zly ih bs s
theorem zhL{s:PS}:(s.fail 8).e≠0:=zf8 (by decide) s
end Go.Ama
namespace Go.Proofs.SW
open Go Go.AM Go.Ama
def zok(n:Nat):Prop:= ∀(m:AM.Mode) (s:PS) (bs:List Bytes),bs.length+n≤1000→s.l.length≤100000→s.s.length≤1000→
 W.call 63 [.ref 0 0, .vec .plain none (J1 bs.reverse), .int (121-(n:Nat))] [Y0 m s]=some (.ret (enc (s.term n bs).1),[Y0 m (s.term n bs).2])
section
variable{n:Nat}(hn:n≤119)(ht:zok n)
include hn ht
theorem zg7(m:AM.Mode)(s:PS)(bs:List Bytes)(hb:bs.length+n≤1000)(hl:s.l.length≤100000)(hs:s.s.length≤1000):
  W.call 86 [.ref 0 0, .vec .plain none (J1 bs.reverse), .int (120-(n:Nat))] [Y0 m s]=some (.ret (enc (s.inner (PS.term n) bs).1),[Y0 m (s.inner (PS.term n) bs).2]):=by
 have hm:=Zp [40] s
 have hw:IntKind.i64.wrap (120-(n:Nat)+1)=121-(n:Nat):=by rw[Y9 ⟨by omega,by omega⟩];omega
 rw[C,zco,show V.str {data:= #[40]}=V.str (ba [40])from rfl,show V.str {data:= #[41]}=V.str (ba [41])from rfl,
  QR,Zb,Zd,Yr,Ye,hw,ht m (s.take [40]) bs hb (by have:=hm.len;omega) (by rw[hm.sig];exact hs),Zb,Zd,Z3,QR,Zb,Zd,Yr,Ye,←Zt]
 rfl
theorem zlY(x:Bytes):((ba x).toList==ByteArray.toList {data:= #[116,121,112,101]})=decide (x=typ):=zjS x typ
theorem zkx{s:PS}{x:Bytes}{bs:List Bytes}:Zm (zpP (s.head x bs).1)=enc (s.head x bs).1:=by
 have h:=QS x bs s
 generalize(s.head x bs).1=t at*
 obtain⟨k,h',zs⟩:=t
 simp only[T.args]at h
 subst h
 rfl
theorem znh(m:AM.Mode)(s:PS)(bs:List Bytes)(hb:bs.length+n≤1000)(hl:s.l.length≤100000)(hs:s.s.length≤1000):
  W.call 88 [.ref 0 0, .vec .plain none (J1 bs.reverse), .int (120-(n:Nat))] [Y0 m s]=some (.ret (enc (s.atom (PS.term n) bs).1),[Y0 m (s.atom (PS.term n) bs).2]):=by
 have hm:=ZG s
 unfold PS.atom
 rw[C,zcJ,show V.str {data:= #[40]}=V.str (ba [40])from rfl,zao,Zb,Zd,Zr]
 cases hi:s.is [40]with
 |true=>
  rw[Zo,zg7 hn ht m s bs hb hl hs,Zb,Zd,Z3,←Zt]
  rfl
 |false=>
  rw[Zi,zbq,Zb,Zd,X8,zlY hn ht]
  by_cases hx:s.name.1=typ
  ·simp only[hx,decide_true,Zo,QQ]
   rfl
  ·simp only[hx,decide_false,Zi]
   rw[zhJ m s.name.2 s.name.1 bs (by omega) (by rw[hm.sig];omega),Zb,Zd,zkx hn ht,Z3,←Zt]
   simp only[Bool.false_eq_true,if_false]
   rfl
theorem zni(m:AM.Mode)(bs:List Bytes)(hb:bs.length+n≤1000)(k h:Int)(v6:V): ∀(q:Nat) (s:PS) (xs:List T),s.l.length≤q→s.l.length+xs.length≤100000→s.s.length≤1000→
  W.loop 76 9 [.loc true (some 3) (.agg [.int k, .int h, .vec .grow (some 3) (Z0 xs)]), .int (120-(n:Nat)), .vec .plain none (J1 bs.reverse), .ref 0 0, .loc true (some 3) v6] [Y0 m s]=
   some (Ex.exit 1,[.loc true (some 3) v6, .loc true (some 3) (.agg [.int k, .int h, .vec .grow (some 3) (Z0 (xs++(PS.args (PS.term n) bs q s).1))])],[Y0 m (PS.args (PS.term n) bs q s).2]):=by
 intro q
 induction q with
 |zero=>
  intro s xs hq hl hs
  have hnil:s.l=[]:=List.eq_nil_of_length_eq_zero (by omega)
  have h1:s.named=false:=by simp[PS.named,hnil]
  have h2:s.is [40]=false:=by simp[PS.is,hnil]
  rw[L,Qy,zap,Zb,Zd,Zr,h1,Zi,show V.str {data:= #[40]}=V.str (ba [40])from rfl,zao,Zb,Zd,Zr,h2,Zi]
  simp[PS.args]
 |succ q ih=>
  intro s xs hq hl hs
  have hr:roomFor Tryd.prog 24 (xs.length+1)=true:=zpM (by omega)
  have go:(s.named||s.is [40])=true→Za (W.call 88 [V.ref 0 0,V.vec .plain none (J1 bs.reverse),V.int (120-(n:Nat))] [Y0 m s])
    (fun r4=>Zk r4.fst (fun v5=>Zg [CT.int,CT.int,CT.slice (some 3)] v5 fun n6 n7 l8=>gd (true&&roomFor Tryd.prog 24 ((Z0 xs).length+[V.agg [V.int n6,V.int n7,V.vec .plain (some 3) l8]].length))
     (W.loop 76 9 [V.loc true (some 3) (V.agg [V.int k,V.int h,V.vec Mode.grow (some 3) (Z0 xs++[V.agg [V.int n6,V.int n7,V.vec .plain (some 3) l8]])]),V.int (120-(n:Nat)),V.vec .plain none (J1 bs.reverse),V.ref 0 0,V.loc true (some 3) v6] r4.snd)) fun p9=>none)=
    some (Ex.exit 1,[.loc true (some 3) v6, .loc true (some 3) (.agg [.int k, .int h, .vec .grow (some 3) (Z0 (xs++(PS.args (PS.term n) bs (q+1) s).1))])],[Y0 m (PS.args (PS.term n) bs (q+1) s).2]):=by
   intro hc
   have hm:=zaO (YM n) bs s
   have hlt:=ziT (YM n) (bs:=bs) hc
   rw[znh hn ht m s bs hb (by omega) hs,Zb,Zd,Z3,←Zt]
   simp only[Yj,List.length_singleton,hr,Bool.and_self,ZU]
   have:=ih (s.atom (PS.term n) bs).2 (xs++[(s.atom (PS.term n) bs).1]) (by omega) (by simp;omega) (by rw[hm.sig];exact hs)
   rw[zjM,show Z0 [(s.atom (PS.term n) bs).1]=[enc (s.atom (PS.term n) bs).1]from rfl]at this
   rw[this]
   unfold PS.args
   rw[if_pos hc]
   simp only[List.append_assoc,List.singleton_append]
   cases q<;>rfl
  rw[L,Qy,zap,Zb,Zd,Zr]
  cases h1:s.named with
  |true=>rw[Zo];exact go (by simp[h1])
  |false=>
   rw[Zi,show V.str {data:= #[40]}=V.str (ba [40])from rfl,zao,Zb,Zd,Zr]
   cases h2:s.is [40]with
   |true=>rw[Zo];exact go (by simp[h2])
   |false=>
    rw[Zi]
    simp[PS.args,h1,h2]
theorem zlz(m:AM.Mode)(s:PS)(bs:List Bytes)(hb:bs.length+n≤1000)(hl:s.l.length≤100000)(hs:s.s.length≤1000):
  W.call 76 [.ref 0 0, .vec .plain none (J1 bs.reverse), .int (120-(n:Nat))] [Y0 m s]=some (.ret (enc (s.atoms (PS.term n) bs).1),[Y0 m (s.atoms (PS.term n) bs).2]):=by
 have hm:=ZG s
 unfold PS.atoms
 rw[C,zcm,show V.str {data:= #[40]}=V.str (ba [40])from rfl,zao,Zb,Zd,Zr]
 cases hi:s.is [40]with
 |true=>
  rw[Zo,zg7 hn ht m s bs hb hl hs,Zb,Zd,Z3,←Zt,zg2,Zb,Zd,Z3,←Zt]
  rfl
 |false=>
  have hget: ∀{R:Type} (K:Res→Option R) (s:PS),ZH [Y0 m s] 0 K=K (Y0 m s):=fun K s=>rfl
  have h3g: ∀{R:Type} (a b c:V) (X:Option R),gd (decide (3≤ [a,b,c].length)&&true) X=X:=fun a b c X=>rfl
  have hc: ∀(s:PS),Zm (AM.partOf [V.vec .plain (some 2) (Zj s.l),V.vec m (some 4) (ZZ s.s),V.int s.e] 2 none)= .int s.e:=fun s=>rfl
  rw[Zi,zbq,Zb,Zd,X8,hget,Y0,QM,←Y0,h3g,hc,YL,zlY hn ht,zlS]
  by_cases he:s.name.2.e=0
  ·by_cases hx:s.name.1=typ
   ·simp only[he,hx,decide_true,Bool.not_true,Zi,Zo,ne_eq,not_true_eq_false,if_true,if_false,Bool.false_eq_true]
    rw[show V.agg [V.int 0,V.int 0,V.vec .plain (some 3) []]=enc T0 from rfl,zg2,Zb,Zd,Z3,←Zt]
    rfl
   ·simp only[he,hx,decide_true,decide_false,Bool.not_true,Zi,ne_eq,not_true_eq_false,if_false,Bool.false_eq_true]
    have hh:=X9 s.name.1 bs s.name.2
    have ha:=QS s.name.1 bs s.name.2
    rw[zhJ m s.name.2 s.name.1 bs (by omega) (by rw[hm.sig];omega),Zb,Zd]
    have hon: ∀{R:Type} (t:T) (K:Int→Int→Option R),Zg (R:=R) [CT.int,CT.int,CT.nil (some 3)] (zpP t) K=K t.k t.h:=fun t K=>rfl
    rw[hon]
    have hlp:=zni hn ht m bs hb (s.name.2.head s.name.1 bs).1.k (s.name.2.head s.name.1 bs).1.h (V.agg [V.int 0,V.int 0,V.vec Mode.full (some 3) []]) (s.name.2.head s.name.1 bs).2.l.length (s.name.2.head s.name.1 bs).2 [] (Nat.le_refl _)
     (by have h1:=hm.len;have h2:=hh.len;simp only[List.length_nil];omega) (by rw[hh.sig,hm.sig];exact hs)
    rw[show Z0 []=([]:List V)from rfl,List.nil_append]at hlp
    rw[hlp,Zb,zeG]
    rfl
  ·simp only[he,decide_false,Bool.not_false,Zo,ne_eq,not_false_eq_true,if_true,if_false,Bool.false_eq_true]
   rfl
theorem zg8(m:AM.Mode)(s:PS)(x:Bytes)(bs:List Bytes)(hb:bs.length+1+n≤1000)(hl:s.l.length≤100000)(hs:s.s.length≤1000):
  W.call 75 [.ref 0 0, .str (ba x), .vec .plain none (J1 bs.reverse), .int (120-(n:Nat))] [Y0 m s]=some (.ret (enc (s.term n (x::bs)).1),[Y0 m (s.term n (x::bs)).2]):=by
 have hw:IntKind.i64.wrap (120-(n:Nat)+1)=121-(n:Nat):=by rw[Y9 ⟨by omega,by omega⟩];omega
 have hr:roomFor Tryd.prog 9 (bs.length+1)=true:=zku (by omega)
 have h1: ∀z:Int,decide (z=z)=true:=fun z=>by simp
 have h2: ∀z:Int,decide (z≤z)=true:=fun z=>by simp
 have h3: ∀z:Nat,decide ((0:Int)≤(z:Nat))=true:=fun z=>by simp
 have:=ht m s (x::bs) (by simpa using hb) hl hs
 rw[List.reverse_cons,zks,show J1 [x]=[V.str (ba x)]from rfl]at this
 rw[C,zcl]
 have h4:List.take bs.length (J1 bs.reverse)=J1 bs.reverse:=List.take_of_length_le (by simp)
 simp only[h1,h2,h3,h4,decide_true,Option.isSome_some,Int.toNat_natCast,List.drop_zero,zce,List.length_reverse,List.length_singleton,hr,Bool.and_self,ZU,hw]
 rw[this,Zb,Zd,Z3,←Zt]
 rfl
end
theorem zlZ: ∀n:Nat,n≤120→zok n
 |0,_=>fun m s bs _ _ _=>by
  rw[C,Jo]
  rw[show decide ((121:Int)-((0:Nat):Int)>120)=true from rfl,Zo,QQ,Zb]
  rfl
 |n+1,hn=>fun m s bs hb hl hs=>by
  have ih:=zlZ n (by omega)
  have hd:((121:Int)-((n+1:Nat):Int))=120-(n:Nat):=by omega
  have hgt:decide ((120:Int)-(n:Nat)>120)=false:=by simp;omega
  have hw:IntKind.i64.wrap (120-(n:Nat)+1)=121-(n:Nat):=by rw[Y9 ⟨by omega,by omega⟩];omega
  unfold PS.term
  rw[hd,C,Jo,hgt,Zi,show V.str {data:= #[123]}=V.str (ba [123])from rfl,show V.str {data:= #[58]}=V.str (ba [58])from rfl,show V.str {data:= #[125]}=V.str (ba [125])from rfl,
   show V.str {data:= #[91]}=V.str (ba [91])from rfl,show V.str {data:= #[93]}=V.str (ba [93])from rfl,zao,Zb,Zd,Zr]
  cases h1:s.is [123]with
  |true=>
   have m1:=(Zp [123] s).trans (ZG _)
   have m2:=m1.trans (Zp [58] _)
   have m3:=m2.trans (YM n bs _)
   have m4:=m3.trans (Zp [125] _)
   rw[Zo,QR,Zb,Zd,Yr,Ye,zbq,Zb,Zd,X8,QR,Zb,Zd,Yr,Ye,hw,
    ih m _ bs (by omega) (by have:=m2.len;omega) (by rw[m2.sig];exact hs),Zb,Zd,Z3,QR,Zb,Zd,Yr,Ye,
    zg8 (by omega) ih m _ _ bs (by omega) (by have:=m4.len;omega) (by rw[m4.sig];exact hs),Zb,Zd,Z3,←Zt,←Zt]
   rfl
  |false=>
   rw[Zi,zao,Zb,Zd,Zr]
   cases h2:s.is [91]with
   |true=>
    have m1:=(Zp [91] s).trans (ZG _)
    have m2:=m1.trans (Zp [93] _)
    rw[Zo,QR,Zb,Zd,Yr,Ye,zbq,Zb,Zd,X8,QR,Zb,Zd,Yr,Ye,
     zg8 (by omega) ih m _ _ bs (by omega) (by have:=m2.len;omega) (by rw[m2.sig];exact hs),Zb,Zd,Z3,←Zt]
    rfl
   |false=>
    rw[Zi,zlz (by omega) ih m s bs (by omega) hl hs,Zb,Zd,Z3,←Zt]
    rfl
end Go.Proofs.SW
namespace Go.Proofs.SW
open Go Go.AM Go.Ama
theorem zl0(m:AM.Mode)(s:PS)(hl:s.l.length≤100000)(hs:s.s.length≤1000):
  W.call 39 [.ref 0 0] [Y0 m s]=some (.ret (enc s.whole.1),[Y0 m s.whole.2]):=by
 have hz:=zhK 120 [] s
 have ht:=zlZ 120 (Nat.le_refl _) m s [] (by simp) hl hs
 rw[show J1 ([]:List Bytes).reverse=[]from rfl,show((121:Int)-((120:Nat):Int))=1 from rfl]at ht
 unfold PS.whole
 rw[C,zci,ht,Zb,Zd,Z3,←Zt,(zhH _ (by omega)).p,Zb,Zr]
 dsimp only
 cases hmy:may (PS.term 120 [] s).1 with
 |true=>rfl
 |false=>
  rw[Bool.not_false,Zo,QQ,Zb,Zd,Yr,Ye]
  rfl
end Go.Proofs.SW
