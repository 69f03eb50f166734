import Derived.Test.YtgoppocfbhbamaaGreatDoorAMa
import Derived.Test.YtgoppocfbhbamaaGreatDoorProg
import Derived.Test.YtgoppocfbhbamaaGreatDoorChecked
import Derived.Test.YtgoppocfbhbamaaGreatDoorAMd
import Derived.Shelf.Spec.SlicesGrow
import Derived.Shelf.Strconv.Itoa3
import Derived.CallsIn
import Derived.KernelRfl
import Derived.Lib.Bytealg
import Derived.Lib.ItoaNum
/- The program's functions, each an equation of the abstract machine checked by the kernel, and what they come to as_ plain Lean. -/
set_option linter.unusedVariables false
set_option linter.unusedSimpArgs false
set_option linter.unusedSectionVars false
namespace Go.Proofs.SZ
open Go Go.AM
def zuH:Nat→Option FnHints
 |2=>some ⟨true,[],[],[],[],[]⟩
 |3=>some ⟨true,[],[],[],[],[(6, .ty 4)]⟩
 |4=>some ⟨true,[],[],[],[],[(2, .ty 4)]⟩
 |5=>some ⟨true,[],[],[],[],[(0, .ty 4)]⟩
 |6=>some ⟨true,[],[],[(4,[(3, .ty 3),(0, .any)])],[(4,[])],[(2, .ty 4)]⟩
 |7=>some ⟨true,[],[],[(2,[(3, .ty 3),(0, .any)])],[(2,[])],[(2, .ty 4)]⟩
 |8=>some ⟨true,[],[],[],[],[(6, .ty 4)]⟩
 |9=>some ⟨true,[],[],[],[],[(10, .ty 29)]⟩
 |10=>some ⟨true,[],[(16,8),(16,0),(16,9),(0,0),(12,0),(15,1)],[(3,[(15, .ty 3),(4, .mp),(13, .any),(0, .any),(14, .ty 3)]),(9,[(27, .ty 3),(7, .grow none),(0, .any),(4, .mp),(25, .any),(26, .ty 3)])],[(3,[(0, .ty 22),(4, .mp)]),(9,[(7, .grow none)])],[(2, .ty 31),(3, .ty 29)]⟩
 |11=>some ⟨true,[12],[(3,1),(0,1),(2,0),(6,4)],[],[],[(4, .ty 31),(5, .ty 29)]⟩
 |12=>some ⟨true,[19],[(2,3)],[],[],[(4, .locA (some 3)),(5, .ty 29)]⟩
 |13=>some ⟨true,[],[],[(4,[(31, .ty 3),(3, .loc 25),(29, .any),(30, .ty 3)])],[(4,[])],[(4, .ty 4)]⟩
 |14=>some ⟨true,[],[],[],[],[(2, .ty 3),(3, .ty 29)]⟩
 |15=>some ⟨true,[15],[(2,2),(0,0),(8,4)],[(3,[(6, .ref)])],[(3,[(6, .ref)])],[(2, .ty 22),(3, .ty 29)]⟩
 |16=>some ⟨true,[],[],[(4,[(5, .ty 3),(1, .any),(0, .any)])],[(4,[])],[(4, .ty 4)]⟩
 |17=>some ⟨true,[],[(0,0)],[],[],[(0, .ty 22)]⟩
 |18=>some ⟨true,[],[],[(4,[(3, .ty 3),(1, .loc 25)])],[(4,[])],[(2, .ty 4)]⟩
 |19=>some ⟨true,[],[],[(3,[(4, .ty 3),(1, .loc 25),(3, .ty 3)])],[(3,[(3, .ty 3)])],[(2, .ty 3)]⟩
 |20=>some ⟨true,[],[],[(3,[(4, .ty 3),(3, .ty 3),(1, .loc 25)])],[(3,[(3, .ty 3)])],[(2, .ty 3)]⟩
 |21=>some ⟨true,[],[],[],[],[(4, .ty 4)]⟩
 |22=>some ⟨true,[],[],[],[],[(6, .ty 29)]⟩
 |23=>some ⟨true,[],[],[],[],[(2, .ty 4)]⟩
 |24=>some ⟨true,[],[],[],[],[(2, .ty 4)]⟩
 |25=>some ⟨false,[],[],[(4,[(17, .ty 3),(5, .any),(3, .any),(15, .any),(16, .ty 3)])],[(4,[])],[]⟩
 |26=>some ⟨true,[],[(7,2),(7,0),(7,3),(8,3),(8,0),(8,6),(0,0)],[(4,[(9, .ty 3),(3, .grow none),(4, .ty 3),(7, .any),(8, .ty 3)])],[(4,[(3, .grow none)])],[(2, .ty 31)]⟩
 |27=>some ⟨true,[],[(13,6),(13,0),(13,7),(16,6),(16,0),(16,7),(0,0),(2,0),(8,0)],[(1000000,[(5, .grow (some 2)),(4, .ty 9),(2, .any),(3, .ty 29)])],[(1000000,[(2, .ty 57),(3, .ty 29)])],[(2, .ty 57),(3, .ty 29)]⟩
 |28=>some ⟨false,[],[],[],[],[(2, .locA (some 3))]⟩
 |29=>some ⟨false,[],[],[],[],[]⟩
 |30=>some ⟨false,[],[],[(4,[(14, .ty 3),(1, .any),(12, .any),(13, .ty 3)])],[(4,[])],[(4, .ty 3),(5, .ty 29)]⟩
 |31=>some ⟨false,[],[],[],[],[(5, .ty 29)]⟩
 |32=>some ⟨true,[],[],[],[],[(2, .ty 4)]⟩
 |33=>some ⟨true,[],[],[],[],[(8, .ty 29)]⟩
 |34=>some ⟨true,[],[],[],[],[(8, .ty 29)]⟩
 |35=>some ⟨false,[],[(6,9),(6,4),(6,12)],[],[],[]⟩
 |36=>some ⟨true,[],[],[(4,[(5, .ty 3),(3, .loc 25),(2, .loc 25)])],[(4,[])],[(4, .ty 4)]⟩
 |37=>some ⟨true,[],[],[],[],[(2, .ty 4)]⟩
 |38=>some ⟨false,[],[],[],[],[(4, .ty 4)]⟩
 |39=>some ⟨false,[],[],[],[],[(3, .ty 4)]⟩
 |40=>some ⟨false,[],[],[],[],[(4, .ty 4)]⟩
 |41=>some ⟨false,[],[],[],[],[(3, .ty 4)]⟩
 |42=>some ⟨false,[],[],[],[],[(4, .ty 4)]⟩
 |43=>some ⟨true,[],[(1,11),(1,13)],[],[],[(4, .locA (some 3))]⟩
 |44=>some ⟨true,[],[],[],[],[(4, .locA (some 3)),(5, .ty 29)]⟩
 |45=>some ⟨true,[],[],[],[],[(4, .locA (some 3)),(5, .ty 29)]⟩
 |46=>some ⟨true,[],[],[],[],[(4, .locA (some 3)),(5, .ty 29)]⟩
 |47=>some ⟨true,[],[],[(7,[(4, .locA (some 3)),(35, .ty 3),(3, .loc 25),(2, .loc 51),(33, .any),(6, .loc 74),(34, .ty 3)])],[(7,[(4, .locA (some 3)),(2, .loc 51),(3, .loc 25),(6, .loc 74)])],[(4, .locA (some 3)),(5, .ty 29)]⟩
 |48=>some ⟨true,[],[],[(3,[(9, .ty 3),(3, .ty 3),(7, .any),(8, .ty 3)])],[(3,[(3, .ty 3)])],[(2, .ty 3)]⟩
 |49=>some ⟨true,[3],[],[(3,[(3, .any)])],[],[(2, .ty 3)]⟩
 |50=>some ⟨false,[4],[],[(4,[(4, .any),(3, .any)])],[],[(4, .ref)]⟩
 |51=>some ⟨true,[],[],[],[],[(4, .ty 4)]⟩
 |52=>some ⟨true,[],[],[],[],[(2, .ty 4)]⟩
 |53=>some ⟨false,[],[(0,8),(0,4),(0,11)],[],[],[]⟩
 |54=>some ⟨false,[],[],[],[],[]⟩
 |55=>some ⟨false,[],[],[],[],[]⟩
 |56=>some ⟨false,[],[],[],[],[]⟩
 |57=>some ⟨false,[],[(3,8),(3,4),(3,11)],[(1,[(8, .ty 3),(0, .ref),(6, .any),(7, .ty 3)])],[(1,[])],[]⟩
 |58=>some ⟨false,[],[],[],[],[]⟩
 |59=>some ⟨false,[],[],[],[],[]⟩
 |60=>some ⟨true,[],[],[],[],[(2, .ty 4)]⟩
 |61=>some ⟨false,[],[],[],[],[]⟩
 |62=>some ⟨true,[],[],[],[],[(2, .ty 4)]⟩
 |63=>some ⟨true,[],[],[],[],[(2, .ty 3)]⟩
 |64=>some ⟨true,[],[],[],[],[(4, .ty 4)]⟩
 |65=>some ⟨true,[],[],[],[],[(2, .ty 4)]⟩
 |66=>some ⟨true,[],[],[(2,[(0, .ty 9),(6, .any)])],[(2,[(0, .ty 9)])],[(2, .ty 3)]⟩
 |67=>some ⟨false,[],[],[],[],[(6, .locA (some 3))]⟩
 |68=>some ⟨true,[1],[],[(3,[(1, .any)])],[],[(2, .locA (some 3))]⟩
 |69=>some ⟨true,[],[],[],[],[(4, .ty 29)]⟩
 |70=>some ⟨true,[],[],[],[],[(4, .ty 29)]⟩
 |71=>some ⟨false,[],[],[],[],[(2, .ty 9)]⟩
 |72=>some ⟨false,[],[],[],[],[(3, .ty 4)]⟩
 |73=>some ⟨false,[],[],[],[],[]⟩
 |74=>some ⟨false,[],[],[(2,[(8, .ty 3),(0, .any),(1, .any),(7, .ty 3)])],[(2,[])],[(4, .ty 3)]⟩
 |75=>some ⟨false,[],[],[(2,[(8, .ty 3),(0, .any),(1, .any),(7, .ty 3)])],[(2,[])],[(4, .ty 3)]⟩
 |76=>some ⟨false,[],[],[(2,[(8, .ty 3),(0, .any),(1, .any),(7, .ty 3)])],[(2,[])],[(4, .ty 3)]⟩
 |77=>some ⟨true,[],[],[(2,[(6, .locA (some 3)),(15, .ty 3),(4, .loc 25),(3, .loc 51),(13, .any),(14, .ty 3)])],[(2,[(6, .locA (some 3)),(4, .loc 25)])],[(6, .locA (some 3)),(7, .ty 29)]⟩
 |78=>some ⟨true,[],[],[],[],[(6, .locA (some 3))]⟩
 |79=>some ⟨true,[],[],[],[],[(6, .locA (some 3)),(7, .ty 29)]⟩
 |80=>some ⟨true,[],[],[],[],[(4, .locA (some 3)),(5, .ty 29)]⟩
 |81=>some ⟨false,[],[],[],[],[(2, .any)]⟩
 |82=>some ⟨true,[],[],[],[],[(2, .ty 9)]⟩
 |83=>some ⟨true,[],[],[],[],[(4, .ty 3)]⟩
 |84=>some ⟨true,[],[],[(1000001,[(8, .ty 3),(9, .ty 3),(1, .ty 21),(0, .ty 9),(7, .ty 9),(4, .ty 3)]),(5,[(8, .ty 3),(1, .ty 21),(0, .ty 9),(7, .ty 9),(10, .ty 3),(9, .ty 3)]),(1000000,[(8, .ty 3),(1, .ty 21),(0, .ty 9),(7, .ty 9),(9, .ty 3),(10, .ty 3)]),(12,[(8, .ty 3),(1, .ty 21),(0, .ty 9),(7, .ty 9),(9, .ty 3),(10, .ty 3),(12, .ty 3)]),(1000002,[(9, .ty 3),(8, .ty 3),(7, .ty 9),(0, .ty 9),(15, .ty 5),(14, .ty 5)]),(25,[(9, .ty 3),(8, .ty 3),(7, .ty 9),(0, .ty 9),(15, .ty 5),(14, .ty 5)]),(29,[(8, .ty 3),(7, .ty 9),(0, .ty 9),(15, .ty 5),(14, .ty 5),(9, .ty 3),(16, .ty 3)]),(38,[(175, .any)])],[(1000001,[(4, .ty 3)]),(5,[(8, .ty 3),(9, .ty 3),(1, .ty 21),(0, .ty 9),(7, .ty 9)]),(1000000,[(8, .ty 3),(1, .ty 21),(0, .ty 9),(7, .ty 9),(10, .ty 3),(9, .ty 3)]),(12,[(8, .ty 3),(9, .ty 3),(1, .ty 21),(0, .ty 9),(7, .ty 9),(10, .ty 3)]),(1000002,[]),(25,[]),(29,[(8, .ty 3),(9, .ty 3),(7, .ty 9),(0, .ty 9),(15, .ty 5),(14, .ty 5)]),(38,[])],[(4, .ty 3)]⟩
 |85=>some ⟨false,[],[],[],[],[(4, .ty 4)]⟩
 |86=>some ⟨false,[],[(1,9)],[],[],[(8, .locA (some 3))]⟩
 |87=>some ⟨false,[],[(10,7),(10,1),(10,9),(8,3)],[(9,[(8, .dloc (some 3) [.ct .int, .ct .int, .grow (some 3)]),(2, .ty 3),(1, .any),(0, .ref),(6, .locA (some 3))])],[(9,[(6, .locA (some 3)),(8, .dloc (some 3) [.ct .int, .ct .int, .grow (some 3)])])],[(6, .locA (some 3))]⟩
 |88=>some ⟨false,[1],[],[],[],[(2, .any)]⟩
 |89=>some ⟨false,[],[],[],[],[(6, .ty 29)]⟩
 |90=>some ⟨false,[],[],[],[],[(4, .ty 9)]⟩
 |91=>some ⟨false,[],[],[],[],[(2, .ty 4)]⟩
 |92=>some ⟨true,[],[],[],[],[(6, .ty 4)]⟩
 |93=>some ⟨true,[],[(5,4),(5,0),(5,5)],[(3,[(9, .ty 3),(3, .grow (some 3)),(7, .any),(2, .locA (some 3)),(1, .loc 25),(8, .ty 3)])],[(3,[(2, .locA (some 3)),(3, .grow (some 3)),(1, .loc 25)])],[(2, .locA (some 3))]⟩
 |94=>some ⟨false,[],[],[],[],[(6, .locA (some 3)),(7, .ty 4)]⟩
 |95=>some ⟨true,[],[],[],[],[(6, .ty 3),(7, .ty 4)]⟩
 |96=>some ⟨true,[],[],[],[],[(2, .ty 4)]⟩
 |97=>some ⟨false,[2,3,7],[],[],[],[(2, .ref),(3, .ref)]⟩
 |98=>some ⟨false,[],[],[],[],[(4, .locA (some 3))]⟩
 |99=>some ⟨false,[],[(11,7),(11,1),(11,9),(4,6),(4,4)],[(6,[(32, .ty 3),(7, .dloc (some 3) [.ct .int, .ct .int, .grow (some 3)]),(0, .ref),(5, .loc 106),(4, .loc 25),(30, .any),(6, .locA (some 3)),(31, .ty 3)])],[(6,[(6, .locA (some 3)),(7, .dloc (some 3) [.ct .int, .ct .int, .grow (some 3)]),(4, .loc 25),(5, .loc 106),(0, .ref)])],[(6, .locA (some 3))]⟩
 |100=>some ⟨false,[],[],[],[],[]⟩
 |101=>some ⟨false,[],[],[(4,[(18, .ty 3),(2, .any),(3, .loc 25),(1, .ty 3),(16, .any),(17, .ty 3)])],[(4,[])],[(6, .ty 4)]⟩
 |102=>some ⟨true,[],[],[],[],[(2, .ty 9)]⟩
 |103=>some ⟨true,[],[],[],[],[(4, .ty 3)]⟩
 |104=>some ⟨true,[],[],[],[],[(2, .ty 4)]⟩
 |105=>some ⟨true,[],[],[],[],[(2, .ty 3)]⟩
 |107=>some ⟨false,[],[],[],[],[(4, .locA (some 3))]⟩
 |108=>some ⟨false,[],[],[],[],[(6, .locA (some 3))]⟩
 |109=>some ⟨false,[],[(5,1),(10,0),(12,1),(13,1)],[(2,[(6, .locA (some 3)),(11, .ty 3),(4, .loc 9),(2, .any),(0, .ref),(10, .ty 3)])],[(2,[(6, .locA (some 3)),(0, .ref),(4, .loc 9)])],[(6, .locA (some 3))]⟩
 |110=>some ⟨false,[],[],[],[],[(6, .locA (some 3))]⟩
 |111=>some ⟨false,[],[],[(0,[(1, .any),(0, .any)])],[(0,[])],[]⟩
 |112=>some ⟨false,[],[(8,3),(8,0),(8,4),(0,0),(7,0)],[(3,[(13, .ty 3),(6, .grow (some 3)),(1, .any),(11, .any),(12, .ty 3)])],[(3,[(6, .grow (some 3))])],[(4, .ty 23),(5, .ty 4)]⟩
 |113=>some ⟨false,[],[],[],[],[(7, .locA (some 3)),(8, .ty 4)]⟩
 |114=>some ⟨true,[],[],[],[],[(2, .ty 4)]⟩
 |115=>some ⟨false,[],[],[],[],[]⟩
 |116=>some ⟨false,[],[],[],[],[]⟩
 |117=>some ⟨true,[],[(5,5),(5,1),(5,7),(7,4),(7,1),(7,6),(1,5),(1,3)],[(3,[(13, .ty 3),(3, .dloc (some 2) [.grow (some 3), .ct .int]),(11, .any),(2, .locA (some 2)),(12, .ty 3)])],[(3,[(2, .locA (some 2)),(3, .dloc (some 2) [.grow (some 3), .ct .int])])],[(2, .locA (some 2))]⟩
 |118=>some ⟨false,[],[],[],[],[(6, .locA (some 3))]⟩
 |119=>some ⟨true,[],[],[],[],[(4, .locA (some 3))]⟩
 |120=>some ⟨true,[],[],[],[],[(2, .ty 4)]⟩
 |121=>some ⟨true,[],[],[],[],[(4, .ty 9)]⟩
 |123=>some ⟨false,[],[],[],[],[(3, .ty 4)]⟩
 |124=>some ⟨true,[],[(9,2),(13,2),(13,0),(13,3),(0,0)],[(3,[(11, .ty 3),(3, .ty 3),(9, .any),(0, .any),(10, .ty 3)]),(11,[(27, .ty 3),(6, .grow (some 3)),(25, .any),(26, .ty 3)])],[(3,[(0, .ty 154),(3, .ty 3)]),(11,[(6, .grow (some 3))])],[(2, .ty 23)]⟩
 |125=>some ⟨true,[],[],[],[],[(2, .ty 9)]⟩
 |126=>some ⟨true,[],[],[],[],[(2, .ty 3)]⟩
 |127=>some ⟨true,[],[],[(1,[(4, .ty 3),(0, .any),(1, .ty 149)])],[(1,[(0, .ty 31),(4, .ty 3),(1, .ty 149)])],[]⟩
 |128=>some ⟨true,[],[(29,3),(29,0),(29,4)],[(18,[(12, .loc 159),(17, .ty 149),(1, .ty 149),(13, .ty 3),(11, .ty 9),(0, .any),(10, .grow none),(4, .ty 4),(3, .ty 4)]),(11,[(14, .ty 133),(1, .ty 149),(12, .loc 159),(16, .ty 133),(13, .ty 3),(11, .ty 9),(0, .any),(10, .grow none),(4, .ty 4),(3, .ty 4),(15, .ty 149)])],[(18,[(11, .ty 9),(12, .loc 159),(0, .ty 31),(10, .grow none),(4, .ty 4),(3, .ty 4),(1, .ty 149),(13, .ty 3)]),(11,[(11, .ty 9),(12, .loc 159),(0, .ty 31),(10, .grow none),(4, .ty 4),(3, .ty 4),(1, .ty 149),(13, .ty 3)])],[(10, .grow none),(11, .ty 9)]⟩
 |129=>some ⟨true,[],[(5,5),(0,0)],[],[],[(4, .ty 23)]⟩
 |130=>some ⟨true,[],[],[],[],[(2, .ty 3)]⟩
 |131=>some ⟨true,[],[],[],[],[(2, .ty 3)]⟩
 |132=>some ⟨true,[],[],[],[],[(2, .ty 3)]⟩
 |133=>some ⟨true,[],[],[],[],[(2, .ty 4)]⟩
 |134=>some ⟨true,[],[],[],[],[(2, .ty 3)]⟩
 |135=>some ⟨true,[],[],[],[],[(2, .ty 3)]⟩
 |136=>some ⟨true,[],[],[],[],[(2, .ty 3)]⟩
 |159=>some ⟨true,[],[],[],[],[]⟩
 |_=>none
def cfg:Cfg:=Cfg.of zuH [109] [97,98,99,116,118]
end Go.Proofs.SZ
namespace Go.Proofs.SZ
open Go Go.AM Go.RowKit
set_option maxRecDepth 100000
theorem zq3{P:Program}{ρ:Go.Shelf.Ren}(L:Lays8.n4 P ρ){fn:Func}(hf:P.funcs[ρ.f 4]? =some fn)(hb:fn.body.isSome=true){i0:TypeInfo}(hi0:P.info? (ρ.t 25)=some i0){z:Value}(hz:i0.zero=some z)(hzl:z.cells.size=i0.size):GrowAt P (ρ.f 4) (ρ.t 25):=by
 refine⟨⟨fn,hf,hb⟩,fun k w i hi hs hb2 hk=> ?_⟩
 rw[hi0]at hi
 cases hi
 by_cases h0:k=0
 ·subst h0
  exact(Any8.slices_Grow_room L none 0 0 0 w (Nat.le_refl _) (by decide) (by decide) (Nat.le_refl _)).mono fun ed w' h=> .inl h
 ·have hk63:k≤140737488355328:=Nat.le_trans (Nat.le_mul_of_pos_right k hb2) hk
  refine(Any8.slices_Grow_grow L i0 z hi0 hz hs none 0 0 k [] w (Nat.le_refl _) (by omega) (by simpa using hk) (by omega) (by simp) (fun _=>rfl) (fun a h=>by cases h)).mono fun ed w' h=> .inr ⟨_,_,h.1,h.2, ?_⟩
  have hge:0+k≤grownCap w (0+k) 0 (ρ.t 25):=grownCap_ge w _ _ _
  generalize grownCap w (0+k) 0 (ρ.t 25)=G at hge⊢
  simp only[Array.size_append,List.size_toArray,List.length_nil,Nat.zero_add,size_zeroCells,hzl]
  rw[←Nat.add_mul]
  congr 1
  omega
theorem names:(Tryz.prog.funcs.all fun fn=>fn.name != "runtime.NumGoroutine")=true:=by kernel_rfl
def zov:Go.Shelf.Ren:=⟨fun|4=>129|_=>0,fun|0=>0|3=>3|4=>4|9=>9|20=>20|22=>23|25=>25|_=>0,fun _=>0⟩
theorem zmK:Lays8.n4 Tryz.prog zov where
 mixed:=by kernel_rfl
 f4:=⟨"slices.Grow[[]amanuensis/api.Term,amanuensis/api.Term]",by decide,Tryz.func129.trans (congrArg some (by kernel_rfl))⟩
 t0:=Tryz.underlying0
 a0:=Tryz.isAgg0
 z0:=Tryz.sizeOf0
 v0:=Tryz.zeroValue0
 t3:=Tryz.underlying3
 a3:=Tryz.isAgg3
 z3:=Tryz.sizeOf3
 v3:=Tryz.zeroValue3
 t4:=Tryz.underlying4
 a4:=Tryz.isAgg4
 z4:=Tryz.sizeOf4
 v4:=Tryz.zeroValue4
 t9:=Tryz.underlying9
 a9:=Tryz.isAgg9
 z9:=Tryz.sizeOf9
 v9:=Tryz.zeroValue9
 t20:=Tryz.underlying20
 a20:=Tryz.isAgg20
 z20:=Tryz.sizeOf20
 v20:=Tryz.zeroValue20
 t22:=Tryz.underlying23
 a22:=Tryz.isAgg23
 z22:=Tryz.sizeOf23
 v22:=Tryz.zeroValue23
theorem zq4:GrowAt Tryz.prog 129 25:=zq3 zmK Tryz.func129 rfl rfl rfl rfl
theorem zsb:((List.range Tryz.prog.funcs.size).all fun g=>match growElem Tryz.prog g with|none=>true|some e=>(g==129&&e==25))=true:=by kernel_rfl
theorem plainNames:PlainNames Tryz.prog where
 names f fn h e:=by
  have:=Array.all_eq_true_iff_forall_mem.1 names fn (Array.mem_of_getElem? h)
  simp[e]at this
 grow g e h:=by
  have hg:g<Tryz.prog.funcs.size:=by
   unfold growElem at h
   split at h
   ·rename_i hh;exact(Array.getElem?_eq_some_iff.1 hh).1
   ·cases h
  have:=List.all_eq_true.1 zsb g (List.mem_range.2 hg)
  simp only[h]at this
  simp only[Bool.or_eq_true,Bool.and_eq_true,beq_iff_eq]at this
  rcases this with⟨rfl,rfl⟩
  ·exact zq4
end Go.Proofs.SZ
namespace Go.Proofs.SZ
open Go Go.AM Go.RowKit
set_option maxRecDepth 100000
noncomputable def ext:Ext:=fun f=>bif Nat.beq f 97 then some (fun O args st=>ze2 Tryz.prog cfg O 97 args st)
 else bif Nat.beq f 82 then some (fun _ args st=>zp3 args st)else none
def zta:Go.Shelf.Ren:=⟨fun|129=>131|171=>82|243=>102|246=>121|283=>125|284=>126|285=>127|286=>128|317=>130|318=>132|319=>133|320=>134|337=>135|338=>136|n=>n,fun|0=>0|2=>2|3=>3|4=>4|5=>5|9=>9|20=>20|37=>31|46=>133|51=>158|53=>149|171=>148|173=>152|212=>157|213=>159|232=>163|233=>164|n=>n,fun|17=>1|18=>2|19=>3|n=>n⟩
theorem zsc:Lays.n171 Tryz.prog zta where
 mixed:=by kernel_rfl
 f129:=Tryz.func131.trans (congrArg some (by kernel_rfl))
 f171:=Tryz.func82.trans (congrArg some (by kernel_rfl))
 f243:=Tryz.func102.trans (congrArg some (by kernel_rfl))
 f246:=Tryz.func121.trans (congrArg some (by kernel_rfl))
 f283:=Tryz.func125.trans (congrArg some (by kernel_rfl))
 f284:=Tryz.func126.trans (congrArg some (by kernel_rfl))
 f285:=Tryz.func127.trans (congrArg some (by kernel_rfl))
 f286:=Tryz.func128.trans (congrArg some (by kernel_rfl))
 f317:=Tryz.func130.trans (congrArg some (by kernel_rfl))
 f318:=Tryz.func132.trans (congrArg some (by kernel_rfl))
 f319:=Tryz.func133.trans (congrArg some (by kernel_rfl))
 f320:=Tryz.func134.trans (congrArg some (by kernel_rfl))
 f337:=Tryz.func135.trans (congrArg some (by kernel_rfl))
 f338:=Tryz.func136.trans (congrArg some (by kernel_rfl))
 t0:=Tryz.underlying0
 a0:=Tryz.isAgg0
 z0:=Tryz.sizeOf0
 v0:=Tryz.zeroValue0
 t2:=Tryz.underlying2
 a2:=Tryz.isAgg2
 z2:=Tryz.sizeOf2
 v2:=Tryz.zeroValue2
 t3:=Tryz.underlying3
 a3:=Tryz.isAgg3
 z3:=Tryz.sizeOf3
 v3:=Tryz.zeroValue3
 t4:=Tryz.underlying4
 a4:=Tryz.isAgg4
 z4:=Tryz.sizeOf4
 v4:=Tryz.zeroValue4
 t5:=Tryz.underlying5
 a5:=Tryz.isAgg5
 z5:=Tryz.sizeOf5
 v5:=Tryz.zeroValue5
 t9:=Tryz.underlying9
 a9:=Tryz.isAgg9
 z9:=Tryz.sizeOf9
 v9:=Tryz.zeroValue9
 t20:=Tryz.underlying20
 a20:=Tryz.isAgg20
 z20:=Tryz.sizeOf20
 v20:=Tryz.zeroValue20
 t37:=Tryz.underlying31
 a37:=Tryz.isAgg31
 z37:=Tryz.sizeOf31
 v37:=Tryz.zeroValue31
 t46:=Tryz.underlying133
 a46:=Tryz.isAgg133
 z46:=Tryz.sizeOf133
 v46:=Tryz.zeroValue133
 t51:=Tryz.underlying158
 a51:=Tryz.isAgg158
 z51:=Tryz.sizeOf158
 v51:=Tryz.zeroValue158
 t53:=Tryz.underlying149
 a53:=Tryz.isAgg149
 z53:=Tryz.sizeOf149
 v53:=Tryz.zeroValue149
 t171:=Tryz.underlying148
 a171:=Tryz.isAgg148
 z171:=Tryz.sizeOf148
 v171:=Tryz.zeroValue148
 t173:=Tryz.underlying152
 a173:=Tryz.isAgg152
 z173:=Tryz.sizeOf152
 v173:=Tryz.zeroValue152
 t212:=Tryz.underlying157
 a212:=Tryz.isAgg157
 z212:=Tryz.sizeOf157
 v212:=Tryz.zeroValue157
 t213:=Tryz.underlying159
 a213:=Tryz.isAgg159
 z213:=Tryz.sizeOf159
 t232:=Tryz.underlying163
 a232:=Tryz.isAgg163
 z232:=Tryz.sizeOf163
 v232:=Tryz.zeroValue163
 t233:=Tryz.underlying164
 a233:=Tryz.isAgg164
 z233:=Tryz.sizeOf164
 v233:=Tryz.zeroValue164
 g17:=by kernel_rfl
 g18:=by kernel_rfl
 g19:=by kernel_rfl
theorem ztT:zrR Tryz.prog 82:=⟨⟨_,Tryz.func82,rfl⟩,fun i hi w=>Any.strconv_Itoa_small zsc i hi w⟩
theorem extOK:zhm Tryz.prog cfg ext:=fun f x h O hC hRd args st y hy=>by
 unfold ext at h
 cases h97:Nat.beq f 97
 case true=>
  rw[h97]at h
  cases h
  obtain rfl:=Nat.eq_of_beq_eq_true h97
  exact zrQ plainNames hC hRd _ _ _ _ hy
 rw[h97]at h
 cases h82:Nat.beq f 82
 case true=>
  rw[h82]at h
  cases h
  obtain rfl:=Nat.eq_of_beq_eq_true h82
  exact zrS ztT hy
 rw[h82]at h
 cases h
theorem ziz:zdb ext:=fun f x h=>by
 unfold ext at h
 cases h97:Nat.beq f 97
 case true=>
  rw[h97]at h
  cases h
  exact fun Os O hO args st x hx=>zq0 hO hx
 rw[h97]at h
 cases h82:Nat.beq f 82
 case true=>
  rw[h82]at h
  cases h
  exact fun Os O hO args st x hx=> .of fun _=>hx
 rw[h82]at h
 cases h
class NoExt(f:Nat):Prop where
 h:ext f=none
instance:NoExt 2:=⟨rfl⟩
instance:NoExt 3:=⟨rfl⟩
instance:NoExt 4:=⟨rfl⟩
instance:NoExt 5:=⟨rfl⟩
instance:NoExt 6:=⟨rfl⟩
instance:NoExt 7:=⟨rfl⟩
instance:NoExt 8:=⟨rfl⟩
instance:NoExt 9:=⟨rfl⟩
instance:NoExt 10:=⟨rfl⟩
instance:NoExt 11:=⟨rfl⟩
instance:NoExt 12:=⟨rfl⟩
instance:NoExt 13:=⟨rfl⟩
instance:NoExt 14:=⟨rfl⟩
instance:NoExt 15:=⟨rfl⟩
instance:NoExt 16:=⟨rfl⟩
instance:NoExt 17:=⟨rfl⟩
instance:NoExt 18:=⟨rfl⟩
instance:NoExt 19:=⟨rfl⟩
instance:NoExt 20:=⟨rfl⟩
instance:NoExt 21:=⟨rfl⟩
instance:NoExt 22:=⟨rfl⟩
instance:NoExt 23:=⟨rfl⟩
instance:NoExt 24:=⟨rfl⟩
instance:NoExt 25:=⟨rfl⟩
instance:NoExt 26:=⟨rfl⟩
instance:NoExt 27:=⟨rfl⟩
instance:NoExt 28:=⟨rfl⟩
instance:NoExt 29:=⟨rfl⟩
instance:NoExt 30:=⟨rfl⟩
instance:NoExt 31:=⟨rfl⟩
instance:NoExt 32:=⟨rfl⟩
instance:NoExt 33:=⟨rfl⟩
instance:NoExt 34:=⟨rfl⟩
instance:NoExt 35:=⟨rfl⟩
instance:NoExt 36:=⟨rfl⟩
instance:NoExt 37:=⟨rfl⟩
instance:NoExt 38:=⟨rfl⟩
instance:NoExt 39:=⟨rfl⟩
instance:NoExt 40:=⟨rfl⟩
instance:NoExt 41:=⟨rfl⟩
instance:NoExt 42:=⟨rfl⟩
instance:NoExt 43:=⟨rfl⟩
instance:NoExt 44:=⟨rfl⟩
instance:NoExt 45:=⟨rfl⟩
instance:NoExt 46:=⟨rfl⟩
instance:NoExt 47:=⟨rfl⟩
instance:NoExt 48:=⟨rfl⟩
instance:NoExt 49:=⟨rfl⟩
instance:NoExt 50:=⟨rfl⟩
instance:NoExt 51:=⟨rfl⟩
instance:NoExt 52:=⟨rfl⟩
instance:NoExt 53:=⟨rfl⟩
instance:NoExt 54:=⟨rfl⟩
instance:NoExt 55:=⟨rfl⟩
instance:NoExt 56:=⟨rfl⟩
instance:NoExt 57:=⟨rfl⟩
instance:NoExt 58:=⟨rfl⟩
instance:NoExt 59:=⟨rfl⟩
instance:NoExt 60:=⟨rfl⟩
instance:NoExt 61:=⟨rfl⟩
instance:NoExt 62:=⟨rfl⟩
instance:NoExt 63:=⟨rfl⟩
instance:NoExt 64:=⟨rfl⟩
instance:NoExt 65:=⟨rfl⟩
instance:NoExt 66:=⟨rfl⟩
instance:NoExt 67:=⟨rfl⟩
instance:NoExt 68:=⟨rfl⟩
instance:NoExt 69:=⟨rfl⟩
instance:NoExt 70:=⟨rfl⟩
instance:NoExt 71:=⟨rfl⟩
instance:NoExt 72:=⟨rfl⟩
instance:NoExt 73:=⟨rfl⟩
instance:NoExt 74:=⟨rfl⟩
instance:NoExt 75:=⟨rfl⟩
instance:NoExt 76:=⟨rfl⟩
instance:NoExt 77:=⟨rfl⟩
instance:NoExt 78:=⟨rfl⟩
instance:NoExt 79:=⟨rfl⟩
instance:NoExt 80:=⟨rfl⟩
instance:NoExt 81:=⟨rfl⟩
instance:NoExt 83:=⟨rfl⟩
instance:NoExt 84:=⟨rfl⟩
instance:NoExt 85:=⟨rfl⟩
instance:NoExt 86:=⟨rfl⟩
instance:NoExt 87:=⟨rfl⟩
instance:NoExt 88:=⟨rfl⟩
instance:NoExt 89:=⟨rfl⟩
instance:NoExt 90:=⟨rfl⟩
instance:NoExt 91:=⟨rfl⟩
instance:NoExt 92:=⟨rfl⟩
instance:NoExt 93:=⟨rfl⟩
instance:NoExt 94:=⟨rfl⟩
instance:NoExt 95:=⟨rfl⟩
instance:NoExt 96:=⟨rfl⟩
instance:NoExt 98:=⟨rfl⟩
instance:NoExt 99:=⟨rfl⟩
instance:NoExt 100:=⟨rfl⟩
instance:NoExt 101:=⟨rfl⟩
instance:NoExt 102:=⟨rfl⟩
instance:NoExt 103:=⟨rfl⟩
instance:NoExt 104:=⟨rfl⟩
instance:NoExt 105:=⟨rfl⟩
instance:NoExt 107:=⟨rfl⟩
instance:NoExt 108:=⟨rfl⟩
instance:NoExt 109:=⟨rfl⟩
instance:NoExt 110:=⟨rfl⟩
instance:NoExt 111:=⟨rfl⟩
instance:NoExt 112:=⟨rfl⟩
instance:NoExt 113:=⟨rfl⟩
instance:NoExt 114:=⟨rfl⟩
instance:NoExt 115:=⟨rfl⟩
instance:NoExt 116:=⟨rfl⟩
instance:NoExt 117:=⟨rfl⟩
instance:NoExt 118:=⟨rfl⟩
instance:NoExt 119:=⟨rfl⟩
instance:NoExt 120:=⟨rfl⟩
instance:NoExt 121:=⟨rfl⟩
instance:NoExt 123:=⟨rfl⟩
instance:NoExt 124:=⟨rfl⟩
instance:NoExt 125:=⟨rfl⟩
instance:NoExt 126:=⟨rfl⟩
instance:NoExt 127:=⟨rfl⟩
instance:NoExt 128:=⟨rfl⟩
instance:NoExt 129:=⟨rfl⟩
instance:NoExt 130:=⟨rfl⟩
instance:NoExt 131:=⟨rfl⟩
instance:NoExt 132:=⟨rfl⟩
instance:NoExt 133:=⟨rfl⟩
instance:NoExt 134:=⟨rfl⟩
instance:NoExt 135:=⟨rfl⟩
instance:NoExt 136:=⟨rfl⟩
instance:NoExt 159:=⟨rfl⟩
end Go.Proofs.SZ
namespace Go.Ama
abbrev Bytes:=List UInt8
abbrev Tok:=Int×Bytes
def blank(c:UInt8):Bool:=c==32||c==9||c==10
def mark(c:UInt8):Bool:=c==40||c==41||c==91||c==93||c==123||c==125||c==58||c==46
def named(c:UInt8):Bool:=(decide (97≤c)&&decide (c≤122))||(decide (65≤c)&&decide (c≤90))||(decide (48≤c)&&decide (c≤57))||c==95||c==39
def YK(c:UInt8):Bool:=c !=10
theorem Yl{α:Type}(p:α→Bool): ∀l:List α,(l.dropWhile p).length≤l.length
 |[]=>Nat.le_refl _
 |x::l=>by
  rw[List.dropWhile_cons]
  split
  ·have:=Yl p l;simp;omega
  ·exact Nat.le_refl _
def Xq:Bytes→Option (List Tok)
 |[]=>some []
 |c::r=>
  if blank c then Xq r
  else if c==37 then Xq (r.dropWhile YK)
  else if mark c then(Xq r).map ((1,[c]):: ·)
  else if named c then(Xq (r.dropWhile named)).map ((0,c::r.takeWhile named):: ·)
  else none
termination_by l=>l.length
decreasing_by
 all_goals first
  |(simp;done)
  |(have:=Yl YK r;simp;omega)
  |(have:=Yl named r;simp;omega)
def ZQ:Int→List Tok→Bytes
 |_,[]=> []
 |last,(k,s)::l=>(if k=0∧last=0 then[32]else[])++s++ZQ k l
def text(l:List Tok):Bytes:=ZQ 1 l
theorem zdi:Xq []=some []:=by unfold Xq;rfl
theorem zcl{c:UInt8}(r:Bytes)(h:blank c=true):Xq (c::r)=Xq r:=by rw[Xq,if_pos h]
theorem zg8{c:UInt8}(r:Bytes)(h:c=37):Xq (c::r)=Xq (r.dropWhile YK):=by subst h;rw[Xq,if_neg (by decide),if_pos (by decide)]
theorem zeX{c:UInt8}(h:mark c=true):blank c=false∧(c==37)=false∧named c=false:=by
 simp only[mark,Bool.or_eq_true,beq_iff_eq]at h
 rcases h with((((((h|h)|h)|h)|h)|h)|h)|h<;>subst h<;>decide
theorem zfO{p:UInt8→Prop}(h: ∀n:Fin 256,p (UInt8.ofNat n.val))(c:UInt8):p c:=by
 have:=h ⟨c.toNat,c.toNat_lt⟩
 simpa using this
theorem zq5: ∀n:Fin 256,named (UInt8.ofNat n.val)=true→blank (UInt8.ofNat n.val)=false∧(UInt8.ofNat n.val==37)=false∧mark (UInt8.ofNat n.val)=false∧YK (UInt8.ofNat n.val)=true:=by decide+kernel
theorem zht{c:UInt8}(h:named c=true):blank c=false∧(c==37)=false∧mark c=false∧YK c=true:=by
 exact zfO (p:=fun c=>named c=true→blank c=false∧(c==37)=false∧mark c=false∧YK c=true) zq5 c h
theorem zdT{c:UInt8}(r:Bytes)(h:mark c=true):Xq (c::r)=(Xq r).map ((1,[c]):: ·):=by
 obtain⟨h1,h2,_⟩:=zeX h
 rw[Xq,if_neg (by simp[h1]),if_neg (by simp[h2]),if_pos h]
theorem zdU{c:UInt8}(r:Bytes)(h:named c=true):Xq (c::r)=(Xq (r.dropWhile named)).map ((0,c::r.takeWhile named):: ·):=by
 obtain⟨h1,h2,h3,_⟩:=zht h
 rw[Xq,if_neg (by simp[h1]),if_neg (by simp[h2]),if_neg (by simp[h3]),if_pos h]
theorem zfP{c:UInt8}(r:Bytes)(h1:blank c=false)(h2:(c==37)=false)(h3:mark c=false)(h4:named c=false):Xq (c::r)=none:=by
 rw[Xq,if_neg (by simp[h1]),if_neg (by simp[h2]),if_neg (by simp[h3]),if_neg (by simp[h4])]
theorem zg9{p:Bytes→Prop}(h0:p [])(h1: ∀c r,blank c=true→p r→p (c::r))(h2: ∀r,p (r.dropWhile YK)→p (37::r))(h3: ∀c r,mark c=true→p r→p (c::r))
  (h4: ∀c r,named c=true→p (r.dropWhile named)→p (c::r)) (h5: ∀c r,blank c=false→(c==37)=false→mark c=false→named c=false→p (c::r)): ∀l,p l:=by
 intro l
 generalize hn:l.length=n
 induction n using Nat.strongRecOn generalizing l with
 |_ n ih=>
  subst hn
  cases l with
  |nil=>exact h0
  |cons c r=>
   cases b1:blank c with
   |true=>exact h1 c r b1 (ih r.length (by simp) r rfl)
   |false=>
    cases b2:c==37 with
    |true=>
     rw[beq_iff_eq]at b2;subst b2
     exact h2 r (ih _ (by have:=Yl YK r;simp;omega) _ rfl)
    |false=>
     cases b3:mark c with
     |true=>exact h3 c r b3 (ih r.length (by simp) r rfl)
     |false=>
      cases b4:named c with
      |true=>exact h4 c r b4 (ih _ (by have:=Yl named r;simp;omega) _ rfl)
      |false=>exact h5 c r b1 b2 b3 b4
def ze6(t:Tok):Prop:=(t.1=1∧ ∃c,t.2=[c]∧mark c=true)∨(t.1=0∧t.2≠ []∧ ∀c∈t.2,named c=true)
theorem ze7{α:Type}{p:α→Bool}: ∀{l:List α} {x:α},x∈l.takeWhile p→p x=true
 |[],_,h=>by simp at h
 |y::l,x,h=>by
  rw[List.takeWhile_cons]at h
  split at h
  ·rename_i hy
   rcases List.mem_cons.1 h with rfl|h
   ·exact hy
   ·exact ze7 h
  ·simp at h
theorem zp5: ∀(b:Bytes) (l:List Tok),Xq b=some l→ ∀t∈l,ze6 t:=by
 refine zg9 ?_ ?_ ?_ ?_ ?_ ?_
 ·intro l h t ht;rw[zdi]at h;cases h;simp at ht
 ·intro c r hc ih l h;rw[zcl r hc]at h;exact ih l h
 ·intro r ih l h;rw[zg8 r rfl]at h;exact ih l h
 ·intro c r hc ih l h t ht
  rw[zdT r hc,Option.map_eq_some_iff]at h
  obtain⟨l',h,rfl⟩:=h
  rcases List.mem_cons.1 ht with rfl|ht
  ·exact .inl ⟨rfl,c,rfl,hc⟩
  ·exact ih l' h t ht
 ·intro c r hc ih l h t ht
  rw[zdU r hc,Option.map_eq_some_iff]at h
  obtain⟨l',h,rfl⟩:=h
  rcases List.mem_cons.1 ht with rfl|ht
  ·refine .inr ⟨rfl,by simp,fun x hx=> ?_⟩
   rcases List.mem_cons.1 hx with rfl|hx
   ·exact hc
   ·exact ze7 hx
  ·exact ih l' h t ht
 ·intro c r h1 h2 h3 h4 l h;rw[zfP r h1 h2 h3 h4]at h;cases h
theorem ze8{α:Type}{p:α→Bool}: ∀(a b:List α),(∀x∈a,p x=true)→(∀x,b.head? =some x→p x=false)→(a++b).takeWhile p=a∧(a++b).dropWhile p=b
 |[],b,_,hb=>by
  cases b with
  |nil=>exact⟨rfl,rfl⟩
  |cons x b=>simp[List.takeWhile_cons,List.dropWhile_cons,hb x rfl]
 |x::a,b,ha,hb=>by
  obtain⟨h1,h2⟩:=ze8 a b (fun y hy=>ha y (by simp[hy])) hb
  simp[List.takeWhile_cons,List.dropWhile_cons,ha x (by simp),h1,h2]
theorem zq6{k:Int}: ∀(l:List Tok),(∀t∈l,ze6 t)→k=0→ ∀x,(ZQ k l).head?=some x→named x=false
 |[],_,_,x,h=>by simp[ZQ]at h
 |(j,s)::l,hl,hk,x,h=>by
  subst hk
  rcases hl (j,s) (by simp)with⟨h1,c,h2,h3⟩|⟨h1,h2,h3⟩
  ·simp only at h1 h2;subst h1 h2
   have e:(ZQ 0 ((1,[c])::l))=c::ZQ 1 l:=by simp[ZQ]
   rw[e]at h
   simp only[List.head?_cons,Option.some.injEq]at h
   subst h;exact(zeX h3).2.2
  ·simp only at h1 h2;subst h1
   have e:(ZQ 0 ((0,s)::l))=32::(s++ZQ 0 l):=by simp[ZQ]
   rw[e]at h
   simp only[List.head?_cons,Option.some.injEq]at h
   subst h;decide
theorem ze9: ∀(l:List Tok) (k:Int),(∀t∈l,ze6 t)→Xq (ZQ k l)=some l
 |[],_,_=>zdi
 |(j,s)::l,k,hl=>by
  have ih:=fun k=>ze9 l k fun t ht=>hl t (by simp[ht])
  rcases hl (j,s) (by simp)with⟨h1,c,h2,h3⟩|⟨h1,h2,h3⟩
  ·simp only at h1 h2;subst h1 h2
   have e:(ZQ k ((1,[c])::l))=c::ZQ 1 l:=by simp[ZQ]
   rw[e,zdT _ h3,ih];rfl
  ·simp only at h1 h2;subst h1
   have main:Xq (s++ZQ 0 l)=some ((0,s)::l):=by
    cases s with
    |nil=>exact absurd rfl h2
    |cons c s=>
     obtain⟨e1,e2⟩:=ze8 (p:=named) s (ZQ 0 l) (fun x hx=>h3 x (by simp[hx])) (zq6 l (fun t ht=>hl t (by simp[ht])) rfl)
     rw[List.cons_append,zdU _ (h3 c (by simp)),e1,e2,ih];rfl
   by_cases hk:k=0
   ·have e:(ZQ k ((0,s)::l))=32::(s++ZQ 0 l):=by simp[ZQ,hk]
    rw[e,zcl _ (by decide)];exact main
   ·have e:(ZQ k ((0,s)::l))=s++ZQ 0 l:=by simp[ZQ,hk]
    rw[e];exact main
theorem Xm{α:Type}(p:α→Bool)(l:List α):(l.takeWhile p).length+(l.dropWhile p).length=l.length:=by
 rw[←List.length_append,List.takeWhile_append_dropWhile]
def Yi:List Tok→Nat
 |[]=>0
 |(_,s)::l=>s.length+Yi l
theorem zmL: ∀(b:Bytes) (l:List Tok),Xq b=some l→Yi l≤b.length:=by
 refine zg9 ?_ ?_ ?_ ?_ ?_ ?_
 ·intro l h;rw[zdi]at h;cases h;simp[Yi]
 ·intro c r hc ih l h;rw[zcl r hc]at h;have:=ih l h;simp;omega
 ·intro r ih l h;rw[zg8 r rfl]at h;have:=ih l h;have:=Yl YK r;simp;omega
 ·intro c r hc ih l h
  rw[zdT r hc,Option.map_eq_some_iff]at h
  obtain⟨l',h,rfl⟩:=h
  have:=ih l' h;simp[Yi];omega
 ·intro c r hc ih l h
  rw[zdU r hc,Option.map_eq_some_iff]at h
  obtain⟨l',h,rfl⟩:=h
  have:=ih l' h
  have:=Xm named r
  simp[Yi];omega
 ·intro c r h1 h2 h3 h4 l h;rw[zfP r h1 h2 h3 h4]at h;cases h
theorem zb8: ∀(l:List Tok),(∀t∈l,ze6 t)→l.length≤Yi l
 |[],_=>by simp[Yi]
 |(j,s)::l,h=>by
  have:=zb8 l fun t ht=>h t (by simp[ht])
  have hs:1≤s.length:=by
   rcases h (j,s) (by simp)with⟨_,c,h2,_⟩|⟨_,h2,_⟩
   ·simp only at h2;rw[h2];simp
   ·cases s with
    |nil=>exact absurd rfl h2
    |cons=>simp
  simp[Yi];omega
theorem zc2: ∀(l:List Tok) (k:Int),(ZQ k l).length≤Yi l+l.length
 |[],_=>by simp[ZQ]
 |(j,s)::l,k=>by
  have:=zc2 l j
  simp only[ZQ,Yi,List.length_append,List.length_cons]
  split<;>simp<;>omega
end Go.Ama
namespace Go.Ama
open Go Go.AM
def ba(l:Bytes):ByteArray:=⟨l.toArray⟩
def X6(l:Bytes):List V:=l.map fun b=> .ik .u8 (b.toNat:Int)
def zbm(t:Tok):V:= .agg [.int t.1, .str (ba t.2)]
def Zx(l:List Tok):List V:=l.map zbm
theorem ztb(s:ByteArray):ba s.data.toList=s:=by cases s;simp[ba]
theorem ztU{a b:Bytes}:ba a=ba b↔a=b:=by
 constructor
 ·intro h
  have:(ba a).data.toList=(ba b).data.toList:=by rw[h]
  simpa[ba]using this
 ·rintro rfl;rfl
theorem Xf(l:Bytes):(ba l).size=l.length:=by simp[ba,ByteArray.size]
theorem zat(l:Bytes):(ba l).toList=l:=by rw[ByteArray.toList_eq];simp[ba]
theorem zsd(l:Bytes):(ba l).data.toList=l:=by simp[ba]
theorem zki(a b:Bytes):ba a++ba b=ba (a++b):=by
 apply ByteArray.ext
 simp[ba,ByteArray.data_append]
theorem zeY(l:Bytes)(i j:Nat):(ba l).extract i j=ba ((l.take j).drop i):=by
 apply ByteArray.ext
 simp[ba,ByteArray.data_extract,List.drop_take]
theorem zi0(a b:Bytes):((ba a).toList==(ba b).toList)=decide (a=b):=by
 rw[zat,zat]
 by_cases h:a=b<;>simp[h]
theorem zgA(l:Bytes):Xk (ba l)=X6 l:=by simp[Xk,ba,X6]
theorem zkj(l:Bytes):X9 (X6 l)=ba l:=by
 unfold X9 X6 ba
 congr 1
 rw[List.map_map]
 congr 1
 conv=>rhs;rw[←List.map_id l]
 apply List.map_congr_left
 intro b _
 simp[zkE]
theorem zkk(l:Bytes):(X6 l).all zhK=true:=by
 rw[List.all_eq_true]
 intro v hv
 obtain⟨b,_,rfl⟩:=List.mem_map.1 hv
 rfl
@[simp] theorem zaW(l:Bytes):(X6 l).length=l.length:=by simp[X6]
theorem zdj(a b:Bytes):X6 (a++b)=X6 a++X6 b:=by simp[X6]
@[simp] theorem Xn(l:List Tok):(Zx l).length=l.length:=by simp[Zx]
theorem Jk(a b:List Tok):Zx (a++b)=Zx a++Zx b:=by simp[Zx]
theorem zl2{l:List Tok}{i:Nat}(h:i<l.length):ZY (Zx l) (i:Int)=zbm l[i]:=by
 simp[ZY,Zx,List.getD_eq_getElem?_getD,List.getElem?_map,h]
theorem YL(n:Nat): ∀l:Bytes,Zh n (X6 l)=true
 |[]=>rfl
 |b::l=>by
  have:=YL n l
  simp only[X6]at this
  simp[X6,Zh,below,this]
theorem Qa(n:Nat): ∀l:List Tok,Zh n (Zx l)=true
 |[]=>rfl
 |t::l=>by
  have:=Qa n l
  simp only[Zx]at this
  simp[Zx,zbm,Zh,below,this]
theorem ztV{l:Bytes}{i:Nat}(h:i<l.length):((ba l).data.toList.getD i 0)=l[i]:=by
 rw[zsd,List.getD_eq_getElem?_getD,List.getElem?_eq_getElem h];rfl
theorem zp6{l:Bytes}{i:Nat}(h:i<l.length):(ba l).get! i=l[i]:=by
 show(ba l).data[i]! =l[i]
 have:(ba l).data=l.toArray:=rfl
 rw[this,getElem!_pos l.toArray i (by simpa using h)]
 simp
theorem zq7{l:Bytes}{i:Nat}(h:i<l.length)(h1:l[i]<128):Utf8.decode (ba l) i=(l[i].toNat,1):=by
 have e:((ba l).get! (i+0)).toNat=l[i].toNat:=by rw[Nat.add_zero,zp6 h]
 have h2:l[i].toNat<128:=by simpa[UInt8.lt_iff_toNat_lt]using h1
 unfold Utf8.decode
 simp only[e]
 rw[if_pos h2]
theorem zq8{l:Bytes}{i:Nat}(h:i<l.length)(h1:128≤l[i]):128≤(Utf8.decode (ba l) i).1:=by
 have e:((ba l).get! (i+0)).toNat=l[i].toNat:=by rw[Nat.add_zero,zp6 h]
 have h2: ¬l[i].toNat<128:=by
  have:128≤l[i].toNat:=by simpa[UInt8.le_iff_toNat_le]using h1
  omega
 unfold Utf8.decode
 simp only[e]
 rw[if_neg h2]
 split
 ·split
  ·simpa using‹_›
  ·simp[Utf8.runeError]
 ·split
  ·split
   ·rename_i h;simp at h;simp;omega
   ·simp[Utf8.runeError]
  ·split
   ·split
    ·rename_i h;simp at h;simp;omega
    ·simp[Utf8.runeError]
   ·simp[Utf8.runeError]
end Go.Ama
namespace Go.Proofs.SZ
open Go Go.AM Go.Ama
noncomputable abbrev W:Oracle:=Om Tryz.prog cfg ext
theorem C(f:Nat)(args:List V)(st:St)[h:NoExt f]:W.call f args st=Zf Tryz.prog cfg W f args st:=
 (zp2 ziz f args st).trans (by show(match ext f with|some x=>x W args st|none=>Zf Tryz.prog cfg W f args st)=_;rw[h.h])
theorem Cx(f:Nat){x:Oracle→List V→St→Option (Out×St)}(args:List V)(st:St)(h:ext f=some x):W.call f args st=x W args st:=
 (zp2 ziz f args st).trans (by show(match ext f with|some x=>x W args st|none=>Zf Tryz.prog cfg W f args st)=_;rw[h])
theorem L(f key:Nat)(vals:List V)(st:St):W.loop f key vals st=ZC Tryz.prog cfg W f key vals st:=zsT ziz f key vals st
theorem Rd(l f key:Nat)(vals args:List V)(st:St):W.round l f key vals args st=XA Tryz.prog cfg W l f key vals args st:=zrM ziz l f key vals args st
def Ev(f:Nat)(args:List V)(v:V):Prop:=W.call f args []=some (.ret v,[])
theorem Ev.p{f:Nat}{args:List V}{v:V}(h:Ev f args v)(h1:Zh 0 args=true:=by simp[Zh,below])(h2:below 0 v=true:=by simp[below,Zh]):Zq W f args=some v:=zrU h h1 h2
noncomputable def zaB(m f:Nat)(args:List V):Option Bool:=
 match(X5 Tryz.prog cfg ext m).call f args []with
 |some (.ret (.bool b),[])=>some b
 |_=>none
theorem Ev.of_check{m f:Nat}{args:List V}{b:Bool}(h:zaB m f args=some b):Ev f args (.bool b):=by
 unfold zaB at h
 split at h
 ·rename_i b' hc
  cases h
  exact zdS ((zhA ziz m).call _ _ _ _ hc)
 ·cases h
end Go.Proofs.SZ
namespace Go.Proofs.SZ
open Go Go.AM
set_option maxRecDepth 20000
theorem zl3(O:Oracle)(l0:(List V)):Zf Tryz.prog cfg O 27 [.vec .plain none l0] []=
 bc (decide ((↑l0.length:Int)>20000)) (some (Out.ret (V.tup [V.vec .plain (some 2) [],V.int 4]),[])) (gd (l0.all zhK) (bc ((X9 l0).toList==[]) (some (Out.ret (V.tup
 [V.vec .plain (some 2) [],V.int 0]),[])) (gd (true&&decide (0<(↑(X9 l0).size:Int))) (Za (Zq O 62 [V.ik IntKind.i32 (IntKind.i32.wrap (↑((X9
 l0).data.toList.getD (Int.toNat 0) 0).toNat:Int))]) fun r1=>Zn r1 fun b2=>bc b2 (gd (true&&decide (1≤(↑(X9 l0).size:Int))&&decide ((↑(X9 l0).size:Int)≤
 (↑(X9 l0).size:Int))&&true) (Za (O.loop 27 1000000 [V.vec Mode.grow (some 2) [],V.str ((X9 l0).extract 1 (↑(X9 l0).size:Int).toNat),V.vec .plain (some
 2) [],V.int 0] []) fun r3=>Xv r3.fst (Ze r3.snd.fst fun v4 c5=>ZS (some 2) v4 fun l6=>Ze c5 fun v7 c8=>Zt v7 fun n9=>Zj c8 (gd (below 0 (V.tup [V.vec
 .plain (some 2) l6,V.int n9])&&Zu 0 []) (some (Out.ret (V.tup [V.vec .plain (some 2) l6,V.int n9]),[])))) (Ze r3.snd.fst fun v10 c11=>ZS (some 2) v10 fun l12=>
 Ze c11 fun v13 c14=>Zt v13 fun n15=>Zj c14 (gd (below 0 (V.tup [V.vec .plain (some 2) l12,V.int n15])&&Zu 0 []) (some (Out.ret (V.tup [V.vec .plain (some 2)
 l12,V.int n15]),[])))) (fun i16=>none) fun v17=>none)) (bc (IntKind.i32.wrap (↑((X9 l0).data.toList.getD (Int.toNat 0) 0).toNat:Int)==37) (Za (Zq O 63
 [V.str (X9 l0)]) fun r18=>Zt r18 fun n19=>gd (decide (0≤n19)&&decide (n19≤(↑(X9 l0).size:Int))&&decide ((↑(X9 l0).size:Int)≤(↑(X9 l0).size:Int))&&
 true) (Za (O.loop 27 1000000 [V.vec Mode.grow (some 2) [],V.str ((X9 l0).extract n19.toNat (↑(X9 l0).size:Int).toNat),V.vec .plain (some 2) [],V.int 0] [])
 fun r20=>Xv r20.fst (Ze r20.snd.fst fun v21 c22=>ZS (some 2) v21 fun l23=>Ze c22 fun v24 c25=>Zt v24 fun n26=>Zj c25 (gd (below 0 (V.tup [V.vec .plain
 (some 2) l23,V.int n26])&&Zu 0 []) (some (Out.ret (V.tup [V.vec .plain (some 2) l23,V.int n26]),[])))) (Ze r20.snd.fst fun v27 c28=>ZS (some 2) v27 fun l29=>
 Ze c28 fun v30 c31=>Zt v30 fun n32=>Zj c31 (gd (below 0 (V.tup [V.vec .plain (some 2) l29,V.int n32])&&Zu 0 []) (some (Out.ret (V.tup [V.vec .plain (some 2)
 l29,V.int n32]),[])))) (fun i33=>none) fun v34=>none)) (Za (Zq O 64 [V.str {data:= #[40,41,91,93,123,125,58,46]},V.ik IntKind.i32
 (IntKind.i32.wrap (↑((X9 l0).data.toList.getD (Int.toNat 0) 0).toNat:Int))]) fun r35=>Zn r35 fun b36=>bc b36 (gd (true&&decide (1≤(↑(X9 l0).size:Int))&&true)
 (gd (true&&decide (1≤(↑(X9 l0).size:Int))&&decide ((↑(X9 l0).size:Int)≤(↑(X9 l0).size:Int))&&true) (Za (O.loop 27 1000000 [V.vec Mode.grow (some
 2) [V.agg [V.int 1,V.str ((X9 l0).extract 0 1)]],V.str ((X9 l0).extract 1 (↑(X9 l0).size:Int).toNat),V.vec .plain (some 2) [],V.int 0] []) fun r37=>Xv r37.fst
 (Ze r37.snd.fst fun v38 c39=>ZS (some 2) v38 fun l40=>Ze c39 fun v41 c42=>Zt v41 fun n43=>Zj c42 (gd (below 0 (V.tup [V.vec .plain (some 2) l40,V.int
 n43])&&Zu 0 []) (some (Out.ret (V.tup [V.vec .plain (some 2) l40,V.int n43]),[])))) (Ze r37.snd.fst fun v44 c45=>ZS (some 2) v44 fun l46=>Ze c45 fun v47
 c48=>Zt v47 fun n49=>Zj c48 (gd (below 0 (V.tup [V.vec .plain (some 2) l46,V.int n49])&&Zu 0 []) (some (Out.ret (V.tup [V.vec .plain (some 2) l46,V.int n49]),
 [])))) (fun i50=>none) fun v51=>none))) (Za (Zq O 65 [V.ik IntKind.i32 (IntKind.i32.wrap (↑((X9 l0).data.toList.getD (Int.toNat 0) 0).toNat:Int))]) fun r52
 =>Zn r52 fun b53=>bc b53 (Za (Zq O 66 [V.str (X9 l0)]) fun r54=>Zt r54 fun n55=>gd (true&&decide (0≤n55)&&decide (n55≤(↑(X9 l0).size:
 Int))&&true) (gd (decide (0≤n55)&&decide (n55≤(↑(X9 l0).size:Int))&&decide ((↑(X9 l0).size:Int)≤(↑(X9 l0).size:Int))&&true) (Za (O.loop 27
 1000000 [V.vec Mode.grow (some 2) [V.agg [V.int 0,V.str ((X9 l0).extract 0 n55.toNat)]],V.str ((X9 l0).extract n55.toNat (↑(X9 l0).size:Int).toNat),V.vec .plain (some
 2) [],V.int 0] []) fun r56=>Xv r56.fst (Ze r56.snd.fst fun v57 c58=>ZS (some 2) v57 fun l59=>Ze c58 fun v60 c61=>Zt v60 fun n62=>Zj c61 (gd (below 0
 (V.tup [V.vec .plain (some 2) l59,V.int n62])&&Zu 0 []) (some (Out.ret (V.tup [V.vec .plain (some 2) l59,V.int n62]),[])))) (Ze r56.snd.fst fun v63 c64=>ZS
 (some 2) v63 fun l65=>Ze c64 fun v66 c67=>Zt v66 fun n68=>Zj c67 (gd (below 0 (V.tup [V.vec .plain (some 2) l65,V.int n68])&&Zu 0 []) (some (Out.ret (V.tup
 [V.vec .plain (some 2) l65,V.int n68]),[])))) (fun i69=>none) fun v70=>none))) (some (Out.ret (V.tup [V.vec .plain (some 2) [],V.int 8]),[]))))))))):=by kernel_rfl
theorem Ym(O:Oracle)(l0:(List V))(s1:ByteArray)(l2:(List V))(n3:Int):ZC Tryz.prog cfg O 27 1000000 [.vec .grow (some 2) l0, .str s1, .vec .plain (some 2) l2, .int n3] []=
 bc (s1.toList==[]) (some (Ex.ret,[V.vec .plain (some 2) l0,V.int 0],[])) (gd (true&&decide (0<(↑s1.size:Int))) (Za (Zq O 62 [V.ik IntKind.i32
 (IntKind.i32.wrap (↑(s1.data.toList.getD (Int.toNat 0) 0).toNat:Int))]) fun r1=>Zn r1 fun b2=>bc b2 (gd (true&&decide (1≤(↑s1.size:Int))&&decide ((↑s1.size:
 Int)≤(↑s1.size:Int))&&true) (O.2 27 1000000 [V.vec Mode.grow (some 2) l0,V.str (s1.extract 1 (↑s1.size:Int).toNat),V.vec .plain (some 2) l2,V.int n3] [])) (bc
 (IntKind.i32.wrap (↑(s1.data.toList.getD (Int.toNat 0) 0).toNat:Int)==37) (Za (Zq O 63 [V.str s1]) fun r3=>Zt r3 fun n4=>gd (decide (0≤n4)&&decide (n4
 ≤(↑s1.size:Int))&&decide ((↑s1.size:Int)≤(↑s1.size:Int))&&true) (O.2 27 1000000 [V.vec Mode.grow (some 2) l0,V.str (s1.extract n4.toNat (↑s1.size:
 Int).toNat),V.vec .plain (some 2) l2,V.int n3] [])) (Za (Zq O 64 [V.str {data:= #[40,41,91,93,123,125,58,46]},V.ik IntKind.i32
 (IntKind.i32.wrap (↑(s1.data.toList.getD (Int.toNat 0) 0).toNat:Int))]) fun r5=>Zn r5 fun b6=>bc b6 (gd (true&&decide (1≤(↑s1.size:Int))&&true) (gd (true&&
 roomFor Tryz.prog 84 (l0.length+[V.agg [V.int 1,V.str (s1.extract 0 1)]].length)) (gd (true&&decide (1≤(↑s1.size:Int))&&decide ((↑s1.size:Int)≤(↑s1.size:
 Int))&&true) (O.2 27 1000000 [V.vec Mode.grow (some 2) (l0++[V.agg [V.int 1,V.str (s1.extract 0 1)]]),V.str (s1.extract 1 (↑s1.size:Int).toNat),V.vec .plain
 (some 2) l2,V.int n3] [])))) (Za (Zq O 65 [V.ik IntKind.i32 (IntKind.i32.wrap (↑(s1.data.toList.getD (Int.toNat 0) 0).toNat:Int))]) fun r7=>Zn r7 fun b8=>
 bc b8 (Za (Zq O 66 [V.str s1]) fun r9=>Zt r9 fun n10=>gd (true&&decide (0≤n10)&&decide (n10≤(↑s1.size:Int))&&true) (gd (true&&roomFor Tryz.prog
 84 (l0.length+[V.agg [V.int 0,V.str (s1.extract 0 n10.toNat)]].length)) (gd (decide (0≤n10)&&decide (n10≤(↑s1.size:Int))&&decide ((↑s1.size:Int)≤
 (↑s1.size:Int))&&true) (O.2 27 1000000 [V.vec Mode.grow (some 2) (l0++[V.agg [V.int 0,V.str (s1.extract 0 n10.toNat)]]),V.str (s1.extract n10.toNat (↑s1.size:
 Int).toNat),V.vec .plain (some 2) l2,V.int n3] [])))) (some (Ex.ret,[V.vec .plain (some 2) [],V.int 8],[]))))))):=by kernel_rfl
theorem zow(O:Oracle)(l0:(List V)):Zf Tryz.prog cfg O 26 [.vec .plain (some 2) l0] []=
 Za (O.loop 26 4 [V.int 0,V.vec Mode.grow none [],V.int 1,V.vec .plain (some 2) l0,V.int (↑l0.length:Int)] []) fun r1=>Xv r1.fst none none (fun i2=>bc
 (i2.beq 0) (Ze r1.snd.fst fun v3 c4=>YW none v3 fun l5=>Zj c4 (gd (below 0 (V.vec .plain none l5)&&Zu 0 []) (some (Out.ret (V.vec .plain none l5),[]))))
 none) fun v6=>none:=by kernel_rfl
theorem zeA(O:Oracle)(n0:Int)(l1:(List V))(n2:Int)(l3:(List V))(n4:Int):ZC Tryz.prog cfg O 26 4 [.int n0, .vec .grow none l1, .int n2, .vec .plain (some 2) l3, .int n4] []=
 bc (decide (n0<n4)) (gd (decide (0≤n0)&&decide (n0<(↑l3.length:Int))) (Zc [CT.int,CT.str] (ZY l3 n0) fun n1 s2=>bc (n1==0) (bc (n2==0) (gd (true&&
 roomFor Tryz.prog 5 (l1.length+1)) (gd (true&&roomFor Tryz.prog 5 ((l1++[V.ik IntKind.u8 32]).length+(Xk s2).length)) (O.2 26 4 [V.int
 (IntKind.i64.wrap (n0+1)),V.vec Mode.grow none (l1++[V.ik IntKind.u8 32]++Xk s2),V.int n1,V.vec .plain (some 2) l3,V.int n4] []))) (gd (true&&roomFor Tryz.prog
 5 (l1.length+(Xk s2).length)) (O.2 26 4 [V.int (IntKind.i64.wrap (n0+1)),V.vec Mode.grow none (l1++Xk s2),V.int n1,V.vec .plain (some 2) l3,
 V.int n4] []))) (gd (true&&roomFor Tryz.prog 5 (l1.length+(Xk s2).length)) (O.2 26 4 [V.int (IntKind.i64.wrap (n0+1)),V.vec Mode.grow none (l1++Xk
 s2),V.int n1,V.vec .plain (some 2) l3,V.int n4] [])))) (some (Ex.exit 0,[V.vec Mode.grow none l1],[])):=by kernel_rfl
theorem zmM(O:Oracle)(n0:Int):Zf Tryz.prog cfg O 62 [.ik .i32 n0] []=
 bc (n0==32) (some (Out.ret (V.bool true),[])) (bc (n0==9) (some (Out.ret (V.bool true),[])) (some (Out.ret (V.bool (n0==10)),[]))):=by kernel_rfl
theorem zox(O:Oracle)(s0:ByteArray):Zf Tryz.prog cfg O 63 [.str s0] []=
 Za (Zq O 83 [V.str s0,V.ik IntKind.u8 10]) fun r1=>Zt r1 fun n2=>bc (decide (n2≥0)) (some (Out.ret (V.int n2),[])) (some (Out.ret (V.int
 (↑s0.size:Int)),[])):=by kernel_rfl
theorem zmN(O:Oracle)(n0:Int):Zf Tryz.prog cfg O 65 [.ik .i32 n0] []=
 bc (decide (n0≥97)) (bc (decide (n0≤122)) (some (Out.ret (V.bool true),[])) (bc (decide (n0≥65)) (bc (decide (n0≤90)) (some (Out.ret (V.bool true),[])) (bc (decide (n0≥
 48)) (bc (decide (n0≤57)) (some (Out.ret (V.bool true),[])) (bc (n0==95) (some (Out.ret (V.bool true),[])) (some (Out.ret (V.bool (n0==39)),[])))) (bc (n0==95) (some
 (Out.ret (V.bool true),[])) (some (Out.ret (V.bool (n0==39)),[]))))) (bc (decide (n0≥48)) (bc (decide (n0≤57)) (some (Out.ret (V.bool true),[])) (bc (n0==95) (some
 (Out.ret (V.bool true),[])) (some (Out.ret (V.bool (n0==39)),[])))) (bc (n0==95) (some (Out.ret (V.bool true),[])) (some (Out.ret (V.bool (n0==39)),[])))))) (bc (decide
 (n0≥65)) (bc (decide (n0≤90)) (some (Out.ret (V.bool true),[])) (bc (decide (n0≥48)) (bc (decide (n0≤57)) (some (Out.ret (V.bool true),[])) (bc (n0==95) (some (Out.ret
 (V.bool true),[])) (some (Out.ret (V.bool (n0==39)),[])))) (bc (n0==95) (some (Out.ret (V.bool true),[])) (some (Out.ret (V.bool (n0==39)),[]))))) (bc (decide (n0≥48))
 (bc (decide (n0≤57)) (some (Out.ret (V.bool true),[])) (bc (n0==95) (some (Out.ret (V.bool true),[])) (some (Out.ret (V.bool (n0==39)),[])))) (bc (n0==95) (some
 (Out.ret (V.bool true),[])) (some (Out.ret (V.bool (n0==39)),[]))))):=by kernel_rfl
theorem zoy(O:Oracle)(s0:ByteArray):Zf Tryz.prog cfg O 66 [.str s0] []=
 Za (O.loop 66 2 [V.str s0,V.ref 0 0] [Res.iter s0 0]) fun r1=>Xv r1.fst none (Ze r1.snd.fst fun v2 c3=>Zt v2 fun n4=>Zj c3 (some (Out.ret (V.int n4),
 []))) (fun i5=>bc (i5.beq 0) (Ze r1.snd.fst fun v6 c7=>Xg v6 fun s8=>Zj c7 (some (Out.ret (V.int (↑s8.size:Int)),[]))) none) fun v9=>none:=by kernel_rfl
theorem zbn(O:Oracle)(s0 t:ByteArray)(p:Nat):ZC Tryz.prog cfg O 66 2 [.str s0, .ref 0 0] [.iter t p]=
 bc (decide (p<t.size)) (Za (Zq O 65 [V.ik IntKind.i32 (↑(Utf8.decode t p).fst:Int)]) fun r1=>Zn r1 fun b2=>bc (!b2) (some (Ex.ret,[V.int (↑p:Int)],
 [Res.iter t (p+(Utf8.decode t p).snd)])) (O.2 66 2 [V.str s0,V.ref 0 0] [Res.iter t (p+(Utf8.decode t p).snd)])) (some (Ex.exit 0,[V.str s0],[Res.iter t p])):=by kernel_rfl
theorem zec(O:Oracle)(s0:ByteArray)(n1:Int):Zf Tryz.prog cfg O 83 [.str s0, .ik .u8 n1] []=
 Za (Zq O 103 [V.str s0,V.ik IntKind.u8 n1]) fun r1=>Zt r1 fun n2=>some (Out.ret (V.int n2),[]):=by kernel_rfl
theorem Jl(O:Oracle)(s0:ByteArray)(n1:Int):Zf Tryz.prog cfg O 103 [.str s0, .ik .u8 n1] []=
 Za (gd true (some (V.int (firstIdx s0 n1.toNat.toUInt8)))) fun r1=>Zt r1 fun n2=>some (Out.ret (V.int n2),[]):=by kernel_rfl
end Go.Proofs.SZ
namespace Go.Proofs.SZ
open Go Go.AM Go.Ama
theorem JB(b:UInt8):((b.toNat:Int)==32||((b.toNat:Int)==9||(b.toNat:Int)==10))=Ama.blank b:=
 zfO (p:=fun b=>((b.toNat:Int)==32||((b.toNat:Int)==9||(b.toNat:Int)==10))=Ama.blank b) (by decide+kernel) b
theorem zq9(b:UInt8):IntKind.i32.wrap (b.toNat:Int)=b.toNat:=
 zfO (p:=fun b=>IntKind.i32.wrap (b.toNat:Int)=b.toNat) (by decide+kernel) b
theorem Jm(b:UInt8):((b.toNat:Int)==37)=(b==37):=
 zfO (p:=fun b=>((b.toNat:Int)==37)=(b==37)) (by decide+kernel) b
theorem JC(c:Int):Ev 62 [.ik .i32 c] (.bool (c==32||(c==9||c==10))):=by
 unfold Ev
 rw[C,zmM]
 cases h1:(c==32)<;>cases h2:(c==9)<;>rfl
def zgB(c:Int):Bool:=(decide (c≥97)&&decide (c≤122))||(decide (c≥65)&&decide (c≤90))||(decide (c≥48)&&decide (c≤57))||c==95||c==39
theorem zaC(c:Int):Ev 65 [.ik .i32 c] (.bool (zgB c)):=by
 unfold Ev zgB
 rw[C,zmN]
 generalize decide (c≥97)=a1
 generalize decide (c≤122)=a2
 generalize decide (c≥65)=a3
 generalize decide (c≤90)=a4
 generalize decide (c≥48)=a5
 generalize decide (c≤57)=a6
 generalize(c==95)=a7
 generalize(c==39)=a8
 cases a1<;>cases a2<;>cases a3<;>cases a4<;>cases a5<;>cases a6<;>cases a7<;>cases a8<;>rfl
theorem zaD(b:UInt8):zgB (b.toNat:Int)=named b:=
 zfO (p:=fun b=>zgB (b.toNat:Int)=named b) (by decide+kernel) b
theorem zhu{c:Int}(h:128≤c):zgB c=false:=by
 have h1: ¬c≤122:=by omega
 have h2: ¬c≤90:=by omega
 have h3: ¬c≤57:=by omega
 have h4:(c==95)=false:=by simp;omega
 have h5:(c==39)=false:=by simp;omega
 simp[zgB,h1,h2,h3,h4,h5]
theorem zoz{b:UInt8}(h:128≤b):named b=false:=by
 rw[←zaD];exact zhu (by
                      have:128≤b.toNat:=by simpa[UInt8.le_iff_toNat_le]using h
                      omega)
theorem zkl(s:ByteArray)(l:Bytes): ∀k p,p+k=l.length→ ∃st',W.loop 66 2 [.str s, .ref 0 0] [.iter (ba l) p]=some (if(l.drop p).all named then(Ex.exit 0,[V.str s],st')else(Ex.ret,[V.int ((p+((l.drop p).takeWhile named).length:Nat):Int)],st'))
 |0,p,h=>by
  refine⟨[.iter (ba l) p], ?_⟩
  rw[L,zbn]
  have:l.drop p=[]:=by rw[List.drop_eq_nil_iff];omega
  have h2: ¬p<l.length:=by omega
  simp[this,Xf,h2,bc]
 |k+1,p,h=>by
  have hp:p<l.length:=by omega
  obtain⟨st',ih⟩:=zkl s l k (p+1) (by omega)
  have hd:l.drop p=l[p]::l.drop (p+1):=List.drop_eq_getElem_cons hp
  have hsz:decide (p<(ba l).size)=true:=by rw[Xf];simpa using hp
  by_cases h8:l[p]<128
  ·rw[L,zbn,zq7 hp h8,hsz]
   simp only[(zaC _).p,zaD,hd,List.all_cons,List.takeWhile_cons]
   cases hn:named l[p]with
   |true=>
    refine⟨st', ?_⟩
    show W.loop _ _ _ _=_
    rw[ih]
    cases(l.drop (p+1)).all named
    ·simp;omega
    ·simp
   |false=>exact⟨[.iter (ba l) (p+1)],by simp[bc]⟩
  ·have h8':128≤l[p]:=by
    rw[UInt8.lt_iff_toNat_lt]at h8
    rw[UInt8.le_iff_toNat_le]
    simpa using h8
   have hge:=zq8 hp h8'
   refine⟨[.iter (ba l) (p+(Utf8.decode (ba l) p).2)], ?_⟩
   rw[L,zbn,hsz]
   simp only[(zaC _).p,zhu (c:=((Utf8.decode (ba l) p).1:Int)) (by omega),hd,List.all_cons,List.takeWhile_cons,zoz h8']
   simp[bc]
theorem zgC{p:UInt8→Bool}{l:Bytes}(h:l.all p=true):l.takeWhile p=l:=by
 induction l with
 |nil=>rfl
 |cons x l ih=>simp only[List.all_cons,Bool.and_eq_true]at h;simp[List.takeWhile_cons,h.1,ih h.2]
theorem zkm(l:Bytes):Ev 66 [.str (ba l)] (.int (l.takeWhile named).length):=by
 unfold Ev
 rw[C,zoy]
 obtain⟨st',h⟩:=zkl (ba l) l l.length 0 (by omega)
 rw[h,List.drop_zero]
 cases ha:l.all named with
 |true=>simp[zgC ha,Xf,bc]
 |false=>simp
theorem zi1: ∀l:Bytes,Lib.indexByte l 10=if(l.takeWhile YK).length<l.length then((l.takeWhile YK).length:Int)else-1
 |[]=>rfl
 |c::l=>by
  rw[Lib.indexByte,zi1 l]
  cases h:(c==10)with
  |true=>simp[List.takeWhile_cons,YK,bne,h]
  |false=>
   have hi:YK c=true:=by simp[YK,bne,h]
   simp only[List.takeWhile_cons,hi,if_true,List.length_cons]
   by_cases hl:(l.takeWhile YK).length<l.length
   ·have h2:((((l.takeWhile YK).length:Nat):Int)== -1)=false:=by simp
    rw[if_pos hl,h2,if_pos (Nat.succ_lt_succ hl)]
    simp
   ·rw[if_neg hl,if_neg (fun h=>hl (Nat.lt_of_succ_lt_succ h))];rfl
theorem zkn(l:Bytes):Ev 63 [.str (ba l)] (.int (l.takeWhile YK).length):=by
 have h1:Ev 103 [.str (ba l), .ik .u8 10] (.int (Lib.indexByte l 10)):=by
  unfold Ev
  rw[C,Jl,Lib.firstIdx_eq,zsd]
  rfl
 have h2:Ev 83 [.str (ba l), .ik .u8 10] (.int (Lib.indexByte l 10)):=by
  unfold Ev
  rw[C,zec,h1.p]
  rfl
 unfold Ev
 rw[C,zox,h2.p,zi1]
 have h3:=Xm YK l
 by_cases h:(l.takeWhile YK).length<l.length
 ·have h4:((l.takeWhile YK).length:Int)≥0:=by omega
  simp[h,h4,bc]
 ·have h4:(l.takeWhile YK).length=l.length:=by omega
  simp[h4,bc,Xf]
theorem zmO: ∀n:Fin 32,zaB 12 64 [.str (ba [40,41,91,93,123,125,58,46]), .ik .i32 ((UInt8.ofNat (n.val+0)).toNat:Int)]=some (Ama.mark (UInt8.ofNat (n.val+0))):=by decide+kernel
theorem zmP: ∀n:Fin 32,zaB 12 64 [.str (ba [40,41,91,93,123,125,58,46]), .ik .i32 ((UInt8.ofNat (n.val+32)).toNat:Int)]=some (Ama.mark (UInt8.ofNat (n.val+32))):=by decide+kernel
theorem zmQ: ∀n:Fin 32,zaB 12 64 [.str (ba [40,41,91,93,123,125,58,46]), .ik .i32 ((UInt8.ofNat (n.val+64)).toNat:Int)]=some (Ama.mark (UInt8.ofNat (n.val+64))):=by decide+kernel
theorem zmR: ∀n:Fin 32,zaB 12 64 [.str (ba [40,41,91,93,123,125,58,46]), .ik .i32 ((UInt8.ofNat (n.val+96)).toNat:Int)]=some (Ama.mark (UInt8.ofNat (n.val+96))):=by decide+kernel
theorem zmS: ∀n:Fin 32,zaB 12 64 [.str (ba [40,41,91,93,123,125,58,46]), .ik .i32 ((UInt8.ofNat (n.val+128)).toNat:Int)]=some (Ama.mark (UInt8.ofNat (n.val+128))):=by decide+kernel
theorem zmT: ∀n:Fin 32,zaB 12 64 [.str (ba [40,41,91,93,123,125,58,46]), .ik .i32 ((UInt8.ofNat (n.val+160)).toNat:Int)]=some (Ama.mark (UInt8.ofNat (n.val+160))):=by decide+kernel
theorem zmU: ∀n:Fin 32,zaB 12 64 [.str (ba [40,41,91,93,123,125,58,46]), .ik .i32 ((UInt8.ofNat (n.val+192)).toNat:Int)]=some (Ama.mark (UInt8.ofNat (n.val+192))):=by decide+kernel
theorem zmV: ∀n:Fin 32,zaB 12 64 [.str (ba [40,41,91,93,123,125,58,46]), .ik .i32 ((UInt8.ofNat (n.val+224)).toNat:Int)]=some (Ama.mark (UInt8.ofNat (n.val+224))):=by decide+kernel
theorem zj0(m:Nat)(hm:m<256):zaB 12 64 [.str (ba [40,41,91,93,123,125,58,46]), .ik .i32 ((UInt8.ofNat m).toNat:Int)]=some (Ama.mark (UInt8.ofNat m)):=by
 by_cases h0:m<32
 ·have:=zmO ⟨m-0,by omega⟩
  simp only[show m-0+0=m by omega]at this
  exact this
 by_cases h1:m<64
 ·have:=zmP ⟨m-32,by omega⟩
  simp only[show m-32+32=m by omega]at this
  exact this
 by_cases h2:m<96
 ·have:=zmQ ⟨m-64,by omega⟩
  simp only[show m-64+64=m by omega]at this
  exact this
 by_cases h3:m<128
 ·have:=zmR ⟨m-96,by omega⟩
  simp only[show m-96+96=m by omega]at this
  exact this
 by_cases h4:m<160
 ·have:=zmS ⟨m-128,by omega⟩
  simp only[show m-128+128=m by omega]at this
  exact this
 by_cases h5:m<192
 ·have:=zmT ⟨m-160,by omega⟩
  simp only[show m-160+160=m by omega]at this
  exact this
 by_cases h6:m<224
 ·have:=zmU ⟨m-192,by omega⟩
  simp only[show m-192+192=m by omega]at this
  exact this
 have:=zmV ⟨m-224,by omega⟩
 simp only[show m-224+224=m by omega]at this
 exact this
theorem Jn(c:UInt8):Ev 64 [.str (ba [40,41,91,93,123,125,58,46]), .ik .i32 (c.toNat:Int)] (.bool (Ama.mark c)):=by
 have h:=zj0 c.toNat c.toNat_lt
 have e:UInt8.ofNat c.toNat=c:=by simp
 simp only[e]at h
 exact Ev.of_check h
end Go.Proofs.SZ
namespace Go.Proofs.SZ
open Go Go.AM Go.Ama
theorem zb9{n:Nat}(h:n≤1048576):roomFor Tryz.prog 84 n=true:=by
 have:((Tryz.prog.info? 84).map (·.bytes)).getD 0=24:=by kernel_rfl
 unfold roomFor
 rw[this]
 simp only[Bool.and_eq_true,decide_eq_true_eq]
 omega
theorem zqA{n:Nat}(h:n≤10485760):roomFor Tryz.prog 5 n=true:=by
 have:((Tryz.prog.info? 5).map (·.bytes)).getD 0=1:=by kernel_rfl
 unfold roomFor
 rw[this]
 simp only[Bool.and_eq_true,decide_eq_true_eq]
 omega
def JY(acc:List Tok):Option (List Tok)→Ex×List V×St
 |some t=>(Ex.ret,[V.vec .plain (some 2) (Zx (acc++t)),V.int 0],[])
 |none=>(Ex.ret,[V.vec .plain (some 2) [],V.int 8],[])
theorem QY(c:UInt8)(r:Bytes):((ba (c::r)).toList==[])=false:=by rw[zat];rfl
theorem zbA(c:UInt8)(r:Bytes):IntKind.i32.wrap (((ba (c::r)).data.toList.getD (Int.toNat 0) 0).toNat:Int)=c.toNat:=by rw[zsd];exact zq9 c
theorem zhB(l:Bytes)(n:Nat):(ba l).extract n ((ba l).size:Int).toNat=ba (l.drop n):=by
 rw[zeY,Xf,Int.toNat_natCast,List.take_length]
theorem zse(l:Bytes)(n:Nat):(ba l).extract n l.length=ba (l.drop n):=by rw[zeY,List.take_length]
theorem zp7(l:Bytes)(n:Nat):(ba l).extract 0 n=ba (l.take n):=by rw[zeY,List.drop_zero]
theorem take_takeWhile{p:UInt8→Bool}: ∀l:Bytes,l.take (l.takeWhile p).length=l.takeWhile p∧l.drop (l.takeWhile p).length=l.dropWhile p
 |[]=>⟨rfl,rfl⟩
 |c::l=>by
  obtain⟨h1,h2⟩:=take_takeWhile (p:=p) l
  rw[List.takeWhile_cons,List.dropWhile_cons]
  split<;>simp[h1,h2]
theorem zak{p:UInt8→Bool}(l:Bytes):(l.takeWhile p).length≤l.length:=by have:=Xm p l;omega
theorem zdV:V.str {data:= #[40,41,91,93,123,125,58,46]}=V.str (ba [40,41,91,93,123,125,58,46]):=rfl
theorem zmW: ∀(b:Bytes) (acc:List Tok) (l2:List V) (n3:Int),acc.length+b.length≤20000→
  W.loop 27 1000000 [.vec .grow (some 2) (Zx acc), .str (ba b), .vec .plain (some 2) l2, .int n3] []=some (JY acc (Xq b)):=by
 refine zg9 ?_ ?_ ?_ ?_ ?_ ?_
 ·intro acc l2 n3 _
  rw[L,Ym,zdi,zat]
  simp[JY]
 ·intro c r hc ih acc l2 n3 hl
  simp only[List.length_cons]at hl
  have ih:=ih acc l2 n3 (by omega)
  rw[L,Ym,zcl r hc,QY,zbA,(JC _).p,JB,hc,zhB,←ih]
  simp(disch:=omega) [Xf]
 ·intro r ih acc l2 n3 hl
  simp only[List.length_cons]at hl
  have hd:=Yl YK r
  have ih:=ih acc l2 n3 (by omega)
  have ht:=zak (p:=YK) (37::r)
  rw[L,Ym,zg8 r rfl,QY,zbA,(JC _).p,JB,Jm,(zkn _).p,←ih]
  have h3:(37::r).dropWhile YK=r.dropWhile YK:=by simp[List.dropWhile_cons,YK]
  have h4:Ama.blank 37=false:=by decide
  rw[List.length_cons]at ht
  simp(disch:=omega)only[Yd,Zb,Zw,h4,Int.toNat_natCast,zhB,(take_takeWhile (37::r)).2,h3,Xf,List.length_cons,zdg,zdh,Z9,Zl,Zs,beq_self_eq_true]
  rw[show r.length+1=(37::r:Bytes).length from rfl,zse,(take_takeWhile (37::r)).2,h3]
 ·intro c r hc ih acc l2 n3 hl
  simp only[List.length_cons]at hl
  have ih:=ih (acc++[(1,[c])]) l2 n3 (by simp;omega)
  obtain⟨h7,h8,_⟩:=zeX hc
  rw[L,Ym,zdT r hc,QY,zbA,(JC _).p,JB,Jm,h7,h8,zdV,(Jn c).p,hc,zhB,zp7]
  have he:Zx acc++[V.agg [V.int 1,V.str (ba [c])]]=Zx (acc++[(1,[c])]):=by rw[Jk];rfl
  have hend:JY acc ((Xq r).map ((1,[c]):: ·))=JY (acc++[(1,[c])]) (Xq r):=by cases Xq r<;>simp[JY]
  rw[hend,←ih]
  simp(disch:=omega) [he,Xf,zb9]
 ·intro c r hc ih acc l2 n3 hl
  simp only[List.length_cons]at hl
  have hd:=Yl named r
  have ih:=ih (acc++[(0,c::r.takeWhile named)]) l2 n3 (by simp;omega)
  obtain⟨h7,h8,h9,_⟩:=zht hc
  have ht:=zak (p:=named) r
  have h10:(c::r).dropWhile named=r.dropWhile named:=by simp[List.dropWhile_cons,hc]
  have h11:(c::r).takeWhile named=c::r.takeWhile named:=by simp[List.takeWhile_cons,hc]
  have h12:=take_takeWhile (p:=named) (c::r)
  rw[h10,h11]at h12
  have he:Zx acc++[V.agg [V.int 0,V.str (ba (c::r.takeWhile named))]]=Zx (acc++[(0,c::r.takeWhile named)]):=by rw[Jk];rfl
  have hend:JY acc ((Xq (r.dropWhile named)).map ((0,c::r.takeWhile named):: ·))=JY (acc++[(0,c::r.takeWhile named)]) (Xq (r.dropWhile named)):=by cases Xq (r.dropWhile named)<;>simp[JY]
  rw[L,Ym,zdU r hc,QY,zbA,(JC _).p,JB,Jm,h7,h8,zdV,(Jn c).p,h9,(zaC _).p,zaD,hc,(zkm _).p,h11,hend,←ih]
  simp only[Yd,Zb,Zw,Zl,Zs,zdg,Z9,Int.toNat_natCast,zhB,zp7,h12.1,h12.2,he,Xf,List.length_cons,Xn]
  simp(disch:=omega)only[zdh,zb9,List.length_cons,List.length_nil,Z9]
  rw[show r.length+1=(c::r).length from rfl,show(r.takeWhile named).length+1=(c::r.takeWhile named).length from rfl,zse,h12.1,h12.2,he]
 ·intro c r h1' h2' h3' h4' acc l2 n3 hl
  rw[L,Ym,zfP r h1' h2' h3' h4',QY,zbA,(JC _).p,JB,Jm,h1',h2',zdV,(Jn c).p,h3',(zaC _).p,zaD,h4']
  simp(disch:=omega) [Xf,JY]
def zeZ(b:Bytes):Option (List Tok)×Int:=if b.length>20000 then(none,4)else match Xq b with|some l=>(some l,0)|none=>(none,8)
def zdk(x:Option (List Tok)×Int):V:= .tup [.vec .plain (some 2) (Zx (x.1.getD [])), .int x.2]
theorem ztW(l:Bytes):List.all (X6 l) zhK=true:=zkk l
theorem zqB(l:List Tok)(n:Int):below 0 (V.tup [V.vec .plain (some 2) (Zx l),V.int n])=true:=by simp[below,Zh,Qa]
theorem zhv(b:Bytes)(hb:b.length≤1048576):Ev 27 [.vec .plain none (X6 b)] (zdk (zeZ b)):=by
 unfold Ev zeZ zdk
 rw[C,zl3,zaW,zkj,ztW]
 by_cases hl:b.length>20000
 ·simp(disch:=omega) [hl,Zx]
 ·have hl':b.length≤20000:=by omega
  rw[zsa (by omega),Z9,if_neg hl]
  have h0:=zmW b [] [] 0 (by simpa using hl')
  rw[L]at h0
  cases b with
  |nil=>rw[zat,zdi];rfl
  |cons c r=>
   rw[Ym]at h0
   rw[QY]at h0⊢
   simp only[Zl]at h0⊢
   revert h0
   simp only[zbA,(JC _).p,JB,Jm,(zkn _).p,zdV,(Jn c).p,(zaC _).p,zaD,(zkm _).p,Zb,Zw,Yd]
   have fin: ∀(z:Option (Ex×List V×St)),z=some (JY [] (Xq (c::r)))→(Za z fun r3=>
     Xv r3.fst (Ze r3.snd.fst fun v4 c5=>ZS (some 2) v4 fun l6=>Ze c5 fun v7 c8=>Zt v7 fun n9=>Zj c8 (gd (below 0 (V.tup [V.vec .plain (some 2) l6,V.int n9])) (gd (Zu 0 []) (some (Out.ret (V.tup [V.vec .plain (some 2) l6,V.int n9]),([]:St))))))
      (Ze r3.snd.fst fun v10 c11=>ZS (some 2) v10 fun l12=>Ze c11 fun v13 c14=>Zt v13 fun n15=>Zj c14 (gd (below 0 (V.tup [V.vec .plain (some 2) l12,V.int n15])) (gd (Zu 0 []) (some (Out.ret (V.tup [V.vec .plain (some 2) l12,V.int n15]),[])))))
      (fun i16=>none) fun v17=>none)=some (Out.ret (V.tup [V.vec .plain (some 2) (Zx ((match Xq (c::r)with|some l=>(some l,(0:Int))|none=>(none,8)).1.getD [])),V.int (match Xq (c::r)with|some l=>(some l,(0:Int))|none=>(none,8)).2]),[]):=by
    intro z hz
    subst hz
    cases Xq (c::r)with
    |none=>simp[JY,Zx,below,Zh,Zu]
    |some t=>
     have:=zqB t 0
     simp only[JY,List.nil_append,Zb,zrY,YS,YG,Yd,ZW,this,Zu,Bool.and_self,Z9]
     rfl
   intro h0
   cases hb1:Ama.blank c with
   |true=>
    rw[hb1]at h0
    simp(disch:=omega)only[Zs,zdg,Z9,zdh,Xf,List.length_cons]at h0⊢
    exact fin _ h0
   |false=>
    rw[hb1]at h0
    simp only[Zl]at h0⊢
    cases hb2:(c==37)with
    |true=>
     rw[hb2]at h0
     have ht:=zak (p:=YK) (c::r)
     simp only[List.length_cons]at ht
     simp(disch:=omega)only[Zs,zdg,Z9,zdh,Xf,List.length_cons]at h0⊢
     exact fin _ h0
    |false=>
     rw[hb2]at h0
     simp only[Zl]at h0⊢
     cases hb3:Ama.mark c with
     |true=>
      rw[hb3]at h0
      simp(disch:=omega)only[Zs,zdg,Z9,zdh,Xf,List.length_cons,List.length_nil,Xn,zb9]at h0⊢
      exact fin _ h0
     |false=>
      rw[hb3]at h0
      simp only[Zl]at h0⊢
      cases hb4:named c with
      |true=>
       rw[hb4]at h0
       have ht:=zak (p:=named) (c::r)
       simp only[List.length_cons]at ht
       simp(disch:=omega)only[Zs,zdg,Z9,zdh,Xf,List.length_cons,List.length_nil,Xn,zb9]at h0⊢
       exact fin _ h0
      |false=>
       rw[zfP r hb1 hb2 hb3 hb4]
       simp(disch:=omega)only[zdg,Z9,zdh,Xf,List.length_cons,Zl]
       rfl
end Go.Proofs.SZ
namespace Go.Proofs.SZ
open Go Go.AM Go.Ama
theorem zcm{R:Type}(t:Tok)(K:Int→ByteArray→Option R):Zc (R:=R) [CT.int,CT.str] (zbm t) K=K t.1 (ba t.2):=rfl
theorem zko(l:List Tok)(hl:Yi l+2*l.length≤1048576): ∀k i (acc:Bytes) (last:Int),i+k=l.length→acc.length+Yi (l.drop i)+2*(l.drop i).length≤10485760→
  W.loop 26 4 [.int (i:Nat), .vec .grow none (X6 acc), .int last, .vec .plain (some 2) (Zx l), .int l.length] []=some (Ex.exit 0,[.vec .grow none (X6 (acc++ZQ last (l.drop i)))],[])
 |0,i,acc,last,h,_=>by
  rw[L,zeA,List.drop_eq_nil_iff.2 (by omega)]
  simp(disch:=omega) [ZQ]
 |k+1,i,acc,last,h,hw=>by
  have hi:i<l.length:=by omega
  rw[List.drop_eq_getElem_cons hi]at hw⊢
  obtain⟨kd,s,ht⟩: ∃kd s,l[i]=(kd,s):=⟨_,_,rfl⟩
  rw[ht]at hw⊢
  simp only[Yi,List.length_cons]at hw
  have e:((i:Int)+1)=((i+1:Nat):Int):=by omega
  have ih:=fun acc h=>zko l hl k (i+1) acc kd (by omega) h
  rw[L,zeA,Xn,zl2 hi,ht]
  simp(disch:=omega)only[zrZ,zdg,zdh,Z9,zck,zcm,zgA,List.length_append,List.length_cons,List.length_nil,zaW,zqA,e]
  have e32:X6 acc++[V.ik IntKind.u8 32]=X6 (acc++[32]):=by rw[zdj];rfl
  simp only[e32,←zdj]
  have r0:=ih (acc++s) (by simp only[List.length_append];omega)
  have r1:=ih (acc++[32]++s) (by simp only[List.length_append,List.length_cons,List.length_nil];omega)
  by_cases h1:kd=0
  ·subst h1
   by_cases h2:last=0
   ·subst h2
    simp only[beq_self_eq_true,Zs]
    refine Eq.trans r1 ?_
    simp[ZQ]
   ·simp(disch:=omega)only[beq_self_eq_true,Zs,zmJ]
    refine Eq.trans r0 ?_
    simp[ZQ,h2]
  ·simp(disch:=omega)only[zmJ]
   refine Eq.trans r0 ?_
   simp[ZQ,h1]
theorem zqC(l:List Tok)(hl:Yi l+2*l.length≤1048576):Ev 26 [.vec .plain (some 2) (Zx l)] (.vec .plain none (X6 (text l))):=by
 have h:=zko l hl l.length 0 [] 1 (by omega) (by simp;omega)
 have h':W.loop 26 4 [.int 0, .vec .grow none [], .int 1, .vec .plain (some 2) (Zx l), .int l.length] []=some (Ex.exit 0,[.vec .grow none (X6 (text l))],[]):=h
 unfold Ev
 rw[C,zow,Xn,h']
 simp[below,Zu,YL]
end Go.Proofs.SZ
namespace Go.Proofs.SZ
open Go Go.AM
set_option maxRecDepth 20000
theorem zmX(O:Oracle)(n0:Int)(n1:Int)(l2:(List V))(l3:(List V)):Zf Tryz.prog cfg O 11 [.agg [.int n0, .int n1, .vec .plain (some 3) l2], .vec .plain (some 4) l3] []=
 Za (Zq O 24 [V.agg [V.int n0,V.int n1,V.vec .plain (some 3) l2]]) fun r1=>Zn r1 fun b2=>bc (!b2) (some (Out.ret (V.tup [V.vec .plain none [],V.int 1]),
 [])) (Za (O.call 25 [V.ref 0 0,V.agg [V.int n0,V.int n1,V.vec .plain (some 3) l2],V.int 0] [Res.box [V.vec .plain (some 4) l3,V.vec Mode.full (some 2) [],
 V.int 0]]) fun r3=>Zk r3.fst (fun v4=>Z4 v4 fun c5=>Zj c5 (Z6 r3.snd 0 fun x6=>Z3 x6 fun c7=>gd (decide (3≤c7.length)&&true) (Zt (Zo (AM.partOf
 c7 2 none)) fun n8=>bc (n8 !=0) (Z6 r3.snd 0 fun x9=>Z3 x9 fun c10=>gd (decide (3≤c10.length)&&true) (Zt (Zo (AM.partOf c10 2 none)) fun n11=>some
 (Out.ret (V.tup [V.vec .plain none [],V.int n11]),[]))) (Z6 r3.snd 0 fun x12=>Z3 x12 fun c13=>gd (decide (2≤c13.length)&&true) (ZS (some 2) (Zo (AM.partOf
 c13 1 none)) fun l14=>Za (Zq O 26 [V.vec .plain (some 2) l14]) fun r15=>ZS none r15 fun l16=>gd (below 0 (V.tup [V.vec .plain none l16,V.int 0])&&Zu
 0 []) (some (Out.ret (V.tup [V.vec .plain none l16,V.int 0]),[]))))))) fun p17=>none):=by kernel_rfl
theorem zl4(O:Oracle)(l0:(List V)):Zf Tryz.prog cfg O 10 [.vec .plain (some 4) l0] []=
 Za (O.loop 10 3 [V.int 0,V.mp 0,V.vec .plain (some 4) l0,V.vec .plain (some 4) l0,V.int (↑l0.length:Int)] [Res.map CT.str CT.int []]) fun r1=>Xv r1.fst none
 none (fun i2=>bc (i2.beq 0) (Ze r1.snd.fst fun v3 c4=>ZS (some 4) v3 fun l5=>Ze c4 fun v6 c7=>zhG v6 fun q8=>Zj c7 (Za (O.loop 10 9 [V.int 0,
 V.vec Mode.grow none [],V.vec .plain (some 4) l5,V.mp q8,V.vec .plain (some 4) l5,V.int (↑l5.length:Int)] r1.snd.snd) fun r9=>Xv r9.fst none (Ze r9.snd.fst fun v10
 c11=>ZS none v10 fun l12=>Ze c11 fun v13 c14=>Zt v13 fun n15=>Zj c14 (gd (below 0 (V.tup [V.vec .plain none l12,V.int n15])&&Zu 0 []) (some (Out.ret
 (V.tup [V.vec .plain none l12,V.int n15]),[])))) (fun i16=>bc (i16.beq 2) (Ze r9.snd.fst fun v17 c18=>YW none v17 fun l19=>Zj c18 (gd (below 0 (V.tup [V.vec
 .plain none l19,V.int 0])&&Zu 0 []) (some (Out.ret (V.tup [V.vec .plain none l19,V.int 0]),[])))) none) fun v20=>none)) none) fun v21=>none:=by kernel_rfl
theorem zc3(O:Oracle)(n0:Int)(l2:(List V))(l3:(List V))(n4:Int)(es:List (V×V)):ZC Tryz.prog cfg O 10 3 [.int n0, .mp 0, .vec .plain (some 4) l2, .vec .plain (some 4) l3, .int n4] [.map .str .int es]=
 bc (decide (n0<n4)) (gd (decide (0≤n0)&&decide (n0<(↑l2.length:Int))) (Zc [CT.str,CT.int,CT.int,CT.slice (some 3)] (ZY l2 n0) fun s1 n2 n3 l4=>Zt
 (Xe es (V.str s1) (V.int 0)) fun n5=>O.2 10 3 [V.int (IntKind.i64.wrap (n0+1)),V.mp 0,V.vec .plain (some 4) l2,V.vec .plain (some 4) l3,V.int n4] [Res.map
 CT.str CT.int (Qj es (V.str s1) (V.int (IntKind.i64.wrap (n5+1))))])) (some (Ex.exit 0,[V.vec .plain (some 4) l3,V.mp 0],[Res.map CT.str CT.int es])):=by kernel_rfl
theorem zc4(O:Oracle)(n0:Int)(l1:(List V))(l2:(List V))(l3:(List V))(n4:Int)(es:List (V×V)):ZC Tryz.prog cfg O 10 9 [.int n0, .vec .grow none l1, .vec .plain (some 4) l2, .mp 0, .vec .plain (some 4) l3, .int n4] [.map .str .int es]=
 bc (decide (n0<n4)) (gd (decide (0≤n0)&&decide (n0<(↑l3.length:Int))) (Zc [CT.str,CT.int,CT.int,CT.slice (some 3)] (ZY l3 n0) fun s1 n2 n3 l4=>Za (Zq
 O 23 [V.str s1]) fun r5=>Zn r5 fun b6=>bc (!b6) (some (Ex.ret,[V.vec .plain none [],V.int 1],[Res.map CT.str CT.int es])) (Zt (Xe es (V.str s1) (V.int
 0)) fun n7=>bc (decide (n7>1)) (some (Ex.ret,[V.vec .plain none [],V.int 1],[Res.map CT.str CT.int es])) (Za (Zq O 11 [V.agg [V.int n2,V.int n3,V.vec
 .plain (some 3) l4],V.vec .plain (some 4) l2]) fun r8=>Z4 r8 fun c9=>Ze c9 fun v10 c11=>ZS none v10 fun l12=>Ze c11 fun v13 c14=>Zt v13 fun n15=>
 Zj c14 (bc (n15 !=0) (some (Ex.ret,[V.vec .plain none [],V.int n15],[Res.map CT.str CT.int es])) (gd (decide (s1.size+3≤9223372036854775807)) (gd (l12.all zhK) (gd
 (decide ((s1++{data:= #[32,58,32]}).size+(X9 l12).size≤9223372036854775807)) (gd (decide ((s1++{data:= #[32,58,32]}++X9 l12).size+2≤
 9223372036854775807)) (gd (true&&roomFor Tryz.prog 5 (l1.length+(Xk (s1++{data:= #[32,58,32]}++X9 l12++{data:= #[46,10]})).length)) (O.2
 10 9 [V.int (IntKind.i64.wrap (n0+1)),V.vec Mode.grow none (l1++Xk (s1++{data:= #[32,58,32]}++X9 l12++{data:= #[46,10]})),V.vec .plain (some
 4) l2,V.mp 0,V.vec .plain (some 4) l3,V.int n4] [Res.map CT.str CT.int es]))))))))))) (some (Ex.exit 2,[V.vec Mode.grow none l1],[Res.map CT.str CT.int es])):=by kernel_rfl
theorem zfa(O:Oracle)(r0:Nat)(n1:Int)(n2:Int)(l3:(List V))(n4:Int)(st:St):Zf Tryz.prog cfg O 25 [.ref r0 0, .agg [.int n1, .int n2, .vec .plain (some 3) l3], .int n4] st=
 bc (n1==0) (Za (O.call 53 [V.ref r0 0,V.str {data:= #[116,121,112,101]}] st) fun r1=>Zk r1.fst (fun v2=>Z4 v2 fun c3=>Zj c3 (YH
 (List.length st) (V.tup []) r1.snd)) fun p4=>none) (bc (n1==1) (Za (O.call 54 [V.ref r0 0,V.str {data:= #[123]},V.str {data:= #[125]},V.fn
 55 [] [V.cptr none (V.ref r0 0),V.cptr none (V.int n4),V.cptr (some 3) (V.agg [V.int n1,V.int n2,V.vec .plain (some 3) l3])]] st) fun r5=>Zk r5.fst (fun
 v6=>Z4 v6 fun c7=>Zj c7 (gd (true&&decide (1<(↑l3.length:Int))) (Zc [CT.int,CT.int,CT.slice (some 3)] (ZY l3 1) fun n8 n9 l10=>Za (O.call
 25 [V.ref r0 0,V.agg [V.int n8,V.int n9,V.vec .plain (some 3) l10],V.int (IntKind.i64.wrap (n4+1))] r5.snd) fun r11=>Zk r11.fst (fun v12=>Z4 v12
 fun c13=>Zj c13 (YH (List.length st) (V.tup []) r11.snd)) fun p14=>none))) fun p15=>none) (bc (n1==3) (Za (O.call 54 [V.ref r0 0,V.str {data:=
 #[91]},V.str {data:= #[93]},V.fn 58 [] [V.cptr none (V.ref r0 0),V.cptr none (V.int n4)]] st) fun r16=>Zk r16.fst (fun v17=>Z4 v17 fun c18=>
 Zj c18 (gd (true&&decide (0<(↑l3.length:Int))) (Zc [CT.int,CT.int,CT.slice (some 3)] (ZY l3 0) fun n19 n20 l21=>Za (O.call 25 [V.ref r0 0,
 V.agg [V.int n19,V.int n20,V.vec .plain (some 3) l21],V.int (IntKind.i64.wrap (n4+1))] r16.snd) fun r22=>Zk r22.fst (fun v23=>Z4 v23 fun c24=>Zj c24 (YH
 (List.length st) (V.tup []) r22.snd)) fun p25=>none))) fun p26=>none) (Za (O.call 59 [V.ref r0 0,V.agg [V.int n1,V.int n2,V.vec .plain (some 3) l3],
 V.int n4] st) fun r27=>Zk r27.fst (fun v28=>Z4 v28 fun c29=>Zj c29 (Za (O.loop 25 4 [V.int 0,V.loc false none (V.int n4),V.loc false none
 (V.ref r0 0),V.vec .plain (some 3) l3,V.int (↑l3.length:Int)] r27.snd) fun r30=>Xv r30.fst none none (fun i31=>bc (i31.beq 1) (Zj r30.snd.fst (YH (List.length st)
 (V.tup []) r30.snd.snd)) none) fun v32=>none)) fun p33=>none))):=by kernel_rfl
theorem Qc(O:Oracle)(n0:Int)(n1:Int)(r2:Nat)(l3:(List V))(n4:Int)(st:St):ZC Tryz.prog cfg O 25 4 [.int n0, .cptr none (.int n1), .cptr none (.ref r2 0), .vec .plain (some 3) l3, .int n4] st=
 bc (decide (n0<n4)) (gd (decide (0≤n0)&&decide (n0<(↑l3.length:Int))) (Zc [CT.int,CT.int,CT.slice (some 3)] (ZY l3 n0) fun n1_1 n2 l3_1=>Za (Zq O
 60 [V.agg [V.int n1_1,V.int n2,V.vec .plain (some 3) l3_1]]) fun r4=>Zn r4 fun b5=>bc b5 (Za (O.call 25 [V.ref r2 0,V.agg [V.int n1_1,
 V.int n2,V.vec .plain (some 3) l3_1],V.int n1] st) fun r6=>Zk r6.fst (fun v7=>Z4 v7 fun c8=>Zj c8 (O.2 25 4 [V.int (IntKind.i64.wrap (n0+1)),
 V.cptr none (V.int n1),V.cptr none (V.ref r2 0),V.vec .plain (some 3) l3,V.int n4] r6.snd)) fun p9=>none) (Za (O.call 54 [V.ref r2 0,V.str {data:=
 #[40]},V.str {data:= #[41]},V.fn 61 [] [V.cptr none (V.ref r2 0),V.cptr (some 3) (V.agg [V.int n1_1,V.int n2,V.vec .plain (some 3) l3_1]),V.cptr none
 (V.int n1)]] st) fun r10=>Zk r10.fst (fun v11=>Z4 v11 fun c12=>Zj c12 (O.2 25 4 [V.int (IntKind.i64.wrap (n0+1)),V.cptr none (V.int n1),V.cptr
 none (V.ref r2 0),V.vec .plain (some 3) l3,V.int n4] r10.snd)) fun p13=>none))) (some (Ex.exit 1,[],st)):=by kernel_rfl
theorem zfb(O:Oracle)(r0:Nat)(s1:ByteArray)(st:St):Zf Tryz.prog cfg O 53 [.ref r0 0, .str s1] st=
 Z6 st r0 fun x1=>Z3 x1 fun c2=>gd (decide (1<c2.length)&&true&&true) (Jc (some 2) (c2.getD 1 V.undef) (fun l3=>gd (true&&roomFor Tryz.prog 84
 (l3.length+[V.agg [V.int 0,V.str s1]].length)) (Z6 (List.set st r0 (Res.box (c2.set 1 (V.vec .plain (some 2) l3)))) r0 fun x4=>Z3 x4 fun c5=>gd (decide (2≤c5.length)
 &&true) (YH (List.length st) (V.tup []) ((List.set st r0 (Res.box (c2.set 1 (V.vec .plain (some 2) l3)))).set r0 (Res.box (setCells c5 1 [V.vec Mode.grow (some 2) (l3++[V.agg
 [V.int 0,V.str s1]])])))))) fun l6=>gd (true&&roomFor Tryz.prog 84 (l6.length+[V.agg [V.int 0,V.str s1]].length)) (Z6 (List.set st r0 (Res.box (c2.set 1 (V.vec
 .plain (some 2) l6)))) r0 fun x7=>Z3 x7 fun c8=>gd (decide (2≤c8.length)&&true) (YH (List.length st) (V.tup []) ((List.set st r0 (Res.box (c2.set 1 (V.vec .plain (some
 2) l6)))).set r0 (Res.box (setCells c8 1 [V.vec Mode.grow (some 2) (l6++[V.agg [V.int 0,V.str s1]])])))))):=by kernel_rfl
theorem zdl(O:Oracle)(r0:Nat)(s1:ByteArray)(s2:ByteArray)(g3:Nat)(l4:(List V))(l5:(List V))(st:St):Zf Tryz.prog cfg O 54 [.ref r0 0, .str s1, .str s2, .fn g3 l4 l5] st=
 Za (O.call 57 [V.ref r0 0,V.vec .plain none [V.str s1]] st) fun r1=>Zk r1.fst (fun v2=>Z4 v2 fun c3=>Zj c3 (bc (cfg.pure g3) (Za (Zq O g3
 (l4++[]++l5)) fun r4=>Z4 r4 fun c5=>Zj c5 (Za (O.call 57 [V.ref r0 0,V.vec .plain none [V.str s2]] r1.snd) fun r6=>Zk r6.fst (fun v7=>
 Z4 v7 fun c8=>Zj c8 (YH (List.length st) (V.tup []) r6.snd)) fun p9=>none)) (Za (O.call g3 (l4++[]++l5) r1.snd) fun r10=>Zk r10.fst (fun v11=>Z4 v11
 fun c12=>Zj c12 (Za (O.call 57 [V.ref r0 0,V.vec .plain none [V.str s2]] r10.snd) fun r13=>Zk r13.fst (fun v14=>Z4 v14 fun c15=>Zj c15
 (YH (List.length st) (V.tup []) r13.snd)) fun p16=>none)) fun p17=>none))) fun p18=>none:=by kernel_rfl
theorem zdm(O:Oracle)(r0:Nat)(n0:Int)(k:Int)(h:Int)(l:(List V))(st:St):Zf Tryz.prog cfg O 55 [.cptr none (.ref r0 0), .cptr none (.int n0), .cptr (some 3) (.agg [.int k, .int h, .vec .plain (some 3) l])] st=
 Za (O.call 56 [V.ref r0 0,V.int n0] st) fun r1=>Zk r1.fst (fun v2=>Z4 v2 fun c3=>Zj c3 (Za (O.call 57 [V.ref r0 0,V.vec
 .plain none [V.str {data:= #[58]}]] r1.snd) fun r4=>Zk r4.fst (fun v5=>Z4 v5 fun c6=>Zj c6 (gd (true&&decide (0<(↑l.length:Int))) (Zc [CT.int,
 CT.int,CT.slice (some 3)] (ZY l 0) fun n7 n8 l9=>Za (O.call 25 [V.ref r0 0,V.agg [V.int n7,V.int n8,V.vec .plain (some 3) l9],V.int n0] r4.snd) fun r10
 =>Zk r10.fst (fun v11=>Z4 v11 fun c12=>Zj c12 (YH (List.length st) (V.tup []) r10.snd)) fun p13=>none))) fun p14=>none)) fun p15=>none:=by kernel_rfl
theorem zed(O:Oracle)(r0:Nat)(n1:Int)(st:St):Zf Tryz.prog cfg O 56 [.ref r0 0, .int n1] st=
 Za (Zq O 82 [V.int n1]) fun r1=>Xg r1 fun s2=>gd (decide (1+s2.size≤9223372036854775807)) (Za (O.call 53 [V.ref r0 0,V.str ({data
 := #[95]}++s2)] st) fun r3=>Zk r3.fst (fun v4=>Z4 v4 fun c5=>Zj c5 (YH (List.length st) (V.tup []) r3.snd)) fun p6=>none):=by kernel_rfl
theorem zee(O:Oracle)(r0:Nat)(l1:(List V))(st:St):Zf Tryz.prog cfg O 57 [.ref r0 0, .vec .plain none l1] st=
 Za (O.loop 57 1 [V.int 0,V.ref r0 0,V.vec .plain none l1,V.int (↑l1.length:Int)] st) fun r1=>Xv r1.fst none none (fun i2=>bc (i2.beq 0) (Zj
 r1.snd.fst (YH (List.length st) (V.tup []) r1.snd.snd)) none) fun v3=>none:=by kernel_rfl
theorem Jo(O:Oracle)(n0:Int)(r1:Nat)(l2:(List V))(n3:Int)(st:St):ZC Tryz.prog cfg O 57 1 [.int n0, .ref r1 0, .vec .plain none l2, .int n3] st=
 bc (decide (n0<n3)) (gd (decide (0≤n0)&&decide (n0<(↑l2.length:Int))) (Xg (ZY l2 n0) fun s1=>Z6 st r1 fun x2=>Z3 x2 fun c3=>gd (decide (1<c3.length)&&
 true&&true) (Jc (some 2) (c3.getD 1 V.undef) (fun l4=>gd (true&&roomFor Tryz.prog 84 (l4.length+[V.agg [V.int 1,V.str s1]].length)) (Z6 (List.set st r1
 (Res.box (c3.set 1 (V.vec .plain (some 2) l4)))) r1 fun x5=>Z3 x5 fun c6=>gd (decide (2≤c6.length)&&true) (O.2 57 1 [V.int (IntKind.i64.wrap (n0+1)),
 V.ref r1 0,V.vec .plain none l2,V.int n3] ((List.set st r1 (Res.box (c3.set 1 (V.vec .plain (some 2) l4)))).set r1 (Res.box (setCells c6 1 [V.vec Mode.grow (some 2) (l4++
 [V.agg [V.int 1,V.str s1]])])))))) fun l7=>gd (true&&roomFor Tryz.prog 84 (l7.length+[V.agg [V.int 1,V.str s1]].length)) (Z6 (List.set st r1 (Res.box (c3.set 1
 (V.vec .plain (some 2) l7)))) r1 fun x8=>Z3 x8 fun c9=>gd (decide (2≤c9.length)&&true) (O.2 57 1 [V.int (IntKind.i64.wrap (n0+1)),V.ref r1 0,V.vec
 .plain none l2,V.int n3] ((List.set st r1 (Res.box (c3.set 1 (V.vec .plain (some 2) l7)))).set r1 (Res.box (setCells c9 1 [V.vec Mode.grow (some 2) (l7++[V.agg [V.int 1,V.str
 s1]])])))))))) (some (Ex.exit 0,[],st)):=by kernel_rfl
theorem zdn(O:Oracle)(r0:Nat)(n0:Int)(st:St):Zf Tryz.prog cfg O 58 [.cptr none (.ref r0 0), .cptr none (.int n0)] st=
 Za (O.call 56 [V.ref r0 0,V.int n0] st) fun r1=>Zk r1.fst (fun v2=>Z4 v2 fun c3=>Zj c3 (YH (List.length st) (V.tup []) r1.snd)) fun p4=>none:=by kernel_rfl
theorem XQ(O:Oracle)(r0:Nat)(n1:Int)(n2:Int)(l3:(List V))(n4:Int)(st:St):Zf Tryz.prog cfg O 59 [.ref r0 0, .agg [.int n1, .int n2, .vec .plain (some 3) l3], .int n4] st=
 bc (n1==4) (bc (decide (n2<n4)) (Za (O.call 56 [V.ref r0 0,V.int (IntKind.i64.wrap (IntKind.i64.wrap (n4-1)-n2))] st) fun r1=>Zk r1.fst (fun v2
 =>Z4 v2 fun c3=>Zj c3 (YH (List.length st) (V.tup []) r1.snd)) fun p4=>none) (bc (n1==2) (Z6 st r0 fun x5=>Z3 x5 fun c6=>gd (decide (1≤c6.length)&&true)
 (ZS (some 4) (Zo (AM.partOf c6 0 none)) fun l7=>bc (decide (n2<(↑l7.length:Int))) (Z6 st r0 fun x8=>Z3 x8 fun c9=>gd (decide (1≤c9.length)&&true) (ZS
 (some 4) (Zo (AM.partOf c9 0 none)) fun l10=>gd (decide (0≤n2)&&decide (n2<(↑l10.length:Int))) (YE (ZY l10 n2) fun c11=>gd (decide (1≤c11.length)) (Xg
 (AM.partOf c11 0 none) fun s12=>Za (O.call 53 [V.ref r0 0,V.str s12] st) fun r13=>Zk r13.fst (fun v14=>Z4 v14 fun c15=>Zj c15 (YH
 (List.length st) (V.tup []) r13.snd)) fun p16=>none)))) (Z6 st r0 fun x17=>Z3 x17 fun c18=>gd (decide (3≤c18.length)&&true) (YH (List.length st) (V.tup [])
 (List.set st r0 (Res.box (setCells c18 2 [V.int 2]))))))) (bc (n1==5) (Z6 st r0 fun x19=>Z3 x19 fun c20=>gd (decide (1≤c20.length)&&true) (ZS (some 4) (Zo
 (AM.partOf c20 0 none)) fun l21=>bc (decide (n2<(↑l21.length:Int))) (Z6 st r0 fun x22=>Z3 x22 fun c23=>gd (decide (1≤c23.length)&&true) (ZS (some 4) (Zo
 (AM.partOf c23 0 none)) fun l24=>gd (decide (0≤n2)&&decide (n2<(↑l24.length:Int))) (YE (ZY l24 n2) fun c25=>gd (decide (1≤c25.length)) (Xg (AM.partOf c25 0
 none) fun s26=>Za (O.call 53 [V.ref r0 0,V.str s26] st) fun r27=>Zk r27.fst (fun v28=>Z4 v28 fun c29=>Zj c29 (YH (List.length st) (V.tup [])
 r27.snd)) fun p30=>none)))) (Z6 st r0 fun x31=>Z3 x31 fun c32=>gd (decide (3≤c32.length)&&true) (YH (List.length st) (V.tup []) (List.set st r0 (Res.box (setCells
 c32 2 [V.int 2]))))))) (Z6 st r0 fun x33=>Z3 x33 fun c34=>gd (decide (3≤c34.length)&&true) (YH (List.length st) (V.tup []) (List.set st r0 (Res.box (setCells c34 2
 [V.int 2])))))))) (bc (n1==2) (Z6 st r0 fun x35=>Z3 x35 fun c36=>gd (decide (1≤c36.length)&&true) (ZS (some 4) (Zo (AM.partOf c36 0 none)) fun l37=>bc
 (decide (n2<(↑l37.length:Int))) (Z6 st r0 fun x38=>Z3 x38 fun c39=>gd (decide (1≤c39.length)&&true) (ZS (some 4) (Zo (AM.partOf c39 0 none)) fun l40=>gd
 (decide (0≤n2)&&decide (n2<(↑l40.length:Int))) (YE (ZY l40 n2) fun c41=>gd (decide (1≤c41.length)) (Xg (AM.partOf c41 0 none) fun s42=>Za (O.call
 53 [V.ref r0 0,V.str s42] st) fun r43=>Zk r43.fst (fun v44=>Z4 v44 fun c45=>Zj c45 (YH (List.length st) (V.tup []) r43.snd)) fun p46=>none))))
 (Z6 st r0 fun x47=>Z3 x47 fun c48=>gd (decide (3≤c48.length)&&true) (YH (List.length st) (V.tup []) (List.set st r0 (Res.box (setCells c48 2 [V.int 2]))))))) (bc (n1
 ==5) (Z6 st r0 fun x49=>Z3 x49 fun c50=>gd (decide (1≤c50.length)&&true) (ZS (some 4) (Zo (AM.partOf c50 0 none)) fun l51=>bc (decide (n2<(↑l51.length:
 Int))) (Z6 st r0 fun x52=>Z3 x52 fun c53=>gd (decide (1≤c53.length)&&true) (ZS (some 4) (Zo (AM.partOf c53 0 none)) fun l54=>gd (decide (0≤n2)&&decide
 (n2<(↑l54.length:Int))) (YE (ZY l54 n2) fun c55=>gd (decide (1≤c55.length)) (Xg (AM.partOf c55 0 none) fun s56=>Za (O.call 53 [V.ref r0 0,
 V.str s56] st) fun r57=>Zk r57.fst (fun v58=>Z4 v58 fun c59=>Zj c59 (YH (List.length st) (V.tup []) r57.snd)) fun p60=>none)))) (Z6 st r0 fun x61=>Z3 x61
 fun c62=>gd (decide (3≤c62.length)&&true) (YH (List.length st) (V.tup []) (List.set st r0 (Res.box (setCells c62 2 [V.int 2]))))))) (Z6 st r0 fun x63=>Z3 x63 fun c64
 =>gd (decide (3≤c64.length)&&true) (YH (List.length st) (V.tup []) (List.set st r0 (Res.box (setCells c64 2 [V.int 2]))))))):=by kernel_rfl
theorem zj1(O:Oracle)(n0:Int)(n1:Int)(l2:(List V)):Zf Tryz.prog cfg O 60 [.agg [.int n0, .int n1, .vec .plain (some 3) l2]] []=
 bc ((↑l2.length:Int)==0) (bc (n0==4) (some (Out.ret (V.bool true),[])) (bc (n0==2) (some (Out.ret (V.bool true),[])) (some (Out.ret (V.bool (n0==5)),[])))) (some
 (Out.ret (V.bool false),[])):=by kernel_rfl
theorem zdo(O:Oracle)(r0:Nat)(n0:Int)(k:Int)(h:Int)(l:(List V))(st:St):Zf Tryz.prog cfg O 61 [.cptr none (.ref r0 0), .cptr (some 3) (.agg [.int k, .int h, .vec .plain (some 3) l]), .cptr none (.int n0)] st=
 Za (O.call 25 [V.ref r0 0,V.agg [V.int k,V.int h,V.vec .plain (some 3) l],V.int n0] st) fun r1=>Zk r1.fst (fun v2=>Z4 v2 fun c3=>Zj c3 (YH
 (List.length st) (V.tup []) r1.snd)) fun p4=>none:=by kernel_rfl
theorem X4(O:Oracle)(n0:Int)(n1:Int)(r2:Nat)(l3:(List V))(n4:Int)(st:St):ZC Tryz.prog cfg O 25 4 [.int n0, .loc false none (.int n1), .loc false none (.ref r2 0), .vec .plain (some 3) l3, .int n4] st=
 bc (decide (n0<n4)) (gd (decide (0≤n0)&&decide (n0<(↑l3.length:Int))) (Zc [CT.int,CT.int,CT.slice (some 3)] (ZY l3 n0) fun n1_1 n2 l3_1=>Za (Zq O
 60 [V.agg [V.int n1_1,V.int n2,V.vec .plain (some 3) l3_1]]) fun r4=>Zn r4 fun b5=>bc b5 (Za (O.call 25 [V.ref r2 0,V.agg [V.int n1_1,
 V.int n2,V.vec .plain (some 3) l3_1],V.int n1] st) fun r6=>Zk r6.fst (fun v7=>Z4 v7 fun c8=>Zj c8 (O.2 25 4 [V.int (IntKind.i64.wrap (n0+1)),
 V.loc false none (V.int n1),V.loc false none (V.ref r2 0),V.vec .plain (some 3) l3,V.int n4] r6.snd)) fun p9=>none) (Za (O.call 54 [V.ref r2 0,V.str {
 data:= #[40]},V.str {data:= #[41]},V.fn 61 [] [V.cptr none (V.ref r2 0),V.cptr (some 3) (V.agg [V.int n1_1,V.int n2,V.vec .plain (some 3) l3_1]),
 V.cptr none (V.int n1)]] st) fun r10=>Zk r10.fst (fun v11=>Z4 v11 fun c12=>Zj c12 (O.2 25 4 [V.int (IntKind.i64.wrap (n0+1)),V.cptr none (V.int
 n1),V.cptr none (V.ref r2 0),V.vec .plain (some 3) l3,V.int n4] r10.snd)) fun p13=>none))) (some (Ex.exit 1,[],st)):=by kernel_rfl
end Go.Proofs.SZ
namespace Go.Proofs.SZ
open Go Go.AM
set_option maxRecDepth 20000
theorem zo0(O:Oracle)(n0:Int)(n1:Int)(l2:(List V)):Zf Tryz.prog cfg O 24 [.agg [.int n0, .int n1, .vec .plain (some 3) l2]] []=
 Za (Zq O 48 [V.agg [V.int n0,V.int n1,V.vec .plain (some 3) l2]]) fun r1=>Zt r1 fun n2=>bc (decide (n2≤60)) (Za (Zq O 49 [V.agg [V.int
 n0,V.int n1,V.vec .plain (some 3) l2]]) fun r3=>Zt r3 fun n4=>bc (decide (n4≤4000)) (Za (O.call 50 [V.agg [V.int n0,V.int n1,V.vec .plain (some 3) l2],
 V.fn 51 [] []] []) fun r5=>Zk r5.fst (fun v6=>Zn v6 fun b7=>some (Out.ret (V.bool b7),[])) fun p8=>none) (some (Out.ret (V.bool false),[]))) (some
 (Out.ret (V.bool false),[])):=by kernel_rfl
theorem zmY(O:Oracle)(l0:(List V)):Zf Tryz.prog cfg O 6 [.vec .plain (some 4) l0] []=
 bc (decide ((↑l0.length:Int)>30)) (some (Out.ret (V.bool false),[])) (Za (O.loop 6 4 [V.int 0,V.vec .plain (some 4) l0] []) fun r1=>Xv r1.fst none (Ze
 r1.snd.fst fun v2 c3=>Zn v2 fun b4=>Zj c3 (some (Out.ret (V.bool b4),[]))) (fun i5=>bc (i5.beq 0) (Zj r1.snd.fst (some (Out.ret (V.bool true),[]))) none) fun v6
 =>none):=by kernel_rfl
theorem zdp(O:Oracle)(n0:Int)(l1:(List V)):ZC Tryz.prog cfg O 6 4 [.int n0, .vec .plain (some 4) l1] []=
 bc (decide (n0<(↑l1.length:Int))) (gd (decide (0≤n0)&&decide (n0<(↑l1.length:Int))) (YE (ZY l1 n0) fun c1=>gd (decide (4≤c1.length)) (onCells [CT.int,CT.int,
 CT.slice (some 3)] (List.take 3 (List.drop 1 c1)) fun n2 n3 l4=>Za (Zq O 8 [V.agg [V.int n2,V.int n3,V.vec .plain (some 3) l4],V.int 1000,V.int 80]) fun r5
 =>Zn r5 fun b6=>bc (!b6) (some (Ex.ret,[V.bool false],[])) (O.2 6 4 [V.int (IntKind.i64.wrap (n0+1)),V.vec .plain (some 4) l1] [])))) (some (Ex.exit 0,[],
 [])):=by kernel_rfl
theorem zmZ(O:Oracle)(n0:Int)(n1:Int)(l2:(List V))(n3:Int)(n4:Int)(l5:(List V)):Zf Tryz.prog cfg O 13 [.agg [.int n0, .int n1, .vec .plain (some 3) l2], .agg [.int n3, .int n4, .vec .plain (some 3) l5]] []=
 bc (n0 !=n3) (some (Out.ret (V.bool false),[])) (bc (n1 !=n4) (some (Out.ret (V.bool false),[])) (bc ((↑l2.length:Int) !=(↑l5.length:Int)) (some (Out.ret (V.bool false),
 [])) (Za (O.loop 13 4 [V.int 0,V.loc false (some 3) (V.agg [V.int n3,V.int n4,V.vec .plain (some 3) l5]),V.vec .plain (some 3) l2,V.int (↑l2.length:Int)] [])
 fun r1=>Xv r1.fst none (Ze r1.snd.fst fun v2 c3=>Zn v2 fun b4=>Zj c3 (some (Out.ret (V.bool b4),[]))) (fun i5=>bc (i5.beq 0) (Zj r1.snd.fst (some (Out.ret
 (V.bool true),[]))) none) fun v6=>none))):=by kernel_rfl
theorem zdq(O:Oracle)(n0:Int)(n1:Int)(n2:Int)(l3:(List V))(l4:(List V))(n5:Int):ZC Tryz.prog cfg O 13 4 [.int n0, .loc false (some 3) (.agg [.int n1, .int n2, .vec .plain (some 3) l3]), .vec .plain (some 3) l4, .int n5] []=
 bc (decide (n0<n5)) (gd (decide (0≤n0)&&decide (n0<(↑l4.length:Int))) (Zc [CT.int,CT.int,CT.slice (some 3)] (ZY l4 n0) fun n1_1 n2_1 l3_1=>gd (decide (0≤
 n0)&&decide (n0<(↑l3.length:Int))) (Zc [CT.int,CT.int,CT.slice (some 3)] (ZY l3 n0) fun n4 n5_1 l6=>Za (Zq O 13 [V.agg [V.int n1_1,V.int n2_1,
 V.vec .plain (some 3) l3_1],V.agg [V.int n4,V.int n5_1,V.vec .plain (some 3) l6]]) fun r7=>Zn r7 fun b8=>bc (!b8) (some (Ex.ret,[V.bool false],[])) (O.2 13 4
 [V.int (IntKind.i64.wrap (n0+1)),V.loc false (some 3) (V.agg [V.int n1,V.int n2,V.vec .plain (some 3) l3]),V.vec .plain (some 3) l4,V.int n5] [])))) (some (Ex.exit 0,[],
 [])):=by kernel_rfl
theorem zna(O:Oracle)(n0:Int)(n1:Int)(l2:(List V)):Zf Tryz.prog cfg O 49 [.agg [.int n0, .int n1, .vec .plain (some 3) l2]] []=
 Za (O.call 81 [V.agg [V.int n0,V.int n1,V.vec .plain (some 3) l2]] [Res.box [V.int 0]]) fun r1=>Zk r1.fst (fun v2=>zhx v2 fun g3 a4 b5=>Za (O.call g3
 (a4++[V.yld (List.length r1.snd)]++b5) (r1.snd++[Res.loop 49 3 [V.ref 0 0] LSt.ready none])) fun r6=>Zk r6.fst (fun v7=>Z6 r6.snd (List.length r1.snd) fun
 x8=>Xp x8 fun f9 k10 vs11 s12 p13=>Jf s12 p13 (Z6 (List.set r6.snd (List.length r1.snd) Res.dead) 0 fun x14=>Z3 x14 fun c15=>gd (decide (1≤c15.length)&&
 true) (Zt (Zo (AM.partOf c15 0 none)) fun n16=>some (Out.ret (V.int n16),[]))) none fun i17=>none) fun p18=>none) fun p19=>none:=by kernel_rfl
theorem zi2(O:Oracle)(n i:Int)(c:List V):XA Tryz.prog cfg O 1 49 3 [.ref 0 0] [.int i, .agg c] [.box [.int n], .loop 49 3 [.ref 0 0] .ready none]=
 some (true,[Res.box [V.int (IntKind.i64.wrap (n+1))],Res.loop 49 3 [V.ref 0 0] LSt.ready none]):=by kernel_rfl
theorem zl5(O:Oracle)(n0:Int)(n1:Int)(l2:(List V)):Zf Tryz.prog cfg O 48 [.agg [.int n0, .int n1, .vec .plain (some 3) l2]] []=
 Za (O.loop 48 3 [V.int 0,V.int 0,V.vec .plain (some 3) l2,V.int (↑l2.length:Int)] []) fun r1=>Xv r1.fst none none (fun i2=>bc (i2.beq 0) (Ze r1.snd.fst
 fun v3 c4=>Zt v3 fun n5=>Zj c4 (some (Out.ret (V.int (IntKind.i64.wrap (n5+1))),[]))) none) fun v6=>none:=by kernel_rfl
theorem zc5(O:Oracle)(n0:Int)(n1:Int)(l2:(List V))(n3:Int):ZC Tryz.prog cfg O 48 3 [.int n0, .int n1, .vec .plain (some 3) l2, .int n3] []=
 bc (decide (n0<n3)) (gd (decide (0≤n0)&&decide (n0<(↑l2.length:Int))) (Zc [CT.int,CT.int,CT.slice (some 3)] (ZY l2 n0) fun n1_1 n2 l3=>Za (Zq O
 48 [V.agg [V.int n1_1,V.int n2,V.vec .plain (some 3) l3]]) fun r4=>Zt r4 fun n5=>O.2 48 3 [V.int (IntKind.i64.wrap (n0+1)),V.int (if n5>n1 then
 n5 else n1),V.vec .plain (some 3) l2,V.int n3] [])) (some (Ex.exit 0,[V.int n1],[])):=by kernel_rfl
theorem zo1(O:Oracle)(k h:Int)(xs:List V)(g:Nat)(a b:List V):Zf Tryz.prog cfg O 50 [.agg [.int k, .int h, .vec .plain (some 3) xs], .fn g a b] []=
 Za (O.call 81 [V.agg [V.int k,V.int h,V.vec .plain (some 3) xs]] [Res.box [V.bool false]]) fun r1=>Zk r1.fst (fun v2=>zhx v2 fun g3 a4 b5=>Za (O.call
 g3 (a4++[V.yld (List.length r1.snd)]++b5) (r1.snd++[Res.loop 50 4 [V.ref 0 0,V.cptr none (V.fn g a b)] LSt.ready none])) fun r6=>Zk r6.fst (fun v7=>Z6
 r6.snd (List.length r1.snd) fun x8=>Xp x8 fun f9 k10 vs11 s12 p13=>Jf s12 p13 (Z6 (List.set r6.snd (List.length r1.snd) Res.dead) 0 fun x14=>Z3 x14 fun c15=>
 gd (decide (1≤c15.length)&&true) (Z6 ((List.set r6.snd (List.length r1.snd) Res.dead).set 0 (Res.box (setCells c15 0 [V.bool true]))) 0 fun x16=>Z3 x16 fun c17=>gd
 (decide (1≤c17.length)&&true) (YH 0 (Zo (AM.partOf c17 0 none)) ((List.set r6.snd (List.length r1.snd) Res.dead).set 0 (Res.box (setCells c15 0 [V.bool true])))))) (Z6
 (List.set r6.snd (List.length r1.snd) Res.dead) 0 fun x18=>Z3 x18 fun c19=>gd (decide (1≤c19.length)&&true) (YH 0 (Zo (AM.partOf c19 0 none)) (List.set r6.snd
 (List.length r1.snd) Res.dead))) fun i20=>none) fun p21=>none) fun p22=>none:=by kernel_rfl
theorem zj2(O:Oracle)(i k h:Int)(xs:List V)(b0:Bool)(g:Nat)(a b:List V):XA Tryz.prog cfg O 1 50 4 [.ref 0 0, .cptr none (.fn g a b)] [.int i, .agg [.int k, .int h, .vec .plain (some 3) xs]] [.box [.bool b0], .loop 50 4 [.ref 0 0, .cptr none (.fn g a b)] .ready none]=
 bc (cfg.pure g) (Za (Zq O g (a++[V.int i,V.agg [V.int k,V.int h,V.vec .plain (some 3) xs]]++b)) fun r1=>Zn r1 fun b2=>bc (!b2) (some (false,[Res.box [V.bool
 false],Res.loop 50 4 [V.ref 0 0,V.cptr none (V.fn g a b)] LSt.done (some Ex.ret)])) (some (true,[Res.box [V.bool b0],Res.loop 50 4 [V.ref 0 0,V.cptr none
 (V.fn g a b)] LSt.ready none]))) (Za (O.call g (a++[V.int i,V.agg [V.int k,V.int h,V.vec .plain (some 3) xs]]++b) [Res.box [V.bool b0],Res.loop 50 4 [V.ref 0 0,
 V.cptr none (V.fn g a b)] LSt.busy none]) fun r3=>Zk r3.fst (fun v4=>Zn v4 fun b5=>bc (!b5) (Z6 r3.snd 0 fun x6=>Z3 x6 fun c7=>gd (decide (1≤c7.length)&&
 true) (Z6 (List.set r3.snd 0 (Res.box (setCells c7 0 [V.bool false]))) 1 fun x8=>Xp x8 fun f9 k10 vs11 s12 p13=>zhP s12 (some (false,(List.set r3.snd 0 (Res.box
 (setCells c7 0 [V.bool false]))).set 1 (Res.loop f9 k10 vs11 LSt.done (some Ex.ret)))))) (Z6 r3.snd 1 fun x14=>Xp x14 fun f15 k16 vs17 s18 p19=>zhP s18 (some (true,
 List.set r3.snd 1 (Res.loop f15 k16 vs17 LSt.ready none))))) fun p20=>none):=by kernel_rfl
theorem zl6(O:Oracle)(n0:Int)(n1:Int)(n2:Int)(l3:(List V)):Zf Tryz.prog cfg O 51 [.int n0, .agg [.int n1, .int n2, .vec .plain (some 3) l3]] []=
 Za (Zq O 52 [V.agg [V.int n1,V.int n2,V.vec .plain (some 3) l3]]) fun r1=>Zn r1 fun b2=>some (Out.ret (V.bool b2),[]):=by kernel_rfl
theorem zo2(O:Oracle)(n0:Int)(n1:Int)(l2:(List V)):Zf Tryz.prog cfg O 52 [.agg [.int n0, .int n1, .vec .plain (some 3) l2]] []=
 bc (n0==0) (bc (n1==0) (some (Out.ret (V.bool ((↑l2.length:Int)==0)),[])) (some (Out.ret (V.bool false),[]))) (bc (n0==1) (bc (n1==0) (some (Out.ret (V.bool
 ((↑l2.length:Int)==2)),[])) (some (Out.ret (V.bool false),[]))) (bc (n0==3) (bc (n1==0) (some (Out.ret (V.bool ((↑l2.length:Int)==1)),[])) (some (Out.ret (V.bool
 false),[]))) (bc (decide (n0≥0)) (bc (decide (n0<7)) (some (Out.ret (V.bool (decide (n1≥0))),[])) (some (Out.ret (V.bool false),[]))) (some (Out.ret (V.bool false),
 []))))):=by kernel_rfl
theorem zj3(O:Oracle)(n0:Int)(n1:Int)(l2:(List V))(n3:Int)(n4:Int):Zf Tryz.prog cfg O 8 [.agg [.int n0, .int n1, .vec .plain (some 3) l2], .int n3, .int n4] []=
 Za (Zq O 18 [V.agg [V.int n0,V.int n1,V.vec .plain (some 3) l2]]) fun r1=>Zn r1 fun b2=>bc b2 (Za (Zq O 19 [V.agg [V.int n0,V.int n1,
 V.vec .plain (some 3) l2]]) fun r3=>Zt r3 fun n4_1=>bc (decide (n4_1≤n3)) (Za (Zq O 20 [V.agg [V.int n0,V.int n1,V.vec .plain (some 3) l2]]) fun r5=>
 Zt r5 fun n6=>some (Out.ret (V.bool (decide (n6≤n4))),[])) (some (Out.ret (V.bool false),[]))) (some (Out.ret (V.bool false),[])):=by kernel_rfl
theorem zfQ(O:Oracle)(k h:Int)(xs:List V)(x:Res):Zf Tryz.prog cfg O 81 [.agg [.int k, .int h, .vec .plain (some 3) xs]] [x]=
 some (Out.ret (V.fn 100 [] [V.cptr (some 3) (V.agg [V.int k,V.int h,V.vec .plain (some 3) xs])]),[x]):=by kernel_rfl
theorem znb(O:Oracle)(n0:Int)(n1:Int)(l2:(List V)):Zf Tryz.prog cfg O 18 [.agg [.int n0, .int n1, .vec .plain (some 3) l2]] []=
 bc (decide (n1>1099511627776)) (some (Out.ret (V.bool false),[])) (Za (O.loop 18 4 [V.int 0,V.loc false (some 3) (V.agg [V.int n0,V.int n1,V.vec .plain (some 3)
 l2])] []) fun r1=>Xv r1.fst none (Ze r1.snd.fst fun v2 c3=>Zn v2 fun b4=>Zj c3 (some (Out.ret (V.bool b4),[]))) (fun i5=>bc (i5.beq 0) (Zj r1.snd.fst
 (some (Out.ret (V.bool true),[]))) none) fun v6=>none):=by kernel_rfl
theorem zdr(O:Oracle)(n0:Int)(n1:Int)(n2:Int)(l3:(List V)):ZC Tryz.prog cfg O 18 4 [.int n0, .loc false (some 3) (.agg [.int n1, .int n2, .vec .plain (some 3) l3])] []=
 bc (decide (n0<(↑l3.length:Int))) (gd (decide (0≤n0)&&decide (n0<(↑l3.length:Int))) (Zc [CT.int,CT.int,CT.slice (some 3)] (ZY l3 n0) fun n1_1 n2_1 l3_1=>
 Za (Zq O 18 [V.agg [V.int n1_1,V.int n2_1,V.vec .plain (some 3) l3_1]]) fun r4=>Zn r4 fun b5=>bc (!b5) (some (Ex.ret,[V.bool false],[])) (O.2
 18 4 [V.int (IntKind.i64.wrap (n0+1)),V.loc false (some 3) (V.agg [V.int n1,V.int n2,V.vec .plain (some 3) l3])] []))) (some (Ex.exit 0,[],[])):=by kernel_rfl
theorem zl7(O:Oracle)(n0:Int)(n1:Int)(l2:(List V)):Zf Tryz.prog cfg O 19 [.agg [.int n0, .int n1, .vec .plain (some 3) l2]] []=
 Za (O.loop 19 3 [V.int 0,V.loc false (some 3) (V.agg [V.int n0,V.int n1,V.vec .plain (some 3) l2]),V.int 1] []) fun r1=>Xv r1.fst none none (fun i2=>bc
 (i2.beq 0) (Ze r1.snd.fst fun v3 c4=>Zt v3 fun n5=>Zj c4 (some (Out.ret (V.int n5),[]))) none) fun v6=>none:=by kernel_rfl
theorem zc6(O:Oracle)(n0:Int)(n1:Int)(n2:Int)(l3:(List V))(n4:Int):ZC Tryz.prog cfg O 19 3 [.int n0, .loc false (some 3) (.agg [.int n1, .int n2, .vec .plain (some 3) l3]), .int n4] []=
 bc (decide (n0<(↑l3.length:Int))) (gd (decide (0≤n0)&&decide (n0<(↑l3.length:Int))) (Zc [CT.int,CT.int,CT.slice (some 3)] (ZY l3 n0) fun n1_1 n2_1 l3_1=>
 Za (Zq O 19 [V.agg [V.int n1_1,V.int n2_1,V.vec .plain (some 3) l3_1]]) fun r4=>Zt r4 fun n5=>O.2 19 3 [V.int (IntKind.i64.wrap (n0+1)),V.loc
 false (some 3) (V.agg [V.int n1,V.int n2,V.vec .plain (some 3) l3]),V.int (IntKind.i64.wrap (n4+n5))] [])) (some (Ex.exit 0,[V.int n4],[])):=by kernel_rfl
theorem zj4(O:Oracle)(n0:Int)(n1:Int)(l2:(List V)):Zf Tryz.prog cfg O 20 [.agg [.int n0, .int n1, .vec .plain (some 3) l2]] []=
 Za (O.loop 20 3 [V.int 0,V.int 0,V.loc false (some 3) (V.agg [V.int n0,V.int n1,V.vec .plain (some 3) l2])] []) fun r1=>Xv r1.fst none none (fun i2=>bc
 (i2.beq 0) (Ze r1.snd.fst fun v3 c4=>Zt v3 fun n5=>Zj c4 (some (Out.ret (V.int (IntKind.i64.wrap (n5+1))),[]))) none) fun v6=>none:=by kernel_rfl
theorem zbB(O:Oracle)(n0:Int)(n1:Int)(n2:Int)(n3:Int)(l4:(List V)):ZC Tryz.prog cfg O 20 3 [.int n0, .int n1, .loc false (some 3) (.agg [.int n2, .int n3, .vec .plain (some 3) l4])] []=
 bc (decide (n0<(↑l4.length:Int))) (gd (decide (0≤n0)&&decide (n0<(↑l4.length:Int))) (Zc [CT.int,CT.int,CT.slice (some 3)] (ZY l4 n0) fun n1_1 n2_1 l3=>
 Za (Zq O 20 [V.agg [V.int n1_1,V.int n2_1,V.vec .plain (some 3) l3]]) fun r4=>Zt r4 fun n5=>bc (decide (n5>n1)) (O.2 20 3 [V.int
 (IntKind.i64.wrap (n0+1)),V.int n5,V.loc false (some 3) (V.agg [V.int n2,V.int n3,V.vec .plain (some 3) l4])] []) (O.2 20 3 [V.int (IntKind.i64.wrap (n0+1)),
 V.int n1,V.loc false (some 3) (V.agg [V.int n2,V.int n3,V.vec .plain (some 3) l4])] []))) (some (Ex.exit 0,[V.int n1],[])):=by kernel_rfl
theorem zi3(O:Oracle)(k h:Int)(xs:List V)(x y:Res):Zf Tryz.prog cfg O 100 [.yld 1, .cptr (some 3) (.agg [.int k, .int h, .vec .plain (some 3) xs])] [x,y]=
 Za (O.call 101 [V.agg [V.int k,V.int h,V.vec .plain (some 3) xs],V.int 0,V.yld 1] [x,y]) fun r1=>Zk r1.fst (fun v2=>Zn v2 fun b3=>YH [x,y].length
 (V.tup []) r1.snd) fun p4=>none:=by kernel_rfl
theorem znc(O:Oracle)(k h i:Int)(xs:List V)(x y:Res):Zf Tryz.prog cfg O 101 [.agg [.int k, .int h, .vec .plain (some 3) xs], .int i, .yld 1] [x,y]=
 Xp y fun f1 k2 vs3 s4 p5=>Jf s4 p5 (Za (O.round 1 f1 k2 vs3 [V.int i,V.agg [V.int k,V.int h,V.vec .plain (some 3) xs]] [x,y]) fun r6=>bc (!r6.fst) (YH [x,
 y].length (V.bool false) r6.snd) (Za (O.loop 101 4 [V.int 0,V.yld 1,V.loc false (some 3) (V.agg [V.int k,V.int h,V.vec .plain (some 3) xs]),V.int i,V.vec .plain
 (some 3) xs,V.int (↑xs.length:Int)] r6.snd) fun r7=>Xv r7.fst none (Ze r7.snd.fst fun v8 c9=>Zn v8 fun b10=>Zj c9 (YH [x,y].length (V.bool b10)
 r7.snd.snd)) (fun i11=>bc (i11.beq 0) (Zj r7.snd.fst (YH [x,y].length (V.bool true) r7.snd.snd)) none) fun v12=>none)) none fun i13=>none:=by kernel_rfl
theorem zds(O:Oracle)(i n j k h:Int)(xs ys:List V)(x y:Res):ZC Tryz.prog cfg O 101 4 [.int i, .yld 1, .loc false (some 3) (.agg [.int k, .int h, .vec .plain (some 3) xs]), .int j, .vec .plain (some 3) ys, .int n] [x,y]=
 bc (decide (i<n)) (gd (decide (0≤i)&&decide (i<(↑ys.length:Int))) (Zc [CT.int,CT.int,CT.slice (some 3)] (ZY ys i) fun n1 n2 l3=>Za (Zq O 120
 [V.agg [V.int k,V.int h,V.vec .plain (some 3) xs]]) fun r4=>Zn r4 fun b5=>bc b5 (bc (i==IntKind.i64.wrap ((↑xs.length:Int)-1)) (Za (O.call 101 [V.agg
 [V.int n1,V.int n2,V.vec .plain (some 3) l3],V.int (IntKind.i64.wrap (j+1)),V.yld 1] [x,y]) fun r6=>Zk r6.fst (fun v7=>Zn v7 fun b8=>bc (!b8) (some (Ex.ret,
 [V.bool false],r6.snd)) (O.2 101 4 [V.int (IntKind.i64.wrap (i+1)),V.yld 1,V.loc false (some 3) (V.agg [V.int k,V.int h,V.vec .plain (some 3) xs]),V.int j,V.vec
 .plain (some 3) ys,V.int n] r6.snd)) fun p9=>none) (Za (O.call 101 [V.agg [V.int n1,V.int n2,V.vec .plain (some 3) l3],V.int j,V.yld 1] [x,y]) fun r10=>Zk
 r10.fst (fun v11=>Zn v11 fun b12=>bc (!b12) (some (Ex.ret,[V.bool false],r10.snd)) (O.2 101 4 [V.int (IntKind.i64.wrap (i+1)),V.yld 1,V.loc false (some 3)
 (V.agg [V.int k,V.int h,V.vec .plain (some 3) xs]),V.int j,V.vec .plain (some 3) ys,V.int n] r10.snd)) fun p13=>none)) (Za (O.call 101 [V.agg [V.int n1,V.int
 n2,V.vec .plain (some 3) l3],V.int j,V.yld 1] [x,y]) fun r14=>Zk r14.fst (fun v15=>Zn v15 fun b16=>bc (!b16) (some (Ex.ret,[V.bool false],r14.snd)) (O.2
 101 4 [V.int (IntKind.i64.wrap (i+1)),V.yld 1,V.loc false (some 3) (V.agg [V.int k,V.int h,V.vec .plain (some 3) xs]),V.int j,V.vec .plain (some 3) ys,V.int n]
 r14.snd)) fun p17=>none))) (some (Ex.exit 0,[],[x,y])):=by kernel_rfl
theorem zl8(O:Oracle)(n0:Int)(n1:Int)(l2:(List V)):Zf Tryz.prog cfg O 120 [.agg [.int n0, .int n1, .vec .plain (some 3) l2]] []=
 bc (n0==1) (some (Out.ret (V.bool true),[])) (some (Out.ret (V.bool (n0==3)),[])):=by kernel_rfl
theorem znd(O:Oracle)(n0:Int)(n1:Int)(l2:(List V)):Zf Tryz.prog cfg O 32 [.agg [.int n0, .int n1, .vec .plain (some 3) l2]] []=
 Za (Zq O 68 [V.agg [V.int n0,V.int n1,V.vec .plain (some 3) l2]]) fun r1=>Zc [CT.int,CT.int,CT.slice (some 3)] r1 fun n2 n3 l4=>some (Out.ret (V.bool
 (n2==0)),[]):=by kernel_rfl
theorem zne(O:Oracle)(n0:Int)(n1:Int)(l2:(List V)):Zf Tryz.prog cfg O 68 [.agg [.int n0, .int n1, .vec .plain (some 3) l2]] []=
 Za (O.call 88 [V.agg [V.int n0,V.int n1,V.vec .plain (some 3) l2]] [Res.box [V.int n0,V.int n1,V.vec .plain (some 3) l2]]) fun r1=>Zk r1.fst (fun v2=>zhx v2
 fun g3 a4 b5=>Za (O.call g3 (a4++[V.yld (List.length r1.snd)]++b5) (r1.snd++[Res.loop 68 3 [V.ref 0 0] LSt.ready none])) fun r6=>Zk r6.fst (fun v7=>Z6
 r6.snd (List.length r1.snd) fun x8=>Xp x8 fun f9 k10 vs11 s12 p13=>Jf s12 p13 (Z6 (List.set r6.snd (List.length r1.snd) Res.dead) 0 fun x14=>Z3 x14 fun c15=>
 gd (decide (3≤c15.length)&&true) (onCells [CT.int,CT.int,CT.slice (some 3)] (List.map plain1 (List.take 3 (List.drop 0 c15))) fun n16 n17 l18=>gd (below 0 (V.agg [V.int
 n16,V.int n17,V.vec .plain (some 3) l18])&&Zu 0 []) (some (Out.ret (V.agg [V.int n16,V.int n17,V.vec .plain (some 3) l18]),[])))) none fun i19=>none) fun p20=>
 none) fun p21=>none:=by kernel_rfl
theorem zi4(O:Oracle)(k h k2 h2 k3 h3:Int)(xs ys zs:List V)(x:Res):XA Tryz.prog cfg O 2 68 3 [.ref 0 0] [.agg [.int k, .int h, .vec .plain (some 3) xs], .agg [.int k2, .int h2, .vec .plain (some 3) ys]] [.box [.int k3, .int h3, .vec .plain (some 3) zs],x, .loop 68 3 [.ref 0 0] .ready none]=
 some (true,[Res.box [V.int k2,V.int h2,V.vec .plain (some 3) ys],x,Res.loop 68 3 [V.ref 0 0] LSt.ready none]):=by kernel_rfl
theorem zo3(O:Oracle)(k h:Int)(xs:List V)(x:Res):Zf Tryz.prog cfg O 88 [.agg [.int k, .int h, .vec .plain (some 3) xs]] [x]=
 YH [x].length (V.fn 111 [] [V.ref [x].length 0]) [x,Res.box [V.int k,V.int h,V.vec .plain (some 3) xs]]:=by kernel_rfl
theorem zl9(O:Oracle)(k h:Int)(xs:List V)(x z:Res):Zf Tryz.prog cfg O 111 [.yld 2, .ref 1 0] [x, .box [.int k, .int h, .vec .plain (some 3) xs],z]=
 Za (O.loop 111 0 [V.ref 1 0,V.yld 2] [x,Res.box [V.int k,V.int h,V.vec .plain (some 3) xs],z]) fun r1=>Xv r1.fst none (Zj r1.snd.fst (YH [x,Res.box
 [V.int k,V.int h,V.vec .plain (some 3) xs],z].length (V.tup []) r1.snd.snd)) (fun i2=>bc (i2.beq 0) (Zj r1.snd.fst (YH [x,Res.box [V.int k,V.int h,V.vec .plain (some
 3) xs],z].length (V.tup []) r1.snd.snd)) none) fun v3=>none:=by kernel_rfl
theorem zh2(O:Oracle)(k h:Int)(xs:List V)(x z:Res):ZC Tryz.prog cfg O 111 0 [.ref 1 0, .yld 2] [x, .box [.int k, .int h, .vec .plain (some 3) xs],z]=
 bc (k==1) (bc ((↑xs.length:Int)==2) (gd (true&&decide (0<(↑xs.length:Int))) (Zc [CT.int,CT.int,CT.slice (some 3)] (ZY xs 0) fun n1 n2 l3=>gd (true&&
 decide (1<(↑xs.length:Int))) (Zc [CT.int,CT.int,CT.slice (some 3)] (ZY xs 1) fun n4 n5 l6=>Xp z fun f7 k8 vs9 s10 p11=>Jf s10 p11 (Za (O.round 2 f7 k8
 vs9 [V.agg [V.int n1,V.int n2,V.vec .plain (some 3) l3],V.agg [V.int n4,V.int n5,V.vec .plain (some 3) l6]] [x,Res.box [V.int k,V.int h,V.vec .plain (some 3) xs],z]) fun
 r12=>bc (!r12.fst) (some (Ex.ret,[],r12.snd)) (Z6 r12.snd 1 fun x13=>Z3 x13 fun c14=>gd (decide (3≤c14.length)&&true) (ZS (some 3) (Zo (AM.partOf c14 2
 none)) fun l15=>gd (true&&decide (1<(↑l15.length:Int))) (Zc [CT.int,CT.int,CT.slice (some 3)] (ZY l15 1) fun n16 n17 l18=>Z6 r12.snd 1 fun x19=>Z3 x19
 fun c20=>gd (decide (3≤c20.length)&&true) (O.2 111 0 [V.ref 1 0,V.yld 2] (List.set r12.snd 1 (Res.box (setCells c20 0 [V.int n16,V.int n17,V.vec .plain (some 3)
 l18])))))))) none fun i21=>none))) (some (Ex.exit 0,[],[x,Res.box [V.int k,V.int h,V.vec .plain (some 3) xs],z]))) (some (Ex.exit 0,[],[x,Res.box [V.int k,V.int h,
 V.vec .plain (some 3) xs],z])):=by kernel_rfl
end Go.Proofs.SZ
namespace Go.Ama
open Go Go.AM
def low:T→Bool
 | .mk _ h xs=>decide (h≤1099511627776)&&lows xs
where lows:List T→Bool
 |[]=>true
 |t::ts=>low t&&lows ts
theorem znf: ∀ts,low.lows ts=ts.all low
 |[]=>rfl
 |t::ts=>by simp[low.lows,znf ts]
def zdt(n m:Int)(t:T):Bool:=low t&&(decide ((t.size:Int)≤n)&&decide ((t.depth:Int)≤m))
def zaL(k h:Int)(n:Nat):Bool:=
 if k=0 then decide (h=0)&&decide (n=0)else if k=1 then decide (h=0)&&decide (n=2)else if k=3 then decide (h=0)&&decide (n=1)else decide (0≤k)&&(decide (k<7)&&decide (0≤h))
mutual
def Y5:T→Bool
 | .mk k h l=>zaL k h l.length&&Y6 l
def Y6:List T→Bool
 |[]=>true
 |t::l=>Y5 t&&Y6 l
end
theorem zfc: ∀l,Y6 l=l.all Y5
 |[]=>rfl
 |t::l=>by simp[Y6,zfc l]
def may(t:T):Bool:=Y5 t&&(decide (t.size≤4000)&&decide (t.depth≤60))
mutual
def allW(g:Int→T→Bool)(i:Int):T→Bool
 | .mk k h l=>g i (.mk k h l)&&XJ g i (decide (k=1)||decide (k=3)) l
def XJ(g:Int→T→Bool)(i:Int)(b:Bool):List T→Bool
 |[]=>true
 |[t]=>allW g (bif b then i+1 else i) t
 |t::u::l=>allW g i t&&XJ g i b (u::l)
end
def iter{σ:Type}(f:σ→σ):Nat→σ→σ
 |0,s=>s
 |n+1,s=>iter f n (f s)
theorem zng{σ:Type}(f:σ→σ)(a b:Nat)(s:σ):iter f (a+b) s=iter f b (iter f a s):=by
 induction a generalizing s with
 |zero=>simp[iter]
 |succ a ih=>rw[Nat.succ_add];exact ih (f s)
def ztc(vars metas:Int)(i:Int)(t:T):Bool:=(decide (t.k≠4)||decide (IntKind.i64.wrap (t.h-i)<vars))&&(decide (t.k≠6)||decide (t.h<metas))
def ztd(t:T):Bool:=zaL t.k t.h t.args.length
theorem zsf: ∀(t:T) (i:Int),allW (fun _ t=>ztd t) i t=Y5 t:=by
 intro t
 induction t using T.ind with
 |_ k h xs ih=>
  intro i
  simp only[allW,Y5]
  generalize(decide (k=1)||decide (k=3))=b
  have: ∀l:List T,(∀a∈l,∀i,allW (fun _ t=>ztd t) i a=Y5 a)→XJ (fun _ t=>ztd t) i b l=Y6 l:=by
   intro l
   induction l with
   |nil=>intro _;rfl
   |cons a l ihl=>
    intro h
    cases l with
    |nil=>simp only[XJ,Y6,Bool.and_true];exact h a (by simp) _
    |cons u l=>simp only[XJ,h a (by simp)];rw[ihl fun a ha=>h a (by simp[ha])];simp only[Y6]
  rw[this xs ih]
  rfl
def zfd:Nat→T→List T×T
 |0,t=>([],t)
 |n+1,t=>if t.k=1 then match t.args with|[a,b]=>let r:=zfd n b;(a::r.1,r.2)|_=>([],t)else([],t)
def split(t:T):List T×T:=zfd t.size t
theorem zdW{t b:T}(h:b∈t.args):b.size<t.size:=by
 cases t with
 |mk k h' l=>simp only[T.args]at h;simp only[T.size];have:=size_le h;omega
theorem znh: ∀(n m:Nat) (t:T),t.size≤n→t.size≤m→zfd n t=zfd m t:=by
 intro n
 induction n with
 |zero=>intro m t h;have:=QB t;omega
 |succ n ih=>
  intro m t h h'
  cases m with
  |zero=>have:=QB t;omega
  |succ m=>
   simp only[zfd]
   split
   ·split
    ·rename_i a b hab
     have:=zdW (t:=t) (b:=b) (by rw[hab];simp)
     rw[ih m b (by omega) (by omega)]
    ·rfl
   ·rfl
theorem zi5{t a b:T}(h:t.k=1)(ha:t.args=[a,b]):split t=(a::(split b).1,(split b).2):=by
 unfold split
 have hb:=zdW (t:=t) (b:=b) (by rw[ha];simp)
 obtain⟨n,hn⟩: ∃n,t.size=n+1:=⟨t.size-1,by omega⟩
 rw[hn]
 simp only[zfd,h,ha,if_true]
 rw[znh n b.size b (by omega) (Nat.le_refl _)]
theorem zdX{t:T}(h: ¬(t.k=1∧t.args.length=2)):split t=([],t):=by
 unfold split
 have:=QB t
 obtain⟨n,hn⟩: ∃n,t.size=n+1:=⟨t.size-1,by omega⟩
 rw[hn]
 simp only[zfd]
 split
 ·rename_i h1
  split
  ·rename_i a b hab;exact absurd ⟨h1,by rw[hab];rfl⟩ h
  ·rfl
 ·rfl
theorem zqD{l:List T}(h:l.length=2): ∃a b,l=[a,b]:=by
 match l,h with
 |[a,b],_=>exact⟨a,b,rfl⟩
theorem zaE{xs:List T}{i:Nat}(hi:i<xs.length):Zi (xs.take (i+1))=Zi (xs.take i)++[enc xs[i]]:=by rw[zcj hi,zde];rfl
end Go.Ama
namespace Go.Proofs.SZ
open Go Go.AM Go.Ama
theorem ZA{R:Type}(t:T)(K:Int→Int→List V→Option R):Zc (R:=R) [CT.int,CT.int,CT.slice (some 3)] (enc t) K=K t.k t.h (Zi t.args):=by cases t;rfl
theorem zsg: ∀t:T,t.size≤1099511627776→Ev 18 [enc t] (.bool (low t)):=by
 intro t
 induction t using T.ind with
 |_ k h xs ih=>
  intro hs
  simp only[T.size]at hs
  have hlen:=Zy xs
  unfold Ev
  rw[C,enc,znb]
  by_cases hh:h>1099511627776
  ·have: ¬h≤1099511627776:=by omega
   simp[bc,low,hh,this]
  ·have hle:h≤1099511627776:=by omega
   have hl:=zrV (L:=fun i=>W.loop 18 4 [V.int i,V.loc false (some 3) (V.agg [V.int k,V.int h,V.vec .plain (some 3) (Zi xs)])] []) (xs:=xs) (g:=low) (e0:=(Ex.exit 0,[],[])) (e1:=(Ex.ret,[V.bool false],[]))
    (fun i hi=>by
     have hp:=(ih xs[i] (List.getElem_mem hi) (by have:=size_le (List.getElem_mem hi);omega)).p
     show W.loop _ _ _ _=_
     rw[L,zdr]
     simp only[Zv,ZU hi,ZA,←Zd,hp]
     rw[Z5 ⟨by omega,by omega⟩]
     cases low xs[i]<;>simp[bc,gd,Za,Zn,hi])
    (by show W.loop _ _ _ _=_;rw[L,zdr];simp[bc]) 0 (by omega)
   simp only[List.drop_zero,Int.ofNat_zero,Int.natCast_zero]at hl
   simp only[hl,hh,low,znf,hle]
   cases xs.all low<;>rfl
theorem zqE: ∀t:T,t.size≤1099511627776→Ev 19 [enc t] (.int t.size):=by
 intro t
 induction t using T.ind with
 |_ k h xs ih=>
  intro hs
  simp only[T.size]at hs
  have hlen:=Zy xs
  unfold Ev
  rw[C,enc,zl7]
  have hl:=J9 (n:=xs.length) (L:=fun i=>W.loop 19 3 [V.int (i:Nat),V.loc false (some 3) (V.agg [V.int k,V.int h,V.vec .plain (some 3) (Zi xs)]),V.int ((1+sizes (xs.take i):Nat):Int)] []) (r:=some (Ex.exit 0,[V.int ((1+sizes xs:Nat):Int)],[]))
   (fun i hi=>by
    have hp:=(ih xs[i] (List.getElem_mem hi) (by have:=size_le (List.getElem_mem hi);omega)).p
    have h1:=zou hi
    have h2:=ze5 xs (i+1)
    show W.loop _ _ _ _=_
    rw[L,zc6]
    simp only[Zv,ZU hi,ZA,←Zd,hp,Za,Zt]
    rw[Z5 ⟨by omega,by omega⟩,Z5 ⟨by omega,by omega⟩]
    rw[h1]
    simp[bc,gd,hi,Int.add_assoc])
   (by show W.loop _ _ _ _=_;rw[L,zc6];simp[bc])
  simp only[List.take_zero,sizes]at hl
  have hl':W.loop 19 3 [V.int 0,V.loc false (some 3) (V.agg [V.int k,V.int h,V.vec .plain (some 3) (Zi xs)]),V.int 1] []=some (Ex.exit 0,[V.int ((1+sizes xs:Nat):Int)],[]):=hl
  simp only[hl',T.size]
  rfl
theorem zo4: ∀t:T,t.size≤1099511627776→Ev 20 [enc t] (.int t.depth):=by
 intro t
 induction t using T.ind with
 |_ k h xs ih=>
  intro hs
  simp only[T.size]at hs
  have hlen:=Zy xs
  unfold Ev
  rw[C,enc,zj4]
  have hl:=J9 (n:=xs.length) (L:=fun i=>W.loop 20 3 [V.int (i:Nat),V.int (ZF (xs.take i):Nat),V.loc false (some 3) (V.agg [V.int k,V.int h,V.vec .plain (some 3) (Zi xs)])] []) (r:=some (Ex.exit 0,[V.int (ZF xs:Nat)],[]))
   (fun i hi=>by
    have hp:=(ih xs[i] (List.getElem_mem hi) (by have:=size_le (List.getElem_mem hi);omega)).p
    have h1:=zhr hi
    show W.loop _ _ _ _=_
    rw[L,zbB]
    simp only[Zv,ZU hi,ZA,←Zd,hp,Za,Zt]
    rw[Z5 ⟨by omega,by omega⟩]
    rw[h1]
    by_cases hc:ZF (xs.take i)<xs[i].depth
    ·have:max (ZF (xs.take i)) xs[i].depth=xs[i].depth:=by omega
     rw[this]
     simp[bc,gd,hi,hc]
    ·have:max (ZF (xs.take i)) xs[i].depth=ZF (xs.take i):=by omega
     rw[this]
     simp[bc,gd,hi,hc])
   (by show W.loop _ _ _ _=_;rw[L,zbB];simp[bc])
  have hl':W.loop 20 3 [V.int 0,V.int 0,V.loc false (some 3) (V.agg [V.int k,V.int h,V.vec .plain (some 3) (Zi xs)])] []=some (Ex.exit 0,[V.int (ZF xs:Nat)],[]):=hl
  have hd:=zc1 xs
  simp only[hl',T.depth,Za,Xv,Ze,Zt,Zj,bc]
  rw[Z5 ⟨by omega,by omega⟩]
  rfl
theorem zfe(t:T)(n m:Int)(hs:t.size≤1099511627776):Ev 8 [enc t, .int n, .int m] (.bool (zdt n m t)):=by
 unfold Ev
 rw[C,Zd,zj3,←Zd,(zsg t hs).p,(zqE t hs).p,(zo4 t hs).p]
 simp only[Za,Zn,Zt,zdt]
 cases low t<;>simp[bc]
 by_cases h:(t.size:Int)≤n<;>simp[h]
theorem zi6: ∀a b:T,a.size≤1099511627776→b.size≤1099511627776→Ev 13 [enc a,enc b] (.bool (a.same b)):=by
 intro a
 induction a using T.ind with
 |_ k h xs ih=>
  intro b hs hs'
  obtain⟨k2,h2,ys⟩:=b
  simp only[T.size]at hs hs'
  have hlen:=Zy xs
  unfold Ev
  rw[C,enc,enc,zmZ]
  simp only[T.same]
  by_cases c1:k=k2
  ·by_cases c2:h=h2
   ·by_cases c3:xs.length=ys.length
    ·have hl:=zkf (L:=fun i=>W.loop 13 4 [V.int i,V.loc false (some 3) (V.agg [V.int k2,V.int h2,V.vec .plain (some 3) (Zi ys)]),V.vec .plain (some 3) (Zi xs),V.int xs.length] []) (xs:=xs.zip ys) (g:=fun x=>x.1.same x.2) (e0:=(Ex.exit 0,[],[])) (e1:=(Ex.ret,[V.bool false],[]))
      (fun i hi=>by
       have hi1:i<xs.length:=by simp at hi;omega
       have hi2:i<ys.length:=by omega
       have hp:=(ih xs[i] (List.getElem_mem hi1) ys[i] (by have:=size_le (List.getElem_mem hi1);omega) (by have:=size_le (List.getElem_mem hi2);omega)).p
       show W.loop _ _ _ _=_
       rw[L,zdq]
       simp only[Zv,ZU hi1,ZU hi2,ZA,←Zd,hp,List.getElem_zip]
       rw[Z5 ⟨by omega,by omega⟩]
       cases xs[i].same ys[i]<;>simp[bc,gd,Za,Zn,hi1,hi2])
      (by show W.loop _ _ _ _=_;rw[L,zdq];simp[bc,c3])
     simp only[c1,c2,c3,Zv,zkd c3,bne_self_eq_false,hl,bc]
     rw[c3]at hl
     simp only[hl]
     cases(xs.zip ys).all (fun x=>x.1.same x.2)<;>simp[Za,Xv,Ze,Zn,Zj,bc]
    ·have c4:((xs.length:Int) !=(ys.length:Int))=true:=by simp;omega
     simp only[c1,c2,zke c3,Zv,c4,bne_self_eq_false]
     simp[bc]
   ·have c4:(h !=h2)=true:=by simp[c2]
    simp only[c1,c4,c2,bne_self_eq_false]
    simp[bc]
  ·have c4:(k !=k2)=true:=by simp[c1]
   simp only[c4,c1]
   simp[bc]
theorem zte:((Tryz.prog.info? 25).map (·.bytes)).getD 0=40:=by kernel_rfl
theorem zcn{n:Nat}(h:n≤2199023255552):roomFor Tryz.prog 25 n=true:=by
 unfold roomFor
 rw[zte]
 simp only[Bool.and_eq_true,decide_eq_true_eq]
 omega
theorem zni: ∀t:T,t.size≤1099511627776→Ev 48 [enc t] (.int t.depth):=by
 intro t
 induction t using T.ind with
 |_ k h xs ih=>
  intro hs
  simp only[T.size]at hs
  have hlen:=Zy xs
  unfold Ev
  rw[C,enc,zl5]
  have hl:=J9 (n:=xs.length) (L:=fun i=>W.loop 48 3 [V.int (i:Nat),V.int (ZF (xs.take i):Nat),V.vec .plain (some 3) (Zi xs),V.int xs.length] []) (r:=some (Ex.exit 0,[V.int (ZF xs:Nat)],[]))
   (fun i hi=>by
    have hp:=(ih xs[i] (List.getElem_mem hi) (by have:=size_le (List.getElem_mem hi);omega)).p
    have h1:=zhr hi
    show W.loop _ _ _ _=_
    rw[L,zc5]
    simp only[Zv,ZU hi,ZA,←Zd,hp,Za,Zt]
    rw[Z5 ⟨by omega,by omega⟩]
    rw[h1]
    by_cases hc:ZF (xs.take i)<xs[i].depth
    ·have:max (ZF (xs.take i)) xs[i].depth=xs[i].depth:=by omega
     rw[this]
     simp[bc,gd,hi,hc]
    ·have:max (ZF (xs.take i)) xs[i].depth=ZF (xs.take i):=by omega
     rw[this]
     simp[bc,gd,hi,hc])
   (by show W.loop _ _ _ _=_;rw[L,zc5];simp[bc])
  have hl':W.loop 48 3 [V.int 0,V.int 0,V.vec .plain (some 3) (Zi xs),V.int xs.length] []=some (Ex.exit 0,[V.int (ZF xs:Nat)],[]):=hl
  have hd:=zc1 xs
  simp only[Zv,hl',T.depth,Za,Xv,Ze,Zt,Zj,bc]
  rw[Z5 ⟨by omega,by omega⟩]
  rfl
end Go.Proofs.SZ
namespace Go.Proofs.SZ
open Go Go.AM Go.Ama
def zbo(t:T):Res:= .box [.int t.k, .int t.h, .vec .plain (some 3) (Zi t.args)]
theorem zo5(a b u:T)(x:Res):W.round 2 68 3 [.ref 0 0] [enc a,enc b] [zbo u,x, .loop 68 3 [.ref 0 0] .ready none]=some (true,[zbo b,x, .loop 68 3 [.ref 0 0] .ready none]):=by
 rw[Rd]
 conv=>lhs;rw[Zd a,Zd b]
 exact zi4 W _ _ _ _ _ _ _ _ _ x
theorem znj: ∀(n:Nat) (t u:T),t.size≤n→
  W.loop 111 0 [.ref 1 0, .yld 2] [zbo u,zbo t, .loop 68 3 [.ref 0 0] .ready none]=
   some (.exit 0,[],[zbo (if(split t).1=[]then u else(split t).2),zbo (split t).2, .loop 68 3 [.ref 0 0] .ready none]):=by
 intro n
 induction n with
 |zero=>intro t _ h;have:=QB t;omega
 |succ n ih=>
  intro t u h
  have hp:=QB t
  rw[L]
  conv=>lhs;rw[show zbo t= .box [.int t.k, .int t.h, .vec .plain (some 3) (Zi t.args)]from rfl]
  rw[zh2,Zv,zmH,Yh]
  by_cases c1:t.k=1
  ·by_cases c2:t.args.length=2
   ·obtain⟨a,b,hab⟩:=zqD c2
    have hb:=zdW (t:=t) (b:=b) (by rw[hab];simp)
    have g0:ZY (Zi t.args) 0=enc a:=by rw[hab];rfl
    have g1:ZY (Zi t.args) 1=enc b:=by rw[hab];rfl
    have hrd:=zo5 a b u (zbo t)
    have:=ih b b (by omega)
    rw[zi5 c1 hab]
    simp only[c1,c2,decide_true,Zs,g0,g1,ZA,←Zd,Bool.true_and,show decide ((0:Int)<((2:Nat):Int))=true from rfl,show decide ((1:Int)<((2:Nat):Int))=true from rfl,Z9,zhs,zfN]
    have hbt:zbo t= .box [.int 1, .int t.h, .vec .plain (some 3) (Zi t.args)]:=by unfold zbo;rw[c1]
    rw[hbt]at hrd
    rw[hrd,Zb]
    simp only[Bool.not_true,Zl]
    have hget: ∀{R:Type} (K:Res→Option R),Z6 [zbo b,Res.box [V.int 1,V.int t.h,V.vec .plain (some 3) (Zi t.args)],Res.loop 68 3 [V.ref 0 0] LSt.ready none] 1 K=K (Res.box [V.int 1,V.int t.h,V.vec .plain (some 3) (Zi t.args)]):=fun K=>rfl
    rw[hget,JA]
    have hc:Zo (AM.partOf [V.int 1,V.int t.h,V.vec .plain (some 3) (Zi t.args)] 2 none)= .vec .plain (some 3) (Zi t.args):=rfl
    rw[hc,YG,g1,ZA,hget,JA]
    have h1l:decide ((1:Int)<((Zi t.args).length:Int))=true:=by rw[Zv,c2];rfl
    rw[h1l]
    simp only[List.length_cons,List.length_nil,Nat.zero_add,Nat.reduceAdd,Nat.le_refl,decide_true,Bool.and_self,Z9]
    have hset:List.set [zbo b,Res.box [V.int 1,V.int t.h,V.vec .plain (some 3) (Zi t.args)],Res.loop 68 3 [V.ref 0 0] LSt.ready none] 1
      (Res.box (setCells [V.int 1,V.int t.h,V.vec .plain (some 3) (Zi t.args)] 0 [V.int b.k,V.int b.h,V.vec .plain (some 3) (Zi b.args)]))=[zbo b,zbo b, .loop 68 3 [.ref 0 0] .ready none]:=rfl
    rw[hset,this]
    simp only[if_neg (List.cons_ne_nil a (split b).1)]
    by_cases c:(split b).1=[]
    ·have hsb:(split b).2=b:=by
      by_cases c':b.k=1∧b.args.length=2
      ·obtain⟨a',b',hab'⟩:=zqD c'.2
       rw[zi5 c'.1 hab']at c;cases c
      ·rw[zdX c']
     rw[if_pos c,hsb]
    ·rw[if_neg c]
   ·rw[zdX fun c=>c2 c.2]
    simp only[c1,c2,decide_true,decide_false,Zs,Zl,if_true]
    rw[←c1]
    rfl
  ·rw[zdX fun c=>c1 c.1]
   simp only[c1,decide_false,Zl,if_true]
   rfl
theorem zo6(t:T):Ev 68 [enc t] (enc (split t).2):=by
 unfold Ev
 have h:=znj t.size t t (Nat.le_refl _)
 have hlast:(if(split t).1=[]then t else(split t).2)=(split t).2:=by
  by_cases c':t.k=1∧t.args.length=2
  ·obtain⟨a',b',hab'⟩:=zqD c'.2
   rw[zi5 c'.1 hab',if_neg (List.cons_ne_nil _ _)]
  ·rw[zdX c',if_pos rfl]
 rw[hlast]at h
 have hc:W.call 111 [.yld 2, .ref 1 0] [zbo t, .box [.int t.k, .int t.h, .vec .plain (some 3) (Zi t.args)], .loop 68 3 [.ref 0 0] .ready none]=
   some (.ret (.tup []),[zbo (split t).2,zbo (split t).2, .loop 68 3 [.ref 0 0] .ready none]):=by
  rw[C,zl9]
  have h':W.loop 111 0 [V.ref 1 0,V.yld 2] [zbo t,Res.box [V.int t.k,V.int t.h,V.vec .plain (some 3) (Zi t.args)], .loop 68 3 [.ref 0 0] .ready none]=_:=h
  rw[h',Zb,zb7]
  rfl
 rw[C]
 conv=>lhs;rw[Zd]
 have hpis:W.call 88 [V.agg [V.int t.k,V.int t.h,V.vec .plain (some 3) (Zi t.args)]] [Res.box [V.int t.k,V.int t.h,V.vec .plain (some 3) (Zi t.args)]]=
   some (.ret (V.fn 111 [] [V.ref 1 0]),[zbo t,Res.box [V.int t.k,V.int t.h,V.vec .plain (some 3) (Zi t.args)]]):=by
  rw[C,zo3];rfl
 rw[zne,hpis,Zb,Zm,zl1]
 have hc':W.call 111 ([]++[V.yld (List.length [zbo t,Res.box [V.int t.k,V.int t.h,V.vec .plain (some 3) (Zi t.args)]])]++[V.ref 1 0])
   ([zbo t,Res.box [V.int t.k,V.int t.h,V.vec .plain (some 3) (Zi t.args)]]++[Res.loop 68 3 [V.ref 0 0] LSt.ready none])=_:=hc
 rw[hc',Zb,Zm]
 have hfin:gd (below 0 (enc (split t).2)&&Zu 0 []) (some (Out.ret (enc (split t).2),([]:St)))=some (Out.ret (enc (split t).2),[]):=by
  rw[Q4];rfl
 have hfin':=hfin
 rw[Zd (split t).2]at hfin'
 rw[Zd (split t).2]
 exact hfin'
theorem zkp(t:T):Ev 32 [enc t] (.bool (decide ((split t).2.k=0))):=by
 unfold Ev
 rw[C,Zd,znd,←Zd,(zo6 t).p]
 simp only[Zb,ZA,Yh]
end Go.Proofs.SZ
namespace Go.Proofs.SZ
open Go Go.AM Go.Ama
theorem zo7(t:T):Ev 120 [enc t] (.bool (decide (t.k=1)||decide (t.k=3))):=by
 unfold Ev
 rw[C,Zd,zl8,Yh,Yh]
 cases decide (t.k=1)<;>simp[bc]
section
variable{σ:Type}{x:σ→Res}{nx:σ→σ}{f key:Nat}{vals:List V}{g:Int→T→Bool}{b1 b2:Res}
theorem zqF(hr: ∀(i:Int) (t:T) (s:σ),W.round 1 f key vals [.int i,enc t] [x s, .loop f key vals .ready none]=some (if g i t=true then(true,[x (nx s), .loop f key vals .ready none])else(false,[b1,b2]))):
  ∀(t:T) (i:Int) (s:σ),0≤i→i+t.size≤4611686018427387904→W.call 101 [enc t, .int i, .yld 1] [x s, .loop f key vals .ready none]=
   some (if allW g i t=true then(.ret (.bool true),[x (iter nx t.size s), .loop f key vals .ready none])else(.ret (.bool false),[b1,b2])):=by
 intro t
 induction t using T.ind with
 |_ k h xs ih=>
  intro i s hi hs
  simp only[T.size]at hs
  have hlen:=Zy xs
  rw[C]
  simp only[enc]
  rw[znc,zhs,zfN]
  have hr0:=hr i (.mk k h xs) s
  simp only[enc]at hr0
  rw[hr0]
  cases hg:g i (.mk k h xs)with
  |false=>
   simp only[allW,hg,Bool.false_and,Zb]
   rfl
  |true=>
   have hl: ∀(d j:Nat) (s:σ),j+d=xs.length→W.loop 101 4 [V.int (j:Nat),V.yld 1,V.loc false (some 3) (V.agg [V.int k,V.int h,V.vec .plain (some 3) (Zi xs)]),V.int i,V.vec .plain (some 3) (Zi xs),V.int xs.length] [x s, .loop f key vals .ready none]=
     some (if XJ g i (decide (k=1)||decide (k=3)) (xs.drop j)=true then(Ex.exit 0,[],[x (iter nx (sizes (xs.drop j)) s), .loop f key vals .ready none])else(Ex.ret,[V.bool false],[b1,b2])):=by
    intro d
    induction d with
    |zero=>
     intro j s hj
     have:j=xs.length:=by omega
     subst this
     have hlt:decide ((xs.length:Int)<xs.length)=false:=by simp
     rw[L,zds,hlt,List.drop_length]
     rfl
    |succ d ihd=>
     intro j s hj
     have hjl:j<xs.length:=by omega
     have hsz:=size_le (List.getElem_mem hjl)
     have hlt:decide ((j:Int)<xs.length)=true:=by simp;omega
     have h0:decide ((0:Int)≤j)=true:=by simp
     have hb:Zq W 120 [V.agg [V.int k,V.int h,V.vec .plain (some 3) (Zi xs)]]=some (.bool (decide (k=1)||decide (k=3))):=(zo7 (.mk k h xs)).p
     have hne:decide ((j:Int)=IntKind.i64.wrap ((xs.length:Int)-1))=decide (j+1=xs.length):=by
      rw[Z5 ⟨by omega,by omega⟩]
      by_cases c:j+1=xs.length<;>simp[c]<;>omega
     have step: ∀i':Int,0≤i'→i'+xs[j].size≤4611686018427387904→XJ g i (decide (k=1)||decide (k=3)) (xs.drop j)=(allW g i' xs[j]&&XJ g i (decide (k=1)||decide (k=3)) (xs.drop (j+1)))→
       (Za (W.call 101 [enc xs[j],V.int i',V.yld 1] [x s, .loop f key vals .ready none]) fun r6=>
        Zk r6.fst (fun v7=>Zn v7 fun b8=>bc (!b8) (some (Ex.ret,[V.bool false],r6.snd))
         (W.loop 101 4 [V.int (IntKind.i64.wrap ((j:Nat)+1)),V.yld 1,V.loc false (some 3) (V.agg [V.int k,V.int h,V.vec .plain (some 3) (Zi xs)]),V.int i,V.vec .plain (some 3) (Zi xs),V.int xs.length] r6.snd)) fun p9=>none)=
       some (if XJ g i (decide (k=1)||decide (k=3)) (xs.drop j)=true then(Ex.exit 0,[],[x (iter nx (sizes (xs.drop j)) s), .loop f key vals .ready none])else(Ex.ret,[V.bool false],[b1,b2])):=by
      intro i' hi' hs' he
      rw[ih xs[j] (List.getElem_mem hjl) i' s hi' hs',Zb,he]
      cases allW g i' xs[j]with
      |false=>simp only[Bool.false_and];rfl
      |true=>
       simp only[if_true,Zm,Zw,Bool.not_true,Zl,Bool.true_and]
       rw[Z5 ⟨by omega,by omega⟩]
       have:=ihd (j+1) (iter nx xs[j].size s) (by omega)
       rw[show((j:Nat):Int)+1=((j+1:Nat):Int)from rfl,this]
       have:sizes (xs.drop j)=xs[j].size+sizes (xs.drop (j+1)):=by rw[List.drop_eq_getElem_cons hjl];rfl
       rw[this,zng]
     rw[L,zds]
     simp only[Zv,hlt,h0,Zs,Z9,Bool.and_self,ZU hjl,ZA,←Zd,hb,Zb,Zw,Yh,hne]
     by_cases hlast:j+1=xs.length
     ·have hd:xs.drop j=[xs[j]]:=by rw[List.drop_eq_getElem_cons hjl,hlast,List.drop_length]
      have hd':xs.drop (j+1)=[]:=by rw[hlast,List.drop_length]
      simp only[hlast,decide_true,Zs]
      have hw:IntKind.i64.wrap (i+1)=i+1:=Z5 ⟨by omega,by omega⟩
      cases hbb:(decide (k=1)||decide (k=3))with
      |true=>
       simp only[Zs,hw]
       have:=step (i+1) (by omega) (by omega) (by rw[hd,hd',hbb];simp[XJ])
       rw[hbb]at this
       exact this
      |false=>
       simp only[Zl]
       have:=step i hi (by omega) (by rw[hd,hd',hbb];simp[XJ])
       rw[hbb]at this
       exact this
     ·have hd:XJ g i (decide (k=1)||decide (k=3)) (xs.drop j)=(allW g i xs[j]&&XJ g i (decide (k=1)||decide (k=3)) (xs.drop (j+1))):=by
       have h2:j+1<xs.length:=by omega
       rw[List.drop_eq_getElem_cons hjl,List.drop_eq_getElem_cons h2]
       simp only[XJ]
      simp only[hlast,decide_false,Zl]
      have:=step i hi (by omega) hd
      cases hbb:(decide (k=1)||decide (k=3))with
      |true=>rw[hbb]at this;exact this
      |false=>rw[hbb]at this;exact this
   have h1:=hl xs.length 0 (nx s) (by omega)
   simp only[if_true,Zb,Bool.not_true,Zl,Zv]
   have h1':W.loop 101 4 [V.int 0,V.yld 1,V.loc false (some 3) (V.agg [V.int k,V.int h,V.vec .plain (some 3) (Zi xs)]),V.int i,V.vec .plain (some 3) (Zi xs),V.int xs.length] [x (nx s), .loop f key vals .ready none]=
     some (if XJ g i (decide (k=1)||decide (k=3)) xs=true then(Ex.exit 0,[],[x (iter nx (sizes xs) (nx s)), .loop f key vals .ready none])else(Ex.ret,[V.bool false],[b1,b2])):=by
    rw[List.drop_zero]at h1;exact h1
   rw[h1',Zb]
   have hsz:iter nx (T.mk k h xs).size s=iter nx (sizes xs) (nx s):=by
    simp only[T.size]
    rw[zng]
    rfl
   simp only[allW,hg,Bool.true_and,hsz]
   cases XJ g i (decide (k=1)||decide (k=3)) xs<;>rfl
theorem zi7(hr: ∀(i:Int) (t:T) (s:σ),W.round 1 f key vals [.int i,enc t] [x s, .loop f key vals .ready none]=some (if g i t=true then(true,[x (nx s), .loop f key vals .ready none])else(false,[b1,b2])))
  (t:T) (s:σ) (hs:t.size≤1099511627776):W.call 100 [.yld 1, .cptr (some 3) (enc t)] [x s, .loop f key vals .ready none]=
   some (.ret (.tup []),if allW g 0 t=true then[x (iter nx t.size s), .loop f key vals .ready none]else[b1,b2]):=by
 have hw:=zqF hr t 0 s (by omega) (by omega)
 rw[C]
 rw[Zd]at hw⊢
 rw[zi3,hw,Zb]
 cases allW g 0 t<;>rfl
end
theorem zo8(t:T)(hs:t.size≤1099511627776):Ev 49 [enc t] (.int t.size):=by
 unfold Ev
 have hr: ∀(i:Int) (t:T) (s:Int),W.round 1 49 3 [.ref 0 0] [.int i,enc t] [.box [.int s], .loop 49 3 [.ref 0 0] .ready none]=
   some (if(fun _ _=>true:Int→T→Bool) i t=true then(true,[.box [.int (IntKind.i64.wrap (s+1))], .loop 49 3 [.ref 0 0] .ready none])else(false,[.dead, .dead])):=by
  intro i t s
  rw[Rd,Zd,zi2]
  rfl
 have hn:=zi7 (x:=fun s:Int=> .box [.int s]) (nx:=fun s=>IntKind.i64.wrap (s+1)) (g:=fun _ _=>true) (b1:= .dead) (b2:= .dead) hr t 0 hs
 have hall: ∀(t:T) (i:Int),allW (fun _ _=>true) i t=true:=by
  intro t
  induction t using T.ind with
  |_ k h xs ih=>
   intro i
   simp only[allW,Bool.true_and]
   generalize(decide (k=1)||decide (k=3))=b
   have: ∀l:List T,(∀a∈l,∀i,allW (fun _ _=>true) i a=true)→XJ (fun _ _=>true) i b l=true:=by
    intro l
    induction l with
    |nil=>intro _;rfl
    |cons a l ihl=>
     intro h
     cases l with
     |nil=>simp only[XJ];exact h a (by simp) _
     |cons u l=>simp only[XJ,h a (by simp),Bool.true_and];exact ihl fun a ha=>h a (by simp[ha])
   exact this xs ih
 have hit: ∀(n:Nat) (s:Int),0≤s→s+n≤4611686018427387904→iter (fun s=>IntKind.i64.wrap (s+1)) n s=s+n:=by
  intro n
  induction n with
  |zero=>intro s _ _;simp[iter]
  |succ n ih=>
   intro s h0 h1
   simp only[iter]
   rw[Z5 ⟨by omega,by omega⟩,ih _ (by omega) (by omega)]
   omega
 rw[hall,if_pos rfl]at hn
 rw[hit t.size 0 (by omega) (by omega)]at hn
 rw[C]
 rw[Zd]at hn⊢
 rw[zna,C,zfQ,Zb,Zm,zl1]
 have hn':W.call 100 ([]++[V.yld (List.length [Res.box [V.int 0]])]++[V.cptr (some 3) (V.agg [V.int t.k,V.int t.h,V.vec .plain (some 3) (Zi t.args)])]) ([Res.box [V.int 0]]++[Res.loop 49 3 [V.ref 0 0] LSt.ready none])=_:=hn
 rw[hn',Zb]
 simp only[Int.zero_add]
 rfl
theorem zo9(k h:Int)(xs:List V):Ev 52 [.agg [.int k, .int h, .vec .plain (some 3) xs]] (.bool (zaL k h xs.length)):=by
 unfold Ev
 rw[C,zo2]
 simp only[zrW,zrX,zmH]
 simp only[Yh,zaL]
 by_cases k0:k=0
 ·subst k0
  simp only[decide_true,Zs,if_true]
  cases decide (h=0)<;>rfl
 by_cases k1:k=1
 ·subst k1
  simp only[show(1:Int)≠0 by decide,decide_true,decide_false,Zs,Zl,if_true,if_false]
  cases decide (h=0)<;>rfl
 by_cases k3:k=3
 ·subst k3
  simp only[show(3:Int)≠0 by decide,show(3:Int)≠1 by decide,decide_true,decide_false,Zs,Zl,if_true,if_false]
  cases decide (h=0)<;>rfl
 simp only[k0,k1,k3,decide_false,Zl,if_false,ge_iff_le]
 cases decide (0≤k)<;>cases decide (k<7)<;>simp[bc]
theorem zqG(i k h:Int)(xs:List T):Ev 51 [.int i, .agg [.int k, .int h, .vec .plain (some 3) (Zi xs)]] (.bool (zaL k h xs.length)):=by
 unfold Ev
 have:=(zo9 k h (Zi xs)).p (by simp[Zh,below])
 rw[Zv]at this
 rw[C,zl6,this]
 rfl
end Go.Proofs.SZ
namespace Go.Proofs.SZ
open Go Go.AM Go.Ama
def ztB(g:Nat)(a b:List V)(p:Int→T→Bool):Prop:=
 (cfg.pure g=true∧ ∀i t,Zq W g (a++[.int i,enc t]++b)=some (.bool (p i t)))∨
 (cfg.pure g=false∧ ∀i t st,W.call g (a++[.int i,enc t]++b) st=some (.ret (.bool (p i t)),st))
theorem zsh{g:Nat}{a b:List V}{p:Int→T→Bool}(hg:ztB g a b p)(t:T)(hs:t.size≤1099511627776):W.call 50 [enc t, .fn g a b] []=some (.ret (.bool (allW p 0 t)),[]):=by
 have hr: ∀(i:Int) (t:T) (s:Unit),W.round 1 50 4 [.ref 0 0, .cptr none (.fn g a b)] [.int i,enc t] [(fun _=> .box [.bool false]:Unit→Res) s, .loop 50 4 [.ref 0 0, .cptr none (.fn g a b)] .ready none]=
   some (if p i t=true then(true,[(fun _=> .box [.bool false]:Unit→Res) ((fun s=>s) s), .loop 50 4 [.ref 0 0, .cptr none (.fn g a b)] .ready none])else(false,[.box [.bool false], .loop 50 4 [.ref 0 0, .cptr none (.fn g a b)] .done (some .ret)])):=by
  intro i t s
  rw[Rd,Zd,zj2]
  rcases hg with⟨hp,hm⟩|⟨hp,hm⟩
  ·have hm:=hm i t
   rw[Zd]at hm
   rw[hp,Zs,hm,Zb,Zw]
   cases p i t<;>rfl
  ·have hm:=hm i t
   rw[Zd]at hm
   rw[hp,Zl,hm,Zb,Zm,Zw]
   cases p i t<;>rfl
 have hn:=zi7 (x:=fun _:Unit=> .box [.bool false]) (nx:=fun s=>s) (g:=p) hr t () hs
 rw[C]
 rw[Zd]at hn
 conv=>lhs;rw[Zd]
 rw[zo1,C,zfQ,Zb,Zm,zl1]
 have hn':W.call 100 ([]++[V.yld (List.length [Res.box [V.bool false]])]++[V.cptr (some 3) (V.agg [V.int t.k,V.int t.h,V.vec .plain (some 3) (Zi t.args)])]) ([Res.box [V.bool false]]++[Res.loop 50 4 [V.ref 0 0,V.cptr none (V.fn g a b)] LSt.ready none])=_:=hn
 rw[hn',Zb]
 cases allW p 0 t<;>rfl
theorem Qb(t:T)(hs:t.size≤1099511627776):Ev 24 [enc t] (.bool (may t)):=by
 unfold Ev
 have hg:ztB 51 [] [] (fun _ t=>ztd t):= .inl ⟨rfl,fun i t=>by
  rw[Zd];exact(zqG i t.k t.h t.args).p (by simp[Zh,below])⟩
 have ha:=zsh hg t hs
 rw[zsf]at ha
 rw[C,Zd,zo0,←Zd,(zni t hs).p,(zo8 t hs).p,ha]
 simp only[Zb,Yd,Zm,Zw,may]
 have e1:decide ((t.depth:Int)≤60)=decide (t.depth≤60):=decide_eq_decide.2 (by omega)
 have e2:decide ((t.size:Int)≤4000)=decide (t.size≤4000):=decide_eq_decide.2 (by omega)
 rw[e1,e2]
 cases decide (t.depth≤60)<;>cases decide (t.size≤4000)<;>simp[bc]
end Go.Proofs.SZ
namespace Go.Ama
open Go.AM (T)
structure D where
 name:Bytes
 t:T
structure PS where
 l:List Tok
 s:List D
 e:Int
abbrev T0:T:= .mk 0 0 []
abbrev typ:Bytes:=[116,121,112,101]
def PS.fail(n:Int)(s:PS):PS:=if s.e=0 then {s with e:=n}else s
def PS.is(c:Bytes)(s:PS):Bool:=decide (s.e=0)&&match s.l with|[]=>false|t::_=>decide (t.1=1)&&decide (t.2=c)
def PS.named(s:PS):Bool:=decide (s.e=0)&&match s.l with|[]=>false|t::_=>decide (t.1=0)
def PS.token(b:Bool)(s:PS):Bytes×PS:=if b then match s.l with|[]=>([],s)|t::r=>(t.2,{s with l:=r})else([],s.fail 8)
def PS.take(c:Bytes)(s:PS):PS:=(s.token (s.is c)).2
def PS.name(s:PS):Bytes×PS:=s.token s.named
def zj5(x:Bytes):List Bytes→Option Nat
 |[]=>none
 |y::l=>if y=x then some 0 else(zj5 x l).map (· +1)
def idx(x:Bytes):List D→Option Nat
 |[]=>none
 |d::l=>if d.name=x then some 0 else(idx x l).map (· +1)
def PS.head(x:Bytes)(bs:List Bytes)(s:PS):T×PS:=
 match zj5 x bs with
 |some i=>(.mk 4 i [],s)
 |none=>
  match idx x s.s with
  |none=>(T0,s.fail 2)
  |some i=>(.mk (if(split ((s.s.map (·.t)).getD i T0)).2.k=0 then 2 else 5) i [],s)
def PS.alone(s:PS):PS:=if s.named||s.is [40]then s.fail 8 else s
section
variable(term:List Bytes→PS→T×PS)
def PS.inner(bs:List Bytes)(s:PS):T×PS:=let r:=term bs (s.take [40]);(r.1,r.2.take [41])
def PS.atom(bs:List Bytes)(s:PS):T×PS:=
 if s.is [40]then s.inner term bs
 else
  let r:=s.name
  if r.1=typ then(T0,r.2.fail 8)else r.2.head r.1 bs
def PS.args(bs:List Bytes):Nat→PS→List T×PS
 |0,s=>([],s)
 |m+1,s=>if s.named||s.is [40]then
   let r:=s.atom term bs
   let q:=PS.args bs m r.2
   (r.1::q.1,q.2)
  else([],s)
def PS.atoms(bs:List Bytes)(s:PS):T×PS:=
 if s.is [40]then
  let r:=s.inner term bs
  (r.1,r.2.alone)
 else
  let r:=s.name
  if r.2.e≠0 then(T0,r.2)
  else if r.1=typ then(T0,r.2.alone)
  else
   let h:=r.2.head r.1 bs
   let q:=PS.args term bs h.2.l.length h.2
   (.mk h.1.k h.1.h q.1,q.2)
end
def PS.term:Nat→List Bytes→PS→T×PS
 |0,_,s=>(T0,s.fail 4)
 |n+1,bs,s=>
  if s.is [123]then
   let x:=(s.take [123]).name
   let a:=PS.term n bs (x.2.take [58])
   let b:=PS.term n (x.1::bs) (a.2.take [125])
   (.mk 1 0 [a.1,b.1],b.2)
  else if s.is [91]then
   let x:=(s.take [91]).name
   let b:=PS.term n (x.1::bs) (x.2.take [93])
   (.mk 3 0 [b.1],b.2)
  else s.atoms (PS.term n) bs
def PS.whole(s:PS):T×PS:=
 let r:=s.term 120 []
 (r.1,if may r.1 then r.2 else r.2.fail 4)
def nameOK(x:Bytes):Bool:=decide (x.length≠0)&&decide (x.length≤40)&&decide (x.head? ≠some 95)&&decide (x≠typ)&&decide (Xq x=some [(0,x)])
def zco(b:Bytes):List Tok×Int:=if b.length>20000 then([],4)else match Xq b with|some l=>(l,0)|none=>([],8)
def zdu(b:Bytes)(sig:List D):T×Int:=
 let x:=zco b
 let r:=(PS.mk x.1 sig x.2).whole
 let s:=if r.2.l≠ []then r.2.fail 8 else r.2
 if s.e≠0 then(T0,s.e)else(r.1,0)
end Go.Ama
namespace Go.Ama
open Go Go.AM
def Yu(d:Int):Tok:=(0,95::Lib.decDigits d.toNat)
def Xo(c:UInt8):Tok:=(1,[c])
def zoA(k:Int):Bool:=k==4||k==2||k==5
def Xc(sig:List D)(k h:Int)(d:Nat):Option Tok:=
 if k=4∧h<d then some (Yu (d-1-h))
 else if(k=2∨k=5)∧h<sig.length then(sig[h.toNat]?).map fun d=>(0,d.name)
 else none
def Jp(t:T):Bool:=decide (t.args.length=0)&&zoA t.k
section
variable(sig:List D)
mutual
def words:T→Nat→List Tok
 | .mk k h xs,d=>if k=0 then[(0,typ)]else if k=1 then wPi xs d else if k=3 then znk xs d else(Xc sig k h d).toList++YI xs d
def YI:List T→Nat→List Tok
 |[],_=> []
 |t::l,d=>(bif Jp t then words t d else Xo 40::words t d++[Xo 41])++YI l d
def wPi:List T→Nat→List Tok
 |a::b::_,d=>Xo 123::Yu d::Xo 58::words a d++Xo 125::words b (d+1)
 |_,_=> []
def znk:List T→Nat→List Tok
 |a::_,d=>Xo 91::Yu d::Xo 93::words a (d+1)
 |_,_=> []
end
mutual
def okW:T→Nat→Bool
 | .mk k h xs,d=>if k=0 then true else if k=1 then ztX xs d else if k=3 then zp8 xs d else(Xc sig k h d).isSome&&Jq xs d
def Jq:List T→Nat→Bool
 |[],_=>true
 |t::l,d=>okW t d&&Jq l d
def ztX:List T→Nat→Bool
 |a::b::_,d=>okW a d&&okW b (d+1)
 |_,_=>true
def zp8:List T→Nat→Bool
 |a::_,d=>okW a (d+1)
 |_,_=>true
end
end
def Jr(t:T)(sig:List D):Bytes×Int:=
 if may t then(if okW sig t 0 then(text (words sig t 0),0)else([],2))else([],1)
def ztY(x b:Bytes):Bytes:=x++[32,58,32]++b++[46,10]
def zc7(x:Bytes)(l:List D):Nat:=(l.filter fun d=>decide (d.name=x)).length
def XF(sig:List D):Bytes→List D→Bytes×Int
 |all,[]=>(all,0)
 |all,d::l=>
  if nameOK d.name&&decide (zc7 d.name sig≤1)then
   (if(Jr d.t sig).2=0 then XF sig (all++ztY d.name (Jr d.t sig).1) l else([],(Jr d.t sig).2))
  else([],1)
def zdv(sig:List D):Bytes×Int:=XF sig [] sig
theorem zgD(sig:List D): ∀(l:List D) (all:Bytes),(XF sig all l).2=0→ ∀d∈l,nameOK d.name=true∧zc7 d.name sig≤1
 |[],_,_,d,hd=>by cases hd
 |d::l,all,h,e,he=>by
  simp only[XF]at h
  split at h
  ·rename_i hn
   simp only[Bool.and_eq_true,decide_eq_true_eq]at hn
   split at h
   ·rcases List.mem_cons.1 he with rfl|he
    ·exact hn
    ·exact zgD sig l _ h e he
   ·rename_i hs;exact absurd h hs
  ·cases h
theorem znl: ∀{l:List D} {i k:Nat} (hi:i<l.length) (hk:k<i),(l[i]).name=(l[k]'(by omega)).name→2≤zc7 (l[i]).name l
 |d::l,i+1,0,hi,_,h=>by
  simp only[List.getElem_cons_succ,List.getElem_cons_zero]at h⊢
  have hi':i<l.length:=by simpa using hi
  unfold zc7
  rw[List.filter_cons_of_pos (by simp[h])]
  have:l[i]∈l.filter fun d=>decide (d.name=(l[i]).name):=List.mem_filter.2 ⟨List.getElem_mem ..,by simp⟩
  have:=List.length_pos_of_mem this
  simp only[List.length_cons]
  omega
 |d::l,i+1,k+1,hi,hk,h=>by
  simp only[List.getElem_cons_succ]at h⊢
  have:=znl (l:=l) (i:=i) (k:=k) (by simpa using hi) (by omega) h
  unfold zc7 at this⊢
  rw[List.filter_cons]
  split
  ·simp only[List.length_cons];omega
  ·exact this
end Go.Ama
namespace Go.Ama
open Go Go.AM
theorem JD: ∀a b:List Tok,Yi (a++b)=Yi a+Yi b
 |[],b=>by simp[Yi]
 |(_,s)::a,b=>by simp only[List.cons_append,Yi,JD a b];omega
theorem znm{n:Nat}(h:n<100):(Lib.decDigits n).length≤2:=by
 rw[Lib.decDigits]
 split
 ·simp
 ·rw[Lib.decDigits,dif_pos (by omega)]
  simp
theorem zff{n:Int}(h:n<100):(Yu n).2.length≤100:=by
 have:=znm (n:=n.toNat) (by omega)
 simp only[Yu,List.length_cons]
 omega
theorem zqH{sig:List D}(hs: ∀d∈sig,d.name.length≤100){k h:Int}{d:Nat}(hd:d≤99)(hh:0≤h):Yi (Xc sig k h d).toList≤100:=by
 unfold Xc
 split
 ·have:=zff (n:=d-1-h) (by omega)
  simp only[Option.toList_some,Yi]
  exact this
 ·split
  ·cases hx:sig[h.toNat]? with
   |none=>simp[Yi]
   |some x=>have:=hs x (List.mem_of_getElem? hx);simpa[Yi]using this
  ·simp[Yi]
theorem zau{sig:List D}(t:T): ∀d,(words sig t d).length+2≤9*t.size:=by
 induction t using T.ind with
 |_ k h xs ih=>
  intro d
  have hl: ∀l:List T,(∀a∈l,∀d,(words sig a d).length+2≤9*a.size)→ ∀d,(YI sig l d).length≤9*sizes l:=by
   intro l
   induction l with
   |nil=>intro _ d;simp[YI]
   |cons a l ihl=>
    intro hh d
    have h1:=hh a (List.mem_cons_self ..) d
    have h2:=ihl (fun b hb=>hh b (List.mem_cons_of_mem _ hb)) d
    simp only[YI,sizes,List.length_append]
    cases Jp a<;>simp only[cond_true,cond_false,List.length_cons,List.length_append,List.length_nil]<;>omega
  unfold words
  simp only[T.size]
  split
  ·simp;omega
  ·split
   ·match xs,ih with
    |[],_=>simp[wPi];omega
    |[_],_=>simp[wPi];omega
    |a::b::r,ih=>
     have h1:=ih a (by simp) d
     have h2:=ih b (by simp) (d+1)
     simp only[wPi,sizes,List.length_cons,List.length_append]
     omega
   ·split
    ·match xs,ih with
     |[],_=>simp[znk];omega
     |a::r,ih=>
      have h1:=ih a (by simp) (d+1)
      simp only[znk,sizes,List.length_cons]
      omega
    ·have h1:=hl xs ih d
     have h2:(Xc sig k h d).toList.length≤1:=by cases Xc sig k h d<;>simp
     simp only[List.length_append]
     omega
theorem zfR{sig:List D}(hs: ∀d∈sig,d.name.length≤100)(t:T): ∀d,Y5 t=true→d+t.depth≤100→Yi (words sig t d)+2≤110*t.size:=by
 induction t using T.ind with
 |_ k h xs ih=>
  intro d hn hd
  have hl: ∀l:List T,(∀a∈l,∀d,Y5 a=true→d+a.depth≤100→Yi (words sig a d)+2≤110*a.size)→ ∀d,Y6 l=true→d+ZF l≤100→Yi (YI sig l d)≤110*sizes l:=by
   intro l
   induction l with
   |nil=>intro _ d _ _;simp[YI,Yi]
   |cons a l ihl=>
    intro hh d hn hd
    simp only[Y6,Bool.and_eq_true]at hn
    simp only[ZF]at hd
    have h1:=hh a (List.mem_cons_self ..) d hn.1 (by omega)
    have h2:=ihl (fun b hb=>hh b (List.mem_cons_of_mem _ hb)) d hn.2 (by omega)
    simp only[YI,sizes,JD]
    cases Jp a<;>simp only[cond_true,cond_false,List.cons_append,Xo,Yi,JD,List.length_cons,List.length_nil]<;>omega
  unfold words
  simp only[Y5,Bool.and_eq_true]at hn
  simp only[T.depth]at hd
  simp only[T.size]
  split
  ·simp[Yi,typ];omega
  ·rename_i k0
   split
   ·match xs,ih,hn,hd with
    |[],_,_,_=>simp[wPi,Yi];omega
    |[_],_,_,_=>simp[wPi,Yi];omega
    |a::b::r,ih,hn,hd=>
     simp only[Y6,Bool.and_eq_true]at hn
     simp only[ZF]at hd
     have h1:=ih a (by simp) d hn.2.1 (by omega)
     have h2:=ih b (by simp) (d+1) hn.2.2.1 (by omega)
     have h3:=zff (n:=(d:Int)) (by omega)
     simp only[wPi,sizes,Yu,Yi,JD,Xo,List.length_cons,List.length_nil]at h3⊢
     omega
   ·rename_i k1
    split
    ·match xs,ih,hn,hd with
     |[],_,_,_=>simp[znk,Yi];omega
     |a::r,ih,hn,hd=>
      simp only[Y6,Bool.and_eq_true]at hn
      simp only[ZF]at hd
      have h1:=ih a (by simp) (d+1) hn.2.1 (by omega)
      have h3:=zff (n:=(d:Int)) (by omega)
      simp only[znk,sizes,Yu,Yi,JD,Xo,List.length_cons,List.length_nil]at h3⊢
      omega
    ·rename_i k3
     have h0:0≤h:=by
      have:=hn.1
      unfold zaL at this
      rw[if_neg k0,if_neg k1,if_neg k3]at this
      simp only[Bool.and_eq_true,decide_eq_true_eq]at this
      exact this.2.2
     have h1:=hl xs ih d hn.2 (by omega)
     have h2:=zqH hs (k:=k) (h:=h) (d:=d) (by omega) h0
     rw[JD]
     omega
end Go.Ama
namespace Go.Ama
open Go Go.AM
def Jy(d:D):V:= .agg [.str (ba d.name), .int d.t.k, .int d.t.h, .vec .plain (some 3) (Zi d.t.args)]
def Z2(l:List D):List V:=l.map Jy
def zal(l:List Bytes):List V:=l.map fun b=> .str (ba b)
@[simp] theorem ZX(l:List D):(Z2 l).length=l.length:=by simp[Z2]
@[simp] theorem zuy:Z2 []=[]:=rfl
@[simp] theorem zdw(l:List Bytes):(zal l).length=l.length:=by simp[zal]
theorem znn(a b:List Bytes):zal (a++b)=zal a++zal b:=by simp[zal]
theorem XR{l:List D}{i:Nat}(h:i<l.length):ZY (Z2 l) (i:Int)=Jy l[i]:=by
 simp[ZY,Z2,List.getD_eq_getElem?_getD,List.getElem?_map,h]
theorem zqI{l:List Bytes}{i:Nat}(h:i<l.length):ZY (zal l) (i:Int)= .str (ba l[i]):=by
 simp[ZY,zal,List.getD_eq_getElem?_getD,List.getElem?_map,h]
theorem zi8(n:Nat)(d:D):below n (Jy d)=true:=by simp[Jy,below,Zh,QM]
theorem ZD(n:Nat): ∀l:List D,Zh n (Z2 l)=true
 |[]=>rfl
 |d::l=>by
  have:=ZD n l
  simp only[Z2]at this
  simp[Z2,Zh,zi8,this]
theorem zbp{R:Type}(d:D)(K:ByteArray→Int→Int→List V→Option R):Zc (R:=R) [CT.str,CT.int,CT.int,CT.slice (some 3)] (Jy d) K=K (ba d.name) d.t.k d.t.h (Zi d.t.args):=rfl
def YM(m:AM.Mode)(s:PS):Res:= .box [.vec .plain (some 2) (Zx s.l), .vec m (some 4) (Z2 s.s), .int s.e]
end Go.Ama
namespace Go.Proofs.SZ
open Go Go.AM Go.Ama
def YU(m:AM.Mode)(sig:List D)(l:List Tok)(e:Int):Res:= .box [.vec .plain (some 4) (Z2 sig), .vec m (some 2) (Zx l), .int e]
def GF(m:AM.Mode):Prop:=m= .grow∨m= .full
theorem ztf{n:Int}(h0:0≤n)(h1:n<100):Ev 82 [.int n] (.str (ba (Lib.decDigits n.toNat))):=by
 unfold Ev
 rw[Cx 82 _ _ (x:=fun _ args st=>zp3 args st) rfl]
 show gd (decide (0≤n)&&decide (n<100)) _=_
 rw[decide_eq_true h0,decide_eq_true h1]
 rfl
section
variable{sig:List D}{m:AM.Mode}(hm:GF m)
include hm
theorem zfg(l:List Tok)(e:Int)(s:Bytes)(hl:l.length≤1000000):W.call 53 [.ref 0 0, .str (ba s)] [YU m sig l e]=some (.ret (.tup []),[YU .grow sig (l++[(0,s)]) e]):=by
 have hr:roomFor Tryz.prog 84 ((Zx l).length+[V.agg [V.int 0,V.str (ba s)]].length)=true:=zb9 (by simp;omega)
 have hb:YU .grow sig (l++[(0,s)]) e= .box [.vec .plain (some 4) (Z2 sig), .vec .grow (some 2) (Zx l++[V.agg [V.int 0,V.str (ba s)]]), .int e]:=by rw[YU,Jk];rfl
 rw[C,zfb,hb]
 generalize roomFor Tryz.prog 84=R at hr⊢
 rcases hm with rfl|rfl<;>
 ·refine Eq.trans (b:=gd (true&&R ((Zx l).length+[V.agg [V.int 0,V.str (ba s)]].length)) (some (.ret (.tup []),[.box [.vec .plain (some 4) (Z2 sig), .vec .grow (some 2) (Zx l++[V.agg [V.int 0,V.str (ba s)]]), .int e]]))) rfl ?_
  rw[hr]
  rfl
theorem zdx(l:List Tok)(e:Int)(c:UInt8)(hl:l.length≤1000000):W.call 57 [.ref 0 0, .vec .plain none [.str (ba [c])]] [YU m sig l e]=some (.ret (.tup []),[YU .grow sig (l++[Xo c]) e]):=by
 have hr:roomFor Tryz.prog 84 ((Zx l).length+[V.agg [V.int 1,V.str (ba [c])]].length)=true:=zb9 (by simp;omega)
 have hb:YU .grow sig (l++[Xo c]) e= .box [.vec .plain (some 4) (Z2 sig), .vec .grow (some 2) (Zx l++[V.agg [V.int 1,V.str (ba [c])]]), .int e]:=by rw[YU,Jk];rfl
 have h1:W.loop 57 1 [.int 1, .ref 0 0, .vec .plain none [.str (ba [c])], .int 1] [YU .grow sig (l++[Xo c]) e]=some (.exit 0,[],[YU .grow sig (l++[Xo c]) e]):=by
  rw[L,Jo]
  rfl
 have h2:W.loop 57 1 [.int 0, .ref 0 0, .vec .plain none [.str (ba [c])], .int 1] [YU m sig l e]=some (.exit 0,[],[YU .grow sig (l++[Xo c]) e]):=by
  rw[←h1,L,Jo,hb]
  generalize roomFor Tryz.prog 84=R at hr⊢
  generalize W=O
  rcases hm with rfl|rfl<;>
  ·refine Eq.trans (b:=gd (true&&R ((Zx l).length+[V.agg [V.int 1,V.str (ba [c])]].length)) (O.loop 57 1 [.int (IntKind.i64.wrap (0+1)), .ref 0 0, .vec .plain none [.str (ba [c])], .int 1] [.box [.vec .plain (some 4) (Z2 sig), .vec .grow (some 2) (Zx l++[V.agg [V.int 1,V.str (ba [c])]]), .int e]])) rfl ?_
   rw[hr]
   rfl
 rw[C,zee]
 have h3:W.loop 57 1 [.int 0, .ref 0 0, .vec .plain none [.str (ba [c])], .int (([V.str (ba [c])].length:Nat):Int)] [YU m sig l e]=_:=h2
 rw[h3]
 rfl
theorem zdy(l:List Tok)(e:Int)(n:Int)(h0:0≤n)(h1:n<100)(hl:l.length≤1000000):W.call 56 [.ref 0 0, .int n] [YU m sig l e]=some (.ret (.tup []),[YU .grow sig (l++[Yu n]) e]):=by
 have hd:=znm (n:=n.toNat) (by omega)
 have hg:decide (1+(ba (Lib.decDigits n.toNat)).size≤9223372036854775807)=true:=by rw[Xf];exact decide_eq_true (by omega)
 have hs:({data:= #[95]}:ByteArray)++ba (Lib.decDigits n.toNat)=ba (95::Lib.decDigits n.toNat):=zki [95] _
 rw[C,zed,(ztf h0 h1).p,Zb,XZ,hg,Z9,hs,zfg hm l e _ hl]
 rfl
theorem zdz(l:List Tok)(e:Int)(o c:UInt8){g:Nat}{caps:List V}(hp:cfg.pure g=false){m2:AM.Mode}{l2:List Tok}{e2:Int}(hm2:GF m2)
  (hc:W.call g caps [YU .grow sig (l++[Xo o]) e]=some (.ret (.tup []),[YU m2 sig l2 e2])) (hl:l.length≤1000000) (hl2:l2.length≤1000000):
  W.call 54 [.ref 0 0, .str (ba [o]), .str (ba [c]), .fn g [] caps] [YU m sig l e]=some (.ret (.tup []),[YU .grow sig (l2++[Xo c]) e2]):=by
 rw[C,zdl,zdx hm l e o hl]
 show bc (cfg.pure g) _ (Za (W.call g caps [YU .grow sig (l++[Xo o]) e]) _)=_
 rw[hp,Zl,hc]
 show Za (W.call 57 [.ref 0 0, .vec .plain none [.str (ba [c])]] [YU m2 sig l2 e2]) _=_
 rw[zdx hm2 l2 e2 c hl2]
 rfl
theorem zoB(hs:sig.length≤1000)(l:List Tok)(e:Int)(k h:Int)(xs:List T)(d:Nat)(hh:0≤h)(hd:d≤100)(hl:l.length≤1000000):
  ∃m',GF m'∧W.call 59 [.ref 0 0, .agg [.int k, .int h, .vec .plain (some 3) (Zi xs)], .int d] [YU m sig l e]=some (.ret (.tup []),[YU m' sig (l++(Xc sig k h d).toList) (bif (Xc sig k h d).isSome then e else 2)]):=by
 have hfail:W.call 59 [.ref 0 0, .agg [.int k, .int h, .vec .plain (some 3) (Zi xs)], .int d] [YU m sig l e]=some (.ret (.tup []),[YU m sig l 2])→
  Xc sig k h d=none→ ∃m',GF m'∧W.call 59 [.ref 0 0, .agg [.int k, .int h, .vec .plain (some 3) (Zi xs)], .int d] [YU m sig l e]=some (.ret (.tup []),[YU m' sig (l++(Xc sig k h d).toList) (bif (Xc sig k h d).isSome then e else 2)]):=by
  intro h1 h2
  refine⟨m,hm, ?_⟩
  rw[h1,h2]
  simp
 have hname: ∀i:Nat,(hi:i<sig.length)→W.call 53 [.ref 0 0, .str (ba (sig[i]).name)] [YU m sig l e]=some (.ret (.tup []),[YU .grow sig (l++[(0,(sig[i]).name)]) e]):=fun i hi=>zfg hm l e _ hl
 obtain⟨i,rfl⟩:=Int.eq_ofNat_of_zero_le hh
 by_cases h4:k=4
 ·subst h4
  by_cases hlt:(i:Int)<d
  ·have hT:Xc sig 4 i d=some (Yu (d-1-i)):=by unfold Xc;rw[if_pos ⟨rfl,hlt⟩]
   refine⟨.grow, .inl rfl, ?_⟩
   rw[hT,C,XQ,Yh,decide_eq_true rfl,Zs,decide_eq_true hlt,Zs,zck (n:=(d:Int)-1) (by omega) (by omega),zck (n:=(d:Int)-1-i) (by omega) (by omega),zdy hm l e _ (by omega) (by omega) hl]
   rfl
  ·refine hfail ?_ (by unfold Xc;rw[if_neg (by omega),if_neg (by omega)])
   rw[C,XQ,Yh,decide_eq_true rfl,Zs,decide_eq_false hlt]
   rfl
 ·by_cases h2:(k=2∨k=5)∧(i:Int)<sig.length
  ·have hi:i<sig.length:=by omega
   have hT:Xc sig k i d=some (0,(sig[i]).name):=by
    unfold Xc
    rw[if_neg (by omega),if_pos h2,Int.toNat_natCast,List.getElem?_eq_getElem hi]
    rfl
   refine⟨.grow, .inl rfl, ?_⟩
   have hi2:decide ((i:Int)<((Z2 sig).length:Int))=true:=by rw[ZX];exact decide_eq_true h2.2
   have hi3:(decide ((0:Int)≤(i:Int))&&decide ((i:Int)<((Z2 sig).length:Int)))=true:=by rw[hi2,decide_eq_true (by omega)];rfl
   have hx:ZY (Z2 sig) (i:Int)=Jy sig[i]:=XR hi
   have e1: ∀{α:Type} (K:List V→Option α),Z6 [YU m sig l e] 0 (fun x=>Z3 x K)=K [.vec .plain (some 4) (Z2 sig), .vec m (some 2) (Zx l), .int e]:=fun K=>rfl
   have e2: ∀{α:Type} (K:List V→Option α),ZS (some 4) (Zo (AM.partOf [.vec .plain (some 4) (Z2 sig), .vec m (some 2) (Zx l), .int e] 0 none)) K=K (Z2 sig):=fun K=>rfl
   have e3: ∀{α:Type} (K:List V→Option α),YE (Jy sig[i]) K=K [.str (ba (sig[i]).name), .int (sig[i]).t.k, .int (sig[i]).t.h, .vec .plain (some 3) (Zi (sig[i]).t.args)]:=fun K=>rfl
   have e4: ∀{α:Type} (K:ByteArray→Option α),Xg (AM.partOf [.str (ba (sig[i]).name), .int (sig[i]).t.k, .int (sig[i]).t.h, .vec .plain (some 3) (Zi (sig[i]).t.args)] 0 none) K=K (ba (sig[i]).name):=fun K=>rfl
   rw[hT,C,XQ,Yh,decide_eq_false h4,Zl]
   rcases h2.1 with rfl|rfl
   ·rw[Yh,decide_eq_true rfl,Zs]
    simp only[e1,e2,hi2,Zs,hi3,hx,e3,e4,hname i hi]
    rfl
   ·rw[Yh,decide_eq_false (by decide),Zl,Yh,decide_eq_true rfl,Zs]
    simp only[e1,e2,hi2,Zs,hi3,hx,e3,e4,hname i hi]
    rfl
  ·refine hfail ?_ (by unfold Xc;rw[if_neg (by omega),if_neg h2])
   have e1: ∀{α:Type} (K:List V→Option α),Z6 [YU m sig l e] 0 (fun x=>Z3 x K)=K [.vec .plain (some 4) (Z2 sig), .vec m (some 2) (Zx l), .int e]:=fun K=>rfl
   have e2: ∀{α:Type} (K:List V→Option α),ZS (some 4) (Zo (AM.partOf [.vec .plain (some 4) (Z2 sig), .vec m (some 2) (Zx l), .int e] 0 none)) K=K (Z2 sig):=fun K=>rfl
   rw[C,XQ,Yh,decide_eq_false h4,Zl]
   by_cases hk2:k=2
   ·subst hk2
    have hi2:decide ((i:Int)<((Z2 sig).length:Int))=false:=by rw[ZX];exact decide_eq_false (by omega)
    rw[Yh,decide_eq_true rfl,Zs]
    simp only[e1,e2,hi2]
    rfl
   ·rw[Yh,decide_eq_false hk2,Zl]
    by_cases hk5:k=5
    ·subst hk5
     have hi2:decide ((i:Int)<((Z2 sig).length:Int))=false:=by rw[ZX];exact decide_eq_false (by omega)
     rw[Yh,decide_eq_true rfl,Zs]
     simp only[e1,e2,hi2]
     rfl
    ·rw[Yh,decide_eq_false hk5,Zl]
     rfl
end
end Go.Proofs.SZ
namespace Go.Proofs.SZ
open Go Go.AM Go.Ama
theorem zno(t:T):Ev 60 [enc t] (.bool (Jp t)):=by
 obtain⟨k,h,xs⟩:=t
 unfold Ev
 rw[C]
 show Zf Tryz.prog cfg W 60 [.agg [.int k, .int h, .vec .plain (some 3) (Zi xs)]] []=_
 rw[zj1]
 have hx:(((Zi xs).length:Int)==0)=decide (xs.length=0):=by rw[Yh,Zv];simp
 rw[hx]
 unfold Jp
 show _=some (Out.ret (V.bool (decide (xs.length=0)&&(k==4||k==2||k==5))),[])
 cases decide (xs.length=0)<;>cases(k==4)<;>cases(k==2)<;>rfl
theorem Qu{α:Type}(t:T)(K:Int→Int→List V→Option α):Zc [CT.int,CT.int,CT.slice (some 3)] (enc t) K=K t.k t.h (Zi t.args):=by cases t;rfl
theorem zp9{a b:Bool}{e:Int}:(bif b then(bif a then e else 2)else 2)=(bif (a&&b)then e else 2):=by cases a<;>cases b<;>rfl
theorem zkq: ∀{l:List T} {a:T},a∈l→a.depth≤ZF l
 |b::l,a,h=>by
  simp only[ZF]
  rcases List.mem_cons.1 h with rfl|h
  ·omega
  ·have:=zkq h;omega
def Wr(sig:List D)(t:T):Prop:= ∀(d:Nat) (m:AM.Mode) (l:List Tok) (e:Int),GF m→Y5 t=true→d+t.depth≤100→l.length+10*t.size≤1000000→
 ∃m',GF m'∧W.call 25 [.ref 0 0,enc t, .int d] [YU m sig l e]=some (.ret (.tup []),[YU m' sig (l++words sig t d) (bif okW sig t d then e else 2)])
theorem zoC{sig:List D}(xs:List T)(ih: ∀a∈xs,Wr sig a)(d:Nat)(hn:Y6 xs=true)(hd:d+ZF xs≤100)(hx:xs.length≤1000000): ∀j k,k+j=xs.length→ ∀(c:Bool) (m:AM.Mode) (l:List Tok) (e:Int),GF m→l.length+10*sizes (xs.drop k)+1≤1000000→
  ∃m',GF m'∧W.loop 25 4 [.int (k:Nat),(bif c then .cptr none (.int d)else .loc false none (.int d)),(bif c then .cptr none (.ref 0 0)else .loc false none (.ref 0 0)), .vec .plain (some 3) (Zi xs), .int xs.length] [YU m sig l e]=
   some (.exit 1,[],[YU m' sig (l++YI sig (xs.drop k) d) (bif Jq sig (xs.drop k) d then e else 2)]):=by
 intro j
 induction j with
 |zero=>
  intro k hk c m l e hm hl
  have hkl:k=xs.length:=by omega
  subst hkl
  have hlt:decide (((xs.length:Nat):Int)<xs.length)=false:=by simp
  refine⟨m,hm, ?_⟩
  rw[List.drop_length]
  cases c
  ·simp only[cond_false]
   rw[L,X4,hlt,Zl]
   simp[YI,Jq]
  ·simp only[cond_true]
   rw[L,Qc,hlt,Zl]
   simp[YI,Jq]
 |succ j ihj=>
  intro k hk c m l e hm hl
  have hkl:k<xs.length:=by omega
  have hlt:decide (((k:Nat):Int)<xs.length)=true:=by simp;omega
  have hlt2:(decide ((0:Int)≤(k:Nat))&&decide (((k:Nat):Int)<((Zi xs).length:Int)))=true:=by rw[Zv,hlt];simp
  have hdr:xs.drop k=xs[k]::xs.drop (k+1):=List.drop_eq_getElem_cons hkl
  have hmem:xs[k]∈xs:=List.getElem_mem hkl
  have hna:Y5 xs[k]=true:=by rw[zfc,List.all_eq_true]at hn;exact hn _ hmem
  have hda:d+(xs[k]).depth≤100:=by have:=zkq hmem;omega
  rw[hdr]at hl
  simp only[sizes]at hl
  have hw:IntKind.i64.wrap ((k:Nat)+1:Int)=((k+1:Nat):Int):=zck (by omega) (by omega)
  have hp:=(zno xs[k]).p
  rw[Zd]at hp
  have hlen:=zau (sig:=sig) xs[k] d
  rw[hdr]
  simp only[YI,Jq]
  cases hs:Jp xs[k]
  ·
   obtain⟨m1,hm1,h1⟩:=ih _ hmem d .grow (l++[Xo 40]) e (.inl rfl) hna hda (by simp;omega)
   have hc:W.call 61 [.cptr none (.ref 0 0), .cptr (some 3) (.agg [.int (xs[k]).k, .int (xs[k]).h, .vec .plain (some 3) (Zi (xs[k]).args)]), .cptr none (.int d)] [YU .grow sig (l++[Xo 40]) e]=some (.ret (.tup []),[YU m1 sig (l++[Xo 40]++words sig xs[k] d) (bif okW sig xs[k] d then e else 2)]):=by
    rw[Zd]at h1
    rw[C,zdo,h1]
    rfl
   have h2:=zdz hm l e 40 41 (g:=61) rfl hm1 hc (by omega) (by simp;omega)
   have h2':W.call 54 [V.ref 0 0,V.str {data:= #[40]},V.str {data:= #[41]},V.fn 61 [] [.cptr none (.ref 0 0), .cptr (some 3) (.agg [.int (xs[k]).k, .int (xs[k]).h, .vec .plain (some 3) (Zi (xs[k]).args)]), .cptr none (.int d)]] [YU m sig l e]=_:=h2
   obtain⟨m3,hm3,h3⟩:=ihj (k+1) (by omega) true .grow (l++[Xo 40]++words sig xs[k] d++[Xo 41]) (bif okW sig xs[k] d then e else 2) (.inl rfl) (by simp;omega)
   refine⟨m3,hm3, ?_⟩
   rw[zp9]at h3
   simp only[cond_true]at h3
   simp only[cond_false]
   have he:l++(Xo 40::words sig xs[k] d++[Xo 41]++YI sig (xs.drop (k+1)) d)=l++[Xo 40]++words sig xs[k] d++[Xo 41]++YI sig (xs.drop (k+1)) d:=by simp
   rw[he,←h3]
   cases c
   ·simp only[cond_false]
    rw[L,X4,hlt,Zs,hlt2,Z9,ZU hkl,Qu,hp,Zb,hs,Zw,Zl,h2',hw]
    rfl
   ·simp only[cond_true]
    rw[L,Qc,hlt,Zs,hlt2,Z9,ZU hkl,Qu,hp,Zb,hs,Zw,Zl,h2',hw]
    rfl
  ·obtain⟨m1,hm1,h1⟩:=ih _ hmem d m l e hm hna hda (by omega)
   rw[Zd]at h1
   obtain⟨m3,hm3,h3⟩:=ihj (k+1) (by omega) c m1 (l++words sig xs[k] d) (bif okW sig xs[k] d then e else 2) hm1 (by simp;omega)
   refine⟨m3,hm3, ?_⟩
   rw[zp9]at h3
   simp only[cond_true]
   rw[←List.append_assoc,←h3]
   cases c
   ·simp only[cond_false]
    rw[L,X4,hlt,Zs,hlt2,Z9,ZU hkl,Qu,hp,Zb,hs,Zw,Zs,h1,hw]
    rfl
   ·simp only[cond_true]
    rw[L,Qc,hlt,Zs,hlt2,Z9,ZU hkl,Qu,hp,Zb,hs,Zw,Zs,h1,hw]
    rfl
theorem zoD{sig:List D}(hsig:sig.length≤1000)(t:T):Wr sig t:=by
 induction t using T.ind with
 |_ k h xs ih=>
  intro d m l e hm hn hd hl
  simp only[Y5,Bool.and_eq_true]at hn
  simp only[T.depth]at hd
  simp only[T.size]at hl
  have hC:W.call 25 [.ref 0 0,enc (.mk k h xs), .int d] [YU m sig l e]=Zf Tryz.prog cfg W 25 [.ref 0 0, .agg [.int k, .int h, .vec .plain (some 3) (Zi xs)], .int d] [YU m sig l e]:=C ..
  rw[hC,zfa,Yh,Yh,Yh]
  have hm1:=hn.1
  unfold zaL at hm1
  unfold words okW
  by_cases h0:k=0
  ·have hT:W.call 53 [.ref 0 0, .str {data:= #[116,121,112,101]}] [YU m sig l e]=_:=zfg hm l e typ (by omega)
   refine⟨.grow, .inl rfl, ?_⟩
   rw[decide_eq_true h0,Zs,hT,if_pos h0,if_pos h0]
   rfl
  ·rw[decide_eq_false h0,Zl]
   rw[if_neg h0]at hm1
   simp only[if_neg h0]
   have hw:IntKind.i64.wrap ((d:Int)+1)=((d+1:Nat):Int):=zck (by omega) (by omega)
   by_cases h1:k=1
   ·rw[if_pos h1]at hm1
    simp only[Bool.and_eq_true,decide_eq_true_eq]at hm1
    rw[decide_eq_true h1,Zs]
    simp only[if_pos h1]
    match xs,hm1.2,ih,hn,hd,hl with
    |[a,b],_,ih,hn,hd,hl=>
     simp only[Y6,Bool.and_eq_true]at hn
     simp only[ZF]at hd
     simp only[sizes]at hl
     have la:=zau (sig:=sig) a d
     have lb:=zau (sig:=sig) b (d+1)
     obtain⟨m1,hm1,w1⟩:=ih a (by simp) d .grow (l++[Xo 123]++[Yu d]++[Xo 58]) e (.inl rfl) hn.2.1 (by omega) (by simp;omega)
     have hc:W.call 55 [.cptr none (.ref 0 0), .cptr none (.int d), .cptr (some 3) (.agg [.int k, .int h, .vec .plain (some 3) (Zi [a,b])])] [YU .grow sig (l++[Xo 123]) e]=some (.ret (.tup []),[YU m1 sig (l++[Xo 123]++[Yu d]++[Xo 58]++words sig a d) (bif okW sig a d then e else 2)]):=by
      have hbd:=zdy (sig:=sig) (m:= .grow) (.inl rfl) (l++[Xo 123]) e (d:Int) (by omega) (by omega) (by simp;omega)
      have hmk:=zdx (sig:=sig) (m:= .grow) (.inl rfl) (l++[Xo 123]++[Yu d]) e 58 (by simp;omega)
      have hmk':W.call 57 [V.ref 0 0,V.vec .plain none [V.str {data:= #[58]}]] [YU .grow sig (l++[Xo 123]++[Yu d]) e]=_:=hmk
      rw[Zd]at w1
      rw[C,zdm,hbd]
      show Za (W.call 57 [V.ref 0 0,V.vec .plain none [V.str {data:= #[58]}]] [YU .grow sig (l++[Xo 123]++[Yu d]) e]) _=_
      rw[hmk']
      have hg:ZY (Zi [a,b]) 0=enc a:=rfl
      have hq:(true&&decide ((0:Int)<((Zi [a,b]).length:Int)))=true:=rfl
      simp only[Zb,Zm,Yo,ZW,hq,Z9,hg,Qu,w1]
      rfl
     have h2:=zdz hm l e 123 125 (g:=55) rfl hm1 hc (by omega) (by simp;omega)
     have h2':W.call 54 [V.ref 0 0,V.str {data:= #[123]},V.str {data:= #[125]},V.fn 55 [] [.cptr none (.ref 0 0), .cptr none (.int d), .cptr (some 3) (.agg [.int k, .int h, .vec .plain (some 3) (Zi [a,b])])]] [YU m sig l e]=_:=h2
     obtain⟨m3,hm3,w3⟩:=ih b (by simp) (d+1) .grow (l++[Xo 123]++[Yu d]++[Xo 58]++words sig a d++[Xo 125]) (bif okW sig a d then e else 2) (.inl rfl) hn.2.2.1 (by omega) (by simp;omega)
     refine⟨m3,hm3, ?_⟩
     rw[zp9,Zd]at w3
     simp only[wPi,ztX]
     have he:l++(Xo 123::Yu ↑d::Xo 58::words sig a d++Xo 125::words sig b (d+1))=l++[Xo 123]++[Yu d]++[Xo 58]++words sig a d++[Xo 125]++words sig b (d+1):=by simp
     rw[he,h2',hw]
     have hg:ZY (Zi [a,b]) 1=enc b:=rfl
     have hq:(true&&decide ((1:Int)<((Zi [a,b]).length:Int)))=true:=rfl
     simp only[Zb,Zm,Yo,ZW,hq,Z9,hg,Qu,w3]
     rfl
   ·rw[decide_eq_false h1,Zl]
    rw[if_neg h1]at hm1
    simp only[if_neg h1]
    by_cases h3:k=3
    ·rw[if_pos h3]at hm1
     simp only[Bool.and_eq_true,decide_eq_true_eq]at hm1
     rw[decide_eq_true h3,Zs]
     simp only[if_pos h3]
     match xs,hm1.2,ih,hn,hd,hl with
     |[b],_,ih,hn,hd,hl=>
      simp only[Y6,Bool.and_eq_true]at hn
      simp only[ZF]at hd
      simp only[sizes]at hl
      have lb:=zau (sig:=sig) b (d+1)
      have hc:W.call 58 [.cptr none (.ref 0 0), .cptr none (.int d)] [YU .grow sig (l++[Xo 91]) e]=some (.ret (.tup []),[YU .grow sig (l++[Xo 91]++[Yu d]) e]):=by
       have hbd:=zdy (sig:=sig) (m:= .grow) (.inl rfl) (l++[Xo 91]) e (d:Int) (by omega) (by omega) (by simp;omega)
       rw[C,zdn,hbd]
       rfl
      have h2:=zdz hm l e 91 93 (g:=58) rfl (.inl rfl) hc (by omega) (by simp;omega)
      have h2':W.call 54 [V.ref 0 0,V.str {data:= #[91]},V.str {data:= #[93]},V.fn 58 [] [.cptr none (.ref 0 0), .cptr none (.int d)]] [YU m sig l e]=_:=h2
      obtain⟨m3,hm3,w3⟩:=ih b (by simp) (d+1) .grow (l++[Xo 91]++[Yu d]++[Xo 93]) e (.inl rfl) hn.2.1 (by omega) (by simp;omega)
      refine⟨m3,hm3, ?_⟩
      rw[Zd]at w3
      simp only[znk,zp8]
      have he:l++(Xo 91::Yu ↑d::Xo 93::words sig b (d+1))=l++[Xo 91]++[Yu d]++[Xo 93]++words sig b (d+1):=by simp
      rw[he,h2',hw]
      have hg:ZY (Zi [b]) 0=enc b:=rfl
      have hq:(true&&decide ((0:Int)<((Zi [b]).length:Int)))=true:=rfl
      simp only[Zb,Zm,Yo,ZW,hq,Z9,hg,Qu,w3]
      rfl
    ·rw[decide_eq_false h3,Zl]
     rw[if_neg h3]at hm1
     simp only[Bool.and_eq_true,decide_eq_true_eq]at hm1
     simp only[if_neg h3]
     obtain⟨m1,hm1',w1⟩:=zoB hm hsig l e k h xs d hm1.2.2 (by omega) (by omega)
     have hlen:(Xc sig k h d).toList.length≤1:=by cases Xc sig k h d<;>simp
     have hxl:xs.length≤sizes xs:=Zy xs
     obtain⟨m3,hm3,w3⟩:=zoC xs ih d hn.2 (by omega) (by omega) xs.length 0 (by omega) false m1 (l++(Xc sig k h d).toList) (bif (Xc sig k h d).isSome then e else 2) hm1' (by simp only[List.length_append,List.drop_zero];omega)
     refine⟨m3,hm3, ?_⟩
     rw[zp9,List.drop_zero]at w3
     simp only[cond_false]at w3
     rw[w1,←List.append_assoc]
     simp only[Zb,Zm,Yo,ZW,Zv]
     have w3':W.loop 25 4 [.int 0, .loc false none (.int d), .loc false none (.ref 0 0), .vec .plain (some 3) (Zi xs), .int (xs.length:Nat)] [YU m1 sig (l++(Xc sig k h d).toList) (bif (Xc sig k h d).isSome then e else 2)]=some (.exit 1,[],[YU m3 sig (l++(Xc sig k h d).toList++YI sig xs d) (bif ((Xc sig k h d).isSome&&Jq sig xs d)then e else 2)]):=w3
     rw[w3']
     rfl
end Go.Proofs.SZ
namespace Go.Proofs.SZ
open Go Go.AM
set_option maxRecDepth 20000
theorem zlA(O:Oracle)(s0:ByteArray):Zf Tryz.prog cfg O 23 [.str s0] []=
 bc ((↑s0.size:Int)==0) (some (Out.ret (V.bool false),[])) (bc (decide ((↑s0.size:Int)>40)) (some (Out.ret (V.bool false),[])) (gd (true&&decide (0<(↑s0.size:Int)))
 (bc ((↑(s0.data.toList.getD (Int.toNat 0) 0).toNat:Int)==95) (some (Out.ret (V.bool false),[])) (bc (s0.toList==(ByteArray.toList {data:= #[116,121,112,101]})) (some
 (Out.ret (V.bool false),[])) (Za (Zq O 27 [V.vec .plain none (Xk s0)]) fun r1=>Z4 r1 fun c2=>Ze c2 fun v3 c4=>ZS (some 2) v3 fun l5=>Ze
 c4 fun v6 c7=>Zt v6 fun n8=>Zj c7 (bc (n8==0) (bc ((↑l5.length:Int)==1) (gd (true&&decide (0<(↑l5.length:Int))) (Zc [CT.int,CT.str] (ZY l5 0) fun n9
 s10=>some (Out.ret (V.bool (true&&n9==0&&s10.toList==s0.toList)),[]))) (some (Out.ret (V.bool false),[]))) (some (Out.ret (V.bool false),[])))))))):=by kernel_rfl
theorem zlB(O:Oracle)(l0:(List V))(l1:(List V)):Zf Tryz.prog cfg O 12 [.vec .plain none l0, .vec .plain (some 4) l1] []=
 Za (Zq O 27 [V.vec .plain none l0]) fun r1=>Z4 r1 fun c2=>Ze c2 fun v3 c4=>ZS (some 2) v3 fun l5=>Ze c4 fun v6 c7=>Zt v6 fun n8=>Zj
 c7 (Za (O.call 28 [V.ref 0 0] [Res.box [V.vec .plain (some 2) l5,V.vec .plain (some 4) l1,V.int n8]]) fun r9=>Zk r9.fst (fun v10=>Zc [CT.int,
 CT.int,CT.slice (some 3)] v10 fun n11 n12 l13=>Z6 r9.snd 0 fun x14=>Z3 x14 fun c15=>gd (decide (1≤c15.length)&&true) (ZS (some 2) (Zo (AM.partOf c15 0
 none)) fun l16=>bc (decide ((↑l16.length:Int)>0)) (Za (O.call 29 [V.ref 0 0,V.int 8] r9.snd) fun r17=>Zk r17.fst (fun v18=>Z4 v18 fun c19=>
 Zj c19 (Z6 r17.snd 0 fun x20=>Z3 x20 fun c21=>gd (decide (3≤c21.length)&&true) (Zt (Zo (AM.partOf c21 2 none)) fun n22=>bc (n22 !=0) (Z6 r17.snd 0 fun
 x23=>Z3 x23 fun c24=>gd (decide (3≤c24.length)&&true) (Zt (Zo (AM.partOf c24 2 none)) fun n25=>some (Out.ret (V.tup [V.agg [V.int 0,V.int 0,V.vec .plain
 (some 3) []],V.int n25]),[]))) (gd (below 0 (V.tup [V.agg [V.int n11,V.int n12,V.vec .plain (some 3) l13],V.int 0])&&Zu 0 []) (some (Out.ret (V.tup [V.agg [V.int n11,
 V.int n12,V.vec .plain (some 3) l13],V.int 0]),[])))))) fun p26=>none) (Z6 r9.snd 0 fun x27=>Z3 x27 fun c28=>gd (decide (3≤c28.length)&&true) (Zt (Zo
 (AM.partOf c28 2 none)) fun n29=>bc (n29 !=0) (Z6 r9.snd 0 fun x30=>Z3 x30 fun c31=>gd (decide (3≤c31.length)&&true) (Zt (Zo (AM.partOf c31 2 none)) fun n32
 =>some (Out.ret (V.tup [V.agg [V.int 0,V.int 0,V.vec .plain (some 3) []],V.int n32]),[]))) (gd (below 0 (V.tup [V.agg [V.int n11,V.int n12,V.vec .plain (some 3) l13],V.int
 0])&&Zu 0 []) (some (Out.ret (V.tup [V.agg [V.int n11,V.int n12,V.vec .plain (some 3) l13],V.int 0]),[]))))))) fun p33=>none):=by kernel_rfl
theorem zef(O:Oracle)(l s:List V)(m:AM.Mode)(e n:Int):Zf Tryz.prog cfg O 29 [.ref 0 0, .int n] [.box [.vec .plain (some 2) l, .vec m (some 4) s, .int e]]=
 bc (e==0) (some (Out.ret (V.tup []),[Res.box [V.vec .plain (some 2) l,V.vec m (some 4) s,V.int n]])) (some (Out.ret (V.tup []),[Res.box [V.vec .plain (some 2) l,V.vec m
 (some 4) s,V.int e]])):=by kernel_rfl
theorem zd0(O:Oracle)(r0:Nat)(st:St):Zf Tryz.prog cfg O 28 [.ref r0 0] st=
 Za (O.call 67 [V.ref r0 0,V.vec .plain none [],V.int 1] st) fun r1=>Zk r1.fst (fun v2=>Zc [CT.int,CT.int,CT.slice (some 3)] v2 fun n3 n4 l5=>
 Za (Zq O 24 [V.agg [V.int n3,V.int n4,V.vec .plain (some 3) l5]]) fun r6=>Zn r6 fun b7=>bc (!b7) (Za (O.call 29 [V.ref r0 0,V.int 4]
 r1.snd) fun r8=>Zk r8.fst (fun v9=>Z4 v9 fun c10=>Zj c10 (YH (List.length st) (V.agg [V.int n3,V.int n4,V.vec .plain (some 3) l5]) r8.snd)) fun p11=>none) (YH
 (List.length st) (V.agg [V.int n3,V.int n4,V.vec .plain (some 3) l5]) r1.snd)) fun p12=>none:=by kernel_rfl
theorem zeg(O:Oracle)(r0:Nat)(st:St):Zf Tryz.prog cfg O 71 [.ref r0 0] st=
 Za (O.call 91 [V.ref r0 0] st) fun r1=>Zk r1.fst (fun v2=>Zn v2 fun b3=>Za (O.call 90 [V.ref r0 0,V.bool b3] r1.snd) fun r4
 =>Zk r4.fst (fun v5=>Xg v5 fun s6=>YH (List.length st) (V.str s6) r4.snd) fun p7=>none) fun p8=>none:=by kernel_rfl
theorem zeh(O:Oracle)(r0:Nat)(s1:ByteArray)(st:St):Zf Tryz.prog cfg O 73 [.ref r0 0, .str s1] st=
 Za (O.call 85 [V.ref r0 0,V.str s1] st) fun r1=>Zk r1.fst (fun v2=>Zn v2 fun b3=>Za (O.call 90 [V.ref r0 0,V.bool b3] r1.snd)
 fun r4=>Zk r4.fst (fun v5=>Xg v5 fun s6=>YH (List.length st) (V.tup []) r4.snd) fun p7=>none) fun p8=>none:=by kernel_rfl
theorem JZ(O:Oracle)(r0:Nat)(l1:(List V))(n2:Int)(st:St):Zf Tryz.prog cfg O 67 [.ref r0 0, .vec .plain none l1, .int n2] st=
 bc (decide (n2>120)) (Za (O.call 29 [V.ref r0 0,V.int 4] st) fun r1=>Zk r1.fst (fun v2=>Z4 v2 fun c3=>Zj c3 (YH (List.length st) (V.agg
 [V.int 0,V.int 0,V.vec .plain (some 3) []]) r1.snd)) fun p4=>none) (Za (O.call 85 [V.ref r0 0,V.str {data:= #[123]}] st) fun r5=>Zk r5.fst (fun v6
 =>Zn v6 fun b7=>bc b7 (Za (O.call 73 [V.ref r0 0,V.str {data:= #[123]}] r5.snd) fun r8=>Zk r8.fst (fun v9=>Z4 v9 fun c10=>Zj c10
 (Za (O.call 71 [V.ref r0 0] r8.snd) fun r11=>Zk r11.fst (fun v12=>Xg v12 fun s13=>Za (O.call 73 [V.ref r0 0,V.str {data:=
 #[58]}] r11.snd) fun r14=>Zk r14.fst (fun v15=>Z4 v15 fun c16=>Zj c16 (Za (O.call 67 [V.ref r0 0,V.vec .plain none l1,V.int (IntKind.i64.wrap
 (n2+1))] r14.snd) fun r17=>Zk r17.fst (fun v18=>Zc [CT.int,CT.int,CT.slice (some 3)] v18 fun n19 n20 l21=>Za (O.call 73 [V.ref r0 0,V.str {
 data:= #[125]}] r17.snd) fun r22=>Zk r22.fst (fun v23=>Z4 v23 fun c24=>Zj c24 (Za (O.call 86 [V.ref r0 0,V.str s13,V.vec .plain none l1,
 V.int n2] r22.snd) fun r25=>Zk r25.fst (fun v26=>Zc [CT.int,CT.int,CT.slice (some 3)] v26 fun n27 n28 l29=>YH (List.length st) (V.agg [V.int 1,V.int 0,V.vec
 .plain (some 3) [V.agg [V.int n19,V.int n20,V.vec .plain (some 3) l21],V.agg [V.int n27,V.int n28,V.vec .plain (some 3) l29]]]) r25.snd) fun p30=>none)) fun p31=>none)
 fun p32=>none)) fun p33=>none) fun p34=>none)) fun p35=>none) (Za (O.call 85 [V.ref r0 0,V.str {data:= #[91]}] r5.snd) fun r36=>Zk r36.fst (fun
 v37=>Zn v37 fun b38=>bc b38 (Za (O.call 73 [V.ref r0 0,V.str {data:= #[91]}] r36.snd) fun r39=>Zk r39.fst (fun v40=>Z4 v40 fun c41=>
 Zj c41 (Za (O.call 71 [V.ref r0 0] r39.snd) fun r42=>Zk r42.fst (fun v43=>Xg v43 fun s44=>Za (O.call 73 [V.ref r0 0,V.str {
 data:= #[93]}] r42.snd) fun r45=>Zk r45.fst (fun v46=>Z4 v46 fun c47=>Zj c47 (Za (O.call 86 [V.ref r0 0,V.str s44,V.vec .plain none l1,
 V.int n2] r45.snd) fun r48=>Zk r48.fst (fun v49=>Zc [CT.int,CT.int,CT.slice (some 3)] v49 fun n50 n51 l52=>YH (List.length st) (V.agg [V.int 3,V.int 0,V.vec
 .plain (some 3) [V.agg [V.int n50,V.int n51,V.vec .plain (some 3) l52]]]) r48.snd) fun p53=>none)) fun p54=>none) fun p55=>none)) fun p56=>none) (Za (O.call
 87 [V.ref r0 0,V.vec .plain none l1,V.int n2] r36.snd) fun r57=>Zk r57.fst (fun v58=>Zc [CT.int,CT.int,CT.slice (some 3)] v58 fun n59 n60 l61=>
 YH (List.length st) (V.agg [V.int n59,V.int n60,V.vec .plain (some 3) l61]) r57.snd) fun p62=>none)) fun p63=>none)) fun p64=>none):=by kernel_rfl
theorem zd1(O:Oracle)(l s:List V)(m:AM.Mode)(e:Int)(b:Bool):Zf Tryz.prog cfg O 90 [.ref 0 0, .bool b] [.box [.vec .plain (some 2) l, .vec m (some 4) s, .int e]]=
 bc (!b) (Za (O.call 29 [V.ref 0 0,V.int 8] [Res.box [V.vec .plain (some 2) l,V.vec m (some 4) s,V.int e]]) fun r1=>Zk r1.fst (fun v2=>Z4 v2 fun c3
 =>Zj c3 (YH [Res.box [V.vec .plain (some 2) l,V.vec m (some 4) s,V.int e]].length (V.str {data:= #[]}) r1.snd)) fun p4=>none) (gd (true&&decide (0<(↑l.length:
 Int))) (YE (ZY l 0) fun c5=>gd (decide (2≤c5.length)) (Xg (AM.partOf c5 1 none) fun s6=>gd (true&&decide (1≤(↑l.length:Int))&&decide ((↑l.length:Int)≤
 (↑l.length:Int))) (some (Out.ret (V.str s6),[Res.box [V.vec .plain (some 2) (List.drop 1 (List.take (↑l.length:Int).toNat l)),V.vec m (some 4) s,V.int e]]))))):=by kernel_rfl
theorem zd2(O:Oracle)(l s:List V)(m:AM.Mode)(e:Int):Zf Tryz.prog cfg O 91 [.ref 0 0] [.box [.vec .plain (some 2) l, .vec m (some 4) s, .int e]]=
 bc (e==0) (bc (decide ((↑l.length:Int)>0)) (gd (true&&decide (0<(↑l.length:Int))) (YE (ZY l 0) fun c1=>gd (decide (1≤c1.length)) (Zt (AM.partOf c1 0 none)
 fun n2=>some (Out.ret (V.bool (n2==0)),[Res.box [V.vec .plain (some 2) l,V.vec m (some 4) s,V.int e]])))) (some (Out.ret (V.bool false),[Res.box [V.vec .plain (some 2) l,
 V.vec m (some 4) s,V.int e]]))) (some (Out.ret (V.bool false),[Res.box [V.vec .plain (some 2) l,V.vec m (some 4) s,V.int e]])):=by kernel_rfl
theorem zfS(O:Oracle)(l s:List V)(m:AM.Mode)(e:Int)(t:ByteArray):Zf Tryz.prog cfg O 85 [.ref 0 0, .str t] [.box [.vec .plain (some 2) l, .vec m (some 4) s, .int e]]=
 bc (e==0) (bc (decide ((↑l.length:Int)>0)) (gd (true&&decide (0<(↑l.length:Int))) (Zc [CT.int,CT.str] (ZY l 0) fun n1 s2=>some (Out.ret (V.bool (true&&n1
 ==1&&s2.toList==t.toList)),[Res.box [V.vec .plain (some 2) l,V.vec m (some 4) s,V.int e]]))) (some (Out.ret (V.bool false),[Res.box [V.vec .plain (some 2) l,V.vec m
 (some 4) s,V.int e]]))) (some (Out.ret (V.bool false),[Res.box [V.vec .plain (some 2) l,V.vec m (some 4) s,V.int e]])):=by kernel_rfl
theorem zd3(O:Oracle)(r0:Nat)(s1:ByteArray)(l2:(List V))(n3:Int)(st:St):Zf Tryz.prog cfg O 86 [.ref r0 0, .str s1, .vec .plain none l2, .int n3] st=
 gd (true&&decide (0≤(↑l2.length:Int))&&decide ((↑l2.length:Int)≤(↑l2.length:Int))) (gd (decide ((↑l2.length:Int)=(↑l2.length:Int))&&(some (V.int (↑l2.length
 :Int))).isSome) (gd (true&&roomFor Tryz.prog 9 ((List.drop 0 (List.take (↑l2.length:Int).toNat l2)).length+[V.str s1].length)) (Za (O.call 67
 [V.ref r0 0,V.vec .plain none (List.drop 0 (List.take (↑l2.length:Int).toNat l2)++[V.str s1]),V.int (IntKind.i64.wrap (n3+1))] st) fun r1=>Zk r1.fst (fun v2=>
 Zc [CT.int,CT.int,CT.slice (some 3)] v2 fun n3 n4 l5=>YH (List.length st) (V.agg [V.int n3,V.int n4,V.vec .plain (some 3) l5]) r1.snd) fun p6=>none))):=by kernel_rfl
theorem zd4(O:Oracle)(r0:Nat)(l1:(List V))(n2:Int)(st:St):Zf Tryz.prog cfg O 87 [.ref r0 0, .vec .plain none l1, .int n2] st=
 Za (O.call 85 [V.ref r0 0,V.str {data:= #[40]}] st) fun r1=>Zk r1.fst (fun v2=>Zn v2 fun b3=>bc b3 (Za (O.call 108 [V.ref r0
 0,V.vec .plain none l1,V.int n2] r1.snd) fun r4=>Zk r4.fst (fun v5=>Zc [CT.int,CT.int,CT.slice (some 3)] v5 fun n6 n7 l8=>Za (O.call 107
 [V.ref r0 0,V.agg [V.int n6,V.int n7,V.vec .plain (some 3) l8]] r4.snd) fun r9=>Zk r9.fst (fun v10=>Zc [CT.int,CT.int,CT.slice (some 3)] v10 fun n11 n12 l13=>
 YH (List.length st) (V.agg [V.int n11,V.int n12,V.vec .plain (some 3) l13]) r9.snd) fun p14=>none) fun p15=>none) (Za (O.call 71 [V.ref r0 0] r1.snd)
 fun r16=>Zk r16.fst (fun v17=>Xg v17 fun s18=>Z6 r16.snd r0 fun x19=>Z3 x19 fun c20=>gd (decide (3≤c20.length)&&true) (Zt (Zo (AM.partOf c20 2
 none)) fun n21=>bc (n21 !=0) (YH (List.length st) (V.agg [V.int 0,V.int 0,V.vec .plain (some 3) []]) r16.snd) (bc (s18.toList==(ByteArray.toList {data:= #[116,121,112,
 101]})) (Za (O.call 107 [V.ref r0 0,V.agg [V.int 0,V.int 0,V.vec .plain (some 3) []]] r16.snd) fun r22=>Zk r22.fst (fun v23=>Zc [CT.int,
 CT.int,CT.slice (some 3)] v23 fun n24 n25 l26=>YH (List.length st) (V.agg [V.int n24,V.int n25,V.vec .plain (some 3) l26]) r22.snd) fun p27=>none) (Za (O.call
 109 [V.ref r0 0,V.str s18,V.vec .plain none l1] r16.snd) fun r28=>Zk r28.fst (fun v29=>Zc [CT.int,CT.int,CT.nil (some 3)] v29 fun n30 n31=>Za
 (O.loop 87 9 [V.loc true (some 3) (V.agg [V.int n30,V.int n31,V.vec Mode.grow (some 3) []]),V.int n2,V.vec .plain none l1,V.ref r0 0,V.loc true (some 3)
 (V.agg [V.int 0,V.int 0,V.vec Mode.full (some 3) []])] r28.snd) fun r32=>Xv r32.fst none none (fun i33=>bc (i33.beq 1) (Ze r32.snd.fst fun v34 c35=>YF (some 3)
 v34 fun d36 v37=>Ze c35 fun v38 c39=>YF (some 3) v38 fun d40 v41=>YE v41 fun c42=>Ze c42 fun v43 c44=>Zt v43 fun n45=>Ze c44 fun v46 c47=>Zt
 v46 fun n48=>Ze c47 fun v49 c50=>YW (some 3) v49 fun l51=>Zj c50 (Zj c39 (YH (List.length st) (V.agg [V.int n45,V.int n48,V.vec .plain (some 3) l51])
 r32.snd.snd))) none) fun v52=>none) fun p53=>none)))) fun p54=>none)) fun p55=>none:=by kernel_rfl
theorem QZ(O:Oracle)(n0:Int)(n1:Int)(l2:(List V))(n3:Int)(l4:(List V))(r5:Nat)(v6:V)(st:St):ZC Tryz.prog cfg O 87 9 [.loc true (some 3) (.agg [.int n0, .int n1, .vec .grow (some 3) l2]), .int n3, .vec .plain none l4, .ref r5 0, .loc true (some 3) v6] st=
 Za (O.call 91 [V.ref r5 0] st) fun r1=>Zk r1.fst (fun v2=>Zn v2 fun b3=>bc b3 (Za (O.call 110 [V.ref r5 0,V.vec .plain none
 l4,V.int n3] r1.snd) fun r4=>Zk r4.fst (fun v5=>Zc [CT.int,CT.int,CT.slice (some 3)] v5 fun n6 n7 l8=>gd (true&&roomFor Tryz.prog 25 (l2.length+
 [V.agg [V.int n6,V.int n7,V.vec .plain (some 3) l8]].length)) (O.2 87 9 [V.loc true (some 3) (V.agg [V.int n0,V.int n1,V.vec Mode.grow (some 3) (l2++[V.agg
 [V.int n6,V.int n7,V.vec .plain (some 3) l8]])]),V.int n3,V.vec .plain none l4,V.ref r5 0,V.loc true (some 3) v6] r4.snd)) fun p9=>none) (Za (O.call 85
 [V.ref r5 0,V.str {data:= #[40]}] r1.snd) fun r10=>Zk r10.fst (fun v11=>Zn v11 fun b12=>bc b12 (Za (O.call 110 [V.ref r5 0,V.vec .plain none
 l4,V.int n3] r10.snd) fun r13=>Zk r13.fst (fun v14=>Zc [CT.int,CT.int,CT.slice (some 3)] v14 fun n15 n16 l17=>gd (true&&roomFor Tryz.prog 25
 (l2.length+[V.agg [V.int n15,V.int n16,V.vec .plain (some 3) l17]].length)) (O.2 87 9 [V.loc true (some 3) (V.agg [V.int n0,V.int n1,V.vec Mode.grow (some
 3) (l2++[V.agg [V.int n15,V.int n16,V.vec .plain (some 3) l17]])]),V.int n3,V.vec .plain none l4,V.ref r5 0,V.loc true (some 3) v6] r13.snd)) fun p18=>none) (some
 (Ex.exit 1,[V.loc true (some 3) v6,V.loc true (some 3) (V.agg [V.int n0,V.int n1,V.vec Mode.grow (some 3) l2])],r10.snd))) fun p19=>none)) fun p20=>none:=by kernel_rfl
theorem zd5(O:Oracle)(r0:Nat)(n1:Int)(n2:Int)(l3:(List V))(st:St):Zf Tryz.prog cfg O 107 [.ref r0 0, .agg [.int n1, .int n2, .vec .plain (some 3) l3]] st=
 Za (O.call 91 [V.ref r0 0] st) fun r1=>Zk r1.fst (fun v2=>Zn v2 fun b3=>bc b3 (Za (O.call 29 [V.ref r0 0,V.int 8] r1.snd)
 fun r4=>Zk r4.fst (fun v5=>Z4 v5 fun c6=>Zj c6 (YH (List.length st) (V.agg [V.int n1,V.int n2,V.vec .plain (some 3) l3]) r4.snd)) fun p7=>none) (Za (O.call
 85 [V.ref r0 0,V.str {data:= #[40]}] r1.snd) fun r8=>Zk r8.fst (fun v9=>Zn v9 fun b10=>bc b10 (Za (O.call 29 [V.ref r0 0,V.int
 8] r8.snd) fun r11=>Zk r11.fst (fun v12=>Z4 v12 fun c13=>Zj c13 (YH (List.length st) (V.agg [V.int n1,V.int n2,V.vec .plain (some 3) l3]) r11.snd)) fun p14=>
 none) (YH (List.length st) (V.agg [V.int n1,V.int n2,V.vec .plain (some 3) l3]) r8.snd)) fun p15=>none)) fun p16=>none:=by kernel_rfl
theorem zd6(O:Oracle)(r0:Nat)(l1:(List V))(n2:Int)(st:St):Zf Tryz.prog cfg O 108 [.ref r0 0, .vec .plain none l1, .int n2] st=
 Za (O.call 73 [V.ref r0 0,V.str {data:= #[40]}] st) fun r1=>Zk r1.fst (fun v2=>Z4 v2 fun c3=>Zj c3 (Za (O.call 67 [V.ref
 r0 0,V.vec .plain none l1,V.int (IntKind.i64.wrap (n2+1))] r1.snd) fun r4=>Zk r4.fst (fun v5=>Zc [CT.int,CT.int,CT.slice (some 3)] v5 fun n6 n7 l8=>Za
 (O.call 73 [V.ref r0 0,V.str {data:= #[41]}] r4.snd) fun r9=>Zk r9.fst (fun v10=>Z4 v10 fun c11=>Zj c11 (YH (List.length st) (V.agg [V.int n6,
 V.int n7,V.vec .plain (some 3) l8]) r9.snd)) fun p12=>none) fun p13=>none)) fun p14=>none:=by kernel_rfl
theorem zei(O:Oracle)(l s:List V)(m:AM.Mode)(e:Int)(t:ByteArray)(bs:List V):Zf Tryz.prog cfg O 109 [.ref 0 0, .str t, .vec .plain none bs] [.box [.vec .plain (some 2) l, .vec m (some 4) s, .int e]]=
 Za (O.loop 109 2 [V.loc true (some 3) (V.agg [V.int 0,V.int 0,V.vec Mode.full (some 3) []]),V.int 0,V.loc false none (V.str t),V.vec .plain none bs,V.ref
 0 0,V.int (↑bs.length:Int)] [Res.box [V.vec .plain (some 2) l,V.vec m (some 4) s,V.int e]]) fun r1=>Xv r1.fst none (Ze r1.snd.fst fun v2 c3=>YF (some 3) v2 fun
 d4 v5=>Zj c3 (YH [Res.box [V.vec .plain (some 2) l,V.vec m (some 4) s,V.int e]].length (zhH v5) r1.snd.snd)) (fun i6=>bc (i6.beq 0) (Ze r1.snd.fst fun v7 c8=>
 YF (some 3) v7 fun d9 v10=>Ze c8 fun v11 c12=>zep v11 fun q13=>Ze c12 fun v14 c15=>YF none v14 fun d16 v17=>Xg (bif d16 then Zo v17 else v17) fun
 s18=>Zj c15 (Z6 r1.snd.snd q13 fun x19=>Z3 x19 fun c20=>gd (decide (2≤c20.length)&&true) (ZS (some 4) (Zo (AM.partOf c20 1 none)) fun l21=>Za (O.call
 75 [V.vec .plain (some 4) l21,V.fn 123 [] [V.cptr none (V.str s18)]] r1.snd.snd) fun r22=>Zk r22.fst (fun v23=>Zt
 v23 fun n24=>bc (decide (n24<0)) (Za (O.call 29 [V.ref q13 0,V.int 2] r22.snd) fun r25=>Zk r25.fst (fun v26=>Z4 v26 fun c27=>Zj c27 (YH
 [Res.box [V.vec .plain (some 2) l,V.vec m (some 4) s,V.int e]].length (V.agg [V.int 0,V.int 0,V.vec Mode.full (some 3) []]) r25.snd)) fun p28=>none) (Z6 r22.snd q13 fun
 x29=>Z3 x29 fun c30=>gd (decide (2≤c30.length)&&true) (ZS (some 4) (Zo (AM.partOf c30 1 none)) fun l31=>gd (decide (0≤n24)&&decide (n24<(↑l31.length:
 Int))) (YE (ZY l31 n24) fun c32=>gd (decide (4≤c32.length)) (onCells [CT.int,CT.int,CT.slice (some 3)] (List.take 3 (List.drop 1 c32)) fun n33 n34 l35=>Za (Zq O
 32 [V.agg [V.int n33,V.int n34,V.vec .plain (some 3) l35]]) fun r36=>Zn r36 fun b37=>bc b37 (YH [Res.box [V.vec .plain (some 2) l,V.vec m (some 4) s,V.int
 e]].length (V.agg [V.int 2,V.int n24,V.vec Mode.full (some 3) []]) r22.snd) (YH [Res.box [V.vec .plain (some 2) l,V.vec m (some 4) s,V.int e]].length (V.agg [V.int 5,V.int
 n24,V.vec Mode.full (some 3) []]) r22.snd)))))) fun p38=>none))) none) fun v39=>none:=by kernel_rfl
theorem Js(O:Oracle)(v0:V)(n1:Int)(s2:ByteArray)(l3:(List V))(r4:Nat)(n5:Int)(st:St):ZC Tryz.prog cfg O 109 2 [.loc true (some 3) v0, .int n1, .loc false none (.str s2), .vec .plain none l3, .ref r4 0, .int n5] st=
 bc (decide (n1<n5)) (gd (decide (0≤IntKind.i64.wrap (IntKind.i64.wrap ((↑l3.length:Int)-1)-n1))&&decide (IntKind.i64.wrap (IntKind.i64.wrap ((↑l3.length:Int)-1)-
 n1)<(↑l3.length:Int))) (Xg (ZY l3 (IntKind.i64.wrap (IntKind.i64.wrap ((↑l3.length:Int)-1)-n1))) fun s1=>bc (s1.toList==s2.toList) (some (Ex.ret,[V.loc false
 (some 3) (V.agg [V.int 4,V.int n1,V.vec Mode.full (some 3) []])],st)) (O.2 109 2 [V.loc true (some 3) v0,V.int (IntKind.i64.wrap (n1+1)),V.loc false none
 (V.str s2),V.vec .plain none l3,V.ref r4 0,V.int n5] st))) (some (Ex.exit 0,[V.loc true (some 3) v0,V.ref r4 0,V.loc false none (V.str s2)],st)):=by kernel_rfl
theorem zej(O:Oracle)(r0:Nat)(l1:(List V))(n2:Int)(st:St):Zf Tryz.prog cfg O 110 [.ref r0 0, .vec .plain none l1, .int n2] st=
 Za (O.call 85 [V.ref r0 0,V.str {data:= #[40]}] st) fun r1=>Zk r1.fst (fun v2=>Zn v2 fun b3=>bc b3 (Za (O.call 108 [V.ref r0
 0,V.vec .plain none l1,V.int n2] r1.snd) fun r4=>Zk r4.fst (fun v5=>Zc [CT.int,CT.int,CT.slice (some 3)] v5 fun n6 n7 l8=>YH (List.length st) (V.agg [V.int n6,
 V.int n7,V.vec .plain (some 3) l8]) r4.snd) fun p9=>none) (Za (O.call 71 [V.ref r0 0] r1.snd) fun r10=>Zk r10.fst (fun v11=>Xg v11 fun s12=>bc
 (s12.toList==(ByteArray.toList {data:= #[116,121,112,101]})) (Za (O.call 29 [V.ref r0 0,V.int 8] r10.snd) fun r13=>Zk r13.fst (fun v14=>Z4
 v14 fun c15=>Zj c15 (YH (List.length st) (V.agg [V.int 0,V.int 0,V.vec .plain (some 3) []]) r13.snd)) fun p16=>none) (Za (O.call 109 [V.ref r0 0,
 V.str s12,V.vec .plain none l1] r10.snd) fun r17=>Zk r17.fst (fun v18=>Zc [CT.int,CT.int,CT.slice (some 3)] (Zo v18) fun n19 n20 l21=>YH (List.length st)
 (V.agg [V.int n19,V.int n20,V.vec .plain (some 3) l21]) r17.snd) fun p22=>none)) fun p23=>none)) fun p24=>none:=by kernel_rfl
theorem zc8(O:Oracle)(s t:ByteArray)(n1:Int)(n2:Int)(l3:(List V))(st:St):Zf Tryz.prog cfg O 123 [.agg [.str t, .int n1, .int n2, .vec .plain (some 3) l3], .cptr none (.str s)] st=
 YH (List.length st) (V.bool (t.toList==s.toList)) st:=by kernel_rfl
end Go.Proofs.SZ
namespace Go.Proofs.SZ
open Go Go.AM
set_option maxRecDepth 20000
theorem Qg(O:Oracle)(l0:(List V))(g1:Nat)(l2:(List V))(l3:(List V))(st:St):Zf Tryz.prog cfg O 40 [.vec .plain (some 4) l0, .fn g1 l2 l3] st=
 Za (O.call 75 [V.vec .plain (some 4) l0,V.fn g1 l2 l3] st) fun r1=>Zk r1.fst (fun v2=>Zt v2 fun n3=>YH (List.length st) (V.bool
 (decide (n3≥0))) r1.snd) fun p4=>none:=by kernel_rfl
theorem Qh(O:Oracle)(l0:(List V))(g1:Nat)(l2:(List V))(l3:(List V))(st:St):Zf Tryz.prog cfg O 38 [.vec .plain (some 3) l0, .fn g1 l2 l3] st=
 Za (O.call 74 [V.vec .plain (some 3) l0,V.fn g1 l2 l3] st) fun r1=>Zk r1.fst (fun v2=>Zt v2 fun n3=>YH (List.length st) (V.bool
 (decide (n3≥0))) r1.snd) fun p4=>none:=by kernel_rfl
theorem Xd(O:Oracle)(l0:(List V))(g1:Nat)(l2:(List V))(l3:(List V))(st:St):Zf Tryz.prog cfg O 75 [.vec .plain (some 4) l0, .fn g1 l2 l3] st=
 Za (O.loop 75 2 [V.int 0,V.vec .plain (some 4) l0,V.fn g1 l2 l3,V.int (↑l0.length:Int)] st) fun r1=>Xv r1.fst none (Ze r1.snd.fst
 fun v2 c3=>Zt v2 fun n4=>Zj c3 (YH (List.length st) (V.int n4) r1.snd.snd)) (fun i5=>bc (i5.beq 0) (Zj r1.snd.fst (YH (List.length st) (V.int (-1)) r1.snd.snd))
 none) fun v6=>none:=by kernel_rfl
theorem ZR(O:Oracle)(n0:Int)(l1:(List V))(g2:Nat)(l3:(List V))(l4:(List V))(n5:Int)(st:St):ZC Tryz.prog cfg O 75 2 [.int n0, .vec .plain (some 4) l1, .fn g2 l3 l4, .int n5] st=
 bc (decide (n0<n5)) (gd (decide (0≤n0)&&decide (n0<(↑l1.length:Int))) (Zc [CT.str,CT.int,CT.int,CT.slice (some 3)] (ZY l1 n0) fun s1 n2 n3 l4_1=>bc
 (cfg.pure g2) (Za (Zq O g2 (l3++[V.agg [V.str s1,V.int n2,V.int n3,V.vec .plain (some 3) l4_1]]++l4)) fun r5=>Zn r5 fun b6=>bc b6 (some (Ex.ret,[V.int n0],
 st)) (O.2 75 2 [V.int (IntKind.i64.wrap (n0+1)),V.vec .plain (some 4) l1,V.fn g2 l3 l4,V.int n5] st)) (Za (O.call g2 (l3++[V.agg [V.str
 s1,V.int n2,V.int n3,V.vec .plain (some 3) l4_1]]++l4) st) fun r7=>Zk r7.fst (fun v8=>Zn v8 fun b9=>bc b9 (some (Ex.ret,[V.int n0],r7.snd)) (O.2
 75 2 [V.int (IntKind.i64.wrap (n0+1)),V.vec .plain (some 4) l1,V.fn g2 l3 l4,V.int n5] r7.snd)) fun p10=>none))) (some (Ex.exit 0,[],
 st)):=by kernel_rfl
theorem Q8(O:Oracle)(l0:(List V))(g1:Nat)(l2:(List V))(l3:(List V))(st:St):Zf Tryz.prog cfg O 74 [.vec .plain (some 3) l0, .fn g1 l2 l3] st=
 Za (O.loop 74 2 [V.int 0,V.vec .plain (some 3) l0,V.fn g1 l2 l3,V.int (↑l0.length:Int)] st) fun r1=>Xv r1.fst none (Ze r1.snd.fst
 fun v2 c3=>Zt v2 fun n4=>Zj c3 (YH (List.length st) (V.int n4) r1.snd.snd)) (fun i5=>bc (i5.beq 0) (Zj r1.snd.fst (YH (List.length st) (V.int (-1)) r1.snd.snd))
 none) fun v6=>none:=by kernel_rfl
theorem YO(O:Oracle)(n0:Int)(l1:(List V))(g2:Nat)(l3:(List V))(l4:(List V))(n5:Int)(st:St):ZC Tryz.prog cfg O 74 2 [.int n0, .vec .plain (some 3) l1, .fn g2 l3 l4, .int n5] st=
 bc (decide (n0<n5)) (gd (decide (0≤n0)&&decide (n0<(↑l1.length:Int))) (Zc [CT.int,CT.int,CT.slice (some 3)] (ZY l1 n0) fun n1 n2 l3_1=>bc (cfg.pure g2)
 (Za (Zq O g2 (l3++[V.agg [V.int n1,V.int n2,V.vec .plain (some 3) l3_1]]++l4)) fun r4=>Zn r4 fun b5=>bc b5 (some (Ex.ret,[V.int n0],st)) (O.2
 74 2 [V.int (IntKind.i64.wrap (n0+1)),V.vec .plain (some 3) l1,V.fn g2 l3 l4,V.int n5] st)) (Za (O.call g2 (l3++[V.agg [V.int n1,V.int
 n2,V.vec .plain (some 3) l3_1]]++l4) st) fun r6=>Zk r6.fst (fun v7=>Zn v7 fun b8=>bc b8 (some (Ex.ret,[V.int n0],r6.snd)) (O.2
 74 2 [V.int (IntKind.i64.wrap (n0+1)),V.vec .plain (some 3) l1,V.fn g2 l3 l4,V.int n5] r6.snd)) fun p9=>none))) (some (Ex.exit 0,[],st)):=by kernel_rfl
end Go.Proofs.SZ
namespace Go.Proofs.SZ
open Go Go.AM Go.Ama
theorem znp{n:Nat}(h:n≤1048576):roomFor Tryz.prog 9 n=true:=by
 have:((Tryz.prog.info? 9).map (·.bytes)).getD 0=16:=by kernel_rfl
 unfold roomFor
 rw[this]
 simp only[Bool.and_eq_true,decide_eq_true_eq]
 omega
theorem zdY(t:Tok)(r:List Tok):ZY (Zx (t::r)) 0=zbm t:=rfl
theorem znq(t:Tok)(r:List Tok):decide ((((Zx (t::r)).length:Nat):Int)>0)=true:=by simp
theorem zlC(t:Tok)(r:List Tok):decide ((0:Int)<(((Zx (t::r)).length:Nat):Int))=true:=by simp
section
variable(m:AM.Mode)(s:PS)
theorem QN(n:Int):W.call 29 [.ref 0 0, .int n] [YM m s]=some (.ret (.tup []),[YM m (s.fail n)]):=by
 rw[C,YM,zef,Yh]
 unfold PS.fail
 by_cases h:s.e=0<;>simp[h,bc,YM]
theorem zaX(c:Bytes):W.call 85 [.ref 0 0, .str (ba c)] [YM m s]=some (.ret (.bool (s.is c)),[YM m s]):=by
 rw[C,YM,zfS,Yh]
 unfold PS.is
 by_cases h:s.e=0
 ·rw[h]
  cases hl:s.l with
  |nil=>rfl
  |cons t r=>
   simp only[znq,zlC,zdY,zcm,zi0,Yh]
   simp[bc]
 ·simp[h,bc]
theorem zaY:W.call 91 [.ref 0 0] [YM m s]=some (.ret (.bool s.named),[YM m s]):=by
 rw[C,YM,zd2,Yh]
 unfold PS.named
 by_cases h:s.e=0
 ·rw[h]
  cases hl:s.l with
  |nil=>rfl
  |cons t r=>
   simp only[znq,zlC,zdY]
   show bc (decide True) (bc true (gd true (YE (.agg [.int t.1, .str (ba t.2)]) _)) _) _=_
   rw[zkh]
   show some (Out.ret (V.bool (t.1==0)),_)=_
   rw[Yh];simp
 ·simp[h,bc]
theorem ztg{c:Bytes}(h:s.is c=true): ∃r,s.l=(1,c)::r∧s.e=0:=by
 unfold PS.is at h
 cases hl:s.l with
 |nil=>rw[hl]at h;simp at h
 |cons t r=>
  rw[hl]at h
  simp only[Bool.and_eq_true,decide_eq_true_eq]at h
  obtain⟨t1,t2⟩:=t
  simp only at h
  exact⟨r,by rw[h.2.1,h.2.2],h.1⟩
theorem zoE(h:s.named=true): ∃x r,s.l=(0,x)::r∧s.e=0:=by
 unfold PS.named at h
 cases hl:s.l with
 |nil=>rw[hl]at h;simp at h
 |cons t r=>
  rw[hl]at h
  simp only[Bool.and_eq_true,decide_eq_true_eq]at h
  obtain⟨t1,t2⟩:=t
  simp only at h
  exact⟨t2,r,by rw[h.2],h.1⟩
theorem zi9(b:Bool)(h:b=true→ ∃t r,s.l=t::r):W.call 90 [.ref 0 0, .bool b] [YM m s]=some (.ret (.str (ba (s.token b).1)),[YM m (s.token b).2]):=by
 rw[C,YM,zd1,←YM,QN]
 cases b with
 |false=>rfl
 |true=>
  obtain⟨t,r,hl⟩:=h rfl
  unfold PS.token
  rw[hl]
  simp only[zlC,zdY,if_true,Bool.not_true,Zl,Bool.true_and,Z9]
  show YE (.agg [.int t.1, .str (ba t.2)]) _=_
  rw[zkh]
  rw[show decide (2≤ [V.int t.1,V.str (ba t.2)].length)=true from rfl,Z9,show AM.partOf [V.int t.1,V.str (ba t.2)] 1 none=V.str (ba t.2)from rfl,XZ]
  have h1:decide ((1:Int)≤(((Zx (t::r)).length:Nat):Int))=true:=by simp;omega
  have h2:decide ((((Zx (t::r)).length:Nat):Int)≤(((Zx (t::r)).length:Nat):Int))=true:=by simp
  rw[h1,h2,Int.toNat_natCast,List.take_length]
  rfl
theorem JE(c:Bytes):W.call 73 [.ref 0 0, .str (ba c)] [YM m s]=some (.ret (.tup []),[YM m (s.take c)]):=by
 rw[C,zeh,zaX,Zb,Zm,Zw,zi9 _ _ _ (fun h=>by obtain⟨r,h,_⟩:=ztg s h;exact⟨_,_,h⟩),Zb,Zm,XZ]
 rfl
theorem zcp:W.call 71 [.ref 0 0] [YM m s]=some (.ret (.str (ba s.name.1)),[YM m s.name.2]):=by
 rw[C,zeg,zaY,Zb,Zm,Zw,zi9 _ _ _ (fun h=>by obtain⟨x,r,h,_⟩:=zoE s h;exact⟨_,_,h⟩),Zb,Zm,XZ]
 rfl
theorem zuI:V.str {data:= #[40]}=V.str (ba [40]):=rfl
theorem ziA(t:T):W.call 107 [.ref 0 0,enc t] [YM m s]=some (.ret (enc t),[YM m s.alone]):=by
 unfold PS.alone
 rw[C,Zd,zd5,zaY,Zb,Zm,Zw,zuI,zaX,Zb,Zm,Zw,QN,←Zd]
 cases s.named<;>cases s.is [40]<;>rfl
end
end Go.Proofs.SZ
namespace Go.Proofs.SZ
open Go Go.AM Go.Ama
theorem zqJ(x:Bytes)(bs:List Bytes)(v0:V)(st:St)(hb:bs.length≤1048576): ∀d k,k+d=bs.length→
  W.loop 109 2 [.loc true (some 3) v0, .int (k:Nat), .loc false none (.str (ba x)), .vec .plain none (zal bs.reverse), .ref 0 0, .int bs.length] st=
   some (match zj5 x (bs.drop k)with
    |some i=>(Ex.ret,[V.loc false (some 3) (V.agg [V.int 4,V.int ((k+i:Nat):Int),V.vec .full (some 3) []])],st)
    |none=>(Ex.exit 0,[V.loc true (some 3) v0,V.ref 0 0,V.loc false none (V.str (ba x))],st)):=by
 intro d
 induction d with
 |zero=>
  intro k hk
  have hkl:k=bs.length:=by omega
  subst hkl
  have hlt:decide (((bs.length:Nat):Int)<bs.length)=false:=by simp
  rw[L,Js,hlt,List.drop_length]
  rfl
 |succ d ih=>
  intro k hk
  have hkl:k<bs.length:=by omega
  have hlt:decide (((k:Nat):Int)<bs.length)=true:=by simp;omega
  have hw:IntKind.i64.wrap (IntKind.i64.wrap (((zal bs.reverse).length:Int)-1)-(k:Nat))=((bs.length-1-k:Nat):Int):=by
   have hw1:IntKind.i64.wrap ((bs.length:Int)-1)=(bs.length:Int)-1:=Z5 ⟨by omega,by omega⟩
   rw[zdw,List.length_reverse,hw1,Z5 ⟨by omega,by omega⟩];omega
  have h0:decide ((0:Int)≤((bs.length-1-k:Nat):Int))=true:=by simp
  have h1:decide ((((bs.length-1-k:Nat):Int))<((zal bs.reverse).length:Int))=true:=by simp;omega
  have hi:bs.length-1-k<bs.reverse.length:=by simp;omega
  have hget:bs.reverse[bs.length-1-k]=bs[k]:=by
   rw[List.getElem_reverse];congr 1;omega
  have hd:bs.drop k=bs[k]::bs.drop (k+1):=List.drop_eq_getElem_cons hkl
  rw[L,Js,hlt,hw,h0,h1,zqI hi,hget,hd,Zs,XZ,zi0]
  simp only[Bool.and_self,Z9,zj5]
  by_cases hx:bs[k]=x
  ·simp[hx,bc]
  ·simp only[hx,decide_false,Zl,if_false]
   rw[Z5 ⟨by omega,by omega⟩]
   have:=ih (k+1) (by omega)
   rw[show(((k+1:Nat)):Int)=(k:Nat)+1 from rfl]at this
   rw[this]
   cases zj5 x (bs.drop (k+1))with
   |none=>rfl
   |some i=>simp only[Option.map_some];rw[show k+1+i=k+(i+1) by omega]
def Names(g:Nat)(x:Bytes):Prop:=cfg.pure g=false∧ ∀d st,W.call g [Jy d, .cptr none (.str (ba x))] st=some (.ret (.bool (decide (d.name=x))),st)
theorem ztZ(x:Bytes):Names 123 x:=⟨rfl,fun d st=>by rw[C,Jy,zc8,zi0];exact YV rfl⟩
theorem zsi{g:Nat}{x:Bytes}(hg:Names g x)(l:List D)(st:St)(hl:l.length≤1048576): ∀d k,k+d=l.length→
  W.loop 75 2 [.int (k:Nat), .vec .plain (some 4) (Z2 l), .fn g [] [.cptr none (.str (ba x))], .int l.length] st=
   some (match idx x (l.drop k)with
    |some i=>(Ex.ret,[V.int ((k+i:Nat):Int)],st)
    |none=>(Ex.exit 0,[],st)):=by
 intro d
 induction d with
 |zero=>
  intro k hk
  have hkl:k=l.length:=by omega
  subst hkl
  have hlt:decide (((l.length:Nat):Int)<l.length)=false:=by simp
  rw[L,ZR,hlt,List.drop_length]
  rfl
 |succ d ih=>
  intro k hk
  have hkl:k<l.length:=by omega
  have hlt:decide (((k:Nat):Int)<l.length)=true:=by simp;omega
  have h0:decide ((0:Int)≤(k:Nat))=true:=by simp
  have hd:l.drop k=l[k]::l.drop (k+1):=List.drop_eq_getElem_cons hkl
  have hc:=hg.2 l[k] st
  unfold Jy at hc
  rw[L,ZR]
  simp only[ZX,hlt,h0,XR hkl,zbp,hg.1,Zl,Zs,Bool.and_self,Z9,List.nil_append,List.cons_append,hc,Zb,Zm,Zw]
  rw[hd]
  simp only[idx]
  by_cases hx:l[k].name=x
  ·simp[hx,bc]
  ·simp only[hx,decide_false,Zl,if_false]
   rw[Z5 ⟨by omega,by omega⟩]
   have:=ih (k+1) (by omega)
   rw[show(((k+1:Nat)):Int)=(k:Nat)+1 from rfl]at this
   rw[this]
   cases idx x (l.drop (k+1))with
   |none=>rfl
   |some i=>simp only[Option.map_some];rw[show k+1+i=k+(i+1) by omega]
def zua(x:Bytes)(l:List D):Int:=match idx x l with|some i=>(i:Nat)|none=> -1
theorem ziB{g:Nat}{x:Bytes}(hg:Names g x)(l:List D)(st:St)(hl:l.length≤1048576):
  W.call 75 [.vec .plain (some 4) (Z2 l), .fn g [] [.cptr none (.str (ba x))]] st=some (.ret (.int (zua x l)),st):=by
 have h:=zsi hg l st hl l.length 0 (by omega)
 rw[C,Xd,ZX]
 rw[show((0:Nat):Int)=0 from rfl]at h
 rw[h,List.drop_zero,Zb]
 unfold zua
 cases idx x l with
 |none=>exact YV rfl
 |some i=>simp only[Nat.zero_add];exact YV rfl
theorem zpA{x:Bytes}: ∀{l:List D} {i:Nat},idx x l=some i→i<l.length
 |[],i,h=>by cases h
 |d::l,i,h=>by
  unfold idx at h
  split at h
  ·cases h;simp
  ·cases hq:idx x l with
   |none=>rw[hq]at h;cases h
   |some j=>rw[hq]at h;cases h;have:=zpA hq;simp;omega
def zub(t:T):V:= .agg [.int t.k, .int t.h, .vec .full (some 3) []]
theorem zkr(m:AM.Mode)(s:PS)(x:Bytes)(bs:List Bytes)(hb:bs.length≤1048576)(hs:s.s.length≤1048576):
  W.call 109 [.ref 0 0, .str (ba x), .vec .plain none (zal bs.reverse)] [YM m s]=some (.ret (zub (s.head x bs).1),[YM m (s.head x bs).2]):=by
 have h:=zqJ x bs (V.agg [V.int 0,V.int 0,V.vec .full (some 3) []]) [YM m s] hb bs.length 0 (by omega)
 rw[show((0:Nat):Int)=0 from rfl,List.drop_zero]at h
 rw[C,YM,zei,←YM,zdw,List.length_reverse,h,Zb]
 unfold PS.head
 cases hbk:zj5 x bs with
 |some i=>simp only[Nat.zero_add];rfl
 |none=>
  have hb0:Nat.beq 0 0=true:=rfl
  simp only[zb7,hb0,Zs,YS,zkg,zq2,cond_false,XZ,ZW]
  have hget: ∀{R:Type} (K:Res→Option R),Z6 [YM m s] 0 K=K (YM m s):=fun K=>rfl
  rw[hget,YM,JA,←YM]
  have hcl:Zo (AM.partOf [V.vec .plain (some 2) (Zx s.l),V.vec m (some 4) (Z2 s.s),V.int s.e] 1 none)= .vec .plain (some 4) (Z2 s.s):=by cases m<;>rfl
  rw[hcl,YG,ziB (ztZ x) s.s _ hs,Zb,Zm,Yd]
  unfold zua
  have h2g: ∀{R:Type} (X:Option R),gd (decide (2≤ [V.vec .plain (some 2) (Zx s.l),V.vec m (some 4) (Z2 s.s),V.int s.e].length)&&true) X=X:=fun X=>rfl
  cases hix:idx x s.s with
  |none=>
   simp only[h2g,show decide ((-1:Int)<0)=true from rfl,Zs,QN]
   rfl
  |some i=>
   have hi:=zpA hix
   have hneg:decide (((i:Nat):Int)<0)=false:=by simp
   have h0:decide ((0:Int)≤(i:Nat))=true:=by simp
   have h1:decide (((i:Nat):Int)<((Z2 s.s).length:Int))=true:=by simp;omega
   simp only[hneg,Zl]
   rw[hget,YM,JA,←YM,hcl,YG,h0,h1,XR hi,h2g,h2g]
   have h4: ∀{R:Type} (K:Int→Int→List V→Option R),YE (Jy s.s[i]) (fun c=>gd (decide (4≤c.length)) (onCells (R:=R) [CT.int,CT.int,CT.slice (some 3)] (List.take 3 (List.drop 1 c)) K))=K s.s[i].t.k s.s[i].t.h (Zi s.s[i].t.args):=fun K=>rfl
   rw[Bool.and_self,Z9,h4]
   rw[←Zd,(zkp s.s[i].t).p,Zb,Zw]
   have hg:(s.s.map (·.t)).getD i T0=s.s[i].t:=by simp[List.getD_eq_getElem?_getD,hi]
   simp only[hg]
   by_cases hk:(split s.s[i].t).2.k=0
   ·simp only[hk,decide_true,Zs,if_true];rfl
   ·simp only[hk,decide_false,Zl,if_false];rfl
end Go.Proofs.SZ
