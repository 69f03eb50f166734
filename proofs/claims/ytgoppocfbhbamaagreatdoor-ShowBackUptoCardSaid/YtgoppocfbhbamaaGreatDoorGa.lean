import Derived.Test.YtgoppocfbhbamaaGreatDoorAMa
import Derived.Test.YtgoppocfbhbamaaGreatDoorProg
import Derived.Test.YtgoppocfbhbamaaGreatDoorChecked
import Derived.Test.YtgoppocfbhbamaaGreatDoorAMd
import Derived.Shelf.Spec.SlicesGrow
import Derived.Shelf.Strconv.Itoa3
import Derived.CallsIn
import Derived.KernelRfl
import Derived.Lib.Bytealg
import Derived.Lib.ItoaNum
/- The program's functions, each an equation of the abstract machine checked by the kernel, and what they come to as_ plain Lean. -/
set_option linter.unusedVariables false
set_option linter.unusedSimpArgs false
set_option linter.unusedSectionVars false
namespace Go.Proofs.SZ
open Go Go.AM
def zvR:Nat→Option FnHints
 |2=>some ⟨true,[],[],[],[],[]⟩
 |3=>some ⟨true,[],[],[],[],[(6, .ty 4)]⟩
 |4=>some ⟨true,[],[],[],[],[(2, .ty 4)]⟩
 |5=>some ⟨true,[],[],[],[],[(0, .ty 4)]⟩
 |6=>some ⟨true,[],[],[(4,[(3, .ty 3),(0, .any)])],[(4,[])],[(2, .ty 4)]⟩
 |7=>some ⟨true,[],[],[(2,[(3, .ty 3),(0, .any)])],[(2,[])],[(2, .ty 4)]⟩
 |8=>some ⟨true,[],[],[],[],[(6, .ty 4)]⟩
 |9=>some ⟨true,[],[],[],[],[(10, .ty 29)]⟩
 |10=>some ⟨true,[],[(16,8),(16,0),(16,9),(0,0),(12,0),(15,1)],[(3,[(15, .ty 3),(4, .mp),(13, .any),(0, .any),(14, .ty 3)]),(9,[(27, .ty 3),(7, .grow none),(0, .any),(4, .mp),(25, .any),(26, .ty 3)])],[(3,[(0, .ty 22),(4, .mp)]),(9,[(7, .grow none)])],[(2, .ty 31),(3, .ty 29)]⟩
 |11=>some ⟨true,[12],[(3,1),(0,1),(2,0),(6,4)],[],[],[(4, .ty 31),(5, .ty 29)]⟩
 |12=>some ⟨true,[19],[(2,3)],[],[],[(4, .locA (some 3)),(5, .ty 29)]⟩
 |13=>some ⟨true,[],[],[(4,[(31, .ty 3),(3, .loc 25),(29, .any),(30, .ty 3)])],[(4,[])],[(4, .ty 4)]⟩
 |14=>some ⟨true,[],[],[],[],[(2, .ty 3),(3, .ty 29)]⟩
 |15=>some ⟨true,[15],[(2,2),(0,0),(8,4)],[(3,[(6, .ref)])],[(3,[(6, .ref)])],[(2, .ty 22),(3, .ty 29)]⟩
 |16=>some ⟨true,[],[],[(4,[(5, .ty 3),(1, .any),(0, .any)])],[(4,[])],[(4, .ty 4)]⟩
 |17=>some ⟨true,[],[(0,0)],[],[],[(0, .ty 22)]⟩
 |18=>some ⟨true,[],[],[(4,[(3, .ty 3),(1, .loc 25)])],[(4,[])],[(2, .ty 4)]⟩
 |19=>some ⟨true,[],[],[(3,[(4, .ty 3),(1, .loc 25),(3, .ty 3)])],[(3,[(3, .ty 3)])],[(2, .ty 3)]⟩
 |20=>some ⟨true,[],[],[(3,[(4, .ty 3),(3, .ty 3),(1, .loc 25)])],[(3,[(3, .ty 3)])],[(2, .ty 3)]⟩
 |21=>some ⟨true,[],[],[],[],[(4, .ty 4)]⟩
 |22=>some ⟨true,[],[],[],[],[(6, .ty 29)]⟩
 |23=>some ⟨true,[],[],[],[],[(2, .ty 4)]⟩
 |24=>some ⟨true,[],[],[],[],[(2, .ty 4)]⟩
 |25=>some ⟨false,[],[],[(4,[(17, .ty 3),(5, .any),(3, .any),(15, .any),(16, .ty 3)])],[(4,[])],[]⟩
 |26=>some ⟨true,[],[(7,2),(7,0),(7,3),(8,3),(8,0),(8,6),(0,0)],[(4,[(9, .ty 3),(3, .grow none),(4, .ty 3),(7, .any),(8, .ty 3)])],[(4,[(3, .grow none)])],[(2, .ty 31)]⟩
 |27=>some ⟨true,[],[(13,6),(13,0),(13,7),(16,6),(16,0),(16,7),(0,0),(2,0),(8,0)],[(1000000,[(5, .grow (some 2)),(4, .ty 9),(2, .any),(3, .ty 29)])],[(1000000,[(2, .ty 57),(3, .ty 29)])],[(2, .ty 57),(3, .ty 29)]⟩
 |28=>some ⟨false,[],[],[],[],[(2, .locA (some 3))]⟩
 |29=>some ⟨false,[],[],[],[],[]⟩
 |30=>some ⟨false,[],[],[(4,[(14, .ty 3),(1, .any),(12, .any),(13, .ty 3)])],[(4,[])],[(4, .ty 3),(5, .ty 29)]⟩
 |31=>some ⟨false,[],[],[],[],[(5, .ty 29)]⟩
 |32=>some ⟨true,[],[],[],[],[(2, .ty 4)]⟩
 |33=>some ⟨true,[],[],[],[],[(8, .ty 29)]⟩
 |34=>some ⟨true,[],[],[],[],[(8, .ty 29)]⟩
 |35=>some ⟨false,[],[(6,9),(6,4),(6,12)],[],[],[]⟩
 |36=>some ⟨true,[],[],[(4,[(5, .ty 3),(3, .loc 25),(2, .loc 25)])],[(4,[])],[(4, .ty 4)]⟩
 |37=>some ⟨true,[],[],[],[],[(2, .ty 4)]⟩
 |38=>some ⟨false,[],[],[],[],[(4, .ty 4)]⟩
 |39=>some ⟨false,[],[],[],[],[(3, .ty 4)]⟩
 |40=>some ⟨false,[],[],[],[],[(4, .ty 4)]⟩
 |41=>some ⟨false,[],[],[],[],[(3, .ty 4)]⟩
 |42=>some ⟨false,[],[],[],[],[(4, .ty 4)]⟩
 |43=>some ⟨true,[],[(1,11),(1,13)],[],[],[(4, .locA (some 3))]⟩
 |44=>some ⟨true,[],[],[],[],[(4, .locA (some 3)),(5, .ty 29)]⟩
 |45=>some ⟨true,[],[],[],[],[(4, .locA (some 3)),(5, .ty 29)]⟩
 |46=>some ⟨true,[],[],[],[],[(4, .locA (some 3)),(5, .ty 29)]⟩
 |47=>some ⟨true,[],[],[(7,[(4, .locA (some 3)),(35, .ty 3),(3, .loc 25),(2, .loc 51),(33, .any),(6, .loc 74),(34, .ty 3)])],[(7,[(4, .locA (some 3)),(2, .loc 51),(3, .loc 25),(6, .loc 74)])],[(4, .locA (some 3)),(5, .ty 29)]⟩
 |48=>some ⟨true,[],[],[(3,[(9, .ty 3),(3, .ty 3),(7, .any),(8, .ty 3)])],[(3,[(3, .ty 3)])],[(2, .ty 3)]⟩
 |49=>some ⟨true,[3],[],[(3,[(3, .any)])],[],[(2, .ty 3)]⟩
 |50=>some ⟨false,[4],[],[(4,[(4, .any),(3, .any)])],[],[(4, .ref)]⟩
 |51=>some ⟨true,[],[],[],[],[(4, .ty 4)]⟩
 |52=>some ⟨true,[],[],[],[],[(2, .ty 4)]⟩
 |53=>some ⟨false,[],[(0,8),(0,4),(0,11)],[],[],[]⟩
 |54=>some ⟨false,[],[],[],[],[]⟩
 |55=>some ⟨false,[],[],[],[],[]⟩
 |56=>some ⟨false,[],[],[],[],[]⟩
 |57=>some ⟨false,[],[(3,8),(3,4),(3,11)],[(1,[(8, .ty 3),(0, .ref),(6, .any),(7, .ty 3)])],[(1,[])],[]⟩
 |58=>some ⟨false,[],[],[],[],[]⟩
 |59=>some ⟨false,[],[],[],[],[]⟩
 |60=>some ⟨true,[],[],[],[],[(2, .ty 4)]⟩
 |61=>some ⟨false,[],[],[],[],[]⟩
 |62=>some ⟨true,[],[],[],[],[(2, .ty 4)]⟩
 |63=>some ⟨true,[],[],[],[],[(2, .ty 3)]⟩
 |64=>some ⟨true,[],[],[],[],[(4, .ty 4)]⟩
 |65=>some ⟨true,[],[],[],[],[(2, .ty 4)]⟩
 |66=>some ⟨true,[],[],[(2,[(0, .ty 9),(6, .any)])],[(2,[(0, .ty 9)])],[(2, .ty 3)]⟩
 |67=>some ⟨false,[],[],[],[],[(6, .locA (some 3))]⟩
 |68=>some ⟨true,[1],[],[(3,[(1, .any)])],[],[(2, .locA (some 3))]⟩
 |69=>some ⟨true,[],[],[],[],[(4, .ty 29)]⟩
 |70=>some ⟨true,[],[],[],[],[(4, .ty 29)]⟩
 |71=>some ⟨false,[],[],[],[],[(2, .ty 9)]⟩
 |72=>some ⟨false,[],[],[],[],[(3, .ty 4)]⟩
 |73=>some ⟨false,[],[],[],[],[]⟩
 |74=>some ⟨false,[],[],[(2,[(8, .ty 3),(0, .any),(1, .any),(7, .ty 3)])],[(2,[])],[(4, .ty 3)]⟩
 |75=>some ⟨false,[],[],[(2,[(8, .ty 3),(0, .any),(1, .any),(7, .ty 3)])],[(2,[])],[(4, .ty 3)]⟩
 |76=>some ⟨false,[],[],[(2,[(8, .ty 3),(0, .any),(1, .any),(7, .ty 3)])],[(2,[])],[(4, .ty 3)]⟩
 |77=>some ⟨true,[],[],[(2,[(6, .locA (some 3)),(15, .ty 3),(4, .loc 25),(3, .loc 51),(13, .any),(14, .ty 3)])],[(2,[(6, .locA (some 3)),(4, .loc 25)])],[(6, .locA (some 3)),(7, .ty 29)]⟩
 |78=>some ⟨true,[],[],[],[],[(6, .locA (some 3))]⟩
 |79=>some ⟨true,[],[],[],[],[(6, .locA (some 3)),(7, .ty 29)]⟩
 |80=>some ⟨true,[],[],[],[],[(4, .locA (some 3)),(5, .ty 29)]⟩
 |81=>some ⟨false,[],[],[],[],[(2, .any)]⟩
 |82=>some ⟨true,[],[],[],[],[(2, .ty 9)]⟩
 |83=>some ⟨true,[],[],[],[],[(4, .ty 3)]⟩
 |84=>some ⟨true,[],[],[(1000001,[(8, .ty 3),(9, .ty 3),(1, .ty 21),(0, .ty 9),(7, .ty 9),(4, .ty 3)]),(5,[(8, .ty 3),(1, .ty 21),(0, .ty 9),(7, .ty 9),(10, .ty 3),(9, .ty 3)]),(1000000,[(8, .ty 3),(1, .ty 21),(0, .ty 9),(7, .ty 9),(9, .ty 3),(10, .ty 3)]),(12,[(8, .ty 3),(1, .ty 21),(0, .ty 9),(7, .ty 9),(9, .ty 3),(10, .ty 3),(12, .ty 3)]),(1000002,[(9, .ty 3),(8, .ty 3),(7, .ty 9),(0, .ty 9),(15, .ty 5),(14, .ty 5)]),(25,[(9, .ty 3),(8, .ty 3),(7, .ty 9),(0, .ty 9),(15, .ty 5),(14, .ty 5)]),(29,[(8, .ty 3),(7, .ty 9),(0, .ty 9),(15, .ty 5),(14, .ty 5),(9, .ty 3),(16, .ty 3)]),(38,[(175, .any)])],[(1000001,[(4, .ty 3)]),(5,[(8, .ty 3),(9, .ty 3),(1, .ty 21),(0, .ty 9),(7, .ty 9)]),(1000000,[(8, .ty 3),(1, .ty 21),(0, .ty 9),(7, .ty 9),(10, .ty 3),(9, .ty 3)]),(12,[(8, .ty 3),(9, .ty 3),(1, .ty 21),(0, .ty 9),(7, .ty 9),(10, .ty 3)]),(1000002,[]),(25,[]),(29,[(8, .ty 3),(9, .ty 3),(7, .ty 9),(0, .ty 9),(15, .ty 5),(14, .ty 5)]),(38,[])],[(4, .ty 3)]⟩
 |85=>some ⟨false,[],[],[],[],[(4, .ty 4)]⟩
 |86=>some ⟨false,[],[(1,9)],[],[],[(8, .locA (some 3))]⟩
 |87=>some ⟨false,[],[(10,7),(10,1),(10,9),(8,3)],[(9,[(8, .dloc (some 3) [.ct .int, .ct .int, .grow (some 3)]),(2, .ty 3),(1, .any),(0, .ref),(6, .locA (some 3))])],[(9,[(6, .locA (some 3)),(8, .dloc (some 3) [.ct .int, .ct .int, .grow (some 3)])])],[(6, .locA (some 3))]⟩
 |88=>some ⟨false,[1],[],[],[],[(2, .any)]⟩
 |89=>some ⟨false,[],[],[],[],[(6, .ty 29)]⟩
 |90=>some ⟨false,[],[],[],[],[(4, .ty 9)]⟩
 |91=>some ⟨false,[],[],[],[],[(2, .ty 4)]⟩
 |92=>some ⟨true,[],[],[],[],[(6, .ty 4)]⟩
 |93=>some ⟨true,[],[(5,4),(5,0),(5,5)],[(3,[(9, .ty 3),(3, .grow (some 3)),(7, .any),(2, .locA (some 3)),(1, .loc 25),(8, .ty 3)])],[(3,[(2, .locA (some 3)),(3, .grow (some 3)),(1, .loc 25)])],[(2, .locA (some 3))]⟩
 |94=>some ⟨false,[],[],[],[],[(6, .locA (some 3)),(7, .ty 4)]⟩
 |95=>some ⟨true,[],[],[],[],[(6, .ty 3),(7, .ty 4)]⟩
 |96=>some ⟨true,[],[],[],[],[(2, .ty 4)]⟩
 |97=>some ⟨false,[2,3,7],[],[],[],[(2, .ref),(3, .ref)]⟩
 |98=>some ⟨false,[],[],[],[],[(4, .locA (some 3))]⟩
 |99=>some ⟨false,[],[(11,7),(11,1),(11,9),(4,6),(4,4)],[(6,[(32, .ty 3),(7, .dloc (some 3) [.ct .int, .ct .int, .grow (some 3)]),(0, .ref),(5, .loc 106),(4, .loc 25),(30, .any),(6, .locA (some 3)),(31, .ty 3)])],[(6,[(6, .locA (some 3)),(7, .dloc (some 3) [.ct .int, .ct .int, .grow (some 3)]),(4, .loc 25),(5, .loc 106),(0, .ref)])],[(6, .locA (some 3))]⟩
 |100=>some ⟨false,[],[],[],[],[]⟩
 |101=>some ⟨false,[],[],[(4,[(18, .ty 3),(2, .any),(3, .loc 25),(1, .ty 3),(16, .any),(17, .ty 3)])],[(4,[])],[(6, .ty 4)]⟩
 |102=>some ⟨true,[],[],[],[],[(2, .ty 9)]⟩
 |103=>some ⟨true,[],[],[],[],[(4, .ty 3)]⟩
 |104=>some ⟨true,[],[],[],[],[(2, .ty 4)]⟩
 |105=>some ⟨true,[],[],[],[],[(2, .ty 3)]⟩
 |107=>some ⟨false,[],[],[],[],[(4, .locA (some 3))]⟩
 |108=>some ⟨false,[],[],[],[],[(6, .locA (some 3))]⟩
 |109=>some ⟨false,[],[(5,1),(10,0),(12,1),(13,1)],[(2,[(6, .locA (some 3)),(11, .ty 3),(4, .loc 9),(2, .any),(0, .ref),(10, .ty 3)])],[(2,[(6, .locA (some 3)),(0, .ref),(4, .loc 9)])],[(6, .locA (some 3))]⟩
 |110=>some ⟨false,[],[],[],[],[(6, .locA (some 3))]⟩
 |111=>some ⟨false,[],[],[(0,[(1, .any),(0, .any)])],[(0,[])],[]⟩
 |112=>some ⟨false,[],[(8,3),(8,0),(8,4),(0,0),(7,0)],[(3,[(13, .ty 3),(6, .grow (some 3)),(1, .any),(11, .any),(12, .ty 3)])],[(3,[(6, .grow (some 3))])],[(4, .ty 23),(5, .ty 4)]⟩
 |113=>some ⟨false,[],[],[],[],[(7, .locA (some 3)),(8, .ty 4)]⟩
 |114=>some ⟨true,[],[],[],[],[(2, .ty 4)]⟩
 |115=>some ⟨false,[],[],[],[],[]⟩
 |116=>some ⟨false,[],[],[],[],[]⟩
 |117=>some ⟨true,[],[(5,5),(5,1),(5,7),(7,4),(7,1),(7,6),(1,5),(1,3)],[(3,[(13, .ty 3),(3, .dloc (some 2) [.grow (some 3), .ct .int]),(11, .any),(2, .locA (some 2)),(12, .ty 3)])],[(3,[(2, .locA (some 2)),(3, .dloc (some 2) [.grow (some 3), .ct .int])])],[(2, .locA (some 2))]⟩
 |118=>some ⟨false,[],[],[],[],[(6, .locA (some 3))]⟩
 |119=>some ⟨true,[],[],[],[],[(4, .locA (some 3))]⟩
 |120=>some ⟨true,[],[],[],[],[(2, .ty 4)]⟩
 |121=>some ⟨true,[],[],[],[],[(4, .ty 9)]⟩
 |123=>some ⟨false,[],[],[],[],[(3, .ty 4)]⟩
 |124=>some ⟨true,[],[(9,2),(13,2),(13,0),(13,3),(0,0)],[(3,[(11, .ty 3),(3, .ty 3),(9, .any),(0, .any),(10, .ty 3)]),(11,[(27, .ty 3),(6, .grow (some 3)),(25, .any),(26, .ty 3)])],[(3,[(0, .ty 154),(3, .ty 3)]),(11,[(6, .grow (some 3))])],[(2, .ty 23)]⟩
 |125=>some ⟨true,[],[],[],[],[(2, .ty 9)]⟩
 |126=>some ⟨true,[],[],[],[],[(2, .ty 3)]⟩
 |127=>some ⟨true,[],[],[(1,[(4, .ty 3),(0, .any),(1, .ty 149)])],[(1,[(0, .ty 31),(4, .ty 3),(1, .ty 149)])],[]⟩
 |128=>some ⟨true,[],[(29,3),(29,0),(29,4)],[(18,[(12, .loc 159),(17, .ty 149),(1, .ty 149),(13, .ty 3),(11, .ty 9),(0, .any),(10, .grow none),(4, .ty 4),(3, .ty 4)]),(11,[(14, .ty 133),(1, .ty 149),(12, .loc 159),(16, .ty 133),(13, .ty 3),(11, .ty 9),(0, .any),(10, .grow none),(4, .ty 4),(3, .ty 4),(15, .ty 149)])],[(18,[(11, .ty 9),(12, .loc 159),(0, .ty 31),(10, .grow none),(4, .ty 4),(3, .ty 4),(1, .ty 149),(13, .ty 3)]),(11,[(11, .ty 9),(12, .loc 159),(0, .ty 31),(10, .grow none),(4, .ty 4),(3, .ty 4),(1, .ty 149),(13, .ty 3)])],[(10, .grow none),(11, .ty 9)]⟩
 |129=>some ⟨true,[],[(5,5),(0,0)],[],[],[(4, .ty 23)]⟩
 |130=>some ⟨true,[],[],[],[],[(2, .ty 3)]⟩
 |131=>some ⟨true,[],[],[],[],[(2, .ty 3)]⟩
 |132=>some ⟨true,[],[],[],[],[(2, .ty 3)]⟩
 |133=>some ⟨true,[],[],[],[],[(2, .ty 4)]⟩
 |134=>some ⟨true,[],[],[],[],[(2, .ty 3)]⟩
 |135=>some ⟨true,[],[],[],[],[(2, .ty 3)]⟩
 |136=>some ⟨true,[],[],[],[],[(2, .ty 3)]⟩
 |159=>some ⟨true,[],[],[],[],[]⟩
 |_=>none
def cfg:Cfg:=Cfg.of zvR [109] [97,98,99,116,118]
end Go.Proofs.SZ
namespace Go.Proofs.SZ
open Go Go.AM Go.RowKit
set_option maxRecDepth 100000
theorem zr4{P:Program}{ρ:Go.Shelf.Ren}(L:Lays8.n4 P ρ){fn:Func}(hf:P.funcs[ρ.f 4]? =some fn)(hb:fn.body.isSome=true){i0:TypeInfo}(hi0:P.info? (ρ.t 25)=some i0){z:Value}(hz:i0.zero=some z)(hzl:z.cells.size=i0.size):GrowAt P (ρ.f 4) (ρ.t 25):=by
 refine⟨⟨fn,hf,hb⟩,fun k w i hi hs hb2 hk=> ?_⟩
 rw[hi0]at hi
 cases hi
 by_cases h0:k=0
 ·subst h0
  exact(Any8.slices_Grow_room L none 0 0 0 w (Nat.le_refl _) (by decide) (by decide) (Nat.le_refl _)).mono fun ed w' h=> .inl h
 ·have hk63:k≤140737488355328:=Nat.le_trans (Nat.le_mul_of_pos_right k hb2) hk
  refine(Any8.slices_Grow_grow L i0 z hi0 hz hs none 0 0 k [] w (Nat.le_refl _) (by omega) (by simpa using hk) (by omega) (by simp) (fun _=>rfl) (fun a h=>by cases h)).mono fun ed w' h=> .inr ⟨_,_,h.1,h.2, ?_⟩
  have hge:0+k≤grownCap w (0+k) 0 (ρ.t 25):=grownCap_ge w _ _ _
  generalize grownCap w (0+k) 0 (ρ.t 25)=G at hge⊢
  simp only[Array.size_append,List.size_toArray,List.length_nil,Nat.zero_add,size_zeroCells,hzl]
  rw[←Nat.add_mul]
  congr 1
  omega
theorem names:(Tryz.prog.funcs.all fun fn=>fn.name != "runtime.NumGoroutine")=true:=by kernel_rfl
def zpo:Go.Shelf.Ren:=⟨fun|4=>129|_=>0,fun|0=>0|3=>3|4=>4|9=>9|20=>20|22=>23|25=>25|_=>0,fun _=>0⟩
theorem zn8:Lays8.n4 Tryz.prog zpo where
 mixed:=by kernel_rfl
 f4:=⟨"slices.Grow[[]amanuensis/api.Term,amanuensis/api.Term]",by decide,Tryz.func129.trans (congrArg some (by kernel_rfl))⟩
 t0:=Tryz.underlying0
 a0:=Tryz.isAgg0
 z0:=Tryz.sizeOf0
 v0:=Tryz.zeroValue0
 t3:=Tryz.underlying3
 a3:=Tryz.isAgg3
 z3:=Tryz.sizeOf3
 v3:=Tryz.zeroValue3
 t4:=Tryz.underlying4
 a4:=Tryz.isAgg4
 z4:=Tryz.sizeOf4
 v4:=Tryz.zeroValue4
 t9:=Tryz.underlying9
 a9:=Tryz.isAgg9
 z9:=Tryz.sizeOf9
 v9:=Tryz.zeroValue9
 t20:=Tryz.underlying20
 a20:=Tryz.isAgg20
 z20:=Tryz.sizeOf20
 v20:=Tryz.zeroValue20
 t22:=Tryz.underlying23
 a22:=Tryz.isAgg23
 z22:=Tryz.sizeOf23
 v22:=Tryz.zeroValue23
theorem zr5:GrowAt Tryz.prog 129 25:=zr4 zn8 Tryz.func129 rfl rfl rfl rfl
theorem zte:((List.range Tryz.prog.funcs.size).all fun g=>match growElem Tryz.prog g with|none=>true|some e=>(g==129&&e==25))=true:=by kernel_rfl
theorem plainNames:PlainNames Tryz.prog where
 names f fn h e:=by
  have:=Array.all_eq_true_iff_forall_mem.1 names fn (Array.mem_of_getElem? h)
  simp[e]at this
 grow g e h:=by
  have hg:g<Tryz.prog.funcs.size:=by
   unfold growElem at h
   split at h
   ·rename_i hh;exact(Array.getElem?_eq_some_iff.1 hh).1
   ·cases h
  have:=List.all_eq_true.1 zte g (List.mem_range.2 hg)
  simp only[h]at this
  simp only[Bool.or_eq_true,Bool.and_eq_true,beq_iff_eq]at this
  rcases this with⟨rfl,rfl⟩
  ·exact zr5
end Go.Proofs.SZ
namespace Go.Proofs.SZ
open Go Go.AM Go.RowKit
set_option maxRecDepth 100000
noncomputable def ext:Ext:=fun f=>bif Nat.beq f 97 then some (fun O args st=>zeN Tryz.prog cfg O 97 args st)
 else bif Nat.beq f 82 then some (fun _ args st=>zq5 args st)else none
def zui:Go.Shelf.Ren:=⟨fun|129=>131|171=>82|243=>102|246=>121|283=>125|284=>126|285=>127|286=>128|317=>130|318=>132|319=>133|320=>134|337=>135|338=>136|n=>n,fun|0=>0|2=>2|3=>3|4=>4|5=>5|9=>9|20=>20|37=>31|46=>133|51=>158|53=>149|171=>148|173=>152|212=>157|213=>159|232=>163|233=>164|n=>n,fun|17=>1|18=>2|19=>3|n=>n⟩
theorem ztf:Lays.n171 Tryz.prog zui where
 mixed:=by kernel_rfl
 f129:=Tryz.func131.trans (congrArg some (by kernel_rfl))
 f171:=Tryz.func82.trans (congrArg some (by kernel_rfl))
 f243:=Tryz.func102.trans (congrArg some (by kernel_rfl))
 f246:=Tryz.func121.trans (congrArg some (by kernel_rfl))
 f283:=Tryz.func125.trans (congrArg some (by kernel_rfl))
 f284:=Tryz.func126.trans (congrArg some (by kernel_rfl))
 f285:=Tryz.func127.trans (congrArg some (by kernel_rfl))
 f286:=Tryz.func128.trans (congrArg some (by kernel_rfl))
 f317:=Tryz.func130.trans (congrArg some (by kernel_rfl))
 f318:=Tryz.func132.trans (congrArg some (by kernel_rfl))
 f319:=Tryz.func133.trans (congrArg some (by kernel_rfl))
 f320:=Tryz.func134.trans (congrArg some (by kernel_rfl))
 f337:=Tryz.func135.trans (congrArg some (by kernel_rfl))
 f338:=Tryz.func136.trans (congrArg some (by kernel_rfl))
 t0:=Tryz.underlying0
 a0:=Tryz.isAgg0
 z0:=Tryz.sizeOf0
 v0:=Tryz.zeroValue0
 t2:=Tryz.underlying2
 a2:=Tryz.isAgg2
 z2:=Tryz.sizeOf2
 v2:=Tryz.zeroValue2
 t3:=Tryz.underlying3
 a3:=Tryz.isAgg3
 z3:=Tryz.sizeOf3
 v3:=Tryz.zeroValue3
 t4:=Tryz.underlying4
 a4:=Tryz.isAgg4
 z4:=Tryz.sizeOf4
 v4:=Tryz.zeroValue4
 t5:=Tryz.underlying5
 a5:=Tryz.isAgg5
 z5:=Tryz.sizeOf5
 v5:=Tryz.zeroValue5
 t9:=Tryz.underlying9
 a9:=Tryz.isAgg9
 z9:=Tryz.sizeOf9
 v9:=Tryz.zeroValue9
 t20:=Tryz.underlying20
 a20:=Tryz.isAgg20
 z20:=Tryz.sizeOf20
 v20:=Tryz.zeroValue20
 t37:=Tryz.underlying31
 a37:=Tryz.isAgg31
 z37:=Tryz.sizeOf31
 v37:=Tryz.zeroValue31
 t46:=Tryz.underlying133
 a46:=Tryz.isAgg133
 z46:=Tryz.sizeOf133
 v46:=Tryz.zeroValue133
 t51:=Tryz.underlying158
 a51:=Tryz.isAgg158
 z51:=Tryz.sizeOf158
 v51:=Tryz.zeroValue158
 t53:=Tryz.underlying149
 a53:=Tryz.isAgg149
 z53:=Tryz.sizeOf149
 v53:=Tryz.zeroValue149
 t171:=Tryz.underlying148
 a171:=Tryz.isAgg148
 z171:=Tryz.sizeOf148
 v171:=Tryz.zeroValue148
 t173:=Tryz.underlying152
 a173:=Tryz.isAgg152
 z173:=Tryz.sizeOf152
 v173:=Tryz.zeroValue152
 t212:=Tryz.underlying157
 a212:=Tryz.isAgg157
 z212:=Tryz.sizeOf157
 v212:=Tryz.zeroValue157
 t213:=Tryz.underlying159
 a213:=Tryz.isAgg159
 z213:=Tryz.sizeOf159
 t232:=Tryz.underlying163
 a232:=Tryz.isAgg163
 z232:=Tryz.sizeOf163
 v232:=Tryz.zeroValue163
 t233:=Tryz.underlying164
 a233:=Tryz.isAgg164
 z233:=Tryz.sizeOf164
 v233:=Tryz.zeroValue164
 g17:=by kernel_rfl
 g18:=by kernel_rfl
 g19:=by kernel_rfl
theorem zvf:zsU Tryz.prog 82:=⟨⟨_,Tryz.func82,rfl⟩,fun i hi w=>Any.strconv_Itoa_small ztf i hi w⟩
theorem extOK:zhE Tryz.prog cfg ext:=fun f x h O hC hRd args st y hy=>by
 unfold ext at h
 cases h97:Nat.beq f 97
 case true=>
  rw[h97]at h
  cases h
  obtain rfl:=Nat.eq_of_beq_eq_true h97
  exact zsT plainNames hC hRd _ _ _ _ hy
 rw[h97]at h
 cases h82:Nat.beq f 82
 case true=>
  rw[h82]at h
  cases h
  obtain rfl:=Nat.eq_of_beq_eq_true h82
  exact zsV zvf hy
 rw[h82]at h
 cases h
theorem ziT:zdw ext:=fun f x h=>by
 unfold ext at h
 cases h97:Nat.beq f 97
 case true=>
  rw[h97]at h
  cases h
  exact fun Os O hO args st x hx=>zr2 hO hx
 rw[h97]at h
 cases h82:Nat.beq f 82
 case true=>
  rw[h82]at h
  cases h
  exact fun Os O hO args st x hx=> .of fun _=>hx
 rw[h82]at h
 cases h
class NoExt(f:Nat):Prop where
 h:ext f=none
instance:NoExt 2:=⟨rfl⟩
instance:NoExt 3:=⟨rfl⟩
instance:NoExt 4:=⟨rfl⟩
instance:NoExt 5:=⟨rfl⟩
instance:NoExt 6:=⟨rfl⟩
instance:NoExt 7:=⟨rfl⟩
instance:NoExt 8:=⟨rfl⟩
instance:NoExt 9:=⟨rfl⟩
instance:NoExt 10:=⟨rfl⟩
instance:NoExt 11:=⟨rfl⟩
instance:NoExt 12:=⟨rfl⟩
instance:NoExt 13:=⟨rfl⟩
instance:NoExt 14:=⟨rfl⟩
instance:NoExt 15:=⟨rfl⟩
instance:NoExt 16:=⟨rfl⟩
instance:NoExt 17:=⟨rfl⟩
instance:NoExt 18:=⟨rfl⟩
instance:NoExt 19:=⟨rfl⟩
instance:NoExt 20:=⟨rfl⟩
instance:NoExt 21:=⟨rfl⟩
instance:NoExt 22:=⟨rfl⟩
instance:NoExt 23:=⟨rfl⟩
instance:NoExt 24:=⟨rfl⟩
instance:NoExt 25:=⟨rfl⟩
instance:NoExt 26:=⟨rfl⟩
instance:NoExt 27:=⟨rfl⟩
instance:NoExt 28:=⟨rfl⟩
instance:NoExt 29:=⟨rfl⟩
instance:NoExt 30:=⟨rfl⟩
instance:NoExt 31:=⟨rfl⟩
instance:NoExt 32:=⟨rfl⟩
instance:NoExt 33:=⟨rfl⟩
instance:NoExt 34:=⟨rfl⟩
instance:NoExt 35:=⟨rfl⟩
instance:NoExt 36:=⟨rfl⟩
instance:NoExt 37:=⟨rfl⟩
instance:NoExt 38:=⟨rfl⟩
instance:NoExt 39:=⟨rfl⟩
instance:NoExt 40:=⟨rfl⟩
instance:NoExt 41:=⟨rfl⟩
instance:NoExt 42:=⟨rfl⟩
instance:NoExt 43:=⟨rfl⟩
instance:NoExt 44:=⟨rfl⟩
instance:NoExt 45:=⟨rfl⟩
instance:NoExt 46:=⟨rfl⟩
instance:NoExt 47:=⟨rfl⟩
instance:NoExt 48:=⟨rfl⟩
instance:NoExt 49:=⟨rfl⟩
instance:NoExt 50:=⟨rfl⟩
instance:NoExt 51:=⟨rfl⟩
instance:NoExt 52:=⟨rfl⟩
instance:NoExt 53:=⟨rfl⟩
instance:NoExt 54:=⟨rfl⟩
instance:NoExt 55:=⟨rfl⟩
instance:NoExt 56:=⟨rfl⟩
instance:NoExt 57:=⟨rfl⟩
instance:NoExt 58:=⟨rfl⟩
instance:NoExt 59:=⟨rfl⟩
instance:NoExt 60:=⟨rfl⟩
instance:NoExt 61:=⟨rfl⟩
instance:NoExt 62:=⟨rfl⟩
instance:NoExt 63:=⟨rfl⟩
instance:NoExt 64:=⟨rfl⟩
instance:NoExt 65:=⟨rfl⟩
instance:NoExt 66:=⟨rfl⟩
instance:NoExt 67:=⟨rfl⟩
instance:NoExt 68:=⟨rfl⟩
instance:NoExt 69:=⟨rfl⟩
instance:NoExt 70:=⟨rfl⟩
instance:NoExt 71:=⟨rfl⟩
instance:NoExt 72:=⟨rfl⟩
instance:NoExt 73:=⟨rfl⟩
instance:NoExt 74:=⟨rfl⟩
instance:NoExt 75:=⟨rfl⟩
instance:NoExt 76:=⟨rfl⟩
instance:NoExt 77:=⟨rfl⟩
instance:NoExt 78:=⟨rfl⟩
instance:NoExt 79:=⟨rfl⟩
instance:NoExt 80:=⟨rfl⟩
instance:NoExt 81:=⟨rfl⟩
instance:NoExt 83:=⟨rfl⟩
instance:NoExt 84:=⟨rfl⟩
instance:NoExt 85:=⟨rfl⟩
instance:NoExt 86:=⟨rfl⟩
instance:NoExt 87:=⟨rfl⟩
instance:NoExt 88:=⟨rfl⟩
instance:NoExt 89:=⟨rfl⟩
instance:NoExt 90:=⟨rfl⟩
instance:NoExt 91:=⟨rfl⟩
instance:NoExt 92:=⟨rfl⟩
instance:NoExt 93:=⟨rfl⟩
instance:NoExt 94:=⟨rfl⟩
instance:NoExt 95:=⟨rfl⟩
instance:NoExt 96:=⟨rfl⟩
instance:NoExt 98:=⟨rfl⟩
instance:NoExt 99:=⟨rfl⟩
instance:NoExt 100:=⟨rfl⟩
instance:NoExt 101:=⟨rfl⟩
instance:NoExt 102:=⟨rfl⟩
instance:NoExt 103:=⟨rfl⟩
instance:NoExt 104:=⟨rfl⟩
instance:NoExt 105:=⟨rfl⟩
instance:NoExt 107:=⟨rfl⟩
instance:NoExt 108:=⟨rfl⟩
instance:NoExt 109:=⟨rfl⟩
instance:NoExt 110:=⟨rfl⟩
instance:NoExt 111:=⟨rfl⟩
instance:NoExt 112:=⟨rfl⟩
instance:NoExt 113:=⟨rfl⟩
instance:NoExt 114:=⟨rfl⟩
instance:NoExt 115:=⟨rfl⟩
instance:NoExt 116:=⟨rfl⟩
instance:NoExt 117:=⟨rfl⟩
instance:NoExt 118:=⟨rfl⟩
instance:NoExt 119:=⟨rfl⟩
instance:NoExt 120:=⟨rfl⟩
instance:NoExt 121:=⟨rfl⟩
instance:NoExt 123:=⟨rfl⟩
instance:NoExt 124:=⟨rfl⟩
instance:NoExt 125:=⟨rfl⟩
instance:NoExt 126:=⟨rfl⟩
instance:NoExt 127:=⟨rfl⟩
instance:NoExt 128:=⟨rfl⟩
instance:NoExt 129:=⟨rfl⟩
instance:NoExt 130:=⟨rfl⟩
instance:NoExt 131:=⟨rfl⟩
instance:NoExt 132:=⟨rfl⟩
instance:NoExt 133:=⟨rfl⟩
instance:NoExt 134:=⟨rfl⟩
instance:NoExt 135:=⟨rfl⟩
instance:NoExt 136:=⟨rfl⟩
instance:NoExt 159:=⟨rfl⟩
end Go.Proofs.SZ
namespace Go.Ama
abbrev Bytes:=List UInt8
abbrev Tok:=Int×Bytes
def blank(c:UInt8):Bool:=c==32||c==9||c==10
def mark(c:UInt8):Bool:=c==40||c==41||c==91||c==93||c==123||c==125||c==58||c==46
def named(c:UInt8):Bool:=(decide (97≤c)&&decide (c≤122))||(decide (65≤c)&&decide (c≤90))||(decide (48≤c)&&decide (c≤57))||c==95||c==39
def YR(c:UInt8):Bool:=c !=10
theorem Yn{α:Type}(p:α→Bool): ∀l:List α,(l.dropWhile p).length≤l.length
 |[]=>Nat.le_refl _
 |x::l=>by
  rw[List.dropWhile_cons]
  split
  ·have:=Yn p l;simp;omega
  ·exact Nat.le_refl _
def YE:Bytes→Option (List Tok)
 |[]=>some []
 |c::r=>
  if blank c then YE r
  else if c==37 then YE (r.dropWhile YR)
  else if mark c then(YE r).map ((1,[c]):: ·)
  else if named c then(YE (r.dropWhile named)).map ((0,c::r.takeWhile named):: ·)
  else none
termination_by l=>l.length
decreasing_by
 all_goals first
  |(simp;done)
  |(have:=Yn YR r;simp;omega)
  |(have:=Yn named r;simp;omega)
def ZQ:Int→List Tok→Bytes
 |_,[]=> []
 |last,(k,s)::l=>(if k=0∧last=0 then[32]else[])++s++ZQ k l
def text(l:List Tok):Bytes:=ZQ 1 l
theorem zd2:YE []=some []:=by unfold YE;rfl
theorem QW{c:UInt8}(r:Bytes)(h:blank c=true):YE (c::r)=YE r:=by rw[YE,if_pos h]
theorem zgX{c:UInt8}(r:Bytes)(h:c=37):YE (c::r)=YE (r.dropWhile YR):=by subst h;rw[YE,if_neg (by decide),if_pos (by decide)]
theorem zfr{c:UInt8}(h:mark c=true):blank c=false∧(c==37)=false∧named c=false:=by
 simp only[mark,Bool.or_eq_true,beq_iff_eq]at h
 rcases h with((((((h|h)|h)|h)|h)|h)|h)|h<;>subst h<;>decide
theorem zgh{p:UInt8→Prop}(h: ∀n:Fin 256,p (UInt8.ofNat n.val))(c:UInt8):p c:=by
 have:=h ⟨c.toNat,c.toNat_lt⟩
 simpa using this
theorem zr6: ∀n:Fin 256,named (UInt8.ofNat n.val)=true→blank (UInt8.ofNat n.val)=false∧(UInt8.ofNat n.val==37)=false∧mark (UInt8.ofNat n.val)=false∧YR (UInt8.ofNat n.val)=true:=by decide+kernel
theorem zhL{c:UInt8}(h:named c=true):blank c=false∧(c==37)=false∧mark c=false∧YR c=true:=by
 exact zgh (p:=fun c=>named c=true→blank c=false∧(c==37)=false∧mark c=false∧YR c=true) zr6 c h
theorem za2{c:UInt8}(r:Bytes)(h:mark c=true):YE (c::r)=(YE r).map ((1,[c]):: ·):=by
 obtain⟨h1,h2,_⟩:=zfr h
 rw[YE,if_neg (by simp[h1]),if_neg (by simp[h2]),if_pos h]
theorem zbK{c:UInt8}(r:Bytes)(h:named c=true):YE (c::r)=(YE (r.dropWhile named)).map ((0,c::r.takeWhile named):: ·):=by
 obtain⟨h1,h2,h3,_⟩:=zhL h
 rw[YE,if_neg (by simp[h1]),if_neg (by simp[h2]),if_neg (by simp[h3]),if_pos h]
theorem zgi{c:UInt8}(r:Bytes)(h1:blank c=false)(h2:(c==37)=false)(h3:mark c=false)(h4:named c=false):YE (c::r)=none:=by
 rw[YE,if_neg (by simp[h1]),if_neg (by simp[h2]),if_neg (by simp[h3]),if_neg (by simp[h4])]
theorem zgY{p:Bytes→Prop}(h0:p [])(h1: ∀c r,blank c=true→p r→p (c::r))(h2: ∀r,p (r.dropWhile YR)→p (37::r))(h3: ∀c r,mark c=true→p r→p (c::r))
  (h4: ∀c r,named c=true→p (r.dropWhile named)→p (c::r)) (h5: ∀c r,blank c=false→(c==37)=false→mark c=false→named c=false→p (c::r)): ∀l,p l:=by
 intro l
 generalize hn:l.length=n
 induction n using Nat.strongRecOn generalizing l with
 |_ n ih=>
  subst hn
  cases l with
  |nil=>exact h0
  |cons c r=>
   cases b1:blank c with
   |true=>exact h1 c r b1 (ih r.length (by simp) r rfl)
   |false=>
    cases b2:c==37 with
    |true=>
     rw[beq_iff_eq]at b2;subst b2
     exact h2 r (ih _ (by have:=Yn YR r;simp;omega) _ rfl)
    |false=>
     cases b3:mark c with
     |true=>exact h3 c r b3 (ih r.length (by simp) r rfl)
     |false=>
      cases b4:named c with
      |true=>exact h4 c r b4 (ih _ (by have:=Yn named r;simp;omega) _ rfl)
      |false=>exact h5 c r b1 b2 b3 b4
def zbL(t:Tok):Prop:=(t.1=1∧ ∃c,t.2=[c]∧mark c=true)∨(t.1=0∧t.2≠ []∧ ∀c∈t.2,named c=true)
theorem zeR{α:Type}{p:α→Bool}: ∀{l:List α} {x:α},x∈l.takeWhile p→p x=true
 |[],_,h=>by simp at h
 |y::l,x,h=>by
  rw[List.takeWhile_cons]at h
  split at h
  ·rename_i hy
   rcases List.mem_cons.1 h with rfl|h
   ·exact hy
   ·exact zeR h
  ·simp at h
theorem zmf: ∀(b:Bytes) (l:List Tok),YE b=some l→ ∀t∈l,zbL t:=by
 refine zgY ?_ ?_ ?_ ?_ ?_ ?_
 ·intro l h t ht;rw[zd2]at h;cases h;simp at ht
 ·intro c r hc ih l h;rw[QW r hc]at h;exact ih l h
 ·intro r ih l h;rw[zgX r rfl]at h;exact ih l h
 ·intro c r hc ih l h t ht
  rw[za2 r hc,Option.map_eq_some_iff]at h
  obtain⟨l',h,rfl⟩:=h
  rcases List.mem_cons.1 ht with rfl|ht
  ·exact .inl ⟨rfl,c,rfl,hc⟩
  ·exact ih l' h t ht
 ·intro c r hc ih l h t ht
  rw[zbK r hc,Option.map_eq_some_iff]at h
  obtain⟨l',h,rfl⟩:=h
  rcases List.mem_cons.1 ht with rfl|ht
  ·refine .inr ⟨rfl,by simp,fun x hx=> ?_⟩
   rcases List.mem_cons.1 hx with rfl|hx
   ·exact hc
   ·exact zeR hx
  ·exact ih l' h t ht
 ·intro c r h1 h2 h3 h4 l h;rw[zgi r h1 h2 h3 h4]at h;cases h
theorem zbx{α:Type}{p:α→Bool}: ∀(a b:List α),(∀x∈a,p x=true)→(∀x,b.head? =some x→p x=false)→(a++b).takeWhile p=a∧(a++b).dropWhile p=b
 |[],b,_,hb=>by
  cases b with
  |nil=>exact⟨rfl,rfl⟩
  |cons x b=>simp[List.takeWhile_cons,List.dropWhile_cons,hb x rfl]
 |x::a,b,ha,hb=>by
  obtain⟨h1,h2⟩:=zbx a b (fun y hy=>ha y (by simp[hy])) hb
  simp[List.takeWhile_cons,List.dropWhile_cons,ha x (by simp),h1,h2]
theorem zr7{k:Int}: ∀(l:List Tok),(∀t∈l,zbL t)→k=0→ ∀x,(ZQ k l).head?=some x→named x=false
 |[],_,_,x,h=>by simp[ZQ]at h
 |(j,s)::l,hl,hk,x,h=>by
  subst hk
  rcases hl (j,s) (by simp)with⟨h1,c,h2,h3⟩|⟨h1,h2,h3⟩
  ·simp only at h1 h2;subst h1 h2
   have e:(ZQ 0 ((1,[c])::l))=c::ZQ 1 l:=by simp[ZQ]
   rw[e]at h
   simp only[List.head?_cons,Option.some.injEq]at h
   subst h;exact(zfr h3).2.2
  ·simp only at h1 h2;subst h1
   have e:(ZQ 0 ((0,s)::l))=32::(s++ZQ 0 l):=by simp[ZQ]
   rw[e]at h
   simp only[List.head?_cons,Option.some.injEq]at h
   subst h;decide
theorem Xt{α:Type}(p:α→Bool)(l:List α):(l.takeWhile p).length+(l.dropWhile p).length=l.length:=by
 rw[←List.length_append,List.takeWhile_append_dropWhile]
def Yk:List Tok→Nat
 |[]=>0
 |(_,s)::l=>s.length+Yk l
theorem zn9: ∀(b:Bytes) (l:List Tok),YE b=some l→Yk l≤b.length:=by
 refine zgY ?_ ?_ ?_ ?_ ?_ ?_
 ·intro l h;rw[zd2]at h;cases h;simp[Yk]
 ·intro c r hc ih l h;rw[QW r hc]at h;have:=ih l h;simp;omega
 ·intro r ih l h;rw[zgX r rfl]at h;have:=ih l h;have:=Yn YR r;simp;omega
 ·intro c r hc ih l h
  rw[za2 r hc,Option.map_eq_some_iff]at h
  obtain⟨l',h,rfl⟩:=h
  have:=ih l' h;simp[Yk];omega
 ·intro c r hc ih l h
  rw[zbK r hc,Option.map_eq_some_iff]at h
  obtain⟨l',h,rfl⟩:=h
  have:=ih l' h
  have:=Xt named r
  simp[Yk];omega
 ·intro c r h1 h2 h3 h4 l h;rw[zgi r h1 h2 h3 h4]at h;cases h
theorem zbM: ∀(l:List Tok),(∀t∈l,zbL t)→l.length≤Yk l
 |[],_=>by simp[Yk]
 |(j,s)::l,h=>by
  have:=zbM l fun t ht=>h t (by simp[ht])
  have hs:1≤s.length:=by
   rcases h (j,s) (by simp)with⟨_,c,h2,_⟩|⟨_,h2,_⟩
   ·simp only at h2;rw[h2];simp
   ·cases s with
    |nil=>exact absurd rfl h2
    |cons=>simp
  simp[Yk];omega
theorem zcI: ∀(l:List Tok) (k:Int),(ZQ k l).length≤Yk l+l.length
 |[],_=>by simp[ZQ]
 |(j,s)::l,k=>by
  have:=zcI l j
  simp only[ZQ,Yk,List.length_append,List.length_cons]
  split<;>simp<;>omega
end Go.Ama
namespace Go.Ama
open Go Go.AM
def ba(l:Bytes):ByteArray:=⟨l.toArray⟩
def XP(l:Bytes):List V:=l.map fun b=> .ik .u8 (b.toNat:Int)
def zby(t:Tok):V:= .agg [.int t.1, .str (ba t.2)]
def Zw(l:List Tok):List V:=l.map zby
theorem zuj(s:ByteArray):ba s.data.toList=s:=by cases s;simp[ba]
theorem zvg{a b:Bytes}:ba a=ba b↔a=b:=by
 constructor
 ·intro h
  have:(ba a).data.toList=(ba b).data.toList:=by rw[h]
  simpa[ba]using this
 ·rintro rfl;rfl
theorem Xn(l:Bytes):(ba l).size=l.length:=by simp[ba,ByteArray.size]
theorem za3(l:Bytes):(ba l).toList=l:=by rw[ByteArray.toList_eq];simp[ba]
theorem ztg(l:Bytes):(ba l).data.toList=l:=by simp[ba]
theorem zkI(a b:Bytes):ba a++ba b=ba (a++b):=by
 apply ByteArray.ext
 simp[ba,ByteArray.data_append]
theorem zfs(l:Bytes)(i j:Nat):(ba l).extract i j=ba ((l.take j).drop i):=by
 apply ByteArray.ext
 simp[ba,ByteArray.data_extract,List.drop_take]
theorem zgj(a b:Bytes):((ba a).toList==(ba b).toList)=decide (a=b):=by
 rw[za3,za3]
 by_cases h:a=b<;>simp[h]
theorem zgZ(l:Bytes):Xr (ba l)=XP l:=by simp[Xr,ba,XP]
theorem zkJ(l:Bytes):XF (XP l)=ba l:=by
 unfold XF XP ba
 congr 1
 rw[List.map_map]
 congr 1
 conv=>rhs;rw[←List.map_id l]
 apply List.map_congr_left
 intro b _
 simp[zlp]
theorem zkK(l:Bytes):(XP l).all zio=true:=by
 rw[List.all_eq_true]
 intro v hv
 obtain⟨b,_,rfl⟩:=List.mem_map.1 hv
 rfl
@[simp] theorem zbg(l:Bytes):(XP l).length=l.length:=by simp[XP]
theorem zd3(a b:Bytes):XP (a++b)=XP a++XP b:=by simp[XP]
@[simp] theorem Xu(l:List Tok):(Zw l).length=l.length:=by simp[Zw]
theorem Ju(a b:List Tok):Zw (a++b)=Zw a++Zw b:=by simp[Zw]
theorem zmg{l:List Tok}{i:Nat}(h:i<l.length):ZW (Zw l) (i:Int)=zby l[i]:=by
 simp[ZW,Zw,List.getD_eq_getElem?_getD,List.getElem?_map,h]
theorem Xh(n:Nat): ∀l:Bytes,Zi n (XP l)=true
 |[]=>rfl
 |b::l=>by
  have:=Xh n l
  simp only[XP]at this
  simp[XP,Zi,below,this]
theorem Qj(n:Nat): ∀l:List Tok,Zi n (Zw l)=true
 |[]=>rfl
 |t::l=>by
  have:=Qj n l
  simp only[Zw]at this
  simp[Zw,zby,Zi,below,this]
theorem zvh{l:Bytes}{i:Nat}(h:i<l.length):((ba l).data.toList.getD i 0)=l[i]:=by
 rw[ztg,List.getD_eq_getElem?_getD,List.getElem?_eq_getElem h];rfl
theorem zq7{l:Bytes}{i:Nat}(h:i<l.length):(ba l).get! i=l[i]:=by
 show(ba l).data[i]! =l[i]
 have:(ba l).data=l.toArray:=rfl
 rw[this,getElem!_pos l.toArray i (by simpa using h)]
 simp
theorem zr8{l:Bytes}{i:Nat}(h:i<l.length)(h1:l[i]<128):Utf8.decode (ba l) i=(l[i].toNat,1):=by
 have e:((ba l).get! (i+0)).toNat=l[i].toNat:=by rw[Nat.add_zero,zq7 h]
 have h2:l[i].toNat<128:=by simpa[UInt8.lt_iff_toNat_lt]using h1
 unfold Utf8.decode
 simp only[e]
 rw[if_pos h2]
theorem zr9{l:Bytes}{i:Nat}(h:i<l.length)(h1:128≤l[i]):128≤(Utf8.decode (ba l) i).1:=by
 have e:((ba l).get! (i+0)).toNat=l[i].toNat:=by rw[Nat.add_zero,zq7 h]
 have h2: ¬l[i].toNat<128:=by
  have:128≤l[i].toNat:=by simpa[UInt8.le_iff_toNat_le]using h1
  omega
 unfold Utf8.decode
 simp only[e]
 rw[if_neg h2]
 split
 ·split
  ·simpa using‹_›
  ·simp[Utf8.runeError]
 ·split
  ·split
   ·rename_i h;simp at h;simp;omega
   ·simp[Utf8.runeError]
  ·split
   ·split
    ·rename_i h;simp at h;simp;omega
    ·simp[Utf8.runeError]
   ·simp[Utf8.runeError]
end Go.Ama
namespace Go.Proofs.SZ
open Go Go.AM Go.Ama
noncomputable abbrev W:Oracle:=Om Tryz.prog cfg ext
theorem C(f:Nat)(args:List V)(st:St)[h:NoExt f]:W.call f args st=Zf Tryz.prog cfg W f args st:=
 (zq4 ziT f args st).trans (by show(match ext f with|some x=>x W args st|none=>Zf Tryz.prog cfg W f args st)=_;rw[h.h])
theorem Cx(f:Nat){x:Oracle→List V→St→Option (Out×St)}(args:List V)(st:St)(h:ext f=some x):W.call f args st=x W args st:=
 (zq4 ziT f args st).trans (by show(match ext f with|some x=>x W args st|none=>Zf Tryz.prog cfg W f args st)=_;rw[h])
theorem L(f key:Nat)(vals:List V)(st:St):W.loop f key vals st=Z8 Tryz.prog cfg W f key vals st:=zud ziT f key vals st
theorem Rd(l f key:Nat)(vals args:List V)(st:St):W.round l f key vals args st=XG Tryz.prog cfg W l f key vals args st:=zsP ziT l f key vals args st
def Ev(f:Nat)(args:List V)(v:V):Prop:=W.call f args []=some (.ret v,[])
theorem Ev.p{f:Nat}{args:List V}{v:V}(h:Ev f args v)(h1:Zi 0 args=true:=by simp[Zi,below])(h2:below 0 v=true:=by simp[below,Zi]):Zr W f args=some v:=zsX h h1 h2
noncomputable def zaK(m f:Nat)(args:List V):Option Bool:=
 match(XB Tryz.prog cfg ext m).call f args []with
 |some (.ret (.bool b),[])=>some b
 |_=>none
theorem Ev.of_check{m f:Nat}{args:List V}{b:Bool}(h:zaK m f args=some b):Ev f args (.bool b):=by
 unfold zaK at h
 split at h
 ·rename_i b' hc
  cases h
  exact zem ((zie ziT m).call _ _ _ _ hc)
 ·cases h
end Go.Proofs.SZ
namespace Go.Proofs.SZ
open Go Go.AM
set_option maxRecDepth 20000
theorem zmh(O:Oracle)(l0:(List V)):Zf Tryz.prog cfg O 27 [.vec .plain none l0] []=
 bc (decide ((↑l0.length:Int)>20000)) (some (Out.ret (V.tup [V.vec .plain (some 2) [],V.int 4]),[])) (gd (l0.all zio) (bc ((XF l0).toList==[]) (some (Out.ret (V.tup
 [V.vec .plain (some 2) [],V.int 0]),[])) (gd (true&&decide (0<(↑(XF l0).size:Int))) (Za (Zr O 62 [V.ik IntKind.i32 (IntKind.i32.wrap (↑((XF
 l0).data.toList.getD (Int.toNat 0) 0).toNat:Int))]) fun r1=>Zm r1 fun b2=>bc b2 (gd (true&&decide (1≤(↑(XF l0).size:Int))&&decide ((↑(XF l0).size:Int)≤
 (↑(XF l0).size:Int))&&true) (Za (O.loop 27 1000000 [V.vec Mode.grow (some 2) [],V.str ((XF l0).extract 1 (↑(XF l0).size:Int).toNat),V.vec .plain (some
 2) [],V.int 0] []) fun r3=>Xj r3.fst (Ze r3.snd.fst fun v4 c5=>ZU (some 2) v4 fun l6=>Ze c5 fun v7 c8=>Zp v7 fun n9=>Zh c8 (gd (below 0 (V.tup [V.vec
 .plain (some 2) l6,V.int n9])&&Zy 0 []) (some (Out.ret (V.tup [V.vec .plain (some 2) l6,V.int n9]),[])))) (Ze r3.snd.fst fun v10 c11=>ZU (some 2) v10 fun l12=>
 Ze c11 fun v13 c14=>Zp v13 fun n15=>Zh c14 (gd (below 0 (V.tup [V.vec .plain (some 2) l12,V.int n15])&&Zy 0 []) (some (Out.ret (V.tup [V.vec .plain (some 2)
 l12,V.int n15]),[])))) (fun i16=>none) fun v17=>none)) (bc (IntKind.i32.wrap (↑((XF l0).data.toList.getD (Int.toNat 0) 0).toNat:Int)==37) (Za (Zr O 63
 [V.str (XF l0)]) fun r18=>Zp r18 fun n19=>gd (decide (0≤n19)&&decide (n19≤(↑(XF l0).size:Int))&&decide ((↑(XF l0).size:Int)≤(↑(XF l0).size:Int))&&
 true) (Za (O.loop 27 1000000 [V.vec Mode.grow (some 2) [],V.str ((XF l0).extract n19.toNat (↑(XF l0).size:Int).toNat),V.vec .plain (some 2) [],V.int 0] [])
 fun r20=>Xj r20.fst (Ze r20.snd.fst fun v21 c22=>ZU (some 2) v21 fun l23=>Ze c22 fun v24 c25=>Zp v24 fun n26=>Zh c25 (gd (below 0 (V.tup [V.vec .plain
 (some 2) l23,V.int n26])&&Zy 0 []) (some (Out.ret (V.tup [V.vec .plain (some 2) l23,V.int n26]),[])))) (Ze r20.snd.fst fun v27 c28=>ZU (some 2) v27 fun l29=>
 Ze c28 fun v30 c31=>Zp v30 fun n32=>Zh c31 (gd (below 0 (V.tup [V.vec .plain (some 2) l29,V.int n32])&&Zy 0 []) (some (Out.ret (V.tup [V.vec .plain (some 2)
 l29,V.int n32]),[])))) (fun i33=>none) fun v34=>none)) (Za (Zr O 64 [V.str {data:= #[40,41,91,93,123,125,58,46]},V.ik IntKind.i32
 (IntKind.i32.wrap (↑((XF l0).data.toList.getD (Int.toNat 0) 0).toNat:Int))]) fun r35=>Zm r35 fun b36=>bc b36 (gd (true&&decide (1≤(↑(XF l0).size:Int))&&true)
 (gd (true&&decide (1≤(↑(XF l0).size:Int))&&decide ((↑(XF l0).size:Int)≤(↑(XF l0).size:Int))&&true) (Za (O.loop 27 1000000 [V.vec Mode.grow (some
 2) [V.agg [V.int 1,V.str ((XF l0).extract 0 1)]],V.str ((XF l0).extract 1 (↑(XF l0).size:Int).toNat),V.vec .plain (some 2) [],V.int 0] []) fun r37=>Xj r37.fst
 (Ze r37.snd.fst fun v38 c39=>ZU (some 2) v38 fun l40=>Ze c39 fun v41 c42=>Zp v41 fun n43=>Zh c42 (gd (below 0 (V.tup [V.vec .plain (some 2) l40,V.int
 n43])&&Zy 0 []) (some (Out.ret (V.tup [V.vec .plain (some 2) l40,V.int n43]),[])))) (Ze r37.snd.fst fun v44 c45=>ZU (some 2) v44 fun l46=>Ze c45 fun v47
 c48=>Zp v47 fun n49=>Zh c48 (gd (below 0 (V.tup [V.vec .plain (some 2) l46,V.int n49])&&Zy 0 []) (some (Out.ret (V.tup [V.vec .plain (some 2) l46,V.int n49]),
 [])))) (fun i50=>none) fun v51=>none))) (Za (Zr O 65 [V.ik IntKind.i32 (IntKind.i32.wrap (↑((XF l0).data.toList.getD (Int.toNat 0) 0).toNat:Int))]) fun r52
 =>Zm r52 fun b53=>bc b53 (Za (Zr O 66 [V.str (XF l0)]) fun r54=>Zp r54 fun n55=>gd (true&&decide (0≤n55)&&decide (n55≤(↑(XF l0).size:
 Int))&&true) (gd (decide (0≤n55)&&decide (n55≤(↑(XF l0).size:Int))&&decide ((↑(XF l0).size:Int)≤(↑(XF l0).size:Int))&&true) (Za (O.loop 27
 1000000 [V.vec Mode.grow (some 2) [V.agg [V.int 0,V.str ((XF l0).extract 0 n55.toNat)]],V.str ((XF l0).extract n55.toNat (↑(XF l0).size:Int).toNat),V.vec .plain (some
 2) [],V.int 0] []) fun r56=>Xj r56.fst (Ze r56.snd.fst fun v57 c58=>ZU (some 2) v57 fun l59=>Ze c58 fun v60 c61=>Zp v60 fun n62=>Zh c61 (gd (below 0
 (V.tup [V.vec .plain (some 2) l59,V.int n62])&&Zy 0 []) (some (Out.ret (V.tup [V.vec .plain (some 2) l59,V.int n62]),[])))) (Ze r56.snd.fst fun v63 c64=>ZU
 (some 2) v63 fun l65=>Ze c64 fun v66 c67=>Zp v66 fun n68=>Zh c67 (gd (below 0 (V.tup [V.vec .plain (some 2) l65,V.int n68])&&Zy 0 []) (some (Out.ret (V.tup
 [V.vec .plain (some 2) l65,V.int n68]),[])))) (fun i69=>none) fun v70=>none))) (some (Out.ret (V.tup [V.vec .plain (some 2) [],V.int 8]),[]))))))))):=by kernel_rfl
theorem Yo(O:Oracle)(l0:(List V))(s1:ByteArray)(l2:(List V))(n3:Int):Z8 Tryz.prog cfg O 27 1000000 [.vec .grow (some 2) l0, .str s1, .vec .plain (some 2) l2, .int n3] []=
 bc (s1.toList==[]) (some (Ex.ret,[V.vec .plain (some 2) l0,V.int 0],[])) (gd (true&&decide (0<(↑s1.size:Int))) (Za (Zr O 62 [V.ik IntKind.i32
 (IntKind.i32.wrap (↑(s1.data.toList.getD (Int.toNat 0) 0).toNat:Int))]) fun r1=>Zm r1 fun b2=>bc b2 (gd (true&&decide (1≤(↑s1.size:Int))&&decide ((↑s1.size:
 Int)≤(↑s1.size:Int))&&true) (O.2 27 1000000 [V.vec Mode.grow (some 2) l0,V.str (s1.extract 1 (↑s1.size:Int).toNat),V.vec .plain (some 2) l2,V.int n3] [])) (bc
 (IntKind.i32.wrap (↑(s1.data.toList.getD (Int.toNat 0) 0).toNat:Int)==37) (Za (Zr O 63 [V.str s1]) fun r3=>Zp r3 fun n4=>gd (decide (0≤n4)&&decide (n4
 ≤(↑s1.size:Int))&&decide ((↑s1.size:Int)≤(↑s1.size:Int))&&true) (O.2 27 1000000 [V.vec Mode.grow (some 2) l0,V.str (s1.extract n4.toNat (↑s1.size:
 Int).toNat),V.vec .plain (some 2) l2,V.int n3] [])) (Za (Zr O 64 [V.str {data:= #[40,41,91,93,123,125,58,46]},V.ik IntKind.i32
 (IntKind.i32.wrap (↑(s1.data.toList.getD (Int.toNat 0) 0).toNat:Int))]) fun r5=>Zm r5 fun b6=>bc b6 (gd (true&&decide (1≤(↑s1.size:Int))&&true) (gd (true&&
 roomFor Tryz.prog 84 (l0.length+[V.agg [V.int 1,V.str (s1.extract 0 1)]].length)) (gd (true&&decide (1≤(↑s1.size:Int))&&decide ((↑s1.size:Int)≤(↑s1.size:
 Int))&&true) (O.2 27 1000000 [V.vec Mode.grow (some 2) (l0++[V.agg [V.int 1,V.str (s1.extract 0 1)]]),V.str (s1.extract 1 (↑s1.size:Int).toNat),V.vec .plain
 (some 2) l2,V.int n3] [])))) (Za (Zr O 65 [V.ik IntKind.i32 (IntKind.i32.wrap (↑(s1.data.toList.getD (Int.toNat 0) 0).toNat:Int))]) fun r7=>Zm r7 fun b8=>
 bc b8 (Za (Zr O 66 [V.str s1]) fun r9=>Zp r9 fun n10=>gd (true&&decide (0≤n10)&&decide (n10≤(↑s1.size:Int))&&true) (gd (true&&roomFor Tryz.prog
 84 (l0.length+[V.agg [V.int 0,V.str (s1.extract 0 n10.toNat)]].length)) (gd (decide (0≤n10)&&decide (n10≤(↑s1.size:Int))&&decide ((↑s1.size:Int)≤
 (↑s1.size:Int))&&true) (O.2 27 1000000 [V.vec Mode.grow (some 2) (l0++[V.agg [V.int 0,V.str (s1.extract 0 n10.toNat)]]),V.str (s1.extract n10.toNat (↑s1.size:
 Int).toNat),V.vec .plain (some 2) l2,V.int n3] [])))) (some (Ex.ret,[V.vec .plain (some 2) [],V.int 8],[]))))))):=by kernel_rfl
theorem zpp(O:Oracle)(l0:(List V)):Zf Tryz.prog cfg O 26 [.vec .plain (some 2) l0] []=
 Za (O.loop 26 4 [V.int 0,V.vec Mode.grow none [],V.int 1,V.vec .plain (some 2) l0,V.int (↑l0.length:Int)] []) fun r1=>Xj r1.fst none none (fun i2=>bc
 (i2.beq 0) (Ze r1.snd.fst fun v3 c4=>Xc none v3 fun l5=>Zh c4 (gd (below 0 (V.vec .plain none l5)&&Zy 0 []) (some (Out.ret (V.vec .plain none l5),[]))))
 none) fun v6=>none:=by kernel_rfl
theorem zeS(O:Oracle)(n0:Int)(l1:(List V))(n2:Int)(l3:(List V))(n4:Int):Z8 Tryz.prog cfg O 26 4 [.int n0, .vec .grow none l1, .int n2, .vec .plain (some 2) l3, .int n4] []=
 bc (decide (n0<n4)) (gd (decide (0≤n0)&&decide (n0<(↑l3.length:Int))) (Zc [CT.int,CT.str] (ZW l3 n0) fun n1 s2=>bc (n1==0) (bc (n2==0) (gd (true&&
 roomFor Tryz.prog 5 (l1.length+1)) (gd (true&&roomFor Tryz.prog 5 ((l1++[V.ik IntKind.u8 32]).length+(Xr s2).length)) (O.2 26 4 [V.int
 (IntKind.i64.wrap (n0+1)),V.vec Mode.grow none (l1++[V.ik IntKind.u8 32]++Xr s2),V.int n1,V.vec .plain (some 2) l3,V.int n4] []))) (gd (true&&roomFor Tryz.prog
 5 (l1.length+(Xr s2).length)) (O.2 26 4 [V.int (IntKind.i64.wrap (n0+1)),V.vec Mode.grow none (l1++Xr s2),V.int n1,V.vec .plain (some 2) l3,
 V.int n4] []))) (gd (true&&roomFor Tryz.prog 5 (l1.length+(Xr s2).length)) (O.2 26 4 [V.int (IntKind.i64.wrap (n0+1)),V.vec Mode.grow none (l1++Xr
 s2),V.int n1,V.vec .plain (some 2) l3,V.int n4] [])))) (some (Ex.exit 0,[V.vec Mode.grow none l1],[])):=by kernel_rfl
theorem znA(O:Oracle)(n0:Int):Zf Tryz.prog cfg O 62 [.ik .i32 n0] []=
 bc (n0==32) (some (Out.ret (V.bool true),[])) (bc (n0==9) (some (Out.ret (V.bool true),[])) (some (Out.ret (V.bool (n0==10)),[]))):=by kernel_rfl
theorem zpq(O:Oracle)(s0:ByteArray):Zf Tryz.prog cfg O 63 [.str s0] []=
 Za (Zr O 83 [V.str s0,V.ik IntKind.u8 10]) fun r1=>Zp r1 fun n2=>bc (decide (n2≥0)) (some (Out.ret (V.int n2),[])) (some (Out.ret (V.int
 (↑s0.size:Int)),[])):=by kernel_rfl
theorem znB(O:Oracle)(n0:Int):Zf Tryz.prog cfg O 65 [.ik .i32 n0] []=
 bc (decide (n0≥97)) (bc (decide (n0≤122)) (some (Out.ret (V.bool true),[])) (bc (decide (n0≥65)) (bc (decide (n0≤90)) (some (Out.ret (V.bool true),[])) (bc (decide (n0≥
 48)) (bc (decide (n0≤57)) (some (Out.ret (V.bool true),[])) (bc (n0==95) (some (Out.ret (V.bool true),[])) (some (Out.ret (V.bool (n0==39)),[])))) (bc (n0==95) (some
 (Out.ret (V.bool true),[])) (some (Out.ret (V.bool (n0==39)),[]))))) (bc (decide (n0≥48)) (bc (decide (n0≤57)) (some (Out.ret (V.bool true),[])) (bc (n0==95) (some
 (Out.ret (V.bool true),[])) (some (Out.ret (V.bool (n0==39)),[])))) (bc (n0==95) (some (Out.ret (V.bool true),[])) (some (Out.ret (V.bool (n0==39)),[])))))) (bc (decide
 (n0≥65)) (bc (decide (n0≤90)) (some (Out.ret (V.bool true),[])) (bc (decide (n0≥48)) (bc (decide (n0≤57)) (some (Out.ret (V.bool true),[])) (bc (n0==95) (some (Out.ret
 (V.bool true),[])) (some (Out.ret (V.bool (n0==39)),[])))) (bc (n0==95) (some (Out.ret (V.bool true),[])) (some (Out.ret (V.bool (n0==39)),[]))))) (bc (decide (n0≥48))
 (bc (decide (n0≤57)) (some (Out.ret (V.bool true),[])) (bc (n0==95) (some (Out.ret (V.bool true),[])) (some (Out.ret (V.bool (n0==39)),[])))) (bc (n0==95) (some
 (Out.ret (V.bool true),[])) (some (Out.ret (V.bool (n0==39)),[]))))):=by kernel_rfl
theorem zpr(O:Oracle)(s0:ByteArray):Zf Tryz.prog cfg O 66 [.str s0] []=
 Za (O.loop 66 2 [V.str s0,V.ref 0 0] [Res.iter s0 0]) fun r1=>Xj r1.fst none (Ze r1.snd.fst fun v2 c3=>Zp v2 fun n4=>Zh c3 (some (Out.ret (V.int n4),
 []))) (fun i5=>bc (i5.beq 0) (Ze r1.snd.fst fun v6 c7=>YU v6 fun s8=>Zh c7 (some (Out.ret (V.int (↑s8.size:Int)),[]))) none) fun v9=>none:=by kernel_rfl
theorem zbz(O:Oracle)(s0 t:ByteArray)(p:Nat):Z8 Tryz.prog cfg O 66 2 [.str s0, .ref 0 0] [.iter t p]=
 bc (decide (p<t.size)) (Za (Zr O 65 [V.ik IntKind.i32 (↑(Utf8.decode t p).fst:Int)]) fun r1=>Zm r1 fun b2=>bc (!b2) (some (Ex.ret,[V.int (↑p:Int)],
 [Res.iter t (p+(Utf8.decode t p).snd)])) (O.2 66 2 [V.str s0,V.ref 0 0] [Res.iter t (p+(Utf8.decode t p).snd)])) (some (Ex.exit 0,[V.str s0],[Res.iter t p])):=by kernel_rfl
theorem zex(O:Oracle)(s0:ByteArray)(n1:Int):Zf Tryz.prog cfg O 83 [.str s0, .ik .u8 n1] []=
 Za (Zr O 103 [V.str s0,V.ik IntKind.u8 n1]) fun r1=>Zp r1 fun n2=>some (Out.ret (V.int n2),[]):=by kernel_rfl
theorem Jv(O:Oracle)(s0:ByteArray)(n1:Int):Zf Tryz.prog cfg O 103 [.str s0, .ik .u8 n1] []=
 Za (gd true (some (V.int (firstIdx s0 n1.toNat.toUInt8)))) fun r1=>Zp r1 fun n2=>some (Out.ret (V.int n2),[]):=by kernel_rfl
end Go.Proofs.SZ
namespace Go.Proofs.SZ
open Go Go.AM Go.Ama
theorem JH(b:UInt8):((b.toNat:Int)==32||((b.toNat:Int)==9||(b.toNat:Int)==10))=Ama.blank b:=
 zgh (p:=fun b=>((b.toNat:Int)==32||((b.toNat:Int)==9||(b.toNat:Int)==10))=Ama.blank b) (by decide+kernel) b
theorem zrA(b:UInt8):IntKind.i32.wrap (b.toNat:Int)=b.toNat:=
 zgh (p:=fun b=>IntKind.i32.wrap (b.toNat:Int)=b.toNat) (by decide+kernel) b
theorem Jw(b:UInt8):((b.toNat:Int)==37)=(b==37):=
 zgh (p:=fun b=>((b.toNat:Int)==37)=(b==37)) (by decide+kernel) b
theorem JI(c:Int):Ev 62 [.ik .i32 c] (.bool (c==32||(c==9||c==10))):=by
 unfold Ev
 rw[C,znA]
 cases h1:(c==32)<;>cases h2:(c==9)<;>rfl
def zha(c:Int):Bool:=(decide (c≥97)&&decide (c≤122))||(decide (c≥65)&&decide (c≤90))||(decide (c≥48)&&decide (c≤57))||c==95||c==39
theorem zaL(c:Int):Ev 65 [.ik .i32 c] (.bool (zha c)):=by
 unfold Ev zha
 rw[C,znB]
 generalize decide (c≥97)=a1
 generalize decide (c≤122)=a2
 generalize decide (c≥65)=a3
 generalize decide (c≤90)=a4
 generalize decide (c≥48)=a5
 generalize decide (c≤57)=a6
 generalize(c==95)=a7
 generalize(c==39)=a8
 cases a1<;>cases a2<;>cases a3<;>cases a4<;>cases a5<;>cases a6<;>cases a7<;>cases a8<;>rfl
theorem zaM(b:UInt8):zha (b.toNat:Int)=named b:=
 zgh (p:=fun b=>zha (b.toNat:Int)=named b) (by decide+kernel) b
theorem zhM{c:Int}(h:128≤c):zha c=false:=by
 have h1: ¬c≤122:=by omega
 have h2: ¬c≤90:=by omega
 have h3: ¬c≤57:=by omega
 have h4:(c==95)=false:=by simp;omega
 have h5:(c==39)=false:=by simp;omega
 simp[zha,h1,h2,h3,h4,h5]
theorem zps{b:UInt8}(h:128≤b):named b=false:=by
 rw[←zaM];exact zhM (by
                      have:128≤b.toNat:=by simpa[UInt8.le_iff_toNat_le]using h
                      omega)
theorem zkL(s:ByteArray)(l:Bytes): ∀k p,p+k=l.length→ ∃st',W.loop 66 2 [.str s, .ref 0 0] [.iter (ba l) p]=some (if(l.drop p).all named then(Ex.exit 0,[V.str s],st')else(Ex.ret,[V.int ((p+((l.drop p).takeWhile named).length:Nat):Int)],st'))
 |0,p,h=>by
  refine⟨[.iter (ba l) p], ?_⟩
  rw[L,zbz]
  have:l.drop p=[]:=by rw[List.drop_eq_nil_iff];omega
  have h2: ¬p<l.length:=by omega
  simp[this,Xn,h2,bc]
 |k+1,p,h=>by
  have hp:p<l.length:=by omega
  obtain⟨st',ih⟩:=zkL s l k (p+1) (by omega)
  have hd:l.drop p=l[p]::l.drop (p+1):=List.drop_eq_getElem_cons hp
  have hsz:decide (p<(ba l).size)=true:=by rw[Xn];simpa using hp
  by_cases h8:l[p]<128
  ·rw[L,zbz,zr8 hp h8,hsz]
   simp only[(zaL _).p,zaM,hd,List.all_cons,List.takeWhile_cons]
   cases hn:named l[p]with
   |true=>
    refine⟨st', ?_⟩
    show W.loop _ _ _ _=_
    rw[ih]
    cases(l.drop (p+1)).all named
    ·simp;omega
    ·simp
   |false=>exact⟨[.iter (ba l) (p+1)],by simp[bc]⟩
  ·have h8':128≤l[p]:=by
    rw[UInt8.lt_iff_toNat_lt]at h8
    rw[UInt8.le_iff_toNat_le]
    simpa using h8
   have hge:=zr9 hp h8'
   refine⟨[.iter (ba l) (p+(Utf8.decode (ba l) p).2)], ?_⟩
   rw[L,zbz,hsz]
   simp only[(zaL _).p,zhM (c:=((Utf8.decode (ba l) p).1:Int)) (by omega),hd,List.all_cons,List.takeWhile_cons,zps h8']
   simp[bc]
theorem zhb{p:UInt8→Bool}{l:Bytes}(h:l.all p=true):l.takeWhile p=l:=by
 induction l with
 |nil=>rfl
 |cons x l ih=>simp only[List.all_cons,Bool.and_eq_true]at h;simp[List.takeWhile_cons,h.1,ih h.2]
theorem zkM(l:Bytes):Ev 66 [.str (ba l)] (.int (l.takeWhile named).length):=by
 unfold Ev
 rw[C,zpr]
 obtain⟨st',h⟩:=zkL (ba l) l l.length 0 (by omega)
 rw[h,List.drop_zero]
 cases ha:l.all named with
 |true=>simp[zhb ha,Xn,bc]
 |false=>simp
theorem ziU: ∀l:Bytes,Lib.indexByte l 10=if(l.takeWhile YR).length<l.length then((l.takeWhile YR).length:Int)else-1
 |[]=>rfl
 |c::l=>by
  rw[Lib.indexByte,ziU l]
  cases h:(c==10)with
  |true=>simp[List.takeWhile_cons,YR,bne,h]
  |false=>
   have hi:YR c=true:=by simp[YR,bne,h]
   simp only[List.takeWhile_cons,hi,if_true,List.length_cons]
   by_cases hl:(l.takeWhile YR).length<l.length
   ·have h2:((((l.takeWhile YR).length:Nat):Int)== -1)=false:=by simp
    rw[if_pos hl,h2,if_pos (Nat.succ_lt_succ hl)]
    simp
   ·rw[if_neg hl,if_neg (fun h=>hl (Nat.lt_of_succ_lt_succ h))];rfl
theorem zkN(l:Bytes):Ev 63 [.str (ba l)] (.int (l.takeWhile YR).length):=by
 have h1:Ev 103 [.str (ba l), .ik .u8 10] (.int (Lib.indexByte l 10)):=by
  unfold Ev
  rw[C,Jv,Lib.firstIdx_eq,ztg]
  rfl
 have h2:Ev 83 [.str (ba l), .ik .u8 10] (.int (Lib.indexByte l 10)):=by
  unfold Ev
  rw[C,zex,h1.p]
  rfl
 unfold Ev
 rw[C,zpq,h2.p,ziU]
 have h3:=Xt YR l
 by_cases h:(l.takeWhile YR).length<l.length
 ·have h4:((l.takeWhile YR).length:Int)≥0:=by omega
  simp[h,h4,bc]
 ·have h4:(l.takeWhile YR).length=l.length:=by omega
  simp[h4,bc,Xn]
theorem znC: ∀n:Fin 32,zaK 12 64 [.str (ba [40,41,91,93,123,125,58,46]), .ik .i32 ((UInt8.ofNat (n.val+0)).toNat:Int)]=some (Ama.mark (UInt8.ofNat (n.val+0))):=by decide+kernel
theorem znD: ∀n:Fin 32,zaK 12 64 [.str (ba [40,41,91,93,123,125,58,46]), .ik .i32 ((UInt8.ofNat (n.val+32)).toNat:Int)]=some (Ama.mark (UInt8.ofNat (n.val+32))):=by decide+kernel
theorem znE: ∀n:Fin 32,zaK 12 64 [.str (ba [40,41,91,93,123,125,58,46]), .ik .i32 ((UInt8.ofNat (n.val+64)).toNat:Int)]=some (Ama.mark (UInt8.ofNat (n.val+64))):=by decide+kernel
theorem znF: ∀n:Fin 32,zaK 12 64 [.str (ba [40,41,91,93,123,125,58,46]), .ik .i32 ((UInt8.ofNat (n.val+96)).toNat:Int)]=some (Ama.mark (UInt8.ofNat (n.val+96))):=by decide+kernel
theorem znG: ∀n:Fin 32,zaK 12 64 [.str (ba [40,41,91,93,123,125,58,46]), .ik .i32 ((UInt8.ofNat (n.val+128)).toNat:Int)]=some (Ama.mark (UInt8.ofNat (n.val+128))):=by decide+kernel
theorem znH: ∀n:Fin 32,zaK 12 64 [.str (ba [40,41,91,93,123,125,58,46]), .ik .i32 ((UInt8.ofNat (n.val+160)).toNat:Int)]=some (Ama.mark (UInt8.ofNat (n.val+160))):=by decide+kernel
theorem znI: ∀n:Fin 32,zaK 12 64 [.str (ba [40,41,91,93,123,125,58,46]), .ik .i32 ((UInt8.ofNat (n.val+192)).toNat:Int)]=some (Ama.mark (UInt8.ofNat (n.val+192))):=by decide+kernel
theorem znJ: ∀n:Fin 32,zaK 12 64 [.str (ba [40,41,91,93,123,125,58,46]), .ik .i32 ((UInt8.ofNat (n.val+224)).toNat:Int)]=some (Ama.mark (UInt8.ofNat (n.val+224))):=by decide+kernel
theorem zkb(m:Nat)(hm:m<256):zaK 12 64 [.str (ba [40,41,91,93,123,125,58,46]), .ik .i32 ((UInt8.ofNat m).toNat:Int)]=some (Ama.mark (UInt8.ofNat m)):=by
 by_cases h0:m<32
 ·have:=znC ⟨m-0,by omega⟩
  simp only[show m-0+0=m by omega]at this
  exact this
 by_cases h1:m<64
 ·have:=znD ⟨m-32,by omega⟩
  simp only[show m-32+32=m by omega]at this
  exact this
 by_cases h2:m<96
 ·have:=znE ⟨m-64,by omega⟩
  simp only[show m-64+64=m by omega]at this
  exact this
 by_cases h3:m<128
 ·have:=znF ⟨m-96,by omega⟩
  simp only[show m-96+96=m by omega]at this
  exact this
 by_cases h4:m<160
 ·have:=znG ⟨m-128,by omega⟩
  simp only[show m-128+128=m by omega]at this
  exact this
 by_cases h5:m<192
 ·have:=znH ⟨m-160,by omega⟩
  simp only[show m-160+160=m by omega]at this
  exact this
 by_cases h6:m<224
 ·have:=znI ⟨m-192,by omega⟩
  simp only[show m-192+192=m by omega]at this
  exact this
 have:=znJ ⟨m-224,by omega⟩
 simp only[show m-224+224=m by omega]at this
 exact this
theorem Jx(c:UInt8):Ev 64 [.str (ba [40,41,91,93,123,125,58,46]), .ik .i32 (c.toNat:Int)] (.bool (Ama.mark c)):=by
 have h:=zkb c.toNat c.toNat_lt
 have e:UInt8.ofNat c.toNat=c:=by simp
 simp only[e]at h
 exact Ev.of_check h
end Go.Proofs.SZ
namespace Go.Proofs.SZ
open Go Go.AM Go.Ama
theorem zbN{n:Nat}(h:n≤1048576):roomFor Tryz.prog 84 n=true:=by
 have:((Tryz.prog.info? 84).map (·.bytes)).getD 0=24:=by kernel_rfl
 unfold roomFor
 rw[this]
 simp only[Bool.and_eq_true,decide_eq_true_eq]
 omega
theorem zrB{n:Nat}(h:n≤10485760):roomFor Tryz.prog 5 n=true:=by
 have:((Tryz.prog.info? 5).map (·.bytes)).getD 0=1:=by kernel_rfl
 unfold roomFor
 rw[this]
 simp only[Bool.and_eq_true,decide_eq_true_eq]
 omega
def zad(acc:List Tok):Option (List Tok)→Ex×List V×St
 |some t=>(Ex.ret,[V.vec .plain (some 2) (Zw (acc++t)),V.int 0],[])
 |none=>(Ex.ret,[V.vec .plain (some 2) [],V.int 8],[])
theorem Ji(c:UInt8)(r:Bytes):((ba (c::r)).toList==[])=false:=by rw[za3];rfl
theorem zbO(c:UInt8)(r:Bytes):IntKind.i32.wrap (((ba (c::r)).data.toList.getD (Int.toNat 0) 0).toNat:Int)=c.toNat:=by rw[ztg];exact zrA c
theorem zif(l:Bytes)(n:Nat):(ba l).extract n ((ba l).size:Int).toNat=ba (l.drop n):=by
 rw[zfs,Xn,Int.toNat_natCast,List.take_length]
theorem zth(l:Bytes)(n:Nat):(ba l).extract n l.length=ba (l.drop n):=by rw[zfs,List.take_length]
theorem zq8(l:Bytes)(n:Nat):(ba l).extract 0 n=ba (l.take n):=by rw[zfs,List.drop_zero]
theorem take_takeWhile{p:UInt8→Bool}: ∀l:Bytes,l.take (l.takeWhile p).length=l.takeWhile p∧l.drop (l.takeWhile p).length=l.dropWhile p
 |[]=>⟨rfl,rfl⟩
 |c::l=>by
  obtain⟨h1,h2⟩:=take_takeWhile (p:=p) l
  rw[List.takeWhile_cons,List.dropWhile_cons]
  split<;>simp[h1,h2]
theorem zar{p:UInt8→Bool}(l:Bytes):(l.takeWhile p).length≤l.length:=by have:=Xt p l;omega
theorem zep:V.str {data:= #[40,41,91,93,123,125,58,46]}=V.str (ba [40,41,91,93,123,125,58,46]):=rfl
theorem znK: ∀(b:Bytes) (acc:List Tok) (l2:List V) (n3:Int),acc.length+b.length≤20000→
  W.loop 27 1000000 [.vec .grow (some 2) (Zw acc), .str (ba b), .vec .plain (some 2) l2, .int n3] []=some (zad acc (YE b)):=by
 refine zgY ?_ ?_ ?_ ?_ ?_ ?_
 ·intro acc l2 n3 _
  rw[L,Yo,zd2,za3]
  simp[zad]
 ·intro c r hc ih acc l2 n3 hl
  simp only[List.length_cons]at hl
  have ih:=ih acc l2 n3 (by omega)
  rw[L,Yo,QW r hc,Ji,zbO,(JI _).p,JH,hc,zif,←ih]
  simp(disch:=omega) [Xn]
 ·intro r ih acc l2 n3 hl
  simp only[List.length_cons]at hl
  have hd:=Yn YR r
  have ih:=ih acc l2 n3 (by omega)
  have ht:=zar (p:=YR) (37::r)
  rw[L,Yo,zgX r rfl,Ji,zbO,(JI _).p,JH,Jw,(zkN _).p,←ih]
  have h3:(37::r).dropWhile YR=r.dropWhile YR:=by simp[List.dropWhile_cons,YR]
  have h4:Ama.blank 37=false:=by decide
  rw[List.length_cons]at ht
  simp(disch:=omega)only[ZO,Zb,Zs,h4,Int.toNat_natCast,zif,(take_takeWhile (37::r)).2,h3,Xn,List.length_cons,zd0,zd1,Z6,Zn,Zq,beq_self_eq_true]
  rw[show r.length+1=(37::r:Bytes).length from rfl,zth,(take_takeWhile (37::r)).2,h3]
 ·intro c r hc ih acc l2 n3 hl
  simp only[List.length_cons]at hl
  have ih:=ih (acc++[(1,[c])]) l2 n3 (by simp;omega)
  obtain⟨h7,h8,_⟩:=zfr hc
  rw[L,Yo,za2 r hc,Ji,zbO,(JI _).p,JH,Jw,h7,h8,zep,(Jx c).p,hc,zif,zq8]
  have he:Zw acc++[V.agg [V.int 1,V.str (ba [c])]]=Zw (acc++[(1,[c])]):=by rw[Ju];rfl
  have hend:zad acc ((YE r).map ((1,[c]):: ·))=zad (acc++[(1,[c])]) (YE r):=by cases YE r<;>simp[zad]
  rw[hend,←ih]
  simp(disch:=omega) [he,Xn,zbN]
 ·intro c r hc ih acc l2 n3 hl
  simp only[List.length_cons]at hl
  have hd:=Yn named r
  have ih:=ih (acc++[(0,c::r.takeWhile named)]) l2 n3 (by simp;omega)
  obtain⟨h7,h8,h9,_⟩:=zhL hc
  have ht:=zar (p:=named) r
  have h10:(c::r).dropWhile named=r.dropWhile named:=by simp[List.dropWhile_cons,hc]
  have h11:(c::r).takeWhile named=c::r.takeWhile named:=by simp[List.takeWhile_cons,hc]
  have h12:=take_takeWhile (p:=named) (c::r)
  rw[h10,h11]at h12
  have he:Zw acc++[V.agg [V.int 0,V.str (ba (c::r.takeWhile named))]]=Zw (acc++[(0,c::r.takeWhile named)]):=by rw[Ju];rfl
  have hend:zad acc ((YE (r.dropWhile named)).map ((0,c::r.takeWhile named):: ·))=zad (acc++[(0,c::r.takeWhile named)]) (YE (r.dropWhile named)):=by cases YE (r.dropWhile named)<;>simp[zad]
  rw[L,Yo,zbK r hc,Ji,zbO,(JI _).p,JH,Jw,h7,h8,zep,(Jx c).p,h9,(zaL _).p,zaM,hc,(zkM _).p,h11,hend,←ih]
  simp only[ZO,Zb,Zs,Zn,Zq,zd0,Z6,Int.toNat_natCast,zif,zq8,h12.1,h12.2,he,Xn,List.length_cons,Xu]
  simp(disch:=omega)only[zd1,zbN,List.length_cons,List.length_nil,Z6]
  rw[show r.length+1=(c::r).length from rfl,show(r.takeWhile named).length+1=(c::r.takeWhile named).length from rfl,zth,h12.1,h12.2,he]
 ·intro c r h1' h2' h3' h4' acc l2 n3 hl
  rw[L,Yo,zgi r h1' h2' h3' h4',Ji,zbO,(JI _).p,JH,Jw,h1',h2',zep,(Jx c).p,h3',(zaL _).p,zaM,h4']
  simp(disch:=omega) [Xn,zad]
def zft(b:Bytes):Option (List Tok)×Int:=if b.length>20000 then(none,4)else match YE b with|some l=>(some l,0)|none=>(none,8)
def zd4(x:Option (List Tok)×Int):V:= .tup [.vec .plain (some 2) (Zw (x.1.getD [])), .int x.2]
theorem zvi(l:Bytes):List.all (XP l) zio=true:=zkK l
theorem zrC(l:List Tok)(n:Int):below 0 (V.tup [V.vec .plain (some 2) (Zw l),V.int n])=true:=by simp[below,Zi,Qj]
theorem zhN(b:Bytes)(hb:b.length≤1048576):Ev 27 [.vec .plain none (XP b)] (zd4 (zft b)):=by
 unfold Ev zft zd4
 rw[C,zmh,zbg,zkJ,zvi]
 by_cases hl:b.length>20000
 ·simp(disch:=omega) [hl,Zw]
 ·have hl':b.length≤20000:=by omega
  rw[ztd (by omega),Z6,if_neg hl]
  have h0:=znK b [] [] 0 (by simpa using hl')
  rw[L]at h0
  cases b with
  |nil=>rw[za3,zd2];rfl
  |cons c r=>
   rw[Yo]at h0
   rw[Ji]at h0⊢
   simp only[Zn]at h0⊢
   revert h0
   simp only[zbO,(JI _).p,JH,Jw,(zkN _).p,zep,(Jx c).p,(zaL _).p,zaM,(zkM _).p,Zb,Zs,ZO]
   have fin: ∀(z:Option (Ex×List V×St)),z=some (zad [] (YE (c::r)))→(Za z fun r3=>
     Xj r3.fst (Ze r3.snd.fst fun v4 c5=>ZU (some 2) v4 fun l6=>Ze c5 fun v7 c8=>Zp v7 fun n9=>Zh c8 (gd (below 0 (V.tup [V.vec .plain (some 2) l6,V.int n9])) (gd (Zy 0 []) (some (Out.ret (V.tup [V.vec .plain (some 2) l6,V.int n9]),([]:St))))))
      (Ze r3.snd.fst fun v10 c11=>ZU (some 2) v10 fun l12=>Ze c11 fun v13 c14=>Zp v13 fun n15=>Zh c14 (gd (below 0 (V.tup [V.vec .plain (some 2) l12,V.int n15])) (gd (Zy 0 []) (some (Out.ret (V.tup [V.vec .plain (some 2) l12,V.int n15]),[])))))
      (fun i16=>none) fun v17=>none)=some (Out.ret (V.tup [V.vec .plain (some 2) (Zw ((match YE (c::r)with|some l=>(some l,(0:Int))|none=>(none,8)).1.getD [])),V.int (match YE (c::r)with|some l=>(some l,(0:Int))|none=>(none,8)).2]),[]):=by
    intro z hz
    subst hz
    cases YE (c::r)with
    |none=>simp[zad,Zw,below,Zi,Zy]
    |some t=>
     have:=zrC t 0
     simp only[zad,List.nil_append,Zb,ztb,YO,Yt,ZO,ZH,this,Zy,Bool.and_self,Z6]
     rfl
   intro h0
   cases hb1:Ama.blank c with
   |true=>
    rw[hb1]at h0
    simp(disch:=omega)only[Zq,zd0,Z6,zd1,Xn,List.length_cons]at h0⊢
    exact fin _ h0
   |false=>
    rw[hb1]at h0
    simp only[Zn]at h0⊢
    cases hb2:(c==37)with
    |true=>
     rw[hb2]at h0
     have ht:=zar (p:=YR) (c::r)
     simp only[List.length_cons]at ht
     simp(disch:=omega)only[Zq,zd0,Z6,zd1,Xn,List.length_cons]at h0⊢
     exact fin _ h0
    |false=>
     rw[hb2]at h0
     simp only[Zn]at h0⊢
     cases hb3:Ama.mark c with
     |true=>
      rw[hb3]at h0
      simp(disch:=omega)only[Zq,zd0,Z6,zd1,Xn,List.length_cons,List.length_nil,Xu,zbN]at h0⊢
      exact fin _ h0
     |false=>
      rw[hb3]at h0
      simp only[Zn]at h0⊢
      cases hb4:named c with
      |true=>
       rw[hb4]at h0
       have ht:=zar (p:=named) (c::r)
       simp only[List.length_cons]at ht
       simp(disch:=omega)only[Zq,zd0,Z6,zd1,Xn,List.length_cons,List.length_nil,Xu,zbN]at h0⊢
       exact fin _ h0
      |false=>
       rw[zgi r hb1 hb2 hb3 hb4]
       simp(disch:=omega)only[zd0,Z6,zd1,Xn,List.length_cons,Zn]
       rfl
end Go.Proofs.SZ
namespace Go.Proofs.SZ
open Go Go.AM Go.Ama
theorem zcy{R:Type}(t:Tok)(K:Int→ByteArray→Option R):Zc (R:=R) [CT.int,CT.str] (zby t) K=K t.1 (ba t.2):=rfl
theorem zkO(l:List Tok)(hl:Yk l+2*l.length≤1048576): ∀k i (acc:Bytes) (last:Int),i+k=l.length→acc.length+Yk (l.drop i)+2*(l.drop i).length≤10485760→
  W.loop 26 4 [.int (i:Nat), .vec .grow none (XP acc), .int last, .vec .plain (some 2) (Zw l), .int l.length] []=some (Ex.exit 0,[.vec .grow none (XP (acc++ZQ last (l.drop i)))],[])
 |0,i,acc,last,h,_=>by
  rw[L,zeS,List.drop_eq_nil_iff.2 (by omega)]
  simp(disch:=omega) [ZQ]
 |k+1,i,acc,last,h,hw=>by
  have hi:i<l.length:=by omega
  rw[List.drop_eq_getElem_cons hi]at hw⊢
  obtain⟨kd,s,ht⟩: ∃kd s,l[i]=(kd,s):=⟨_,_,rfl⟩
  rw[ht]at hw⊢
  simp only[Yk,List.length_cons]at hw
  have e:((i:Int)+1)=((i+1:Nat):Int):=by omega
  have ih:=fun acc h=>zkO l hl k (i+1) acc kd (by omega) h
  rw[L,zeS,Xu,zmg hi,ht]
  simp(disch:=omega)only[ztc,zd0,zd1,Z6,zcx,zcy,zgZ,List.length_append,List.length_cons,List.length_nil,zbg,zrB,e]
  have e32:XP acc++[V.ik IntKind.u8 32]=XP (acc++[32]):=by rw[zd3];rfl
  simp only[e32,←zd3]
  have r0:=ih (acc++s) (by simp only[List.length_append];omega)
  have r1:=ih (acc++[32]++s) (by simp only[List.length_append,List.length_cons,List.length_nil];omega)
  by_cases h1:kd=0
  ·subst h1
   by_cases h2:last=0
   ·subst h2
    simp only[beq_self_eq_true,Zq]
    refine Eq.trans r1 ?_
    simp[ZQ]
   ·simp(disch:=omega)only[beq_self_eq_true,Zq,zn7]
    refine Eq.trans r0 ?_
    simp[ZQ,h2]
  ·simp(disch:=omega)only[zn7]
   refine Eq.trans r0 ?_
   simp[ZQ,h1]
theorem zrD(l:List Tok)(hl:Yk l+2*l.length≤1048576):Ev 26 [.vec .plain (some 2) (Zw l)] (.vec .plain none (XP (text l))):=by
 have h:=zkO l hl l.length 0 [] 1 (by omega) (by simp;omega)
 have h':W.loop 26 4 [.int 0, .vec .grow none [], .int 1, .vec .plain (some 2) (Zw l), .int l.length] []=some (Ex.exit 0,[.vec .grow none (XP (text l))],[]):=h
 unfold Ev
 rw[C,zpp,Xu,h']
 simp[below,Zy,Xh]
end Go.Proofs.SZ
namespace Go.Proofs.SZ
open Go Go.AM
set_option maxRecDepth 20000
theorem znL(O:Oracle)(n0:Int)(n1:Int)(l2:(List V))(l3:(List V)):Zf Tryz.prog cfg O 11 [.agg [.int n0, .int n1, .vec .plain (some 3) l2], .vec .plain (some 4) l3] []=
 Za (Zr O 24 [V.agg [V.int n0,V.int n1,V.vec .plain (some 3) l2]]) fun r1=>Zm r1 fun b2=>bc (!b2) (some (Out.ret (V.tup [V.vec .plain none [],V.int 1]),
 [])) (Za (O.call 25 [V.ref 0 0,V.agg [V.int n0,V.int n1,V.vec .plain (some 3) l2],V.int 0] [Res.box [V.vec .plain (some 4) l3,V.vec Mode.full (some 2) [],
 V.int 0]]) fun r3=>Zj r3.fst (fun v4=>Z2 v4 fun c5=>Zh c5 (Z4 r3.snd 0 fun x6=>Z1 x6 fun c7=>gd (decide (3≤c7.length)&&true) (Zp (Zo (AM.partOf
 c7 2 none)) fun n8=>bc (n8 !=0) (Z4 r3.snd 0 fun x9=>Z1 x9 fun c10=>gd (decide (3≤c10.length)&&true) (Zp (Zo (AM.partOf c10 2 none)) fun n11=>some
 (Out.ret (V.tup [V.vec .plain none [],V.int n11]),[]))) (Z4 r3.snd 0 fun x12=>Z1 x12 fun c13=>gd (decide (2≤c13.length)&&true) (ZU (some 2) (Zo (AM.partOf
 c13 1 none)) fun l14=>Za (Zr O 26 [V.vec .plain (some 2) l14]) fun r15=>ZU none r15 fun l16=>gd (below 0 (V.tup [V.vec .plain none l16,V.int 0])&&Zy
 0 []) (some (Out.ret (V.tup [V.vec .plain none l16,V.int 0]),[]))))))) fun p17=>none):=by kernel_rfl
theorem zmi(O:Oracle)(l0:(List V)):Zf Tryz.prog cfg O 10 [.vec .plain (some 4) l0] []=
 Za (O.loop 10 3 [V.int 0,V.mp 0,V.vec .plain (some 4) l0,V.vec .plain (some 4) l0,V.int (↑l0.length:Int)] [Res.map CT.str CT.int []]) fun r1=>Xj r1.fst none
 none (fun i2=>bc (i2.beq 0) (Ze r1.snd.fst fun v3 c4=>ZU (some 4) v3 fun l5=>Ze c4 fun v6 c7=>zik v6 fun q8=>Zh c7 (Za (O.loop 10 9 [V.int 0,
 V.vec Mode.grow none [],V.vec .plain (some 4) l5,V.mp q8,V.vec .plain (some 4) l5,V.int (↑l5.length:Int)] r1.snd.snd) fun r9=>Xj r9.fst none (Ze r9.snd.fst fun v10
 c11=>ZU none v10 fun l12=>Ze c11 fun v13 c14=>Zp v13 fun n15=>Zh c14 (gd (below 0 (V.tup [V.vec .plain none l12,V.int n15])&&Zy 0 []) (some (Out.ret
 (V.tup [V.vec .plain none l12,V.int n15]),[])))) (fun i16=>bc (i16.beq 2) (Ze r9.snd.fst fun v17 c18=>Xc none v17 fun l19=>Zh c18 (gd (below 0 (V.tup [V.vec
 .plain none l19,V.int 0])&&Zy 0 []) (some (Out.ret (V.tup [V.vec .plain none l19,V.int 0]),[])))) none) fun v20=>none)) none) fun v21=>none:=by kernel_rfl
theorem zcJ(O:Oracle)(n0:Int)(l2:(List V))(l3:(List V))(n4:Int)(es:List (V×V)):Z8 Tryz.prog cfg O 10 3 [.int n0, .mp 0, .vec .plain (some 4) l2, .vec .plain (some 4) l3, .int n4] [.map .str .int es]=
 bc (decide (n0<n4)) (gd (decide (0≤n0)&&decide (n0<(↑l2.length:Int))) (Zc [CT.str,CT.int,CT.int,CT.slice (some 3)] (ZW l2 n0) fun s1 n2 n3 l4=>Zp
 (Xm es (V.str s1) (V.int 0)) fun n5=>O.2 10 3 [V.int (IntKind.i64.wrap (n0+1)),V.mp 0,V.vec .plain (some 4) l2,V.vec .plain (some 4) l3,V.int n4] [Res.map
 CT.str CT.int (Qs es (V.str s1) (V.int (IntKind.i64.wrap (n5+1))))])) (some (Ex.exit 0,[V.vec .plain (some 4) l3,V.mp 0],[Res.map CT.str CT.int es])):=by kernel_rfl
theorem zcK(O:Oracle)(n0:Int)(l1:(List V))(l2:(List V))(l3:(List V))(n4:Int)(es:List (V×V)):Z8 Tryz.prog cfg O 10 9 [.int n0, .vec .grow none l1, .vec .plain (some 4) l2, .mp 0, .vec .plain (some 4) l3, .int n4] [.map .str .int es]=
 bc (decide (n0<n4)) (gd (decide (0≤n0)&&decide (n0<(↑l3.length:Int))) (Zc [CT.str,CT.int,CT.int,CT.slice (some 3)] (ZW l3 n0) fun s1 n2 n3 l4=>Za (Zr
 O 23 [V.str s1]) fun r5=>Zm r5 fun b6=>bc (!b6) (some (Ex.ret,[V.vec .plain none [],V.int 1],[Res.map CT.str CT.int es])) (Zp (Xm es (V.str s1) (V.int
 0)) fun n7=>bc (decide (n7>1)) (some (Ex.ret,[V.vec .plain none [],V.int 1],[Res.map CT.str CT.int es])) (Za (Zr O 11 [V.agg [V.int n2,V.int n3,V.vec
 .plain (some 3) l4],V.vec .plain (some 4) l2]) fun r8=>Z2 r8 fun c9=>Ze c9 fun v10 c11=>ZU none v10 fun l12=>Ze c11 fun v13 c14=>Zp v13 fun n15=>
 Zh c14 (bc (n15 !=0) (some (Ex.ret,[V.vec .plain none [],V.int n15],[Res.map CT.str CT.int es])) (gd (decide (s1.size+3≤9223372036854775807)) (gd (l12.all zio) (gd
 (decide ((s1++{data:= #[32,58,32]}).size+(XF l12).size≤9223372036854775807)) (gd (decide ((s1++{data:= #[32,58,32]}++XF l12).size+2≤
 9223372036854775807)) (gd (true&&roomFor Tryz.prog 5 (l1.length+(Xr (s1++{data:= #[32,58,32]}++XF l12++{data:= #[46,10]})).length)) (O.2
 10 9 [V.int (IntKind.i64.wrap (n0+1)),V.vec Mode.grow none (l1++Xr (s1++{data:= #[32,58,32]}++XF l12++{data:= #[46,10]})),V.vec .plain (some
 4) l2,V.mp 0,V.vec .plain (some 4) l3,V.int n4] [Res.map CT.str CT.int es]))))))))))) (some (Ex.exit 2,[V.vec Mode.grow none l1],[Res.map CT.str CT.int es])):=by kernel_rfl
theorem zfu(O:Oracle)(r0:Nat)(n1:Int)(n2:Int)(l3:(List V))(n4:Int)(st:St):Zf Tryz.prog cfg O 25 [.ref r0 0, .agg [.int n1, .int n2, .vec .plain (some 3) l3], .int n4] st=
 bc (n1==0) (Za (O.call 53 [V.ref r0 0,V.str {data:= #[116,121,112,101]}] st) fun r1=>Zj r1.fst (fun v2=>Z2 v2 fun c3=>Zh c3 (Y6
 (List.length st) (V.tup []) r1.snd)) fun p4=>none) (bc (n1==1) (Za (O.call 54 [V.ref r0 0,V.str {data:= #[123]},V.str {data:= #[125]},V.fn
 55 [] [V.cptr none (V.ref r0 0),V.cptr none (V.int n4),V.cptr (some 3) (V.agg [V.int n1,V.int n2,V.vec .plain (some 3) l3])]] st) fun r5=>Zj r5.fst (fun
 v6=>Z2 v6 fun c7=>Zh c7 (gd (true&&decide (1<(↑l3.length:Int))) (Zc [CT.int,CT.int,CT.slice (some 3)] (ZW l3 1) fun n8 n9 l10=>Za (O.call
 25 [V.ref r0 0,V.agg [V.int n8,V.int n9,V.vec .plain (some 3) l10],V.int (IntKind.i64.wrap (n4+1))] r5.snd) fun r11=>Zj r11.fst (fun v12=>Z2 v12
 fun c13=>Zh c13 (Y6 (List.length st) (V.tup []) r11.snd)) fun p14=>none))) fun p15=>none) (bc (n1==3) (Za (O.call 54 [V.ref r0 0,V.str {data:=
 #[91]},V.str {data:= #[93]},V.fn 58 [] [V.cptr none (V.ref r0 0),V.cptr none (V.int n4)]] st) fun r16=>Zj r16.fst (fun v17=>Z2 v17 fun c18=>
 Zh c18 (gd (true&&decide (0<(↑l3.length:Int))) (Zc [CT.int,CT.int,CT.slice (some 3)] (ZW l3 0) fun n19 n20 l21=>Za (O.call 25 [V.ref r0 0,
 V.agg [V.int n19,V.int n20,V.vec .plain (some 3) l21],V.int (IntKind.i64.wrap (n4+1))] r16.snd) fun r22=>Zj r22.fst (fun v23=>Z2 v23 fun c24=>Zh c24 (Y6
 (List.length st) (V.tup []) r22.snd)) fun p25=>none))) fun p26=>none) (Za (O.call 59 [V.ref r0 0,V.agg [V.int n1,V.int n2,V.vec .plain (some 3) l3],
 V.int n4] st) fun r27=>Zj r27.fst (fun v28=>Z2 v28 fun c29=>Zh c29 (Za (O.loop 25 4 [V.int 0,V.loc false none (V.int n4),V.loc false none
 (V.ref r0 0),V.vec .plain (some 3) l3,V.int (↑l3.length:Int)] r27.snd) fun r30=>Xj r30.fst none none (fun i31=>bc (i31.beq 1) (Zh r30.snd.fst (Y6 (List.length st)
 (V.tup []) r30.snd.snd)) none) fun v32=>none)) fun p33=>none))):=by kernel_rfl
theorem Ql(O:Oracle)(n0:Int)(n1:Int)(r2:Nat)(l3:(List V))(n4:Int)(st:St):Z8 Tryz.prog cfg O 25 4 [.int n0, .cptr none (.int n1), .cptr none (.ref r2 0), .vec .plain (some 3) l3, .int n4] st=
 bc (decide (n0<n4)) (gd (decide (0≤n0)&&decide (n0<(↑l3.length:Int))) (Zc [CT.int,CT.int,CT.slice (some 3)] (ZW l3 n0) fun n1_1 n2 l3_1=>Za (Zr O
 60 [V.agg [V.int n1_1,V.int n2,V.vec .plain (some 3) l3_1]]) fun r4=>Zm r4 fun b5=>bc b5 (Za (O.call 25 [V.ref r2 0,V.agg [V.int n1_1,
 V.int n2,V.vec .plain (some 3) l3_1],V.int n1] st) fun r6=>Zj r6.fst (fun v7=>Z2 v7 fun c8=>Zh c8 (O.2 25 4 [V.int (IntKind.i64.wrap (n0+1)),
 V.cptr none (V.int n1),V.cptr none (V.ref r2 0),V.vec .plain (some 3) l3,V.int n4] r6.snd)) fun p9=>none) (Za (O.call 54 [V.ref r2 0,V.str {data:=
 #[40]},V.str {data:= #[41]},V.fn 61 [] [V.cptr none (V.ref r2 0),V.cptr (some 3) (V.agg [V.int n1_1,V.int n2,V.vec .plain (some 3) l3_1]),V.cptr none
 (V.int n1)]] st) fun r10=>Zj r10.fst (fun v11=>Z2 v11 fun c12=>Zh c12 (O.2 25 4 [V.int (IntKind.i64.wrap (n0+1)),V.cptr none (V.int n1),V.cptr
 none (V.ref r2 0),V.vec .plain (some 3) l3,V.int n4] r10.snd)) fun p13=>none))) (some (Ex.exit 1,[],st)):=by kernel_rfl
theorem zfv(O:Oracle)(r0:Nat)(s1:ByteArray)(st:St):Zf Tryz.prog cfg O 53 [.ref r0 0, .str s1] st=
 Z4 st r0 fun x1=>Z1 x1 fun c2=>gd (decide (1<c2.length)&&true&&true) (XS (some 2) (c2.getD 1 V.undef) (fun l3=>gd (true&&roomFor Tryz.prog 84
 (l3.length+[V.agg [V.int 0,V.str s1]].length)) (Z4 (List.set st r0 (Res.box (c2.set 1 (V.vec .plain (some 2) l3)))) r0 fun x4=>Z1 x4 fun c5=>gd (decide (2≤c5.length)
 &&true) (Y6 (List.length st) (V.tup []) ((List.set st r0 (Res.box (c2.set 1 (V.vec .plain (some 2) l3)))).set r0 (Res.box (setCells c5 1 [V.vec Mode.grow (some 2) (l3++[V.agg
 [V.int 0,V.str s1]])])))))) fun l6=>gd (true&&roomFor Tryz.prog 84 (l6.length+[V.agg [V.int 0,V.str s1]].length)) (Z4 (List.set st r0 (Res.box (c2.set 1 (V.vec
 .plain (some 2) l6)))) r0 fun x7=>Z1 x7 fun c8=>gd (decide (2≤c8.length)&&true) (Y6 (List.length st) (V.tup []) ((List.set st r0 (Res.box (c2.set 1 (V.vec .plain (some
 2) l6)))).set r0 (Res.box (setCells c8 1 [V.vec Mode.grow (some 2) (l6++[V.agg [V.int 0,V.str s1]])])))))):=by kernel_rfl
theorem zd5(O:Oracle)(r0:Nat)(s1:ByteArray)(s2:ByteArray)(g3:Nat)(l4:(List V))(l5:(List V))(st:St):Zf Tryz.prog cfg O 54 [.ref r0 0, .str s1, .str s2, .fn g3 l4 l5] st=
 Za (O.call 57 [V.ref r0 0,V.vec .plain none [V.str s1]] st) fun r1=>Zj r1.fst (fun v2=>Z2 v2 fun c3=>Zh c3 (bc (cfg.pure g3) (Za (Zr O g3
 (l4++[]++l5)) fun r4=>Z2 r4 fun c5=>Zh c5 (Za (O.call 57 [V.ref r0 0,V.vec .plain none [V.str s2]] r1.snd) fun r6=>Zj r6.fst (fun v7=>
 Z2 v7 fun c8=>Zh c8 (Y6 (List.length st) (V.tup []) r6.snd)) fun p9=>none)) (Za (O.call g3 (l4++[]++l5) r1.snd) fun r10=>Zj r10.fst (fun v11=>Z2 v11
 fun c12=>Zh c12 (Za (O.call 57 [V.ref r0 0,V.vec .plain none [V.str s2]] r10.snd) fun r13=>Zj r13.fst (fun v14=>Z2 v14 fun c15=>Zh c15
 (Y6 (List.length st) (V.tup []) r13.snd)) fun p16=>none)) fun p17=>none))) fun p18=>none:=by kernel_rfl
theorem zd6(O:Oracle)(r0:Nat)(n0:Int)(k:Int)(h:Int)(l:(List V))(st:St):Zf Tryz.prog cfg O 55 [.cptr none (.ref r0 0), .cptr none (.int n0), .cptr (some 3) (.agg [.int k, .int h, .vec .plain (some 3) l])] st=
 Za (O.call 56 [V.ref r0 0,V.int n0] st) fun r1=>Zj r1.fst (fun v2=>Z2 v2 fun c3=>Zh c3 (Za (O.call 57 [V.ref r0 0,V.vec
 .plain none [V.str {data:= #[58]}]] r1.snd) fun r4=>Zj r4.fst (fun v5=>Z2 v5 fun c6=>Zh c6 (gd (true&&decide (0<(↑l.length:Int))) (Zc [CT.int,
 CT.int,CT.slice (some 3)] (ZW l 0) fun n7 n8 l9=>Za (O.call 25 [V.ref r0 0,V.agg [V.int n7,V.int n8,V.vec .plain (some 3) l9],V.int n0] r4.snd) fun r10
 =>Zj r10.fst (fun v11=>Z2 v11 fun c12=>Zh c12 (Y6 (List.length st) (V.tup []) r10.snd)) fun p13=>none))) fun p14=>none)) fun p15=>none:=by kernel_rfl
theorem zey(O:Oracle)(r0:Nat)(n1:Int)(st:St):Zf Tryz.prog cfg O 56 [.ref r0 0, .int n1] st=
 Za (Zr O 82 [V.int n1]) fun r1=>YU r1 fun s2=>gd (decide (1+s2.size≤9223372036854775807)) (Za (O.call 53 [V.ref r0 0,V.str ({data
 := #[95]}++s2)] st) fun r3=>Zj r3.fst (fun v4=>Z2 v4 fun c5=>Zh c5 (Y6 (List.length st) (V.tup []) r3.snd)) fun p6=>none):=by kernel_rfl
theorem zez(O:Oracle)(r0:Nat)(l1:(List V))(st:St):Zf Tryz.prog cfg O 57 [.ref r0 0, .vec .plain none l1] st=
 Za (O.loop 57 1 [V.int 0,V.ref r0 0,V.vec .plain none l1,V.int (↑l1.length:Int)] st) fun r1=>Xj r1.fst none none (fun i2=>bc (i2.beq 0) (Zh
 r1.snd.fst (Y6 (List.length st) (V.tup []) r1.snd.snd)) none) fun v3=>none:=by kernel_rfl
theorem Jy(O:Oracle)(n0:Int)(r1:Nat)(l2:(List V))(n3:Int)(st:St):Z8 Tryz.prog cfg O 57 1 [.int n0, .ref r1 0, .vec .plain none l2, .int n3] st=
 bc (decide (n0<n3)) (gd (decide (0≤n0)&&decide (n0<(↑l2.length:Int))) (YU (ZW l2 n0) fun s1=>Z4 st r1 fun x2=>Z1 x2 fun c3=>gd (decide (1<c3.length)&&
 true&&true) (XS (some 2) (c3.getD 1 V.undef) (fun l4=>gd (true&&roomFor Tryz.prog 84 (l4.length+[V.agg [V.int 1,V.str s1]].length)) (Z4 (List.set st r1
 (Res.box (c3.set 1 (V.vec .plain (some 2) l4)))) r1 fun x5=>Z1 x5 fun c6=>gd (decide (2≤c6.length)&&true) (O.2 57 1 [V.int (IntKind.i64.wrap (n0+1)),
 V.ref r1 0,V.vec .plain none l2,V.int n3] ((List.set st r1 (Res.box (c3.set 1 (V.vec .plain (some 2) l4)))).set r1 (Res.box (setCells c6 1 [V.vec Mode.grow (some 2) (l4++
 [V.agg [V.int 1,V.str s1]])])))))) fun l7=>gd (true&&roomFor Tryz.prog 84 (l7.length+[V.agg [V.int 1,V.str s1]].length)) (Z4 (List.set st r1 (Res.box (c3.set 1
 (V.vec .plain (some 2) l7)))) r1 fun x8=>Z1 x8 fun c9=>gd (decide (2≤c9.length)&&true) (O.2 57 1 [V.int (IntKind.i64.wrap (n0+1)),V.ref r1 0,V.vec
 .plain none l2,V.int n3] ((List.set st r1 (Res.box (c3.set 1 (V.vec .plain (some 2) l7)))).set r1 (Res.box (setCells c9 1 [V.vec Mode.grow (some 2) (l7++[V.agg [V.int 1,V.str
 s1]])])))))))) (some (Ex.exit 0,[],st)):=by kernel_rfl
theorem zd7(O:Oracle)(r0:Nat)(n0:Int)(st:St):Zf Tryz.prog cfg O 58 [.cptr none (.ref r0 0), .cptr none (.int n0)] st=
 Za (O.call 56 [V.ref r0 0,V.int n0] st) fun r1=>Zj r1.fst (fun v2=>Z2 v2 fun c3=>Zh c3 (Y6 (List.length st) (V.tup []) r1.snd)) fun p4=>none:=by kernel_rfl
theorem XZ(O:Oracle)(r0:Nat)(n1:Int)(n2:Int)(l3:(List V))(n4:Int)(st:St):Zf Tryz.prog cfg O 59 [.ref r0 0, .agg [.int n1, .int n2, .vec .plain (some 3) l3], .int n4] st=
 bc (n1==4) (bc (decide (n2<n4)) (Za (O.call 56 [V.ref r0 0,V.int (IntKind.i64.wrap (IntKind.i64.wrap (n4-1)-n2))] st) fun r1=>Zj r1.fst (fun v2
 =>Z2 v2 fun c3=>Zh c3 (Y6 (List.length st) (V.tup []) r1.snd)) fun p4=>none) (bc (n1==2) (Z4 st r0 fun x5=>Z1 x5 fun c6=>gd (decide (1≤c6.length)&&true)
 (ZU (some 4) (Zo (AM.partOf c6 0 none)) fun l7=>bc (decide (n2<(↑l7.length:Int))) (Z4 st r0 fun x8=>Z1 x8 fun c9=>gd (decide (1≤c9.length)&&true) (ZU
 (some 4) (Zo (AM.partOf c9 0 none)) fun l10=>gd (decide (0≤n2)&&decide (n2<(↑l10.length:Int))) (Y3 (ZW l10 n2) fun c11=>gd (decide (1≤c11.length)) (YU
 (AM.partOf c11 0 none) fun s12=>Za (O.call 53 [V.ref r0 0,V.str s12] st) fun r13=>Zj r13.fst (fun v14=>Z2 v14 fun c15=>Zh c15 (Y6
 (List.length st) (V.tup []) r13.snd)) fun p16=>none)))) (Z4 st r0 fun x17=>Z1 x17 fun c18=>gd (decide (3≤c18.length)&&true) (Y6 (List.length st) (V.tup [])
 (List.set st r0 (Res.box (setCells c18 2 [V.int 2]))))))) (bc (n1==5) (Z4 st r0 fun x19=>Z1 x19 fun c20=>gd (decide (1≤c20.length)&&true) (ZU (some 4) (Zo
 (AM.partOf c20 0 none)) fun l21=>bc (decide (n2<(↑l21.length:Int))) (Z4 st r0 fun x22=>Z1 x22 fun c23=>gd (decide (1≤c23.length)&&true) (ZU (some 4) (Zo
 (AM.partOf c23 0 none)) fun l24=>gd (decide (0≤n2)&&decide (n2<(↑l24.length:Int))) (Y3 (ZW l24 n2) fun c25=>gd (decide (1≤c25.length)) (YU (AM.partOf c25 0
 none) fun s26=>Za (O.call 53 [V.ref r0 0,V.str s26] st) fun r27=>Zj r27.fst (fun v28=>Z2 v28 fun c29=>Zh c29 (Y6 (List.length st) (V.tup [])
 r27.snd)) fun p30=>none)))) (Z4 st r0 fun x31=>Z1 x31 fun c32=>gd (decide (3≤c32.length)&&true) (Y6 (List.length st) (V.tup []) (List.set st r0 (Res.box (setCells
 c32 2 [V.int 2]))))))) (Z4 st r0 fun x33=>Z1 x33 fun c34=>gd (decide (3≤c34.length)&&true) (Y6 (List.length st) (V.tup []) (List.set st r0 (Res.box (setCells c34 2
 [V.int 2])))))))) (bc (n1==2) (Z4 st r0 fun x35=>Z1 x35 fun c36=>gd (decide (1≤c36.length)&&true) (ZU (some 4) (Zo (AM.partOf c36 0 none)) fun l37=>bc
 (decide (n2<(↑l37.length:Int))) (Z4 st r0 fun x38=>Z1 x38 fun c39=>gd (decide (1≤c39.length)&&true) (ZU (some 4) (Zo (AM.partOf c39 0 none)) fun l40=>gd
 (decide (0≤n2)&&decide (n2<(↑l40.length:Int))) (Y3 (ZW l40 n2) fun c41=>gd (decide (1≤c41.length)) (YU (AM.partOf c41 0 none) fun s42=>Za (O.call
 53 [V.ref r0 0,V.str s42] st) fun r43=>Zj r43.fst (fun v44=>Z2 v44 fun c45=>Zh c45 (Y6 (List.length st) (V.tup []) r43.snd)) fun p46=>none))))
 (Z4 st r0 fun x47=>Z1 x47 fun c48=>gd (decide (3≤c48.length)&&true) (Y6 (List.length st) (V.tup []) (List.set st r0 (Res.box (setCells c48 2 [V.int 2]))))))) (bc (n1
 ==5) (Z4 st r0 fun x49=>Z1 x49 fun c50=>gd (decide (1≤c50.length)&&true) (ZU (some 4) (Zo (AM.partOf c50 0 none)) fun l51=>bc (decide (n2<(↑l51.length:
 Int))) (Z4 st r0 fun x52=>Z1 x52 fun c53=>gd (decide (1≤c53.length)&&true) (ZU (some 4) (Zo (AM.partOf c53 0 none)) fun l54=>gd (decide (0≤n2)&&decide
 (n2<(↑l54.length:Int))) (Y3 (ZW l54 n2) fun c55=>gd (decide (1≤c55.length)) (YU (AM.partOf c55 0 none) fun s56=>Za (O.call 53 [V.ref r0 0,
 V.str s56] st) fun r57=>Zj r57.fst (fun v58=>Z2 v58 fun c59=>Zh c59 (Y6 (List.length st) (V.tup []) r57.snd)) fun p60=>none)))) (Z4 st r0 fun x61=>Z1 x61
 fun c62=>gd (decide (3≤c62.length)&&true) (Y6 (List.length st) (V.tup []) (List.set st r0 (Res.box (setCells c62 2 [V.int 2]))))))) (Z4 st r0 fun x63=>Z1 x63 fun c64
 =>gd (decide (3≤c64.length)&&true) (Y6 (List.length st) (V.tup []) (List.set st r0 (Res.box (setCells c64 2 [V.int 2]))))))):=by kernel_rfl
theorem zkc(O:Oracle)(n0:Int)(n1:Int)(l2:(List V)):Zf Tryz.prog cfg O 60 [.agg [.int n0, .int n1, .vec .plain (some 3) l2]] []=
 bc ((↑l2.length:Int)==0) (bc (n0==4) (some (Out.ret (V.bool true),[])) (bc (n0==2) (some (Out.ret (V.bool true),[])) (some (Out.ret (V.bool (n0==5)),[])))) (some
 (Out.ret (V.bool false),[])):=by kernel_rfl
theorem zd8(O:Oracle)(r0:Nat)(n0:Int)(k:Int)(h:Int)(l:(List V))(st:St):Zf Tryz.prog cfg O 61 [.cptr none (.ref r0 0), .cptr (some 3) (.agg [.int k, .int h, .vec .plain (some 3) l]), .cptr none (.int n0)] st=
 Za (O.call 25 [V.ref r0 0,V.agg [V.int k,V.int h,V.vec .plain (some 3) l],V.int n0] st) fun r1=>Zj r1.fst (fun v2=>Z2 v2 fun c3=>Zh c3 (Y6
 (List.length st) (V.tup []) r1.snd)) fun p4=>none:=by kernel_rfl
theorem XA(O:Oracle)(n0:Int)(n1:Int)(r2:Nat)(l3:(List V))(n4:Int)(st:St):Z8 Tryz.prog cfg O 25 4 [.int n0, .loc false none (.int n1), .loc false none (.ref r2 0), .vec .plain (some 3) l3, .int n4] st=
 bc (decide (n0<n4)) (gd (decide (0≤n0)&&decide (n0<(↑l3.length:Int))) (Zc [CT.int,CT.int,CT.slice (some 3)] (ZW l3 n0) fun n1_1 n2 l3_1=>Za (Zr O
 60 [V.agg [V.int n1_1,V.int n2,V.vec .plain (some 3) l3_1]]) fun r4=>Zm r4 fun b5=>bc b5 (Za (O.call 25 [V.ref r2 0,V.agg [V.int n1_1,
 V.int n2,V.vec .plain (some 3) l3_1],V.int n1] st) fun r6=>Zj r6.fst (fun v7=>Z2 v7 fun c8=>Zh c8 (O.2 25 4 [V.int (IntKind.i64.wrap (n0+1)),
 V.loc false none (V.int n1),V.loc false none (V.ref r2 0),V.vec .plain (some 3) l3,V.int n4] r6.snd)) fun p9=>none) (Za (O.call 54 [V.ref r2 0,V.str {
 data:= #[40]},V.str {data:= #[41]},V.fn 61 [] [V.cptr none (V.ref r2 0),V.cptr (some 3) (V.agg [V.int n1_1,V.int n2,V.vec .plain (some 3) l3_1]),
 V.cptr none (V.int n1)]] st) fun r10=>Zj r10.fst (fun v11=>Z2 v11 fun c12=>Zh c12 (O.2 25 4 [V.int (IntKind.i64.wrap (n0+1)),V.cptr none (V.int
 n1),V.cptr none (V.ref r2 0),V.vec .plain (some 3) l3,V.int n4] r10.snd)) fun p13=>none))) (some (Ex.exit 1,[],st)):=by kernel_rfl
end Go.Proofs.SZ
namespace Go.Proofs.SZ
open Go Go.AM
set_option maxRecDepth 20000
theorem zpt(O:Oracle)(n0:Int)(n1:Int)(l2:(List V)):Zf Tryz.prog cfg O 24 [.agg [.int n0, .int n1, .vec .plain (some 3) l2]] []=
 Za (Zr O 48 [V.agg [V.int n0,V.int n1,V.vec .plain (some 3) l2]]) fun r1=>Zp r1 fun n2=>bc (decide (n2≤60)) (Za (Zr O 49 [V.agg [V.int
 n0,V.int n1,V.vec .plain (some 3) l2]]) fun r3=>Zp r3 fun n4=>bc (decide (n4≤4000)) (Za (O.call 50 [V.agg [V.int n0,V.int n1,V.vec .plain (some 3) l2],
 V.fn 51 [] []] []) fun r5=>Zj r5.fst (fun v6=>Zm v6 fun b7=>some (Out.ret (V.bool b7),[])) fun p8=>none) (some (Out.ret (V.bool false),[]))) (some
 (Out.ret (V.bool false),[])):=by kernel_rfl
theorem znM(O:Oracle)(l0:(List V)):Zf Tryz.prog cfg O 6 [.vec .plain (some 4) l0] []=
 bc (decide ((↑l0.length:Int)>30)) (some (Out.ret (V.bool false),[])) (Za (O.loop 6 4 [V.int 0,V.vec .plain (some 4) l0] []) fun r1=>Xj r1.fst none (Ze
 r1.snd.fst fun v2 c3=>Zm v2 fun b4=>Zh c3 (some (Out.ret (V.bool b4),[]))) (fun i5=>bc (i5.beq 0) (Zh r1.snd.fst (some (Out.ret (V.bool true),[]))) none) fun v6
 =>none):=by kernel_rfl
theorem zd9(O:Oracle)(n0:Int)(l1:(List V)):Z8 Tryz.prog cfg O 6 4 [.int n0, .vec .plain (some 4) l1] []=
 bc (decide (n0<(↑l1.length:Int))) (gd (decide (0≤n0)&&decide (n0<(↑l1.length:Int))) (Y3 (ZW l1 n0) fun c1=>gd (decide (4≤c1.length)) (onCells [CT.int,CT.int,
 CT.slice (some 3)] (List.take 3 (List.drop 1 c1)) fun n2 n3 l4=>Za (Zr O 8 [V.agg [V.int n2,V.int n3,V.vec .plain (some 3) l4],V.int 1000,V.int 80]) fun r5
 =>Zm r5 fun b6=>bc (!b6) (some (Ex.ret,[V.bool false],[])) (O.2 6 4 [V.int (IntKind.i64.wrap (n0+1)),V.vec .plain (some 4) l1] [])))) (some (Ex.exit 0,[],
 [])):=by kernel_rfl
theorem znN(O:Oracle)(n0:Int)(n1:Int)(l2:(List V))(n3:Int)(n4:Int)(l5:(List V)):Zf Tryz.prog cfg O 13 [.agg [.int n0, .int n1, .vec .plain (some 3) l2], .agg [.int n3, .int n4, .vec .plain (some 3) l5]] []=
 bc (n0 !=n3) (some (Out.ret (V.bool false),[])) (bc (n1 !=n4) (some (Out.ret (V.bool false),[])) (bc ((↑l2.length:Int) !=(↑l5.length:Int)) (some (Out.ret (V.bool false),
 [])) (Za (O.loop 13 4 [V.int 0,V.loc false (some 3) (V.agg [V.int n3,V.int n4,V.vec .plain (some 3) l5]),V.vec .plain (some 3) l2,V.int (↑l2.length:Int)] [])
 fun r1=>Xj r1.fst none (Ze r1.snd.fst fun v2 c3=>Zm v2 fun b4=>Zh c3 (some (Out.ret (V.bool b4),[]))) (fun i5=>bc (i5.beq 0) (Zh r1.snd.fst (some (Out.ret
 (V.bool true),[]))) none) fun v6=>none))):=by kernel_rfl
theorem zdA(O:Oracle)(n0:Int)(n1:Int)(n2:Int)(l3:(List V))(l4:(List V))(n5:Int):Z8 Tryz.prog cfg O 13 4 [.int n0, .loc false (some 3) (.agg [.int n1, .int n2, .vec .plain (some 3) l3]), .vec .plain (some 3) l4, .int n5] []=
 bc (decide (n0<n5)) (gd (decide (0≤n0)&&decide (n0<(↑l4.length:Int))) (Zc [CT.int,CT.int,CT.slice (some 3)] (ZW l4 n0) fun n1_1 n2_1 l3_1=>gd (decide (0≤
 n0)&&decide (n0<(↑l3.length:Int))) (Zc [CT.int,CT.int,CT.slice (some 3)] (ZW l3 n0) fun n4 n5_1 l6=>Za (Zr O 13 [V.agg [V.int n1_1,V.int n2_1,
 V.vec .plain (some 3) l3_1],V.agg [V.int n4,V.int n5_1,V.vec .plain (some 3) l6]]) fun r7=>Zm r7 fun b8=>bc (!b8) (some (Ex.ret,[V.bool false],[])) (O.2 13 4
 [V.int (IntKind.i64.wrap (n0+1)),V.loc false (some 3) (V.agg [V.int n1,V.int n2,V.vec .plain (some 3) l3]),V.vec .plain (some 3) l4,V.int n5] [])))) (some (Ex.exit 0,[],
 [])):=by kernel_rfl
theorem znO(O:Oracle)(n0:Int)(n1:Int)(l2:(List V)):Zf Tryz.prog cfg O 49 [.agg [.int n0, .int n1, .vec .plain (some 3) l2]] []=
 Za (O.call 81 [V.agg [V.int n0,V.int n1,V.vec .plain (some 3) l2]] [Res.box [V.int 0]]) fun r1=>Zj r1.fst (fun v2=>zhR v2 fun g3 a4 b5=>Za (O.call g3
 (a4++[V.yld (List.length r1.snd)]++b5) (r1.snd++[Res.loop 49 3 [V.ref 0 0] LSt.ready none])) fun r6=>Zj r6.fst (fun v7=>Z4 r6.snd (List.length r1.snd) fun
 x8=>Xw x8 fun f9 k10 vs11 s12 p13=>Jp s12 p13 (Z4 (List.set r6.snd (List.length r1.snd) Res.dead) 0 fun x14=>Z1 x14 fun c15=>gd (decide (1≤c15.length)&&
 true) (Zp (Zo (AM.partOf c15 0 none)) fun n16=>some (Out.ret (V.int n16),[]))) none fun i17=>none) fun p18=>none) fun p19=>none:=by kernel_rfl
theorem ziV(O:Oracle)(n i:Int)(c:List V):XG Tryz.prog cfg O 1 49 3 [.ref 0 0] [.int i, .agg c] [.box [.int n], .loop 49 3 [.ref 0 0] .ready none]=
 some (true,[Res.box [V.int (IntKind.i64.wrap (n+1))],Res.loop 49 3 [V.ref 0 0] LSt.ready none]):=by kernel_rfl
theorem zmj(O:Oracle)(n0:Int)(n1:Int)(l2:(List V))(n3:Int)(n4:Int)(l5:(List V)):Zf Tryz.prog cfg O 36 [.agg [.int n0, .int n1, .vec .plain (some 3) l2], .agg [.int n3, .int n4, .vec .plain (some 3) l5]] []=
 bc (n0 !=n3) (some (Out.ret (V.bool false),[])) (bc (n1 !=n4) (some (Out.ret (V.bool false),[])) (bc ((↑l2.length:Int) !=(↑l5.length:Int)) (some (Out.ret (V.bool false),
 [])) (Za (O.loop 36 4 [V.int 0,V.loc false (some 3) (V.agg [V.int n3,V.int n4,V.vec .plain (some 3) l5]),V.loc false (some 3) (V.agg [V.int n0,V.int n1,V.vec
 .plain (some 3) l2])] []) fun r1=>Xj r1.fst none (Ze r1.snd.fst fun v2 c3=>Zm v2 fun b4=>Zh c3 (some (Out.ret (V.bool b4),[]))) (fun i5=>bc (i5.beq 0) (Zh
 r1.snd.fst (some (Out.ret (V.bool true),[]))) none) fun v6=>none))):=by kernel_rfl
theorem zcL(O:Oracle)(n0:Int)(n1:Int)(n2:Int)(l3:(List V))(n4:Int)(n5:Int)(l6:(List V)):Z8 Tryz.prog cfg O 36 4 [.int n0, .loc false (some 3) (.agg [.int n1, .int n2, .vec .plain (some 3) l3]), .loc false (some 3) (.agg [.int n4, .int n5, .vec .plain (some 3) l6])] []=
 bc (decide (n0<(↑l6.length:Int))) (gd (decide (0≤n0)&&decide (n0<(↑l6.length:Int))) (Zc [CT.int,CT.int,CT.slice (some 3)] (ZW l6 n0) fun n1_1 n2_1 l3_1=>gd
 (decide (0≤n0)&&decide (n0<(↑l3.length:Int))) (Zc [CT.int,CT.int,CT.slice (some 3)] (ZW l3 n0) fun n4_1 n5_1 l6_1=>Za (Zr O 36 [V.agg [V.int
 n1_1,V.int n2_1,V.vec .plain (some 3) l3_1],V.agg [V.int n4_1,V.int n5_1,V.vec .plain (some 3) l6_1]]) fun r7=>Zm r7 fun b8=>bc (!b8) (some (Ex.ret,[V.bool false],
 [])) (O.2 36 4 [V.int (IntKind.i64.wrap (n0+1)),V.loc false (some 3) (V.agg [V.int n1,V.int n2,V.vec .plain (some 3) l3]),V.loc false (some 3) (V.agg [V.int n4,
 V.int n5,V.vec .plain (some 3) l6])] [])))) (some (Ex.exit 0,[],[])):=by kernel_rfl
theorem zmk(O:Oracle)(n0:Int)(n1:Int)(l2:(List V)):Zf Tryz.prog cfg O 48 [.agg [.int n0, .int n1, .vec .plain (some 3) l2]] []=
 Za (O.loop 48 3 [V.int 0,V.int 0,V.vec .plain (some 3) l2,V.int (↑l2.length:Int)] []) fun r1=>Xj r1.fst none none (fun i2=>bc (i2.beq 0) (Ze r1.snd.fst
 fun v3 c4=>Zp v3 fun n5=>Zh c4 (some (Out.ret (V.int (IntKind.i64.wrap (n5+1))),[]))) none) fun v6=>none:=by kernel_rfl
theorem zcM(O:Oracle)(n0:Int)(n1:Int)(l2:(List V))(n3:Int):Z8 Tryz.prog cfg O 48 3 [.int n0, .int n1, .vec .plain (some 3) l2, .int n3] []=
 bc (decide (n0<n3)) (gd (decide (0≤n0)&&decide (n0<(↑l2.length:Int))) (Zc [CT.int,CT.int,CT.slice (some 3)] (ZW l2 n0) fun n1_1 n2 l3=>Za (Zr O
 48 [V.agg [V.int n1_1,V.int n2,V.vec .plain (some 3) l3]]) fun r4=>Zp r4 fun n5=>O.2 48 3 [V.int (IntKind.i64.wrap (n0+1)),V.int (if n5>n1 then
 n5 else n1),V.vec .plain (some 3) l2,V.int n3] [])) (some (Ex.exit 0,[V.int n1],[])):=by kernel_rfl
theorem zpu(O:Oracle)(k h:Int)(xs:List V)(g:Nat)(a b:List V):Zf Tryz.prog cfg O 50 [.agg [.int k, .int h, .vec .plain (some 3) xs], .fn g a b] []=
 Za (O.call 81 [V.agg [V.int k,V.int h,V.vec .plain (some 3) xs]] [Res.box [V.bool false]]) fun r1=>Zj r1.fst (fun v2=>zhR v2 fun g3 a4 b5=>Za (O.call
 g3 (a4++[V.yld (List.length r1.snd)]++b5) (r1.snd++[Res.loop 50 4 [V.ref 0 0,V.cptr none (V.fn g a b)] LSt.ready none])) fun r6=>Zj r6.fst (fun v7=>Z4
 r6.snd (List.length r1.snd) fun x8=>Xw x8 fun f9 k10 vs11 s12 p13=>Jp s12 p13 (Z4 (List.set r6.snd (List.length r1.snd) Res.dead) 0 fun x14=>Z1 x14 fun c15=>
 gd (decide (1≤c15.length)&&true) (Z4 ((List.set r6.snd (List.length r1.snd) Res.dead).set 0 (Res.box (setCells c15 0 [V.bool true]))) 0 fun x16=>Z1 x16 fun c17=>gd
 (decide (1≤c17.length)&&true) (Y6 0 (Zo (AM.partOf c17 0 none)) ((List.set r6.snd (List.length r1.snd) Res.dead).set 0 (Res.box (setCells c15 0 [V.bool true])))))) (Z4
 (List.set r6.snd (List.length r1.snd) Res.dead) 0 fun x18=>Z1 x18 fun c19=>gd (decide (1≤c19.length)&&true) (Y6 0 (Zo (AM.partOf c19 0 none)) (List.set r6.snd
 (List.length r1.snd) Res.dead))) fun i20=>none) fun p21=>none) fun p22=>none:=by kernel_rfl
theorem zkd(O:Oracle)(i k h:Int)(xs:List V)(b0:Bool)(g:Nat)(a b:List V):XG Tryz.prog cfg O 1 50 4 [.ref 0 0, .cptr none (.fn g a b)] [.int i, .agg [.int k, .int h, .vec .plain (some 3) xs]] [.box [.bool b0], .loop 50 4 [.ref 0 0, .cptr none (.fn g a b)] .ready none]=
 bc (cfg.pure g) (Za (Zr O g (a++[V.int i,V.agg [V.int k,V.int h,V.vec .plain (some 3) xs]]++b)) fun r1=>Zm r1 fun b2=>bc (!b2) (some (false,[Res.box [V.bool
 false],Res.loop 50 4 [V.ref 0 0,V.cptr none (V.fn g a b)] LSt.done (some Ex.ret)])) (some (true,[Res.box [V.bool b0],Res.loop 50 4 [V.ref 0 0,V.cptr none
 (V.fn g a b)] LSt.ready none]))) (Za (O.call g (a++[V.int i,V.agg [V.int k,V.int h,V.vec .plain (some 3) xs]]++b) [Res.box [V.bool b0],Res.loop 50 4 [V.ref 0 0,
 V.cptr none (V.fn g a b)] LSt.busy none]) fun r3=>Zj r3.fst (fun v4=>Zm v4 fun b5=>bc (!b5) (Z4 r3.snd 0 fun x6=>Z1 x6 fun c7=>gd (decide (1≤c7.length)&&
 true) (Z4 (List.set r3.snd 0 (Res.box (setCells c7 0 [V.bool false]))) 1 fun x8=>Xw x8 fun f9 k10 vs11 s12 p13=>ziu s12 (some (false,(List.set r3.snd 0 (Res.box
 (setCells c7 0 [V.bool false]))).set 1 (Res.loop f9 k10 vs11 LSt.done (some Ex.ret)))))) (Z4 r3.snd 1 fun x14=>Xw x14 fun f15 k16 vs17 s18 p19=>ziu s18 (some (true,
 List.set r3.snd 1 (Res.loop f15 k16 vs17 LSt.ready none))))) fun p20=>none):=by kernel_rfl
theorem zml(O:Oracle)(n0:Int)(n1:Int)(n2:Int)(l3:(List V)):Zf Tryz.prog cfg O 51 [.int n0, .agg [.int n1, .int n2, .vec .plain (some 3) l3]] []=
 Za (Zr O 52 [V.agg [V.int n1,V.int n2,V.vec .plain (some 3) l3]]) fun r1=>Zm r1 fun b2=>some (Out.ret (V.bool b2),[]):=by kernel_rfl
theorem zpv(O:Oracle)(n0:Int)(n1:Int)(l2:(List V)):Zf Tryz.prog cfg O 52 [.agg [.int n0, .int n1, .vec .plain (some 3) l2]] []=
 bc (n0==0) (bc (n1==0) (some (Out.ret (V.bool ((↑l2.length:Int)==0)),[])) (some (Out.ret (V.bool false),[]))) (bc (n0==1) (bc (n1==0) (some (Out.ret (V.bool
 ((↑l2.length:Int)==2)),[])) (some (Out.ret (V.bool false),[]))) (bc (n0==3) (bc (n1==0) (some (Out.ret (V.bool ((↑l2.length:Int)==1)),[])) (some (Out.ret (V.bool
 false),[]))) (bc (decide (n0≥0)) (bc (decide (n0<7)) (some (Out.ret (V.bool (decide (n1≥0))),[])) (some (Out.ret (V.bool false),[]))) (some (Out.ret (V.bool false),
 []))))):=by kernel_rfl
theorem zke(O:Oracle)(n0:Int)(n1:Int)(l2:(List V))(n3:Int)(n4:Int):Zf Tryz.prog cfg O 8 [.agg [.int n0, .int n1, .vec .plain (some 3) l2], .int n3, .int n4] []=
 Za (Zr O 18 [V.agg [V.int n0,V.int n1,V.vec .plain (some 3) l2]]) fun r1=>Zm r1 fun b2=>bc b2 (Za (Zr O 19 [V.agg [V.int n0,V.int n1,
 V.vec .plain (some 3) l2]]) fun r3=>Zp r3 fun n4_1=>bc (decide (n4_1≤n3)) (Za (Zr O 20 [V.agg [V.int n0,V.int n1,V.vec .plain (some 3) l2]]) fun r5=>
 Zp r5 fun n6=>some (Out.ret (V.bool (decide (n6≤n4))),[])) (some (Out.ret (V.bool false),[]))) (some (Out.ret (V.bool false),[])):=by kernel_rfl
theorem zgk(O:Oracle)(k h:Int)(xs:List V)(x:Res):Zf Tryz.prog cfg O 81 [.agg [.int k, .int h, .vec .plain (some 3) xs]] [x]=
 some (Out.ret (V.fn 100 [] [V.cptr (some 3) (V.agg [V.int k,V.int h,V.vec .plain (some 3) xs])]),[x]):=by kernel_rfl
theorem znP(O:Oracle)(n0:Int)(n1:Int)(l2:(List V)):Zf Tryz.prog cfg O 18 [.agg [.int n0, .int n1, .vec .plain (some 3) l2]] []=
 bc (decide (n1>1099511627776)) (some (Out.ret (V.bool false),[])) (Za (O.loop 18 4 [V.int 0,V.loc false (some 3) (V.agg [V.int n0,V.int n1,V.vec .plain (some 3)
 l2])] []) fun r1=>Xj r1.fst none (Ze r1.snd.fst fun v2 c3=>Zm v2 fun b4=>Zh c3 (some (Out.ret (V.bool b4),[]))) (fun i5=>bc (i5.beq 0) (Zh r1.snd.fst
 (some (Out.ret (V.bool true),[]))) none) fun v6=>none):=by kernel_rfl
theorem zdB(O:Oracle)(n0:Int)(n1:Int)(n2:Int)(l3:(List V)):Z8 Tryz.prog cfg O 18 4 [.int n0, .loc false (some 3) (.agg [.int n1, .int n2, .vec .plain (some 3) l3])] []=
 bc (decide (n0<(↑l3.length:Int))) (gd (decide (0≤n0)&&decide (n0<(↑l3.length:Int))) (Zc [CT.int,CT.int,CT.slice (some 3)] (ZW l3 n0) fun n1_1 n2_1 l3_1=>
 Za (Zr O 18 [V.agg [V.int n1_1,V.int n2_1,V.vec .plain (some 3) l3_1]]) fun r4=>Zm r4 fun b5=>bc (!b5) (some (Ex.ret,[V.bool false],[])) (O.2
 18 4 [V.int (IntKind.i64.wrap (n0+1)),V.loc false (some 3) (V.agg [V.int n1,V.int n2,V.vec .plain (some 3) l3])] []))) (some (Ex.exit 0,[],[])):=by kernel_rfl
theorem zmm(O:Oracle)(n0:Int)(n1:Int)(l2:(List V)):Zf Tryz.prog cfg O 19 [.agg [.int n0, .int n1, .vec .plain (some 3) l2]] []=
 Za (O.loop 19 3 [V.int 0,V.loc false (some 3) (V.agg [V.int n0,V.int n1,V.vec .plain (some 3) l2]),V.int 1] []) fun r1=>Xj r1.fst none none (fun i2=>bc
 (i2.beq 0) (Ze r1.snd.fst fun v3 c4=>Zp v3 fun n5=>Zh c4 (some (Out.ret (V.int n5),[]))) none) fun v6=>none:=by kernel_rfl
theorem zcN(O:Oracle)(n0:Int)(n1:Int)(n2:Int)(l3:(List V))(n4:Int):Z8 Tryz.prog cfg O 19 3 [.int n0, .loc false (some 3) (.agg [.int n1, .int n2, .vec .plain (some 3) l3]), .int n4] []=
 bc (decide (n0<(↑l3.length:Int))) (gd (decide (0≤n0)&&decide (n0<(↑l3.length:Int))) (Zc [CT.int,CT.int,CT.slice (some 3)] (ZW l3 n0) fun n1_1 n2_1 l3_1=>
 Za (Zr O 19 [V.agg [V.int n1_1,V.int n2_1,V.vec .plain (some 3) l3_1]]) fun r4=>Zp r4 fun n5=>O.2 19 3 [V.int (IntKind.i64.wrap (n0+1)),V.loc
 false (some 3) (V.agg [V.int n1,V.int n2,V.vec .plain (some 3) l3]),V.int (IntKind.i64.wrap (n4+n5))] [])) (some (Ex.exit 0,[V.int n4],[])):=by kernel_rfl
theorem zkf(O:Oracle)(n0:Int)(n1:Int)(l2:(List V)):Zf Tryz.prog cfg O 20 [.agg [.int n0, .int n1, .vec .plain (some 3) l2]] []=
 Za (O.loop 20 3 [V.int 0,V.int 0,V.loc false (some 3) (V.agg [V.int n0,V.int n1,V.vec .plain (some 3) l2])] []) fun r1=>Xj r1.fst none none (fun i2=>bc
 (i2.beq 0) (Ze r1.snd.fst fun v3 c4=>Zp v3 fun n5=>Zh c4 (some (Out.ret (V.int (IntKind.i64.wrap (n5+1))),[]))) none) fun v6=>none:=by kernel_rfl
theorem zbP(O:Oracle)(n0:Int)(n1:Int)(n2:Int)(n3:Int)(l4:(List V)):Z8 Tryz.prog cfg O 20 3 [.int n0, .int n1, .loc false (some 3) (.agg [.int n2, .int n3, .vec .plain (some 3) l4])] []=
 bc (decide (n0<(↑l4.length:Int))) (gd (decide (0≤n0)&&decide (n0<(↑l4.length:Int))) (Zc [CT.int,CT.int,CT.slice (some 3)] (ZW l4 n0) fun n1_1 n2_1 l3=>
 Za (Zr O 20 [V.agg [V.int n1_1,V.int n2_1,V.vec .plain (some 3) l3]]) fun r4=>Zp r4 fun n5=>bc (decide (n5>n1)) (O.2 20 3 [V.int
 (IntKind.i64.wrap (n0+1)),V.int n5,V.loc false (some 3) (V.agg [V.int n2,V.int n3,V.vec .plain (some 3) l4])] []) (O.2 20 3 [V.int (IntKind.i64.wrap (n0+1)),
 V.int n1,V.loc false (some 3) (V.agg [V.int n2,V.int n3,V.vec .plain (some 3) l4])] []))) (some (Ex.exit 0,[V.int n1],[])):=by kernel_rfl
theorem ziW(O:Oracle)(k h:Int)(xs:List V)(x y:Res):Zf Tryz.prog cfg O 100 [.yld 1, .cptr (some 3) (.agg [.int k, .int h, .vec .plain (some 3) xs])] [x,y]=
 Za (O.call 101 [V.agg [V.int k,V.int h,V.vec .plain (some 3) xs],V.int 0,V.yld 1] [x,y]) fun r1=>Zj r1.fst (fun v2=>Zm v2 fun b3=>Y6 [x,y].length
 (V.tup []) r1.snd) fun p4=>none:=by kernel_rfl
theorem znQ(O:Oracle)(k h i:Int)(xs:List V)(x y:Res):Zf Tryz.prog cfg O 101 [.agg [.int k, .int h, .vec .plain (some 3) xs], .int i, .yld 1] [x,y]=
 Xw y fun f1 k2 vs3 s4 p5=>Jp s4 p5 (Za (O.round 1 f1 k2 vs3 [V.int i,V.agg [V.int k,V.int h,V.vec .plain (some 3) xs]] [x,y]) fun r6=>bc (!r6.fst) (Y6 [x,
 y].length (V.bool false) r6.snd) (Za (O.loop 101 4 [V.int 0,V.yld 1,V.loc false (some 3) (V.agg [V.int k,V.int h,V.vec .plain (some 3) xs]),V.int i,V.vec .plain
 (some 3) xs,V.int (↑xs.length:Int)] r6.snd) fun r7=>Xj r7.fst none (Ze r7.snd.fst fun v8 c9=>Zm v8 fun b10=>Zh c9 (Y6 [x,y].length (V.bool b10)
 r7.snd.snd)) (fun i11=>bc (i11.beq 0) (Zh r7.snd.fst (Y6 [x,y].length (V.bool true) r7.snd.snd)) none) fun v12=>none)) none fun i13=>none:=by kernel_rfl
theorem zdC(O:Oracle)(i n j k h:Int)(xs ys:List V)(x y:Res):Z8 Tryz.prog cfg O 101 4 [.int i, .yld 1, .loc false (some 3) (.agg [.int k, .int h, .vec .plain (some 3) xs]), .int j, .vec .plain (some 3) ys, .int n] [x,y]=
 bc (decide (i<n)) (gd (decide (0≤i)&&decide (i<(↑ys.length:Int))) (Zc [CT.int,CT.int,CT.slice (some 3)] (ZW ys i) fun n1 n2 l3=>Za (Zr O 120
 [V.agg [V.int k,V.int h,V.vec .plain (some 3) xs]]) fun r4=>Zm r4 fun b5=>bc b5 (bc (i==IntKind.i64.wrap ((↑xs.length:Int)-1)) (Za (O.call 101 [V.agg
 [V.int n1,V.int n2,V.vec .plain (some 3) l3],V.int (IntKind.i64.wrap (j+1)),V.yld 1] [x,y]) fun r6=>Zj r6.fst (fun v7=>Zm v7 fun b8=>bc (!b8) (some (Ex.ret,
 [V.bool false],r6.snd)) (O.2 101 4 [V.int (IntKind.i64.wrap (i+1)),V.yld 1,V.loc false (some 3) (V.agg [V.int k,V.int h,V.vec .plain (some 3) xs]),V.int j,V.vec
 .plain (some 3) ys,V.int n] r6.snd)) fun p9=>none) (Za (O.call 101 [V.agg [V.int n1,V.int n2,V.vec .plain (some 3) l3],V.int j,V.yld 1] [x,y]) fun r10=>Zj
 r10.fst (fun v11=>Zm v11 fun b12=>bc (!b12) (some (Ex.ret,[V.bool false],r10.snd)) (O.2 101 4 [V.int (IntKind.i64.wrap (i+1)),V.yld 1,V.loc false (some 3)
 (V.agg [V.int k,V.int h,V.vec .plain (some 3) xs]),V.int j,V.vec .plain (some 3) ys,V.int n] r10.snd)) fun p13=>none)) (Za (O.call 101 [V.agg [V.int n1,V.int
 n2,V.vec .plain (some 3) l3],V.int j,V.yld 1] [x,y]) fun r14=>Zj r14.fst (fun v15=>Zm v15 fun b16=>bc (!b16) (some (Ex.ret,[V.bool false],r14.snd)) (O.2
 101 4 [V.int (IntKind.i64.wrap (i+1)),V.yld 1,V.loc false (some 3) (V.agg [V.int k,V.int h,V.vec .plain (some 3) xs]),V.int j,V.vec .plain (some 3) ys,V.int n]
 r14.snd)) fun p17=>none))) (some (Ex.exit 0,[],[x,y])):=by kernel_rfl
theorem zmn(O:Oracle)(n0:Int)(n1:Int)(l2:(List V)):Zf Tryz.prog cfg O 120 [.agg [.int n0, .int n1, .vec .plain (some 3) l2]] []=
 bc (n0==1) (some (Out.ret (V.bool true),[])) (some (Out.ret (V.bool (n0==3)),[])):=by kernel_rfl
theorem znR(O:Oracle)(n0:Int)(n1:Int)(l2:(List V)):Zf Tryz.prog cfg O 32 [.agg [.int n0, .int n1, .vec .plain (some 3) l2]] []=
 Za (Zr O 68 [V.agg [V.int n0,V.int n1,V.vec .plain (some 3) l2]]) fun r1=>Zc [CT.int,CT.int,CT.slice (some 3)] r1 fun n2 n3 l4=>some (Out.ret (V.bool
 (n2==0)),[]):=by kernel_rfl
theorem znS(O:Oracle)(n0:Int)(n1:Int)(l2:(List V)):Zf Tryz.prog cfg O 68 [.agg [.int n0, .int n1, .vec .plain (some 3) l2]] []=
 Za (O.call 88 [V.agg [V.int n0,V.int n1,V.vec .plain (some 3) l2]] [Res.box [V.int n0,V.int n1,V.vec .plain (some 3) l2]]) fun r1=>Zj r1.fst (fun v2=>zhR v2
 fun g3 a4 b5=>Za (O.call g3 (a4++[V.yld (List.length r1.snd)]++b5) (r1.snd++[Res.loop 68 3 [V.ref 0 0] LSt.ready none])) fun r6=>Zj r6.fst (fun v7=>Z4
 r6.snd (List.length r1.snd) fun x8=>Xw x8 fun f9 k10 vs11 s12 p13=>Jp s12 p13 (Z4 (List.set r6.snd (List.length r1.snd) Res.dead) 0 fun x14=>Z1 x14 fun c15=>
 gd (decide (3≤c15.length)&&true) (onCells [CT.int,CT.int,CT.slice (some 3)] (List.map plain1 (List.take 3 (List.drop 0 c15))) fun n16 n17 l18=>gd (below 0 (V.agg [V.int
 n16,V.int n17,V.vec .plain (some 3) l18])&&Zy 0 []) (some (Out.ret (V.agg [V.int n16,V.int n17,V.vec .plain (some 3) l18]),[])))) none fun i19=>none) fun p20=>
 none) fun p21=>none:=by kernel_rfl
theorem ziX(O:Oracle)(k h k2 h2 k3 h3:Int)(xs ys zs:List V)(x:Res):XG Tryz.prog cfg O 2 68 3 [.ref 0 0] [.agg [.int k, .int h, .vec .plain (some 3) xs], .agg [.int k2, .int h2, .vec .plain (some 3) ys]] [.box [.int k3, .int h3, .vec .plain (some 3) zs],x, .loop 68 3 [.ref 0 0] .ready none]=
 some (true,[Res.box [V.int k2,V.int h2,V.vec .plain (some 3) ys],x,Res.loop 68 3 [V.ref 0 0] LSt.ready none]):=by kernel_rfl
theorem zpw(O:Oracle)(k h:Int)(xs:List V)(x:Res):Zf Tryz.prog cfg O 88 [.agg [.int k, .int h, .vec .plain (some 3) xs]] [x]=
 Y6 [x].length (V.fn 111 [] [V.ref [x].length 0]) [x,Res.box [V.int k,V.int h,V.vec .plain (some 3) xs]]:=by kernel_rfl
theorem zmo(O:Oracle)(k h:Int)(xs:List V)(x z:Res):Zf Tryz.prog cfg O 111 [.yld 2, .ref 1 0] [x, .box [.int k, .int h, .vec .plain (some 3) xs],z]=
 Za (O.loop 111 0 [V.ref 1 0,V.yld 2] [x,Res.box [V.int k,V.int h,V.vec .plain (some 3) xs],z]) fun r1=>Xj r1.fst none (Zh r1.snd.fst (Y6 [x,Res.box
 [V.int k,V.int h,V.vec .plain (some 3) xs],z].length (V.tup []) r1.snd.snd)) (fun i2=>bc (i2.beq 0) (Zh r1.snd.fst (Y6 [x,Res.box [V.int k,V.int h,V.vec .plain (some
 3) xs],z].length (V.tup []) r1.snd.snd)) none) fun v3=>none:=by kernel_rfl
theorem zhW(O:Oracle)(k h:Int)(xs:List V)(x z:Res):Z8 Tryz.prog cfg O 111 0 [.ref 1 0, .yld 2] [x, .box [.int k, .int h, .vec .plain (some 3) xs],z]=
 bc (k==1) (bc ((↑xs.length:Int)==2) (gd (true&&decide (0<(↑xs.length:Int))) (Zc [CT.int,CT.int,CT.slice (some 3)] (ZW xs 0) fun n1 n2 l3=>gd (true&&
 decide (1<(↑xs.length:Int))) (Zc [CT.int,CT.int,CT.slice (some 3)] (ZW xs 1) fun n4 n5 l6=>Xw z fun f7 k8 vs9 s10 p11=>Jp s10 p11 (Za (O.round 2 f7 k8
 vs9 [V.agg [V.int n1,V.int n2,V.vec .plain (some 3) l3],V.agg [V.int n4,V.int n5,V.vec .plain (some 3) l6]] [x,Res.box [V.int k,V.int h,V.vec .plain (some 3) xs],z]) fun
 r12=>bc (!r12.fst) (some (Ex.ret,[],r12.snd)) (Z4 r12.snd 1 fun x13=>Z1 x13 fun c14=>gd (decide (3≤c14.length)&&true) (ZU (some 3) (Zo (AM.partOf c14 2
 none)) fun l15=>gd (true&&decide (1<(↑l15.length:Int))) (Zc [CT.int,CT.int,CT.slice (some 3)] (ZW l15 1) fun n16 n17 l18=>Z4 r12.snd 1 fun x19=>Z1 x19
 fun c20=>gd (decide (3≤c20.length)&&true) (O.2 111 0 [V.ref 1 0,V.yld 2] (List.set r12.snd 1 (Res.box (setCells c20 0 [V.int n16,V.int n17,V.vec .plain (some 3)
 l18])))))))) none fun i21=>none))) (some (Ex.exit 0,[],[x,Res.box [V.int k,V.int h,V.vec .plain (some 3) xs],z]))) (some (Ex.exit 0,[],[x,Res.box [V.int k,V.int h,
 V.vec .plain (some 3) xs],z])):=by kernel_rfl
end Go.Proofs.SZ
namespace Go.Ama
open Go Go.AM
def low:T→Bool
 | .mk _ h xs=>decide (h≤1099511627776)&&lows xs
where lows:List T→Bool
 |[]=>true
 |t::ts=>low t&&lows ts
theorem znT: ∀ts,low.lows ts=ts.all low
 |[]=>rfl
 |t::ts=>by simp[low.lows,znT ts]
def zgl(n m:Int)(t:T):Bool:=low t&&(decide ((t.size:Int)≤n)&&decide ((t.depth:Int)≤m))
def zae(k h:Int)(n:Nat):Bool:=
 if k=0 then decide (h=0)&&decide (n=0)else if k=1 then decide (h=0)&&decide (n=2)else if k=3 then decide (h=0)&&decide (n=1)else decide (0≤k)&&(decide (k<7)&&decide (0≤h))
mutual
def Yu:T→Bool
 | .mk k h l=>zae k h l.length&&Y0 l
def Y0:List T→Bool
 |[]=>true
 |t::l=>Yu t&&Y0 l
end
theorem zfw: ∀l,Y0 l=l.all Yu
 |[]=>rfl
 |t::l=>by simp[Y0,zfw l]
def may(t:T):Bool:=Yu t&&(decide (t.size≤4000)&&decide (t.depth≤60))
mutual
def allW(g:Int→T→Bool)(i:Int):T→Bool
 | .mk k h l=>g i (.mk k h l)&&XC g i (decide (k=1)||decide (k=3)) l
def XC(g:Int→T→Bool)(i:Int)(b:Bool):List T→Bool
 |[]=>true
 |[t]=>allW g (bif b then i+1 else i) t
 |t::u::l=>allW g i t&&XC g i b (u::l)
end
def iter{σ:Type}(f:σ→σ):Nat→σ→σ
 |0,s=>s
 |n+1,s=>iter f n (f s)
theorem znU{σ:Type}(f:σ→σ)(a b:Nat)(s:σ):iter f (a+b) s=iter f b (iter f a s):=by
 induction a generalizing s with
 |zero=>simp[iter]
 |succ a ih=>rw[Nat.succ_add];exact ih (f s)
def zuk(vars metas:Int)(i:Int)(t:T):Bool:=(decide (t.k≠4)||decide (IntKind.i64.wrap (t.h-i)<vars))&&(decide (t.k≠6)||decide (t.h<metas))
def zul(t:T):Bool:=zae t.k t.h t.args.length
theorem zti: ∀(t:T) (i:Int),allW (fun _ t=>zul t) i t=Yu t:=by
 intro t
 induction t using T.ind with
 |_ k h xs ih=>
  intro i
  simp only[allW,Yu]
  generalize(decide (k=1)||decide (k=3))=b
  have: ∀l:List T,(∀a∈l,∀i,allW (fun _ t=>zul t) i a=Yu a)→XC (fun _ t=>zul t) i b l=Y0 l:=by
   intro l
   induction l with
   |nil=>intro _;rfl
   |cons a l ihl=>
    intro h
    cases l with
    |nil=>simp only[XC,Y0,Bool.and_true];exact h a (by simp) _
    |cons u l=>simp only[XC,h a (by simp)];rw[ihl fun a ha=>h a (by simp[ha])];simp only[Y0]
  rw[this xs ih]
  rfl
def zfx:Nat→T→List T×T
 |0,t=>([],t)
 |n+1,t=>if t.k=1 then match t.args with|[a,b]=>let r:=zfx n b;(a::r.1,r.2)|_=>([],t)else([],t)
def split(t:T):List T×T:=zfx t.size t
theorem zeq{t b:T}(h:b∈t.args):b.size<t.size:=by
 cases t with
 |mk k h' l=>simp only[T.args]at h;simp only[T.size];have:=size_le h;omega
theorem znV: ∀(n m:Nat) (t:T),t.size≤n→t.size≤m→zfx n t=zfx m t:=by
 intro n
 induction n with
 |zero=>intro m t h;have:=X7 t;omega
 |succ n ih=>
  intro m t h h'
  cases m with
  |zero=>have:=X7 t;omega
  |succ m=>
   simp only[zfx]
   split
   ·split
    ·rename_i a b hab
     have:=zeq (t:=t) (b:=b) (by rw[hab];simp)
     rw[ih m b (by omega) (by omega)]
    ·rfl
   ·rfl
theorem ziY{t a b:T}(h:t.k=1)(ha:t.args=[a,b]):split t=(a::(split b).1,(split b).2):=by
 unfold split
 have hb:=zeq (t:=t) (b:=b) (by rw[ha];simp)
 obtain⟨n,hn⟩: ∃n,t.size=n+1:=⟨t.size-1,by omega⟩
 rw[hn]
 simp only[zfx,h,ha,if_true]
 rw[znV n b.size b (by omega) (Nat.le_refl _)]
theorem zer{t:T}(h: ¬(t.k=1∧t.args.length=2)):split t=([],t):=by
 unfold split
 have:=X7 t
 obtain⟨n,hn⟩: ∃n,t.size=n+1:=⟨t.size-1,by omega⟩
 rw[hn]
 simp only[zfx]
 split
 ·rename_i h1
  split
  ·rename_i a b hab;exact absurd ⟨h1,by rw[hab];rfl⟩ h
  ·rfl
 ·rfl
theorem znW{l:List T}(h:l.length=2): ∃a b,l=[a,b]:=by
 match l,h with
 |[a,b],_=>exact⟨a,b,rfl⟩
theorem zaN{xs:List T}{i:Nat}(hi:i<xs.length):Zl (xs.take (i+1))=Zl (xs.take i)++[enc xs[i]]:=by rw[zcw hi,zbe];rfl
end Go.Ama
namespace Go.Proofs.SZ
open Go Go.AM Go.Ama
theorem ZB{R:Type}(t:T)(K:Int→Int→List V→Option R):Zc (R:=R) [CT.int,CT.int,CT.slice (some 3)] (enc t) K=K t.k t.h (Zl t.args):=by cases t;rfl
theorem ztj: ∀t:T,t.size≤1099511627776→Ev 18 [enc t] (.bool (low t)):=by
 intro t
 induction t using T.ind with
 |_ k h xs ih=>
  intro hs
  simp only[T.size]at hs
  have hlen:=Z0 xs
  unfold Ev
  rw[C,enc,znP]
  by_cases hh:h>1099511627776
  ·have: ¬h≤1099511627776:=by omega
   simp[bc,low,hh,this]
  ·have hle:h≤1099511627776:=by omega
   have hl:=zsY (L:=fun i=>W.loop 18 4 [V.int i,V.loc false (some 3) (V.agg [V.int k,V.int h,V.vec .plain (some 3) (Zl xs)])] []) (xs:=xs) (g:=low) (e0:=(Ex.exit 0,[],[])) (e1:=(Ex.ret,[V.bool false],[]))
    (fun i hi=>by
     have hp:=(ih xs[i] (List.getElem_mem hi) (by have:=size_le (List.getElem_mem hi);omega)).p
     show W.loop _ _ _ _=_
     rw[L,zdB]
     simp only[Zt,ZS hi,ZB,←Zd,hp]
     rw[Z9 ⟨by omega,by omega⟩]
     cases low xs[i]<;>simp[bc,gd,Za,Zm,hi])
    (by show W.loop _ _ _ _=_;rw[L,zdB];simp[bc]) 0 (by omega)
   simp only[List.drop_zero,Int.ofNat_zero,Int.natCast_zero]at hl
   simp only[hl,hh,low,znT,hle]
   cases xs.all low<;>rfl
theorem zrE: ∀t:T,t.size≤1099511627776→Ev 19 [enc t] (.int t.size):=by
 intro t
 induction t using T.ind with
 |_ k h xs ih=>
  intro hs
  simp only[T.size]at hs
  have hlen:=Z0 xs
  unfold Ev
  rw[C,enc,zmm]
  have hl:=JG (n:=xs.length) (L:=fun i=>W.loop 19 3 [V.int (i:Nat),V.loc false (some 3) (V.agg [V.int k,V.int h,V.vec .plain (some 3) (Zl xs)]),V.int ((1+sizes (xs.take i):Nat):Int)] []) (r:=some (Ex.exit 0,[V.int ((1+sizes xs:Nat):Int)],[]))
   (fun i hi=>by
    have hp:=(ih xs[i] (List.getElem_mem hi) (by have:=size_le (List.getElem_mem hi);omega)).p
    have h1:=zpn hi
    have h2:=zeQ xs (i+1)
    show W.loop _ _ _ _=_
    rw[L,zcN]
    simp only[Zt,ZS hi,ZB,←Zd,hp,Za,Zp]
    rw[Z9 ⟨by omega,by omega⟩,Z9 ⟨by omega,by omega⟩]
    rw[h1]
    simp[bc,gd,hi,Int.add_assoc])
   (by show W.loop _ _ _ _=_;rw[L,zcN];simp[bc])
  simp only[List.take_zero,sizes]at hl
  have hl':W.loop 19 3 [V.int 0,V.loc false (some 3) (V.agg [V.int k,V.int h,V.vec .plain (some 3) (Zl xs)]),V.int 1] []=some (Ex.exit 0,[V.int ((1+sizes xs:Nat):Int)],[]):=hl
  simp only[hl',T.size]
  rfl
theorem zpx: ∀t:T,t.size≤1099511627776→Ev 20 [enc t] (.int t.depth):=by
 intro t
 induction t using T.ind with
 |_ k h xs ih=>
  intro hs
  simp only[T.size]at hs
  have hlen:=Z0 xs
  unfold Ev
  rw[C,enc,zkf]
  have hl:=JG (n:=xs.length) (L:=fun i=>W.loop 20 3 [V.int (i:Nat),V.int (ZG (xs.take i):Nat),V.loc false (some 3) (V.agg [V.int k,V.int h,V.vec .plain (some 3) (Zl xs)])] []) (r:=some (Ex.exit 0,[V.int (ZG xs:Nat)],[]))
   (fun i hi=>by
    have hp:=(ih xs[i] (List.getElem_mem hi) (by have:=size_le (List.getElem_mem hi);omega)).p
    have h1:=zhJ hi
    show W.loop _ _ _ _=_
    rw[L,zbP]
    simp only[Zt,ZS hi,ZB,←Zd,hp,Za,Zp]
    rw[Z9 ⟨by omega,by omega⟩]
    rw[h1]
    by_cases hc:ZG (xs.take i)<xs[i].depth
    ·have:max (ZG (xs.take i)) xs[i].depth=xs[i].depth:=by omega
     rw[this]
     simp[bc,gd,hi,hc]
    ·have:max (ZG (xs.take i)) xs[i].depth=ZG (xs.take i):=by omega
     rw[this]
     simp[bc,gd,hi,hc])
   (by show W.loop _ _ _ _=_;rw[L,zbP];simp[bc])
  have hl':W.loop 20 3 [V.int 0,V.int 0,V.loc false (some 3) (V.agg [V.int k,V.int h,V.vec .plain (some 3) (Zl xs)])] []=some (Ex.exit 0,[V.int (ZG xs:Nat)],[]):=hl
  have hd:=zcH xs
  simp only[hl',T.depth,Za,Xj,Ze,Zp,Zh,bc]
  rw[Z9 ⟨by omega,by omega⟩]
  rfl
theorem zpy(t:T)(n m:Int)(hs:t.size≤1099511627776):Ev 8 [enc t, .int n, .int m] (.bool (zgl n m t)):=by
 unfold Ev
 rw[C,Zd,zke,←Zd,(ztj t hs).p,(zrE t hs).p,(zpx t hs).p]
 simp only[Za,Zm,Zp,zgl]
 cases low t<;>simp[bc]
 by_cases h:(t.size:Int)≤n<;>simp[h]
theorem zpz: ∀a b:T,a.size≤1099511627776→b.size≤1099511627776→Ev 36 [enc a,enc b] (.bool (a.same b)):=by
 intro a
 induction a using T.ind with
 |_ k h xs ih=>
  intro b hs hs'
  obtain⟨k2,h2,ys⟩:=b
  simp only[T.size]at hs hs'
  have hlen:=Z0 xs
  unfold Ev
  rw[C,enc,enc,zmj]
  simp only[T.same]
  by_cases c1:k=k2
  ·by_cases c2:h=h2
   ·by_cases c3:xs.length=ys.length
    ·have hl:=zeo (L:=fun i=>W.loop 36 4 [V.int i,V.loc false (some 3) (V.agg [V.int k2,V.int h2,V.vec .plain (some 3) (Zl ys)]),V.loc false (some 3) (V.agg [V.int k,V.int h,V.vec .plain (some 3) (Zl xs)])] []) (xs:=xs.zip ys) (g:=fun x=>x.1.same x.2) (e0:=(Ex.exit 0,[],[])) (e1:=(Ex.ret,[V.bool false],[]))
      (fun i hi=>by
       have hi1:i<xs.length:=by simp at hi;omega
       have hi2:i<ys.length:=by omega
       have hp:=(ih xs[i] (List.getElem_mem hi1) ys[i] (by have:=size_le (List.getElem_mem hi1);omega) (by have:=size_le (List.getElem_mem hi2);omega)).p
       show W.loop _ _ _ _=_
       rw[L,zcL]
       simp only[Zt,ZS hi1,ZS hi2,ZB,←Zd,hp,List.getElem_zip]
       rw[Z9 ⟨by omega,by omega⟩]
       cases xs[i].same ys[i]<;>simp[bc,gd,Za,Zm,hi1,hi2])
      (by show W.loop _ _ _ _=_;rw[L,zcL];simp[bc,c3])
     simp only[c1,c2,c3,Zt,zgV c3,bne_self_eq_false,hl,bc]
     rw[c1,c2]at hl
     simp only[hl]
     cases(xs.zip ys).all (fun x=>x.1.same x.2)<;>simp[Za,Xj,Ze,Zm,Zh,bc]
    ·have c4:((xs.length:Int) !=(ys.length:Int))=true:=by simp;omega
     simp only[c1,c2,zgW c3,Zt,c4,bne_self_eq_false]
     simp[bc]
   ·have c4:(h !=h2)=true:=by simp[c2]
    simp only[c1,c4,c2,bne_self_eq_false]
    simp[bc]
  ·have c4:(k !=k2)=true:=by simp[c1]
   simp only[c4,c1]
   simp[bc]
theorem zp0: ∀a b:T,a.size≤1099511627776→b.size≤1099511627776→Ev 13 [enc a,enc b] (.bool (a.same b)):=by
 intro a
 induction a using T.ind with
 |_ k h xs ih=>
  intro b hs hs'
  obtain⟨k2,h2,ys⟩:=b
  simp only[T.size]at hs hs'
  have hlen:=Z0 xs
  unfold Ev
  rw[C,enc,enc,znN]
  simp only[T.same]
  by_cases c1:k=k2
  ·by_cases c2:h=h2
   ·by_cases c3:xs.length=ys.length
    ·have hl:=zeo (L:=fun i=>W.loop 13 4 [V.int i,V.loc false (some 3) (V.agg [V.int k2,V.int h2,V.vec .plain (some 3) (Zl ys)]),V.vec .plain (some 3) (Zl xs),V.int xs.length] []) (xs:=xs.zip ys) (g:=fun x=>x.1.same x.2) (e0:=(Ex.exit 0,[],[])) (e1:=(Ex.ret,[V.bool false],[]))
      (fun i hi=>by
       have hi1:i<xs.length:=by simp at hi;omega
       have hi2:i<ys.length:=by omega
       have hp:=(ih xs[i] (List.getElem_mem hi1) ys[i] (by have:=size_le (List.getElem_mem hi1);omega) (by have:=size_le (List.getElem_mem hi2);omega)).p
       show W.loop _ _ _ _=_
       rw[L,zdA]
       simp only[Zt,ZS hi1,ZS hi2,ZB,←Zd,hp,List.getElem_zip]
       rw[Z9 ⟨by omega,by omega⟩]
       cases xs[i].same ys[i]<;>simp[bc,gd,Za,Zm,hi1,hi2])
      (by show W.loop _ _ _ _=_;rw[L,zdA];simp[bc,c3])
     simp only[c1,c2,c3,Zt,zgV c3,bne_self_eq_false,hl,bc]
     rw[c3]at hl
     simp only[hl]
     cases(xs.zip ys).all (fun x=>x.1.same x.2)<;>simp[Za,Xj,Ze,Zm,Zh,bc]
    ·have c4:((xs.length:Int) !=(ys.length:Int))=true:=by simp;omega
     simp only[c1,c2,zgW c3,Zt,c4,bne_self_eq_false]
     simp[bc]
   ·have c4:(h !=h2)=true:=by simp[c2]
    simp only[c1,c4,c2,bne_self_eq_false]
    simp[bc]
  ·have c4:(k !=k2)=true:=by simp[c1]
   simp only[c4,c1]
   simp[bc]
theorem zum:((Tryz.prog.info? 25).map (·.bytes)).getD 0=40:=by kernel_rfl
theorem zcz{n:Nat}(h:n≤2199023255552):roomFor Tryz.prog 25 n=true:=by
 unfold roomFor
 rw[zum]
 simp only[Bool.and_eq_true,decide_eq_true_eq]
 omega
theorem znX: ∀t:T,t.size≤1099511627776→Ev 48 [enc t] (.int t.depth):=by
 intro t
 induction t using T.ind with
 |_ k h xs ih=>
  intro hs
  simp only[T.size]at hs
  have hlen:=Z0 xs
  unfold Ev
  rw[C,enc,zmk]
  have hl:=JG (n:=xs.length) (L:=fun i=>W.loop 48 3 [V.int (i:Nat),V.int (ZG (xs.take i):Nat),V.vec .plain (some 3) (Zl xs),V.int xs.length] []) (r:=some (Ex.exit 0,[V.int (ZG xs:Nat)],[]))
   (fun i hi=>by
    have hp:=(ih xs[i] (List.getElem_mem hi) (by have:=size_le (List.getElem_mem hi);omega)).p
    have h1:=zhJ hi
    show W.loop _ _ _ _=_
    rw[L,zcM]
    simp only[Zt,ZS hi,ZB,←Zd,hp,Za,Zp]
    rw[Z9 ⟨by omega,by omega⟩]
    rw[h1]
    by_cases hc:ZG (xs.take i)<xs[i].depth
    ·have:max (ZG (xs.take i)) xs[i].depth=xs[i].depth:=by omega
     rw[this]
     simp[bc,gd,hi,hc]
    ·have:max (ZG (xs.take i)) xs[i].depth=ZG (xs.take i):=by omega
     rw[this]
     simp[bc,gd,hi,hc])
   (by show W.loop _ _ _ _=_;rw[L,zcM];simp[bc])
  have hl':W.loop 48 3 [V.int 0,V.int 0,V.vec .plain (some 3) (Zl xs),V.int xs.length] []=some (Ex.exit 0,[V.int (ZG xs:Nat)],[]):=hl
  have hd:=zcH xs
  simp only[Zt,hl',T.depth,Za,Xj,Ze,Zp,Zh,bc]
  rw[Z9 ⟨by omega,by omega⟩]
  rfl
end Go.Proofs.SZ
namespace Go.Proofs.SZ
open Go Go.AM Go.Ama
def zb0(t:T):Res:= .box [.int t.k, .int t.h, .vec .plain (some 3) (Zl t.args)]
theorem zp1(a b u:T)(x:Res):W.round 2 68 3 [.ref 0 0] [enc a,enc b] [zb0 u,x, .loop 68 3 [.ref 0 0] .ready none]=some (true,[zb0 b,x, .loop 68 3 [.ref 0 0] .ready none]):=by
 rw[Rd]
 conv=>lhs;rw[Zd a,Zd b]
 exact ziX W _ _ _ _ _ _ _ _ _ x
theorem znY: ∀(n:Nat) (t u:T),t.size≤n→
  W.loop 111 0 [.ref 1 0, .yld 2] [zb0 u,zb0 t, .loop 68 3 [.ref 0 0] .ready none]=
   some (.exit 0,[],[zb0 (if(split t).1=[]then u else(split t).2),zb0 (split t).2, .loop 68 3 [.ref 0 0] .ready none]):=by
 intro n
 induction n with
 |zero=>intro t _ h;have:=X7 t;omega
 |succ n ih=>
  intro t u h
  have hp:=X7 t
  rw[L]
  conv=>lhs;rw[show zb0 t= .box [.int t.k, .int t.h, .vec .plain (some 3) (Zl t.args)]from rfl]
  rw[zhW,Zt,zn5,Yf]
  by_cases c1:t.k=1
  ·by_cases c2:t.args.length=2
   ·obtain⟨a,b,hab⟩:=znW c2
    have hb:=zeq (t:=t) (b:=b) (by rw[hab];simp)
    have g0:ZW (Zl t.args) 0=enc a:=by rw[hab];rfl
    have g1:ZW (Zl t.args) 1=enc b:=by rw[hab];rfl
    have hrd:=zp1 a b u (zb0 t)
    have:=ih b b (by omega)
    rw[ziY c1 hab]
    simp only[c1,c2,decide_true,Zq,g0,g1,ZB,←Zd,Bool.true_and,show decide ((0:Int)<((2:Nat):Int))=true from rfl,show decide ((1:Int)<((2:Nat):Int))=true from rfl,Z6,zhK,zgg]
    have hbt:zb0 t= .box [.int 1, .int t.h, .vec .plain (some 3) (Zl t.args)]:=by unfold zb0;rw[c1]
    rw[hbt]at hrd
    rw[hrd,Zb]
    simp only[Bool.not_true,Zn]
    have hget: ∀{R:Type} (K:Res→Option R),Z4 [zb0 b,Res.box [V.int 1,V.int t.h,V.vec .plain (some 3) (Zl t.args)],Res.loop 68 3 [V.ref 0 0] LSt.ready none] 1 K=K (Res.box [V.int 1,V.int t.h,V.vec .plain (some 3) (Zl t.args)]):=fun K=>rfl
    rw[hget,X0]
    have hc:Zo (AM.partOf [V.int 1,V.int t.h,V.vec .plain (some 3) (Zl t.args)] 2 none)= .vec .plain (some 3) (Zl t.args):=rfl
    rw[hc,Yt,g1,ZB,hget,X0]
    have h1l:decide ((1:Int)<((Zl t.args).length:Int))=true:=by rw[Zt,c2];rfl
    rw[h1l]
    simp only[List.length_cons,List.length_nil,Nat.zero_add,Nat.reduceAdd,Nat.le_refl,decide_true,Bool.and_self,Z6]
    have hset:List.set [zb0 b,Res.box [V.int 1,V.int t.h,V.vec .plain (some 3) (Zl t.args)],Res.loop 68 3 [V.ref 0 0] LSt.ready none] 1
      (Res.box (setCells [V.int 1,V.int t.h,V.vec .plain (some 3) (Zl t.args)] 0 [V.int b.k,V.int b.h,V.vec .plain (some 3) (Zl b.args)]))=[zb0 b,zb0 b, .loop 68 3 [.ref 0 0] .ready none]:=rfl
    rw[hset,this]
    simp only[if_neg (List.cons_ne_nil a (split b).1)]
    by_cases c:(split b).1=[]
    ·have hsb:(split b).2=b:=by
      by_cases c':b.k=1∧b.args.length=2
      ·obtain⟨a',b',hab'⟩:=znW c'.2
       rw[ziY c'.1 hab']at c;cases c
      ·rw[zer c']
     rw[if_pos c,hsb]
    ·rw[if_neg c]
   ·rw[zer fun c=>c2 c.2]
    simp only[c1,c2,decide_true,decide_false,Zq,Zn,if_true]
    rw[←c1]
    rfl
  ·rw[zer fun c=>c1 c.1]
   simp only[c1,decide_false,Zn,if_true]
   rfl
theorem zp2(t:T):Ev 68 [enc t] (enc (split t).2):=by
 unfold Ev
 have h:=znY t.size t t (Nat.le_refl _)
 have hlast:(if(split t).1=[]then t else(split t).2)=(split t).2:=by
  by_cases c':t.k=1∧t.args.length=2
  ·obtain⟨a',b',hab'⟩:=znW c'.2
   rw[ziY c'.1 hab',if_neg (List.cons_ne_nil _ _)]
  ·rw[zer c',if_pos rfl]
 rw[hlast]at h
 have hc:W.call 111 [.yld 2, .ref 1 0] [zb0 t, .box [.int t.k, .int t.h, .vec .plain (some 3) (Zl t.args)], .loop 68 3 [.ref 0 0] .ready none]=
   some (.ret (.tup []),[zb0 (split t).2,zb0 (split t).2, .loop 68 3 [.ref 0 0] .ready none]):=by
  rw[C,zmo]
  have h':W.loop 111 0 [V.ref 1 0,V.yld 2] [zb0 t,Res.box [V.int t.k,V.int t.h,V.vec .plain (some 3) (Zl t.args)], .loop 68 3 [.ref 0 0] .ready none]=_:=h
  rw[h',Zb,za1]
  rfl
 rw[C]
 conv=>lhs;rw[Zd]
 have hpis:W.call 88 [V.agg [V.int t.k,V.int t.h,V.vec .plain (some 3) (Zl t.args)]] [Res.box [V.int t.k,V.int t.h,V.vec .plain (some 3) (Zl t.args)]]=
   some (.ret (V.fn 111 [] [V.ref 1 0]),[zb0 t,Res.box [V.int t.k,V.int t.h,V.vec .plain (some 3) (Zl t.args)]]):=by
  rw[C,zpw];rfl
 rw[znS,hpis,Zb,Zk,zme]
 have hc':W.call 111 ([]++[V.yld (List.length [zb0 t,Res.box [V.int t.k,V.int t.h,V.vec .plain (some 3) (Zl t.args)]])]++[V.ref 1 0])
   ([zb0 t,Res.box [V.int t.k,V.int t.h,V.vec .plain (some 3) (Zl t.args)]]++[Res.loop 68 3 [V.ref 0 0] LSt.ready none])=_:=hc
 rw[hc',Zb,Zk]
 have hfin:gd (below 0 (enc (split t).2)&&Zy 0 []) (some (Out.ret (enc (split t).2),([]:St)))=some (Out.ret (enc (split t).2),[]):=by
  rw[zen];rfl
 have hfin':=hfin
 rw[Zd (split t).2]at hfin'
 rw[Zd (split t).2]
 exact hfin'
theorem zhc(t:T):Ev 32 [enc t] (.bool (decide ((split t).2.k=0))):=by
 unfold Ev
 rw[C,Zd,znR,←Zd,(zp2 t).p]
 simp only[Zb,ZB,Yf]
end Go.Proofs.SZ
namespace Go.Proofs.SZ
open Go Go.AM Go.Ama
theorem zp3(t:T):Ev 120 [enc t] (.bool (decide (t.k=1)||decide (t.k=3))):=by
 unfold Ev
 rw[C,Zd,zmn,Yf,Yf]
 cases decide (t.k=1)<;>simp[bc]
section
variable{σ:Type}{x:σ→Res}{nx:σ→σ}{f key:Nat}{vals:List V}{g:Int→T→Bool}{b1 b2:Res}
theorem zrF(hr: ∀(i:Int) (t:T) (s:σ),W.round 1 f key vals [.int i,enc t] [x s, .loop f key vals .ready none]=some (if g i t=true then(true,[x (nx s), .loop f key vals .ready none])else(false,[b1,b2]))):
  ∀(t:T) (i:Int) (s:σ),0≤i→i+t.size≤4611686018427387904→W.call 101 [enc t, .int i, .yld 1] [x s, .loop f key vals .ready none]=
   some (if allW g i t=true then(.ret (.bool true),[x (iter nx t.size s), .loop f key vals .ready none])else(.ret (.bool false),[b1,b2])):=by
 intro t
 induction t using T.ind with
 |_ k h xs ih=>
  intro i s hi hs
  simp only[T.size]at hs
  have hlen:=Z0 xs
  rw[C]
  simp only[enc]
  rw[znQ,zhK,zgg]
  have hr0:=hr i (.mk k h xs) s
  simp only[enc]at hr0
  rw[hr0]
  cases hg:g i (.mk k h xs)with
  |false=>
   simp only[allW,hg,Bool.false_and,Zb]
   rfl
  |true=>
   have hl: ∀(d j:Nat) (s:σ),j+d=xs.length→W.loop 101 4 [V.int (j:Nat),V.yld 1,V.loc false (some 3) (V.agg [V.int k,V.int h,V.vec .plain (some 3) (Zl xs)]),V.int i,V.vec .plain (some 3) (Zl xs),V.int xs.length] [x s, .loop f key vals .ready none]=
     some (if XC g i (decide (k=1)||decide (k=3)) (xs.drop j)=true then(Ex.exit 0,[],[x (iter nx (sizes (xs.drop j)) s), .loop f key vals .ready none])else(Ex.ret,[V.bool false],[b1,b2])):=by
    intro d
    induction d with
    |zero=>
     intro j s hj
     have:j=xs.length:=by omega
     subst this
     have hlt:decide ((xs.length:Int)<xs.length)=false:=by simp
     rw[L,zdC,hlt,List.drop_length]
     rfl
    |succ d ihd=>
     intro j s hj
     have hjl:j<xs.length:=by omega
     have hsz:=size_le (List.getElem_mem hjl)
     have hlt:decide ((j:Int)<xs.length)=true:=by simp;omega
     have h0:decide ((0:Int)≤j)=true:=by simp
     have hb:Zr W 120 [V.agg [V.int k,V.int h,V.vec .plain (some 3) (Zl xs)]]=some (.bool (decide (k=1)||decide (k=3))):=(zp3 (.mk k h xs)).p
     have hne:decide ((j:Int)=IntKind.i64.wrap ((xs.length:Int)-1))=decide (j+1=xs.length):=by
      rw[Z9 ⟨by omega,by omega⟩]
      by_cases c:j+1=xs.length<;>simp[c]<;>omega
     have step: ∀i':Int,0≤i'→i'+xs[j].size≤4611686018427387904→XC g i (decide (k=1)||decide (k=3)) (xs.drop j)=(allW g i' xs[j]&&XC g i (decide (k=1)||decide (k=3)) (xs.drop (j+1)))→
       (Za (W.call 101 [enc xs[j],V.int i',V.yld 1] [x s, .loop f key vals .ready none]) fun r6=>
        Zj r6.fst (fun v7=>Zm v7 fun b8=>bc (!b8) (some (Ex.ret,[V.bool false],r6.snd))
         (W.loop 101 4 [V.int (IntKind.i64.wrap ((j:Nat)+1)),V.yld 1,V.loc false (some 3) (V.agg [V.int k,V.int h,V.vec .plain (some 3) (Zl xs)]),V.int i,V.vec .plain (some 3) (Zl xs),V.int xs.length] r6.snd)) fun p9=>none)=
       some (if XC g i (decide (k=1)||decide (k=3)) (xs.drop j)=true then(Ex.exit 0,[],[x (iter nx (sizes (xs.drop j)) s), .loop f key vals .ready none])else(Ex.ret,[V.bool false],[b1,b2])):=by
      intro i' hi' hs' he
      rw[ih xs[j] (List.getElem_mem hjl) i' s hi' hs',Zb,he]
      cases allW g i' xs[j]with
      |false=>simp only[Bool.false_and];rfl
      |true=>
       simp only[if_true,Zk,Zs,Bool.not_true,Zn,Bool.true_and]
       rw[Z9 ⟨by omega,by omega⟩]
       have:=ihd (j+1) (iter nx xs[j].size s) (by omega)
       rw[show((j:Nat):Int)+1=((j+1:Nat):Int)from rfl,this]
       have:sizes (xs.drop j)=xs[j].size+sizes (xs.drop (j+1)):=by rw[List.drop_eq_getElem_cons hjl];rfl
       rw[this,znU]
     rw[L,zdC]
     simp only[Zt,hlt,h0,Zq,Z6,Bool.and_self,ZS hjl,ZB,←Zd,hb,Zb,Zs,Yf,hne]
     by_cases hlast:j+1=xs.length
     ·have hd:xs.drop j=[xs[j]]:=by rw[List.drop_eq_getElem_cons hjl,hlast,List.drop_length]
      have hd':xs.drop (j+1)=[]:=by rw[hlast,List.drop_length]
      simp only[hlast,decide_true,Zq]
      have hw:IntKind.i64.wrap (i+1)=i+1:=Z9 ⟨by omega,by omega⟩
      cases hbb:(decide (k=1)||decide (k=3))with
      |true=>
       simp only[Zq,hw]
       have:=step (i+1) (by omega) (by omega) (by rw[hd,hd',hbb];simp[XC])
       rw[hbb]at this
       exact this
      |false=>
       simp only[Zn]
       have:=step i hi (by omega) (by rw[hd,hd',hbb];simp[XC])
       rw[hbb]at this
       exact this
     ·have hd:XC g i (decide (k=1)||decide (k=3)) (xs.drop j)=(allW g i xs[j]&&XC g i (decide (k=1)||decide (k=3)) (xs.drop (j+1))):=by
       have h2:j+1<xs.length:=by omega
       rw[List.drop_eq_getElem_cons hjl,List.drop_eq_getElem_cons h2]
       simp only[XC]
      simp only[hlast,decide_false,Zn]
      have:=step i hi (by omega) hd
      cases hbb:(decide (k=1)||decide (k=3))with
      |true=>rw[hbb]at this;exact this
      |false=>rw[hbb]at this;exact this
   have h1:=hl xs.length 0 (nx s) (by omega)
   simp only[if_true,Zb,Bool.not_true,Zn,Zt]
   have h1':W.loop 101 4 [V.int 0,V.yld 1,V.loc false (some 3) (V.agg [V.int k,V.int h,V.vec .plain (some 3) (Zl xs)]),V.int i,V.vec .plain (some 3) (Zl xs),V.int xs.length] [x (nx s), .loop f key vals .ready none]=
     some (if XC g i (decide (k=1)||decide (k=3)) xs=true then(Ex.exit 0,[],[x (iter nx (sizes xs) (nx s)), .loop f key vals .ready none])else(Ex.ret,[V.bool false],[b1,b2])):=by
    rw[List.drop_zero]at h1;exact h1
   rw[h1',Zb]
   have hsz:iter nx (T.mk k h xs).size s=iter nx (sizes xs) (nx s):=by
    simp only[T.size]
    rw[znU]
    rfl
   simp only[allW,hg,Bool.true_and,hsz]
   cases XC g i (decide (k=1)||decide (k=3)) xs<;>rfl
theorem ziZ(hr: ∀(i:Int) (t:T) (s:σ),W.round 1 f key vals [.int i,enc t] [x s, .loop f key vals .ready none]=some (if g i t=true then(true,[x (nx s), .loop f key vals .ready none])else(false,[b1,b2])))
  (t:T) (s:σ) (hs:t.size≤1099511627776):W.call 100 [.yld 1, .cptr (some 3) (enc t)] [x s, .loop f key vals .ready none]=
   some (.ret (.tup []),if allW g 0 t=true then[x (iter nx t.size s), .loop f key vals .ready none]else[b1,b2]):=by
 have hw:=zrF hr t 0 s (by omega) (by omega)
 rw[C]
 rw[Zd]at hw⊢
 rw[ziW,hw,Zb]
 cases allW g 0 t<;>rfl
end
theorem zp4(t:T)(hs:t.size≤1099511627776):Ev 49 [enc t] (.int t.size):=by
 unfold Ev
 have hr: ∀(i:Int) (t:T) (s:Int),W.round 1 49 3 [.ref 0 0] [.int i,enc t] [.box [.int s], .loop 49 3 [.ref 0 0] .ready none]=
   some (if(fun _ _=>true:Int→T→Bool) i t=true then(true,[.box [.int (IntKind.i64.wrap (s+1))], .loop 49 3 [.ref 0 0] .ready none])else(false,[.dead, .dead])):=by
  intro i t s
  rw[Rd,Zd,ziV]
  rfl
 have hn:=ziZ (x:=fun s:Int=> .box [.int s]) (nx:=fun s=>IntKind.i64.wrap (s+1)) (g:=fun _ _=>true) (b1:= .dead) (b2:= .dead) hr t 0 hs
 have hall: ∀(t:T) (i:Int),allW (fun _ _=>true) i t=true:=by
  intro t
  induction t using T.ind with
  |_ k h xs ih=>
   intro i
   simp only[allW,Bool.true_and]
   generalize(decide (k=1)||decide (k=3))=b
   have: ∀l:List T,(∀a∈l,∀i,allW (fun _ _=>true) i a=true)→XC (fun _ _=>true) i b l=true:=by
    intro l
    induction l with
    |nil=>intro _;rfl
    |cons a l ihl=>
     intro h
     cases l with
     |nil=>simp only[XC];exact h a (by simp) _
     |cons u l=>simp only[XC,h a (by simp),Bool.true_and];exact ihl fun a ha=>h a (by simp[ha])
   exact this xs ih
 have hit: ∀(n:Nat) (s:Int),0≤s→s+n≤4611686018427387904→iter (fun s=>IntKind.i64.wrap (s+1)) n s=s+n:=by
  intro n
  induction n with
  |zero=>intro s _ _;simp[iter]
  |succ n ih=>
   intro s h0 h1
   simp only[iter]
   rw[Z9 ⟨by omega,by omega⟩,ih _ (by omega) (by omega)]
   omega
 rw[hall,if_pos rfl]at hn
 rw[hit t.size 0 (by omega) (by omega)]at hn
 rw[C]
 rw[Zd]at hn⊢
 rw[znO,C,zgk,Zb,Zk,zme]
 have hn':W.call 100 ([]++[V.yld (List.length [Res.box [V.int 0]])]++[V.cptr (some 3) (V.agg [V.int t.k,V.int t.h,V.vec .plain (some 3) (Zl t.args)])]) ([Res.box [V.int 0]]++[Res.loop 49 3 [V.ref 0 0] LSt.ready none])=_:=hn
 rw[hn',Zb]
 simp only[Int.zero_add]
 rfl
theorem zp5(k h:Int)(xs:List V):Ev 52 [.agg [.int k, .int h, .vec .plain (some 3) xs]] (.bool (zae k h xs.length)):=by
 unfold Ev
 rw[C,zpv]
 simp only[zsZ,zta,zn5]
 simp only[Yf,zae]
 by_cases k0:k=0
 ·subst k0
  simp only[decide_true,Zq,if_true]
  cases decide (h=0)<;>rfl
 by_cases k1:k=1
 ·subst k1
  simp only[show(1:Int)≠0 by decide,decide_true,decide_false,Zq,Zn,if_true,if_false]
  cases decide (h=0)<;>rfl
 by_cases k3:k=3
 ·subst k3
  simp only[show(3:Int)≠0 by decide,show(3:Int)≠1 by decide,decide_true,decide_false,Zq,Zn,if_true,if_false]
  cases decide (h=0)<;>rfl
 simp only[k0,k1,k3,decide_false,Zn,if_false,ge_iff_le]
 cases decide (0≤k)<;>cases decide (k<7)<;>simp[bc]
theorem zrG(i k h:Int)(xs:List T):Ev 51 [.int i, .agg [.int k, .int h, .vec .plain (some 3) (Zl xs)]] (.bool (zae k h xs.length)):=by
 unfold Ev
 have:=(zp5 k h (Zl xs)).p (by simp[Zi,below])
 rw[Zt]at this
 rw[C,zml,this]
 rfl
end Go.Proofs.SZ
namespace Go.Proofs.SZ
open Go Go.AM Go.Ama
def zuM(g:Nat)(a b:List V)(p:Int→T→Bool):Prop:=
 (cfg.pure g=true∧ ∀i t,Zr W g (a++[.int i,enc t]++b)=some (.bool (p i t)))∨
 (cfg.pure g=false∧ ∀i t st,W.call g (a++[.int i,enc t]++b) st=some (.ret (.bool (p i t)),st))
theorem ztk{g:Nat}{a b:List V}{p:Int→T→Bool}(hg:zuM g a b p)(t:T)(hs:t.size≤1099511627776):W.call 50 [enc t, .fn g a b] []=some (.ret (.bool (allW p 0 t)),[]):=by
 have hr: ∀(i:Int) (t:T) (s:Unit),W.round 1 50 4 [.ref 0 0, .cptr none (.fn g a b)] [.int i,enc t] [(fun _=> .box [.bool false]:Unit→Res) s, .loop 50 4 [.ref 0 0, .cptr none (.fn g a b)] .ready none]=
   some (if p i t=true then(true,[(fun _=> .box [.bool false]:Unit→Res) ((fun s=>s) s), .loop 50 4 [.ref 0 0, .cptr none (.fn g a b)] .ready none])else(false,[.box [.bool false], .loop 50 4 [.ref 0 0, .cptr none (.fn g a b)] .done (some .ret)])):=by
  intro i t s
  rw[Rd,Zd,zkd]
  rcases hg with⟨hp,hm⟩|⟨hp,hm⟩
  ·have hm:=hm i t
   rw[Zd]at hm
   rw[hp,Zq,hm,Zb,Zs]
   cases p i t<;>rfl
  ·have hm:=hm i t
   rw[Zd]at hm
   rw[hp,Zn,hm,Zb,Zk,Zs]
   cases p i t<;>rfl
 have hn:=ziZ (x:=fun _:Unit=> .box [.bool false]) (nx:=fun s=>s) (g:=p) hr t () hs
 rw[C]
 rw[Zd]at hn
 conv=>lhs;rw[Zd]
 rw[zpu,C,zgk,Zb,Zk,zme]
 have hn':W.call 100 ([]++[V.yld (List.length [Res.box [V.bool false]])]++[V.cptr (some 3) (V.agg [V.int t.k,V.int t.h,V.vec .plain (some 3) (Zl t.args)])]) ([Res.box [V.bool false]]++[Res.loop 50 4 [V.ref 0 0,V.cptr none (V.fn g a b)] LSt.ready none])=_:=hn
 rw[hn',Zb]
 cases allW p 0 t<;>rfl
theorem Qk(t:T)(hs:t.size≤1099511627776):Ev 24 [enc t] (.bool (may t)):=by
 unfold Ev
 have hg:zuM 51 [] [] (fun _ t=>zul t):= .inl ⟨rfl,fun i t=>by
  rw[Zd];exact(zrG i t.k t.h t.args).p (by simp[Zi,below])⟩
 have ha:=ztk hg t hs
 rw[zti]at ha
 rw[C,Zd,zpt,←Zd,(znX t hs).p,(zp4 t hs).p,ha]
 simp only[Zb,ZO,Zk,Zs,may]
 have e1:decide ((t.depth:Int)≤60)=decide (t.depth≤60):=decide_eq_decide.2 (by omega)
 have e2:decide ((t.size:Int)≤4000)=decide (t.size≤4000):=decide_eq_decide.2 (by omega)
 rw[e1,e2]
 cases decide (t.depth≤60)<;>cases decide (t.size≤4000)<;>simp[bc]
end Go.Proofs.SZ
namespace Go.Ama
open Go.AM (T)
structure D where
 name:Bytes
 t:T
structure PS where
 l:List Tok
 s:List D
 e:Int
abbrev T0:T:= .mk 0 0 []
abbrev typ:Bytes:=[116,121,112,101]
def PS.fail(n:Int)(s:PS):PS:=if s.e=0 then {s with e:=n}else s
def PS.is(c:Bytes)(s:PS):Bool:=decide (s.e=0)&&match s.l with|[]=>false|t::_=>decide (t.1=1)&&decide (t.2=c)
def PS.named(s:PS):Bool:=decide (s.e=0)&&match s.l with|[]=>false|t::_=>decide (t.1=0)
def PS.token(b:Bool)(s:PS):Bytes×PS:=if b then match s.l with|[]=>([],s)|t::r=>(t.2,{s with l:=r})else([],s.fail 8)
def PS.take(c:Bytes)(s:PS):PS:=(s.token (s.is c)).2
def PS.name(s:PS):Bytes×PS:=s.token s.named
def zkg(x:Bytes):List Bytes→Option Nat
 |[]=>none
 |y::l=>if y=x then some 0 else(zkg x l).map (· +1)
def idx(x:Bytes):List D→Option Nat
 |[]=>none
 |d::l=>if d.name=x then some 0 else(idx x l).map (· +1)
def PS.head(x:Bytes)(bs:List Bytes)(s:PS):T×PS:=
 match zkg x bs with
 |some i=>(.mk 4 i [],s)
 |none=>
  match idx x s.s with
  |none=>(T0,s.fail 2)
  |some i=>(.mk (if(split ((s.s.map (·.t)).getD i T0)).2.k=0 then 2 else 5) i [],s)
def PS.alone(s:PS):PS:=if s.named||s.is [40]then s.fail 8 else s
section
variable(term:List Bytes→PS→T×PS)
def PS.inner(bs:List Bytes)(s:PS):T×PS:=let r:=term bs (s.take [40]);(r.1,r.2.take [41])
def PS.atom(bs:List Bytes)(s:PS):T×PS:=
 if s.is [40]then s.inner term bs
 else
  let r:=s.name
  if r.1=typ then(T0,r.2.fail 8)else r.2.head r.1 bs
def PS.args(bs:List Bytes):Nat→PS→List T×PS
 |0,s=>([],s)
 |m+1,s=>if s.named||s.is [40]then
   let r:=s.atom term bs
   let q:=PS.args bs m r.2
   (r.1::q.1,q.2)
  else([],s)
def PS.atoms(bs:List Bytes)(s:PS):T×PS:=
 if s.is [40]then
  let r:=s.inner term bs
  (r.1,r.2.alone)
 else
  let r:=s.name
  if r.2.e≠0 then(T0,r.2)
  else if r.1=typ then(T0,r.2.alone)
  else
   let h:=r.2.head r.1 bs
   let q:=PS.args term bs h.2.l.length h.2
   (.mk h.1.k h.1.h q.1,q.2)
end
def PS.term:Nat→List Bytes→PS→T×PS
 |0,_,s=>(T0,s.fail 4)
 |n+1,bs,s=>
  if s.is [123]then
   let x:=(s.take [123]).name
   let a:=PS.term n bs (x.2.take [58])
   let b:=PS.term n (x.1::bs) (a.2.take [125])
   (.mk 1 0 [a.1,b.1],b.2)
  else if s.is [91]then
   let x:=(s.take [91]).name
   let b:=PS.term n (x.1::bs) (x.2.take [93])
   (.mk 3 0 [b.1],b.2)
  else s.atoms (PS.term n) bs
def PS.whole(s:PS):T×PS:=
 let r:=s.term 120 []
 (r.1,if may r.1 then r.2 else r.2.fail 4)
def nameOK(x:Bytes):Bool:=decide (x.length≠0)&&decide (x.length≤40)&&decide (x.head? ≠some 95)&&decide (x≠typ)&&decide (YE x=some [(0,x)])
def PS.decl(s:PS):PS:=
 let x:=s.name
 let s2:=if !nameOK x.1||(idx x.1 x.2.s).isSome then x.2.fail 8 else x.2
 let t:=(s2.take [58]).whole
 let s3:=t.2.take [46]
 {s3 with s:=s3.s++[⟨x.1,t.1⟩]}
def PS.decls:Nat→PS→PS
 |0,s=>s
 |m+1,s=>if s.l≠ []∧s.e=0 then(if s.s.length≥40 then s.fail 4 else PS.decls m s.decl)else s
def zc0(b:Bytes):List Tok×Int:=if b.length>20000 then([],4)else match YE b with|some l=>(l,0)|none=>([],8)
def zgm(b:Bytes):List D×Int:=
 let x:=zc0 b
 let r:=PS.decls (x.1.length) ⟨x.1,[],x.2⟩
 if r.e≠0 then([],r.e)else(r.s,0)
end Go.Ama
namespace Go.Ama
open Go Go.AM
def Y1(d:Int):Tok:=(0,95::Lib.decDigits d.toNat)
def Xv(c:UInt8):Tok:=(1,[c])
def zp6(k:Int):Bool:=k==4||k==2||k==5
def YP(sig:List D)(k h:Int)(d:Nat):Option Tok:=
 if k=4∧h<d then some (Y1 (d-1-h))
 else if(k=2∨k=5)∧h<sig.length then(sig[h.toNat]?).map fun d=>(0,d.name)
 else none
def Jz(t:T):Bool:=decide (t.args.length=0)&&zp6 t.k
section
variable(sig:List D)
mutual
def words:T→Nat→List Tok
 | .mk k h xs,d=>if k=0 then[(0,typ)]else if k=1 then wPi xs d else if k=3 then zmp xs d else(YP sig k h d).toList++YF xs d
def YF:List T→Nat→List Tok
 |[],_=> []
 |t::l,d=>(bif Jz t then words t d else Xv 40::words t d++[Xv 41])++YF l d
def wPi:List T→Nat→List Tok
 |a::b::_,d=>Xv 123::Y1 d::Xv 58::words a d++Xv 125::words b (d+1)
 |_,_=> []
def zmp:List T→Nat→List Tok
 |a::_,d=>Xv 91::Y1 d::Xv 93::words a (d+1)
 |_,_=> []
end
mutual
def okW:T→Nat→Bool
 | .mk k h xs,d=>if k=0 then true else if k=1 then zrH xs d else if k=3 then zkP xs d else(YP sig k h d).isSome&&Qm xs d
def Qm:List T→Nat→Bool
 |[],_=>true
 |t::l,d=>okW t d&&Qm l d
def zrH:List T→Nat→Bool
 |a::b::_,d=>okW a d&&okW b (d+1)
 |_,_=>true
def zkP:List T→Nat→Bool
 |a::_,d=>okW a (d+1)
 |_,_=>true
end
end
def Jj(t:T)(sig:List D):Bytes×Int:=
 if may t then(if okW sig t 0 then(text (words sig t 0),0)else([],2))else([],1)
def zmq(x b:Bytes):Bytes:=x++[32,58,32]++b++[46,10]
def zcP(x:Bytes)(l:List D):Nat:=(l.filter fun d=>decide (d.name=x)).length
def YS(sig:List D):Bytes→List D→Bytes×Int
 |all,[]=>(all,0)
 |all,d::l=>
  if nameOK d.name&&decide (zcP d.name sig≤1)then
   (if(Jj d.t sig).2=0 then YS sig (all++zmq d.name (Jj d.t sig).1) l else([],(Jj d.t sig).2))
  else([],1)
def QG(sig:List D):Bytes×Int:=YS sig [] sig
theorem zp7{sig:List D}(e:D){k h:Int}{d:Nat}(hk:(YP sig k h d).isSome=true):YP (sig++[e]) k h d=YP sig k h d:=by
 unfold YP at hk⊢
 by_cases h1:k=4∧h<d
 ·simp only[if_pos h1]
 ·rw[if_neg h1]at hk
  rw[if_neg h1,if_neg h1]
  by_cases h2:(k=2∨k=5)∧h<sig.length
  ·rw[if_pos h2]at hk
   have h3:(k=2∨k=5)∧h<(sig++[e]).length:=⟨h2.1,by simp;omega⟩
   rw[if_pos h3,if_pos h2]
   congr 1
   rw[List.getElem?_append_left]
   rw[Option.isSome_map]at hk
   exact(List.getElem?_eq_some_iff.1 (Option.get_mem hk)).1
  ·rw[if_neg h2]at hk
   cases hk
theorem ztm(sig:List D)(e:D)(t:T): ∀d,okW sig t d=true→okW (sig++[e]) t d=true∧words (sig++[e]) t d=words sig t d:=by
 induction t using T.ind with
 |_ k h xs ih=>
  intro d hk
  have hl: ∀l:List T,(∀a∈l,∀d,okW sig a d=true→okW (sig++[e]) a d=true∧words (sig++[e]) a d=words sig a d)→ ∀d,Qm sig l d=true→Qm (sig++[e]) l d=true∧YF (sig++[e]) l d=YF sig l d:=by
   intro l
   induction l with
   |nil=>intro _ d _;exact⟨rfl,rfl⟩
   |cons a l ihl=>
    intro hh d hk
    simp only[Qm,Bool.and_eq_true]at hk
    obtain⟨h1,h2⟩:=hh a (List.mem_cons_self ..) d hk.1
    obtain⟨h3,h4⟩:=ihl (fun b hb=>hh b (List.mem_cons_of_mem _ hb)) d hk.2
    exact⟨by simp only[Qm,h1,h3,Bool.and_self],by simp only[YF,h2,h4]⟩
  unfold okW at hk
  unfold okW words
  by_cases h0:k=0
  ·simp only[if_pos h0]
   exact⟨trivial,trivial⟩
  ·rw[if_neg h0]at hk
   simp only[if_neg h0]
   by_cases h1:k=1
   ·rw[if_pos h1]at hk
    simp only[if_pos h1]
    match xs,ih,hk with
    |[],_,_=>exact⟨rfl,rfl⟩
    |[_],_,_=>exact⟨rfl,rfl⟩
    |a::b::_,ih,hk=>
     simp only[zrH,Bool.and_eq_true]at hk
     obtain⟨h1,h2⟩:=ih a (by simp) d hk.1
     obtain⟨h3,h4⟩:=ih b (by simp) (d+1) hk.2
     exact⟨by simp only[zrH,h1,h3,Bool.and_self],by simp only[wPi,h2,h4]⟩
   ·rw[if_neg h1]at hk
    simp only[if_neg h1]
    by_cases h3:k=3
    ·rw[if_pos h3]at hk
     simp only[if_pos h3]
     match xs,ih,hk with
     |[],_,_=>exact⟨rfl,rfl⟩
     |a::_,ih,hk=>
      simp only[zkP]at hk
      obtain⟨h1,h2⟩:=ih a (by simp) (d+1) hk
      exact⟨by simp only[zkP,h1],by simp only[zmp,h2]⟩
    ·rw[if_neg h3,Bool.and_eq_true]at hk
     simp only[if_neg h3,zp7 e hk.1]
     obtain⟨h4,h5⟩:=hl xs ih d hk.2
     exact⟨by simp[hk.1,h4],by rw[h5]⟩
theorem zhd(sig:List D): ∀(l:List D) (all:Bytes),(YS sig all l).2=0→ ∀d∈l,nameOK d.name=true∧zcP d.name sig≤1
 |[],_,_,d,hd=>by cases hd
 |d::l,all,h,e,he=>by
  simp only[YS]at h
  split at h
  ·rename_i hn
   simp only[Bool.and_eq_true,decide_eq_true_eq]at hn
   split at h
   ·rcases List.mem_cons.1 he with rfl|he
    ·exact hn
    ·exact zhd sig l _ h e he
   ·rename_i hs;exact absurd h hs
  ·cases h
theorem znZ: ∀{l:List D} {i k:Nat} (hi:i<l.length) (hk:k<i),(l[i]).name=(l[k]'(by omega)).name→2≤zcP (l[i]).name l
 |d::l,i+1,0,hi,_,h=>by
  simp only[List.getElem_cons_succ,List.getElem_cons_zero]at h⊢
  have hi':i<l.length:=by simpa using hi
  unfold zcP
  rw[List.filter_cons_of_pos (by simp[h])]
  have:l[i]∈l.filter fun d=>decide (d.name=(l[i]).name):=List.mem_filter.2 ⟨List.getElem_mem ..,by simp⟩
  have:=List.length_pos_of_mem this
  simp only[List.length_cons]
  omega
 |d::l,i+1,k+1,hi,hk,h=>by
  simp only[List.getElem_cons_succ]at h⊢
  have:=znZ (l:=l) (i:=i) (k:=k) (by simpa using hi) (by omega) h
  unfold zcP at this⊢
  rw[List.filter_cons]
  split
  ·simp only[List.length_cons];omega
  ·exact this
end Go.Ama
namespace Go.Ama
open Go Go.AM
theorem JJ: ∀a b:List Tok,Yk (a++b)=Yk a+Yk b
 |[],b=>by simp[Yk]
 |(_,s)::a,b=>by simp only[List.cons_append,Yk,JJ a b];omega
theorem zoa{n:Nat}(h:n<100):(Lib.decDigits n).length≤2:=by
 rw[Lib.decDigits]
 split
 ·simp
 ·rw[Lib.decDigits,dif_pos (by omega)]
  simp
theorem zfy{n:Int}(h:n<100):(Y1 n).2.length≤100:=by
 have:=zoa (n:=n.toNat) (by omega)
 simp only[Y1,List.length_cons]
 omega
theorem zrI{sig:List D}(hs: ∀d∈sig,d.name.length≤100){k h:Int}{d:Nat}(hd:d≤99)(hh:0≤h):Yk (YP sig k h d).toList≤100:=by
 unfold YP
 split
 ·have:=zfy (n:=d-1-h) (by omega)
  simp only[Option.toList_some,Yk]
  exact this
 ·split
  ·cases hx:sig[h.toNat]? with
   |none=>simp[Yk]
   |some x=>have:=hs x (List.mem_of_getElem? hx);simpa[Yk]using this
  ·simp[Yk]
theorem za4{sig:List D}(t:T): ∀d,(words sig t d).length+2≤9*t.size:=by
 induction t using T.ind with
 |_ k h xs ih=>
  intro d
  have hl: ∀l:List T,(∀a∈l,∀d,(words sig a d).length+2≤9*a.size)→ ∀d,(YF sig l d).length≤9*sizes l:=by
   intro l
   induction l with
   |nil=>intro _ d;simp[YF]
   |cons a l ihl=>
    intro hh d
    have h1:=hh a (List.mem_cons_self ..) d
    have h2:=ihl (fun b hb=>hh b (List.mem_cons_of_mem _ hb)) d
    simp only[YF,sizes,List.length_append]
    cases Jz a<;>simp only[cond_true,cond_false,List.length_cons,List.length_append,List.length_nil]<;>omega
  unfold words
  simp only[T.size]
  split
  ·simp;omega
  ·split
   ·match xs,ih with
    |[],_=>simp[wPi];omega
    |[_],_=>simp[wPi];omega
    |a::b::r,ih=>
     have h1:=ih a (by simp) d
     have h2:=ih b (by simp) (d+1)
     simp only[wPi,sizes,List.length_cons,List.length_append]
     omega
   ·split
    ·match xs,ih with
     |[],_=>simp[zmp];omega
     |a::r,ih=>
      have h1:=ih a (by simp) (d+1)
      simp only[zmp,sizes,List.length_cons]
      omega
    ·have h1:=hl xs ih d
     have h2:(YP sig k h d).toList.length≤1:=by cases YP sig k h d<;>simp
     simp only[List.length_append]
     omega
theorem zgn{sig:List D}(hs: ∀d∈sig,d.name.length≤100)(t:T): ∀d,Yu t=true→d+t.depth≤100→Yk (words sig t d)+2≤110*t.size:=by
 induction t using T.ind with
 |_ k h xs ih=>
  intro d hn hd
  have hl: ∀l:List T,(∀a∈l,∀d,Yu a=true→d+a.depth≤100→Yk (words sig a d)+2≤110*a.size)→ ∀d,Y0 l=true→d+ZG l≤100→Yk (YF sig l d)≤110*sizes l:=by
   intro l
   induction l with
   |nil=>intro _ d _ _;simp[YF,Yk]
   |cons a l ihl=>
    intro hh d hn hd
    simp only[Y0,Bool.and_eq_true]at hn
    simp only[ZG]at hd
    have h1:=hh a (List.mem_cons_self ..) d hn.1 (by omega)
    have h2:=ihl (fun b hb=>hh b (List.mem_cons_of_mem _ hb)) d hn.2 (by omega)
    simp only[YF,sizes,JJ]
    cases Jz a<;>simp only[cond_true,cond_false,List.cons_append,Xv,Yk,JJ,List.length_cons,List.length_nil]<;>omega
  unfold words
  simp only[Yu,Bool.and_eq_true]at hn
  simp only[T.depth]at hd
  simp only[T.size]
  split
  ·simp[Yk,typ];omega
  ·rename_i k0
   split
   ·match xs,ih,hn,hd with
    |[],_,_,_=>simp[wPi,Yk];omega
    |[_],_,_,_=>simp[wPi,Yk];omega
    |a::b::r,ih,hn,hd=>
     simp only[Y0,Bool.and_eq_true]at hn
     simp only[ZG]at hd
     have h1:=ih a (by simp) d hn.2.1 (by omega)
     have h2:=ih b (by simp) (d+1) hn.2.2.1 (by omega)
     have h3:=zfy (n:=(d:Int)) (by omega)
     simp only[wPi,sizes,Y1,Yk,JJ,Xv,List.length_cons,List.length_nil]at h3⊢
     omega
   ·rename_i k1
    split
    ·match xs,ih,hn,hd with
     |[],_,_,_=>simp[zmp,Yk];omega
     |a::r,ih,hn,hd=>
      simp only[Y0,Bool.and_eq_true]at hn
      simp only[ZG]at hd
      have h1:=ih a (by simp) (d+1) hn.2.1 (by omega)
      have h3:=zfy (n:=(d:Int)) (by omega)
      simp only[zmp,sizes,Y1,Yk,JJ,Xv,List.length_cons,List.length_nil]at h3⊢
      omega
    ·rename_i k3
     have h0:0≤h:=by
      have:=hn.1
      unfold zae at this
      rw[if_neg k0,if_neg k1,if_neg k3]at this
      simp only[Bool.and_eq_true,decide_eq_true_eq]at this
      exact this.2.2
     have h1:=hl xs ih d hn.2 (by omega)
     have h2:=zrI hs (k:=k) (h:=h) (d:=d) (by omega) h0
     rw[JJ]
     omega
end Go.Ama
namespace Go.Ama
open Go Go.AM
def Q3(d:D):V:= .agg [.str (ba d.name), .int d.t.k, .int d.t.h, .vec .plain (some 3) (Zl d.t.args)]
def Zx(l:List D):List V:=l.map Q3
def zas(l:List Bytes):List V:=l.map fun b=> .str (ba b)
@[simp] theorem ZA(l:List D):(Zx l).length=l.length:=by simp[Zx]
@[simp] theorem zv8:Zx []=[]:=rfl
@[simp] theorem zdE(l:List Bytes):(zas l).length=l.length:=by simp[zas]
theorem zmr(a b:List D):Zx (a++b)=Zx a++Zx b:=by simp[Zx]
theorem zob(a b:List Bytes):zas (a++b)=zas a++zas b:=by simp[zas]
theorem zp8(l:List D)(n:Nat):(Zx l).take n=Zx (l.take n):=by simp[Zx,List.map_take]
theorem Xi{l:List D}{i:Nat}(h:i<l.length):ZW (Zx l) (i:Int)=Q3 l[i]:=by
 simp[ZW,Zx,List.getD_eq_getElem?_getD,List.getElem?_map,h]
theorem zrJ{l:List Bytes}{i:Nat}(h:i<l.length):ZW (zas l) (i:Int)= .str (ba l[i]):=by
 simp[ZW,zas,List.getD_eq_getElem?_getD,List.getElem?_map,h]
theorem zjb(n:Nat)(d:D):below n (Q3 d)=true:=by simp[Q3,below,Zi,QV]
theorem Zz(n:Nat): ∀l:List D,Zi n (Zx l)=true
 |[]=>rfl
 |d::l=>by
  have:=Zz n l
  simp only[Zx]at this
  simp[Zx,Zi,zjb,this]
theorem zb1{R:Type}(d:D)(K:ByteArray→Int→Int→List V→Option R):Zc (R:=R) [CT.str,CT.int,CT.int,CT.slice (some 3)] (Q3 d) K=K (ba d.name) d.t.k d.t.h (Zl d.t.args):=rfl
def Yv(m:AM.Mode)(s:PS):Res:= .box [.vec .plain (some 2) (Zw s.l), .vec m (some 4) (Zx s.s), .int s.e]
end Go.Ama
namespace Go.Proofs.SZ
open Go Go.AM Go.Ama
def Xb(m:AM.Mode)(sig:List D)(l:List Tok)(e:Int):Res:= .box [.vec .plain (some 4) (Zx sig), .vec m (some 2) (Zw l), .int e]
def GF(m:AM.Mode):Prop:=m= .grow∨m= .full
theorem zun{n:Int}(h0:0≤n)(h1:n<100):Ev 82 [.int n] (.str (ba (Lib.decDigits n.toNat))):=by
 unfold Ev
 rw[Cx 82 _ _ (x:=fun _ args st=>zq5 args st) rfl]
 show gd (decide (0≤n)&&decide (n<100)) _=_
 rw[decide_eq_true h0,decide_eq_true h1]
 rfl
section
variable{sig:List D}{m:AM.Mode}(hm:GF m)
include hm
theorem zfz(l:List Tok)(e:Int)(s:Bytes)(hl:l.length≤1000000):W.call 53 [.ref 0 0, .str (ba s)] [Xb m sig l e]=some (.ret (.tup []),[Xb .grow sig (l++[(0,s)]) e]):=by
 have hr:roomFor Tryz.prog 84 ((Zw l).length+[V.agg [V.int 0,V.str (ba s)]].length)=true:=zbN (by simp;omega)
 have hb:Xb .grow sig (l++[(0,s)]) e= .box [.vec .plain (some 4) (Zx sig), .vec .grow (some 2) (Zw l++[V.agg [V.int 0,V.str (ba s)]]), .int e]:=by rw[Xb,Ju];rfl
 rw[C,zfv,hb]
 generalize roomFor Tryz.prog 84=R at hr⊢
 rcases hm with rfl|rfl<;>
 ·refine Eq.trans (b:=gd (true&&R ((Zw l).length+[V.agg [V.int 0,V.str (ba s)]].length)) (some (.ret (.tup []),[.box [.vec .plain (some 4) (Zx sig), .vec .grow (some 2) (Zw l++[V.agg [V.int 0,V.str (ba s)]]), .int e]]))) rfl ?_
  rw[hr]
  rfl
theorem zdF(l:List Tok)(e:Int)(c:UInt8)(hl:l.length≤1000000):W.call 57 [.ref 0 0, .vec .plain none [.str (ba [c])]] [Xb m sig l e]=some (.ret (.tup []),[Xb .grow sig (l++[Xv c]) e]):=by
 have hr:roomFor Tryz.prog 84 ((Zw l).length+[V.agg [V.int 1,V.str (ba [c])]].length)=true:=zbN (by simp;omega)
 have hb:Xb .grow sig (l++[Xv c]) e= .box [.vec .plain (some 4) (Zx sig), .vec .grow (some 2) (Zw l++[V.agg [V.int 1,V.str (ba [c])]]), .int e]:=by rw[Xb,Ju];rfl
 have h1:W.loop 57 1 [.int 1, .ref 0 0, .vec .plain none [.str (ba [c])], .int 1] [Xb .grow sig (l++[Xv c]) e]=some (.exit 0,[],[Xb .grow sig (l++[Xv c]) e]):=by
  rw[L,Jy]
  rfl
 have h2:W.loop 57 1 [.int 0, .ref 0 0, .vec .plain none [.str (ba [c])], .int 1] [Xb m sig l e]=some (.exit 0,[],[Xb .grow sig (l++[Xv c]) e]):=by
  rw[←h1,L,Jy,hb]
  generalize roomFor Tryz.prog 84=R at hr⊢
  generalize W=O
  rcases hm with rfl|rfl<;>
  ·refine Eq.trans (b:=gd (true&&R ((Zw l).length+[V.agg [V.int 1,V.str (ba [c])]].length)) (O.loop 57 1 [.int (IntKind.i64.wrap (0+1)), .ref 0 0, .vec .plain none [.str (ba [c])], .int 1] [.box [.vec .plain (some 4) (Zx sig), .vec .grow (some 2) (Zw l++[V.agg [V.int 1,V.str (ba [c])]]), .int e]])) rfl ?_
   rw[hr]
   rfl
 rw[C,zez]
 have h3:W.loop 57 1 [.int 0, .ref 0 0, .vec .plain none [.str (ba [c])], .int (([V.str (ba [c])].length:Nat):Int)] [Xb m sig l e]=_:=h2
 rw[h3]
 rfl
theorem zdG(l:List Tok)(e:Int)(n:Int)(h0:0≤n)(h1:n<100)(hl:l.length≤1000000):W.call 56 [.ref 0 0, .int n] [Xb m sig l e]=some (.ret (.tup []),[Xb .grow sig (l++[Y1 n]) e]):=by
 have hd:=zoa (n:=n.toNat) (by omega)
 have hg:decide (1+(ba (Lib.decDigits n.toNat)).size≤9223372036854775807)=true:=by rw[Xn];exact decide_eq_true (by omega)
 have hs:({data:= #[95]}:ByteArray)++ba (Lib.decDigits n.toNat)=ba (95::Lib.decDigits n.toNat):=zkI [95] _
 rw[C,zey,(zun h0 h1).p,Zb,XL,hg,Z6,hs,zfz hm l e _ hl]
 rfl
theorem zdH(l:List Tok)(e:Int)(o c:UInt8){g:Nat}{caps:List V}(hp:cfg.pure g=false){m2:AM.Mode}{l2:List Tok}{e2:Int}(hm2:GF m2)
  (hc:W.call g caps [Xb .grow sig (l++[Xv o]) e]=some (.ret (.tup []),[Xb m2 sig l2 e2])) (hl:l.length≤1000000) (hl2:l2.length≤1000000):
  W.call 54 [.ref 0 0, .str (ba [o]), .str (ba [c]), .fn g [] caps] [Xb m sig l e]=some (.ret (.tup []),[Xb .grow sig (l2++[Xv c]) e2]):=by
 rw[C,zd5,zdF hm l e o hl]
 show bc (cfg.pure g) _ (Za (W.call g caps [Xb .grow sig (l++[Xv o]) e]) _)=_
 rw[hp,Zn,hc]
 show Za (W.call 57 [.ref 0 0, .vec .plain none [.str (ba [c])]] [Xb m2 sig l2 e2]) _=_
 rw[zdF hm2 l2 e2 c hl2]
 rfl
theorem zp9(hs:sig.length≤1000)(l:List Tok)(e:Int)(k h:Int)(xs:List T)(d:Nat)(hh:0≤h)(hd:d≤100)(hl:l.length≤1000000):
  ∃m',GF m'∧W.call 59 [.ref 0 0, .agg [.int k, .int h, .vec .plain (some 3) (Zl xs)], .int d] [Xb m sig l e]=some (.ret (.tup []),[Xb m' sig (l++(YP sig k h d).toList) (bif (YP sig k h d).isSome then e else 2)]):=by
 have hfail:W.call 59 [.ref 0 0, .agg [.int k, .int h, .vec .plain (some 3) (Zl xs)], .int d] [Xb m sig l e]=some (.ret (.tup []),[Xb m sig l 2])→
  YP sig k h d=none→ ∃m',GF m'∧W.call 59 [.ref 0 0, .agg [.int k, .int h, .vec .plain (some 3) (Zl xs)], .int d] [Xb m sig l e]=some (.ret (.tup []),[Xb m' sig (l++(YP sig k h d).toList) (bif (YP sig k h d).isSome then e else 2)]):=by
  intro h1 h2
  refine⟨m,hm, ?_⟩
  rw[h1,h2]
  simp
 have hname: ∀i:Nat,(hi:i<sig.length)→W.call 53 [.ref 0 0, .str (ba (sig[i]).name)] [Xb m sig l e]=some (.ret (.tup []),[Xb .grow sig (l++[(0,(sig[i]).name)]) e]):=fun i hi=>zfz hm l e _ hl
 obtain⟨i,rfl⟩:=Int.eq_ofNat_of_zero_le hh
 by_cases h4:k=4
 ·subst h4
  by_cases hlt:(i:Int)<d
  ·have hT:YP sig 4 i d=some (Y1 (d-1-i)):=by unfold YP;rw[if_pos ⟨rfl,hlt⟩]
   refine⟨.grow, .inl rfl, ?_⟩
   rw[hT,C,XZ,Yf,decide_eq_true rfl,Zq,decide_eq_true hlt,Zq,zcx (n:=(d:Int)-1) (by omega) (by omega),zcx (n:=(d:Int)-1-i) (by omega) (by omega),zdG hm l e _ (by omega) (by omega) hl]
   rfl
  ·refine hfail ?_ (by unfold YP;rw[if_neg (by omega),if_neg (by omega)])
   rw[C,XZ,Yf,decide_eq_true rfl,Zq,decide_eq_false hlt]
   rfl
 ·by_cases h2:(k=2∨k=5)∧(i:Int)<sig.length
  ·have hi:i<sig.length:=by omega
   have hT:YP sig k i d=some (0,(sig[i]).name):=by
    unfold YP
    rw[if_neg (by omega),if_pos h2,Int.toNat_natCast,List.getElem?_eq_getElem hi]
    rfl
   refine⟨.grow, .inl rfl, ?_⟩
   have hi2:decide ((i:Int)<((Zx sig).length:Int))=true:=by rw[ZA];exact decide_eq_true h2.2
   have hi3:(decide ((0:Int)≤(i:Int))&&decide ((i:Int)<((Zx sig).length:Int)))=true:=by rw[hi2,decide_eq_true (by omega)];rfl
   have hx:ZW (Zx sig) (i:Int)=Q3 sig[i]:=Xi hi
   have e1: ∀{α:Type} (K:List V→Option α),Z4 [Xb m sig l e] 0 (fun x=>Z1 x K)=K [.vec .plain (some 4) (Zx sig), .vec m (some 2) (Zw l), .int e]:=fun K=>rfl
   have e2: ∀{α:Type} (K:List V→Option α),ZU (some 4) (Zo (AM.partOf [.vec .plain (some 4) (Zx sig), .vec m (some 2) (Zw l), .int e] 0 none)) K=K (Zx sig):=fun K=>rfl
   have e3: ∀{α:Type} (K:List V→Option α),Y3 (Q3 sig[i]) K=K [.str (ba (sig[i]).name), .int (sig[i]).t.k, .int (sig[i]).t.h, .vec .plain (some 3) (Zl (sig[i]).t.args)]:=fun K=>rfl
   have e4: ∀{α:Type} (K:ByteArray→Option α),YU (AM.partOf [.str (ba (sig[i]).name), .int (sig[i]).t.k, .int (sig[i]).t.h, .vec .plain (some 3) (Zl (sig[i]).t.args)] 0 none) K=K (ba (sig[i]).name):=fun K=>rfl
   rw[hT,C,XZ,Yf,decide_eq_false h4,Zn]
   rcases h2.1 with rfl|rfl
   ·rw[Yf,decide_eq_true rfl,Zq]
    simp only[e1,e2,hi2,Zq,hi3,hx,e3,e4,hname i hi]
    rfl
   ·rw[Yf,decide_eq_false (by decide),Zn,Yf,decide_eq_true rfl,Zq]
    simp only[e1,e2,hi2,Zq,hi3,hx,e3,e4,hname i hi]
    rfl
  ·refine hfail ?_ (by unfold YP;rw[if_neg (by omega),if_neg h2])
   have e1: ∀{α:Type} (K:List V→Option α),Z4 [Xb m sig l e] 0 (fun x=>Z1 x K)=K [.vec .plain (some 4) (Zx sig), .vec m (some 2) (Zw l), .int e]:=fun K=>rfl
   have e2: ∀{α:Type} (K:List V→Option α),ZU (some 4) (Zo (AM.partOf [.vec .plain (some 4) (Zx sig), .vec m (some 2) (Zw l), .int e] 0 none)) K=K (Zx sig):=fun K=>rfl
   rw[C,XZ,Yf,decide_eq_false h4,Zn]
   by_cases hk2:k=2
   ·subst hk2
    have hi2:decide ((i:Int)<((Zx sig).length:Int))=false:=by rw[ZA];exact decide_eq_false (by omega)
    rw[Yf,decide_eq_true rfl,Zq]
    simp only[e1,e2,hi2]
    rfl
   ·rw[Yf,decide_eq_false hk2,Zn]
    by_cases hk5:k=5
    ·subst hk5
     have hi2:decide ((i:Int)<((Zx sig).length:Int))=false:=by rw[ZA];exact decide_eq_false (by omega)
     rw[Yf,decide_eq_true rfl,Zq]
     simp only[e1,e2,hi2]
     rfl
    ·rw[Yf,decide_eq_false hk5,Zn]
     rfl
end
end Go.Proofs.SZ
namespace Go.Proofs.SZ
open Go Go.AM Go.Ama
theorem zoc(t:T):Ev 60 [enc t] (.bool (Jz t)):=by
 obtain⟨k,h,xs⟩:=t
 unfold Ev
 rw[C]
 show Zf Tryz.prog cfg W 60 [.agg [.int k, .int h, .vec .plain (some 3) (Zl xs)]] []=_
 rw[zkc]
 have hx:(((Zl xs).length:Int)==0)=decide (xs.length=0):=by rw[Yf,Zt];simp
 rw[hx]
 unfold Jz
 show _=some (Out.ret (V.bool (decide (xs.length=0)&&(k==4||k==2||k==5))),[])
 cases decide (xs.length=0)<;>cases(k==4)<;>cases(k==2)<;>rfl
theorem QX{α:Type}(t:T)(K:Int→Int→List V→Option α):Zc [CT.int,CT.int,CT.slice (some 3)] (enc t) K=K t.k t.h (Zl t.args):=by cases t;rfl
theorem zq9{a b:Bool}{e:Int}:(bif b then(bif a then e else 2)else 2)=(bif (a&&b)then e else 2):=by cases a<;>cases b<;>rfl
theorem zkQ: ∀{l:List T} {a:T},a∈l→a.depth≤ZG l
 |b::l,a,h=>by
  simp only[ZG]
  rcases List.mem_cons.1 h with rfl|h
  ·omega
  ·have:=zkQ h;omega
def Wr(sig:List D)(t:T):Prop:= ∀(d:Nat) (m:AM.Mode) (l:List Tok) (e:Int),GF m→Yu t=true→d+t.depth≤100→l.length+10*t.size≤1000000→
 ∃m',GF m'∧W.call 25 [.ref 0 0,enc t, .int d] [Xb m sig l e]=some (.ret (.tup []),[Xb m' sig (l++words sig t d) (bif okW sig t d then e else 2)])
theorem zpA{sig:List D}(xs:List T)(ih: ∀a∈xs,Wr sig a)(d:Nat)(hn:Y0 xs=true)(hd:d+ZG xs≤100)(hx:xs.length≤1000000): ∀j k,k+j=xs.length→ ∀(c:Bool) (m:AM.Mode) (l:List Tok) (e:Int),GF m→l.length+10*sizes (xs.drop k)+1≤1000000→
  ∃m',GF m'∧W.loop 25 4 [.int (k:Nat),(bif c then .cptr none (.int d)else .loc false none (.int d)),(bif c then .cptr none (.ref 0 0)else .loc false none (.ref 0 0)), .vec .plain (some 3) (Zl xs), .int xs.length] [Xb m sig l e]=
   some (.exit 1,[],[Xb m' sig (l++YF sig (xs.drop k) d) (bif Qm sig (xs.drop k) d then e else 2)]):=by
 intro j
 induction j with
 |zero=>
  intro k hk c m l e hm hl
  have hkl:k=xs.length:=by omega
  subst hkl
  have hlt:decide (((xs.length:Nat):Int)<xs.length)=false:=by simp
  refine⟨m,hm, ?_⟩
  rw[List.drop_length]
  cases c
  ·simp only[cond_false]
   rw[L,XA,hlt,Zn]
   simp[YF,Qm]
  ·simp only[cond_true]
   rw[L,Ql,hlt,Zn]
   simp[YF,Qm]
 |succ j ihj=>
  intro k hk c m l e hm hl
  have hkl:k<xs.length:=by omega
  have hlt:decide (((k:Nat):Int)<xs.length)=true:=by simp;omega
  have hlt2:(decide ((0:Int)≤(k:Nat))&&decide (((k:Nat):Int)<((Zl xs).length:Int)))=true:=by rw[Zt,hlt];simp
  have hdr:xs.drop k=xs[k]::xs.drop (k+1):=List.drop_eq_getElem_cons hkl
  have hmem:xs[k]∈xs:=List.getElem_mem hkl
  have hna:Yu xs[k]=true:=by rw[zfw,List.all_eq_true]at hn;exact hn _ hmem
  have hda:d+(xs[k]).depth≤100:=by have:=zkQ hmem;omega
  rw[hdr]at hl
  simp only[sizes]at hl
  have hw:IntKind.i64.wrap ((k:Nat)+1:Int)=((k+1:Nat):Int):=zcx (by omega) (by omega)
  have hp:=(zoc xs[k]).p
  rw[Zd]at hp
  have hlen:=za4 (sig:=sig) xs[k] d
  rw[hdr]
  simp only[YF,Qm]
  cases hs:Jz xs[k]
  ·
   obtain⟨m1,hm1,h1⟩:=ih _ hmem d .grow (l++[Xv 40]) e (.inl rfl) hna hda (by simp;omega)
   have hc:W.call 61 [.cptr none (.ref 0 0), .cptr (some 3) (.agg [.int (xs[k]).k, .int (xs[k]).h, .vec .plain (some 3) (Zl (xs[k]).args)]), .cptr none (.int d)] [Xb .grow sig (l++[Xv 40]) e]=some (.ret (.tup []),[Xb m1 sig (l++[Xv 40]++words sig xs[k] d) (bif okW sig xs[k] d then e else 2)]):=by
    rw[Zd]at h1
    rw[C,zd8,h1]
    rfl
   have h2:=zdH hm l e 40 41 (g:=61) rfl hm1 hc (by omega) (by simp;omega)
   have h2':W.call 54 [V.ref 0 0,V.str {data:= #[40]},V.str {data:= #[41]},V.fn 61 [] [.cptr none (.ref 0 0), .cptr (some 3) (.agg [.int (xs[k]).k, .int (xs[k]).h, .vec .plain (some 3) (Zl (xs[k]).args)]), .cptr none (.int d)]] [Xb m sig l e]=_:=h2
   obtain⟨m3,hm3,h3⟩:=ihj (k+1) (by omega) true .grow (l++[Xv 40]++words sig xs[k] d++[Xv 41]) (bif okW sig xs[k] d then e else 2) (.inl rfl) (by simp;omega)
   refine⟨m3,hm3, ?_⟩
   rw[zq9]at h3
   simp only[cond_true]at h3
   simp only[cond_false]
   have he:l++(Xv 40::words sig xs[k] d++[Xv 41]++YF sig (xs.drop (k+1)) d)=l++[Xv 40]++words sig xs[k] d++[Xv 41]++YF sig (xs.drop (k+1)) d:=by simp
   rw[he,←h3]
   cases c
   ·simp only[cond_false]
    rw[L,XA,hlt,Zq,hlt2,Z6,ZS hkl,QX,hp,Zb,hs,Zs,Zn,h2',hw]
    rfl
   ·simp only[cond_true]
    rw[L,Ql,hlt,Zq,hlt2,Z6,ZS hkl,QX,hp,Zb,hs,Zs,Zn,h2',hw]
    rfl
  ·obtain⟨m1,hm1,h1⟩:=ih _ hmem d m l e hm hna hda (by omega)
   rw[Zd]at h1
   obtain⟨m3,hm3,h3⟩:=ihj (k+1) (by omega) c m1 (l++words sig xs[k] d) (bif okW sig xs[k] d then e else 2) hm1 (by simp;omega)
   refine⟨m3,hm3, ?_⟩
   rw[zq9]at h3
   simp only[cond_true]
   rw[←List.append_assoc,←h3]
   cases c
   ·simp only[cond_false]
    rw[L,XA,hlt,Zq,hlt2,Z6,ZS hkl,QX,hp,Zb,hs,Zs,Zq,h1,hw]
    rfl
   ·simp only[cond_true]
    rw[L,Ql,hlt,Zq,hlt2,Z6,ZS hkl,QX,hp,Zb,hs,Zs,Zq,h1,hw]
    rfl
theorem zpB{sig:List D}(hsig:sig.length≤1000)(t:T):Wr sig t:=by
 induction t using T.ind with
 |_ k h xs ih=>
  intro d m l e hm hn hd hl
  simp only[Yu,Bool.and_eq_true]at hn
  simp only[T.depth]at hd
  simp only[T.size]at hl
  have hC:W.call 25 [.ref 0 0,enc (.mk k h xs), .int d] [Xb m sig l e]=Zf Tryz.prog cfg W 25 [.ref 0 0, .agg [.int k, .int h, .vec .plain (some 3) (Zl xs)], .int d] [Xb m sig l e]:=C ..
  rw[hC,zfu,Yf,Yf,Yf]
  have hm1:=hn.1
  unfold zae at hm1
  unfold words okW
  by_cases h0:k=0
  ·have hT:W.call 53 [.ref 0 0, .str {data:= #[116,121,112,101]}] [Xb m sig l e]=_:=zfz hm l e typ (by omega)
   refine⟨.grow, .inl rfl, ?_⟩
   rw[decide_eq_true h0,Zq,hT,if_pos h0,if_pos h0]
   rfl
  ·rw[decide_eq_false h0,Zn]
   rw[if_neg h0]at hm1
   simp only[if_neg h0]
   have hw:IntKind.i64.wrap ((d:Int)+1)=((d+1:Nat):Int):=zcx (by omega) (by omega)
   by_cases h1:k=1
   ·rw[if_pos h1]at hm1
    simp only[Bool.and_eq_true,decide_eq_true_eq]at hm1
    rw[decide_eq_true h1,Zq]
    simp only[if_pos h1]
    match xs,hm1.2,ih,hn,hd,hl with
    |[a,b],_,ih,hn,hd,hl=>
     simp only[Y0,Bool.and_eq_true]at hn
     simp only[ZG]at hd
     simp only[sizes]at hl
     have la:=za4 (sig:=sig) a d
     have lb:=za4 (sig:=sig) b (d+1)
     obtain⟨m1,hm1,w1⟩:=ih a (by simp) d .grow (l++[Xv 123]++[Y1 d]++[Xv 58]) e (.inl rfl) hn.2.1 (by omega) (by simp;omega)
     have hc:W.call 55 [.cptr none (.ref 0 0), .cptr none (.int d), .cptr (some 3) (.agg [.int k, .int h, .vec .plain (some 3) (Zl [a,b])])] [Xb .grow sig (l++[Xv 123]) e]=some (.ret (.tup []),[Xb m1 sig (l++[Xv 123]++[Y1 d]++[Xv 58]++words sig a d) (bif okW sig a d then e else 2)]):=by
      have hbd:=zdG (sig:=sig) (m:= .grow) (.inl rfl) (l++[Xv 123]) e (d:Int) (by omega) (by omega) (by simp;omega)
      have hmk:=zdF (sig:=sig) (m:= .grow) (.inl rfl) (l++[Xv 123]++[Y1 d]) e 58 (by simp;omega)
      have hmk':W.call 57 [V.ref 0 0,V.vec .plain none [V.str {data:= #[58]}]] [Xb .grow sig (l++[Xv 123]++[Y1 d]) e]=_:=hmk
      rw[Zd]at w1
      rw[C,zd6,hbd]
      show Za (W.call 57 [V.ref 0 0,V.vec .plain none [V.str {data:= #[58]}]] [Xb .grow sig (l++[Xv 123]++[Y1 d]) e]) _=_
      rw[hmk']
      have hg:ZW (Zl [a,b]) 0=enc a:=rfl
      have hq:(true&&decide ((0:Int)<((Zl [a,b]).length:Int)))=true:=rfl
      simp only[Zb,Zk,Ya,ZH,hq,Z6,hg,QX,w1]
      rfl
     have h2:=zdH hm l e 123 125 (g:=55) rfl hm1 hc (by omega) (by simp;omega)
     have h2':W.call 54 [V.ref 0 0,V.str {data:= #[123]},V.str {data:= #[125]},V.fn 55 [] [.cptr none (.ref 0 0), .cptr none (.int d), .cptr (some 3) (.agg [.int k, .int h, .vec .plain (some 3) (Zl [a,b])])]] [Xb m sig l e]=_:=h2
     obtain⟨m3,hm3,w3⟩:=ih b (by simp) (d+1) .grow (l++[Xv 123]++[Y1 d]++[Xv 58]++words sig a d++[Xv 125]) (bif okW sig a d then e else 2) (.inl rfl) hn.2.2.1 (by omega) (by simp;omega)
     refine⟨m3,hm3, ?_⟩
     rw[zq9,Zd]at w3
     simp only[wPi,zrH]
     have he:l++(Xv 123::Y1 ↑d::Xv 58::words sig a d++Xv 125::words sig b (d+1))=l++[Xv 123]++[Y1 d]++[Xv 58]++words sig a d++[Xv 125]++words sig b (d+1):=by simp
     rw[he,h2',hw]
     have hg:ZW (Zl [a,b]) 1=enc b:=rfl
     have hq:(true&&decide ((1:Int)<((Zl [a,b]).length:Int)))=true:=rfl
     simp only[Zb,Zk,Ya,ZH,hq,Z6,hg,QX,w3]
     rfl
   ·rw[decide_eq_false h1,Zn]
    rw[if_neg h1]at hm1
    simp only[if_neg h1]
    by_cases h3:k=3
    ·rw[if_pos h3]at hm1
     simp only[Bool.and_eq_true,decide_eq_true_eq]at hm1
     rw[decide_eq_true h3,Zq]
     simp only[if_pos h3]
     match xs,hm1.2,ih,hn,hd,hl with
     |[b],_,ih,hn,hd,hl=>
      simp only[Y0,Bool.and_eq_true]at hn
      simp only[ZG]at hd
      simp only[sizes]at hl
      have lb:=za4 (sig:=sig) b (d+1)
      have hc:W.call 58 [.cptr none (.ref 0 0), .cptr none (.int d)] [Xb .grow sig (l++[Xv 91]) e]=some (.ret (.tup []),[Xb .grow sig (l++[Xv 91]++[Y1 d]) e]):=by
       have hbd:=zdG (sig:=sig) (m:= .grow) (.inl rfl) (l++[Xv 91]) e (d:Int) (by omega) (by omega) (by simp;omega)
       rw[C,zd7,hbd]
       rfl
      have h2:=zdH hm l e 91 93 (g:=58) rfl (.inl rfl) hc (by omega) (by simp;omega)
      have h2':W.call 54 [V.ref 0 0,V.str {data:= #[91]},V.str {data:= #[93]},V.fn 58 [] [.cptr none (.ref 0 0), .cptr none (.int d)]] [Xb m sig l e]=_:=h2
      obtain⟨m3,hm3,w3⟩:=ih b (by simp) (d+1) .grow (l++[Xv 91]++[Y1 d]++[Xv 93]) e (.inl rfl) hn.2.1 (by omega) (by simp;omega)
      refine⟨m3,hm3, ?_⟩
      rw[Zd]at w3
      simp only[zmp,zkP]
      have he:l++(Xv 91::Y1 ↑d::Xv 93::words sig b (d+1))=l++[Xv 91]++[Y1 d]++[Xv 93]++words sig b (d+1):=by simp
      rw[he,h2',hw]
      have hg:ZW (Zl [b]) 0=enc b:=rfl
      have hq:(true&&decide ((0:Int)<((Zl [b]).length:Int)))=true:=rfl
      simp only[Zb,Zk,Ya,ZH,hq,Z6,hg,QX,w3]
      rfl
    ·rw[decide_eq_false h3,Zn]
     rw[if_neg h3]at hm1
     simp only[Bool.and_eq_true,decide_eq_true_eq]at hm1
     simp only[if_neg h3]
     obtain⟨m1,hm1',w1⟩:=zp9 hm hsig l e k h xs d hm1.2.2 (by omega) (by omega)
     have hlen:(YP sig k h d).toList.length≤1:=by cases YP sig k h d<;>simp
     have hxl:xs.length≤sizes xs:=Z0 xs
     obtain⟨m3,hm3,w3⟩:=zpA xs ih d hn.2 (by omega) (by omega) xs.length 0 (by omega) false m1 (l++(YP sig k h d).toList) (bif (YP sig k h d).isSome then e else 2) hm1' (by simp only[List.length_append,List.drop_zero];omega)
     refine⟨m3,hm3, ?_⟩
     rw[zq9,List.drop_zero]at w3
     simp only[cond_false]at w3
     rw[w1,←List.append_assoc]
     simp only[Zb,Zk,Ya,ZH,Zt]
     have w3':W.loop 25 4 [.int 0, .loc false none (.int d), .loc false none (.ref 0 0), .vec .plain (some 3) (Zl xs), .int (xs.length:Nat)] [Xb m1 sig (l++(YP sig k h d).toList) (bif (YP sig k h d).isSome then e else 2)]=some (.exit 1,[],[Xb m3 sig (l++(YP sig k h d).toList++YF sig xs d) (bif ((YP sig k h d).isSome&&Qm sig xs d)then e else 2)]):=w3
     rw[w3']
     rfl
end Go.Proofs.SZ
namespace Go.Proofs.SZ
open Go Go.AM
set_option maxRecDepth 20000
theorem zkh(O:Oracle)(l0:(List V)):Zf Tryz.prog cfg O 15 [.vec .plain none l0] []=
 Za (Zr O 27 [V.vec .plain none l0]) fun r1=>Z2 r1 fun c2=>Ze c2 fun v3 c4=>ZU (some 2) v3 fun l5=>Ze c4 fun v6 c7=>Zp v6 fun n8=>Zh
 c7 (Za (O.loop 15 3 [V.ref 0 0] [Res.box [V.vec .plain (some 2) l5,V.vec Mode.full (some 4) [],V.int n8]]) fun r9=>Xj r9.fst none none (fun i10=>bc (i10.beq
 0) (Ze r9.snd.fst fun v11 c12=>zcW v11 fun q13=>Zh c12 (Z4 r9.snd.snd q13 fun x14=>Z1 x14 fun c15=>gd (decide (3≤c15.length)&&true) (Zp (Zo
 (AM.partOf c15 2 none)) fun n16=>bc (n16 !=0) (Z4 r9.snd.snd q13 fun x17=>Z1 x17 fun c18=>gd (decide (3≤c18.length)&&true) (Zp (Zo (AM.partOf c18 2 none))
 fun n19=>some (Out.ret (V.tup [V.vec .plain (some 4) [],V.int n19]),[]))) (Z4 r9.snd.snd q13 fun x20=>Z1 x20 fun c21=>gd (decide (2≤c21.length)&&true) (ZU
 (some 4) (Zo (AM.partOf c21 1 none)) fun l22=>gd (below 0 (V.tup [V.vec .plain (some 4) l22,V.int 0])&&Zy 0 []) (some (Out.ret (V.tup [V.vec .plain (some 4) l22,
 V.int 0]),[]))))))) none) fun v23=>none):=by kernel_rfl
theorem JK(O:Oracle)(r0:Nat)(st:St):Z8 Tryz.prog cfg O 15 3 [.ref r0 0] st=
 Z4 st r0 fun x1=>Z1 x1 fun c2=>gd (decide (1≤c2.length)&&true) (ZU (some 2) (Zo (AM.partOf c2 0 none)) fun l3=>bc (decide ((↑l3.length:Int)>0)) (Z4 st
 r0 fun x4=>Z1 x4 fun c5=>gd (decide (3≤c5.length)&&true) (Zp (Zo (AM.partOf c5 2 none)) fun n6=>bc (n6==0) (Z4 st r0 fun x7=>Z1 x7 fun c8=>gd
 (decide (2≤c8.length)&&true) (ZU (some 4) (Zo (AM.partOf c8 1 none)) fun l9=>bc (decide ((↑l9.length:Int)≥40)) (Za (O.call 29 [V.ref r0 0,
 V.int 4] st) fun r10=>Zj r10.fst (fun v11=>Z2 v11 fun c12=>Zh c12 (some (Ex.exit 0,[V.ref r0 0],r10.snd))) fun p13=>none) (Za (O.call 35
 [V.ref r0 0] st) fun r14=>Zj r14.fst (fun v15=>Z2 v15 fun c16=>Zh c16 (O.2 15 3 [V.ref r0 0] r14.snd)) fun p17=>none))) (some (Ex.exit 0,[V.ref r0 0],
 st)))) (some (Ex.exit 0,[V.ref r0 0],st))):=by kernel_rfl
theorem zms(O:Oracle)(s0:ByteArray):Zf Tryz.prog cfg O 23 [.str s0] []=
 bc ((↑s0.size:Int)==0) (some (Out.ret (V.bool false),[])) (bc (decide ((↑s0.size:Int)>40)) (some (Out.ret (V.bool false),[])) (gd (true&&decide (0<(↑s0.size:Int)))
 (bc ((↑(s0.data.toList.getD (Int.toNat 0) 0).toNat:Int)==95) (some (Out.ret (V.bool false),[])) (bc (s0.toList==(ByteArray.toList {data:= #[116,121,112,101]})) (some
 (Out.ret (V.bool false),[])) (Za (Zr O 27 [V.vec .plain none (Xr s0)]) fun r1=>Z2 r1 fun c2=>Ze c2 fun v3 c4=>ZU (some 2) v3 fun l5=>Ze
 c4 fun v6 c7=>Zp v6 fun n8=>Zh c7 (bc (n8==0) (bc ((↑l5.length:Int)==1) (gd (true&&decide (0<(↑l5.length:Int))) (Zc [CT.int,CT.str] (ZW l5 0) fun n9
 s10=>some (Out.ret (V.bool (true&&n9==0&&s10.toList==s0.toList)),[]))) (some (Out.ret (V.bool false),[]))) (some (Out.ret (V.bool false),[])))))))):=by kernel_rfl
theorem ze0(O:Oracle)(l s:List V)(m:AM.Mode)(e n:Int):Zf Tryz.prog cfg O 29 [.ref 0 0, .int n] [.box [.vec .plain (some 2) l, .vec m (some 4) s, .int e]]=
 bc (e==0) (some (Out.ret (V.tup []),[Res.box [V.vec .plain (some 2) l,V.vec m (some 4) s,V.int n]])) (some (Out.ret (V.tup []),[Res.box [V.vec .plain (some 2) l,V.vec m
 (some 4) s,V.int e]])):=by kernel_rfl
theorem ze1(O:Oracle)(r0:Nat)(st:St):Zf Tryz.prog cfg O 35 [.ref r0 0] st=
 Za (O.call 71 [V.ref r0 0] st) fun r1=>Zj r1.fst (fun v2=>YU v2 fun s3=>Za (Zr O 23 [V.str s3]) fun r4=>Zm r4 fun b5=>bc
 (!b5) (Za (O.call 29 [V.ref r0 0,V.int 8] r1.snd) fun r6=>Zj r6.fst (fun v7=>Z2 v7 fun c8=>Zh c8 (Za (O.call 73 [V.ref r0
 0,V.str {data:= #[58]}] r6.snd) fun r9=>Zj r9.fst (fun v10=>Z2 v10 fun c11=>Zh c11 (Za (O.call 28 [V.ref r0 0] r9.snd) fun r12=>Zj
 r12.fst (fun v13=>Zc [CT.int,CT.int,CT.slice (some 3)] v13 fun n14 n15 l16=>Za (O.call 73 [V.ref r0 0,V.str {data:= #[46]}] r12.snd) fun r17=>
 Zj r17.fst (fun v18=>Z2 v18 fun c19=>Zh c19 (Z4 r17.snd r0 fun x20=>Z1 x20 fun c21=>gd (decide (1<c21.length)&&true&&true) (XS (some 4) (c21.getD
 1 V.undef) (fun l22=>gd (true&&roomFor Tryz.prog 46 (l22.length+[V.agg [V.str s3,V.int n14,V.int n15,V.vec .plain (some 3) l16]].length)) (Z4 (List.set
 r17.snd r0 (Res.box (c21.set 1 (V.vec .plain (some 4) l22)))) r0 fun x23=>Z1 x23 fun c24=>gd (decide (2≤c24.length)&&true) (Y6 (List.length st) (V.tup []) ((List.set
 r17.snd r0 (Res.box (c21.set 1 (V.vec .plain (some 4) l22)))).set r0 (Res.box (setCells c24 1 [V.vec Mode.grow (some 4) (l22++[V.agg [V.str s3,V.int n14,V.int n15,V.vec
 .plain (some 3) l16]])])))))) fun l25=>gd (true&&roomFor Tryz.prog 46 (l25.length+[V.agg [V.str s3,V.int n14,V.int n15,V.vec .plain (some 3) l16]].length))
 (Z4 (List.set r17.snd r0 (Res.box (c21.set 1 (V.vec .plain (some 4) l25)))) r0 fun x26=>Z1 x26 fun c27=>gd (decide (2≤c27.length)&&true) (Y6 (List.length st) (V.tup
 []) ((List.set r17.snd r0 (Res.box (c21.set 1 (V.vec .plain (some 4) l25)))).set r0 (Res.box (setCells c27 1 [V.vec Mode.grow (some 4) (l25++[V.agg [V.str s3,V.int n14,V.int
 n15,V.vec .plain (some 3) l16]])])))))))) fun p28=>none) fun p29=>none)) fun p30=>none)) fun p31=>none) (Z4 r1.snd r0 fun x32=>Z1 x32 fun c33=>gd (decide (2≤
 c33.length)&&true) (ZU (some 4) (Zo (AM.partOf c33 1 none)) fun l34=>Za (O.call 40 [V.vec .plain (some 4) l34,V.fn
 72 [] [V.cptr none (V.str s3)]] r1.snd) fun r35=>Zj r35.fst (fun v36=>Zm v36 fun b37=>bc b37 (Za (O.call 29 [V.ref r0 0,V.int
 8] r35.snd) fun r38=>Zj r38.fst (fun v39=>Z2 v39 fun c40=>Zh c40 (Za (O.call 73 [V.ref r0 0,V.str {data:= #[58]}] r38.snd) fun r41=>Zj
 r41.fst (fun v42=>Z2 v42 fun c43=>Zh c43 (Za (O.call 28 [V.ref r0 0] r41.snd) fun r44=>Zj r44.fst (fun v45=>Zc [CT.int,CT.int,
 CT.slice (some 3)] v45 fun n46 n47 l48=>Za (O.call 73 [V.ref r0 0,V.str {data:= #[46]}] r44.snd) fun r49=>Zj r49.fst (fun v50=>Z2 v50 fun c51
 =>Zh c51 (Z4 r49.snd r0 fun x52=>Z1 x52 fun c53=>gd (decide (1<c53.length)&&true&&true) (XS (some 4) (c53.getD 1 V.undef) (fun l54=>gd (true&&roomFor
 Tryz.prog 46 (l54.length+[V.agg [V.str s3,V.int n46,V.int n47,V.vec .plain (some 3) l48]].length)) (Z4 (List.set r49.snd r0 (Res.box (c53.set 1 (V.vec .plain
 (some 4) l54)))) r0 fun x55=>Z1 x55 fun c56=>gd (decide (2≤c56.length)&&true) (Y6 (List.length st) (V.tup []) ((List.set r49.snd r0 (Res.box (c53.set 1 (V.vec .plain
 (some 4) l54)))).set r0 (Res.box (setCells c56 1 [V.vec Mode.grow (some 4) (l54++[V.agg [V.str s3,V.int n46,V.int n47,V.vec .plain (some 3) l48]])])))))) fun l57=>gd (true
 &&roomFor Tryz.prog 46 (l57.length+[V.agg [V.str s3,V.int n46,V.int n47,V.vec .plain (some 3) l48]].length)) (Z4 (List.set r49.snd r0 (Res.box (c53.set 1 (V.vec
 .plain (some 4) l57)))) r0 fun x58=>Z1 x58 fun c59=>gd (decide (2≤c59.length)&&true) (Y6 (List.length st) (V.tup []) ((List.set r49.snd r0 (Res.box (c53.set 1 (V.vec
 .plain (some 4) l57)))).set r0 (Res.box (setCells c59 1 [V.vec Mode.grow (some 4) (l57++[V.agg [V.str s3,V.int n46,V.int n47,V.vec .plain (some 3) l48]])])))))))) fun p60=>
 none) fun p61=>none)) fun p62=>none)) fun p63=>none) (Za (O.call 73 [V.ref r0 0,V.str {data:= #[58]}] r35.snd) fun r64=>Zj r64.fst (fun v65=>
 Z2 v65 fun c66=>Zh c66 (Za (O.call 28 [V.ref r0 0] r64.snd) fun r67=>Zj r67.fst (fun v68=>Zc [CT.int,CT.int,CT.slice (some 3)] v68 fun
 n69 n70 l71=>Za (O.call 73 [V.ref r0 0,V.str {data:= #[46]}] r67.snd) fun r72=>Zj r72.fst (fun v73=>Z2 v73 fun c74=>Zh c74 (Z4 r72.snd
 r0 fun x75=>Z1 x75 fun c76=>gd (decide (1<c76.length)&&true&&true) (XS (some 4) (c76.getD 1 V.undef) (fun l77=>gd (true&&roomFor Tryz.prog 46
 (l77.length+[V.agg [V.str s3,V.int n69,V.int n70,V.vec .plain (some 3) l71]].length)) (Z4 (List.set r72.snd r0 (Res.box (c76.set 1 (V.vec .plain (some 4) l77)))) r0 fun x78
 =>Z1 x78 fun c79=>gd (decide (2≤c79.length)&&true) (Y6 (List.length st) (V.tup []) ((List.set r72.snd r0 (Res.box (c76.set 1 (V.vec .plain (some 4) l77)))).set r0
 (Res.box (setCells c79 1 [V.vec Mode.grow (some 4) (l77++[V.agg [V.str s3,V.int n69,V.int n70,V.vec .plain (some 3) l71]])])))))) fun l80=>gd (true&&roomFor Tryz.prog
 46 (l80.length+[V.agg [V.str s3,V.int n69,V.int n70,V.vec .plain (some 3) l71]].length)) (Z4 (List.set r72.snd r0 (Res.box (c76.set 1 (V.vec .plain (some 4)
 l80)))) r0 fun x81=>Z1 x81 fun c82=>gd (decide (2≤c82.length)&&true) (Y6 (List.length st) (V.tup []) ((List.set r72.snd r0 (Res.box (c76.set 1 (V.vec .plain (some 4)
 l80)))).set r0 (Res.box (setCells c82 1 [V.vec Mode.grow (some 4) (l80++[V.agg [V.str s3,V.int n69,V.int n70,V.vec .plain (some 3) l71]])])))))))) fun p83=>none) fun p84=>
 none)) fun p85=>none)) fun p86=>none))) fun p87=>none:=by kernel_rfl
theorem zdI(O:Oracle)(r0:Nat)(st:St):Zf Tryz.prog cfg O 28 [.ref r0 0] st=
 Za (O.call 67 [V.ref r0 0,V.vec .plain none [],V.int 1] st) fun r1=>Zj r1.fst (fun v2=>Zc [CT.int,CT.int,CT.slice (some 3)] v2 fun n3 n4 l5=>
 Za (Zr O 24 [V.agg [V.int n3,V.int n4,V.vec .plain (some 3) l5]]) fun r6=>Zm r6 fun b7=>bc (!b7) (Za (O.call 29 [V.ref r0 0,V.int 4]
 r1.snd) fun r8=>Zj r8.fst (fun v9=>Z2 v9 fun c10=>Zh c10 (Y6 (List.length st) (V.agg [V.int n3,V.int n4,V.vec .plain (some 3) l5]) r8.snd)) fun p11=>none) (Y6
 (List.length st) (V.agg [V.int n3,V.int n4,V.vec .plain (some 3) l5]) r1.snd)) fun p12=>none:=by kernel_rfl
theorem ze2(O:Oracle)(r0:Nat)(st:St):Zf Tryz.prog cfg O 71 [.ref r0 0] st=
 Za (O.call 91 [V.ref r0 0] st) fun r1=>Zj r1.fst (fun v2=>Zm v2 fun b3=>Za (O.call 90 [V.ref r0 0,V.bool b3] r1.snd) fun r4
 =>Zj r4.fst (fun v5=>YU v5 fun s6=>Y6 (List.length st) (V.str s6) r4.snd) fun p7=>none) fun p8=>none:=by kernel_rfl
theorem zcQ(O:Oracle)(s t:ByteArray)(n1:Int)(n2:Int)(l3:(List V))(st:St):Zf Tryz.prog cfg O 72 [.agg [.str t, .int n1, .int n2, .vec .plain (some 3) l3], .cptr none (.str s)] st=
 Y6 (List.length st) (V.bool (t.toList==s.toList)) st:=by kernel_rfl
theorem ze3(O:Oracle)(r0:Nat)(s1:ByteArray)(st:St):Zf Tryz.prog cfg O 73 [.ref r0 0, .str s1] st=
 Za (O.call 85 [V.ref r0 0,V.str s1] st) fun r1=>Zj r1.fst (fun v2=>Zm v2 fun b3=>Za (O.call 90 [V.ref r0 0,V.bool b3] r1.snd)
 fun r4=>Zj r4.fst (fun v5=>YU v5 fun s6=>Y6 (List.length st) (V.tup []) r4.snd) fun p7=>none) fun p8=>none:=by kernel_rfl
theorem zag(O:Oracle)(r0:Nat)(l1:(List V))(n2:Int)(st:St):Zf Tryz.prog cfg O 67 [.ref r0 0, .vec .plain none l1, .int n2] st=
 bc (decide (n2>120)) (Za (O.call 29 [V.ref r0 0,V.int 4] st) fun r1=>Zj r1.fst (fun v2=>Z2 v2 fun c3=>Zh c3 (Y6 (List.length st) (V.agg
 [V.int 0,V.int 0,V.vec .plain (some 3) []]) r1.snd)) fun p4=>none) (Za (O.call 85 [V.ref r0 0,V.str {data:= #[123]}] st) fun r5=>Zj r5.fst (fun v6
 =>Zm v6 fun b7=>bc b7 (Za (O.call 73 [V.ref r0 0,V.str {data:= #[123]}] r5.snd) fun r8=>Zj r8.fst (fun v9=>Z2 v9 fun c10=>Zh c10
 (Za (O.call 71 [V.ref r0 0] r8.snd) fun r11=>Zj r11.fst (fun v12=>YU v12 fun s13=>Za (O.call 73 [V.ref r0 0,V.str {data:=
 #[58]}] r11.snd) fun r14=>Zj r14.fst (fun v15=>Z2 v15 fun c16=>Zh c16 (Za (O.call 67 [V.ref r0 0,V.vec .plain none l1,V.int (IntKind.i64.wrap
 (n2+1))] r14.snd) fun r17=>Zj r17.fst (fun v18=>Zc [CT.int,CT.int,CT.slice (some 3)] v18 fun n19 n20 l21=>Za (O.call 73 [V.ref r0 0,V.str {
 data:= #[125]}] r17.snd) fun r22=>Zj r22.fst (fun v23=>Z2 v23 fun c24=>Zh c24 (Za (O.call 86 [V.ref r0 0,V.str s13,V.vec .plain none l1,
 V.int n2] r22.snd) fun r25=>Zj r25.fst (fun v26=>Zc [CT.int,CT.int,CT.slice (some 3)] v26 fun n27 n28 l29=>Y6 (List.length st) (V.agg [V.int 1,V.int 0,V.vec
 .plain (some 3) [V.agg [V.int n19,V.int n20,V.vec .plain (some 3) l21],V.agg [V.int n27,V.int n28,V.vec .plain (some 3) l29]]]) r25.snd) fun p30=>none)) fun p31=>none)
 fun p32=>none)) fun p33=>none) fun p34=>none)) fun p35=>none) (Za (O.call 85 [V.ref r0 0,V.str {data:= #[91]}] r5.snd) fun r36=>Zj r36.fst (fun
 v37=>Zm v37 fun b38=>bc b38 (Za (O.call 73 [V.ref r0 0,V.str {data:= #[91]}] r36.snd) fun r39=>Zj r39.fst (fun v40=>Z2 v40 fun c41=>
 Zh c41 (Za (O.call 71 [V.ref r0 0] r39.snd) fun r42=>Zj r42.fst (fun v43=>YU v43 fun s44=>Za (O.call 73 [V.ref r0 0,V.str {
 data:= #[93]}] r42.snd) fun r45=>Zj r45.fst (fun v46=>Z2 v46 fun c47=>Zh c47 (Za (O.call 86 [V.ref r0 0,V.str s44,V.vec .plain none l1,
 V.int n2] r45.snd) fun r48=>Zj r48.fst (fun v49=>Zc [CT.int,CT.int,CT.slice (some 3)] v49 fun n50 n51 l52=>Y6 (List.length st) (V.agg [V.int 3,V.int 0,V.vec
 .plain (some 3) [V.agg [V.int n50,V.int n51,V.vec .plain (some 3) l52]]]) r48.snd) fun p53=>none)) fun p54=>none) fun p55=>none)) fun p56=>none) (Za (O.call
 87 [V.ref r0 0,V.vec .plain none l1,V.int n2] r36.snd) fun r57=>Zj r57.fst (fun v58=>Zc [CT.int,CT.int,CT.slice (some 3)] v58 fun n59 n60 l61=>
 Y6 (List.length st) (V.agg [V.int n59,V.int n60,V.vec .plain (some 3) l61]) r57.snd) fun p62=>none)) fun p63=>none)) fun p64=>none):=by kernel_rfl
theorem zdJ(O:Oracle)(l s:List V)(m:AM.Mode)(e:Int)(b:Bool):Zf Tryz.prog cfg O 90 [.ref 0 0, .bool b] [.box [.vec .plain (some 2) l, .vec m (some 4) s, .int e]]=
 bc (!b) (Za (O.call 29 [V.ref 0 0,V.int 8] [Res.box [V.vec .plain (some 2) l,V.vec m (some 4) s,V.int e]]) fun r1=>Zj r1.fst (fun v2=>Z2 v2 fun c3
 =>Zh c3 (Y6 [Res.box [V.vec .plain (some 2) l,V.vec m (some 4) s,V.int e]].length (V.str {data:= #[]}) r1.snd)) fun p4=>none) (gd (true&&decide (0<(↑l.length:
 Int))) (Y3 (ZW l 0) fun c5=>gd (decide (2≤c5.length)) (YU (AM.partOf c5 1 none) fun s6=>gd (true&&decide (1≤(↑l.length:Int))&&decide ((↑l.length:Int)≤
 (↑l.length:Int))) (some (Out.ret (V.str s6),[Res.box [V.vec .plain (some 2) (List.drop 1 (List.take (↑l.length:Int).toNat l)),V.vec m (some 4) s,V.int e]]))))):=by kernel_rfl
theorem zdK(O:Oracle)(l s:List V)(m:AM.Mode)(e:Int):Zf Tryz.prog cfg O 91 [.ref 0 0] [.box [.vec .plain (some 2) l, .vec m (some 4) s, .int e]]=
 bc (e==0) (bc (decide ((↑l.length:Int)>0)) (gd (true&&decide (0<(↑l.length:Int))) (Y3 (ZW l 0) fun c1=>gd (decide (1≤c1.length)) (Zp (AM.partOf c1 0 none)
 fun n2=>some (Out.ret (V.bool (n2==0)),[Res.box [V.vec .plain (some 2) l,V.vec m (some 4) s,V.int e]])))) (some (Out.ret (V.bool false),[Res.box [V.vec .plain (some 2) l,
 V.vec m (some 4) s,V.int e]]))) (some (Out.ret (V.bool false),[Res.box [V.vec .plain (some 2) l,V.vec m (some 4) s,V.int e]])):=by kernel_rfl
theorem zgo(O:Oracle)(l s:List V)(m:AM.Mode)(e:Int)(t:ByteArray):Zf Tryz.prog cfg O 85 [.ref 0 0, .str t] [.box [.vec .plain (some 2) l, .vec m (some 4) s, .int e]]=
 bc (e==0) (bc (decide ((↑l.length:Int)>0)) (gd (true&&decide (0<(↑l.length:Int))) (Zc [CT.int,CT.str] (ZW l 0) fun n1 s2=>some (Out.ret (V.bool (true&&n1
 ==1&&s2.toList==t.toList)),[Res.box [V.vec .plain (some 2) l,V.vec m (some 4) s,V.int e]]))) (some (Out.ret (V.bool false),[Res.box [V.vec .plain (some 2) l,V.vec m
 (some 4) s,V.int e]]))) (some (Out.ret (V.bool false),[Res.box [V.vec .plain (some 2) l,V.vec m (some 4) s,V.int e]])):=by kernel_rfl
theorem zdL(O:Oracle)(r0:Nat)(s1:ByteArray)(l2:(List V))(n3:Int)(st:St):Zf Tryz.prog cfg O 86 [.ref r0 0, .str s1, .vec .plain none l2, .int n3] st=
 gd (true&&decide (0≤(↑l2.length:Int))&&decide ((↑l2.length:Int)≤(↑l2.length:Int))) (gd (decide ((↑l2.length:Int)=(↑l2.length:Int))&&(some (V.int (↑l2.length
 :Int))).isSome) (gd (true&&roomFor Tryz.prog 9 ((List.drop 0 (List.take (↑l2.length:Int).toNat l2)).length+[V.str s1].length)) (Za (O.call 67
 [V.ref r0 0,V.vec .plain none (List.drop 0 (List.take (↑l2.length:Int).toNat l2)++[V.str s1]),V.int (IntKind.i64.wrap (n3+1))] st) fun r1=>Zj r1.fst (fun v2=>
 Zc [CT.int,CT.int,CT.slice (some 3)] v2 fun n3 n4 l5=>Y6 (List.length st) (V.agg [V.int n3,V.int n4,V.vec .plain (some 3) l5]) r1.snd) fun p6=>none))):=by kernel_rfl
theorem zdM(O:Oracle)(r0:Nat)(l1:(List V))(n2:Int)(st:St):Zf Tryz.prog cfg O 87 [.ref r0 0, .vec .plain none l1, .int n2] st=
 Za (O.call 85 [V.ref r0 0,V.str {data:= #[40]}] st) fun r1=>Zj r1.fst (fun v2=>Zm v2 fun b3=>bc b3 (Za (O.call 108 [V.ref r0
 0,V.vec .plain none l1,V.int n2] r1.snd) fun r4=>Zj r4.fst (fun v5=>Zc [CT.int,CT.int,CT.slice (some 3)] v5 fun n6 n7 l8=>Za (O.call 107
 [V.ref r0 0,V.agg [V.int n6,V.int n7,V.vec .plain (some 3) l8]] r4.snd) fun r9=>Zj r9.fst (fun v10=>Zc [CT.int,CT.int,CT.slice (some 3)] v10 fun n11 n12 l13=>
 Y6 (List.length st) (V.agg [V.int n11,V.int n12,V.vec .plain (some 3) l13]) r9.snd) fun p14=>none) fun p15=>none) (Za (O.call 71 [V.ref r0 0] r1.snd)
 fun r16=>Zj r16.fst (fun v17=>YU v17 fun s18=>Z4 r16.snd r0 fun x19=>Z1 x19 fun c20=>gd (decide (3≤c20.length)&&true) (Zp (Zo (AM.partOf c20 2
 none)) fun n21=>bc (n21 !=0) (Y6 (List.length st) (V.agg [V.int 0,V.int 0,V.vec .plain (some 3) []]) r16.snd) (bc (s18.toList==(ByteArray.toList {data:= #[116,121,112,
 101]})) (Za (O.call 107 [V.ref r0 0,V.agg [V.int 0,V.int 0,V.vec .plain (some 3) []]] r16.snd) fun r22=>Zj r22.fst (fun v23=>Zc [CT.int,
 CT.int,CT.slice (some 3)] v23 fun n24 n25 l26=>Y6 (List.length st) (V.agg [V.int n24,V.int n25,V.vec .plain (some 3) l26]) r22.snd) fun p27=>none) (Za (O.call
 109 [V.ref r0 0,V.str s18,V.vec .plain none l1] r16.snd) fun r28=>Zj r28.fst (fun v29=>Zc [CT.int,CT.int,CT.nil (some 3)] v29 fun n30 n31=>Za
 (O.loop 87 9 [V.loc true (some 3) (V.agg [V.int n30,V.int n31,V.vec Mode.grow (some 3) []]),V.int n2,V.vec .plain none l1,V.ref r0 0,V.loc true (some 3)
 (V.agg [V.int 0,V.int 0,V.vec Mode.full (some 3) []])] r28.snd) fun r32=>Xj r32.fst none none (fun i33=>bc (i33.beq 1) (Ze r32.snd.fst fun v34 c35=>YN (some 3)
 v34 fun d36 v37=>Ze c35 fun v38 c39=>YN (some 3) v38 fun d40 v41=>Y3 v41 fun c42=>Ze c42 fun v43 c44=>Zp v43 fun n45=>Ze c44 fun v46 c47=>Zp
 v46 fun n48=>Ze c47 fun v49 c50=>Xc (some 3) v49 fun l51=>Zh c50 (Zh c39 (Y6 (List.length st) (V.agg [V.int n45,V.int n48,V.vec .plain (some 3) l51])
 r32.snd.snd))) none) fun v52=>none) fun p53=>none)))) fun p54=>none)) fun p55=>none:=by kernel_rfl
theorem Jk(O:Oracle)(n0:Int)(n1:Int)(l2:(List V))(n3:Int)(l4:(List V))(r5:Nat)(v6:V)(st:St):Z8 Tryz.prog cfg O 87 9 [.loc true (some 3) (.agg [.int n0, .int n1, .vec .grow (some 3) l2]), .int n3, .vec .plain none l4, .ref r5 0, .loc true (some 3) v6] st=
 Za (O.call 91 [V.ref r5 0] st) fun r1=>Zj r1.fst (fun v2=>Zm v2 fun b3=>bc b3 (Za (O.call 110 [V.ref r5 0,V.vec .plain none
 l4,V.int n3] r1.snd) fun r4=>Zj r4.fst (fun v5=>Zc [CT.int,CT.int,CT.slice (some 3)] v5 fun n6 n7 l8=>gd (true&&roomFor Tryz.prog 25 (l2.length+
 [V.agg [V.int n6,V.int n7,V.vec .plain (some 3) l8]].length)) (O.2 87 9 [V.loc true (some 3) (V.agg [V.int n0,V.int n1,V.vec Mode.grow (some 3) (l2++[V.agg
 [V.int n6,V.int n7,V.vec .plain (some 3) l8]])]),V.int n3,V.vec .plain none l4,V.ref r5 0,V.loc true (some 3) v6] r4.snd)) fun p9=>none) (Za (O.call 85
 [V.ref r5 0,V.str {data:= #[40]}] r1.snd) fun r10=>Zj r10.fst (fun v11=>Zm v11 fun b12=>bc b12 (Za (O.call 110 [V.ref r5 0,V.vec .plain none
 l4,V.int n3] r10.snd) fun r13=>Zj r13.fst (fun v14=>Zc [CT.int,CT.int,CT.slice (some 3)] v14 fun n15 n16 l17=>gd (true&&roomFor Tryz.prog 25
 (l2.length+[V.agg [V.int n15,V.int n16,V.vec .plain (some 3) l17]].length)) (O.2 87 9 [V.loc true (some 3) (V.agg [V.int n0,V.int n1,V.vec Mode.grow (some
 3) (l2++[V.agg [V.int n15,V.int n16,V.vec .plain (some 3) l17]])]),V.int n3,V.vec .plain none l4,V.ref r5 0,V.loc true (some 3) v6] r13.snd)) fun p18=>none) (some
 (Ex.exit 1,[V.loc true (some 3) v6,V.loc true (some 3) (V.agg [V.int n0,V.int n1,V.vec Mode.grow (some 3) l2])],r10.snd))) fun p19=>none)) fun p20=>none:=by kernel_rfl
theorem zdN(O:Oracle)(r0:Nat)(n1:Int)(n2:Int)(l3:(List V))(st:St):Zf Tryz.prog cfg O 107 [.ref r0 0, .agg [.int n1, .int n2, .vec .plain (some 3) l3]] st=
 Za (O.call 91 [V.ref r0 0] st) fun r1=>Zj r1.fst (fun v2=>Zm v2 fun b3=>bc b3 (Za (O.call 29 [V.ref r0 0,V.int 8] r1.snd)
 fun r4=>Zj r4.fst (fun v5=>Z2 v5 fun c6=>Zh c6 (Y6 (List.length st) (V.agg [V.int n1,V.int n2,V.vec .plain (some 3) l3]) r4.snd)) fun p7=>none) (Za (O.call
 85 [V.ref r0 0,V.str {data:= #[40]}] r1.snd) fun r8=>Zj r8.fst (fun v9=>Zm v9 fun b10=>bc b10 (Za (O.call 29 [V.ref r0 0,V.int
 8] r8.snd) fun r11=>Zj r11.fst (fun v12=>Z2 v12 fun c13=>Zh c13 (Y6 (List.length st) (V.agg [V.int n1,V.int n2,V.vec .plain (some 3) l3]) r11.snd)) fun p14=>
 none) (Y6 (List.length st) (V.agg [V.int n1,V.int n2,V.vec .plain (some 3) l3]) r8.snd)) fun p15=>none)) fun p16=>none:=by kernel_rfl
theorem zdO(O:Oracle)(r0:Nat)(l1:(List V))(n2:Int)(st:St):Zf Tryz.prog cfg O 108 [.ref r0 0, .vec .plain none l1, .int n2] st=
 Za (O.call 73 [V.ref r0 0,V.str {data:= #[40]}] st) fun r1=>Zj r1.fst (fun v2=>Z2 v2 fun c3=>Zh c3 (Za (O.call 67 [V.ref
 r0 0,V.vec .plain none l1,V.int (IntKind.i64.wrap (n2+1))] r1.snd) fun r4=>Zj r4.fst (fun v5=>Zc [CT.int,CT.int,CT.slice (some 3)] v5 fun n6 n7 l8=>Za
 (O.call 73 [V.ref r0 0,V.str {data:= #[41]}] r4.snd) fun r9=>Zj r9.fst (fun v10=>Z2 v10 fun c11=>Zh c11 (Y6 (List.length st) (V.agg [V.int n6,
 V.int n7,V.vec .plain (some 3) l8]) r9.snd)) fun p12=>none) fun p13=>none)) fun p14=>none:=by kernel_rfl
theorem ze4(O:Oracle)(l s:List V)(m:AM.Mode)(e:Int)(t:ByteArray)(bs:List V):Zf Tryz.prog cfg O 109 [.ref 0 0, .str t, .vec .plain none bs] [.box [.vec .plain (some 2) l, .vec m (some 4) s, .int e]]=
 Za (O.loop 109 2 [V.loc true (some 3) (V.agg [V.int 0,V.int 0,V.vec Mode.full (some 3) []]),V.int 0,V.loc false none (V.str t),V.vec .plain none bs,V.ref
 0 0,V.int (↑bs.length:Int)] [Res.box [V.vec .plain (some 2) l,V.vec m (some 4) s,V.int e]]) fun r1=>Xj r1.fst none (Ze r1.snd.fst fun v2 c3=>YN (some 3) v2 fun
 d4 v5=>Zh c3 (Y6 [Res.box [V.vec .plain (some 2) l,V.vec m (some 4) s,V.int e]].length (zil v5) r1.snd.snd)) (fun i6=>bc (i6.beq 0) (Ze r1.snd.fst fun v7 c8=>
 YN (some 3) v7 fun d9 v10=>Ze c8 fun v11 c12=>zcW v11 fun q13=>Ze c12 fun v14 c15=>YN none v14 fun d16 v17=>YU (bif d16 then Zo v17 else v17) fun
 s18=>Zh c15 (Z4 r1.snd.snd q13 fun x19=>Z1 x19 fun c20=>gd (decide (2≤c20.length)&&true) (ZU (some 4) (Zo (AM.partOf c20 1 none)) fun l21=>Za (O.call
 75 [V.vec .plain (some 4) l21,V.fn 123 [] [V.cptr none (V.str s18)]] r1.snd.snd) fun r22=>Zj r22.fst (fun v23=>Zp
 v23 fun n24=>bc (decide (n24<0)) (Za (O.call 29 [V.ref q13 0,V.int 2] r22.snd) fun r25=>Zj r25.fst (fun v26=>Z2 v26 fun c27=>Zh c27 (Y6
 [Res.box [V.vec .plain (some 2) l,V.vec m (some 4) s,V.int e]].length (V.agg [V.int 0,V.int 0,V.vec Mode.full (some 3) []]) r25.snd)) fun p28=>none) (Z4 r22.snd q13 fun
 x29=>Z1 x29 fun c30=>gd (decide (2≤c30.length)&&true) (ZU (some 4) (Zo (AM.partOf c30 1 none)) fun l31=>gd (decide (0≤n24)&&decide (n24<(↑l31.length:
 Int))) (Y3 (ZW l31 n24) fun c32=>gd (decide (4≤c32.length)) (onCells [CT.int,CT.int,CT.slice (some 3)] (List.take 3 (List.drop 1 c32)) fun n33 n34 l35=>Za (Zr O
 32 [V.agg [V.int n33,V.int n34,V.vec .plain (some 3) l35]]) fun r36=>Zm r36 fun b37=>bc b37 (Y6 [Res.box [V.vec .plain (some 2) l,V.vec m (some 4) s,V.int
 e]].length (V.agg [V.int 2,V.int n24,V.vec Mode.full (some 3) []]) r22.snd) (Y6 [Res.box [V.vec .plain (some 2) l,V.vec m (some 4) s,V.int e]].length (V.agg [V.int 5,V.int
 n24,V.vec Mode.full (some 3) []]) r22.snd)))))) fun p38=>none))) none) fun v39=>none:=by kernel_rfl
theorem J0(O:Oracle)(v0:V)(n1:Int)(s2:ByteArray)(l3:(List V))(r4:Nat)(n5:Int)(st:St):Z8 Tryz.prog cfg O 109 2 [.loc true (some 3) v0, .int n1, .loc false none (.str s2), .vec .plain none l3, .ref r4 0, .int n5] st=
 bc (decide (n1<n5)) (gd (decide (0≤IntKind.i64.wrap (IntKind.i64.wrap ((↑l3.length:Int)-1)-n1))&&decide (IntKind.i64.wrap (IntKind.i64.wrap ((↑l3.length:Int)-1)-
 n1)<(↑l3.length:Int))) (YU (ZW l3 (IntKind.i64.wrap (IntKind.i64.wrap ((↑l3.length:Int)-1)-n1))) fun s1=>bc (s1.toList==s2.toList) (some (Ex.ret,[V.loc false
 (some 3) (V.agg [V.int 4,V.int n1,V.vec Mode.full (some 3) []])],st)) (O.2 109 2 [V.loc true (some 3) v0,V.int (IntKind.i64.wrap (n1+1)),V.loc false none
 (V.str s2),V.vec .plain none l3,V.ref r4 0,V.int n5] st))) (some (Ex.exit 0,[V.loc true (some 3) v0,V.ref r4 0,V.loc false none (V.str s2)],st)):=by kernel_rfl
theorem ze5(O:Oracle)(r0:Nat)(l1:(List V))(n2:Int)(st:St):Zf Tryz.prog cfg O 110 [.ref r0 0, .vec .plain none l1, .int n2] st=
 Za (O.call 85 [V.ref r0 0,V.str {data:= #[40]}] st) fun r1=>Zj r1.fst (fun v2=>Zm v2 fun b3=>bc b3 (Za (O.call 108 [V.ref r0
 0,V.vec .plain none l1,V.int n2] r1.snd) fun r4=>Zj r4.fst (fun v5=>Zc [CT.int,CT.int,CT.slice (some 3)] v5 fun n6 n7 l8=>Y6 (List.length st) (V.agg [V.int n6,
 V.int n7,V.vec .plain (some 3) l8]) r4.snd) fun p9=>none) (Za (O.call 71 [V.ref r0 0] r1.snd) fun r10=>Zj r10.fst (fun v11=>YU v11 fun s12=>bc
 (s12.toList==(ByteArray.toList {data:= #[116,121,112,101]})) (Za (O.call 29 [V.ref r0 0,V.int 8] r10.snd) fun r13=>Zj r13.fst (fun v14=>Z2
 v14 fun c15=>Zh c15 (Y6 (List.length st) (V.agg [V.int 0,V.int 0,V.vec .plain (some 3) []]) r13.snd)) fun p16=>none) (Za (O.call 109 [V.ref r0 0,
 V.str s12,V.vec .plain none l1] r10.snd) fun r17=>Zj r17.fst (fun v18=>Zc [CT.int,CT.int,CT.slice (some 3)] (Zo v18) fun n19 n20 l21=>Y6 (List.length st)
 (V.agg [V.int n19,V.int n20,V.vec .plain (some 3) l21]) r17.snd) fun p22=>none)) fun p23=>none)) fun p24=>none:=by kernel_rfl
theorem zcR(O:Oracle)(s t:ByteArray)(n1:Int)(n2:Int)(l3:(List V))(st:St):Zf Tryz.prog cfg O 123 [.agg [.str t, .int n1, .int n2, .vec .plain (some 3) l3], .cptr none (.str s)] st=
 Y6 (List.length st) (V.bool (t.toList==s.toList)) st:=by kernel_rfl
end Go.Proofs.SZ
namespace Go.Proofs.SZ
open Go Go.AM
set_option maxRecDepth 20000
theorem YV(O:Oracle)(l0:(List V))(g1:Nat)(l2:(List V))(l3:(List V))(st:St):Zf Tryz.prog cfg O 40 [.vec .plain (some 4) l0, .fn g1 l2 l3] st=
 Za (O.call 75 [V.vec .plain (some 4) l0,V.fn g1 l2 l3] st) fun r1=>Zj r1.fst (fun v2=>Zp v2 fun n3=>Y6 (List.length st) (V.bool
 (decide (n3≥0))) r1.snd) fun p4=>none:=by kernel_rfl
theorem Qq(O:Oracle)(l0:(List V))(g1:Nat)(l2:(List V))(l3:(List V))(st:St):Zf Tryz.prog cfg O 38 [.vec .plain (some 3) l0, .fn g1 l2 l3] st=
 Za (O.call 74 [V.vec .plain (some 3) l0,V.fn g1 l2 l3] st) fun r1=>Zj r1.fst (fun v2=>Zp v2 fun n3=>Y6 (List.length st) (V.bool
 (decide (n3≥0))) r1.snd) fun p4=>none:=by kernel_rfl
theorem Xl(O:Oracle)(l0:(List V))(g1:Nat)(l2:(List V))(l3:(List V))(st:St):Zf Tryz.prog cfg O 75 [.vec .plain (some 4) l0, .fn g1 l2 l3] st=
 Za (O.loop 75 2 [V.int 0,V.vec .plain (some 4) l0,V.fn g1 l2 l3,V.int (↑l0.length:Int)] st) fun r1=>Xj r1.fst none (Ze r1.snd.fst
 fun v2 c3=>Zp v2 fun n4=>Zh c3 (Y6 (List.length st) (V.int n4) r1.snd.snd)) (fun i5=>bc (i5.beq 0) (Zh r1.snd.fst (Y6 (List.length st) (V.int (-1)) r1.snd.snd))
 none) fun v6=>none:=by kernel_rfl
theorem ZY(O:Oracle)(n0:Int)(l1:(List V))(g2:Nat)(l3:(List V))(l4:(List V))(n5:Int)(st:St):Z8 Tryz.prog cfg O 75 2 [.int n0, .vec .plain (some 4) l1, .fn g2 l3 l4, .int n5] st=
 bc (decide (n0<n5)) (gd (decide (0≤n0)&&decide (n0<(↑l1.length:Int))) (Zc [CT.str,CT.int,CT.int,CT.slice (some 3)] (ZW l1 n0) fun s1 n2 n3 l4_1=>bc
 (cfg.pure g2) (Za (Zr O g2 (l3++[V.agg [V.str s1,V.int n2,V.int n3,V.vec .plain (some 3) l4_1]]++l4)) fun r5=>Zm r5 fun b6=>bc b6 (some (Ex.ret,[V.int n0],
 st)) (O.2 75 2 [V.int (IntKind.i64.wrap (n0+1)),V.vec .plain (some 4) l1,V.fn g2 l3 l4,V.int n5] st)) (Za (O.call g2 (l3++[V.agg [V.str
 s1,V.int n2,V.int n3,V.vec .plain (some 3) l4_1]]++l4) st) fun r7=>Zj r7.fst (fun v8=>Zm v8 fun b9=>bc b9 (some (Ex.ret,[V.int n0],r7.snd)) (O.2
 75 2 [V.int (IntKind.i64.wrap (n0+1)),V.vec .plain (some 4) l1,V.fn g2 l3 l4,V.int n5] r7.snd)) fun p10=>none))) (some (Ex.exit 0,[],
 st)):=by kernel_rfl
theorem QH(O:Oracle)(l0:(List V))(g1:Nat)(l2:(List V))(l3:(List V))(st:St):Zf Tryz.prog cfg O 74 [.vec .plain (some 3) l0, .fn g1 l2 l3] st=
 Za (O.loop 74 2 [V.int 0,V.vec .plain (some 3) l0,V.fn g1 l2 l3,V.int (↑l0.length:Int)] st) fun r1=>Xj r1.fst none (Ze r1.snd.fst
 fun v2 c3=>Zp v2 fun n4=>Zh c3 (Y6 (List.length st) (V.int n4) r1.snd.snd)) (fun i5=>bc (i5.beq 0) (Zh r1.snd.fst (Y6 (List.length st) (V.int (-1)) r1.snd.snd))
 none) fun v6=>none:=by kernel_rfl
theorem YW(O:Oracle)(n0:Int)(l1:(List V))(g2:Nat)(l3:(List V))(l4:(List V))(n5:Int)(st:St):Z8 Tryz.prog cfg O 74 2 [.int n0, .vec .plain (some 3) l1, .fn g2 l3 l4, .int n5] st=
 bc (decide (n0<n5)) (gd (decide (0≤n0)&&decide (n0<(↑l1.length:Int))) (Zc [CT.int,CT.int,CT.slice (some 3)] (ZW l1 n0) fun n1 n2 l3_1=>bc (cfg.pure g2)
 (Za (Zr O g2 (l3++[V.agg [V.int n1,V.int n2,V.vec .plain (some 3) l3_1]]++l4)) fun r4=>Zm r4 fun b5=>bc b5 (some (Ex.ret,[V.int n0],st)) (O.2
 74 2 [V.int (IntKind.i64.wrap (n0+1)),V.vec .plain (some 3) l1,V.fn g2 l3 l4,V.int n5] st)) (Za (O.call g2 (l3++[V.agg [V.int n1,V.int
 n2,V.vec .plain (some 3) l3_1]]++l4) st) fun r6=>Zj r6.fst (fun v7=>Zm v7 fun b8=>bc b8 (some (Ex.ret,[V.int n0],r6.snd)) (O.2
 74 2 [V.int (IntKind.i64.wrap (n0+1)),V.vec .plain (some 3) l1,V.fn g2 l3 l4,V.int n5] r6.snd)) fun p9=>none))) (some (Ex.exit 0,[],st)):=by kernel_rfl
end Go.Proofs.SZ
namespace Go.Proofs.SZ
open Go Go.AM Go.Ama
theorem zrK{n:Nat}(h:n≤1048576):roomFor Tryz.prog 46 n=true:=by
 have:((Tryz.prog.info? 46).map (·.bytes)).getD 0=56:=by kernel_rfl
 unfold roomFor
 rw[this]
 simp only[Bool.and_eq_true,decide_eq_true_eq]
 omega
theorem zod{n:Nat}(h:n≤1048576):roomFor Tryz.prog 9 n=true:=by
 have:((Tryz.prog.info? 9).map (·.bytes)).getD 0=16:=by kernel_rfl
 unfold roomFor
 rw[this]
 simp only[Bool.and_eq_true,decide_eq_true_eq]
 omega
theorem zes(t:Tok)(r:List Tok):ZW (Zw (t::r)) 0=zby t:=rfl
theorem zoe(t:Tok)(r:List Tok):decide ((((Zw (t::r)).length:Nat):Int)>0)=true:=by simp
theorem zmt(t:Tok)(r:List Tok):decide ((0:Int)<(((Zw (t::r)).length:Nat):Int))=true:=by simp
section
variable(m:AM.Mode)(s:PS)
theorem Qa(n:Int):W.call 29 [.ref 0 0, .int n] [Yv m s]=some (.ret (.tup []),[Yv m (s.fail n)]):=by
 rw[C,Yv,ze0,Yf]
 unfold PS.fail
 by_cases h:s.e=0<;>simp[h,bc,Yv]
theorem zbh(c:Bytes):W.call 85 [.ref 0 0, .str (ba c)] [Yv m s]=some (.ret (.bool (s.is c)),[Yv m s]):=by
 rw[C,Yv,zgo,Yf]
 unfold PS.is
 by_cases h:s.e=0
 ·rw[h]
  cases hl:s.l with
  |nil=>rfl
  |cons t r=>
   simp only[zoe,zmt,zes,zcy,zgj,Yf]
   simp[bc]
 ·simp[h,bc]
theorem zbi:W.call 91 [.ref 0 0] [Yv m s]=some (.ret (.bool s.named),[Yv m s]):=by
 rw[C,Yv,zdK,Yf]
 unfold PS.named
 by_cases h:s.e=0
 ·rw[h]
  cases hl:s.l with
  |nil=>rfl
  |cons t r=>
   simp only[zoe,zmt,zes]
   show bc (decide True) (bc true (gd true (Y3 (.agg [.int t.1, .str (ba t.2)]) _)) _) _=_
   rw[zkG]
   show some (Out.ret (V.bool (t.1==0)),_)=_
   rw[Yf];simp
 ·simp[h,bc]
theorem zuo{c:Bytes}(h:s.is c=true): ∃r,s.l=(1,c)::r∧s.e=0:=by
 unfold PS.is at h
 cases hl:s.l with
 |nil=>rw[hl]at h;simp at h
 |cons t r=>
  rw[hl]at h
  simp only[Bool.and_eq_true,decide_eq_true_eq]at h
  obtain⟨t1,t2⟩:=t
  simp only at h
  exact⟨r,by rw[h.2.1,h.2.2],h.1⟩
theorem zpC(h:s.named=true): ∃x r,s.l=(0,x)::r∧s.e=0:=by
 unfold PS.named at h
 cases hl:s.l with
 |nil=>rw[hl]at h;simp at h
 |cons t r=>
  rw[hl]at h
  simp only[Bool.and_eq_true,decide_eq_true_eq]at h
  obtain⟨t1,t2⟩:=t
  simp only at h
  exact⟨t2,r,by rw[h.2],h.1⟩
theorem zjc(b:Bool)(h:b=true→ ∃t r,s.l=t::r):W.call 90 [.ref 0 0, .bool b] [Yv m s]=some (.ret (.str (ba (s.token b).1)),[Yv m (s.token b).2]):=by
 rw[C,Yv,zdJ,←Yv,Qa]
 cases b with
 |false=>rfl
 |true=>
  obtain⟨t,r,hl⟩:=h rfl
  unfold PS.token
  rw[hl]
  simp only[zmt,zes,if_true,Bool.not_true,Zn,Bool.true_and,Z6]
  show Y3 (.agg [.int t.1, .str (ba t.2)]) _=_
  rw[zkG]
  rw[show decide (2≤ [V.int t.1,V.str (ba t.2)].length)=true from rfl,Z6,show AM.partOf [V.int t.1,V.str (ba t.2)] 1 none=V.str (ba t.2)from rfl,XL]
  have h1:decide ((1:Int)≤(((Zw (t::r)).length:Nat):Int))=true:=by simp;omega
  have h2:decide ((((Zw (t::r)).length:Nat):Int)≤(((Zw (t::r)).length:Nat):Int))=true:=by simp
  rw[h1,h2,Int.toNat_natCast,List.take_length]
  rfl
theorem QC(c:Bytes):W.call 73 [.ref 0 0, .str (ba c)] [Yv m s]=some (.ret (.tup []),[Yv m (s.take c)]):=by
 rw[C,ze3,zbh,Zb,Zk,Zs,zjc _ _ _ (fun h=>by obtain⟨r,h,_⟩:=zuo s h;exact⟨_,_,h⟩),Zb,Zk,XL]
 rfl
theorem zaO:W.call 71 [.ref 0 0] [Yv m s]=some (.ret (.str (ba s.name.1)),[Yv m s.name.2]):=by
 rw[C,ze2,zbi,Zb,Zk,Zs,zjc _ _ _ (fun h=>by obtain⟨x,r,h,_⟩:=zpC s h;exact⟨_,_,h⟩),Zb,Zk,XL]
 rfl
theorem zvS:V.str {data:= #[40]}=V.str (ba [40]):=rfl
theorem zjd(t:T):W.call 107 [.ref 0 0,enc t] [Yv m s]=some (.ret (enc t),[Yv m s.alone]):=by
 unfold PS.alone
 rw[C,Zd,zdN,zbi,Zb,Zk,Zs,zvS,zbh,Zb,Zk,Zs,Qa,←Zd]
 cases s.named<;>cases s.is [40]<;>rfl
end
end Go.Proofs.SZ
