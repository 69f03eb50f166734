import Derived.Test.YthhifgeblblmcaaGreatAMa
import Derived.Laws.Slices
import Derived.Laws.StructEq
import Derived.Laws.IdiomStrings
import Derived.Laws.BytesArg
import Derived.Laws.MakeOwn
import Derived.Laws.Tables
import Derived.Deep.AppendSrc
import Derived.Deep.Upon
/- An abstract machine over tree values that runs the model's code, and its soundness: what it tells of a call, the model does. -/
set_option linter.unusedVariables false
set_option linter.unusedSimpArgs false
set_option linter.unusedSectionVars false
namespace Go.AM
open Go Go.RowKit
section
variable{P:Program}{cfg:Cfg}{base n:Nat}{w:World}{own:Own}{μ:List Nat}{ρ:Env}{st:St}{a:Act}
variable{fid rid idx:Nat}{all:List Oper}{o:Oper}{R:Type}{r:R}
theorem zdx{R:Type}{c:Prop}[Decidable c]{x:Option R}{r:R}(h:(if c then x else none)=some r):c∧x=some r:=by
 split at h
 ·rename_i hc;exact⟨hc,h⟩
 ·cases h
theorem run_equal_bool{t:TypeId}(hu:P.underlying t=some .bool)(a b:Bool):(Op.equal t (.bool a) (.bool b)).run P w= .ok (a==b) w:=by
 rw[Op.equal,show Op.maxDepth=9999+1 from rfl,Op.equalIn]
 simp only[Sem.run_bind,Go.run_underlying hu,Result.andThen_ok]
 rfl
theorem zsy{isB:Bool}{op:BinOp}{x y:V}{K:V→Option R}(h:bop isB op x y K=some r){t:TypeId}(hB:isB=ziK P t){pr:Nat→Nat→Prop}{cx cy:Value}
  (hx:VRep w pr μ x cx) (hy:VRep w pr μ y cy) (ox oy:Operand): ∃v c,K v=some r∧VRep w pr μ v c∧(do eqGuard op t ox oy cx cy;binOp op t cx cy:Sem Value).run P w= .ok c w:=by
 unfold bop at h
 split at h
 ·rename_i a b
  cases hx.int_inv
  cases hy.int_inv
  have hg:(eqGuard op t ox oy (.int .i64 a) (.int .i64 b)).run P w= .ok () w:=by
   unfold eqGuard;split<;>rfl
  simp only[Sem.run_bind,hg,Result.andThen_ok]
  cases op<;>simp only[reduceCtorEq]at h
  ·exact⟨_,_,h, .int _,rfl⟩
  ·exact⟨_,_,h, .int _,rfl⟩
  ·exact⟨_,_,h, .int _,rfl⟩
  ·obtain⟨h1,h⟩:=Zh h
   have h1:=of_decide_eq_true h1
   refine⟨_,_,h, .int _, ?_⟩
   simp[binOp,Op.intDiv,h1]
  ·obtain⟨h1,h⟩:=Zh h
   have h1:=of_decide_eq_true h1
   refine⟨_,_,h, .int _, ?_⟩
   simp[binOp,Op.intDiv,h1]
  all_goals exact⟨_,_,h, .bool _,rfl⟩
 ·split at h
  ·rename_i j a k b hjk
   subst hjk
   cases hx.ik_inv
   cases hy.ik_inv
   have hg:(eqGuard op t ox oy (.int j a) (.int j b)).run P w= .ok () w:=by
    unfold eqGuard;split<;>rfl
   simp only[Sem.run_bind,hg,Result.andThen_ok]
   cases op<;>simp only[reduceCtorEq]at h
   ·exact⟨_,_,h, .ik _ _,by simp[binOp,Op.intArith]⟩
   ·exact⟨_,_,h, .ik _ _,by simp[binOp,Op.intArith]⟩
   ·exact⟨_,_,h, .ik _ _,by simp[binOp,Op.intArith]⟩
   all_goals exact⟨_,_,h, .bool _,by simp[binOp,Op.intCmp]⟩
  ·cases h
 ·rename_i a b
  cases hx.str_inv
  cases hy.str_inv
  have hg:(eqGuard op t ox oy (.string a) (.string b)).run P w= .ok () w:=by
   unfold eqGuard;split<;>rfl
  simp only[Sem.run_bind,hg,Result.andThen_ok]
  cases op<;>simp only[reduceCtorEq]at h
  ·obtain⟨h1,h⟩:=Zh h
   have h1:=of_decide_eq_true h1
   refine⟨_,_,h, .str _, ?_⟩
   have: ¬(((a.size+b.size:Nat):Int)>IntKind.i64.max):=by have e:IntKind.i64.max=9223372036854775807:=rfl;omega
   simp only[binOp,Op.stringOp,if_neg this];rfl
  all_goals exact⟨_,_,h, .bool _,rfl⟩
 ·rename_i a b
  cases hx.bool_inv
  cases hy.bool_inv
  have hg:(eqGuard op t ox oy (.bool a) (.bool b)).run P w= .ok () w:=by
   unfold eqGuard;split<;>rfl
  simp only[Sem.run_bind,hg,Result.andThen_ok]
  have hu:isB=true→P.underlying t=some .bool:=by
   intro e
   rw[hB]at e
   unfold ziK at e
   split at e
   ·rename_i hu;exact hu
   ·cases e
  cases op<;>simp only[reduceCtorEq]at h
  all_goals
   obtain⟨h1,h⟩:=Zh h
   refine⟨_,_,h, .bool _, ?_⟩
   have e:=run_equal_bool (w:=w) (hu h1) a b
   simp only[binOp,Sem.run_bind,e,Result.andThen_ok]
   rfl
 ·cases h
theorem zqR{a b:String}(h:(a !=b)=true):a≠b:=by simpa using h
theorem zlb{d:Nat}{A B:List V}{xs ys:Array Value}{pr:Nat→Nat→Prop}(hA:VRep w pr μ (.agg A) (.agg xs))(hB:VRep w pr μ (.agg B) (.agg ys)):
  ∀(fs:List Field) (i:Nat) (acc:Bool) (K:Bool→Option R),zq0 P i fs=true→zgE P fs (A.drop i) (B.drop i) acc K=some r→
   ∃b,K (acc&&b)=some r∧(Op.eqFields (d+1) xs ys fs).run P w= .ok b w
 |[],i,acc,K,_,h=>by
  refine⟨true, ?_,rfl⟩
  simp only[zgE]at h
  obtain⟨_,h⟩:=zc3 h
  obtain⟨_,h⟩:=zc3 h
  rw[Bool.and_true];exact h
 |f::fs,i,acc,K,hf,h=>by
  simp only[zq0,Bool.and_eq_true]at hf
  obtain⟨⟨⟨⟨⟨h1,h2⟩,h3⟩,h4⟩,h5⟩,h6⟩:=hf
  have h2:=Nat.eq_of_beq_eq_true h2
  have hsh:shOf P f.type=none:=by simpa using h4
  simp only[zgE]at h
  obtain⟨a,as_,ea,h⟩:=zdv h
  obtain⟨b,bs,eb,h⟩:=zdv h
  have get: ∀{C:List V} {c:V} {cs:List V},C.drop i=c::cs→i<C.length∧C.getD i .undef=c∧C.drop (i+1)=cs:=by
   intro C c cs e
   have hl:i<C.length:=by
    rcases Nat.lt_or_ge i C.length with hl|hl
    ·exact hl
    ·rw[List.drop_eq_nil_of_le hl]at e;cases e
   rw[List.drop_eq_getElem_cons hl]at e
   cases e
   exact⟨hl,by simp[List.getD_eq_getElem?_getD,hl],rfl⟩
  obtain⟨la,ga,ta⟩:=get ea
  obtain⟨lb,gb,tb⟩:=get eb
  have hbA:f.offset+(shOf P f.type).sz≤A.length:=by rw[hsh,h2];exact la
  have hbB:f.offset+(shOf P f.type).sz≤B.length:=by rw[hsh,h2];exact lb
  obtain⟨ca,ec,sa,ra⟩:=ziT hA hbA
  obtain⟨cb,ed,sb,rb⟩:=ziT hB hbB
  cases ec;cases ed
  have pa:=zgQ (w:=w) (cs:=xs) h3 (sa▸hbA)
  have pb:=zgQ (w:=w) (cs:=ys) h3 (sb▸hbB)
  have eA:partOf A f.offset (shOf P f.type)=a:=by rw[hsh,h2];exact ga
  have eB:partOf B f.offset (shOf P f.type)=b:=by rw[hsh,h2];exact gb
  rw[eA]at ra
  rw[eB]at rb
  rw[←ta,←tb]at h
  have key: ∀(e:Bool),zgE P fs (A.drop (i+1)) (B.drop (i+1)) (acc&&e) K=some r→
    (∀va vb,VRep w pr μ a va→VRep w pr μ b vb→(Op.equalIn (d+1) f.type va vb).run P w= .ok e w)→ ∃b,K (acc&&b)=some r∧(Op.eqFields (d+1) xs ys (f::fs)).run P w= .ok b w:=by
   intro e h he
   obtain⟨b',k1,k2⟩:=zlb hA hB fs (i+1) (acc&&e) K h6 h
   refine⟨e&&b',by rw[←Bool.and_assoc];exact k1, ?_⟩
   simp only[Op.eqFields,if_pos (zqR h1),Sem.run_bind,pa,pb,Result.andThen_ok,he _ _ ra rb]
   cases e with
   |true=>simpa using k2
   |false=>simp
  split at h
  ·rename_i hu
   obtain⟨x,ex,h⟩:=YH h
   obtain⟨y,ey,h⟩:=YH h
   refine key _ h fun va vb hva hvb=> ?_
   rw[ex]at hva
   rw[ey]at hvb
   cases hva.int_inv;cases hvb.int_inv
   exact run_equalIn_int w d f.type .i64 .i64 x y hu
  ·rename_i k hk hu
   obtain⟨x,ex,h⟩:=zla h
   obtain⟨y,ey,h⟩:=zla h
   refine key _ h fun va vb hva hvb=> ?_
   rw[ex]at hva
   rw[ey]at hvb
   cases hva.ik_inv;cases hvb.ik_inv
   exact run_equalIn_int w d f.type k k x y hu
  ·rename_i hu
   obtain⟨x,ex,h⟩:=zdu h
   obtain⟨y,ey,h⟩:=zdu h
   refine key _ h fun va vb hva hvb=> ?_
   rw[ex]at hva
   rw[ey]at hvb
   cases hva.bool_inv;cases hvb.bool_inv
   exact run_equalIn_bool' w d f.type x y hu
  ·rename_i hu
   obtain⟨x,ex,h⟩:=zc2 h
   obtain⟨y,ey,h⟩:=zc2 h
   refine key _ h fun va vb hva hvb=> ?_
   rw[ex]at hva
   rw[ey]at hvb
   cases hva.str_inv;cases hvb.str_inv
   exact run_equalIn_string w d f.type x y hu
  ·cases h
theorem zfP{t:TypeId}(h:ziC P t=true): ∃ms,P.underlying t=some (.interface ms)∧ms.isEmpty=true:=by
 unfold ziC at h
 split at h
 ·rename_i ms hu;exact⟨ms,hu,h⟩
 ·cases h
theorem znh(d:Nat){t:TypeId}{ms:_}(hu:P.underlying t=some (.interface ms)):(Op.equalIn (d+1) t .nilIface .nilIface).run P w= .ok true w:=by
 simp[Op.equalIn,run_underlying hu]
theorem ziU{t:TypeId}{ms:_}(hu:P.underlying t=some (.interface ms)):(Op.equalIn 10000 t .nilIface .nilIface).run P w= .ok true w:=znh 9999 hu
theorem zni(d:Nat){t u:TypeId}{c:Value}{ms:_}(hu:P.underlying t=some (.interface ms)):(Op.equalIn (d+1) t (.iface u c) .nilIface).run P w= .ok false w:=by
 simp[Op.equalIn,run_underlying hu]
theorem ziV{t u:TypeId}{c:Value}{ms:_}(hu:P.underlying t=some (.interface ms)):(Op.equalIn 10000 t (.iface u c) .nilIface).run P w= .ok false w:=zni 9999 hu
theorem zkq(d:Nat){t:TypeId}{ms:_}(hu:P.underlying t=some (.interface ms))(he:ms.isEmpty=true):(Op.eqGuardIn (d+1) t .nilIface .nilIface).run P w= .ok false w:=by
 simp[Op.eqGuardIn,run_underlying hu,he]
theorem zeC{op:BinOp}{t:TypeId}{ms:_}(hu:P.underlying t=some (.interface ms))(he:ms.isEmpty=true)(ox oy:Operand):(eqGuard op t ox oy .nilIface .nilIface).run P w= .ok () w:=by
 have hin:(Op.eqGuardIn 10000 t .nilIface .nilIface).run P w= .ok false w:=zkq 9999 hu he
 cases op<;>simp[eqGuard,Op.maxDepth]
 all_goals (split<;>simp[hin])
theorem zeD{op:BinOp}{t u:TypeId}{c:Value}(ox oy:Operand):(eqGuard op t ox oy (.iface u c) .nilIface).run P w= .ok () w:=by
 cases op<;>simp[eqGuard]
theorem znj{t:TypeId}{ms:_}(hu:P.underlying t=some (.interface ms))(he:ms.isEmpty=true)(ox oy:Operand):(do eqGuard .eql t ox oy .nilIface .nilIface;binOp .eql t .nilIface .nilIface:Sem Value).run P w= .ok (.bool true) w:=by
 simp only[Sem.run_bind,zeC hu he,Result.andThen_ok,binOp]
 simp[Op.equal,Op.maxDepth,ziU hu]
theorem znk{t:TypeId}{ms:_}(hu:P.underlying t=some (.interface ms))(he:ms.isEmpty=true)(ox oy:Operand):(do eqGuard .neq t ox oy .nilIface .nilIface;binOp .neq t .nilIface .nilIface:Sem Value).run P w= .ok (.bool false) w:=by
 simp only[Sem.run_bind,zeC hu he,Result.andThen_ok,binOp]
 simp[Op.equal,Op.maxDepth,ziU hu]
theorem znl{t u:TypeId}{c:Value}{ms:_}(hu:P.underlying t=some (.interface ms))(ox oy:Operand):(do eqGuard .eql t ox oy (.iface u c) .nilIface;binOp .eql t (.iface u c) .nilIface:Sem Value).run P w= .ok (.bool false) w:=by
 simp only[Sem.run_bind,zeD,Result.andThen_ok,binOp]
 simp[Op.equal,Op.maxDepth,ziV hu]
theorem znm{t u:TypeId}{c:Value}{ms:_}(hu:P.underlying t=some (.interface ms))(ox oy:Operand):(do eqGuard .neq t ox oy (.iface u c) .nilIface;binOp .neq t (.iface u c) .nilIface:Sem Value).run P w= .ok (.bool true) w:=by
 simp only[Sem.run_bind,zeD,Result.andThen_ok,binOp]
 simp[Op.equal,Op.maxDepth,ziV hu]
theorem zqS{op:BinOp}{x y:V}{K:V→Option R}{t:TypeId}(h:zlK P t op x y K=some r){pr:Nat→Nat→Prop}{cx cy:Value}
  (hx:VRep w pr μ x cx) (hy:VRep w pr μ y cy) (ox oy:Operand): ∃v c,K v=some r∧VRep w pr μ v c∧(do eqGuard op t ox oy cx cy;binOp op t cx cy:Sem Value).run P w= .ok c w:=by
 unfold zlK at h
 split at h
 ·rename_i A B
  obtain⟨h1,h⟩:=Zh h
  simp only[zvH,Bool.and_eq_true,Bool.not_eq_true']at h1
  obtain⟨⟨h1,h2⟩,h3⟩:=h1
  split at h
  ·rename_i fs hu
   rw[hu]at h1
   simp only at h1
   obtain⟨xs,rfl⟩: ∃xs,cx= .agg xs:=by cases hx;exact⟨_,rfl⟩
   obtain⟨ys,rfl⟩: ∃ys,cy= .agg ys:=by cases hy;exact⟨_,rfl⟩
   have hfs:P.fieldsOf t=fs:=by simp only[Program.fieldsOf,hu]
   obtain⟨b,k1,k2⟩:=zlb (d:=9998) hx hy fs.toList 0 true _ h1 (by simpa using h)
   have k3:(Op.equalIn 10000 t (.agg xs) (.agg ys)).run P w= .ok b w:=by
    rw[show(10000:Nat)=9999+1 from rfl,run_equalIn_struct w 9999 t xs ys (by rw[hfs];exact hu) h2,hfs];exact k2
   have hg:=run_eqGuard_agg w op t ox oy xs ys h3
   rw[Bool.true_and]at k1
   cases op<;>simp only[reduceCtorEq]at k1
   ·refine⟨_,_,k1, .bool _, ?_⟩
    simp only[Sem.run_bind,hg,Result.andThen_ok]
    rw[run_eql_struct,k3];rfl
   ·refine⟨_,_,k1, .bool _, ?_⟩
    simp only[Sem.run_bind,hg,Result.andThen_ok]
    rw[run_neq_struct,k3];rfl
  ·cases h
 ·obtain⟨h1,h⟩:=Zh h
  obtain⟨ms,hu,he⟩:=zfP h1
  cases hx;cases hy
  cases op<;>simp only[reduceCtorEq]at h
  ·exact⟨_,_,h, .bool _,znj hu he ox oy⟩
  ·exact⟨_,_,h, .bool _,znk hu he ox oy⟩
 ·obtain⟨h1,h⟩:=Zh h
  obtain⟨ms,hu,he⟩:=zfP h1
  cases hy
  cases hx
  cases op<;>simp only[reduceCtorEq]at h
  ·exact⟨_,_,h, .bool _,znl hu ox oy⟩
  ·exact⟨_,_,h, .bool _,znm hu ox oy⟩
 ·exact zsy h rfl hx hy ox oy
theorem zsz(h:Pre P cfg base n all w own μ ρ st a o){op:BinOp}{t u:TypeId}{x y:Operand}(hop:o.op= .binOp op t x y u){tk:Bool}{vx vy:V}(hx:rd ρ tk x=vx)(hy:rd ρ tk y=vy)
  {K:V→Option R} (hb:zlK P t op vx vy K=some r):
  ∃v,K v=some r∧OpOK P cfg base n all w own μ o a (ρ.apply (upds ρ tk [x,y]++ZL o.dst v)) st:=by
 have hng: ∀{v:V},(∃sh es,v= .vec .grow sh es)→(zlK P t op v vy K=none):=by
  rintro _ ⟨sh,es,rfl⟩;rfl
 have hng2: ∀{v:V},(∃sh es,v= .vec .grow sh es)→(zlK P t op vx v K=none):=by
  rintro _ ⟨sh,es,rfl⟩;cases vx<;>rfl
 have hX:=Z0 h tk (xs:=[x,y]) (x:=x) (by simp)
 have hY:=Z0 h tk (xs:=[x,y]) (x:=y) (by simp)
 rw[hx]at hX
 rw[hy]at hY
 have hX':=hX.val fun sh es e=>by rw[hng ⟨sh,es,e⟩]at hb;cases hb
 have hY':=hY.val fun sh es e=>by rw[hng2 ⟨sh,es,e⟩]at hb;cases hb
 obtain⟨v,c,hK,hv,hrun⟩:=zqS (P:=P) (w:=w) hb hX' hY' x y
 refine⟨v,hK,Ym h tk [x,y] hv ?_⟩
 simp only[execOp,hop]
 exact Z7 hrun
theorem zkr(h:Pre P cfg base n all w own μ ρ st a o){t u:TypeId}{x:Operand}(hop:o.op= .typeAssert x u t true){tk:Bool}{K:V→Option R}(hu:zen P t (rd ρ tk x) K=some r):
  ∃v,K v=some r∧OpOK P cfg base n all w own μ o a (ρ.apply (upds ρ tk [x]++ZL o.dst v)) st:=by
 have hX:=Z0 h tk (xs:=[x]) (x:=x) (by simp)
 unfold zen at hu
 replace hu:=Zh hu
 obtain⟨hi,hu⟩:=hu
 unfold zu4 at hi
 simp only[Bool.and_eq_true]at hi
 have hty:P.underlying t=some (.int .i64):=by
  have:=hi.1
  split at this
  ·assumption
  ·cases this
 have hz:(zeroValue t).run P w= .ok (.int .i64 0) w:=by
  have:=hi.2
  split at this
  ·rename_i hb
   cases hq:P.info? t with
   |none=>rw[hq]at hb;cases hb
   |some i=>rw[hq]at hb;simp[zeroValue,typeInfo,program,Sem.run,hq,show i.zero=some (.int .i64 0)from hb]
  ·cases this
 split at hu
 ·rename_i hv
  rw[hv]at hX
  have hX:=hX.val (by simp)
  generalize hev:a.eval x=cv at hX
  cases hX
  refine⟨_,hu,Ym h tk [x] (c:= .tuple #[.int .i64 0, .bool false]) (.tup _ _ rfl fun i hi=> ?_) ?_⟩
  ·match i,hi with
   |0,_=>exact .int _
   |1,_=>exact .bool _
  ·simp only[execOp,hop,hev]
   refine Z7 ?_
   simp only[Instr.typeAssert,Sem.run_bind,Go.run_underlying hty,Result.andThen_ok]
   simp[hz]
 ·rename_i k v hv
  rw[hv]at hX
  have hX:=hX.val (by simp)
  generalize hev:a.eval x=cv at hX
  cases hX with
  |ifc _ _ c hc=>
   by_cases hkt:k=t
   ·have hbe:Nat.beq k t=true:=by rw[Nat.beq_eq];exact hkt
    rw[hbe]at hu
    have hu:K (.tup [_, .bool true])=some r:=hu
    subst hkt
    refine⟨_,hu,Ym h tk [x] (c:= .tuple #[c, .bool true]) (.tup _ _ rfl fun i hi=> ?_) ?_⟩
    ·match i,hi with
     |0,_=>exact hc
     |1,_=>exact .bool _
    ·simp only[execOp,hop,hev]
     refine Z7 ?_
     simp only[Instr.typeAssert,Sem.run_bind,Go.run_underlying hty,Result.andThen_ok]
     simp
   ·have hbe:Nat.beq k t=false:=by
     cases h':Nat.beq k t with
     |true=>exact absurd (Nat.eq_of_beq_eq_true h') hkt
     |false=>rfl
    rw[hbe]at hu
    have hu:K (.tup [.int 0, .bool false])=some r:=hu
    refine⟨_,hu,Ym h tk [x] (c:= .tuple #[.int .i64 0, .bool false]) (.tup _ _ rfl fun i hi=> ?_) ?_⟩
    ·match i,hi with
     |0,_=>exact .int _
     |1,_=>exact .bool _
    ·simp only[execOp,hop,hev]
     refine Z7 ?_
     simp only[Instr.typeAssert,Sem.run_bind,Go.run_underlying hty,Result.andThen_ok]
     simp[hz,hkt]
 ·cases hu
theorem ztH(h:Pre P cfg base n all w own μ ρ st a o){op:UnOp}{t:TypeId}{x:Operand}(hop:o.op= .unOp op t x){tk:Bool}{K:V→Option R}(hu:uop op (rd ρ tk x) K=some r):
  ∃v,K v=some r∧OpOK P cfg base n all w own μ o a (ρ.apply (upds ρ tk [x]++ZL o.dst v)) st:=by
 have hX:=Z0 h tk (xs:=[x]) (x:=x) (by simp)
 unfold uop at hu
 split at hu
 ·rename_i hv
  rw[hv]at hX
  have:=VRep.bool_inv (hX.val (by simp))
  refine⟨_,hu,Ym h tk [x] (.bool _) ?_⟩
  simp only[execOp,hop,this]
  exact Z7 rfl
 ·rename_i hv
  rw[hv]at hX
  have:=VRep.int_inv (hX.val (by simp))
  refine⟨_,hu,Ym h tk [x] (.int _) ?_⟩
  simp only[execOp,hop,this]
  exact Z7 rfl
 ·cases hu
theorem znn(h:Pre P cfg base n all w own μ ρ st a o)(tk:Bool){xs:List Operand}{x:Operand}(hx:x∈xs):VRep w (prOf (Yy own ρ xs)) μ (plain1 (rd ρ tk x)) (a.eval x):=(Z0 h tk hx).plain
theorem zgR(h:Pre P cfg base n all w own μ ρ st a o){t:TypeId}{x:Operand}(hop:o.op= .makeInterface t x)(hc:zpe P t=true)(tk:Bool):
  OpOK P cfg base n all w own μ o a (ρ.apply (upds ρ tk [x]++ZL o.dst (.ifc t (plain1 (rd ρ tk x))))) st:=by
 refine Ym h tk [x] (.ifc _ _ _ (znn h tk (by simp))) ?_
 simp only[execOp,hop]
 refine Z7 ?_
 unfold zpe at hc
 split at hc
 ·cases hc
 ·rename_i d hd hu
  simp only[Instr.makeInterface,Sem.run_bind,Go.run_underlying hu,Result.andThen_ok]
  rfl
 ·cases hc
theorem zno(h:Pre P cfg base n all w own μ ρ st a o){g:Nat}{first cap:Array Operand}(hop:o.op= .makeFunc (.func g) first cap)(tk:Bool):
  OpOK P cfg base n all w own μ o a (ρ.apply (upds ρ tk (first++cap).toList++ZL o.dst (.fn g (first.toList.map fun x=>plain1 (rd ρ tk x)) (cap.toList.map fun x=>plain1 (rd ρ tk x))))) st:=by
 have key: ∀(xs:Array Operand),(∀x∈xs.toList,x∈(first++cap).toList)→ ∀i,i<(xs.toList.map fun x=>plain1 (rd ρ tk x)).length→
   VRep w (prOf (Yy own ρ (first++cap).toList)) μ ((xs.toList.map fun x=>plain1 (rd ρ tk x)).getD i .undef) ((xs.map a.eval).getD i undef):=by
  intro xs hx i hi
  simp only[List.length_map,Array.length_toList]at hi
  have:=znn h tk (xs:=(first++cap).toList) (x:=xs[i]) (hx _ (by simp))
  simpa[List.getD_eq_getElem?_getD,Array.getD_eq_getD_getElem?,hi]using this
 refine Ym h tk _ (.fn g _ _ (first.map a.eval) (cap.map a.eval) (by simp) (by simp) (key first (fun x hx=>by simp at hx⊢;exact .inl hx)) (key cap fun x hx=>by simp at hx⊢;exact .inr hx)) ?_
 simp only[execOp,hop]
 exact Z7 rfl
theorem zb3(h:Pre P cfg base n all w own μ ρ st a o){x:Operand}(hop:o.op= .nilCheck x){v:V}(hx:ev ρ x=v)(hv:(∃r o',v= .ref r o')∨(∃sh r j o',v= .rel sh r j o')∨(∃f c d,v= .fn f c d)∨ ∃sh u,v= .cptr sh u):
  OpOK P cfg base n all w own μ o a (ρ.apply (ZL o.dst v)) st:=by
 have hV:VRep w (prOf own) μ v (a.eval x):=by
  refine Qj h.rel hx ?_ ?_ ?_<;>rcases hv with⟨_,_,rfl⟩|⟨_,_,_,_,rfl⟩|⟨_,_,_,rfl⟩|⟨_,_,rfl⟩<;>simp[zhE]
 refine XM h hV ?_
 simp only[execOp,hop]
 rcases hv with⟨_,_,rfl⟩|⟨_,_,_,_,rfl⟩|⟨_,_,_,rfl⟩|⟨_,_,rfl⟩<;>generalize a.eval x=c at hV<;>cases hV<;>rfl
theorem zgS(h:Pre P cfg base n all w own μ ρ st a o){x:Operand}(hop:o.op= .nilCheck x){y o':Nat}(hx:ev ρ x= .lptr y o')(hn:zaV o.dst y=true):
  OpOK P cfg base n all w own μ o a (ρ.apply (ZL o.dst (.lptr y o'))) st:=by
 obtain⟨b,h1,h2,h3⟩:=zce h.rel hx
 refine zfM h hn (fun d=>⟨b,h1,rfl,h3⟩) ?_
 simp only[execOp,hop,h2]
 rfl
def zbH(P:Program)(w:World)(ρ:Env)(tk:Bool)(a:Act)(lo:Option Operand)(d l:Int):Prop:=
 match lo with
 |none=>l=d
 |some x=>rd ρ tk x= .int l∧a.eval x= .int .i64 l
theorem zcf(h:Pre P cfg base n all w own μ ρ st a o){tk:Bool}{xs:List Operand}{lo:Option Operand}(hx: ∀x,lo=some x→x∈xs){d:Int}{K:Int→Option R}
  (hb:(match lo.map (rd ρ tk)with|some v=>Zm v|none=>fun K=>K d) K=some r): ∃l,zbH P w ρ tk a lo d l∧K l=some r:=by
 cases lo with
 |none=>exact⟨d,rfl,hb⟩
 |some x=>
  obtain⟨l,h1,h2⟩:=YH hb
  refine⟨l,⟨h1, ?_⟩,h2⟩
  have:=Z0 h tk (xs:=xs) (x:=x) (hx x rfl)
  rw[h1]at this
  exact VRep.int_inv (this.val (by simp))
theorem zc6(isSlice:Bool)(len cap:Nat){tk:Bool}{lo hi mx:Option Operand}{l h' m:Int}(hl:zbH P w ρ tk a lo 0 l)(hh:zbH P w ρ tk a hi len h')(hmx:mx=none∧m=cap∨(∃x,mx=some x∧hi.isSome=true∧zbH P w ρ tk a mx 0 m))
  (h0:0≤l) (h1:l≤h') (h2:h'≤m) (h3:m≤cap) (hlc:len≤cap):
  (Instr.sliceBounds isSlice len cap (lo.map a.eval) (hi.map a.eval) (mx.map a.eval)).run P w= .ok (l.toNat,h'.toNat,m.toNat) w:=by
 have e1:((h'.toNat:Nat):Int)=h':=by omega
 have e2:((m.toNat:Nat):Int)=m:=by omega
 have hB: ∀(c:BoundsCode) (i:Int) (y:Nat),0≤i→i≤(y:Int)→(Instr.sliceBound (.int .i64 i) y c).run P w= .ok i.toNat w:=fun c i y h0 h1=>Go.run_sliceBound w .i64 i y c h0 h1
 rcases hmx with⟨rfl,rfl⟩|⟨x,rfl,hhi,hm⟩
 ·cases lo with
  |none=>
   cases hi with
   |none=>
    simp only[zbH]at hl hh
    subst hl hh
    simp[Instr.sliceBounds]
   |some y=>
    simp only[zbH]at hl hh
    subst hl
    simp only[Instr.sliceBounds,Option.map_none,Option.map_some,Sem.run_bind,Sem.run_pure,Result.andThen_ok,hh.2]
    rw[hB _ _ _ (by omega) (by omega)]
    simp
  |some x=>
   cases hi with
   |none=>
    simp only[zbH]at hl hh
    subst hh
    simp only[Instr.sliceBounds,Option.map_none,Option.map_some,Sem.run_bind,Sem.run_pure,Result.andThen_ok,hl.2]
    rw[hB _ _ _ h0 (by omega)]
    simp
   |some y=>
    simp only[zbH]at hl hh
    simp only[Instr.sliceBounds,Option.map_none,Option.map_some,Sem.run_bind,Sem.run_pure,Result.andThen_ok,hh.2,hl.2]
    rw[hB _ _ _ (by omega) (by omega)]
    simp only[Result.andThen_ok]
    rw[hB _ _ _ h0 (by omega)]
    simp
 ·obtain⟨y,rfl⟩:=Option.isSome_iff_exists.1 hhi
  simp only[zbH]at hm hh
  cases lo<;>simp only[zbH]at hl
  all_goals simp only[Instr.sliceBounds,Option.map_none,Option.map_some,Sem.run_bind,Sem.run_pure,Result.andThen_ok,hm.2,hh.2]
  ·subst hl
   rw[hB _ _ _ (by omega) h3]
   simp only[Result.andThen_ok]
   rw[hB _ _ _ (by omega) (by omega)]
   simp
  ·rw[hB _ _ _ (by omega) h3]
   simp only[Result.andThen_ok]
   rw[hB _ _ _ (by omega) (by omega)]
   simp only[Result.andThen_ok,hl.2]
   rw[hB _ _ _ h0 (by omega)]
   simp
end
end Go.AM
namespace Go.AM
open Go Go.RowKit
section
variable{P:Program}{cfg:Cfg}{base n:Nat}{w:World}{own:Own}{μ:List Nat}{ρ:Env}{st:St}{a:Act}
variable{fid rid idx:Nat}{all:List Oper}{o:Oper}{R:Type}{r:R}
theorem zcg{t:TypeId}{sh:Sh}(h:zmY P t sh=true): ∃e,P.underlying t=some (.slice e)∧okTy P e=true∧sh=shOf P e:=by
 unfold zmY at h
 split at h
 ·rename_i e he
  simp only[Qu,Bool.and_eq_true,decide_eq_true_eq]at h
  exact⟨e,YX he,h.1,h.2⟩
 ·cases h
theorem run_sliceAt_slice{t e:TypeId}(hu:P.underlying t=some (.slice e))(hty:okTy P e=true){A:Option Addr}{len c l h m:Nat}{lo hi mx:Option Value}(hb:(Instr.sliceBounds true len c lo hi mx).run P w= .ok (l,h,m) w):
  (Instr.sliceAt t (.slice A len c) lo hi mx).run P w= .ok (.slice (if m=l then A else A.map (·.add (l*(shOf P e).sz))) (h-l) (m-l)) w:=by
 simp only[Instr.sliceAt,Instr.slice,Sem.run_bind,Go.run_underlying hu,Result.andThen_ok,hb,YW hty]
 rfl
theorem zlV{pr:Nat→Nat→Prop}{md:Mode}{sh:Sh}{es:List V}{A:Option Addr}{len c:Nat}(hV:VRep w pr μ (.vec .plain sh es) (.slice A len c)){l h m:Nat}(h1:l≤h)(h2:h≤es.length)(h3:h≤m)
  (hmd:md≠ .grow) (hf:md= .full→m=h):len=es.length∧len≤c∧VRep w pr μ (.vec md sh ((es.take h).drop l)) (.slice (if m=l then A else A.map (·.add (l*sh.sz))) (h-l) (m-l)):=by
 have hL:((es.take h).drop l).length=h-l:=by simp;omega
 have hget: ∀i,i<h-l→((es.take h).drop l).getD i .undef=es.getD (l+i) .undef:=by
  intro i hi
  rw[List.getD_eq_getElem?_getD,List.getElem?_drop,List.getElem?_take,if_pos (by omega),←List.getD_eq_getElem?_getD]
 by_cases hz:l=h
 ·have hnil:(es.take h).drop l=[]:=List.eq_nil_of_length_eq_zero (by omega)
  rw[hnil]
  have h0:h-l=0:=by omega
  rw[h0]
  have key:VRep w pr μ (.vec md sh []) (.slice (if m=l then A else A.map (·.add (l*sh.sz))) 0 (m-l)):= .vecE _ _ _ _ hmd fun e=>by have:=hf e;omega
  cases hV with
  |vecE _ _ _ _ _ _=>exact⟨rfl,Nat.zero_le _,key⟩
  |vec _ _ _ ad _ f hm hf' hl ha hcell hsh hc=>exact⟨rfl,hl,key⟩
 ·cases hV with
  |vecE _ _ _ _ _ _=>simp at h2;omega
  |vec _ _ _ ad _ f hm hf' hl ha hcell hsh hc=>
   refine⟨rfl,hl, ?_⟩
   have hne: ¬m=l:=by omega
   rw[if_neg hne]
   obtain⟨b,off,s⟩:=ad
   simp only at ha;subst ha
   simp only[Option.map_some,Xz]
   have e:Value.slice (some ⟨b,off+l*sh.sz,none⟩) (h-l) (m-l)= .slice (some ⟨b,off+l*sh.sz,none⟩) ((es.take h).drop l).length (m-l):=by rw[hL]
   rw[e]
   refine .vec md sh _ _ _ (fun i j=>f (l+i) j) hmd (fun e=>by rw[hL];have:=hf e;omega) (by rw[hL];omega) rfl (fun i j hi hj=> ?_) (fun i hi=> ?_) fun i j hi hj=> ?_
   ·have:=hcell (l+i) j (by omega) hj
    rw[show off+l*sh.sz+(i*sh.sz+j)=off+((l+i)*sh.sz+j) by rw[Nat.add_mul];omega]
    exact this
   ·rw[hget i (by omega)];exact hsh _ (by omega)
   ·rw[hget i (by omega)];exact hc _ j (by omega) hj
theorem ztI{pr:Nat→Nat→Prop}{sh:Sh}{r lo k:Nat}{A:Option Addr}{len c:Nat}(hV:VRep w pr μ (.row sh r lo k) (.slice A len c)){l h:Nat}(h1:l≤h)(h2:h≤k):
  len=k∧len≤c∧VRep w pr μ (.row sh r (lo+l) (h-l)) (.slice (if c=l then A else A.map (·.add (l*sh.sz))) (h-l) (c-l)):=by
 by_cases hz:l=h
 ·have h0:h-l=0:=by omega
  rw[h0]
  cases hV with
  |rowE _ _ _ b _ _ hb=>exact⟨rfl,Nat.zero_le _, .rowE _ _ _ b _ _ hb⟩
  |row _ _ _ _ b _ hb hn=>exact⟨rfl,hn, .rowE _ _ _ b _ _ hb⟩
 ·cases hV with
  |rowE _ _ _ b _ _ hb=>omega
  |row _ _ _ _ b _ hb hn=>
   refine⟨rfl,hn, ?_⟩
   rw[if_neg (by omega)]
   simp only[Option.map_some,Xz,←Nat.add_mul]
   exact .row _ _ _ _ b _ hb (by omega)
theorem zs0(h:Pre P cfg base n all w own μ ρ st a o){t:TypeId}{x:Operand}{lo hi mx:Option Operand}(hop:o.op= .slice t x lo hi mx){tk:Bool}{xs:List Operand}(hx:x∈xs)(hlo: ∀y,lo=some y→y∈xs)
  (hhi: ∀y,hi=some y→y∈xs) (hmx: ∀y,mx=some y→y∈xs) {K:V→Option R} (hs:zgF P t (rd ρ tk x) (lo.map (rd ρ tk)) (hi.map (rd ρ tk)) (mx.map (rd ρ tk)) K=some r):
  ∃v,K v=some r∧OpOK P cfg base n all w own μ o a (ρ.apply (upds ρ tk xs++ZL o.dst v)) st:=by
 unfold zgF at hs
 split at hs
 ·rename_i m sh es hv
  obtain⟨hsl,hs⟩:=Zh hs
  obtain⟨e,hu,hty,rfl⟩:=zcg hsl
  obtain⟨l,hl,hs⟩:=zcf h hlo hs
  obtain⟨h',hh,hs⟩:=zcf h hhi hs
  obtain⟨hb,hs⟩:=Zh hs
  simp only[Bool.and_eq_true,decide_eq_true_eq]at hb
  obtain⟨⟨h0,h1⟩,h2⟩:=hb
  have hV:=(Z0 h tk hx).plain
  rw[hv]at hV
  have hV:VRep w (prOf (Yy own ρ xs)) μ (.vec .plain (shOf P e) es) (a.eval x):=by cases m<;>exact hV
  cases hev:a.eval x with
  |slice A len c=>
   rw[hev]at hV
   cases hmm:mx with
   |none=>
    rw[hmm]at hs
    simp only[Option.map_none]at hs
    obtain⟨h3,h4,_⟩:=zlV (md:= .plain) hV (l:=l.toNat) (h:=h'.toNat) (m:=h'.toNat) (by omega) (by omega) (Nat.le_refl _) (by simp) (by simp)
    obtain⟨_,_,h5⟩:=zlV (md:= .plain) hV (l:=l.toNat) (h:=h'.toNat) (m:=c) (by omega) (by omega) (by omega) (by simp) (by simp)
    refine⟨_,hs,Ym h tk xs h5 ?_⟩
    have:=zc6 (P:=P) (w:=w) (tk:=tk) (a:=a) (ρ:=ρ) true len c hl (by rw[h3];exact hh) (.inl ⟨hmm,rfl⟩) h0 h1 (by omega) (by omega) h4
    simp only[execOp,hop,hev]
    rw[hmm]at this
    exact Z7 (run_sliceAt_slice hu hty (by rw[hmm];exact this))
   |some y=>
    rw[hmm]at hs
    simp only[Option.map_some]at hs
    obtain⟨m',hm1,hs⟩:=YH hs
    obtain⟨hb,hs⟩:=Zh hs
    simp only[Bool.and_eq_true,decide_eq_true_eq,Option.isSome_map]at hb
    obtain⟨hm2,hm3⟩:=hb
    obtain⟨h3,h4,h5⟩:=zlV (md:= .full) hV (l:=l.toNat) (h:=h'.toNat) (m:=m'.toNat) (by omega) (by omega) (by omega) (by simp) (fun _=>by omega)
    refine⟨_,hs,Ym h tk xs h5 ?_⟩
    have hy:a.eval y= .int .i64 m':=by
     have:=Z0 h tk (hmx y hmm)
     rw[hm1]at this
     exact VRep.int_inv (this.val (by simp))
    have:=zc6 (P:=P) (w:=w) (tk:=tk) (a:=a) (ρ:=ρ) (m:=m') true len c hl (by rw[h3];exact hh) (.inr ⟨y,hmm,hm3,by rw[hmm];exact⟨hm1,hy⟩⟩) h0 h1 (by omega) (by omega) h4
    simp only[execOp,hop,hev]
    exact Z7 (run_sliceAt_slice hu hty this)
  |_=>rw[hev]at hV;cases hV
 ·rename_i sh q lo' k hv
  obtain⟨hsl,hs⟩:=Zh hs
  obtain⟨e,hu,hty,rfl⟩:=zcg hsl
  obtain⟨l,hl,hs⟩:=zcf h hlo hs
  obtain⟨h',hh,hs⟩:=zcf h hhi hs
  obtain⟨hb,hs⟩:=Zh hs
  simp only[Bool.and_eq_true,decide_eq_true_eq,Option.isNone_map,Option.isNone_iff_eq_none]at hb
  obtain⟨⟨⟨h0,h1⟩,h2⟩,hmm⟩:=hb
  have hV:=Z0 h tk hx
  rw[hv]at hV
  have hV:=hV.val (by simp)
  cases hev:a.eval x with
  |slice A len c=>
   rw[hev]at hV
   obtain⟨h3,h4,h5⟩:=ztI hV (l:=l.toNat) (h:=h'.toNat) (by omega) (by omega)
   refine⟨_,hs,Ym h tk xs h5 ?_⟩
   have:=zc6 (P:=P) (w:=w) (tk:=tk) (a:=a) (ρ:=ρ) true len c hl (by rw[h3];exact hh) (.inl ⟨hmm,rfl⟩) h0 h1 (by omega) (by omega) h4
   simp only[execOp,hop,hev]
   exact Z7 (run_sliceAt_slice hu hty this)
  |_=>rw[hev]at hV;cases hV
 ·rename_i s hv
  obtain⟨hsl,hs⟩:=Zh hs
  have hu:P.underlying t=some .string:=by
   unfold zaa at hsl
   split at hsl
   ·rename_i hu;exact hu
   ·cases hsl
  obtain⟨l,hl,hs⟩:=zcf h hlo hs
  obtain⟨h',hh,hs⟩:=zcf h hhi hs
  obtain⟨hb,hs⟩:=Zh hs
  simp only[Bool.and_eq_true,decide_eq_true_eq,Option.isNone_map,Option.isNone_iff_eq_none]at hb
  obtain⟨⟨⟨h0,h1⟩,h2⟩,hmm⟩:=hb
  have hV:=Z0 h tk hx
  rw[hv]at hV
  have hV:=VRep.str_inv (hV.val (by simp))
  refine⟨_,hs,Ym h tk xs (.str _) ?_⟩
  have:=zc6 (P:=P) (w:=w) (tk:=tk) (a:=a) (ρ:=ρ) false s.size s.size hl hh (.inl ⟨hmm,rfl⟩) h0 h1 (by omega) (by omega) (Nat.le_refl _)
  simp only[execOp,hop,hV]
  refine Z7 ?_
  rw[hmm]at this⊢
  simp only[Option.map_none]at this⊢
  simp only[Instr.sliceAt,Instr.slice,Sem.run_bind,Go.run_underlying hu,Result.andThen_ok]
  simp only[Option.isSome_none,Bool.false_eq_true,if_false,Sem.run_bind,Sem.run_pure,Result.andThen_ok,this]
 ·cases hs
end
end Go.AM
namespace Go.AM
open Go Go.RowKit
section
variable{P:Program}{cfg:Cfg}{base n:Nat}{w:World}{own:Own}{μ:List Nat}{ρ:Env}{st:St}{a:Act}
variable{fid rid idx:Nat}{all:List Oper}{o:Oper}{R:Type}{r:R}
def drawn(w:World)(k:Nat):World:={w with drawn:=k}
theorem Step.drawn(hs:Sto P cfg base w own μ st)(k:Nat):Step base w own μ (AM.drawn w k) own μ (fun _=>False):=
 ⟨⟨rfl,rfl,rfl,Nat.le_refl _,fun _ _=>rfl⟩,fun _ _ h=>⟨h,rfl⟩,fun _ _ _ _=>rfl,fun _ _ h=>h,hs.alloc,hs.low,fun _ c _ _ h=>⟨c,h,rfl⟩,fun _ _ _ _ _ _=>rfl,[],by simp⟩
theorem Rel.same(h:Rel P cfg base n w own μ ρ st a){w':World}{own':Own}(s:Step base w own μ w' own' μ (fun _=>False)):Rel P cfg base n w' own' μ ρ st a:=by
 refine h.step s (fun h=>h) h.sto.len rfl rfl (fun r x b h1 h2=> .inl ⟨h1,fun _ h=>h⟩) fun t=> .inl ⟨rfl,rfl,fun _ h=>h,fun x off hx=>⟨rfl, ?_⟩⟩
 have:=h.env t
 rw[hx]at this
 obtain⟨_,_,_,h3⟩:=this
 exact h3
theorem Step.fresh(hs:Sto P cfg base w own μ st)(k:Nat)(cells:Array Value)(e:TypeId)(fz:Nat×Nat):
  Step base w own μ ((AM.drawn w k).alloc (.cells cells e fz)) (Xy own w.heap.size .pr) μ (fun _=>False):=by
 have s1:=Step.drawn hs k
 have h1:=hs.step s1 hs.len (fun r x b h1 h2=> .inl ⟨h1,fun _ h=>h⟩)
 have s2:=Step.new h1 (.cells cells e fz) .pr (by simp) []
 rw[List.append_nil]at s2
 exact(s1.trans s2).weaken fun g h=>h.elim id id
theorem zgT(h:Pre P cfg base n all w own μ ρ st a o){tk:Bool}{xs:List Operand}(k:Nat){cells:Array Value}{e:TypeId}{fz:Nat×Nat}{v:V}{c:Value}
  (hv: ∀w' own',Step base w (Yy own ρ xs) μ w' own' μ (fun _=>False)→(∀i,i<cells.size→w'.cell? ⟨w.heap.size,i,none⟩=some (cells.getD i undef))→(∀i,own' w.heap.size i= .pr)→VRep w' (prOf own') μ v c)
  (hrun:(execOp a.eval o).run P w= .ok (.value c) ((drawn w k).alloc (.cells cells e fz))):
  OpOK P cfg base n all w own μ o a (ρ.apply (upds ρ tk xs++ZL o.dst v)) st:=by
 obtain⟨hr,hs1,_⟩:=h.rel.read tk xs
 have hk:=Z8 hs1
 have s:=Step.fresh hr.sto k cells e fz
 have hr2:=hr.same s
 have hV:=hv _ _ s (fun i hi=>by
  have:=World.alloc_heap_new (drawn w k) (.cells cells e fz)
  have this:((drawn w k).alloc (.cells cells e fz)).heap[w.heap.size]? =some (.cells cells e fz):=this
  simp only[World.cell?,this]
  simp[Array.getD_eq_getD_getElem?,hi]) (fun i=>zba _ _ _ _)
 have hk2:=hk.trans (s.keeps fun h=>h)
 rw[ZT]
 cases hd:o.dst with
 |none=>exact⟨_,c,_,_,μ,hrun, .inl rfl,by rw[hd];exact hr2,hk2,h.lp.read tk xs⟩
 |some d=>exact⟨_,c,_,_,μ,hrun, .inl rfl,by rw[hd];exact hr2.put d (h.dst d hd) (Qc (h.noPtr hd) tk xs) hV,hk2,(h.lp.read tk xs).set h.mem hd v⟩
theorem zgU{w':World}{pr:Nat→Nat→Prop}{b:Nat}{cells:Array Value}{md:Mode}{sh:Sh}{es:List V}{cap:Nat}(hmd:md≠ .grow)(hf:md= .full→cap=es.length)(hl:es.length≤cap)(hsz:es.length*sh.sz≤cells.size)
  (hc: ∀i,i<cells.size→w'.cell? ⟨b,i,none⟩=some (cells.getD i undef)) (hp: ∀i,pr b i)
  (hr: ∀i j,i<es.length→j<sh.sz→(cells.getD (i*sh.sz+j) undef).oneCell'=true∧VRep w' pr μ (cellAt (es.getD i .undef) j) (cells.getD (i*sh.sz+j) undef))
  (hs: ∀i,i<es.length→Shaped sh (es.getD i .undef)):VRep w' pr μ (.vec md sh es) (.slice (some ⟨b,0,none⟩) es.length cap):=by
 refine .vec md sh es ⟨b,0,none⟩ cap (fun i j=>cells.getD (i*sh.sz+j) undef) hmd hf hl rfl (fun i j hi hj=>⟨?_,hp _,(hr i j hi hj).1⟩) hs fun i j hi hj=>(hr i j hi hj).2
 simp only[Nat.zero_add]
 refine hc _ ?_
 have:i*sh.sz+j<es.length*sh.sz:=by
  have:(i+1)*sh.sz≤es.length*sh.sz:=Nat.mul_le_mul_right _ hi
  rw[Nat.add_mul]at this
  omega
 omega
theorem zad(sh:Sh)(v:V):Zy sh (Zs v)=Zy sh v:=by
 cases v with
 |vec m sh' es=>cases m<;>rfl
 |agg cs=>simp[Zs,Zy]
 |_=>rfl
theorem X1(k i:Nat)(v:V)(h:i<k):(List.replicate k v).getD i .undef=v:=by
 simp[List.getD_eq_getElem?_getD,h]
theorem zlW(h:Pre P cfg base n all w own μ ρ st a o){t e:TypeId}{x y:Operand}(hop:o.op= .makeSlice t x y)(he:Yi P t=some e){tk:Bool}{l:Int}(hx:rd ρ tk x= .int l)(hy:rd ρ tk y= .int l)(h0:0≤l)
  (hroom:roomFor P e l.toNat=true) (hty:okTy P e=true) (hok:Zy (shOf P e) (zeroV P e)=true):
  OpOK P cfg base n all w own μ o a (ρ.apply (upds ρ tk [x,y]++ZL o.dst (.vec .full (shOf P e) (List.replicate l.toNat (zeroV P e))))) st:=by
 have hX:=VRep.int_inv ((hx▸Z0 h tk (xs:=[x,y]) (x:=x) (by simp)).val (by simp))
 have hY:=VRep.int_inv ((hy▸Z0 h tk (xs:=[x,y]) (x:=y) (by simp)).val (by simp))
 have hok':Zy (shOf P e) (XU P e)=true:=by rw[←zad];exact hok
 obtain⟨d,i,hd,hi,hsz,_⟩:=QF hty
 obtain⟨z,hz,hzs⟩: ∃z,i.zero=some z∧z.cells.size=(shOf P e).sz:=by
  obtain⟨i',z,hi',hz,hzs,_⟩:=zaN hty
  rw[hi]at hi';cases hi'
  exact⟨z,hz,hzs⟩
 simp only[roomFor,hi,Option.map_some,Option.getD_some,Bool.and_eq_true,decide_eq_true_eq]at hroom
 obtain⟨hr1,hr2⟩:=hroom
 have hr3:l.toNat*i.bytes*2≤2^48:=by rw[Nat.mul_assoc,Nat.mul_comm i.bytes 2];exact hr1
 have hr4:l.toNat≤l.toNat*i.bytes:=Nat.le_mul_of_pos_right _ hr2
 have hby:(i.bytes:Int)*l≤281474976710656:=by
  have e1:l=(l.toNat:Int):=by omega
  rw[e1,←Int.natCast_mul,Nat.mul_comm]
  omega
 have hrun:=run_make (P:=P) w t e i z (YX he) hi hz .i64 .i64 l l h0 (Int.le_refl _) hby (by omega)
 have hlen:(List.replicate l.toNat (zeroV P e)).length=l.toNat:=List.length_replicate
 refine zgT h w.drawn (cells:=madeCells z.cells (l.toNat*i.size)) (e:=e) (fz:=(0,0)) (c:= .slice (some ⟨w.heap.size,0,none⟩) l.toNat l.toNat) (fun w' own' s hc hp=> ?_) ?_
 ·have:=zgU (w':=w') (pr:=prOf own') (μ:=μ) (b:=w.heap.size) (cells:=madeCells z.cells (l.toNat*i.size)) (md:= .full) (sh:=shOf P e) (es:=List.replicate l.toNat (zeroV P e)) (cap:=l.toNat) (by simp) (fun _=>hlen.symm) (by rw[hlen];exact Nat.le_refl _)
   (by rw[hlen,size_madeCells,hsz];exact Nat.le_refl _) hc hp (fun k j hk hj=> ?_) (fun k hk=> ?_)
  ·rwa [hlen]at this
  ·rw[hlen]at hk
   obtain⟨i',z',hi',hz',_,_,hcz⟩:=JH (w:=w') (μ:=μ) (pr:=prOf own') hty hok'
   rw[hi]at hi';cases hi'
   rw[hz]at hz';cases hz'
   rw[X1 _ _ _ hk]
   have hlt:k*(shOf P e).sz+j<l.toNat*i.size:=by
    have:(k+1)*(shOf P e).sz≤l.toNat*(shOf P e).sz:=Nat.mul_le_mul_right _ hk
    rw[Nat.add_mul]at this
    rw[hsz];omega
   have hcell:(madeCells z.cells (l.toNat*i.size)).getD (k*(shOf P e).sz+j) undef=z.cells.getD j undef:=by
    have hmod:(k*(shOf P e).sz+j) % z.cells.size=j:=by
     rw[hzs,Nat.mul_comm,Nat.mul_add_mod];exact Nat.mod_eq_of_lt hj
    have hjz:j<z.cells.size:=by omega
    simp only[madeCells,Array.getD_eq_getD_getElem?,Array.getElem?_map,Array.getElem?_range,if_pos hlt,Option.map_some,Option.getD_some,hmod]
    simp[hjz]
   rw[hcell]
   obtain⟨h1,h2⟩:=hcz j hj
   refine⟨h1, ?_⟩
   unfold zeroV
   rw[Y5]
   exact h2.plain1
  ·rw[hlen]at hk
   rw[X1 _ _ _ hk]
   exact ZG hok
 ·simp only[execOp,hop,hX,hY]
  exact Z7 hrun
theorem zpj{pr:Nat→Nat→Prop}{m:Mode}{es:List V}{A:Option Addr}{len c:Nat}(hV:VRep w pr μ (.vec m none es) (.slice A len c))(h8:es.all zpd=true):len=es.length∧(A=none→es=[])∧
  ∀b off s,A=some ⟨b,off,s⟩→es≠ []→s=none∧ ∀i,i<es.length→w.cell? ⟨b,off+i,none⟩=some (.int .u8 ((es.map fun v=>match v with| .ik _ n=>n|_=>0).getD i 0)):=by
 cases hV with
 |vecE _ _ _ _ _ _=>exact⟨rfl,fun _=>rfl,fun b off s _ hne=>absurd rfl hne⟩
 |vec _ _ _ ad _ f hm hf hl ha hcell hsh hc=>
  refine⟨rfl,(fun h=>by cases h),fun b off s hA hne=> ?_⟩
  cases hA
  refine⟨ha,fun i hi=> ?_⟩
  have h1:=(hcell i 0 hi (by simp[Sh.sz])).1
  simp only[Sh.sz,Nat.mul_one,Nat.add_zero]at h1
  rw[h1]
  have h2:=hc i 0 hi (by simp[Sh.sz])
  have h3:zpd es[i]=true:=List.all_eq_true.1 h8 _ (List.getElem_mem hi)
  have h4:es.getD i .undef=es[i]:=by simp[List.getD_eq_getElem?_getD,hi]
  rw[h4]at h2
  have h5:(es.map fun v=>match v with| .ik _ n=>n|_=>0).getD i 0=(match es[i]with| .ik _ n=>n|_=>0):=by
   simp[List.getD_eq_getElem?_getD,hi]
  rw[h5]
  revert h2 h3
  cases es[i]with
  |ik k z=>
   cases k<;>simp only[zpd]<;>intro h2 h3<;>first|cases h3|skip
   have:=VRep.ik_inv (h2:VRep w pr μ (.ik .u8 z) _)
   rw[this]
  |_=>simp[zpd]
theorem zpk(h:Pre P cfg base n all w own μ ρ st a o){t u:TypeId}{x:Operand}(hop:o.op= .convert t u x){tk:Bool}{K:V→Option R}(hc:conv P t u (rd ρ tk x) K=some r):
  ∃v,K v=some r∧OpOK P cfg base n all w own μ o a (ρ.apply (upds ρ tk [x]++ZL o.dst v)) st:=by
 have hX:=Z0 h tk (xs:=[x]) (x:=x) (by simp)
 have hrun: ∀{c cv:Value} {w':World},a.eval x=c→(convert t u c).run P w= .ok cv w'→(execOp a.eval o).run P w= .ok (.value cv) w':=by
  intro c cv w' e hr
  simp only[execOp,hop,e]
  exact Z7 hr
 unfold conv at hc
 split at hc
 ·rename_i h1 h2 hv
  rw[hv]at hX
  refine⟨_,hc,Ym h tk [x] (.int _) (hrun (VRep.int_inv (hX.val (by simp))) ?_)⟩
  simp[convert,Go.run_underlying h1,Go.run_underlying h2,Conv.intToInt,go_sem]
 ·rename_i h1 h2 hv
  rw[hv]at hX
  refine⟨_,hc,Ym h tk [x] (.int _) (hrun (VRep.ik_inv (hX.val (by simp))) ?_)⟩
  simp[convert,Go.run_underlying h1,Go.run_underlying h2,Conv.intToInt,go_sem]
 ·rename_i h1 h2 hv
  rw[hv]at hX
  refine⟨_,hc,Ym h tk [x] (.ik _ _) (hrun (VRep.ik_inv (hX.val (by simp))) ?_)⟩
  simp[convert,Go.run_underlying h1,Go.run_underlying h2,Conv.intToInt,go_sem]
 ·rename_i h1 h2 hv
  rw[hv]at hX
  refine⟨_,hc,Ym h tk [x] (.ik _ _) (hrun (VRep.int_inv (hX.val (by simp))) ?_)⟩
  simp[convert,Go.run_underlying h1,Go.run_underlying h2,Conv.intToInt,go_sem]
 ·rename_i h1 h2 hv
  rw[hv]at hX
  refine⟨_,hc,Ym h tk [x] (.str _) (hrun (VRep.str_inv (hX.val (by simp))) ?_)⟩
  simp[convert,Go.run_underlying h1,Go.run_underlying h2,go_sem]
 ·rename_i h1 h2 hv
  rw[hv]at hX
  refine⟨_,hc,Ym h tk [x] (.str _) (hrun (VRep.ik_inv (hX.val (by simp))) ?_)⟩
  simp[convert,Go.run_underlying h1,Go.run_underlying h2,Conv.intToString,go_sem]
 ·rename_i e m es h1 h2 hv
  split at hc
  ·rename_i h3
   obtain⟨h8,hc⟩:=Zh hc
   have hV:=hX.plain
   rw[hv]at hV
   have hV:VRep w (prOf (Yy own ρ [x])) μ (.vec .plain none es) (a.eval x):=by cases m<;>exact hV
   cases hev:a.eval x with
   |slice A len c=>
    rw[hev]at hV
    obtain⟨hl,hA,hcells⟩:=zpj hV h8
    have hstr:strOfNums (es.map fun v=>match v with| .ik _ n=>n|_=>0)=zuO es:=by
     unfold strOfNums zuO
     congr 1
     rw[List.map_map]
     congr 1
     apply List.map_congr_left
     intro v hv'
     have:=List.all_eq_true.1 h8 v hv'
     cases v with
     |ik k z=>cases k<;>simp_all[zpd,zq1]
     |_=>simp[zpd]at this
    refine⟨_,hc,Ym h tk [x] (.str _) (hrun hev ?_)⟩
    rw[←hstr]
    cases A with
    |none=>
     have:=hA rfl
     subst this
     exact run_convert_bytes_nil w t e h1 h3 len c u h2
    |some ad=>
     obtain⟨b,off,s⟩:=ad
     by_cases hne:es=[]
     ·subst hne
      have hl:len=0:=hl
      subst hl
      rw[run_convert_bytes_string w t u e _ 0 c h1 h3 h2]
      have:=run_bytesToString (P:=P) w ⟨b,off,s⟩ 0 c [] (run_loadCells_list (P:=P) w ⟨b,off,s⟩ [] (fun j v hj=>by simp at hj))
      rw[this];rfl
     ·obtain⟨rfl,hcc⟩:=hcells b off s rfl hne
      exact run_convert_bytes_arg w t e h1 h3 b off len c _ (by simp[hl]) (fun i hi=>hcc i (by omega)) u h2
   |_=>rw[hev]at hV;cases hV
  ·cases hc
 ·rename_i e s h1 h2 hv
  split at hc
  ·rename_i h3
   rw[hv]at hX
   have hX:=VRep.str_inv (hX.val (by simp))
   refine⟨_,hc,zgT h (w.drawn+1) (cells:=bytesRow s (grownCap w s.size 0 e)) (e:=e) (fun w' own' st' hcell hp=> ?_) (hrun hX (run_bytes_of_string w t u e s h1 h2 h3))⟩
   have hl:(zaw s).length=s.size:=by simp[zaw]
   have hg: ∀i,i<s.size→(bytesRow s (grownCap w s.size 0 e)).getD i undef= .int .u8 ((s.data.getD i 0).toNat:Int)∧(zaw s).getD i .undef= .ik .u8 ((s.data.getD i 0).toNat:Int):=by
    intro i hi
    have hi':i<s.data.size:=hi
    constructor
    ·unfold bytesRow
     rw[Array.getD_eq_getD_getElem?,Array.getElem?_append_left (by simpa using hi')]
     simp only[Array.getElem?_map,Array.getElem?_eq_getElem hi',Option.map_some,Option.getD_some,Array.getD_eq_getD_getElem?]
    ·simp only[zaw,List.getD_eq_getElem?_getD,List.getElem?_map,Array.getElem?_toList,Array.getElem?_eq_getElem hi',Option.map_some,Option.getD_some,Array.getD_eq_getD_getElem?]
   have:=zgU (w':=w') (pr:=prOf own') (μ:=μ) (b:=w.heap.size) (cells:=bytesRow s (grownCap w s.size 0 e)) (md:= .plain) (sh:=none) (es:=zaw s) (cap:=grownCap w s.size 0 e) (by simp) (by simp) (by rw[hl];exact grownCap_ge _ _ _ _)
    (by
     rw[hl]
     unfold bytesRow
     simp only[Array.size_append,Array.size_map,Sh.sz,Nat.mul_one]
     have:s.data.size=s.size:=rfl
     omega) hcell hp (fun i j hi hj=> ?_) (fun i hi=> ?_)
   ·rwa [hl]at this
   ·rw[hl]at hi
    have:j=0:=by simpa[Sh.sz]using hj
    subst this
    simp only[Sh.sz,Nat.mul_one,Nat.add_zero]
    rw[(hg i hi).1,(hg i hi).2]
    exact⟨rfl, .ik _ _⟩
   ·rw[hl]at hi
    rw[(hg i hi).2];trivial
  ·cases hc
 ·cases hc
end
end Go.AM
namespace Go.AM
open Go Go.RowKit
section
variable{P:Program}{cfg:Cfg}{base n:Nat}{w:World}{own:Own}{μ:List Nat}{ρ:Env}{st:St}{a:Act}
variable{fid rid idx:Nat}{all:List Oper}{o:Oper}{R:Type}{r:R}
theorem ziW(off:Nat): ∀(vs:List Value) (k:Nat) (cs:Array Value),off+k+vs.length≤cs.size→
  ((vs.zipIdx k).foldl (fun cs (x:Value×Nat)=>cs.setIfInBounds (off+x.2) x.1) cs).size=cs.size∧
  ∀i,((vs.zipIdx k).foldl (fun cs (x:Value×Nat)=>cs.setIfInBounds (off+x.2) x.1) cs).getD i undef=if off+k≤i∧i<off+k+vs.length then vs.getD (i-(off+k)) undef else cs.getD i undef
 |[],k,cs,_=>⟨rfl,fun i=>by rw[if_neg (by simp only[List.length_nil];omega)];rfl⟩
 |v::vs,k,cs,h=>by
  simp only[List.length_cons]at h
  obtain⟨h1,h2⟩:=ziW off vs (k+1) (cs.setIfInBounds (off+k) v) (by simp;omega)
  simp only[List.zipIdx_cons,List.foldl_cons]
  refine⟨by rw[h1];simp,fun i=> ?_⟩
  rw[h2]
  simp only[List.length_cons]
  by_cases h9:i=off+k
  ·subst h9
   rw[if_neg (by omega),if_pos (by omega)]
   have:off+k<cs.size:=by omega
   simp[Array.getD_eq_getD_getElem?,this]
  ·by_cases h10:off+(k+1)≤i∧i<off+(k+1)+vs.length
   ·rw[if_pos h10,if_pos (by omega)]
    obtain⟨q,rfl⟩: ∃q,i=off+(k+1)+q:=⟨i-(off+(k+1)),by omega⟩
    rw[show off+(k+1)+q-(off+(k+1))=q by omega,show off+(k+1)+q-(off+k)=q+1 by omega]
    simp
   ·rw[if_neg h10,if_neg (by omega)]
    simp[Array.getD_eq_getD_getElem?,Ne.symm h9]
theorem zs1{place:Nat→Option (Nat×Nat)}{cells:Array Value}{i off size:Nat}{v:Value}{rest:List (Nat×Value)}(hp:place i=some (off,size))(hv:v.cells.size=size)(hb:off+size≤cells.size):
  ∃cells',Instr.fill place cells ((i,v)::rest)=Instr.fill place cells' rest∧cells'.size=cells.size∧
   ∀k,cells'.getD k undef=if off≤k∧k<off+size then v.cells.toList.getD (k-off) undef else cells.getD k undef:=by
 obtain⟨h1,h2⟩:=ziW off v.cells.toList 0 cells (by simp;omega)
 refine⟨v.cells.zipIdx.foldl (fun cs (c,j)=>cs.setIfInBounds (off+j) c) cells, ?_, ?_, ?_⟩
 ·simp only[Instr.fill,hp]
  rw[if_neg (by simp[hv];omega)]
 ·rw[←Array.foldl_toList,Array.toList_zipIdx];exact h1
 ·intro k
  rw[←Array.foldl_toList,Array.toList_zipIdx]
  have:=h2 k
  simp only[Nat.add_zero,Array.length_toList,hv]at this
  exact this
def ziX(w:World)(pr:Nat→Nat→Prop)(μ:List Nat)(N:Nat)(F:Nat→V)(cells:Array Value):Prop:=
 cells.size=N∧ ∀j,j<N→(cells.getD j undef).oneCell'=true∧VRep w pr μ (F j) (cells.getD j undef)
theorem znp{pr:Nat→Nat→Prop}{place:Nat→Option (Nat×Nat)}{N:Nat}{F F':Nat→V}{cells:Array Value}{i off:Nat}{sh:Sh}{x:V}{v:Value}{rest:List (Nat×Value)}(hp:place i=some (off,sh.sz))(hI:ziX w pr μ N F cells)
  (hv:VRep w pr μ x v) (hok:Zy sh x=true) (hb:off+sh.sz≤N) (hF: ∀k,k<N→F' k=if off≤k∧k<off+sh.sz then cellAt x (k-off)else F k):
  ∃cells',Instr.fill place cells ((i,v)::rest)=Instr.fill place cells' rest∧ziX w pr μ N F' cells':=by
 obtain⟨h1,h2⟩:=Jg hv hok
 obtain⟨c',e1,e2,e3⟩:=zs1 (rest:=rest) hp h1 (by rw[hI.1];exact hb)
 refine⟨c',e1,e2.trans hI.1,fun j hj=> ?_⟩
 rw[e3,hF j hj]
 split
 ·exact h2 _ (by omega)
 ·exact hI.2 j hj
theorem zbI{cs new:List V}{off:Nat}(h:off+new.length≤cs.length)(j:Nat):(setCells cs off new).getD j .undef=if off≤j∧j<off+new.length then new.getD (j-off) .undef else cs.getD j .undef:=by
 unfold setCells
 simp only[List.getD_eq_getElem?_getD]
 rcases Nat.lt_or_ge j off with h1|h1
 ·rw[if_neg (by omega),List.append_assoc,List.getElem?_append_left (by simp;omega),List.getElem?_take,if_pos h1]
 ·rcases Nat.lt_or_ge j (off+new.length)with h2|h2
  ·rw[if_pos ⟨h1,h2⟩,List.getElem?_append_left (by simp;omega),List.getElem?_append_right (by simp;omega)]
   congr 2
   simp;omega
  ·rw[if_neg (by omega),List.getElem?_append_right (by simp;omega),List.getElem?_drop]
   congr 2
   simp;omega
theorem X7{cs new:List V}{off:Nat}(h:off+new.length≤cs.length):(setCells cs off new).length=cs.length:=by
 simp[setCells];omega
def placeOf(P:Program)(t:TypeId)(i:Nat):Option (Nat×Sh):=
 match P.underlying t with
 |some (.struct fs)=>(fs[i]?).map fun f=>(f.offset,shOf P f.type)
 |some (.array _ e)=>some (i*(shOf P e).sz,shOf P e)
 |_=>none
theorem zbJ{pr:Nat→Nat→Prop}{t:TypeId}{place:Nat→Option (Nat×Nat)}(hp: ∀i off sh,placeOf P t i=some (off,sh)→place i=some (off,sh.sz)):
  ∀(ps:List (Nat×V)) (cps:List (Nat×Value)) (cs cs':List V) (cells:Array Value),ps.length=cps.length→(∀k,k<ps.length→(ps.getD k (0, .undef)).1=(cps.getD k (0,undef)).1∧VRep w pr μ (plain1 (ps.getD k (0, .undef)).2) (cps.getD k (0,undef)).2)→
   (∀k,k<ps.length→ ∀t,VRep w pr μ (plainS P t (ps.getD k (0, .undef)).2) (cps.getD k (0,undef)).2)→
   XA P t ps cs=some cs'→ziX w pr μ cs.length (fun j=>cs.getD j .undef) cells→ ∃cells',Instr.fill place cells cps=some cells'∧cs'.length=cs.length∧ziX w pr μ cs.length (fun j=>cs'.getD j .undef) cells'
 |[],[],cs,cs',cells,_,_,_,h,hI=>by
  simp only[XA,Option.some.injEq]at h
  subst h
  exact⟨cells,rfl,rfl,hI⟩
 |(i,x)::ps,(i',c)::cps,cs,cs',cells,hl,h1,h2,h,hI=>by
  obtain⟨rfl,_⟩:=h1 0 (by simp)
  have hv:=h2 0 (by simp)
  simp only[List.getD_cons_zero]at hv
  have key: ∃off u,placeOf P t i=some (off,shOf P u)∧Zy (shOf P u) (plainS P u x)=true∧off+(shOf P u).sz≤cs.length∧XA P t ps (setCells cs off (cellsOf (plainS P u x)))=some cs':=by
   unfold XA at h
   split at h
   ·rename_i fs hu
    split at h
    ·rename_i f hf
     simp only[Bool.cond_eq_ite]at h
     obtain⟨hc,h⟩:=zdx h
     simp only[Bool.and_eq_true,decide_eq_true_eq]at hc
     exact⟨f.offset,f.type,by simp[placeOf,hu,hf],hc.1.2,hc.2,h⟩
    ·cases h
   ·rename_i k e hu
    simp only[Bool.cond_eq_ite]at h
    obtain⟨hc,h⟩:=zdx h
    simp only[Bool.and_eq_true,decide_eq_true_eq]at hc
    exact⟨i*(shOf P e).sz,e,by simp[placeOf,hu],hc.1.2,hc.2,h⟩
   ·cases h
  obtain⟨off,u,hpl,hok,hb,h⟩:=key
  have hlen:=(ZG hok).len
  obtain⟨c',e1,hI'⟩:=znp (rest:=cps) (F':=fun j=>(setCells cs off (cellsOf (plainS P u x))).getD j .undef) (hp _ _ _ hpl) hI (hv u) hok hb (fun k _=>by
   rw[zbI (by omega),hlen];rfl)
  have hsl:(setCells cs off (cellsOf (plainS P u x))).length=cs.length:=X7 (by omega)
  obtain⟨cells',e2,e3,e4⟩:=zbJ hp ps cps _ cs' c' (by simpa using hl) (fun k hk=>by simpa using h1 (k+1) (by simpa using hk)) (fun k hk t=>by simpa using h2 (k+1) (by simpa using hk) t) h (by rw[hsl];exact hI')
  rw[hsl]at e3 e4
  exact⟨cells',e1.trans e2,e3,e4⟩
theorem zeE: ∀(fs:List Field),(∀f∈fs,okTy P f.type=true)→fs.mapM (fun f=>(P.info? f.type).map fun i=>(f.offset,i.size))=some (fs.map fun f=>(f.offset,(shOf P f.type).sz))
 |[],_=>rfl
 |f::fs,h=>by
  obtain⟨d,i,_,hi,hs,_⟩:=QF (h f (by simp))
  simp[List.mapM_cons,hi,hs,zeE fs fun g hg=>h g (by simp[hg])]
theorem ziY{pr:Nat→Nat→Prop}{t:TypeId}(hty:okTy P t=true)(hf:zbZ P t=true)(hsome:(shOf P t).isSome=true){ps:List (Nat×V)}{cps:Array (Nat×Value)}(hl:ps.length=cps.size)
  (h1: ∀k,k<ps.length→(ps.getD k (0, .undef)).1=(cps.toList.getD k (0,undef)).1∧ ∀t,VRep w pr μ (plainS P t (ps.getD k (0, .undef)).2) (cps.toList.getD k (0,undef)).2)
  (h1': ∀k,k<ps.length→VRep w pr μ (plain1 (ps.getD k (0, .undef)).2) (cps.toList.getD k (0,undef)).2)
  {cs:List V} (hlay:XA P t ps (zeroCells P t)=some cs) (hok:Zy (shOf P t) (.agg cs)=true): ∃ccs,(Instr.build t cps).run P w= .ok (.agg ccs) w∧VRep w pr μ (.agg cs) (.agg ccs):=by
 obtain⟨i,z,hi,hz,hzs,hz1⟩:=zaN hty
 have hlen0:cs.length=(zeroCells P t).length→(zeroCells P t).length=z.cells.size:=by
  intro e
  obtain⟨k,hk⟩:=Option.isSome_iff_exists.1 hsome
  rw[hk]at hok hzs
  simp only[Zy,Sh.sz,Option.isSome_some,Bool.true_and,beq_iff_eq]at hok hzs
  omega
 have hcl: ∀(ps:List (Nat×V)) (cs cs':List V),XA P t ps cs=some cs'→cs'.length=cs.length:=by
  intro ps
  induction ps with
  |nil=>intro cs cs' h;simp only[XA,Option.some.injEq]at h;rw[h]
  |cons p ps ih=>
   intro cs cs' h
   obtain⟨i,x⟩:=p
   unfold XA at h
   split at h
   ·split at h
    ·simp only[Bool.cond_eq_ite]at h
     obtain⟨hc,h⟩:=zdx h
     simp only[Bool.and_eq_true,decide_eq_true_eq]at hc
     rw[ih _ _ h,X7 (by rw[(ZG hc.1.2).len];exact hc.2)]
    ·cases h
   ·simp only[Bool.cond_eq_ite]at h
    obtain⟨hc,h⟩:=zdx h
    simp only[Bool.and_eq_true,decide_eq_true_eq]at hc
    rw[ih _ _ h,X7 (by rw[(ZG hc.1.2).len];exact hc.2)]
   ·cases h
 have hzl:=hlen0 (hcl _ _ _ hlay)
 have hI0:ziX w pr μ (zeroCells P t).length (fun j=>(zeroCells P t).getD j .undef) z.cells:=by
  refine⟨hzl.symm,fun j hj=>⟨?_,(zeB hi hz j hj).2⟩⟩
  have hj':j<z.cells.size:=by omega
  have:=Array.all_eq_true.1 hz1 j hj'
  simpa[Array.getD_eq_getD_getElem?,hj']using this
 have fin: ∀cells',ziX w pr μ (zeroCells P t).length (fun j=>cs.getD j .undef) cells'→VRep w pr μ (.agg cs) (.agg cells'):=by
  intro cells' hI
  have hl:=hcl _ _ _ hlay
  exact .agg cs cells' (by rw[hI.1,hl]) (fun j hj=>(hI.2 j (by omega)).1) fun j hj=>(hI.2 j (by omega)).2
 have hbuilt: ∃cells',P.built t cps.toList=some cells'∧ziX w pr μ (zeroCells P t).length (fun j=>cs.getD j .undef) cells':=by
  unfold Program.built
  unfold zbZ at hf
  split at hf
  ·rename_i fs hu
   have hpl:=zeE (P:=P) fs.toList (List.all_eq_true.1 hf)
   simp only[hi,hu,hz,hpl]
   obtain⟨c',e1,_,e3⟩:=zbJ (w:=w) (μ:=μ) (pr:=pr) (t:=t) (place:=fun x=>(fs.toList.map fun f=>(f.offset,(shOf P f.type).sz)).toArray[x]?) (fun i off sh h=>by
    simp only[placeOf,hu]at h
    cases hg:fs[i]? with
    |none=>rw[hg]at h;cases h
    |some f=>
     rw[hg]at h
     simp only[Option.map_some,Option.some.injEq,Prod.mk.injEq]at h
     obtain⟨rfl,rfl⟩:=h
     simp[hg]) ps cps.toList (zeroCells P t) cs z.cells (by simpa using hl) (fun k hk=>⟨(h1 k hk).1,h1' k hk⟩) (fun k hk=>(h1 k hk).2) hlay hI0
   exact⟨c',e1,e3⟩
  ·rename_i k e hu
   obtain⟨d,ie,_,hie,hes,_⟩:=QF hf
   simp only[hi,hu,hz,hie]
   obtain⟨c',e1,_,e3⟩:=zbJ (w:=w) (μ:=μ) (pr:=pr) (t:=t) (place:=fun i=>some (i*ie.size,ie.size)) (fun i off sh h=>by
    simp only[placeOf,hu,Option.some.injEq,Prod.mk.injEq]at h
    obtain⟨rfl,rfl⟩:=h
    rw[hes]) ps cps.toList (zeroCells P t) cs z.cells (by simpa using hl) (fun k hk=>⟨(h1 k hk).1,h1' k hk⟩) (fun k hk=>(h1 k hk).2) hlay hI0
   exact⟨c',e1,e3⟩
  ·cases hf
 obtain⟨cells',e1,e2⟩:=hbuilt
 exact⟨cells',run_build w t cps cells' e1,fin cells' e2⟩
theorem zfc{pr:Nat→Nat→Prop}{cs:List V}{ccs:Array Value}(h:VRep w pr μ (.agg cs) (.agg ccs)):VRep w pr μ (Zs (.agg cs)) (.agg ccs):=by
 cases h with
 |agg _ _ hl h1 hc=>
  refine .agg _ _ (by simpa using hl) (fun i hi=>h1 i (by simpa using hi)) fun i hi=> ?_
  have hi':i<cs.length:=by simpa using hi
  have:=(hc i hi').plain1
  simpa[List.getD_eq_getElem?_getD,hi']using this
theorem zs2(h:Pre P cfg base n all w own μ ρ st a o){t:TypeId}{ps:Array (Nat×Operand)}(hop:o.op= .build t ps){tk q:Bool}{cs:List V}(hlay:XA P t (ps.toList.map fun p=>(p.1,rd ρ tk p.2)) (zeroCells P t)=some cs)
  (hty:okTy P t=true) (hf:zbZ P t=true) (hok:Zy (shOf P t) (.agg cs)=true) (hsome:(shOf P t).isSome=true):
  OpOK P cfg base n all w own μ o a (ρ.apply (upds ρ tk (ps.toList.map (·.2))++ZL o.dst (bif q then .agg cs else Zs (.agg cs)))) st:=by
 have hr: ∀k,k<(ps.toList.map fun p=>(p.1,rd ρ tk p.2)).length→((ps.toList.map fun p=>(p.1,rd ρ tk p.2)).getD k (0, .undef)).1=((ps.map fun p=>(p.1,a.eval p.2)).toList.getD k (0,undef)).1∧
   ValRep w (Yy own ρ (ps.toList.map (·.2))) μ (ps.toList.getD k (0, .const undef)).2 ((ps.toList.map fun p=>(p.1,rd ρ tk p.2)).getD k (0, .undef)).2 ((ps.map fun p=>(p.1,a.eval p.2)).toList.getD k (0,undef)).2:=by
  intro k hk
  have hk':k<ps.size:=by simpa using hk
  have:=Z0 h tk (xs:=ps.toList.map (·.2)) (x:=(ps[k]).2) (List.mem_map.2 ⟨ps[k],by simp,rfl⟩)
  simp only[List.getD_eq_getElem?_getD,Array.toList_map,List.getElem?_map,Array.getElem?_toList,Array.getElem?_eq_getElem hk',Option.map_some,Option.getD_some]
  exact⟨trivial,this⟩
 obtain⟨ccs,hrun,hv⟩:=ziY (w:=w) (μ:=μ) (pr:=prOf (Yy own ρ (ps.toList.map (·.2)))) hty hf hsome (ps:=ps.toList.map fun p=>(p.1,rd ρ tk p.2)) (cps:=ps.map fun p=>(p.1,a.eval p.2)) (by simp)
  (fun k hk=>⟨(hr k hk).1,fun t=>(hr k hk).2.plainS⟩) (fun k hk=>(hr k hk).2.plain) hlay hok
 have hrun':(execOp a.eval o).run P w= .ok (.value (.agg ccs)) w:=by
  simp only[execOp,hop]
  exact Z7 hrun
 refine Ym h tk _ (c:= .agg ccs) ?_ hrun'
 cases q with
 |true=>exact hv
 |false=>exact zfc hv
def ziv(sz:Nat)(es:List V)(k:Nat):V:=cellAt (es.getD (k/sz) .undef) (k % sz)
theorem zq3{sz:Nat}(es:List V){i j:Nat}(hj:j<sz):ziv sz es (i*sz+j)=cellAt (es.getD i .undef) j:=by
 unfold ziv
 rw[Nat.mul_comm,Nat.mul_add_div (by omega),Nat.mul_add_mod,Nat.div_eq_of_lt hj,Nat.mod_eq_of_lt hj,Nat.add_zero]
theorem zs3{sz:Nat}{es:List V}{i:Nat}(hi:i<es.length)(v:V){k:Nat}(hk:k<es.length*sz):ziv sz (es.set i v) k=if i*sz≤k∧k<i*sz+sz then cellAt v (k-i*sz)else ziv sz es k:=by
 have hsz:0<sz:=Nat.pos_of_ne_zero fun e=>by subst e;omega
 have hdm:sz*(k/sz)+k % sz=k:=Nat.div_add_mod k sz
 have hml:k % sz<sz:=Nat.mod_lt _ hsz
 unfold ziv
 split
 ·rename_i h
  have hd:k/sz=i:=Nat.div_eq_of_lt_le h.1 (by rw[Nat.add_mul,Nat.one_mul];exact h.2)
  have hm:k % sz=k-i*sz:=by rw[hd,Nat.mul_comm]at hdm;omega
  rw[hd,hm,List.getD_eq_getElem?_getD,List.getElem?_set_self hi];rfl
 ·rename_i h
  have hd:k/sz≠i:=by
   intro e
   rw[e,Nat.mul_comm]at hdm
   exact h ⟨by omega,by omega⟩
  rw[List.getD_eq_getElem?_getD,List.getElem?_set_ne (Ne.symm hd),←List.getD_eq_getElem?_getD]
theorem zbK{pr:Nat→Nat→Prop}{e:TypeId}{rdp:Operand→V}{ev':Operand→Value}: ∀(ps:List (Nat×Operand)) (es es':List V) (cells:Array Value),(∀p∈ps,VRep w pr μ (plainAs P e (rdp p.2)) (ev' p.2))→
  YT P e rdp ps es=some es'→(∀i,i<es.length→Shaped (shOf P e) (es.getD i .undef))→ziX w pr μ (es.length*(shOf P e).sz) (ziv (shOf P e).sz es) cells→
  ∃cells',Instr.fill (fun i=>some (i*(shOf P e).sz,(shOf P e).sz)) cells (ps.map fun p=>(p.1,ev' p.2))=some cells'∧es'.length=es.length∧(∀i,i<es'.length→Shaped (shOf P e) (es'.getD i .undef))∧
   ziX w pr μ (es.length*(shOf P e).sz) (ziv (shOf P e).sz es') cells'
 |[],es,es',cells,_,h,hs,hI=>by
  simp only[YT,Option.some.injEq]at h
  subst h
  exact⟨cells,rfl,rfl,hs,hI⟩
 |(i,x)::ps,es,es',cells,hv,h,hs,hI=>by
  simp only[YT,Bool.cond_eq_ite]at h
  obtain⟨hc,h⟩:=zdx h
  simp only[Bool.and_eq_true,decide_eq_true_eq]at hc
  obtain⟨⟨hty,hok⟩,hi⟩:=hc
  have hbound:i*(shOf P e).sz+(shOf P e).sz≤es.length*(shOf P e).sz:=by
   have:=Nat.mul_le_mul_right (shOf P e).sz hi
   rw[Nat.succ_mul]at this
   exact this
  obtain⟨c',e1,hI'⟩:=znp (rest:=ps.map fun p=>(p.1,ev' p.2)) (place:=fun i=>some (i*(shOf P e).sz,(shOf P e).sz)) (F':=ziv (shOf P e).sz (es.set i (plainAs P e (rdp x)))) rfl hI (hv _ (List.mem_cons_self ..)) hok hbound (fun k hk=>zs3 hi _ hk)
  have hl:(es.set i (plainAs P e (rdp x))).length=es.length:=List.length_set
  obtain⟨cells',e2,e3,e4,e5⟩:=zbK ps (es.set i (plainAs P e (rdp x))) es' c' (fun p hp=>hv p (List.mem_cons_of_mem _ hp)) h (fun k hk=>by
   rw[hl]at hk
   rw[List.getD_eq_getElem?_getD]
   by_cases hki:k=i
   ·subst hki
    rw[List.getElem?_set_self hi]
    exact ZG hok
   ·rw[List.getElem?_set_ne (Ne.symm hki),←List.getD_eq_getElem?_getD]
    exact hs k hk) (by rw[hl];exact hI')
  rw[hl]at e3 e5
  exact⟨cells',e1.trans e2,e3,e4,e5⟩
theorem zcZ(h:Pre P cfg base n all w own μ ρ st a o){t e:TypeId}{len:Nat}{ps:Array (Nat×Operand)}(hop:o.op= .buildSlice t len ps)(he:Yi P t=some e){tk:Bool}{es:List V}
  (hlay:YT P e (rd ρ tk) ps.toList (List.replicate len (zeroV P e))=some es) (hty:okTy P e=true) (hok:Zy (shOf P e) (zeroV P e)=true) (hsz:len*(shOf P e).sz≤2^24):
  ∃cells:Array Value,cells.size=len*(shOf P e).sz∧
   (∀w' own',Step base w (Yy own ρ (ps.toList.map (·.2))) μ w' own' μ (fun _=>False)→(∀i,i<cells.size→w'.cell? ⟨w.heap.size,i,none⟩=some (cells.getD i undef))→(∀i,own' w.heap.size i= .pr)→VRep w' (prOf own') μ (.vec .full (shOf P e) es) (.slice (some ⟨w.heap.size,0,none⟩) len len))∧
   (execOp a.eval o).run P w= .ok (.value (.slice (some ⟨w.heap.size,0,none⟩) len len)) ((drawn w w.drawn).alloc (.cells cells e (0,0))):=by
 have hok':Zy (shOf P e) (XU P e)=true:=by rw[←zad];exact hok
 obtain⟨i,z,hi,hz,hzs,_,hcz⟩:=JH (w:=w) (μ:=μ) (pr:=prOf (Yy own ρ (ps.toList.map (·.2)))) hty hok'
 have hl0:(List.replicate len (zeroV P e)).length=len:=List.length_replicate
 have hI0:ziX w (prOf (Yy own ρ (ps.toList.map (·.2)))) μ ((List.replicate len (zeroV P e)).length*(shOf P e).sz) (ziv (shOf P e).sz (List.replicate len (zeroV P e))) (madeCells z.cells (len*(shOf P e).sz)):=by
  rw[hl0]
  refine⟨size_madeCells _ _,fun k hk=> ?_⟩
  have hpos:0<(shOf P e).sz:=Nat.pos_of_ne_zero fun e=>by rw[e]at hk;omega
  have hml:k % (shOf P e).sz<(shOf P e).sz:=Nat.mod_lt _ hpos
  have hcell:(madeCells z.cells (len*(shOf P e).sz)).getD k undef=z.cells.getD (k % (shOf P e).sz) undef:=by
   have hjz:k % (shOf P e).sz<z.cells.size:=by omega
   simp only[madeCells,Array.getD_eq_getD_getElem?,Array.getElem?_map,Array.getElem?_range,if_pos hk,Option.map_some,Option.getD_some,hzs]
   simp[hjz]
  have hd:k/(shOf P e).sz<len:=Nat.div_lt_of_lt_mul (by rw[Nat.mul_comm];exact hk)
  rw[hcell]
  unfold ziv
  rw[X1 _ _ _ hd]
  obtain⟨h1,h2⟩:=hcz _ hml
  refine⟨h1, ?_⟩
  unfold zeroV
  rw[Y5]
  exact h2.plain1
 obtain⟨cells,e1,e2,e3,hI⟩:=zbK (ev':=a.eval) ps.toList _ es _ (fun p hp=>(Z0 h tk (xs:=ps.toList.map (·.2)) (x:=p.2) (List.mem_map.2 ⟨p,hp,rfl⟩)).plainAs) hlay (fun k hk=>by
  rw[hl0]at hk
  rw[X1 _ _ _ hk];exact ZG hok) hI0
 rw[hl0]at e2 hI
 refine⟨cells,hI.1,fun w' own' s hc hp=> ?_, ?_⟩
 ·have:=zgU (w':=w') (pr:=prOf own') (μ:=μ) (b:=w.heap.size) (cells:=cells) (md:= .full) (sh:=shOf P e) (es:=es) (cap:=len) (by simp) (fun _=>e2.symm) (by rw[e2];exact Nat.le_refl _)
   (by rw[e2,hI.1];exact Nat.le_refl _) hc hp (fun k j hk hj=> ?_) e3
  ·rwa [e2]at this
  ·rw[e2]at hk
   have hlt:k*(shOf P e).sz+j<len*(shOf P e).sz:=by
    have:(k+1)*(shOf P e).sz≤len*(shOf P e).sz:=Nat.mul_le_mul_right _ hk
    rw[Nat.add_mul]at this
    omega
   obtain⟨h1,h2⟩:=hI.2 _ hlt
   rw[zq3 es hj]at h2
   exact⟨h1,s.vrep h2⟩
 ·simp only[execOp,hop]
  refine Z7 ?_
  have hne: ¬(len*(shOf P e).sz>2^24):=by omega
  have e1':Instr.fill (fun i=>some (i*(shOf P e).sz,(shOf P e).sz)) (madeCells z.cells (len*(shOf P e).sz)) (ps.map fun p=>(p.1,a.eval p.2)).toList=some cells:=by
   rw[Array.toList_map];exact e1
  simp only[Instr.buildSlice,Sem.run_bind,Go.run_underlying (YX he),Result.andThen_ok,YW hty,hne,if_false]
  by_cases h0:len*(shOf P e).sz=0
  ·have e0:madeCells z.cells (len*(shOf P e).sz)=(Array.range (len*(shOf P e).sz)).map ((#[]:Array Value)[· % (#[]:Array Value).size]!):=by
    rw[h0];simp[madeCells]
   rw[e0]at e1'
   simp only[h0,if_true,Sem.run_bind,Sem.run_pure,Result.andThen_ok]
   rw[h0]at e1'
   simp only[e1']
   rfl
  ·simp only[h0,if_false,Sem.run_bind,X0 hi hz,Sem.run_pure,Result.andThen_ok]
   have:(Array.range (len*(shOf P e).sz)).map (z.cells[· % z.cells.size]!)=madeCells z.cells (len*(shOf P e).sz):=rfl
   simp only[this,e1']
   rfl
theorem zgV(h:Pre P cfg base n all w own μ ρ st a o){t e:TypeId}{len:Nat}{ps:Array (Nat×Operand)}(hop:o.op= .buildSlice t len ps)(he:Yi P t=some e){tk:Bool}{es:List V}
  (hlay:YT P e (rd ρ tk) ps.toList (List.replicate len (zeroV P e))=some es) (hty:okTy P e=true) (hok:Zy (shOf P e) (zeroV P e)=true) (hsz:len*(shOf P e).sz≤2^24):
  ∃cells:Array Value,cells.size=len*(shOf P e).sz∧es.length=len∧(∀k,k<es.length→Shaped (shOf P e) (es.getD k .undef))∧
   (∀k j,k<len→j<(shOf P e).sz→(cells.getD (k*(shOf P e).sz+j) undef).oneCell'=true∧VRep w (prOf (Yy own ρ (ps.toList.map (·.2)))) μ (cellAt (es.getD k .undef) j) (cells.getD (k*(shOf P e).sz+j) undef))∧
   (execOp a.eval o).run P w= .ok (.value (.slice (some ⟨w.heap.size,0,none⟩) len len)) ((drawn w w.drawn).alloc (.cells cells e (0,0))):=by
 have hok':Zy (shOf P e) (XU P e)=true:=by rw[←zad];exact hok
 obtain⟨i,z,hi,hz,hzs,_,hcz⟩:=JH (w:=w) (μ:=μ) (pr:=prOf (Yy own ρ (ps.toList.map (·.2)))) hty hok'
 have hl0:(List.replicate len (zeroV P e)).length=len:=List.length_replicate
 have hI0:ziX w (prOf (Yy own ρ (ps.toList.map (·.2)))) μ ((List.replicate len (zeroV P e)).length*(shOf P e).sz) (ziv (shOf P e).sz (List.replicate len (zeroV P e))) (madeCells z.cells (len*(shOf P e).sz)):=by
  rw[hl0]
  refine⟨size_madeCells _ _,fun k hk=> ?_⟩
  have hpos:0<(shOf P e).sz:=Nat.pos_of_ne_zero fun e=>by rw[e]at hk;omega
  have hml:k % (shOf P e).sz<(shOf P e).sz:=Nat.mod_lt _ hpos
  have hcell:(madeCells z.cells (len*(shOf P e).sz)).getD k undef=z.cells.getD (k % (shOf P e).sz) undef:=by
   have hjz:k % (shOf P e).sz<z.cells.size:=by omega
   simp only[madeCells,Array.getD_eq_getD_getElem?,Array.getElem?_map,Array.getElem?_range,if_pos hk,Option.map_some,Option.getD_some,hzs]
   simp[hjz]
  have hd:k/(shOf P e).sz<len:=Nat.div_lt_of_lt_mul (by rw[Nat.mul_comm];exact hk)
  rw[hcell]
  unfold ziv
  rw[X1 _ _ _ hd]
  obtain⟨h1,h2⟩:=hcz _ hml
  refine⟨h1, ?_⟩
  unfold zeroV
  rw[Y5]
  exact h2.plain1
 obtain⟨cells,e1,e2,e3,hI⟩:=zbK (ev':=a.eval) ps.toList _ es _ (fun p hp=>(Z0 h tk (xs:=ps.toList.map (·.2)) (x:=p.2) (List.mem_map.2 ⟨p,hp,rfl⟩)).plainAs) hlay (fun k hk=>by
  rw[hl0]at hk
  rw[X1 _ _ _ hk];exact ZG hok) hI0
 rw[hl0]at e2 hI
 refine⟨cells,hI.1,e2,e3,fun k j hk hj=> ?_, ?_⟩
 ·have hlt:k*(shOf P e).sz+j<len*(shOf P e).sz:=by
   have:(k+1)*(shOf P e).sz≤len*(shOf P e).sz:=Nat.mul_le_mul_right _ hk
   rw[Nat.add_mul]at this
   omega
  obtain⟨h1,h2⟩:=hI.2 _ hlt
  rw[zq3 es hj]at h2
  exact⟨h1,h2⟩
 ·simp only[execOp,hop]
  refine Z7 ?_
  have hne: ¬(len*(shOf P e).sz>2^24):=by omega
  have e1':Instr.fill (fun i=>some (i*(shOf P e).sz,(shOf P e).sz)) (madeCells z.cells (len*(shOf P e).sz)) (ps.map fun p=>(p.1,a.eval p.2)).toList=some cells:=by
   rw[Array.toList_map];exact e1
  simp only[Instr.buildSlice,Sem.run_bind,Go.run_underlying (YX he),Result.andThen_ok,YW hty,hne,if_false]
  by_cases h0:len*(shOf P e).sz=0
  ·have e0:madeCells z.cells (len*(shOf P e).sz)=(Array.range (len*(shOf P e).sz)).map ((#[]:Array Value)[· % (#[]:Array Value).size]!):=by
    rw[h0];simp[madeCells]
   rw[e0]at e1'
   simp only[h0,if_true,Sem.run_bind,Sem.run_pure,Result.andThen_ok]
   rw[h0]at e1'
   simp only[e1']
   rfl
  ·simp only[h0,if_false,Sem.run_bind,X0 hi hz,Sem.run_pure,Result.andThen_ok]
   have:(Array.range (len*(shOf P e).sz)).map (z.cells[· % z.cells.size]!)=madeCells z.cells (len*(shOf P e).sz):=rfl
   simp only[this,e1']
   rfl
theorem zks(h:Pre P cfg base n all w own μ ρ st a o){t e:TypeId}{len:Nat}{ps:Array (Nat×Operand)}(hop:o.op= .buildSlice t len ps)(he:Yi P t=some e){tk:Bool}{es:List V}
  (hlay:YT P e (rd ρ tk) ps.toList (List.replicate len (zeroV P e))=some es) (hty:okTy P e=true) (hok:Zy (shOf P e) (zeroV P e)=true) (hsz:len*(shOf P e).sz≤2^24):
  OpOK P cfg base n all w own μ o a (ρ.apply (upds ρ tk (ps.toList.map (·.2))++ZL o.dst (.vec .full (shOf P e) es))) st:=by
 obtain⟨cells,_,hv,hrun⟩:=zcZ h hop he hlay hty hok hsz
 exact zgT h w.drawn hv hrun
theorem zpl(w:World)(C:Array Value)(e:TypeId)(n:Nat):(w.alloc (.cells C e)).freeze ⟨w.heap.size,n,none⟩ 1=w.alloc (.cells C e (n,n+1)):=by
 have hm: ∀(a:Array Obj) (x:Obj) (f:Obj→Obj),(a.push x).modify a.size f=a.push (f x):=by
  intro a x f
  apply Array.ext
  ·simp
  ·intro i h1 h2
   simp only[Array.getElem_modify,Array.getElem_push]
   by_cases h:a.size=i
   ·subst h
    simp
   ·have hi:i<a.size:=by simp at h1;omega
    simp[h,hi]
 unfold World.freeze
 rw[if_neg (by decide)]
 show({w.alloc (.cells C e)with heap:=(w.heap.push (.cells C e)).modify w.heap.size _}:World)=_
 rw[hm]
 rfl
theorem ziw(w:World)(C:Array Value)(t e:TypeId)(len:Nat)(ht:P.underlying t=some (.slice e))(he:P.underlying e=some (.int .u8)):
  (convert t t (.slice (some ⟨w.heap.size,0,none⟩) len len)).run P (w.alloc (.cells C e))= .ok (.slice (some ⟨w.heap.size,0,none⟩) len len) (w.alloc (.cells C e (C.size,C.size+1))):=by
 have hsh:(w.alloc (.cells C e)).shape? w.heap.size=some (e,C.size):=by
  have:(w.alloc (.cells C e)).heap[w.heap.size]? =some (.cells C e):=by
   show(w.heap.push (.cells C e))[w.heap.size]? =_
   simp
  unfold World.shape?
  rw[this]
 simp[convert,Go.run_underlying ht,Go.run_underlying he,markStringish,hsh]
 exact zpl _ _ _ _
end
end Go.AM
namespace Go.AM
open Go Go.RowKit
section
variable{P:Program}{cfg:Cfg}{base n:Nat}{w:World}{own:Own}{μ:List Nat}{ρ:Env}{st:St}{a:Act}
variable{fid rid idx:Nat}{all:List Oper}{o:Oper}{R:Type}{r:R}
theorem zda{cs:List V}{v:V}{off:Nat}{sh:Sh}(hs:Shaped sh v)(hb:off+sh.sz≤cs.length)(j:Nat):cellAt (.agg (setCells cs off (cellsOf v))) j=if off≤j∧j<off+sh.sz then cellAt v (j-off)else cellAt (.agg cs) j:=by
 rw[Qd,zbI (by rw[hs.len];exact hb),hs.len];rfl
theorem znq(h:Pre P cfg base n all w own μ ρ st a o){x:Operand}(hop:o.op= .move x∨o.op= .assign x):
  OpOK P cfg base n all w own μ o a (ρ.apply (upds ρ (cfg.take fid rid idx) (Z1 o.op)++ZL o.dst (bif cfg.take fid rid idx&&isConst x then plainAs P o.type (rd ρ (cfg.take fid rid idx) x)else ZZ P o.type (rd ρ (cfg.take fid rid idx) x)))) st:=by
 cases hc:(cfg.take fid rid idx&&isConst x)with
 |false=>exact ztD h hop
 |true=>
  have hv:Z1 o.op=[x]:=by rcases hop with e|e<;>rw[e]<;>rfl
  rw[hv]
  refine Ym h _ [x] (c:=a.eval x) (Z0 h _ (by simp)).plainAs ?_
  rcases hop with e|e<;>simp[execOp,e,pure]
theorem zqT(h:Pre P cfg base n all w own μ ρ st a o){K:List (Nat×V)→Option R}(hp:Jf P cfg fid rid idx o ρ K=some r): ∃us,K us=some r∧OpOK P cfg base n all w own μ o a (ρ.apply us) st:=by
 unfold Jf at hp
 dsimp only at hp
 split at hp
 ·rename_i x hop
  have:=znq (fid:=fid) (rid:=rid) (idx:=idx) h (.inl hop)
  exact⟨_,hp,this⟩
 ·rename_i x hop
  have:=znq (fid:=fid) (rid:=rid) (idx:=idx) h (.inr hop)
  exact⟨_,hp,this⟩
 ·rename_i c x y hop
  rw[hop]at hp
  split at hp
  ·rename_i b hc
   have:=ztE h hop hc
   rcases Yn hp with⟨rfl,hp⟩|⟨rfl,hp⟩
   ·exact⟨_,hp,this⟩
   ·exact⟨_,hp,this⟩
  ·cases hp
 ·rename_i e hop
  rw[hop]at hp
  obtain⟨hc,hp⟩:=Zh hp
  simp only[Bool.and_eq_true]at hc
  exact⟨_,hp,zst h hop hc.1 hc.2 _⟩
 ·rename_i e x hop
  rw[hop]at hp
  obtain⟨hc,hp⟩:=Zh hp
  simp only[Bool.and_eq_true]at hc
  exact⟨_,hp,zuS h hop hc.2⟩
 ·rename_i t ps hop
  rw[hop]at hp
  split at hp
  ·rename_i cs hlay
   obtain⟨hc,hp⟩:=Zh hp
   simp only[Bool.and_eq_true]at hc
   have:=zs2 h hop (q:=cfg.take fid rid idx) hlay hc.1.1.1 hc.1.1.2 hc.1.2 hc.2
   refine⟨_,hp, ?_⟩
   simpa[Z1,Op.operands]using this
  ·cases hp
 ·rename_i t k ps hop
  rw[hop]at hp
  split at hp
  ·rename_i e he
   split at hp
   ·rename_i es hlay
    obtain⟨hc,hp⟩:=Zh hp
    simp only[Bool.and_eq_true,decide_eq_true_eq]at hc
    have:=zks h hop he hlay hc.1.1 hc.1.2 hc.2
    refine⟨_,hp, ?_⟩
    simpa[Z1,Op.operands]using this
   ·cases hp
  ·cases hp
 ·rename_i t x hop
  rw[hop]at hp
  split at hp
  ·rename_i sh v hx
   obtain⟨hc,hp⟩:=Zh hp
   have hp:=zfG hp
   exact⟨_,hp,zlQ h hop hx hc⟩
  ·rename_i d sh v hx
   obtain⟨hc,hp⟩:=Zh hp
   exact⟨_,hp,zhF h hop hx hc⟩
  ·rename_i b off hx
   split at hp
   ·rename_i d sh cs hy
    obtain⟨hc,hp⟩:=Zh hp
    simp only[Bool.and_eq_true,decide_eq_true_eq]at hc
    rcases Yn hp with⟨hg,hp⟩|⟨hg,hp⟩
    ·simp only[Bool.and_eq_true,Option.isNone_iff_eq_none]at hg
     obtain⟨⟨_,hg⟩,hn⟩:=hg
     obtain⟨sh',es,hv⟩: ∃sh' es,partOf cs off (shOf P t)= .vec .grow sh' es:=by
      revert hg
      cases partOf cs off (shOf P t)with
      |vec m sh' es=>cases m<;>simp[isGrow]
      |_=>simp[isGrow]
     have:=zlR h hop hx hy hc.1 hc.2 hn hv
     rw[hv]at hp
     exact⟨_,hp,this⟩
    ·have hp:=zfH hp
     refine⟨_,hp, ?_⟩
     have:=zfJ h hop hx hy hc.1 hc.2 (q:=cfg.take fid rid idx&&(shOf P t).isNone) (fun hq=> ?_)
     ·exact this
     ·simp only[Bool.and_eq_true,Option.isNone_iff_eq_none]at hq
      intro sh' es
      refine⟨fun e=> ?_,hq.2⟩
      rw[e,hq.1,hq.2]at hg
      simp[isGrow]at hg
   ·rename_i sh cs hy
    obtain⟨hc,hp⟩:=Zh hp
    simp only[Bool.and_eq_true,decide_eq_true_eq]at hc
    exact⟨_,hp,zfK h hop hx hy hc.1 hc.2⟩
   ·cases hp
  ·cases hp
 ·rename_i t x y hop
  rw[hop]at hp
  obtain⟨hc,hp⟩:=Zh hp
  simp only[Bool.and_eq_true]at hc
  obtain⟨⟨hty,hok⟩,hdst⟩:=hc
  have hdst:o.dst=none:=by cases hd:o.dst with|none=>rfl|some d=>rw[hd]at hdst;cases hdst
  have hg:(cfg.take fid rid idx&&isGrow (ZZ P t (rd ρ (cfg.take fid rid idx) y)))=true→isGrow (bif cfg.take fid rid idx&&isGrow (ZZ P t (rd ρ (cfg.take fid rid idx) y))then ZZ P t (rd ρ (cfg.take fid rid idx) y)else plain1 (ZZ P t (rd ρ (cfg.take fid rid idx) y)))=true:=by
   intro e;rw[e];simp only[Bool.and_eq_true]at e;exact e.2
  have hs:=ZG hok
  split at hp
  ·rename_i b d sh old _ hx
   obtain⟨hc,hp⟩:=Zh hp
   simp only[Bool.and_eq_true,Qu,decide_eq_true_eq]at hc
   obtain⟨⟨_,rfl⟩,hnt⟩:=hc
   refine⟨_,hp, ?_⟩
   refine ziS h hop hdst (off:=0) (d':=cfg.take fid rid idx) (b:=b) hx (fun blk hb=> ?_) (zdw hnt) rfl hg hok hty (by omega) hs (fun j hj=> ?_) (fun e=> ?_) (fun j sh' es hj=> ?_)
   ·exact hb
   ·rw[if_pos ⟨by omega,by omega⟩];rfl
   ·rw[e];exact⟨rfl, .inl ⟨rfl,rfl⟩⟩
   ·rw[zb2 hok j hj];simp
  ·rename_i b off _ hx
   split at hp
   ·rename_i d sh cs hy
    obtain⟨hc,hp⟩:=Zh hp
    simp only[Bool.and_eq_true,decide_eq_true_eq]at hc
    obtain⟨⟨hb,_⟩,hnt⟩:=hc
    refine⟨_,hp, ?_⟩
    have hT:=h.rel.env b
    rw[hy]at hT
    obtain⟨blk',ccs,hc',hB,hso,hcell,hj',hd⟩:=zaO hT
    have hlen:cs.length=sh.sz:=by have:=hso.len;simpa[cellsOf]using this
    have hlen':(setCells cs off (cellsOf (bif cfg.take fid rid idx&&isGrow (ZZ P t (rd ρ (cfg.take fid rid idx) y))then ZZ P t (rd ρ (cfg.take fid rid idx) y)else plain1 (ZZ P t (rd ρ (cfg.take fid rid idx) y))))).length=cs.length:=X7 (by rw[hs.len];exact hb)
    refine ziS h hop hdst (off:=off) (b:=b) (old:= .agg cs) hy (fun blk hb=> ?_) (zdw hnt) rfl hg hok hty (by omega) ?_ (fun j hj=>zda hs hb j) (fun e=> ?_) (fun j sh' es hj=> ?_)
    ·obtain⟨b',h1,h2,_⟩:=zce h.rel hx
     rw[h1]at hb
     cases hb
     exact h2
    ·cases sh with
     |none=>exact hso.elim
     |some k=>simp only[Shaped]at hso⊢;rw[hlen'];exact hso
    ·simp only[Bool.or_eq_false_iff]at e
     rw[e.1,e.2]
     exact⟨rfl, .inr rfl⟩
    ·rw[Qd,List.getD_eq_getElem?_getD,List.getElem?_eq_none (by omega)];simp
   ·cases hp
  ·cases hp
 ·rename_i s x f hop
  rw[hop]at hp
  split at hp
  ·cases hp
  ·rename_i off ft hf
   obtain⟨hc,hp⟩:=Zh hp
   simp only[Bool.and_eq_true,decide_eq_true_eq]at hc
   split at hp
   ·rename_i sh v hx
    obtain⟨_,hp⟩:=Zh hp
    obtain⟨cs,rfl,hp⟩:=JG hp
    obtain⟨hb,hp⟩:=Zh hp
    exact⟨_,hp,zfL h hop hf hc.1 hc.2 hx (of_decide_eq_true hb)⟩
   ·rename_i b d sh v hx
    obtain⟨hn,hp⟩:=Zh hp
    exact⟨_,hp,zgK h hop hf hc.1 hc.2 hx hn⟩
   ·rename_i b o' hx
    obtain⟨hn,hp⟩:=Zh hp
    exact⟨_,hp,zfN h hop hf hc.1 hc.2 hx hn⟩
   ·rename_i r' o' hx
    exact⟨_,hp,zgL h hop hf hc.1 hc.2 hx⟩
   ·rename_i sh r' j o' hx
    exact⟨_,hp,zgM h hop hf hc.1 hc.2 hx⟩
   ·cases hp
 ·rename_i t x i hop
  rw[hop]at hp
  split at hp
  ·rename_i m sh es hx
   split at hp
   ·rename_i e he
    obtain⟨hsh,hp⟩:=Zh hp
    obtain⟨i',hi,hp⟩:=YH hp
    obtain⟨hb,hp⟩:=Zh hp
    simp only[Bool.and_eq_true,decide_eq_true_eq]at hb
    exact⟨_,hp,zgN h hop hx he hsh hi hb.1 hb.2⟩
   ·cases hp
  ·rename_i sh r' lo m hx
   split at hp
   ·rename_i e he
    obtain⟨hsh,hp⟩:=Zh hp
    obtain⟨i',hi,hp⟩:=YH hp
    obtain⟨hb,hp⟩:=Zh hp
    simp only[Bool.and_eq_true,decide_eq_true_eq]at hb
    exact⟨_,hp,zgO h hop hx he hsh hi hb.1 hb.2⟩
   ·cases hp
  ·rename_i d sh v hx
   split at hp
   ·rename_i b
    split at hp
    ·rename_i k e he
     obtain⟨hc,hp⟩:=Zh hp
     simp only[Bool.and_eq_true,Bool.not_eq_true']at hc
     rw[hc.1.2]at hp
     obtain⟨i',hi,hp⟩:=YH hp
     obtain⟨hb,hp⟩:=Zh hp
     simp only[Bool.and_eq_true,decide_eq_true_eq]at hb
     exact⟨_,hp,zgP h hop hx he hc.1.1 hc.2 hi hb.1 hb.2⟩
    ·cases hp
   ·cases hp
  ·cases hp
 ·rename_i s x f hop
  rw[hop]at hp
  split at hp
  ·cases hp
  ·rename_i off ft hf
   obtain⟨cs,hx,hp⟩:=JG hp
   obtain⟨hb,hp⟩:=Zh hp
   simp only[Bool.and_eq_true,decide_eq_true_eq]at hb
   exact⟨_,hp,zsw h hop hf hb.2 hx hb.1⟩
 ·rename_i t x i hop
  rw[hop]at hp
  split at hp
  ·rename_i s hu hx
   obtain⟨i',hi,hp⟩:=YH hp
   obtain⟨hb,hp⟩:=Zh hp
   simp only[Bool.and_eq_true,decide_eq_true_eq]at hb
   exact⟨_,hp,zsx h hop hu hx hi hb.1 hb.2⟩
  ·cases hp
 ·rename_i x i hop
  rw[hop]at hp
  obtain⟨vs,hx,hp⟩:=ziQ hp
  obtain⟨hb,hp⟩:=Zh hp
  exact⟨_,hp,zpi h hop hx (of_decide_eq_true hb)⟩
 ·rename_i op t x y u hop
  rw[hop]at hp
  obtain⟨v,hK,hok⟩:=zsz h hop rfl rfl hp
  exact⟨_,hK,hok⟩
 ·rename_i op t x hop
  rw[hop]at hp
  obtain⟨v,hK,hok⟩:=ztH h hop hp
  exact⟨_,hK,hok⟩
 ·rename_i s d x hop
  rw[hop]at hp
  obtain⟨v,hK,hok⟩:=zpk h hop hp
  exact⟨_,hK,hok⟩
 ·rename_i f first cap hop
  rw[hop]at hp
  split at hp
  ·exact⟨_,hp,zno h hop _⟩
  ·cases hp
 ·rename_i t l c hop
  rw[hop]at hp
  split at hp
  ·rename_i e he
   obtain⟨l',hl,hp⟩:=YH hp
   obtain⟨c',hcc,hp⟩:=YH hp
   obtain⟨hb,hp2⟩:=Zh hp
   simp only[Bool.and_eq_true,decide_eq_true_eq]at hb
   obtain⟨⟨⟨⟨h0,rfl⟩,hroom⟩,hty⟩,hok⟩:=hb
   exact⟨_,hp2,zlW h hop he hl hcc h0 hroom hty hok⟩
  ·cases hp
 ·rename_i t x lo hi mx hop
  rw[hop]at hp
  have hm: ∀y,(lo=some y∨hi=some y∨mx=some y∨y=x)→y∈Z1 (.slice t x lo hi mx):=by
   intro y hy
   simp only[Z1,Op.operands,Array.toList_append,List.mem_append,Option.toList_toArray]
   rcases hy with rfl|rfl|rfl|rfl<;>simp
  obtain⟨v,hK,hok⟩:=zs0 h hop (hm x (by simp)) (fun y e=>hm y (.inl e)) (fun y e=>hm y (.inr (.inl e))) (fun y e=>hm y (.inr (.inr (.inl e)))) hp
  exact⟨_,hK,hok⟩
 ·rename_i x hop
  rw[hop]at hp
  split at hp
  ·rename_i hx
   exact⟨_,hp,zb3 h hop hx (.inl ⟨_,_,rfl⟩)⟩
  ·rename_i hx
   exact⟨_,hp,zb3 h hop hx (.inr (.inl ⟨_,_,_,_,rfl⟩))⟩
  ·rename_i hx
   exact⟨_,hp,zb3 h hop hx (.inr (.inr (.inl ⟨_,_,_,rfl⟩)))⟩
  ·rename_i hx
   obtain⟨hn,hp⟩:=Zh hp
   exact⟨_,hp,zgS h hop hx hn⟩
  ·rename_i hx
   exact⟨_,hp,zb3 h hop hx (.inr (.inr (.inr ⟨_,_,rfl⟩)))⟩
  ·cases hp
 ·rename_i t x hop
  rw[hop]at hp
  obtain⟨hc,hp⟩:=Zh hp
  exact⟨_,hp,zgR h hop hc _⟩
 ·rename_i x u t c hop
  rw[hop]at hp
  rcases Yn hp with⟨rfl,hp⟩|⟨_,hp⟩
  rotate_left
  ·cases hp
  obtain⟨v,k1,k2⟩:=zkr h hop hp
  exact⟨_,k1,k2⟩
 ·cases hp
end
end Go.AM
namespace Go.AM
open Go Go.RowKit
section
variable{P:Program}{cfg:Cfg}{base n:Nat}{w:World}{own:Own}{μ:List Nat}{ρ:Env}{st:St}{a:Act}
variable{fid rid idx:Nat}{all:List Oper}{o:Oper}{R:Type}{r:R}
theorem Yd{q:Nat}{K:Res→Option R}(h:Zw st q K=some r): ∃x,st[q]? =some x∧K x=some r:=by
 unfold Zw at h
 split at h
 ·rename_i x hx;exact⟨x,hx,h⟩
 ·cases h
theorem zc7{x:Res}{K:List V→Option R}(h:ZE x K=some r): ∃cs,x= .box cs∧K cs=some r:=by
 cases x<;>simp[ZE]at h
 exact⟨_,rfl,h⟩
theorem Q1{x:Res}{K:Sh→List V→Option R}(h:za0 x K=some r): ∃sh es,x= .row sh es∧K sh es=some r:=by
 cases x<;>simp[za0]at h
 exact⟨_,_,rfl,h⟩
theorem ziE(h:Sto P cfg base w own μ st){q b:Nat}{cs:List V}(hx:st[q]? =some (.box cs))(hb:μ[q]? =some b): ∃ccs ty fz,w.heap[b]? =some (.cells ccs ty fz)∧ccs.size=cs.length∧(∀i,i<cs.length→w.frozen? ⟨b,i,none⟩=false)∧(∀i,own b i= .r q 0)∧
  (∀j,j<cs.length→w.cell? ⟨b,j,none⟩=some (ccs.getD j undef))∧ ∀j,j<cs.length→(ccs.getD j undef).oneCell'=true∧CRep w own μ (.r q (j+1)) (cs.getD j .undef) (ccs.getD j undef):=by
 obtain⟨ccs,⟨ty,fz,hh,hn,hf,ho⟩,hj⟩:=h.res q _ b hx hb
 refine⟨ccs,ty,fz,hh,hn,hf,ho,fun j hj'=> ?_,hj⟩
 have:j<ccs.size:=by omega
 simp[World.cell?,hh,this]
theorem zes(h:Sto P cfg base w own μ st){q b:Nat}{sh:Sh}{es:List V}(hx:st[q]? =some (.row sh es))(hb:μ[q]? =some b)(hne:es≠ []): ∃ccs ty fz m,w.heap[b]? =some (.cells ccs ty fz)∧ccs.size=m∧es.length*sh.sz≤m∧(∀i,i<m→w.frozen? ⟨b,i,none⟩=false)∧(∀i,own b i= .r q 0)∧
  (∀j,j<m→w.cell? ⟨b,j,none⟩=some (ccs.getD j undef))∧ ∀i,i<es.length→Shaped sh (es.getD i .undef)∧ ∀j,j<sh.sz→(ccs.getD (i*sh.sz+j) undef).oneCell'=true∧VRep w (prOf own) μ (cellAt (es.getD i .undef) j) (ccs.getD (i*sh.sz+j) undef):=by
 rcases h.res q _ b hx hb with h0|⟨m,ccs,⟨ty,fz,hh,hn,hf,ho⟩,hl,hj⟩
 ·exact absurd h0 hne
 ·refine⟨ccs,ty,fz,m,hh,hn,hl,hf,ho,fun j hj'=> ?_,hj⟩
  have:j<ccs.size:=by omega
  simp[World.cell?,hh,this]
theorem XD{i j k m:Nat}(hi:i<k)(hj:j<m):i*m+j<k*m:=by
 have:=Nat.mul_le_mul_right m hi
 rw[Nat.succ_mul]at this
 omega
theorem zlX(h:Rel P cfg base n w own μ ρ st a){x:Operand}{q off:Nat}(hx:ev ρ x= .ref q off): ∃b,μ[q]? =some b∧a.eval x= .pointer (some ⟨b,off,none⟩):=by
 have hV:=Qj h hx rfl (by simp) (by simp)
 generalize a.eval x=c at hV
 cases hV with
 |ref _ _ b hb=>exact⟨b,hb,rfl⟩
theorem zlY(h:Rel P cfg base n w own μ ρ st a){x:Operand}{sh:Sh}{q i off:Nat}(hx:ev ρ x= .rel sh q i off): ∃b,μ[q]? =some b∧a.eval x= .pointer (some ⟨b,i*sh.sz+off,none⟩):=by
 have hV:=Qj h hx rfl (by simp) (by simp)
 generalize a.eval x=c at hV
 cases hV with
 |rel _ _ _ _ b hb=>exact⟨b,hb,rfl⟩
theorem znr(h:Pre P cfg base n all w own μ ρ st a o){t:TypeId}{x:Operand}(hop:o.op= .load t x){q off:Nat}(hx:ev ρ x= .ref q off){cs:List V}(hst:st[q]? =some (.box cs))
  (hb:off+(shOf P t).sz≤cs.length) (hty:okTy P t=true):OpOK P cfg base n all w own μ o a (ρ.apply (ZL o.dst (Zs (partOf cs off (shOf P t))))) st:=by
 obtain⟨b,hmu,hev⟩:=zlX h.rel hx
 obtain⟨ccs,ty,fz,hh,hn,hf,ho,hcell,hj⟩:=ziE h.rel.sto hst hmu
 have hna: ∀j,j<cs.length→ ∀c,cs.getD j .undef≠ .agg c:=fun j hj'=>zc4 (hj j hj').2 (hj j hj').1
 have hrun:=run_load (o:=o) (P:=P) hop hev (Y6 hty w b off (fun j=>ccs.getD (off+j) undef) fun j hj'=>hcell _ (by omega))
 refine XM h (VRep.of_cells (Qb (Qz hb hna)) fun j hj'=> ?_) hrun
 have:=hj (off+j) (by omega)
 refine⟨this.1, ?_⟩
 rw[Y5,Q0 hb hna hj']
 exact this.2.plain1
theorem zhH(h:Pre P cfg base n all w own μ ρ st a o){t:TypeId}{x:Operand}(hop:o.op= .load t x){sh:Sh}{q i off:Nat}(hx:ev ρ x= .rel sh q i off){es:List V}(hst:st[q]? =some (.row sh es))(hi:i<es.length)
  (hty:okTy P t=true) {v:V} (hv:(off=0∧sh=shOf P t∧v=es.getD i .undef)∨ ∃m cs,sh=some m∧es.getD i .undef= .agg cs∧off+(shOf P t).sz≤m∧v=partOf cs off (shOf P t)):
  OpOK P cfg base n all w own μ o a (ρ.apply (ZL o.dst v)) st:=by
 obtain⟨b,hmu,hev⟩:=zlY h.rel hx
 obtain⟨ccs,ty,fz,m,hh,hn,hl,hf,ho,hcell,hj⟩:=zes h.rel.sto hst hmu (by rintro rfl;simp at hi)
 obtain⟨hs,hj⟩:=hj i hi
 rcases hv with⟨rfl,rfl,rfl⟩|⟨k,cs,rfl,hes,hb,rfl⟩
 ·have hrun:=run_load (o:=o) (P:=P) hop hev (Y6 hty w b _ (fun j=>ccs.getD (i*(shOf P t).sz+j) undef) fun j hj'=>by
   rw[Nat.add_zero];exact hcell _ (Nat.lt_of_lt_of_le (XD hi hj') hl))
  exact XM h (VRep.of_cells hs fun j hj'=>⟨(hj j hj').1,(hj j hj').2⟩) hrun
 ·rw[hes]at hs hj
  have hlen:cs.length=k:=hs
  simp only[Sh.sz]at hl hj
  have hna: ∀j,j<cs.length→ ∀c,cs.getD j .undef≠ .agg c:=fun j hj'=>zaY (hj j (by omega)).2 (hj j (by omega)).1
  have hrun:=run_load (o:=o) (P:=P) hop hev (Y6 hty w b _ (fun j=>ccs.getD (i*k+off+j) undef) fun j hj'=>by
   simp only[Sh.sz]
   rw[show i*k+off+j=i*k+(off+j) by omega]
   exact hcell _ (Nat.lt_of_lt_of_le (XD hi (by omega)) hl))
  refine XM h (VRep.of_cells (Qz (by omega) hna) fun j hj'=> ?_) hrun
  have:=hj (off+j) (by omega)
  rw[show i*k+off+j=i*k+(off+j) by omega]
  refine⟨this.1, ?_⟩
  rw[Q0 (by omega) hna hj']
  exact this.2
def News(w:World)(pr:Nat→Nat→Prop)(μ:List Nat)(sh:Sh)(ys:List V)(news:List Value):Prop:=
 news.length=ys.length*sh.sz∧(∀i,i<ys.length→Shaped sh (ys.getD i .undef))∧ ∀i j,i<ys.length→j<sh.sz→(news.getD (i*sh.sz+j) undef).oneCell'=true∧VRep w pr μ (cellAt (ys.getD i .undef) j) (news.getD (i*sh.sz+j) undef)
theorem News.one{pr:Nat→Nat→Prop}{sh:Sh}{ys:List V}{news:List Value}(h:News w pr μ sh ys news): ∀u∈news,u.oneCell'=true:=by
 intro u hu
 obtain⟨k,hk,rfl⟩:=List.mem_iff_getElem.1 hu
 rw[h.1]at hk
 have hpos:0<sh.sz:=Nat.pos_of_ne_zero fun e=>by rw[e]at hk;omega
 have hd:k/sh.sz<ys.length:=Nat.div_lt_of_lt_mul (by rw[Nat.mul_comm];exact hk)
 have hm:k % sh.sz<sh.sz:=Nat.mod_lt _ hpos
 have:=(h.2.2 _ _ hd hm).1
 have e:k/sh.sz*sh.sz+k % sh.sz=k:=by rw[Nat.mul_comm];exact Nat.div_add_mod k sh.sz
 rw[e,List.getD_eq_getElem?_getD,List.getElem?_eq_getElem (by rw[h.1];exact hk)]at this
 exact this
theorem zfQ{pr:Nat→Nat→Prop}{m:Mode}{sh:Sh}{ys:List V}{A:Option Addr}{len c:Nat}(h:VRep w pr μ (.vec m sh ys) (.slice A len c)):len=ys.length∧len≤c∧
  ∃news,News w pr μ sh ys news∧(ys≠ []→ ∃b off,A=some ⟨b,off,none⟩∧ ∀j,j<news.length→w.cell? ⟨b,off+j,none⟩=some (news.getD j undef)∧pr b (off+j)):=by
 cases h with
 |vecE _ _ _ _ _ _=>exact⟨rfl,Nat.zero_le _,[],⟨by simp,fun i hi=>by simp at hi,fun i j hi=>by simp at hi⟩,fun h=>absurd rfl h⟩
 |vec _ _ _ ad _ f hm hf hl ha hcell hsh hc=>
  obtain⟨b,off,s⟩:=ad
  simp only at ha;subst ha
  have hg: ∀i j,i<ys.length→j<sh.sz→((List.range (ys.length*sh.sz)).map fun k=>f (k/sh.sz) (k % sh.sz)).getD (i*sh.sz+j) undef=f i j:=by
   intro i j hi hj
   have hlt:=XD hi hj
   simp only[List.getD_eq_getElem?_getD,List.getElem?_map,List.getElem?_range hlt,Option.map_some,Option.getD_some]
   rw[Nat.mul_comm,Nat.mul_add_div (by omega),Nat.mul_add_mod,Nat.div_eq_of_lt hj,Nat.mod_eq_of_lt hj,Nat.add_zero]
  refine⟨rfl,hl,(List.range (ys.length*sh.sz)).map fun k=>f (k/sh.sz) (k % sh.sz),⟨by simp,hsh,fun i j hi hj=> ?_⟩,fun _=>⟨b,off,rfl,fun k hk=> ?_⟩⟩
  ·rw[hg i j hi hj]
   exact⟨(hcell i j hi hj).2.2,hc i j hi hj⟩
  ·simp only[List.length_map,List.length_range]at hk
   have hpos:0<sh.sz:=Nat.pos_of_ne_zero fun e=>by rw[e]at hk;omega
   have hd:k/sh.sz<ys.length:=Nat.div_lt_of_lt_mul (by rw[Nat.mul_comm];exact hk)
   have hm:k % sh.sz<sh.sz:=Nat.mod_lt _ hpos
   have e:k/sh.sz*sh.sz+k % sh.sz=k:=by rw[Nat.mul_comm];exact Nat.div_add_mod k sh.sz
   have h1:=hcell _ _ hd hm
   have h2:=hg _ _ hd hm
   rw[e]at h1 h2
   rw[h2]
   exact⟨h1.1,h1.2.1⟩
theorem zdy{A B C:Prop}(b:B)(h:A∧C):A∧B∧C:=⟨h.1,b,h.2⟩
theorem ziZ{t:TypeId}(h:zaa P t=true):P.underlying t=some .string:=by
 unfold zaa at h
 split at h
 ·rename_i hu;exact hu
 ·cases h
def zns(P:Program)(size:Nat)(x:Value)(n:Nat)(news:List Value)(w:World):Prop:= ∀m,m≤n→(Builtin.firstCells size m x).run P w= .ok (news.take (m*size)).toArray w
theorem zhI{size:Nat}(a:Addr)(n c:Nat)(news:List Value)(hl:news.length=n*size)(hnews: ∀j u,news[j]? =some u→w.cell? (a.add j)=some u):zns P size (.slice (some a) n c) n news w:=by
 intro m hm
 have h1:m*size≤n*size:=Nat.mul_le_mul_right _ hm
 refine run_firstCells_some w size m a n c (news.take (m*size)) (by rw[List.length_take,hl];omega) fun j v hj=>hnews j v ?_
 rw[List.getElem?_take]at hj
 split at hj
 ·exact hj
 ·cases hj
theorem zdz(size:Nat)(A:Option Addr)(c:Nat):zns P size (.slice A 0 c) 0 [] w:=by
 intro m hm
 have:m=0:=by omega
 subst this
 rw[List.take_nil]
 cases A with
 |none=>exact run_firstCells_none w size 0 0 c
 |some ad=>exact run_firstCells_some w size 0 ad 0 c [] (by simp) (fun j v hj=>by simp at hj)
theorem zlZ(s:ByteArray):zns P 1 (.string s) s.size (byteCells s) w:=by
 intro m hm
 rw[Nat.mul_one]
 simp only[Builtin.firstCells,Sem.run_pure]
 congr 1
 apply Array.ext'
 simp only[byteCells,Array.toList_map,ByteArray.data_extract,Array.toList_extract]
 simp[List.map_take,List.extract_eq_take_drop]
theorem zgW(h:Pre P cfg base n all w own μ ρ st a o){tk:Bool}{xs:List Operand}{x:Operand}(hx:x∈xs){t:TypeId}{K:Sh→List V→Option R}(hs:ziL P st t (rd ρ tk x) K=some r):
  ∃sh ys news,K sh ys=some r∧Src P sh.sz t (a.eval x) ys.length news w∧News w (prOf (Yy own ρ xs)) μ sh ys news∧zns P sh.sz (a.eval x) ys.length news w:=by
 unfold ziL at hs
 have hX:=(Z0 h tk hx).nil (P:=P) (t:=t)
 split at hs
 ·rename_i m sh ys hv
  obtain⟨hsl,hs⟩:=Zh hs
  obtain⟨e,hu,hty,rfl⟩:=zcg hsl
  have hV:=hX.plain
  rw[hv]at hV
  have hV:VRep w (prOf (Yy own ρ xs)) μ (.vec .plain (shOf P e) ys) (a.eval x):=by cases m<;>exact hV
  generalize a.eval x=c at hV
  cases c with
  |slice A len c=>
   obtain⟨rfl,hlc,news,hN,hc⟩:=zfQ hV
   refine⟨_,ys,news,hs,zdy hN ?_⟩
   by_cases hne:ys=[]
   ·subst hne
    have:news=[]:=List.eq_nil_of_length_eq_zero (by rw[hN.1];simp)
    subst this
    cases A with
    |none=>exact⟨Src.ofNil w hu c,zdz _ _ _⟩
    |some ad=>exact⟨Src.ofSlice w hu ad 0 c [] (by simp) (fun j u hj=>by simp at hj) (fun u hu=>by simp at hu),zdz _ _ _⟩
   ·obtain⟨b,off,rfl,hcell⟩:=hc hne
    have hcc: ∀j u,news[j]? =some u→w.cell? ((⟨b,off,none⟩:Addr).add j)=some u:=fun j u hj=>by
     have hlt:=(List.getElem?_eq_some_iff.1 hj).1
     rw[Xz,(hcell j hlt).1,List.getD_eq_getElem?_getD,hj];rfl
    exact⟨Src.ofSlice w hu _ _ c news hN.1 hcc hN.one,zhI _ _ c news hN.1 hcc⟩
  |_=>cases hV
 ·rename_i s hv
  obtain⟨hsl,hs⟩:=Zh hs
  rw[hv]at hX
  have hX:=VRep.str_inv (hX.val (by simp))
  rw[hX]
  have hl:(zaw s).length=s.size:=by simp[zaw]
  have hsrc:=Src.ofString (P:=P) w (ziZ hsl) s
  refine⟨none,zaw s,byteCells s,hs,zdy ?_ ⟨by rw[hl];exact hsrc,by rw[hl];exact zlZ s⟩⟩
  have hg: ∀i,i<s.size→(byteCells s).getD i undef= .int .u8 ((s.data.getD i 0).toNat:Int)∧(zaw s).getD i .undef= .ik .u8 ((s.data.getD i 0).toNat:Int):=by
   intro i hi
   have hi':i<s.data.size:=hi
   constructor
   ·simp only[byteCells,List.getD_eq_getElem?_getD,List.getElem?_map,Array.getElem?_toList,Array.getElem?_eq_getElem hi',Option.map_some,Option.getD_some,Array.getD_eq_getD_getElem?]
   ·simp only[zaw,List.getD_eq_getElem?_getD,List.getElem?_map,Array.getElem?_toList,Array.getElem?_eq_getElem hi',Option.map_some,Option.getD_some,Array.getD_eq_getD_getElem?]
  refine⟨by rw[byteCells_length,hl];simp[Sh.sz],fun i hi=> ?_,fun i j hi hj=> ?_⟩
  ·rw[hl]at hi
   rw[(hg i hi).2];trivial
  ·rw[hl]at hi
   have:j=0:=by simpa[Sh.sz]using hj
   subst this
   simp only[Sh.sz,Nat.mul_one,Nat.add_zero]
   rw[(hg i hi).1,(hg i hi).2]
   exact⟨rfl, .ik _ _⟩
 ·rename_i sh q lo k hv
  obtain⟨hsl,hs⟩:=Zh hs
  obtain⟨e,hu,hty,rfl⟩:=zcg hsl
  obtain⟨y,hst,hs⟩:=Yd hs
  obtain⟨sh',es,rfl,hs1⟩:=Q1 hs
  obtain⟨hb,hs2⟩:=Zh hs1
  simp only[Bool.and_eq_true,decide_eq_true_eq]at hb
  obtain⟨rfl,hlk⟩:=hb
  rw[hv]at hX
  have hV:=hX.val (by simp)
  have hl:((es.drop lo).take k).length=k:=by simp;omega
  have hget: ∀i,i<k→((es.drop lo).take k).getD i .undef=es.getD (lo+i) .undef:=by
   intro i hi
   simp only[List.getD_eq_getElem?_getD,List.getElem?_take,if_pos hi,List.getElem?_drop]
  have hemp: ∀A c,k=0→Src P (shOf P e).sz t (.slice A 0 c) ((es.drop lo).take k).length [] w∧News w (prOf (Yy own ρ xs)) μ (shOf P e) ((es.drop lo).take k) []∧zns P (shOf P e).sz (.slice A 0 c) ((es.drop lo).take k).length [] w:=by
   intro A c hk
   subst hk
   simp only[List.take_zero,List.length_nil]
   refine⟨?_,⟨by simp,fun i hi=>by simp at hi,fun i j hi=>by simp at hi⟩,zdz _ _ _⟩
   cases A with
   |none=>exact Src.ofNil w hu c
   |some ad=>exact Src.ofSlice w hu ad 0 c [] (by simp) (fun j u hj=>by simp at hj) (fun u hu=>by simp at hu)
  generalize a.eval x=cv at hV
  cases hV with
  |rowE _ _ _ b A c hb=>
   obtain⟨h1,h2⟩:=hemp A c rfl
   exact⟨_,_,[],hs2,h1,h2⟩
  |row _ _ _ _ b c hb hn=>
   by_cases hk:k=0
   ·subst hk
    obtain⟨h1,h2⟩:=hemp (some ⟨b,lo*(shOf P e).sz,none⟩) c rfl
    exact⟨_,_,[],hs2,h1,h2⟩
   ·obtain⟨ccs,ty,fz,m,hh,hn',hl',hf,ho,hcell,hj⟩:=zes h.rel.sto hst hb (by rintro rfl;simp at hlk;omega)
    obtain⟨_,hst1,_⟩:=h.rel.read tk xs
    have hlt: ∀i j,i<k→j<(shOf P e).sz→(lo+i)*(shOf P e).sz+j<m:=fun i j hi hj'=>Nat.lt_of_lt_of_le (XD (by omega) hj') hl'
    have hg: ∀i j,i<k→j<(shOf P e).sz→((List.range (k*(shOf P e).sz)).map fun z=>ccs.getD (lo*(shOf P e).sz+z) undef).getD (i*(shOf P e).sz+j) undef=ccs.getD ((lo+i)*(shOf P e).sz+j) undef:=by
     intro i j hi hj'
     simp only[List.getD_eq_getElem?_getD,List.getElem?_map,List.getElem?_range (XD hi hj'),Option.map_some,Option.getD_some]
     rw[Nat.add_mul,Nat.add_assoc]
    have hN:News w (prOf (Yy own ρ xs)) μ (shOf P e) ((es.drop lo).take k) ((List.range (k*(shOf P e).sz)).map fun z=>ccs.getD (lo*(shOf P e).sz+z) undef):=by
     refine⟨by rw[hl];simp,fun i hi=> ?_,fun i j hi hj'=> ?_⟩
     ·rw[hl]at hi
      rw[hget i hi]
      exact(hj _ (by omega)).1
     ·rw[hl]at hi
      rw[hg i j hi hj',hget i hi]
      have:=(hj (lo+i) (by omega)).2 j hj'
      exact⟨this.1,hst1.vrep this.2⟩
    refine⟨_,_,_,hs2,zdy hN ?_⟩
    rw[hl]
    suffices hcc: ∀z u,((List.range (k*(shOf P e).sz)).map fun z=>ccs.getD (lo*(shOf P e).sz+z) undef)[z]? =some u→w.cell? ((⟨b,lo*(shOf P e).sz,none⟩:Addr).add z)=some u from
     ⟨Src.ofSlice w hu _ k c _ (by simp) hcc hN.one,zhI _ k c _ (by simp) hcc⟩
    intro z u hz
    have hlt':=(List.getElem?_eq_some_iff.1 hz).1
    simp only[List.length_map,List.length_range]at hlt'
    simp only[List.getElem?_map,List.getElem?_range hlt',Option.map_some,Option.some.injEq]at hz
    rw[Xz,←hz]
    refine hcell _ ?_
    have:(lo+k)*(shOf P e).sz≤es.length*(shOf P e).sz:=Nat.mul_le_mul_right _ hlk
    rw[Nat.add_mul]at this
    omega
 ·cases hs
end
end Go.AM
namespace Go.AM
open Go Go.RowKit
section
variable{P:Program}{cfg:Cfg}{base n:Nat}{w:World}{own:Own}{μ:List Nat}{ρ:Env}{st:St}{a:Act}
variable{fid rid idx:Nat}{all:List Oper}{o:Oper}{R:Type}{r:R}{X:Tag→Prop}
theorem Step.retagAt(hs:Sto P cfg base w own μ st)(own':Own)(hp: ∀b i,own b i= .pr→own' b i= .pr)(hX: ∀b i,¬X (own b i)→own' b i=own b i)(hfr: ∀b i,own' b i= .fr→own b i= .fr)(hfree: ∀b i,own b i= .free→own' b i= .free)
  (hfr': ∀b i,own b i= .fr→own' b i= .fr):Step base w own μ w own' μ X:=
 ⟨Below.refl _ _,fun b i h=>⟨hp b i h,rfl⟩,fun b i _ h=>hX b i h,hfr,fun b i h=>hs.alloc b i fun e=>h (hfree b i e),
  fun b i h1 h2 h3=>hs.low b i (fun e=>h1 (hfree b i e)) (fun e=>h2 (hp b i e)) (fun e=>h3 (hfr' b i e)),fun _ c _ _ h=>⟨c,h,rfl⟩,fun _ _ _ _ _ _=>rfl,[],by simp⟩
def JI(own:Own)(b:Nat)(G:Nat→Tag):Own:=fun b' i=>if b'=b then G i else own b' i
theorem Step.newAt(hs:Sto P cfg base w own μ st)(ob:Obj)(G:Nat→Tag)(hg: ∀i,G i≠ .fr):
  Step base w own μ (w.alloc ob) (JI own w.heap.size G) μ (fun _=>False):=by
 have hfree: ∀i,own w.heap.size i= .free:=fun i=>Classical.byContradiction fun h=>Nat.lt_irrefl _ (hs.alloc _ i h)
 have hne: ∀{b i},own b i≠ .free→b≠w.heap.size:=fun h e=>h (by subst e;exact hfree _)
 refine⟨(Below.refl _ _).alloc hs.size ob,fun b i h=> ?_,fun b i h _=> ?_,fun b i h=> ?_,fun b i h=> ?_,fun b i h1 h2 h3=> ?_,fun b c e f hb=> ?_,fun b g' h1 h2 _ _=> ?_,[],by simp⟩
 ·have hb:b≠w.heap.size:=hne (i:=i) (by rw[h];simp)
  exact⟨by simp[JI,hb,h],World.cell?_alloc_old w ob _ hb⟩
 ·simp[JI,hne h]
 ·by_cases e:b=w.heap.size
  ·simp[JI,e]at h;exact absurd h (hg i)
  ·simpa[JI,e]using h
 ·by_cases e:b=w.heap.size
  ·subst e;simp
  ·have:own b i≠ .free:=by simpa[JI,e]using h
   have:=hs.alloc b i this
   simp;omega
 ·by_cases e:b=w.heap.size
  ·rw[e];exact hs.size
  ·simp only[JI,e,if_false]at h1 h2 h3
   exact hs.low b i h1 h2 h3
 ·have hb':b<w.heap.size:=(Array.getElem?_eq_some_iff.1 hb).1
  exact⟨c,(Below.heap_alloc w ob b hb').trans hb,rfl⟩
 ·have hb:b≠w.heap.size:=hne (i:=0) (by rw[h1];exact h2)
  have hlt:b<w.heap.size:=hs.alloc b 0 (by rw[h1];exact h2)
  exact Below.heap_alloc w ob b hlt
theorem News.append{pr:Nat→Nat→Prop}{sh:Sh}{es ys:List V}{olds news:List Value}(h1:News w pr μ sh es olds)(h2:News w pr μ sh ys news):News w pr μ sh (es++ys) (olds++news):=by
 obtain⟨a1,a2,a3⟩:=h1
 obtain⟨b1,b2,b3⟩:=h2
 refine⟨by rw[List.length_append,List.length_append,a1,b1,Nat.add_mul],fun i hi=> ?_,fun i j hi hj=> ?_⟩
 ·rw[List.length_append]at hi
  rw[List.getD_eq_getElem?_getD]
  rcases Nat.lt_or_ge i es.length with h|h
  ·rw[List.getElem?_append_left h,←List.getD_eq_getElem?_getD];exact a2 i h
  ·rw[List.getElem?_append_right h,←List.getD_eq_getElem?_getD];exact b2 _ (by omega)
 ·rw[List.length_append]at hi
  rcases Nat.lt_or_ge i es.length with h|h
  ·have e1:(es++ys).getD i .undef=es.getD i .undef:=by rw[List.getD_eq_getElem?_getD,List.getElem?_append_left h,←List.getD_eq_getElem?_getD]
   have e2:(olds++news).getD (i*sh.sz+j) undef=olds.getD (i*sh.sz+j) undef:=by
    rw[List.getD_eq_getElem?_getD,List.getElem?_append_left (by rw[a1];exact XD h hj),←List.getD_eq_getElem?_getD]
   rw[e1,e2];exact a3 i j h hj
  ·have e1:(es++ys).getD i .undef=ys.getD (i-es.length) .undef:=by rw[List.getD_eq_getElem?_getD,List.getElem?_append_right h,←List.getD_eq_getElem?_getD]
   have e0:i*sh.sz+j-olds.length=(i-es.length)*sh.sz+j:=by
    rw[a1,Nat.sub_mul]
    have:=Nat.mul_le_mul_right sh.sz h
    omega
   have e2:(olds++news).getD (i*sh.sz+j) undef=news.getD ((i-es.length)*sh.sz+j) undef:=by
    rw[List.getD_eq_getElem?_getD,List.getElem?_append_right (by
     rw[a1]
     have:=Nat.mul_le_mul_right sh.sz h
     omega),←List.getD_eq_getElem?_getD,e0]
   rw[e1,e2];exact b3 _ j (by omega) hj
theorem News.mono{pr pr':Nat→Nat→Prop}{w':World}{μ':List Nat}{sh:Sh}{es:List V}{olds:List Value}(h:News w pr μ sh es olds)(hv: ∀v c,VRep w pr μ v c→VRep w' pr' μ' v c):News w' pr' μ' sh es olds:=
 ⟨h.1,h.2.1,fun i j hi hj=>⟨(h.2.2 i j hi hj).1,hv _ _ (h.2.2 i j hi hj).2⟩⟩
theorem zgX{g:Tag}{sh:Sh}{es:List V}{A:Option Addr}{len cap:Nat}(hV:VRep w (prOf own) μ (.vec .full sh es) (.slice A len cap))(hz:0<sh.sz):GRep w own μ g sh es (.slice A len cap):=by
 cases hV with
 |vecE _ _ _ _ hg hm=>
  have:=hm rfl
  subst this
  exact⟨A,0,rfl,Nat.le_refl _, .inl ⟨rfl,rfl⟩⟩
 |vec _ _ _ ad _ f hm hf hl ha hcell hsh hc=>
  have:=hf rfl
  subst this
  refine⟨some ad,es.length,rfl,Nat.le_refl _, ?_⟩
  by_cases hne:es=[]
  ·subst hne;exact .inl ⟨rfl,rfl⟩
  ·right
   have hpos:0<es.length:=List.length_pos_iff.2 hne
   have hlast:=(hcell (es.length-1) (sh.sz-1) (by omega) (by omega)).1
   have hidx:(es.length-1)*sh.sz+(sh.sz-1)+1=es.length*sh.sz:=by
    obtain⟨k,hk⟩: ∃k,es.length=k+1:=⟨es.length-1,by omega⟩
    rw[hk,Nat.add_sub_cancel,Nat.succ_mul];omega
   have: ∃ccs ty fz,w.heap[ad.block]? =some (.cells ccs ty fz)∧ad.off+es.length*sh.sz≤ccs.size:=by
    unfold World.cell? at hlast
    simp only at hlast
    cases hh:w.heap[ad.block]? with
    |none=>rw[hh]at hlast;simp at hlast
    |some ob=>
     rw[hh]at hlast
     cases ob with
     |cells ccs ty fz=>
      refine⟨ccs,ty,fz,rfl, ?_⟩
      simp only at hlast
      have hlt:=(Array.getElem?_eq_some_iff.1 hlast).1
      omega
     |_=>simp at hlast
   obtain⟨ccs,ty,fz,hh,hsz⟩:=this
   exact⟨ad,f,ccs,ty,fz,rfl,ha,hh,hsz,hcell,hsh,hc,fun k h1 h2=>by omega⟩
theorem Jm{c:Call}{b:Builtin}(hop:o.op= .call c)(hc:c.callee= .builtin b){xs:Array Operand}(ha:c.args=xs){ts:Array TypeId}(ht:c.argTypes=ts){cs:Array Bool}(hcs:cs=xs.map fun| .const _=>true|_=>false){nx:Next}{w':World}
  (hr:(builtin b ts o.type cs (xs.map a.eval)).run P w= .ok nx w'):(execOp a.eval o).run P w= .ok nx w':=by
 subst ha ht hcs
 simp only[execOp,hop,resolve,hc,Sem.run_bind,Sem.run_pure,Result.andThen_ok,invoke]
 exact hr
theorem zal{α:Type}{xs:Array α}{x y:α}(h:xs.toList=[x,y]):xs= #[x,y]:=by
 cases xs;simp only at h;subst h;rfl
theorem zq4{α:Type}{xs:Array α}{x:α}(h:xs.toList=[x]):xs= #[x]:=by
 cases xs;simp only at h;subst h;rfl
theorem znt{g:Tag}{pr:Nat→Nat→Prop}{w':World}{own':Own}{sh:Sh}{es:List V}{cells:List Value}{b cap:Nat}{C:Array Value}{ty:TypeId}(hN:News w' (prOf own') μ sh es cells)(hb:w'.heap[b]? =some (.cells C ty (0,0)))
  (hC: ∀k,k<cells.length→C.getD k undef=cells.getD k undef) (hle:es.length≤cap) (hsz:cap*sh.sz≤C.size) (hp: ∀k,k<es.length*sh.sz→own' b k= .pr) (hg: ∀k,es.length*sh.sz≤k→own' b k=g):
  GRep w' own' μ g sh es (.slice (some ⟨b,0,none⟩) es.length cap):=by
 have hes:es.length*sh.sz≤cap*sh.sz:=Nat.mul_le_mul_right _ hle
 refine⟨_,cap,rfl,hle, .inr ⟨⟨b,0,none⟩,fun i j=>cells.getD (i*sh.sz+j) undef,C,ty,(0,0),rfl,rfl,hb,by simpa using hsz,fun i j hi hj=> ?_,hN.2.1,fun i j hi hj=>(hN.2.2 i j hi hj).2,fun k h1 h2=> ?_⟩⟩
 ·have hlt:=XD hi hj
  simp only[Nat.zero_add]
  refine⟨?_,hp _ hlt,(hN.2.2 i j hi hj).1⟩
  have h1:i*sh.sz+j<C.size:=by omega
  have h2:=hC (i*sh.sz+j) (by rw[hN.1];exact hlt)
  rw[←h2]
  simp[World.cell?,hb,h1]
 ·simp only[Nat.zero_add]
  refine⟨hg k h1, ?_⟩
  simp[World.frozen?,hb]
theorem zja{s x:Operand}{t t' e ty:TypeId}(he:P.underlying t=some (.slice e))(hty:okTy P e=true){sh:Sh}(hsh:sh=shOf P e){es ys:List V}{A:Option Addr}{cap:Nat}{pr:Nat→Nat→Prop}
  (hs:a.eval s= .slice A es.length cap) {olds news:List Value} (hO:News w pr μ sh es olds) (hOA:es≠ []→ ∃b off,A=some ⟨b,off,none⟩∧ ∀j,j<olds.length→w.cell? ⟨b,off+j,none⟩=some (olds.getD j undef))
  (hN:News w pr μ sh ys news) (hS:Src P sh.sz t' (a.eval x) ys.length news w) (hg:cap<es.length+ys.length) (hroom:roomFor P e (es.length+ys.length)=true):
  ∃C k,(Builtin.append_ #[t,t'] ty #[a.eval s,a.eval x]).run P w= .ok (.slice (some ⟨w.heap.size,0,none⟩) (es.length+ys.length) k) ((drawn w (w.drawn+1)).alloc (.cells C e))∧
   es.length+ys.length≤k∧C.size=k*sh.sz∧ ∀j,j<(es.length+ys.length)*sh.sz→C.getD j undef=(olds++news).getD j undef:=by
 subst hsh
 obtain⟨d,i,hd,hi,hsz,_⟩:=QF hty
 obtain⟨z,hz,hzs⟩: ∃z,i.zero=some z∧z.cells.size=(shOf P e).sz:=by
  obtain⟨i',z,hi',hz,hzs,_⟩:=zaN hty
  rw[hi]at hi';cases hi'
  exact⟨z,hz,hzs⟩
 simp only[roomFor,hi,Option.map_some,Option.getD_some,Bool.and_eq_true,decide_eq_true_eq]at hroom
 obtain⟨hr1,hr2⟩:=hroom
 have hold:(Builtin.firstCells i.size es.length (.slice A es.length cap)).run P w.drew= .ok olds.toArray w.drew:=by
  by_cases hne:es=[]
  ·have:olds=[]:=List.eq_nil_of_length_eq_zero (by rw[hO.1,hne];simp)
   subst this
   rw[hne]
   cases A with
   |none=>exact run_firstCells_none w.drew _ _ _ _
   |some ad=>exact run_firstCells_some w.drew _ 0 ad 0 cap [] (by simp) (fun j v hj=>by simp at hj)
  ·obtain⟨b,off,rfl,hc⟩:=hOA hne
   refine run_firstCells_some w.drew _ _ _ _ _ olds (by rw[hO.1,hsz]) fun j v hj=> ?_
   have hlt:=(List.getElem?_eq_some_iff.1 hj).1
   rw[Xz]
   show w.cell? _=_
   rw[hc j hlt,List.getD_eq_getElem?_getD,hj];rfl
 have hr3:(es.length+ys.length)*i.bytes*2≤2^48:=by rw[Nat.mul_assoc,Nat.mul_comm i.bytes 2];exact hr1
 have hr4:es.length+ys.length≤(es.length+ys.length)*i.bytes:=Nat.le_mul_of_pos_right _ hr2
 have hfit:Builtin.nextslicecap (es.length+ys.length) cap*i.bytes≤281474976710656:=by
  have h1:=Nat.mul_le_mul_right i.bytes (nextslicecap_le hg)
  rw[Nat.mul_assoc,Nat.mul_comm 2]at h1
  omega
 have hrun:=run_append_grow_src (P:=P) w t t' ty e i z he hi hz A es.length cap olds hold (a.eval x) ys.length news (by rw[hsz];exact hS) hg (by omega) hfit
 have hcap:=grownCap_ge w (es.length+ys.length) cap e
 have hlen:(olds++news).length=(es.length+ys.length)*(shOf P e).sz:=by rw[List.length_append,hO.1,hN.1,Nat.add_mul]
 refine⟨_,_,by rw[hs];exact hrun,hcap, ?_,fun j hj=> ?_⟩
 ·rw[Array.size_append,size_zeroCells,hzs,List.size_toArray,hlen,←Nat.add_mul]
  congr 1
  omega
 ·rw[Array.getD_eq_getD_getElem?,Array.getElem?_append_left (by rw[List.size_toArray,hlen];exact hj)]
  simp[List.getD_eq_getElem?_getD]
theorem zhJ(hR:Sto P cfg base w own μ st)(C:Array Value)(e:TypeId)(g:Nat→Tag)(hg: ∀i,g i≠ .fr):
  Step base w own μ ((drawn w (w.drawn+1)).alloc (.cells C e)) (JI own w.heap.size g) μ (fun _=>False):=by
 have s1:=Step.drawn hR (w.drawn+1)
 have h1:=hR.step s1 hR.len (fun r x b h1 h2=> .inl ⟨h1,fun _ h=>h⟩)
 have s2:=Step.newAt h1 (.cells C e) g hg
 exact(s1.trans s2).weaken fun g h=>h.elim id id
structure Old(w:World)(own:Own)(μ:List Nat)(ρ:Env)(s:Operand)(sh:Sh)(es:List V)(c:Value)(A:Option Addr)(cap:Nat)(olds:List Value):Prop where
 val:c= .slice A es.length cap
 le:es.length≤cap
 news:News w (prOf own) μ sh es olds
 at':es≠ []→ ∃b off,A=some ⟨b,off,none⟩∧ ∀j,j<olds.length→w.cell? ⟨b,off+j,none⟩=some (olds.getD j undef)
 how:(∃t0,s= .tmp t0∧(∃es',ρ.get t0= .vec .plain sh es')∧GRep w own μ (.t t0 0) sh es c)∨(VRep w (prOf own) μ (.vec .full sh es) c∧(cap=es.length))
theorem znu{t:TypeId}{tk:Bool}{xs:List Operand}(h:Pre P cfg base n all w own μ ρ st a o){s:Operand}(hx:s∈xs){m:Mode}{sh:Sh}{es:List V}(hv:ZZ P t (rd ρ tk s)= .vec m sh es)(hm:m= .grow∨m= .full):
  ∃A cap olds,Old w (Yy own ρ xs) μ (ρ.apply (upds ρ tk xs)) s sh es (a.eval s) A cap olds:=by
 have hX:=(Z0 h tk hx).nil (P:=P) (t:=t)
 rw[hv]at hX
 rcases hm with rfl|rfl
 ·obtain⟨t0,rfl,hG⟩:=hX
  obtain⟨htk,t',e1,hget⟩:=zer (zaX hv)
  cases e1
  have hp:=hG.plain
  have hG':=hG
  obtain⟨A,cap,hc,hl,_⟩:=hG'
  rw[hc]at hp
  obtain⟨_,_,news,hN,hA⟩:=zfQ hp
  refine⟨A,cap,news,hc,hl,hN,fun hne=> ?_, .inl ⟨t0,rfl,⟨es, ?_⟩,hG⟩⟩
  ·obtain⟨b,off,h1,h2⟩:=hA hne
   exact⟨b,off,h1,fun j hj=>(h2 j hj).1⟩
  ·rw[(zcd ρ tk xs t0).1 hx,Qx,hget,htk];rfl
 ·have hV:=hX.val (by simp)
  have hV':=hV
  generalize a.eval s=c at hV hV'
  cases c with
  |slice A len cap=>
   obtain⟨rfl,hl,news,hN,hA⟩:=zfQ hV
   refine⟨A,cap,news,rfl,hl,hN,fun hne=> ?_, .inr ⟨hV', ?_⟩⟩
   ·obtain⟨b,off,h1,h2⟩:=hA hne
    exact⟨b,off,h1,fun j hj=>(h2 j hj).1⟩
   ·cases hV' with
    |vecE _ _ _ _ _ hm=>exact hm rfl
    |vec _ _ _ _ _ _ _ hf=>exact hf rfl
  |_=>cases hV
theorem zfR(h:Pre P cfg base n all w own μ ρ st a o){tk:Bool}{xs:List Operand}{d:Nat}(hd:o.dst=some d){w':World}{own':Own}(hR:Rel P cfg base n w' own' μ (ρ.apply (upds ρ tk xs)) st a)(hk:Keeps base w own μ w' own' μ){sh:Sh}{es:List V}{c:Value}
  (hG:GRep w' own' μ (.t d 0) sh es c) (hrun:(execOp a.eval o).run P w= .ok (.value c) w'):OpOK P cfg base n all w own μ o a (ρ.apply (upds ρ tk xs++ZL o.dst (.vec .grow sh es))) st:=by
 rw[ZT]
 refine⟨_,c,w',own',μ,hrun, .inl rfl, ?_,hk, ?_⟩
 ·rw[hd]
  exact hR.put_any d (h.dst d hd) (Qc (h.noPtr hd) tk xs) (by simp) fun _ _=>hG
 ·rw[hd]
  exact(h.lp.read tk xs).set h.mem hd _
theorem znv{ρ1:Env}{own1:Own}(hR:Rel P cfg base n w own1 μ ρ1 st a){t0 d:Nat}{sh:Sh}{es ys:List V}{b off cap:Nat}{olds news:List Value}(hpl: ∃es',ρ1.get t0= .vec .plain sh es')
  (hG:GRep w own1 μ (.t t0 0) sh es (.slice (some ⟨b,off,none⟩) es.length cap)) (hO:News w (prOf own1) μ sh es olds) (hN:News w (prOf own1) μ sh ys news) (hy:ys≠ []) (hz:0<sh.sz) (hroom:es.length+ys.length≤cap):
  ∃own',(∀j,j<news.length→(w.cell? ⟨b,off+es.length*sh.sz+j,none⟩).isSome=true)∧(∀j,j<news.length→w.frozen? ⟨b,off+es.length*sh.sz+j,none⟩=false)∧
   Step base w own1 μ (w.setCells b (off+es.length*sh.sz) news) own' μ (fun g=>g= .t t0 0)∧Rel P cfg base n (w.setCells b (off+es.length*sh.sz) news) own' μ ρ1 st a∧
   GRep (w.setCells b (off+es.length*sh.sz) news) own' μ (.t d 0) sh (es++ys) (.slice (some ⟨b,off,none⟩) (es.length+ys.length) cap):=by
 obtain⟨A,cap',hc,hl,hcase⟩:=hG
 cases hc
 have hypos:0<ys.length:=List.length_pos_iff.2 hy
 rcases hcase with⟨rfl,rfl⟩|⟨ad,f,ccs,ty,fz,hA,ha,hb,hcap,hcell,hsh,hrep,hsp⟩
 ·exact absurd (by simpa using hroom) hy
 cases hA
 simp only at hb hcap hcell hsp
 have hmul:(es.length+ys.length)*sh.sz≤cap*sh.sz:=Nat.mul_le_mul_right _ hroom
 rw[Nat.add_mul]at hmul
 have hnl:=hN.1
 have hfz: ∀i,i<news.length→w.frozen? ⟨b,off+es.length*sh.sz+i,none⟩=false:=fun i hi=>by
  have:=(hsp (es.length*sh.sz+i) (by omega) (by omega)).2
  rwa [←Nat.add_assoc]at this
 have htag: ∀i,i<news.length→own1 b (off+es.length*sh.sz+i)= .t t0 0:=fun i hi=>by
  have:=(hsp (es.length*sh.sz+i) (by omega) (by omega)).1
  rwa [←Nat.add_assoc]at this
 have hpos:0<news.length:=by rw[hnl];exact Nat.mul_pos hypos hz
 have hbase:base≤b:=hR.sto.low b (off+es.length*sh.sz+0) (by rw[htag 0 hpos];simp) (by rw[htag 0 hpos];simp) (by rw[htag 0 hpos];simp)
 obtain⟨w',hrun,hstep,c',hb',hsz',hget⟩:=zaZ (P:=P) (X:=fun g=>g= .t t0 0) hR.sto hb news (off:=off+es.length*sh.sz) (by omega) hN.one hfz (g:= .t t0 0) htag (by simp) hbase rfl
 have hcs: ∀j,j<news.length→(w.cell? ⟨b,off+es.length*sh.sz+j,none⟩).isSome=true:=fun j hj=>by
  have:off+es.length*sh.sz+j<ccs.size:=by omega
  simp[World.cell?,hb,this]
 have hw:w'=w.setCells b (off+es.length*sh.sz) news:=by
  have:=run_storeCells_cells (P:=P) b (off+es.length*sh.sz) news 0 w (by simpa using hcs) (by simpa using hfz) hN.one
  simp only[Nat.add_zero]at this
  rw[this]at hrun
  cases hrun;rfl
 subst hw
 have hS1:Sto P cfg base (w.setCells b (off+es.length*sh.sz) news) own1 μ st:=hR.sto.step hstep hR.sto.len (fun r x b h1 h2=> .inl ⟨h1,by simp⟩)
 let own2:Own:=fun b' i=>if own1 b' i= .t t0 0 then(if b'=b∧off+es.length*sh.sz≤i∧i<off+es.length*sh.sz+news.length then .pr else .t d 0)else own1 b' i
 have s2:Step base (w.setCells b (off+es.length*sh.sz) news) own1 μ (w.setCells b (off+es.length*sh.sz) news) own2 μ (fun g=>g= .t t0 0):=by
  refine Step.retagAt hS1 own2 (fun b i h=> ?_) (fun b i h=> ?_) (fun b i h=> ?_) (fun b i h=> ?_) (fun b i h=> ?_)
  ·simp only[own2,h];simp
  ·simp only[own2,if_neg h]
  ·simp only[own2]at h
   split at h
   ·split at h<;>cases h
   ·exact h
  ·simp only[own2,h];simp
  ·simp only[own2,h];simp
 have hall:Step base w own1 μ (w.setCells b (off+es.length*sh.sz) news) own2 μ (fun g=>g= .t t0 0):=(hstep.trans s2).weaken fun g h=>h.elim id id
 refine⟨own2,hcs,hfz,hall, ?_, ?_⟩
 ·refine hR.step hall (by simp) hR.sto.len rfl rfl (fun r x b h1 h2=> .inl ⟨h1,by simp⟩) fun z=> ?_
  by_cases e:z=t0
  ·right
   subst e
   obtain⟨es',he⟩:=hpl
   rw[he]
   have:=hR.env z
   rw[he]at this
   exact TRep.of_val (hall.vrep this)
  ·left
   refine⟨rfl,rfl,fun j h=>e (by cases h;rfl),fun q off' hq=>⟨rfl, ?_⟩⟩
   have:=hR.env z
   rw[hq]at this
   obtain⟨_,_,_,h3⟩:=this
   exact h3
 ·have hlen:(es++ys).length=es.length+ys.length:=List.length_append
  have hNA:=(hO.append hN).mono (w':=w.setCells b (off+es.length*sh.sz) news) (pr':=prOf own2) (μ':=μ) fun v c hv=>hall.vrep hv
  have holds: ∀i j,i<es.length→j<sh.sz→olds.getD (i*sh.sz+j) undef=olds.getD (i*sh.sz+j) undef:=fun _ _ _ _=>rfl
  refine⟨_,cap,by rw[hlen],by rw[hlen];exact hroom, .inr ⟨⟨b,off,none⟩,fun i j=>if i<es.length then f i j else news.getD ((i-es.length)*sh.sz+j) undef,c',ty,fz,rfl,rfl,hb',by rw[hsz'];exact hcap,fun i j hi hj=> ?_,hNA.2.1,fun i j hi hj=> ?_,fun k h1 h2=> ?_⟩⟩
  ·rw[hlen]at hi
   by_cases hie:i<es.length
   ·obtain⟨h1,h2,h3⟩:=hcell i j hie hj
    obtain⟨h4,h5⟩:=hall.pr _ _ h2
    simp only[if_pos hie]
    exact⟨h5.trans h1,h4,h3⟩
   ·simp only[if_neg hie]
    have hlt:(i-es.length)*sh.sz+j<news.length:=by rw[hnl];exact XD (by omega) hj
    have hi':i*sh.sz+j=es.length*sh.sz+((i-es.length)*sh.sz+j):=by
     rw[←Nat.add_assoc,←Nat.add_mul];congr 2;omega
    refine⟨?_, ?_,(hN.2.2 _ j (by omega) hj).1⟩
    ·have hlt2:off+(i*sh.sz+j)<c'.size:=by rw[hsz'];omega
     have:=hget (off+(i*sh.sz+j))
     rw[if_pos (by omega)]at this
     have e:off+(i*sh.sz+j)-(off+es.length*sh.sz)=(i-es.length)*sh.sz+j:=by omega
     rw[e]at this
     rw[←this]
     simp[World.cell?,hb',hlt2]
    ·have:=htag _ hlt
     have e:off+(i*sh.sz+j)=off+es.length*sh.sz+((i-es.length)*sh.sz+j):=by omega
     show own2 b (off+(i*sh.sz+j))= .pr
     simp only[own2]
     rw[e,if_pos this,if_pos (by exact⟨trivial,by omega,by omega⟩)]
  ·rw[hlen]at hi
   by_cases hie:i<es.length
   ·simp only[if_pos hie]
    have e1:(es++ys).getD i .undef=es.getD i .undef:=by rw[List.getD_eq_getElem?_getD,List.getElem?_append_left hie,←List.getD_eq_getElem?_getD]
    rw[e1]
    exact hall.vrep (hrep i j hie hj)
   ·simp only[if_neg hie]
    have e1:(es++ys).getD i .undef=ys.getD (i-es.length) .undef:=by rw[List.getD_eq_getElem?_getD,List.getElem?_append_right (by omega),←List.getD_eq_getElem?_getD]
    rw[e1]
    exact hall.vrep (hN.2.2 _ j (by omega) hj).2
  ·rw[hlen,Nat.add_mul]at h1
   obtain⟨h3,h4⟩:=hsp k (by omega) h2
   refine⟨?_,(hall.frozen hb).trans h4⟩
   show own2 b (off+k)= .t d 0
   simp only[own2]
   rw[if_pos h3,if_neg (by omega)]
end
end Go.AM
namespace Go.AM
open Go Go.RowKit
section
variable{P:Program}{cfg:Cfg}{base n:Nat}{w:World}{own:Own}{μ:List Nat}{ρ:Env}{st:St}{a:Act}
variable{fid rid idx:Nat}{all:List Oper}{o:Oper}{R:Type}{r:R}
theorem zfd{x:Res}{K:CT→CT→List (V×V)→Option R}(h:zhC x K=some r): ∃ck cv es,x= .map ck cv es∧K ck cv es=some r:=by
 cases x<;>simp[zhC]at h
 exact⟨_,_,_,rfl,h⟩
theorem zlc{v:V}{K:Nat→Option R}(h:zkm v K=some r): ∃q,v= .mp q∧K q=some r:=by
 cases v<;>simp[zkm]at h
 exact⟨_,rfl,h⟩
def zdb:CT→TypeDesc→Prop
 | .int,d=>d= .int .i64
 | .bool,d=>d= .bool
 | .str,d=>d= .string
 |_,_=>False
theorem zjb{t:TypeId}{c:CT}(h:zqz P t=some c): ∃d,P.underlying t=some d∧zdb c d:=by
 unfold zqz at h
 split at h<;>first|(cases h;exact⟨_,‹_›,rfl⟩)|cases h
theorem zc8{t:TypeId}{ck cv:CT}(h:zfa P t=some (ck,cv)): ∃k e dk de,P.underlying t=some (.map k e)∧P.underlying k=some dk∧zdb ck dk∧P.underlying e=some de∧zdb cv de∧ziJ P e cv=true:=by
 unfold zfa at h
 split at h
 ·rename_i k e hu
  split at h
  ·rename_i ck' cv' h1 h2
   cases hz:ziJ P e cv' with
   |false=>rw[hz]at h;cases h
   |true=>
   rw[hz]at h
   cases h
   obtain⟨dk,k1,k2⟩:=zjb h1
   obtain⟨de,k3,k4⟩:=zjb h2
   exact⟨_,_,dk,de,hu,k1,k2,k3,k4,hz⟩
  ·cases h
 ·cases h
theorem zc9{c:CT}{d:TypeDesc}(hd:zdb c d){v:V}{K:V→Option R}(h:Yl c v K=some r): ∃x,X3 c v=some x∧K v=some r:=by
 cases c<;>simp only[zdb]at hd
 ·obtain⟨i,rfl,h⟩:=YH h;exact⟨_,rfl,h⟩
 ·obtain⟨i,rfl,h⟩:=zdu h;exact⟨_,rfl,h⟩
 ·obtain⟨i,rfl,h⟩:=zc2 h;exact⟨_,rfl,h⟩
theorem zqU{c:CT}{v:V}{x:Value}(h:X3 c v=some x){w:World}{pr:Nat→Nat→Prop}{μ:List Nat}:VRep w pr μ v x:=by
 cases c<;>cases v<;>simp[X3]at h<;>subst h<;>constructor
theorem zgY{c:CT}{v:V}{x:Value}(h:X3 c v=some x){w:World}{pr:Nat→Nat→Prop}{μ:List Nat}{y:Value}(hy:VRep w pr μ v y):y=x:=by
 cases c<;>cases v<;>simp[X3]at h<;>subst h
 ·exact VRep.int_inv hy
 ·exact VRep.bool_inv hy
 ·exact VRep.str_inv hy
theorem ztJ{a b:ByteArray}(h:(a==b)=true):a=b:=by
 cases a;cases b
 have:ByteArray.beq _ _=true:=h
 simp[ByteArray.beq]at this
 simp[this]
theorem zma{c:CT}{d:TypeDesc}(hd:zdb c d){u v:V}{x y:Value}(hx:X3 c u=some x)(hy:X3 c v=some y):Instr.sameNow d x y=some (zfA u v)∧(zfA u v=true→y=x):=by
 cases c<;>simp only[zdb]at hd<;>subst hd<;>cases u<;>simp[X3]at hx<;>cases v<;>simp[X3]at hy<;>subst hx hy
 ·simp[Instr.sameNow,zfA]
  intro h;exact h.symm
 ·simp[Instr.sameNow,zfA]
  intro h;exact h.symm
 ·simp only[Instr.sameNow,zfA,true_and]
  exact fun h=>congrArg _ (ztJ h).symm
theorem findNow_spec{ck cv:CT}{d:TypeDesc}(hd:zdb ck d){k:V}{kx:Value}(hk:X3 ck k=some kx): ∀(es:List (V×V)) (L:List MapEntry) (i:Nat),L.length=es.length→(∀(j:Nat) (h:j<es.length) (h':j<L.length),X3 ck es[j].1=some L[j].key∧X3 cv es[j].2=some L[j].val)→
  (Instr.findNow d kx L i=some none∧(∀z,JZ es k z=z)∧ ∀v,QQ es k v=es++[(k,v)])∨
  ∃(j:Nat) (h:j<es.length) (h':j<L.length),Instr.findNow d kx L i=some (some (i+j,L[j].val))∧L[j].key=kx∧(∀z,JZ es k z=es[j].2)∧ ∀v,QQ es k v=es.set j (k,v)
 |[],[],i,_,_=> .inl ⟨rfl,fun _=>rfl,fun _=>rfl⟩
 |[],_::_,_,h,_=>by simp at h
 |_::_,[],_,h,_=>by simp at h
 |(u,v)::es,m::L,i,hl,hj=>by
  have h0:=hj 0 (by simp) (by simp)
  simp only[List.getElem_cons_zero]at h0
  obtain⟨q1,q2⟩:=zma hd hk h0.1
  cases he:zfA k u with
  |true=>
   right
   refine⟨0,by simp,by simp, ?_, ?_,fun z=> ?_,fun v'=> ?_⟩
   ·simp only[Instr.findNow,q1,he,List.getElem_cons_zero,Nat.add_zero]
   ·simpa using q2 he
   ·simp[JZ,he]
   ·simp[QQ,he]
  |false=>
   rcases findNow_spec hd hk es L (i+1) (by simpa using hl) (fun j h h'=>by have:=hj (j+1) (by simp;omega) (by simp;omega);simpa only[List.getElem_cons_succ]using this)with⟨r1,r2,r3⟩|⟨j,h,h',r1,r2,r3,r4⟩
   ·left
    refine⟨?_,fun z=> ?_,fun v'=> ?_⟩
    ·simp only[Instr.findNow,q1,he,r1]
    ·simp[JZ,he,r2]
    ·simp[QQ,he,r3]
   ·right
    refine⟨j+1,by simpa using h,by simpa using h', ?_, ?_,fun z=> ?_,fun v'=> ?_⟩
    ·simp only[Instr.findNow,q1,he,r1,List.getElem_cons_succ,Option.some.injEq,Prod.mk.injEq,and_true]
     omega
    ·simpa using r2
    ·simp[JZ,he,r3]
    ·simp[QQ,he,r4]
theorem run_findKey{ck cv:CT}{kt:TypeId}{d:TypeDesc}(hu:P.underlying kt=some d)(hd:zdb ck d){k:V}{kx:Value}(hk:X3 ck k=some kx){es:List (V×V)}{ms:Array MapEntry}{cl:Nat}(he:za7 ck cv es ms cl)(w:World):
  ((Instr.findKey kt kx ms.toList).run P w= .ok none w∧(∀z,JZ es k z=z)∧ ∀v,QQ es k v=es++[(k,v)])∨
  ∃(j:Nat) (h:j<es.length) (h':j<ms.size),(Instr.findKey kt kx ms.toList).run P w= .ok (some (j,ms[j].val)) w∧ms[j].key=kx∧(∀z,JZ es k z=es[j].2)∧ ∀v,QQ es k v=es.set j (k,v):=by
 obtain⟨h1,_,h3⟩:=he
 have hrun: ∀x,Instr.findNow d kx ms.toList 0=some x→(Instr.findKey kt kx ms.toList).run P w= .ok x w:=fun x hx=>by
  simp only[Instr.findKey,Sem.run_bind,Go.run_underlying hu,Result.andThen_ok,hx]
  rfl
 rcases findNow_spec (cv:=cv) hd hk es ms.toList 0 (by simpa using h1) (fun j h h'=>by
  obtain⟨q1,q2,_⟩:=h3 j h (by simpa using h')
  exact⟨by simpa using q1,by simpa using q2⟩)with⟨r1,r2,r3⟩|⟨j,h,h',r1,r2,r3,r4⟩
 ·exact .inl ⟨hrun _ r1,r2,r3⟩
 ·refine .inr ⟨j,h,by simpa using h', ?_,by simpa using r2,r3,r4⟩
  rw[hrun _ r1]
  simp
theorem zkt{c:CT}{kt:TypeId}{d:TypeDesc}(hu:P.underlying kt=some d)(hd:zdb c d)(v:Value)(b:Bool)(w:World)(n:Nat):(Instr.checkKey b (n+1) kt v).run P w= .ok () w:=by
 cases c<;>simp only[zdb]at hd<;>subst hd<;>simp only[Instr.checkKey,Sem.run_bind,Go.run_underlying hu,Result.andThen_ok]<;>rfl
theorem run_checkKey{c:CT}{kt:TypeId}{d:TypeDesc}(hu:P.underlying kt=some d)(hd:zdb c d)(v:Value)(b:Bool)(w:World):(Instr.checkKey b 10000 kt v).run P w= .ok () w:=zkt hu hd v b w 9999
theorem zs4{c:CT}{t:TypeId}(hz:ziJ P t c=true)(w:World): ∃x,(zeroValue t).run P w= .ok x w∧X3 c (zpc c)=some x:=by
 unfold ziJ at hz
 cases hi:P.info? t with
 |none=>rw[hi]at hz;simp at hz
 |some i=>
  rw[hi]at hz
  simp only[Option.bind_some]at hz
  split at hz
  ·rename_i n hz0
   obtain rfl:n=0:=by simpa using hz
   exact⟨_,X0 hi hz0 w,rfl⟩
  ·rename_i b hz0
   obtain rfl:b=false:=by simpa using hz
   exact⟨_,X0 hi hz0 w,rfl⟩
  ·rename_i s hz0
   have hs:s.size=0:=by simpa using hz
   have:s=⟨#[]⟩:=by
    cases s with
    |mk d=>congr 1;exact Array.eq_empty_of_size_eq_zero hs
   subst this
   exact⟨_,X0 hi hz0 w,rfl⟩
  ·cases hz
theorem zqV(h:Pre P cfg base n all w own μ ρ st a o){t:TypeId}{m k:Operand}(hop:o.op= .lookup t m k false){tk:Bool}{ck cv:CT}(ht:zfa P t=some (ck,cv)){q:Nat}(hm:rd ρ tk m= .mp q){es:List (V×V)}(hst:st[q]? =some (.map ck cv es)){kx:Value}(hk:X3 ck (rd ρ tk k)=some kx):
  OpOK P cfg base n all w own μ o a (ρ.apply (upds ρ tk [m,k]++ZL o.dst (JZ es (rd ρ tk k) (zpc cv)))) st:=by
 obtain⟨kt,e,dk,de,hu,hku,hkl,heu,hel,hz⟩:=zc8 ht
 obtain⟨hr,hs1,_⟩:=h.rel.read tk [m,k]
 have hM:=(hm▸Z0 h tk (xs:=[m,k]) (x:=m) (by simp)).val (by simp)
 have hkn: ∀sh es',rd ρ tk k≠ .vec .grow sh es':=fun sh es' e=>by rw[e]at hk;cases ck<;>simp[X3]at hk
 have hK:=zgY hk ((Z0 h tk (xs:=[m,k]) (x:=k) (by simp)).val hkn)
 generalize hev:a.eval m=cm at hM
 cases hM with
 |mp _ b hb=>
  obtain⟨ho,ms,cl,hh,hE⟩:=hr.sto.res q _ b hst hb
  have hget:(getObj b).run P w= .ok (.map ms cl) w:=by simp[getObj,Sem.run,hh]
  have hfin: ∀v x,X3 cv v=some x→(Instr.lookup t (.map (some b)) kx false).run P w= .ok x w→OpOK P cfg base n all w own μ o a (ρ.apply (upds ρ tk [m,k]++ZL o.dst v)) st:=fun v x hv hrun=>
   Ym h tk [m,k] (zqU hv) (by simp only[execOp,hop,hev,hK];exact Z7 hrun)
  rcases run_findKey (cv:=cv) hku hkl hk hE w with⟨r1,r2,_⟩|⟨j,hj,hj',r1,_,r2,_⟩
  ·rw[r2]
   obtain⟨x,hx,hl⟩:=zs4 hz w
   refine hfin _ x hl ?_
   simp only[Instr.lookup,Sem.run_bind,Go.run_underlying hu,Result.andThen_ok,hget]
   simp only[Sem.run_pure,Result.andThen_ok,run_checkKey hku hkl,r1,Sem.run_bind,hx]
   rfl
  ·rw[r2]
   obtain⟨_,_,h3⟩:=hE
   obtain⟨_,q2,_⟩:=h3 j hj hj'
   refine hfin _ _ q2 ?_
   simp only[Instr.lookup,Sem.run_bind,Go.run_underlying hu,Result.andThen_ok,hget]
   simp only[Sem.run_pure,Result.andThen_ok,run_checkKey hku hkl,r1,Sem.run_bind]
   rfl
end
end Go.AM
namespace Go.AM
open Go Go.RowKit
section
variable{P:Program}{cfg:Cfg}{base n:Nat}{w:World}{own:Own}{μ:List Nat}{ρ:Env}{st:St}{a:Act}
variable{fid rid idx:Nat}{all:List Oper}{o:Oper}{R:Type}{r:R}
theorem zuT{ρ1:Env}{own1:Own}(hR:Rel P cfg base n w own1 μ ρ1 st a){t0 d:Nat}{sh:Sh}(hpl: ∃es',ρ1.get t0= .vec .plain sh es'):
  Rel P cfg base n w (Qy own1 (.t t0 0) (.t d 0)) μ ρ1 st a∧Step base w own1 μ w (Qy own1 (.t t0 0) (.t d 0)) μ (fun g=>g= .t t0 0):=by
 have s:Step base w own1 μ w (Qy own1 (.t t0 0) (.t d 0)) μ (fun g=>g= .t t0 0):=Step.mv hR.sto (by simp) (.inr (.inr trivial))
 refine⟨hR.step s (by simp) hR.sto.len rfl rfl (fun r x b h1 h2=> .inl ⟨h1,by simp⟩) fun z=> ?_,s⟩
 by_cases e:z=t0
 ·right
  subst e
  obtain⟨es',he⟩:=hpl
  rw[he]
  have:=hR.env z
  rw[he]at this
  exact TRep.of_val (s.vrep this)
 ·left
  refine⟨rfl,rfl,fun j h=>e (by cases h;rfl),fun q off' hq=>⟨rfl, ?_⟩⟩
  have:=hR.env z
  rw[hq]at this
  obtain⟨_,_,_,h3⟩:=this
  exact h3
theorem zqW(h:Pre P cfg base n all w own μ ρ st a o){c:Call}{s x:Operand}{t t':TypeId}(hop:o.op= .call c)(hc:c.callee= .builtin .append)(ha:c.args.toList=[s,x])(ht:c.argTypes.toList=[t,t']){d:Nat}(hd:o.dst=some d){tk:Bool}
  {K:V→Option R} (hs:ziL P st t' (rd ρ tk x) (fun sh ys=>zeo P t (rd ρ tk s) ys sh K)=some r):
  ∃v,K v=some r∧OpOK P cfg base n all w own μ o a (ρ.apply (upds ρ tk [s,x]++ZL o.dst v)) st:=by
 obtain⟨sh',ys,news,hK,hS,hN,_⟩:=zgW h (xs:=[s,x]) (x:=x) (by simp) hs
 obtain⟨hr,hs1,_⟩:=h.rel.read tk [s,x]
 have hk1:=Z8 hs1
 have key: ∃m sh es e,ZZ P t (rd ρ tk s)= .vec m sh es∧(m= .grow∨m= .full)∧Yi P t=some e∧(Qu P sh e&&decide (sh'=sh)&&decide (0<sh.sz)&&roomFor P e (es.length+ys.length))=true∧K (.vec .grow sh (es++ys))=some r:=by
  unfold zeo at hK
  split at hK
  ·cases hK
  ·rename_i e he
   unfold Xr at hK
   split at hK
   ·rename_i sh es hv
    split at hK
    ·rename_i hsh;subst hsh
     obtain⟨h1,h2⟩:=Zh hK
     exact⟨_,_,_,e,hv, .inl rfl,he,by simpa using h1,h2⟩
    ·cases hK
   ·rename_i sh es hv
    split at hK
    ·rename_i hsh;subst hsh
     obtain⟨h1,h2⟩:=Zh hK
     exact⟨_,_,_,e,hv, .inr rfl,he,by simpa using h1,h2⟩
    ·cases hK
   ·cases hK
 obtain⟨m,sh,es,e,hv,hm,he,hcond,hK⟩:=key
 simp only[Bool.and_eq_true,decide_eq_true_eq,Qu]at hcond
 obtain⟨⟨⟨⟨hty,hsh⟩,hss⟩,hz⟩,hroom⟩:=hcond
 rw[hss]at hS hN
 clear hss
 have hu:=YX he
 obtain⟨dd,i,hdd,hi,hsz,_⟩:=QF hty
 rw[←hsh]at hsz
 obtain⟨A,cap,olds,hold⟩:=znu h (xs:=[s,x]) (s:=s) (by simp) hv hm
 have hrunB: ∀{cv:Value} {w':World},(Builtin.append_ #[t,t'] o.type #[a.eval s,a.eval x]).run P w= .ok cv w'→(execOp a.eval o).run P w= .ok (.value cv) w':=by
  intro cv w' hr
  refine Jm hop hc (zal ha) (zal ht) rfl ?_
  exact Z7 (by simpa using hr)
 refine⟨_,hK, ?_⟩
 by_cases hy:ys=[]
 ·subst hy
  have:news=[]:=List.eq_nil_of_length_eq_zero (by rw[hN.1];simp)
  subst this
  have hrun:=run_append_nothing (P:=P) w t t' o.type e i hu hi A es.length cap hold.le (a.eval x) (by rw[hsz];exact hS)
  rw[←hold.val]at hrun
  rw[List.append_nil]
  rcases hold.how with⟨t0,rfl,hpl,hG⟩|⟨hV,_⟩
  ·obtain⟨h1,h2⟩:=zuT (d:=d) hr hpl
   exact zfR h hd h1 (hk1.trans (Yt h2 fun g e=> .inl ⟨_,_,e⟩)) (hG.mv (by simp)) (hrunB hrun)
  ·have hG:=zgX (g:= .t d 0) (hold.val▸hV) hz
   exact zfR h hd hr hk1 (c:=a.eval s) (by rw[hold.val];exact hG) (hrunB hrun)
 ·by_cases hfit:es.length+ys.length≤cap
  ·have hypos:0<ys.length:=List.length_pos_iff.2 hy
   rcases hold.how with⟨t0,rfl,hpl,hG⟩|⟨_,hcap⟩
   ·obtain⟨b,off,hA⟩: ∃b off,A=some ⟨b,off,none⟩:=by
     rw[hold.val]at hG
     obtain⟨A',cap',hc',_,hcase⟩:=hG
     cases hc'
     rcases hcase with⟨h1,h2⟩|⟨ad,_,_,_,_,hA,hsp,_⟩
     ·subst h1;subst h2;simp at hfit;exact absurd hfit hy
     ·obtain⟨b,off,s⟩:=ad
      simp only at hsp
      subst hsp
      exact⟨b,off,hA⟩
    subst hA
    rw[hold.val]at hG
    obtain⟨own',h1,h2,h3,h4,h5⟩:=znv (d:=d) hr hpl hG hold.news hN hy hz hfit
    have hrun:=run_append_room_src (P:=P) w t t' o.type e i hu hi b off es.length cap (a.eval x) ys.length news (by rw[hsz];exact hS) hfit (by rw[hsz];exact h1) (by rw[hsz];exact h2)
    rw[hsz,←hold.val]at hrun
    exact zfR h hd h4 (hk1.trans (Yt h3 fun g e=> .inl ⟨_,_,e⟩)) h5 (hrunB hrun)
   ·omega
  ·obtain⟨C,k,hrun,hk,hC,hget⟩:=zja (ty:=o.type) (s:=s) (x:=x) (a:=a) hu hty hsh hold.val hold.news hold.at' hN hS (by omega) hroom
   have hst:=zhJ (w:=w) hr.sto C e (fun i=>if i<(es.length+ys.length)*sh.sz then .pr else .t d 0) (fun i=>by split<;>simp)
   have hlen:(olds++news).length=(es.length+ys.length)*sh.sz:=by rw[List.length_append,hold.news.1,hN.1,Nat.add_mul]
   have hG:=znt (g:= .t d 0) (pr:=prOf own) (own':=JI (Yy own ρ [s,x]) w.heap.size fun i=>if i<(es.length+ys.length)*sh.sz then .pr else .t d 0) (μ:=μ) (cap:=k) (C:=C) (b:=w.heap.size) ((hold.news.append hN).mono fun v c hv=>hst.vrep hv)
    (World.alloc_heap_new (drawn w (w.drawn+1)) _) (fun j hj=>hget j (by rw[←hlen];exact hj)) (by rw[List.length_append];exact hk) (by rw[hC];exact Nat.le_refl _) (fun j hj=>by
     rw[List.length_append]at hj
     simp only[JI]
     rw[if_pos trivial,if_pos hj]) (fun j hj=>by
     rw[List.length_append]at hj
     simp only[JI]
     rw[if_pos trivial,if_neg (by omega)])
   rw[List.length_append]at hG
   exact zfR h hd (hr.same hst) (hk1.trans (hst.keeps fun h=>h)) hG (hrunB hrun)
theorem zuU(h:Pre P cfg base n all w own μ ρ st a o){c:Call}{x:Operand}{t:TypeId}(hop:o.op= .call c)(hc:c.callee= .builtin .len)(ha:c.args.toList=[x])(ht:c.argTypes.toList=[t]){tk:Bool}
  {K:V→Option R} (hl:zqP P t (rd ρ tk x) K=some r):
  ∃v,K v=some r∧OpOK P cfg base n all w own μ o a (ρ.apply (upds ρ tk [x]++ZL o.dst v)) st:=by
 have hX:=Z0 h tk (xs:=[x]) (x:=x) (by simp)
 have hrunB: ∀{cv:Value},(Builtin.len_ #[t] o.type #[a.eval x]).run P w= .ok cv w→(execOp a.eval o).run P w= .ok (.value cv) w:=by
  intro cv hr
  refine Jm hop hc (zq4 ha) (zq4 ht) rfl ?_
  exact Z7 (by simpa using hr)
 have hel:(Yi P t).isSome=true→ ∃e,P.underlying t=some (.slice e):=fun h=>by
  obtain⟨e,he⟩:=Option.isSome_iff_exists.1 h
  exact⟨e,YX he⟩
 have hslice: ∀{A:Option Addr} {m cap:Nat},(Yi P t).isSome=true→a.eval x= .slice A m cap→(Builtin.len_ #[t] o.type #[a.eval x]).run P w= .ok (.int .i64 m) w:=by
  intro A m cap he hx
  obtain⟨e,hu⟩:=hel he
  rw[hx]
  simp[Builtin.len_,Go.run_underlying hu,goInt,go_sem]
 unfold zqP at hl
 split at hl
 ·rename_i m sh es hv
  obtain⟨he,hl⟩:=Zh hl
  have hV:=hX.plain
  rw[hv]at hV
  have hV:VRep w (prOf (Yy own ρ [x])) μ (.vec .plain sh es) (a.eval x):=by cases m<;>exact hV
  cases hev:a.eval x with
  |slice A len cap=>
   rw[hev]at hV
   obtain⟨h1,_,_⟩:=zfQ hV
   subst h1
   exact⟨_,hl,Ym h tk [x] (.int _) (hrunB (hslice he hev))⟩
  |_=>rw[hev]at hV;cases hV
 ·rename_i sh q lo k hv
  obtain⟨he,hl⟩:=Zh hl
  rw[hv]at hX
  have hV:=hX.val (by simp)
  refine⟨_,hl,Ym h tk [x] (.int _) (hrunB ?_)⟩
  cases hev:a.eval x with
  |slice A len cap=>
   have:len=k:=by rw[hev]at hV;cases hV<;>rfl
   subst this
   rw[←hev];exact hslice he hev
  |_=>rw[hev]at hV;cases hV
 ·rename_i s hv
  obtain⟨he,hl⟩:=Zh hl
  rw[hv]at hX
  have hV:=VRep.str_inv (hX.val (by simp))
  refine⟨_,hl,Ym h tk [x] (.int _) (hrunB ?_)⟩
  rw[hV]
  simp[Builtin.len_,Go.run_underlying (ziZ he),goInt,go_sem]
 ·rename_i hv
  obtain⟨he,hl⟩:=Zh hl
  rw[hv]at hX
  have hV:=hX.val (by simp)
  refine⟨_,hl,Ym h tk [x] (.int _) (hrunB ?_)⟩
  cases hev:a.eval x with
  |slice A len cap=>
   have:len=0:=by rw[hev]at hV;cases hV;rfl
   subst this
   rw[←hev];exact hslice he hev
  |_=>rw[hev]at hV;cases hV
 ·cases hl
theorem zqX(h:Pre P cfg base n all w own μ ρ st a o){K:List (Nat×V)→Option R}(hp:Jx P cfg fid rid idx o ρ st K=some r): ∃us,K us=some r∧OpOK P cfg base n all w own μ o a (ρ.apply us) st:=by
 unfold Jx at hp
 dsimp only at hp
 split at hp
 ·rename_i t x hop
  rw[hop]at hp
  split at hp
  ·rename_i q off hx
   obtain⟨y,hst,hp⟩:=Yd hp
   obtain⟨cs,rfl,hp1⟩:=zc7 hp
   obtain⟨hb,hp2⟩:=Zh hp1
   simp only[Bool.and_eq_true,decide_eq_true_eq]at hb
   have hp3:=zlP hp2
   exact⟨_,hp3,znr h hop hx hst hb.1 hb.2⟩
  ·rename_i shp q i off hx
   obtain⟨y,hst,hp⟩:=Yd hp
   obtain⟨sh,es,rfl,hp1⟩:=Q1 hp
   obtain⟨hb,hp2⟩:=Zh hp1
   simp only[Bool.and_eq_true,decide_eq_true_eq]at hb
   obtain⟨rfl,hi⟩:=hb
   split at hp2
   ·rename_i hc
    simp only[Qu,Bool.and_eq_true,decide_eq_true_eq]at hc
    obtain⟨rfl,hty,hsh⟩:=hc
    have hp3:=YS hp2
    exact⟨_,hp3,zhH h hop hx hst hi hty (.inl ⟨rfl,hsh,rfl⟩)⟩
   ·split at hp2
    ·obtain⟨cs,hes,hp3⟩:=JG hp2
     obtain⟨hb,hp4⟩:=Zh hp3
     simp only[Bool.and_eq_true,decide_eq_true_eq]at hb
     have hp5:=YS hp4
     exact⟨_,hp5,zhH h hop hx hst hi hb.2 (.inr ⟨_,cs,rfl,hes,hb.1,rfl⟩)⟩
    ·cases hp2
  ·cases hp
 ·rename_i t m k hop
  rw[hop]at hp
  split at hp
  ·rename_i ck cv ht
   obtain⟨_,_,dk,de,_,_,hkl,_,hel,_⟩:=zc8 ht
   obtain⟨q,hm,hp⟩:=zlc hp
   obtain⟨y,hst,hp⟩:=Yd hp
   obtain⟨ck',cv',es,rfl,hp⟩:=zfd hp
   obtain⟨hc,hp⟩:=Zh hp
   simp only[Bool.and_eq_true,decide_eq_true_eq]at hc
   obtain⟨rfl,rfl⟩:=hc
   obtain⟨kx,hk,hp⟩:=zc9 hkl hp
   obtain⟨vx,hv,hp⟩:=zc9 hel hp
   exact⟨_,hp,zqV h hop ht hm hst hk⟩
  ·cases hp
 ·rename_i c hop
  rw[hop]at hp
  split at hp
  ·rename_i hc
   split at hp
   ·rename_i s x t t' ha ht
    obtain⟨hd,hp⟩:=Zh hp
    obtain⟨d,hd⟩:=Option.isSome_iff_exists.1 hd
    obtain⟨v,hK,hok⟩:=zqW h hop hc ha ht hd hp
    refine⟨_,hK, ?_⟩
    have:Z1 (.call c)=[s,x]:=by simp[Z1,Op.operands,Call.operands,hc,ha]
    rw[this]
    exact hok
   ·cases hp
  ·rename_i hc
   split at hp
   ·rename_i x t ha ht
    obtain⟨v,hK,hok⟩:=zuU h hop hc ha ht hp
    refine⟨_,hK, ?_⟩
    have:Z1 (.call c)=[x]:=by simp[Z1,Op.operands,Call.operands,hc,ha]
    rw[this]
    exact hok
   ·cases hp
  ·cases hp
 ·cases hp
end
end Go.AM
namespace Go.AM
open Go Go.RowKit
section
variable{P:Program}{cfg:Cfg}{base n:Nat}{w:World}{own:Own}{μ:List Nat}{ρ:Env}{st:St}{a:Act}
variable{fid rid idx:Nat}{all:List Oper}{o:Oper}{R:Type}{r:R}
theorem Qq(h:Pre P cfg base n all w own μ ρ st a o){tk:Bool}{xs:List Operand}{w':World}{own':Own}{μ':List Nat}{st':St}(hR:Rel P cfg base n w' own' μ' (ρ.apply (upds ρ tk xs)) st' a)(hk:Keeps base w own μ w' own' μ'){v:V}{c:Value}
  (hv:VRep w' (prOf own') μ' v c) (hrun:(execOp a.eval o).run P w= .ok (.value c) w'):OpOK P cfg base n all w own μ o a (ρ.apply (upds ρ tk xs++ZL o.dst v)) st':=by
 rw[ZT]
 cases hd:o.dst with
 |none=>exact⟨_,c,w',own',μ',hrun, .inl rfl,by rw[hd];exact hR,hk,h.lp.read tk xs⟩
 |some d=>exact⟨_,c,w',own',μ',hrun, .inl rfl,by rw[hd];exact hR.put d (h.dst d hd) (Qc (h.noPtr hd) tk xs) hv,hk,(h.lp.read tk xs).set h.mem hd v⟩
theorem Xl(h:Rel P cfg base n w own μ ρ st a)(t:Nat): ∀x off,ρ.get t= .lptr x off→a.tmps.getD x undef=a.tmps.getD x undef∧(match ρ.get x with| .loc .. =>True| .cptr .. =>True|_=>False):=by
 intro x off hx
 have:=h.env t
 rw[hx]at this
 obtain⟨_,_,_,h3⟩:=this
 exact⟨rfl,h3⟩
theorem zq5{g:Tag}(hR:Rel P cfg base n w own μ ρ st a){t0:Nat}{sh:Sh}(hpl: ∃es',ρ.get t0= .vec .plain sh es')(hg:g≠ .fr):
  Rel P cfg base n w (Qy own (.t t0 0) g) μ ρ st a∧Step base w own μ w (Qy own (.t t0 0) g) μ (fun g=>g= .t t0 0):=by
 have s:Step base w own μ w (Qy own (.t t0 0) g) μ (fun g=>g= .t t0 0):=Step.mv hR.sto hg (.inr (.inr trivial))
 refine⟨hR.step s (by simp) hR.sto.len rfl rfl (fun r x b h1 h2=> .inl ⟨h1,by simp⟩) fun z=> ?_,s⟩
 by_cases e:z=t0
 ·right
  subst e
  obtain⟨es',he⟩:=hpl
  rw[he]
  have:=hR.env z
  rw[he]at this
  exact TRep.of_val (s.vrep this)
 ·exact .inl ⟨rfl,rfl,fun j h=>e (by cases h;rfl),Xl hR z⟩
theorem JJ(hR:Rel P cfg base n w own μ ρ st a)(C:Array Value)(e:TypeId)(k:Nat)(x:Res)(hx: ∀w' own',Step base w own μ w' own' (μ++[w.heap.size]) (fun _=>False)→w'.heap[w.heap.size]? =some (.cells C e (0,0))→(∀i,own' w.heap.size i= .r st.length 0)→RRep P cfg w' own' (μ++[w.heap.size]) st.length w.heap.size x):
  Rel P cfg base n ((drawn w k).alloc (.cells C e)) (Xy own w.heap.size (.r st.length 0)) (μ++[w.heap.size]) ρ (st++[x]) a∧Step base w own μ ((drawn w k).alloc (.cells C e)) (Xy own w.heap.size (.r st.length 0)) (μ++[w.heap.size]) (fun _=>False):=by
 have s1:=Step.drawn hR.sto k
 have h1:=hR.sto.step s1 hR.sto.len (fun r x b h1 h2=> .inl ⟨h1,fun _ h=>h⟩)
 have s2:=Step.new h1 (.cells C e) (.r st.length 0) (by simp) [w.heap.size]
 have s:Step base w own μ ((drawn w k).alloc (.cells C e)) (Xy own w.heap.size (.r st.length 0)) (μ++[w.heap.size]) (fun _=>False):=(s1.trans s2).weaken fun g h=>h.elim id id
 refine⟨hR.step s (fun h=>h) (by simp[hR.sto.len]) rfl rfl (fun q y b h1 h2=> ?_) fun t=> .inl ⟨rfl,rfl,fun _ h=>h,Xl hR t⟩,s⟩
 rcases Nat.lt_or_ge q st.length with hq|hq
 ·rw[List.getElem?_append_left hq]at h1
  exact .inl ⟨h1,fun _ h=>h⟩
 ·right
  have hq':q=st.length:=by
   have:=(List.getElem?_eq_some_iff.1 h1).1
   simp at this;omega
  subst hq'
  rw[List.getElem?_append_right (Nat.le_refl _)]at h1
  simp only[Nat.sub_self,List.getElem?_cons_zero,Option.some.injEq]at h1
  rw[List.getElem?_append_right (by rw[hR.sto.len];exact Nat.le_refl _),hR.sto.len]at h2
  simp only[Nat.sub_self,List.getElem?_cons_zero,Option.some.injEq]at h2
  subst h1 h2
  exact hx _ _ s (World.alloc_heap_new (drawn w k) _) fun i=>zba _ _ _ _
theorem Jd(hl:μ.length=st.length)(b:Nat):(μ++[b])[st.length]? =some b:=by
 rw[←hl,List.getElem?_append_right (Nat.le_refl _)];simp
theorem zix{sh:Sh}{v:V}(h:Zy sh v=true):(cellsOf v).length=sh.sz:=(ZG h).len
theorem zpm{sh:Sh}{v:V}{C:Array Value}{e:TypeId}{q b:Nat}{w':World}{own':Own}{μ':List Nat}(hok:Zy sh v=true)(hsz:C.size=sh.sz)(hb:w'.heap[b]? =some (.cells C e (0,0)))(ho: ∀i,own' b i= .r q 0)
  (hc: ∀j,j<sh.sz→(C.getD j undef).oneCell'=true∧CRep w' own' μ' (.r q (j+1)) (cellAt v j) (C.getD j undef)):RRep P cfg w' own' μ' q b (.box (cellsOf v)):=by
 have hl:=zix hok
 refine⟨C,⟨e,(0,0),hb,by rw[hl];exact hsz,fun i hi=> ?_,ho⟩,fun j hj=>hc j (by rw[←hl];exact hj)⟩
 simp[World.frozen?,hb]
theorem zmb(h:Pre P cfg base n all w own μ ρ st a o){e:TypeId}(hop:o.op= .alloc e)(hty:okTy P e=true)(hok:Zy (shOf P e) (XU P e)=true)(tk:Bool):
  OpOK P cfg base n all w own μ o a (ρ.apply (upds ρ tk []++ZL o.dst (.ref st.length 0))) (st++[.box (cellsOf (XU P e))]):=by
 obtain⟨hr,hs1,_⟩:=h.rel.read tk []
 obtain⟨i,z,hi,hz,hsz,_,_⟩:=JH (w:=w) (μ:=μ) (pr:=prOf own) hty hok
 obtain⟨h1,h2⟩:=JJ hr z.cells e w.drawn (.box (cellsOf (XU P e))) (fun w' own' s hb ho=>by
  obtain⟨i',z',hi',hz',_,_,hc⟩:=JH (w:=w') (μ:=μ++[w.heap.size]) (pr:=prOf own') hty hok
  rw[hi]at hi';cases hi'
  rw[hz]at hz';cases hz'
  exact zpm hok hsz hb ho fun j hj=>⟨(hc j hj).1,CRep.of_val (hc j hj).2⟩)
 refine Qq h h1 ((Z8 hs1).trans (h2.keeps fun h=>h)) (.ref _ 0 w.heap.size (Jd h.rel.sto.len _)) ?_
 simp only[execOp,hop]
 refine Z7 ?_
 simp only[Instr.alloc,Sem.run_bind,X0 hi hz,Result.andThen_ok,zb1];rfl
theorem zgZ(h:Pre P cfg base n all w own μ ρ st a o){t e:TypeId}{x y:Operand}(hop:o.op= .makeSlice t x y)(he:Yi P t=some e){tk:Bool}{l:Int}(hx:rd ρ tk x= .int l)(hy:rd ρ tk y= .int l)(h0:0≤l)
  (hroom:roomFor P e l.toNat=true) (hty:okTy P e=true) (hok:Zy (shOf P e) (zeroV P e)=true):
  OpOK P cfg base n all w own μ o a (ρ.apply (upds ρ tk [x,y]++ZL o.dst (.row (shOf P e) st.length 0 l.toNat))) (st++[.row (shOf P e) (List.replicate l.toNat (zeroV P e))]):=by
 have hX:=VRep.int_inv ((hx▸Z0 h tk (xs:=[x,y]) (x:=x) (by simp)).val (by simp))
 have hY:=VRep.int_inv ((hy▸Z0 h tk (xs:=[x,y]) (x:=y) (by simp)).val (by simp))
 have hok':Zy (shOf P e) (XU P e)=true:=by rw[←zad];exact hok
 obtain⟨hr,hs1,_⟩:=h.rel.read tk [x,y]
 obtain⟨d,i,hd,hi,hsz,_⟩:=QF hty
 obtain⟨z,hz,hzs⟩: ∃z,i.zero=some z∧z.cells.size=(shOf P e).sz:=by
  obtain⟨i',z,hi',hz,hzs,_⟩:=zaN hty
  rw[hi]at hi';cases hi'
  exact⟨z,hz,hzs⟩
 simp only[roomFor,hi,Option.map_some,Option.getD_some,Bool.and_eq_true,decide_eq_true_eq]at hroom
 obtain⟨hr1,hr2⟩:=hroom
 have hr3:l.toNat*i.bytes*2≤2^48:=by rw[Nat.mul_assoc,Nat.mul_comm i.bytes 2];exact hr1
 have hr4:l.toNat≤l.toNat*i.bytes:=Nat.le_mul_of_pos_right _ hr2
 have hby:(i.bytes:Int)*l≤281474976710656:=by
  have e1:l=(l.toNat:Int):=by omega
  rw[e1,←Int.natCast_mul,Nat.mul_comm]
  omega
 have hrun:=run_make (P:=P) w t e i z (YX he) hi hz .i64 .i64 l l h0 (Int.le_refl _) hby (by omega)
 have hlen:(List.replicate l.toNat (zeroV P e)).length=l.toNat:=List.length_replicate
 obtain⟨h1,h2⟩:=JJ hr (madeCells z.cells (l.toNat*i.size)) e w.drawn (.row (shOf P e) (List.replicate l.toNat (zeroV P e))) (fun w' own' s hb ho=>by
  refine .inr ⟨l.toNat*i.size,madeCells z.cells (l.toNat*i.size),⟨e,(0,0),hb,size_madeCells _ _,fun i hi=> ?_,ho⟩,by rw[hlen,hsz];exact Nat.le_refl _,fun k hk=> ?_⟩
  ·simp[World.frozen?,hb]
  ·rw[hlen]at hk
   rw[X1 _ _ _ hk]
   refine⟨ZG hok,fun j hj=> ?_⟩
   obtain⟨i',z',hi',hz',_,_,hcz⟩:=JH (w:=w') (μ:=μ++[w.heap.size]) (pr:=prOf own') hty hok'
   rw[hi]at hi';cases hi'
   rw[hz]at hz';cases hz'
   have hlt:k*(shOf P e).sz+j<l.toNat*i.size:=by rw[hsz];exact XD hk hj
   have hcell:(madeCells z.cells (l.toNat*i.size)).getD (k*(shOf P e).sz+j) undef=z.cells.getD j undef:=by
    have hmod:(k*(shOf P e).sz+j) % z.cells.size=j:=by
     rw[hzs,Nat.mul_comm,Nat.mul_add_mod];exact Nat.mod_eq_of_lt hj
    have hjz:j<z.cells.size:=by omega
    simp only[madeCells,Array.getD_eq_getD_getElem?,Array.getElem?_map,Array.getElem?_range,if_pos hlt,Option.map_some,Option.getD_some,hmod]
    simp[hjz]
   rw[hcell]
   obtain⟨h1,h2⟩:=hcz j hj
   refine⟨h1, ?_⟩
   unfold zeroV
   rw[Y5]
   exact h2.plain1)
 refine Qq h h1 ((Z8 hs1).trans (h2.keeps fun h=>h)) (c:= .slice (some ⟨w.heap.size,0,none⟩) l.toNat l.toNat) ?_ ?_
 ·have:=VRep.row (w:=(drawn w w.drawn).alloc (.cells (madeCells z.cells (l.toNat*i.size)) e)) (pr:=prOf (Xy (Yy own ρ [x,y]) w.heap.size (.r st.length 0))) (shOf P e) st.length 0 l.toNat w.heap.size l.toNat (Jd h.rel.sto.len w.heap.size) (Nat.le_refl _)
  rwa [Nat.zero_mul]at this
 ·simp only[execOp,hop,hX,hY]
  exact Z7 hrun
theorem zfe(h:Pre P cfg base n all w own μ ρ st a o){t:TypeId}{tk:Bool}{xs:List Operand}{y:Operand}(hy:y∈xs){v:V}(hv:v=bif tk&&zav (ZZ P t (rd ρ tk y))then ZZ P t (rd ρ tk y)else plain1 (ZZ P t (rd ρ tk y))):
  VRep w (prOf (Yy own ρ xs)) μ v (a.eval y)∨ ∃t0 sh es,y= .tmp t0∧v= .vec .grow sh es∧GRep w (Yy own ρ xs) μ (.t t0 0) sh es (a.eval y)∧ ∃es',(ρ.apply (upds ρ tk xs)).get t0= .vec .plain sh es':=by
 have hval:=(Z0 h tk hy).nil (P:=P) (t:=t)
 cases hg:(tk&&zav (ZZ P t (rd ρ tk y)))with
 |false=>rw[hg]at hv;left;rw[hv];exact hval.plain
 |true=>
  rw[hg]at hv
  have hv2:v=ZZ P t (rd ρ tk y):=hv
  simp only[Bool.and_eq_true]at hg
  obtain⟨sh,es,he⟩: ∃sh es,ZZ P t (rd ρ tk y)= .vec .grow sh es∨ZZ P t (rd ρ tk y)= .vec .full sh es:=by
   have:=hg.2
   revert this
   cases ZZ P t (rd ρ tk y)with
   |vec m sh' es=>cases m<;>simp[zav]
   |_=>simp[zav]
  rcases he with he|he
  case inr=>
   rw[he]at hval hv2
   left
   rw[hv2]
   exact hval
  right
  rw[he]at hval hv2
  obtain⟨t0,rfl,hG⟩:=hval
  obtain⟨htk,t',e1,hget⟩:=zer (zaX he)
  cases e1
  refine⟨t0,sh,es,rfl,hv2,hG,es, ?_⟩
  rw[(zcd ρ tk xs t0).1 hy,Qx,hget,htk];rfl
theorem zjc{g:Tag}{sh:Sh}{es:List V}{c:Value}(h:GRep w own μ g sh es c):c.cells= #[c]∧c.oneCell'=true:=by
 obtain⟨A,cap,rfl,_⟩:=h
 exact⟨rfl,rfl⟩
theorem zd0{sh sh':Sh}{es:List V}(h:Zy sh (.vec .grow sh' es)=true):sh=none:=by
 cases sh with
 |none=>rfl
 |some k=>simp[Zy]at h
theorem zpn(h:Pre P cfg base n all w own μ ρ st a o){e:TypeId}{x:Operand}(hop:o.op= .box e x){tk:Bool}{v:V}(hv:v=bif tk&&zav (ZZ P e (rd ρ tk x))then ZZ P e (rd ρ tk x)else plain1 (ZZ P e (rd ρ tk x)))
  (hok:Zy (shOf P e) v=true):
  OpOK P cfg base n all w own μ o a (ρ.apply (upds ρ tk [x]++ZL o.dst (.ref st.length 0))) (st++[.box (cellsOf v)]):=by
 obtain⟨hr,hs1,_⟩:=h.rel.read tk [x]
 have hrun:(execOp a.eval o).run P w= .ok (.value (.pointer (some ⟨w.heap.size,0,none⟩))) ((drawn w w.drawn).alloc (.cells (a.eval x).cells e)):=by
  simp only[execOp,hop]
  refine Z7 ?_
  simp only[Instr.box,Sem.run_bind,zb1,Result.andThen_ok];rfl
 rcases zfe h (xs:=[x]) (y:=x) (by simp) hv with hV|⟨t0,sh',es,rfl,rfl,hG,hpl⟩
 ·obtain⟨hsz,hc⟩:=Jg hV hok
  obtain⟨h1,h2⟩:=JJ hr (a.eval x).cells e w.drawn (.box (cellsOf v)) (fun w' own' s hb ho=>zpm hok hsz hb ho fun j hj=>by
   have:=hc j hj
   rw[zhG]at this
   exact⟨this.1,CRep.of_val (s.vrep this.2)⟩)
  exact Qq h h1 ((Z8 hs1).trans (h2.keeps fun h=>h)) (.ref _ 0 w.heap.size (Jd h.rel.sto.len _)) hrun
 ·obtain⟨hcells,hone⟩:=zjc hG
  have hscal:=zd0 hok
  have hst:st.length=μ.length:=h.rel.sto.len.symm
  obtain⟨h1,h2⟩:=zq5 (g:= .r st.length 1) hr hpl (by simp)
  have hG':=hG.mv (g':= .r st.length 1) (by simp)
  obtain⟨h3,h4⟩:=JJ h1 (a.eval (.tmp t0)).cells e w.drawn (.box (cellsOf (.vec .grow sh' es))) (fun w' own' s hb ho=>by
   refine zpm hok (by rw[hcells,hscal];rfl) hb ho fun j hj=> ?_
   rw[hscal]at hj
   have:j=0:=by simpa[Sh.sz]using hj
   subst this
   rw[hcells]
   refine⟨hone, ?_⟩
   show GRep _ _ _ _ _ _ _
   exact s.grep hG' (by simp) (fun h=>h))
  exact Qq h h3 ((Z8 hs1).trans ((Yt h2 fun g e=> .inl ⟨_,_,e⟩).trans (h4.keeps fun h=>h))) (.ref _ 0 w.heap.size (Jd h.rel.sto.len _)) hrun
end
end Go.AM
namespace Go.AM
open Go Go.RowKit
section
variable{P:Program}{cfg:Cfg}{base n:Nat}{w:World}{own:Own}{μ:List Nat}{ρ:Env}{st:St}{a:Act}
variable{fid rid idx:Nat}{all:List Oper}{o:Oper}{R:Type}{r:R}
theorem za8{q:Nat}{x y:Res}{k:Nat}(h:(st.set q x)[k]? =some y):(k=q∧y=x)∨(k≠q∧st[k]? =some y):=by
 by_cases e:k=q
 ·subst e
  have hlt:k<st.length:=by
   have:=(List.getElem?_eq_some_iff.1 h).1
   simpa using this
  rw[List.getElem?_set_self hlt]at h
  exact .inl ⟨rfl,(Option.some.inj h).symm⟩
 ·rw[List.getElem?_set_ne (Ne.symm e)]at h
  exact .inr ⟨e,h⟩
theorem zeF(hR:Rel P cfg base n w own μ ρ st a){q b off:Nat}{cs:List V}{sh:Sh}{v:V}{vals:List Value}(hst:st[q]? =some (.box cs))(hmu:μ[q]? =some b)(hl:vals.length=sh.sz)(hb:off+sh.sz≤cs.length)(hs:Shaped sh v)
  (h1: ∀j,j<sh.sz→(vals.getD j undef).oneCell'=true) (hc: ∀j,j<sh.sz→CRep w own μ (.r q (off+j+1)) (cellAt v j) (vals.getD j undef)):
  ∃w',(storeCells ⟨b,off,none⟩ vals).run P w= .ok () w'∧Rel P cfg base n w' own μ ρ (st.set q (.box (setCells cs off (cellsOf v)))) a∧Step base w own μ w' own μ (fun g=>g= .r q 0):=by
 obtain⟨ccs,ty,fz,hh,hn,hf,ho,hcell,hj⟩:=ziE hR.sto hst hmu
 have hbase:base≤b:=hR.sto.low b 0 (by rw[ho];simp) (by rw[ho];simp) (by rw[ho];simp)
 obtain⟨w',hrun,hstep,c',hb',hsz',hget⟩:=zaZ (P:=P) (X:=fun g=>g= .r q 0) hR.sto hh vals (off:=off) (by omega) (fun u hu=>by
  obtain⟨k,hk,rfl⟩:=List.mem_iff_getElem.1 hu
  have:=h1 k (by omega)
  rwa [List.getD_eq_getElem?_getD,List.getElem?_eq_getElem hk]at this) (fun i hi=>hf _ (by omega)) (g:= .r q 0) (fun i _=>ho _) (by simp) hbase rfl
 have hlen:(setCells cs off (cellsOf v)).length=cs.length:=X7 (by rw[hs.len];exact hb)
 refine⟨w',hrun,hR.step hstep (by simp) (by simp[hR.sto.len]) rfl rfl (fun k y b' h1' h2'=> ?_) fun t=> .inl ⟨rfl,rfl,by simp,Xl hR t⟩,hstep⟩
 rcases za8 h1' with⟨rfl,rfl⟩|⟨hne,hk⟩
 ·right
  rw[hmu]at h2'
  cases h2'
  refine⟨c',⟨ty,fz,hb',by rw[hsz',hn,hlen],fun i hi=> ?_,ho⟩,fun j hj'=> ?_⟩
  ·rw[hlen]at hi
   exact(hstep.frozen hh).trans (hf i hi)
  ·rw[hlen]at hj'
   rw[hget j,zbI (by rw[hs.len];exact hb),hs.len,hl]
   split
   ·rename_i hin
    have hjj:off+(j-off)+1=j+1:=by omega
    have h3:=hc (j-off) (by omega)
    rw[hjj]at h3
    exact⟨h1 _ (by omega),hstep.crep h3 (by simp) (by simp)⟩
   ·exact⟨(hj j hj').1,hstep.crep (hj j hj').2 (by simp) (by simp)⟩
 ·exact .inl ⟨hk,fun j e=>hne (by cases e;rfl)⟩
theorem zet(h:Pre P cfg base n all w own μ ρ st a o)(hdst:o.dst=none){tk:Bool}{xs:List Operand}{w':World}{own':Own}{μ':List Nat}{st':St}(hR:Rel P cfg base n w' own' μ' (ρ.apply (upds ρ tk xs)) st' a)(hk:Keeps base w own μ w' own' μ')
  (hrun:(execOp a.eval o).run P w= .ok .skip w'):OpOK P cfg base n all w own μ o a (ρ.apply (upds ρ tk xs)) st':=
 ⟨_,undef,w',own',μ',hrun, .inr ⟨rfl,rfl⟩,by rw[hdst];exact hR,hk,h.lp.read tk xs⟩
theorem zmc(h:Pre P cfg base n all w own μ ρ st a o){t:TypeId}{x y:Operand}(hop:o.op= .store t x y)(hdst:o.dst=none){tk:Bool}{q off:Nat}(hx:ev ρ x= .ref q off){cs:List V}(hst:st[q]? =some (.box cs))(hb:off+(shOf P t).sz≤cs.length)
  {v:V} (hv:v=bif tk&&zav (ZZ P t (rd ρ tk y))then ZZ P t (rd ρ tk y)else plain1 (ZZ P t (rd ρ tk y))) (hok:Zy (shOf P t) v=true) (hty:okTy P t=true):
  OpOK P cfg base n all w own μ o a (ρ.apply (upds ρ tk [y])) (st.set q (.box (setCells cs off (cellsOf v)))):=by
 obtain⟨hr,hs1,_⟩:=h.rel.read tk [y]
 obtain⟨b,hmu,hev⟩:=zlX h.rel hx
 have hs:=ZG hok
 rcases zfe h (xs:=[y]) (y:=y) (by simp) hv with hV|⟨t0,sh',es,rfl,rfl,hG,hpl⟩
 ·obtain⟨hsz,hc⟩:=Jg hV hok
  obtain⟨w',h1,h2,h3⟩:=zeF hr (vals:=(a.eval y).cells.toList) hst hmu (by rw[Array.length_toList];exact hsz) hb hs (fun j hj=>(hc j hj).1) (fun j hj=>CRep.of_val (hc j hj).2)
  exact zet h hdst h2 ((Z8 hs1).trans (Yt h3 fun g e=> .inr ⟨_,_,e⟩)) (zc5 hop hev (zac hty hsz h1))
 ·obtain⟨hcells,hone⟩:=zjc hG
  have hscal:=zd0 hok
  obtain⟨h1,h2⟩:=zq5 (g:= .r q (off+1)) hr hpl (by simp)
  have hG':=hG.mv (g':= .r q (off+1)) (by simp)
  have hsz:(a.eval (.tmp t0)).cells.size=(shOf P t).sz:=by rw[hcells,hscal];rfl
  have hj0: ∀j,j<(shOf P t).sz→j=0:=fun j hj=>by rw[hscal]at hj;simpa[Sh.sz]using hj
  obtain⟨w',h3,h4,h5⟩:=zeF h1 (vals:=(a.eval (.tmp t0)).cells.toList) hst hmu (by rw[Array.length_toList];exact hsz) hb hs (fun j hj=>by rw[hj0 j hj,hcells];exact hone) (fun j hj=>by
   rw[hj0 j hj,hcells]
   exact hG')
  exact zet h hdst h4 ((Z8 hs1).trans ((Yt h2 fun g e=> .inl ⟨_,_,e⟩).trans (Yt h5 fun g e=> .inr ⟨_,_,e⟩))) (zc5 hop hev (zac hty hsz h3))
theorem zfS(h:Pre P cfg base n all w own μ ρ st a o){t:TypeId}{x y:Operand}(hop:o.op= .store t x y)(hdst:o.dst=none){tk:Bool}{sh:Sh}{q i off:Nat}(hx:ev ρ x= .rel sh q i off){es:List V}(hst:st[q]? =some (.row sh es))(hi:i<es.length)
  {v u:V} (hv:v=bif tk&&zav (ZZ P t (rd ρ tk y))then ZZ P t (rd ρ tk y)else plain1 (ZZ P t (rd ρ tk y))) (hng:isGrow v=false) (hok:Zy (shOf P t) v=true) (hty:okTy P t=true) (hoff:off+(shOf P t).sz≤sh.sz)
  (hu:Shaped sh u) (hcells: ∀j,j<sh.sz→cellAt u j=if off≤j∧j<off+(shOf P t).sz then cellAt v (j-off)else cellAt (es.getD i .undef) j):
  OpOK P cfg base n all w own μ o a (ρ.apply (upds ρ tk [y])) (st.set q (.row sh (es.set i u))):=by
 obtain⟨hr,hs1,_⟩:=h.rel.read tk [y]
 obtain⟨b,hmu,hev⟩:=zlY h.rel hx
 rcases zfe h (xs:=[y]) (y:=y) (by simp) hv with hV|⟨t0,sh',es',rfl,rfl,_⟩
 ·obtain⟨hsz,hc⟩:=Jg hV hok
  obtain⟨ccs,ty,fz,m,hh,hn,hl,hf,ho,hcell,hj⟩:=zes hr.sto hst hmu (by rintro rfl;simp at hi)
  have hbase:base≤b:=hr.sto.low b 0 (by rw[ho];simp) (by rw[ho];simp) (by rw[ho];simp)
  have hlen:(a.eval y).cells.toList.length=(shOf P t).sz:=by rw[Array.length_toList];exact hsz
  have hrow:i*sh.sz+sh.sz≤es.length*sh.sz:=by
   have:=Nat.mul_le_mul_right sh.sz hi
   rw[Nat.succ_mul]at this
   exact this
  obtain⟨w',hrun,hstep,c',hb',hsz',hget⟩:=zaZ (P:=P) (X:=fun g=>g= .r q 0) hr.sto hh (a.eval y).cells.toList (off:=i*sh.sz+off) (by omega) (fun u hu=>by
   obtain⟨k,hk,rfl⟩:=List.mem_iff_getElem.1 hu
   have:=(hc k (by omega)).1
   rwa [List.getD_eq_getElem?_getD,List.getElem?_eq_getElem hk]at this) (fun k hk=>hf _ (by omega)) (g:= .r q 0) (fun i _=>ho _) (by simp) hbase rfl
  have hR:Rel P cfg base n w' (Yy own ρ [y]) μ (ρ.apply (upds ρ tk [y])) (st.set q (.row sh (es.set i u))) a:=by
   refine hr.step hstep (by simp) (by simp[h.rel.sto.len]) rfl rfl (fun k z b' h1' h2'=> ?_) fun t=> .inl ⟨rfl,rfl,by simp,Xl hr t⟩
   rcases za8 h1' with⟨rfl,rfl⟩|⟨hne,hk⟩
   ·right
    rw[hmu]at h2'
    cases h2'
    refine .inr ⟨m,c',⟨ty,fz,hb',by rw[hsz',hn],fun i hi=>(hstep.frozen hh).trans (hf i hi),ho⟩,by rw[List.length_set];exact hl,fun k hk=> ?_⟩
    rw[List.length_set]at hk
    rw[List.getD_eq_getElem?_getD]
    by_cases e:k=i
    ·subst e
     rw[List.getElem?_set_self hi]
     refine⟨hu,fun j hj'=> ?_⟩
     simp only[Option.getD_some]
     rw[hget,hcells j hj',hlen]
     by_cases hin:off≤j∧j<off+(shOf P t).sz
     ·rw[if_pos hin,if_pos (by omega)]
      have e2:k*sh.sz+j-(k*sh.sz+off)=j-off:=by omega
      rw[e2]
      have:=hc (j-off) (by omega)
      exact⟨this.1,hstep.vrep this.2⟩
     ·rw[if_neg hin,if_neg (by omega)]
      have:=(hj k hk).2 j hj'
      exact⟨this.1,hstep.vrep this.2⟩
    ·rw[List.getElem?_set_ne (Ne.symm e),←List.getD_eq_getElem?_getD]
     refine⟨(hj k hk).1,fun j hj'=> ?_⟩
     have hdis: ¬(i*sh.sz+off≤k*sh.sz+j∧k*sh.sz+j<i*sh.sz+off+(a.eval y).cells.toList.length):=by
      rw[hlen]
      rintro⟨h1,h2⟩
      rcases Nat.lt_or_gt_of_ne e with h3|h3
      ·have:=XD (m:=sh.sz) h3 hj'
       have h4:k*sh.sz+j<i*sh.sz:=XD h3 hj'
       omega
      ·have h4:i*sh.sz+(off+(shOf P t).sz-1)<k*sh.sz∨(shOf P t).sz=0:=by
        rcases Nat.eq_zero_or_pos (shOf P t).sz with h0|h0
        ·exact .inr h0
        ·exact .inl (XD h3 (by omega))
       omega
     rw[hget,if_neg hdis]
     have:=(hj k hk).2 j hj'
     exact⟨this.1,hstep.vrep this.2⟩
   ·exact .inl ⟨hk,fun j e=>hne (by cases e;rfl)⟩
  exact zet h hdst hR ((Z8 hs1).trans (Yt hstep fun g e=> .inr ⟨_,_,e⟩)) (zc5 hop hev (zac hty hsz hrun))
 ·simp[isGrow]at hng
theorem zbL(hR:Rel P cfg base n w own μ ρ st a){q off:Nat}{cs:List V}(hst:st[q]? =some (.box cs))(hoff:off<cs.length)(own':Own)(s:Step base w own μ w own' μ (fun g=>g= .r q (off+1))):
  Rel P cfg base n w own' μ ρ (st.set q (.box (cs.set off (plain1 (cs.getD off .undef))))) a:=by
 refine hR.step s (by simp) (by simp[hR.sto.len]) rfl rfl (fun k y b' h1' h2'=> ?_) fun t=> .inl ⟨rfl,rfl,by simp,Xl hR t⟩
 rcases za8 h1' with⟨rfl,rfl⟩|⟨hne,hk⟩
 ·right
  obtain⟨ccs,hB,hj⟩:=hR.sto.res k _ b' hst h2'
  refine⟨ccs,by rw[List.length_set];exact s.blk' hB (by simp) (by simp),fun j hj'=> ?_⟩
  rw[List.length_set]at hj'
  rw[List.getD_eq_getElem?_getD]
  by_cases e:j=off
  ·subst e
   rw[List.getElem?_set_self hoff]
   exact⟨(hj j hj').1,CRep.of_val (s.vrep (hj j hj').2.plain1)⟩
  ·rw[List.getElem?_set_ne (Ne.symm e),←List.getD_eq_getElem?_getD]
   exact⟨(hj j hj').1,s.crep (hj j hj').2 (by simp) (fun e'=>e (by cases e';rfl))⟩
 ·exact .inl ⟨hk,fun j e=>hne (by cases e;rfl)⟩
theorem zha(h:Pre P cfg base n all w own μ ρ st a o){t:TypeId}{x:Operand}(hop:o.op= .load t x){q off:Nat}(hx:ev ρ x= .ref q off){cs:List V}(hst:st[q]? =some (.box cs))
  (hoff:off<cs.length) (hn:shOf P t=none) (hty:okTy P t=true):OpOK P cfg base n all w own μ o a (ρ.apply (ZL o.dst (cs.getD off .undef))) (st.set q (.box (cs.set off (plain1 (cs.getD off .undef))))):=by
 obtain⟨b,hmu,hev⟩:=zlX h.rel hx
 obtain⟨ccs,ty,fz,hh,hsz,hf,ho,hcell,hj⟩:=ziE h.rel.sto hst hmu
 have hrun:(execOp a.eval o).run P w= .ok (.value (ccs.getD off undef)) w:=by
  have:=Y6 hty w b off (fun j=>ccs.getD (off+j) undef) fun j hj'=>by rw[hn]at hj';simp only[Sh.sz]at hj';exact hcell _ (by omega)
  rw[hn]at this
  exact run_load hop hev this
 have hCR:=(hj off hoff).2
 rcases ztF (cs.getD off .undef)with⟨sh',es,hg⟩|hng
 ·rw[hg]at hCR
  have hG:GRep w own μ (.r q (off+1)) sh' es (ccs.getD off undef):=hCR
  cases hd:o.dst with
  |none=>
   have hR:=zbL h.rel hst hoff own ((Step.refl' h.rel.sto).weaken fun _ h=>h.elim)
   exact⟨_,_,w,own,μ,hrun, .inl rfl,by rw[hd];exact hR,Keeps.refl,h.lp⟩
  |some d=>
   have s:Step base w own μ w (Qy own (.r q (off+1)) (.t d 0)) μ (fun g=>g= .r q (off+1)):=by
    refine Step.retag h.rel.sto (fun g=>if g= .r q (off+1)then .t d 0 else g) (by simp) (fun g hg=>by simp[hg]) (fun g hg=> ?_) (by simp) (by simp)
    by_cases e:g= .r q (off+1)
    ·simp[e]at hg
    ·simpa[e]using hg
   have hR:=zbL h.rel hst hoff _ s
   rw[hg]at hR⊢
   refine⟨_,_,w,_,μ,hrun, .inl rfl, ?_,Yt s fun g e=> .inr ⟨_,_,e⟩,h.lp.set h.mem hd _⟩
   rw[hd]
   exact hR.put_any d (h.dst d hd) (h.noPtr hd) (by simp) fun _ _=>hG.mv (by simp)
 ·have hR:=zbL h.rel hst hoff own ((Step.refl' h.rel.sto).weaken fun _ h=>h.elim)
  have hV:=hCR.val hng
  cases hd:o.dst with
  |none=>exact⟨_,_,w,own,μ,hrun, .inl rfl,by rw[hd];exact hR,Keeps.refl,h.lp⟩
  |some d=>exact⟨_,_,w,own,μ,hrun, .inl rfl,by rw[hd];exact hR.put d (h.dst d hd) (h.noPtr hd) hV,Keeps.refl,h.lp.set h.mem hd _⟩
end
end Go.AM
namespace Go.AM
open Go Go.RowKit
section
variable{P:Program}{cfg:Cfg}{base n:Nat}{w:World}{own:Own}{μ:List Nat}{ρ:Env}{st:St}{a:Act}
variable{fid rid idx:Nat}{all:List Oper}{o:Oper}{R:Type}{r:R}
theorem zjd(hR:Rel P cfg base n w own μ ρ st a)(q:Nat): ∃own',Rel P cfg base n w own' μ ρ (st.set q .dead) a∧Step base w own μ w own' μ (fun g=> ∃j,g= .r q j)∧ ∀b i,(own b i= .pr∨ ∃j,own b i= .r q j)→own' b i= .pr:=by
 let f:Tag→Tag:=fun g=>match g with| .r q' j=>if q'=q then .pr else .r q' j|g=>g
 have s:Step base w own μ w (fun b i=>f (own b i)) μ (fun g=> ∃j,g= .r q j):=by
  refine Step.retag hR.sto f rfl (fun g hg=> ?_) (fun g hg=> ?_) rfl rfl
  ·cases g with
   |r q' j=>
    simp only[f]
    rw[if_neg (fun e=>hg ⟨j,by rw[e]⟩)]
   |_=>rfl
  ·cases g with
   |r q' j=>
    simp only[f]at hg
    split at hg<;>cases hg
   |fr=>rfl
   |_=>cases hg
 refine⟨_,hR.step s (by simp) (by simp[hR.sto.len]) rfl rfl (fun k y b' h1' h2'=> ?_) (fun t=> .inl ⟨rfl,rfl,by simp,Xl hR t⟩),s,fun b i h=> ?_⟩
 ·rcases za8 h1' with⟨rfl,rfl⟩|⟨hne,hk⟩
  ·exact .inr trivial
  ·exact .inl ⟨hk,fun j ⟨j',e⟩=>hne (by cases e;rfl)⟩
 ·rcases h with h|⟨j,h⟩
  ·simp only[f,h]
  ·simp only[f,h,if_pos]
theorem zcA{pr:Nat→Nat→Prop}(hR:Sto P cfg base w own μ st){sh:Sh}{q lo k:Nat}{es:List V}{c:Value}(hst:st[q]? =some (.row sh es))(hlk:lo+k≤es.length)(hV:VRep w pr μ (.row sh q lo k) c){own':Own}
  (s:Step base w own μ w own' μ (fun g=> ∃j,g= .r q j)) (hp: ∀b i,(own b i= .pr∨ ∃j,own b i= .r q j)→own' b i= .pr):VRep w (prOf own') μ (.vec .plain sh ((es.drop lo).take k)) c:=by
 have hl:((es.drop lo).take k).length=k:=by simp;omega
 cases hV with
 |rowE _ _ _ b A c hb=>exact .vecE _ _ _ _ (by simp) (by simp)
 |row _ _ _ _ b c hb hn=>
  by_cases hk:k=0
  ·subst hk;exact .vecE _ _ _ _ (by simp) (by simp)
  ·obtain⟨ccs,ty,fz,m,hh,hn',hl',hf,ho,hcell,hj⟩:=zes hR hst hb (by rintro rfl;simp at hlk;omega)
   have hget: ∀i,i<k→((es.drop lo).take k).getD i .undef=es.getD (lo+i) .undef:=by
    intro i hi
    simp only[List.getD_eq_getElem?_getD,List.getElem?_take,if_pos hi,List.getElem?_drop]
   have e:Value.slice (some ⟨b,lo*sh.sz,none⟩) k c= .slice (some ⟨b,lo*sh.sz,none⟩) ((es.drop lo).take k).length c:=by rw[hl]
   rw[e]
   refine .vec .plain sh _ _ _ (fun i j=>ccs.getD ((lo+i)*sh.sz+j) undef) (by simp) (by simp) (by rw[hl];exact hn) rfl (fun i j hi hj'=> ?_) (fun i hi=> ?_) fun i j hi hj'=> ?_
   ·rw[hl]at hi
    have hlt:(lo+i)*sh.sz+j<m:=Nat.lt_of_lt_of_le (XD (by omega) hj') hl'
    have e2:lo*sh.sz+(i*sh.sz+j)=(lo+i)*sh.sz+j:=by rw[Nat.add_mul];omega
    simp only[e2]
    exact⟨hcell _ hlt,hp _ _ (.inr ⟨0,ho _⟩),((hj _ (by omega)).2 j hj').1⟩
   ·rw[hl]at hi
    rw[hget i hi];exact(hj _ (by omega)).1
   ·rw[hl]at hi
    rw[hget i hi]
    exact s.vrep ((hj _ (by omega)).2 j hj').2
theorem zd1: ∀(ps:List (Nat×V)) (vals:List (Nat×Value)) (st:St) (own:Own) (K:List (Nat×V)→St→Option R),Rel P cfg base n w own μ ρ st a→ps.length=vals.length→
  (∀k,k<ps.length→(ps.getD k (0, .undef)).1=(vals.getD k (0,undef)).1∧VRep w (prOf own) μ (plain1 (ps.getD k (0, .undef)).2) (vals.getD k (0,undef)).2∧ ∀t,VRep w (prOf own) μ (plainS P t (ps.getD k (0, .undef)).2) (vals.getD k (0,undef)).2)→
  X6 ps st K=some r→ ∃own' ps' st',K ps' st'=some r∧Rel P cfg base n w own' μ ρ st' a∧Step base w own μ w own' μ (fun g=> ∃q j,g= .r q j)∧ps'.length=vals.length∧
   ∀k,k<ps'.length→(ps'.getD k (0, .undef)).1=(vals.getD k (0,undef)).1∧VRep w (prOf own') μ (plain1 (ps'.getD k (0, .undef)).2) (vals.getD k (0,undef)).2∧ ∀t,VRep w (prOf own') μ (plainS P t (ps'.getD k (0, .undef)).2) (vals.getD k (0,undef)).2
 |[],[],st,own,K,hR,_,_,h=>⟨own,[],st,h,hR,(Step.refl' hR.sto).weaken fun _ h=>h.elim,rfl,fun k hk=>by simp at hk⟩
 |(i,v)::rest,(i',c)::vals,st,own,K,hR,hl,hrep,h=>by
  have h0:=hrep 0 (by simp)
  simp only[List.getD_cons_zero]at h0
  obtain⟨rfl,h1,h2⟩:=h0
  have hrest: ∀k,k<rest.length→(rest.getD k (0, .undef)).1=(vals.getD k (0,undef)).1∧VRep w (prOf own) μ (plain1 (rest.getD k (0, .undef)).2) (vals.getD k (0,undef)).2∧ ∀t,VRep w (prOf own) μ (plainS P t (rest.getD k (0, .undef)).2) (vals.getD k (0,undef)).2:=
   fun k hk=>by simpa using hrep (k+1) (by simpa using hk)
  have hl':rest.length=vals.length:=by simpa using hl
  have go: ∀(own1:Own) (st1:St) (v':V),Rel P cfg base n w own1 μ ρ st1 a→Step base w own μ w own1 μ (fun g=> ∃q j,g= .r q j)→VRep w (prOf own1) μ (plain1 v') c→(∀t,VRep w (prOf own1) μ (plainS P t v') c)→
    X6 rest st1 (fun ps st=>K ((i,v')::ps) st)=some r→ ∃own' ps' st',K ps' st'=some r∧Rel P cfg base n w own' μ ρ st' a∧Step base w own μ w own' μ (fun g=> ∃q j,g= .r q j)∧ps'.length=vals.length+1∧
    ∀k,k<ps'.length→(ps'.getD k (0, .undef)).1=(((i,c)::vals).getD k (0,undef)).1∧VRep w (prOf own') μ (plain1 (ps'.getD k (0, .undef)).2) (((i,c)::vals).getD k (0,undef)).2∧ ∀t,VRep w (prOf own') μ (plainS P t (ps'.getD k (0, .undef)).2) (((i,c)::vals).getD k (0,undef)).2:=by
   intro own1 st1 v' hR1 hs1 hv1 hv2 hf
   obtain⟨own',ps',st',e1,e2,e3,e4,e5⟩:=zd1 rest vals st1 own1 _ hR1 hl' (fun k hk=>⟨(hrest k hk).1,hs1.vrep (hrest k hk).2.1,fun t=>hs1.vrep ((hrest k hk).2.2 t)⟩) hf
   refine⟨own',(i,v')::ps',st',e1,e2,(hs1.trans e3).weaken fun g h=>h.elim id id,by simp[e4],fun k hk=> ?_⟩
   cases k with
   |zero=>exact⟨rfl,e3.vrep hv1,fun t=>e3.vrep (hv2 t)⟩
   |succ k=>simpa using e5 k (by simpa using hk)
  have gen: ∀(u:V),u=v→(∀sh q lo k,u≠ .row sh q lo k)→X6 rest st (fun ps st=>K ((i,u)::ps) st)=some r→_:=fun u hu _ hf=>go own st v hR ((Step.refl' hR.sto).weaken fun _ h=>h.elim) h1 h2 (by rw[←hu];exact hf)
  by_cases hrow: ∃sh q lo k,v= .row sh q lo k
  ·obtain⟨sh,q,lo,k,rfl⟩:=hrow
   simp only[X6]at h
   obtain⟨y,hst,h⟩:=Yd h
   obtain⟨sh',es,rfl,h⟩:=Q1 h
   obtain⟨hb,h⟩:=Zh h
   simp only[Bool.and_eq_true,decide_eq_true_eq]at hb
   obtain⟨rfl,hlk⟩:=hb
   obtain⟨own1,k1,k2,k3⟩:=zjd hR q
   have hV:=zcA hR.sto hst hlk (h1:VRep w (prOf own) μ (.row sh' q lo k) c) k2 k3
   exact go own1 _ (.vec .plain sh' ((es.drop lo).take k)) k1 (k2.weaken fun g ⟨j,e⟩=>⟨q,j,e⟩) hV (fun t=>hV) h
  ·have h':X6 rest st (fun ps st=>K ((i,v)::ps) st)=some r:=by
    cases v with
    |row sh q lo k=>exact absurd ⟨sh,q,lo,k,rfl⟩ hrow
    |_=>exact h
   exact gen v rfl (fun sh q lo k e=>hrow ⟨sh,q,lo,k,e⟩) h'
theorem zku(h:Pre P cfg base n all w own μ ρ st a o){t:TypeId}{ps:Array (Nat×Operand)}(hop:o.op= .build t ps){tk q:Bool}{K:V→St→Option R}
  (hf:X6 (ps.toList.map fun p=>(p.1,rd ρ tk p.2)) st (fun ps st=>match XA P t ps (zeroCells P t)with|some cs=>gd (okTy P t&&zbZ P t&&Zy (shOf P t) (.agg cs)&&(shOf P t).isSome) (K (bif q then .agg cs else Zs (.agg cs)) st)|none=>none)=some r):
  ∃v st',K v st'=some r∧OpOK P cfg base n all w own μ o a (ρ.apply (upds ρ tk (ps.toList.map (·.2))++ZL o.dst v)) st':=by
 obtain⟨hr,hs1,_⟩:=h.rel.read tk (ps.toList.map (·.2))
 have hrep: ∀k,k<(ps.toList.map fun p=>(p.1,rd ρ tk p.2)).length→((ps.toList.map fun p=>(p.1,rd ρ tk p.2)).getD k (0, .undef)).1=((ps.map fun p=>(p.1,a.eval p.2)).toList.getD k (0,undef)).1∧
   ValRep w (Yy own ρ (ps.toList.map (·.2))) μ (ps.toList.getD k (0, .const undef)).2 ((ps.toList.map fun p=>(p.1,rd ρ tk p.2)).getD k (0, .undef)).2 ((ps.map fun p=>(p.1,a.eval p.2)).toList.getD k (0,undef)).2:=by
  intro k hk
  have hk':k<ps.size:=by simpa using hk
  have:=Z0 h tk (xs:=ps.toList.map (·.2)) (x:=(ps[k]).2) (List.mem_map.2 ⟨ps[k],by simp,rfl⟩)
  simp only[List.getD_eq_getElem?_getD,Array.toList_map,List.getElem?_map,Array.getElem?_toList,Array.getElem?_eq_getElem hk',Option.map_some,Option.getD_some]
  exact⟨trivial,this⟩
 obtain⟨own',ps',st',e1,e2,e3,e4,e5⟩:=zd1 _ (ps.map fun p=>(p.1,a.eval p.2)).toList st (Yy own ρ (ps.toList.map (·.2))) _ hr (by simp) (fun k hk=>⟨(hrep k hk).1,(hrep k hk).2.plain,fun t=>(hrep k hk).2.plainS⟩) hf
 split at e1
 ·rename_i cs hlay
  obtain⟨hc,e1⟩:=Zh e1
  simp only[Bool.and_eq_true]at hc
  obtain⟨ccs,hrun,hv⟩:=ziY (w:=w) (μ:=μ) (pr:=prOf own') hc.1.1.1 hc.1.1.2 hc.2 (ps:=ps') (cps:=ps.map fun p=>(p.1,a.eval p.2)) (by rw[e4];simp) (fun k hk=>⟨(e5 k hk).1,(e5 k hk).2.2⟩) (fun k hk=>(e5 k hk).2.1) hlay hc.1.2
  refine⟨_,st',e1,Qq h e2 ((Z8 hs1).trans (Yt e3 fun g ⟨q,j,e⟩=> .inr ⟨q,j,e⟩)) (c:= .agg ccs) ?_ ?_⟩
  ·cases q with
   |true=>exact hv
   |false=>exact zfc hv
  ·simp only[execOp,hop]
   exact Z7 hrun
 ·cases e1
theorem zje(hR:Rel P cfg base n w own μ ρ st a)(sh:Sh):Rel P cfg base n w own (μ++[0]) ρ (st++[.row sh []]) a∧Step base w own μ w own (μ++[0]) (fun _=>False):=by
 have s:Step base w own μ w own (μ++[0]) (fun _=>False):=
  ⟨Below.refl _ _,fun _ _ h=>⟨h,rfl⟩,fun _ _ _ _=>rfl,fun _ _ h=>h,hR.sto.alloc,hR.sto.low,fun _ c _ _ h=>⟨c,h,rfl⟩,fun _ _ _ _ _ _=>rfl,[0],rfl⟩
 refine⟨hR.step s (fun h=>h) (by simp[hR.sto.len]) rfl rfl (fun q y b h1 h2=> ?_) fun t=> .inl ⟨rfl,rfl,fun _ h=>h,Xl hR t⟩,s⟩
 rcases Nat.lt_or_ge q st.length with hq|hq
 ·rw[List.getElem?_append_left hq]at h1
  exact .inl ⟨h1,fun _ h=>h⟩
 ·right
  rw[List.getElem?_append_right hq]at h1
  cases hd:q-st.length with
  |zero=>
   rw[hd]at h1
   simp only[List.getElem?_cons_zero,Option.some.injEq]at h1
   subst h1
   exact .inl rfl
  |succ k=>rw[hd]at h1;simp at h1
theorem zkv(h:Pre P cfg base n all w own μ ρ st a o){c:Call}{s x:Operand}{t t' e:TypeId}{sh:Sh}(hop:o.op= .call c)(hc:c.callee= .builtin .append)(ha:c.args.toList=[s,x])(ht:c.argTypes.toList=[t,t']){tk:Bool}
  (he:Yi P t=some e) (hv:ZZ P t (rd ρ tk s)= .vec .full sh []) {K:V→St→Option R}
  (hs:ziL P st t' (rd ρ tk x) (fun sh' ys=>gd (Qu P sh e&&decide (sh'=sh)&&decide (0<sh.sz)&&roomFor P e ys.length) (K (.row sh st.length 0 ys.length) (st++[.row sh ys])))=some r):
  ∃v st',K v st'=some r∧OpOK P cfg base n all w own μ o a (ρ.apply (upds ρ tk [s,x]++ZL o.dst v)) st':=by
 obtain⟨sh',ys,news,hK,hS,hN,_⟩:=zgW h (xs:=[s,x]) (x:=x) (by simp) hs
 obtain⟨hr,hs1,_⟩:=h.rel.read tk [s,x]
 obtain⟨hcond,hK⟩:=Zh hK
 simp only[Bool.and_eq_true,decide_eq_true_eq,Qu]at hcond
 obtain⟨⟨⟨⟨hty,hsh⟩,hss⟩,hz⟩,hroom⟩:=hcond
 rw[hss]at hS hN
 clear hss
 have hu:=YX he
 obtain⟨dd,i,hdd,hi,hsz,_⟩:=QF hty
 rw[←hsh]at hsz
 obtain⟨A,cap,olds,hold⟩:=znu h (xs:=[s,x]) (s:=s) (by simp) hv (.inr rfl)
 have hcap:cap=0:=by
  rcases hold.how with⟨t0,_,_,hG⟩|⟨_,h2⟩
  ·have hX:=(Z0 h tk (xs:=[s,x]) (x:=s) (by simp)).nil (P:=P) (t:=t)
   rw[hv]at hX
   have hX:=hX.val (by simp)
   have:=hold.val
   rw[this]at hX
   generalize hA:A=A' at hX
   cases hX with
   |vecE _ _ _ _ _ hm=>exact hm rfl
   |vec _ _ _ _ _ _ _ hf=>exact hf rfl
  ·exact h2
 subst hcap
 have hrunB: ∀{cv:Value} {w':World},(Builtin.append_ #[t,t'] o.type #[a.eval s,a.eval x]).run P w= .ok cv w'→(execOp a.eval o).run P w= .ok (.value cv) w':=by
  intro cv w' hr
  refine Jm hop hc (zal ha) (zal ht) rfl ?_
  exact Z7 (by simpa using hr)
 refine⟨_,_,hK, ?_⟩
 by_cases hy:ys=[]
 ·subst hy
  have:news=[]:=List.eq_nil_of_length_eq_zero (by rw[hN.1];simp)
  subst this
  have hrun:=run_append_nothing (P:=P) w t t' o.type e i hu hi A 0 0 (Nat.le_refl _) (a.eval x) (by rw[hsz];exact hS)
  have hval:a.eval s= .slice A 0 0:=hold.val
  rw[←hval]at hrun
  obtain⟨h1,h2⟩:=zje hr sh
  refine Qq h h1 ((Z8 hs1).trans (h2.keeps fun h=>h)) (c:=a.eval s) ?_ (hrunB hrun)
  rw[hval]
  exact .rowE _ _ _ 0 _ _ (Jd h.rel.sto.len 0)
 ·have hypos:0<ys.length:=List.length_pos_iff.2 hy
  have hlo:olds=[]:=List.eq_nil_of_length_eq_zero (by rw[hold.news.1];simp)
  obtain⟨C,k,hrun,hk,hC,hget⟩:=zja (ty:=o.type) (s:=s) (x:=x) (a:=a) (es:=[]) hu hty hsh hold.val hold.news hold.at' hN hS (by simpa using hypos) (by simpa using hroom)
  simp only[List.length_nil,Nat.zero_add]at hrun hk hget
  rw[hlo,List.nil_append]at hget
  obtain⟨h1,h2⟩:=JJ hr C e (w.drawn+1) (.row sh ys) (fun w' own' st' hb ho=>by
   refine .inr ⟨k*sh.sz,C,⟨e,(0,0),hb,hC,fun i hi=>by simp[World.frozen?,hb],ho⟩,Nat.mul_le_mul_right _ hk,fun i hi=>⟨hN.2.1 i hi,fun j hj=> ?_⟩⟩
   rw[hget _ (XD hi hj)]
   have:=hN.2.2 i j hi hj
   exact⟨this.1,st'.vrep this.2⟩)
  refine Qq h h1 ((Z8 hs1).trans (h2.keeps fun h=>h)) (c:= .slice (some ⟨w.heap.size,0,none⟩) ys.length k) ?_ (hrunB hrun)
  have:=VRep.row (w:=(drawn w (w.drawn+1)).alloc (.cells C e)) (pr:=prOf (Xy (Yy own ρ [s,x]) w.heap.size (.r st.length 0))) sh st.length 0 ys.length w.heap.size k (Jd h.rel.sto.len w.heap.size) hk
  rwa [Nat.zero_mul]at this
theorem zs5{q:Nat}{x:Res}(h:st[q]? =some x):st.set q x=st:=by
 apply List.ext_getElem?
 intro k
 by_cases e:k=q
 ·subst e
  rw[List.getElem?_set_self (List.getElem?_eq_some_iff.1 h).1,h]
 ·rw[List.getElem?_set_ne (Ne.symm e)]
theorem ztK(h:Pre P cfg base n all w own μ ρ st a o){c:Call}{dd x:Operand}{t t':TypeId}(hop:o.op= .call c)(hc:c.callee= .builtin .copy)(ha:c.args.toList=[dd,x])(ht:c.argTypes.toList=[t,t']){tk:Bool}{sh:Sh}{q lo k:Nat}
  (hd:rd ρ tk dd= .row sh q lo k) (hsl:zmY P t sh=true) {K:V→St→Option R}
  (hs:ziL P st t' (rd ρ tk x) (fun sh' ys=>Zw st q fun x=>za0 x fun sh'' es=>gd (decide (sh'=sh)&&decide (sh''=sh)&&decide (lo+k≤es.length)) (K (.int ((min ys.length k:Nat):Int)) (st.set q (.row sh (es.take lo++ys.take (min ys.length k)++es.drop (lo+min ys.length k))))))=some r):
  ∃v st',K v st'=some r∧OpOK P cfg base n all w own μ o a (ρ.apply (upds ρ tk [dd,x]++ZL o.dst v)) st':=by
 obtain⟨sh',ys,news,hK,hS,hN,hF⟩:=zgW h (xs:=[dd,x]) (x:=x) (by simp) hs
 obtain⟨hr,hs1,_⟩:=h.rel.read tk [dd,x]
 obtain⟨y,hst,hK1⟩:=Yd hK
 obtain⟨sh'',es,rfl,hK2⟩:=Q1 hK1
 obtain⟨hcond,hK3⟩:=Zh hK2
 simp only[Bool.and_eq_true,decide_eq_true_eq]at hcond
 obtain⟨⟨hss,hss2⟩,hlk⟩:=hcond
 rw[hss]at hS hN hF
 rw[hss2]at hst
 obtain⟨e,hu,hty,hsh⟩:=zcg hsl
 have hD:=(hd▸Z0 h tk (xs:=[dd,x]) (x:=dd) (by simp)).val (by simp)
 have hm:min ys.length k≤ys.length:=Nat.min_le_left _ _
 have hmk:min ys.length k≤k:=Nat.min_le_right _ _
 have hfc:=hF _ hm
 have hnl:(news.take (min ys.length k*sh.sz)).length=min ys.length k*sh.sz:=by
  rw[List.length_take,hN.1]
  exact Nat.min_eq_left (Nat.mul_le_mul_right _ hm)
 have hrunB: ∀{A:Option Addr} {cap:Nat} {w':World},a.eval dd= .slice A k cap→(match A with|some ad=>(storeCells ad (news.take (min ys.length k*sh.sz))).run P w= .ok () w'|none=>w'=w)→
   (execOp a.eval o).run P w= .ok (.value (.int .i64 ((min ys.length k:Nat):Int))) w':=by
  intro A cap w' hdd hst
  refine Jm hop hc (zal ha) (zal ht) rfl ?_
  refine Z7 ?_
  have hfc':(Builtin.firstCells (shOf P e).sz (min ys.length k) (a.eval x)).run P w= .ok (news.take (min ys.length k*sh.sz)).toArray w:=by rw[←hsh];exact hfc
  have hmin:Nat.min ys.length k=min ys.length k:=rfl
  cases A with
  |none=>
   subst hst
   simp[Builtin.copy_,hdd,Go.run_underlying hu,hS.len,YW hty,hfc',goInt,hmin]
  |some ad=>
   simp[Builtin.copy_,hdd,Go.run_underlying hu,hS.len,YW hty,hfc',goInt,hmin,hst]
 by_cases hm0:min ys.length k=0
 ·have hsame:es.take lo++ys.take (min ys.length k)++es.drop (lo+min ys.length k)=es:=by rw[hm0];simp
  rw[hsame,←hss2]at hK3
  rw[←hss2]at hst
  rw[zs5 hst]at hK3
  refine⟨_,_,hK3,Qq h hr (Z8 hs1) (.int _) ?_⟩
  have hnil:news.take (min ys.length k*sh.sz)=[]:=by rw[hm0];simp
  generalize hdd:a.eval dd=cv at hD
  cases hD with
  |rowE _ _ _ b A cap hb=>
   refine hrunB (A:=A) (cap:=cap) hdd ?_
   cases A with
   |none=>rfl
   |some ad=>simp only[hnil];rfl
  |row _ _ _ _ b cap hb hn=>
   refine hrunB (A:=some ⟨b,lo*sh.sz,none⟩) (cap:=cap) hdd ?_
   simp only[hnil];rfl
 ·generalize hdd:a.eval dd=cv at hD
  cases hD with
  |rowE _ _ _ b A cap hb=>simp at hm0
  |row _ _ _ _ b cap hb hn=>
   obtain⟨ccs,ty,fz,m,hh,hn',hl',hf,ho,hcell,hj⟩:=zes hr.sto hst hb (by rintro rfl;simp at hlk;omega)
   have hbase:base≤b:=hr.sto.low b 0 (by rw[ho];simp) (by rw[ho];simp) (by rw[ho];simp)
   have hrow:lo*sh.sz+min ys.length k*sh.sz≤es.length*sh.sz:=by
    rw[←Nat.add_mul];exact Nat.mul_le_mul_right _ (by omega)
   obtain⟨w',hrun,hstep,c',hb',hsz',hget⟩:=zaZ (P:=P) (X:=fun g=>g= .r q 0) hr.sto hh (news.take (min ys.length k*sh.sz)) (off:=lo*sh.sz) (by rw[hnl];omega) (fun u hu=>hN.one u (List.mem_of_mem_take hu)) (fun i hi=>hf _ (by omega)) (g:= .r q 0) (fun i _=>ho _) (by simp) hbase rfl
   have hlen:(es.take lo++ys.take (min ys.length k)++es.drop (lo+min ys.length k)).length=es.length:=by simp;omega
   have hR:Rel P cfg base n w' (Yy own ρ [dd,x]) μ (ρ.apply (upds ρ tk [dd,x])) (st.set q (.row sh (es.take lo++ys.take (min ys.length k)++es.drop (lo+min ys.length k)))) a:=by
    refine hr.step hstep (by simp) (by simp[h.rel.sto.len]) rfl rfl (fun z y b' h1' h2'=> ?_) fun t=> .inl ⟨rfl,rfl,by simp,Xl hr t⟩
    rcases za8 h1' with⟨rfl,rfl⟩|⟨hne,hk⟩
    ·right
     rw[hb]at h2'
     cases h2'
     refine .inr ⟨m,c',⟨ty,fz,hb',by rw[hsz',hn'],fun i hi=>(hstep.frozen hh).trans (hf i hi),ho⟩,by rw[hlen];exact hl',fun i hi=> ?_⟩
     rw[hlen]at hi
     have helem:(es.take lo++ys.take (min ys.length k)++es.drop (lo+min ys.length k)).getD i .undef=if lo≤i∧i<lo+min ys.length k then ys.getD (i-lo) .undef else es.getD i .undef:=by
      simp only[List.getD_eq_getElem?_getD]
      rcases Nat.lt_or_ge i lo with h1|h1
      ·rw[if_neg (by omega),List.append_assoc,List.getElem?_append_left (by simp;omega),List.getElem?_take,if_pos h1]
      ·rcases Nat.lt_or_ge i (lo+min ys.length k)with h2|h2
       ·rw[if_pos ⟨h1,h2⟩,List.getElem?_append_left (by simp;omega),List.getElem?_append_right (by simp;omega),List.getElem?_take,if_pos (by simp;omega)]
        congr 2
        simp;omega
       ·rw[if_neg (by omega),List.getElem?_append_right (by simp;omega),List.getElem?_drop]
        congr 2
        simp;omega
     rw[helem]
     have hcellw: ∀j,j<sh.sz→c'.getD (i*sh.sz+j) undef=if lo≤i∧i<lo+min ys.length k then news.getD ((i-lo)*sh.sz+j) undef else ccs.getD (i*sh.sz+j) undef:=by
      intro j hj'
      rw[hget,hnl]
      by_cases hin:lo≤i∧i<lo+min ys.length k
      ·have h1:=Nat.mul_le_mul_right sh.sz hin.1
       have h2:(i-lo)*sh.sz+j<min ys.length k*sh.sz:=XD (by omega) hj'
       have h3:i*sh.sz=lo*sh.sz+(i-lo)*sh.sz:=by rw[←Nat.add_mul];congr 1;omega
       rw[if_pos hin,if_pos (by omega)]
       have e1:i*sh.sz+j-lo*sh.sz=(i-lo)*sh.sz+j:=by omega
       rw[e1,List.getD_eq_getElem?_getD,List.getElem?_take,if_pos h2,←List.getD_eq_getElem?_getD]
      ·rw[if_neg hin,if_neg ?_]
       rintro⟨h1,h2⟩
       rcases Nat.lt_or_ge i lo with h3|h3
       ·have:=XD (m:=sh.sz) h3 hj'
        omega
       ·have h4:lo+min ys.length k≤i:=by omega
        have h5:=Nat.mul_le_mul_right sh.sz h4
        rw[Nat.add_mul]at h5
        omega
     split
     ·rename_i hin
      refine⟨hN.2.1 _ (by omega),fun j hj'=> ?_⟩
      rw[hcellw j hj',if_pos hin]
      have:=hN.2.2 (i-lo) j (by omega) hj'
      exact⟨this.1,hstep.vrep this.2⟩
     ·rename_i hin
      refine⟨(hj i hi).1,fun j hj'=> ?_⟩
      rw[hcellw j hj',if_neg hin]
      have:=(hj i hi).2 j hj'
      exact⟨this.1,hstep.vrep this.2⟩
    ·exact .inl ⟨hk,fun j e=>hne (by cases e;rfl)⟩
   exact⟨_,_,hK3,Qq h hR ((Z8 hs1).trans (Yt hstep fun g e=> .inr ⟨_,_,e⟩)) (.int _) (hrunB hdd hrun)⟩
end
end Go.AM
namespace Go.AM
open Go Go.RowKit
section
variable{P:Program}{cfg:Cfg}{base n:Nat}{w:World}{own:Own}{μ:List Nat}{ρ:Env}{st:St}{a:Act}
variable{fid rid idx:Nat}{all:List Oper}{o:Oper}{R:Type}{r:R}
theorem znw{x:Res}{K:ByteArray→Nat→Option R}(h:zgC x K=some r): ∃s p,x= .iter s p∧K s p=some r:=by
 cases x<;>simp[zgC]at h
 exact⟨_,_,rfl,h⟩
theorem zjf(hR:Rel P cfg base n w own μ ρ st a)(ob:Obj)(x:Res)(hx: ∀w' own',w'.heap[w.heap.size]? =some ob→(∀i,own' w.heap.size i= .r st.length 0)→RRep P cfg w' own' (μ++[w.heap.size]) st.length w.heap.size x):
  Rel P cfg base n (w.alloc ob) (Xy own w.heap.size (.r st.length 0)) (μ++[w.heap.size]) ρ (st++[x]) a∧Step base w own μ (w.alloc ob) (Xy own w.heap.size (.r st.length 0)) (μ++[w.heap.size]) (fun _=>False):=by
 have s:=Step.new hR.sto ob (.r st.length 0) (by simp) [w.heap.size]
 refine⟨hR.step s (fun h=>h) (by simp[hR.sto.len]) rfl rfl (fun q y b h1 h2=> ?_) fun t=> .inl ⟨rfl,rfl,fun _ h=>h,Xl hR t⟩,s⟩
 rcases Nat.lt_or_ge q st.length with hq|hq
 ·rw[List.getElem?_append_left hq]at h1
  exact .inl ⟨h1,fun _ h=>h⟩
 ·right
  have hq':q=st.length:=by
   have:=(List.getElem?_eq_some_iff.1 h1).1
   simp at this;omega
  subst hq'
  rw[List.getElem?_append_right (Nat.le_refl _)]at h1
  simp only[Nat.sub_self,List.getElem?_cons_zero,Option.some.injEq]at h1
  rw[List.getElem?_append_right (by rw[hR.sto.len];exact Nat.le_refl _),hR.sto.len]at h2
  simp only[Nat.sub_self,List.getElem?_cons_zero,Option.some.injEq]at h2
  subst h1 h2
  exact hx _ _ (World.alloc_heap_new w _) fun i=>zba _ _ _ _
theorem zmd{t:TypeId}(h:zaa P t=true):P.underlying t=some .string:=by
 unfold zaa at h
 split at h
 ·assumption
 ·cases h
theorem znx(h:Pre P cfg base n all w own μ ρ st a o){t:Nat}(hop:o.op= .move (.tmp t)){sh:Sh}{q lo k:Nat}(hx:ρ.get t= .row sh q lo k){es:List V}(hst:st[q]? =some (.row sh es))(hl:lo+k≤es.length):
  OpOK P cfg base n all w own μ o a (ρ.apply ([(t, .vec .plain sh ((es.drop lo).take k))]++ZL o.dst (.vec .plain sh ((es.drop lo).take k)))) (st.set q .dead):=by
 have henv:=h.rel.env t
 rw[hx]at henv
 have henv:VRep w (prOf own) μ (.row sh q lo k) (a.tmps.getD t undef):=henv
 obtain⟨own',k1,k2,k3⟩:=zjd h.rel q
 have hV:=zcA h.rel.sto hst hl henv k2 k3
 generalize hv:V.vec .plain sh ((es.drop lo).take k)=v at hV⊢
 have hnl: ∀x off,v≠ .lptr x off:=fun x off e=>by rw[←hv]at e;cases e
 have hR:Rel P cfg base n w own' μ (ρ.set t v) (st.set q .dead) a:=by
  refine⟨k1.sto,fun z=> ?_,k1.tmps,k1.defers,k1.apart⟩
  by_cases e:z=t
  ·subst e
   rw[Zp,if_pos rfl]
   exact TRep.of_val hV
  ·have hz:=k1.env z
   rw[Zp,if_neg e]
   cases hg:ρ.get z with
   |lptr x off=>
    rw[hg]at hz
    obtain⟨b,h1,h2,h3⟩:=hz
    refine⟨b,h1,h2, ?_⟩
    have hxt:x≠t:=by rintro rfl;rw[hx]at h3;exact h3
    rw[Zp,if_neg hxt];exact h3
   |vec m sh' es'=>rw[hg]at hz;cases m<;>exact hz
   |_=>rw[hg]at hz;exact hz
 have hLP:LP all (ρ.set t v):=fun z x off e=>by
  rw[Zp]at e
  split at e
  ·exact absurd e (hnl x off)
  ·exact h.lp z x off e
 have hk:Keeps base w own μ w own' μ:=Yt k2 fun g ⟨j,e⟩=> .inr ⟨q,j,e⟩
 have hrun:(execOp a.eval o).run P w= .ok (.value (a.tmps.getD t undef)) w:=by
  simp only[execOp,hop]
  rfl
 rw[ZT]
 have e1:ρ.apply [(t,v)]=ρ.set t v:=rfl
 rw[e1]
 cases hd:o.dst with
 |none=>exact⟨_,_,w,own',μ,hrun, .inl rfl,by rw[hd];exact hR,hk,hLP⟩
 |some d=>
  refine⟨_,_,w,own',μ,hrun, .inl rfl, ?_,hk,hLP.set h.mem hd v⟩
  rw[hd]
  refine hR.put d (h.dst d hd) (fun z off e=> ?_) hV
  rw[Zp]at e
  split at e
  ·exact absurd e (hnl _ _)
  ·exact h.noPtr hd z off e
theorem zs6(h:Pre P cfg base n all w own μ ρ st a o){t:TypeId}{x:Operand}(hop:o.op= .range t x){tk:Bool}{s:ByteArray}(hx:rd ρ tk x= .str s)(ht:zaa P t=true):
  OpOK P cfg base n all w own μ o a (ρ.apply (upds ρ tk [x]++ZL o.dst (.ref st.length 0))) (st++[.iter s 0]):=by
 obtain⟨hr,hs1,_⟩:=h.rel.read tk [x]
 have hX:=VRep.str_inv ((hx▸Z0 h tk (xs:=[x]) (x:=x) (by simp)).val (by simp))
 obtain⟨h1,h2⟩:=zjf hr (.stringIter s 0) (.iter s 0) fun w' own' hb ho=>⟨ho,hb⟩
 refine Qq h h1 ((Z8 hs1).trans (h2.keeps fun h=>h)) (.ref _ 0 w.heap.size (Jd h.rel.sto.len _)) ?_
 simp only[execOp,hop,hX]
 refine Z7 ?_
 simp only[Instr.range,Sem.run_bind,Go.run_underlying (zmd ht),Result.andThen_ok]
 rfl
theorem ztL(h:Pre P cfg base n all w own μ ρ st a o){x:Operand}(hop:o.op= .next x true){tk:Bool}{q:Nat}(hx:ev ρ x= .ref q 0){s:ByteArray}{pos:Nat}(hst:st[q]? =some (.iter s pos)):
  (pos<s.size→OpOK P cfg base n all w own μ o a (ρ.apply (upds ρ tk [x]++ZL o.dst (.tup [.bool true, .int pos, .ik .i32 (Utf8.decode s pos).1]))) (st.set q (.iter s (pos+(Utf8.decode s pos).2))))∧
  (¬pos<s.size→OpOK P cfg base n all w own μ o a (ρ.apply (upds ρ tk [x]++ZL o.dst (.tup [.bool false]))) st):=by
 obtain⟨hr,hs1,_⟩:=h.rel.read tk [x]
 have hX:=(Z0 h tk (xs:=[x]) (x:=x) (by simp))
 have hrd:rd ρ tk x= .ref q 0:=by unfold rd;rw[hx];rfl
 rw[hrd]at hX
 have hX:=hX.val (by simp)
 generalize hev:a.eval x=cv at hX
 cases hX with
 |ref _ _ b hb=>
  obtain⟨ho,hh⟩:=hr.sto.res q _ b hst hb
  have hlow:base≤b:=hr.sto.low b 0 (by rw[ho];simp) (by rw[ho];simp) (by rw[ho];simp)
  have hlt:b<w.heap.size:=(Array.getElem?_eq_some_iff.1 hh).1
  have hget:(getObj b).run P w= .ok (.stringIter s pos) w:=by simp[getObj,Sem.run,hh]
  refine⟨fun hp=> ?_,fun hp=> ?_⟩
  ·let ob:Obj:= .stringIter s (pos+(Utf8.decode s pos).2)
   have hset:(setObj b ob).run P w= .ok () (w.putObj b ob):=by simp[setObj,Sem.run,hh,World.putObj]
   have hsame: ∀k,k≠b→(w.putObj b ob).heap[k]? =w.heap[k]? :=fun k hk=>World.putObj_heap_other hk
   have hB:Below base w (w.putObj b ob):=⟨rfl,rfl,rfl,by simp,fun k hk=>hsame k (by omega)⟩
   have s':Step base w (Yy own ρ [x]) μ (w.putObj b ob) (Yy own ρ [x]) μ (fun g=> ∃j,g= .r q j):=Step.obj hr.sto ho (by simp) ⟨0,rfl⟩ (fun c e f hc=>by rw[hh]at hc;cases hc) hlow hsame hB
   refine Qq h (hr.step s' (by simp) (by simp[hr.sto.len]) rfl rfl (fun k y' b' k1 k2=> ?_) (fun t=> .inl ⟨rfl,rfl,by simp,Xl hr t⟩)) ((Z8 hs1).trans (Yt s' fun g ⟨j,e⟩=> .inr ⟨q,j,e⟩)) (c:= .tuple #[.bool true, .int .i64 pos, .int .i32 (Utf8.decode s pos).1]) ?_ ?_
   ·rcases za8 k1 with⟨rfl,rfl⟩|⟨hne,hk⟩
    ·right
     rw[hb]at k2
     cases k2
     exact⟨ho,World.putObj_heap_same hlt⟩
    ·exact .inl ⟨hk,fun j ⟨j',e⟩=>hne (by cases e;rfl)⟩
   ·refine .tup _ _ rfl fun i hi=> ?_
    match i,hi with
    |0,_=>exact .bool _
    |1,_=>exact .int _
    |2,_=>exact .ik _ _
   ·simp only[execOp,hop,hev]
    refine Z7 ?_
    simp only[Instr.next,Sem.run_bind,hget,Result.andThen_ok]
    rw[if_pos hp]
    simp only[Sem.run_bind]
    rw[show(Obj.stringIter s (pos+(Utf8.decode s pos).2))=ob from rfl,hset]
    rfl
  ·refine Qq h hr (Z8 hs1) (c:= .tuple #[.bool false]) ?_ ?_
   ·refine .tup _ _ rfl fun i hi=> ?_
    match i,hi with
    |0,_=>exact .bool _
   ·simp only[execOp,hop,hev]
    refine Z7 ?_
    simp only[Instr.next,Sem.run_bind,hget,Result.andThen_ok]
    rw[if_neg hp]
    rfl
end
end Go.AM
namespace Go.AM
open Go Go.RowKit
section
variable{P:Program}{cfg:Cfg}{base n:Nat}{w w':World}{own own':Own}{μ μ':List Nat}{ρ:Env}{st:St}{a:Act}
variable{all:List Oper}{o:Oper}
theorem Step.mvR(hs:Sto P cfg base w own μ st)(g':Tag)(h1:g'≠ .fr)(L:Nat):Step base w own μ w (Qy own (.r L 0) g') μ (fun g=>g= .r L 0):=by
 refine Step.retag hs (fun g=>if g= .r L 0 then g' else g) (by simp) (fun g hg=>by simp[hg]) (fun g hg=> ?_) (by simp) (by simp)
 by_cases e:g= .r L 0
 ·simp[e]at hg;exact absurd hg h1
 ·simpa[e]using hg
theorem zjg: ∀{cs:List V} {k j:Nat} {sh:Sh} {es:List V} {q:Nat},ziN cs k=some (j,sh,es,q)→k≤j∧j-k<cs.length∧cs.getD (j-k) .undef= .spr sh es q
 |[],_,_,_,_,_,h=>by cases h
 |c::cs,k,j,sh,es,q,h=>by
  by_cases hc: ∃sh' es' q',c= .spr sh' es' q'
  ·obtain⟨sh',es',q',rfl⟩:=hc
   simp only[ziN,Option.some.injEq,Prod.mk.injEq]at h
   obtain⟨rfl,rfl,rfl,rfl⟩:=h
   exact⟨Nat.le_refl _,by simp,by simp⟩
  ·have h':ziN cs (k+1)=some (j,sh,es,q):=by
    cases c<;>first|exact h|exact absurd ⟨_,_,_,rfl⟩ hc
   obtain⟨h1,h2,h3⟩:=zjg h'
   have:j-k=(j-(k+1))+1:=by omega
   refine⟨by omega,by rw[this];simpa using h2,by rw[this];simpa using h3⟩
theorem zny{sh:Sh}{es:List V}{q:Nat}{c:Value}(h:VRep w (prOf own) μ (.spr sh es q) c)(hR: ∀b,μ[q]? =some b→RRep P cfg w own μ q b (.spare sh es.length (q+1))):GRep w own μ (.r q 0) sh es c:=by
 cases h with
 |spr _ _ _ b cap off A h1 h2 h3 hA hv=>
  obtain⟨cap',off',k1,k2,hb⟩:=hR b h1
  rw[h2]at k1;cases k1
  rw[h3]at k2;cases k2
  have hl:es.length≤cap:=by
   cases hv with
   |vecE=>exact Nat.zero_le _
   |vec _ _ _ a _ f hm hf hl=>exact hl
  refine⟨A,cap,rfl,hl, ?_⟩
  by_cases h0:cap=0
  ·left
   subst h0
   exact⟨List.length_eq_zero_iff.1 (by omega),rfl⟩
  ·right
   have hA:=hA.resolve_left h0
   subst hA
   obtain⟨ccs,ty,fz,hbk,hsz,hk⟩:=hb.resolve_left h0
   cases hv with
   |vecE=>
    exact⟨⟨b,off,none⟩,fun _ _=>undef,ccs,ty,fz,rfl,rfl,hbk,hsz,fun i j hi=>absurd hi (by simp),fun i hi=>absurd hi (by simp),fun i j hi=>absurd hi (by simp),fun k h1 h2=>hk k h1 h2⟩
   |vec _ _ _ a _ f hm hf hl ha hcell hsh hc=>
    exact⟨⟨b,off,none⟩,f,ccs,ty,fz,rfl,rfl,hbk,hsz,hcell,hsh,hc,fun k h1 h2=>hk k h1 h2⟩
theorem TRep.congr{tm:Array Value}{ρ':Env}(hρ: ∀t,ρ'.get t=ρ.get t){t:Nat}{v:V}{c:Value}(h:TRep w own μ ρ tm t v c):TRep w own μ ρ' tm t v c:=by
 cases v with
 |lptr y off=>
  obtain⟨b,h1,h2,h3⟩:=h
  refine⟨b,h1,h2, ?_⟩
  rw[hρ];exact h3
 |vec m sh es=>cases m<;>exact h
 |_=>exact h
theorem Rel.congr{ρ':Env}(h:Rel P cfg base n w own μ ρ st a)(hρ: ∀t,ρ'.get t=ρ.get t):Rel P cfg base n w own μ ρ' st a:=
 ⟨h.sto,fun t=>by rw[hρ];exact(h.env t).congr hρ,h.tmps,h.defers,h.apart⟩
theorem zqY(h:OpOK P cfg base n all w own μ o a ρ st){b:Nat}{sh:Sh}{cs:List V}(hb:ρ.get b= .loc true sh (.agg cs)){j:Nat}{sh1:Sh}{es:List V}{q:Nat}
  (hj:ziN cs 0=some (j,sh1,es,q)) (hst:st[q]? =some (.spare sh1 es.length (q+1))) (hdst:o.dst=none):OpOK P cfg base n all w own μ o a (ρ.set b (.loc true sh (.agg (cs.set j (.vec .grow sh1 es))))) (st.set q .dead):=by
 obtain⟨nx,cv,w',own',μ',hrun,hnx,hR,hk,hlp⟩:=h
 obtain⟨_,hlt,hget⟩:=zjg hj
 simp only[Nat.sub_zero]at hlt hget
 have s:=Step.mvR hR.sto (.t b (j+1)) (by simp) q
 have hT:=hR.env b
 rw[hb]at hT
 obtain⟨blk,ccs,hc,hB,hso,hcell,_⟩:=hT
 have hlen:cs.length=sh.sz:=by have:=hso.len;simpa[cellsOf]using this
 have hsj:=(hcell j (by omega)).2
 have hcj:cellAt (.agg cs) j= .spr sh1 es q:=by simpa[cellAt,cellsOf]using hget
 rw[hcj]at hsj
 have hG:=zny (P:=P) (cfg:=cfg) (CRep.val hsj (by simp)) (fun b' hb'=>hR.sto.res q _ b' hst hb')
 refine⟨nx,cv,w',_,μ',hrun,hnx, ?_,hk.trans (s.keeps (by simp)),fun t x off ht=> ?_⟩
 ·refine hR.step s (by simp) (by rw[List.length_set];exact hR.sto.len) rfl rfl (fun r x b' hx hm=> ?_) fun t=> ?_
  ·by_cases e:r=q
   ·subst e
    right
    have:=(List.getElem?_eq_some_iff.1 hst).1
    rw[List.getElem?_set_self this]at hx
    cases hx
    trivial
   ·left
    rw[List.getElem?_set_ne (fun h=>e h.symm)]at hx
    exact⟨hx,fun j h=>e (by cases h;rfl)⟩
  ·by_cases e:t=b
   ·subst e
    right
    rw[Zp,if_pos rfl]
    refine⟨blk,ccs,hc,s.blk' hB (by simp) (by simp), ?_,fun k hk'=>⟨(hcell k hk').1, ?_⟩,fun e=>by cases e⟩
    ·cases sh with
     |none=>exact hso
     |some m=>simpa[Shaped]using hso
    ·by_cases e2:k=j
     ·subst e2
      have:cellAt (.agg (cs.set k (.vec .grow sh1 es))) k= .vec .grow sh1 es:=by simp[cellAt,cellsOf,hlt]
      rw[this]
      exact hG.mv (by simp)
     ·have:cellAt (.agg (cs.set j (.vec .grow sh1 es))) k=cellAt (.agg cs) k:=by simp[cellAt,cellsOf,List.getD_eq_getElem?_getD,List.getElem?_set_ne (fun h=>e2 h.symm)]
      rw[this]
      exact s.crep (hcell k hk').2 (by simp) (by simp)
   ·left
    refine⟨by rw[Zp,if_neg e],rfl,by simp,fun x off hx=>⟨rfl, ?_⟩⟩
    rw[Zp]
    by_cases e3:x=b
    ·rw[if_pos e3];trivial
    ·rw[if_neg e3];exact(Xl hR t x off hx).2
 ·rw[Zp]at ht
  split at ht
  ·cases ht
  ·exact hlp t x off ht
end
end Go.AM
namespace Go.AM
open Go Go.RowKit
section
variable{P:Program}{cfg:Cfg}{base n:Nat}{w:World}{own:Own}{μ:List Nat}{ρ:Env}{st:St}{a:Act}
variable{fid rid idx:Nat}{all:List Oper}{o:Oper}{R:Type}{r:R}
theorem OpOK.pre{own':Own}{ρ':Env}{st':St}(hk:Keeps base w own μ w own' μ)(h:OpOK P cfg base n all w own' μ o a ρ' st'):OpOK P cfg base n all w own μ o a ρ' st':=by
 obtain⟨nx,cv,w',own2,μ',k1,k2,k3,k4,k5⟩:=h
 exact⟨nx,cv,w',own2,μ',k1,k2,k3,hk.trans k4,k5⟩
theorem znz{b d0:Nat}{d d':Bool}{sh sh':Sh}{v v':V}(hb:ρ.get b= .loc d sh v): ∀ops:List Oper,zep d0 ops (ρ.set b (.loc d' sh' v'))=zep d0 ops ρ:=by
 intro ops
 unfold zep
 congr 1
 funext o
 cases o.dst with
 |none=>rfl
 |some x=>
  simp only[Zp]
  by_cases e:x=b
  ·rw[if_pos e,e,hb]
  ·rw[if_neg e]
theorem Pre.varset(h:Pre P cfg base n all w own μ ρ st a o){b:Nat}{d d':Bool}{sh sh':Sh}{v v':V}(hb:ρ.get b= .loc d sh v){own':Own}{st':St}(hR:Rel P cfg base n w own' μ (ρ.set b (.loc d' sh' v')) st' a):
  Pre P cfg base n all w own' μ (ρ.set b (.loc d' sh' v')) st' a o:=by
 refine⟨hR,fun t x off e=> ?_,h.mem,h.dst, ?_⟩
 ·rw[Zp]at e
  split at e
  ·cases e
  ·exact h.lp t x off e
 ·have:=h.okd
  unfold okDst at this⊢
  cases hd:o.dst with
  |none=>rfl
  |some x=>
   rw[hd]at this
   simp only[Zp,znz hb]at this⊢
   by_cases e:x=b
   ·rw[if_pos e];rw[e,hb]at this;rw[e];exact this
   ·rw[if_neg e];exact this
theorem zn0{tm:Array Value}{b t:Nat}{d d':Bool}{sh sh':Sh}{v0 v' v:V}{c:Value}(hb:ρ.get b= .loc d sh v0)(h:TRep w own μ ρ tm t v c):TRep w own μ (ρ.set b (.loc d' sh' v')) tm t v c:=by
 cases v with
 |lptr x off=>
  obtain⟨b0,h1,h2,h3⟩:=h
  refine⟨b0,h1,h2, ?_⟩
  rw[Zp]
  by_cases e:x=b
  ·rw[if_pos e];trivial
  ·rw[if_neg e];exact h3
 |vec m s e=>cases m<;>exact h
 |_=>exact h
theorem zld{b:Nat}{d:Bool}{sh:Sh}: ∀(cs pre:List V) (st:St) (own:Own) (ρ:Env) (K:List V→St→Option R),Rel P cfg base n w own μ ρ st a→ρ.get b= .loc d sh (.agg (pre++cs))→zfB cs st K=some r→
  ∃own' cs' st',K cs' st'=some r∧Rel P cfg base n w own' μ (ρ.set b (.loc d sh (.agg (pre++cs')))) st' a∧Step base w own μ w own' μ (fun g=> ∃q j,g= .r q j)∧cs'.length=cs.length:=by
 intro cs
 induction cs with
 |nil=>
  intro pre st own ρ K hR hb h
  refine⟨own,[],st,h,hR.congr fun t=> ?_,(Step.refl' hR.sto).weaken fun _ h=>h.elim,rfl⟩
  rw[Zp]
  split
  ·rename_i e;subst e;exact hb.symm
  ·rfl
 |cons v cs ih=>
  intro pre st own ρ K hR hb h
  have gen: ∀(own1:Own) (st1:St) (ρ1:Env) (v1:V),Rel P cfg base n w own1 μ ρ1 st1 a→ρ1.get b= .loc d sh (.agg (pre++v1::cs))→(∀x t,((ρ1.set b x).get t)=(ρ.set b x).get t)→Step base w own μ w own1 μ (fun g=> ∃q j,g= .r q j)→
    zfB cs st1 (fun cs st=>K (v1::cs) st)=some r→ ∃own' cs' st',K cs' st'=some r∧Rel P cfg base n w own' μ (ρ.set b (.loc d sh (.agg (pre++cs')))) st' a∧Step base w own μ w own' μ (fun g=> ∃q j,g= .r q j)∧cs'.length=(v::cs).length:=by
   intro own1 st1 ρ1 v1 hR1 hb1 hx1 hs1 hf
   obtain⟨own',cs',st',e1,e2,e3,e4⟩:=ih (pre++[v1]) st1 own1 ρ1 _ hR1 (by rw[hb1];simp) hf
   refine⟨own',v1::cs',st',e1, ?_,(hs1.trans e3).weaken fun g h=>h.elim id id,by simp[e4]⟩
   refine e2.congr fun t=> ?_
   rw[List.append_assoc,hx1]
   rfl
  by_cases hrow: ∃sh q lo k,v= .row sh q lo k
  ·obtain⟨sh1,q,lo,k,rfl⟩:=hrow
   simp only[zfB]at h
   obtain⟨y,hst,h⟩:=Yd h
   obtain⟨sh',es,rfl,h⟩:=Q1 h
   obtain⟨hbd,h⟩:=Zh h
   simp only[Bool.and_eq_true,decide_eq_true_eq]at hbd
   obtain⟨rfl,hlk⟩:=hbd
   obtain⟨own1,k1,k2,k3⟩:=zjd hR q
   have hget:(pre++V.row sh' q lo k::cs).getD pre.length .undef= .row sh' q lo k:=by simp[List.getD_eq_getElem?_getD]
   have hR1:Rel P cfg base n w own1 μ (ρ.set b (.loc d sh (.agg (pre++ .vec .plain sh' ((es.drop lo).take k)::cs)))) (st.set q .dead) a:=by
    have hT:=hR.env b
    rw[hb]at hT
    obtain⟨b0,ccs,h1,h2,h3,h4,h5⟩:=hT
    have hlen:(pre++V.row sh' q lo k::cs).length=sh.sz:=by have:=h3.len;simpa[cellsOf]using this
    have hc0:=(h4 pre.length (by rw[←hlen];simp)).2
    refine⟨k1.sto,fun t=> ?_,k1.tmps,k1.defers,k1.apart⟩
    rw[Zp]
    split
    ·rename_i e
     subst e
     have hT1:=k1.env t
     rw[hb]at hT1
     obtain⟨b1,ccs1,i1,i2,i3,i4,i5⟩:=hT1
     rw[h1]at i1
     cases i1
     obtain⟨ty,fz,g1,g2,g3,g4⟩:=h2
     obtain⟨ty',fz',g1',g2',g3',g4'⟩:=i2
     rw[g1]at g1'
     cases g1'
     refine⟨b0,ccs,h1,⟨ty,fz,g1,g2,g3',g4'⟩, ?_,fun j hj=>⟨(h4 j hj).1, ?_⟩,fun e j sh2 es2 hx=> ?_⟩
     ·cases sh with
      |none=>exact h3
      |some k=>simp only[Shaped]at h3⊢;simpa using h3
     ·by_cases hjp:j=pre.length
      ·subst hjp
       have e1:cellAt (.agg (pre++V.vec .plain sh' ((es.drop lo).take k)::cs)) pre.length= .vec .plain sh' ((es.drop lo).take k):=by simp[cellAt,cellsOf,List.getD_eq_getElem?_getD]
       rw[e1]
       have hc0':CRep w own μ (.t t (pre.length+1)) (.row sh' q lo k) (ccs.getD pre.length undef):=by rw[←hget];exact hc0
       exact zcA hR.sto hst hlk (hc0':VRep w (prOf own) μ (.row sh' q lo k) _) k2 k3
      ·have e1:cellAt (.agg (pre++V.vec .plain sh' ((es.drop lo).take k)::cs)) j=cellAt (.agg (pre++V.row sh' q lo k::cs)) j:=by
        simp only[cellAt,cellsOf,List.getD_eq_getElem?_getD]
        rcases Nat.lt_or_ge j pre.length with hlt|hge
        ·rw[List.getElem?_append_left hlt,List.getElem?_append_left hlt]
        ·rw[List.getElem?_append_right hge,List.getElem?_append_right hge]
         obtain⟨m,hm⟩: ∃m,j-pre.length=m+1:=⟨j-pre.length-1,by omega⟩
         rw[hm];rfl
       rw[e1];exact(i4 j hj).2
     ·by_cases hjp:j=pre.length
      ·subst hjp
       have e1:cellAt (.agg (pre++V.vec .plain sh' ((es.drop lo).take k)::cs)) pre.length= .vec .plain sh' ((es.drop lo).take k):=by simp[cellAt,cellsOf,List.getD_eq_getElem?_getD]
       rw[e1]at hx;cases hx
      ·refine h5 e j sh2 es2 ?_
       rw[←hx]
       simp only[cellAt,cellsOf,List.getD_eq_getElem?_getD]
       rcases Nat.lt_or_ge j pre.length with hlt|hge
       ·rw[List.getElem?_append_left hlt,List.getElem?_append_left hlt]
       ·rw[List.getElem?_append_right hge,List.getElem?_append_right hge]
        obtain⟨m,hm⟩: ∃m,j-pre.length=m+1:=⟨j-pre.length-1,by omega⟩
        rw[hm];rfl
    ·exact zn0 hb (k1.env t)
   refine gen own1 _ _ (.vec .plain sh' ((es.drop lo).take k)) hR1 (by rw[Zp,if_pos rfl]) (fun x t=> ?_) (k2.weaken fun g ⟨j,e⟩=>⟨q,j,e⟩) h
   simp only[Zp]
   split<;>rfl
  ·have h':zfB cs st (fun cs st=>K (v::cs) st)=some r:=by
    cases v with
    |row sh q lo k=>exact absurd ⟨sh,q,lo,k,rfl⟩ hrow
    |_=>exact h
   exact gen own st ρ v hR hb (fun _ _=>rfl) ((Step.refl' hR.sto).weaken fun _ h=>h.elim) h'
theorem zjh{own':Own}(s:Step base w own μ w own' μ (fun g=> ∃q j,g= .r q j)):Keeps base w own μ w own' μ:=Yt s fun g ⟨q,j,e⟩=> .inr ⟨q,j,e⟩
theorem zn1(h:Pre P cfg base n all w own μ ρ st a o){t:TypeId}{b:Nat}(hop:o.op= .load t (.tmp b)){d:Bool}{sh:Sh}{cs:List V}(hx:ρ.get b= .loc d sh (.agg cs))(hsh:Qu P sh t=true){K:List V→St→Option R}(hf:zfB cs st K=some r):
  ∃cs' st',K cs' st'=some r∧OpOK P cfg base n all w own μ o a (ρ.apply ((b, .loc d sh (.agg cs'))::ZL o.dst (bif d then Zs (.agg cs')else .agg cs'))) st':=by
 obtain⟨own',cs',st',e1,e2,e3,_⟩:=zld cs [] st own ρ K h.rel hx hf
 refine⟨cs',st',e1,OpOK.pre (zjh e3) ?_⟩
 exact zhF (h.varset hx e2) hop (x:= .tmp b) (by show(ρ.set b _).get b=_;rw[Zp,if_pos rfl];rfl) hsh
theorem zhb(h:Pre P cfg base n all w own μ ρ st a o){t:TypeId}{x:Operand}(hop:o.op= .load t x){b off:Nat}(hx:ev ρ x= .lptr b off){d:Bool}{sh:Sh}{cs:List V}(hb:ρ.get b= .loc d sh (.agg cs)){K:List V→St→Option R}(hf:zfB cs st K=some r):
  ∃cs' st',K cs' st'=some r∧(off+(shOf P t).sz≤cs'.length→okTy P t=true→OpOK P cfg base n all w own μ o a (ρ.apply ((b, .loc d sh (.agg cs'))::ZL o.dst (bif d then Zs (partOf cs' off (shOf P t))else partOf cs' off (shOf P t)))) st'):=by
 obtain⟨own',cs',st',e1,e2,e3,_⟩:=zld cs [] st own ρ K h.rel hb hf
 refine⟨cs',st',e1,fun h1 h2=>OpOK.pre (zjh e3) ?_⟩
 have hx':ev (ρ.set b (.loc d sh (.agg ([]++cs')))) x= .lptr b off:=by
  cases x with
  |tmp y=>
   simp only[ev]at hx⊢
   rw[Zp]
   split
   ·rename_i e;subst e;rw[hb]at hx;cases hx
   ·exact hx
  |_=>exact hx
 have:=zfJ (h.varset hb e2) hop hx' (d:=d) (sh:=sh) (cs:=cs') (by rw[Zp,if_pos rfl];rfl) h1 h2 (q:=false) (fun e=>by cases e)
 simp only[Bool.not_false,Bool.and_true,List.nil_append]at this
 exact this
theorem zfT(h:Pre P cfg base n all w own μ ρ st a o){t e:TypeId}{len:Nat}{ps:Array (Nat×Operand)}(hop:o.op= .buildSlice t len ps)(he:Yi P t=some e){tk:Bool}{es:List V}
  (hlay:YT P e (rd ρ tk) ps.toList (List.replicate len (zeroV P e))=some es) (hty:okTy P e=true) (hok:Zy (shOf P e) (zeroV P e)=true) (hsz:len*(shOf P e).sz≤2^24):
  OpOK P cfg base n all w own μ o a (ρ.apply (upds ρ tk (ps.toList.map (·.2))++ZL o.dst (.row (shOf P e) st.length 0 len))) (st++[.row (shOf P e) es]):=by
 obtain⟨cells,hcs,hel,hsp,hvr,hrun⟩:=zgV h hop he hlay hty hok hsz
 obtain⟨hr,hs1,_⟩:=h.rel.read tk (ps.toList.map (·.2))
 obtain⟨h1,h2⟩:=JJ hr cells e w.drawn (.row (shOf P e) es) (fun w' own' s hb ho=>by
  refine .inr ⟨len*(shOf P e).sz,cells,⟨e,(0,0),hb,hcs,fun i hi=> ?_,ho⟩,by rw[hel];exact Nat.le_refl _,fun k hk=> ?_⟩
  ·simp[World.frozen?,hb]
  ·rw[hel]at hk
   refine⟨hsp k (by omega),fun j hj=> ?_⟩
   have hlt:k*(shOf P e).sz+j<len*(shOf P e).sz:=XD hk hj
   obtain⟨g1,g2⟩:=hvr k j hk hj
   exact⟨g1,s.vrep g2⟩)
 refine Qq h h1 ((Z8 hs1).trans (h2.keeps fun h=>h)) (c:= .slice (some ⟨w.heap.size,0,none⟩) len len) ?_ hrun
 have:=VRep.row (w:=(drawn w w.drawn).alloc (.cells cells e)) (pr:=prOf (Xy (Yy own ρ (ps.toList.map (·.2))) w.heap.size (.r st.length 0))) (shOf P e) st.length 0 len w.heap.size len (Jd h.rel.sto.len w.heap.size) (Nat.le_refl _)
 rwa [Nat.zero_mul]at this
end
end Go.AM
