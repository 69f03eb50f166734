import Derived.CallsIn
import Derived.Laws.Externs
import Derived.Below
import Derived.Laws.Cells
import Derived.Laws.IdiomCopy
import Derived.RangeFuncFrom
/- An abstract machine over tree values that runs the model's code, and its soundness: what it tells of a call, the model does. -/
set_option linter.unusedVariables false
set_option linter.unusedSimpArgs false
set_option linter.unusedSectionVars false
namespace Go.AM
open Go
abbrev Sh:=Option Nat
def Sh.sz:Sh→Nat
 |none=>1
 |some n=>n
inductive Mode where
 |plain|full|grow
 deriving DecidableEq
inductive V where
 |undef
 |bool (b:Bool)
 |int (n:Int)
 |ik (k:IntKind) (n:Int)
 |str (s:ByteArray)
 |agg (cs:List V)
 |vec (m:Mode) (sh:Sh) (es:List V)
 |spr (sh:Sh) (es:List V) (r:Nat)
 |cptr (sh:Sh) (v:V)
 |loc (d:Bool) (sh:Sh) (v:V)
 |lptr (t off:Nat)
 |ref (r off:Nat)
 |rel (sh:Sh) (r i off:Nat)
 |row (sh:Sh) (r lo n:Nat)
 |fn (f:Nat) (first cap:List V)
 |yld (r:Nat)
 |nilf
 |mp (r:Nat)
 |ifc (t:Nat) (v:V)
 |nili
 |tup (vs:List V)
 |nilp
 |nils
instance:Inhabited V:=⟨.undef⟩
inductive Ex where
 |normal
 |exit (id:Nat)
 |goto (l:Nat)
 |ret
 |panic (v:V)
inductive Out where
 |ret (v:V)
 |panic (v:V)
inductive LSt where
 |ready|busy|done
 deriving DecidableEq
inductive CT where
 |int|ik (k:IntKind)|bool|str|slice (sh:Sh)|fn|any|nil (sh:Sh)
 deriving DecidableEq
inductive Res where
 |dead
 |box (cells:List V)
 |row (sh:Sh) (es:List V)
 |spare (sh:Sh) (n q:Nat)
 |loop (fid key:Nat) (vals:List V) (st:LSt) (pending:Option Ex)
 |iter (s:ByteArray) (pos:Nat)
 |map (ck cv:CT) (es:List (V×V))
abbrev St:=List Res
def bc{R:Type}(b:Bool)(x y:Option R):Option R:=match b with|true=>x|false=>y
def Env:=List (Nat×V)
def Env.get:Env→Nat→V
 |[],_=> .undef
 |(y,v)::ρ,x=>bif Nat.beq y x then v else Env.get ρ x
def Env.set(ρ:Env)(t:Nat)(v:V):Env:=(t,v)::ρ
def Env.put(ρ:Env)(d:Option Nat)(v:V):Env:=match d with|some t=>ρ.set t v|none=>ρ
structure Oracle where
 call:Nat→List V→St→Option (Out×St)
 loop:Nat→Nat→List V→St→Option (Ex×List V×St)
 round:Nat→Nat→Nat→List V→List V→St→Option (Bool×St)
inductive Kd where
 |ty (t:Nat)
 |ct (c:CT)
 |loc (t:Nat)
 |locA (sh:Sh)
 |row (sh:Sh)
 |dloc (sh:Sh) (ks:List Kd)
 |grow (sh:Sh)
 |full (sh:Sh)
 |ref
 |cref
 |mp
 |any
structure Cfg where
 pure:Nat→Bool
 res:Nat→Nat→Bool
 take:Nat→Nat→Nat→Bool
 keep:Nat→Nat→List (Nat×Kd)
 outs:Nat→Nat→List (Nat×Kd)
 rets:Nat→Nat→List (Nat×Kd)
 room:Nat→Bool
 pan:Nat→Bool
section combinators
variable{R:Type}
def gd(b:Bool)(x:Option R):Option R:=match b with|true=>x|false=>none
def Za{α:Type}(x:Option α)(K:α→Option R):Option R:=match x with|some a=>K a|none=>none
def Zw(st:St)(r:Nat)(K:Res→Option R):Option R:=match st[r]? with|some x=>K x|none=>none
def ZE(x:Res)(K:List V→Option R):Option R:=match x with| .box cs=>K cs|_=>none
def za0(x:Res)(K:Sh→List V→Option R):Option R:=match x with| .row sh es=>K sh es|_=>none
def ZX(x:Res)(K:Nat→Nat→List V→LSt→Option Ex→Option R):Option R:=match x with| .loop f k vs s p=>K f k vs s p|_=>none
def za3(s:LSt)(p:Option Ex)(x:Option R):Option R:=match s,p with| .ready,none=>x|_,_=>none
def zdn(v:V)(K:Nat→Int→Option R):Option R:=match v with| .ifc t (.int n)=>K t n|_=>none
def zei(x:Res)(K:Sh→Nat→Nat→Option R):Option R:=match x with| .spare sh n q=>K sh n q|_=>none
def zgC(x:Res)(K:ByteArray→Nat→Option R):Option R:=match x with| .iter s p=>K s p|_=>none
def zhC(x:Res)(K:CT→CT→List (V×V)→Option R):Option R:=match x with| .map ck cv es=>K ck cv es|_=>none
def zkm(v:V)(K:Nat→Option R):Option R:=match v with| .mp r=>K r|_=>none
def Zm(v:V)(K:Int→Option R):Option R:=match v with| .int n=>K n|_=>none
def zkn(k:IntKind)(v:V)(K:Int→Option R):Option R:=match v with| .ik k' n=>(if k'=k then K n else none)|_=>none
def Zl(v:V)(K:Bool→Option R):Option R:=match v with| .bool b=>K b|_=>none
def zcY(v:V)(K:ByteArray→Option R):Option R:=match v with| .str s=>K s|_=>none
def Xc(v:V)(K:List V→Option R):Option R:=match v with| .agg cs=>K cs|_=>none
def Yp(sh:Sh)(v:V)(K:List V→Option R):Option R:=match v with| .vec .plain sh' es=>(if sh'=sh then K es else none)|_=>none
def zqy(sh:Sh)(v:V)(K:List V→Nat→Option R):Option R:=match v with| .spr sh' es r=>(if sh'=sh then K es r else none)|_=>none
def Zd(vs:List V)(K:V→List V→Option R):Option R:=match vs with|v::vs=>K v vs|[]=>none
def Zn(vs:List V)(x:Option R):Option R:=match vs with|_::_=>none|[]=>x
def ZM(v:V)(K:List V→Option R):Option R:=match v with| .tup vs=>K vs|_=>none
def Xk(e:Ex)(n:Option R)(r:Option R)(x:Nat→Option R)(p:V→Option R):Option R:=
 match e with| .normal=>n| .ret=>r| .exit i=>x i| .panic v=>p v| .goto _=>none
def Y0(sh:Sh)(v:V)(K:Bool→V→Option R):Option R:=match v with| .loc d sh' v=>(if sh'=sh then K d v else none)|_=>none
def Qo(sh:Sh)(v:V)(K:Nat→Nat→Nat→Option R):Option R:=match v with| .row sh' r lo n=>(if sh'=sh then K r lo n else none)|_=>none
def Xr(sh:Sh)(v:V)(K:List V→Option R):Option R:=match v with| .vec .grow sh' es=>(if sh'=sh then K es else none)| .vec .full sh' es=>(if sh'=sh then K es else none)|_=>none
def za4(sh:Sh)(v:V)(K1 K2:List V→Option R):Option R:=match v with| .vec .grow sh' es=>(if sh'=sh then K1 es else none)| .vec .full sh' es=>(if sh'=sh then K2 es else none)|_=>none
def zdo(v:V)(K:Nat→Option R):Option R:=match v with| .cptr none (.ref q 0)=>K q|_=>none
def zf7(v:V)(K:Nat→Option R):Option R:=match v with| .ref q 0=>K q|_=>none
def zdp(sh:Sh)(v:V)(K:List V→Option R):Option R:=match v with| .vec .full sh' es=>(if sh'=sh then K es else none)|_=>none
def zf8(v:V)(K:Nat→List V→List V→Option R):Option R:=match v with| .fn g a b=>K g a b|_=>none
def za1(v:V)(K:Nat→List V→List V→Option R)(Y:Nat→Option R):Option R:=match v with| .fn g a b=>K g a b| .yld l=>Y l|_=>none
def Zx(o:Out)(K:V→Option R)(P:V→Option R):Option R:=match o with| .ret v=>K v| .panic v=>P v
end combinators
def shOf(P:Program)(t:TypeId):Sh:=
 match P.underlying t with
 |some (.struct _)|some (.array _ _)=>some (((P.info? t).map (·.size)).getD 0)
 |_=>none
def okTy(P:Program)(t:TypeId):Bool:=(P.underlying t).isSome&&(P.info? t).isSome&&(((P.info? t).map (·.size)).getD 0==(shOf P t).sz)&&
 (match(P.info? t).bind (·.zero)with|some z=>z.cells.size==(shOf P t).sz&&z.cells.all (·.oneCell')|none=>false)
def zbZ(P:Program)(t:TypeId):Bool:=
 match P.underlying t with
 |some (.struct fs)=>fs.toList.all fun f=>okTy P f.type
 |some (.array _ e)=>okTy P e
 |_=>false
def Qu(P:Program)(sh:Sh)(t:TypeId):Bool:=okTy P t&&decide (sh=shOf P t)
def QC(P:Program):Nat→TypeId→List CT
 |0,_=> []
 |n+1,t=>
  match P.underlying t with
  |some (.struct fs)=>fs.toList.flatMap fun f=>QC P n f.type
  |some (.array k e)=>(List.replicate k (QC P n e)).flatten
  |some (.int .i64)=> [.int]
  |some (.int k)=> [.ik k]
  |some .bool=> [.bool]
  |some .string=> [.str]
  |some (.slice e)=> [.slice (shOf P e)]
  |some (.func ..)=> [.fn]
  |_=> [.any]
def Qv(R:Type):List CT→Type
 |[]=>Option R
 | .int::cs=>Int→Qv R cs
 | .ik _::cs=>Int→Qv R cs
 | .bool::cs=>Bool→Qv R cs
 | .str::cs=>ByteArray→Qv R cs
 | .slice _::cs=>List V→Qv R cs
 | .fn::cs=>Nat→List V→List V→Qv R cs
 | .any::cs=>V→Qv R cs
 | .nil _::cs=>Qv R cs
def zbw(R:Type):(cs:List CT)→(List V→Option R)→Qv R cs
 |[],K=>K []
 | .int::cs,K=>fun n=>zbw R cs fun vs=>K (.int n::vs)
 | .ik k::cs,K=>fun n=>zbw R cs fun vs=>K (.ik k n::vs)
 | .bool::cs,K=>fun b=>zbw R cs fun vs=>K (.bool b::vs)
 | .str::cs,K=>fun s=>zbw R cs fun vs=>K (.str s::vs)
 | .slice sh::cs,K=>fun es=>zbw R cs fun vs=>K (.vec .plain sh es::vs)
 | .fn::cs,K=>fun g a b=>zbw R cs fun vs=>K (.fn g a b::vs)
 | .any::cs,K=>fun v=>zbw R cs fun vs=>K (v::vs)
 | .nil sh::cs,K=>zbw R cs fun vs=>K (.vec .full sh []::vs)
section coerce
variable{R:Type}
def onCells:(cs:List CT)→List V→Qv R cs→Option R
 |[],vs,K=>match vs with|[]=>K|_=>none
 | .int::cs,vs,K=>match vs with| .int n::vs=>onCells cs vs (K n)|_=>none
 | .ik k::cs,vs,K=>match vs with| .ik k' n::vs=>(if k'=k then onCells cs vs (K n)else none)|_=>none
 | .bool::cs,vs,K=>match vs with| .bool b::vs=>onCells cs vs (K b)|_=>none
 | .str::cs,vs,K=>match vs with| .str s::vs=>onCells cs vs (K s)|_=>none
 | .slice sh::cs,vs,K=>match vs with| .vec .plain sh' es::vs=>(if sh'=sh then onCells cs vs (K es)else none)|_=>none
 | .fn::cs,vs,K=>match vs with| .fn g a b::vs=>onCells cs vs (K g a b)|_=>none
 | .any::cs,vs,K=>match vs with|v::vs=>onCells cs vs (K v)|_=>none
 | .nil sh::cs,vs,K=>match vs with| .vec .full sh' []::vs=>(if sh'=sh then onCells cs vs K else none)|_=>none
def Zc(cs:List CT)(v:V)(K:Qv R cs):Option R:=match v with| .agg vs=>onCells cs vs K|_=>none
def Yl(c:CT)(v:V)(K:V→Option R):Option R:=
 match c with
 | .int=>Zm v fun n=>K (.int n)
 | .ik k=>zkn k v fun n=>K (.ik k n)
 | .bool=>Zl v fun b=>K (.bool b)
 | .str=>zcY v fun s=>K (.str s)
 | .slice sh=>Yp sh v fun es=>K (.vec .plain sh es)
 | .fn=>zf8 v fun g a b=>K (.fn g a b)
 | .any=>K v
 | .nil sh=>zdp sh v fun es=>Zn es (K (.vec .full sh []))
def zsm:CT→CT
 | .slice sh=> .nil sh
 |c=>c
def zej(P:Program)(t:TypeId)(v:V)(K:V→Option R):Option R:=
 match shOf P t with
 |none=>match QC P 8 t with|[c]=>Yl (zsm c) v K|_=>none
 |some _=>Zc ((QC P 8 t).map zsm) v (zbw R ((QC P 8 t).map zsm) fun cs=>K (.agg cs))
def zcx(P:Program)(cl:Bool)(t:TypeId)(v:V)(K:V→Option R):Option R:=
 match shOf P t,QC P 8 t with
 |none,[.slice sh]=>
  match cl with
  |true=>Qo sh v fun r lo n=>K (.row sh r lo n)
  |false=>zqy sh v fun es r=>K (.spr sh es r)
 |_,_=>zej P t v K
def QD(P:Program)(t:TypeId)(v:V)(K:V→Option R):Option R:=
 match shOf P t with
 |none=>match QC P 8 t with|[c]=>Yl c v K|_=>none
 |some _=>Zc (QC P 8 t) v (zbw R (QC P 8 t) fun cs=>K (.agg cs))
def zsn(P:Program)(t:TypeId):Bool:=match shOf P t,QC P 8 t with|none,[.fn]=>true|_,_=>false
def zcy(P:Program)(t:TypeId)(v:V)(K:V→Option R):Option R:=
 match zsn P t with
 |true=>za1 v (fun g a b=>K (.fn g a b)) fun r=>K (.yld r)
 |false=>QD P t v K
def zek(P:Program)(t:TypeId)(v:V)(K:V→Option R):Option R:=
 match zsn P t with
 |true=>zcy P t v K
 |false=>K v
def Qm(P:Program):List TypeId→List V→(List V→Option R)→Option R
 |[],vs,K=>Zn vs (K [])
 |t::ts,vs,K=>Zd vs fun v vs=>QD P t v fun v=>Qm P ts vs fun vs=>K (v::vs)
def coerce(P:Program)(t:TypeId)(v:V)(K:V→Option R):Option R:=
 match P.underlying t with
 |some (.tuple ts)=>ZM v fun vs=>Qm P ts.toList vs fun vs=>K (.tup vs)
 |_=>QD P t v K
def zel(P:Program)(raw:Bool)(t:TypeId)(v:V)(K:V→Option R):Option R:=
 match raw with
 |true=>K v
 |false=>coerce P t v K
end coerce
def zf9:Value→V
 | .bool b=> .bool b
 | .int .i64 n=> .int n
 | .int k n=> .ik k n
 | .string s=> .str s
 | .nilFunc=> .nilf
 | .nilIface=> .nili
 | .pointer none=> .nilp
 | .slice none 0 0=> .nils
 | .func (.func f) a b=>(match a.size,b.size with|0,0=> .fn f [] []|_,_=> .undef)
 |_=> .undef
def zeroCell(P:Program)(t:CT)(c:Value):V:=
 match t,c with
 | .slice sh, .slice none 0 0=> .vec .full sh []
 |_,c=>zf9 c
def zeroCells(P:Program)(t:TypeId):List V:=
 match(P.info? t).bind (·.zero)with
 |some z=>List.zipWith (zeroCell P) (QC P 8 t) z.cells.toList
 |none=> []
def zso(sh:Sh)(cs:List V):V:=match sh with|some _=> .agg cs|none=>cs.headD .undef
def plain1:V→V
 | .vec .grow sh es=> .vec .plain sh es
 | .vec .full sh es=> .vec .plain sh es
 | .spr sh es _=> .vec .plain sh es
 |v=>v
def cellsOf:V→List V
 | .agg cs=>cs
 |v=> [v]
def Zs:V→V
 | .agg cs=> .agg (cs.map plain1)
 |v=>plain1 v
def drop1:V→V
 | .vec .grow sh es=> .vec .plain sh es
 |v=>v
def zkY:V→V
 | .agg cs=> .agg (cs.map drop1)
 |v=>drop1 v
def XU(P:Program)(t:TypeId):V:=zso (shOf P t) (zeroCells P t)
def zeroV(P:Program)(t:TypeId):V:=Zs (XU P t)
def partOf(cs:List V)(off:Nat)(sh:Sh):V:=
 match sh with
 |none=>cs.getD off .undef
 |some n=> .agg ((cs.drop off).take n)
def setCells(cs:List V)(off:Nat)(new:List V):List V:=cs.take off++new++cs.drop (off+new.length)
def ZP(es:List V)(i:Int):V:=es.getD i.toNat .undef
def Qp(P:Program)(s:TypeId)(f:Nat):Option (Nat×TypeId):=
 match P.underlying s with
 |some (.struct fs)=>(fs[f]?).map fun x=>(x.offset,x.type)
 |_=>none
def zqz(P:Program)(t:TypeId):Option CT:=
 match P.underlying t with
 |some (.int .i64)=>some .int
 |some .bool=>some .bool
 |some .string=>some .str
 |_=>none
def ziJ(P:Program)(t:TypeId)(c:CT):Bool:=
 match(P.info? t).bind (·.zero),c with
 |some (.int .i64 n), .int=>n==0
 |some (.bool b), .bool=> !b
 |some (.string s), .str=>s.size==0
 |_,_=>false
def zfa(P:Program)(t:TypeId):Option (CT×CT):=
 match P.underlying t with
 |some (.map k e)=>match zqz P k,zqz P e with|some ck,some cv=>bif ziJ P e cv then some (ck,cv)else none|_,_=>none
 |_=>none
def zfA:V→V→Bool
 | .int a, .int b=>a==b
 | .str a, .str b=>a==b
 | .bool a, .bool b=>a==b
 |_,_=>false
def QQ:List (V×V)→V→V→List (V×V)
 |[],k,v=> [(k,v)]
 |(k',v')::r,k,v=>bif zfA k k' then(k,v)::r else(k',v')::QQ r k v
def JZ:List (V×V)→V→V→V
 |[],_,d=>d
 |(k',v')::r,k,d=>bif zfA k k' then v' else JZ r k d
def zpc:CT→V
 | .int=> .int 0
 | .bool=> .bool false
 | .str=> .str ⟨#[]⟩
 |_=> .undef
def zlI(P:Program)(t:TypeId):Option (Nat×TypeId):=
 match P.underlying t with
 |some (.array k e)=>some (k,e)
 |_=>none
def Yi(P:Program)(t:TypeId):Option TypeId:=
 match P.underlying t with
 |some (.slice e)=>some e
 |_=>none
def zem{R:Type}(P:Program)(rw:Bool)(t:TypeId)(v:V)(K:V→Option R):Option R:=
 match rw with
 |true=>match Yi P t with|some e=>Qo (shOf P e) v fun r lo n=>K (.row (shOf P e) r lo n)|none=>none
 |false=>QD P t v K
mutual
def below(n:Nat):V→Bool
 | .agg cs=>Zk n cs
 | .vec _ _ es=>Zk n es
 | .spr _ es r=>Zk n es&&decide (r+2<n)
 | .cptr _ v=>below n v
 | .loc _ _ v=>below n v
 | .ref r _=>decide (r<n)
 | .rel _ r _ _=>decide (r<n)
 | .row _ r _ _=>decide (r<n)
 | .fn _ a b=>Zk n a&&Zk n b
 | .yld r=>decide (r<n)
 | .mp r=>decide (r<n)
 | .ifc _ v=>below n v
 | .tup vs=>Zk n vs
 |_=>true
def Zk(n:Nat):List V→Bool
 |[]=>true
 |v::vs=>below n v&&Zk n vs
end
end Go.AM
namespace Go.AM
open Go
inductive SK where
 |none|read|write
 deriving DecidableEq
section
variable(P:Program)(cfg:Cfg)(fid rid idx:Nat)
def ev(ρ:Env):Operand→V
 | .tmp t=>ρ.get t
 | .const v=>zf9 v
 | .global _=> .undef
 | .func f=> .fn f [] []
def zgD(tk:Bool):V→V
 | .loc _ sh v=> .cptr sh (Zs v)
 | .vec .grow sh es=>if tk then .vec .grow sh es else .vec .plain sh es
 | .lptr _ _=> .undef
 |v=>v
def rd(ρ:Env)(tk:Bool)(x:Operand):V:=zgD tk (ev ρ x)
def zlJ(ρ:Env)(tk:Bool)(x:Operand):List (Nat×V):=
 match x with
 | .tmp t=>
  match ρ.get t with
  | .loc _ sh v=> [(t, .cptr sh (Zs v))]
  | .vec .grow sh es=>if tk then[(t, .vec .plain sh es)]else[]
  |_=> []
 |_=> []
def upds(ρ:Env)(tk:Bool)(xs:List Operand):List (Nat×V):=xs.flatMap (zlJ ρ tk)
def ZL(d:Option Nat)(v:V):List (Nat×V):=match d with|some t=> [(t,v)]|none=> []
def ZZ(t:TypeId)(v:V):V:=
 match v with
 | .nils=>match Yi P t with|some e=> .vec .full (shOf P e) []|none=> .undef
 |v=>v
def plainAs(t:TypeId)(v:V):V:=plain1 (ZZ P t v)
def plainS(t:TypeId)(v:V):V:=match v with| .spr sh es q=> .spr sh es q|v=>plainAs P t v
def isConst:Operand→Bool
 | .const _=>true
 |_=>false
def isGrow:V→Bool
 | .vec .grow _ _=>true
 |_=>false
def zav:V→Bool
 | .vec .grow _ _=>true
 | .vec .full _ _=>true
 |_=>false
def Zy(sh:Sh)(v:V):Bool:=
 match v with
 | .undef=>false
 | .tup _=>false
 | .agg cs=>sh.isSome&&cs.length==sh.sz
 |_=>sh.isNone
def ztA:V→Bool
 | .undef=>true
 |_=>false
def ziB(e:TypeId):Bool:=(shOf P e).isNone&&ztA (XU P e)
section ops
variable{R:Type}
def ziK(t:TypeId):Bool:=match P.underlying t with|some .bool=>true|_=>false
def bop(isB:Bool)(op:BinOp)(x y:V)(K:V→Option R):Option R:=
 match x,y with
 | .int a, .int b=>
  match op with
  | .add=>K (.int (IntKind.i64.wrap (a+b)))
  | .sub=>K (.int (IntKind.i64.wrap (a-b)))
  | .mul=>K (.int (IntKind.i64.wrap (a*b)))
  | .quo=>gd (decide (b≠0)) (K (.int (IntKind.i64.wrap (a.tdiv b))))
  | .rem=>gd (decide (b≠0)) (K (.int (a.tmod b)))
  | .eql=>K (.bool (a==b))
  | .neq=>K (.bool (a !=b))
  | .lss=>K (.bool (decide (a<b)))
  | .leq=>K (.bool (decide (a≤b)))
  | .gtr=>K (.bool (decide (a>b)))
  | .geq=>K (.bool (decide (a≥b)))
  |_=>none
 | .ik j a, .ik k b=>
  if j=k then
   match op with
   | .add=>K (.ik j (j.wrap (a+b)))
   | .sub=>K (.ik j (j.wrap (a-b)))
   | .mul=>K (.ik j (j.wrap (a*b)))
   | .eql=>K (.bool (a==b))
   | .neq=>K (.bool (a !=b))
   | .lss=>K (.bool (decide (a<b)))
   | .leq=>K (.bool (decide (a≤b)))
   | .gtr=>K (.bool (decide (a>b)))
   | .geq=>K (.bool (decide (a≥b)))
   |_=>none
  else none
 | .str a, .str b=>
  match op with
  | .add=>gd (decide (a.size+b.size≤9223372036854775807)) (K (.str (a++b)))
  | .eql=>K (.bool (a.toList==b.toList))
  | .neq=>K (.bool (!(a.toList==b.toList)))
  | .lss=>K (.bool (Op.bytesLess a.toList b.toList))
  |_=>none
 | .bool a, .bool b=>
  match op with
  | .eql=>gd isB (K (.bool (a==b)))
  | .neq=>gd isB (K (.bool (!(a==b))))
  |_=>none
 |_,_=>none
def zq0:Nat→List Field→Bool
 |_,[]=>true
 |i,f::fs=>f.name != "_" &&Nat.beq f.offset i&&okTy P f.type&&(shOf P f.type).isNone&&
   (match P.underlying f.type with|some (.int _)=>true|some .bool=>true|some .string=>true|_=>false)&&zq0 (i+1) fs
def zvH(t:TypeId):Bool:=
 (match P.underlying t with|some (.struct fs)=>zq0 P 0 fs.toList|_=>false)&& !P.stoodInHeld t&& !P.eqGuardType P.depth t
def ziC(t:TypeId):Bool:=match P.underlying t with|some (.interface ms)=>ms.isEmpty|_=>false
def zgE:List Field→List V→List V→Bool→(Bool→Option R)→Option R
 |[],as_,bs,acc,K=>Zn as_ (Zn bs (K acc))
 |f::fs,as_,bs,acc,K=>
  Zd as_ fun a as_=>Zd bs fun b bs=>
  match P.underlying f.type with
  |some (.int .i64)=>Zm a fun x=>Zm b fun y=>zgE fs as_ bs (acc&&x==y) K
  |some (.int k)=>zkn k a fun x=>zkn k b fun y=>zgE fs as_ bs (acc&&x==y) K
  |some .bool=>Zl a fun x=>Zl b fun y=>zgE fs as_ bs (acc&&x==y) K
  |some .string=>zcY a fun x=>zcY b fun y=>zgE fs as_ bs (acc&&x.toList==y.toList) K
  |_=>none
def zlK(t:TypeId)(op:BinOp)(x y:V)(K:V→Option R):Option R:=
 match x,y with
 | .agg as_, .agg bs=>
  gd (zvH P t)<|
  match P.underlying t with
  |some (.struct fs)=>zgE P fs.toList as_ bs true fun b=>(match op with| .eql=>K (.bool b)| .neq=>K (.bool (!b))|_=>none)
  |_=>none
 | .nili, .nili=>gd (ziC P t) (match op with| .eql=>K (.bool true)| .neq=>K (.bool false)|_=>none)
 | .ifc _ _, .nili=>gd (ziC P t) (match op with| .eql=>K (.bool false)| .neq=>K (.bool true)|_=>none)
 |x,y=>bop (ziK P t) op x y K
def zu4(t:TypeId):Bool:=(match P.underlying t with|some (.int .i64)=>true|_=>false)&&(match(P.info? t).bind (·.zero)with|some (.int .i64 0)=>true|_=>false)
def zen(t:TypeId)(x:V)(K:V→Option R):Option R:=
 gd (zu4 P t)<|
 match x with
 | .nili=>K (.tup [.int 0, .bool false])
 | .ifc u v=>bc (Nat.beq u t) (K (.tup [v, .bool true])) (K (.tup [.int 0, .bool false]))
 |_=>none
def uop(op:UnOp)(x:V)(K:V→Option R):Option R:=
 match op,x with
 | .not, .bool b=>K (.bool (!b))
 | .neg, .int n=>K (.int (IntKind.i64.wrap (0-n)))
 |_,_=>none
def zpd:V→Bool
 | .ik .u8 _=>true
 |_=>false
def zq1:V→UInt8
 | .ik .u8 n=>UInt8.ofNat n.toNat
 |_=>0
def zaw(s:ByteArray):List V:=s.data.toList.map fun b=> .ik .u8 b.toNat
def zuO(es:List V):ByteArray:=⟨(es.map zq1).toArray⟩
def conv(src dst:TypeId)(x:V)(K:V→Option R):Option R:=
 match P.underlying src,P.underlying dst,x with
 |some (.int _),some (.int .i64), .int n=>K (.int (IntKind.i64.wrap n))
 |some (.int _),some (.int .i64), .ik _ n=>K (.int (IntKind.i64.wrap n))
 |some (.int _),some (.int k), .ik _ n=>K (.ik k (k.wrap n))
 |some (.int _),some (.int k), .int n=>K (.ik k (k.wrap n))
 |some .string,some .string, .str s=>K (.str s)
 |some (.int .i32),some .string, .ik .i32 n=>K (.str (Utf8.encode n))
 |some (.slice e),some .string, .vec _ none es=>
  match P.underlying e with
  |some (.int .u8)=>gd (es.all zpd) (K (.str (zuO es)))
  |_=>none
 |some .string,some (.slice e), .str s=>
  match P.underlying e with
  |some (.int .u8)=>K (.vec .plain none (zaw s))
  |_=>none
 |_,_,_=>none
def bnd(x:V)(K:Int→Option R):Option R:=Zm x K
def zmY(t:TypeId)(sh:Sh):Bool:=match Yi P t with|some e=>Qu P sh e|none=>false
def zaa(t:TypeId):Bool:=match P.underlying t with|some .string=>true|_=>false
def zpe(t:TypeId):Bool:=match P.underlying t with|some (.interface _)=>false|some _=>true|none=>false
def zgF(t:TypeId)(x:V)(lo hi mx:Option V)(K:V→Option R):Option R:=
 match x with
 | .vec _ sh es=>
  gd (zmY P t sh)<|
  (match lo with|some v=>Zm v|none=>fun K=>K 0) fun l=>
  (match hi with|some v=>Zm v|none=>fun K=>K (es.length:Int)) fun h=>
  gd (decide (0≤l)&&decide (l≤h)&&decide (h≤(es.length:Int)))<|
  match mx with
  |some v=>Zm v fun m=>gd (decide (m=h)&&hi.isSome) (K (.vec .full sh ((es.take h.toNat).drop l.toNat)))
  |none=>K (.vec .plain sh ((es.take h.toNat).drop l.toNat))
 | .row sh r a n=>
  gd (zmY P t sh)<|
  (match lo with|some v=>Zm v|none=>fun K=>K 0) fun l=>
  (match hi with|some v=>Zm v|none=>fun K=>K (n:Int)) fun h=>
  gd (decide (0≤l)&&decide (l≤h)&&decide (h≤(n:Int))&&mx.isNone)<|
  K (.row sh r (a+l.toNat) (h.toNat-l.toNat))
 | .str s=>
  gd (zaa P t)<|
  (match lo with|some v=>Zm v|none=>fun K=>K 0) fun l=>
  (match hi with|some v=>Zm v|none=>fun K=>K (s.size:Int)) fun h=>
  gd (decide (0≤l)&&decide (l≤h)&&decide (h≤(s.size:Int))&&mx.isNone)<|
  K (.str (s.extract l.toNat h.toNat))
 |_=>none
def zqP(t:TypeId)(x:V)(K:V→Option R):Option R:=
 match x with
 | .vec _ _ es=>gd (Yi P t).isSome (K (.int es.length))
 | .row _ _ _ n=>gd (Yi P t).isSome (K (.int n))
 | .str s=>gd (zaa P t) (K (.int s.size))
 | .nils=>gd (Yi P t).isSome (K (.int 0))
 |_=>none
def roomFor(t:TypeId)(n:Nat):Bool:=decide (n*(2*((P.info? t).map (·.bytes)).getD 0)≤2^48)&&decide (0<((P.info? t).map (·.bytes)).getD 0)
def zeo(t:TypeId)(s:V)(ys:List V)(sh':Sh)(K:V→Option R):Option R:=
 match Yi P t with
 |none=>none
 |some e=>
  Xr sh' (ZZ P t s) fun es=>gd (Qu P sh' e&&decide (0<sh'.sz)&&roomFor P e (es.length+ys.length)) (K (.vec .grow sh' (es++ys)))
def ziL(st:St)(t:TypeId)(x:V)(K:Sh→List V→Option R):Option R:=
 match ZZ P t x with
 | .vec _ sh ys=>gd (zmY P t sh) (K sh ys)
 | .str s=>gd (zaa P t) (K none (zaw s))
 | .row sh r lo n=>
  gd (zmY P t sh)<|
  Zw st r fun x=>za0 x fun sh' es=>gd (decide (sh=sh')&&decide (lo+n≤es.length)) (K sh ((es.drop lo).take n))
 |_=>none
def XA(t:TypeId):List (Nat×V)→List V→Option (List V)
 |[],cs=>some cs
 |(i,x)::rest,cs=>
  match P.underlying t with
  |some (.struct fs)=>
   match fs[i]? with
   |some f=>
    let v:=plainS P f.type x
    bif (okTy P f.type&&Zy (shOf P f.type) v&&decide (f.offset+(shOf P f.type).sz≤cs.length))then(XA t rest (setCells cs f.offset (cellsOf v)))else none
   |none=>none
  |some (.array _ e)=>
   let v:=plainS P e x
   bif (okTy P e&&Zy (shOf P e) v&&decide (i*(shOf P e).sz+(shOf P e).sz≤cs.length))then(XA t rest (setCells cs (i*(shOf P e).sz) (cellsOf v)))else none
  |_=>none
def X6:List (Nat×V)→St→(List (Nat×V)→St→Option R)→Option R
 |[],st,K=>K [] st
 |(i, .row sh q lo n)::rest,st,K=>
  Zw st q fun x=>za0 x fun sh' es=>gd (decide (sh'=sh)&&decide (lo+n≤es.length)) (X6 rest (st.set q .dead) fun ps st=>K ((i, .vec .plain sh ((es.drop lo).take n))::ps) st)
 |(i,v)::rest,st,K=>X6 rest st fun ps st=>K ((i,v)::ps) st
def zu5(e:TypeId):Bool:=match P.underlying e with|some (.int .u8)=>false|_=>true
def zfB:List V→St→(List V→St→Option R)→Option R
 |[],st,K=>K [] st
 | .row sh q lo n::rest,st,K=>
  Zw st q fun x=>za0 x fun sh' es=>gd (decide (sh'=sh)&&decide (lo+n≤es.length)) (zfB rest (st.set q .dead) fun cs st=>K (.vec .plain sh ((es.drop lo).take n)::cs) st)
 |v::rest,st,K=>zfB rest st fun cs st=>K (v::cs) st
def YT(e:TypeId)(rdp:Operand→V):List (Nat×Operand)→List V→Option (List V)
 |[],es=>some es
 |(i,x)::rest,es=>
  let v:=plainAs P e (rdp x)
  bif (okTy P e&&Zy (shOf P e) v&&decide (i<es.length))then(YT e rdp rest (es.set i v))else none
end ops
def zaV(d:Option Nat)(b:Nat):Bool:=match d with|some t=> !Nat.beq t b|none=>true
def ziM(x:Operand)(b:Nat):Bool:=match x with| .tmp y=> !Nat.beq y b|_=>true
def Z1:Op→List Operand
 | .load .. | .fieldAddr .. | .nilCheck .. => []
 | .store _ _ x=> [x]
 | .indexAddr _ _ i=> [i]
 |op=>op.operands.toList
def ziN:List V→Nat→Option (Nat×Sh×List V×Nat)
 |[],_=>none
 | .spr sh es r::_,j=>some (j,sh,es,r)
 |_::cs,j=>ziN cs (j+1)
def zuP:V→Bool
 | .agg cs=>(ziN cs 0).isSome
 |_=>false
def zax(o:Oper)(ρ:Env):SK:=
 match o.op with
 | .load _ a=>match ev ρ a with| .ref .. =>(if cfg.take fid rid idx then .write else .read)| .rel .. => .read|_=>(if cfg.take fid rid (idx+2000)then .write else .none)
 | .store _ a x=>match ev ρ a with| .ref .. => .write| .rel .. => .write|_=>(if cfg.take fid rid idx&&zuP (ev ρ x)then .write else .none)
 | .alloc _| .box _ _| .makeSlice _ _ _| .buildSlice _ _ _=>match o.dst with|some d=>if cfg.res fid d then .write else .none|none=> .none
 | .range .. | .next .. | .makeMap .. | .mapUpdate .. => .write
 | .lookup .. => .read
 | .move (.tmp t)=>if cfg.take fid rid idx then(match ρ.get t with| .row .. => .write|_=> .none)else .none
 | .build _ ps=>if cfg.take fid rid (idx+1000)then .none else if ps.toList.any (fun p=>match ev ρ p.2 with| .row .. =>true|_=>false)then .write else .none
 | .call c=>
  match c.callee with
  | .builtin .append=>match o.dst with|some d=>(if cfg.res fid d then .write else .read)|none=> .none
  | .builtin .copy=> .write
  | .builtin .len=> .read
  | .builtin _=> .none
  |_=> .write
 |_=> .none
section run
variable{R:Type}
def Jf(o:Oper)(ρ:Env)(K:List (Nat×V)→Option R):Option R:=
 let tk:=cfg.take fid rid idx
 let r:=rd ρ tk
 let us:=upds ρ tk (Z1 o.op)
 let fin (v:V):Option R:=K (us++ZL o.dst v)
 let fin' (u:List (Nat×V)) (v:V):Option R:=K (u++ZL o.dst v)
 match o.op with
 | .move x| .assign x=>fin (bif tk&&isConst x then plainAs P o.type (r x)else ZZ P o.type (r x))
 | .pick c a b=>match r c with| .bool b'=>bc b' (fin (r a)) (fin (r b))|_=>none
 | .alloc e=>gd (okTy P e&&(Zy (shOf P e) (XU P e)||ziB P e)) (fin (.loc true (shOf P e) (XU P e)))
 | .box e x=>let v:=plainAs P e (r x);gd (okTy P e&&Zy (shOf P e) v) (fin (.loc false (shOf P e) v))
 | .build t ps=>
  match XA P t (ps.toList.map fun p=>(p.1,r p.2)) (zeroCells P t)with
  |some cs=>gd (okTy P t&&zbZ P t&&Zy (shOf P t) (.agg cs)&&(shOf P t).isSome) (fin (bif tk then .agg cs else Zs (.agg cs)))
  |none=>none
 | .buildSlice t n ps=>
  match Yi P t with
  |some e=>
   match YT P e r ps.toList (List.replicate n (zeroV P e))with
   |some es=>gd (okTy P e&&Zy (shOf P e) (zeroV P e)&&decide (n*(shOf P e).sz≤2^24)) (fin (.vec .full (shOf P e) es))
   |none=>none
  |none=>none
 | .load t a=>
  match ev ρ a with
  | .cptr sh v=>gd (Qu P sh t) (zcy P t v fun v=>fin v)
  | .loc d sh v=>gd (Qu P sh t) (fin (bif d then Zs v else v))
  | .lptr b off=>
   match ρ.get b with
   | .loc d sh (.agg cs)=>
    gd (decide (off+(shOf P t).sz≤cs.length)&&okTy P t)<|
    let v:=partOf cs off (shOf P t)
    bc (tk&&isGrow v&&(shOf P t).isNone) (fin' [(b, .loc true sh (.agg (cs.set off (plain1 v))))] v)
     (zek P t (bif d&& !(tk&&(shOf P t).isNone)then Zs v else v) fun v=>fin v)
   | .cptr _ (.agg cs)=>gd (decide (off+(shOf P t).sz≤cs.length)&&okTy P t) (fin (partOf cs off (shOf P t)))
   |_=>none
  |_=>none
 | .store t a x=>
  let v:=ZZ P t (r x)
  let g:=tk&&isGrow v
  let v:=bif g then v else plain1 v
  gd (okTy P t&&Zy (shOf P t) v&&o.dst.isNone)<|
  match a,ev ρ a with
  | .tmp b, .loc _ sh _=>gd (Qu P sh t&&ziM x b) (K (us++[(b, .loc tk sh v)]))
  |_, .lptr b off=>
   match ρ.get b with
   | .loc d sh (.agg cs)=>gd (decide (off+(shOf P t).sz≤cs.length)&&okTy P t&&ziM x b) (K (us++[(b, .loc (d||g) sh (.agg (setCells cs off (cellsOf v))))]))
   |_=>none
  |_,_=>none
 | .fieldAddr s x f=>
  match Qp P s f with
  |none=>none
  |some (off,ft)=>
   gd (okTy P ft&&decide (0<(shOf P ft).sz))<|
   match x,ev ρ x with
   |_, .cptr sh v=>gd (Qu P sh s) (Xc v fun cs=>gd (decide (off+(shOf P ft).sz≤cs.length)) (fin (.cptr (shOf P ft) (partOf cs off (shOf P ft)))))
   | .tmp b, .loc _ _ _=>gd (zaV o.dst b) (fin (.lptr b off))
   |_, .lptr b o'=>gd (zaV o.dst b) (fin (.lptr b (o'+off)))
   |_, .ref r' o'=>fin (.ref r' (o'+off))
   |_, .rel sh r' j o'=>fin (.rel sh r' j (o'+off))
   |_,_=>none
 | .indexAddr t x i=>
  match ev ρ x with
  | .vec _ sh es=>
   match Yi P t with
   |some e=>gd (Qu P sh e) (Zm (r i) fun i=>gd (decide (0≤i)&&decide (i<(es.length:Int))) (fin (.cptr sh (ZP es i))))
   |none=>none
  | .row sh r' a n=>
   match Yi P t with
   |some e=>gd (Qu P sh e) (Zm (r i) fun i=>gd (decide (0≤i)&&decide (i<(n:Int))) (fin (.rel sh r' (a+i.toNat) 0)))
   |none=>none
  | .loc _ _ _=>
   match x with
   | .tmp b=>
    match zlI P t with
    |some (k,e)=>gd (okTy P e&& !tk&&zaV o.dst b) (Zm (r i) fun i=>gd (decide (0≤i)&&decide (i<(k:Int))) (fin (.lptr b (i.toNat*(shOf P e).sz))))
    |none=>none
   |_=>none
  |_=>none
 | .field s x f=>
  match Qp P s f with
  |none=>none
  |some (off,ft)=>Xc (r x) fun cs=>gd (decide (off+(shOf P ft).sz≤cs.length)&&okTy P ft) (fin (partOf cs off (shOf P ft)))
 | .index t x i=>
  match P.underlying t,r x with
  |some .string, .str s=>Zm (r i) fun i=>gd (decide (0≤i)&&decide (i<(s.size:Int))) (fin (.ik .u8 ((s.data.toList.getD i.toNat 0).toNat:Int)))
  |_,_=>none
 | .extract x i=>ZM (r x) fun vs=>gd (decide (i<vs.length)) (fin (vs.getD i .undef))
 | .binOp op t x y _=>zlK P t op (r x) (r y) fin
 | .unOp op _ x=>uop op (r x) fin
 | .convert s d x=>conv P s d (r x) fin
 | .makeFunc f first cap=>
  match f with
  | .func g=>fin (.fn g (first.toList.map fun x=>plain1 (r x)) (cap.toList.map fun x=>plain1 (r x)))
  |_=>none
 | .makeSlice t l c=>
  match Yi P t with
  |some e=>Zm (r l) fun l=>Zm (r c) fun c=>gd (decide (0≤l)&&decide (l=c)&&roomFor P e c.toNat&&okTy P e&&Zy (shOf P e) (zeroV P e)) (fin (.vec .full (shOf P e) (List.replicate l.toNat (zeroV P e))))
  |none=>none
 | .slice t x lo hi mx=>zgF P t (r x) (lo.map r) (hi.map r) (mx.map r) fin
 | .nilCheck x=>match ev ρ x with| .ref r' o'=>fin (.ref r' o')| .rel sh r' j o'=>fin (.rel sh r' j o')| .fn f a b=>fin (.fn f a b)| .lptr b o'=>gd (zaV o.dst b) (fin (.lptr b o'))| .cptr sh v=>fin (.cptr sh v)|_=>none
 | .makeInterface t x=>gd (zpe P t) (fin (.ifc t (plain1 (r x))))
 | .typeAssert x _ t c=>bc c (zen P t (r x) fin) none
 |_=>none
def Jx(o:Oper)(ρ:Env)(st:St)(K:List (Nat×V)→Option R):Option R:=
 let tk:=cfg.take fid rid idx
 let r:=rd ρ tk
 let us:=upds ρ tk (Z1 o.op)
 let fin (v:V):Option R:=K (us++ZL o.dst v)
 match o.op with
 | .load t a=>
  match ev ρ a with
  | .ref q off=>
   Zw st q fun x=>ZE x fun cs=>gd (decide (off+(shOf P t).sz≤cs.length)&&okTy P t) (zem P (cfg.take fid rid (idx+1000)) t (Zs (partOf cs off (shOf P t))) fun v=>fin v)
  | .rel shp q i off=>
   Zw st q fun x=>za0 x fun sh es=>
    gd (decide (sh=shp)&&decide (i<es.length))<|
    if off=0∧Qu P shp t=true then QD P t (es.getD i .undef) fun v=>fin v
    else match shp with
     |some m=>Xc (es.getD i .undef) fun cs=>gd (decide (off+(shOf P t).sz≤m)&&okTy P t) (QD P t (partOf cs off (shOf P t)) fun v=>fin v)
     |none=>none
  |_=>none
 | .lookup t m k false=>
  match zfa P t with
  |some (ck,cv)=>zkm (r m) fun q=>Zw st q fun x=>zhC x fun ck' cv' es=>gd (decide (ck'=ck)&&decide (cv'=cv)) (Yl ck (r k) fun kv=>Yl cv (JZ es kv (zpc cv)) fun v=>fin v)
  |none=>none
 | .call c=>
  match c.callee with
  | .builtin .append=>
   match c.args.toList,c.argTypes.toList with
   |[s,x],[t,t']=>gd o.dst.isSome (ziL P st t' (r x) fun sh ys=>zeo P t (r s) ys sh fin)
   |_,_=>none
  | .builtin .len=>
   match c.args.toList,c.argTypes.toList with
   |[x],[t]=>zqP P t (r x) fin
   |_,_=>none
  |_=>none
 |_=>none
def zab(o:Oper)(ρ:Env)(st:St)(K:List (Nat×V)→St→Option R):Option R:=
 let tk:=cfg.take fid rid idx
 let r:=rd ρ tk
 let us:=upds ρ tk (Z1 o.op)
 let fin (v:V) (st:St):Option R:=K (us++ZL o.dst v) st
 match o.op with
 | .load t a=>
  match ev ρ a with
  | .ref q off=>
   Zw st q fun x=>ZE x fun cs=>
    gd (decide (off<cs.length)&&decide (shOf P t=none)&&okTy P t)<|
    match Yi P t with
    |none=>none
    |some e=>za4 (shOf P e) (cs.getD off .undef) (fun es=>fin (.vec .grow (shOf P e) es) (st.set q (.box (cs.set off (.vec .plain (shOf P e) es)))))
      (fun es=>fin (.vec .full (shOf P e) es) (st.set q (.box (cs.set off (.vec .plain (shOf P e) es)))))
  | .loc d sh (.agg cs)=>
   match a with
   | .tmp b=>gd (Qu P sh t) (zfB cs st fun cs st=>K ((b, .loc d sh (.agg cs))::ZL o.dst (bif d then Zs (.agg cs)else .agg cs)) st)
   |_=>none
  | .lptr b off=>
   match ρ.get b with
   | .loc d sh (.agg cs)=>zfB cs st fun cs st=>gd (decide (off+(shOf P t).sz≤cs.length)&&okTy P t) (K ((b, .loc d sh (.agg cs))::ZL o.dst (bif d then Zs (partOf cs off (shOf P t))else partOf cs off (shOf P t))) st)
   |_=>none
  |_=>none
 | .store t a x=>
  let v:=ZZ P t (r x)
  let v:=bif tk&&zav v then v else plain1 v
  gd (okTy P t&&Zy (shOf P t) v&&o.dst.isNone)<|
  match ev ρ a with
  | .loc _ sh _=>
   match a,v with
   | .tmp b, .agg cs=>
    match tk,ziN cs 0 with
    |true,some (j,sh1,es,q)=>
     gd (Qu P sh t&&ziM x b)<|
     Zw st q fun y=>zei y fun sh2 n g=>gd (decide (sh2=sh1)&&decide (n=es.length)&&Nat.beq g (q+1)) (K (us++[(b, .loc true sh (.agg (cs.set j (.vec .grow sh1 es))))]) (st.set q .dead))
    |_,_=>none
   |_,_=>none
  | .ref q off=>
   Zw st q fun x=>ZE x fun cs=>gd (decide (off+(shOf P t).sz≤cs.length)&&okTy P t) (K us (st.set q (.box (setCells cs off (cellsOf v)))))
  | .rel shp q i off=>
   Zw st q fun x=>za0 x fun sh es=>
    gd (decide (sh=shp)&& !isGrow v&&decide (i<es.length))<|
    if off=0∧Qu P shp t=true then K us (st.set q (.row shp (es.set i v)))
    else match shp with
     |some m=>Xc (es.getD i .undef) fun cs=>gd (decide (off+(shOf P t).sz≤m)&&okTy P t) (K us (st.set q (.row shp (es.set i (.agg (setCells cs off (cellsOf v)))))))
     |none=>none
  |_=>none
 | .alloc e=>gd (okTy P e&&Zy (shOf P e) (XU P e)) (fin (.ref st.length 0) (st++[.box (cellsOf (XU P e))]))
 | .box e x=>
  let v:=ZZ P e (r x)
  let v:=bif tk&&zav v then v else plain1 v
  gd (okTy P e&&Zy (shOf P e) v) (fin (.ref st.length 0) (st++[.box (cellsOf v)]))
 | .makeSlice t l c=>
  match Yi P t with
  |some e=>Zm (r l) fun l=>Zm (r c) fun c=>gd (decide (0≤l)&&decide (l=c)&&roomFor P e c.toNat&&okTy P e&&Zy (shOf P e) (zeroV P e)) (fin (.row (shOf P e) st.length 0 l.toNat) (st++[.row (shOf P e) (List.replicate l.toNat (zeroV P e))]))
  |none=>none
 | .buildSlice t n ps=>
  match Yi P t with
  |some e=>
   match YT P e r ps.toList (List.replicate n (zeroV P e))with
   |some es=>gd (okTy P e&&Zy (shOf P e) (zeroV P e)&&decide (n*(shOf P e).sz≤2^24)&&zu5 P e) (fin (.row (shOf P e) st.length 0 n) (st++[.row (shOf P e) es]))
   |none=>none
  |none=>none
 | .build t ps=>
  X6 (ps.toList.map fun p=>(p.1,r p.2)) st fun ps st=>
   match XA P t ps (zeroCells P t)with
   |some cs=>gd (okTy P t&&zbZ P t&&Zy (shOf P t) (.agg cs)&&(shOf P t).isSome) (fin (bif tk then .agg cs else Zs (.agg cs)) st)
   |none=>none
 | .move (.tmp t)=>
  match ρ.get t with
  | .row sh q lo n=>
   Zw st q fun y=>za0 y fun sh' es=>
    gd (decide (sh'=sh)&&decide (lo+n≤es.length)) (K ([(t, .vec .plain sh ((es.drop lo).take n))]++ZL o.dst (.vec .plain sh ((es.drop lo).take n))) (st.set q .dead))
  |_=>none
 | .makeMap t none=>
  match zfa P t with
  |some (ck,cv)=>fin (.mp st.length) (st++[.map ck cv []])
  |none=>none
 | .mapUpdate t m k x=>
  match zfa P t with
  |some (ck,cv)=>zkm (r m) fun q=>Zw st q fun y=>zhC y fun ck' cv' es=>gd (decide (ck'=ck)&&decide (cv'=cv)&&o.dst.isNone) (Yl ck (r k) fun kv=>Yl cv (r x) fun xv=>K us (st.set q (.map ck cv (QQ es kv xv))))
  |none=>none
 | .range t x=>zcY (r x) fun s=>gd (zaa P t) (fin (.ref st.length 0) (st++[.iter s 0]))
 | .next it true=>
  match ev ρ it with
  | .ref q off=>
   Zw st q fun x=>zgC x fun s pos=>
    gd (Nat.beq off 0) (bc (decide (pos<s.size)) (fin (.tup [.bool true, .int pos, .ik .i32 (Utf8.decode s pos).1]) (st.set q (.iter s (pos+(Utf8.decode s pos).2)))) (fin (.tup [.bool false]) st))
  |_=>none
 | .call c=>
  match c.callee with
  | .builtin .append=>
   match c.args.toList,c.argTypes.toList with
   |[s,x],[t,t']=>
    match Yi P t,ZZ P t (r s)with
    |some e, .vec .full sh []=>
     ziL P st t' (r x) fun sh' ys=>gd (Qu P sh e&&decide (sh'=sh)&&decide (0<sh.sz)&&roomFor P e ys.length) (fin (.row sh st.length 0 ys.length) (st++[.row sh ys]))
    |_,_=>none
   |_,_=>none
  | .builtin .copy=>
   match c.args.toList,c.argTypes.toList with
   |[d,x],[t,t']=>
    match r d with
    | .row sh q lo n=>
     gd (zmY P t sh)<|
     ziL P st t' (r x) fun sh' ys=>
      Zw st q fun x=>za0 x fun sh'' es=>
       gd (decide (sh'=sh)&&decide (sh''=sh)&&decide (lo+n≤es.length)) (fin (.int ((min ys.length n:Nat):Int)) (st.set q (.row sh (es.take lo++ys.take (min ys.length n)++es.drop (lo+min ys.length n)))))
    |_=>none
   |_,_=>none
  |_=>none
 |_=>none
def JE(o:Oper)(ρ:Env)(K:List (Nat×V)→Option R):Option R:=
 match o.op with
 | .call c=>
  match c.callee,c.args.toList with
  | .builtin .max,[x,y]=>match ev ρ x,ev ρ y with| .int a, .int b=>K (ZL o.dst (.int (if b>a then b else a)))|_,_=>none
  | .builtin .min,[x,y]=>match ev ρ x,ev ρ y with| .int a, .int b=>K (ZL o.dst (.int (if b<a then b else a)))|_,_=>none
  |_,_=>none
 |_=>none
end run
end
end Go.AM
namespace Go.AM
open Go
def zbG:Code→Option Nat
 | .region id _ _=>some id
 | .seq a b=>match zbG a with|some k=>some k|none=>zbG b
 | .cond _ a b=>match zbG a with|some k=>some k|none=>zbG b
 | .block _ b=>zbG b
 | .loop b=>zbG b
 | .rangeFunc _ _ a b=>match zbG a with|some k=>some k|none=>zbG b
 | .scope b=>zbG b
 |_=>none
def keyOf(c:Code):Nat:=(zbG c).getD 0
def Y1{α:Type}(a b:Option α):Option α:=match a with|some x=>some x|none=>b
def Y3(k:Nat):Code→Option Code
 | .seq a b=>Y1 (Y3 k a) (Y3 k b)
 | .cond _ a b=>Y1 (Y3 k a) (Y3 k b)
 | .block _ b=>Y3 k b
 | .loop b=>bif Nat.beq (keyOf b) k then some b else Y3 k b
 | .rangeFunc _ _ a b=>Y1 (Y3 k a) (Y3 k b)
 | .scope b=>Y3 k b
 |_=>none
def Ya(k:Nat):Code→Option (Array Tmp×Code×Code)
 | .seq a b=>Y1 (Ya k a) (Ya k b)
 | .cond _ a b=>Y1 (Ya k a) (Ya k b)
 | .block _ b=>Ya k b
 | .loop b=>Ya k b
 | .rangeFunc _ ps a b=>bif Nat.beq (keyOf b) k then some (ps,a,b)else Y1 (Ya k a) (Ya k b)
 | .scope b=>Ya k b
 |_=>none
def Z9:Code→Bool
 | .seq a b=>Z9 a&&Z9 b
 | .cond _ a b=>Z9 a&&Z9 b
 | .block _ b=>Z9 b
 | .loop b=>Z9 b
 | .rangeFunc _ _ a b=>Z9 a&&Z9 b
 | .scope _=>false
 |_=>true
def Yr(l:Nat):Code→Option Code
 | .seq a b=>Y1 (Yr l a) (Yr l b)
 | .cond _ a b=>Y1 (Yr l a) (Yr l b)
 | .block _ b=>Yr l b
 | .loop b=>Yr l b
 | .rangeFunc _ _ a b=>Y1 (Yr l a) (Yr l b)
 | .scope b=>bif Z9 b&&(findLabel b l).isSome then some b else Yr l b
 |_=>none
def Yu:Code→List Nat
 | .seq a b=>Yu a++Yu b
 | .cond _ a b=>Yu a++Yu b
 | .block _ b=>Yu b
 | .loop b=>keyOf b::Yu b
 | .rangeFunc _ _ a b=>Yu a++Yu b
 | .scope b=>Yu b
 |_=> []
def ZC:Code→List Nat
 | .seq a b=>ZC a++ZC b
 | .cond _ a b=>ZC a++ZC b
 | .block _ b=>ZC b
 | .loop b=>ZC b
 | .rangeFunc _ _ a b=>keyOf b::(ZC a++ZC b)
 | .scope b=>ZC b
 |_=> []
def YU:Code→List Nat
 | .seq a b=>YU a++YU b
 | .label l=> [l]
 |_=> []
def ZN:Code→List Nat
 | .seq a b=>ZN a++ZN b
 | .cond _ a b=>ZN a++ZN b
 | .block _ b=>ZN b
 | .loop b=>ZN b
 | .rangeFunc _ _ a b=>ZN a++ZN b
 | .scope b=>bif Z9 b then YU b else ZN b
 |_=> []
def ZI(n:Nat):Code→Bool
 | .region _ ops _=>ops.toList.all fun o=>match o.dst with|some d=>Nat.blt d n|none=>true
 | .seq a b=>ZI n a&&ZI n b
 | .cond _ a b=>ZI n a&&ZI n b
 | .block _ b=>ZI n b
 | .loop b=>ZI n b
 | .rangeFunc _ ps a b=>(ps.toList.all fun d=>Nat.blt d n)&&ZI n a&&ZI n b
 | .scope b=>ZI n b
 |_=>true
def zcz:List Nat→Bool
 |[]=>true
 |x::xs=> !memB x xs&&zcz xs
where memB (x:Nat):List Nat→Bool
 |[]=>false
 |y::ys=>Nat.beq x y||memB x ys
def YG:Nat:=1000000
def Yf:Code→Bool
 | .seq a b=>Yf a&&Yf b
 | .cond _ a b=>Yf a&&Yf b
 | .block _ b=>Yf b
 | .loop b=>Yf b
 | .rangeFunc _ _ a b=>Yf a&&Yf b&&(ZC a).isEmpty&&(ZC b).isEmpty&&(Z9 a&&Z9 b)
 | .scope b=>Yf b
 | .refuse _=>false
 |_=>true
def zdq(n:Nat)(c:Code):Bool:=ZI n c&&zcz (Yu c)&&zcz (ZC c)&&zcz (ZN c)&&((Yu c).all fun k=>Nat.blt k YG)&&Yf c
def XY:Code→List Nat
 | .seq a b=>XY a++(XY b).filter fun i=> !(XY a).contains i
 | .cond _ a b=>XY a++(XY b).filter fun i=> !(XY a).contains i
 | .block id b=>(XY b).filter fun i=>i !=id
 | .loop b=>XY b
 | .rangeFunc _ _ _ b=>XY b
 | .scope b=>XY b
 | .exit id=> [id]
 |_=> []
def Y7(ops:List Oper):List Nat:=
 ops.foldl (init:=[]) fun acc o=>
  acc++[o.after.toList.foldl (fun s e=>if Region.binds .any e then s|||(2^e.on|||acc.getD e.on 0)else s) 0]
structure Foot where
 idx:Nat
 reads:List Nat
 writes:List Nat
 sk:SK
 mv:Option (Nat×Nat×Nat×Nat):=none
 fa:Option (Nat×Nat×Nat):=none
def zuQ(a b:List Nat):Bool:=a.all fun x=> !b.contains x
def XL(a b:Foot):Bool:=
 zuQ a.writes (b.reads++b.writes)&&zuQ b.writes a.reads&&
  (match a.sk,b.sk with| .write, .none=>true| .none,_=>true| .read, .write=>false| .read,_=>true| .write,_=>false)
def zfC(a b:Foot):Bool:=
 match a.mv,a.fa,b.mv,b.fa with
 |some (v,o1,d1,x1),_,some (v',o2,d2,x2),_=>Nat.beq v v'&& !Nat.beq o1 o2&& !Nat.beq d1 d2&& !Nat.beq d1 v&& !Nat.beq d2 v&& !Nat.beq d1 x2&& !Nat.beq d2 x1&& !Nat.beq x1 v&& !Nat.beq x2 v
 |some (v,_,d1,x1),_,_,some (v',d2,x2)=>Nat.beq v v'&& !Nat.beq d1 d2&& !Nat.beq d1 v&& !Nat.beq d2 v&& !Nat.beq d1 x2&& !Nat.beq d2 x1&& !Nat.beq x1 v
 |_,some (v',d2,x2),some (v,_,d1,x1),_=>Nat.beq v v'&& !Nat.beq d1 d2&& !Nat.beq d1 v&& !Nat.beq d2 v&& !Nat.beq d1 x2&& !Nat.beq d2 x1&& !Nat.beq x1 v
 |_,_,_,_=>false
def zgG(pr:List Nat)(a b:Foot):Bool:=Nat.testBit (pr.getD b.idx 0) a.idx||(XL a b||zfC a b)
def zc0(pr:List Nat):List Foot→Bool
 |[]=>true
 |f::fs=>fs.all (fun g=>zgG pr g f)&&zc0 pr fs
def QE:Nat→List Oper→Bool
 |_,[]=>true
 |i,o::os=>o.after.toList.all (fun e=> !Region.binds .any e||Nat.blt e.on i)&&QE (i+1) os
def tmpsOf(xs:List Operand):List Nat:=xs.filterMap fun| .tmp t=>some t|_=>none
def zhD(ρ:Env)(xs:List Operand):List Nat:=xs.filterMap fun x=>match ev ρ x with| .lptr b _=>some b|_=>none
section
variable(P:Program)(cfg:Cfg)(O:Oracle)(fid:Nat)
def Env.apply(ρ:Env):List (Nat×V)→Env
 |[]=>ρ
 |(t,v)::us=>Env.apply (ρ.set t v) us
def Jk:List Nat→List V→Env
 |t::ts,v::vs=>(t,v)::Jk ts vs
 |_,_=> []
def Jl:Nat→List V→Env
 |_,[]=> []
 |i,v::vs=>(i,v)::Jl (i+1) vs
def Ja(vs:List V):Env:=Jl 0 vs
section ZD
variable{R:Type}
mutual
def ZD(k:Kd)(v:V)(K:V→Option R):Option R:=
 match k with
 | .ty t=>QD P t v K
 | .ct c=>Yl c v K
 | .loc t=>Y0 (shOf P t) v fun d v=>QD P t (bif d then Zs v else v) fun v=>K (.loc false (shOf P t) v)
 | .locA sh=>Y0 sh v fun _ v=>K (.loc true sh v)
 | .dloc sh ks=>Y0 sh v fun _ v=>Xc v fun cs=>Jy ks cs fun cs=>K (.loc true sh (.agg cs))
 | .row sh=>Qo sh v fun r lo n=>K (.row sh r lo n)
 | .grow sh=>gd (Nat.blt 0 sh.sz) (Xr sh v fun es=>K (.vec .grow sh es))
 | .full sh=>zdp sh v fun es=>K (.vec .full sh es)
 | .ref=>zf7 v fun q=>K (.ref q 0)
 | .cref=>zdo v fun q=>K (.cptr none (.ref q 0))
 | .mp=>zkm v fun q=>K (.mp q)
 | .any=>K v
def Jy(ks:List Kd)(vs:List V)(K:List V→Option R):Option R:=
 match ks with
 |[]=>Zn vs (K [])
 |k::ks=>Zd vs fun v vs=>ZD k v fun v=>Jy ks vs fun vs=>K (v::vs)
end
def Yg:List (Nat×Kd)→List V→(Env→Option R)→Option R
 |[],vs,K=>Zn vs (K ([]:List (Nat×V)))
 |(t,k)::outs,vs,K=>Zd vs fun v vs=>ZD P k v fun v=>Yg outs vs fun ρ=>K (ρ.set t v)
def Yh:List (Nat×Kd)→Env→(List V→Option R)→Option R
 |[],_,K=>K []
 |(t,k)::l,ρ,K=>ZD P k (ρ.get t) fun v=>Yh l ρ fun vs=>K (v::vs)
end ZD
def XZ{R:Type}(s:LSt)(p:Option Ex)(n r:Option R)(x:Nat→Option R):Option R:=
 match s,p with
 | .ready,none=>n
 | .done,some .ret=>r
 | .done,some (.exit i)=>x i
 |_,_=>none
def Zj(g:Nat)(args:List V):Option V:=
 gd (Zk 0 args) (Za (O.call g args []) fun x=>Zx x.1 (fun v=>gd (below 0 v) (some v)) fun _=>none)
def zdr(fv:V)(args:List V)(st:St):Option (Out×St):=
 match fv with
 | .fn g first cap=>
  bc (cfg.pure g) (Za (Zj O g (first++args++cap)) fun v=>some (.ret v,st)) (O.call g (first++args++cap) st)
 | .yld l=>
  Zw st l fun x=>ZX x fun f key vals s p=>
   match s,p with
   | .ready,none=>Za (O.round l f key vals args st) fun x=>some (.ret (.bool x.1),x.2)
   |_,_=>none
 |_=>none
def zsp{R:Type}(fv:V)(args:List V)(st:St)(K:Out×St→Option R):Option R:=
 za1 fv (fun g first cap=>bc (cfg.pure g) (Za (Zj O g (first++args++cap)) fun v=>K (.ret v,st)) (Za (O.call g (first++args++cap) st) K)) fun l=>
  Zw st l fun x=>ZX x fun f key vals s p=>XZ s p (Za (O.round l f key vals args st) fun x=>K (.ret (.bool x.1),x.2)) none fun _=>none
section exec
variable{R:Type}
def Qh(i:Nat)(F:Nat→Option R):List Nat→Option R
 |[]=>none
 |j::js=>bc (Nat.beq i j) (F j) (Qh i F js)
def JF:Code→Bool
 | .seq a b=>JF a||JF b
 | .cond _ a b=>JF a||JF b
 | .block _ b=>JF b
 | .loop b=>JF b
 | .rangeFunc _ _ _ b=>JF b
 | .scope b=>JF b
 | .ret=>true
 |_=>false
def behind(key:Nat)(nrm rt:Bool)(ids:List Nat)(x:Ex×List V×St)(K:Ex→Env→St→Option R):Option R:=
 Xk x.1 (bc nrm (Yg P (cfg.outs fid key) x.2.1 fun ρ=>K .normal ρ x.2.2) none) (bc rt (Yg P (cfg.rets fid key) x.2.1 fun ρ=>K .ret ρ x.2.2) none)
  (fun i=>Qh i (fun j=>Yg P (cfg.outs fid key) x.2.1 fun ρ=>K (.exit j) ρ x.2.2) ids) (fun v=>bc (cfg.pan fid) (K (.panic v) ([]:List (Nat×V)) x.2.2) none)
def isExtern(g:Nat):Bool:=match P.funcs[g]? with|some fn=>fn.body.isNone|none=>false
def zlL(g:Nat)(args:List V):Option V:=
 match P.funcs[g]? with
 |some fn=>
  gd (fn.body.isNone&&(Extern.findNext fn).isNone&&fn.name== "internal/bytealg.IndexByteString")
   (match args with|[.str s, .ik .u8 c]=>some (.int (firstIdx s c.toNat.toUInt8))|_=>none)
 |none=>none
def zmZ(g:Nat):Bool:=match P.funcs[g]? with|some fn=>fn.name== "slices.Clone[[]amanuensis/api.Term,amanuensis/api.Term]" |none=>false
def ztB(s:String):Bool:=s== "slices.Grow[[]amanuensis/api.Term,amanuensis/api.Term]" ||s== "slices.Grow[[]amanuensis/api.MetaDecl,amanuensis/api.MetaDecl]"
def growElem(g:Nat):Option TypeId:=match P.funcs[g]? with|some fn=>(bif ztB fn.name then(fn.params[0]?).bind (Yi P)else none)|none=>none
def zcb(g:Nat)(c:Call):Option (TypeId×Operand):=
 match c.args.toList with
 |[.const (.slice none 0 0),x]=>(growElem P g).map fun e=>(e,x)
 |_=>none
def Qa(rid idx:Nat)(o:Oper)(c:Call)(f:Operand)(ρ:Env)(st:St)(K:List (Nat×V)→St→Option R)(Kx:V→St→Option R):Option R:=
 let tk:=cfg.take fid rid idx
 let r:=rd ρ tk
 let us:=upds ρ tk (f::c.args.toList)
 let args:=List.zipWith (fun x t=>plainAs P t (r x)) c.args.toList c.argTypes.toList
 let fin (v:V) (st:St):Option R:=zel P (cfg.take fid rid (idx+1000)) o.type v fun v=>K (us++ZL o.dst v) st
 let finR (g:Nat) (v:V) (st:St):Option R:=
  bc (cfg.room g) (bc tk (zcx P (zmZ P g) o.type v fun v=>K (us++ZL o.dst v) st) (coerce P o.type (Zs v) fun v=>K (us++ZL o.dst v) st)) (fin v st)
 gd (decide (c.args.size=c.argTypes.size))<|
 match f with
 | .func g=>
  match zcb P g c with
  |some (e,x)=>Zm (r x) fun k=>gd (decide (0≤k)&&roomFor P e k.toNat&&okTy P e&&decide (0<(shOf P e).sz)&&o.dst.isSome) (K (us++ZL o.dst (.vec .grow (shOf P e) [])) st)
  |none=>
  bc (isExtern P g) (Za (zlL P g args) fun v=>fin v st)<|bc (cfg.pure g) (Za (Zj O g args) fun v=>finR g v st) (Za (O.call g args st) fun x=>Zx x.1 (fun v=>finR g v x.2) fun p=>bc (cfg.pan fid) (Kx p x.2) none)
 |_=>zsp cfg O (r f) args st fun x=>Zx x.1 (fun v=>fin v x.2) fun p=>bc (cfg.pan fid) (Kx p x.2) none
def zfD(rid idx:Nat)(o:Oper)(ρ:Env):SK:=
 match o.op with
 | .call c=>
  match c.callee with
  | .value (.func g)=>if cfg.pure g then .none else .write
  |_=>zax cfg fid rid idx o ρ
 |_=>zax cfg fid rid idx o ρ
def XB(rid idx:Nat)(o:Oper)(ρ:Env)(st:St)(K:List (Nat×V)→St→Option R)(Kx:V→St→Option R):Option R:=
 match o.op with
 | .panic x=>match rd ρ false x with| .ifc t v=>Kx (.ifc t v) st|_=>none
 | .call {callee:= .value f,args,argTypes}=>Qa P cfg O fid rid idx o {callee:= .value f,args,argTypes} f ρ st K Kx
 | .call {callee:= .builtin .max, .. }| .call {callee:= .builtin .min, .. }=>JE o ρ fun us=>K us st
 |_=>
  match zax cfg fid rid idx o ρ with
  | .none=>Jf P cfg fid rid idx o ρ fun us=>K us st
  | .read=>Jx P cfg fid rid idx o ρ st fun us=>K us st
  | .write=>zab P cfg fid rid idx o ρ st K
def zb0(o:Oper):Bool:=match o.op with| .call c=>(match c.callee with| .builtin .len=>true|_=>false)|_=>false
def skF(rid idx:Nat)(o:Oper)(ρ:Env):SK:=bif zb0 o then .none else zfD cfg fid rid idx o ρ
def zko(o:Oper)(g:List Nat)(ρ:Env)(ws:List Nat):Option (Nat×Nat×Nat×Nat):=
 match g,o.op,o.dst with
 |[], .load _ (.tmp x),some d=>(match ρ.get x with| .lptr v off=>(bif ws.any (Nat.beq v)then some (v,off,d,x)else none)|_=>none)
 |_,_,_=>none
def mvL(frz:Bool)(o:Oper)(g:List Nat)(ρ:Env)(ws:List Nat):Option (Nat×Nat×Nat×Nat):=match frz with|true=>none|false=>zko o g ρ ws
def ziO(o:Oper)(g:List Nat)(ρ:Env):Option (Nat×Nat×Nat):=
 match g,o.op,o.dst with
 |[], .fieldAddr _ (.tmp x) _,some d=>(match ρ.get x with| .loc _ _ _=>some (x,d,x)| .lptr v _=>some (v,d,x)|_=>none)
 |_,_,_=>none
def ZJ(rid idx:Nat)(o:Oper)(g:List Nat)(ρ:Env)(ws:List Nat):Foot:=
 {idx,reads:=g++tmpsOf o.op.operands.toList++zhD ρ o.op.operands.toList,writes:=o.dst.toList++ws,sk:=skF cfg fid rid idx o ρ,mv:=mvL (cfg.take fid rid (idx+2000)) o g ρ ws,fa:=ziO o g ρ}
def tidy:List Oper→Env→Env
 |[],ρ=>ρ
 |o::os,ρ=>tidy os (match o.dst with|some d=>(match ρ.get d with| .lptr _ _=>ρ.set d .undef|_=>ρ)|none=>ρ)
def zep(d:Nat)(ops:List Oper)(ρ:Env):Bool:=
 ops.all fun o=>match o.dst with|some d'=>(match ρ.get d' with| .lptr x _=> !Nat.beq x d|_=>true)|none=>true
def okDst(all:List Oper)(ρ:Env)(dst:Option Nat):Bool:=
 match dst with
 |some d=>match ρ.get d with| .loc .. =>zep d all ρ| .cptr .. =>zep d all ρ|_=>true
 |none=>true
def freshDst(ρ:Env)(dst:Option Nat):Bool:=
 match dst with
 |some d=>match ρ.get d with| .loc .. =>false| .cptr .. =>false|_=>true
 |none=>true
def Jb(o o2:Oper):Bool:=
 match o.op,o2.op,o.dst with
 | .buildSlice t k _, .convert s u (.tmp x),some d=>Nat.beq t s&&Nat.beq t u&&Nat.beq x d&&o.guard.isNone&&o2.guard.isNone&&Nat.blt 0 k&&
   (match Yi P t with|some e=>(match P.underlying e with|some (.int .u8)=>true|_=>false)|none=>false)
 |_,_,_=>false
def zna:SK→Bool
 | .write=>false
 |_=>true
def zvI(all:List Oper)(i:Nat)(fi:Foot)(fs:List Foot):Bool:=
 QE 0 all&&zc0 (Y7 all) fs&&fs.all fun f=>Nat.testBit ((Y7 all).getD i 0) f.idx||(XL f fi&&zna f.sk)
def Qw(rid:Nat)(all:List Oper)(i:Nat)(fi:Foot)(st:St):List Oper→Nat→Env→List Foot→Option R→Option R
 |[],_,_,fs,X=>gd (zvI all i fi fs) X
 |o::rest,j,ρ,fs,X=>
  bc (Nat.testBit ((Y7 all).getD j 0) i) (Qw rid all i fi st rest (j+1) ρ fs X)
   (gd (o.guard.isNone&&freshDst ρ o.dst) (XB P cfg O fid rid j o ρ st (fun us _=>
    gd (XL (ZJ cfg fid rid j o [] ρ (us.map (·.1))) fi&&zna (ZJ cfg fid rid j o [] ρ (us.map (·.1))).sk) (Qw rid all i fi st rest (j+1) (ρ.apply us) (ZJ cfg fid rid j o [] ρ (us.map (·.1))::fs) X)) fun _ _=>none))
def za5(rid:Nat)(all:List Oper)(draw:Bool)(fs:List Foot)(rest:List Oper)(o:Oper)(i:Nat)(ρ:Env)(st:St)(C:List Nat→Env→List (Nat×V)→St→Option R)(D:List Nat→Env→Option R)(K:Ex→Env→St→Option R):Option R:=
 let run (g:List Nat) (ρ:Env):Option R:=
  gd (bif draw then freshDst ρ o.dst else okDst all ρ o.dst)<|XB P cfg O fid rid i o ρ st (C g ρ) (fun p st'=>bc draw (Qw P cfg O fid rid all i (ZJ cfg fid rid i o g ρ []) st rest (i+1) ρ fs (K (.panic p) ρ st')) (K (.panic p) ρ st'))
 let skip (g:List Nat) (ρ:Env):Option R:=gd (bif draw then freshDst ρ o.dst else okDst all ρ o.dst)<|D g ρ
 match o.guard with
 |none=>run [] ρ
 |some (g,want)=>
  match(all[g]?).bind (·.dst)with
  |none=>none
  |some t=>
   match ρ.get t with
   | .bool b=>
    bc want (bc b (run [t] (ρ.set t (.bool true))) (skip [t] (ρ.set t (.bool false))))
     (bc b (skip [t] (ρ.set t (.bool true))) (run [t] (ρ.set t (.bool false))))
   | .tup []=>skip [t] ρ
   |_=>none
def ZR(rid:Nat)(all:List Oper)(draw:Bool):List Oper→Nat→Env→St→List Foot→(Ex→Env→St→Option R)→Option R
 |[],_,ρ,st,fs,K=>bc draw (gd (QE 0 all&&zc0 (Y7 all) fs) (K .normal (tidy all ρ) st)) (K .normal (tidy all ρ) st)
 |[o],i,ρ,st,fs,K=>
  za5 P cfg O fid rid all draw fs [] o i ρ st
   (fun g ρ us st'=>ZR rid all draw [] (i+1) (ρ.apply us) st' (bif draw then ZJ cfg fid rid i o g ρ (us.map (·.1))::fs else fs) K)
   (fun g ρ=>ZR rid all draw [] (i+1) (ρ.put o.dst (.tup [])) st (bif draw then {idx:=i,reads:=g,writes:=o.dst.toList,sk:= .none}::fs else fs) K) K
 |o::o2::rest,i,ρ,st,fs,K=>
  za5 P cfg O fid rid all draw fs (o2::rest) o i ρ st
   (fun g ρ us st'=>
    bc (!draw&&Jb P o o2)
     (gd (okDst all (ρ.apply us) o2.dst) (ZR rid all draw rest (i+2) ((ρ.apply us).put o2.dst ((ρ.apply us).get (o.dst.getD 0))) st' fs K))
     (ZR rid all draw (o2::rest) (i+1) (ρ.apply us) st' (bif draw then ZJ cfg fid rid i o g ρ (us.map (·.1))::fs else fs) K))
   (fun g ρ=>ZR rid all draw (o2::rest) (i+1) (ρ.put o.dst (.tup [])) st (bif draw then {idx:=i,reads:=g,writes:=o.dst.toList,sk:= .none}::fs else fs) K) K
def exec:Code→Env→St→(Ex→Env→St→Option R)→Option R
 | .skip,ρ,st,K=>K .normal ρ st
 | .label _,ρ,st,K=>K .normal ρ st
 | .seq a b,ρ,st,K=>exec a ρ st fun e ρ st=>match e with| .normal=>exec b ρ st K|e=>K e ρ st
 | .cond c a b,ρ,st,K=>
  match c with
  | .tmp t=>
   match ρ.get t with
   | .bool x=>bc x (exec a (ρ.set t (.bool true)) st K) (exec b (ρ.set t (.bool false)) st K)
   |_=>none
  | .const (.bool x)=>bc x (exec a ρ st K) (exec b ρ st K)
  |_=>none
 | .block id b,ρ,st,K=>exec b ρ st fun e ρ st=>match e with| .exit i=>bc (Nat.beq i id) (K .normal ρ st) (K (.exit i) ρ st)|e=>K e ρ st
 | .exit id,ρ,st,K=>K (.exit id) ρ st
 | .goto l,ρ,st,K=>K (.goto l) ρ st
 | .ret,ρ,st,K=>K .ret ρ st
 | .region id ops draw,ρ,st,K=>ZR P cfg O fid id ops.toList draw ops.toList 0 ρ st [] K
 | .loop b,ρ,st,K=>
  Yh P (cfg.keep fid (keyOf b)) ρ fun vals=>Za (O.loop fid (keyOf b) vals st) fun x=>behind P cfg fid (keyOf b) false (JF b) (XY b) x K
 | .scope b,ρ,st,K=>
  exec b ρ st fun e ρ st=>
   match e with
   | .goto l=>
    (match findLabel b l with
     |some _=>bc (Z9 b) (Yh P (cfg.keep fid (YG+l)) ρ fun vals=>Za (O.loop fid (YG+l) vals st) fun x=>behind P cfg fid (YG+l) true (JF b) (XY b) x K) none
     |none=>K (.goto l) ρ st)
   |e=>K e ρ st
 | .rangeFunc f _ _ b,ρ,st,K=>
  zf8 (rd ρ false f) fun g first cap=>
   let keep:=(cfg.keep fid (keyOf b)).map (·.1)
   let ρ1:=ρ.apply (upds ρ false (f::keep.map Operand.tmp))
   let vals:=keep.map fun t=>plain1 (rd ρ false (.tmp t))
   Za (O.call g (first++[.yld st.length]++cap) (st++[.loop fid (keyOf b) vals .ready none])) fun x=>
    Zx x.1 (fun _=>Zw x.2 st.length fun y=>ZX y fun _ _ _ s p=>
     XZ s p (K .normal ρ1 (x.2.set st.length .dead)) (bc (JF b) (K .ret ρ1 (x.2.set st.length .dead)) none) fun i=>Qh i (fun j=>K (.exit j) ρ1 (x.2.set st.length .dead)) (XY b)) fun _=>none
 | .refuse _,_,_,_=>none
end exec
def zaW(n:Nat):Res→Bool
 | .dead=>true
 | .box cs=>Zk n cs
 | .row _ es=>Zk n es
 | .spare _ _ q=>decide (q+1<n)
 | .loop _ _ vals _ _=>Zk n vals
 | .iter _ _=>true
 | .map _ _ _=>true
def Zt(n:Nat):St→Bool
 |[]=>true
 |x::st=>zaW n x&&Zt n st
def YO{α:Type}(s:LSt)(x:Option α):Option α:=match s with| .busy=>x|_=>none
def Xb(n:Nat)(v:V)(st:St):Option (Out×St):=
 bc (Nat.beq st.length n) (some (.ret v,st)) (bc (below n v&&Zt n (st.take n)) (some (.ret v,st.take n)) (some (.ret v,st)))
def gc(pure:Bool)(n:Nat)(out:Out)(st:St):Option (Out×St):=
 match out with
 | .ret v=>bc pure (gd (below n v&&Zt n (st.take n)) (some (.ret v,st.take n))) (Xb n v st)
 | .panic v=>gd (below n v&&Zt n (st.take n)) (some (.panic v,st.take n))
def ziD(rm:Bool)(n:Nat)(ρ:Env)(st:St)(rv:ResultVar)(t:TypeId)(K:V→St→Option (Out×St)):Option (Out×St):=
 match rv with
 | .tmp x=>
  match zgD false (ZZ P t (ρ.get x))with
  | .row sh r lo m=>
   gd (decide (n≤r))<|
   Zw st r fun x=>za0 x fun sh' es=>gd (decide (sh'=sh)&&decide (lo+m≤es.length)) (K (.vec .plain sh ((es.drop lo).take m)) (st.set r .dead))
  |v=>K (plain1 v) st
 | .cell a t'=>
  match ρ.get a with
  | .loc _ sh v=>gd (Qu P sh t') (K (bif rm then zkY v else Zs v) st)
  | .cptr sh v=>gd (Qu P sh t') (K v st)
  | .ref q off=>
   Zw st q fun x=>ZE x fun cs=>gd (decide (off+(shOf P t').sz≤cs.length)&&okTy P t') (K (Zs (partOf cs off (shOf P t'))) st)
  |_=>none
def Qi(rm:Bool)(n:Nat)(ρ:Env)(st:St):List (ResultVar×TypeId)→(List V→St→Option (Out×St))→Option (Out×St)
 |[],K=>K [] st
 |(rv,t)::l,K=>ziD P rm n ρ st rv t fun v st=>Qi rm n ρ st l fun vs st=>K (v::vs) st
def zlM(rm:Bool)(ρ:Env)(rs:List ResultVar):Option (Nat×Sh×List V):=
 match rm with
 |false=>none
 |true=>match rs with
  |[.tmp x]=>(match ρ.get x with| .vec .grow sh es=>some (x,sh,es)|_=>none)
  |_=>none
def Ze(f:Nat)(args:List V)(st:St):Option (Out×St):=
 match P.funcs[f]? with
 |none=>none
 |some fn=>
  match fn.body with
  |none=>none
  |some c=>
   gd (decide (args.length=fn.params.size+fn.nfree)&&decide (args.length≤fn.ntmps)&&zdq fn.ntmps c)<|
   exec P cfg O f c (Ja args) st fun e ρ st'=>
    match e with
    | .normal| .ret=>
     match zlM (cfg.room f) ρ fn.results.toList with
     |some (_,sh,es)=>gd (Zk st.length es&&Zt st.length (st'.take st.length)) (some (.ret (.spr sh es st.length),st'.take st.length++[.spare sh es.length (st.length+1), .dead, .dead]))
     |none=>
     gd (decide (fn.results.size≤fn.resultTypes.size))<|
     Qi P (cfg.room f) st.length ρ st' (fn.results.toList.zip fn.resultTypes.toList) fun vs st'=>
      gc (cfg.pure f) st.length (.ret (match vs with|[v]=>v|vs=> .tup vs)) st'
    | .panic v=>gc (cfg.pure f) st.length (.panic v) st'
    |_=>none
def Zz(f key:Nat)(vals:List V)(st:St):Option (Ex×List V×St):=
 match P.funcs[f]? with
 |none=>none
 |some fn=>
  match fn.body with
  |none=>none
  |some c=>
   if key<YG then
    match Y3 key c with
    |none=>none
    |some b=>
     exec P cfg O f b (Jk ((cfg.keep f key).map (·.1)) vals) st fun e ρ st=>
      match e with
      | .normal=>Yh P (cfg.keep f key) ρ fun vals=>O.loop f key vals st
      | .ret=>some (.ret,(cfg.rets f key).map (fun x=>ρ.get x.1),st)
      |e=>some (e,(cfg.outs f key).map (fun x=>ρ.get x.1),st)
   else
    match Yr (key-YG) c with
    |none=>none
    |some b=>
     match findLabel b (key-YG)with
     |none=>none
     |some rest=>
      exec P cfg O f rest (Jk ((cfg.keep f key).map (·.1)) vals) st fun e ρ st=>
       match e with
       | .goto l=>if l=key-YG then Yh P (cfg.keep f key) ρ fun vals=>O.loop f key vals st else none
       | .ret=>some (.ret,(cfg.rets f key).map (fun x=>ρ.get x.1),st)
       |e=>some (e,(cfg.outs f key).map (fun x=>ρ.get x.1),st)
def Xw(l f key:Nat)(vals args:List V)(st:St):Option (Bool×St):=
 match P.funcs[f]? with
 |none=>none
 |some fn=>
  match fn.body with
  |none=>none
  |some c=>
   match Ya key c with
   |none=>none
   |some (ps,a,b)=>
    gd (decide (args.length=ps.size))<|
    exec P cfg O f a ((Jk ((cfg.keep f key).map (·.1)) vals).apply (ps.toList.zip args)) st fun e ρ st=>
     match e with
     | .normal=>
      Zw st l fun y=>ZX y fun f1 k1 v1 s1 p1=>
      za3 s1 p1 (
       exec P cfg O f b ρ (st.set l (.loop f1 k1 v1 .busy none)) fun e _ st'=>
        Zw st' l fun x=>ZX x fun f2 k2 v2 s _=>
         YO s (match e with
         | .normal=>some (true,st'.set l (.loop f2 k2 v2 .ready none))
         | .ret=>some (false,st'.set l (.loop f2 k2 v2 .done (some .ret)))
         | .exit id=>some (false,st'.set l (.loop f2 k2 v2 .done (some (.exit id))))
         |_=>none))
     |_=>none
end
def zsq{α:Type}:List (Nat×α)→Nat→Option α
 |[],_=>none
 |(k,x)::l,n=>bif Nat.beq k n then some x else zsq l n
def zuR(l:List Nat)(n:Nat):Bool:=l.any (Nat.beq n)
structure FnHints where
 pure:Bool
 res:List Nat
 take:List (Nat×Nat)
 keep:List (Nat×List (Nat×Kd))
 outs:List (Nat×List (Nat×Kd))
 rets:List (Nat×Kd)
def Cfg.of(h:Nat→Option FnHints)(rooms pans:List Nat):Cfg where
 pure f:=match h f with|some x=>x.pure|none=>false
 res f t:=match h f with|some x=>zuR x.res t|none=>false
 take f r i:=match h f with|some x=>x.take.any fun p=>Nat.beq p.1 r&&Nat.beq p.2 i|none=>false
 keep f k:=match h f with|some x=>(zsq x.keep k).getD []|none=> []
 outs f k:=match h f with|some x=>(zsq x.outs k).getD []|none=> []
 rets f _:=match h f with|some x=>x.rets|none=> []
 room f:=zuR rooms f
 pan f:=zuR pans f
abbrev Ext:=Nat→Option (Oracle→List V→St→Option (Out×St))
def zkZ(P:Program)(cfg:Cfg)(ext:Ext)(O:Oracle):Oracle where
 call f args st:=match ext f with|some x=>x O args st|none=>Ze P cfg O f args st
 loop f key vals st:=Zz P cfg O f key vals st
 round l f key vals args st:=Xw P cfg O l f key vals args st
def O0:Oracle:=⟨fun _ _ _=>none,fun _ _ _ _=>none,fun _ _ _ _ _ _=>none⟩
def XJ(P:Program)(cfg:Cfg)(ext:Ext):Nat→Oracle
 |0=>O0
 |n+1=>zkZ P cfg ext (XJ P cfg ext n)
end Go.AM
namespace Go.AM
open Go
variable(cfg:Cfg)(O:Oracle)
theorem zeq{R:Type}(fv:V)(args:List V)(st:St)(K:Out×St→Option R):zsp cfg O fv args st K=Za (zdr cfg O fv args st) K:=by
 cases fv with
 |fn g first cap=>
  show bc _ _ _=Za (bc _ _ _) K
  cases cfg.pure g with
  |true=>
       show Za (Zj O g (first++args++cap)) (fun v=>K (.ret v,st))=Za (Za (Zj O g (first++args++cap)) fun v=>some (.ret v,st)) K
       cases Zj O g (first++args++cap)<;>rfl
  |false=>rfl
 |yld l=>
  show Zw st l _=Za (Zw st l _) K
  unfold Zw
  cases st[l]? with
  |none=>rfl
  |some x=>
   cases x with
   |loop f key vals s p=>
    show XZ s p _ none _=Za (match s,p with| .ready,none=>_|_,_=>none) K
    cases s<;>cases p<;>try rfl
    ·show Za (O.round l f key vals args st) (fun x=>K (.ret (.bool x.1),x.2))=Za (Za (O.round l f key vals args st) fun x=>some (.ret (.bool x.1),x.2)) K
     cases O.round l f key vals args st<;>rfl
    ·rename_i e;cases e<;>rfl
   |_=>rfl
 |_=>rfl
end Go.AM
namespace Go.AM
open Go Go.RowKit
inductive Tag where
 |free|pr|fr|d
 |t (t j:Nat)
 |r (r j:Nat)
 deriving DecidableEq
abbrev Own:=Nat→Nat→Tag
def Shaped:Sh→V→Prop
 |some n, .agg cs=>cs.length=n
 |none, .agg _=>False
 |none,_=>True
 |some _,_=>False
def cellAt(v:V)(j:Nat):V:=(cellsOf v).getD j .undef
theorem Shaped.len{sh:Sh}{v:V}(h:Shaped sh v):(cellsOf v).length=sh.sz:=by
 cases sh<;>cases v<;>simp_all[Shaped,cellsOf,Sh.sz]
inductive VRep(w:World)(pr:Nat→Nat→Prop)(μ:List Nat):V→Value→Prop where
 |undef (c:Value):VRep w pr μ .undef c
 |bool (b:Bool):VRep w pr μ (.bool b) (.bool b)
 |int (n:Int):VRep w pr μ (.int n) (.int .i64 n)
 |ik (k:IntKind) (n:Int):VRep w pr μ (.ik k n) (.int k n)
 |str (s:ByteArray):VRep w pr μ (.str s) (.string s)
 |agg (cs:List V) (ccs:Array Value) (hl:cs.length=ccs.size) (h1: ∀i,i<cs.length→(ccs.getD i undef).oneCell'=true)
   (hc: ∀i,i<cs.length→VRep w pr μ (cs.getD i .undef) (ccs.getD i undef)):VRep w pr μ (.agg cs) (.agg ccs)
 |vecE (m:Mode) (sh:Sh) (A:Option Addr) (c:Nat) (hg:m≠ .grow) (hm:m= .full→c=0):VRep w pr μ (.vec m sh []) (.slice A 0 c)
 |vec (m:Mode) (sh:Sh) (es:List V) (a:Addr) (c:Nat) (f:Nat→Nat→Value) (hm:m≠ .grow) (hf:m= .full→c=es.length) (hl:es.length≤c) (ha:a.spot=none)
   (hcell: ∀i j,i<es.length→j<sh.sz→w.cell? ⟨a.block,a.off+(i*sh.sz+j),none⟩=some (f i j)∧pr a.block (a.off+(i*sh.sz+j))∧(f i j).oneCell'=true)
   (hsh: ∀i,i<es.length→Shaped sh (es.getD i .undef))
   (hc: ∀i j,i<es.length→j<sh.sz→VRep w pr μ (cellAt (es.getD i .undef) j) (f i j)):VRep w pr μ (.vec m sh es) (.slice (some a) es.length c)
 |spr (sh:Sh) (es:List V) (r b cap off:Nat) (A:Option Addr) (h1:μ[r]? =some b) (h2:μ[r+1]? =some cap) (h3:μ[r+2]? =some off) (hA:cap=0∨A=some ⟨b,off,none⟩)
   (h:VRep w pr μ (.vec .plain sh es) (.slice A es.length cap)):VRep w pr μ (.spr sh es r) (.slice A es.length cap)
 |cptr (sh:Sh) (v:V) (a:Addr) (f:Nat→Value) (ha:a.spot=none)
   (hcell: ∀j,j<sh.sz→w.cell? ⟨a.block,a.off+j,none⟩=some (f j)∧pr a.block (a.off+j)∧(f j).oneCell'=true)
   (hsh:Shaped sh v) (hc: ∀j,j<sh.sz→VRep w pr μ (cellAt v j) (f j)):VRep w pr μ (.cptr sh v) (.pointer (some a))
 |ref (r off b:Nat) (hb:μ[r]? =some b):VRep w pr μ (.ref r off) (.pointer (some ⟨b,off,none⟩))
 |rel (sh:Sh) (r i off b:Nat) (hb:μ[r]? =some b):VRep w pr μ (.rel sh r i off) (.pointer (some ⟨b,i*sh.sz+off,none⟩))
 |rowE (sh:Sh) (r lo b:Nat) (A:Option Addr) (c:Nat) (hb:μ[r]? =some b):VRep w pr μ (.row sh r lo 0) (.slice A 0 c)
 |row (sh:Sh) (r lo n b c:Nat) (hb:μ[r]? =some b) (hn:n≤c):VRep w pr μ (.row sh r lo n) (.slice (some ⟨b,lo*sh.sz,none⟩) n c)
 |fn (f:Nat) (fi ca:List V) (cf cc:Array Value) (hf:fi.length=cf.size) (hc:ca.length=cc.size)
   (h1: ∀i,i<fi.length→VRep w pr μ (fi.getD i .undef) (cf.getD i undef))
   (h2: ∀i,i<ca.length→VRep w pr μ (ca.getD i .undef) (cc.getD i undef)):VRep w pr μ (.fn f fi ca) (.func (.func f) cf cc)
 |yld (r b:Nat) (hb:μ[r]? =some b):VRep w pr μ (.yld r) (.func (.yield b) #[] #[])
 |nilf:VRep w pr μ .nilf .nilFunc
 |mp (r b:Nat) (hb:μ[r]? =some b):VRep w pr μ (.mp r) (.map (some b))
 |ifc (t:Nat) (v:V) (c:Value) (h:VRep w pr μ v c):VRep w pr μ (.ifc t v) (.iface t c)
 |nili:VRep w pr μ .nili .nilIface
 |tup (vs:List V) (cs:Array Value) (hl:vs.length=cs.size) (hc: ∀i,i<vs.length→VRep w pr μ (vs.getD i .undef) (cs.getD i undef)):VRep w pr μ (.tup vs) (.tuple cs)
 |nilp:VRep w pr μ .nilp (.pointer none)
 |nils:VRep w pr μ .nils (.slice none 0 0)
theorem VRep.mono{w w':World}{pr pr':Nat→Nat→Prop}{μ μ':List Nat}{v:V}{c:Value}(h:VRep w pr μ v c)
  (hp: ∀b i,pr b i→pr' b i∧w'.cell? ⟨b,i,none⟩=w.cell? ⟨b,i,none⟩) (hm: ∀(r b:Nat),μ[r]? =some b→μ'[r]? =some b):VRep w' pr' μ' v c:=by
 induction h with
 |undef c=>exact .undef c
 |bool b=>exact .bool b
 |int n=>exact .int n
 |ik k n=>exact .ik k n
 |str s=>exact .str s
 |agg cs ccs hl h1 hc ih=>exact .agg cs ccs hl h1 ih
 |vecE m sh A c hg hm=>exact .vecE m sh A c hg hm
 |vec m sh es a c f hm' hf hl ha hcell hsh hc ih=>
  refine .vec m sh es a c f hm' hf hl ha (fun i j hi hj=> ?_) hsh ih
  obtain⟨h1,h2,h3⟩:=hcell i j hi hj
  obtain⟨h4,h5⟩:=hp _ _ h2
  exact⟨h5.trans h1,h4,h3⟩
 |spr sh es r b cap off A h1 h2 h3 hA h ih=>exact .spr sh es r b cap off A (hm _ _ h1) (hm _ _ h2) (hm _ _ h3) hA ih
 |cptr sh v a f ha hcell hsh hc ih=>
  refine .cptr sh v a f ha (fun j hj=> ?_) hsh ih
  obtain⟨h1,h2,h3⟩:=hcell j hj
  obtain⟨h4,h5⟩:=hp _ _ h2
  exact⟨h5.trans h1,h4,h3⟩
 |ref r off b hb=>exact .ref r off b (hm _ _ hb)
 |rel sh r i off b hb=>exact .rel sh r i off b (hm _ _ hb)
 |rowE sh r lo b A c hb=>exact .rowE sh r lo b A c (hm _ _ hb)
 |row sh r lo n b c hb hn=>exact .row sh r lo n b c (hm _ _ hb) hn
 |fn f fi ca cf cc hf hc h1 h2 ih1 ih2=>exact .fn f fi ca cf cc hf hc ih1 ih2
 |yld r b hb=>exact .yld r b (hm _ _ hb)
 |nilf=>exact .nilf
 |mp r b hb=>exact .mp r b (hm _ _ hb)
 |ifc t v c h ih=>exact .ifc t v c ih
 |nili=>exact .nili
 |tup vs cs hl hc ih=>exact .tup vs cs hl ih
 |nilp=>exact .nilp
 |nils=>exact .nils
theorem YV{n:Nat}: ∀{l:List V} (_:Zk n l=true) (i:Nat) (_:i<l.length),below n (l.getD i .undef)=true
 |v::l,h,0,_=>by simp[Zk]at h;simpa using h.1
 |v::l,h,i+1,hi=>by
  simp[Zk]at h
  have:=YV h.2 i (by simpa using hi)
  simpa using this
theorem za6{n:Nat}{v:V}(h:below n v=true)(j:Nat):below n (cellAt v j)=true:=by
 unfold cellAt
 rcases Nat.lt_or_ge j (cellsOf v).length with hj|hj
 ·have one: ∀(u:V),below n u=true→j<[u].length→below n ([u].getD j .undef)=true:=fun u hu hj=>by
   have:j=0:=by simpa using hj
   subst this;simpa using hu
  cases v<;>simp only[cellsOf]at hj⊢ <;>first
   |exact one _ h hj
   |(simp only[below]at h;exact YV h j hj)
 ·rw[List.getD_eq_getElem?_getD,List.getElem?_eq_none hj];rfl
theorem VRep.cut{w:World}{pr:Nat→Nat→Prop}{μ:List Nat}{v:V}{c:Value}(h:VRep w pr μ v c){n:Nat}(hn:AM.below n v=true):VRep w pr (μ.take n) v c:=by
 have key: ∀(r b:Nat),μ[r]? =some b→r<n→(μ.take n)[r]? =some b:=fun r b hb hr=>by
  rw[List.getElem?_take];simp[hr,hb]
 induction h with
 |undef c=>exact .undef c
 |bool b=>exact .bool b
 |int n=>exact .int n
 |ik k n=>exact .ik k n
 |str s=>exact .str s
 |agg cs ccs hl h1 hc ih=>
  simp only[AM.below]at hn
  exact .agg cs ccs hl h1 fun i hi=>ih i hi (YV hn i hi)
 |vecE m sh A c hg hm=>exact .vecE m sh A c hg hm
 |vec m sh es a c f hm' hf hl ha hcell hsh hc ih=>
  simp only[AM.below]at hn
  exact .vec m sh es a c f hm' hf hl ha hcell hsh fun i j hi hj=>ih i j hi hj (za6 (YV hn i hi) j)
 |spr sh es r b cap off A h1 h2 h3 hA h ih=>
  simp only[AM.below,Bool.and_eq_true,decide_eq_true_eq]at hn
  exact .spr sh es r b cap off A (key _ _ h1 (by omega)) (key _ _ h2 (by omega)) (key _ _ h3 hn.2) hA (ih (by simpa[AM.below]using hn.1))
 |cptr sh v a f ha hcell hsh hc ih=>
  simp only[AM.below]at hn
  exact .cptr sh v a f ha hcell hsh fun j hj=>ih j hj (za6 hn j)
 |ref r off b hb=>simp only[AM.below,decide_eq_true_eq]at hn;exact .ref r off b (key _ _ hb hn)
 |rel sh r i off b hb=>simp only[AM.below,decide_eq_true_eq]at hn;exact .rel sh r i off b (key _ _ hb hn)
 |rowE sh r lo b A c hb=>simp only[AM.below,decide_eq_true_eq]at hn;exact .rowE sh r lo b A c (key _ _ hb hn)
 |row sh r lo n b c hb hn'=>simp only[AM.below,decide_eq_true_eq]at hn;exact .row sh r lo n b c (key _ _ hb hn) hn'
 |fn f fi ca cf cc hf hc h1 h2 ih1 ih2=>
  simp only[AM.below,Bool.and_eq_true]at hn
  exact .fn f fi ca cf cc hf hc (fun i hi=>ih1 i hi (YV hn.1 i hi)) fun i hi=>ih2 i hi (YV hn.2 i hi)
 |yld r b hb=>simp only[AM.below,decide_eq_true_eq]at hn;exact .yld r b (key _ _ hb hn)
 |nilf=>exact .nilf
 |mp r b hb=>simp only[AM.below,decide_eq_true_eq]at hn;exact .mp r b (key _ _ hb hn)
 |ifc t v c h ih=>simp only[AM.below]at hn;exact .ifc t v c (ih hn)
 |nili=>exact .nili
 |tup vs cs hl hc ih=>simp only[AM.below]at hn;exact .tup vs cs hl fun i hi=>ih i hi (YV hn i hi)
 |nilp=>exact .nilp
 |nils=>exact .nils
abbrev prOf(own:Own):Nat→Nat→Prop:=fun b i=>own b i= .pr
def GRep(w:World)(own:Own)(μ:List Nat)(g:Tag)(sh:Sh)(es:List V)(c:Value):Prop:=
 ∃A cap,c= .slice A es.length cap∧es.length≤cap∧
  ((es=[]∧cap=0)∨
   ∃(a:Addr) (f:Nat→Nat→Value) (ccs:Array Value) (ty:TypeId) (fz:Nat×Nat),A=some a∧a.spot=none∧
   w.heap[a.block]? =some (.cells ccs ty fz)∧a.off+cap*sh.sz≤ccs.size∧
   (∀i j,i<es.length→j<sh.sz→w.cell? ⟨a.block,a.off+(i*sh.sz+j),none⟩=some (f i j)∧own a.block (a.off+(i*sh.sz+j))= .pr∧(f i j).oneCell'=true)∧
   (∀i,i<es.length→Shaped sh (es.getD i .undef))∧
   (∀i j,i<es.length→j<sh.sz→VRep w (prOf own) μ (cellAt (es.getD i .undef) j) (f i j))∧
   (∀k,es.length*sh.sz≤k→k<cap*sh.sz→own a.block (a.off+k)=g∧w.frozen? ⟨a.block,a.off+k,none⟩=false))
def CRep(w:World)(own:Own)(μ:List Nat)(g:Tag)(v:V)(c:Value):Prop:=
 match v with
 | .vec .grow sh es=>GRep w own μ g sh es c
 |v=>VRep w (prOf own) μ v c
def Blk(w:World)(own:Own)(b n:Nat)(g:Tag)(ccs:Array Value):Prop:=
 ∃ty fz,w.heap[b]? =some (.cells ccs ty fz)∧ccs.size=n∧(∀i,i<n→w.frozen? ⟨b,i,none⟩=false)∧ ∀i,own b i=g
def TRep(w:World)(own:Own)(μ:List Nat)(ρ:Env)(tmps:Array Value)(t:Nat)(v:V)(c:Value):Prop:=
 match v with
 | .loc d sh v=> ∃b ccs,c= .pointer (some ⟨b,0,none⟩)∧Blk w own b sh.sz (.t t 0) ccs∧Shaped sh v∧
   (∀j,j<sh.sz→(ccs.getD j undef).oneCell'=true∧CRep w own μ (.t t (j+1)) (cellAt v j) (ccs.getD j undef))∧
   (d=false→ ∀j sh' es,cellAt v j≠ .vec .grow sh' es)
 | .lptr x off=> ∃b,tmps.getD x undef= .pointer (some ⟨b,0,none⟩)∧c= .pointer (some ⟨b,off,none⟩)∧
   (match ρ.get x with| .loc .. =>True| .cptr .. =>True|_=>False)
 | .vec .grow sh es=>GRep w own μ (.t t 0) sh es c
 |v=>VRep w (prOf own) μ v c
def znb:LSt→Option Ex→LoopState→Option Code→Prop
 | .ready,none, .ready,none=>True
 | .busy,none, .busy,_=>True
 | .done,some .ret, .done,some .ret=>True
 | .done,some (.exit i), .done,some (.exit j)=>i=j
 |_,_,_,_=>False
def X3:CT→V→Option Value
 | .int, .int n=>some (.int .i64 n)
 | .bool, .bool b=>some (.bool b)
 | .str, .str s=>some (.string s)
 |_,_=>none
def za7(ck cv:CT)(es:List (V×V))(ms:Array MapEntry)(clock:Nat):Prop:=
 ms.size=es.length∧clock=es.length∧ ∀(i:Nat) (h:i<es.length) (h':i<ms.size),X3 ck es[i].1=some ms[i].key∧X3 cv es[i].2=some ms[i].val∧ms[i].born=i
def RRep(P:Program)(cfg:Cfg)(w:World)(own:Own)(μ:List Nat)(r b:Nat):Res→Prop
 | .dead=>True
 | .box cells=> ∃ccs,Blk w own b cells.length (.r r 0) ccs∧ ∀j,j<cells.length→(ccs.getD j undef).oneCell'=true∧CRep w own μ (.r r (j+1)) (cells.getD j .undef) (ccs.getD j undef)
 | .row sh es=>es=[]∨ ∃n ccs,Blk w own b n (.r r 0) ccs∧es.length*sh.sz≤n∧ ∀i,i<es.length→Shaped sh (es.getD i .undef)∧
   ∀j,j<sh.sz→(ccs.getD (i*sh.sz+j) undef).oneCell'=true∧VRep w (prOf own) μ (cellAt (es.getD i .undef) j) (ccs.getD (i*sh.sz+j) undef)
 | .spare sh n q=> ∃cap off,μ[q]? =some cap∧μ[q+1]? =some off∧(cap=0∨ ∃ccs ty fz,w.heap[b]? =some (.cells ccs ty fz)∧off+cap*sh.sz≤ccs.size∧
   ∀k,n*sh.sz≤k→k<cap*sh.sz→own b (off+k)= .r r 0∧w.frozen? ⟨b,off+k,none⟩=false)
 | .loop fid key vals s p=>(∀i,own b i= .r r 0)∧ ∃L fn c,w.heap[b]? =some (.loop L)∧P.funcs[fid]? =some fn∧fn.body=some c∧zdq fn.ntmps c=true∧True∧
   Ya key c=some (L.params,L.assign,L.body)∧L.tmps.size=fn.ntmps∧znb s p L.state L.pending∧
   ∀t,VRep w (prOf own) μ ((Jk ((cfg.keep fid key).map (·.1)) vals).get t) (L.tmps.getD t undef)
 | .iter s pos=>(∀i,own b i= .r r 0)∧w.heap[b]? =some (.stringIter s pos)
 | .map ck cv es=>(∀i,own b i= .r r 0)∧ ∃ms clock,w.heap[b]? =some (.map ms clock)∧za7 ck cv es ms clock
structure Sto(P:Program)(cfg:Cfg)(base:Nat)(w:World)(own:Own)(μ:List Nat)(st:St):Prop where
 len:μ.length=st.length
 res: ∀(r:Nat) (x:Res) (b:Nat),st[r]? =some x→μ[r]? =some b→RRep P cfg w own μ r b x
 alloc: ∀b i,own b i≠ .free→b<w.heap.size
 low: ∀b i,own b i≠ .free→own b i≠ .pr→own b i≠ .fr→base≤b
 size:base≤w.heap.size
structure Rel(P:Program)(cfg:Cfg)(base:Nat)(ntmps:Nat)(w:World)(own:Own)(μ:List Nat)(ρ:Env)(st:St)(a:Act):Prop where
 sto:Sto P cfg base w own μ st
 env: ∀t,TRep w own μ ρ a.tmps t (ρ.get t) (a.tmps.getD t undef)
 tmps:a.tmps.size=ntmps
 defers: ∀x,x∈a.defers→ ∃D,x={target:= .collected D,args:= #[]}∧w.heap[D]? =some (.deferred (some []))∧ ∀i,own D i= .d
 apart:a.defers.Nodup
structure Keeps(base:Nat)(w:World)(own:Own)(μ:List Nat)(w':World)(own':Own)(μ':List Nat):Prop where
 below:Below base w w'
 pr: ∀b i,own b i= .pr→own' b i= .pr∧w'.cell? ⟨b,i,none⟩=w.cell? ⟨b,i,none⟩
 fr: ∀b i,own b i= .fr↔own' b i= .fr
 blk: ∀(b:Nat) (c:Array Value) (e:TypeId) (f:Nat×Nat),w.heap[b]? =some (.cells c e f)→ ∃c',w'.heap[b]? =some (.cells c' e f)∧c'.size=c.size
 obj: ∀b,(∀i,own b i= .fr)→w'.heap[b]? =w.heap[b]?
 mu: ∃ν,μ'=μ++ν
end Go.AM
namespace Go.AM
open Go Go.RowKit
structure Step(base:Nat)(w:World)(own:Own)(μ:List Nat)(w':World)(own':Own)(μ':List Nat)(X:Tag→Prop):Prop where
 below:Below base w w'
 pr: ∀b i,own b i= .pr→own' b i= .pr∧w'.cell? ⟨b,i,none⟩=w.cell? ⟨b,i,none⟩
 tag: ∀b i,own b i≠ .free→ ¬X (own b i)→own' b i=own b i
 fr: ∀b i,own' b i= .fr→own b i= .fr
 alloc: ∀b i,own' b i≠ .free→b<w'.heap.size
 low: ∀b i,own' b i≠ .free→own' b i≠ .pr→own' b i≠ .fr→base≤b
 blk: ∀(b:Nat) (c:Array Value) (e:TypeId) (f:Nat×Nat),w.heap[b]? =some (.cells c e f)→ ∃c',w'.heap[b]? =some (.cells c' e f)∧c'.size=c.size
 whole: ∀b g,(∀i,own b i=g)→g≠ .free→g≠ .pr→ ¬X g→w'.heap[b]? =w.heap[b]?
 mu: ∃ν,μ'=μ++ν
section
variable{P:Program}{cfg:Cfg}{base:Nat}{w w' w2:World}{own own' own2:Own}{μ μ' μ2:List Nat}{X Y:Tag→Prop}
theorem zc1{ν:List Nat}{r b:Nat}(h:μ[r]? =some b):(μ++ν)[r]? =some b:=by
 rw[List.getElem?_append_left];exact h
 exact(List.getElem?_eq_some_iff.1 h).1
theorem Step.vrep(s:Step base w own μ w' own' μ' X){v:V}{c:Value}(h:VRep w (prOf own) μ v c):VRep w' (prOf own') μ' v c:=by
 obtain⟨ν,rfl⟩:=s.mu
 exact h.mono s.pr fun r b hb=>zc1 hb
theorem Step.frozen(s:Step base w own μ w' own' μ' X){b i:Nat}{c:Array Value}{e:TypeId}{f:Nat×Nat}(hb:w.heap[b]? =some (.cells c e f)):w'.frozen? ⟨b,i,none⟩=w.frozen? ⟨b,i,none⟩:=by
 obtain⟨c',h,_⟩:=s.blk b c e f hb
 simp[World.frozen?,hb,h]
theorem Step.grep(s:Step base w own μ w' own' μ' X){g:Tag}{sh:Sh}{es:List V}{c:Value}(h:GRep w own μ g sh es c)(hg:g≠ .free)(hX: ¬X g):GRep w' own' μ' g sh es c:=by
 obtain⟨A,cap,hc,hl,h⟩:=h
 refine⟨A,cap,hc,hl, ?_⟩
 rcases h with h|⟨a,f,ccs,ty,fz,hA,ha,hb,hcap,hcell,hsh,hrep,hsp⟩
 ·exact .inl h
 ·obtain⟨c',hb',hs'⟩:=s.blk _ _ _ _ hb
  refine .inr ⟨a,f,c',ty,fz,hA,ha,hb',by omega,fun i j hi hj=> ?_,hsh,fun i j hi hj=>s.vrep (hrep i j hi hj),fun k h1 h2=> ?_⟩
  ·obtain⟨h1,h2,h3⟩:=hcell i j hi hj
   obtain⟨h4,h5⟩:=s.pr _ _ h2
   exact⟨h5.trans h1,h4,h3⟩
  ·obtain⟨h3,h4⟩:=hsp k h1 h2
   exact⟨(s.tag _ _ (by rw[h3];exact hg) (by rw[h3];exact hX)).trans h3,(s.frozen hb).trans h4⟩
theorem Step.crep(s:Step base w own μ w' own' μ' X){g:Tag}{v:V}{c:Value}(h:CRep w own μ g v c)(hg:g≠ .free)(hX: ¬X g):CRep w' own' μ' g v c:=by
 unfold CRep at*
 split
 ·rename_i sh es
  exact s.grep h hg hX
 ·rename_i hn
  split at h
  ·exact absurd rfl (hn _ _)
  ·exact s.vrep h
theorem Step.blk'(s:Step base w own μ w' own' μ' X){b n:Nat}{g:Tag}{ccs:Array Value}(h:Blk w own b n g ccs)(hg:g≠ .free)(hX: ¬X g)(hgp:g≠ .pr:=by simp):Blk w' own' b n g ccs:=by
 obtain⟨ty,fz,hb,hn,hf,ho⟩:=h
 have hw:=s.whole b g ho hg hgp hX
 refine⟨ty,fz,hw.trans hb,hn,fun i hi=> ?_,fun i=>(s.tag b i (by rw[ho];exact hg) (by rw[ho];exact hX)).trans (ho i)⟩
 have:=hf i hi
 simp only[World.frozen?,hw]at this⊢
 exact this
theorem Step.trep(s:Step base w own μ w' own' μ' X){ρ ρ':Env}{tm tm':Array Value}{t:Nat}{v:V}{c:Value}(h:TRep w own μ ρ tm t v c)(hX: ∀j,¬X (.t t j))
  (hl: ∀x off,v= .lptr x off→tm'.getD x undef=tm.getD x undef∧(match ρ'.get x with| .loc .. =>True| .cptr .. =>True|_=>False)):TRep w' own' μ' ρ' tm' t v c:=by
 unfold TRep at*
 split
 ·rename_i d sh v
  obtain⟨b,ccs,hc,hB,hs,hj,hd⟩:=h
  exact⟨b,ccs,hc,s.blk' hB (by simp) (hX 0),hs,fun j hj'=>⟨(hj j hj').1,s.crep (hj j hj').2 (by simp) (hX _)⟩,hd⟩
 ·rename_i x off
  obtain⟨b,h1,h2,_⟩:=h
  obtain⟨h3,h4⟩:=hl x off rfl
  exact⟨b,h3.trans h1,h2,h4⟩
 ·exact s.grep h (by simp) (hX 0)
 ·rename_i h1 h2 h3
  split at h
  ·exact absurd rfl (h1 _ _ _)
  ·exact absurd rfl (h2 _ _)
  ·exact absurd rfl (h3 _ _)
  ·exact s.vrep h
theorem Step.rrep(s:Step base w own μ w' own' μ' X){r b:Nat}{x:Res}(h:RRep P cfg w own μ r b x)(hX: ∀j,¬X (.r r j)):RRep P cfg w' own' μ' r b x:=by
 cases x with
 |dead=>trivial
 |box cells=>
  obtain⟨ccs,hB,hj⟩:=h
  exact⟨ccs,s.blk' hB (by simp) (hX 0),fun j hj'=>⟨(hj j hj').1,s.crep (hj j hj').2 (by simp) (hX _)⟩⟩
 |row sh es=>
  rcases h with h|⟨n,ccs,hB,hn,hj⟩
  ·exact .inl h
  exact .inr ⟨n,ccs,s.blk' hB (by simp) (hX 0),hn,fun i hi=>⟨(hj i hi).1,fun j hj'=>⟨((hj i hi).2 j hj').1,s.vrep ((hj i hi).2 j hj').2⟩⟩⟩
 |spare sh n q=>
  obtain⟨cap,off,h1,h2,h⟩:=h
  obtain⟨ν,rfl⟩:=s.mu
  refine⟨cap,off,zc1 h1,zc1 h2, ?_⟩
  rcases h with h|⟨ccs,ty,fz,hb,hsz,hk⟩
  ·exact .inl h
  ·obtain⟨c',hb',hs'⟩:=s.blk _ _ _ _ hb
   refine .inr ⟨c',ty,fz,hb',by omega,fun k k1 k2=> ?_⟩
   obtain⟨h3,h4⟩:=hk k k1 k2
   exact⟨(s.tag _ _ (by rw[h3];simp) (by rw[h3];exact hX 0)).trans h3,(s.frozen hb).trans h4⟩
 |loop fid key vals st p=>
  obtain⟨ho,L,fn,c,hb,hrest⟩:=h
  refine⟨fun i=>(s.tag b i (by rw[ho];simp) (by rw[ho];exact hX 0)).trans (ho i),L,fn,c,(s.whole b _ ho (by simp) (by simp) (hX 0)).trans hb, ?_⟩
  obtain⟨h1,h2,h3,h4,h5,h6,h7,h8⟩:=hrest
  exact⟨h1,h2,h3,h4,h5,h6,h7,fun t=>s.vrep (h8 t)⟩
 |iter z p=>exact⟨fun i=>(s.tag b i (by rw[h.1];simp) (by rw[h.1];exact hX 0)).trans (h.1 i),(s.whole b _ h.1 (by simp) (by simp) (hX 0)).trans h.2⟩
 |map ck cv es=>
  obtain⟨ho,ms,cl,hb,he⟩:=h
  exact⟨fun i=>(s.tag b i (by rw[ho];simp) (by rw[ho];exact hX 0)).trans (ho i),ms,cl,(s.whole b _ ho (by simp) (by simp) (hX 0)).trans hb,he⟩
theorem Step.keeps(s:Step base w own μ w' own' μ' X)(hX: ¬X .fr):Keeps base w own μ w' own' μ':=
 ⟨s.below,s.pr,fun b i=>⟨fun h=>(s.tag b i (by rw[h];simp) (by rw[h];exact hX)).trans h,s.fr b i⟩,s.blk,fun b h=>s.whole b _ h (by simp) (by simp) hX,s.mu⟩
theorem Keeps.refl:Keeps base w own μ w own μ:=
 ⟨Below.refl _ _,fun _ _ h=>⟨h,rfl⟩,fun _ _=>Iff.rfl,fun _ c _ _ h=>⟨c,h,rfl⟩,fun _ _=>rfl,[],by simp⟩
theorem Keeps.trans(h:Keeps base w own μ w' own' μ')(k:Keeps base w' own' μ' w2 own2 μ2):Keeps base w own μ w2 own2 μ2:=by
 refine⟨h.below.trans k.below,fun b i hp=> ?_,fun b i=>(h.fr b i).trans (k.fr b i),fun b c e f hb=> ?_,fun b hb=>(k.obj b fun i=>(h.fr b i).1 (hb i)).trans (h.obj b hb), ?_⟩
 ·obtain⟨h1,h2⟩:=h.pr b i hp
  obtain⟨h3,h4⟩:=k.pr b i h1
  exact⟨h3,h4.trans h2⟩
 ·obtain⟨c',h1,h2⟩:=h.blk b c e f hb
  obtain⟨c'',h3,h4⟩:=k.blk b c' e f h1
  exact⟨c'',h3,h4.trans h2⟩
 ·obtain⟨ν,rfl⟩:=h.mu
  obtain⟨ν',rfl⟩:=k.mu
  exact⟨ν++ν',by simp⟩
theorem Keeps.vrep(s:Keeps base w own μ w' own' μ'){v:V}{c:Value}(h:VRep w (prOf own) μ v c):VRep w' (prOf own') μ' v c:=by
 obtain⟨ν,rfl⟩:=s.mu
 exact h.mono s.pr fun r b hb=>zc1 hb
theorem Step.refl'{st:St}(hs:Sto P cfg base w own μ st):Step base w own μ w own μ (fun _=>False):=
 ⟨Below.refl _ _,fun _ _ h=>⟨h,rfl⟩,fun _ _ _ _=>rfl,fun _ _ h=>h,hs.alloc,hs.low,fun _ c _ _ h=>⟨c,h,rfl⟩,fun _ _ _ _ _ _=>rfl,[],by simp⟩
theorem Step.retag{st:St}(hs:Sto P cfg base w own μ st)(f:Tag→Tag)(hp:f .pr= .pr)(hX: ∀g,¬X g→f g=g)(hfr: ∀g,f g= .fr→g= .fr)(hfree:f .free= .free)(hfr':f .fr= .fr):
  Step base w own μ w (fun b i=>f (own b i)) μ X:=by
 refine⟨Below.refl _ _,fun b i h=>⟨by simp only[h,hp],rfl⟩,fun b i _ h=>hX _ h,fun b i h=>hfr _ h,fun b i h=>hs.alloc b i fun e=>h (by simp only[e,hfree]),
  fun b i h1 h2 h3=>hs.low b i (fun e=>h1 (by simp only[e,hfree])) (fun e=>h2 (by simp only[e,hp])) (fun e=>h3 (by simp only[e,hfr'])),fun _ c _ _ h=>⟨c,h,rfl⟩,fun _ _ _ _ _ _=>rfl,[],by simp⟩
theorem Step.trans(s:Step base w own μ w' own' μ' X)(k:Step base w' own' μ' w2 own2 μ2 Y):Step base w own μ w2 own2 μ2 (fun g=>X g∨Y g):=by
 refine⟨s.below.trans k.below,fun b i hp=> ?_,fun b i h1 h2=> ?_,fun b i h=>s.fr b i (k.fr b i h),k.alloc,k.low,fun b c e f hb=> ?_,fun b g h1 h2 h2' h3=> ?_, ?_⟩
 ·obtain⟨h1,h2⟩:=s.pr b i hp
  obtain⟨h3,h4⟩:=k.pr b i h1
  exact⟨h3,h4.trans h2⟩
 ·have e:=s.tag b i h1 (fun h=>h2 (.inl h))
  exact(k.tag b i (by rw[e];exact h1) (by rw[e];exact fun h=>h2 (.inr h))).trans e
 ·obtain⟨c',h1,h2⟩:=s.blk b c e f hb
  obtain⟨c'',h3,h4⟩:=k.blk b c' e f h1
  exact⟨c'',h3,h4.trans h2⟩
 ·have e: ∀i,own' b i=g:=fun i=>(s.tag b i (by rw[h1];exact h2) (by rw[h1];exact fun h=>h3 (.inl h))).trans (h1 i)
  exact(k.whole b g e h2 h2' (fun h=>h3 (.inr h))).trans (s.whole b g h1 h2 h2' (fun h=>h3 (.inl h)))
 ·obtain⟨ν,rfl⟩:=s.mu
  obtain⟨ν',rfl⟩:=k.mu
  exact⟨ν++ν',by simp⟩
theorem Step.weaken(s:Step base w own μ w' own' μ' X)(h: ∀g,X g→Y g):Step base w own μ w' own' μ' Y:=
 ⟨s.below,s.pr,fun b i h1 h2=>s.tag b i h1 fun hx=>h2 (h _ hx),s.fr,s.alloc,s.low,s.blk,fun b g h1 h2 h2' h3=>s.whole b g h1 h2 h2' fun hx=>h3 (h _ hx),s.mu⟩
def Xy(own:Own)(b:Nat)(g:Tag):Own:=fun b' i=>if b'=b then g else own b' i
theorem Step.new{st:St}(hs:Sto P cfg base w own μ st)(o:Obj)(g:Tag)(hg:g≠ .fr)(ν:List Nat):
  Step base w own μ (w.alloc o) (Xy own w.heap.size g) (μ++ν) (fun _=>False):=by
 have hfree: ∀i,own w.heap.size i= .free:=fun i=>Classical.byContradiction fun h=>Nat.lt_irrefl _ (hs.alloc _ i h)
 have hne: ∀{b i},own b i≠ .free→b≠w.heap.size:=fun h e=>h (by subst e;exact hfree _)
 refine⟨(Below.refl _ _).alloc hs.size o,fun b i h=> ?_,fun b i h _=> ?_,fun b i h=> ?_,fun b i h=> ?_,fun b i h1 h2 h3=> ?_,fun b c e f hb=> ?_,fun b g' h1 h2 _ _=> ?_,ν,rfl⟩
 ·have hb:b≠w.heap.size:=hne (i:=i) (by rw[h];simp)
  exact⟨by simp[Xy,hb,h],World.cell?_alloc_old w o _ hb⟩
 ·simp[Xy,hne h]
 ·by_cases e:b=w.heap.size
  ·simp[Xy,e]at h;exact absurd h hg
  ·simpa[Xy,e]using h
 ·by_cases e:b=w.heap.size
  ·subst e;simp
  ·have:own b i≠ .free:=by simpa[Xy,e]using h
   have:=hs.alloc b i this
   simp;omega
 ·by_cases e:b=w.heap.size
  ·rw[e];exact hs.size
  ·simp only[Xy,e,if_false]at h1 h2 h3
   exact hs.low b i h1 h2 h3
 ·have hb':b<w.heap.size:=(Array.getElem?_eq_some_iff.1 hb).1
  exact⟨c,(Below.heap_alloc w o b hb').trans hb,rfl⟩
 ·have hb:b≠w.heap.size:=hne (i:=0) (by rw[h1];exact h2)
  have hlt:b<w.heap.size:=hs.alloc b 0 (by rw[h1];exact h2)
  exact Below.heap_alloc w o b hlt
theorem Step.set{st:St}(hs:Sto P cfg base w own μ st){b:Nat}{c c':Array Value}{e:TypeId}{f:Nat×Nat}(hb:w.heap[b]? =some (.cells c e f))(hsz:c'.size=c.size)(hbase:base≤b)
  (hX: ∀i,c'[i]? ≠c[i]? →own b i≠ .pr∧X (own b i)) (hw: ∀g,(∀i,own b i=g)→g≠ .free→X g∨c'=c)
  (hw':w'.heap[b]? =some (.cells c' e f)) (ho: ∀k,k≠b→w'.heap[k]? =w.heap[k]?) (hB:Below base w w'):Step base w own μ w' own μ X:=by
 have hsize:w.heap.size≤w'.heap.size:=hB.size
 refine⟨hB,fun k i h=>⟨h, ?_⟩,fun _ _ _ _=>rfl,fun _ _ h=>h,fun k i h=>Nat.lt_of_lt_of_le (hs.alloc k i h) hsize,hs.low,fun k c2 e2 f2 hk=> ?_,fun k g h1 h2 _ h3=> ?_,[],by simp⟩
 ·by_cases e1:k=b
  ·subst e1
   have:c'[i]? =c[i]? :=Classical.byContradiction fun h'=>(hX i h').1 h
   simp[World.cell?,hw',hb,this]
  ·simp[World.cell?,ho k e1]
 ·by_cases e1:k=b
  ·subst e1
   rw[hb]at hk;cases hk
   exact⟨c',hw',hsz⟩
  ·exact⟨c2,(ho k e1).trans hk,rfl⟩
 ·by_cases e1:k=b
  ·subst e1
   rcases hw g h1 h2 with h|h
   ·exact absurd h h3
   ·rw[hw',hb,h]
  ·exact ho k e1
theorem Step.obj{st:St}(hs:Sto P cfg base w own μ st){b:Nat}{g:Tag}(hg: ∀i,own b i=g)(hgp:g≠ .pr)(hX:X g)(hnc: ∀c e f,w.heap[b]? ≠some (.cells c e f))(hbase:base≤b)
  (ho: ∀k,k≠b→w'.heap[k]? =w.heap[k]?) (hB:Below base w w'):Step base w own μ w' own μ X:=by
 refine⟨hB,fun k i h=>⟨h, ?_⟩,fun _ _ _ _=>rfl,fun _ _ h=>h,fun k i h=>Nat.lt_of_lt_of_le (hs.alloc k i h) hB.size,hs.low,fun k c2 e2 f2 hk=> ?_,fun k g' h1 h2 _ h3=> ?_,[],by simp⟩
 ·have e1:k≠b:=fun e=>hgp (by rw[←hg i,←e];exact h)
  simp[World.cell?,ho k e1]
 ·have e1:k≠b:=fun e=>hnc _ _ _ (by rw[←e];exact hk)
  exact⟨c2,(ho k e1).trans hk,rfl⟩
 ·have e1:k≠b:=fun e=>h3 (by rw[←h1 0,e,hg];exact hX)
  exact ho k e1
theorem Sto.step{st st':St}(hs:Sto P cfg base w own μ st)(s:Step base w own μ w' own' μ' X)(hl:μ'.length=st'.length)
  (hr: ∀(r:Nat) (x:Res) (b:Nat),st'[r]? =some x→μ'[r]? =some b→(st[r]? =some x∧ ∀j,¬X (.r r j))∨RRep P cfg w' own' μ' r b x):Sto P cfg base w' own' μ' st':=by
 refine⟨hl,fun r x b hx hb=> ?_,s.alloc,s.low,Nat.le_trans hs.size s.below.size⟩
 rcases hr r x b hx hb with⟨h1,h2⟩|h
 ·obtain⟨ν,rfl⟩:=s.mu
  have hlt:r<μ.length:=by rw[hs.len];exact(List.getElem?_eq_some_iff.1 h1).1
  have hb':μ[r]? =some b:=by rwa [List.getElem?_append_left hlt]at hb
  exact s.rrep (hs.res r x b h1 hb') h2
 ·exact h
theorem Rel.step{n:Nat}{ρ ρ':Env}{st st':St}{a a':Act}(h:Rel P cfg base n w own μ ρ st a)(s:Step base w own μ w' own' μ' X)(hd: ¬X .d)
  (hl:μ'.length=st'.length) (ht:a'.tmps.size=a.tmps.size) (hdf:a'.defers=a.defers)
  (hr: ∀(r:Nat) (x:Res) (b:Nat),st'[r]? =some x→μ'[r]? =some b→(st[r]? =some x∧ ∀j,¬X (.r r j))∨RRep P cfg w' own' μ' r b x)
  (he: ∀t,(ρ'.get t=ρ.get t∧a'.tmps.getD t undef=a.tmps.getD t undef∧(∀j,¬X (.t t j))∧
    ∀x off,ρ.get t= .lptr x off→a'.tmps.getD x undef=a.tmps.getD x undef∧(match ρ'.get x with| .loc .. =>True| .cptr .. =>True|_=>False))∨
   TRep w' own' μ' ρ' a'.tmps t (ρ'.get t) (a'.tmps.getD t undef)):Rel P cfg base n w' own' μ' ρ' st' a':=by
 refine⟨h.sto.step s hl hr,fun t=> ?_,ht.trans h.tmps,fun x hx=> ?_,by rw[hdf];exact h.apart⟩
 ·rcases he t with⟨h1,h2,h3,h4⟩|h1
  ·rw[h1,h2]
   exact s.trep (h.env t) h3 h4
  ·exact h1
 ·obtain⟨D,h1,h2,h3⟩:=h.defers x (by rwa [hdf]at hx)
  exact⟨D,h1,(s.whole D _ h3 (by simp) (by simp) hd).trans h2,fun i=>(s.tag D i (by rw[h3];simp) (by rw[h3];exact hd)).trans (h3 i)⟩
end
end Go.AM
namespace Go.AM
open Go Go.RowKit
section
variable{P:Program}{cfg:Cfg}{base:Nat}{w:World}{own:Own}{μ:List Nat}{pr:Nat→Nat→Prop}
theorem zgH(v:Value):VRep w pr μ (zf9 v) v:=by
 unfold zf9
 split
 ·exact .bool _
 ·exact .int _
 ·exact .ik _ _
 ·exact .str _
 ·exact .nilf
 ·exact .nili
 ·exact .nilp
 ·exact .nils
 ·split
  ·rename_i f a b h1 h2
   exact .fn _ [] [] _ _ h1.symm h2.symm (fun i hi=>by simp at hi) (fun i hi=>by simp at hi)
  ·exact .undef _
 ·exact .undef _
theorem GRep.plain{g:Tag}{sh:Sh}{es:List V}{c:Value}(h:GRep w own μ g sh es c):VRep w (prOf own) μ (.vec .plain sh es) c:=by
 obtain⟨A,cap,rfl,hl,h⟩:=h
 rcases h with⟨rfl,rfl⟩|⟨a,f,ccs,ty,fz,rfl,ha,hb,hcap,hcell,hsh,hrep,hsp⟩
 ·exact .vecE _ _ _ _ (by simp) (by simp)
 ·exact .vec _ _ _ a cap f (by simp) (by simp) hl ha hcell hsh hrep
theorem VRep.plain1{v:V}{c:Value}(h:VRep w pr μ v c):VRep w pr μ (AM.plain1 v) c:=by
 cases v with
 |vec m sh es=>
  cases m with
  |plain=>exact h
  |full=>
   cases h with
   |vecE m sh A c hg hm=>exact .vecE _ _ _ _ (by simp) (by simp)
   |vec m sh es a c f hm hf hl ha hcell hsh hc=>exact .vec _ _ _ _ _ f (by simp) (by simp) hl ha hcell hsh hc
  |grow=>
   cases h with
   |vecE m sh A c hg hm=>exact .vecE _ _ _ _ (by simp) (by simp)
   |vec m sh es a c f hm hf hl ha hcell hsh hc=>exact absurd rfl hm
 |spr sh es r=>
  cases h with
  |spr _ _ _ b cap off A h1 h2 h3 hA h=>exact h
 |_=>exact h
theorem CRep.plain1{g:Tag}{v:V}{c:Value}(h:CRep w own μ g v c):VRep w (prOf own) μ (AM.plain1 v) c:=by
 unfold CRep at h
 split at h
 ·exact GRep.plain h
 ·exact h.plain1
theorem Y5(v:V)(j:Nat):cellAt (Zs v) j=AM.plain1 (cellAt v j):=by
 have one: ∀u:V,cellsOf u=[u]→cellsOf (AM.plain1 u)=[AM.plain1 u]→cellAt (AM.plain1 u) j=AM.plain1 (cellAt u j):=by
  intro u e1 e2
  unfold cellAt
  rw[e1,e2]
  cases j<;>simp[AM.plain1]
 have key:(∃cs,v= .agg cs)∨(cellsOf v=[v]∧cellsOf (AM.plain1 v)=[AM.plain1 v]∧Zs v=AM.plain1 v):=by
  cases v with
  |agg cs=>exact .inl ⟨cs,rfl⟩
  |vec m sh es=>cases m<;>exact .inr ⟨rfl,rfl,rfl⟩
  |_=>exact .inr ⟨rfl,rfl,rfl⟩
 rcases key with⟨cs,rfl⟩|⟨h1,h2,h3⟩
 ·simp only[Zs,cellAt,cellsOf,List.getD_eq_getElem?_getD,List.getElem?_map]
  cases cs[j]? <;>simp[AM.plain1]
 ·rw[h3];exact one v h1 h2
theorem Qb{sh:Sh}{v:V}(h:Shaped sh v):Shaped sh (Zs v):=by
 cases sh with
 |none=>cases v with
  |agg cs=>exact h
  |vec m sh es=>cases m<;>exact trivial
  |_=>exact trivial
 |some n=>cases v with
  |agg cs=>simpa[Shaped,Zs]using h
  |_=>exact absurd h (by simp[Shaped])
theorem VRep.drop1{v:V}{c:Value}(h:VRep w pr μ v c):VRep w pr μ (AM.drop1 v) c:=by
 cases v with
 |vec m sh es=>cases m<;>first|exact h|exact h.plain1
 |_=>exact h
theorem CRep.drop1{g:Tag}{v:V}{c:Value}(h:CRep w own μ g v c):VRep w (prOf own) μ (AM.drop1 v) c:=by
 unfold CRep at h
 split at h
 ·exact GRep.plain h
 ·exact h.drop1
theorem znc(v:V)(j:Nat):cellAt (zkY v) j=AM.drop1 (cellAt v j):=by
 have one: ∀u:V,cellsOf u=[u]→cellsOf (AM.drop1 u)=[AM.drop1 u]→cellAt (AM.drop1 u) j=AM.drop1 (cellAt u j):=by
  intro u e1 e2
  unfold cellAt
  rw[e1,e2]
  cases j<;>simp[AM.drop1]
 have key:(∃cs,v= .agg cs)∨(cellsOf v=[v]∧cellsOf (AM.drop1 v)=[AM.drop1 v]∧zkY v=AM.drop1 v):=by
  cases v with
  |agg cs=>exact .inl ⟨cs,rfl⟩
  |vec m sh es=>cases m<;>exact .inr ⟨rfl,rfl,rfl⟩
  |_=>exact .inr ⟨rfl,rfl,rfl⟩
 rcases key with⟨cs,rfl⟩|⟨h1,h2,h3⟩
 ·simp only[zkY,cellAt,cellsOf,List.getD_eq_getElem?_getD,List.getElem?_map]
  cases cs[j]? <;>simp[AM.drop1]
 ·rw[h3];exact one v h1 h2
theorem znd{sh:Sh}{v:V}(h:Shaped sh v):Shaped sh (zkY v):=by
 cases sh with
 |none=>cases v with
  |agg cs=>exact h
  |vec m sh es=>cases m<;>exact trivial
  |_=>exact trivial
 |some n=>cases v with
  |agg cs=>simpa[Shaped,zkY]using h
  |_=>exact absurd h (by simp[Shaped])
theorem Zp(ρ:Env)(t:Nat)(v:V)(x:Nat):(ρ.set t v).get x=if x=t then v else ρ.get x:=by
 simp only[Env.set,Env.get]
 by_cases h:x=t
 ·subst h;simp
 ·have:Nat.beq t x=false:=by
   rw[←Bool.not_eq_true,Nat.beq_eq];exact fun e=>h e.symm
  simp[this,h]
theorem zgI(us:List (Nat×V))(F:Nat→V)(hF: ∀u,u∈us→u.2=F u.1): ∀(ρ:Env) (x:Nat),(ρ.apply us).get x=if x∈us.map (·.1)then F x else ρ.get x:=by
 induction us with
 |nil=>intro ρ x;simp[Env.apply]
 |cons u us ih=>
  intro ρ x
  obtain⟨t,v⟩:=u
  simp only[Env.apply]
  rw[ih (fun u hu=>hF u (List.mem_cons_of_mem _ hu)),Zp]
  have hv:v=F t:=hF (t,v) (List.mem_cons_self ..)
  by_cases h1:x∈us.map (·.1)
  ·simp[h1]
  ·by_cases h2:x=t
   ·subst h2;simp[h1,hv]
   ·simp[h1,h2]
theorem ZT(ρ:Env)(us vs:List (Nat×V)):ρ.apply (us++vs)=(ρ.apply us).apply vs:=by
 induction us generalizing ρ with
 |nil=>rfl
 |cons u us ih=>obtain⟨t,v⟩:=u;simp only[List.cons_append,Env.apply];exact ih _
def Qx(ρ:Env)(tk:Bool)(t:Nat):V:=
 match ρ.get t with
 | .loc _ sh v=> .cptr sh (Zs v)
 | .vec .grow sh es=>if tk then .vec .plain sh es else .vec .grow sh es
 |v=>v
theorem zfE(ρ:Env)(tk:Bool)(xs:List Operand)(t:Nat):(ρ.apply (upds ρ tk xs)).get t=ρ.get t∨(ρ.apply (upds ρ tk xs)).get t=Qx ρ tk t∧Operand.tmp t∈xs:=by
 have hF: ∀u,u∈upds ρ tk xs→u.2=Qx ρ tk u.1∧Operand.tmp u.1∈xs:=by
  intro u hu
  obtain⟨x,hx,hu⟩:=List.mem_flatMap.1 hu
  unfold zlJ at hu
  split at hu
  ·rename_i t
   unfold Qx
   split at hu
   ·rename_i d sh v he
    simp only[List.mem_singleton]at hu;subst hu
    simp only[he];exact⟨trivial,hx⟩
   ·rename_i sh es he
    split at hu
    ·rename_i htk
     simp only[List.mem_singleton]at hu;subst hu
     simp only[he,htk,if_true];exact⟨trivial,hx⟩
    ·simp at hu
   ·simp at hu
  ·simp at hu
 rw[zgI _ (Qx ρ tk) (fun u hu=>(hF u hu).1)]
 split
 ·rename_i h
  obtain⟨u,hu,rfl⟩:=List.mem_map.1 h
  exact .inr ⟨rfl,(hF u hu).2⟩
 ·exact .inl rfl
def zhE:V→Bool
 | .loc .. =>true
 |_=>false
def zgJ(ρ:Env)(xs:List Operand)(t:Nat):Bool:=xs.any fun x=>match x with| .tmp y=>y==t&&zhE (ρ.get t)|_=>false
def Yy(own:Own)(ρ:Env)(xs:List Operand):Own:=fun b i=>match own b i with| .t t j=>(if zgJ ρ xs t then .pr else .t t j)|g=>g
def ValRep(w:World)(own:Own)(μ:List Nat)(x:Operand)(v:V)(c:Value):Prop:=
 match v with
 | .vec .grow sh es=> ∃t,x= .tmp t∧GRep w own μ (.t t 0) sh es c
 |v=>VRep w (prOf own) μ v c
theorem zsr{ρ:Env}{xs:List Operand}{t:Nat}(h:zgJ ρ xs t=true):zhE (ρ.get t)=true:=by
 obtain⟨x,_,hx⟩:=List.any_eq_true.1 h
 split at hx
 ·simp only[Bool.and_eq_true]at hx;exact hx.2
 ·cases hx
theorem zne{ρ:Env}{xs:List Operand}{t:Nat}(h:Operand.tmp t∈xs)(hl:zhE (ρ.get t)=true):zgJ ρ xs t=true:=
 List.any_eq_true.2 ⟨_,h,by simp[hl]⟩
theorem zds{own':Own}{ρ:Env}{tm:Array Value}{t:Nat}{d:Bool}{sh:Sh}{v:V}{c:Value}(h:TRep w own μ ρ tm t (.loc d sh v) c)
  (h1: ∀b i,own b i= .t t 0→own' b i= .pr) (h2: ∀b i,own b i= .pr→own' b i= .pr):VRep w (prOf own') μ (.cptr sh (Zs v)) c:=by
 obtain⟨b,ccs,rfl,⟨ty,fz,hb,hn,hf,ho⟩,hs,hj,_⟩:=h
 refine .cptr _ _ _ (fun j=>ccs.getD j undef) rfl (fun j hj'=>⟨?_, ?_,(hj j hj').1⟩) (Qb hs) fun j hj'=> ?_
 ·have:j<ccs.size:=by omega
  simp[World.cell?,hb,this]
 ·exact h1 _ _ (ho _)
 ·rw[Y5]
  exact(hj j hj').2.plain1.mono (fun b i hp=>⟨h2 _ _ hp,rfl⟩) fun _ _ hb=>hb
theorem Rel.read{n:Nat}{ρ:Env}{st:St}{a:Act}(h:Rel P cfg base n w own μ ρ st a)(tk:Bool)(xs:List Operand):
  Rel P cfg base n w (Yy own ρ xs) μ (ρ.apply (upds ρ tk xs)) st a∧
  Step base w own μ w (Yy own ρ xs) μ (fun g=> ∃t j,g= .t t j∧zgJ ρ xs t=true)∧
  ∀x,x∈xs→ValRep w (Yy own ρ xs) μ x (rd ρ tk x) (a.eval x):=by
 have hs:Step base w own μ w (Yy own ρ xs) μ (fun g=> ∃t j,g= .t t j∧zgJ ρ xs t=true):=by
  refine Step.retag h.sto (fun g=>match g with| .t t j=>(if zgJ ρ xs t then .pr else .t t j)|g=>g) rfl (fun g hg=> ?_) (fun g hg=> ?_) rfl rfl
  ·cases g<;>first|rfl|(rename_i t j;simp only;split<;>first|rfl|(rename_i hf;exact absurd ⟨t,j,rfl,hf⟩ hg))
  ·cases g<;>first|exact hg|(rename_i t j;simp only at hg;split at hg<;>cases hg)
 have hpr: ∀b i,own b i= .pr→Yy own ρ xs b i= .pr:=fun b i hp=>(hs.pr b i hp).1
 have hfz: ∀t,zgJ ρ xs t=true→ ∀b i,own b i= .t t 0→Yy own ρ xs b i= .pr:=fun t ht b i hb=>by simp[Yy,hb,ht]
 have hvr: ∀{v c},VRep w (prOf own) μ v c→VRep w (prOf (Yy own ρ xs)) μ v c:=fun hv=>hs.vrep hv
 have hkeep: ∀t,zgJ ρ xs t=false→ ∀j,¬(∃t' j',(Tag.t t j)= .t t' j'∧zgJ ρ xs t'=true):=fun t ht j=>by
  rintro⟨t',j',e,h'⟩;cases e;rw[ht]at h';cases h'
 have hbase: ∀t v,ρ.get t=v→zhE v=false→TRep w (Yy own ρ xs) μ (ρ.apply (upds ρ tk xs)) a.tmps t v (a.tmps.getD t undef):=by
  intro t v hv hl
  have:=h.env t
  rw[hv]at this
  have hf:zgJ ρ xs t=false:=by
   rw[←Bool.not_eq_true];intro hc
   have:=zsr hc;rw[hv,hl]at this;cases this
  refine hs.trep this (hkeep t hf) fun x off hx=>⟨rfl, ?_⟩
  subst hx
  obtain⟨b,_,_,h3⟩:=this
  rcases zfE ρ tk xs x with e|⟨e,_⟩
  ·rw[e];exact h3
  ·rw[e];unfold Qx
   revert h3
   cases ρ.get x<;>simp
 refine⟨?_,hs,fun x hx=> ?_⟩
 ·refine h.step hs (by rintro⟨_,_,e,_⟩;cases e) h.sto.len rfl rfl (fun r x b h1 h2=> .inl ⟨h1,by rintro j ⟨_,_,e,_⟩;cases e⟩) fun t=> .inr ?_
  rcases zfE ρ tk xs t with e|⟨e,hm⟩
  ·by_cases hl:zhE (ρ.get t)=true
   ·
    by_cases hf:zgJ ρ xs t=true
    ·
     exfalso
     obtain⟨x,hx,hx'⟩:=List.any_eq_true.1 hf
     split at hx'
     ·rename_i y
      simp only[Bool.and_eq_true,beq_iff_eq]at hx'
      obtain⟨rfl,_⟩:=hx'
      revert e
      have hmem:(y,Qx ρ tk y)∈upds ρ tk xs:=by
       refine List.mem_flatMap.2 ⟨_,hx, ?_⟩
       have hl':=hl
       cases hy:ρ.get y with
       |loc d sh v=>simp[zlJ,Qx,hy]
       |_=>rw[hy]at hl';cases hl'
      have hF: ∀u,u∈upds ρ tk xs→u.2=Qx ρ tk u.1:=by
       intro u hu
       obtain⟨x,hx,hu⟩:=List.mem_flatMap.1 hu
       unfold zlJ at hu
       split at hu
       ·unfold Qx
        split at hu
        ·rename_i he;simp only[List.mem_singleton]at hu;subst hu;simp only[he]
        ·rename_i he
         split at hu
         ·rename_i htk;simp only[List.mem_singleton]at hu;subst hu;simp only[he,htk,if_true]
         ·simp at hu
        ·simp at hu
       ·simp at hu
      rw[zgI _ (Qx ρ tk) hF,if_pos (List.mem_map.2 ⟨_,hmem,rfl⟩)]
      unfold Qx
      revert hl
      cases hy:ρ.get y<;>simp[zhE]
     ·cases hx'
    ·have hf':zgJ ρ xs t=false:=by simpa using hf
     rw[e]
     refine hs.trep (h.env t) (hkeep t hf') fun x off hx=> ?_
     rw[hx]at hl;cases hl
   ·rw[e];exact hbase t _ rfl (by simpa using hl)
  ·rw[e]
   unfold Qx
   split
   ·rename_i d sh v he
    have:=h.env t
    rw[he]at this
    exact zds this (hfz t (zne hm (by rw[he];rfl))) hpr
   ·rename_i sh es he
    have:=hbase t _ he rfl
    split
    ·exact GRep.plain this
    ·exact this
   ·rename_i h1 h2
    exact hbase t _ rfl (by
     cases hy:ρ.get t<;>first|rfl|exact absurd hy (h1 _ _ _))
 ·cases x with
  |tmp t=>
   have he:a.eval (.tmp t)=a.tmps.getD t undef:=rfl
   simp only[rd,ev,he]
   have:=h.env t
   cases hv:ρ.get t with
   |loc d sh v=>
    rw[hv]at this
    exact zds this (hfz t (zne hx (by rw[hv];rfl))) hpr
   |vec m sh es=>
    cases m with
    |grow=>
     have hb:=hbase t _ hv rfl
     simp only[zgD]
     split
     ·exact⟨t,rfl,hb⟩
     ·exact GRep.plain hb
    |plain=>have hb:=hbase t _ hv rfl;exact hb
    |full=>have hb:=hbase t _ hv rfl;exact hb
   |lptr x off=>exact .undef _
   |_=>have hb:=hbase t _ hv rfl;exact hb
  |const v=>
   have:VRep w (prOf (Yy own ρ xs)) μ (zf9 v) v:=zgH v
   show ValRep _ _ _ _ (zgD tk (zf9 v)) v
   revert this
   cases v with
   |int k n=>cases k<;>exact fun h=>h
   |pointer a=>cases a<;>exact fun h=>h
   |slice a l c=>
    unfold zf9
    split<;>first|exact fun h=>h|(rename_i e;cases e)
   |func f a b=>
    cases f with
    |func g=>
     unfold zf9
     simp only
     split<;>exact fun h=>h
    |_=>exact fun h=>h
   |_=>exact fun h=>h
  |global g=>exact .undef _
  |func f=>exact .fn _ [] [] #[] #[] rfl rfl (fun i hi=>by simp at hi) (fun i hi=>by simp at hi)
end
end Go.AM
namespace Go.AM
open Go Go.RowKit
section
variable{P:Program}{cfg:Cfg}{base n:Nat}{w:World}{own:Own}{μ:List Nat}{ρ:Env}{st:St}{a:Act}
theorem XC(a:Act)(d:Nat)(c:Value)(t:Nat)(hd:d<a.tmps.size):(a.put (some d) c).tmps.getD t undef=if t=d then c else a.tmps.getD t undef:=by
 simp only[Act.put,Array.getD_eq_getD_getElem?,Array.getElem?_setIfInBounds]
 by_cases h:d=t
 ·subst h;simp[hd]
 ·simp[h,Ne.symm h]
theorem TRep.of_val{tm:Array Value}{t:Nat}{v:V}{c:Value}(h:VRep w (prOf own) μ v c):TRep w own μ ρ tm t v c:=by
 unfold TRep
 split
 ·cases h
 ·cases h
 ·cases h with
  |vecE _ _ _ _ hg _=>exact absurd rfl hg
  |vec _ _ _ _ _ _ hm=>exact absurd rfl hm
 ·exact h
theorem CRep.of_val{g:Tag}{v:V}{c:Value}(h:VRep w (prOf own) μ v c):CRep w own μ g v c:=by
 unfold CRep
 split
 ·cases h with
  |vecE _ _ _ _ hg _=>exact absurd rfl hg
  |vec _ _ _ _ _ _ hm=>exact absurd rfl hm
 ·exact h
theorem TRep.env{ρ':Env}{tm tm':Array Value}{t:Nat}{v:V}{c:Value}(h:TRep w own μ ρ tm t v c)(hl: ∀y off,v≠ .lptr y off):TRep w own μ ρ' tm' t v c:=by
 cases v with
 |lptr y off=>exact absurd rfl (hl y off)
 |vec m sh es=>cases m<;>exact h
 |_=>exact h
def zdt(ρ:Env)(d:Nat):Prop:= ∀t off,ρ.get t≠ .lptr d off
theorem Rel.put_any(h:Rel P cfg base n w own μ ρ st a)(d:Nat)(hd:d<n)(hno:zdt ρ d){v:V}{c:Value}(hl: ∀x off,v≠ .lptr x off)
  (hv: ∀ρ' tm',TRep w own μ ρ' tm' d v c):Rel P cfg base n w own μ (ρ.set d v) st (a.put (some d) c):=by
 have hd':d<a.tmps.size:=by rw[h.tmps];exact hd
 refine h.step (Step.refl' h.sto) (fun h=>h) h.sto.len (by simp[Act.put]) rfl (fun r x b h1 h2=> .inl ⟨h1,fun _ h=>h⟩) fun t=> ?_
 by_cases ht:t=d
 ·subst ht
  right
  rw[Zp,if_pos rfl,XC _ _ _ _ hd',if_pos rfl]
  exact hv _ _
 ·left
  refine⟨by rw[Zp,if_neg ht],by rw[XC _ _ _ _ hd',if_neg ht],fun _ h=>h,fun x off hx=> ?_⟩
  have hxd:x≠d:=fun e=>hno t off (by rw[hx,e])
  refine⟨by rw[XC _ _ _ _ hd',if_neg hxd], ?_⟩
  rw[Zp,if_neg hxd]
  have:=h.env t
  rw[hx]at this
  obtain⟨_,_,_,h3⟩:=this
  exact h3
theorem Rel.put(h:Rel P cfg base n w own μ ρ st a)(d:Nat)(hd:d<n)(hno:zdt ρ d){v:V}{c:Value}(hv:VRep w (prOf own) μ v c):
  Rel P cfg base n w own μ (ρ.set d v) st (a.put (some d) c):=
 h.put_any d hd hno (fun x off e=>by subst e;cases hv) fun _ _=>TRep.of_val hv
theorem Rel.put_lptr(h:Rel P cfg base n w own μ ρ st a)(d:Nat)(hd:d<n)(hno:zdt ρ d){x off:Nat}{c:Value}(hxd:x≠d)
  (hv:TRep w own μ ρ a.tmps d (.lptr x off) c):Rel P cfg base n w own μ (ρ.set d (.lptr x off)) st (a.put (some d) c):=by
 have hd':d<a.tmps.size:=by rw[h.tmps];exact hd
 refine h.step (Step.refl' h.sto) (fun h=>h) h.sto.len (by simp[Act.put]) rfl (fun r x b h1 h2=> .inl ⟨h1,fun _ h=>h⟩) fun t=> ?_
 by_cases ht:t=d
 ·subst ht
  right
  rw[Zp,if_pos rfl,XC _ _ _ _ hd',if_pos rfl]
  obtain⟨b,h1,h2,h3⟩:=hv
  exact⟨b,by rw[XC _ _ _ _ hd',if_neg hxd];exact h1,h2,by rw[Zp,if_neg hxd];exact h3⟩
 ·left
  refine⟨by rw[Zp,if_neg ht],by rw[XC _ _ _ _ hd',if_neg ht],fun _ h=>h,fun y off hx=> ?_⟩
  have hxd:y≠d:=fun e=>hno t off (by rw[hx,e])
  refine⟨by rw[XC _ _ _ _ hd',if_neg hxd], ?_⟩
  rw[Zp,if_neg hxd]
  have:=h.env t
  rw[hx]at this
  obtain⟨_,_,_,h3⟩:=this
  exact h3
def Qy(own:Own)(g g':Tag):Own:=fun b i=>if own b i=g then g' else own b i
theorem GRep.mv{g g':Tag}{sh:Sh}{es:List V}{c:Value}(h:GRep w own μ g sh es c)(hg:g≠ .pr):GRep w (Qy own g g') μ g' sh es c:=by
 obtain⟨A,cap,hc,hl,h⟩:=h
 refine⟨A,cap,hc,hl, ?_⟩
 have hp: ∀b i,own b i= .pr→Qy own g g' b i= .pr:=fun b i hp=>by
  unfold Qy;rw[if_neg (by rw[hp];exact Ne.symm hg)];exact hp
 rcases h with h|⟨a,f,ccs,ty,fz,hA,ha,hb,hcap,hcell,hsh,hrep,hsp⟩
 ·exact .inl h
 ·refine .inr ⟨a,f,ccs,ty,fz,hA,ha,hb,hcap,fun i j hi hj=> ?_,hsh,fun i j hi hj=>(hrep i j hi hj).mono (fun b i h=>⟨hp b i h,rfl⟩) fun _ _ h=>h,fun k h1 h2=> ?_⟩
  ·obtain⟨h1,h2,h3⟩:=hcell i j hi hj
   exact⟨h1,hp _ _ h2,h3⟩
  ·obtain⟨h3,h4⟩:=hsp k h1 h2
   exact⟨by simp[Qy,h3],h4⟩
theorem Step.mv(hs:Sto P cfg base w own μ st){x j:Nat}{g':Tag}(hg':g'≠ .fr)(hbase:g'= .pr∨g'= .free∨True):Step base w own μ w (Qy own (.t x j) g') μ (fun g=>g= .t x j):=by
 refine Step.retag hs (fun g=>if g= .t x j then g' else g) (by simp) (fun g hg=>by simp[hg]) (fun g hg=> ?_) (by simp) (by simp)
 by_cases e:g= .t x j
 ·simp[e]at hg;exact absurd hg hg'
 ·simpa[e]using hg
theorem Rel.put_grow'(h:Rel P cfg base n w own μ ρ st a)(d:Nat)(hd:d<n)(hno:zdt ρ d){x j:Nat}{sh:Sh}{es:List V}{c:Value}
  (hx:x≠d→ ∀tm',TRep w (Qy own (.t x j) (.t d 0)) μ ρ tm' x (ρ.get x) (a.tmps.getD x undef)) (hxl: ∀y off,ρ.get x≠ .lptr y off) (hv:GRep w own μ (.t x j) sh es c):
  Rel P cfg base n w (Qy own (.t x j) (.t d 0)) μ (ρ.set d (.vec .grow sh es)) st (a.put (some d) c)∧Step base w own μ w (Qy own (.t x j) (.t d 0)) μ (fun g=>g= .t x j):=by
 have hd':d<a.tmps.size:=by rw[h.tmps];exact hd
 have s:Step base w own μ w (Qy own (.t x j) (.t d 0)) μ (fun g=>g= .t x j):=Step.mv h.sto (by simp) (.inr (.inr trivial))
 refine⟨h.step s (by simp) h.sto.len (by simp[Act.put]) rfl (fun r x b h1 h2=> .inl ⟨h1,fun _ h=>by cases h⟩) fun t=> ?_,s⟩
 by_cases ht:t=d
 ·subst ht
  right
  rw[Zp,if_pos rfl,XC _ _ _ _ hd',if_pos rfl]
  exact hv.mv (by simp)
 ·by_cases htx:t=x
  ·subst htx
   right
   rw[Zp,if_neg ht,XC _ _ _ _ hd',if_neg ht]
   exact(hx ht (a.put (some d) c).tmps).env hxl
  ·left
   refine⟨by rw[Zp,if_neg ht],by rw[XC _ _ _ _ hd',if_neg ht],fun j h=>by cases h;exact htx rfl,fun y off hx=> ?_⟩
   have hxd:y≠d:=fun e=>hno t off (by rw[hx,e])
   refine⟨by rw[XC _ _ _ _ hd',if_neg hxd], ?_⟩
   rw[Zp,if_neg hxd]
   have:=h.env t
   rw[hx]at this
   obtain⟨_,_,_,h3⟩:=this
   exact h3
theorem Rel.put_grow(h:Rel P cfg base n w own μ ρ st a)(d:Nat)(hd:d<n)(hno:zdt ρ d){x:Nat}{sh:Sh}{es:List V}{c:Value}
  (hx: ∃sh' es',ρ.get x= .vec .plain sh' es') (hv:GRep w own μ (.t x 0) sh es c):
  Rel P cfg base n w (Qy own (.t x 0) (.t d 0)) μ (ρ.set d (.vec .grow sh es)) st (a.put (some d) c)∧Step base w own μ w (Qy own (.t x 0) (.t d 0)) μ (fun g=>g= .t x 0):=by
 obtain⟨sh',es',he⟩:=hx
 have s:Step base w own μ w (Qy own (.t x 0) (.t d 0)) μ (fun g=>g= .t x 0):=Step.mv h.sto (by simp) (.inr (.inr trivial))
 refine h.put_grow' d hd hno (fun _ tm'=> ?_) (by rw[he];simp) hv
 have:=h.env x
 rw[he]at this⊢
 exact TRep.of_val (s.vrep this)
theorem zcc{pr:Nat→Nat→Prop}{t:TypeId}{v:V}{c:Value}(h:VRep w pr μ v c):VRep w pr μ (ZZ P t v) c:=by
 unfold ZZ
 split
 ·cases h
  split
  ·exact .vecE _ _ _ _ (by simp) (by simp)
  ·exact .undef _
 ·exact h
theorem znf{pr:Nat→Nat→Prop}{t:TypeId}{v:V}{c:Value}(h:VRep w pr μ v c):VRep w pr μ (plainAs P t v) c:=(zcc h).plain1
theorem ValRep.plain{x:Operand}{v:V}{c:Value}(h:ValRep w own μ x v c):VRep w (prOf own) μ (plain1 v) c:=by
 unfold ValRep at h
 split at h
 ·obtain⟨t,_,h⟩:=h;exact GRep.plain h
 ·exact h.plain1
theorem ValRep.plainAs{t:TypeId}{x:Operand}{v:V}{c:Value}(h:ValRep w own μ x v c):VRep w (prOf own) μ (plainAs P t v) c:=by
 unfold ValRep at h
 split at h
 ·obtain⟨t,_,h⟩:=h;exact GRep.plain h
 ·exact znf h
theorem ValRep.plainS{t:TypeId}{x:Operand}{v:V}{c:Value}(h:ValRep w own μ x v c):VRep w (prOf own) μ (AM.plainS P t v) c:=by
 by_cases hs: ∃sh es q,v= .spr sh es q
 ·obtain⟨sh,es,q,rfl⟩:=hs
  exact h
 ·have:AM.plainS P t v=AM.plainAs P t v:=by
   cases v<;>first|rfl|exact absurd ⟨_,_,_,rfl⟩ hs
  rw[this]
  exact h.plainAs
theorem Yt{w':World}{own':Own}{μ':List Nat}{X:Tag→Prop}(s:Step base w own μ w' own' μ' X)(h: ∀g,X g→(∃t j,g= .t t j)∨(∃r j,g= .r r j)):Keeps base w own μ w' own' μ':=
 s.keeps fun hx=>by rcases h _ hx with⟨_,_,e⟩|⟨_,_,e⟩<;>cases e
theorem Z8{xs:List Operand}(s:Step base w own μ w (Yy own ρ xs) μ (fun g=> ∃t j,g= .t t j∧zgJ ρ xs t=true)):Keeps base w own μ w (Yy own ρ xs) μ:=
 Yt s fun g ⟨t,j,e,_⟩=> .inl ⟨t,j,e⟩
def LP(all:List Oper)(ρ:Env):Prop:= ∀t x off,ρ.get t= .lptr x off→ ∃o,o∈all∧o.dst=some t
theorem LP.read{all:List Oper}(h:LP all ρ)(tk:Bool)(xs:List Operand):LP all (ρ.apply (upds ρ tk xs)):=by
 intro t x off ht
 rcases zfE ρ tk xs t with e|⟨e,_⟩
 ·exact h t x off (e▸ht)
 ·rw[e]at ht
  unfold Qx at ht
  split at ht
  ·cases ht
  ·split at ht<;>cases ht
  ·exact h t x off ht
theorem Qc{d:Nat}(h:zdt ρ d)(tk:Bool)(xs:List Operand):zdt (ρ.apply (upds ρ tk xs)) d:=by
 intro t off ht
 rcases zfE ρ tk xs t with e|⟨e,_⟩
 ·exact h t off (e▸ht)
 ·rw[e]at ht
  unfold Qx at ht
  split at ht
  ·cases ht
  ·split at ht<;>cases ht
  ·exact h t off ht
theorem LP.set{all:List Oper}(h:LP all ρ){o:Oper}(ho:o∈all){d:Nat}(hd:o.dst=some d)(v:V):LP all (ρ.set d v):=by
 intro t x off ht
 rw[Zp]at ht
 split at ht
 ·rename_i e;subst e;exact⟨o,ho,hd⟩
 ·exact h t x off ht
theorem zss{all:List Oper}(hLP:LP all ρ)(h:Rel P cfg base n w own μ ρ st a){d:Nat}{o:Oper}(hd:o.dst=some d)(hok:okDst all ρ o.dst=true):zdt ρ d:=by
 intro t off ht
 have h1:=h.env t
 rw[ht]at h1
 obtain⟨b,_,_,h3⟩:=h1
 rw[hd]at hok
 unfold okDst at hok
 simp only at hok
 obtain⟨o',ho',hd'⟩:=hLP t d off ht
 have key:zep d all ρ=true→False:=fun hk=>by
  have:=List.all_eq_true.1 hk o' ho'
  simp[hd',ht]at this
 revert hok h3
 cases ρ.get d<;>simp<;>exact Bool.eq_false_iff.2 fun h=>key h
end
end Go.AM
namespace Go.AM
open Go Go.RowKit
section
variable{P:Program}{cfg:Cfg}{base n:Nat}{w:World}{own:Own}{μ:List Nat}{ρ:Env}{st:St}{a:Act}
theorem zcd(ρ:Env)(tk:Bool)(xs:List Operand)(t:Nat):(Operand.tmp t∈xs→(ρ.apply (upds ρ tk xs)).get t=Qx ρ tk t)∧(Operand.tmp t∉xs→(ρ.apply (upds ρ tk xs)).get t=ρ.get t):=by
 have hF: ∀u,u∈upds ρ tk xs→u.2=Qx ρ tk u.1∧Operand.tmp u.1∈xs:=by
  intro u hu
  obtain⟨x,hx,hu⟩:=List.mem_flatMap.1 hu
  unfold zlJ at hu
  split at hu
  ·rename_i t
   unfold Qx
   split at hu
   ·rename_i d sh v he
    simp only[List.mem_singleton]at hu;subst hu
    simp only[he];exact⟨trivial,hx⟩
   ·rename_i sh es he
    split at hu
    ·rename_i htk
     simp only[List.mem_singleton]at hu;subst hu
     simp only[he,htk,if_true];exact⟨trivial,hx⟩
    ·simp at hu
   ·simp at hu
  ·simp at hu
 rw[zgI _ (Qx ρ tk) (fun u hu=>(hF u hu).1)]
 refine⟨fun h=> ?_,fun h=> ?_⟩
 ·split
  ·rfl
  ·rename_i hn
   unfold Qx
   cases he:ρ.get t with
   |loc d sh v=>
    exact absurd (List.mem_map.2 ⟨(t, .cptr sh (Zs v)),List.mem_flatMap.2 ⟨_,h,by simp[zlJ,he]⟩,rfl⟩) hn
   |vec m sh es=>
    cases m with
    |grow=>
     cases tk with
     |true=>exact absurd (List.mem_map.2 ⟨(t, .vec .plain sh es),List.mem_flatMap.2 ⟨_,h,by simp[zlJ,he]⟩,rfl⟩) hn
     |false=>rfl
    |_=>rfl
   |_=>rfl
 ·rw[if_neg]
  intro hm
  obtain⟨u,hu,rfl⟩:=List.mem_map.1 hm
  exact h (hF u hu).2
theorem QF{t:TypeId}(h:okTy P t=true): ∃d i,P.underlying t=some d∧P.info? t=some i∧i.size=(shOf P t).sz∧
  (match d with| .struct _| .array _ _=>true|_=>false)=(shOf P t).isSome:=by
 unfold okTy at h
 rw[Bool.and_eq_true,Bool.and_eq_true,Bool.and_eq_true,beq_iff_eq]at h
 obtain⟨⟨⟨h1,h2⟩,h3⟩,_⟩:=h
 obtain⟨d,hd⟩:=Option.isSome_iff_exists.1 h1
 obtain⟨i,hi⟩:=Option.isSome_iff_exists.1 h2
 refine⟨d,i,hd,hi,by simpa[hi]using h3, ?_⟩
 unfold shOf
 rw[hd]
 cases d<;>rfl
theorem zaN{t:TypeId}(h:okTy P t=true): ∃i z,P.info? t=some i∧i.zero=some z∧z.cells.size=(shOf P t).sz∧z.cells.all (·.oneCell')=true:=by
 unfold okTy at h
 rw[Bool.and_eq_true,Bool.and_eq_true,Bool.and_eq_true]at h
 obtain⟨⟨⟨_,h2⟩,_⟩,h3⟩:=h
 obtain⟨i,hi⟩:=Option.isSome_iff_exists.1 h2
 rw[hi]at h3
 simp only[Option.bind_some]at h3
 cases hz:i.zero with
 |none=>rw[hz]at h3;cases h3
 |some z=>
  rw[hz]at h3
  simp only[Bool.and_eq_true,beq_iff_eq]at h3
  exact⟨i,z,hi,hz,h3⟩
theorem ziP{t:TypeId}(h:okTy P t=true)(w:World):(isAgg t).run P w= .ok (shOf P t).isSome w:=by
 obtain⟨d,i,hd,_,_,hs⟩:=QF h
 rw[←hs]
 simp only[isAgg,Sem.run_bind,Go.run_underlying hd,Result.andThen_ok]
 cases d<;>rfl
theorem YW{t:TypeId}(h:okTy P t=true)(w:World):(sizeOf t).run P w= .ok (shOf P t).sz w:=by
 obtain⟨d,i,_,hi,hs,_⟩:=QF h
 simp[sizeOf,typeInfo,program,Sem.run,hi,hs]
def valOf(sh:Sh)(f:Nat→Value):Value:=
 match sh with
 |none=>f 0
 |some n=> .agg ((List.range n).map f).toArray
theorem Xz(b o j:Nat):(⟨b,o,none⟩:Addr).add j=⟨b,o+j,none⟩:=by unfold Addr.add;split<;>simp_all
theorem Y6{t:TypeId}(h:okTy P t=true)(w:World)(b o:Nat)(f:Nat→Value)(hc: ∀j,j<(shOf P t).sz→w.cell? ⟨b,o+j,none⟩=some (f j)):
  (loadVar t ⟨b,o,none⟩).run P w= .ok (valOf (shOf P t) f) w:=by
 simp only[loadVar,Sem.run_bind,ziP h,Result.andThen_ok]
 cases hs:shOf P t with
 |none=>
  rw[hs]at hc
  have h0:=hc 0 (by simp[Sh.sz])
  simp only[Nat.add_zero]at h0
  simp[valOf,run_load,h0]
 |some n=>
  rw[hs]at hc
  have hsz:=YW h w
  rw[hs]at hsz
  have hl:=run_loadCells (P:=P) w ⟨b,o,none⟩ n f (fun j hj=>by rw[Xz];exact hc j hj)
  simp only[Option.isSome_some,if_true,Sem.run_bind,hsz,Result.andThen_ok,Sh.sz,hl]
  rfl
theorem VRep.of_cells{pr:Nat→Nat→Prop}{sh:Sh}{v:V}{f:Nat→Value}(hs:Shaped sh v)(h: ∀j,j<sh.sz→(f j).oneCell'=true∧VRep w pr μ (cellAt v j) (f j)):VRep w pr μ v (valOf sh f):=by
 cases sh with
 |none=>
  have h0:=(h 0 (by simp[Sh.sz])).2
  have:cellAt v 0=v:=by cases v<;>first|rfl|exact hs.elim
  rw[this]at h0
  exact h0
 |some n=>
  cases v with
  |agg cs=>
   have hl:cs.length=n:=hs
   refine .agg _ _ (by simp[hl]) (fun i hi=> ?_) fun i hi=> ?_
   ·have:=(h i (by simp[Sh.sz];omega)).1
    have hi':i<n:=by omega
    simpa[Array.getD_eq_getD_getElem?,hi']using this
   ·have:=(h i (by simp[Sh.sz];omega)).2
    have hi':i<n:=by omega
    simpa[Array.getD_eq_getD_getElem?,hi',cellAt,cellsOf]using this
  |_=>exact hs.elim
theorem Jc{R:Type}{c:CT}{v:V}{K:V→Option R}{r:R}(h:Yl c v K=some r):K v=some r:=by
 cases c<;>simp only[Yl]at h
 ·cases v<;>simp_all[Zm]
 ·cases v<;>simp[zkn]at h
  obtain⟨rfl,h⟩:=h;exact h
 ·cases v<;>simp_all[Zl]
 ·cases v<;>simp_all[zcY]
 ·unfold Yp at h
  split at h
  ·split at h
   ·rename_i e;subst e;exact h
   ·cases h
  ·cases h
 ·cases v<;>simp_all[zf8]
 ·exact h
 ·unfold zdp at h
  split at h
  ·split at h
   ·rename_i es e
    subst e
    cases es with
    |nil=>exact h
    |cons _ _=>cases h
   ·cases h
  ·cases h
theorem zfF{R:Type}(cs:List CT): ∀(vs:List V) (K:List V→Option R) (r:R),onCells cs vs (zbw R cs K)=some r→K vs=some r:=by
 have no: ∀{r:R},(none:Option R)=some r→False:=fun h=>by cases h
 induction cs with
 |nil=>
  intro vs K r h
  cases vs with
  |nil=>exact h
  |cons v vs=>exact(no h).elim
 |cons c cs ih=>
  intro vs K r h
  cases vs with
  |nil=>cases c<;>exact(no h).elim
  |cons v vs=>
   cases c with
   |int=>cases v with
    |int x=>exact ih vs (fun vs=>K (.int x::vs)) r h
    |_=>exact(no h).elim
   |bool=>cases v with
    |bool x=>exact ih vs (fun vs=>K (.bool x::vs)) r h
    |_=>exact(no h).elim
   |str=>cases v with
    |str x=>exact ih vs (fun vs=>K (.str x::vs)) r h
    |_=>exact(no h).elim
   |fn=>cases v with
    |fn g a b=>exact ih vs (fun vs=>K (.fn g a b::vs)) r h
    |_=>exact(no h).elim
   |any=>exact ih vs (fun vs=>K (v::vs)) r h
   |nil sh=>
    cases v with
    |vec m sh' es=>
     cases m with
     |full=>
      cases es with
      |nil=>
       have h':(if sh'=sh then onCells cs vs (zbw R cs fun vs=>K (.vec .full sh []::vs))else none)=some r:=h
       split at h'
       ·rename_i e;subst e;exact ih vs _ r h'
       ·exact(no h').elim
      |cons _ _=>exact(no h).elim
     |_=>exact(no h).elim
    |_=>exact(no h).elim
   |ik k=>
    cases v with
    |ik k' x=>
     have h':(if k'=k then onCells cs vs (zbw R cs fun vs=>K (.ik k x::vs))else none)=some r:=h
     split at h'
     ·rename_i e;subst e;exact ih vs _ r h'
     ·exact(no h').elim
    |_=>exact(no h).elim
   |slice sh=>
    cases v with
    |vec m sh' es=>
     cases m with
     |plain=>
      have h':(if sh'=sh then onCells cs vs (zbw R cs fun vs=>K (.vec .plain sh es::vs))else none)=some r:=h
      split at h'
      ·rename_i e;subst e;exact ih vs _ r h'
      ·exact(no h').elim
     |_=>exact(no h).elim
    |_=>exact(no h).elim
theorem zlN{R:Type}{t:TypeId}{v:V}{K:V→Option R}{r:R}(h:zej P t v K=some r):K v=some r:=by
 unfold zej at h
 split at h
 ·split at h
  ·exact Jc h
  ·cases h
 ·unfold Zc at h
  split at h
  ·exact zfF _ _ (fun cs=>K (.agg cs)) r h
  ·cases h
theorem zlO{R:Type}{cl:Bool}{t:TypeId}{v:V}{K:V→Option R}{r:R}(h:zcx P cl t v K=some r):K v=some r:=by
 unfold zcx at h
 split at h
 ·cases cl with
  |true=>
   simp only at h
   unfold Qo at h
   split at h
   ·split at h
    ·rename_i e;subst e;exact h
    ·cases h
   ·cases h
  |false=>
   simp only at h
   unfold zqy at h
   split at h
   ·split at h
    ·rename_i e;subst e;exact h
    ·cases h
   ·cases h
 ·exact zlN h
theorem YS{R:Type}{t:TypeId}{v:V}{K:V→Option R}{r:R}(h:QD P t v K=some r):K v=some r:=by
 unfold QD at h
 split at h
 ·split at h
  ·exact Jc h
  ·cases h
 ·unfold Zc at h
  split at h
  ·exact zfF _ _ (fun cs=>K (.agg cs)) r h
  ·cases h
theorem zlP{R:Type}{rw:Bool}{t:TypeId}{v:V}{K:V→Option R}{r:R}(h:zem P rw t v K=some r):K v=some r:=by
 unfold zem at h
 split at h
 ·split at h
  ·unfold Qo at h
   split at h
   ·split at h
    ·rename_i he;subst he;exact h
    ·cases h
   ·cases h
  ·cases h
 ·exact YS h
theorem zfG{R:Type}{t:TypeId}{v:V}{K:V→Option R}{r:R}(h:zcy P t v K=some r):K v=some r:=by
 unfold zcy at h
 split at h
 ·cases v<;>first|exact h|cases h
 ·exact YS h
theorem zfH{R:Type}{t:TypeId}{v:V}{K:V→Option R}{r:R}(h:zek P t v K=some r):K v=some r:=by
 unfold zek at h
 split at h
 ·exact zfG h
 ·exact h
theorem Zh{R:Type}{b:Bool}{x:Option R}{r:R}(h:gd b x=some r):b=true∧x=some r:=by
 cases b
 ·simp[gd]at h
 ·exact⟨rfl,h⟩
theorem YH{R:Type}{v:V}{K:Int→Option R}{r:R}(h:Zm v K=some r): ∃i,v= .int i∧K i=some r:=by
 cases v<;>simp[Zm]at h
 exact⟨_,rfl,h⟩
theorem zla{R:Type}{k:IntKind}{v:V}{K:Int→Option R}{r:R}(h:zkn k v K=some r): ∃i,v= .ik k i∧K i=some r:=by
 cases v<;>simp[zkn]at h
 obtain⟨rfl,h⟩:=h
 exact⟨_,rfl,h⟩
theorem zdu{R:Type}{v:V}{K:Bool→Option R}{r:R}(h:Zl v K=some r): ∃i,v= .bool i∧K i=some r:=by
 cases v<;>simp only[Zl]at h<;>first|exact⟨_,rfl,h⟩|cases h
theorem zc2{R:Type}{v:V}{K:ByteArray→Option R}{r:R}(h:zcY v K=some r): ∃i,v= .str i∧K i=some r:=by
 cases v<;>simp[zcY]at h
 exact⟨_,rfl,h⟩
theorem zdv{R:Type}{vs:List V}{K:V→List V→Option R}{r:R}(h:Zd vs K=some r): ∃v us,vs=v::us∧K v us=some r:=by
 unfold Zd at h
 split at h
 ·exact⟨_,_,rfl,h⟩
 ·cases h
theorem zc3{R:Type}{vs:List V}{x:Option R}{r:R}(h:Zn vs x=some r):vs=[]∧x=some r:=by
 unfold Zn at h
 split at h
 ·cases h
 ·exact⟨rfl,h⟩
theorem JG{R:Type}{v:V}{K:List V→Option R}{r:R}(h:Xc v K=some r): ∃cs,v= .agg cs∧K cs=some r:=by
 cases v<;>simp[Xc]at h
 exact⟨_,rfl,h⟩
theorem ziQ{R:Type}{v:V}{K:List V→Option R}{r:R}(h:ZM v K=some r): ∃cs,v= .tup cs∧K cs=some r:=by
 cases v<;>simp[ZM]at h
 exact⟨_,rfl,h⟩
structure OpOK(P:Program)(cfg:Cfg)(base n:Nat)(all:List Oper)(w:World)(own:Own)(μ:List Nat)(o:Oper)(a:Act)(ρ':Env)(st':St):Prop where
 ok: ∃nx cv w' own' μ',(execOp a.eval o).run P w= .ok nx w'∧(nx= .value cv∨(nx= .skip∧cv=undef))∧Rel P cfg base n w' own' μ' ρ' st' (a.put o.dst cv)∧
  Keeps base w own μ w' own' μ'∧LP all ρ'
structure Pre(P:Program)(cfg:Cfg)(base n:Nat)(all:List Oper)(w:World)(own:Own)(μ:List Nat)(ρ:Env)(st:St)(a:Act)(o:Oper):Prop where
 rel:Rel P cfg base n w own μ ρ st a
 lp:LP all ρ
 mem:o∈all
 dst: ∀d,o.dst=some d→d<n
 okd:okDst all ρ o.dst=true
theorem Pre.noPtr{all:List Oper}{o:Oper}(h:Pre P cfg base n all w own μ ρ st a o){d:Nat}(hd:o.dst=some d):zdt ρ d:=zss h.lp h.rel hd h.okd
theorem zpg{all:List Oper}{o:Oper}(h:Pre P cfg base n all w own μ ρ st a o)(tk:Bool)(xs:List Operand)(x:Operand){v:V}{c:Value}
  (hx: ∀t sh es,v=V.vec .grow sh es→x= .tmp t→tk=true∧ ∃sh' es',ρ.get t= .vec .grow sh' es'∧Operand.tmp t∈xs) (hv:ValRep w (Yy own ρ xs) μ x v c) (hrun:(execOp a.eval o).run P w= .ok (.value c) w):
  OpOK P cfg base n all w own μ o a (ρ.apply (upds ρ tk xs++ZL o.dst v)) st:=by
 obtain⟨hr,hs,_⟩:=h.rel.read tk xs
 have hk:=Z8 hs
 rw[ZT]
 cases hd:o.dst with
 |none=>
  exact⟨_,c,w,_,μ,hrun, .inl rfl,by rw[hd];exact hr,hk,h.lp.read tk xs⟩
 |some d=>
  have hnp:=Qc (h.noPtr hd) tk xs
  have hLP:LP all ((ρ.apply (upds ρ tk xs)).set d v):=(h.lp.read tk xs).set h.mem hd v
  show OpOK P cfg base n all w own μ o a ((ρ.apply (upds ρ tk xs)).set d v) st
  unfold ValRep at hv
  split at hv
  ·rename_i sh es
   obtain⟨t,rfl,hg⟩:=hv
   obtain⟨htk,sh',es',he,hm⟩:=hx t sh es rfl rfl
   have hplain: ∃sh' es',(ρ.apply (upds ρ tk xs)).get t= .vec .plain sh' es':=by
    rw[(zcd ρ tk xs t).1 hm];simp[Qx,he,htk]
   obtain⟨h1,h2⟩:=hr.put_grow d (h.dst d hd) hnp hplain hg
   exact⟨_,c,w,_,μ,hrun, .inl rfl,by rw[hd];exact h1,hk.trans (Yt h2 fun g e=> .inl ⟨_,_,e⟩),hLP⟩
  ·exact⟨_,c,w,_,μ,hrun, .inl rfl,by rw[hd];exact hr.put d (h.dst d hd) hnp hv,hk,hLP⟩
theorem Ym{all:List Oper}{o:Oper}(h:Pre P cfg base n all w own μ ρ st a o)(tk:Bool)(xs:List Operand)
  {v:V} {c:Value} (hv:VRep w (prOf (Yy own ρ xs)) μ v c) (hrun:(execOp a.eval o).run P w= .ok (.value c) w):
  OpOK P cfg base n all w own μ o a (ρ.apply (upds ρ tk xs++ZL o.dst v)) st:=by
 obtain⟨hr,hs,_⟩:=h.rel.read tk xs
 have hk:=Z8 hs
 rw[ZT]
 cases hd:o.dst with
 |none=>exact⟨_,c,w,_,μ,hrun, .inl rfl,by rw[hd];exact hr,hk,h.lp.read tk xs⟩
 |some d=>
  have hnp:=Qc (h.noPtr hd) tk xs
  exact⟨_,c,w,_,μ,hrun, .inl rfl,by rw[hd];exact hr.put d (h.dst d hd) hnp hv,hk,(h.lp.read tk xs).set h.mem hd v⟩
end
end Go.AM
namespace Go.AM
open Go Go.RowKit
section
variable{P:Program}{cfg:Cfg}{base n:Nat}{w:World}{own:Own}{μ:List Nat}{ρ:Env}{st:St}{a:Act}
variable{fid rid idx:Nat}{all:List Oper}{o:Oper}{R:Type}{K:List (Nat×V)→Option R}{r:R}
theorem zer{tk:Bool}{x:Operand}{sh:Sh}{es:List V}(h:rd ρ tk x= .vec .grow sh es):tk=true∧ ∃t,x= .tmp t∧ρ.get t= .vec .grow sh es:=by
 unfold rd zgD at h
 split at h
 ·cases h
 ·split at h
  ·rename_i he htk
   cases x with
   |tmp t=>cases h;exact⟨htk,t,rfl,he⟩
   |const v=>
    exfalso
    simp only[ev,zf9]at he
    split at he<;>try cases he
    split at he<;>cases he
   |global g=>cases he
   |func f=>cases he
  ·cases h
 ·cases h
 ·rename_i h1 h2 h3
  exact absurd h (h2 _ _)
theorem zaX{t:TypeId}{v:V}{sh:Sh}{es:List V}(h:ZZ P t v= .vec .grow sh es):v= .vec .grow sh es:=by
 unfold ZZ at h
 split at h
 ·split at h<;>cases h
 ·exact h
theorem ValRep.nil{x:Operand}{v:V}{c:Value}{t:TypeId}(h:ValRep w own μ x v c):ValRep w own μ x (ZZ P t v) c:=by
 unfold ValRep at h
 split at h
 ·exact h
 ·rename_i h1
  have h2:=zcc (P:=P) (t:=t) h
  unfold ValRep
  split
  ·rename_i he;exact absurd (zaX he) (h1 _ _)
  ·exact h2
theorem ValRep.val{x:Operand}{v:V}{c:Value}(h:ValRep w own μ x v c)(hn: ∀sh es,v≠ .vec .grow sh es):VRep w (prOf own) μ v c:=by
 unfold ValRep at h
 split at h
 ·exact absurd rfl (hn _ _)
 ·exact h
theorem Z0(h:Pre P cfg base n all w own μ ρ st a o)(tk:Bool){xs:List Operand}{x:Operand}(hx:x∈xs):ValRep w (Yy own ρ xs) μ x (rd ρ tk x) (a.eval x):=(h.rel.read tk xs).2.2 x hx
theorem VRep.bool_inv{pr:Nat→Nat→Prop}{b:Bool}{c:Value}(h:VRep w pr μ (.bool b) c):c= .bool b:=by cases h;rfl
theorem VRep.int_inv{pr:Nat→Nat→Prop}{i:Int}{c:Value}(h:VRep w pr μ (.int i) c):c= .int .i64 i:=by cases h;rfl
theorem VRep.ik_inv{pr:Nat→Nat→Prop}{k:IntKind}{i:Int}{c:Value}(h:VRep w pr μ (.ik k i) c):c= .int k i:=by cases h;rfl
theorem VRep.str_inv{pr:Nat→Nat→Prop}{s:ByteArray}{c:Value}(h:VRep w pr μ (.str s) c):c= .string s:=by cases h;rfl
theorem ztD(h:Pre P cfg base n all w own μ ρ st a o){x:Operand}(hop:o.op= .move x∨o.op= .assign x):
  OpOK P cfg base n all w own μ o a (ρ.apply (upds ρ (cfg.take fid rid idx) (Z1 o.op)++ZL o.dst (ZZ P o.type (rd ρ (cfg.take fid rid idx) x)))) st:=by
 have hv:Z1 o.op=[x]:=by rcases hop with e|e<;>rw[e]<;>rfl
 rw[hv]
 refine zpg h _ [x] x (c:=a.eval x) (fun t sh es he hx=> ?_) ((Z0 h _ (by simp)).nil) ?_
 ·obtain⟨h1,t',h2,h3⟩:=zer (zaX he)
  rw[hx]at h2;cases h2
  exact⟨h1,sh,es,h3,by rw[hx];simp⟩
 ·rcases hop with e|e<;>simp[execOp,e,pure]
theorem Yn{b:Bool}{x y:Option R}{r:R}(h:bc b x y=some r):(b=true∧x=some r)∨(b=false∧y=some r):=by
 cases b
 ·exact .inr ⟨rfl,h⟩
 ·exact .inl ⟨rfl,h⟩
theorem ztE(h:Pre P cfg base n all w own μ ρ st a o){c x y:Operand}(hop:o.op= .pick c x y){tk:Bool}{b:Bool}(hc:rd ρ tk c= .bool b):
  OpOK P cfg base n all w own μ o a (ρ.apply (upds ρ tk [c,x,y]++ZL o.dst (if b then rd ρ tk x else rd ρ tk y))) st:=by
 have h1:a.eval c= .bool b:=by
  have:=Z0 h tk (xs:=[c,x,y]) (x:=c) (by simp)
  rw[hc]at this
  exact VRep.bool_inv (this.val (by simp))
 have hrun:(execOp a.eval o).run P w= .ok (.value (if b then a.eval x else a.eval y)) w:=by
  simp[execOp,hop,h1,asBool,pure,Bind.bind,Sem.bind]
 cases b with
 |true=>
  refine zpg h tk _ x (fun t sh es he hx=> ?_) (Z0 h tk (by simp)) hrun
  obtain⟨h1,t',h2,h3⟩:=zer he
  rw[hx]at h2;cases h2
  exact⟨h1,sh,es,h3,by rw[hx];simp⟩
 |false=>
  refine zpg h tk _ y (fun t sh es he hx=> ?_) (Z0 h tk (by simp)) hrun
  obtain⟨h1,t',h2,h3⟩:=zer he
  rw[hx]at h2;cases h2
  exact⟨h1,sh,es,h3,by rw[hx];simp⟩
theorem ziR{pr:Nat→Nat→Prop}{cs:List V}{f:Nat→Value}{m off:Nat}{sh:Sh}(hl:cs.length=m)(hb:off+sh.sz≤m)
  (h: ∀j,j<m→(f j).oneCell'=true∧VRep w pr μ (cs.getD j .undef) (f j)) (hna: ∀j,j<m→ ∀c,cs.getD j .undef≠ .agg c):
  Shaped sh (partOf cs off sh)∧ ∀j,j<sh.sz→(f (off+j)).oneCell'=true∧VRep w pr μ (cellAt (partOf cs off sh) j) (f (off+j)):=by
 cases sh with
 |none=>
  have hoff:off<m:=by simp[Sh.sz]at hb;omega
  have hs:Shaped none (partOf cs off none):=by
   simp only[partOf]
   have:=hna off hoff
   cases hc:cs.getD off .undef<;>first|trivial|exact absurd hc (this _)
  refine⟨hs,fun j hj=> ?_⟩
  have:j=0:=by simpa[Sh.sz]using hj
  subst this
  have hcell:cellAt (partOf cs off none) 0=cs.getD off .undef:=by
   simp only[partOf]at hs⊢
   cases hc:cs.getD off .undef<;>first|rfl|(rw[hc]at hs;exact hs.elim)
  rw[hcell]
  exact h off hoff
 |some k=>
  simp only[Sh.sz]at hb
  refine⟨by simp[Shaped,partOf,hl];omega,fun j hj=> ?_⟩
  simp only[Sh.sz]at hj
  have:=h (off+j) (by omega)
  refine⟨this.1, ?_⟩
  have e:cellAt (partOf cs off (some k)) j=cs.getD (off+j) .undef:=by
   simp only[partOf,cellAt,cellsOf,List.getD_eq_getElem?_getD,List.getElem?_take,List.getElem?_drop]
   simp[hj]
  rw[e];exact this.2
theorem zaY{pr:Nat→Nat→Prop}{v:V}{c:Value}(h:VRep w pr μ v c)(h1:c.oneCell'=true): ∀cs,v≠ .agg cs:=by
 rintro cs rfl
 cases h
 simp[Value.oneCell']at h1
theorem Qd(cs:List V)(j:Nat):cellAt (.agg cs) j=cs.getD j .undef:=rfl
theorem VRep.cptr_inv{pr:Nat→Nat→Prop}{sh:Sh}{v:V}{c:Value}(h:VRep w pr μ (.cptr sh v) c): ∃(b o:Nat) (f:Nat→Value),c= .pointer (some ⟨b,o,none⟩)∧
  (∀j,j<sh.sz→w.cell? ⟨b,o+j,none⟩=some (f j)∧pr b (o+j)∧(f j).oneCell'=true)∧Shaped sh v∧ ∀j,j<sh.sz→VRep w pr μ (cellAt v j) (f j):=by
 cases h with
 |cptr _ _ a f ha hcell hsh hc=>
  obtain⟨b,o,s⟩:=a
  simp only at ha;subst ha
  exact⟨b,o,f,rfl,hcell,hsh,hc⟩
theorem zfI(h:Rel P cfg base n w own μ ρ st a)(x:Operand):(∃t,x= .tmp t∧TRep w own μ ρ a.tmps t (ev ρ x) (a.eval x))∨((∀t,x≠ .tmp t)∧VRep w (prOf own) μ (ev ρ x) (a.eval x)):=by
 cases x with
 |tmp t=>exact .inl ⟨t,rfl,h.env t⟩
 |const v=>exact .inr ⟨by simp,zgH v⟩
 |global g=>exact .inr ⟨by simp, .undef _⟩
 |func f=>exact .inr ⟨by simp, .fn _ [] [] #[] #[] rfl rfl (fun i hi=>by simp at hi) (fun i hi=>by simp at hi)⟩
theorem Qj(h:Rel P cfg base n w own μ ρ st a){x:Operand}{v:V}(hv:ev ρ x=v)(h1:zhE v=false)(h2: ∀t off,v≠ .lptr t off)(h3: ∀sh es,v≠ .vec .grow sh es):VRep w (prOf own) μ v (a.eval x):=by
 subst hv
 rcases zfI h x with⟨t,rfl,hT⟩|⟨_,hV⟩
 ·unfold TRep at hT
  split at hT
  ·rename_i e;rw[e]at h1;cases h1
  ·rename_i e;exact absurd e (h2 _ _)
  ·rename_i e;exact absurd e (h3 _ _)
  ·exact hT
 ·exact hV
theorem XM(h:Pre P cfg base n all w own μ ρ st a o){v:V}{c:Value}(hv:VRep w (prOf own) μ v c)(hrun:(execOp a.eval o).run P w= .ok (.value c) w):
  OpOK P cfg base n all w own μ o a (ρ.apply (ZL o.dst v)) st:=by
 cases hd:o.dst with
 |none=>exact⟨_,c,w,own,μ,hrun, .inl rfl,by rw[hd];exact h.rel,Keeps.refl,h.lp⟩
 |some d=>exact⟨_,c,w,own,μ,hrun, .inl rfl,by rw[hd];exact h.rel.put d (h.dst d hd) (h.noPtr hd) hv,Keeps.refl,h.lp.set h.mem hd v⟩
theorem run_load{t:TypeId}{x:Operand}(hop:o.op= .load t x){b off:Nat}(hx:a.eval x= .pointer (some ⟨b,off,none⟩)){c:Value}(hl:(loadVar t ⟨b,off,none⟩).run P w= .ok c w):
  (execOp a.eval o).run P w= .ok (.value c) w:=by
 simp only[execOp,hop,hx]
 have:(Instr.loadAt t (.pointer (some ⟨b,off,none⟩))).run P w= .ok c w:=by
  simp only[Instr.loadAt,Instr.sureAddr]
  exact hl
 simp[this,Sem.run,pure]
theorem zlQ(h:Pre P cfg base n all w own μ ρ st a o){t:TypeId}{x:Operand}(hop:o.op= .load t x){sh:Sh}{v:V}(hx:ev ρ x= .cptr sh v)(hsh:Qu P sh t=true):
  OpOK P cfg base n all w own μ o a (ρ.apply (ZL o.dst v)) st:=by
 simp only[Qu,Bool.and_eq_true,decide_eq_true_eq]at hsh
 obtain⟨hty,rfl⟩:=hsh
 obtain⟨b,off,f,he,hcell,hs,hc⟩:=(Qj h.rel hx rfl (by simp) (by simp)).cptr_inv
 exact XM h (VRep.of_cells hs fun j hj=>⟨(hcell j hj).2.2,hc j hj⟩) (run_load hop he (Y6 hty w b off f fun j hj=>(hcell j hj).1))
theorem zaO{t:Nat}{d:Bool}{sh:Sh}{v:V}{c:Value}{tm:Array Value}(h:TRep w own μ ρ tm t (.loc d sh v) c): ∃b ccs,c= .pointer (some ⟨b,0,none⟩)∧Blk w own b sh.sz (.t t 0) ccs∧Shaped sh v∧
  (∀j,j<sh.sz→w.cell? ⟨b,j,none⟩=some (ccs.getD j undef))∧(∀j,j<sh.sz→(ccs.getD j undef).oneCell'=true∧CRep w own μ (.t t (j+1)) (cellAt v j) (ccs.getD j undef))∧
  (d=false→ ∀j sh' es,cellAt v j≠ .vec .grow sh' es):=by
 obtain⟨b,ccs,rfl,hB,hs,hj⟩:=h
 refine⟨b,ccs,rfl,hB,hs,fun j hj'=> ?_,hj⟩
 obtain⟨ty,fz,hb,hn,_⟩:=hB
 have:j<ccs.size:=by omega
 simp[World.cell?,hb,this]
end
end Go.AM
namespace Go.AM
open Go Go.RowKit
section
variable{P:Program}{cfg:Cfg}{base n:Nat}{w:World}{own:Own}{μ:List Nat}{ρ:Env}{st:St}{a:Act}
variable{fid rid idx:Nat}{all:List Oper}{o:Oper}
theorem ztF(v:V):(∃sh es,v= .vec .grow sh es)∨ ∀sh es,v≠ .vec .grow sh es:=by
 cases v with
 |vec m sh es=>cases m<;>first|exact .inl ⟨_,_,rfl⟩|exact .inr (by simp)
 |_=>exact .inr (by simp)
theorem CRep.val{g:Tag}{v:V}{c:Value}(h:CRep w own μ g v c)(hn: ∀sh es,v≠ .vec .grow sh es):VRep w (prOf own) μ v c:=by
 unfold CRep at h
 split at h
 ·exact absurd rfl (hn _ _)
 ·exact h
theorem ztG{t:Nat}{d:Bool}{sh:Sh}{v:V}{f:Nat→Value}(hs:Shaped sh v)(hj: ∀j,j<sh.sz→(f j).oneCell'=true∧CRep w own μ (.t t (j+1)) (cellAt v j) (f j))
  (hd:d=false→ ∀j sh' es,cellAt v j≠ .vec .grow sh' es):VRep w (prOf own) μ (bif d then Zs v else v) (valOf sh f):=by
 cases d with
 |true=>exact VRep.of_cells (Qb hs) fun j hj'=>⟨(hj j hj').1,by rw[show(bif true then Zs v else v)=Zs v from rfl,Y5];exact(hj j hj').2.plain1⟩
 |false=>exact VRep.of_cells hs fun j hj'=>⟨(hj j hj').1,(hj j hj').2.val (hd rfl j)⟩
theorem zhF(h:Pre P cfg base n all w own μ ρ st a o){t:TypeId}{x:Operand}(hop:o.op= .load t x){d:Bool}{sh:Sh}{v:V}(hx:ev ρ x= .loc d sh v)(hsh:Qu P sh t=true):
  OpOK P cfg base n all w own μ o a (ρ.apply (ZL o.dst (bif d then Zs v else v))) st:=by
 simp only[Qu,Bool.and_eq_true,decide_eq_true_eq]at hsh
 obtain⟨hty,rfl⟩:=hsh
 rcases zfI h.rel x with⟨y,rfl,hT⟩|⟨_,hV⟩
 ·rw[hx]at hT
  obtain⟨b,ccs,hc,hB,hs,hcell,hj,hd⟩:=zaO hT
  exact XM h (ztG hs hj hd) (run_load hop hc (Y6 hty w b 0 (fun j=>ccs.getD j undef) fun j hj'=>by rw[Nat.zero_add];exact hcell j hj'))
 ·rw[hx]at hV;cases hV
theorem Qz{cs:List V}{off:Nat}{sh:Sh}(hb:off+sh.sz≤cs.length)(hna: ∀j,j<cs.length→ ∀c,cs.getD j .undef≠ .agg c):Shaped sh (partOf cs off sh):=by
 cases sh with
 |none=>
  have hoff:off<cs.length:=by simp[Sh.sz]at hb;omega
  simp only[partOf]
  have:=hna off hoff
  cases hc:cs.getD off .undef<;>first|trivial|exact absurd hc (this _)
 |some k=>simp only[Sh.sz]at hb;simp[Shaped,partOf];omega
theorem Q0{cs:List V}{off:Nat}{sh:Sh}(hb:off+sh.sz≤cs.length)(hna: ∀j,j<cs.length→ ∀c,cs.getD j .undef≠ .agg c){j:Nat}(hj:j<sh.sz):cellAt (partOf cs off sh) j=cs.getD (off+j) .undef:=by
 have hs:=Qz hb hna
 cases sh with
 |none=>
  have:j=0:=by simpa[Sh.sz]using hj
  subst this
  simp only[partOf]at hs⊢
  cases hc:cs.getD off .undef<;>first|rfl|(rw[hc]at hs;exact hs.elim)
 |some k=>
  simp only[Sh.sz]at hj
  simp only[partOf,cellAt,cellsOf,List.getD_eq_getElem?_getD,List.getElem?_take,List.getElem?_drop]
  simp[hj]
theorem zc4{g:Tag}{v:V}{c:Value}(h:CRep w own μ g v c)(h1:c.oneCell'=true): ∀cs,v≠ .agg cs:=by
 rintro cs rfl
 exact zaY (h:VRep w (prOf own) μ _ c) h1 cs rfl
theorem zce(h:Rel P cfg base n w own μ ρ st a){x:Operand}{y off:Nat}(hx:ev ρ x= .lptr y off):
  ∃b,a.tmps.getD y undef= .pointer (some ⟨b,0,none⟩)∧a.eval x= .pointer (some ⟨b,off,none⟩)∧(match ρ.get y with| .loc .. =>True| .cptr .. =>True|_=>False):=by
 rcases zfI h x with⟨t,rfl,hT⟩|⟨_,hV⟩
 ·rw[hx]at hT;exact hT
 ·rw[hx]at hV;cases hV
theorem zfJ(h:Pre P cfg base n all w own μ ρ st a o){t:TypeId}{x:Operand}(hop:o.op= .load t x){y off:Nat}(hx:ev ρ x= .lptr y off){d:Bool}{sh:Sh}{cs:List V}
  (hy:ρ.get y= .loc d sh (.agg cs)) (hb:off+(shOf P t).sz≤cs.length) (hty:okTy P t=true) {q:Bool} (hq:q=true→ ∀sh' es,partOf cs off (shOf P t)≠ .vec .grow sh' es∧shOf P t=none):
  OpOK P cfg base n all w own μ o a (ρ.apply (ZL o.dst (bif d&& !q then Zs (partOf cs off (shOf P t))else partOf cs off (shOf P t)))) st:=by
 obtain⟨b,h1,h2,_⟩:=zce h.rel hx
 have hT:=h.rel.env y
 rw[hy]at hT
 obtain⟨b',ccs,hc,hB,hs,hcell,hj,hd⟩:=zaO hT
 rw[h1]at hc;cases hc
 have hlen:cs.length=sh.sz:=by have:=hs.len;simpa[cellsOf]using this
 have hna: ∀j,j<cs.length→ ∀c,cs.getD j .undef≠ .agg c:=fun j hj'=>zc4 (hj j (by omega)).2 (hj j (by omega)).1
 have hrun:=run_load (o:=o) (P:=P) hop h2 (Y6 hty w b off (fun j=>ccs.getD (off+j) undef) fun j hj'=>hcell _ (by omega))
 refine XM h ?_ hrun
 have hcl: ∀j,j<(shOf P t).sz→(ccs.getD (off+j) undef).oneCell'=true∧CRep w own μ (.t y (off+j+1)) (cellAt (partOf cs off (shOf P t)) j) (ccs.getD (off+j) undef):=fun j hj'=>by
  rw[Q0 hb hna hj']
  exact hj (off+j) (by omega)
 cases hdq:(d&& !q)with
 |true=>exact VRep.of_cells (Qb (Qz hb hna)) fun j hj'=>⟨(hcl j hj').1,by rw[show(bif true then Zs (partOf cs off (shOf P t))else partOf cs off (shOf P t))=Zs (partOf cs off (shOf P t))from rfl,Y5];exact(hcl j hj').2.plain1⟩
 |false=>
  refine VRep.of_cells (Qz hb hna) fun j hj'=>⟨(hcl j hj').1,(hcl j hj').2.val ?_⟩
  cases d with
  |false=>rw[Q0 hb hna hj'];exact hd rfl (off+j)
  |true=>
   have hq':q=true:=by simpa using hdq
   intro sh' es he
   obtain⟨hne,hnone⟩:=hq hq' sh' es
   rw[hnone]at he hne hj'
   have:j=0:=by simpa[Sh.sz]using hj'
   subst this
   rw[Q0 (sh:=none) (by simpa[hnone]using hb) hna (by simp[Sh.sz])]at he
   exact hne (by simpa[partOf]using he)
theorem zfK(h:Pre P cfg base n all w own μ ρ st a o){t:TypeId}{x:Operand}(hop:o.op= .load t x){y off:Nat}(hx:ev ρ x= .lptr y off){sh:Sh}{cs:List V}
  (hy:ρ.get y= .cptr sh (.agg cs)) (hb:off+(shOf P t).sz≤cs.length) (hty:okTy P t=true):
  OpOK P cfg base n all w own μ o a (ρ.apply (ZL o.dst (partOf cs off (shOf P t)))) st:=by
 obtain⟨b,h1,h2,_⟩:=zce h.rel hx
 have hT:=h.rel.env y
 rw[hy]at hT
 obtain⟨b',o',f,hc,hcell,hs,hj⟩:=VRep.cptr_inv (hT:VRep w (prOf own) μ _ _)
 rw[h1]at hc;cases hc
 have hlen:cs.length=sh.sz:=by have:=hs.len;simpa[cellsOf]using this
 have hna: ∀j,j<cs.length→ ∀c,cs.getD j .undef≠ .agg c:=fun j hj'=>zaY (hj j (by omega)) (hcell j (by omega)).2.2
 have hrun:=run_load (o:=o) (P:=P) hop h2 (Y6 hty w b off (fun j=>f (off+j)) fun j hj'=>by have:=(hcell (off+j) (by omega)).1;rwa [Nat.zero_add]at this)
 exact XM h (VRep.of_cells (Qz hb hna) fun j hj'=>⟨(hcell (off+j) (by omega)).2.2,by rw[Q0 hb hna hj'];exact hj (off+j) (by omega)⟩) hrun
theorem zlR(h:Pre P cfg base n all w own μ ρ st a o){t:TypeId}{x:Operand}(hop:o.op= .load t x){y off:Nat}(hx:ev ρ x= .lptr y off){d:Bool}{sh sh':Sh}{cs es:List V}
  (hy:ρ.get y= .loc d sh (.agg cs)) (hb:off+(shOf P t).sz≤cs.length) (hty:okTy P t=true) (hn:shOf P t=none) (hv:partOf cs off (shOf P t)= .vec .grow sh' es):
  OpOK P cfg base n all w own μ o a (ρ.apply ([(y, .loc true sh (.agg (cs.set off (.vec .plain sh' es))))]++ZL o.dst (.vec .grow sh' es))) st:=by
 obtain⟨b,h1,h2,_⟩:=zce h.rel hx
 have hT:=h.rel.env y
 rw[hy]at hT
 obtain⟨b',ccs,hc,hB,hs,hcell,hj,hd⟩:=zaO hT
 rw[h1]at hc;cases hc
 have hlen:cs.length=sh.sz:=by have:=hs.len;simpa[cellsOf]using this
 rw[hn]at hb hv
 simp only[Sh.sz]at hb
 simp only[partOf]at hv
 have hg:GRep w own μ (.t y (off+1)) sh' es (ccs.getD off undef):=by
  have:=(hj off (by omega)).2
  rw[Qd,hv]at this
  exact this
 have hrun:(execOp a.eval o).run P w= .ok (.value (ccs.getD off undef)) w:=by
  have:=Y6 hty w b off (fun j=>ccs.getD (off+j) undef) fun j hj'=>by rw[hn]at hj';simp only[Sh.sz]at hj';exact hcell _ (by omega)
  rw[hn]at this
  exact run_load hop h2 this
 have hT': ∀(own':Own) (tm':Array Value) (ρ':Env),Step base w own μ w own' μ (fun g=>g= .t y (off+1))→TRep w own' μ ρ' tm' y (.loc true sh (.agg (cs.set off (.vec .plain sh' es)))) (.pointer (some ⟨b,0,none⟩)):=by
  intro own' tm' ρ' s
  refine⟨b,ccs,rfl,s.blk' hB (by simp) (by simp),by cases sh<;>simp_all[Shaped],fun j hj'=>⟨(hj j hj').1, ?_⟩,by simp⟩
  by_cases e:j=off
  ·subst e
   rw[Qd,List.getD_eq_getElem?_getD,List.getElem?_set_self (by omega)]
   exact CRep.of_val (s.vrep hg.plain)
  ·rw[Qd,List.getD_eq_getElem?_getD,List.getElem?_set_ne (fun e'=>e e'.symm),←List.getD_eq_getElem?_getD,←Qd]
   exact s.crep (hj j hj').2 (by simp) (by simp;exact e)
 have hR1:Rel P cfg base n w own μ (ρ.set y (.loc true sh (.agg (cs.set off (.vec .plain sh' es))))) st a:=by
  refine h.rel.step (Step.refl' h.rel.sto) (fun h=>h) h.rel.sto.len rfl rfl (fun r x b h1 h2=> .inl ⟨h1,fun _ h=>h⟩) fun t=> ?_
  by_cases e:t=y
  ·subst e
   right
   rw[Zp,if_pos rfl,h1]
   exact hT' own _ _ ((Step.refl' h.rel.sto).weaken fun _ h=>h.elim)
  ·left
   refine⟨by rw[Zp,if_neg e],rfl,fun _ h=>h,fun z off' hz=>⟨rfl, ?_⟩⟩
   rw[Zp]
   by_cases e2:z=y
   ·rw[if_pos e2];trivial
   ·rw[if_neg e2]
    have:=h.rel.env t
    rw[hz]at this
    obtain⟨_,_,_,h3⟩:=this
    exact h3
 have hLP1:LP all (ρ.set y (.loc true sh (.agg (cs.set off (.vec .plain sh' es))))):=by
  intro t z off' hz
  rw[Zp]at hz
  split at hz
  ·cases hz
  ·exact h.lp t z off' hz
 cases hdst:o.dst with
 |none=>exact⟨_,_,w,own,μ,hrun, .inl rfl,by rw[hdst];exact hR1,Keeps.refl,hLP1⟩
 |some dd=>
  have hnp:zdt (ρ.set y (.loc true sh (.agg (cs.set off (.vec .plain sh' es))))) dd:=by
   intro t off' hz
   rw[Zp]at hz
   split at hz
   ·cases hz
   ·exact h.noPtr hdst t off' hz
  obtain⟨h3,h4⟩:=hR1.put_grow' dd (h.dst dd hdst) hnp (x:=y) (j:=off+1) (fun hne tm'=>by
    rw[Zp,if_pos rfl,h1]
    exact hT' _ _ _ (Step.mv h.rel.sto (by simp) (.inr (.inr trivial)))) (by rw[Zp,if_pos rfl];simp) hg
  exact⟨_,_,w,_,μ,hrun, .inl rfl,by rw[hdst];exact h3,Yt h4 fun g e=> .inl ⟨_,_,e⟩,hLP1.set h.mem hdst _⟩
end
end Go.AM
namespace Go.AM
open Go Go.RowKit
section
variable{P:Program}{cfg:Cfg}{base n:Nat}{w:World}{own:Own}{μ:List Nat}{ρ:Env}{st:St}{a:Act}
variable{fid rid idx:Nat}{all:List Oper}{o:Oper}
theorem zeA(b:Nat){e:TypeId}{f:Nat×Nat}: ∀(vs:List Value) (o:Nat) (w:World) (cur:Array Value),w.heap[b]? =some (.cells cur e f)→o+vs.length≤cur.size→
  ∃c',(w.setCells b o vs).heap[b]? =some (.cells c' e f)∧c'.size=cur.size∧(∀i,c'.getD i undef=if o≤i∧i<o+vs.length then vs.getD (i-o) undef else cur.getD i undef)∧
   (∀i,¬(o≤i∧i<o+vs.length)→c'[i]? =cur[i]?)∧(∀k,k≠b→(w.setCells b o vs).heap[k]? =w.heap[k]?)∧
   (w.setCells b o vs).os=w.os∧(w.setCells b o vs).tape=w.tape∧(w.setCells b o vs).output=w.output∧(w.setCells b o vs).heap.size=w.heap.size
 |[],o,w,cur,hb,_=>⟨cur,hb,rfl,fun i=>by rw[if_neg (by simp only[List.length_nil];omega)],fun _ _=>rfl,fun _ _=>rfl,rfl,rfl,rfl,rfl⟩
 |v::vs,o,w,cur,hb,hl=>by
  simp only[List.length_cons]at hl
  have hb':(w.setCell ⟨b,o,none⟩ v).heap[b]? =some (.cells (cur.setIfInBounds o v) e f):=by
   show(w.heap.modify b _)[b]? =_
   rw[Array.getElem?_modify,if_pos rfl,hb];rfl
  obtain⟨c',h1,h2,h3,h3',h4,h5,h6,h7,h8⟩:=zeA b vs (o+1) (w.setCell ⟨b,o,none⟩ v) (cur.setIfInBounds o v) hb' (by simp;omega)
  refine⟨c',h1,by simpa using h2,fun i=> ?_,fun i hi=> ?_,fun k hk=>(h4 k hk).trans (Below.heap_setCell w _ v k hk),h5,h6,h7,h8.trans (by simp)⟩
  ·rw[h3]
   simp only[List.length_cons]
   by_cases h9:i=o
   ·subst h9
    rw[if_neg (by omega),if_pos (by omega)]
    have:i<cur.size:=by omega
    simp[Array.getD_eq_getD_getElem?,this]
   ·by_cases h10:o+1≤i∧i<o+1+vs.length
    ·rw[if_pos h10,if_pos (by omega)]
     obtain⟨k,rfl⟩: ∃k,i=o+1+k:=⟨i-(o+1),by omega⟩
     rw[show o+1+k-(o+1)=k by omega,show o+1+k-o=k+1 by omega]
     simp
    ·rw[if_neg h10,if_neg (by omega)]
     simp[Array.getD_eq_getD_getElem?,Ne.symm h9]
  ·simp only[List.length_cons]at hi
   rw[h3' i (by omega),Array.getElem?_setIfInBounds,if_neg (by omega)]
theorem zaZ(hs:Sto P cfg base w own μ st){b off:Nat}{cur:Array Value}{e:TypeId}{f:Nat×Nat}(hb:w.heap[b]? =some (.cells cur e f))(vs:List Value)(hl:off+vs.length≤cur.size)
  (h1: ∀v∈vs,v.oneCell'=true) (hf: ∀i,i<vs.length→w.frozen? ⟨b,off+i,none⟩=false) {g:Tag} (hg: ∀i,i<vs.length→own b (off+i)=g) (hgp:g≠ .pr) (hbase:base≤b) {X:Tag→Prop} (hX:X g):
  ∃w',(storeCells ⟨b,off,none⟩ vs).run P w= .ok () w'∧Step base w own μ w' own μ X∧
   ∃c',w'.heap[b]? =some (.cells c' e f)∧c'.size=cur.size∧ ∀i,c'.getD i undef=if off≤i∧i<off+vs.length then vs.getD (i-off) undef else cur.getD i undef:=by
 have hrun:=run_storeCells_cells (P:=P) b off vs 0 w (fun j hj=>by
   have:off+j<cur.size:=by omega
   simp[World.cell?,hb,this]) (fun j hj=>by rw[Nat.add_zero];exact hf j hj) h1
 obtain⟨c',h2,h3,h4,h4',h5,h6,h7,h8,h9⟩:=zeA b vs off w cur hb hl
 refine⟨_,hrun, ?_,c',h2,h3,h4⟩
 refine Step.set hs hb h3 hbase (fun i hi=> ?_) (fun g' hg' hg''=> ?_) h2 h5 ⟨h6,h7,h8,by rw[Nat.add_zero,h9];exact Nat.le_refl _,fun k hk=>h5 k (by omega)⟩
 ·have:off≤i∧i<off+vs.length:=Classical.byContradiction fun h=>hi (h4' i h)
  obtain⟨k,rfl⟩: ∃k,i=off+k:=⟨i-off,by omega⟩
  rw[hg k (by omega)]
  exact⟨hgp,hX⟩
 ·by_cases hz:vs.length=0
  ·right
   apply Array.ext_getElem?
   intro i
   exact h4' i (by omega)
  ·left
   rw[←hg' (off+0),hg 0 (by omega)]
   exact hX
theorem zac{t:TypeId}(h:okTy P t=true){b off:Nat}{v:Value}(hv:v.cells.size=(shOf P t).sz){w w':World}(hr:(storeCells ⟨b,off,none⟩ v.cells.toList).run P w= .ok () w'):
  (storeVar t ⟨b,off,none⟩ v).run P w= .ok () w':=by
 simp only[storeVar,Sem.run_bind,YW h,Result.andThen_ok,hv,ne_eq,not_true_eq_false,if_false]
 exact hr
theorem zc5{t:TypeId}{x y:Operand}(hop:o.op= .store t x y){b off:Nat}(hx:a.eval x= .pointer (some ⟨b,off,none⟩)){w':World}(hr:(storeVar t ⟨b,off,none⟩ (a.eval y)).run P w= .ok () w'):
  (execOp a.eval o).run P w= .ok .skip w':=by
 simp only[execOp,hop,hx]
 have:(Instr.storeAt t (.pointer (some ⟨b,off,none⟩)) (a.eval y)).run P w= .ok () w':=by
  simp only[Instr.storeAt,Instr.sureAddr]
  exact hr
 simp[this,pure,Sem.run]
theorem ZG{sh:Sh}{v:V}(h:Zy sh v=true):Shaped sh v:=by
 cases sh<;>cases v<;>simp_all[Zy,Shaped,Sh.sz]
theorem Jg{pr:Nat→Nat→Prop}{sh:Sh}{v:V}{c:Value}(h:VRep w pr μ v c)(hs:Zy sh v=true):
  c.cells.size=sh.sz∧ ∀j,j<sh.sz→(c.cells.toList.getD j undef).oneCell'=true∧VRep w pr μ (cellAt v j) (c.cells.toList.getD j undef):=by
 cases sh with
 |some k=>
  cases h with
  |agg cs ccs hl h1 hc=>
   have hk:cs.length=k:=by simpa[Zy,Sh.sz]using hs
   refine⟨by simp[Value.cells,Sh.sz];omega,fun j hj=> ?_⟩
   simp only[Sh.sz]at hj
   have e:(Value.agg ccs).cells.toList.getD j undef=ccs.getD j undef:=by simp[Value.cells,List.getD_eq_getElem?_getD,Array.getD_eq_getD_getElem?]
   rw[e,Qd]
   exact⟨h1 j (by omega),hc j (by omega)⟩
  |_=>simp[Zy]at hs
 |none=>
  have one: ∀(c:Value),c.cells= #[c]→c.oneCell'=true→VRep w pr μ v c→cellAt v 0=v→c.cells.size=1∧ ∀j,j<1→(c.cells.toList.getD j undef).oneCell'=true∧VRep w pr μ (cellAt v j) (c.cells.toList.getD j undef):=by
   intro c h1 h2 h3 h4
   rw[h1]
   refine⟨rfl,fun j hj=> ?_⟩
   have:j=0:=by omega
   subst this
   rw[h4]
   exact⟨h2,h3⟩
  have h':=h
  cases h with
  |undef c=>simp[Zy]at hs
  |agg cs ccs hl h1 hc=>simp[Zy]at hs
  |tup vs cs hl hc=>simp[Zy]at hs
  |_=>exact one _ rfl rfl h' rfl
end
end Go.AM
namespace Go.AM
open Go Go.RowKit
section
variable{P:Program}{cfg:Cfg}{base n:Nat}{w:World}{own:Own}{μ:List Nat}{ρ:Env}{st:St}{a:Act}
variable{fid rid idx:Nat}{all:List Oper}{o:Oper}
theorem zdw{x:Operand}{b:Nat}(h:ziM x b=true):x≠ .tmp b:=by
 rintro rfl;simp[ziM]at h
theorem zfb{pr:Nat→Nat→Prop}{v:V}{c:Value}(h:VRep w pr μ v c)(j:Nat): ∀sh es,cellAt v j≠ .vec .grow sh es:=by
 have ng: ∀{u:V} {c:Value},VRep w pr μ u c→ ∀sh es,u≠ .vec .grow sh es:=by
  rintro u c hu sh es rfl
  cases hu with
  |vecE _ _ _ _ hg _=>exact absurd rfl hg
  |vec _ _ _ _ _ _ hm=>exact absurd rfl hm
 intro sh es
 cases h with
 |agg cs ccs hl h1 hc=>
  rw[Qd]
  by_cases hj:j<cs.length
  ·exact ng (hc j hj) sh es
  ·rw[List.getD_eq_getElem?_getD,List.getElem?_eq_none (by omega)];simp
 |vecE m sh' A c hg hm=>
  cases j with
  |zero=>intro e;cases e;exact hg rfl
  |succ j=>simp[cellAt,cellsOf]
 |vec m sh' es' a c f hm hf hl ha hcell hsh hc=>
  cases j with
  |zero=>intro e;cases e;exact hm rfl
  |succ j=>simp[cellAt,cellsOf]
 |_=>cases j<;>simp[cellAt,cellsOf]
theorem ziS(h:Pre P cfg base n all w own μ ρ st a o){t:TypeId}{x y:Operand}(hop:o.op= .store t x y)(hdst:o.dst=none){tk g d d':Bool}{b off:Nat}{sh:Sh}{old v newV:V}
  (hb:ρ.get b= .loc d sh old) (haddr: ∀blk,a.tmps.getD b undef= .pointer (some ⟨blk,0,none⟩)→a.eval x= .pointer (some ⟨blk,off,none⟩)) (hyb:y≠ .tmp b)
  (hv:v=bif g then ZZ P t (rd ρ tk y)else plain1 (ZZ P t (rd ρ tk y))) (hg:g=true→isGrow v=true) (hok:Zy (shOf P t) v=true) (hty:okTy P t=true) (hoff:off+(shOf P t).sz≤sh.sz)
  (hs:Shaped sh newV) (hcells: ∀j,j<sh.sz→cellAt newV j=if off≤j∧j<off+(shOf P t).sz then cellAt v (j-off)else cellAt old j)
  (hd':d'=false→g=false∧((off=0∧shOf P t=sh)∨d=false)) (hnl: ∀j sh' es,sh.sz≤j→cellAt newV j≠ .vec .grow sh' es):
  OpOK P cfg base n all w own μ o a (ρ.apply (upds ρ tk [y]++[(b, .loc d' sh newV)])) st:=by
 obtain⟨hr,hs1,hvals⟩:=h.rel.read tk [y]
 have hk1:=Z8 hs1
 have hb1:(ρ.apply (upds ρ tk [y])).get b= .loc d sh old:=by rw[(zcd ρ tk [y] b).2 (by simpa using fun e=>hyb e.symm),hb]
 have hval:=(hvals y (by simp)).nil (P:=P) (t:=t)
 have hT:=hr.env b
 rw[hb1]at hT
 obtain⟨blk,ccs,hc,hB,hso,hcell,hj,hd⟩:=zaO hT
 have hx:=haddr blk hc
 obtain⟨ty,fz,hhb,hn,hf,ho⟩:=hB
 have hvc:(a.eval y).cells.size=(shOf P t).sz∧ ∀j,j<(shOf P t).sz→((a.eval y).cells.toList.getD j undef).oneCell'=true:=by
  cases g with
  |false=>
   have hv':VRep w (prOf (Yy own ρ [y])) μ v (a.eval y):=by rw[hv];exact hval.plain
   have:=Jg hv' hok
   exact⟨this.1,fun j hj=>(this.2 j hj).1⟩
  |true=>
   have hgr:=hg rfl
   have hv2:v=ZZ P t (rd ρ tk y):=hv
   rw[←hv2]at hval
   revert hgr hval hok
   cases v with
   |vec m sh' es=>
    cases m with
    |grow=>
     intro hok hval _
     obtain⟨t',_,A,cap,hc',_⟩:=hval
     rw[hc']
     have:shOf P t=none:=by
      cases hsh:shOf P t with
      |none=>rfl
      |some k=>rw[hsh]at hok;simp[Zy]at hok
     rw[this]
     refine⟨rfl,fun j hj=> ?_⟩
     have:j=0:=by simpa[Sh.sz]using hj
     subst this;rfl
    |_=>intro _ _ h;simp[isGrow]at h
   |_=>intro _ _ h;simp[isGrow]at h
 have hlen:(a.eval y).cells.toList.length=(shOf P t).sz:=by rw[Array.length_toList];exact hvc.1
 have hbase:base≤blk:=hr.sto.low blk 0 (by rw[ho];simp) (by rw[ho];simp) (by rw[ho];simp)
 obtain⟨w',hrun,hstep,c',hb',hsz',hget⟩:=zaZ (X:=fun g=>g= .t b 0) hr.sto hhb (a.eval y).cells.toList (off:=off) (by rw[hlen];omega) (P:=P)
  (fun u hu=>by
   obtain⟨k,hk,rfl⟩:=List.mem_iff_getElem.1 hu
   have:=hvc.2 k (by omega)
   rwa [List.getD_eq_getElem?_getD,List.getElem?_eq_getElem hk]at this) (fun i hi=>hf _ (by omega)) (g:= .t b 0) (fun i _=>ho _) (by simp) hbase rfl
 have hrun':=zc5 (o:=o) (a:=a) (P:=P) hop hx (zac hty hvc.1 hrun)
 rw[hlen]at hget
 rw[ZT]
 show OpOK P cfg base n all w own μ o a ((ρ.apply (upds ρ tk [y])).set b (.loc d' sh newV)) st
 have hLP:LP all ((ρ.apply (upds ρ tk [y])).set b (.loc d' sh newV)):=by
  intro t z off' hz
  rw[Zp]at hz
  split at hz
  ·cases hz
  ·exact h.lp.read tk [y] t z off' hz
 have hTnew: ∀(w2:World) (own2:Own) (X:Tag→Prop) (tm':Array Value) (ρ':Env),Step base w (Yy own ρ [y]) μ w2 own2 μ X→(∀j,¬X (.t b (j+1)))→
   w2.heap[blk]? =some (.cells c' ty fz)→(∀i,own2 blk i= .t b 0)→
   (∀j,off≤j→j<off+(shOf P t).sz→CRep w2 own2 μ (.t b (j+1)) (cellAt v (j-off)) ((a.eval y).cells.toList.getD (j-off) undef))→
   TRep w2 own2 μ ρ' tm' b (.loc d' sh newV) (.pointer (some ⟨blk,0,none⟩)):=by
  intro w2 own2 X tm' ρ' s hX hw2 ho2 hnew
  refine⟨blk,c',rfl,⟨ty,fz,hw2,by omega,fun i hi=> ?_,ho2⟩,hs,fun j hj'=> ?_,fun e j sh' es=> ?_⟩
  ·have:=hf i hi
   simp only[World.frozen?,hhb]at this
   simp only[World.frozen?,hw2];exact this
  ·rw[hcells j hj',hget j]
   split
   ·rename_i hin
    exact⟨hvc.2 _ (by omega),hnew j hin.1 hin.2⟩
   ·exact⟨(hj j hj').1,s.crep (hj j hj').2 (by simp) (hX j)⟩
  ·obtain⟨hg0,hor⟩:=hd' e
   by_cases hj':j<sh.sz
   ·rw[hcells j hj']
    split
    ·have hv':VRep w (prOf (Yy own ρ [y])) μ v (a.eval y):=by rw[hv,hg0];exact hval.plain
     exact zfb hv' _ sh' es
    ·rename_i hnin
     rcases hor with⟨h1,h2⟩|h1
     ·exact absurd ⟨by omega,by rw[h1,h2];omega⟩ hnin
     ·exact hd h1 j sh' es
   ·exact hnl j sh' es (by omega)
 have henv: ∀(w2:World) (own2:Own) (X:Tag→Prop),Step base w (Yy own ρ [y]) μ w2 own2 μ X→(∀r j,¬X (.r r j))→ ¬X .d→(∀z j,X (.t z j)→(z=b∧j=0)∨(j=0∧ ∃sh' es',(ρ.apply (upds ρ tk [y])).get z= .vec .plain sh' es'))→
   TRep w2 own2 μ ((ρ.apply (upds ρ tk [y])).set b (.loc d' sh newV)) a.tmps b (.loc d' sh newV) (.pointer (some ⟨blk,0,none⟩))→
   Rel P cfg base n w2 own2 μ ((ρ.apply (upds ρ tk [y])).set b (.loc d' sh newV)) st a:=by
  intro w2 own2 X s hXr hXd hXt hTb
  refine hr.step s hXd hr.sto.len rfl rfl (fun r x b h1 h2=> .inl ⟨h1,hXr r⟩) fun z=> ?_
  by_cases e:z=b
  ·subst e
   right
   rw[Zp,if_pos rfl,hc]
   exact hTb
  ·by_cases e2: ∃sh' es',(ρ.apply (upds ρ tk [y])).get z= .vec .plain sh' es'
   ·right
    obtain⟨sh',es',he⟩:=e2
    rw[Zp,if_neg e,he]
    have:=hr.env z
    rw[he]at this
    exact TRep.of_val (s.vrep this)
   ·left
    refine⟨by rw[Zp,if_neg e],rfl,fun j hx=> ?_,fun q off' hq=>⟨rfl, ?_⟩⟩
    ·rcases hXt z j hx with⟨h1,_⟩|⟨_,h1⟩
     ·exact e h1
     ·exact e2 h1
    ·rw[Zp]
     by_cases e3:q=b
     ·rw[if_pos e3];trivial
     ·rw[if_neg e3]
      have:=hr.env z
      rw[hq]at this
      obtain⟨_,_,_,h3⟩:=this
      exact h3
 cases g with
 |false=>
  have hv':VRep w (prOf (Yy own ρ [y])) μ v (a.eval y):=by rw[hv];exact hval.plain
  have hvv:=Jg hv' hok
  have hTb:=hTnew w' _ _ a.tmps ((ρ.apply (upds ρ tk [y])).set b (.loc d' sh newV)) hstep (by simp) hb' ho (fun j h1 h2=>CRep.of_val (hstep.vrep (hvv.2 (j-off) (by omega)).2))
  refine⟨_,undef,w',_,μ,hrun', .inr ⟨rfl,rfl⟩, ?_,hk1.trans (Yt hstep fun g e=> .inl ⟨_,_,e⟩),hLP⟩
  rw[hdst]
  exact henv w' _ _ hstep (by simp) (by simp) (fun z j e=>by cases e;exact .inl ⟨rfl,rfl⟩) hTb
 |true=>
  have hgr:=hg rfl
  have hv2:v=ZZ P t (rd ρ tk y):=hv
  rw[←hv2]at hval
  have hscal:shOf P t=none:=by
   cases hsh:shOf P t with
   |none=>rfl
   |some k=>
    rw[hsh]at hok
    revert hgr hok
    cases v<;>simp[Zy,isGrow]
  obtain⟨sh',es,hve⟩: ∃sh' es,v= .vec .grow sh' es:=by
   revert hgr
   cases v with
   |vec m sh' es=>cases m<;>simp[isGrow]
   |_=>simp[isGrow]
  rw[hve]at hval
  obtain⟨y',rfl,hG⟩:=hval
  have hrg:=zer (zaX (hv2.symm.trans hve))
  obtain⟨htk,y'',e1,hy''⟩:=hrg
  cases e1
  have hyp:(ρ.apply (upds ρ tk [.tmp y'])).get y'= .vec .plain sh' es:=by
   rw[(zcd ρ tk _ y').1 (by simp)];simp[Qx,hy'',htk]
  have hne:y'≠b:=fun e=>hyb (by rw[e])
  have hS1:Sto P cfg base w' (Yy own ρ [.tmp y']) μ st:=hr.sto.step hstep hr.sto.len (fun r x b h1 h2=> .inl ⟨h1,by simp⟩)
  have hmv:Step base w' (Yy own ρ [.tmp y']) μ w' (Qy (Yy own ρ [.tmp y']) (.t y' 0) (.t b (off+1))) μ (fun g=>g= .t y' 0):=Step.mv hS1 (by simp) (.inr (.inr trivial))
  have hall:=hstep.trans hmv
  have h1z:(shOf P t).sz=1:=by rw[hscal];rfl
  have hoff':off<sh.sz:=by omega
  have hG':GRep w' (Qy (Yy own ρ [.tmp y']) (.t y' 0) (.t b (off+1))) μ (.t b (off+1)) sh' es (a.eval (.tmp y')):=
   (hstep.grep hG (by simp) (by simp;exact fun e=>absurd e hne)).mv (by simp)
  have hTb:=hTnew w' _ _ a.tmps ((ρ.apply (upds ρ tk [.tmp y'])).set b (.loc d' sh newV)) hall (by simp) hb'
   (fun i=>by simp[Qy,ho,Ne.symm hne]) (fun j h1 h2=>by
    have:j=off:=by omega
    subst this
    have hcv:cellAt v (j-j)= .vec .grow sh' es:=by rw[hve];simp[cellAt,cellsOf]
    rw[hcv]
    have hcells0:(a.eval (.tmp y')).cells.toList.getD (j-j) undef=a.eval (.tmp y'):=by
     obtain⟨A,cap,hcc,_⟩:=hG
     rw[hcc];simp[Value.cells]
    rw[hcells0]
    exact hG')
  refine⟨_,undef,w',_,μ,hrun', .inr ⟨rfl,rfl⟩, ?_,hk1.trans ((Yt hstep fun g e=> .inl ⟨_,_,e⟩).trans (Yt hmv fun g e=> .inl ⟨_,_,e⟩)),hLP⟩
  rw[hdst]
  exact henv w' _ _ hall (by simp) (by simp) (fun z j e=>by
   rcases e with e|e
   ·cases e;exact .inl ⟨rfl,rfl⟩
   ·cases e;exact .inr ⟨rfl,sh',es,hyp⟩) hTb
end
end Go.AM
namespace Go.AM
open Go Go.RowKit
section
variable{P:Program}{cfg:Cfg}{base n:Nat}{w:World}{own:Own}{μ:List Nat}{ρ:Env}{st:St}{a:Act}
variable{fid rid idx:Nat}{all:List Oper}{o:Oper}
theorem zba(own:Own)(b:Nat)(g:Tag)(i:Nat):Xy own b g b i=g:=by simp[Xy]
theorem zkp{pr:Nat→Nat→Prop}{u:V}{c:Value}(h:VRep w pr μ u c)(sh:Sh)(es:List V):u≠ .vec .grow sh es:=by
 rintro rfl
 cases h with
 |vecE _ _ _ _ hg _=>exact absurd rfl hg
 |vec _ _ _ _ _ _ hm=>exact absurd rfl hm
theorem zq2(h:Pre P cfg base n all w own μ ρ st a o){tk:Bool}{xs:List Operand}{e:TypeId}{d:Bool}{sh:Sh}{v:V}{cells:Array Value}(hsz:cells.size=sh.sz)(hs:Shaped sh v)
  (hc: ∀j,j<sh.sz→(cells.getD j undef).oneCell'=true∧VRep w (prOf (Yy own ρ xs)) μ (cellAt v j) (cells.getD j undef)) (hng: ∀j sh' es,sh.sz≤j→cellAt v j≠ .vec .grow sh' es)
  (hrun:(execOp a.eval o).run P w= .ok (.value (.pointer (some ⟨w.heap.size,0,none⟩))) (w.alloc (.cells cells e))):
  OpOK P cfg base n all w own μ o a (ρ.apply (upds ρ tk xs++ZL o.dst (.loc d sh v))) st:=by
 obtain⟨hr,hs1,_⟩:=h.rel.read tk xs
 have hk:=Z8 hs1
 rw[ZT]
 cases hd:o.dst with
 |none=>
  have s:=Step.new (cfg:=cfg) hr.sto (.cells cells e) .free (by simp) []
  rw[List.append_nil]at s
  refine⟨_,_,_,_,μ,hrun, .inl rfl, ?_,hk.trans (s.keeps fun h=>h),h.lp.read tk xs⟩
  rw[hd]
  exact hr.step s (fun h=>h) hr.sto.len rfl rfl (fun r x b h1 h2=> .inl ⟨h1,fun _ h=>h⟩) fun t=> .inl ⟨rfl,rfl,fun _ h=>h,fun x off hx=>⟨rfl,by
   have:=hr.env t
   rw[show(ρ.apply (upds ρ tk xs)).get t= .lptr x off from hx]at this
   obtain⟨_,_,_,h3⟩:=this
   exact h3⟩⟩
 |some dd=>
  have hnp:=Qc (h.noPtr hd) tk xs
  have s:=Step.new (cfg:=cfg) hr.sto (.cells cells e) (.t dd 0) (by simp) []
  rw[List.append_nil]at s
  have hdn:=h.dst dd hd
  have hd':dd<a.tmps.size:=by rw[hr.tmps];exact hdn
  refine⟨_,_,_,_,μ,hrun, .inl rfl, ?_,hk.trans (s.keeps fun h=>h),(h.lp.read tk xs).set h.mem hd _⟩
  rw[hd]
  refine hr.step s (fun h=>h) hr.sto.len (by simp[Act.put]) rfl (fun r x b h1 h2=> .inl ⟨h1,fun _ h=>h⟩) fun t=> ?_
  by_cases ht:t=dd
  ·subst ht
   right
   show TRep _ _ _ _ _ _ (((ρ.apply (upds ρ tk xs)).set t (.loc d sh v)).get t) _
   rw[Zp,if_pos rfl,XC _ _ _ _ hd',if_pos rfl]
   refine⟨w.heap.size,cells,rfl,⟨e,(0,0), ?_,hsz,fun i hi=> ?_,fun i=>zba _ _ _ _⟩,hs,fun j hj=>⟨(hc j hj).1,CRep.of_val (s.vrep (hc j hj).2)⟩,fun _ j sh' es=> ?_⟩
   ·exact World.alloc_heap_new w _
   ·have:=World.alloc_heap_new w (.cells cells e)
    simp only[World.frozen?,this]
    simp
   ·by_cases hj:j<sh.sz
    ·exact zkp (hc j hj).2 sh' es
    ·exact hng j sh' es (by omega)
  ·left
   refine⟨?_,by rw[XC _ _ _ _ hd',if_neg ht],fun _ h=>h,fun x off hx=> ?_⟩
   ·show((ρ.apply (upds ρ tk xs)).set dd _).get t=_
    rw[Zp,if_neg ht]
   ·have hxd:x≠dd:=fun e=>hnp t off (by rw[hx,e])
    refine⟨by rw[XC _ _ _ _ hd',if_neg hxd], ?_⟩
    show(match((ρ.apply (upds ρ tk xs)).set dd _).get x with| .loc .. =>True| .cptr .. =>True|_=>False)
    rw[Zp,if_neg hxd]
    have:=hr.env t
    rw[hx]at this
    obtain⟨_,_,_,h3⟩:=this
    exact h3
theorem zb1(e:TypeId)(v:Value)(w:World):(newVar e v).run P w= .ok ⟨w.heap.size,0,none⟩ (w.alloc (.cells v.cells e)):=by
 rfl
theorem X0{t:TypeId}{i:TypeInfo}{z:Value}(hi:P.info? t=some i)(hz:i.zero=some z)(w:World):(zeroValue t).run P w= .ok z w:=by
 simp[zeroValue,typeInfo,program,Sem.run,hi,hz]
theorem zlS{pr:Nat→Nat→Prop}(ct:CT)(c:Value):VRep w pr μ (zeroCell P ct c) c:=by
 unfold zeroCell
 split
 ·exact .vecE _ _ _ _ (by simp) (by simp)
 ·exact zgH c
theorem zeB{pr:Nat→Nat→Prop}{t:TypeId}{i:TypeInfo}{z:Value}(hi:P.info? t=some i)(hz:i.zero=some z)(j:Nat)(hj:j<(zeroCells P t).length):
  j<z.cells.size∧VRep w pr μ ((zeroCells P t).getD j .undef) (z.cells.getD j undef):=by
 have e:zeroCells P t=List.zipWith (zeroCell P) (QC P 8 t) z.cells.toList:=by simp[zeroCells,hi,hz]
 rw[e]at hj⊢
 simp only[List.length_zipWith,Array.length_toList]at hj
 refine⟨by omega, ?_⟩
 have h1:j<(QC P 8 t).length:=by omega
 have h2:j<z.cells.size:=by omega
 rw[List.getD_eq_getElem?_getD,List.getElem?_zipWith]
 simp only[List.getElem?_eq_getElem h1,Array.getElem?_toList,Array.getElem?_eq_getElem h2,Option.getD_some,Array.getD_eq_getD_getElem?]
 exact zlS _ _
end
end Go.AM
namespace Go.AM
open Go Go.RowKit
section
variable{P:Program}{cfg:Cfg}{base n:Nat}{w:World}{own:Own}{μ:List Nat}{ρ:Env}{st:St}{a:Act}
variable{fid rid idx:Nat}{all:List Oper}{o:Oper}
theorem zb2{sh:Sh}{v:V}(h:Zy sh v=true): ∀j,sh.sz≤j→cellAt v j= .undef:=by
 intro j hj
 have:=(ZG h).len
 unfold cellAt
 rw[List.getD_eq_getElem?_getD,List.getElem?_eq_none (by omega)];rfl
theorem JH{pr:Nat→Nat→Prop}{t:TypeId}(hty:okTy P t=true)(hok:Zy (shOf P t) (XU P t)=true):
  ∃i z,P.info? t=some i∧i.zero=some z∧z.cells.size=(shOf P t).sz∧z.cells.all (·.oneCell')=true∧ ∀j,j<(shOf P t).sz→(z.cells.getD j undef).oneCell'=true∧VRep w pr μ (cellAt (XU P t) j) (z.cells.getD j undef):=by
 obtain⟨i,z,hi,hz,hsz,h1⟩:=zaN hty
 refine⟨i,z,hi,hz,hsz,h1,fun j hj=>⟨?_, ?_⟩⟩
 ·have hj':j<z.cells.size:=by omega
  have:=Array.all_eq_true.1 h1 j hj'
  simpa[Array.getD_eq_getD_getElem?,hj']using this
 ·have key:j<(zeroCells P t).length∧cellAt (XU P t) j=(zeroCells P t).getD j .undef:=by
   unfold XU at hok⊢
   cases hs:shOf P t with
   |some k=>
    rw[hs]at hok hj
    simp only[zso,Zy,Sh.sz,Bool.and_eq_true,beq_iff_eq]at hok hj⊢
    exact⟨by omega,rfl⟩
   |none=>
    rw[hs]at hok hj
    simp only[zso,Sh.sz]at hok hj⊢
    have:j=0:=by omega
    subst this
    cases hz:zeroCells P t with
    |nil=>rw[hz]at hok;simp[Zy]at hok
    |cons u us=>
     refine⟨by simp, ?_⟩
     rw[hz]at hok
     simp only[List.headD_cons]at hok⊢
     cases u<;>first|rfl|(simp[Zy]at hok)
  rw[key.2]
  exact(zeB hi hz j key.1).2
theorem zqQ{pr:Nat→Nat→Prop}{t:TypeId}(hty:okTy P t=true)(hok:(Zy (shOf P t) (XU P t)||ziB P t)=true):
  Shaped (shOf P t) (XU P t)∧(∀j,(shOf P t).sz≤j→cellAt (XU P t) j= .undef)∧ ∃i z,P.info? t=some i∧i.zero=some z∧z.cells.size=(shOf P t).sz∧z.cells.all (·.oneCell')=true∧ ∀j,j<(shOf P t).sz→(z.cells.getD j undef).oneCell'=true∧VRep w pr μ (cellAt (XU P t) j) (z.cells.getD j undef):=by
 cases hc:Zy (shOf P t) (XU P t)with
 |true=>exact⟨ZG hc,zb2 hc,JH hty hc⟩
 |false=>
  rw[hc,Bool.false_or]at hok
  unfold ziB at hok
  rw[Bool.and_eq_true]at hok
  obtain⟨h1,h2⟩:=hok
  have hs:shOf P t=none:=by cases hs:shOf P t with|none=>rfl|some k=>rw[hs]at h1;cases h1
  have hu:XU P t= .undef:=by cases hz:XU P t<;>rw[hz]at h2<;>first|rfl|cases h2
  rw[hu,hs]
  have hun: ∀j,cellAt .undef j= .undef:=fun j=>by cases j<;>rfl
  obtain⟨i,z,hi,hz,hsz,h3⟩:=zaN hty
  rw[hs]at hsz
  refine⟨trivial,fun j _=>hun j,i,z,hi,hz,hsz,h3,fun j hj=>⟨?_,by rw[hun];exact .undef _⟩⟩
  have hj':j<z.cells.size:=by omega
  have:=Array.all_eq_true.1 h3 j hj'
  simpa[Array.getD_eq_getD_getElem?,hj']using this
theorem zst(h:Pre P cfg base n all w own μ ρ st a o){e:TypeId}(hop:o.op= .alloc e)(hty:okTy P e=true)(hok:(Zy (shOf P e) (XU P e)||ziB P e)=true)(tk:Bool):
  OpOK P cfg base n all w own μ o a (ρ.apply (upds ρ tk []++ZL o.dst (.loc true (shOf P e) (XU P e)))) st:=by
 obtain⟨hsh,hcs,i,z,hi,hz,hsz,_,hc⟩:=zqQ (w:=w) (μ:=μ) (pr:=prOf (Yy own ρ [])) hty hok
 refine zq2 h (e:=e) (cells:=z.cells) hsz hsh hc (fun j sh' es hj=>by rw[hcs j hj];simp) ?_
 simp only[execOp,hop]
 have:(Instr.alloc e true (.tuple #[])).run P w= .ok (.pointer (some ⟨w.heap.size,0,none⟩)) (w.alloc (.cells z.cells e)):=by
  simp only[Instr.alloc,Sem.run_bind,X0 hi hz,Result.andThen_ok,zb1];rfl
 simp[this,Sem.run,pure]
theorem zhG(c:Array Value)(j:Nat):c.toList.getD j undef=c.getD j undef:=by
 simp[List.getD_eq_getElem?_getD,Array.getD_eq_getD_getElem?]
theorem zuS(h:Pre P cfg base n all w own μ ρ st a o){e:TypeId}{x:Operand}(hop:o.op= .box e x){tk:Bool}
  (hok:Zy (shOf P e) (plainAs P e (rd ρ tk x))=true):
  OpOK P cfg base n all w own μ o a (ρ.apply (upds ρ tk [x]++ZL o.dst (.loc false (shOf P e) (plainAs P e (rd ρ tk x))))) st:=by
 have hv:=(Z0 h tk (xs:=[x]) (x:=x) (by simp)).plainAs (P:=P) (t:=e)
 obtain⟨hsz,hc⟩:=Jg hv hok
 refine zq2 h (e:=e) (cells:=(a.eval x).cells) hsz (ZG hok) (fun j hj=>by rw[←zhG];exact hc j hj) (fun j sh' es hj=>by rw[zb2 hok j hj];simp) ?_
 simp only[execOp,hop]
 have:(Instr.box e (a.eval x)).run P w= .ok (.pointer (some ⟨w.heap.size,0,none⟩)) (w.alloc (.cells (a.eval x).cells e)):=by
  simp only[Instr.box,Sem.run_bind,zb1,Result.andThen_ok];rfl
 simp[this,Sem.run,pure]
theorem Z7{s:Sem Value}{c:Value}{w w':World}(h:s.run P w= .ok c w'):(do pure (Next.value (←s)):Sem Next).run P w= .ok (.value c) w':=by
 simp[h,Sem.run,pure]
theorem zlT{s ft:TypeId}{f off:Nat}(hf:Qp P s f=some (off,ft))(hty:okTy P ft=true)(hp:0<(shOf P ft).sz)(b o:Nat):
  (Instr.fieldAt s (.pointer (some ⟨b,o,none⟩)) f).run P w= .ok (.pointer (some ⟨b,o+off,none⟩)) w:=by
 unfold Qp at hf
 split at hf
 ·rename_i fs hu
  cases hx:fs[f]? with
  |none=>rw[hx]at hf;cases hf
  |some fd=>
   rw[hx]at hf
   simp only[Option.map_some,Option.some.injEq,Prod.mk.injEq]at hf
   obtain⟨rfl,rfl⟩:=hf
   have hne:(shOf P fd.type).sz≠0:=by omega
   simp[Instr.fieldAt,Go.run_underlying hu,hx,Instr.sureAddr,fieldPlace,YW hty,hne,Xz,go_sem]
 ·cases hf
theorem QU{s ft:TypeId}{x:Operand}{f off:Nat}(hop:o.op= .fieldAddr s x f)(hf:Qp P s f=some (off,ft))(hty:okTy P ft=true)(hp:0<(shOf P ft).sz){b o':Nat}
  (hx:a.eval x= .pointer (some ⟨b,o',none⟩)):(execOp a.eval o).run P w= .ok (.value (.pointer (some ⟨b,o'+off,none⟩))) w:=by
 simp only[execOp,hop,hx]
 simp[zlT hf hty hp,Sem.run,pure]
theorem zfL(h:Pre P cfg base n all w own μ ρ st a o){s ft:TypeId}{x:Operand}{f off:Nat}(hop:o.op= .fieldAddr s x f)(hf:Qp P s f=some (off,ft))(hty:okTy P ft=true)(hp:0<(shOf P ft).sz)
  {sh:Sh} {cs:List V} (hx:ev ρ x= .cptr sh (.agg cs)) (hb:off+(shOf P ft).sz≤cs.length):
  OpOK P cfg base n all w own μ o a (ρ.apply (ZL o.dst (.cptr (shOf P ft) (partOf cs off (shOf P ft))))) st:=by
 obtain⟨b,o',fc,he,hcell,hs,hc⟩:=(Qj h.rel hx rfl (by simp) (by simp)).cptr_inv
 have hlen:cs.length=sh.sz:=by have:=hs.len;simpa[cellsOf]using this
 have hpc:=ziR (f:=fc) (sh:=shOf P ft) (off:=off) hlen (by omega) (fun j hj=>⟨(hcell j hj).2.2,by have:=hc j hj;rwa [Qd]at this⟩) fun j hj=>zaY (hc j hj) (hcell j hj).2.2
 refine XM h (.cptr _ _ ⟨b,o'+off,none⟩ (fun j=>fc (off+j)) rfl (fun j hj=> ?_) hpc.1 fun j hj=>(hpc.2 j hj).2) (QU hop hf hty hp he)
 have:=hcell (off+j) (by omega)
 rw[show o'+off+j=o'+(off+j) by omega]
 exact this
theorem zng{d:Option Nat}{b t:Nat}(h:zaV d b=true)(hd:d=some t):b≠t:=by
 subst hd
 simp only[zaV,Bool.not_eq_true']at h
 rintro rfl
 simp at h
theorem zfM(h:Pre P cfg base n all w own μ ρ st a o){y off:Nat}{c:Value}(hn:zaV o.dst y=true)(hv: ∀d,TRep w own μ ρ a.tmps d (.lptr y off) c)(hrun:(execOp a.eval o).run P w= .ok (.value c) w):
  OpOK P cfg base n all w own μ o a (ρ.apply (ZL o.dst (.lptr y off))) st:=by
 cases hd:o.dst with
 |none=>exact⟨_,c,w,own,μ,hrun, .inl rfl,by rw[hd];exact h.rel,Keeps.refl,h.lp⟩
 |some d=>exact⟨_,c,w,own,μ,hrun, .inl rfl,by rw[hd];exact h.rel.put_lptr d (h.dst d hd) (h.noPtr hd) (zng hn hd) (hv d),Keeps.refl,h.lp.set h.mem hd _⟩
theorem zgK(h:Pre P cfg base n all w own μ ρ st a o){s ft:TypeId}{y f off:Nat}(hop:o.op= .fieldAddr s (.tmp y) f)(hf:Qp P s f=some (off,ft))(hty:okTy P ft=true)(hp:0<(shOf P ft).sz)
  {d:Bool} {sh:Sh} {v:V} (hx:ρ.get y= .loc d sh v) (hn:zaV o.dst y=true):
  OpOK P cfg base n all w own μ o a (ρ.apply (ZL o.dst (.lptr y off))) st:=by
 have hT:=h.rel.env y
 rw[hx]at hT
 obtain⟨b,ccs,hc,_⟩:=hT
 refine zfM h (c:= .pointer (some ⟨b,0+off,none⟩)) hn (fun d=>⟨b,hc,by rw[Nat.zero_add],by rw[hx];trivial⟩) (QU hop hf hty hp hc)
theorem zfN(h:Pre P cfg base n all w own μ ρ st a o){s ft:TypeId}{x:Operand}{f off y o':Nat}(hop:o.op= .fieldAddr s x f)(hf:Qp P s f=some (off,ft))(hty:okTy P ft=true)(hp:0<(shOf P ft).sz)
  (hx:ev ρ x= .lptr y o') (hn:zaV o.dst y=true):
  OpOK P cfg base n all w own μ o a (ρ.apply (ZL o.dst (.lptr y (o'+off)))) st:=by
 obtain⟨b,h1,h2,h3⟩:=zce h.rel hx
 exact zfM h hn (fun d=>⟨b,h1,rfl,h3⟩) (QU hop hf hty hp h2)
theorem zgL(h:Pre P cfg base n all w own μ ρ st a o){s ft:TypeId}{x:Operand}{f off r o':Nat}(hop:o.op= .fieldAddr s x f)(hf:Qp P s f=some (off,ft))(hty:okTy P ft=true)(hp:0<(shOf P ft).sz)
  (hx:ev ρ x= .ref r o'):OpOK P cfg base n all w own μ o a (ρ.apply (ZL o.dst (.ref r (o'+off)))) st:=by
 have hV:=Qj h.rel hx rfl (by simp) (by simp)
 cases he:a.eval x with
 |pointer p=>
  rw[he]at hV
  cases hV with
  |ref _ _ b hb=>exact XM h (.ref _ _ b hb) (QU hop hf hty hp he)
 |_=>rw[he]at hV;cases hV
theorem zgM(h:Pre P cfg base n all w own μ ρ st a o){s ft:TypeId}{x:Operand}{f off r j o':Nat}{sh:Sh}(hop:o.op= .fieldAddr s x f)(hf:Qp P s f=some (off,ft))(hty:okTy P ft=true)(hp:0<(shOf P ft).sz)
  (hx:ev ρ x= .rel sh r j o'):OpOK P cfg base n all w own μ o a (ρ.apply (ZL o.dst (.rel sh r j (o'+off)))) st:=by
 have hV:=Qj h.rel hx rfl (by simp) (by simp)
 cases he:a.eval x with
 |pointer p=>
  rw[he]at hV
  cases hV with
  |rel _ _ _ _ b hb=>
   refine XM h (c:= .pointer (some ⟨b,j*sh.sz+o'+off,none⟩)) ?_ (QU hop hf hty hp he)
   rw[show j*sh.sz+o'+off=j*sh.sz+(o'+off) by omega]
   exact .rel _ _ _ _ b hb
 |_=>rw[he]at hV;cases hV
theorem YX{t e:TypeId}(h:Yi P t=some e):P.underlying t=some (.slice e):=by
 unfold Yi at h
 split at h
 ·rename_i hu;cases h;exact hu
 ·cases h
theorem zfO{t e:TypeId}(hu:P.underlying t=some (.slice e))(hty:okTy P e=true)(b o len c:Nat)(i:Int)(h0:0≤i)(h1:i<(len:Int)):
  (Instr.indexAt t (.slice (some ⟨b,o,none⟩) len c) (.int .i64 i)).run P w= .ok (.pointer (some ⟨b,o+i.toNat*(shOf P e).sz,none⟩)) w:=by
 simp[Instr.indexAt,asIntOf,Go.run_underlying hu,YW hty,h0,h1,Xz,go_sem]
theorem zsu(h:Rel P cfg base n w own μ ρ st a){x:Operand}{m:Mode}{sh:Sh}{es:List V}(hx:ev ρ x= .vec m sh es):VRep w (prOf own) μ (.vec .plain sh es) (a.eval x):=by
 rcases zfI h x with⟨t,rfl,hT⟩|⟨_,hV⟩
 ·rw[hx]at hT
  cases m with
  |grow=>exact GRep.plain hT
  |plain=>exact hT
  |full=>exact VRep.plain1 (hT:VRep w (prOf own) μ _ _)
 ·rw[hx]at hV
  have:=hV.plain1
  cases m<;>exact this
theorem zgN(h:Pre P cfg base n all w own μ ρ st a o){t e:TypeId}{x y:Operand}(hop:o.op= .indexAddr t x y){m:Mode}{sh:Sh}{es:List V}(hx:ev ρ x= .vec m sh es)(he:Yi P t=some e)
  (hsh:Qu P sh e=true) {tk:Bool} {i:Int} (hi:rd ρ tk y= .int i) (h0:0≤i) (h1:i<(es.length:Int)):
  OpOK P cfg base n all w own μ o a (ρ.apply (upds ρ tk [y]++ZL o.dst (.cptr sh (ZP es i)))) st:=by
 simp only[Qu,Bool.and_eq_true,decide_eq_true_eq]at hsh
 obtain⟨hty,rfl⟩:=hsh
 have hy:a.eval y= .int .i64 i:=by
  have:=Z0 h tk (xs:=[y]) (x:=y) (by simp)
  rw[hi]at this
  exact VRep.int_inv (this.val (by simp))
 obtain⟨_,hs,_⟩:=h.rel.read tk [y]
 have hV:=hs.vrep (zsu h.rel hx)
 have hlt:i.toNat<es.length:=by omega
 cases hev:a.eval x with
 |slice A l c=>
  rw[hev]at hV
  cases hV with
  |vecE _ _ _ _ hg hm=>simp at hlt
  |vec _ _ _ ad _ f hm hf hl ha hcell hsh' hc=>
   obtain⟨b,o',s⟩:=ad
   simp only at ha;subst ha
   refine Ym h tk [y] (.cptr _ _ ⟨b,o'+i.toNat*(shOf P e).sz,none⟩ (fun j=>f i.toNat j) rfl (fun j hj=> ?_) (hsh' _ hlt) fun j hj=>hc _ j hlt hj) ?_
   ·have:=hcell i.toNat j hlt hj
    rw[show o'+i.toNat*(shOf P e).sz+j=o'+(i.toNat*(shOf P e).sz+j) by omega]
    exact this
   ·simp only[execOp,hop,hev,hy]
    simp[zfO (YX he) hty b o' _ c i h0 h1,Sem.run,pure]
 |_=>rw[hev]at hV;cases hV
theorem zgO(h:Pre P cfg base n all w own μ ρ st a o){t e:TypeId}{x y:Operand}(hop:o.op= .indexAddr t x y){sh:Sh}{r lo m:Nat}(hx:ev ρ x= .row sh r lo m)(he:Yi P t=some e)
  (hsh:Qu P sh e=true) {tk:Bool} {i:Int} (hi:rd ρ tk y= .int i) (h0:0≤i) (h1:i<(m:Int)):
  OpOK P cfg base n all w own μ o a (ρ.apply (upds ρ tk [y]++ZL o.dst (.rel sh r (lo+i.toNat) 0))) st:=by
 simp only[Qu,Bool.and_eq_true,decide_eq_true_eq]at hsh
 obtain⟨hty,rfl⟩:=hsh
 have hy:a.eval y= .int .i64 i:=by
  have:=Z0 h tk (xs:=[y]) (x:=y) (by simp)
  rw[hi]at this
  exact VRep.int_inv (this.val (by simp))
 obtain⟨_,hs,_⟩:=h.rel.read tk [y]
 have hV:=hs.vrep (Qj h.rel hx rfl (by simp) (by simp))
 cases hev:a.eval x with
 |slice A l c=>
  rw[hev]at hV
  cases hV with
  |rowE _ _ _ _ _ _ hb=>omega
  |row _ _ _ _ b _ hb hn=>
   refine Ym h tk [y] (c:= .pointer (some ⟨b,lo*(shOf P e).sz+i.toNat*(shOf P e).sz,none⟩)) ?_ ?_
   ·rw[←Nat.add_mul]
    exact .rel _ _ _ 0 b hb
   ·simp only[execOp,hop,hev,hy]
    simp[zfO (YX he) hty b _ m c i h0 h1,Sem.run,pure]
 |_=>rw[hev]at hV;cases hV
theorem zph{t:TypeId}{k:Nat}{e:TypeId}(h:zlI P t=some (k,e)):P.underlying t=some (.array k e):=by
 unfold zlI at h
 split at h
 ·rename_i k' e' hu
  cases h
  exact hu
 ·cases h
theorem zlU{t e:TypeId}{k:Nat}(hu:P.underlying t=some (.array k e))(hty:okTy P e=true)(b o:Nat)(i:Int)(h0:0≤i)(h1:i<(k:Int)):
  (Instr.indexAt t (.pointer (some ⟨b,o,none⟩)) (.int .i64 i)).run P w= .ok (.pointer (some ⟨b,o+i.toNat*(shOf P e).sz,none⟩)) w:=by
 simp[Instr.indexAt,asIntOf,Instr.sureAddr,Go.run_underlying hu,YW hty,h0,h1,Xz,go_sem]
theorem zsv{ρ:Env}{y:Operand}{i:Int}(hi:rd ρ false y= .int i):upds ρ false [y]=[]:=by
 cases y with
 |tmp t=>
  have h:zgD false (ρ.get t)= .int i:=hi
  simp only[upds,List.flatMap_cons,List.flatMap_nil,List.append_nil,zlJ]
  cases hv:ρ.get t with
  |loc d sh v=>rw[hv]at h;cases h
  |vec m sh es=>cases m<;>rfl
  |_=>rfl
 |_=>rfl
theorem zgP(h:Pre P cfg base n all w own μ ρ st a o){t e:TypeId}{b:Nat}{y:Operand}(hop:o.op= .indexAddr t (.tmp b) y){d:Bool}{sh:Sh}{v:V}{k:Nat}(hx:ρ.get b= .loc d sh v)(he:zlI P t=some (k,e))
  (hty:okTy P e=true) (hn:zaV o.dst b=true) {i:Int} (hi:rd ρ false y= .int i) (h0:0≤i) (h1:i<(k:Int)):
  OpOK P cfg base n all w own μ o a (ρ.apply (upds ρ false [y]++ZL o.dst (.lptr b (i.toNat*(shOf P e).sz)))) st:=by
 have hy:a.eval y= .int .i64 i:=by
  have:=Z0 h false (xs:=[y]) (x:=y) (by simp)
  rw[hi]at this
  exact VRep.int_inv (this.val (by simp))
 have hT:=h.rel.env b
 rw[hx]at hT
 obtain⟨bb,ccs,hc,_⟩:=hT
 rw[zsv hi,List.nil_append]
 refine zfM h (c:= .pointer (some ⟨bb,0+i.toNat*(shOf P e).sz,none⟩)) hn (fun d=>⟨bb,hc,by rw[Nat.zero_add],by rw[hx];trivial⟩) ?_
 have hb:a.eval (.tmp b)= .pointer (some ⟨bb,0,none⟩):=hc
 simp only[execOp,hop,hb,hy]
 simp[zlU (zph he) hty bb 0 i h0 h1,Sem.run,pure]
theorem zgQ{t:TypeId}(hty:okTy P t=true){cs:Array Value}{off:Nat}(hb:off+(shOf P t).sz≤cs.size):
  (part t cs off).run P w= .ok (valOf (shOf P t) fun j=>cs.getD (off+j) undef) w:=by
 simp only[part,Sem.run_bind,ziP hty,Result.andThen_ok]
 cases hs:shOf P t with
 |none=>
  rw[hs]at hb
  simp only[Sh.sz]at hb
  have:off<cs.size:=by omega
  simp[valOf,Array.getElem?_eq_getElem this,Array.getD_eq_getD_getElem?,Sem.run,pure]
 |some k=>
  have:=YW (P:=P) hty w
  rw[hs]at this hb
  simp only[Sh.sz]at hb this
  simp only[Option.isSome_some,if_true,Sem.run_bind,this,Result.andThen_ok,valOf]
  show Result.ok _ w=_
  congr 2
  apply Array.ext
  ·simp;omega
  ·intro i h1 h2
   simp only[List.size_toArray,List.length_map,List.length_range]at h2
   have:off+i<cs.size:=by omega
   simp[Array.getD_eq_getD_getElem?,Array.getElem?_eq_getElem this]
theorem ziT{pr:Nat→Nat→Prop}{cs:List V}{c:Value}{off:Nat}{sh:Sh}(h:VRep w pr μ (.agg cs) c)(hb:off+sh.sz≤cs.length):
  ∃ccs,c= .agg ccs∧ccs.size=cs.length∧VRep w pr μ (partOf cs off sh) (valOf sh fun j=>ccs.getD (off+j) undef):=by
 cases h with
 |agg _ ccs hl h1 hc=>
  refine⟨ccs,rfl,hl.symm, ?_⟩
  have hpc:=ziR (f:=fun j=>ccs.getD j undef) rfl hb (fun j hj=>⟨h1 j hj,hc j hj⟩) fun j hj=>zaY (hc j hj) (h1 j hj)
  exact VRep.of_cells hpc.1 hpc.2
theorem zsw(h:Pre P cfg base n all w own μ ρ st a o){s ft:TypeId}{x:Operand}{f off:Nat}(hop:o.op= .field s x f)(hf:Qp P s f=some (off,ft))(hty:okTy P ft=true){tk:Bool}
  {cs:List V} (hx:rd ρ tk x= .agg cs) (hb:off+(shOf P ft).sz≤cs.length):
  OpOK P cfg base n all w own μ o a (ρ.apply (upds ρ tk [x]++ZL o.dst (partOf cs off (shOf P ft)))) st:=by
 have hV:=Z0 h tk (xs:=[x]) (x:=x) (by simp)
 rw[hx]at hV
 obtain⟨ccs,hc,hsz,hr⟩:=ziT (hV.val (by simp)) hb
 refine Ym h tk [x] hr ?_
 simp only[execOp,hop,hc]
 unfold Qp at hf
 split at hf
 ·rename_i fs hu
  cases hg:fs[f]? with
  |none=>rw[hg]at hf;cases hf
  |some fd=>
   rw[hg]at hf
   simp only[Option.map_some,Option.some.injEq,Prod.mk.injEq]at hf
   obtain⟨rfl,rfl⟩:=hf
   refine Z7 ?_
   simp only[Instr.field,Sem.run_bind,Go.run_underlying hu,Result.andThen_ok,hg]
   exact zgQ hty (hsz▸hb)
 ·cases hf
theorem zpi(h:Pre P cfg base n all w own μ ρ st a o){x:Operand}{i:Nat}(hop:o.op= .extract x i){tk:Bool}{vs:List V}(hx:rd ρ tk x= .tup vs)(hi:i<vs.length):
  OpOK P cfg base n all w own μ o a (ρ.apply (upds ρ tk [x]++ZL o.dst (vs.getD i .undef))) st:=by
 have hV:=Z0 h tk (xs:=[x]) (x:=x) (by simp)
 rw[hx]at hV
 have hV:=hV.val (by simp)
 cases hev:a.eval x with
 |tuple cs=>
  rw[hev]at hV
  cases hV with
  |tup _ _ hl hc=>
   refine Ym h tk [x] (hc i hi) ?_
   have:i<cs.size:=by omega
   simp only[execOp,hop,hev]
   refine Z7 ?_
   simp[Instr.extract,Array.getElem?_eq_getElem this,Array.getD_eq_getD_getElem?]
 |_=>rw[hev]at hV;cases hV
theorem zsx(h:Pre P cfg base n all w own μ ρ st a o){t:TypeId}{x y:Operand}(hop:o.op= .index t x y)(hu:P.underlying t=some .string){tk:Bool}{s:ByteArray}{i:Int}(hx:rd ρ tk x= .str s)
  (hi:rd ρ tk y= .int i) (h0:0≤i) (h1:i<(s.size:Int)):
  OpOK P cfg base n all w own μ o a (ρ.apply (upds ρ tk [x,y]++ZL o.dst (.ik .u8 ((s.data.toList.getD i.toNat 0).toNat:Int)))) st:=by
 have hX:=Z0 h tk (xs:=[x,y]) (x:=x) (by simp)
 have hY:=Z0 h tk (xs:=[x,y]) (x:=y) (by simp)
 rw[hx]at hX
 rw[hi]at hY
 have hX:=VRep.str_inv (hX.val (by simp))
 have hY:=VRep.int_inv (hY.val (by simp))
 refine Ym h tk [x,y] (.ik _ _) ?_
 have hlt:i.toNat<s.size:=by omega
 have hlt':i.toNat<s.data.size:=hlt
 simp only[execOp,hop,hX,hY]
 have e:s[i.toNat]? =some (s.data[i.toNat]):=by
  simp[getElem?_def,hlt]
  rfl
 refine Z7 ?_
 have e2:s.data.toList.getD i.toNat 0=s.data[i.toNat]:=by
  rw[List.getD_eq_getElem?_getD,Array.getElem?_toList,Array.getElem?_eq_getElem hlt'];rfl
 rw[e2]
 simp[Instr.index,asIntOf,Go.run_underlying hu,h0,e,go_sem]
end
end Go.AM
