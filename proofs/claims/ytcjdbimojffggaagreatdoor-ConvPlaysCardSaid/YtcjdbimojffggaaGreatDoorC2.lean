/- Part of the proof: a machine of states for walks, and contracts of functions over it. Conditions: those that each theorem names. -/
import Derived.Test.YtcjdbimojffggaaGreatDoorC1
import Derived.Laws.CopyRow
import Derived.Laws.Append
set_option linter.unusedVariables false
set_option linter.unusedSimpArgs false
namespace Sx
open Go
inductive Ty where
 | cell (c : Ct) | ptr (e : TypeId) | slice (e : TypeId) | map (k e : TypeId) | struct (fs : List (Nat × TypeId)) | array (n : Nat) (e : TypeId) | iface | other
structure TI where
 ty : Ty
 cts : List Ct
 zero : List Value
 bytes : Nat
def ctsOf (P : Program) : Nat → TypeId → List Ct
 | 0,_=>[]
 | n + 1,t=>match P.underlying t with
  | some .bool=>[.bool]
  | some (.int k)=>[.int k]
  | some .string=>[.str]
  | some (.slice _)=>[.sl t]
  | some (.struct fs)=>fs.toList.flatMap fun f=>ctsOf P n f.type
  | some (.array m e)=>(List.replicate m (ctsOf P n e)).flatten
  | _=>[.oth]
def tyOf : TypeDesc → Ty
 | .bool=>.cell .bool | .int k=>.cell (.int k) | .string=>.cell .str | .pointer e=>.ptr e | .slice e=>.slice e | .map k e=>.map k e
 | .struct fs=>.struct (fs.toList.map fun f=>(f.offset,f.type)) | .array n e=>.array n e | .interface _=>.iface | _=>.other
def ttOf (P : Program) (t : TypeId) : Option TI :=
 match P.underlying t,P.info? t with
 | some d,some i=>match i.zero with
  | some z=>let c:=ctsOf P 12 t; bif c.length.beq i.size && z.cells.size.beq i.size && z.cells.toList.all oneV then some ⟨tyOf d,c,z.cells.toList,i.bytes⟩ else none
  | none=>none
 | _,_=>none
abbrev TT:=TypeId → Option TI
def lookT.{u} {α : Type u} : List (Nat × α) → Nat → Option α
 | [],_=>none
 | (k,v) :: r,n=>bif n.beq k then some v else lookT r n
def elOf (tt : TT) (t : TypeId) : Option El :=
 match tt t with
 | some ⟨.slice e,_,_,_⟩=>match tt e with
  | some ⟨.cell (.int k),_,_,_⟩=>some (.ints k)
  | some i=>some (.rows i.cts)
  | none=>none
 | some ⟨.map _ e,_,_,_⟩=>match tt e with
  | some i=>some (.rows i.cts)
  | none=>none
 | _=>none
def TOk (P : Program) (tt : TT) : Prop:=∀ t i,tt t = some i → ttOf P t = some i
structure Pr where
 P : Program
 tt : TT
 specs : List (FuncId × Spec)
def Pr.T (S : Pr) : Tab:=elOf S.tt
def isAggT : Ty → Bool | .struct _=>true | .array _ _=>true | _=>false
def constSV : Value → Option SV
 | .agg cs=>bif cs.toList.all oneV then some (.u (.a (cs.toList.map .v))) else none
 | .tuple _=>none
 | v=>some (.u (.c (.v v)))
def ev (env : Env) : Operand → Option SV
 | .tmp t=>env t
 | .const v=>constSV v
 | .func f=>some (.u (.c (.v (.func (.func f) #[] #[]))))
 | .global _=>none
def evC (env : Env) (x : Operand) : Option C:=match ev env x with | some (.u (.c c))=>some c | _=>none
def evU (env : Env) (x : Operand) : Option U:=match ev env x with | some (.u u)=>some u | _=>none
def evV (env : Env) (x : Operand) : Option Value:=match ev env x with | some (.u (.c (.v v)))=>some v | _=>none
def C.see.{u} {ρ : Type u} (c : C) (k : C → ρ) : ρ:=match c with
 | .v x=>k (.v x)
 | .d t x=>k (.d t x)
 | .z t=>k (.z t)
 | .p n o=>k (.p n o)
 | .e a b o=>k (.e a b o)
 | .r n t=>k (.r n t)
 | .q n i o=>k (.q n i o)
 | .m n t=>k (.m n t)
 | .bad=>k .bad
def seeL.{u} {ρ : Type u} : List C → (List C → ρ) → ρ
 | [],k=>k []
 | c :: l,k=>c.see fun c=>seeL l fun r=>k (c :: r)
theorem see_eq.{u} {ρ : Type u} (c : C) (k : C → ρ) : c.see k = k c:=by cases c <;> rfl
theorem seeL_eq.{u} {ρ : Type u} : ∀ (l : List C) (k : List C → ρ),seeL l k = k l
 | [],_=>rfl
 | c :: l,k=>by rw [seeL,see_eq,seeL_eq l]
def U.see.{u} {ρ : Type u} (x : U) (k : U → ρ) : ρ:=match x with
 | .c x=>x.see fun x=>k (.c x)
 | .a l=>seeL l fun l=>k (.a l)
theorem U.see_eq.{u} {ρ : Type u} (x : U) (k : U → ρ) : x.see k = k x:=by
 cases x with
 | c x=>show x.see (fun x=>k (.c x)) = _; rw [Sx.see_eq]
 | a l=>show seeL l (fun l=>k (.a l)) = _; rw [seeL_eq]
def seeU.{u} {ρ : Type u} : List U → (List U → ρ) → ρ
 | [],k=>k []
 | c :: l,k=>c.see fun c=>seeU l fun r=>k (c :: r)
theorem seeU_eq.{u} {ρ : Type u} : ∀ (l : List U) (k : List U → ρ),seeU l k = k l
 | [],_=>rfl
 | c :: l,k=>by rw [seeU,U.see_eq,seeU_eq l]
def SV.see.{u} {ρ : Type u} (s : SV) (k : SV → ρ) : ρ:=match s with
 | .u x=>x.see fun x=>k (.u x)
 | .t l=>seeU l fun l=>k (.t l)
theorem SV.see_eq.{u} {ρ : Type u} (s : SV) (k : SV → ρ) : s.see k = k s:=by
 cases s with
 | u x=>show x.see (fun x=>k (.u x)) = _; rw [U.see_eq]
 | t l=>show seeU l (fun l=>k (.t l)) = _; rw [seeU_eq]
def retC (c : C) : Out SV:=.ret (.u (.c c))
def retV (v : Value) : Out SV:=.ret (.u (.c (.v v)))
def U.cells : U → List C | .c x=>[x] | .a l=>l
def cOf : Ct → D → C
 | .int k,x=>.v (.int k x.toInt)
 | .bool,x=>.v (.bool x.toBool)
 | .str,x=>.v (.string x.toStr)
 | .sl t,x=>.d t x
 | .oth,_=>.bad
def dOf (T : Tab) : Ct → C → Option D
 | .int k,.v (.int k' n)=>if k = k' then some (.int n) else none
 | .bool,.v (.bool b)=>some (.bool b)
 | .str,.v (.string s)=>some (.str s)
 | .sl t,.d t' x=>bif t.beq t' then some x else none
 | .sl t,.v (.slice none 0 0)=>match T t with | some (.ints _)=>some (.ints []) | some (.rows _)=>some (.rows []) | none=>none
 | _,_=>none
def part? (S : Pr) (t : TypeId) (l : List C) (off : Nat) : Option U :=
 match S.tt t with
 | some i=>bif isAggT i.ty then (bif (off + i.cts.length).ble l.length then some (.a ((l.drop off).take i.cts.length)) else none)
  else match l[off]? with | some c=>some (.c c) | none=>none
 | none=>none
def rowPart? (S : Pr) (t : TypeId) (cts : List Ct) (row : List D) (off : Nat) : Option U :=
 match S.tt t with
 | some i=>bif isAggT i.ty then (bif (off + i.cts.length).ble cts.length then some (.a ((List.range i.cts.length).map fun j=>cOf (cts.getD (off + j) .oth) (cellD row (off + j)))) else none)
  else match cts[off]? with | some ct=>some (.c (cOf ct (cellD row off))) | none=>none
 | none=>none
def qRow (S : Pr) (t : TypeId) (x : D) (i : Int) : Option (List Ct × List D) :=
 match S.T t,x with
 | some (.ints k),.ints l=>some ([.int k],[.int (l.getD i.toNat 0)])
 | some (.rows c),.rows l=>some (c,l.getD i.toNat [])
 | _,_=>none
def loadS (S : Pr) (snap : Own) (t : TypeId) : C → Option U
 | .p n off=>match snap n with | some (.cells _ l)=>part? S t l off | _=>none
 | .e cts row off=>rowPart? S t cts row off
 | .q n i off=>match snap n with
  | some (.row u x)=>match qRow S u x i with | some (cts,row)=>rowPart? S t cts row off | none=>none
  | _=>none
 | _=>none
def lenS (snap : Own) : Ty → C → Option Int
 | .slice _,.d _ x=>some (x.len : Int)
 | .slice _,.z _=>some 0
 | .slice _,.v (.slice none 0 0)=>some 0
 | .cell .str,.v (.string s)=>some (s.size : Int)
 | .slice _,.r n _=>match snap n with | some (.row _ x)=>some (x.len : Int) | _=>none
 | .map _ _,.m n _=>match snap n with | some (.map _ l)=>some (l.length : Int) | _=>none
 | _,_=>none
def dcut (T : Tab) (t : TypeId) (x : D) (lo hi : Int) : Option D :=
 match T t with
 | some (.ints _)=>some (.ints ((x.toInts.take hi.toNat).drop lo.toNat))
 | some (.rows _)=>some (.rows ((x.toRows.take hi.toNat).drop lo.toNat))
 | none=>none
def fillC (place : Nat → Option (Nat × Nat)) (cells : List C) : List (Nat × List C) → Option (List C)
 | []=>some cells
 | (i,v) :: rest=>match place i with
  | none=>none
  | some (off,size)=>bif v.length.beq size && (off + size).ble cells.length then fillC place (cells.take off ++ v ++ cells.drop (off + size)) rest else none
def sizeT (S : Pr) (t : TypeId) : Option Nat:=(S.tt t).map (·.cts.length)
def mapO {α β : Type} (f : α → Option β) : List α → Option (List β)
 | []=>some []
 | a :: r=>match f a with | some b=>(match mapO f r with | some l=>some (b :: l) | none=>none) | none=>none
def placesS (S : Pr) (fs : List (Nat × TypeId)) : Option (List (Nat × Nat)):=mapO (fun f=>match sizeT S f.2 with | some n=>some (f.1,n) | none=>none) fs
def partsC (env : Env) (ps : List (Nat × Operand)) : Option (List (Nat × List C)):=mapO (fun p=>match evU env p.2 with | some u=>some (p.1,u.cells) | none=>none) ps
def elemsD (T : Tab) (cts : List Ct) (l : List C) : Option (List D) :=
 match cts,l with
 | [],[]=>some []
 | ct :: cs,c :: l=>match dOf T ct c with | some d=>(match elemsD T cs l with | some r=>some (d :: r) | none=>none) | none=>none
 | _,_=>none
def binI (op : BinOp) (k : IntKind) (a b : Int) : Out SV :=
 match op with
 | .add=>retV (.int k (k.wrap (a + b)))
 | .sub=>retV (.int k (k.wrap (a - b)))
 | .mul=>retV (.int k (k.wrap (a * b)))
 | .quo=>.need (b ≠ 0) (retV (.int k (k.wrap (a.tdiv b))))
 | .rem=>.need (b ≠ 0) (retV (.int k (a.tmod b)))
 | .and=>retV (.int k (k.wrap ((BitVec.ofInt k.bits a &&& BitVec.ofInt k.bits b).toNat)))
 | .or=>retV (.int k (k.wrap ((BitVec.ofInt k.bits a ||| BitVec.ofInt k.bits b).toNat)))
 | .xor=>retV (.int k (k.wrap ((BitVec.ofInt k.bits a ^^^ BitVec.ofInt k.bits b).toNat)))
 | .andNot=>retV (.int k (k.wrap ((BitVec.ofInt k.bits a &&& ~~~ BitVec.ofInt k.bits b).toNat)))
 | .eql=>retV (.bool (a == b))
 | .neq=>retV (.bool (a != b))
 | .lss=>retV (.bool (decide (a < b)))
 | .leq=>retV (.bool (decide (a ≤ b)))
 | .gtr=>retV (.bool (decide (a > b)))
 | .geq=>retV (.bool (decide (a ≥ b)))
 | _=>.fail
def sameK (k k' : IntKind) : Bool:=decide (k = k')
def binS (ty : Ty) (op : BinOp) (x y : C) (lit : Bool) : Out SV :=
 match x,y with
 | .v (.int k a),.v (.int k' b)=>match op with
  | .shl=>.need (0 ≤ b) (retV (.int k (k.wrap (a * 2 ^ (min b.toNat k.bits)))))
  | .shr=>.need (0 ≤ b) (retV (.int k (a.fdiv (2 ^ (min b.toNat k.bits)))))
  | _=>bif sameK k k' then binI op k a b else .fail
 | .v (.string a),.v (.string b)=>match op with
  | .eql=>retV (.bool (a.toList == b.toList))
  | .neq=>retV (.bool (!(a.toList == b.toList)))
  | .gtr=>retV (.bool (!(Op.bytesLess a.toList b.toList || a.toList == b.toList)))
  | _=>.fail
 | .v (.bool a),.v (.bool b)=>match ty,op with
  | .cell .bool,.eql=>retV (.bool (a == b))
  | .cell .bool,.neq=>retV (.bool (!(a == b)))
  | _,_=>.fail
 | .v (.iface _ _),.v .nilIface=>match ty,op with
  | .iface,.eql=>retV (.bool false)
  | .iface,.neq=>retV (.bool true)
  | _,_=>.fail
 | .v .nilIface,.v .nilIface=>match ty,op,lit with
  | .iface,.eql,true=>retV (.bool true)
  | .iface,.neq,true=>retV (.bool false)
  | _,_,_=>.fail
 | .p _ _,.v (.pointer none)=>match ty,op with
  | .ptr _,.eql=>retV (.bool false)
  | .ptr _,.neq=>retV (.bool true)
  | _,_=>.fail
 | .v (.pointer none),.v (.pointer none)=>match ty,op with
  | .ptr _,.eql=>retV (.bool true)
  | .ptr _,.neq=>retV (.bool false)
  | _,_=>.fail
 | .d _ xd,.v (.slice none 0 0)=>match ty,op with
  | .slice _,.eql=>.all Bool (fun b=>b = true → xd.len = 0) ⟨false,by simp⟩ fun b=>retV (.bool b)
  | .slice _,.neq=>.all Bool (fun b=>b = false → xd.len = 0) ⟨true,by simp⟩ fun b=>retV (.bool b)
  | _,_=>.fail
 | _,_=>.fail
def isConst : Operand → Bool | .const _=>true | _=>false
def pickS (b : Bool) (x y : SV) : Out SV :=
 match x,y with
 | .u (.c (.v (.bool p))),.u (.c (.v (.bool q)))=>retV (.bool (bif b then p else q))
 | .u (.c (.v (.int k m))),.u (.c (.v (.int k' n)))=>bif sameK k k' then retV (.int k (bif b then m else n)) else .fail
 | _,_=>bif b then .ret x else .ret y
def optI (env : Env) (dflt : Int) : Option Operand → Option Int
 | none=>some dflt
 | some x=>match evV env x with | some (.int _ n)=>some n | _=>none
def sliceS (S : Pr) (env : Env) (t : TypeId) (c : C) (lo hi mx : Option Operand) : Out SV :=
 match c with
 | .d u x=>match mx with
  | none=>match optI env 0 lo,optI env (x.len : Int) hi with
   | some l,some h=>match dcut S.T u x l h with
    | some y=>bif t.beq u then .need (0 ≤ l ∧ l ≤ h ∧ h ≤ (x.len : Int)) (retC (.d u y)) else .fail
    | none=>.fail
   | _,_=>.fail
  | some m=>match hi with
   | some hh=>match optI env 0 lo,optI env 0 (some hh),optI env 0 (some m) with
    | some 0,some 0,some 0=>bif t.beq u then retC (.z u) else .fail
    | _,_,_=>.fail
   | none=>.fail
 | _=>.fail
def findM (s : ByteArray) : List (ByteArray × List D) → Option (List D)
 | []=>none
 | p :: l=>if s = p.1 then some p.2 else findM s l
def putM (s : ByteArray) (r : List D) : List (ByteArray × List D) → List (ByteArray × List D)
 | []=>[(s,r)]
 | p :: l=>if s = p.1 then (s,r) :: l else p :: putM s r l
def rowCs (cts : List Ct) (r : List D) : List C:=(List.range cts.length).map fun j=>cOf (cts.getD j .oth) (cellD r j)
def lookS (zero : List Value) (cts : List Ct) : Option (List D) → Out SV
 | some r=>seeL (rowCs cts r) fun l=>.ret (.t [.a l,.c (.v (.bool true))])
 | none=>.ret (.t [.a (zero.map .v),.c (.v (.bool false))])
def opV (S : Pr) (snap : Own) (env : Env) (o : Oper) : Out SV :=
 match o.op with
 | .move x | .assign x=>match ev env x with | some sv=>.ret sv | none=>.fail
 | .pick c x y=>match evV env c,ev env x,ev env y with | some (.bool b),some p,some q=>pickS b p q | _,_,_=>.fail
 | .fieldAddr s x f=>match S.tt s,evC env x with
  | some ⟨.struct fs,_,_,_⟩,some c=>match fs[f]? with
   | some (off,t)=>match sizeT S t with
    | some (_ + 1)=>match c with
     | .p n o=>retC (.p n (o + off))
     | .e cts row o=>retC (.e cts row (o + off))
     | .q n i o=>retC (.q n i (o + off))
     | _=>.fail
    | _=>.fail
   | none=>.fail
  | _,_=>.fail
 | .field t x f=>match S.tt t,ev env x with
  | some ⟨.struct fs,_,_,_⟩,some (.u (.a l))=>match fs[f]? with
   | some (off,ft)=>match part? S ft l off with | some u=>.ret (.u u) | none=>.fail
   | none=>.fail
  | _,_=>.fail
 | .extract x i=>match ev env x with
  | some (.t l)=>match l[i]? with | some u=>.ret (.u u) | none=>.fail
  | _=>.fail
 | .nilCheck x=>match evC env x with
  | some (.p n o)=>retC (.p n o)
  | some (.e cts row o)=>retC (.e cts row o)
  | some (.q n i o)=>retC (.q n i o)
  | _=>.fail
 | .makeInterface t x=>match S.tt t,evV env x with
  | some ⟨.cell _,_,_,_⟩,some v=>retV (.iface t v)
  | _,_=>.fail
 | .load t x=>match evC env x with
  | some c=>match loadS S snap t c with | some u=>.ret (.u u) | none=>.fail
  | none=>.fail
 | .indexAddr t x i=>match S.tt t,evC env x,evV env i with
  | some ⟨.slice _,_,_,_⟩,some (.d u y),some (.int _ n)=>bif t.beq u then (match qRow S u y n with
    | some (cts,row)=>.need (0 ≤ n ∧ n < (y.len : Int)) (retC (.e cts row 0))
    | none=>.fail) else .fail
  | some ⟨.slice _,_,_,_⟩,some (.r m u),some (.int _ n)=>match snap m with
    | some (.row _ y)=>bif t.beq u then .need (0 ≤ n ∧ n < (y.len : Int)) (retC (.q m n 0)) else .fail
    | _=>.fail
  | some ⟨.array len e,_,_,_⟩,some (.p m o),some (.int _ n)=>match sizeT S e with
    | some sz=>.need (0 ≤ n ∧ n < (len : Int)) (retC (.p m (o + n.toNat * sz)))
    | none=>.fail
  | _,_,_=>.fail
 | .slice t x lo hi mx=>match S.tt t,evC env x with | some ⟨.slice _,_,_,_⟩,some c=>sliceS S env t c lo hi mx | _,_=>.fail
 | .build t ps=>match S.tt t,partsC env ps.toList with
  | some ⟨.struct fs,_,z,_⟩,some l=>match placesS S fs with
   | some pl=>match fillC (fun i=>pl[i]?) (z.map .v) l with | some r=>.ret (.u (.a r)) | none=>.fail
   | none=>.fail
  | some ⟨.array _ e,_,z,_⟩,some l=>match sizeT S e with
   | some n=>match fillC (fun i=>some (i * n,n)) (z.map .v) l with | some r=>.ret (.u (.a r)) | none=>.fail
   | none=>.fail
  | _,_=>.fail
 | .binOp op t x y _=>match S.tt t,evC env x,evC env y with | some i,some c,some d=>binS i.ty op c d (isConst x || isConst y) | _,_,_=>.fail
 | .unOp op _ x=>match op,evV env x with
  | .not,some (.bool b)=>retV (.bool (!b))
  | .neg,some (.int k n)=>retV (.int k (k.wrap (0 - n)))
  | .xor,some (.int k n)=>retV (.int k (k.wrap ((BitVec.ofInt k.bits (if k.signed then -1 else k.max) ^^^ BitVec.ofInt k.bits n).toNat)))
  | _,_=>.fail
 | .convert s t x=>match S.tt s,S.tt t,evV env x with
  | some _,some ⟨.cell (.int k),_,_,_⟩,some (.int _ n)=>retV (.int k (k.wrap n))
  | _,_,_=>.fail
 | .call ⟨.builtin .len,args,ts⟩=>match args.toList,ts.toList with
  | [x],[t]=>match S.tt t,evC env x with | some i,some c=>(match lenS snap i.ty c with | some n=>retV (.int .i64 n) | none=>.fail) | _,_=>.fail
  | _,_=>.fail
 | .call ⟨.builtin .min,args,_⟩=>match args.toList with
  | [x,y]=>match evV env x,evV env y with | some (.int k a),some (.int _ b)=>retV (.int k (if b < a then b else a)) | _,_=>.fail
  | _=>.fail
 | .call ⟨.builtin .max,args,_⟩=>match args.toList with
  | [x,y]=>match evV env x,evV env y with | some (.int k a),some (.int _ b)=>retV (.int k (if b > a then b else a)) | _,_=>.fail
  | _=>.fail
 | .buildSlice t len ps=>match S.tt t,partsC env ps.toList with
  | some ⟨.slice e,_,_,_⟩,some l=>bif len.beq 0 && l.isEmpty then (match sizeT S e with | some (_ + 1)=>retC (.z t) | _=>.fail) else match sizeT S e,S.T t with
   | some (sz + 1),some (.ints k)=>match mapO (fun p=>match p.2 with | [c]=>(match dOf S.T (.int k) c with | some d=>some d.toInt | none=>none) | _=>none) l with
    | some xs=>bif (l.map (·.1) == List.range len) && (len * (sz + 1)).ble (2 ^ 24) then retC (.d t (.ints xs)) else .fail
    | none=>.fail
   | some (sz + 1),some (.rows cts)=>match mapO (fun p=>elemsD S.T cts p.2) l with
    | some xs=>bif (l.map (·.1) == List.range len) && (len * (sz + 1)).ble (2 ^ 24) then retC (.d t (.rows xs)) else .fail
    | none=>.fail
   | _,_=>.fail
  | _,_=>.fail
 | .lookup t x k true=>match S.tt t,evC env x,evV env k,S.T t with
  | some ⟨.map kt e,_,_,_⟩,some (.m n u),some (.string s),some (.rows cts)=>match snap n,S.tt e,S.tt kt with
   | some (.map u' l),some i,some ⟨.cell .str,_,_,_⟩=>bif t.beq u' && !(i.zero.length.beq 1) then .all (Option (List D)) (fun o=>findM s l = o) ⟨_,rfl⟩ (lookS i.zero cts) else .fail
   | _,_,_=>.fail
  | _,_,_,_=>.fail
 | _=>.fail
end Sx
namespace Sx
open Go
theorem wp_ite_cond {ρ : Type} {b : Bool} {x y : Out ρ} {K : ρ → Prop} (h : (bif b then x else y).wp K) : (b = true ∧ x.wp K) ∨ (b = false ∧ y.wp K):=by
 cases b
 ·exact .inr ⟨rfl,h⟩
 exact .inl ⟨rfl,h⟩
theorem wp_cond_fail {ρ : Type} {b : Bool} {x : Out ρ} {K : ρ → Prop} (h : (bif b then x else .fail).wp K) : b = true ∧ x.wp K:=by
 cases b
 ·exact h.elim
 exact ⟨rfl,h⟩
section table
variable {P : Program} {tt : TT} {t : TypeId} {i : TI}
structure TIok (P : Program) (t : TypeId) (i : TI) : Prop where
 ok : ∃ d inf z,P.underlying t = some d ∧ tyOf d = i.ty ∧ P.info? t = some inf ∧ inf.size = i.cts.length ∧ inf.zero = some z ∧ z.cells.toList = i.zero ∧ i.zero.length = i.cts.length ∧ (∀ v ∈ i.zero,oneV v = true) ∧ inf.bytes = i.bytes ∧ ctsOf P 12 t = i.cts
theorem TOk.get (h : TOk P tt) (ht : tt t = some i) : TIok P t i:=by
 have h1:=h t i ht
 unfold ttOf at h1
 cases hu : P.underlying t with
 | none=>simp [hu] at h1
 | some d =>
  cases hi : P.info? t with
  | none=>simp [hu,hi] at h1
  | some inf =>
   cases hz : inf.zero with
   | none=>simp [hu,hi,hz] at h1
   | some z =>
    simp only [hu,hi,hz] at h1
    cases hb : ((ctsOf P 12 t).length.beq inf.size && z.cells.size.beq inf.size && z.cells.toList.all oneV) with
    | false=>rw [hb] at h1; cases h1
    | true =>
     rw [hb] at h1
     obtain rfl:=Option.some.inj h1
     simp only [Bool.and_eq_true] at hb
     have e1:=Nat.eq_of_beq_eq_true hb.1.1
     have e2:=Nat.eq_of_beq_eq_true hb.1.2
     exact ⟨d,inf,z,hu,rfl,hi,e1.symm,hz,rfl,by simpa using e2.trans e1.symm,fun v hv=>List.all_eq_true.1 hb.2 v hv,rfl,rfl⟩
theorem TIok.isAgg (h : TIok P t i) (w : World) : (Go.isAgg t).run P w = .ok (isAggT i.ty) w:=by
 obtain ⟨d,inf,z,hu,hd,_⟩:=h.ok
 unfold Go.isAgg
 rw [Sem.run_bind,run_underlying hu w,← hd]
 cases d <;> rfl
theorem TIok.size (h : TIok P t i) (w : World) : (Go.sizeOf t).run P w = .ok i.cts.length w:=by
 obtain ⟨d,inf,z,_,_,hi,hs,_⟩:=h.ok
 simp [Go.sizeOf,typeInfo,hi,hs]
theorem TIok.zeroV (h : TIok P t i) (w : World) : ∃ z,(zeroValue t).run P w = .ok z w ∧ z.cells.toList = i.zero:=by
 obtain ⟨d,inf,z,_,_,hi,_,hz,hc,_⟩:=h.ok
 exact ⟨z,by simp [zeroValue,typeInfo,hi,hz],hc⟩
theorem TIok.slice (h : TIok P t i) {e : TypeId} (he : i.ty = .slice e) : P.underlying t = some (.slice e):=by
 obtain ⟨d,inf,z,hu,hd,_⟩:=h.ok
 rw [he] at hd
 cases d <;> simp_all [tyOf]
theorem TIok.mapT (h : TIok P t i) {k e : TypeId} (he : i.ty = .map k e) : P.underlying t = some (.map k e):=by
 obtain ⟨d,inf,z,hu,hd,_⟩:=h.ok
 rw [he] at hd
 cases d <;> simp_all [tyOf]
theorem TIok.strT (h : TIok P t i) (he : i.ty = .cell .str) : P.underlying t = some .string:=by
 obtain ⟨d,inf,z,hu,hd,_⟩:=h.ok
 rw [he] at hd
 cases d <;> simp_all [tyOf]
theorem TIok.array (h : TIok P t i) {n : Nat} {e : TypeId} (he : i.ty = .array n e) : P.underlying t = some (.array n e):=by
 obtain ⟨d,inf,z,hu,hd,_⟩:=h.ok
 rw [he] at hd
 cases d <;> simp_all [tyOf]
theorem TIok.intK (h : TIok P t i) {k : IntKind} (he : i.ty = .cell (.int k)) : P.underlying t = some (.int k):=by
 obtain ⟨d,inf,z,hu,hd,_⟩:=h.ok
 rw [he] at hd
 cases d <;> simp_all [tyOf]
theorem TIok.struct (h : TIok P t i) {fs : List (Nat × TypeId)} (he : i.ty = .struct fs) : ∃ gs,P.underlying t = some (.struct gs) ∧ fs = gs.toList.map fun f=>(f.offset,f.type):=by
 obtain ⟨d,inf,z,hu,hd,_⟩:=h.ok
 rw [he] at hd
 cases d <;> simp_all [tyOf]
end table
section
variable {S : Pr} {E : Ctx} {β : Nat → Option Nat} {env : Env} {own snap : Own} {a : Act} {w : World}
theorem den_all (T : Tab) (A : Nat → Prop) : ∀ (l : List Value),l.all oneV = true → All2 (DenC T w β A own) (l.map .v) l
 | [],_=>trivial
 | v :: l,h=>by
  simp only [List.all_cons,Bool.and_eq_true] at h
  exact ⟨⟨rfl,h.1⟩,den_all T A l h.2⟩
theorem constSV_den (T : Tab) (A : Nat → Prop) {v : Value} {sv : SV} (h : constSV v = some sv) : DenS T w β A own sv v:=by
 cases v <;> simp only [constSV,Option.some.injEq] at h <;> try (subst h; exact ⟨rfl,rfl⟩)
 ·rename_i cs
  cases hb : cs.toList.all oneV with
  | false=>simp [hb] at h
  | true =>
   simp only [hb,cond_true,Option.some.injEq] at h
   subst h
   exact ⟨cs.toList,by simp,den_all T A cs.toList hb⟩
 simp at h
theorem ev_den (h : Rel E β env own a w) {x : Operand} {sv : SV} (hx : ev env x = some sv) : DenS E.T w β (Av E.X β own) own sv (a.eval x):=by
 cases x with
 | tmp t=>exact h.vals t sv hx
 | const v=>exact constSV_den _ _ hx
 | global g=>simp [ev] at hx
 | func f=>simp only [ev,Option.some.injEq] at hx; subst hx; exact ⟨rfl,rfl⟩
theorem evC_den (h : Rel E β env own a w) {x : Operand} {c : C} (hx : evC env x = some c) : DenC E.T w β (Av E.X β own) own c (a.eval x):=by
 unfold evC at hx
 split at hx
 ·rename_i c' he
  obtain rfl:=Option.some.inj hx
  exact ev_den h he
 simp at hx
theorem evU_den (h : Rel E β env own a w) {x : Operand} {u : U} (hx : evU env x = some u) : DenU E.T w β (Av E.X β own) own u (a.eval x):=by
 unfold evU at hx
 split at hx
 ·rename_i c' he
  obtain rfl:=Option.some.inj hx
  exact ev_den h he
 simp at hx
theorem evV_eq (h : Rel E β env own a w) {x : Operand} {v : Value} (hx : evV env x = some v) : a.eval x = v ∧ oneV v = true:=by
 unfold evV at hx
 split at hx
 ·rename_i c' he
  obtain rfl:=Option.some.inj hx
  exact ev_den h he
 simp at hx
def VOk (S : Pr) (E : Ctx) (β : Nat → Option Nat) (own : Own) (a : Act) (w : World) (o : Oper) (K : SV → Prop) : Prop :=
 ∃ sv v w',K sv ∧ (execOp a.eval o).run S.P w = .ok (.value v) w' ∧ Fr w w' (fun _=>False) ∧ DenS E.T w' β (Av E.X β own) own sv v
theorem VOk.same {o : Oper} {K : SV → Prop} {sv : SV} {v : Value} (hk : K sv) (hr : (execOp a.eval o).run S.P w = .ok (.value v) w) (hd : DenS E.T w β (Av E.X β own) own sv v) : VOk S E β own a w o K :=
 ⟨sv,v,w,hk,hr,Fr.refl _ _,hd⟩
variable (hT : TOk S.P S.tt) (h : Rel E β env own a w) (hs : ∀ n B,snap n = some B → own n = some B) (hET : E.T = S.T)
include h in
theorem v_move {o : Oper} {x : Operand} {K : SV → Prop} (ho : o.op = .move x ∨ o.op = .assign x) (hk : (opV S snap env o).wp K) : VOk S E β own a w o K:=by
 rcases ho with ho | ho <;>
 ·simp only [opV,ho] at hk
  cases he : ev env x with
  | none=>rw [he] at hk; exact hk.elim
  | some sv =>
   rw [he] at hk
   exact .same hk (by simp [execOp,ho]) (ev_den h he)
include h in
theorem v_pick {o : Oper} {c x y : Operand} {K : SV → Prop} (ho : o.op = .pick c x y) (hk : (opV S snap env o).wp K) : VOk S E β own a w o K:=by
 simp only [opV,ho] at hk
 split at hk
 ·rename_i b p q h1 h2 h3
  have hc:=(evV_eq h h1).1
  have hp:=ev_den h h2
  have hq:=ev_den h h3
  have hrun : (execOp a.eval o).run S.P w = .ok (.value (if b then a.eval x else a.eval y)) w:=by
   simp [execOp,ho,hc,asBool]
  unfold pickS at hk
  split at hk
  ·rename_i p' q'
   refine .same hk hrun ?_
   have e1 : a.eval x = .bool p':=hp.1
   have e2 : a.eval y = .bool q':=hq.1
   rw [e1,e2]
   cases b <;> exact ⟨rfl,rfl⟩
  ·rename_i k m k' n
   obtain ⟨hkk,hk⟩:=wp_cond_fail hk
   have ek : k = k':=of_decide_eq_true hkk
   refine .same hk hrun ?_
   have e1 : a.eval x = .int k m:=hp.1
   have e2 : a.eval y = .int k' n:=hq.1
   rw [e1,e2,ek]
   cases b <;> exact ⟨rfl,rfl⟩
  cases b
  ·exact .same hk hrun hq
  exact .same hk hrun hp
 exact hk.elim
include hT h in
theorem v_fieldAddr {o : Oper} {s : TypeId} {x : Operand} {f : Nat} {K : SV → Prop} (ho : o.op = .fieldAddr s x f) (hk : (opV S snap env o).wp K) : VOk S E β own a w o K:=by
 simp only [opV,ho] at hk
 split at hk
 ·rename_i fs cts z by_ c h1 h2
  have ht:=hT.get h1
  obtain ⟨gs,hu,hf⟩:=ht.struct rfl
  have hc:=evC_den h h2
  split at hk
  ·rename_i off t h3
   have hg : ∃ g,gs[f]? = some g ∧ g.offset = off ∧ g.type = t:=by
    rw [hf] at h3
    simp only [List.getElem?_map,Array.getElem?_toList,Option.map_eq_some_iff,Prod.mk.injEq] at h3
    obtain ⟨g,a1,a2,a3⟩:=h3
    exact ⟨g,a1,a2,a3⟩
   obtain ⟨g,hg1,hg2,hg3⟩:=hg
   split at hk
   ·rename_i n h4
    have hsz : ∀ w : World,(Go.sizeOf g.type).run S.P w = .ok (n + 1) w:=by
     intro w
     unfold sizeT at h4
     cases h5 : S.tt t with
     | none=>simp [h5] at h4
     | some i=>simp only [h5,Option.map_some,Option.some.injEq] at h4; have hz:=(hT.get h5).size w; rw [h4] at hz; rw [hg3]; exact hz
    have hrun : ∀ ad : Addr,a.eval x = .pointer (some ad) → (execOp a.eval o).run S.P w = .ok (.value (.pointer (some (ad.add off)))) w:=by
     intro ad hx
     simp [execOp,ho,Instr.fieldAt,run_underlying hu,hx,Instr.sureAddr,hg1,fieldPlace,hsz,hg2]
    split at hk
    ·obtain ⟨b,t',l,a1,a2,a3⟩:=hc
     refine .same hk (hrun _ a3) ⟨b,t',l,a1,a2,?_⟩
     rw [add_lit]
    ·obtain ⟨ad,a1,a2⟩:=hc
     refine .same hk (hrun _ a1) ⟨ad,?_,a2⟩
     rw [add_add]
    ·obtain ⟨t',x',b,a1,a2,a3,a4,a5⟩:=hc
     refine .same hk (hrun _ a5) ⟨t',x',b,a1,a2,a3,a4,?_⟩
     rw [add_lit,Nat.add_assoc]
    exact hk.elim
   exact hk.elim
  exact hk.elim
 exact hk.elim
theorem All2.drop_take {α β : Type} {R : α → β → Prop} {l : List α} {m : List β} (h : All2 R l m) (i n : Nat) : All2 R ((l.drop i).take n) ((m.drop i).take n):=(h.drop i).take n
theorem part_run (hT : TOk S.P S.tt) {t : TypeId} {l : List C} {off : Nat} {u : U} {cs : List Value} {A : Nat → Prop} {T : Tab} (hp : part? S t l off = some u) (hl : All2 (DenC T w β A own) l cs) :
  ∃ v,(Go.part t cs.toArray off).run S.P w = .ok v w ∧ DenU T w β A own u v:=by
 unfold part? at hp
 split at hp
 ·rename_i i hi
  have ht:=hT.get hi
  have hag:=ht.isAgg w
  have hsz:=ht.size w
  cases hb : isAggT i.ty with
  | true =>
   rw [hb] at hp hag
   simp only [cond_true] at hp
   cases hle : (off + i.cts.length).ble l.length with
   | false=>simp [hle] at hp
   | true =>
    simp only [hle,cond_true,Option.some.injEq] at hp
    subst hp
    refine ⟨.agg ((cs.drop off).take i.cts.length).toArray,?_,_,rfl,hl.drop_take off _⟩
    simp only [Go.part,Sem.run_bind,hag,Result.andThen_ok,if_true,hsz,Sem.run_pure]
    congr 2
    apply Array.ext'
    simp [List.take_drop]
  | false =>
   rw [hb] at hp hag
   simp only [cond_false] at hp
   split at hp
   ·rename_i c hc
    obtain rfl:=Option.some.inj hp
    obtain ⟨v,hv,hd⟩:=hl.get hc
    refine ⟨v,?_,hd⟩
    simp [Go.part,Sem.run_bind,hag,hv]
   simp at hp
 simp at hp
include hT h in
theorem v_field {o : Oper} {s : TypeId} {x : Operand} {f : Nat} {K : SV → Prop} (ho : o.op = .field s x f) (hk : (opV S snap env o).wp K) : VOk S E β own a w o K:=by
 simp only [opV,ho] at hk
 split at hk
 ·rename_i fs cts z by_ l h1 h2
  have ht:=hT.get h1
  obtain ⟨gs,hu,hf⟩:=ht.struct rfl
  obtain ⟨cs,hx,hl⟩:=ev_den h h2
  split at hk
  ·rename_i off t h3
   rw [hf] at h3
   simp only [List.getElem?_map,Array.getElem?_toList,Option.map_eq_some_iff,Prod.mk.injEq] at h3
   obtain ⟨g,hg1,hg2,hg3⟩:=h3
   split at hk
   ·rename_i u h4
    obtain ⟨v,hr,hd⟩:=part_run hT h4 hl
    refine .same hk ?_ hd
    rw [← hg3,← hg2] at hr
    simp [execOp,ho,Instr.field,run_underlying hu,hg1,hx,asAgg,hr]
   exact hk.elim
  exact hk.elim
 exact hk.elim
include h in
theorem v_extract {o : Oper} {x : Operand} {i : Nat} {K : SV → Prop} (ho : o.op = .extract x i) (hk : (opV S snap env o).wp K) : VOk S E β own a w o K:=by
 simp only [opV,ho] at hk
 split at hk
 ·rename_i l h1
  obtain ⟨vs,hx,hl⟩:=ev_den h h1
  split at hk
  ·rename_i u h2
   obtain ⟨v,hv,hd⟩:=hl.get h2
   refine .same hk ?_ hd
   simp [execOp,ho,Instr.extract,hx,hv]
  exact hk.elim
 exact hk.elim
include h in
theorem v_nilCheck {o : Oper} {x : Operand} {K : SV → Prop} (ho : o.op = .nilCheck x) (hk : (opV S snap env o).wp K) : VOk S E β own a w o K:=by
 simp only [opV,ho] at hk
 have hrun : ∀ ad : Addr,a.eval x = .pointer (some ad) → (execOp a.eval o).run S.P w = .ok (.value (.pointer (some ad))) w:=by
  intro ad hx
  simp [execOp,ho,hx]
 split at hk
 ·rename_i n off h1
  have hc:=evC_den h h1
  obtain ⟨b,t,l,a1,a2,a3⟩:=hc
  exact .same hk (hrun _ a3) ⟨b,t,l,a1,a2,rfl⟩
 ·rename_i n off h1
  have hc:=evC_den h h1
  obtain ⟨ad,a1,a2⟩:=hc
  exact .same hk (hrun _ a1) ⟨ad,rfl,a2⟩
 ·rename_i n off h1
  have hc:=evC_den h h1
  obtain ⟨t,x,b,a1,a2,a3,a4,a5⟩:=hc
  exact .same hk (hrun _ a5) ⟨t,x,b,a1,a2,a3,a4,rfl⟩
 exact hk.elim
include hT h in
theorem v_makeInterface {o : Oper} {t : TypeId} {x : Operand} {K : SV → Prop} (ho : o.op = .makeInterface t x) (hk : (opV S snap env o).wp K) : VOk S E β own a w o K:=by
 simp only [opV,ho] at hk
 split at hk
 ·rename_i c cts z by_ v h1 h2
  have ht:=hT.get h1
  obtain ⟨d,inf,z,hu,hd,_⟩:=ht.ok
  have hx:=(evV_eq h h2).1
  refine .same hk (v:=.iface t v) ?_ ⟨rfl,rfl⟩
  cases d <;> simp_all [tyOf,execOp,Instr.makeInterface,run_underlying hu]
 exact hk.elim
end
end Sx
namespace Sx
open Go
section
variable {S : Pr} {E : Ctx} {β : Nat → Option Nat} {env : Env} {own snap : Own} {a : Act} {w : World}
theorem loadVar_run (hT : TOk S.P S.tt) {t : TypeId} {i : TI} (ht : S.tt t = some i) (ad : Addr) (vs : List Value) (hl : vs.length = i.cts.length) (hb : isAggT i.ty = true)
  (hc : ∀ (j : Nat) v,vs[j]? = some v → w.cell? (ad.add j) = some v) : (loadVar t ad).run S.P w = .ok (.agg vs.toArray) w:=by
 have h1:=(hT.get ht).isAgg w
 have h2:=(hT.get ht).size w
 have h3:=run_loadCells_list (P:=S.P) w ad vs hc
 rw [hb] at h1
 rw [hl] at h3
 simp [loadVar,Sem.run_bind,h1,h2,h3]
theorem loadVar_one (hT : TOk S.P S.tt) {t : TypeId} {i : TI} (ht : S.tt t = some i) (ad : Addr) (v : Value) (hb : isAggT i.ty = false) (hc : w.cell? ad = some v) : (loadVar t ad).run S.P w = .ok v w:=by
 have h1:=(hT.get ht).isAgg w
 rw [hb] at h1
 simp [loadVar,Sem.run_bind,h1,hc]
theorem cOf_den {T : Tab} {A : Nat → Prop} {ct : Ct} {v : Value} {d : D} (h : Rd T w A ct v d) : DenC T w β A own (cOf ct d) v:=by
 cases h with
 | int=>exact ⟨rfl,rfl⟩
 | bool=>exact ⟨rfl,rfl⟩
 | str=>exact ⟨rfl,rfl⟩
 | nilI h=>exact .nilI h
 | nilR h=>exact .nilR h
 | ints h h1 h3=>exact .ints h h1 h3
 | rows vs h h1 h3 h4 h5=>exact .rows vs h h1 h3 h4 h5
theorem part_load (hT : TOk S.P S.tt) {t : TypeId} {l : List C} {off b : Nat} {u : U} {cs : List Value} {A : Nat → Prop} {T : Tab} (hp : part? S t l off = some u) (hl : All2 (DenC T w β A own) l cs)
  (hc : ∀ (j : Nat) v,cs[j]? = some v → w.cell? ⟨b,j,none⟩ = some v) : ∃ v,(loadVar t ⟨b,off,none⟩).run S.P w = .ok v w ∧ DenU T w β A own u v:=by
 unfold part? at hp
 split at hp
 ·rename_i i hi
  cases hb : isAggT i.ty with
  | true =>
   rw [hb] at hp
   simp only [cond_true] at hp
   cases hle : (off + i.cts.length).ble l.length with
   | false=>simp [hle] at hp
   | true =>
    simp only [hle,cond_true,Option.some.injEq] at hp
    subst hp
    have hlen:=hl.length
    have hle':=Nat.le_of_ble_eq_true hle
    refine ⟨_,loadVar_run hT hi _ ((cs.drop off).take i.cts.length) (by simp; omega) hb ?_,_,rfl,hl.drop_take off _⟩
    intro j v hv
    rw [add_lit]
    refine hc _ _ ?_
    rw [List.getElem?_take] at hv
    split at hv
    ·rwa [List.getElem?_drop] at hv
    simp at hv
  | false =>
   rw [hb] at hp
   simp only [cond_false] at hp
   split at hp
   ·rename_i c hcc
    obtain rfl:=Option.some.inj hp
    obtain ⟨v,hv,hd⟩:=hl.get hcc
    exact ⟨v,loadVar_one hT hi _ v hb (hc _ _ hv),hd⟩
   simp at hp
 simp at hp
theorem row_load (hT : TOk S.P S.tt) {t : TypeId} {cts : List Ct} {row : List D} {off : Nat} {u : U} {A : Nat → Prop} {T : Tab} {ad : Addr} (vs : Nat → Value) (hp : rowPart? S t cts row off = some u)
  (hl : row.length = cts.length) (hc : ∀ (j : Nat) ct d,cts[j]? = some ct → row[j]? = some d → w.cell? (ad.add j) = some (vs j) ∧ Rd T w A ct (vs j) d) :
  ∃ v,(loadVar t (ad.add off)).run S.P w = .ok v w ∧ DenU T w β A own u v:=by
 have key : ∀ j,j < cts.length → w.cell? (ad.add j) = some (vs j) ∧ DenC T w β A own (cOf (cts.getD j .oth) (cellD row j)) (vs j):=by
  intro j hj
  have e1 : cts[j]? = some cts[j]:=List.getElem?_eq_getElem hj
  have e2 : row[j]? = some row[j]:=List.getElem?_eq_getElem (by omega)
  obtain ⟨h1,h2⟩:=hc j _ _ e1 e2
  refine ⟨h1,?_⟩
  have:=cOf_den (β:=β) (own:=own) h2
  simpa [cellD,List.getD,e1,e2] using this
 unfold rowPart? at hp
 split at hp
 ·rename_i i hi
  cases hb : isAggT i.ty with
  | true =>
   rw [hb] at hp
   simp only [cond_true] at hp
   cases hle : (off + i.cts.length).ble cts.length with
   | false=>simp [hle] at hp
   | true =>
    simp only [hle,cond_true,Option.some.injEq] at hp
    subst hp
    have hle':=Nat.le_of_ble_eq_true hle
    refine ⟨_,loadVar_run hT hi _ ((List.range i.cts.length).map fun j=>vs (off + j)) (by simp) hb ?_,_,rfl,?_⟩
    ·intro j v hv
     rw [add_add]
     simp only [List.getElem?_map,List.getElem?_range',Option.map_eq_some_iff] at hv
     obtain ⟨j',hj',rfl⟩:=hv
     have : j' = j ∧ j < i.cts.length:=by
      have:=List.getElem?_eq_some_iff.1 hj'
      obtain ⟨h1,h2⟩:=this
      simp at h1 h2
      exact ⟨h2.symm,h1⟩
     rw [this.1]
     exact (key (off + j) (by omega)).1
    refine All2.of_get (by simp) ?_
    intro j c v h1 h2
    simp only [List.getElem?_map,Option.map_eq_some_iff] at h1 h2
    obtain ⟨j1,h1,rfl⟩:=h1
    obtain ⟨j2,h2,rfl⟩:=h2
    have:=List.getElem?_eq_some_iff.1 h1
    obtain ⟨hj,e1⟩:=this
    have e2:=h1.symm.trans h2
    simp at hj e1
    obtain rfl:=Option.some.inj e2
    exact (key (off + j1) (by omega)).2
  | false =>
   rw [hb] at hp
   simp only [cond_false] at hp
   split at hp
   ·rename_i ct hct
    obtain rfl:=Option.some.inj hp
    have hj:=(List.getElem?_eq_some_iff.1 hct).1
    obtain ⟨h1,h2⟩:=key off hj
    refine ⟨vs off,loadVar_one hT hi _ _ hb h1,?_⟩
    show DenC T w β A own (cOf ct (cellD row off)) (vs off)
    simpa [List.getD,hct] using h2
   simp at hp
 simp at hp
theorem DenE.cells {T : Tab} {A : Nat → Prop} {cts : List Ct} {row : List D} {ad : Addr} (h : DenE T w A cts row ad) : row.length = cts.length ∧ ∃ vs : Nat → Value,∀ (j : Nat) ct d,cts[j]? = some ct → row[j]? = some d → w.cell? (ad.add j) = some (vs j) ∧ Rd T w A ct (vs j) d:=by
 obtain ⟨h0,vs,h1⟩:=h
 exact ⟨h0,vs,fun j ct d a b=>⟨(h1 j ct d a b).1.2.2,(h1 j ct d a b).2⟩⟩
theorem cell_of_block {b : Nat} {cs : Array Value} {t : TypeId} {f : Nat × Nat} (h : w.heap[b]? = some (.cells cs t f)) (j : Nat) : w.cell? ⟨b,j,none⟩ = cs[j]?:=by
 simp [World.cell?,h]
theorem qRow_cells {A : Nat → Prop} {t : TypeId} {x : D} {i : Int} {cs : Array Value} {b : Nat} {te : TypeId} {cts : List Ct} {row : List D} (hq : qRow S t x i = some (cts,row)) (hi : 0 ≤ i ∧ i < x.len)
  (hr : RowRd S.T w A t x cs) (hb : w.heap[b]? = some (.cells cs te (0,0))) :
  row.length = cts.length ∧ esz S.T t = cts.length ∧ ∃ vs : Nat → Value,∀ (j : Nat) ct d,cts[j]? = some ct → row[j]? = some d → w.cell? ((⟨b,i.toNat * esz S.T t,none⟩ : Addr).add j) = some (vs j) ∧ Rd S.T w A ct (vs j) d:=by
 rcases hr with ⟨k,l,h1,rfl,h2⟩ | ⟨c,l,h1,rfl,vs,h2,h3,h4⟩
 ·simp only [qRow,h1,Option.some.injEq,Prod.mk.injEq] at hq
  obtain ⟨rfl,rfl⟩:=hq
  have hz : esz S.T t = 1:=by simp [esz,h1,El.size]
  refine ⟨rfl,hz,fun _=>.int k (l.getD i.toNat 0),?_⟩
  intro j ct d hct hd
  have hlt : i.toNat < l.length:=by have:=hi.2; simp only [D.len] at this; omega
  have e:=List.getElem?_eq_getElem hlt
  have:=h2 _ _ e
  have hj : j = 0:=by
   rcases j with _ | j
   ·rfl
   simp at hct
  subst hj
  simp only [List.getElem?_cons_zero,Option.some.injEq] at hct hd
  subst hct hd
  rw [add_lit,cell_of_block hb,hz]
  simp only [Nat.mul_one,Nat.add_zero,List.getD,e,Option.getD_some]
  exact ⟨this,.int⟩
 simp only [qRow,h1,Option.some.injEq,Prod.mk.injEq] at hq
 obtain ⟨rfl,rfl⟩:=hq
 have hz : esz S.T t = c.length:=by simp [esz,h1,El.size]
 have hlt : i.toNat < l.length:=by have:=hi.2; simp only [D.len] at this; omega
 have e:=List.getElem?_eq_getElem hlt
 have e' : l.getD i.toNat [] = l[i.toNat]:=by simp [List.getD,e]
 rw [e']
 refine ⟨h2 _ _ e,hz,vs i.toNat,?_⟩
 intro j ct d hct hd
 rw [add_lit,cell_of_block hb,hz]
 exact ⟨h3 _ _ _ _ e hd,h4 _ _ _ _ _ e hct hd⟩
variable (hT : TOk S.P S.tt) (h : Rel E β env own a w) (hs : ∀ n B,snap n = some B → own n = some B) (hET : E.T = S.T)
include hT h hs hET in
theorem loadS_run {t : TypeId} {c : C} {u : U} {y : Value} (hl : loadS S snap t c = some u) (hc : DenC E.T w β (Av E.X β own) own c y) :
  ∃ v,(Instr.loadAt t y).run S.P w = .ok v w ∧ DenU E.T w β (Av E.X β own) own u v:=by
 have at_ : ∀ {ad : Addr} {v : Value},(loadVar t ad).run S.P w = .ok v w → (Instr.loadAt t (.pointer (some ad))).run S.P w = .ok v w:=by
  intro ad v hv
  simp [Instr.loadAt,Instr.sureAddr,Sem.run_bind,hv]
 unfold loadS at hl
 split at hl
 ·rename_i n off
  obtain ⟨b,t',l',a1,a2,rfl⟩:=hc
  split at hl
  ·rename_i t2 l hn
   have hb:=h.blks.blk n _ (hs _ _ hn)
   obtain ⟨b',cs,b1,b2,b3⟩:=hb
   have : b' = b:=by rw [a2] at b1; exact (Option.some.inj b1).symm
   subst this
   obtain ⟨v,hv,hd⟩:=part_load hT hl b3 (b:=b') (fun j v hj=>by rw [cell_of_block b2]; simpa using hj)
   exact ⟨v,at_ hv,hd⟩
  simp at hl
 ·rename_i cts row off
  obtain ⟨ad,rfl,a2⟩:=hc
  obtain ⟨h0,vs,h1⟩:=a2.cells
  obtain ⟨v,hv,hd⟩:=row_load hT (β:=β) (own:=own) vs hl h0 h1
  exact ⟨v,at_ hv,hd⟩
 ·rename_i n i off
  obtain ⟨t',x',b,a1,a2,a3,a4,rfl⟩:=hc
  split at hl
  ·rename_i u2 x hn
   have e:=(hs _ _ hn).symm.trans a1
   obtain ⟨rfl,rfl⟩ : u2 = t' ∧ x = x':=by simpa using e
   obtain ⟨cs,b1,b2⟩:=h.blks.blk n _ a1
   rw [a2] at b2
   obtain ⟨te,cap,b3,b4,b5⟩:=b2
   split at hl
   ·rename_i cts row hq
    rw [hET] at b1
    obtain ⟨h0,hz,vs,h1⟩:=qRow_cells (S:=S) hq ⟨a3,a4⟩ b1 b3
    obtain ⟨v,hv,hd⟩:=row_load hT (β:=β) (own:=own) vs hl h0 h1
    refine ⟨v,?_,by rw [hET]; exact hd⟩
    rw [add_lit] at hv
    rw [hET]
    exact at_ hv
   simp at hl
  simp at hl
 simp at hl
include hT h hs hET in
theorem v_load {o : Oper} {t : TypeId} {x : Operand} {K : SV → Prop} (ho : o.op = .load t x) (hk : (opV S snap env o).wp K) : VOk S E β own a w o K:=by
 simp only [opV,ho] at hk
 split at hk
 ·rename_i c h1
  split at hk
  ·rename_i u h2
   obtain ⟨v,hv,hd⟩:=loadS_run hT h hs hET h2 (evC_den h h1)
   refine .same hk ?_ hd
   simp [execOp,ho,Sem.run_bind,hv]
  exact hk.elim
 exact hk.elim
end
end Sx
namespace Sx
open Go
section
variable {S : Pr} {E : Ctx} {β : Nat → Option Nat} {env : Env} {own snap : Own} {a : Act} {w : World}
theorem el_size (hT : TOk S.P S.tt) {t e : TypeId} {cts : List Ct} {z : List Value} {by_ : Nat} (ht : S.tt t = some ⟨.slice e,cts,z,by_⟩) {el : El} (he : S.T t = some el) :
  ∃ i,S.tt e = some i ∧ i.cts.length = el.size ∧ ∀ w,(Go.sizeOf e).run S.P w = .ok el.size w:=by
 unfold Pr.T elOf at he
 rw [ht] at he
 simp only at he
 cases hi : S.tt e with
 | none=>simp [hi] at he
 | some i =>
  have hl : i.cts.length = el.size:=by
   rw [hi] at he
   rcases i with ⟨ty,c,z',by'⟩
   have other : some (El.rows c) = some el → c.length = el.size:=by
    intro e
    obtain rfl:=Option.some.inj e
    rfl
   cases ty with
   | cell ct =>
    cases ct with
    | int k =>
     simp only [Option.some.injEq] at he
     subst he
     obtain ⟨d,inf,zz,_,_,_,_,_,_,_,_,_,hc⟩:=(hT.get hi).ok
     have hu:=(hT.get hi).intK rfl
     simp only [ctsOf,hu] at hc
     simp [← hc,El.size]
    | _=>exact other he
   | _=>exact other he
  refine ⟨i,rfl,hl,fun w=>?_⟩
  rw [← hl]
  exact (hT.get hi).size w
variable (hT : TOk S.P S.tt) (h : Rel E β env own a w) (hs : ∀ n B,snap n = some B → own n = some B) (hET : E.T = S.T)
theorem need_of {ρ : Type} {p : Prop} {o : Out ρ} {K : ρ → Prop} (h : (Out.need p o).wp K) : p ∧ o.wp K:=h
theorem data_elem {T : Tab} {A : Nat → Prop} {t : TypeId} {y : D} {n : Int} {v : Value} {cts : List Ct} {row : List D} (hd : Rd T w A (.sl t) v y) (hT : T = S.T) (hq : qRow S t y n = some (cts,row)) (hn : 0 ≤ n ∧ n < (y.len : Int)) :
  ∃ ad cap el,v = .slice (some ad) y.len cap ∧ T t = some el ∧ DenE T w A cts row (ad.add (n.toNat * el.size)):=by
 subst hT
 have hlt : n.toNat < y.len:=by omega
 cases hd with
 | nilI h=>simp [D.len] at hlt
 | nilR h=>simp [D.len] at hlt
 | @ints t k l ad cap h h1 h3 =>
  simp only [qRow,h,Option.some.injEq,Prod.mk.injEq] at hq
  obtain ⟨rfl,rfl⟩:=hq
  refine ⟨ad,cap,_,rfl,h,rfl,fun _=>.int k (l.getD n.toNat 0),?_⟩
  intro j ct d hct hd
  have hj : j = 0:=by
   rcases j with _ | j
   ·rfl
   simp at hct
  subst hj
  simp only [List.getElem?_cons_zero,Option.some.injEq] at hct hd
  subst hct hd
  have e:=List.getElem?_eq_getElem (l:=l) (i:=n.toNat) hlt
  have:=h3 _ _ e
  simp only [El.size,Nat.mul_one,List.getD,e,Option.getD_some]
  exact ⟨this,.int⟩
 | @rows t c l ad cap vs h h1 h3 h4 h5 =>
  simp only [qRow,h,Option.some.injEq,Prod.mk.injEq] at hq
  obtain ⟨rfl,rfl⟩:=hq
  have e:=List.getElem?_eq_getElem (l:=l) (i:=n.toNat) hlt
  have e' : l.getD n.toNat [] = l[n.toNat]:=by simp [List.getD,e]
  rw [e']
  refine ⟨ad,cap,_,rfl,h,h3 _ _ e,vs n.toNat,?_⟩
  intro j ct d hct hd
  rw [add_add]
  exact ⟨h4 _ _ _ _ e hd,h5 _ _ _ _ _ e hct hd⟩
theorem index_run {o : Oper} {t e : TypeId} {x i : Operand} {k : IntKind} {n : Int} {ad : Addr} {len cap sz : Nat} (ho : o.op = .indexAddr t x i) (hu : S.P.underlying t = some (.slice e)) (hx : a.eval x = .slice (some ad) len cap) (hi : a.eval i = .int k n)
  (hn : 0 ≤ n ∧ n < (len : Int)) (hz : (Go.sizeOf e).run S.P w = .ok sz w) : (execOp a.eval o).run S.P w = .ok (.value (.pointer (some (ad.add (n.toNat * sz))))) w:=by
 simp [execOp,ho,Instr.indexAt,asIntOf,run_underlying hu,hx,hi,hn,hz]
include hT h hs hET in
theorem v_indexAddr {o : Oper} {t : TypeId} {x i : Operand} {K : SV → Prop} (ho : o.op = .indexAddr t x i) (hk : (opV S snap env o).wp K) : VOk S E β own a w o K:=by
 simp only [opV,ho] at hk
 split at hk
 ·rename_i e cts z by_ u y k n h1 h2 h3
  have hd : Rd E.T w (Av E.X β own) (.sl u) (a.eval x) y:=evC_den h h2
  have hi:=(evV_eq h h3).1
  obtain ⟨hu,hk1⟩:=wp_cond_fail hk
  clear hk
  obtain rfl:=Nat.eq_of_beq_eq_true hu
  split at hk1
  ·rename_i cts' row hq
   obtain ⟨hn,hk2⟩:=need_of hk1
   obtain ⟨ad,cap,el,hv,hel,hde⟩:=data_elem hd hET hq hn
   rw [hET] at hel
   obtain ⟨ie,_,_,hz⟩:=el_size hT h1 hel
   refine .same hk2 (index_run ho ((hT.get h1).slice rfl) hv hi hn (hz w)) ⟨_,rfl,hde⟩
  exact hk1.elim
 ·rename_i e cts z by_ m u k n h1 h2 h3
  have hd:=evC_den h h2
  have hi:=(evV_eq h h3).1
  split at hk
  ·rename_i tt y hm
   obtain ⟨hu,hk1⟩:=wp_cond_fail hk
   clear hk
   obtain rfl:=Nat.eq_of_beq_eq_true hu
   obtain ⟨hn,hk2⟩:=need_of hk1
   clear hk1
   obtain ⟨x',b1,b2⟩:=hd
   have e':=(hs _ _ hm).symm.trans b1
   simp only [Option.some.injEq,Blk.row.injEq] at e'
   obtain ⟨rfl,rfl⟩:=e'
   cases hb : β m with
   | none=>rw [hb] at b2; have:=b2.1; omega
   | some b =>
    rw [hb] at b2
    obtain ⟨cap,cs,te,hv,c1,c2,c3⟩:=b2
    cases hel : S.T tt with
    | none =>
     exfalso
     obtain ⟨cs',r1,_⟩:=h.blks.blk m _ b1
     rcases r1 with ⟨k',l',r2,_⟩ | ⟨c',l',r2,_⟩ <;> rw [hET,hel] at r2 <;> cases r2
    | some el =>
     obtain ⟨ie,_,_,hz⟩:=el_size hT h1 hel
     refine .same hk2 (index_run ho ((hT.get h1).slice rfl) hv hi hn (hz w)) ⟨tt,y,b,b1,hb,hn.1,hn.2,?_⟩
     rw [add_lit,hET]
     simp [esz,hel]
  exact hk.elim
 ·rename_i len e cts z by_ m off k n h1 h2 h3
  have hd:=evC_den h h2
  have hi:=(evV_eq h h3).1
  split at hk
  ·rename_i sz h4
   obtain ⟨hn,hk⟩:=need_of hk
   obtain ⟨b,t',l,a1,a2,a3⟩:=hd
   have hz : (Go.sizeOf e).run S.P w = .ok sz w:=by
    unfold sizeT at h4
    cases h5 : S.tt e with
    | none=>simp [h5] at h4
    | some ie=>simp only [h5,Option.map_some,Option.some.injEq] at h4; rw [← h4]; exact (hT.get h5).size w
   refine .same hk (v:=.pointer (some ⟨b,off + n.toNat * sz,none⟩)) ?_ ⟨b,t',l,a1,a2,rfl⟩
   have hu:=(hT.get h1).array rfl
   rw [← add_lit]
   simp [execOp,ho,Instr.indexAt,asIntOf,run_underlying hu,a3,hi,hn,hz,Instr.sureAddr]
  exact hk.elim
 exact hk.elim
end
end Sx
