/- Part of the proof: a machine of states for walks, and contracts of functions over it. Conditions: those that each theorem names. -/
import Derived.Test.YtcjdbimojffggaaGreatDoorC35
set_option linter.unusedVariables false
set_option linter.unusedSimpArgs false
namespace Sx
open Go Go.Proofs
set_option maxRecDepth 30000
variable {G : Glob}
def dD : Ct → D → D
 | .int _,x=>.int x.toInt
 | .bool,x=>.bool x.toBool
 | .str,x=>.str x.toStr
 | _,x=>x
def rowN (r : List D) : List D:=(List.range 50).map fun j=>dD (cts101.getD j .oth) (cellD r j)
theorem rowN_eq (s : ByteArray) (p : PtD) (i : Int) : rowN (.str s :: p.row i) = .str s :: p.row i:=rfl
def keepF (nw ti : Int) (l : LL) : LL:=l.filter fun kr=>!oldB nw ti kr.2
structure RAll (R : List (List D)) : Prop where
 eq : R = rowsOf (asL R)
 len : R.length ≤ 1000000
 rows : ∀ kr ∈ asL R,∃ p i,kr.2 = PtD.row p i
def rtickS : List U → List Blk → Out RF
 | [.c (.p 50000 0)],[.cells 103 [.v (.int .i64 st),.v (.int .i64 bu),.v (.int .i64 ti),.v (.int .i64 nw),.r 50001 101],.row 101 (.rows R)] =>
  .need (RAll R) (.all LL (fun l'=>keepF (w64 (nw + 1)) ti (asL R) = l') ⟨_,rfl⟩ fun l' =>
   .ret (.u (.c (I64 (w64 (((R.length : Nat) : Int) - (((rowsOf l').length : Nat) : Int))))),[some (rtB st bu ti (w64 (nw + 1)) 60000),some (.row 101 (.rows R))],[.row 101 (.rows (rowsOf l'))]))
 | _,_=>.fail
theorem keep_next {nw ti : Int} {l : LL} {i : Nat} {kr : ByteArray × List D} (h : l[i]? = some kr) : keepF nw ti (l.take (i + 1)) = keepF nw ti (l.take i) ++ (bif oldB nw ti kr.2 then [] else [kr]):=by
 unfold keepF
 rw [List.take_add_one,h,List.filter_append]
 congr 1
 cases hb : oldB nw ti kr.2 <;> simp [hb]
set_option maxHeartbeats 1000000 in
theorem rtick_ok : OkF G 23 rtickS:=by
 refine okF true noneS Tryz.func23 rfl (by decide) fun K us lent hk=>?_
 unfold rtickS at hk
 split at hk
 ·rename_i st bu ti nw R
  refine ⟨by show 1 ≤ _; decide,?_⟩
  obtain ⟨hA,hk⟩:=hk
  have hk:=hk _ rfl
  have hlen:=hA.len
  generalize hn1 : w64 (nw + 1) = n1 at hk
  conv=>whnf
  refine ⟨[(3,49,101)],_,_,rfl,Nat,(fun i=>([(0,.u (.c (.p 50000 0))),(3,.u (.c (.r 49 101))),(4,.u (.c (I64 (i : Nat))))],[(49,.row 101 (.rows (rowsOf (keepF n1 ti ((asL R).take i))))),(50000,rtB st bu ti n1 50001),(50001,.row 101 (.rows R))])),
   (fun i=>i ≤ R.length),(fun i=>R.length - i),fun x _=>rfl,⟨0,Nat.zero_le _,⟨rfl,rfl,rfl,trivial⟩,rfl,congrArg (fun z=>some (rtB st bu ti z 50001)) hn1,rfl,trivial⟩,?_⟩
  rintro i p1;conv=>whnf
  refine Ask.i (fun c1=>?_) (fun c1=>?_)
  ·have c1 : (i : Int) < ((R.length : Nat) : Int):=of_decide_eq_true c1
   have hi : i < R.length:=by omega
   have hb : (0 : Int) ≤ (i : Int) ∧ (i : Int) < ((R.length : Nat) : Int):=⟨by omega,c1⟩
   have ha:=asL_at hi
   obtain ⟨p,j,hp⟩:=hA.rows _ (List.mem_of_getElem? ha)
   have hp : (R.getD i []).drop 1 = p.row j:=hp
   rw [hp] at ha
   obtain ⟨hr,_⟩:=row_at hA.eq ha
   have hnx:=keep_next (nw:=n1) (ti:=ti) ha
   have hsz:=(List.filter_sublist (p:=fun kr : ByteArray × List D=>!oldB n1 ti kr.2) (l:=(asL R).take i)).length_le
   have hsz : (rowsOf (keepF n1 ti ((asL R).take i))).length ≤ R.length:=by
    rw [rowsOf_len]
    refine Nat.le_trans hsz ?_
    rw [List.length_take,asL_len]
    omega
   conv=>whnf
   refine ⟨mixed,[],[],[],by kernel_rfl,?_⟩;conv=>whnf
   refine ⟨hb,?_⟩;conv=>whnf
   refine Ask.i (fun c2=>?_) (fun c2=>?_)
   ·have c2 : decide (w64 (n1 - (cellD (R.getD i []) 49).toInt) < ti) = true:=c2
    have ho : oldB n1 ti (p.row j) = false:=by
     rw [hr] at c2
     have c2 : w64 (n1 - j) < ti:=of_decide_eq_true c2
     show decide (w64 (n1 - j) ≥ ti) = false
     exact decide_eq_false (by omega)
    conv=>whnf
    refine ⟨hb,?_⟩;conv=>whnf
    refine ⟨by show (rowsOf (keepF n1 ti ((asL R).take i))).length + 1 ≤ 137438953472; omega,?_⟩;conv=>whnf
    refine ⟨i + 1,hi,by show R.length - (i + 1) < R.length - i; omega,⟨rfl,rfl,congrArg (fun z : Int=>some (SV.u (.c (I64 z)))) (w64_eq (n:=(i : Int) + 1) (by omega)),trivial⟩,?_,rfl,rfl,trivial⟩
    show some (Blk.row 101 (.rows (rowsOf (keepF n1 ti ((asL R).take i)) ++ [rowN (R.getD i [])]))) = some (.row 101 (.rows (rowsOf (keepF n1 ti ((asL R).take (i + 1))))))
    rw [hnx,ho,hr,rowN_eq,cond_false,rowsOf_snoc]
    rfl
   have c2 : decide (w64 (n1 - (cellD (R.getD i []) 49).toInt) < ti) = false:=c2
   have ho : oldB n1 ti (p.row j) = true:=by
    rw [hr] at c2
    have c2 : ¬ w64 (n1 - j) < ti:=of_decide_eq_false c2
    show decide (w64 (n1 - j) ≥ ti) = true
    exact decide_eq_true (by omega)
   conv=>whnf
   refine ⟨i + 1,hi,by show R.length - (i + 1) < R.length - i; omega,⟨rfl,rfl,congrArg (fun z : Int=>some (SV.u (.c (I64 z)))) (w64_eq (n:=(i : Int) + 1) (by omega)),trivial⟩,?_,rfl,rfl,trivial⟩
   show some (Blk.row 101 (.rows (rowsOf (keepF n1 ti ((asL R).take i))))) = some (.row 101 (.rows (rowsOf (keepF n1 ti ((asL R).take (i + 1))))))
   rw [hnx,ho,cond_true,List.append_nil]
  have c1 : ¬ (i : Int) < ((R.length : Nat) : Int):=of_decide_eq_false c1
  have hi : i = R.length:=by omega
  rw [← show keepF n1 ti ((asL R).take i) = keepF n1 ti (asL R) by rw [List.take_of_length_le (by rw [asL_len]; omega)]] at hk
  conv=>whnf
  exact hk
 exact hk.elim
end Sx
