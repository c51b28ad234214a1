/- Part of the proof: a machine of states for walks, and contracts of functions over it. Conditions: those that each theorem names. -/
import Derived.Test.YtcjdbimojffggaaGreatDoorC36
set_option linter.unusedVariables false
set_option linter.unusedSimpArgs false
namespace Sx
open Go Go.Proofs
set_option maxRecDepth 30000
variable {G : Glob}
def rdownT (k : Nat) : List U → List Blk → Out RF
 | [.c (.p 50000 0),.c (.v (.string s)),.c (.v (.bool mono)),.a q],[.cells 103 [.v (.int .i64 st),.v (.int .i64 bu),.v (.int .i64 ti),.v (.int .i64 nw),.r 50001 101],.row 101 (.rows R)]=>match asPt q with
  | some p=>.need (POk k p ∧ RRow (GS k) s R) (.all (PtD × Int × LL) (fun x=>downG st nw (asL R) s mono (bare p) = x) ⟨_,rfl⟩ (rOut st bu ti nw))
  | none=>.fail
 | _,_=>.fail
noncomputable abbrev spDownL (k : Nat) : List (FuncId × Spec):=[(53,.pure (normG (B []) [55] bareT)),(50,.full (normF (B []) [60,9] rfindS)),(51,.full (normF (B []) [60,9,55] rputT)),(31,.pure (normG (B []) [55] (numOf timeOf))),(55,.pure (normG (B []) [55,55,4] (lessT k)))]
theorem spDown_ok (k : Nat) : AllSound (B (spDownL k)) G:=.cons _ bare_ok (.consF _ rfind_ok (.consF _ rput_ok (.cons _ rtime_ok (.cons _ rlessT_ok noneS))))
def dE (s : ByteArray) (mono : Bool) (m : List (Nat × SV)) : List (Nat × SV):=(0,.u (.c (.p 50000 0))) :: (1,.u (.c (St s))) :: (2,.u (.c (Bo mono))) :: (7,.u (.c (.p 7 0))) :: (8,.u (.c (.p 8 0))) :: m
def dO (st bu ti nw : Int) (R : List (List D)) (q : PtD) (m : List (Nat × Blk)) : List (Nat × Blk):=(7,.cells 55 q.cells) :: (8,.cells 55 zero55) :: (50000,rtB st bu ti nw 50001) :: (50001,.row 101 (.rows R)) :: m
theorem rdownT_ok {k : Nat} : OkF G 22 (rdownT k):=by
 have hS : AllSound (B (spDownL k)) G:=spDown_ok k
 refine sound_by true (S:=B (spDownL k)) (BT _) Tryz.func22 rfl (by decide) fun K us lent hk=>?_
 unfold rdownT at hk
 split at hk
 ·split at hk
  ·rename_i s mono q0 st bu ti nw R _ p hl
   rw [asPt_eq hl]
   obtain ⟨⟨hT,hrow⟩,hk⟩:=hk
   refine ⟨by show 4 ≤ _; decide,fun E β a w Q hET hG hnt hlow hhi hR hQN hQR=>?_⟩
   have hk : ∀ x : PtD × Int × LL,downG st nw (asL R) s mono (bare p) = x → (rOut st bu ti nw x).wp K:=hk
   have hlen:=hrow.len
   have hrow2:=hrow.row
   have heq:=hrow.eq
   have gB:=bare_of hT
   obtain ⟨T,G',w0,X,L,nt,own0,β0⟩:=E
   simp only at hET hG hnt hlow hhi
   subst hET hG hnt
   refine wpL_sound (S:=B (spDownL k)) (BT _) hS rfl rfl hlow hhi (l:=[_,_]) (X:=fun _ _ _=>False) (N:=fun env own=>∃ q,bare p = q ∧ Sub (dE s mono []) (dO st bu ti nw R q []) env own) (R:=fun _ _=>False) (fun _ _ _ ⟨_,_,_,hh,_⟩=>hh.elim) (fun _ _ ⟨_,_,_,hh,_⟩=>hh.elim) ?_ hR ?_
   rotate_left
   ·conv=>whnf
    intro q hq
    have hq : bare p = q:=hq;conv=>whnf
    exact ⟨q,hq,⟨rfl,rfl,rfl,rfl,rfl,trivial⟩,rfl,rfl,rfl,rfl,trivial⟩
   rintro a w ⟨env,own,β,⟨q,hq,hN⟩,hR⟩
   have hR:=hR.sub hN rfl
   rw [hq] at gB hk
   refine wpL_sound (S:=B (spDownL k)) (BT _) hS rfl rfl hlow hhi (l:=[_,_,_]) (X:=fun _ _ _=>False) (N:=fun env own=>∃ i,findI s (asL R) = some i ∧ (q.kd == 0) = false ∧ Sub (dE s mono [(10,.u (.c (I64 (i : Nat))))]) (dO st bu ti nw R q []) env own) (R:=retF (B (spDownL k)) [55,3] [.cell 8 55,.tmp 9] 2 true K) (fun _ _ _ ⟨_,_,_,hh,_⟩=>hh.elim) hQR ?_ hR ?_
   rotate_left
   ·conv=>whnf
    refine Ask.i (fun c1=>?_) (fun c1=>?_)
    ·have c1 : (q.kd == 0) = true:=c1
     have h5 : K (.t [.a zeroP.cells,.c (I64 5)],RTk st bu ti nw (.rows (rowsOf (asL R))),[]):=hk (zeroP,5,asL R) (by rw [downG,c1]; rfl) _ rfl
     rw [← heq] at h5
     conv=>whnf
     exact h5
    have c1 : (q.kd == 0) = false:=c1;conv=>whnf
    refine ⟨by show R.length ≤ 1000000000; omega,?_⟩;conv=>whnf
    intro o2 ho2
    have ho2 : findI s (asL R) = o2:=ho2
    cases o2 with
    | none =>
     have hf:=(findI_none ho2).1
     have e2 : lookP s (asL R) = none:=by rw [lookP,hf]; rfl
     conv=>whnf
     refine ⟨mixed,[],[],[],by kernel_rfl,?_⟩;conv=>whnf
     refine Ask.i (fun c=>?_) (fun c=>?_)
     ·have c : decide (((R.length : Nat) : Int) ≥ st) = true:=c
      have h4 : K (.t [.a zeroP.cells,.c (I64 4)],RTk st bu ti nw (.rows (rowsOf (asL R))),[]):=hk (zeroP,4,asL R) (by rw [downG,c1]; simp only [e2,asL_len,c]; rfl) _ rfl
      rw [← heq] at h4
      conv=>whnf
      exact h4
     have c : decide (((R.length : Nat) : Int) ≥ st) = false:=c;conv=>whnf
     refine ⟨hrow.put,?_⟩;conv=>whnf
     intro o4 ho4
     obtain rfl:=ho2.symm.trans ho4
     conv=>whnf
     exact hk (q,1,putM s (q.row nw) (asL R)) (by rw [downG,c1]; simp only [e2,asL_len,c]; rfl) _ rfl
    | some i =>
     conv=>whnf
     exact ⟨i,ho2,c1,⟨rfl,rfl,rfl,rfl,rfl,rfl,trivial⟩,rfl,rfl,rfl,rfl,trivial⟩
   rintro a w ⟨env,own,β,⟨i,hi,c1,hN⟩,hR⟩
   have hR:=hR.sub hN rfl
   have gq:=gB.gs c1
   obtain ⟨r,h1,h2,h3⟩:=findI_some hi
   obtain ⟨m,j,rfl,hm⟩:=hrow2 _ h2
   obtain ⟨h4,h5⟩:=row_at heq h1
   have hlk : lookP s (asL R) = some (m,j):=by rw [lookP,h2]; rfl
   have hu : downG st nw (asL R) s mono q = bif decide (timeOf q ≤ timeOf m) then ((zeroP,3,asL R) : PtD × Int × LL) else downTail nw (asL R) s mono q m:=by rw [downG,c1]; simp only [hlk]; rfl
   refine wpL_sound (S:=B (spDownL k)) (BT _) hS rfl rfl hlow hhi (l:=[_]) (X:=fun _ _ _=>False) (N:=Sub (dE s mono [(11,.u (.c (.p 11 0)))]) (dO st bu ti nw R q [(11,.cells 55 m.cells)])) (R:=fun _ _=>False) (fun _ _ _ ⟨_,_,_,hh,_⟩=>hh.elim) (fun _ _ ⟨_,_,_,hh,_⟩=>hh.elim) ?_ hR ?_
   rotate_left
   ·conv=>whnf
    refine ⟨⟨by show (0 : Int) ≤ (i : Int); omega,by show (i : Int) < ((R.length : Nat) : Int); omega⟩,?_⟩;conv=>whnf
    refine ⟨⟨rfl,rfl,rfl,rfl,rfl,rfl,trivial⟩,rfl,rfl,rfl,rfl,?_,trivial⟩
    show some (Blk.cells 55 (ptRow (R.getD i []))) = _
    rw [h4]
    rfl
   rintro a w ⟨env,own,β,hN,hR⟩
   have hR:=hR.sub hN rfl
   refine wpL_sound (S:=B (spDownL k)) (BT _) hS rfl rfl hlow hhi (l:=[_]) (X:=fun _ _ _=>False) (N:=fun env own=>downG st nw (asL R) s mono q = downTail nw (asL R) s mono q m ∧ Sub (dE s mono [(11,.u (.c (.p 11 0)))]) (dO st bu ti nw R q [(11,.cells 55 m.cells)]) env own) (R:=retF (B (spDownL k)) [55,3] [.cell 8 55,.tmp 9] 2 true K) (fun _ _ _ ⟨_,_,_,hh,_⟩=>hh.elim) hQR ?_ hR ?_
   rotate_left
   ·conv=>whnf
    refine ⟨mixed,[],[],[],by kernel_rfl,?_⟩;conv=>whnf
    intro x1 hx1;conv=>whnf
    intro x2 hx2
    have hx1 : timeOf q = x1:=hx1
    have hx2 : timeOf m = x2:=hx2;conv=>whnf
    refine Ask.i (fun c2=>?_) (fun c2=>?_)
    ·have c2 : decide (x1 ≤ x2) = true:=c2
     have hk : K (.t [.a zeroP.cells,.c (I64 3)],RTk st bu ti nw (.rows (rowsOf (asL R))),[]):=hk (zeroP,3,asL R) (by rw [hu,hx1,hx2,c2]; rfl) _ rfl
     conv=>whnf
     rw [← heq] at hk
     exact hk
    have c2 : decide (x1 ≤ x2) = false:=c2;conv=>whnf
    exact ⟨by rw [hu,hx1,hx2,c2]; rfl,⟨rfl,rfl,rfl,rfl,rfl,rfl,trivial⟩,rfl,rfl,rfl,rfl,rfl,trivial⟩
   rintro a w ⟨env,own,β,⟨hu2,hN⟩,hR⟩
   have hR:=hR.sub hN rfl
   refine wpL_sound (S:=B (spDownL k)) (BT _) hS rfl rfl hlow hhi (l:=[_]) (X:=fun _ _ _=>False) (N:=fun env own=>(∃ r,takeV mono q m = some r ∧ Sub (dE s mono [(12,.u (.c (.p 12 0))),(13,.u (.c (Bo true)))]) (dO st bu ti nw R q [(12,.cells 55 r.cells)]) env own) ∨ (takeV mono q m = none ∧ Sub (dE s mono [(13,.u (.c (Bo false)))]) (dO st bu ti nw R q []) env own)) (R:=fun _ _=>False) (fun _ _ _ ⟨_,_,_,hh,_⟩=>hh.elim) (fun _ _ ⟨_,_,_,hh,_⟩=>hh.elim) ?_ hR ?_
   rotate_left
   ·conv=>whnf
    refine ⟨⟨gq,hm⟩,?_⟩;conv=>whnf
    intro o3 ho3
    have ho3 : takeV mono q m = o3:=ho3
    cases o3 with
    | some r =>
     conv=>whnf
     exact .inl ⟨r,ho3,⟨rfl,rfl,rfl,rfl,rfl,rfl,rfl,trivial⟩,rfl,rfl,rfl,rfl,rfl,trivial⟩
    | none =>
     conv=>whnf
     intro w _;conv=>whnf
     exact .inr ⟨ho3,⟨rfl,rfl,rfl,rfl,rfl,rfl,trivial⟩,rfl,rfl,rfl,rfl,trivial⟩
   rintro a w ⟨env,own,β,⟨r,ho3,hN⟩ | ⟨ho3,hN⟩,hR⟩
   all_goals
    have hR:=hR.sub hN rfl
    rw [downTail,ho3] at hu2
    refine wpC_sound (S:=B (spDownL k)) (BT _) hS rfl rfl hlow hhi _ (N:=fun _ _=>False) (X:=fun _ _ _=>False) hR ?_ (fun _ _ ⟨_,_,_,hh,_⟩=>hh.elim) (fun _ _ _ ⟨_,_,_,hh,_⟩=>hh.elim) hQR;conv=>whnf
    refine ⟨hrow.put,?_⟩;conv=>whnf
    intro o4 ho4
    obtain rfl:=hi.symm.trans ho4
    conv=>whnf
    exact hk _ hu2 _ rfl
  exact hk.elim
 exact hk.elim
end Sx
