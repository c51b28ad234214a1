/- Part of the proof: a machine of states for walks, and contracts of functions over it. Conditions: those that each theorem names. -/
import Derived.Test.YtcjdbimojffggaaGreatDoorC35
set_option linter.unusedVariables false
set_option linter.unusedSimpArgs false
namespace Sx
open Go Go.Proofs
set_option maxRecDepth 30000
variable {G : Glob}
def seqs : List Code → Code → Code
 | [],c=>c
 | x :: l,c=>.seq x (seqs l c)
def wpL (S : Pr) (nt : Nat) (X : Nat → Env → Own → Prop) (R : Env → Own → Prop) (N : Env → Own → Prop) : List Code → Env → Own → Prop
 | [],e,o=>N e o
 | x :: l,e,o=>wpC S nt x e o (fun e o=>wpL S nt X R N l e o) X R
theorem wpL_sound {S : Pr} {E : Ctx} {G : Glob} (hT : TOk S.P S.tt) (hS : AllSound S G) (hET : E.T = S.T) (hEG : E.G = G) (hlow : ∀ n,n < 50000 → E.own0 n = none) (hhi : ∀ n,100000 ≤ n → E.own0 n = none)
  {N : Env → Own → Prop} {X : Nat → Env → Own → Prop} {R : Env → Own → Prop} {Q : Exit → Act → World → Prop} (hX : ∀ j a w,Ends E (X j) a w → Q (.exit j) a w) (hR : ∀ a w,Ends E R a w → Q .ret a w) {c : Code} (hN : ∀ a w,Ends E N a w → c.wp S.P Q a w) :
  ∀ (l : List Code) {β : Nat → Option Nat} {env : Env} {own : Own} {a : Act} {w : World},Rel E β env own a w → wpL S E.nt X R N l env own → (seqs l c).wp S.P Q a w
 | [],β,env,own,a,w,h,hk=>hN a w ⟨env,own,β,hk,h⟩
 | x :: l,β,env,own,a,w,h,hk=>by
  refine wp_seq (wpC_sound hT hS hET hEG hlow hhi x h hk (Q:=Exit.then ((seqs l c).wp S.P Q) Q) ?_ ?_ ?_)
  ·rintro a w ⟨env',own',β',k1,k2⟩
   exact wpL_sound hT hS hET hEG hlow hhi hX hR hN l k2 k1
  ·exact fun j a w he=>hX j a w he
  exact fun a w he=>hR a w he
def zero55 : List C:=[.v (.int .i64 0),.v (.slice none 0 0),.v (.int .u64 0),.v (.int .u64 0),.v (.int .i64 0),.v (.int .u64 0),.v (.slice none 0 0),.v (.int .u32 0),.v (.string ⟨#[]⟩),
 .v (.slice none 0 0),.v (.int .u64 0),.v (.int .u64 0),.v (.int .u64 0),.v (.bool false),.v (.int .u64 0),.v (.bool false),.v (.int .u64 0),.v (.bool false),.v (.int .u64 0),.v (.slice none 0 0),.v (.slice none 0 0),.v (.slice none 0 0),.v (.int .u32 0),.v (.string ⟨#[]⟩),
 .v (.slice none 0 0),.v (.int .u64 0),.v (.int .u64 0),.v (.int .u64 0),.v (.bool false),.v (.int .u64 0),.v (.bool false),.v (.int .u64 0),.v (.bool false),.v (.int .u64 0),.v (.int .i32 0),.v (.int .u64 0),.v (.bool false),.v (.int .i32 0),.v (.slice none 0 0),.v (.string ⟨#[]⟩),.v (.bool false),.v (.int .i32 0),.v (.slice none 0 0),.v (.string ⟨#[]⟩),.v (.slice none 0 0),.v (.int .u32 0),.v (.int .u64 0),.v (.string ⟨#[]⟩)]
theorem RRow.put {Good : PtD → Prop} {s : ByteArray} {R : List (List D)} (h : RRow Good s R) : RPut s R:=⟨h.eq,h.len,fun r hr=>by
 obtain ⟨p,i,rfl,_⟩:=h.row r hr
 rfl⟩
def rOut (st bu ti nw : Int) (x : PtD × Int × LL) : Out RF:=wp1 (x.2.1 == 1) fun c=>bif c then .ret (.t [.a x.1.cells,.c (I64 x.2.1)],[some (rtB st bu ti nw 60000),none],[.row 101 (.rows (rowsOf x.2.2))])
 else .ret (.t [.a x.1.cells,.c (I64 x.2.1)],RTk st bu ti nw (.rows (rowsOf x.2.2)),[])
def rupT (k : Nat) : List U → List Blk → Out RF
 | [.c (.p 50000 0),.c (.v (.string s)),.a q],[.cells 103 [.v (.int .i64 st),.v (.int .i64 bu),.v (.int .i64 ti),.v (.int .i64 nw),.r 50001 101],.row 101 (.rows R)]=>match asPt q with
  | some p=>.need (POk k p ∧ RRow (GS k) s R) (.all (PtD × Int × LL) (fun x=>upF st bu nw (asL R) s p = x) ⟨_,rfl⟩ (rOut st bu ti nw))
  | none=>.fail
 | _,_=>.fail
noncomputable abbrev spUpL (k : Nat) : List (FuncId × Spec):=[(49,.full (normF (B []) [60,55] (fittedT k))),(50,.full (normF (B []) [60,9] rfindS)),(51,.full (normF (B []) [60,9,55] rputT)),(52,.full (normF (B []) [60,55,55] (mergedT k))),(53,.pure (normG (B []) [55] bareT)),(29,.pure (normG (B []) [55] (numOf startOf))),(31,.pure (normG (B []) [55] (numOf timeOf)))]
theorem spUp_ok (k : Nat) : AllSound (B (spUpL k)) G:=.consF _ fittedT_ok (.consF _ rfind_ok (.consF _ rput_ok (.consF _ mergedT_ok (.cons _ bare_ok (.cons _ rstart_ok (.cons _ rtime_ok noneS))))))
def uE (s : ByteArray) (m : List (Nat × SV)) : List (Nat × SV):=(0,.u (.c (.p 50000 0))) :: (1,.u (.c (St s))) :: (5,.u (.c (.p 5 0))) :: (6,.u (.c (.p 6 0))) :: m
def uO (st bu ti nw : Int) (R : List (List D)) (p : PtD) (m : List (Nat × Blk)) : List (Nat × Blk):=(5,.cells 55 p.cells) :: (6,.cells 55 zero55) :: (50000,rtB st bu ti nw 50001) :: (50001,.row 101 (.rows R)) :: m
theorem rupT_ok {k : Nat} : OkF G 18 (rupT k):=by
 have hS : AllSound (B (spUpL k)) G:=spUp_ok k
 refine sound_by true (S:=B (spUpL k)) (BT _) Tryz.func18 rfl (by decide) fun K us lent hk=>?_
 unfold rupT at hk
 split at hk
 ·split at hk
  ·rename_i s q0 st bu ti nw R _ p hl
   rw [asPt_eq hl]
   obtain ⟨⟨hT,hrow⟩,hk⟩:=hk
   refine ⟨by show 3 ≤ _; decide,fun E β a w Q hET hG hnt hlow hhi hR hQN hQR=>?_⟩
   have hk : ∀ x : PtD × Int × LL,upF st bu nw (asL R) s p = x → (rOut st bu ti nw x).wp K:=hk
   have hlen:=hrow.len
   have hrow2:=hrow.row
   have heq:=hrow.eq
   obtain ⟨T,G',w0,X,L,nt,own0,β0⟩:=E
   simp only at hET hG hnt hlow hhi
   subst hET hG hnt
   refine wpL_sound (S:=B (spUpL k)) (BT _) hS rfl rfl hlow hhi (l:=[_,_]) (X:=fun _ _ _=>False) (N:=fun env own=>(∃ q : PtD,fitV bu p = none ∧ Sub (uE s [(8,.u (.c (.p 8 0))),(9,.u (.c (Bo false)))]) (uO st bu ti nw R p [(8,.cells 55 q.cells)]) env own) ∨ ∃ q,fitV bu p = some q ∧ Sub (uE s [(8,.u (.c (.p 8 0))),(9,.u (.c (Bo true)))]) (uO st bu ti nw R p [(8,.cells 55 q.cells)]) env own) (R:=fun _ _=>False) (fun _ _ _ ⟨_,_,_,hh,_⟩=>hh.elim) (fun _ _ ⟨_,_,_,hh,_⟩=>hh.elim) ?_ hR ?_
   rotate_left
   ·conv=>whnf
    refine ⟨hT,?_⟩;conv=>whnf
    intro o ho
    have ho : fitV bu p = o:=ho
    cases o with
    | none =>
     conv=>whnf
     intro q _;conv=>whnf
     exact .inl ⟨q,ho,⟨rfl,rfl,rfl,rfl,rfl,rfl,trivial⟩,rfl,rfl,rfl,rfl,rfl,trivial⟩
    | some q =>
     conv=>whnf
     exact .inr ⟨q,ho,⟨rfl,rfl,rfl,rfl,rfl,rfl,trivial⟩,rfl,rfl,rfl,rfl,rfl,trivial⟩
   rintro a w ⟨env,own,β,⟨q,ho,hN⟩ | ⟨q,ho,hN⟩,hR⟩
   ·have hR:=hR.sub hN rfl
    have h5 : K (.t [.a zeroP.cells,.c (I64 5)],RTk st bu ti nw (.rows (rowsOf (asL R))),[]):=hk (zeroP,5,asL R) (by rw [upF,ho]) _ rfl
    rw [← heq] at h5
    refine wpC_sound (S:=B (spUpL k)) (BT _) hS rfl rfl hlow hhi _ (N:=fun _ _=>False) (X:=fun _ _ _=>False) hR ?_ (fun _ _ ⟨_,_,_,hh,_⟩=>hh.elim) (fun _ _ _ ⟨_,_,_,hh,_⟩=>hh.elim) hQR;conv=>whnf
    exact h5
   have hR:=hR.sub hN rfl
   have gq:=fit_gs hT ho
   refine wpL_sound (S:=B (spUpL k)) (BT _) hS rfl rfl hlow hhi (l:=[_,_,_]) (X:=fun _ _ _=>False) (N:=fun env own=>∃ i,findI s (asL R) = some i ∧ Sub (uE s [(8,.u (.c (.p 8 0))),(10,.u (.c (I64 (i : Nat))))]) (uO st bu ti nw R p [(8,.cells 55 q.cells)]) env own) (R:=retF (B (spUpL k)) [55,3] [.cell 6 55,.tmp 7] 2 true K) (fun _ _ _ ⟨_,_,_,hh,_⟩=>hh.elim) hQR ?_ hR ?_
   rotate_left
   ·conv=>whnf
    refine ⟨by show R.length ≤ 1000000000; omega,?_⟩;conv=>whnf
    intro o2 ho2
    have ho2 : findI s (asL R) = o2:=ho2
    cases o2 with
    | none =>
     have hf:=(findI_none ho2).1
     have e2 : lookP s (asL R) = none:=by rw [lookP,hf]; rfl
     conv=>whnf
     refine ⟨mixed,[],[],[],by kernel_rfl,?_⟩;conv=>whnf
     refine Ask.i (fun c=>?_) (fun c=>?_)
     ·have c : decide (((R.length : Nat) : Int) ≥ st) = true:=c
      have h4 : K (.t [.a zeroP.cells,.c (I64 4)],RTk st bu ti nw (.rows (rowsOf (asL R))),[]):=hk (zeroP,4,asL R) (by rw [upF,ho]; simp only [e2,asL_len,c]; rfl) _ rfl
      rw [← heq] at h4
      conv=>whnf
      exact h4
     have c : decide (((R.length : Nat) : Int) ≥ st) = false:=c;conv=>whnf
     refine ⟨hrow.put,?_⟩;conv=>whnf
     intro o4 ho4
     obtain rfl:=ho2.symm.trans ho4
     conv=>whnf
     exact hk (q,1,putM s (q.row nw) (asL R)) (by rw [upF,ho]; simp only [e2,asL_len,c]; rfl) _ rfl
    | some i =>
     conv=>whnf
     exact ⟨i,ho2,⟨rfl,rfl,rfl,rfl,rfl,rfl,trivial⟩,rfl,rfl,rfl,rfl,rfl,trivial⟩
   rintro a w ⟨env,own,β,⟨i,hi,hN⟩,hR⟩
   have hR:=hR.sub hN rfl
   obtain ⟨r,h1,h2,h3⟩:=findI_some hi
   obtain ⟨m,j,rfl,hm⟩:=hrow2 _ h2
   obtain ⟨h4,h5⟩:=row_at heq h1
   have hlk : lookP s (asL R) = some (m,j):=by rw [lookP,h2]; rfl
   have hu : upF st bu nw (asL R) s p = bif decide (startOf p < timeOf m) || decide (timeOf p < timeOf m) then ((zeroP,3,asL R) : PtD × Int × LL) else upTail bu nw (asL R) s p q m:=by rw [upF,ho]; simp only [hlk]
   refine wpL_sound (S:=B (spUpL k)) (BT _) hS rfl rfl hlow hhi (l:=[_]) (X:=fun _ _ _=>False) (N:=Sub (uE s [(8,.u (.c (.p 8 0))),(11,.u (.c (.p 11 0)))]) (uO st bu ti nw R p [(8,.cells 55 q.cells),(11,.cells 55 m.cells)])) (R:=fun _ _=>False) (fun _ _ _ ⟨_,_,_,hh,_⟩=>hh.elim) (fun _ _ ⟨_,_,_,hh,_⟩=>hh.elim) ?_ hR ?_
   rotate_left
   ·conv=>whnf
    refine ⟨⟨by show (0 : Int) ≤ (i : Int); omega,by show (i : Int) < ((R.length : Nat) : Int); omega⟩,?_⟩;conv=>whnf
    refine ⟨⟨rfl,rfl,rfl,rfl,rfl,rfl,trivial⟩,rfl,rfl,rfl,rfl,rfl,?_,trivial⟩
    show some (Blk.cells 55 (ptRow (R.getD i []))) = _
    rw [h4]
    rfl
   rintro a w ⟨env,own,β,hN,hR⟩
   have hR:=hR.sub hN rfl
   refine wpL_sound (S:=B (spUpL k)) (BT _) hS rfl rfl hlow hhi (l:=[_]) (X:=fun _ _ _=>False) (N:=fun env own=>upF st bu nw (asL R) s p = upTail bu nw (asL R) s p q m ∧ Sub (uE s [(8,.u (.c (.p 8 0))),(11,.u (.c (.p 11 0)))]) (uO st bu ti nw R p [(8,.cells 55 q.cells),(11,.cells 55 m.cells)]) env own) (R:=retF (B (spUpL k)) [55,3] [.cell 6 55,.tmp 7] 2 true K) (fun _ _ _ ⟨_,_,_,hh,_⟩=>hh.elim) hQR ?_ hR ?_
   rotate_left
   ·conv=>whnf
    refine ⟨mixed,[],[],[],by kernel_rfl,?_⟩;conv=>whnf
    intro x1 hx1;conv=>whnf
    intro x2 hx2
    have hx1 : startOf p = x1:=hx1
    have hx2 : timeOf m = x2:=hx2;conv=>whnf
    refine Ask.i (fun c1=>?_) (fun c1=>?_)
    ·have c1 : decide (x1 < x2) = true:=c1
     have hk : K (.t [.a zeroP.cells,.c (I64 3)],RTk st bu ti nw (.rows (rowsOf (asL R))),[]):=hk (zeroP,3,asL R) (by rw [hu,hx1,hx2,c1]; rfl) _ rfl
     conv=>whnf
     rw [← heq] at hk
     exact hk
    have c1 : decide (x1 < x2) = false:=c1;conv=>whnf
    intro x3 hx3;conv=>whnf
    intro x4 hx4
    have hx3 : timeOf p = x3:=hx3
    have hx4 : timeOf m = x4:=hx4
    obtain rfl:=hx2.symm.trans hx4
    conv=>whnf
    refine Ask.i (fun c2=>?_) (fun c2=>?_)
    ·have c2 : decide (x3 < x2) = true:=c2
     have hk : K (.t [.a zeroP.cells,.c (I64 3)],RTk st bu ti nw (.rows (rowsOf (asL R))),[]):=hk (zeroP,3,asL R) (by rw [hu,hx1,hx2,hx3,c1,c2]; rfl) _ rfl
     conv=>whnf
     rw [← heq] at hk
     exact hk
    have c2 : decide (x3 < x2) = false:=c2;conv=>whnf
    exact ⟨by rw [hu,hx1,hx2,hx3,c1,c2]; rfl,⟨rfl,rfl,rfl,rfl,rfl,rfl,trivial⟩,rfl,rfl,rfl,rfl,rfl,rfl,trivial⟩
   rintro a w ⟨env,own,β,⟨hu2,hN⟩,hR⟩
   have hR:=hR.sub hN rfl
   refine wpL_sound (S:=B (spUpL k)) (BT _) hS rfl rfl hlow hhi (l:=[_]) (X:=fun _ _ _=>False) (N:=fun env own=>(∃ r,mergeV bu m (bare p) = some r ∧ Sub (uE s [(12,.u (.c (.p 12 0))),(13,.u (.c (Bo true)))]) (uO st bu ti nw R p [(12,.cells 55 r.cells)]) env own) ∨ (mergeV bu m (bare p) = none ∧ Sub (uE s [(8,.u (.c (.p 8 0))),(13,.u (.c (Bo false)))]) (uO st bu ti nw R p [(8,.cells 55 q.cells)]) env own)) (R:=fun _ _=>False) (fun _ _ _ ⟨_,_,_,hh,_⟩=>hh.elim) (fun _ _ ⟨_,_,_,hh,_⟩=>hh.elim) ?_ hR ?_
   rotate_left
   ·conv=>whnf
    refine ⟨mixed,[(4,[50000,50001]),(9,[12])],[(1,[]),(2,[]),(3,[]),(4,[50000,50001])],[],by kernel_rfl,?_⟩;conv=>whnf
    intro q2 hq2
    have hq2 : bare p = q2:=hq2;conv=>whnf
    refine ⟨⟨hm,by rw [show q2 = _ from hq2.symm]; exact bare_of hT⟩,?_⟩;conv=>whnf
    intro o3 ho3
    have ho3 : mergeV bu m q2 = o3:=ho3
    rw [← hq2] at ho3
    cases o3 with
    | some r =>
     conv=>whnf
     exact .inl ⟨r,ho3,⟨rfl,rfl,rfl,rfl,rfl,rfl,trivial⟩,rfl,rfl,rfl,rfl,rfl,trivial⟩
    | none =>
     conv=>whnf
     intro w _;conv=>whnf
     exact .inr ⟨ho3,⟨rfl,rfl,rfl,rfl,rfl,rfl,trivial⟩,rfl,rfl,rfl,rfl,rfl,trivial⟩
   rintro a w ⟨env,own,β,⟨r,ho3,hN⟩ | ⟨ho3,hN⟩,hR⟩
   all_goals
    have hR:=hR.sub hN rfl
    rw [upTail,ho3] at hu2
    refine wpC_sound (S:=B (spUpL k)) (BT _) hS rfl rfl hlow hhi _ (N:=fun _ _=>False) (X:=fun _ _ _=>False) hR ?_ (fun _ _ ⟨_,_,_,hh,_⟩=>hh.elim) (fun _ _ _ ⟨_,_,_,hh,_⟩=>hh.elim) hQR;conv=>whnf
    refine ⟨hrow.put,?_⟩;conv=>whnf
    intro o4 ho4
    obtain rfl:=hi.symm.trans ho4
    conv=>whnf
    exact hk _ hu2 _ rfl
  exact hk.elim
 exact hk.elim
end Sx
