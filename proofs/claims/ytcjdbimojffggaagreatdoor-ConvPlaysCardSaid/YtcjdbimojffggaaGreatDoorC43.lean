/- Part of the proof: a machine of states for walks, and contracts of functions over it. Conditions: those that each theorem names. -/
import Derived.Test.YtcjdbimojffggaaGreatDoorC42
set_option linter.unusedVariables false
set_option linter.unusedSimpArgs false
namespace Sx
open Go Go.Proofs
set_option maxRecDepth 30000
def cutC : Code → List Nat → Code
 | c,[]=>c
 | .seq a b,d :: p=>match d with | 0=>cutC a p | _=>cutC b p
 | .block _ c,_ :: p=>cutC c p
 | .loop c,_ :: p=>cutC c p
 | c,_ :: _=>c
noncomputable def body4 : Code:=match Tryz.f4.body with | some c=>c | none=>.skip
noncomputable abbrev EP (X L : Nat → Prop) (w0 : World) (own0 : Own) (β0 : Nat → Option Nat) : Ctx:={ T:=(B []).T,G:=G1,w0:=w0,X:=X,L:=L,nt:=Tryz.f4.ntmps,own0:=own0,β0:=β0 }
noncomputable abbrev spA (k : Nat) : List (FuncId × Spec):=[(11,.full (normF (B []) [24,9,46] (upT (k + 1)))),(13,.pure (normG (B []) [46] plainT)),(18,.full (normF (B []) [60,9,55] (rupT (k + 1)))),(12,.pure (normG (B []) [55,55] (sameT (k + 1)))),(19,.pure (normG (B []) [3] nameT)),(20,.pure (normG (B []) [3] nameT)),(21,.full (normF (B []) [24,9,4,46] (downT (k + 1)))),(22,.full (normF (B []) [60,9,4,55] (rdownT (k + 1)))),(14,.full (normF (B []) [24] tickS)),(23,.full (normF (B []) [60] rtickS))]
theorem spA_ok (k : Nat) : AllSound (B (spA k)) G1:=.consF _ upT_ok (.cons _ plain_ok (.consF _ rupT_ok (.cons _ same_ok (.cons _ name_ok (.cons _ verdict_ok (.consF _ downT_ok (.consF _ rdownT_ok (.consF _ tick_ok (.consF _ rtick_ok noneS)))))))))
def penv (st bu ti : Int) (R : List (List D)) (i : Nat) : List (Nat × SV):=[(0,.u (.c (I64 st))),(1,.u (.c (I64 bu))),(2,.u (.c (I64 ti))),(3,.u (.c (.d 22 (.rows R)))),(9,.u (.c (.p 100038 0))),(11,.u (.c (.p 100045 0))),(13,.u (.c (I64 (i : Nat))))]
def ownX (st bu ti nw : Int) (l : LL) : List (Nat × Blk):=[(100038,.cells 81 [I64 st,I64 bu,I64 ti,I64 nw,.m 200038 79]),(200038,.map 79 l)]
def ownY (st bu ti nw : Int) (l : LL) (nm : Nat) : List (Nat × Blk):=[(100045,rtB st bu ti nw nm),(nm,.row 101 (.rows (rowsOf l)))]
def opB (kd : Int) (s : ByteArray) (mono : Bool) (p : PtD) : Blk:=.cells 48 (I64 kd :: St s :: Bo mono :: p.cells)
def pOwn (st bu ti nw : Int) (l : LL) (kd : Int) (s : ByteArray) (mono : Bool) (p : PtD) (nm : Nat) : List (Nat × Blk):=(14,opB kd s mono p) :: (ownX st bu ti nw l ++ ownY st bu ti nw l nm)
def pEnv (st bu ti : Int) (R : List (List D)) (i : Nat) : List (Nat × SV):=penv st bu ti R i ++ [(14,.u (.c (.p 14 0))),(15,.u (.c (Bo true)))]
variable {k : Nat} {X L : Nat → Prop} {w0 : World} {own0 : Own} {β0 : Nat → Option Nat} (hlow : ∀ n,n < 50000 → own0 n = none) (hhi : ∀ n,100000 ≤ n → own0 n = none)
variable {st bu ti nw : Int} {R : List (List D)} {i : Nat} {l : LL} {kd : Int} {s : ByteArray} {mono : Bool} {p : PtD}
include hhi in
theorem back_name {β : Nat → Option Nat} {a : Act} {w : World} {nm : Nat} {nw' : Int} {l' : LL} (hn : nm = 200045 ∨ nm = 100093 ∨ nm = 100134 ∨ nm = 100151) (h : Rel (EP X L w0 own0 β0) β (lookT (pEnv st bu ti R i)) (lookT (pOwn st bu ti nw' l' kd s mono p nm)) a w) :
  ∃ β',Rel (EP X L w0 own0 β0) β' (lookT (pEnv st bu ti R i)) (lookT (pOwn st bu ti nw' l' kd s mono p 200045)) a w:=by
 rcases hn with rfl | rfl | rfl | rfl
 ·exact ⟨β,h⟩
 ·obtain ⟨β',h⟩:=h.rename (m:=100093) (c:=200045) rfl (hhi _ (by decide))
  exact ⟨β',h.sub (l1:=pEnv st bu ti R i) (l2:=pOwn st bu ti nw' l' kd s mono p 200045) ⟨⟨rfl,rfl,rfl,rfl,rfl,rfl,rfl,rfl,rfl,trivial⟩,rfl,rfl,rfl,rfl,rfl,trivial⟩ rfl⟩
 ·obtain ⟨β',h⟩:=h.rename (m:=100134) (c:=200045) rfl (hhi _ (by decide))
  exact ⟨β',h.sub (l1:=pEnv st bu ti R i) (l2:=pOwn st bu ti nw' l' kd s mono p 200045) ⟨⟨rfl,rfl,rfl,rfl,rfl,rfl,rfl,rfl,rfl,trivial⟩,rfl,rfl,rfl,rfl,rfl,trivial⟩ rfl⟩
 obtain ⟨β',h⟩:=h.rename (m:=100151) (c:=200045) rfl (hhi _ (by decide))
 exact ⟨β',h.sub (l1:=pEnv st bu ti R i) (l2:=pOwn st bu ti nw' l' kd s mono p 200045) ⟨⟨rfl,rfl,rfl,rfl,rfl,rfl,rfl,rfl,rfl,trivial⟩,rfl,rfl,rfl,rfl,rfl,trivial⟩ rfl⟩
include hlow hhi in
theorem play_tick {β : Nat → Option Nat} {a : Act} {w : World} (h1 : st ≤ 1000) (hT : TabOk k st l) (k0 : kd ≠ 0) (k1 : kd ≠ 1) (h : Rel (EP X L w0 own0 β0) β (lookT (pEnv st bu ti R i)) (lookT (pOwn st bu ti nw l kd s mono p 200045)) a w) {Q : Exit → Act → World → Prop}
  (hQ : ∀ β a w nw' l',TabOk k st l' → Rel (EP X L w0 own0 β0) β (lookT (pEnv st bu ti R i)) (lookT (pOwn st bu ti nw' l' kd s mono p 200045)) a w → Q .normal a w) : (cutC body4 [1,1,1,1,1,1,0,1,0,0,1,0,0,1,1,0]).wp PR Q a w:=by
 refine wpC_sound (S:=B (spA k)) (BT _) (spA_ok k) rfl rfl hlow hhi _ (N:=fun env own=>∃ nw' l' nm,TabOk k st l' ∧ (nm = 200045 ∨ nm = 100093 ∨ nm = 100134 ∨ nm = 100151) ∧ Sub (pEnv st bu ti R i) (pOwn st bu ti nw' l' kd s mono p nm) env own) (X:=fun _ _ _=>False) (R:=fun _ _=>False) h ?_ ?_ (fun _ _ _ ⟨_,_,_,hh,_⟩=>hh.elim) (fun _ _ ⟨_,_,_,hh,_⟩=>hh.elim)
 ·conv=>whnf
  refine Ask.i (fun c=>absurd (eq_of_beq c) k0) (fun _=>?_);conv=>whnf
  refine Ask.i (fun c=>absurd (eq_of_beq c) k1) (fun _=>?_);conv=>whnf
  refine Ask.i (fun c2=>?_) (fun c2=>?_)
  ·conv=>whnf
   refine ⟨hT.keys,?_⟩;conv=>whnf
   intro l2 hl2
   have hl2 : keepF (w64 (nw + 1)) ti l = l2:=hl2;conv=>whnf
   refine ⟨hT.rall h1,?_⟩;conv=>whnf
   intro l3 hl3
   have hl3 : keepF (w64 (nw + 1)) ti (asL (rowsOf l)) = l3:=hl3
   rw [asL_rowsOf,hl2] at hl3
   subst hl3
   have hT2 : TabOk k st l2:=by rw [← hl2]; exact hT.filter _
   conv=>whnf
   refine ⟨w64 (nw + 1),l2,100151,hT2,.inr (.inr (.inr rfl)),⟨rfl,rfl,rfl,rfl,rfl,rfl,rfl,rfl,congrArg (fun z : Bool=>some (SV.u (.c (Bo z)))) ?_,trivial⟩,rfl,rfl,rfl,rfl,rfl,trivial⟩
   rw [rowsOf_len,rowsOf_len]
   exact beq_self_eq_true _
  conv=>whnf
  exact ⟨nw,l,200045,hT,.inl rfl,⟨rfl,rfl,rfl,rfl,rfl,rfl,rfl,rfl,rfl,trivial⟩,rfl,rfl,rfl,rfl,rfl,trivial⟩
 rintro a w ⟨env,own,β,⟨nw',l',nm,hT',hn,hN⟩,hR⟩
 have hR:=hR.sub hN (by rcases hn with rfl | rfl | rfl | rfl <;> rfl)
 obtain ⟨β',hR⟩:=back_name hhi hn hR
 exact hQ β' a w nw' l' hT' hR
end Sx
namespace Sx
open Go Go.Proofs
set_option maxRecDepth 30000
variable {k : Nat} {X L : Nat → Prop} {w0 : World} {own0 : Own} {β0 : Nat → Option Nat} (hlow : ∀ n,n < 50000 → own0 n = none) (hhi : ∀ n,100000 ≤ n → own0 n = none)
variable {st bu ti nw : Int} {R : List (List D)} {i : Nat} {l : LL} {kd : Int} {s : ByteArray} {mono : Bool} {p : PtD}
def upEnv (st bu ti : Int) (R : List (List D)) (i : Nat) (v : Int) : List (Nat × SV):=pEnv st bu ti R i ++ [(16,.u (.c (.p 16 0))),(17,.u (.c (I64 v)))]
def upOwn (st bu ti nw : Int) (l l' : LL) (kd : Int) (s : ByteArray) (mono : Bool) (p q : PtD) (nm : Nat) : List (Nat × Blk):=(14,opB kd s mono p) :: (16,.cells 46 q.cells) :: (ownX st bu ti nw l' ++ ownY st bu ti nw l nm)
theorem bo_self {α : Type} [BEq α] [ReflBEq α] (x : α) : (some (SV.u (.c (Bo (x == x)))) : Option SV) = some (.u (.c (Bo true))):=congrArg (fun z : Bool=>some (SV.u (.c (Bo z)))) (beq_self_eq_true x)
include hlow hhi in
theorem play_up {β : Nat → Option Nat} {a : Act} {w : World} (h1 : st ≤ 1000) (hT : TabOk k st l) (hp : POk (k + 1) p) (hs : s.size ≤ 1000) (h : Rel (EP X L w0 own0 β0) β (lookT (pEnv st bu ti R i)) (lookT (pOwn st bu ti nw l 0 s mono p 200045)) a w) {Q : Exit → Act → World → Prop}
  (hQ : ∀ β a w nw' l',TabOk k st l' → Rel (EP X L w0 own0 β0) β (lookT (pEnv st bu ti R i)) (lookT (pOwn st bu ti nw' l' 0 s mono p 200045)) a w → Q .normal a w) : (cutC body4 [1,1,1,1,1,1,0,1,0,0,1,0,0,1,1,0]).wp PR (only Q) a w:=by
 refine wp_seq (wpC_sound (S:=B (spA k)) (BT _) (spA_ok k) rfl rfl hlow hhi _ (N:=Sub (pEnv st bu ti R i ++ [(74,.u (.c (I64 0)))]) (pOwn st bu ti nw l 0 s mono p 200045)) (X:=fun _ _ _=>False) (R:=fun _ _=>False) h ?_ ?_ (fun _ _ _ ⟨_,_,_,hh,_⟩=>hh.elim) (fun _ _ ⟨_,_,_,hh,_⟩=>hh.elim))
 ·conv=>whnf
  exact ⟨⟨rfl,rfl,rfl,rfl,rfl,rfl,rfl,rfl,rfl,rfl,trivial⟩,rfl,rfl,rfl,rfl,rfl,trivial⟩
 rintro a w ⟨env,own,β,hN,hR⟩
 have hR:=hR.sub hN rfl
 refine wp_block (wp_seq (wpC_sound (S:=B (spA k)) (BT _) (spA_ok k) rfl rfl hlow hhi _ (N:=Sub (pEnv st bu ti R i ++ [(75,.u (.c (Bo true)))]) (pOwn st bu ti nw l 0 s mono p 200045)) (X:=fun _ _ _=>False) (R:=fun _ _=>False) hR ?_ ?_ (fun _ _ _ ⟨_,_,_,hh,_⟩=>hh.elim) (fun _ _ ⟨_,_,_,hh,_⟩=>hh.elim)))
 ·conv=>whnf
  exact ⟨⟨rfl,rfl,rfl,rfl,rfl,rfl,rfl,rfl,rfl,rfl,trivial⟩,rfl,rfl,rfl,rfl,rfl,trivial⟩
 rintro a w ⟨env,own,β,hN,hR⟩
 have hR:=hR.sub hN rfl
 refine wp_cond_split (evV_eq hR (x:=.tmp 75) rfl).1 (fun _=>?_) (fun h=>by cases h)
 refine wp_seq (wpC_sound (S:=B (spA k)) (BT _) (spA_ok k) rfl rfl hlow hhi _ (N:=fun env own=>∃ q v l',upF st bu nw l s p = (q,v,l') ∧ Sub (upEnv st bu ti R i v) (upOwn st bu ti nw l l' 0 s mono p q 200045) env own) (X:=fun _ _ _=>False) (R:=fun _ _=>False) hR ?_ ?_ (fun _ _ _ ⟨_,_,_,hh,_⟩=>hh.elim) (fun _ _ ⟨_,_,_,hh,_⟩=>hh.elim))
 ·conv=>whnf
  refine ⟨⟨hp,hT.row⟩,?_⟩;conv=>whnf
  rintro ⟨q,v,l'⟩ hx;conv=>whnf
  exact ⟨q,v,l',hx,⟨rfl,rfl,rfl,rfl,rfl,rfl,rfl,rfl,rfl,rfl,rfl,trivial⟩,rfl,rfl,rfl,rfl,rfl,rfl,trivial⟩
 rintro a w ⟨env,own,β,⟨q,v,l',hx,hN⟩,hR⟩
 have hR:=hR.sub hN rfl
 obtain ⟨hT',gq⟩:=upF_ok hT hp hs hx
 have hP : ∀ (y : PtD × Int × LL),upF st bu nw (asL (rowsOf l)) s p = y → y = (q,v,l'):=fun y hy=>by
  rw [asL_rowsOf,hx] at hy
  exact hy.symm
 refine wp_seq (draw_mid (S:=B (spA k)) (BT _) (spA_ok k) rfl rfl hlow hhi hR mixed (W:=[(11,[18])]) (el:=[]) 6 10 (by kernel_rfl) (by kernel_rfl) (by kernel_rfl) (N:=fun env own=>∃ nm,(nm = 200045 ∨ nm = 100093 ∨ nm = 100134 ∨ nm = 100151) ∧ Sub (upEnv st bu ti R i v ++ [(18,.u (.c (.p 18 0))),(19,.u (.c (I64 v)))]) ((18,.cells 55 q.cells) :: upOwn st bu ti nw l' l' 0 s mono p q nm) env own) ?_ ?_)
 ·conv=>whnf
  refine ⟨?_,?_⟩
  ·conv=>whnf
   refine ⟨⟨hp,hT.rrow h1⟩,?_⟩;conv=>whnf
   intro y hy
   obtain rfl:=hP y hy
   conv=>whnf
   intro c hc
   cases c with
   | true =>
    conv=>whnf
    exact ⟨100093,.inr (.inl rfl),⟨rfl,rfl,rfl,rfl,rfl,rfl,rfl,rfl,rfl,rfl,rfl,rfl,rfl,trivial⟩,rfl,rfl,rfl,rfl,rfl,rfl,rfl,trivial⟩
   | false =>
    conv=>whnf
    exact ⟨200045,.inl rfl,⟨rfl,rfl,rfl,rfl,rfl,rfl,rfl,rfl,rfl,rfl,rfl,rfl,rfl,trivial⟩,rfl,rfl,rfl,rfl,rfl,rfl,rfl,trivial⟩
  conv=>whnf
  refine ⟨⟨hp,hT.rrow h1⟩,?_⟩;conv=>whnf
  intro y hy
  obtain rfl:=hP y hy
  conv=>whnf
  intro c hc
  cases c with
  | true =>
   conv=>whnf
   exact ⟨100093,.inr (.inl rfl),⟨rfl,rfl,rfl,rfl,rfl,rfl,rfl,rfl,rfl,rfl,rfl,rfl,rfl,trivial⟩,rfl,rfl,rfl,rfl,rfl,rfl,rfl,trivial⟩
  | false =>
   conv=>whnf
   exact ⟨200045,.inl rfl,⟨rfl,rfl,rfl,rfl,rfl,rfl,rfl,rfl,rfl,rfl,rfl,rfl,rfl,trivial⟩,rfl,rfl,rfl,rfl,rfl,rfl,rfl,trivial⟩
 rintro env own β a w ⟨nm,hn,hN⟩ hR
 have hR:=hR.sub hN (by rcases hn with rfl | rfl | rfl | rfl <;> rfl)
 -- words and blocks that are told again
 refine wpC_sound (S:=B (spA k)) (BT _) (spA_ok k) rfl rfl hlow hhi _ (N:=Sub (pEnv st bu ti R i) (pOwn st bu ti nw l' 0 s mono p nm)) (X:=fun _ _ _=>False) (R:=fun _ _=>False) hR ?_ ?_ (fun _ _ _ ⟨_,_,_,hh,_⟩=>hh.elim) (fun _ _ ⟨_,_,_,hh,_⟩=>hh.elim)
 ·rcases hn with rfl | rfl | rfl | rfl
  all_goals
   conv=>whnf
   refine ⟨mixed,[],[],[],by kernel_rfl,?_⟩;conv=>whnf
   refine Ask.i (fun _=>?_) (fun c=>nf v c);conv=>whnf
   refine ⟨⟨rfl,gq⟩,?_⟩;conv=>whnf
   intro b hb;conv=>whnf
   intro b' hb'
   obtain rfl:=hb.symm.trans hb'
   conv=>whnf
   exact ⟨⟨rfl,rfl,rfl,rfl,rfl,rfl,rfl,rfl,bo_self _,trivial⟩,rfl,rfl,rfl,rfl,rfl,trivial⟩
 rintro a w ⟨env,own,β,hN,hR⟩
 have hR:=hR.sub hN (by rcases hn with rfl | rfl | rfl | rfl <;> rfl)
 obtain ⟨β',hR⟩:=back_name hhi hn hR
 exact hQ β' a w nw l' hT' hR
end Sx
namespace Sx
open Go Go.Proofs
set_option maxRecDepth 30000
variable {k : Nat} {X L : Nat → Prop} {w0 : World} {own0 : Own} {β0 : Nat → Option Nat} (hlow : ∀ n,n < 50000 → own0 n = none) (hhi : ∀ n,100000 ≤ n → own0 n = none)
variable {st bu ti nw : Int} {R : List (List D)} {i : Nat} {l : LL} {kd : Int} {s : ByteArray} {mono : Bool} {p : PtD}
def dnEnv (st bu ti : Int) (R : List (List D)) (i : Nat) (v : Int) : List (Nat × SV):=pEnv st bu ti R i ++ [(20,.u (.c (.p 20 0))),(21,.u (.c (I64 v)))]
def dnOwn (st bu ti nw : Int) (l l' : LL) (kd : Int) (s : ByteArray) (mono : Bool) (p q : PtD) (nm : Nat) : List (Nat × Blk):=(14,opB kd s mono p) :: (20,.cells 46 q.cells) :: (ownX st bu ti nw l' ++ ownY st bu ti nw l nm)
include hlow hhi in
theorem play_down {β : Nat → Option Nat} {a : Act} {w : World} (h1 : st ≤ 1000) (hT : TabOk k st l) (hp : POk (k + 1) p) (hs : s.size ≤ 1000) (h : Rel (EP X L w0 own0 β0) β (lookT (pEnv st bu ti R i)) (lookT (pOwn st bu ti nw l 1 s mono p 200045)) a w) {Q : Exit → Act → World → Prop}
  (hQ : ∀ β a w nw' l',TabOk k st l' → Rel (EP X L w0 own0 β0) β (lookT (pEnv st bu ti R i)) (lookT (pOwn st bu ti nw' l' 1 s mono p 200045)) a w → Q .normal a w) : (cutC body4 [1,1,1,1,1,1,0,1,0,0,1,0,0,1,1,0]).wp PR (only Q) a w:=by
 refine wp_seq (wpC_sound (S:=B (spA k)) (BT _) (spA_ok k) rfl rfl hlow hhi _ (N:=Sub (pEnv st bu ti R i ++ [(74,.u (.c (I64 1)))]) (pOwn st bu ti nw l 1 s mono p 200045)) (X:=fun _ _ _=>False) (R:=fun _ _=>False) h ?_ ?_ (fun _ _ _ ⟨_,_,_,hh,_⟩=>hh.elim) (fun _ _ ⟨_,_,_,hh,_⟩=>hh.elim))
 ·conv=>whnf
  exact ⟨⟨rfl,rfl,rfl,rfl,rfl,rfl,rfl,rfl,rfl,rfl,trivial⟩,rfl,rfl,rfl,rfl,rfl,trivial⟩
 rintro a w ⟨env,own,β,hN,hR⟩
 have hR:=hR.sub hN rfl
 refine wp_block (wp_seq (wpC_sound (S:=B (spA k)) (BT _) (spA_ok k) rfl rfl hlow hhi _ (N:=Sub (pEnv st bu ti R i ++ [(75,.u (.c (Bo false))),(74,.u (.c (I64 1)))]) (pOwn st bu ti nw l 1 s mono p 200045)) (X:=fun _ _ _=>False) (R:=fun _ _=>False) hR ?_ ?_ (fun _ _ _ ⟨_,_,_,hh,_⟩=>hh.elim) (fun _ _ ⟨_,_,_,hh,_⟩=>hh.elim)))
 ·conv=>whnf
  exact ⟨⟨rfl,rfl,rfl,rfl,rfl,rfl,rfl,rfl,rfl,rfl,rfl,trivial⟩,rfl,rfl,rfl,rfl,rfl,trivial⟩
 rintro a w ⟨env,own,β,hN,hR⟩
 have hR:=hR.sub hN rfl
 refine wp_cond_split (evV_eq hR (x:=.tmp 75) rfl).1 (fun h=>by cases h) (fun _=>?_)
 refine wp_seq (wpC_sound (S:=B (spA k)) (BT _) (spA_ok k) rfl rfl hlow hhi _ (N:=Sub (pEnv st bu ti R i ++ [(112,.u (.c (Bo true)))]) (pOwn st bu ti nw l 1 s mono p 200045)) (X:=fun _ _ _=>False) (R:=fun _ _=>False) hR ?_ ?_ (fun _ _ _ ⟨_,_,_,hh,_⟩=>hh.elim) (fun _ _ ⟨_,_,_,hh,_⟩=>hh.elim))
 ·conv=>whnf
  exact ⟨⟨rfl,rfl,rfl,rfl,rfl,rfl,rfl,rfl,rfl,rfl,trivial⟩,rfl,rfl,rfl,rfl,rfl,trivial⟩
 rintro a w ⟨env,own,β,hN,hR⟩
 have hR:=hR.sub hN rfl
 refine wp_cond_split (evV_eq hR (x:=.tmp 112) rfl).1 (fun _=>?_) (fun h=>by cases h)
 refine wp_seq (wpC_sound (S:=B (spA k)) (BT _) (spA_ok k) rfl rfl hlow hhi _ (N:=fun env own=>∃ q v l',downG st nw l s mono (bare p) = (q,v,l') ∧ Sub (dnEnv st bu ti R i v) (dnOwn st bu ti nw l l' 1 s mono p q 200045) env own) (X:=fun _ _ _=>False) (R:=fun _ _=>False) hR ?_ ?_ (fun _ _ _ ⟨_,_,_,hh,_⟩=>hh.elim) (fun _ _ ⟨_,_,_,hh,_⟩=>hh.elim))
 ·conv=>whnf
  refine ⟨⟨hp,hT.row⟩,?_⟩;conv=>whnf
  rintro ⟨q,v,l'⟩ hx;conv=>whnf
  exact ⟨q,v,l',hx,⟨rfl,rfl,rfl,rfl,rfl,rfl,rfl,rfl,rfl,rfl,rfl,trivial⟩,rfl,rfl,rfl,rfl,rfl,rfl,trivial⟩
 rintro a w ⟨env,own,β,⟨q,v,l',hx,hN⟩,hR⟩
 have hR:=hR.sub hN rfl
 obtain ⟨hT',gq⟩:=downG_ok hT hp hs hx
 have hP : ∀ (y : PtD × Int × LL),downG st nw (asL (rowsOf l)) s mono (bare p) = y → y = (q,v,l'):=fun y hy=>by
  rw [asL_rowsOf,hx] at hy
  exact hy.symm
 refine wp_seq (draw_mid (S:=B (spA k)) (BT _) (spA_ok k) rfl rfl hlow hhi hR mixed (W:=[(13,[22])]) (el:=[]) 8 12 (by kernel_rfl) (by kernel_rfl) (by kernel_rfl) (N:=fun env own=>∃ nm,(nm = 200045 ∨ nm = 100093 ∨ nm = 100134 ∨ nm = 100151) ∧ Sub (dnEnv st bu ti R i v ++ [(22,.u (.c (.p 22 0))),(23,.u (.c (I64 v)))]) ((22,.cells 55 q.cells) :: dnOwn st bu ti nw l' l' 1 s mono p q nm) env own) ?_ ?_)
 ·conv=>whnf
  refine ⟨?_,?_⟩
  ·conv=>whnf
   refine ⟨⟨hp,hT.rrow h1⟩,?_⟩;conv=>whnf
   intro y hy
   obtain rfl:=hP y hy
   conv=>whnf
   intro c hc
   cases c with
   | true =>
    conv=>whnf
    exact ⟨100134,.inr (.inr (.inl rfl)),⟨rfl,rfl,rfl,rfl,rfl,rfl,rfl,rfl,rfl,rfl,rfl,rfl,rfl,trivial⟩,rfl,rfl,rfl,rfl,rfl,rfl,rfl,trivial⟩
   | false =>
    conv=>whnf
    exact ⟨200045,.inl rfl,⟨rfl,rfl,rfl,rfl,rfl,rfl,rfl,rfl,rfl,rfl,rfl,rfl,rfl,trivial⟩,rfl,rfl,rfl,rfl,rfl,rfl,rfl,trivial⟩
  conv=>whnf
  refine ⟨⟨hp,hT.rrow h1⟩,?_⟩;conv=>whnf
  intro y hy
  obtain rfl:=hP y hy
  conv=>whnf
  intro c hc
  cases c with
  | true =>
   conv=>whnf
   exact ⟨100134,.inr (.inr (.inl rfl)),⟨rfl,rfl,rfl,rfl,rfl,rfl,rfl,rfl,rfl,rfl,rfl,rfl,rfl,trivial⟩,rfl,rfl,rfl,rfl,rfl,rfl,rfl,trivial⟩
  | false =>
   conv=>whnf
   exact ⟨200045,.inl rfl,⟨rfl,rfl,rfl,rfl,rfl,rfl,rfl,rfl,rfl,rfl,rfl,rfl,rfl,trivial⟩,rfl,rfl,rfl,rfl,rfl,rfl,rfl,trivial⟩
 rintro env own β a w ⟨nm,hn,hN⟩ hR
 have hR:=hR.sub hN (by rcases hn with rfl | rfl | rfl | rfl <;> rfl)
 -- words and blocks that are told again
 refine wpC_sound (S:=B (spA k)) (BT _) (spA_ok k) rfl rfl hlow hhi _ (N:=Sub (pEnv st bu ti R i) (pOwn st bu ti nw l' 1 s mono p nm)) (X:=fun _ _ _=>False) (R:=fun _ _=>False) hR ?_ ?_ (fun _ _ _ ⟨_,_,_,hh,_⟩=>hh.elim) (fun _ _ ⟨_,_,_,hh,_⟩=>hh.elim)
 ·rcases hn with rfl | rfl | rfl | rfl
  all_goals
   conv=>whnf
   refine ⟨mixed,[],[],[],by kernel_rfl,?_⟩;conv=>whnf
   refine Ask.i (fun _=>?_) (fun c=>nf v c);conv=>whnf
   refine ⟨⟨rfl,gq⟩,?_⟩;conv=>whnf
   exact ⟨⟨rfl,rfl,rfl,rfl,rfl,rfl,rfl,rfl,rfl,trivial⟩,rfl,rfl,rfl,rfl,rfl,trivial⟩
 rintro a w ⟨env,own,β,hN,hR⟩
 have hR:=hR.sub hN (by rcases hn with rfl | rfl | rfl | rfl <;> rfl)
 obtain ⟨β',hR⟩:=back_name hhi hn hR
 exact hQ β' a w nw l' hT' hR
end Sx
namespace Sx
open Go Go.Proofs
set_option maxRecDepth 30000
noncomputable abbrev spB (k : Nat) : List (FuncId × Spec):=[(9,.full (normF (B []) [24,9] (stateT (k + 1)))),(24,.full (normF (B []) [60,9] (rstateT (k + 1)))),(13,.pure (normG (B []) [46] plainT)),(12,.pure (normG (B []) [55,55] (sameT (k + 1)))),(10,.full (normF (B []) [24] lenTS)),(25,.full (normF (B []) [60] rlenS)),(15,.full (normF (B []) [24] tkeysT)),(27,.full (normF (B []) [60] rkeysT)),(26,.pure (normG (B []) [57,57] textsT)),(19,.pure (normG (B []) [3] nameT)),(20,.pure (normG (B []) [3] nameT)),(28,.pure (normG (B []) [46] (numOf startOf))),(29,.pure (normG (B []) [55] (numOf startOf))),(30,.pure (normG (B []) [46] (numOf timeOf))),(31,.pure (normG (B []) [55] (numOf timeOf)))]
theorem spB_ok (k : Nat) : AllSound (B (spB k)) G1:=.consF _ stateT_ok (.consF _ rstateT_ok (.cons _ plain_ok (.cons _ same_ok (.consF _ lenT_ok (.consF _ rlen_ok (.consF _ tkeys_ok (.consF _ rkeys_ok (.cons _ texts_ok (.cons _ name_ok (.cons _ verdict_ok (.cons _ start_ok (.cons _ rstart_ok (.cons _ time_ok (.cons _ rtime_ok noneS))))))))))))))
variable {k : Nat} {X L : Nat → Prop} {w0 : World} {own0 : Own} {β0 : Nat → Option Nat} (hlow : ∀ n,n < 50000 → own0 n = none) (hhi : ∀ n,100000 ≤ n → own0 n = none)
variable {st bu ti nw : Int} {R : List (List D)} {i : Nat} {l : LL} {kd : Int} {s : ByteArray} {mono : Bool} {p : PtD}
def cmpEnv (st bu ti : Int) (R : List (List D)) (i : Nat) (b : Bool) : List (Nat × SV):=pEnv st bu ti R i ++ [(24,.u (.c (.p 24 0))),(25,.u (.c (Bo b))),(26,.u (.c (.p 26 0))),(27,.u (.c (Bo b)))]
def cmpOwn (st bu ti nw : Int) (l : LL) (kd : Int) (s : ByteArray) (mono : Bool) (p q : PtD) : List (Nat × Blk):=(24,.cells 46 q.cells) :: (26,.cells 55 q.cells) :: pOwn st bu ti nw l kd s mono p 200045
def stP : Option (PtD × Int) → PtD | none=>zeroP | some x=>x.1
theorem stP_ok {o : Option (PtD × Int)} (hT : TabOk k st l) (ho : lookP s l = o) : SameOk (k + 1) (stP o):=by
 cases o with
 | none=>exact good0
 | some x=>exact (hT.had ho).same
include hlow hhi in
theorem play_cmp {β : Nat → Option Nat} {a : Act} {w : World} (h1 : st ≤ 1000) (hT : TabOk k st l) (h : Rel (EP X L w0 own0 β0) β (lookT (pEnv st bu ti R i)) (lookT (pOwn st bu ti nw l kd s mono p 200045)) a w) {Q : Exit → Act → World → Prop}
  (hQ : ∀ β a w,Rel (EP X L w0 own0 β0) β (lookT (penv st bu ti R i)) (lookT (ownX st bu ti nw l ++ ownY st bu ti nw l 200045)) a w → Q .normal a w) : (cutC body4 [1,1,1,1,1,1,0,1,0,0,1,0,0,1,1,1]).wp PR Q a w:=by
 have hlen:=hT.len
 refine wp_seq (wpC_sound (S:=B (spB k)) (BT _) (spB_ok k) rfl rfl hlow hhi _ (N:=fun env own=>∃ o,lookP s l = o ∧ Sub (pEnv st bu ti R i ++ [(24,.u (.c (.p 24 0))),(25,.u (.c (Bo o.isSome)))]) ((24,.cells 46 (stP o).cells) :: pOwn st bu ti nw l kd s mono p 200045) env own) (X:=fun _ _ _=>False) (R:=fun _ _=>False) h ?_ ?_ (fun _ _ _ ⟨_,_,_,hh,_⟩=>hh.elim) (fun _ _ ⟨_,_,_,hh,_⟩=>hh.elim))
 ·conv=>whnf
  refine ⟨hT.row,?_⟩;conv=>whnf
  intro o ho
  cases o with
  | none =>
   conv=>whnf
   exact ⟨none,ho,⟨rfl,rfl,rfl,rfl,rfl,rfl,rfl,rfl,rfl,rfl,rfl,trivial⟩,rfl,rfl,rfl,rfl,rfl,rfl,trivial⟩
  | some x =>
   conv=>whnf
   exact ⟨some x,ho,⟨rfl,rfl,rfl,rfl,rfl,rfl,rfl,rfl,rfl,rfl,rfl,trivial⟩,rfl,rfl,rfl,rfl,rfl,rfl,trivial⟩
 rintro a w ⟨env,own,β,⟨o,ho,hN⟩,hR⟩
 have hR:=hR.sub hN rfl
 have gq:=stP_ok hT ho
 refine wp_seq (wpC_sound (S:=B (spB k)) (BT _) (spB_ok k) rfl rfl hlow hhi _ (N:=Sub (cmpEnv st bu ti R i o.isSome) (cmpOwn st bu ti nw l kd s mono p (stP o))) (X:=fun _ _ _=>False) (R:=fun _ _=>False) hR ?_ ?_ (fun _ _ _ ⟨_,_,_,hh,_⟩=>hh.elim) (fun _ _ ⟨_,_,_,hh,_⟩=>hh.elim))
 ·conv=>whnf
  refine ⟨hT.rrow h1,?_⟩;conv=>whnf
  intro o2 ho2
  have ho2 : lookP s (asL (rowsOf l)) = o2:=ho2
  rw [asL_rowsOf,ho] at ho2
  subst ho2
  cases o with
  | none =>
   conv=>whnf
   exact ⟨⟨rfl,rfl,rfl,rfl,rfl,rfl,rfl,rfl,rfl,rfl,rfl,rfl,rfl,trivial⟩,rfl,rfl,rfl,rfl,rfl,rfl,rfl,trivial⟩
  | some x =>
   conv=>whnf
   exact ⟨⟨rfl,rfl,rfl,rfl,rfl,rfl,rfl,rfl,rfl,rfl,rfl,rfl,rfl,trivial⟩,rfl,rfl,rfl,rfl,rfl,rfl,rfl,trivial⟩
 rintro a w ⟨env,own,β,hN,hR⟩
 have hR:=hR.sub hN rfl
 generalize stP o = q at gq hR
 generalize o.isSome = b at hR
 refine wpC_sound (S:=B (spB k)) (BT _) (spB_ok k) rfl rfl hlow hhi _ (N:=Sub (penv st bu ti R i) (ownX st bu ti nw l ++ ownY st bu ti nw l 200045)) (X:=fun _ _ _=>False) (R:=fun _ _=>False) hR ?_ ?_ (fun _ _ _ ⟨_,_,_,hh,_⟩=>hh.elim) (fun _ _ ⟨_,_,_,hh,_⟩=>hh.elim)
 ·conv=>whnf
  refine ⟨mixed,[(16,[100038,200038]),(18,[100045,200045]),(23,[100038,200038]),(25,[100045,200045])],[(8,[]),(9,[]),(10,[]),(11,[]),(16,[100038,200038]),(18,[100038,200038,100045,200045]),(23,[100038,200038,100045,200045]),(25,[100038,200038,100045,200045])],[],by kernel_rfl,?_⟩;conv=>whnf
  refine Ask.i (fun c=>nt b c) (fun _=>?_);conv=>whnf
  refine ⟨⟨rfl,gq⟩,?_⟩;conv=>whnf
  refine Ask.i (fun c=>?_) (fun _=>?_)
  ·have c : (((l.length : Nat) : Int) != (((rowsOf l).length : Nat) : Int)) = true:=c
   rw [rowsOf_len] at c
   exact nt _ c
  conv=>whnf
  refine ⟨⟨hT.keys,hT.size,by omega⟩,?_⟩;conv=>whnf
  intro ks hks
  have hks : keyRows l = ks:=hks;conv=>whnf
  refine ⟨by rw [rowsOf_len]; omega,?_⟩;conv=>whnf
  intro ks2 hks2
  have hks2 : keyRows (asL (rowsOf l)) = ks2:=hks2
  rw [asL_rowsOf,hks] at hks2
  subst hks2
  conv=>whnf
  refine ⟨⟨rfl,?_⟩,?_⟩
  ·rw [← hks]
   show (strRows _).length ≤ _
   unfold strRows
   rw [List.length_map,List.length_mergeSort,List.length_map]
   omega
  conv=>whnf
  intro b1 hb1;conv=>whnf
  intro b2 hb2
  obtain rfl:=hb1.symm.trans hb2
  conv=>whnf
  refine Ask.i (fun c=>nt _ c) (fun _=>?_);conv=>whnf
  intro x1 hx1;conv=>whnf
  intro x2 hx2
  obtain rfl:=hx1.symm.trans hx2
  conv=>whnf
  refine Ask.i (fun c=>nt _ c) (fun _=>?_);conv=>whnf
  intro y1 hy1;conv=>whnf
  intro y2 hy2
  obtain rfl:=hy1.symm.trans hy2
  conv=>whnf
  refine Ask.i (fun c=>nt _ c) (fun _=>?_);conv=>whnf
  exact ⟨⟨rfl,rfl,rfl,rfl,rfl,rfl,rfl,trivial⟩,rfl,rfl,rfl,rfl,trivial⟩
 rintro a w ⟨env,own,β,hN,hR⟩
 exact hQ β a w (hR.sub hN rfl)
end Sx
