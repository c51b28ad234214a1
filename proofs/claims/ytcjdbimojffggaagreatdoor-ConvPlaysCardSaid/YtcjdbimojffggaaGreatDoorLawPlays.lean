/- The law ConvPlays answers true at any input. Conditions: the input reads as data of the row's types, and errors.errorType is laid as the program's text lays it. -/
import Derived.Test.YtcjdbimojffggaaGreatDoorC43
import Derived.Test.YtcjdbimojffggaaGreatDoorC25
set_option linter.unusedVariables false
set_option linter.unusedSimpArgs false
namespace Sx
open Go Go.Proofs
set_option maxRecDepth 30000
def cts48 : List Ct:=[.int .i64,.str,.bool,.int .i64,.sl 30,.int .u64,.int .u64,.int .i64,.int .u64,.sl 32,.int .u32,.str,
 .sl 30,.int .u64,.int .u64,.int .u64,.bool,.int .u64,.bool,.int .u64,.bool,.int .u64,.sl 38,.sl 38,.sl 32,.int .u32,.str,
 .sl 30,.int .u64,.int .u64,.int .u64,.bool,.int .u64,.bool,.int .u64,.bool,.int .u64,.int .i32,.int .u64,.bool,.int .i32,.sl 38,.str,.bool,.int .i32,.sl 38,.str,.sl 32,.int .u32,.int .u64,.str]
def opRow (r : List D) (a b c d : D) : List C:=(List.range 51).map fun j=>match j with
 | 22=>.d 38 a
 | 23=>.d 38 b
 | 41=>.d 38 c
 | 45=>.d 38 d
 | j=>cOf (cts48.getD j .oth) (cellD r j)
theorem opRow_eq {r : List D} (t : OpTyp r) : some (Blk.cells 48 (opRow r (cellD r 22) (cellD r 23) (cellD r 41) (cellD r 45))) = some (opB (cellD r 0).toInt (cellD r 1).toStr (cellD r 2).toBool (rwP r)):=by
 rw [t.i22,t.i23,t.i41,t.i45]
 rfl
def playS (k : Nat) : List U → List Blk → Out RF
 | [.c (.v (.int .i64 st)),.c (.v (.int .i64 bu)),.c (.v (.int .i64 ti)),.c (.d 22 (.rows R))],[]=>.need (R.length ≤ 9223372036854775807 ∧ (∀ r ∈ R,OpTyp r) ∧ (FewOk R → ∀ r ∈ R,RowDp k r)) (.ret (.u (.c (Bo true)),[],[]))
 | _,_=>.fail
noncomputable abbrev spC : List (FuncId × Spec):=[(6,.pure (normG (B []) [] firstS)),(8,.pure (normG (B []) [22] fewT)),(7,.full (normF (B []) [3,3,3] newS)),(16,.full (normF (B []) [3,3,3] rnewS)),(17,.pure (normG (B []) [26] codeS))]
theorem spC_ok : AllSound (B spC) G1:=.cons _ first_ok (.cons _ few_ok (.consF _ new_ok (.consF _ rnew_ok (.cons _ code_ok noneS))))
set_option maxHeartbeats 2000000 in
theorem play_ok {k : Nat} : OkF G1 4 (playS k):=by
 refine sound_by false (S:=B spC) (BT _) Tryz.func4 rfl (by decide) fun K us lent hk=>?_
 unfold playS at hk
 split at hk
 ·rename_i st bu ti R
  obtain ⟨⟨hlen,hOp,hDp⟩,hk⟩:=hk
  refine ⟨by show 4 ≤ _; decide,fun E β a w Q hET hG hnt hlow hhi hR hQN hQR=>?_⟩
  have hk : K (.u (.c (Bo true)),[],[]):=hk
  obtain ⟨T,G',w0,X,L,nt,own0,β0⟩:=E
  simp only at hET hG hnt hlow hhi
  subst hET hG hnt
  refine wpL_sound (S:=B spC) (BT _) spC_ok rfl rfl hlow hhi (l:=[_,_,_,_,_,_]) (X:=fun _ _ _=>False) (R:=retF (B spC) [4] [.tmp 8] 0 false K) (N:=fun env own=>Sub [(9,.u (.c (.v (.pointer none)))),(11,.u (.c (.v (.pointer none))))] [] env own ∨
   (badN st bu ti = false ∧ FewOk R ∧ Sub [(0,.u (.c (I64 st))),(1,.u (.c (I64 bu))),(2,.u (.c (I64 ti))),(3,.u (.c (.d 22 (.rows R)))),(9,.u (.c (.p 100038 0))),(11,.u (.c (.p 100045 0)))] (ownX st bu ti 0 [] ++ ownY st bu ti 0 [] 200045) env own)) (fun _ _ _ ⟨_,_,_,hh,_⟩=>hh.elim) hQR ?_ hR ?_
  rotate_left
  ·conv=>whnf
   refine ⟨⟨hlen,hOp⟩,?_⟩;conv=>whnf
   intro b hb
   cases b with
   | false =>
    conv=>whnf
    exact hk
   | true =>
    have hF:=hb rfl
    conv=>whnf
    intro c hc
    cases c with
    | true =>
     conv=>whnf
     intro c2 hc2
     obtain rfl : true = c2:=hc.symm.trans hc2
     conv=>whnf
     exact .inl ⟨⟨rfl,rfl,trivial⟩,trivial⟩
    | false =>
     conv=>whnf
     intro c2 hc2
     obtain rfl : false = c2:=hc.symm.trans hc2
     conv=>whnf
     exact .inr ⟨hc,hF,⟨rfl,rfl,rfl,rfl,rfl,rfl,trivial⟩,rfl,rfl,rfl,rfl,trivial⟩
  rintro a w ⟨env,own,β,hN | ⟨hc,hF,hN⟩,hR⟩
  ·have hR:=hR.sub hN rfl
   refine wpC_sound (S:=B spC) (BT _) spC_ok rfl rfl hlow hhi _ (N:=fun _ _=>False) (X:=fun _ _ _=>False) hR ?_ (fun _ _ ⟨_,_,_,hh,_⟩=>hh.elim) (fun _ _ _ ⟨_,_,_,hh,_⟩=>hh.elim) hQR;conv=>whnf
   refine ⟨[],_,_,rfl,Unit,(fun _=>([(11,.u (.c (.v (.pointer none)))),(13,.u (.c (I64 0)))],[])),(fun _=>True),(fun _=>0),fun x _=>rfl,⟨(),trivial,⟨rfl,rfl,trivial⟩,trivial⟩,?_⟩
   rintro _ _;conv=>whnf
   exact hk
  have hR:=hR.sub hN rfl
  unfold badN at hc
  simp only [Bool.or_eq_false_iff,decide_eq_false_iff_not] at hc
  obtain ⟨n1,n2,_⟩:=hc
  have h1 : st ≤ 1000:=by omega
  have hl60:=hF.len
  refine wp_seq (wp_seq (wpC_sound (S:=B spC) (BT _) spC_ok rfl rfl hlow hhi _ (N:=Sub (penv st bu ti R 0) (ownX st bu ti 0 [] ++ ownY st bu ti 0 [] 200045)) (X:=fun _ _ _=>False) (R:=fun _ _=>False) hR ?_ ?_ (fun _ _ _ ⟨_,_,_,hh,_⟩=>hh.elim) (fun _ _ ⟨_,_,_,hh,_⟩=>hh.elim)))
  ·conv=>whnf
   exact ⟨⟨rfl,rfl,rfl,rfl,rfl,rfl,rfl,trivial⟩,rfl,rfl,rfl,rfl,trivial⟩
  rintro a w ⟨env,own,β,hN,hR⟩
  have hR:=hR.sub hN rfl
  refine wp_block (wp_loop_ix (fun (i : Nat) a w=>i ≤ R.length ∧ ∃ β nw l,TabOk k st l ∧ Rel (EP X L w0 own0 β0) β (lookT (penv st bu ti R i)) (lookT (ownX st bu ti nw l ++ ownY st bu ti nw l 200045)) a w)
   (fun i=>R.length - i) 0 ⟨Nat.zero_le _,β,0,[],TabOk.nil (by omega),hR⟩ ?_)
  rintro i a w ⟨p1,β,nw,l,hTab,hR⟩
  refine wpL_sound (S:=B spC) (BT _) spC_ok rfl rfl hlow hhi (l:=[_]) (X:=fun j env own=>j = 0 ∧ Sub [] [] env own) (R:=fun _ _=>False)
   (N:=fun env own=>i < R.length ∧ Sub (penv st bu ti R i) (ownX st bu ti nw l ++ ownY st bu ti nw l 200045) env own) ?_ (fun _ _ ⟨_,_,_,hh,_⟩=>hh.elim) ?_ hR ?_
  rotate_right
  ·conv=>whnf
   refine Ask.i (fun c1=>?_) (fun c1=>?_)
   ·have c1 : (i : Int) < ((R.length : Nat) : Int):=of_decide_eq_true c1
    conv=>whnf
    exact ⟨by omega,⟨rfl,rfl,rfl,rfl,rfl,rfl,rfl,trivial⟩,rfl,rfl,rfl,rfl,trivial⟩
   conv=>whnf
   exact ⟨rfl,trivial,trivial⟩
  ·rintro j a w ⟨env,own,β,⟨rfl,hN⟩,hR⟩
   have hR:=hR.sub hN rfl
   show (Code.seq _ _).wp _ _ a w
   refine wpC_sound (S:=B spC) (BT _) spC_ok rfl rfl hlow hhi _ (N:=fun _ _=>False) (X:=fun _ _ _=>False) hR ?_ (fun _ _ ⟨_,_,_,hh,_⟩=>hh.elim) (fun _ _ _ ⟨_,_,_,hh,_⟩=>hh.elim) hQR;conv=>whnf
   exact hk
  rintro a w ⟨env,own,β,⟨hi,hN⟩,hR⟩
  have hR:=hR.sub hN rfl
  have hb : (0 : Int) ≤ (i : Int) ∧ (i : Int) < ((R.length : Nat) : Int):=by omega
  have hmem : R.getD i [] ∈ R:=by rw [List.getD_eq_getElem?_getD,List.getElem?_eq_getElem hi]; exact List.getElem_mem hi
  have tT:=hOp _ hmem
  have hp:=told_of tT (hF.small _ hmem) (hDp hF _ hmem)
  have hs:=hF.key _ hmem
  refine wp_seq (wp_block ?_)
  refine wpL_sound (S:=B spC) (BT _) spC_ok rfl rfl hlow hhi (l:=[_,_]) (X:=fun _ _ _=>False) (R:=fun _ _=>False) (N:=Sub (pEnv st bu ti R i) (pOwn st bu ti nw l (cellD (R.getD i []) 0).toInt (cellD (R.getD i []) 1).toStr (cellD (R.getD i []) 2).toBool (rwP (R.getD i [])) 200045)) (fun _ _ _ ⟨_,_,_,hh,_⟩=>hh.elim) (fun _ _ ⟨_,_,_,hh,_⟩=>hh.elim) ?_ hR ?_
  rotate_right
  ·conv=>whnf
   refine ⟨hb,?_⟩;conv=>whnf
   exact ⟨⟨rfl,rfl,rfl,rfl,rfl,rfl,rfl,rfl,rfl,trivial⟩,opRow_eq tT,rfl,rfl,rfl,rfl,trivial⟩
  rintro a w ⟨env,own,β,hN,hR⟩
  have hR:=hR.sub hN rfl
  generalize (cellD (R.getD i []) 0).toInt = kd at hR
  generalize (cellD (R.getD i []) 1).toStr = s at hR hs
  generalize (cellD (R.getD i []) 2).toBool = mono at hR
  generalize rwP (R.getD i []) = p at hR hp
  -- what is behind the operation
  refine wp_seq ((?_ : ∀ Q8 : Exit → Act → World → Prop,(∀ β a w nw' l',TabOk k st l' → Rel (EP X L w0 own0 β0) β (lookT (pEnv st bu ti R i)) (lookT (pOwn st bu ti nw' l' kd s mono p 200045)) a w → Q8 .normal a w) → (cutC body4 [1,1,1,1,1,1,0,1,0,0,1,0,0,1,1,0]).wp PR Q8 a w) _ ?_)
  ·intro Q8 hQ8
   by_cases k0 : kd = 0
   ·subst k0
    exact Code.wp_mono only_of (play_up hlow hhi h1 hTab hp hs hR hQ8)
   by_cases k1 : kd = 1
   ·subst k1
    exact Code.wp_mono only_of (play_down hlow hhi h1 hTab hp hs hR hQ8)
   exact play_tick hlow hhi h1 hTab k0 k1 hR hQ8
  intro β a w nw' l' hTab' hR
  refine play_cmp hlow hhi h1 hTab' hR fun β a w hR=>?_
  show Code.wp _ _ _ a w
  refine wpC_sound (S:=B spC) (BT _) spC_ok rfl rfl hlow hhi _ (N:=Sub (penv st bu ti R (i + 1)) (ownX st bu ti nw' l' ++ ownY st bu ti nw' l' 200045)) (X:=fun _ _ _=>False) (R:=fun _ _=>False) hR ?_ ?_ (fun _ _ _ ⟨_,_,_,hh,_⟩=>hh.elim) (fun _ _ ⟨_,_,_,hh,_⟩=>hh.elim)
  ·conv=>whnf
   exact ⟨⟨rfl,rfl,rfl,rfl,rfl,rfl,congrArg (fun z : Int=>some (SV.u (.c (I64 z)))) (w64_eq (n:=(i : Int) + 1) (by omega)),trivial⟩,rfl,rfl,rfl,rfl,trivial⟩
  rintro a w ⟨env,own,β,hN,hR⟩
  exact ⟨i + 1,⟨hi,β,nw',l',hTab',hR.sub hN rfl⟩,by show R.length - (i + 1) < R.length - i; omega⟩
 exact hk.elim
end Sx
namespace Sx
open Go Go.Proofs Go.RowKit
set_option maxRecDepth 30000
theorem Fr.below0 {w w' : World} {β : Nat → Option Nat} (h : Fr w w' (Mine β (lentOwn []))) : Below w.heap.size w w' :=
 ⟨h.os,h.tape,h.output,h.size,fun b hb=>h.heap b hb fun ⟨n,h1,_⟩=>by unfold lentOwn at h1; simp at h1⟩
def goodO (t : TypeId) : Bool:=[22,48,3,9,4,46,35,40,44,30,31,32,33,37,38,21,42,165,160,163,161].contains t
theorem goodO_ok : ∀ t,goodO t = true → goodB (B []).tt goodO t = true:=by
 intro t ht
 have h : [22,48,3,9,4,46,35,40,44,30,31,32,33,37,38,21,42,165,160,163,161].all (fun t=>goodB (B []).tt goodO t) = true:=by kernel_rfl
 exact List.all_eq_true.1 h t (by simpa [goodO] using ht)
theorem typ_int {k : IntKind} {d : D} (h : Typ TB (.int k) d) : k.min ≤ d.toInt ∧ d.toInt ≤ k.max:=by
 cases h with
 | int h=>exact h
theorem typ_u64 {d : D} (h : Typ TB (.int .u64) d) : 0 ≤ d.toInt ∧ d.toInt < 18446744073709551616:=by
 have ku : IntKind.u64.min = 0 ∧ IntKind.u64.max = 18446744073709551615:=by decide
 have:=typ_int h
 rw [ku.1,ku.2] at this
 omega
theorem typ_i32 {d : D} (h : Typ TB (.int .i32) d) : -2147483648 ≤ d.toInt ∧ d.toInt < 2147483648:=by
 have ku : IntKind.i32.min = -2147483648 ∧ IntKind.i32.max = 2147483647:=by decide
 have:=typ_int h
 rw [ku.1,ku.2] at this
 omega
theorem typ_ints {d : D} (h : Typ TB (.sl 38) d) : d = .ints d.toInts ∧ d.toInts.length ≤ 9223372036854775807 ∧ R64 d.toInts:=by
 have ht : TB 38 = some (.ints .u64):=by kernel_rfl
 cases h with
 | ints h hl hr =>
  rw [ht] at h
  obtain rfl:=El.ints.inj (Option.some.inj h)
  refine ⟨rfl,hl,fun x hx=>?_⟩
  have ku : IntKind.u64.min = 0 ∧ IntKind.u64.max = 18446744073709551615:=by decide
  have:=hr x hx
  rw [ku.1,ku.2] at this
  omega
 | rows h=>rw [ht] at h; cases h
theorem cts48_ok : TB 22 = some (.rows cts48):=by kernel_rfl
theorem op_typ {r : List D} (hc : ∀ (j : Nat) ct,cts48[j]? = some ct → Typ TB ct (cellD r j)) : OpTyp r where
 n:=⟨hc 4 _ rfl,hc 9 _ rfl,typ_u64 (hc 8 _ rfl)⟩
 h:=⟨hc 12 _ rfl,hc 24 _ rfl,(typ_ints (hc 22 _ rfl)).2.1,(typ_ints (hc 23 _ rfl)).2.1,(typ_ints (hc 22 _ rfl)).2.2,typ_u64 (hc 15 _ rfl),typ_u64 (hc 17 _ rfl),typ_u64 (hc 19 _ rfl),typ_u64 (hc 21 _ rfl)⟩
 e:=⟨hc 27 _ rfl,hc 47 _ rfl,(typ_ints (hc 41 _ rfl)).2.1,(typ_ints (hc 45 _ rfl)).2.1,typ_i32 (hc 37 _ rfl),typ_i32 (hc 40 _ rfl),typ_i32 (hc 44 _ rfl),(typ_ints (hc 41 _ rfl)).2.2,(typ_ints (hc 45 _ rfl)).2.2⟩
 i22:=(typ_ints (hc 22 _ rfl)).1
 i23:=(typ_ints (hc 23 _ rfl)).1
 i41:=(typ_ints (hc 41 _ rfl)).1
 i45:=(typ_ints (hc 45 _ rfl)).1
 ct:=typ_u64 (hc 30 _ rfl)
 ze:=typ_u64 (hc 38 _ rfl)
 eu:=⟨typ_u64 (hc 32 _ rfl),typ_u64 (hc 34 _ rfl),typ_u64 (hc 36 _ rfl)⟩
theorem RowDp.mono {k m : Nat} {r : List D} (h : RowDp k r) (hm : k ≤ m) : RowDp m r :=
 ⟨h.na.mono (by omega),h.nx.mono (by omega),h.ha.mono (by omega),h.hx.mono (by omega),h.ea.mono (by omega),h.ex.mono (by omega)⟩
theorem rows_dp : ∀ R : List (List D),(∀ r ∈ R,OpSmall r) → ∃ k,∀ r ∈ R,RowDp k r
 | [],_=>⟨0,fun r hr=>by cases hr⟩
 | r :: R,h=>by
  obtain ⟨k,hk⟩:=rows_dp R fun r hr=>h r (List.mem_cons_of_mem _ hr)
  obtain ⟨⟨n1,n2⟩,⟨h1,h2,_,_⟩,⟨e1,e2,_,_⟩⟩:=h r List.mem_cons_self
  obtain ⟨a,ha⟩:=n1.dp
  obtain ⟨b,hb⟩:=n2.dp
  obtain ⟨c,hc⟩:=h1.dp
  obtain ⟨d,hd⟩:=h2.dp
  obtain ⟨e,he⟩:=e1.dp
  obtain ⟨f,hf⟩:=e2.dp
  refine ⟨k + a + b + c + d + e + f,fun r' hr'=>?_⟩
  rcases List.mem_cons.1 hr' with rfl | hr'
  ·exact ⟨ha.mono (by omega),hb.mono (by omega),hc.mono (by omega),hd.mono (by omega),he.mono (by omega),hf.mono (by omega)⟩
  exact (hk r' hr').mono (by omega)
theorem open_ops {H : Type} {enc : TypeId × Value → H} {w : World} {base : Nat} {spare : Nat → Bool} {held : Bool} {fuel : Nat} {cs : List Value} {x : DataW H × List MemPlace}
  (h : DataW.trod enc Tryz.prog w base spare held fuel 22 cs = some x) : ∃ v l,cs = [v] ∧ Rd TB w (fun _=>False) (.sl 22) v (.rows l) ∧ l.length ≤ 9223372036854775807 ∧ ∀ r ∈ l,OpTyp r:=by
 obtain ⟨l,rfl,hl⟩:=opened (S:=B []) (BT []) goodO_ok fuel 22 _ cs x rfl rfl h
 have hl : All2 (OpC TB w) [.sl 22] l:=hl
 match l,hl with
 | [(v,d)],⟨⟨hr,hT⟩,_⟩ =>
  obtain ⟨l,rfl,hlen,hrow⟩:=hT.sl (c:=cts48) cts48_ok
  exact ⟨v,l,rfl,hr,hlen,fun r hr=>op_typ (hrow r hr).2⟩
theorem convPlays_walk {H : Type} {enc : TypeId × Value → H} {W : World} {base : Nat} {spare : Nat → Bool} {held : Bool} {n0 : Nat} {v0 : Value} {x0 : DataW H × List MemPlace}
  (a0 : Int) (_ : (Lit.int .i64 a0).wf = true) (a1 : Int) (_ : (Lit.int .i64 a1).wf = true) (a2 : Int) (_ : (Lit.int .i64 a2).wf = true)
  (h0 : DataW.trod enc Tryz.prog W base spare held n0 22 [v0] = some x0) (hg : YtcjdbimojffggaaGreatDoor.Cd.Lays W) :
  Calls Tryz.prog 4 #[.int .i64 a0,.int .i64 a1,.int .i64 a2,v0] W fun e W'=>e = .returned (.bool true) ∧ Below W.heap.size W W':=by
 obtain ⟨v,l,hv,hr,hlen,hT⟩:=open_ops h0
 obtain rfl:=(List.cons.inj hv).1
 obtain ⟨k,hk⟩ : ∃ k,FewOk l → ∀ r ∈ l,RowDp k r:=by
  by_cases hF : FewOk l
  ·obtain ⟨k,hk⟩:=rows_dp l hF.small
   exact ⟨k,fun _=>hk⟩
  exact ⟨0,fun h=>absurd h hF⟩
 have no : ∀ n,lentOwn [] n = none:=fun n=>by unfold lentOwn; simp
 have av : ∀ b,¬ Av (fun _=>False) (fun _=>none) (lentOwn []) b:=fun b h=>by
  rcases h with h | ⟨n,h,_⟩
  ·exact h
  exact h (no n)
 have:=(play_ok (k:=k)).2 (fun x=>x = (.u (.c (Bo true)),[],[])) [.c (I64 a0),.c (I64 a1),.c (I64 a2),.c (.d 22 (.rows l))] [] (fun _=>none) (fun _=>False) W [.int .i64 a0,.int .i64 a1,.int .i64 a2,v0]
  (Nat.zero_le _) ⟨⟨hlen,hT,hk⟩,rfl⟩ ⟨fun n B h=>(by rw [no] at h; cases h),fun n m b h=>absurd (no n) h,fun n b h=>absurd (no n) h⟩ (GOk1 hg) (fun b h=>h.elim) ⟨⟨rfl,rfl⟩,⟨rfl,rfl⟩,⟨rfl,rfl⟩,hr.stay ⟨Nat.le_refl _,fun b _ _=>⟨rfl,av b⟩⟩,trivial⟩
 refine this.mono fun e' W' ⟨r,outs,news,β',v,h1,h2,_,_,h3,h4,_⟩=>?_
 obtain ⟨rfl,rfl,rfl⟩ : r = .u (.c (Bo true)) ∧ outs = [] ∧ news = []:=by simpa using h2
 obtain ⟨rfl,_⟩:=h3
 exact ⟨h1,h4.below0⟩
end Sx
