/- Part of the proof: a machine of states for walks, and contracts of functions over it. Conditions: those that each theorem names. -/
import Derived.Test.YtcjdbimojffggaaGreatDoorSx4
set_option linter.unusedVariables false
set_option linter.unusedSimpArgs false
/-! Two operations that are apart may change places. -/
namespace Sx
open Go
set_option linter.unusedVariables false
set_option linter.unusedSimpArgs false
section
variable {S : Pr} {nt : Nat} {D Di Dj : DC} {ops : Array Oper} {env env' : Env} {own : Own}
theorem calleeF_congr {cal : Callee} (h : ∀ x, cal = .value x → ev env x = ev env' x) : calleeF env cal = calleeF env' cal := by
  cases cal with
  | value x =>
    have := h x rfl
    cases x with
    | func f => rfl
    | _ => simp only [calleeF, evV_congr this]
  | _ => rfl
theorem valD_congr (o : Oper) (h : ∀ x ∈ o.op.operands, ev env x = ev env' x) : valD S D o env own = valD S D o env' own := by
  unfold valD
  rw [opV_congr o h, opS_congr o h]
  simp only [opN_congr o h]
  have hs : storeN env o = storeN env' o := by
    obtain ⟨dst, op, type, pos, after, guard⟩ := o
    cases op <;> simp only [storeN]
    case store t x y => simp only [Op.operands] at h; simp only [evC_congr (h x (by simp))]
  have hk : opKD S D env own o = opKD S D env' own o := by
    obtain ⟨dst, op, type, pos, after, guard⟩ := o
    cases op <;> simp only [opKD]
    case call c =>
      obtain ⟨cal, args, ts⟩ := c
      simp only [Op.operands, Call.operands] at h
      have h1 : calleeF env cal = calleeF env' cal := calleeF_congr fun x hx => h x (by subst hx; simp)
      have h2 : evs env args.toList = evs env' args.toList := mapO_congr fun x hx => evU_congr (h x (by simp at hx; simp [hx]))
      simp only [h1, h2]
  rw [hs, hk]
theorem guard_congr {o : Oper} (h : ∀ g w t, o.guard = some (g, w) → (ops[g]?).bind (·.dst) = some t → env t = env' t) : guardOf ops.toList env o = guardOf ops.toList env' o := by
  unfold guardOf
  split
  · rfl
  · rename_i j w hg
    split
    · rename_i oj hj
      split
      · rename_i t ht
        have : env t = env' t := h j w t hg (by have : ops[j]? = some oj := by simpa using hj
                                                simp [this, ht])
        rw [this]
      · rfl
    · rfl
def setD (env : Env) : Option Tmp → SV → Env | none, _ => env | some d, sv => fset env d sv
theorem ev_setD {x : Operand} {dst : Option Tmp} {sv : SV} (h : ∀ d, dst = some d → x ≠ .tmp d) : ev (setD env dst sv) x = ev env x := by
  cases dst with
  | none => rfl
  | some d =>
    cases x with
    | tmp t => exact fset_ne _ _ fun e => h d rfl (by rw [e])
    | _ => rfl
theorem tree_env {o : Oper} {dst : Option Tmp} {sv : SV} (h : ∀ d, dst = some d → d ∉ o.looksAt ops) : treeD S D ops.toList o (setD env dst sv) own = treeD S D ops.toList o env own := by
  have h1 : ∀ x ∈ o.op.operands, ev (setD env dst sv) x = ev env x := fun x hx => ev_setD fun d hd hxd => h d hd (by
    subst hxd
    exact List.mem_append_left _ (List.mem_filterMap.2 ⟨.tmp d, by simpa using hx, rfl⟩))
  have h2 : guardOf ops.toList (setD env dst sv) o = guardOf ops.toList env o := guard_congr fun g w t hg ht => by
    cases dst with
    | none => rfl
    | some d => exact fset_ne _ _ fun e => h d rfl (by subst e; simp [Oper.looksAt, hg, ht])
  unfold treeD
  rw [h2, valD_congr o h1]
def swapK : Kd → Kd → Bool
  | .v, _ => true
  | _, .v => true
  | .n, .c => true
  | .c, .n => true
  | .n, .n => true
  | _, _ => false
theorem lentBs_fresh {d : Nat} {B : Blk} {ns : List Nat} (h : ∀ n ∈ ns, n ≠ d) : lentBs (fset own d B) ns = lentBs own ns :=
  mapO_congr fun n hn => by rw [fset_ne _ _ (h n hn)]
theorem all_congr {α : Type} {p q : α → Bool} : ∀ {l : List α}, (∀ x ∈ l, p x = q x) → l.all p = l.all q
  | [], _ => rfl
  | a :: l, h => by simp only [List.all_cons, h a (List.mem_cons_self ..), all_congr fun x hx => h x (List.mem_cons_of_mem _ hx)]
theorem lentOk_fresh {d : Nat} {B : Blk} {ns : List Nat} {us : List U} (h : ∀ n ∈ ns, n ≠ d) : lentOk (fset own d B) ns us = lentOk own ns us := by
  unfold lentOk
  rw [all_congr (l := ns) fun n hn => by rw [fset_ne _ _ (h n hn)]]
theorem opKD_fresh {d : Nat} {B : Blk} {o : Oper} (h : D.own0 d = none) (hle : d ≤ 49999) : opKD S D env (fset own d B) o = opKD S D env own o := by
  unfold opKD
  split
  · split
    · split
      · rfl
      · split
        · unfold opKDf
          rw [forceN_eq, forceN_eq]
          cases hb : ((lentN D.own0 _).all fun n => memN D.W n && liveN D.own0 n) with
          | false => rfl
          | true =>
            have hne : ∀ n ∈ lentN D.own0 _, n ≠ d := fun n hn e => by
              have := List.all_eq_true.1 hb n hn
              simp only [Bool.and_eq_true] at this
              rw [e, liveN, h] at this
              cases this.2
            have hno : noneN D.own0 (fset own d B) (freshN (o.dst.getD 0) 0) = noneN D.own0 own (freshN (o.dst.getD 0) 0) := by
              unfold noneN
              rw [fset_ne _ _ (by unfold freshN; omega)]
            rw [lentOk_fresh hne, lentBs_fresh hne, hno]
        · rfl
      · rfl
    · rfl
  · rfl
/-- what another's effect leaves of this one -/
theorem tree_own {o oj : Oper} {e : Eff} (h00 : Dj.own0 = D.own0) (hs : swapK (kindO oj) (kindO o) = true) (he : EffOk Dj oj e) (hd : ∀ d, oj.dst = some d → o.dst ≠ some d) : treeD S D ops.toList o env (app own e) = treeD S D ops.toList o env own := by
  have hv : valD S D o env (app own e) = valD S D o env own := by
    unfold EffOk at he
    rw [h00] at he
    cases hj : kindO oj with
    | v => rw [hj] at he; simp only at he; subst he; rfl
    | n =>
      rw [hj] at he
      simp only at he
      rcases he with rfl | ⟨d, B, h1, hle, h2, rfl⟩
      · rfl
      · cases ho : kindO o with
        | v => unfold valD; rw [ho]
        | n =>
          unfold valD
          rw [ho]
          simp only
          split
          · rename_i d' hd'
            have : d' ≠ d := fun e => hd d h1 (by rw [hd', e])
            simp only [app, fset_ne _ _ this]
          · rfl
        | c => unfold valD; rw [ho]; simp only [app, opKD_fresh h2 hle]
        | s => rw [hj, ho] at hs; cases hs
    | c =>
      rw [hj] at he
      cases ho : kindO o with
      | v => unfold valD; rw [ho]
      | n =>
        unfold valD
        rw [ho]
        simp only
        split
        · rename_i d' hd'
          cases hle : d'.ble 49999 with
          | false => rfl
          | true =>
          have hle := Nat.le_of_ble_eq_true hle
          cases h0 : D.own0 d' with
          | some _ => rfl
          | none =>
            have : app own e d' = own d' := by
              simp only at he
              rcases he with he | ⟨d, B, _, _, rfl⟩
              case inr => exact fset_ne _ _ (by unfold freshN; omega)
              have : ∀ (e : Eff) (own : Own), (∀ p ∈ e, p.1 ≠ d') → app own e d' = own d' := by
                intro e
                induction e with
                | nil => intro own _; rfl
                | cons p e ih =>
                  intro own hp
                  obtain ⟨n, B⟩ := p
                  rw [app, ih _ fun p hp' => hp p (List.mem_cons_of_mem _ hp'), fset_ne _ _ (Ne.symm (hp (n, B) (List.mem_cons_self ..)))]
              exact this e own fun p hp e1 => (he p hp).2 (by rw [e1, h0])
            rw [this]
        · rfl
      | c => rw [hj, ho] at hs; cases hs
      | s => rw [hj, ho] at hs; cases hs
    | s =>
      rw [hj] at hs
      cases ho : kindO o with
      | v => unfold valD; rw [ho]
      | _ => rw [ho] at hs; cases hs
  unfold treeD
  rw [hv]
theorem app_comm {oj oi : Oper} {ej ei : Eff} (h00 : Dj.own0 = Di.own0) (hs : swapK (kindO oj) (kindO oi) = true) (hj : EffOk Dj oj ej) (hi : EffOk Di oi ei) (hd : ∀ d, oj.dst = some d → oi.dst ≠ some d) : app (app own ej) ei = app (app own ei) ej := by
  have one : ∀ (e : Eff) (own : Own) (d : Nat) (B : Blk), (∀ p ∈ e, p.1 ≠ d) → app (fset own d B) e = fset (app own e) d B := by
    intro e
    induction e with
    | nil => intro own d B _; rfl
    | cons p e ih =>
      intro own d B hp
      obtain ⟨n, B'⟩ := p
      have hn : n ≠ d := hp (n, B') (List.mem_cons_self ..)
      rw [app, app, ← ih _ _ _ fun p hp' => hp p (List.mem_cons_of_mem _ hp'), fset_comm _ _ _ (Ne.symm hn)]
  unfold EffOk at hj hi
  rw [h00] at hj
  cases kj : kindO oj with
  | v => rw [kj] at hj; simp only at hj; subst hj; rfl
  | n =>
    rw [kj] at hj
    simp only at hj
    rcases hj with rfl | ⟨d, B, h1, hle, h2, rfl⟩
    · rfl
    · cases ki : kindO oi with
      | v => rw [ki] at hi; simp only at hi; subst hi; rfl
      | n =>
        rw [ki] at hi
        simp only at hi
        rcases hi with rfl | ⟨d', B', h3, _, h4, rfl⟩
        · rfl
        · exact fset_comm _ _ _ fun e => hd d h1 (by rw [h3, e])
      | c =>
        rw [ki] at hi
        rcases hi with hi | ⟨d', B', _, _, rfl⟩
        · exact one ei own d B fun p hp e => (hi p hp).2 (by rw [e, h2])
        · exact fset_comm _ _ _ (Nat.ne_of_lt (Nat.lt_of_le_of_lt hle (show (49999 : Nat) < 100000 * (0 + 1) + d' from Nat.lt_of_lt_of_le (by decide) (Nat.le_add_right _ _))))
      | s => rw [kj, ki] at hs; cases hs
  | c =>
    rw [kj] at hj
    cases ki : kindO oi with
    | v => rw [ki] at hi; simp only at hi; subst hi; rfl
    | n =>
      rw [ki] at hi
      simp only at hi
      rcases hi with rfl | ⟨d', B', h3, hle, h4, rfl⟩
      · rfl
      · rcases hj with hj | ⟨d, B, _, _, rfl⟩
        · exact (one ej own d' B' fun p hp e => (hj p hp).2 (by rw [e, h4])).symm
        · exact fset_comm _ _ _ (Nat.ne_of_gt (Nat.lt_of_le_of_lt hle (show (49999 : Nat) < 100000 * (0 + 1) + d from Nat.lt_of_lt_of_le (by decide) (Nat.le_add_right _ _))))
    | c => rw [kj, ki] at hs; cases hs
    | s => rw [kj, ki] at hs; cases hs
  | s =>
    rw [kj] at hs
    cases ki : kindO oi with
    | v => rw [ki] at hi; simp only at hi; subst hi; rfl
    | _ => rw [ki] at hs; cases hs
theorem swapK_comm (a b : Kd) : swapK a b = swapK b a := by cases a <;> cases b <;> rfl
theorem onSet_iff {dst : Option Tmp} {sv : SV} {K : Env → Prop} : onSet nt env dst sv K ↔ (∀ d, dst = some d → d + 1 ≤ nt) ∧ K (setD env dst sv) := by
  unfold onSet setD
  cases dst with
  | none => simp
  | some d =>
    simp only [SV.see_eq]
    split
    · rename_i hb
      have := Nat.le_of_ble_eq_true hb
      exact ⟨fun h => ⟨fun d' e => by obtain rfl := Option.some.inj e; exact this, h⟩, fun h => h.2⟩
    · rename_i hb
      refine ⟨fun h => h.elim, fun h => ?_⟩
      have := Nat.ble_eq_true_of_le (h.1 d rfl)
      rw [hb] at this
      cases this
theorem setD_comm {dj di : Option Tmp} {x y : SV} (h : ∀ d, dj = some d → di ≠ some d) : setD (setD env dj x) di y = setD (setD env di y) dj x := by
  cases dj with
  | none => rfl
  | some a =>
    cases di with
    | none => rfl
    | some b => exact fset_comm _ _ _ fun e => h a rfl (by rw [e])
def indepB (ops : Array Oper) (a b : Oper) : Bool := swapK (kindO a) (kindO b) && a.apart ops b
end
section
variable {S : Pr} {nt : Nat} {D : DD} {ops : Array Oper} {env env' : Env} {own : Own}
theorem stepT_swap {i j : Nat} {oi oj : Oper} (hi : ops[i]? = some oi) (hj : ops[j]? = some oj) (hind : indepB ops oj oi = true) {K : Env → Own → Prop}
    (h : stepT S nt D ops.toList j (fun e w => stepT S nt D ops.toList i K e w) env own) : stepT S nt D ops.toList i (fun e w => stepT S nt D ops.toList j K e w) env own := by
  simp only [indepB, Bool.and_eq_true] at hind
  obtain ⟨a1, a2, a3⟩ := Oper.apart_spec hind.2
  have gi : ops.toList[i]? = some oi := by simpa using hi
  have gj : ops.toList[j]? = some oj := by simpa using hj
  simp only [stepT, gi, gj, onSet_iff] at h ⊢
  have h1 := tree_leaf (S := S) (D := D.at j) (all := ops.toList) (env := env) (own := own) oj _ h
  have h2 : (treeD S (D.at j) ops.toList oj env own).wp fun x => (treeD S (D.at i) ops.toList oi env own).wp fun y => EffOk (D.at j) oj x.2 ∧ EffOk (D.at i) oi y.2 ∧ (∀ d, oj.dst = some d → d + 1 ≤ nt) ∧ (∀ d, oi.dst = some d → d + 1 ≤ nt) ∧ K (setD (setD env oj.dst x.1) oi.dst y.1) (app (app own x.2) y.2) := by
    refine Out.wp_mono _ (fun x hx => ?_) h1
    obtain ⟨e1, e2, e3⟩ := hx
    rw [tree_env a1, tree_own (D := D.at i) (Dj := D.at j) rfl hind.1 e1 a2] at e3
    refine Out.wp_mono _ (fun y hy => ?_) (tree_leaf _ _ e3)
    exact ⟨e1, hy.1, e2, hy.2.1, hy.2.2⟩
  have h3 := Out.swap _ _ h2
  refine Out.wp_mono _ (fun y hy => ?_) (tree_leaf _ _ h3)
  obtain ⟨f1, f2⟩ := hy
  obtain ⟨_, g⟩ := Out.wp_some _ f2
  refine ⟨g.2.2.2.1, ?_⟩
  rw [tree_env a3, tree_own (D := D.at j) (Dj := D.at i) rfl (by rw [swapK_comm]; exact hind.1) f1 fun d hd he => a2 d he hd]
  refine Out.wp_mono _ (fun x hx => ⟨hx.2.2.1, ?_⟩) f2
  rw [setD_comm fun d hd he => a2 d he hd, app_comm (Dj := D.at i) (Di := D.at j) rfl (by rw [swapK_comm]; exact hind.1) f1 hx.1 fun d hd he => a2 d he hd]
  exact hx.2.2.2.2
/-- one that is apart from all before it may go first -/
theorem runT_front {i : Nat} {oi : Oper} (hi : ops[i]? = some oi) {l2 : List Nat} {N : Env → Own → Prop} : ∀ {l1 : List Nat} {env : Env} {own : Own}, (∀ j ∈ l1, ∃ oj, ops[j]? = some oj ∧ indepB ops oj oi = true) →
    runT S nt D ops.toList (l1 ++ i :: l2) env own N → runT S nt D ops.toList (i :: (l1 ++ l2)) env own N
  | [], env, own, _, h => h
  | j :: l1, env, own, hl, h => by
    obtain ⟨oj, hj, hind⟩ := hl j (List.mem_cons_self ..)
    have h1 : stepT S nt D ops.toList j (fun e o => runT S nt D ops.toList (i :: (l1 ++ l2)) e o N) env own :=
      stepT_mono (fun e o he => runT_front hi (fun j hj => hl j (List.mem_cons_of_mem _ hj)) he) h
    exact stepT_swap hi hj hind h1
end
end Sx
/-! One operation of a region that draws, run. -/
namespace Sx
open Go
set_option linter.unusedVariables false
set_option linter.unusedSimpArgs false
section
variable {S : Pr} {E : Ctx} {β : Nat → Option Nat} {env : Env} {own : Own} {a : Act} {w : World} {D : DC}
theorem opS_leaf {o : Oper} : (opS S env own o).leaf fun own' => ∃ n B, storeN env o = some n ∧ own' = fset own n B := by
  unfold opS
  split
  · rename_i t x y ho
    split
    · rename_i n off u sz h0 _ _
      split
      · refine leaf_cond (by rw [seeL_eq]; exact leaf_ret ⟨n, _, by simp only [storeN, ho, h0], rfl⟩) leaf_fail
      · exact leaf_fail
    · rename_i n i off u sz h0 _ _
      split
      · split
        · split
          · refine leaf_cond (leaf_ret ⟨n, _, ?_, rfl⟩) leaf_fail
            simp only [storeN, ho, h0]
          · exact leaf_fail
        · split
          · refine leaf_cond (leaf_ret ⟨n, _, ?_, rfl⟩) leaf_fail
            simp only [storeN, ho, h0]
          · exact leaf_fail
        · exact leaf_fail
      · exact leaf_fail
    · exact leaf_fail
  · exact leaf_fail
theorem DenC.live {T : Tab} {A : Nat → Prop} {c : C} {v : Value} (h : DenC T w β A own c v) {n : Nat} (hn : c.ref = some n) : own n ≠ none := by
  cases c with
  | p m o => obtain ⟨b, t, l, h1, _⟩ := h; obtain rfl := Option.some.inj hn; simp [h1]
  | r m o => obtain ⟨x, h1, _⟩ := h; obtain rfl := Option.some.inj hn; simp [h1]
  | q m i o => obtain ⟨t, x, b, h1, _⟩ := h; obtain rfl := Option.some.inj hn; simp [h1]
  | m m o => obtain ⟨l, b, h1, _⟩ := h; obtain rfl := Option.some.inj hn; simp [h1]
  | _ => cases hn
theorem C.clean_id {live : Own} {c : C} (h : ∀ n, c.ref = some n → live n ≠ none) : c.clean live = c := by
  unfold C.clean
  split
  · rfl
  · rename_i n hn
    have := h n hn
    split
    · rfl
    · rename_i h0; exact absurd h0 this
theorem cells_clean_id {live : Own} : ∀ {l : List C}, (∀ c ∈ l, ∀ n, c.ref = some n → live n ≠ none) → l.map (C.clean live) = l
  | [], _ => rfl
  | c :: l, h => by simp only [List.map_cons, C.clean_id (h c (List.mem_cons_self ..)), cells_clean_id fun c hc => h c (List.mem_cons_of_mem _ hc)]
theorem all2_live {T : Tab} {A : Nat → Prop} : ∀ {l : List C} {vs : List Value}, All2 (DenC T w β A own) l vs → ∀ c ∈ l, ∀ n, c.ref = some n → own n ≠ none
  | [], _, _, c, hc => by cases hc
  | x :: l, [], h, _, _ => h.elim
  | x :: l, v :: vs, h, c, hc => by
    rcases List.mem_cons.1 hc with rfl | hc
    · exact fun n hn => h.1.live hn
    · exact all2_live h.2 c hc
theorem U.clean_id {live : Own} {u : U} (h : ∀ c ∈ u.cells, ∀ n, c.ref = some n → live n ≠ none) : u.clean live = u := by
  cases u with
  | c x => simp only [U.clean, C.clean_id (h x (by simp [U.cells]))]
  | a l => exact congrArg U.a (cells_clean_id h)
theorem DenU.live {T : Tab} {A : Nat → Prop} {u : U} {v : Value} (h : DenU T w β A own u v) : ∀ c ∈ u.cells, ∀ n, c.ref = some n → own n ≠ none := by
  cases u with
  | c x => intro c hc n hn; simp only [U.cells, List.mem_cons, List.not_mem_nil, or_false] at hc; subst hc; exact DenC.live h hn
  | a l => obtain ⟨cs, _, e2⟩ := h; exact all2_live e2
theorem SV.clean_id {T : Tab} {A : Nat → Prop} {live : Own} {sv : SV} {v : Value} (h : DenS T w β A own sv v) (hl : ∀ n, own n ≠ none → live n ≠ none) : sv.clean live = sv := by
  cases sv with
  | u x => simp only [SV.clean, U.clean_id fun c hc n hn => hl n (DenU.live h c hc n hn)]
  | t l =>
    obtain ⟨vs, _, e2⟩ := h
    have : ∀ {l : List U} {vs : List Value}, All2 (DenU T w β A own) l vs → l.map (U.clean live) = l := by
      intro l
      induction l with
      | nil => intro vs _; rfl
      | cons u l ih =>
        intro vs e2
        cases vs with
        | nil => exact e2.elim
        | cons v vs => rw [List.map_cons, U.clean_id fun c hc n hn => hl n (DenU.live e2.1 c hc n hn), ih e2.2]
    exact congrArg SV.t (this e2)
theorem mapO_id {l : List (Option Blk)} {Bs : List Blk} (h : mapO id l = some Bs) : l = Bs.map some := by
  induction l generalizing Bs with
  | nil => simp only [mapO, Option.some.injEq] at h; subst h; rfl
  | cons a l ih =>
    simp only [mapO, id] at h
    split at h
    · rename_i b
      split at h
      · rename_i l' hl'
        obtain rfl := Option.some.inj h
        rw [ih hl', List.map_cons]
      · cases h
    · cases h
theorem app_zip : ∀ {ns : List Nat} {Bs : List Blk} {own : Own} {n : Nat}, nodupN ns = true → ns.length = Bs.length → app own (zipB ns Bs) n = match posN ns n with | some i => Bs[i]? | none => own n
  | [], Bs, own, n, _, _ => by cases Bs <;> rfl
  | m :: ns, [], own, n, _, hl => by simp at hl
  | m :: ns, B :: Bs, own, n, hd, hl => by
    simp only [nodupN, Bool.and_eq_true, Bool.not_eq_true'] at hd
    rw [zipB, app, app_zip hd.2 (by simpa using hl)]
    simp only [posN]
    by_cases e : n = m
    · subst e
      have : posN ns n = none := by
        cases hp : posN ns n with
        | none => rfl
        | some i => have := mem_of_pos hp; rw [this] at hd; cases hd.1
      simp only [this, beqs, cond_true, fset_same, List.getElem?_cons_zero]
    · simp only [beqn e, cond_false]
      cases hp : posN ns n with
      | none => simp only [fset_ne _ _ e]
      | some i => simp only [List.getElem?_cons_succ]
theorem idxs_mem {k n : Nat} (h : memN (idxs k) n = true) : ∃ i, i < k ∧ n = 50000 + i := by
  have : ∀ l : List Nat, memN l n = true → n ∈ l := by
    intro l
    induction l with
    | nil => intro h; cases h
    | cons a l ih =>
      intro h
      simp only [memN] at h
      cases hb : n.beq a with
      | true => exact List.mem_cons.2 (.inl (Nat.eq_of_beq_eq_true hb))
      | false => rw [hb] at h; exact List.mem_cons_of_mem _ (ih h)
  have := this _ h
  simp only [idxs, List.mem_map, List.mem_range] at this
  obtain ⟨i, h1, h2⟩ := this
  exact ⟨i, h1, h2.symm⟩
theorem fset_read {own : Own} {n : Nat} {B B' : Blk} (h : fset own n B n = some B') : B = B' := by rw [fset_same] at h; exact Option.some.inj h
variable {G : Glob} (hT : TOk S.P S.tt) (hS : AllSound S G) (h : Rel E β env own a w) (hET : E.T = S.T) (hEG : E.G = G) (hlow : ∀ n, n < 50000 → E.own0 n = none) (hhi : ∀ n, 100000 ≤ n → E.own0 n = none)
include h in
/-- what is live stays as it is -/
theorem rel_clean {own2 : Own} {β2 : Nat → Option Nat} {a' : Act} {w' : World} {e : Eff} {ns : List Nat} {Bs : List Blk} (he : own2 = app own (zipB ns Bs)) (hd : nodupN ns = true) (hl : ns.length = Bs.length) (hlive : ∀ n ∈ ns, own n ≠ none) (hB : ∀ B ∈ Bs, ∀ t l, B = .cells t l → ∀ c ∈ l, ∀ n, c.ref = some n → memN ns n = true) :
    envC env own2 = env ∧ ownC own2 own2 = own2 := by
  have mem : ∀ {n i}, posN ns n = some i → n ∈ ns := fun hp => List.mem_of_getElem? (posN_get hp)
  have live : ∀ n, own n ≠ none → own2 n ≠ none := by
    intro n hn
    rw [he, app_zip hd hl]
    split
    · rename_i i hp
      have : i < Bs.length := by rw [← hl]; exact (List.getElem?_eq_some_iff.1 (posN_get hp)).1
      simp [this]
    · exact hn
  refine ⟨?_, ?_⟩
  · funext n
    unfold envC
    split
    · rename_i sv hsv
      rw [hsv, SV.clean_id (h.vals n sv hsv) live]
    · rename_i hsv; exact hsv.symm
  · funext n
    unfold ownC
    split
    · rename_i B hB2
      have hc : B.clean own2 = B := by
        cases B with
        | cells t l =>
          have : ∀ c ∈ l, ∀ m, c.ref = some m → own2 m ≠ none := by
            have hB3 := hB2
            rw [he, app_zip hd hl] at hB3
            split at hB3
            · rename_i i hp
              intro c hc m hm
              have := hB _ (List.mem_of_getElem? hB3) t l rfl c hc m hm
              obtain ⟨k, hk⟩ := posN_mem this
              exact live m (hlive m (mem hk))
            · obtain ⟨b, cs, _, _, h3⟩ := h.blks.blk n _ hB3
              exact fun c hc m hm => live m (all2_live h3 c hc m hm)
          simp only [Blk.clean, cells_clean_id this]
        | row t x => rfl
        | map t l => rfl
      rw [hB2, hc]
    · rename_i hB2; exact hB2.symm
include h in
theorem rel_clean1 {own2 : Own} {m : Nat} {t : TypeId} {y : Sx.D} (he : own2 = fset own m (.row t y)) : envC env own2 = env ∧ ownC own2 own2 = own2 := by
  have live : ∀ n, own n ≠ none → own2 n ≠ none := by
    intro n hn
    rw [he]
    by_cases e : n = m
    · subst e; rw [fset_same]; simp
    · rw [fset_ne _ _ e]; exact hn
  refine ⟨?_, ?_⟩
  · funext n
    unfold envC
    split
    · rename_i sv hsv
      rw [hsv, SV.clean_id (h.vals n sv hsv) live]
    · rename_i hsv; exact hsv.symm
  · funext n
    unfold ownC
    split
    · rename_i B hB2
      have hc : B.clean own2 = B := by
        cases B with
        | cells t l =>
          have : ∀ c ∈ l, ∀ m, c.ref = some m → own2 m ≠ none := by
            have hB3 := hB2
            rw [he] at hB3
            by_cases e : n = m
            · subst e; rw [fset_same] at hB3; cases hB3
            · rw [fset_ne _ _ e] at hB3
              obtain ⟨b, cs, _, _, h3⟩ := h.blks.blk n _ hB3
              exact fun c hc m hm => live m (all2_live h3 c hc m hm)
          simp only [Blk.clean, cells_clean_id this]
        | row t x => rfl
        | map t l => rfl
      rw [hB2, hc]
    · rename_i hB2; exact hB2.symm
theorem own3_one {own : Own} {d : Nat} {t : TypeId} {y : Sx.D} (hd : d < 100000) : own3 own [] d [] [.row t y] = fset own (freshN d 0) (.row t y) := by
  funext n
  unfold own3
  simp only [posN]
  by_cases e : n = freshN d 0
  · subst e
    rw [unfresh_fresh hd, fset_same]
    rfl
  · rw [fset_ne _ _ e]
    unfold unfresh
    split
    · rename_i j hj
      cases hb : (Nat.ble 100000 n && (n % 100000).beq d) with
      | false => rw [hb] at hj; cases hj
      | true =>
        rw [hb] at hj
        simp only [cond_true, Option.some.injEq] at hj
        simp only [Bool.and_eq_true] at hb
        have h1 := Nat.le_of_ble_eq_true hb.1
        have h2 := Nat.eq_of_beq_eq_true hb.2
        have : j ≠ 0 := by
          intro h0
          refine e ?_
          unfold freshN
          omega
        cases j with
        | zero => exact absurd rfl this
        | succ j => rfl
    · rfl
include hT hS h hET hEG hlow hhi in
theorem valD_sound {o : Oper} {K : SV × Eff → Prop} (hs : ∀ n B, D.snap n = some B → own n = some B) (hk : (valD S D o env own).wp K) {next : Act → World → Prop} {Q : Exit → Act → World → Prop}
    (hn : ∀ sv e β' v w', K (sv, e) → Rel E β' env (app own e) a w' → DenS E.T w' β' (Av E.X β' (app own e)) (app own e) sv v → next (a.put o.dst v) w') : o.wp S.P a w next Q := by
  unfold valD at hk
  split at hk
  · rw [Out.wp_bind] at hk
    obtain ⟨sv, v, w', e1, e2, e3, e4⟩ := opV_sound hT h hs hET hk
    exact wp_of_value e2 (hn sv [] β v w' e1 (h.idle e3) e4)
  · split at hk
    · rename_i d hd
      obtain ⟨hb, hk1⟩ := wp_cond_fail hk
      have hb := Nat.le_of_ble_eq_true hb
      split at hk1
      · rename_i hown0 hown
        rw [Out.wp_bind] at hk1
        obtain ⟨c, B, v, w', β', e1, e2, e3, e4⟩ := opN_sound hT h hs hET hown (hlow d (by omega)) hk1
        exact wp_of_value e2 (hn _ [(d, B)] β' v w' e1 e3 e4)
      · exact hk1.elim
    · exact hk.elim
  · unfold opKD at hk
    split at hk
    · rename_i cal args ts ho
      split at hk
      · rename_i f hf
        split at hk
        · rename_i g us h1 h2
          obtain ⟨he, hsf⟩ := hS f _ h1
          have hrun := enter_run (w := w) he ho (callee_eval h hf)
          have hu := evs_den h h2
          obtain ⟨hno, hk1⟩ := wp_cond_fail hk
          rw [Out.wp_bind] at hk1
          have st : Stay w (Av E.X β own) w (Av E.X β own) := ⟨Nat.le_refl _, fun _ _ hb => ⟨rfl, hb⟩⟩
          have hu2 := denUs_free (β' := fun _ => none) (own' := fun _ => none) st hno hu
          have hold : ∀ b, Av E.X β own b → b < w.heap.size := by
            rintro b (hx | ⟨n, h3, h4⟩)
            · have := h.xold b hx; have := h.frame.size; omega
            · exact (h.blks.loc n b h3 h4).1
          rw [hET] at hu2
          have hc := hsf (fun r => K (r, [])) us (Av E.X β own) w _ hk1 (by rw [← hEG]; exact h.glob) hold hu2
          have hargs : (args.map a.eval) = (args.toList.map a.eval).toArray := by apply Array.ext'; simp
          unfold Oper.wp
          rw [hrun, Oper.upon_enter, hargs]
          refine hc.mono fun e w' ⟨r, v, e1, e2, e3, e4⟩ => ?_
          subst e1
          have hR2 := h.idle e4
          refine hn r [] β v w' e2 hR2 ?_
          rw [← hET] at e3
          exact e3.anywhere ⟨Nat.le_refl _, fun _ _ hb => ⟨rfl, hb⟩⟩
        · rename_i g us h1 h2
          obtain ⟨he, hsf⟩ := hS f _ h1
          have hrun := enter_run (w := w) he ho (callee_eval h hf)
          have hu := evs_den h h2
          split at hk
          · generalize lentN D.own0 us = ns at hk
            unfold opKDf at hk
            rw [forceN_eq] at hk
            obtain ⟨hb, hk1⟩ := wp_cond_fail hk
            simp only [Bool.and_eq_true] at hb
            split at hk1
            · rename_i lent hl
              have hll : lent.length = ns.length := mapO_len hl
              refine kf_sound hET hEG hhi hsf hrun h (by simpa using hu) (d := o.dst.getD 0) (ns := ns) (K := fun x => ∃ e, K (x.1, e) ∧ x.2.1 = env ∧ x.2.2 = app own e) ?_ ?_
              · unfold opKf
                rw [forceN_eq, hl]
                simp only [hb.1.2, hb.2, Bool.and_self, cond_true]
                rw [Out.wp_bind] at hk1 ⊢
                refine Out.wp_mono _ (fun x hx => ?_) hk1
                obtain ⟨r, outs, news⟩ := x
                simp only at hx
                split at hx
                · rename_i Bs hBs
                  obtain ⟨hb2, hk2⟩ := wp_cond_fail hx
                  simp only [Bool.and_eq_true] at hb2
                  have hlen := Nat.eq_of_beq_eq_true hb2.1
                  have ho := mapO_id hBs
                  have hnd : nodupN ns = true := by have := hb.1.2; simp only [lentOk, Bool.and_eq_true] at this; exact this.1.1.1
                  have hns : ns.length ≤ 10000 := by have := hb.1.2; simp only [lentOk, Bool.and_eq_true] at this; exact Nat.le_of_ble_eq_true this.2
                  have hlive : ∀ n ∈ ns, own n ≠ none := by
                    intro n hn
                    have := hb.1.2
                    simp only [lentOk, Bool.and_eq_true] at this
                    have := List.all_eq_true.1 this.1.2 n hn
                    intro h0
                    rw [h0] at this
                    cases this
                  subst ho
                  have e3 : own3 own ns (o.dst.getD 0) (Bs.map some) [] = app own (zipB ns (Bs.map (Blk.ren (nameOut ns (o.dst.getD 0))))) := by
                    funext n
                    rw [app_zip hnd (by simp [hlen, hll])]
                    cases hp : posN ns n with
                    | some i =>
                      simp only [own3, hp, outN, List.getElem?_map]
                      cases hBi : Bs[i]? <;> simp
                    | none =>
                      simp only [own3, hp]
                      split
                      · simp
                      · rfl
                  have hBref : ∀ B ∈ Bs.map (Blk.ren (nameOut ns (o.dst.getD 0))), ∀ t l, B = .cells t l → ∀ c ∈ l, ∀ n, c.ref = some n → memN ns n = true := by
                    intro B hB t l e c hc n hn
                    obtain ⟨B0, hB0, rfl⟩ := List.mem_map.1 hB
                    have hok := List.all_eq_true.1 hb2.2 B0 hB0
                    cases B0 with
                    | cells t0 l0 =>
                      simp only [Blk.ren, Blk.cells.injEq] at e
                      obtain ⟨_, rfl⟩ := e
                      obtain ⟨c0, hc0, rfl⟩ := List.mem_map.1 hc
                      have hok2 := List.all_eq_true.1 hok c0 hc0
                      have hren : ∃ m, c0.ref = some m ∧ n = nameOut ns (o.dst.getD 0) m := by
                        cases c0 <;> simp only [C.ren, C.ref, Option.some.injEq] at hn <;> first | exact ⟨_, rfl, hn.symm⟩ | cases hn
                      obtain ⟨m, hm, rfl⟩ := hren
                      unfold okRef at hok2
                      rw [hm] at hok2
                      obtain ⟨i, hi, rfl⟩ := idxs_mem hok2
                      have hi2 : i < ns.length := by omega
                      have : Nat.ble 60000 (50000 + i) = false := by
                        cases hq : Nat.ble 60000 (50000 + i) with
                        | false => rfl
                        | true => have := Nat.le_of_ble_eq_true hq; omega
                      unfold nameOut
                      rw [this]
                      simp only [cond_false, Nat.add_sub_cancel_left]
                      refine memN_of_get (i := i) ?_
                      simp [hi2]
                    | row _ _ => cases e
                    | map _ _ => cases e
                  obtain ⟨q1, q2⟩ := rel_clean h (own2 := own3 own ns (o.dst.getD 0) (Bs.map some) []) (β2 := β) (a' := a) (w' := w) (e := []) e3 hnd (by simp [hlen, hll]) hlive hBref
                  simp only [List.length_nil, freeN, List.length_map, hlen, beqs, Bool.and_self, cond_true]
                  exact ⟨_, hk2, q1, by rw [q2, e3]⟩
                · rename_i t y ho
                  obtain ⟨hb2, hk2⟩ := wp_cond_fail hx
                  simp only [Bool.and_eq_true] at hb2
                  have hl0 := Nat.eq_of_beq_eq_true hb2.1
                  have hns0 : ns = [] := List.length_eq_zero_iff.1 (by omega)
                  have ho := mapO_id ho
                  simp only [List.map_nil] at ho
                  subst ho hns0
                  have hdle := Nat.le_of_ble_eq_true hb.2
                  have hno : own (freshN (o.dst.getD 0) 0) = none := by
                    have := hb2.2
                    unfold noneN at this
                    split at this
                    · assumption
                    · cases this
                  split at hk2
                  · rename_i d hd
                    rw [hd] at hk2 hno hdle ⊢
                    simp only [Option.getD_some] at hk2 hno hdle ⊢
                    have e3 := own3_one (own := own) (d := d) (t := t) (y := y) (by omega)
                    obtain ⟨q1, q2⟩ := rel_clean1 h (own2 := own3 own [] d [] [.row t y]) e3
                    simp only [List.length_cons, List.length_nil, Nat.zero_add, freeN, hno, hl0, beqs, Bool.and_self, cond_true]
                    exact ⟨_, hk2, q1, by rw [q2, e3]; rfl⟩
                  · exact hk2.elim
                · exact hx.elim
              · rintro sv env' own' β' v w' ⟨e, k1, rfl, rfl⟩ k2 k3
                exact hn sv e β' v w' k1 k2 k3
            · exact hk1.elim
          · exact hk.elim
        · exact hk.elim
      · exact hk.elim
    · exact hk.elim
  · split at hk
    · rename_i n hst
      obtain ⟨hb, hk1⟩ := wp_cond_fail hk
      rw [Out.wp_bind] at hk1
      obtain ⟨own', w', ⟨⟨m, B, e0, e1⟩, e2⟩, e3, e4⟩ := opS_sound hT h hET (opS_leaf _ hk1)
      rw [hst] at e0
      obtain rfl := Option.some.inj e0
      split at e2
      · rename_i B' hB'
        rw [e1] at hB'
        obtain rfl := fset_read hB'
        unfold Oper.wp
        rw [e3, Oper.upon_skip]
        rw [e1] at e4
        exact hn _ _ β undef w' e2 e4 ⟨[], rfl, trivial⟩
      · exact e2.elim
    · exact hk.elim
end
end Sx
/-! Regions that draw, in whatever order. -/
namespace Sx
open Go
set_option linter.unusedVariables false
set_option linter.unusedSimpArgs false
def bindsO (o : Oper) : List Nat := o.after.toList.filterMap fun e => if Region.binds .any e then some e.on else none
def closeM (tbl : List Nat) : List Nat → Nat
  | [] => 0
  | j :: l => (1 <<< j) ||| (tbl.getD j 0 ||| closeM tbl l)
def bfs : List Oper → List Nat → List Nat
  | [], tbl => tbl
  | o :: r, tbl => bfs r (tbl ++ [closeM tbl (bindsO o)])
def subN (l m : List Nat) : Bool := l.all (memN m)
/-- what is touched by what does not come behind it is kept from it -/
def okEx (n : Nat) (tbl : List Nat) (W el : List (Nat × List Nat)) : Bool :=
  (List.range n).all fun i => match lookT el i with
    | some ex => W.all fun hw => (tbl.getD hw.1 0).testBit i || subN hw.2 ex
    | none => true
def okAt (ops : Array Oper) (tbl : List Nat) (i : Nat) : Bool := match ops[i]? with
  | some o => (bindsO o).all (fun j => Nat.ble (j + 1) i) && (List.range i).all (fun j => (tbl.getD i 0).testBit j || (match ops[j]? with | some oj => indepB ops oj o | none => false))
  | none => false
/-- the order of the text may stand for all -/
def drawOk (ops : Array Oper) (W el : List (Nat × List Nat)) : Bool := (List.range ops.size).all (okAt ops (bfs ops.toList [])) && okEx ops.size (bfs ops.toList []) W el
def frzL : List Nat → Env → Own → Option (Env × Own)
  | [], env, own => some (env, own)
  | n :: r, env, own => match own n with
    | some (.row _ x) => frzL r (env.frz n x) (own.frz n x)
    | _ => none
/-- operations in the order of the text -/
def runOps (S : Pr) (nt : Nat) (all : List Oper) : List Oper → Env → Own → (Env → Own → Prop) → Prop
  | [], env, own, N => N env own
  | o :: r, env, own, N => match guardOf all env o with
    | .run => (stepO S o env own).wp fun x => match x with | (sv, e1, o1) => onSet nt e1 o.dst sv fun env' => runOps S nt all r env' o1 N
    | .skip => onSet nt env o.dst (.t []) fun env' => runOps S nt all r env' own N
    | .ask t b want => Ask b fun c => match (bif want then c else !c) with
      | true => (stepO S o (fset env t (boolSV c)) own).wp fun x => match x with | (sv, e1, o1) => onSet nt e1 o.dst sv fun env' => runOps S nt all r env' o1 N
      | false => onSet nt (fset env t (boolSV c)) o.dst (.t []) fun env' => runOps S nt all r env' own N
    | .bad => False
/-- how far a region is drawn: what is behind waits for all before it, and runs in the order of the text -/
def tailAt : List Nat → Option Nat × List Nat
  | n :: r => match Nat.ble 200000 n with
    | true => (some (n - 200000), r)
    | false => (none, n :: r)
  | [] => (none, [])
def tailOk (ops : Array Oper) (tbl : List Nat) (k : Nat) : Bool := Nat.ble k ops.size && (List.range ops.size).all fun i => Nat.ble (i + 1) k || (List.range i).all fun j => (tbl.getD i 0).testBit j
def drawOkT (ops : Array Oper) (W el : List (Nat × List Nat)) (fz : List Nat) : Bool := drawOk ops W el && match (tailAt fz).1 with
  | none => true
  | some k => tailOk ops (bfs ops.toList []) k
def DrawVC (S : Pr) (nt : Nat) (ops : Array Oper) (env : Env) (own : Own) (N : Env → Own → Prop) : Prop :=
  S.P.follows .mixedOrders = true ∧ ∃ (W el : List (Nat × List Nat)) (fz : List Nat), drawOkT ops W el fz = true ∧ match tailAt fz with
    | (none, fz) => match frzL fz env own with
      | some (env1, own1) => runD S nt ⟨own1, W, el⟩ ops.toList 0 ops.toList env1 own1 N
      | none => False
    | (some k, fz) => match frzL fz env own with
      | some (env1, own1) => runD S nt ⟨own1, W, el⟩ ops.toList 0 (ops.toList.take k) env1 own1 fun e o => runOps S nt ops.toList (ops.toList.drop k) e o N
      | none => False
def Down (ops : Array Oper) (L : Nat → Prop) : Prop := ∀ k o, ops[k]? = some o → L k → ∀ e ∈ bindsO o, L e
def Rch (ops : Array Oper) (o : Oper) (j : Nat) : Prop := ∀ L, Down ops L → (∀ e ∈ bindsO o, L e) → L j
theorem closeM_bit {tbl : List Nat} : ∀ {l : List Nat} {j : Nat}, (closeM tbl l).testBit j = true → ∃ e ∈ l, j = e ∨ (tbl.getD e 0).testBit j = true
  | [], j, h => by simp [closeM] at h
  | e :: l, j, h => by
    simp only [closeM, Nat.testBit_or, Bool.or_eq_true] at h
    rcases h with h | h | h
    · refine ⟨e, List.mem_cons_self .., .inl ?_⟩
      rw [Nat.one_shiftLeft, Nat.testBit_two_pow] at h
      exact (of_decide_eq_true h).symm
    · exact ⟨e, List.mem_cons_self .., .inr h⟩
    · obtain ⟨e', h1, h2⟩ := closeM_bit h
      exact ⟨e', List.mem_cons_of_mem _ h1, h2⟩
def GoodT (ops : Array Oper) (tbl : List Nat) : Prop := ∀ (i m : Nat) (o : Oper), tbl[i]? = some m → ops[i]? = some o → ∀ j, m.testBit j = true → Rch ops o j
theorem bfs_good {ops : Array Oper} : ∀ {r : List Oper} {tbl : List Nat}, (∀ k o, r[k]? = some o → ops[tbl.length + k]? = some o) → (∀ k, k < tbl.length → ops[k]? ≠ none) → GoodT ops tbl → GoodT ops (bfs r tbl)
  | [], tbl, _, _, h => h
  | o :: r, tbl, h1, h3, h => by
    refine bfs_good (r := r) (fun k o' hk => ?_) (fun k hk => ?_) ?_
    · have := h1 (k + 1) o' (by simpa using hk)
      simp only [List.length_append, List.length_cons, List.length_nil]
      rwa [show tbl.length + (k + 1) = tbl.length + (0 + 1) + k by omega] at this
    · simp only [List.length_append, List.length_cons, List.length_nil] at hk
      by_cases e : k = tbl.length
      · subst e
        have := h1 0 o rfl
        simp only [Nat.add_zero] at this
        rw [this]
        simp
      · exact h3 k (by omega)
    · intro i m oi h4 h5 j hj
      by_cases hi : i < tbl.length
      · rw [List.getElem?_append_left hi] at h4
        exact h i m oi h4 h5 j hj
      · have hlen := (List.getElem?_eq_some_iff.1 h4).1
        simp only [List.length_append, List.length_cons, List.length_nil] at hlen
        have e : i = tbl.length := by omega
        subst e
        have hoi := h1 0 o rfl
        simp only [Nat.add_zero] at hoi
        rw [h5] at hoi
        obtain rfl := Option.some.inj hoi
        simp only [List.getElem?_concat_length, Option.some.injEq] at h4
        subst h4
        obtain ⟨e, he, hje⟩ := closeM_bit hj
        intro L hD hL
        rcases hje with rfl | hje
        · exact hL j he
        · cases hm : tbl[e]? with
          | none => simp [List.getD, hm] at hje
          | some m' =>
            have hje' : m'.testBit j = true := by simpa [List.getD, hm] using hje
            have hlt := (List.getElem?_eq_some_iff.1 hm).1
            cases hoe : ops[e]? with
            | none => exact absurd hoe (h3 e hlt)
            | some oe => exact h e m' oe hm hoe j hje' L hD (hD e oe hoe (hL e he))
theorem lookT_mem {α : Type} : ∀ {l : List (Nat × α)} {n : Nat} {v : α}, lookT l n = some v → (n, v) ∈ l
  | [], _, _, h => by simp [lookT] at h
  | (k, u) :: l, n, v, h => by
    simp only [lookT] at h
    cases hb : n.beq k with
    | true =>
      rw [hb] at h
      simp only [cond_true, Option.some.injEq] at h
      rw [Nat.eq_of_beq_eq_true hb, h]
      exact List.mem_cons_self ..
    | false =>
      rw [hb] at h
      exact List.mem_cons_of_mem _ (lookT_mem h)
theorem memN_mem {l : List Nat} {n : Nat} : memN l n = true ↔ n ∈ l := by
  induction l with
  | nil => simp [memN]
  | cons a l ih =>
    simp only [memN, List.mem_cons]
    cases hb : n.beq a with
    | true => simp [Nat.eq_of_beq_eq_true hb]
    | false =>
      simp only [cond_false]
      constructor
      · exact fun h => .inr (ih.1 h)
      · rintro (h | h)
        · subst h; simp at hb
        · exact ih.2 h
def remL (n : Nat) (listed : Array Bool) : List Nat := (List.range n).filter fun i => !listed.getD i true
theorem remL_split {n i : Nat} {listed : Array Bool} (hn : n ≤ listed.size) (hi : i < n) (hu : listed.getD i true = false) :
    ∃ l1 l2, remL n listed = l1 ++ i :: l2 ∧ remL n (listed.setIfInBounds i true) = l1 ++ l2 ∧ (∀ j ∈ l1, j < i ∧ listed.getD j true = false) := by
  have hr : List.range n = List.range i ++ i :: List.range' (i + 1) (n - i - 1) := by
    rw [show n = i + ((n - i - 1) + 1) by omega, List.range_eq_range', List.range_eq_range', ← List.range'_append_1, List.range'_succ]
    simp
  have hset : ∀ j, j ≠ i → (listed.setIfInBounds i true).getD j true = listed.getD j true := by
    intro j hj
    simp only [Array.getD_eq_getD_getElem?, Array.getElem?_setIfInBounds_ne (Ne.symm hj)]
  have hsi : (listed.setIfInBounds i true).getD i true = true := by
    have : i < listed.size := by omega
    simp [this]
  refine ⟨(List.range i).filter fun j => !listed.getD j true, (List.range' (i + 1) (n - i - 1)).filter fun j => !listed.getD j true, ?_, ?_, ?_⟩
  · unfold remL
    rw [hr, List.filter_append, List.filter_cons]
    simp only [hu, Bool.not_false, if_true]
  · unfold remL
    rw [hr, List.filter_append, List.filter_cons]
    simp only [hsi, Bool.not_true, Bool.false_eq_true, if_false]
    rw [List.filter_congr fun j hj => by rw [hset j (by have := List.mem_range.1 hj; omega)], List.filter_congr (l := List.range' _ _) fun j hj => by rw [hset j (by have := (List.mem_range'_1.1 hj).1; omega)]]
  · intro j hj
    simp only [List.mem_filter, List.mem_range, Bool.not_eq_true'] at hj
    exact hj
theorem mem_ready {ops : Array Oper} {listed : Array Bool} {i : Nat} : i ∈ Region.ready .any ops listed ↔ i < ops.size ∧ listed.getD i true = false ∧ ∃ o, ops[i]? = some o ∧ ∀ e ∈ bindsO o, listed.getD e false = true := by
  unfold Region.ready
  simp only [List.mem_filter, List.mem_range, Bool.and_eq_true, Bool.not_eq_true']
  refine and_congr_right fun hi => and_congr_right fun hu => ?_
  have ho : ops[i]? = some ops[i] := by simp [hi]
  rw [ho]
  simp only [Option.map_some, Option.getD_some, Array.all_eq_true', Option.some.injEq, exists_eq_left', bindsO, List.mem_filterMap]
  constructor
  · rintro h e ⟨ed, h1, h2⟩
    have := h ed (by simpa using h1)
    split at h2
    · rename_i hb
      obtain rfl := Option.some.inj h2
      simpa [hb] using this
    · cases h2
  · intro h ed hed
    cases hb : Region.binds .any ed with
    | false => simp
    | true => simpa [hb] using h ed.on ⟨ed, by simpa using hed, by simp [hb]⟩
section
variable {S : Pr} {E : Ctx} {D : DD} {ops : Array Oper}
variable {G : Glob} (hT : TOk S.P S.tt) (hS : AllSound S G) (hET : E.T = S.T) (hEG : E.G = G) (hlow : ∀ n, n < 50000 → E.own0 n = none) (hhi : ∀ n, 100000 ≤ n → E.own0 n = none)
theorem app_ne {own : Own} : ∀ {e : Eff} {own : Own} {n : Nat}, (∀ p ∈ e, p.1 ≠ n) → app own e n = own n
  | [], _, _, _ => rfl
  | (m, B) :: e, own, n, h => by
    rw [app, app_ne (own := own) fun p hp => h p (List.mem_cons_of_mem _ hp), fset_ne _ _ (Ne.symm (h (m, B) (List.mem_cons_self ..)))]
include hT hS hET hEG hlow hhi in
theorem step_op {β : Nat → Option Nat} {env : Env} {own : Own} {a : Act} {w : World} (h : Rel E β env own a w) {i : Nat} {o : Oper} (ho : ops[i]? = some o) (hs : ∀ n B, (D.at i).snap n = some B → own n = some B) {K : Env → Own → Prop} (hk : stepT S E.nt D ops.toList i K env own) {next : Act → World → Prop} {Q : Exit → Act → World → Prop}
    (hn : ∀ env' e β' a' w', EffOk (D.at i) o e → K env' (app own e) → Rel E β' env' (app own e) a' w' → next a' w') : wpOp S.P ops Q i next a w := by
  have ho' : ops.toList[i]? = some o := by simpa using ho
  unfold wpOp
  rw [ho]
  simp only
  simp only [stepT, ho'] at hk
  have hk := tree_leaf _ _ hk
  unfold treeD at hk
  have doit : (valD S (D.at i) o env own).wp (fun x => EffOk (D.at i) o x.2 ∧ onSet E.nt env o.dst x.1 fun env' => K env' (app own x.2)) → o.wp S.P a w next Q := by
    intro hk
    refine valD_sound hT hS h hET hEG hlow hhi hs hk fun sv e β' v w' k1 k2 k3 => ?_
    obtain ⟨env2, q1, q2⟩ := onSet_rel k2 k1.2 k3
    exact hn env2 e β' _ w' k1.1 q1 q2
  have skip : (EffOk (D.at i) o [] ∧ onSet E.nt env o.dst (.t []) fun env' => K env' own) → next (a.put o.dst undef) w := by
    intro hk
    obtain ⟨env2, q1, q2⟩ := onSet_rel h hk.2 den_undef
    exact hn env2 [] β _ w hk.1 q1 q2
  split at hk
  · rename_i hg
    rw [if_pos (wanted_run hg)]
    exact .inl (doit hk)
  · rename_i hg
    rw [if_neg (by rw [wanted_skip h hg]; simp)]
    exact skip hk
  · rename_i t b want hg
    obtain ⟨hw, ht⟩ := wanted_ask h hg
    cases hb : (bif want then b else !b) with
    | true =>
      rw [if_pos (by rw [hw]; exact hb)]
      rw [hb] at hk
      exact .inl (doit hk)
    | false =>
      rw [if_neg (by rw [hw, hb]; simp)]
      rw [hb] at hk
      exact skip hk
  · exact hk.elim
include hT hS hET hEG hlow hhi in
theorem draw_any (hok : drawOk ops D.W D.el = true) {kk : Nat} (hkk : kk ≤ ops.size) (htl : ∀ i, kk ≤ i → i < ops.size → ∀ j, j < i → ((bfs ops.toList []).getD i 0).testBit j = true) {N : Env → Own → Prop} {Q : Exit → Act → World → Prop} (hQ : ∀ fuel (listed : Array Bool) env own β a w, listed.size = ops.size → (∀ j, j < kk → listed.getD j false = true) → (∀ j, kk ≤ j → j < ops.size → listed.getD j true = false) → ops.size - kk ≤ fuel → N env own → Rel E β env own a w → wpAny S.P .any ops Q fuel listed a w) : ∀ (fuel : Nat) {listed : Array Bool} {β : Nat → Option Nat} {env : Env} {own : Own} {a : Act} {w : World},
    listed.size = ops.size → Down ops (fun i => listed.getD i false = true) → (∀ i, i < ops.size → listed.getD i true = false → ∀ n, D.own0 n ≠ none → memN (D.at i).ex n = false → own n = D.own0 n) →
    (∀ j, kk ≤ j → j < ops.size → listed.getD j true = false) → (remL kk listed).length + (ops.size - kk) ≤ fuel → Rel E β env own a w → runT S E.nt D ops.toList (remL kk listed) env own N → wpAny S.P .any ops Q fuel listed a w := by
  simp only [drawOk, Bool.and_eq_true] at hok
  have good : GoodT ops (bfs ops.toList []) := bfs_good (fun k o hk => by simpa using hk) (fun k hk => by simp at hk) (fun i m o h => by simp at h)
  have okI : ∀ i, i < ops.size → okAt ops (bfs ops.toList []) i = true := fun i hi => List.all_eq_true.1 hok.1 i (List.mem_range.2 hi)
  have gD : ∀ (listed : Array Bool) j, listed.size = ops.size → j < ops.size → listed.getD j true = listed.getD j false := by
    intro listed j hs hj
    have : j < listed.size := by omega
    simp [this]
  have rch : ∀ (listed : Array Bool), Down ops (fun i => listed.getD i false = true) → ∀ i o, ops[i]? = some o → (∀ e ∈ bindsO o, listed.getD e false = true) → ∀ j, ((bfs ops.toList []).getD i 0).testBit j = true → listed.getD j false = true := by
    intro listed hD i o ho hb j hj
    cases hm : (bfs ops.toList [])[i]? with
    | none => simp [List.getD, hm] at hj
    | some m => exact good i m o hm ho j (by simpa [List.getD, hm] using hj) _ hD hb
  -- as long as something is left, something is ready
  have some_ready : ∀ (listed : Array Bool), listed.size = ops.size → ∀ i, i < ops.size → listed.getD i true = false → (∀ j, j < i → listed.getD j false = true) → i ∈ Region.ready .any ops listed := by
    intro listed hs i hi hu hlt
    have ho : ops[i]? = some ops[i] := by simp [hi]
    refine mem_ready.2 ⟨hi, hu, ops[i], ho, fun e he => hlt e ?_⟩
    have := okI i hi
    simp only [okAt, ho, Bool.and_eq_true] at this
    have := List.all_eq_true.1 this.1 e he
    exact Nat.le_of_ble_eq_true this
  have all_of_nil : ∀ (listed : Array Bool), listed.size = ops.size → remL kk listed = [] → ∀ j, j < kk → listed.getD j false = true := by
    intro listed hs hr j hj
    unfold remL at hr
    rw [List.filter_eq_nil_iff] at hr
    have := hr j (List.mem_range.2 hj)
    rw [gD listed j hs (by omega)] at this
    simpa using this
  have nil_of_all : ∀ (listed : Array Bool), listed.size = ops.size → (∀ j, j < kk → listed.getD j false = true) → remL kk listed = [] := by
    intro listed hs hr
    unfold remL
    rw [List.filter_eq_nil_iff]
    intro j hj
    have hj := List.mem_range.1 hj
    rw [gD listed j hs (by omega), hr j hj]
    simp
  intro fuel
  induction fuel with
  | zero =>
    intro listed β env own a w hs hD ha htu hlen hR hrun
    have hnil : remL kk listed = [] := List.length_eq_zero_iff.1 (by omega)
    rw [hnil] at hrun
    exact hQ 0 listed _ _ _ _ _ hs (all_of_nil listed hs hnil) htu (by omega) hrun hR
  | succ fuel ih =>
    intro listed β env own a w hs hD ha htu hlen hR hrun
    by_cases hnil : remL kk listed = []
    · rw [hnil] at hrun
      exact hQ (fuel + 1) listed _ _ _ _ _ hs (all_of_nil listed hs hnil) htu (by rw [hnil] at hlen; simpa using hlen) hrun hR
    have below : ∀ i, i ∈ Region.ready .any ops listed → i < kk := by
      intro i hi
      obtain ⟨hlt, hu, o, ho, hb⟩ := mem_ready.1 hi
      by_cases c : i < kk
      · exact c
      · exact absurd (nil_of_all listed hs fun j hj => rch listed hD i o ho hb j (htl i (by omega) hlt j (by omega))) hnil
    refine ⟨fun hr => ?_, fun i hi => ?_⟩
    · refine absurd (nil_of_all listed hs ?_) hnil
      intro i
      induction i using Nat.strongRecOn with
      | _ i ih =>
        intro hi
        cases hq : listed.getD i false with
        | true => rfl
        | false =>
          have := some_ready listed hs i (by omega) (by rw [gD listed i hs (by omega)]; exact hq) fun j hj => ih j hj (by omega)
          rw [hr] at this
          cases this
    · obtain ⟨hlt, hu, o, ho, hb⟩ := mem_ready.1 hi
      have hkl := below i hi
      obtain ⟨l1, l2, e1, e2, e3⟩ := remL_split (n := kk) (by omega) hkl hu
      have hoki := okI i hlt
      simp only [okAt, ho, Bool.and_eq_true] at hoki
      rw [e1] at hrun
      have hfront := runT_front ho (l2 := l2) (l1 := l1) (fun j hj => by
        obtain ⟨h1, h2⟩ := e3 j hj
        have h3 := List.all_eq_true.1 hoki.2 j (List.mem_range.2 h1)
        simp only [Bool.or_eq_true] at h3
        rcases h3 with h3 | h3
        · have := rch listed hD i o ho hb j h3
          rw [← gD listed j hs (by omega), h2] at this
          cases this
        · split at h3
          · rename_i oj hj'
            exact ⟨oj, hj', h3⟩
          · cases h3) hrun
      have hsnap : ∀ n B, (D.at i).snap n = some B → own n = some B := by
        intro n B hB
        simp only [DC.snap] at hB
        cases hw : memN (D.at i).ex n with
        | true => rw [hw] at hB; cases hB
        | false =>
          rw [hw] at hB
          simp only [cond_false] at hB
          have hB : D.own0 n = some B := hB
          rw [ha i hlt hu n (by simp [hB]) hw]
          exact hB
      refine step_op hT hS hET hEG hlow hhi hR ho hsnap hfront fun env' e β' a' w' q1 q2 q3 => ?_
      have hs' : (listed.setIfInBounds i true).size = ops.size := by simpa using hs
      have gset : ∀ j, (listed.setIfInBounds i true).getD j false = true ↔ j = i ∨ listed.getD j false = true := by
        intro j
        by_cases e : j = i
        · subst e
          have : j < listed.size := by omega
          simp [this]
        · simp only [e, false_or, Array.getD_eq_getD_getElem?, Array.getElem?_setIfInBounds_ne (Ne.symm e)]
      refine ih hs' ?_ ?_ ?_ ?_ q3 ?_
      · intro k ok hk hL e he
        rcases (gset k).1 hL with rfl | hL
        · rw [ho] at hk
          obtain rfl := Option.some.inj hk
          exact (gset e).2 (.inr (hb e he))
        · exact (gset e).2 (.inr (hD k ok hk hL e he))
      · intro j hj huj n h0 hw
        have hne : j ≠ i := by
          rintro rfl
          have := (gset j).2 (.inl rfl)
          rw [← gD _ j hs' hj, huj] at this
          cases this
        have huj' : listed.getD j true = false := by
          simpa only [Array.getD_eq_getD_getElem?, Array.getElem?_setIfInBounds_ne (Ne.symm hne)] using huj
        rw [app_ne (own := own) (fun p hp => ?_), ha j hj huj' n h0 hw]
        intro hpn
        unfold EffOk at q1
        split at q1
        · subst q1; cases hp
        · rcases q1 with rfl | ⟨d, B, _, _, r2, rfl⟩
          · cases hp
          · simp only [List.mem_cons, List.not_mem_nil, or_false] at hp
            subst hp
            exact h0 (by rw [← hpn]; exact r2)
        all_goals
          have hin : memN (D.at i).W p.1 = true := by
            first
              | exact q1 p hp
              | (rcases q1 with q1 | ⟨d, B, _, r2, rfl⟩
                 · exact (q1 p hp).1
                 · simp only [List.mem_cons, List.not_mem_nil, or_false] at hp
                   subst hp
                   exact absurd (by rw [← hpn]; exact r2) h0)
          rw [hpn] at hin
          -- what this one touches is kept from the other
          have hWi : ∃ ws, lookT D.W i = some ws ∧ memN ws n = true := by
            simp only [DD.at] at hin
            cases hl : lookT D.W i with
            | none => rw [hl] at hin; cases hin
            | some ws => rw [hl] at hin; exact ⟨ws, rfl, hin⟩
          obtain ⟨ws, hl, hm⟩ := hWi
          have hmem := lookT_mem hl
          simp only [DD.at] at hw
          cases hx : lookT D.el j with
          | none =>
            rw [hx] at hw
            simp only [Option.getD_none] at hw
            have : memN (D.W.flatMap (·.2)) n = true := memN_mem.2 (List.mem_flatMap.2 ⟨_, hmem, memN_mem.1 hm⟩)
            rw [hw] at this
            cases this
          | some ex =>
            rw [hx] at hw
            simp only [Option.getD_some] at hw
            have := List.all_eq_true.1 hok.2 j (List.mem_range.2 hj)
            rw [hx] at this
            have := List.all_eq_true.1 this _ hmem
            simp only [Bool.or_eq_true] at this
            rcases this with hbit | hsub
            · have := rch listed hD i o ho hb j hbit
              rw [← gD listed j hs hj, huj'] at this
              cases this
            · have := List.all_eq_true.1 hsub n (memN_mem.1 hm)
              rw [hw] at this
              cases this
      · intro j hj hjs
        simp only [Array.getD_eq_getD_getElem?, Array.getElem?_setIfInBounds_ne (show i ≠ j by omega)]
        simpa using htu j hj hjs
      · rw [e2]
        rw [e1] at hlen
        simp only [List.length_append, List.length_cons] at hlen ⊢
        omega
      · rw [e2]; exact q2
theorem frzL_rel : ∀ {l : List Nat} {β : Nat → Option Nat} {env : Env} {own : Own} {env1 : Env} {own1 : Own} {a : Act} {w : World}, Rel E β env own a w → frzL l env own = some (env1, own1) → Rel E β env1 own1 a w
  | [], β, env, own, env1, own1, a, w, h, hf => by
    simp only [frzL, Option.some.injEq, Prod.mk.injEq] at hf
    obtain ⟨rfl, rfl⟩ := hf
    exact h
  | n :: l, β, env, own, env1, own1, a, w, h, hf => by
    simp only [frzL] at hf
    split at hf
    · rename_i hn
      exact frzL_rel (h.frz hn) hf
    · cases hf
include hT hS hET hEG hlow hhi in
theorem step_seq {Q : Exit → Act → World → Prop} {i : Nat} {o : Oper} {r : List Oper} (ho : ops[i]? = some o) {β : Nat → Option Nat} {env : Env} {own : Own} {a : Act} {w : World} {N : Env → Own → Prop} (h : Rel E β env own a w) (hk : runOps S E.nt ops.toList (o :: r) env own N) {next : Act → World → Prop}
    (hn : ∀ env own β a w, runOps S E.nt ops.toList r env own N → Rel E β env own a w → next a w) : wpOp S.P ops Q i next a w := by
  simp only [runOps] at hk
  have doit : ∀ {env : Env}, Rel E β env own a w → ((stepO S o env own).wp fun x => match x with | (sv, e1, o1) => onSet E.nt e1 o.dst sv fun env' => runOps S E.nt ops.toList r env' o1 N) → o.wp S.P a w next Q := by
    intro env h hk
    refine stepO_sound hT hS h hET hEG hlow hhi hk fun sv env' own' β' v w' e1 e2 e3 => ?_
    obtain ⟨env2, k1, k2⟩ := onSet_rel e2 e1 e3
    exact hn _ _ _ _ _ k1 k2
  have skip : ∀ {env : Env}, Rel E β env own a w → (onSet E.nt env o.dst (.t []) fun env' => runOps S E.nt ops.toList r env' own N) → next (a.put o.dst undef) w := by
    intro env h hk
    obtain ⟨env2, k1, k2⟩ := onSet_rel h hk den_undef
    exact hn _ _ _ _ _ k1 k2
  unfold wpOp
  rw [ho]
  simp only
  split at hk
  · rename_i hg
    rw [if_pos (wanted_run hg)]
    exact .inl (doit h hk)
  · rename_i hg
    rw [if_neg (by rw [wanted_skip h hg]; simp)]
    exact skip h hk
  · rename_i t b want hg
    obtain ⟨hw, ht⟩ := wanted_ask h hg
    have hk1 := Ask.e hk
    split at hk1
    · rename_i hb
      rw [if_pos (by rw [hw]; exact hb)]
      exact .inl (doit (h.rebind ht) hk1)
    · rename_i hb
      rw [if_neg (by rw [hw, hb]; simp)]
      exact skip (h.rebind ht) hk1
  · exact hk.elim
include hT hS hET hEG hlow hhi in
theorem tail_any (hok : drawOk ops D.W D.el = true) {kk : Nat} (htl : ∀ i, kk ≤ i → i < ops.size → ∀ j, j < i → ((bfs ops.toList []).getD i 0).testBit j = true) {N : Env → Own → Prop} {Q : Exit → Act → World → Prop} (hQ : ∀ env own β a w, N env own → Rel E β env own a w → Q .normal a w) : ∀ (fuel m : Nat) {listed : Array Bool} {β : Nat → Option Nat} {env : Env} {own : Own} {a : Act} {w : World},
    listed.size = ops.size → kk ≤ m → m ≤ ops.size → (∀ j, j < m → listed.getD j false = true) → (∀ j, m ≤ j → j < ops.size → listed.getD j true = false) → ops.size - m ≤ fuel → Rel E β env own a w → runOps S E.nt ops.toList (ops.toList.drop m) env own N → wpAny S.P .any ops Q fuel listed a w := by
  simp only [drawOk, Bool.and_eq_true] at hok
  have good : GoodT ops (bfs ops.toList []) := bfs_good (fun k o hk => by simpa using hk) (fun k hk => by simp at hk) (fun i m o h => by simp at h)
  have okI : ∀ i, i < ops.size → okAt ops (bfs ops.toList []) i = true := fun i hi => List.all_eq_true.1 hok.1 i (List.mem_range.2 hi)
  have gD : ∀ (listed : Array Bool) j, listed.size = ops.size → j < ops.size → listed.getD j true = listed.getD j false := by
    intro listed j hs hj
    have : j < listed.size := by omega
    simp [this]
  have binds_lt : ∀ i o, ops[i]? = some o → i < ops.size → ∀ e ∈ bindsO o, e < i := by
    intro i o ho hi e he
    have := okI i hi
    simp only [okAt, ho, Bool.and_eq_true] at this
    exact Nat.le_of_ble_eq_true (List.all_eq_true.1 this.1 e he)
  have isM : ∀ m (listed : Array Bool), listed.size = ops.size → kk ≤ m → (∀ j, j < m → listed.getD j false = true) → (∀ j, m ≤ j → j < ops.size → listed.getD j true = false) → ∀ i, i ∈ Region.ready .any ops listed → i = m := by
    intro m listed hs hkm h1 h2 i hi
    obtain ⟨hlt, hu, o, ho, hb⟩ := mem_ready.1 hi
    by_cases c : i < m
    · have := h1 i c
      rw [← gD listed i hs hlt, hu] at this
      cases this
    by_cases c2 : i = m
    · exact c2
    have hbit := htl i (by omega) hlt m (by omega)
    have hD : Down ops (fun i => listed.getD i false = true) := by
      intro k o hk hL e he
      have hks : k < ops.size := by
        by_cases c : k < ops.size
        · exact c
        · rw [Array.getElem?_eq_none (by omega)] at hk; cases hk
      have hkm' : k < m := by
        by_cases c : k < m
        · exact c
        · have h3 := h2 k (by omega) hks
          rw [gD listed k hs hks] at h3
          rw [h3] at hL
          cases hL
      exact h1 e (by have := binds_lt k o hk hks e he; omega)
    cases hm : (bfs ops.toList [])[i]? with
    | none => simp [List.getD, hm] at hbit
    | some q =>
      have := good i q o hm ho m (by simpa [List.getD, hm] using hbit) _ hD hb
      have h3 := h2 m (Nat.le_refl _) (by omega)
      rw [gD listed m hs (by omega)] at h3
      rw [h3] at this
      cases this
  intro fuel
  induction fuel with
  | zero =>
    intro m listed β env own a w hs hkm hms h1 h2 hf hR hrun
    have hm : m = ops.size := by omega
    rw [List.drop_eq_nil_of_le (by simp; omega)] at hrun
    refine ⟨?_, hQ _ _ _ _ _ hrun hR⟩
    refine List.eq_nil_iff_forall_not_mem.2 fun i hi => ?_
    have := isM m listed hs hkm h1 h2 i hi
    have := (mem_ready.1 hi).1
    omega
  | succ fuel ih =>
    intro m listed β env own a w hs hkm hms h1 h2 hf hR hrun
    by_cases hm : m = ops.size
    · rw [List.drop_eq_nil_of_le (by simp; omega)] at hrun
      refine ⟨fun _ => hQ _ _ _ _ _ hrun hR, fun i hi => ?_⟩
      have := isM m listed hs hkm h1 h2 i hi
      have := (mem_ready.1 hi).1
      omega
    have hlt : m < ops.size := by omega
    have hd : ops.toList.drop m = ops[m] :: ops.toList.drop (m + 1) := by
      rw [List.drop_eq_getElem_cons (by simpa using hlt)]; rfl
    rw [hd] at hrun
    refine ⟨fun hr => ?_, fun i hi => ?_⟩
    · have hme : m ∈ Region.ready .any ops listed := mem_ready.2 ⟨hlt, h2 m (Nat.le_refl _) hlt, ops[m], by simp [hlt], fun e he => h1 e (binds_lt m _ (by simp [hlt]) hlt e he)⟩
      rw [hr] at hme
      cases hme
    · obtain rfl := isM m listed hs hkm h1 h2 i hi
      refine step_seq hT hS hET hEG hlow hhi (o := ops[i]) (by simp [hlt]) hR hrun fun env own β a w q1 q2 => ?_
      refine ih (i + 1) (by simpa using hs) (by omega) (by omega) ?_ ?_ (by omega) q2 q1
      · intro j hj
        by_cases e : j = i
        · subst e
          have : j < listed.size := by omega
          simp [this]
        · simp only [Array.getD_eq_getD_getElem?, Array.getElem?_setIfInBounds_ne (Ne.symm e)]
          simpa using h1 j (by omega)
      · intro j hj hjs
        simp only [Array.getD_eq_getD_getElem?, Array.getElem?_setIfInBounds_ne (show i ≠ j by omega)]
        simpa using h2 j (by omega) hjs
include hT hS hET hEG hlow hhi in
theorem draw_sound {β : Nat → Option Nat} {env : Env} {own : Own} {a : Act} {w : World} {id : Nat} (h : Rel E β env own a w) {N : Env → Own → Prop} {Q : Exit → Act → World → Prop} (hk : DrawVC S E.nt ops env own N) (hQ : ∀ env own β a w, N env own → Rel E β env own a w → Q .normal a w) : (Code.region id ops true).wp S.P Q a w := by
  obtain ⟨hm, W, el, fz, hok, hk⟩ := hk
  simp only [drawOkT, Bool.and_eq_true] at hok
  obtain ⟨hok, hok2⟩ := hok
  have hnone : ∀ i, i < ops.size → (Array.replicate ops.size false).getD i true = false := fun i hi => by simp [hi]
  have hrem : ∀ k, k ≤ ops.size → remL k (Array.replicate ops.size false) = List.range k := by
    intro k hk
    unfold remL
    rw [List.filter_eq_self]
    intro i hi
    rw [hnone i (by have := List.mem_range.1 hi; omega)]
    rfl
  have go : ∀ (kk : Nat) (env1 : Env) (own1 : Own) (fz : List Nat), kk ≤ ops.size → (∀ i, kk ≤ i → i < ops.size → ∀ j, j < i → ((bfs ops.toList []).getD i 0).testBit j = true) → frzL fz env own = some (env1, own1) →
      runD S E.nt ⟨own1, W, el⟩ ops.toList 0 (ops.toList.take kk) env1 own1 (fun e o => runOps S E.nt ops.toList (ops.toList.drop kk) e o N) → (Code.region id ops true).wp S.P Q a w := by
    intro kk env1 own1 fz hkk htl hf hk
    have h1 := frzL_rel h hf
    have h2 : Rel E β env1 own1 a { w with drawn := w.drawn + 1 } := h1.idle ⟨rfl, rfl, rfl, Nat.le_refl _, fun _ _ _ => rfl⟩
    refine wp_region_any hm (draw_any (D := ⟨own1, W, el⟩) hT hS hET hEG hlow hhi hok hkk htl (N := fun e o => runOps S E.nt ops.toList (ops.toList.drop kk) e o N) (fun fuel listed env own β a w q1 q2 q3 q4 q5 q6 => tail_any (D := ⟨own1, W, el⟩) hT hS hET hEG hlow hhi hok htl hQ fuel kk q1 (Nat.le_refl _) hkk q2 q3 q4 q6 q5) ops.size (by simp) ?_ (fun _ _ _ _ _ _ => rfl) (fun j _ hj => hnone j hj) ?_ h2 ?_)
    · intro k o hk hL
      simp only [Array.getD_eq_getD_getElem?] at hL
      rw [Array.getElem?_replicate] at hL
      split at hL <;> simp at hL
    · rw [hrem kk hkk]; simp; omega
    · rw [hrem kk hkk]
      have := runD_T (ops.toList.take kk) (i := 0) (all := ops.toList) (fun k o hk => by
        rw [List.getElem?_take] at hk
        split at hk
        · simpa using hk
        · cases hk) hk
      rw [List.range_eq_range']
      simpa [Nat.min_eq_left hkk] using this
  split at hk
  · rename_i fz' hfz
    split at hk
    · rename_i env1 own1 hf
      refine go ops.size env1 own1 fz' (Nat.le_refl _) (fun i h1 h2 => absurd h2 (by omega)) hf ?_
      rw [List.take_of_length_le (by simp), List.drop_eq_nil_of_le (by simp)]
      exact hk
    · exact hk.elim
  · rename_i k fz' hfz
    rw [hfz] at hok2
    simp only [tailOk, Bool.and_eq_true] at hok2
    split at hk
    · rename_i env1 own1 hf
      refine go k env1 own1 fz' (Nat.le_of_ble_eq_true hok2.1) (fun i h1 h2 j hj => ?_) hf hk
      have := List.all_eq_true.1 hok2.2 i (List.mem_range.2 h2)
      simp only [Bool.or_eq_true] at this
      rcases this with this | this
      · have := Nat.le_of_ble_eq_true this; omega
      · exact List.all_eq_true.1 this j (List.mem_range.2 hj)
    · exact hk.elim
end
end Sx
/-! Code, loops, functions. -/
namespace Sx
open Go
set_option linter.unusedVariables false
set_option linter.unusedSimpArgs false
def AllP {α : Type} (p : α → Prop) : List α → Prop | [] => True | a :: l => p a ∧ AllP p l
def SubE.{u} {α : Type u} : List (Nat × α) → (Nat → Option α) → Prop
  | [], _ => True
  | (k, v) :: l, f => f k = some v ∧ SubE l f
def keysT.{u} {α : Type u} : List (Nat × α) → List Nat
  | [] => []
  | (k, _) :: l => k :: keysT l
theorem keysT_eq.{u} {α : Type u} : ∀ (l : List (Nat × α)), keysT l = l.map (·.1)
  | [] => rfl
  | (k, v) :: l => by rw [keysT, keysT_eq l]; rfl
def Sub (l1 : List (Nat × SV)) (l2 : List (Nat × Blk)) (env : Env) (own : Own) : Prop := SubE l1 env ∧ SubE l2 own
def SV.cells : SV → List C | .u x => x.cells | .t l => l.flatMap U.cells
def closedB (l1 : List (Nat × SV)) (l2 : List (Nat × Blk)) : Bool := l1.all (fun p => p.2.cells.all (okRef (keysT l2))) && l2.all (fun p => p.2.okRef (keysT l2))
/-- variables that hold no slice yet, as rows of the call's own -/
def adopt (T : Tab) : List (Nat × Nat × TypeId) → Env → Own → Option (Env × Own)
  | [], env, own => some (env, own)
  | (t, n, u) :: l, env, own => match env t, own n, T u with
    | some (.u (.c c)), none, some el => bif isNilS c && n.ble 49999 then adopt T l (fset env t (.u (.c (.r n u)))) (fset own n (.row u (nilD el))) else none
    | _, _, _ => none
def LoopVC (T : Tab) (body : Env → Own → (Env → Own → Prop) → Prop) (env : Env) (own : Own) : Prop :=
  ∃ (ad : List (Nat × Nat × TypeId)) (env1 : Env) (own1 : Own), adopt T ad env own = some (env1, own1) ∧
  ∃ (α : Type) (I : α → List (Nat × SV) × List (Nat × Blk)) (p : α → Prop) (m : α → Nat),
    (∀ x, p x → closedB (I x).1 (I x).2 = true) ∧ (∃ x, p x ∧ Sub (I x).1 (I x).2 env1 own1) ∧
    ∀ x, p x → body (lookT (I x).1) (lookT (I x).2) fun env' own' => ∃ y, p y ∧ m y < m x ∧ Sub (I y).1 (I y).2 env' own'
/-- code -/
def wpC (S : Pr) (nt : Nat) : Code → Env → Own → (Env → Own → Prop) → (Nat → Env → Own → Prop) → (Env → Own → Prop) → Prop
  | .skip, env, own, N, _, _ => N env own
  | .label _, env, own, N, _, _ => N env own
  | .region _ ops draw, env, own, N, _, _ => match draw with
    | false => runOps S nt ops.toList ops.toList env own N
    | true => DrawVC S nt ops env own N
  | .seq x y, env, own, N, X, R => wpC S nt x env own (fun e o => wpC S nt y e o N X R) X R
  | .cond c x y, env, own, N, X, R => match c, evV env c with
    | .tmp t, some (.bool b) => Ask b fun k => match k with
      | true => wpC S nt x (fset env t (boolSV true)) own N X R
      | false => wpC S nt y (fset env t (boolSV false)) own N X R
    | _, some (.bool b) => Ask b fun k => match k with
      | true => wpC S nt x env own N X R
      | false => wpC S nt y env own N X R
    | _, _ => False
  | .block id c, env, own, N, X, R => wpC S nt c env own N (fun j e o => match Nat.beq j id with | true => N e o | false => X j e o) R
  | .exit id, env, own, _, X, _ => X id env own
  | .ret, env, own, _, _, R => R env own
  | .loop c, env, own, _, X, R => LoopVC S.T (fun e o K => wpC S nt c e o K X R) env own
  | _, _, _, _, _, _ => False
section
variable {S : Pr} {E : Ctx} {β : Nat → Option Nat} {env : Env} {own : Own} {a : Act} {w : World}
theorem SubE.mem {α : Type} {f : Nat → Option α} : ∀ {l : List (Nat × α)}, SubE l f → ∀ {k : Nat} {v : α}, (k, v) ∈ l → f k = some v
  | [], _, _, _, hx => by simp at hx
  | (k, v) :: l, h, k', v', hx => by
    rcases List.mem_cons.1 hx with e | hx
    · obtain ⟨rfl, rfl⟩ := Prod.mk.inj e; exact h.1
    · exact SubE.mem h.2 hx
theorem AllP.mem {α : Type} {p : α → Prop} : ∀ {l : List α}, AllP p l → ∀ x ∈ l, p x
  | [], _, x, hx => by simp at hx
  | a :: l, h, x, hx => by
    rcases List.mem_cons.1 hx with rfl | hx
    · exact h.1
    · exact AllP.mem h.2 x hx
theorem lookT_some {α : Type} : ∀ {l : List (Nat × α)} {n : Nat}, memN (l.map (·.1)) n = true → ∃ v, lookT l n = some v
  | [], _, h => by simp [memN] at h
  | (k, u) :: l, n, h => by
    simp only [List.map_cons, memN] at h
    simp only [lookT]
    cases hb : n.beq k with
    | true => exact ⟨u, rfl⟩
    | false => rw [hb] at h; exact lookT_some h
/-- of what is known, a part -/
theorem Rel.sub (h : Rel E β env own a w) {l1 : List (Nat × SV)} {l2 : List (Nat × Blk)} (hs : Sub l1 l2 env own) (hc : closedB l1 l2 = true) : Rel E β (lookT l1) (lookT l2) a w := by
  simp only [closedB, Bool.and_eq_true, keysT_eq] at hc
  have o1 : ∀ n B, lookT l2 n = some B → own n = some B := fun n B hB => hs.2.mem (lookT_mem hB)
  have o2 : ∀ n, memN (l2.map (·.1)) n = true → lookT l2 n = own n := by
    intro n hn
    obtain ⟨B, hB⟩ := lookT_some hn
    rw [hB, o1 n B hB]
  have sub : ∀ b, Av E.X β (lookT l2) b → Av E.X β own b := by
    rintro b (hx | ⟨n, h1, h2⟩)
    · exact .inl hx
    · cases hB : lookT l2 n with
      | none => exact absurd hB h1
      | some B => exact .inr ⟨n, by simp [o1 n B hB], h2⟩
  have live : ∀ n, lookT l2 n ≠ none → own n ≠ none := by
    intro n hn
    cases hB : lookT l2 n with
    | none => exact absurd hB hn
    | some B => simp [o1 n B hB]
  have s : Stay w (Av E.X β own) w (Av E.X β (lookT l2)) := ⟨Nat.le_refl _, fun b _ hb => ⟨rfl, fun hh => hb (sub b hh)⟩⟩
  have hC : ∀ {c : C} {v : Value}, okRef (l2.map (·.1)) c = true → DenC E.T w β (Av E.X β own) own c v → DenC E.T w β (Av E.X β (lookT l2)) (lookT l2) c v := by
    intro c v hok hd
    cases c with
    | v x => exact hd
    | d t x => exact Rd.stay s hd
    | z t => exact hd
    | e cts row off => obtain ⟨a, h1, h2⟩ := hd; exact ⟨a, h1, h2.stay s⟩
    | bad => exact hd
    | p n off => obtain ⟨b, t, l, h1, h2⟩ := hd; exact ⟨b, t, l, by rw [o2 n hok]; exact h1, h2⟩
    | r n t => obtain ⟨x, h1, h2⟩ := hd; exact ⟨x, by rw [o2 n hok]; exact h1, h2⟩
    | q n i off => obtain ⟨t, x, b, h1, h2⟩ := hd; exact ⟨t, x, b, by rw [o2 n hok]; exact h1, h2⟩
    | m n t => obtain ⟨l, b, h1, h2⟩ := hd; exact ⟨l, b, by rw [o2 n hok]; exact h1, h2⟩
  have hCs : ∀ {l : List C} {vs : List Value}, l.all (okRef (l2.map (·.1))) = true → All2 (DenC E.T w β (Av E.X β own) own) l vs → All2 (DenC E.T w β (Av E.X β (lookT l2)) (lookT l2)) l vs := by
    intro l vs hall h2
    refine All2.of_get h2.length fun i c v h3 h4 => ?_
    obtain ⟨v', h6, h7⟩ := h2.get h3
    rw [h4] at h6
    obtain rfl := Option.some.inj h6
    exact hC (List.all_eq_true.1 hall c (List.mem_of_getElem? h3)) h7
  have hU : ∀ {u : U} {v : Value}, u.cells.all (okRef (l2.map (·.1))) = true → DenU E.T w β (Av E.X β own) own u v → DenU E.T w β (Av E.X β (lookT l2)) (lookT l2) u v := by
    intro u v hall hd
    cases u with
    | c x => exact hC (by simpa [U.cells] using hall) hd
    | a l => obtain ⟨cs, e1, e2⟩ := hd; exact ⟨cs, e1, hCs hall e2⟩
  refine ⟨h.defers, h.size, ?_, ⟨?_, ?_, ?_⟩, h.glob, h.frame, ?_, h.xold, ?_⟩
  · intro t sv ht
    have hmem := lookT_mem ht
    have hall := List.all_eq_true.1 hc.1 _ hmem
    have hd := h.vals t sv (hs.1.mem hmem)
    cases sv with
    | u x => exact hU hall hd
    | t l =>
      obtain ⟨vs, e1, e2⟩ := hd
      refine ⟨vs, e1, All2.of_get e2.length fun i u v h3 h4 => ?_⟩
      obtain ⟨v', h6, h7⟩ := e2.get h3
      rw [h4] at h6
      obtain rfl := Option.some.inj h6
      exact hU (List.all_eq_true.2 fun c hc' => List.all_eq_true.1 hall c (List.mem_flatMap.2 ⟨u, List.mem_of_getElem? h3, hc'⟩)) h7
  · intro n B hB
    have hb := h.blks.blk n B (o1 n B hB)
    have hall := List.all_eq_true.1 hc.2 _ (lookT_mem hB)
    cases B with
    | cells t l => obtain ⟨b, cs, c1, c2, c3⟩ := hb; exact ⟨b, cs, c1, c2, hCs hall c3⟩
    | row t x => obtain ⟨cs, c1, c2⟩ := hb; exact ⟨cs, c1.stay s, c2⟩
    | map t l => obtain ⟨b, es, clock, c1, c2, c3⟩ := hb; exact ⟨b, es, clock, c1, c2, c3.stay s⟩
  · exact fun n m b h1 h2 => h.blks.inj n m b (live n h1) (live m h2)
  · exact fun n b h1 h2 => h.blks.loc n b (live n h1) h2
  · exact fun n b h1 h2 => h.mine n b (live n h1) h2
  · exact fun n B B' h1 h2 => h.kept n B B' h1 (o1 n B' h2)
theorem adopt_rel (hET : E.T = S.T) (hlow : ∀ n, n < 50000 → E.own0 n = none) : ∀ {l : List (Nat × Nat × TypeId)} {env : Env} {own : Own} {env1 : Env} {own1 : Own} {β : Nat → Option Nat}, Rel E β env own a w → adopt S.T l env own = some (env1, own1) →
    ∃ β', Rel E β' env1 own1 a w
  | [], env, own, env1, own1, β, h, hf => by
    simp only [adopt, Option.some.injEq, Prod.mk.injEq] at hf
    obtain ⟨rfl, rfl⟩ := hf
    exact ⟨β, h⟩
  | (t, n, u) :: l, env, own, env1, own1, β, h, hf => by
    simp only [adopt] at hf
    split at hf
    · rename_i c el h1 h2 h3
      cases hb : (isNilS c && n.ble 49999) with
      | false => rw [hb] at hf; cases hf
      | true =>
        rw [hb] at hf
        simp only [cond_true] at hf
        simp only [Bool.and_eq_true] at hb
        have hn := Nat.le_of_ble_eq_true hb.2
        have hden : DenC E.T w β (Av E.X β own) own c (a.tmps.getD t undef) := h.vals t _ h1
        obtain ⟨ad, hv⟩ := nil_val hden hb.1
        obtain ⟨β', f1, f2, hR⟩ := h.newNil (d := n) h2 (hlow n (by omega)) (t := u) (x := nilD el) (by
          rw [hET]
          cases el with
          | ints k => exact .inl ⟨k, [], h3, rfl, by simp⟩
          | rows c => exact .inr ⟨c, [], h3, rfl, fun _ _ => undef, by simp, by simp, by simp⟩) (by cases el <;> rfl)
        refine adopt_rel hET hlow (β := β') ?_ hf
        have hrow : DenC E.T w β' (Av E.X β' (fset own n (.row u (nilD el)))) (fset own n (.row u (nilD el))) (.r n u) (a.tmps.getD t undef) := by
          refine ⟨nilD el, fset_same _ _ _, ?_⟩
          rw [f2, hv]
          exact ⟨by cases el <;> rfl, ad, rfl⟩
        refine ⟨hR.defers, hR.size, fun k sv hk => ?_, hR.blks, hR.glob, hR.frame, hR.mine, hR.xold, hR.kept⟩
        by_cases e : k = t
        · subst e
          rw [fset_same] at hk
          obtain rfl := Option.some.inj hk
          exact hrow
        · rw [fset_ne _ _ e] at hk
          exact hR.vals k sv hk
    · cases hf
/-- what is behind a piece of code -/
def Ends (E : Ctx) (P : Env → Own → Prop) (a : Act) (w : World) : Prop := ∃ env own β, P env own ∧ Rel E β env own a w
variable {G : Glob} (hT : TOk S.P S.tt) (hS : AllSound S G) (hET : E.T = S.T) (hEG : E.G = G) (hlow : ∀ n, n < 50000 → E.own0 n = none) (hhi : ∀ n, 100000 ≤ n → E.own0 n = none)
include hT hS hET hEG hlow hhi in
theorem runOps_sound {ops : Array Oper} {Q : Exit → Act → World → Prop} : ∀ (l : List Oper) {β : Nat → Option Nat} {env : Env} {own : Own} {a : Act} {w : World} {N : Env → Own → Prop}, Rel E β env own a w → runOps S E.nt ops.toList l env own N →
    (∀ a w, Ends E N a w → Q .normal a w) → wpList S.P ops Q l a w
  | [], β, env, own, a, w, N, h, hk, hQ => hQ a w ⟨env, own, β, hk, h⟩
  | o :: r, β, env, own, a, w, N, h, hk, hQ => by
    simp only [runOps] at hk
    have doit : ∀ {env : Env}, Rel E β env own a w → ((stepO S o env own).wp fun x => match x with | (sv, e1, o1) => onSet E.nt e1 o.dst sv fun env' => runOps S E.nt ops.toList r env' o1 N) → o.wp S.P a w (wpList S.P ops Q r) Q := by
      intro env h hk
      refine stepO_sound hT hS h hET hEG hlow hhi hk fun sv env' own' β' v w' e1 e2 e3 => ?_
      obtain ⟨env2, k1, k2⟩ := onSet_rel e2 e1 e3
      exact runOps_sound r k2 k1 hQ
    have skip : ∀ {env : Env}, Rel E β env own a w → (onSet E.nt env o.dst (.t []) fun env' => runOps S E.nt ops.toList r env' own N) → wpList S.P ops Q r (a.put o.dst undef) w := by
      intro env h hk
      obtain ⟨env2, k1, k2⟩ := onSet_rel h hk den_undef
      exact runOps_sound r k2 k1 hQ
    unfold wpList
    split at hk
    · rename_i hg
      rw [if_pos (wanted_run hg)]
      exact .inl (doit h hk)
    · rename_i hg
      rw [if_neg (by rw [wanted_skip h hg]; simp)]
      exact skip h hk
    · rename_i t b want hg
      obtain ⟨hw, ht⟩ := wanted_ask h hg
      have hk1 := Ask.e hk
      split at hk1
      · rename_i hb
        rw [if_pos (by rw [hw]; exact hb)]
        exact .inl (doit (h.rebind ht) hk1)
      · rename_i hb
        rw [if_neg (by rw [hw, hb]; simp)]
        exact skip (h.rebind ht) hk1
    · exact hk.elim
end
end Sx
/-! Code and functions are what their states say. -/
namespace Sx
open Go
set_option linter.unusedVariables false
set_option linter.unusedSimpArgs false
theorem wp_loop_ix {P : Program} {Q : Exit → Act → World → Prop} {a : Act} {w : World} {c : Code} {α : Type} (I : α → Act → World → Prop) (m : α → Nat) (x0 : α) (h0 : I x0 a w)
    (round : ∀ x a w, I x a w → c.wp P (Exit.then (fun a' w' => ∃ y, I y a' w' ∧ m y < m x) Q) a w) : (Code.loop c).wp P Q a w := by
  intro b k cs
  have key : ∀ n x a w, m x = n → I x a w → ∃ e a' w', Q e a' w' ∧ Arrives P (lone (b.at a (.code c :: .inLoop c :: k)) cs w) b k cs e a' w' := by
    intro n
    induction n using Nat.strongRecOn with
    | _ n ih =>
      intro x a w hn hI
      obtain ⟨e, a₁, w₁, hq, harr⟩ := round x a w hI b (.inLoop c :: k) cs
      cases e with
      | normal =>
        obtain ⟨y, hI₁, hlt⟩ := hq
        obtain ⟨e₂, a₂, w₂, hq₂, harr₂⟩ := ih (m y) (hn ▸ hlt) y a₁ w₁ rfl hI₁
        exact ⟨e₂, a₂, w₂, hq₂, .of_steps (Steps.trans harr (.one step_inLoop)) harr₂⟩
      | exit id => exact ⟨_, a₁, w₁, hq, .pass (x := .inLoop c) rfl (fun _ _ => .inl (by simp)) harr⟩
      | goto l => exact ⟨_, a₁, w₁, hq, .pass (x := .inLoop c) rfl (fun _ _ => .inl (by simp)) harr⟩
      | ret => exact ⟨_, a₁, w₁, hq, .pass (x := .inLoop c) rfl (fun _ _ => .inl (by simp)) harr⟩
      | panic ch => exact ⟨_, a₁, w₁, hq, .pass (x := .inLoop c) rfl (fun _ _ => .inl (by simp)) harr⟩
      | outgrown => exact ⟨_, a₁, w₁, hq, .pass (x := .inLoop c) rfl (fun _ _ => .inl (by simp)) harr⟩
  obtain ⟨e, a', w', hq, harr⟩ := key _ x0 a w rfl h0
  exact ⟨e, a', w', hq, .of_steps (.one step_loop) harr⟩
section
variable {S : Pr} {E : Ctx} {β : Nat → Option Nat} {env : Env} {own : Own} {a : Act} {w : World}
variable {G : Glob} (hT : TOk S.P S.tt) (hS : AllSound S G) (hET : E.T = S.T) (hEG : E.G = G) (hlow : ∀ n, n < 50000 → E.own0 n = none) (hhi : ∀ n, 100000 ≤ n → E.own0 n = none)
include hT hS hET hEG hlow hhi in
theorem wpC_sound : ∀ (c : Code) {β : Nat → Option Nat} {env : Env} {own : Own} {a : Act} {w : World} {N : Env → Own → Prop} {X : Nat → Env → Own → Prop} {R : Env → Own → Prop} {Q : Exit → Act → World → Prop},
    Rel E β env own a w → wpC S E.nt c env own N X R → (∀ a w, Ends E N a w → Q .normal a w) → (∀ j a w, Ends E (X j) a w → Q (.exit j) a w) → (∀ a w, Ends E R a w → Q .ret a w) → c.wp S.P Q a w := by
  intro c
  induction c with
  | skip => intro β env own a w N X R Q h hk hN hX hR; exact wp_skip (hN a w ⟨env, own, β, hk, h⟩)
  | label l => intro β env own a w N X R Q h hk hN hX hR; exact wp_label (hN a w ⟨env, own, β, hk, h⟩)
  | region id ops draw =>
    intro β env own a w N X R Q h hk hN hX hR
    cases draw with
    | false => exact wp_region_list (runOps_sound hT hS hET hEG hlow hhi ops.toList h hk hN)
    | true => exact draw_sound hT hS hET hEG hlow hhi h hk fun env own β a w k1 k2 => hN a w ⟨env, own, β, k1, k2⟩
  | seq x y ihx ihy =>
    intro β env own a w N X R Q h hk hN hX hR
    refine wp_seq (ihx h hk (Q := Exit.then (y.wp S.P Q) Q) ?_ ?_ ?_)
    · rintro a w ⟨env', own', β', k1, k2⟩
      exact ihy k2 k1 hN hX hR
    · exact fun j a w he => hX j a w he
    · exact fun a w he => hR a w he
  | cond c x y ihx ihy =>
    intro β env own a w N X R Q h hk hN hX hR
    have go : ∀ (b : Bool), evV env c = some (.bool b) → ((b = true → x.wp S.P Q a w) ∧ (b = false → y.wp S.P Q a w)) → (Code.cond c x y).wp S.P Q a w := by
      intro b hb hh
      exact wp_cond_split (evV_eq h hb).1 hh.1 hh.2
    simp only [wpC] at hk
    split at hk
    · rename_i t b hb
      refine go b hb ⟨fun e => ?_, fun e => ?_⟩
      · have hk1 := Ask.e hk
        rw [e] at hk1
        have ht : env t = some (boolSV true) := by
          subst e
          unfold evV at hb
          split at hb
          · rename_i v hv; obtain rfl := Option.some.inj hb; exact hv
          · cases hb
        exact ihx (h.rebind ht) hk1 hN hX hR
      · have hk1 := Ask.e hk
        rw [e] at hk1
        have ht : env t = some (boolSV false) := by
          subst e
          unfold evV at hb
          split at hb
          · rename_i v hv; obtain rfl := Option.some.inj hb; exact hv
          · cases hb
        exact ihy (h.rebind ht) hk1 hN hX hR
    · rename_i b _ hb
      exact go b hb ⟨fun e => by have hk1 := Ask.e hk; rw [e] at hk1; exact ihx h hk1 hN hX hR, fun e => by have hk1 := Ask.e hk; rw [e] at hk1; exact ihy h hk1 hN hX hR⟩
    · exact hk.elim
  | block id c ih =>
    intro β env own a w N X R Q h hk hN hX hR
    refine wp_block (ih h hk (Q := Exit.inBlock id Q) hN ?_ hR)
    rintro j a w ⟨env', own', β', k1, k2⟩
    show if j = id then Q .normal a w else Q (.exit j) a w
    split at k1
    · rename_i hb
      rw [if_pos (Nat.eq_of_beq_eq_true hb)]
      exact hN a w ⟨env', own', β', k1, k2⟩
    · rename_i hb
      rw [if_neg (fun e => by rw [e] at hb; simp at hb)]
      exact hX j a w ⟨env', own', β', k1, k2⟩
  | exit id => intro β env own a w N X R Q h hk hN hX hR; exact wp_exit (hX id a w ⟨env, own, β, hk, h⟩)
  | ret => intro β env own a w N X R Q h hk hN hX hR; exact wp_ret (hR a w ⟨env, own, β, hk, h⟩)
  | loop c ih =>
    intro β env own a w N X R Q h hk hN hX hR
    obtain ⟨ad, env1, own1, had, α, I, p, m, hcl, ⟨x0, hp0, hs0⟩, hround⟩ := hk
    obtain ⟨β1, h1⟩ := adopt_rel hET hlow h had
    refine wp_loop_ix (fun x a w => p x ∧ ∃ β', Rel E β' (lookT (I x).1) (lookT (I x).2) a w) m x0 ⟨hp0, β1, h1.sub hs0 (hcl x0 hp0)⟩ ?_
    rintro x a w ⟨hp, β', hR'⟩
    refine ih hR' (hround x hp) (Q := Exit.then _ Q) ?_ ?_ ?_
    · rintro a w ⟨env', own', β2, ⟨y, q1, q2, q3⟩, k2⟩
      exact ⟨y, ⟨q1, β2, k2.sub q3 (hcl y q1)⟩, q2⟩
    · exact fun j a w he => hX j a w he
    · exact fun a w he => hR a w he
  | _ => intro β env own a w N X R Q h hk hN hX hR; exact hk.elim
end
end Sx
