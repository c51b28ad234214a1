/- Part of the proof: a machine of states for walks, and contracts of functions over it. Conditions: those that each theorem names. -/
import Derived.Test.YtcjdbimojffggaaGreatDoorSx2
import Derived.Laws.AppendOwn
import Derived.Test.YtcjdbimojffggaaGreatDoorSx1
set_option linter.unusedVariables false
set_option linter.unusedSimpArgs false
/-! Rows that grow. -/
namespace Sx
open Go
set_option linter.unusedVariables false
set_option linter.unusedSimpArgs false
theorem oneCell_of {v : Value} (h : oneV v = true) : v.oneCell' = true := by cases v <;> simp_all [oneV, Value.oneCell']
section
variable {S : Pr} {E : Ctx} {β : Nat → Option Nat} {env : Env} {own snap : Own} {a : Act} {w : World} {T : Tab} {A : Nat → Prop}
theorem mul_add_lt {i j n m : Nat} (hi : i < n) (hj : j < m) : i * m + j < n * m := by
  have : i * m + m ≤ n * m := by rw [← Nat.succ_mul]; exact Nat.mul_le_mul_right m hi
  omega
/-- an own row's cells, cut to its length -/
theorem RowRd.cut {t : TypeId} {x : D} {cs : Array Value} (h : RowRd T w A t x cs) (hl : x.len * esz T t ≤ cs.size) :
    RowRd T w A t x (cs.toList.take (x.len * esz T t)).toArray ∧ ∀ u ∈ cs.toList.take (x.len * esz T t), oneV u = true := by
  rcases h with ⟨k, l, h1, rfl, h2⟩ | ⟨c, l, h1, rfl, vs, h2, h3, h4⟩
  · have hz : esz T t = 1 := by simp [esz, h1, El.size]
    rw [hz] at hl ⊢
    simp only [D.len, Nat.mul_one] at hl ⊢
    refine ⟨.inl ⟨k, l, h1, rfl, fun i n hi => ?_⟩, fun u hu => ?_⟩
    · have hlt := (List.getElem?_eq_some_iff.1 hi).1
      have := h2 i n hi
      simp only [List.getElem?_toArray, List.getElem?_take, if_pos hlt]
      simpa using this
    · obtain ⟨i, hi⟩ := List.mem_iff_getElem?.1 hu
      rw [List.getElem?_take] at hi
      split at hi
      · rename_i hlt
        have := h2 i _ (List.getElem?_eq_getElem hlt)
        rw [← Array.getElem?_toList, hi] at this
        obtain rfl := Option.some.inj this
        rfl
      · cases hi
  · have hz : esz T t = c.length := by simp [esz, h1, El.size]
    rw [hz] at hl ⊢
    simp only [D.len] at hl ⊢
    have key : ∀ (i : Nat) e (j : Nat) d, l[i]? = some e → e[j]? = some d → i * c.length + j < l.length * c.length := by
      intro i e j d hi hj
      have h5 := (List.getElem?_eq_some_iff.1 hi).1
      have h6 := (List.getElem?_eq_some_iff.1 hj).1
      rw [h2 i e hi] at h6
      exact mul_add_lt h5 h6
    refine ⟨.inr ⟨c, l, h1, rfl, vs, h2, fun i e j d hi hj => ?_, h4⟩, fun u hu => ?_⟩
    · simp only [List.getElem?_toArray, List.getElem?_take, if_pos (key i e j d hi hj)]
      simpa using h3 i e j d hi hj
    · obtain ⟨m, hm⟩ := List.mem_iff_getElem?.1 hu
      rw [List.getElem?_take] at hm
      split at hm
      · rename_i hlt
        have hc : 0 < c.length := by
          rcases Nat.eq_zero_or_pos c.length with e | e
          · rw [e] at hlt; omega
          · exact e
        have hi : m / c.length < l.length := by rw [Nat.div_lt_iff_lt_mul hc]; exact hlt
        have hj : m % c.length < c.length := Nat.mod_lt _ hc
        have e1 : m / c.length * c.length + m % c.length = m := by rw [Nat.mul_comm]; exact Nat.div_add_mod m c.length
        have hle := h2 _ _ (List.getElem?_eq_getElem hi)
        have h5 := h3 (m / c.length) _ (m % c.length) _ (List.getElem?_eq_getElem hi) (List.getElem?_eq_getElem (by omega))
        have h6 := h4 (m / c.length) _ (m % c.length) _ _ (List.getElem?_eq_getElem hi) (List.getElem?_eq_getElem hj) (List.getElem?_eq_getElem (by omega))
        rw [e1, ← Array.getElem?_toList, hm] at h5
        obtain rfl := Option.some.inj h5
        exact h6.oneV
      · cases hm
/-- data's cells -/
theorem Rd.row {t : TypeId} {v : Value} {x : D} (h : Rd T w A (.sl t) v x) : ∃ ad cap news, v = .slice ad x.len cap ∧ x.len ≤ cap ∧ List.length news = x.len * esz T t ∧ (ad = none → x.len = 0) ∧
    (∀ a, ad = some a → ∀ (j : Nat) u, news[j]? = some u → w.cell? (a.add j) = some u) ∧ RowRd T w A t x news.toArray ∧ ∀ u ∈ news, Sx.oneV u = true := by
  cases h with
  | nilI h => exact ⟨none, 0, [], rfl, Nat.le_refl _, by simp [D.len], fun _ => rfl, (by simp), .inl ⟨_, _, h, rfl, by simp⟩, by simp⟩
  | nilR h => exact ⟨none, 0, [], rfl, Nat.le_refl _, by simp [D.len], fun _ => rfl, (by simp), .inr ⟨_, _, h, rfl, fun _ _ => undef, by simp, by simp, by simp⟩, by simp⟩
  | @ints _ k l ad cap h h1 h3 =>
    have hz : esz T t = 1 := by simp [esz, h, El.size]
    refine ⟨some ad, cap, l.map (.int k), rfl, h1, by simp [hz, D.len], by simp, ?_, .inl ⟨k, l, h, rfl, fun i n hi => by simp [hi]⟩, ?_⟩
    · intro a' ha j u hu
      obtain rfl := Option.some.inj ha
      simp only [List.getElem?_map, Option.map_eq_some_iff] at hu
      obtain ⟨n, hn, rfl⟩ := hu
      exact (h3 j n hn).2.2
    · intro u hu
      simp only [List.mem_map] at hu
      obtain ⟨n, _, rfl⟩ := hu
      rfl
  | @rows _ c l ad cap vs h h1 h3 h4 h5 =>
    have hz : esz T t = c.length := by simp [esz, h, El.size]
    have get : ∀ {m : Nat} {u : Value}, ((List.range (l.length * c.length)).map fun m => vs (m / c.length) (m % c.length))[m]? = some u → m < l.length * c.length ∧ u = vs (m / c.length) (m % c.length) := by
      intro m u hm
      simp only [List.getElem?_map, Option.map_eq_some_iff] at hm
      obtain ⟨m', hm', rfl⟩ := hm
      obtain ⟨h6, h7⟩ := List.getElem?_eq_some_iff.1 hm'
      simp at h6 h7
      subst h7
      exact ⟨h6, rfl⟩
    have parts : ∀ {m : Nat}, m < l.length * c.length → ∃ (e : List D) (d : D) (ct : Ct), l[m / c.length]? = some e ∧ e[m % c.length]? = some d ∧ c[m % c.length]? = some ct ∧ m / c.length * c.length + m % c.length = m := by
      intro m hm
      have hc : 0 < c.length := by
        rcases Nat.eq_zero_or_pos c.length with e | e
        · rw [e] at hm; omega
        · exact e
      have hi : m / c.length < l.length := by rw [Nat.div_lt_iff_lt_mul hc]; exact hm
      have hj : m % c.length < c.length := Nat.mod_lt _ hc
      have hle := h3 _ _ (List.getElem?_eq_getElem hi)
      exact ⟨_, _, _, List.getElem?_eq_getElem hi, List.getElem?_eq_getElem (by omega), List.getElem?_eq_getElem hj, by rw [Nat.mul_comm]; exact Nat.div_add_mod m c.length⟩
    refine ⟨some ad, cap, (List.range (l.length * c.length)).map fun m => vs (m / c.length) (m % c.length), rfl, h1, by simp [hz, D.len], by simp, ?_, .inr ⟨c, l, h, rfl, vs, h3, ?_, h5⟩, ?_⟩
    · intro a' ha j u hu
      obtain rfl := Option.some.inj ha
      obtain ⟨hlt, rfl⟩ := get hu
      obtain ⟨e, d, ct, p1, p2, p3, p4⟩ := parts hlt
      have := (h4 _ _ _ _ p1 p2).2.2
      rwa [p4] at this
    · intro i e j d hi hj
      have h6 := (List.getElem?_eq_some_iff.1 hi).1
      have h7 := (List.getElem?_eq_some_iff.1 hj).1
      rw [h3 i e hi] at h7
      have hlt := mul_add_lt h6 h7
      have e1 : (i * c.length + j) / c.length = i := by
        rw [Nat.mul_comm, Nat.mul_add_div (by omega), Nat.div_eq_of_lt h7, Nat.add_zero]
      have e2 : (i * c.length + j) % c.length = j := by
        rw [Nat.mul_comm, Nat.mul_add_mod, Nat.mod_eq_of_lt h7]
      simp [hlt, e1, e2]
    · intro u hu
      obtain ⟨m, hm⟩ := List.mem_iff_getElem?.1 hu
      obtain ⟨hlt, rfl⟩ := get hm
      obtain ⟨e, d, ct, p1, p2, p3, p4⟩ := parts hlt
      exact (h5 _ _ _ _ _ p1 p3 p2).oneV
/-- a slice's word, its value's cells -/
theorem slice_data (ho : OwnOk T E.G w β E.X own) (hs : ∀ n B, snap n = some B → own n = some B) {c : C} {v : Value} {t : TypeId} {x : D} (hc : DenC T w β (Av E.X β own) own c v) (hx : dataOf T snap t c = some x) :
    ∃ ad cap news, v = .slice ad x.len cap ∧ x.len ≤ cap ∧ List.length news = x.len * esz T t ∧ (ad = none → x.len = 0) ∧ (∀ a, ad = some a → ∀ (j : Nat) u, news[j]? = some u → w.cell? (a.add j) = some u) ∧
      RowRd T w (Av E.X β own) t x news.toArray ∧ ∀ u ∈ news, oneV u = true := by
  have nil : ∀ (ad : Option Addr) (x : D), (match T t with | some (.ints _) => some (D.ints []) | some (.rows _) => some (D.rows []) | none => none) = some x →
      ∃ ad' cap news, Value.slice ad 0 0 = .slice ad' x.len cap ∧ x.len ≤ cap ∧ List.length news = x.len * esz T t ∧ (ad' = none → x.len = 0) ∧ (∀ a, ad' = some a → ∀ (j : Nat) u, news[j]? = some u → w.cell? (a.add j) = some u) ∧
      RowRd T w (Av E.X β own) t x news.toArray ∧ ∀ u ∈ news, oneV u = true := by
    intro ad x hx
    split at hx
    · rename_i k h
      obtain rfl := Option.some.inj hx
      exact ⟨ad, 0, [], rfl, Nat.le_refl _, by simp [D.len], fun _ => rfl, by simp, .inl ⟨_, _, h, rfl, by simp⟩, by simp⟩
    · rename_i k h
      obtain rfl := Option.some.inj hx
      exact ⟨ad, 0, [], rfl, Nat.le_refl _, by simp [D.len], fun _ => rfl, by simp, .inr ⟨_, _, h, rfl, fun _ _ => undef, by simp, by simp, by simp⟩, by simp⟩
    · cases hx
  unfold dataOf at hx
  split at hx
  · rename_i u y
    cases hb : t.beq u with
    | false => simp [hb] at hx
    | true =>
      simp only [hb, cond_true, Option.some.injEq] at hx
      subst hx
      obtain rfl := Nat.eq_of_beq_eq_true hb
      exact Rd.row hc
  · rename_i n u
    split at hx
    · rename_i u' y hn
      cases hb : (t.beq u && t.beq u') with
      | false => simp [hb] at hx
      | true =>
        simp only [hb, cond_true, Option.some.injEq] at hx
        subst hx
        simp only [Bool.and_eq_true] at hb
        obtain rfl := Nat.eq_of_beq_eq_true hb.1
        obtain rfl := Nat.eq_of_beq_eq_true hb.2
        obtain ⟨y', b1, b2⟩ := hc
        have e := (hs _ _ hn).symm.trans b1
        simp only [Option.some.injEq, Blk.row.injEq, true_and] at e
        subst e
        obtain ⟨cs, r1, r2⟩ := ho.blk n _ b1
        cases hβ : β n with
        | none =>
          rw [hβ] at b2 r2
          obtain ⟨b3, ad, rfl⟩ := b2
          have hcut := RowRd.cut r1 (by rw [b3]; omega)
          rw [b3] at hcut
          refine ⟨ad, 0, [], by rw [b3], by omega, by simp [b3], fun _ => b3, by simp, ?_, by simp⟩
          simpa using hcut.1
        | some b =>
          rw [hβ] at b2 r2
          obtain ⟨cap, cs', te', rfl, c1, c2, c3⟩ := b2
          obtain ⟨te, cap', d1, d2, d3⟩ := r2
          have hle : y.len * esz T t ≤ cs.size := by rw [d2]; exact Nat.mul_le_mul_right _ d3
          obtain ⟨h1, h2⟩ := RowRd.cut r1 hle
          refine ⟨_, cap, cs.toList.take (y.len * esz T t), rfl, c3, by simp; omega, by simp, ?_, h1, h2⟩
          intro a' ha j u hu
          obtain rfl := Option.some.inj ha
          rw [add_lit, cell_of_block d1]
          rw [List.getElem?_take] at hu
          split at hu
          · simpa using hu
          · cases hu
    · cases hx
  · obtain ⟨ad, rfl⟩ := hc
    exact nil ad x hx
  · obtain ⟨rfl, _⟩ := hc
    exact nil none x hx
  · cases hx
/-- rows put together -/
theorem RowRd.app {t : TypeId} {x y r : D} {olds news rest : List Value} (hx : RowRd T w A t x olds.toArray) (hy : RowRd T w A t y news.toArray) (h1 : olds.length = x.len * esz T t) (h2 : news.length = y.len * esz T t)
    (hr : dapp T t x y = some r) : RowRd T w A t r (olds ++ news ++ rest).toArray ∧ r.len = x.len + y.len := by
  rcases hx with ⟨k, l, a1, rfl, a2⟩ | ⟨c, l, a1, rfl, vs, a2, a3, a4⟩
  · rcases hy with ⟨k', l', b1, rfl, b2⟩ | ⟨c', l', b1, _⟩
    · have hz : esz T t = 1 := by simp [esz, a1, El.size]
      obtain rfl : k = k' := by rw [a1] at b1; simpa using b1
      simp only [dapp, a1, D.toInts, Option.some.injEq] at hr
      subst hr
      simp only [D.len, hz, Nat.mul_one] at h1 h2 ⊢
      refine ⟨.inl ⟨k, _, a1, rfl, fun i n hi => ?_⟩, by simp⟩
      by_cases hlt : i < l.length
      · rw [List.getElem?_append_left hlt] at hi
        have := a2 i n hi
        simp only [List.getElem?_toArray] at this ⊢
        rw [List.append_assoc, List.getElem?_append_left (by omega)]
        exact this
      · rw [List.getElem?_append_right (by omega)] at hi
        have := b2 _ n hi
        have hl2 := (List.getElem?_eq_some_iff.1 hi).1
        simp only [List.getElem?_toArray] at this ⊢
        rw [List.getElem?_append_left (by simp; omega), List.getElem?_append_right (by omega), h1]
        exact this
    · rw [a1] at b1; cases b1
  · rcases hy with ⟨k', l', b1, _⟩ | ⟨c', l', b1, rfl, vs', b2, b3, b4⟩
    · rw [a1] at b1; cases b1
    · have hz : esz T t = c.length := by simp [esz, a1, El.size]
      obtain rfl : c = c' := by rw [a1] at b1; simpa using b1
      simp only [dapp, a1, D.toRows, Option.some.injEq] at hr
      subst hr
      simp only [D.len, hz] at h1 h2 ⊢
      refine ⟨.inr ⟨c, _, a1, rfl, fun i j => if i < l.length then vs i j else vs' (i - l.length) j, ?_, ?_, ?_⟩, by simp⟩
      · intro i e hi
        by_cases hlt : i < l.length
        · rw [List.getElem?_append_left hlt] at hi; exact a2 i e hi
        · rw [List.getElem?_append_right (by omega)] at hi; exact b2 _ e hi
      · intro i e j d hi hj
        by_cases hlt : i < l.length
        · rw [List.getElem?_append_left hlt] at hi
          have h5 := a3 i e j d hi hj
          have h6 := (List.getElem?_eq_some_iff.1 hj).1
          rw [a2 i e hi] at h6
          have := mul_add_lt hlt h6
          simp only [List.getElem?_toArray, if_pos hlt] at h5 ⊢
          rw [List.append_assoc, List.getElem?_append_left (by omega)]
          exact h5
        · rw [List.getElem?_append_right (by omega)] at hi
          have h5 := b3 _ e j d hi hj
          have h6 := (List.getElem?_eq_some_iff.1 hj).1
          rw [b2 _ e hi] at h6
          have h7 := (List.getElem?_eq_some_iff.1 hi).1
          have := mul_add_lt h7 h6
          have e1 : i * c.length + j = l.length * c.length + ((i - l.length) * c.length + j) := by
            have : i = l.length + (i - l.length) := by omega
            rw [this, Nat.add_mul]
            have : l.length + (i - l.length) - l.length = i - l.length := by omega
            rw [this]; omega
          simp only [List.getElem?_toArray, if_neg hlt] at h5 ⊢
          rw [e1, List.getElem?_append_left (by simp; omega), List.getElem?_append_right (by omega), h1, Nat.add_sub_cancel_left]
          exact h5
      · intro i e j ct d hi hj hd
        by_cases hlt : i < l.length
        · rw [List.getElem?_append_left hlt] at hi
          simp only [if_pos hlt]
          exact a4 i e j ct d hi hj hd
        · rw [List.getElem?_append_right (by omega)] at hi
          simp only [if_neg hlt]
          exact b4 _ e j ct d hi hj hd
end
end Sx
/-! append. -/
namespace Sx
open Go
set_option linter.unusedVariables false
set_option linter.unusedSimpArgs false
section
variable {S : Pr} {E : Ctx} {β : Nat → Option Nat} {env : Env} {own snap : Own} {a : Act} {w : World}
theorem fr_drew (w : World) (L : Nat → Prop) : Fr w w.drew L := ⟨rfl, rfl, rfl, Nat.le_refl _, fun _ _ _ => rfl⟩
theorem fr_setRow (w : World) (g : Nat) (cs : Array Value) : Fr w (w.setRow g cs) fun x => x = g := ⟨rfl, rfl, rfl, by simp, fun k _ hk => setRow_other w g k cs hk⟩
/-- what append does: in place, or into a new block -/
theorem append_run {P : Program} {t e : TypeId} {i : TypeInfo} {z : Value} {ty : TypeId} (ht : P.underlying t = some (.slice e)) (hi : P.info? e = some i) (hz : i.zero = some z) (hzs : z.cells.size = i.size)
    {ad ad2 : Option Addr} {n cap m cap2 : Nat} {olds news : List Value} (h1 : olds.length = n * i.size) (h2 : news.length = m * i.size)
    (c1 : ∀ a, ad = some a → ∀ (j : Nat) u, olds[j]? = some u → w.cell? (a.add j) = some u) (c2 : ∀ a, ad2 = some a → ∀ (j : Nat) u, news[j]? = some u → w.cell? (a.add j) = some u)
    (n1 : ad = none → n = 0 ∧ cap = 0) (n2 : ad2 = none → m = 0) (hn : n ≤ cap) (o2 : ∀ u ∈ news, oneV u = true) (hb : (n + m) * i.bytes ≤ 140737488355328) (h63 : n + m ≤ 9223372036854775807)
    (hin : n + m ≤ cap → m = 0 ∨ ∃ b cs te, ad = some ⟨b, 0, none⟩ ∧ w.heap[b]? = some (.cells cs te (0, 0)) ∧ cs.size = cap * i.size) :
    (n + m ≤ cap ∧ m = 0 ∧ (Builtin.append_ #[t, t] ty #[.slice ad n cap, .slice ad2 m cap2]).run P w = .ok (.slice ad n cap) w) ∨
    (n + m ≤ cap ∧ 0 < m ∧ ∃ b cs te, ad = some ⟨b, 0, none⟩ ∧ w.heap[b]? = some (.cells cs te (0, 0)) ∧ cs.size = cap * i.size ∧
      (Builtin.append_ #[t, t] ty #[.slice ad n cap, .slice ad2 m cap2]).run P w = .ok (.slice ad (n + m) cap) (w.setRow b (cs.toList.take (n * i.size) ++ news ++ cs.toList.drop (n * i.size + news.length)).toArray)) ∨
    (cap < n + m ∧ ∃ cap' rest, n + m ≤ cap' ∧ List.length rest = (cap' - (n + m)) * i.size ∧
      (Builtin.append_ #[t, t] ty #[.slice ad n cap, .slice ad2 m cap2]).run P w = .ok (.slice (some ⟨w.heap.size, 0, none⟩) (n + m) cap') (w.drew.alloc (.cells (olds ++ news ++ rest).toArray e))) := by
  by_cases hroom : n + m ≤ cap
  · rcases Nat.eq_zero_or_pos m with rfl | hm
    · left
      refine ⟨hroom, rfl, ?_⟩
      have hnews : news = [] := List.length_eq_zero_iff.1 (by simpa using h2)
      subst hnews
      cases ad with
      | none =>
        obtain ⟨rfl, rfl⟩ := n1 rfl
        cases ad2 <;> simp [Builtin.append_, run_underlying ht, Go.sizeOf, typeInfo, hi, Builtin.lenOf, Builtin.firstCells, loadCells, loadCellsFrom]
      | some a =>
        have hroom' : n ≤ cap := hn
        cases ad2 <;> simp [Builtin.append_, run_underlying ht, Go.sizeOf, typeInfo, hi, Builtin.lenOf, Builtin.firstCells, loadCells, loadCellsFrom, hroom', storeCells]
    · right; left
      refine ⟨hroom, hm, ?_⟩
      rcases hin hroom with h0 | ⟨b, cs, te, rfl, d1, d2⟩
      · omega
      refine ⟨b, cs, te, rfl, d1, d2, ?_⟩
      cases ad2 with
      | none => have := n2 rfl; omega
      | some a2 =>
        have hfit : n * i.size + 0 + news.length ≤ cs.size := by rw [h2, d2, Nat.add_zero, ← Nat.add_mul]; exact Nat.mul_le_mul_right _ hroom
        have hf := run_firstCells_some (P := P) w i.size m a2 m cap2 news h2 (c2 a2 rfl)
        have hst := run_storeCells_at P b (n * i.size) te news 0 cs w d1 hfit (fun v hv => oneCell_of (o2 v hv))
        simp only [Nat.add_zero] at hst
        simp [Builtin.append_, run_underlying ht, Go.sizeOf, typeInfo, hi, Builtin.lenOf, hroom, hf, Addr.add_lit, hst]
  · right; right
    refine ⟨by omega, grownCap w (n + m) cap e, (Builtin.zeroCells z.cells (grownCap w (n + m) cap e - (n + m))).toList, ?_, ?_, ?_⟩
    · unfold grownCap
      simp only [Question.cut]
      omega
    · rw [Array.length_toList, size_zeroCells, hzs]
    · have hfit := growslice_fits (need := n + m) (old := cap) (bytes := i.bytes) (by omega) hb
      cases ad2 with
      | none => have := n2 rfl; omega
      | some a2 =>
        cases ad with
        | none =>
          obtain ⟨rfl, rfl⟩ := n1 rfl
          have holds : olds = [] := List.length_eq_zero_iff.1 (by simpa using h1)
          subst holds
          have hr := run_append_nil (P := P) w t ty e i z ht hi hz a2 m cap2 news h2 (c2 a2 rfl) (by omega) (by omega) (by simp only [Nat.zero_add] at hb; omega)
          simp only [Nat.zero_add, List.nil_append]
          rw [hr]
          congr 3
          apply Array.ext'
          simp
        | some a1 =>
          have hr := run_append_grow (P := P) w t ty e i z ht hi hz a1 n cap olds h1 (c1 a1 rfl) a2 m cap2 news h2 (c2 a2 rfl) (by omega) (by omega) hfit
          rw [hr]
          congr 3
          apply Array.ext'
          simp [List.append_assoc]
variable (hT : TOk S.P S.tt) (h : Rel E β env own a w) (hs : ∀ n B, snap n = some B → own n = some B) (hET : E.T = S.T)
theorem bytes_info (hT : TOk S.P S.tt) {t : TypeId} {by_ : Nat} (hb : bytesT S t = some by_) {el : El} (hel : S.T t = some el) :
    ∃ e i z, S.P.underlying t = some (.slice e) ∧ S.P.info? e = some i ∧ i.zero = some z ∧ z.cells.size = i.size ∧ i.bytes = by_ ∧ i.size = esz S.T t := by
  unfold bytesT at hb
  split at hb
  · rename_i e c z b h0
    split at hb
    · rename_i ie hie
      obtain rfl := Option.some.inj hb
      obtain ⟨d, inf, zv, _, _, hi, hsz, hz, hzc, hzl, _, hby, _⟩ := (hT.get hie).ok
      obtain ⟨ie', h1, h2, _⟩ := el_size hT h0 hel
      rw [hie] at h1
      obtain rfl := Option.some.inj h1
      refine ⟨e, inf, zv, (hT.get h0).slice rfl, hi, hz, ?_, hby, ?_⟩
      · rw [← Array.length_toList, hzc, hzl, hsz]
      · rw [hsz, h2]; simp [esz, hel]
    · cases hb
  · cases hb
def nilD : El → D | .ints _ => .ints [] | .rows _ => .rows []
/-- append onto nothing: a new row -/
theorem nil_val {T : Tab} {A : Nat → Prop} {c : C} {v : Value} (hc : DenC T w β A own c v) (hn : isNilS c = true) : ∃ ad, v = .slice ad 0 0 := by
  unfold isNilS at hn
  split at hn
  · exact hc
  · exact ⟨none, hc.1⟩
  · cases hn
theorem Rel.newNil (h : Rel E β env own a w) {d : Nat} (hd : own d = none) (hd0 : E.own0 d = none) {t : TypeId} {x : D} (hx : RowRd E.T w (Av E.X β own) t x #[]) (hl : x.len = 0) :
    ∃ β', (∀ m, m ≠ d → β' m = β m) ∧ β' d = none ∧ Rel E β' env (fset own d (.row t x)) a w := by
  let β' : Nat → Option Nat := fun m => if m = d then none else β m
  have e1 : ∀ m, m ≠ d → β' m = β m := fun m hm => by simp [β', hm]
  have e2 : β' d = none := by simp [β']
  have hA : ∀ b, b < w.heap.size → ¬ Av E.X β own b → ¬ Av E.X β' (fset own d (.row t x)) b := by
    rintro b _ hna (hx | ⟨m, h1, h2⟩)
    · exact hna (.inl hx)
    · by_cases hm : m = d
      · subst hm; rw [e2] at h2; cases h2
      · rw [fset_ne _ _ hm] at h1; rw [e1 m hm] at h2; exact hna (.inr ⟨m, h1, h2⟩)
  have old : ∀ m, own m ≠ none → m ≠ d := fun m hm e => hm (e ▸ hd)
  have k : Keep own w β (fset own d (.row t x)) w β' := by
    intro m B hm
    have hmd := old m (by simp [hm])
    refine ⟨e1 m hmd, ?_⟩
    rw [fset_ne _ _ hmd]
    cases B with
    | cells t l => exact ⟨_, _, hm⟩
    | row t x => exact ⟨_, hm, rfl, fun b cs te _ hb => ⟨_, hb, rfl⟩⟩
    | map t l => exact ⟨_, hm⟩
  have s : Stay w (Av E.X β own) w (Av E.X β' (fset own d (.row t x))) := ⟨Nat.le_refl _, fun b hb hn => ⟨rfl, hA b hb hn⟩⟩
  refine ⟨β', e1, e2, h.step (Fr.refl _ _) hA k ⟨?_, ?_, ?_⟩ ?_ (fun m h1 h2 => by
    by_cases hm : m = d
    · rw [hm]; exact hd0
    · rw [fset_ne _ _ hm] at h2; exact absurd h1 h2)⟩
  · intro m B hm
    by_cases hmd : m = d
    · subst hmd; rw [fset_same] at hm; obtain rfl := Option.some.inj hm
      exact ⟨#[], hx.stay s, by rw [e2]; exact hl⟩
    · rw [fset_ne _ _ hmd] at hm
      exact (h.blks.blk m B hm).keep s k hm fun _ _ => rfl
  · intro m m' b h1 h2 h3 h4
    by_cases hm : m = d
    · subst hm; rw [e2] at h3; cases h3
    · by_cases hm' : m' = d
      · subst hm'; rw [e2] at h4; cases h4
      · rw [fset_ne _ _ hm] at h1; rw [fset_ne _ _ hm'] at h2; rw [e1 m hm] at h3; rw [e1 m' hm'] at h4
        exact h.blks.inj m m' b h1 h2 h3 h4
  · intro m b h1 h2
    by_cases hm : m = d
    · subst hm; rw [e2] at h2; cases h2
    · rw [fset_ne _ _ hm] at h1; rw [e1 m hm] at h2; exact h.blks.loc m b h1 h2
  · intro m b h1 h2
    by_cases hm : m = d
    · subst hm; rw [e2] at h2; cases h2
    · rw [fset_ne _ _ hm] at h1; rw [e1 m hm] at h2; exact h.mine m b h1 h2
include hT h hs hET in
theorem n_append {o : Oper} {d : Nat} {args : Array Operand} {ts : Array TypeId} {K : C × Blk → Prop} (hd : own d = none) (hd0 : E.own0 d = none) (ho : o.op = .call ⟨.builtin .append, args, ts⟩) (hk : (opN S snap env d o).wp K) : NOk S E env own a w o d K := by
  simp only [opN, ho] at hk
  split at hk
  · rename_i x y t t' hx ht
    obtain rfl := arr2 hx
    obtain rfl := arr2 ht
    split at hk
    · rename_i cx cy by_ h0 h1 h2
      obtain ⟨hb, hk1⟩ := wp_cond_fail hk
      clear hk
      simp only [Bool.and_eq_true] at hb
      obtain ⟨⟨hb1, hb2⟩, hb3⟩ := hb
      obtain rfl := Nat.eq_of_beq_eq_true hb1
      have hb3 := Nat.le_of_ble_eq_true hb3
      split at hk1
      · rename_i yd h3
        split at hk1
        · rename_i r h4
          obtain ⟨hn, hk2⟩ := need_of hk1
          clear hk1
          obtain ⟨ad, hvx⟩ := nil_val (evC_den h h0) hb2
          obtain ⟨ad2, cap2, news, hvy, p1, p2, p3, p4, p5, p6⟩ := slice_data h.blks hs (evC_den h h1) (by rw [hET]; exact h3)
          obtain ⟨el, hel⟩ : ∃ el, S.T t = some el := by
            cases hq : S.T t with
            | none => simp [dapp, hq] at h4
            | some el => exact ⟨el, rfl⟩
          obtain ⟨e, i, z, q1, q2, q3, q4, q5, q6⟩ := bytes_info hT h2 hel
          rw [hET, ← q6] at p2
          have hz : RowRd E.T w (Av E.X β own) t (nilD el) (([] : List Value)).toArray := by
            cases el with
            | ints k => exact .inl ⟨k, [], by rw [hET]; exact hel, rfl, by simp⟩
            | rows c => exact .inr ⟨c, [], by rw [hET]; exact hel, rfl, fun _ _ => undef, by simp, by simp, by simp⟩
          have hr : dapp E.T t (nilD el) yd = some r := by
            rw [hET]
            cases el with
            | ints k => exact h4
            | rows c => simpa [dapp, hel, D.toRows, nilD] using h4
          have happ := fun rest => RowRd.app (rest := rest) hz p5 (by cases el <;> simp [D.len, nilD]) (by rw [hET, ← q6]; exact p2) hr
          have hlen : r.len = yd.len := by
            have := (happ []).2
            cases el <;> simpa [D.len, nilD] using this
          have hmul : yd.len * i.bytes ≤ 274877906944 * 512 := Nat.mul_le_mul hn (by omega)
          have hrun := append_run (P := S.P) (w := w) (ty := o.type) q1 q2 q3 q4 (ad := ad) (n := 0) (cap := 0) (olds := []) (ad2 := ad2) (m := yd.len) (cap2 := cap2) (by simp) p2 (by simp) p4 (fun _ => ⟨rfl, rfl⟩) p3 (Nat.le_refl _) p6 (by rw [Nat.zero_add]; omega) (by omega) (fun hh => .inl (by omega))
          have hexec : (execOp a.eval o).run S.P w = ((Builtin.append_ #[t, t] o.type #[.slice ad 0 0, .slice ad2 yd.len cap2]).run S.P w).andThen fun v w => .ok (.value v) w := by
            rw [call_builtin ho]
            simp [builtin, hvx, hvy]
          rcases hrun with ⟨e1, e2, e3⟩ | ⟨e1, e0, _⟩ | ⟨e1, cap', rest, e2, e3, e4⟩
          · obtain ⟨β', f1, f2, hR⟩ := h.newNil (d := d) hd hd0 (t := t) (x := r) (by
              have hnews : news = [] := List.length_eq_zero_iff.1 (by rw [p2, e2, Nat.zero_mul])
              have := (happ []).1
              rw [hnews] at this
              simpa using this) (by omega)
            refine ⟨_, _, .slice ad 0 0, w, β', hk2, by rw [hexec, e3]; rfl, hR, r, fset_same _ _ _, ?_⟩
            rw [f2]
            exact ⟨by omega, ad, rfl⟩
          · omega
          · have h' := h.idle (fr_drew w fun _ => False)
            obtain ⟨β', f1, f2, hR, s, k⟩ := h'.new (n := d) hd hd0 (o := .cells (([] : List Value) ++ news ++ rest).toArray e) (B := .row t r) (fun β' f1 f2 s k => by
              refine ⟨_, (RowRd.stay (w := w) (w' := w.drew) (A := Av E.X β own) (A' := Av E.X β own) ⟨Nat.le_refl _, fun b hb hn => ⟨rfl, hn⟩⟩ (happ rest).1).stay s, ?_⟩
              rw [f2]
              refine ⟨e, cap', heap_new _ _, ?_, by omega⟩
              rw [hET, ← q6]
              simp only [List.size_toArray, List.length_append, List.length_nil, Nat.zero_add] at e3 ⊢
              rw [p2, e3, ← Nat.add_mul]
              congr 1
              omega)
            refine ⟨_, _, .slice (some ⟨w.heap.size, 0, none⟩) yd.len cap', _, β', hk2, by rw [hexec, e4]; simp, hR, r, fset_same _ _ _, ?_⟩
            rw [f2]
            refine ⟨cap', _, e, by rw [hlen]; rfl, heap_new _ _, ?_, by omega⟩
            rw [hET, ← q6]
            simp only [List.size_toArray, List.length_append, List.length_nil, Nat.zero_add] at e3 ⊢
            rw [p2, e3, ← Nat.add_mul]
            congr 1
            omega
        · exact hk1.elim
      · exact hk1.elim
    · exact hk.elim
  · exact hk.elim
end
end Sx
/-! Stores; all that makes a block. -/
namespace Sx
open Go
set_option linter.unusedVariables false
set_option linter.unusedSimpArgs false
def opS (S : Pr) (env : Env) (own : Own) (o : Oper) : Out Own :=
  match o.op with
  | .store t x y => match evC env x, evU env y, sizeT S t with
    | some (.p n off), some u, some sz => match own n with
      | some (.cells tt l) => bif u.cells.length.beq sz && (off + sz).ble l.length then (seeL (l.take off ++ u.cells ++ l.drop (off + sz)) fun r => .ret (fset own n (.cells tt r))) else .fail
      | _ => .fail
    | some (.q n i off), some u, some sz => match own n with
      | some (.row tt x) => match S.T tt, x, u.cells with
        | some (.ints k), .ints l, [c] => match dOf S.T (.int k) c with
          | some d => bif off.beq 0 && sz.beq 1 then .ret (fset own n (.row tt (.ints (l.set i.toNat d.toInt)))) else .fail
          | none => .fail
        | some (.rows cts), .rows l, cs => match elemsD S.T ((cts.drop off).take sz) cs with
          | some ds => bif cs.length.beq sz && (off + sz).ble cts.length then .ret (fset own n (.row tt (.rows (l.set i.toNat ((l.getD i.toNat []).take off ++ ds ++ (l.getD i.toNat []).drop (off + sz)))))) else .fail
          | none => .fail
        | _, _, _ => .fail
      | _ => .fail
    | _, _, _ => .fail
  | _ => .fail
section
variable {S : Pr} {E : Ctx} {β : Nat → Option Nat} {env : Env} {own snap : Own} {a : Act} {w : World}
variable (hT : TOk S.P S.tt) (h : Rel E β env own a w) (hs : ∀ n B, snap n = some B → own n = some B) (hET : E.T = S.T)
include hT h hs hET in
theorem opN_sound {o : Oper} {d : Nat} {K : C × Blk → Prop} (hd : own d = none) (hd0 : E.own0 d = none) (hk : (opN S snap env d o).wp K) : NOk S E env own a w o d K := by
  cases ho : o.op with
  | alloc e => exact n_alloc hT h hd hd0 ho hk
  | box e x => exact n_box h hd hd0 ho hk
  | makeSlice t x y => exact n_makeSlice hT h hET hd hd0 ho hk
  | call c =>
    obtain ⟨callee, args, ts⟩ := c
    cases callee with
    | builtin b =>
      cases b with
      | append => exact n_append hT h hs hET hd hd0 ho hk
      | _ => simp only [opN, ho] at hk; exact hk.elim
    | _ => simp only [opN, ho] at hk; exact hk.elim
  | _ => simp only [opN, ho] at hk; exact hk.elim
theorem splice_get {α : Type} (l v : List α) (p j : Nat) (hp : p + v.length ≤ l.length) : (l.take p ++ v ++ l.drop (p + v.length))[j]? = if j < p then l[j]? else if j < p + v.length then v[j - p]? else l[j]? := by
  have e1 : (l.take p).length = p := by simp; omega
  by_cases h1 : j < p
  · rw [if_pos h1, List.append_assoc, List.getElem?_append_left (by omega), List.getElem?_take, if_pos h1]
  · rw [if_neg h1]
    by_cases h2 : j < p + v.length
    · rw [if_pos h2, List.getElem?_append_left (by simp; omega), List.getElem?_append_right (by omega), e1]
    · rw [if_neg h2, List.getElem?_append_right (by simp; omega)]
      simp only [List.length_append, e1, List.getElem?_drop]
      congr 1
      omega
theorem store_run {P : Program} {t te : TypeId} {g off : Nat} {v : Value} {cs : Array Value} {inf : TypeInfo} (hi : P.info? t = some inf) (hv : v.cells.size = inf.size) (h1 : ∀ u ∈ v.cells.toList, oneV u = true)
    (hg : w.heap[g]? = some (.cells cs te (0, 0))) (hj : off + v.cells.toList.length ≤ cs.size) :
    (storeVar t ⟨g, off, none⟩ v).run P w = .ok () (w.setRow g (cs.toList.take off ++ v.cells.toList ++ cs.toList.drop (off + v.cells.toList.length)).toArray) := by
  have hst := run_storeCells_at P g off te v.cells.toList 0 cs w hg (by simpa using hj) (fun u hu => oneCell_of (h1 u hu))
  simp only [Nat.add_zero] at hst
  simp [storeVar, Sem.run_bind, Go.sizeOf, typeInfo, hi, hv, hst]
def SOk (S : Pr) (E : Ctx) (β : Nat → Option Nat) (env : Env) (a : Act) (w : World) (o : Oper) (K : Own → Prop) : Prop :=
  ∃ own' w', K own' ∧ (execOp a.eval o).run S.P w = .ok .skip w' ∧ Rel E β env own' a w'
theorem All2.one {T : Tab} {A : Nat → Prop} : ∀ {l : List C} {m : List Value}, All2 (DenC T w β A own) l m → ∀ u ∈ m, oneV u = true
  | [], [], _, u, hu => by simp at hu
  | _ :: _, _ :: _, hh, u, hu => by
    rcases List.mem_cons.1 hu with rfl | hu
    · exact hh.1.oneV
    · exact All2.one hh.2 u hu
  | [], _ :: _, hh, _, _ => hh.elim
  | _ :: _, [], hh, _, _ => hh.elim
include hT h hET in
theorem opS_sound {o : Oper} {K : Own → Prop} (hk : (opS S env own o).wp K) : SOk S E β env a w o K := by
  unfold opS at hk
  split at hk
  · rename_i t x y ho
    have exec : ∀ {ad : Addr} {v : Value} {w' : World}, a.eval x = .pointer (some ad) → a.eval y = v → (storeVar t ad v).run S.P w = .ok () w' → (execOp a.eval o).run S.P w = .ok .skip w' := by
      intro ad v w' e1 e2 e3
      simp [execOp, ho, e1, e2, Instr.storeAt, Instr.sureAddr, Sem.run_bind, e3]
    split at hk
    · rename_i n off u sz h0 h1 h2
      obtain ⟨inf, hinf, hsz⟩ := sizeT_info hT h2
      have hu := cells_den (evU_den h h1)
      have hul := hu.length
      obtain ⟨b, t', l', p1, p2, p3⟩ := evC_den h h0
      split at hk
      · rename_i tt l hn
        obtain ⟨hb, hk1⟩ := wp_cond_fail hk
        rw [seeL_eq] at hk1
        simp only [Bool.and_eq_true] at hb
        have q1 := Nat.eq_of_beq_eq_true hb.1
        have q2 := Nat.le_of_ble_eq_true hb.2
        obtain ⟨b', cs, r1, r2, r3⟩ := h.blks.blk n _ hn
        have : b' = b := by rw [p2] at r1; exact (Option.some.inj r1).symm
        subst this
        have hcl := r3.length
        have hst := store_run (P := S.P) (t := t) (off := off) (v := a.eval y) hinf (by rw [← Array.length_toList, ← hul, q1, hsz]) (All2.one hu) r2 (by simp only [List.size_toArray]; omega)
        have hl2 : (a.eval y).cells.toList.length = sz := by omega
        rw [hl2] at hst
        refine ⟨_, _, hk1, exec p3 rfl hst, ?_⟩
        refine h.upd hn r1 (fr_setRow _ _ _) ⟨tt, _, rfl⟩ fun s k => ⟨b', _, r1, setRow_heap _ _ _ _ _ _ r2, ?_⟩
        exact (((r3.take off).append hu).append (r3.drop _)).mono fun _ _ => DenC.keep s k
      · exact hk.elim
    · rename_i n i off u sz h0 h1 h2
      obtain ⟨inf, hinf, hsz⟩ := sizeT_info hT h2
      have hu := cells_den (evU_den h h1)
      have hul := hu.length
      obtain ⟨t', x', b, p1, p2, p3, p4, p5⟩ := evC_den h h0
      split at hk
      · rename_i tt xd hn
        have e := hn.symm.trans p1
        simp only [Option.some.injEq, Blk.row.injEq] at e
        obtain ⟨rfl, rfl⟩ := e
        obtain ⟨cs, r1, r2⟩ := h.blks.blk n _ hn
        rw [p2] at r2
        obtain ⟨te, cap, r3, r4, r5⟩ := r2
        split at hk
        · rename_i k l c hT1 hu1
          split at hk
          · rename_i d hd
            obtain ⟨hb, hk1⟩ := wp_cond_fail hk
            simp only [Bool.and_eq_true] at hb
            obtain rfl := Nat.eq_of_beq_eq_true hb.1
            obtain rfl := Nat.eq_of_beq_eq_true hb.2
            have hz : esz E.T tt = 1 := by rw [hET]; simp [esz, hT1, El.size]
            rw [hu1] at hu hul
            obtain ⟨v, hv, hdv⟩ := hu.get (i := 0) rfl
            rw [← hET] at hd
            have hrd := dOf_rd hd hdv
            have hvl : (a.eval y).cells.toList = [v] := by
              cases hp : (a.eval y).cells.toList with
              | nil => rw [hp] at hv; simp at hv
              | cons v' r =>
                rw [hp] at hv hul
                have : r = [] := by simpa using hul
                subst this
                simp only [List.getElem?_cons_zero, Option.some.injEq] at hv
                rw [hv]
            have hlt : i.toNat < l.length := by simp only [D.len] at p4; omega
            rw [hz] at p5 r4
            simp only [Nat.mul_one, Nat.add_zero] at p5 r4
            simp only [D.len] at r5
            have hst := store_run (P := S.P) (t := t) (off := i.toNat) (v := a.eval y) hinf (by rw [← Array.length_toList, hvl, hsz]; rfl) (by rw [hvl]; simp [hrd.oneV]) r3 (by rw [hvl]; simp; omega)
            rw [hvl] at hst
            refine ⟨_, _, hk1, exec p5 rfl hst, ?_⟩
            have hsz2 : (cs.toList.take i.toNat ++ [v] ++ cs.toList.drop (i.toNat + [v].length)).toArray.size = cs.size := by simp; omega
            refine h.upd hn p2 (fr_setRow _ _ _) ⟨_, rfl, by simp [D.len], fun cs2 te2 hc2 => ⟨_, setRow_heap _ _ _ _ _ _ hc2, by
              rw [r3] at hc2
              cases hc2
              exact hsz2⟩⟩ fun s kp => ⟨(cs.toList.take i.toNat ++ [v] ++ cs.toList.drop (i.toNat + [v].length)).toArray, .inl ⟨k, _, by rw [hET]; exact hT1, rfl, ?_⟩, ?_⟩
            · intro j m hj
              simp only [List.getElem?_toArray]
              rw [splice_get _ _ _ _ (by simp; omega)]
              rcases r1 with ⟨k', l2, a1, a2, a3⟩ | ⟨c', l2, a1, a2, _⟩
              · rw [hET, hT1] at a1
                simp only [Option.some.injEq, El.ints.injEq] at a1
                simp only [D.ints.injEq] at a2
                subst a1 a2
                by_cases hij : j = i.toNat
                · subst hij
                  rw [List.getElem?_set_self hlt] at hj
                  obtain rfl := Option.some.inj hj
                  cases hrd
                  simp [D.toInt]
                · rw [List.getElem?_set_ne (Ne.symm hij)] at hj
                  have := a3 j m hj
                  rw [← Array.getElem?_toList] at this
                  by_cases h3 : j < i.toNat
                  · rw [if_pos h3]; exact this
                  · rw [if_neg h3, if_neg (by simp; omega)]; exact this
              · cases a2
            · rw [p2]
              exact ⟨te, cap, setRow_heap _ _ _ _ _ _ r3, by rw [hsz2, hz]; omega, by simpa [D.len] using r5⟩
          · exact hk.elim
        · rename_i cs2 cts l hT1
          split at hk
          · rename_i ds hd
            obtain ⟨hb, hk1⟩ := wp_cond_fail hk
            simp only [Bool.and_eq_true] at hb
            have q1 := Nat.eq_of_beq_eq_true hb.1
            have q2 := Nat.le_of_ble_eq_true hb.2
            have hz : esz E.T tt = cts.length := by rw [hET]; simp [esz, hT1, El.size]
            rw [← hET] at hd
            obtain ⟨m1, m2, m3⟩ := elemsD_rd hd hu
            have hlt : i.toNat < l.length := by simp only [D.len] at p4; omega
            rw [hz] at p5 r4
            simp only [D.len] at r5
            have hvl : (a.eval y).cells.toList.length = sz := by omega
            have hbase : i.toNat * cts.length + cts.length ≤ l.length * cts.length := by rw [← Nat.succ_mul]; exact Nat.mul_le_mul_right _ hlt
            have hcs : l.length * cts.length ≤ cs.size := by rw [r4]; exact Nat.mul_le_mul_right _ r5
            have hst := store_run (P := S.P) (t := t) (off := i.toNat * cts.length + off) (v := a.eval y) hinf (by rw [← Array.length_toList, hvl, hsz]) (All2.one hu) r3 (by omega)
            refine ⟨_, _, hk1, exec p5 rfl hst, ?_⟩
            have hsz2 : (cs.toList.take (i.toNat * cts.length + off) ++ (a.eval y).cells.toList ++ cs.toList.drop (i.toNat * cts.length + off + (a.eval y).cells.toList.length)).toArray.size = cs.size := by
              simp only [List.size_toArray, List.length_append, List.length_take, List.length_drop, Array.length_toList] at hvl ⊢
              omega
            rcases r1 with ⟨k', l2, a1, a2, _⟩ | ⟨c', l2, a1, a2, vs, a3, a4, a5⟩
            · cases a2
            rw [hET, hT1] at a1
            simp only [Option.some.injEq, El.rows.injEq] at a1
            simp only [D.rows.injEq] at a2
            subst a1 a2
            have hrow := List.getElem?_eq_getElem hlt
            have erow : l.getD i.toNat [] = l[i.toNat] := by simp [List.getD, hrow]
            have hrl := a3 _ _ hrow
            have hdl : ds.length = sz := by rw [m1]; simp; omega
            refine h.upd hn p2 (fr_setRow _ _ _) ⟨_, rfl, by simp [D.len], fun cs2 te2 hc2 => ⟨_, setRow_heap _ _ _ _ _ _ hc2, by
              rw [r3] at hc2
              cases hc2
              exact hsz2⟩⟩ fun s kp => ⟨(cs.toList.take (i.toNat * cts.length + off) ++ (a.eval y).cells.toList ++ cs.toList.drop (i.toNat * cts.length + off + (a.eval y).cells.toList.length)).toArray, .inr ⟨cts, _, by rw [hET]; exact hT1, rfl, (fun i' j => if i' = i.toNat ∧ off ≤ j ∧ j < off + sz then ((a.eval y).cells.toList[j - off]?).getD undef else vs i' j), ?_, ?_, ?_⟩, ?_⟩
            · intro i' e hi'
              by_cases hij : i' = i.toNat
              · subst hij
                rw [List.getElem?_set_self hlt] at hi'
                obtain rfl := Option.some.inj hi'
                rw [erow]
                simp
                omega
              · rw [List.getElem?_set_ne (Ne.symm hij)] at hi'
                exact a3 i' e hi'
            · intro i' e j d hi' hj
              simp only [List.getElem?_toArray]
              rw [splice_get _ _ _ _ (by rw [hvl]; simp; omega), hvl]
              by_cases hij : i' = i.toNat
              · subst hij
                rw [List.getElem?_set_self hlt] at hi'
                obtain rfl := Option.some.inj hi'
                rw [erow] at hj
                have hs := splice_get l[i.toNat] ds off j (by omega)
                rw [hdl] at hs
                rw [hs] at hj
                by_cases c1 : j < off
                · rw [if_pos c1] at hj
                  rw [if_pos (by omega), if_neg (by omega), Array.getElem?_toList]
                  exact a4 _ _ _ _ hrow hj
                · rw [if_neg c1] at hj
                  by_cases c2 : j < off + sz
                  · rw [if_pos c2] at hj
                    rw [if_neg (by omega), if_pos (by omega), if_pos ⟨rfl, by omega, c2⟩, show i.toNat * cts.length + j - (i.toNat * cts.length + off) = j - off from by omega]
                    have hct : (((cts.drop off).take sz))[j - off]? = cts[j]? := by
                      rw [List.getElem?_take, if_pos (by omega), List.getElem?_drop]
                      congr 1; omega
                    obtain ⟨v, hv, _⟩ := m3 (j - off) cts[j] d (by rw [hct]; exact List.getElem?_eq_getElem (by omega)) hj
                    rw [hv]; rfl
                  · rw [if_neg c2] at hj
                    rw [if_neg (by omega), if_neg (by omega), if_neg (by omega), Array.getElem?_toList]
                    exact a4 _ _ _ _ hrow hj
              · rw [List.getElem?_set_ne (Ne.symm hij)] at hi'
                have h5 := a4 i' e j d hi' hj
                have h6 := (List.getElem?_eq_some_iff.1 hj).1
                rw [a3 i' e hi'] at h6
                have n1 : i' * cts.length + j < i.toNat * cts.length + off ∨ i.toNat * cts.length + off + sz ≤ i' * cts.length + j := by
                  rcases Nat.lt_or_gt_of_ne hij with c | c
                  · left
                    have : i' * cts.length + cts.length ≤ i.toNat * cts.length := by rw [← Nat.succ_mul]; exact Nat.mul_le_mul_right _ c
                    omega
                  · right
                    have : i.toNat * cts.length + cts.length ≤ i' * cts.length := by rw [← Nat.succ_mul]; exact Nat.mul_le_mul_right _ c
                    omega
                simp only [if_neg (show ¬ (i' = i.toNat ∧ off ≤ j ∧ j < off + sz) from fun hh => hij hh.1)]
                rcases n1 with c | c
                · rw [if_pos c, Array.getElem?_toList]; exact h5
                · rw [if_neg (by omega), if_neg (by omega), Array.getElem?_toList]; exact h5
            · intro i' e j ct d hi' hct hj
              dsimp only
              by_cases hij : i' = i.toNat
              · subst hij
                rw [List.getElem?_set_self hlt] at hi'
                obtain rfl := Option.some.inj hi'
                rw [erow] at hj
                have hs := splice_get l[i.toNat] ds off j (by omega)
                rw [hdl] at hs
                rw [hs] at hj
                by_cases c1 : j < off
                · rw [if_pos c1] at hj
                  rw [if_neg (by omega)]
                  exact (a5 _ _ _ _ _ hrow hct hj).stay s
                · rw [if_neg c1] at hj
                  by_cases c2 : j < off + sz
                  · rw [if_pos c2] at hj
                    rw [if_pos ⟨rfl, by omega, c2⟩]
                    have hct' : (((cts.drop off).take sz))[j - off]? = some ct := by
                      rw [List.getElem?_take, if_pos (by omega), List.getElem?_drop, ← hct]
                      congr 1; omega
                    obtain ⟨v, hv, hr⟩ := m3 (j - off) ct d hct' hj
                    rw [hv]
                    exact hr.stay s
                  · rw [if_neg c2] at hj
                    rw [if_neg (by omega)]
                    exact (a5 _ _ _ _ _ hrow hct hj).stay s
              · rw [List.getElem?_set_ne (Ne.symm hij)] at hi'
                rw [if_neg (show ¬ (i' = i.toNat ∧ off ≤ j ∧ j < off + sz) from fun hh => hij hh.1)]
                exact (a5 _ _ _ _ _ hi' hct hj).stay s
            · rw [p2]
              exact ⟨te, cap, setRow_heap _ _ _ _ _ _ r3, by rw [hsz2, hz]; omega, by simpa [D.len] using r5⟩
          · exact hk.elim
        · exact hk.elim
      · exact hk.elim
    · exact hk.elim
  · exact hk.elim
end
end Sx
/-! Maps made, maps set. -/
namespace Sx
open Go
set_option linter.unusedVariables false
set_option linter.unusedSimpArgs false
def opNM (S : Pr) (d : Nat) (o : Oper) : Out (C × Blk) := match o.op with
  | .makeMap t none => match S.tt t, S.T t with
    | some ⟨.map _ _, _, _, _⟩, some (.rows _) => .ret (.m d t, .map t [])
    | _, _ => .fail
  | _ => .fail
def opM (S : Pr) (env : Env) (own : Own) (o : Oper) : Out Own := match o.op with
  | .mapUpdate t x k y => match S.tt t, evC env x, evV env k, evU env y with
    | some ⟨.map kt _, _, _, _⟩, some (.m n _), some (.string s), some (.a cs) => match own n, S.tt kt, S.T t with
      | some (.map u l), some ⟨.cell .str, _, _, _⟩, some (.rows cts) => match elemsD S.T cts cs with
        | some ds => bif t.beq u then .ret (fset own n (.map t (putM s ds l))) else .fail
        | none => .fail
      | _, _, _ => .fail
    | _, _, _, _ => .fail
  | _ => .fail
section
variable {S : Pr} {E : Ctx} {β : Nat → Option Nat} {env : Env} {own snap : Own} {a : Act} {w : World}
variable (hT : TOk S.P S.tt) (h : Rel E β env own a w) (hET : E.T = S.T)
include h hET in
theorem opNM_sound {o : Oper} {d : Nat} {K : C × Blk → Prop} (hd : own d = none) (hd0 : E.own0 d = none) (hk : (opNM S d o).wp K) : NOk S E env own a w o d K := by
  unfold opNM at hk
  split at hk
  · rename_i t ho
    split at hk
    · rename_i k e cts z by_ rc h0 h1
      obtain ⟨β', e1, e2, hR, _, _⟩ := h.new (n := d) hd hd0 (o := .map #[] 0) (B := .map t []) (fun β' e1 e2 s k => ⟨w.heap.size, #[], 0, e2, heap_new w _, rc, by rw [hET]; exact h1, rfl, by simp, by simp, fun i kr hi => by simp at hi⟩)
      refine ⟨_, _, .map (some w.heap.size), _, β', hk, ?_, hR, [], w.heap.size, fset_same _ _ _, e2, rfl⟩
      simp [execOp, ho, Instr.makeMap, newObj, Sem.run]
    · exact hk.elim
  · exact hk.elim
theorem elemsD_len {T : Tab} : ∀ {cts : List Ct} {l : List C} {ds : List D}, elemsD T cts l = some ds → ds.length = cts.length ∧ l.length = cts.length
  | [], [], ds, h => by simp only [elemsD, Option.some.injEq] at h; subst h; exact ⟨rfl, rfl⟩
  | ct :: cs, c :: l, ds, h => by
    simp only [elemsD] at h
    split at h
    · split at h
      · rename_i r hr
        obtain rfl := Option.some.inj h
        have := elemsD_len hr
        simp; omega
      · cases h
    · cases h
  | [], _ :: _, ds, h => by simp [elemsD] at h
  | _ :: _, [], ds, h => by simp [elemsD] at h
theorem elemsD_rd2 {w : World} {β : Nat → Option Nat} {own : Own} {T : Tab} {A : Nat → Prop} : ∀ {cts : List Ct} {l : List C} {ds : List D} {vs : List Value}, elemsD T cts l = some ds → All2 (DenC T w β A own) l vs → ∀ (j : Nat) ct v d, cts[j]? = some ct → vs[j]? = some v → ds[j]? = some d → Rd T w A ct v d
  | [], [], ds, vs, h, hv, j, ct, v, d, h1, _, _ => by simp at h1
  | ct :: cs, c :: l, ds, v :: vs, h, hv, j, ct', v', d', h1, h2, h3 => by
    simp only [elemsD] at h
    split at h
    · rename_i d0 hd0
      split at h
      · rename_i r hr
        obtain rfl := Option.some.inj h
        cases j with
        | zero =>
          simp only [List.getElem?_cons_zero, Option.some.injEq] at h1 h2 h3
          subst h1 h2 h3
          exact dOf_rd hd0 hv.1
        | succ j =>
          simp only [List.getElem?_cons_succ] at h1 h2 h3
          exact elemsD_rd2 hr hv.2 j ct' v' d' h1 h2 h3
      · cases h
    · cases h
  | _ :: _, _ :: _, _, [], _, hv, _, _, _, _, _, _, _ => hv.elim
  | [], _ :: _, ds, _, h, _, _, _, _, _, _, _, _ => by simp [elemsD] at h
  | _ :: _, [], ds, _, h, _, _, _, _, _, _, _, _ => by simp [elemsD] at h
theorem set_fr {w : World} {b : Nat} {o : Obj} : Fr w { w with heap := w.heap.set! b o } fun x => x = b := by
  refine ⟨rfl, rfl, rfl, by simp, fun x hx hn => ?_⟩
  show (w.heap.set! b o)[x]? = _
  simp only [Array.set!_eq_setIfInBounds]
  rw [Array.getElem?_setIfInBounds_ne (Ne.symm hn)]
include hT h hET in
theorem opM_sound {o : Oper} {K : Own → Prop} (hk : (opM S env own o).wp K) : SOk S E β env a w o K := by
  unfold opM at hk
  split at hk
  · rename_i t x k y ho
    split at hk
    · rename_i kt e cts0 z0 by0 n u s cs h0 h1 h2 h3
      obtain ⟨l1, b, q1, q2, q3⟩ := evC_den h h1
      have hkv := (evV_eq h h2).1
      have hu : S.P.underlying t = some (.map kt e) := (hT.get h0).mapT rfl
      obtain ⟨vs, hy, hvs⟩ := evU_den h h3
      split at hk
      · rename_i u' l cts1 z1 by1 cts h4 h5 h6
        have hkt : S.P.underlying kt = some .string := (hT.get h5).strT rfl
        split at hk
        · rename_i ds hds
          obtain ⟨hb, hk1⟩ := wp_cond_fail hk
          obtain rfl := Nat.eq_of_beq_eq_true hb
          obtain ⟨b', es, clock, r1, r2, r3⟩ := h.blks.blk n _ h4
          have : b' = b := by rw [q2] at r1; exact (Option.some.inj r1).symm
          subst this
          obtain ⟨kl, kk⟩ := keys_at r3
          obtain ⟨n1, n2⟩ := elemsD_len hds
          rw [← hET] at hds h6
          have hrd := elemsD_rd2 hds hvs
          have hlv := hvs.length
          have go : ∀ {r : Option (Nat × Value)}, Instr.findNow .string (.string s) es.toList 0 = some r → (∀ i x, r = some (i, x) → ∃ y c, es[i]? = some ⟨.string s, y, c⟩) → SOk S E β env a w o K := by
            intro r hf hr
            have run := put_run (v := .agg vs.toArray) hu hkt r2 hf hr
            refine ⟨fset own n (.map t (putM s ds l)), _, hk1, (?_ : (execOp a.eval o).run S.P w = Result.ok .skip { w with heap := w.heap.set! b' (putO es clock s (.agg vs.toArray) r) }), ?_⟩
            · simp [execOp, ho, q3, hkv, hy, Sem.run_bind, run]
            · refine h.upd h4 r1 set_fr ⟨_, rfl⟩ fun st kp => ?_
              obtain ⟨es', clock', g1, g2⟩ := map_put (s := s) (ds := ds) (vs := vs) st r3 h6 n1 (by omega) hrd hf
              refine ⟨b', es', clock', r1, ?_, g2⟩
              rw [← g1]
              have hlt : b' < w.heap.size := by
                by_cases c : b' < w.heap.size
                · exact c
                · rw [Array.getElem?_eq_none (by omega)] at r2; cases r2
              show (w.heap.set! b' _)[b']? = _
              simp [hlt]
          rcases findNow_str s l es.toList 0 kl kk with ⟨f1, _, _⟩ | ⟨j, kr, v, bb, f1, f2, f3, f4, _, _⟩
          · exact go f1 fun i x hh => by cases hh
          · refine go f1 fun i x hh => ?_
            simp only [Option.some.injEq, Prod.mk.injEq] at hh
            obtain ⟨rfl, rfl⟩ := hh
            rw [Nat.zero_add]
            exact ⟨v, bb, by rw [← f4]; simpa using f3⟩
        · exact hk.elim
      · exact hk.elim
    · exact hk.elim
  · exact hk.elim
end
end Sx
/-! append onto a row of the call's own. -/
namespace Sx
open Go
set_option linter.unusedVariables false
set_option linter.unusedSimpArgs false
def opA (S : Pr) (env : Env) (own : Own) (d : Nat) (o : Oper) : Out (C × Env × Own) :=
  match o.op with
  | .call ⟨.builtin .append, args, ts⟩ => match args.toList, ts.toList with
    | [x, y], [t, t'] => match evC env x, evC env y, bytesT S t with
      | some (.r n u), some cy, some by_ => bif t.beq t' && t.beq u && by_.ble 512 && ((own d).isNone || d.beq n) then (match own n, dataOf S.T own t cy with
        | some (.row u' xd), some yd => match dapp S.T t xd yd with
          | some r => bif t.beq u' then .need (xd.len + yd.len ≤ 274877906944) (.ret (.r d t, env.drop n, fset (own.drop n) d (.row t r))) else .fail
          | none => .fail
        | _, _ => .fail) else .fail
      | _, _, _ => .fail
    | _, _ => .fail
  | _ => .fail
section
variable {S : Pr} {E : Ctx} {β : Nat → Option Nat} {env : Env} {own snap : Own} {a : Act} {w : World}
variable (hT : TOk S.P S.tt) (h : Rel E β env own a w) (hET : E.T = S.T)
def AOk (S : Pr) (E : Ctx) (a : Act) (w : World) (o : Oper) (K : C × Env × Own → Prop) : Prop :=
  ∃ c env' own' v w' β', K (c, env', own') ∧ (execOp a.eval o).run S.P w = .ok (.value v) w' ∧ Rel E β' env' own' a w' ∧ DenC E.T w' β' (Av E.X β' own') own' c v
include hT h hET in
theorem opA_sound {o : Oper} {d : Nat} {K : C × Env × Own → Prop} (hd0 : E.own0 d = none) (hk : (opA S env own d o).wp K) : AOk S E a w o K := by
  unfold opA at hk
  split at hk
  · rename_i args ts ho
    split at hk
    · rename_i x y t t' hx ht
      obtain rfl := arr2 hx
      obtain rfl := arr2 ht
      split at hk
      · rename_i n u cy by_ h0 h1 h2
        obtain ⟨hb, hk1⟩ := wp_cond_fail hk
        clear hk
        simp only [Bool.and_eq_true, Bool.or_eq_true] at hb
        obtain ⟨⟨⟨hb1, hb2⟩, hb3⟩, hb4⟩ := hb
        obtain rfl := Nat.eq_of_beq_eq_true hb1
        obtain rfl := Nat.eq_of_beq_eq_true hb2
        have hb3 := Nat.le_of_ble_eq_true hb3
        have hd : own d = none ∨ d = n := hb4.imp (fun e => by simpa using e) Nat.eq_of_beq_eq_true
        split at hk1
        · rename_i u' xd yd hn hy
          split at hk1
          · rename_i r hr
            obtain ⟨hb5, hk2⟩ := wp_cond_fail hk1
            clear hk1
            obtain rfl := Nat.eq_of_beq_eq_true hb5
            obtain ⟨hle, hk3⟩ := need_of hk2
            have hden := evC_den h h0
            obtain ⟨ad2, cap2, news, hvy, p1, p2, p3, p4, p5, p6⟩ := slice_data (snap := own) h.blks (fun _ _ e => e) (evC_den h h1) (by rw [hET]; exact hy)
            obtain ⟨adx, capx, olds, hvx, o1, o2, o3, o4, o5, o6⟩ := slice_data (snap := own) (t := t) (x := xd) h.blks (fun _ _ e => e) hden (by simp [dataOf, hn])
            obtain ⟨el, hel⟩ : ∃ el, S.T t = some el := by
              cases hq : S.T t with
              | none => simp [dapp, hq] at hr
              | some el => exact ⟨el, rfl⟩
            obtain ⟨e, i, z, q1, q2, q3, q4, q5, q6⟩ := bytes_info hT h2 hel
            have happ := fun rest => RowRd.app (rest := rest) o5 p5 o2 p2 (by rw [hET]; exact hr)
            have hlen : r.len = xd.len + yd.len := (happ []).2
            rw [hET, ← q6] at p2 o2
            have hmul : (xd.len + yd.len) * i.bytes ≤ 274877906944 * 512 := Nat.mul_le_mul hle (by omega)
            obtain ⟨x2, b1, b2⟩ := hden
            have e1 := hn.symm.trans b1
            simp only [Option.some.injEq, Blk.row.injEq, true_and] at e1
            subst e1
            obtain ⟨cs, r1, r2⟩ := h.blks.blk n _ hn
            have hexec : (execOp a.eval o).run S.P w = ((Builtin.append_ #[t, t] o.type #[.slice adx xd.len capx, .slice ad2 yd.len cap2]).run S.P w).andThen fun v w => .ok (.value v) w := by
              rw [call_builtin ho]
              simp [builtin, hvx, hvy]
            -- the row's own block
            have hrow : (adx = none → xd.len = 0 ∧ capx = 0) ∧ (xd.len + yd.len ≤ capx → yd.len = 0 ∨ ∃ b cs te, adx = some ⟨b, 0, none⟩ ∧ w.heap[b]? = some (.cells cs te (0, 0)) ∧ cs.size = capx * i.size) ∧
                (∀ b, adx = some ⟨b, 0, none⟩ → β n = some b ∨ (β n = none ∧ capx = 0)) ∧ (β n = none → xd.len = 0 ∧ capx = 0) := by
              cases hβ : β n with
              | none =>
                rw [hβ] at b2
                obtain ⟨c1, ad, c2⟩ := b2
                rw [hvx] at c2
                simp only [Value.slice.injEq] at c2
                obtain ⟨rfl, c3, rfl⟩ := c2
                exact ⟨fun _ => ⟨c1, rfl⟩, fun hh => .inl (by omega), fun _ _ => .inr ⟨rfl, rfl⟩, fun _ => ⟨c1, rfl⟩⟩
              | some b =>
                rw [hβ] at b2
                obtain ⟨cap', cs', te', c1, c2, c3, c4⟩ := b2
                rw [hvx] at c1
                simp only [Value.slice.injEq, true_and] at c1
                obtain ⟨rfl, rfl⟩ := c1
                refine ⟨fun hh => (by cases hh), fun _ => .inr ⟨b, cs', te', rfl, c2, (by rw [c3, hET, q6])⟩, fun b' hb' => ?_, fun hh => (by cases hh)⟩
                simp only [Option.some.injEq, Addr.mk.injEq, and_true] at hb'
                exact .inl (by rw [hb'])
            have hrun := append_run (P := S.P) (w := w) (ty := o.type) (cap2 := cap2) q1 q2 q3 q4 o2 p2 o4 p4 hrow.1 p3 o1 p6 (by omega) (by omega) hrow.2.1
            rcases hrun with ⟨e1, e2, e3⟩ | ⟨e1, e0, b, cs2, te, e2, e3, e4, e5⟩ | ⟨e1, cap', rest, e2, e3, e4⟩
            · -- nothing is appended
              have hnews : news = [] := List.length_eq_zero_iff.1 (by rw [p2, e2, Nat.zero_mul])
              have hcut : ∀ rest, RowRd E.T w (Av E.X β own) t r (olds ++ rest).toArray := fun rest => by
                have := (happ rest).1
                rwa [hnews, List.append_nil] at this
              have hfull : RowRd E.T w (Av E.X β own) t r cs := by
                cases hβ : β n with
                | none =>
                  have := (hrow.2.2.2 hβ).1
                  have ho : olds = [] := List.length_eq_zero_iff.1 (by rw [o2, this, Nat.zero_mul])
                  have h3 := hcut cs.toList
                  rw [ho] at h3
                  simpa using h3
                | some b =>
                  rw [hβ] at r2
                  obtain ⟨te, cap3, r3, r4, r5⟩ := r2
                  have hpre : olds = cs.toList.take olds.length := by
                    refine List.ext_getElem? fun j => ?_
                    by_cases hj : j < olds.length
                    · have hg := List.getElem?_eq_getElem hj
                      rw [List.getElem?_take, if_pos hj, hg]
                      cases hadx : adx with
                      | none => have := (hrow.1 hadx).1; rw [o2, this] at hj; omega
                      | some ax =>
                        have h5 := o4 ax hadx j _ hg
                        rw [hβ] at b2
                        obtain ⟨cap', cs', te', c1, c2, c3, c4⟩ := b2
                        rw [hvx, hadx] at c1
                        simp only [Value.slice.injEq, Option.some.injEq, true_and] at c1
                        obtain ⟨rfl, rfl⟩ := c1
                        rw [add_lit, cell_of_block r3] at h5
                        rw [← Array.getElem?_toList, Nat.zero_add] at h5
                        exact h5.symm
                    · rw [List.getElem?_take, if_neg hj, List.getElem?_eq_none (by omega)]
                  have h3 := hcut (cs.toList.drop olds.length)
                  have h4 : (olds ++ cs.toList.drop olds.length).toArray = cs := by
                    apply Array.ext'
                    show olds ++ cs.toList.drop olds.length = cs.toList
                    rw [show olds ++ cs.toList.drop olds.length = cs.toList.take olds.length ++ cs.toList.drop olds.length from by rw [← hpre]]
                    exact List.take_append_drop _ _
                  rwa [h4] at h3
              obtain ⟨β', f1, f2, hR⟩ := h.swap (n := n) (d := d) (bo := β n) (B := .row t r) (w' := w) hd hd0 ⟨rfl, rfl, rfl, Nat.le_refl _, fun _ _ _ => rfl⟩ (fun b hb => .inl ⟨by simp [hn], hb⟩)
                (fun β' f1 f2 s => ⟨cs, hfull.stay s, by
                  rw [f2]
                  cases hβ : β n with
                  | none => have := (hrow.2.2.2 hβ).1; show r.len = 0; omega
                  | some b =>
                    rw [hβ] at r2
                    obtain ⟨te, cap3, r3, r4, r5⟩ := r2
                    exact ⟨te, cap3, r3, r4, by omega⟩⟩)
              refine ⟨_, _, _, .slice adx xd.len capx, w, β', hk3, by rw [hexec, e3]; rfl, hR, r, fset_same _ _ _, ?_⟩
              rw [f2]
              have : r.len = xd.len := by omega
              rw [this]
              rw [hvx] at b2
              exact b2
            · -- in place
              subst e2
              have hβ : β n = some b := by
                rcases hrow.2.2.1 b rfl with hh | ⟨_, hh⟩
                · exact hh
                · omega
              rw [hβ] at r2 b2
              obtain ⟨te', cap3, r3, r4, r5⟩ := r2
              obtain ⟨rfl, rfl⟩ : cs2 = cs ∧ te = te' := by rw [e3] at r3; simp at r3; exact r3
              have hcap : cap3 * i.size = capx * i.size := by rw [← e4, r4, hET, q6]
              obtain ⟨cap5, cs5, te5, c1, c2, c3, c4⟩ := b2
              rw [hvx] at c1
              simp only [Value.slice.injEq, true_and] at c1
              obtain rfl := c1
              have hpre : cs2.toList.take (xd.len * i.size) = olds := by
                refine List.ext_getElem? fun j => ?_
                by_cases hj : j < olds.length
                · have hg := List.getElem?_eq_getElem hj
                  have h5 := o4 _ rfl j _ hg
                  rw [add_lit, cell_of_block e3, ← Array.getElem?_toList, Nat.zero_add] at h5
                  rw [List.getElem?_take, if_pos (by omega), hg]
                  exact h5
                · rw [List.getElem?_take, if_neg (by omega), List.getElem?_eq_none (by omega)]
              have hsz2 : (cs2.toList.take (xd.len * i.size) ++ news ++ cs2.toList.drop (xd.len * i.size + news.length)).toArray.size = cs2.size := by
                have : xd.len * i.size + yd.len * i.size ≤ cs2.size := by rw [e4, ← Nat.add_mul]; exact Nat.mul_le_mul_right _ e1
                simp only [List.size_toArray, List.length_append, List.length_take, List.length_drop, Array.length_toList]
                omega
              obtain ⟨β', f1, f2, hR⟩ := h.swap (n := n) (d := d) (bo := some b) (B := .row t r) (w' := w.setRow b _) hd hd0
                ⟨rfl, rfl, rfl, by simp, fun k _ hk => setRow_other w b k _ (fun e => hk ⟨by simp [hn], by rw [e]; exact hβ⟩)⟩ (fun b' hb' => .inl ⟨by simp [hn], by rw [hβ]; exact hb'⟩)
                (fun β' f1 f2 s => ⟨_, (happ (cs2.toList.drop (xd.len * i.size + news.length))).1.stay s, by
                  rw [f2]
                  refine ⟨te, capx, ?_, ?_, by omega⟩
                  · rw [← hpre]; exact setRow_heap _ _ _ _ _ _ e3
                  · rw [← hpre, hsz2, e4, hET, q6]⟩)
              rw [hpre] at hsz2 e5
              refine ⟨_, _, _, .slice (some ⟨b, 0, none⟩) (xd.len + yd.len) capx, w.setRow b (olds ++ news ++ cs2.toList.drop (xd.len * i.size + news.length)).toArray, β', hk3, by rw [hexec, e5]; rfl, ?_, r, fset_same _ _ _, ?_⟩
              · rw [← hpre]; exact hR
              · rw [f2]
                exact ⟨capx, _, te, by rw [hlen], setRow_heap _ _ _ _ _ _ e3, by rw [hsz2, e4, hET, q6], by omega⟩
            · -- a new block
              have hcap : (olds ++ news ++ rest).toArray.size = cap' * i.size := by
                simp only [List.size_toArray, List.length_append]
                rw [o2, p2, e3, ← Nat.add_mul, ← Nat.add_mul]
                congr 1
                omega
              have fr : Fr w (w.drew.alloc (.cells (olds ++ news ++ rest).toArray e)) fun x => own n ≠ none ∧ β n = some x := ⟨rfl, rfl, rfl, by simp, fun b hb _ => Go.RowKit.Below.heap_alloc w.drew _ b hb⟩
              obtain ⟨β', f1, f2, hR⟩ := h.swap (n := n) (d := d) (bo := some w.heap.size) (B := .row t r) hd hd0 fr (fun b' hb' => .inr ⟨by simp at hb'; omega, by simp at hb'; subst hb'; simp⟩)
                (fun β' f1 f2 s => ⟨_, (happ rest).1.stay s, by
                  rw [f2]
                  exact ⟨e, cap', heap_new w.drew _, by rw [hcap, hET, q6], by omega⟩⟩)
              refine ⟨_, _, _, .slice (some ⟨w.heap.size, 0, none⟩) (xd.len + yd.len) cap', _, β', hk3, by rw [hexec, e4]; rfl, hR, r, fset_same _ _ _, ?_⟩
              rw [f2]
              exact ⟨cap', _, e, by rw [hlen], heap_new w.drew _, by rw [hcap, hET, q6], by omega⟩
          · exact hk1.elim
        · exact hk1.elim
      · exact hk.elim
    · exact hk.elim
  · exact hk.elim
end
end Sx
/-! Calls of functions that touch no block of the caller's. -/
namespace Sx
open Go
set_option linter.unusedVariables false
set_option linter.unusedSimpArgs false
def C.frz (n : Nat) (x : D) : C → C
  | .r k u => bif k.beq n then .d u x else .r k u
  | .q k i o => bif k.beq n then .bad else .q k i o
  | .p k o => .p k o
  | .m k t => .m k t
  | .v x => .v x
  | .d t x => .d t x
  | .z t => .z t
  | .e a b c => .e a b c
  | .bad => .bad
def U.frz (n : Nat) (x : D) : U → U | .c y => .c (y.frz n x) | .a l => .a (l.map (C.frz n x))
def SV.frz (n : Nat) (x : D) : SV → SV | .u y => .u (y.frz n x) | .t l => .t (l.map (U.frz n x))
def Blk.frz (n : Nat) (x : D) : Blk → Blk | .cells t l => .cells t (l.map (C.frz n x)) | b => b
def Env.frz (env : Env) (n : Nat) (x : D) : Env := fun t => match env t with | some sv => some (sv.frz n x) | none => none
def Own.frz (own : Own) (n : Nat) (x : D) : Own := fun m => bif m.beq n then none else match own m with | some b => some (b.frz n x) | none => none
def C.noRef : C → Bool | .p _ _ => false | .r _ _ => false | .q _ _ _ => false | .m _ _ => false | _ => true
def U.noRef : U → Bool | .c x => x.noRef | .a l => l.all C.noRef
def C.rowN : C → Option Nat | .r n _ => some n | _ => none
def firstRow : List C → Option Nat
  | [] => none
  | c :: l => match c.rowN with | some n => some n | none => firstRow l
def rowIn : List U → Option Nat
  | [] => none
  | u :: l => match firstRow u.cells with | some n => some n | none => rowIn l
def evs (env : Env) : List Operand → Option (List U) := mapO (evU env)
/-- the rows among the arguments are let go: from now on they are data -/
def frzArgs (args : List Operand) : Nat → Env → Own → Option (List U × Env × Own)
  | 0, _, _ => none
  | k + 1, env, own => match evs env args with
    | some us => match rowIn us with
      | none => some (us, env, own)
      | some n => match own n with
        | some (.row _ x) => frzArgs args k (env.frz n x) (own.frz n x)
        | _ => none
    | none => none
section
variable {E : Ctx} {β β' : Nat → Option Nat} {env : Env} {own own' : Own} {a : Act} {w w' : World} {T : Tab} {A A' : Nat → Prop}
theorem row_rd (ho : OwnOk E.T E.G w β E.X own) {n : Nat} {t : TypeId} {x : D} {y : Value} (hn : own n = some (.row t x)) (hy : RowVal E.T w t x.len (β n) y) (s : Stay w (Av E.X β own) w A') (hA : ∀ b, β n = some b → ¬ A' b) : Rd E.T w A' (.sl t) y x := by
  obtain ⟨cs, h1, h2⟩ := ho.blk n _ hn
  have h1 := h1.stay s
  cases hβ : β n with
  | none =>
    rw [hβ] at hy
    obtain ⟨hl, ad, rfl⟩ := hy
    rcases h1 with ⟨k, l, e1, rfl, _⟩ | ⟨c, l, e1, rfl, _⟩
    · obtain rfl : l = [] := List.length_eq_zero_iff.1 hl
      cases ad with
      | none => exact .nilI e1
      | some ad => exact .ints (l := []) e1 (Nat.le_refl _) (by simp)
    · obtain rfl : l = [] := List.length_eq_zero_iff.1 hl
      cases ad with
      | none => exact .nilR e1
      | some ad => exact .rows (l := []) (fun _ _ => undef) e1 (Nat.le_refl _) (by simp) (by simp) (by simp)
  | some b =>
    rw [hβ] at hy h2
    obtain ⟨cap, cs', te', rfl, c1, c2, c3⟩ := hy
    obtain ⟨te, cap', d1, d2, d3⟩ := h2
    have hb := ho.loc n b (by simp [hn]) hβ
    have hnA := hA b hβ
    rcases h1 with ⟨k, l, e1, rfl, e2⟩ | ⟨c, l, e1, rfl, vs, e2, e3, e4⟩
    · refine .ints e1 c3 fun i m hi => ⟨by rw [add_block]; exact hnA, by rw [add_block]; exact hb.1, ?_⟩
      rw [add_lit, cell_of_block d1, Nat.zero_add]
      exact e2 i m hi
    · refine .rows vs e1 c3 e2 (fun i e j d hi hd => ⟨by rw [add_block]; exact hnA, by rw [add_block]; exact hb.1, ?_⟩) e4
      rw [add_lit, cell_of_block d1, Nat.zero_add]
      exact e3 i e j d hi hd
theorem own_frz_ne {n m : Nat} {x : D} (h : m ≠ n) : own.frz n x m = (match own m with | some b => some (b.frz n x) | none => none) := by simp only [Own.frz, beqn h, cond_false]
theorem own_frz_isSome {n m : Nat} {x : D} (h : own.frz n x m ≠ none) : m ≠ n ∧ own m ≠ none := by
  by_cases e : m = n
  · subst e; exact absurd (by simp [Own.frz]) h
  · refine ⟨e, fun h' => h ?_⟩; rw [own_frz_ne e, h']
/-- a row of the call's own becomes data -/
theorem Rel.frz (h : Rel E β env own a w) {n : Nat} {t : TypeId} {x : D} (hn : own n = some (.row t x)) : Rel E β (env.frz n x) (own.frz n x) a w := by
  have sub : ∀ b, Av E.X β (own.frz n x) b → Av E.X β own b := by
    rintro b (hx | ⟨m, h1, h2⟩)
    · exact .inl hx
    · exact .inr ⟨m, (own_frz_isSome h1).2, h2⟩
  have s : Stay w (Av E.X β own) w (Av E.X β (own.frz n x)) := ⟨Nat.le_refl _, fun b _ hb => ⟨rfl, fun hh => hb (sub b hh)⟩⟩
  have hA : ∀ b, β n = some b → ¬ Av E.X β (own.frz n x) b := by
    rintro b hb (hx | ⟨m, h1, h2⟩)
    · exact (h.blks.loc n b (by simp [hn]) hb).2.1 hx
    · obtain ⟨h3, h4⟩ := own_frz_isSome h1
      exact h3 (h.blks.inj m n b h4 (by simp [hn]) h2 hb)
  have other : ∀ {m : Nat} {B : Blk}, own m = some B → m ≠ n → own.frz n x m = some (B.frz n x) := fun hm hmn => by rw [own_frz_ne hmn, hm]
  have hC : ∀ {c : C} {v : Value}, DenC E.T w β (Av E.X β own) own c v → DenC E.T w β (Av E.X β (own.frz n x)) (own.frz n x) (c.frz n x) v := by
    intro c v hc
    have h1 := hc.oneV
    cases c with
    | v y => exact hc
    | d u y => exact Rd.stay s hc
    | z u => exact hc
    | p k o =>
      obtain ⟨b, t', l, e1, e2⟩ := hc
      have hkn : k ≠ n := fun e => by rw [e, hn] at e1; cases e1
      exact ⟨b, t', _, other e1 hkn, e2⟩
    | e cts row o => obtain ⟨ad, e1, e2⟩ := hc; exact ⟨ad, e1, e2.stay s⟩
    | r k u =>
      obtain ⟨y, e1, e2⟩ := hc
      simp only [C.frz]
      by_cases hkn : k = n
      · subst hkn
        rw [hn] at e1
        simp only [Option.some.injEq, Blk.row.injEq] at e1
        obtain ⟨rfl, rfl⟩ := e1
        rw [beqs]
        exact row_rd h.blks hn e2 s hA
      · rw [beqn hkn]
        exact ⟨y, other e1 hkn, e2⟩
    | q k i o =>
      simp only [C.frz]
      by_cases hkn : k = n
      · subst hkn; rw [beqs]; exact h1
      · rw [beqn hkn]
        obtain ⟨u, y, b, e1, e2⟩ := hc
        exact ⟨u, y, b, other e1 hkn, e2⟩
    | m k u =>
      obtain ⟨l, b, e1, e2⟩ := hc
      have hkn : k ≠ n := fun e => by rw [e, hn] at e1; cases e1
      exact ⟨l, b, other e1 hkn, e2⟩
    | bad => exact hc
  have hU : ∀ {u : U} {v : Value}, DenU E.T w β (Av E.X β own) own u v → DenU E.T w β (Av E.X β (own.frz n x)) (own.frz n x) (u.frz n x) v := by
    intro u v hu
    cases u with
    | c y => exact hC hu
    | a l => obtain ⟨cs, e1, e2⟩ := hu; exact ⟨cs, e1, e2.map_left (C.frz n x) fun _ _ => hC⟩
  refine ⟨h.defers, h.size, ?_, ⟨?_, ?_, ?_⟩, h.glob, h.frame, ?_, h.xold, ?_⟩
  · intro k sv hs
    unfold Env.frz at hs
    split at hs
    · rename_i sv0 h0
      obtain rfl := Option.some.inj hs
      have := h.vals k sv0 h0
      cases sv0 with
      | u y => exact hU this
      | t l => obtain ⟨vs, e1, e2⟩ := this; exact ⟨vs, e1, e2.map_left (U.frz n x) fun _ _ => hU⟩
    · cases hs
  · intro m B hB
    obtain ⟨hmn, hm⟩ := own_frz_isSome (own := own) (n := n) (x := x) (m := m) (by rw [hB]; simp)
    cases hB0 : own m with
    | none => exact absurd hB0 hm
    | some B0 =>
      rw [other hB0 hmn] at hB
      obtain rfl := Option.some.inj hB
      have hb := h.blks.blk m B0 hB0
      cases B0 with
      | cells t' l =>
        obtain ⟨b, cs, c1, c2, c3⟩ := hb
        exact ⟨b, cs, c1, c2, c3.map_left (C.frz n x) fun _ _ => hC⟩
      | row t' y =>
        obtain ⟨cs, c1, c2⟩ := hb
        exact ⟨cs, c1.stay s, c2⟩
      | map t' l =>
        obtain ⟨b, es, clock, c1, c2, c3⟩ := hb
        exact ⟨b, es, clock, c1, c2, c3.stay s⟩
  · exact fun m m' b h1 h2 => h.blks.inj m m' b (own_frz_isSome h1).2 (own_frz_isSome h2).2
  · exact fun m b h1 h2 => h.blks.loc m b (own_frz_isSome h1).2 h2
  · exact fun m b h1 h2 => h.mine m b (own_frz_isSome h1).2 h2
  · intro m B B' h1 h2
    obtain ⟨hmn, hm⟩ := own_frz_isSome (own := own) (n := n) (x := x) (m := m) (by rw [h2]; simp)
    cases hB0 : own m with
    | none => exact absurd hB0 hm
    | some B0 =>
      rw [other hB0 hmn] at h2
      obtain rfl := Option.some.inj h2
      obtain ⟨e1, e2⟩ := h.kept m B B0 h1 hB0
      refine ⟨e1, ?_⟩
      cases B <;> cases B0 <;> exact e2
theorem evs_den (h : Rel E β env own a w) {l : List Operand} {us : List U} (hu : evs env l = some us) : All2 (DenU E.T w β (Av E.X β own) own) us (l.map a.eval) :=
  mapO_all (f := evU env) (R := DenU E.T w β (Av E.X β own) own) (g := a.eval) (fun x u hx => evU_den h hx) hu
theorem frzArgs_sound {args : List Operand} : ∀ {k : Nat} {env : Env} {own : Own} {us : List U} {env' : Env} {own' : Own}, Rel E β env own a w → frzArgs args k env own = some (us, env', own') →
    Rel E β env' own' a w ∧ All2 (DenU E.T w β (Av E.X β own') own') us (args.map a.eval)
  | 0, _, _, _, _, _, _, hf => by simp [frzArgs] at hf
  | k + 1, env, own, us, env', own', h, hf => by
    simp only [frzArgs] at hf
    split at hf
    · rename_i us0 h0
      split at hf
      · simp only [Option.some.injEq, Prod.mk.injEq] at hf
        obtain ⟨rfl, rfl, rfl⟩ := hf
        exact ⟨h, evs_den h h0⟩
      · rename_i n hn
        split at hf
        · rename_i t x hx
          exact frzArgs_sound (h.frz hx) hf
        · cases hf
    · cases hf
theorem DenC.free (s : Stay w A w' A') {c : C} {v : Value} (hr : c.noRef = true) (h : DenC T w β A own c v) : DenC T w' β' A' own' c v := by
  cases c with
  | v x => exact h
  | d t x => exact Rd.stay s h
  | z t => exact h
  | e cts row off => obtain ⟨a, h1, h2⟩ := h; exact ⟨a, h1, h2.stay s⟩
  | bad => exact h
  | _ => cases hr
theorem DenU.free (s : Stay w A w' A') {c : U} {v : Value} (hr : c.noRef = true) (h : DenU T w β A own c v) : DenU T w' β' A' own' c v := by
  cases c with
  | c x => exact DenC.free s hr h
  | a l =>
    obtain ⟨cs, e1, e2⟩ := h
    refine ⟨cs, e1, All2.of_get e2.length fun i c v h1 h2 => ?_⟩
    obtain ⟨v', h3, h4⟩ := e2.get h1
    rw [h2] at h3
    obtain rfl := Option.some.inj h3
    exact DenC.free s (List.all_eq_true.1 hr c (List.mem_of_getElem? h1)) h4
theorem denUs_free (s : Stay w A w' A') {l : List U} {vs : List Value} (hr : l.all U.noRef = true) (h : All2 (DenU T w β A own) l vs) : All2 (DenU T w' β' A' own') l vs :=
  All2.of_get h.length fun i c v h1 h2 => by
    obtain ⟨v', h3, h4⟩ := h.get h1
    rw [h2] at h3
    obtain rfl := Option.some.inj h3
    exact DenU.free s (List.all_eq_true.1 hr c (List.mem_of_getElem? h1)) h4
/-- what stands in no block of the caller's stands anywhere -/
theorem DenC.anywhere (s : Stay w A w' A') {c : C} {v : Value} (h : DenC T w β A (fun _ => none) c v) : DenC T w' β' A' own' c v := by
  cases c with
  | p n o => obtain ⟨_, _, _, e, _⟩ := h; cases e
  | r n t => obtain ⟨_, e, _⟩ := h; cases e
  | q n i o => obtain ⟨_, _, _, e, _⟩ := h; cases e
  | m n t => obtain ⟨_, _, e, _⟩ := h; cases e
  | _ => exact DenC.free s rfl h
theorem DenU.anywhere (s : Stay w A w' A') {c : U} {v : Value} (h : DenU T w β A (fun _ => none) c v) : DenU T w' β' A' own' c v := by
  cases c with
  | c x => exact DenC.anywhere s h
  | a l => obtain ⟨cs, e1, e2⟩ := h; exact ⟨cs, e1, e2.mono fun _ _ => DenC.anywhere s⟩
theorem DenS.anywhere (s : Stay w A w' A') {c : SV} {v : Value} (h : DenS T w β A (fun _ => none) c v) : DenS T w' β' A' own' c v := by
  cases c with
  | u x => exact DenU.anywhere s h
  | t l => obtain ⟨cs, e1, e2⟩ := h; exact ⟨cs, e1, e2.mono fun _ _ => DenU.anywhere s⟩
end
/-- a function that may be entered -/
def Entr (P : Program) (f : FuncId) : Prop := ∃ fn, P.funcs[f]? = some fn ∧ fn.body.isSome = true ∧ (fn.name == "runtime.NumGoroutine") = false
/-- a call keeps what its spec says -/
def SoundP (P : Program) (T : Tab) (G : Glob) (f : FuncId) (g : List U → Out SV) : Prop :=
  ∀ (K : SV → Prop) (us : List U) (X : Nat → Prop) (w : World) (vals : List Value), (g us).wp K → GOk G w → (∀ b, X b → b < w.heap.size) → All2 (DenU T w (fun _ => none) X (fun _ => none)) us vals →
    Calls P f vals.toArray w fun e w' => ∃ r v, e = .returned v ∧ K r ∧ DenS T w' (fun _ => none) X (fun _ => none) r v ∧ Fr w w' fun _ => False
end Sx
/-! Names, turned about: blocks lent to a call. -/
namespace Sx
open Go
set_option linter.unusedVariables false
set_option linter.unusedSimpArgs false
def C.ren (ρ : Nat → Nat) : C → C
  | .p k o => .p (ρ k) o
  | .r k u => .r (ρ k) u
  | .q k i o => .q (ρ k) i o
  | .m k t => .m (ρ k) t
  | .v x => .v x
  | .d t x => .d t x
  | .z t => .z t
  | .e a b c => .e a b c
  | .bad => .bad
def U.ren (ρ : Nat → Nat) : U → U | .c x => .c (x.ren ρ) | .a l => .a (l.map (C.ren ρ))
def SV.ren (ρ : Nat → Nat) : SV → SV | .u x => .u (x.ren ρ) | .t l => .t (l.map (U.ren ρ))
def Blk.ren (ρ : Nat → Nat) : Blk → Blk | .cells t l => .cells t (l.map (C.ren ρ)) | .row t x => .row t x | .map t l => .map t l
def C.ref : C → Option Nat | .p n _ => some n | .r n _ => some n | .q n _ _ => some n | .m n _ => some n | _ => none
/-- refs to names that are no more -/
def C.clean (live : Own) (c : C) : C := match c.ref with
  | none => c
  | some n => match live n with | some _ => c | none => .bad
def U.clean (live : Own) : U → U | .c x => .c (x.clean live) | .a l => .a (l.map (C.clean live))
def SV.clean (live : Own) : SV → SV | .u x => .u (x.clean live) | .t l => .t (l.map (U.clean live))
def Blk.clean (live : Own) : Blk → Blk | .cells t l => .cells t (l.map (C.clean live)) | .row t x => .row t x | .map t l => .map t l
def memN : List Nat → Nat → Bool
  | [], _ => false
  | a :: l, n => bif n.beq a then true else memN l n
def posN : List Nat → Nat → Option Nat
  | [], _ => none
  | a :: l, n => bif n.beq a then some 0 else match posN l n with | some i => some (i + 1) | none => none
def nodupN : List Nat → Bool
  | [] => true
  | a :: l => !memN l a && nodupN l
def okRef (ns : List Nat) (c : C) : Bool := match c.ref with | none => true | some n => memN ns n
def Blk.okRef (ns : List Nat) : Blk → Bool | .cells _ l => l.all (Sx.okRef ns) | _ => true
theorem posN_get : ∀ {l : List Nat} {n i : Nat}, posN l n = some i → l[i]? = some n
  | [], _, _, h => by simp [posN] at h
  | a :: l, n, i, h => by
    simp only [posN] at h
    cases hb : n.beq a with
    | true =>
      rw [hb] at h
      simp only [cond_true, Option.some.injEq] at h
      subst h
      rw [Nat.eq_of_beq_eq_true hb]; rfl
    | false =>
      rw [hb] at h
      simp only [cond_false] at h
      split at h
      · rename_i j hj
        obtain rfl := Option.some.inj h
        simpa using posN_get hj
      · cases h
theorem posN_mem : ∀ {l : List Nat} {n : Nat}, memN l n = true → ∃ i, posN l n = some i
  | [], _, h => by simp [memN] at h
  | a :: l, n, h => by
    simp only [memN] at h
    simp only [posN]
    cases hb : n.beq a with
    | true => exact ⟨0, rfl⟩
    | false =>
      rw [hb] at h
      obtain ⟨i, hi⟩ := posN_mem h
      exact ⟨i + 1, by simp [hi]⟩
theorem mem_of_pos : ∀ {l : List Nat} {n i : Nat}, posN l n = some i → memN l n = true
  | [], _, _, h => by simp [posN] at h
  | a :: l, n, i, h => by
    simp only [posN] at h
    simp only [memN]
    cases hb : n.beq a with
    | true => rfl
    | false =>
      rw [hb] at h
      simp only [cond_false] at h ⊢
      split at h
      · rename_i j hj; exact mem_of_pos hj
      · cases h
theorem memN_of_get : ∀ {l : List Nat} {i n : Nat}, l[i]? = some n → memN l n = true
  | [], _, _, h => by simp at h
  | a :: l, 0, n, h => by simp only [List.getElem?_cons_zero, Option.some.injEq] at h; subst h; simp [memN]
  | a :: l, i + 1, n, h => by
    simp only [List.getElem?_cons_succ] at h
    simp only [memN, memN_of_get h]
    cases n.beq a <;> rfl
theorem nodupN_pos : ∀ {l : List Nat} {i n : Nat}, nodupN l = true → l[i]? = some n → posN l n = some i
  | [], _, _, _, h => by simp at h
  | a :: l, 0, n, _, h => by simp only [List.getElem?_cons_zero, Option.some.injEq] at h; subst h; simp [posN]
  | a :: l, i + 1, n, hd, h => by
    simp only [List.getElem?_cons_succ] at h
    simp only [nodupN, Bool.and_eq_true, Bool.not_eq_true'] at hd
    have hne : n ≠ a := fun e => by rw [← e, memN_of_get h] at hd; cases hd.1
    simp only [posN, beqn hne, cond_false, nodupN_pos hd.2 h]
section
variable {w w' : World} {T : Tab} {A A' : Nat → Prop} {β β' : Nat → Option Nat} {own own' : Own}
/-- a word under other names -/
theorem DenC.ren {ρ : Nat → Nat} (s : Stay w A w' A') {c : C} {v : Value} (hw : w' = w) (hρ : ∀ n B, c.ref = some n → own n = some B → β' (ρ n) = β n ∧ ∃ B', own' (ρ n) = some B' ∧ (∀ t l, B = .cells t l → ∃ l', B' = .cells t l') ∧ (∀ t x, B = .row t x → B' = .row t x) ∧ (∀ t l, B = .map t l → B' = .map t l))
    (h : DenC T w β A own c v) : DenC T w' β' A' own' (c.ren ρ) v := by
  subst hw
  cases c with
  | v x => exact h
  | d t x => exact Rd.stay s h
  | z t => exact h
  | p n off =>
    obtain ⟨b, t, l, h1, h2, rfl⟩ := h
    obtain ⟨e1, B', e2, e3, _⟩ := hρ n _ rfl h1
    obtain ⟨l', rfl⟩ := e3 t l rfl
    exact ⟨b, t, l', e2, e1.trans h2, rfl⟩
  | e cts row off => obtain ⟨a, h1, h2⟩ := h; exact ⟨a, h1, h2.stay s⟩
  | r n t =>
    obtain ⟨x, h1, h2⟩ := h
    obtain ⟨e1, B', e2, _, e3, _⟩ := hρ n _ rfl h1
    obtain rfl := e3 t x rfl
    exact ⟨x, e2, by rw [e1]; exact h2⟩
  | q n i off =>
    obtain ⟨t, x, b, h1, h2, h3, h4, rfl⟩ := h
    obtain ⟨e1, B', e2, _, e3, _⟩ := hρ n _ rfl h1
    obtain rfl := e3 t x rfl
    exact ⟨t, x, b, e2, e1.trans h2, h3, h4, rfl⟩
  | m n t =>
    obtain ⟨l, b, h1, h2, rfl⟩ := h
    obtain ⟨e1, B', e2, _, _, e3⟩ := hρ n _ rfl h1
    obtain rfl := e3 t l rfl
    exact ⟨l, b, e2, e1.trans h2, rfl⟩
  | bad => exact h
/-- a word whose names may have gone -/
theorem DenC.cleaned (s : Stay w A w' A') {live : Own} {c : C} {v : Value} (hl : ∀ n, live n ≠ none → own' n ≠ none) (k : ∀ n B B', own n = some B → own' n = some B' → β' n = β n ∧ Like w β n w' B B')
    (h : DenC T w β A own c v) : DenC T w' β' A' own' (c.clean live) v := by
  have h1 := h.oneV
  have go : ∀ n, c.ref = some n → (own' n = none → live n = none) → (own' n ≠ none → live n ≠ none → DenC T w' β' A' own' c v) → DenC T w' β' A' own' (c.clean live) v := by
    intro n hr h2 h3
    unfold C.clean
    rw [hr]
    simp only
    split
    · rename_i B hB
      exact h3 (hl n (by simp [hB])) (by simp [hB])
    · exact h1
  have gone : ∀ n, own' n = none → live n = none := fun n hn => by
    cases hc : live n with
    | none => rfl
    | some B => exact absurd hn (hl n (by simp [hc]))
  cases c with
  | v x => exact h
  | d t x => exact Rd.stay s h
  | z t => exact h
  | e cts row off => obtain ⟨a, h1, h2⟩ := h; exact ⟨a, h1, h2.stay s⟩
  | bad => exact h
  | p n off =>
    refine go n rfl (gone n) fun h2 _ => ?_
    obtain ⟨b, t, l, h4, h5, rfl⟩ := h
    cases hB : own' n with
    | none => exact absurd hB h2
    | some B' =>
      obtain ⟨e1, e2⟩ := k n _ B' h4 hB
      cases B' with
      | cells t' l' => exact ⟨b, t', l', hB, e1.trans h5, rfl⟩
      | _ => exact e2.elim
  | r n t =>
    refine go n rfl (gone n) fun h2 _ => ?_
    obtain ⟨x, h4, h5⟩ := h
    cases hB : own' n with
    | none => exact absurd hB h2
    | some B' =>
      obtain ⟨e1, e2⟩ := k n _ B' h4 hB
      cases B' with
      | row t' x' =>
        obtain ⟨rfl, e3, e4⟩ := e2
        exact ⟨x', hB, by rw [e3, e1]; exact h5.keep fun c cs te e hc => e4 c cs te e hc⟩
      | _ => exact e2.elim
  | q n i off =>
    refine go n rfl (gone n) fun h2 _ => ?_
    obtain ⟨t, x, b, h4, h5, h6, h7, rfl⟩ := h
    cases hB : own' n with
    | none => exact absurd hB h2
    | some B' =>
      obtain ⟨e1, e2⟩ := k n _ B' h4 hB
      cases B' with
      | row t' x' =>
        obtain ⟨rfl, e3, e4⟩ := e2
        exact ⟨t', x', b, hB, e1.trans h5, h6, by rw [e3]; exact h7, rfl⟩
      | _ => exact e2.elim
  | m n t =>
    refine go n rfl (gone n) fun h2 _ => ?_
    obtain ⟨l, b, h4, h5, rfl⟩ := h
    cases hB : own' n with
    | none => exact absurd hB h2
    | some B' =>
      obtain ⟨e1, e2⟩ := k n _ B' h4 hB
      cases B' with
      | map t' l' => obtain rfl := e2; exact ⟨l', b, hB, e1.trans h5, rfl⟩
      | _ => exact e2.elim
end
end Sx
