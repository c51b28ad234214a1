/- Part of the proof: a machine of states for walks, and contracts of functions over it. Conditions: those that each theorem names. -/
import Derived.Test.YtcjdbimojffggaaGreatDoorVn
import Derived.Test.YtcjdbimojffggaaGreatDoorVl
import Derived.Maps.OwnSet
set_option linter.unusedVariables false
set_option linter.unusedSimpArgs false
/-! Keys. -/
namespace Sx
open Go Go.Proofs Go.ChangeMaps
set_option linter.unusedVariables false
set_option linter.unusedSimpArgs false
set_option maxRecDepth 30000
variable {G : Glob}
def RU : Value → Option (DataW Unit × List MemPlace) := fun _ => some (.nil, [])
theorem owns_of {w : World} {A : Nat → Prop} {l : List (ByteArray × List D)} {es : Array MapEntry} {clock bm : Nat} (hm : w.heap[bm]? = some (.map es clock)) (rd : MapRd TB w A 79 l es clock) (hn : (l.map (·.1)).Nodup) (hs : ∀ kr ∈ l, kr.1.size ≤ 1000) (hl : l.length ≤ 1000) :
    ∃ D0 : DataW Unit, w.ownsMap Tryz.prog 9 RU bm es.size D0 ∧ Maps.size D0 = l.length ∧ (strKeys D0).length = l.length := by
  obtain ⟨c, h1, h2, h3, h4, h5⟩ := rd
  have hk : ∀ x ∈ es.toList, ∃ kr ∈ l, x.key = .string kr.1 := by
    intro x hx
    obtain ⟨j, hj⟩ := List.mem_iff_getElem?.1 hx
    have hj' : es[j]? = some x := by simpa using hj
    have hjl : j < l.length := by have := (Array.getElem?_eq_some_iff.1 hj').1; omega
    obtain ⟨_, born, vs, q, _⟩ := h5 j _ (List.getElem?_eq_getElem hjl)
    rw [hj'] at q
    obtain rfl := Option.some.inj q
    exact ⟨_, List.getElem_mem hjl, rfl⟩
  have hkeys : es.toList.map (·.key) = l.map fun kr => Value.string kr.1 := by
    refine List.ext_getElem? fun j => ?_
    simp only [List.getElem?_map, Array.getElem?_toList]
    by_cases hjl : j < l.length
    · obtain ⟨_, born, vs, q, _⟩ := h5 j _ (List.getElem?_eq_getElem hjl)
      rw [q, List.getElem?_eq_getElem hjl]; rfl
    · rw [List.getElem?_eq_none (by omega), Array.getElem?_eq_none (by omega)]; rfl
  have hu9 : Tryz.prog.underlying 9 = some .string := by kernel_rfl
  have hst : MapKept.Stamped es clock := by
    refine ⟨fun x hx => h4 x (Array.mem_toList_iff.1 hx), h3, ?_⟩
    rw [hkeys]
    have : (l.map fun kr => Value.string kr.1) = (l.map (·.1)).map Value.string := by simp
    rw [this]
    exact List.pairwise_map.2 (hn.imp fun h e => h (Value.string.inj e))
  have hmx : (1000 : Nat) ≤ maxLen := by decide
  refine ⟨_, ⟨es, clock, hm, ⟨by omega, hst, fun x hx => ?_⟩, Nat.le_refl _, rfl⟩, ?_, ?_⟩
  · obtain ⟨kr, hkr, e⟩ := hk x hx
    have := hs kr hkr
    exact ⟨_, WideElems.rd_mk (key := x.key) (val := x.val) (born := x.born) (by rw [e]; exact WideMaps.keyOf_string_mk hu9 (by omega)) rfl⟩
  · simp [Maps.size, length_sorted, h2]
  · simp [strKeys, length_sorted, h2]
def tkeysT : List U → List Blk → Out RF
  | [.c (.p 50000 0)], [.cells 81 [.v (.int .i64 st), .v (.int .i64 bu), .v (.int .i64 ti), .v (.int .i64 nw), .m 50001 79], .map 79 l] =>
    .need ((l.map (·.1)).Nodup ∧ (∀ kr ∈ l, kr.1.size ≤ 1000) ∧ l.length ≤ 1000) (.all (List (List D)) (fun ks => ks.length = l.length) ⟨List.replicate l.length [], by simp⟩ fun ks =>
      .ret (.u (.c (.d 57 (.rows ks))), TBk st bu ti nw l, []))
  | _, _ => .fail
theorem krow_rd {w : World} {A : Nat → Prop} {base : Nat} {v : Value} {n : Nat} {ss : List (List UInt8)} (h : w.ownsRow base 9 1 v n (ss.map encStr)) (hA : ∀ b, base ≤ b → ¬ A b) :
    ∃ ks : List (List D), ks.length = n ∧ Rd TB w A (.sl 57) v (.rows ks) := by
  have ht : TB 57 = some (.rows [.str]) := by kernel_rfl
  obtain ⟨h1, ⟨rfl, rfl⟩ | ⟨g, cap, cur, rfl, h3, h4, h5, _, h7, h8⟩⟩ := h
  · exact ⟨[], rfl, .nilR ht⟩
  · have hlen : ss.length = n := by simpa using h1
    subst hlen
    have hg : g < w.heap.size := (Array.getElem?_eq_some_iff.1 h4).1
    refine ⟨ss.map fun s => [.str ⟨s.toArray⟩], by simp, ?_⟩
    have e : ss.length = (ss.map fun s => [D.str ⟨s.toArray⟩]).length := by simp
    rw [e]
    refine .rows (fun i _ => encStr (ss.getD i [])) ht (by simpa using h5) ?_ ?_ ?_
    · intro i r hi
      simp only [List.getElem?_map, Option.map_eq_some_iff] at hi
      obtain ⟨s, _, rfl⟩ := hi
      rfl
    · intro i r j d hi hj
      simp only [List.getElem?_map, Option.map_eq_some_iff] at hi
      obtain ⟨s, hs, rfl⟩ := hi
      match j, hj with
      | 0, hj =>
        have hil : i < ss.length := (List.getElem?_eq_some_iff.1 hs).1
        have e0 : i * [Ct.str].length + 0 = i := by simp
        rw [e0, add_lit]
        refine ⟨hA g h3, hg, ?_⟩
        rw [cell_of_block h4]
        have : (cur.toList.take (ss.length * 1))[i]? = (ss.map encStr)[i]? := by rw [h8]
        rw [List.getElem?_take_of_lt (by omega), List.getElem?_map, hs] at this
        rw [Nat.zero_add, ← Array.getElem?_toList, this]
        simp [List.getD, hs]
    · intro i r j ct d hi hc hj
      simp only [List.getElem?_map, Option.map_eq_some_iff] at hi
      obtain ⟨s, hs, rfl⟩ := hi
      match j, hc, hj with
      | 0, hc, hj =>
        obtain rfl := Option.some.inj hc
        obtain rfl := Option.some.inj hj
        simp only [List.getD, hs, Option.getD_some]
        exact .str
set_option maxHeartbeats 1000000 in
theorem tkeys_ok : OkF G 15 tkeysT := by
  refine sound_by false (S := B []) (BT []) Tryz.func15 rfl (by decide) fun K us lent hk => ?_
  unfold tkeysT at hk
  split at hk
  · rename_i st bu ti nw l
    obtain ⟨⟨hnd, hks, hln⟩, hk⟩ := hk
    refine ⟨by show 1 ≤ _; decide, fun E β a w Q hT hG hnt hlow hhi hR hQN hQR => ?_⟩
    obtain ⟨T, G', w0, X, L, nt, own0, β0⟩ := E
    simp only at hT hG hnt hlow hhi
    subst hT hG hnt
    refine wp_seq (wp_region_list (runOps_sound (S := B []) (BT []) noneS rfl rfl hlow hhi _ (N := Sub [(0, .u (.c (.p 50000 0)))] [(50000, .cells 81 [I64 st, I64 bu, I64 ti, I64 nw, .m 50001 79]), (50001, .map 79 l)]) hR ?_ ?_))
    · conv => whnf
      exact ⟨⟨rfl, trivial⟩, ⟨rfl, rfl, trivial⟩⟩
    rintro a w1 ⟨env1, own1, β1, hN1, hR⟩
    have hR := hR.sub hN1 rfl
    refine wp_seq (wp_region_list ?_)
    show wpList PR _ _ ([_, _, _, _] ++ [_, _, _]) a w1
    refine runOps_app (S := B []) (BT []) noneS rfl rfl hlow hhi _ (N := Sub [(6, .u (.c (.m 50001 79)))] [(50000, .cells 81 [I64 st, I64 bu, I64 ti, I64 nw, .m 50001 79]), (50001, .map 79 l)]) hR ?_ ?_
    · conv => whnf
      exact ⟨⟨rfl, trivial⟩, ⟨rfl, rfl, trivial⟩⟩
    rintro a w4 ⟨env4, own4, β4, hN4, hR⟩
    have hR := hR.sub hN4 rfl
    obtain ⟨bm, es, clock, g7, g8, g9⟩ := hR.blks.blk 50001 _ rfl
    have hsz : a.tmps.size = 9 := hR.size
    have hv6 : a.eval (.tmp 6) = .map (some bm) := by
      obtain ⟨l, b, _, z3, z4⟩ := hR.vals 6 _ rfl
      rw [g7] at z3
      obtain rfl := Option.some.inj z3
      exact z4
    refine list_call rfl (clo_run (f := 47) (caps := #[]) ⟨_, Tryz.func47, rfl, by decide⟩ rfl rfl) ?_
    rw [show (#[Operand.tmp 6].map a.eval ++ #[]) = #[.map (some bm)] by simp [hv6]]
    refine (callsIn_wide.1 (Tryz.maps_Keys_47 (some bm) w4)).mono fun e w5 ⟨c1, c2⟩ => ⟨_, c1, ?_⟩
    subst c2
    have f45 : Fr w4 (w4.alloc (.cells #[.map (some bm)] 79)) fun _ => False := ⟨rfl, rfl, rfl, by simp, fun b hb _ => Go.RowKit.Below.heap_alloc w4 _ b hb⟩
    have hR5 := (hR.idle f45).put (d := 7) (sv := .u (.c .bad)) (v := .func (.func 76) #[] #[.pointer (some ⟨w4.heap.size, 0, none⟩)]) (by show 7 < 9; decide) rfl
    refine list_call rfl (clo_run (f := 46) (caps := #[]) ⟨_, Tryz.func46, rfl, by decide⟩ rfl rfl) ?_
    rw [show (#[Operand.tmp 7].map (a.put (some 7) (.func (.func 76) #[] #[.pointer (some ⟨w4.heap.size, 0, none⟩)])).eval ++ #[]) = #[.func (.func 76) #[] #[.pointer (some ⟨w4.heap.size, 0, none⟩)]] by simp [eval_put, hsz]]
    obtain ⟨D0, ho1, ho2, ho3⟩ := owns_of g8 g9 hnd hks hln
    have hmx : (1000 : Nat) ≤ maxLen := by decide
    refine (callsIn_wide.1 (Tryz.slices_Sorted_keys bm es.size D0 RU w4 ho1 (by omega) (by omega))).mono fun e w6 ⟨v, ss, d1, d2, d3, d4, d5⟩ => ⟨v, d1, ?_⟩
    have hlen : ss.length = l.length := by rw [d2.length_eq, ho3]
    have f56 : Fr (w4.alloc (.cells #[.map (some bm)] 79)) w6 fun _ => False := ⟨d5.os, d5.tape, d5.output, d5.size, fun b hb _ => d5.block b hb⟩
    have hR6 := hR5.idle f56
    obtain ⟨ks, hk1, hk2⟩ := krow_rd (w := w6) (A := Av X β4 (lookT [(50000, .cells 81 [I64 st, I64 bu, I64 ti, I64 nw, .m 50001 79]), (50001, .map 79 l)])) d3 (by
      intro b hb hav
      have hb' : (w4.alloc (.cells #[.map (some bm)] 79)).heap.size ≤ b := hb
      rcases hav with hx | ⟨n, q1, q2⟩
      · have := hR5.xold b hx
        have := hR5.frame.size
        simp only at *
        omega
      · have := (hR5.blks.loc n b q1 q2).1
        omega)
    have hk := hk ks (by omega)
    have hR7 := hR6.put (d := 8) (sv := .u (.c (.d 57 (.rows ks)))) (v := v) (by show 8 < 9; decide) hk2
    refine runOps_sound (S := B []) (BT []) noneS rfl rfl hlow hhi _ (N := Sub [(2, .u (.c (.d 57 (.rows ks))))] [(50000, .cells 81 [I64 st, I64 bu, I64 ti, I64 nw, .m 50001 79]), (50001, .map 79 l)]) hR7 ?_ ?_
    · conv => whnf
      exact ⟨⟨rfl, trivial⟩, ⟨rfl, rfl, trivial⟩⟩
    rintro a w8 ⟨env8, own8, β8, hN8, hR8⟩
    have hR8 := hR8.sub hN8 rfl
    refine wpC_sound (S := B []) (BT []) noneS rfl rfl hlow hhi .ret (N := fun _ _ => False) (X := fun _ _ _ => False) hR8 ?_ (fun _ _ ⟨_, _, _, hh, _⟩ => hh.elim) (fun _ _ _ ⟨_, _, _, hh, _⟩ => hh.elim) hQR
    conv => whnf
    exact hk
  · exact hk.elim
end Sx
