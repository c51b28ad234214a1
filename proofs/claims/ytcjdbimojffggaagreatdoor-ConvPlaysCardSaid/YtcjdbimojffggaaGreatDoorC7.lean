/- Part of the proof: a machine of states for walks, and contracts of functions over it. Conditions: those that each theorem names. -/
import Derived.Test.YtcjdbimojffggaaGreatDoorC6
import Derived.Test.YtcjdbimojffggaaGreatDoorC5
import Derived.Test.YtcjdbimojffggaaGreatDoorC3
set_option linter.unusedVariables false
set_option linter.unusedSimpArgs false
namespace Sx
open Go
section
variable {E : Ctx} {β : Nat → Option Nat} {env : Env} {own : Own} {a : Act} {w w' : World} {T : Tab} {A A' : Nat → Prop}
theorem Like.trans {w0 : World} {β0 : Nat → Option Nat} {n : Nat} {B0 B B4 : Blk} (h1 : Like w0 β0 n w B0 B) (e : β n = β0 n) (h2 : Like w β n w' B B4) : Like w0 β0 n w' B0 B4:=by
 cases B0 with
 | cells t l=>cases B with
  | cells t2 l2=>cases B4 with
   | cells t3 l3=>trivial
   | _=>exact h2.elim
  | _=>exact h1.elim
 | row t x=>cases B with
  | row t2 x2=>cases B4 with
   | row t3 x3 =>
    obtain ⟨a1,a2,a3⟩:=h1
    obtain ⟨b1,b2,b3⟩:=h2
    refine ⟨b1.trans a1,b2.trans a2,fun b cs te hb hc=>?_⟩
    obtain ⟨cs2,c1,c2⟩:=a3 b cs te hb hc
    obtain ⟨cs3,c3,c4⟩:=b3 b cs2 te (e.trans hb) c1
    exact ⟨cs3,c3,c4.trans c2⟩
   | _=>exact h2.elim
  | _=>exact h1.elim
 | map t l=>cases B with
  | map t2 l2=>cases B4 with
   | map t3 l3=>exact Eq.trans h2 h1
   | _=>exact h2.elim
  | _=>exact h1.elim
theorem clean_id {live : Own} {c : C} {v : Value} (hl : ∀ n,own n ≠ none → live n ≠ none) (h : DenC T w β A own c v) : c.clean live = c:=by
 have key : ∀ n,c.ref = some n → own n ≠ none → c.clean live = c:=by
  intro n hr hn
  unfold C.clean
  rw [hr]
  cases hc : live n with
  | none=>exact absurd hc (hl n hn)
  | some B=>simp only [hc]
 cases c with
 | p n off=>obtain ⟨b,t,l,h1,_⟩:=h; exact key n rfl (by simp [h1])
 | r n t=>obtain ⟨x,h1,_⟩:=h; exact key n rfl (by simp [h1])
 | q n i off=>obtain ⟨t,x,b,h1,_⟩:=h; exact key n rfl (by simp [h1])
 | m n t=>obtain ⟨l,b,h1,_⟩:=h; exact key n rfl (by simp [h1])
 | _=>rfl
theorem receive (h : Rel E β env own a w) {ns : List Nat} {lent : List Blk} {us : List U} {βc : Nat → Option Nat} {Xc : Nat → Prop} {outs : List (Option Blk)} {news : List Blk} {β' : Nat → Option Nat} {r : SV} {v : Value} {d : Nat}
  (hok : lentOk own ns us = true) (hl : lentBs own ns = some lent) (b1 : ∀ i n,ns[i]? = some n → βc (50000 + i) = β n) (hA : ∀ b,Av Xc βc (lentOwn lent) b ↔ Av E.X β own b)
  (hX : ∀ b,Xc b ↔ E.X b ∨ ∃ n,own n ≠ none ∧ memN ns n = false ∧ β n = some b) (hM : ∀ b,Mine βc (lentOwn lent) b → ∃ n,own n ≠ none ∧ memN ns n = true ∧ β n = some b)
  (lat : ∀ i n,ns[i]? = some n → ∃ B,own n = some B ∧ lentOwn lent (50000 + i) = some (B.ren (nameIn ns)))
  (hlen : outs.length = lent.length) (ho2 : OwnOk E.T E.G w' β' Xc (resOwn outs news)) (hr : DenS E.T w' β' (Av Xc β' (resOwn outs news)) (resOwn outs news) r v)
  (fr : Fr w w' (Mine βc (lentOwn lent))) (kl : KeepL (lentOwn lent) w βc (resOwn outs news) w' β') (nb : ∀ n b,resOwn outs news n ≠ none → β' n = some b → w.heap.size ≤ b ∨ Mine βc (lentOwn lent) b)
  (hd : d < 100000) (hfree : freeN own d news.length = true) (hhi : ∀ n,100000 ≤ n → E.own0 n = none) :
  ∃ β4,Rel E β4 (envC env (own3 own ns d outs news)) (ownC (own3 own ns d outs news) (own3 own ns d outs news)) a w' ∧
   DenS E.T w' β4 (Av E.X β4 (ownC (own3 own ns d outs news) (own3 own ns d outs news))) (ownC (own3 own ns d outs news) (own3 own ns d outs news)) (r.ren (nameOut ns d)) v:=by
 have hok':=hok
 simp only [lentOk,Bool.and_eq_true] at hok'
 obtain ⟨⟨⟨hnd,hus⟩,hbs⟩,hlen0⟩:=hok'
 have hns : ns.length ≤ 10000:=Nat.le_of_ble_eq_true hlen0
 have hll : lent.length = ns.length:=mapO_len hl
 -- the new names' blocks
 generalize ho3 : own3 own ns d outs news = o3
 let β4 : Nat → Option Nat:=fun n=>match posN ns n with
  | some i=>β' (50000 + i)
  | none=>match unfresh d n with
   | some j=>if j < news.length then β' (60000 + j) else β n
   | none=>β n
 have ownsome : ∀ i n,ns[i]? = some n → own n ≠ none:=fun i n hi=>by obtain ⟨B,h1,_⟩:=lat i n hi; simp [h1]
 have freshout : ∀ j,j < news.length → posN ns (freshN d j) = none:=by
  intro j hj
  cases hp : posN ns (freshN d j) with
  | none=>rfl
  | some i=>exact absurd (freeN_get hfree hj) (ownsome i _ (posN_get hp))
 -- the three kinds of names
 have k1 : ∀ i n,ns[i]? = some n → o3 n = outN outs (nameOut ns d) i ∧ β4 n = β' (50000 + i):=by
  intro i n hi
  have hp:=nodupN_pos hnd hi
  exact ⟨by rw [← ho3]; simp only [own3,hp],by simp only [β4,hp]⟩
 have k2 : ∀ j B,news[j]? = some B → o3 (freshN d j) = some (B.ren (nameOut ns d)) ∧ β4 (freshN d j) = β' (60000 + j):=by
  intro j B hj
  have hlt:=(List.getElem?_eq_some_iff.1 hj).1
  have hp:=freshout j hlt
  exact ⟨by rw [← ho3]; simp only [own3,hp,unfresh_fresh hd,hj],by simp only [β4,hp,unfresh_fresh hd,if_pos hlt]⟩
 have k3 : ∀ n,posN ns n = none → (∀ j,j < news.length → n ≠ freshN d j) → o3 n = own n ∧ β4 n = β n:=by
  intro n hp hf
  cases hu : unfresh d n with
  | none=>exact ⟨by rw [← ho3]; simp only [own3,hp,hu],by simp only [β4,hp,hu]⟩
  | some j =>
   have e:=of_unfresh hu
   have hge : ¬ j < news.length:=fun hlt=>hf j hlt e
   have hg : news[j]? = none:=List.getElem?_eq_none (by omega)
   exact ⟨by rw [← ho3]; simp only [own3,hp,hu,hg],by simp only [β4,hp,hu,if_neg hge]⟩
 -- a live name is of one kind
 have kind : ∀ n,o3 n ≠ none → (∃ i B,ns[i]? = some n ∧ outs[i]? = some (some B) ∧ o3 n = some (B.ren (nameOut ns d)) ∧ β4 n = β' (50000 + i) ∧ resOwn outs news (50000 + i) = some B) ∨
   (∃ j B,news[j]? = some B ∧ n = freshN d j ∧ o3 n = some (B.ren (nameOut ns d)) ∧ β4 n = β' (60000 + j) ∧ resOwn outs news (60000 + j) = some B) ∨
   (posN ns n = none ∧ own n ≠ none ∧ o3 n = own n ∧ β4 n = β n):=by
  intro n hn
  cases hp : posN ns n with
  | some i =>
   have hi:=posN_get hp
   obtain ⟨e1,e2⟩:=k1 i n hi
   rw [e1] at hn
   unfold outN at hn e1
   split at hn
   ·rename_i B hB
    rw [hB] at e1
    have hlt:=(List.getElem?_eq_some_iff.1 hi).1
    exact .inl ⟨i,B,hi,hB,e1,e2,by rw [resOwn_out (by omega),hB]⟩
   exact absurd rfl hn
  | none =>
   by_cases hf : ∃ j,j < news.length ∧ n = freshN d j
   ·obtain ⟨j,hj,rfl⟩:=hf
    have hB:=List.getElem?_eq_getElem hj
    obtain ⟨e1,e2⟩:=k2 j _ hB
    exact .inr (.inl ⟨j,_,hB,rfl,e1,e2,by rw [resOwn_new,hB]⟩)
   obtain ⟨e1,e2⟩:=k3 n hp fun j hj e=>hf ⟨j,hj,e⟩
   exact .inr (.inr ⟨rfl,by rw [← e1]; exact hn,e1,e2⟩)
 have oC : ∀ n,ownC o3 o3 n ≠ none ↔ o3 n ≠ none:=by
  intro n
  unfold ownC
  cases o3 n <;> simp
 have memf : ∀ n,posN ns n = none → memN ns n = false:=by
  intro n hp
  cases hm : memN ns n with
  | false=>rfl
  | true=>obtain ⟨i,hi⟩:=posN_mem hm; rw [hp] at hi; cases hi
 have av1 : ∀ b,Av E.X β4 (ownC o3 o3) b → Av Xc β' (resOwn outs news) b:=by
  rintro b (hx | ⟨n,h1,h2⟩)
  ·exact .inl ((hX b).2 (.inl hx))
  rcases kind n ((oC n).1 h1) with ⟨i,B,p1,p2,p3,p4,p5⟩ | ⟨j,B,p1,p2,p3,p4,p5⟩ | ⟨p1,p2,p3,p4⟩
  ·exact .inr ⟨50000 + i,by simp [p5],by rw [← p4]; exact h2⟩
  ·exact .inr ⟨60000 + j,by simp [p5],by rw [← p4]; exact h2⟩
  exact .inl ((hX b).2 (.inr ⟨n,p2,memf n p1,by rw [← p4]; exact h2⟩))
 have notold : ∀ b,b < w.heap.size → ¬ Av E.X β own b → ¬ Mine βc (lentOwn lent) b:=by
  rintro b _ hn ⟨m,h1,h2⟩
  exact hn ((hA b).1 (.inr ⟨m,h1,h2⟩))
 have s : Stay w (Av E.X β own) w' (Av E.X β4 (ownC o3 o3)):=by
  refine ⟨fr.size,fun b hb hn=>⟨fr.heap b hb (notold b hb hn),fun hh=>?_⟩⟩
  rcases av1 b hh with hx | ⟨m,h1,h2⟩
  ·rcases (hX b).1 hx with hx | ⟨n,h1,_,h3⟩
   ·exact hn (.inl hx)
   exact hn (.inr ⟨n,h1,h3⟩)
  rcases nb m b h1 h2 with h3 | h3
  ·omega
  exact notold b hb hn h3
 have s2 : Stay w' (Av Xc β' (resOwn outs news)) w' (Av E.X β4 (ownC o3 o3)):=⟨Nat.le_refl _,fun b _ hn=>⟨rfl,fun hh=>hn (av1 b hh)⟩⟩
 have blkC : ∀ n B,o3 n = some B → ownC o3 o3 n = some (B.clean o3):=fun n B hB=>by simp only [ownC,hB]
 have notlent : ∀ n b,posN ns n = none → own n ≠ none → β n = some b → w'.heap[b]? = w.heap[b]?:=by
  intro n b hp hn hb
  refine fr.heap b (h.blks.loc n b hn hb).1 fun hm=>?_
  obtain ⟨n',h1,h2,h3⟩:=hM b hm
  have:=h.blks.inj n n' b hn h1 hb h3
  subst this
  rw [memf n hp] at h2
  cases h2
 have live : ∀ n B B4,own n = some B → ownC o3 o3 n = some B4 → β4 n = β n ∧ Like w β n w' B B4:=by
  intro n B B4 hB hB4
  rcases kind n ((oC n).1 (by simp [hB4])) with ⟨i,B2,p1,p2,p3,p4,p5⟩ | ⟨j,B2,p1,rfl,p3,p4,p5⟩ | ⟨p1,p2,p3,p4⟩
  ·rw [blkC n _ p3] at hB4
   obtain rfl:=Option.some.inj hB4
   obtain ⟨B0,q1,q2⟩:=lat i n p1
   rw [hB] at q1
   obtain rfl:=Option.some.inj q1
   obtain ⟨e1,e2⟩:=kl (50000 + i) _ _ q2 p5
   refine ⟨by rw [p4,e1,b1 i n p1],?_⟩
   cases B with
   | cells t l=>cases B2 with
    | cells t2 l2=>trivial
    | _=>exact e2.elim
   | row t x=>cases B2 with
    | row t2 x2 =>
     obtain ⟨c1,c2,c3⟩:=e2
     exact ⟨c1,c2,fun b cs te hb hc=>c3 b cs te (by rw [b1 i n p1]; exact hb) hc⟩
    | _=>exact e2.elim
   | map t l=>cases B2 with
    | map t2 l2=>exact e2
    | _=>exact e2.elim
  ·have:=freeN_get hfree (List.getElem?_eq_some_iff.1 p1).1
   rw [this] at hB
   cases hB
  rw [blkC n B (p3.trans hB)] at hB4
  obtain rfl:=Option.some.inj hB4
  refine ⟨p4,?_⟩
  cases B with
  | cells t l=>trivial
  | row t x=>exact ⟨rfl,rfl,fun b cs te hb hc=>⟨cs,(notlent n b p1 p2 hb).trans hc,rfl⟩⟩
  | map t l=>exact Eq.refl t
 have hC : ∀ {c : C} {v : Value},DenC E.T w β (Av E.X β own) own c v → DenC E.T w' β4 (Av E.X β4 (ownC o3 o3)) (ownC o3 o3) (c.clean o3) v :=
  fun hc=>DenC.cleaned s (fun n hn=>(oC n).2 hn) live hc
 have σ : ∀ n B,resOwn outs news n = some B → β4 (nameOut ns d n) = β' n ∧ ∃ B',ownC o3 o3 (nameOut ns d n) = some B' ∧ (∀ t l,B = .cells t l → ∃ l',B' = .cells t l') ∧ (∀ t x,B = .row t x → B' = .row t x) ∧ (∀ t l,B = .map t l → B' = .map t l):=by
  intro n B hB
  have shape : (∀ t l,B = .cells t l → ∃ l',(B.ren (nameOut ns d)).clean o3 = .cells t l') ∧ (∀ t x,B = .row t x → (B.ren (nameOut ns d)).clean o3 = .row t x) ∧ (∀ t l,B = .map t l → (B.ren (nameOut ns d)).clean o3 = .map t l):=by
   refine ⟨?_,?_,?_⟩ <;> rintro t l rfl
   ·exact ⟨_,rfl⟩
   ·rfl
   rfl
  rcases resOwn_some (by omega) hB with ⟨i,rfl,hi,ho⟩ | ⟨j,rfl,hj⟩
  ·have hlt:=(List.getElem?_eq_some_iff.1 ho).1
   have hg : ns[i]? = some ns[i]:=List.getElem?_eq_getElem (by omega)
   have e : nameOut ns d (50000 + i) = ns[i]:=by
    have hb : Nat.ble 60000 (50000 + i) = false:=by
     cases hh : Nat.ble 60000 (50000 + i)
     ·rfl
     have:=Nat.le_of_ble_eq_true hh; omega
    simp only [nameOut,hb,cond_false,Nat.add_sub_cancel_left,List.getD,hg,Option.getD_some]
   obtain ⟨e1,e2⟩:=k1 i _ hg
   unfold outN at e1
   rw [ho] at e1
   rw [e]
   exact ⟨e2,_,blkC _ _ e1,shape⟩
  have e : nameOut ns d (60000 + j) = freshN d j:=by
   have hb : Nat.ble 60000 (60000 + j) = true:=Nat.ble_eq_true_of_le (by omega)
   simp only [nameOut,hb,cond_true,Nat.add_sub_cancel_left]
  obtain ⟨e1,e2⟩:=k2 j B hj
  rw [e]
  exact ⟨e2,_,blkC _ _ e1,shape⟩
 have hR : ∀ {c : C} {v : Value},DenC E.T w' β' (Av Xc β' (resOwn outs news)) (resOwn outs news) c v → DenC E.T w' β4 (Av E.X β4 (ownC o3 o3)) (ownC o3 o3) (c.ren (nameOut ns d)) v :=
  fun hc=>DenC.ren s2 rfl (fun n B _ hB=>σ n B hB) hc
 have hRc : ∀ {c : C} {v : Value},DenC E.T w' β' (Av Xc β' (resOwn outs news)) (resOwn outs news) c v → DenC E.T w' β4 (Av E.X β4 (ownC o3 o3)) (ownC o3 o3) ((c.ren (nameOut ns d)).clean o3) v:=by
  intro c v hc
  have h1:=hR hc
  rwa [clean_id (fun n hn=>(oC n).1 hn) h1]
 have hRU : ∀ {c : U} {v : Value},DenU E.T w' β' (Av Xc β' (resOwn outs news)) (resOwn outs news) c v → DenU E.T w' β4 (Av E.X β4 (ownC o3 o3)) (ownC o3 o3) (c.ren (nameOut ns d)) v:=by
  intro c v hc
  cases c with
  | c x=>exact hR hc
  | a l=>obtain ⟨cs,e1,e2⟩:=hc; exact ⟨cs,e1,e2.map_left (C.ren (nameOut ns d)) fun _ _=>hR⟩
 have blkR : ∀ n m B,o3 n = some (B.ren (nameOut ns d)) → β4 n = β' m → BlkOk E.T w' β' (Av Xc β' (resOwn outs news)) (resOwn outs news) m B → BlkOk E.T w' β4 (Av E.X β4 (ownC o3 o3)) (ownC o3 o3) n ((B.ren (nameOut ns d)).clean o3):=by
  intro n m B hn hβ hb
  cases B with
  | cells t l =>
   obtain ⟨b,cs,c1,c2,c3⟩:=hb
   refine ⟨b,cs,hβ.trans c1,c2,?_⟩
   have:=c3.map_left (fun c=>(c.ren (nameOut ns d)).clean o3) fun _ _=>hRc
   have e : (l.map (C.ren (nameOut ns d))).map (C.clean o3) = l.map (fun c=>(c.ren (nameOut ns d)).clean o3):=by rw [List.map_map]; rfl
   show All2 _ ((l.map (C.ren (nameOut ns d))).map (C.clean o3)) cs
   rw [e]
   exact this
  | row t x =>
   obtain ⟨cs,c1,c2⟩:=hb
   exact ⟨cs,c1.stay s2,by rw [hβ]; exact c2⟩
  | map t l =>
   obtain ⟨b,es,clock,c1,c2,c3⟩:=hb
   exact ⟨b,es,clock,hβ.trans c1,c2,c3.stay s2⟩
 refine ⟨β4,⟨h.defers,h.size,?_,⟨?_,?_,?_⟩,?_,?_,?_,h.xold,?_⟩,?_⟩
 ·intro t sv hs
  unfold envC at hs
  split at hs
  ·rename_i sv0 h0
   obtain rfl:=Option.some.inj hs
   have hv:=h.vals t sv0 h0
   have hU : ∀ {u : U} {v : Value},DenU E.T w β (Av E.X β own) own u v → DenU E.T w' β4 (Av E.X β4 (ownC o3 o3)) (ownC o3 o3) (u.clean o3) v:=by
    intro u v hu
    cases u with
    | c x=>exact hC hu
    | a l=>obtain ⟨cs,e1,e2⟩:=hu; exact ⟨cs,e1,e2.map_left (C.clean o3) fun _ _=>hC⟩
   cases sv0 with
   | u x=>exact hU hv
   | t l=>obtain ⟨vs,e1,e2⟩:=hv; exact ⟨vs,e1,e2.map_left (U.clean o3) fun _ _=>hU⟩
  cases hs
 ·intro n B hB
  rcases kind n ((oC n).1 (by simp [hB])) with ⟨i,B2,p1,p2,p3,p4,p5⟩ | ⟨j,B2,p1,rfl,p3,p4,p5⟩ | ⟨p1,p2,p3,p4⟩
  ·rw [blkC n _ p3] at hB
   obtain rfl:=Option.some.inj hB
   exact blkR n _ B2 p3 p4 (ho2.blk _ _ p5)
  ·rw [blkC _ _ p3] at hB
   obtain rfl:=Option.some.inj hB
   exact blkR _ _ B2 p3 p4 (ho2.blk _ _ p5)
  cases hB0 : own n with
  | none=>exact absurd hB0 p2
  | some B0 =>
   rw [blkC n B0 (p3.trans hB0)] at hB
   obtain rfl:=Option.some.inj hB
   have hb:=h.blks.blk n B0 hB0
   cases B0 with
   | cells t l =>
    obtain ⟨b,cs,c1,c2,c3⟩:=hb
    exact ⟨b,cs,p4.trans c1,(notlent n b p1 p2 c1).trans c2,c3.map_left (C.clean o3) fun _ _=>hC⟩
   | row t x =>
    obtain ⟨cs,c1,c2⟩:=hb
    refine ⟨cs,c1.stay s,?_⟩
    rw [p4]
    cases hβ : β n with
    | none=>rw [hβ] at c2; exact c2
    | some b=>rw [hβ] at c2; obtain ⟨te,cap,c3,c4⟩:=c2; exact ⟨te,cap,(notlent n b p1 p2 hβ).trans c3,c4⟩
   | map t l =>
    obtain ⟨b,es,clock,c1,c2,c3⟩:=hb
    exact ⟨b,es,clock,p4.trans c1,(notlent n b p1 p2 c1).trans c2,c3.stay s⟩
 ·intro n n' b h1 h2 h3 h4
  have src : ∀ n,ownC o3 o3 n ≠ none → β4 n = some b → (∃ m,resOwn outs news m ≠ none ∧ β' m = some b ∧ nameOut ns d m = n) ∨ (own n ≠ none ∧ β n = some b ∧ Xc b):=by
   intro n h1 h2
   rcases kind n ((oC n).1 h1) with ⟨i,B2,p1,p2,p3,p4,p5⟩ | ⟨j,B2,p1,rfl,p3,p4,p5⟩ | ⟨p1,p2,p3,p4⟩
   ·refine .inl ⟨50000 + i,by simp [p5],by rw [← p4]; exact h2,?_⟩
    have hlt:=(List.getElem?_eq_some_iff.1 p1).1
    have hb : Nat.ble 60000 (50000 + i) = false:=by
     cases hh : Nat.ble 60000 (50000 + i)
     ·rfl
     have:=Nat.le_of_ble_eq_true hh; omega
    simp only [nameOut,hb,cond_false,Nat.add_sub_cancel_left,List.getD,p1,Option.getD_some]
   ·refine .inl ⟨60000 + j,by simp [p5],by rw [← p4]; exact h2,?_⟩
    have hb : Nat.ble 60000 (60000 + j) = true:=Nat.ble_eq_true_of_le (by omega)
    simp only [nameOut,hb,cond_true,Nat.add_sub_cancel_left]
   exact .inr ⟨p2,by rw [← p4]; exact h2,(hX b).2 (.inr ⟨n,p2,memf n p1,by rw [← p4]; exact h2⟩)⟩
  rcases src n h1 h3 with ⟨m,a1,a2,a3⟩ | ⟨a1,a2,a3⟩ <;> rcases src n' h2 h4 with ⟨m',c1,c2,c3⟩ | ⟨c1,c2,c3⟩
  ·rw [← a3,← c3,ho2.inj m m' b a1 c1 a2 c2]
  ·exact absurd c3 (ho2.loc m b a1 a2).2.1
  ·exact absurd a3 (ho2.loc m' b c1 c2).2.1
  exact h.blks.inj n n' b a1 c1 a2 c2
 ·intro n b h1 h2
  rcases kind n ((oC n).1 h1) with ⟨i,B2,p1,p2,p3,p4,p5⟩ | ⟨j,B2,p1,rfl,p3,p4,p5⟩ | ⟨p1,p2,p3,p4⟩
  ·rw [p4] at h2
   have:=ho2.loc _ b (by simp [p5]) h2
   exact ⟨this.1,fun hx=>this.2.1 ((hX b).2 (.inl hx)),this.2.2⟩
  ·rw [p4] at h2
   have:=ho2.loc _ b (by simp [p5]) h2
   exact ⟨this.1,fun hx=>this.2.1 ((hX b).2 (.inl hx)),this.2.2⟩
  rw [p4] at h2
  have:=h.blks.loc n b p2 h2
  exact ⟨Nat.lt_of_lt_of_le this.1 fr.size,this.2⟩
 ·exact h.glob.fr fr fun b hb hm=>by
   obtain ⟨n,h1,_,h3⟩:=hM b hm
   have:=(h.blks.loc n b h1 h3).2.2
   omega
 ·exact h.frame.trans fr fun x hx hm=>by
   obtain ⟨n,h1,_,h3⟩:=hM x hm
   exact (h.mine n x h1 h3).resolve_left (by omega)
 ·intro n b h1 h2
  have new : ∀ m,resOwn outs news m ≠ none → β' m = some b → E.w0.heap.size ≤ b ∨ E.L b:=by
   intro m h3 h4
   rcases nb m b h3 h4 with h5 | h5
   ·exact .inl (Nat.le_trans h.frame.size h5)
   obtain ⟨n',q1,_,q3⟩:=hM b h5
   exact h.mine n' b q1 q3
  rcases kind n ((oC n).1 h1) with ⟨i,B2,p1,p2,p3,p4,p5⟩ | ⟨j,B2,p1,rfl,p3,p4,p5⟩ | ⟨p1,p2,p3,p4⟩
  ·exact new (50000 + i) (by simp [p5]) (by rw [← p4]; exact h2)
  ·exact new (60000 + j) (by simp [p5]) (by rw [← p4]; exact h2)
  rw [p4] at h2; exact h.mine n b p2 h2
 ·intro n B0 B4 h1 h2
  cases hB : own n with
  | none =>
   exfalso
   rcases kind n ((oC n).1 (by simp [h2])) with ⟨i,B2,p1,p2,p3,p4,p5⟩ | ⟨j,B2,p1,rfl,p3,p4,p5⟩ | ⟨p1,p2,p3,p4⟩
   ·exact ownsome i n p1 hB
   ·rw [hhi (freshN d j) (by unfold freshN; omega)] at h1; cases h1
   exact p2 hB
  | some B =>
   obtain ⟨e1,e2⟩:=h.kept n B0 B h1 hB
   obtain ⟨e3,e4⟩:=live n B B4 hB h2
   exact ⟨e3.trans e1,e2.trans e1 e4⟩
 cases r with
 | u x=>exact hRU hr
 | t l=>obtain ⟨vs,e1,e2⟩:=hr; exact ⟨vs,e1,e2.map_left (U.ren (nameOut ns d)) fun _ _=>hRU⟩
end
end Sx
namespace Sx
open Go
def opNM (S : Pr) (d : Nat) (o : Oper) : Out (C × Blk):=match o.op with
 | .makeMap t none=>match S.tt t,S.T t with
  | some ⟨.map _ _,_,_,_⟩,some (.rows _)=>.ret (.m d t,.map t [])
  | _,_=>.fail
 | _=>.fail
def opM (S : Pr) (env : Env) (own : Own) (o : Oper) : Out Own:=match o.op with
 | .mapUpdate t x k y=>match S.tt t,evC env x,evV env k,evU env y with
  | some ⟨.map kt _,_,_,_⟩,some (.m n _),some (.string s),some (.a cs)=>match own n,S.tt kt,S.T t with
   | some (.map u l),some ⟨.cell .str,_,_,_⟩,some (.rows cts)=>match elemsD S.T cts cs with
    | some ds=>bif t.beq u then .ret (fset own n (.map t (putM s ds l))) else .fail
    | none=>.fail
   | _,_,_=>.fail
  | _,_,_,_=>.fail
 | _=>.fail
section
variable {S : Pr} {E : Ctx} {β : Nat → Option Nat} {env : Env} {own snap : Own} {a : Act} {w : World}
variable (hT : TOk S.P S.tt) (h : Rel E β env own a w) (hET : E.T = S.T)
include h hET in
theorem opNM_sound {o : Oper} {d : Nat} {K : C × Blk → Prop} (hd : own d = none) (hd0 : E.own0 d = none) (hk : (opNM S d o).wp K) : NOk S E env own a w o d K:=by
 unfold opNM at hk
 split at hk
 ·rename_i t ho
  split at hk
  ·rename_i k e cts z by_ rc h0 h1
   obtain ⟨β',e1,e2,hR,_,_⟩:=h.new (n:=d) hd hd0 (o:=.map #[] 0) (B:=.map t []) (fun β' e1 e2 s k=>⟨w.heap.size,#[],0,e2,heap_new w _,rc,by rw [hET]; exact h1,rfl,by simp,by simp,fun i kr hi=>by simp at hi⟩)
   refine ⟨_,_,.map (some w.heap.size),_,β',hk,?_,hR,[],w.heap.size,fset_same _ _ _,e2,rfl⟩
   simp [execOp,ho,Instr.makeMap,newObj,Sem.run]
  exact hk.elim
 exact hk.elim
theorem elemsD_len {T : Tab} : ∀ {cts : List Ct} {l : List C} {ds : List D},elemsD T cts l = some ds → ds.length = cts.length ∧ l.length = cts.length
 | [],[],ds,h=>by simp only [elemsD,Option.some.injEq] at h; subst h; exact ⟨rfl,rfl⟩
 | ct :: cs,c :: l,ds,h=>by
  simp only [elemsD] at h
  split at h
  ·split at h
   ·rename_i r hr
    obtain rfl:=Option.some.inj h
    have:=elemsD_len hr
    simp; omega
   cases h
  cases h
 | [],_ :: _,ds,h=>by simp [elemsD] at h
 | _ :: _,[],ds,h=>by simp [elemsD] at h
theorem elemsD_rd2 {w : World} {β : Nat → Option Nat} {own : Own} {T : Tab} {A : Nat → Prop} : ∀ {cts : List Ct} {l : List C} {ds : List D} {vs : List Value},elemsD T cts l = some ds → All2 (DenC T w β A own) l vs → ∀ (j : Nat) ct v d,cts[j]? = some ct → vs[j]? = some v → ds[j]? = some d → Rd T w A ct v d
 | [],[],ds,vs,h,hv,j,ct,v,d,h1,_,_=>by simp at h1
 | ct :: cs,c :: l,ds,v :: vs,h,hv,j,ct',v',d',h1,h2,h3=>by
  simp only [elemsD] at h
  split at h
  ·rename_i d0 hd0
   split at h
   ·rename_i r hr
    obtain rfl:=Option.some.inj h
    cases j with
    | zero =>
     simp only [List.getElem?_cons_zero,Option.some.injEq] at h1 h2 h3
     subst h1 h2 h3
     exact dOf_rd hd0 hv.1
    | succ j =>
     simp only [List.getElem?_cons_succ] at h1 h2 h3
     exact elemsD_rd2 hr hv.2 j ct' v' d' h1 h2 h3
   cases h
  cases h
 | _ :: _,_ :: _,_,[],_,hv,_,_,_,_,_,_,_=>hv.elim
 | [],_ :: _,ds,_,h,_,_,_,_,_,_,_,_=>by simp [elemsD] at h
 | _ :: _,[],ds,_,h,_,_,_,_,_,_,_,_=>by simp [elemsD] at h
theorem set_fr {w : World} {b : Nat} {o : Obj} : Fr w { w with heap:=w.heap.set! b o } fun x=>x = b:=by
 refine ⟨rfl,rfl,rfl,by simp,fun x hx hn=>?_⟩
 show (w.heap.set! b o)[x]? = _
 simp only [Array.set!_eq_setIfInBounds]
 rw [Array.getElem?_setIfInBounds_ne (Ne.symm hn)]
include hT h hET in
theorem opM_sound {o : Oper} {K : Own → Prop} (hk : (opM S env own o).wp K) : SOk S E β env a w o K:=by
 unfold opM at hk
 split at hk
 ·rename_i t x k y ho
  split at hk
  ·rename_i kt e cts0 z0 by0 n u s cs h0 h1 h2 h3
   obtain ⟨l1,b,q1,q2,q3⟩:=evC_den h h1
   have hkv:=(evV_eq h h2).1
   have hu : S.P.underlying t = some (.map kt e):=(hT.get h0).mapT rfl
   obtain ⟨vs,hy,hvs⟩:=evU_den h h3
   split at hk
   ·rename_i u' l cts1 z1 by1 cts h4 h5 h6
    have hkt : S.P.underlying kt = some .string:=(hT.get h5).strT rfl
    split at hk
    ·rename_i ds hds
     obtain ⟨hb,hk1⟩:=wp_cond_fail hk
     obtain rfl:=Nat.eq_of_beq_eq_true hb
     obtain ⟨b',es,clock,r1,r2,r3⟩:=h.blks.blk n _ h4
     have : b' = b:=by rw [q2] at r1; exact (Option.some.inj r1).symm
     subst this
     obtain ⟨kl,kk⟩:=keys_at r3
     obtain ⟨n1,n2⟩:=elemsD_len hds
     rw [← hET] at hds h6
     have hrd:=elemsD_rd2 hds hvs
     have hlv:=hvs.length
     have go : ∀ {r : Option (Nat × Value)},Instr.findNow .string (.string s) es.toList 0 = some r → (∀ i x,r = some (i,x) → ∃ y c,es[i]? = some ⟨.string s,y,c⟩) → SOk S E β env a w o K:=by
      intro r hf hr
      have run:=put_run (v:=.agg vs.toArray) hu hkt r2 hf hr
      refine ⟨fset own n (.map t (putM s ds l)),_,hk1,(?_ : (execOp a.eval o).run S.P w = Result.ok .skip { w with heap:=w.heap.set! b' (putO es clock s (.agg vs.toArray) r) }),?_⟩
      ·simp [execOp,ho,q3,hkv,hy,Sem.run_bind,run]
      refine h.upd h4 r1 set_fr ⟨_,rfl⟩ fun st kp=>?_
      obtain ⟨es',clock',g1,g2⟩:=map_put (s:=s) (ds:=ds) (vs:=vs) st r3 h6 n1 (by omega) hrd hf
      refine ⟨b',es',clock',r1,?_,g2⟩
      rw [← g1]
      have hlt : b' < w.heap.size:=by
       by_cases c : b' < w.heap.size
       ·exact c
       rw [Array.getElem?_eq_none (by omega)] at r2; cases r2
      show (w.heap.set! b' _)[b']? = _
      simp [hlt]
     rcases findNow_str s l es.toList 0 kl kk with ⟨f1,_,_⟩ | ⟨j,kr,v,bb,f1,f2,f3,f4,_,_⟩
     ·exact go f1 fun i x hh=>by cases hh
     refine go f1 fun i x hh=>?_
     simp only [Option.some.injEq,Prod.mk.injEq] at hh
     obtain ⟨rfl,rfl⟩:=hh
     rw [Nat.zero_add]
     exact ⟨v,bb,by rw [← f4]; simpa using f3⟩
    exact hk.elim
   exact hk.elim
  exact hk.elim
 exact hk.elim
end
end Sx
namespace Sx
open Go
def SoundS (P : Program) (T : Tab) (G : Glob) (f : FuncId) : Spec → Prop
 | .pure g=>SoundP P T G f g
 | .full g=>SoundF P T G f g
def AllSound (S : Pr) (G : Glob) : Prop:=∀ f sp,lookT S.specs f = some sp → Entr S.P f ∧ SoundS S.P S.T G f sp
def calleeF (env : Env) : Callee → Option FuncId
 | .value (.func f)=>some f
 | .value x=>match evV env x with
  | some (.func (.func f) a b)=>bif a.isEmpty && b.isEmpty then some f else none
  | _=>none
 | _=>none
def opKp (g : List U → Out SV) (us : List U) (env : Env) (own : Own) : Out (SV × Env × Own) :=
 bif us.all U.noRef then (g us).bind fun r=>.ret (r,env,own) else .fail
def forceN.{u} {ρ : Type u} : List Nat → (List Nat → ρ) → ρ
 | [],k=>k []
 | a :: l,k=>forceN l fun r=>k (a :: r)
theorem forceN_eq.{u} {ρ : Type u} : ∀ (l : List Nat) (k : List Nat → ρ),forceN l k = k l
 | [],_=>rfl
 | a :: l,k=>by rw [forceN,forceN_eq l]
def opKf (g : List U → List Blk → Out (SV × List (Option Blk) × List Blk)) (d : Nat) (us : List U) (env : Env) (own : Own) (ns : List Nat) : Out (SV × Env × Own) :=
 forceN ns fun ns=>match lentBs own ns with
 | some lent=>bif lentOk own ns us && d.ble 49999 then (g (us.map (U.ren (nameIn ns))) lent).bind fun x=>match x with
   | (sv,outs,news)=>bif freeN own d news.length && outs.length.beq lent.length then .ret (sv.ren (nameOut ns d),envC env (own3 own ns d outs news),ownC (own3 own ns d outs news) (own3 own ns d outs news)) else .fail
  else .fail
 | none=>.fail
def opK (S : Pr) (env : Env) (own : Own) (o : Oper) : Out (SV × Env × Own) :=
 match o.op with
 | .call ⟨cal,args,_⟩=>match calleeF env cal with
  | some f=>match lookT S.specs f,frzArgs args.toList 8 env own with
   | some (.pure g),some (us,env1,own1)=>opKp g us env1 own1
   | some (.full g),some (us,env1,own1)=>opKf g (o.dst.getD 0) us env1 own1 (lentN own1 us)
   | _,_=>.fail
  | none=>.fail
 | _=>.fail
def newO (S : Pr) (o : Oper) (env : Env) (own : Own) : Out (SV × Env × Own) :=
 match o.dst with
 | some d=>bif d.ble 49999 then (match own d with
  | none=>(opN S own env d o).bind fun x=>match x with | (c,b)=>.ret (.u (.c c),env,fset own d b)
  | some _=>.fail) else .fail
 | none=>.fail
def appO (S : Pr) (o : Oper) (env : Env) (own : Own) : Out (SV × Env × Own) :=
 match o.dst with
 | some d=>bif d.ble 49999 then (opA S env own d o).bind (fun x=>match x with | (c,e,o)=>.ret (.u (.c c),e,o)) else .fail
 | none=>.fail
def newM (S : Pr) (o : Oper) (env : Env) (own : Own) : Out (SV × Env × Own) :=
 match o.dst with
 | some d=>bif d.ble 49999 then (match own d with
  | none=>(opNM S d o).bind fun x=>match x with | (c,b)=>.ret (.u (.c c),env,fset own d b)
  | some _=>.fail) else .fail
 | none=>.fail
def isRow (env : Env) (l : List Operand) : Bool:=match l with
 | x :: _=>match evC env x with | some (.r _ _)=>true | _=>false
 | _=>false
def stepO (S : Pr) (o : Oper) (env : Env) (own : Own) : Out (SV × Env × Own) :=
 match o.op with
 | .alloc _=>newO S o env own
 | .box _ _=>newO S o env own
 | .makeSlice _ _ _=>newO S o env own
 | .store _ _ _=>(opS S env own o).bind fun own'=>.ret (.t [],env,own')
 | .call ⟨.builtin .append,args,_⟩=>bif isRow env args.toList then appO S o env own else newO S o env own
 | .call ⟨.value _,_,_⟩=>opK S env own o
 | .makeMap _ _=>newM S o env own
 | .mapUpdate _ _ _ _=>(opM S env own o).bind fun own'=>.ret (.t [],env,own')
 | _=>(opV S own env o).bind fun sv=>.ret (sv,env,own)
section
variable {S : Pr} {E : Ctx} {β : Nat → Option Nat} {env : Env} {own : Own} {a : Act} {w : World}
theorem enter_run {P : Program} {o : Oper} {cal : Callee} {args : Array Operand} {ts : Array TypeId} {f : FuncId} (he : Entr P f) (ho : o.op = .call ⟨cal,args,ts⟩)
  (hc : ∃ x,cal = .value x ∧ a.eval x = .func (.func f) #[] #[]) : (execOp a.eval o).run P w = .ok (.enter f (args.map a.eval)) w:=by
 obtain ⟨fn,h1,h2,h3⟩:=he
 obtain ⟨x,rfl,hx⟩:=hc
 have h4 : ¬ fn.body = none:=by cases hb : fn.body <;> simp_all
 have h5 : ¬ fn.name = "runtime.NumGoroutine" := by simpa using h3
 simp [execOp,ho,resolve,hx,Deferred.ofValue,invoke,callFunc,h1,h5,h4]
theorem callee_eval (h : Rel E β env own a w) {cal : Callee} {f : FuncId} (hc : calleeF env cal = some f) : ∃ x,cal = .value x ∧ a.eval x = .func (.func f) #[] #[]:=by
 unfold calleeF at hc
 split at hc
 ·obtain rfl:=Option.some.inj hc; exact ⟨_,rfl,rfl⟩
 ·rename_i x _
  split at hc
  ·rename_i f' p q h1
   cases hb : (p.isEmpty && q.isEmpty) with
   | false=>rw [hb] at hc; cases hc
   | true =>
    rw [hb] at hc
    simp only [cond_true,Option.some.injEq] at hc
    subst hc
    simp only [Bool.and_eq_true,Array.isEmpty_iff] at hb
    exact ⟨x,rfl,by rw [(evV_eq h h1).1,hb.1,hb.2]⟩
  cases hc
 cases hc
theorem wp_of_value {P : Program} {o : Oper} {v : Value} {w' : World} {next : Act → World → Prop} {Q : Exit → Act → World → Prop} (hr : (execOp a.eval o).run P w = .ok (.value v) w') (h : next (a.put o.dst v) w') : o.wp P a w next Q:=by
 unfold Oper.wp; rw [hr]; exact h
variable {G : Glob} (hT : TOk S.P S.tt) (hS : AllSound S G) (h : Rel E β env own a w) (hET : E.T = S.T) (hEG : E.G = G) (hlow : ∀ n,n < 50000 → E.own0 n = none) (hhi : ∀ n,100000 ≤ n → E.own0 n = none)
include hET hEG hhi in
theorem kf_sound {o : Oper} {f : FuncId} {g : List U → List Blk → Out (SV × List (Option Blk) × List Blk)} {us : List U} {env1 : Env} {own1 : Own} {vals : Array Value} {d : Nat} {ns : List Nat} (hs : SoundF S.P S.T G f g) (hrun : (execOp a.eval o).run S.P w = .ok (.enter f vals) w)
  (hR : Rel E β env1 own1 a w) (hu : All2 (DenU E.T w β (Av E.X β own1) own1) us vals.toList) {K : SV × Env × Own → Prop} (hk : (opKf g d us env1 own1 ns).wp K) {next : Act → World → Prop} {Q : Exit → Act → World → Prop}
  (hn : ∀ sv env' own' β' v w',K (sv,env',own') → Rel E β' env' own' a w' → DenS E.T w' β' (Av E.X β' own') own' sv v → next (a.put o.dst v) w') : o.wp S.P a w next Q:=by
 unfold opKf at hk
 rw [forceN_eq] at hk
 split at hk
 ·rename_i lent hl
  obtain ⟨hb,hk1⟩:=wp_cond_fail hk
  simp only [Bool.and_eq_true] at hb
  obtain ⟨hok,hd⟩:=hb
  have hd:=Nat.le_of_ble_eq_true hd
  rw [Out.wp_bind] at hk1
  obtain ⟨βc,Xc,b1,hA,hX,hO,hU,hM,lat⟩:=lend hR.blks hok hl hu
  have hll : lent.length = ns.length:=mapO_len hl
  have hns : ns.length ≤ 10000:=by
   simp only [lentOk,Bool.and_eq_true] at hok
   exact Nat.le_of_ble_eq_true hok.2
  have hold : ∀ b,Xc b → b < w.heap.size:=by
   intro b hb
   rcases (hX b).1 hb with hx | ⟨n,h3,_,h4⟩
   ·have:=hR.xold b hx; have:=hR.frame.size; omega
   exact (hR.blks.loc n b h3 h4).1
  rw [hET,hEG] at hO
  rw [hET] at hU
  have hc:=hs _ _ lent βc Xc w _ (by omega) hk1 hO (by rw [← hEG]; exact hR.glob) hold hU
  unfold Oper.wp
  rw [hrun,Oper.upon_enter]
  refine hc.mono fun e w' ⟨r,outs,news,β',v,e1,e2,e3,e4,e5,e6,e7,e8⟩=>?_
  subst e1
  obtain ⟨hb2,hk2⟩:=wp_cond_fail e2
  simp only [Bool.and_eq_true] at hb2
  rw [← hET] at e4 e5
  rw [← hEG] at e4
  obtain ⟨β4,hR4,hD4⟩:=receive hR hok hl b1 hA hX hM lat e3 e4 e5 e6 e7 e8 (d:=d) (by omega) hb2.1 hhi
  exact hn _ _ _ β4 v w' hk2 hR4 hD4
 exact hk.elim
include hS h hET hEG hhi in
theorem opK_sound {o : Oper} {K : SV × Env × Own → Prop} (hk : (opK S env own o).wp K) {next : Act → World → Prop} {Q : Exit → Act → World → Prop}
  (hn : ∀ sv env' own' β' v w',K (sv,env',own') → Rel E β' env' own' a w' → DenS E.T w' β' (Av E.X β' own') own' sv v → next (a.put o.dst v) w') : o.wp S.P a w next Q:=by
 unfold opK at hk
 split at hk
 ·rename_i cal args ts ho
  split at hk
  ·rename_i f hf
   split at hk
   ·rename_i g us env1 own1 h1 h2
    obtain ⟨he,hs⟩:=hS f _ h1
    have hrun:=enter_run (w:=w) he ho (callee_eval h hf)
    obtain ⟨hR,hu⟩:=frzArgs_sound h h2
    unfold opKp at hk
    obtain ⟨hno,hk1⟩:=wp_cond_fail hk
    rw [Out.wp_bind] at hk1
    have st : Stay w (Av E.X β own1) w (Av E.X β own1):=⟨Nat.le_refl _,fun _ _ hb=>⟨rfl,hb⟩⟩
    have hu2:=denUs_free (β':=fun _=>none) (own':=fun _=>none) st hno hu
    have hold : ∀ b,Av E.X β own1 b → b < w.heap.size:=by
     rintro b (hx | ⟨n,h3,h4⟩)
     ·have:=hR.xold b hx; have:=hR.frame.size; omega
     exact (hR.blks.loc n b h3 h4).1
    rw [hET] at hu2
    have hc:=hs (fun r=>K (r,env1,own1)) us (Av E.X β own1) w _ hk1 (by rw [← hEG]; exact hR.glob) hold hu2
    have hargs : (args.map a.eval) = (args.toList.map a.eval).toArray:=by apply Array.ext'; simp
    unfold Oper.wp
    rw [hrun,Oper.upon_enter,hargs]
    refine hc.mono fun e w' ⟨r,v,e1,e2,e3,e4⟩=>?_
    subst e1
    have hR2:=hR.idle e4
    refine hn r env1 own1 β v w' e2 hR2 ?_
    rw [← hET] at e3
    exact e3.anywhere ⟨Nat.le_refl _,fun _ _ hb=>⟨rfl,hb⟩⟩
   ·rename_i g us env1 own1 h1 h2
    obtain ⟨he,hs⟩:=hS f _ h1
    have hrun:=enter_run (w:=w) he ho (callee_eval h hf)
    obtain ⟨hR,hu⟩:=frzArgs_sound h h2
    refine kf_sound hET hEG hhi hs hrun hR (by simpa using hu) hk hn
   exact hk.elim
  exact hk.elim
 exact hk.elim
include hT hS h hET hEG hlow hhi in
theorem stepO_sound {o : Oper} {K : SV × Env × Own → Prop} (hk : (stepO S o env own).wp K) {next : Act → World → Prop} {Q : Exit → Act → World → Prop}
  (hn : ∀ sv env' own' β' v w',K (sv,env',own') → Rel E β' env' own' a w' → DenS E.T w' β' (Av E.X β' own') own' sv v → next (a.put o.dst v) w') : o.wp S.P a w next Q:=by
 have hnew : (newO S o env own).wp K → o.wp S.P a w next Q:=by
  intro hk
  unfold newO at hk
  split at hk
  ·rename_i d hd
   obtain ⟨hb,hk1⟩:=wp_cond_fail hk
   have hb:=Nat.le_of_ble_eq_true hb
   split at hk1
   ·rename_i hown
    rw [Out.wp_bind] at hk1
    obtain ⟨c,B,v,w',β',e1,e2,e3,e4⟩:=opN_sound hT h (fun _ _ e=>e) hET hown (hlow d (by omega)) hk1
    exact wp_of_value e2 (hn _ _ _ β' v w' e1 e3 e4)
   exact hk1.elim
  exact hk.elim
 have happ : (appO S o env own).wp K → o.wp S.P a w next Q:=by
  intro hk
  unfold appO at hk
  split at hk
  ·rename_i d hd
   obtain ⟨hb,hk1⟩:=wp_cond_fail hk
   have hb:=Nat.le_of_ble_eq_true hb
   rw [Out.wp_bind] at hk1
   obtain ⟨c,env',own',v,w',β',e1,e2,e3,e4⟩:=opA_sound hT h hET (hlow d (by omega)) hk1
   exact wp_of_value e2 (hn _ _ _ β' v w' e1 e3 e4)
  exact hk.elim
 have hmak : (newM S o env own).wp K → o.wp S.P a w next Q:=by
  intro hk
  unfold newM at hk
  split at hk
  ·rename_i d hd
   obtain ⟨hb,hk1⟩:=wp_cond_fail hk
   have hb:=Nat.le_of_ble_eq_true hb
   split at hk1
   ·rename_i hown
    rw [Out.wp_bind] at hk1
    obtain ⟨c,B,v,w',β',e1,e2,e3,e4⟩:=opNM_sound h hET hown (hlow d (by omega)) hk1
    exact wp_of_value e2 (hn _ _ _ β' v w' e1 e3 e4)
   exact hk1.elim
  exact hk.elim
 have hval : ((opV S own env o).bind fun sv=>.ret (sv,env,own)).wp K → o.wp S.P a w next Q:=by
  intro hk
  rw [Out.wp_bind] at hk
  obtain ⟨sv,v,w',e1,e2,e3,e4⟩:=opV_sound hT h (fun _ _ e=>e) hET hk
  exact wp_of_value e2 (hn _ _ _ β v w' e1 (h.idle e3) e4)
 unfold stepO at hk
 split at hk
 ·exact hnew hk
 ·exact hnew hk
 ·exact hnew hk
 ·rw [Out.wp_bind] at hk
  obtain ⟨own',w',e1,e2,e3⟩:=opS_sound hT h hET hk
  unfold Oper.wp
  rw [e2,Oper.upon_skip]
  exact hn _ _ _ β undef w' e1 e3 ⟨[],rfl,trivial⟩
 ·rcases wp_ite_cond hk with ⟨_,hk⟩ | ⟨_,hk⟩
  ·exact happ hk
  exact hnew hk
 ·exact opK_sound hS h hET hEG hhi hk hn
 ·exact hmak hk
 ·rw [Out.wp_bind] at hk
  obtain ⟨own',w',e1,e2,e3⟩:=opM_sound hT h hET hk
  unfold Oper.wp
  rw [e2,Oper.upon_skip]
  exact hn _ _ _ β undef w' e1 e3 ⟨[],rfl,trivial⟩
 exact hval hk
end
end Sx
namespace Sx
open Go
section
variable {S : Pr} {snap own : Own} {env env' : Env}
theorem evC_congr {x : Operand} (h : ev env x = ev env' x) : evC env x = evC env' x:=by simp only [evC,h]
theorem evU_congr {x : Operand} (h : ev env x = ev env' x) : evU env x = evU env' x:=by simp only [evU,h]
theorem evV_congr {x : Operand} (h : ev env x = ev env' x) : evV env x = evV env' x:=by simp only [evV,h]
theorem mapO_congr {α β : Type} {f g : α → Option β} : ∀ {l : List α},(∀ x ∈ l,f x = g x) → mapO f l = mapO g l
 | [],_=>rfl
 | a :: l,h=>by
  simp only [mapO,h a (List.mem_cons_self ..),mapO_congr fun x hx=>h x (List.mem_cons_of_mem _ hx)]
theorem partsC_congr {ps : List (Nat × Operand)} (h : ∀ p ∈ ps,ev env p.2 = ev env' p.2) : partsC env ps = partsC env' ps :=
 mapO_congr fun p hp=>by simp only [evU_congr (h p hp)]
theorem optI_congr {d : Int} {x : Option Operand} (h : ∀ y,x = some y → ev env y = ev env' y) : optI env d x = optI env' d x:=by
 cases x with
 | none=>rfl
 | some y=>simp only [optI,evV_congr (h y rfl)]
theorem opV_congr (o : Oper) (h : ∀ x ∈ o.op.operands,ev env x = ev env' x) : opV S snap env o = opV S snap env' o:=by
 obtain ⟨dst,op,type,pos,after,guard⟩:=o
 cases op <;> simp only [Op.operands] at h <;> simp only [opV]
 case pick c a b=>simp only [evV_congr (h c (by simp)),h a (by simp),h b (by simp)]
 case build t ps=>rw [partsC_congr fun p hp=>h p.2 (by simp; exact ⟨p.1,by simpa using hp⟩)]
 case buildSlice t n ps=>rw [partsC_congr fun p hp=>h p.2 (by simp; exact ⟨p.1,by simpa using hp⟩)]
 case binOp op t x y u=>simp only [evC_congr (h x (by simp)),evC_congr (h y (by simp))]
 case unOp op t x=>simp only [evV_congr (h x (by simp))]
 case convert s t x=>simp only [evV_congr (h x (by simp))]
 case makeInterface t x=>simp only [evV_congr (h x (by simp))]
 case load t x=>simp only [evC_congr (h x (by simp))]
 case lookup t x k ok=>cases ok <;> simp only [evC_congr (h x (by simp)),evV_congr (h k (by simp))]
 case nilCheck x=>simp only [evC_congr (h x (by simp))]
 case fieldAddr t x f=>simp only [evC_congr (h x (by simp))]
 case field t x f=>simp only [h x (by simp)]
 case extract x i=>simp only [h x (by simp)]
 case move x=>simp only [h x (by simp)]
 case assign x=>simp only [h x (by simp)]
 case indexAddr t x i=>simp only [evC_congr (h x (by simp)),evV_congr (h i (by simp))]
 case slice t x lo hi mx =>
  simp only [evC_congr (h x (by simp))]
  split
  ·rename_i c _ hc
   simp only [sliceS]
   have h1 : ∀ d,optI env d lo = optI env' d lo:=fun d=>optI_congr fun y hy=>h y (by simp [hy])
   have h2 : ∀ d,optI env d hi = optI env' d hi:=fun d=>optI_congr fun y hy=>h y (by simp [hy])
   have h3 : ∀ d m,mx = some m → optI env d (some m) = optI env' d (some m):=fun d m hm=>optI_congr fun y hy=>h y (by obtain rfl:=Option.some.inj hy; simp [hm])
   have h4 : ∀ d m,hi = some m → optI env d (some m) = optI env' d (some m):=fun d m hm=>optI_congr fun y hy=>h y (by obtain rfl:=Option.some.inj hy; simp [hm])
   cases c with
   | d u x =>
    cases mx with
    | none=>simp only [h1,h2]
    | some m =>
     cases hi with
     | none=>rfl
     | some hh=>simp only [h1,h3 _ m rfl,h4 _ hh rfl]
   | _=>rfl
  rfl
 case call c =>
  obtain ⟨cal,args,ts⟩:=c
  simp only [Call.operands] at h
  cases cal with
  | builtin b =>
   have ha : ∀ x ∈ args.toList,ev env x = ev env' x:=fun x hx=>h x (by simpa using hx)
   cases b with
   | len =>
    simp only
    split
    ·rename_i x t hx _; simp only [evC_congr (ha x (by rw [hx]; simp))]
    rfl
   | min =>
    simp only
    split
    ·rename_i x y hx; simp only [evV_congr (ha x (by rw [hx]; simp)),evV_congr (ha y (by rw [hx]; simp))]
    rfl
   | max =>
    simp only
    split
    ·rename_i x y hx; simp only [evV_congr (ha x (by rw [hx]; simp)),evV_congr (ha y (by rw [hx]; simp))]
    rfl
   | _=>rfl
  | _=>rfl
theorem opN_congr {d : Nat} (o : Oper) (h : ∀ x ∈ o.op.operands,ev env x = ev env' x) : opN S snap env d o = opN S snap env' d o:=by
 obtain ⟨dst,op,type,pos,after,guard⟩:=o
 cases op <;> simp only [Op.operands] at h <;> simp only [opN]
 case box t x=>simp only [evU_congr (h x (by simp))]
 case makeSlice t x y=>simp only [evV_congr (h x (by simp)),evV_congr (h y (by simp))]
 case call c =>
  obtain ⟨cal,args,ts⟩:=c
  simp only [Call.operands] at h
  cases cal with
  | builtin b =>
   have ha : ∀ x ∈ args.toList,ev env x = ev env' x:=fun x hx=>h x (by simpa using hx)
   cases b with
   | append =>
    simp only
    split
    ·rename_i x y t t' hx _; simp only [evC_congr (ha x (by rw [hx]; simp)),evC_congr (ha y (by rw [hx]; simp))]
    rfl
   | _=>rfl
  | _=>rfl
theorem opS_congr (o : Oper) (h : ∀ x ∈ o.op.operands,ev env x = ev env' x) : opS S env own o = opS S env' own o:=by
 obtain ⟨dst,op,type,pos,after,guard⟩:=o
 cases op <;> simp only [Op.operands] at h <;> simp only [opS]
 case store t x y=>simp only [evC_congr (h x (by simp)),evU_congr (h y (by simp))]
end
end Sx
namespace Sx
open Go
def onSet (nt : Nat) (env : Env) (dst : Option Tmp) (sv : SV) (K : Env → Prop) : Prop :=
 match dst with
 | none=>K env
 | some d=>match Nat.ble (d + 1) nt with
  | true=>sv.see fun sv=>K (fset env d sv)
  | false=>False
inductive Gd where | run | skip | ask (t : Nat) (b : Bool) (want : Bool) | bad
def guardOf (all : List Oper) (env : Env) (o : Oper) : Gd :=
 match o.guard with
 | none=>.run
 | some (j,want)=>match all[j]? with
  | some oj=>match oj.dst with
   | some t=>match env t with
    | some (.u (.c (.v (.bool b))))=>.ask t b want
    | some (.t [])=>.skip
    | _=>.bad
   | none=>.bad
  | none=>.bad
def Ask (b : Bool) (k : Bool → Prop) : Prop:=@Bool.rec (fun _=>Prop) (k false) (k true) b
theorem Ask.e {b : Bool} {k : Bool → Prop} (h : Ask b k) : k b:=by cases b <;> exact h
theorem Ask.i {b : Bool} {A B : Prop} (h1 : b = true → A) (h0 : b = false → B) : @Bool.rec (fun _=>Prop) B A b:=by cases b; exact h0 rfl; exact h1 rfl
def boolSV (c : Bool) : SV:=.u (.c (.v (.bool c)))
section
variable {S : Pr} {E : Ctx} {β : Nat → Option Nat} {env : Env} {own : Own} {a : Act} {w : World}
theorem Rel.rebind (h : Rel E β env own a w) {t : Nat} {sv : SV} (ht : env t = some sv) : Rel E β (fset env t sv) own a w:=by
 have e : fset env t sv = env:=by
  funext n
  by_cases hn : n = t
  ·subst hn; rw [fset_same,ht]
  rw [fset_ne _ _ hn]
 rw [e]; exact h
theorem den_undef : DenS E.T w β (Av E.X β own) own (.t []) undef:=⟨[],rfl,trivial⟩
theorem onSet_rel (h : Rel E β env own a w) {dst : Option Tmp} {sv : SV} {v : Value} {K : Env → Prop} (hk : onSet E.nt env dst sv K) (hv : DenS E.T w β (Av E.X β own) own sv v) :
  ∃ env',K env' ∧ Rel E β env' own (a.put dst v) w:=by
 unfold onSet at hk
 cases dst with
 | none=>exact ⟨env,hk,h⟩
 | some d =>
  simp only at hk
  split at hk
  ·rename_i hb
   rw [SV.see_eq] at hk
   exact ⟨_,hk,h.put (Nat.le_of_ble_eq_true hb) hv⟩
  exact hk.elim
theorem wanted_run {ops : Array Oper} {o : Oper} (h : guardOf ops.toList env o = .run) : Region.wanted o (yielded ops a.tmps) = true:=by
 unfold guardOf at h
 split at h
 ·rename_i hg; simp [Region.wanted,hg]
 repeat (split at h <;> try cases h)
def boolAt : Option Value → Option Bool | some (.bool b)=>some b | _=>none
theorem getD_opt (x : Array Value) (t : Nat) (u : Value) : x.getD t u = (x[t]?).getD u:=by simp
theorem yield_of (h : Rel E β env own a w) {ops : Array Oper} {j t : Nat} {oj : Oper} (h1 : ops.toList[j]? = some oj) (h2 : oj.dst = some t) (hsz : True) : yielded ops a.tmps j = boolAt a.tmps[t]?:=by
 have : ops[j]? = some oj:=by simpa using h1
 simp only [yielded,this,Option.bind_some,h2]
 cases a.tmps[t]? with
 | none=>rfl
 | some x=>cases x <;> rfl
theorem wanted_ask (h : Rel E β env own a w) {ops : Array Oper} {o : Oper} {t : Nat} {b want : Bool} (hg : guardOf ops.toList env o = .ask t b want) : Region.wanted o (yielded ops a.tmps) = (bif want then b else !b) ∧ env t = some (boolSV b):=by
 unfold guardOf at hg
 split at hg
 ·cases hg
 rename_i j want' hgo
 split at hg
 ·rename_i oj hj
  split at hg
  ·rename_i t' ht
   split at hg
   ·rename_i b' hb
    simp only [Gd.ask.injEq] at hg
    obtain ⟨rfl,rfl,rfl⟩:=hg
    refine ⟨?_,hb⟩
    have hv : a.tmps.getD t' undef = .bool b':=(h.vals t' _ hb).1
    have hv2 : a.tmps[t']? = some (.bool b'):=by
     cases hq : a.tmps[t']? with
     | none=>rw [getD_opt,hq] at hv; cases hv
     | some x=>rw [getD_opt,hq] at hv; simp at hv; rw [hv]
    simp only [Region.wanted,hgo,yield_of h hj ht trivial,hv2]
    cases b' <;> cases want' <;> rfl
   ·cases hg
   cases hg
  cases hg
 cases hg
theorem wanted_skip (h : Rel E β env own a w) {ops : Array Oper} {o : Oper} (hg : guardOf ops.toList env o = .skip) : Region.wanted o (yielded ops a.tmps) = false:=by
 unfold guardOf at hg
 split at hg
 ·cases hg
 rename_i j want' hgo
 split at hg
 ·rename_i oj hj
  split at hg
  ·rename_i t' ht
   split at hg
   ·cases hg
   ·rename_i hb
    obtain ⟨vs,hv,hvs⟩:=h.vals t' _ hb
    have hvs' : vs = []:=by cases vs with | nil=>rfl | cons a b=>exact hvs.elim
    subst hvs'
    have hv2 : boolAt a.tmps[t']? = none:=by
     cases hq : a.tmps[t']? with
     | none=>rfl
     | some x =>
      rw [getD_opt,hq] at hv
      simp at hv
      rw [hv]
      rfl
    simp only [Region.wanted,hgo,yield_of h hj ht trivial,hv2]
    cases want' <;> rfl
   cases hg
  cases hg
 cases hg
end
end Sx
