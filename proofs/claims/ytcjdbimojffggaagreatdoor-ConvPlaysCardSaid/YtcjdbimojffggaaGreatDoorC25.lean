/- Part of the proof: a machine of states for walks, and contracts of functions over it. Conditions: those that each theorem names. -/
import Derived.Test.YtcjdbimojffggaaGreatDoorC24
import Derived.Test.YtcjdbimojffggaaGreatDoorC12
import Derived.ChangeArms
import Derived.DataReads
import Derived.Test.YtcjdbimojffggaaGreatDoorC13
set_option linter.unusedVariables false
set_option linter.unusedSimpArgs false
namespace Sx
open Go Go.Proofs
set_option maxRecDepth 30000
theorem downL_trim {f : Int} {l : List Int} (h1 : -2147483648 ≤ f ∧ f < 2147483648) (h2 : l.length ≤ 3750) (n : Nat) (bad : Bool) : downL (trim f l).1 (trim f l).2 n bad = downL f l n bad:=by
 have ht : trim (trim f l).1 (trim f l).2 = trim f l:=trim_id (trim_tight (by omega) (by omega))
 unfold downL
 rw [ht]
theorem addL_len {f g : Int} {l m : List Int} (h1 : -2147483648 ≤ f ∧ f < 2147483648) (h2 : l.length ≤ 3750) (h3 : -2147483648 ≤ g ∧ g < 2147483648) (h4 : m.length ≤ 3750) (x y : Nat) (bd bd' bad : Bool) :
  (((addL ((downL f l x bd).1,(downL f l x bd).2.1) ((downL g m y bd').1,(downL g m y bd').2.1) bad).2.1.length : Nat) : Int) = wideV (trim f l) (trim g m) x y:=by
 unfold downL wideV
 generalize trim f l = s
 generalize trim g m = t
 obtain ⟨f,l⟩:=s
 obtain ⟨g,m⟩:=t
 have pos : ∀ (f : Int) (a : Int) (r : List Int) (n : Nat),1 ≤ wideS f (a :: r) n:=by
  intro f a r n
  have:=shr_mono (a:=f) (b:=f + (a :: r).length - 1) n (by simp only [List.length_cons]; omega)
  unfold wideS; omega
 have ne : ∀ (f : Int) (a : Int) (r : List Int) (n : Nat) (bd : Bool),∃ c q,(downGo f n 0 (a :: r) (List.replicate (wideS f (a :: r) n).toNat 0) bd).1 = c :: q:=by
  intro f a r n bd
  have hl : (downGo f n 0 (a :: r) (List.replicate (wideS f (a :: r) n).toNat 0) bd).1.length = (wideS f (a :: r) n).toNat:=by rw [downGo_len,List.length_replicate]
  have:=pos f a r n
  match hh : (downGo f n 0 (a :: r) (List.replicate (wideS f (a :: r) n).toNat 0) bd).1,hl with
  | [],hl=>simp at hl; omega
  | c :: q,_=>exact ⟨c,q,rfl⟩
 have ln : ∀ (f : Int) (a : Int) (r : List Int) (n : Nat) (bd : Bool),(((downGo f n 0 (a :: r) (List.replicate (wideS f (a :: r) n).toNat 0) bd).1.length : Nat) : Int) = wideS f (a :: r) n:=by
  intro f a r n bd
  have:=pos f a r n
  rw [downGo_len,List.length_replicate]; omega
 cases l with
 | nil =>
  cases m with
  | nil=>simp [addL]
  | cons b q =>
   simp only [addL,ln]
   rfl
 | cons a r =>
  cases m with
  | nil =>
   obtain ⟨c,q,e⟩:=ne f a r x bd
   have hl:=ln f a r x bd
   rw [e] at hl
   simp only [addL,e]
   exact hl
  | cons b q =>
   obtain ⟨c,p,e⟩:=ne f a r x bd
   obtain ⟨c',p',e'⟩:=ne g b q y bd'
   have hl:=ln f a r x bd
   have hl':=ln g b q y bd'
   have h1:=pos f a r x
   have h2:=pos g b q y
   rw [e] at hl
   rw [e'] at hl'
   simp only [addL,e,e',addGo_len,List.length_replicate,addN]
   rw [hl,hl']
   unfold wideS at *
   unfold hi2 lo2 hiS
   split <;> split <;> split <;> omega
structure SideOk (f : Int) (l : List Int) (g : Int) (m : List Int) (x y : Nat) (bad : Bool) (P : Int × List Int × Bool) : Prop where
 bad : bad = false
 sum : S P.2.1 = S l + S m
 r : R64 P.2.1
 lo : -2147483648 ≤ P.1
 hi : P.1 ≤ 8589938342
 len : (P.2.1.length : Int) = wideV (trim f l) (trim g m) x y
 no : l = [] → m = [] → P.2.1 = []
theorem side_ok {f g : Int} {l m : List Int} (h1 : -2147483648 ≤ f ∧ f < 2147483648) (h2 : l.length ≤ 3750) (h3 : -2147483648 ≤ g ∧ g < 2147483648) (h4 : m.length ≤ 3750) (rl : R64 l) (rm : R64 m) {x y : Nat} {bad : Bool}
  (h : (oneSide (trim f l) (trim g m) x y bad).2.2 = false) : SideOk f l g m x y bad (oneSide (trim f l) (trim g m) x y bad):=by
 unfold oneSide at h ⊢
 rw [downL_trim h1 h2,downL_trim h3 h4] at h ⊢
 have k1:=addL_bad h
 have k2:=downL_bad k1
 have k3:=downL_bad k2
 have s1:=S_downL rl k2
 have s2:=S_downL rm k1
 have r1:=downL_r f l x bad
 have r2:=downL_r g m y (downL f l x bad).2.2
 have o1:=downL_off (n:=x) (bad:=bad) h1 h2
 have o2:=downL_off (n:=y) (bad:=(downL f l x bad).2.2) h3 h4
 refine ⟨k3,?_,addL_r r1 r2,?_,?_,addL_len h1 h2 h3 h4 _ _ _ _ _,?_⟩
 ·rw [S_addL r1 r2 h,s1,s2]
 ·unfold addL lo2
  split
  ·exact o2.1
  ·exact o1.1
  simp only; split <;> omega
 ·unfold addL lo2
  split
  ·simp only; omega
  ·simp only; omega
  simp only; split <;> omega
 intro e1 e2
 subst e1 e2
 rfl
theorem bif_r {h : Bool} {l : List Int} (hl : R64 l) : R64 (bif h then l else []):=by
 cases h
 ·intro x hx; cases hx
 exact hl
theorem lesser_le (a b : Int) : lesser a b ≤ a ∧ lesser a b ≤ b ∧ (lesser a b = a ∨ lesser a b = b):=by unfold lesser; split <;> omega
structure AddOk (a b : ExpD) (most : Int) (u : ExpD) : Prop where
 fit : Fitted u most
 sA : u.scale ≤ a.scale
 sB : u.scale ≤ b.scale
 sumP : S u.cP = S (bif a.hasP then a.cP else []) + S (bif b.hasP then b.cP else [])
 sumN : S u.cN = S (bif a.hasN then a.cN else []) + S (bif b.hasN then b.cN else [])
 cnt : u.count = a.count + b.count
 zer : u.zero = a.zero + b.zero
theorem add_ok' {a b : ExpD} {most z : Int} {r : Int × Int × Int} (hA : Fits a) (hB : Fits b) (ca : 0 ≤ a.count ∧ a.count < 18446744073709551616) (cb : 0 ≤ b.count ∧ b.count < 18446744073709551616) (za : 0 ≤ a.zero ∧ a.zero < 18446744073709551616) (zb : 0 ≤ b.zero ∧ b.zero < 18446744073709551616)
  (ra : R64 a.cP) (ra' : R64 a.cN) (rb : R64 b.cP) (rb' : R64 b.cN)
  (hr : shV a b most = some r) (hb : addBad a b r.1.toNat r.2.1.toNat = false) : AddOk a b most (addE a b r.1.toNat r.2.1.toNat r.2.2 z):=by
 obtain ⟨f1,f2,f3,f4,f5,f6,f7,f8⟩:=hA
 obtain ⟨g1,g2,g3,g4,g5,g6,g7,g8⟩:=hB
 have le:=lesser_le a.scale b.scale
 unfold shV at hr
 obtain ⟨j,b1,rfl,b3,b4,b5,b6,b7,b8,b9,_⟩:=shGo_spec hr
 generalize a.scale - lesser a.scale b.scale + (j : Int) = x at *
 generalize b.scale - lesser a.scale b.scale + (j : Int) = y at *
 simp only at hb ⊢
 unfold addBad at hb
 simp only [Bool.or_eq_false_iff] at hb
 obtain ⟨hN,bP,bN⟩:=hb
 have oPa:=bifoff a.hasP ⟨f3,f4⟩
 have oNa:=bifoff a.hasN ⟨f5,f6⟩
 have lPa:=Nat.le_trans (side_len a.hasP a.cP) f1
 have lNa:=Nat.le_trans (side_len a.hasN a.cN) f2
 have oPb:=bifoff b.hasP ⟨g3,g4⟩
 have oNb:=bifoff b.hasN ⟨g5,g6⟩
 have lPb:=Nat.le_trans (side_len b.hasP b.cP) g1
 have lNb:=Nat.le_trans (side_len b.hasN b.cN) g2
 have kN:=side_ok oNa lNa oNb lNb (bif_r ra') (bif_r rb') hN
 have kP:=side_ok oPa lPa oPb lPb (bif_r ra) (bif_r rb) kN.bad
 have hc:=kP.bad
 unfold cntBad at hc
 simp only [Bool.false_or,Bool.or_eq_false_iff] at hc
 have hs : -2147483648 ≤ lesser a.scale b.scale - (j : Int) ∧ lesser a.scale b.scale - (j : Int) < 2147483648:=by
  by_cases hj : j = 0
  ·subst hj; omega
  have:=b7 (by omega); omega
 have lenP:=kP.len
 have lenN:=kN.len
 have fit:=lay_fitted (e:={ b with start:=a.start,scale:=w32 (lesser a.scale b.scale - (j : Int)),count:=x64 (a.count + b.count),zero:=x64 (a.zero + b.zero),sumH:=a.sumH && b.sumH,sum:=z,minH:=a.minH && b.minH,min:=bif a.minH && b.minH then minV a.min b.min else 0,maxH:=a.maxH && b.maxH,max:=bif a.maxH && b.maxH then maxV a.max b.max else 0,hasP:=a.hasP || b.hasP,hasN:=a.hasN || b.hasN })
  (p:=((addP a b x.toNat y.toNat).1,(addP a b x.toNat y.toNat).2.1)) (n:=((addNn a b x.toNat y.toNat).1,(addNn a b x.toNat y.toNat).2.1)) b3 b4 (Int.le_trans (Int.le_of_eq kP.len) b8) (Int.le_trans (Int.le_of_eq kN.len) b9) kP.r kN.r ⟨kP.lo,kP.hi⟩ ⟨kN.lo,kN.hi⟩ bP bN
  (by simp only; rw [w32_eq hs]; exact hs) (fun h=>by
   simp only [Bool.or_eq_false_iff] at h
   exact kP.no (by rw [h.1]; rfl) (by rw [h.2]; rfl)) (fun h=>by
   simp only [Bool.or_eq_false_iff] at h
   exact kN.no (by rw [h.1]; rfl) (by rw [h.2]; rfl))
 refine ⟨fit,?_,?_,?_,?_,no_wrap ca cb hc.1,no_wrap za zb hc.2⟩
 ·show w32 (lesser a.scale b.scale - (j : Int)) ≤ a.scale; rw [w32_eq hs]; omega
 ·show w32 (lesser a.scale b.scale - (j : Int)) ≤ b.scale; rw [w32_eq hs]; omega
 ·show S (trim _ _).2 = _; rw [S_trim]; exact kP.sum
 show S (trim _ _).2 = _; rw [S_trim]; exact kN.sum
end Sx
namespace Sx
open Go Go.Proofs
def OpC (T : Tab) (w : World) (ct : Ct) (p : Value × D) : Prop:=Rd T w (fun _=>False) ct p.1 p.2 ∧ Typ T ct p.2
def Opened (T : Tab) (w : World) (cts : List Ct) (cs : List Value) : Prop:=∃ l : List (Value × D),cs = l.map (·.1) ∧ All2 (OpC T w) cts l
def ctB : Ct → Ct → Bool
 | .int j,.int k=>decide (j = k)
 | .bool,.bool=>true
 | .str,.str=>true
 | .sl a,.sl b=>a.beq b
 | _,_=>false
theorem ctB_eq {a b : Ct} (h : ctB a b = true) : a = b:=by
 unfold ctB at h
 split at h
 ·rw [of_decide_eq_true h]
 ·rfl
 ·rfl
 ·rw [Nat.eq_of_beq_eq_true h]
 cases h
def preB : List Ct → List Ct → Option (List Ct)
 | [],l=>some l
 | a :: ar,b :: br=>bif ctB a b then preB ar br else none
 | _ :: _,[]=>none
theorem preB_eq : ∀ {a b r : List Ct},preB a b = some r → b = a ++ r
 | [],l,r,h=>by rw [preB] at h; exact Option.some.inj h
 | a :: ar,b :: br,r,h=>by
  rw [preB] at h
  cases hc : ctB a b with
  | false=>rw [hc] at h; cases h
  | true =>
   rw [hc] at h
   rw [ctB_eq hc,preB_eq (show preB ar br = some r from h)]; rfl
 | _ :: _,[],r,h=>by rw [preB] at h; cases h
def fieldsB (tt : TT) (good : TypeId → Bool) : Nat → List (Nat × TypeId) → List Ct → Bool
 | _,[],cts=>cts.isEmpty
 | n,(off,t) :: fs,cts=>off.beq n && (good t && match tt t with
  | some i=>match preB i.cts cts with
   | some r=>fieldsB tt good (n + i.cts.length) fs r
   | none=>false
  | none=>false)
def goodB (tt : TT) (good : TypeId → Bool) (t : TypeId) : Bool:=match tt t with
 | some ⟨.cell c,[ct],_,_⟩=>ctB c ct && !(ctB c .oth)
 | some ⟨.slice e,[ct],_,_⟩=>ctB ct (.sl t) && good e && (match tt e with | some _=>true | none=>false)
 | some ⟨.struct fs,cts,_,_⟩=>fieldsB tt good 0 fs cts
 | _=>false
theorem cell_lt {w : World} {a : Addr} {v : Value} (h : w.cell? a = some v) : a.block < w.heap.size:=by
 unfold World.cell? at h
 split at h
 ·rename_i c t z hb
  exact (Array.getElem?_eq_some_iff.1 hb).1
 cases h
theorem At.of {w : World} {a : Addr} {v : Value} (h : w.cell? a = some v) : At w (fun _=>False) a v:=⟨fun h=>h,cell_lt h,h⟩
theorem wf_in {k : IntKind} {n : Int} (h : (Lit.int k n).wf = true) : k.min ≤ n ∧ n ≤ k.max:=by
 simp only [Lit.wf,Bool.and_eq_true,decide_eq_true_eq] at h
 exact h
theorem Opened.append {T : Tab} {w : World} {a b : List Ct} {x y : List Value} (h : Opened T w a x) (k : Opened T w b y) : Opened T w (a ++ b) (x ++ y):=by
 obtain ⟨l,rfl,hl⟩:=h
 obtain ⟨m,rfl,hm⟩:=k
 exact ⟨l ++ m,by simp,hl.append hm⟩
section
variable {H : Type} {enc : TypeId × Value → H} {S : Pr} {w : World} {base : Nat} {spare : Nat → Bool} {held : Bool}
theorem cellsOf_eq (hT : TOk S.P S.tt) {t : TypeId} {i : TI} (h : S.tt t = some i) : S.P.cellsOf t = i.cts.length:=by
 obtain ⟨d,inf,z,_,_,h3,h4,_⟩:=(hT.get h).ok
 unfold Program.cellsOf
 rw [h3]
 exact h4
theorem fields_open (hT : TOk S.P S.tt) {good : TypeId → Bool} {n : Nat} (ih : ∀ t i cs x,good t = true → S.tt t = some i → DataW.trod enc S.P w base spare held n t cs = some x → Opened S.T w i.cts cs) :
  ∀ (fs : List (Nat × TypeId)) (cts : List Ct) (off : Nat) (cs : List Value),fieldsB S.tt good off fs cts = true → cs.length = off + cts.length →
   (∀ o t,(o,t) ∈ fs → ∃ x,DataW.trod enc S.P w base spare held n t ((cs.drop o).take (S.P.cellsOf t)) = some x) → Opened S.T w cts (cs.drop off)
 | [],cts,off,cs,hb,hl,_=>by
  rw [fieldsB,List.isEmpty_iff] at hb
  subst hb
  rw [List.drop_eq_nil_of_le (by simp at hl; omega)]
  exact ⟨[],rfl,trivial⟩
 | (o,t) :: fs,cts,off,cs,hb,hl,hx=>by
  rw [fieldsB,Bool.and_eq_true,Bool.and_eq_true] at hb
  obtain ⟨h1,h2,h3⟩:=hb
  obtain rfl:=Nat.eq_of_beq_eq_true h1
  cases ht : S.tt t with
  | none=>rw [ht] at h3; cases h3
  | some i =>
   rw [ht] at h3
   simp only at h3
   cases hp : preB i.cts cts with
   | none=>rw [hp] at h3; cases h3
   | some r =>
    rw [hp] at h3
    simp only at h3
    obtain rfl:=preB_eq hp
    obtain ⟨x,hx0⟩:=hx o t List.mem_cons_self
    rw [cellsOf_eq hT ht] at hx0
    have h0:=ih t i _ x h2 ht hx0
    have hr:=fields_open hT ih fs r (o + i.cts.length) cs h3 (by rw [hl]; simp; omega) fun o' t' hm=>hx o' t' (List.mem_cons_of_mem _ hm)
    have e : cs.drop o = (cs.drop o).take i.cts.length ++ cs.drop (o + i.cts.length):=by
     rw [← List.drop_drop,List.take_append_drop]
    rw [e]
    exact h0.append hr
theorem opened (hT : TOk S.P S.tt) {good : TypeId → Bool} (hg : ∀ t,good t = true → goodB S.tt good t = true) :
  ∀ (fuel : Nat) t i cs x,good t = true → S.tt t = some i → DataW.trod enc S.P w base spare held fuel t cs = some x → Opened S.T w i.cts cs:=by
 intro fuel
 induction fuel using Nat.strongRecOn with
 | ind fuel ih =>
  intro t i cs x ht hi hx
  have hb:=hg t ht
  unfold goodB at hb
  obtain ⟨d,inf,z,hu,hty,h3,h4,_⟩:=(hT.get hi).ok
  rw [hi] at hb
  obtain ⟨ty,cts,zr,by_⟩:=i
  simp only at hty h4 hb ⊢
  split at hb
  ·rename_i c ct zr' by' he
   simp only [Option.some.injEq,TI.mk.injEq] at he
   obtain ⟨rfl,rfl,_,_⟩:=he
   simp only [Bool.and_eq_true] at hb
   obtain ⟨hb1,hb2⟩:=hb
   obtain rfl:=ctB_eq hb1
   cases d <;> simp only [tyOf,Ty.cell.injEq,reduceCtorEq] at hty
   ·subst hty
    obtain ⟨b,rfl,_⟩:=DataW.trod_bool hu hx
    exact ⟨[(.bool b,.bool b)],rfl,⟨.bool,.bool⟩,trivial⟩
   ·subst hty
    obtain ⟨n,rfl,_,hw⟩:=DataW.trod_int hu hx
    exact ⟨[(.int _ n,.int n)],rfl,⟨.int,.int (wf_in hw)⟩,trivial⟩
   subst hty
   obtain ⟨s,rfl,_⟩:=DataW.trod_string hu hx
   exact ⟨[(.string s,.str s)],rfl,⟨.str,.str⟩,trivial⟩
  ·rename_i e ct zr' by' he
   simp only [Option.some.injEq,TI.mk.injEq] at he
   obtain ⟨rfl,rfl,_,_⟩:=he
   simp only [Bool.and_eq_true] at hb
   obtain ⟨⟨hb1,hb2⟩,hb3⟩:=hb
   obtain rfl:=ctB_eq hb1
   have hus : S.P.underlying t = some (.slice e):=(hT.get hi).slice rfl
   cases hie : S.tt e with
   | none=>rw [hie] at hb3; cases hb3
   | some ie =>
    have hTe : S.T t = some (match ie.ty with | .cell (.int k)=>.ints k | _=>.rows ie.cts):=by
     unfold Pr.T elOf
     rw [hi]
     simp only
     rw [hie]
     obtain ⟨ety,ects,_,_⟩:=ie
     cases ety <;> first | rfl | (rename_i c; cases c <;> rfl)
    have hsz:=cellsOf_eq hT hie
    rcases DataW.trod_slice hus hx with ⟨rfl,_⟩ | ⟨a,len,cap,elems,rest,n,rfl,rfl,_,_,hlc,hcm,hlen,hel,_⟩
    ·cases hty : ie.ty with
     | cell c =>
      cases c with
      | int k=>rw [hty] at hTe; exact ⟨[(.slice none 0 0,.ints [])],rfl,⟨.nilI hTe,.ints hTe (by simp) (by simp)⟩,trivial⟩
      | _=>rw [hty] at hTe; exact ⟨[(.slice none 0 0,.rows [])],rfl,⟨.nilR hTe,.rows hTe (by simp) (by simp) (by simp)⟩,trivial⟩
     | _=>rw [hty] at hTe; exact ⟨[(.slice none 0 0,.rows [])],rfl,⟨.nilR hTe,.rows hTe (by simp) (by simp) (by simp)⟩,trivial⟩
    have hmax : len ≤ 9223372036854775807:=by unfold maxLen at hcm; omega
    have each : ∀ i,i < len → ∃ l : List (Value × D),w.cells? base (a.add (i * ie.cts.length)) ie.cts.length = some (l.map (·.1)) ∧ All2 (OpC S.T w) ie.cts l:=by
     intro i hil
     have h1:=hel i hil
     rw [hsz,List.getElem?_eq_getElem (by omega),Option.bind_eq_some_iff] at h1
     obtain ⟨cs',h2,h3⟩:=h1
     obtain ⟨l,rfl,hl⟩:=ih n (by omega) e ie cs' _ hb2 hie h3
     exact ⟨l,h2,hl⟩
    have ech : ∀ i,∃ l : List (Value × D),i < len → w.cells? base (a.add (i * ie.cts.length)) ie.cts.length = some (l.map (·.1)) ∧ All2 (OpC S.T w) ie.cts l:=by
     intro i
     by_cases hil : i < len
     ·obtain ⟨l,h⟩:=each i hil; exact ⟨l,fun _=>h⟩
     exact ⟨[],fun h=>absurd h hil⟩
    obtain ⟨f,hf⟩:=Classical.axiomOfChoice ech
    have rows : S.T t = some (.rows ie.cts) → Opened S.T w [.sl t] [.slice (some a) len cap]:=by
     intro hTr
     have hL : ((List.range len).map fun i=>(f i).map (·.2)).length = len:=by simp
     have get : ∀ (i : Nat) r,((List.range len).map fun i=>(f i).map (·.2))[i]? = some r → i < len ∧ r = (f i).map (·.2):=by
      intro i r hr
      have hil : i < len:=by have:=(List.getElem?_eq_some_iff.1 hr).1; simpa using this
      rw [List.getElem?_map,List.getElem?_range hil] at hr
      exact ⟨hil,(Option.some.inj hr).symm⟩
     have rl : ∀ (i : Nat),i < len → (f i).length = ie.cts.length:=fun i hil=>(hf i hil).2.length.symm
     have r1 : Rd S.T w (fun _=>False) (.sl t) (.slice (some a) ((List.range len).map fun i=>(f i).map (·.2)).length cap) (.rows ((List.range len).map fun i=>(f i).map (·.2))):=by
      refine .rows (fun i j=>((f i).getD j (.nilIface,.int 0)).1) hTr (by rw [hL]; exact hlc) ?_ ?_ ?_
      ·intro i r hr
       obtain ⟨hil,rfl⟩:=get i r hr
       simp [rl i hil]
      ·intro i r j d hr hd
       obtain ⟨hil,rfl⟩:=get i r hr
       have hj : j < (f i).length:=by have:=(List.getElem?_eq_some_iff.1 hd).1; simpa using this
       obtain ⟨_,_,hc⟩:=World.cells?_some (hf i hil).1
       have h1:=hc j (by rw [← rl i hil]; exact hj)
       rw [add_add,List.getElem?_map,List.getElem?_eq_getElem hj] at h1
       refine At.of ?_
       rw [h1,List.getD_eq_getElem?_getD,List.getElem?_eq_getElem hj]; rfl
      intro i r j ct d hr hct hd
      obtain ⟨hil,rfl⟩:=get i r hr
      obtain ⟨p,hp,hR⟩:=(hf i hil).2.get hct
      rw [List.getElem?_map,hp] at hd
      obtain rfl:=Option.some.inj hd
      have e : ((f i).getD j (.nilIface,.int 0)) = p:=by rw [List.getD_eq_getElem?_getD,hp]; rfl
      simp only [e]
      exact hR.1
     rw [hL] at r1
     refine ⟨[(.slice (some a) len cap,.rows ((List.range len).map fun i=>(f i).map (·.2)))],rfl,⟨r1,.rows hTr (by rw [hL]; exact hmax) ?_ ?_⟩,trivial⟩
     ·intro r hr
      obtain ⟨i,hil,rfl⟩:=List.mem_map.1 hr
      simp [rl i (List.mem_range.1 hil)]
     intro r hr j ct d hct hd
     obtain ⟨i,hil,rfl⟩:=List.mem_map.1 hr
     obtain ⟨p,hp,hR⟩:=(hf i (List.mem_range.1 hil)).2.get hct
     rw [List.getElem?_map,hp] at hd
     obtain rfl:=Option.some.inj hd
     exact hR.2
    cases hty : ie.ty with
    | cell c =>
     cases c with
     | int k =>
      rw [hty] at hTe
      simp only at hTe
      have hcts : ie.cts = [.int k]:=by
       have hbe:=hg e hb2
       unfold goodB at hbe
       rw [hie] at hbe
       obtain ⟨ety,ects,ez,eb⟩:=ie
       simp only at hty
       subst hty
       split at hbe
       ·rename_i c' ct' _ _ he'
        simp only [Option.some.injEq,TI.mk.injEq,Ty.cell.injEq] at he'
        obtain ⟨rfl,rfl,_,_⟩:=he'
        simp only [Bool.and_eq_true] at hbe
        rw [ctB_eq hbe.1]
       ·rename_i he'; simp at he'
       ·rename_i he'; simp at he'
       cases hbe
      have one : ∀ i,i < len → ∃ n,w.cell? (a.add i) = some (.int k n) ∧ k.min ≤ n ∧ n ≤ k.max ∧ f i = [(.int k n,.int n)]:=by
       intro i hil
       obtain ⟨h1,h2⟩:=hf i hil
       rw [hcts] at h1 h2
       obtain ⟨_,_,hc⟩:=World.cells?_some h1
       match hfi : f i,h2 with
       | [(v,d)],⟨⟨hr,hty⟩,_⟩ =>
        cases hr with
        | int =>
         cases hty with
         | int hin =>
          rename_i n
          have:=hc 0 (by simp)
          rw [hfi] at this
          simp only [List.length_cons,List.length_nil,Nat.zero_add,Nat.mul_one,List.map_cons,List.map_nil,List.getElem?_cons_zero,add_zero] at this
          exact ⟨n,this,hin.1,hin.2,rfl⟩
      have hL : ((List.range len).map fun i=>((f i).map fun p=>p.2.toInt).getD 0 0).length = len:=by simp
      have get : ∀ (i : Nat) m,((List.range len).map fun i=>((f i).map fun p=>p.2.toInt).getD 0 0)[i]? = some m → i < len ∧ m = ((f i).map fun p=>p.2.toInt).getD 0 0:=by
       intro i r hr
       have hil : i < len:=by have:=(List.getElem?_eq_some_iff.1 hr).1; simpa using this
       rw [List.getElem?_map,List.getElem?_range hil] at hr
       exact ⟨hil,(Option.some.inj hr).symm⟩
      have r1 : Rd S.T w (fun _=>False) (.sl t) (.slice (some a) ((List.range len).map fun i=>((f i).map fun p=>p.2.toInt).getD 0 0).length cap) (.ints ((List.range len).map fun i=>((f i).map fun p=>p.2.toInt).getD 0 0)):=by
       refine .ints hTe (by rw [hL]; exact hlc) fun i m hm=>?_
       obtain ⟨hil,rfl⟩:=get i m hm
       obtain ⟨n,h1,_,_,h4⟩:=one i hil
       rw [h4]
       exact At.of h1
      rw [hL] at r1
      refine ⟨[(.slice (some a) len cap,.ints ((List.range len).map fun i=>((f i).map fun p=>p.2.toInt).getD 0 0))],rfl,⟨r1,.ints hTe (by rw [hL]; exact hmax) ?_⟩,trivial⟩
      intro m hm
      obtain ⟨i,hil,rfl⟩:=List.mem_map.1 hm
      obtain ⟨n,_,h2,h3,h4⟩:=one i (List.mem_range.1 hil)
      rw [h4]
      exact ⟨h2,h3⟩
     | _=>rw [hty] at hTe; exact rows hTe
    | _=>rw [hty] at hTe; exact rows hTe
  ·rename_i fs cts' zr' by' he
   simp only [Option.some.injEq,TI.mk.injEq] at he
   obtain ⟨rfl,rfl,_,_⟩:=he
   cases d <;> simp only [tyOf,Ty.struct.injEq,reduceCtorEq] at hty
   rename_i fs0
   obtain ⟨xs,n,rfl,_,hl,hxs,hf⟩:=DataW.trod_struct hu hx
   have hl' : cs.length = 0 + cts.length:=by rw [hl,cellsOf_eq hT hi]; simp
   have:=fields_open hT (fun t i cs x h1 h2 h3=>ih n (by omega) t i cs x h1 h2 h3) fs cts 0 cs hb hl' ?_
   ·simpa using this
   intro o t' hm
   rw [← hty] at hm
   obtain ⟨f,hf1,hf2⟩:=List.mem_map.1 hm
   obtain ⟨j,hj,hj2⟩:=List.getElem_of_mem hf1
   have hj' : j < fs0.size:=by simpa using hj
   have hfj : fs0[j]? = some f:=by rw [Array.getElem?_eq_getElem hj',← hj2]; simp
   have:=hf j f hfj
   cases hf2
   have hlt : j < xs.length:=by omega
   exact ⟨xs[j],by rw [this,List.getElem?_eq_getElem hlt]⟩
  cases hb
end
end Sx
namespace Sx
open Go Go.Proofs Go.RowKit
set_option maxRecDepth 30000
theorem GOk1 {W : World} (h : YtcjdbimojffggaaGreatDoor.Cd.Lays W) : GOk G1 W:=by
 have hc : W.cell? ⟨0,0,none⟩ = some (.iface 201 (.agg #[.pointer (some ⟨1,26,none⟩)])):=h
 have:=cell_lt hc
 exact ⟨this,fun gv hg=>by
  rcases List.mem_cons.1 hg with rfl | hg
  ·exact ⟨by decide,hc⟩
  cases hg⟩
theorem Fr.below {w w' : World} (h : Fr w w' fun _=>False) : Below w.heap.size w w' :=
 ⟨h.os,h.tape,h.output,h.size,fun b hb=>h.heap b hb fun h=>h⟩
end Sx
namespace Sx
open Go Go.Proofs Go.RowKit
set_option maxRecDepth 30000
variable {G : Glob}
structure HistD where
 attrs : D
 start : Int
 time : Int
 count : Int
 sumH : Bool
 sum : Int
 minH : Bool
 min : Int
 maxH : Bool
 max : Int
 cs : List Int
 bs : List Int
 ex : D
 flags : Int
 unk : ByteArray
def HistD.cells (e : HistD) : List C:=[.d 30 e.attrs,U64 e.start,U64 e.time,U64 e.count,Bo e.sumH,U64 e.sum,Bo e.minH,U64 e.min,Bo e.maxH,U64 e.max,.d 38 (.ints e.cs),.d 38 (.ints e.bs),.d 32 e.ex,U32 e.flags,St e.unk]
def HistD.row (e : HistD) : List D:=[e.attrs,.int e.start,.int e.time,.int e.count,.bool e.sumH,.int e.sum,.bool e.minH,.int e.min,.bool e.maxH,.int e.max,.ints e.cs,.ints e.bs,e.ex,.int e.flags,.str e.unk]
def asHist : List C → Option HistD
 | .d 30 attrs :: .v (.int .u64 start) :: .v (.int .u64 time) :: .v (.int .u64 count) :: .v (.bool sumH) :: .v (.int .u64 sum) :: .v (.bool minH) :: .v (.int .u64 min) :: r1=>match r1 with
  | [.v (.bool maxH),.v (.int .u64 max),.d 38 (.ints cs),.d 38 (.ints bs),.d 32 ex,.v (.int .u32 flags),.v (.string unk)]=>some ⟨attrs,start,time,count,sumH,sum,minH,min,maxH,max,cs,bs,ex,flags,unk⟩
  | _=>none
 | _=>none
theorem asHist_eq {l : List C} {e : HistD} (h : asHist l = some e) : l = e.cells:=by
 unfold asHist at h
 split at h
 ·split at h
  ·obtain rfl:=Option.some.inj h; rfl
  cases h
 cases h
structure HistD.Typ (e : HistD) : Prop where
 attrs : Sx.Typ TB (.sl 30) e.attrs
 ex : Sx.Typ TB (.sl 32) e.ex
 lC : e.cs.length ≤ 9223372036854775807
 lB : e.bs.length ≤ 9223372036854775807
 rC : R64 e.cs
 ct : 0 ≤ e.count ∧ e.count < 18446744073709551616
 sm : 0 ≤ e.sum ∧ e.sum < 18446744073709551616
 mn : 0 ≤ e.min ∧ e.min < 18446744073709551616
 mx : 0 ≤ e.max ∧ e.max < 18446744073709551616
structure HistD.Small (e : HistD) : Prop where
 attrs : Sx.Small e.attrs
 ex : Sx.Small e.ex
 lC : e.cs.length ≤ 3750
 lB : e.bs.length ≤ 3750
def roomN (l : Nat) : Int:=if (100000 : Int) < (l : Nat) then 100000 else ((l : Nat) : Int)
theorem roomN_spec (l : Nat) : 0 ≤ roomN l ∧ roomN l ≤ 100000 ∧ (roomN l ≤ 3750 → l ≤ 3750) ∧ w64 (8 * roomN l) = 8 * roomN l:=by
 have h : 0 ≤ roomN l ∧ roomN l ≤ 100000 ∧ (roomN l ≤ 3750 → l ≤ 3750):=by unfold roomN; split <;> omega
 exact ⟨h.1,h.2.1,h.2.2,w64_eq (by omega)⟩
def rhS : List U → Out SV
 | [.a l,.c (.v (.int .i64 r))]=>match asHist l with
  | some e=>.need (e.Typ ∧ -1 ≤ r ∧ r ≤ 30000) (left (r - 20) e.Small)
  | none=>.fail
 | _=>.fail
theorem roomHist_ok : Ok G 35 rhS:=by
 have hS : AllSound (B [(58,.pure (normG (B []) [3,3] takeS)),(57,.pure (normG (B []) [30,3,3] (rkS 100))),(56,.pure (normG (B []) [32,3] reS))]) G:=.cons _ take_ok (.cons _ roomKeys_ok' (.cons _ roomExemplars_ok noneS))
 refine okP hS Tryz.func35 rfl (by decide) fun K us hk=>?_
 unfold rhS at hk
 split at hk
 ·rename_i l r
  split at hk
  ·rename_i e he
   rw [asHist_eq he]
   refine ⟨by show 2 ≤ _; decide,?_⟩
   obtain ⟨⟨hT,hr1,hr2⟩,hk⟩:=hk
   have hk : ∀ z : Int,(-1 ≤ z ∧ (0 ≤ z → z ≤ r - 20 ∧ e.Small)) → K (.u (.c (I64 z))):=hk
   have mC:=roomN_spec e.cs.length
   have mB:=roomN_spec e.bs.length
   have t1:=tk_spec (r:=r) (n:=(e.unk.size : Nat)) hr1 (Int.natCast_nonneg _)
   have t2:=tk_spec (r:=tk r (e.unk.size : Nat)) (n:=w64 (8 * roomN e.cs.length)) t1.1 (by omega)
   have t3:=tk_spec (r:=tk (tk r (e.unk.size : Nat)) (w64 (8 * roomN e.cs.length))) (n:=w64 (8 * roomN e.bs.length)) t2.1 (by omega)
   conv=>whnf
   refine ⟨mixed,[],[],[],by kernel_rfl,?_⟩;conv=>whnf
   refine ⟨⟨hr1,by omega,Int.natCast_nonneg _⟩,?_⟩;conv=>whnf
   refine ⟨⟨t1.1,by show tk r (e.unk.size : Nat) ≤ _; omega,by show 0 ≤ w64 (8 * roomN e.cs.length); omega⟩,?_⟩;conv=>whnf
   refine ⟨⟨t2.1,by show tk (tk r (e.unk.size : Nat)) (w64 (8 * roomN e.cs.length)) ≤ 1000000; omega,by show 0 ≤ w64 (8 * roomN e.bs.length); omega⟩,?_⟩
   generalize hx : tk (tk (tk r (e.unk.size : Nat)) (w64 (8 * roomN e.cs.length))) (w64 (8 * roomN e.bs.length)) = x at *
   conv=>whnf
   refine ⟨mixed,[],[],[],by kernel_rfl,?_⟩;conv=>whnf
   have x1 : -1 ≤ x ∧ x ≤ 30000:=by omega
   refine ⟨⟨hT.attrs,by decide,by decide,by decide,?_,?_⟩,?_⟩
   ·rw [← hx] at x1; exact x1.1
   ·rw [← hx] at x1; exact x1.2
   conv=>whnf
   rintro z ⟨z1,z2⟩
   have z2 : 0 ≤ z → z ≤ tk (tk (tk r (e.unk.size : Nat)) (w64 (8 * roomN e.cs.length))) (w64 (8 * roomN e.bs.length)) ∧ Small e.attrs:=z2
   rw [hx] at z2
   conv=>whnf
   refine ⟨⟨hT.ex,z1,?_⟩,?_⟩
   ·by_cases h0 : 0 ≤ z
    ·have:=z2 h0; omega
    omega
   conv=>whnf
   rintro v ⟨v1,v2⟩
   have v2 : 0 ≤ v → v ≤ z ∧ Small e.ex:=v2;conv=>whnf
   refine hk v ⟨v1,fun h0=>?_⟩
   obtain ⟨a1,a2⟩:=v2 h0
   obtain ⟨b1,b2⟩:=z2 (by omega)
   have q3:=t3.2.2 (by omega)
   have q2:=t2.2.2 (by omega)
   have q1:=t1.2.2 (by omega)
   exact ⟨by omega,b2,a2,mC.2.2.1 (by omega),mB.2.2.1 (by omega)⟩
  exact hk.elim
 exact hk.elim
end Sx
namespace Sx
open Go Go.Proofs
set_option maxRecDepth 30000
variable {G : Glob}
theorem equal_ok : Ok G 146 numsS:=by
 refine okP noneS Tryz.func146 rfl (by decide) fun K us hk=>?_
 unfold numsS at hk
 split at hk
 ·rename_i a b
  refine ⟨by show 2 ≤ _; decide,?_⟩
  obtain ⟨⟨ha,hb⟩,hk⟩:=hk
  conv=>whnf
  refine Ask.i (fun c1=>?_) (fun c1=>?_)
  ·have c1 : ((a.length : Int) != (b.length : Int)) = true:=c1
   conv=>whnf
   refine fin hk ?_
   have : decide (a = b) = false:=by
    refine decide_eq_false fun e=>?_
    subst e
    simp at c1
   rw [this]
   try rfl
  have c1 : ((a.length : Int) != (b.length : Int)) = false:=c1
  have hab : a.length = b.length:=by simp at c1; omega
  conv=>whnf
  refine ⟨[],_,_,rfl,Nat,(fun i=>([(0,.u (.c (.d 38 (.ints a)))),(1,.u (.c (.d 38 (.ints b)))),(12,.u (.c (I64 (a.length : Nat)))),(13,.u (.c (I64 (i : Nat))))],[])),
   (fun i=>i ≤ a.length ∧ a.take i = b.take i),(fun i=>a.length - i),fun x _=>rfl,⟨0,⟨Nat.zero_le _,rfl⟩,⟨rfl,rfl,rfl,rfl,trivial⟩,trivial⟩,?_⟩
  rintro i ⟨p1,p2⟩;conv=>whnf
  refine Ask.i (fun c2=>?_) (fun c2=>?_)
  ·have c2 : (i : Int) < (a.length : Int):=of_decide_eq_true c2
   have hi : i < a.length:=by omega
   have hj : i < b.length:=by omega
   conv=>whnf
   refine ⟨mixed,[],[],[],by kernel_rfl,?_⟩;conv=>whnf
   refine ⟨⟨by omega,c2⟩,?_⟩;conv=>whnf
   refine ⟨⟨by omega,by show (i : Int) < (b.length : Int); omega⟩,?_⟩;conv=>whnf
   have e1 : a.getD i 0 = a[i]:=by rw [List.getD_eq_getElem?_getD,List.getElem?_eq_getElem hi]; rfl
   have e2 : b.getD i 0 = b[i]:=by rw [List.getD_eq_getElem?_getD,List.getElem?_eq_getElem hj]; rfl
   refine Ask.i (fun c3=>?_) (fun c3=>?_)
   ·have c3 : (a.getD i 0 != b.getD i 0) = true:=c3
    conv=>whnf
    refine fin hk ?_
    have : decide (a = b) = false:=by
     refine decide_eq_false fun e=>?_
     subst e
     simp at c3
    rw [this]
    try rfl
   have c3 : (a.getD i 0 != b.getD i 0) = false:=c3;conv=>whnf
   refine ⟨i + 1,⟨hi,?_⟩,?_,⟨rfl,rfl,rfl,?_,trivial⟩,trivial⟩
   ·rw [e1,e2] at c3
    simp only [bne_eq_false_iff_eq] at c3
    rw [List.take_succ_eq_append_getElem hi,List.take_succ_eq_append_getElem hj,p2,c3]
   ·show a.length - (i + 1) < a.length - i; omega
   exact congrArg (fun z : Int=>some (SV.u (.c (I64 z)))) (w64_eq (n:=(i : Int) + 1) (by omega))
  have c2 : ¬ (i : Int) < (a.length : Int):=of_decide_eq_false c2
  have hi : i = a.length:=by omega
  have : a = b:=by
   subst hi
   rw [List.take_length,hab,List.take_length] at p2
   exact p2
  subst this
  simp only [decide_true] at hk
  conv=>whnf
  exact hk
 exact hk.elim
def unlikeB (a b : HistD) : Bool:=((a.cs.length : Nat) : Int) != ((b.cs.length : Nat) : Int) || !(decide (a.bs = b.bs))
def unlikeS : List U → Out SV
 | [.a la,.a lb]=>match asHist la,asHist lb with
  | some a,some b=>.need (a.bs.length ≤ 68719476736 ∧ b.bs.length ≤ 68719476736) (one (Bo (unlikeB a b)))
  | _,_=>.fail
 | _=>.fail
theorem unlike_ok : Ok G 107 unlikeS:=by
 have hS : AllSound (B [(146,.pure (normG (B []) [38,38] numsS))]) G:=.cons _ equal_ok noneS
 refine okP hS Tryz.func107 rfl (by decide) fun K us hk=>?_
 unfold unlikeS at hk
 split at hk
 ·split at hk
  ·rename_i la lb _ _ a b ha hb
   rw [asHist_eq ha,asHist_eq hb]
   refine ⟨by show 2 ≤ _; decide,?_⟩
   obtain ⟨⟨h1,h2⟩,hk⟩:=hk
   conv=>whnf
   refine Ask.i (fun c1=>?_) (fun c1=>?_)
   ·have c1 : (((a.cs.length : Nat) : Int) != ((b.cs.length : Nat) : Int)) = true:=c1
    conv=>whnf
    exact fin hk (congrArg (fun z : Bool=>SV.u (.c (Bo z))) (by unfold unlikeB; rw [c1]; rfl))
   have c1 : (((a.cs.length : Nat) : Int) != ((b.cs.length : Nat) : Int)) = false:=c1;conv=>whnf
   refine ⟨⟨h1,h2⟩,?_⟩;conv=>whnf
   exact fin hk (congrArg (fun z : Bool=>SV.u (.c (Bo z))) (by unfold unlikeB; rw [c1]; rfl))
  exact hk.elim
 exact hk.elim
def HGood (k : Nat) (e : HistD) : Prop:=Typ TB (.sl 30) e.attrs ∧ Dp k e.attrs ∧ Typ TB (.sl 32) e.ex ∧ Dp k e.ex ∧ e.cs.length ≤ 3750 ∧ e.bs.length ≤ 3750
def twHS (k : Nat) : List U → Out SV
 | [.a l]=>match asHist l with
  | some e=>.need (HGood k e) (agg e.cells)
  | none=>.fail
 | _=>.fail
theorem twHist_ok {k : Nat} : Ok G 63 (twHS k):=by
 have hS : AllSound (B [(97,.pure (normG (B []) [30] (keysS k))),(98,.pure (normG (B []) [32,176] (eachXS k))),(100,.pure (normG (B []) [38] cloneS))]) G:=.cons _ (keys_all k) (.cons _ (eachX_ok k fun m _=>ex_ok) (.cons _ clone_ok noneS))
 refine okP hS Tryz.func63 rfl (by decide) fun K us hk=>?_
 unfold twHS at hk
 split at hk
 ·rename_i l
  split at hk
  ·rename_i e he
   rw [asHist_eq he]
   refine ⟨by show 1 ≤ _; decide,?_⟩
   obtain ⟨⟨h1,h2,h3,h4,h5,h6⟩,hk⟩:=hk
   conv=>whnf
   refine ⟨mixed,[(7,[1]),(9,[1])],[(1,[]),(2,[]),(4,[]),(5,[])],[],by kernel_rfl,?_⟩;conv=>whnf
   refine ⟨⟨h1,h2⟩,?_⟩;conv=>whnf
   refine ⟨⟨h3,h4⟩,?_⟩;conv=>whnf
   refine ⟨mixed,[(7,[1]),(9,[1])],[(1,[]),(2,[]),(4,[]),(5,[])],[],by kernel_rfl,?_⟩;conv=>whnf
   refine ⟨by show e.cs.length ≤ 68719476736; omega,?_⟩;conv=>whnf
   refine ⟨by show e.bs.length ≤ 68719476736; omega,?_⟩;conv=>whnf
   exact hk
  exact hk.elim
 exact hk.elim
def cloneC (c : List Int) : List U → List Blk → Out RF
 | [.c (.d 38 (.ints l))],[]=>.need (l.length ≤ 68719476736) (wp1 (decide (l = c)) fun b=>bif b then .ret (.u (.c (.r 60000 38)),[],[.row 38 (.ints l)]) else .ret (.u (.c (.d 38 (.ints l))),[],[]))
 | _,_=>.fail
theorem OkF.byCases {f : FuncId} {g g1 g2 : List U → List Blk → Out (SV × List (Option Blk) × List Blk)} (h1 : OkF G f g1) (h2 : OkF G f g2) (hm : ∀ us ls,(∀ K,(g us ls).wp K → (g1 us ls).wp K) ∨ (∀ K,(g us ls).wp K → (g2 us ls).wp K)) : OkF G f g:=by
 refine ⟨h1.1,fun K us lent β X w vals hl hk=>?_⟩
 rcases hm us lent with h | h
 ·exact h1.2 K us lent β X w vals hl (h K hk)
 exact h2.2 K us lent β X w vals hl (h K hk)
def cloneO : List U → List Blk → Out RF
 | [.c (.d 38 (.ints (a :: r)))],[]=>.need ((a :: r).length ≤ 68719476736) (.ret (.u (.c (.r 60000 38)),[],[.row 38 (.ints (a :: r))]))
 | _,_=>.fail
def cloneD : List U → List Blk → Out RF
 | [.c (.d 38 (.ints l))],[]=>.need (l.length ≤ 68719476736) (.ret (.u (.c (.d 38 (.ints l))),[],[]))
 | _,_=>.fail
theorem cloneO_ok : OkF G 100 cloneO:=by
 refine okF true noneS Tryz.func100 rfl (by decide) fun K us lent hk=>?_
 unfold cloneO at hk
 split at hk
 ·rename_i a r
  refine ⟨by show 1 ≤ _; decide,?_⟩
  obtain ⟨hl,hk⟩:=hk
  conv=>whnf
  intro b hb
  cases b
  ·conv=>whnf
   refine ⟨by show (a :: r).length ≤ 137438953472; omega,?_⟩;conv=>whnf
   exact hk
  cases hb rfl
 exact hk.elim
theorem cloneD_ok : OkF G 100 cloneD:=by
 refine okF false noneS Tryz.func100 rfl (by decide) fun K us lent hk=>?_
 unfold cloneD at hk
 split at hk
 ·rename_i l
  refine ⟨by show 1 ≤ _; decide,?_⟩
  obtain ⟨hl,hk⟩:=hk
  conv=>whnf
  intro b hb
  cases b
  ·conv=>whnf
   refine ⟨by show l.length ≤ 137438953472; omega,?_⟩;conv=>whnf
   exact hk
  have : l = []:=List.length_eq_zero_iff.1 (hb rfl)
  subst this
  conv=>whnf
  exact hk
 exact hk.elim
theorem cloneC_ok (a : Int) (r : List Int) : OkF G 100 (cloneC (a :: r)):=OkF.byCases cloneO_ok cloneD_ok fun us ls=>by
 unfold cloneC
 split
 ·rename_i l
  by_cases h : l = a :: r
  ·refine .inl fun K hk=>?_
   subst h
   exact ⟨hk.1,hk.2 true (decide_eq_true rfl)⟩
  refine .inr fun K hk=>?_
  exact ⟨hk.1,hk.2 false (decide_eq_false h)⟩
 exact .inl fun K hk=>hk.elim
end Sx
namespace Sx
open Go Go.Proofs
set_option maxRecDepth 30000
variable {G : Glob}
def HistD.cellsW (e : HistD) (c b : C) : List C:=[.d 30 e.attrs,U64 e.start,U64 e.time,U64 e.count,Bo e.sumH,U64 e.sum,Bo e.minH,U64 e.min,Bo e.maxH,U64 e.max,c,b,.d 32 e.ex,U32 e.flags,St e.unk]
def twHC (k : Nat) (a : Int) (r : List Int) : List U → List Blk → Out RF
 | [.a l],[]=>match asHist l with
  | some e=>.need (HGood k e ∧ e.cs = a :: r) (wp1 (decide (e.bs = a :: r)) fun b=>bif b then .ret (.u (.a (e.cellsW (.r 60000 38) (.r 60001 38))),[],[.row 38 (.ints e.cs),.row 38 (.ints e.bs)])
   else .ret (.u (.a (e.cellsW (.r 60000 38) (.d 38 (.ints e.bs)))),[],[.row 38 (.ints e.cs)]))
  | none=>.fail
 | _,_=>.fail
theorem twHC_ok {k : Nat} {a : Int} {r : List Int} : OkF G 63 (twHC k a r):=by
 have hS : AllSound (B [(97,.pure (normG (B []) [30] (keysS k))),(98,.pure (normG (B []) [32,176] (eachXS k))),(100,.full (normF (B []) [38] (cloneC (a :: r))))]) G:=.cons _ (keys_all k) (.cons _ (eachX_ok k fun m _=>ex_ok) (.consF _ (cloneC_ok a r) noneS))
 refine okF true hS Tryz.func63 rfl (by decide) fun K us lent hk=>?_
 unfold twHC at hk
 split at hk
 ·rename_i l
  split at hk
  ·rename_i e he
   rw [asHist_eq he]
   refine ⟨by show 1 ≤ _; decide,?_⟩
   obtain ⟨⟨⟨h1,h2,h3,h4,h5,h6⟩,hc⟩,hk⟩:=hk
   conv=>whnf
   refine ⟨mixed,[(7,[1]),(9,[1])],[(1,[]),(2,[]),(4,[]),(5,[])],[],by kernel_rfl,?_⟩;conv=>whnf
   refine ⟨⟨h1,h2⟩,?_⟩;conv=>whnf
   refine ⟨⟨h3,h4⟩,?_⟩;conv=>whnf
   refine ⟨mixed,[(7,[1]),(9,[1])],[(1,[]),(2,[]),(4,[]),(5,[])],[],by kernel_rfl,?_⟩;conv=>whnf
   refine ⟨by show e.cs.length ≤ 68719476736; omega,?_⟩;conv=>whnf
   intro b hb
   have hb : decide (e.cs = a :: r) = b:=hb
   rw [decide_eq_true hc] at hb
   subst hb
   conv=>whnf
   refine ⟨by show e.bs.length ≤ 68719476736; omega,?_⟩;conv=>whnf
   intro b hb
   have hb : decide (e.bs = a :: r) = b:=hb
   have hk:=hk b hb
   cases b with
   | true =>
    have hb : e.bs = a :: r:=of_decide_eq_true hb
    conv=>whnf
    exact hk
   | false =>
    conv=>whnf
    exact hk
  exact hk.elim
 exact hk.elim
end Sx
namespace Sx
open Go Go.Proofs
open Go.Proofs.SxPu (addV subV)
set_option maxRecDepth 30000
variable {G : Glob}
def bothT : List U → Out SV
 | [.a [.v (.bool h),.v (.int .u64 n)],.a [.v (.bool h'),.v (.int .u64 n')],.c (.v (.func (.func f) p q))] =>
  bif p.isEmpty && q.isEmpty then (match f with
   | 106=>.need (UU n ∧ UU n') (agg [Bo (h && h'),U64 (bif h && h' then addV n n' else 0)])
   | 110=>agg [Bo (h && h'),U64 (bif h && h' then minV n n' else 0)]
   | 111=>agg [Bo (h && h'),U64 (bif h && h' then maxV n n' else 0)]
   | 128=>.need (UU n ∧ UU n') (agg [Bo (h && h'),U64 (bif h && h' then subV n n' else 0)])
   | _=>.fail) else .fail
 | _=>.fail
theorem both_ex : Ok G 109 bothT:=by
 have hS : AllSound (B [(106,.pure (normG (B []) [31,31] addT)),(110,.pure (normG (B []) [31,31] minS)),(111,.pure (normG (B []) [31,31] maxS)),(128,.pure (normG (B []) [31,31] subT))]) G:=.cons _ add_ex (.cons _ minF_ok (.cons _ maxF_ok (.cons _ sub_ex noneS)))
 refine okP hS Tryz.func109 rfl (by decide) fun K us hk=>?_
 unfold bothT at hk
 split at hk
 ·rename_i h n h' n' f p q
  refine ⟨by show 3 ≤ _; decide,?_⟩
  obtain ⟨hpq,hk⟩:=wp_cond_fail hk
  simp only [Bool.and_eq_true,Array.isEmpty_iff] at hpq
  obtain ⟨rfl,rfl⟩:=hpq
  conv=>whnf
  refine Ask.i (fun c1=>?_) (fun c1=>?_)
  ·have c1 : (!h) = true:=c1
   obtain rfl : h = false:=by simpa using c1
   conv=>whnf
   split at hk
   ·exact hk.2
   ·exact hk
   ·exact hk
   ·exact hk.2
   exact hk.elim
  have c1 : (!h) = false:=c1
  obtain rfl : h = true:=by simpa using c1
  conv=>whnf
  refine Ask.i (fun c2=>?_) (fun c2=>?_)
  ·have c2 : (!h') = true:=c2
   obtain rfl : h' = false:=by simpa using c2
   conv=>whnf
   split at hk
   ·exact hk.2
   ·exact hk
   ·exact hk
   ·exact hk.2
   exact hk.elim
  have c2 : (!h') = false:=c2
  obtain rfl : h' = true:=by simpa using c2
  split at hk
  ·conv=>whnf
   refine ⟨hk.1,?_⟩;conv=>whnf
   exact hk.2
  ·conv=>whnf
   exact hk
  ·conv=>whnf
   exact hk
  ·conv=>whnf
   refine ⟨hk.1,?_⟩;conv=>whnf
   exact hk.2
  exact hk.elim
 exact hk.elim
end Sx
