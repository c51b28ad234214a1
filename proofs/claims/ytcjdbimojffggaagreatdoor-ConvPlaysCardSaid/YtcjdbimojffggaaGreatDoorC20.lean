/- Part of the proof: a machine of states for walks, and contracts of functions over it. Conditions: those that each theorem names. -/
import Derived.Test.YtcjdbimojffggaaGreatDoorC19
set_option linter.unusedVariables false
set_option linter.unusedSimpArgs false
namespace Sx
open Go Go.Proofs
open Sx.Pf (hygref6_Class.f hygref6_Class.j0 hygref6_parts.f hygref6_neg.f)
open Go.Proofs.SxPu (cls qt sz sg addV subV ng finV)
set_option maxRecDepth 30000
variable {G : Glob}
theorem itp {ρ : Type} {c : Prop} [Decidable c] {a b : Option ρ} {v : ρ} (h : (if c then a else b) = some v) (hc : c) : a = some v:=by rwa [if_pos hc] at h
theorem itn {ρ : Type} {c : Prop} [Decidable c] {a b : Option ρ} {v : ρ} (h : (if c then a else b) = some v) (hc : ¬ c) : b = some v:=by rwa [if_neg hc] at h
theorem rclass_ex : Ok G 91 classT:=by
 refine okP noneS Tryz.func91 rfl (by decide) fun K us hk=>?_
 unfold classT at hk
 split at hk
 ·rename_i x
  obtain ⟨u,hk⟩:=hk
  have hr:=Go.Proofs.SxPu.rclass_f (k:=0 + 1) u (by decide)
  generalize cls x = R at hk hr
  have key : ∀ {z},some z = some R → K (.u (.c (I64 z))):=fun {z} h=>fin hk (congrArg (fun z : Int=>SV.u (.c (I64 z))) (Option.some.inj h).symm)
  refine ⟨by show 1 ≤ _; decide,?_⟩
  unfold hygref6_Class.f at hr
  simp only [hygref6_Class.j0,bits_and] at hr
  conv=>whnf
  refine ⟨by decide,?_⟩;conv=>whnf
  refine Ask.i (fun c1=>?_) (fun c1=>?_)
  ·simp only [fdn] at c1
   replace hr:=itp hr (eq_of_beq c1)
   conv=>whnf
   refine Ask.i (fun c2=>?_) (fun c2=>?_)
   ·replace hr:=itp hr ( c2)
    conv=>whnf
    exact key hr
   replace hr:=itn hr (ne_true_of_eq_false c2)
   conv=>whnf
   refine Ask.i (fun c3=>?_) (fun c3=>?_)
   ·simp only [fdn] at c3
    replace hr:=itp hr (eq_of_beq c3)
    conv=>whnf
    exact key hr
   simp only [fdn] at c3
   replace hr:=itn hr (ne_of_beq_false c3)
   conv=>whnf
   refine Ask.i (fun d2=>?_) (fun d2=>?_)
   ·simp only [fdn] at d2
    replace hr:=itp hr (of_decide_eq_true d2)
    conv=>whnf
    exact key hr
   simp only [fdn] at d2
   replace hr:=itn hr (of_decide_eq_false d2)
   conv=>whnf
   refine Ask.i (fun d3=>?_) (fun d3=>?_)
   ·replace hr:=itp hr (of_decide_eq_true d3)
    conv=>whnf
    exact key hr
   replace hr:=itn hr (of_decide_eq_false d3)
   conv=>whnf
   exact key hr
  simp only [fdn] at c1
  replace hr:=itn hr (ne_of_beq_false c1)
  conv=>whnf
  replace hr:=itn hr (by decide)
  refine Ask.i (fun c3=>?_) (fun c3=>?_)
  ·simp only [fdn] at c3
   replace hr:=itp hr (eq_of_beq c3)
   conv=>whnf
   exact key hr
  simp only [fdn] at c3
  replace hr:=itn hr (ne_of_beq_false c3)
  conv=>whnf
  refine Ask.i (fun d2=>?_) (fun d2=>?_)
  ·simp only [fdn] at d2
   replace hr:=itp hr (of_decide_eq_true d2)
   conv=>whnf
   exact key hr
  simp only [fdn] at d2
  replace hr:=itn hr (of_decide_eq_false d2)
  conv=>whnf
  refine Ask.i (fun d3=>?_) (fun d3=>?_)
  ·replace hr:=itp hr (of_decide_eq_true d3)
   conv=>whnf
   exact key hr
  replace hr:=itn hr (of_decide_eq_false d3)
  conv=>whnf
  exact key hr
 exact hk.elim
theorem rquiet_ex : Ok G 92 quietT:=by
 refine okP noneS Tryz.func92 rfl (by decide) fun K us hk=>?_
 unfold quietT at hk
 split at hk
 ·refine ⟨by show 1 ≤ _; decide,?_⟩
  conv=>whnf
  exact hk
 exact hk.elim
def rsizeT : List U → Out SV
 | [.c (.v (.int .u64 x))]=>.need (UU x) (one (U64 (sz x : Nat)))
 | _=>.fail
theorem rsize_ex : Ok G 93 rsizeT:=by
 refine okP noneS Tryz.func93 rfl (by decide) fun K us hk=>?_
 unfold rsizeT at hk
 split at hk
 ·rename_i x
  obtain ⟨u,hk⟩:=hk
  refine ⟨by show 1 ≤ _; decide,?_⟩
  have e:=(Option.some.inj (Go.Proofs.SxPu.rsize_f u)).symm
  rw [← Go.Proofs.SxPu.sz_cast u] at e
  conv=>whnf
  exact fin hk (congrArg (fun z : Int=>SV.u (.c (U64 z))) e)
 exact hk.elim
def rnegT : List U → Out SV
 | [.c (.v (.int .u64 x))]=>.need (UU x) (one (Bo (decide (9223372036854775808 ≤ x))))
 | _=>.fail
theorem rneg_ex : Ok G 95 rnegT:=by
 refine okP noneS Tryz.func95 rfl (by decide) fun K us hk=>?_
 unfold rnegT at hk
 split at hk
 ·rename_i x
  obtain ⟨u,hk⟩:=hk
  refine ⟨by show 1 ≤ _; decide,?_⟩
  have e:=(Option.some.inj (Go.Proofs.SxPu.rneg_f u)).symm
  conv=>whnf
  refine ⟨by decide,?_⟩;conv=>whnf
  exact fin hk (congrArg (fun z : Bool=>SV.u (.c (Bo z))) (by rw [e]; simp only [fdn]; rfl))
 exact hk.elim
theorem rNeg_ex : Ok G 170 negT:=by
 refine okP noneS Tryz.func170 rfl (by decide) fun K us hk=>?_
 unfold negT at hk
 split at hk
 ·refine ⟨by show 1 ≤ _; decide,?_⟩
  obtain ⟨hu,hk⟩:=hk
  conv=>whnf
  refine fin hk (congrArg (fun z : Int=>SV.u (.c (U64 z))) ?_)
  exact (Option.some.inj (Go.Proofs.SxPu.neg_f hu)).symm
 exact hk.elim
def partsT : List U → Out SV
 | [.c (.v (.int .u64 x))]=>optG (hygref6_parts.f x) (0,0) fun p=>.ret (.t [.c (U64 p.1),.c (I64 p.2)])
 | _=>.fail
theorem eq2t {a a' b b' : Int} (h1 : a = a') (h2 : b = b') : SV.t [.c (U64 a),.c (I64 b)] = SV.t [.c (U64 a'),.c (I64 b')]:=by subst h1 h2; rfl
theorem parts_ex : Ok G 94 partsT:=by
 refine okP noneS Tryz.func94 rfl (by decide) fun K us hk=>?_
 unfold partsT at hk
 split at hk
 ·rename_i x
  obtain ⟨v,hr,hk⟩:=optG_wp hk
  refine ⟨by show 1 ≤ _; decide,?_⟩
  unfold hygref6_parts.f at hr
  simp only [bits_and,bits_or,rw64] at hr
  conv=>whnf
  refine ⟨by decide,?_⟩;conv=>whnf
  refine Ask.i (fun c1=>?_) (fun c1=>?_)
  ·simp only [fdn] at c1
   replace hr:=itp hr (eq_of_beq c1)
   cases hr
   conv=>whnf
   exact hk
  simp only [fdn] at c1
  replace hr:=itn hr (ne_of_beq_false c1)
  cases hr
  conv=>whnf
  exact fin hk (eq2t rfl (by simp only [fdn]; rfl))
 exact hk.elim
end Sx
