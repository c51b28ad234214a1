/- Part of the proof: a machine of states for walks, and contracts of functions over it. Conditions: those that each theorem names. -/
import Derived.Test.YtcjdbimojffggaaGreatDoorC20
set_option linter.unusedVariables false
set_option linter.unusedSimpArgs false
namespace Sx
open Go Go.Proofs
open Sx.Pf (hygref6_round.f hygref6_round.j0 hygref6_round.l0 hygref6_round.j2 hygref6_round.j3)
set_option maxRecDepth 30000
variable {G : Glob}
theorem j2_pos {k : Nat} {a b c v : Int} (h : hygref6_round.j2 k a b c = some v) : ∃ n,k = n + 1:=by
 cases k with
 | zero=>rw [hygref6_round.j2] at h; cases h
 | succ k=>exact ⟨k,rfl⟩
theorem j3_pos {k : Nat} {a b c v : Int} (h : hygref6_round.j3 k a b c = some v) : ∃ n,k = n + 1:=by
 cases k with
 | zero=>rw [hygref6_round.j3] at h; cases h
 | succ k=>exact ⟨k,rfl⟩
theorem neg0 (n : Int) : w64 (-n) = w64 (0 - n):=by rw [Int.zero_sub]
set_option maxHeartbeats 1000000
def rroundT : List U → Out SV
 | [.c (.v (.bool b)),.c (.v (.int .u64 m)),.c (.v (.int .i64 e))]=>optG (hygref6_round.f 196 b m e) 0 fun p=>one (U64 p)
 | _=>.fail
theorem rround_ex : Ok G 96 rroundT:=by
 refine okP noneS Tryz.func96 rfl (by decide) fun K us hk=>?_
 unfold rroundT at hk
 split at hk
 ·rename_i b m e
  obtain ⟨v,hr,hk⟩:=optG_wp hk
  refine ⟨by show 3 ≤ _; decide,?_⟩
  unfold hygref6_round.f at hr
  conv=>whnf
  refine Ask.i (fun b0=>?_) (fun b0=>?_)
  ·try simp only [fdn] at b0
   replace hr:=itp hr ( b0)
   conv=>whnf
   rw [hygref6_round.j0] at hr
   refine Ask.i (fun m0=>?_) (fun m0=>?_)
   ·try simp only [fdn] at m0
    replace hr:=itp hr (eq_of_beq m0)
    conv=>whnf
    exact fin hk (congrArg (fun z : Int=>SV.u (.c (U64 z))) ((Option.some.inj hr).symm.trans (by first | rfl | (simp only [fdn]; rfl))))
   try simp only [fdn] at m0
   replace hr:=itn hr (ne_of_beq_false m0)
   conv=>whnf
   refine ⟨[],_,_,rfl,Nat × Int,(fun y=>([(1,.u (.c (U64 m))),(2,.u (.c (I64 e))),(7,.u (.c (U64 9223372036854775808))),(8,.u (.c (I64 y.2)))],[])),
    (fun y=>hygref6_round.l0 y.1 m e 9223372036854775808 y.2 = some v),(fun y=>y.1),fun x _=>rfl,⟨(195,0),hr,⟨rfl,rfl,rfl,rfl,trivial⟩,trivial⟩,?_⟩
   rintro ⟨k,i⟩ hr
   replace hr : hygref6_round.l0 k m e 9223372036854775808 i = some v:=hr
   cases k with
   | zero=>cases hr
   | succ k =>
    rw [hygref6_round.l0] at hr
    simp only [rw64,bits_and,bits_or] at hr
    replace hr:=itp hr (x64_r _).1
    conv=>whnf
    refine ⟨(x64_r _).1,?_⟩;conv=>whnf
    refine Ask.i (fun b1=>?_) (fun b1=>?_)
    ·try simp only [fdn] at b1
     replace hr:=itp hr (of_decide_eq_true b1)
     conv=>whnf
     exact ⟨(k,w64 (i + 1)),hr,Nat.lt_succ_self k,⟨rfl,rfl,rfl,rfl,trivial⟩,trivial⟩
    try simp only [fdn] at b1
    replace hr:=itn hr (of_decide_eq_false b1)
    conv=>whnf
    refine Ask.i (fun c1=>?_) (fun c1=>?_)
    ·try simp only [fdn] at c1
     replace hr:=itp hr (of_decide_eq_true c1)
     conv=>whnf
     refine Ask.i (fun c2=>?_) (fun c2=>?_)
     ·try simp only [fdn] at c2
      replace hr:=itp hr (of_decide_eq_true c2)
      conv=>whnf
      exact fin hk (congrArg (fun z : Int=>SV.u (.c (U64 z))) ((Option.some.inj hr).symm.trans (by first | rfl | (simp only [fdn]; rfl))))
     try simp only [fdn] at c2
     replace hr:=itn hr (of_decide_eq_false c2)
     conv=>whnf
     refine Ask.i (fun c3=>?_) (fun c3=>?_)
     ·try simp only [fdn] at c3
      replace hr:=itp hr (of_decide_eq_true c3)
      conv=>whnf
      refine ⟨(x64_r _).1,?_⟩;conv=>whnf
      refine ⟨(x64_r _).1,?_⟩;conv=>whnf
      replace hr:=itp (itp hr (x64_r _).1) (x64_r _).1
      refine ⟨(x64_r _).1,?_⟩;conv=>whnf
      refine Ask.i (fun g1=>?_) (fun g1=>?_)
      ·try simp only [fdn] at g1
       replace hr:=itp hr (of_decide_eq_true g1)
       conv=>whnf
       obtain ⟨k,rfl⟩:=j2_pos hr
       rw [hygref6_round.j2] at hr
       simp only [rw64,bits_and,bits_or] at hr
       refine ⟨by decide,?_⟩;conv=>whnf
       refine Ask.i (fun t1=>?_) (fun t1=>?_)
       ·try simp only [fdn] at t1
        replace hr:=itp hr (eq_of_beq t1)
        conv=>whnf
        refine ⟨by decide,?_⟩;conv=>whnf
        obtain ⟨k,rfl⟩:=j3_pos hr
        rw [hygref6_round.j3] at hr
        simp only [rw64,bits_and,bits_or] at hr
        refine ⟨by decide,?_⟩;conv=>whnf
        refine Ask.i (fun t2=>?_) (fun t2=>?_)
        ·try simp only [fdn] at t2
         replace hr:=itp hr (eq_of_beq t2)
         conv=>whnf
         exact fin hk (congrArg (fun z : Int=>SV.u (.c (U64 z))) ((Option.some.inj hr).symm.trans (by first | rfl | (simp only [fdn]; rfl))))
        try simp only [fdn] at t2
        replace hr:=itn hr (ne_of_beq_false t2)
        conv=>whnf
        refine Ask.i (fun t3=>?_) (fun t3=>?_)
        ·try simp only [fdn] at t3
         replace hr:=itp hr (of_decide_eq_true t3)
         conv=>whnf
         exact fin hk (congrArg (fun z : Int=>SV.u (.c (U64 z))) ((Option.some.inj hr).symm.trans (by first | rfl | (simp only [fdn]; rfl))))
        try simp only [fdn] at t3
        replace hr:=itn hr (of_decide_eq_false t3)
        conv=>whnf
        refine ⟨by decide,?_⟩;conv=>whnf
        exact fin hk (congrArg (fun z : Int=>SV.u (.c (U64 z))) ((Option.some.inj hr).symm.trans (by first | rfl | (simp only [fdn]; rfl))))
       try simp only [fdn] at t1
       replace hr:=itn hr (ne_of_beq_false t1)
       conv=>whnf
       obtain ⟨k,rfl⟩:=j3_pos hr
       rw [hygref6_round.j3] at hr
       simp only [rw64,bits_and,bits_or] at hr
       refine ⟨by decide,?_⟩;conv=>whnf
       refine Ask.i (fun t2=>?_) (fun t2=>?_)
       ·try simp only [fdn] at t2
        replace hr:=itp hr (eq_of_beq t2)
        conv=>whnf
        exact fin hk (congrArg (fun z : Int=>SV.u (.c (U64 z))) ((Option.some.inj hr).symm.trans (by first | rfl | (simp only [fdn]; rfl))))
       try simp only [fdn] at t2
       replace hr:=itn hr (ne_of_beq_false t2)
       conv=>whnf
       refine Ask.i (fun t3=>?_) (fun t3=>?_)
       ·try simp only [fdn] at t3
        replace hr:=itp hr (of_decide_eq_true t3)
        conv=>whnf
        exact fin hk (congrArg (fun z : Int=>SV.u (.c (U64 z))) ((Option.some.inj hr).symm.trans (by first | rfl | (simp only [fdn]; rfl))))
       try simp only [fdn] at t3
       replace hr:=itn hr (of_decide_eq_false t3)
       conv=>whnf
       refine ⟨by decide,?_⟩;conv=>whnf
       exact fin hk (congrArg (fun z : Int=>SV.u (.c (U64 z))) ((Option.some.inj hr).symm.trans (by first | rfl | (simp only [fdn]; rfl))))
      try simp only [fdn] at g1
      replace hr:=itn hr (of_decide_eq_false g1)
      conv=>whnf
      refine Ask.i (fun g2=>?_) (fun g2=>?_)
      ·try simp only [fdn] at g2
       replace hr:=itp hr (eq_of_beq g2)
       conv=>whnf
       refine Ask.i (fun g3=>?_) (fun g3=>?_)
       ·try simp only [fdn] at g3
        replace hr:=itp hr (eq_of_beq g3)
        conv=>whnf
        obtain ⟨k,rfl⟩:=j2_pos hr
        rw [hygref6_round.j2] at hr
        simp only [rw64,bits_and,bits_or] at hr
        refine ⟨by decide,?_⟩;conv=>whnf
        refine Ask.i (fun t1=>?_) (fun t1=>?_)
        ·try simp only [fdn] at t1
         replace hr:=itp hr (eq_of_beq t1)
         conv=>whnf
         refine ⟨by decide,?_⟩;conv=>whnf
         obtain ⟨k,rfl⟩:=j3_pos hr
         rw [hygref6_round.j3] at hr
         simp only [rw64,bits_and,bits_or] at hr
         refine ⟨by decide,?_⟩;conv=>whnf
         refine Ask.i (fun t2=>?_) (fun t2=>?_)
         ·try simp only [fdn] at t2
          replace hr:=itp hr (eq_of_beq t2)
          conv=>whnf
          exact fin hk (congrArg (fun z : Int=>SV.u (.c (U64 z))) ((Option.some.inj hr).symm.trans (by first | rfl | (simp only [fdn]; rfl))))
         try simp only [fdn] at t2
         replace hr:=itn hr (ne_of_beq_false t2)
         conv=>whnf
         refine Ask.i (fun t3=>?_) (fun t3=>?_)
         ·try simp only [fdn] at t3
          replace hr:=itp hr (of_decide_eq_true t3)
          conv=>whnf
          exact fin hk (congrArg (fun z : Int=>SV.u (.c (U64 z))) ((Option.some.inj hr).symm.trans (by first | rfl | (simp only [fdn]; rfl))))
         try simp only [fdn] at t3
         replace hr:=itn hr (of_decide_eq_false t3)
         conv=>whnf
         refine ⟨by decide,?_⟩;conv=>whnf
         exact fin hk (congrArg (fun z : Int=>SV.u (.c (U64 z))) ((Option.some.inj hr).symm.trans (by first | rfl | (simp only [fdn]; rfl))))
        try simp only [fdn] at t1
        replace hr:=itn hr (ne_of_beq_false t1)
        conv=>whnf
        obtain ⟨k,rfl⟩:=j3_pos hr
        rw [hygref6_round.j3] at hr
        simp only [rw64,bits_and,bits_or] at hr
        refine ⟨by decide,?_⟩;conv=>whnf
        refine Ask.i (fun t2=>?_) (fun t2=>?_)
        ·try simp only [fdn] at t2
         replace hr:=itp hr (eq_of_beq t2)
         conv=>whnf
         exact fin hk (congrArg (fun z : Int=>SV.u (.c (U64 z))) ((Option.some.inj hr).symm.trans (by first | rfl | (simp only [fdn]; rfl))))
        try simp only [fdn] at t2
        replace hr:=itn hr (ne_of_beq_false t2)
        conv=>whnf
        refine Ask.i (fun t3=>?_) (fun t3=>?_)
        ·try simp only [fdn] at t3
         replace hr:=itp hr (of_decide_eq_true t3)
         conv=>whnf
         exact fin hk (congrArg (fun z : Int=>SV.u (.c (U64 z))) ((Option.some.inj hr).symm.trans (by first | rfl | (simp only [fdn]; rfl))))
        try simp only [fdn] at t3
        replace hr:=itn hr (of_decide_eq_false t3)
        conv=>whnf
        refine ⟨by decide,?_⟩;conv=>whnf
        exact fin hk (congrArg (fun z : Int=>SV.u (.c (U64 z))) ((Option.some.inj hr).symm.trans (by first | rfl | (simp only [fdn]; rfl))))
       try simp only [fdn] at g3
       replace hr:=itn hr (ne_of_beq_false g3)
       conv=>whnf
       obtain ⟨k,rfl⟩:=j2_pos hr
       rw [hygref6_round.j2] at hr
       simp only [rw64,bits_and,bits_or] at hr
       refine ⟨by decide,?_⟩;conv=>whnf
       refine Ask.i (fun t1=>?_) (fun t1=>?_)
       ·try simp only [fdn] at t1
        replace hr:=itp hr (eq_of_beq t1)
        conv=>whnf
        refine ⟨by decide,?_⟩;conv=>whnf
        obtain ⟨k,rfl⟩:=j3_pos hr
        rw [hygref6_round.j3] at hr
        simp only [rw64,bits_and,bits_or] at hr
        refine ⟨by decide,?_⟩;conv=>whnf
        refine Ask.i (fun t2=>?_) (fun t2=>?_)
        ·try simp only [fdn] at t2
         replace hr:=itp hr (eq_of_beq t2)
         conv=>whnf
         exact fin hk (congrArg (fun z : Int=>SV.u (.c (U64 z))) ((Option.some.inj hr).symm.trans (by first | rfl | (simp only [fdn]; rfl))))
        try simp only [fdn] at t2
        replace hr:=itn hr (ne_of_beq_false t2)
        conv=>whnf
        refine Ask.i (fun t3=>?_) (fun t3=>?_)
        ·try simp only [fdn] at t3
         replace hr:=itp hr (of_decide_eq_true t3)
         conv=>whnf
         exact fin hk (congrArg (fun z : Int=>SV.u (.c (U64 z))) ((Option.some.inj hr).symm.trans (by first | rfl | (simp only [fdn]; rfl))))
        try simp only [fdn] at t3
        replace hr:=itn hr (of_decide_eq_false t3)
        conv=>whnf
        refine ⟨by decide,?_⟩;conv=>whnf
        exact fin hk (congrArg (fun z : Int=>SV.u (.c (U64 z))) ((Option.some.inj hr).symm.trans (by first | rfl | (simp only [fdn]; rfl))))
       try simp only [fdn] at t1
       replace hr:=itn hr (ne_of_beq_false t1)
       conv=>whnf
       obtain ⟨k,rfl⟩:=j3_pos hr
       rw [hygref6_round.j3] at hr
       simp only [rw64,bits_and,bits_or] at hr
       refine ⟨by decide,?_⟩;conv=>whnf
       refine Ask.i (fun t2=>?_) (fun t2=>?_)
       ·try simp only [fdn] at t2
        replace hr:=itp hr (eq_of_beq t2)
        conv=>whnf
        exact fin hk (congrArg (fun z : Int=>SV.u (.c (U64 z))) ((Option.some.inj hr).symm.trans (by first | rfl | (simp only [fdn]; rfl))))
       try simp only [fdn] at t2
       replace hr:=itn hr (ne_of_beq_false t2)
       conv=>whnf
       refine Ask.i (fun t3=>?_) (fun t3=>?_)
       ·try simp only [fdn] at t3
        replace hr:=itp hr (of_decide_eq_true t3)
        conv=>whnf
        exact fin hk (congrArg (fun z : Int=>SV.u (.c (U64 z))) ((Option.some.inj hr).symm.trans (by first | rfl | (simp only [fdn]; rfl))))
       try simp only [fdn] at t3
       replace hr:=itn hr (of_decide_eq_false t3)
       conv=>whnf
       refine ⟨by decide,?_⟩;conv=>whnf
       exact fin hk (congrArg (fun z : Int=>SV.u (.c (U64 z))) ((Option.some.inj hr).symm.trans (by first | rfl | (simp only [fdn]; rfl))))
      try simp only [fdn] at g2
      replace hr:=itn hr (ne_of_beq_false g2)
      conv=>whnf
      obtain ⟨k,rfl⟩:=j2_pos hr
      rw [hygref6_round.j2] at hr
      simp only [rw64,bits_and,bits_or] at hr
      refine ⟨by decide,?_⟩;conv=>whnf
      refine Ask.i (fun t1=>?_) (fun t1=>?_)
      ·try simp only [fdn] at t1
       replace hr:=itp hr (eq_of_beq t1)
       conv=>whnf
       refine ⟨by decide,?_⟩;conv=>whnf
       obtain ⟨k,rfl⟩:=j3_pos hr
       rw [hygref6_round.j3] at hr
       simp only [rw64,bits_and,bits_or] at hr
       refine ⟨by decide,?_⟩;conv=>whnf
       refine Ask.i (fun t2=>?_) (fun t2=>?_)
       ·try simp only [fdn] at t2
        replace hr:=itp hr (eq_of_beq t2)
        conv=>whnf
        exact fin hk (congrArg (fun z : Int=>SV.u (.c (U64 z))) ((Option.some.inj hr).symm.trans (by first | rfl | (simp only [fdn]; rfl))))
       try simp only [fdn] at t2
       replace hr:=itn hr (ne_of_beq_false t2)
       conv=>whnf
       refine Ask.i (fun t3=>?_) (fun t3=>?_)
       ·try simp only [fdn] at t3
        replace hr:=itp hr (of_decide_eq_true t3)
        conv=>whnf
        exact fin hk (congrArg (fun z : Int=>SV.u (.c (U64 z))) ((Option.some.inj hr).symm.trans (by first | rfl | (simp only [fdn]; rfl))))
       try simp only [fdn] at t3
       replace hr:=itn hr (of_decide_eq_false t3)
       conv=>whnf
       refine ⟨by decide,?_⟩;conv=>whnf
       exact fin hk (congrArg (fun z : Int=>SV.u (.c (U64 z))) ((Option.some.inj hr).symm.trans (by first | rfl | (simp only [fdn]; rfl))))
      try simp only [fdn] at t1
      replace hr:=itn hr (ne_of_beq_false t1)
      conv=>whnf
      obtain ⟨k,rfl⟩:=j3_pos hr
      rw [hygref6_round.j3] at hr
      simp only [rw64,bits_and,bits_or] at hr
      refine ⟨by decide,?_⟩;conv=>whnf
      refine Ask.i (fun t2=>?_) (fun t2=>?_)
      ·try simp only [fdn] at t2
       replace hr:=itp hr (eq_of_beq t2)
       conv=>whnf
       exact fin hk (congrArg (fun z : Int=>SV.u (.c (U64 z))) ((Option.some.inj hr).symm.trans (by first | rfl | (simp only [fdn]; rfl))))
      try simp only [fdn] at t2
      replace hr:=itn hr (ne_of_beq_false t2)
      conv=>whnf
      refine Ask.i (fun t3=>?_) (fun t3=>?_)
      ·try simp only [fdn] at t3
       replace hr:=itp hr (of_decide_eq_true t3)
       conv=>whnf
       exact fin hk (congrArg (fun z : Int=>SV.u (.c (U64 z))) ((Option.some.inj hr).symm.trans (by first | rfl | (simp only [fdn]; rfl))))
      try simp only [fdn] at t3
      replace hr:=itn hr (of_decide_eq_false t3)
      conv=>whnf
      refine ⟨by decide,?_⟩;conv=>whnf
      exact fin hk (congrArg (fun z : Int=>SV.u (.c (U64 z))) ((Option.some.inj hr).symm.trans (by first | rfl | (simp only [fdn]; rfl))))
     try simp only [fdn] at c3
     replace hr:=itn hr (of_decide_eq_false c3)
     conv=>whnf
     replace hr:=itp hr (x64_r _).1
     refine ⟨(x64_r _).1,?_⟩;conv=>whnf
     refine Ask.i (fun g1=>?_) (fun g1=>?_)
     ·try simp only [fdn] at g1
      replace hr:=itp hr (of_decide_eq_true g1)
      conv=>whnf
      obtain ⟨k,rfl⟩:=j2_pos hr
      rw [hygref6_round.j2] at hr
      replace hr:=itn hr (by decide)
      refine ⟨by decide,?_⟩;conv=>whnf
      obtain ⟨k,rfl⟩:=j3_pos hr
      rw [hygref6_round.j3] at hr
      replace hr:=itp hr (by decide)
      refine ⟨by decide,?_⟩;conv=>whnf
      exact fin hk (congrArg (fun z : Int=>SV.u (.c (U64 z))) ((Option.some.inj hr).symm.trans (by first | rfl | (simp only [fdn]; rfl))))
     try simp only [fdn] at g1
     replace hr:=itn hr (of_decide_eq_false g1)
     conv=>whnf
     refine Ask.i (fun g2=>?_) (fun g2=>?_)
     ·try simp only [fdn] at g2
      replace hr:=itp hr (eq_of_beq g2)
      conv=>whnf
      replace hr:=itn hr (by decide)
      obtain ⟨k,rfl⟩:=j2_pos hr
      rw [hygref6_round.j2] at hr
      replace hr:=itn hr (by decide)
      refine ⟨by decide,?_⟩;conv=>whnf
      obtain ⟨k,rfl⟩:=j3_pos hr
      rw [hygref6_round.j3] at hr
      replace hr:=itp hr (by decide)
      refine ⟨by decide,?_⟩;conv=>whnf
      exact fin hk (congrArg (fun z : Int=>SV.u (.c (U64 z))) ((Option.some.inj hr).symm.trans (by first | rfl | (simp only [fdn]; rfl))))
     try simp only [fdn] at g2
     replace hr:=itn hr (ne_of_beq_false g2)
     conv=>whnf
     obtain ⟨k,rfl⟩:=j2_pos hr
     rw [hygref6_round.j2] at hr
     replace hr:=itn hr (by decide)
     refine ⟨by decide,?_⟩;conv=>whnf
     obtain ⟨k,rfl⟩:=j3_pos hr
     rw [hygref6_round.j3] at hr
     replace hr:=itp hr (by decide)
     refine ⟨by decide,?_⟩;conv=>whnf
     exact fin hk (congrArg (fun z : Int=>SV.u (.c (U64 z))) ((Option.some.inj hr).symm.trans (by first | rfl | (simp only [fdn]; rfl))))
    try simp only [fdn] at c1
    replace hr:=itn hr (of_decide_eq_false c1)
    conv=>whnf
    replace hr:=itp hr (x64_r _).1
    simp only [neg0] at hr
    refine ⟨(x64_r _).1,?_⟩;conv=>whnf
    obtain ⟨k,rfl⟩:=j2_pos hr
    rw [hygref6_round.j2] at hr
    simp only [rw64,bits_and,bits_or] at hr
    refine ⟨by decide,?_⟩;conv=>whnf
    refine Ask.i (fun t1=>?_) (fun t1=>?_)
    ·try simp only [fdn] at t1
     replace hr:=itp hr (eq_of_beq t1)
     conv=>whnf
     refine ⟨by decide,?_⟩;conv=>whnf
     obtain ⟨k,rfl⟩:=j3_pos hr
     rw [hygref6_round.j3] at hr
     simp only [rw64,bits_and,bits_or] at hr
     refine ⟨by decide,?_⟩;conv=>whnf
     refine Ask.i (fun t2=>?_) (fun t2=>?_)
     ·try simp only [fdn] at t2
      replace hr:=itp hr (eq_of_beq t2)
      conv=>whnf
      exact fin hk (congrArg (fun z : Int=>SV.u (.c (U64 z))) ((Option.some.inj hr).symm.trans (by first | rfl | (simp only [fdn]; rfl))))
     try simp only [fdn] at t2
     replace hr:=itn hr (ne_of_beq_false t2)
     conv=>whnf
     refine Ask.i (fun t3=>?_) (fun t3=>?_)
     ·try simp only [fdn] at t3
      replace hr:=itp hr (of_decide_eq_true t3)
      conv=>whnf
      exact fin hk (congrArg (fun z : Int=>SV.u (.c (U64 z))) ((Option.some.inj hr).symm.trans (by first | rfl | (simp only [fdn]; rfl))))
     try simp only [fdn] at t3
     replace hr:=itn hr (of_decide_eq_false t3)
     conv=>whnf
     refine ⟨by decide,?_⟩;conv=>whnf
     exact fin hk (congrArg (fun z : Int=>SV.u (.c (U64 z))) ((Option.some.inj hr).symm.trans (by first | rfl | (simp only [fdn]; rfl))))
    try simp only [fdn] at t1
    replace hr:=itn hr (ne_of_beq_false t1)
    conv=>whnf
    obtain ⟨k,rfl⟩:=j3_pos hr
    rw [hygref6_round.j3] at hr
    simp only [rw64,bits_and,bits_or] at hr
    refine ⟨by decide,?_⟩;conv=>whnf
    refine Ask.i (fun t2=>?_) (fun t2=>?_)
    ·try simp only [fdn] at t2
     replace hr:=itp hr (eq_of_beq t2)
     conv=>whnf
     exact fin hk (congrArg (fun z : Int=>SV.u (.c (U64 z))) ((Option.some.inj hr).symm.trans (by first | rfl | (simp only [fdn]; rfl))))
    try simp only [fdn] at t2
    replace hr:=itn hr (ne_of_beq_false t2)
    conv=>whnf
    refine Ask.i (fun t3=>?_) (fun t3=>?_)
    ·try simp only [fdn] at t3
     replace hr:=itp hr (of_decide_eq_true t3)
     conv=>whnf
     exact fin hk (congrArg (fun z : Int=>SV.u (.c (U64 z))) ((Option.some.inj hr).symm.trans (by first | rfl | (simp only [fdn]; rfl))))
    try simp only [fdn] at t3
    replace hr:=itn hr (of_decide_eq_false t3)
    conv=>whnf
    refine ⟨by decide,?_⟩;conv=>whnf
    exact fin hk (congrArg (fun z : Int=>SV.u (.c (U64 z))) ((Option.some.inj hr).symm.trans (by first | rfl | (simp only [fdn]; rfl))))
  try simp only [fdn] at b0
  replace hr:=itn hr (ne_true_of_eq_false b0)
  conv=>whnf
  rw [hygref6_round.j0] at hr
  refine Ask.i (fun m0=>?_) (fun m0=>?_)
  ·try simp only [fdn] at m0
   replace hr:=itp hr (eq_of_beq m0)
   conv=>whnf
   exact fin hk (congrArg (fun z : Int=>SV.u (.c (U64 z))) ((Option.some.inj hr).symm.trans (by first | rfl | (simp only [fdn]; rfl))))
  try simp only [fdn] at m0
  replace hr:=itn hr (ne_of_beq_false m0)
  conv=>whnf
  refine ⟨[],_,_,rfl,Nat × Int,(fun y=>([(1,.u (.c (U64 m))),(2,.u (.c (I64 e))),(7,.u (.c (U64 0))),(8,.u (.c (I64 y.2)))],[])),
   (fun y=>hygref6_round.l0 y.1 m e 0 y.2 = some v),(fun y=>y.1),fun x _=>rfl,⟨(195,0),hr,⟨rfl,rfl,rfl,rfl,trivial⟩,trivial⟩,?_⟩
  rintro ⟨k,i⟩ hr
  replace hr : hygref6_round.l0 k m e 0 i = some v:=hr
  cases k with
  | zero=>cases hr
  | succ k =>
   rw [hygref6_round.l0] at hr
   simp only [rw64,bits_and,bits_or] at hr
   replace hr:=itp hr (x64_r _).1
   conv=>whnf
   refine ⟨(x64_r _).1,?_⟩;conv=>whnf
   refine Ask.i (fun b1=>?_) (fun b1=>?_)
   ·try simp only [fdn] at b1
    replace hr:=itp hr (of_decide_eq_true b1)
    conv=>whnf
    exact ⟨(k,w64 (i + 1)),hr,Nat.lt_succ_self k,⟨rfl,rfl,rfl,rfl,trivial⟩,trivial⟩
   try simp only [fdn] at b1
   replace hr:=itn hr (of_decide_eq_false b1)
   conv=>whnf
   refine Ask.i (fun c1=>?_) (fun c1=>?_)
   ·try simp only [fdn] at c1
    replace hr:=itp hr (of_decide_eq_true c1)
    conv=>whnf
    refine Ask.i (fun c2=>?_) (fun c2=>?_)
    ·try simp only [fdn] at c2
     replace hr:=itp hr (of_decide_eq_true c2)
     conv=>whnf
     exact fin hk (congrArg (fun z : Int=>SV.u (.c (U64 z))) ((Option.some.inj hr).symm.trans (by first | rfl | (simp only [fdn]; rfl))))
    try simp only [fdn] at c2
    replace hr:=itn hr (of_decide_eq_false c2)
    conv=>whnf
    refine Ask.i (fun c3=>?_) (fun c3=>?_)
    ·try simp only [fdn] at c3
     replace hr:=itp hr (of_decide_eq_true c3)
     conv=>whnf
     refine ⟨(x64_r _).1,?_⟩;conv=>whnf
     refine ⟨(x64_r _).1,?_⟩;conv=>whnf
     replace hr:=itp (itp hr (x64_r _).1) (x64_r _).1
     refine ⟨(x64_r _).1,?_⟩;conv=>whnf
     refine Ask.i (fun g1=>?_) (fun g1=>?_)
     ·try simp only [fdn] at g1
      replace hr:=itp hr (of_decide_eq_true g1)
      conv=>whnf
      obtain ⟨k,rfl⟩:=j2_pos hr
      rw [hygref6_round.j2] at hr
      simp only [rw64,bits_and,bits_or] at hr
      refine ⟨by decide,?_⟩;conv=>whnf
      refine Ask.i (fun t1=>?_) (fun t1=>?_)
      ·try simp only [fdn] at t1
       replace hr:=itp hr (eq_of_beq t1)
       conv=>whnf
       refine ⟨by decide,?_⟩;conv=>whnf
       obtain ⟨k,rfl⟩:=j3_pos hr
       rw [hygref6_round.j3] at hr
       simp only [rw64,bits_and,bits_or] at hr
       refine ⟨by decide,?_⟩;conv=>whnf
       refine Ask.i (fun t2=>?_) (fun t2=>?_)
       ·try simp only [fdn] at t2
        replace hr:=itp hr (eq_of_beq t2)
        conv=>whnf
        exact fin hk (congrArg (fun z : Int=>SV.u (.c (U64 z))) ((Option.some.inj hr).symm.trans (by first | rfl | (simp only [fdn]; rfl))))
       try simp only [fdn] at t2
       replace hr:=itn hr (ne_of_beq_false t2)
       conv=>whnf
       refine Ask.i (fun t3=>?_) (fun t3=>?_)
       ·try simp only [fdn] at t3
        replace hr:=itp hr (of_decide_eq_true t3)
        conv=>whnf
        exact fin hk (congrArg (fun z : Int=>SV.u (.c (U64 z))) ((Option.some.inj hr).symm.trans (by first | rfl | (simp only [fdn]; rfl))))
       try simp only [fdn] at t3
       replace hr:=itn hr (of_decide_eq_false t3)
       conv=>whnf
       refine ⟨by decide,?_⟩;conv=>whnf
       exact fin hk (congrArg (fun z : Int=>SV.u (.c (U64 z))) ((Option.some.inj hr).symm.trans (by first | rfl | (simp only [fdn]; rfl))))
      try simp only [fdn] at t1
      replace hr:=itn hr (ne_of_beq_false t1)
      conv=>whnf
      obtain ⟨k,rfl⟩:=j3_pos hr
      rw [hygref6_round.j3] at hr
      simp only [rw64,bits_and,bits_or] at hr
      refine ⟨by decide,?_⟩;conv=>whnf
      refine Ask.i (fun t2=>?_) (fun t2=>?_)
      ·try simp only [fdn] at t2
       replace hr:=itp hr (eq_of_beq t2)
       conv=>whnf
       exact fin hk (congrArg (fun z : Int=>SV.u (.c (U64 z))) ((Option.some.inj hr).symm.trans (by first | rfl | (simp only [fdn]; rfl))))
      try simp only [fdn] at t2
      replace hr:=itn hr (ne_of_beq_false t2)
      conv=>whnf
      refine Ask.i (fun t3=>?_) (fun t3=>?_)
      ·try simp only [fdn] at t3
       replace hr:=itp hr (of_decide_eq_true t3)
       conv=>whnf
       exact fin hk (congrArg (fun z : Int=>SV.u (.c (U64 z))) ((Option.some.inj hr).symm.trans (by first | rfl | (simp only [fdn]; rfl))))
      try simp only [fdn] at t3
      replace hr:=itn hr (of_decide_eq_false t3)
      conv=>whnf
      refine ⟨by decide,?_⟩;conv=>whnf
      exact fin hk (congrArg (fun z : Int=>SV.u (.c (U64 z))) ((Option.some.inj hr).symm.trans (by first | rfl | (simp only [fdn]; rfl))))
     try simp only [fdn] at g1
     replace hr:=itn hr (of_decide_eq_false g1)
     conv=>whnf
     refine Ask.i (fun g2=>?_) (fun g2=>?_)
     ·try simp only [fdn] at g2
      replace hr:=itp hr (eq_of_beq g2)
      conv=>whnf
      refine Ask.i (fun g3=>?_) (fun g3=>?_)
      ·try simp only [fdn] at g3
       replace hr:=itp hr (eq_of_beq g3)
       conv=>whnf
       obtain ⟨k,rfl⟩:=j2_pos hr
       rw [hygref6_round.j2] at hr
       simp only [rw64,bits_and,bits_or] at hr
       refine ⟨by decide,?_⟩;conv=>whnf
       refine Ask.i (fun t1=>?_) (fun t1=>?_)
       ·try simp only [fdn] at t1
        replace hr:=itp hr (eq_of_beq t1)
        conv=>whnf
        refine ⟨by decide,?_⟩;conv=>whnf
        obtain ⟨k,rfl⟩:=j3_pos hr
        rw [hygref6_round.j3] at hr
        simp only [rw64,bits_and,bits_or] at hr
        refine ⟨by decide,?_⟩;conv=>whnf
        refine Ask.i (fun t2=>?_) (fun t2=>?_)
        ·try simp only [fdn] at t2
         replace hr:=itp hr (eq_of_beq t2)
         conv=>whnf
         exact fin hk (congrArg (fun z : Int=>SV.u (.c (U64 z))) ((Option.some.inj hr).symm.trans (by first | rfl | (simp only [fdn]; rfl))))
        try simp only [fdn] at t2
        replace hr:=itn hr (ne_of_beq_false t2)
        conv=>whnf
        refine Ask.i (fun t3=>?_) (fun t3=>?_)
        ·try simp only [fdn] at t3
         replace hr:=itp hr (of_decide_eq_true t3)
         conv=>whnf
         exact fin hk (congrArg (fun z : Int=>SV.u (.c (U64 z))) ((Option.some.inj hr).symm.trans (by first | rfl | (simp only [fdn]; rfl))))
        try simp only [fdn] at t3
        replace hr:=itn hr (of_decide_eq_false t3)
        conv=>whnf
        refine ⟨by decide,?_⟩;conv=>whnf
        exact fin hk (congrArg (fun z : Int=>SV.u (.c (U64 z))) ((Option.some.inj hr).symm.trans (by first | rfl | (simp only [fdn]; rfl))))
       try simp only [fdn] at t1
       replace hr:=itn hr (ne_of_beq_false t1)
       conv=>whnf
       obtain ⟨k,rfl⟩:=j3_pos hr
       rw [hygref6_round.j3] at hr
       simp only [rw64,bits_and,bits_or] at hr
       refine ⟨by decide,?_⟩;conv=>whnf
       refine Ask.i (fun t2=>?_) (fun t2=>?_)
       ·try simp only [fdn] at t2
        replace hr:=itp hr (eq_of_beq t2)
        conv=>whnf
        exact fin hk (congrArg (fun z : Int=>SV.u (.c (U64 z))) ((Option.some.inj hr).symm.trans (by first | rfl | (simp only [fdn]; rfl))))
       try simp only [fdn] at t2
       replace hr:=itn hr (ne_of_beq_false t2)
       conv=>whnf
       refine Ask.i (fun t3=>?_) (fun t3=>?_)
       ·try simp only [fdn] at t3
        replace hr:=itp hr (of_decide_eq_true t3)
        conv=>whnf
        exact fin hk (congrArg (fun z : Int=>SV.u (.c (U64 z))) ((Option.some.inj hr).symm.trans (by first | rfl | (simp only [fdn]; rfl))))
       try simp only [fdn] at t3
       replace hr:=itn hr (of_decide_eq_false t3)
       conv=>whnf
       refine ⟨by decide,?_⟩;conv=>whnf
       exact fin hk (congrArg (fun z : Int=>SV.u (.c (U64 z))) ((Option.some.inj hr).symm.trans (by first | rfl | (simp only [fdn]; rfl))))
      try simp only [fdn] at g3
      replace hr:=itn hr (ne_of_beq_false g3)
      conv=>whnf
      obtain ⟨k,rfl⟩:=j2_pos hr
      rw [hygref6_round.j2] at hr
      simp only [rw64,bits_and,bits_or] at hr
      refine ⟨by decide,?_⟩;conv=>whnf
      refine Ask.i (fun t1=>?_) (fun t1=>?_)
      ·try simp only [fdn] at t1
       replace hr:=itp hr (eq_of_beq t1)
       conv=>whnf
       refine ⟨by decide,?_⟩;conv=>whnf
       obtain ⟨k,rfl⟩:=j3_pos hr
       rw [hygref6_round.j3] at hr
       simp only [rw64,bits_and,bits_or] at hr
       refine ⟨by decide,?_⟩;conv=>whnf
       refine Ask.i (fun t2=>?_) (fun t2=>?_)
       ·try simp only [fdn] at t2
        replace hr:=itp hr (eq_of_beq t2)
        conv=>whnf
        exact fin hk (congrArg (fun z : Int=>SV.u (.c (U64 z))) ((Option.some.inj hr).symm.trans (by first | rfl | (simp only [fdn]; rfl))))
       try simp only [fdn] at t2
       replace hr:=itn hr (ne_of_beq_false t2)
       conv=>whnf
       refine Ask.i (fun t3=>?_) (fun t3=>?_)
       ·try simp only [fdn] at t3
        replace hr:=itp hr (of_decide_eq_true t3)
        conv=>whnf
        exact fin hk (congrArg (fun z : Int=>SV.u (.c (U64 z))) ((Option.some.inj hr).symm.trans (by first | rfl | (simp only [fdn]; rfl))))
       try simp only [fdn] at t3
       replace hr:=itn hr (of_decide_eq_false t3)
       conv=>whnf
       refine ⟨by decide,?_⟩;conv=>whnf
       exact fin hk (congrArg (fun z : Int=>SV.u (.c (U64 z))) ((Option.some.inj hr).symm.trans (by first | rfl | (simp only [fdn]; rfl))))
      try simp only [fdn] at t1
      replace hr:=itn hr (ne_of_beq_false t1)
      conv=>whnf
      obtain ⟨k,rfl⟩:=j3_pos hr
      rw [hygref6_round.j3] at hr
      simp only [rw64,bits_and,bits_or] at hr
      refine ⟨by decide,?_⟩;conv=>whnf
      refine Ask.i (fun t2=>?_) (fun t2=>?_)
      ·try simp only [fdn] at t2
       replace hr:=itp hr (eq_of_beq t2)
       conv=>whnf
       exact fin hk (congrArg (fun z : Int=>SV.u (.c (U64 z))) ((Option.some.inj hr).symm.trans (by first | rfl | (simp only [fdn]; rfl))))
      try simp only [fdn] at t2
      replace hr:=itn hr (ne_of_beq_false t2)
      conv=>whnf
      refine Ask.i (fun t3=>?_) (fun t3=>?_)
      ·try simp only [fdn] at t3
       replace hr:=itp hr (of_decide_eq_true t3)
       conv=>whnf
       exact fin hk (congrArg (fun z : Int=>SV.u (.c (U64 z))) ((Option.some.inj hr).symm.trans (by first | rfl | (simp only [fdn]; rfl))))
      try simp only [fdn] at t3
      replace hr:=itn hr (of_decide_eq_false t3)
      conv=>whnf
      refine ⟨by decide,?_⟩;conv=>whnf
      exact fin hk (congrArg (fun z : Int=>SV.u (.c (U64 z))) ((Option.some.inj hr).symm.trans (by first | rfl | (simp only [fdn]; rfl))))
     try simp only [fdn] at g2
     replace hr:=itn hr (ne_of_beq_false g2)
     conv=>whnf
     obtain ⟨k,rfl⟩:=j2_pos hr
     rw [hygref6_round.j2] at hr
     simp only [rw64,bits_and,bits_or] at hr
     refine ⟨by decide,?_⟩;conv=>whnf
     refine Ask.i (fun t1=>?_) (fun t1=>?_)
     ·try simp only [fdn] at t1
      replace hr:=itp hr (eq_of_beq t1)
      conv=>whnf
      refine ⟨by decide,?_⟩;conv=>whnf
      obtain ⟨k,rfl⟩:=j3_pos hr
      rw [hygref6_round.j3] at hr
      simp only [rw64,bits_and,bits_or] at hr
      refine ⟨by decide,?_⟩;conv=>whnf
      refine Ask.i (fun t2=>?_) (fun t2=>?_)
      ·try simp only [fdn] at t2
       replace hr:=itp hr (eq_of_beq t2)
       conv=>whnf
       exact fin hk (congrArg (fun z : Int=>SV.u (.c (U64 z))) ((Option.some.inj hr).symm.trans (by first | rfl | (simp only [fdn]; rfl))))
      try simp only [fdn] at t2
      replace hr:=itn hr (ne_of_beq_false t2)
      conv=>whnf
      refine Ask.i (fun t3=>?_) (fun t3=>?_)
      ·try simp only [fdn] at t3
       replace hr:=itp hr (of_decide_eq_true t3)
       conv=>whnf
       exact fin hk (congrArg (fun z : Int=>SV.u (.c (U64 z))) ((Option.some.inj hr).symm.trans (by first | rfl | (simp only [fdn]; rfl))))
      try simp only [fdn] at t3
      replace hr:=itn hr (of_decide_eq_false t3)
      conv=>whnf
      refine ⟨by decide,?_⟩;conv=>whnf
      exact fin hk (congrArg (fun z : Int=>SV.u (.c (U64 z))) ((Option.some.inj hr).symm.trans (by first | rfl | (simp only [fdn]; rfl))))
     try simp only [fdn] at t1
     replace hr:=itn hr (ne_of_beq_false t1)
     conv=>whnf
     obtain ⟨k,rfl⟩:=j3_pos hr
     rw [hygref6_round.j3] at hr
     simp only [rw64,bits_and,bits_or] at hr
     refine ⟨by decide,?_⟩;conv=>whnf
     refine Ask.i (fun t2=>?_) (fun t2=>?_)
     ·try simp only [fdn] at t2
      replace hr:=itp hr (eq_of_beq t2)
      conv=>whnf
      exact fin hk (congrArg (fun z : Int=>SV.u (.c (U64 z))) ((Option.some.inj hr).symm.trans (by first | rfl | (simp only [fdn]; rfl))))
     try simp only [fdn] at t2
     replace hr:=itn hr (ne_of_beq_false t2)
     conv=>whnf
     refine Ask.i (fun t3=>?_) (fun t3=>?_)
     ·try simp only [fdn] at t3
      replace hr:=itp hr (of_decide_eq_true t3)
      conv=>whnf
      exact fin hk (congrArg (fun z : Int=>SV.u (.c (U64 z))) ((Option.some.inj hr).symm.trans (by first | rfl | (simp only [fdn]; rfl))))
     try simp only [fdn] at t3
     replace hr:=itn hr (of_decide_eq_false t3)
     conv=>whnf
     refine ⟨by decide,?_⟩;conv=>whnf
     exact fin hk (congrArg (fun z : Int=>SV.u (.c (U64 z))) ((Option.some.inj hr).symm.trans (by first | rfl | (simp only [fdn]; rfl))))
    try simp only [fdn] at c3
    replace hr:=itn hr (of_decide_eq_false c3)
    conv=>whnf
    replace hr:=itp hr (x64_r _).1
    refine ⟨(x64_r _).1,?_⟩;conv=>whnf
    refine Ask.i (fun g1=>?_) (fun g1=>?_)
    ·try simp only [fdn] at g1
     replace hr:=itp hr (of_decide_eq_true g1)
     conv=>whnf
     obtain ⟨k,rfl⟩:=j2_pos hr
     rw [hygref6_round.j2] at hr
     replace hr:=itn hr (by decide)
     refine ⟨by decide,?_⟩;conv=>whnf
     obtain ⟨k,rfl⟩:=j3_pos hr
     rw [hygref6_round.j3] at hr
     replace hr:=itp hr (by decide)
     refine ⟨by decide,?_⟩;conv=>whnf
     exact fin hk (congrArg (fun z : Int=>SV.u (.c (U64 z))) ((Option.some.inj hr).symm.trans (by first | rfl | (simp only [fdn]; rfl))))
    try simp only [fdn] at g1
    replace hr:=itn hr (of_decide_eq_false g1)
    conv=>whnf
    refine Ask.i (fun g2=>?_) (fun g2=>?_)
    ·try simp only [fdn] at g2
     replace hr:=itp hr (eq_of_beq g2)
     conv=>whnf
     replace hr:=itn hr (by decide)
     obtain ⟨k,rfl⟩:=j2_pos hr
     rw [hygref6_round.j2] at hr
     replace hr:=itn hr (by decide)
     refine ⟨by decide,?_⟩;conv=>whnf
     obtain ⟨k,rfl⟩:=j3_pos hr
     rw [hygref6_round.j3] at hr
     replace hr:=itp hr (by decide)
     refine ⟨by decide,?_⟩;conv=>whnf
     exact fin hk (congrArg (fun z : Int=>SV.u (.c (U64 z))) ((Option.some.inj hr).symm.trans (by first | rfl | (simp only [fdn]; rfl))))
    try simp only [fdn] at g2
    replace hr:=itn hr (ne_of_beq_false g2)
    conv=>whnf
    obtain ⟨k,rfl⟩:=j2_pos hr
    rw [hygref6_round.j2] at hr
    replace hr:=itn hr (by decide)
    refine ⟨by decide,?_⟩;conv=>whnf
    obtain ⟨k,rfl⟩:=j3_pos hr
    rw [hygref6_round.j3] at hr
    replace hr:=itp hr (by decide)
    refine ⟨by decide,?_⟩;conv=>whnf
    exact fin hk (congrArg (fun z : Int=>SV.u (.c (U64 z))) ((Option.some.inj hr).symm.trans (by first | rfl | (simp only [fdn]; rfl))))
   try simp only [fdn] at c1
   replace hr:=itn hr (of_decide_eq_false c1)
   conv=>whnf
   replace hr:=itp hr (x64_r _).1
   simp only [neg0] at hr
   refine ⟨(x64_r _).1,?_⟩;conv=>whnf
   obtain ⟨k,rfl⟩:=j2_pos hr
   rw [hygref6_round.j2] at hr
   simp only [rw64,bits_and,bits_or] at hr
   refine ⟨by decide,?_⟩;conv=>whnf
   refine Ask.i (fun t1=>?_) (fun t1=>?_)
   ·try simp only [fdn] at t1
    replace hr:=itp hr (eq_of_beq t1)
    conv=>whnf
    refine ⟨by decide,?_⟩;conv=>whnf
    obtain ⟨k,rfl⟩:=j3_pos hr
    rw [hygref6_round.j3] at hr
    simp only [rw64,bits_and,bits_or] at hr
    refine ⟨by decide,?_⟩;conv=>whnf
    refine Ask.i (fun t2=>?_) (fun t2=>?_)
    ·try simp only [fdn] at t2
     replace hr:=itp hr (eq_of_beq t2)
     conv=>whnf
     exact fin hk (congrArg (fun z : Int=>SV.u (.c (U64 z))) ((Option.some.inj hr).symm.trans (by first | rfl | (simp only [fdn]; rfl))))
    try simp only [fdn] at t2
    replace hr:=itn hr (ne_of_beq_false t2)
    conv=>whnf
    refine Ask.i (fun t3=>?_) (fun t3=>?_)
    ·try simp only [fdn] at t3
     replace hr:=itp hr (of_decide_eq_true t3)
     conv=>whnf
     exact fin hk (congrArg (fun z : Int=>SV.u (.c (U64 z))) ((Option.some.inj hr).symm.trans (by first | rfl | (simp only [fdn]; rfl))))
    try simp only [fdn] at t3
    replace hr:=itn hr (of_decide_eq_false t3)
    conv=>whnf
    refine ⟨by decide,?_⟩;conv=>whnf
    exact fin hk (congrArg (fun z : Int=>SV.u (.c (U64 z))) ((Option.some.inj hr).symm.trans (by first | rfl | (simp only [fdn]; rfl))))
   try simp only [fdn] at t1
   replace hr:=itn hr (ne_of_beq_false t1)
   conv=>whnf
   obtain ⟨k,rfl⟩:=j3_pos hr
   rw [hygref6_round.j3] at hr
   simp only [rw64,bits_and,bits_or] at hr
   refine ⟨by decide,?_⟩;conv=>whnf
   refine Ask.i (fun t2=>?_) (fun t2=>?_)
   ·try simp only [fdn] at t2
    replace hr:=itp hr (eq_of_beq t2)
    conv=>whnf
    exact fin hk (congrArg (fun z : Int=>SV.u (.c (U64 z))) ((Option.some.inj hr).symm.trans (by first | rfl | (simp only [fdn]; rfl))))
   try simp only [fdn] at t2
   replace hr:=itn hr (ne_of_beq_false t2)
   conv=>whnf
   refine Ask.i (fun t3=>?_) (fun t3=>?_)
   ·try simp only [fdn] at t3
    replace hr:=itp hr (of_decide_eq_true t3)
    conv=>whnf
    exact fin hk (congrArg (fun z : Int=>SV.u (.c (U64 z))) ((Option.some.inj hr).symm.trans (by first | rfl | (simp only [fdn]; rfl))))
   try simp only [fdn] at t3
   replace hr:=itn hr (of_decide_eq_false t3)
   conv=>whnf
   refine ⟨by decide,?_⟩;conv=>whnf
   exact fin hk (congrArg (fun z : Int=>SV.u (.c (U64 z))) ((Option.some.inj hr).symm.trans (by first | rfl | (simp only [fdn]; rfl))))
 exact hk.elim
end Sx
