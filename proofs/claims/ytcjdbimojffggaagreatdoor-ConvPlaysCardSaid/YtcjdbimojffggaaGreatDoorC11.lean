/- Part of the proof: a machine of states for walks, and contracts of functions over it. Conditions: those that each theorem names. -/
import Derived.Test.YtcjdbimojffggaaGreatDoorC10
import Derived.Test.YtcjdbimojffggaaGreatDoorProg
import Derived.Test.YtcjdbimojffggaaGreatDoorCode
set_option linter.unusedVariables false
set_option linter.unusedSimpArgs false
namespace Sx
open Go Go.Proofs
set_option maxRecDepth 100000
def tab : List (Nat × TI):=[
 (1,⟨.other,[.oth],[.nilFunc],8⟩),
 (2,⟨.cell (.int .i64),[.int .i64],[.int .i64 0],8⟩),
 (3,⟨.cell (.int .i64),[.int .i64],[.int .i64 0],8⟩),
 (4,⟨.cell (.bool),[.bool],[.bool false],1⟩),
 (6,⟨.cell (.int .u8),[.int .u8],[.int .u8 0],1⟩),
 (9,⟨.cell (.str),[.str],[.string ⟨#[]⟩],16⟩),
 (17,⟨.ptr 282,[.oth],[.pointer none],8⟩),
 (20,⟨.iface,[.oth],[.nilIface],16⟩),
 (21,⟨.cell (.int .i32),[.int .i32],[.int .i32 0],4⟩),
 (22,⟨.slice 48,[.sl 22],[.slice none 0 0],24⟩),
 (24,⟨.ptr 81,[.oth],[.pointer none],8⟩),
 (26,⟨.iface,[.oth],[.nilIface],16⟩),
 (30,⟨.slice 165,[.sl 30],[.slice none 0 0],24⟩),
 (31,⟨.cell (.int .u64),[.int .u64],[.int .u64 0],8⟩),
 (32,⟨.slice 160,[.sl 32],[.slice none 0 0],24⟩),
 (33,⟨.cell (.int .u32),[.int .u32],[.int .u32 0],4⟩),
 (35,⟨.struct [(0,30),(1,31),(2,31),(3,3),(4,31),(5,32),(6,33),(7,9)],[.sl 30,.int .u64,.int .u64,.int .i64,.int .u64,.sl 32,.int .u32,.str],[.slice none 0 0,.int .u64 0,.int .u64 0,.int .i64 0,.int .u64 0,.slice none 0 0,.int .u32 0,.string ⟨#[]⟩],104⟩),
 (37,⟨.struct [(0,4),(1,31)],[.bool,.int .u64],[.bool false,.int .u64 0],16⟩),
 (38,⟨.slice 31,[.sl 38],[.slice none 0 0],24⟩),
 (40,⟨.struct [(0,30),(1,31),(2,31),(3,31),(4,37),(6,37),(8,37),(10,38),(11,38),(12,32),(13,33),(14,9)],[.sl 30,.int .u64,.int .u64,.int .u64,.bool,.int .u64,.bool,.int .u64,.bool,.int .u64,.sl 38,.sl 38,.sl 32,.int .u32,.str],[.slice none 0 0,.int .u64 0,.int .u64 0,.int .u64 0,.bool false,.int .u64 0,.bool false,.int .u64 0,.bool false,.int .u64 0,.slice none 0 0,.slice none 0 0,.slice none 0 0,.int .u32 0,.string ⟨#[]⟩],192⟩),
 (42,⟨.struct [(0,21),(1,38),(2,9)],[.int .i32,.sl 38,.str],[.int .i32 0,.slice none 0 0,.string ⟨#[]⟩],48⟩),
 (44,⟨.struct [(0,30),(1,31),(2,31),(3,31),(4,37),(6,37),(8,37),(10,21),(11,31),(12,4),(13,42),(16,4),(17,42),(20,32),(21,33),(22,31),(23,9)],[.sl 30,.int .u64,.int .u64,.int .u64,.bool,.int .u64,.bool,.int .u64,.bool,.int .u64,.int .i32,.int .u64,.bool,.int .i32,.sl 38,.str,.bool,.int .i32,.sl 38,.str,.sl 32,.int .u32,.int .u64,.str],[.slice none 0 0,.int .u64 0,.int .u64 0,.int .u64 0,.bool false,.int .u64 0,.bool false,.int .u64 0,.bool false,.int .u64 0,.int .i32 0,.int .u64 0,.bool false,.int .i32 0,.slice none 0 0,.string ⟨#[]⟩,.bool false,.int .i32 0,.slice none 0 0,.string ⟨#[]⟩,.slice none 0 0,.int .u32 0,.int .u64 0,.string ⟨#[]⟩],280⟩),
 (46,⟨.struct [(0,3),(1,35),(9,40),(24,44)],[.int .i64,.sl 30,.int .u64,.int .u64,.int .i64,.int .u64,.sl 32,.int .u32,.str,.sl 30,.int .u64,.int .u64,.int .u64,.bool,.int .u64,.bool,.int .u64,.bool,.int .u64,.sl 38,.sl 38,.sl 32,.int .u32,.str,.sl 30,.int .u64,.int .u64,.int .u64,.bool,.int .u64,.bool,.int .u64,.bool,.int .u64,.int .i32,.int .u64,.bool,.int .i32,.sl 38,.str,.bool,.int .i32,.sl 38,.str,.sl 32,.int .u32,.int .u64,.str],[.int .i64 0,.slice none 0 0,.int .u64 0,.int .u64 0,.int .i64 0,.int .u64 0,.slice none 0 0,.int .u32 0,.string ⟨#[]⟩,.slice none 0 0,.int .u64 0,.int .u64 0,.int .u64 0,.bool false,.int .u64 0,.bool false,.int .u64 0,.bool false,.int .u64 0,.slice none 0 0,.slice none 0 0,.slice none 0 0,.int .u32 0,.string ⟨#[]⟩,.slice none 0 0,.int .u64 0,.int .u64 0,.int .u64 0,.bool false,.int .u64 0,.bool false,.int .u64 0,.bool false,.int .u64 0,.int .i32 0,.int .u64 0,.bool false,.int .i32 0,.slice none 0 0,.string ⟨#[]⟩,.bool false,.int .i32 0,.slice none 0 0,.string ⟨#[]⟩,.slice none 0 0,.int .u32 0,.int .u64 0,.string ⟨#[]⟩],584⟩),
 (48,⟨.struct [(0,3),(1,9),(2,4),(3,46)],[.int .i64,.str,.bool,.int .i64,.sl 30,.int .u64,.int .u64,.int .i64,.int .u64,.sl 32,.int .u32,.str,.sl 30,.int .u64,.int .u64,.int .u64,.bool,.int .u64,.bool,.int .u64,.bool,.int .u64,.sl 38,.sl 38,.sl 32,.int .u32,.str,.sl 30,.int .u64,.int .u64,.int .u64,.bool,.int .u64,.bool,.int .u64,.bool,.int .u64,.int .i32,.int .u64,.bool,.int .i32,.sl 38,.str,.bool,.int .i32,.sl 38,.str,.sl 32,.int .u32,.int .u64,.str],[.int .i64 0,.string ⟨#[]⟩,.bool false,.int .i64 0,.slice none 0 0,.int .u64 0,.int .u64 0,.int .i64 0,.int .u64 0,.slice none 0 0,.int .u32 0,.string ⟨#[]⟩,.slice none 0 0,.int .u64 0,.int .u64 0,.int .u64 0,.bool false,.int .u64 0,.bool false,.int .u64 0,.bool false,.int .u64 0,.slice none 0 0,.slice none 0 0,.slice none 0 0,.int .u32 0,.string ⟨#[]⟩,.slice none 0 0,.int .u64 0,.int .u64 0,.int .u64 0,.bool false,.int .u64 0,.bool false,.int .u64 0,.bool false,.int .u64 0,.int .i32 0,.int .u64 0,.bool false,.int .i32 0,.slice none 0 0,.string ⟨#[]⟩,.bool false,.int .i32 0,.slice none 0 0,.string ⟨#[]⟩,.slice none 0 0,.int .u32 0,.int .u64 0,.string ⟨#[]⟩],616⟩),
 (55,⟨.struct [(0,3),(1,35),(9,40),(24,44)],[.int .i64,.sl 30,.int .u64,.int .u64,.int .i64,.int .u64,.sl 32,.int .u32,.str,.sl 30,.int .u64,.int .u64,.int .u64,.bool,.int .u64,.bool,.int .u64,.bool,.int .u64,.sl 38,.sl 38,.sl 32,.int .u32,.str,.sl 30,.int .u64,.int .u64,.int .u64,.bool,.int .u64,.bool,.int .u64,.bool,.int .u64,.int .i32,.int .u64,.bool,.int .i32,.sl 38,.str,.bool,.int .i32,.sl 38,.str,.sl 32,.int .u32,.int .u64,.str],[.int .i64 0,.slice none 0 0,.int .u64 0,.int .u64 0,.int .i64 0,.int .u64 0,.slice none 0 0,.int .u32 0,.string ⟨#[]⟩,.slice none 0 0,.int .u64 0,.int .u64 0,.int .u64 0,.bool false,.int .u64 0,.bool false,.int .u64 0,.bool false,.int .u64 0,.slice none 0 0,.slice none 0 0,.slice none 0 0,.int .u32 0,.string ⟨#[]⟩,.slice none 0 0,.int .u64 0,.int .u64 0,.int .u64 0,.bool false,.int .u64 0,.bool false,.int .u64 0,.bool false,.int .u64 0,.int .i32 0,.int .u64 0,.bool false,.int .i32 0,.slice none 0 0,.string ⟨#[]⟩,.bool false,.int .i32 0,.slice none 0 0,.string ⟨#[]⟩,.slice none 0 0,.int .u32 0,.int .u64 0,.string ⟨#[]⟩],584⟩),
 (57,⟨.slice 9,[.sl 57],[.slice none 0 0],24⟩),
 (60,⟨.ptr 103,[.oth],[.pointer none],8⟩),
 (61,⟨.cell (.int .i64),[.int .i64],[.int .i64 0],8⟩),
 (74,⟨.slice 35,[.sl 74],[.slice none 0 0],24⟩),
 (79,⟨.map 9 85,[.oth],[.map none],8⟩),
 (81,⟨.struct [(0,3),(1,3),(2,3),(3,3),(4,79)],[.int .i64,.int .i64,.int .i64,.int .i64,.oth],[.int .i64 0,.int .i64 0,.int .i64 0,.int .i64 0,.map none],40⟩),
 (85,⟨.struct [(0,46),(48,3)],[.int .i64,.sl 30,.int .u64,.int .u64,.int .i64,.int .u64,.sl 32,.int .u32,.str,.sl 30,.int .u64,.int .u64,.int .u64,.bool,.int .u64,.bool,.int .u64,.bool,.int .u64,.sl 38,.sl 38,.sl 32,.int .u32,.str,.sl 30,.int .u64,.int .u64,.int .u64,.bool,.int .u64,.bool,.int .u64,.bool,.int .u64,.int .i32,.int .u64,.bool,.int .i32,.sl 38,.str,.bool,.int .i32,.sl 38,.str,.sl 32,.int .u32,.int .u64,.str,.int .i64],[.int .i64 0,.slice none 0 0,.int .u64 0,.int .u64 0,.int .i64 0,.int .u64 0,.slice none 0 0,.int .u32 0,.string ⟨#[]⟩,.slice none 0 0,.int .u64 0,.int .u64 0,.int .u64 0,.bool false,.int .u64 0,.bool false,.int .u64 0,.bool false,.int .u64 0,.slice none 0 0,.slice none 0 0,.slice none 0 0,.int .u32 0,.string ⟨#[]⟩,.slice none 0 0,.int .u64 0,.int .u64 0,.int .u64 0,.bool false,.int .u64 0,.bool false,.int .u64 0,.bool false,.int .u64 0,.int .i32 0,.int .u64 0,.bool false,.int .i32 0,.slice none 0 0,.string ⟨#[]⟩,.bool false,.int .i32 0,.slice none 0 0,.string ⟨#[]⟩,.slice none 0 0,.int .u32 0,.int .u64 0,.string ⟨#[]⟩,.int .i64 0],592⟩),
 (96,⟨.other,[.oth],[.nilFunc],8⟩),
 (99,⟨.other,[.oth],[.nilFunc],8⟩),
 (101,⟨.slice 110,[.sl 101],[.slice none 0 0],24⟩),
 (103,⟨.struct [(0,3),(1,3),(2,3),(3,3),(4,101)],[.int .i64,.int .i64,.int .i64,.int .i64,.sl 101],[.int .i64 0,.int .i64 0,.int .i64 0,.int .i64 0,.slice none 0 0],56⟩),
 (105,⟨.ptr 61,[.oth],[.pointer none],8⟩),
 (110,⟨.struct [(0,9),(1,55),(49,3)],[.str,.int .i64,.sl 30,.int .u64,.int .u64,.int .i64,.int .u64,.sl 32,.int .u32,.str,.sl 30,.int .u64,.int .u64,.int .u64,.bool,.int .u64,.bool,.int .u64,.bool,.int .u64,.sl 38,.sl 38,.sl 32,.int .u32,.str,.sl 30,.int .u64,.int .u64,.int .u64,.bool,.int .u64,.bool,.int .u64,.bool,.int .u64,.int .i32,.int .u64,.bool,.int .i32,.sl 38,.str,.bool,.int .i32,.sl 38,.str,.sl 32,.int .u32,.int .u64,.str,.int .i64],[.string ⟨#[]⟩,.int .i64 0,.slice none 0 0,.int .u64 0,.int .u64 0,.int .i64 0,.int .u64 0,.slice none 0 0,.int .u32 0,.string ⟨#[]⟩,.slice none 0 0,.int .u64 0,.int .u64 0,.int .u64 0,.bool false,.int .u64 0,.bool false,.int .u64 0,.bool false,.int .u64 0,.slice none 0 0,.slice none 0 0,.slice none 0 0,.int .u32 0,.string ⟨#[]⟩,.slice none 0 0,.int .u64 0,.int .u64 0,.int .u64 0,.bool false,.int .u64 0,.bool false,.int .u64 0,.bool false,.int .u64 0,.int .i32 0,.int .u64 0,.bool false,.int .i32 0,.slice none 0 0,.string ⟨#[]⟩,.bool false,.int .i32 0,.slice none 0 0,.string ⟨#[]⟩,.slice none 0 0,.int .u32 0,.int .u64 0,.string ⟨#[]⟩,.int .i64 0],608⟩),
 (118,⟨.other,[.oth],[.nilFunc],8⟩),
 (138,⟨.other,[.oth],[.pointer none],8⟩),
 (139,⟨.cell (.int .u64),[.int .u64],[.int .u64 0],8⟩),
 (141,⟨.struct [(0,17),(1,138),(2,139)],[.oth,.oth,.int .u64],[.pointer none,.pointer none,.int .u64 0],24⟩),
 (144,⟨.iface,[.oth],[.nilIface],16⟩),
 (146,⟨.cell (.int .u8),[.int .u8],[.int .u8 0],1⟩),
 (160,⟨.struct [(0,30),(1,31),(2,3),(3,31),(4,9),(5,9),(6,9)],[.sl 30,.int .u64,.int .i64,.int .u64,.str,.str,.str],[.slice none 0 0,.int .u64 0,.int .i64 0,.int .u64 0,.string ⟨#[]⟩,.string ⟨#[]⟩,.string ⟨#[]⟩],96⟩),
 (161,⟨.slice 163,[.sl 161],[.slice none 0 0],24⟩),
 (163,⟨.struct [(0,3),(1,9),(2,4),(3,31),(4,161),(5,30),(6,9),(7,9)],[.int .i64,.str,.bool,.int .u64,.sl 161,.sl 30,.str,.str],[.int .i64 0,.string ⟨#[]⟩,.bool false,.int .u64 0,.slice none 0 0,.slice none 0 0,.string ⟨#[]⟩,.string ⟨#[]⟩],120⟩),
 (165,⟨.struct [(0,9),(1,4),(2,163),(10,9)],[.str,.bool,.int .i64,.str,.bool,.int .u64,.sl 161,.sl 30,.str,.str,.str],[.string ⟨#[]⟩,.bool false,.int .i64 0,.string ⟨#[]⟩,.bool false,.int .u64 0,.slice none 0 0,.slice none 0 0,.string ⟨#[]⟩,.string ⟨#[]⟩,.string ⟨#[]⟩],160⟩),
 (171,⟨.cell (.int .u64),[.int .u64],[.int .u64 0],8⟩),
 (176,⟨.other,[.oth],[.nilFunc],8⟩),
 (181,⟨.struct [(0,4)],[.bool],[.bool false],1⟩),
 (183,⟨.ptr 44,[.oth],[.pointer none],8⟩),
 (185,⟨.struct [(0,3),(1,38)],[.int .i64,.sl 38],[.int .i64 0,.slice none 0 0],32⟩),
 (191,⟨.struct [(0,185),(2,185)],[.int .i64,.sl 38,.int .i64,.sl 38],[.int .i64 0,.slice none 0 0,.int .i64 0,.slice none 0 0],64⟩),
 (211,⟨.slice 26,[.sl 211],[.slice none 0 0],24⟩),
 (220,⟨.array 3 37,[.bool,.int .u64,.bool,.int .u64,.bool,.int .u64],[.bool false,.int .u64 0,.bool false,.int .u64 0,.bool false,.int .u64 0],48⟩),
 (226,⟨.other,[.oth],[.nilFunc],8⟩),
 (228,⟨.ptr 181,[.oth],[.pointer none],8⟩),
 (232,⟨.slice 185,[.sl 232],[.slice none 0 0],24⟩),
 (235,⟨.cell (.int .i64),[.int .i64],[.int .i64 0],8⟩),
 (244,⟨.slice 251,[.sl 244],[.slice none 0 0],24⟩),
 (251,⟨.struct [(0,3),(1,31)],[.int .i64,.int .u64],[.int .i64 0,.int .u64 0],16⟩),
 (254,⟨.struct [(0,3),(1,31)],[.int .i64,.int .u64],[.int .i64 0,.int .u64 0],16⟩)]
theorem tab_ok : tab.map (fun r=>ttOf Tryz.prog r.1) = tab.map (fun r=>some r.2):=by kernel_rfl
theorem tab_of {P : Program} : ∀ {l : List (Nat × TI)},l.map (fun r=>ttOf P r.1) = l.map (fun r=>some r.2) → TOk P (lookT l)
 | [],_,t,i,h=>by simp [lookT] at h
 | (k,v) :: l,hl,t,i,h=>by
  simp only [List.map_cons,List.cons.injEq] at hl
  simp only [lookT] at h
  cases hb : t.beq k with
  | true =>
   rw [hb] at h
   simp only [cond_true,Option.some.injEq] at h
   rw [Nat.eq_of_beq_eq_true hb,← h]
   exact hl.1
  | false =>
   rw [hb] at h
   exact tab_of hl.2 t i h
noncomputable def B (sp : List (FuncId × Spec)) : Pr:={ P:=Tryz.prog,tt:=lookT tab,specs:=sp }
theorem BT (sp : List (FuncId × Spec)) : TOk (B sp).P (B sp).tt:=tab_of tab_ok
end Sx
namespace Sx
open Go Go.Proofs
abbrev I64 (n : Int) : C:=.v (.int .i64 n)
abbrev I32 (n : Int) : C:=.v (.int .i32 n)
abbrev U64 (n : Int) : C:=.v (.int .u64 n)
abbrev U32 (n : Int) : C:=.v (.int .u32 n)
abbrev Bo (b : Bool) : C:=.v (.bool b)
abbrev St (s : ByteArray) : C:=.v (.string s)
abbrev w64 (n : Int) : Int:=IntKind.i64.wrap n
abbrev x64 (n : Int) : Int:=IntKind.u64.wrap n
abbrev w32 (n : Int) : Int:=IntKind.i32.wrap n
noncomputable abbrev PR : Program:=(B []).P
noncomputable abbrev TB : Tab:=(B []).T
def one (c : C) : Out SV:=.ret (.u (.c c))
def agg (l : List C) : Out SV:=.ret (.u (.a l))
def Ok (G : Glob) (f : FuncId) (g : List U → Out SV) : Prop:=Entr PR f ∧ SoundP PR TB G f g
def OkF (G : Glob) (f : FuncId) (g : List U → List Blk → Out (SV × List (Option Blk) × List Blk)) : Prop:=Entr PR f ∧ SoundF PR TB G f g
theorem noneS {G : Glob} : AllSound (B []) G:=fun f sp h=>by cases h
theorem AllSound.cons {G : Glob} {sp : List (FuncId × Spec)} {f : FuncId} {g : List U → Out SV} (tys : List TypeId) (h : Ok G f g) (hs : AllSound (B sp) G) : AllSound (B ((f,.pure (normG (B []) tys g)) :: sp)) G:=by
 intro n s hn
 simp only [B,lookT] at hn
 cases hb : n.beq f with
 | true =>
  rw [hb] at hn
  simp only [cond_true,Option.some.injEq] at hn
  obtain rfl:=Nat.eq_of_beq_eq_true hb
  subst hn
  exact ⟨h.1,SoundP.norm tys h.2⟩
 | false=>rw [hb] at hn; exact hs n s hn
theorem AllSound.consF {G : Glob} {sp : List (FuncId × Spec)} {f : FuncId} {g : List U → List Blk → Out (SV × List (Option Blk) × List Blk)} (tys : List TypeId) (h : OkF G f g) (hs : AllSound (B sp) G) : AllSound (B ((f,.full (normF (B []) tys g)) :: sp)) G:=by
 intro n s hn
 simp only [B,lookT] at hn
 cases hb : n.beq f with
 | true =>
  rw [hb] at hn
  simp only [cond_true,Option.some.injEq] at hn
  obtain rfl:=Nat.eq_of_beq_eq_true hb
  subst hn
  exact ⟨h.1,SoundF.norm tys h.2⟩
 | false=>rw [hb] at hn; exact hs n s hn
theorem okP {G : Glob} {sp : List (FuncId × Spec)} {f : FuncId} {fn : Func} {code : Code} {g : List U → Out SV} (hS : AllSound (B sp) G) (hf : PR.funcs[f]? = some fn) (hb : fn.body = some code) (hn : (fn.name == "runtime.NumGoroutine") = false)
  (hw : ∀ (K : SV → Prop) us,(g us).wp K → us.length ≤ fn.ntmps ∧ wpC (B sp) fn.ntmps code (argEnv us) (fun _=>none) (retP (B sp) fn.resultTypes.toList fn.results.toList K) (fun _ _ _=>False) (retP (B sp) fn.resultTypes.toList fn.results.toList K)) : Ok G f g :=
 sound_pure (S:=B sp) (BT sp) hS hf hb hn hw
theorem okF (keep : Bool) {G : Glob} {sp : List (FuncId × Spec)} {f : FuncId} {fn : Func} {code : Code} {g : List U → List Blk → Out (SV × List (Option Blk) × List Blk)} (hS : AllSound (B sp) G) (hf : PR.funcs[f]? = some fn) (hb : fn.body = some code) (hn : (fn.name == "runtime.NumGoroutine") = false)
  (hw : ∀ (K : SV × List (Option Blk) × List Blk → Prop) us lent,(g us lent).wp K → us.length ≤ fn.ntmps ∧ wpC (B sp) fn.ntmps code (argEnv us) (lentOwn lent) (retF (B sp) fn.resultTypes.toList fn.results.toList lent.length keep K) (fun _ _ _=>False) (retF (B sp) fn.resultTypes.toList fn.results.toList lent.length keep K)) : OkF G f g :=
 sound_full keep (S:=B sp) (BT sp) hS hf hb hn hw
theorem fin {ρ : Type} {K : ρ → Prop} {a b : ρ} (h : K a) (e : a = b) : K b:=e ▸ h
theorem mixed {sp : List (FuncId × Spec)} : (B sp).P.follows .mixedOrders = true:=by kernel_rfl
theorem wrap64 {n : Int} (h : -9223372036854775808 ≤ n ∧ n < 9223372036854775808) : IntKind.i64.wrap n = n:=by rw [IntKind.wrap_i64]; omega
theorem w64_eq {n : Int} (h : -9223372036854775808 ≤ n ∧ n < 9223372036854775808) : w64 n = n:=wrap64 h
end Sx
namespace Sx
open Go Go.Proofs
set_option maxRecDepth 4000
variable {G : Glob}
def rtrim : List Int → List Int
 | []=>[]
 | a :: l=>match rtrim l with | []=>if a = 0 then [] else [a] | r=>a :: r
def ltrim : Int → List Int → Int × List Int
 | f,[]=>(0,[])
 | f,a :: l=>if a = 0 then ltrim (w64 (f + 1)) l else (f,a :: l)
def trim (f : Int) (l : List Int) : Int × List Int:=ltrim f (rtrim l)
theorem rtrim_last (l : List Int) (h : l ≠ []) (h0 : l.getD (l.length - 1) 0 = 0) : rtrim (l.take (l.length - 1)) = rtrim l:=by
 induction l with
 | nil=>exact absurd rfl h
 | cons a l ih =>
  cases l with
  | nil=>simp at h0; simp [rtrim,h0]
  | cons b l =>
   have:=ih (by simp) (by simpa using h0)
   simp only [List.length_cons,Nat.add_sub_cancel,List.take_succ_cons] at this ⊢
   rw [rtrim,this]
   rfl
theorem rtrim_keep (l : List Int) (h0 : l = [] ∨ l.getD (l.length - 1) 0 ≠ 0) : rtrim l = l:=by
 induction l with
 | nil=>rfl
 | cons a l ih =>
  cases l with
  | nil=>simp at h0; simp [rtrim,h0]
  | cons b l =>
   have:=ih (.inr (by simpa using h0))
   rw [rtrim,this]
noncomputable def trimS : List U → Out SV
 | [.a [.v (.int .i64 f),.d 38 (.ints l)]]=>.need (l.length ≤ 68719476736) (agg [I64 (trim f l).1,.d 38 (.ints (trim f l).2)])
 | _=>.fail
theorem trim_ok : Ok G 141 trimS:=by
 refine okP noneS Tryz.func141 rfl (by decide) fun K us hk=>?_
 unfold trimS at hk
 split at hk
 ·rename_i f l
  refine ⟨by show 1 ≤ _; decide,?_⟩
  obtain ⟨hl,hk⟩:=hk
  conv=>whnf
  refine ⟨[],_,_,rfl,List Int,(fun l=>([(1,.u (.c (.p 1 0))),(2,.u (.c (.p 2 0)))],[(1,.cells 185 [I64 f,.d 38 (.ints l)]),(2,.cells 185 [I64 0,.v (.slice none 0 0)])])),
   (fun x=>rtrim x = rtrim l ∧ x.length ≤ 68719476736),List.length,fun x _=>rfl,⟨l,⟨rfl,hl⟩,⟨rfl,rfl,trivial⟩,⟨rfl,rfl,trivial⟩⟩,?_⟩
  rintro x ⟨hx,hxl⟩;conv=>whnf
  refine Ask.i (fun c1=>?_) (fun c1=>?_)
  ·have c1 : (x.length : Int) > 0:=of_decide_eq_true c1
   have hw : IntKind.i64.wrap ((x.length : Int) - 1) = (x.length : Int) - 1:=wrap64 (by omega)
   conv=>whnf
   refine ⟨by simp only [D.len]; omega,?_⟩;conv=>whnf
   refine Ask.i (fun c2=>?_) (fun c2=>?_)
   ·simp only [D.len,cond_true,hw,cellD,List.getD_cons_zero,D.toInt,beq_iff_eq] at c2
    conv=>whnf
    refine ⟨by simp only [D.len]; omega,?_⟩
    have e : ((x.length : Int) - 1).toNat = x.length - 1:=by omega
    rw [e] at c2
    have e2 : ((x.take (IntKind.i64.wrap ((D.ints x).len - 1)).toNat).drop (Int.toNat 0)) = x.take (x.length - 1):=by simp only [D.len,hw,e]; rfl
    refine ⟨x.take (x.length - 1),⟨?_,?_⟩,?_,⟨rfl,rfl,trivial⟩,⟨?_,rfl,trivial⟩⟩
    ·rw [← hx,rtrim_last x (by rintro rfl; simp at c1) c2]
    ·simp; omega
    ·simp; omega
    exact congrArg (fun y=>some (Blk.cells 185 [I64 f,.d 38 (.ints y)])) e2
   simp only [D.len,cond_true,hw,cellD,List.getD_cons_zero,D.toInt,beq_eq_false_iff_ne] at c2
   have e : ((x.length : Int) - 1).toNat = x.length - 1:=by omega
   rw [e] at c2
   have hx2 : rtrim l = x:=by rw [← hx,rtrim_keep x (.inr c2)]
   conv=>whnf
   refine ⟨[],_,_,rfl,Int × List Int,(fun y=>([(1,.u (.c (.p 1 0))),(2,.u (.c (.p 2 0)))],[(1,.cells 185 [I64 y.1,.d 38 (.ints y.2)]),(2,.cells 185 [I64 0,.v (.slice none 0 0)])])),
    (fun y=>ltrim y.1 y.2 = ltrim f x),(fun y=>y.2.length),fun x _=>rfl,⟨(f,x),rfl,⟨rfl,rfl,trivial⟩,⟨rfl,rfl,trivial⟩⟩,?_⟩
   rintro ⟨f',y⟩ hy
   simp only at hy
   conv=>whnf
   refine Ask.i (fun c3=>?_) (fun c3=>?_)
   ·have c3 : (y.length : Int) > 0:=of_decide_eq_true c3
    cases y with
    | nil=>simp at c3
    | cons n y =>
     conv=>whnf
     refine ⟨by simp only [D.len]; omega,?_⟩;conv=>whnf
     refine Ask.i (fun c4=>?_) (fun c4=>?_)
     ·have c4 : n = 0:=by simpa [cellD,D.toInt] using c4
      conv=>whnf
      refine ⟨mixed,[(7,[1]),(9,[1])],[(1,[]),(4,[])],[],by kernel_rfl,?_⟩;conv=>whnf
      refine ⟨by simp only [D.len,List.length_cons]; omega,?_⟩
      refine ⟨(w64 (f' + 1),y),?_,?_,⟨rfl,rfl,trivial⟩,⟨?_,rfl,trivial⟩⟩
      ·rw [← hy,ltrim,if_pos c4]
      ·simp
      refine congrArg (fun z=>some (Blk.cells 185 [I64 (w64 (f' + 1)),.d 38 (.ints z)])) (?_ : List.drop 1 (List.take (n :: y).length (n :: y)) = y)
      rw [List.take_length]; rfl
     have c4 : n ≠ 0:=by simpa [cellD,D.toInt] using c4
     conv=>whnf
     refine fin hk ?_
     refine congrArg (fun z : Int × List Int=>SV.u (.a [I64 z.1,.d 38 (.ints z.2)])) (?_ : trim f l = (f',n :: y))
     rw [trim,hx2,← hy,ltrim,if_neg c4]
   have c3 : ¬ (y.length : Int) > 0:=of_decide_eq_false c3
   cases y with
   | cons n y=>simp at c3
   | nil =>
    conv=>whnf
    refine fin hk ?_
    refine congrArg (fun z : Int × List Int=>SV.u (.a [I64 z.1,.d 38 (.ints z.2)])) (?_ : trim f l = (0,[]))
    rw [trim,hx2,← hy,ltrim]
  have c1 : ¬ (x.length : Int) > 0:=of_decide_eq_false c1
  cases x with
  | cons n y=>simp at c1
  | nil =>
   have hx2 : rtrim l = []:=hx.symm
   conv=>whnf
   refine ⟨[],_,_,rfl,Unit,(fun y=>([(1,.u (.c (.p 1 0))),(2,.u (.c (.p 2 0)))],[(1,.cells 185 [I64 f,.d 38 (.ints [])]),(2,.cells 185 [I64 0,.v (.slice none 0 0)])])),
    (fun _=>True),(fun _=>0),fun x _=>rfl,⟨(),trivial,⟨rfl,rfl,trivial⟩,⟨rfl,rfl,trivial⟩⟩,?_⟩
   rintro _ _;conv=>whnf
   refine fin hk ?_
   refine congrArg (fun z : Int × List Int=>SV.u (.a [I64 z.1,.d 38 (.ints z.2)])) (?_ : trim f l = (0,[]))
   rw [trim,hx2,ltrim]
 exact hk.elim
abbrev RF:=SV × List (Option Blk) × List Blk
def errV (n : Int) : C:=.v (.iface 61 (.int .i64 n))
def nilV : C:=.v .nilIface
def wp1 (b : Bool) {ρ : Type} (k : Bool → Out ρ) : Out ρ:=.all Bool (fun c=>b = c) ⟨b,rfl⟩ k
def plusS : List U → List Blk → Out RF
 | [.c (.p 50000 0),.c (.v (.int .u64 a)),.c (.v (.int .u64 b))],[.cells 181 [.v (.bool bad)]]=>.ret (.u (.c (U64 (x64 (a + b)))),[some (.cells 181 [Bo (bad || decide (x64 (a + b) < a))])],[])
 | _,_=>.fail
theorem plus_ok : OkF G 108 plusS:=by
 refine okF false noneS Tryz.func108 rfl (by decide) fun K us lent hk=>?_
 unfold plusS at hk
 split at hk
 ·rename_i a b bad
  refine ⟨by show 3 ≤ _; decide,?_⟩;conv=>whnf
  refine Ask.i (fun c1=>?_) (fun c1=>?_)
  ·subst c1
   conv=>whnf
   exact hk
  subst c1
  conv=>whnf
  exact hk
 exact hk.elim
def lessS : List U → List Blk → Out RF
 | [.c (.p 50000 0),.c (.v (.int .u64 a)),.c (.v (.int .u64 b))],[.cells 181 [.v (.bool bad)]]=>.ret (.u (.c (U64 (x64 (a - b)))),[some (.cells 181 [Bo (bad || decide (a < b))])],[])
 | _,_=>.fail
theorem less_ok : OkF G 130 lessS:=by
 refine okF false noneS Tryz.func130 rfl (by decide) fun K us lent hk=>?_
 unfold lessS at hk
 split at hk
 ·rename_i a b bad
  refine ⟨by show 3 ≤ _; decide,?_⟩;conv=>whnf
  refine Ask.i (fun c1=>?_) (fun c1=>?_)
  ·subst c1
   conv=>whnf
   exact hk
  subst c1
  conv=>whnf
  exact hk
 exact hk.elim
def errS : List U → List Blk → Out RF
 | [.c (.p 50000 0)],[.cells 181 [.v (.bool bad)]]=>wp1 bad fun c=>.ret (.u (.c (bif c then errV 9 else nilV)),[some (.cells 181 [Bo bad])],[])
 | _,_=>.fail
theorem err_ok : OkF G 112 errS:=by
 refine okF false noneS Tryz.func112 rfl (by decide) fun K us lent hk=>?_
 unfold errS at hk
 split at hk
 ·rename_i bad
  refine ⟨by show 1 ≤ _; decide,?_⟩
  have hk:=hk bad rfl
  conv=>whnf
  refine Ask.i (fun c1=>?_) (fun c1=>?_)
  ·subst c1
   conv=>whnf
   exact hk
  subst c1
  conv=>whnf
  exact hk
 exact hk.elim
def endS : List U → Out SV
 | [.a [.v (.int .i64 f),.d 38 (.ints l)]]=>one (I64 (w64 (f + l.length)))
 | _=>.fail
theorem end_ok : Ok G 142 endS:=by
 refine okP noneS Tryz.func142 rfl (by decide) fun K us hk=>?_
 unfold endS at hk
 split at hk
 ·rename_i f l
  refine ⟨by show 1 ≤ _; decide,?_⟩;conv=>whnf
  exact hk
 exact hk.elim
def sideOfS : List U → Out SV
 | [.c (.v (.bool h)),.a [.v (.int .i32 f),.d 38 (.ints l),.v (.string s)]]=>agg [I64 (bif h then w64 f else 0),.d 38 (.ints (bif h then l else []))]
 | _=>.fail
theorem sideOf_ok : Ok G 104 sideOfS:=by
 refine okP noneS Tryz.func104 rfl (by decide) fun K us hk=>?_
 unfold sideOfS at hk
 split at hk
 ·rename_i h f l s
  refine ⟨by show 2 ≤ _; decide,?_⟩;conv=>whnf
  refine Ask.i (fun c1=>?_) (fun c1=>?_)
  ·cases h
   ·conv=>whnf
    exact hk
   cases c1
  cases h
  ·cases c1
  conv=>whnf
  exact hk
 exact hk.elim
end Sx
namespace Sx
open Go Go.Proofs
set_option maxRecDepth 4000
variable {G : Glob}
abbrev nos : ByteArray:=⟨#[]⟩
def noB : U:=.a [I32 0,.d 38 (.ints []),St nos]
def outB (f : Int) (l : List Int) : Out SV:=wp1 (decide ((trim f l).1 > 2147483647)) fun c=>bif c then .ret (.t [noB,.c (errV 9)]) else .ret (.t [.a [I32 (w32 (trim f l).1),.d 38 (.ints (trim f l).2),St nos],.c nilV])
def bucketsS : List U → Out SV
 | [.a [.v (.int .i64 f),.d 38 (.ints l)]]=>.need (l.length ≤ 68719476736) (outB f l)
 | _=>.fail
theorem rtrim_len (l : List Int) : (rtrim l).length ≤ l.length:=by
 induction l with
 | nil=>simp [rtrim]
 | cons a l ih =>
  rw [rtrim]
  split
  ·split <;> simp
  rename_i h; simp only [List.length_cons]; omega
theorem ltrim_len (f : Int) (l : List Int) : (ltrim f l).2.length ≤ l.length:=by
 induction l generalizing f with
 | nil=>simp [ltrim]
 | cons a l ih =>
  rw [ltrim]
  split
  ·have:=ih (w64 (f + 1)); simp only [List.length_cons]; omega
  simp
theorem trim_len (f : Int) (l : List Int) : (trim f l).2.length ≤ l.length:=Nat.le_trans (ltrim_len _ _) (rtrim_len l)
noncomputable def s1 : List (FuncId × Spec):=[(141,.pure (normG (B []) [185] trimS)),(104,.pure (normG (B []) [4,42] sideOfS)),(142,.pure (normG (B []) [185] endS))]
theorem s1_ok : AllSound (B s1) G:=.cons _ trim_ok (.cons _ sideOf_ok (.cons _ end_ok noneS))
theorem buckets_ok : Ok G 140 bucketsS:=by
 refine okP s1_ok Tryz.func140 rfl (by decide) fun K us hk=>?_
 unfold bucketsS at hk
 split at hk
 ·rename_i f l
  refine ⟨by show 1 ≤ _; decide,?_⟩
  obtain ⟨hl,hk⟩:=hk
  have hk:=hk _ rfl
  conv=>whnf
  refine ⟨hl,?_⟩;conv=>whnf
  refine Ask.i (fun c1=>?_) (fun c1=>?_)
  ·rw [c1] at hk
   conv=>whnf
   exact hk
  rw [c1] at hk
  conv=>whnf
  refine ⟨mixed,[(7,[2])],[],[],by kernel_rfl,?_⟩;conv=>whnf
  have:=trim_len f l
  refine ⟨by simp only [D.len]; omega,?_⟩;conv=>whnf
  exact hk
 exact hk.elim
noncomputable def s2 : List (FuncId × Spec):=(140,.pure (normG (B []) [185] bucketsS)) :: s1
theorem s2_ok : AllSound (B s2) G:=.cons _ buckets_ok s1_ok
def shr (a : Int) (n : Nat) : Int:=a.fdiv (2 ^ n)
theorem pow_pos' (n : Nat) : (0 : Int) < 2 ^ n:=Int.pow_pos (by decide)
theorem shr_ediv (a : Int) (n : Nat) : shr a n = a / 2 ^ n:=Int.fdiv_eq_ediv_of_nonneg _ (Int.le_of_lt (pow_pos' n))
theorem shr_mono {a b : Int} (n : Nat) (h : a ≤ b) : shr a n ≤ shr b n:=by
 rw [shr_ediv,shr_ediv]; exact Int.ediv_le_ediv (pow_pos' n) h
theorem shr_diff {a b : Int} (n : Nat) (h : a ≤ b) : shr b n - shr a n ≤ b - a:=by
 have hp:=pow_pos' n
 have h1 : shr b n ≤ shr a n + (b - a):=by
  rw [shr_ediv,shr_ediv]
  have e : a / 2 ^ n + (b - a) = (a + (b - a) * 2 ^ n) / 2 ^ n:=by rw [Int.add_mul_ediv_right _ _ (by omega)]
  rw [e]
  refine Int.ediv_le_ediv hp ?_
  have : (b - a) * 1 ≤ (b - a) * 2 ^ n:=Int.mul_le_mul_of_nonneg_left (by omega) (by omega)
  omega
 omega
theorem shr_bound {a : Int} (n : Nat) {m : Int} (hm : 0 ≤ m) (h1 : -m ≤ a) (h2 : a ≤ m) : -m ≤ shr a n ∧ shr a n ≤ m:=by
 have hp:=pow_pos' n
 rw [shr_ediv]
 constructor
 ·refine (Int.le_ediv_iff_mul_le hp).2 ?_
  have : m * 1 ≤ m * 2 ^ n:=Int.mul_le_mul_of_nonneg_left (by omega) hm
  have e : -m * 2 ^ n = -(m * 2 ^ n):=Int.neg_mul _ _
  rw [e]
  omega
 refine Int.le_trans (Int.ediv_le_ediv hp h2) ?_
 exact Int.ediv_le_self _ hm
theorem ltrim_spec : ∀ (l : List Int) (f : Int),-4611686018427387904 ≤ f → f + l.length ≤ 4611686018427387904 →
  ltrim f l = (0,[]) ∧ (∀ x ∈ l,x = 0) ∨ ∃ (k : Nat) (a : Int) (r : List Int),ltrim f l = (f + k,a :: r) ∧ a ≠ 0 ∧ l = List.replicate k 0 ++ a :: r
 | [],f,_,_=>.inl ⟨rfl,fun x hx=>by cases hx⟩
 | a :: l,f,h1,h2=>by
  rw [ltrim]
  by_cases ha : a = 0
  ·rw [if_pos ha]
   simp only [List.length_cons] at h2
   have hw : w64 (f + 1) = f + 1:=wrap64 (by omega)
   rw [hw]
   rcases ltrim_spec l (f + 1) (by omega) (by omega) with ⟨h,h3⟩ | ⟨k,b,r,h,h3,h4⟩
   ·exact .inl ⟨h,fun x hx=>by rcases List.mem_cons.1 hx with rfl | hx; exact ha; exact h3 x hx⟩
   refine .inr ⟨k + 1,b,r,?_,h3,?_⟩
   ·rw [h]; congr 1; omega
   rw [ha,h4]; rfl
  rw [if_neg ha]
  exact .inr ⟨0,a,l,by simp,ha,rfl⟩
theorem rtrim_spec : ∀ (l : List Int),∃ k : Nat,l = rtrim l ++ List.replicate k 0 ∧ (rtrim l = [] ∨ ∃ (r : List Int) (z : Int),rtrim l = r ++ [z] ∧ z ≠ 0)
 | []=>⟨0,rfl,.inl rfl⟩
 | a :: l=>by
  obtain ⟨k,h1,h2⟩:=rtrim_spec l
  rcases h2 with h2 | ⟨r,z,h2,h3⟩
  ·rw [rtrim]
   rw [h2] at h1 ⊢
   simp only at h1 ⊢
   by_cases ha : a = 0
   ·rw [if_pos ha]
    exact ⟨k + 1,by rw [h1,ha]; rfl,.inl rfl⟩
   rw [if_neg ha]
   exact ⟨k,by rw [h1]; rfl,.inr ⟨[],a,rfl,ha⟩⟩
  have hne : rtrim l ≠ []:=by rw [h2]; simp
  have e : rtrim (a :: l) = a :: rtrim l:=by
   rw [rtrim]
   split
   ·rename_i h; exact absurd h hne
   rfl
  rw [e]
  exact ⟨k,by rw [List.cons_append,← h1],.inr ⟨a :: r,z,by rw [h2]; rfl,h3⟩⟩
theorem trim_spec (l : List Int) (f : Int) (h1 : -4611686018427387904 ≤ f) (h2 : f + l.length ≤ 4611686018427387904) :
  trim f l = (0,[]) ∧ (∀ x ∈ l,x = 0) ∨ ∃ (k m : Nat) (c : List Int),trim f l = (f + k,c) ∧ c ≠ [] ∧ c.getD 0 0 ≠ 0 ∧ c.getD (c.length - 1) 0 ≠ 0 ∧ l = List.replicate k 0 ++ (c ++ List.replicate m 0):=by
 obtain ⟨m,h3,h4⟩:=rtrim_spec l
 have hl : (rtrim l).length ≤ l.length:=rtrim_len l
 rcases ltrim_spec (rtrim l) f h1 (by omega) with ⟨h5,h6⟩ | ⟨k,a,r,h5,h6,h7⟩
 ·refine .inl ⟨h5,fun x hx=>?_⟩
  rw [h3] at hx
  rcases List.mem_append.1 hx with hx | hx
  ·exact h6 x hx
  exact (List.mem_replicate.1 hx).2
 refine .inr ⟨k,m,a :: r,h5,by simp,by simpa using h6,?_,by rw [← List.append_assoc,← h7]; exact h3⟩
 rcases h4 with h4 | ⟨q,z,h8,h9⟩
 ·rw [h4] at h7; simp at h7
 have e1 : (rtrim l).getD ((rtrim l).length - 1) 0 = z:=by rw [h8]; simp
 have e2 : (rtrim l).getD ((rtrim l).length - 1) 0 = (a :: r).getD ((a :: r).length - 1) 0:=by
  rw [h7]
  have : (List.replicate k 0 ++ a :: r).length - 1 = k + ((a :: r).length - 1):=by simp
  rw [this,List.getD_eq_getElem?_getD,List.getD_eq_getElem?_getD,List.getElem?_append_right (by simp)]
  simp
 rw [← e2,e1]
 exact h9
end Sx
namespace Sx
open Go Go.Proofs
set_option maxRecDepth 30000
variable {G : Glob}
def place (f : Int) (n i : Nat) : Nat:=(shr (f + i) n - shr f n).toNat
def downGo (f : Int) (n : Nat) : Nat → List Int → List Int → Bool → List Int × Bool
 | _,[],c,bad=>(c,bad)
 | i,x :: l,c,bad=>downGo f n (i + 1) l (c.set (place f n i) (x64 (c.getD (place f n i) 0 + x))) (bad || decide (x64 (c.getD (place f n i) 0 + x) < c.getD (place f n i) 0))
def wideS (f : Int) (l : List Int) (n : Nat) : Int:=shr (f + l.length - 1) n - shr f n + 1
def downL (f : Int) (l : List Int) (n : Nat) (bad : Bool) : Int × List Int × Bool :=
 match trim f l with
 | (_,[])=>(0,[],bad)
 | (g,a :: r)=>(shr g n,downGo g n 0 (a :: r) (List.replicate (wideS g (a :: r) n).toNat 0) bad)
def downS : List U → List Blk → Out RF
 | [.c (.p 50000 0),.a [.v (.int .i64 f),.d 38 (.ints l)],.c (.v (.int .i64 b))],[.cells 181 [.v (.bool bad)]] =>
  .need (l.length ≤ 68719476736 ∧ -1099511627776 ≤ f ∧ f ≤ 1099511627776 ∧ 0 ≤ b ∧ b ≤ 31)
   (.ret (.u (.a [I64 (downL f l b.toNat bad).1,.d 38 (.ints (downL f l b.toNat bad).2.1)]),[some (.cells 181 [Bo (downL f l b.toNat bad).2.2])],[]))
 | _,_=>.fail
noncomputable def s3 : List (FuncId × Spec):=(108,.full (normF (B []) [228,31,31] plusS)) :: s2
theorem s3_ok : AllSound (B s3) G:=.consF _ plus_ok s2_ok
theorem down_ok : OkF G 103 downS:=by
 refine okF false s3_ok Tryz.func103 rfl (by decide) fun K us lent hk=>?_
 unfold downS at hk
 split at hk
 ·rename_i f l b bad
  refine ⟨by show 3 ≤ _; decide,?_⟩
  obtain ⟨⟨hl,hf1,hf2,hb1,hb2⟩,hk⟩:=hk
  have hts:=trim_spec l f (by omega) (by omega)
  have htl:=trim_len f l
  conv=>whnf
  refine ⟨hl,?_⟩
  simp only [downL] at hk
  generalize trim f l = t at *
  obtain ⟨g,l'⟩:=t
  conv=>whnf
  cases l' with
  | nil =>
   conv=>whnf
   rcases hts with ⟨h,_⟩ | ⟨_,_,_,h,hne,_⟩
   ·simp only [Prod.mk.injEq] at h
    obtain ⟨rfl,_⟩:=h
    exact hk
   simp only [Prod.mk.injEq] at h
   exact absurd h.2.symm hne
  | cons a r =>
   conv=>whnf
   refine ⟨mixed,[(18,[7])],[(1,[]),(4,[]),(5,[]),(10,[]),(15,[])],[],by kernel_rfl,?_⟩;conv=>whnf
   refine ⟨hb1,?_⟩;conv=>whnf
   refine ⟨hb1,?_⟩;conv=>whnf
   refine ⟨hb1,?_⟩;conv=>whnf
   have hmin : min b.toNat IntKind.i64.bits = b.toNat:=by simp only [IntKind.bits]; omega
   have hg : -1168231104512 ≤ g ∧ g ≤ 1168231104512 ∧ (r.length : Int) + 1 ≤ 68719476736:=by
    rcases hts with ⟨h,_⟩ | ⟨k,m,c,h,_,_,_,hll⟩
    ·simp only [Prod.mk.injEq] at h; cases h.2
    simp only [Prod.mk.injEq] at h
    have:=congrArg List.length hll
    simp only [List.length_append,List.length_replicate,← h.2,List.length_cons] at this
    omega
   have e1 : w64 (w64 (g + ((r.length : Int) + 1)) - 1) = g + ((r.length : Int) + 1) - 1:=by rw [w64_eq (n:=g + ((r.length : Int) + 1)) (by omega),w64_eq (by omega)]
   have b1:=shr_bound (a:=g) b.toNat (m:=1236950581248) (by omega) (by omega) (by omega)
   have b2:=shr_bound (a:=g + ((r.length : Int) + 1) - 1) b.toNat (m:=1236950581248) (by omega) (by omega) (by omega)
   have b3:=shr_mono (a:=g) (b:=g + ((r.length : Int) + 1) - 1) b.toNat (by omega)
   have b4:=shr_diff (a:=g) (b:=g + ((r.length : Int) + 1) - 1) b.toNat (by omega)
   have e2 : w64 (w64 ((w64 (w64 (g + (((a :: r).length : Nat) : Int)) - 1)).fdiv (2 ^ min b.toNat IntKind.i64.bits) - g.fdiv (2 ^ min b.toNat IntKind.i64.bits)) + 1) = wideS g (a :: r) b.toNat:=by
    have : (((a :: r).length : Nat) : Int) = (r.length : Int) + 1:=by simp
    rw [this,e1,hmin]
    show w64 (w64 (shr _ _ - shr _ _) + 1) = _
    rw [w64_eq (n:=shr (g + ((r.length : Int) + 1) - 1) b.toNat - shr g b.toNat) (by omega),w64_eq (by omega)]
    simp only [wideS,List.length_cons,Int.natCast_add,Int.natCast_one]
   refine ⟨?_,?_⟩
   ·have : 0 ≤ wideS g (a :: r) b.toNat ∧ wideS g (a :: r) b.toNat ≤ wideS g (a :: r) b.toNat ∧ wideS g (a :: r) b.toNat ≤ 1099511627776:=by
     simp only [wideS,List.length_cons,Int.natCast_add,Int.natCast_one]; omega
    rw [← e2] at this
    exact this
   conv=>whnf
   refine ⟨[],_,_,rfl,Nat × List Int × Bool × Int,(fun x=>([(0,.u (.c (.p 50000 0))),(2,.u (.c (I64 b))),(4,.u (.c (.p 4 0))),(6,.u (.c (.p 6 0))),(7,.u (.c (.p 7 0))),(36,.u (.c (.d 38 (.ints (a :: r))))),(37,.u (.c (I64 ((a :: r).length : Nat)))),(38,.u (.c (I64 (x.1 : Nat))))],
     [(50000,.cells 181 [Bo x.2.2.1]),(4,.cells 185 [I64 g,.d 38 (.ints (a :: r))]),(6,.cells 185 [I64 0,.v (.slice none 0 0)]),(7,.cells 185 [I64 x.2.2.2,.r 33 38]),(33,.row 38 (.ints x.2.1))])),
    (fun x=>x.1 ≤ (a :: r).length ∧ x.2.1.length = (wideS g (a :: r) b.toNat).toNat ∧ x.2.2.2 = shr g b.toNat ∧ downGo g b.toNat x.1 ((a :: r).drop x.1) x.2.1 x.2.2.1 = downGo g b.toNat 0 (a :: r) (List.replicate (wideS g (a :: r) b.toNat).toNat 0) bad),(fun x=>(a :: r).length - x.1),fun x _=>rfl,⟨(0,List.replicate (w64 (w64 ((w64 (w64 (g + (((a :: r).length : Nat) : Int)) - 1)).fdiv (2 ^ min b.toNat IntKind.i64.bits) - g.fdiv (2 ^ min b.toNat IntKind.i64.bits)) + 1)).toNat 0,bad,g.fdiv (2 ^ min b.toNat IntKind.i64.bits)),?_,⟨rfl,rfl,rfl,rfl,rfl,rfl,rfl,rfl,trivial⟩,⟨rfl,rfl,rfl,rfl,rfl,trivial⟩⟩,?_⟩
   ·have e3 : (List.replicate (w64 (w64 ((w64 (w64 (g + (((a :: r).length : Nat) : Int)) - 1)).fdiv (2 ^ min b.toNat IntKind.i64.bits) - g.fdiv (2 ^ min b.toNat IntKind.i64.bits)) + 1)).toNat (0 : Int)) = List.replicate (wideS g (a :: r) b.toNat).toNat 0:=by rw [e2]
    refine ⟨Nat.zero_le _,?_,?_,?_⟩
    ·exact (congrArg List.length e3).trans (by simp)
    ·show g.fdiv (2 ^ min b.toNat IntKind.i64.bits) = _
     rw [hmin]; rfl
    exact congrArg (fun z=>downGo g b.toNat 0 (a :: r) z bad) e3
   rintro ⟨i,c,bd,fst⟩ ⟨p1,p2,p3,p4⟩
   simp only at p1 p2 p3 p4
   subst p3
   conv=>whnf
   refine Ask.i (fun c1=>?_) (fun c1=>?_)
   ·have c1 : (i : Int) < ((a :: r).length : Nat):=of_decide_eq_true c1
    have hi : i < (a :: r).length:=by omega
    have hlr : (((a :: r).length : Nat) : Int) = (r.length : Int) + 1:=by simp
    have q1 : w64 (g + (i : Int)) = g + i:=w64_eq (by omega)
    have b5:=shr_bound (a:=g + i) b.toNat (m:=1236950581248) (by omega) (by omega) (by omega)
    have b6:=shr_mono (a:=g) (b:=g + i) b.toNat (by omega)
    have b7:=shr_mono (a:=g + i) (b:=g + ((r.length : Int) + 1) - 1) b.toNat (by omega)
    have q2 : w64 ((w64 (g + (i : Int))).fdiv (2 ^ min b.toNat IntKind.i64.bits) - shr g b.toNat) = shr (g + i) b.toNat - shr g b.toNat:=by
     rw [hmin,q1]
     show w64 (shr _ _ - shr _ _) = _
     rw [w64_eq (by omega)]
    have hw : wideS g (a :: r) b.toNat = shr (g + ((r.length : Int) + 1) - 1) b.toNat - shr g b.toNat + 1:=by simp only [wideS,List.length_cons,Int.natCast_add,Int.natCast_one]
    have hin : 0 ≤ w64 ((w64 (g + (i : Int))).fdiv (2 ^ min b.toNat IntKind.i64.bits) - shr g b.toNat) ∧ w64 ((w64 (g + (i : Int))).fdiv (2 ^ min b.toNat IntKind.i64.bits) - shr g b.toNat) < (c.length : Int):=by
     rw [q2,p2,hw]; omega
    conv=>whnf
    refine ⟨⟨by omega,c1⟩,?_⟩;conv=>whnf
    refine ⟨mixed,[],[],[],by kernel_rfl,?_⟩;conv=>whnf
    refine ⟨hb1,?_⟩;conv=>whnf
    refine ⟨mixed,[(10,[50000]),(12,[33])],[(1,[50000]),(5,[]),(7,[]),(8,[]),(11,[50000])],[],by kernel_rfl,?_⟩;conv=>whnf
    refine ⟨hin,?_⟩;conv=>whnf
    refine ⟨hin,?_⟩;conv=>whnf
    have hK : (w64 ((w64 (g + (i : Int))).fdiv (2 ^ min b.toNat IntKind.i64.bits) - shr g b.toNat)).toNat = place g b.toNat i:=by rw [q2]; rfl
    have hstep : downGo g b.toNat i ((a :: r).drop i) c bd = downGo g b.toNat (i + 1) ((a :: r).drop (i + 1)) (c.set (place g b.toNat i) (x64 (c.getD (place g b.toNat i) 0 + (a :: r).getD i 0))) (bd || decide (x64 (c.getD (place g b.toNat i) 0 + (a :: r).getD i 0) < c.getD (place g b.toNat i) 0)):=by
     rw [List.drop_eq_getElem_cons hi,downGo]
     have : (a :: r).getD i 0 = (a :: r)[i]:=by rw [List.getD_eq_getElem?_getD,List.getElem?_eq_getElem hi]; rfl
     rw [this]
    rw [← hK] at hstep
    refine ⟨(i + 1,_,_,shr g b.toNat),⟨?_,?_,rfl,hstep.symm.trans p4⟩,?_,⟨rfl,rfl,rfl,rfl,rfl,rfl,rfl,?_,trivial⟩,⟨rfl,rfl,rfl,rfl,rfl,trivial⟩⟩
    ·exact hi
    ·simp only [List.length_set]; exact p2
    ·simp only; omega
    exact congrArg (fun z : Int=>some (SV.u (.c (I64 z)))) (w64_eq (n:=(i : Int) + 1) (by omega))
   have c1 : ¬ (i : Int) < ((a :: r).length : Nat):=of_decide_eq_false c1
   have hi : i = (a :: r).length:=by omega
   rw [hi,List.drop_length,downGo] at p4
   simp only [← p4] at hk
   conv=>whnf
   exact hk
 exact hk.elim
end Sx
namespace Sx
open Go Go.Proofs
set_option maxRecDepth 30000
variable {G : Glob}
theorem downGo_len (f : Int) (n : Nat) : ∀ (l : List Int) (i : Nat) (c : List Int) (bad : Bool),(downGo f n i l c bad).1.length = c.length
 | [],_,_,_=>rfl
 | x :: l,i,c,bad=>by rw [downGo,downGo_len f n l]; simp
theorem downL_len (f : Int) (l : List Int) (n : Nat) (bad : Bool) : (downL f l n bad).2.1.length ≤ l.length:=by
 have h:=trim_len f l
 unfold downL
 generalize trim f l = t at *
 obtain ⟨g,c⟩:=t
 cases c with
 | nil=>simp
 | cons a r =>
  simp only [downGo_len,List.length_replicate]
  have h1:=shr_mono (a:=g) (b:=g + (a :: r).length - 1) n (by simp only [List.length_cons]; omega)
  have h2:=shr_diff (a:=g) (b:=g + (a :: r).length - 1) n (by simp only [List.length_cons]; omega)
  simp only [wideS]
  simp only [List.length_cons] at *
  omega
end Sx
namespace Sx
open Go Go.Proofs
set_option maxRecDepth 30000
variable {G : Glob}
def numsS : List U → Out SV
 | [.c (.d 38 (.ints a)),.c (.d 38 (.ints b))]=>.need (a.length ≤ 68719476736 ∧ b.length ≤ 68719476736) (one (Bo (decide (a = b))))
 | _=>.fail
theorem nums_ok : Ok G 72 numsS:=by
 refine okP noneS Tryz.func72 rfl (by decide) fun K us hk=>?_
 unfold numsS at hk
 split at hk
 ·rename_i a b
  refine ⟨by show 2 ≤ _; decide,?_⟩
  obtain ⟨⟨ha,hb⟩,hk⟩:=hk
  conv=>whnf
  refine Ask.i (fun c1=>?_) (fun c1=>?_)
  ·have c1 : ((a.length : Int) != (b.length : Int)) = true:=c1
   conv=>whnf
   refine fin hk ?_
   have : decide (a = b) = false:=by
    refine decide_eq_false fun e=>?_
    subst e
    simp at c1
   rw [this]
   try rfl
  have c1 : ((a.length : Int) != (b.length : Int)) = false:=c1
  have hab : a.length = b.length:=by simp at c1; omega
  conv=>whnf
  refine ⟨[],_,_,rfl,Nat,(fun i=>([(0,.u (.c (.d 38 (.ints a)))),(1,.u (.c (.d 38 (.ints b)))),(5,.u (.c (I64 (i : Nat))))],[])),
   (fun i=>i ≤ a.length ∧ a.take i = b.take i),(fun i=>a.length - i),fun x _=>rfl,⟨0,⟨Nat.zero_le _,rfl⟩,⟨rfl,rfl,rfl,trivial⟩,trivial⟩,?_⟩
  rintro i ⟨p1,p2⟩;conv=>whnf
  refine Ask.i (fun c2=>?_) (fun c2=>?_)
  ·have c2 : (i : Int) < (a.length : Int):=of_decide_eq_true c2
   have hi : i < a.length:=by omega
   have hj : i < b.length:=by omega
   conv=>whnf
   refine ⟨mixed,[],[],[],by kernel_rfl,?_⟩;conv=>whnf
   refine ⟨⟨by omega,c2⟩,?_⟩;conv=>whnf
   refine ⟨⟨by omega,by show (i : Int) < (b.length : Int); omega⟩,?_⟩;conv=>whnf
   have e1 : a.getD i 0 = a[i]:=by rw [List.getD_eq_getElem?_getD,List.getElem?_eq_getElem hi]; rfl
   have e2 : b.getD i 0 = b[i]:=by rw [List.getD_eq_getElem?_getD,List.getElem?_eq_getElem hj]; rfl
   refine Ask.i (fun c3=>?_) (fun c3=>?_)
   ·have c3 : (a.getD i 0 != b.getD i 0) = true:=c3
    conv=>whnf
    refine fin hk ?_
    have : decide (a = b) = false:=by
     refine decide_eq_false fun e=>?_
     subst e
     simp at c3
    rw [this]
    try rfl
   have c3 : (a.getD i 0 != b.getD i 0) = false:=c3;conv=>whnf
   refine ⟨i + 1,⟨hi,?_⟩,?_,⟨rfl,rfl,?_,trivial⟩,trivial⟩
   ·rw [e1,e2] at c3
    simp only [bne_eq_false_iff_eq] at c3
    rw [List.take_succ_eq_append_getElem hi,List.take_succ_eq_append_getElem hj,p2,c3]
   ·show a.length - (i + 1) < a.length - i; omega
   exact congrArg (fun z : Int=>some (SV.u (.c (I64 z)))) (w64_eq (n:=(i : Int) + 1) (by omega))
  have c2 : ¬ (i : Int) < (a.length : Int):=of_decide_eq_false c2
  have hi : i = a.length:=by omega
  have : a = b:=by
   subst hi
   rw [List.take_length,hab,List.take_length] at p2
   exact p2
  subst this
  simp only [decide_true] at hk
  conv=>whnf
  exact hk
 exact hk.elim
def kindsB (j k : Int) : Bool:=decide (j = k) && (decide (j = 1) || decide (j = 2))
def kindsS : List U → Out SV
 | [.a [.d 30 _,.v (.int .u64 _),.v (.int .u64 _),.v (.int .i64 j),.v (.int .u64 _),.d 32 _,.v (.int .u32 _),.v (.string _)],.a [.d 30 _,.v (.int .u64 _),.v (.int .u64 _),.v (.int .i64 k),.v (.int .u64 _),.d 32 _,.v (.int .u32 _),.v (.string _)]]=>one (Bo (kindsB j k))
 | _=>.fail
theorem kinds_ok : Ok G 105 kindsS:=by
 refine okP noneS Tryz.func105 rfl (by decide) fun K us hk=>?_
 unfold kindsS at hk
 split at hk
 ·rename_i a1 a2 a3 j a4 a5 a6 a7 b1 b2 b3 k b4 b5 b6 b7
  refine ⟨by show 2 ≤ _; decide,?_⟩;conv=>whnf
  refine Ask.i (fun c1=>?_) (fun c1=>?_)
  ·have c1 : j = k:=by simpa using (show (j == k) = true from c1)
   conv=>whnf
   refine Ask.i (fun c2=>?_) (fun c2=>?_)
   ·have c2 : j = 1:=by simpa using (show (j == 1) = true from c2)
    conv=>whnf
    refine fin hk ?_
    rw [show kindsB j k = true by simp [kindsB,← c1,c2]]
    try rfl
   have c2 : j ≠ 1:=by simpa using (show (j == 1) = false from c2)
   conv=>whnf
   refine fin hk ?_
   rw [show kindsB j k = (j == 2) by rw [kindsB,← c1]; simp [c2]; by_cases h : j = 2 <;> simp [h]]
   try rfl
  have c1 : j ≠ k:=by simpa using (show (j == k) = false from c1)
  conv=>whnf
  refine fin hk ?_
  rw [show kindsB j k = false by simp [kindsB,c1]]
  try rfl
 exact hk.elim
end Sx
namespace Sx
open Go Go.Proofs
set_option maxRecDepth 30000
def G1 : Glob:=⟨1,[(0,.iface 201 (.agg #[.pointer (some ⟨1,26,none⟩)]))]⟩
def codeS : List U → Out SV
 | [.c (.v .nilIface)]=>one (I64 0)
 | [.c (.v (.iface 61 (.int .i64 n)))]=>one (I64 n)
 | _=>.fail
theorem code_ok : Ok G1 17 codeS:=by
 refine ⟨⟨_,Tryz.func17,rfl,by decide⟩,?_⟩
 intro K us X w vals hk hG hX hu
 have hL : YtcjdbimojffggaaGreatDoor.Cd.Lays w:=(hG.2 _ (List.mem_cons_self ..)).2
 have key : ∀ (o : Option Int) (vals : List Value),vals = [YtcjdbimojffggaaGreatDoor.Cd.errV o] → K (.u (.c (I64 (YtcjdbimojffggaaGreatDoor.Cd.codeOf o)))) → Calls PR 17 vals.toArray w fun e w'=>∃ r v,e = .returned v ∧ K r ∧ DenS TB w' (fun _=>none) X (fun _=>none) r v ∧ Fr w w' fun _=>False:=by
  intro o vals e1 k1
  subst e1
  refine (YtcjdbimojffggaaGreatDoor.Cd.code_any o w hL).mono fun e w' ⟨h1,h2⟩=>?_
  exact ⟨_,_,h1,k1,⟨rfl,rfl⟩,⟨h2.os,h2.tape,h2.output,h2.size,fun b hb _=>h2.block b hb⟩⟩
 unfold codeS at hk
 split at hk
 ·cases vals with
  | nil=>exact hu.elim
  | cons v vs=>cases vs with
   | nil=>exact key none _ (by rw [hu.1.1]; rfl) hk
   | cons _ _=>exact hu.2.elim
 ·rename_i n
  cases vals with
  | nil=>exact hu.elim
  | cons v vs=>cases vs with
   | nil=>exact key (some n) _ (by rw [hu.1.1]; rfl) hk
   | cons _ _=>exact hu.2.elim
 exact hk.elim
end Sx
