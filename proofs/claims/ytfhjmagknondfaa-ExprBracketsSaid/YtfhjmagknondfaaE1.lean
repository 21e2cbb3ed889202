/- Small functions of lex, isa and the references, by contract. -/
import Derived.Test.YtfhjmagknondfaaA4
import Derived.Test.YtfhjmagknondfaaTy
import Derived.Lib.Bytealg
set_option linter.unusedVariables false
set_option linter.unusedSimpArgs false
set_option maxRecDepth 100000
namespace Go.Ab
open Go.Proofs

/-- A pure function: what it returns. -/
def Tells (f : FuncId) (xs : List AV) (r : AV) : Prop := CallsA Try.prog f xs [] fun x h => x = r ∧ h = []

theorem Tells.call {Γ : Ctx} {f : FuncId} {xs : List AV} {r : AV} (hc : Tells f xs r) {n : Nat} {ops : Array Oper} {cb : DM} {os : OT} {dst : Option Tmp} {k : List KI} {Q : St → Prop} {s : List AV} {h : List It}
    (H : ex Try.prog Γ n ops cb os k Q (putA s dst r) h) : CallV Try.prog Γ n ops cb dst os k Q s h f xs :=
  CallV.pure hc fun x h' ⟨hx, hh⟩ _ => by subst hx; subst hh; exact H

theorem exG_split {P : Program} {Γ : Ctx} {n : Nat} {ops : Array Oper} {cb : DM} {o : Oper} {os : OT} {k : List KI} {Q : St → Prop} {s : List AV} {h : List It} {b : Bool}
    (h1 : b = true → exG P Γ n ops cb o os k Q s h (some true)) (h2 : b = false → exG P Γ n ops cb o os k Q s h (some false)) : exG P Γ n ops cb o os k Q s h (some b) := by
  cases b
  · exact h2 rfl
  · exact h1 rfl

def beginsB (c : Int) : Bool := decide (c = 95) || (decide (c = 46) || (decide (97 ≤ c) && decide (c ≤ 122)))
def digitB (c : Int) : Bool := decide (48 ≤ c) && decide (c ≤ 57)
def letterB (c : Int) : Bool := decide (c = 95) || (decide (97 ≤ c) && decide (c ≤ 122))
def hexB (c : Int) : Bool := digitB c || (decide (97 ≤ c) && decide (c ≤ 102))
def followsB (c : Int) : Bool := beginsB c || digitB c

theorem lex_begins (c : Int) : Tells 82 [.c (.int .u8 c)] (.c (.bool (beginsB c))) := by
  refine CallsA.body Try.func82 rfl (by decide) fun Γ => Run.of_ex 1000 ?_
  by_cases h1 : c = 95
  · simp [Try.f82, h1, beginsB]
  · by_cases h2 : c = 46
    · simp [Try.f82, h2, beginsB]
    · by_cases h3 : 97 ≤ c
      · simp [Try.f82, h1, h2, h3, beginsB]
      · simp [Try.f82, h1, h2, h3, beginsB]

theorem lex_digit (c : Int) : Tells 95 [.c (.int .u8 c)] (.c (.bool (digitB c))) := by
  refine CallsA.body Try.func95 rfl (by decide) fun Γ => Run.of_ex 1000 ?_
  by_cases h1 : 48 ≤ c <;> simp [Try.f95, h1, digitB]

theorem lex_follows (c : Int) : Tells 84 [.c (.int .u8 c)] (.c (.bool (followsB c))) := by
  refine CallsA.body Try.func84 rfl (by decide) fun Γ => Run.of_ex 1000 ?_
  simp [Try.f84]
  refine (lex_begins c).call ?_
  cases h1 : beginsB c
  · simp
    refine (lex_digit c).call ?_
    simp [followsB, h1]
  · simp [followsB, h1]

theorem isa_letter (c : Int) : Tells 67 [.c (.int .u8 c)] (.c (.bool (letterB c))) := by
  refine CallsA.body Try.func67 rfl (by decide) fun Γ => Run.of_ex 1000 ?_
  by_cases h1 : c = 95
  · simp [Try.f67, h1, letterB]
  · by_cases h3 : 97 ≤ c <;> simp [Try.f67, h1, h3, letterB]

theorem ref_letter (c : Int) : Tells 52 [.c (.int .u8 c)] (.c (.bool (beginsB c))) := by
  refine CallsA.body Try.func52 rfl (by decide) fun Γ => Run.of_ex 1000 ?_
  by_cases h1 : 97 ≤ c
  · by_cases h2 : c ≤ 122
    · simp [Try.f52, h1, h2, beginsB]
    · have h3 : ¬ c = 95 := by omega
      have h4 : ¬ c = 46 := by omega
      simp [Try.f52, h1, h2, h3, h4, beginsB]
  · by_cases h3 : c = 95
    · simp [Try.f52, h3, beginsB]
    · simp [Try.f52, h1, h3, beginsB]

theorem ref_digit (c : Int) : Tells 53 [.c (.int .u8 c)] (.c (.bool (digitB c))) := by
  refine CallsA.body Try.func53 rfl (by decide) fun Γ => Run.of_ex 1000 ?_
  by_cases h1 : 48 ≤ c <;> simp [Try.f53, h1, digitB]

theorem ref_hex (c : Int) : Tells 54 [.c (.int .u8 c)] (.c (.bool (hexB c))) := by
  refine CallsA.body Try.func54 rfl (by decide) fun Γ => Run.of_ex 1000 ?_
  simp [Try.f54]
  refine (ref_digit c).call ?_
  cases h1 : digitB c
  · by_cases h2 : 97 ≤ c <;> simp [hexB, h1, h2]
  · simp [hexB, h1]

/-! ### A byte of a string, where it is -/
def indexB (s : ByteArray) (c : Int) : Int := match s.data.toList.findIdx? (fun x => (x.toNat : Int) == c) with
  | some i => i
  | none => -1
end Go.Ab

set_option linter.unusedVariables false
set_option linter.unusedSimpArgs false
set_option maxRecDepth 100000
namespace Go.Ab
open Go.Proofs

theorem bytealg_IndexByteString (s : ByteArray) (c : Int) : Tells 103 [.c (.string s), .c (.int .u8 c)] (.c (.int .i64 (Lib.indexByte s.data.toList c.toNat.toUInt8))) := by
  intro X w n0 vs H L
  have h1 : Extern.findNext Try.f103 = none := by kernel_rfl
  have h2 : Extern.find Try.f103 = some Extern.BytealgIndexByte.indexByte := by kernel_rfl
  have hvs : vs = #[.string s, .int .u8 c] := by
    have hl : vs.toList.length = 2 := L.1
    match hq : vs.toList, hl with
    | [a, b], _ =>
      rw [hq] at L
      have ha := Rep.cv (L.2 0 a _ rfl rfl)
      have hb := Rep.cv (L.2 1 b _ rfl rfl)
      subst ha; subst hb
      cases vs; simp_all
  subst hvs
  have hrun : (callFunc 103 #[.string s, .int .u8 c]).run Try.prog w = .ok (.value (.int .i64 (Lib.indexByte s.data.toList c.toNat.toUInt8))) w := by
    have hn : Try.f103.name ≠ "runtime.NumGoroutine" := by decide
    have hb : Try.f103.body = none := rfl
    have hi := Lib.run_indexByteString (P := Try.prog) s c w
    simp only [callFunc, run_program, Sem.run_bind, Result.andThen_ok, Try.func103]
    simp [hn, hb, h1, h2, hi]
  rw [hrun]
  exact ⟨_, [], ⟨rfl, rfl⟩, H, .c _⟩
end Go.Ab

set_option linter.unusedVariables false
set_option linter.unusedSimpArgs false
set_option maxRecDepth 100000
namespace Go.Ab
open Go.Proofs

def ixB (s : ByteArray) (c : Int) : Int := Lib.indexByte s.data.toList c.toNat.toUInt8

theorem stringslite_IndexByte (s : ByteArray) (c : Int) : Tells 101 [.c (.string s), .c (.int .u8 c)] (.c (.int .i64 (ixB s c))) := by
  refine CallsA.body Try.func101 rfl (by decide) fun Γ => Run.of_ex 1000 ?_
  simp [Try.f101]
  refine (bytealg_IndexByteString s c).call ?_
  simp [ixB]

theorem strings_IndexByte (s : ByteArray) (c : Int) : Tells 96 [.c (.string s), .c (.int .u8 c)] (.c (.int .i64 (ixB s c))) := by
  refine CallsA.body Try.func96 rfl (by decide) fun Γ => Run.of_ex 1000 ?_
  simp [Try.f96]
  refine (stringslite_IndexByte s c).call ?_
  simp

def signsS : ByteArray := { data := #[44, 58, 43, 45, 42, 40, 41, 64] }
def signB (c : Int) : Bool := decide (0 ≤ ixB signsS c)

theorem lex_sign (c : Int) : Tells 85 [.c (.int .u8 c)] (.c (.bool (signB c))) := by
  refine CallsA.body Try.func85 rfl (by decide) fun Γ => Run.of_ex 1000 ?_
  simp [Try.f85]
  refine (strings_IndexByte _ c).call ?_
  simp [signB, signsS]
  rfl

/-! ### How many bytes are so -/
def spanN (g : Int → Bool) (s : ByteArray) : Nat → Nat → Nat
  | 0, i => i
  | n + 1, i => if i < s.size ∧ g (byteAt s i) = true then spanN g s n (i + 1) else i

theorem lex_span (f : FuncId) (g : Int → Bool) (hg : ∀ c, Tells f [.c (.int .u8 c)] (.c (.bool (g c)))) (s : ByteArray) (hs : s.size ≤ 4611686018427387904) :
    Tells 83 [.c (.string s), .c (.func (.func f) #[] #[])] (.c (.int .i64 (spanN g s s.size 0))) := by
  refine CallsA.body Try.func83 rfl (by decide) fun Γ => Run.of_ex 1000 ?_
  simp [Try.f83]
  refine Run.head (fun i : Nat => ⟨[.c (.string s), .c (.func (.func f) #[] #[]), .bad, .bad, .bad, .c (.int .i64 i)] ++ List.replicate 14 .bad, []⟩) (fun i => s.size - i)
    (fun i => i ≤ s.size ∧ spanN g s (s.size - i) i = spanN g s s.size 0) ?_ 0 _ _ ?_ ?_ (List.Sublist.refl _)
  · intro i ⟨hi, hI⟩ ih
    refine Run.of_ex 1000 ?_
    simp [List.replicate]
    by_cases hlt : i < s.size
    · have h1 : (i : Int) < (s.size : Int) := by omega
      have h2 : IntKind.i64.wrap ((i : Int) + 1) = ((i + 1 : Nat) : Int) := wrap_i64 (by omega) (by omega)
      have h3 : s.size - i = (s.size - (i + 1)) + 1 := by omega
      rw [h3] at hI
      simp [h1, hlt]
      refine (hg _).call ?_
      cases hb : g (byteAt s i)
      · simp [hb]
        simp [spanN, hb] at hI
        simp [← hI]
      · simp [hb, h2]
        refine ih (i + 1) _ _ ⟨by omega, ?_⟩ (show s.size - (i + 1) < s.size - i by omega) ?_ (List.Sublist.refl _)
        · simpa [spanN, hb, hlt] using hI
        · simp [List.replicate]
    · have h1 : ¬ (i : Int) < (s.size : Int) := by omega
      have h2 : s.size - i = 0 := by omega
      rw [h2] at hI
      simp [h1, hlt]
      simp [spanN] at hI
      simp [← hI]
  · simp
  · simp [List.replicate]
end Go.Ab
