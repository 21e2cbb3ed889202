/- expr.Take, expr.Of, expr.Number. -/
import Derived.Test.YtfhjmagknondfaaE9
set_option linter.unusedVariables false
set_option linter.unusedSimpArgs false
set_option maxRecDepth 100000
namespace Go.Ab
open Go.Proofs

theorem tokensB_all {l : List Tok} (h : tokensB l = true) : ∀ t ∈ l, tokB t = true := by
  simp only [tokensB, Bool.and_eq_true, Bool.not_eq_true', List.any_eq_false] at h
  intro t ht
  have := h.2 t ht
  simpa using this
theorem tokensB_len {l : List Tok} (h : tokensB l = true) : l.length ≤ 40 := by
  simp only [tokensB, Bool.and_eq_true, decide_eq_true_eq] at h
  exact h.1
theorem namesGo_all (l : List Val) : ∀ (n i : Nat), n = l.length - i → i ≤ l.length → namesGo l n i = true → ∀ j, i ≤ j → ∀ v, l[j]? = some v → badN l j v = false
  | 0, i, hn, hi, h, j, hj, v, hv => by
    have := (List.getElem?_eq_some_iff.1 hv).1
    omega
  | n + 1, i, hn, hi, h, j, hj, v, hv => by
    have hlt : i < l.length := by omega
    simp only [namesGo, List.getElem?_eq_getElem hlt, Bool.and_eq_true, Bool.not_eq_true'] at h
    by_cases hij : j = i
    · subst hij
      rw [List.getElem?_eq_getElem hlt] at hv
      cases hv
      exact h.1
    · exact namesGo_all l n (i + 1) (by omega) (by omega) h.2 j (by omega) v hv
theorem namesB_all {l : List Val} (h : namesB l = true) : ∀ v ∈ l, mayB v = true := by
  simp only [namesB, Bool.and_eq_true] at h
  intro v hv
  obtain ⟨j, hj⟩ := List.getElem?_of_mem hv
  have := namesGo_all l l.length 0 (by simp) (by simp) h.1 j (by omega) v hj
  simp [badN] at this
  exact this.2.1
theorem mayB_within {v : Val} (h : mayB v = true) : withinB v.n = true := by
  simp [mayB] at h
  exact h.1

theorem expr_Take (f1 f2 : Bool) (names : List Val) (l : List Tok) (hl : l.length ≤ 4611686018427387904) (hn : names.length ≤ 4611686018427387904) (hs : ∀ v ∈ names, v.sym.size ≤ 4611686018427387904) :
    Tells 26 [valsA f1 names, toksA f2 l] (.tup [valA (takeF names l).1, .c (.int .i64 (takeF names l).2.1), .c (.int .i64 (takeF names l).2.2)]) := by
  refine CallsA.body Try.func26 rfl (by decide) fun Γ => Run.of_ex 1000 ?_
  simp [Try.f26, valsA, toksA]
  intro b1
  simp [exW]
  refine (expr_Names f1 names hn hs).call ?_
  cases h1 : namesB names
  · simp
    simp [takeF, h1, v0, emptyS, valA]
  · simp
    refine (lex_May f2 l hl).call ?_
    cases h2 : tokensB l
    · simp
      simp [takeF, h1, h2, v0, emptyS, valA]
    · simp
      intro b2 n1 n2
      simp [exW, n1, n2]
      let p : PS := ⟨b2, f1, f2, names, l⟩
      have ok : p.OK := ⟨hl, hn, tokensB_all h2, fun v hv => mayB_within (namesB_all h1 v hv)⟩
      obtain ⟨hk, hge, hle, hok⟩ := parser_top p ok 0 (Nat.zero_le _)
      have hp : topF p.l p.names 0 = topF l names 0 := rfl
      rw [hp] at hk hge hle hok
      refine hk.call 0 (by simp [PS.it, p, valsA, toksA]) ?_
      simp [resV, valA, PS.it, p, n1, n2]
      by_cases he : (topF l names 0).1.2 = 0
      · simp [he, n1, n2]
        refine Run.draws 1000 mixed [(5, b2)] (.calm 0 [] (.calm 1 [] (.calm 2 [] (.calm 3 [] (.calm 4 [5] (.fork (.alt 5 (.calm 6 [] (.calm 7 [] .done)) .stop))))))) (by kernel_rfl) ?_
        simp [n1, n2]
        simp [takeF, h1, h2, he, n1, n2, valA]
      · simp [he, n1, n2]
        simp [takeF, h1, h2, he, v0, emptyS, valA, n1, n2]

def OKN (names : List Val) : Prop := names.length ≤ 4611686018427387904 ∧ ∀ v ∈ names, v.sym.size ≤ 4611686018427387904

theorem expr_Of2 (f1 f2 : Bool) (names : List Val) (l : List Tok) (hl : l.length ≤ 4611686018427387904) (hn : OKN names) :
    Tells 8 [valsA f1 names, toksA f2 l] (resV (ofF names l)) := expr_Of f1 f2 names l (expr_Take f1 f2 names l hl hn.1 hn.2)

def numberF (names : List Val) (l : List Tok) : Int × Int :=
  if (ofF names l).2 = 0 then (if (ofF names l).1.sym = emptyS then ((ofF names l).1.n, 0) else (0, 6)) else (0, (ofF names l).2)

theorem expr_Number (f1 f2 : Bool) (names : List Val) (l : List Tok) (hl : l.length ≤ 4611686018427387904) (hn : OKN names) :
    Tells 27 [valsA f1 names, toksA f2 l] (.tup [.c (.int .i64 (numberF names l).1), .c (.int .i64 (numberF names l).2)]) := by
  refine CallsA.body Try.func27 rfl (by decide) fun Γ => Run.of_ex 1000 ?_
  simp [Try.f27, valsA, toksA]
  refine (expr_Of2 f1 f2 names l hl hn).call ?_
  simp [resV, valA]
  intro b1
  simp [exW]
  by_cases h1 : (ofF names l).2 = 0
  · by_cases h2 : (ofF names l).1.sym = emptyS
    · have h2' : (ofF names l).1.sym = { data := #[] } := h2
      simp [h1, h2']
      simp [numberF, h1, h2]
    · have h2' : ¬ (ofF names l).1.sym = { data := #[] } := h2
      simp [h1, h2']
      simp [numberF, h1, h2]
  · simp [h1]
    simp [numberF, h1]
end Go.Ab

set_option linter.unusedVariables false
set_option linter.unusedSimpArgs false
set_option maxRecDepth 100000
namespace Go.Ab
open Go.Proofs

theorem u8_rng (n : Int) : 0 ≤ IntKind.u8.wrap n ∧ IntKind.u8.wrap n < 256 := by
  simp only [IntKind.wrap, IntKind.bits, IntKind.signed]
  have h2 : (2 : Int) ^ 8 = 256 := by decide
  simp
  omega
def dV (c : Int) : Int := if digitB c = true then IntKind.u8.wrap (c - 48) else IntKind.u8.wrap (c - 97) + 10
theorem dV_rng (c : Int) : 0 ≤ dV c ∧ dV c < 266 := by
  unfold dV
  have h1 := u8_rng (c - 48)
  have h2 := u8_rng (c - 97)
  split <;> omega
/-- The number that digits are, below 2^31. -/
def valGo (s : ByteArray) (base : Int) : Nat → Nat → Int → Option Int
  | 0, _, n => some n
  | k + 1, i, n => if 2147483648 ≤ n * base + dV (byteAt s i) then none else valGo s base k (i + 1) (n * base + dV (byteAt s i))
def valueF (s : ByteArray) (base : Int) : Option Int := valGo s base s.size 0 0

theorem ref_valueX (s : ByteArray) (base : Int) (hb : base = 10 ∨ base = 16) (hs : s.size ≤ 4611686018427387904) :
    Tells 55 [.c (.string s), .c (.int .i64 base)] (.tup [.c (.int .i64 ((valueF s base).getD 0)), .c (.bool (valueF s base).isSome)]) := by
  refine CallsA.body Try.func55 rfl (by decide) fun Γ => Run.of_ex 1000 ?_
  simp [Try.f55]
  refine Run.head (fun x : Nat × Int => ⟨[.c (.string s), .c (.int .i64 base), .bad, .bad, .c (.int .i64 0), .c (.bool false), .c (.int .i64 x.2), .c (.int .i64 x.1)] ++ List.replicate 31 .bad, []⟩) (fun x => s.size - x.1)
    (fun x => x.1 ≤ s.size ∧ 0 ≤ x.2 ∧ x.2 < 2147483648 ∧ valGo s base (s.size - x.1) x.1 x.2 = valueF s base) ?_ (0, 0) _ _ ?_ ?_ (List.Sublist.refl _)
  · rintro ⟨i, n⟩ ⟨hi, hn0, hn1, hI⟩ ih
    simp only at hi hn0 hn1 hI ih
    refine Run.of_ex 1000 ?_
    simp [List.replicate]
    by_cases hlt : i < s.size
    · have h1 : (i : Int) < (s.size : Int) := by omega
      have h2 : IntKind.i64.wrap ((i : Int) + 1) = ((i + 1 : Nat) : Int) := wrap_i64 (by omega) (by omega)
      have h3 : s.size - i = (s.size - (i + 1)) + 1 := by omega
      have hd := dV_rng (byteAt s i)
      have w1 : IntKind.i64.wrap (n * base) = n * base := wrap_i64 (by rcases hb with rfl | rfl <;> omega) (by rcases hb with rfl | rfl <;> omega)
      have w2 : IntKind.i64.wrap (n * base + dV (byteAt s i)) = n * base + dV (byteAt s i) := wrap_i64 (by rcases hb with rfl | rfl <;> omega) (by rcases hb with rfl | rfl <;> omega)
      have r1 := u8_rng (byteAt s i - 48)
      have r2 := u8_rng (byteAt s i - 97)
      have w3 : IntKind.i64.wrap (IntKind.u8.wrap (byteAt s i - 48)) = IntKind.u8.wrap (byteAt s i - 48) := wrap_i64 (by omega) (by omega)
      have w4 : IntKind.i64.wrap (IntKind.u8.wrap (byteAt s i - 97)) = IntKind.u8.wrap (byteAt s i - 97) := wrap_i64 (by omega) (by omega)
      have w5 : IntKind.i64.wrap (IntKind.u8.wrap (byteAt s i - 97) + 10) = IntKind.u8.wrap (byteAt s i - 97) + 10 := wrap_i64 (by omega) (by omega)
      rw [h3] at hI
      simp only [valGo] at hI
      simp [hlt, h1]
      refine (ref_digit _).call ?_
      cases hb' : digitB (byteAt s i)
      · have e : dV (byteAt s i) = IntKind.u8.wrap (byteAt s i - 97) + 10 := by simp [dV, hb']
        rw [e] at hI w2
        simp [hlt, h1, w1, w4, w5, w2]
        by_cases hc : 2147483648 ≤ n * base + (IntKind.u8.wrap (byteAt s i - 97) + 10)
        · rw [if_pos hc] at hI
          simp [hc]
          simp [← hI]
        · rw [if_neg hc] at hI
          simp [hc, h2]
          refine ih (i + 1, n * base + (IntKind.u8.wrap (byteAt s i - 97) + 10)) _ _ ⟨by simp only []; omega, by simp only []; rcases hb with rfl | rfl <;> omega, by simp only []; omega, hI⟩ (show s.size - (i + 1) < s.size - i by omega) ?_ (List.Sublist.refl _)
          simp [List.replicate]
      · have e : dV (byteAt s i) = IntKind.u8.wrap (byteAt s i - 48) := by simp [dV, hb']
        rw [e] at hI w2
        simp [hlt, h1, w1, w3, w2]
        by_cases hc : 2147483648 ≤ n * base + IntKind.u8.wrap (byteAt s i - 48)
        · rw [if_pos hc] at hI
          simp [hc]
          simp [← hI]
        · rw [if_neg hc] at hI
          simp [hc, h2]
          refine ih (i + 1, n * base + IntKind.u8.wrap (byteAt s i - 48)) _ _ ⟨by simp only []; omega, by simp only []; rcases hb with rfl | rfl <;> omega, by simp only []; omega, hI⟩ (show s.size - (i + 1) < s.size - i by omega) ?_ (List.Sublist.refl _)
          simp [List.replicate]
    · have h1 : ¬ (i : Int) < (s.size : Int) := by omega
      have h2 : s.size - i = 0 := by omega
      rw [h2] at hI
      simp only [valGo] at hI
      simp [hlt, h1]
      simp [← hI]
  · simp [valueF]
  · simp [List.replicate]

def tok0 : Tok := ⟨0, emptyS, 0, 0⟩
def signsC : List Int := [44, 58, 43, 45, 42, 40, 41, 64]
def hexS : ByteArray := { data := #[48, 120] }
def digHexB (h : Bool) (c : Int) : Bool := digitB c || (h && hexB c)
/-- The word that a text begins with, and how long it is. -/
def oneF (s : ByteArray) : Tok × Nat :=
  if beginsB (byteAt s 0) = true then (if 12 < spanN followsB s s.size 0 then (tok0, 0) else (⟨1, s.extract 0 (spanN followsB s s.size 0), 0, 0⟩, spanN followsB s s.size 0))
  else if digitB (byteAt s 0) = true then
    (if 1 < s.size ∧ s.extract 0 2 = hexS then
      (if (valueF (s.extract 2 (spanN (digHexB true) s (s.size - 2) 2)) 16).isSome = true ∧ spanN (digHexB true) s (s.size - 2) 2 ≠ 2 then (⟨2, emptyS, (valueF (s.extract 2 (spanN (digHexB true) s (s.size - 2) 2)) 16).getD 0, 0⟩, spanN (digHexB true) s (s.size - 2) 2) else (tok0, 0))
    else
      (if (valueF (s.extract 0 (spanN (digHexB false) s s.size 0)) 10).isSome = true ∧ spanN (digHexB false) s s.size 0 ≠ 0 then (⟨2, emptyS, (valueF (s.extract 0 (spanN (digHexB false) s s.size 0)) 10).getD 0, 0⟩, spanN (digHexB false) s s.size 0) else (tok0, 0)))
  else if byteAt s 0 ∈ signsC then (⟨3, s.extract 0 1, 0, 0⟩, 1) else (tok0, 0)

theorem spanN_le (g : Int → Bool) (s : ByteArray) : ∀ (n i : Nat), i ≤ s.size → i ≤ spanN g s n i ∧ spanN g s n i ≤ s.size
  | 0, i, h => ⟨Nat.le_refl _, h⟩
  | n + 1, i, h => by
    unfold spanN
    split
    · rename_i hc
      have := spanN_le g s n (i + 1) (by omega)
      omega
    · exact ⟨Nat.le_refl _, h⟩
end Go.Ab
