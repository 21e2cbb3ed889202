/- More than is played? -/
import Derived.Test.YtfhjmagknondfaaE6
set_option linter.unusedVariables false
set_option linter.unusedSimpArgs false
set_option maxRecDepth 100000
namespace Go.Ab
open Go.Proofs

/-- Lists of words. -/
def toksLA (fr : Bool) (T : List (List Tok)) : AV := .sl fr 1 (T.map (toksA fr))
@[simp] theorem ones_toksL {fr : Bool} {T : List (List Tok)} : onesP (T.map (toksA fr)) := onesP_map fun _ => rfl
def ask8A (fr : Bool) (S : List ByteArray) (T : List (List Tok)) : AV := .agg [strsA fr S, toksLA fr T]

structure Ask8OK (S : List ByteArray) (T : List (List Tok)) : Prop where
  sl : S.length ≤ 1152921504606846976
  tl : T.length ≤ 1152921504606846976
  ss : ∀ s ∈ S, s.size ≤ 1152921504606846976
  tt : ∀ t ∈ T, t.length ≤ 1152921504606846976 ∧ ∀ w ∈ t, w.text.size ≤ 1152921504606846976

/-- What is played. -/
structure Light8 (S : List ByteArray) (T : List (List Tok)) : Prop where
  tl : T.length ≤ 900
  sl : S.length ≤ 7207
  ss : ∀ s ∈ S, s.size ≤ 7207
  tt : ∀ t ∈ T, t.length ≤ 900 ∧ ∀ w ∈ t, w.text.size ≤ 3603
def HeavyR (S : List ByteArray) (T : List (List Tok)) (x : AV) (h : List It) : Prop := (∃ b, x = .c (.bool b) ∧ (b = false → Light8 S T)) ∧ h = []

theorem law8_Heavy (fr : Bool) (S : List ByteArray) (T : List (List Tok)) (ok : Ask8OK S T) : CallsA Try.prog 23 [ask8A fr S T] [] (HeavyR S T) := by
  refine CallsA.body Try.func23 rfl (by decide) fun Γ => Run.of_ex 1000 ?_
  simp [Try.f23, ask8A, strsA, toksLA]
  intro b1
  simp [exW]
  refine Run.draws 1000 mixed [(5, b1)] (.calm 0 [] (.calm 1 [5] (.calm 2 [] (.calm 3 [] (.calm 4 [] (.fork (.alt 5 (.calm 6 [] (.calm 7 [] (.calm 8 [] .done))) .stop))))))) (by kernel_rfl) ?_
  simp
  refine CallV.pure (law0_Texts fr S ok.sl ok.ss) ?_
  rintro r h' ⟨⟨n, rfl, hn1, hn2, hn3⟩, rfl⟩ _
  simp
  have e1 : IntKind.i64.wrap ((n : Int) / 8) = ((n / 8 : Nat) : Int) := by rw [wrap_i64 (by omega) (by omega)]; omega
  have htl := ok.tl
  have e2 : IntKind.i64.wrap ((T.length : Int) + ((n / 8 : Nat) : Int)) = ((T.length + n / 8 : Nat) : Int) := by rw [wrap_i64 (by omega) (by omega)]; omega
  rw [e1, e2]
  refine Run.head (fun x : Nat × Nat => ⟨[ask8A fr S T, .c (.pointer (some ⟨b1, 0, none⟩)), .bad, .c (.int .i64 x.2), .c (.int .i64 x.1)] ++ List.replicate 29 .bad, [.obj b1 25 [strsA fr S, toksLA fr T]]⟩) (fun x => T.length - x.1)
    (fun x => x.1 ≤ T.length ∧ x.2 ≤ 4611686018427387904 ∧ T.length + n / 8 ≤ x.2 ∧ ∀ j, j < x.1 → ∀ t, T[j]? = some t → t.length ≤ x.2 ∧ (x.2 < 1048576 → ∀ w ∈ t, w.text.size ≤ 4 * x.2 + 3)) ?_ (0, T.length + n / 8) _ _ ?_ ?_ ?_
  · rintro ⟨i, m⟩ ⟨hi, hm, hmn, hj⟩ ih
    simp only at hi hm hmn hj ih
    refine Run.of_ex 1000 ?_
    simp [List.replicate, ask8A, strsA, toksLA]
    by_cases hlt : i < T.length
    · have h1 : (i : Int) < (T.length : Int) := by omega
      have h2 : IntKind.i64.wrap ((i : Int) + 1) = ((i + 1 : Nat) : Int) := wrap_i64 (by omega) (by omega)
      by_cases hb : m < 1048576
      · have hb' : (m : Int) < 1048576 := by omega
        have htt := ok.tt T[i] (List.getElem_mem hlt)
        simp [hlt, h1, hb, hb', toksA]
        refine CallV.pure (law0_TokensWeight fr T[i] htt.1 htt.2) ?_
        rintro r h' ⟨⟨q, rfl, hq1, hq2, hq3⟩, rfl⟩ _
        have h4 : IntKind.i64.wrap ((m : Int) + (q : Int)) = ((m + q : Nat) : Int) := by rw [wrap_i64 (by omega) (by omega)]; omega
        simp
        rw [h4, h2]
        refine ih (i + 1, m + q) _ _ ⟨by simp only []; omega, by simp only []; omega, by simp only []; omega, ?_⟩ (show T.length - (i + 1) < T.length - i by omega) ?_ ?_
        · intro j hj2 t ht
          simp only at hj2 ⊢
          by_cases hji : j = i
          · subst hji
            rw [List.getElem?_eq_getElem hlt] at ht
            cases ht
            exact ⟨by omega, fun hlt w hw => by have := hq3 (by omega) w hw; omega⟩
          · have h5 := hj j (by omega) t ht
            exact ⟨by omega, fun hlt w hw => by have := h5.2 (by omega) w hw; omega⟩
        · simp [List.replicate, ask8A, strsA, toksLA, toksA]
        · simp [strsA, toksLA, toksA]
      · have hb' : ¬ (m : Int) < 1048576 := by omega
        simp [hlt, h1, hb, hb']
        exact ⟨[], by simp, ⟨_, rfl, fun h => by simp at h; omega⟩, rfl⟩
    · have h1 : ¬ (i : Int) < (T.length : Int) := by omega
      simp [hlt, h1]
      refine ⟨[], by simp, ⟨_, rfl, fun h => ?_⟩, rfl⟩
      simp at h
      have h7 := hn3 (by omega)
      refine ⟨by omega, by omega, fun s hs => by have := h7 s hs; omega, fun t ht => ?_⟩
      obtain ⟨j, hj1, hj2⟩ := List.mem_iff_getElem.1 ht
      have h5 := hj j (by omega) t (by rw [← hj2]; exact List.getElem?_eq_getElem hj1)
      exact ⟨by omega, fun w hw => by have := h5.2 (by omega) w hw; omega⟩
  · refine ⟨Nat.zero_le _, ?_, Nat.le_refl _, fun j hj => absurd hj (Nat.not_lt_zero _)⟩
    show T.length + n / 8 ≤ _
    omega
  · simp [List.replicate, ask8A, strsA, toksLA]
  · simp [strsA, toksLA]
end Go.Ab

set_option linter.unusedVariables false
set_option linter.unusedSimpArgs false
set_option maxRecDepth 100000
namespace Go.Ab
open Go.Proofs

def ask9A (fr : Bool) (S : List ByteArray) (T : List (List Tok)) (N V : List Val) : AV := .agg [strsA fr S, toksLA fr T, valsA fr N, valsA fr V]
def Heavy9R (S : List ByteArray) (T : List (List Tok)) (N : List Val) (x : AV) (h : List It) : Prop := (∃ b, x = .c (.bool b) ∧ (b = false → Light8 S T ∧ N.length ≤ 200)) ∧ h = []

theorem law9_Heavy (fr : Bool) (S : List ByteArray) (T : List (List Tok)) (N V : List Val) (ok : Ask8OK S T) (hN : N.length ≤ 1152921504606846976) (hV : V.length ≤ 1152921504606846976) :
    CallsA Try.prog 5 [ask9A fr S T N V] [] (Heavy9R S T N) := by
  refine CallsA.body Try.func5 rfl (by decide) fun Γ => Run.of_ex 1000 ?_
  simp [Try.f5, ask9A, strsA, toksLA, valsA]
  intro b1
  simp [exW]
  have h4 : IntKind.i64.wrap ((N.length : Int) + (V.length : Int)) = ((N.length + V.length : Nat) : Int) := by rw [wrap_i64 (by omega) (by omega)]; omega
  rw [h4]
  by_cases hb : 200 < N.length + V.length
  · have hb' : (200 : Int) < (N.length : Int) + (V.length : Int) := by omega
    simp [hb, hb']
    exact ⟨[], by simp, ⟨_, rfl, fun h => by cases h⟩, rfl⟩
  · have hb' : ¬ (200 : Int) < (N.length : Int) + (V.length : Int) := by omega
    simp [hb, hb']
    refine CallV.pure (law8_Heavy fr S T ok) ?_
    rintro r h' ⟨⟨b, rfl, hb2⟩, rfl⟩ _
    simp
    exact ⟨[], by simp, ⟨_, rfl, fun h => ⟨hb2 (by simpa using h), by omega⟩⟩, rfl⟩
end Go.Ab

set_option linter.unusedVariables false
set_option linter.unusedSimpArgs false
set_option maxRecDepth 100000
namespace Go.Ab
open Go.Proofs

def takeF (names : List Val) (l : List Tok) : Val × Nat × Int :=
  if namesB names = true ∧ tokensB l = true then (if (topF l names 0).1.2 = 0 then ((topF l names 0).1.1, (topF l names 0).2, 0) else (v0, 0, (topF l names 0).1.2)) else (v0, 0, 1)
def ofF (names : List Val) (l : List Tok) : Val × Int :=
  if (takeF names l).2.2 = 0 then (if (takeF names l).2.1 < l.length then (v0, 3) else ((takeF names l).1, 0)) else (v0, (takeF names l).2.2)

theorem expr_Of (f1 f2 : Bool) (names : List Val) (l : List Tok) (hT : Tells 26 [valsA f1 names, toksA f2 l] (.tup [valA (takeF names l).1, .c (.int .i64 (takeF names l).2.1), .c (.int .i64 (takeF names l).2.2)])) :
    Tells 8 [valsA f1 names, toksA f2 l] (resV (ofF names l)) := by
  refine CallsA.body Try.func8 rfl (by decide) fun Γ => Run.of_ex 1000 ?_
  simp [Try.f8, valsA, toksA]
  intro b1
  simp [exW]
  refine hT.call ?_
  simp [valA]
  intro b2 n1 n2
  simp [exW, n1, n2]
  by_cases he : (takeF names l).2.2 = 0
  · by_cases hn : (takeF names l).2.1 < l.length
    · have hn' : ((takeF names l).2.1 : Int) < (l.length : Int) := by omega
      simp [he, hn, hn', n1, n2]
      simp [ofF, he, hn, n1, n2, resV, valA, v0, emptyS]
    · have hn' : ¬ ((takeF names l).2.1 : Int) < (l.length : Int) := by omega
      simp [he, hn, hn', n1, n2]
      simp [ofF, he, hn, n1, n2, resV, valA]
  · simp [he, n1, n2]
    simp [ofF, he, n1, n2, resV, valA, v0, emptyS]
end Go.Ab
