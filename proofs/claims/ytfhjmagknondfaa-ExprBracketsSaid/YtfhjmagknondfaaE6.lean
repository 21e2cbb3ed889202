/- What copies words. -/
import Derived.Test.YtfhjmagknondfaaE5
set_option linter.unusedVariables false
set_option linter.unusedSimpArgs false
set_option maxRecDepth 100000
namespace Go.Ab
open Go.Proofs

theorem CopyTokens (fr : Bool) (l : List Tok) (hl : l.length ≤ 1048576) :
    CallsA Try.prog 10 [toksA fr l] [] (OwnR 40 4 (l.map tokA)) := by
  refine CallsA.body Try.func10 rfl (by decide) fun Γ => Run.of_ex 1000 ?_
  simp [Try.f10, toksA]
  refine Run.head (fun x : Nat × Nat × Nat => ⟨[.sl fr 4 (l.map tokA), .bad, .bad, ownX ((l.take x.1).map tokA) x.2.1 x.2.2, .c (.int .i64 x.1)] ++ List.replicate 14 .bad, ownH 40 4 ((l.take x.1).map tokA) x.2.1 x.2.2⟩) (fun x => l.length - x.1)
    (fun x => x.1 ≤ l.length) ?_ (0, 0, 0) _ _ ?_ ?_ ?_
  · rintro ⟨i, b, cap⟩ hi ih
    simp only at hi ih
    refine Run.of_ex 1000 ?_
    simp [List.replicate]
    by_cases hlt : i < l.length
    · have h1 : (i : Int) < (l.length : Int) := by omega
      have h2 : IntKind.i64.wrap ((i : Int) + 1) = ((i + 1 : Nat) : Int) := wrap_i64 (by omega) (by omega)
      have ht : l.take (i + 1) = l.take i ++ [l[i]] := by simp
      by_cases h0 : i = 0
      · subst h0
        simp [hlt, h1, ownX, ownH, tokA]
        intro b1
        simp [exW]
        intro b' cap' n1 n2
        have hne : l ≠ [] := fun e => by simp [e] at hlt
        have ht1 : l.take 1 = [l[0]] := by simpa using ht
        have hw1 : IntKind.i64.wrap 1 = 1 := by decide
        rw [hw1]
        refine ih (1, b', cap') _ _ (by simp only []; omega) (show l.length - 1 < l.length - 0 by omega) ?_ ?_
        · simp [List.replicate, ht1, ownX]
        · simp [ht1, ownH, tokA]
      · have hne : l ≠ [] := fun e => by simp [e] at hlt
        have hmin : min i l.length = i := by omega
        simp [hlt, h1, h0, hne, ownX, ownH, tokA, hmin]
        intro b1 n1 n2
        simp [exW, n1, n2, hmin]
        refine ⟨by omega, fun b' cap' n3 n4 => ?_⟩
        rw [h2]
        have hne2 : (l.take (i + 1)).map tokA ≠ [] := by rw [ht, List.map_append]; intro e; simp at e
        have hlen2 : ((l.take (i + 1)).map tokA).length = i + 1 := by simp; omega
        refine ih (i + 1, b', cap') _ _ (by simp only []; omega) (show l.length - (i + 1) < l.length - i by omega) ?_ ?_
        · simp only [ownX, if_neg hne2, hlen2]
          simp [List.replicate]
        · simp only [ownH, if_neg hne2]
          rw [ht, List.map_append]
          simp [tokA, List.take_take]
    · have h1 : ¬ (i : Int) < (l.length : Int) := by omega
      have : i = l.length := by omega
      subst this
      simp [hlt, h1]
      have e1 : List.take l.length (List.map tokA l) = List.map tokA l := List.take_of_length_le (by simp)
      rw [e1]
      exact ⟨_, List.Sublist.refl _, b, cap, rfl, rfl⟩
  · simp
  · simp [List.replicate, ownX]
  · simp [ownH]
end Go.Ab

set_option linter.unusedVariables false
set_option linter.unusedSimpArgs false
set_option maxRecDepth 100000
namespace Go.Ab
open Go.Proofs

theorem law9_num (n : Int) : Tells 9 [.c (.int .i64 n)] (.c (.int .i64 n)) := by
  refine CallsA.body Try.func9 rfl (by decide) fun Γ => Run.of_ex 1000 ?_
  simp [Try.f9]

def sgT (s : ByteArray) : Tok := ⟨3, s, 0, 0⟩
def signsL : List Tok := [sgT openS, sgT closeS, sgT plusS, sgT minusS]

theorem law9_signs : CallsA Try.prog 7 [] [] (OwnR 40 4 (signsL.map tokA)) := by
  refine CallsA.body Try.func7 rfl (by decide) fun Γ => Run.of_ex 1000 ?_
  have hr : List.range 4 = [0, 1, 2, 3] := rfl
  simp [Try.f7, hr]
  intro b
  simp [exW]
  refine ⟨_, List.Sublist.refl _, b, 4, ?_, ?_⟩
  · simp [ownX, signsL]
  · simp [ownH, signsL, tokA, sgT, openS, closeS, plusS, minusS]

theorem wrap_u64 {n : Int} (h0 : 0 ≤ n) (h1 : n ≤ 18446744073709551615) : IntKind.u64.wrap n = n := by
  simp only [IntKind.wrap, IntKind.bits, IntKind.signed]
  have h2 : (2 : Int) ^ 64 = 18446744073709551616 := by decide
  simp
  omega
theorem u64_pos (n : Int) : 0 ≤ IntKind.u64.wrap n := by
  simp only [IntKind.wrap, IntKind.bits, IntKind.signed]
  have h2 : (2 : Int) ^ 64 = 18446744073709551616 := by decide
  simp
  omega

theorem law0_Within (i n : Int) (h0 : 0 < n) (h1 : n ≤ 9223372036854775807) : CallsA Try.prog 25 [.c (.int .i64 i), .c (.int .i64 n)] [] fun x h => (∃ m : Nat, x = .c (.int .i64 m) ∧ (m : Int) < n) ∧ h = [] := by
  refine CallsA.body Try.func25 rfl (by decide) fun Γ => Run.of_ex 1000 ?_
  have e1 : IntKind.u64.wrap n = n := wrap_u64 (by omega) (by omega)
  have hu := u64_pos i
  have h2 : 0 ≤ (IntKind.u64.wrap i).tmod n := Int.tmod_nonneg _ hu
  have h3 : (IntKind.u64.wrap i).tmod n < n := Int.tmod_lt_of_pos _ h0
  have e2 : IntKind.i64.wrap ((IntKind.u64.wrap i).tmod n) = (IntKind.u64.wrap i).tmod n := wrap_i64 (by omega) (by omega)
  have hn : ¬ n = 0 := by omega
  simp [Try.f25, e1, hn, e2]
  exact ⟨((IntKind.u64.wrap i).tmod n).toNat, by omega, by omega⟩
end Go.Ab

set_option linter.unusedVariables false
set_option linter.unusedSimpArgs false
set_option maxRecDepth 100000
namespace Go.Ab
open Go.Proofs

def strA (s : ByteArray) : AV := .c (.string s)
def strsA (fr : Bool) (l : List ByteArray) : AV := .sl fr 1 (l.map strA)
@[simp] theorem ones_strs {l : List ByteArray} : onesP (l.map strA) := onesP_map fun _ => rfl

theorem law0_TokensWeight (fr : Bool) (l : List Tok) (hl : l.length ≤ 1152921504606846976) (hs : ∀ t ∈ l, t.text.size ≤ 1152921504606846976) :
    CallsA Try.prog 39 [toksA fr l] [] fun x h => (∃ n : Nat, x = .c (.int .i64 n) ∧ l.length ≤ n ∧ n ≤ 2305843009213693952 ∧ (n < 1048576 → ∀ t ∈ l, t.text.size ≤ 4 * n + 3)) ∧ h = [] := by
  refine CallsA.body Try.func39 rfl (by decide) fun Γ => Run.of_ex 1000 ?_
  simp [Try.f39, toksA]
  refine Run.head (fun x : Nat × Nat => ⟨[.sl fr 4 (l.map tokA), .bad, .bad, .c (.int .i64 x.2), .c (.int .i64 x.1)] ++ List.replicate 22 .bad, []⟩) (fun x => l.length - x.1)
    (fun x => x.1 ≤ l.length ∧ l.length ≤ x.2 ∧ x.2 ≤ 2305843009213693952 ∧ ∀ j, j < x.1 → ∀ t, l[j]? = some t → t.text.size ≤ 4 * x.2 + 3) ?_ (0, l.length) _ _ ?_ ?_ (List.Sublist.refl _)
  · rintro ⟨i, n⟩ ⟨hi, hn, hm, hj⟩ ih
    simp only at hi hn hm hj ih
    refine Run.of_ex 1000 ?_
    simp [List.replicate]
    by_cases hlt : i < l.length
    · have h1 : (i : Int) < (l.length : Int) := by omega
      have h2 : IntKind.i64.wrap ((i : Int) + 1) = ((i + 1 : Nat) : Int) := wrap_i64 (by omega) (by omega)
      have hsz := hs l[i] (List.getElem_mem hlt)
      by_cases hb : n < 1048576
      · have hb' : (n : Int) < 1048576 := by omega
        have h3 : IntKind.i64.wrap ((l[i].text.size : Int) / 4) = ((l[i].text.size / 4 : Nat) : Int) := by
          rw [wrap_i64 (by omega) (by omega)]; omega
        have h4 : IntKind.i64.wrap ((n : Int) + ((l[i].text.size / 4 : Nat) : Int)) = ((n + l[i].text.size / 4 : Nat) : Int) := by
          rw [wrap_i64 (by omega) (by omega)]; omega
        simp [hlt, h1, hb, hb', tokA]
        rw [h3, h4, h2]
        refine ih (i + 1, n + l[i].text.size / 4) _ _ ⟨by simp only []; omega, by simp only []; omega, by simp only []; omega, fun j hj2 t ht => by
          simp only at hj2 ⊢
          by_cases hji : j = i
          · subst hji; rw [List.getElem?_eq_getElem hlt] at ht; cases ht; omega
          · have := hj j (by omega) t ht; omega⟩ (show l.length - (i + 1) < l.length - i by omega) ?_ (List.Sublist.refl _)
        simp [List.replicate]
      · have hb' : ¬ (n : Int) < 1048576 := by omega
        simp [hlt, h1, hb, hb']
        exact ⟨n, rfl, by omega, by omega, fun h => absurd h (by omega)⟩
    · have h1 : ¬ (i : Int) < (l.length : Int) := by omega
      simp [hlt, h1]
      refine ⟨n, rfl, by omega, by omega, fun _ t ht => ?_⟩
      obtain ⟨j, hj1, hj2⟩ := List.mem_iff_getElem.1 ht
      exact hj j (by omega) t (by rw [← hj2]; exact List.getElem?_eq_getElem hj1)
  · refine ⟨Nat.zero_le _, Nat.le_refl _, ?_, fun j hj => absurd hj (Nat.not_lt_zero _)⟩
    show l.length ≤ _
    omega
  · simp [List.replicate]
theorem law0_Texts (fr : Bool) (l : List ByteArray) (hl : l.length ≤ 1152921504606846976) (hs : ∀ t ∈ l, t.size ≤ 1152921504606846976) :
    CallsA Try.prog 38 [strsA fr l] [] fun x h => (∃ n : Nat, x = .c (.int .i64 n) ∧ l.length ≤ n ∧ n ≤ 2305843009213693952 ∧ (n < 1048576 → ∀ t ∈ l, t.size ≤ n)) ∧ h = [] := by
  refine CallsA.body Try.func38 rfl (by decide) fun Γ => Run.of_ex 1000 ?_
  simp [Try.f38, strsA]
  refine Run.head (fun x : Nat × Nat => ⟨[.sl fr 1 (l.map strA), .bad, .bad, .c (.int .i64 x.2), .c (.int .i64 x.1)] ++ List.replicate 20 .bad, []⟩) (fun x => l.length - x.1)
    (fun x => x.1 ≤ l.length ∧ l.length ≤ x.2 ∧ x.2 ≤ 2305843009213693952 ∧ ∀ j, j < x.1 → ∀ t, l[j]? = some t → t.size ≤ x.2) ?_ (0, l.length) _ _ ?_ ?_ (List.Sublist.refl _)
  · rintro ⟨i, n⟩ ⟨hi, hn, hm, hj⟩ ih
    simp only at hi hn hm hj ih
    refine Run.of_ex 1000 ?_
    simp [List.replicate]
    by_cases hlt : i < l.length
    · have h1 : (i : Int) < (l.length : Int) := by omega
      have h2 : IntKind.i64.wrap ((i : Int) + 1) = ((i + 1 : Nat) : Int) := wrap_i64 (by omega) (by omega)
      have hsz := hs l[i] (List.getElem_mem hlt)
      by_cases hb : n < 1048576
      · have hb' : (n : Int) < 1048576 := by omega
        have h4 : IntKind.i64.wrap ((n : Int) + ((l[i].size : Nat) : Int)) = ((n + l[i].size : Nat) : Int) := by
          rw [wrap_i64 (by omega) (by omega)]; omega
        simp [hlt, h1, hb, hb', strA]
        rw [h4, h2]
        refine ih (i + 1, n + l[i].size) _ _ ⟨by simp only []; omega, by simp only []; omega, by simp only []; omega, fun j hj2 t ht => by
          simp only at hj2 ⊢
          by_cases hji : j = i
          · subst hji; rw [List.getElem?_eq_getElem hlt] at ht; cases ht; omega
          · have := hj j (by omega) t ht; omega⟩ (show l.length - (i + 1) < l.length - i by omega) ?_ (List.Sublist.refl _)
        simp [List.replicate]
      · have hb' : ¬ (n : Int) < 1048576 := by omega
        simp [hlt, h1, hb, hb']
        exact ⟨n, rfl, by omega, by omega, fun h => absurd h (by omega)⟩
    · have h1 : ¬ (i : Int) < (l.length : Int) := by omega
      simp [hlt, h1]
      refine ⟨n, rfl, by omega, by omega, fun _ t ht => ?_⟩
      obtain ⟨j, hj1, hj2⟩ := List.mem_iff_getElem.1 ht
      exact hj j (by omega) t (by rw [← hj2]; exact List.getElem?_eq_getElem hj1)
  · refine ⟨Nat.zero_le _, Nat.le_refl _, ?_, fun j hj => absurd hj (Nat.not_lt_zero _)⟩
    show l.length ≤ _
    omega
  · simp [List.replicate]
end Go.Ab
