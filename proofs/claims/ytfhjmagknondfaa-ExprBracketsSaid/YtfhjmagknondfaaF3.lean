/- The reference's words. -/
import Derived.Test.YtfhjmagknondfaaF2
set_option linter.unusedVariables false
set_option linter.unusedSimpArgs false
set_option maxRecDepth 100000
namespace Go.Ab
open Go.Proofs

/-- Some byte is c. -/
def hasGo (s : ByteArray) (c : Int) : Nat → Nat → Bool
  | 0, _ => false
  | n + 1, i => decide (byteAt s i = c) || hasGo s c n (i + 1)
def hasB (s : ByteArray) (c : Int) : Bool := hasGo s c s.size 0

def wordsGo (s : ByteArray) : Nat → Nat → List Tok → List Tok × Nat × Int
  | 0, at_, l => (l, 0, 0)
  | n + 1, at_, l =>
    if at_ < s.size ∧ byteAt s at_ ≠ 59 then
      (if byteAt s at_ = 32 ∨ byteAt s at_ = 9 then wordsGo s n (at_ + 1) l
      else if (oneF (s.extract at_ s.size)).2 = 0 then ([], at_, 3)
      else if 40 ≤ l.length then ([], at_, 2)
      else wordsGo s n (at_ + (oneF (s.extract at_ s.size)).2) (l ++ [{ (oneF (s.extract at_ s.size)).1 with at_ := at_ }]))
    else (l, 0, 0)
/-- A line's words; where, the error. -/
def wordsF (s : ByteArray) : List Tok × Nat × Int := if hasB s 10 = true then ([], 0, 3) else wordsGo s (s.size + 1) 0 []

theorem oneF_le (s : ByteArray) : (oneF s).2 ≤ s.size ∨ s.size = 0 := by
  by_cases h0 : s.size = 0
  · exact .inr h0
  left
  have h1 := spanN_le followsB s s.size 0 (Nat.zero_le _)
  have h2 := spanN_le (digHexB false) s s.size 0 (Nat.zero_le _)
  unfold oneF
  repeat' split
  all_goals first
    | exact Nat.zero_le _
    | exact h1.2
    | exact h2.2
    | (rename_i h _; exact (spanN_le (digHexB true) s (s.size - 2) 2 (by omega)).2)
    | (show 1 ≤ s.size; omega)

def WordsR (l : List Tok) (a : Nat) (e : Int) (x : AV) (h : List It) : Prop := ∃ b cap, x = .tup [ownX (l.map tokA) b cap, .c (.int .i64 a), .c (.int .i64 e)] ∧ h = ownH 40 4 (l.map tokA) b cap

theorem wordsR_nil {a : Nat} {e : Int} : WordsR [] a e (.tup [.c (.slice none 0 0), .c (.int .i64 a), .c (.int .i64 e)]) [] := ⟨0, 0, by simp [ownX], by simp [ownH]⟩

set_option maxHeartbeats 2000000 in
theorem ref_Words0 (s : ByteArray) (hs : s.size ≤ 1048576) :
    CallsA Try.prog 24 [.c (.string s)] [] (WordsR (wordsF s).1 (wordsF s).2.1 (wordsF s).2.2) := by
  refine CallsA.body Try.func24 rfl (by decide) fun Γ => Run.of_ex 1000 ?_
  simp [Try.f24]
  refine Run.head (fun i : Nat => ⟨[.c (.string s), .bad, .c (.slice none 0 0), .c (.int .i64 0), .c (.int .i64 0), .c (.int .i64 i)] ++ List.replicate 60 .bad, []⟩) (fun i => s.size - i)
    (fun i => i ≤ s.size ∧ hasGo s 10 (s.size - i) i = hasB s 10) ?_ 0 _ _ ?_ ?_ ?_
  · intro i ⟨hi, hI⟩ ih
    refine Run.of_ex 1000 ?_
    simp [List.replicate]
    by_cases hlt : i < s.size
    · have h1 : (i : Int) < (s.size : Int) := by omega
      have h2 : IntKind.i64.wrap ((i : Int) + 1) = ((i + 1 : Nat) : Int) := wrap_i64 (by omega) (by omega)
      have h3 : s.size - i = (s.size - (i + 1)) + 1 := by omega
      rw [h3] at hI
      simp only [hasGo] at hI
      simp [hlt, h1]
      by_cases hc : byteAt s i = 10
      · simp [hc] at hI
        simp [hc]
        have hw : wordsF s = ([], 0, 3) := by simp [wordsF, hI]
        rw [hw]
        exact wordsR_nil
      · simp [hc] at hI
        simp [hc, h2]
        refine ih (i + 1) _ _ ⟨by omega, hI⟩ (show s.size - (i + 1) < s.size - i by omega) ?_ ?_
        · simp [List.replicate]
        · simp
    · have h1 : ¬ (i : Int) < (s.size : Int) := by omega
      have h2 : s.size - i = 0 := by omega
      rw [h2] at hI
      simp only [hasGo] at hI
      have hw : wordsF s = wordsGo s (s.size + 1) 0 [] := by simp [wordsF, ← hI]
      rw [hw]
      generalize hW : wordsGo s (s.size + 1) 0 [] = W
      simp [hlt, h1]
      refine Run.head (fun x : Nat × List Tok × Nat × Nat => ⟨[.c (.string s), .bad, .c (.slice none 0 0), .c (.int .i64 0), .c (.int .i64 0), .bad, ownX (x.2.1.map tokA) x.2.2.1 x.2.2.2, .c (.int .i64 x.1)] ++ List.replicate 58 .bad, ownH 40 4 (x.2.1.map tokA) x.2.2.1 x.2.2.2⟩) (fun x => s.size - x.1)
        (fun x => x.1 ≤ s.size ∧ x.2.1.length ≤ x.1 ∧ ∃ n, s.size + 1 - x.1 ≤ n ∧ wordsGo s n x.1 x.2.1 = W) ?_ (0, [], 0, 0) _ _ ?_ ?_ ?_
      · rintro ⟨i, l, b, cap⟩ ⟨hi, hl, n0, hn0, hI⟩ ih
        simp only at hi hl hn0 hI ih
        refine Run.of_ex 1000 ?_
        obtain ⟨n, rfl⟩ : ∃ n, n0 = n + 1 := ⟨n0 - 1, by omega⟩
        simp only [wordsGo] at hI
        by_cases hl0 : l = []
        · subst hl0
          have hl0 : True := trivial
          simp [List.replicate, ownX, ownH]
          by_cases hlt : i < s.size
          · have h1 : (i : Int) < (s.size : Int) := by omega
            have h1' : (i : Int) ≤ (s.size : Int) := by omega
            by_cases hsc : byteAt s i = 59
            · have hq : ¬ (i < s.size ∧ byteAt s i ≠ 59) := fun h => h.2 hsc
              rw [if_neg hq] at hI
              simp [hlt, h1, hsc]
              rw [← hI]
              exact wordsR_nil
            · have hq : i < s.size ∧ byteAt s i ≠ 59 := ⟨hlt, hsc⟩
              rw [if_pos hq] at hI
              have w1 : IntKind.i64.wrap ((i : Int) + 1) = ((i + 1 : Nat) : Int) := wrap_i64 (by omega) (by omega)
              by_cases hb : byteAt s i = 32 ∨ byteAt s i = 9
              · rw [if_pos hb] at hI
                rcases hb with hb | hb
                all_goals
                  simp [hlt, h1, hb, w1]
                  refine ih (i + 1, [], b, cap) _ _ ⟨by simp only []; omega, by simp only []; omega, n, by simp only []; omega, hI⟩ (by simp only []; omega) ?_ ?_
                  · simp [List.replicate, ownX, hl0]
                  · simp [ownH, hl0]
              · rw [if_neg hb] at hI
                have hb1 : ¬ byteAt s i = 32 := fun h => hb (.inl h)
                have hb2 : ¬ byteAt s i = 9 := fun h => hb (.inr h)
                have hes : (s.extract i s.size).size = s.size - i := by simp [ByteArray.size_extract]
                simp [hlt, h1, h1', hsc, hb1, hb2]
                refine (ref_one (s.extract i s.size) (by omega) (by omega)).call ?_
                have hole := (oneF_le (s.extract i s.size)).resolve_right (by omega)
                generalize oneF (s.extract i s.size) = o at hI hole
                simp [tokA]
                intro b2 
                simp [exW]
                by_cases hz : o.2 = 0
                · rw [if_pos hz] at hI
                  simp [hz]
                  rw [← hI]
                  exact ⟨[], by simp, wordsR_nil⟩
                · rw [if_neg hz] at hI
                  have hz' : ¬ (o.2 : Int) = 0 := by omega
                  have w2 : IntKind.i64.wrap ((i : Int) + (o.2 : Int)) = ((i + o.2 : Nat) : Int) := by rw [wrap_i64 (by omega) (by omega)]; omega
                  simp only [List.length_nil, Nat.reduceLeDiff, if_false, List.nil_append] at hI
                  simp [hz, hz', ownX]
                  intro b3 n3 n4
                  simp [exW, n3, n4]
                  intro b4 cap4 n5 n6 n7 n8
                  rw [w2]
                  refine ih (i + o.2, [⟨o.1.kind, o.1.text, o.1.n, (i : Int)⟩], b4, cap4) _ _ ⟨by simp only []; omega, by simp only [List.length_cons, List.length_nil]; omega, n, by simp only []; omega, hI⟩ (by simp only []; omega) ?_ ?_
                  · simp [List.replicate, ownX, tokA]
                  · simp [ownH, tokA]
          · have h1 : ¬ (i : Int) < (s.size : Int) := by omega
            have hq : ¬ (i < s.size ∧ byteAt s i ≠ 59) := fun h => hlt h.1
            rw [if_neg hq] at hI
            simp [hlt, h1]
            rw [← hI]
            exact wordsR_nil
        · simp [List.replicate, ownX, ownH, hl0]
          by_cases hlt : i < s.size
          · have h1 : (i : Int) < (s.size : Int) := by omega
            have h1' : (i : Int) ≤ (s.size : Int) := by omega
            by_cases hsc : byteAt s i = 59
            · have hq : ¬ (i < s.size ∧ byteAt s i ≠ 59) := fun h => h.2 hsc
              rw [if_neg hq] at hI
              simp [hlt, h1, hsc]
              rw [← hI]
              exact ⟨_, List.Sublist.refl _, b, cap, by simp [ownX, hl0], by simp [ownH, hl0]⟩
            · have hq : i < s.size ∧ byteAt s i ≠ 59 := ⟨hlt, hsc⟩
              rw [if_pos hq] at hI
              have w1 : IntKind.i64.wrap ((i : Int) + 1) = ((i + 1 : Nat) : Int) := wrap_i64 (by omega) (by omega)
              by_cases hb : byteAt s i = 32 ∨ byteAt s i = 9
              · rw [if_pos hb] at hI
                rcases hb with hb | hb
                all_goals
                  simp [hlt, h1, hb, w1]
                  refine ih (i + 1, l, b, cap) _ _ ⟨by simp only []; omega, by simp only []; omega, n, by simp only []; omega, hI⟩ (by simp only []; omega) ?_ ?_
                  · simp [List.replicate, ownX, hl0]
                  · simp [ownH, hl0]
              · rw [if_neg hb] at hI
                have hb1 : ¬ byteAt s i = 32 := fun h => hb (.inl h)
                have hb2 : ¬ byteAt s i = 9 := fun h => hb (.inr h)
                have hes : (s.extract i s.size).size = s.size - i := by simp [ByteArray.size_extract]
                simp [hlt, h1, h1', hsc, hb1, hb2]
                refine (ref_one (s.extract i s.size) (by omega) (by omega)).call ?_
                have hole := (oneF_le (s.extract i s.size)).resolve_right (by omega)
                generalize oneF (s.extract i s.size) = o at hI hole
                simp [tokA]
                intro b2 n1 n2
                simp [exW, n1, n2]
                by_cases hz : o.2 = 0
                · rw [if_pos hz] at hI
                  simp [hz]
                  rw [← hI]
                  exact ⟨[], by simp, wordsR_nil⟩
                · rw [if_neg hz] at hI
                  have hz' : ¬ (o.2 : Int) = 0 := by omega
                  have w2 : IntKind.i64.wrap ((i : Int) + (o.2 : Int)) = ((i + o.2 : Nat) : Int) := by rw [wrap_i64 (by omega) (by omega)]; omega
                  by_cases h40 : 40 ≤ l.length
                  · rw [if_pos h40] at hI
                    have h40' : (40 : Int) ≤ (l.length : Int) := by omega
                    simp [hz, hz', h40', ownX, n1, n2]
                    rw [← hI]
                    exact ⟨[], by simp, wordsR_nil⟩
                  · rw [if_neg h40] at hI
                    have h40' : ¬ (40 : Int) ≤ (l.length : Int) := by omega
                    simp [hz, hz', h40', ownX, n1, n2]
                    intro b3 n3 n4 n5 n6
                    simp [exW, n3, n4, n5, n6, n1, n2]
                    refine ⟨by omega, ?_⟩
                    intro b4 cap4 n7 n8 n9 m0
                    rw [w2]
                    have hne : ¬ (l.map tokA ++ [tokA ⟨o.1.kind, o.1.text, o.1.n, (i : Int)⟩]) = [] := by simp
                    refine ih (i + o.2, l ++ [⟨o.1.kind, o.1.text, o.1.n, (i : Int)⟩], b4, cap4) _ _ ⟨by simp only []; omega, by simp only [List.length_append, List.length_cons, List.length_nil]; omega, n, by simp only []; omega, hI⟩ (by simp only []; omega) ?_ ?_
                    · simp [List.replicate, ownX, tokA, List.take_of_length_le]
                    · simp [ownH, tokA, List.take_of_length_le]
          · have h1 : ¬ (i : Int) < (s.size : Int) := by omega
            have hq : ¬ (i < s.size ∧ byteAt s i ≠ 59) := fun h => hlt h.1
            rw [if_neg hq] at hI
            simp [hlt, h1]
            rw [← hI]
            exact ⟨_, List.Sublist.refl _, b, cap, by simp [ownX, hl0], by simp [ownH, hl0]⟩
      · exact ⟨Nat.zero_le _, Nat.zero_le _, s.size + 1, by simp, hW⟩
      · simp [List.replicate, ownX]
      · simp [ownH]
  · simp [hasB]
  · simp [List.replicate]
  · simp
end Go.Ab
