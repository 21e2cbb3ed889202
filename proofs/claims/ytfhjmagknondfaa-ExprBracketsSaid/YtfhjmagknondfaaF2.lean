/- The reference's word at a text's begin. -/
import Derived.Test.YtfhjmagknondfaaF1
set_option linter.unusedVariables false
set_option linter.unusedSimpArgs false
set_option maxRecDepth 100000
namespace Go.Ab
open Go.Proofs

set_option maxHeartbeats 4000000 in
theorem ref_one (s : ByteArray) (hs : s.size ≤ 4611686018427387904) (h0 : 0 < s.size) :
    Tells 40 [.c (.string s)] (.tup [tokA (oneF s).1, .c (.int .i64 (oneF s).2)]) := by
  refine CallsA.body Try.func40 rfl (by decide) fun Γ => Run.of_ex 1000 ?_
  simp [Try.f40]
  intro b1
  simp [exW, h0]
  refine (ref_letter _).call ?_
  cases hl : beginsB (byteAt s 0)
  · simp
    refine (ref_digit _).call ?_
    cases hd : digitB (byteAt s 0)
    · have hr : List.range 8 = [0, 1, 2, 3, 4, 5, 6, 7] := rfl
      simp [hr]
      intro b2 n1 n2
      simp [exW, n1, n2, isByteT]
      refine Run.head (fun i : Nat => ⟨[.c (.string s), .bad, .c (.pointer (some ⟨b1, 0, none⟩)), .c (.int .i64 0), .bad, .c (.int .u8 (byteAt s 0))] ++ List.replicate 91 .bad ++ [.sl true 1 (signsC.map fun c => .c (.int .u8 c)), .c (.int .i64 8), .c (.int .i64 i)] ++ List.replicate 11 .bad, [.obj b1 40 [.c (.int .i64 0), .c (.string { data := #[] }), .c (.int .i64 0), .c (.int .i64 0)]]⟩) (fun i => 8 - i)
        (fun i => i ≤ 8 ∧ (byteAt s 0 ∈ signsC ↔ byteAt s 0 ∈ signsC.drop i)) ?_ 0 _ _ ?_ ?_ ?_
      · intro i ⟨hi, hI⟩ ih
        refine Run.of_ex 1000 ?_
        have hlen : signsC.length = 8 := rfl
        simp [List.replicate]
        by_cases hlt : i < 8
        · have h1 : (i : Int) < 8 := by omega
          have h2 : IntKind.i64.wrap ((i : Int) + 1) = ((i + 1 : Nat) : Int) := wrap_i64 (by omega) (by omega)
          have hsl : i < signsC.length := by omega
          have hdr : signsC.drop i = signsC[i] :: signsC.drop (i + 1) := List.drop_eq_getElem_cons hsl
          rw [hdr] at hI
          simp [h1, hlen, hlt]
          by_cases he : signsC[i] = byteAt s 0
          · have hm : byteAt s 0 ∈ signsC := by rw [hI, he]; exact List.mem_cons_self
            have h01 : (1 : Int) ≤ (s.size : Int) := by omega
            simp [he, h01]
            simp [oneF, hl, hd, hm, tokA, h01]
          · have he' : ¬ byteAt s 0 = signsC[i] := fun h => he h.symm
            simp [he, h2]
            refine ih (i + 1) _ _ ⟨by omega, ?_⟩ (show 8 - (i + 1) < 8 - i by omega) ?_ ?_
            · rw [hI, List.mem_cons]; exact ⟨fun h => h.resolve_left he', .inr⟩
            · simp [List.replicate]
            · simp
        · have h1 : ¬ (i : Int) < 8 := by omega
          have : i = 8 := by omega
          subst this
          have hn : byteAt s 0 ∉ signsC := fun h => by have := hI.1 h; simp [signsC] at this
          simp
          simp [oneF, hl, hd, hn, tokA, tok0, emptyS]
      · simp
      · simp [List.replicate, signsC]
      · simp
    · by_cases hsz1 : 1 < s.size
      · have hsz1' : (1 : Int) < (s.size : Int) := by omega
        have hsz2 : (2 : Int) ≤ (s.size : Int) := by omega
        by_cases hx0 : s.extract 0 2 = hexS
        · have hx : 1 < s.size ∧ s.extract 0 2 = hexS := ⟨hsz1, hx0⟩
          have hx0' : s.extract 0 2 = { data := #[48, 120] } := hx0
          simp [hsz1', hsz2, hx0']
          have hfin : ∀ i, spanN (digHexB true) s (s.size - 2) 2 = i → oneF s = if (valueF (s.extract 2 i) 16).isSome = true ∧ i ≠ 2 then (⟨2, emptyS, (valueF (s.extract 2 i) 16).getD 0, 0⟩, i) else (tok0, 0) := fun i hi => by
            subst hi
            simp [oneF, hl, hd, hx]
          refine Run.head (fun i : Nat => ⟨[.c (.string s), .bad, .c (.pointer (some ⟨b1, 0, none⟩)), .c (.int .i64 0), .c (.int .i64 i), .bad, .c (.int .i64 16), .c (.int .i64 2)] ++ List.replicate 103 .bad, [.obj b1 40 [.c (.int .i64 0), .c (.string { data := #[] }), .c (.int .i64 0), .c (.int .i64 0)]]⟩) (fun i => s.size - i)
            (fun i => 2 ≤ i ∧ i ≤ s.size ∧ spanN (digHexB true) s (s.size - i) i = spanN (digHexB true) s (s.size - 2) 2) ?_ 2 _ _ ?_ ?_ ?_
          · intro i ⟨hi0, hi, hI⟩ ih
            refine Run.of_ex 1000 ?_
            simp [List.replicate]
            by_cases hc : i < s.size ∧ digHexB true (byteAt s i) = true
            · obtain ⟨hlt, hf⟩ := hc
              have h1 : (i : Int) < (s.size : Int) := by omega
              have h2 : IntKind.i64.wrap ((i : Int) + 1) = ((i + 1 : Nat) : Int) := wrap_i64 (by omega) (by omega)
              have h3 : s.size - i = (s.size - (i + 1)) + 1 := by omega
              rw [h3] at hI
              simp only [spanN, hlt, hf, true_and, if_true] at hI
              simp [hlt, h1]
              refine (ref_digit _).call ?_
              cases hb : digitB (byteAt s i)
              · have hb2 : hexB (byteAt s i) = true := by simpa [digHexB, hb] using hf
                simp [hlt, h1]
                refine (ref_hex _).call ?_
                simp [hb2, h2]
                refine ih (i + 1) _ _ ⟨by omega, by omega, hI⟩ (show s.size - (i + 1) < s.size - i by omega) ?_ ?_
                · simp [List.replicate]
                · simp
              · simp [h2]
                refine ih (i + 1) _ _ ⟨by omega, by omega, hI⟩ (show s.size - (i + 1) < s.size - i by omega) ?_ ?_
                · simp [List.replicate]
                · simp
            · have hN : spanN (digHexB true) s (s.size - 2) 2 = i := by
                rw [← hI]
                cases hk : s.size - i with
                | zero => rfl
                | succ k => simp only [spanN, if_neg hc]
              have ho := hfin i hN
              have hsz : (s.extract 2 i).size ≤ 4611686018427387904 := by simp [ByteArray.size_extract]; omega
              have hi' : (i : Int) ≤ (s.size : Int) := by omega
              have hi0' : (2 : Int) ≤ (i : Int) := by omega
              by_cases hlt : i < s.size
              · have hf : digHexB true (byteAt s i) = false := by simpa [hlt] using hc
                have h1 : (i : Int) < (s.size : Int) := by omega
                have hb : digitB (byteAt s i) = false := by cases h : digitB (byteAt s i) <;> simp [digHexB, h] at hf ⊢
                simp [hlt, h1]
                refine (ref_digit _).call ?_
                have hb2 : hexB (byteAt s i) = false := by simpa [digHexB, hb] using hf
                simp [hb, hlt, h1]
                refine (ref_hex _).call ?_
                simp [hb2, hi', hi0']
                refine (ref_valueX _ 16 (.inr rfl) hsz).call ?_
                simp
                cases hv : valueF (s.extract 2 i) 16
                · simp [hv]
                  simp [ho, hv, tokA, tok0, emptyS]
                · by_cases he : i = 2
                  · have he' : (i : Int) = 2 := by omega
                    simp [hv, he']
                    simp [ho, hv, he, tokA, tok0, emptyS]
                  · have he' : ¬ (i : Int) = 2 := by omega
                    simp [hv, he']
                    simp [ho, hv, he, tokA, emptyS]
              · have h1 : ¬ (i : Int) < (s.size : Int) := by omega
                simp [hlt, h1, hi', hi0']
                refine (ref_valueX _ 16 (.inr rfl) hsz).call ?_
                simp
                cases hv : valueF (s.extract 2 i) 16
                · simp [hv]
                  simp [ho, hv, tokA, tok0, emptyS]
                · by_cases he : i = 2
                  · have he' : (i : Int) = 2 := by omega
                    simp [hv, he']
                    simp [ho, hv, he, tokA, tok0, emptyS]
                  · have he' : ¬ (i : Int) = 2 := by omega
                    simp [hv, he']
                    simp [ho, hv, he, tokA, emptyS]
          · exact ⟨by omega, by omega, rfl⟩
          · simp [List.replicate]
          · simp
        · have hx : ¬ (1 < s.size ∧ s.extract 0 2 = hexS) := fun h => hx0 h.2
          have hx0' : ¬ s.extract 0 2 = { data := #[48, 120] } := hx0
          simp [hsz1', hsz2, hx0']
          have hfin : ∀ i, spanN (digHexB false) s (s.size - 0) 0 = i → oneF s = if (valueF (s.extract 0 i) 10).isSome = true ∧ i ≠ 0 then (⟨2, emptyS, (valueF (s.extract 0 i) 10).getD 0, 0⟩, i) else (tok0, 0) := fun i hi => by
            subst hi
            simp [oneF, hl, hd, hx]
          refine Run.head (fun i : Nat => ⟨[.c (.string s), .bad, .c (.pointer (some ⟨b1, 0, none⟩)), .c (.int .i64 0), .c (.int .i64 i), .bad, .c (.int .i64 10), .c (.int .i64 0)] ++ List.replicate 103 .bad, [.obj b1 40 [.c (.int .i64 0), .c (.string { data := #[] }), .c (.int .i64 0), .c (.int .i64 0)]]⟩) (fun i => s.size - i)
            (fun i => 0 ≤ i ∧ i ≤ s.size ∧ spanN (digHexB false) s (s.size - i) i = spanN (digHexB false) s (s.size - 0) 0) ?_ 0 _ _ ?_ ?_ ?_
          · intro i ⟨hi0, hi, hI⟩ ih
            refine Run.of_ex 1000 ?_
            simp [List.replicate]
            by_cases hc : i < s.size ∧ digHexB false (byteAt s i) = true
            · obtain ⟨hlt, hf⟩ := hc
              have h1 : (i : Int) < (s.size : Int) := by omega
              have h2 : IntKind.i64.wrap ((i : Int) + 1) = ((i + 1 : Nat) : Int) := wrap_i64 (by omega) (by omega)
              have h3 : s.size - i = (s.size - (i + 1)) + 1 := by omega
              rw [h3] at hI
              simp only [spanN, hlt, hf, true_and, if_true] at hI
              simp [hlt, h1]
              refine (ref_digit _).call ?_
              cases hb : digitB (byteAt s i)
              · simp [digHexB, hb] at hf
              · simp [h2]
                refine ih (i + 1) _ _ ⟨by omega, by omega, hI⟩ (show s.size - (i + 1) < s.size - i by omega) ?_ ?_
                · simp [List.replicate]
                · simp
            · have hN : spanN (digHexB false) s (s.size - 0) 0 = i := by
                rw [← hI]
                cases hk : s.size - i with
                | zero => rfl
                | succ k => simp only [spanN, if_neg hc]
              have ho := hfin i hN
              have hsz : (s.extract 0 i).size ≤ 4611686018427387904 := by simp [ByteArray.size_extract]; omega
              have hi' : (i : Int) ≤ (s.size : Int) := by omega
              have hi0' : (0 : Int) ≤ (i : Int) := by omega
              by_cases hlt : i < s.size
              · have hf : digHexB false (byteAt s i) = false := by simpa [hlt] using hc
                have h1 : (i : Int) < (s.size : Int) := by omega
                have hb : digitB (byteAt s i) = false := by cases h : digitB (byteAt s i) <;> simp [digHexB, h] at hf ⊢
                simp [hlt, h1]
                refine (ref_digit _).call ?_
                simp [hb, hi', hi0']
                refine (ref_valueX _ 10 (.inl rfl) hsz).call ?_
                simp
                cases hv : valueF (s.extract 0 i) 10
                · simp [hv]
                  simp [ho, hv, tokA, tok0, emptyS]
                · by_cases he : i = 0
                  · have he' : (i : Int) = 0 := by omega
                    simp [hv, he']
                    simp [ho, hv, he, tokA, tok0, emptyS]
                  · have he' : ¬ (i : Int) = 0 := by omega
                    simp [hv, he']
                    simp [ho, hv, he, tokA, emptyS]
              · have h1 : ¬ (i : Int) < (s.size : Int) := by omega
                simp [hlt, h1, hi', hi0']
                refine (ref_valueX _ 10 (.inl rfl) hsz).call ?_
                simp
                cases hv : valueF (s.extract 0 i) 10
                · simp [hv]
                  simp [ho, hv, tokA, tok0, emptyS]
                · by_cases he : i = 0
                  · have he' : (i : Int) = 0 := by omega
                    simp [hv, he']
                    simp [ho, hv, he, tokA, tok0, emptyS]
                  · have he' : ¬ (i : Int) = 0 := by omega
                    simp [hv, he']
                    simp [ho, hv, he, tokA, emptyS]
          · exact ⟨by omega, by omega, rfl⟩
          · simp [List.replicate]
          · simp
      · have hsz1' : ¬ (1 : Int) < (s.size : Int) := by omega
        have hx : ¬ (1 < s.size ∧ s.extract 0 2 = hexS) := fun h => hsz1 h.1
        simp [hsz1']
        have hfin : ∀ i, spanN (digHexB false) s (s.size - 0) 0 = i → oneF s = if (valueF (s.extract 0 i) 10).isSome = true ∧ i ≠ 0 then (⟨2, emptyS, (valueF (s.extract 0 i) 10).getD 0, 0⟩, i) else (tok0, 0) := fun i hi => by
          subst hi
          simp [oneF, hl, hd, hx]
        refine Run.head (fun i : Nat => ⟨[.c (.string s), .bad, .c (.pointer (some ⟨b1, 0, none⟩)), .c (.int .i64 0), .c (.int .i64 i), .bad, .c (.int .i64 10), .c (.int .i64 0)] ++ List.replicate 103 .bad, [.obj b1 40 [.c (.int .i64 0), .c (.string { data := #[] }), .c (.int .i64 0), .c (.int .i64 0)]]⟩) (fun i => s.size - i)
          (fun i => 0 ≤ i ∧ i ≤ s.size ∧ spanN (digHexB false) s (s.size - i) i = spanN (digHexB false) s (s.size - 0) 0) ?_ 0 _ _ ?_ ?_ ?_
        · intro i ⟨hi0, hi, hI⟩ ih
          refine Run.of_ex 1000 ?_
          simp [List.replicate]
          by_cases hc : i < s.size ∧ digHexB false (byteAt s i) = true
          · obtain ⟨hlt, hf⟩ := hc
            have h1 : (i : Int) < (s.size : Int) := by omega
            have h2 : IntKind.i64.wrap ((i : Int) + 1) = ((i + 1 : Nat) : Int) := wrap_i64 (by omega) (by omega)
            have h3 : s.size - i = (s.size - (i + 1)) + 1 := by omega
            rw [h3] at hI
            simp only [spanN, hlt, hf, true_and, if_true] at hI
            simp [hlt, h1]
            refine (ref_digit _).call ?_
            cases hb : digitB (byteAt s i)
            · simp [digHexB, hb] at hf
            · simp [h2]
              refine ih (i + 1) _ _ ⟨by omega, by omega, hI⟩ (show s.size - (i + 1) < s.size - i by omega) ?_ ?_
              · simp [List.replicate]
              · simp
          · have hN : spanN (digHexB false) s (s.size - 0) 0 = i := by
              rw [← hI]
              cases hk : s.size - i with
              | zero => rfl
              | succ k => simp only [spanN, if_neg hc]
            have ho := hfin i hN
            have hsz : (s.extract 0 i).size ≤ 4611686018427387904 := by simp [ByteArray.size_extract]; omega
            have hi' : (i : Int) ≤ (s.size : Int) := by omega
            have hi0' : (0 : Int) ≤ (i : Int) := by omega
            by_cases hlt : i < s.size
            · have hf : digHexB false (byteAt s i) = false := by simpa [hlt] using hc
              have h1 : (i : Int) < (s.size : Int) := by omega
              have hb : digitB (byteAt s i) = false := by cases h : digitB (byteAt s i) <;> simp [digHexB, h] at hf ⊢
              simp [hlt, h1]
              refine (ref_digit _).call ?_
              simp [hb, hi', hi0']
              refine (ref_valueX _ 10 (.inl rfl) hsz).call ?_
              simp
              cases hv : valueF (s.extract 0 i) 10
              · simp [hv]
                simp [ho, hv, tokA, tok0, emptyS]
              · by_cases he : i = 0
                · have he' : (i : Int) = 0 := by omega
                  simp [hv, he']
                  simp [ho, hv, he, tokA, tok0, emptyS]
                · have he' : ¬ (i : Int) = 0 := by omega
                  simp [hv, he']
                  simp [ho, hv, he, tokA, emptyS]
            · have h1 : ¬ (i : Int) < (s.size : Int) := by omega
              simp [hlt, h1, hi', hi0']
              refine (ref_valueX _ 10 (.inl rfl) hsz).call ?_
              simp
              cases hv : valueF (s.extract 0 i) 10
              · simp [hv]
                simp [ho, hv, tokA, tok0, emptyS]
              · by_cases he : i = 0
                · have he' : (i : Int) = 0 := by omega
                  simp [hv, he']
                  simp [ho, hv, he, tokA, tok0, emptyS]
                · have he' : ¬ (i : Int) = 0 := by omega
                  simp [hv, he']
                  simp [ho, hv, he, tokA, emptyS]
        · exact ⟨by omega, by omega, rfl⟩
        · simp [List.replicate]
        · simp
  · have hfin : ∀ i, spanN followsB s s.size 0 = i → oneF s = if 12 < i then (tok0, 0) else (⟨1, s.extract 0 i, 0, 0⟩, i) := fun i hi => by simp [oneF, hl, hi]
    simp
    refine Run.head (fun i : Nat => ⟨[.c (.string s), .bad, .c (.pointer (some ⟨b1, 0, none⟩)), .c (.int .i64 0), .c (.int .i64 i), .c (.int .u8 (byteAt s 0))] ++ List.replicate 105 .bad, [.obj b1 40 [.c (.int .i64 0), .c (.string { data := #[] }), .c (.int .i64 0), .c (.int .i64 0)]]⟩) (fun i => s.size - i)
      (fun i => i ≤ s.size ∧ spanN followsB s (s.size - i) i = spanN followsB s s.size 0) ?_ 0 _ _ ?_ ?_ ?_
    · intro i ⟨hi, hI⟩ ih
      refine Run.of_ex 1000 ?_
      simp [List.replicate]
      by_cases hc : i < s.size ∧ followsB (byteAt s i) = true
      · obtain ⟨hlt, hf⟩ := hc
        have h1 : (i : Int) < (s.size : Int) := by omega
        have h2 : IntKind.i64.wrap ((i : Int) + 1) = ((i + 1 : Nat) : Int) := wrap_i64 (by omega) (by omega)
        have h3 : s.size - i = (s.size - (i + 1)) + 1 := by omega
        rw [h3] at hI
        simp only [spanN, hlt, hf, true_and, if_true] at hI
        simp [hlt, h1]
        refine (ref_letter _).call ?_
        cases hb : beginsB (byteAt s i)
        · have hb2 : digitB (byteAt s i) = true := by simpa [followsB, hb] using hf
          simp [hlt, h1]
          refine (ref_digit _).call ?_
          simp [hb2, h2]
          refine ih (i + 1) _ _ ⟨by omega, hI⟩ (show s.size - (i + 1) < s.size - i by omega) ?_ ?_
          · simp [List.replicate]
          · simp
        · simp [h2]
          refine ih (i + 1) _ _ ⟨by omega, hI⟩ (show s.size - (i + 1) < s.size - i by omega) ?_ ?_
          · simp [List.replicate]
          · simp
      · have hN : spanN followsB s s.size 0 = i := by
          rw [← hI]
          cases hk : s.size - i with
          | zero => rfl
          | succ k => simp only [spanN, if_neg hc]
        have ho := hfin i hN
        by_cases hlt : i < s.size
        · have hf : followsB (byteAt s i) = false := by simpa [hlt] using hc
          have h1 : (i : Int) < (s.size : Int) := by omega
          have hb : beginsB (byteAt s i) = false := by cases h : beginsB (byteAt s i) <;> simp [followsB, h] at hf ⊢
          have hb2 : digitB (byteAt s i) = false := by simpa [followsB, hb] using hf
          simp [hlt, h1]
          refine (ref_letter _).call ?_
          simp [hb, hlt, h1]
          refine (ref_digit _).call ?_
          simp [hb2]
          by_cases h12 : 12 < i
          · have h12' : (12 : Int) < (i : Int) := by omega
            simp [h12']
            simp [ho, h12, tokA, tok0, emptyS]
          · have h12' : ¬ (12 : Int) < (i : Int) := by omega
            have hi' : (i : Int) ≤ (s.size : Int) := by omega
            simp [h12', hi']
            simp [ho, h12, tokA]
        · have h1 : ¬ (i : Int) < (s.size : Int) := by omega
          simp [hlt, h1]
          by_cases h12 : 12 < i
          · have h12' : (12 : Int) < (i : Int) := by omega
            simp [h12']
            simp [ho, h12, tokA, tok0, emptyS]
          · have h12' : ¬ (12 : Int) < (i : Int) := by omega
            have hi' : (i : Int) ≤ (s.size : Int) := by omega
            simp [h12', hi']
            simp [ho, h12, tokA]
    · simp
    · simp [List.replicate]
    · simp
end Go.Ab
