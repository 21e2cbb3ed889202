/- The words that expr's laws play. -/
import Derived.Test.YtfhjmagknondfaaF3
set_option linter.unusedVariables false
set_option linter.unusedSimpArgs false
set_option maxRecDepth 100000
namespace Go.Ab
open Go.Proofs

theorem ref_Words (s : ByteArray) (hs : s.size ≤ 1048576) :
    Tells 24 [.c (.string s)] (.tup [toksA true (wordsF s).1, .c (.int .i64 (wordsF s).2.1), .c (.int .i64 (wordsF s).2.2)]) :=
  (ref_Words0 s hs).post fun Γ r h' ⟨b, cap, hx, hh⟩ => ⟨_, [], ⟨rfl, rfl⟩, by
    subst hx; subst hh
    have h1 : Fz Γ (ownH 40 4 ((wordsF s).1.map tokA) b cap) (ownX ((wordsF s).1.map tokA) b cap) [] (toksA true (wordsF s).1) := by
      have := Fz.own (Γ := Γ) (e := 40) (k := 4) (es := (wordsF s).1.map tokA) (b := b) (cap := cap) (hr := []) (fr := true)
      rw [List.append_nil] at this
      exact this
    have := Fz.tup (xs := [ownX ((wordsF s).1.map tokA) b cap, .c (.int .i64 (wordsF s).2.1), .c (.int .i64 (wordsF s).2.2)]) (i := 0) rfl h1
    simpa using this⟩

theorem wordsGo_len (s : ByteArray) : ∀ (n i : Nat) (l : List Tok), l.length ≤ 40 → (wordsGo s n i l).1.length ≤ 40
  | 0, _, _, h => h
  | n + 1, i, l, h => by
    unfold wordsGo
    split
    · split
      · exact wordsGo_len s n _ l h
      · split
        · exact Nat.zero_le _
        · split
          · exact Nat.zero_le _
          · exact wordsGo_len s n _ _ (by simp; omega)
    · exact h
theorem wordsF_len (s : ByteArray) : (wordsF s).1.length ≤ 40 := by
  unfold wordsF
  split
  · exact Nat.zero_le _
  · exact wordsGo_len s _ _ [] (Nat.zero_le _)

/-- An element of what is played. -/
def OKE (e : AV) : Prop := e = .c (.slice none 0 0) ∨ ∃ fr l, e = toksA fr l ∧ l.length ≤ 1048576
theorem OKE.cells {e : AV} (h : OKE e) : e.cells = [e] ∧ AV.one e = true := by
  rcases h with rfl | ⟨fr, l, rfl, _⟩
  · exact ⟨rfl, rfl⟩
  · exact ⟨rfl, rfl⟩
def RowsR (x : AV) (h : List It) : Prop := ∃ es b cap, x = .c (.slice (some ⟨b, 0, none⟩) es.length cap) ∧ h = [.row b 31 1 cap true es] ∧ es.length ≤ 2000 ∧ ∀ e ∈ es, OKE e

set_option maxHeartbeats 4000000 in
theorem law9_rows0 (fr : Bool) (S : List ByteArray) (T : List (List Tok)) (N V : List Val) (ok : Light8 S T) : CallsA Try.prog 6 [ask9A fr S T N V] [] RowsR := by
  refine CallsA.body Try.func6 rfl (by decide) fun Γ => Run.of_ex 1000 ?_
  have hr1 : List.range 1 = [0] := rfl
  have htl := ok.tl
  have hall : ((T.map (toksA fr)).all fun e => e.cells.all AV.one) = true := by
    simp [List.all_map, toksA, AV.cells, AV.one]
  have hall' : ∀ x ∈ T, (toksA fr x).cells.all AV.one = true := fun x _ => rfl
  have hcells : ∀ l : List Tok, (toksA fr l).cells = [toksA fr l] := fun _ => rfl
  have hone : ∀ l : List Tok, AV.one (toksA fr l) = true := fun _ => rfl
  simp [Try.f6, ask9A, strsA, toksLA, hr1]
  intro b1
  simp [exW]
  intro b2 n1 n2
  simp [exW, n1, n2, hcells, hone]
  refine ⟨by omega, ?_⟩
  intro b3 cap n3 n4
  have hOK0 : ∀ e ∈ (AV.c (.slice none 0 0) :: T.map (toksA fr)), OKE e := fun e he => by
    rcases List.mem_cons.1 he with rfl | he
    · exact .inl rfl
    · obtain ⟨l, hl, rfl⟩ := List.mem_map.1 he
      exact .inr ⟨fr, l, rfl, by have := (ok.tt l hl).1; omega⟩
  let S0 : List AV → Nat → Nat → Nat → St := fun es b cap i => ⟨[.bad, .c (.pointer (some ⟨b1, 0, none⟩)), .c (.slice none 0 0), .c (.slice (some ⟨b, 0, none⟩) es.length cap), .c (.int .i64 i)] ++ List.replicate 82 .bad, [.row b 31 1 cap true es, .obj b1 28 [.sl fr 1 (S.map strA), .sl fr 1 (T.map (toksA fr)), valsA fr N, valsA fr V]]⟩
  refine (fun (H : ∀ es σ, es.length ≤ 901 → (∀ e ∈ es, OKE e) → Sub Γ σ (S0 es b3 cap 0) → Run Try.prog Γ ?k ?Q σ) => ?main) ?H
  case main =>
    by_cases h8 : 8 < T.length + 1
    · have h8' : (8 : Int) < (T.length : Int) + 1 := by omega
      have h8'' : (8 : Int) ≤ (T.length : Int) + 1 := by omega
      simp [h8', h8'']
      refine H ((AV.c (.slice none 0 0) :: T.map (toksA fr)).take 8) _ (by simp; omega) (fun e he => hOK0 e (List.mem_of_mem_take he)) (Sub.trans (Sub.trunc 8 find_row) (Sub.of ?_ (List.Perm.refl _) ?_))
      · have : min 7 T.length = 7 := by omega
        simp [List.replicate, S0, this]
      · simp [S0]
    · have h8' : ¬ (8 : Int) < (T.length : Int) + 1 := by omega
      simp [h8']
      refine H (AV.c (.slice none 0 0) :: T.map (toksA fr)) _ (by simp; omega) hOK0 (Sub.of ?_ (List.Perm.refl _) ?_)
      · simp [List.replicate, S0]
      · simp [S0]
  intro es σ hes hok hsub
  refine Run.headS (fun x : Nat × List AV × Nat × Nat => S0 x.2.1 x.2.2.1 x.2.2.2 x.1) (fun x => S.length - x.1) (fun x => x.1 ≤ 8 ∧ x.1 ≤ S.length ∧ x.2.1.length ≤ 901 + 16 * x.1 ∧ (∀ e ∈ x.2.1, OKE e) ∧ x.2.2.1 ≠ b1) ?_ (0, es, b3, cap) σ ⟨Nat.zero_le _, Nat.zero_le _, by simpa using hes, hok, n3⟩ hsub
  rintro ⟨i, es, b, cap⟩ ⟨hi8, hi, hlen, hok, hbb⟩ ih
  simp only at hi8 hi hlen hok hbb ih
  have hbb' : ¬ b1 = b := fun h => hbb h.symm
  refine Run.of_ex 1000 ?_
  by_cases hlt : i < S.length ∧ i < 8
  · obtain ⟨hlt, hl8⟩ := hlt
    have h1 : (i : Int) < (S.length : Int) := by omega
    have h8 : (i : Int) < 8 := by omega
    have w1 : IntKind.i64.wrap ((i : Int) + 1) = ((i + 1 : Nat) : Int) := wrap_i64 (by omega) (by omega)
    have hsz := ok.ss S[i] (List.getElem_mem hlt)
    simp [List.replicate, S0, hbb, hbb', h1, h8, hlt, hl8, strA]
    refine (ref_Words S[i] (by omega)).call ?_
    have hwl := wordsF_len S[i]
    generalize wordsF S[i] = W at hwl
    by_cases he : W.2.2 = 0
    · simp [he, toksA]
      have hr1' : List.range 1 = [0] := rfl
      intro b4 n5 n6 n7 n8
      simp [exW, n5, n6, n7, n8, hbb, hbb']
      refine ⟨by omega, ?_⟩
      intro b5 cap5 n9 m0 m1 m2
      let S1 : List AV → Nat → Nat → Nat → St := fun es b cap k => ⟨[.bad, .c (.pointer (some ⟨b1, 0, none⟩)), .c (.slice none 0 0), .c (.slice (some ⟨b, 0, none⟩) es.length cap), .c (.int .i64 i), .sl true 4 (W.1.map tokA), .bad, .bad, .c (.int .i64 k)] ++ List.replicate 78 .bad, [.row b 31 1 cap true es, .obj b1 28 [.sl fr 1 (S.map strA), .sl fr 1 (T.map (toksA fr)), valsA fr N, valsA fr V]]⟩
      refine Run.headS (fun x : Nat × List AV × Nat × Nat => S1 x.2.1 x.2.2.1 x.2.2.2 x.1) (fun x => 5 - x.1) (fun x => x.1 ≤ 5 ∧ x.2.1.length ≤ 902 + 16 * i + 3 * x.1 ∧ (∀ e ∈ x.2.1, OKE e) ∧ x.2.2.1 ≠ b1) ?_ (0, es ++ [.sl true 4 (W.1.map tokA)], b5, cap5) _ ⟨Nat.zero_le _, by simp; omega, ?_, m1⟩ ?_
      · rintro ⟨k, es2, b6, cap6⟩ ⟨hk5, hlen2, hok2, hb6⟩ ih2
        simp only at hk5 hlen2 hok2 hb6 ih2
        have hb6' : ¬ b1 = b6 := fun h => hb6 h.symm
        refine Run.of_ex 1000 ?_
        by_cases hkl : k < 5 ∧ 0 < W.1.length
        · obtain ⟨hk, hwp⟩ := hkl
          have hk' : (k : Int) < 5 := by omega
          have hwp' : (0 : Int) < (W.1.length : Int) := by omega
          have w2 : IntKind.i64.wrap ((k : Int) + 1) = ((k + 1 : Nat) : Int) := wrap_i64 (by omega) (by omega)
          simp [List.replicate, S1, hb6, hb6', hk', hwp', hwp]
          refine CallV.pure (law0_Within _ (W.1.length : Int) hwp' (by omega)) ?_
          rintro r h' ⟨⟨m, rfl, hm⟩, rfl⟩ _
          simp
          have hm1 : m ≤ W.1.length := by omega
          have hm2 : m + 1 ≤ W.1.length := by omega
          have hm1' : (m : Int) ≤ (W.1.length : Int) := by omega
          have hm2' : (m : Int) + 1 ≤ (W.1.length : Int) := by omega
          have w3 : IntKind.i64.wrap ((m : Int) + 1) = ((m + 1 : Nat) : Int) := wrap_i64 (by omega) (by omega)
          have hp0 : (0 : Int) ≤ (m : Int) + 1 := by omega
          refine Run.draws 1000 mixed [] (.calm 0 [] (.calm 1 [] (.calm 2 [] (.calm 3 [] (.calm 4 [] (.calm 5 [] (.calm 6 [] (.calm 7 [] (.calm 8 [] (.calm 9 [] (.calm 11 [] (.calm 12 [] (.calm 13 [] (.calm 14 [] (.fork (.alt 10 (.fork (.alt 15 (.fork (.alt 16 (.fork (.alt 17 (.calm 18 [] .done) .stop)) .stop)) .stop)) .stop)))))))))))))))) (by kernel_rfl) ?_
          simp [w3, hm1, hm1', hm2, hm2', hp0, hb6, hb6']
          rw [← List.map_take]
          refine CallV.pure (CopyTokens true (W.1.take m) (by simp; omega)) ?_
          rintro r h' ⟨b7, cap7, rfl, rfl⟩ hnd
          have hr3 : List.range 3 = [0, 1, 2] := rfl
          by_cases hm0 : m = 0
          · subst hm0
            simp [ownX, ownH, hb6, hb6']
            refine ⟨by omega, fun ht0 => ?_, fun ht0 b8 cap8 q1 q2 q3 q4 => ?_⟩
            · simp [exW, hb6, hb6', hr3]
              intro b9 p1 p2 p3 p4
              simp [exW, p1, p2, p3, p4, hb6, hb6']
              refine ⟨by omega, ?_⟩
              intro b10 cap10 g1 g2 g3 g4
              rw [w2]
              refine ih2 (k + 1, es2 ++ [.sl true 4 [], .sl true 4 (W.1.map tokA), .c (.slice none 0 0)], b10, cap10) _ ⟨by simp only []; omega, by simp; omega, ?_, g3⟩ (by simp only []; omega) (Sub.of ?_ (List.Perm.refl _) ?_)
              · intro e he2
                rcases List.mem_append.1 he2 with he2 | he2
                · exact hok2 e he2
                · simp at he2
                  rcases he2 with rfl | rfl | rfl
                  · exact .inr ⟨true, [], rfl, by simp⟩
                  · exact .inr ⟨true, W.1, rfl, by omega⟩
                  · exact .inl rfl
              · simp [List.replicate, S1]
              · simp [S1]
            · simp [exW, q1, q2, q3, q4, hb6, hb6', hr3]
              intro b9 p1 p2 p3 p4 p5 p6
              simp [exW, p1, p2, p3, p4, p5, p6, q1, q2, q3, q4, hb6, hb6']
              refine ⟨by omega, ?_⟩
              intro b10 cap10 g1 g2 g3 g4 g5 g6
              rw [w2]
              refine ih2 (k + 1, es2 ++ [.sl true 4 [], .sl true 4 (W.1.map tokA), .sl true 4 ((W.1.drop 1).map tokA)], b10, cap10) _ ⟨by simp only []; omega, by simp; omega, ?_, (by assumption)⟩ (by simp only []; omega) (Sub.trans (Sub.frzCell (b := b8) (b' := b10) (t := 40) (k := 4) (cap := cap8) (fr := true) (fr2 := true) (es := (W.1.map tokA).tail) (t' := 31) (cap' := cap10) (fr' := true) (es' := es2 ++ [.sl true 4 [], .sl true 4 (W.1.map tokA), .c (.slice (some ⟨b8, 0, none⟩) (W.1.length - 1) cap8)]) (k' := 1) (n := W.1.length - 1) (j := es2.length + 2) ?_ ?_ ?_ ?_ ?_ (fun _ => rfl)) (Sub.of ?_ (List.Perm.refl _) ?_))
              · intro e he2
                rcases List.mem_append.1 he2 with he2 | he2
                · exact hok2 e he2
                · simp at he2
                  rcases he2 with rfl | rfl | rfl
                  · exact .inr ⟨true, [], rfl, by simp⟩
                  · exact .inr ⟨true, W.1, rfl, by omega⟩
                  · exact .inr ⟨true, W.1.drop 1, by simp [toksA], by simp; omega⟩
              · simp [p1, p2, p3, p4, p5, p6, q1, q2, q3, q4, g1, g2, g3, g4, g5, g6, hb6, hb6']
              · simp [p1, p2, p3, p4, p5, p6, q1, q2, q3, q4, g1, g2, g3, g4, g5, g6, hb6, hb6']
              · exact fun h => by simp_all
              · simp
              · simp
              · simp [List.replicate, S1]
              · simp [S1, p1, p2, p3, p4, p5, p6, q1, q2, q3, q4, g1, g2, g3, g4, g5, g6, hb6, hb6', List.set_append]
          · have hne : ¬ W.1 = [] := fun h => by rw [h] at hwp; simp at hwp
            have hmin : min m W.1.length = m := by omega
            simp [ownX, ownH, hm0, hne, hmin, hb6, hb6'] at hnd ⊢
            refine ⟨by omega, ?_⟩
            intro b8 cap8 q1 q2 q3 q4
            simp [exW, q1, q2, q3, q4, hb6, hb6', hr3]
            intro b9 p1 p2 p3 p4 p5 p6
            simp [exW, p1, p2, p3, p4, p5, p6, q1, q2, q3, q4, hb6, hb6']
            refine ⟨by omega, ?_⟩
            intro b10 cap10 g1 g2 g3 g4 g5 g6
            have hl8 : m + (W.1.length - (m + 1)) = W.1.length - 1 := by omega
            rw [w2, hl8]
            have e8 : (W.1.map tokA).take m ++ (W.1.map tokA).drop (m + 1) = (W.1.take m ++ W.1.drop (m + 1)).map tokA := by simp
            refine ih2 (k + 1, es2 ++ [.sl true 4 ((W.1.take m).map tokA), .sl true 4 ((W.1.drop m).map tokA), .sl true 4 ((W.1.take m ++ W.1.drop (m + 1)).map tokA)], b10, cap10) _ ⟨by simp only []; omega, by simp; omega, ?_, (by assumption)⟩ (by simp only []; omega) (Sub.trans (Sub.frzCell (b := b8) (b' := b10) (t := 40) (k := 4) (cap := cap8) (fr := true) (fr2 := true) (es := (W.1.map tokA).take m ++ (W.1.map tokA).drop (m + 1)) (t' := 31) (cap' := cap10) (fr' := true) (es' := es2 ++ [.sl true 4 ((W.1.map tokA).take m), .sl true 4 ((W.1.map tokA).drop m), .c (.slice (some ⟨b8, 0, none⟩) (W.1.length - 1) cap8)]) (k' := 1) (n := W.1.length - 1) (j := es2.length + 2) ?_ ?_ ?_ ?_ ?_ (fun _ => rfl)) (Sub.of ?_ (List.Perm.refl _) ?_))
            · intro e he2
              rcases List.mem_append.1 he2 with he2 | he2
              · exact hok2 e he2
              · simp only [List.mem_cons, List.not_mem_nil, or_false] at he2
                rcases he2 with rfl | rfl | rfl
                · exact .inr ⟨true, W.1.take m, rfl, by simp; omega⟩
                · exact .inr ⟨true, W.1.drop m, rfl, by simp; omega⟩
                · exact .inr ⟨true, W.1.take m ++ W.1.drop (m + 1), rfl, by simp; omega⟩
            · simp [p1, p2, p3, p4, p5, p6, q1, q2, q3, q4, g1, g2, g3, g4, g5, g6, hb6, hb6', List.take_take]
            · simp [p1, p2, p3, p4, p5, p6, q1, q2, q3, q4, g1, g2, g3, g4, g5, g6, hb6, hb6', List.take_take]
            · exact fun h => by simp_all
            · simp
            · simp; omega
            · simp [List.replicate, S1]
            · simp [S1, p1, p2, p3, p4, p5, p6, q1, q2, q3, q4, g1, g2, g3, g4, g5, g6, hb6, hb6', List.set_append]
        · have hnk : ¬ ((k : Int) < 5 ∧ (0 : Int) < (W.1.length : Int)) := by omega
          by_cases hk : k < 5
          · have hk' : (k : Int) < 5 := by omega
            have hz : ¬ (0 : Int) < (W.1.length : Int) := by omega
            have hz2 : ¬ 0 < W.1.length := by omega
            simp [List.replicate, S1, hb6, hb6', hk', hz, hz2]
            rw [w1]
            refine ih (i + 1, es2, b6, cap6) _ ⟨by simp only []; omega, by simp only []; omega, by simp only []; omega, hok2, hb6⟩ (by simp only []; omega) (Sub.of ?_ (List.Perm.refl _) ?_)
            · simp [List.replicate, S0]
            · simp [S0]
          · have hk' : ¬ (k : Int) < 5 := by omega
            simp [List.replicate, S1, hb6, hb6', hk']
            rw [w1]
            refine ih (i + 1, es2, b6, cap6) _ ⟨by simp only []; omega, by simp only []; omega, by simp only []; omega, hok2, hb6⟩ (by simp only []; omega) (Sub.of ?_ (List.Perm.refl _) ?_)
            · simp [List.replicate, S0]
            · simp [S0]
      · intro e he2
        rcases List.mem_append.1 he2 with he2 | he2
        · exact hok e he2
        · obtain rfl : e = .sl true 4 (W.1.map tokA) := by simpa using he2
          exact .inr ⟨true, W.1, rfl, by omega⟩
      · refine Sub.of ?_ (List.Perm.refl _) ?_
        · simp [List.replicate, S1]
        · simp [S1]
    · simp [he, toksA]
      rw [w1]
      refine ih (i + 1, es, b, cap) _ ⟨by simp only []; omega, by simp only []; omega, by simp only []; omega, hok, hbb⟩ (by simp only []; omega) (Sub.of ?_ (List.Perm.refl _) ?_)
      · simp [List.replicate, S0]
      · simp [S0]
  · by_cases hlt2 : i < S.length
    · have h1 : (i : Int) < (S.length : Int) := by omega
      have h8 : ¬ (i : Int) < 8 := by omega
      simp [List.replicate, S0, hbb, hbb', h1, h8]
      exact ⟨[.row b 31 1 cap true es], by simp, es, b, cap, rfl, rfl, by omega, hok⟩
    · have h1 : ¬ (i : Int) < (S.length : Int) := by omega
      simp [List.replicate, S0, hbb, hbb', h1]
      exact ⟨[.row b 31 1 cap true es], by simp, es, b, cap, rfl, rfl, by omega, hok⟩

def RowsF (x : AV) (h : List It) : Prop := ∃ es, x = .sl true 1 es ∧ h = [] ∧ es.length ≤ 2000 ∧ ∀ e ∈ es, OKE e
theorem law9_rows (fr : Bool) (S : List ByteArray) (T : List (List Tok)) (N V : List Val) (ok : Light8 S T) : CallsA Try.prog 6 [ask9A fr S T N V] [] RowsF :=
  (law9_rows0 fr S T N V ok).post fun Γ r h' ⟨es, b, cap, hx, hh, hl, ho⟩ => ⟨.sl true 1 es, [], ⟨es, rfl, rfl, hl, ho⟩, by
    subst hx; subst hh
    have := Fz.row (Γ := Γ) (h := [.row b 31 1 cap true es]) (fr' := true) find_row (rfl : es.length = es.length) (fun _ => rfl)
    simpa [del, It.blk] using this⟩
end Go.Ab
