/- The law on brackets, walked. -/
import Derived.Test.YtfhjmagknondfaaF5
set_option linter.unusedVariables false
set_option linter.unusedSimpArgs false
set_option maxRecDepth 100000
namespace Go.Ab
open Go.Proofs

theorem sgL : (signsL.map tokA) = [tokA (sgT openS), tokA (sgT closeS), tokA (sgT plusS), tokA (sgT minusS)] := rfl
set_option maxHeartbeats 8000000 in
theorem law9_ExprBrackets (fr : Bool) (S : List ByteArray) (T : List (List Tok)) (N V : List Val) (ok : Ask8OK S T) (hN : OKN N) (hN2 : N.length ≤ 1152921504606846976) (hV : V.length ≤ 1152921504606846976) :
    Tells 3 [ask9A fr S T N V] (.c (.bool true)) := by
  refine CallsA.body Try.func3 rfl (by decide) fun Γ => Run.of_ex 1000 ?_
  simp [Try.f3, ask9A, strsA, toksLA]
  intro b1
  simp [exW]
  refine CallV.pure (law9_Heavy fr S T N V ok hN2 hV) ?_
  rintro r h' ⟨⟨b, rfl, hb⟩, rfl⟩ _
  cases b
  · simp
    refine CallV.pure (law9_rowsL fr S T N V (hb rfl).1) ?_
    rintro r h' ⟨L, rfl, rfl, hL, hLl⟩ _
    simp
    refine law9_signsF.call ?_
    simp [toksA]
    let S0 : Nat → St := fun i => ⟨[.bad, .c (.pointer (some ⟨b1, 0, none⟩)), .bad, .sl true 1 (L.map toksP), .sl true 4 (signsL.map tokA), .c (.int .i64 i)] ++ List.replicate 159 .bad, [.obj b1 28 [.sl fr 1 (S.map strA), .sl fr 1 (T.map (toksA fr)), valsA fr N, valsA fr V]]⟩
    refine Run.headS S0 (fun i => L.length - i) (fun i => i ≤ L.length) ?_ 0 _ (Nat.zero_le _) (Sub.of ?_ (List.Perm.refl _) ?_)
    · intro i hi ih
      refine Run.of_ex 1000 ?_
      by_cases hlt : i < L.length
      · have h1 : (i : Int) < (L.length : Int) := by omega
        have w1 : IntKind.i64.wrap ((i : Int) + 1) = ((i + 1 : Nat) : Int) := wrap_i64 (by omega) (by omega)
        have hle := hLl L[i] (List.getElem_mem hlt)
        obtain ⟨⟨f, l⟩, hfl⟩ : ∃ p, L[i] = p := ⟨_, rfl⟩
        rw [hfl] at hle
        simp only at hle
        simp [List.replicate, S0, h1, hlt]
        let M8 : Nat → St := fun b6 => ⟨[.bad, .c (.pointer (some ⟨b1, 0, none⟩)), .bad, .sl true 1 (L.map toksP), .sl true 4 (signsL.map tokA), .c (.int .i64 i), .c (.pointer (some ⟨b6, 0, none⟩)), .c (.int .i64 (ofF N l).2)] ++ List.replicate 157 .bad, [.obj b6 34 [.c (.string (ofF N l).1.sym), .c (.int .i64 (ofF N l).1.n)], .obj b1 28 [.sl fr 1 (S.map strA), .sl fr 1 (T.map (toksA fr)), valsA fr N, valsA fr V]]⟩
        refine Run.drawsS 1000 mixed [] (.calm 0 [] (.calm 1 [] (.calm 2 [] (.calm 3 [] (.calm 4 [] (.calm 5 [] (.fork (.alt 6 (.calm 7 [] (.calm 8 [] (.calm 9 [] (.fork (.alt 10 (.fork (.alt 11 (.calm 12 [] .done) .stop)) .stop))))) (.alt 10 (.fork (.alt 6 (.calm 7 [] (.calm 8 [] (.calm 9 [] (.fork (.alt 11 (.calm 12 [] .done) .stop))))) .stop)) .stop))))))))) (by kernel_rfl) (fun τ => ∃ b6, freshB b6 [b1] ∧ τ = M8 b6) ?_ ?_
        · clear ih
          simp [valsA, toksP, toksA, hlt, hfl, h1]
          refine ⟨?_, ?_⟩
          · refine CallV.tell (expr_Of2 fr f N l (by omega) hN) ?_
            simp [resV, valA, *]
            intro bA
            repeat (refine fun (_ : ¬ _) => ?_)
            unfold exW
            simp [*]
            exact ⟨M8 bA, ⟨bA, by simp [*], rfl⟩, Sub.of (by simp [M8, List.replicate]) (List.Perm.refl _) (by simp [M8, valsA])⟩
          · intro bA
            repeat (refine fun (_ : ¬ _) => ?_)
            unfold exW
            simp [*]
            refine CallV.tell (expr_Of2 fr f N l (by omega) hN) ?_
            simp [resV, valA, *]
            exact ⟨M8 bA, ⟨bA, by simp [*], rfl⟩, Sub.of (by simp [M8, List.replicate]) (List.Perm.refl _) (by simp [M8, valsA])⟩

        · rintro τ ⟨b6, hb6, rfl⟩
          simp at hb6
          refine Run.of_ex 1000 ?_
          simp [M8, List.replicate]
          refine (law9_num _).call ?_
          by_cases he : (ofF N l).2 = 0
          · simp [he, hlt, hfl, h1, toksP, toksA]
            by_cases h15 : l.length ≤ 15
            · have h15' : ¬ (15 : Int) < (l.length : Int) := by omega
              have hlne : ¬ l = [] := fun h => by subst h; exact of_ne_nil hN he
              obtain ⟨k1, k2, k3, k4⟩ := brackets hN h15 he
              simp [h15']
              let B1 : It := .obj b1 28 [.sl fr 1 (S.map strA), .sl fr 1 (T.map (toksA fr)), .sl fr 2 (N.map valA), .sl fr 2 (V.map valA)]
              let B6 : It := .obj b6 34 [.c (.string (ofF N l).1.sym), .c (.int .i64 (ofF N l).1.n)]
              let M10 : St := ⟨[.bad, .c (.pointer (some ⟨b1, 0, none⟩)), .bad, .sl true 1 (L.map toksP), .sl true 4 (signsL.map tokA), .c (.int .i64 i), .c (.pointer (some ⟨b6, 0, none⟩)), .bad, .sl true 4 ((wideL l).map tokA)] ++ List.replicate 156 .bad, [B6, B1]⟩
              have htk2 : ∀ x : AV, (l.map tokA ++ [x]).take (l.length + 1) = l.map tokA ++ [x] := fun x => List.take_of_length_le (by simp)
              have hr2 : List.range 2 = [0, 1] := rfl
              have htk : (l.map tokA).take l.length = l.map tokA := List.take_of_length_le (by simp)
              have hwE : (wideL l).map tokA = tokA (sgT openS) :: (l.map tokA ++ [tokA (sgT closeS)]) := by simp [wideL]
              refine Run.drawsS 1000 mixed [] (.calm 0 [] (.calm 1 [] (.calm 2 [] (.calm 4 [] (.calm 5 [] (.calm 6 [] (.calm 7 [] (.calm 9 [] (.calm 10 [] (.calm 11 [8] (.fork (.alt 3 (.fork (.alt 8 (.fork (.alt 12 (.fork (.alt 13 (.calm 14 [] .done) .stop)) .stop)) (.alt 12 (.fork (.alt 8 (.fork (.alt 13 (.calm 14 [] .done) .stop)) .stop)) .stop))) (.alt 12 (.fork (.alt 3 (.fork (.alt 8 (.fork (.alt 13 (.calm 14 [] .done) .stop)) .stop)) .stop)) .stop))))))))))))) (by kernel_rfl) (fun τ => τ = M10) ?_ ?_
              · clear ih k1 k2 k3 k4
                simp [valsA, toksP, toksA, hlt, hfl, h1, sgL, tokA, hb6]
                refine ⟨?_, ?_⟩
                · intro bB
                  repeat (refine fun (_ : ¬ _) => ?_)
                  unfold exW
                  simp [toksA, *]
                  refine ⟨?_, ?_⟩
                  · refine ⟨by omega, ?_⟩
                    intro bC capC
                    repeat (refine fun (_ : ¬ _) => ?_)
                    unfold exW
                    simp [toksA, *]
                    intro bE
                    repeat (refine fun (_ : ¬ _) => ?_)
                    unfold exW
                    simp [toksA, *]
                    refine ⟨by omega, ?_⟩
                    intro bD capD
                    repeat (refine fun (_ : ¬ _) => ?_)
                    unfold exW
                    simp [toksA, *]
                    refine Sub.trans (Sub.at (i := 8) rfl (Fz.row (b := bD) (t := 40) (k := 4) (cap := capD) (fr := true) (fr' := true) (es := tokA (sgT openS) :: (l.map tokA ++ [tokA (sgT closeS)])) (by simp [find, It.blk, tokA, *]) (by simp) (fun _ => rfl))) (Sub.of ?_ (List.Perm.refl _) ?_)
                    · simp [M10, List.replicate, sgL, tokA, wideL]
                    · simp [M10, B6, B1, toksA, *]
                  · intro bE
                    repeat (refine fun (_ : ¬ _) => ?_)
                    unfold exW
                    simp [toksA, *]
                    refine ⟨by omega, ?_⟩
                    intro bC capC
                    repeat (refine fun (_ : ¬ _) => ?_)
                    unfold exW
                    simp [toksA, *]
                    refine ⟨by omega, ?_⟩
                    intro bD capD
                    repeat (refine fun (_ : ¬ _) => ?_)
                    unfold exW
                    simp [toksA, *]
                    refine Sub.trans (Sub.at (i := 8) rfl (Fz.row (b := bD) (t := 40) (k := 4) (cap := capD) (fr := true) (fr' := true) (es := tokA (sgT openS) :: (l.map tokA ++ [tokA (sgT closeS)])) (by simp [find, It.blk, tokA, *]) (by simp) (fun _ => rfl))) (Sub.of ?_ (List.Perm.refl _) ?_)
                    · simp [M10, List.replicate, sgL, tokA, wideL]
                    · simp [M10, B6, B1, toksA, *]
                · intro bE
                  repeat (refine fun (_ : ¬ _) => ?_)
                  unfold exW
                  simp [toksA, *]
                  intro bB
                  repeat (refine fun (_ : ¬ _) => ?_)
                  unfold exW
                  simp [toksA, *]
                  refine ⟨by omega, ?_⟩
                  intro bC capC
                  repeat (refine fun (_ : ¬ _) => ?_)
                  unfold exW
                  simp [toksA, *]
                  refine ⟨by omega, ?_⟩
                  intro bD capD
                  repeat (refine fun (_ : ¬ _) => ?_)
                  unfold exW
                  simp [toksA, *]
                  refine Sub.trans (Sub.at (i := 8) rfl (Fz.row (b := bD) (t := 40) (k := 4) (cap := capD) (fr := true) (fr' := true) (es := tokA (sgT openS) :: (l.map tokA ++ [tokA (sgT closeS)])) (by simp [find, It.blk, tokA, *]) (by simp) (fun _ => rfl))) (Sub.of ?_ (List.Perm.refl _) ?_)
                  · simp [M10, List.replicate, sgL, tokA, wideL]
                  · simp [M10, B6, B1, toksA, *]

              · rintro τ rfl
                refine Run.of_ex 1000 ?_
                have hwl := wide_len l
                simp [M10, List.replicate, B6, B1, hb6]
                refine CallV.tell (expr_Of2 fr true N (wideL l) (by omega) hN) ?_
                simp [resV, valA]
                intro b9
                repeat (refine fun (_ : ¬ _) => ?_)
                unfold exW
                simp [hb6, *]
                have hb9 : (¬ b9 = b6 ∧ ¬ b6 = b9) ∧ ¬ b9 = b1 ∧ ¬ b1 = b9 := by simp [*]
                let B9 : It := .obj b9 34 [.c (.string (ofF N (wideL l)).1.sym), .c (.int .i64 (ofF N (wideL l)).1.n)]
                let BV : Nat → Val → It := fun b v => .obj b 34 [.c (.string v.sym), .c (.int .i64 v.n)]
                let M12 : Nat → St := fun b11 => ⟨[.bad, .c (.pointer (some ⟨b1, 0, none⟩)), .bad, .sl true 1 (L.map toksP), .sl true 4 (signsL.map tokA), .c (.int .i64 i), .c (.pointer (some ⟨b6, 0, none⟩)), .bad, .sl true 4 ((wideL l).map tokA), .c (.pointer (some ⟨b9, 0, none⟩)), .c (.int .i64 (ofF N (wideL l)).2), .c (.pointer (some ⟨b11, 0, none⟩)), .c (.int .i64 0)] ++ List.replicate 152 .bad, [BV b11 (ofF N l).1, B9, B6, B1]⟩
                refine Run.drawsS 1000 mixed [(6, b1), (12, b1)] (.calm 0 [] (.calm 1 [6, 12] (.calm 2 [] (.calm 3 [] (.calm 4 [] (.calm 5 [] (.calm 7 [] (.calm 8 [] (.calm 9 [6] (.calm 10 [] (.fork (.alt 6 (.fork (.alt 11 (.fork (.alt 12 (.fork (.alt 13 (.calm 14 [] (.calm 15 [] (.calm 16 [] (.fork (.alt 17 (.fork (.alt 18 (.calm 19 [] .done) .stop)) .stop))))) (.alt 17 (.fork (.alt 13 (.calm 14 [] (.calm 15 [] (.calm 16 [] (.fork (.alt 18 (.calm 19 [] .done) .stop))))) .stop)) .stop))) (.alt 17 (.fork (.alt 12 (.fork (.alt 13 (.calm 14 [] (.calm 15 [] (.calm 16 [] (.fork (.alt 18 (.calm 19 [] .done) .stop))))) .stop)) .stop)) .stop))) (.alt 17 (.fork (.alt 11 (.fork (.alt 12 (.fork (.alt 13 (.calm 14 [] (.calm 15 [] (.calm 16 [] (.fork (.alt 18 (.calm 19 [] .done) .stop))))) .stop)) .stop)) .stop)) .stop))) (.alt 11 (.fork (.alt 6 (.fork (.alt 12 (.fork (.alt 13 (.calm 14 [] (.calm 15 [] (.calm 16 [] (.fork (.alt 17 (.fork (.alt 18 (.calm 19 [] .done) .stop)) .stop))))) (.alt 17 (.fork (.alt 13 (.calm 14 [] (.calm 15 [] (.calm 16 [] (.fork (.alt 18 (.calm 19 [] .done) .stop))))) .stop)) .stop))) (.alt 17 (.fork (.alt 12 (.fork (.alt 13 (.calm 14 [] (.calm 15 [] (.calm 16 [] (.fork (.alt 18 (.calm 19 [] .done) .stop))))) .stop)) .stop)) .stop))) (.alt 17 (.fork (.alt 6 (.fork (.alt 12 (.fork (.alt 13 (.calm 14 [] (.calm 15 [] (.calm 16 [] (.fork (.alt 18 (.calm 19 [] .done) .stop))))) .stop)) .stop)) .stop)) .stop))) (.alt 17 (.fork (.alt 6 (.fork (.alt 11 (.fork (.alt 12 (.fork (.alt 13 (.calm 14 [] (.calm 15 [] (.calm 16 [] (.fork (.alt 18 (.calm 19 [] .done) .stop))))) .stop)) .stop)) .stop)) (.alt 11 (.fork (.alt 6 (.fork (.alt 12 (.fork (.alt 13 (.calm 14 [] (.calm 15 [] (.calm 16 [] (.fork (.alt 18 (.calm 19 [] .done) .stop))))) .stop)) .stop)) .stop)) .stop))) .stop)))))))))))))) (by kernel_rfl) (fun τ => ∃ b11, freshB b11 [b9, b6, b1] ∧ τ = M12 b11) ?_ ?_
                · clear ih k1 k3 k4
                  simp [valsA, toksP, toksA, hlt, hfl, h1, sgL, tokA, hb6, hb9, *]
                  refine ⟨?_, ?_, ?_⟩
                  · refine OwnR.call (by simp [hlne]) (CopyTokens f l (by omega)) ?_
                    intro bC capC hC
                    simp at hC
                    unfold exW
                    simp [toksA, *]
                    refine ⟨?_, ?_⟩
                    · intro bB
                      repeat (refine fun (_ : ¬ _) => ?_)
                      unfold exW
                      simp [toksA, *]
                      refine ⟨?_, ?_⟩
                      · refine ⟨by omega, ?_⟩
                        intro bD capD
                        repeat (refine fun (_ : ¬ _) => ?_)
                        unfold exW
                        simp [toksA, *]
                        refine ⟨?_, ?_⟩
                        · refine CallV.tellL (Conv.at (i := 1) rfl (Fz.row (b := bD) (t := 40) (k := 4) (cap := capD) (fr := true) (fr' := true) (es := (l ++ [sgT plusS, zeroT]).map tokA) (by simp [find, It.blk, tokA, zeroT, emptyS, *]) (by simp) (fun _ => rfl))) (expr_Of2 fr true N (l ++ [sgT plusS, zeroT]) (by simp; omega) hN) (by simp [resV, valA]) ?_
                          simp [resV, valA, *]
                          intro bA
                          repeat (refine fun (_ : ¬ _) => ?_)
                          unfold exW
                          simp [toksA, *]
                          refine ⟨M12 bA, ⟨bA, by simp [*], rfl⟩, Sub.of ?_ (List.Perm.refl _) ?_⟩
                          · simp [M12, List.replicate, sgL, tokA, wideL]
                          · simp [M12, BV, B9, B6, B1, toksA, *]
                        · intro bA
                          repeat (refine fun (_ : ¬ _) => ?_)
                          unfold exW
                          simp [toksA, *]
                          refine CallV.tellL (Conv.at (i := 1) rfl (Fz.row (b := bD) (t := 40) (k := 4) (cap := capD) (fr := true) (fr' := true) (es := (l ++ [sgT plusS, zeroT]).map tokA) (by simp [find, It.blk, tokA, zeroT, emptyS, *]) (by simp) (fun _ => rfl))) (expr_Of2 fr true N (l ++ [sgT plusS, zeroT]) (by simp; omega) hN) (by simp [resV, valA]) ?_
                          simp [resV, valA, *]
                          refine ⟨M12 bA, ⟨bA, by simp [*], rfl⟩, Sub.of ?_ (List.Perm.refl _) ?_⟩
                          · simp [M12, List.replicate, sgL, tokA, wideL]
                          · simp [M12, BV, B9, B6, B1, toksA, *]
                      · intro bA
                        repeat (refine fun (_ : ¬ _) => ?_)
                        unfold exW
                        simp [toksA, *]
                        refine ⟨by omega, ?_⟩
                        intro bD capD
                        repeat (refine fun (_ : ¬ _) => ?_)
                        unfold exW
                        simp [toksA, *]
                        refine CallV.tellL (Conv.at (i := 1) rfl (Fz.row (b := bD) (t := 40) (k := 4) (cap := capD) (fr := true) (fr' := true) (es := (l ++ [sgT plusS, zeroT]).map tokA) (by simp [find, It.blk, tokA, zeroT, emptyS, *]) (by simp) (fun _ => rfl))) (expr_Of2 fr true N (l ++ [sgT plusS, zeroT]) (by simp; omega) hN) (by simp [resV, valA]) ?_
                        simp [resV, valA, *]
                        refine ⟨M12 bA, ⟨bA, by simp [*], rfl⟩, Sub.of ?_ (List.Perm.refl _) ?_⟩
                        · simp [M12, List.replicate, sgL, tokA, wideL]
                        · simp [M12, BV, B9, B6, B1, toksA, *]
                    · intro bA
                      repeat (refine fun (_ : ¬ _) => ?_)
                      unfold exW
                      simp [toksA, *]
                      intro bB
                      repeat (refine fun (_ : ¬ _) => ?_)
                      unfold exW
                      simp [toksA, *]
                      refine ⟨by omega, ?_⟩
                      intro bD capD
                      repeat (refine fun (_ : ¬ _) => ?_)
                      unfold exW
                      simp [toksA, *]
                      refine CallV.tellL (Conv.at (i := 1) rfl (Fz.row (b := bD) (t := 40) (k := 4) (cap := capD) (fr := true) (fr' := true) (es := (l ++ [sgT plusS, zeroT]).map tokA) (by simp [find, It.blk, tokA, zeroT, emptyS, *]) (by simp) (fun _ => rfl))) (expr_Of2 fr true N (l ++ [sgT plusS, zeroT]) (by simp; omega) hN) (by simp [resV, valA]) ?_
                      simp [resV, valA, *]
                      refine ⟨M12 bA, ⟨bA, by simp [*], rfl⟩, Sub.of ?_ (List.Perm.refl _) ?_⟩
                      · simp [M12, List.replicate, sgL, tokA, wideL]
                      · simp [M12, BV, B9, B6, B1, toksA, *]
                  · intro bB
                    repeat (refine fun (_ : ¬ _) => ?_)
                    unfold exW
                    simp [toksA, *]
                    refine ⟨?_, ?_⟩
                    · refine OwnR.call (by simp [hlne]) (CopyTokens f l (by omega)) ?_
                      intro bC capC hC
                      simp at hC
                      unfold exW
                      simp [toksA, *]
                      refine ⟨?_, ?_⟩
                      · refine ⟨by omega, ?_⟩
                        intro bD capD
                        repeat (refine fun (_ : ¬ _) => ?_)
                        unfold exW
                        simp [toksA, *]
                        refine ⟨?_, ?_⟩
                        · refine CallV.tellL (Conv.at (i := 1) rfl (Fz.row (b := bD) (t := 40) (k := 4) (cap := capD) (fr := true) (fr' := true) (es := (l ++ [sgT plusS, zeroT]).map tokA) (by simp [find, It.blk, tokA, zeroT, emptyS, *]) (by simp) (fun _ => rfl))) (expr_Of2 fr true N (l ++ [sgT plusS, zeroT]) (by simp; omega) hN) (by simp [resV, valA]) ?_
                          simp [resV, valA, *]
                          intro bA
                          repeat (refine fun (_ : ¬ _) => ?_)
                          unfold exW
                          simp [toksA, *]
                          refine ⟨M12 bA, ⟨bA, by simp [*], rfl⟩, Sub.of ?_ (List.Perm.refl _) ?_⟩
                          · simp [M12, List.replicate, sgL, tokA, wideL]
                          · simp [M12, BV, B9, B6, B1, toksA, *]
                        · intro bA
                          repeat (refine fun (_ : ¬ _) => ?_)
                          unfold exW
                          simp [toksA, *]
                          refine CallV.tellL (Conv.at (i := 1) rfl (Fz.row (b := bD) (t := 40) (k := 4) (cap := capD) (fr := true) (fr' := true) (es := (l ++ [sgT plusS, zeroT]).map tokA) (by simp [find, It.blk, tokA, zeroT, emptyS, *]) (by simp) (fun _ => rfl))) (expr_Of2 fr true N (l ++ [sgT plusS, zeroT]) (by simp; omega) hN) (by simp [resV, valA]) ?_
                          simp [resV, valA, *]
                          refine ⟨M12 bA, ⟨bA, by simp [*], rfl⟩, Sub.of ?_ (List.Perm.refl _) ?_⟩
                          · simp [M12, List.replicate, sgL, tokA, wideL]
                          · simp [M12, BV, B9, B6, B1, toksA, *]
                      · intro bA
                        repeat (refine fun (_ : ¬ _) => ?_)
                        unfold exW
                        simp [toksA, *]
                        refine ⟨by omega, ?_⟩
                        intro bD capD
                        repeat (refine fun (_ : ¬ _) => ?_)
                        unfold exW
                        simp [toksA, *]
                        refine CallV.tellL (Conv.at (i := 1) rfl (Fz.row (b := bD) (t := 40) (k := 4) (cap := capD) (fr := true) (fr' := true) (es := (l ++ [sgT plusS, zeroT]).map tokA) (by simp [find, It.blk, tokA, zeroT, emptyS, *]) (by simp) (fun _ => rfl))) (expr_Of2 fr true N (l ++ [sgT plusS, zeroT]) (by simp; omega) hN) (by simp [resV, valA]) ?_
                        simp [resV, valA, *]
                        refine ⟨M12 bA, ⟨bA, by simp [*], rfl⟩, Sub.of ?_ (List.Perm.refl _) ?_⟩
                        · simp [M12, List.replicate, sgL, tokA, wideL]
                        · simp [M12, BV, B9, B6, B1, toksA, *]
                    · intro bA
                      repeat (refine fun (_ : ¬ _) => ?_)
                      unfold exW
                      simp [toksA, *]
                      refine OwnR.call (by simp [hlne]) (CopyTokens f l (by omega)) ?_
                      intro bC capC hC
                      simp at hC
                      unfold exW
                      simp [toksA, *]
                      refine ⟨by omega, ?_⟩
                      intro bD capD
                      repeat (refine fun (_ : ¬ _) => ?_)
                      unfold exW
                      simp [toksA, *]
                      refine CallV.tellL (Conv.at (i := 1) rfl (Fz.row (b := bD) (t := 40) (k := 4) (cap := capD) (fr := true) (fr' := true) (es := (l ++ [sgT plusS, zeroT]).map tokA) (by simp [find, It.blk, tokA, zeroT, emptyS, *]) (by simp) (fun _ => rfl))) (expr_Of2 fr true N (l ++ [sgT plusS, zeroT]) (by simp; omega) hN) (by simp [resV, valA]) ?_
                      simp [resV, valA, *]
                      refine ⟨M12 bA, ⟨bA, by simp [*], rfl⟩, Sub.of ?_ (List.Perm.refl _) ?_⟩
                      · simp [M12, List.replicate, sgL, tokA, wideL]
                      · simp [M12, BV, B9, B6, B1, toksA, *]
                  · intro bA
                    repeat (refine fun (_ : ¬ _) => ?_)
                    unfold exW
                    simp [toksA, *]
                    refine ⟨?_, ?_⟩
                    · refine OwnR.call (by simp [hlne]) (CopyTokens f l (by omega)) ?_
                      intro bC capC hC
                      simp at hC
                      unfold exW
                      simp [toksA, *]
                      intro bB
                      repeat (refine fun (_ : ¬ _) => ?_)
                      unfold exW
                      simp [toksA, *]
                      refine ⟨by omega, ?_⟩
                      intro bD capD
                      repeat (refine fun (_ : ¬ _) => ?_)
                      unfold exW
                      simp [toksA, *]
                      refine CallV.tellL (Conv.at (i := 1) rfl (Fz.row (b := bD) (t := 40) (k := 4) (cap := capD) (fr := true) (fr' := true) (es := (l ++ [sgT plusS, zeroT]).map tokA) (by simp [find, It.blk, tokA, zeroT, emptyS, *]) (by simp) (fun _ => rfl))) (expr_Of2 fr true N (l ++ [sgT plusS, zeroT]) (by simp; omega) hN) (by simp [resV, valA]) ?_
                      simp [resV, valA, *]
                      refine ⟨M12 bA, ⟨bA, by simp [*], rfl⟩, Sub.of ?_ (List.Perm.refl _) ?_⟩
                      · simp [M12, List.replicate, sgL, tokA, wideL]
                      · simp [M12, BV, B9, B6, B1, toksA, *]
                    · intro bB
                      repeat (refine fun (_ : ¬ _) => ?_)
                      unfold exW
                      simp [toksA, *]
                      refine OwnR.call (by simp [hlne]) (CopyTokens f l (by omega)) ?_
                      intro bC capC hC
                      simp at hC
                      unfold exW
                      simp [toksA, *]
                      refine ⟨by omega, ?_⟩
                      intro bD capD
                      repeat (refine fun (_ : ¬ _) => ?_)
                      unfold exW
                      simp [toksA, *]
                      refine CallV.tellL (Conv.at (i := 1) rfl (Fz.row (b := bD) (t := 40) (k := 4) (cap := capD) (fr := true) (fr' := true) (es := (l ++ [sgT plusS, zeroT]).map tokA) (by simp [find, It.blk, tokA, zeroT, emptyS, *]) (by simp) (fun _ => rfl))) (expr_Of2 fr true N (l ++ [sgT plusS, zeroT]) (by simp; omega) hN) (by simp [resV, valA]) ?_
                      simp [resV, valA, *]
                      refine ⟨M12 bA, ⟨bA, by simp [*], rfl⟩, Sub.of ?_ (List.Perm.refl _) ?_⟩
                      · simp [M12, List.replicate, sgL, tokA, wideL]
                      · simp [M12, BV, B9, B6, B1, toksA, *]

                · rintro τ ⟨b11, hb11, rfl⟩
                  simp at hb11
                  refine Run.of_ex 1000 ?_
                  have k3' : (ofF N l).1.sym = emptyS → (ofF N (wideL l)).2 = 0 → ofF N (l ++ sgT minusS :: wideL l) = (v0, 0) := k3
                  have k4' : (ofF N l).1.sym ≠ emptyS → (ofF N (l ++ sgT minusS :: wideL l)).2 = 6 ∨ (ofF N (l ++ sgT minusS :: wideL l)).2 = 2 := k4
                  clear k3 k4
                  simp [M12, List.replicate, B9, BV, B6, B1, hb6, hb9, hb11]
                  let M13 : Nat → St := fun b13 => ⟨[.bad, .c (.pointer (some ⟨b1, 0, none⟩)), .bad, .sl true 1 (L.map toksP), .sl true 4 (signsL.map tokA), .c (.int .i64 i), .c (.pointer (some ⟨b6, 0, none⟩)), .bad, .bad, .c (.pointer (some ⟨b9, 0, none⟩)), .c (.int .i64 (ofF N (wideL l)).2), .c (.pointer (some ⟨b11, 0, none⟩)), .c (.int .i64 0), .c (.pointer (some ⟨b13, 0, none⟩)), .c (.int .i64 (ofF N (l ++ sgT minusS :: wideL l)).2)] ++ List.replicate 150 .bad, [BV b13 (ofF N (l ++ sgT minusS :: wideL l)).1, BV b11 (ofF N l).1, B9, B6, B1]⟩
                  refine Run.drawsS 1000 mixed [(6, b1), (11, b1), (13, b1)] (.calm 0 [] (.calm 1 [6, 11, 13] (.calm 2 [] (.calm 3 [] (.calm 4 [] (.calm 5 [] (.calm 7 [] (.calm 8 [] (.calm 9 [6] (.calm 12 [] (.fork (.alt 6 (.fork (.alt 10 (.fork (.alt 11 (.fork (.alt 13 (.fork (.alt 14 (.calm 15 [] (.calm 16 [] (.calm 17 [] (.fork (.alt 18 (.fork (.alt 19 (.calm 20 [] .done) .stop)) .stop))))) (.alt 18 (.fork (.alt 14 (.calm 15 [] (.calm 16 [] (.calm 17 [] (.fork (.alt 19 (.calm 20 [] .done) .stop))))) .stop)) .stop))) (.alt 18 (.fork (.alt 13 (.fork (.alt 14 (.calm 15 [] (.calm 16 [] (.calm 17 [] (.fork (.alt 19 (.calm 20 [] .done) .stop))))) .stop)) .stop)) .stop))) (.alt 18 (.fork (.alt 11 (.fork (.alt 13 (.fork (.alt 14 (.calm 15 [] (.calm 16 [] (.calm 17 [] (.fork (.alt 19 (.calm 20 [] .done) .stop))))) .stop)) .stop)) .stop)) .stop))) (.alt 18 (.fork (.alt 10 (.fork (.alt 11 (.fork (.alt 13 (.fork (.alt 14 (.calm 15 [] (.calm 16 [] (.calm 17 [] (.fork (.alt 19 (.calm 20 [] .done) .stop))))) .stop)) .stop)) .stop)) .stop)) .stop))) (.alt 10 (.fork (.alt 6 (.fork (.alt 11 (.fork (.alt 13 (.fork (.alt 14 (.calm 15 [] (.calm 16 [] (.calm 17 [] (.fork (.alt 18 (.fork (.alt 19 (.calm 20 [] .done) .stop)) .stop))))) (.alt 18 (.fork (.alt 14 (.calm 15 [] (.calm 16 [] (.calm 17 [] (.fork (.alt 19 (.calm 20 [] .done) .stop))))) .stop)) .stop))) (.alt 18 (.fork (.alt 13 (.fork (.alt 14 (.calm 15 [] (.calm 16 [] (.calm 17 [] (.fork (.alt 19 (.calm 20 [] .done) .stop))))) .stop)) .stop)) .stop))) (.alt 18 (.fork (.alt 11 (.fork (.alt 13 (.fork (.alt 14 (.calm 15 [] (.calm 16 [] (.calm 17 [] (.fork (.alt 19 (.calm 20 [] .done) .stop))))) .stop)) .stop)) .stop)) .stop))) (.alt 18 (.fork (.alt 6 (.fork (.alt 11 (.fork (.alt 13 (.fork (.alt 14 (.calm 15 [] (.calm 16 [] (.calm 17 [] (.fork (.alt 19 (.calm 20 [] .done) .stop))))) .stop)) .stop)) .stop)) .stop)) .stop))) (.alt 18 (.fork (.alt 6 (.fork (.alt 10 (.fork (.alt 11 (.fork (.alt 13 (.fork (.alt 14 (.calm 15 [] (.calm 16 [] (.calm 17 [] (.fork (.alt 19 (.calm 20 [] .done) .stop))))) .stop)) .stop)) .stop)) .stop)) (.alt 10 (.fork (.alt 6 (.fork (.alt 11 (.fork (.alt 13 (.fork (.alt 14 (.calm 15 [] (.calm 16 [] (.calm 17 [] (.fork (.alt 19 (.calm 20 [] .done) .stop))))) .stop)) .stop)) .stop)) .stop)) .stop))) .stop)))))))))))))) (by kernel_rfl) (fun τ => ∃ b13, freshB b13 [b11, b9, b6, b1] ∧ τ = M13 b13) ?_ ?_
                  · clear ih k1 k2 k3' k4'
                    simp [valsA, toksP, toksA, hlt, hfl, h1, sgL, tokA, hb6, hb9, hb11, *]
                    refine ⟨?_, ?_, ?_⟩
                    · refine OwnR.call (by simp [hlne]) (CopyTokens f l (by omega)) ?_
                      intro bC capC hC
                      simp at hC
                      unfold exW
                      simp [toksA, *]
                      refine ⟨?_, ?_⟩
                      · intro bB
                        repeat (refine fun (_ : ¬ _) => ?_)
                        unfold exW
                        simp [toksA, *]
                        refine ⟨?_, ?_⟩
                        · refine ⟨by omega, ?_⟩
                          intro bD capD
                          repeat (refine fun (_ : ¬ _) => ?_)
                          unfold exW
                          simp [toksA, *]
                          refine ⟨?_, ?_⟩
                          · refine ⟨by omega, ?_⟩
                            intro bG capG
                            repeat (refine fun (_ : ¬ _) => ?_)
                            unfold exW
                            simp [toksA, *]
                            refine ⟨?_, ?_⟩
                            · refine CallV.tellL (Conv.at (i := 1) rfl (Fz.row (b := bG) (t := 40) (k := 4) (cap := capG) (fr := true) (fr' := true) (es := (l ++ sgT minusS :: wideL l).map tokA) (by simp [find, It.blk, tokA, *]) (by simp [hwl]; try omega) (fun _ => rfl))) (expr_Of2 fr true N (l ++ sgT minusS :: wideL l) (by simp; omega) hN) (by simp [resV, valA]) ?_
                              simp [resV, valA, *]
                              intro bA
                              repeat (refine fun (_ : ¬ _) => ?_)
                              unfold exW
                              simp [toksA, *]
                              refine ⟨M13 bA, ⟨bA, by simp [*], rfl⟩, Sub.of ?_ (List.Perm.refl _) ?_⟩
                              · simp [M13, List.replicate, sgL, tokA, wideL]
                              · simp [M13, BV, B9, B6, B1, toksA, *]
                            · intro bA
                              repeat (refine fun (_ : ¬ _) => ?_)
                              unfold exW
                              simp [toksA, *]
                              refine CallV.tellL (Conv.at (i := 1) rfl (Fz.row (b := bG) (t := 40) (k := 4) (cap := capG) (fr := true) (fr' := true) (es := (l ++ sgT minusS :: wideL l).map tokA) (by simp [find, It.blk, tokA, *]) (by simp [hwl]; try omega) (fun _ => rfl))) (expr_Of2 fr true N (l ++ sgT minusS :: wideL l) (by simp; omega) hN) (by simp [resV, valA]) ?_
                              simp [resV, valA, *]
                              refine ⟨M13 bA, ⟨bA, by simp [*], rfl⟩, Sub.of ?_ (List.Perm.refl _) ?_⟩
                              · simp [M13, List.replicate, sgL, tokA, wideL]
                              · simp [M13, BV, B9, B6, B1, toksA, *]
                          · intro bA
                            repeat (refine fun (_ : ¬ _) => ?_)
                            unfold exW
                            simp [toksA, *]
                            refine ⟨by omega, ?_⟩
                            intro bG capG
                            repeat (refine fun (_ : ¬ _) => ?_)
                            unfold exW
                            simp [toksA, *]
                            refine CallV.tellL (Conv.at (i := 1) rfl (Fz.row (b := bG) (t := 40) (k := 4) (cap := capG) (fr := true) (fr' := true) (es := (l ++ sgT minusS :: wideL l).map tokA) (by simp [find, It.blk, tokA, *]) (by simp [hwl]; try omega) (fun _ => rfl))) (expr_Of2 fr true N (l ++ sgT minusS :: wideL l) (by simp; omega) hN) (by simp [resV, valA]) ?_
                            simp [resV, valA, *]
                            refine ⟨M13 bA, ⟨bA, by simp [*], rfl⟩, Sub.of ?_ (List.Perm.refl _) ?_⟩
                            · simp [M13, List.replicate, sgL, tokA, wideL]
                            · simp [M13, BV, B9, B6, B1, toksA, *]
                        · intro bA
                          repeat (refine fun (_ : ¬ _) => ?_)
                          unfold exW
                          simp [toksA, *]
                          refine ⟨by omega, ?_⟩
                          intro bD capD
                          repeat (refine fun (_ : ¬ _) => ?_)
                          unfold exW
                          simp [toksA, *]
                          refine ⟨by omega, ?_⟩
                          intro bG capG
                          repeat (refine fun (_ : ¬ _) => ?_)
                          unfold exW
                          simp [toksA, *]
                          refine CallV.tellL (Conv.at (i := 1) rfl (Fz.row (b := bG) (t := 40) (k := 4) (cap := capG) (fr := true) (fr' := true) (es := (l ++ sgT minusS :: wideL l).map tokA) (by simp [find, It.blk, tokA, *]) (by simp [hwl]; try omega) (fun _ => rfl))) (expr_Of2 fr true N (l ++ sgT minusS :: wideL l) (by simp; omega) hN) (by simp [resV, valA]) ?_
                          simp [resV, valA, *]
                          refine ⟨M13 bA, ⟨bA, by simp [*], rfl⟩, Sub.of ?_ (List.Perm.refl _) ?_⟩
                          · simp [M13, List.replicate, sgL, tokA, wideL]
                          · simp [M13, BV, B9, B6, B1, toksA, *]
                      · intro bA
                        repeat (refine fun (_ : ¬ _) => ?_)
                        unfold exW
                        simp [toksA, *]
                        intro bB
                        repeat (refine fun (_ : ¬ _) => ?_)
                        unfold exW
                        simp [toksA, *]
                        refine ⟨by omega, ?_⟩
                        intro bD capD
                        repeat (refine fun (_ : ¬ _) => ?_)
                        unfold exW
                        simp [toksA, *]
                        refine ⟨by omega, ?_⟩
                        intro bG capG
                        repeat (refine fun (_ : ¬ _) => ?_)
                        unfold exW
                        simp [toksA, *]
                        refine CallV.tellL (Conv.at (i := 1) rfl (Fz.row (b := bG) (t := 40) (k := 4) (cap := capG) (fr := true) (fr' := true) (es := (l ++ sgT minusS :: wideL l).map tokA) (by simp [find, It.blk, tokA, *]) (by simp [hwl]; try omega) (fun _ => rfl))) (expr_Of2 fr true N (l ++ sgT minusS :: wideL l) (by simp; omega) hN) (by simp [resV, valA]) ?_
                        simp [resV, valA, *]
                        refine ⟨M13 bA, ⟨bA, by simp [*], rfl⟩, Sub.of ?_ (List.Perm.refl _) ?_⟩
                        · simp [M13, List.replicate, sgL, tokA, wideL]
                        · simp [M13, BV, B9, B6, B1, toksA, *]
                    · intro bB
                      repeat (refine fun (_ : ¬ _) => ?_)
                      unfold exW
                      simp [toksA, *]
                      refine ⟨?_, ?_⟩
                      · refine OwnR.call (by simp [hlne]) (CopyTokens f l (by omega)) ?_
                        intro bC capC hC
                        simp at hC
                        unfold exW
                        simp [toksA, *]
                        refine ⟨?_, ?_⟩
                        · refine ⟨by omega, ?_⟩
                          intro bD capD
                          repeat (refine fun (_ : ¬ _) => ?_)
                          unfold exW
                          simp [toksA, *]
                          refine ⟨?_, ?_⟩
                          · refine ⟨by omega, ?_⟩
                            intro bG capG
                            repeat (refine fun (_ : ¬ _) => ?_)
                            unfold exW
                            simp [toksA, *]
                            refine ⟨?_, ?_⟩
                            · refine CallV.tellL (Conv.at (i := 1) rfl (Fz.row (b := bG) (t := 40) (k := 4) (cap := capG) (fr := true) (fr' := true) (es := (l ++ sgT minusS :: wideL l).map tokA) (by simp [find, It.blk, tokA, *]) (by simp [hwl]; try omega) (fun _ => rfl))) (expr_Of2 fr true N (l ++ sgT minusS :: wideL l) (by simp; omega) hN) (by simp [resV, valA]) ?_
                              simp [resV, valA, *]
                              intro bA
                              repeat (refine fun (_ : ¬ _) => ?_)
                              unfold exW
                              simp [toksA, *]
                              refine ⟨M13 bA, ⟨bA, by simp [*], rfl⟩, Sub.of ?_ (List.Perm.refl _) ?_⟩
                              · simp [M13, List.replicate, sgL, tokA, wideL]
                              · simp [M13, BV, B9, B6, B1, toksA, *]
                            · intro bA
                              repeat (refine fun (_ : ¬ _) => ?_)
                              unfold exW
                              simp [toksA, *]
                              refine CallV.tellL (Conv.at (i := 1) rfl (Fz.row (b := bG) (t := 40) (k := 4) (cap := capG) (fr := true) (fr' := true) (es := (l ++ sgT minusS :: wideL l).map tokA) (by simp [find, It.blk, tokA, *]) (by simp [hwl]; try omega) (fun _ => rfl))) (expr_Of2 fr true N (l ++ sgT minusS :: wideL l) (by simp; omega) hN) (by simp [resV, valA]) ?_
                              simp [resV, valA, *]
                              refine ⟨M13 bA, ⟨bA, by simp [*], rfl⟩, Sub.of ?_ (List.Perm.refl _) ?_⟩
                              · simp [M13, List.replicate, sgL, tokA, wideL]
                              · simp [M13, BV, B9, B6, B1, toksA, *]
                          · intro bA
                            repeat (refine fun (_ : ¬ _) => ?_)
                            unfold exW
                            simp [toksA, *]
                            refine ⟨by omega, ?_⟩
                            intro bG capG
                            repeat (refine fun (_ : ¬ _) => ?_)
                            unfold exW
                            simp [toksA, *]
                            refine CallV.tellL (Conv.at (i := 1) rfl (Fz.row (b := bG) (t := 40) (k := 4) (cap := capG) (fr := true) (fr' := true) (es := (l ++ sgT minusS :: wideL l).map tokA) (by simp [find, It.blk, tokA, *]) (by simp [hwl]; try omega) (fun _ => rfl))) (expr_Of2 fr true N (l ++ sgT minusS :: wideL l) (by simp; omega) hN) (by simp [resV, valA]) ?_
                            simp [resV, valA, *]
                            refine ⟨M13 bA, ⟨bA, by simp [*], rfl⟩, Sub.of ?_ (List.Perm.refl _) ?_⟩
                            · simp [M13, List.replicate, sgL, tokA, wideL]
                            · simp [M13, BV, B9, B6, B1, toksA, *]
                        · intro bA
                          repeat (refine fun (_ : ¬ _) => ?_)
                          unfold exW
                          simp [toksA, *]
                          refine ⟨by omega, ?_⟩
                          intro bD capD
                          repeat (refine fun (_ : ¬ _) => ?_)
                          unfold exW
                          simp [toksA, *]
                          refine ⟨by omega, ?_⟩
                          intro bG capG
                          repeat (refine fun (_ : ¬ _) => ?_)
                          unfold exW
                          simp [toksA, *]
                          refine CallV.tellL (Conv.at (i := 1) rfl (Fz.row (b := bG) (t := 40) (k := 4) (cap := capG) (fr := true) (fr' := true) (es := (l ++ sgT minusS :: wideL l).map tokA) (by simp [find, It.blk, tokA, *]) (by simp [hwl]; try omega) (fun _ => rfl))) (expr_Of2 fr true N (l ++ sgT minusS :: wideL l) (by simp; omega) hN) (by simp [resV, valA]) ?_
                          simp [resV, valA, *]
                          refine ⟨M13 bA, ⟨bA, by simp [*], rfl⟩, Sub.of ?_ (List.Perm.refl _) ?_⟩
                          · simp [M13, List.replicate, sgL, tokA, wideL]
                          · simp [M13, BV, B9, B6, B1, toksA, *]
                      · intro bA
                        repeat (refine fun (_ : ¬ _) => ?_)
                        unfold exW
                        simp [toksA, *]
                        refine OwnR.call (by simp [hlne]) (CopyTokens f l (by omega)) ?_
                        intro bC capC hC
                        simp at hC
                        unfold exW
                        simp [toksA, *]
                        refine ⟨by omega, ?_⟩
                        intro bD capD
                        repeat (refine fun (_ : ¬ _) => ?_)
                        unfold exW
                        simp [toksA, *]
                        refine ⟨by omega, ?_⟩
                        intro bG capG
                        repeat (refine fun (_ : ¬ _) => ?_)
                        unfold exW
                        simp [toksA, *]
                        refine CallV.tellL (Conv.at (i := 1) rfl (Fz.row (b := bG) (t := 40) (k := 4) (cap := capG) (fr := true) (fr' := true) (es := (l ++ sgT minusS :: wideL l).map tokA) (by simp [find, It.blk, tokA, *]) (by simp [hwl]; try omega) (fun _ => rfl))) (expr_Of2 fr true N (l ++ sgT minusS :: wideL l) (by simp; omega) hN) (by simp [resV, valA]) ?_
                        simp [resV, valA, *]
                        refine ⟨M13 bA, ⟨bA, by simp [*], rfl⟩, Sub.of ?_ (List.Perm.refl _) ?_⟩
                        · simp [M13, List.replicate, sgL, tokA, wideL]
                        · simp [M13, BV, B9, B6, B1, toksA, *]
                    · intro bA
                      repeat (refine fun (_ : ¬ _) => ?_)
                      unfold exW
                      simp [toksA, *]
                      refine ⟨?_, ?_⟩
                      · refine OwnR.call (by simp [hlne]) (CopyTokens f l (by omega)) ?_
                        intro bC capC hC
                        simp at hC
                        unfold exW
                        simp [toksA, *]
                        intro bB
                        repeat (refine fun (_ : ¬ _) => ?_)
                        unfold exW
                        simp [toksA, *]
                        refine ⟨by omega, ?_⟩
                        intro bD capD
                        repeat (refine fun (_ : ¬ _) => ?_)
                        unfold exW
                        simp [toksA, *]
                        refine ⟨by omega, ?_⟩
                        intro bG capG
                        repeat (refine fun (_ : ¬ _) => ?_)
                        unfold exW
                        simp [toksA, *]
                        refine CallV.tellL (Conv.at (i := 1) rfl (Fz.row (b := bG) (t := 40) (k := 4) (cap := capG) (fr := true) (fr' := true) (es := (l ++ sgT minusS :: wideL l).map tokA) (by simp [find, It.blk, tokA, *]) (by simp [hwl]; try omega) (fun _ => rfl))) (expr_Of2 fr true N (l ++ sgT minusS :: wideL l) (by simp; omega) hN) (by simp [resV, valA]) ?_
                        simp [resV, valA, *]
                        refine ⟨M13 bA, ⟨bA, by simp [*], rfl⟩, Sub.of ?_ (List.Perm.refl _) ?_⟩
                        · simp [M13, List.replicate, sgL, tokA, wideL]
                        · simp [M13, BV, B9, B6, B1, toksA, *]
                      · intro bB
                        repeat (refine fun (_ : ¬ _) => ?_)
                        unfold exW
                        simp [toksA, *]
                        refine OwnR.call (by simp [hlne]) (CopyTokens f l (by omega)) ?_
                        intro bC capC hC
                        simp at hC
                        unfold exW
                        simp [toksA, *]
                        refine ⟨by omega, ?_⟩
                        intro bD capD
                        repeat (refine fun (_ : ¬ _) => ?_)
                        unfold exW
                        simp [toksA, *]
                        refine ⟨by omega, ?_⟩
                        intro bG capG
                        repeat (refine fun (_ : ¬ _) => ?_)
                        unfold exW
                        simp [toksA, *]
                        refine CallV.tellL (Conv.at (i := 1) rfl (Fz.row (b := bG) (t := 40) (k := 4) (cap := capG) (fr := true) (fr' := true) (es := (l ++ sgT minusS :: wideL l).map tokA) (by simp [find, It.blk, tokA, *]) (by simp [hwl]; try omega) (fun _ => rfl))) (expr_Of2 fr true N (l ++ sgT minusS :: wideL l) (by simp; omega) hN) (by simp [resV, valA]) ?_
                        simp [resV, valA, *]
                        refine ⟨M13 bA, ⟨bA, by simp [*], rfl⟩, Sub.of ?_ (List.Perm.refl _) ?_⟩
                        · simp [M13, List.replicate, sgL, tokA, wideL]
                        · simp [M13, BV, B9, B6, B1, toksA, *]

                  · rintro τ ⟨b13, hb13, rfl⟩
                    simp at hb13
                    have fin : ∀ σ, Sub Γ σ (S0 (i + 1)) → _ := fun σ hσ => ih (i + 1) σ (by omega) (by omega) hσ
                    clear ih
                    refine Run.of_ex 1000 ?_
                    rcases k1 with ⟨kf, kw⟩ | kf
                    · by_cases hs : (ofF N l).1.sym = emptyS
                      · have hY := k3' hs kf
                        have hs' : (ofF N l).1.sym = { data := #[] } := hs
                        simp [M13, BV, B9, B6, List.replicate, hb6, hb9, hb11, hb13, kf, kw, hY, hs', v0, emptyS]
                        repeat (first | (refine (law9_num _).call ?_) | (simp [hb6, hb9, hb11, hb13, kf, kw, hs']; done) | (simp [hb6, hb9, hb11, hb13, kf, kw, hs']))
                        rw [w1]
                        exact fin _ (Sub.of (by simp [S0, List.replicate]) (List.Perm.refl _) (by simp [S0, B1, valsA]))
                      · have hs' : ¬ (ofF N l).1.sym = { data := #[] } := hs
                        have hY := k4' hs
                        generalize ofF N (l ++ sgT minusS :: wideL l) = Y at hY
                        rcases hY with hY | hY
                        all_goals
                          simp [M13, BV, B9, B6, List.replicate, hb6, hb9, hb11, hb13, kf, kw, hY, hs']
                          repeat (first | (refine (law9_num _).call ?_) | (simp [hb6, hb9, hb11, hb13, kf, kw, hs', hY]))
                          rw [w1]
                          exact fin _ (Sub.of (by simp [S0, List.replicate]) (List.Perm.refl _) (by simp [S0, B1, valsA]))
                    · by_cases hs : (ofF N l).1.sym = emptyS
                      · have hs' : (ofF N l).1.sym = { data := #[] } := hs
                        simp [M13, BV, B9, B6, List.replicate, hb6, hb9, hb11, hb13, kf, hs']
                        repeat (first | (refine (law9_num _).call ?_) | (simp [hb6, hb9, hb11, hb13, kf, hs']))
                        rw [w1]
                        exact fin _ (Sub.of (by simp [S0, List.replicate]) (List.Perm.refl _) (by simp [S0, B1, valsA]))
                      · have hs' : ¬ (ofF N l).1.sym = { data := #[] } := hs
                        have hY := k4' hs
                        generalize ofF N (l ++ sgT minusS :: wideL l) = Y at hY
                        rcases hY with hY | hY
                        all_goals
                          simp [M13, BV, B9, B6, List.replicate, hb6, hb9, hb11, hb13, kf, hY, hs']
                          repeat (first | (refine (law9_num _).call ?_) | (simp [hb6, hb9, hb11, hb13, kf, hs', hY]))
                          rw [w1]
                          exact fin _ (Sub.of (by simp [S0, List.replicate]) (List.Perm.refl _) (by simp [S0, B1, valsA]))
            · have h15' : (15 : Int) < (l.length : Int) := by omega
              simp [h15']
              rw [w1]
              exact ih (i + 1) _ (by omega) (by omega) (Sub.of (by simp [S0, List.replicate]) (List.Perm.refl _) (by simp [S0]))
          · simp [he]
            rw [w1]
            exact ih (i + 1) _ (by omega) (by omega) (Sub.of (by simp [S0, List.replicate]) (List.Perm.refl _) (by simp [S0]))
      · have h1 : ¬ (i : Int) < (L.length : Int) := by omega
        simp [List.replicate, S0, h1]
        refine law9_wakes.call ?_
        simp
    · simp [S0, List.replicate, toksA]
    · simp [S0]
  · simp
end Go.Ab
