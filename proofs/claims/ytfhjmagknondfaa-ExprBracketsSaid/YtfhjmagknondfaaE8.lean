/- The parser's algebra: words within longer words. -/
import Derived.Test.YtfhjmagknondfaaE7
set_option linter.unusedVariables false
set_option linter.unusedSimpArgs false
namespace Go.Ab

/-- F' at p + i yields what F does at i, shifted, or too deep. -/
def ExtF (p : Nat) (F F' : Nat → Res2) (i : Nat) : Prop :=
  (F i).1.2 = 0 → F' (p + i) = ((F i).1, p + (F i).2) ∨ (F' (p + i)).1.2 = 2

theorem rowS_deep {F : Nat → Res2} {G : Nat → Made × Nat} {n : Nat} {v : Val} {e : Int} {i : Nat} (h : e = 2) : (rowS F G n v e i).1.2 = 2 := by
  subst h
  cases n <;> simp [rowS]

theorem rowS_ext {p len : Nat} {F F' : Nat → Res2} {G G' : Nat → Made × Nat} (hF : FOK len F) (hG : GOK len G) (hx : ∀ i, i ≤ len → ExtF p F F' i) :
    ∀ (n n' : Nat) (v : Val) (e : Int) (i : Nat), n ≤ n' → i ≤ len → (e = 0 → OkV v) → (e = 0 → len - i + 2 ≤ n) → 1 ≤ n → (rowS F G n v e i).1.2 = 0 →
      (∀ j, i ≤ j → j ≤ (rowS F G n v e i).2 → G' (p + j) = ((G j).1, p + (G j).2)) →
      rowS F' G' n' v e (p + i) = ((rowS F G n v e i).1, p + (rowS F G n v e i).2) ∨ (rowS F' G' n' v e (p + i)).1.2 = 2
  | 0, n', v, e, i, _, _, _, _, h, _, _ => by omega
  | n + 1, 0, _, _, _, h, _, _, _, _, _, _ => by omega
  | n + 1, n' + 1, v, e, i, hn, hi, hv, hm, _, h, hg => by
    by_cases he : e = 0
    · subst he
      have hv := hv rfl
      have hm := hm rfl
      have hok := hG i hi
      have hgi := hg i (Nat.le_refl _) (rowS_ok hF hG (n + 1) v 0 i hi (fun _ => hv) (fun _ => hm) (by omega)).1
      simp only [rowS, if_true] at h hg ⊢
      rw [hgi]
      cases hmade : (G i).1 with
      | none =>
        rw [hmade] at h hok
        simp only at hok ⊢
        exact .inl trivial
      | some m =>
        obtain ⟨mf, op⟩ := m
        rw [hmade] at h hok hg
        obtain ⟨hG2, hlt, hop⟩ := hok
        simp only at h hg ⊢
        obtain ⟨f1, f2, f3⟩ := hF (G i).2 (by omega)
        by_cases hw : (F (G i).2).1.2 = 0
        · rw [if_pos hw] at h hg ⊢
          have hop2 := (hop v (F (G i).2).1.1 hv (f3 hw)).2
          rcases hx (G i).2 (by omega) hw with h1 | h1
          · rw [h1]
            simp only [hw, if_true]
            exact rowS_ext hF hG hx n n' _ _ _ (by omega) f2 hop2 (fun _ => by omega) (by omega) h (fun j hj1 hj2 => hg j (by omega) hj2)
          · right
            rw [if_neg (by rw [h1]; decide), h1]
            exact rowS_deep rfl
        · rw [if_neg hw] at h
          have : (rowS F G n v (F (G i).2).1.2 (F (G i).2).2).1.2 = (F (G i).2).1.2 := by
            cases n <;> simp [rowS, hw]
          exact absurd (this.symm.trans h) hw
    · simp only [rowS, if_neg he] at h
      exact absurd h he
end Go.Ab

set_option linter.unusedVariables false
set_option linter.unusedSimpArgs false
namespace Go.Ab

theorem get_ext (pre l post : List Tok) (i : Nat) (hi : i < l.length) : (pre ++ l ++ post)[pre.length + i]? = l[i]? := by
  rw [List.append_assoc, List.getElem?_append_right (by omega), List.getElem?_append_left (by omega)]
  congr 1; omega
theorem sgn_ext (pre l post : List Tok) (i : Nat) (s : ByteArray) (hi : i < l.length) : sgn (pre ++ l ++ post) (pre.length + i) s = sgn l i s := by
  unfold sgn
  rw [get_ext pre l post i hi]
theorem sgn_end (l : List Tok) (s : ByteArray) : sgn l l.length s = false := by simp [sgn]

theorem termG_ext (pre l post : List Tok) (hs : sgn (pre ++ l ++ post) (pre.length + l.length) starS = false) (i : Nat) (hi : i ≤ l.length) :
    termG (pre ++ l ++ post) (pre.length + i) = ((termG l i).1, pre.length + (termG l i).2) := by
  unfold termG
  by_cases he : i = l.length
  · subst he
    rw [hs, sgn_end]; simp
  · rw [sgn_ext pre l post i starS (by omega)]
    split
    · simp; omega
    · rfl
theorem sumG_ext (pre l post : List Tok) (i : Nat) (hi : i ≤ l.length) (hs : i < l.length ∨ sgn (pre ++ l ++ post) (pre.length + l.length) plusS = false ∧ sgn (pre ++ l ++ post) (pre.length + l.length) minusS = false) :
    sumG (pre ++ l ++ post) (pre.length + i) = ((sumG l i).1, pre.length + (sumG l i).2) := by
  unfold sumG
  by_cases he : i = l.length
  · subst he
    have h := hs.resolve_left (by omega)
    rw [h.1, h.2, sgn_end, sgn_end]; simp
  · rw [sgn_ext pre l post i plusS (by omega), sgn_ext pre l post i minusS (by omega)]
    split
    · simp; omega
    · split
      · simp; omega
      · rfl

theorem rowP_ext {p len len' : Nat} {F F' : Nat → Res2} {G G' : Nat → Made × Nat} (hlen : len ≤ len') (hF : FOK len F) (hG : GOK len G) (hx : ∀ i, i ≤ len → ExtF p F F' i) (i : Nat) (hi : i ≤ len)
    (hg : ∀ j, i ≤ j → j ≤ (rowP F G len i).2 → G' (p + j) = ((G j).1, p + (G j).2)) : ExtF p (rowP F G len) (rowP F' G' len') i := by
  intro h
  obtain ⟨f1, f2, f3⟩ := hF i hi
  by_cases hw : (F i).1.2 = 0
  · rcases hx i hi hw with h1 | h1
    · unfold rowP
      rw [h1]
      exact rowS_ext hF hG hx (len + 2) (len' + 2) _ _ _ (by omega) f2 f3 (fun _ => by omega) (by omega) h (fun j hj1 hj2 => hg j (by omega) hj2)
    · right
      unfold rowP
      exact rowS_deep h1
  · exfalso
    apply hw
    have : (rowP F G len i).1.2 = (F i).1.2 := by simp [rowP, rowS, hw]
    exact this.symm.trans h

theorem term_ext (pre l post : List Tok) (hs : sgn (pre ++ l ++ post) (pre.length + l.length) starS = false) {F F' : Nat → Res2} (hF : FOK l.length F) (hx : ∀ i, i ≤ l.length → ExtF pre.length F F' i) (i : Nat) (hi : i ≤ l.length) :
    ExtF pre.length (termF l F) (termF (pre ++ l ++ post) F') i :=
  rowP_ext (by simp; omega) hF (termG_ok l) hx i hi fun j hj1 hj2 => termG_ext pre l post hs j (Nat.le_trans hj2 (rowP_ok hF (termG_ok l) i hi).2.1)

theorem sum_ext (pre l post : List Tok) (hs : sgn (pre ++ l ++ post) (pre.length + l.length) starS = false) {F F' : Nat → Res2} (hF : FOK l.length F) (hx : ∀ i, i ≤ l.length → ExtF pre.length F F' i) (i : Nat) (hi : i ≤ l.length)
    (he : (sumF l F i).2 < l.length ∨ sgn (pre ++ l ++ post) (pre.length + l.length) plusS = false ∧ sgn (pre ++ l ++ post) (pre.length + l.length) minusS = false) :
    ExtF pre.length (sumF l F) (sumF (pre ++ l ++ post) F') i :=
  rowP_ext (by simp; omega) (rowP_ok hF (termG_ok l)) (sumG_ok l) (fun i hi => term_ext pre l post hs hF hx i hi) i hi fun j hj1 hj2 =>
    sumG_ext pre l post j (Nat.le_trans hj2 (rowP_ok (rowP_ok hF (termG_ok l)) (sumG_ok l) i hi).2.1) (he.imp (fun h => Nat.lt_of_le_of_lt hj2 h) id)
end Go.Ab

set_option linter.unusedVariables false
set_option linter.unusedSimpArgs false
namespace Go.Ab

theorem factorS_ext (pre l post : List Tok) (names : List Val) {A A' B B' : Nat → Res2} (hA : ∀ i, i ≤ l.length → ExtF pre.length A A' i) (hB : ∀ i, i ≤ l.length → (B i).2 < l.length → ExtF pre.length B B' i) (i : Nat) (hi : i ≤ l.length) :
    ExtF pre.length (factorS l names A B) (factorS (pre ++ l ++ post) names A' B') i := by
  intro h
  have e1 : pre.length + i + 1 = pre.length + (i + 1) := by omega
  by_cases hlt : i < l.length
  · have s1 := sgn_ext pre l post i minusS hlt
    have s2 := sgn_ext pre l post i openS hlt
    have g1 := get_ext pre l post i hlt
    unfold factorS at h ⊢
    rw [s1, s2, g1, e1]
    by_cases h1 : sgn l i minusS = true
    · rw [if_pos h1] at h ⊢
      rw [if_pos h1]
      by_cases h2 : (A (i + 1)).1.2 = 0
      · rw [if_pos h2] at h ⊢
        rcases hA (i + 1) (by omega) h2 with h3 | h3
        · left
          rw [h3]
          simp only [h2, if_true]
        · right
          rw [if_neg (by rw [h3]; decide)]
          exact h3
      · rw [if_neg h2] at h
        exact absurd h h2
    · rw [if_neg h1] at h ⊢
      rw [if_neg h1]
      by_cases h4 : sgn l i openS = true
      · rw [if_pos h4] at h ⊢
        rw [if_pos h4]
        by_cases h2 : (B (i + 1)).1.2 = 0
        · rw [if_pos h2] at h ⊢
          by_cases h5 : sgn l (B (i + 1)).2 closeS = true
          · rw [if_pos h5]
            rcases hB (i + 1) (by omega) (sgn_lt h5) h2 with h3 | h3
            · left
              rw [h3]
              simp only [h2, if_true]
              rw [sgn_ext pre l post _ closeS (sgn_lt h5), if_pos h5]
              rfl
            · right
              rw [if_neg (by rw [h3]; decide)]
              exact h3
          · rw [if_neg h5] at h
            exact absurd h (by show ¬ (3 : Int) = 0; decide)
        · rw [if_neg h2] at h
          exact absurd h h2
      · rw [if_neg h4] at h ⊢
        rw [if_neg h4]
        left
        rw [List.getElem?_eq_getElem hlt] at h ⊢
        simp only at h ⊢
        split
        · rfl
        · split
          · rfl
          · rename_i k2 k1
            rw [if_neg k2, if_neg k1] at h
            first
            | done
            | exact absurd h (by show ¬ (3 : Int) = 0; decide)
  · exfalso
    have he : i = l.length := by omega
    subst he
    have h0 : l[l.length]? = none := by simp
    simp [factorS, sgn, h0] at h

theorem factorF_ok (p : PS) (hp : p.OK) : ∀ r, FOK p.l.length (factorF p.l p.names r)
  | 0 => factorS_ok p hp (fun i hi => ⟨Nat.le_refl _, hi, fun h => by cases h⟩) (fun i hi => ⟨Nat.le_refl _, hi, fun h => by cases h⟩)
  | r + 1 => factorS_ok p hp (factorF_ok p hp r) (rowP_ok (rowP_ok (factorF_ok p hp r) (termG_ok p.l)) (sumG_ok p.l))

theorem factor_ext (p : PS) (hp : p.OK) (pre post : List Tok) (hs : sgn (pre ++ p.l ++ post) (pre.length + p.l.length) starS = false) :
    ∀ (r r' i : Nat), i ≤ p.l.length → ExtF pre.length (factorF p.l p.names r) (factorF (pre ++ p.l ++ post) p.names r') i
  | 0, 0, i, hi => factorS_ext pre p.l post p.names (fun i _ h => by cases h) (fun i _ _ h => by cases h) i hi
  | 0, r' + 1, i, hi => factorS_ext pre p.l post p.names (fun i _ h => by cases h) (fun i _ _ h => by cases h) i hi
  | r + 1, 0, i, hi => factorS_ext pre p.l post p.names (fun i _ h => .inr rfl) (fun i _ _ h => .inr rfl) i hi
  | r + 1, r' + 1, i, hi => factorS_ext pre p.l post p.names (fun i hi => factor_ext p hp pre post hs r r' i hi)
      (fun i hi hlt => sum_ext pre p.l post hs (factorF_ok p hp r) (fun i hi => factor_ext p hp pre post hs r r' i hi) i hi (.inl hlt)) i hi
end Go.Ab
