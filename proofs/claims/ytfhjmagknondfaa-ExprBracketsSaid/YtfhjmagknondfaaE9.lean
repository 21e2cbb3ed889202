/- The parser's algebra: brackets. -/
import Derived.Test.YtfhjmagknondfaaE8
set_option linter.unusedVariables false
set_option linter.unusedSimpArgs false
namespace Go.Ab

def wideL (l : List Tok) : List Tok := [sgT openS] ++ l ++ [sgT closeS]
theorem wide_len (l : List Tok) : (wideL l).length = l.length + 2 := by simp [wideL]
theorem wide_close (l : List Tok) (s : ByteArray) : sgn (wideL l) (1 + l.length) s = decide (closeS = s) := by
  have : (wideL l)[1 + l.length]? = some (sgT closeS) := by
    unfold wideL
    rw [List.getElem?_append_right (by simp; omega)]
    simp [Nat.add_comm]
  simp [sgn, this, sgT]
theorem wide_open (l : List Tok) (s : ByteArray) : sgn (wideL l) 0 s = decide (openS = s) := by
  simp [sgn, wideL, sgT]

theorem wide_factor (p : PS) (hp : p.OK) (r r' : Nat) (h : (sumF p.l (factorF p.l p.names r) 0).1.2 = 0) (hn : (sumF p.l (factorF p.l p.names r) 0).2 = p.l.length) :
    factorF (wideL p.l) p.names (r' + 1) 0 = ((sumF p.l (factorF p.l p.names r) 0).1, p.l.length + 2) ∨ (factorF (wideL p.l) p.names (r' + 1) 0).1.2 = 2 := by
  have hs : ∀ s, sgn ([sgT openS] ++ p.l ++ [sgT closeS]) (([sgT openS] : List Tok).length + p.l.length) s = decide (closeS = s) := wide_close p.l
  have e1 := sum_ext [sgT openS] p.l [sgT closeS] (by rw [hs]; decide) (factorF_ok p hp r) (fun i hi => factor_ext p hp [sgT openS] [sgT closeS] (by rw [hs]; decide) r r' i hi) 0 (Nat.zero_le _)
    (.inr ⟨by rw [hs]; decide, by rw [hs]; decide⟩) h
  have e2 : sumF (wideL p.l) (factorF (wideL p.l) p.names r') 1 = ((sumF p.l (factorF p.l p.names r) 0).1, 1 + p.l.length) ∨ (sumF (wideL p.l) (factorF (wideL p.l) p.names r') 1).1.2 = 2 := by
    rw [hn] at e1
    exact e1
  simp only [factorF, factorS, wide_open]
  rw [if_neg (by decide), if_pos (by decide)]
  rcases e2 with e2 | e2
  · left
    rw [e2]
    simp only [h, if_true]
    rw [wide_close, if_pos (by decide), ← h]
    simp; omega
  · right
    rw [if_neg (by rw [e2]; decide)]
    exact e2
end Go.Ab

set_option linter.unusedVariables false
set_option linter.unusedSimpArgs false
namespace Go.Ab


/-- F' at p + i yields what F does at i, shifted, or too deep. -/
def ExtFs (p : Nat) (F F' : Nat → Res2) (i : Nat) : Prop :=
  (F i).1.2 = 0 → F' (p + i) = ((F i).1, p + (F i).2)

theorem rowS_exts {p len : Nat} {F F' : Nat → Res2} {G G' : Nat → Made × Nat} (hF : FOK len F) (hG : GOK len G) (hx : ∀ i, i ≤ len → ExtFs p F F' i) :
    ∀ (n n' : Nat) (v : Val) (e : Int) (i : Nat), n ≤ n' → i ≤ len → (e = 0 → OkV v) → (e = 0 → len - i + 2 ≤ n) → 1 ≤ n → (rowS F G n v e i).1.2 = 0 →
      (∀ j, i ≤ j → j ≤ (rowS F G n v e i).2 → G' (p + j) = ((G j).1, p + (G j).2)) →
      rowS F' G' n' v e (p + i) = ((rowS F G n v e i).1, p + (rowS F G n v e i).2)
  | 0, n', v, e, i, _, _, _, _, h, _, _ => by omega
  | n + 1, 0, _, _, _, h, _, _, _, _, _, _ => by omega
  | n + 1, n' + 1, v, e, i, hn, hi, hv, hm, _, h, hg => by
    by_cases he : e = 0
    · subst he
      have hv := hv rfl
      have hm := hm rfl
      have hok := hG i hi
      have hgi := hg i (Nat.le_refl _) (rowS_ok hF hG (n + 1) v 0 i hi (fun _ => hv) (fun _ => hm) (by omega)).1
      simp only [rowS, if_true] at h hg ⊢
      rw [hgi]
      cases hmade : (G i).1 with
      | none =>
        rw [hmade] at h hok
      | some m =>
        obtain ⟨mf, op⟩ := m
        rw [hmade] at h hok hg
        obtain ⟨hG2, hlt, hop⟩ := hok
        simp only at h hg ⊢
        obtain ⟨f1, f2, f3⟩ := hF (G i).2 (by omega)
        by_cases hw : (F (G i).2).1.2 = 0
        · rw [if_pos hw] at h hg ⊢
          have hop2 := (hop v (F (G i).2).1.1 hv (f3 hw)).2
          have h1 := hx (G i).2 (by omega) hw
          rw [h1]
          simp only [hw, if_true]
          exact rowS_exts hF hG hx n n' _ _ _ (by omega) f2 hop2 (fun _ => by omega) (by omega) h (fun j hj1 hj2 => hg j (by omega) hj2)
        · rw [if_neg hw] at h
          have : (rowS F G n v (F (G i).2).1.2 (F (G i).2).2).1.2 = (F (G i).2).1.2 := by
            cases n <;> simp [rowS, hw]
          exact absurd (this.symm.trans h) hw
    · simp only [rowS, if_neg he] at h
      exact absurd h he
theorem rowP_exts {p len len' : Nat} {F F' : Nat → Res2} {G G' : Nat → Made × Nat} (hlen : len ≤ len') (hF : FOK len F) (hG : GOK len G) (hx : ∀ i, i ≤ len → ExtFs p F F' i) (i : Nat) (hi : i ≤ len)
    (hg : ∀ j, i ≤ j → j ≤ (rowP F G len i).2 → G' (p + j) = ((G j).1, p + (G j).2)) : ExtFs p (rowP F G len) (rowP F' G' len') i := by
  intro h
  obtain ⟨f1, f2, f3⟩ := hF i hi
  by_cases hw : (F i).1.2 = 0
  · have h1 := hx i hi hw
    · unfold rowP
      rw [h1]
      exact rowS_exts hF hG hx (len + 2) (len' + 2) _ _ _ (by omega) f2 f3 (fun _ => by omega) (by omega) h (fun j hj1 hj2 => hg j (by omega) hj2)
  · exfalso
    apply hw
    have : (rowP F G len i).1.2 = (F i).1.2 := by simp [rowP, rowS, hw]
    exact this.symm.trans h

theorem term_exts (pre l post : List Tok) (hs : sgn (pre ++ l ++ post) (pre.length + l.length) starS = false) {F F' : Nat → Res2} (hF : FOK l.length F) (hx : ∀ i, i ≤ l.length → ExtFs pre.length F F' i) (i : Nat) (hi : i ≤ l.length) :
    ExtFs pre.length (termF l F) (termF (pre ++ l ++ post) F') i :=
  rowP_exts (by simp; omega) hF (termG_ok l) hx i hi fun j hj1 hj2 => termG_ext pre l post hs j (Nat.le_trans hj2 (rowP_ok hF (termG_ok l) i hi).2.1)

theorem sum_exts (pre l post : List Tok) (hs : sgn (pre ++ l ++ post) (pre.length + l.length) starS = false) {F F' : Nat → Res2} (hF : FOK l.length F) (hx : ∀ i, i ≤ l.length → ExtFs pre.length F F' i) (i : Nat) (hi : i ≤ l.length)
    (he : (sumF l F i).2 < l.length ∨ sgn (pre ++ l ++ post) (pre.length + l.length) plusS = false ∧ sgn (pre ++ l ++ post) (pre.length + l.length) minusS = false) :
    ExtFs pre.length (sumF l F) (sumF (pre ++ l ++ post) F') i :=
  rowP_exts (by simp; omega) (rowP_ok hF (termG_ok l)) (sumG_ok l) (fun i hi => term_exts pre l post hs hF hx i hi) i hi fun j hj1 hj2 =>
    sumG_ext pre l post j (Nat.le_trans hj2 (rowP_ok (rowP_ok hF (termG_ok l)) (sumG_ok l) i hi).2.1) (he.imp (fun h => Nat.lt_of_le_of_lt hj2 h) id)


theorem factorS_exts (pre l post : List Tok) (names : List Val) {A A' B B' : Nat → Res2} (hA : ∀ i, i ≤ l.length → ExtFs pre.length A A' i) (hB : ∀ i, i ≤ l.length → (B i).2 < l.length → ExtFs pre.length B B' i) (i : Nat) (hi : i ≤ l.length) :
    ExtFs pre.length (factorS l names A B) (factorS (pre ++ l ++ post) names A' B') i := by
  intro h
  have e1 : pre.length + i + 1 = pre.length + (i + 1) := by omega
  by_cases hlt : i < l.length
  · have s1 := sgn_ext pre l post i minusS hlt
    have s2 := sgn_ext pre l post i openS hlt
    have g1 := get_ext pre l post i hlt
    unfold factorS at h ⊢
    rw [s1, s2, g1, e1]
    by_cases h1 : sgn l i minusS = true
    · rw [if_pos h1] at h ⊢
      rw [if_pos h1]
      by_cases h2 : (A (i + 1)).1.2 = 0
      · rw [if_pos h2] at h ⊢
        have h3 := hA (i + 1) (by omega) h2
        rw [h3]
        simp only [h2, if_true]
      · rw [if_neg h2] at h
        exact absurd h h2
    · rw [if_neg h1] at h ⊢
      rw [if_neg h1]
      by_cases h4 : sgn l i openS = true
      · rw [if_pos h4] at h ⊢
        rw [if_pos h4]
        by_cases h2 : (B (i + 1)).1.2 = 0
        · rw [if_pos h2] at h ⊢
          by_cases h5 : sgn l (B (i + 1)).2 closeS = true
          · rw [if_pos h5]
            have h3 := hB (i + 1) (by omega) (sgn_lt h5) h2
            rw [h3]
            simp only [h2, if_true]
            rw [sgn_ext pre l post _ closeS (sgn_lt h5), if_pos h5]
            rfl
          · rw [if_neg h5] at h
            exact absurd h (by show ¬ (3 : Int) = 0; decide)
        · rw [if_neg h2] at h
          exact absurd h h2
      · rw [if_neg h4] at h ⊢
        rw [if_neg h4]
        rw [List.getElem?_eq_getElem hlt] at h ⊢
        simp only at h ⊢
        split
        · rfl
        · split
          · rfl
          · rename_i k2 k1
            rw [if_neg k2, if_neg k1] at h
            first
            | done
            | exact absurd h (by show ¬ (3 : Int) = 0; decide)
  · exfalso
    have he : i = l.length := by omega
    subst he
    have h0 : l[l.length]? = none := by simp
    simp [factorS, sgn, h0] at h

theorem factor_exts (p : PS) (hp : p.OK) (pre post : List Tok) (hs : sgn (pre ++ p.l ++ post) (pre.length + p.l.length) starS = false) :
    ∀ (r r' i : Nat), r ≤ r' → i ≤ p.l.length → ExtFs pre.length (factorF p.l p.names r) (factorF (pre ++ p.l ++ post) p.names r') i
  | 0, 0, i, _, hi => factorS_exts pre p.l post p.names (fun i _ h => by cases h) (fun i _ _ h => by cases h) i hi
  | 0, r' + 1, i, _, hi => factorS_exts pre p.l post p.names (fun i _ h => by cases h) (fun i _ _ h => by cases h) i hi
  | r + 1, 0, i, h, _ => by omega
  | r + 1, r' + 1, i, h, hi => factorS_exts pre p.l post p.names (fun i hi => factor_exts p hp pre post hs r r' i (by omega) hi)
      (fun i hi hlt => sum_exts pre p.l post hs (factorF_ok p hp r) (fun i hi => factor_exts p hp pre post hs r r' i (by omega) hi) i hi (.inl hlt)) i hi
end Go.Ab

set_option linter.unusedVariables false
set_option linter.unusedSimpArgs false
namespace Go.Ab

/-- Where a row ends in itself, the longer one stands at the same value, with rounds left. -/
theorem rowS_go {p len : Nat} {F F' : Nat → Res2} {G G' : Nat → Made × Nat} (hF : FOK len F) (hG : GOK len G) (hx : ∀ i, i ≤ len → ExtFs p F F' i) :
    ∀ (n n' : Nat) (v : Val) (e : Int) (i : Nat), n ≤ n' → i ≤ len → (e = 0 → OkV v) → (e = 0 → len - i + 2 ≤ n) → 1 ≤ n → (rowS F G n v e i).1.2 = 0 →
      (∀ j, i ≤ j → j < (rowS F G n v e i).2 → G' (p + j) = ((G j).1, p + (G j).2)) →
      ∃ m, n' - n + 1 ≤ m ∧ rowS F' G' n' v e (p + i) = rowS F' G' m (rowS F G n v e i).1.1 0 (p + (rowS F G n v e i).2)
  | 0, n', v, e, i, _, _, _, _, h, _, _ => by omega
  | n + 1, 0, _, _, _, h, _, _, _, _, _, _ => by omega
  | n + 1, n' + 1, v, e, i, hn, hi, hv, hm, _, h, hg => by
    by_cases he : e = 0
    · subst he
      have hv := hv rfl
      have hm := hm rfl
      have hok := hG i hi
      cases hmade : (G i).1 with
      | none =>
        rw [hmade] at hok
        simp only at hok
        have e1 : rowS F G (n + 1) v 0 i = ((v, 0), i) := by simp [rowS, hmade, hok]
        rw [e1]
        exact ⟨n' + 1, by omega, rfl⟩
      | some m =>
        obtain ⟨mf, op⟩ := m
        rw [hmade] at hok
        obtain ⟨hG2, hlt, hop⟩ := hok
        obtain ⟨f1, f2, f3⟩ := hF (G i).2 (by omega)
        by_cases hw : (F (G i).2).1.2 = 0
        · have hop2 := (hop v (F (G i).2).1.1 hv (f3 hw)).2
          have e1 : rowS F G (n + 1) v 0 i = rowS F G n (op v (F (G i).2).1.1).1 (op v (F (G i).2).1.1).2 (F (G i).2).2 := by simp [rowS, hmade, hw]
          rw [e1] at h hg ⊢
          have hge := rowS_ok hF hG n (op v (F (G i).2).1.1).1 (op v (F (G i).2).1.1).2 (F (G i).2).2 f2 hop2 (fun _ => by omega) (by omega)
          have hgi := hg i (Nat.le_refl _) (by omega)
          have h1 := hx (G i).2 (by omega) hw
          have e2 : rowS F' G' (n' + 1) v 0 (p + i) = rowS F' G' n' (op v (F (G i).2).1.1).1 (op v (F (G i).2).1.1).2 (p + (F (G i).2).2) := by
            simp only [rowS, if_true, hgi, hmade, h1, hw]
          rw [e2]
          obtain ⟨m, hm1, hm2⟩ := rowS_go hF hG hx n n' _ _ _ (by omega) f2 hop2 (fun _ => by omega) (by omega) h (fun j hj1 hj2 => hg j (by omega) hj2)
          exact ⟨m, by omega, hm2⟩
        · exfalso
          have : (rowS F G (n + 1) v 0 i).1.2 = (F (G i).2).1.2 := by
            simp only [rowS, if_true, hmade, if_neg hw]
            cases n <;> simp [rowS, hw]
          exact hw (this.symm.trans h)
    · simp only [rowS, if_neg he] at h
      exact absurd h he
end Go.Ab
