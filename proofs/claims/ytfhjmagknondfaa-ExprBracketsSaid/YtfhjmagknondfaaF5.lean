/- What expr's laws end with. -/
import Derived.Test.YtfhjmagknondfaaF4
import Derived.KernelRfl
set_option linter.unusedVariables false
set_option linter.unusedSimpArgs false
set_option maxRecDepth 100000
namespace Go.Ab
open Go.Proofs

def wakeS9 : ByteArray := { data := #[50, 32, 43, 32, 51, 32, 42, 32, 52] }
theorem wake9_of : ofF [] (wordsF wakeS9).1 = (⟨emptyS, 14⟩, 0) := by kernel_rfl

theorem law9_wakes : Tells 11 [] (.c (.bool true)) := by
  refine CallsA.body Try.func11 rfl (by decide) fun Γ => Run.of_ex 1000 ?_
  simp [Try.f11]
  refine (ref_Words wakeS9 (by decide)).call ?_
  simp [toksA]
  have hn : numberF [] (wordsF wakeS9).1 = (14, 0) := by simp [numberF, wake9_of]
  have hl := wordsF_len wakeS9
  refine CallV.conv (h1 := []) (hr := []) (Conv.at (i := 0) rfl Fz.nil) (by simp) (expr_Of2 true true [] (wordsF wakeS9).1 (by omega) ⟨by simp, by simp⟩) ?_
  rintro r h' ⟨rfl, rfl⟩ _
  simp [wake9_of, resV, valA]
  intro b1
  simp [exW]
  refine CallV.conv (h1 := []) (Conv.at (i := 0) rfl Fz.nil) (by simp) (expr_Number true true [] (wordsF wakeS9).1 (by omega) ⟨by simp, by simp⟩) ?_
  rintro r h' ⟨rfl, rfl⟩ _
  simp [hn]
  refine (law9_num 0).call ?_
  simp
  refine (law9_num 0).call ?_
  simp [emptyS]
end Go.Ab

set_option linter.unusedVariables false
set_option linter.unusedSimpArgs false
set_option maxRecDepth 100000
namespace Go.Ab
open Go.Proofs

theorem rowS_end {F : Nat → Res2} {G : Nat → Made × Nat} {n : Nat} {v : Val} {i : Nat} (hn : 1 ≤ n) (hG : G i = (none, i)) : rowS F G n v 0 i = ((v, 0), i) := by
  cases n with
  | zero => omega
  | succ n => simp [rowS, hG]
theorem rowP_end {F : Nat → Res2} {G : Nat → Made × Nat} {len i j : Nat} {v : Val} (hF : F i = ((v, 0), j)) (hG : G j = (none, j)) : rowP F G len i = ((v, 0), j) := by
  unfold rowP
  rw [hF]
  exact rowS_end (by omega) hG
theorem rowP_deep {F : Nat → Res2} {G : Nat → Made × Nat} {len i : Nat} (hF : (F i).1.2 = 2) : (rowP F G len i).1.2 = 2 := by
  unfold rowP
  exact rowS_deep hF
theorem sgn_out {l : List Tok} {i : Nat} (s : ByteArray) (h : l.length ≤ i) : sgn l i s = false := by
  simp [sgn, List.getElem?_eq_none h]
theorem termG_out {l : List Tok} {i : Nat} (h : l.length ≤ i) : termG l i = (none, i) := by simp [termG, sgn_out starS h]
theorem sumG_out {l : List Tok} {i : Nat} (h : l.length ≤ i) : sumG l i = (none, i) := by simp [sumG, sgn_out plusS h, sgn_out minusS h]

theorem wide_top (p : PS) (hp : p.OK) (r : Nat) {v : Val} (h : topF p.l p.names 0 = ((v, 0), p.l.length)) :
    (factorF (wideL p.l) p.names (r + 1) 0 = ((v, 0), p.l.length + 2) ∧ sumF (wideL p.l) (factorF (wideL p.l) p.names (r + 1)) 0 = ((v, 0), p.l.length + 2)) ∨
    ((factorF (wideL p.l) p.names (r + 1) 0).1.2 = 2 ∧ (sumF (wideL p.l) (factorF (wideL p.l) p.names (r + 1)) 0).1.2 = 2) := by
  have h' : sumF p.l (factorF p.l p.names 8) 0 = ((v, 0), p.l.length) := h
  rcases wide_factor p hp 8 r (by rw [h']) (by rw [h']) with e | e
  · left
    rw [h'] at e
    have hl : (wideL p.l).length ≤ p.l.length + 2 := by rw [wide_len]; exact Nat.le_refl _
    exact ⟨e, rowP_end (rowP_end e (termG_out hl)) (sumG_out hl)⟩
  · exact .inr ⟨e, rowP_deep (rowP_deep e)⟩

/-- A sum that goes on behind: up to there it is the same. -/
theorem sum_go (p : PS) (hp : p.OK) (post : List Tok) (hs : sgn (p.l ++ post) p.l.length starS = false) {v : Val} (h : topF p.l p.names 0 = ((v, 0), p.l.length)) :
    ∃ m, post.length + 1 ≤ m ∧ topF (p.l ++ post) p.names 0 = rowS (termF (p.l ++ post) (factorF (p.l ++ post) p.names 8)) (sumG (p.l ++ post)) m v 0 p.l.length := by
  have h' : rowP (termF p.l (factorF p.l p.names 8)) (sumG p.l) p.l.length 0 = ((v, 0), p.l.length) := h
  have hs' : sgn ([] ++ p.l ++ post) (([] : List Tok).length + p.l.length) starS = false := by simpa using hs
  have hF := factorF_ok p hp 8
  have hT : FOK p.l.length (termF p.l (factorF p.l p.names 8)) := rowP_ok hF (termG_ok p.l)
  have hx : ∀ i, i ≤ p.l.length → ExtFs 0 (termF p.l (factorF p.l p.names 8)) (termF (p.l ++ post) (factorF (p.l ++ post) p.names 8)) i := fun i hi => by
    have := term_exts [] p.l post hs' hF (fun i hi => factor_exts p hp [] post hs' 8 8 i (Nat.le_refl _) hi) i hi
    simpa using this
  obtain ⟨f1, f2, f3⟩ := hT 0 (Nat.zero_le _)
  have hw : (termF p.l (factorF p.l p.names 8) 0).1.2 = 0 := by
    by_cases hq : (termF p.l (factorF p.l p.names 8) 0).1.2 = 0
    · exact hq
    · exfalso
      have : (rowP (termF p.l (factorF p.l p.names 8)) (sumG p.l) p.l.length 0).1.2 = (termF p.l (factorF p.l p.names 8) 0).1.2 := by simp [rowP, rowS, hq]
      rw [h'] at this
      exact hq this.symm
  have h0 := hx 0 (Nat.zero_le _) hw
  simp only [Nat.zero_add] at h0
  obtain ⟨m, hm1, hm2⟩ := rowS_go (p := 0) hT (sumG_ok p.l) hx (p.l.length + 2) ((p.l ++ post).length + 2) _ _ _ (by simp) f2 f3 (fun _ => by omega) (by omega) (by
      have := congrArg (fun r => r.1.2) h'
      exact this) (G' := sumG (p.l ++ post)) (fun j hj1 hj2 => by
      have hj3 : j < p.l.length := by
        have := congrArg (fun r => r.2) h'
        simp only [rowP] at this
        omega
      have := sumG_ext [] p.l post j (by omega) (.inl hj3)
      simpa using this)
  refine ⟨m, by simp at hm1; omega, ?_⟩
  have h2 : rowS (termF p.l (factorF p.l p.names 8)) (sumG p.l) (p.l.length + 2) (termF p.l (factorF p.l p.names 8) 0).1.1 (termF p.l (factorF p.l p.names 8) 0).1.2 (termF p.l (factorF p.l p.names 8) 0).2 = ((v, 0), p.l.length) := h'
  rw [h2] at hm2
  simp only [Nat.zero_add] at hm2
  show rowP _ _ _ 0 = _
  unfold rowP
  rw [h0]
  exact hm2

theorem addF_0 {v : Val} (hv : OkV v) : addF v ⟨emptyS, 0⟩ = (v, 0) := by
  obtain ⟨s, n⟩ := v
  have h1 := hv.lo
  have h2 := hv.hi
  have e : s ++ emptyS = s := by
    cases s with
    | mk d => apply ByteArray.ext; simp [emptyS, ByteArray.data_append]
  simp only [] at h1 h2
  simp [addF, rangedF, withinB, e, h1, h2]
theorem lessF_self {v : Val} : (v.sym = emptyS → lessF v v = (v0, 0)) ∧ (v.sym ≠ emptyS → lessF v v = (v0, 6)) := by
  obtain ⟨s, n⟩ := v
  refine ⟨fun h => ?_, fun h => ?_⟩
  · simp only [] at h
    subst h
    simp [lessF, rangedF, withinB, v0]
  · simp only [] at h
    simp [lessF, h]

def zeroT : Tok := ⟨2, emptyS, 0, 0⟩
theorem plus_zero (p : PS) (hp : p.OK) {v : Val} (hv : OkV v) (h : topF p.l p.names 0 = ((v, 0), p.l.length)) :
    topF (p.l ++ [sgT plusS, zeroT]) p.names 0 = ((v, 0), p.l.length + 2) := by
  have g0 : ∀ s, sgn (p.l ++ [sgT plusS, zeroT]) p.l.length s = decide (plusS = s) := fun s => by
    simp [sgn, sgT]
  have g1 : ∀ s, sgn (p.l ++ [sgT plusS, zeroT]) (p.l.length + 1) s = false := fun s => by
    have : (p.l ++ [sgT plusS, zeroT])[p.l.length + 1]? = some zeroT := by
      rw [List.getElem?_append_right (by omega)]; simp
    simp [sgn, this, zeroT]
  have g2 : (p.l ++ [sgT plusS, zeroT])[p.l.length + 1]? = some zeroT := by
    rw [List.getElem?_append_right (by omega)]; simp
  obtain ⟨m, hm, he⟩ := sum_go p hp [sgT plusS, zeroT] (by rw [g0]; decide) h
  rw [he]
  obtain ⟨m, rfl⟩ : ∃ k, m = k + 1 := ⟨m - 1, by simp at hm; omega⟩
  have hl : (p.l ++ [sgT plusS, zeroT]).length ≤ p.l.length + 2 := by simp
  have hf : factorF (p.l ++ [sgT plusS, zeroT]) p.names 8 (p.l.length + 1) = ((⟨emptyS, 0⟩, 0), p.l.length + 2) := by
    simp only [factorF, factorS, g1, g2]
    simp [zeroT]
  have ht : termF (p.l ++ [sgT plusS, zeroT]) (factorF (p.l ++ [sgT plusS, zeroT]) p.names 8) (p.l.length + 1) = ((⟨emptyS, 0⟩, 0), p.l.length + 2) := rowP_end hf (termG_out hl)
  have hg : ∃ f, sumG (p.l ++ [sgT plusS, zeroT]) p.l.length = (some (f, addF), p.l.length + 1) := by
    simp only [sumG, g0]
    simp
  obtain ⟨f, hg⟩ := hg
  simp only [rowS, if_true, hg, ht, addF_0 hv]
  exact rowS_end (by simp at hm; omega) (sumG_out hl)

theorem less_wide (p : PS) (hp : p.OK) (hw : (⟨p.b, p.f1, p.f2, p.names, wideL p.l⟩ : PS).OK) {v : Val} (h : topF p.l p.names 0 = ((v, 0), p.l.length)) :
    (factorF (wideL p.l) p.names 8 0 = ((v, 0), p.l.length + 2) → (topF (p.l ++ ([sgT minusS] ++ wideL p.l)) p.names 0).1.2 = (lessF v v).2 ∧ ((lessF v v).2 = 0 → topF (p.l ++ ([sgT minusS] ++ wideL p.l)) p.names 0 = (lessF v v, 2 * p.l.length + 3))) ∧
    (v.sym ≠ emptyS → (topF (p.l ++ ([sgT minusS] ++ wideL p.l)) p.names 0).1.2 = 6 ∨ (topF (p.l ++ ([sgT minusS] ++ wideL p.l)) p.names 0).1.2 = 2) := by
  have hL : (p.l ++ ([sgT minusS] ++ wideL p.l)).length = 2 * p.l.length + 3 := by simp [wide_len]; omega
  have g0 : ∀ s, sgn (p.l ++ ([sgT minusS] ++ wideL p.l)) p.l.length s = decide (minusS = s) := fun s => by
    simp [sgn, sgT]
  have g1 : ∀ s, sgn (p.l ++ ([sgT minusS] ++ wideL p.l)) (p.l.length + 1) s = decide (openS = s) := fun s => by
    have : (p.l ++ ([sgT minusS] ++ wideL p.l))[p.l.length + 1]? = some (sgT openS) := by
      rw [List.getElem?_append_right (by omega)]; simp [wideL]
    simp only [sgn, this]
    simp only [sgT, decide_true, Bool.true_and]
    exact decide_eq_decide.2 Iff.rfl
  obtain ⟨m, hm, he⟩ := sum_go p hp ([sgT minusS] ++ wideL p.l) (by rw [g0]; decide) h
  obtain ⟨m, rfl⟩ : ∃ k, m = k + 1 := ⟨m - 1, by simp at hm; omega⟩
  have hg : ∃ f, sumG (p.l ++ ([sgT minusS] ++ wideL p.l)) p.l.length = (some (f, lessF), p.l.length + 1) := by
    simp only [sumG, g0]
    exact ⟨_, by rw [if_neg (by decide), if_pos (by decide)]⟩
  obtain ⟨f, hg⟩ := hg
  have ok : factorF (p.l ++ ([sgT minusS] ++ wideL p.l)) p.names 8 (p.l.length + 1) = ((v, 0), 2 * p.l.length + 3) →
      (topF (p.l ++ ([sgT minusS] ++ wideL p.l)) p.names 0).1.2 = (lessF v v).2 ∧ ((lessF v v).2 = 0 → topF (p.l ++ ([sgT minusS] ++ wideL p.l)) p.names 0 = (lessF v v, 2 * p.l.length + 3)) := fun hf => by
    have ht : termF (p.l ++ ([sgT minusS] ++ wideL p.l)) (factorF (p.l ++ ([sgT minusS] ++ wideL p.l)) p.names 8) (p.l.length + 1) = ((v, 0), 2 * p.l.length + 3) := rowP_end hf (termG_out (by omega))
    rw [he]
    simp only [rowS, if_true, hg, ht]
    by_cases hz : (lessF v v).2 = 0
    · rw [hz]
      rw [rowS_end (by simp at hm; omega) (sumG_out (by omega))]
      exact ⟨rfl, fun _ => by rw [← hz]⟩
    · refine ⟨?_, fun h => absurd h hz⟩
      obtain ⟨m', rfl⟩ : ∃ k, m = k + 1 := ⟨m - 1, by simp at hm; omega⟩
      simp [rowS, hz]
  refine ⟨fun hfw => ok ?_, fun hs => ?_⟩
  · have hs2 : sgn ((p.l ++ [sgT minusS]) ++ wideL p.l ++ []) ((p.l ++ [sgT minusS]).length + (wideL p.l).length) starS = false := sgn_out _ (by simp; omega)
    have := factor_exts ⟨p.b, p.f1, p.f2, p.names, wideL p.l⟩ hw (p.l ++ [sgT minusS]) [] hs2 8 8 0 (Nat.le_refl _) (Nat.zero_le _) (by simp only []; rw [hfw])
    simp only [List.append_nil, hfw] at this
    have e1 : p.l ++ [sgT minusS] ++ wideL p.l = p.l ++ ([sgT minusS] ++ wideL p.l) := List.append_assoc _ _ _
    rw [e1] at this
    have e2 : (p.l ++ [sgT minusS]).length + 0 = p.l.length + 1 := by simp
    rw [e2] at this
    rw [this]
    simp; omega
  · have e3 : p.l ++ ([sgT minusS] ++ wideL p.l) = (p.l ++ [sgT minusS, sgT openS]) ++ p.l ++ [sgT closeS] := by simp [wideL]
    have hs3 : ∀ s, sgn ((p.l ++ [sgT minusS, sgT openS]) ++ p.l ++ [sgT closeS]) ((p.l ++ [sgT minusS, sgT openS]).length + p.l.length) s = decide (closeS = s) := fun s => by
      have : ((p.l ++ [sgT minusS, sgT openS]) ++ p.l ++ [sgT closeS])[(p.l ++ [sgT minusS, sgT openS]).length + p.l.length]? = some (sgT closeS) := by
        rw [List.getElem?_append_right (by simp; omega)]
        have e0 : (p.l ++ [sgT minusS, sgT openS]).length + p.l.length - ((p.l ++ [sgT minusS, sgT openS]) ++ p.l).length = 0 := by simp; omega
        rw [e0]; rfl
      simp only [sgn, this]
      simp only [sgT, decide_true, Bool.true_and]
      exact decide_eq_decide.2 Iff.rfl
    have h' : sumF p.l (factorF p.l p.names 8) 0 = ((v, 0), p.l.length) := h
    have e1 := sum_ext (p.l ++ [sgT minusS, sgT openS]) p.l [sgT closeS] (by rw [hs3]; decide) (factorF_ok p hp 8) (fun i hi => factor_ext p hp (p.l ++ [sgT minusS, sgT openS]) [sgT closeS] (by rw [hs3]; decide) 8 7 i hi) 0 (Nat.zero_le _)
      (.inr ⟨by rw [hs3]; decide, by rw [hs3]; decide⟩) (by rw [h'])
    rw [h', ← e3] at e1
    have e4 : (p.l ++ [sgT minusS, sgT openS]).length + 0 = p.l.length + 1 + 1 := by simp
    have e5 : (p.l ++ [sgT minusS, sgT openS]).length + p.l.length = 2 * p.l.length + 2 := by simp; omega
    have hc : sgn (p.l ++ ([sgT minusS] ++ wideL p.l)) (2 * p.l.length + 2) closeS = true := by
      rw [← e5, e3, hs3]; decide
    rw [e4] at e1
    simp only [e5] at e1
    have hfac : factorF (p.l ++ ([sgT minusS] ++ wideL p.l)) p.names 8 (p.l.length + 1) = ((v, 0), 2 * p.l.length + 3) ∨ (factorF (p.l ++ ([sgT minusS] ++ wideL p.l)) p.names 8 (p.l.length + 1)).1.2 = 2 := by
      have hun : factorF (p.l ++ ([sgT minusS] ++ wideL p.l)) p.names 8 (p.l.length + 1) = factorS (p.l ++ ([sgT minusS] ++ wideL p.l)) p.names (factorF (p.l ++ ([sgT minusS] ++ wideL p.l)) p.names 7) (sumF (p.l ++ ([sgT minusS] ++ wideL p.l)) (factorF (p.l ++ ([sgT minusS] ++ wideL p.l)) p.names 7)) (p.l.length + 1) := rfl
      rw [hun]
      simp only [factorS, g1]
      rw [if_neg (by decide), if_pos (by decide)]
      rcases e1 with e1 | e1
      · left
        rw [e1]
        simp only [if_true]
        rw [if_pos hc]
      · right
        rw [if_neg (by rw [e1]; decide)]
        exact e1
    rcases hfac with hf | hf
    · left
      rw [(ok hf).1, lessF_self.2 hs]
    · right
      rw [he]
      have ht : (termF (p.l ++ ([sgT minusS] ++ wideL p.l)) (factorF (p.l ++ ([sgT minusS] ++ wideL p.l)) p.names 8) (p.l.length + 1)).1.2 = 2 := rowP_deep hf
      simp only [rowS, if_true, hg, ht]
      rw [if_neg (by decide)]
      exact rowS_deep rfl
end Go.Ab

set_option linter.unusedVariables false
set_option linter.unusedSimpArgs false
set_option maxRecDepth 100000
namespace Go.Ab
open Go.Proofs

theorem of_ok {names : List Val} {l : List Tok} (h : (ofF names l).2 = 0) (hl : l.length ≤ 4611686018427387904) (hn : OKN names) : namesB names = true ∧ tokensB l = true ∧ topF l names 0 = (((ofF names l).1, 0), l.length) ∧ OkV (ofF names l).1 := by
  unfold ofF takeF at h ⊢
  by_cases h1 : namesB names = true ∧ tokensB l = true
  · simp only [if_pos h1] at h ⊢
    by_cases h2 : (topF l names 0).1.2 = 0
    · simp only [if_pos h2, if_true] at h ⊢
      have ok : (⟨0, false, false, names, l⟩ : PS).OK := ⟨hl, hn.1, tokensB_all h1.2, fun v hv => mayB_within (namesB_all h1.1 v hv)⟩
      obtain ⟨g1, g2, g3⟩ := (parser_top ⟨0, false, false, names, l⟩ ok).ok 0 (Nat.zero_le _)
      simp only at g2 g3
      by_cases h3 : (topF l names 0).2 < l.length
      · simp [h3] at h
      · simp only [if_neg h3]
        refine ⟨h1.1, h1.2, ?_, g3 h2⟩
        have e1 : (topF l names 0).2 = l.length := by omega
        rw [← h2, ← e1]
    · simp only [if_neg h2] at h
      exact absurd h h2
  · simp only [if_neg h1] at h
    simp at h

theorem of_mk {names : List Val} {l : List Tok} {v : Val} (h1 : namesB names = true) (h2 : tokensB l = true) (h3 : topF l names 0 = ((v, 0), l.length)) : ofF names l = (v, 0) := by
  simp [ofF, takeF, h1, h2, h3]
theorem of_err {names : List Val} {l : List Tok} (h1 : namesB names = true) (h2 : tokensB l = true) (h3 : (topF l names 0).1.2 ≠ 0) : (ofF names l).2 = (topF l names 0).1.2 := by
  simp [ofF, takeF, h1, h2, h3]

theorem tok_open : tokB (sgT openS) = true := by kernel_rfl
theorem tok_close : tokB (sgT closeS) = true := by kernel_rfl
theorem tok_plus : tokB (sgT plusS) = true := by kernel_rfl
theorem tok_minus : tokB (sgT minusS) = true := by kernel_rfl
theorem tok_zero : tokB zeroT = true := by kernel_rfl
theorem tokensB_mk {l : List Tok} (h1 : l.length ≤ 40) (h2 : ∀ t ∈ l, tokB t = true) : tokensB l = true := by
  simp only [tokensB, Bool.and_eq_true, decide_eq_true_eq, Bool.not_eq_true', List.any_eq_false]
  exact ⟨h1, fun t ht => by simp [h2 t ht]⟩

theorem brackets {names : List Val} {l : List Tok} (hn : OKN names) (hl : l.length ≤ 15) (h : (ofF names l).2 = 0) :
    ((ofF names (wideL l)).2 = 0 ∧ (ofF names (wideL l)).1 = (ofF names l).1 ∨ (ofF names (wideL l)).2 = 2) ∧
    ofF names (l ++ [sgT plusS, zeroT]) = ((ofF names l).1, 0) ∧
    ((ofF names l).1.sym = emptyS → (ofF names (wideL l)).2 = 0 → ofF names (l ++ ([sgT minusS] ++ wideL l)) = (v0, 0)) ∧
    ((ofF names l).1.sym ≠ emptyS → (ofF names (l ++ ([sgT minusS] ++ wideL l))).2 = 6 ∨ (ofF names (l ++ ([sgT minusS] ++ wideL l))).2 = 2) := by
  obtain ⟨h1, h2, h3, hv⟩ := of_ok h (by omega) hn
  generalize (ofF names l).1 = v at h3 hv
  have hall := tokensB_all h2
  have hvs : ∀ v ∈ names, withinB v.n = true := fun v hv => mayB_within (namesB_all h1 v hv)
  have wl := wide_len l
  have hwall : ∀ t ∈ wideL l, tokB t = true := fun t ht => by
    simp only [wideL, List.mem_append, List.mem_singleton] at ht
    rcases ht with (rfl | ht) | rfl
    · exact tok_open
    · exact hall t ht
    · exact tok_close
  have tw : tokensB (wideL l) = true := tokensB_mk (by omega) hwall
  have tp : tokensB (l ++ [sgT plusS, zeroT]) = true := tokensB_mk (by simp; omega) fun t ht => by
    simp only [List.mem_append, List.mem_cons, List.not_mem_nil, or_false] at ht
    rcases ht with ht | rfl | rfl
    · exact hall t ht
    · exact tok_plus
    · exact tok_zero
  have tm : tokensB (l ++ ([sgT minusS] ++ wideL l)) = true := tokensB_mk (by simp; omega) fun t ht => by
    simp only [List.mem_append, List.mem_singleton] at ht
    rcases ht with ht | rfl | ht
    · exact hall t ht
    · exact tok_minus
    · exact hwall t ht
  have ok : (⟨0, false, false, names, l⟩ : PS).OK := ⟨by simp only []; omega, hn.1, hall, hvs⟩
  have okw : (⟨0, false, false, names, wideL l⟩ : PS).OK := ⟨by simp only []; omega, hn.1, hwall, hvs⟩
  have hw := wide_top ⟨0, false, false, names, l⟩ ok 7 h3
  have hp := plus_zero ⟨0, false, false, names, l⟩ ok hv h3
  have hlw := less_wide ⟨0, false, false, names, l⟩ ok okw h3
  simp only at hw hp hlw
  refine ⟨?_, of_mk h1 tp (by simpa using hp), fun hs hf => ?_, fun hs => ?_⟩
  · rcases hw with ⟨_, e⟩ | ⟨_, e⟩
    · have : ofF names (wideL l) = (v, 0) := of_mk h1 tw (by rw [wl]; exact e)
      rw [this]; exact .inl ⟨rfl, rfl⟩
    · exact .inr ((of_err h1 tw (show (topF (wideL l) names 0).1.2 ≠ 0 by show (sumF (wideL l) (factorF (wideL l) names 8) 0).1.2 ≠ 0; rw [e]; decide)).trans e)
  · rcases hw with ⟨e0, e⟩ | ⟨_, e⟩
    · obtain ⟨q1, q2⟩ := hlw.1 e0
      have hz : lessF v v = (v0, 0) := lessF_self.1 hs
      have := q2 (by rw [hz])
      rw [hz] at this
      refine of_mk h1 tm ?_
      rw [this]
      simp; omega
    · exfalso
      have : (ofF names (wideL l)).2 = 2 := (of_err h1 tw (show (topF (wideL l) names 0).1.2 ≠ 0 by show (sumF (wideL l) (factorF (wideL l) names 8) 0).1.2 ≠ 0; rw [e]; decide)).trans e
      rw [hf] at this
      cases this
  · rcases hlw.2 hs with e | e
    · exact .inl ((of_err h1 tm (by rw [e]; decide)).trans e)
    · exact .inr ((of_err h1 tm (by rw [e]; decide)).trans e)
end Go.Ab

set_option linter.unusedVariables false
set_option linter.unusedSimpArgs false
set_option maxRecDepth 100000
namespace Go.Ab
open Go.Proofs

def toksP (p : Bool × List Tok) : AV := toksA p.1 p.2
def RowsL (x : AV) (h : List It) : Prop := ∃ L : List (Bool × List Tok), x = .sl true 1 (L.map toksP) ∧ h = [] ∧ L.length ≤ 2000 ∧ ∀ p ∈ L, p.2.length ≤ 1048576
theorem OKE.all : ∀ es : List AV, (∀ e ∈ es, OKE e) → ∃ L : List (Bool × List Tok), es.length = L.length ∧ (∀ (j : Nat) a b, es[j]? = some a → (L.map toksP)[j]? = some b → Wk a b) ∧ ∀ p ∈ L, p.2.length ≤ 1048576
  | [], _ => ⟨[], rfl, fun j a b h => by simp at h, fun p hp => by cases hp⟩
  | e :: es, h => by
    obtain ⟨L, h1, h2, h3⟩ := OKE.all es fun e he => h e (List.mem_cons_of_mem _ he)
    obtain ⟨p, hp1, hp2⟩ : ∃ p : Bool × List Tok, Wk e (toksP p) ∧ p.2.length ≤ 1048576 := by
      rcases h e List.mem_cons_self with rfl | ⟨fr, l, rfl, hl⟩
      · exact ⟨(true, []), Wk.nil, by simp⟩
      · exact ⟨(fr, l), Wk.refl _, hl⟩
    refine ⟨p :: L, by simp [h1], fun j a b ha hb => ?_, fun q hq => ?_⟩
    · cases j with
      | zero => simp at ha hb; subst ha; subst hb; exact hp1
      | succ j => exact h2 j a b (by simpa using ha) (by simpa using hb)
    · rcases List.mem_cons.1 hq with rfl | hq
      · exact hp2
      · exact h3 q hq
theorem law9_rowsL (fr : Bool) (S : List ByteArray) (T : List (List Tok)) (N V : List Val) (ok : Light8 S T) : CallsA Try.prog 6 [ask9A fr S T N V] [] RowsL :=
  (law9_rows fr S T N V ok).post fun Γ r h' ⟨es, hx, hh, hl, ho⟩ => by
    obtain ⟨L, h1, h2, h3⟩ := OKE.all es ho
    refine ⟨_, [], ⟨L, rfl, rfl, by omega, h3⟩, ?_⟩
    subst hx; subst hh
    exact Fz.wk (fun e he => (ho e he).cells.1) (fun e he => by obtain ⟨p, _, rfl⟩ := List.mem_map.1 he; rfl) (by simpa using h1) h2

theorem of_ne_nil {names : List Val} (hn : OKN names) : (ofF names []).2 ≠ 0 := fun h => by
  obtain ⟨_, _, h3, _⟩ := of_ok h (by simp) hn
  have h4 : factorF [] names 8 0 = ((v0, 3), 0) := by simp [factorF, factorS, sgn]
  have h5 : termF [] (factorF [] names 8) 0 = ((v0, 3), 0) := by simp [termF, rowP, rowS, h4]
  have : topF [] names 0 = ((v0, 3), 0) := by simp [topF, sumF, rowP, rowS, h5]
  rw [this] at h3
  have := congrArg (fun r => r.1.2) h3
  cases this
theorem law9_signsF : Tells 7 [] (toksA true signsL) := OwnR.frz true law9_signs
end Go.Ab
