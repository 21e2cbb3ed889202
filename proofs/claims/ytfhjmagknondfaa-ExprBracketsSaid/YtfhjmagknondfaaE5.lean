/- expr's parser: factor. -/
import Derived.Test.YtfhjmagknondfaaE4
set_option linter.unusedVariables false
set_option linter.unusedSimpArgs false
set_option maxRecDepth 100000
namespace Go.Ab
open Go.Proofs

def openS : ByteArray := { data := #[40] }
def closeS : ByteArray := { data := #[41] }
def factorS (l : List Tok) (names : List Val) (inF inS : Nat → Res2) (i : Nat) : Res2 :=
  if sgn l i minusS = true then (if (inF (i + 1)).1.2 = 0 then (lessF v0 (inF (i + 1)).1.1, (inF (i + 1)).2) else ((v0, (inF (i + 1)).1.2), (inF (i + 1)).2))
  else if sgn l i openS = true then
    (if (inS (i + 1)).1.2 = 0 then (if sgn l (inS (i + 1)).2 closeS = true then (((inS (i + 1)).1.1, 0), (inS (i + 1)).2 + 1) else ((v0, 3), (inS (i + 1)).2)) else ((v0, (inS (i + 1)).1.2), (inS (i + 1)).2))
  else match l[i]? with
    | none => ((v0, 3), i)
    | some t => if t.kind = 2 then ((⟨emptyS, t.n⟩, 0), i + 1) else if t.kind = 1 then (nameF names t.text, i + 1) else ((v0, 3), i + 1)

theorem innerF_ok {len : Nat} {d : Int} {F : Nat → Res2} (hF : d ≠ 8 → FOK len F) : FOK len (innerF d F) := fun i hi => by
  unfold innerF
  by_cases h : d = 8
  · simp only [h, if_true]
    exact ⟨Nat.le_refl _, hi, fun h => by cases h⟩
  · simp only [h, if_false]
    exact hF h i hi

/-- The words and the names may be. -/
structure PS.OK (p : PS) : Prop where
  len : p.l.length ≤ 4611686018427387904
  nlen : p.names.length ≤ 4611686018427387904
  toks : ∀ t ∈ p.l, tokB t = true
  vals : ∀ v ∈ p.names, withinB v.n = true

theorem name2_size {s : ByteArray} (h : name2B s = true) : s.size ≤ 12 := by
  simp [name2B] at h
  exact h.2.1

theorem nameF_ok {names : List Val} {s : ByteArray} (hv : ∀ v ∈ names, withinB v.n = true) (h : (nameF names s).2 = 0) : OkV (nameF names s).1 := by
  unfold nameF at h ⊢
  split
  · rename_i hn
    split
    · exact ⟨name2_size hn, by simp, by simp⟩
    · have key : -2147483648 ≤ (names.getD (idxF (symIs s) names 0).toNat v0).n ∧ (names.getD (idxF (symIs s) names 0).toNat v0).n ≤ 2147483648 := by
        cases hg : names[(idxF (symIs s) names 0).toNat]? with
        | none => simp [List.getD_eq_getElem?_getD, hg, v0]
        | some v =>
          have := hv v (List.mem_of_getElem? hg)
          simp [withinB] at this
          simp [List.getD_eq_getElem?_getD, hg]
          omega
      exact ⟨show emptyS.size ≤ 12 by decide, key.1, key.2⟩
  · exact OkV_v0

theorem factorS_ok (p : PS) (hp : p.OK) {inF inS : Nat → Res2} (hf : FOK p.l.length inF) (hs : FOK p.l.length inS) : FOK p.l.length (factorS p.l p.names inF inS) := fun i hi => by
  unfold factorS
  by_cases h1 : sgn p.l i minusS = true
  · rw [if_pos h1]
    have hlt := sgn_lt h1
    obtain ⟨a, b, c⟩ := hf (i + 1) (by omega)
    by_cases h2 : (inF (i + 1)).1.2 = 0
    · rw [if_pos h2]
      exact ⟨by simp only []; omega, b, less_ok OkV_v0 (c h2)⟩
    · rw [if_neg h2]
      exact ⟨by simp only []; omega, b, fun h => absurd h h2⟩
  · rw [if_neg h1]
    by_cases h3 : sgn p.l i openS = true
    · rw [if_pos h3]
      have hlt := sgn_lt h3
      obtain ⟨a, b, c⟩ := hs (i + 1) (by omega)
      by_cases h2 : (inS (i + 1)).1.2 = 0
      · rw [if_pos h2]
        by_cases h4 : sgn p.l (inS (i + 1)).2 closeS = true
        · rw [if_pos h4]
          have := sgn_lt h4
          exact ⟨by simp only []; omega, by simp only []; omega, fun _ => c h2⟩
        · rw [if_neg h4]
          exact ⟨by simp only []; omega, b, fun h => by cases h⟩
      · rw [if_neg h2]
        exact ⟨by simp only []; omega, b, fun h => absurd h h2⟩
    · rw [if_neg h3]
      cases ht : p.l[i]? with
      | none => exact ⟨Nat.le_refl _, hi, fun h => by cases h⟩
      | some t =>
        have hlt := (List.getElem?_eq_some_iff.1 ht).1
        have hmem := hp.toks t (List.mem_of_getElem? ht)
        simp only
        by_cases k2 : t.kind = 2
        · rw [if_pos k2]
          refine ⟨by simp only []; omega, by simp only []; omega, fun _ => ⟨show emptyS.size ≤ 12 by decide, ?_, ?_⟩⟩ <;> simp [tokB, k2] at hmem <;> simp only [] <;> omega
        · rw [if_neg k2]
          by_cases k1 : t.kind = 1
          · rw [if_pos k1]
            exact ⟨by simp only []; omega, by simp only []; omega, nameF_ok hp.vals⟩
          · rw [if_neg k1]
            exact ⟨by simp only []; omega, by simp only []; omega, fun h => by cases h⟩

theorem parser_factor (p : PS) (hp : p.OK) (d : Int) (h0 : 0 ≤ d) (h8 : d ≤ 8) (Ff Fs : Nat → Res2) (hf : d ≠ 8 → PF p (d + 1) 86 Ff) (hs : d ≠ 8 → PF p (d + 1) 43 Fs) :
    PF p d 86 (factorS p.l p.names (innerF d Ff) (innerF d Fs)) := by
  intro i hi
  have okf : FOK p.l.length (innerF d Ff) := innerF_ok fun h => (hf h).ok
  have oks : FOK p.l.length (innerF d Fs) := innerF_ok fun h => (hs h).ok
  refine ⟨?_, factorS_ok p hp okf oks i hi⟩
  refine CallsA.body Try.func86 rfl (by decide) fun Γ => Run.of_ex 1000 ?_
  simp [Try.f86, PS.ptr, PS.it]
  intro b2 n1 n2
  simp [exW, n1, n2]
  refine (parser_sign p i d _ hi hp.len).call 1 (by simp [PS.it]) ?_
  cases h1 : sgn p.l i minusS
  · have h1' : sgn p.l i { data := #[45] } = false := h1
    simp [h1', n1, n2, PS.it]
    refine (parser_sign p i d _ hi hp.len).call 0 (by simp [PS.it]) ?_
    cases h3 : sgn p.l i openS
    · have h3' : sgn p.l i { data := #[40] } = false := h3
      simp [h3', n1, n2, PS.it]
      refine Run.draws 1000 mixed [] (.calm 0 [] (.calm 1 [] (.calm 2 [] (.calm 3 [] (.calm 4 [] (.calm 5 [] (.calm 6 [] (.calm 7 [] (.calm 8 [] (.calm 9 [] (.calm 10 [] .done))))))))))) (by kernel_rfl) ?_
      have hfs : factorS p.l p.names (innerF d Ff) (innerF d Fs) i = match p.l[i]? with
          | none => ((v0, 3), i)
          | some t => if t.kind = 2 then ((⟨emptyS, t.n⟩, 0), i + 1) else if t.kind = 1 then (nameF p.names t.text, i + 1) else ((v0, 3), i + 1) := by
        simp [factorS, h1, h3]
      by_cases he : i = p.l.length
      · have h5 : p.l[i]? = none := by rw [he]; simp
        rw [h5] at hfs
        have he' : (i : Int) = (p.l.length : Int) := by omega
        simp [n1, n2, toksA, valsA, he']
        simp only [he] at hfs
        simp [n1, n2, hfs, v0, emptyS, resV, valA, toksA, valsA, he]
      · have hlt : i < p.l.length := by omega
        have h5 : p.l[i]? = some p.l[i] := List.getElem?_eq_getElem hlt
        rw [h5] at hfs
        simp only at hfs
        have he' : ¬ (i : Int) = (p.l.length : Int) := by omega
        have hlt' : (i : Int) < (p.l.length : Int) := by omega
        have hw : IntKind.i64.wrap ((i : Int) + 1) = ((i + 1 : Nat) : Int) := wrap_i64 (by have := hp.len; omega) (by have := hp.len; omega)
        have hmem := hp.toks p.l[i] (List.getElem_mem hlt)
        simp [n1, n2, toksA, valsA, he', he]
        refine Run.draws 1000 mixed [] (.calm 0 [] (.calm 1 [] (.calm 2 [] (.calm 3 [] (.calm 4 [] (.calm 5 [] (.calm 6 [] (.calm 7 [] (.calm 8 [] (.calm 9 [] (.fork (.alt 10 (.fork (.alt 11 .done .stop)) .stop)))))))))))) (by kernel_rfl) ?_
        simp [n1, n2, toksA, valsA, tokA, hlt, hlt']
        intro b8 m1 m2 m3 m4
        simp [exW, n1, n2, m1, m2, m3, m4, toksA, valsA, tokA, hlt, hlt', hw]
        by_cases k2 : p.l[i].kind = 2
        · rw [if_pos k2] at hfs
          simp [k2, n1, n2, m1, m2, m3, m4]
          simp [hfs, n1, n2, m1, m2, m3, m4, resV, valA, emptyS]
        · rw [if_neg k2] at hfs
          by_cases k1 : p.l[i].kind = 1
          · rw [if_pos k1] at hfs
            have hsz : p.l[i].text.size ≤ 4611686018427387904 := by
              simp [tokB, k1] at hmem
              omega
            simp [k1, n1, n2, m1, m2, m3, m4]
            refine (parser_name p (i + 1) d p.l[i].text hsz hp.nlen).call 1 (by simp [PS.it, toksA, valsA]) ?_
            simp [n1, n2, m1, m2, m3, m4, resV, valA, PS.it]
            simp [hfs, n1, n2, m1, m2, m3, m4, resV, valA, toksA, valsA]
          · rw [if_neg k1] at hfs
            simp [k1, k2, n1, n2, m1, m2, m3, m4]
            simp [hfs, n1, n2, m1, m2, m3, m4, resV, valA, v0, emptyS]
    · have h3' : sgn p.l i { data := #[40] } = true := h3
      have hlt := sgn_lt h3
      simp [h3', n1, n2, PS.it]
      refine (parser_inner p d h0 h8 43 Fs hs (i + 1) (by omega)).call 0 (by simp [PS.it]) ?_
      simp [resV, valA, PS.it]
      intro b4 n3 n4 n5 n6
      simp [exW, n1, n2, n3, n4, n5, n6]
      by_cases h2 : (innerF d Fs (i + 1)).1.2 = 0
      · simp [h2, n1, n2, n3, n4, n5, n6]
        refine (parser_sign p _ d _ (oks (i + 1) (by omega)).2.1 hp.len).call 1 (by simp [PS.it]) ?_
        cases h6 : sgn p.l (innerF d Fs (i + 1)).2 closeS
        · have h6' : sgn p.l (innerF d Fs (i + 1)).2 { data := #[41] } = false := h6
          simp [h6', n1, n2, n3, n4, n5, n6, PS.it]
          simp [factorS, h1, h2, h3, h6, v0, emptyS, n1, n2, n3, n4, n5, n6]
        · have h6' : sgn p.l (innerF d Fs (i + 1)).2 { data := #[41] } = true := h6
          simp [h6', n1, n2, n3, n4, n5, n6, PS.it]
          simp [factorS, h1, h2, h3, h6, n1, n2, n3, n4, n5, n6]
      · simp [h2, n1, n2, n3, n4, n5, n6]
        simp [factorS, h1, h2, h3, v0, emptyS]
  · have h1' : sgn p.l i { data := #[45] } = true := h1
    have hlt := sgn_lt h1
    simp [h1', n1, n2, PS.it]
    refine (parser_inner p d h0 h8 86 Ff hf (i + 1) (by omega)).call 0 (by simp [PS.it]) ?_
    simp [resV, valA, PS.it]
    intro b4 n3 n4 n5 n6
    simp [exW, n1, n2, n3, n4, n5, n6]
    by_cases h2 : (innerF d Ff (i + 1)).1.2 = 0
    · simp [h2, n1, n2, n3, n4, n5, n6]
      refine (expr_less v0 _ OkV_v0 ((okf (i + 1) (by omega)).2.2 h2)).call ?_
      simp [resV, valA, n1, n2, n3, n4, n5, n6]
      simp [factorS, h1, h2]
    · simp [h2, n1, n2, n3, n4, n5, n6]
      simp [factorS, h1, h2, v0, emptyS]
end Go.Ab

set_option linter.unusedVariables false
set_option linter.unusedSimpArgs false
set_option maxRecDepth 100000
namespace Go.Ab
open Go.Proofs

def tooDeep (i : Nat) : Res2 := ((v0, 2), i)
/-- r: how much deeper it may go. -/
def factorF (l : List Tok) (names : List Val) : Nat → Nat → Res2
  | 0 => factorS l names tooDeep tooDeep
  | r + 1 => factorS l names (factorF l names r) (sumF l (factorF l names r))

theorem parser_all (p : PS) (hp : p.OK) : ∀ r : Nat, r ≤ 8 → PF p (8 - r) 86 (factorF p.l p.names r) ∧ PF p (8 - r) 43 (sumF p.l (factorF p.l p.names r))
  | 0, _ => by
    have h1 := parser_factor p hp 8 (by decide) (by decide) tooDeep tooDeep (fun h => absurd rfl h) (fun h => absurd rfl h)
    have h2 : innerF 8 tooDeep = tooDeep := by funext i; simp [innerF, tooDeep]
    rw [h2] at h1
    have h3 : PF p 8 86 (factorF p.l p.names 0) := h1
    have h4 : (8 : Int) - ((0 : Nat) : Int) = 8 := by decide
    rw [h4]
    exact ⟨h3, parser_sum p 8 hp.len _ (parser_term p 8 hp.len _ h3)⟩
  | r + 1, hr => by
    obtain ⟨hf, hs⟩ := parser_all p hp r (by omega)
    have hd : (8 : Int) - ((r : Nat) : Int) = (8 - ((r + 1 : Nat) : Int)) + 1 := by omega
    rw [hd] at hf hs
    have h8 : (8 : Int) - ((r + 1 : Nat) : Int) ≠ 8 := by omega
    have h1 := parser_factor p hp (8 - ((r + 1 : Nat) : Int)) (by omega) (by omega) _ _ (fun _ => hf) (fun _ => hs)
    have h2 : ∀ F, innerF (8 - ((r + 1 : Nat) : Int)) F = F := fun F => by funext i; simp only [innerF, if_neg h8]
    rw [h2, h2] at h1
    have h3 : PF p (8 - ((r + 1 : Nat) : Int)) 86 (factorF p.l p.names (r + 1)) := h1
    exact ⟨h3, parser_sum p _ hp.len _ (parser_term p _ hp.len _ h3)⟩

/-- What words are, from depth 0 on. -/
def topF (l : List Tok) (names : List Val) : Nat → Res2 := sumF l (factorF l names 8)
theorem parser_top (p : PS) (hp : p.OK) : PF p 0 43 (topF p.l p.names) := by
  have := (parser_all p hp 8 (Nat.le_refl _)).2
  have h4 : (8 : Int) - ((8 : Nat) : Int) = 0 := by decide
  rw [h4] at this
  exact this
end Go.Ab

set_option linter.unusedVariables false
set_option linter.unusedSimpArgs false
set_option maxRecDepth 100000
namespace Go.Ab
open Go.Proofs

theorem ref_value (s : ByteArray) (base : Int) (hs : s.size ≤ 4611686018427387904) :
    CallsA Try.prog 55 [.c (.string s), .c (.int .i64 base)] [] fun x h => (∃ n b, x = .tup [.c (.int .i64 n), .c (.bool b)]) ∧ h = [] := by
  refine CallsA.body Try.func55 rfl (by decide) fun Γ => Run.of_ex 1000 ?_
  simp [Try.f55]
  refine Run.head (fun x : Nat × Int => ⟨[.c (.string s), .c (.int .i64 base), .bad, .bad, .c (.int .i64 0), .c (.bool false), .c (.int .i64 x.2), .c (.int .i64 x.1)] ++ List.replicate 31 .bad, []⟩) (fun x => s.size - x.1)
    (fun x => x.1 ≤ s.size) ?_ (0, 0) _ _ ?_ ?_ (List.Sublist.refl _)
  · rintro ⟨i, n⟩ hi ih
    simp only at hi ih
    refine Run.of_ex 1000 ?_
    simp [List.replicate]
    by_cases hlt : i < s.size
    · have h1 : (i : Int) < (s.size : Int) := by omega
      have h2 : IntKind.i64.wrap ((i : Int) + 1) = ((i + 1 : Nat) : Int) := wrap_i64 (by omega) (by omega)
      simp [hlt, h1]
      refine (ref_digit _).call ?_
      cases hb : digitB (byteAt s i)
      · simp [hlt, h1]
        by_cases hc : 2147483648 ≤ IntKind.i64.wrap (IntKind.i64.wrap (n * base) + IntKind.i64.wrap (IntKind.i64.wrap (IntKind.u8.wrap (byteAt s i - 97)) + 10))
        · simp [hc]
        · simp [hc, h2]
          refine ih (i + 1, IntKind.i64.wrap (IntKind.i64.wrap (n * base) + IntKind.i64.wrap (IntKind.i64.wrap (IntKind.u8.wrap (byteAt s i - 97)) + 10))) _ _ (by simp only []; omega) (show s.size - (i + 1) < s.size - i by omega) ?_ (List.Sublist.refl _)
          simp [List.replicate]
      · simp
        by_cases hc : 2147483648 ≤ IntKind.i64.wrap (IntKind.i64.wrap (n * base) + IntKind.i64.wrap (IntKind.u8.wrap (byteAt s i - 48)))
        · simp [hc]
        · simp [hc, h2]
          refine ih (i + 1, IntKind.i64.wrap (IntKind.i64.wrap (n * base) + IntKind.i64.wrap (IntKind.u8.wrap (byteAt s i - 48)))) _ _ (by simp only []; omega) (show s.size - (i + 1) < s.size - i by omega) ?_ (List.Sublist.refl _)
          simp [List.replicate]
    · have h1 : ¬ (i : Int) < (s.size : Int) := by omega
      simp [hlt, h1]
  · simp
  · simp [List.replicate]
end Go.Ab
