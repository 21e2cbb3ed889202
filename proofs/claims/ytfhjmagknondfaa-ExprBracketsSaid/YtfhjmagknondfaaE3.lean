/- expr: sums of two values; names. -/
import Derived.Test.YtfhjmagknondfaaE2
set_option linter.unusedVariables false
set_option linter.unusedSimpArgs false
set_option maxRecDepth 100000
namespace Go.Ab
open Go.Proofs

def addF (a b : Val) : Val × Int := if a.sym ≠ emptyS ∧ b.sym ≠ emptyS then (v0, 6) else rangedF ⟨a.sym ++ b.sym, a.n + b.n⟩
def lessF (a b : Val) : Val × Int := if b.sym ≠ emptyS then (v0, 6) else rangedF ⟨a.sym, a.n - b.n⟩
def timesF (a b : Val) : Val × Int := if a.sym ≠ emptyS ∨ b.sym ≠ emptyS then (v0, 6) else rangedF ⟨emptyS, a.n * b.n⟩

/-- A value within its bounds. -/
structure OkV (v : Val) : Prop where
  size : v.sym.size ≤ 12
  lo : -2147483648 ≤ v.n
  hi : v.n ≤ 2147483648

theorem expr_add (a b : Val) (ha : OkV a) (hb : OkV b) : Tells 65 [valA a, valA b] (resV (addF a b)) := by
  refine CallsA.body Try.func65 rfl (by decide) fun Γ => Run.of_ex 1000 ?_
  have h1 := ha.1; have h2 := ha.2; have h3 := ha.3; have h4 := hb.1; have h5 := hb.2; have h6 := hb.3
  have hsz : a.sym.size + b.sym.size ≤ 9223372036854775807 := by omega
  have hw : IntKind.i64.wrap (a.n + b.n) = a.n + b.n := wrap_i64 (by omega) (by omega)
  simp [Try.f65, valA]
  intro b1
  simp [exW]
  intro b2 n1 n2
  try simp [exW, n1, n2]
  intro b3 n3 n4 n5 n6
  simp [exW, n1, n2, n3, n4, n5, n6]
  by_cases e1 : a.sym = emptyS
  · have e1' : a.sym = { data := #[] } := e1
    simp [n1, n2, n3, n4, n5, n6, e1', hw]
    rw [← e1', and_iff_right (by omega)]
    refine (expr_ranged ⟨a.sym ++ b.sym, a.n + b.n⟩).call ?_
    simp [n1, n2, n3, n4, n5, n6, addF, e1, resV, valA]
  · have e1' : ¬ a.sym = { data := #[] } := e1
    by_cases e2 : b.sym = emptyS
    · have e2' : b.sym = { data := #[] } := e2
      simp [n1, n2, n3, n4, n5, n6, e1', e2', hw]
      rw [← e2', and_iff_right (by omega)]
      refine (expr_ranged ⟨a.sym ++ b.sym, a.n + b.n⟩).call ?_
      simp [n1, n2, n3, n4, n5, n6, addF, e1, e2, resV, valA]
    · have e2' : ¬ b.sym = { data := #[] } := e2
      simp [n1, n2, n3, n4, n5, n6, e1', e2']
      simp [n1, n2, n3, n4, n5, n6, addF, e1, e2, e1', e2', resV, valA, v0, emptyS]

theorem expr_less (a b : Val) (ha : OkV a) (hb : OkV b) : Tells 66 [valA a, valA b] (resV (lessF a b)) := by
  refine CallsA.body Try.func66 rfl (by decide) fun Γ => Run.of_ex 1000 ?_
  have h1 := ha.1; have h2 := ha.2; have h3 := ha.3; have h4 := hb.1; have h5 := hb.2; have h6 := hb.3
  have hw : IntKind.i64.wrap (a.n - b.n) = a.n - b.n := wrap_i64 (by omega) (by omega)
  simp [Try.f66, valA]
  intro b1
  simp [exW]
  intro b2 n1 n2
  try simp [exW, n1, n2]
  intro b3 n3 n4 n5 n6
  simp [exW, n1, n2, n3, n4, n5, n6]
  by_cases e2 : b.sym = emptyS
  · have e2' : b.sym = { data := #[] } := e2
    simp [n1, n2, n3, n4, n5, n6, e2', hw]
    refine (expr_ranged ⟨a.sym, a.n - b.n⟩).call ?_
    simp [n1, n2, n3, n4, n5, n6, lessF, e2, resV, valA]
  · have e2' : ¬ b.sym = { data := #[] } := e2
    simp [n1, n2, n3, n4, n5, n6, e2']
    simp [n1, n2, n3, n4, n5, n6, lessF, e2, e2', resV, valA, v0, emptyS]

theorem expr_times (a b : Val) (ha : OkV a) (hb : OkV b) : Tells 88 [valA a, valA b] (resV (timesF a b)) := by
  refine CallsA.body Try.func88 rfl (by decide) fun Γ => Run.of_ex 1000 ?_
  have h2 := ha.2; have h3 := ha.3; have h5 := hb.2; have h6 := hb.3
  have hm : -4611686018427387904 ≤ a.n * b.n ∧ a.n * b.n ≤ 4611686018427387904 := by
    have := Int.natAbs_mul a.n b.n
    have h7 : a.n.natAbs ≤ 2147483648 := by omega
    have h8 : b.n.natAbs ≤ 2147483648 := by omega
    have h9 : a.n.natAbs * b.n.natAbs ≤ 2147483648 * 2147483648 := Nat.mul_le_mul h7 h8
    omega
  have hw : IntKind.i64.wrap (a.n * b.n) = a.n * b.n := wrap_i64 (by omega) (by omega)
  simp [Try.f88, valA]
  intro b1
  simp [exW]
  intro b2 n1 n2
  try simp [exW, n1, n2]
  intro b3 n3 n4 n5 n6
  simp [exW, n1, n2, n3, n4, n5, n6]
  by_cases e1 : a.sym = emptyS
  · have e1' : a.sym = { data := #[] } := e1
    by_cases e2 : b.sym = emptyS
    · have e2' : b.sym = { data := #[] } := e2
      simp [n1, n2, n3, n4, n5, n6, e1', e2', hw]
      refine (expr_ranged ⟨emptyS, a.n * b.n⟩).call ?_
      simp [n1, n2, n3, n4, n5, n6, timesF, e1, e2, resV, valA]
    · have e2' : ¬ b.sym = { data := #[] } := e2
      simp [n1, n2, n3, n4, n5, n6, e1', e2']
      simp [n1, n2, n3, n4, n5, n6, timesF, e1, e2, e1', e2', resV, valA, v0, emptyS]
  · have e1' : ¬ a.sym = { data := #[] } := e1
    simp [n1, n2, n3, n4, n5, n6, e1']
    simp [n1, n2, n3, n4, n5, n6, timesF, e1, e1', resV, valA, v0, emptyS]

def mayB (v : Val) : Bool := withinB v.n && (decide (v.sym = emptyS) || name2B v.sym)
theorem expr_May (v : Val) (hs : v.sym.size ≤ 4611686018427387904) : Tells 56 [valA v] (.c (.bool (mayB v))) := by
  refine CallsA.body Try.func56 rfl (by decide) fun Γ => Run.of_ex 1000 ?_
  simp [Try.f56, valA]
  intro b
  simp [exW]
  refine (expr_within v.n).call ?_
  cases h : withinB v.n
  · simp
    simp [mayB, h]
  · by_cases e : v.sym = emptyS
    · have e' : v.sym = { data := #[] } := e
      simp [e']
      simp [mayB, h, e]
    · have e' : ¬ v.sym = { data := #[] } := e
      simp [e']
      refine (isa_Name2 v.sym hs).call ?_
      simp [mayB, h, e]

/-- The one captures v. -/
theorem expr_Names1 (b : Nat) (v : Val) : Pred valA 58 #[.pointer (some ⟨b, 0, none⟩)] [.obj b 34 [.c (.string v.sym), .c (.int .i64 v.n)]] (fun x => decide (x.sym = v.sym)) := by
  intro x
  refine CallsA.body Try.func58 rfl (by decide) fun Γ => Run.of_ex 1000 ?_
  simp [Try.f58, valA]
  intro b1 n1 n2
  try simp [exW, n1, n2]

theorem expr_name1 (b : Nat) (s : ByteArray) : Pred valA 102 #[.pointer (some ⟨b, 0, none⟩)] [.obj b 9 [.c (.string s)]] (fun x => decide (x.sym = s)) := by
  intro x
  refine CallsA.body Try.func102 rfl (by decide) fun Γ => Run.of_ex 1000 ?_
  simp [Try.f102, valA]
  intro b1 n1 n2
  try simp [exW, n1, n2]
end Go.Ab

set_option linter.unusedVariables false
set_option linter.unusedSimpArgs false
set_option maxRecDepth 100000
namespace Go.Ab
open Go.Proofs

def badN (l : List Val) (i : Nat) (v : Val) : Bool := decide (v.sym = emptyS) || (!mayB v || (l.take i).any (fun x => decide (x.sym = v.sym)))
def namesGo (l : List Val) : Nat → Nat → Bool
  | 0, _ => true
  | n + 1, i => match l[i]? with
    | some v => !badN l i v && namesGo l n (i + 1)
    | none => true
def namesB (l : List Val) : Bool := namesGo l l.length 0 && decide (l.length ≤ 60)

theorem expr_Names (fr : Bool) (l : List Val) (hl : l.length ≤ 4611686018427387904) (hs : ∀ v ∈ l, v.sym.size ≤ 4611686018427387904) : Tells 41 [valsA fr l] (.c (.bool (namesB l))) := by
  refine CallsA.body Try.func41 rfl (by decide) fun Γ => Run.of_ex 1000 ?_
  simp [Try.f41, valsA]
  refine Run.head (fun i : Nat => ⟨[.sl fr 2 (l.map valA)] ++ List.replicate 4 .bad ++ [.sl fr 2 (l.map valA), .c (.int .i64 l.length), .c (.int .i64 i)] ++ List.replicate 23 .bad, []⟩) (fun i => l.length - i)
    (fun i => i ≤ l.length ∧ namesGo l (l.length - i) i = namesGo l l.length 0) ?_ 0 _ _ ?_ ?_ (List.Sublist.refl _)
  · intro i ⟨hi, hI⟩ ih
    refine Run.of_ex 1000 ?_
    simp [List.replicate]
    by_cases hlt : i < l.length
    · have h4 : (i : Int) < (l.length : Int) := by omega
      have h4' : (i : Int) ≤ (l.length : Int) := by omega
      have h5 : IntKind.i64.wrap ((i : Int) + 1) = ((i + 1 : Nat) : Int) := wrap_i64 (by omega) (by omega)
      have h6 : l.length - i = (l.length - (i + 1)) + 1 := by omega
      have hmem : l[i] ∈ l := List.getElem_mem hlt
      rw [h6] at hI
      simp only [namesGo, List.getElem?_eq_getElem hlt] at hI
      simp [hlt, h4, valA]
      intro b
      simp [exW]
      by_cases e1 : l[i].sym = emptyS
      · have e1' : l[i].sym = { data := #[] } := e1
        simp [e1']
        simp [badN, e1] at hI
        simp [namesB, hI]
      · have e1' : ¬ l[i].sym = { data := #[] } := e1
        simp [e1']
        refine (expr_May l[i] (hs _ hmem)).call ?_
        cases h7 : mayB l[i]
        · simp
          simp [badN, h7] at hI
          simp [namesB, hI]
        · simp [h4']
          rw [← List.map_take]
          refine CallV.own [.obj b 34 [.c (.string l[i].sym), .c (.int .i64 l[i].n)]] [] (by simp) (by simp) (ContainsFunc_vals fr (l.take i) (by simp; omega) (expr_Names1 b l[i])) ?_
          rintro r h' ⟨rfl, rfl⟩ _
          cases h8 : (l.take i).any (fun x => decide (x.sym = l[i].sym))
          · simp only [badN, h7, h8, e1] at hI
            simp at hI
            try simp only [h8]
            simp [h5, h8]
            exact ih (i + 1) _ _ ⟨by omega, hI⟩ (show l.length - (i + 1) < l.length - i by omega) (by simp [List.replicate]) (by simp)
          · simp only [badN, h8] at hI
            simp at hI
            try simp only [h8]
            simp [namesB, hI, h8]
    · have h4 : ¬ (i : Int) < (l.length : Int) := by omega
      have h6 : l.length - i = 0 := by omega
      rw [h6] at hI
      simp [namesGo] at hI
      simp [hlt, h4]
      by_cases h8 : l.length ≤ 60
      · have h8' : (l.length : Int) ≤ 60 := by omega
        simp only [namesB, hI, Bool.true_and]
        simp
        try omega
      · have h8' : ¬ (l.length : Int) ≤ 60 := by omega
        simp only [namesB, hI, Bool.true_and]
        simp
        try omega
  · simp
  · simp [List.replicate]
end Go.Ab

set_option linter.unusedVariables false
set_option linter.unusedSimpArgs false
set_option maxRecDepth 100000
namespace Go.Ab
open Go.Proofs

/-- A function that keeps one block. -/
def Keeps (f : FuncId) (xs : List AV) (it : It) (r : AV) (it' : It) : Prop := CallsA Try.prog f xs [it] fun x h => x = r ∧ h = [it']

theorem Keeps.call {Γ : Ctx} {f : FuncId} {xs : List AV} {it it' : It} {r : AV} (hc : Keeps f xs it r it') (i : Nat) {n : Nat} {ops : Array Oper} {cb : DM} {os : OT} {dst : Option Tmp} {k : List KI} {Q : St → Prop} {s : List AV} {h : List It}
    (hi' : h = h.take i ++ it :: h.drop (i + 1) ∧ eC cb [it.blk]) (H : ex Try.prog Γ n ops cb os k Q (putA s dst r) (it' :: (h.take i ++ h.drop (i + 1)))) : CallV Try.prog Γ n ops cb dst os k Q s h f xs := by
  obtain ⟨hi, he⟩ := hi'
  refine CallV.own [it] (h.take i ++ h.drop (i + 1)) ?_ he hc ?_
  · have : (h.take i ++ it :: h.drop (i + 1)).Perm h := by rw [← hi]
    show (it :: (h.take i ++ h.drop (i + 1))).Perm h
    exact List.Perm.trans (List.perm_middle (l₁ := h.take i) (a := it) (l₂ := h.drop (i + 1))).symm this
  · rintro r' h' ⟨rfl, rfl⟩ _
    exact H

/-- The parser. -/
structure PS where
  b : Nat
  f1 : Bool
  f2 : Bool
  names : List Val
  l : List Tok
def PS.it (p : PS) (at_ : Nat) (deep : Int) : It := .obj p.b 92 [valsA p.f1 p.names, toksA p.f2 p.l, .c (.int .i64 at_), .c (.int .i64 deep)]
def PS.ptr (p : PS) : AV := .c (.pointer (some ⟨p.b, 0, none⟩))
def sgn (l : List Tok) (i : Nat) (s : ByteArray) : Bool := match l[i]? with
  | some t => decide (t.kind = 3) && decide (t.text = s)
  | none => false

theorem parser_sign (p : PS) (i : Nat) (d : Int) (s : ByteArray) (hi : i ≤ p.l.length) (hl : p.l.length ≤ 4611686018427387904) :
    Keeps 64 [p.ptr, .c (.string s)] (p.it i d) (.c (.bool (sgn p.l i s))) (p.it (if sgn p.l i s = true then i + 1 else i) d) := by
  refine CallsA.body Try.func64 rfl (by decide) fun Γ => Run.of_ex 1000 ?_
  simp [Try.f64, PS.ptr, PS.it]
  refine Run.draws 1000 mixed [] (.calm 0 [] (.calm 1 [] (.calm 2 [] (.calm 3 [] (.calm 4 [] (.calm 5 [] (.calm 6 [] (.calm 7 [] (.calm 8 [] (.calm 9 [] (.calm 10 [] (.calm 11 [] (.calm 12 [] (.calm 13 [] (.calm 14 [] (.calm 15 [] (.calm 16 [] (.calm 17 [] (.calm 18 [] (.calm 19 [] (.calm 20 [] (.calm 21 [] (.calm 22 [] (.calm 23 [] (.calm 24 [] (.calm 25 [] (.calm 26 [] (.calm 27 [] (.calm 28 [] (.calm 29 [] (.calm 30 [] (.calm 31 [] (.calm 32 [] (.calm 33 [] (.calm 34 [] (.calm 35 [] (.calm 36 [] (.calm 37 [] (.calm 38 [] .done))))))))))))))))))))))))))))))))))))))) (by kernel_rfl) ?_
  by_cases hlt : i = p.l.length
  · have h0 : p.l[i]? = none := by rw [hlt]; simp
    have h1 : (i : Int) = (p.l.length : Int) := by omega
    simp [valsA, toksA, h1]
    simp [sgn, h0, hlt]
  · have hlt' : i < p.l.length := by omega
    have ht : p.l[i]? = some p.l[i] := List.getElem?_eq_getElem hlt'
    have h1 : ¬ ((i : Int) = (p.l.length : Int)) := by omega
    have h2 : (i : Int) < (p.l.length : Int) := by omega
    have hw : IntKind.i64.wrap ((i : Int) + 1) = ((i + 1 : Nat) : Int) := wrap_i64 (by omega) (by omega)
    by_cases k1 : p.l[i].kind = 3
    · by_cases k2 : p.l[i].text = s
      · have hs : sgn p.l i s = true := by simp [sgn, ht, k1, k2]
        simp [valsA, toksA, tokA, h1, h2, hlt, hlt', k1, k2, hs, hw]
      · have hs : sgn p.l i s = false := by simp [sgn, ht, k1, k2]
        simp [valsA, toksA, tokA, h1, h2, hlt, hlt', k1, k2, hs]
    · have hs : sgn p.l i s = false := by simp [sgn, ht, k1]
      simp [valsA, toksA, tokA, h1, h2, hlt, hlt', k1, hs]

/-! ### What reads a value -/
/-- f, asked for at depth d, yields F. -/
def PF (p : PS) (d : Int) (f : FuncId) (F : Nat → (Val × Int) × Nat) : Prop :=
  ∀ i, i ≤ p.l.length → Keeps f [p.ptr] (p.it i d) (resV (F i).1) (p.it (F i).2 d) ∧ i ≤ (F i).2 ∧ (F i).2 ≤ p.l.length ∧ ((F i).1.2 = 0 → OkV (F i).1.1)

def innerF (d : Int) (F : Nat → (Val × Int) × Nat) (i : Nat) : (Val × Int) × Nat := if d = 8 then ((v0, 2), i) else F i

theorem parser_inner (p : PS) (d : Int) (h0 : 0 ≤ d) (h8 : d ≤ 8) (f : FuncId) (F : Nat → (Val × Int) × Nat) (hf : d ≠ 8 → PF p (d + 1) f F) (i : Nat) (hi : i ≤ p.l.length) :
    Keeps 97 [p.ptr, .c (.func (.func f) #[.pointer (some ⟨p.b, 0, none⟩)] #[])] (p.it i d) (resV (innerF d F i).1) (p.it (innerF d F i).2 d) := by
  refine CallsA.body Try.func97 rfl (by decide) fun Γ => Run.of_ex 1000 ?_
  simp [Try.f97, PS.ptr, PS.it]
  intro b1 n1 n2
  simp [exW, n1, n2]
  by_cases hd : d = 8
  · simp [n1, n2, hd]
    simp [n1, n2, hd, innerF, v0, emptyS, resV, valA]
  · have hw : IntKind.i64.wrap (d + 1) = d + 1 := wrap_i64 (by omega) (by omega)
    have hw2 : IntKind.i64.wrap d = d := wrap_i64 (by omega) (by omega)
    obtain ⟨hk, hge, hle, hok⟩ := hf hd i hi
    simp [n1, n2, hd, hw]
    refine hk.call 1 (by simp [PS.it]) ?_
    simp [resV, valA, PS.it]
    intro b2 n3 n4 n5 n6
    simp [exW, n1, n2, n3, n4, n5, n6, PS.it, hw2]
    simp [innerF, hd]
    try exact hw2.symm
end Go.Ab
