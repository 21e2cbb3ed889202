/- Words that may be: lex.token, lex.May. -/
import Derived.Test.YtfhjmagknondfaaE1
set_option linter.unusedVariables false
set_option linter.unusedSimpArgs false
set_option maxRecDepth 100000
namespace Go.Ab
open Go.Proofs

/-- A word. -/
structure Tok where
  kind : Int
  text : ByteArray
  n : Int
  at_ : Int
def tokA (t : Tok) : AV := .agg [.c (.int .i64 t.kind), .c (.string t.text), .c (.int .i64 t.n), .c (.int .i64 t.at_)]

/-- A value. -/
structure Val where
  sym : ByteArray
  n : Int
def valA (v : Val) : AV := .agg [.c (.string v.sym), .c (.int .i64 v.n)]

def emptyS : ByteArray := { data := #[] }

def tokB (t : Tok) : Bool :=
  if t.kind = 1 then decide (t.n = 0) && (decide (t.text ≠ emptyS) && (decide (t.text.size ≤ 12) && (beginsB (byteAt t.text 0) && decide (spanN followsB t.text t.text.size 0 = t.text.size))))
  else if t.kind = 2 then decide (t.text = emptyS) && (decide (0 ≤ t.n) && decide (t.n ≤ 2147483647))
  else if t.kind = 3 then decide (t.n = 0) && (decide (t.text.size = 1) && signB (byteAt t.text 0))
  else false

theorem size_pos {s : ByteArray} (h : ¬ s = emptyS) : 0 < s.size := by
  rcases Nat.eq_zero_or_pos s.size with h0 | h0
  · exfalso; apply h
    cases s with
    | mk d =>
      have : d = #[] := Array.eq_empty_of_size_eq_zero h0
      subst this; rfl
  · exact h0

theorem lex_token (t : Tok) : Tells 60 [tokA t] (.c (.bool (tokB t))) := by
  refine CallsA.body Try.func60 rfl (by decide) fun Γ => Run.of_ex 1000 ?_
  simp [Try.f60, tokA]
  intro b
  simp [exW]
  by_cases k1 : t.kind = 1
  · simp [k1]
    refine Run.draws 1000 mixed [(23, b)] (.calm 0 [] (.calm 1 [] (.calm 2 [] (.calm 3 [] (.calm 4 [] (.calm 5 [] (.calm 6 [] (.calm 7 [] (.calm 8 [] (.calm 9 [] (.calm 10 [] (.calm 11 [] (.calm 12 [] (.calm 13 [] (.calm 14 [] (.calm 15 [] (.calm 16 [] (.calm 17 [] (.fork (.alt 18 (.calm 19 [] (.calm 20 [] (.calm 21 [] (.calm 22 [] (.calm 24 [] (.calm 25 [23] (.calm 26 [] (.fork (.alt 23 (.calm 27 [] (.calm 28 [] (.calm 29 [] .done))) .stop))))))))) .stop)))))))))))))))))))) (by kernel_rfl) ?_
    by_cases h1 : t.n = 0
    · by_cases h2 : t.text = emptyS
      · simp [h1, h2, emptyS]
        simp [tokB, k1, h1, h2, emptyS]
      · have hpos := size_pos h2
        have hpos' : (0 : Int) < (t.text.size : Int) := by omega
        by_cases h3 : t.text.size ≤ 12
        · have h3' : (t.text.size : Int) ≤ 12 := by omega
          have h2' : ¬ t.text = { data := #[] } := h2
          simp [h1, h2', h3, h3', hpos, hpos']
          refine (lex_begins _).call ?_
          cases h4 : beginsB (byteAt t.text 0)
          · simp
            simp [tokB, k1, h1, h2, h3, h4]
          · simp
            refine (lex_span _ followsB lex_follows t.text (by omega)).call ?_
            simp
            simp [tokB, k1, h1, h2, h3, h4]
            constructor <;> omega
        · have h3' : ¬ (t.text.size : Int) ≤ 12 := by omega
          have h2' : ¬ t.text = { data := #[] } := h2
          simp [h1, h2', h3, h3']
          simp [tokB, k1, h1, h2, h3]
    · simp [h1]
      simp [tokB, k1, h1]
  · by_cases k2 : t.kind = 2
    · simp [k1, k2]
      by_cases h1 : t.text = emptyS
      · have h1' : t.text = { data := #[] } := h1
        by_cases h2 : 0 ≤ t.n
        · simp [h1', h2]
          simp [tokB, k1, k2, h1, h2]
        · simp [h1', h2]
          simp [tokB, k1, k2, h1, h2]
      · have h1' : ¬ t.text = { data := #[] } := h1
        simp [h1']
        simp [tokB, k1, k2, h1]
    · by_cases k3 : t.kind = 3
      · simp [k1, k2, k3]
        by_cases h1 : t.n = 0
        · by_cases h2 : t.text.size = 1
          · simp [h1, h2]
            refine (lex_sign _).call ?_
            simp [tokB, k1, k2, k3, h1, h2]
          · have h2' : ¬ (t.text.size : Int) = 1 := by omega
            simp [h1, h2, h2']
            simp [tokB, k1, k2, k3, h1, h2]
        · simp [h1]
          simp [tokB, k1, k2, k3, h1]
      · simp [k1, k2, k3]
        simp [tokB, k1, k2, k3]

theorem lex_May1 (t : Tok) : Tells 59 [tokA t] (.c (.bool (!tokB t))) := by
  refine CallsA.body Try.func59 rfl (by decide) fun Γ => Run.of_ex 1000 ?_
  simp [Try.f59, tokA]
  intro b
  simp [exW]
  refine (lex_token t).call ?_
  simp
end Go.Ab

set_option linter.unusedVariables false
set_option linter.unusedSimpArgs false
set_option maxRecDepth 100000
namespace Go.Ab
open Go.Proofs

def valsA (fr : Bool) (l : List Val) : AV := .sl fr 2 (l.map valA)
def toksA (fr : Bool) (l : List Tok) : AV := .sl fr 4 (l.map tokA)

@[simp] theorem ones_toks {l : List Tok} : onesP (l.map tokA) := onesP_map fun _ => rfl
@[simp] theorem ones_vals {l : List Val} : onesP (l.map valA) := onesP_map fun _ => rfl

/-- Where the first is that is so. -/
def idxF {α : Type} (g : α → Bool) : List α → Nat → Int
  | [], _ => -1
  | a :: l, i => if g a = true then (i : Int) else idxF g l (i + 1)

theorem idxF_drop {α : Type} (g : α → Bool) (l : List α) {i : Nat} {a : α} (h : l[i]? = some a) : idxF g (l.drop i) i = if g a = true then (i : Int) else idxF g (l.drop (i + 1)) (i + 1) := by
  obtain ⟨hlt, ha⟩ := List.getElem?_eq_some_iff.1 h
  rw [List.drop_eq_getElem_cons hlt, ha]
  simp [idxF]

theorem idxF_any {α : Type} (g : α → Bool) : ∀ (l : List α) (i : Nat), decide (0 ≤ idxF g l i) = l.any g
  | [], i => by simp [idxF]
  | a :: l, i => by
    simp only [idxF, List.any_cons]
    by_cases h : g a = true
    · simp [h]
    · simp only [h]
      simpa using idxF_any g l (i + 1)

/-- A predicate, as a function's value with what it captures. -/
def Pred {α : Type} (enc : α → AV) (f : FuncId) (caps : Array Value) (its : List It) (g : α → Bool) : Prop :=
  ∀ a, CallsA Try.prog f (enc a :: caps.toList.map .c) its fun x h => x = .c (.bool (g a)) ∧ h = its

theorem Pred.call {α : Type} {enc : α → AV} {f : FuncId} {caps : Array Value} {its : List It} {g : α → Bool} (hp : Pred enc f caps its g) (a : α) {Γ : Ctx} {n : Nat} {ops : Array Oper} {cb : DM} {os : OT} {dst : Option Tmp} {k : List KI} {Q : St → Prop} {s : List AV}
    (H : ex Try.prog Γ n ops cb os k Q (putA s dst (.c (.bool (g a)))) its) (he : eC cb (blks its) := by simp) : CallV Try.prog Γ n ops cb dst os k Q s its f (enc a :: caps.toList.map .c) :=
  CallV.own its [] (by simp) he (hp a) fun r h' ⟨hr, hh⟩ _ => by subst hr; subst hh; simpa using H

theorem IndexFunc_vals (fr : Bool) (l : List Val) (hl : l.length ≤ 4611686018427387904) {f : FuncId} {caps : Array Value} {its : List It} {g : Val → Bool} (hp : Pred valA f caps its g) :
    CallsA Try.prog 81 [valsA fr l, .c (.func (.func f) #[] caps)] its fun x h => x = .c (.int .i64 (idxF g l 0)) ∧ h = its := by
  refine CallsA.body Try.func81 rfl (by decide) fun Γ => Run.of_ex 1000 ?_
  simp [Try.f81, valsA]
  refine Run.head (fun i : Nat => ⟨[.sl fr 2 (l.map valA), .c (.func (.func f) #[] caps), .bad, .bad, .bad, .bad, .bad, .c (.int .i64 l.length), .c (.int .i64 i)] ++ List.replicate 10 .bad, its⟩) (fun i => l.length - i)
    (fun i => i ≤ l.length ∧ idxF g (l.drop i) i = idxF g l 0) ?_ 0 _ _ ?_ ?_ (List.Sublist.refl _)
  · intro i ⟨hi, hI⟩ ih
    refine Run.of_ex 1000 ?_
    simp [List.replicate]
    by_cases hlt : i < l.length
    · have h1 : (i : Int) < (l.length : Int) := by omega
      have h2 : IntKind.i64.wrap ((i : Int) + 1) = ((i + 1 : Nat) : Int) := wrap_i64 (by omega) (by omega)
      have hd := idxF_drop g l (List.getElem?_eq_getElem hlt)
      simp [h1, hlt, valA]
      refine hp.call l[i] ?_
      cases hb : g l[i]
      · simp [h2]
        refine ih (i + 1) _ _ ⟨by omega, ?_⟩ (show l.length - (i + 1) < l.length - i by omega) ?_ (List.Sublist.refl _)
        · rw [← hI, hd, hb]; simp
        · simp [List.replicate]
      · simp [← hI, hd, hb]
    · have h1 : ¬ (i : Int) < (l.length : Int) := by omega
      simp [h1, hlt]
      have : l.drop i = [] := List.drop_eq_nil_of_le (by omega)
      rw [this] at hI
      simp [idxF] at hI
      exact hI
  · simp
  · simp [List.replicate]
theorem IndexFunc_toks (fr : Bool) (l : List Tok) (hl : l.length ≤ 4611686018427387904) {f : FuncId} {caps : Array Value} {its : List It} {g : Tok → Bool} (hp : Pred tokA f caps its g) :
    CallsA Try.prog 68 [toksA fr l, .c (.func (.func f) #[] caps)] its fun x h => x = .c (.int .i64 (idxF g l 0)) ∧ h = its := by
  refine CallsA.body Try.func68 rfl (by decide) fun Γ => Run.of_ex 1000 ?_
  simp [Try.f68, toksA]
  refine Run.head (fun i : Nat => ⟨[.sl fr 4 (l.map tokA), .c (.func (.func f) #[] caps), .bad, .bad, .bad, .bad, .bad, .c (.int .i64 l.length), .c (.int .i64 i)] ++ List.replicate 10 .bad, its⟩) (fun i => l.length - i)
    (fun i => i ≤ l.length ∧ idxF g (l.drop i) i = idxF g l 0) ?_ 0 _ _ ?_ ?_ (List.Sublist.refl _)
  · intro i ⟨hi, hI⟩ ih
    refine Run.of_ex 1000 ?_
    simp [List.replicate]
    by_cases hlt : i < l.length
    · have h1 : (i : Int) < (l.length : Int) := by omega
      have h2 : IntKind.i64.wrap ((i : Int) + 1) = ((i + 1 : Nat) : Int) := wrap_i64 (by omega) (by omega)
      have hd := idxF_drop g l (List.getElem?_eq_getElem hlt)
      simp [h1, hlt, tokA]
      refine hp.call l[i] ?_
      cases hb : g l[i]
      · simp [h2]
        refine ih (i + 1) _ _ ⟨by omega, ?_⟩ (show l.length - (i + 1) < l.length - i by omega) ?_ (List.Sublist.refl _)
        · rw [← hI, hd, hb]; simp
        · simp [List.replicate]
      · simp [← hI, hd, hb]
    · have h1 : ¬ (i : Int) < (l.length : Int) := by omega
      simp [h1, hlt]
      have : l.drop i = [] := List.drop_eq_nil_of_le (by omega)
      rw [this] at hI
      simp [idxF] at hI
      exact hI
  · simp
  · simp [List.replicate]
theorem ContainsFunc_vals (fr : Bool) (l : List Val) (hl : l.length ≤ 4611686018427387904) {f : FuncId} {caps : Array Value} {its : List It} {g : Val → Bool} (hp : Pred valA f caps its g) :
    CallsA Try.prog 57 [valsA fr l, .c (.func (.func f) #[] caps)] its fun x h => x = .c (.bool (l.any g)) ∧ h = its := by
  refine CallsA.body Try.func57 rfl (by decide) fun Γ => Run.of_ex 1000 ?_
  simp [Try.f57, valsA]
  refine CallV.own its [] (by simp) (by simp) (IndexFunc_vals fr l hl hp) ?_
  rintro r h' ⟨rfl, rfl⟩ _
  simp [← idxF_any g l 0]

theorem ContainsFunc_toks (fr : Bool) (l : List Tok) (hl : l.length ≤ 4611686018427387904) {f : FuncId} {caps : Array Value} {its : List It} {g : Tok → Bool} (hp : Pred tokA f caps its g) :
    CallsA Try.prog 49 [toksA fr l, .c (.func (.func f) #[] caps)] its fun x h => x = .c (.bool (l.any g)) ∧ h = its := by
  refine CallsA.body Try.func49 rfl (by decide) fun Γ => Run.of_ex 1000 ?_
  simp [Try.f49, toksA]
  refine CallV.own its [] (by simp) (by simp) (IndexFunc_toks fr l hl hp) ?_
  rintro r h' ⟨rfl, rfl⟩ _
  simp [← idxF_any g l 0]

/-- Words that may be. -/
def tokensB (l : List Tok) : Bool := decide (l.length ≤ 40) && !l.any (fun t => !tokB t)

theorem lex_May (fr : Bool) (l : List Tok) (hl : l.length ≤ 4611686018427387904) : Tells 42 [toksA fr l] (.c (.bool (tokensB l))) := by
  refine CallsA.body Try.func42 rfl (by decide) fun Γ => Run.of_ex 1000 ?_
  simp [Try.f42, toksA]
  by_cases h : l.length ≤ 40
  · have h' : (l.length : Int) ≤ 40 := by omega
    simp [h, h']
    refine CallV.pure (ContainsFunc_toks fr l hl (f := 59) (caps := #[]) (its := []) (g := fun t => !tokB t) fun a => lex_May1 a) ?_
    rintro r h' ⟨rfl, rfl⟩ _
    simp [tokensB, h]
  · have h' : ¬ (l.length : Int) ≤ 40 := by omega
    simp [h, h']
    simp [tokensB, h]
end Go.Ab

set_option linter.unusedVariables false
set_option linter.unusedSimpArgs false
set_option maxRecDepth 100000
namespace Go.Ab
open Go.Proofs

def nameB (c : Int) : Bool := letterB c || (decide (48 ≤ c) && decide (c ≤ 57))
def allB (g : Int → Bool) (s : ByteArray) : Nat → Nat → Bool
  | 0, i => true
  | n + 1, i => g (byteAt s i) && allB g s n (i + 1)
def name2B (s : ByteArray) : Bool := decide (s ≠ emptyS) && (decide (s.size ≤ 12) && (letterB (byteAt s 0) && allB nameB s s.size 0))

theorem isa_Name2 (s : ByteArray) (hs : s.size ≤ 4611686018427387904) : Tells 48 [.c (.string s)] (.c (.bool (name2B s))) := by
  refine CallsA.body Try.func48 rfl (by decide) fun Γ => Run.of_ex 1000 ?_
  simp [Try.f48]
  by_cases h1 : s = emptyS
  · have h1' : s = { data := #[] } := h1
    simp [h1']
    simp [name2B, emptyS]
  have h1' : ¬ s = { data := #[] } := h1
  have hpos := size_pos h1
  by_cases h2 : ¬ s.size ≤ 12
  · have h2' : (12 : Int) < (s.size : Int) := by omega
    have h2'' : 12 < s.size := by omega
    simp [h1', h2', h2'']
    simp [name2B, h1, h2]
  have h2 : s.size ≤ 12 := by omega
  have h2' : ¬ (12 : Int) < (s.size : Int) := by omega
  have h2'' : ¬ 12 < s.size := by omega
  simp [h1', h2', h2'', hpos]
  refine (isa_letter _).call ?_
  cases h3 : letterB (byteAt s 0)
  · simp
    simp [name2B, h3]
  simp
  refine Run.head (fun i : Nat => ⟨[.c (.string s)] ++ List.replicate 18 .bad ++ [.c (.int .i64 s.size), .c (.int .i64 i)] ++ List.replicate 17 .bad, []⟩) (fun i => s.size - i)
    (fun i => i ≤ s.size ∧ allB nameB s (s.size - i) i = allB nameB s s.size 0) ?_ 0 _ _ ?_ ?_ (List.Sublist.refl _)
  · intro i ⟨hi, hI⟩ ih
    refine Run.of_ex 1000 ?_
    simp [List.replicate]
    by_cases hlt : i < s.size
    · have h4 : (i : Int) < (s.size : Int) := by omega
      have h5 : IntKind.i64.wrap ((i : Int) + 1) = ((i + 1 : Nat) : Int) := wrap_i64 (by omega) (by omega)
      have h6 : s.size - i = (s.size - (i + 1)) + 1 := by omega
      rw [h6] at hI
      simp only [allB] at hI
      simp [hlt, h4]
      refine (isa_letter _).call ?_
      cases h7 : letterB (byteAt s i)
      · by_cases h8 : byteAt s i < 48
        · have h8' : ¬ 48 ≤ byteAt s i := by omega
          simp [h8]
          simp [nameB, h7, h8'] at hI
          simp [name2B, hI]
        · have h8' : 48 ≤ byteAt s i := by omega
          by_cases h9 : 57 < byteAt s i
          · have h9' : ¬ byteAt s i ≤ 57 := by omega
            simp [h8, h9]
            simp [nameB, h7, h8', h9'] at hI
            simp [name2B, hI]
          · have h9' : byteAt s i ≤ 57 := by omega
            simp [h8, h9, h5]
            simp [nameB, h7, h8', h9'] at hI
            exact ih (i + 1) _ _ ⟨by omega, hI⟩ (show s.size - (i + 1) < s.size - i by omega) (by simp [List.replicate]) (List.Sublist.refl _)
      · simp [h5]
        simp [nameB, h7] at hI
        exact ih (i + 1) _ _ ⟨by omega, hI⟩ (show s.size - (i + 1) < s.size - i by omega) (by simp [List.replicate]) (List.Sublist.refl _)
    · have h4 : ¬ (i : Int) < (s.size : Int) := by omega
      have h6 : s.size - i = 0 := by omega
      rw [h6] at hI
      simp [allB] at hI
      simp [hlt, h4]
      simp [name2B, hI, h1, h2, h3]
  · simp
  · simp [List.replicate]

def withinB (n : Int) : Bool := decide (-2147483648 ≤ n) && decide (n ≤ 2147483648)
theorem expr_within (n : Int) : Tells 80 [.c (.int .i64 n)] (.c (.bool (withinB n))) := by
  refine CallsA.body Try.func80 rfl (by decide) fun Γ => Run.of_ex 1000 ?_
  by_cases h1 : -2147483648 ≤ n
  · simp [Try.f80, h1, withinB]
  · simp [Try.f80, h1, withinB]

def v0 : Val := ⟨emptyS, 0⟩
def resV (r : Val × Int) : AV := .tup [valA r.1, .c (.int .i64 r.2)]
def rangedF (v : Val) : Val × Int := if withinB v.n = true then (v, 0) else (v0, 7)
theorem expr_ranged (v : Val) : Tells 89 [valA v] (resV (rangedF v)) := by
  refine CallsA.body Try.func89 rfl (by decide) fun Γ => Run.of_ex 1000 ?_
  simp [Try.f89, valA]
  intro b
  simp [exW]
  intro b' h1 h2
  simp [exW, h1, h2]
  refine (expr_within v.n).call ?_
  cases h : withinB v.n
  · simp
    simp [h1, h2, rangedF, h, resV, valA, v0, emptyS]
  · simp [h1, h2]
    simp [h1, h2, rangedF, h, resV, valA]
end Go.Ab
