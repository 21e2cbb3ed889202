/- Calm operations: rules. -/
import Derived.Test.YtfhjmagknondfaaA1
import Derived.Lib.Bytes
import Derived.WalkSpells
import Derived.Laws.StructEq
import Derived.Laws.Cover3
import Derived.Laws.Pointers
import Derived.Laws.BytesString
set_option linter.unusedVariables false
set_option linter.unusedSimpArgs false
namespace Go.Ab


theorem Sim.ev' {Γ : Ctx} {s : List AV} {h : List It} {a : Act} {w : World} (S : Sim Γ ⟨s, h⟩ a w) (x : Operand) : RepV Γ h w (a.eval x) (evA s x) := Sim.ev S x

def exBin (P : Program) (op : BinOp) (t : TypeId) : AV → AV → Option (Prop × AV)
  | .c (.int k a), .c (.int k' b) =>
    if k = k' then
      match op with
      | .add => some (True, .c (.int k (k.wrap (a + b))))
      | .sub => some (True, .c (.int k (k.wrap (a - b))))
      | .mul => some (True, .c (.int k (k.wrap (a * b))))
      | .quo => some (b ≠ 0, .c (.int k (k.wrap (a.tdiv b))))
      | .rem => some (b ≠ 0, .c (.int k (a.tmod b)))
      | .eql => some (True, .c (.bool (decide (a = b))))
      | .neq => some (True, .c (.bool (decide (a ≠ b))))
      | .lss => some (True, .c (.bool (decide (a < b))))
      | .leq => some (True, .c (.bool (decide (a ≤ b))))
      | .gtr => some (True, .c (.bool (decide (b < a))))
      | .geq => some (True, .c (.bool (decide (b ≤ a))))
      | _ => none
    else none
  | .c (.string a), .c (.string b) =>
    match op with
    | .add => some (a.size + b.size ≤ 9223372036854775807, .c (.string (a ++ b)))
    | .eql => some (True, .c (.bool (decide (a = b))))
    | .neq => some (True, .c (.bool (decide (a ≠ b))))
    | _ => none
  | .c (.bool a), .c (.bool b) =>
    match op, P.underlying t with
    | .eql, some .bool => some (True, .c (.bool (a == b)))
    | .neq, some .bool => some (True, .c (.bool (a != b)))
    | _, _ => none
  | .c (.pointer none), .c (.pointer none) =>
    match op, P.underlying t with
    | .eql, some (.pointer _) => some (True, .c (.bool true))
    | .neq, some (.pointer _) => some (True, .c (.bool false))
    | _, _ => none
  | .c (.pointer (some _)), .c (.pointer none) =>
    match op, P.underlying t with
    | .eql, some (.pointer _) => some (True, .c (.bool false))
    | .neq, some (.pointer _) => some (True, .c (.bool true))
    | _, _ => none
  | .c (.func _ _ _), .c .nilFunc =>
    match op, P.underlying t with
    | .eql, some (.func _ _ _) => some (True, .c (.bool false))
    | .neq, some (.func _ _ _) => some (True, .c (.bool true))
    | _, _ => none
  | .c .nilFunc, .c .nilFunc =>
    match op, P.underlying t with
    | .eql, some (.func _ _ _) => some (True, .c (.bool true))
    | .neq, some (.func _ _ _) => some (True, .c (.bool false))
    | _, _ => none
  | .c (.slice q _ _), .c (.slice none _ _) =>
    match op, P.underlying t with
    | .eql, some (.slice _) => some (True, .c (.bool q.isNone))
    | .neq, some (.slice _) => some (True, .c (.bool (!q.isNone)))
    | _, _ => none
  | _, _ => none

theorem toList_eq (a b : ByteArray) : (a.toList == b.toList) = decide (a = b) := by
  by_cases h : a = b
  · subst h; simp
  · have : a.toList ≠ b.toList := fun he => h (by
      have h1 : a.data.toList = b.data.toList := by rw [← ByteArray.toList_eq, ← ByteArray.toList_eq]; exact he
      cases a; cases b; simp at h1; simp [h1])
    simp [h, this]

theorem intbeq (a b : Int) : (a == b) = decide (a = b) := rfl
theorem intbne (a b : Int) : (a != b) = decide (a ≠ b) := by simp [bne, intbeq]

theorem run_equal_func {P : Program} (w : World) (t : TypeId) (a b c) (f : Option (Fn × Array Value × Array Value)) (h : P.underlying t = some (.func a b c)) :
    (Op.equal t (match f with | some (x, y, z) => .func x y z | none => .nilFunc) .nilFunc).run P w = .ok f.isNone w := by
  show (Op.equalIn (9999 + 1) t _ _).run P w = _
  generalize 9999 = d
  cases f <;> simp [Op.equalIn, run_underlying h]

theorem exBin_ok {P : Program} {op : BinOp} {t : TypeId} {u v : Value} {p : Prop} {x : AV} (hx : exBin P op t (.c u) (.c v) = some (p, x)) (hp : p) (w : World) (l r : Operand) :
    ∃ z, x = .c z ∧ (do eqGuard op t l r u v; binOp op t u v : Sem Value).run P w = .ok z w := by
  unfold exBin at hx
  split at hx
  · rename_i k a k' b h1 h2
    cases h1; cases h2
    split at hx
    · rename_i hk
      subst hk
      split at hx <;> cases hx <;> simp [eqGuard, binOp, Op.intArith, Op.intDiv, Op.intCmp, intbeq, intbne] <;> simp_all
    · cases hx
  · rename_i a b h1 h2
    cases h1; cases h2
    split at hx
    · cases hx
      have : ¬ ((9223372036854775807 : Int) < a.size + b.size) := by omega
      simp [eqGuard, binOp, Op.stringOp, IntKind.max, IntKind.signed, IntKind.bits, this]; try omega
    · cases hx; simp [eqGuard, binOp, Op.stringOp, toList_eq]
    · cases hx; simp [eqGuard, binOp, Op.stringOp, toList_eq]
    · cases hx
  · rename_i a b h1 h2
    cases h1; cases h2
    split at hx
    · rename_i hu; cases hx
      exact ⟨_, rfl, by simp only [eqGuard, binOp]; simp [run_equal_bool w t a b hu]⟩
    · rename_i hu; cases hx
      exact ⟨_, rfl, by simp only [eqGuard, binOp]; simp [run_equal_bool w t a b hu]; cases a <;> cases b <;> rfl⟩
    · cases hx
  · rename_i h1 h2
    cases h1; cases h2
    split at hx
    · rename_i e hu; cases hx
      have hq := run_equal_pointer_nil (P := P) w t none (by rw [Program.pointee, hu])
      exact ⟨_, rfl, by simp only [eqGuard, binOp]; simp [hq]⟩
    · rename_i e hu; cases hx
      have hq := run_equal_pointer_nil (P := P) w t none (by rw [Program.pointee, hu])
      exact ⟨_, rfl, by simp only [eqGuard, binOp]; simp [hq]⟩
    · cases hx
  · rename_i ad h1 h2
    cases h1; cases h2
    split at hx
    · rename_i e hu; cases hx
      have hq := run_equal_pointer_nil (P := P) w t (some ad) (by rw [Program.pointee, hu])
      exact ⟨_, rfl, by simp only [eqGuard, binOp]; simp [hq]⟩
    · rename_i e hu; cases hx
      have hq := run_equal_pointer_nil (P := P) w t (some ad) (by rw [Program.pointee, hu])
      exact ⟨_, rfl, by simp only [eqGuard, binOp]; simp [hq]⟩
    · cases hx
  · rename_i f1 f2 f3 h1 h2
    cases h1; cases h2
    split at hx
    · rename_i a b c hu; cases hx
      have hq := run_equal_func (P := P) w t a b c (some (f1, f2, f3)) hu
      simp only at hq
      exact ⟨_, rfl, by simp only [eqGuard, binOp]; simp [hq]⟩
    · rename_i a b c hu; cases hx
      have hq := run_equal_func (P := P) w t a b c (some (f1, f2, f3)) hu
      simp only at hq
      exact ⟨_, rfl, by simp only [eqGuard, binOp]; simp [hq]⟩
    · cases hx
  · rename_i h1 h2
    cases h1; cases h2
    split at hx
    · rename_i a b c hu; cases hx
      have hq := run_equal_func (P := P) w t a b c none hu
      simp only at hq
      exact ⟨_, rfl, by simp only [eqGuard, binOp]; simp [hq]⟩
    · rename_i a b c hu; cases hx
      have hq := run_equal_func (P := P) w t a b c none hu
      simp only at hq
      exact ⟨_, rfl, by simp only [eqGuard, binOp]; simp [hq]⟩
    · cases hx
  · rename_i q n c n' c' h1 h2
    cases h1; cases h2
    split at hx
    · rename_i e hu; cases hx
      exact ⟨_, rfl, by rw [show (do eqGuard .eql t l r (.slice q n c) (.slice none n' c'); binOp .eql t (.slice q n c) (.slice none n' c') : Sem Value) = binOp .eql t (.slice q n c) (.slice none n' c') from rfl]; simp only [binOp]; simp [Op.equal, Op.maxDepth, Lib.run_equalIn_slice_nil w 9999 t e q n c n' c' hu]⟩
    · rename_i e hu; cases hx
      exact ⟨_, rfl, by rw [show (do eqGuard .neq t l r (.slice q n c) (.slice none n' c'); binOp .neq t (.slice q n c) (.slice none n' c') : Sem Value) = binOp .neq t (.slice q n c) (.slice none n' c') from rfl]; exact run_neq_slice_nil_any w t e q n c n' c' hu⟩
    · cases hx
  · cases hx

/-! ### Structs of scalars, compared -/
inductive CK where
  | int (k : IntKind)
  | str
  | bool
  deriving DecidableEq

def eqV : Value → Value → Bool
  | .int _ a, .int _ b => decide (a = b)
  | .string a, .string b => decide (a = b)
  | .bool a, .bool b => decide (a = b)
  | _, _ => false
def mtV : CK → Value → Bool
  | .int k, .int k' _ => k = k'
  | .str, .string _ => true
  | .bool, .bool _ => true
  | _, _ => false
def mtL : List CK → List Value → Bool
  | [], [] => true
  | k :: ks, v :: vs => mtV k v && mtL ks vs
  | _, _ => false
def eqL : List Value → List Value → Bool
  | x :: xs, y :: ys => eqV x y && eqL xs ys
  | _, _ => true

def shapeGo (P : Program) (F : TypeId → Option (List CK)) : List Field → Nat → Option (List CK)
  | [], _ => some []
  | f :: fs, n => if f.name ≠ "_" ∧ f.offset = n then
      match F f.type with
      | some a => if szOf P f.type = a.length ∧ 0 < a.length then (shapeGo P F fs (n + a.length)).map (a ++ ·) else none
      | none => none
    else none

def shapeOf (P : Program) : Nat → TypeId → Option (List CK)
  | 0, _ => none
  | d + 1, t => if hasT P t then (match P.underlying t with
    | some (.int k) => some [.int k]
    | some .string => some [.str]
    | some .bool => some [.bool]
    | some (.struct fs) => if P.stoodInHeld t then none else shapeGo P (shapeOf P d) fs.toList 0
    | _ => none) else none

theorem mtL_append : ∀ {a b : List CK} {l : List Value}, mtL (a ++ b) l = true → mtL a (l.take a.length) = true ∧ mtL b (l.drop a.length) = true
  | [], b, l, h => by simpa [mtL] using h
  | k :: a, b, [], h => by simp [mtL] at h
  | k :: a, b, v :: l, h => by
    simp only [List.cons_append, mtL, Bool.and_eq_true] at h
    obtain ⟨h1, h2⟩ := mtL_append h.2
    simp [mtL, h.1, h1, h2]
theorem mtL_length : ∀ {a : List CK} {l : List Value}, mtL a l = true → l.length = a.length
  | [], [], _ => rfl
  | [], _ :: _, h => by simp [mtL] at h
  | _ :: _, [], h => by simp [mtL] at h
  | k :: a, v :: l, h => by
    simp only [mtL, Bool.and_eq_true] at h
    simp [mtL_length h.2]
theorem eqL_append : ∀ (n : Nat) (l m : List Value), l.length = m.length → eqL l m = (eqL (l.take n) (m.take n) && eqL (l.drop n) (m.drop n))
  | 0, l, m, _ => by simp [eqL]
  | n + 1, [], [], _ => by simp [eqL]
  | n + 1, [], _ :: _, h => by simp at h
  | n + 1, _ :: _, [], h => by simp at h
  | n + 1, x :: l, y :: m, h => by
    simp only [List.take_succ_cons, List.drop_succ_cons, eqL]
    rw [eqL_append n l m (by simpa using h), Bool.and_assoc]

def mkV (P : Program) (t : TypeId) (l : List Value) : Value := if isAggB P t then .agg l.toArray else l.headD undef

theorem run_part {P : Program} {t : TypeId} (ht : hasT P t = true) (l : List Value) (off : Nat) (hl : off + szOf P t ≤ l.length) (h1 : isAggB P t = false → szOf P t = 1) (w : World) :
    (part t l.toArray off).run P w = .ok (mkV P t ((l.drop off).take (szOf P t))) w := by
  unfold part mkV
  by_cases hagg : isAggB P t = true
  · simp [run_isAgg ht, hagg, run_sizeOf ht]
  · have h2 := h1 (by simpa using hagg)
    have : off < l.length := by omega
    simp [run_isAgg ht, hagg, h2, this]
    simp [List.head?_take, this]

theorem equalIn_shape {P : Program} : ∀ (d : Nat) (t : TypeId) (K : List CK) (e : Nat), shapeOf P d t = some K → ∀ (l m : List Value) (w : World), mtL K l = true → mtL K m = true →
    hasT P t = true ∧ (isAggB P t = false → K.length = 1) ∧ (Op.equalIn (d + e) t (mkV P t l) (mkV P t m)).run P w = .ok (eqL l m) w
  | 0, t, K, e, h, _, _, _, _, _ => by simp [shapeOf] at h
  | d + 1, t, K, e, h, l, m, w, hl, hm => by
    unfold shapeOf at h
    split at h
    · rename_i ht
      refine ⟨ht, ?_⟩
      have hde : d + 1 + e = (d + e) + 1 := by omega
      rw [hde]
      have one : ∀ k, K = [k] → ∃ u v, l = [u] ∧ m = [v] ∧ mtV k u = true ∧ mtV k v = true := by
        rintro k rfl
        match l, m, hl, hm with
        | [u], [v], hl, hm => exact ⟨u, v, rfl, rfl, by simpa [mtL] using hl, by simpa [mtL] using hm⟩
        | [], _, hl, _ => simp [mtL] at hl
        | _ :: _ :: _, _, hl, _ => simp [mtL] at hl
        | [_], [], _, hm => simp [mtL] at hm
        | [_], _ :: _ :: _, _, hm => simp [mtL] at hm
      split at h
      · rename_i k hu
        cases h
        obtain ⟨u, v, rfl, rfl, h1, h2⟩ := one _ rfl
        refine ⟨fun _ => rfl, ?_⟩
        cases u <;> simp [mtV] at h1
        cases v <;> simp [mtV] at h2
        subst h1; subst h2
        have hagg : isAggB P t = false := by simp [isAggB, hu]
        simp only [mkV, hagg, List.headD_cons, Bool.false_eq_true, if_false]
        rw [run_equalIn_int w _ t _ _ _ _ hu]
        simp [eqL, eqV, intbeq]
      · rename_i hu
        cases h
        obtain ⟨u, v, rfl, rfl, h1, h2⟩ := one _ rfl
        refine ⟨fun _ => rfl, ?_⟩
        cases u <;> simp [mtV] at h1
        cases v <;> simp [mtV] at h2
        have hagg : isAggB P t = false := by simp [isAggB, hu]
        simp only [mkV, hagg, List.headD_cons, Bool.false_eq_true, if_false]
        rw [run_equalIn_string w _ t _ _ hu]
        simp [eqL, eqV, toList_eq]
      · rename_i hu
        cases h
        obtain ⟨u, v, rfl, rfl, h1, h2⟩ := one _ rfl
        refine ⟨fun _ => rfl, ?_⟩
        cases u <;> simp [mtV] at h1
        cases v <;> simp [mtV] at h2
        have hagg : isAggB P t = false := by simp [isAggB, hu]
        simp only [mkV, hagg, List.headD_cons, Bool.false_eq_true, if_false]
        rw [run_equalIn_bool w _ t _ _ hu]
        rename_i a b
        cases a <;> cases b <;> simp [eqL, eqV]
      · rename_i fs hu
        have hagg : isAggB P t = true := by simp [isAggB, hu]
        refine ⟨fun h => by simp [hagg] at h, ?_⟩
        split at h
        · cases h
        · rename_i hp
          simp only [mkV, hagg, if_true]
          have hfs : P.fieldsOf t = fs := by simp [Program.fieldsOf, hu]
          rw [run_equalIn_struct w _ t _ _ (by rw [hfs, hu]) (by simpa using hp), hfs]
          have key : ∀ (fs : List Field) (n : Nat) (K' : List CK), shapeGo P (shapeOf P d) fs n = some K' → mtL K' (l.drop n) = true → mtL K' (m.drop n) = true →
              (Op.eqFields (d + e) l.toArray m.toArray fs).run P w = .ok (eqL (l.drop n) (m.drop n)) w := by
            intro fs
            induction fs with
            | nil =>
              intro n K' h hl hm
              simp only [shapeGo] at h
              cases h
              have h1 := mtL_length hl
              have : l.drop n = [] := List.eq_nil_of_length_eq_zero (by simpa using h1)
              simp [Op.eqFields, this, eqL]
            | cons f fs ih =>
              intro n K' h hl hm
              simp only [shapeGo] at h
              split at h
              · rename_i hc
                split at h
                · rename_i a ha
                  split at h
                  · rename_i hsz
                    obtain ⟨hsz, hpos⟩ := hsz
                    cases hg : shapeGo P (shapeOf P d) fs (n + a.length) with
                    | none => simp [hg] at h
                    | some K2 =>
                      simp [hg] at h
                      subst h
                      obtain ⟨hl1, hl2⟩ := mtL_append hl
                      obtain ⟨hm1, hm2⟩ := mtL_append hm
                      obtain ⟨hft, hone, heq⟩ := equalIn_shape d f.type a e ha _ _ w hl1 hm1
                      rw [List.drop_drop] at hl2 hm2
                      have hll := mtL_length hl
                      have hml := mtL_length hm
                      simp only [List.length_drop, List.length_append] at hll hml
                      have hpl : n + szOf P f.type ≤ l.length := by omega
                      have hpm : n + szOf P f.type ≤ m.length := by omega
                      simp only [Op.eqFields, hc.1, ne_eq, not_false_eq_true, if_true, hc.2]
                      have e1 := run_part (P := P) hft l n hpl (fun h => by rw [hsz]; exact hone h) w
                      have e2 := run_part (P := P) hft m n hpm (fun h => by rw [hsz]; exact hone h) w
                      rw [hsz] at e1 e2
                      simp only [Sem.run_bind, e1, e2, Result.andThen_ok, heq]
                      rw [eqL_append a.length (l.drop n) (m.drop n) (by simp; omega)]
                      cases hq : eqL ((l.drop n).take a.length) ((m.drop n).take a.length) with
                      | false => simp
                      | true =>
                        simp only [Bool.not_true, Bool.false_eq_true, if_false, Bool.true_and]
                        rw [ih _ _ hg hl2 hm2, List.drop_drop, List.drop_drop]
                  · cases h
                · cases h
              · cases h
          have := key fs.toList 0 K h (by simpa using hl) (by simpa using hm)
          simpa using this
      · cases h
    · cases h
end Go.Ab

set_option linter.unusedVariables false
set_option linter.unusedSimpArgs false
namespace Go.Ab

def mtA : List CK → List AV → Bool
  | [], [] => true
  | k :: ks, .c v :: vs => mtV k v && mtA ks vs
  | _, _ => false
def eqLA : List AV → List AV → Bool
  | .c x :: xs, .c y :: ys => eqV x y && eqLA xs ys
  | _, _ => true
def eqG (P : Program) (t : TypeId) : Bool := P.eqGuardType P.depth t
def AV.aggB : AV → Bool
  | .agg _ => true
  | .c (.agg _) => true
  | _ => false

def exEqS (P : Program) (op : BinOp) (t : TypeId) (x y : AV) : Option (Prop × AV) :=
  match shapeOf P 8 t with
  | some K => if x.aggB && y.aggB && mtA K x.cells && mtA K y.cells && !eqG P t && isAggB P t then
      match op with
      | .eql => some (True, .c (.bool (eqLA x.cells y.cells)))
      | .neq => some (True, .c (.bool (!eqLA x.cells y.cells)))
      | _ => none
    else none
  | none => none

def exFieldAddr (P : Program) (t : TypeId) (x : AV) (f : Nat) : Option (Prop × AV) :=
  match fieldOf P t f with
  | some (ft, off) => if hasT P ft && szOf P ft != 0 then
      match x with
      | .c (.pointer (some ⟨b, o, none⟩)) => some (True, .c (.pointer (some ⟨b, o + off, none⟩)))
      | .pe cs => some (True, .pe (cs.drop off))
      | _ => none
    else none
  | none => none

def exField (P : Program) (t : TypeId) (x : AV) (f : Nat) : Option (Prop × AV) :=
  match fieldOf P t f with
  | some (ft, off) => if hasT P ft && x.aggB then
      if isAggB P ft then some (off + szOf P ft ≤ x.cells.length, .agg ((x.cells.drop off).take (szOf P ft))) else (x.cells[off]?).map (True, ·)
    else none
  | none => none

def exLoad (P : Program) (h : List It) (t : TypeId) (x : AV) : Option (Prop × AV) :=
  if hasT P t then
    match x with
    | .c (.pointer (some ⟨b, o, none⟩)) =>
      match find b h with
      | some (.obj _ _ cs) => (loadA P t (cs.drop o)).map (True, ·)
      | some (.row _ _ _ _ _ es) => (loadA P t ((flat es).drop o)).map (True, ·)
      | _ => none
    | .pe cs => (loadA P t cs).map (True, ·)
    | _ => none
  else none

def exIndexAddr (P : Program) (t : TypeId) (x i : AV) : Option (Prop × AV) :=
  match elemOfS P t, i with
  | some e, .c (.int _ n) => if hasT P e then
      match x with
      | .sl _ k es => if k = szOf P e then some ((0 ≤ n ∧ n < es.length), .pe ((es.getD n.toNat .bad).cells)) else none
      | .c (.slice (some ⟨b, o, none⟩) len _) => some ((0 ≤ n ∧ n < len), .c (.pointer (some ⟨b, o + n.toNat * szOf P e, none⟩)))
      | _ => none
    else none
  | _, _ => none

/-- A byte of a string. -/
def byteAt (s : ByteArray) (i : Nat) : Int := ((s.data.toList.getD i 0).toNat : Int)

def exIndex (P : Program) (t : TypeId) (x i : AV) : Option (Prop × AV) :=
  match x, i with
  | .c (.string s), .c (.int _ n) => if isStr P t then some ((0 ≤ n ∧ n < s.size), .c (.int .u8 (byteAt s n.toNat))) else none
  | _, _ => none

/-- n cells lie in the row that a slice of b, with capacity cap, begins. -/
def fitP (h : List It) (b cap : Nat) (n : Int) : Prop := match find b h with
  | some (.row _ _ _ cap' _ es) => n ≤ es.length ∧ cap = cap'
  | _ => False
def exSlice (P : Program) (h : List It) (t : TypeId) (x : AV) (lo hi : Option AV) : Option (Prop × AV) :=
  match lo.getD (.c (.int .i64 0)), x with
  | .c (.int _ l), .c (.string s) =>
    if isStr P t then
      match hi with
      | none => some ((0 ≤ l ∧ l ≤ s.size), .c (.string (s.extract l.toNat s.size)))
      | some (.c (.int _ n)) => some ((0 ≤ l ∧ l ≤ n ∧ n ≤ s.size), .c (.string (s.extract l.toNat n.toNat)))
      | _ => none
    else none
  | .c (.int _ l), .sl fr k es =>
    match elemOfS P t with
    | some e => if hasT P e && k == szOf P e then
        match hi with
        | none => some ((0 ≤ l ∧ l ≤ es.length), .sl fr k (es.drop l.toNat))
        | some (.c (.int _ n)) => some ((0 ≤ l ∧ l ≤ n ∧ n ≤ es.length), .sl fr k ((es.take n.toNat).drop l.toNat))
        | _ => none
      else none
    | none => none
  | .c (.int _ l), .c (.slice (some ⟨b, off, none⟩) len cap) =>
    match elemOfS P t with
    | some e => if hasT P e then
        match hi with
        | none => some ((0 ≤ l ∧ l ≤ len ∧ (len ≤ cap ∨ fitP h b cap len)), .c (.slice (some ⟨b, if cap = l.toNat then off else off + l.toNat * szOf P e, none⟩) (len - l.toNat) (cap - l.toNat)))
        | some (.c (.int _ n)) => some ((0 ≤ l ∧ l ≤ n ∧ (n ≤ cap ∨ fitP h b cap n)), .c (.slice (some ⟨b, if cap = l.toNat then off else off + l.toNat * szOf P e, none⟩) (n.toNat - l.toNat) (cap - l.toNat)))
        | _ => none
      else none
    | none => none
  | .c (.int _ l), .c (.slice none 0 0) =>
    match elemOfS P t with
    | some e => if hasT P e then
        match hi with
        | none => some ((l = 0), .c (.slice none 0 0))
        | some (.c (.int _ n)) => some ((l = 0 ∧ n = 0), .c (.slice none 0 0))
        | _ => none
      else none
    | none => none
  | _, _ => none

/-- x[:0:0]: what is appended to it lies in new memory. -/
def exSlice0 (P : Program) (t : TypeId) (x : AV) : AV → AV → AV → Option (Prop × AV)
  | .c (.int _ 0), .c (.int _ 0), .c (.int _ 0) => match elemOfS P t with
    | some e => if hasT P e then
        match x with
        | .sl _ _ _ | .c (.slice none 0 0) | .c (.slice (some _) _ _) => some (True, .mt)
        | _ => none
      else none
    | none => none
  | _, _, _ => none

def exLen (P : Program) (t : TypeId) (x : AV) : Option (Prop × AV) :=
  match P.underlying t, x with
  | some .string, .c (.string s) => some (True, .c (.int .i64 s.size))
  | some (.slice _), .c (.slice _ n _) => some (True, .c (.int .i64 n))
  | some (.slice _), .sl _ _ es => some (True, .c (.int .i64 es.length))
  | some (.slice _), .mt => some (True, .c (.int .i64 0))
  | _, _ => none

def cvals : List AV → Option (List Value)
  | [] => some []
  | .c v :: l => (cvals l).map (v :: ·)
  | _ => none

def byteL : List AV → Option (List Int)
  | [] => some []
  | .c (.int .u8 n) :: l => (byteL l).map (n :: ·)
  | _ => none
def strOf (ns : List Int) : ByteArray := ⟨(ns.map fun n => UInt8.ofNat n.toNat).toArray⟩
def isByteT (P : Program) (e : TypeId) : Bool := match P.underlying e with | some (.int .u8) => true | _ => false
def exStr (P : Program) (h : List It) (e : TypeId) (x : AV) : Option (Prop × AV) :=
  if isByteT P e then
    match x with
    | .c (.slice none 0 0) => some (True, .c (.string (strOf [])))
    | .sl _ _ es => (byteL (flat es)).map fun ns => (ns.length = es.length, .c (.string (strOf ns)))
    | .c (.slice (some ⟨b, o, none⟩) n _) => match find b h with
      | some (.row _ _ _ _ _ es) => (byteL (((flat es).drop o).take n)).map fun ns => (ns.length = n, .c (.string (strOf ns)))
      | _ => none
    | _ => none
  else none

/-- What a calm operation yields: a condition, and the value. -/
def stepC (P : Program) (s : List AV) (h : List It) : Op → Option (Prop × AV)
  | .move x | .assign x => some (True, evA s x)
  | .pick c a b => match evA s c with
    | .c (.bool t) => some (True, if t then evA s a else evA s b)
    | _ => none
  | .build t parts => (buildA P t (parts.toList.map fun p => (p.1, evA s p.2))).map (True, ·)
  | .load t a => exLoad P h t (evA s a)
  | .nilCheck x => match evA s x with
    | .c (.pointer (some a)) => some (True, .c (.pointer (some a)))
    | .pe cs => some (True, .pe cs)
    | .c (.func (.func f) u v) => some (True, .c (.func (.func f) u v))
    | _ => none
  | .binOp op t x y _ => (exBin P op t (evA s x) (evA s y)).or (exEqS P op t (evA s x) (evA s y))
  | .unOp .not _ x => match evA s x with
    | .c (.bool b) => some (True, .c (.bool (!b)))
    | _ => none
  | .unOp .neg _ x => match evA s x with
    | .c (.int k n) => some (True, .c (.int k (k.wrap (0 - n))))
    | _ => none
  | .convert src dst x => match P.underlying src, P.underlying dst, evA s x with
    | some (.int _), some (.int k), .c (.int _ n) => some (True, .c (.int k (k.wrap n)))
    | some (.slice e), some .string, x => exStr P h e x
    | _, _, _ => none
  | .makeFunc fn first captured => match cvals (first.toList.map (evA s)), cvals (captured.toList.map (evA s)) with
    | some u, some v => some (True, .c (.func fn u.toArray v.toArray))
    | _, _ => none
  | .slice t x lo hi none => exSlice P h t (evA s x) (lo.map (evA s)) (hi.map (evA s))
  | .slice t x lo (some hi) (some mx) => exSlice0 P t (evA s x) ((lo.map (evA s)).getD (.c (.int .i64 0))) (evA s hi) (evA s mx)
  | .fieldAddr t x f => exFieldAddr P t (evA s x) f
  | .field t x f => exField P t (evA s x) f
  | .indexAddr t x i => exIndexAddr P t (evA s x) (evA s i)
  | .index t x i => exIndex P t (evA s x) (evA s i)
  | .extract x i => match evA s x with
    | .tup vs => (vs[i]?).map (True, ·)
    | _ => none
  | .call c => match c.callee, c.args.toList, c.argTypes.toList with
    | .builtin .len, [x], [t] => exLen P t (evA s x)
    | _, _, _ => none
  | _ => none

section
variable {P : Program} {Γ : Ctx} {o : Oper} {s : List AV} {h : List It}

theorem calm_pure {x : AV} (H : ∀ a w, Sim Γ ⟨s, h⟩ a w → ∃ v, (∀ w', (execOp a.eval o).run P w' = .ok (.value v) w') ∧ RepV Γ h w v x) : Calm P Γ o s h x := fun a w S =>
  let ⟨v, h1, h2⟩ := H a w S; ⟨v, fun w' _ => h1 w', h2⟩

theorem execOp_v {ρ : Operand → Value} {e : Sem Value} {v : Value} {w w' : World} (he : execOp ρ o = (do pure (.value (← e)))) (hr : e.run P w = .ok v w') : (execOp ρ o).run P w = .ok (.value v) w' := by
  rw [he]; simp [hr]

theorem calm_move {x : Operand} (ho : o.op = .move x ∨ o.op = .assign x) : Calm P Γ o s h (evA s x) := calm_pure fun a w S =>
  ⟨a.eval x, fun w' => by rcases ho with ho | ho <;> simp [execOp, ho], S.ev' x⟩

theorem mtA_of {n0 : Nat} {O : Nat → Prop} {w : World} : ∀ {K : List CK} {xs : List AV} {us : List Value}, mtA K xs = true → us.length = xs.length → (∀ (i : Nat) v a, us[i]? = some v → xs[i]? = some a → Rep n0 O w v a) → mtL K us = true ∧ xs = us.map .c
  | [], [], [], _, _, _ => ⟨rfl, rfl⟩
  | [], [], _ :: _, _, h, _ => by simp at h
  | _, _ :: _, [], _, h, _ => by simp at h
  | [], _ :: _, _ :: _, h, _, _ => by simp [mtA] at h
  | _ :: _, [], _, h, _, _ => by simp [mtA] at h
  | k :: K, x :: xs, u :: us, hm, hl, hr => by
    cases x with
    | c v =>
      simp only [mtA, Bool.and_eq_true] at hm
      have : u = v := Rep.cv (hr 0 u _ rfl rfl)
      subst this
      obtain ⟨h1, h2⟩ := mtA_of hm.2 (by simpa using hl) (fun i v a hv ha => hr (i + 1) v a (by simpa using hv) (by simpa using ha))
      exact ⟨by simp [mtL, hm.1, h1], by simp [h2]⟩
    | _ => simp [mtA] at hm

theorem eqLA_map : ∀ (us vs : List Value), eqLA (us.map .c) (vs.map .c) = eqL us vs
  | [], _ => by cases ‹List Value› <;> rfl
  | _ :: _, [] => rfl
  | u :: us, v :: vs => by simp [eqLA, eqL, eqLA_map us vs]

theorem agg_of {n0 : Nat} {O : Nat → Prop} {w : World} {u : Value} {x : AV} (hr : Rep n0 O w u x) (hx : x.aggB = true) : ∃ us : Array Value, u = .agg us ∧ us.size = x.cells.length ∧ ∀ (i : Nat) v a, us[i]? = some v → x.cells[i]? = some a → Rep n0 O w v a := by
  have h1 := rep_cells hr (by cases x <;> simp [AV.aggB, AV.okB] at *)
  cases hr with
  | agg vs cs hl hh => exact ⟨vs, rfl, h1.1, h1.2⟩
  | c =>
    cases u <;> simp [AV.aggB] at hx
    exact ⟨_, rfl, h1.1, h1.2⟩
  | _ => simp [AV.aggB] at hx

theorem exEqS_ok {op : BinOp} {t : TypeId} {x y : AV} {p : Prop} {z : AV} (hx : exEqS P op t x y = some (p, z)) {u v : Value} {n0 : Nat} {O : Nat → Prop} {w : World} (hu : Rep n0 O w u x) (hv : Rep n0 O w v y) (w' : World) (l r : Operand) :
    ∃ q, z = .c q ∧ (do eqGuard op t l r u v; binOp op t u v : Sem Value).run P w' = .ok q w' := by
  unfold exEqS at hx
  split at hx
  · rename_i K hK
    split at hx
    · rename_i hc
      simp only [Bool.and_eq_true, Bool.not_eq_true'] at hc
      obtain ⟨⟨⟨⟨⟨h1, h2⟩, h3⟩, h4⟩, h5⟩, h6⟩ := hc
      obtain ⟨us, rfl, hus, hru⟩ := agg_of hu h1
      obtain ⟨vs, rfl, hvs, hrv⟩ := agg_of hv h2
      obtain ⟨g1, g2⟩ := mtA_of (us := us.toList) h3 (by simpa using hus) (fun i v a hv ha => hru i v a (by simpa using hv) ha)
      obtain ⟨g3, g4⟩ := mtA_of (us := vs.toList) h4 (by simpa using hvs) (fun i v a hv ha => hrv i v a (by simpa using hv) ha)
      obtain ⟨_, _, heq⟩ := equalIn_shape 8 t K 9992 hK us.toList vs.toList w' g1 g3
      simp only [mkV, h6, if_true, Array.toArray_toList] at heq
      have heq' : (Op.equal t (.agg us) (.agg vs)).run P w' = .ok (eqL us.toList vs.toList) w' := heq
      have hg := run_eqGuard_agg (P := P) w' op t l r us vs h5
      rw [g2, g4, eqLA_map] at hx
      split at hx
      · cases hx
        refine ⟨_, rfl, ?_⟩
        simp only [Sem.run_bind, hg, Result.andThen_ok]
        simp only [binOp]
        simp [heq']
      · cases hx
        refine ⟨_, rfl, ?_⟩
        simp only [Sem.run_bind, hg, Result.andThen_ok]
        simp only [binOp]
        simp [heq']
      · cases hx
    · cases hx
  · cases hx

theorem eval_c {a : Act} {w : World} (S : Sim Γ ⟨s, h⟩ a w) {x : Operand} {v : Value} (hx : evA s x = .c v) : a.eval x = v := by
  have := S.ev' x
  rw [hx] at this
  exact Rep.cv this

theorem calm_fieldAddr {t : TypeId} {x : Operand} {f : Nat} {p : Prop} {z : AV} (ho : o.op = .fieldAddr t x f) (hx : exFieldAddr P t (evA s x) f = some (p, z)) : Calm P Γ o s h z := by
  refine calm_pure fun a w S => ?_
  unfold exFieldAddr at hx
  split at hx
  · rename_i ft off hf
    split at hx
    · rename_i hc
      simp only [Bool.and_eq_true, bne_iff_ne, ne_eq] at hc
      have hrun : ∀ b o' w', (Instr.fieldAt t (.pointer (some ⟨b, o', none⟩)) f).run P w' = .ok (.pointer (some ⟨b, o' + off, none⟩)) w' := by
        intro b o' w'
        unfold fieldOf at hf
        split at hf
        · rename_i fs hu
          cases hg : fs[f]? with
          | none => simp [hg] at hf
          | some g =>
            simp [hg] at hf
            obtain ⟨rfl, rfl⟩ := hf
            simp [Instr.fieldAt, run_underlying hu, hg, Instr.sureAddr, fieldPlace, run_sizeOf hc.1, hc.2, addr_add]
        · cases hf
      split at hx
      · rename_i b o' heq
        cases hx
        refine ⟨_, fun w' => ?_, .c _⟩
        simp only [execOp, ho, eval_c S heq]
        simp [hrun]
      · rename_i cs heq
        cases hx
        have hr := S.ev' x
        rw [heq] at hr
        cases hr' : a.eval x with
        | pointer q =>
          rw [hr'] at hr
          cases hr with
          | pe b off' cs us hO hb hc1 hc2 =>
            refine ⟨.pointer (some ⟨b, off' + off, none⟩), fun w' => ?_, ?_⟩
            · simp only [execOp, ho, hr']; simp [hrun]
            · refine .pe b (off' + off) _ (fun j => us (off + j)) hO hb (fun j a hj => ?_) (fun j a hj => ?_)
              · rw [List.getElem?_drop] at hj
                rw [Nat.add_assoc]
                exact hc1 _ a hj
              · rw [List.getElem?_drop] at hj
                exact hc2 _ a hj
        | _ => rw [hr'] at hr; cases hr
      · cases hx
    · cases hx
  · cases hx

theorem view_pe {a : Act} {w : World} {b off : Nat} {cs : List AV} (hr : RepV Γ h w (.pointer (some ⟨b, off, none⟩)) (.pe cs)) : View Γ h w b off cs := by
  cases hr with
  | pe b off cs us hO hb hc1 hc2 => exact ⟨us, hc1, hc2⟩

theorem calm_load {t : TypeId} {x : Operand} {p : Prop} {z : AV} (ho : o.op = .load t x) (hx : exLoad P h t (evA s x) = some (p, z)) : Calm P Γ o s h z := by
  suffices H : ∀ a w, Sim Γ ⟨s, h⟩ a w → ∃ v, (∀ w', Sure Γ h (readL s (.load t x)) w w' → (execOp a.eval o).run P w' = .ok (.value v) w') ∧ RepV Γ h w v z from fun a w S =>
    let ⟨v, h1, h2⟩ := H a w S
    ⟨v, fun w' hs => h1 w' (by have := hs (by rw [ho]; rfl); rwa [ho] at this), h2⟩
  intro a w S
  unfold exLoad at hx
  split at hx
  · rename_i ht
    have fin : ∀ {b off : Nat} {cs : List AV}, a.eval x = .pointer (some ⟨b, off, none⟩) → View Γ h w b off cs → loadA P t cs = some z → b < w.heap.size → (b ∉ blks h ∨ b ∈ readL s (.load t x)) →
        ∃ v, (∀ w', Sure Γ h (readL s (.load t x)) w w' → (execOp a.eval o).run P w' = .ok (.value v) w') ∧ RepV Γ h w v z := by
      intro b off cs he hv hl hbl hbo
      obtain ⟨v, h1, h2⟩ := hv.load ht hl
      refine ⟨v, fun w' hs => ?_, h2⟩
      have := h1 w' (hs b hbl hbo)
      simp only [execOp, ho, he, Instr.loadAt, Instr.sureAddr]
      simp [this]
    split at hx
    · rename_i b o' heq
      split at hx
      · rename_i b' t' cs hf
        have hb : b' = b := (find_mem hf).2
        subst hb
        cases hl : loadA P t (cs.drop o') with
        | none => simp [hl] at hx
        | some z' =>
          simp [hl] at hx
          obtain ⟨_, rfl⟩ := hx
          have hv := (View.obj S.heap hf).drop (n := o')
          rw [Nat.zero_add] at hv
          exact fin (eval_c S heq) hv hl (S.heap.lt (List.mem_map.2 ⟨_, (find_mem hf).1, rfl⟩)) (.inr (by simp [readL, heq]))
      · rename_i b' t' k cap fr es hf
        have hb : b' = b := (find_mem hf).2
        subst hb
        cases hl : loadA P t ((flat es).drop o') with
        | none => simp [hl] at hx
        | some z' =>
          simp [hl] at hx
          obtain ⟨_, rfl⟩ := hx
          have hv := (View.row S.heap hf).drop (n := o')
          rw [Nat.zero_add] at hv
          exact fin (eval_c S heq) hv hl (S.heap.lt (List.mem_map.2 ⟨_, (find_mem hf).1, rfl⟩)) (.inr (by simp [readL, heq]))
      · cases hx
    · rename_i cs heq
      have hr := S.ev' x
      rw [heq] at hr
      cases hl : loadA P t cs with
      | none => simp [hl] at hx
      | some z' =>
        simp [hl] at hx
        obtain ⟨_, rfl⟩ := hx
        cases hr' : a.eval x with
        | pointer q =>
          rw [hr'] at hr
          have hr2 := hr
          cases hr with
          | pe b off' cs us hO hb hc1 hc2 => exact fin hr' (view_pe (a := a) hr2) hl hb (.inl fun hm => hO (.inr hm))
        | _ => rw [hr'] at hr; cases hr
    · cases hx
  · cases hx
end
end Go.Ab

set_option linter.unusedVariables false
set_option linter.unusedSimpArgs false
namespace Go.Ab
section
variable {P : Program} {Γ : Ctx} {o : Oper} {s : List AV} {h : List It}

theorem calm_field {t : TypeId} {x : Operand} {f : Nat} {p : Prop} {z : AV} (ho : o.op = .field t x f) (hx : exField P t (evA s x) f = some (p, z)) (hp : p) : Calm P Γ o s h z := by
  refine calm_pure fun a w S => ?_
  unfold exField at hx
  split at hx
  · rename_i ft off hf
    split at hx
    · rename_i hc
      simp only [Bool.and_eq_true] at hc
      obtain ⟨us, he, hl, hr⟩ := agg_of (S.ev' x) hc.2
      have hpart : ∀ v w', (part ft us off).run P w' = .ok v w' → (execOp a.eval o).run P w' = .ok (.value v) w' := by
        intro v w' hv
        unfold fieldOf at hf
        split at hf
        · rename_i fs hu
          cases hg : fs[f]? with
          | none => simp [hg] at hf
          | some g =>
            simp [hg] at hf
            obtain ⟨rfl, rfl⟩ := hf
            simp only [execOp, ho, he, Instr.field]
            simp [run_underlying hu, hg, asAgg, hv]
        · cases hf
      split at hx
      · rename_i hagg
        cases hx
        refine ⟨.agg (us.extract off (off + szOf P ft)), fun w' => hpart _ _ ?_, ?_⟩
        · unfold part; simp [run_isAgg hc.1, hagg, run_sizeOf hc.1]
        · refine .agg _ _ (by simp; omega) (fun i v a' hv ha => ?_)
          rw [List.getElem?_take, List.getElem?_drop] at ha
          rw [Array.getElem?_extract] at hv
          split at ha
          · split at hv
            · exact hr _ _ _ hv ha
            · cases hv
          · cases ha
      · rename_i hagg
        cases hg : (evA s x).cells[off]? with
        | none => simp [hg] at hx
        | some z' =>
          simp [hg] at hx
          obtain ⟨_, rfl⟩ := hx
          have hlt : off < us.size := by rw [hl]; exact (List.getElem?_eq_some_iff.1 hg).1
          refine ⟨us[off], fun w' => hpart _ _ ?_, hr off _ _ (by simp [hlt]) hg⟩
          unfold part; simp [run_isAgg hc.1, hagg, hlt]
    · cases hx
  · cases hx

theorem calm_build {t : TypeId} {parts : Array (Nat × Operand)} {z : AV} (ho : o.op = .build t parts) (hx : buildA P t (parts.toList.map fun p => (p.1, evA s p.2)) = some z) : Calm P Γ o s h z := by
  refine calm_pure fun a w S => ?_
  obtain ⟨us, h1, h2⟩ := build_rep (Γ := Γ) (h := h) (w := w) (qs := parts.toList.map fun p => (p.1, a.eval p.2)) (by simp [Function.comp_def]) (by
    simp only [List.map_map, Function.comp_def]
    have := RepL.map (Γ := Γ) (h := h) (w := w) (f := a.eval) (g := evA s) S.ev' (parts.toList.map (·.2))
    simpa [Function.comp_def] using this) hx
  refine ⟨.agg us, fun w' => ?_, h2⟩
  have := run_build (P := P) w' t (parts.map fun p => (p.1, a.eval p.2)) us (by simpa using h1)
  simp only [execOp, ho]
  simp [this]

theorem list_getD {α : Type} {l : List α} {i : Nat} {d : α} (hi : i < l.length) : l.getD i d = l[i] := by simp [hi]

theorem flat_get {k : Nat} : ∀ {es : List AV}, (∀ e ∈ es, e.cells.length = k) → ∀ {i j : Nat} {e a : AV}, es[i]? = some e → e.cells[j]? = some a → (flat es)[i * k + j]? = some a
  | [], _, i, j, e, a, he, _ => by simp at he
  | x :: es, hk, 0, j, e, a, he, ha => by
    simp at he; subst he
    have hj : j < x.cells.length := (List.getElem?_eq_some_iff.1 ha).1
    simp only [flat, List.flatMap_cons, Nat.zero_mul, Nat.zero_add]
    rw [List.getElem?_append_left hj]; exact ha
  | x :: es, hk, i + 1, j, e, a, he, ha => by
    have hx := hk x List.mem_cons_self
    simp only [flat, List.flatMap_cons]
    rw [List.getElem?_append_right (by rw [hx, Nat.add_mul]; omega)]
    have : (i + 1) * k + j - x.cells.length = i * k + j := by rw [hx, Nat.add_mul]; omega
    rw [this]
    exact flat_get (fun e he => hk e (List.mem_cons_of_mem _ he)) (by simpa using he) ha

theorem calm_indexAddr {t : TypeId} {x i : Operand} {p : Prop} {z : AV} (ho : o.op = .indexAddr t x i) (hx : exIndexAddr P t (evA s x) (evA s i) = some (p, z)) (hp : p) : Calm P Γ o s h z := by
  refine calm_pure fun a w S => ?_
  unfold exIndexAddr at hx
  split at hx
  · rename_i e k n he hi
    have hei := eval_c S hi
    split at hx
    · rename_i ht
      have hu : P.underlying t = some (.slice e) := by
        unfold elemOfS at he
        split at he
        · cases he; assumption
        · cases he
      have hrun : ∀ (b o' len cap : Nat) w', 0 ≤ n → n < len → (Instr.indexAt t (.slice (some ⟨b, o', none⟩) len cap) (.int k n)).run P w' = .ok (.pointer (some ⟨b, o' + n.toNat * szOf P e, none⟩)) w' := by
        intro b o' len cap w' h0 h1
        simp [Instr.indexAt, asIntOf, run_underlying hu, h0, h1, run_sizeOf ht, addr_add]
      split at hx
      · rename_i fr k' es heq
        split at hx
        · rename_i hk
          cases hx
          have hr := S.ev' x
          rw [heq] at hr
          cases hr' : a.eval x with
          | slice q len cap =>
            rw [hr'] at hr
            cases hr with
            | nil => simp at hp; omega
            | sl0 => simp at hp; omega
            | sl fr k2 b off cap es us hcap hmax hO hb hfr hkk hc1 hc2 =>
              refine ⟨.pointer (some ⟨b, off + n.toNat * szOf P e, none⟩), fun w' => ?_, ?_⟩
              · simp only [execOp, ho, hr', hei]
                rw [Sem.run_bind, hrun b off es.length cap w' hp.1 hp.2]
                rfl
              · have hlt : n.toNat < es.length := by omega
                have hge : es[n.toNat]? = some (es.getD n.toNat .bad) := by rw [list_getD hlt]; exact List.getElem?_eq_getElem hlt
                refine .pe b _ _ (fun j => us (n.toNat * szOf P e + j)) hO hb (fun j y hj => ?_) (fun j y hj => ?_)
                · have := hc1 _ y (flat_get hkk hge hj)
                  rw [hk] at this
                  rw [Nat.add_assoc]
                  exact this
                · have := hc2 _ y (flat_get hkk hge hj)
                  rw [hk] at this
                  exact this
          | _ => rw [hr'] at hr; cases hr
        · cases hx
      · rename_i b o' len cap heq
        cases hx
        refine ⟨_, fun w' => ?_, .c _⟩
        simp only [execOp, ho, eval_c S heq, hei]
        rw [Sem.run_bind, hrun b o' len cap w' hp.1 hp.2]
        rfl
      · cases hx
    · cases hx
  · cases hx

theorem und_str {t : TypeId} (ht : isStr P t = true) : P.underlying t = some .string := by
  unfold isStr at ht
  split at ht
  · assumption
  · cases ht

theorem ba_get (s : ByteArray) (n : Nat) (hn : n < s.size) : s[n]? = some (s.data.toList.getD n 0) := by
  have h2 : n < s.data.toList.length := by simpa using hn
  rw [list_getD h2, getElem?_pos s n hn]
  simp only [Array.getElem_toList]
  rfl

theorem calm_index {t : TypeId} {x i : Operand} {p : Prop} {z : AV} (ho : o.op = .index t x i) (hx : exIndex P t (evA s x) (evA s i) = some (p, z)) (hp : p) : Calm P Γ o s h z := by
  refine calm_pure fun a w S => ?_
  unfold exIndex at hx
  split at hx
  · rename_i str k n hx1 hi
    split at hx
    · rename_i ht
      cases hx
      refine ⟨_, fun w' => ?_, .c _⟩
      simp only [execOp, ho, eval_c S hx1, eval_c S hi]
      have := ba_get str n.toNat (by omega)
      simp [Instr.index, asIntOf, run_underlying (und_str ht), hp.1, this, byteAt]
    · cases hx
  · cases hx

theorem calm_len {t : TypeId} {x : Operand} {p : Prop} {z : AV} (ho : o.op = .call { callee := .builtin .len, args := #[x], argTypes := #[t] }) (hx : exLen P t (evA s x) = some (p, z)) : Calm P Γ o s h z := by
  refine calm_pure fun a w S => ?_
  unfold exLen at hx
  split at hx
  · rename_i str hu heq
    cases hx
    refine ⟨_, fun w' => ?_, .c _⟩
    simp [execOp, ho, resolve, invoke, builtin, eval_c S heq, Builtin.len_, run_underlying hu, goInt]
  · rename_i e q n c hu heq
    cases hx
    refine ⟨_, fun w' => ?_, .c _⟩
    simp [execOp, ho, resolve, invoke, builtin, eval_c S heq, Builtin.len_, run_underlying hu, goInt]
  · rename_i e fr k es hu heq
    cases hx
    have hr := S.ev' x
    rw [heq] at hr
    refine ⟨.int .i64 es.length, fun w' => ?_, .c _⟩
    cases hr' : a.eval x with
    | slice q n c =>
      rw [hr'] at hr
      have : n = es.length := by cases hr <;> rfl
      simp [execOp, ho, resolve, invoke, builtin, hr', Builtin.len_, run_underlying hu, goInt, this]
    | _ => rw [hr'] at hr; cases hr
  · rename_i e hu heq
    cases hx
    have hr := S.ev' x
    rw [heq] at hr
    refine ⟨.int .i64 0, fun w' => ?_, .c _⟩
    cases hr' : a.eval x with
    | slice q n c =>
      rw [hr'] at hr
      have : n = 0 := by cases hr <;> rfl
      simp [execOp, ho, resolve, invoke, builtin, hr', Builtin.len_, run_underlying hu, goInt, this]
    | _ => rw [hr'] at hr; cases hr
  · cases hx
end
end Go.Ab

set_option linter.unusedVariables false
set_option linter.unusedSimpArgs false
namespace Go.Ab
section
variable {P : Program} {Γ : Ctx} {o : Oper} {s : List AV} {h : List It}

theorem run_bound (k : IntKind) (n : Int) (y : Nat) (code : BoundsCode) (w : World) (h0 : 0 ≤ n) (h1 : n ≤ y) : (Instr.sliceBound (.int k n) y code).run P w = .ok n.toNat w := by
  simp [Instr.sliceBound, asIntOf, h0, h1]

theorem run_bounds (isSlice : Bool) (len cap : Nat) (lo hi : Option Value) (l m : Int) (hlo : lo = none ∧ l = 0 ∨ ∃ k, lo = some (.int k l)) (hhi : hi = none ∧ m = len ∨ ∃ k, hi = some (.int k m))
    (h0 : 0 ≤ l) (h1 : l ≤ m) (h2 : m ≤ cap) (w : World) : (Instr.sliceBounds isSlice len cap lo hi none).run P w = .ok (l.toNat, m.toNat, cap) w := by
  have hm : 0 ≤ m := by omega
  have hlm : l ≤ (m.toNat : Int) := by omega
  rcases hhi with ⟨rfl, rfl⟩ | ⟨k, rfl⟩
  · rcases hlo with ⟨rfl, rfl⟩ | ⟨k', rfl⟩
    · simp [Instr.sliceBounds]
    · have := run_bound (P := P) k' l len .sliceB w h0 (by omega)
      simp [Instr.sliceBounds, this]
  · rcases hlo with ⟨rfl, rfl⟩ | ⟨k', rfl⟩
    · cases isSlice
      · have := run_bound (P := P) k m cap .sliceAlen w hm h2
        simp [Instr.sliceBounds, this]
      · have := run_bound (P := P) k m cap .sliceAcap w hm h2
        simp [Instr.sliceBounds, this]
    · have h3 := run_bound (P := P) k' l m.toNat .sliceB w h0 hlm
      cases isSlice
      · have := run_bound (P := P) k m cap .sliceAlen w hm h2
        simp [Instr.sliceBounds, this, h3]
      · have := run_bound (P := P) k m cap .sliceAcap w hm h2
        simp [Instr.sliceBounds, this, h3]

theorem flat_drop {k : Nat} : ∀ {es : List AV}, (∀ e ∈ es, e.cells.length = k) → ∀ n, n ≤ es.length → flat (es.drop n) = (flat es).drop (n * k)
  | es, _, 0, _ => by simp
  | [], _, n + 1, h => by simp at h
  | x :: es, hk, n + 1, h => by
    have hx := hk x List.mem_cons_self
    simp only [List.drop_succ_cons, flat, List.flatMap_cons]
    have ih := flat_drop (fun e he => hk e (List.mem_cons_of_mem _ he)) n (by simpa using h)
    simp only [flat] at ih
    rw [ih, List.drop_append]
    have : x.cells.length ≤ (n + 1) * k := by rw [hx, Nat.add_mul]; omega
    rw [List.drop_eq_nil_of_le this]
    simp only [List.nil_append]
    congr 1
    rw [hx, Nat.add_mul]; omega

theorem flat_length {k : Nat} : ∀ {es : List AV}, (∀ e ∈ es, e.cells.length = k) → (flat es).length = es.length * k
  | [], _ => by simp [flat]
  | x :: es, hk => by
    have hx := hk x List.mem_cons_self
    have ih := flat_length (es := es) (fun e he => hk e (List.mem_cons_of_mem _ he))
    simp only [flat] at ih
    simp only [flat, List.flatMap_cons, List.length_append, hx, ih, List.length_cons, Nat.add_mul]
    omega

theorem flat_take {k : Nat} : ∀ {es : List AV}, (∀ e ∈ es, e.cells.length = k) → ∀ n, n ≤ es.length → flat (es.take n) = (flat es).take (n * k)
  | es, _, 0, _ => by simp [flat]
  | [], _, n + 1, h => by simp at h
  | x :: es, hk, n + 1, h => by
    have hx := hk x List.mem_cons_self
    simp only [List.take_succ_cons, flat, List.flatMap_cons]
    have ih := flat_take (fun e he => hk e (List.mem_cons_of_mem _ he)) n (by simpa using h)
    simp only [flat] at ih
    rw [ih, List.take_append]
    have : x.cells.length ≤ (n + 1) * k := by rw [hx, Nat.add_mul]; omega
    rw [List.take_of_length_le this]
    congr 2
    rw [hx, Nat.add_mul]; omega

theorem rep_slice {n0 : Nat} {O : Nat → Prop} {w : World} {q : Option Addr} {len cap : Nat} {fr : Bool} {k : Nat} {es : List AV} (hr : Rep n0 O w (.slice q len cap) (.sl fr k es)) (l m : Nat) (hl : l ≤ m) (hm : m ≤ es.length) :
    Rep n0 O w (.slice (if cap = l then q else q.map (·.add (l * k))) (m - l) (cap - l)) (.sl fr k ((es.take m).drop l)) := by
  cases hr with
  | nil =>
    simp at hm; subst hm
    have : l = 0 := by omega
    subst this
    simp; exact .nil _ _
  | sl0 fr k a =>
    simp at hm; subst hm
    have : l = 0 := by omega
    subst this
    simp; exact .sl0 _ _ _
  | sl fr k b off cap es us hcap hmax hO hb hfr hk hc1 hc2 =>
    have hlen : ((es.take m).drop l).length = m - l := by simp; omega
    have hflat : ∀ j a, (flat ((es.take m).drop l))[j]? = some a → (flat es)[l * k + j]? = some a := by
      intro j a hj
      rw [flat_drop (fun e he => hk e (List.mem_of_mem_take he)) l (by simp; omega), flat_take hk m hm, List.getElem?_drop, List.getElem?_take] at hj
      split at hj
      · exact hj
      · cases hj
    have hq : (if cap = l then some (⟨b, off, none⟩ : Addr) else Option.map (fun (a : Addr) => a.add (l * k)) (some ⟨b, off, none⟩)) = some (⟨b, (if cap = l then off else off + l * k), none⟩ : Addr) := by
      split <;> simp [addr_add]
    rw [hq, ← hlen]
    refine .sl fr k b _ _ _ (fun j => us (l * k + j)) (by rw [hlen]; omega) (by omega) hO hb hfr (fun e he => hk e (List.mem_of_mem_take (List.mem_of_mem_drop he))) (fun j a hj => ?_) (fun j a hj => hc2 _ _ (hflat j a hj))
    split
    · rename_i he
      have : (es.take m).drop l = [] := List.eq_nil_of_length_eq_zero (by omega)
      rw [this] at hj
      simp [flat] at hj
    · rw [Nat.add_assoc]; exact hc1 _ _ (hflat j a hj)

theorem fit_le {Γ : Ctx} {h : List It} {w : World} (H : Heap Γ h w) {b cap : Nat} {n : Int} (hf : fitP h b cap n) : n ≤ cap := by
  unfold fitP at hf
  split at hf
  · rename_i b' t k cap' fr es hq
    obtain ⟨_, _, _, hle, _⟩ := H.sat _ (find_mem hq).1
    omega
  · exact hf.elim
theorem calm_slice {t : TypeId} {x : Operand} {lo hi : Option Operand} {p : Prop} {z : AV} (ho : o.op = .slice t x lo hi none) (hx : exSlice P h t (evA s x) (lo.map (evA s)) (hi.map (evA s)) = some (p, z)) (hp : p) : Calm P Γ o s h z := by
  refine calm_pure fun a w S => ?_
  unfold exSlice at hx
  have hopt : ∀ (q : Option Operand) (l : Int) k, (q.map (evA s)).getD (.c (.int .i64 0)) = .c (.int k l) → (q.map a.eval = none ∧ l = 0) ∨ ∃ k, q.map a.eval = some (.int k l) := by
    intro q l k hq
    cases q with
    | none => simp at hq; exact .inl ⟨rfl, hq.2.symm⟩
    | some q => simp at hq; exact .inr ⟨k, by simp [eval_c S hq]⟩
  have hopt' : ∀ (q : Option Operand) (l : Int) k, q.map (evA s) = some (.c (.int k l)) → ∃ k, q.map a.eval = some (.int k l) := by
    intro q l k hq
    cases q with
    | none => simp at hq
    | some q => simp at hq; exact ⟨k, by simp [eval_c S hq]⟩
  split at hx
  · rename_i k l str hlo heq
    have hl := hopt lo l k hlo
    split at hx
    · rename_i ht
      have hu := und_str ht
      have hrun : ∀ w' (hi' : Option Value) (m : Int), (hi' = none ∧ m = str.size ∨ ∃ k, hi' = some (.int k m)) → 0 ≤ l → l ≤ m → m ≤ str.size → (Instr.sliceAt t (.string str) (lo.map a.eval) hi' none).run P w' = .ok (.string (str.extract l.toNat m.toNat)) w' := by
        intro w' hi' m h1 h2 h3 h4
        simp [Instr.sliceAt, run_underlying hu, Instr.slice, run_bounds (P := P) false str.size str.size (lo.map a.eval) hi' l m hl h1 h2 h3 h4]
      split at hx
      · rename_i hhi
        cases hx
        refine ⟨.string (str.extract l.toNat str.size), fun w' => ?_, .c _⟩
        have h2 : hi = none := by cases hi <;> simp at hhi ⊢
        subst h2
        have := hrun w' none str.size (.inl ⟨rfl, rfl⟩) hp.1 hp.2 (by omega)
        simp only [execOp, ho, eval_c S heq]
        rw [Int.toNat_natCast] at this
        simp [this]
      · rename_i k' n hhi
        cases hx
        refine ⟨.string (str.extract l.toNat n.toNat), fun w' => ?_, .c _⟩
        have := hrun w' (hi.map a.eval) n (.inr (hopt' hi n k' hhi)) hp.1 hp.2.1 hp.2.2
        simp only [execOp, ho, eval_c S heq]
        simp [this]
      · cases hx
    · cases hx
  · rename_i k l fr k' es hlo heq
    have hl := hopt lo l k hlo
    split at hx
    · rename_i e he
      have hu : P.underlying t = some (.slice e) := by
        unfold elemOfS at he
        split at he
        · cases he; assumption
        · cases he
      split at hx
      · rename_i hc
        simp only [Bool.and_eq_true, beq_iff_eq] at hc
        have hr := S.ev' x
        rw [heq] at hr
        cases hr' : a.eval x with
        | slice q len cap =>
          rw [hr'] at hr
          have hlen : len = es.length := by cases hr <;> rfl
          have hcap : es.length ≤ cap := by
            cases hr with
            | nil => simp
            | sl0 => simp
            | sl => assumption
          have hrun : ∀ w' (hi' : Option Value) (m : Int), (hi' = none ∧ m = len ∨ ∃ k, hi' = some (.int k m)) → 0 ≤ l → l ≤ m → m ≤ len →
              (Instr.sliceAt t (.slice q len cap) (lo.map a.eval) hi' none).run P w' = .ok (.slice (if cap = l.toNat then q else q.map (·.add (l.toNat * k'))) (m.toNat - l.toNat) (cap - l.toNat)) w' := by
            intro w' hi' m h1 h2 h3 h4
            simp [Instr.sliceAt, run_underlying hu, Instr.slice, run_bounds (P := P) true len cap (lo.map a.eval) hi' l m hl h1 h2 h3 (by omega), run_sizeOf hc.1, hc.2]
          split at hx
          · rename_i hhi
            cases hx
            have h2 : hi = none := by cases hi <;> simp at hhi ⊢
            subst h2
            have h3 := rep_slice hr l.toNat es.length (by omega) (Nat.le_refl _)
            rw [List.take_length] at h3
            refine ⟨_, fun w' => ?_, h3⟩
            have := hrun w' none len (.inl ⟨rfl, rfl⟩) hp.1 (by omega) (by omega)
            simp only [execOp, ho, hr']
            rw [Int.toNat_natCast, hlen] at this
            simp [this, hlen]
          · rename_i k2 n hhi
            cases hx
            have h3 := rep_slice hr l.toNat n.toNat (by omega) (by omega)
            refine ⟨_, fun w' => ?_, h3⟩
            have := hrun w' (hi.map a.eval) n (.inr (hopt' hi n k2 hhi)) hp.1 hp.2.1 (by omega)
            simp only [execOp, ho, hr']
            simp [this]
          · cases hx
        | _ => rw [hr'] at hr; cases hr
      · cases hx
    · cases hx
  · rename_i k l b off len cap hlo heq
    have hl := hopt lo l k hlo
    split at hx
    · rename_i e he
      have hu : P.underlying t = some (.slice e) := by
        unfold elemOfS at he
        split at he
        · cases he; assumption
        · cases he
      split at hx
      · rename_i hc
        have hrun : ∀ w' (hi' : Option Value) (m : Int), (hi' = none ∧ m = len ∨ ∃ k, hi' = some (.int k m)) → 0 ≤ l → l ≤ m → m ≤ cap →
            (Instr.sliceAt t (.slice (some ⟨b, off, none⟩) len cap) (lo.map a.eval) hi' none).run P w' = .ok (.slice (some ⟨b, if cap = l.toNat then off else off + l.toNat * szOf P e, none⟩) (m.toNat - l.toNat) (cap - l.toNat)) w' := by
          intro w' hi' m h1 h2 h3 h4
          have : (if cap = l.toNat then some (⟨b, off, none⟩ : Addr) else Option.map (fun (a : Addr) => a.add (l.toNat * szOf P e)) (some ⟨b, off, none⟩)) = some (⟨b, (if cap = l.toNat then off else off + l.toNat * szOf P e), none⟩ : Addr) := by
            split <;> simp [addr_add]
          simp [Instr.sliceAt, run_underlying hu, Instr.slice, run_bounds (P := P) true len cap (lo.map a.eval) hi' l m hl h1 h2 h3 (by omega), run_sizeOf hc]
          simpa using this
        split at hx
        · rename_i hhi
          cases hx
          have h2 : hi = none := by cases hi <;> simp at hhi ⊢
          subst h2
          refine ⟨_, fun w' => ?_, .c _⟩
          have hle : (len : Int) ≤ cap := hp.2.2.elim (fun h => by omega) (fun h => fit_le S.heap h)
          have := hrun w' none len (.inl ⟨rfl, rfl⟩) hp.1 (by omega) (by omega)
          simp only [execOp, ho, eval_c S heq]
          rw [Int.toNat_natCast] at this
          simp [this]
        · rename_i k2 n hhi
          cases hx
          refine ⟨_, fun w' => ?_, .c _⟩
          have hle : n ≤ cap := hp.2.2.elim (fun h => by omega) (fun h => fit_le S.heap h)
          have := hrun w' (hi.map a.eval) n (.inr (hopt' hi n k2 hhi)) hp.1 hp.2.1 hle
          simp only [execOp, ho, eval_c S heq]
          simp [this]
        · cases hx
      · cases hx
    · cases hx
  · rename_i k l hlo heq
    have hl := hopt lo l k hlo
    split at hx
    · rename_i e he
      have hu : P.underlying t = some (.slice e) := by
        unfold elemOfS at he
        split at he
        · cases he; assumption
        · cases he
      split at hx
      · rename_i hc
        have hrun : ∀ w' (hi' : Option Value) (m : Int), (hi' = none ∧ m = (0 : Nat) ∨ ∃ k, hi' = some (.int k m)) → l = 0 → m = 0 →
            (Instr.sliceAt t (.slice none 0 0) (lo.map a.eval) hi' none).run P w' = .ok (.slice none 0 0) w' := by
          intro w' hi' m h1 h2 h3
          subst h2; subst h3
          simp [Instr.sliceAt, run_underlying hu, Instr.slice, run_bounds (P := P) true 0 0 (lo.map a.eval) hi' 0 0 hl h1 (by omega) (by omega) (by omega), run_sizeOf hc]
        split at hx
        · rename_i hhi
          cases hx
          have h2 : hi = none := by cases hi <;> simp at hhi ⊢
          subst h2
          refine ⟨_, fun w' => ?_, .c _⟩
          have := hrun w' none 0 (.inl ⟨rfl, rfl⟩) hp rfl
          simp only [execOp, ho, eval_c S heq]
          simp [this]
        · rename_i k2 n hhi
          cases hx
          refine ⟨_, fun w' => ?_, .c _⟩
          have := hrun w' (hi.map a.eval) n (.inr (hopt' hi n k2 hhi)) hp.1 hp.2
          simp only [execOp, ho, eval_c S heq]
          simp [this]
        · cases hx
      · cases hx
    · cases hx
  · cases hx

theorem calm_slice0 {t : TypeId} {x : Operand} {lo : Option Operand} {hi mx : Operand} {p : Prop} {z : AV} (ho : o.op = .slice t x lo (some hi) (some mx))
    (hx : exSlice0 P t (evA s x) ((lo.map (evA s)).getD (.c (.int .i64 0))) (evA s hi) (evA s mx) = some (p, z)) : Calm P Γ o s h z := by
  refine calm_pure fun a w S => ?_
  unfold exSlice0 at hx
  split at hx
  · rename_i k1 k2 k3 hlo hhi hmx
    have hl : lo.map a.eval = none ∨ ∃ k, lo.map a.eval = some (.int k 0) := by
      cases lo with
      | none => exact .inl rfl
      | some q => simp at hlo; exact .inr ⟨k1, by simp [eval_c S hlo]⟩
    split at hx
    · rename_i e he
      have hu : P.underlying t = some (.slice e) := by
        unfold elemOfS at he
        split at he
        · cases he; assumption
        · cases he
      split at hx
      · rename_i hc
        have hrun : ∀ (q : Option Addr) (len cap : Nat) w', (Instr.sliceAt t (.slice q len cap) (lo.map a.eval) (some (.int k2 0)) (some (.int k3 0))).run P w' = .ok (.slice q 0 0) w' := by
          intro q len cap w'
          have b1 := run_bound (P := P) k3 0 cap .slice3Acap w' (by omega) (by omega)
          have b2 := run_bound (P := P) k2 0 0 .slice3B w' (by omega) (by omega)
          rcases hl with hl | ⟨k, hl⟩
          · simp [Instr.sliceAt, run_underlying hu, Instr.slice, Instr.sliceBounds, hl, b1, b2, run_sizeOf hc]
          · have b3 := run_bound (P := P) k 0 0 .slice3C w' (by omega) (by omega)
            simp [Instr.sliceAt, run_underlying hu, Instr.slice, Instr.sliceBounds, hl, b1, b2, b3, run_sizeOf hc]
        have fin : ∀ q len cap, a.eval x = .slice q len cap → some (True, AV.mt) = some (p, z) → ∃ v, (∀ w', (execOp a.eval o).run P w' = .ok (.value v) w') ∧ RepV Γ h w v z := by
          intro q len cap hq hz
          cases hz
          refine ⟨.slice q 0 0, fun w' => ?_, ?_⟩
          · simp only [execOp, ho, hq, Option.map_some, eval_c S hhi, eval_c S hmx]
            simp [hrun]
          · cases q with
            | none => exact .mt0
            | some q => exact .mt1 q
        split at hx
        · rename_i fr k es heq
          have hr := S.ev' x
          rw [heq] at hr
          cases hr' : a.eval x with
          | slice q len cap => exact fin _ _ _ hr' hx
          | _ => rw [hr'] at hr; cases hr
        · rename_i heq; exact fin _ _ _ (eval_c S heq) hx
        · rename_i heq; exact fin _ _ _ (eval_c S heq) hx
        · cases hx
      · cases hx
    · cases hx
  · cases hx

theorem foldl_push : ∀ (ns : List Int) (s : ByteArray), ns.foldl (fun r n => r.push (UInt8.ofNat n.toNat)) s = ⟨s.data ++ (ns.map fun n => UInt8.ofNat n.toNat).toArray⟩
  | [], s => by simp
  | n :: ns, s => by
    rw [List.foldl_cons, foldl_push ns]
    simp [ByteArray.push]
theorem byteL_map : ∀ {l : List AV} {ns : List Int}, byteL l = some ns → l = ns.map fun n => .c (.int .u8 n)
  | [], ns, h => by simp [byteL] at h; subst h; rfl
  | x :: l, ns, h => by
    unfold byteL at h
    split at h
    · rename_i heq; cases heq
    · rename_i n l' heq
      cases heq
      cases hb : byteL l with
      | none => simp [hb] at h
      | some ms =>
        simp [hb] at h
        subst h
        simp [byteL_map hb]
    · cases h

/-- string(x) of bytes. -/
theorem calm_str {src dst : TypeId} {x : Operand} {e : TypeId} {p : Prop} {z : AV} (ho : o.op = .convert src dst x) (hs : P.underlying src = some (.slice e)) (hd : P.underlying dst = some .string)
    (hx : exStr P h e (evA s x) = some (p, z)) (hp : p) : Calm P Γ o s h z := by
  unfold exStr at hx
  split at hx
  · rename_i he
    have he' : P.underlying e = some (.int .u8) := by
      unfold isByteT at he
      split at he
      · assumption
      · cases he
    -- out of a view
    have fin : ∀ {a : Act} {w : World} {b off n cap : Nat} {cs : List AV} {ns : List Int}, a.eval x = .slice (some ⟨b, off, none⟩) n cap → View Γ h w b off cs → byteL cs = some ns → ns.length = n → b < w.heap.size → (b ∉ blks h ∨ b ∈ readL s (.convert src dst x)) →
        ∀ w', Sure Γ h (readL s (.convert src dst x)) w w' → (execOp a.eval o).run P w' = .ok (.value (.string (strOf ns))) w' := by
      intro a w b off n cap cs ns hev hv hb hn hbl hbo w' hsure
      obtain ⟨us, h1, h2⟩ := hv
      have hm := byteL_map hb
      have hc : ∀ j v, (ns.map (Value.int .u8))[j]? = some v → w'.cell? ((⟨b, off, none⟩ : Addr).add j) = some v := by
        intro j v hj
        rw [addr_add]
        have hjc : cs[j]? = some (.c v) := by
          rw [hm]
          simp only [List.getElem?_map] at hj ⊢
          cases hq : ns[j]? with
          | none => rw [hq] at hj; cases hj
          | some q => rw [hq] at hj; simp at hj ⊢; exact hj
        have := cell_same (hsure b hbl hbo) (h1 j _ hjc)
        rw [this, Rep.cv (h2 j _ hjc)]
      have hl := run_loadCells_list (P := P) w' ⟨b, off, none⟩ (ns.map (Value.int .u8)) hc
      rw [List.length_map, hn] at hl
      have hr := run_bytesToString (P := P) w' ⟨b, off, none⟩ n cap ns hl
      simp only [execOp, ho, hev, Sem.run_bind, run_convert_bytes_string w' src dst e _ n cap hs he' hd, hr]
      rw [foldl_push]
      simp [strOf, ByteArray.empty, ByteArray.emptyWithCapacity]
      rfl
    have nilc : ∀ {a : Act}, a.eval x = .slice none 0 0 → ∀ w', (execOp a.eval o).run P w' = .ok (.value (.string (strOf []))) w' := by
      intro a hev w'
      simp only [execOp, ho, hev, Sem.run_bind, run_convert_bytes_string w' src dst e _ 0 0 hs he' hd]
      simp [Conv.bytesToString]
      rfl
    have nilq : ∀ {a : Act} {q : Addr}, a.eval x = .slice (some q) 0 0 → ∀ w', (execOp a.eval o).run P w' = .ok (.value (.string (strOf []))) w' := by
      intro a q hev w'
      have hl := run_loadCells_list (P := P) w' q (([] : List Int).map (Value.int .u8)) (by simp)
      have hr := run_bytesToString (P := P) w' q 0 0 [] (by simpa using hl)
      simp only [execOp, ho, hev, Sem.run_bind, run_convert_bytes_string w' src dst e _ 0 0 hs he' hd, hr]
      rfl
    intro a w S
    split at hx
    · rename_i heq
      cases hx
      exact ⟨_, fun w' _ => nilc (eval_c S heq) w', .c _⟩
    · rename_i fr k es heq
      cases hb : byteL (flat es) with
      | none => simp [hb] at hx
      | some ns =>
        simp only [hb, Option.map_some, Option.some.injEq, Prod.mk.injEq] at hx
        obtain ⟨rfl, rfl⟩ := hx
        have hr := S.ev' x
        rw [heq] at hr
        cases hr' : a.eval x with
        | slice q len cap =>
          rw [hr'] at hr
          cases hr with
          | nil =>
            have : ns = [] := by simpa [flat, byteL] using hb.symm
            subst this
            exact ⟨_, fun w' _ => nilc hr' w', .c _⟩
          | sl0 fr k q =>
            have : ns = [] := by simpa [flat, byteL] using hb.symm
            subst this
            exact ⟨_, fun w' _ => nilq hr' w', .c _⟩
          | sl fr k b off cap es us hcap hmax hO hbl hfr hk hc1 hc2 =>
            refine ⟨_, fun w' hsu => fin hr' ⟨us, hc1, hc2⟩ hb hp hbl (.inl fun hm => hO (.inr hm)) w' (by have := hsu (by rw [ho]; rfl); rwa [ho] at this), .c _⟩
        | _ => rw [hr'] at hr; cases hr
    · rename_i b o' n cap heq
      split at hx
      · rename_i b' t' k cap' fr es hf
        have hbb : b' = b := (find_mem hf).2
        subst hbb
        cases hb : byteL (((flat es).drop o').take n) with
        | none => simp [hb] at hx
        | some ns =>
          simp only [hb, Option.map_some, Option.some.injEq, Prod.mk.injEq] at hx
          obtain ⟨rfl, rfl⟩ := hx
          have hv := (View.row S.heap hf).drop (n := o')
          rw [Nat.zero_add] at hv
          obtain ⟨us, g1, g2⟩ := hv
          have hv' : View Γ h w b' o' (((flat es).drop o').take n) := ⟨us, fun j y hj => g1 j y (by rw [List.getElem?_take] at hj; split at hj; exact hj; cases hj), fun j y hj => g2 j y (by rw [List.getElem?_take] at hj; split at hj; exact hj; cases hj)⟩
          exact ⟨_, fun w' hsu => fin (eval_c S heq) hv' hb hp (S.heap.lt (List.mem_map.2 ⟨_, (find_mem hf).1, rfl⟩)) (.inr (by simp [readL, heq])) w' (by have := hsu (by rw [ho]; rfl); rwa [ho] at this), .c _⟩
      · cases hx
    · cases hx
  · cases hx

theorem cvals_of {f : Operand → Value} {w : World} (hf : ∀ x v, evA s x = .c v → f x = v) : ∀ {l : List Operand} {u : List Value}, cvals (l.map (evA s)) = some u → l.map f = u
  | [], u, h => by simp [cvals] at h; exact h.symm ▸ rfl
  | x :: l, u, h => by
    simp only [List.map_cons] at h
    cases hx : evA s x with
    | c v =>
      rw [hx] at h
      simp only [cvals] at h
      cases hl : cvals (l.map (evA s)) with
      | none => simp [hl] at h
      | some u' =>
        simp [hl] at h
        subst h
        simp [hf x v hx, cvals_of (w := w) hf hl]
    | _ => rw [hx] at h; simp [cvals] at h

theorem stepC_ok {p : Prop} {z : AV} (hx : stepC P s h o.op = some (p, z)) (hp : p) : Calm P Γ o s h z := by
  unfold stepC at hx
  split at hx
  · rename_i x ho; cases hx; exact calm_move (.inl ho)
  · rename_i x ho; cases hx; exact calm_move (.inr ho)
  · rename_i c a b ho
    split at hx
    · rename_i t hc
      cases hx
      refine calm_pure fun ac w S => ⟨if t then ac.eval a else ac.eval b, fun w' => ?_, ?_⟩
      · simp only [execOp, ho, eval_c S hc]; cases t <;> simp [asBool]
      · cases t
        · exact S.ev' b
        · exact S.ev' a
    · cases hx
  · rename_i t parts ho
    cases hb : buildA P t (parts.toList.map fun p => (p.1, evA s p.2)) with
    | none => simp [hb] at hx
    | some y => simp [hb] at hx; obtain ⟨_, rfl⟩ := hx; exact calm_build ho hb
  · rename_i t x ho; exact calm_load ho hx
  · rename_i x ho
    split at hx
    · rename_i q hq
      cases hx
      exact calm_pure fun a w S => ⟨_, fun w' => by simp [execOp, ho, eval_c S hq], .c _⟩
    · rename_i cs hq
      cases hx
      refine calm_pure fun a w S => ?_
      have hr := S.ev' x
      rw [hq] at hr
      cases hr' : a.eval x with
      | pointer q =>
        rw [hr'] at hr
        have hr2 := hr
        cases hr with
        | pe b off => exact ⟨_, fun w' => by simp [execOp, ho, hr'], hr2⟩
      | _ => rw [hr'] at hr; cases hr
    · rename_i f u v hq
      cases hx
      exact calm_pure fun a w S => ⟨_, fun w' => by simp [execOp, ho, eval_c S hq], .c _⟩
    · cases hx
  · rename_i op t x y ty ho
    refine calm_pure fun a w S => ?_
    cases h1 : exBin P op t (evA s x) (evA s y) with
    | some q =>
      simp [h1] at hx
      subst hx
      have hxy : ∃ u v, evA s x = .c u ∧ evA s y = .c v := by
        cases hx1 : evA s x <;> cases hy1 : evA s y <;> rw [hx1, hy1] at h1 <;> first | exact ⟨_, _, rfl, rfl⟩ | (simp [exBin] at h1)
      obtain ⟨u, v, hu, hv⟩ := hxy
      rw [hu, hv] at h1
      obtain ⟨q', rfl, hrun⟩ := exBin_ok h1 hp w x y
      refine ⟨q', fun w' => ?_, .c _⟩
      obtain ⟨q2, hq2, hrun'⟩ := exBin_ok h1 hp w' x y
      cases hq2
      have : (execOp a.eval o) = (do pure (.value (← (do eqGuard op t x y u v; binOp op t u v : Sem Value)))) := by
        simp only [execOp, ho, eval_c S hu, eval_c S hv]
      rw [this]; simp only [Sem.run_bind, hrun', Result.andThen_ok, Sem.run_pure]
    | none =>
      simp [h1] at hx
      obtain ⟨q', rfl, hrun⟩ := exEqS_ok hx (S.ev' x) (S.ev' y) w x y
      refine ⟨q', fun w' => ?_, .c _⟩
      obtain ⟨q2, hq2, hrun'⟩ := exEqS_ok hx (S.ev' x) (S.ev' y) w' x y
      cases hq2
      have : (execOp a.eval o) = (do pure (.value (← (do eqGuard op t x y (a.eval x) (a.eval y); binOp op t (a.eval x) (a.eval y) : Sem Value)))) := by
        simp only [execOp, ho]
      rw [this]; simp only [Sem.run_bind, hrun', Result.andThen_ok, Sem.run_pure]
  · rename_i t x ho
    split at hx
    · rename_i b hb
      cases hx
      exact calm_pure fun a w S => ⟨_, fun w' => by simp [execOp, ho, eval_c S hb, Op.unary], .c _⟩
    · cases hx
  · rename_i t x ho
    split at hx
    · rename_i k n hb
      cases hx
      exact calm_pure fun a w S => ⟨_, fun w' => by simp [execOp, ho, eval_c S hb, Op.unary, Op.intArith], .c _⟩
    · cases hx
  · rename_i src dst x ho
    split at hx
    · rename_i k1 k2 k3 n h1 h2 hb
      cases hx
      exact calm_pure fun a w S => ⟨_, fun w' => by simp [execOp, ho, eval_c S hb, convert, run_underlying h1, run_underlying h2, Conv.intToInt], .c _⟩
    · rename_i e h1 h2
      exact calm_str ho h1 h2 hx hp
    · cases hx
  · rename_i fn first captured ho
    split at hx
    · rename_i u v h1 h2
      cases hx
      refine calm_pure fun a w S => ⟨_, fun w' => ?_, .c _⟩
      have e1 := cvals_of (w := w) (f := a.eval) (fun x v hv => eval_c S hv) h1
      have e2 := cvals_of (w := w) (f := a.eval) (fun x v hv => eval_c S hv) h2
      have e1' : first.map a.eval = u.toArray := Array.toList_inj.1 (by simpa using e1)
      have e2' : captured.map a.eval = v.toArray := Array.toList_inj.1 (by simpa using e2)
      simp [execOp, ho, Instr.makeFunc, e1', e2']
    · cases hx
  · rename_i t x lo hi ho; exact calm_slice ho hx hp
  · rename_i t x lo hi mx ho; exact calm_slice0 ho hx
  · rename_i t x f ho; exact calm_fieldAddr ho hx
  · rename_i t x f ho; exact calm_field ho hx hp
  · rename_i t x i ho; exact calm_indexAddr ho hx hp
  · rename_i t x i ho; exact calm_index ho hx hp
  · rename_i x i ho
    split at hx
    · rename_i vs hv
      cases hg : vs[i]? with
      | none => simp [hg] at hx
      | some y =>
        simp [hg] at hx
        obtain ⟨_, rfl⟩ := hx
        refine calm_pure fun a w S => ?_
        have hr := S.ev' x
        rw [hv] at hr
        cases hr' : a.eval x with
        | tuple us =>
          rw [hr'] at hr
          cases hr with
          | tup us vs hl hh =>
            have hlt : i < us.size := by rw [hl]; exact (List.getElem?_eq_some_iff.1 hg).1
            exact ⟨us[i], fun w' => by simp [execOp, ho, hr', Instr.extract, hlt], hh i _ _ (by simp [hlt]) hg⟩
        | _ => rw [hr'] at hr; cases hr
    · cases hx
  · rename_i c ho
    split at hx
    · rename_i x t h1 h2 h3
      obtain ⟨cal, args, tys⟩ := c
      simp only at h1 h2 h3
      subst h1
      have e2 : args = #[x] := by cases args; simp_all
      have e3 : tys = #[t] := by cases tys; simp_all
      subst e2; subst e3
      exact calm_len ho hx
    · cases hx
  · cases hx
end
end Go.Ab
