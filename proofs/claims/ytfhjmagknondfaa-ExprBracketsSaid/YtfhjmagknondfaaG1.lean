/- What a reading of plain data gives the framework: a slice, a struct, a string, an integer as abstract values. -/
import Derived.Test.YtfhjmagknondfaaA4
import Derived.Deep.Slices
import Derived.ReadAgain
import Derived.Lib.SmallJoins
import Derived.SizedLaws
import Derived.Below
import Derived.ChangeSame
import Derived.RowKit3
set_option linter.unusedVariables false
set_option linter.unusedSimpArgs false
namespace Go.Ab
open Go Go.Deep Go.ChangeShapes

theorem list_choose {α : Type} {p : Nat → α → Prop} : ∀ n, (∀ i, i < n → ∃ a, p i a) → ∃ l : List α, l.length = n ∧ ∀ (i : Nat) a, l[i]? = some a → p i a
  | 0, _ => ⟨[], rfl, fun i a h => by simp at h⟩
  | n + 1, h => by
    obtain ⟨l, h1, h2⟩ := list_choose n fun i hi => h i (by omega)
    obtain ⟨a, ha⟩ := h n (by omega)
    refine ⟨l ++ [a], by simp [h1], fun i b hb => ?_⟩
    by_cases hi : i < l.length
    · rw [List.getElem?_append_left hi] at hb; exact h2 i b hb
    · rw [List.getElem?_append_right (by omega)] at hb
      have : i = n := by
        have := (List.getElem?_eq_some_iff.1 hb).1
        simp at this; omega
      subst this
      rw [h1] at hb; simp at hb; subst hb; exact ha

theorem flat_at {k : Nat} (hk0 : 0 < k) : ∀ {es : List AV}, (∀ e ∈ es, e.cells.length = k) → ∀ {j : Nat} {a : AV}, (flat es)[j]? = some a → ∃ e, es[j / k]? = some e ∧ e.cells[j % k]? = some a
  | [], _, j, a, h => by simp [flat] at h
  | e :: es, hk, j, a, h => by
    have he := hk e List.mem_cons_self
    simp only [flat, List.flatMap_cons] at h
    by_cases hj : j < k
    · rw [List.getElem?_append_left (by omega)] at h
      exact ⟨e, by rw [Nat.div_eq_of_lt hj]; rfl, by rw [Nat.mod_eq_of_lt hj]; exact h⟩
    · rw [List.getElem?_append_right (by omega), he] at h
      obtain ⟨e', h1, h2⟩ := flat_at hk0 (fun e he => hk e (List.mem_cons_of_mem _ he)) (j := j - k) h
      have hj' : j = (j - k) + k := by omega
      have hd : j / k = (j - k) / k + 1 := by
        conv => lhs; rw [hj']
        rw [Nat.add_div_right _ hk0]
      have hm : j % k = (j - k) % k := by
        conv => lhs; rw [hj']
        rw [Nat.add_mod_right]
      exact ⟨e', by rw [hd]; simpa using h1, by rw [hm]; exact h2⟩

section
variable {H : Type} {enc : TypeId × Value → H} {P : Program} {w : World} {n0 : Nat} {O : Nat → Prop}

theorem weights_all {e : TypeId} {d : DataW H} : ∀ {l : List (DataW H)}, d ∈ l → ∀ n ∈ d.weights P e, n ∈ DataW.weightsAll P e l
  | [], h, _, _ => by cases h
  | x :: l, h, n, hn => by
    simp only [DataW.weightsAll, List.mem_append]
    rcases List.mem_cons.1 h with rfl | h
    · exact .inl hn
    · exact .inr (weights_all h n hn)

/-- At type t, cells read as one of α, told by en. -/
def OpensAs (H : Type) (enc : TypeId × Value → H) (P : Program) (w : World) (n0 : Nat) (O : Nat → Prop) (t : TypeId) (k : Nat) {α : Type} (en : α → AV) (ok : α → Prop) : Prop :=
  ∀ (fuel : Nat) (cs : List Value) (x : DataW H × List MemPlace), DataW.trod enc P w 0 (fun _ => true) true fuel t cs = some x → (∀ n ∈ x.1.weights P t, n ≤ reachBytes) →
    ∃ a : α, ok a ∧ (en a).cells.length = k ∧ cs.length = k ∧ ∀ (j : Nat) y, (en a).cells[j]? = some y → ∃ u, cs[j]? = some u ∧ Rep n0 O w u y

theorem opens_slice {t e : TypeId} {k : Nat} {α : Type} {en : α → AV} {ok : α → Prop} (ht : P.underlying t = some (.slice e)) (hk : P.cellsOf e = k) (hk0 : 0 < k) (hby : 0 < P.bytesOf e) (hO : ∀ b, ¬ O b) (he : OpensAs H enc P w n0 O e k en ok) :
    OpensAs H enc P w n0 O t 1 (fun l : List α => .sl false k (l.map en)) (fun l => l.length ≤ reachBytes ∧ ∀ a ∈ l, ok a) := by
  intro fuel cs x h hwt
  rcases open_slice ht h with ⟨rfl, _⟩ | ⟨a, len, cap, m, n, D, Pl, rfl, hb, hl, hm, hmm, rfl, hx⟩
  · refine ⟨[], ⟨by simp, by simp⟩, rfl, rfl, fun j y hj => ?_⟩
    cases j with
    | zero => simp [AV.cells] at hj; subst hj; exact ⟨_, rfl, .nil _ _⟩
    | succ j => simp [AV.cells] at hj
  simp only [if_true] at hmm
  subst hmm
  rw [hk] at hx
  simp only [DataW.weights, ht, List.mem_cons, List.mem_append] at hwt
  have hlen0 : len ≤ reachBytes := by
    have := hwt _ (.inl rfl)
    simp only [List.length_map, List.length_range] at this
    refine Nat.le_trans ?_ this
    exact Nat.le_trans (Nat.le_add_right len _) (Nat.le_mul_of_pos_right _ hby)
  by_cases h0 : m = 0
  · subst h0
    obtain rfl : len = 0 := by omega
    refine ⟨[], ⟨by simp, by simp⟩, rfl, rfl, fun j y hj => ?_⟩
    cases j with
    | zero => simp [AV.cells] at hj; subst hj; exact ⟨_, rfl, .sl0 _ _ _⟩
    | succ j => simp [AV.cells] at hj
  have hone : ∃ u, w.cell? a = some u := by
    obtain ⟨cs', h1, _⟩ := hx 0 (by omega)
    obtain ⟨_, h2, h3⟩ := World.cells?_some h1
    have := h3 0 hk0
    simp only [Nat.zero_mul] at this
    cases cs' with
    | nil => simp at h2; omega
    | cons u us => exact ⟨u, by simpa [Addr.add] using this⟩
  obtain ⟨u0, hu0⟩ := hone
  have hlt := World.block_lt_of_cell? w a hu0
  obtain ⟨b, off, sp⟩ := a
  have hsp : sp = none := by
    unfold World.cell? at hu0
    split at hu0
    · cases sp with
      | none => rfl
      | some _ => simp at hu0
    · cases hu0
  subst hsp
  obtain ⟨l, hll, hlp⟩ := list_choose (α := α) (p := fun i a => ok a ∧ (en a).cells.length = k ∧ ∀ (j : Nat) y, (en a).cells[j]? = some y → ∃ u, w.cell? ⟨b, off + (i * k + j), none⟩ = some u ∧ Rep n0 O w u y) len (fun i hi => by
    obtain ⟨cs', h1, h2⟩ := hx i (by omega)
    obtain ⟨_, h3, h4⟩ := World.cells?_some h1
    obtain ⟨a, g1, g2, g3, g4⟩ := he _ _ _ h2 (fun n hn => hwt n (.inr (.inl (weights_all (List.mem_map.2 ⟨i, List.mem_range.2 hi, rfl⟩) n hn))))
    refine ⟨a, g1, g2, fun j y hj => ?_⟩
    obtain ⟨u, g5, g6⟩ := g4 j y hj
    refine ⟨u, ?_, g6⟩
    have hjk : j < k := by rw [← g2]; exact (List.getElem?_eq_some_iff.1 hj).1
    have := h4 j hjk
    rw [addr_add, addr_add] at this
    rw [← Nat.add_assoc, this]; exact g5)
  have hmem : ∀ a ∈ l, ok a ∧ (en a).cells.length = k := fun a ha => by
    obtain ⟨i, hi⟩ := List.getElem?_of_mem ha
    exact ⟨(hlp i a hi).1, (hlp i a hi).2.1⟩
  refine ⟨l, ⟨by omega, fun a ha => (hmem a ha).1⟩, rfl, rfl, fun j y hj => ?_⟩
  cases j with
  | succ j => simp [AV.cells] at hj
  | zero =>
    simp [AV.cells] at hj; subst hj
    refine ⟨_, rfl, ?_⟩
    have hke : ∀ e ∈ l.map en, e.cells.length = k := fun e he => by
      obtain ⟨a, ha, rfl⟩ := List.mem_map.1 he
      exact (hmem a ha).2
    have key : ∀ (j : Nat) y, (flat (l.map en))[j]? = some y → ∃ u, w.cell? ⟨b, off + j, none⟩ = some u ∧ Rep n0 O w u y := fun j y hj => by
      obtain ⟨e, h1, h2⟩ := flat_at hk0 hke hj
      rw [List.getElem?_map] at h1
      cases hl2 : l[j / k]? with
      | none => rw [hl2] at h1; cases h1
      | some a =>
        rw [hl2] at h1; simp at h1; subst h1
        obtain ⟨u, g1, g2⟩ := (hlp _ a hl2).2.2 _ y h2
        have hj2 : j / k * k + j % k = j := by rw [Nat.mul_comm]; exact Nat.div_add_mod j k
        rw [hj2] at g1
        exact ⟨u, g1, g2⟩
    have hlen : (l.map en).length = len := by simp [hll]
    rw [← hlen]
    refine .sl false k b off m (l.map en) (fun j => (w.cell? ⟨b, off + j, none⟩).getD (.bool false)) (by omega) hm (hO b) hlt (by simp) hke (fun j y hj => ?_) (fun j y hj => ?_)
    · obtain ⟨u, g1, _⟩ := key j y hj
      simp [g1]
    · obtain ⟨u, g1, g2⟩ := key j y hj
      simp [g1]; exact g2

theorem opens_string {t : TypeId} (ht : P.underlying t = some .string) : OpensAs H enc P w n0 O t 1 (fun s : ByteArray => .c (.string s)) (fun s => s.size ≤ reachBytes) := by
  intro fuel cs x h hwt
  obtain ⟨s, rfl, rfl, _⟩ := DataW.trod_string ht h
  refine ⟨s, by have := hwt s.data.toList.length (by simp [DataW.weights]); simpa using this, rfl, rfl, fun j y hj => ?_⟩
  cases j with
  | zero => simp [AV.cells] at hj; subst hj; exact ⟨_, rfl, .c _⟩
  | succ j => simp [AV.cells] at hj
end
end Go.Ab

set_option linter.unusedVariables false
set_option linter.unusedSimpArgs false
namespace Go.Ab
open Go Go.ChangeShapes Go.RowKit

theorem Ext.below {w w' : World} (h : Ext (· ∈ blks []) w w') : Below w.heap.size w w' :=
  ⟨h.os, h.tape, h.output, h.size, fun k hk => h.block k hk (by simp [blks])⟩

theorem CallsA.calls {P : Program} {f : FuncId} {fn : Func} {c : Code} {xs : List AV} {R : AV → List It → Prop} (hf : P.funcs[f]? = some fn) (hb : fn.body = some c) (hn : fn.name ≠ "runtime.NumGoroutine")
    (hc : CallsA P f xs [] R) (w : World) (vs : Array Value) (hl : vs.toList.length = xs.length)
    (hv : ∀ (i : Nat) v a, vs.toList[i]? = some v → xs[i]? = some a → Rep w.heap.size (fun _ => False) w v a) :
    Calls P f vs w fun e w' => ∃ v, e = .returned v ∧ Below w.heap.size w w' ∧ ∃ r h' O, R r h' ∧ Rep w.heap.size O w' v r := by
  have H : Heap ⟨fun _ => False, (· ∈ blks []), w, w.heap.size⟩ [] w :=
    ⟨by simp [blks], fun it hit => by simp at hit, Ext.refl _ _, fun b hb => by simp [blks] at hb, fun b hb => hb.elim, Nat.le_refl _⟩
  have L : RepL ⟨fun _ => False, (· ∈ blks []), w, w.heap.size⟩ [] w vs.toList xs :=
    ⟨hl, fun i v a h1 h2 => Rep.mono (fun b _ hx => by rcases hx with hx | hx; exact hx; simp [blks] at hx) (Nat.le_refl _) (fun _ _ _ _ h => h) (hv i v a h1 h2)⟩
  have hcall : (callFunc f vs).run P w = .ok (.enter f vs) w := by
    simp [callFunc, run_program, hf, hn, hb]
  have := hc (fun _ => False) w w.heap.size vs H L
  rw [hcall] at this
  simp only [CallRes] at this
  refine this.mono fun e w' ⟨v, he, r, h', hR, H', hr⟩ => ⟨v, he, H'.ext.below, r, h', _, hR, hr⟩

section
variable {Hd : Type} {enc : TypeId × Value → Hd} {P : Program}

/-- As the kit's post_of_same, where only what was there before need be as it was. -/
theorem post_of_below {f : Func} {s : ChangeSpec} {apart fresh handsOn again : Bool} {W W' : World} {args : Array Value} {v : Value} {ds gs : List (DataW Hd)} {before pa pv : List MemPlace}
    (hW : DataW.Whole enc P f.params.toList s.vars apart W args.toList ds gs before)
    (hres : ∀ (b : Nat) (sp : Nat → Bool) (hd : Bool), DataW.TrodAll enc P W' b sp hd f.resultTypes.toList (v.resultList f.resultTypes.size) (s.fn Hd (ds ++ gs)).results [])
    (hargs : ∀ sp : Nat → Bool, (∀ p ∈ before, sp p.block = true) → DataW.TrodAll enc P W' 0 sp true f.params.toList args.toList (s.fn Hd (ds ++ gs)).args pa)
    (hvars : ∀ sp : Nat → Bool, (∀ p ∈ before, sp p.block = true) → DataW.TrodVars enc P W' sp s.vars (s.fn Hd (ds ++ gs)).vars pv)
    (hps : before = pa ++ pv) (hB : Below W.heap.size W W')
    (hok : ∀ (j : Nat) (t : TypeId) (r : Value), f.resultTypes[j]? = some t → (v.resultList f.resultTypes.size)[j]? = some r → Value.okWide P W' .any 0 t r) :
    s.post enc P f apart fresh handsOn again W args v W' := by
  have hold : ∀ p ∈ before, (fun b => decide (b < W.heap.size)) p.block = true := fun p hp => by simpa using hW.lt p hp
  have hlt : ∀ p ∈ before, p.block < W.heap.size := fun p hp => hW.lt p hp
  refine ⟨ds, gs, before, [], pa, pv, hW, hres _ _ _, hargs _ hold, hvars _ hold, World.keptBut_mono (fun p hp => ⟨hp, ?_⟩) (hB.frame (· ∈ before)), fun _ => ?_⟩
  · rw [hps, List.mem_append] at hp
    exact Or.inr hp
  · obtain ⟨_, _, _, _, _, hz, hn⟩ := hW
    refine ⟨hok, _, _, ([] ++ pa) ++ pv, ⟨[] ++ pa, pv, trodAll_append (hargs _ (fun _ _ => rfl)) (hres _ _ _), hvars _ (fun _ _ => rfl), rfl, ?_, ?_⟩, ?_⟩
    · intro b off hp
      have hb : MemPlace.cell b off ∈ before := by rw [hps]; simpa using hp
      have : W'.frozen? ⟨b, off, none⟩ = W.frozen? ⟨b, off, none⟩ := by
        unfold World.frozen?
        rw [hB.block b (hlt _ hb)]
      rw [this]
      exact hz b off hb
    · intro ha
      have := hn ha
      rw [hps] at this
      simpa using this
    · intro p hp _
      rw [hps]
      simpa using hp
end
end Go.Ab
