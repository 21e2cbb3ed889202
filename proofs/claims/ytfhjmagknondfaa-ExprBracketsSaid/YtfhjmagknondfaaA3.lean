/- Operations that act on memory. -/
import Derived.Test.YtfhjmagknondfaaA2
set_option linter.unusedVariables false
set_option linter.unusedSimpArgs false
namespace Go.Ab
section
variable {P : Program} {Γ : Ctx} {o : Oper} {s : List AV} {h : List It}

theorem heap_new (w : World) (ob : Obj) : (w.alloc ob).heap[w.heap.size]? = some ob := heap_alloc_new w ob

/-- A new variable. -/
theorem act_new {t : TypeId} {cs : List AV} {K : List Nat → AV → List It → Prop}
    (hrun : ∀ a w, Sim Γ ⟨s, h⟩ a w → ∃ c : Array Value, (execOp a.eval o).run P w = .ok (.value (.pointer (some ⟨w.heap.size, 0, none⟩))) (w.alloc (.cells c t)) ∧ RepL Γ h w c.toList cs)
    (hK : ∀ b, b ∉ blks h → K [] (.c (.pointer (some ⟨b, 0, none⟩))) (.obj b t cs :: h)) : OpOK P Γ o s h K := by
  refine OpOK.of_run fun a w S => ?_
  obtain ⟨c, hr, hl⟩ := hrun a w S
  have hs := Same.alloc w (.cells c t)
  have hb : w.heap.size ∉ blks h := fun hm => by have := S.heap.lt hm; simp at this
  refine ⟨_, _, [], _, _, hr, hK _ hb, ?_, .c _, fun u y hu => RepV.add hs (Nat.le_refl _) hu, .of_same hs⟩
  refine Heap.add S.heap hs (Nat.le_refl _) ⟨c, heap_new w _, by simpa using hl.1, fun j x hj => ?_⟩
  have hlt : j < c.size := by have := hl.1; have := (List.getElem?_eq_some_iff.1 hj).1; simp at *; omega
  exact ⟨c[j], by simp [hlt], RepV.add hs (Nat.le_refl _) (hl.2 j _ x (by simp [hlt]) hj)⟩

theorem act_alloc {t : TypeId} {z : Value} (ho : o.op = .alloc t) (hz : zeroOf P t = some z) {K : List Nat → AV → List It → Prop}
    (hK : ∀ b, b ∉ blks h → K [] (.c (.pointer (some ⟨b, 0, none⟩))) (.obj b t (AV.c z).cells :: h)) : OpOK P Γ o s h K := by
  refine act_new (fun a w S => ⟨z.cells, ?_, RepL.of_cells⟩) hK
  unfold zeroOf at hz
  cases hi : P.info? t with
  | none => simp [hi] at hz
  | some i =>
    simp [hi] at hz
    simp [execOp, ho, Instr.alloc, zeroValue, typeInfo, hi, hz, newVar, newRow]

theorem act_box {t : TypeId} {x : Operand} (ho : o.op = .box t x) (hx : (evA s x).okB = true) {K : List Nat → AV → List It → Prop}
    (hK : ∀ b, b ∉ blks h → K [] (.c (.pointer (some ⟨b, 0, none⟩))) (.obj b t (evA s x).cells :: h)) : OpOK P Γ o s h K := by
  refine act_new (fun a w S => ⟨(a.eval x).cells, ?_, ?_⟩) hK
  · simp [execOp, ho, Instr.box, newVar, newRow]
  · obtain ⟨h1, h2⟩ := rep_cells (S.ev' x) hx
    exact ⟨by simpa using h1, fun i v y hv hy => h2 i v y (by simpa using hv) hy⟩

def AV.one : AV → Bool
  | .c v => v.oneCell'
  | .sl _ _ _ => true
  | .pe _ => true
  | _ => false
theorem one_of {n0 : Nat} {O : Nat → Prop} {w : World} {v : Value} {x : AV} (hr : Rep n0 O w v x) (hx : x.one = true) : v.oneCell' = true := by
  cases hr <;> simp [AV.one] at hx <;> first | exact hx | rfl

/-- A store into an owned variable. -/
theorem act_store {t : TypeId} {ad x : Operand} {b off : Nat} {t' : TypeId} {cs : List AV} (ho : o.op = .store t ad x) (had : evA s ad = .c (.pointer (some ⟨b, off, none⟩)))
    (hf : find b h = some (.obj b t' cs)) (ht : hasT P t = true) (hx : (evA s x).okB = true) (hsz : (evA s x).cells.length = szOf P t) (hfit : off + szOf P t ≤ cs.length) (h1 : (evA s x).cells.all AV.one = true)
    {K : List Nat → AV → List It → Prop} (hK : K [b] (.c undef) (repl b (.obj b t' (cs.take off ++ (evA s x).cells ++ cs.drop (off + szOf P t))) h)) : OpOK P Γ o s h K := by
  refine OpOK.of_skip fun a w S => ?_
  obtain ⟨c, hc1, hc2, hc3⟩ := S.heap.sat _ (find_mem hf).1
  obtain ⟨hl, hr⟩ := rep_cells (S.ev' x) hx
  have hsz' : (a.eval x).cells.size = szOf P t := hl.trans hsz
  have hrun : (Instr.storeAt t (.pointer (some ⟨b, off, none⟩)) (a.eval x)).run P w = .ok () (w.setRow b (c.toList.take off ++ (a.eval x).cells.toList ++ c.toList.drop (off + szOf P t)).toArray) := by
    have := run_storeCells_at P b off t' (a.eval x).cells.toList 0 c w hc1 (by simp; omega) (fun v hv => by
      obtain ⟨i, hi⟩ := List.getElem?_of_mem hv
      have hlt : i < (evA s x).cells.length := by have := (List.getElem?_eq_some_iff.1 hi).1; simp at this; omega
      refine one_of (hr i v _ (by simpa using hi) (List.getElem?_eq_getElem hlt)) ?_
      exact List.all_eq_true.1 h1 _ (List.getElem_mem hlt))
    simp only [Nat.add_zero, Array.length_toList, hsz'] at this
    unfold Instr.storeAt storeVar
    simp [Instr.sureAddr, run_sizeOf ht, hsz', this]
  have hturn : Turn b b w (w.setRow b (c.toList.take off ++ (a.eval x).cells.toList ++ c.toList.drop (off + szOf P t)).toArray) :=
    ⟨rfl, rfl, rfl, by simp, fun y _ hy => setRow_other w b y _ (by omega), .inl rfl⟩
  refine ⟨_, [b], _, ?_, hK, ?_, fun u y hu => RepV.turn (it' := .obj b t' _) S.heap hf hturn hu, .of_turn hf hturn⟩
  · simp [execOp, ho, eval_c S had, hrun]
  · refine Heap.turn S.heap hf hturn ⟨_, setRow_heap w b c _ t' _ hc1, by simp [hsz, hsz', hc2], fun j y hj => ?_⟩
    have hcl : c.size = cs.length := hc2
    have : RepL Γ h w (c.toList.take off ++ (a.eval x).cells.toList ++ c.toList.drop (off + szOf P t)) (cs.take off ++ (evA s x).cells ++ cs.drop (off + szOf P t)) := by
      have hcc : RepL Γ h w c.toList cs := ⟨by simpa using hcl, fun i v y hv hy => by
        obtain ⟨u, hu, hr⟩ := hc3 i y hy
        simp at hv
        rw [hv] at hu; cases hu; exact hr⟩
      refine RepL.append (RepL.append ⟨by simp [hcl], fun i v y hv hy => ?_⟩ ⟨by simpa using hl, fun i v y hv hy => hr i v y (by simpa using hv) hy⟩) ⟨by simp [hcl], fun i v y hv hy => ?_⟩
      · rw [List.getElem?_take] at hv hy
        split at hv
        · rename_i hlt; rw [if_pos hlt] at hy; exact hcc.2 i v y hv hy
        · cases hv
      · rw [List.getElem?_drop] at hv hy
        exact hcc.2 _ v y hv hy
    have hlt : j < (c.toList.take off ++ (a.eval x).cells.toList ++ c.toList.drop (off + szOf P t)).length := by rw [this.1]; exact (List.getElem?_eq_some_iff.1 hj).1
    refine ⟨(c.toList.take off ++ (a.eval x).cells.toList ++ c.toList.drop (off + szOf P t))[j], by rw [List.getElem?_toArray]; exact List.getElem?_eq_getElem hlt, ?_⟩
    exact RepV.turn (it' := .obj b t' _) S.heap hf hturn (this.2 j _ y (List.getElem?_eq_getElem hlt) hj)

def bytesOf (P : Program) (t : TypeId) : Nat := ((P.info? t).map (·.bytes)).getD 0
/-- What append needs of the element type. -/
def elemOK (P : Program) (e : TypeId) : Bool := match P.info? e with
  | some i => (match i.zero with | some z => z.cells.size == i.size | none => false) && decide (0 < i.size) && decide (0 < i.bytes)
  | none => false

theorem flat_append (xs ys : List AV) : flat (xs ++ ys) = flat xs ++ flat ys := by simp [flat]

theorem elem_of {e : TypeId} (he : elemOK P e = true) : ∃ i z, P.info? e = some i ∧ i.zero = some z ∧ z.cells.size = i.size ∧ 0 < i.size ∧ 0 < i.bytes ∧ bytesOf P e = i.bytes ∧ szOf P e = i.size := by
  unfold elemOK at he
  split at he
  · rename_i i hi
    simp only [Bool.and_eq_true, decide_eq_true_eq] at he
    obtain ⟨⟨hz, hs⟩, hby⟩ := he
    split at hz
    · rename_i z hz'
      simp only [beq_iff_eq] at hz
      exact ⟨i, z, hi, hz', hz, hs, hby, by simp [bytesOf, hi], by simp [szOf, hi]⟩
    · cases hz
  · cases he

/-- What append leaves: a block, its cells. -/
def Left (w w' : World) (b b' : Nat) (e : TypeId) (k n cap' : Nat) (xs : List Value) : Prop :=
  Turn b b' w w' ∧ ∃ cur : Array Value, w'.heap[b']? = some (.cells cur e (0, 0)) ∧ cur.size = cap' * k ∧ n ≤ cap' ∧ cap' ≤ maxLen ∧ cur.toList.take (n * k) = xs

theorem append_row {w : World} {t ty e : TypeId} (ht : P.underlying t = some (.slice e)) (he : elemOK P e = true) {b n k cap : Nat} (hk : k = szOf P e) {c : Array Value} (hc : w.heap[b]? = some (.cells c e (0, 0)))
    (hcs : c.size = cap * k) (hn : n ≤ cap) (hcm : cap ≤ maxLen) {ad : Addr} {m c' : Nat} {news : List Value} (hl : news.length = m * k) (hnews : ∀ (j : Nat) u, news[j]? = some u → w.cell? (ad.add j) = some u)
    (h1 : ∀ u ∈ news, u.oneCell' = true) (hb : (n + m) * bytesOf P e ≤ 140737488355328) :
    ∃ b' cap' w', (Builtin.append_ #[t, t] ty #[.slice (some ⟨b, 0, none⟩) n cap, .slice (some ad) m c']).run P w = .ok (.slice (some ⟨b', 0, none⟩) (n + m) cap') w' ∧
      Left w w' b b' e k (n + m) cap' (c.toList.take (n * k) ++ news) := by
  obtain ⟨i, z, hi, hz, hzs, hs, hby, hbe, hse⟩ := elem_of he
  have hki : k = i.size := hk.trans hse
  subst hki
  have hle : n + m ≤ maxLen := by
    have : (n + m) * 1 ≤ (n + m) * i.bytes := Nat.mul_le_mul_left _ hby
    rw [hbe] at hb
    unfold maxLen; omega
  have hnk : n * i.size ≤ cap * i.size := Nat.mul_le_mul_right _ hn
  have hold : (c.toList.take (n * i.size)).length = n * i.size := by rw [List.length_take, show c.toList.length = c.size from Array.length_toList, hcs]; exact Nat.min_eq_left hnk
  by_cases hroom : n + m ≤ cap
  · have hfit : n * i.size + news.length ≤ c.size := by rw [hl, hcs, ← Nat.add_mul]; exact Nat.mul_le_mul_right _ hroom
    have hr := run_append_room (P := P) w t ty e i ht hi b n cap c hc ad m c' news hl hnews h1 hroom hfit
    refine ⟨b, cap, _, hr, ⟨rfl, rfl, rfl, by simp, fun q _ hq => setRow_other w b q _ (by omega), .inl rfl⟩, _, setRow_heap w b c _ e _ hc, ?_, hroom, hcm, ?_⟩
    · simp only [List.size_toArray, List.length_append, List.length_take, List.length_drop, Array.length_toList]
      omega
    · have : (n + m) * i.size = (c.toList.take (n * i.size) ++ news).length := by rw [List.length_append, hold, hl, Nat.add_mul]
      rw [this]
      exact List.take_left
  · have holds : ∀ (j : Nat) u, (c.toList.take (n * i.size))[j]? = some u → w.cell? ((⟨b, 0, none⟩ : Addr).add j) = some u := by
      intro j u hu
      rw [addr_add, Nat.zero_add, cell_of_row w b j c e (0, 0) hc]
      rw [List.getElem?_take] at hu
      split at hu
      · simpa using hu
      · cases hu
    rw [hbe] at hb
    have hr := run_append_grow (P := P) w t ty e i z ht hi hz ⟨b, 0, none⟩ n cap _ hold holds ad m c' news hl hnews (by omega) (by unfold maxLen at hle; omega) (growslice_fits (by omega) hb)
    have hge := grownCap_ge w (n + m) cap e
    have hgm := grownCap_le_maxLen w (n + m) cap e hle
    refine ⟨w.heap.size, _, _, hr, ⟨rfl, rfl, rfl, by simp, fun q hq _ => Go.RowKit.Below.heap_alloc w.drew _ q hq, .inr (Nat.le_refl _)⟩, _, heap_alloc_new w.drew _, ?_, hge, hgm, ?_⟩
    · simp only [Array.size_append, List.size_toArray, size_zeroCells, hzs, hold, hl, ← Nat.add_mul]
      congr 1
      omega
    · simp only [Array.toList_append, List.append_assoc]
      have : (n + m) * i.size = (c.toList.take (n * i.size) ++ news).length := by rw [List.length_append, hold, hl, Nat.add_mul]
      rw [← List.append_assoc, this]
      exact List.take_left

theorem append_nil {q : Option Addr} {w : World} {t ty e : TypeId} (ht : P.underlying t = some (.slice e)) (he : elemOK P e = true) {k : Nat} (hk : k = szOf P e) {ad : Addr} {m c' : Nat} {news : List Value} (hl : news.length = m * k)
    (hnews : ∀ (j : Nat) u, news[j]? = some u → w.cell? (ad.add j) = some u) (hb : m * bytesOf P e ≤ 140737488355328) (h0 : 0 < m) :
    ∃ cap' w', (Builtin.append_ #[t, t] ty #[.slice q 0 0, .slice (some ad) m c']).run P w = .ok (.slice (some ⟨w.heap.size, 0, none⟩) m cap') w' ∧ Same w w' ∧
      ∃ cur : Array Value, w'.heap[w.heap.size]? = some (.cells cur e (0, 0)) ∧ cur.size = cap' * k ∧ m ≤ cap' ∧ cap' ≤ maxLen ∧ cur.toList.take (m * k) = news := by
  obtain ⟨i, z, hi, hz, hzs, hs, hby, hbe, hse⟩ := elem_of he
  have hki : k = i.size := hk.trans hse
  subst hki
  rw [hbe] at hb
  have hle : m ≤ maxLen := by
    have : m * 1 ≤ m * i.bytes := Nat.mul_le_mul_left _ hby
    unfold maxLen; omega
  have hr : ∃ k', (Builtin.append_ #[t, t] ty #[.slice q 0 0, .slice (some ad) m c']).run P w = .ok (.slice (some ⟨w.heap.size, 0, none⟩) m (grownCap w m 0 e)) (w.drew.alloc (.cells (news.toArray ++ Builtin.zeroCells z.cells k') e)) ∧ k' = grownCap w m 0 e - m := by
    refine ⟨_, ?_, rfl⟩
    cases q with
    | none =>
      have := run_append_nil (P := P) w t ty e i z ht hi hz ad m c' news hl hnews h0 (by unfold maxLen at hle; omega) (by omega)
      rw [this]
    | some q =>
      have := run_append_grow (P := P) w t ty e i z ht hi hz q 0 0 [] (by simp) (fun j u hu => by simp at hu) ad m c' news hl hnews (by omega) (by unfold maxLen at hle; omega) (growslice_fits (by omega) (by simpa using hb))
      simpa using this
  obtain ⟨k', hr, rfl⟩ := hr
  refine ⟨_, _, hr, (Same.drew w).trans (Same.alloc _ _), _, heap_alloc_new w.drew _, ?_, grownCap_ge w m 0 e, grownCap_le_maxLen w m 0 e hle, ?_⟩
  · have := grownCap_ge w m 0 e
    simp only [Array.size_append, List.size_toArray, size_zeroCells, hzs, hl, ← Nat.add_mul]
    congr 1
    omega
  · rw [← hl]
    simp

theorem left_sat {w' : World} {b' : Nat} {e : TypeId} {k n cap' : Nat} {xs : List Value} {es : List AV} {n0 : Nat} {O : Nat → Prop} {fr : Bool} {cur : Array Value} (h1 : w'.heap[b']? = some (.cells cur e (0, 0))) (h2 : cur.size = cap' * k)
    (h3 : n ≤ cap') (h4 : cap' ≤ maxLen) (h5 : cur.toList.take (n * k) = xs) (hn : n = es.length) (hk : ∀ x ∈ es, x.cells.length = k) (hfr : fr = true → n0 ≤ b')
    (hr : xs.length = (flat es).length ∧ ∀ (i : Nat) v a, xs[i]? = some v → (flat es)[i]? = some a → Rep n0 O w' v a) : It.sat n0 O w' (.row b' e k cap' fr es) := by
  refine ⟨cur, h1, h2, by omega, h4, hfr, hk, fun j a hj => ?_⟩
  have hlt : j < xs.length := by rw [hr.1]; exact (List.getElem?_eq_some_iff.1 hj).1
  refine ⟨xs[j], ?_, hr.2 j _ a (List.getElem?_eq_getElem hlt) hj⟩
  have : (cur.toList.take (n * k))[j]? = some xs[j] := by rw [h5]; exact List.getElem?_eq_getElem hlt
  rw [List.getElem?_take] at this
  split at this
  · simpa using this
  · cases this

theorem view_owned {w : World} {b off : Nat} {cs : List AV} (hv : View Γ h w b off cs) : ∃ us : List Value, RepL Γ h w us cs ∧ ∀ (j : Nat) u, us[j]? = some u → w.cell? ((⟨b, off, none⟩ : Addr).add j) = some u := by
  obtain ⟨us, h1, h2⟩ := hv
  refine ⟨(List.range cs.length).map us, ⟨by simp, fun i v a hu ha => ?_⟩, fun j u hu => ?_⟩
  · have hlt : i < cs.length := (List.getElem?_eq_some_iff.1 ha).1
    simp [hlt] at hu
    subst hu
    exact h2 i a ha
  · have hlt : j < cs.length := by have := (List.getElem?_eq_some_iff.1 hu).1; simpa using this
    simp [hlt] at hu
    subst hu
    rw [addr_add]
    exact h1 j _ (List.getElem?_eq_getElem hlt)

/-- What is appended: a row's elements, as the machine reads them. -/
inductive Src (h : List It) (k : Nat) : AV → List AV → Prop where
  | nil : Src h k (.c (.slice none 0 0)) []
  | row {b : Nat} {t : TypeId} {cap cap' : Nat} {fr : Bool} {es : List AV} (hf : find b h = some (.row b t k cap fr es)) {off o n : Nat} (ho : o = off * k ∨ n = 0) (hn : off + n ≤ es.length) : Src h k (.c (.slice (some ⟨b, o, none⟩) n cap')) ((es.drop off).take n)
  | mt : Src h k .mt []
  | sl {fr : Bool} {es : List AV} : Src h k (.sl fr k es) es

theorem src_view {w : World} {k : Nat} {x : AV} {es : List AV} (H : Heap Γ h w) (hs : Src h k x es) {v : Value} (hv : RepV Γ h w v x) :
    (∃ q c, v = .slice q 0 c ∧ es = []) ∨ ∃ b off cap, v = .slice (some ⟨b, off, none⟩) es.length cap ∧ View Γ h w b off (flat es) ∧ ∀ e ∈ es, e.cells.length = k := by
  cases hs with
  | nil => exact .inl ⟨_, _, Rep.cv hv, rfl⟩
  | mt =>
    cases hv with
    | mt0 => exact .inl ⟨_, _, rfl, rfl⟩
    | mt1 q => exact .inl ⟨_, _, rfl, rfl⟩
  | row hf ho hn =>
    rename_i b t cap cap' fr es' off o n
    by_cases h0 : n = 0
    · subst h0; exact .inl ⟨_, _, Rep.cv hv, by simp⟩
    right
    have ho' : o = off * k := ho.resolve_right h0
    obtain ⟨_, _, _, _, _, _, h5, _⟩ := H.sat _ (find_mem hf).1
    have hlen : ((es'.drop off).take n).length = n := by simp; omega
    refine ⟨b, o, cap', by rw [hlen]; exact Rep.cv hv, ?_, fun e he => h5 e (List.mem_of_mem_drop (List.mem_of_mem_take he))⟩
    have h1 := (View.row H hf).drop (n := off * k)
    rw [Nat.zero_add, ← ho'] at h1
    obtain ⟨us, g1, g2⟩ := h1
    have hfl : flat ((es'.drop off).take n) = ((flat es').drop o).take (n * k) := by
      rw [flat_take (fun e he => h5 e (List.mem_of_mem_drop he)) n (by simp; omega), flat_drop h5 off (by omega), ho']
    rw [hfl]
    exact ⟨us, fun j y hj => g1 j y (by rw [List.getElem?_take] at hj; split at hj; exact hj; cases hj), fun j y hj => g2 j y (by rw [List.getElem?_take] at hj; split at hj; exact hj; cases hj)⟩
  | sl =>
    cases hv with
    | nil => exact .inl ⟨_, _, rfl, rfl⟩
    | sl0 => exact .inl ⟨_, _, rfl, rfl⟩
    | sl fr k b off cap es us hcap hmax hO hb hfr hk hc1 hc2 => exact .inr ⟨b, off, cap, rfl, ⟨us, hc1, hc2⟩, hk⟩

theorem src_cells {w : World} {k : Nat} {x : AV} {es : List AV} (H : Heap Γ h w) (hs : Src h k x es) {v : Value} (hv : RepV Γ h w v x) (h1 : es.all (fun e => e.cells.all AV.one) = true) :
    (∃ q c, v = .slice q 0 c ∧ es = []) ∨ ∃ (ad : Addr) (cap : Nat) (us : List Value), v = .slice (some ad) es.length cap ∧ (∀ e ∈ es, e.cells.length = k) ∧ RepL Γ h w us (flat es) ∧
      (∀ (j : Nat) u, us[j]? = some u → w.cell? (ad.add j) = some u) ∧ (∀ u ∈ us, u.oneCell' = true) := by
  rcases src_view H hs hv with h2 | ⟨b, off, cap, hv', hview, hk⟩
  · exact .inl h2
  · right
    obtain ⟨us, hl, hc⟩ := view_owned hview
    refine ⟨_, cap, us, hv', hk, hl, hc, fun u hu => ?_⟩
    obtain ⟨i, hi⟩ := List.getElem?_of_mem hu
    have hlt : i < (flat es).length := by rw [← hl.1]; exact (List.getElem?_eq_some_iff.1 hi).1
    refine one_of (hl.2 i u _ hi (List.getElem?_eq_getElem hlt)) ?_
    have hm : (flat es)[i] ∈ flat es := List.getElem_mem hlt
    simp only [flat, List.mem_flatMap] at hm
    obtain ⟨e, he, hee⟩ := hm
    exact List.all_eq_true.1 (List.all_eq_true.1 h1 e he) _ hee

theorem resolve_append {a : Act} {ty : TypeId} {x y : Operand} {t : TypeId} (ho : o.op = .call { callee := .builtin .append, args := #[x, y], argTypes := #[t, t] }) {v : Value} {w w' : World}
    (hr : (Builtin.append_ #[t, t] o.type #[a.eval x, a.eval y]).run P w = .ok v w') : (execOp a.eval o).run P w = .ok (.value v) w' := by
  simp [execOp, ho, resolve, invoke, builtin, hr]

theorem und_slice {t e : TypeId} (ht : elemOfS P t = some e) : P.underlying t = some (.slice e) := by
  unfold elemOfS at ht
  split at ht
  · cases ht; assumption
  · cases ht

/-- append, to a row that is owned. -/
theorem act_append {t e : TypeId} {x y : Operand} {b k cap n : Nat} {fr : Bool} {es ys : List AV} (ho : o.op = .call { callee := .builtin .append, args := #[x, y], argTypes := #[t, t] })
    (ht : elemOfS P t = some e) (he : elemOK P e = true) (hk : k = szOf P e) (hx : evA s x = .c (.slice (some ⟨b, 0, none⟩) n cap)) (hf : find b h = some (.row b e k cap fr es)) (hn : n ≤ es.length)
    (hy : Src h k (evA s y) ys) (h1 : ys.all (fun e => e.cells.all AV.one) = true) (hb : (n + ys.length) * bytesOf P e ≤ 140737488355328)
    {K : List Nat → AV → List It → Prop}
    (hK : ∀ b' cap', b' ∉ blks (del b h) → K [b] (.c (.slice (some ⟨b', 0, none⟩) (es.take n ++ ys).length cap')) (repl b (.row b' e k cap' fr (es.take n ++ ys)) h)) : OpOK P Γ o s h K := by
  have hu := und_slice ht
  refine OpOK.of_run fun a w S => ?_
  have hex := eval_c S hx
  obtain ⟨c, hc, hcs, hle, hcm, hfr, hkx, hrep0⟩ := S.heap.sat _ (find_mem hf).1
  have htl : (es.take n).length = n := by simp; omega
  have hxs : RepL Γ h w (c.toList.take (n * k)) (flat (es.take n)) := by
    have hfl := flat_length (fun e he => hkx e (List.mem_of_mem_take he) : ∀ e ∈ es.take n, e.cells.length = k)
    rw [htl] at hfl
    have hnk : n * k ≤ cap * k := Nat.mul_le_mul_right _ (by omega)
    refine ⟨by rw [List.length_take, show c.toList.length = c.size from Array.length_toList, hcs, hfl]; exact Nat.min_eq_left hnk, fun i v a hv ha => ?_⟩
    rw [flat_take hkx n hn, List.getElem?_take] at ha
    rw [List.getElem?_take] at hv
    split at hv
    · rename_i hi
      rw [if_pos hi] at ha
      obtain ⟨u, hu, hr⟩ := hrep0 i a ha
      simp at hv; rw [hv] at hu; cases hu; exact hr
    · cases hv
  have hlen : (es.take n ++ ys).length = n + ys.length := by rw [List.length_append, htl]
  -- what is appended, as a list at an address
  have key : ∀ (ad : Addr) (c' : Nat) (us : List Value), a.eval y = .slice (some ad) ys.length c' → (∀ e ∈ ys, e.cells.length = k) → RepL Γ h w us (flat ys) →
      (∀ (j : Nat) u, us[j]? = some u → w.cell? (ad.add j) = some u) → (∀ u ∈ us, u.oneCell' = true) →
      ∃ v w' pure x' h', (execOp a.eval o).run P w = .ok (.value v) w' ∧ K pure x' h' ∧ Heap Γ h' w' ∧ RepV Γ h' w' v x' ∧ (∀ u y, RepV Γ h w u y → RepV Γ h' w' u y) ∧ Kep Γ h pure w w' := by
    intro ad c' us hey hky hus hcell hone
    obtain ⟨g, cap', w', hr, hturn, cur, hcur, hcs', hle', hmx, htk⟩ := append_row (P := P) (ty := o.type) (t := t) hu he hk hc hcs (Nat.le_trans hn hle) hcm (ad := ad) (m := ys.length) (c' := c') (news := us) (by rw [hus.1, flat_length hky]) hcell hone hb
    have hnin : g ∉ blks (del b h) := by
      intro hm
      obtain ⟨z, hz, hze⟩ := List.mem_map.1 hm
      obtain ⟨g1, g2⟩ := del_blk S.heap.nd hz
      rcases hturn.lies with h3 | h3
      · exact g2 (hze.trans h3)
      · have := It.sat_lt (S.heap.sat z g1); omega
    have hrep : RepL Γ (repl b (.row g e k cap' fr (es.take n ++ ys)) h) w' (c.toList.take (n * k) ++ us) (flat (es.take n ++ ys)) := by
      rw [flat_append]
      have h3 := RepL.append hxs hus
      exact ⟨h3.1, fun i v a hv ha => RepV.turn (it' := .row g e k cap' fr (es.take n ++ ys)) S.heap hf hturn (h3.2 i v a hv ha)⟩
    refine ⟨_, w', [b], _, _, resolve_append (ty := o.type) ho (by rw [hex, hey]; exact hr), hK g cap' hnin, ?_, ?_, fun u y hu => RepV.turn (it' := .row g e k cap' fr (es.take n ++ ys)) S.heap hf hturn hu, .of_turn hf hturn⟩
    · refine Heap.turn (it' := .row g e k cap' fr (es.take n ++ ys)) S.heap hf hturn (left_sat hcur hcs' hle' hmx htk hlen.symm (fun z hz => ?_) (fun hq => ?_) ⟨hrep.1, hrep.2⟩)
      · rcases List.mem_append.1 hz with hz | hz
        · exact hkx z (List.mem_of_mem_take hz)
        · exact hky z hz
      · rcases hturn.lies with h3 | h3
        · rw [h3]; exact hfr hq
        · exact Nat.le_trans S.heap.base (Nat.le_trans S.heap.ext.size h3)
    · rw [hlen]; exact .c _
  rcases src_cells S.heap hy (S.ev' y) h1 with ⟨q, c', hey, hys⟩ | ⟨ad, c', us, hey, hky, hus, hcell, hone⟩
  · -- nothing is appended
    subst hys
    have hr : (Builtin.append_ #[t, t] o.type #[a.eval x, a.eval y]).run P w = .ok (.slice (some ⟨b, 0, none⟩) n cap) w := by
      obtain ⟨i, z, hi, _⟩ := elem_of he
      rw [hex, hey]
      have hnc : n ≤ cap := Nat.le_trans hn hle
      cases q with
      | none => simp [Builtin.append_, run_underlying hu, sizeOf, typeInfo, hi, Builtin.lenOf, hnc, Builtin.firstCells, storeCells]
      | some q => simp [Builtin.append_, run_underlying hu, sizeOf, typeInfo, hi, Builtin.lenOf, hnc, Builtin.firstCells, storeCells, loadCells, loadCellsFrom]
    have hk2 := hK b cap (fun hm => by
      obtain ⟨z, hz, hze⟩ := List.mem_map.1 hm
      exact (del_blk S.heap.nd hz).2 hze)
    rw [List.append_nil] at hk2
    have hturn : Turn b b w w := ⟨rfl, rfl, rfl, Nat.le_refl _, fun _ _ _ => rfl, .inl rfl⟩
    refine ⟨_, w, [b], _, _, resolve_append (ty := o.type) ho hr, hk2, ?_, by rw [htl]; exact .c _, fun u y hu => RepV.turn (it' := .row b e k cap fr (es.take n)) S.heap hf hturn hu, .of_turn (it := .row b e k cap fr es) hf hturn⟩
    refine Heap.turn (it' := .row b e k cap fr (es.take n)) S.heap hf hturn ⟨c, hc, hcs, by omega, hcm, hfr, fun z hz => hkx z (List.mem_of_mem_take hz), fun j y hj => ?_⟩
    rw [flat_take hkx n hn, List.getElem?_take] at hj
    split at hj
    · obtain ⟨u, hu, hr⟩ := hrep0 j y hj
      exact ⟨u, hu, RepV.turn (it' := .row b e k cap fr (es.take n)) S.heap hf hturn hr⟩
    · cases hj
  · exact key ad c' us hey hky hus hcell hone

/-- append, to nil. -/
theorem act_append_nil {t e : TypeId} {x y : Operand} {k : Nat} {ys : List AV} (ho : o.op = .call { callee := .builtin .append, args := #[x, y], argTypes := #[t, t] })
    (ht : elemOfS P t = some e) (he : elemOK P e = true) (hk : k = szOf P e) (hx : evA s x = .c (.slice none 0 0) ∨ evA s x = .mt)
    (hy : Src h k (evA s y) ys) (h1 : ys.all (fun e => e.cells.all AV.one) = true) (hb : ys.length * bytesOf P e ≤ 140737488355328)
    {K : List Nat → AV → List It → Prop}
    (hK0 : ys = [] → K [] (evA s x) h)
    (hK : ys ≠ [] → ∀ b' cap', b' ∉ blks h → K [] (.c (.slice (some ⟨b', 0, none⟩) ys.length cap')) (.row b' e k cap' true ys :: h)) : OpOK P Γ o s h K := by
  have hu := und_slice ht
  refine OpOK.of_run fun a w S => ?_
  obtain ⟨q0, hex, hrx⟩ : ∃ q0, a.eval x = .slice q0 0 0 ∧ RepV Γ h w (a.eval x) (evA s x) := by
    rcases hx with hx | hx
    · exact ⟨none, eval_c S hx, S.ev' x⟩
    · have hr := S.ev' x
      have hr2 := hr
      rw [hx] at hr
      cases hr' : a.eval x with
      | slice q n c =>
        rw [hr'] at hr
        cases hr with
        | mt0 => exact ⟨none, rfl, hr' ▸ hr2⟩
        | mt1 q => exact ⟨some q, rfl, hr' ▸ hr2⟩
      | _ => rw [hr'] at hr; cases hr
  have nothing : ∀ q c', a.eval y = .slice q 0 c' → ys = [] → ∃ v w' pure x' h', (execOp a.eval o).run P w = .ok (.value v) w' ∧ K pure x' h' ∧ Heap Γ h' w' ∧ RepV Γ h' w' v x' ∧ (∀ u y, RepV Γ h w u y → RepV Γ h' w' u y) ∧ Kep Γ h pure w w' := by
    intro q c' hey hys
    have hr : (Builtin.append_ #[t, t] o.type #[a.eval x, a.eval y]).run P w = .ok (a.eval x) w := by
      obtain ⟨i, z, hi, _⟩ := elem_of he
      rw [hex, hey]
      cases q <;> cases q0 <;> simp [Builtin.append_, run_underlying hu, sizeOf, typeInfo, hi, Builtin.lenOf, Builtin.firstCells, loadCells, loadCellsFrom, storeCells]
    exact ⟨_, w, [], _, _, resolve_append (ty := o.type) ho hr, hK0 hys, S.heap, hrx, fun _ _ h => h, .of_same (Same.refl w)⟩
  rcases src_cells S.heap hy (S.ev' y) h1 with ⟨q, c', hey, hys⟩ | ⟨ad, c', us, hey, hky, hus, hcell, hone⟩
  · exact nothing q c' hey hys
  · by_cases hys : ys = []
    · subst hys
      exact nothing (some ad) c' (by simpa using hey) rfl
    · have h0 : 0 < ys.length := List.length_pos_iff.2 hys
      obtain ⟨cap', w', hr, hs, cur, hcur, hcs', hle', hmx, htk⟩ := append_nil (P := P) (w := w) (q := q0) (ty := o.type) (t := t) hu he hk (ad := ad) (m := ys.length) (c' := c') (news := us) (by rw [hus.1, flat_length hky]) hcell hb h0
      have hb' : w.heap.size ∉ blks h := fun hm => by have := S.heap.lt hm; simp at this
      have hrep : RepL Γ (.row w.heap.size e k cap' true ys :: h) w' us (flat ys) := ⟨hus.1, fun i v a hv ha => RepV.add hs (Nat.le_refl _) (hus.2 i v a hv ha)⟩
      refine ⟨_, w', [], _, _, resolve_append (ty := o.type) ho (by rw [hex, hey]; exact hr), hK hys w.heap.size cap' hb', ?_, .c _, fun u y hu => RepV.add hs (Nat.le_refl _) hu, .of_same hs⟩
      exact Heap.add S.heap hs (Nat.le_refl _) (left_sat hcur hcs' hle' hmx htk rfl hky (fun _ => Nat.le_trans S.heap.base S.heap.ext.size) hrep)

/-- A store into an element of an owned row. -/
theorem act_storeRow {t : TypeId} {ad x : Operand} {b off : Nat} {e : TypeId} {k cap : Nat} {fr : Bool} {es es' : List AV} (ho : o.op = .store t ad x) (had : evA s ad = .c (.pointer (some ⟨b, off, none⟩)))
    (hf : find b h = some (.row b e k cap fr es)) (ht : hasT P t = true) (hx : (evA s x).okB = true) (hsz : (evA s x).cells.length = szOf P t) (hfit : off + szOf P t ≤ (flat es).length) (h1 : (evA s x).cells.all AV.one = true)
    (hl : es'.length = es.length) (hkx' : ∀ z ∈ es', z.cells.length = k) (hfl : flat es' = (flat es).take off ++ (evA s x).cells ++ (flat es).drop (off + szOf P t))
    {K : List Nat → AV → List It → Prop} (hK : K [b] (.c undef) (repl b (.row b e k cap fr es') h)) : OpOK P Γ o s h K := by
  refine OpOK.of_skip fun a w S => ?_
  obtain ⟨c, hc1, hc2, hle, hcm, hfr, hkx, hc3⟩ := S.heap.sat _ (find_mem hf).1
  obtain ⟨hln, hr⟩ := rep_cells (S.ev' x) hx
  have hsz' : (a.eval x).cells.size = szOf P t := hln.trans hsz
  have hflen := flat_length hkx
  have hcsz : (flat es).length ≤ c.size := by rw [hflen, hc2]; exact Nat.mul_le_mul_right _ hle
  have hrun : (Instr.storeAt t (.pointer (some ⟨b, off, none⟩)) (a.eval x)).run P w = .ok () (w.setRow b (c.toList.take off ++ (a.eval x).cells.toList ++ c.toList.drop (off + szOf P t)).toArray) := by
    have := run_storeCells_at P b off e (a.eval x).cells.toList 0 c w hc1 (by simp; omega) (fun v hv => by
      obtain ⟨i, hi⟩ := List.getElem?_of_mem hv
      have hlt : i < (evA s x).cells.length := by have := (List.getElem?_eq_some_iff.1 hi).1; simp at this; omega
      refine one_of (hr i v _ (by simpa using hi) (List.getElem?_eq_getElem hlt)) ?_
      exact List.all_eq_true.1 h1 _ (List.getElem_mem hlt))
    simp only [Nat.add_zero, Array.length_toList, hsz'] at this
    unfold Instr.storeAt storeVar
    simp [Instr.sureAddr, run_sizeOf ht, hsz', this]
  have hturn : Turn b b w (w.setRow b (c.toList.take off ++ (a.eval x).cells.toList ++ c.toList.drop (off + szOf P t)).toArray) :=
    ⟨rfl, rfl, rfl, by simp, fun y _ hy => setRow_other w b y _ (by omega), .inl rfl⟩
  refine ⟨_, [b], _, ?_, hK, ?_, fun u y hu => RepV.turn (it' := .row b e k cap fr es') S.heap hf hturn hu, .of_turn (it := .row b e k cap fr es) hf hturn⟩
  · simp [execOp, ho, eval_c S had, hrun]
  · refine Heap.turn (it' := .row b e k cap fr es') S.heap hf hturn ⟨_, setRow_heap w b c _ e _ hc1, by simp [hsz']; omega, by omega, hcm, hfr, hkx', fun j y hj => ?_⟩
    rw [hfl] at hj
    have hcc : RepL Γ h w (c.toList.take (flat es).length) (flat es) := ⟨by simp; omega, fun i v y hv hy => by
      obtain ⟨u, hu, hr⟩ := hc3 i y hy
      rw [List.getElem?_take] at hv
      split at hv
      · simp at hv
        rw [hv] at hu
        cases hu
        exact hr
      · cases hv⟩
    have hxx : RepL Γ h w (a.eval x).cells.toList (evA s x).cells := ⟨by simpa using hln, fun i v y hv hy => hr i v y (by simpa using hv) hy⟩
    have htk : RepL Γ h w (c.toList.take off) ((flat es).take off) := ⟨by simp; omega, fun i v y hv hy => by
      rw [List.getElem?_take] at hv hy
      split at hv
      · rename_i hi
        rw [if_pos hi] at hy
        refine hcc.2 i v y ?_ hy
        rw [List.getElem?_take, if_pos (List.getElem?_eq_some_iff.1 hy).1]
        exact hv
      · cases hv⟩
    by_cases g1 : j < off
    · rw [List.append_assoc, List.getElem?_append_left (by simp; omega)] at hj
      have hlt : j < (c.toList.take off).length := by simp; omega
      refine ⟨c.getD j undef, ?_, ?_⟩
      · simp only [List.getElem?_toArray]
        rw [List.append_assoc, List.getElem?_append_left hlt, List.getElem?_take, if_pos g1]
        have : j < c.size := by omega
        simp [this]
      · refine RepV.turn (it' := .row b e k cap fr es') S.heap hf hturn (htk.2 j _ y ?_ hj)
        rw [List.getElem?_take, if_pos g1]
        have : j < c.size := by omega
        simp [this]
    · by_cases g2 : j < off + szOf P t
      · have e1 : ((flat es).take off).length = off := by simp; omega
        rw [List.append_assoc, List.getElem?_append_right (by omega), e1, List.getElem?_append_left (by omega)] at hj
        have hlt : j - off < (a.eval x).cells.size := by omega
        refine ⟨(a.eval x).cells[j - off], ?_, RepV.turn (it' := .row b e k cap fr es') S.heap hf hturn (hxx.2 (j - off) _ y (by simp [hlt]) hj)⟩
        simp only [List.getElem?_toArray]
        have e2 : (c.toList.take off).length = off := by simp; omega
        rw [List.append_assoc, List.getElem?_append_right (by omega), e2, List.getElem?_append_left (by simpa using hlt)]
        simp [hlt]
      · have e1 : ((flat es).take off ++ (evA s x).cells).length = off + szOf P t := by simp [hsz]; omega
        rw [List.getElem?_append_right (by omega), e1, List.getElem?_drop] at hj
        have e3 : off + szOf P t + (j - (off + szOf P t)) = j := by omega
        rw [e3] at hj
        obtain ⟨u, hu, hru⟩ := hc3 j y hj
        refine ⟨u, ?_, RepV.turn (it' := .row b e k cap fr es') S.heap hf hturn hru⟩
        simp only [List.getElem?_toArray]
        have e2 : (c.toList.take off ++ (a.eval x).cells.toList).length = off + szOf P t := by simp [hsz']; omega
        rw [List.getElem?_append_right (by omega), e2, List.getElem?_drop, e3]
        simpa using hu

theorem flat_set {k : Nat} {es : List AV} {i : Nat} {y : AV} (hk : ∀ e ∈ es, e.cells.length = k) (hi : i < es.length) : flat (es.set i y) = (flat es).take (i * k) ++ y.cells ++ (flat es).drop ((i + 1) * k) := by
  have h1 : es.set i y = es.take i ++ y :: es.drop (i + 1) := by rw [List.set_eq_take_append_cons_drop, if_pos hi]
  rw [h1, flat_append, ← flat_take hk i (by omega)]
  have h2 : flat (y :: es.drop (i + 1)) = y.cells ++ flat (es.drop (i + 1)) := by simp [flat]
  rw [h2, flat_drop hk (i + 1) (by omega), List.append_assoc]

theorem set_k {k : Nat} {es : List AV} {i : Nat} {y : AV} (hk : ∀ e ∈ es, e.cells.length = k) (hy : y.cells.length = k) : ∀ z ∈ es.set i y, z.cells.length = k := fun z hz => by
  rcases List.mem_or_eq_of_mem_set hz with h | h
  · exact hk z h
  · rw [h]; exact hy

theorem act_storeElem {t : TypeId} {ad x : Operand} {b off : Nat} {e : TypeId} {k cap : Nat} {fr : Bool} {es : List AV} (ho : o.op = .store t ad x) (had : evA s ad = .c (.pointer (some ⟨b, off, none⟩)))
    (hf : find b h = some (.row b e k cap fr es)) (ht : hasT P t = true) (hx : (evA s x).okB = true) (hsz : (evA s x).cells.length = szOf P t) (h1 : (evA s x).cells.all AV.one = true) (h0 : 0 < k)
    (hq : off % k = 0 ∧ szOf P t = k) (hlt : off / k < es.length)
    {K : List Nat → AV → List It → Prop} (hK : K [b] (.c undef) (repl b (.row b e k cap fr (es.set (off / k) (evA s x))) h)) : OpOK P Γ o s h K := by
  intro a w S K' Q
  obtain ⟨c, _, _, _, _, _, hkx, _⟩ := S.heap.sat _ (find_mem hf).1
  have hoff : off = (off / k) * k := by have := Nat.div_add_mod off k; rw [Nat.mul_comm] at this; omega
  have hfl := flat_length hkx
  have hle : (off / k + 1) * k ≤ es.length * k := Nat.mul_le_mul_right _ hlt
  have hs : off + szOf P t = (off / k + 1) * k := by rw [hq.2, Nat.add_mul, Nat.one_mul, ← hoff]
  refine act_storeRow ho had hf ht hx hsz (by rw [hs, hfl]; exact hle) h1 (by simp) (set_k hkx (hsz.trans hq.2)) ?_ hK a w S K' Q
  rw [flat_set hkx hlt, hs, ← hoff]

theorem AV.cells_agg (cs : List AV) : (AV.agg cs).cells = cs := rfl
theorem act_storePart {t : TypeId} {ad x : Operand} {b off : Nat} {e : TypeId} {k cap : Nat} {fr : Bool} {es : List AV} (ho : o.op = .store t ad x) (had : evA s ad = .c (.pointer (some ⟨b, off, none⟩)))
    (hf : find b h = some (.row b e k cap fr es)) (ht : hasT P t = true) (hx : (evA s x).okB = true) (hsz : (evA s x).cells.length = szOf P t) (h1 : (evA s x).cells.all AV.one = true) (h0 : 0 < k)
    (hlt : off / k < es.length) (hj : off % k + szOf P t ≤ k)
    {K : List Nat → AV → List It → Prop} (hK : K [b] (.c undef) (repl b (.row b e k cap fr (es.set (off / k) (.agg (((es.getD (off / k) .bad).cells.take (off % k)) ++ (evA s x).cells ++ ((es.getD (off / k) .bad).cells.drop (off % k + szOf P t)))))) h)) : OpOK P Γ o s h K := by
  intro a w S K' Q
  obtain ⟨c, _, _, _, _, _, hkx, _⟩ := S.heap.sat _ (find_mem hf).1
  have hoff : off = (off / k) * k + off % k := by have := Nat.div_add_mod off k; rw [Nat.mul_comm] at this; omega
  have hfl := flat_length hkx
  have hle : (off / k + 1) * k ≤ es.length * k := Nat.mul_le_mul_right _ hlt
  have hik : (off / k + 1) * k = (off / k) * k + k := by rw [Nat.add_mul, Nat.one_mul]
  have hei : es.getD (off / k) .bad ∈ es := by rw [list_getD hlt]; exact List.getElem_mem hlt
  have hek := hkx _ hei
  have hcells : (es.getD (off / k) .bad).cells = ((flat es).drop (off / k * k)).take k := by
    have h2 : es = es.take (off / k) ++ es.getD (off / k) .bad :: es.drop (off / k + 1) := by
      rw [list_getD hlt, List.getElem_cons_drop, List.take_append_drop]
    have h3 : flat es = flat (es.take (off / k)) ++ ((es.getD (off / k) .bad).cells ++ flat (es.drop (off / k + 1))) := by
      conv => lhs; rw [h2]
      rw [flat_append]; simp [flat]
    have h4 : (flat (es.take (off / k))).length = off / k * k := by
      rw [flat_length (fun e he => hkx e (List.mem_of_mem_take he) : ∀ e ∈ es.take (off / k), e.cells.length = k)]
      rw [List.length_take, Nat.min_eq_left (by omega)]
    rw [h3, ← h4, List.drop_left, List.take_append_of_le_length (by omega), List.take_of_length_le (by omega)]
  have hlen : (flat es).length = es.length * k := hfl
  refine act_storeRow ho had hf ht hx hsz (by omega) h1 (by simp) (set_k hkx ?_) ?_ hK a w S K' Q
  · simp only [AV.cells_agg, List.length_append, List.length_take, List.length_drop, hek, hsz]
    omega
  · rw [flat_set hkx hlt]
    rw [AV.cells_agg, hcells]
    apply List.ext_getElem?
    intro j
    have e1 : ((flat es).take (off / k * k)).length = off / k * k := by rw [List.length_take]; omega
    have e2 : ((((flat es).drop (off / k * k)).take k).take (off % k)).length = off % k := by simp only [List.length_take, List.length_drop]; omega
    have e3 : ((flat es).take off).length = off := by rw [List.length_take]; omega
    by_cases g1 : j < off / k * k
    · rw [List.append_assoc, List.getElem?_append_left (by omega), List.append_assoc, List.getElem?_append_left (by omega)]
      simp only [List.getElem?_take]
      rw [if_pos g1, if_pos (by omega)]
    · by_cases g2 : j < off
      · rw [List.append_assoc, List.getElem?_append_right (by omega), e1, List.append_assoc, List.append_assoc, List.getElem?_append_left (by omega), List.append_assoc, List.getElem?_append_left (by omega)]
        simp only [List.getElem?_take, List.getElem?_drop]
        rw [if_pos (by omega), if_pos (by omega), if_pos g2]
        congr 1; omega
      · by_cases g3 : j < off + szOf P t
        · rw [List.append_assoc, List.getElem?_append_right (by omega), e1, List.append_assoc, List.append_assoc, List.getElem?_append_right (by omega), e2, List.getElem?_append_left (by omega), List.append_assoc, List.getElem?_append_right (by omega), e3, List.getElem?_append_left (by omega)]
          congr 1; omega
        · have e4 : ((flat es).take off ++ (evA s x).cells).length = off + szOf P t := by rw [List.length_append, e3, hsz]
          conv => rhs; rw [List.getElem?_append_right (by omega), e4, List.getElem?_drop]
          by_cases g4 : j < (off / k + 1) * k
          · rw [List.append_assoc, List.getElem?_append_right (by omega), e1, List.append_assoc, List.append_assoc, List.getElem?_append_right (by omega), e2, List.getElem?_append_right (by omega), hsz, List.getElem?_append_left (by simp only [List.length_drop, List.length_take]; omega)]
            simp only [List.getElem?_take, List.getElem?_drop]
            rw [if_pos (by omega)]
            congr 1; omega
          · have e5 : ((flat es).take (off / k * k) ++ ((((flat es).drop (off / k * k)).take k).take (off % k) ++ (evA s x).cells ++ (((flat es).drop (off / k * k)).take k).drop (off % k + szOf P t))).length = (off / k + 1) * k := by
              simp only [List.length_append, List.length_take, List.length_drop, hsz]; omega
            rw [List.getElem?_append_right (by omega), e5, List.getElem?_drop]
            congr 1; omega
end
end Go.Ab

set_option linter.unusedVariables false
set_option linter.unusedSimpArgs false
namespace Go.Ab

def CallRes (P : Program) (R : Value → World → Prop) : Result Next → Prop
  | .ok (.value v) w => R v w
  | .ok (.enter f args) w => Calls P f args w fun e w' => ∃ v, e = .returned v ∧ R v w'
  | .ok (.row row args) w => Rows P row args w R
  | _ => False

/-- The contract of a function: called with what reads as xs, owning h, it returns what R tells. -/
def CallsA (P : Program) (f : FuncId) (xs : List AV) (h : List It) (R : AV → List It → Prop) : Prop :=
  ∀ (X : Nat → Prop) (w : World) (n0 : Nat) (vs : Array Value), Heap ⟨X, (· ∈ blks h), w, n0⟩ h w → RepL ⟨X, (· ∈ blks h), w, n0⟩ h w vs.toList xs →
    CallRes P (fun v w' => ∃ r h', R r h' ∧ Heap ⟨X, (· ∈ blks h), w, n0⟩ h' w' ∧ RepV ⟨X, (· ∈ blks h), w, n0⟩ h' w' v r) ((callFunc f vs).run P w)

theorem CallRes.mono {P : Program} {R R' : Value → World → Prop} {r : Result Next} (hr : ∀ v w, R v w → R' v w) (h : CallRes P R r) : CallRes P R' r := by
  cases r with
  | ok n w =>
    cases n <;> simp only [CallRes] at h ⊢ <;> first | exact h | skip
    · exact hr _ _ h
    · exact h.mono fun e w' ⟨v, he, h⟩ => ⟨v, he, hr _ _ h⟩
    · exact h.mono fun v w' h => hr _ _ h
  | halt x w => exact h

theorem CallsA.mono {P : Program} {f : FuncId} {xs : List AV} {h : List It} {R R' : AV → List It → Prop} (hc : CallsA P f xs h R) (hr : ∀ r h', R r h' → R' r h') : CallsA P f xs h R' :=
  fun X w n0 vs H L => (hc X w n0 vs H L).mono fun v w' ⟨r, h', h1, h2, h3⟩ => ⟨r, h', hr _ _ h1, h2, h3⟩

/-- What is known may be told otherwise. -/
def Conv (Γ : Ctx) (h : List It) (xs : List AV) (h' : List It) (xs' : List AV) : Prop :=
  ∀ (w : World) (vs : List Value), Heap Γ h w → RepL Γ h w vs xs → Heap Γ h' w ∧ RepL Γ h' w vs xs' ∧ ∀ u y, RepV Γ h w u y → RepV Γ h' w u y

theorem Conv.refl {Γ : Ctx} {h : List It} {xs : List AV} : Conv Γ h xs h xs := fun w vs H L => ⟨H, L, fun _ _ h => h⟩
theorem Conv.trans {Γ : Ctx} {h h' h'' : List It} {xs xs' xs'' : List AV} (c : Conv Γ h xs h' xs') (c' : Conv Γ h' xs' h'' xs'') : Conv Γ h xs h'' xs'' := fun w vs H L =>
  let ⟨H1, L1, S1⟩ := c w vs H L
  let ⟨H2, L2, S2⟩ := c' w vs H1 L1
  ⟨H2, L2, fun u y hr => S2 u y (S1 u y hr)⟩
theorem RepL.imp {Γ Γ' : Ctx} {h h' : List It} {w w' : World} {vs : List Value} {xs : List AV} (L : RepL Γ h w vs xs) (hi : ∀ u y, RepV Γ h w u y → RepV Γ' h' w' u y) : RepL Γ' h' w' vs xs :=
  ⟨L.1, fun i v a hv ha => hi _ _ (L.2 i v a hv ha)⟩
theorem Conv.drop {Γ : Ctx} {h h' : List It} {xs : List AV} (hs : h'.Sublist h) : Conv Γ h xs h' xs := fun w vs H L =>
  ⟨H.drop hs, L.imp (fun u y hr => RepV.drop hs hr), fun u y hr => RepV.drop hs hr⟩

theorem RepV.perm {Γ : Ctx} {h h' : List It} {w : World} (hp : h'.Perm h) {u : Value} {y : AV} (hr : RepV Γ h w u y) : RepV Γ h' w u y :=
  Rep.mono (fun b hb hx => hx.imp id (fun hx => ((hp.map It.blk).mem_iff).1 hx)) (Nat.le_refl _) (fun _ _ _ _ h => h) hr
theorem Heap.perm {Γ : Ctx} {h h' : List It} {w : World} (H : Heap Γ h w) (hp : h'.Perm h) : Heap Γ h' w :=
  ⟨((hp.map It.blk).nodup_iff).2 H.nd, fun it hit => It.sat_of (H.sat it (hp.mem_iff.1 hit)) rfl (Nat.le_refl _) (fun _ _ hr => RepV.perm hp hr), H.ext, fun b hb => H.new b (((hp.map It.blk).mem_iff).1 hb), H.xs, H.base⟩
theorem Conv.perm {Γ : Ctx} {h h' : List It} {xs : List AV} (hp : h'.Perm h) : Conv Γ h xs h' xs := fun w vs H L =>
  ⟨H.perm hp, L.imp (fun u y hr => RepV.perm hp hr), fun u y hr => RepV.perm hp hr⟩

section
variable {P : Program} {Γ : Ctx} {o : Oper} {s : List AV} {h : List It}

theorem call_frame {f : FuncId} {xs : List AV} {h1 hr : List It} {R : AV → List It → Prop} (hc : CallsA P f xs h1 R) {w : World} {vs : Array Value} (H : Heap Γ (h1 ++ hr) w) (L : RepL Γ (h1 ++ hr) w vs.toList xs) :
    CallRes P (fun v w' => ∃ r h', R r h' ∧ Heap Γ (h' ++ hr) w' ∧ RepV Γ (h' ++ hr) w' v r ∧ (∀ u y, RepV Γ (h1 ++ hr) w u y → RepV Γ (h' ++ hr) w' u y) ∧ Ext (· ∈ blks h1) w w') ((callFunc f vs).run P w) := by
  have hblk : ∀ {h' : List It} {b}, b ∈ blks (h' ++ hr) ↔ b ∈ blks h' ∨ b ∈ blks hr := by simp [blks]
  have hnd' : (blks h1).Nodup ∧ (blks hr).Nodup ∧ ∀ b ∈ blks h1, b ∉ blks hr := by
    have : (blks h1 ++ blks hr).Nodup := by simpa [blks] using H.nd
    obtain ⟨g1, g2, g3⟩ := List.nodup_append.1 this
    exact ⟨g1, g2, fun b hb hb' => g3 b hb b hb' rfl⟩
  have hown : ∀ h' b, Owns ⟨fun b => Γ.X b ∨ b ∈ blks hr, (· ∈ blks h1), w, Γ.n0⟩ h' b ↔ Owns Γ (h' ++ hr) b := by
    intro h' b
    simp only [Owns, hblk]
    constructor
    · rintro ((h | h) | h)
      · exact .inl h
      · exact .inr (.inr h)
      · exact .inr (.inl h)
    · rintro (h | h | h)
      · exact .inl (.inl h)
      · exact .inr h
      · exact .inl (.inr h)
  have conv : ∀ {h' : List It} {w' : World} {u : Value} {y : AV}, RepV ⟨fun b => Γ.X b ∨ b ∈ blks hr, (· ∈ blks h1), w, Γ.n0⟩ h' w' u y ↔ RepV Γ (h' ++ hr) w' u y := fun {h' w' u y} =>
    ⟨fun hr' => Rep.mono (fun b _ hx => (hown h' b).2 hx) (Nat.le_refl _) (fun _ _ _ _ h => h) hr', fun hr' => Rep.mono (fun b _ hx => (hown h' b).1 hx) (Nat.le_refl _) (fun _ _ _ _ h => h) hr'⟩
  have H1 : Heap ⟨fun b => Γ.X b ∨ b ∈ blks hr, (· ∈ blks h1), w, Γ.n0⟩ h1 w := by
    refine ⟨hnd'.1, fun it hit => It.sat_of (H.sat it (List.mem_append_left _ hit)) rfl (Nat.le_refl _) (fun _ _ hr => conv.2 hr), Ext.refl _ _, fun b hb => .inl hb, fun b hb => ?_, Nat.le_trans H.base H.ext.size⟩
    rcases hb with hb | hb
    · exact ⟨Nat.lt_of_lt_of_le (H.xs b hb).1 H.ext.size, fun hm => H.x_not (hblk.2 (.inl hm)) hb⟩
    · exact ⟨H.lt (hblk.2 (.inr hb)), fun hm => hnd'.2.2 b hm hb⟩
  refine (hc _ w Γ.n0 vs H1 (L.imp fun u y hr => conv.2 hr)).mono fun v w' ⟨r, h', hR, H', hv⟩ => ?_
  have hext : Ext (· ∈ blks h1) w w' := H'.ext
  have hnew : ∀ b ∈ blks h', b ∈ blks h1 ∨ w.heap.size ≤ b := H'.new
  have keep : ∀ u y, RepV Γ (h1 ++ hr) w u y → RepV Γ (h' ++ hr) w' u y := fun u y hr => by
    refine hext.rep (fun b _ hb => .inr (hblk.2 (.inl hb))) (fun b hb hx => ?_) hr
    rcases hx with hx | hx
    · exact .inl hx
    · rcases hblk.1 hx with hx | hx
      · rcases hnew b hx with h3 | h3
        · exact .inr (hblk.2 (.inl h3))
        · omega
      · exact .inr (hblk.2 (.inr hx))
  refine ⟨r, h', hR, ⟨?_, fun it hit => ?_, H.ext.trans hext (fun b hb hx => ?_), fun b hb => ?_, H.xs, H.base⟩, conv.1 hv, keep, hext⟩
  · have : (blks h' ++ blks hr).Nodup := List.nodup_append.2 ⟨H'.nd, hnd'.2.1, fun b hb b' hb' he => by
      subst he
      rcases hnew b hb with h3 | h3
      · exact hnd'.2.2 b h3 hb'
      · have := H.lt (hblk.2 (.inr hb')); omega⟩
    simpa [blks] using this
  · rcases List.mem_append.1 hit with hit | hit
    · exact It.sat_of (H'.sat it hit) rfl (Nat.le_refl _) (fun _ _ hr => conv.1 hr)
    · have hs := H.sat it (List.mem_append_right _ hit)
      have hm : it.blk ∈ blks hr := List.mem_map.2 ⟨it, hit, rfl⟩
      exact It.sat_of hs (hext.block _ (It.sat_lt hs) (fun hx => hnd'.2.2 _ hx hm)) (Nat.le_refl _) keep
  · rcases H.new b (hblk.2 (.inl hx)) with h3 | h3
    · exact h3
    · omega
  · rcases hblk.1 hb with hb | hb
    · rcases hnew b hb with h3 | h3
      · exact H.new b (hblk.2 (.inl h3))
      · right; exact Nat.le_trans H.ext.size h3
    · exact H.new b (hblk.2 (.inr hb))

theorem cvals_map : ∀ us : List Value, us.map AV.c = us.map AV.c := fun _ => rfl

theorem RepL.cs {w : World} : ∀ us : List Value, RepL Γ h w us (us.map .c)
  | [] => RepL.nil
  | u :: us => RepL.cons (.c u) (RepL.cs us)

/-- A call, whatever is known of it. -/
def CallOK (P : Program) (Γ : Ctx) (h : List It) (f : FuncId) (xs : List AV) (K : List Nat → AV → List It → Prop) : Prop :=
  ∀ (w : World) (vs : Array Value), Heap Γ h w → RepL Γ h w vs.toList xs → CallRes P (fun v w' => ∃ E r h', K E r h' ∧ Heap Γ h' w' ∧ RepV Γ h' w' v r ∧ (∀ u y, RepV Γ h w u y → RepV Γ h' w' u y) ∧ Kep Γ h E w w') ((callFunc f vs).run P w)

theorem CallOK.mono {f : FuncId} {xs : List AV} {K K' : List Nat → AV → List It → Prop} (hK : ∀ E r h', K E r h' → K' E r h') (hc : CallOK P Γ h f xs K) : CallOK P Γ h f xs K' := fun w vs H L =>
  (hc w vs H L).mono fun v w' ⟨E, r, h', k, rest⟩ => ⟨E, r, h', hK _ _ _ k, rest⟩

/-- Taken by a contract. -/
theorem CallOK.of {f : FuncId} {xs xs' : List AV} {h1 hr : List It} (hcv : Conv Γ h xs (h1 ++ hr) xs') {R : AV → List It → Prop} (hc : CallsA P f xs' h1 R) {K : List Nat → AV → List It → Prop}
    (hK : ∀ r h', R r h' → (blks (h' ++ hr)).Nodup → K (blks h1) r (h' ++ hr)) : CallOK P Γ h f xs K := fun w vs H L => by
  obtain ⟨H1, L1, S1⟩ := hcv w _ H L
  refine (call_frame (P := P) hc H1 L1).mono fun v w' ⟨r, h', hR, H', hv, hk, hs⟩ => ⟨blks h1, r, h' ++ hr, hK r h' hR H'.nd, H', hv, fun u y hr => hk u y (S1 u y hr),
      ⟨hs.os, hs.tape, hs.output, hs.size, fun b hb hn => hs.block b hb fun hm => hn ⟨by
        have hm' : b ∈ blks (h1 ++ hr) := by simp only [blks, List.map_append, List.mem_append]; exact .inl hm
        by_cases ho : Owns Γ h b
        · exact ho.resolve_left (H1.x_not hm')
        · have := S1 (.pointer (some ⟨b, 0, none⟩)) (.pe []) (.pe b 0 [] (fun _ => undef) ho hb (fun j a hj => by simp at hj) (fun j a hj => by simp at hj))
          cases this with
          | pe _ _ _ _ hO => exact absurd (.inr hm') hO, hm⟩⟩⟩

/-- What a call's answer may be where rows were lent. -/
inductive AV.Plain : AV → Prop where
  | c (v : Value) : Plain (.c v)
  | agg (cs : List AV) (h : ∀ c ∈ cs, Plain c) : Plain (.agg cs)
  | tup (cs : List AV) (h : ∀ c ∈ cs, Plain c) : Plain (.tup cs)
@[simp] theorem AV.plain_c {v : Value} : AV.Plain (.c v) := .c v
@[simp] theorem AV.plain_agg {cs : List AV} : AV.Plain (.agg cs) ↔ ∀ c ∈ cs, AV.Plain c := ⟨fun h => by cases h; assumption, .agg cs⟩
@[simp] theorem AV.plain_tup {cs : List AV} : AV.Plain (.tup cs) ↔ ∀ c ∈ cs, AV.Plain c := ⟨fun h => by cases h; assumption, .tup cs⟩
theorem Rep.plain {n0 n1 : Nat} {O O' : Nat → Prop} {w w' : World} {v : Value} {a : AV} (hr : Rep n0 O w v a) (hp : a.Plain) : Rep n1 O' w' v a := by
  induction hr with
  | c v => exact .c v
  | bad v => cases hp
  | agg vs cs hl _ ih => exact .agg vs cs hl fun i v a hv ha => ih i v a hv ha (AV.plain_agg.1 hp a (List.mem_of_getElem? ha))
  | tup vs cs hl _ ih => exact .tup vs cs hl fun i v a hv ha => ih i v a hv ha (AV.plain_tup.1 hp a (List.mem_of_getElem? ha))
  | nil fr k => cases hp
  | mt0 => cases hp
  | mt1 a => cases hp
  | sl0 => cases hp
  | sl => cases hp
  | pe => cases hp

/-- Rows of h are lent for the call, which owns nothing, and tells something plain. -/
theorem CallOK.lend {f : FuncId} {xs xs' : List AV} {hl : List It} (hcv : Conv Γ h xs hl xs') {R : AV → List It → Prop} (hc : CallsA P f xs' [] R) (hR : ∀ r h', R r h' → h' = [] ∧ r.Plain) {K : List Nat → AV → List It → Prop}
    (hK : ∀ r, R r [] → K [] r h) : CallOK P Γ h f xs K := fun w vs H L => by
  obtain ⟨H1, L1, S1⟩ := hcv w _ H L
  refine (call_frame (P := P) (h1 := []) (hr := hl) hc H1 L1).mono fun v w' ⟨r, h', hRr, H', hv, hk, hs⟩ => ?_
  obtain ⟨rfl, hp⟩ := hR r h' hRr
  have hsame : Same w w' := ⟨hs.os, hs.tape, hs.output, hs.size, fun b hb => hs.block b hb (by simp [blks])⟩
  exact ⟨[], r, h, hK r hRr, H.same hsame, hv.plain hp, fun u y hr => hr.same hsame, .of_same hsame⟩

/-- A call through a function value that is known. -/
theorem act_call {f : Operand} {args : Array Operand} {tys : Array TypeId} {fid : FuncId} {u v : Array Value} (ho : o.op = .call { callee := .value f, args, argTypes := tys })
    (hf : evA s f = .c (.func (.func fid) u v)) {K : List Nat → AV → List It → Prop} (hc : CallOK P Γ h fid (u.toList.map .c ++ args.toList.map (evA s) ++ v.toList.map .c) K) : OpOK P Γ o s h K := by
  intro a w S K' Q hK'
  have hl : RepL Γ h w (u.toList ++ (args.toList.map a.eval) ++ v.toList) (u.toList.map .c ++ args.toList.map (evA s) ++ v.toList.map .c) :=
    RepL.append (RepL.append (RepL.cs _) (RepL.map S.ev' _)) (RepL.cs _)
  have hres := hc w (u ++ args.map a.eval ++ v) S.heap (by simpa using hl)
  have hex : (execOp a.eval o) = callFunc fid (u ++ args.map a.eval ++ v) := by
    simp [execOp, ho, resolve, eval_c S hf, Deferred.ofValue, invoke]
  unfold Oper.wp
  rw [hex]
  generalize (callFunc fid (u ++ args.map a.eval ++ v)).run P w = res at hres
  have fin : ∀ v w', (∃ E r h', K E r h' ∧ Heap Γ h' w' ∧ RepV Γ h' w' v r ∧ (∀ u y, RepV Γ h w u y → RepV Γ h' w' u y) ∧ Kep Γ h E w w') → K' (a.put o.dst v) w' :=
    fun v w' ⟨E, r, h', hR, H', hv, hk, hs⟩ => hK' v w' E r h' hR H' hv hk hs
  cases res with
  | ok n w1 =>
    cases n <;> simp only [CallRes] at hres <;> simp only [Oper.upon] <;> first | exact hres.elim | skip
    · exact fin _ _ hres
    · exact hres.mono fun e w'' ⟨v, he, hv⟩ => by subst he; exact fin v w'' hv
    · exact hres.mono fun v w'' hv => fin v w'' hv
  | halt x w1 => exact hres.elim
end

/-- A contract out of the body's run. -/
theorem CallsA.intro {P : Program} {f : FuncId} {fn : Func} {c : Code} {xs : List AV} {h : List It} {R : AV → List It → Prop} (hf : P.funcs[f]? = some fn) (hb : fn.body = some c) (hn : fn.name ≠ "runtime.NumGoroutine")
    (res : St → Option AV) (hres : ∀ (Γ : Ctx) (σ : St) a w x, Sim Γ σ a w → res σ = some x → ∃ v, (results fn a.tmps).run P w = .ok v w ∧ RepV Γ σ.h w v x)
    (hrun : ∀ Γ : Ctx, Run P Γ [.code c] (fun σ => ∃ x h', res σ = some x ∧ h'.Sublist σ.h ∧ R x h') ⟨xs ++ List.replicate (fn.ntmps - xs.length) (.c undef), h⟩) : CallsA P f xs h R := by
  intro X w n0 vs H L
  have hcall : (callFunc f vs).run P w = .ok (.enter f vs) w := by
    simp [callFunc, run_program, hf, hn, hb]
  rw [hcall]
  simp only [CallRes]
  refine calls_of_wp hf hb ?_
  have hlen : vs.size = xs.length := by simpa using L.1
  have S : Sim ⟨X, (· ∈ blks h), w, n0⟩ ⟨xs ++ List.replicate (fn.ntmps - xs.length) (.c undef), h⟩ { tmps := vs ++ Array.replicate (fn.ntmps - vs.size) undef, defers := [] } w := by
    refine ⟨by simp [hlen], fun i v x hv hx => ?_, rfl, H⟩
    simp only [Array.getElem?_append] at hv
    simp only [List.getElem?_append] at hx
    split at hv
    · rename_i hi
      rw [if_pos (by omega)] at hx
      exact L.2 i v x (by simpa using hv) hx
    · rename_i hi
      rw [if_neg (by omega)] at hx
      have h1 : v = undef := by
        simp only [Array.getElem?_replicate] at hv
        split at hv
        · cases hv; rfl
        · cases hv
      have h2 : x = .c undef := by
        simp only [List.getElem?_replicate] at hx
        split at hx
        · cases hx; rfl
        · cases hx
      rw [h1, h2]; exact .c _
  have hw := hrun _ _ _ S
  refine wp_mono hw ?_
  rintro e a w' ⟨σ, hq, Sσ⟩
  have fin : (∃ x h', res σ = some x ∧ h'.Sublist σ.h ∧ R x h') → a.defers = [] ∧ ∃ v, (results fn a.tmps).run P w' = .ok v w' ∧ ∃ v_1, Ending.returned v = .returned v_1 ∧ ∃ r h', R r h' ∧ Heap ⟨X, (· ∈ blks h), w, n0⟩ h' w' ∧ RepV ⟨X, (· ∈ blks h), w, n0⟩ h' w' v_1 r := by
    rintro ⟨x, h', h1, h2, h3⟩
    obtain ⟨v, hv, hr⟩ := hres _ σ a w' x Sσ h1
    exact ⟨Sσ.dfr, v, hv, v, rfl, x, h', h3, Sσ.heap.drop h2, RepV.drop h2 hr⟩
  cases e <;> simp only [cont, qx] at hq <;> first | exact hq.elim | exact fin hq
end Go.Ab

set_option linter.unusedVariables false
set_option linter.unusedSimpArgs false
namespace Go.Ab

def resOne (P : Program) (σ : St) : ResultVar → Option AV
  | .tmp t => σ.s[t]?
  | .cell a t => match σ.s[a]? with
    | some (.c (.pointer (some q))) => (exLoad P σ.h t (.c (.pointer (some q)))).map (·.2)
    | _ => none
def resL (P : Program) (σ : St) : List ResultVar → Option (List AV)
  | [] => some []
  | r :: rs => match resOne P σ r, resL P σ rs with
    | some x, some xs => some (x :: xs)
    | _, _ => none
def resA (P : Program) (rs : List ResultVar) (σ : St) : Option AV :=
  match resL P σ rs with
  | some [x] => some x
  | some xs => some (.tup xs)
  | none => none

section
variable {P : Program} {Γ : Ctx} {σ : St} {a : Act} {w : World}

def resSem (tmps : Array Value) : ResultVar → Sem Value
  | .tmp t => pure (tmps.getD t undef)
  | .cell a t => do loadVar t (← asAddr (tmps.getD a undef))

theorem run_resOne (S : Sim Γ σ a w) {r : ResultVar} {x : AV} (hx : resOne P σ r = some x) : ∃ v, (resSem a.tmps r).run P w = .ok v w ∧ RepV Γ σ.h w v x := by
  cases r with
  | tmp t =>
    simp only [resOne] at hx
    refine ⟨a.tmps.getD t undef, rfl, ?_⟩
    have hlt : t < a.tmps.size := by rw [S.len]; exact (List.getElem?_eq_some_iff.1 hx).1
    simpa [hlt] using S.slot t _ x (by simp [hlt]) hx
  | cell ad t =>
    simp only [resOne] at hx
    split at hx
    · rename_i q hq
      cases hl : exLoad P σ.h t (.c (.pointer (some q))) with
      | none => simp [hl] at hx
      | some y =>
        simp [hl] at hx
        subst hx
        have hlt : ad < a.tmps.size := by rw [S.len]; exact (List.getElem?_eq_some_iff.1 hq).1
        have hv : a.tmps[ad] = .pointer (some q) := Rep.cv (S.slot ad _ _ (by simp [hlt]) hq)
        have hc := calm_load (P := P) (Γ := Γ) (s := σ.s) (h := σ.h) (o := { dst := none, op := .load t (.tmp ad), type := 0, pos := "", after := #[], guard := none }) (t := t) (x := .tmp ad) (p := y.1) (z := y.2) rfl (by
          have : evA σ.s (.tmp ad) = .c (.pointer (some q)) := by simp [evA, St.ev, hq]
          rw [this]; exact hl)
        obtain ⟨v, h1, h2⟩ := hc a w S
        refine ⟨v, ?_, h2⟩
        have := h1 w (fun _ => Sure.refl w)
        have he : a.eval (.tmp ad) = .pointer (some q) := by simp [Act.eval, hlt, hv]
        simp only [execOp, he, Instr.loadAt, Instr.sureAddr] at this
        simp only [resSem]
        simp [hlt, hv, asAddr]
        simp at this
        cases hr : (loadVar t q).run P w with
        | ok u w1 => rw [hr] at this; simp at this; obtain ⟨rfl, rfl⟩ := this; rfl
        | halt u w1 => rw [hr] at this; simp at this
    · cases hx

theorem run_resL (S : Sim Γ σ a w) : ∀ {rs : List ResultVar} {xs : List AV}, resL P σ rs = some xs → ∃ vs, (rs.mapM (resSem a.tmps)).run P w = .ok vs w ∧ RepL Γ σ.h w vs xs
  | [], xs, hx => by simp [resL] at hx; subst hx; exact ⟨[], by simp, RepL.nil⟩
  | r :: rs, xs, hx => by
    simp only [resL] at hx
    split at hx
    · rename_i x xs' h1 h2
      cases hx
      obtain ⟨v, hv, hr⟩ := run_resOne S h1
      obtain ⟨vs, hvs, hrs⟩ := run_resL S h2
      exact ⟨v :: vs, by simp [List.mapM_cons, hv, hvs], RepL.cons hr hrs⟩
    · cases hx

theorem results_ok {fn : Func} {x : AV} (S : Sim Γ σ a w) (hx : resA P fn.results.toList σ = some x) : ∃ v, (results fn a.tmps).run P w = .ok v w ∧ RepV Γ σ.h w v x := by
  unfold resA at hx
  cases hl : resL P σ fn.results.toList with
  | none => simp [hl] at hx
  | some xs =>
    obtain ⟨vs, hr, hrep⟩ := run_resL S hl
    have hres : (results fn a.tmps).run P w = .ok (if h : vs.toArray.size = 1 then vs.toArray[0] else .tuple vs.toArray) w := by
      have h2 : (fn.results.mapM (resSem a.tmps)).run P w = .ok vs.toArray w := by
        rw [Array.mapM_eq_mapM_toList]; simp [hr]
      show ((fn.results.mapM (resSem a.tmps)) >>= fun vs => pure (if h : vs.size = 1 then vs[0] else Value.tuple vs) : Sem Value).run P w = _
      rw [Sem.run_bind, h2]; rfl
    rw [hres]
    rw [hl] at hx
    match xs, hx with
    | [y], hx =>
      cases hx
      have h1 : vs.length = 1 := hrep.1
      obtain ⟨v, rfl⟩ := List.length_eq_one_iff.1 h1
      exact ⟨v, by simp, hrep.2 0 v _ rfl rfl⟩
    | [], hx =>
      cases hx
      have h1 : vs = [] := List.eq_nil_of_length_eq_zero hrep.1
      subst h1
      exact ⟨.tuple #[], by simp, .tup _ _ rfl (fun i v a h => by simp at h)⟩
    | y :: z :: ys, hx =>
      cases hx
      have h1 : vs.length = ys.length + 2 := hrep.1
      refine ⟨.tuple vs.toArray, by rw [dif_neg]; simp; omega, .tup _ _ (by simpa using hrep.1) (fun i v a hv ha => hrep.2 i v a (by simpa using hv) ha)⟩
end

/-- How a body ends. -/
def PostQ (P : Program) (rs : List ResultVar) (R : AV → List It → Prop) (σ : St) : Prop := ∃ x h', resA P rs σ = some x ∧ h'.Sublist σ.h ∧ R x h'
theorem PostQ_at {P : Program} {rs : List ResultVar} {R : AV → List It → Prop} {s : List AV} {h : List It} : PostQ P rs R ⟨s, h⟩ = ∃ x h', resA P rs ⟨s, h⟩ = some x ∧ h'.Sublist h ∧ R x h' := rfl

/-- A contract out of the body's run. -/
theorem CallsA.body {P : Program} {f : FuncId} {fn : Func} {c : Code} {xs : List AV} {h : List It} {R : AV → List It → Prop} (hf : P.funcs[f]? = some fn) (hb : fn.body = some c) (hn : fn.name ≠ "runtime.NumGoroutine")
    (hrun : ∀ Γ : Ctx, Run P Γ [.code c] (PostQ P fn.results.toList R) ⟨xs ++ List.replicate (fn.ntmps - xs.length) (.c undef), h⟩) : CallsA P f xs h R :=
  CallsA.intro hf hb hn (resA P fn.results.toList) (fun Γ σ a w x S hx => results_ok S hx) hrun

section
variable {P : Program} {Γ : Ctx} {o : Oper} {s : List AV} {h : List It}

theorem fillA_full (k n : Nat) : ∀ (xs : List AV) (i : Nat) (done : List AV) (cs : List AV), i + xs.length = n → done.length = i * k → cs.length = xs.length * k → (∀ x ∈ xs, x.okB = true ∧ x.cells.length = k) →
    fillA ((List.range n).map fun j => (j * k, k)) (done ++ cs) ((List.range' i xs.length).zip xs) = some (done ++ flat xs)
  | [], i, done, cs, _, _, hc, _ => by
    have : cs = [] := List.eq_nil_of_length_eq_zero (by simpa using hc)
    subst this; simp [fillA, flat]
  | x :: xs, i, done, cs, hi, hd, hc, hx => by
    obtain ⟨h1, h2⟩ := hx x List.mem_cons_self
    simp only [List.length_cons] at hi hc
    have hpl : ((List.range n).map fun j => (j * k, k))[i]? = some (i * k, k) := by
      rw [List.getElem?_map, List.getElem?_range (by omega)]; rfl
    have hle : k ≤ cs.length := by rw [hc, Nat.add_mul]; omega
    simp only [List.length_cons, List.range'_succ, List.zip_cons_cons, fillA, hpl]
    rw [if_pos ⟨h1, h2, by simp [hd, h2]; exact hle⟩]
    have e1 : (done ++ cs).take (i * k) = done := by rw [← hd]; exact List.take_left
    have e2 : (done ++ cs).drop (i * k + x.cells.length) = cs.drop k := by
      rw [← hd, h2, List.drop_append]
      simp
    rw [e1, e2]
    have := fillA_full k n xs (i + 1) (done ++ x.cells) (cs.drop k) (by omega) (by simp [hd, h2, Nat.add_mul]) (by simp [hc, Nat.add_mul]) (fun y hy => hx y (List.mem_cons_of_mem _ hy))
    rw [this]
    simp [flat]

/-- []T{..}, all its elements told in order. -/
theorem act_buildSlice {t e : TypeId} {len k : Nat} {parts : Array (Nat × Operand)} {xs : List AV} (ho : o.op = .buildSlice t len parts) (ht : elemOfS P t = some e) (he : elemOK P e = true) (hk : k = szOf P e)
    (hp : parts.toList.map (·.1) = List.range len) (hxs : parts.toList.map (fun p => evA s p.2) = xs) (hx : ∀ x ∈ xs, x.okB = true ∧ x.cells.length = k) (hsz : len * k ≤ 16777216)
    {K : List Nat → AV → List It → Prop} (hK : ∀ b, b ∉ blks h → K [] (.c (.slice (some ⟨b, 0, none⟩) len len)) (.row b e k len true xs :: h)) : OpOK P Γ o s h K := by
  have hu := und_slice ht
  obtain ⟨i, z, hi, hz, hzs, hs, hby, hbe, hse⟩ := elem_of he
  have hki : k = i.size := hk.trans hse
  have hxl : xs.length = len := by have := congrArg List.length hp; rw [← hxs]; simpa using this
  refine OpOK.of_run fun a w S => ?_
  let zs : Array Value := (Array.range (len * k)).map (z.cells[· % z.cells.size]!)
  have hzl : zs.size = len * k := by simp [zs]
  let za : List AV := zs.toList.map .c
  have hza : RepL Γ h w zs.toList za := RepL.cs _
  have hfill := fillA_full k len xs 0 [] za (by omega) (by simp) (by simp [za, hzl, hxl]) hx
  simp only [List.nil_append] at hfill
  have hparts : parts.toList.map (fun p => (p.1, evA s p.2)) = (List.range' 0 xs.length).zip xs := by
    rw [hxl, ← List.range_eq_range', ← hp, ← hxs]
    rw [List.zip_map', ]
  obtain ⟨us, hf, hr⟩ := fill_rep (Γ := Γ) (h := h) (w := w) (place := fun i => some (i * k, k)) (pl := (List.range len).map fun j => (j * k, k)) (fun i x hx => by
      rw [List.getElem?_map] at hx
      cases hr : (List.range len)[i]? with
      | none => simp [hr] at hx
      | some y =>
        have : y = i := by
          rw [List.getElem?_eq_some_iff] at hr
          obtain ⟨_, hh⟩ := hr
          simpa using hh.symm
        subst this
        simpa [hr] using hx) (parts.toList.map fun p => (p.1, evA s p.2)) (parts.toList.map fun p => (p.1, a.eval p.2)) za zs (flat xs) (by simp [Function.comp_def]) (by
      simp only [List.map_map, Function.comp_def]
      have := RepL.map (Γ := Γ) (h := h) (w := w) (f := a.eval) (g := evA s) S.ev' (parts.toList.map (·.2))
      simpa [Function.comp_def] using this) hza (by rw [hparts]; exact hfill)
  have hrun : (execOp a.eval o).run P w = .ok (.value (.slice (some ⟨w.heap.size, 0, none⟩) len len)) (w.alloc (.cells us e)) := by
    simp only [execOp, ho, Instr.buildSlice]
    have hnz : ¬ (2 ^ 24 < len * k) := by omega
    by_cases h0 : len * k = 0
    · have hzs0 : zs = #[] := Array.eq_empty_of_size_eq_zero (by omega)
      have hze : (Array.range (len * k)).map (fun x => (#[] : Array Value)[x % 0]!) = zs := by rw [hzs0]; simp [h0]
      have hf' : Instr.fill (fun i => some (i * k, k)) #[] (parts.toList.map fun p => (p.1, a.eval p.2)) = some us := by rw [← hzs0]; exact hf
      subst hki
      have hr0 : Array.map (fun _ : Nat => (default : Value)) (Array.range 0) = #[] := Array.eq_empty_of_size_eq_zero (by simp)
      simp [run_underlying hu, sizeOf, typeInfo, hi, hnz, h0, newRow, hr0, hf']
    · subst hki
      have hf' : Instr.fill (fun i_1 => some (i_1 * i.size, i.size)) ((Array.range (len * i.size)).map fun x => z.cells[x % z.cells.size]!) (parts.toList.map fun p => (p.1, a.eval p.2)) = some us := hf
      simp [run_underlying hu, sizeOf, typeInfo, zeroValue, hi, hz, hnz, h0, newRow, hf']
  have hs' := Same.alloc w (.cells us e)
  have hb : w.heap.size ∉ blks h := fun hm => by have := S.heap.lt hm; simp at this
  refine ⟨_, _, [], _, _, hrun, hK _ hb, ?_, .c _, fun u y hu => RepV.add hs' (Nat.le_refl _) hu, .of_same hs'⟩
  have hkx : ∀ x ∈ xs, x.cells.length = k := fun x hxx => (hx x hxx).2
  have husz : us.size = len * k := by have := hr.1; rw [flat_length hkx, hxl] at this; simpa using this
  refine Heap.add S.heap hs' (Nat.le_refl _) ⟨us, heap_alloc_new w _, husz, by omega, ?_, fun _ => Nat.le_trans S.heap.base S.heap.ext.size, hkx, fun j x hj => ?_⟩
  · have : len * 1 ≤ len * k := Nat.mul_le_mul_left _ (by omega)
    unfold maxLen; omega
  · have hlt : j < us.size := by have h1 := hr.1; have := (List.getElem?_eq_some_iff.1 hj).1; simp at h1; omega
    exact ⟨us[j], by simp [hlt], RepV.add hs' (Nat.le_refl _) (hr.2 j _ x (by simp [hlt]) hj)⟩

/-- x == nil: whichever. -/
def nilP (op : BinOp) (es : List AV) (b : Bool) : Prop := match op with
  | .eql => es ≠ [] → b = false
  | _ => es ≠ [] → b = true
theorem act_nil {op : BinOp} {t e : TypeId} {x y : Operand} {ty : TypeId} {fr : Bool} {k : Nat} {es : List AV} {n c : Nat} (ho : o.op = .binOp op t x y ty) (hop : op = .eql ∨ op = .neq) (ht : elemOfS P t = some e)
    (hx : evA s x = .sl fr k es ∨ (evA s x = .mt ∧ es = [])) (hy : evA s y = .c (.slice none n c)) {K : List Nat → AV → List It → Prop} (hK : ∀ b, nilP op es b → K [] (.c (.bool b)) h) : OpOK P Γ o s h K := by
  have hu := und_slice ht
  refine OpOK.of_run fun a w S => ?_
  have hey := eval_c S hy
  have hr := S.ev' x
  have main : ∀ q n', a.eval x = .slice q n' n' ∨ (∃ c', a.eval x = .slice q n' c') → (es ≠ [] → q.isNone = false) → ∃ v w' E x' h', (execOp a.eval o).run P w = .ok (.value v) w' ∧ K E x' h' ∧ Heap Γ h' w' ∧ RepV Γ h' w' v x' ∧ (∀ u y, RepV Γ h w u y → RepV Γ h' w' u y) ∧ Kep Γ h E w w' := by
    intro q n' hq hes
    obtain ⟨c', hq⟩ : ∃ c', a.eval x = .slice q n' c' := by rcases hq with hq | hq; exact ⟨_, hq⟩; exact hq
    rcases hop with rfl | rfl
    · refine ⟨.bool q.isNone, w, [], _, h, ?_, hK _ hes, S.heap, .c _, fun _ _ h => h, .of_same (Same.refl w)⟩
      have : (execOp a.eval o) = (do pure (.value (← (binOp .eql t (.slice q n' c') (.slice none n c) : Sem Value)))) := by
        simp only [execOp, ho, hq, hey]; rfl
      rw [this]
      simp only [binOp]
      simp [Op.equal, Op.maxDepth, Lib.run_equalIn_slice_nil w 9999 t e q n' c' n c hu]
    · refine ⟨.bool (!q.isNone), w, [], _, h, ?_, hK _ (fun h0 => by rw [hes h0]; rfl), S.heap, .c _, fun _ _ h => h, .of_same (Same.refl w)⟩
      have : (execOp a.eval o) = (do pure (.value (← (binOp .neq t (.slice q n' c') (.slice none n c) : Sem Value)))) := by
        simp only [execOp, ho, hq, hey]; rfl
      rw [this]
      simp [run_neq_slice_nil_any (P := P) w t e q n' c' n c hu]
  rcases hx with hx | ⟨hx, rfl⟩
  · rw [hx] at hr
    cases hr' : a.eval x with
    | slice q n' c' =>
      rw [hr'] at hr
      refine main q n' (.inr ⟨c', hr'⟩) fun h0 => ?_
      cases hr with
      | nil => exact absurd rfl h0
      | sl => rfl
      | sl0 => first | rfl | exact absurd rfl h0
    | _ => rw [hr'] at hr; cases hr
  · cases hr' : a.eval x with
    | slice q n' c' => exact main q n' (.inr ⟨c', hr'⟩) fun h0 => absurd rfl h0
    | _ => rw [hx, hr'] at hr; cases hr

/-- An owned row, given up: it is read from here on. -/
theorem rep_freeze {w w' : World} {b : Nat} {t : TypeId} {k cap : Nat} {fr : Bool} {es : List AV} (H : Heap Γ h w) (hf : find b h = some (.row b t k cap fr es)) (H' : Heap Γ (del b h) w') (hsz : w.heap.size ≤ w'.heap.size)
    (hcell : ∀ o u, w.cell? ⟨b, o, none⟩ = some u → w'.cell? ⟨b, o, none⟩ = some u) (hk' : ∀ u y, RepV Γ h w u y → RepV Γ (del b h) w' u y) {fr' : Bool} (hfr' : fr' = true → fr = true) : RepV Γ (del b h) w' (.slice (some ⟨b, 0, none⟩) es.length cap) (.sl fr' k es) := by
  obtain ⟨c, h1, h2, hle, hcm, hfr, hkx, hrep⟩ := H.sat _ (find_mem hf).1
  have hbm : b ∈ blks h := List.mem_map.2 ⟨_, (find_mem hf).1, rfl⟩
  refine .sl fr' k b 0 cap es (fun j => c.getD j undef) hle hcm (fun ho => ?_) (Nat.lt_of_lt_of_le (H.lt hbm) hsz) (fun hq => hfr (hfr' hq)) hkx (fun j a hj => ?_) (fun j a hj => ?_)
  · rcases ho with ho | ho
    · exact H.x_not hbm ho
    · obtain ⟨z, hz, hze⟩ := List.mem_map.1 ho
      exact (del_blk H.nd hz).2 hze
  · obtain ⟨u, hu, _⟩ := hrep j a hj
    refine hcell _ _ ?_
    simp [World.cell?, h1, hu]
  · obtain ⟨u, hu, hr⟩ := hrep j a hj
    have := hk' _ _ hr
    simp only [RepV] at this
    simpa [hu] using this

theorem Sub.freeze {b i : Nat} {t : TypeId} {k cap n : Nat} {fr fr' : Bool} {es : List AV} (hf : find b h = some (.row b t k cap fr es)) (hi : s[i]? = some (.c (.slice (some ⟨b, 0, none⟩) n cap))) (hn : n = es.length) (hfr : fr' = true → fr = true) :
    Sub Γ ⟨s, h⟩ ⟨s.set i (.sl fr' k es), del b h⟩ := fun a w S => by
  have hs := del_sub b h
  have H' := S.heap.drop hs
  refine ⟨by simpa using S.len, fun j v x hv hx => ?_, S.dfr, H'⟩
  rw [List.getElem?_set] at hx
  split at hx
  · rename_i hij
    subst hij
    split at hx
    · cases hx
      have hr := S.slot i v _ hv hi
      have : v = .slice (some ⟨b, 0, none⟩) n cap := Rep.cv hr
      rw [this, hn]
      exact rep_freeze S.heap hf H' (Nat.le_refl _) (fun _ _ h => h) (fun u y hr => RepV.drop hs hr) hfr
    · cases hx
  · exact (S.slot j v x hv hx).drop hs

/-- []byte("..") of a constant. -/
theorem act_convBytes {t e : TypeId} {x : Operand} {b n cap : Nat} {et : TypeId} {k : Nat} {fr : Bool} {es : List AV} (ho : o.op = .convert t t x) (ht : P.underlying t = some (.slice e)) (he : isByteT P e = true)
    (hx : evA s x = .c (.slice (some ⟨b, 0, none⟩) n cap)) (hf : find b h = some (.row b et k cap fr es)) (hn : n = es.length) {K : List Nat → AV → List It → Prop} (hK : K [b] (.sl fr k es) (del b h)) : OpOK P Γ o s h K := by
  have he' : P.underlying e = some (.int .u8) := by
    unfold isByteT at he
    split at he
    · assumption
    · cases he
  refine OpOK.of_run fun a w S => ?_
  have hex := eval_c S hx
  obtain ⟨c, h1, h2, hle, hcm, hfr, hkx, hrep⟩ := S.heap.sat _ (find_mem hf).1
  have hbm : b ∈ blks h := List.mem_map.2 ⟨_, (find_mem hf).1, rfl⟩
  have hblt := S.heap.lt hbm
  have hsh : w.shape? b = some (et, c.size) := by simp [World.shape?, h1]
  let w' : World := w.freeze ⟨b, c.size, none⟩ 1
  have hrun : (execOp a.eval o).run P w = .ok (.value (.slice (some ⟨b, 0, none⟩) n cap)) w' := by
    simp [execOp, ho, hex, convert, run_underlying ht, run_underlying he', markStringish, hsh, w']
  have hheap : ∀ y, w'.heap[y]? = if b = y then (w.heap[y]?).map (fun
      | .cells c' elem (lo, hi) => .cells c' elem (if lo == hi then (c.size, c.size + 1) else (min lo c.size, max hi (c.size + 1)))
      | o => o) else w.heap[y]? := fun y => by
    simp only [w', World.freeze]
    rw [if_neg (by decide)]
    simp only [Array.getElem?_modify]
    split <;> rfl
  have hblock : w'.heap[b]? = some (.cells c et (c.size, c.size + 1)) := by
    rw [hheap, if_pos rfl, h1]
    rfl
  have hother : ∀ y, y ≠ b → w'.heap[y]? = w.heap[y]? := fun y hy => by
    rw [hheap, if_neg (Ne.symm hy)]
  have hsize : w'.heap.size = w.heap.size := by
    simp only [w', World.freeze]
    rw [if_neg (by decide)]
    simp
  have hext : Ext (· = b) w w' := ⟨rfl, rfl, rfl, by omega, fun y hy hn => hother y hn⟩
  have hs := del_sub b h
  have keep : ∀ u y, RepV Γ h w u y → RepV Γ (del b h) w' u y := fun u y hr =>
    hext.rep (fun y _ hy => by subst hy; exact .inr hbm) (fun y _ hy => hy.imp id (fun hy => (hs.map It.blk).subset hy)) hr
  have H' : Heap Γ (del b h) w' := by
    refine ⟨S.heap.nd.sublist (hs.map It.blk), fun it hit => ?_, S.heap.ext.trans hext (fun y hy hyb => ?_), fun y hy => S.heap.new y ((hs.map It.blk).subset hy), S.heap.xs, S.heap.base⟩
    · obtain ⟨g1, g2⟩ := del_blk S.heap.nd hit
      exact It.sat_of (S.heap.sat it g1) (hother _ g2) (Nat.le_refl _) keep
    · subst hyb
      rcases S.heap.new y hbm with h3 | h3
      · exact h3
      · omega
  refine ⟨_, w', [b], _, _, hrun, hK, H', ?_, keep, ⟨rfl, rfl, rfl, by omega, fun y hy hn => hother y fun e => hn (by subst e; exact ⟨hbm, List.mem_singleton.2 rfl⟩)⟩⟩
  rw [hn]
  refine rep_freeze S.heap hf H' (by omega) (fun o' u hu => ?_) keep id
  simp [World.cell?, h1] at hu
  simp [World.cell?, hblock, hu]
end
end Go.Ab
