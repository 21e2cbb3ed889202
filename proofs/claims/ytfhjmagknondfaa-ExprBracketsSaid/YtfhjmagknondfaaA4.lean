/- Regions: in the text's order, and in whatever order. -/
import Derived.Test.YtfhjmagknondfaaA3
import Derived.OrdersHeld
set_option linter.unusedVariables false
set_option linter.unusedSimpArgs false
namespace Go.Ab

def putA (s : List AV) (dst : Option Tmp) (x : AV) : List AV := match dst with | some d => s.set d x | none => s

section
variable {P : Program} {Γ : Ctx} {ops : Array Oper} {k : List KI} {Q : St → Prop}

theorem Sim.put {s : List AV} {h h' : List It} {a : Act} {w w' : World} {v : Value} {x : AV} {dst : Option Tmp} (S : Sim Γ ⟨s, h⟩ a w) (H : Heap Γ h' w') (hv : RepV Γ h' w' v x)
    (hk : ∀ u y, RepV Γ h w u y → RepV Γ h' w' u y) : Sim Γ ⟨putA s dst x, h'⟩ (a.put dst v) w' := by
  cases dst with
  | none => exact ⟨S.len, fun i u y hu hy => hk _ _ (S.slot i u y hu hy), S.dfr, H⟩
  | some d =>
    refine ⟨by simpa [Act.put, putA] using S.len, fun i u y hu hy => ?_, S.dfr, H⟩
    simp only [Act.put, putA] at hu hy
    rw [Array.getElem?_setIfInBounds] at hu
    rw [List.getElem?_set] at hy
    have hl := S.len
    simp only at hl
    split at hu
    · rename_i hdi
      rw [if_pos hdi] at hy
      split at hu
      · split at hy
        · cases hu; cases hy; exact hv
        · cases hy
      · cases hu
    · rename_i hdi
      rw [if_neg hdi] at hy
      exact hk _ _ (S.slot i u y hu hy)

/-- What an operation's guard says: it is carried out, or not. -/
def guardA (ops : Array Oper) (s : List AV) : Option (Nat × Bool) → Option Bool
  | none => some true
  | some (j, want) => match (ops[j]?).bind (·.dst) with
    | some t => match s[t]? with
      | some (.c (.bool b)) => some (b == want)
      | some (.c (.tuple _)) => some false
      | _ => none
    | none => some false

theorem guardA_ok {o : Oper} {s : List AV} {h : List It} {a : Act} {w : World} (S : Sim Γ ⟨s, h⟩ a w) {g : Bool} (hg : guardA ops s o.guard = some g) : Region.wanted o (yielded ops a.tmps) = g := by
  unfold guardA at hg
  unfold Region.wanted
  cases ho : o.guard with
  | none => rw [ho] at hg; simp at hg; simp [hg]
  | some jw =>
    obtain ⟨j, want⟩ := jw
    rw [ho] at hg
    simp only at hg ⊢
    unfold yielded
    cases ht : (ops[j]?).bind (·.dst) with
    | none => rw [ht] at hg; simp at hg; subst hg; simp [ht]
    | some t =>
      rw [ht] at hg
      simp only at hg
      split at hg
      · rename_i b hb
        simp at hg
        have hlt : t < a.tmps.size := by rw [S.len]; exact (List.getElem?_eq_some_iff.1 hb).1
        have hv : a.tmps[t] = .bool b := Rep.cv (S.slot t _ _ (by simp [hlt]) hb)
        subst hg
        simp [hlt, hv]
      · rename_i vs hb
        simp at hg
        subst hg
        have hlt : t < a.tmps.size := by rw [S.len]; exact (List.getElem?_eq_some_iff.1 hb).1
        have hv : a.tmps[t] = .tuple vs := Rep.cv (S.slot t _ _ (by simp [hlt]) hb)
        simp [hlt, hv]
      · cases hg

/-! ### The text's order -/
def RunL (P : Program) (Γ : Ctx) (ops : Array Oper) (l : List Oper) (k : List KI) (Q : St → Prop) (s : List AV) (h : List It) : Prop :=
  ∀ a w, Sim Γ ⟨s, h⟩ a w → wpList P ops (SQ Γ (cont P Γ k Q)) l a w

theorem RunL.nil {s : List AV} {h : List It} (H : Run P Γ k Q ⟨s, h⟩) : RunL P Γ ops [] k Q s h := fun a w S => wpList_nil ⟨_, H, S⟩
theorem RunL.op {o : Oper} {l : List Oper} {s : List AV} {h : List It} (hg : guardA ops s o.guard = some true) (H : OpOK P Γ o s h fun _ x h' => RunL P Γ ops l k Q (putA s o.dst x) h') : RunL P Γ ops (o :: l) k Q s h := by
  intro a w S
  refine wpList_step fun K hK => ?_
  rw [if_pos (guardA_ok S hg)]
  exact H a w S K _ fun v w' pure x h' hx H' hv hk _ => hK _ _ (hx _ _ (S.put H' hv hk))
theorem RunL.skip {o : Oper} {l : List Oper} {s : List AV} {h : List It} (hg : guardA ops s o.guard = some false) (H : RunL P Γ ops l k Q (putA s o.dst (.c undef)) h) : RunL P Γ ops (o :: l) k Q s h := by
  intro a w S
  refine wpList_step fun K hK => ?_
  rw [if_neg (by rw [guardA_ok S hg]; simp)]
  exact hK _ _ (H _ _ (S.put S.heap (.c _) (fun _ _ h => h)))
theorem Run.region {id : Nat} {s : List AV} {h : List It} (H : RunL P Γ ops ops.toList k Q s h) : Run P Γ (.code (.region id ops false) :: k) Q ⟨s, h⟩ :=
  fun a w S => wp_region_list (H a w S)

/-! ### Whatever order -/
def reachB (ops : Array Oper) (i : Nat) : Nat → Nat → Bool
  | 0, _ => false
  | fuel + 1, d => match ops[d]? with
    | some o => o.after.any fun e => Region.binds .any e && (e.on == i || reachB ops i fuel e.on)
    | none => false

def LClosed (ops : Array Oper) (listed : Array Bool) : Prop :=
  ∀ j oj, ops[j]? = some oj → listed.getD j false = true → ∀ e ∈ oj.after, Region.binds .any e = true → listed.getD e.on false = true

theorem LClosed.set {listed : Array Bool} {i : Nat} (h : LClosed ops listed) (hi : i ∈ Region.ready .any ops listed) : LClosed ops (listed.setIfInBounds i true) := by
  obtain ⟨_, oi, hoi, hall⟩ := mem_ready.1 hi
  intro j oj hj hl e he hb
  by_cases hij : i = j
  · subst hij
    have : oj = oi := Option.some.inj (hj.symm.trans hoi)
    subst this
    exact getD_set_true (hall e he hb)
  · rw [getD_set_ne false hij] at hl
    exact getD_set_true (h j oj hj hl e he hb)

theorem reach_listed {listed : Array Bool} {i : Nat} (hc : LClosed ops listed) : ∀ (fuel d : Nat), reachB ops i fuel d = true → listed.getD d false = true → listed.getD i false = true
  | 0, _, h, _ => by simp [reachB] at h
  | fuel + 1, d, h, hl => by
    unfold reachB at h
    cases ho : ops[d]? with
    | none => rw [ho] at h; simp at h
    | some o =>
      rw [ho] at h
      obtain ⟨e, he, h1⟩ := Array.any_eq_true'.1 h
      simp only [Bool.and_eq_true, Bool.or_eq_true, beq_iff_eq] at h1
      have hle := hc d o ho hl e he h1.1
      rcases h1.2 with h2 | h2
      · rw [← h2]; exact hle
      · exact reach_listed hc fuel e.on h2 hle

theorem reach_not_ready {listed : Array Bool} {i d fuel : Nat} (hc : LClosed ops listed) (hr : reachB ops i fuel d = true) (hun : listed.getD i true = false) : d ∉ Region.ready .any ops listed := by
  intro hd
  obtain ⟨_, o, ho, hall⟩ := mem_ready.1 hd
  have hi : listed.getD i false = true := by
    cases fuel with
    | zero => simp [reachB] at hr
    | succ n =>
      unfold reachB at hr
      rw [ho] at hr
      obtain ⟨e, he, h1⟩ := Array.any_eq_true'.1 hr
      simp only [Bool.and_eq_true, Bool.or_eq_true, beq_iff_eq] at h1
      have hle := hall e he h1.1
      rcases h1.2 with h2 | h2
      · rw [← h2]; exact hle
      · exact reach_listed hc n e.on h2 hle
  rcases Nat.lt_or_ge i listed.size with h' | h'
  · simp [h'] at hun hi
    rw [hun] at hi
    cases hi
  · simp [Array.getElem?_eq_none h'] at hun

/-- Whatever order is picked from here on; F: what each operation leaves as it was. -/
def wpAnyE (P : Program) (ops : Array Oper) (Q : Exit → Act → World → Prop) (F : Nat → World → World → Prop) : Nat → Array Bool → Act → World → Prop
  | 0, listed, a, w => Region.ready .any ops listed = [] ∧ Q .normal a w
  | fuel + 1, listed, a, w =>
    (Region.ready .any ops listed = [] → Q .normal a w) ∧
    ∀ i ∈ Region.ready .any ops listed, wpOp P ops Q i (fun a' w' => F i w w' ∧ wpAnyE P ops Q F fuel (listed.setIfInBounds i true) a' w') a w

theorem wpAny_of_E {Q : Exit → Act → World → Prop} {F : Nat → World → World → Prop} : ∀ (fuel : Nat) (listed : Array Bool) (a : Act) (w : World), wpAnyE P ops Q F fuel listed a w → wpAny P .any ops Q fuel listed a w
  | 0, _, _, _, h => h
  | fuel + 1, _, _, _, h => ⟨h.1, fun i hi => wpOp_mono (fun a' w' h' => wpAny_of_E fuel _ a' w' h'.2) (h.2 i hi)⟩
theorem wpAnyE.imp {Q : Exit → Act → World → Prop} {F G : Nat → World → World → Prop} (hFG : ∀ i w w', F i w w' → G i w w') : ∀ (fuel : Nat) (listed : Array Bool) (a : Act) (w : World), wpAnyE P ops Q F fuel listed a w → wpAnyE P ops Q G fuel listed a w
  | 0, _, _, _, h => h
  | fuel + 1, _, _, _, h => ⟨h.1, fun i hi => wpOp_mono (fun a' w' h' => ⟨hFG _ _ _ h'.1, wpAnyE.imp hFG fuel _ a' w' h'.2⟩) (h.2 i hi)⟩

theorem wpAnyE_first {Q : Exit → Act → World → Prop} {F : Nat → World → World → Prop} {i : Nat} {oi : Oper} {v : Value} (hi : ops[i]? = some oi) (hsel : ∀ (j : Nat) (o : Oper) cs b, ops[j]? = some o → o.op ≠ .select cs b)
    (hQ : ∀ c a w, ¬ Q (.panic c) a w) (n : Nat) (S : World → Prop) (pend : Nat → Prop) (hF : ∀ d w w', pend d → F d w w' → S w → S w') (hrefl : ∀ w, F i w w) :
    ∀ (fuel : Nat) (listed : Array Bool) (a : Act) (w : World),
      (∀ j oj, ops[j]? = some oj → j ≠ i → listed.getD j true = false → (∀ e ∈ oj.after, Region.binds .any e = true → e.on ≠ i) → oi.apart ops oj = true) →
      LClosed ops listed → (∀ d, listed.getD d true = false → pend d ∨ reachB ops i n d = true) →
      i ∈ Region.ready .any ops listed → YieldsIf P ops S oi v a → S w →
      wpAnyE P ops Q F fuel (listed.setIfInBounds i true) (a.put oi.dst v) w → wpAnyE P ops Q F (fuel + 1) listed a w := by
  intro fuel
  induction fuel with
  | zero =>
    intro listed a w _ _ _ hr hy hS H
    refine ⟨fun h => (by rw [h] at hr; cases hr), fun j hj => ?_⟩
    by_cases hji : j = i
    · subst hji; exact hy.wpOp hi hS ⟨hrefl w, H⟩
    · have := ready_mono hj hji
      rw [H.1] at this
      cases this
  | succ fuel ih =>
    intro listed a w hfree hc hd hr hy hS H
    refine ⟨fun h => (by rw [h] at hr; cases hr), fun j hj => ?_⟩
    by_cases hji : j = i
    · subst hji; exact hy.wpOp hi hS ⟨hrefl w, H⟩
    · have h1 := H.2 j (ready_mono hj hji)
      obtain ⟨hjun, oj, hoj, hall⟩ := mem_ready.1 hj
      have hiun := (mem_ready.1 hr).1
      have hnot : ∀ e ∈ oj.after, Region.binds .any e = true → e.on ≠ i := fun e he hb heq => by
        have h1 := hall e he hb
        rw [heq] at h1
        rcases Nat.lt_or_ge i listed.size with h' | h'
        · simp [h'] at hiun h1; rw [hiun] at h1; cases h1
        · simp [Array.getElem?_eq_none h'] at h1
      have hjd : pend j := (hd j hjun).resolve_right fun hq => absurd hj (reach_not_ready hc hq hiun)
      have h2 := wpOp_putIf hoj (hfree j oj hoj hji hjun hnot) (fun cs b => hsel i oi cs b hi) (fun cs b => hsel j oj cs b hoj) (fun c a w hq => (hQ _ _ _ hq).elim) hy h1
      have hfree' : ∀ q oq, ops[q]? = some oq → q ≠ i → (listed.setIfInBounds j true).getD q true = false →
          (∀ e ∈ oq.after, Region.binds .any e = true → e.on ≠ i) → oi.apart ops oq = true := fun q oq hoq hqi hun hno => by
        refine hfree q oq hoq hqi ?_ hno
        by_cases hjq : j = q
        · subst hjq; exact hjun
        · rw [getD_set_ne true hjq] at hun; exact hun
      have hd' : ∀ d, (listed.setIfInBounds j true).getD d true = false → pend d ∨ reachB ops i n d = true := fun d hun => by
        refine hd d ?_
        by_cases hjd : j = d
        · subst hjd; exact hjun
        · rw [getD_set_ne true hjd] at hun; exact hun
      refine wpOp_mono (fun a' w' h3 => ⟨h3.2.1, ih (listed.setIfInBounds j true) a' w' hfree' (hc.set hj) hd' (ready_mono hr (Ne.symm hji)) h3.1 (hF j w w' hjd h3.2.1 hS) ?_⟩) h2
      rw [Array.setIfInBounds_comm _ _ hji]
      exact h3.2.2

/-- Is it one of the calm ones? -/
def calmK : Op → Bool
  | .move _ | .assign _ | .pick _ _ _ | .build _ _ | .load _ _ | .nilCheck _ | .binOp _ _ _ _ _ | .unOp _ _ _ | .convert _ _ _ | .makeFunc _ _ _ | .slice _ _ _ _ _ | .fieldAddr _ _ _ | .field _ _ _
  | .indexAddr _ _ _ | .index _ _ _ | .extract _ _ | .lookup _ _ _ _ => true
  | .call c => match c.callee with | .builtin .len | .builtin .min | .builtin .max => true | _ => false
  | _ => false

/-- May it turn what was there? -/
def breaksK : Op → Bool
  | .alloc _ | .box _ _ | .buildSlice _ _ _ | .makeMap _ _ | .makeSlice _ _ _ => false
  | op => !calmK op

def freeB (ops : Array Oper) (listed : Array Bool) (i : Nat) (oi : Oper) : Bool :=
  (List.range ops.size).all fun j => j == i || listed.getD j true || match ops[j]? with
    | some oj => (oj.after.any fun e => Region.binds .any e && e.on == i) || oi.apart ops oj
    | none => true

/-- A plan for a region that draws its order: the calm one that goes first (ds: what may break and may come ahead of it elsewhere), or each that may come. -/
inductive DT where
  | done
  | calm (i : Nat) (ds : List Nat) (t : DT)
  | fork (r : DT)
  | alt (i : Nat) (t r : DT)
  | stop

def altIds : DT → List Nat
  | .alt i _ r => i :: altIds r
  | _ => []

def headB : DT → Bool
  | .alt _ _ _ | .stop => false
  | _ => true

def treeB (ops : Array Oper) : Nat → Array Bool → DT → Bool
  | _, listed, .done => Region.ready .any ops listed == []
  | 0, _, _ => false
  | n + 1, listed, .calm i ds t => (match ops[i]? with
    | some oi => calmK oi.op && (Region.ready .any ops listed).contains i && freeB ops listed i oi &&
          (!readsK oi.op || (List.range ops.size).all fun d => listed.getD d true || !((ops[d]?).any fun od => breaksK od.op) || reachB ops i ops.size d || ds.contains d)
    | none => false) && headB t && treeB ops n (listed.setIfInBounds i true) t
  | n + 1, listed, .fork r => (Region.ready .any ops listed).all (fun i => (altIds r).contains i) && Region.ready .any ops listed != [] && treeB ops (n + 1) listed r
  | n + 1, listed, .alt i t r => (Region.ready .any ops listed).contains i && headB t && treeB ops n (listed.setIfInBounds i true) t && treeB ops (n + 1) listed r
  | _ + 1, _, .stop => true

def drawB (ops : Array Oper) (t : DT) : Bool := Region.noSelect ops && headB t && treeB ops ops.size (Array.replicate ops.size false) t

/-- What j leaves as it was. -/
def Prom (ops : Array Oper) (kb : List (Nat × Nat)) (Z : Nat → Prop) (j : Nat) (w w' : World) : Prop :=
  w.heap.size ≤ w'.heap.size ∧ ∀ b, b < w.heap.size → (Z b ∨ ((ops[j]?).any fun od => breaksK od.op) = false ∨ (j, b) ∈ kb) → w'.heap[b]? = w.heap[b]?

/-- The operations by a plan. -/
def RunT (P : Program) (Γ : Ctx) (ops : Array Oper) (kb : List (Nat × Nat)) (K : List AV → List It → Prop) : DT → List AV → List It → Prop
  | .done, s, h => K s h
  | .calm i ds t, s, h => ∃ o, ops[i]? = some o ∧ ∃ g, guardA ops s o.guard = some g ∧
      if g then ∃ x, Calm P Γ o s h x ∧ (∀ d ∈ ds, ∀ b ∈ readL s o.op, (d, b) ∈ kb) ∧ RunT P Γ ops kb K t (putA s o.dst x) h
      else RunT P Γ ops kb K t (putA s o.dst (.c undef)) h
  | .fork r, s, h => RunT P Γ ops kb K r s h
  | .alt i t r, s, h => (∃ o, ops[i]? = some o ∧ ∃ g, guardA ops s o.guard = some g ∧
      if g then OpOK P Γ o s h fun E x h' => (breaksK o.op = false → E = []) ∧ (∀ b ∈ E, (i, b) ∉ kb) ∧ RunT P Γ ops kb K t (putA s o.dst x) h'
      else RunT P Γ ops kb K t (putA s o.dst (.c undef)) h) ∧ RunT P Γ ops kb K r s h
  | .stop, _, _ => True

theorem freeB_spec {listed : Array Bool} {i : Nat} {oi : Oper} (h : freeB ops listed i oi = true) : ∀ j oj, ops[j]? = some oj → j ≠ i → listed.getD j true = false → (∀ e ∈ oj.after, Region.binds .any e = true → e.on ≠ i) → oi.apart ops oj = true := by
  intro j oj hj hne hun hno
  have hlt : j < ops.size := (Array.getElem?_eq_some_iff.1 hj).1
  have h1 := List.all_eq_true.1 h j (List.mem_range.2 hlt)
  simp only [hj, Bool.or_eq_true, beq_iff_eq, hne, hun, false_or, Bool.false_eq_true] at h1
  rcases h1 with h1 | h1
  · obtain ⟨e, he, h2⟩ := Array.any_eq_true'.1 h1
    simp only [Bool.and_eq_true, beq_iff_eq] at h2
    exact absurd h2.2 (hno e he h2.1)
  · exact h1

/-- Z: blocks that nobody owns. -/
def Idle (Z : Nat → Prop) (h : List It) (w : World) : Prop := ∀ b, Z b → b < w.heap.size ∧ b ∉ blks h

theorem Idle.next {Z : Nat → Prop} {h h' : List It} {w w' : World} (hz : Idle Z h w) (hs : w.heap.size ≤ w'.heap.size) (H' : Heap Γ h' w') (hk : ∀ u y, RepV Γ h w u y → RepV Γ h' w' u y) : Idle Z h' w' := fun b hb => by
  obtain ⟨h1, h2⟩ := hz b hb
  refine ⟨Nat.lt_of_lt_of_le h1 hs, fun hm => ?_⟩
  have hx : ¬ Γ.X b := H'.x_not hm
  have ho : ¬ Owns Γ h b := fun ho => ho.elim hx h2
  have := hk (.pointer (some ⟨b, 0, none⟩)) (.pe []) (.pe b 0 [] (fun _ => undef) ho h1 (fun j a hj => by simp at hj) (fun j a hj => by simp at hj))
  cases this with
  | pe _ _ _ _ hO => exact hO (.inr hm)

theorem Prom.of_kep {kb : List (Nat × Nat)} {Z : Nat → Prop} {j : Nat} {o : Oper} {h : List It} {E : List Nat} {w w' : World} (ho : ops[j]? = some o) (hz : Idle Z h w) (hk : Kep Γ h E w w') (h1 : breaksK o.op = false → E = []) (h2 : ∀ b ∈ E, (j, b) ∉ kb) :
    Prom ops kb Z j w w' := by
  refine ⟨hk.size, fun b hb hq => hk.block b hb fun ⟨g1, g2⟩ => ?_⟩
  rcases hq with hq | hq | hq
  · exact (hz b hq).2 g1
  · rw [ho] at hq
    rw [h1 (by simpa using hq)] at g2
    cases g2
  · exact h2 b g2 hq

section
variable {kb : List (Nat × Nat)} {K : List AV → List It → Prop} {Qc : Exit → Act → World → Prop}
theorem RunT.sound (hK : ∀ s h a w, K s h → Sim Γ ⟨s, h⟩ a w → Qc .normal a w) (hQ : ∀ c a w, ¬ Qc (.panic c) a w) (hsel : Region.noSelect ops = true) : ∀ (t : DT) (n : Nat) (listed : Array Bool) (s : List AV) (h : List It), treeB ops n listed t = true → LClosed ops listed →
    RunT P Γ ops kb K t s h → ∀ (Z : Nat → Prop) a w, Idle Z h w → Sim Γ ⟨s, h⟩ a w →
      (headB t = true → wpAnyE P ops Qc (Prom ops kb Z) n listed a w) ∧
      ∀ m, n = m + 1 → headB t = false → ∀ i ∈ altIds t, i ∈ Region.ready .any ops listed → wpOp P ops Qc i (fun a' w' => Prom ops kb Z i w w' ∧ wpAnyE P ops Qc (Prom ops kb Z) m (listed.setIfInBounds i true) a' w') a w
  | .done, n, listed, s, h, ho, hc, H, Z, a, w, hz, S => by
    refine ⟨fun _ => ?_, fun m _ _ i hi => by simp [altIds] at hi⟩
    have hr : Region.ready .any ops listed = [] := by cases n <;> simpa [treeB] using ho
    cases n with
    | zero => exact ⟨hr, hK _ _ _ _ H S⟩
    | succ n => exact ⟨fun _ => hK _ _ _ _ H S, fun i hi => by rw [hr] at hi; cases hi⟩
  | .stop, n, listed, s, h, ho, hc, H, Z, a, w, hz, S => ⟨fun h => by simp [headB] at h, fun m _ _ i hi => by simp [altIds] at hi⟩
  | .fork r, 0, listed, s, h, ho, hc, H, Z, a, w, hz, S => by simp [treeB] at ho
  | .fork r, n + 1, listed, s, h, ho, hc, H, Z, a, w, hz, S => by
    simp only [treeB, Bool.and_eq_true, List.all_eq_true] at ho
    obtain ⟨⟨h1, h2⟩, h3⟩ := ho
    refine ⟨fun _ => ⟨fun h0 => by rw [h0] at h2; simp at h2, fun i hi => ?_⟩, fun m _ hh => by simp [headB] at hh⟩
    have hm : i ∈ altIds r := by simpa using h1 i hi
    have hh : headB r = false := by cases r <;> simp [altIds] at hm <;> rfl
    exact (RunT.sound hK hQ hsel r (n + 1) listed s h h3 hc H Z a w hz S).2 n rfl hh i hm hi
  | .calm i ds t, 0, listed, s, h, ho, hc, H, Z, a, w, hz, S => by simp [treeB] at ho
  | .calm i ds t, n + 1, listed, s, h, ho, hc, H, Z, a, w, hz, S => by
    refine ⟨fun _ => ?_, fun m _ hh => by simp [headB] at hh⟩
    obtain ⟨o, hoi, g, hg, H⟩ := H
    simp only [treeB, hoi, Bool.and_eq_true] at ho
    obtain ⟨⟨⟨⟨⟨hcalm, hr⟩, hf⟩, hd⟩, hhead⟩, ho2⟩ := ho
    have hready : i ∈ Region.ready .any ops listed := by simpa using hr
    have hwant := guardA_ok S hg
    have hnb : breaksK o.op = false := by
      cases hop : o.op <;> simp [hop, breaksK, calmK] at hcalm ⊢ <;> exact hcalm
    -- what is known of idle blocks here
    let Z' : Nat → Prop := fun b => b < w.heap.size ∧ b ∉ blks h
    have hz' : Idle Z' h w := fun b hb => hb
    have hPP : ∀ i w1 w2, Prom ops kb Z' i w1 w2 → Prom ops kb Z i w1 w2 := fun i w1 w2 hp => ⟨hp.1, fun b hb hq => hp.2 b hb (hq.imp (fun h => hz b h) id)⟩
    have ih := fun s' h' H' a' w' hz' S' => (RunT.sound hK hQ hsel t n (listed.setIfInBounds i true) s' h' ho2 (hc.set hready) H' Z' a' w' hz' S').1 hhead
    have hrefl : ∀ w1, Prom ops kb Z' i w1 w1 := fun w1 => ⟨Nat.le_refl _, fun _ _ _ => rfl⟩
    refine wpAnyE.imp hPP _ _ _ _ ?_
    cases g with
    | true =>
      simp only [if_true] at H
      obtain ⟨x, hx, hkb, H⟩ := H
      obtain ⟨v, hv, hrep⟩ := hx a w S
      refine wpAnyE_first hoi (Region.noSelect_spec hsel) hQ ops.size (fun w' => w.heap.size ≤ w'.heap.size ∧ (readsK o.op = true → Sure Γ h (readL s o.op) w w'))
        (fun d => readsK o.op = false ∨ ((ops[d]?).any fun od => breaksK od.op) = false ∨ d ∈ ds) (fun d w1 w2 hp hpr hs => ?_) hrefl n listed a w (freeB_spec hf) hc (fun d hun => ?_) hready
        (.inl ⟨hwant, fun w' hs => hv w' hs.2⟩) ⟨Nat.le_refl _, fun _ => Sure.refl w⟩ (ih _ _ H _ _ hz' (S.put S.heap hrep (fun _ _ h => h)))
      · refine ⟨Nat.le_trans hs.1 hpr.1, fun hrd b hb hq => ?_⟩
        refine (hpr.2 b (Nat.lt_of_lt_of_le hb hs.1) ?_).trans (hs.2 hrd b hb hq)
        rcases hp with hp | hp | hp
        · rw [hrd] at hp; cases hp
        · exact .inr (.inl hp)
        · rcases hq with hq | hq
          · exact .inl ⟨hb, hq⟩
          · exact .inr (.inr (hkb d hp b hq))
      · by_cases hrd : readsK o.op = true
        · simp only [hrd, Bool.not_true, Bool.false_or] at hd
          rcases Nat.lt_or_ge d ops.size with hlt | hge
          · have h1 := List.all_eq_true.1 hd d (List.mem_range.2 hlt)
            simp only [Bool.or_eq_true, hun, Bool.false_eq_true, false_or] at h1
            rcases h1 with (h1 | h1) | h1
            · exact .inl (.inr (.inl (by simpa using h1)))
            · exact .inr h1
            · exact .inl (.inr (.inr (by simpa using h1)))
          · exact .inl (.inr (.inl (by simp [hge])))
        · exact .inl (.inl (by simpa using hrd))
    | false =>
      simp only [Bool.false_eq_true, if_false] at H
      refine wpAnyE_first hoi (Region.noSelect_spec hsel) hQ ops.size (fun _ => True) (fun _ => True) (fun _ _ _ _ _ _ => trivial) hrefl n listed a w (freeB_spec hf) hc (fun _ _ => .inl trivial) hready
        (.inr ⟨hwant, rfl⟩) trivial (ih _ _ H _ _ hz' (S.put S.heap (.c _) (fun _ _ h => h)))
  | .alt i t r, 0, listed, s, h, ho, hc, H, Z, a, w, hz, S => by simp [treeB] at ho
  | .alt i t r, n + 1, listed, s, h, ho, hc, H, Z, a, w, hz, S => by
    refine ⟨fun hh => by simp [headB] at hh, fun m hm _ j hj hjr => ?_⟩
    obtain rfl : n = m := by omega
    simp only [treeB, Bool.and_eq_true] at ho
    obtain ⟨⟨⟨hr, hhead⟩, h2⟩, h3⟩ := ho
    have hready : i ∈ Region.ready .any ops listed := by simpa using hr
    simp only [altIds, List.mem_cons] at hj
    by_cases hji : j = i
    · subst hji
      obtain ⟨⟨o, hoi, g, hg, H⟩, _⟩ := H
      have hwant := guardA_ok S hg
      have ih := fun s' h' H' a' w' hz' S' => (RunT.sound hK hQ hsel t n (listed.setIfInBounds j true) s' h' h2 (hc.set hready) H' Z a' w' hz' S').1 hhead
      unfold wpOp
      simp only [hoi]
      cases g with
      | true =>
        simp only [if_true] at H
        rw [if_pos hwant]
        exact .inl (H a w S _ _ fun v w' E x h' hx H' hv hk hs => ⟨Prom.of_kep hoi hz hs hx.1 hx.2.1, ih _ _ hx.2.2 _ _ (hz.next hs.size H' hk) (S.put H' hv hk)⟩)
      | false =>
        simp only [Bool.false_eq_true, if_false] at H
        rw [if_neg (by rw [hwant]; simp)]
        exact ⟨⟨Nat.le_refl _, fun _ _ _ => rfl⟩, ih _ _ H _ _ hz (S.put S.heap (.c _) (fun _ _ h => h))⟩
    · have hj' : j ∈ altIds r := hj.resolve_left hji
      have hh : headB r = false := by cases r <;> simp [altIds] at hj' <;> rfl
      exact (RunT.sound hK hQ hsel r (n + 1) listed s h h3 hc H.2 Z a w hz S).2 n rfl hh j hj' hjr
end

theorem Sim.drew {s : List AV} {h : List It} {a : Act} {w : World} (S : Sim Γ ⟨s, h⟩ a w) : Sim Γ ⟨s, h⟩ a w.drew :=
  ⟨S.len, fun i v x hv hx => RepV.same (S.slot i v x hv hx) (Same.drew w), S.dfr, S.heap.same (Same.drew w)⟩

theorem Run.draw {id : Nat} {s : List AV} {h : List It} (hm : P.follows .mixedOrders = true) (kb : List (Nat × Nat)) (t : DT) (hB : drawB ops t = true) (H : RunT P Γ ops kb (fun s h => Run P Γ k Q ⟨s, h⟩) t s h) :
    Run P Γ (.code (.region id ops true) :: k) Q ⟨s, h⟩ := by
  intro a w S
  simp only [drawB, Bool.and_eq_true] at hB
  obtain ⟨⟨h1, h2⟩, h3⟩ := hB
  refine wp_region_any hm ?_
  refine wpAny_of_E _ _ _ _ ((RunT.sound (fun s h a w hK S => ⟨_, hK, S⟩) (fun c a w ⟨σ, hq, _⟩ => by rw [cont_panic] at hq; exact hq) h1 t _ _ s h h3 (fun j oj _ hl => ?_) H (fun _ => False) a _ (fun b hb => hb.elim) S.drew).1 h2)
  exfalso
  simp only [Array.getD_eq_getD_getElem?, Array.getElem?_replicate] at hl
  split at hl <;> simp at hl
end
end Go.Ab

set_option linter.unusedVariables false
set_option linter.unusedSimpArgs false
namespace Go.Ab

section
variable {P : Program} {Γ : Ctx} {ops : Array Oper} {k : List KI} {Q : St → Prop}

/-- Operations that are left: in the text's order, or by a plan. -/
inductive OT where
  | nil
  | op (o : Oper) (t : OT)
  | calm (o : Oper) (ds : List Nat) (t : OT)
  | fork (r : OT)
  | alt (i : Nat) (o : Oper) (t r : OT)
  | stop
inductive OM where
  | txt
  | rd (ds : List Nat)
  | pos (i : Nat)

/-- Which blocks an operation is known to leave; how the one at hand is taken. -/
abbrev DM := List (Nat × Nat) × OM
def rdC (cb : DM) (s : List AV) (o : Op) : Prop := match cb.2 with
  | .rd ds => ∀ d ∈ ds, ∀ b ∈ readL s o, (d, b) ∈ cb.1
  | _ => True
def eC (cb : DM) (E : List Nat) : Prop := match cb.2 with
  | .pos i => ∀ b ∈ E, (i, b) ∉ cb.1
  | _ => True

def eF (cb : DM) : Prop := match cb.2 with
  | .pos _ => False
  | _ => True

def OT.text : List Oper → OT
  | [] => .nil
  | o :: l => .op o (text l)
def nthOp : Nat → List Oper → Option Oper
  | _, [] => none
  | 0, o :: _ => some o
  | n + 1, _ :: os => nthOp n os
def OT.pick (os : List Oper) : DT → OT
  | .done => .nil
  | .calm i ds t => match nthOp i os with
    | some o => .calm o ds (pick os t)
    | none => .nil
  | .fork r => .fork (pick os r)
  | .alt i t r => match nthOp i os with
    | some o => .alt i o (pick os t) (pick os r)
    | none => .nil
  | .stop => .stop
theorem nthOp_eq : ∀ (l : List Oper) (i : Nat), nthOp i l = l[i]?
  | [], i => by cases i <;> rfl
  | o :: l, 0 => rfl
  | o :: l, i + 1 => by simp [nthOp, nthOp_eq l i]

/-- What the operations come to. -/
def RunO (P : Program) (Γ : Ctx) (ops : Array Oper) (kb : List (Nat × Nat)) (k : List KI) (Q : St → Prop) : OT → List AV → List It → Prop
  | .nil, s, h => Run P Γ k Q ⟨s, h⟩
  | .op o t, s, h => ∃ g, guardA ops s o.guard = some g ∧
      if g then OpOK P Γ o s h fun _ x h' => RunO P Γ ops kb k Q t (putA s o.dst x) h'
      else RunO P Γ ops kb k Q t (putA s o.dst (.c undef)) h
  | .calm o ds t, s, h => ∃ g, guardA ops s o.guard = some g ∧
      if g then rdC (kb, .rd ds) s o.op ∧ ∃ x, Calm P Γ o s h x ∧ RunO P Γ ops kb k Q t (putA s o.dst x) h
      else RunO P Γ ops kb k Q t (putA s o.dst (.c undef)) h
  | .fork r, s, h => RunO P Γ ops kb k Q r s h
  | .alt i o t r, s, h => (∃ g, guardA ops s o.guard = some g ∧
      if g then OpOK P Γ o s h fun E x h' => (breaksK o.op = false → E = []) ∧ eC (kb, .pos i) E ∧ RunO P Γ ops kb k Q t (putA s o.dst x) h'
      else RunO P Γ ops kb k Q t (putA s o.dst (.c undef)) h) ∧ RunO P Γ ops kb k Q r s h
  | .stop, _, _ => True

theorem RunO.text {kb : List (Nat × Nat)} : ∀ {l : List Oper} {s : List AV} {h : List It}, RunO P Γ ops kb k Q (OT.text l) s h → RunL P Γ ops l k Q s h
  | [], s, h, H => RunL.nil H
  | o :: l, s, h, H => by
    obtain ⟨g, hg, H⟩ := H
    cases g with
    | false => exact RunL.skip hg (RunO.text (by simpa using H))
    | true =>
      refine RunL.op hg ?_
      simp only [if_true] at H
      intro a w S K' Q' hK
      exact H a w S K' Q' fun v w' pure x h' hx => hK v w' pure x h' (RunO.text hx)

theorem RunO.draw {kb : List (Nat × Nat)} : ∀ {t : DT} {s : List AV} {h : List It} {n : Nat} {listed : Array Bool}, treeB ops n listed t = true → RunO P Γ ops kb k Q (OT.pick ops.toList t) s h → RunT P Γ ops kb (fun s h => Run P Γ k Q ⟨s, h⟩) t s h
  | .done, s, h, _, _, _, H => H
  | .stop, s, h, _, _, _, H => trivial
  | .fork r, s, h, n, listed, hB, H => by
    cases n with
    | zero => simp [treeB] at hB
    | succ n =>
      simp only [treeB, Bool.and_eq_true] at hB
      simp only [OT.pick, RunO] at H
      show RunT P Γ ops kb _ r s h
      exact RunO.draw hB.2 H
  | .calm i ds t, s, h, n, listed, hB, H => by
    cases n with
    | zero => simp [treeB] at hB
    | succ n =>
      cases ho : ops[i]? with
      | none => simp [treeB, ho] at hB
      | some o =>
        simp only [treeB, ho, Bool.and_eq_true] at hB
        have hn : nthOp i ops.toList = some o := by rw [nthOp_eq]; simpa using ho
        simp only [OT.pick, hn, RunO] at H
        obtain ⟨g, hg, H⟩ := H
        refine ⟨o, ho, g, hg, ?_⟩
        cases g with
        | false => simp only [Bool.false_eq_true, if_false] at H ⊢; exact RunO.draw hB.2 H
        | true =>
          simp only [if_true] at H ⊢
          obtain ⟨hr, x, hx, H⟩ := H
          exact ⟨x, hx, hr, RunO.draw hB.2 H⟩
  | .alt i t r, s, h, n, listed, hB, H => by
    cases n with
    | zero => simp [treeB] at hB
    | succ n =>
      simp only [treeB, Bool.and_eq_true] at hB
      have hlt : i < ops.size := by
        obtain ⟨_, o, ho, _⟩ := mem_ready.1 (show i ∈ Region.ready .any ops listed by have := hB.1.1.1; simp at this; exact this)
        exact (Array.getElem?_eq_some_iff.1 ho).1
      have ho : ops[i]? = some ops[i] := by simp [hlt]
      have hn : nthOp i ops.toList = some ops[i] := by rw [nthOp_eq]; simp [hlt]
      simp only [OT.pick, hn, RunO] at H
      obtain ⟨⟨g, hg, H⟩, H2⟩ := H
      refine ⟨⟨ops[i], ho, g, hg, ?_⟩, RunO.draw hB.2 H2⟩
      cases g with
      | false => simp only [Bool.false_eq_true, if_false] at H ⊢; exact RunO.draw hB.1.2 H
      | true =>
        simp only [if_true] at H ⊢
        intro a w S K' Q' hK
        exact H a w S K' Q' fun v w' E x h' hx => hK v w' E x h' ⟨hx.1, hx.2.1, RunO.draw hB.1.2 hx.2.2⟩
end

inductive Res where
  | calm (p : Prop) (x : AV)
  | new (t : TypeId) (cs : List AV)
  | row (p : Prop) (e : TypeId) (k len : Nat) (xs : List AV)
  | sto (b : Nat) (it : It)
  | stoIf (p : Prop) (b : Nat) (it : It)
  | app (p : Prop) (b : Nat) (e : TypeId) (k : Nat) (fr : Bool) (es ys : List AV)
  | app0 (p : Prop) (x : AV) (e : TypeId) (k : Nat) (ys : List AV)
  | any (p : Bool → Prop)
  | frz (b : Nat) (x : AV)
  | call (f : FuncId) (xs : List AV)
  | fail

def srcA (h : List It) (k : Nat) : AV → Option (List AV)
  | .c (.slice none 0 0) => some []
  | .mt => some []
  | .c (.slice (some ⟨b, o, none⟩) n _) => match find b h with
    | some (.row _ _ k' _ _ es) => if k' = k ∧ (o = (o / k) * k ∨ n = 0) ∧ o / k + n ≤ es.length then some ((es.drop (o / k)).take n) else none
    | _ => none
  | .sl _ k' es => if k' = k then some es else none
  | _ => none

/-- One cell each. -/
def onesP (ys : List AV) : Prop := ys.all (fun e => e.cells.all AV.one) = true
def appR (P : Program) (h : List It) (t : TypeId) (x y : AV) : Res :=
  match elemOfS P t with
  | some e => if elemOK P e then
      match srcA h (szOf P e) y with
      | some ys => match x with
        | .c (.slice none 0 0) => .app0 (onesP ys ∧ ys.length * bytesOf P e ≤ 140737488355328) (.c (.slice none 0 0)) e (szOf P e) ys
        | .mt => .app0 (onesP ys ∧ ys.length * bytesOf P e ≤ 140737488355328) .mt e (szOf P e) ys
        | .c (.slice (some ⟨b, 0, none⟩) n cap) => match find b h with
          | some (.row _ e' k' cap' fr es) => if e' = e ∧ k' = szOf P e ∧ cap' = cap then
              .app (onesP ys ∧ n ≤ es.length ∧ (n + ys.length) * bytesOf P e ≤ 140737488355328) b e (szOf P e) fr (es.take n) ys else .fail
          | _ => .fail
        | _ => .fail
      | none => .fail
    else .fail
  | none => .fail

def stoR (P : Program) (h : List It) (t : TypeId) (ad x : AV) : Res :=
  match ad with
  | .c (.pointer (some ⟨b, off, none⟩)) => match find b h with
    | some (.obj _ t' cs) => if hasT P t && x.okB && x.cells.length == szOf P t && decide (off + szOf P t ≤ cs.length) && x.cells.all AV.one then
        .sto b (.obj b t' (cs.take off ++ x.cells ++ cs.drop (off + szOf P t))) else .fail
    | some (.row _ e k cap fr es) => if hasT P t && x.okB && x.cells.length == szOf P t && x.cells.all AV.one && 0 < k then
        (if off % k = 0 ∧ szOf P t = k then .stoIf (off / k < es.length) b (.row b e k cap fr (es.set (off / k) x))
          else .stoIf (off / k < es.length ∧ off % k + szOf P t ≤ k) b (.row b e k cap fr (es.set (off / k) (.agg (((es.getD (off / k) .bad).cells.take (off % k)) ++ x.cells ++ ((es.getD (off / k) .bad).cells.drop (off % k + szOf P t)))))))
        else .fail
    | _ => .fail
  | _ => .fail

def rowR (P : Program) (t : TypeId) (len : Nat) (ix : List Nat) (xs : List AV) : Res :=
  match elemOfS P t with
  | some e => if elemOK P e && ix == List.range len && xs.all (fun x => x.okB && x.cells.length == szOf P e) then .row (len * szOf P e ≤ 16777216) e (szOf P e) len xs else .fail
  | none => .fail

def nilR (P : Program) (op : BinOp) (t : TypeId) (x y : AV) : Res :=
  match elemOfS P t, y, op with
  | some _, .c (.slice none _ _), .eql => match x with
    | .sl _ _ es => .any (nilP .eql es)
    | .mt => .any (nilP .eql [])
    | _ => .fail
  | some _, .c (.slice none _ _), .neq => match x with
    | .sl _ _ es => .any (nilP .neq es)
    | .mt => .any (nilP .neq [])
    | _ => .fail
  | _, _, _ => .fail
def convR (P : Program) (h : List It) (src dst : TypeId) (x : AV) : Res :=
  match elemOfS P src with
  | some e => if src = dst ∧ isByteT P e then
      match x with
      | .c (.slice (some ⟨b, 0, none⟩) n cp) => match find b h with
        | some (.row _ _ k cap fr es) => if n = es.length ∧ cp = cap then .frz b (.sl fr k es) else .fail
        | _ => .fail
      | _ => .fail
    else .fail
  | none => .fail

def actR (P : Program) (s : List AV) (h : List It) : Op → Res
  | .binOp op t x y _ => nilR P op t (evA s x) (evA s y)
  | .convert src dst x => convR P h src dst (evA s x)
  | .alloc t => match zeroOf P t with
    | some z => .new t (AV.c z).cells
    | none => .fail
  | .box t x => if (evA s x).okB then .new t (evA s x).cells else .fail
  | .buildSlice t len parts => rowR P t len (parts.toList.map (·.1)) (parts.toList.map fun p => evA s p.2)
  | .store t ad x => stoR P h t (evA s ad) (evA s x)
  | .call c => match c.callee with
    | .builtin .append => match c.args.toList, c.argTypes.toList with
      | [x, y], [t, t'] => if t = t' then appR P h t (evA s x) (evA s y) else .fail
      | _, _ => .fail
    | .value f => match evA s f with
      | .c (.func (.func fid) u v) => .call fid (u.toList.map .c ++ c.args.toList.map (evA s) ++ v.toList.map .c)
      | _ => .fail
    | _ => .fail
  | _ => .fail

def resC : Option (Prop × AV) → Res
  | some (p, x) => .calm p x
  | none => .fail
def resD : Option (Prop × AV) → Res → Res
  | some (p, x), _ => .calm p x
  | none, r => r
def stepR (P : Program) (s : List AV) (h : List It) (o : Op) : Res := bif calmK o then resD (stepC P s h o) (actR P s h o) else actR P s h o
def stepM (cb : DM) (P : Program) (s : List AV) (h : List It) (o : Op) : Res := match cb.2 with
  | .rd _ => resC (stepC P s h o)
  | _ => stepR P s h o

mutual
/-- n: how many steps at most. -/
def ex (P : Program) (Γ : Ctx) : Nat → Array Oper → DM → OT → List KI → (St → Prop) → List AV → List It → Prop
  | 0, _, _, _, _, _, _, _ => False
  | n + 1, ops, cb, .op o t, k, Q, s, h => exG P Γ n ops (cb.1, .txt) o t k Q s h (guardA ops s o.guard)
  | n + 1, ops, cb, .calm o ds t, k, Q, s, h => exG P Γ n ops (cb.1, .rd ds) o t k Q s h (guardA ops s o.guard)
  | n + 1, ops, cb, .fork r, k, Q, s, h => ex P Γ n ops cb r k Q s h
  | n + 1, ops, cb, .alt i o t r, k, Q, s, h => exG P Γ n ops (cb.1, .pos i) o t k Q s h (guardA ops s o.guard) ∧ ex P Γ n ops cb r k Q s h
  | _ + 1, _, _, .stop, _, _, _, _ => True
  | n + 1, _, _, .nil, [], Q, s, h => Q ⟨s, h⟩
  | n + 1, ops, cb, .nil, .code .skip :: k, Q, s, h => ex P Γ n ops cb .nil k Q s h
  | n + 1, ops, cb, .nil, .code (.label _) :: k, Q, s, h => ex P Γ n ops cb .nil k Q s h
  | n + 1, ops, cb, .nil, .code (.seq a b) :: k, Q, s, h => ex P Γ n ops cb .nil (.code a :: .code b :: k) Q s h
  | n + 1, ops, cb, .nil, .code (.block id c) :: k, Q, s, h => ex P Γ n ops cb .nil (.code c :: .blk id :: k) Q s h
  | n + 1, _, cb, .nil, .code (.region _ ops' false) :: k, Q, s, h => ex P Γ n ops' cb (OT.text ops'.toList) k Q s h
  | n + 1, _, _, .nil, .code .ret :: _, Q, s, h => Q ⟨s, h⟩
  | n + 1, ops, cb, .nil, .code (.exit id) :: k, Q, s, h => match exitK id k with
    | some k' => ex P Γ n ops cb .nil k' Q s h
    | none => False
  | n + 1, ops, cb, .nil, .blk _ :: k, Q, s, h => ex P Γ n ops cb .nil k Q s h
  | n + 1, ops, cb, .nil, .code (.cond c x y) :: k, Q, s, h => exC P Γ n ops cb x y k Q s h (evA s c)
  | n + 1, ops, cb, .nil, .code (.loop c) :: k, Q, s, h => Run P Γ (.loop c :: k) Q ⟨s, h⟩
  | n + 1, ops, cb, .nil, k, Q, s, h => Run P Γ k Q ⟨s, h⟩
def exG (P : Program) (Γ : Ctx) : Nat → Array Oper → DM → Oper → OT → List KI → (St → Prop) → List AV → List It → Option Bool → Prop
  | 0, _, _, _, _, _, _, _, _, _ => False
  | n + 1, ops, cb, o, os, k, Q, s, h, some b => (b = true → rdC cb s o.op ∧ exS P Γ n ops cb o.dst os k Q s h (stepM cb P s h o.op)) ∧ (b = false → ex P Γ n ops cb os k Q (putA s o.dst (.c undef)) h)
  | n + 1, _, _, _, _, _, _, _, _, none => False
def exC (P : Program) (Γ : Ctx) : Nat → Array Oper → DM → Code → Code → List KI → (St → Prop) → List AV → List It → AV → Prop
  | 0, _, _, _, _, _, _, _, _, _ => False
  | n + 1, ops, cb, x, y, k, Q, s, h, .c (.bool b) => (b = true → ex P Γ n ops cb .nil (.code x :: k) Q s h) ∧ (b = false → ex P Γ n ops cb .nil (.code y :: k) Q s h)
  | n + 1, _, _, _, _, _, _, _, _, _ => False
def exS (P : Program) (Γ : Ctx) : Nat → Array Oper → DM → Option Tmp → OT → List KI → (St → Prop) → List AV → List It → Res → Prop
  | 0, _, _, _, _, _, _, _, _, _ => False
  | n + 1, ops, cb, dst, os, k, Q, s, h, .calm p x => p ∧ ex P Γ n ops cb os k Q (putA s dst x) h
  | n + 1, ops, cb, dst, os, k, Q, s, h, .new t cs => ∀ b, b ∉ blks h → ex P Γ n ops cb os k Q (putA s dst (.c (.pointer (some ⟨b, 0, none⟩)))) (.obj b t cs :: h)
  | n + 1, ops, cb, dst, os, k, Q, s, h, .row p e kk len xs => p ∧ ∀ b, b ∉ blks h → ex P Γ n ops cb os k Q (putA s dst (.c (.slice (some ⟨b, 0, none⟩) len len))) (.row b e kk len true xs :: h)
  | n + 1, ops, cb, dst, os, k, Q, s, h, .sto b it => eC cb [b] ∧ ex P Γ n ops cb os k Q (putA s dst (.c undef)) (repl b it h)
  | n + 1, ops, cb, dst, os, k, Q, s, h, .app p b e kk fr es ys => p ∧ eC cb [b] ∧ ∀ b' cap', b' ∉ blks (del b h) →
      ex P Γ n ops cb os k Q (putA s dst (.c (.slice (some ⟨b', 0, none⟩) (es ++ ys).length cap'))) (repl b (.row b' e kk cap' fr (es ++ ys)) h)
  | n + 1, ops, cb, dst, os, k, Q, s, h, .stoIf p b it => p ∧ eC cb [b] ∧ ex P Γ n ops cb os k Q (putA s dst (.c undef)) (repl b it h)
  | n + 1, ops, cb, dst, os, k, Q, s, h, .any p => ∀ b, p b → ex P Γ n ops cb os k Q (putA s dst (.c (.bool b))) h
  | n + 1, ops, cb, dst, os, k, Q, s, h, .frz b x => eF cb ∧ ex P Γ n ops cb os k Q (putA s dst x) (del b h)
  | n + 1, ops, cb, dst, os, k, Q, s, h, .app0 p x e kk ys => p ∧ (ys = [] → ex P Γ n ops cb os k Q (putA s dst x) h) ∧
      (ys ≠ [] → ∀ b' cap', b' ∉ blks h → ex P Γ n ops cb os k Q (putA s dst (.c (.slice (some ⟨b', 0, none⟩) ys.length cap'))) (.row b' e kk cap' true ys :: h))
  | n + 1, ops, cb, dst, os, k, Q, s, h, .call f xs => CallOK P Γ h f xs fun E r h' => eC cb E ∧ ex P Γ n ops cb os k Q (putA s dst r) h'
  | n + 1, _, _, _, _, _, _, _, _, .fail => False
end
end Go.Ab

set_option linter.unusedVariables false
set_option linter.unusedSimpArgs false
namespace Go.Ab
section
variable {P : Program} {Γ : Ctx} {ops : Array Oper} {k : List KI} {Q : St → Prop}

theorem stepR_calm {s : List AV} {h : List It} {o : Op} (hc : calmK o = true) : stepR P s h o = resD (stepC P s h o) (actR P s h o) := by simp [stepR, hc]
theorem stepR_act {s : List AV} {h : List It} {o : Op} (hc : calmK o = false) : stepR P s h o = actR P s h o := by simp [stepR, hc]

theorem rowR_eq {t : TypeId} {len : Nat} {ix : List Nat} {xs : List AV} {r : Res} (hr : rowR P t len ix xs = r) (hf : r ≠ .fail) :
    ∃ e, elemOfS P t = some e ∧ elemOK P e = true ∧ ix = List.range len ∧ (∀ x ∈ xs, x.okB = true ∧ x.cells.length = szOf P e) ∧ r = .row (len * szOf P e ≤ 16777216) e (szOf P e) len xs := by
  unfold rowR at hr
  split at hr
  · rename_i e he
    split at hr
    · rename_i hc
      simp only [Bool.and_eq_true, beq_iff_eq, List.all_eq_true] at hc
      exact ⟨e, he, hc.1.1, hc.1.2, hc.2, hr.symm⟩
    · exact absurd hr.symm hf
  · exact absurd hr.symm hf

theorem src_of {h : List It} {k : Nat} {x : AV} {es : List AV} (hs : srcA h k x = some es) : Src h k x es := by
  unfold srcA at hs
  split at hs
  · cases hs; exact .nil
  · cases hs; exact .mt
  · rename_i b o n c
    split at hs
    · rename_i b' t k' cap fr es' hf
      split at hs
      · rename_i hc
        obtain ⟨rfl, ho, hn⟩ := hc
        cases hs
        have : b' = b := (find_mem hf).2
        subst this
        exact .row hf ho hn
      · cases hs
    · cases hs
  · rename_i fr k' es'
    split at hs
    · rename_i hc; subst hc; cases hs; exact .sl
    · cases hs
  · cases hs

theorem rowR_ne {t : TypeId} {len : Nat} {ix : List Nat} {xs : List AV} {p : Prop} {x : AV} (hr : rowR P t len ix xs = .calm p x) : False := by
  unfold rowR at hr
  repeat' (split at hr)
  all_goals cases hr
theorem stoR_ne {h : List It} {t : TypeId} {a b : AV} {p : Prop} {x : AV} (hr : stoR P h t a b = .calm p x) : False := by
  unfold stoR at hr
  repeat' (split at hr)
  all_goals cases hr
theorem appR_ne {h : List It} {t : TypeId} {a b : AV} {p : Prop} {x : AV} (hr : appR P h t a b = .calm p x) : False := by
  unfold appR at hr
  repeat' (split at hr)
  all_goals cases hr
theorem nilR_ne {op : BinOp} {t : TypeId} {a b : AV} {p : Prop} {x : AV} (hr : nilR P op t a b = .calm p x) : False := by
  unfold nilR at hr
  repeat' (split at hr)
  all_goals cases hr
theorem convR_ne {h : List It} {t u : TypeId} {a : AV} {p : Prop} {x : AV} (hr : convR P h t u a = .calm p x) : False := by
  unfold convR at hr
  repeat' (split at hr)
  all_goals cases hr
theorem actR_ne {s : List AV} {h : List It} {o : Op} {p : Prop} {x : AV} (hr : actR P s h o = .calm p x) : False := by
  unfold actR at hr
  repeat' (split at hr)
  all_goals first | (cases hr; done) | exact rowR_ne hr | exact stoR_ne hr | exact appR_ne hr | exact nilR_ne hr | exact convR_ne hr

theorem eC_nil {cb : DM} : eC cb [] := by unfold eC; split <;> simp

/-- What follows an act. -/
def actH (P : Program) (Γ : Ctx) (h : List It) (cb : DM) (F : AV → List It → Prop) : Res → Prop
  | .calm p x => False
  | .new t cs => ∀ b, b ∉ blks h → F (.c (.pointer (some ⟨b, 0, none⟩))) (.obj b t cs :: h)
  | .row p e kk len xs => p ∧ ∀ b, b ∉ blks h → F (.c (.slice (some ⟨b, 0, none⟩) len len)) (.row b e kk len true xs :: h)
  | .sto b it => eC cb [b] ∧ F (.c undef) (repl b it h)
  | .app p b e kk fr es ys => p ∧ eC cb [b] ∧ ∀ b' cap', b' ∉ blks (del b h) → F (.c (.slice (some ⟨b', 0, none⟩) (es ++ ys).length cap')) (repl b (.row b' e kk cap' fr (es ++ ys)) h)
  | .stoIf p b it => p ∧ eC cb [b] ∧ F (.c undef) (repl b it h)
  | .any p => ∀ b, p b → F (.c (.bool b)) h
  | .frz b x => eF cb ∧ F x (del b h)
  | .app0 p x e kk ys => p ∧ (ys = [] → F x h) ∧ (ys ≠ [] → ∀ b' cap', b' ∉ blks h → F (.c (.slice (some ⟨b', 0, none⟩) ys.length cap')) (.row b' e kk cap' true ys :: h))
  | .call f xs => CallOK P Γ h f xs fun E r h' => eC cb E ∧ F r h'
  | .fail => False

theorem act_sound {o : Oper} {s : List AV} {h : List It} {cb : DM} {F : AV → List It → Prop}
    (H : actH P Γ h cb F (actR P s h o.op)) : OpOK P Γ o s h fun E x h' => ((∃ i, cb.2 = .pos i) → breaksK o.op = false → E = []) ∧ eC cb E ∧ F x h' := by
  unfold actR at H
  split at H
  · rename_i op t x y ty ho
    unfold nilR at H
    split at H
    · rename_i e n c he hy
      split at H
      · rename_i fr k es hx; exact act_nil ho (.inl rfl) he (.inl hx) hy fun b hb => ⟨fun _ _ => rfl, eC_nil, H b hb⟩
      · rename_i hx; exact act_nil (fr := true) (k := 0) ho (.inl rfl) he (.inr ⟨hx, rfl⟩) hy fun b hb => ⟨fun _ _ => rfl, eC_nil, H b hb⟩
      · exact H.elim
    · rename_i e n c he hy
      split at H
      · rename_i fr k es hx; exact act_nil ho (.inr rfl) he (.inl hx) hy fun b hb => ⟨fun _ _ => rfl, eC_nil, H b hb⟩
      · rename_i hx; exact act_nil (fr := true) (k := 0) ho (.inr rfl) he (.inr ⟨hx, rfl⟩) hy fun b hb => ⟨fun _ _ => rfl, eC_nil, H b hb⟩
      · exact H.elim
    · exact H.elim
  · rename_i src dst x ho
    unfold convR at H
    split at H
    · rename_i e he
      split at H
      · rename_i hc
        obtain ⟨rfl, hb⟩ := hc
        split at H
        · rename_i b n cap hx
          cases hf : find b h with
          | none => simp [hf, actH] at H
          | some it =>
            cases it with
            | row b2 t2 k cap2 fr es =>
              have hbb : b2 = b := (find_mem hf).2
              subst hbb
              by_cases hn : n = es.length ∧ cap = cap2
              · obtain ⟨rfl, rfl⟩ := hn
                simp only [hf, and_self, if_true, actH] at H
                refine act_convBytes ho (und_slice he) hb hx hf rfl ⟨fun hi => ?_, ?_, H.2⟩
                · obtain ⟨i, hi⟩ := hi
                  have := H.1
                  unfold eF at this
                  rw [hi] at this
                  exact this.elim
                · have := H.1
                  unfold eF at this
                  unfold eC
                  split
                  · rename_i hi; rw [hi] at this; exact this.elim
                  · trivial
              · simp [hf, hn, actH] at H
            | _ => simp [hf, actH] at H
        · exact H.elim
      · exact H.elim
    · exact H.elim
  · rename_i t ho
    cases hz : zeroOf P t with
    | none => simp [hz, actH] at H
    | some z =>
      simp only [hz, actH] at H
      exact act_alloc ho hz fun b hb => ⟨fun _ _ => rfl, eC_nil, H b hb⟩
  · rename_i t x ho
    by_cases hx : (evA s x).okB = true
    · simp only [hx, if_true, actH] at H
      exact act_box ho hx fun b hb => ⟨fun _ _ => rfl, eC_nil, H b hb⟩
    · simp [hx, actH] at H
  · rename_i t len parts ho
    generalize hr : rowR P t len (parts.toList.map (·.1)) (parts.toList.map fun p => evA s p.2) = r at H
    by_cases hf : r = .fail
    · subst hf; exact H.elim
    · obtain ⟨e, he, hok, hix, hxs, rfl⟩ := rowR_eq hr hf
      simp only [actH] at H
      exact act_buildSlice ho he hok rfl hix rfl hxs H.1 fun b hb => ⟨fun _ _ => rfl, eC_nil, H.2 b hb⟩
  · rename_i t ad x ho
    unfold stoR at H
    split at H
    · rename_i b off hq
      cases hf : find b h with
      | none => simp [hf, actH] at H
      | some it =>
        cases it with
        | obj b' t' cs =>
          simp only [hf] at H
          split at H
          · rename_i hcnd
            simp only [Bool.and_eq_true, beq_iff_eq, decide_eq_true_eq] at hcnd
            obtain ⟨⟨⟨⟨g1, g2⟩, g3⟩, g4⟩, g5⟩ := hcnd
            have hb : b' = b := (find_mem hf).2
            subst hb
            exact act_store ho hq hf g1 g2 g3 g4 g5 ⟨fun _ hb => by rw [ho] at hb; simp [breaksK, calmK] at hb, H.1, H.2⟩
          · exact H.elim
        | row b' t' k cap fr es =>
          have hb : b' = b := (find_mem hf).2
          subst hb
          simp only [hf] at H
          split at H
          · rename_i hcnd
            simp only [Bool.and_eq_true, beq_iff_eq, decide_eq_true_eq] at hcnd
            obtain ⟨⟨⟨⟨g1, g2⟩, g3⟩, g4⟩, g5⟩ := hcnd
            split at H
            · rename_i hq'
              obtain ⟨p1, p2, p3⟩ := H
              exact act_storeElem ho hq hf g1 g2 g3 g4 g5 hq' p1 ⟨fun _ hb => by rw [ho] at hb; simp [breaksK, calmK] at hb, p2, p3⟩
            · obtain ⟨⟨p1, p0⟩, p2, p3⟩ := H
              exact act_storePart ho hq hf g1 g2 g3 g4 g5 p1 p0 ⟨fun _ hb => by rw [ho] at hb; simp [breaksK, calmK] at hb, p2, p3⟩
          · exact H.elim
        | _ => simp [hf, actH] at H
    · exact H.elim
  · rename_i c ho
    obtain ⟨cal, args, tys⟩ := c
    simp only at H
    cases cal with
    | builtin bi =>
      cases bi <;> simp only at H <;> first | exact H.elim | skip
      split at H
      · rename_i x y t t' h1 h2
        split at H
        · rename_i hq
          subst hq
          have e1 : args = #[x, y] := by cases args; simp_all
          have e2 : tys = #[t, t] := by cases tys; simp_all
          subst e1; subst e2
          have hbr : breaksK o.op = false → False := fun hb => by rw [ho] at hb; simp [breaksK, calmK] at hb
          unfold appR at H
          split at H
          · rename_i e he
            split at H
            · rename_i hok
              cases hs : srcA h (szOf P e) (evA s y) with
              | none => simp [hs, actH] at H
              | some ys =>
                simp only [hs] at H
                split at H
                · rename_i hx
                  obtain ⟨⟨p1, p2⟩, H1, H2⟩ := H
                  exact act_append_nil ho he hok rfl (.inl hx) (src_of hs) p1 p2 (fun h0 => ⟨fun _ _ => rfl, eC_nil, (by rw [hx]; exact H1 h0)⟩) fun h0 b' cap' hb => ⟨fun _ _ => rfl, eC_nil, H2 h0 b' cap' hb⟩
                · rename_i hx
                  obtain ⟨⟨p1, p2⟩, H1, H2⟩ := H
                  exact act_append_nil ho he hok rfl (.inr hx) (src_of hs) p1 p2 (fun h0 => ⟨fun _ _ => rfl, eC_nil, (by rw [hx]; exact H1 h0)⟩) fun h0 b' cap' hb => ⟨fun _ _ => rfl, eC_nil, H2 h0 b' cap' hb⟩
                · rename_i b n cap hx
                  cases hf : find b h with
                  | none => simp [hf, actH] at H
                  | some it =>
                    cases it with
                    | row b2 e' k' cap' fr es =>
                      simp only [hf] at H
                      split at H
                      · rename_i hcnd
                        obtain ⟨rfl, rfl, rfl⟩ := hcnd
                        have hb : b2 = b := (find_mem hf).2
                        subst hb
                        obtain ⟨⟨p1, p0, p2⟩, p3, H1⟩ := H
                        exact act_append ho he hok rfl hx hf p0 (src_of hs) p1 p2 fun b' cap' hb => ⟨fun _ hbk => (hbr hbk).elim, p3, H1 b' cap' hb⟩
                      · exact H.elim
                    | _ => simp [hf, actH] at H
                · exact H.elim
            · exact H.elim
          · exact H.elim
        · exact H.elim
      · exact H.elim
    | value f =>
      simp only at H
      split at H
      · rename_i fid u v hf
        refine act_call ho hf (H.mono fun E r h' hq => ⟨fun _ hbk => ?_, hq.1, hq.2⟩)
        rw [ho] at hbk
        simp [breaksK, calmK] at hbk
      · exact H.elim
    | invoke r m => exact H.elim
  · exact H.elim

theorem ex_sound : ∀ n : Nat,
    (∀ ops (cb : DM) os k Q s h, ex P Γ n ops cb os k Q s h → RunO P Γ ops cb.1 k Q os s h) ∧
    (∀ ops (cb : DM) (o : Oper) os k Q s h, exS P Γ n ops cb o.dst os k Q s h (stepM cb P s h o.op) →
      ((∃ ds, cb.2 = .rd ds) → ∃ x, Calm P Γ o s h x ∧ RunO P Γ ops cb.1 k Q os (putA s o.dst x) h) ∧
      ((∀ ds, cb.2 ≠ .rd ds) → OpOK P Γ o s h fun E x h' => ((∃ i, cb.2 = .pos i) → breaksK o.op = false → E = []) ∧ eC cb E ∧ RunO P Γ ops cb.1 k Q os (putA s o.dst x) h')) ∧
    (∀ ops (cb : DM) x y k Q s h c, exC P Γ n ops cb x y k Q s h (evA s c) → Run P Γ (.code (.cond c x y) :: k) Q ⟨s, h⟩) ∧
    (∀ ops (cb : DM) (o : Oper) os k Q s h g, exG P Γ n ops cb o os k Q s h g → ∃ b, g = some b ∧ (b = true → rdC cb s o.op ∧
      ((∃ ds, cb.2 = .rd ds) → ∃ x, Calm P Γ o s h x ∧ RunO P Γ ops cb.1 k Q os (putA s o.dst x) h) ∧
      ((∀ ds, cb.2 ≠ .rd ds) → OpOK P Γ o s h fun E x h' => ((∃ i, cb.2 = .pos i) → breaksK o.op = false → E = []) ∧ eC cb E ∧ RunO P Γ ops cb.1 k Q os (putA s o.dst x) h')) ∧ (b = false → RunO P Γ ops cb.1 k Q os (putA s o.dst (.c undef)) h))
  | 0 => ⟨fun _ _ _ _ _ _ _ H => by simp only [ex] at H, fun _ _ _ _ _ _ _ _ H => by simp only [exS] at H, fun _ _ _ _ _ _ _ _ _ H => by simp only [exC] at H, fun _ _ _ _ _ _ _ _ _ H => by simp only [exG] at H⟩
  | n + 1 => by
    obtain ⟨i1, i2, i3, i4⟩ := ex_sound n
    refine ⟨?_, ?_, ?_, ?_⟩
    · intro ops cb os k Q s h H
      cases os with
      | op o os =>
        simp only [ex] at H
        obtain ⟨b, hb, h1, h2⟩ := i4 _ _ _ _ _ _ _ _ _ H
        refine ⟨b, hb, ?_⟩
        cases b with
        | true =>
          simp only [if_true]
          have := (h1 rfl).2.2 (fun ds h => by cases h)
          intro a w S K' Q' hK
          exact this a w S K' Q' fun v w' E x h' hx => hK v w' E x h' hx.2.2
        | false => simp only [Bool.false_eq_true, if_false]; exact h2 rfl
      | calm o ds os =>
        simp only [ex] at H
        obtain ⟨b, hb, h1, h2⟩ := i4 _ _ _ _ _ _ _ _ _ H
        refine ⟨b, hb, ?_⟩
        cases b with
        | true =>
          simp only [if_true]
          obtain ⟨hr, this, _⟩ := h1 rfl
          exact ⟨hr, this ⟨ds, rfl⟩⟩
        | false => simp only [Bool.false_eq_true, if_false]; exact h2 rfl
      | fork r => simp only [ex] at H; show RunO P Γ ops cb.1 k Q r s h; exact i1 _ _ _ _ _ _ _ H
      | alt i o t r =>
        simp only [ex] at H
        obtain ⟨b, hb, h1, h2⟩ := i4 _ _ _ _ _ _ _ _ _ H.1
        refine ⟨⟨b, hb, ?_⟩, i1 _ _ _ _ _ _ _ H.2⟩
        cases b with
        | true =>
          simp only [if_true]
          have := (h1 rfl).2.2 (fun ds h => by cases h)
          intro a w S K' Q' hK
          exact this a w S K' Q' fun v w' E x h' hx => hK v w' E x h' ⟨hx.1 ⟨i, rfl⟩, hx.2.1, hx.2.2⟩
        | false => simp only [Bool.false_eq_true, if_false]; exact h2 rfl
      | stop => trivial
      | nil =>
        cases k with
        | nil => simp only [ex] at H; exact Run.nil H
        | cons x k =>
          cases x with
          | blk id => simp only [ex] at H; exact Run.blk (i1 _ _ _ _ _ _ _ H)
          | loop c => simp only [ex] at H; exact H
          | code c =>
            cases c with
            | skip => simp only [ex] at H; exact Run.skip (i1 _ _ _ _ _ _ _ H)
            | label l => simp only [ex] at H; exact Run.label (i1 _ _ _ _ _ _ _ H)
            | seq a b => simp only [ex] at H; exact Run.seq (i1 _ _ _ _ _ _ _ H)
            | block id c => simp only [ex] at H; exact Run.block (i1 _ _ _ _ _ _ _ H)
            | region id ops' d =>
              cases d with
              | false => simp only [ex] at H; exact Run.region (RunO.text (i1 _ _ _ _ _ _ _ H))
              | true => simp only [ex] at H; exact H
            | ret => simp only [ex] at H; exact Run.ret H
            | exit id =>
              simp only [ex] at H
              split at H
              · rename_i hk; exact Run.exit hk (i1 _ _ _ _ _ _ _ H)
              · exact H.elim
            | cond c x y => simp only [ex] at H; exact i3 _ _ _ _ _ _ _ _ _ H
            | loop c => simp only [ex] at H; exact Run.loop H
            | _ => simp only [ex] at H; exact H
    · intro ops cb o os k Q s h H
      have calmC : ∀ {q : Option (Prop × AV)}, q = stepC P s h o.op → exS P Γ (n + 1) ops cb o.dst os k Q s h (resC q) → ∃ x, Calm P Γ o s h x ∧ RunO P Γ ops cb.1 k Q os (putA s o.dst x) h := fun {q} hq H => by
        cases q with
        | none => simp only [resC, exS] at H
        | some q =>
          obtain ⟨p, x⟩ := q
          simp only [resC, exS] at H
          exact ⟨x, stepC_ok hq.symm H.1, i1 _ _ _ _ _ _ _ H.2⟩
      have actC : exS P Γ (n + 1) ops cb o.dst os k Q s h (actR P s h o.op) → OpOK P Γ o s h fun E x h' => ((∃ i, cb.2 = .pos i) → breaksK o.op = false → E = []) ∧ eC cb E ∧ RunO P Γ ops cb.1 k Q os (putA s o.dst x) h' := fun H => by
        refine act_sound ?_
        cases hr : actR P s h o.op <;> rw [hr] at H <;> simp only [exS] at H <;> simp only [actH]
        · exact actR_ne hr
        · exact fun b hb => i1 _ _ _ _ _ _ _ (H b hb)
        · exact ⟨H.1, fun b hb => i1 _ _ _ _ _ _ _ (H.2 b hb)⟩
        · exact ⟨H.1, i1 _ _ _ _ _ _ _ H.2⟩
        · exact ⟨H.1, H.2.1, i1 _ _ _ _ _ _ _ H.2.2⟩
        · exact ⟨H.1, H.2.1, fun b c hb => i1 _ _ _ _ _ _ _ (H.2.2 b c hb)⟩
        · exact ⟨H.1, fun h0 => i1 _ _ _ _ _ _ _ (H.2.1 h0), fun h0 b c hb => i1 _ _ _ _ _ _ _ (H.2.2 h0 b c hb)⟩
        · exact fun b hb => i1 _ _ _ _ _ _ _ (H b hb)
        · exact ⟨H.1, i1 _ _ _ _ _ _ _ H.2⟩
        · exact H.mono fun E r h' hq => ⟨hq.1, i1 _ _ _ _ _ _ _ hq.2⟩
      refine ⟨fun ⟨ds, hd⟩ => ?_, fun hn => ?_⟩
      · unfold stepM at H
        rw [hd] at H
        exact calmC rfl H
      · have hst : stepM cb P s h o.op = stepR P s h o.op := by
          unfold stepM
          split
          · rename_i ds hd; exact absurd hd (hn ds)
          · rfl
        rw [hst] at H
        by_cases hc : calmK o.op = true
        · rw [stepR_calm hc] at H
          cases hs : stepC P s h o.op with
          | none => rw [hs] at H; exact actC H
          | some q =>
            rw [hs] at H
            obtain ⟨x, hx, hR⟩ := calmC hs.symm (show exS P Γ (n + 1) ops cb o.dst os k Q s h (resC (some q)) from H)
            exact hx.ok ⟨fun _ _ => rfl, eC_nil, hR⟩
        · rw [stepR_act (by simpa using hc)] at H
          exact actC H
    · intro ops cb x y k Q s h c H
      have hb : ∃ b, evA s c = .c (.bool b) := by
        unfold exC at H
        split at H
        · exact H.elim
        · exact ⟨_, by assumption⟩
        · exact H.elim
      obtain ⟨b, hb⟩ := hb
      rw [hb] at H
      simp only [exC] at H
      cases b with
      | true => exact Run.cond hb (i1 _ _ _ _ _ _ _ (H.1 rfl))
      | false => exact Run.cond hb (i1 _ _ _ _ _ _ _ (H.2 rfl))
    · intro ops cb o os k Q s h g H
      cases g with
      | none => simp only [exG] at H
      | some b =>
        simp only [exG] at H
        exact ⟨b, rfl, fun hb => ⟨(H.1 hb).1, i2 _ _ _ _ _ _ _ _ (H.1 hb).2⟩, fun hb => i1 _ _ _ _ _ _ _ (H.2 hb)⟩

theorem Run.of_ex (n : Nat) {s : List AV} {h : List It} (H : ex P Γ n #[] ([], .txt) .nil k Q s h) : Run P Γ k Q ⟨s, h⟩ := (ex_sound n).1 _ _ _ _ _ _ _ H

/-- A region that draws its order, walked by a plan. -/
theorem Run.draws {id : Nat} (n : Nat) {s : List AV} {h : List It} (hm : P.follows .mixedOrders = true) (kb : List (Nat × Nat)) (t : DT) (hB : drawB ops t = true)
    (H : ex P Γ n ops (kb, .txt) (OT.pick ops.toList t) k Q s h) : Run P Γ (.code (.region id ops true) :: k) Q ⟨s, h⟩ :=
  Run.draw hm kb t hB (RunO.draw (by simp only [drawB, Bool.and_eq_true] at hB; exact hB.2) ((ex_sound n).1 _ _ _ _ _ _ _ H))

/-! ### The run's equations -/
section
variable {n : Nat} {s : List AV} {h : List It} {cb : DM} {o : Oper} {os : OT} {dst : Option Tmp} {c x y : Code}
@[simp] theorem ex_op : ex P Γ (n + 1) ops cb (.op o os) k Q s h = exG P Γ n ops (cb.1, .txt) o os k Q s h (guardA ops s o.guard) := by simp only [ex]
@[simp] theorem ex_calm {ds : List Nat} : ex P Γ (n + 1) ops cb (.calm o ds os) k Q s h = exG P Γ n ops (cb.1, .rd ds) o os k Q s h (guardA ops s o.guard) := by simp only [ex]
@[simp] theorem ex_fork : ex P Γ (n + 1) ops cb (.fork os) k Q s h = ex P Γ n ops cb os k Q s h := by simp only [ex]
@[simp] theorem ex_alt {i : Nat} {os' : OT} : ex P Γ (n + 1) ops cb (.alt i o os os') k Q s h = (exG P Γ n ops (cb.1, .pos i) o os k Q s h (guardA ops s o.guard) ∧ ex P Γ n ops cb os' k Q s h) := by simp only [ex]
@[simp] theorem ex_stop : ex P Γ (n + 1) ops cb .stop k Q s h = True := by simp only [ex]
@[simp] theorem ex_end : ex P Γ (n + 1) ops cb .nil [] Q s h = Q ⟨s, h⟩ := by simp only [ex]
@[simp] theorem ex_skip : ex P Γ (n + 1) ops cb .nil (.code .skip :: k) Q s h = ex P Γ n ops cb .nil k Q s h := by simp only [ex]
@[simp] theorem ex_label {l : Nat} : ex P Γ (n + 1) ops cb .nil (.code (.label l) :: k) Q s h = ex P Γ n ops cb .nil k Q s h := by simp only [ex]
@[simp] theorem ex_seq : ex P Γ (n + 1) ops cb .nil (.code (.seq x y) :: k) Q s h = ex P Γ n ops cb .nil (.code x :: .code y :: k) Q s h := by simp only [ex]
@[simp] theorem ex_block {id : Nat} : ex P Γ (n + 1) ops cb .nil (.code (.block id c) :: k) Q s h = ex P Γ n ops cb .nil (.code c :: .blk id :: k) Q s h := by simp only [ex]
@[simp] theorem ex_region {id : Nat} {ops' : Array Oper} : ex P Γ (n + 1) ops cb .nil (.code (.region id ops' false) :: k) Q s h = ex P Γ n ops' cb (OT.text ops'.toList) k Q s h := by simp only [ex]
@[simp] theorem ex_draw {id : Nat} {ops' : Array Oper} : ex P Γ (n + 1) ops cb .nil (.code (.region id ops' true) :: k) Q s h = Run P Γ (.code (.region id ops' true) :: k) Q ⟨s, h⟩ := by simp only [ex]
@[simp] theorem ex_ret : ex P Γ (n + 1) ops cb .nil (.code .ret :: k) Q s h = Q ⟨s, h⟩ := by simp only [ex]
def exX (P : Program) (Γ : Ctx) (n : Nat) (ops : Array Oper) (cb : DM) (Q : St → Prop) (s : List AV) (h : List It) : Option (List KI) → Prop
  | some k' => ex P Γ n ops cb .nil k' Q s h
  | none => False
@[simp] theorem ex_exit {id : Nat} : ex P Γ (n + 1) ops cb .nil (.code (.exit id) :: k) Q s h = exX P Γ n ops cb Q s h (exitK id k) := by
  simp only [ex]
  cases exitK id k <;> rfl
@[simp] theorem exX_some {k' : List KI} : exX P Γ n ops cb Q s h (some k') = ex P Γ n ops cb .nil k' Q s h := rfl
@[simp] theorem exitK_blk {id id' : Nat} : exitK id (.blk id' :: k) = if id = id' then some k else exitK id k := rfl
@[simp] theorem exitK_code {id : Nat} : exitK id (.code c :: k) = exitK id k := rfl
@[simp] theorem exitK_loop {id : Nat} : exitK id (.loop c :: k) = exitK id k := rfl
@[simp] theorem ex_blk {id : Nat} : ex P Γ (n + 1) ops cb .nil (.blk id :: k) Q s h = ex P Γ n ops cb .nil k Q s h := by simp only [ex]
@[simp] theorem ex_cond {a : Operand} : ex P Γ (n + 1) ops cb .nil (.code (.cond a x y) :: k) Q s h = exC P Γ n ops cb x y k Q s h (evA s a) := by simp only [ex]
@[simp] theorem ex_loop : ex P Γ (n + 1) ops cb .nil (.code (.loop c) :: k) Q s h = Run P Γ (.loop c :: k) Q ⟨s, h⟩ := by simp only [ex]
@[simp] theorem ex_head : ex P Γ (n + 1) ops cb .nil (.loop c :: k) Q s h = Run P Γ (.loop c :: k) Q ⟨s, h⟩ := by simp only [ex]
@[simp] theorem exG_true : exG P Γ (n + 1) ops cb o os k Q s h (some true) = (rdC cb s o.op ∧ exS P Γ n ops cb o.dst os k Q s h (stepM cb P s h o.op)) := by simp [exG]
@[simp] theorem exG_false : exG P Γ (n + 1) ops cb o os k Q s h (some false) = ex P Γ n ops cb os k Q (putA s o.dst (.c undef)) h := by simp [exG]
theorem exG_any {b : Bool} : exG P Γ (n + 1) ops cb o os k Q s h (some b) = ((b = true → rdC cb s o.op ∧ exS P Γ n ops cb o.dst os k Q s h (stepM cb P s h o.op)) ∧ (b = false → ex P Γ n ops cb os k Q (putA s o.dst (.c undef)) h)) := by simp only [exG]
@[simp] theorem exC_true : exC P Γ (n + 1) ops cb x y k Q s h (.c (.bool true)) = ex P Γ n ops cb .nil (.code x :: k) Q s h := by simp [exC]
@[simp] theorem exC_false : exC P Γ (n + 1) ops cb x y k Q s h (.c (.bool false)) = ex P Γ n ops cb .nil (.code y :: k) Q s h := by simp [exC]
theorem exC_any {b : Bool} : exC P Γ (n + 1) ops cb x y k Q s h (.c (.bool b)) = ((b = true → ex P Γ n ops cb .nil (.code x :: k) Q s h) ∧ (b = false → ex P Γ n ops cb .nil (.code y :: k) Q s h)) := by simp only [exC]
@[simp] theorem exS_calm {p : Prop} {z : AV} : exS P Γ (n + 1) ops cb dst os k Q s h (.calm p z) = (p ∧ ex P Γ n ops cb os k Q (putA s dst z) h) := by simp only [exS]
/-- The run, from here on: not unfolded by simp of itself. -/
def exW (P : Program) (Γ : Ctx) (n : Nat) (ops : Array Oper) (cb : DM) (os : OT) (k : List KI) (Q : St → Prop) (s : List AV) (h : List It) : Prop := ex P Γ n ops cb os k Q s h
/-- A name not met. -/
def freshB (b : Nat) : List Nat → Prop
  | [] => True
  | x :: l => ¬ b = x ∧ ¬ x = b ∧ freshB b l
theorem freshB_iff {b : Nat} : ∀ {l : List Nat}, b ∉ l ↔ freshB b l
  | [] => by simp [freshB]
  | x :: l => by
    simp only [List.mem_cons, not_or, freshB, freshB_iff (l := l)]
    exact ⟨fun ⟨h1, h2⟩ => ⟨h1, fun e => h1 e.symm, h2⟩, fun ⟨h1, _, h2⟩ => ⟨h1, h2⟩⟩
attribute [simp] freshB
@[simp] theorem exS_new {t : TypeId} {cs : List AV} : exS P Γ (n + 1) ops cb dst os k Q s h (.new t cs) = ∀ b, freshB b (blks h) → exW P Γ n ops cb os k Q (putA s dst (.c (.pointer (some ⟨b, 0, none⟩)))) (.obj b t cs :: h) := by simp only [exS, exW, freshB_iff]
@[simp] theorem exS_row {p : Prop} {e : TypeId} {kk len : Nat} {xs : List AV} : exS P Γ (n + 1) ops cb dst os k Q s h (.row p e kk len xs) = (p ∧ ∀ b, freshB b (blks h) →
    exW P Γ n ops cb os k Q (putA s dst (.c (.slice (some ⟨b, 0, none⟩) len len))) (.row b e kk len true xs :: h)) := by simp only [exS, exW, freshB_iff]
@[simp] theorem exS_sto {b : Nat} {it : It} : exS P Γ (n + 1) ops cb dst os k Q s h (.sto b it) = (eC cb [b] ∧ ex P Γ n ops cb os k Q (putA s dst (.c undef)) (repl b it h)) := by simp only [exS]
@[simp] theorem exS_app {p : Prop} {b : Nat} {e : TypeId} {kk : Nat} {fr : Bool} {es ys : List AV} : exS P Γ (n + 1) ops cb dst os k Q s h (.app p b e kk fr es ys) = (p ∧ eC cb [b] ∧ ∀ b' cap', freshB b' (blks (del b h)) →
    exW P Γ n ops cb os k Q (putA s dst (.c (.slice (some ⟨b', 0, none⟩) (es ++ ys).length cap'))) (repl b (.row b' e kk cap' fr (es ++ ys)) h)) := by simp only [exS, exW, freshB_iff]
@[simp] theorem exS_stoIf {p : Prop} {b : Nat} {it : It} : exS P Γ (n + 1) ops cb dst os k Q s h (.stoIf p b it) = (p ∧ eC cb [b] ∧ ex P Γ n ops cb os k Q (putA s dst (.c undef)) (repl b it h)) := by simp only [exS]
@[simp] theorem exS_any {p : Bool → Prop} : exS P Γ (n + 1) ops cb dst os k Q s h (.any p) = ∀ b, p b → exW P Γ n ops cb os k Q (putA s dst (.c (.bool b))) h := by simp only [exS, exW]
@[simp] theorem exS_frz {b : Nat} {x : AV} : exS P Γ (n + 1) ops cb dst os k Q s h (.frz b x) = (eF cb ∧ ex P Γ n ops cb os k Q (putA s dst x) (del b h)) := by simp only [exS]
@[simp] theorem eF_txt {kb : List (Nat × Nat)} : eF (kb, .txt) = True := rfl
@[simp] theorem stepM_txt {kb : List (Nat × Nat)} {op : Op} : stepM (kb, .txt) P s h op = stepR P s h op := rfl
@[simp] theorem stepM_pos {kb : List (Nat × Nat)} {i : Nat} {op : Op} : stepM (kb, .pos i) P s h op = stepR P s h op := rfl
@[simp] theorem stepM_rd {kb : List (Nat × Nat)} {ds : List Nat} {op : Op} : stepM (kb, .rd ds) P s h op = resC (stepC P s h op) := rfl
@[simp] theorem exS_app0 {p : Prop} {x : AV} {e : TypeId} {kk : Nat} {ys : List AV} : exS P Γ (n + 1) ops cb dst os k Q s h (.app0 p x e kk ys) = (p ∧ (ys = [] → exW P Γ n ops cb os k Q (putA s dst x) h) ∧
    (ys ≠ [] → ∀ b' cap', freshB b' (blks h) → exW P Γ n ops cb os k Q (putA s dst (.c (.slice (some ⟨b', 0, none⟩) ys.length cap'))) (.row b' e kk cap' true ys :: h))) := by simp only [exS, exW, freshB_iff]
/-- A call, to be taken by a contract. -/
def CallV (P : Program) (Γ : Ctx) (n : Nat) (ops : Array Oper) (cb : DM) (dst : Option Tmp) (os : OT) (k : List KI) (Q : St → Prop) (s : List AV) (h : List It) (f : FuncId) (xs : List AV) : Prop :=
  CallOK P Γ h f xs fun E r h' => eC cb E ∧ ex P Γ n ops cb os k Q (putA s dst r) h'
@[simp] theorem exS_call {f : FuncId} {xs : List AV} : exS P Γ (n + 1) ops cb dst os k Q s h (.call f xs) = CallV P Γ n ops cb dst os k Q s h f xs := by simp only [exS, CallV]

/-- Taken by a contract that owns nothing. -/
theorem CallV.pure {f : FuncId} {xs : List AV} {R : AV → List It → Prop} (hc : CallsA P f xs [] R) (H : ∀ r h', R r h' → (blks (h' ++ h)).Nodup → ex P Γ n ops cb os k Q (putA s dst r) (h' ++ h)) : CallV P Γ n ops cb dst os k Q s h f xs :=
  CallOK.of (h1 := []) (hr := h) Conv.refl hc fun r h' hR hnd => ⟨eC_nil, H r h' hR hnd⟩
/-- Taken by a contract that owns what stands first. -/
theorem CallV.own {f : FuncId} {xs : List AV} (h1 hr : List It) {R : AV → List It → Prop} (hp : (h1 ++ hr).Perm h) (hb : eC cb (blks h1)) (hc : CallsA P f xs h1 R)
    (H : ∀ r h', R r h' → (blks (h' ++ hr)).Nodup → ex P Γ n ops cb os k Q (putA s dst r) (h' ++ hr)) : CallV P Γ n ops cb dst os k Q s h f xs :=
  CallOK.of (h1 := h1) (hr := hr) (Conv.perm hp) hc fun r h' hR hnd => ⟨hb, H r h' hR hnd⟩
/-- Taken by a contract that owns nothing, of rows that are lent. -/
theorem CallV.lend {f : FuncId} {xs xs' : List AV} {hl : List It} (hcv : Conv Γ h xs hl xs') {R : AV → List It → Prop} (hc : CallsA P f xs' [] R) (hR : ∀ r h', R r h' → h' = [] ∧ r.Plain)
    (H : ∀ r, R r [] → ex P Γ n ops cb os k Q (putA s dst r) h) : CallV P Γ n ops cb dst os k Q s h f xs :=
  CallOK.lend hcv hc hR fun r hr => ⟨eC_nil, H r hr⟩
/-- Taken by a contract, after a turn of what is known. -/
theorem CallV.conv {f : FuncId} {xs xs' : List AV} {h1 hr : List It} (hcv : Conv Γ h xs (h1 ++ hr) xs') {R : AV → List It → Prop} (hb : eC cb (blks h1)) (hc : CallsA P f xs' h1 R)
    (H : ∀ r h', R r h' → (blks (h' ++ hr)).Nodup → ex P Γ n ops cb os k Q (putA s dst r) (h' ++ hr)) : CallV P Γ n ops cb dst os k Q s h f xs :=
  CallOK.of hcv hc fun r h' hR hnd => ⟨hb, H r h' hR hnd⟩
@[simp] theorem rdC_txt {kb : List (Nat × Nat)} {op : Op} : rdC (kb, .txt) s op = True := rfl
@[simp] theorem rdC_pos {kb : List (Nat × Nat)} {i : Nat} {op : Op} : rdC (kb, .pos i) s op = True := rfl
@[simp] theorem rdC_nil {kb : List (Nat × Nat)} {op : Op} : rdC (kb, .rd []) s op = True := by simp [rdC]
@[simp] theorem rdC_cons {kb : List (Nat × Nat)} {d : Nat} {ds : List Nat} {op : Op} : rdC (kb, .rd (d :: ds)) s op = ((∀ b ∈ readL s op, (d, b) ∈ kb) ∧ rdC (kb, .rd ds) s op) := by simp [rdC]
@[simp] theorem eC_txt {kb : List (Nat × Nat)} {E : List Nat} : eC (kb, .txt) E = True := rfl
@[simp] theorem eC_rd {kb : List (Nat × Nat)} {ds E : List Nat} : eC (kb, .rd ds) E = True := rfl
@[simp] theorem eC_pos {kb : List (Nat × Nat)} {i : Nat} {E : List Nat} : eC (kb, .pos i) E = (∀ b ∈ E, (i, b) ∉ kb) := rfl
@[simp] theorem evA_tmp {t : Tmp} : evA s (.tmp t) = s.getD t .bad := rfl
@[simp] theorem evA_const {v : Value} : evA s (.const v) = .c v := rfl
@[simp] theorem evA_func {f : FuncId} : evA s (.func f) = .c (.func (.func f) #[] #[]) := rfl
@[simp] theorem putA_some {d : Tmp} {z : AV} : putA s (some d) z = s.set d z := rfl
@[simp] theorem putA_none {z : AV} : putA s none z = s := rfl
@[simp] theorem guardA_none : guardA ops s none = some true := rfl
end
end
end Go.Ab

set_option linter.unusedVariables false
set_option linter.unusedSimpArgs false
namespace Go.Ab

attribute [simp] PostQ_at isByteT OT.text OT.pick nthOp readL stepR calmK stepC resC resD actR nilR convR fitP nilP exSlice0 exStr exFieldAddr exField exLoad loadA find repl It.blk exLen exBin resA resL resOne exIndexAddr exIndex exSlice AV.cells stoR rowR appR srcA AV.okB AV.one AV.aggB Value.oneCell' guardA buildA fillA cvals
  exEqS mtA mtV eqLA eqV blks del undef

@[simp] theorem onesP_nil : onesP [] := rfl
@[simp] theorem onesP_cons {x : AV} {l : List AV} : onesP (x :: l) ↔ x.cells.all AV.one = true ∧ onesP l := by simp [onesP, -AV.cells, -AV.one]
@[simp] theorem onesP_append {l l' : List AV} : onesP (l ++ l') ↔ onesP l ∧ onesP l' := by simp [onesP, -AV.cells, -AV.one, List.all_append]
theorem onesP_of {l : List AV} (h : ∀ x ∈ l, x.cells.all AV.one = true) : onesP l := List.all_eq_true.2 h
theorem onesP_mem {l : List AV} (h : onesP l) : ∀ x ∈ l, x.cells.all AV.one = true := List.all_eq_true.1 h
theorem onesP_map {α : Type} {f : α → AV} {l : List α} (h : ∀ a, (f a).cells.all AV.one = true) : onesP (l.map f) := onesP_of fun x hx => by
  obtain ⟨a, _, rfl⟩ := List.mem_map.1 hx
  exact h a
@[simp] theorem onesP_take {l : List AV} {n : Nat} (h : onesP l) : onesP (l.take n) := onesP_of fun x hx => onesP_mem h x (List.mem_of_mem_take hx)
@[simp] theorem onesP_drop {l : List AV} {n : Nat} (h : onesP l) : onesP (l.drop n) := onesP_of fun x hx => onesP_mem h x (List.mem_of_mem_drop hx)
@[simp] theorem onesP_tail {l : List AV} (h : onesP l) : onesP l.tail := onesP_of fun x hx => onesP_mem h x (List.mem_of_mem_tail hx)

/-- s may be forgotten down to t. -/
def lessP : List AV → List AV → Prop
  | [], [] => True
  | _ :: s, .bad :: t => lessP s t
  | a :: s, b :: t => a = b ∧ lessP s t
  | _, _ => False
theorem lessP_less : ∀ {s t : List AV}, lessP s t → Less s t
  | [], [], _ => .nil
  | [], _ :: _, h => by simp [lessP] at h
  | _ :: _, [], h => by simp [lessP] at h
  | a :: s, b :: t, h => by
    cases b with
    | bad => exact .bad (lessP_less (by simpa [lessP] using h))
    | _ => simp only [lessP] at h; exact h.1 ▸ .same (lessP_less h.2)
@[simp] theorem lessP_nil : lessP [] [] = True := rfl
@[simp] theorem lessP_bad {a : AV} {s t : List AV} : lessP (a :: s) (.bad :: t) = lessP s t := by simp only [lessP]
@[simp] theorem lessP_c {a : AV} {v : Value} {s t : List AV} : lessP (a :: s) (.c v :: t) = (a = .c v ∧ lessP s t) := by simp only [lessP]
@[simp] theorem lessP_sl {a : AV} {fr : Bool} {k : Nat} {es : List AV} {s t : List AV} : lessP (a :: s) (.sl fr k es :: t) = (a = .sl fr k es ∧ lessP s t) := by simp only [lessP]
@[simp] theorem lessP_agg {a : AV} {es : List AV} {s t : List AV} : lessP (a :: s) (.agg es :: t) = (a = .agg es ∧ lessP s t) := by simp only [lessP]
@[simp] theorem lessP_tup {a : AV} {es : List AV} {s t : List AV} : lessP (a :: s) (.tup es :: t) = (a = .tup es ∧ lessP s t) := by simp only [lessP]
@[simp] theorem lessP_mt {a : AV} {s t : List AV} : lessP (a :: s) (.mt :: t) = (a = .mt ∧ lessP s t) := by simp only [lessP]
@[simp] theorem lessP_pe {a : AV} {es : List AV} {s t : List AV} : lessP (a :: s) (.pe es :: t) = (a = .pe es ∧ lessP s t) := by simp only [lessP]
theorem lessP_refl : ∀ s, lessP s s
  | [] => trivial
  | a :: s => by cases a <;> simp [lessP_refl s]

section
variable {P : Program} {Γ : Ctx} {k : List KI} {Q : St → Prop} {c : Code}

/-- A loop, by a measure. -/
theorem Run.head {ι : Type} (S : ι → St) (μ : ι → Nat) (I : ι → Prop)
    (step : ∀ i, I i → (∀ j s h, I j → μ j < μ i → lessP s (S j).s → (S j).h.Sublist h → Run P Γ (.loop c :: k) Q ⟨s, h⟩) → Run P Γ (.code c :: .loop c :: k) Q (S i)) :
    ∀ i s h, I i → lessP s (S i).s → (S i).h.Sublist h → Run P Γ (.loop c :: k) Q ⟨s, h⟩ := by
  have key : ∀ n i, μ i = n → I i → Run P Γ (.loop c :: k) Q (S i) := by
    intro n
    induction n using Nat.strongRecOn with
    | _ n ih =>
      intro i hn hI
      refine Run.round (step i hI fun j s h hj hlt hs hh => ?_)
      exact Run.sub_loop ((Sub.drop hh).trans (Sub.less (lessP_less hs))) (ih (μ j) (hn ▸ hlt) j rfl hj)
  intro i s h hI hs hh
  exact Run.sub_loop ((Sub.drop hh).trans (Sub.less (lessP_less hs))) (key _ i rfl hI)
end

theorem RunT.mono {P : Program} {Γ : Ctx} {ops : Array Oper} {kb : List (Nat × Nat)} {K K' : List AV → List It → Prop} (hK : ∀ s h, K s h → K' s h) : ∀ (t : DT) (s : List AV) (h : List It), RunT P Γ ops kb K t s h → RunT P Γ ops kb K' t s h
  | .done, s, h, H => hK s h H
  | .stop, s, h, _ => trivial
  | .fork r, s, h, H => RunT.mono (K := K) hK r s h H
  | .calm i ds t, s, h, H => by
    obtain ⟨o, ho, g, hg, H⟩ := H
    refine ⟨o, ho, g, hg, ?_⟩
    cases g with
    | false => simp only [Bool.false_eq_true, if_false] at H ⊢; exact RunT.mono hK t _ _ H
    | true =>
      simp only [if_true] at H ⊢
      obtain ⟨x, h1, h2, H⟩ := H
      exact ⟨x, h1, h2, RunT.mono hK t _ _ H⟩
  | .alt i t r, s, h, H => by
    obtain ⟨⟨o, ho, g, hg, H⟩, H2⟩ := H
    refine ⟨⟨o, ho, g, hg, ?_⟩, RunT.mono hK r _ _ H2⟩
    cases g with
    | false => simp only [Bool.false_eq_true, if_false] at H ⊢; exact RunT.mono hK t _ _ H
    | true =>
      simp only [if_true] at H ⊢
      intro a w S K2 Q2 hK2
      exact H a w S K2 Q2 fun v w' E x h' hx => hK2 v w' E x h' ⟨hx.1, hx.2.1, RunT.mono hK t _ _ hx.2.2⟩

theorem Sub.perm {Γ : Ctx} {s : List AV} {h h' : List It} (hp : h'.Perm h) : Sub Γ ⟨s, h⟩ ⟨s, h'⟩ := fun a w S =>
  ⟨S.len, fun i v x hv hx => (S.slot i v x hv hx).perm hp, S.dfr, S.heap.perm hp⟩
theorem Run.sub {P : Program} {Γ : Ctx} {k : List KI} {Q : St → Prop} {ops : Array Oper} {id : Nat} {d : Bool} {σ τ : St} (hs : Sub Γ σ τ) (h : Run P Γ (.code (.region id ops d) :: k) Q τ) : Run P Γ (.code (.region id ops d) :: k) Q σ :=
  Run.sub_code hs h

/-- Ways that meet again: M is what holds there. -/
theorem Run.drawsM {P : Program} {Γ : Ctx} {k : List KI} {Q : St → Prop} {ops : Array Oper} {id : Nat} {x : Code} (n : Nat) {s : List AV} {h : List It} (hm : P.follows .mixedOrders = true) (kb : List (Nat × Nat)) (t : DT) (hB : drawB ops t = true) (M : St → Prop)
    (H : ex P Γ n ops (kb, .txt) (OT.pick ops.toList t) [] (fun σ => ∃ τ l, M τ ∧ lessP σ.s τ.s ∧ l.Perm σ.h ∧ τ.h.Sublist l) s h) (H2 : ∀ s h, M ⟨s, h⟩ → Run P Γ (.code x :: k) Q ⟨s, h⟩) : Run P Γ (.code (.region id ops true) :: .code x :: k) Q ⟨s, h⟩ := by
  have hB' := hB
  simp only [drawB, Bool.and_eq_true] at hB'
  refine Run.draw hm kb t hB (RunT.mono (fun s h hK => ?_) t s h (RunO.draw (k := []) (Q := fun σ => ∃ τ l, M τ ∧ lessP σ.s τ.s ∧ l.Perm σ.h ∧ τ.h.Sublist l) hB'.2 ((ex_sound n).1 _ _ _ _ _ _ _ H)))
  obtain ⟨τ, l, h1, h2, h3, h4⟩ := (show ∃ τ l, M τ ∧ lessP s τ.s ∧ l.Perm h ∧ τ.h.Sublist l from hK)
  exact Run.sub_code (((Sub.perm h3).trans (Sub.drop h4)).trans (Sub.less (lessP_less h2))) (H2 _ _ h1)

/-! ### Whole numbers -/
theorem wrap_i64 {n : Int} (h0 : -9223372036854775808 ≤ n) (h1 : n ≤ 9223372036854775807) : IntKind.i64.wrap n = n := by
  simp only [IntKind.wrap, IntKind.bits, IntKind.signed]
  have h2 : (2 : Int) ^ 64 = 18446744073709551616 := by decide
  have h3 : (2 : Int) ^ 63 = 9223372036854775808 := by decide
  simp
  omega
end Go.Ab

set_option linter.unusedVariables false
set_option linter.unusedSimpArgs false
namespace Go.Ab

/-- What is known of one value, turned. -/
def Fz (Γ : Ctx) (h : List It) (x : AV) (h' : List It) (x' : AV) : Prop :=
  ∀ (w : World) (v : Value), Heap Γ h w → RepV Γ h w v x → Heap Γ h' w ∧ RepV Γ h' w v x' ∧ ∀ u y, RepV Γ h w u y → RepV Γ h' w u y

section
variable {Γ : Ctx} {h h' h'' : List It}

theorem Fz.refl {x : AV} : Fz Γ h x h x := fun w v H r => ⟨H, r, fun _ _ h => h⟩
theorem Fz.bad {x : AV} : Fz Γ h x h .bad := fun w v H r => ⟨H, .bad _, fun _ _ h => h⟩
theorem Fz.trans {x x' x'' : AV} (f : Fz Γ h x h' x') (g : Fz Γ h' x' h'' x'') : Fz Γ h x h'' x'' := fun w v H r =>
  let ⟨H1, r1, k1⟩ := f w v H r
  let ⟨H2, r2, k2⟩ := g w v H1 r1
  ⟨H2, r2, fun u y hr => k2 u y (k1 u y hr)⟩
theorem Fz.nil {fr : Bool} {k : Nat} : Fz Γ h (.c (.slice none 0 0)) h (.sl fr k []) := fun w v H r => by
  have := Rep.cv r
  subst this
  exact ⟨H, .nil _ _, fun _ _ h => h⟩
theorem Fz.drop {x : AV} (hs : h'.Sublist h) : Fz Γ h x h' x := fun w v H r => ⟨H.drop hs, r.drop hs, fun u y hr => hr.drop hs⟩
theorem Fz.perm {x : AV} (hp : h'.Perm h) : Fz Γ h x h' x := fun w v H r => ⟨H.perm hp, r.perm hp, fun u y hr => hr.perm hp⟩
/-- A view's freshness may be forgotten. -/
theorem Fz.old {fr fr' : Bool} {k : Nat} {es : List AV} (hf : fr' = true → fr = true) : Fz Γ h (.sl fr k es) h (.sl fr' k es) := fun w v H r => by
  refine ⟨H, ?_, fun _ _ h => h⟩
  cases r with
  | nil => exact .nil _ _
  | sl0 => exact .sl0 _ _ _
  | sl fr k b off cap es us h1 h2 h3 h4 h5 h6 h7 h8 => exact .sl fr' k b off cap es us h1 h2 h3 h4 (fun q => h5 (hf q)) h6 h7 h8

/-- An owned row is given up. -/
theorem Fz.part {b : Nat} {t : TypeId} {k cap : Nat} {fr fr' : Bool} {es : List AV} {off o n c : Nat} (hf : find b h = some (.row b t k cap fr es)) (ho : o = off * k) (hn : off + n ≤ es.length) (hc : n ≤ c ∧ c ≤ cap) (hfr : fr' = true → fr = true) :
    Fz Γ h (.c (.slice (some ⟨b, o, none⟩) n c)) (del b h) (.sl fr' k ((es.drop off).take n)) := fun w v H r => by
  have hs := del_sub b h
  have H' := H.drop hs
  refine ⟨H', ?_, fun u y hr => hr.drop hs⟩
  have := Rep.cv r
  subst this
  obtain ⟨ce, h1, h2, hle, hcm, hfr0, hkx, hrep⟩ := H.sat _ (find_mem hf).1
  have hbm : b ∈ blks h := List.mem_map.2 ⟨_, (find_mem hf).1, rfl⟩
  have hlen : ((es.drop off).take n).length = n := by simp; omega
  have hfl : flat ((es.drop off).take n) = ((flat es).drop (off * k)).take (n * k) := by
    rw [flat_take (fun e he => hkx e (List.mem_of_mem_drop he)) n (by simp; omega), flat_drop hkx off (by omega)]
  have hget : ∀ j a, (flat ((es.drop off).take n))[j]? = some a → (flat es)[o + j]? = some a := fun j a hj => by
    rw [hfl, List.getElem?_take] at hj
    split at hj
    · rw [List.getElem?_drop] at hj; rw [ho]; exact hj
    · cases hj
  have e : Value.slice (some ⟨b, o, none⟩) n c = Value.slice (some ⟨b, o, none⟩) ((es.drop off).take n).length c := by rw [hlen]
  rw [e]
  refine .sl fr' k b o c _ (fun j => ce.getD (o + j) undef) (by rw [hlen]; exact hc.1) (Nat.le_trans hc.2 hcm) (fun hob => ?_) (H.lt hbm) (fun hq => hfr0 (hfr hq)) (fun e he => hkx e (List.mem_of_mem_drop (List.mem_of_mem_take he))) (fun j a hj => ?_) (fun j a hj => ?_)
  · rcases hob with hob | hob
    · exact H.x_not hbm hob
    · obtain ⟨z, hz, hze⟩ := List.mem_map.1 hob
      exact (del_blk H.nd hz).2 hze
  · obtain ⟨u, hu, _⟩ := hrep _ a (hget j a hj)
    simp [World.cell?, h1, hu]
  · obtain ⟨u, hu, hr⟩ := hrep _ a (hget j a hj)
    have h3 : RepV Γ (del b h) w u a := RepV.drop hs hr
    simp only [RepV] at h3
    simpa [hu] using h3
theorem Fz.row {b : Nat} {t : TypeId} {k cap : Nat} {fr fr' : Bool} {es : List AV} {n : Nat} (hf : find b h = some (.row b t k cap fr es)) (hn : n = es.length) (hfr : fr' = true → fr = true) :
    Fz Γ h (.c (.slice (some ⟨b, 0, none⟩) n cap)) (del b h) (.sl fr' k es) := fun w v H r => by
  obtain ⟨_, _, _, hle, _⟩ := H.sat _ (find_mem hf).1
  have := Fz.part (off := 0) (o := 0) (n := n) (c := cap) (fr' := fr') hf (by simp) (by omega) ⟨by omega, Nat.le_refl _⟩ hfr w v H r
  simpa [hn] using this

theorem Fz.tup {xs : List AV} {i : Nat} {x x' : AV} (hi : xs[i]? = some x) (hf : Fz Γ h x h' x') : Fz Γ h (.tup xs) h' (.tup (xs.set i x')) := fun w v H r => by
  cases r with
  | tup vs _ hl hh =>
    have hlt : i < vs.size := by rw [hl]; exact (List.getElem?_eq_some_iff.1 hi).1
    obtain ⟨H', r', k'⟩ := hf w vs[i] H (hh i _ x (by simp [hlt]) hi)
    refine ⟨H', .tup _ _ (by simpa using hl) (fun j u a hu ha => ?_), k'⟩
    rw [List.getElem?_set] at ha
    split at ha
    · rename_i hij
      subst hij
      split at ha
      · cases ha; simp [hlt] at hu; subst hu; exact r'
      · cases ha
    · exact k' _ _ (hh j u a hu ha)
theorem Fz.agg {xs : List AV} {i : Nat} {x x' : AV} (hi : xs[i]? = some x) (hf : Fz Γ h x h' x') : Fz Γ h (.agg xs) h' (.agg (xs.set i x')) := fun w v H r => by
  cases r with
  | agg vs _ hl hh =>
    have hlt : i < vs.size := by rw [hl]; exact (List.getElem?_eq_some_iff.1 hi).1
    obtain ⟨H', r', k'⟩ := hf w vs[i] H (hh i _ x (by simp [hlt]) hi)
    refine ⟨H', .agg _ _ (by simpa using hl) (fun j u a hu ha => ?_), k'⟩
    rw [List.getElem?_set] at ha
    split at ha
    · rename_i hij
      subst hij
      split at ha
      · cases ha; simp [hlt] at hu; subst hu; exact r'
      · cases ha
    · exact k' _ _ (hh j u a hu ha)

theorem Conv.at {xs : List AV} {i : Nat} {x x' : AV} (hi : xs[i]? = some x) (hf : Fz Γ h x h' x') : Conv Γ h xs h' (xs.set i x') := fun w vs H L => by
  have hlt : i < vs.length := by rw [L.1]; exact (List.getElem?_eq_some_iff.1 hi).1
  obtain ⟨H', r', k'⟩ := hf w vs[i] H (L.2 i _ x (by simp [hlt]) hi)
  refine ⟨H', ⟨by simpa using L.1, fun j u a hu ha => ?_⟩, k'⟩
  rw [List.getElem?_set] at ha
  split at ha
  · rename_i hij
    subst hij
    split at ha
    · cases ha; simp [hlt] at hu; subst hu; exact r'
    · cases ha
  · exact k' _ _ (L.2 j u a hu ha)
theorem Sub.at {s : List AV} {i : Nat} {x x' : AV} (hi : s[i]? = some x) (hf : Fz Γ h x h' x') : Sub Γ ⟨s, h⟩ ⟨s.set i x', h'⟩ := fun a w S => by
  have hlt : i < a.tmps.size := by rw [S.len]; exact (List.getElem?_eq_some_iff.1 hi).1
  obtain ⟨H', r', k'⟩ := hf w a.tmps[i] S.heap (S.slot i _ x (by simp [hlt]) hi)
  refine ⟨by simpa using S.len, fun j u y hu hy => ?_, S.dfr, H'⟩
  simp only at hy
  rw [List.getElem?_set] at hy
  split at hy
  · rename_i hij
    subst hij
    split at hy
    · cases hy; simp [hlt] at hu; subst hu; exact r'
    · cases hy
  · exact k' _ _ (S.slot j u y hu hy)

/-- A row that lies in another row is given up. -/
theorem Sub.frzCell {s : List AV} {b b' : Nat} {t t' : TypeId} {k k' cap cap' : Nat} {fr fr' fr2 : Bool} {es es' : List AV} {j n : Nat} (hf : find b h = some (.row b t k cap fr es)) (hf' : find b' h = some (.row b' t' 1 cap' fr' es')) (hne : b ≠ b')
    (hj : es'[j]? = some (.c (.slice (some ⟨b, 0, none⟩) n cap))) (hn : n = es.length) (hfr : fr2 = true → fr = true) : Sub Γ ⟨s, h⟩ ⟨s, repl b' (.row b' t' 1 cap' fr' (es'.set j (.sl fr2 k es))) (del b h)⟩ := fun a w S => by
  have hs := del_sub b h
  have S1 : Sim Γ ⟨s, del b h⟩ a w := (Sub.drop hs) a w S
  have hfd : ∀ {h : List It}, (blks h).Nodup → find b' h = some (.row b' t' 1 cap' fr' es') → find b' (del b h) = some (.row b' t' 1 cap' fr' es') := by
    intro h
    induction h with
    | nil => intro _ h; simp [find] at h
    | cons it h ih =>
      intro hnd hq
      simp only [blks, List.map_cons, List.nodup_cons] at hnd
      simp only [del]
      simp only [find] at hq
      split
      · rename_i hb
        rw [if_neg (by rw [← hb]; exact Ne.symm hne)] at hq
        exact hq
      · simp only [find]
        split
        · rename_i hb; rw [if_pos hb] at hq; exact hq
        · rename_i hb; rw [if_neg hb] at hq; exact ih (by simpa [blks] using hnd.2) hq
  have hf2 := hfd S.heap.nd hf'
  have hturn : Turn b' b' w w := ⟨rfl, rfl, rfl, Nat.le_refl _, fun _ _ _ => rfl, .inl rfl⟩
  have keep : ∀ u y, RepV Γ (del b h) w u y → RepV Γ (repl b' (.row b' t' 1 cap' fr' (es'.set j (.sl fr2 k es))) (del b h)) w u y := fun u y hr => RepV.turn (it' := .row b' t' 1 cap' fr' (es'.set j (.sl fr2 k es))) S1.heap hf2 hturn hr
  refine ⟨S1.len, fun i v x hv hx => keep _ _ (S1.slot i v x hv hx), S1.dfr, ?_⟩
  obtain ⟨c, h1, h2, hle, hcm, hfr0, hkx, hrep⟩ := S1.heap.sat _ (find_mem hf2).1
  have hlt := (List.getElem?_eq_some_iff.1 hj).1
  refine Heap.turn (it' := .row b' t' 1 cap' fr' (es'.set j (.sl fr2 k es))) S1.heap hf2 hturn ⟨c, h1, h2, by simpa using hle, hcm, hfr0, set_k hkx rfl, fun i x hi => ?_⟩
  rw [flat_set hkx hlt] at hi
  have hfl := flat_length hkx
  rw [Nat.mul_one] at hfl
  simp only [Nat.mul_one, AV.cells] at hi
  by_cases hij : i = j
  · subst hij
    rw [List.append_assoc, List.getElem?_append_right (by simp; omega)] at hi
    have e0 : i - (List.take i (flat es')).length = 0 := by simp; omega
    rw [e0] at hi
    simp at hi
    subst hi
    have hone : (flat es')[i]? = some (.c (.slice (some ⟨b, 0, none⟩) n cap)) := by
      have := flat_get hkx hj (j := 0) (a := .c (.slice (some ⟨b, 0, none⟩) n cap)) rfl
      simpa using this
    obtain ⟨u, hu, hr⟩ := hrep i _ hone
    have hu' := Rep.cv hr
    subst hu'
    refine ⟨_, hu, keep _ _ ?_⟩
    obtain ⟨_, r2, _⟩ := Fz.row (Γ := Γ) (fr' := fr2) hf hn hfr w _ S.heap (.c _)
    exact r2
  · have : (flat es')[i]? = some x := by
      by_cases hl : i < j
      · rw [List.append_assoc, List.getElem?_append_left (by simp; omega), List.getElem?_take, if_pos hl] at hi
        exact hi
      · rw [List.getElem?_append_right (by simp; omega)] at hi
        have e1 : i - (List.take j (flat es') ++ [AV.sl fr2 k es]).length = i - (j + 1) := by simp; omega
        rw [e1, List.getElem?_drop] at hi
        have e2 : j + 1 + (i - (j + 1)) = i := by omega
        rw [e2] at hi
        exact hi
    obtain ⟨u, hu, hr⟩ := hrep i x this
    exact ⟨u, hu, keep _ _ hr⟩

theorem find_row {b : Nat} {t : TypeId} {k cap : Nat} {fr : Bool} {es : List AV} : find b (.row b t k cap fr es :: h) = some (.row b t k cap fr es) := by simp [find, It.blk]
/-- Items may be shortened. -/
theorem Sub.trunc {s : List AV} {b : Nat} {t : TypeId} {k cap : Nat} {fr : Bool} {es : List AV} (n : Nat) (hf : find b h = some (.row b t k cap fr es)) : Sub Γ ⟨s, h⟩ ⟨s, repl b (.row b t k cap fr (es.take n)) h⟩ := fun a w S => by
  have hturn : Turn b b w w := ⟨rfl, rfl, rfl, Nat.le_refl _, fun _ _ _ => rfl, .inl rfl⟩
  have keep : ∀ u y, RepV Γ h w u y → RepV Γ (repl b (.row b t k cap fr (es.take n)) h) w u y := fun u y hr => RepV.turn (it' := .row b t k cap fr (es.take n)) S.heap hf hturn hr
  refine ⟨S.len, fun i v x hv hx => keep _ _ (S.slot i v x hv hx), S.dfr, ?_⟩
  obtain ⟨c, h1, h2, hle, hcm, hfr0, hkx, hrep⟩ := S.heap.sat _ (find_mem hf).1
  refine Heap.turn (it' := .row b t k cap fr (es.take n)) S.heap hf hturn ⟨c, h1, h2, by simp; omega, hcm, hfr0, fun e he => hkx e (List.mem_of_mem_take he), fun j a hj => ?_⟩
  rcases Nat.lt_or_ge n es.length with hn | hn
  · rw [flat_take hkx n (by omega), List.getElem?_take] at hj
    split at hj
    · obtain ⟨u, hu, hr⟩ := hrep j a hj
      exact ⟨u, hu, keep _ _ hr⟩
    · cases hj
  · rw [List.take_of_length_le hn] at hj
    obtain ⟨u, hu, hr⟩ := hrep j a hj
    exact ⟨u, hu, keep _ _ hr⟩
end

theorem CallsA.post {P : Program} {f : FuncId} {xs : List AV} {h : List It} {R R' : AV → List It → Prop} (hc : CallsA P f xs h R) (hp : ∀ Γ r h', R r h' → ∃ r' h'', R' r' h'' ∧ Fz Γ h' r h'' r') : CallsA P f xs h R' := fun X w n0 vs H L =>
  (hc X w n0 vs H L).mono fun v w' ⟨r, h', hR, H', hv⟩ => by
    obtain ⟨r', h'', hR', hf⟩ := hp _ r h' hR
    obtain ⟨H2, v2, _⟩ := hf w' v H' hv
    exact ⟨r', h'', hR', H2, v2⟩

/-- An own slice's value and its block. -/
def ownX (es : List AV) (b cap : Nat) : AV := if es = [] then .c (.slice none 0 0) else .c (.slice (some ⟨b, 0, none⟩) es.length cap)
def ownH (e : TypeId) (k : Nat) (es : List AV) (b cap : Nat) : List It := if es = [] then [] else [.row b e k cap true es]
/-- What is told of an own slice. -/
def OwnR (e : TypeId) (k : Nat) (es : List AV) (x : AV) (h : List It) : Prop := ∃ b cap, x = ownX es b cap ∧ h = ownH e k es b cap

theorem Fz.own {Γ : Ctx} {e : TypeId} {k : Nat} {es : List AV} {b cap : Nat} {hr : List It} {fr : Bool} : Fz Γ (ownH e k es b cap ++ hr) (ownX es b cap) hr (.sl fr k es) := by
  unfold ownX ownH
  by_cases he : es = []
  · subst he; simp only [if_true, List.nil_append]; exact Fz.nil
  · rw [if_neg he, if_neg he]
    have := Fz.row (Γ := Γ) (h := [.row b e k cap true es] ++ hr) (b := b) (t := e) (k := k) (cap := cap) (fr := true) (fr' := fr) (es := es) (n := es.length) (by simp [find, It.blk]) rfl (fun _ => rfl)
    simpa [del, It.blk] using this

theorem OwnR.frz {P : Program} {f : FuncId} {xs : List AV} {h : List It} {e : TypeId} {k : Nat} {es : List AV} (fr : Bool) (hc : CallsA P f xs h (OwnR e k es)) : CallsA P f xs h fun x h' => x = .sl fr k es ∧ h' = [] :=
  hc.post fun Γ r h' ⟨b, cap, hx, hh⟩ => ⟨_, [], ⟨rfl, rfl⟩, by subst hx; subst hh; simpa using Fz.own (Γ := Γ) (e := e) (k := k) (es := es) (b := b) (cap := cap) (hr := []) (fr := fr)⟩

/-- A call that tells an own slice, not empty. -/
theorem OwnR.call {P : Program} {Γ : Ctx} {n : Nat} {ops : Array Oper} {cb : DM} {dst : Option Tmp} {os : OT} {k : List KI} {Q : St → Prop} {s : List AV} {h : List It} {f : FuncId} {xs : List AV} {e : TypeId} {kk : Nat} {es : List AV} (hne : es ≠ [])
    (hc : CallsA P f xs [] (OwnR e kk es)) (H : ∀ b cap, freshB b (blks h) → exW P Γ n ops cb os k Q (putA s dst (.c (.slice (some ⟨b, 0, none⟩) es.length cap))) (.row b e kk cap true es :: h)) : CallV P Γ n ops cb dst os k Q s h f xs :=
  CallV.pure hc fun r h' ⟨b, cap, hx, hh⟩ hnd => by
    have e1 : ownX es b cap = .c (.slice (some ⟨b, 0, none⟩) es.length cap) := if_neg hne
    have e2 : ownH e kk es b cap = [.row b e kk cap true es] := if_neg hne
    rw [e1] at hx; rw [e2] at hh
    subst hx; subst hh
    exact H b cap (freshB_iff.1 (List.nodup_cons.1 hnd).1)
theorem CallV.tell {P : Program} {Γ : Ctx} {n : Nat} {ops : Array Oper} {cb : DM} {dst : Option Tmp} {os : OT} {k : List KI} {Q : St → Prop} {s : List AV} {h : List It} {f : FuncId} {xs : List AV} {r : AV}
    (hc : CallsA P f xs [] fun x h => x = r ∧ h = []) (H : ex P Γ n ops cb os k Q (putA s dst r) h) : CallV P Γ n ops cb dst os k Q s h f xs :=
  CallV.pure hc fun x h' ⟨hx, hh⟩ _ => by subst hx; subst hh; exact H
theorem CallV.tellL {P : Program} {Γ : Ctx} {n : Nat} {ops : Array Oper} {cb : DM} {dst : Option Tmp} {os : OT} {k : List KI} {Q : St → Prop} {s : List AV} {h : List It} {f : FuncId} {xs xs' : List AV} {hl : List It} {r : AV}
    (hcv : Conv Γ h xs hl xs') (hc : CallsA P f xs' [] fun x h => x = r ∧ h = []) (hp : r.Plain) (H : ex P Γ n ops cb os k Q (putA s dst r) h) : CallV P Γ n ops cb dst os k Q s h f xs :=
  CallV.lend hcv hc (fun x h' ⟨hx, hh⟩ => ⟨hh, hx ▸ hp⟩) fun x ⟨hx, _⟩ => by subst hx; exact H

/-- A loop whose head is come to by a turn of what is known. -/
theorem Run.headS {P : Program} {Γ : Ctx} {k : List KI} {Q : St → Prop} {c : Code} {ι : Type} (S : ι → St) (μ : ι → Nat) (I : ι → Prop)
    (step : ∀ i, I i → (∀ j σ, I j → μ j < μ i → Sub Γ σ (S j) → Run P Γ (.loop c :: k) Q σ) → Run P Γ (.code c :: .loop c :: k) Q (S i)) :
    ∀ i σ, I i → Sub Γ σ (S i) → Run P Γ (.loop c :: k) Q σ := by
  have key : ∀ n i, μ i = n → I i → Run P Γ (.loop c :: k) Q (S i) := by
    intro n
    induction n using Nat.strongRecOn with
    | _ n ih =>
      intro i hn hI
      refine Run.round (step i hI fun j σ hj hlt hs => ?_)
      exact Run.sub_loop hs (ih (μ j) (hn ▸ hlt) j rfl hj)
  intro i σ hI hs
  exact Run.sub_loop hs (key _ i rfl hI)
/-- Ways that meet again: M is what holds there. -/
theorem Run.drawsS {P : Program} {Γ : Ctx} {k : List KI} {Q : St → Prop} {ops : Array Oper} {id : Nat} {x : Code} (n : Nat) {s : List AV} {h : List It} (hm : P.follows .mixedOrders = true) (kb : List (Nat × Nat)) (t : DT) (hB : drawB ops t = true) (M : St → Prop)
    (H : ex P Γ n ops (kb, .txt) (OT.pick ops.toList t) [] (fun σ => ∃ τ, M τ ∧ Sub Γ σ τ) s h) (H2 : ∀ τ, M τ → Run P Γ (.code x :: k) Q τ) : Run P Γ (.code (.region id ops true) :: .code x :: k) Q ⟨s, h⟩ := by
  have hB' := hB
  simp only [drawB, Bool.and_eq_true] at hB'
  refine Run.draw hm kb t hB (RunT.mono (fun s h hK => ?_) t s h (RunO.draw (k := []) (Q := fun σ => ∃ τ, M τ ∧ Sub Γ σ τ) hB'.2 ((ex_sound n).1 _ _ _ _ _ _ _ H)))
  obtain ⟨τ, h1, h2⟩ := (show ∃ τ, M τ ∧ Sub Γ ⟨s, h⟩ τ from hK)
  exact Run.sub_code h2 (H2 _ h1)

/-- What reads as a reads as b. -/
def Wk (a b : AV) : Prop := ∀ (n0 : Nat) (O : Nat → Prop) (w : World) (v : Value), Rep n0 O w v a → Rep n0 O w v b
theorem Wk.refl (a : AV) : Wk a a := fun _ _ _ _ h => h
theorem Wk.nil {fr : Bool} {k : Nat} : Wk (.c (.slice none 0 0)) (.sl fr k []) := fun n0 O w v h => by
  have := Rep.cv h
  subst this
  exact .nil _ _
theorem flat_one {es : List AV} (h : ∀ e ∈ es, e.cells = [e]) : flat es = es := by
  induction es with
  | nil => rfl
  | cons e es ih =>
    simp only [flat, List.flatMap_cons, h e List.mem_cons_self]
    have := ih fun e he => h e (List.mem_cons_of_mem _ he)
    simp only [flat] at this
    rw [this]; rfl
theorem Fz.wk {Γ : Ctx} {h : List It} {fr : Bool} {es es' : List AV} (h1 : ∀ e ∈ es, e.cells = [e]) (h2 : ∀ e ∈ es', e.cells = [e]) (hl : es.length = es'.length) (hw : ∀ (j : Nat) a b, es[j]? = some a → es'[j]? = some b → Wk a b) : Fz Γ h (.sl fr 1 es) h (.sl fr 1 es') := fun w v H r => by
  refine ⟨H, ?_, fun _ _ h => h⟩
  cases r with
  | nil =>
    have : es' = [] := List.eq_nil_of_length_eq_zero (by simpa using hl.symm)
    subst this; exact .nil _ _
  | sl0 =>
    have : es' = [] := List.eq_nil_of_length_eq_zero (by simpa using hl.symm)
    subst this; exact .sl0 _ _ _
  | sl fr k b off cap es us g1 g2 g3 g4 g5 g6 g7 g8 =>
    rw [flat_one h1] at g7 g8
    rw [hl]
    refine .sl fr 1 b off cap es' us (by omega) g2 g3 g4 g5 (fun e he => by rw [h2 e he]; rfl) (fun j a hj => ?_) (fun j a hj => ?_)
    all_goals
      rw [flat_one h2] at hj
      have hlt : j < es.length := by rw [hl]; exact (List.getElem?_eq_some_iff.1 hj).1
    · exact g7 j _ (List.getElem?_eq_getElem hlt)
    · exact hw j _ a (List.getElem?_eq_getElem hlt) hj _ _ _ _ (g8 j _ (List.getElem?_eq_getElem hlt))

/-- Slots forgotten, items dropped, in another order. -/
theorem Sub.of {Γ : Ctx} {s t : List AV} {h h' l : List It} (h1 : lessP s t) (h2 : l.Perm h) (h3 : h'.Sublist l) : Sub Γ ⟨s, h⟩ ⟨t, h'⟩ :=
  ((Sub.perm h2).trans (Sub.drop h3)).trans (Sub.less (lessP_less h1))
end Go.Ab
