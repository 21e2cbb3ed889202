/- Abstract values, owned items, and the relation to the machine's worlds. -/
import Derived.Tactics
import Derived.Laws.AppendOwn
import Derived.Laws.World
import Derived.RowKit3
import Derived.LoopN
import Derived.Below
import Derived.Laws.Tables
set_option linter.unusedVariables false
set_option linter.unusedSimpArgs false
namespace Go.Ab

/-- Abstract values. -/
inductive AV where
  | c (v : Value)
  | agg (cs : List AV)
  | tup (vs : List AV)
  | sl (fr : Bool) (k : Nat) (es : List AV)
  | pe (cs : List AV)
  | mt
  | bad
  deriving Inhabited

def AV.cells : AV → List AV
  | .agg cs => cs
  | .c (.agg vs) => vs.toList.map .c
  | v => [v]

def flat (es : List AV) : List AV := es.flatMap AV.cells

/-- Value v reads as a: no block of O is met; fresh slices lie from n0 on. -/
inductive Rep (n0 : Nat) (O : Nat → Prop) (w : World) : Value → AV → Prop where
  | c (v : Value) : Rep n0 O w v (.c v)
  | bad (v : Value) : Rep n0 O w v .bad
  | agg (vs : Array Value) (cs : List AV) (hl : vs.size = cs.length)
      (h : ∀ (i : Nat) v a, vs[i]? = some v → cs[i]? = some a → Rep n0 O w v a) : Rep n0 O w (.agg vs) (.agg cs)
  | tup (vs : Array Value) (cs : List AV) (hl : vs.size = cs.length)
      (h : ∀ (i : Nat) v a, vs[i]? = some v → cs[i]? = some a → Rep n0 O w v a) : Rep n0 O w (.tuple vs) (.tup cs)
  | nil (fr : Bool) (k : Nat) : Rep n0 O w (.slice none 0 0) (.sl fr k [])
  | mt0 : Rep n0 O w (.slice none 0 0) .mt
  | mt1 (a : Addr) : Rep n0 O w (.slice (some a) 0 0) .mt
  | sl0 (fr : Bool) (k : Nat) (a : Addr) : Rep n0 O w (.slice (some a) 0 0) (.sl fr k [])
  | sl (fr : Bool) (k b off cap : Nat) (es : List AV) (us : Nat → Value) (hcap : es.length ≤ cap) (hmax : cap ≤ maxLen)
      (hO : ¬ O b) (hb : b < w.heap.size) (hfr : fr = true → n0 ≤ b) (hk : ∀ e ∈ es, e.cells.length = k)
      (hc : ∀ (j : Nat) a, (flat es)[j]? = some a → w.cell? ⟨b, off + j, none⟩ = some (us j))
      (h : ∀ (j : Nat) a, (flat es)[j]? = some a → Rep n0 O w (us j) a) : Rep n0 O w (.slice (some ⟨b, off, none⟩) es.length cap) (.sl fr k es)
  | pe (b off : Nat) (cs : List AV) (us : Nat → Value) (hO : ¬ O b) (hb : b < w.heap.size)
      (hc : ∀ (j : Nat) a, cs[j]? = some a → w.cell? ⟨b, off + j, none⟩ = some (us j))
      (h : ∀ (j : Nat) a, cs[j]? = some a → Rep n0 O w (us j) a) : Rep n0 O w (.pointer (some ⟨b, off, none⟩)) (.pe cs)

/-- Owned items. -/
inductive It where
  | obj (b : Nat) (t : TypeId) (cs : List AV)
  | row (b : Nat) (t : TypeId) (k cap : Nat) (fr : Bool) (es : List AV)
  | mp (b : Nat) (es : List (ByteArray × AV))

def It.blk : It → Nat
  | .obj b _ _ => b
  | .row b _ _ _ _ _ => b
  | .mp b _ => b

def RepAt (n0 : Nat) (O : Nat → Prop) (w : World) (c : Array Value) (cs : List AV) : Prop :=
  ∀ (j : Nat) a, cs[j]? = some a → ∃ u, c[j]? = some u ∧ Rep n0 O w u a

def It.sat (n0 : Nat) (O : Nat → Prop) (w : World) : It → Prop
  | .obj b t cs => ∃ c, w.heap[b]? = some (.cells c t (0, 0)) ∧ c.size = cs.length ∧ RepAt n0 O w c cs
  | .row b t k cap fr es => ∃ c, w.heap[b]? = some (.cells c t (0, 0)) ∧ c.size = cap * k ∧ es.length ≤ cap ∧ cap ≤ maxLen ∧ (fr = true → n0 ≤ b) ∧
      (∀ e ∈ es, e.cells.length = k) ∧ RepAt n0 O w c (flat es)
  | .mp b es => ∃ en clock, w.heap[b]? = some (.map en clock) ∧ en.size = es.length ∧
      ∀ (j : Nat) e p, en[j]? = some e → es[j]? = some p → e.key = .string p.1 ∧ Rep n0 O w e.val p.2

def blks (h : List It) : List Nat := h.map It.blk

theorem Rep.mono {n0 : Nat} {O O' : Nat → Prop} {w w' : World} (hO : ∀ b, b < w.heap.size → O' b → O b) (hs : w.heap.size ≤ w'.heap.size)
    (hw : ∀ b o u, ¬ O b → w.cell? ⟨b, o, none⟩ = some u → w'.cell? ⟨b, o, none⟩ = some u) {v : Value} {a : AV} (h : Rep n0 O w v a) : Rep n0 O' w' v a := by
  induction h with
  | c v => exact .c v
  | bad v => exact .bad v
  | agg vs cs hl _ ih => exact .agg vs cs hl ih
  | tup vs cs hl _ ih => exact .tup vs cs hl ih
  | nil fr k => exact .nil fr k
  | mt0 => exact .mt0
  | mt1 a => exact .mt1 a
  | sl0 fr k a => exact .sl0 fr k a
  | sl fr k b off cap es us hcap hmax hOb hb hfr hk hc _ ih =>
    exact .sl fr k b off cap es us hcap hmax (fun h => hOb (hO b hb h)) (Nat.lt_of_lt_of_le hb hs) hfr hk (fun j a hj => hw _ _ _ hOb (hc j a hj)) ih
  | pe b off cs us hOb hb hc _ ih =>
    exact .pe b off cs us (fun h => hOb (hO b hb h)) (Nat.lt_of_lt_of_le hb hs) (fun j a hj => hw _ _ _ hOb (hc j a hj)) ih

/-- A smaller base: less is asked of what is fresh. -/
theorem Rep.base {n0 n1 : Nat} {O : Nat → Prop} {w : World} (hn : n1 ≤ n0) {v : Value} {a : AV} (h : Rep n0 O w v a) : Rep n1 O w v a := by
  induction h with
  | c v => exact .c v
  | bad v => exact .bad v
  | agg vs cs hl _ ih => exact .agg vs cs hl ih
  | tup vs cs hl _ ih => exact .tup vs cs hl ih
  | nil fr k => exact .nil fr k
  | mt0 => exact .mt0
  | mt1 a => exact .mt1 a
  | sl0 fr k a => exact .sl0 fr k a
  | sl fr k b off cap es us hcap hmax hOb hb hfr hk hc _ ih =>
    exact .sl fr k b off cap es us hcap hmax hOb hb (fun h => Nat.le_trans hn (hfr h)) hk hc ih
  | pe b off cs us hOb hb hc _ ih => exact .pe b off cs us hOb hb hc ih

/-- Blocks outside O are as they were. -/
structure Ext (O : Nat → Prop) (w w' : World) : Prop where
  os : w'.os = w.os
  tape : w'.tape = w.tape
  output : w'.output = w.output
  size : w.heap.size ≤ w'.heap.size
  block : ∀ b, b < w.heap.size → ¬ O b → w'.heap[b]? = w.heap[b]?

theorem Ext.refl (O : Nat → Prop) (w : World) : Ext O w w := ⟨rfl, rfl, rfl, Nat.le_refl _, fun _ _ _ => rfl⟩
theorem Ext.trans {O O' : Nat → Prop} {w w1 w2 : World} (h : Ext O w w1) (h' : Ext O' w1 w2) (hO : ∀ b, b < w.heap.size → O' b → O b) : Ext O w w2 :=
  ⟨h'.os.trans h.os, h'.tape.trans h.tape, h'.output.trans h.output, Nat.le_trans h.size h'.size, fun b hb hn =>
    (h'.block b (Nat.lt_of_lt_of_le hb h.size) (fun x => hn (hO b hb x))).trans (h.block b hb hn)⟩
theorem Ext.cell {O : Nat → Prop} {w w' : World} (h : Ext O w w') {b o : Nat} {u : Value} (hO : ¬ O b) (hc : w.cell? ⟨b, o, none⟩ = some u) : w'.cell? ⟨b, o, none⟩ = some u := by
  have hb : b < w.heap.size := World.block_lt_of_cell? w _ hc
  have := h.block b hb hO
  exact (World.cell?_of_block (w := w) (a := ⟨b, o, none⟩) this).trans hc
theorem Ext.rep {O O' Ow : Nat → Prop} {w w' : World} (h : Ext Ow w w') (h1 : ∀ b, b < w.heap.size → Ow b → O b) (h2 : ∀ b, b < w.heap.size → O' b → O b) {n0 : Nat} {v : Value} {a : AV} (hr : Rep n0 O w v a) : Rep n0 O' w' v a :=
  hr.mono h2 h.size (fun b o u hO hc => h.cell (fun x => hO (h1 b (World.block_lt_of_cell? w _ hc) x)) hc)

/-- What is known of a frame in a world. -/
structure Ctx where
  X : Nat → Prop      -- blocks of others, not to be met
  O0 : Nat → Prop     -- blocks that the call was given
  w0 : World          -- the world in which it began
  n0 : Nat            -- blocks from here on count as fresh

structure St where
  s : List AV
  h : List It

def Owns (Γ : Ctx) (h : List It) (b : Nat) : Prop := Γ.X b ∨ b ∈ blks h

structure Heap (Γ : Ctx) (h : List It) (w : World) : Prop where
  nd : (blks h).Nodup
  sat : ∀ it ∈ h, it.sat Γ.n0 (Owns Γ h) w
  ext : Ext Γ.O0 Γ.w0 w
  new : ∀ b ∈ blks h, Γ.O0 b ∨ Γ.w0.heap.size ≤ b
  xs : ∀ b, Γ.X b → b < Γ.w0.heap.size ∧ ¬ Γ.O0 b
  base : Γ.n0 ≤ Γ.w0.heap.size

def RepV (Γ : Ctx) (h : List It) (w : World) (v : Value) (a : AV) : Prop := Rep Γ.n0 (Owns Γ h) w v a

structure Sim (Γ : Ctx) (σ : St) (a : Act) (w : World) : Prop where
  len : a.tmps.size = σ.s.length
  slot : ∀ (i : Nat) v x, a.tmps[i]? = some v → σ.s[i]? = some x → RepV Γ σ.h w v x
  dfr : a.defers = []
  heap : Heap Γ σ.h w

theorem It.sat_lt {n0 : Nat} {O : Nat → Prop} {w : World} {it : It} (h : it.sat n0 O w) : it.blk < w.heap.size := by
  cases it <;> simp only [It.sat, It.blk] at h ⊢
  · obtain ⟨c, h, _⟩ := h; exact (Array.getElem?_eq_some_iff.1 h).1
  · obtain ⟨c, h, _⟩ := h; exact (Array.getElem?_eq_some_iff.1 h).1
  · obtain ⟨c, d, h, _⟩ := h; exact (Array.getElem?_eq_some_iff.1 h).1

theorem Heap.lt {Γ : Ctx} {h : List It} {w : World} (H : Heap Γ h w) {b : Nat} (hb : b ∈ blks h) : b < w.heap.size := by
  obtain ⟨it, hit, rfl⟩ := List.mem_map.1 hb
  exact It.sat_lt (H.sat it hit)

theorem RepAt.imp {n0 : Nat} {O : Nat → Prop} {w : World} {n1 : Nat} {O' : Nat → Prop} {w' : World} {c : Array Value} {cs : List AV} (h : RepAt n0 O w c cs)
    (hi : ∀ v a, Rep n0 O w v a → Rep n1 O' w' v a) : RepAt n1 O' w' c cs := fun j a hj => by
  obtain ⟨u, hu, hr⟩ := h j a hj
  exact ⟨u, hu, hi _ _ hr⟩

/-- An item whose block is as it was stays, where what it leads to does. -/
theorem It.sat_of {n0 n1 : Nat} {O O' : Nat → Prop} {w w' : World} {it : It} (h : it.sat n0 O w) (hb : w'.heap[it.blk]? = w.heap[it.blk]?) (hn : n1 ≤ n0)
    (hi : ∀ v a, Rep n0 O w v a → Rep n1 O' w' v a) : it.sat n1 O' w' := by
  cases it <;> simp only [It.sat, It.blk] at h hb ⊢
  · obtain ⟨c, h1, h2, h3⟩ := h; exact ⟨c, hb.trans h1, h2, h3.imp hi⟩
  · obtain ⟨c, h1, h2, h3, h4, h5, h6, h7⟩ := h; exact ⟨c, hb.trans h1, h2, h3, h4, fun e => Nat.le_trans hn (h5 e), h6, h7.imp hi⟩
  · obtain ⟨c, d, h1, h2, h3⟩ := h; exact ⟨c, d, hb.trans h1, h2, fun j e p he hp => ⟨(h3 j e p he hp).1, hi _ _ (h3 j e p he hp).2⟩⟩

end Go.Ab

set_option linter.unusedVariables false
set_option linter.unusedSimpArgs false
namespace Go.Ab

/-- How a body may end. -/
def qx (Q : St → Prop) : Exit → St → Prop
  | .normal, σ | .ret, σ => Q σ
  | _, _ => False

def SQ (Γ : Ctx) (Q : Exit → St → Prop) : Exit → Act → World → Prop := fun e a w => ∃ σ, Q e σ ∧ Sim Γ σ a w

def EW (P : Program) (Γ : Ctx) (c : Code) (σ : St) (Q : Exit → St → Prop) : Prop :=
  ∀ a w, Sim Γ σ a w → c.wp P (SQ Γ Q) a w

/-- From a loop's head on. -/
def Loops (P : Program) (c : Code) (Q : Exit → Act → World → Prop) (a : Act) (w : World) : Prop :=
  ∀ (b : Frame) (k : List Item) (cs : List Frame), ∃ e a' w', Q e a' w' ∧ Arrives P (lone (b.at a (.code c :: .inLoop c :: k)) cs w) b k cs e a' w'

theorem Loops.round {P : Program} {c : Code} {Q : Exit → Act → World → Prop} {a : Act} {w : World} (h : c.wp P (Exit.then (Loops P c Q) Q) a w) : Loops P c Q a w := by
  intro b k cs
  obtain ⟨e, a₁, w₁, hq, harr⟩ := h b (.inLoop c :: k) cs
  cases e with
  | normal =>
    obtain ⟨e₂, a₂, w₂, hq₂, harr₂⟩ := hq b k cs
    exact ⟨e₂, a₂, w₂, hq₂, .of_steps (Steps.trans harr (.one step_inLoop)) harr₂⟩
  | exit id => exact ⟨_, a₁, w₁, hq, .pass (x := .inLoop c) rfl (fun _ _ => .inl (by simp)) harr⟩
  | goto l => exact ⟨_, a₁, w₁, hq, .pass (x := .inLoop c) rfl (fun _ _ => .inl (by simp)) harr⟩
  | ret => exact ⟨_, a₁, w₁, hq, .pass (x := .inLoop c) rfl (fun _ _ => .inl (by simp)) harr⟩
  | panic ch => exact ⟨_, a₁, w₁, hq, .pass (x := .inLoop c) rfl (fun _ _ => .inl (by simp)) harr⟩
  | outgrown => exact ⟨_, a₁, w₁, hq, .pass (x := .inLoop c) rfl (fun _ _ => .inl (by simp)) harr⟩

theorem Loops.wp {P : Program} {c : Code} {Q : Exit → Act → World → Prop} {a : Act} {w : World} (h : Loops P c Q a w) : (Code.loop c).wp P Q a w := fun b k cs =>
  let ⟨e, a', w', hq, harr⟩ := h b k cs
  ⟨e, a', w', hq, .of_steps (.one step_loop) harr⟩

def LW (P : Program) (Γ : Ctx) (c : Code) (σ : St) (Q : Exit → St → Prop) : Prop :=
  ∀ a w, Sim Γ σ a w → Loops P c (SQ Γ Q) a w

/-- What is left to do. -/
inductive KI where
  | code (c : Code)
  | blk (id : Nat)
  | loop (c : Code)

def cont (P : Program) (Γ : Ctx) : List KI → (St → Prop) → Exit → St → Prop
  | [], Q => qx Q
  | .code c :: k, Q => fun e σ => match e with
    | .normal => EW P Γ c σ (cont P Γ k Q)
    | e => cont P Γ k Q e σ
  | .blk id :: k, Q => fun e σ => match e with
    | .exit id' => if id' = id then cont P Γ k Q .normal σ else cont P Γ k Q (.exit id') σ
    | e => cont P Γ k Q e σ
  | .loop c :: k, Q => fun e σ => match e with
    | .normal => LW P Γ c σ (cont P Γ k Q)
    | e => cont P Γ k Q e σ

theorem cont_ret {P : Program} {Γ : Ctx} {Q : St → Prop} {σ : St} : ∀ k, cont P Γ k Q .ret σ = Q σ
  | [] => rfl
  | .code _ :: k => cont_ret k
  | .blk _ :: k => cont_ret k
  | .loop _ :: k => cont_ret k
theorem cont_panic {P : Program} {Γ : Ctx} {Q : St → Prop} {σ : St} {c : List PanicEntry} : ∀ k, cont P Γ k Q (.panic c) σ = False
  | [] => rfl
  | .code _ :: k => cont_panic k
  | .blk _ :: k => cont_panic k
  | .loop _ :: k => cont_panic k

/-- Where an exit leads. -/
def exitK (id : Nat) : List KI → Option (List KI)
  | [] => none
  | .blk id' :: k => if id = id' then some k else exitK id k
  | .code _ :: k => exitK id k
  | .loop _ :: k => exitK id k

section
variable {P : Program} {Γ : Ctx} {σ : St} {Q : St → Prop} {k : List KI}

/-- The machine's todo list, abstractly: what remains, run from σ, ends in Q. -/
def Run (P : Program) (Γ : Ctx) (k : List KI) (Q : St → Prop) (σ : St) : Prop := cont P Γ k Q .normal σ

theorem cont_exit {id : Nat} : ∀ {k k' : List KI}, exitK id k = some k' → Run P Γ k' Q σ → cont P Γ k Q (.exit id) σ
  | [], _, h, _ => by simp [exitK] at h
  | .blk id' :: k, k', h, hr => by
    simp only [exitK] at h
    simp only [cont]
    split at h
    · rename_i he; rw [if_pos he]; cases h; exact hr
    · rename_i he; rw [if_neg he]; exact cont_exit h hr
  | .code _ :: k, k', h, hr => cont_exit (k := k) h hr
  | .loop _ :: k, k', h, hr => cont_exit (k := k) h hr

theorem Run.nil (h : Q σ) : Run P Γ [] Q σ := h
theorem Run.skip (h : Run P Γ k Q σ) : Run P Γ (.code .skip :: k) Q σ := fun a w hs => wp_skip ⟨σ, h, hs⟩
theorem Run.label {l : Nat} (h : Run P Γ k Q σ) : Run P Γ (.code (.label l) :: k) Q σ := fun a w hs => wp_label ⟨σ, h, hs⟩
theorem Run.ret (h : Q σ) : Run P Γ (.code .ret :: k) Q σ := fun a w hs => wp_ret ⟨σ, by rw [cont_ret]; exact h, hs⟩
theorem Run.exit {id : Nat} {k' : List KI} (he : exitK id k = some k') (h : Run P Γ k' Q σ) : Run P Γ (.code (.exit id) :: k) Q σ := fun a w hs => wp_exit ⟨σ, cont_exit he h, hs⟩
theorem Run.blk {id : Nat} (h : Run P Γ k Q σ) : Run P Γ (.blk id :: k) Q σ := h

theorem Run.seq {x y : Code} (h : Run P Γ (.code x :: .code y :: k) Q σ) : Run P Γ (.code (.seq x y) :: k) Q σ := by
  intro a w hs
  refine wp_seq (wp_mono (h a w hs) ?_)
  rintro e a w ⟨σ', q, s⟩
  cases e <;> first | exact q a w s | exact ⟨σ', q, s⟩

theorem Run.block {id : Nat} {c : Code} (h : Run P Γ (.code c :: .blk id :: k) Q σ) : Run P Γ (.code (.block id c) :: k) Q σ := by
  intro a w hs
  refine wp_block (wp_mono (h a w hs) ?_)
  rintro e a w ⟨σ', q, s⟩
  cases e with
  | exit id' =>
    simp only [cont] at q
    simp only [Exit.inBlock]
    split
    · rename_i he; rw [if_pos he] at q; exact ⟨σ', q, s⟩
    · rename_i he; rw [if_neg he] at q; exact ⟨σ', q, s⟩
  | _ => exact ⟨σ', q, s⟩

theorem Run.loop {c : Code} (h : Run P Γ (.loop c :: k) Q σ) : Run P Γ (.code (.loop c) :: k) Q σ := fun a w hs => Loops.wp (h a w hs)

theorem Run.round {c : Code} (h : Run P Γ (.code c :: .loop c :: k) Q σ) : Run P Γ (.loop c :: k) Q σ := by
  intro a w hs
  refine Loops.round (wp_mono (h a w hs) ?_)
  rintro e a w ⟨σ', q, s⟩
  cases e <;> first | exact q a w s | exact ⟨σ', q, s⟩

/-- σ may be forgotten down to τ. -/
def Sub (Γ : Ctx) (σ τ : St) : Prop := ∀ a w, Sim Γ σ a w → Sim Γ τ a w
theorem Sub.refl (σ : St) : Sub Γ σ σ := fun _ _ h => h
theorem Sub.trans {σ τ υ : St} (h : Sub Γ σ τ) (h' : Sub Γ τ υ) : Sub Γ σ υ := fun a w x => h' a w (h a w x)

theorem Run.sub_code {c : Code} {τ : St} (hs : Sub Γ σ τ) (h : Run P Γ (.code c :: k) Q τ) : Run P Γ (.code c :: k) Q σ :=
  fun a w h' => h a w (hs a w h')
theorem Run.sub_loop {c : Code} {τ : St} (hs : Sub Γ σ τ) (h : Run P Γ (.loop c :: k) Q τ) : Run P Γ (.loop c :: k) Q σ :=
  fun a w h' => h a w (hs a w h')

theorem Rep.cv {n0 : Nat} {O : Nat → Prop} {w : World} {v u : Value} (h : Rep n0 O w v (.c u)) : v = u := by
  cases h; rfl

def St.ev (s : List AV) : Operand → AV
  | .tmp t => s.getD t .bad
  | .const v => .c v
  | .global g => .c (.pointer (some ⟨g, 0, none⟩))
  | .func f => .c (.func (.func f) #[] #[])

theorem Sim.ev {a : Act} {w : World} (hs : Sim Γ σ a w) (x : Operand) : RepV Γ σ.h w (a.eval x) (St.ev σ.s x) := by
  cases x with
  | tmp t =>
    simp only [Act.eval, St.ev]
    cases ht : a.tmps[t]? with
    | none =>
      have : σ.s[t]? = none := by
        simp only [Array.getElem?_eq_none_iff] at ht
        simp only [List.getElem?_eq_none_iff]
        have := hs.len
        omega
      rw [List.getD_eq_getElem?_getD, this]
      exact .bad _
    | some v =>
      cases hx : σ.s[t]? with
      | none => rw [List.getD_eq_getElem?_getD, hx]; exact .bad _
      | some x =>
        have := hs.slot t v x ht hx
        rw [List.getD_eq_getElem?_getD, hx]
        simpa [ht] using this
  | const v => exact .c _
  | global g => exact .c _
  | func f => exact .c _

theorem Run.cond {c : Operand} {x y : Code} {t : Bool} (hc : St.ev σ.s c = .c (.bool t)) (h : Run P Γ (.code (if t then x else y) :: k) Q σ) :
    Run P Γ (.code (.cond c x y) :: k) Q σ := by
  intro a w hs
  have hv := hs.ev c
  rw [hc] at hv
  exact wp_cond (Rep.cv hv) (h a w hs)
end
end Go.Ab

set_option linter.unusedVariables false
set_option linter.unusedSimpArgs false
namespace Go.Ab

/-- All blocks that are there stay as they are. -/
structure Same (w w' : World) : Prop where
  os : w'.os = w.os
  tape : w'.tape = w.tape
  output : w'.output = w.output
  size : w.heap.size ≤ w'.heap.size
  block : ∀ b, b < w.heap.size → w'.heap[b]? = w.heap[b]?
theorem Same.refl (w : World) : Same w w := ⟨rfl, rfl, rfl, Nat.le_refl _, fun _ _ => rfl⟩
theorem Same.trans {a b c : World} (h : Same a b) (k : Same b c) : Same a c :=
  ⟨k.os.trans h.os, k.tape.trans h.tape, k.output.trans h.output, Nat.le_trans h.size k.size, fun i hi => (k.block i (Nat.lt_of_lt_of_le hi h.size)).trans (h.block i hi)⟩
theorem Same.ext {w w' : World} (h : Same w w') (O : Nat → Prop) : Ext O w w' := ⟨h.os, h.tape, h.output, h.size, fun b hb _ => h.block b hb⟩
theorem Same.alloc (w : World) (o : Obj) : Same w (w.alloc o) := ⟨rfl, rfl, rfl, by simp, fun k hk => Go.RowKit.Below.heap_alloc w o k hk⟩
theorem Same.drew (w : World) : Same w w.drew := ⟨rfl, rfl, rfl, Nat.le_refl _, fun _ _ => rfl⟩

def find (b : Nat) : List It → Option It
  | [] => none
  | it :: h => if b = it.blk then some it else find b h
def repl (b : Nat) (it' : It) : List It → List It
  | [] => []
  | it :: h => if b = it.blk then it' :: h else it :: repl b it' h
def del (b : Nat) : List It → List It
  | [] => []
  | it :: h => if b = it.blk then h else it :: del b h

theorem find_mem {b : Nat} {it : It} : ∀ {h : List It}, find b h = some it → it ∈ h ∧ it.blk = b
  | [], h => by simp [find] at h
  | x :: l, h => by
    simp only [find] at h
    split at h
    · rename_i e; cases h; exact ⟨List.mem_cons_self, e.symm⟩
    · obtain ⟨h1, h2⟩ := find_mem h; exact ⟨List.mem_cons_of_mem _ h1, h2⟩

theorem del_sub (b : Nat) : ∀ h : List It, (del b h).Sublist h
  | [] => .slnil
  | it :: h => by
    simp only [del]
    split
    · exact List.sublist_cons_self _ _
    · exact (del_sub b h).cons_cons _

theorem repl_mem {b : Nat} {it' x : It} : ∀ {h : List It}, x ∈ repl b it' h → x = it' ∨ x ∈ del b h
  | [], h => by simp [repl] at h
  | it :: l, h => by
    simp only [repl] at h
    simp only [del]
    split at h
    · rename_i e
      rw [if_pos e]
      rcases List.mem_cons.1 h with h | h
      · exact .inl h
      · exact .inr h
    · rename_i e
      rw [if_neg e]
      rcases List.mem_cons.1 h with h | h
      · exact .inr (h ▸ List.mem_cons_self)
      · rcases repl_mem h with h | h
        · exact .inl h
        · exact .inr (List.mem_cons_of_mem _ h)

theorem del_blk {b : Nat} {x : It} : ∀ {h : List It}, (blks h).Nodup → x ∈ del b h → x ∈ h ∧ x.blk ≠ b
  | [], _, h => by simp [del] at h
  | it :: l, hn, h => by
    simp only [del] at h
    simp only [blks, List.map_cons, List.nodup_cons] at hn
    split at h
    · rename_i e
      refine ⟨List.mem_cons_of_mem _ h, fun e' => hn.1 ?_⟩
      rw [← e, ← e']
      exact List.mem_map.2 ⟨x, h, rfl⟩
    · rename_i e
      rcases List.mem_cons.1 h with rfl | h
      · exact ⟨List.mem_cons_self, fun e' => e e'.symm⟩
      · obtain ⟨h1, h2⟩ := del_blk (by simpa [blks] using hn.2) h
        exact ⟨List.mem_cons_of_mem _ h1, h2⟩

theorem blks_repl {b : Nat} {it it' : It} : ∀ {h : List It}, find b h = some it → ∀ x, x ∈ blks (repl b it' h) ↔ x = it'.blk ∨ x ∈ blks (del b h)
  | [], h => by simp [find] at h
  | y :: l, h => by
    intro x
    simp only [find] at h
    simp only [repl, del]
    split at h
    · rename_i e; simp [e, blks]
    · rename_i e
      have := blks_repl (it' := it') h x
      simp only [e, if_false, blks, List.map_cons, List.mem_cons] at this ⊢
      rw [this]
      constructor
      · rintro (h | h | h)
        · exact .inr (.inl h)
        · exact .inl h
        · exact .inr (.inr h)
      · rintro (h | h | h)
        · exact .inr (.inl h)
        · exact .inl h
        · exact .inr (.inr h)

theorem nodup_repl {b : Nat} {it' : It} : ∀ {h : List It}, (blks h).Nodup → it'.blk ∉ blks (del b h) → (blks (repl b it' h)).Nodup
  | [], _, _ => by simp [repl, blks]
  | y :: l, hn, hf => by
    have hn' := hn
    simp only [blks, List.map_cons, List.nodup_cons] at hn
    simp only [repl]
    simp only [del] at hf
    split
    · rename_i e
      rw [if_pos e] at hf
      simp only [blks, List.map_cons, List.nodup_cons]
      exact ⟨hf, hn.2⟩
    · rename_i e
      rw [if_neg e] at hf
      simp only [blks, List.map_cons, List.mem_cons, not_or] at hf
      simp only [blks, List.map_cons, List.nodup_cons]
      refine ⟨fun hm => ?_, nodup_repl (by simpa [blks] using hn.2) (by simpa [blks] using hf.2)⟩
      obtain ⟨x, hx, hxe⟩ := List.mem_map.1 hm
      rcases repl_mem hx with rfl | hx
      · exact hf.1 hxe
      · exact hn.1 (List.mem_map.2 ⟨x, (del_sub b l).subset hx, hxe⟩)

section
variable {Γ : Ctx} {h : List It} {w w' : World}

theorem Heap.x_not (H : Heap Γ h w) {b : Nat} (hb : b ∈ blks h) : ¬ Γ.X b := fun hx => by
  obtain ⟨h1, h2⟩ := H.xs b hx
  rcases H.new b hb with h3 | h3
  · exact h2 h3
  · omega

/-- Nothing owned is touched. -/
theorem Heap.same (H : Heap Γ h w) (hs : Same w w') : Heap Γ h w' :=
  ⟨H.nd, fun it hit => It.sat_of (H.sat it hit) (hs.block _ (It.sat_lt (H.sat it hit))) (Nat.le_refl _) (fun v a hr => (hs.ext (fun _ => False)).rep (fun _ _ h => h.elim) (fun _ _ h => h) hr),
   H.ext.trans (hs.ext (fun _ => False)) (fun _ _ h => h.elim), H.new, H.xs, H.base⟩
theorem RepV.same {v : Value} {a : AV} (hr : RepV Γ h w v a) (hs : Same w w') : RepV Γ h w' v a :=
  (hs.ext (fun _ => False)).rep (fun _ _ h => h.elim) (fun _ _ h => h) hr

/-- One owned block may have turned, or have been replaced by a new one; the rest is as it was. -/
structure Turn (b b' : Nat) (w w' : World) : Prop where
  os : w'.os = w.os
  tape : w'.tape = w.tape
  output : w'.output = w.output
  size : w.heap.size ≤ w'.heap.size
  block : ∀ x, x < w.heap.size → x ≠ b → w'.heap[x]? = w.heap[x]?
  lies : b' = b ∨ w.heap.size ≤ b'

theorem Turn.ext {b b' : Nat} (hs : Turn b b' w w') : Ext (· = b) w w' := ⟨hs.os, hs.tape, hs.output, hs.size, hs.block⟩

theorem RepV.turn {b : Nat} {it it' : It} (H : Heap Γ h w) (hf : find b h = some it) (hs : Turn b it'.blk w w') {v : Value} {a : AV} (hr : RepV Γ h w v a) :
    RepV Γ (repl b it' h) w' v a := by
  have hb := find_mem hf
  refine hs.ext.rep (fun x _ hx => ?_) (fun x hx hx' => ?_) hr
  · subst hx; exact .inr (hb.2 ▸ List.mem_map.2 ⟨it, hb.1, rfl⟩)
  · rcases hx' with hx' | hx'
    · exact .inl hx'
    · rcases (blks_repl (it' := it') hf x).1 hx' with h1 | h1
      · rcases hs.lies with h2 | h2
        · rw [h1, h2]; exact .inr (hb.2 ▸ List.mem_map.2 ⟨it, hb.1, rfl⟩)
        · omega
      · exact .inr (((del_sub b h).map It.blk).subset h1)

theorem Heap.turn {b : Nat} {it it' : It} (H : Heap Γ h w) (hf : find b h = some it) (hs : Turn b it'.blk w w')
    (hsat : it'.sat Γ.n0 (Owns Γ (repl b it' h)) w') : Heap Γ (repl b it' h) w' := by
  have hb := find_mem hf
  have hbm : b ∈ blks h := hb.2 ▸ List.mem_map.2 ⟨it, hb.1, rfl⟩
  have hnin : it'.blk ∉ blks (del b h) := by
    intro hm
    obtain ⟨x, hx, hxe⟩ := List.mem_map.1 hm
    obtain ⟨h1, h2⟩ := del_blk H.nd hx
    rcases hs.lies with h3 | h3
    · exact h2 (hxe.trans h3)
    · have := It.sat_lt (H.sat x h1); omega
  refine ⟨nodup_repl H.nd hnin, fun x hx => ?_, H.ext.trans hs.ext (fun x hx hxe => ?_), fun x hx => ?_, H.xs, H.base⟩
  · rcases repl_mem hx with rfl | hx
    · exact hsat
    · obtain ⟨h1, h2⟩ := del_blk H.nd hx
      exact It.sat_of (H.sat x h1) (hs.block _ (It.sat_lt (H.sat x h1)) h2) (Nat.le_refl _) (fun v a hr => RepV.turn H hf hs hr)
  · subst hxe
    rcases H.new x hbm with h3 | h3
    · exact h3
    · omega
  · rcases (blks_repl (it' := it') hf x).1 hx with h1 | h1
    · rcases hs.lies with h2 | h2
      · rw [h1, h2]; exact H.new b hbm
      · right; have := H.ext.size; omega
    · exact H.new x (((del_sub b h).map It.blk).subset h1)

/-- A new owned block. -/
theorem RepV.add {it : It} (hs : Same w w') (hn : w.heap.size ≤ it.blk) {v : Value} {a : AV} (hr : RepV Γ h w v a) : RepV Γ (it :: h) w' v a := by
  refine (hs.ext (fun _ => False)).rep (fun _ _ h => h.elim) (fun x hx hx' => ?_) hr
  rcases hx' with hx' | hx'
  · exact .inl hx'
  · simp only [blks, List.map_cons, List.mem_cons] at hx'
    rcases hx' with h1 | h1
    · omega
    · exact .inr h1
theorem Heap.add {it : It} (H : Heap Γ h w) (hs : Same w w') (hn : w.heap.size ≤ it.blk) (hsat : it.sat Γ.n0 (Owns Γ (it :: h)) w') : Heap Γ (it :: h) w' := by
  refine ⟨?_, fun x hx => ?_, H.ext.trans (hs.ext (fun _ => False)) (fun _ _ h => h.elim), fun x hx => ?_, H.xs, H.base⟩
  · simp only [blks, List.map_cons, List.nodup_cons]
    exact ⟨fun hm => by have := H.lt hm; omega, H.nd⟩
  · rcases List.mem_cons.1 hx with rfl | hx
    · exact hsat
    · exact It.sat_of (H.sat x hx) (hs.block _ (It.sat_lt (H.sat x hx))) (Nat.le_refl _) (fun v a hr => RepV.add hs hn hr)
  · simp only [blks, List.map_cons, List.mem_cons] at hx
    rcases hx with h1 | h1
    · right; have := H.ext.size; omega
    · exact H.new x h1

/-- Items may be forgotten. -/
theorem RepV.drop {h' : List It} (hs : h'.Sublist h) {v : Value} {a : AV} (hr : RepV Γ h w v a) : RepV Γ h' w v a :=
  Rep.mono (fun b hb hx => hx.imp id (fun hx => (hs.map It.blk).subset hx)) (Nat.le_refl _) (fun _ _ _ _ h => h) hr
theorem Heap.drop {h' : List It} (H : Heap Γ h w) (hs : h'.Sublist h) : Heap Γ h' w :=
  ⟨H.nd.sublist (hs.map It.blk), fun it hit => It.sat_of (H.sat it (hs.subset hit)) rfl (Nat.le_refl _) (fun _ _ hr => RepV.drop hs hr), H.ext, fun b hb => H.new b ((hs.map It.blk).subset hb), H.xs, H.base⟩
end

theorem Sub.drop {Γ : Ctx} {s : List AV} {h h' : List It} (hs : h'.Sublist h) : Sub Γ ⟨s, h⟩ ⟨s, h'⟩ := fun a w S =>
  ⟨S.len, fun i v x hv hx => (S.slot i v x hv hx).drop hs, S.dfr, S.heap.drop hs⟩

/-- Slots may be forgotten. -/
inductive Less : List AV → List AV → Prop where
  | nil : Less [] []
  | same {a : AV} {s t : List AV} (h : Less s t) : Less (a :: s) (a :: t)
  | bad {a : AV} {s t : List AV} (h : Less s t) : Less (a :: s) (.bad :: t)
theorem Less.refl : ∀ s, Less s s
  | [] => .nil
  | _ :: s => .same (refl s)
theorem Less.spec {s t : List AV} (h : Less s t) : s.length = t.length ∧ ∀ (i : Nat) y, t[i]? = some y → s[i]? = some y ∨ (∃ x, s[i]? = some x) ∧ y = .bad := by
  induction h with
  | nil => exact ⟨rfl, fun i y h => by simp at h⟩
  | same _ ih =>
    refine ⟨by simp [ih.1], fun i y h => ?_⟩
    cases i with
    | zero => left; simpa using h
    | succ i => simpa using ih.2 i y (by simpa using h)
  | bad _ ih =>
    refine ⟨by simp [ih.1], fun i y h => ?_⟩
    cases i with
    | zero => right; simp at h; exact ⟨⟨_, rfl⟩, h.symm⟩
    | succ i => simpa using ih.2 i y (by simpa using h)
theorem Sub.less {Γ : Ctx} {s t : List AV} {h : List It} (hl : Less s t) : Sub Γ ⟨s, h⟩ ⟨t, h⟩ := fun a w S =>
  ⟨S.len.trans hl.spec.1, fun i v x hv hx => by
    rcases hl.spec.2 i x hx with h1 | ⟨_, rfl⟩
    · exact S.slot i v x hv h1
    · exact .bad _, S.dfr, S.heap⟩

/-- Blocks that were there are as they were, but for those of E that are owned. -/
def Kep (Γ : Ctx) (h : List It) (E : List Nat) (w w' : World) : Prop := Ext (fun b => b ∈ blks h ∧ b ∈ E) w w'
theorem Kep.of_same {Γ : Ctx} {h : List It} {E : List Nat} {w w' : World} (hs : Same w w') : Kep Γ h E w w' := hs.ext _

theorem Kep.of_turn {Γ : Ctx} {h : List It} {b b' : Nat} {it : It} {w w' : World} (hf : find b h = some it) (hs : Turn b b' w w') : Kep Γ h [b] w w' :=
  ⟨hs.os, hs.tape, hs.output, hs.size, fun x hx hn => hs.block x hx fun e => hn (by subst e; exact ⟨(find_mem hf).2 ▸ List.mem_map.2 ⟨it, (find_mem hf).1, rfl⟩, List.mem_singleton.2 rfl⟩)⟩

/-- What one operation does. E: the blocks that it may turn. -/
def OpOK (P : Program) (Γ : Ctx) (o : Oper) (s : List AV) (h : List It) (K : List Nat → AV → List It → Prop) : Prop :=
  ∀ (a : Act) (w : World), Sim Γ ⟨s, h⟩ a w → ∀ (K' : Act → World → Prop) (Q : Exit → Act → World → Prop),
    (∀ v w' pure x h', K pure x h' → Heap Γ h' w' → RepV Γ h' w' v x → (∀ u y, RepV Γ h w u y → RepV Γ h' w' u y) → Kep Γ h pure w w' → K' (a.put o.dst v) w') → o.wp P a w K' Q

theorem OpOK.of_run {P : Program} {Γ : Ctx} {o : Oper} {s : List AV} {h : List It} {K : List Nat → AV → List It → Prop}
    (H : ∀ a w, Sim Γ ⟨s, h⟩ a w → ∃ v w' pure x h', (execOp a.eval o).run P w = .ok (.value v) w' ∧ K pure x h' ∧ Heap Γ h' w' ∧ RepV Γ h' w' v x ∧
      (∀ u y, RepV Γ h w u y → RepV Γ h' w' u y) ∧ Kep Γ h pure w w') : OpOK P Γ o s h K := by
  intro a w S K' Q hK
  obtain ⟨v, w', pure, x, h', hr, h1, h2, h3, h4, h5⟩ := H a w S
  unfold Oper.wp
  rw [hr]
  exact hK v w' pure x h' h1 h2 h3 h4 h5

theorem OpOK.of_skip {P : Program} {Γ : Ctx} {o : Oper} {s : List AV} {h : List It} {K : List Nat → AV → List It → Prop}
    (H : ∀ a w, Sim Γ ⟨s, h⟩ a w → ∃ w' pure h', (execOp a.eval o).run P w = .ok .skip w' ∧ K pure (.c undef) h' ∧ Heap Γ h' w' ∧
      (∀ u y, RepV Γ h w u y → RepV Γ h' w' u y) ∧ Kep Γ h pure w w') : OpOK P Γ o s h K := by
  intro a w S K' Q hK
  obtain ⟨w', pure, h', hr, h1, h2, h4, h5⟩ := H a w S
  unfold Oper.wp
  rw [hr]
  exact hK undef w' pure _ h' h1 h2 (.c _) h4 h5

/-- An operation that only computes. -/
theorem OpOK.of_still {P : Program} {Γ : Ctx} {o : Oper} {s : List AV} {h : List It} {K : List Nat → AV → List It → Prop} {x : AV} (hK : K [] x h)
    (H : ∀ a w, Sim Γ ⟨s, h⟩ a w → ∃ v, (execOp a.eval o).run P w = .ok (.value v) w ∧ RepV Γ h w v x) : OpOK P Γ o s h K :=
  OpOK.of_run fun a w S => by
    obtain ⟨v, hr, hv⟩ := H a w S
    exact ⟨v, w, [], x, h, hr, hK, S.heap, hv, fun _ _ h => h, .of_same (Same.refl w)⟩
end Go.Ab

set_option linter.unusedVariables false
set_option linter.unusedSimpArgs false
namespace Go.Ab

def isAggB (P : Program) (t : TypeId) : Bool := match P.underlying t with | some (.struct _) | some (.array _ _) => true | _ => false
def hasT (P : Program) (t : TypeId) : Bool := (P.info? t).isSome && (P.underlying t).isSome
def szOf (P : Program) (t : TypeId) : Nat := ((P.info? t).map (·.size)).getD 0
def zeroOf (P : Program) (t : TypeId) : Option Value := (P.info? t).bind (·.zero)
def fieldOf (P : Program) (t : TypeId) (i : Nat) : Option (TypeId × Nat) := match P.underlying t with | some (.struct fs) => (fs[i]?).map fun f => (f.type, f.offset) | _ => none
def elemOfS (P : Program) (t : TypeId) : Option TypeId := match P.underlying t with | some (.slice e) => some e | _ => none
def isStr (P : Program) (t : TypeId) : Bool := match P.underlying t with | some .string => true | _ => false
def intOfT (P : Program) (t : TypeId) : Option IntKind := match P.underlying t with | some (.int k) => some k | _ => none

/-- Does it read memory? -/
def readsK : Op → Bool
  | .load _ _ => true
  | .lookup _ _ _ _ => true
  | .convert _ _ _ => true
  | _ => false

def evA := St.ev

/-- The named block that an operation reads. -/
def readL (s : List AV) : Op → List Nat
  | .load _ a => match evA s a with
    | .c (.pointer (some ⟨b, _, _⟩)) => [b]
    | _ => []
  | .lookup _ m _ _ => match evA s m with
    | .c (.map (some b)) => [b]
    | _ => []
  | .convert _ _ x => match evA s x with
    | .c (.slice (some ⟨b, _, _⟩) _ _) => [b]
    | _ => []
  | _ => []
/-- What is read stays. -/
def Sure (Γ : Ctx) (h : List It) (L : List Nat) (w w' : World) : Prop := ∀ b, b < w.heap.size → (b ∉ blks h ∨ b ∈ L) → w'.heap[b]? = w.heap[b]?
theorem Sure.refl {Γ : Ctx} {h : List It} {L : List Nat} (w : World) : Sure Γ h L w w := fun _ _ _ => rfl

def Calm (P : Program) (Γ : Ctx) (o : Oper) (s : List AV) (h : List It) (x : AV) : Prop :=
  ∀ a w, Sim Γ ⟨s, h⟩ a w → ∃ v, (∀ w', (readsK o.op = true → Sure Γ h (readL s o.op) w w') → (execOp a.eval o).run P w' = .ok (.value v) w') ∧ RepV Γ h w v x

theorem Calm.ok {P : Program} {Γ : Ctx} {o : Oper} {s : List AV} {h : List It} {x : AV} (hc : Calm P Γ o s h x) {K : List Nat → AV → List It → Prop} (hK : K [] x h) : OpOK P Γ o s h K :=
  OpOK.of_still hK fun a w S => let ⟨v, h1, h2⟩ := hc a w S; ⟨v, h1 w (fun _ => Sure.refl w), h2⟩

section
variable {P : Program} {Γ : Ctx} {o : Oper} {s : List AV} {h : List It} {w w' : World}

theorem has_info {t : TypeId} (ht : hasT P t = true) : ∃ i, P.info? t = some i := by
  simp only [hasT, Bool.and_eq_true, Option.isSome_iff_exists] at ht
  exact ht.1
theorem has_und {t : TypeId} (ht : hasT P t = true) : ∃ i, P.underlying t = some i := by
  simp only [hasT, Bool.and_eq_true, Option.isSome_iff_exists] at ht
  exact ht.2
theorem run_isAgg {t : TypeId} (ht : hasT P t = true) (w : World) : (isAgg t).run P w = .ok (isAggB P t) w := by
  obtain ⟨d, hd⟩ := has_und ht
  unfold isAgg isAggB
  simp only [hd]
  simp [run_underlying hd]
  cases d <;> rfl
theorem run_sizeOf {t : TypeId} (ht : hasT P t = true) (w : World) : (sizeOf t).run P w = .ok (szOf P t) w := by
  obtain ⟨d, hd⟩ := has_info ht
  simp [sizeOf, typeInfo, szOf, hd]

theorem cell_same {b o : Nat} {u : Value} (hs : w'.heap[b]? = w.heap[b]?) (hc : w.cell? ⟨b, o, none⟩ = some u) : w'.cell? ⟨b, o, none⟩ = some u :=
  (World.cell?_of_block (w := w) (a := ⟨b, o, none⟩) hs).trans hc

/-- The cells from an address on. -/
def View (Γ : Ctx) (h : List It) (w : World) (b off : Nat) (cs : List AV) : Prop :=
  ∃ us : Nat → Value, (∀ (j : Nat) a, cs[j]? = some a → w.cell? ⟨b, off + j, none⟩ = some (us j)) ∧ ∀ (j : Nat) a, cs[j]? = some a → RepV Γ h w (us j) a

theorem View.drop {b off n : Nat} {cs : List AV} (hv : View Γ h w b off cs) : View Γ h w b (off + n) (cs.drop n) := by
  obtain ⟨us, h1, h2⟩ := hv
  refine ⟨fun j => us (n + j), fun j a hj => ?_, fun j a hj => ?_⟩
  · rw [List.getElem?_drop] at hj
    rw [Nat.add_assoc]
    exact h1 _ a hj
  · rw [List.getElem?_drop] at hj
    exact h2 _ a hj

theorem View.obj {b : Nat} {t : TypeId} {cs : List AV} (H : Heap Γ h w) (hf : find b h = some (.obj b t cs)) : View Γ h w b 0 cs := by
  obtain ⟨c, h1, h2, h3⟩ := H.sat _ (find_mem hf).1
  refine ⟨fun j => c.getD j undef, fun j a hj => ?_, fun j a hj => ?_⟩
  · obtain ⟨u, hu, _⟩ := h3 j a hj
    simp [World.cell?, h1, hu]
  · obtain ⟨u, hu, hr⟩ := h3 j a hj
    simp only [RepV]
    simpa [hu] using hr

theorem View.row {b : Nat} {t : TypeId} {k cap : Nat} {fr : Bool} {es : List AV} (H : Heap Γ h w) (hf : find b h = some (.row b t k cap fr es)) : View Γ h w b 0 (flat es) := by
  obtain ⟨c, h1, _, _, _, _, _, h3⟩ := H.sat _ (find_mem hf).1
  refine ⟨fun j => c.getD j undef, fun j a hj => ?_, fun j a hj => ?_⟩
  · obtain ⟨u, hu, _⟩ := h3 j a hj
    simp [World.cell?, h1, hu]
  · obtain ⟨u, hu, hr⟩ := h3 j a hj
    simp only [RepV]
    simpa [hu] using hr

def loadA (P : Program) (t : TypeId) (cs : List AV) : Option AV :=
  if isAggB P t then (if szOf P t ≤ cs.length then some (.agg (cs.take (szOf P t))) else none) else cs[0]?

theorem addr_add (b off n : Nat) : (⟨b, off, none⟩ : Addr).add n = ⟨b, off + n, none⟩ := by
  unfold Addr.add
  split
  · rename_i h; subst h; rfl
  · rfl

theorem View.load {b off : Nat} {cs : List AV} {t : TypeId} {x : AV} (ht : hasT P t = true) (hv : View Γ h w b off cs) (hx : loadA P t cs = some x) :
    ∃ v, (∀ w', w'.heap[b]? = w.heap[b]? → (loadVar t ⟨b, off, none⟩).run P w' = .ok v w') ∧ RepV Γ h w v x := by
  obtain ⟨us, h1, h2⟩ := hv
  unfold loadA at hx
  split at hx
  · rename_i hagg
    split at hx
    · rename_i hle
      cases hx
      let vs : List Value := (List.range (szOf P t)).map us
      have hvl : vs.length = szOf P t := by simp [vs]
      refine ⟨.agg vs.toArray, fun w' hs => ?_, ?_⟩
      · have := run_loadCells_list (P := P) w' ⟨b, off, none⟩ vs (fun j v hj => by
          rw [addr_add]
          have hjl : j < szOf P t := by
            have := (List.getElem?_eq_some_iff.1 hj).1
            omega
          have hv' : v = us j := by
            simp [vs, hjl] at hj
            exact hj.symm
          rw [hv']
          have hjc : j < cs.length := by omega
          exact cell_same hs (h1 j cs[j] (List.getElem?_eq_getElem hjc)))
        rw [hvl] at this
        unfold loadVar
        simp [run_isAgg ht, hagg, run_sizeOf ht, this]
      · refine .agg _ _ (by simp [vs]; omega) (fun i v a hv ha => ?_)
        simp [vs] at hv
        rw [List.getElem?_take] at ha
        split at ha
        · rename_i hlt
          have : v = us i := by
            obtain ⟨_, _, hh⟩ := hv
            simp_all
          rw [this]
          exact h2 i a ha
        · cases ha
    · cases hx
  · rename_i hagg
    refine ⟨us 0, fun w' hs => ?_, h2 0 x hx⟩
    have hc := cell_same hs (h1 0 x hx)
    simp only [Nat.add_zero] at hc
    unfold loadVar
    simp [run_isAgg ht, hagg, hc]
end
end Go.Ab

set_option linter.unusedVariables false
set_option linter.unusedSimpArgs false
namespace Go.Ab

def AV.okB : AV → Bool
  | .bad => false
  | _ => true

section
variable {P : Program} {Γ : Ctx} {o : Oper} {s : List AV} {h : List It} {w w' : World}

theorem rep_cells {n0 : Nat} {O : Nat → Prop} {v : Value} {x : AV} (hr : Rep n0 O w v x) (hx : x.okB = true) :
    v.cells.size = x.cells.length ∧ ∀ (j : Nat) u a, v.cells[j]? = some u → x.cells[j]? = some a → Rep n0 O w u a := by
  cases hr with
  | c v =>
    cases v with
    | agg vs =>
      refine ⟨by simp [Value.cells, AV.cells], fun j u a hu ha => ?_⟩
      simp only [Value.cells] at hu
      simp [AV.cells, hu] at ha
      exact ha ▸ .c _
    | _ =>
      refine ⟨by simp [Value.cells, AV.cells], fun j u a hu ha => ?_⟩
      simp only [Value.cells, AV.cells] at hu ha
      cases j with
      | zero => simp at hu ha; subst hu; subst ha; exact .c _
      | succ j => simp at hu
  | bad v => cases hx
  | agg vs cs hl hh =>
    refine ⟨by simpa [Value.cells, AV.cells] using hl, fun j u a hu ha => hh j u a hu ha⟩
  | tup vs cs hl hh =>
    refine ⟨by simp [Value.cells, AV.cells], fun j u a hu ha => ?_⟩
    simp only [Value.cells, AV.cells] at hu ha
    cases j with
    | zero => simp at hu ha; subst hu; subst ha; exact .tup _ _ hl hh
    | succ j => simp at hu
  | nil fr k =>
    refine ⟨by simp [Value.cells, AV.cells], fun j u a hu ha => ?_⟩
    simp only [Value.cells, AV.cells] at hu ha
    cases j with
    | zero => simp at hu ha; subst hu; subst ha; exact .nil _ _
    | succ j => simp at hu
  | mt0 =>
    refine ⟨by simp [Value.cells, AV.cells], fun j u a hu ha => ?_⟩
    simp only [Value.cells, AV.cells] at hu ha
    cases j with
    | zero => simp at hu ha; subst hu; subst ha; exact .mt0
    | succ j => simp at hu
  | mt1 q =>
    refine ⟨by simp [Value.cells, AV.cells], fun j u a hu ha => ?_⟩
    simp only [Value.cells, AV.cells] at hu ha
    cases j with
    | zero => simp at hu ha; subst hu; subst ha; exact .mt1 _
    | succ j => simp at hu
  | sl0 fr k q =>
    refine ⟨by simp [Value.cells, AV.cells], fun j u a hu ha => ?_⟩
    simp only [Value.cells, AV.cells] at hu ha
    cases j with
    | zero => simp at hu ha; subst hu; subst ha; exact .sl0 _ _ _
    | succ j => simp at hu
  | sl fr k b off cap es us h1 h2 h3 h4 h5 h6 h7 h8 =>
    refine ⟨by simp [Value.cells, AV.cells], fun j u a hu ha => ?_⟩
    simp only [Value.cells, AV.cells] at hu ha
    cases j with
    | zero => simp at hu ha; subst hu; subst ha; exact .sl _ _ _ _ _ _ us h1 h2 h3 h4 h5 h6 h7 h8
    | succ j => simp at hu
  | pe b off cs us h1 h2 h3 h4 =>
    refine ⟨by simp [Value.cells, AV.cells], fun j u a hu ha => ?_⟩
    simp only [Value.cells, AV.cells] at hu ha
    cases j with
    | zero => simp at hu ha; subst hu; subst ha; exact .pe _ _ _ us h1 h2 h3 h4
    | succ j => simp at hu

/-- Lists that read alike. -/
def RepL (Γ : Ctx) (h : List It) (w : World) (vs : List Value) (xs : List AV) : Prop :=
  vs.length = xs.length ∧ ∀ (i : Nat) v a, vs[i]? = some v → xs[i]? = some a → RepV Γ h w v a

theorem RepL.nil : RepL Γ h w [] [] := ⟨rfl, fun i v a hv => by simp at hv⟩
theorem RepL.cons {v : Value} {x : AV} {vs : List Value} {xs : List AV} (h1 : RepV Γ h w v x) (h2 : RepL Γ h w vs xs) : RepL Γ h w (v :: vs) (x :: xs) := by
  refine ⟨by simp [h2.1], fun i u a hu ha => ?_⟩
  cases i with
  | zero => simp at hu ha; subst hu; subst ha; exact h1
  | succ i => exact h2.2 i u a (by simpa using hu) (by simpa using ha)
theorem RepL.of_cons {v : Value} {x : AV} {vs : List Value} {xs : List AV} (h1 : RepL Γ h w (v :: vs) (x :: xs)) : RepV Γ h w v x ∧ RepL Γ h w vs xs :=
  ⟨h1.2 0 v x rfl rfl, by simpa using h1.1, fun i u a hu ha => h1.2 (i + 1) u a (by simpa using hu) (by simpa using ha)⟩
theorem RepL.map {f : Operand → Value} {g : Operand → AV} (S : ∀ x, RepV Γ h w (f x) (g x)) : ∀ l : List Operand, RepL Γ h w (l.map f) (l.map g)
  | [] => RepL.nil
  | x :: l => RepL.cons (S x) (RepL.map S l)
theorem RepL.append {vs vs' : List Value} {xs xs' : List AV} (h1 : RepL Γ h w vs xs) (h2 : RepL Γ h w vs' xs') : RepL Γ h w (vs ++ vs') (xs ++ xs') := by
  refine ⟨by simp [h1.1, h2.1], fun i v a hv ha => ?_⟩
  rw [List.getElem?_append] at hv ha
  split at hv
  · rename_i hl
    rw [if_pos (by rw [← h1.1]; exact hl)] at ha
    exact h1.2 i v a hv ha
  · rename_i hl
    rw [if_neg (by rw [← h1.1]; exact hl)] at ha
    rw [h1.1] at hv
    exact h2.2 _ v a hv ha

def placesL (P : Program) (t : TypeId) : Option (List (Nat × Nat)) :=
  match P.underlying t with
  | some (.struct fields) => fields.toList.mapM (fun f => (P.info? f.type).map fun i => (f.offset, i.size))
  | some (.array n e) => (P.info? e).map fun i => (List.range n).map fun j => (j * i.size, i.size)
  | _ => none

def fillA (pl : List (Nat × Nat)) : List AV → List (Nat × AV) → Option (List AV)
  | cs, [] => some cs
  | cs, (i, x) :: rest =>
    match pl[i]? with
    | none => none
    | some (off, size) => if x.okB ∧ x.cells.length = size ∧ off + x.cells.length ≤ cs.length then fillA pl (cs.take off ++ x.cells ++ cs.drop (off + x.cells.length)) rest else none

def buildA (P : Program) (t : TypeId) (parts : List (Nat × AV)) : Option AV :=
  match placesL P t, zeroOf P t with
  | some pl, some z => (fillA pl (AV.c z).cells parts).map .agg
  | _, _ => none

theorem overlay_get (off : Nat) : ∀ (l : List Value) (k : Nat) (cs : Array Value), off + k + l.length ≤ cs.size →
    ((l.zipIdx k).foldl (fun cs (c, j) => cs.setIfInBounds (off + j) c) cs).toList = cs.toList.take (off + k) ++ l ++ cs.toList.drop (off + k + l.length)
  | [], k, cs, hle => by simp
  | v :: l, k, cs, hle => by
    simp only [List.zipIdx_cons, List.foldl_cons, List.length_cons] at hle ⊢
    rw [overlay_get off l (k + 1) _ (by simp; omega)]
    simp only [Array.toList_setIfInBounds]
    rw [List.take_set, List.drop_set]
    have h1 : off + (k + 1) = off + k + 1 := by omega
    have h2 : ¬ (off + k + 1 + l.length ≤ off + k) := by omega
    rw [h1, if_pos (by omega)]
    have hlt : off + k < cs.toList.length := by simp; omega
    rw [List.take_succ_eq_append_getElem hlt]
    rw [List.set_append_right _ _ (by rw [List.length_take, Array.length_toList]; omega)]
    have : off + k - (List.take (off + k) cs.toList).length = 0 := by rw [List.length_take, Array.length_toList]; omega
    rw [this]
    simp only [List.set_cons_zero, List.append_assoc, List.cons_append, List.nil_append]
    have hd : off + k + (l.length + 1) = off + k + 1 + l.length := by omega
    rw [hd]

theorem fill_rep {pl : List (Nat × Nat)} {place : Nat → Option (Nat × Nat)} (hp : ∀ i x, pl[i]? = some x → place i = some x) :
    ∀ (ps : List (Nat × AV)) (qs : List (Nat × Value)) (cs : List AV) (vs : Array Value) (r : List AV), ps.map (·.1) = qs.map (·.1) → RepL Γ h w (qs.map (·.2)) (ps.map (·.2)) → RepL Γ h w vs.toList cs →
      fillA pl cs ps = some r → ∃ us : Array Value, Instr.fill place vs qs = some us ∧ RepL Γ h w us.toList r
  | [], [], cs, vs, r, _, _, hcs, hf => by
    simp only [fillA] at hf
    cases hf
    exact ⟨vs, rfl, hcs⟩
  | [], _ :: _, _, _, _, he, _, _, _ => by simp at he
  | _ :: _, [], _, _, _, he, _, _, _ => by simp at he
  | (i, x) :: ps, (i', v) :: qs, cs, vs, r, he, hps, hcs, hf => by
    simp only [List.map_cons, List.cons.injEq] at he
    obtain ⟨rfl, he⟩ := he
    obtain ⟨h1, h2⟩ := RepL.of_cons hps
    simp only [fillA] at hf
    cases hpl : pl[i]? with
    | none => simp [hpl] at hf
    | some q =>
      obtain ⟨off, size⟩ := q
      simp only [hpl] at hf
      split at hf
      · rename_i hc
        obtain ⟨hok, hsz, hle⟩ := hc
        obtain ⟨hn, hrep⟩ := rep_cells h1 hok
        simp only at hn hsz hle
        have hvl : vs.size = cs.length := by simpa using hcs.1
        simp only [Instr.fill, hp i _ hpl]
        rw [if_neg (by simp; omega)]
        have hov := overlay_get off v.cells.toList 0 vs (by simp; omega)
        simp only [Nat.add_zero] at hov
        have hfold : (v.cells.zipIdx.foldl (fun cs (c, j) => cs.setIfInBounds (off + j) c) vs).toList = vs.toList.take off ++ v.cells.toList ++ vs.toList.drop (off + v.cells.toList.length) := by
          rw [← hov, ← Array.foldl_toList]
          simp
        refine fill_rep hp ps qs _ _ r he h2 ?_ hf
        rw [hfold]
        have hcl : RepL Γ h w v.cells.toList x.cells := ⟨by simpa using hn, fun j u a hu ha => hrep j u a (by simpa using hu) ha⟩
        refine (RepL.append (RepL.append ⟨?_, ?_⟩ hcl) ⟨?_, ?_⟩)
        · simp [hvl]
        · intro j u a hu ha
          rw [List.getElem?_take] at hu ha
          split at hu
          · rename_i hlt; rw [if_pos hlt] at ha; exact hcs.2 j u a hu ha
          · cases hu
        · simp [hvl, hn]
        · intro j u a hu ha
          rw [List.getElem?_drop] at hu ha
          have : v.cells.toList.length = x.cells.length := by simpa using hn
          rw [this] at hu
          exact hcs.2 _ u a hu ha
      · cases hf

theorem RepL.of_cells {z : Value} : RepL Γ h w z.cells.toList (AV.c z).cells := by
  obtain ⟨h1, h2⟩ := rep_cells (n0 := Γ.n0) (O := Owns Γ h) (w := w) (.c z) rfl
  exact ⟨by simpa using h1, fun i v a hv ha => h2 i v a (by simpa using hv) ha⟩

theorem build_rep {t : TypeId} {ps : List (Nat × AV)} {qs : List (Nat × Value)} {x : AV} (he : ps.map (·.1) = qs.map (·.1)) (hps : RepL Γ h w (qs.map (·.2)) (ps.map (·.2)))
    (hx : buildA P t ps = some x) : ∃ us : Array Value, P.built t qs = some us ∧ RepV Γ h w (.agg us) x := by
  unfold buildA at hx
  split at hx
  · rename_i pl z hpl hz
    cases hfa : fillA pl (AV.c z).cells ps with
    | none => simp [hfa] at hx
    | some r =>
      simp [hfa] at hx
      subst hx
      unfold zeroOf at hz
      cases hi : P.info? t with
      | none => simp [hi] at hz
      | some i =>
        simp [hi] at hz
        unfold placesL at hpl
        unfold Program.built
        cases hu : P.underlying t with
        | none => simp [hu] at hpl
        | some d =>
          cases d <;> simp only [hu] at hpl <;> try (cases hpl; done)
          case array n e =>
            cases hie : P.info? e with
            | none => simp [hie] at hpl
            | some ie =>
              simp [hie] at hpl
              subst hpl
              obtain ⟨us, h1, h2⟩ := fill_rep (place := fun i => some (i * ie.size, ie.size)) (fun i x hx => by
                
                rw [List.getElem?_map] at hx
                cases hr : (List.range n)[i]? with
                | none => simp [hr] at hx
                | some y =>
                  have : y = i := by
                    rw [List.getElem?_eq_some_iff] at hr
                    obtain ⟨_, hh⟩ := hr
                    simpa using hh.symm
                  subst this
                  simpa [hr] using hx) ps qs _ z.cells r he hps RepL.of_cells hfa
              refine ⟨us, ?_, .agg _ _ (by simpa using h2.1) fun i v a hv ha => h2.2 i v a (by simpa using hv) ha⟩
              simp [hi, hu, hz, hie, h1]
          case struct fields =>
            obtain ⟨us, h1, h2⟩ := fill_rep (place := fun i => pl[i]?) (fun i x hx => hx) ps qs _ z.cells r he hps RepL.of_cells hfa
            refine ⟨us, ?_, .agg _ _ (by simpa using h2.1) fun i v a hv ha => h2.2 i v a (by simpa using hv) ha⟩
            simp [hi, hu, hz, hpl]
            exact h1
  · cases hx
end
end Go.Ab
