/- expr's parser: name, and what stands between. -/
import Derived.Test.YtfhjmagknondfaaE3
set_option linter.unusedVariables false
set_option linter.unusedSimpArgs false
set_option maxRecDepth 100000
namespace Go.Ab
open Go.Proofs

def symIs (s : ByteArray) (v : Val) : Bool := decide (v.sym = s)
def nameF (names : List Val) (s : ByteArray) : Val × Int :=
  if name2B s = true then (if idxF (symIs s) names 0 < 0 then (⟨s, 0⟩, 0) else (⟨emptyS, (names.getD (idxF (symIs s) names 0).toNat v0).n⟩, 0)) else (v0, 3)

theorem idxF_lt {α : Type} (g : α → Bool) : ∀ (l : List α) (i : Nat), idxF g l i < (i + l.length : Nat)
  | [], i => by simp [idxF]; omega
  | a :: l, i => by
    simp only [idxF]
    split
    · simp; omega
    · have := idxF_lt g l (i + 1)
      simp at this ⊢; omega

theorem parser_name (p : PS) (i : Nat) (d : Int) (s : ByteArray) (hs : s.size ≤ 4611686018427387904) (hn : p.names.length ≤ 4611686018427387904) :
    Keeps 98 [p.ptr, .c (.string s)] (p.it i d) (resV (nameF p.names s)) (p.it i d) := by
  refine CallsA.body Try.func98 rfl (by decide) fun Γ => Run.of_ex 1000 ?_
  simp [Try.f98, PS.ptr, PS.it]
  intro b1 n1 n2
  try simp [exW, n1, n2]
  intro b2 n3 n4 n5 n6
  simp [exW, n1, n2, n3, n4, n5, n6]
  refine (isa_Name2 s hs).call ?_
  cases h1 : name2B s
  · simp [n1, n2, n3, n4, n5, n6]
    simp [n1, n2, n3, n4, n5, n6, nameF, h1, resV, valA, v0, emptyS]
  · simp [n1, n2, n3, n4, n5, n6]
    refine CallV.own [.obj b1 9 [.c (.string s)]] [.obj b2 34 [.c (.string { data := #[] }), .c (.int .i64 0)], p.it i d] ?_ (by simp) (IndexFunc_vals p.f1 p.names hn (expr_name1 b1 s)) ?_
    · simp [PS.it]
      exact List.Perm.swap _ _ _
    rintro r h' ⟨rfl, rfl⟩ _
    have hlt := idxF_lt (symIs s) p.names 0
    simp at hlt
    by_cases h2 : idxF (symIs s) p.names 0 < 0
    · have h2' : idxF (fun x => decide (x.sym = s)) p.names 0 < 0 := h2
      simp [n1, n2, n3, n4, n5, n6, h2', PS.it]
      simp [n1, n2, n3, n4, n5, n6, nameF, h1, h2, resV, valA]
    · have h2' : ¬ idxF (fun x => decide (x.sym = s)) p.names 0 < 0 := h2
      have h3 : 0 ≤ idxF (fun x => decide (x.sym = s)) p.names 0 := by omega
      have h4 : idxF (fun x => decide (x.sym = s)) p.names 0 < (p.names.length : Int) := hlt
      have h5 : (idxF (fun x => decide (x.sym = s)) p.names 0).toNat < p.names.length := by omega
      simp [n1, n2, n3, n4, n5, n6, h2', h3, h4, h5, PS.it, valsA, valA]
      simp [n1, n2, n3, n4, n5, n6, nameF, h1, h2, resV, valA, emptyS, List.getD_eq_getElem?_getD]
      show _ = (p.names[(idxF (fun x : Val => decide (x.sym = s)) p.names 0).toNat]?.getD v0).n
      rw [List.getElem?_eq_getElem h5]
      rfl

/-! ### What stands between -/
abbrev Made := Option (FuncId × (Val → Val → Val × Int))
def madeA : Made → AV
  | none => .c .nilFunc
  | some (f, _) => .c (.func (.func f) #[] #[])
def boxP (p : PS) (bx : Nat) : It := .obj bx 90 [p.ptr]
/-- f tells G. -/
def BF (p : PS) (d : Int) (f : FuncId) (G : Nat → Made × Nat) : Prop :=
  ∀ bx i, bx ≠ p.b → i ≤ p.l.length → CallsA Try.prog f [.c (.pointer (some ⟨bx, 0, none⟩))] [boxP p bx, p.it i d] (fun x h => x = madeA (G i).1 ∧ h = [p.it (G i).2 d, boxP p bx])

def starS : ByteArray := { data := #[42] }
def plusS : ByteArray := { data := #[43] }
def minusS : ByteArray := { data := #[45] }
def termG (l : List Tok) (i : Nat) : Made × Nat := if sgn l i starS = true then (some (88, timesF), i + 1) else (none, i)
def sumG (l : List Tok) (i : Nat) : Made × Nat := if sgn l i plusS = true then (some (65, addF), i + 1) else if sgn l i minusS = true then (some (66, lessF), i + 1) else (none, i)

theorem sgn_lt {l : List Tok} {i : Nat} {s : ByteArray} (h : sgn l i s = true) : i < l.length := by
  unfold sgn at h
  split at h
  · rename_i t ht; exact (List.getElem?_eq_some_iff.1 ht).1
  · cases h

theorem parser_term1 (p : PS) (d : Int) (hl : p.l.length ≤ 4611686018427387904) : BF p d 87 (termG p.l) := by
  intro bx i hb hi
  refine CallsA.body Try.func87 rfl (by decide) fun Γ => Run.of_ex 1000 ?_
  have hb' : ¬ p.b = bx := fun e => hb e.symm
  simp [Try.f87, boxP, PS.ptr]
  refine (parser_sign p i d _ hi hl).call 1 (by simp) ?_
  cases h : sgn p.l i starS
  · have h' : sgn p.l i { data := #[42] } = false := h
    simp [h']
    simp [termG, h, madeA]
  · have h' : sgn p.l i { data := #[42] } = true := h
    simp [h']
    simp [termG, h, madeA]

theorem parser_sum1 (p : PS) (d : Int) (hl : p.l.length ≤ 4611686018427387904) : BF p d 63 (sumG p.l) := by
  intro bx i hb hi
  refine CallsA.body Try.func63 rfl (by decide) fun Γ => Run.of_ex 1000 ?_
  have hb' : ¬ p.b = bx := fun e => hb e.symm
  simp [Try.f63, boxP, PS.ptr]
  refine (parser_sign p i d _ hi hl).call 1 (by simp) ?_
  cases h : sgn p.l i plusS
  · have h' : sgn p.l i { data := #[43] } = false := h
    simp [h', hb, hb', PS.it]
    refine (parser_sign p i d _ hi hl).call 0 (by simp [PS.it]) ?_
    cases h2 : sgn p.l i minusS
    · have h2' : sgn p.l i { data := #[45] } = false := h2
      simp [h2']
      simp [sumG, h, h2, madeA, PS.it]
    · have h2' : sgn p.l i { data := #[45] } = true := h2
      simp [h2']
      simp [sumG, h, h2, madeA, PS.it]
  · have h' : sgn p.l i { data := #[43] } = true := h
    simp [h']
    simp [sumG, h, madeA]
end Go.Ab

set_option linter.unusedVariables false
set_option linter.unusedSimpArgs false
set_option maxRecDepth 100000
namespace Go.Ab
open Go.Proofs

theorem perm4 {α : Type} (a b c d : α) : [a, b, c, d].Perm [c, a, d, b] :=
  List.Perm.trans (List.perm_middle (l₁ := [a, b]) (a := c) (l₂ := [d])) ((List.Perm.swap d b []).cons a |>.cons c)

abbrev Res2 := (Val × Int) × Nat
def rowS (F : Nat → Res2) (G : Nat → Made × Nat) : Nat → Val → Int → Nat → Res2
  | 0, v, e, i => ((v0, e), i)
  | n + 1, v, e, i => if e = 0 then match (G i).1 with
      | none => ((v, 0), (G i).2)
      | some (_, op) => if (F (G i).2).1.2 = 0 then rowS F G n (op v (F (G i).2).1.1).1 (op v (F (G i).2).1.1).2 (F (G i).2).2 else rowS F G n v (F (G i).2).1.2 (F (G i).2).2
    else ((v0, e), i)
def rowP (F : Nat → Res2) (G : Nat → Made × Nat) (len i : Nat) : Res2 := rowS F G (len + 2) (F i).1.1 (F i).1.2 (F i).2

/-- What stands between, and what is made. -/
def GOK (len : Nat) (G : Nat → Made × Nat) : Prop :=
  ∀ i, i ≤ len → match (G i).1 with
    | none => (G i).2 = i
    | some (f, op) => (G i).2 = i + 1 ∧ i < len ∧ ∀ a b, OkV a → OkV b → Tells f [valA a, valA b] (resV (op a b)) ∧ ((op a b).2 = 0 → OkV (op a b).1)

theorem parser_row (p : PS) (d : Int) (f g : FuncId) (F : Nat → Res2) (G : Nat → Made × Nat) (hf : PF p d f F) (hg : BF p d g G) (hG : GOK p.l.length G) (bx : Nat) (hbx : bx ≠ p.b) (i : Nat) (hi : i ≤ p.l.length) :
    CallsA Try.prog 61 [p.ptr, .c (.func (.func f) #[.pointer (some ⟨p.b, 0, none⟩)] #[]), .c (.func (.func g) #[] #[.pointer (some ⟨bx, 0, none⟩)])] [p.it i d, boxP p bx]
      (fun x h => x = resV (rowP F G p.l.length i).1 ∧ h = [p.it (rowP F G p.l.length i).2 d]) := by
  refine CallsA.body Try.func61 rfl (by decide) fun Γ => Run.of_ex 1000 ?_
  have hbx' : ¬ p.b = bx := fun e => hbx e.symm
  simp [Try.f61, PS.ptr, PS.it, boxP]
  intro b6 n1 n2 n3 n4
  simp [exW, n1, n2, n3, n4]
  obtain ⟨hk, hge, hle, hok⟩ := hf i hi
  refine hk.call 1 (by simp [PS.it]) ?_
  simp [resV, valA, PS.it]
  intro b8 n5 n6 n7 n8 n9 n10
  simp [exW, n1, n2, n3, n4, n5, n6, n7, n8, n9, n10]
  refine Run.sub_loop (Sub.perm (h' := [p.it (F i).2 d, boxP p bx, .obj b8 34 [.c (.string (F i).1.1.sym), .c (.int .i64 (F i).1.1.n)], .obj b6 34 [.c (.string { data := #[] }), .c (.int .i64 0)]]) ?_) ?_
  · exact perm4 _ _ _ _
  refine Run.head (fun x : Nat × Val × Int × Nat => ⟨[p.ptr, .c (.func (.func f) #[.pointer (some ⟨p.b, 0, none⟩)] #[]), .c (.func (.func g) #[] #[.pointer (some ⟨bx, 0, none⟩)]), .bad, .bad, .bad,
      .c (.pointer (some ⟨b6, 0, none⟩)), .c (.int .i64 0), .c (.pointer (some ⟨b8, 0, none⟩)), .c (.int .i64 x.2.2.1)] ++ List.replicate 30 .bad,
      [p.it x.2.2.2 d, boxP p bx, .obj b8 34 [.c (.string x.2.1.sym), .c (.int .i64 x.2.1.n)], .obj b6 34 [.c (.string { data := #[] }), .c (.int .i64 0)]]⟩) (fun x => x.1)
    (fun x => x.2.2.2 ≤ p.l.length ∧ (x.2.2.1 = 0 → OkV x.2.1) ∧ rowS F G x.1 x.2.1 x.2.2.1 x.2.2.2 = rowP F G p.l.length i ∧ 1 ≤ x.1 ∧ (x.2.2.1 = 0 → p.l.length - x.2.2.2 + 2 ≤ x.1)) ?_
    (p.l.length + 2, (F i).1.1, (F i).1.2, (F i).2) _ _ ?_ ?_ (List.Sublist.refl _)
  · rintro ⟨n, v, e, j⟩ ⟨hj, hv, hr, hn, hm⟩ ih
    simp only at hj hv hr hn hm ih
    obtain ⟨n, rfl⟩ : ∃ m, n = m + 1 := ⟨n - 1, by omega⟩
    refine Run.of_ex 1000 ?_
    simp [List.replicate]
    by_cases he : e = 0
    · simp [he]
      have hv := hv he
      have hm := hm he
      subst he
      simp only [rowS, if_true] at hr
      have hGj := hG j hj
      refine CallV.own [boxP p bx, p.it j d] [.obj b8 34 [.c (.string v.sym), .c (.int .i64 v.n)], .obj b6 34 [.c (.string { data := #[] }), .c (.int .i64 0)]] (List.Perm.swap _ _ _) (by simp) (hg bx j hbx hj) ?_
      rintro r h' ⟨rfl, rfl⟩ _
      cases hmade : (G j).1 with
      | none =>
        rw [hmade] at hGj hr
        simp [n1, n2, n3, n4, n5, n6, n7, n8, n9, n10, hbx, hbx', PS.it, boxP, madeA]
        simp only [← hr]
        simp [n1, n2, n3, n4, n5, n6, n7, n8, n9, n10, PS.it, boxP, resV, valA]
      | some m =>
        obtain ⟨mf, op⟩ := m
        rw [hmade] at hGj hr
        obtain ⟨hG2, hlt, hop⟩ := hGj
        simp [n1, n2, n3, n4, n5, n6, n7, n8, n9, n10, hbx, hbx', PS.it, boxP, madeA]
        intro b11 m1 m2 m3 m4 m5 m6 m7 m8
        simp [exW]
        obtain ⟨hk, hge, hle, hok⟩ := hf (G j).2 (by omega)
        refine hk.call 1 (by simp [PS.it]) ?_
        simp only at hr
        by_cases hw : (F (G j).2).1.2 = 0
        · rw [if_pos hw] at hr
          have hokw := hok hw
          obtain ⟨hc, hop2⟩ := hop v (F (G j).2).1.1 (hv rfl) hokw
          simp [n1, n2, n3, n4, n5, n6, n7, n8, n9, n10, m1, m2, m3, m4, m5, m6, m7, m8, PS.it, boxP, resV, valA, hw]
          refine hc.call ?_
          simp [n1, n2, n3, n4, n5, n6, n7, n8, n9, n10, m1, m2, m3, m4, m5, m6, m7, m8, PS.it, boxP, resV, valA, hw]
          refine ih (n, (op v (F (G j).2).1.1).1, (op v (F (G j).2).1.1).2, (F (G j).2).2) _ _ ⟨hle, hop2, hr, ?_, ?_⟩ (by simp) ?_ ?_
          · have := hm rfl; simp; omega
          · intro _; have := hm rfl; simp; omega
          · simp [List.replicate, PS.ptr]
          · simp [PS.it, boxP, valA, PS.ptr]
        · rw [if_neg hw] at hr
          simp [n1, n2, n3, n4, n5, n6, n7, n8, n9, n10, m1, m2, m3, m4, m5, m6, m7, m8, PS.it, boxP, resV, valA, hw]
          refine ih (n, v, (F (G j).2).1.2, (F (G j).2).2) _ _ ⟨hle, fun h => absurd h hw, hr, ?_, fun h => absurd h hw⟩ (by simp) ?_ ?_
          · have := hm rfl; simp; omega
          · simp [List.replicate, PS.ptr]
          · simp [PS.it, boxP, valA, PS.ptr]
    · simp [he]
      simp [rowS, he] at hr
      simp [← hr, n1, n2, n3, n4, n5, n6, n7, n8, n9, n10, PS.it, boxP, resV, valA, v0, emptyS]
  · exact ⟨hle, hok, rfl, by simp, fun _ => by simp only []; omega⟩
  · simp [List.replicate, PS.ptr]
end Go.Ab

set_option linter.unusedVariables false
set_option linter.unusedSimpArgs false
set_option maxRecDepth 100000
namespace Go.Ab
open Go.Proofs

def FOK (len : Nat) (F : Nat → Res2) : Prop := ∀ i, i ≤ len → i ≤ (F i).2 ∧ (F i).2 ≤ len ∧ ((F i).1.2 = 0 → OkV (F i).1.1)

theorem PF.ok {p : PS} {d : Int} {f : FuncId} {F : Nat → Res2} (h : PF p d f F) : FOK p.l.length F := fun i hi => (h i hi).2

theorem rowS_ok {len : Nat} {F : Nat → Res2} {G : Nat → Made × Nat} (hF : FOK len F) (hG : GOK len G) : ∀ (n : Nat) (v : Val) (e : Int) (i : Nat), i ≤ len → (e = 0 → OkV v) → (e = 0 → len - i + 2 ≤ n) → 1 ≤ n →
    i ≤ (rowS F G n v e i).2 ∧ (rowS F G n v e i).2 ≤ len ∧ ((rowS F G n v e i).1.2 = 0 → OkV (rowS F G n v e i).1.1)
  | 0, v, e, i, _, _, _, h => by omega
  | n + 1, v, e, i, hi, hv, hn, _ => by
    by_cases he : e = 0
    · subst he
      have hv := hv rfl
      have hn := hn rfl
      have hg := hG i hi
      simp only [rowS, if_true]
      cases hm : (G i).1 with
      | none =>
        rw [hm] at hg
        simp only at hg
        simp only [hg]
        exact ⟨Nat.le_refl _, hi, fun _ => hv⟩
      | some m =>
        obtain ⟨mf, op⟩ := m
        rw [hm] at hg
        obtain ⟨h1, h2, h3⟩ := hg
        obtain ⟨h4, h5, h6⟩ := hF (G i).2 (by omega)
        by_cases hw : (F (G i).2).1.2 = 0
        · simp only [hw, if_true]
          have := rowS_ok hF hG n (op v (F (G i).2).1.1).1 (op v (F (G i).2).1.1).2 (F (G i).2).2 h5 (h3 v _ hv (h6 hw)).2 (fun _ => by omega) (by omega)
          exact ⟨by omega, this.2.1, this.2.2⟩
        · simp only [hw, if_false]
          have := rowS_ok hF hG n v (F (G i).2).1.2 (F (G i).2).2 h5 (fun h => absurd h hw) (fun h => absurd h hw) (by omega)
          exact ⟨by omega, this.2.1, this.2.2⟩
    · simp only [rowS, if_neg he]
      exact ⟨Nat.le_refl _, hi, fun h => absurd h he⟩

theorem rowP_ok {len : Nat} {F : Nat → Res2} {G : Nat → Made × Nat} (hF : FOK len F) (hG : GOK len G) : FOK len (rowP F G len) := fun i hi => by
  obtain ⟨h1, h2, h3⟩ := hF i hi
  have := rowS_ok hF hG (len + 2) (F i).1.1 (F i).1.2 (F i).2 h2 h3 (fun _ => by omega) (by omega)
  exact ⟨Nat.le_trans h1 this.1, this.2.1, this.2.2⟩

theorem OkV_v0 : OkV v0 := ⟨by decide, by decide, by decide⟩
theorem ranged_ok {v : Val} (hs : v.sym.size ≤ 12) (h : (rangedF v).2 = 0) : OkV (rangedF v).1 := by
  unfold rangedF at h ⊢
  split
  · rename_i hw
    simp [withinB] at hw
    exact ⟨hs, hw.1, hw.2⟩
  · exact OkV_v0

theorem add_ok {a b : Val} (ha : OkV a) (hb : OkV b) (h : (addF a b).2 = 0) : OkV (addF a b).1 := by
  unfold addF at h ⊢
  split
  · exact OkV_v0
  · rename_i hc
    rw [if_neg hc] at h
    refine ranged_ok ?_ h
    have h1 := ha.1; have h2 := hb.1
    show (a.sym ++ b.sym).size ≤ 12
    rw [ByteArray.size_append]
    by_cases e : a.sym = emptyS
    · have e0 : a.sym.size = 0 := by rw [e]; decide
      omega
    · have e2 : b.sym = emptyS := by
        by_cases e2 : b.sym = emptyS
        · exact e2
        · exact absurd ⟨e, e2⟩ hc
      have e0 : b.sym.size = 0 := by rw [e2]; decide
      omega
theorem less_ok {a b : Val} (ha : OkV a) (hb : OkV b) (h : (lessF a b).2 = 0) : OkV (lessF a b).1 := by
  unfold lessF at h ⊢
  split
  · exact OkV_v0
  · rename_i hc
    rw [if_neg hc] at h
    exact ranged_ok ha.1 h
theorem times_ok {a b : Val} (h : (timesF a b).2 = 0) : OkV (timesF a b).1 := by
  unfold timesF at h ⊢
  split
  · exact OkV_v0
  · rename_i hc
    rw [if_neg hc] at h
    exact ranged_ok (show emptyS.size ≤ 12 by decide) h

theorem termG_ok (l : List Tok) : GOK l.length (termG l) := fun i hi => by
  unfold termG
  by_cases h : sgn l i starS = true
  · rw [if_pos h]
    exact ⟨rfl, sgn_lt h, fun a b ha hb => ⟨expr_times a b ha hb, times_ok⟩⟩
  · simp [h]
theorem sumG_ok (l : List Tok) : GOK l.length (sumG l) := fun i hi => by
  unfold sumG
  by_cases h : sgn l i plusS = true
  · rw [if_pos h]
    exact ⟨rfl, sgn_lt h, fun a b ha hb => ⟨expr_add a b ha hb, add_ok ha hb⟩⟩
  · by_cases h2 : sgn l i minusS = true
    · rw [if_neg h, if_pos h2]
      exact ⟨rfl, sgn_lt h2, fun a b ha hb => ⟨expr_less a b ha hb, less_ok ha hb⟩⟩
    · simp [h, h2]

def termF (l : List Tok) (F : Nat → Res2) : Nat → Res2 := rowP F (termG l) l.length
def sumF (l : List Tok) (F : Nat → Res2) : Nat → Res2 := rowP (termF l F) (sumG l) l.length

theorem perm3 {α : Type} (a b c : α) : [a, b, c].Perm [c, b, a] :=
  List.Perm.trans (List.perm_middle (l₁ := [a, b]) (a := c) (l₂ := [])) ((List.Perm.swap b a []).cons c)

theorem parser_term (p : PS) (d : Int) (hl : p.l.length ≤ 4611686018427387904) (F : Nat → Res2) (hF : PF p d 86 F) : PF p d 62 (termF p.l F) := by
  intro i hi
  refine ⟨?_, rowP_ok hF.ok (termG_ok p.l) i hi⟩
  refine CallsA.body Try.func62 rfl (by decide) fun Γ => Run.of_ex 1000 ?_
  simp [Try.f62, PS.ptr, PS.it]
  intro b1 n1 n2
  try simp [exW, n1, n2]
  intro b2 n3 n4 n5 n6
  simp [exW, n1, n2, n3, n4, n5, n6]
  refine CallV.own [p.it i d, boxP p b1] [.obj b2 34 [.c (.string { data := #[] }), .c (.int .i64 0)]] (perm3 _ _ _) (by simp) (parser_row p d _ _ F (termG p.l) hF (parser_term1 p d hl) (termG_ok p.l) b1 n1 i hi) ?_
  rintro r h' ⟨rfl, rfl⟩ _
  simp [n1, n2, n3, n4, n5, n6, PS.it, resV, valA]
  simp [termF]

theorem parser_sum (p : PS) (d : Int) (hl : p.l.length ≤ 4611686018427387904) (F : Nat → Res2) (hF : PF p d 62 (termF p.l F)) : PF p d 43 (sumF p.l F) := by
  intro i hi
  refine ⟨?_, rowP_ok hF.ok (sumG_ok p.l) i hi⟩
  refine CallsA.body Try.func43 rfl (by decide) fun Γ => Run.of_ex 1000 ?_
  simp [Try.f43, PS.ptr, PS.it]
  intro b1 n1 n2
  try simp [exW, n1, n2]
  intro b2 n3 n4 n5 n6
  simp [exW, n1, n2, n3, n4, n5, n6]
  refine CallV.own [p.it i d, boxP p b1] [.obj b2 34 [.c (.string { data := #[] }), .c (.int .i64 0)]] (perm3 _ _ _) (by simp) (parser_row p d _ _ (termF p.l F) (sumG p.l) hF (parser_sum1 p d hl) (sumG_ok p.l) b1 n1 i hi) ?_
  rintro r h' ⟨rfl, rfl⟩ _
  simp [n1, n2, n3, n4, n5, n6, PS.it, resV, valA]
  simp [sumF]
end Go.Ab
