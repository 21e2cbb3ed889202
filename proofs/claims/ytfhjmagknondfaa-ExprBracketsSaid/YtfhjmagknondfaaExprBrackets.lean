/- For every input ExprBrackets returns true, and what it was given reads as before: the row. Conditions: none. -/
import Derived.Test.YtfhjmagknondfaaG1
import Derived.Test.YtfhjmagknondfaaF6
import Derived.Test.YtfhjmagknondfaaRows
import Derived.ProofKit
import Derived.JoinedOf
import Derived.JoinedAt
import Derived.ReadAgain
import Derived.ChangeBears
set_option linter.unusedVariables false
set_option linter.unusedSimpArgs false
namespace Go.Proofs.Ytfhjmagknondfaa
open Go Go.Ab Go.Deep Go.ChangeShapes Go.WideShapes Go.ChangeAt Go.RowKit

theorem own : ownKnob Try.prog.godebug = none := by kernel_rfl
theorem kids : Kids Try.prog (· < Try.prog.types.size) := kids_rows (by kernel_rfl) (by kernel_rfl)
theorem full : ∀ t e, t < Try.prog.types.size → Try.prog.underlying t = some (.slice e) → 0 < Try.prog.cellsOf e := slices_full_of Try.prog (by kernel_rfl)
theorem cells3 : Try.prog.cellsOf 3 = 1 := by kernel_rfl
theorem cells9 : Try.prog.cellsOf 9 = 1 := by kernel_rfl
theorem cells22 : Try.prog.cellsOf 22 = 1 := by kernel_rfl
theorem cells23 : Try.prog.cellsOf 23 = 1 := by kernel_rfl
theorem cells25 : Try.prog.cellsOf 25 = 2 := by kernel_rfl
theorem cells26 : Try.prog.cellsOf 26 = 1 := by kernel_rfl
theorem cells28 : Try.prog.cellsOf 28 = 4 := by kernel_rfl
theorem cells31 : Try.prog.cellsOf 31 = 1 := by kernel_rfl
theorem cells34 : Try.prog.cellsOf 34 = 2 := by kernel_rfl
theorem cells40 : Try.prog.cellsOf 40 = 4 := by kernel_rfl

theorem bytes9 : Try.prog.bytesOf 9 = 16 := by kernel_rfl
theorem bytes40 : Try.prog.bytesOf 40 = 40 := by kernel_rfl
theorem bytes31 : Try.prog.bytesOf 31 = 24 := by kernel_rfl
theorem bytes34 : Try.prog.bytesOf 34 = 24 := by kernel_rfl
theorem list2 {cs : List Value} (h : cs.length = 2) : ∃ a b, cs = [a, b] := by
  match cs, h with
  | [a, b], _ => exact ⟨a, b, rfl⟩
theorem list4 {cs : List Value} (h : cs.length = 4) : ∃ a b c d, cs = [a, b, c, d] := by
  match cs, h with
  | [a, b, c, d], _ => exact ⟨a, b, c, d, rfl⟩

section
variable {H : Type} {enc : TypeId × Value → H} {w : World} {n0 : Nat} {O : Nat → Prop}

theorem opens_tok : OpensAs H enc Try.prog w n0 O 40 4 tokA (fun t => t.text.size ≤ reachBytes) := by
  intro fuel cs x h hwt
  obtain ⟨y0, y1, y2, y3, n, rfl, hl, t0, t1, t2, t3⟩ := Joins.trod_struct4 Try.underlying40 h
  rw [cells40] at hl
  obtain ⟨c0, c1, c2, c3, rfl⟩ := list4 hl
  simp only [cells3, cells9, List.drop, List.take] at t0 t1 t2 t3
  obtain ⟨a0, h0, _, _⟩ := DataW.trod_int Try.underlying3 t0
  obtain ⟨a1, h1, rfl, _⟩ := DataW.trod_string Try.underlying9 t1
  have hs : a1.size ≤ reachBytes := by
    have := hwt a1.data.toList.length (by simp only [DataW.weights, Try.underlying40]; exact DataW.weights_mem_each (j := 1) rfl rfl _ (by simp [DataW.weights]))
    simpa using this
  obtain ⟨a2, h2, _, _⟩ := DataW.trod_int Try.underlying3 t2
  obtain ⟨a3, h3, _, _⟩ := DataW.trod_int Try.underlying3 t3
  simp only [List.cons.injEq, and_true] at h0 h1 h2 h3
  subst h0 h1 h2 h3
  refine ⟨⟨a0, a1, a2, a3⟩, hs, rfl, rfl, fun j y hj => ?_⟩
  match j, hj with
  | 0, hj => simp [tokA, AV.cells] at hj; subst hj; exact ⟨_, rfl, .c _⟩
  | 1, hj => simp [tokA, AV.cells] at hj; subst hj; exact ⟨_, rfl, .c _⟩
  | 2, hj => simp [tokA, AV.cells] at hj; subst hj; exact ⟨_, rfl, .c _⟩
  | 3, hj => simp [tokA, AV.cells] at hj; subst hj; exact ⟨_, rfl, .c _⟩
  | j + 4, hj => simp [tokA, AV.cells] at hj

theorem opens_val : OpensAs H enc Try.prog w n0 O 34 2 valA (fun t => t.sym.size ≤ reachBytes) := by
  intro fuel cs x h hwt
  obtain ⟨y0, y1, n, rfl, hl, t0, t1⟩ := trod_struct2 Try.underlying34 h
  rw [cells34] at hl
  obtain ⟨c0, c1, rfl⟩ := list2 hl
  simp only [cells3, cells9, List.drop, List.take] at t0 t1
  obtain ⟨a0, h0, rfl, _⟩ := DataW.trod_string Try.underlying9 t0
  have hs : a0.size ≤ reachBytes := by
    have := hwt a0.data.toList.length (by simp only [DataW.weights, Try.underlying34]; exact DataW.weights_mem_each (j := 0) rfl rfl _ (by simp [DataW.weights]))
    simpa using this
  obtain ⟨a1, h1, _, _⟩ := DataW.trod_int Try.underlying3 t1
  simp only [List.cons.injEq, and_true] at h0 h1
  subst h0 h1
  refine ⟨⟨a0, a1⟩, hs, rfl, rfl, fun j y hj => ?_⟩
  match j, hj with
  | 0, hj => simp [valA, AV.cells] at hj; subst hj; exact ⟨_, rfl, .c _⟩
  | 1, hj => simp [valA, AV.cells] at hj; subst hj; exact ⟨_, rfl, .c _⟩
  | j + 2, hj => simp [valA, AV.cells] at hj

theorem opens_strs (hO : ∀ b, ¬ O b) : OpensAs H enc Try.prog w n0 O 22 1 (strsA false) (fun l => l.length ≤ reachBytes ∧ ∀ a ∈ l, a.size ≤ reachBytes) :=
  opens_slice Try.underlying22 cells9 (by decide) (by rw [bytes9]; decide) hO (opens_string Try.underlying9)
theorem opens_toks (hO : ∀ b, ¬ O b) : OpensAs H enc Try.prog w n0 O 31 1 (toksA false) (fun l => l.length ≤ reachBytes ∧ ∀ t ∈ l, t.text.size ≤ reachBytes) :=
  opens_slice Try.underlying31 cells40 (by decide) (by rw [bytes40]; decide) hO opens_tok
theorem opens_toksL (hO : ∀ b, ¬ O b) : OpensAs H enc Try.prog w n0 O 23 1 (toksLA false) (fun l => l.length ≤ reachBytes ∧ ∀ t ∈ l, t.length ≤ reachBytes ∧ ∀ u ∈ t, u.text.size ≤ reachBytes) :=
  opens_slice Try.underlying23 cells31 (by decide) (by rw [bytes31]; decide) hO (opens_toks hO)
theorem opens_vals (hO : ∀ b, ¬ O b) : OpensAs H enc Try.prog w n0 O 26 1 (valsA false) (fun l => l.length ≤ reachBytes ∧ ∀ t ∈ l, t.sym.size ≤ reachBytes) :=
  opens_slice Try.underlying26 cells34 (by decide) (by rw [bytes34]; decide) hO opens_val

/-- The argument of the laws on values: words, rows, names, values. -/
theorem opens_ask9 (hO : ∀ b, ¬ O b) {cs : List Value} {fuel : Nat} {x : DataW H × List MemPlace} (h : DataW.trod enc Try.prog w 0 (fun _ => true) true fuel 28 cs = some x) (hwt : ∀ n ∈ x.1.weights Try.prog 28, n ≤ reachBytes) :
    ∃ S T N V, Ask8OK S T ∧ OKN N ∧ N.length ≤ 1152921504606846976 ∧ V.length ≤ 1152921504606846976 ∧ Rep n0 O w (.agg cs.toArray) (ask9A false S T N V) := by
  obtain ⟨y0, y1, y2, n, rfl, hl, t0, t1, t2⟩ := trod_struct3 Try.underlying28 h
  rw [cells28] at hl
  obtain ⟨c0, c1, c2, c3, rfl⟩ := list4 hl
  simp only [cells25, cells26, List.drop, List.take] at t0 t1 t2
  obtain ⟨z0, z1, m, rfl, _, u0, u1⟩ := trod_struct2 Try.underlying25 t0
  simp only [cells22, cells23, List.drop, List.take] at u0 u1
  have w0 : ∀ n ∈ (DataW.agg [z0.1, z1.1] : DataW H).weights Try.prog 25, n ≤ reachBytes := fun n hn => hwt n (by simp only [DataW.weights, Try.underlying28]; exact DataW.weights_mem_each (j := 0) rfl rfl _ hn)
  have w1 : ∀ n ∈ y1.1.weights Try.prog 26, n ≤ reachBytes := fun n hn => hwt n (by simp only [DataW.weights, Try.underlying28]; exact DataW.weights_mem_each (j := 1) rfl rfl _ hn)
  have w2 : ∀ n ∈ y2.1.weights Try.prog 26, n ≤ reachBytes := fun n hn => hwt n (by simp only [DataW.weights, Try.underlying28]; exact DataW.weights_mem_each (j := 2) rfl rfl _ hn)
  have w3 : ∀ n ∈ z0.1.weights Try.prog 22, n ≤ reachBytes := fun n hn => w0 n (by simp only [DataW.weights, Try.underlying25]; exact DataW.weights_mem_each (j := 0) rfl rfl _ hn)
  have w4 : ∀ n ∈ z1.1.weights Try.prog 23, n ≤ reachBytes := fun n hn => w0 n (by simp only [DataW.weights, Try.underlying25]; exact DataW.weights_mem_each (j := 1) rfl rfl _ hn)
  obtain ⟨S, ⟨okS1, okS2⟩, _, _, hS⟩ := opens_strs (n0 := n0) hO _ _ _ u0 w3
  obtain ⟨T, ⟨okT1, okT2⟩, _, _, hT⟩ := opens_toksL (n0 := n0) hO _ _ _ u1 w4
  obtain ⟨N, ⟨okN1, okN2⟩, _, _, hN⟩ := opens_vals (n0 := n0) hO _ _ _ t1 w1
  obtain ⟨V, ⟨okV1, okV2⟩, _, _, hV⟩ := opens_vals (n0 := n0) hO _ _ _ t2 w2
  have hmax : reachBytes ≤ 1152921504606846976 := by decide
  obtain ⟨vS, eS, rS⟩ := hS 0 _ rfl
  obtain ⟨vT, eT, rT⟩ := hT 0 _ rfl
  obtain ⟨vN, eN, rN⟩ := hN 0 _ rfl
  obtain ⟨vV, eV, rV⟩ := hV 0 _ rfl
  simp at eS eT eN eV
  subst eS eT eN eV
  refine ⟨S, T, N, V, ⟨by omega, by omega, fun s hs => by have := okS2 s hs; omega, fun t ht => ⟨by have := (okT2 t ht).1; omega, fun u hu => by have := (okT2 t ht).2 u hu; omega⟩⟩,
    ⟨by omega, fun v hv => by have := okN2 v hv; omega⟩, by omega, by omega, ?_⟩
  refine .agg _ _ rfl fun i v a hv ha => ?_
  match i, hv, ha with
  | 0, hv, ha => simp at hv ha; subst hv ha; exact rS
  | 1, hv, ha => simp at hv ha; subst hv ha; exact rT
  | 2, hv, ha => simp at hv ha; subst hv ha; exact rN
  | 3, hv, ha => simp at hv ha; subst hv ha; exact rV
  | i + 4, hv, ha => simp at ha
end

set_option maxRecDepth 100000 in
theorem lifted (os : Os) (started : os.Started) (H : Type) (enc : TypeId × Value → H) :
    ReturnsInHanded {} Try.checked os 3 .any (Rows.exprBracketsSpec.pre6 enc Try.prog Try.f3 Rows.exprBracketsRow.domain false) (Rows.exprBracketsSpec.post enc Try.prog Try.f3 false true false false) := by
  refine returnsInHanded_of_change_sized (C := Try.checked) own started (by kernel_rfl) Try.func3
    (ChangeSpec.witness6 (enc := enc) (C := Try.checked) false ⟨#[], #[.agg #[.slice none 0 0, .slice none 0 0, .slice none 0 0, .slice none 0 0]], []⟩ 8 (by kernel_rfl) (by kernel_rfl) (by kernel_rfl) (by kernel_rfl)) ?_
  intro W base args ds gs before hval0 hW _ hwt0 _
  have hval : ∀ (j : Nat) t v, Try.f3.params[j]? = some t → args[j]? = some v → Value.okWide Try.prog W .any base t v := hval0
  have hW' := hW
  obtain ⟨p, q, hA0, hV, rfl, _, _⟩ := hW
  have hA : DataW.TrodAll enc Try.prog W 0 (fun _ => true) true Try.f3.params.toList args.toList ds p := hA0
  have hlt : ∀ x ∈ p, x.block < W.heap.size := hA.lt
  rw [Try.params3] at hA hval
  obtain ⟨v0, d0, rfl, rfl, h0⟩ := trodAll_one hA
  obtain ⟨rfl, rfl⟩ := trodVars_none hV
  obtain ⟨cs, rfl, hsz⟩ := okWide_struct Try.underlying28 (hval 0 28 v0 rfl rfl)
  obtain ⟨fuel, hf⟩ := h0
  have hf' : DataW.trod enc Try.prog W 0 (fun _ => true) true fuel 28 cs.toList = some (d0, p) := hf
  obtain ⟨S, T, N, V, o1, o2, o3, o4, hr⟩ := opens_ask9 (n0 := W.heap.size) (O := fun _ => False) (fun _ h => h) hf' (fun n hn => by
    have := List.all_eq_true.1 hwt0 n (DataW.weights_mem_each (j := 0) (by simp [Try.params3]) rfl n hn)
    simpa using this)
  have hc := CallsA.calls Try.func3 rfl (by decide) (law9_ExprBrackets false S T N V o1 o2 o3 o4) W #[.agg cs] rfl (fun i v a hv ha => by
    match i, hv, ha with
    | 0, hv, ha =>
      simp at hv ha; subst hv ha
      simpa using hr
    | i + 1, hv, ha => simp at ha)
  refine hc.mono fun e W' ⟨v, he, hB, r, h', O, ⟨hr1, hr2⟩, hrep⟩ => ?_
  subst hr1
  have := Rep.cv hrep
  subst this
  refine ⟨_, he, post_of_below (pa := p) (pv := []) hW' (fun _ _ _ => trodAll_mk1 (shut_bool Try.underlying4 _)) (fun sp hsp => ?_) (fun _ _ => rfl) rfl hB (ok_one (by kernel_rfl) rfl (okWide_bool_mk Try.underlying4 _))⟩
  rw [Try.params3]
  refine trodAll_mk1 ?_
  exact ⟨fuel, DataW.trod_respare kids full fuel 28 _ _ (by decide) (DataW.trod_carry fuel 28 _ _ hf (fun x hx => hB.same (hlt x hx))) (fun x hx => hsp x (by simpa using hx))⟩

theorem exprBrackets_holds : Rows.ExprBracketsSaid :=
  OpenClaim.holds_of_wide 3 Try.f3 rfl rfl rfl rfl rfl rfl rfl ⟨rfl, rfl, rfl, rfl, rfl⟩ rfl rfl rfl rfl rfl (by kernel_rfl) Try.func3 (by kernel_rfl)
    (of_decide_eq_true (by kernel_rfl)) (by unfold Func.isWrapper; first | (rw [if_pos (by decide +kernel)]; kernel_rfl) | (rw [if_neg (by decide +kernel)]; exact ⟨rfl, rfl⟩))
    (fun os started H enc _ => lifted os started H enc)

end Go.Proofs.Ytfhjmagknondfaa
