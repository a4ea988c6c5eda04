/-
  Abs, part W: rows of contracts; a law's end. Own work of this seat.
-/
import Derived.Test.YtainplhaaklpeaaDoorAbsU
namespace Go.Abs
open Go.RowKit

/-- A family of contracts of one function. -/
structure Ctr where
  α : Type
  args : α → List V
  res : α → V × Bool
  ok : α → Prop
  inj : ∀ a b, args a = args b → res a = res b

open Classical in
noncomputable def ofC (cs : List (Nat × Ctr)) : Abs.Spec := fun f args =>
  match cs.find? (fun p => p.1 == f) with
  | some p => if h : ∃ a, p.2.ok a ∧ p.2.args a = args then some (p.2.res h.choose) else none
  | none => none

def Ctr.Holds (cx : Cx) (f : Nat) (c : Ctr) : Prop := ∀ a, c.ok a → PC cx f (c.args a) (c.res a)

theorem ofC_sound {cx : Cx} {cs : List (Nat × Ctr)} (h : ∀ p ∈ cs, p.2.Holds cx p.1) : Sound cx (ofC cs) := by
  intro f args r hr
  unfold ofC at hr
  split at hr
  · rename_i p hp
    split at hr
    · rename_i hex
      have hf : p.1 = f := by simpa using List.find?_some hp
      simp only [Option.some.injEq] at hr
      have := h p (List.mem_of_find?_eq_some hp) hex.choose hex.choose_spec.1
      rw [hex.choose_spec.2, hr, hf] at this
      exact this
    · simp at hr
  · simp at hr

theorem ofC_eq {cs : List (Nat × Ctr)} {f : Nat} {c : Ctr} (hf : cs.find? (fun p => p.1 == f) = some (f, c)) (a : c.α) (ha : c.ok a) : ofC cs f (c.args a) = some (c.res a) := by
  unfold ofC
  rw [hf]
  have hex : ∃ b, c.ok b ∧ c.args b = c.args a := ⟨a, ha, rfl⟩
  simp only [dif_pos hex, Option.some.injEq]
  exact c.inj _ _ hex.choose_spec.2

/-- of a contract of the kit's -/
theorem PC.of {cx : Cx} {f : FuncId} {args : List V} {r : V × Bool} (hc : Callable cx.P f)
    (h : ∀ W G φ xs, OKW cx W G → RepL W G φ args xs → Calls cx.P f xs W fun e W' => ∃ G' y, e = .returned y ∧ Below W.heap.size W W' ∧ (∀ b, b < W.heap.size → G' b = G b) ∧ (∀ b, W'.heap.size ≤ b → G' b = 0) ∧
      Rep W' G' φ r.1 y ∧ (r.2 = true → ∀ ow q, (∀ b, W.heap.size ≤ b → ow b = some q) → OwnAt W' (fun b => W.heap.size ≤ b) ⟨G', φ, ow⟩ q r.1 y)) : PC cx f args r := ⟨hc, h⟩

/-- .. that turns nothing and gives a value without memory -/
theorem PC.pure {cx : Cx} {f : FuncId} {args : List V} {v : V} (hc : Callable cx.P f) (h : ∀ W G φ xs, OKW cx W G → RepL W G φ args xs → Calls cx.P f xs W fun e W' => ∃ y, e = .returned y ∧ Below W.heap.size W W' ∧ ∀ W' G' , Rep W' G' φ v y) : PC cx f args (v, false) :=
  .of hc fun W G φ xs hW hxs => (h W G φ xs hW hxs).mono fun e W' ⟨y, he, hB, hr⟩ => ⟨G, y, he, hB, fun _ _ => rfl, fun b hb => hW.Gz b (Nat.le_trans hB.size hb), hr _ _, fun h => by cases h⟩

/-- .. that gives a new row of texts -/
theorem PC.texts {cx : Cx} {f : FuncId} {args : List V} {l : List Bytes} (hc : Callable cx.P f)
    (h : ∀ W G φ xs, OKW cx W G → RepL W G φ args xs → Calls cx.P f xs W fun e W' => ∃ (ss : List ByteArray) (t : TypeId), ss.map (·.data.toList) = l ∧ e = .returned (.slice (some ⟨W.heap.size, 0, none⟩) ss.length ss.length) ∧ W' = W.alloc (.cells (ss.map Value.string).toArray t)) :
    PC cx f args (.sl false 1 (l.map .str), true) := by
  refine .of hc fun W G φ xs hW hxs => (h W G φ xs hW hxs).mono fun e W' => ?_
  rintro ⟨ss, t, rfl, rfl, rfl⟩
  have hblk : (W.alloc (.cells (ss.map Value.string).toArray t)).heap[W.heap.size]? = some (.cells (ss.map Value.string).toArray t (0, 0)) := heap_alloc_new _ _
  have hcell : ∀ k, (W.alloc (.cells (ss.map Value.string).toArray t)).cell? ⟨W.heap.size, k, none⟩ = (ss.map Value.string)[k]? := fun k => by
    rw [cell_of_row _ W.heap.size k _ t (0, 0) hblk]; simp
  refine ⟨fun b => if b = W.heap.size then ss.length else G b, _, rfl, (Below.refl _ _).alloc (Nat.le_refl _) _, fun b hb => if_neg (by omega), fun b hb => ?_, ?_, fun _ ow q how sz ys b off len cap sp hv hx => ?_⟩
  · simp at hb
    dsimp only; rw [if_neg (by omega)]; exact hW.Gz b (by omega)
  · have := Rep.sl (W := W.alloc (.cells (ss.map Value.string).toArray t)) (G := fun b => if b = W.heap.size then ss.length else G b) (φ := φ) 1 ((ss.map (·.data.toList)).map V.str) W.heap.size 0 ss.length (fun k => .string (ss.getD k default)) (by simp) (by simp) (fun x hx => ?_) (fun k hk => ?_) (fun i x j c hi hj => ?_)
    · simpa using this
    · obtain ⟨s, _, rfl⟩ := List.mem_map.1 hx; simp
    · simp at hk
      rw [Nat.zero_add, hcell]; simp [List.getD, hk]
    · simp only [List.map_map, List.getElem?_map, Option.map_eq_some_iff] at hi
      obtain ⟨s, hs, rfl⟩ := hi
      cases j with
      | zero => simp at hj; subst hj; simp [List.getD, hs]; exact .str _ _ rfl
      | succ j => simp at hj
  · cases hx; exact .inl rfl

/-- A LAW's END: from its contract to the kit's. -/
theorem law_calls {cx : Cx} {f : FuncId} {args : List V} {xs : Array Value} {o : Bool} (h : PC cx f args (.bool true, o)) (hr : RepL cx.w0 (G0 cx.w0) (fun _ => none) args xs) :
    Calls cx.P f xs cx.w0 fun e W' => e = .returned (.bool true) ∧ Below cx.w0.heap.size cx.w0 W' := by
  refine (h.2 cx.w0 (G0 cx.w0) (fun _ => none) xs ⟨.refl _ _, fun _ _ => rfl, fun b hb => by simp [G0, Array.getElem?_eq_none hb]⟩ hr).mono fun e W' => ?_
  rintro ⟨G', y, rfl, hB, _, _, hy, _⟩
  cases hy
  exact ⟨rfl, hB⟩
end Go.Abs
