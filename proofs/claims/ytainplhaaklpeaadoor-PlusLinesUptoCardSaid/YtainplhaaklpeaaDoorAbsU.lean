/-
  Abs, part U: what came in, as plain values; what goes out. Own work of this seat.
-/
import Derived.Test.YtainplhaaklpeaaDoorAbsT
import Derived.Test.YtainplhaaklpeaaDoorRows
import Derived.Deep.Slices
import Derived.ReadAgain
import Derived.Carry
import Derived.OpenShut
namespace Go.Abs
open Go.RowKit Go.ChangeShapes Go.WideShapes
open Go.Proofs.YtainplhaaklpeaaDoor (Rows.uptoBulk Rows.uptoBulkAll)

mutual
def V.wt : V → Nat
  | .str s => s.length + 1
  | .agg cs => wtL cs + 1
  | .sl _ _ xs => wtL xs + 1
  | _ => 1
def wtL : List V → Nat
  | [] => 0
  | v :: r => v.wt + wtL r
end
theorem wtL_append (a b : List V) : wtL (a ++ b) = wtL a + wtL b := by
  induction a with
  | nil => simp [wtL]
  | cons x a ih => simp only [List.cons_append, wtL, ih]; omega
theorem wtL_mem {l : List V} {v : V} (h : v ∈ l) : v.wt ≤ wtL l := by
  induction l with
  | nil => cases h
  | cons x r ih =>
    simp only [wtL]
    rcases List.mem_cons.1 h with rfl | h
    · omega
    · have := ih h; omega
theorem wt_pos (v : V) : 1 ≤ v.wt := by cases v <;> simp [V.wt]
theorem wtL_length (l : List V) : l.length ≤ wtL l := by
  induction l with
  | nil => simp
  | cons x r ih => simp only [wtL, List.length_cons]; have := wt_pos x; omega

def plainT (P : Program) : Nat → TypeId → Bool
  | 0, _ => false
  | m + 1, t => match P.underlying t with
    | some .bool | some (.int _) | some .string => true
    | some (.slice e) => plainT P m e
    | some (.array _ e) => plainT P m e
    | some (.struct fs) => fs.toList.all fun f => plainT P m f.type
    | _ => false

def isAgT (P : Program) (t : TypeId) : Bool := match P.underlying t with | some (.struct _) | some (.array _ _) => true | _ => false
def elV (P : Program) (t : TypeId) (ws : List V) : V := if isAgT P t then .agg ws else ws.headD Nil

/-- A row of cells of this type. -/
def HasT (P : Program) : Nat → TypeId → List V → Prop
  | 0, _, _ => False
  | m + 1, t, vs => match P.underlying t with
    | some .bool => ∃ b, vs = [.bool b]
    | some (.int k) => ∃ n, vs = [.int k n] ∧ k.min ≤ n ∧ n ≤ k.max
    | some .string => ∃ s, vs = [.str s]
    | some (.slice e) => vs = [.sl true (P.cellsOf e) []] ∨ ∃ xs, vs = [.sl false (P.cellsOf e) xs] ∧ ∀ x ∈ xs, ∃ ws, HasT P m e ws ∧ x = elV P e ws
    | some (.array n e) => ∃ wss : List (List V), wss.length = n ∧ (∀ ws ∈ wss, HasT P m e ws) ∧ vs = wss.flatten
    | some (.struct fs) => ∃ wss : List (List V), wss.length = fs.size ∧ (∀ (i : Nat) (f : Field) (ws : List V), fs[i]? = some f → wss[i]? = some ws → HasT P m f.type ws) ∧ vs = wss.flatten
    | _ => False

def RL (W : World) (G : Nat → Nat) (φ : Nat → Option Nat) (vs : List V) (cs : List Value) : Prop :=
  vs.length = cs.length ∧ ∀ (i : Nat) (c : V) (x : Value), vs[i]? = some c → cs[i]? = some x → Rep W G φ c x

theorem RL.append {W G φ a b cs} (h1 : RL W G φ a (cs.take a.length)) (h2 : RL W G φ b (cs.drop a.length)) (hl : a.length ≤ cs.length) : RL W G φ (a ++ b) cs := by
  refine ⟨?_, fun i c x hc hx => ?_⟩
  · have := h2.1; simp at this ⊢; omega
  · rw [List.getElem?_append] at hc
    split at hc
    · rename_i hlt
      exact h1.2 i c x hc (by rw [List.getElem?_take, if_pos hlt]; exact hx)
    · rename_i hge
      exact h2.2 (i - a.length) c x hc (by rw [List.getElem?_drop]; rw [show a.length + (i - a.length) = i by omega]; exact hx)

theorem RL.flatten {W G φ} : ∀ {wss : List (List V)} {cs : List Value}, cs.length = (wss.map List.length).sum →
    (∀ (i : Nat) (ws : List V), wss[i]? = some ws → RL W G φ ws ((cs.drop ((wss.take i).map List.length).sum).take ws.length)) → RL W G φ wss.flatten cs
  | [], cs, hl, _ => ⟨by simp at hl; rw [hl]; rfl, fun i c x hc => by simp at hc⟩
  | w :: r, cs, hl, h => by
    rw [List.flatten_cons]
    simp only [List.map_cons, List.sum_cons] at hl
    refine RL.append (by simpa using h 0 w rfl) (RL.flatten (by simp; omega) fun i ws hi => ?_) (by omega)
    have := h (i + 1) ws (by simpa using hi)
    simpa [List.take_succ_cons, List.drop_drop, Nat.add_comm] using this

section
variable {H : Type} {enc : TypeId × Value → H} {P : Program} {w : World} {held : Bool} {φ : Nat → Option Nat}

theorem cell_lt {w : World} {b i : Nat} {s : Option Nat} {v : Value} (h : w.cell? ⟨b, i, s⟩ = some v) : s = none ∧ i < G0 w b := by
  simp only [World.cell?] at h
  split at h
  · rename_i c t f hc
    split at h
    · simp at h
    · rename_i hs
      refine ⟨by simpa using hs, ?_⟩
      simp only [G0, hc]
      exact (Array.getElem?_eq_some_iff.1 h).1
  · simp at h

theorem bulkAll_range (n : Nat) (f : Nat → List V) (D : Nat → DataW H) (k : Nat) (h : ∀ i, i < n → wtL (f i) ≤ Rows.uptoBulk (D (k + i))) : wtL ((List.range n).map f).flatten ≤ Rows.uptoBulkAll ((List.range n).map fun i => D (k + i)) := by
  induction n generalizing f k with
  | zero => simp [wtL]
  | succ n ih =>
    rw [List.range_succ_eq_map]
    simp only [List.map_cons, List.flatten_cons, wtL_append, Rows.uptoBulkAll, List.map_map]
    have h0 := h 0 (by omega)
    have := ih (fun i => f (i + 1)) (k + 1) fun i hi => by have := h (i + 1) (by omega); rwa [show k + (i + 1) = k + 1 + i by omega] at this
    have e : ((fun i => D (k + i)) ∘ Nat.succ) = fun i => D (k + 1 + i) := by funext i; simp [Function.comp, Nat.succ_eq_add_one]; congr 1; omega
    rw [e]
    have e2 : (f ∘ Nat.succ) = fun i => f (i + 1) := rfl
    rw [e2]
    omega

theorem RL.one {W G φ v x} (h : Rep W G φ v x) : RL W G φ [v] [x] := ⟨rfl, fun i c y hc hy => by
  cases i with
  | zero => simp at hc hy; subst hc; subst hy; exact h
  | succ i => simp at hc⟩

theorem elV_cells {t : TypeId} {ws : List V} (h : isAgT P t = false → ∃ v, ws = [v] ∧ v.sc = true) : (elV P t ws).cells = ws := by
  unfold elV
  split
  · rfl
  · rename_i ha
    obtain ⟨v, rfl, hv⟩ := h (by simpa using ha)
    cases v <;> first | rfl | simp at hv

theorem elV_clean {t : TypeId} {ws : List V} (h : ∀ c ∈ ws, c.clean = true) : (elV P t ws).clean = true := by
  unfold elV
  split
  · exact cleanL_iff.2 h
  · cases ws with
    | nil => rfl
    | cons a r => exact h a (by simp)

theorem pieces {K : Nat} {n : Nat} {f : Nat → List V} {c : Nat → Nat} (hn : K ≤ n) (hf : ∀ i, i < n → (f i).length = c i) : ((((List.range n).map f).take K).map List.length).sum = ((List.range K).map c).sum := by
  rw [← List.map_take, List.take_range, Nat.min_eq_left hn, List.map_map]
  congr 1
  exact List.map_congr_left fun i hi => hf i (by have := List.mem_range.1 hi; omega)

theorem trod_rep (K : Kids P (· < P.types.size)) (hz : ∀ t e, t < P.types.size → P.underlying t = some (.slice e) → 0 < P.cellsOf e) : ∀ (m fuel : Nat) (t : TypeId) (cs : List Value) (x : DataW H × List MemPlace), t < P.types.size → plainT P m t = true →
    DataW.trod enc P w 0 (fun _ => true) held fuel t cs = some x →
    ∃ vs, RL w (G0 w) φ vs cs ∧ (∀ c ∈ vs, c.sc = true ∧ c.clean = true) ∧ HasT P m t vs ∧ (elV P t vs).wt ≤ Rows.uptoBulk x.1 ∧ wtL vs ≤ Rows.uptoBulk x.1 ∧ (isAgT P t = false → ∃ v, vs = [v] ∧ v.sc = true) := by
  intro m
  induction m with
  | zero => intro fuel t cs x _ hp; simp [plainT] at hp
  | succ m ih =>
    intro fuel t cs x ht hp h
    unfold plainT at hp
    split at hp
    · rename_i hu
      obtain ⟨b, rfl, rfl⟩ := DataW.trod_bool hu h
      have ha : isAgT P t = false := by simp [isAgT, hu]
      exact ⟨[.bool b], RL.one (.bool b), by simp, by simp [HasT, hu], by simp [elV, ha, V.wt, Rows.uptoBulk], by simp [wtL, V.wt, Rows.uptoBulk], fun _ => ⟨_, rfl, rfl⟩⟩
    · rename_i k hu
      obtain ⟨n, rfl, rfl, hw⟩ := DataW.trod_int hu h
      have ha : isAgT P t = false := by simp [isAgT, hu]
      simp only [Lit.wf, Bool.and_eq_true, decide_eq_true_eq] at hw
      exact ⟨[.int k n], RL.one (.int k n), by simp, by simp [HasT, hu, hw], by simp [elV, ha, V.wt, Rows.uptoBulk], by simp [wtL, V.wt, Rows.uptoBulk], fun _ => ⟨_, rfl, rfl⟩⟩
    · rename_i hu
      obtain ⟨s, rfl, rfl, hw⟩ := DataW.trod_string hu h
      have ha : isAgT P t = false := by simp [isAgT, hu]
      exact ⟨[.str s.data.toList], RL.one (.str _ s rfl), by simp, by simp [HasT, hu], by simp [elV, ha, V.wt, Rows.uptoBulk], by simp [wtL, V.wt, Rows.uptoBulk], fun _ => ⟨_, rfl, rfl⟩⟩
    · rename_i e hu
      have ha : isAgT P t = false := by simp [isAgT, hu]
      have hte := K.slice ht hu
      have hz0 := hz t e ht hu
      rcases Deep.open_slice hu h with ⟨rfl, rfl⟩ | ⟨a, len, cap, mm, n, D, Pl, rfl, _, hl, _, hmm, rfl, hel⟩
      · exact ⟨[.sl true (P.cellsOf e) []], RL.one (.slnil _), by simp, by simp [HasT, hu], by simp [elV, ha, V.wt, wtL, Rows.uptoBulk], by simp [wtL, V.wt, Rows.uptoBulk], fun _ => ⟨_, rfl, rfl⟩⟩
      · simp only [if_true] at hmm
        subst hmm
        have hpick : ∀ i, i < mm → ∃ ws : List V, ∃ cs', w.cells? 0 (a.add (i * P.cellsOf e)) (P.cellsOf e) = some cs' ∧ RL w (G0 w) φ ws cs' ∧ (∀ c ∈ ws, c.sc = true ∧ c.clean = true) ∧ HasT P m e ws ∧ (elV P e ws).wt ≤ Rows.uptoBulk (D i) ∧ (isAgT P e = false → ∃ v, ws = [v] ∧ v.sc = true) := fun i hi => by
          obtain ⟨cs', h1, h2⟩ := hel i hi
          obtain ⟨ws, q1, q2, q3, q4, _, q6⟩ := ih n e cs' _ hte hp h2
          exact ⟨ws, cs', h1, q1, q2, q3, q4, q6⟩
        obtain ⟨f, hf⟩ := Deep.choose_lt hpick
        have hbulk : wtL ((List.range len).map fun i => elV P e (f i)) + 1 ≤ Rows.uptoBulk (DataW.slice ((List.range len).map D) ((List.range (mm - len)).map fun j => D (len + j))) := by
          have key : ∀ k, k ≤ mm → wtL ((List.range k).map fun i => elV P e (f i)) ≤ Rows.uptoBulkAll ((List.range k).map D) := by
            have app : ∀ (l r : List (DataW H)), Rows.uptoBulkAll (l ++ r) = Rows.uptoBulkAll l + Rows.uptoBulkAll r := by
              intro l r
              induction l with
              | nil => simp [Rows.uptoBulkAll]
              | cons x l ih => simp only [List.cons_append, Rows.uptoBulkAll, ih]; omega
            intro k
            induction k with
            | zero => intro _; simp [wtL]
            | succ k ihk =>
              intro hk
              obtain ⟨_, _, _, _, _, q4, _⟩ := hf k (by omega)
              rw [List.range_succ, List.map_append, List.map_append, wtL_append, app]
              have := ihk (by omega)
              simp only [List.map_cons, List.map_nil, wtL, Rows.uptoBulkAll]
              omega
          simp only [Rows.uptoBulk]
          have := key len (by omega)
          omega
        have hcl : ∀ v ∈ ((List.range len).map fun i => elV P e (f i)), v.clean = true := fun v hv => by
          obtain ⟨i, hi, rfl⟩ := List.mem_map.1 hv
          obtain ⟨_, _, _, q2, _⟩ := hf i (by have := List.mem_range.1 hi; omega)
          exact elV_clean fun c hc => (q2 c hc).2
        refine ⟨[.sl false (P.cellsOf e) ((List.range len).map fun i => elV P e (f i))], RL.one ?_, by simpa using cleanL_iff.2 hcl, ?_, by simpa [elV, ha, V.wt] using hbulk, by simpa [wtL, V.wt] using hbulk, fun _ => ⟨_, rfl, rfl⟩⟩
        · -- where it lies
          by_cases hc0 : mm = 0
          · have hl0 : len = 0 := by omega
            subst hc0; subst hl0
            exact .sl0 _ a
          · obtain ⟨cs0, p1, _⟩ := hf 0 (by omega)
            have hsp : a.spot = none := by
              obtain ⟨_, _, hc⟩ := World.cells?_some p1
              have h0 := hc 0 hz0
              simp only [Nat.zero_mul, Addr.add, if_true] at h0
              have hlen : 0 < cs0.length := by obtain ⟨_, q, _⟩ := World.cells?_some p1; omega
              rw [List.getElem?_eq_getElem hlen] at h0
              obtain ⟨ab, ao, asp⟩ := a
              exact (cell_lt h0).1
            obtain ⟨ab, ao, asp⟩ := a
            simp only at hsp
            subst hsp
            have hcell : ∀ i, i < mm → ∀ j, j < P.cellsOf e → ∃ cs', w.cells? 0 (Addr.add ⟨ab, ao, none⟩ (i * P.cellsOf e)) (P.cellsOf e) = some cs' ∧ w.cell? ⟨ab, ao + (i * P.cellsOf e + j), none⟩ = cs'[j]? ∧ j < cs'.length := fun i hi j hj => by
              obtain ⟨cs', p1, _⟩ := hf i hi
              obtain ⟨_, q, hc⟩ := World.cells?_some p1
              refine ⟨cs', p1, ?_, by omega⟩
              have := hc j hj
              rw [addr_add, addr_add] at this
              rw [← this, Nat.add_assoc]
            have hlenm : ((List.range len).map fun i => elV P e (f i)).length = len := by simp
            have hrep := Rep.sl (W := w) (G := G0 w) (φ := φ) (P.cellsOf e) ((List.range len).map fun i => elV P e (f i)) ab ao mm (fun k => (w.cell? ⟨ab, ao + k, none⟩).getD undef) (by simpa using hl) ?_ ?_ ?_ ?_
            · rw [hlenm] at hrep; exact hrep
            · rw [hlenm]
              have hlast : ao + (mm - 1 + 1) * P.cellsOf e ≤ G0 w ab := by
                obtain ⟨cs', p1, p2, p3⟩ := hcell (mm - 1) (by omega) (P.cellsOf e - 1) (by omega)
                rw [List.getElem?_eq_getElem p3] at p2
                have := (cell_lt p2).2
                rw [Nat.add_mul]; omega
              have : len * P.cellsOf e ≤ (mm - 1 + 1) * P.cellsOf e := Nat.mul_le_mul_right _ (by omega)
              omega
            · intro v hv
              obtain ⟨i, hi, rfl⟩ := List.mem_map.1 hv
              obtain ⟨cs', p1, q1, q2, _, _, q6⟩ := hf i (by have := List.mem_range.1 hi; omega)
              rw [elV_cells q6]
              exact ⟨by rw [q1.1]; exact (World.cells?_some p1).2.1, fun c hc => (q2 c hc).1⟩
            · intro k hk
              rw [hlenm] at hk
              have hi : k / P.cellsOf e < len := (Nat.div_lt_iff_lt_mul hz0).2 hk
              have hk' : k = k / P.cellsOf e * P.cellsOf e + k % P.cellsOf e := by rw [Nat.mul_comm]; exact (Nat.div_add_mod k _).symm
              obtain ⟨cs', p1, p2, p3⟩ := hcell (k / P.cellsOf e) (by omega) (k % P.cellsOf e) (Nat.mod_lt _ hz0)
              rw [← hk', List.getElem?_eq_getElem p3] at p2
              rw [p2]; rfl
            · intro i v j c hi hj
              have hilt : i < len := by have := (List.getElem?_eq_some_iff.1 hi).1; simpa using this
              simp only [List.getElem?_map, List.getElem?_range hilt, Option.map_some, Option.some.injEq] at hi
              subst hi
              obtain ⟨cs', p1, q1, q2, _, _, q6⟩ := hf i (by omega)
              rw [elV_cells q6] at hj
              have hjl : j < P.cellsOf e := by have := (List.getElem?_eq_some_iff.1 hj).1; rw [q1.1, (World.cells?_some p1).2.1] at this; exact this
              obtain ⟨cs'', p1', p2, p3⟩ := hcell i (by omega) j hjl
              rw [p1] at p1'; cases p1'
              rw [p2, List.getElem?_eq_getElem p3]
              exact q1.2 j c _ hj (List.getElem?_eq_getElem p3)
        · unfold HasT
          rw [hu]
          refine .inr ⟨_, rfl, fun v hv => ?_⟩
          obtain ⟨i, hi, rfl⟩ := List.mem_map.1 hv
          obtain ⟨_, _, _, _, q3, _⟩ := hf i (by have := List.mem_range.1 hi; omega)
          exact ⟨f i, q3, rfl⟩
    · rename_i n e hu
      have ha : isAgT P t = true := by simp [isAgT, hu]
      obtain ⟨hte, hsz⟩ := K.array ht hu
      obtain ⟨xs, m', _, rfl, hl, hxl, hel⟩ := DataW.trod_array hu h
      have hpick : ∀ i, i < n → ∃ ws : List V, RL w (G0 w) φ ws ((cs.drop (i * P.cellsOf e)).take (P.cellsOf e)) ∧ (∀ c ∈ ws, c.sc = true ∧ c.clean = true) ∧ HasT P m e ws ∧ wtL ws ≤ Rows.uptoBulk ((xs.map (·.1)).getD i .nil) := fun i hi => by
        have h1 := hel i hi
        rw [List.getElem?_eq_getElem (by omega)] at h1
        obtain ⟨ws, q1, q2, q3, _, q5, _⟩ := ih m' e _ _ hte hp h1
        refine ⟨ws, q1, q2, q3, ?_⟩
        simpa [List.getD, show i < xs.length by omega] using q5
      obtain ⟨f, hf⟩ := Deep.choose_lt hpick
      have hfl : ∀ i, i < n → (f i).length = P.cellsOf e := fun i hi => by
        have := (hf i hi).1.1
        simp only [List.length_take, List.length_drop, hl, hsz] at this
        have h2 : (i + 1) * P.cellsOf e ≤ n * P.cellsOf e := Nat.mul_le_mul_right _ hi
        rw [Nat.add_mul] at h2
        omega
      have hsum : ∀ k, ((List.range k).map fun _ => P.cellsOf e).sum = k * P.cellsOf e := fun k => by
        induction k with
        | zero => simp
        | succ k ihk => rw [List.range_succ, List.map_append, List.sum_append, ihk, Nat.add_mul]; simp
      have hbulk : wtL ((List.range n).map f).flatten + 1 ≤ Rows.uptoBulk (DataW.agg (xs.map (·.1))) := by
        have := bulkAll_range n f (fun i => (xs.map (·.1)).getD i .nil) 0 fun i hi => by simpa using (hf i hi).2.2.2
        have e1 : ((List.range n).map fun i => (xs.map (·.1)).getD (0 + i) DataW.nil) = xs.map (·.1) := by
          apply List.ext_getElem
          · simp [hxl]
          · intro i h1 h2
            simp at h1 h2
            simp [List.getD, h2]
        rw [e1] at this
        simp only [Rows.uptoBulk]; omega
      refine ⟨((List.range n).map f).flatten, RL.flatten ?_ fun i ws hi => ?_, fun c hc => ?_, ?_, by simpa [elV, ha, V.wt] using hbulk, Nat.le_of_lt hbulk, fun hh => by rw [ha] at hh; cases hh⟩
      · have := pieces (K := n) (n := n) (f := f) (c := fun _ => P.cellsOf e) (Nat.le_refl _) hfl
        rw [List.take_of_length_le (by simp)] at this
        rw [this, hsum, hl, hsz]
      · have hin : i < n := by have := (List.getElem?_eq_some_iff.1 hi).1; simpa using this
        rw [pieces (by omega) hfl, hsum]
        simp only [List.getElem?_map, List.getElem?_range hin, Option.map_some, Option.some.injEq] at hi
        subst hi
        rw [hfl i hin]; exact (hf i hin).1
      · obtain ⟨ws, hws, hc⟩ := List.mem_flatten.1 hc
        obtain ⟨i, hi, rfl⟩ := List.mem_map.1 hws
        exact (hf i (List.mem_range.1 hi)).2.1 c hc
      · unfold HasT
        rw [hu]
        refine ⟨(List.range n).map f, by simp, fun ws hws => ?_, rfl⟩
        obtain ⟨i, hi, rfl⟩ := List.mem_map.1 hws
        exact (hf i (List.mem_range.1 hi)).2.2.1
    · rename_i fs hu
      have ha : isAgT P t = true := by simp [isAgT, hu]
      obtain ⟨hte, hsz, hoff⟩ := K.struct ht hu
      obtain ⟨xs, m', _, rfl, hl, hxl, hel⟩ := DataW.trod_struct hu h
      let c : Nat → Nat := fun i => match fs[i]? with | some f => P.cellsOf f.type | none => 0
      have hc : ∀ (i : Nat) (fd : Field), fs[i]? = some fd → c i = P.cellsOf fd.type := fun i fd hi => by simp only [c, hi]
      have htake : ∀ k, k ≤ fs.size → (fs.toList.take k).map (fun f => P.cellsOf f.type) = (List.range k).map c := fun k hk => by
        apply List.ext_getElem
        · simp; omega
        · intro i h1 h2
          simp at h1 h2
          have hi : fs[i]? = some fs[i] := by simp
          simp [hc i _ hi]
      have hoff' : ∀ (i : Nat) (fd : Field), fs[i]? = some fd → fd.offset = ((List.range i).map c).sum := fun i fd hi => by
        have hlt : i < fs.size := (Array.getElem?_eq_some_iff.1 hi).1
        rw [hoff i fd (by simpa using hi), htake i (by omega)]
      have hsz' : P.cellsOf t = ((List.range fs.size).map c).sum := by
        rw [hsz, ← htake fs.size (Nat.le_refl _), List.take_of_length_le (by simp)]
      have hsub : ∀ i, i < fs.size → ((List.range i).map c).sum + c i ≤ P.cellsOf t := fun i hi => by
        have mono : ∀ k, i + 1 ≤ k → ((List.range (i + 1)).map c).sum ≤ ((List.range k).map c).sum := by
          intro k hk
          induction hk with
          | refl => exact Nat.le_refl _
          | step _ ih =>
            refine Nat.le_trans ih ?_
            rename_i k _
            have e : ((List.range (k + 1)).map c).sum = ((List.range k).map c).sum + c k := by rw [List.range_succ, List.map_append, List.sum_append]; simp
            show _ ≤ ((List.range (k + 1)).map c).sum
            rw [e]; exact Nat.le_add_right _ _
        have := mono fs.size hi
        rw [← hsz', List.range_succ, List.map_append, List.sum_append] at this
        simpa using this
      have hpick : ∀ i, i < fs.size → ∃ ws : List V, ∀ fd, fs[i]? = some fd → RL w (G0 w) φ ws ((cs.drop fd.offset).take (P.cellsOf fd.type)) ∧ (∀ c ∈ ws, c.sc = true ∧ c.clean = true) ∧ HasT P m fd.type ws ∧ wtL ws ≤ Rows.uptoBulk ((xs.map (·.1)).getD i .nil) := fun i hi => by
        have hfd : fs[i]? = some fs[i] := by simp [hi]
        have h1 := hel i _ hfd
        rw [List.getElem?_eq_getElem (by omega)] at h1
        obtain ⟨ws, q1, q2, q3, _, q5, _⟩ := ih m' fs[i].type _ _ (hte _ (by simp)) (List.all_eq_true.1 hp _ (by simp)) h1
        refine ⟨ws, fun fd hfd' => ?_⟩
        rw [hfd] at hfd'; cases hfd'
        refine ⟨q1, q2, q3, ?_⟩
        simpa [List.getD, show i < xs.length by omega] using q5
      obtain ⟨f, hf⟩ := Deep.choose_lt hpick
      have hget : ∀ i, i < fs.size → fs[i]? = some (fs.getD i default) := fun i hi => by simp [Array.getD, hi]
      have hfl : ∀ i, i < fs.size → (f i).length = c i := fun i hi => by
        have hfd := hget i hi
        have := (hf i hi _ hfd).1.1
        simp only [List.length_take, List.length_drop, hl] at this
        rw [hoff' i _ hfd, ← hc i _ hfd] at this
        have h2 := hsub i hi
        omega
      have hbulk : wtL ((List.range fs.size).map f).flatten + 1 ≤ Rows.uptoBulk (DataW.agg (xs.map (·.1))) := by
        have := bulkAll_range fs.size f (fun i => (xs.map (·.1)).getD i .nil) 0 fun i hi => by simpa using (hf i hi _ (hget i hi)).2.2.2
        have e1 : ((List.range fs.size).map fun i => (xs.map (·.1)).getD (0 + i) DataW.nil) = xs.map (·.1) := by
          apply List.ext_getElem
          · simp [hxl]
          · intro i h1 h2
            simp at h1 h2
            simp [List.getD, h2]
        rw [e1] at this
        simp only [Rows.uptoBulk]; omega
      refine ⟨((List.range fs.size).map f).flatten, RL.flatten ?_ fun i ws hi => ?_, fun c hc => ?_, ?_, by simpa [elV, ha, V.wt] using hbulk, Nat.le_of_lt hbulk, fun hh => by rw [ha] at hh; cases hh⟩
      · have := pieces (K := fs.size) (n := fs.size) (f := f) (c := c) (Nat.le_refl _) hfl
        rw [List.take_of_length_le (by simp)] at this
        rw [this, hl, hsz']
      · have hin : i < fs.size := by have := (List.getElem?_eq_some_iff.1 hi).1; simpa using this
        rw [pieces (by omega) hfl]
        simp only [List.getElem?_map, List.getElem?_range hin, Option.map_some, Option.some.injEq] at hi
        subst hi
        have hfd := hget i hin
        rw [hfl i hin, ← hoff' i _ hfd, hc i _ hfd]; exact (hf i hin _ hfd).1
      · obtain ⟨ws, hws, hc⟩ := List.mem_flatten.1 hc
        obtain ⟨i, hi, rfl⟩ := List.mem_map.1 hws
        exact (hf i (List.mem_range.1 hi) _ (hget i (List.mem_range.1 hi))).2.1 c hc
      · unfold HasT
        rw [hu]
        refine ⟨(List.range fs.size).map f, by simp, fun i fd ws hfd hws => ?_, rfl⟩
        have hin : i < fs.size := (Array.getElem?_eq_some_iff.1 hfd).1
        simp only [List.getElem?_map, List.getElem?_range hin, Option.map_some, Option.some.injEq] at hws
        subst hws
        exact (hf i hin fd hfd).2.2.1
    · simp at hp

/-- a value that came in -/
theorem Trod.rep (K : Kids P (· < P.types.size)) (hz : ∀ t e, t < P.types.size → P.underlying t = some (.slice e) → 0 < P.cellsOf e) {m : Nat} {t : TypeId} {v : Value} {d : DataW H} {ps : List MemPlace} {base : Nat} (ht : t < P.types.size) (hp : plainT P m t = true)
    (h : DataW.Trod enc P w 0 (fun _ => true) held t v d ps) (hval : Value.okWide P w .any base t v) :
    ∃ vs, Rep w (G0 w) φ (elV P t vs) v ∧ HasT P m t vs ∧ (elV P t vs).wt ≤ Rows.uptoBulk d ∧ (elV P t vs).clean = true := by
  obtain ⟨n, h⟩ := h
  obtain ⟨vs, h1, h2, h3, h4, _, h6⟩ := trod_rep (φ := φ) K hz m n t _ _ ht hp h
  refine ⟨vs, ?_, h3, h4, elV_clean fun c hc => (h2 c hc).2⟩
  unfold elV
  by_cases ha : isAgT P t = true
  · rw [if_pos ha]
    have : ∃ cs, v = .agg cs := by
      unfold Value.okWide at hval
      unfold isAgT at ha
      split at ha
      · rename_i hu; rw [hu] at hval; obtain ⟨cs, rfl, _⟩ := hval; exact ⟨cs, rfl⟩
      · rename_i hu; rw [hu] at hval; obtain ⟨cs, rfl, _⟩ := hval; exact ⟨cs, rfl⟩
      · simp at ha
    obtain ⟨cs, rfl⟩ := this
    refine .agg vs cs (by simpa [Value.cells] using h1.1) (fun c hc => (h2 c hc).1) fun i c x hc hx => h1.2 i c x hc (by simpa [Value.cells] using hx)
  · rw [if_neg ha]
    obtain ⟨u, rfl, hu⟩ := h6 (by simpa using ha)
    have hv : v.cells.toList = [v] := by
      cases v with
      | agg cs =>
        exfalso
        unfold Value.okWide at hval
        unfold isAgT at ha
        split at hval
        · rename_i hu; simp [hu] at ha
        · rename_i hu; simp [hu] at ha
        · unfold Cell.okWide Cell.ok at hval
          split at hval <;> simp_all
      | _ => rfl
    rw [hv] at h1
    exact h1.2 0 u v rfl rfl
end

/-! ## what goes out -/
theorem post_true {H : Type} {enc : TypeId × Value → H} {P : Program} (K : Kids P (· < P.types.size)) (hz : ∀ t e, t < P.types.size → P.underlying t = some (.slice e) → 0 < P.cellsOf e) {f : Func} {s : ChangeSpec} {apart fresh handsOn again : Bool} {W W' : World} {args : Array Value} {ds : List (DataW H)} {before : List MemPlace} {tb : TypeId}
    (hvars : s.vars = []) (hfn : s.fn H ds = { results := [.lit (.bool true)], args := ds }) (hrt : f.resultTypes = #[tb]) (htb : P.underlying tb = some .bool) (hpt : ∀ t ∈ f.params.toList, t < P.types.size)
    (hW : DataW.Whole enc P f.params.toList s.vars apart W args.toList ds [] before) (hB : Below W.heap.size W W') : s.post enc P f apart fresh handsOn again W args (.bool true) W' := by
  have hlt := hW.lt
  have hW0 := hW
  obtain ⟨p, q, hA, hV, rfl, hfz, hnd⟩ := hW
  rw [hvars] at hV
  have hq : q = [] := hV
  subst hq
  have carry : ∀ {ts : List TypeId} {vs : List Value} {ds : List (DataW H)} {ps : List MemPlace}, DataW.TrodAll enc P W 0 (fun _ => true) true ts vs ds ps → (∀ p ∈ ps, p.block < W.heap.size) → DataW.TrodAll enc P W' 0 (fun _ => true) true ts vs ds ps := by
    intro ts
    induction ts with
    | nil => intro vs ds ps h _; cases vs <;> cases ds <;> first | exact h | exact h.elim
    | cons t ts ih =>
      intro vs ds ps h hb
      cases vs with
      | nil => exact h.elim
      | cons v vs =>
        cases ds with
        | nil => exact h.elim
        | cons d ds =>
          obtain ⟨p, q, ⟨n, h1⟩, h2, rfl⟩ := h
          exact ⟨p, q, ⟨n, DataW.trod_carry n _ _ _ h1 fun x hx => hB.same (hb x (List.mem_append_left _ hx))⟩, ih h2 fun x hx => hb x (List.mem_append_right _ hx), rfl⟩
  have hA' := carry hA fun x hx => hlt x (by simpa using hx)
  have hargs : ∀ sp : Nat → Bool, (∀ x ∈ p, sp x.block = true) → DataW.TrodAll enc P W' 0 sp true f.params.toList args.toList ds p := fun sp hsp => hA'.respare K hz hpt hsp
  have hres : ∀ (b : Nat) (sp : Nat → Bool) (hd : Bool), DataW.TrodAll enc P W' b sp hd f.resultTypes.toList ((Value.bool true).resultList f.resultTypes.size) [.lit (.bool true)] [] := by
    intro b sp hd
    rw [hrt]
    exact trodAll_cons_mk (shut_bool htb _) trodAll_mk0
  have hsimp : s.fn H (ds ++ []) = { results := [.lit (.bool true)], args := ds } := by rw [List.append_nil]; exact hfn
  have hold : ∀ x ∈ p, (fun b => decide (b < W.heap.size)) x.block = true := fun x hx => by simpa using hlt x (by simpa using hx)
  refine ⟨ds, [], p ++ [], [], p, [], hW0, by rw [hsimp]; exact hres _ _ _, by rw [hsimp]; exact hargs _ hold, by rw [hsimp, hvars]; rfl, World.keptBut_mono (fun x f => f.elim) (hB.frame fun _ => False), fun _ => ?_⟩
  refine ⟨ok_one hrt rfl (okWide_bool_mk htb _), _, [], ([] ++ p) ++ [], ⟨[] ++ p, [], trodAll_append (hargs _ (fun _ _ => rfl)) (hres _ _ _), by rw [hvars]; rfl, rfl, ?_, ?_⟩, ?_⟩
  · intro b off hp
    have hp' : MemPlace.cell b off ∈ p := by simpa using hp
    rw [hB.frozen (p := ⟨b, off, none⟩) (hlt (.cell b off) (by simpa using hp'))]
    exact hfz b off (by simpa using hp')
  · intro ha
    simpa using hnd ha
  · intro x hx _
    simpa using hx
end Go.Abs
