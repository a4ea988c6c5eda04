/-
  Parts of the proof, one behind the other. Own work of this seat; some printed by its programs.
-/
import Derived.Test.YtghjeddphkmciaaDoorM1
/-
  Y, part 3: operations on values: that the plain ones follow. Own work of this seat.
-/
namespace Go.Abs

theorem nf_sl' {v : V} {b : Bool} {sz : Nat} {l : List V} (h : v.nf = .sl b sz l) : b = false ∧ ∃ nl xs, v = .sl nl sz xs ∧ nfL xs = l ∧ (nl = true → xs = []) := by
  cases v <;> simp_all [V.nf]
  rename_i nl sz' xs
  cases nl <;> cases xs <;> simp_all [V.nf, nfL]
theorem nf_idem_sc {v : V} (h : v.sc = true) : v.nf.sc = true := by rw [nf_sc]; exact h

theorem nf_nilptr {v : V} (h : v.nf = .nilptr) : v = .nilptr := by
  cases v <;> simp_all [V.nf]
  all_goals (rename_i nl sz xs; cases nl <;> cases xs <;> simp [V.nf] at h)
theorem nf_nilif {v : V} (h : v.nf = .nilif) : v = .nilif := by
  cases v <;> simp_all [V.nf]
  all_goals (rename_i nl sz xs; cases nl <;> cases xs <;> simp [V.nf] at h)
theorem nf_iface {v w : V} {t : Nat} (h : v.nf = .iface t w) : ∃ u, v = .iface t u := by
  cases v <;> simp_all [V.nf]
  all_goals (rename_i nl sz xs; cases nl <;> cases xs <;> simp [V.nf] at h)
theorem abin_nf {op : BinOp} {q : EqK} (hq : q ≠ .slice) {x y z : V} (h : abin op q x.nf y.nf = some z) : abin op q x y = some z := by
  have key : ∀ v : V, (∃ k n, v = .int k n) ∨ (∃ s, v = .str s) ∨ ((∀ k n, v ≠ .int k n) ∧ (∀ s, v ≠ .str s) ∧ (∀ k n, v.nf ≠ .int k n) ∧ (∀ s, v.nf ≠ .str s)) := by
    intro v
    cases v with
    | int k n => exact .inl ⟨k, n, rfl⟩
    | str s => exact .inr (.inl ⟨s, rfl⟩)
    | sl nl sz xs => cases nl <;> cases xs <;> exact .inr (.inr ⟨fun _ _ h => (by cases h), fun _ h => (by cases h), fun _ _ h => (by simp [V.nf] at h), fun _ h => (by simp [V.nf] at h)⟩)
    | _ => exact .inr (.inr ⟨fun _ _ h => (by cases h), fun _ h => (by cases h), fun _ _ h => (by simp [V.nf] at h), fun _ h => (by simp [V.nf] at h)⟩)
  have veq : ∀ a b : V, ((∀ k n, a ≠ .int k n) ∨ (∀ k n, b ≠ .int k n)) → ((∀ s, a ≠ .str s) ∨ (∀ s, b ≠ .str s)) → abin op q a b = vEq op (aeq q a b) := by
    intro a b h1 h2
    unfold abin
    split
    · rcases h1 with h1 | h1 <;> exact absurd rfl (h1 _ _)
    · rcases h2 with h2 | h2 <;> exact absurd rfl (h2 _)
    · rfl
  have aeqnf : ∀ {b : Bool}, aeq q x.nf y.nf = some b → aeq q x y = some b := by
    intro b hb
    cases q with
    | slice => exact absurd rfl hq
    | no => simp [aeq] at hb
    | fn => simp [aeq] at hb
    | bool =>
      cases hx : x.nf <;> rw [hx] at hb <;> cases hy : y.nf <;> rw [hy] at hb <;> simp [aeq] at hb
      rw [nf_bool hx, nf_bool hy]; simp [aeq, hb]
    | flat ks =>
      cases hx : x.nf <;> rw [hx] at hb <;> cases hy : y.nf <;> rw [hy] at hb <;> simp only [aeq, reduceCtorEq] at hb
      obtain ⟨xs, rfl, rfl⟩ := nf_agg hx
      obtain ⟨ys, rfl, rfl⟩ := nf_agg hy
      exact flatEq_nf hb
    | ptr =>
      cases hx : x.nf <;> rw [hx] at hb <;> cases hy : y.nf <;> rw [hy] at hb <;> simp only [aeq, reduceCtorEq] at hb
      · rw [nf_ptr hx, nf_nilptr hy]; exact hb
      · rw [nf_nilptr hx, nf_ptr hy]; exact hb
      · rw [nf_nilptr hx, nf_nilptr hy]; exact hb
    | iface =>
      cases hx : x.nf <;> rw [hx] at hb <;> cases hy : y.nf <;> rw [hy] at hb <;> simp only [aeq, reduceCtorEq] at hb
      · obtain ⟨w, rfl⟩ := nf_iface hx; rw [nf_nilif hy]; exact hb
      · obtain ⟨w, rfl⟩ := nf_iface hy; rw [nf_nilif hx]; exact hb
      · rw [nf_nilif hx, nf_nilif hy]; exact hb
  rcases key x with ⟨k, n, rfl⟩ | ⟨s, rfl⟩ | ⟨x1, x2, x3, x4⟩
  · rcases key y with ⟨k', n', rfl⟩ | ⟨s', rfl⟩ | ⟨y1, y2, y3, y4⟩
    · exact h
    · exact h
    · rw [veq _ _ (.inr y3) (.inr y4)] at h
      rw [veq _ _ (.inr y1) (.inr y2)]
      cases hb : aeq q (V.int k n).nf y.nf with
      | none => rw [hb] at h; cases op <;> simp [vEq] at h
      | some b => rw [aeqnf hb]; rw [hb] at h; exact h
  · rcases key y with ⟨k', n', rfl⟩ | ⟨s', rfl⟩ | ⟨y1, y2, y3, y4⟩
    · exact h
    · exact h
    · rw [veq _ _ (.inr y3) (.inr y4)] at h
      rw [veq _ _ (.inr y1) (.inr y2)]
      cases hb : aeq q (V.str s).nf y.nf with
      | none => rw [hb] at h; cases op <;> simp [vEq] at h
      | some b => rw [aeqnf hb]; rw [hb] at h; exact h
  · rw [veq _ _ (.inl x3) (.inl x4)] at h
    rw [veq _ _ (.inl x1) (.inl x2)]
    cases hb : aeq q x.nf y.nf with
    | none => rw [hb] at h; cases op <;> simp [vEq] at h
    | some b => rw [aeqnf hb]; rw [hb] at h; exact h

/-- plain, of one cell, and just what it is -/
def V.flat : V → Bool
  | .bool _ | .int _ _ | .str _ => true
  | _ => false
theorem flat_nf {v : V} (h : v.flat = true) : v.nf = v ∧ v.clean = true ∧ v.sc = true := by cases v <;> simp [V.flat] at h <;> exact ⟨rfl, rfl, rfl⟩
theorem abin_flat {op : BinOp} {q : EqK} {x y z : V} (h : abin op q x y = some z) : z.flat = true := by
  have hv : ∀ {b : Option Bool}, vEq op b = some z → z.flat = true := by
    intro b hb
    cases op <;> simp only [vEq, Option.map_eq_some_iff, reduceCtorEq] at hb <;> obtain ⟨c, _, rfl⟩ := hb <;> rfl
  unfold abin at h
  split at h
  · split at h
    · split at h <;> cases h; rfl
    · split at h <;> cases h; rfl
    · split at h
      · unfold aint at h; split at h <;> (try split at h) <;> first | (cases h; rfl) | cases h
      · cases h
  · unfold astr at h; split at h <;> (try split at h) <;> first | (cases h; rfl) | cases h
  · exact hv h
theorem aun_nf {op : UnOp} {x z : V} (h : aun op x.nf = some z) : aun op x = some z ∧ z.flat = true := by
  unfold aun at h
  split at h
  · rename_i hx; rw [nf_int hx]; exact ⟨h, by cases h; rfl⟩
  · rename_i hx; rw [nf_bool hx]; exact ⟨h, by cases h; rfl⟩
  · cases h

theorem clean_get {l : List V} (h : cleanL l = true) {i : Nat} {v : V} (hi : l[i]? = some v) : v.clean = true := cleanL_iff.1 h v (List.mem_of_getElem? hi)
theorem cleanL_sub {l m : List V} (h : cleanL l = true) (hm : ∀ v ∈ m, v ∈ l) : cleanL m = true := cleanL_iff.2 fun v hv => cleanL_iff.1 h v (hm v hv)
theorem cleanL_take {l : List V} (h : cleanL l = true) (k : Nat) : cleanL (l.take k) = true := cleanL_sub h fun _ hv => List.mem_of_mem_take hv
theorem cleanL_drop {l : List V} (h : cleanL l = true) (k : Nat) : cleanL (l.drop k) = true := cleanL_sub h fun _ hv => List.mem_of_mem_drop hv
theorem clean_cells {v : V} (h : v.clean = true) : cleanL v.cells = true := cleanL_iff.2 (V.clean_cells h)
theorem ldCells_clean {n : Option Nat} {l : List V} {o : Nat} {v : V} (hl : cleanL l = true) (h : ldCells n l o = some v) : v.clean = true := by
  cases n with
  | none => exact clean_get hl h
  | some k =>
    simp only [ldCells] at h
    split at h
    · cases h; exact cleanL_take (cleanL_drop hl _) _
    · cases h
theorem cleanL_setAt {l m : List V} (hl : cleanL l = true) (hm : cleanL m = true) (o : Nat) : cleanL (setAt l o m) = true := by
  unfold setAt; exact clean_app (clean_app (cleanL_take hl _) hm) (cleanL_drop hl _)
theorem cleanL_encB' (l : Bytes) : cleanL (encB l) = true := cleanL_iff.2 fun v hv => by obtain ⟨b, _, rfl⟩ := List.mem_map.1 hv; rfl

theorem vSls_flat {x z : V} {lo hi : Option V} (h : vSls x lo hi = some z) : z.flat = true := by
  unfold vSls at h
  split at h
  · simp only [Option.map_eq_some_iff] at h; obtain ⟨_, _, rfl⟩ := h; rfl
  · cases h
theorem vOpt_nf {x : Option V} {o : Option Int} (h : vOpt (x.map V.nf) = some o) : vOpt x = some o := by
  cases x with
  | none => exact h
  | some v =>
    simp only [Option.map_some] at h
    unfold vOpt at h
    split at h
    · rename_i e; cases e
    · rename_i k n e; injection e with e; rw [nf_int e]; exact h
    · cases h
theorem vSls_nf {x z : V} {lo hi : Option V} (h : vSls x.nf (lo.map V.nf) (hi.map V.nf) = some z) : vSls x lo hi = some z := by
  unfold vSls at h
  split at h
  · rename_i l h' s e1 e2 e3
    rw [nf_str e3]
    simp only [vSls, vOpt_nf e1, vOpt_nf e2]; exact h
  · cases h
theorem vSlc_nf {sz : Nat} {x : V} {z : Res} {lo hi mx : Option V} (hx : x.nf.clean = true) (h : vSlc sz x.nf (lo.map V.nf) (hi.map V.nf) (mx.map V.nf) = some z) :
    ∃ v, vSlc sz x lo hi mx = some ⟨v, mx.isSome, none⟩ ∧ v.nf = z.v ∧ z.v.clean = true ∧ v.sc = true := by
  unfold vSlc at h
  split at h
  · rename_i l h' m nl s xs e1 e2 e3 e4
    obtain ⟨rfl, nl', ys, rfl, rfl, hn⟩ := nf_sl' e4
    split at h
    · rename_i hc
      obtain ⟨rfl, hm⟩ := hc
      simp only [Option.map_eq_some_iff] at h
      obtain ⟨c, h1, rfl⟩ := h
      rw [nfL_length] at h1
      have hmx : mx.isSome = m.isSome := by
        have := vOpt_nf e3
        cases mx with
        | none => simp [vOpt] at this; subst this; rfl
        | some v => unfold vOpt at this; split at this
                    · rename_i e; cases e
                    · cases this; rfl
                    · cases this
      refine ⟨.sl nl' s ((ys.take c.2.1).drop c.1), ?_, ?_, ?_, rfl⟩
      · simp only [vSlc, vOpt_nf e1, vOpt_nf e2, vOpt_nf e3]
        rw [if_pos ⟨trivial, hm⟩, h1, hmx]; rfl
      · rw [sl_nf (fun h => by rw [hn h]; simp), nfL_drop, nfL_take]
      · rw [e4] at hx
        exact cleanL_drop (cleanL_take (by simpa [V.clean] using hx) _) _
    · cases h
  · rename_i e4
    rw [e4] at hx; simp [V.clean] at hx
  · cases h
theorem toBytes_nf : ∀ {l : List V} {b : Bytes}, toBytes (nfL l) = some b → toBytes l = some b
  | [], _, h => h
  | v :: r, b, h => by
    simp only [nfL] at h
    unfold toBytes at h
    split at h
    · rename_i e; cases e
    · rename_i n r' e
      obtain ⟨e1, rfl⟩ := List.cons.inj e
      rw [nf_int e1]
      simp only [Option.map_eq_some_iff] at h
      obtain ⟨b', h1, h2⟩ := h
      simp only [toBytes, toBytes_nf h1, Option.map_some, h2]
    · cases h
theorem fits_nf' {sz : Nat} : ∀ {xs : List V}, fits sz (nfL xs) = fits sz xs
  | [] => rfl
  | v :: r => by
    have e : (nfL v.cells).all V.sc = v.cells.all V.sc := by rw [nfL_map, List.all_map]; congr 1; funext w; exact nf_sc w
    simp only [nfL, fits_cons, nf_cells, nfL_length, fits_nf' (xs := r), e]

theorem nfL_eq2 {x y : V} {ys : List V} (h : nfL [x, y] = ys) : ys = [x.nf, y.nf] := h.symm
theorem optV {lo : Option Opd} {tm : Nat → V} : nfL ((optL lo).map (evO tm)) = (lo.map fun x => (evO tm x).nf).toList := by cases lo <;> rfl

variable {Γ : Abs.Spec} {gl : Glob} {s : St} {d : Option Nat} {g : Option (Nat × Bool)} {a : List Nat}

theorem prim_ok {op : AOp} {p : Prim} {xs : List Opd} {own : Bool} (hp : primOf op = some (p, xs, own)) {ys : List V} (hy : nfL (xs.map (evO s.tm)) = ys) (hc : cleanL ys = true) {z : V} (hz : evp p ys = some z) :
    ∃ v o, exec1 Γ gl ⟨d, op, g, a⟩ s = some (s.put d v o) ∧ v.nf = z ∧ z.clean = true ∧ (own = true → Own v o) ∧ (p.one = true → v.sc = true) := by
  have fl : ∀ {z : V}, z.flat = true → z.nf = z ∧ z.clean = true ∧ (false = true → Own z false) ∧ (p.one = true → z.sc = true) := fun h => ⟨(flat_nf h).1, (flat_nf h).2.1, fun h => (nomatch h), fun _ => (flat_nf h).2.2⟩
  cases op <;> simp only [primOf, Option.some.injEq, Prod.mk.injEq, reduceCtorEq] at hp
  case ext t i =>
    obtain ⟨rfl, rfl, rfl⟩ := hp
    subst hy
    simp only [List.map_cons, List.map_nil, nfL, evp] at hz
    unfold vExt at hz
    split at hz
    · rename_i vs e
      obtain ⟨cs, he, rfl⟩ := nf_tup e
      simp only [nfL_get, Option.map_eq_some_iff] at hz
      obtain ⟨v, hv, rfl⟩ := hz
      refine ⟨v, false, by rw [e_ext, he, vExt_tup, hv]; rfl, rfl, ?_, fun h => (nomatch h), fun h => (nomatch h)⟩
      simp only [List.map_cons, List.map_nil, nfL, cleanL, Bool.and_true, e, V.clean] at hc
      exact clean_get hc (by rw [nfL_get, hv]; rfl)
    · cases hz
  case bin op q x y =>
    have hq : q ≠ .slice ∧ some (Prim.bin op q, [x, y], false) = some (p, xs, own) := by
      cases q <;> simp at hp ⊢ <;> exact hp
    obtain ⟨hq, h⟩ := hq
    cases h
    subst hy
    simp only [List.map_cons, List.map_nil, nfL, evp] at hz
    have h1 := abin_nf hq hz
    obtain ⟨q1, q2, q3, q4⟩ := fl (abin_flat hz)
    exact ⟨z, false, by rw [e_bin, h1]; rfl, q1, q2, q3, q4⟩
  case un op x =>
    obtain ⟨rfl, rfl, rfl⟩ := hp
    subst hy
    simp only [List.map_cons, List.map_nil, nfL, evp] at hz
    obtain ⟨h1, h2⟩ := aun_nf hz
    obtain ⟨q1, q2, q3, q4⟩ := fl h2
    exact ⟨z, false, by rw [e_un, h1]; rfl, q1, q2, q3, q4⟩
  case len sb x =>
    obtain ⟨rfl, rfl, rfl⟩ := hp
    subst hy
    simp only [List.map_cons, List.map_nil, nfL, evp] at hz
    have h1 : vLen sb (evO s.tm x) = some z ∧ z.flat = true := by
      unfold vLen at hz
      split at hz
      · rename_i e; rw [nf_str e]; exact ⟨hz, by cases hz; rfl⟩
      · rename_i e
        obtain ⟨_, nl, xs, he, rfl, _⟩ := nf_sl' e
        rw [he]; rw [nfL_length] at hz; exact ⟨hz, by cases hz; rfl⟩
      · rename_i e
        simp only [List.map_cons, List.map_nil, nfL, cleanL, Bool.and_true, e, V.clean] at hc
        cases hc
      · cases hz
    obtain ⟨q1, q2, q3, q4⟩ := fl h1.2
    exact ⟨z, false, by rw [e_len, h1.1]; rfl, q1, q2, q3, q4⟩
  case mnx m x y =>
    obtain ⟨rfl, rfl, rfl⟩ := hp
    subst hy
    simp only [List.map_cons, List.map_nil, nfL, evp] at hz
    have h1 : vMnx m (evO s.tm x) (evO s.tm y) = some z ∧ z.flat = true := by
      unfold vMnx at hz
      split at hz
      · rename_i e1 e2; rw [nf_int e1, nf_int e2]
        refine ⟨hz, ?_⟩
        split at hz
        · cases hz; rfl
        · cases hz
      · cases hz
    obtain ⟨q1, q2, q3, q4⟩ := fl h1.2
    exact ⟨z, false, by rw [e_mnx, h1.1]; rfl, q1, q2, q3, q4⟩
  case fld n off x =>
    obtain ⟨rfl, rfl, rfl⟩ := hp
    subst hy
    simp only [List.map_cons, List.map_nil, nfL, evp] at hz
    unfold vFld at hz
    split at hz
    · rename_i cs e
      obtain ⟨ds, he, rfl⟩ := nf_agg e
      obtain ⟨v, h1, h2⟩ := ldCells_nf hz
      refine ⟨v, false, by rw [e_fld, he, vFld_agg, h1]; rfl, h2, ?_, fun h => (nomatch h), fun h => (nomatch h)⟩
      simp only [List.map_cons, List.map_nil, nfL, cleanL, Bool.and_true, e, V.clean] at hc
      exact ldCells_clean hc hz
    · cases hz
  case idx x i =>
    obtain ⟨rfl, rfl, rfl⟩ := hp
    subst hy
    simp only [List.map_cons, List.map_nil, nfL, evp] at hz
    have h1 : vIdx (evO s.tm x) (evO s.tm i) = some z ∧ z.flat = true := by
      unfold vIdx at hz
      split at hz
      · rename_i e1 e2; rw [nf_str e1, nf_int e2]
        refine ⟨hz, ?_⟩
        split at hz
        · simp only [Option.map_eq_some_iff] at hz; obtain ⟨_, _, rfl⟩ := hz; rfl
        · cases hz
      · cases hz
    obtain ⟨q1, q2, q3, q4⟩ := fl h1.2
    exact ⟨z, false, by rw [e_idx, h1.1]; rfl, q1, q2, q3, q4⟩
  case idxa l sz n x i =>
    obtain ⟨rfl, rfl, rfl⟩ := hp
    subst hy
    simp only [List.map_cons, List.map_nil, nfL, evp] at hz
    unfold vIdxa at hz
    split at hz
    · rename_i cs _ j e1 e2
      obtain ⟨ds, he, rfl⟩ := nf_agg e1
      split at hz
      · rename_i hj
        obtain ⟨v, h1, h2⟩ := ldCells_nf hz
        refine ⟨v, false, by rw [e_idxa, he, nf_int e2]; simp [vIdxa, hj, h1], h2, ?_, fun h => (nomatch h), fun h => (nomatch h)⟩
        simp only [List.map_cons, List.map_nil, nfL, cleanL, Bool.and_true, e1, V.clean, Bool.and_eq_true] at hc
        exact ldCells_clean hc.1 hz
      · cases hz
    · cases hz
  case sls x lo hi =>
    obtain ⟨rfl, rfl, rfl⟩ := hp
    subst hy
    have h1 : vSls (evO s.tm x).nf ((lo.map (evO s.tm)).map V.nf) ((hi.map (evO s.tm)).map V.nf) = some z := by
      cases lo <;> cases hi <;> simpa [nfL, evp, vSlsC, optL] using hz
    obtain ⟨q1, q2, q3, q4⟩ := fl (vSls_flat h1)
    exact ⟨z, false, by rw [e_sls, vSls_nf h1]; rfl, q1, q2, q3, q4⟩
  case slc sz x lo hi mx =>
    obtain ⟨rfl, rfl, rfl⟩ := hp
    subst hy
    have h1 : ∃ r, vSlc sz (evO s.tm x).nf ((lo.map (evO s.tm)).map V.nf) ((hi.map (evO s.tm)).map V.nf) ((mx.map (evO s.tm)).map V.nf) = some r ∧ r.v = z := by
      cases lo <;> cases hi <;> cases mx <;> (simp [nfL, evp, vSlcC, optL] at hz ⊢ <;> exact hz)
    obtain ⟨r, h1, rfl⟩ := h1
    have hx : (evO s.tm x).nf.clean = true := by
      simp only [List.map_cons, nfL, cleanL, Bool.and_eq_true] at hc; exact hc.1
    obtain ⟨v, q1, q2, q3, q4⟩ := vSlc_nf hx h1
    refine ⟨v, mx.isSome, by rw [e_slc, q1]; cases mx <;> rfl, q2, q3, fun h => .inl h, fun _ => q4⟩
  case bsl sz xs' =>
    obtain ⟨rfl, rfl, rfl⟩ := hp
    subst hy
    simp only [evp] at hz
    split at hz
    · rename_i hf
      cases hz
      rw [fits_nf'] at hf
      exact ⟨.sl false sz (xs'.map (evO s.tm)), true, by rw [e_bsl, if_pos hf]; rfl, rfl, by simpa [V.clean] using hc, fun _ => .inl rfl, fun _ => rfl⟩
    · cases hz
  case mks sz z0 l c =>
    obtain ⟨rfl, rfl, rfl⟩ := hp
    subst hy
    simp only [List.map_cons, List.map_nil, nfL, evp, Option.map_eq_some_iff] at hz
    obtain ⟨r, hr, rfl⟩ := hz
    have h1 : vMks sz (evO s.tm l) (evO s.tm c) = some r ∧ r = ⟨.sl false sz [], true, none⟩ := by
      unfold vMks at hr
      split at hr
      · rename_i e1 e2; rw [nf_int e1, nf_int e2]
        refine ⟨hr, ?_⟩
        split at hr
        · cases hr; rfl
        · cases hr
      · cases hr
    obtain ⟨h1, rfl⟩ := h1
    exact ⟨_, true, by rw [e_mks, h1]; rfl, rfl, rfl, fun _ => .inl rfl, fun _ => rfl⟩
  case s2b x =>
    obtain ⟨rfl, rfl, rfl⟩ := hp
    subst hy
    simp only [List.map_cons, List.map_nil, nfL, evp, Option.map_eq_some_iff] at hz
    obtain ⟨r, hr, rfl⟩ := hz
    unfold vS2b at hr
    split at hr
    · rename_i b e
      cases hr
      exact ⟨.sl false 1 (encB b), true, by rw [e_s2b, nf_str e]; rfl, by show V.sl false 1 (nfL (encB b)) = _; rw [nf_encB], cleanL_encB' b, fun _ => .inl rfl, fun _ => rfl⟩
    · cases hr
  case b2s x =>
    obtain ⟨rfl, rfl, rfl⟩ := hp
    subst hy
    simp only [List.map_cons, List.map_nil, nfL, evp] at hz
    unfold vB2s at hz
    split at hz
    · rename_i nl xs e
      obtain ⟨_, nl', ys, he, rfl, _⟩ := nf_sl' e
      simp only [Option.map_eq_some_iff] at hz
      obtain ⟨b, hb, rfl⟩ := hz
      exact ⟨.str b, false, by rw [e_b2s, he]; simp [vB2s, toBytes_nf hb], rfl, rfl, fun h => (nomatch h), fun _ => rfl⟩
    · simp [hCells, noH] at hz
    · cases hz
  case i2i k x =>
    obtain ⟨rfl, rfl, rfl⟩ := hp
    subst hy
    simp only [List.map_cons, List.map_nil, nfL, evp] at hz
    unfold vI2i at hz
    split at hz
    · rename_i e
      cases hz
      exact ⟨_, false, by rw [e_i2i, nf_int e]; rfl, rfl, rfl, fun h => (nomatch h), fun _ => rfl⟩
    · cases hz
  case s2s x =>
    obtain ⟨rfl, rfl, rfl⟩ := hp
    subst hy
    simp only [List.map_cons, List.map_nil, nfL, evp] at hz
    unfold vS2s at hz
    split at hz
    · rename_i e
      cases hz
      exact ⟨_, false, by rw [e_s2s, nf_str e]; rfl, rfl, rfl, fun h => (nomatch h), fun _ => rfl⟩
    · cases hz
  case mkf f xs' =>
    obtain ⟨rfl, rfl, rfl⟩ := hp
    subst hy
    simp only [evp, Option.some.injEq] at hz
    subst hz
    exact ⟨.fn f (xs'.map (evO s.tm)), false, e_mkf f xs', rfl, by simpa [V.clean] using hc, fun h => (nomatch h), fun _ => rfl⟩
end Go.Abs
/-
  Y, part 4: how what is known of a state stands to the state. Own work of this seat.
-/
namespace Go.Abs

/-! ## what is known -/
def fnV (m : Bool) (f : Nat) (cs : List V) : V := match m with | true => .mfn f cs | false => .fn f cs
def PsS (ι : List Nat) : List (Nat × Nat) → List V → Prop
  | [], cs => cs = []
  | p :: ps, cs => ∃ id cs', ι[p.1]? = some id ∧ cs = .ptr id p.2 :: cs' ∧ PsS ι ps cs'
def AtS (ι : List Nat) (vs : List V) (a : At) (v : V) (o : Bool) : Prop :=
  match a with
  | .c w own => v.nf = w ∧ w.clean = true ∧ (own = true → ∃ sz, v = .sl true sz [])
  | .n i own sc => vs[i]? = some v.nf ∧ (own = true → Own v o) ∧ (sc = true → v.sc = true)
  | .ptr k off => ∃ id, ι[k]? = some id ∧ v = .ptr id off
  | .ptd k base i sz => ∃ id kd j, ι[k]? = some id ∧ vs[i]? = some (.int kd j) ∧ v = .ptr id (base + j.toNat * sz)
  | .gp g off => v = .gp g off
  | .gpd g base i sz => ∃ kd j, vs[i]? = some (.int kd j) ∧ v = .gp g (base + j.toNat * sz)
  | .el i off => ∃ x, vs[i]? = some x ∧ v.nf = .el x.cells off
  | .osl k off len cap sz => ∃ id, ι[k]? = some id ∧ v = .osl id off len cap sz
  | .fp m f ps => ∃ cs, v = fnV m f cs ∧ PsS ι ps cs
  | .nil => v = Nil
/-- an atom's value -/
def AtV (vs : List V) (a : At) (w : V) : Prop :=
  match a with
  | .c v _ => v = w ∧ v.clean = true
  | .n i _ _ => vs[i]? = some w
  | _ => False
def SegsS (ι : List Nat) (vs : List V) : List Seg → List V → (Nat → Bool) → Nat → Prop
  | [], cs, _, _ => cs = []
  | .one a :: r, cs, ow, j => ∃ c cs', cs = c :: cs' ∧ AtS ι vs a c (ow j) ∧ c.sc = true ∧ SegsS ι vs r cs' ow (j + 1)
  | .many n a :: r, cs, ow, j => ∃ l cs' w, cs = l ++ cs' ∧ (∀ m, n = some m → l.length = m) ∧ (n = none → r = []) ∧ l.all V.sc = true ∧ AtV vs a w ∧ nfL l = w.cells ∧ SegsS ι vs r cs' ow (j + l.length)
def AtsS (ι : List Nat) (vs : List V) : List At → List V → Prop
  | [], ws => ws = []
  | a :: az, ws => ∃ w ws', ws = w :: ws' ∧ AtS ι vs a w false ∧ AtsS ι vs az ws'
def SyS (ι : List Nat) (vs : List V) (y : Sy) (v : V) (o : Bool) : Prop :=
  match y with
  | .at a => AtS ι vs a v o
  | .agg ss z => (∃ cs, v = .agg cs ∧ SegsS ι vs ss cs (fun _ => false) 0) ∧ ∀ i, z = some i → vs[i]? = some v.nf
  | .tup az => ∃ ws, v = .tup ws ∧ AtsS ι vs az ws

/-- what was given: objects; how all objects were then -/
structure Fc where
  ids : List Nat
  hs : HS
/-- what was not given is as it was -/
def Frame (c : Fc) (H : Hp) (co : Nat → Nat → Bool) : Prop := ∀ id, id < c.hs.nH → id ∉ c.ids → H id = c.hs.H id ∧ ∀ j, co id j = c.hs.co id j
structure Sat (c : Fc) (S : PS V) (ι : List Nat) (s : St) : Prop where
  tm : ∀ t y, S.get t = some y → SyS ι S.vals y (s.tm t) (s.own (.slot t))
  ob : ∀ k ss, S.obj k = some ss → ∃ id cs, ι[k]? = some id ∧ hCells s.H id = some cs ∧ SegsS ι S.vals ss cs (fun j => s.own (.cell id j)) 0
  nd : ι.Nodup
  lt : ∀ id ∈ ι, id < s.nH
  len : ι.length = S.ob.length
  lits : ∀ i b, lk S.lits i = some b → S.vals[i]? = some (.bool b)
  cln : ∀ x ∈ S.vals, x.clean = true
  g : c.ids.length = S.g
  pre : ∀ (k id : Nat), c.ids[k]? = some id → ι[k]? = some id
  new : ∀ (k id : Nat), ι[k]? = some id → S.g ≤ k → c.hs.nH ≤ id
  nH : c.hs.nH ≤ s.nH
  fr : Frame c s.H fun i j => s.own (.cell i j)

/-! ## more may be known -/
def Pre (vs vs' : List V) : Prop := ∀ (i : Nat) (x : V), vs[i]? = some x → vs'[i]? = some x
def PreN (ι ι' : List Nat) : Prop := ∀ (i x : Nat), ι[i]? = some x → ι'[i]? = some x
theorem Pre.refl (vs : List V) : Pre vs vs := fun _ _ h => h
theorem PreN.refl (vs : List Nat) : PreN vs vs := fun _ _ h => h
theorem Pre.trans {a b c : List V} (h : Pre a b) (k : Pre b c) : Pre a c := fun i x hi => k i x (h i x hi)
theorem Pre.app (a b : List V) : Pre a (a ++ b) := fun i x hi => by
  rw [List.getElem?_append_left (List.getElem?_eq_some_iff.1 hi).1]; exact hi
theorem PreN.app (a b : List Nat) : PreN a (a ++ b) := fun i x hi => by
  rw [List.getElem?_append_left (List.getElem?_eq_some_iff.1 hi).1]; exact hi

theorem PsS.mono {ι ι' : List Nat} (h1 : PreN ι ι') : ∀ {ps : List (Nat × Nat)} {cs : List V}, PsS ι ps cs → PsS ι' ps cs
  | [], _, h => h
  | _ :: _, _, ⟨id, cs', h3, h4, h5⟩ => ⟨id, cs', h1 _ _ h3, h4, PsS.mono h1 h5⟩
theorem AtS.mono {ι ι' : List Nat} {vs vs' : List V} (h1 : PreN ι ι') (h2 : Pre vs vs') {a : At} {v : V} {o : Bool} (h : AtS ι vs a v o) : AtS ι' vs' a v o := by
  cases a with
  | c w own => exact h
  | n i own sc => exact ⟨h2 _ _ h.1, h.2⟩
  | ptr k off => obtain ⟨id, h3, h4⟩ := h; exact ⟨id, h1 _ _ h3, h4⟩
  | ptd k b i sz => obtain ⟨id, kd, j, h3, h4, h5⟩ := h; exact ⟨id, kd, j, h1 _ _ h3, h2 _ _ h4, h5⟩
  | gp g off => exact h
  | gpd g b i sz => obtain ⟨kd, j, h4, h5⟩ := h; exact ⟨kd, j, h2 _ _ h4, h5⟩
  | fp m f ps => obtain ⟨cs, h3, h4⟩ := h; exact ⟨cs, h3, h4.mono h1⟩
  | el i off => obtain ⟨x, h3, h4⟩ := h; exact ⟨x, h2 _ _ h3, h4⟩
  | osl k off n c sz => obtain ⟨id, h3, h4⟩ := h; exact ⟨id, h1 _ _ h3, h4⟩
  | nil => exact h
theorem AtV.mono {vs vs' : List V} (h2 : Pre vs vs') {a : At} {v : V} (h : AtV vs a v) : AtV vs' a v := by
  cases a <;> first | exact h | exact h2 _ _ h
theorem SegsS.mono {ι ι' : List Nat} {vs vs' : List V} (h1 : PreN ι ι') (h2 : Pre vs vs') {ow : Nat → Bool} : ∀ {ss : List Seg} {cs : List V} {j : Nat}, SegsS ι vs ss cs ow j → SegsS ι' vs' ss cs ow j
  | [], _, _, h => h
  | .one a :: r, _, _, ⟨c, cs', e, h3, h4, h5⟩ => ⟨c, cs', e, h3.mono h1 h2, h4, SegsS.mono h1 h2 h5⟩
  | .many n a :: r, _, _, ⟨l, cs', w, e, h3, h4, h5, h6, h7, h8⟩ => ⟨l, cs', w, e, h3, h4, h5, h6.mono h2, h7, SegsS.mono h1 h2 h8⟩
theorem AtsS.mono {ι ι' : List Nat} {vs vs' : List V} (h1 : PreN ι ι') (h2 : Pre vs vs') : ∀ {az : List At} {ws : List V}, AtsS ι vs az ws → AtsS ι' vs' az ws
  | [], _, h => h
  | _ :: _, _, ⟨w, ws', e, h3, h4⟩ => ⟨w, ws', e, h3.mono h1 h2, AtsS.mono h1 h2 h4⟩
theorem SyS.mono {ι ι' : List Nat} {vs vs' : List V} (h1 : PreN ι ι') (h2 : Pre vs vs') {y : Sy} {v : V} {o : Bool} (h : SyS ι vs y v o) : SyS ι' vs' y v o := by
  cases y with
  | «at» a => exact AtS.mono h1 h2 h
  | agg ss z =>
    obtain ⟨⟨cs, e, h3⟩, h4⟩ := h
    exact ⟨⟨cs, e, h3.mono h1 h2⟩, fun i hi => h2 _ _ (h4 i hi)⟩
  | tup az => obtain ⟨ws, e, h3⟩ := h; exact ⟨ws, e, h3.mono h1 h2⟩

/-! ## without the right to append -/
theorem AtS.noOwn {ι : List Nat} {vs : List V} {a : At} {v : V} {o : Bool} (h : AtS ι vs a v o) (o' : Bool) : AtS ι vs a.noOwn v o' := by
  cases a <;> first | exact h | exact ⟨h.1, fun h => (nomatch h), h.2.2⟩
theorem AtV.noOwn {vs : List V} {a : At} {v : V} (h : AtV vs a v) : AtV vs a.noOwn v := by cases a <;> exact h
theorem SegsS.noOwn {ι : List Nat} {vs : List V} {ow : Nat → Bool} (ow' : Nat → Bool) (j' : Nat) : ∀ {ss : List Seg} {cs : List V} {j : Nat}, SegsS ι vs ss cs ow j → ∀ j', SegsS ι vs (ss.map Seg.noOwn) cs ow' j'
  | [], _, _, h, _ => h
  | .one a :: r, _, _, ⟨c, cs', e, h3, h4, h5⟩, _ => ⟨c, cs', e, h3.noOwn _, h4, SegsS.noOwn ow' j' h5 _⟩
  | .many n a :: r, _, _, ⟨l, cs', w, e, h3, h4, h5, h6, h7, h8⟩, _ => ⟨l, cs', w, e, h3, fun hn => by rw [h4 hn]; rfl, h5, h6.noOwn, h7, SegsS.noOwn ow' j' h8 _⟩
theorem AtsS.noOwn {ι : List Nat} {vs : List V} : ∀ {az : List At} {ws : List V}, AtsS ι vs az ws → AtsS ι vs (az.map At.noOwn) ws
  | [], _, h => h
  | _ :: _, _, ⟨w, ws', e, h3, h4⟩ => ⟨w, ws', e, h3.noOwn _, AtsS.noOwn h4⟩
theorem SyS.noOwn {ι : List Nat} {vs : List V} {y : Sy} {v : V} {o : Bool} (h : SyS ι vs y v o) (o' : Bool) : SyS ι vs y.noOwn v o' := by
  cases y with
  | «at» a => exact AtS.noOwn h o'
  | agg ss z =>
    obtain ⟨⟨cs, e, h3⟩, h4⟩ := h
    exact ⟨⟨cs, e, h3.noOwn _ 0 _⟩, h4⟩
  | tup az => obtain ⟨ws, e, h3⟩ := h; exact ⟨ws, e, h3.noOwn⟩
theorem SegsS.ow {ι : List Nat} {vs : List V} {ow ow' : Nat → Bool} : ∀ {ss : List Seg} {cs : List V} {j : Nat}, SegsS ι vs ss cs ow j → (∀ i, j ≤ i → i < j + cs.length → ow' i = ow i) → SegsS ι vs ss cs ow' j
  | [], _, _, h, _ => h
  | .one a :: r, _, _, ⟨c, cs', e, h3, h4, h5⟩, ho => by
    subst e
    refine ⟨c, cs', rfl, ?_, h4, SegsS.ow h5 fun i h6 h7 => ho i (by omega) (by simp; omega)⟩
    rw [ho _ (by omega) (by simp)]; exact h3
  | .many n a :: r, _, _, ⟨l, cs', w, e, h3, h4, h5, h6, h7, h8⟩, ho => by
    subst e
    exact ⟨l, cs', w, rfl, h3, h4, h5, h6, h7, SegsS.ow h8 fun i h9 h10 => ho i (by omega) (by simp; omega)⟩
theorem AtS.owned {ι : List Nat} {vs : List V} {a : At} {v : V} {o : Bool} (h : AtS ι vs a v o) (ho : a.owned = true) : Own v o := by
  cases a <;> simp [At.owned] at ho
  · obtain ⟨sz, e⟩ := h.2.2 ho; exact .inr ⟨sz, e⟩
  · exact h.2.1 ho
theorem AtS.one {ι : List Nat} {vs : List V} {a : At} {v : V} {o : Bool} (h : AtS ι vs a v o) (ho : a.one = true) : v.sc = true := by
  cases a <;> simp [At.one] at ho
  · rw [← nf_sc, h.1]; exact ho
  · exact h.2.2 ho
  · obtain ⟨id, _, e⟩ := h; rw [e]; rfl
  · rw [show v = _ from h]; rfl
  · obtain ⟨cs, e, _⟩ := h; rw [e]; unfold fnV; split <;> rfl

/-! ## reading -/
variable {c : Fc} {ι : List Nat} {s : St} {S : PS V}
theorem lk_cons {α : Type} (k : Nat) (a : α) (l : List (Nat × α)) (t : Nat) : lk ((k, a) :: l) t = if k = t then some a else lk l t := by
  unfold lk
  cases h : Nat.beq k t with
  | true => rw [if_pos (Nat.eq_of_beq_eq_true h)]
  | false => rw [if_neg (Nat.ne_of_beq_eq_false h)]; cases l <;> rfl
theorem get_put {X : Type} (S : PS X) (d : Option Nat) (y : Sy) (t : Nat) : (S.put d y).get t = if d = some t then some y else S.get t := by
  cases d with
  | none => simp [PS.put]
  | some d => simp only [PS.put, PS.get, lk_cons, Option.some.injEq]

theorem constAt_ok {v : V} {a : At} (h : constAt v = some a) (o : Bool) (vs : List V) : AtS ι vs a v o := by
  unfold constAt at h
  split at h
  · cases h; rfl
  · split at h
    · rename_i hc
      cases h
      refine ⟨rfl, ?_, fun h => ?_⟩
      · exact hc
      · unfold V.isNilSl at h
        split at h
        · exact ⟨_, rfl⟩
        · cases h
    · cases h
theorem Sat.opd (h : Sat c S ι s) {x : Opd} {y : Sy} (hx : S.opd x = some y) : SyS ι S.vals y (evO s.tm x) (ownO s.own x) := by
  cases x with
  | tmp t => exact h.tm t y hx
  | const v =>
    simp only [PS.opd, Option.map_eq_some_iff] at hx
    obtain ⟨a, ha, rfl⟩ := hx
    exact constAt_ok ha _ _

theorem Sat.valV {a : At} {w x : V} (h : Sat c S ι s) (ha : AtV S.vals a w) {Γ : Gam} {f : Nat} (hx : S.valA (BV Γ f) a = some x) : x = w ∧ x.clean = true := by
  cases a with
  | c v o =>
    simp only [PS.valA, Option.some.injEq] at hx
    subst hx; exact ha
  | n i o sc =>
    simp only [PS.valA] at hx
    split at hx
    · rename_i b hb
      have := h.lits i b hb
      rw [show S.vals[i]? = some w from ha] at this
      cases hx; cases this; exact ⟨rfl, rfl⟩
    · rw [show S.vals[i]? = some w from ha] at hx
      cases hx; exact ⟨rfl, h.cln _ (List.mem_of_getElem? ha)⟩
  | _ => exact ha.elim
theorem AtS.toV {vs : List V} {a : At} {v : V} {o : Bool} (h : AtS ι vs a v o) {X : Type} {D : Type} {B : Bld X D} {S' : PS X} {x : X} (hx : S'.valA B a = some x) : AtV vs a v.nf := by
  cases a <;> simp [PS.valA] at hx
  · exact ⟨h.1.symm, h.2.1⟩
  · exact h.1
theorem Sat.val {a : At} {v x : V} {o : Bool} (h : Sat c S ι s) (ha : AtS ι S.vals a v o) {Γ : Gam} {f : Nat} (hx : S.valA (BV Γ f) a = some x) : x = v.nf ∧ x.clean = true := h.valV (ha.toV hx) hx

/-- what is told to k of a state -/
structure Ext (S S' : PS V) : Prop where
  tm : S'.tm = S.tm
  ob : S'.ob = S.ob
  lits : S'.lits = S.lits
  vals : ∃ l, S'.vals = S.vals ++ l
  g : S'.g = S.g
theorem Ext.refl (S : PS V) : Ext S S := ⟨rfl, rfl, rfl, ⟨[], by simp⟩, rfl⟩
theorem Ext.trans {A B C : PS V} (h : Ext A B) (k : Ext B C) : Ext A C := ⟨k.tm.trans h.tm, k.ob.trans h.ob, k.lits.trans h.lits, by
  obtain ⟨l, hl⟩ := h.vals; obtain ⟨m, hm⟩ := k.vals; exact ⟨l ++ m, by rw [hm, hl]; simp⟩, k.g.trans h.g⟩
theorem Ext.pre {S S' : PS V} (h : Ext S S') : Pre S.vals S'.vals := by obtain ⟨l, hl⟩ := h.vals; rw [hl]; exact .app _ _
theorem Ext.get {S S' : PS V} (h : Ext S S') (t : Nat) : S'.get t = S.get t := by simp only [PS.get, h.tm]
theorem Ext.obj {S S' : PS V} (h : Ext S S') (t : Nat) : S'.obj t = S.obj t := by simp only [PS.obj, h.ob]
theorem Ext.opd {S S' : PS V} (h : Ext S S') (x : Opd) : S'.opd x = S.opd x := by cases x <;> simp only [PS.opd, h.get]
theorem Ext.push (S : PS V) (x : V) : Ext S (S.push x) := ⟨rfl, rfl, rfl, ⟨[x], rfl⟩, rfl⟩
theorem push_get (S : PS V) (x : V) : (S.push x).vals[S.nx]? = some x := by simp [PS.push, PS.nx]
theorem Sat.ext {S' : PS V} (h : Sat c S ι s) (he : Ext S S') (hc : ∀ x ∈ S'.vals, x.clean = true) : Sat c S' ι s where
  tm t y hy := by rw [he.get] at hy; exact (h.tm t y hy).mono (.refl _) he.pre
  ob k ss hk := by
    rw [he.obj] at hk
    obtain ⟨id, cs, h1, h2, h3⟩ := h.ob k ss hk
    exact ⟨id, cs, h1, h2, h3.mono (.refl _) he.pre⟩
  nd := h.nd
  lt := h.lt
  len := by rw [he.ob]; exact h.len
  lits i b hb := by rw [he.lits] at hb; exact he.pre _ _ (h.lits i b hb)
  cln := hc
  g := by rw [he.g]; exact h.g
  pre := h.pre
  new := by rw [he.g]; exact h.new
  nH := h.nH
  fr := h.fr
theorem Sat.push (h : Sat c S ι s) {x : V} (hx : x.clean = true) : Sat c (S.push x) ι s := h.ext (.push S x) fun y hy => by
  rcases List.mem_append.1 hy with hy | hy
  · exact h.cln y hy
  · simp at hy; rw [hy]; exact hx

theorem catV_nf : ∀ {ns : List (Option Nat)} {xs l : List V}, catV ns xs = some l → cleanL xs = true → cleanL l = true
  | [], [], l, h, _ => by cases h; rfl
  | none :: ns, x :: xs, l, h, hc => by
    simp only [catV] at h
    split at h
    · simp only [Option.map_eq_some_iff] at h
      obtain ⟨m, h1, rfl⟩ := h
      simp only [cleanL, Bool.and_eq_true] at hc ⊢
      exact ⟨hc.1, catV_nf h1 hc.2⟩
    · cases h
  | some n :: ns, x :: xs, l, h, hc => by
    simp only [catV] at h
    split at h
    · simp only [Option.map_eq_some_iff] at h
      obtain ⟨m, h1, rfl⟩ := h
      simp only [cleanL, Bool.and_eq_true] at hc
      exact clean_app (clean_cells hc.1) (catV_nf h1 hc.2)
    · cases h
  | [], _ :: _, _, h, _ => by cases h
  | none :: _, [], _, h, _ => by cases h
  | some _ :: _, [], _, h, _ => by cases h

/-- segments' values, put together, are the cells -/
theorem Sat.segVals (h : Sat c S ι s) {Γ : Gam} {f : Nat} {ow : Nat → Bool} : ∀ {ss : List Seg} {cs : List V} {j : Nat} {ns : List (Option Nat)} {xs l : List V}, SegsS ι S.vals ss cs ow j → segVals (BV Γ f) S ss = some (ns, xs) → catV ns xs = some l →
    nfL cs = l ∧ cleanL xs = true
  | [], _, _, _, _, _, h1, h2, h3 => by
    simp only [Abs.segVals, Option.some.injEq, Prod.mk.injEq] at h2
    obtain ⟨rfl, rfl⟩ := h2
    cases h3
    rw [show _ = [] from h1]; exact ⟨rfl, rfl⟩
  | .one a :: r, _, _, _, _, _, ⟨c, cs', e, q1, q2, q3⟩, h2, h3 => by
    simp only [Abs.segVals] at h2
    split at h2
    · rename_i x _ ns xs hx hr
      cases h2
      simp only [catV] at h3
      split at h3
      · simp only [Option.map_eq_some_iff] at h3
        obtain ⟨m, h4, rfl⟩ := h3
        obtain ⟨q4, q5⟩ := h.segVals q3 hr h4
        obtain ⟨rfl, q6⟩ := h.val q1 hx
        subst e
        exact ⟨by rw [nfL, q4], by simp only [cleanL, q6, q5, Bool.and_self]⟩
      · cases h3
    · cases h2
  | .many (some n) a :: r, _, _, _, _, _, ⟨l', cs', w, e, q1, q2, q3, q4, q5, q6⟩, h2, h3 => by
    simp only [Abs.segVals] at h2
    split at h2
    · rename_i x _ ns xs hx hr
      cases h2
      simp only [catV] at h3
      split at h3
      · simp only [Option.map_eq_some_iff] at h3
        obtain ⟨m, h4, rfl⟩ := h3
        obtain ⟨q7, q8⟩ := h.segVals q6 hr h4
        obtain ⟨rfl, q9⟩ := h.valV q4 hx
        subst e
        exact ⟨by rw [nfL_append, q7, q5], by simp only [cleanL, q9, q8, Bool.and_self]⟩
      · cases h3
    · cases h2
  | .many none a :: r, _, _, _, _, _, _, h2, _ => by simp [Abs.segVals] at h2

/-- A SLOT'S VALUE. -/
theorem Sat.mat (h : Sat c S ι s) {Γ : Gam} {f : Nat} {y : Sy} {v : V} {o : Bool} (hy : SyS ι S.vals y v o) {k : V → PS V → Option V} {r : V} (hk : mat (BV Γ f) S (some y) k = some r) :
    ∃ S', k v.nf S' = some r ∧ Sat c S' ι s ∧ Ext S S' ∧ v.nf.clean = true := by
  cases y with
  | «at» a =>
    simp only [Abs.mat] at hk
    split at hk
    · rename_i x hx
      obtain ⟨rfl, hc⟩ := h.val hy hx
      exact ⟨S, hk, h, .refl S, hc⟩
    · cases hk
  | agg ss z =>
    obtain ⟨⟨cs, rfl, h3⟩, h4⟩ := hy
    cases z with
    | some z =>
      simp only [Abs.mat, h4 z rfl] at hk
      exact ⟨S, hk, h, .refl S, h.cln _ (List.mem_of_getElem? (h4 z rfl))⟩
    | none =>
      simp only [Abs.mat] at hk
      split at hk
      · rename_i ns xs hs
        simp only [BV, evp, Option.bind_eq_some_iff, Option.map_eq_some_iff] at hk
        obtain ⟨x, ⟨l, hl, rfl⟩, hk⟩ := hk
        obtain ⟨rfl, hc⟩ := h.segVals h3 hs hl
        have hx : (V.agg cs).nf.clean = true := by show cleanL (nfL cs) = true; exact catV_nf hl hc
        exact ⟨S.push (V.agg (nfL cs)), hk, h.push hx, .push _ _, hx⟩
      · cases hk
  | tup az => simp only [Abs.mat, BV, reduceCtorEq] at hk
theorem Sat.matL {Γ : Gam} {f : Nat} {r : V} : ∀ {xs : List Opd} {S : PS V} {k : List V → PS V → Option V}, Sat c S ι s → matL (BV Γ f) S xs k = some r →
    ∃ ys S', k ys S' = some r ∧ Sat c S' ι s ∧ Ext S S' ∧ nfL (xs.map (evO s.tm)) = ys ∧ cleanL ys = true
  | [], S, k, h, hk => ⟨[], S, hk, h, .refl S, rfl, rfl⟩
  | o :: xs, S, k, h, hk => by
    simp only [Abs.matL] at hk
    cases ho : S.opd o with
    | none => rw [ho] at hk; cases hk
    | some y =>
      rw [ho] at hk
      obtain ⟨S1, h1, h2, h3, h4⟩ := h.mat (h.opd ho) hk
      obtain ⟨ys, S2, h5, h6, h7, h8, h9⟩ := Sat.matL h2 h1
      refine ⟨_, S2, h5, h6, h3.trans h7, ?_, ?_⟩
      · simp only [List.map_cons, nfL, h8]
      · simp only [cleanL, h4, h9, Bool.and_self]

/-! ## writing a slot -/
theorem Sat.put (h : Sat c S ι s) (d : Option Nat) {y : Sy} {v : V} {o : Bool} (hy : SyS ι S.vals y v o) : Sat c (S.put d y) ι (s.put d v o) where
  tm t z hz := by
    rw [get_put] at hz
    have hv : (S.put d y).vals = S.vals := by cases d <;> rfl
    rw [hv]
    cases d with
    | none => simp only [reduceCtorEq, if_false] at hz; exact h.tm t z hz
    | some d =>
      by_cases e : d = t
      · subst e
        simp only [if_true, Option.some.injEq] at hz
        subst hz
        rw [put_tm, put_own, if_pos rfl, if_pos rfl]; exact hy
      · simp only [Option.some.injEq, e, if_false] at hz
        rw [put_tm, put_own, if_neg (Ne.symm e), if_neg (Ne.symm e)]; exact h.tm t z hz
  ob k ss hk := by
    have e : (S.put d y).obj k = S.obj k := by cases d <;> rfl
    have hv : (S.put d y).vals = S.vals := by cases d <;> rfl
    rw [e] at hk
    obtain ⟨id, cs, h1, h2, h3⟩ := h.ob k ss hk
    refine ⟨id, cs, h1, by cases d <;> exact h2, ?_⟩
    rw [hv]
    cases d with
    | none => exact h3
    | some d => simpa only [put_ownc] using h3
  nd := h.nd
  lt id hid := by have := h.lt id hid; cases d <;> exact this
  len := by cases d <;> exact h.len
  lits i b hb := by cases d <;> exact h.lits i b hb
  cln x hx := by cases d <;> exact h.cln x hx
  g := by cases d <;> exact h.g
  pre := h.pre
  new := by cases d <;> exact h.new
  nH := by cases d <;> exact h.nH
  fr id h1 h2 := by cases d <;> exact h.fr id h1 h2
end Go.Abs
/-
  Y, part 5: objects as segments. Own work of this seat.
-/
namespace Go.Abs

section
variable {ι : List Nat} {vs : List V}
theorem SegsS.shift {ow ow' : Nat → Bool} : ∀ {ss : List Seg} {cs : List V} {j j' : Nat}, SegsS ι vs ss cs ow j → (∀ i, i < cs.length → ow' (j' + i) = ow (j + i)) → SegsS ι vs ss cs ow' j'
  | [], _, _, _, h, _ => h
  | .one a :: r, _, j, j', ⟨c, cs', e, h3, h4, h5⟩, ho => by
    subst e
    refine ⟨c, cs', rfl, ?_, h4, SegsS.shift h5 fun i h6 => ?_⟩
    · have := ho 0 (by simp); simp only [Nat.add_zero] at this; rw [this]; exact h3
    · have := ho (i + 1) (by simp; omega); rw [show j' + 1 + i = j' + (i + 1) by omega, this, show j + 1 + i = j + (i + 1) by omega]
  | .many n a :: r, _, j, j', ⟨l, cs', w, e, h3, h4, h5, h6, h7, h8⟩, ho => by
    subst e
    refine ⟨l, cs', w, rfl, h3, h4, h5, h6, h7, SegsS.shift h8 fun i h9 => ?_⟩
    have := ho (l.length + i) (by simp; omega); rw [show j' + l.length + i = j' + (l.length + i) by omega, this, show j + l.length + i = j + (l.length + i) by omega]
theorem SegsS.all_sc {ow : Nat → Bool} : ∀ {ss : List Seg} {cs : List V} {j : Nat}, SegsS ι vs ss cs ow j → cs.all V.sc = true
  | [], _, _, h => by rw [show _ = [] from h]; rfl
  | .one a :: r, _, _, ⟨c, cs', e, h3, h4, h5⟩ => by subst e; simp only [List.all_cons, h4, SegsS.all_sc h5, Bool.and_self]
  | .many n a :: r, _, _, ⟨l, cs', w, e, h3, h4, h5, h6, h7, h8⟩ => by subst e; rw [List.all_append, h5, SegsS.all_sc h8]; rfl

def sized (ss : List Seg) : Prop := ∀ s ∈ ss, s.len.isSome = true
theorem SegsS.app {ow : Nat → Bool} {q : List Seg} {cq : List V} : ∀ {p : List Seg} {cp : List V} {j : Nat}, (sized p ∨ q = []) → SegsS ι vs p cp ow j → SegsS ι vs q cq ow (j + cp.length) → SegsS ι vs (p ++ q) (cp ++ cq) ow j
  | [], _, _, _, h, k => by rw [show _ = [] from h] at k ⊢; exact k
  | .one a :: r, _, j, hz, ⟨c, cs', e, h3, h4, h5⟩, k => by
    subst e
    refine ⟨c, cs' ++ cq, rfl, h3, h4, SegsS.app ?_ h5 (by rw [show j + 1 + cs'.length = j + (c :: cs').length by simp; omega]; exact k)⟩
    rcases hz with hz | hz
    · exact .inl fun s hs => hz s (List.mem_cons_of_mem _ hs)
    · exact .inr hz
  | .many n a :: r, _, j, hz, ⟨l, cs', w, e, h3, h4, h5, h6, h7, h8⟩, k => by
    subst e
    refine ⟨l, cs' ++ cq, w, by simp, h3, fun hn => ?_, h5, h6, h7, SegsS.app ?_ h8 (by rw [show j + l.length + cs'.length = j + (l ++ cs').length by simp; omega]; exact k)⟩
    · rcases hz with hz | hz
      · have := hz (.many n a) (by simp); rw [hn] at this; simp [Seg.len] at this
      · rw [h4 hn, hz]; rfl
    · rcases hz with hz | hz
      · exact .inl fun s hs => hz s (List.mem_cons_of_mem _ hs)
      · exact .inr hz
theorem SegsS.split {ow : Nat → Bool} {q : List Seg} : ∀ {p : List Seg} {cs : List V} {j : Nat}, SegsS ι vs (p ++ q) cs ow j → ∃ cp cq, cs = cp ++ cq ∧ SegsS ι vs p cp ow j ∧ SegsS ι vs q cq ow (j + cp.length)
  | [], cs, j, h => ⟨[], cs, rfl, rfl, h⟩
  | .one a :: r, _, j, ⟨c, cs', e, h3, h4, h5⟩ => by
    obtain ⟨cp, cq, e2, k1, k2⟩ := SegsS.split h5
    subst e; subst e2
    exact ⟨c :: cp, cq, rfl, ⟨c, cp, rfl, h3, h4, k1⟩, by rw [show j + (c :: cp).length = j + 1 + cp.length by simp; omega]; exact k2⟩
  | .many n a :: r, _, j, ⟨l, cs', w, e, h3, h4, h5, h6, h7, h8⟩ => by
    obtain ⟨cp, cq, e2, k1, k2⟩ := SegsS.split h8
    subst e; subst e2
    exact ⟨l ++ cp, cq, by simp, ⟨l, cp, w, rfl, h3, fun hn => (List.append_eq_nil_iff.1 (h4 hn)).1, h5, h6, h7, k1⟩, by rw [show j + (l ++ cp).length = j + l.length + cp.length by simp; omega]; exact k2⟩
/-- how many cells a segment of known length has -/
theorem SegsS.len1 {ow : Nat → Bool} {sg : Seg} {cs : List V} {j n : Nat} (h : SegsS ι vs [sg] cs ow j) (hn : sg.len = some n) : cs.length = n := by
  cases sg with
  | one a =>
    obtain ⟨c, cs', e, _, _, h5⟩ := h
    rw [show cs' = [] from h5] at e; subst e
    simpa [Seg.len] using hn
  | many m a =>
    obtain ⟨l, cs', w, e, h3, _, _, _, _, h8⟩ := h
    rw [show cs' = [] from h8] at e; subst e
    simp only [Seg.len] at hn
    simpa using h3 n hn

theorem segAt_ok {ow : Nat → Bool} : ∀ {ss : List Seg} {cs : List V} {j off i0 : Nat} {sg : Seg} {r i : Nat}, SegsS ι vs ss cs ow j → segAt ss off i0 = some (sg, r, i) →
    ∃ p q cp cg cq, ss = p ++ sg :: q ∧ i = i0 + p.length ∧ cs = cp ++ (cg ++ cq) ∧ off = cp.length + r ∧ sized p ∧ SegsS ι vs p cp ow j ∧ SegsS ι vs [sg] cg ow (j + cp.length) ∧ SegsS ι vs q cq ow (j + cp.length + cg.length) ∧ (sg.len = none → q = [])
  | [], _, _, _, _, _, _, _, _, h => by cases h
  | s :: ss, cs, j, off, i0, sg, r, i, h, hs => by
    obtain ⟨c1, c2, e, h1, h2⟩ := SegsS.split (p := [s]) (q := ss) h
    have hno : s.len = none → ss = [] := fun hn => by
      cases s with
      | one a => cases hn
      | many n a => obtain ⟨_, _, _, _, _, h4, _⟩ := h; exact h4 hn
    have here : s = sg → off = r → i0 = i → ∃ p q cp cg cq, s :: ss = p ++ sg :: q ∧ i = i0 + p.length ∧ cs = cp ++ (cg ++ cq) ∧ off = cp.length + r ∧ sized p ∧ SegsS ι vs p cp ow j ∧ SegsS ι vs [sg] cg ow (j + cp.length) ∧ SegsS ι vs q cq ow (j + cp.length + cg.length) ∧ (sg.len = none → q = []) := fun e1 e2 e3 => ⟨[], ss, [], c1, c2, by rw [← e1]; rfl, by rw [e3]; rfl, e, by simp [e2], fun _ h => by (cases h), rfl, by rw [← e1]; exact h1, by simpa using h2, by rw [← e1]; exact hno⟩
    simp only [segAt] at hs
    split at hs
    · rename_i hn
      cases hs
      exact here rfl rfl rfl
    · rename_i n hn
      split at hs
      · cases hs; exact here rfl rfl rfl
      · rename_i hlt
        have hle : n ≤ off := by
          have : ¬ off < n := fun hlt' => by rw [show Nat.blt off n = true from Nat.ble_eq_true_of_le hlt'] at hlt; cases hlt
          omega
        have hl := h1.len1 hn
        obtain ⟨p, q, cp, cg, cq, q1, q2, q3, q4, q5, q6, q7, q8, q9⟩ := segAt_ok h2 hs
        subst q1; subst q3; subst e
        refine ⟨s :: p, q, c1 ++ cp, cg, cq, rfl, by simp; omega, by simp, by simp; omega, fun s' hs' => ?_, ?_, ?_, ?_, q9⟩
        · rcases List.mem_cons.1 hs' with rfl | hs'
          · rw [hn]; rfl
          · exact q5 s' hs'
        · exact SegsS.app (p := [s]) (.inl fun s' hs' => by simp at hs'; rw [hs', hn]; rfl) h1 q6
        · rw [show j + (c1 ++ cp).length = j + c1.length + cp.length by simp; omega]; exact q7
        · rw [show j + (c1 ++ cp).length = j + c1.length + cp.length by simp; omega]; exact q8
theorem segCount_ok {ow : Nat → Bool} : ∀ {ss : List Seg} {cs : List V} {j m q : Nat}, SegsS ι vs ss cs ow j → segCount ss m = some q →
    ∃ cp cq, cs = cp ++ cq ∧ cp.length = m ∧ sized (ss.take q) ∧ q ≤ ss.length ∧ SegsS ι vs (ss.take q) cp ow j ∧ SegsS ι vs (ss.drop q) cq ow (j + m)
  | ss, cs, j, 0, q, h, hq => by
    have : q = 0 := by cases ss <;> simp [segCount] at hq <;> exact hq.symm
    subst this
    exact ⟨[], cs, rfl, rfl, fun _ h => by (simp at h), Nat.zero_le _, rfl, by simpa using h⟩
  | [], _, _, _ + 1, _, _, hq => by cases hq
  | s :: ss, cs, j, m + 1, q, h, hq => by
    obtain ⟨c1, c2, e, h1, h2⟩ := SegsS.split (p := [s]) (q := ss) h
    simp only [segCount] at hq
    split at hq
    · rename_i n hn
      split at hq
      · rename_i hc
        simp only [Bool.and_eq_true] at hc
        have hc1 := Nat.le_of_ble_eq_true hc.1
        have hc2 := Nat.le_of_ble_eq_true hc.2
        simp only [Option.map_eq_some_iff] at hq
        obtain ⟨q', hq', rfl⟩ := hq
        have hl := h1.len1 hn
        obtain ⟨cp, cq, q1, q2, q3, q4, q5, q6⟩ := segCount_ok h2 hq'
        subst q1; subst e
        refine ⟨c1 ++ cp, cq, by simp, by simp; omega, fun s' hs' => ?_, by simp; omega, ?_, ?_⟩
        · simp only [List.take_succ_cons, List.mem_cons] at hs'
          rcases hs' with rfl | hs'
          · rw [hn]; rfl
          · exact q3 s' hs'
        · exact SegsS.app (p := [s]) (.inl fun s' hs' => by simp at hs'; rw [hs', hn]; rfl) h1 q5
        · simp only [List.drop_succ_cons]
          rw [show j + (m + 1) = j + c1.length + (m + 1 - n) by omega]; exact q6
      · cases hq
    · cases hq
/-- some segments are put for others, of as many cells -/
theorem spl_ok {ow ow' : Nat → Bool} {ss q : List Seg} {cs ys : List V} {off n : Nat} {sg : Seg} {i m : Nat} (h : SegsS ι vs ss cs ow 0) (hs : segAt ss off 0 = some (sg, 0, i)) (hm : segCount (ss.drop i) n = some m) (hq : SegsS ι vs q ys ow' off) (hn : ys.length = n)
    (hz : sized q ∨ ss.drop (i + m) = []) (ho : ∀ j, (j < off ∨ off + n ≤ j) → ow' j = ow j) : off + n ≤ cs.length ∧ SegsS ι vs (spl ss i m q) (setAt cs off ys) ow' 0 := by
  obtain ⟨p, q', cp, cg, cq, e1, e2, e3, e4, e5, e6, e7, e8, e9⟩ := segAt_ok h hs
  simp only [Nat.zero_add, Nat.add_zero] at e2 e4 e7 e8
  subst e1; subst e3; subst e2
  have hd : (p ++ sg :: q').drop p.length = sg :: q' := by simp
  rw [hd] at hm
  have hr : SegsS ι vs (sg :: q') (cg ++ cq) ow cp.length := by
    have := SegsS.split (p := p) (q := sg :: q') h
    refine SegsS.app (p := [sg]) (q := q') ?_ e7 (by rw [show cp.length + cg.length = cp.length + cg.length from rfl]; exact e8)
    cases hsl : sg.len with
    | none => exact .inr (e9 hsl)
    | some k => exact .inl fun s' hs' => by simp at hs'; rw [hs', hsl]; rfl
  obtain ⟨c1, c2, k1, k2, k3, k4, k5, k6⟩ := segCount_ok hr hm
  rw [k1]
  have hl : off + n ≤ (cp ++ (c1 ++ c2)).length := by simp; omega
  refine ⟨hl, ?_⟩
  have hset : setAt (cp ++ (c1 ++ c2)) off ys = cp ++ (ys ++ c2) := by
    subst e4
    simp only [setAt, List.take_left']
    rw [show cp.length + ys.length = cp.length + c1.length by omega, ← List.append_assoc cp c1 c2, ← List.length_append, List.drop_left]
    simp
  have hspl : spl (p ++ sg :: q') p.length m q = p ++ (q ++ (sg :: q').drop m) := by
    simp only [spl, List.take_left', List.append_assoc]
    rw [show p.length + m = p.length + m from rfl, List.drop_append]
    simp
  rw [hset, hspl]
  refine SegsS.app (.inl e5) (e6.shift fun i hi => ?_) (SegsS.app ?_ (by rw [Nat.zero_add, ← e4]; exact hq) (k6.shift fun i hi => ?_))
  · simp only [Nat.zero_add]; exact ho _ (.inl (by omega))
  · rcases hz with hz | hz
    · exact .inl hz
    · refine .inr ?_
      rw [List.drop_append] at hz
      simpa using hz
  · rw [ho _ (.inr (by omega))]; congr 1; omega
/-- part of a segment's content is put for another one -/
theorem splIn2_ok {ow ow' : Nat → Bool} {ss : List Seg} {cs ys : List V} {off n r i i' u : Nat} {sn : Option Nat} {a : At} {w x : V} (h : SegsS ι vs ss cs ow 0) (hs : segAt ss off 0 = some (.many sn a, r, i)) (ha : ∀ w, AtV vs a w → w = x) (hle : r + u + n ≤ x.cells.length) (hn : ys.length = n) (hsc : ys.all V.sc = true)
    (hw : vs[i']? = some w) (hww : w = .agg (setAt x.cells (r + u) (nfL ys))) (ho : ∀ j, (j < off + u ∨ off + u + n ≤ j) → ow' j = ow j) : off + u + n ≤ cs.length ∧ SegsS ι vs (spl ss i 1 [.many sn (.n i' false false)]) (setAt cs (off + u) ys) ow' 0 := by
  obtain ⟨p, q', cp, cg, cq, e1, e2, e3, e4, e5, e6, e7, e8, e9⟩ := segAt_ok h hs
  simp only [Nat.zero_add] at e2 e7 e8
  subst e1; subst e3; subst e2
  obtain ⟨l, cs', v, f1, f2, f3, f4, f5, f6, f7⟩ := e7
  rw [show cs' = [] from f7, List.append_nil] at f1
  subst f1
  obtain rfl := ha v f5
  have hl : cg.length = v.cells.length := by rw [← f6, nfL_length]
  refine ⟨by simp; omega, ?_⟩
  have hset : setAt (cp ++ (cg ++ cq)) (off + u) ys = cp ++ (setAt cg (r + u) ys ++ cq) := by
    subst e4
    simp only [setAt]
    rw [List.take_append, List.take_of_length_le (by omega), List.drop_append, List.drop_eq_nil_of_le (by omega)]
    rw [show cp.length + r + u - cp.length = r + u by omega, show cp.length + r + u + ys.length - cp.length = r + u + ys.length by omega]
    rw [List.take_append_of_le_length (by omega), List.drop_append_of_le_length (by omega)]
    simp
  have hspl : spl (p ++ .many sn a :: q') p.length 1 [.many sn (.n i' false false)] = p ++ (.many sn (.n i' false false) :: q') := by
    simp only [spl, List.take_left']
    rw [List.drop_append]; simp
  rw [hset, hspl]
  have hsl : (setAt cg (r + u) ys).length = cg.length := by simp [setAt]; omega
  refine SegsS.app (.inl e5) (e6.shift fun i hi => ?_) ⟨setAt cg (r + u) ys, cq, w, rfl, fun m hm => by rw [hsl]; exact f2 m hm, fun hn => e9 hn, ?_, hw, ?_, e8.shift fun i hi => ?_⟩
  · simp only [Nat.zero_add]; exact ho _ (.inl (by omega))
  · simp only [setAt, List.all_append, Bool.and_eq_true]
    rw [List.all_eq_true] at f4
    exact ⟨⟨List.all_eq_true.2 fun x hx => f4 x (List.mem_of_mem_take hx), hsc⟩, List.all_eq_true.2 fun x hx => f4 x (List.mem_of_mem_drop hx)⟩
  · rw [hww, ← f6, ← nfL_setAt]; rfl
  · rw [hsl, Nat.zero_add, ho _ (.inr (by omega))]
theorem splIn_ok {ow ow' : Nat → Bool} {ss : List Seg} {cs ys : List V} {off n r i i' : Nat} {sn : Option Nat} {a : At} {w x : V} (h : SegsS ι vs ss cs ow 0) (hs : segAt ss off 0 = some (.many sn a, r, i)) (ha : ∀ w, AtV vs a w → w = x) (hle : r + n ≤ x.cells.length) (hn : ys.length = n) (hsc : ys.all V.sc = true)
    (hw : vs[i']? = some w) (hww : w = .agg (setAt x.cells r (nfL ys))) (ho : ∀ j, (j < off ∨ off + n ≤ j) → ow' j = ow j) : off + n ≤ cs.length ∧ SegsS ι vs (spl ss i 1 [.many sn (.n i' false false)]) (setAt cs off ys) ow' 0 :=
  splIn2_ok (u := 0) h hs ha hle hn hsc hw hww ho
end

/-! ## objects of a state -/
variable {c : Fc} {ι : List Nat} {s : St} {S : PS V}
theorem obj_setOb {X : Type} (S : PS X) (o : Nat) (ss : List Seg) (k : Nat) : (S.setOb o ss).obj k = if k = o ∧ o < S.ob.length then some ss else S.obj k := by
  simp only [PS.obj, PS.setOb, List.getElem?_set]
  by_cases h : o = k
  · subst h
    by_cases hl : o < S.ob.length
    · simp [hl]
    · simp [hl]
  · simp [h, Ne.symm h]
theorem obj_lt {X : Type} {S : PS X} {o : Nat} {ss : List Seg} (h : S.obj o = some ss) : o < S.ob.length := by
  unfold PS.obj at h
  split at h
  · rename_i e; exact (List.getElem?_eq_some_iff.1 e).1
  · cases h
theorem hCells_eqH {H H' : Hp} {id : Nat} (h : H id = H' id) : hCells H id = hCells H' id := by unfold hCells; rw [h]
/-- an object is one that was given, or a new one -/
theorem Sat.given (h : Sat c S ι s) {o id : Nat} (hι : ι[o]? = some id) : id ∈ c.ids ∨ c.hs.nH ≤ id := by
  rcases Nat.lt_or_ge o S.g with h1 | h1
  · left
    rw [← h.g] at h1
    have h2 := h.pre o _ (List.getElem?_eq_getElem h1)
    rw [hι] at h2
    rw [Option.some.inj h2]; exact List.getElem_mem h1
  · exact .inr (h.new o id hι h1)
theorem Sat.objUpd (h : Sat c S ι s) {o id : Nat} (hι : ι[o]? = some id) {s' : St} (htm : s'.tm = s.tm) (hown : ∀ t, s'.own (.slot t) = s.own (.slot t)) (hnH : s'.nH = s.nH)
    (hoth : ∀ id', id' ≠ id → s'.H id' = s.H id' ∧ ∀ j, s'.own (.cell id' j) = s.own (.cell id' j)) {ss : List Seg} {cs : List V} (hcs : hCells s'.H id = some cs) (hseg : SegsS ι S.vals ss cs (fun j => s'.own (.cell id j)) 0) :
    Sat c (S.setOb o ss) ι s' where
  tm t y hy := by rw [htm, hown]; exact h.tm t y hy
  ob k qs hk := by
    rw [obj_setOb] at hk
    split at hk
    · rename_i e
      cases hk
      rw [e.1]
      exact ⟨id, cs, hι, hcs, hseg⟩
    · rename_i e
      obtain ⟨id', cs', h1, h2, h3⟩ := h.ob k qs hk
      have hne : id' ≠ id := fun he => by
        subst he
        have hko : k = o := (List.getElem?_inj (List.getElem?_eq_some_iff.1 h1).1 h.nd).1 (by rw [h1, hι])
        exact e ⟨hko, by rw [← hko]; exact obj_lt hk⟩
      obtain ⟨k1, k2⟩ := hoth id' hne
      exact ⟨id', cs', h1, by rw [hCells_eqH k1]; exact h2, by simpa only [k2, PS.setOb] using h3⟩
  nd := h.nd
  lt id' hid := by rw [hnH]; exact h.lt id' hid
  len := by simpa [PS.setOb] using h.len
  lits := h.lits
  cln := h.cln
  g := h.g
  pre := h.pre
  new := h.new
  nH := by rw [hnH]; exact h.nH
  fr id' h1 h2 := by
    have hne : id' ≠ id := by
      rintro rfl
      rcases h.given hι with h3 | h3
      · exact h2 h3
      · omega
    obtain ⟨k1, k2⟩ := hoth id' hne
    obtain ⟨k3, k4⟩ := h.fr id' h1 h2
    exact ⟨k1.trans k3, fun j => (k2 j).trans (k4 j)⟩
theorem Sat.newOb (h : Sat c S ι s) {ss : List Seg} {cs : List V} (hseg : SegsS ι S.vals ss cs (fun _ => false) 0) : Sat c (S.newOb ss) (ι ++ [s.nH]) (s.new cs) ∧ (ι ++ [s.nH])[S.ob.length]? = some s.nH where
  left :=
  { tm := fun t y hy => by
      rw [new_tm, new_own]; exact (h.tm t y hy).mono (.app _ _) (.refl _)
    ob := fun k qs hk => by
      have hk' : (k < S.ob.length ∧ S.obj k = some qs) ∨ (k = S.ob.length ∧ qs = ss) := by
        unfold PS.obj PS.newOb at hk
        split at hk
        · rename_i e
          rw [List.getElem?_append] at e
          split at e
          · rename_i hl; left; refine ⟨hl, ?_⟩; unfold PS.obj; rw [e]; exact hk
          · right
            rename_i hl
            have := (List.getElem?_eq_some_iff.1 e).1
            simp at this
            have hkl : k = S.ob.length := by omega
            subst hkl
            simp at e
            cases hk; exact ⟨rfl, e.symm⟩
        · cases hk
      rcases hk' with ⟨hl, hk'⟩ | ⟨rfl, rfl⟩
      · obtain ⟨id, ds, h1, h2, h3⟩ := h.ob k qs hk'
        have hlt := h.lt id (List.mem_of_getElem? h1)
        refine ⟨id, ds, PreN.app _ _ _ _ h1, by rw [hCells_new, if_neg (by omega)]; exact h2, ?_⟩
        refine (h3.mono (.app _ _) (.refl _)).shift fun i hi => ?_
        simp only [Nat.zero_add]; rw [new_ownc, if_neg (by omega)]
      · refine ⟨s.nH, cs, by rw [← h.len]; simp, by simp, (hseg.mono (.app _ _) (.refl _)).shift fun i hi => ?_⟩
        simp only [Nat.zero_add]; rw [new_ownc, if_pos rfl]
    nd := by
      rw [List.nodup_append]
      refine ⟨h.nd, by simp, fun a ha b hb => ?_⟩
      simp at hb; subst hb
      have := h.lt a ha; omega
    lt := fun id hid => by
      simp only [new_nH]
      rcases List.mem_append.1 hid with hid | hid
      · have := h.lt id hid; omega
      · simp at hid; omega
    len := by simp [PS.newOb, h.len]
    lits := h.lits
    cln := h.cln
    g := h.g
    pre := fun k id hk => PreN.app _ _ _ _ (h.pre k id hk)
    new := fun k id hk hg => by
      rw [List.getElem?_append] at hk
      split at hk
      · exact h.new k id hk hg
      · have := List.mem_of_getElem? hk
        simp at this; rw [this]; exact h.nH
    nH := by simp only [new_nH]; have := h.nH; omega
    fr := fun id h1 h2 => by
      have hne : id ≠ s.nH := by have := h.nH; omega
      obtain ⟨k1, k2⟩ := h.fr id h1 h2
      exact ⟨by simp only [St.new, upd, if_neg hne]; exact k1, fun j => by show (s.new cs).own (.cell id j) = _; rw [new_ownc, if_neg hne]; exact k2 j⟩ }
  right := by rw [← h.len]; simp
theorem disown_g {X : Type} (S : PS X) (t : Nat) : (S.disown t).g = S.g := by unfold PS.disown; split <;> rfl
theorem Sat.disown (h : Sat c S ι s) (t : Nat) : Sat c (S.disown t) ι (s.take (some (.slot t))) where
  tm u y hy := by
    have hv : (S.disown t).vals = S.vals := by unfold PS.disown; split <;> rfl
    rw [hv]
    unfold PS.disown at hy
    split at hy
    · rename_i z hz
      simp only [PS.get, lk_cons] at hy
      split at hy
      · rename_i e
        subst e; cases hy
        exact (h.tm _ _ hz).noOwn _
      · rename_i e
        have := h.tm u y hy
        rw [take_own, if_neg (by simp; omega)]
        exact this
    · rename_i hz
      by_cases e : u = t
      · subst e; rw [hz] at hy; cases hy
      · rw [take_own, if_neg (by simpa using e)]; exact h.tm u y hy
  ob k ss hk := by
    have hv : (S.disown t).vals = S.vals := by unfold PS.disown; split <;> rfl
    have he : (S.disown t).obj k = S.obj k := by unfold PS.disown; split <;> rfl
    rw [he] at hk
    obtain ⟨id, cs, h1, h2, h3⟩ := h.ob k ss hk
    refine ⟨id, cs, h1, h2, ?_⟩
    rw [hv]
    refine h3.shift fun i hi => ?_
    rw [take_own, if_neg (by simp)]
  nd := h.nd
  lt := h.lt
  len := by have : (S.disown t).ob = S.ob := by unfold PS.disown; split <;> rfl
            rw [this]; exact h.len
  lits i b hb := by
    have hv : (S.disown t).vals = S.vals := by unfold PS.disown; split <;> rfl
    have he : (S.disown t).lits = S.lits := by unfold PS.disown; split <;> rfl
    rw [he] at hb; rw [hv]; exact h.lits i b hb
  cln x hx := by
    have hv : (S.disown t).vals = S.vals := by unfold PS.disown; split <;> rfl
    rw [hv] at hx; exact h.cln x hx
  g := by rw [disown_g]; exact h.g
  pre := h.pre
  new := by rw [disown_g]; exact h.new
  nH := h.nH
  fr id h1 h2 := by
    obtain ⟨k1, k2⟩ := h.fr id h1 h2
    exact ⟨k1, fun j => by show (s.take _).own (.cell id j) = _; rw [take_own, if_neg (by simp)]; exact k2 j⟩
end Go.Abs
/-
  Y, part H: calls that take objects: what fits a row of the table; the state behind. Own work of this seat.
-/
namespace Go.Abs

/-! ## results -/
def ResS (ι : List Nat) (vs : List V) : List At → V → Bool → Prop
  | [a], v, o => AtS ι vs a v o
  | az, v, _ => ∃ ws, v = .tup ws ∧ AtsS ι vs az ws
structure RetS (c : Fc) (rt : RT) (xs : List V) (v : V) (o : Bool) (hs' : HS) (ι' : List Nat) : Prop where
  n : xs.length = rt.n
  cl : cleanL xs = true
  pre : ∀ (k id : Nat), c.ids[k]? = some id → ι'[k]? = some id
  len : ι'.length = rt.ob.length
  nd : ι'.Nodup
  lt : ∀ id ∈ ι', id < hs'.nH
  new : ∀ (k id : Nat), ι'[k]? = some id → c.ids.length ≤ k → c.hs.nH ≤ id
  nH : c.hs.nH ≤ hs'.nH
  res : ResS ι' xs rt.res v o
  ob : ∀ (k : Nat) (ss : List Seg), rt.ob[k]? = some (some ss) → ∃ id cs, ι'[k]? = some id ∧ hCells hs'.H id = some cs ∧ SegsS ι' xs ss cs (hs'.co id) 0
  fr : Frame c hs'.H hs'.co
def dumV : List V → List V
  | [] => [.bool true]
  | xs => xs
/-- what a call gives, of several ways to end the j-th -/
def packR (n : Nat) (j : Nat) (xs : List V) : V := match n with | 1 => oneV xs | _ => oneV (.int .i64 j :: dumV xs)
def RetR (c : Fc) (rts : List RT) (r v : V) (o : Bool) (hs' : HS) : Prop := ∃ j rt xs ι', rts[j]? = some rt ∧ r = packR rts.length j xs ∧ RetS c rt xs v o hs' ι'

/-! ## what fits -/
structure RI (no : Nat) (ρ : List (Nat × Nat)) : Prop where
  lk : ∀ k o, (k, o) ∈ ρ → lk ρ k = some o
  inj : ∀ k k' o, (k, o) ∈ ρ → (k', o) ∈ ρ → k = k'
  lt : ∀ k o, (k, o) ∈ ρ → k < no
def Agree (ρ : List (Nat × Nat)) (ι ι' : List Nat) : Prop := ∀ k o id, (k, o) ∈ ρ → ι[o]? = some id → ι'[k]? = some id
theorem Agree.sub {ρ ρ' : List (Nat × Nat)} {ι ι' : List Nat} (h : Agree ρ' ι ι') (hs : ∀ p ∈ ρ, p ∈ ρ') : Agree ρ ι ι' := fun k o id hk ho => h k o id (hs _ hk) ho
theorem lk_mem' {α : Type} : ∀ {l : List (Nat × α)} {t : Nat} {a : α}, lk l t = some a → (t, a) ∈ l
  | (k, b) :: l, t, a, h => by
    rw [lk_cons] at h
    split at h
    · rename_i e; cases h; rw [e]; simp
    · exact List.mem_cons_of_mem _ (lk_mem' h)
theorem mO_ok {no : Nat} {ρ ρ' : List (Nat × Nat)} {k o : Nat} (h : mO no ρ k o = some ρ') (hr : RI no ρ) : RI no ρ' ∧ (∀ p ∈ ρ, p ∈ ρ') ∧ (k, o) ∈ ρ' := by
  unfold mO at h
  split at h
  · rename_i hk
    have hk' : k < no := Nat.le_of_ble_eq_true hk
    split at h
    · rename_i o' ho
      split at h
      · rename_i he
        cases h
        rw [Nat.eq_of_beq_eq_true he]
        exact ⟨hr, fun _ h => h, lk_mem' ho⟩
      · cases h
    · rename_i ho
      split at h
      · cases h
      · rename_i hany
        cases h
        have hno : ∀ k', (k', o) ∉ ρ := fun k' hm => by
          have := List.any_eq_false.1 hany _ hm
          simp at this
        refine ⟨⟨fun k1 o1 hm => ?_, fun k1 k2 o1 h1 h2 => ?_, fun k1 o1 hm => ?_⟩, fun p hp => List.mem_cons_of_mem _ hp, by simp⟩
        · rcases List.mem_cons.1 hm with e | hm
          · cases e; rw [lk_cons, if_pos rfl]
          · have h1 := hr.lk _ _ hm
            rw [lk_cons]
            split
            · rename_i e; subst e; rw [ho] at h1; cases h1
            · exact h1
        · rcases List.mem_cons.1 h1 with e1 | h1 <;> rcases List.mem_cons.1 h2 with e2 | h2
          · cases e1; cases e2; rfl
          · cases e1; exact absurd h2 (hno _)
          · cases e2; exact absurd h1 (hno _)
          · exact hr.inj _ _ _ h1 h2
        · rcases List.mem_cons.1 hm with e | hm
          · cases e; exact hk'
          · exact hr.lt _ _ hm
  · cases h
theorem mPs_ok {no : Nat} : ∀ {T ps ρ ρ' : List (Nat × Nat)}, mPs no T ps ρ = some ρ' → RI no ρ → RI no ρ' ∧ (∀ p ∈ ρ, p ∈ ρ') ∧ ∀ ι ι' cs, Agree ρ' ι ι' → PsS ι ps cs → PsS ι' T cs
  | [], [], ρ, ρ', h, hr => by cases h; exact ⟨hr, fun _ h => h, fun _ _ _ _ h => h⟩
  | (k, off) :: T, (o, off') :: ps, ρ, ρ', h, hr => by
    simp only [mPs] at h
    split at h
    · rename_i ρ1 hb h1
      obtain ⟨q1, q2, q3⟩ := mO_ok h1 hr
      obtain ⟨q4, q5, q6⟩ := mPs_ok h q1
      refine ⟨q4, fun p hp => q5 _ (q2 _ hp), fun ι ι' cs ha hp => ?_⟩
      obtain ⟨id, cs', e1, e2, e3⟩ := hp
      exact ⟨id, cs', ha _ _ _ (q5 _ q3) e1, by rw [Nat.eq_of_beq_eq_true hb]; exact e2, q6 _ _ _ ha e3⟩
    · cases h
  | [], _ :: _, _, _, h, _ => by cases h
  | _ :: _, [], _, _, h, _ => by cases h

variable {Γ : Gam} {f : Nat} {c : Fc} {ι : List Nat} {s : St} {S : PS V}
theorem xor_no {m m' b : Bool} (h : (Bool.xor m m' || !b) = false) : m = m' ∧ b = true := by cases m <;> cases m' <;> cases b <;> simp_all
theorem mAt_ok (h : Sat c S ι s) {no : Nat} {T y : At} {ρ ρ' : List (Nat × Nat)} {acc acc' : List V} (hg : mAt (BV Γ f) S no T y ρ acc = some (ρ', acc')) (hr : RI no ρ) :
    RI no ρ' ∧ (∀ p ∈ ρ, p ∈ ρ') ∧ (∃ l, acc' = acc ++ l) ∧ (∀ v o, AtS ι S.vals y v o → (cleanL acc = true → cleanL acc' = true) ∧ ∀ ι' vs, Agree ρ' ι ι' → Pre acc' vs → AtS ι' vs T v o) ∧
      (∀ w, AtV S.vals y w → (cleanL acc = true → cleanL acc' = true) ∧ ∀ vs, Pre acc' vs → AtV vs T w) := by
  have last : ∀ {x : V} {i : Nat}, i = acc.length → (acc ++ [x])[i]? = some x := fun e => by rw [e]; simp
  unfold mAt at hg
  split at hg
  · split at hg
    · rename_i ρ1 hb h1
      cases hg
      obtain ⟨q1, q2, q3⟩ := mO_ok h1 hr
      refine ⟨q1, q2, ⟨[], by simp⟩, fun v o hv => ⟨id, fun ι' vs ha _ => ?_⟩, fun w hw => hw.elim⟩
      obtain ⟨id, h4, h5⟩ := hv
      exact ⟨id, ha _ _ _ q3 h4, by rw [Nat.eq_of_beq_eq_true hb]; exact h5⟩
    · cases hg
  · split at hg
    · rename_i hc
      simp only [Bool.and_eq_true] at hc
      cases hg
      refine ⟨hr, fun _ h => h, ⟨[], by simp⟩, fun v o hv => ⟨id, fun ι' vs _ _ => ?_⟩, fun w hw => hw.elim⟩
      show v = _
      rw [Nat.eq_of_beq_eq_true hc.1, Nat.eq_of_beq_eq_true hc.2]; exact hv
    · cases hg
  · split at hg
    · rename_i ρ1 hc h1
      simp only [Bool.and_eq_true] at hc
      obtain ⟨⟨⟨b1, b2⟩, b3⟩, b4⟩ := hc
      cases hg
      obtain ⟨q1, q2, q3⟩ := mO_ok h1 hr
      refine ⟨q1, q2, ⟨[], by simp⟩, fun v o hv => ⟨id, fun ι' vs ha _ => ?_⟩, fun w hw => hw.elim⟩
      obtain ⟨id, h4, h5⟩ := hv
      rw [← Nat.eq_of_beq_eq_true b1, ← Nat.eq_of_beq_eq_true b2, ← Nat.eq_of_beq_eq_true b3, ← Nat.eq_of_beq_eq_true b4] at h5
      exact ⟨id, ha _ _ _ q3 h4, h5⟩
    · cases hg
  · split at hg
    · rename_i ρ1 hb h1
      cases hg
      obtain ⟨b1, b2⟩ := xor_no hb
      obtain ⟨q1, q2, q3⟩ := mPs_ok h1 hr
      refine ⟨q1, q2, ⟨[], by simp⟩, fun v o hv => ⟨id, fun ι' vs ha _ => ?_⟩, fun w hw => hw.elim⟩
      obtain ⟨cs, h4, h5⟩ := hv
      exact ⟨cs, by rw [b1, Nat.eq_of_beq_eq_true b2]; exact h4, q3 _ _ _ ha h5⟩
    · cases hg
  · split at hg
    · rename_i x hc hx
      simp only [Bool.and_eq_true] at hc
      cases hg
      refine ⟨hr, fun _ h => h, ⟨[x], rfl⟩, fun v o hv => ⟨fun hcl => clean_app hcl (by simp only [cleanL, h.cln _ (List.mem_of_getElem? hx), Bool.and_self]), fun ι' vs _ hp => ?_⟩, fun w hw => hw.elim⟩
      obtain ⟨w, h1, h2⟩ := hv
      rw [hx] at h1; cases h1
      exact ⟨x, hp _ _ (last (Nat.eq_of_beq_eq_true hc.1)), by rw [Nat.eq_of_beq_eq_true hc.2]; exact h2⟩
    · cases hg
  · split at hg
    · rename_i x hc hx
      simp only [Bool.and_eq_true, Bool.or_eq_true, Bool.not_eq_true'] at hc
      obtain ⟨⟨h1, h2⟩, h3⟩ := hc
      cases hg
      refine ⟨hr, fun _ h => h, ⟨[x], rfl⟩, fun v o hv => ?_, fun w hw => ?_⟩
      · obtain ⟨rfl, hxc⟩ := h.val hv hx
        refine ⟨fun hcl => clean_app hcl (by simp only [cleanL, hxc, Bool.and_self]), fun ι' vs _ hp => ⟨hp _ _ (last (Nat.eq_of_beq_eq_true h1)), fun ho => ?_, fun ho => ?_⟩⟩
        · rcases h2 with h2 | h2
          · rw [ho] at h2; cases h2
          · exact hv.owned h2
        · rcases h3 with h3 | h3
          · rw [ho] at h3; cases h3
          · exact hv.one h3
      · obtain ⟨rfl, hxc⟩ := h.valV hw hx
        exact ⟨fun hcl => clean_app hcl (by simp only [cleanL, hxc, Bool.and_self]), fun vs hp => hp _ _ (last (Nat.eq_of_beq_eq_true h1))⟩
    · cases hg
  · cases hg
    refine ⟨hr, fun _ h => h, ⟨[], by simp⟩, fun v o hv => ⟨id, fun ι' vs _ _ => ?_⟩, fun w hw => ⟨id, fun vs _ => ?_⟩⟩
    · exact ⟨hv.1, rfl, fun h => nomatch h⟩
    · exact hw
  · cases hg
theorem mSegs_ok (h : Sat c S ι s) {no : Nat} {ow : Nat → Bool} : ∀ {ss qs : List Seg} {cs : List V} {j : Nat} {ρ ρ' : List (Nat × Nat)} {acc acc' : List V}, mSegs (BV Γ f) S no ss qs ρ acc = some (ρ', acc') → RI no ρ → SegsS ι S.vals qs cs ow j →
    RI no ρ' ∧ (∀ p ∈ ρ, p ∈ ρ') ∧ (∃ l, acc' = acc ++ l) ∧ (cleanL acc = true → cleanL acc' = true) ∧ ∀ ι' vs, Agree ρ' ι ι' → Pre acc' vs → SegsS ι' vs ss cs ow j
  | [], [], cs, j, ρ, ρ', acc, acc', hg, hr, hs => by cases hg; exact ⟨hr, fun _ h => h, ⟨[], by simp⟩, id, fun _ _ _ _ => hs⟩
  | .one a :: ss, .one b :: qs, cs, j, ρ, ρ', acc, acc', hg, hr, hs => by
    simp only [mSegs] at hg
    split at hg
    · rename_i ρ1 acc1 h1
      obtain ⟨c', cs', e, q1, q2, q3⟩ := hs
      obtain ⟨r1, r2, ⟨l1, e1⟩, h3, _⟩ := mAt_ok h h1 hr
      obtain ⟨h4, h5⟩ := h3 c' _ q1
      obtain ⟨r3, r4, ⟨l2, e2⟩, h6, h7⟩ := mSegs_ok h hg r1 q3
      exact ⟨r3, fun p hp => r4 _ (r2 _ hp), ⟨l1 ++ l2, by rw [e2, e1, List.append_assoc]⟩, fun hc => h6 (h4 hc), fun ι' vs ha hp => ⟨c', cs', e, h5 ι' vs (ha.sub r4) (fun i x hi => hp i x (by rw [e2]; exact Pre.app _ _ i x hi)), q2, h7 ι' vs ha hp⟩⟩
    · cases hg
  | .many (some n) a :: ss, .many (some m) b :: qs, cs, j, ρ, ρ', acc, acc', hg, hr, hs => by
    simp only [mSegs] at hg
    split at hg
    · rename_i ρ1 acc1 hn h1
      obtain ⟨l, cs', w, e, q1, q2, q3, q4, q5, q6⟩ := hs
      obtain ⟨r1, r2, ⟨l1, e1⟩, _, h3⟩ := mAt_ok h h1 hr
      obtain ⟨h4, h5⟩ := h3 w q4
      obtain ⟨r3, r4, ⟨l2, e2⟩, h6, h7⟩ := mSegs_ok h hg r1 q6
      exact ⟨r3, fun p hp => r4 _ (r2 _ hp), ⟨l1 ++ l2, by rw [e2, e1, List.append_assoc]⟩, fun hc => h6 (h4 hc), fun ι' vs ha hp => ⟨l, cs', w, e, (by rw [Nat.eq_of_beq_eq_true hn]; exact q1), (fun hn => by cases hn), q3, h5 vs (fun i x hi => hp i x (by rw [e2]; exact Pre.app _ _ i x hi)), q5, h7 ι' vs ha hp⟩⟩
    · cases hg
  | .many none a :: ss, .many none b :: qs, cs, j, ρ, ρ', acc, acc', hg, hr, hs => by
    simp only [mSegs] at hg
    split at hg
    · rename_i ρ1 acc1 h1
      obtain ⟨l, cs', w, e, q1, q2, q3, q4, q5, q6⟩ := hs
      obtain ⟨r1, r2, ⟨l1, e1⟩, _, h3⟩ := mAt_ok h h1 hr
      obtain ⟨h4, h5⟩ := h3 w q4
      obtain ⟨r3, r4, ⟨l2, e2⟩, h6, h7⟩ := mSegs_ok h hg r1 q6
      refine ⟨r3, fun p hp => r4 _ (r2 _ hp), ⟨l1 ++ l2, by rw [e2, e1, List.append_assoc]⟩, fun hc => h6 (h4 hc), fun ι' vs ha hp => ⟨l, cs', w, e, q1, fun hn => ?_, q3, h5 vs (fun i x hi => hp i x (by rw [e2]; exact Pre.app _ _ i x hi)), q5, h7 ι' vs ha hp⟩⟩
      have := q2 hn
      subst this
      cases ss with
      | nil => rfl
      | cons _ _ => simp [mSegs] at hg
    · cases hg
  | [], _ :: _, _, _, _, _, _, _, hg, _, _ => by simp [mSegs] at hg
  | _ :: _, [], _, _, _, _, _, _, hg, _, _ => by simp [mSegs] at hg
  | .one _ :: _, .many _ _ :: _, _, _, _, _, _, _, hg, _, _ => by simp [mSegs] at hg
  | .many _ _ :: _, .one _ :: _, _, _, _, _, _, _, hg, _, _ => by simp [mSegs] at hg
  | .many none _ :: _, .many (some _) _ :: _, _, _, _, _, _, _, hg, _, _ => by simp [mSegs] at hg
  | .many (some _) _ :: _, .many none _ :: _, _, _, _, _, _, _, hg, _, _ => by simp [mSegs] at hg
theorem mObs_ok (h : Sat c S ι s) {no : Nat} : ∀ {T : List (Option (List Seg))} {k0 : Nat} {ρ ρ' : List (Nat × Nat)} {acc acc' : List V}, mObs (BV Γ f) S no T k0 ρ acc = some (ρ', acc') → RI no ρ →
    RI no ρ' ∧ (∀ p ∈ ρ, p ∈ ρ') ∧ (∃ l, acc' = acc ++ l) ∧ (cleanL acc = true → cleanL acc' = true) ∧ (∀ k, k < T.length → ∃ o, (k0 + k, o) ∈ ρ' ∧ o < S.ob.length) ∧
      ∀ (k : Nat) (ss : List Seg), T[k]? = some (some ss) → ∃ o id cs, (k0 + k, o) ∈ ρ' ∧ ι[o]? = some id ∧ hCells s.H id = some cs ∧ ∀ ι' vs, Agree ρ' ι ι' → Pre acc' vs → SegsS ι' vs ss cs (fun j => s.own (.cell id j)) 0
  | [], k0, ρ, ρ', acc, acc', hg, hr => by cases hg; exact ⟨hr, fun _ h => h, ⟨[], by simp⟩, id, fun k hk => by simp at hk, fun k ss hk => by simp at hk⟩
  | q :: T, k0, ρ, ρ', acc, acc', hg, hr => by
    simp only [mObs] at hg
    split at hg
    · rename_i o ho
      split at hg
      · rename_i hlt
        have hlt' : o < S.ob.length := Nat.le_of_ble_eq_true hlt
        split at hg
        · obtain ⟨r1, r2, r3, r4, r5, r6⟩ := mObs_ok h hg hr
          refine ⟨r1, r2, r3, r4, fun k hk => ?_, fun k ss hk => ?_⟩
          · cases k with
            | zero => exact ⟨o, r2 _ (lk_mem' ho), hlt'⟩
            | succ k => rw [show k0 + (k + 1) = k0 + 1 + k by omega]; exact r5 k (by simpa using hk)
          · cases k with
            | zero => simp at hk
            | succ k => rw [show k0 + (k + 1) = k0 + 1 + k by omega]; exact r6 k ss (by simpa using hk)
        · rename_i ss
          split at hg
          · rename_i qs hqs
            split at hg
            · rename_i ρ1 acc1 h1
              obtain ⟨id, cs, e1, e2, e3⟩ := h.ob o qs hqs
              obtain ⟨u1, u2, ⟨l1, e4⟩, u4, u5⟩ := mSegs_ok h h1 hr e3
              obtain ⟨r1, r2, ⟨l2, e5⟩, r4, r5, r6⟩ := mObs_ok h hg u1
              refine ⟨r1, fun p hp => r2 _ (u2 _ hp), ⟨l1 ++ l2, by rw [e5, e4, List.append_assoc]⟩, fun hc => r4 (u4 hc), fun k hk => ?_, fun k ss' hk => ?_⟩
              · cases k with
                | zero => exact ⟨o, r2 _ (u2 _ (lk_mem' ho)), hlt'⟩
                | succ k => rw [show k0 + (k + 1) = k0 + 1 + k by omega]; exact r5 k (by simpa using hk)
              · cases k with
                | zero =>
                  simp at hk; subst hk
                  exact ⟨o, id, cs, r2 _ (u2 _ (lk_mem' ho)), e1, e2, fun ι' vs ha hp => u5 ι' vs (ha.sub r2) (fun i x hi => hp i x (by rw [e5]; exact Pre.app _ _ i x hi))⟩
                | succ k => rw [show k0 + (k + 1) = k0 + 1 + k by omega]; exact r6 k ss' (by simpa using hk)
            · cases hg
          · cases hg
      · cases hg
    · cases hg
/-- two lists side by side -/
theorem AtsS.get : ∀ {ι : List Nat} {vs : List V} {az : List At} {ws : List V}, AtsS ι vs az ws → az.length = ws.length ∧ ∀ (t : Nat) (a : At), az[t]? = some a → AtS ι vs a (ws.getD t Nil) false
  | _, _, [], ws, h => by rw [show ws = [] from h]; exact ⟨rfl, fun t a ht => by simp at ht⟩
  | _, _, a :: az, ws, ⟨w, ws', e, h1, h2⟩ => by
    subst e
    obtain ⟨h3, h4⟩ := h2.get
    refine ⟨by simp [h3], fun t b ht => ?_⟩
    cases t with
    | zero => simp at ht; subst ht; simpa using h1
    | succ t => simpa using h4 t b (by simpa using ht)
theorem mArgs_ok (h : Sat c S ι s) {no : Nat} {az : List At} {args : List V} (ha : AtsS ι S.vals az args) : ∀ {tm : List (Nat × Sy)} {ρ ρ' : List (Nat × Nat)} {acc acc' : List V}, mArgs (BV Γ f) S no az tm ρ acc = some (ρ', acc') → RI no ρ →
    RI no ρ' ∧ (∀ p ∈ ρ, p ∈ ρ') ∧ (∃ l, acc' = acc ++ l) ∧ (cleanL acc = true → cleanL acc' = true) ∧ ∀ p ∈ tm, ∀ ι' vs, Agree ρ' ι ι' → Pre acc' vs → SyS ι' vs p.2 (args.getD p.1 Nil) false
  | [], ρ, ρ', acc, acc', hg, hr => by cases hg; exact ⟨hr, fun _ h => h, ⟨[], by simp⟩, id, fun _ hp => by cases hp⟩
  | (t, .at a) :: tm, ρ, ρ', acc, acc', hg, hr => by
    simp only [mArgs] at hg
    split at hg
    · rename_i b hb
      split at hg
      · rename_i ρ1 acc1 h1
        obtain ⟨u1, u2, ⟨l1, e1⟩, u4, _⟩ := mAt_ok h h1 hr
        obtain ⟨u5, u6⟩ := u4 _ _ (ha.get.2 t b hb)
        obtain ⟨r1, r2, ⟨l2, e2⟩, r4, r5⟩ := mArgs_ok h ha hg u1
        refine ⟨r1, fun p hp => r2 _ (u2 _ hp), ⟨l1 ++ l2, by rw [e2, e1, List.append_assoc]⟩, fun hc => r4 (u5 hc), fun p hp ι' vs hag hv => ?_⟩
        rcases List.mem_cons.1 hp with rfl | hp
        · exact u6 ι' vs (hag.sub r2) (fun i x hi => hv i x (by rw [e2]; exact Pre.app _ _ i x hi))
        · exact r5 p hp ι' vs hag hv
      · cases hg
    · cases hg
  | (_, .agg _ _) :: _, _, _, _, _, hg, _ => by cases hg
  | (_, .tup _) :: _, _, _, _, _, hg, _ => by cases hg
/-- .. with the right to append -/
def AtsO (ι : List Nat) (vs : List V) : List At → List (V × Bool) → Prop
  | [], ps => ps = []
  | a :: az, ps => ∃ p ps', ps = p :: ps' ∧ AtS ι vs a p.1 p.2 ∧ AtsO ι vs az ps'
theorem AtsO.ats {vs : List V} : ∀ {az : List At} {ps : List (V × Bool)}, AtsO ι vs az ps → (∀ p ∈ ps, p.2 = false) → AtsS ι vs az (ps.map (·.1))
  | [], ps, h, _ => by rw [show ps = [] from h]; rfl
  | a :: az, ps, ⟨p, ps', e, h1, h2⟩, hf => by
    subst e
    exact ⟨p.1, _, rfl, by rw [hf p (by simp)] at h1; exact h1, h2.ats fun q hq => hf q (by simp [hq])⟩
theorem AtsO.noOwn {vs : List V} : ∀ {az : List At} {ps : List (V × Bool)}, AtsO ι vs az ps → AtsO ι vs (az.map At.noOwn) (ps.map fun p => (p.1, false))
  | [], ps, h => by rw [show ps = [] from h]; rfl
  | a :: az, ps, ⟨p, ps', e, h1, h2⟩ => by subst e; exact ⟨(p.1, false), _, rfl, h1.noOwn _, h2.noOwn⟩
theorem AtsO.mono {ι' : List Nat} {vs vs' : List V} (k1 : PreN ι ι') (k2 : Pre vs vs') : ∀ {az : List At} {ps : List (V × Bool)}, AtsO ι vs az ps → AtsO ι' vs' az ps
  | [], ps, h => h
  | a :: az, ps, ⟨p, ps', e, h1, h2⟩ => ⟨p, ps', e, h1.mono k1 k2, h2.mono k1 k2⟩
theorem AtsO.len {vs : List V} : ∀ {az : List At} {ps : List (V × Bool)}, AtsO ι vs az ps → az.length = ps.length
  | [], ps, h => by rw [show ps = [] from h]; rfl
  | a :: az, ps, ⟨p, ps', e, h1, h2⟩ => by subst e; simp [h2.len]
theorem mAts_ok (h : Sat c S ι s) {no : Nat} : ∀ {T az : List At} {ws : List (V × Bool)} {ρ ρ' : List (Nat × Nat)} {acc acc' : List V}, mAts (BV Γ f) S no T az ρ acc = some (ρ', acc') → RI no ρ → AtsO ι S.vals az ws →
    RI no ρ' ∧ (∀ p ∈ ρ, p ∈ ρ') ∧ (∃ l, acc' = acc ++ l) ∧ (cleanL acc = true → cleanL acc' = true) ∧ ∀ ι' vs, Agree ρ' ι ι' → Pre acc' vs → AtsO ι' vs T ws
  | [], [], ws, ρ, ρ', acc, acc', hg, hr, ha => by cases hg; exact ⟨hr, fun _ h => h, ⟨[], by simp⟩, id, fun _ _ _ _ => ha⟩
  | a :: T, b :: az, ws, ρ, ρ', acc, acc', hg, hr, ha => by
    simp only [mAts] at hg
    split at hg
    · rename_i ρ1 acc1 h1
      obtain ⟨w, ws', e, k1, k2⟩ := ha
      obtain ⟨u1, u2, ⟨l1, e1⟩, u4, _⟩ := mAt_ok h h1 hr
      obtain ⟨u5, u6⟩ := u4 _ _ k1
      obtain ⟨r1, r2, ⟨l2, e2⟩, r4, r5⟩ := mAts_ok h hg u1 k2
      exact ⟨r1, fun p hp => r2 _ (u2 _ hp), ⟨l1 ++ l2, by rw [e2, e1, List.append_assoc]⟩, fun hc => r4 (u5 hc), fun ι' vs hag hv => ⟨w, ws', e, u6 ι' vs (hag.sub r2) (fun i x hi => hv i x (by rw [e2]; exact Pre.app _ _ i x hi)), r5 ι' vs hag hv⟩⟩
    · cases hg
  | [], _ :: _, _, _, _, _, _, hg, _, _ => by cases hg
  | _ :: _, [], _, _, _, _, _, hg, _, _ => by cases hg

/-! ## the callee's objects -/
def ιOf (no : Nat) (ρ : List (Nat × Nat)) (ι : List Nat) : List Nat := (List.range no).map fun k => match lk ρ k with | some o => (ι[o]?).getD 0 | none => 0
theorem ιOf_get {no : Nat} {ρ : List (Nat × Nat)} (hr : RI no ρ) : Agree ρ ι (ιOf no ρ ι) := fun k o id hk ho => by
  unfold ιOf
  rw [List.getElem?_map, List.getElem?_range (hr.lt _ _ hk)]
  simp [hr.lk _ _ hk, ho]
theorem ιOf_len (no : Nat) (ρ : List (Nat × Nat)) (ι : List Nat) : (ιOf no ρ ι).length = no := by simp [ιOf]
/-- all numbers stand for something -/
def Cov (no : Nat) (ρ : List (Nat × Nat)) (ι : List Nat) : Prop := ∀ k, k < no → ∃ o id, (k, o) ∈ ρ ∧ ι[o]? = some id
theorem ιOf_inv {no : Nat} {ρ : List (Nat × Nat)} (hr : RI no ρ) (hc : Cov no ρ ι) {k id : Nat} (h : (ιOf no ρ ι)[k]? = some id) : ∃ o, (k, o) ∈ ρ ∧ ι[o]? = some id := by
  have hk : k < no := by have := (List.getElem?_eq_some_iff.1 h).1; rwa [ιOf_len] at this
  obtain ⟨o, id', h1, h2⟩ := hc k hk
  have := ιOf_get hr k o id' h1 h2
  rw [h] at this; cases this
  exact ⟨o, h1, h2⟩
theorem ιOf_nd {no : Nat} {ρ : List (Nat × Nat)} (hr : RI no ρ) (hc : Cov no ρ ι) (hn : ι.Nodup) : (ιOf no ρ ι).Nodup := by
  refine List.pairwise_iff_getElem.2 fun i j hi hj hij e0 => ?_
  have e : (ιOf no ρ ι)[i]? = (ιOf no ρ ι)[j]? := by rw [List.getElem?_eq_getElem hi, List.getElem?_eq_getElem hj, e0]
  have hj' : j < no := by rwa [ιOf_len] at hj
  obtain ⟨o, id, h1, h2⟩ := hc j hj'
  have h3 := ιOf_get hr j o id h1 h2
  rw [h3] at e
  obtain ⟨o', h4, h5⟩ := ιOf_inv hr hc e
  have : o' = o := (List.getElem?_inj (List.getElem?_eq_some_iff.1 h5).1 hn).1 (by rw [h5, h2])
  subst this
  have := hr.inj _ _ _ h1 h4
  omega
theorem start_obj {X : Type} (T : PT) (xs : List X) (k : Nat) : (T.start xs).obj k = match T.ob[k]? with | some (some ss) => some ss | _ => none := rfl
theorem RI.nil (no : Nat) : RI no [] := ⟨fun _ _ h => (by cases h), fun _ _ _ h => (by cases h), fun _ _ h => (by cases h)⟩
/-- A CALL THAT FITS. -/
theorem fitE_ok (h : Sat c S ι s) {E : FE} {az : List At} {args : List V} {ρ : List (Nat × Nat)} {xs : List V} (hf : fitE (BV Γ f) S E az = some (ρ, xs)) (ha : AtsS ι S.vals az args) :
    args.length = E.ar ∧ xs.length = E.ent.n ∧ RI E.ent.g ρ ∧ Cov E.ent.g ρ ι ∧ Sat ⟨ιOf E.ent.g ρ ι, s.hs⟩ (E.ent.start xs) (ιOf E.ent.g ρ ι) (St.initH args s.hs) := by
  unfold fitE at hf
  split at hf
  · rename_i hb
    simp only [Bool.and_eq_true] at hb
    have hn1 := Nat.eq_of_beq_eq_true hb.1
    have hn2 := Nat.eq_of_beq_eq_true hb.2
    split at hf
    · rename_i ρ1 acc1 h1
      split at hf
      · rename_i ρ2 xs2 h2
        split at hf
        · rename_i hx
          cases hf
          obtain ⟨r1, r2, ⟨l1, e1⟩, r4, r5⟩ := mArgs_ok h ha h1 (RI.nil _)
          obtain ⟨u1, u2, ⟨l2, e2⟩, u4, u5, u6⟩ := mObs_ok h h2 r1
          have hcov : Cov E.ent.g ρ ι := fun k hk => by
            obtain ⟨o, h3, h4⟩ := u5 k (by rw [← hn2]; exact hk)
            rw [Nat.zero_add] at h3
            rw [← h.len] at h4
            exact ⟨o, _, h3, List.getElem?_eq_getElem h4⟩
          have hag := ιOf_get (ι := ι) u1
          refine ⟨by rw [← ha.get.1]; exact hn1, Nat.eq_of_beq_eq_true hx, u1, hcov, ?_⟩
          exact {
            tm := fun t y hy => by
              have := r5 (t, y) (lk_mem' hy) _ xs (hag.sub u2) (by rw [e2]; exact Pre.app _ _)
              exact this
            ob := fun k ss hk => by
              rw [start_obj] at hk
              have hk' : E.ent.ob[k]? = some (some ss) := by
                split at hk
                · rename_i e; cases hk; exact e
                · cases hk
              obtain ⟨o, id, cs, h3, h4, h5, h6⟩ := u6 k ss hk'
              rw [Nat.zero_add] at h3
              exact ⟨id, cs, hag _ _ _ h3 h4, h5, h6 _ xs hag (.refl _)⟩
            nd := ιOf_nd u1 hcov h.nd
            lt := fun id hid => by
              obtain ⟨k, hk⟩ := List.mem_iff_getElem?.1 hid
              obtain ⟨o, _, h4⟩ := ιOf_inv u1 hcov hk
              exact h.lt id (List.mem_of_getElem? h4)
            len := by rw [ιOf_len]; exact hn2
            lits := fun i b hb => by cases hb
            cln := fun x hx => cleanL_iff.1 (u4 (r4 rfl)) x hx
            g := ιOf_len _ _ _
            pre := fun k id hk => hk
            new := fun k id hk hg => by
              have := (List.getElem?_eq_some_iff.1 hk).1
              rw [ιOf_len] at this
              exact absurd this (Nat.not_lt.2 hg)
            nH := Nat.le_refl _
            fr := fun id _ _ => ⟨rfl, fun _ => rfl⟩ }
        · cases hf
      · cases hf
    · cases hf
  · cases hf
theorem pickE_ok {az : List At} {E : FE} {q : List (Nat × Nat) × List V} : ∀ {l : List FE}, pickE (BV Γ f) S az l = some (E, q) → E ∈ l ∧ fitE (BV Γ f) S E az = some q
  | [], h => by cases h
  | E' :: l, h => by
    simp only [pickE] at h
    split at h
    · rename_i q' hq
      cases h
      exact ⟨by simp, hq⟩
    · obtain ⟨h1, h2⟩ := pickE_ok h
      exact ⟨List.mem_cons_of_mem _ h1, h2⟩

/-! ## behind a call -/
theorem newR_mem : ∀ {n k o : Nat} {p : Nat × Nat}, p ∈ newR n k o ↔ ∃ j, j < n ∧ p = (k + j, o + j)
  | 0, k, o, p => by simp [newR]
  | n + 1, k, o, p => by
    simp only [newR, List.mem_cons, newR_mem (n := n)]
    constructor
    · rintro (rfl | ⟨j, hj, rfl⟩)
      · exact ⟨0, by omega, rfl⟩
      · exact ⟨j + 1, by omega, by simp; omega⟩
    · rintro ⟨j, hj, rfl⟩
      cases j with
      | zero => exact .inl rfl
      | succ j => exact .inr ⟨j, by omega, by simp; omega⟩
theorem rlk_mem : ∀ {ρ : List (Nat × Nat)} {o k : Nat}, rlk ρ o = some k → (k, o) ∈ ρ
  | (k', o') :: ρ, o, k, h => by
    simp only [rlk] at h
    split at h
    · rename_i he; cases h; rw [Nat.eq_of_beq_eq_true he]; simp
    · exact List.mem_cons_of_mem _ (rlk_mem h)
theorem rlk_none : ∀ {ρ : List (Nat × Nat)} {o k : Nat}, rlk ρ o = none → (k, o) ∉ ρ
  | [], _, _, _ => by simp
  | (k', o') :: ρ, o, k, h => by
    simp only [rlk] at h
    split at h
    · cases h
    · rename_i he
      intro hm
      rcases List.mem_cons.1 hm with e | hm
      · cases e; rw [Nat.beq_refl] at he; cases he
      · exact rlk_none h hm
theorem mapI_get {α β : Type} (F : Nat → α → β) : ∀ (l : List α) (i j : Nat), (mapI F i l)[j]? = (l[j]?).map (F (i + j))
  | [], i, j => by simp [mapI]
  | a :: l, i, j => by
    cases j with
    | zero => simp [mapI]
    | succ j => simp only [mapI, List.getElem?_cons_succ, mapI_get F l (i + 1) j]; rw [show i + 1 + j = i + (j + 1) by omega]
theorem mapI_len {α β : Type} (F : Nat → α → β) : ∀ (l : List α) (i : Nat), (mapI F i l).length = l.length
  | [], _ => rfl
  | _ :: l, i => by simp [mapI, mapI_len F l]
/-- from the callee's numbers to the caller's -/
def Back (ρ : List (Nat × Nat)) (ι' ιn : List Nat) : Prop := ∀ k o id, (k, o) ∈ ρ → ι'[k]? = some id → ιn[o]? = some id
theorem rnPs_ok {ρ : List (Nat × Nat)} {ι' ιn : List Nat} (hb : Back ρ ι' ιn) : ∀ {ps qs : List (Nat × Nat)} {cs : List V}, rnPs ρ ps = some qs → PsS ι' ps cs → PsS ιn qs cs
  | [], qs, cs, h, hp => by cases h; exact hp
  | (k, off) :: ps, qs, cs, h, ⟨id, cs', h1, h2, h3⟩ => by
    simp only [rnPs] at h
    split at h
    · rename_i o q ho hq
      cases h
      exact ⟨id, cs', hb _ _ _ (lk_mem' ho) h1, h2, rnPs_ok hb hq h3⟩
    · cases h
theorem rnAt_ok {ρ : List (Nat × Nat)} {ι' ιn : List Nat} (hb : Back ρ ι' ιn) {vs xs : List V} {a a' : At} (h : rnAt ρ vs.length a = some a') : (∀ v o, AtS ι' xs a v o → AtS ιn (vs ++ xs) a' v o) ∧ ∀ w, AtV xs a w → AtV (vs ++ xs) a' w := by
  have app : ∀ {i : Nat} {x : V}, xs[i]? = some x → (vs ++ xs)[vs.length + i]? = some x := fun h => by
    rw [List.getElem?_append_right (by omega)]; simpa using h
  cases a with
  | c v o => cases h; exact ⟨fun _ _ h => h, fun _ h => h⟩
  | n i o sc => cases h; exact ⟨fun _ _ h => ⟨app h.1, h.2⟩, fun _ h => app h⟩
  | ptr k off =>
    simp only [rnAt] at h
    split at h
    · rename_i o ho
      cases h
      exact ⟨fun v o' ⟨id, h1, h2⟩ => ⟨id, hb _ _ _ (lk_mem' ho) h1, h2⟩, fun _ h => h.elim⟩
    · cases h
  | gp g off => cases h; exact ⟨fun _ _ h => h, fun _ h => h.elim⟩
  | el i off => cases h; exact ⟨fun v o ⟨x, h1, h2⟩ => ⟨x, app h1, h2⟩, fun _ h => h.elim⟩
  | osl k off n c s =>
    simp only [rnAt] at h
    split at h
    · rename_i o ho
      cases h
      exact ⟨fun v o' ⟨id, h1, h2⟩ => ⟨id, hb _ _ _ (lk_mem' ho) h1, h2⟩, fun _ h => h.elim⟩
    · cases h
  | fp m f ps =>
    simp only [rnAt] at h
    split at h
    · rename_i q hq
      cases h
      exact ⟨fun v o' ⟨cs, h1, h2⟩ => ⟨cs, h1, rnPs_ok hb hq h2⟩, fun _ h => h.elim⟩
    · cases h
  | ptd k b i sz => cases h
  | gpd g b i sz => cases h
  | nil => cases h
theorem rnAts_ok {ρ : List (Nat × Nat)} {ι' ιn : List Nat} (hb : Back ρ ι' ιn) {vs xs : List V} : ∀ {az az' : List At} {ws : List V}, rnAts ρ vs.length az = some az' → AtsS ι' xs az ws → AtsS ιn (vs ++ xs) az' ws
  | [], az', ws, h, ha => by cases h; exact ha
  | a :: az, az', ws, h, ⟨w, ws', e, h1, h2⟩ => by
    simp only [rnAts] at h
    split at h
    · rename_i x l hx hl
      cases h
      exact ⟨w, ws', e, (rnAt_ok hb hx).1 _ _ h1, rnAts_ok hb hl h2⟩
    · cases h
theorem rnSegs_ok {ρ : List (Nat × Nat)} {ι' ιn : List Nat} (hb : Back ρ ι' ιn) {vs xs : List V} {ow : Nat → Bool} : ∀ {ss ss' : List Seg} {cs : List V} {j : Nat}, rnSegs ρ vs.length ss = some ss' → SegsS ι' xs ss cs ow j → SegsS ιn (vs ++ xs) ss' cs ow j
  | [], ss', cs, j, h, ha => by cases h; exact ha
  | .one a :: ss, ss', cs, j, h, ⟨c, cs', e, h1, h2, h3⟩ => by
    simp only [rnSegs] at h
    split at h
    · rename_i x l hx hl
      cases h
      exact ⟨c, cs', e, (rnAt_ok hb hx).1 _ _ h1, h2, rnSegs_ok hb hl h3⟩
    · cases h
  | .many n a :: ss, ss', cs, j, h, ⟨l', cs', w, e, h3, h4, h5, h6, h7, h8⟩ => by
    simp only [rnSegs] at h
    split at h
    · rename_i x l hx hl
      cases h
      exact ⟨l', cs', w, e, h3, fun hn => by have := h4 hn; subst this; cases hl; rfl, h5, (rnAt_ok hb hx).2 _ h6, h7, rnSegs_ok hb hl h8⟩
    · cases h

/-- THE STATE BEHIND A CALL. -/
theorem after_ok (h : Sat c S ι s) {g : Nat} {ρ : List (Nat × Nat)} (hr : RI g ρ) (hcov : Cov g ρ ι) {rt : RT} {xs : List V} {v : V} {o : Bool} {hs' : HS} {ι' : List Nat} (hR : RetS ⟨ιOf g ρ ι, s.hs⟩ rt xs v o hs' ι') (hg : g ≤ rt.ob.length) :
    Sat c (S.after g ρ rt xs).2 (ι ++ ι'.drop g) (s.setHS hs') ∧ Back (S.after g ρ rt xs).1 ι' (ι ++ ι'.drop g) := by
  have hback : Back (S.after g ρ rt xs).1 ι' (ι ++ ι'.drop g) := by
    intro k o' id hm hid
    simp only [PS.after] at hm
    rcases List.mem_append.1 hm with hm | hm
    · have hk := hr.lt _ _ hm
      obtain ⟨o2, id2, h1, h2⟩ := hcov k hk
      have : o2 = o' := by have a := hr.lk _ _ hm; have b := hr.lk _ _ h1; rw [a] at b; exact (Option.some.inj b).symm
      subst this
      have h3 := hR.pre k id2 (ιOf_get hr _ _ _ h1 h2)
      rw [hid] at h3; cases h3
      exact PreN.app _ _ _ _ h2
    · obtain ⟨j, hj, e⟩ := newR_mem.1 hm
      cases e
      rw [← h.len, List.getElem?_append_right (by omega), List.getElem?_drop]
      rw [show g + (ι.length + j - ι.length) = g + j by omega]; exact hid
  refine ⟨?_, hback⟩
  have hobl : (S.after g ρ rt xs).2.ob.length = S.ob.length + (rt.ob.length - g) := by
    simp only [PS.after, mapI_len, List.length_append, List.length_replicate]
  have hdrop : ∀ id ∈ ι'.drop g, s.nH ≤ id ∧ id < hs'.nH := fun id hid => by
    obtain ⟨k, hk⟩ := List.mem_iff_getElem?.1 hid
    rw [List.getElem?_drop] at hk
    exact ⟨hR.new _ _ hk (by rw [ιOf_len]; omega), hR.lt _ (List.mem_of_getElem? hk)⟩
  have hnH : s.nH ≤ hs'.nH := hR.nH
  have hids : ∀ id, id ∈ ιOf g ρ ι → id ∈ ι := fun id hid => by
    obtain ⟨k, hk⟩ := List.mem_iff_getElem?.1 hid
    obtain ⟨o', _, h2⟩ := ιOf_inv hr hcov hk
    exact List.mem_of_getElem? h2
  exact {
    tm := fun t y hy => (h.tm t y hy).mono (.app _ _) (.app _ _)
    ob := fun k ss hk => by
      have hk' : (S.after g ρ rt xs).2.ob[k]? = some (some ss) := by
        unfold PS.obj at hk
        split at hk
        · rename_i e; cases hk; exact e
        · cases hk
      simp only [PS.after, mapI_get, Nat.zero_add, Option.map_eq_some_iff] at hk'
      obtain ⟨q, hq, hq2⟩ := hk'
      split at hq2
      · rename_i k' hk'
        unfold rnO at hq2
        split at hq2
        · rename_i ss0 e0
          obtain ⟨id, cs, h1, h2, h3⟩ := hR.ob k' ss0 e0
          exact ⟨id, cs, hback _ _ _ (rlk_mem hk') h1, h2, rnSegs_ok hback hq2 h3⟩
        · cases hq2
      · rename_i hno
        subst hq2
        rw [List.getElem?_append] at hq
        split at hq
        · rename_i hlt
          have hob : S.obj k = some ss := by unfold PS.obj; rw [hq]
          obtain ⟨id, cs, h1, h2, h3⟩ := h.ob k ss hob
          have hnot : id ∉ ιOf g ρ ι := fun hm => by
            obtain ⟨k', hk'⟩ := List.mem_iff_getElem?.1 hm
            obtain ⟨o', h4, h5⟩ := ιOf_inv hr hcov hk'
            have : o' = k := (List.getElem?_inj (List.getElem?_eq_some_iff.1 h5).1 h.nd).1 (by rw [h5, h1])
            subst this
            exact rlk_none hno (List.mem_append_left _ h4)
          obtain ⟨f1, f2⟩ := hR.fr id (h.lt _ (List.mem_of_getElem? h1)) hnot
          refine ⟨id, cs, PreN.app _ _ _ _ h1, (hCells_eqH f1).trans h2, (h3.mono (.app _ _) (.app _ _)).shift fun i hi => ?_⟩
          show hs'.co id (0 + i) = _
          rw [f2]; rfl
        · have := List.mem_of_getElem? hq
          simp at this
    nd := by
      rw [List.nodup_append]
      exact ⟨h.nd, hR.nd.sublist (List.drop_sublist _ _), fun a ha b hb e => by subst e; have := h.lt a ha; have := (hdrop a hb).1; omega⟩
    lt := fun id hid => by
      show id < hs'.nH
      rcases List.mem_append.1 hid with hid | hid
      · have := h.lt id hid; omega
      · exact (hdrop id hid).2
    len := by rw [hobl, List.length_append, List.length_drop, h.len, hR.len]
    lits := fun i b hb => Pre.app _ _ _ _ (h.lits i b hb)
    cln := fun x hx => by
      rcases List.mem_append.1 hx with hx | hx
      · exact h.cln x hx
      · exact cleanL_iff.1 hR.cl x hx
    g := h.g
    pre := fun k id hk => PreN.app _ _ _ _ (h.pre k id hk)
    new := fun k id hk hgk => by
      rw [List.getElem?_append] at hk
      split at hk
      · exact h.new k id hk hgk
      · have := (hdrop id (List.mem_of_getElem? hk)).1
        have := h.nH; omega
    nH := by show c.hs.nH ≤ hs'.nH; have := h.nH; omega
    fr := fun id h1 h2 => by
      have hnot : id ∉ ιOf g ρ ι := fun hm => by
        obtain ⟨o', ho'⟩ := List.mem_iff_getElem?.1 (hids id hm)
        rcases h.given ho' with h3 | h3
        · exact h2 h3
        · omega
      obtain ⟨f1, f2⟩ := hR.fr id (by have := h.nH; show id < s.nH; omega) hnot
      obtain ⟨f3, f4⟩ := h.fr id h1 h2
      exact ⟨f1.trans f3, fun j => (f2 j).trans (f4 j)⟩ }
end Go.Abs
/-
  Y, part 6: each operation: the plain one follows what the reader says. Own work of this seat.
-/
namespace Go.Abs

/-- what is known of calls -/
structure GamOK (GA : Abs.Spec) (gl : Glob) (Γ : Gam) (ow : Cfg) : Prop where
  p : ∀ f args r, cleanL (nfL args) = true → Γ f 0 (nfL args) = some r → ∃ v o, GA.p f args = some (v, o) ∧ v.nf = r ∧ r.clean = true ∧ (ow.ow f = true → Own v o)
  c : ∀ f args r, GA.p f args = some r → cleanL args = true
  h : ∀ f, ∀ E ∈ ow.he f, ∀ rts, E.ret = some rts → ∀ xs r, Γ E.k 1 xs = some r → ∀ args ι hs, args.length = E.ar → xs.length = E.ent.n → Sat ⟨ι, hs⟩ (E.ent.start xs) ι (St.initH args hs) →
    ∃ v o hs', GA.h f args hs = some (v, o, hs') ∧ RetR ⟨ι, hs⟩ rts r v o hs'
  gl : ∀ g cs, ow.gl g = some cs → gl g = some cs ∧ nfL cs = cs ∧ cleanL cs = true

variable {GA : Abs.Spec} {gl : Glob} {Γ : Gam} {f : Nat} {ow : Cfg} {c : Fc} {ι : List Nat} {s : St} {S : PS V} {d : Option Nat} {g : Option (Nat × Bool)} {a : List Nat} {r : V} {k : PS V → Option V}

def Res1 (c : Fc) (GA : Abs.Spec) (gl : Glob) (d : Option Nat) (op : AOp) (g : Option (Nat × Bool)) (a : List Nat) (s : St) (k : PS V → Option V) (r : V) : Prop := ∃ S' ι' s', k S' = some r ∧ exec1 GA gl ⟨d, op, g, a⟩ s = some s' ∧ Sat c S' ι' s'

theorem Sat.putN (h : Sat c S ι s) {v z : V} {o own sc : Bool} (hz : v.nf = z) (hc : z.clean = true) (ho : own = true → Own v o) (hs : sc = true → v.sc = true) : Sat c ((S.push z).put d (.at (.n S.nx own sc))) ι (s.put d v o) := by
  refine (h.push hc).put d ⟨?_, ho, hs⟩
  rw [push_get, hz]

theorem simple_ok (h : Sat c S ι s) {op : AOp} {p : Prim} {xs : List Opd} {own : Bool} (hp : primOf op = some (p, xs, own)) (hk : doP (BV Γ f) S p xs d own k = some r) : Res1 c GA gl d op g a s k r := by
  obtain ⟨ys, S1, h1, h2, h3, h4, h5⟩ := h.matL hk
  simp only [doX, BV, Option.bind_eq_some_iff] at h1
  obtain ⟨z, hz, h1⟩ := h1
  obtain ⟨v, o, q1, q2, q3, q4, q5⟩ := prim_ok (Γ := GA) (gl := gl) (s := s) (d := d) (g := g) (a := a) hp h4 h5 hz
  exact ⟨_, ι, _, h1, q1, h2.putN q2 q3 q4 q5⟩

theorem onO_some {x : Opd} {kk : Sy → Option V} (hk : onO (BV Γ f) S x kk = some r) : ∃ y, S.opd x = some y ∧ kk y = some r := by
  unfold onO at hk
  split at hk
  · exact ⟨_, by assumption, hk⟩
  · cases hk
theorem truth_ok (h : Sat c S ι s) {x : Opd} {b : Bool} (hb : S.truth (S.opd x) = some b) : evO s.tm x = .bool b := by
  cases hx : S.opd x with
  | none => rw [hx] at hb; cases hb
  | some y =>
    rw [hx] at hb
    have hy := h.opd hx
    unfold PS.truth at hb
    split at hb
    · rename_i e; cases hb; cases e
      exact nf_bool hy.1
    · rename_i e; cases e
      have := h.lits _ _ hb
      rw [hy.1] at this
      exact nf_bool (Option.some.inj this)
    · cases hb

theorem op_mv (h : Sat c S ι s) {x : Opd} (hk : op1 (BV Γ f) ow d (.mv x) S k = some r) : Res1 c GA gl d (.mv x) g a s k r := by
  obtain ⟨y, hy, hk⟩ := onO_some hk
  exact ⟨_, ι, _, hk, e_mv x, h.put d ((h.opd hy).noOwn false)⟩
theorem op_mvo (h : Sat c S ι s) {t : Nat} (hk : op1 (BV Γ f) ow d (.mvo t) S k = some r) : Res1 c GA gl d (.mvo t) g a s k r := by
  simp only [op1] at hk
  split at hk
  · rename_i y hy
    have hv : (S.disown t).vals = S.vals := by unfold PS.disown; split <;> rfl
    exact ⟨_, ι, _, hk, e_mvo t, (h.disown t).put d (y := .at y) (by rw [hv]; exact h.tm t _ hy)⟩
  · cases hk
theorem op_pick (h : Sat c S ι s) {cd x y : Opd} (hk : op1 (BV Γ f) ow d (.pick cd x y) S k = some r) : Res1 c GA gl d (.pick cd x y) g a s k r := by
  simp only [op1] at hk
  split at hk
  · rename_i hb
    obtain ⟨z, hz, hk⟩ := onO_some hk
    exact ⟨_, ι, s.put d (evO s.tm x) false, hk, by rw [e_pick, truth_ok h hb, vPick_bool]; rfl, h.put d ((h.opd hz).noOwn false)⟩
  · rename_i hb
    obtain ⟨z, hz, hk⟩ := onO_some hk
    exact ⟨_, ι, s.put d (evO s.tm y) false, hk, by rw [e_pick, truth_ok h hb, vPick_bool]; rfl, h.put d ((h.opd hz).noOwn false)⟩
  · obtain ⟨ys, S1, h1, h2, h3, h4, h5⟩ := h.matL hk
    simp only [doX, BV, Option.bind_eq_some_iff] at h1
    obtain ⟨z, hz, h1⟩ := h1
    subst h4
    simp only [List.map_cons, List.map_nil, nfL, evp] at hz
    unfold vPick at hz
    split at hz
    · rename_i t e
      cases hz
      simp only [List.map_cons, List.map_nil, nfL, cleanL, Bool.and_eq_true, Bool.and_true] at h5
      cases t
      · exact ⟨_, ι, _, h1, by rw [e_pick, nf_bool e, vPick_bool]; rfl, h2.putN (v := evO s.tm y) (o := false) rfl h5.2.2 (fun h => Bool.noConfusion h) (fun h => Bool.noConfusion h)⟩
      · exact ⟨_, ι, _, h1, by rw [e_pick, nf_bool e, vPick_bool]; rfl, h2.putN (v := evO s.tm x) (o := false) rfl h5.2.1 (fun h => Bool.noConfusion h) (fun h => Bool.noConfusion h)⟩
    · cases hz
theorem op_un (h : Sat c S ι s) {op : UnOp} {x : Opd} (hk : op1 (BV Γ f) ow d (.un op x) S k = some r) : Res1 c GA gl d (.un op x) g a s k r := by
  simp only [op1] at hk
  split at hk
  · rename_i b hb
    refine ⟨_, ι, _, hk, by rw [e_un, truth_ok h hb]; rfl, h.put d (y := boolAt !b) (v := .bool !b) (o := false) ⟨rfl, rfl, fun h => (nomatch h)⟩⟩
  · exact simple_ok h rfl hk
theorem vif_some' {x : V} {a b : Option V} (h : vif x a b = some r) : (x = .bool true ∧ a = some r) ∨ (x = .bool false ∧ b = some r) := by
  unfold vif at h
  split at h
  · exact .inl ⟨rfl, h⟩
  · exact .inr ⟨rfl, h⟩
  · cases h
theorem vamb_some {x : V} {a b : Option V} (h : vamb x a b = some r) : (∃ c sz, x = .sl c sz [] ∧ a = some r ∧ b = some r) ∨ (∃ c sz y l, x = .sl c sz (y :: l) ∧ b = some r) := by
  unfold vamb at h
  split at h
  · split at h
    · rename_i e; exact .inl ⟨_, _, rfl, h, by rw [← e]; exact h⟩
    · cases h
  · exact .inr ⟨_, _, _, _, rfl, h⟩
  · cases h
theorem amb_raw {v : V} {a b : Option V} (h : vamb v.nf a b = some r) : ∃ nl sz xs, v = .sl nl sz xs ∧ ((nl = true ∧ a = some r) ∨ (nl = false ∧ b = some r)) := by
  rcases vamb_some h with ⟨c, sz, e, h1, h2⟩ | ⟨c, sz, y, l, e, h1⟩
  · obtain ⟨_, nl, xs, e2, e3, _⟩ := nf_sl' e
    refine ⟨nl, sz, xs, e2, ?_⟩
    cases nl
    · exact .inr ⟨rfl, h2⟩
    · exact .inl ⟨rfl, h1⟩
  · obtain ⟨_, nl, xs, e2, e3, e4⟩ := nf_sl' e
    refine ⟨nl, sz, xs, e2, ?_⟩
    cases nl
    · exact .inr ⟨rfl, h1⟩
    · rw [e4 rfl] at e3; cases e3
theorem abin_slice {op : BinOp} {nl : Bool} {sz s' : Nat} {xs : List V} : abin op .slice (.sl nl sz xs) (.sl true s' []) = vEq op (some nl) := by
  unfold abin
  simp only [aeq]
theorem op_bin (h : Sat c S ι s) {op : BinOp} {q : EqK} {x y : Opd} (hk : op1 (BV Γ f) ow d (.bin op q x y) S k = some r) : Res1 c GA gl d (.bin op q x y) g a s k r := by
  simp only [op1] at hk
  split at hk
  · have go : ∀ {sz : Nat} {b : Bool} {k1 : V → PS V → Option V}, (∀ v S1, k1 v S1 = vamb v (k (S1.put d (boolAt b))) (k (S1.put d (boolAt !b)))) → (∀ nl, vEq op (some nl) = some (.bool (if nl then b else !b))) → y = .const (.sl true sz []) → mat (BV Γ f) S (S.opd x) k1 = some r → Res1 c GA gl d (.bin op .slice x y) g a s k r := by
      intro sz b k1 hk1 hop hy hm
      cases hx : S.opd x with
      | none => rw [hx] at hm; cases hm
      | some y' =>
        rw [hx] at hm
        obtain ⟨S1, h1, h2, _, _⟩ := h.mat (h.opd hx) hm
        rw [hk1] at h1
        obtain ⟨nl, sz', xs, e1, e2⟩ := amb_raw h1
        have ex : ∀ c, (if nl then b else !b) = c → exec1 GA gl ⟨d, .bin op .slice x y, g, a⟩ s = some (s.put d (.bool c) false) := fun c hc => by rw [e_bin, e1, hy, evO_const, abin_slice, hop, hc]; rfl
        rcases e2 with ⟨rfl, e2⟩ | ⟨rfl, e2⟩
        · exact ⟨_, ι, _, e2, ex b rfl, h2.put d (y := boolAt b) ⟨rfl, rfl, fun h => (nomatch h)⟩⟩
        · exact ⟨_, ι, _, e2, ex (!b) rfl, h2.put d (y := boolAt !b) ⟨rfl, rfl, fun h => (nomatch h)⟩⟩
    split at hk
    · exact go (b := true) (fun _ _ => rfl) (fun nl => by cases nl <;> rfl) rfl hk
    · exact go (b := false) (fun _ _ => rfl) (fun nl => by cases nl <;> rfl) rfl hk
    · cases hk
  · split at hk
    · rename_i o off w hx hy
      obtain ⟨id, _, e1⟩ := h.opd hx
      have e2 : evO s.tm y = .nilptr := nf_nilptr (h.opd hy).1
      split at hk
      · exact ⟨_, ι, _, hk, by rw [e_bin, e1, e2]; rfl, h.put d (v := .bool false) (o := false) ⟨rfl, rfl, fun h => (nomatch h)⟩⟩
      · exact ⟨_, ι, _, hk, by rw [e_bin, e1, e2]; rfl, h.put d (v := .bool true) (o := false) ⟨rfl, rfl, fun h => (nomatch h)⟩⟩
      · cases hk
    · rename_i w w' hx hy
      have e1 : evO s.tm x = .nilptr := nf_nilptr (h.opd hx).1
      have e2 : evO s.tm y = .nilptr := nf_nilptr (h.opd hy).1
      split at hk
      · exact ⟨_, ι, _, hk, by rw [e_bin, e1, e2]; rfl, h.put d (v := .bool true) (o := false) ⟨rfl, rfl, fun h => (nomatch h)⟩⟩
      · exact ⟨_, ι, _, hk, by rw [e_bin, e1, e2]; rfl, h.put d (v := .bool false) (o := false) ⟨rfl, rfl, fun h => (nomatch h)⟩⟩
      · cases hk
    · cases hk
  · rename_i h1 h2
    split at hk
    · rename_i v _ w _ hx hy
      split at hk
      · rename_i z hz
        obtain ⟨e1, _⟩ := h.opd hx
        obtain ⟨e2, _⟩ := h.opd hy
        rw [← e1, ← e2] at hz
        have hf := flat_nf (abin_flat hz)
        exact ⟨_, ι, s.put d z false, hk, by rw [e_bin, abin_nf (fun e => h1 e) hz]; rfl, h.put d (y := .at (.c z false)) ⟨hf.1, hf.2.1, fun h => nomatch h⟩⟩
      · cases hk
    · refine simple_ok h ?_ hk
      cases q <;> first | rfl | exact absurd rfl h1 | exact absurd rfl h2
theorem op_len (h : Sat c S ι s) {sb : Bool} {x : Opd} (hk : op1 (BV Γ f) ow d (.len sb x) S k = some r) : Res1 c GA gl d (.len sb x) g a s k r := by
  simp only [op1] at hk
  split at hk
  · rename_i o off n c sz hx
    obtain ⟨id, _, e1⟩ := h.opd hx
    exact ⟨_, ι, _, hk, by rw [e_len, e1]; rfl, h.put d (v := .int .i64 n) (o := false) ⟨rfl, rfl, fun h => (nomatch h)⟩⟩
  · exact simple_ok h rfl hk

theorem chk_some {n : Nat} {v : V} {xs : List V} {j : V} (hxs : [v.nf] = xs) (h : evp (.chk n) xs = some j) : ∃ kd m, v = .int kd m ∧ j = .int kd m ∧ 0 ≤ m ∧ m < n := by
  subst hxs
  simp only [evp, vChk] at h
  split at h
  · rename_i kd m e
    split at h
    · rename_i hc; cases h; exact ⟨kd, m, nf_int e, rfl, hc⟩
    · cases h
  · cases h
theorem op_iaddr (h : Sat c S ι s) {sz : Nat} {x i : Opd} (hk : op1 (BV Γ f) ow d (.iaddr sz x i) S k = some r) : Res1 c GA gl d (.iaddr sz x i) g a s k r := by
  simp only [op1] at hk
  split at hk
  · rename_i o off n c sz' hx
    split at hk
    · rename_i hs
      obtain rfl := Nat.eq_of_beq_eq_true hs
      obtain ⟨id, hid, e1⟩ := h.opd hx
      obtain ⟨ys, S1, h1, h2, h3, h4, h5⟩ := h.matL hk
      simp only [BV, Option.bind_eq_some_iff] at h1
      obtain ⟨j, hj, h1⟩ := h1
      obtain ⟨kd, m, e2, rfl, h6⟩ := chk_some h4 hj
      refine ⟨_, ι, _, h1, by rw [e_iaddr, e1, e2]; simp only [vIaddr]; rw [if_pos ⟨h6.1, h6.2, trivial⟩]; rfl, (h2.push (x := .int kd m) rfl).put d (v := .ptr id (off + m.toNat * sz')) (o := false) ⟨id, kd, m, hid, push_get _ _, rfl⟩⟩
    · cases hk
  · obtain ⟨ys, S1, h1, h2, h3, h4, h5⟩ := h.matL hk
    simp only [BV, Option.bind_eq_some_iff] at h1
    obtain ⟨e, he, h1⟩ := h1
    subst h4
    simp only [List.map_cons, List.map_nil, nfL, evp] at he
    unfold vElem at he
    split at he
    · rename_i b s' xs kd m e1 e2
      obtain ⟨_, nl, ws, e3, rfl, hn⟩ := nf_sl' e1
      split at he
      · rename_i hc
        obtain ⟨hc1, rfl⟩ := hc
        rw [nfL_get, Option.map_eq_some_iff] at he
        obtain ⟨w, hw, rfl⟩ := he
        have hnl : nl = false := by cases nl; rfl; rw [hn rfl] at hw; simp at hw
        subst hnl
        have hcl : w.nf.clean = true := by
          simp only [List.map_cons, List.map_nil, nfL, cleanL, Bool.and_eq_true, e1, V.clean] at h5
          exact clean_get h5.1 (by rw [nfL_get, hw]; rfl)
        refine ⟨_, ι, _, h1, by rw [e_iaddr, e3, nf_int e2, vIaddr_sl, if_pos ⟨hc1, rfl⟩, hw]; rfl, (h2.push hcl).put d (v := .el w.cells 0) (o := false) ⟨w.nf, push_get _ _, ?_⟩⟩
        show V.el (nfL w.cells) 0 = _
        rw [nf_cells]
      · cases he
    · cases he
theorem coal_ok (h : Sat c S ι s) {o off n : Nat} {k : PS V → Option V} (hk : coal (BV Γ f) S o off n k = some r) : ∃ S', k S' = some r ∧ Sat c S' ι s ∧ S'.tm = S.tm := by
  unfold coal at hk
  split at hk
  · rename_i ss hss
    split at hk
    · exact ⟨S, hk, h, rfl⟩
    · rename_i a' i hs
      split at hk
      · rename_i q hq
        split at hk
        · rename_i ns xs hsv
          simp only [BV, evp, Option.bind_eq_some_iff, Option.map_eq_some_iff] at hk
          obtain ⟨x, ⟨l, hl, rfl⟩, hk⟩ := hk
          obtain ⟨id, cs, q1, q2, q3⟩ := h.ob o ss hss
          obtain ⟨p, q', cp, cg, cq, e1, e2, e3, e4, e5, e6, e7, e8, e9⟩ := segAt_ok q3 hs
          simp only [Nat.zero_add, Nat.add_zero] at e2 e4 e7 e8
          have hr : SegsS ι S.vals (.one a' :: q') (cg ++ cq) (fun j => s.own (.cell id j)) cp.length := SegsS.app (p := [.one a']) (q := q') (.inl fun s' hs' => by simp at hs'; rw [hs']; rfl) e7 e8
          have hd : ss.drop i = .one a' :: q' := by rw [e1, e2]; simp
          rw [hd] at hq hsv
          obtain ⟨c1, c2, k1, k2, k3, k4, k5, k6⟩ := segCount_ok hr hq
          obtain ⟨rfl, hc⟩ := h.segVals k5 hsv hl
          have hcl : (V.agg (nfL c1)).clean = true := catV_nf hl hc
          have q3' := q3.mono (PreN.refl ι) (Ext.push S (V.agg (nfL c1))).pre
          have hsc := k5.all_sc
          have hms : SegsS ι (S.push (V.agg (nfL c1))).vals [.many (some n) (.n S.nx false false)] c1 (fun j => s.own (.cell id j)) off := ⟨c1, [], .agg (nfL c1), by simp, fun m hm => by (cases hm; exact k2), fun h => by (cases h), hsc, push_get _ _, rfl, rfl⟩
          have hspl := (spl_ok (ow' := fun j => s.own (.cell id j)) q3' hs (by rw [hd]; exact hq) hms k2 (.inl fun s' hs' => by simp at hs'; rw [hs']; rfl) fun _ _ => rfl).2
          have hset : setAt cs off c1 = cs := by
            rw [e3, k1, e4]
            simp only [setAt, List.take_left']
            rw [← List.append_assoc, ← List.length_append, List.drop_left, List.append_assoc]
          rw [hset] at hspl
          exact ⟨_, hk, (h.push hcl).objUpd (s' := s) q1 rfl (fun _ => rfl) rfl (fun _ _ => ⟨rfl, fun _ => rfl⟩) q2 hspl, rfl⟩
        · cases hk
      · cases hk
    · cases hk
  · cases hk
theorem op_iarr (h : Sat c S ι s) {n sz : Nat} {x i : Opd} (hk : op1 (BV Γ f) ow d (.iarr n sz x i) S k = some r) : Res1 c GA gl d (.iarr n sz x i) g a s k r := by
  simp only [op1] at hk
  split at hk
  · rename_i o off kd j hx
    split at hk
    · rename_i hj
      have hj' : j < n := Nat.le_of_ble_eq_true hj
      obtain ⟨id, hid, e1⟩ := h.opd hx
      refine ⟨_, ι, _, hk, by rw [e_iarr, e1, evO_const]; simp only [vIarr]; rw [if_pos ⟨Int.natCast_nonneg j, Int.ofNat_lt.2 hj'⟩]; rfl, h.put d (v := .ptr id (off + (Int.ofNat j).toNat * sz)) (o := false) ⟨id, hid, rfl⟩⟩
    · cases hk
  · rename_i o off hx hno
    obtain ⟨id, hid, e1⟩ := h.opd hx
    obtain ⟨S0, hk, h0, _⟩ := coal_ok h hk
    obtain ⟨ys, S1, h1, h2, h3, h4, h5⟩ := h0.matL hk
    simp only [BV, Option.bind_eq_some_iff] at h1
    obtain ⟨j, hj, h1⟩ := h1
    obtain ⟨kd, m, e2, rfl, h6⟩ := chk_some h4 hj
    exact ⟨_, ι, _, h1, by rw [e_iarr, e1, e2]; simp only [vIarr]; rw [if_pos h6]; rfl, (h2.push (x := .int kd m) rfl).put d (v := .ptr id (off + m.toNat * sz)) (o := false) ⟨id, kd, m, hid, push_get _ _, rfl⟩⟩
  · rename_i o off hx
    have e1 : evO s.tm x = .gp o off := h.opd hx
    obtain ⟨ys, S1, h1, h2, h3, h4, h5⟩ := h.matL hk
    simp only [BV, Option.bind_eq_some_iff] at h1
    obtain ⟨j, hj, h1⟩ := h1
    obtain ⟨kd, m, e2, rfl, h6⟩ := chk_some h4 hj
    exact ⟨_, ι, _, h1, by rw [e_iarr, e1, e2]; simp only [vIarr]; rw [if_pos h6]; rfl, (h2.push (x := .int kd m) rfl).put d (v := .gp o (off + m.toNat * sz)) (o := false) ⟨kd, m, push_get _ _, rfl⟩⟩
  · cases hk
theorem op_faddr (h : Sat c S ι s) {off : Nat} {x : Opd} (hk : op1 (BV Γ f) ow d (.faddr off x) S k = some r) : Res1 c GA gl d (.faddr off x) g a s k r := by
  simp only [op1] at hk
  split at hk
  · rename_i o a' hx
    obtain ⟨id, hid, e1⟩ := h.opd hx
    exact ⟨_, ι, _, hk, by rw [e_faddr, e1]; rfl, h.put d (v := .ptr id (a' + off)) (o := false) ⟨id, hid, rfl⟩⟩
  · rename_i i a' hx
    obtain ⟨w, hw, e1⟩ := h.opd hx
    obtain ⟨cs, e2, e3⟩ := nf_el e1
    exact ⟨_, ι, _, hk, by rw [e_faddr, e2]; rfl, h.put d (v := .el cs (a' + off)) (o := false) ⟨w, hw, by rw [← e3]; rfl⟩⟩
  · rename_i o b i sz hx
    obtain ⟨id, kd, j, hid, hj, e1⟩ := h.opd hx
    exact ⟨_, ι, _, hk, by rw [e_faddr, e1]; rfl, h.put d (v := .ptr id (b + j.toNat * sz + off)) (o := false) ⟨id, kd, j, hid, hj, by congr 1; omega⟩⟩
  · rename_i g' a' hx
    have e1 : evO s.tm x = .gp g' a' := h.opd hx
    exact ⟨_, ι, _, hk, by rw [e_faddr, e1]; rfl, h.put d (v := .gp g' (a' + off)) (o := false) rfl⟩
  · cases hk
theorem op_slca (h : Sat c S ι s) {n sz : Nat} {x : Opd} {lo hi mx : Option Opd} (hk : op1 (BV Γ f) ow d (.slca n sz x lo hi mx) S k = some r) : Res1 c GA gl d (.slca n sz x lo hi mx) g a s k r := by
  simp only [op1] at hk
  split at hk
  · rename_i o off hx
    obtain ⟨id, hid, e1⟩ := h.opd hx
    exact ⟨_, ι, _, hk, by rw [e_slca, e1]; simp [vSlca, vOpt, cut3], h.put d (v := .osl id off n n sz) (o := false) ⟨id, hid, rfl⟩⟩
  · cases hk
theorem op_nilck (h : Sat c S ι s) {x : Opd} (hk : op1 (BV Γ f) ow d (.nilck x) S k = some r) : Res1 c GA gl d (.nilck x) g a s k r := by
  simp only [op1] at hk
  split at hk
  · rename_i o a' hx
    obtain ⟨id, hid, e1⟩ := h.opd hx
    exact ⟨_, ι, _, hk, by rw [e_nilck, e1]; rfl, h.put d (v := .ptr id a') (o := false) ⟨id, hid, rfl⟩⟩
  · rename_i i a' hx
    obtain ⟨w, hw, e1⟩ := h.opd hx
    obtain ⟨cs, e2, e3⟩ := nf_el e1
    exact ⟨_, ι, _, hk, by rw [e_nilck, e2]; rfl, h.put d (v := .el cs a') (o := false) ⟨w, hw, by rw [← e3]; rfl⟩⟩
  · cases hk
theorem op_call (h : Sat c S ι s) (hΓ : GamOK GA gl Γ ow) {f' : Nat} {xs : List Opd} (hk : op1 (BV Γ f) ow d (.call f' xs) S k = some r) : Res1 c GA gl d (.call f' xs) g a s k r := by
  obtain ⟨ys, S1, h1, h2, h3, h4, h5⟩ := h.matL hk
  simp only [BV, Option.bind_eq_some_iff] at h1
  obtain ⟨z, hz, h1⟩ := h1
  subst h4
  obtain ⟨v, o, q1, q2, q3, q4⟩ := hΓ.p _ _ _ h5 hz
  exact ⟨_, ι, _, h1, by rw [e_call, q1]; rfl, h2.putN q2 q3 q4 (fun h => nomatch h)⟩

/-! ## calls that take objects -/
theorem atO_ok (h : Sat c S ι s) {y : Option Sy} {v : V} {o : Bool} (hy : ∀ z, y = some z → SyS ι S.vals z v o) {kk : At → PS V → Option V} (hk : atO (BV Γ f) S y kk = some r) :
    ∃ a S', kk a S' = some r ∧ Sat c S' ι s ∧ Ext S S' ∧ AtS ι S'.vals a v o := by
  unfold atO at hk
  split at hk
  · exact ⟨_, S, hk, h, .refl S, hy _ rfl⟩
  · rename_i ss z
    exact ⟨_, S, hk, h, .refl S, (hy _ rfl).2 z rfl, fun h => (nomatch h), fun h => (nomatch h)⟩
  · rename_i ss
    split at hk
    · rename_i ns xs hs
      simp only [BV, evp, Option.bind_eq_some_iff, Option.map_eq_some_iff] at hk
      obtain ⟨x, ⟨l, hl, rfl⟩, hk⟩ := hk
      obtain ⟨⟨cs, rfl, h3⟩, _⟩ := hy _ rfl
      obtain ⟨rfl, hc⟩ := h.segVals h3 hs hl
      have hx : (V.agg (nfL cs)).clean = true := catV_nf hl hc
      exact ⟨_, _, hk, h.push hx, .push _ _, push_get _ _, fun h => (nomatch h), fun h => (nomatch h)⟩
    · cases hk
  · cases hk
theorem atsO_ok : ∀ {xs : List Opd} {S : PS V} {kk : List At → PS V → Option V}, Sat c S ι s → atsO (BV Γ f) S xs kk = some r → ∃ az S', kk az S' = some r ∧ Sat c S' ι s ∧ Ext S S' ∧ AtsS ι S'.vals az (xs.map (evO s.tm))
  | [], S, kk, h, hk => ⟨[], S, hk, h, .refl S, rfl⟩
  | x :: xs, S, kk, h, hk => by
    simp only [atsO] at hk
    obtain ⟨a', S1, h1, h2, h3, h4⟩ := atO_ok h (v := evO s.tm x) (o := ownO s.own x) (fun z hz => h.opd hz) hk
    obtain ⟨az, S2, h5, h6, h7, h8⟩ := atsO_ok h2 h1
    exact ⟨_, S2, h5, h6, h3.trans h7, _, _, rfl, (h4.mono (.refl _) h7.pre).noOwn false, h8⟩
theorem not_clean : ∀ {az : List At} {ws : List V} {vs : List V}, AtsS ι vs az ws → az.any At.isPtr = true → cleanL ws = false
  | [], _, _, _, h => by cases h
  | a' :: az, ws, vs, ⟨w, ws', e, h1, h2⟩, h => by
    subst e
    simp only [List.any_cons, Bool.or_eq_true] at h
    rcases h with h | h
    · cases a' <;> simp [At.isPtr] at h
      all_goals (obtain ⟨id, _, e⟩ := h1; rw [e]; rfl)
    · simp only [cleanL, not_clean h2 h, Bool.and_false]
theorem psAts_ok : ∀ {ps : List (Nat × Nat)} {cs : List V} {vs : List V}, PsS ι ps cs → AtsS ι vs (psAts ps) cs
  | [], _, _, h => h
  | p :: ps, _, _, ⟨id, cs', h1, h2, h3⟩ => ⟨_, _, h2, ⟨id, h1, rfl⟩, psAts_ok h3⟩
theorem AtsS.app {vs : List V} {bz : List At} {us : List V} : ∀ {az : List At} {ws : List V}, AtsS ι vs az ws → AtsS ι vs bz us → AtsS ι vs (az ++ bz) (ws ++ us)
  | [], ws, h, k => by rw [show ws = [] from h]; exact k
  | _ :: _, _, ⟨w, ws', e, h1, h2⟩, k => ⟨w, ws' ++ us, by rw [e]; rfl, h1, h2.app k⟩
theorem unp_ok {ys : List V} {kk : List V → Option V} : ∀ {n i nx : Nat} {kk : List V → Option V}, unp (BV Γ f) (.tup ys) n i nx kk = some r → ∃ l, kk l = some r ∧ l = (ys.drop i).take n ∧ l.length = n
  | 0, i, nx, kk, h => ⟨[], h, by simp, rfl⟩
  | n + 1, i, nx, kk, h => by
    simp only [unp, BV, evp, Option.bind_eq_some_iff] at h
    obtain ⟨x, hx, h⟩ := h
    rw [vExt_tup] at hx
    obtain ⟨l, h1, h2, h3⟩ := unp_ok (kk := fun xs => kk (x :: xs)) h
    refine ⟨x :: l, h1, ?_, by simp [h3]⟩
    obtain ⟨h4, h5⟩ := List.getElem?_eq_some_iff.1 hx
    rw [List.drop_eq_getElem_cons h4, List.take_succ_cons, h5, h2]
theorem oneV_clean {xs : List V} (h : cleanL xs = true) : (oneV xs).clean = true := by
  unfold oneV
  split
  · simpa [cleanL] using h
  · exact h
theorem dumV_clean {xs : List V} (h : cleanL xs = true) : cleanL (dumV xs) = true := by
  unfold dumV
  split
  · rfl
  · exact h
theorem packR_clean {n j : Nat} {xs : List V} (h : cleanL xs = true) : (packR n j xs).clean = true := by
  unfold packR
  split
  · exact oneV_clean h
  · exact oneV_clean (by simp only [cleanL, dumV_clean h, Bool.and_true]; rfl)
theorem callRs_ok (h : Sat c S ι s) {g0 : Nat} {ρ : List (Nat × Nat)} (hr : RI g0 ρ) (hcov : Cov g0 ρ ι) {rt : RT} {xs : List V} {v : V} {o : Bool} {hs' : HS} {ι' : List Nat} (hR : RetS ⟨ιOf g0 ρ ι, s.hs⟩ rt xs v o hs' ι') {tag : Bool} {w : V}
    (hw2 : tag = true → ∃ t, w = .tup (t :: dumV xs)) (hw3 : tag = false → w = oneV xs)
    (hk : callRs (BV Γ f) S g0 ρ d tag w rt k = some r) : ∃ S' ι2, k S' = some r ∧ Sat c S' ι2 ((s.setHS hs').put d v o) := by
  unfold callRs at hk
  split at hk
  · rename_i hg
    have hg' : g0 ≤ rt.ob.length := Nat.le_of_ble_eq_true hg
    have key : putRs (BV Γ f) (S.after g0 ρ rt xs).2 d k (rnAts (S.after g0 ρ rt xs).1 S.vals.length rt.res) = some r := by
      unfold unpR at hk
      have hn := hR.n
      split at hk
      · rename_i hn1
        rw [hw3 rfl] at hk
        have : [oneV xs] = xs := by
          match xs, hn.trans hn1 with
          | [x], _ => rfl
        rw [this] at hk; exact hk
      · rename_i hn1
        have e : w = .tup xs := by
          rw [hw3 rfl]
          unfold oneV
          split
          · rename_i x; exact absurd (show rt.n = 1 from hn.symm) hn1
          · rfl
        rw [e] at hk
        obtain ⟨l, h1, h2, h3⟩ := unp_ok (kk := fun _ => none) hk
        rw [List.drop_zero, List.take_of_length_le (by omega)] at h2
        rw [h2] at h1; exact h1
      · obtain ⟨t, e⟩ := hw2 rfl
        rw [e] at hk
        obtain ⟨l, h1, h2, h3⟩ := unp_ok (kk := fun _ => none) hk
        rw [List.drop_succ_cons, List.drop_zero] at h2
        have : (dumV xs).take rt.n = xs := by
          unfold dumV
          split
          · rw [← hn]; rfl
          · exact List.take_of_length_le (by omega)
        rw [this] at h2
        rw [h2] at h1; exact h1
    obtain ⟨h1, h2⟩ := after_ok h hr hcov hR hg'
    unfold putRs at key
    split at key
    · rename_i a' ha
      match hres : rt.res, ha with
      | [a0], ha =>
        have hR1 := hR.res
        rw [hres] at hR1
        simp only [rnAts] at ha
        split at ha
        · rename_i x l hx hl
          cases hl
          cases ha
          exact ⟨_, _, key, h1.put d (y := .at a') ((rnAt_ok h2 hx).1 _ _ hR1)⟩
        · cases ha
      | [], ha => cases ha
      | a0 :: a1 :: l, ha =>
        exfalso
        simp only [rnAts] at ha
        split at ha
        · rename_i x l hx hl
          split at hl
          · cases hl; cases ha
          · cases hl
        · cases ha
    · rename_i az hno ha
      have hne : ∀ a0, rt.res ≠ [a0] := fun a0 e => by
        rw [e] at ha
        simp only [rnAts] at ha
        split at ha
        · rename_i x l hx hl
          cases hl; cases ha
          exact hno _ rfl
        · cases ha
      have hR1 := hR.res
      unfold ResS at hR1
      split at hR1
      · rename_i e; exact absurd e (hne _)
      · obtain ⟨ws, e, hws⟩ := hR1
        exact ⟨_, _, key, h1.put d (y := .tup az) ⟨ws, e, rnAts_ok h2 ha hws⟩⟩
    · cases key
  · cases hk
theorem swR_ok {t : V} {j : Nat} (ht : t = .int .i64 j) {kk : PS V → RT → Option V} : ∀ {l : List RT} {S : PS V} {j0 m : Nat} {rt : RT}, Sat c S ι s → swR (BV Γ f) t kk S j0 l = some r → l[m]? = some rt → j = j0 + m → ∃ S', kk S' rt = some r ∧ Sat c S' ι s
  | [], S, j0, m, rt, h, hk, hl, hj => by simp at hl
  | [x], S, j0, m, rt, h, hk, hl, hj => by
    cases m with
    | zero => simp at hl; subst hl; exact ⟨S, hk, h⟩
    | succ m => simp at hl
  | x :: y :: l, S, j0, m, rt, h, hk, hl, hj => by
    simp only [swR, BV, Option.bind_eq_some_iff] at hk
    obtain ⟨b, hb, hk⟩ := hk
    subst ht
    simp only [evp, abin, aint, if_true, Option.some.injEq] at hb
    subst hb
    have hp := h.push (x := .bool (decide ((j : Int) = (j0 : Int)))) rfl
    rcases vif_some' hk with ⟨e, h1⟩ | ⟨e, h1⟩
    · simp only [V.bool.injEq, decide_eq_true_eq] at e
      cases m with
      | zero => simp at hl; subst hl; exact ⟨_, h1, hp⟩
      | succ m => omega
    · simp only [V.bool.injEq, decide_eq_false_iff_not] at e
      cases m with
      | zero => omega
      | succ m => exact swR_ok rfl (l := y :: l) (j0 := j0 + 1) (m := m) hp (by exact_mod_cast h1) (by simpa using hl) (by omega)
theorem callE_ok (h : Sat c S ι s) (hΓ : GamOK GA gl Γ ow) {az : List At} {args : List V} (ha : AtsS ι S.vals az args) {F : Nat} (hk : callE (BV Γ f) S d k (pickE (BV Γ f) S az (ow.he F)) = some r) :
    ∃ v o hs', GA.h F args s.hs = some (v, o, hs') ∧ ∃ S' ι', k S' = some r ∧ Sat c S' ι' ((s.setHS hs').put d v o) := by
  unfold callE at hk
  split at hk
  · rename_i E ρ xs hp
    obtain ⟨hE, hf⟩ := pickE_ok hp
    obtain ⟨q1, q2, q3, q4, q5⟩ := fitE_ok h hf ha
    split at hk
    · rename_i rt hret
      obtain ⟨w, hw, hk⟩ := Option.bind_eq_some_iff.1 (show (Γ E.k 1 xs).bind _ = some r from hk)
      obtain ⟨v, o, hs', e1, j, rt', xs', ι', e2, e3, hR⟩ := hΓ.h F E hE _ hret xs w hw args _ s.hs q1 q2 q5
      have hj : j = 0 ∧ rt' = rt := by
        cases j with
        | zero => simp at e2; exact ⟨rfl, e2.symm⟩
        | succ j => simp at e2
      obtain ⟨rfl, rfl⟩ := hj
      have hwc : w.clean = true := by rw [e3]; exact packR_clean hR.cl
      exact ⟨v, o, hs', e1, callRs_ok (h.push hwc) q3 q4 hR (fun h => by cases h) (fun _ => e3) hk⟩
    · rename_i rts hno hret
      obtain ⟨w, hw, hk⟩ := Option.bind_eq_some_iff.1 (show (Γ E.k 1 xs).bind _ = some r from hk)
      obtain ⟨t, ht, hk⟩ := Option.bind_eq_some_iff.1 (show (evp (.ext 0) [w]).bind _ = some r from hk)
      obtain ⟨v, o, hs', e1, j, rt', xs', ι', e2, e3, hR⟩ := hΓ.h F E hE _ hret xs w hw args _ s.hs q1 q2 q5
      have hwc : w.clean = true := by rw [e3]; exact packR_clean hR.cl
      have hwt : w = .tup (.int .i64 j :: dumV xs') := by
        rw [e3]
        unfold packR
        split
        · rename_i hl
          match rts, hl, hno with
          | [rt], _, hno => exact absurd rfl (hno rt)
        · cases xs' <;> rfl
      rw [hwt] at ht
      simp only [evp, vExt_tup, List.getElem?_cons_zero, Option.some.injEq] at ht
      subst ht
      obtain ⟨S1, h1, h2⟩ := swR_ok rfl (j0 := 0) ((h.push hwc).push (x := .int .i64 j) rfl) hk e2 (by omega)
      exact ⟨v, o, hs', e1, callRs_ok h2 q3 q4 hR (fun _ => ⟨_, hwt⟩) (fun h => by cases h) h1⟩
    · cases hk
  · cases hk
theorem e_callh {F : Nat} {xs : List Opd} : exec1 GA gl ⟨d, .callh F xs, g, a⟩ s = (GA.h F (xs.map (evO s.tm)) s.hs).map fun r => (s.setHS r.2.2).put d r.1 r.2.1 := rfl
theorem e_callvh {x : Opd} {xs : List Opd} {F : Nat} {l : List V} (e : fnArgs (evO s.tm x) (xs.map (evO s.tm)) = some (F, l)) : exec1 GA gl ⟨d, .callvh x xs, g, a⟩ s = match GA.p F l with
      | some r => some (s.put d r.1 r.2)
      | none => (GA.h F l s.hs).map fun r => (s.setHS r.2.2).put d r.1 r.2.1 := by
  have e' : fnArgs (s.ev x) (xs.map s.ev) = some (F, l) := e
  simp only [exec1, e']
  rfl
theorem op_callh (h : Sat c S ι s) (hΓ : GamOK GA gl Γ ow) {F : Nat} {xs : List Opd} (hk : op1 (BV Γ f) ow d (.callh F xs) S k = some r) : Res1 c GA gl d (.callh F xs) g a s k r := by
  simp only [op1] at hk
  obtain ⟨az, S1, h1, h2, h3, h4⟩ := atsO_ok h hk
  obtain ⟨v, o, hs', e1, S', ι', e2, e3⟩ := callE_ok h2 hΓ h4 h1
  exact ⟨S', ι', _, e2, by rw [e_callh, e1]; rfl, e3⟩
theorem op_callvh (h : Sat c S ι s) (hΓ : GamOK GA gl Γ ow) {x : Opd} {xs : List Opd} (hk : op1 (BV Γ f) ow d (.callvh x xs) S k = some r) : Res1 c GA gl d (.callvh x xs) g a s k r := by
  simp only [op1] at hk
  have heap : ∀ {F : Nat} {l : List V} {S1 : PS V} {az : List At}, fnArgs (evO s.tm x) (xs.map (evO s.tm)) = some (F, l) → Sat c S1 ι s → AtsS ι S1.vals az l → az.any At.isPtr = true → callE (BV Γ f) S1 d k (pickE (BV Γ f) S1 az (ow.he F)) = some r → Res1 c GA gl d (.callvh x xs) g a s k r := by
    intro F l S1 az e h1 h2 h3 h4
    obtain ⟨v, o, hs', e1, S', ι', e2, e3⟩ := callE_ok h1 hΓ h2 h4
    refine ⟨S', ι', _, e2, ?_, e3⟩
    rw [e_callvh e]
    have hnone : GA.p F l = none := by
      cases hp : GA.p F l with
      | none => rfl
      | some q => have := hΓ.c _ _ _ hp; rw [not_clean h2 h3] at this; cases this
    rw [hnone]; simp only [e1]; rfl
  have plain : ∀ {F : Nat} {cs : List V} {z : V}, (evO s.tm x) = .fn F cs → cleanL (nfL (xs.map (evO s.tm))) = true → cleanL (nfL cs) = true → Γ F 0 (nfL (xs.map (evO s.tm)) ++ nfL cs) = some z → ∃ v o, exec1 GA gl ⟨d, .callvh x xs, g, a⟩ s = some (s.put d v o) ∧ v.nf = z ∧ z.clean = true ∧ (ow.ow F = true → Own v o) := by
    intro F cs z e h5 hc hz
    rw [← nfL_append] at hz
    obtain ⟨v, o, q1, q2, q3, q4⟩ := hΓ.p _ _ _ (by rw [nfL_append]; exact clean_app h5 hc) hz
    exact ⟨v, o, by rw [e_callvh (show fnArgs _ _ = some (F, _) by rw [e]; rfl), q1], q2, q3, q4⟩
  split at hk
  · rename_i m F ps hx
    obtain ⟨cs, e, hps⟩ := h.opd hx
    obtain ⟨az, S1, h1, h2, h3, h4⟩ := atsO_ok h hk
    split at h1
    · rename_i hb
      cases m with
      | false => exact heap (F := F) (by rw [e]; rfl) h2 (h4.app (psAts_ok hps)) hb h1
      | true => exact heap (F := F) (by rw [e]; rfl) h2 ((psAts_ok hps).app h4) hb h1
    · cases h1
  · rename_i F o' hx
    obtain ⟨e1, e2, _⟩ := h.opd hx
    obtain ⟨cs, e3, e4⟩ := nf_fn e1
    have : cs = [] := by cases cs with
      | nil => rfl
      | cons _ _ => cases e4
    subst this
    split at hk
    · obtain ⟨ys, S1, h1, h2, h3, h4, h5⟩ := h.matL hk
      subst h4
      simp only [BV, Option.bind_eq_some_iff] at h1
      obtain ⟨z, hz, h1⟩ := h1
      obtain ⟨v, o, q1, q2, q3, q4⟩ := plain e3 h5 rfl (by simpa [nfL] using hz)
      exact ⟨_, ι, _, h1, q1, h2.putN q2 q3 q4 (fun h => nomatch h)⟩
    · obtain ⟨az, S1, h1, h2, h3, h4⟩ := atsO_ok h hk
      split at h1
      · rename_i hb
        exact heap (F := F) (l := xs.map (evO s.tm)) (by rw [e3]; simp [fnArgs]) h2 h4 hb h1
      · cases h1
  · rename_i at' _ _ hx
    obtain ⟨ys, S1, h1, h2, h3, h4, h5⟩ := h.matL hk
    subst h4
    split at h1
    · rename_i w hw
      obtain ⟨rfl, hc⟩ := h2.val (by have := h2.opd (x := x) (y := .at at') (by rw [h3.opd]; exact hx); exact this) hw
      simp only [BV, Option.bind_eq_some_iff] at h1
      obtain ⟨z, hz, h1⟩ := h1
      unfold vApply at hz
      split at hz
      · rename_i F caps e
        obtain ⟨cs, e3, rfl⟩ := nf_fn e
        obtain ⟨v, o, q1, q2, q3, q4⟩ := plain e3 h5 (by rw [e] at hc; simpa [V.clean] using hc) hz
        exact ⟨_, ι, _, h1, q1, h2.putN q2 q3 (fun h => nomatch h) (fun h => nomatch h)⟩
      · cases hz
    · cases h1
  · cases hk
theorem op_ext (h : Sat c S ι s) {t : Opd} {i : Nat} (hk : op1 (BV Γ f) ow d (.ext t i) S k = some r) : Res1 c GA gl d (.ext t i) g a s k r := by
  simp only [op1] at hk
  split at hk
  · rename_i az hx
    split at hk
    · rename_i a' ha
      obtain ⟨ws, e, h1⟩ := h.opd hx
      obtain ⟨h2, h3⟩ := h1.get
      have h4 := h3 i a' ha
      have hlt : i < ws.length := by rw [← h2]; exact (List.getElem?_eq_some_iff.1 ha).1
      refine ⟨_, ι, s.put d (ws.getD i Nil) false, hk, ?_, h.put d (y := .at a'.noOwn) (h4.noOwn false)⟩
      rw [e_ext, e, vExt_tup, List.getElem?_eq_getElem hlt]
      simp [List.getD, hlt]
    · cases hk
  · exact simple_ok h rfl hk
theorem ptrsOf_ok (h : Sat c S ι s) : ∀ {xs : List Opd} {ps : List (Nat × Nat)}, ptrsOf S xs = some ps → PsS ι ps (xs.map (evO s.tm))
  | [], ps, hp => by cases hp; rfl
  | x :: xs, ps, hp => by
    simp only [ptrsOf] at hp
    split at hp
    · rename_i o off l hx hl
      cases hp
      obtain ⟨id, h1, h2⟩ := h.opd hx
      exact ⟨id, _, h1, by rw [List.map_cons, h2], ptrsOf_ok h hl⟩
    · cases hp
theorem op_mkf (h : Sat c S ι s) {F : Nat} {xs : List Opd} (hk : op1 (BV Γ f) ow d (.mkf F xs) S k = some r) : Res1 c GA gl d (.mkf F xs) g a s k r := by
  simp only [op1] at hk
  split at hk
  · rename_i p ps hp
    exact ⟨_, ι, _, hk, e_mkf F xs, h.put d (y := .at (.fp false F (p :: ps))) (v := .fn F (xs.map (evO s.tm))) (o := false) ⟨_, rfl, ptrsOf_ok h hp⟩⟩
  · exact simple_ok h rfl hk
theorem op_mkm (h : Sat c S ι s) {F : Nat} {xs : List Opd} (hk : op1 (BV Γ f) ow d (.mkm F xs) S k = some r) : Res1 c GA gl d (.mkm F xs) g a s k r := by
  simp only [op1] at hk
  split at hk
  · rename_i p ps hp
    exact ⟨_, ι, _, hk, e_mkm F xs, h.put d (y := .at (.fp true F (p :: ps))) (v := .mfn F (xs.map (evO s.tm))) (o := false) ⟨_, rfl, ptrsOf_ok h hp⟩⟩
  · cases hk
end Go.Abs
/-
  Y, part 7: operations on objects and structs: the plain one follows what the reader says. Own work of this seat.
-/
namespace Go.Abs

variable {GA : Abs.Spec} {gl : Glob} {Γ : Gam} {f : Nat} {ow : Cfg} {κ : Fc} {ι : List Nat} {s : St} {S : PS V} {d : Option Nat} {g : Option (Nat × Bool)} {a : List Nat} {r : V} {k : PS V → Option V}

/-! ## values of atoms that are not slots' -/
theorem Sat.matV (h : Sat κ S ι s) {at' : At} {w : V} (hw : AtV S.vals at' w) {kk : V → PS V → Option V} (hk : Abs.mat (BV Γ f) S (some (.at at')) kk = some r) : kk w S = some r ∧ w.clean = true := by
  simp only [Abs.mat] at hk
  split at hk
  · rename_i x hx
    obtain ⟨rfl, hc⟩ := h.valV hw hx
    exact ⟨hk, hc⟩
  · cases hk
theorem mat_isV {at' : At} {S' : PS V} {kk : V → PS V → Option V} (hk : mat (BV Γ f) S' (some (.at at')) kk = some r) : at'.isVal = true := by
  simp only [Abs.mat] at hk
  split at hk
  · rename_i x hx
    cases at' <;> simp [PS.valA] at hx <;> rfl
  · cases hk

/-! ## reading an object -/
theorem ldCells_mid {n : Option Nat} {cp cg cq : List V} {q : Nat} {v : V} (hv : ldCells n cg q = some v) : ldCells n (cp ++ (cg ++ cq)) (cp.length + q) = some v := by
  rw [ld_right cp.length rfl (by omega), show cp.length + q - cp.length = q by omega]
  cases n with
  | none =>
    have := (List.getElem?_eq_some_iff.1 (show cg[q]? = some v from hv)).1
    rw [ld_left (by simp; omega)]; exact hv
  | some m =>
    simp only [ldCells] at hv
    split at hv
    · rename_i hc
      rw [ld_left (by simp; omega)]
      simp only [ldCells]; rw [if_pos hc]; exact hv
    · cases hv
theorem ldIn_ok (h : Sat κ S ι s) {w : V} {at' : At} (hw : AtV S.vals at' w) {n : Option Nat} {q : Nat} {cg : List V} (hcg : nfL cg = w.cells) {k : Sy → PS V → Option V} (hk : ldIn (BV Γ f) S at' n q k = some r) :
    ∃ v y S', ldCells n cg q = some v ∧ k y S' = some r ∧ Sat κ S' ι s ∧ Ext S S' ∧ SyS ι S'.vals y v false := by
  obtain ⟨h1, h2⟩ := h.matV hw hk
  simp only [BV, Option.bind_eq_some_iff] at h1
  obtain ⟨z, hz, h1⟩ := h1
  simp only [evp, ← hcg] at hz
  obtain ⟨v, hv, rfl⟩ := ldCells_nf hz
  refine ⟨v, _, _, hv, h1, h.push (ldCells_clean ?_ hz), .push _ _, ⟨push_get _ _, fun h => (nomatch h), fun h => (nomatch h)⟩⟩
  rw [hcg]; exact clean_cells h2

theorem ldSegs_ok (h : Sat κ S ι s) {ss : List Seg} {cs : List V} {ow' : Nat → Bool} (hseg : SegsS ι S.vals ss cs ow' 0) {off i m : Nat} {sg : Seg} (hs : segAt ss off 0 = some (sg, 0, i)) {alt : Option V} {k : Sy → PS V → Option V} (hk : ldSegs (BV Γ f) S ss i m k alt = some r) :
    (∃ v y S', ldCells (some m) cs off = some v ∧ k y S' = some r ∧ Sat κ S' ι s ∧ Ext S S' ∧ SyS ι S'.vals y v false) ∨ alt = some r := by
  unfold ldSegs at hk
  split at hk
  · rename_i q hq
    left
    obtain ⟨p, q', cp, cg, cq, e1, e2, e3, e4, e5, e6, e7, e8, e9⟩ := segAt_ok hseg hs
    simp only [Nat.zero_add, Nat.add_zero] at e2 e4 e7 e8
    subst e1; subst e3; subst e2
    have hd : (p ++ sg :: q').drop p.length = sg :: q' := by simp
    rw [hd] at hq hk
    have hr : SegsS ι S.vals (sg :: q') (cg ++ cq) ow' cp.length := by
      refine SegsS.app (p := [sg]) (q := q') ?_ e7 e8
      cases hsl : sg.len with
      | none => exact .inr (e9 hsl)
      | some k => exact .inl fun s' hs' => by simp at hs'; rw [hs', hsl]; rfl
    obtain ⟨c1, c2, k1, k2, k3, k4, k5, k6⟩ := segCount_ok hr hq
    have hld : ldCells (some m) (cp ++ (cg ++ cq)) off = some (.agg c1) := by
      rw [k1, e4]
      have := ldCells_mid (n := some m) (cp := cp) (cg := c1) (cq := c2) (q := 0) (v := .agg c1) (by simp only [ldCells]; rw [if_pos (by omega), List.drop_zero, List.take_of_length_le (by omega)])
      simpa using this
    split at hk
    · rename_i ns xs hsv
      simp only [BV, evp, Option.bind_eq_some_iff, Option.map_eq_some_iff] at hk
      obtain ⟨x, ⟨l, hl, rfl⟩, hk⟩ := hk
      obtain ⟨rfl, hc⟩ := h.segVals k5 hsv hl
      refine ⟨_, _, _, hld, hk, h.push (x := .agg (nfL c1)) (catV_nf hl hc), .push _ _, ⟨⟨c1, rfl, ?_⟩, fun i hi => ?_⟩⟩
      · exact (k5.mono (.refl _) (Ext.push S _).pre).noOwn _ 0 _
      · cases hi; rw [push_get]; rfl
    · exact ⟨_, _, _, hld, hk, h, .refl S, ⟨⟨c1, rfl, k5.noOwn _ 0 _⟩, fun i hi => by cases hi⟩⟩
  · exact .inr hk

theorem ldY_ok (h : Sat κ S ι s) {ss : List Seg} {cs : List V} {ow' : Nat → Bool} (hseg : SegsS ι S.vals ss cs ow' 0) {off : Nat} {n : Option Nat} {k : Sy → PS V → Option V} (hk : ldY (BV Γ f) S ss off n k = some r) :
    ∃ v y S', ldCells n cs off = some v ∧ k y S' = some r ∧ Sat κ S' ι s ∧ Ext S S' ∧ SyS ι S'.vals y v false := by
  unfold ldY at hk
  split at hk
  · rename_i a' i hs
    obtain ⟨p, q', cp, cg, cq, e1, e2, e3, e4, e5, e6, e7, e8, e9⟩ := segAt_ok hseg hs
    obtain ⟨c, cs', f1, f2, f3, f4⟩ := e7
    rw [show cs' = [] from f4] at f1
    subst f1; subst e3
    refine ⟨c, _, _, ?_, hk, h, .refl S, f2.noOwn false⟩
    rw [e4]; exact ldCells_mid (n := none) (q := 0) (v := c) rfl
  · rename_i a' i m hs
    rcases ldSegs_ok h hseg hs hk with h1 | h1
    · exact h1
    · cases h1
  · rename_i m' a' i m hs
    obtain ⟨p, q', cp, cg, cq, e1, e2, e3, e4, e5, e6, e7, e8, e9⟩ := segAt_ok hseg hs
    obtain ⟨l, cs', w, f1, f2, f3, f4, f5, f6, f7⟩ := e7
    rw [show cs' = [] from f7, List.append_nil] at f1
    subst f1; subst e3
    split at hk
    · rename_i hc
      simp only [Bool.and_eq_true] at hc
      obtain rfl := Nat.eq_of_beq_eq_true hc.1
      have h2 := Nat.le_of_ble_eq_true hc.2
      have hl := f2 _ rfl
      have hw : w = .agg w.cells := by
        have : w.cells.length = m := by rw [← f6, nfL_length, hl]
        cases w <;> first | rfl | (simp [V.cells] at this; omega)
      refine ⟨.agg cg, _, _, ?_, hk, h, .refl S, ?_⟩
      · rw [e4]; exact ldCells_mid (n := some m) (q := 0) (v := .agg cg) (by simp only [ldCells]; rw [if_pos (by omega), List.drop_zero, List.take_of_length_le (by omega)])
      · cases a' with
        | c v o => obtain ⟨rfl, hcl⟩ := f5; exact ⟨by rw [hw]; show V.agg (nfL cg) = _; rw [f6], hcl, fun h => nomatch h⟩
        | n i o sc => exact ⟨by rw [show S.vals[i]? = some w from f5, hw]; show _ = some (V.agg (nfL cg)); rw [f6], fun h => (nomatch h), fun h => (nomatch h)⟩
        | _ => exact f5.elim
    · rcases ldSegs_ok h hseg hs hk with h1 | h1
      · exact h1
      · obtain ⟨v, y, S', q1, q2⟩ := ldIn_ok h f5 f6 h1
        exact ⟨v, y, S', by rw [e4]; exact ldCells_mid q1, q2⟩
  · rename_i sn a' q i hs _
    obtain ⟨p, q', cp, cg, cq, e1, e2, e3, e4, e5, e6, e7, e8, e9⟩ := segAt_ok hseg hs
    obtain ⟨l, cs', w, f1, f2, f3, f4, f5, f6, f7⟩ := e7
    rw [show cs' = [] from f7, List.append_nil] at f1
    subst f1; subst e3
    obtain ⟨v, y, S', q1, q2⟩ := ldIn_ok h f5 f6 hk
    exact ⟨v, y, S', by rw [e4]; exact ldCells_mid q1, q2⟩
  · cases hk

theorem ldAt_ok (h : Sat κ S ι s) {ss : List Seg} {cs : List V} {ow' : Nat → Bool} (hseg : SegsS ι S.vals ss cs ow' 0) {off : Nat} {n : Option Nat} (hk : ldAt (BV Γ f) S ss off n d k = some r) :
    ∃ v S', ldCells n cs off = some v ∧ k S' = some r ∧ Sat κ S' ι (s.put d v false) := by
  obtain ⟨v, y, S', h1, h2, h3, _, h5⟩ := ldY_ok h hseg hk
  exact ⟨v, _, h1, h2, h3.put d h5⟩

theorem op_load (h : Sat κ S ι s) (hΓ : GamOK GA gl Γ ow) {n : Option Nat} {x : Opd} (hk : op1 (BV Γ f) ow d (.load n x) S k = some r) : Res1 κ GA gl d (.load n x) g a s k r := by
  simp only [op1] at hk
  split at hk
  · rename_i o off hx
    split at hk
    · rename_i ss hss
      obtain ⟨id, hid, e1⟩ := h.opd hx
      obtain ⟨id', cs, q1, q2, q3⟩ := h.ob o ss hss
      rw [hid] at q1; cases q1
      obtain ⟨v, S', h1, h2, h3⟩ := ldAt_ok h q3 hk
      exact ⟨S', ι, _, h2, by rw [e_load, e1, vLoad_ptr, q2]; simp only [Option.bind_some, h1]; rfl, h3⟩
    · cases hk
  · rename_i o b i sz hx
    split at hk
    · rename_i ss hss
      split at hk
      · rename_i a' q _ j hs hj
        obtain ⟨id, kd, m, hid, hm, e1⟩ := h.opd hx
        rw [hm] at hj; cases hj
        obtain ⟨id', cs, q1, q2, q3⟩ := h.ob o ss hss
        rw [hid] at q1; cases q1
        obtain ⟨p, q', cp, cg, cq, e1', e2, e3, e4, e5, e6, e7, e8, e9⟩ := segAt_ok q3 hs
        obtain ⟨l, cs', w, f1, f2, f3, f4, f5, f6, f7⟩ := e7
        rw [show cs' = [] from f7, List.append_nil] at f1
        subst f1; subst e3
        obtain ⟨h1, h2⟩ := h.matV f5 hk
        simp only [doX, BV, Option.bind_eq_some_iff] at h1
        obtain ⟨z, hz, h1⟩ := h1
        simp only [evp, vLdd, ← f6] at hz
        obtain ⟨v, hv, rfl⟩ := ldCells_nf hz
        refine ⟨_, ι, _, h1, ?_, h.putN (v := v) (o := false) rfl (ldCells_clean ?_ hz) (fun h => nomatch h) (fun h => nomatch h)⟩
        · rw [e_load, e1, vLoad_ptr, q2]
          simp only [Option.bind_some]
          rw [show b + m.toNat * sz = cp.length + (q + m.toNat * sz) by omega, ldCells_mid hv]; rfl
        · rw [f6]; exact clean_cells h2
      · cases hk
    · cases hk
  · rename_i i off hx
    split at hk
    · rename_i x' hx'
      obtain ⟨w, hw, e1⟩ := h.opd hx
      rw [hw] at hx'; cases hx'
      obtain ⟨cs, e2, e3⟩ := nf_el e1
      simp only [doX, BV, Option.bind_eq_some_iff] at hk
      obtain ⟨z, hz, hk⟩ := hk
      simp only [evp, ← e3] at hz
      obtain ⟨v, hv, rfl⟩ := ldCells_nf hz
      refine ⟨_, ι, _, hk, by rw [e_load, e2, vLoad_el, hv]; rfl, h.putN (v := v) (o := false) rfl (ldCells_clean ?_ hz) (fun h => nomatch h) (fun h => nomatch h)⟩
      rw [e3]; exact clean_cells (h.cln _ (List.mem_of_getElem? hw))
    · cases hk
  · rename_i g' off hx
    split at hk
    · rename_i cs hcs
      have e1 : evO s.tm x = .gp g' off := h.opd hx
      obtain ⟨q1, q2, q3⟩ := hΓ.gl _ _ hcs
      simp only [doX, BV, Option.bind_eq_some_iff] at hk
      obtain ⟨z, hz, hk⟩ := hk
      simp only [evp, V.cells] at hz
      rw [← q2] at hz
      obtain ⟨v, hv, rfl⟩ := ldCells_nf hz
      refine ⟨_, ι, _, hk, by rw [e_load, e1]; simp only [vLoad, q1, Option.bind_some, hv]; rfl, h.putN (v := v) (o := false) rfl (ldCells_clean ?_ hz) (fun h => nomatch h) (fun h => nomatch h)⟩
      rw [q2]; exact q3
    · cases hk
  · rename_i g' b i sz hx
    split at hk
    · rename_i cs j hcs hj
      obtain ⟨kd, m, hm, e1⟩ := h.opd hx
      rw [hm] at hj; cases hj
      obtain ⟨q1, q2, q3⟩ := hΓ.gl _ _ hcs
      simp only [doX, BV, Option.bind_eq_some_iff] at hk
      obtain ⟨z, hz, hk⟩ := hk
      simp only [evp, vLdd, V.cells] at hz
      rw [← q2] at hz
      obtain ⟨v, hv, rfl⟩ := ldCells_nf hz
      refine ⟨_, ι, _, hk, by rw [e_load, e1]; simp only [vLoad, q1, Option.bind_some, hv]; rfl, h.putN (v := v) (o := false) rfl (ldCells_clean ?_ hz) (fun h => nomatch h) (fun h => nomatch h)⟩
      rw [q2]; exact q3
    · cases hk
  · cases hk
theorem op_fld (h : Sat κ S ι s) {n : Option Nat} {off : Nat} {x : Opd} (hk : op1 (BV Γ f) ow d (.fld n off x) S k = some r) : Res1 κ GA gl d (.fld n off x) g a s k r := by
  simp only [op1] at hk
  split at hk
  · rename_i ss z hx
    obtain ⟨⟨cs, e1, h1⟩, _⟩ := h.opd hx
    obtain ⟨v, S', h2, h3, h4⟩ := ldAt_ok h h1 hk
    exact ⟨S', ι, _, h3, by rw [e_fld, e1, vFld_agg, h2]; rfl, h4⟩
  · exact simple_ok h rfl hk

theorem setAt_same {cs : List V} {off : Nat} {c : V} (h : cs[off]? = some c) : setAt cs off [c] = cs := by
  obtain ⟨h1, h2⟩ := List.getElem?_eq_some_iff.1 h
  simp only [setAt, List.length_singleton]
  rw [← h2, List.append_assoc, List.singleton_append, ← List.drop_eq_getElem_cons h1, List.take_append_drop]
theorem cnt1 {a' : At} {ss : List Seg} : segCount (.one a' :: ss) 1 = some 1 := by
  simp only [segCount, Seg.len]
  rw [show (Nat.ble 1 (0 + 1) && Nat.ble 1 1) = true from rfl]
  cases ss <;> rfl
theorem at_one {ss : List Seg} {cs : List V} {ow' : Nat → Bool} {ι' : List Nat} {vs : List V} (hseg : SegsS ι' vs ss cs ow' 0) {off i : Nat} {a' : At} (hs : segAt ss off 0 = some (.one a', 0, i)) : ∃ c, cs[off]? = some c ∧ AtS ι' vs a' c (ow' off) ∧ c.sc = true ∧ segCount (ss.drop i) 1 = some 1 := by
  obtain ⟨p, q', cp, cg, cq, e1, e2, e3, e4, e5, e6, e7, e8, e9⟩ := segAt_ok hseg hs
  obtain ⟨c, cs', f1, f2, f3, f4⟩ := e7
  rw [show cs' = [] from f4] at f1
  subst f1; subst e3; subst e1
  simp only [Nat.zero_add, Nat.add_zero] at e2 e4 f2
  subst e2; subst e4
  refine ⟨c, ?_, f2, f3, ?_⟩
  · rw [List.getElem?_append_right (Nat.le_refl _)]; simp
  · rw [List.drop_left]; exact cnt1
theorem op_ldo (h : Sat κ S ι s) {x : Opd} (hk : op1 (BV Γ f) ow d (.ldo x) S k = some r) : Res1 κ GA gl d (.ldo x) g a s k r := by
  simp only [op1] at hk
  split at hk
  · rename_i o off hx
    split at hk
    · rename_i ss hss
      split at hk
      · rename_i a' i hs
        obtain ⟨id, hid, e1⟩ := h.opd hx
        obtain ⟨id', cs, q1, q2, q3⟩ := h.ob o ss hss
        rw [hid] at q1; cases q1
        obtain ⟨c, hc, h1, h2, h3⟩ := at_one q3 hs
        have h4 : Sat κ (S.setOb o (spl ss i 1 [.one a'.noOwn])) ι (s.take (some (.cell id off))) := by
          refine h.objUpd (s' := s.take (some (.cell id off))) hid rfl (fun t => by rw [take_own, if_neg (by simp)]) rfl (fun id' hne => ⟨rfl, fun j => by rw [take_own, if_neg (by simp; omega)]⟩) q2 ?_
          have := (spl_ok (ow' := fun j => (s.take (some (.cell id off))).own (.cell id j)) (ys := [c]) (q := [.one a'.noOwn]) q3 hs h3 ⟨c, [], rfl, h1.noOwn _, h2, rfl⟩ rfl (.inl fun s' hs' => by simp at hs'; rw [hs']; rfl) (fun j hj => by
            show (s.take (some (.cell id off))).own (.cell id j) = _
            rw [take_own, if_neg (by simp; omega)])).2
          rw [setAt_same hc] at this; exact this
        exact ⟨_, ι, (s.take (some (.cell id off))).put d c (s.own (.cell id off)), hk, by rw [e_ldo, e1]; simp [vLdo, q2, hc], h4.put d (y := .at a') h1⟩
      · cases hk
    · cases hk
  · cases hk

/-! ## writing an object -/
theorem cat_one {n : Nat} {x : V} {l : List V} (h : catV [some n] [x] = some l) : x.cells.length = n ∧ x.cells.all V.sc = true ∧ l = x.cells := by
  simp only [catV] at h
  split at h
  · rename_i hc
    simp only [Option.map_some, Option.some.injEq, List.append_nil] at h
    exact ⟨hc.1, hc.2, h.symm⟩
  · cases h
theorem nf_all_sc (l : List V) : (nfL l).all V.sc = l.all V.sc := by rw [nfL_map, List.all_map]; congr 1; funext w; exact nf_sc w
theorem asSegs_ok (h : Sat κ S ι s) {n : Nat} {y : Sy} {v : V} {o : Bool} (hy : SyS ι S.vals y v o) {mny : Bool} {kk : List Seg → PS V → Option V} (hk : asSegs (BV Γ f) S n y mny kk = some r) :
    ∃ q S', kk q S' = some r ∧ Sat κ S' ι s ∧ Ext S S' ∧ v.cells.length = n ∧ v.cells.all V.sc = true ∧ sized q ∧ SegsS ι S'.vals q v.cells (fun _ => false) 0 := by
  cases y with
  | tup az => simp only [asSegs, BV, reduceCtorEq] at hk
  | agg q z =>
    obtain ⟨⟨cs, rfl, h1⟩, hz⟩ := hy
    simp only [asSegs] at hk
    split at hk
    · rename_i m hm
      split at hk
      · rename_i hb
        obtain rfl := Nat.eq_of_beq_eq_true hb
        obtain ⟨cp, cq, e1, e2, e3, e4, e5, e6⟩ := segCount_ok h1 hm
        rw [List.take_length] at e3 e5
        rw [List.drop_length] at e6
        rw [show cq = [] from e6, List.append_nil] at e1
        subst e1
        split at hk
        · rename_i z
          exact ⟨_, S, hk, h, .refl S, e2, h1.all_sc, fun s' hs' => by (simp at hs'; rw [hs']; rfl), cs, [], .agg (nfL cs), by simp, fun m hm => by (cases hm; exact e2), fun hm => by (cases hm), h1.all_sc, hz z rfl, rfl, rfl⟩
        · exact ⟨q, S, hk, h, .refl S, e2, h1.all_sc, e3, h1⟩
      · cases hk
    · cases hk
  | «at» a' =>
    simp only [asSegs] at hk
    split at hk
    · split at hk
      · rename_i ho
        have hsc := AtS.one hy ho
        rw [sc_cells hsc]
        exact ⟨_, S, hk, h, .refl S, rfl, by simp [hsc], fun s' hs' => by (simp at hs'; rw [hs']; rfl), v, [], rfl, AtS.noOwn hy _, hsc, rfl⟩
      · obtain ⟨S1, h1, h2, h3, h4⟩ := h.mat hy hk
        simp only [BV, Option.bind_eq_some_iff] at h1
        obtain ⟨z, hz, h1⟩ := h1
        simp only [evp] at hz
        split at hz
        · rename_i hsc
          cases hz
          rw [nf_sc] at hsc
          rw [sc_cells hsc]
          exact ⟨_, _, h1, h2.push h4, h3.trans (.push _ _), rfl, by simp [hsc], fun s' hs' => by (simp at hs'; rw [hs']; rfl), v, [], rfl, ⟨push_get _ _, fun h => (nomatch h), fun _ => hsc⟩, hsc, rfl⟩
        · cases hz
    · rename_i n' hn'
      obtain ⟨S1, h1, h2, h3, h4⟩ := h.mat hy hk
      simp only [BV, evp, Option.bind_eq_some_iff, Option.map_eq_some_iff] at h1
      obtain ⟨z, ⟨l, hl, rfl⟩, h1⟩ := h1
      obtain ⟨q1, q2, rfl⟩ := cat_one hl
      rw [nf_cells] at q1 q2
      rw [nfL_length] at q1
      rw [nf_all_sc] at q2
      exact ⟨_, _, h1, h2.push (clean_cells h4), h3.trans (.push _ _), q1, q2, fun s' hs' => by (simp at hs'; rw [hs']; rfl), v.cells, [], .agg v.nf.cells, by simp, fun m hm => by (cases hm; exact q1), fun hm => by (cases hm), q2, push_get _ _, by rw [nf_cells]; rfl, rfl⟩

theorem stored {id off : Nat} {cs ys : List V} {j : Nat} (hcs : hCells s.H id = some cs) : hCells (s.setOb id cs off ys).H id = some (setAt cs off ys) := by rw [hCells_setOb, if_pos rfl]
theorem stAt_ok (h : Sat κ S ι s) {o id : Nat} {ss : List Seg} {cs : List V} (hid : ι[o]? = some id) (hcs : hCells s.H id = some cs) (hseg : SegsS ι S.vals ss cs (fun j => s.own (.cell id j)) 0) {off n : Nat} {y : Sy} {v : V} {ov : Bool} (hy : SyS ι S.vals y v ov)
    (hk : stAt (BV Γ f) S o ss off n y d k = some r) : ∃ S', k S' = some r ∧ (v.cells.length = n ∧ v.cells.all V.sc = true ∧ off + n ≤ cs.length) ∧ Sat κ S' ι ((s.setOb id cs off v.cells).put d Nil false) := by
  have upd : ∀ {S1 : PS V} {q : List Seg}, Sat κ S1 ι s → v.cells.length = n → SegsS ι S1.vals q (setAt cs off v.cells) (fun j => (s.setOb id cs off v.cells).own (.cell id j)) 0 → Sat κ ((S1.setOb o q).put d (.at .nil)) ι ((s.setOb id cs off v.cells).put d Nil false) := by
    intro S1 q h1 hn hq
    refine Sat.put (h1.objUpd (s' := s.setOb id cs off v.cells) hid rfl (fun t => rfl) rfl (fun id' hne => ⟨by simp only [St.setOb, upd, if_neg hne], fun j => by rw [setOb_ownc, if_neg (by omega)]⟩) (by rw [hCells_setOb, if_pos rfl]) hq) d (y := .at .nil) rfl
  have hown : v.cells.length = n → ∀ j, (j < off ∨ off + n ≤ j) → (s.setOb id cs off v.cells).own (.cell id j) = s.own (.cell id j) := fun hn j hj => by rw [setOb_ownc, if_neg (by omega)]
  unfold stAt at hk
  split at hk
  · rename_i sg q i hs
    split at hk
    · rename_i m hm
      split at hm
      · obtain ⟨qs, S1, h1, h2, h3, h4, h5, h6, h7⟩ := asSegs_ok h hy hk
        have := spl_ok (ow' := fun j => (s.setOb id cs off v.cells).own (.cell id j)) (ys := v.cells) (hseg.mono (.refl _) h3.pre) hs hm (h7.shift fun i hi => by
          show (s.setOb id cs off v.cells).own (.cell id (off + i)) = false
          rw [setOb_ownc, if_pos ⟨rfl, by omega, by omega⟩]) h4 (.inl h6) (hown h4)
        exact ⟨_, h1, ⟨h4, h5, this.1⟩, upd h2 h4 this.2⟩
      · cases hm
    · split at hk
      · rename_i sn a'
        obtain ⟨p, q', cp, cg, cq, e1, e2, e3, e4, e5, e6, e7, e8, e9⟩ := segAt_ok hseg hs
        obtain ⟨l, cs', w, f1, f2, f3, f4, f5, f6, f7⟩ := e7
        obtain ⟨h1, h2⟩ := h.matV f5 hk
        obtain ⟨S2, h3, h4, h5, h6⟩ := h.mat hy h1
        simp only [BV, Option.bind_eq_some_iff] at h3
        obtain ⟨z, hz, h3⟩ := h3
        simp only [evp, vSet] at hz
        split at hz
        · rename_i hc
          cases hz
          rw [nf_cells, nfL_length, nf_all_sc] at hc
          have hcl : (V.agg (setAt w.cells q v.nf.cells)).clean = true := cleanL_setAt (clean_cells h2) (clean_cells h6) _
          have := splIn_ok (ow' := fun j => (s.setOb id cs off v.cells).own (.cell id j)) (ys := v.cells) (i' := S2.nx) (x := w) ((hseg.mono (.refl _) h5.pre).mono (.refl _) (Ext.push S2 (V.agg (setAt w.cells q v.nf.cells))).pre) hs (fun w' hw' => by
            have := AtV.mono (h5.pre.trans (Ext.push S2 (V.agg (setAt w.cells q v.nf.cells))).pre) f5
            cases a' with
            | c v o => exact hw'.1.symm.trans this.1
            | n i o sc => exact Option.some.inj (hw'.symm.trans this)
            | _ => exact hw'.elim) (by omega) hc.1 hc.2.1 (push_get _ _) (by rw [nf_cells]) (hown hc.1)
          exact ⟨_, h3, ⟨hc.1, hc.2.1, this.1⟩, upd (h4.push hcl) hc.1 this.2⟩
        · cases hz
      · cases hk
  · cases hk

theorem op_store (h : Sat κ S ι s) {n : Nat} {x y : Opd} (hk : op1 (BV Γ f) ow d (.store n x y) S k = some r) : Res1 κ GA gl d (.store n x y) g a s k r := by
  simp only [op1] at hk
  split at hk
  · rename_i o off hx
    split at hk
    · rename_i ss y' hss hy
      obtain ⟨id, hid, e1⟩ := h.opd hx
      obtain ⟨id', cs, q1, q2, q3⟩ := h.ob o ss hss
      rw [hid] at q1; cases q1
      obtain ⟨S', h1, h2, h3⟩ := stAt_ok h hid q2 q3 (h.opd hy) hk
      exact ⟨S', ι, _, h1, by rw [e_store, e1, doStore_ptr, q2]; simp only [Option.bind_some]; rw [if_pos h2], h3⟩
    · cases hk
  · rename_i o b i sz hx
    split at hk
    · rename_i ss hss
      split at hk
      · rename_i sn a' q p j hs hj
        obtain ⟨id, kd, m, hid, hm, e1⟩ := h.opd hx
        rw [hm] at hj; cases hj
        obtain ⟨id', cs, q1, q2, q3⟩ := h.ob o ss hss
        rw [hid] at q1; cases q1
        obtain ⟨p', q', cp, cg, cq, e1', e2, e3, e4, e5, e6, e7, e8, e9⟩ := segAt_ok q3 hs
        obtain ⟨l, cs', w, f1, f2, f3, f4, f5, f6, f7⟩ := e7
        rw [show cs' = [] from f7, List.append_nil] at f1
        subst f1
        obtain ⟨h1, h2⟩ := h.matV f5 hk
        cases hy : S.opd y with
        | none => rw [hy] at h1; cases h1
        | some y' =>
        rw [hy] at h1
        obtain ⟨S2, h3, h4, h5, h6⟩ := h.mat (h.opd hy) h1
        simp only [BV, Option.bind_eq_some_iff] at h3
        obtain ⟨z, hz, h3⟩ := h3
        simp only [evp, vStd, vSet] at hz
        split at hz
        · rename_i hc
          cases hz
          rw [nf_cells, nfL_length, nf_all_sc] at hc
          have hcl : (V.agg (setAt w.cells (q + m.toNat * sz) (evO s.tm y).nf.cells)).clean = true := cleanL_setAt (clean_cells h2) (clean_cells h6) _
          -- the place, in the segment
          have hlw : cg.length = w.cells.length := by rw [← f6, nfL_length]
          have hown : ∀ j, (j < b + m.toNat * sz ∨ b + m.toNat * sz + n ≤ j) → (s.setOb id cs (b + m.toNat * sz) (evO s.tm y).cells).own (.cell id j) = s.own (.cell id j) := fun j hj => by rw [setOb_ownc, if_neg (by omega)]
          have key := splIn2_ok (ow' := fun j => (s.setOb id cs (b + m.toNat * sz) (evO s.tm y).cells).own (.cell id j)) (ys := (evO s.tm y).cells) (i' := S2.nx) (x := w) (u := m.toNat * sz) ((q3.mono (.refl _) h5.pre).mono (.refl _) (Ext.push S2 (V.agg (setAt w.cells (q + m.toNat * sz) (evO s.tm y).nf.cells))).pre) hs (fun w' hw' => by
            have := AtV.mono (h5.pre.trans (Ext.push S2 (V.agg (setAt w.cells (q + m.toNat * sz) (evO s.tm y).nf.cells))).pre) f5
            cases a' with
            | c v o => exact hw'.1.symm.trans this.1
            | n i o sc => exact Option.some.inj (hw'.symm.trans this)
            | _ => exact hw'.elim) (by omega) hc.1 hc.2.1 (push_get _ _) (by rw [nf_cells]) hown
          refine ⟨_, ι, _, h3, by rw [e_store, e1, doStore_ptr, q2]; simp only [Option.bind_some]; rw [if_pos ⟨hc.1, hc.2.1, key.1⟩], Sat.put ((h4.push hcl).objUpd (s' := s.setOb id cs (b + m.toNat * sz) (evO s.tm y).cells) hid rfl (fun t => rfl) rfl (fun id' hne => ⟨by simp only [St.setOb, upd, if_neg hne], fun j => by rw [setOb_ownc, if_neg (by omega)]⟩) (by rw [hCells_setOb, if_pos rfl]) key.2) d (y := .at .nil) rfl⟩
        · cases hz
      · cases hk
    · cases hk
  · cases hk
end Go.Abs
/-
  Y, part 8: the other operations; a row of operations. Own work of this seat.
-/
namespace Go.Abs

variable {GA : Abs.Spec} {gl : Glob} {Γ : Gam} {f : Nat} {ow : Cfg} {κ : Fc} {ι : List Nat} {s : St} {S : PS V} {d : Option Nat} {g : Option (Nat × Bool)} {a : List Nat} {r : V} {k : PS V → Option V}

theorem disown_ob {X : Type} (S : PS X) (t k : Nat) : (S.disown t).obj k = S.obj k := by unfold PS.disown; split <;> rfl
theorem disown_vals {X : Type} (S : PS X) (t : Nat) : (S.disown t).vals = S.vals := by unfold PS.disown; split <;> rfl
theorem sc_one {v : V} (h : v.sc = true) : v.cells = [v] := by cases v <;> first | rfl | cases h
theorem op_sto (h : Sat κ S ι s) {x : Opd} {t : Nat} (hk : op1 (BV Γ f) ow d (.sto x t) S k = some r) : Res1 κ GA gl d (.sto x t) g a s k r := by
  simp only [op1] at hk
  split at hk
  · rename_i o off y hx hy
    split at hk
    · rename_i ss hss
      split at hk
      · rename_i a' i hs hone
        obtain ⟨id, hid, e1⟩ := h.opd hx
        obtain ⟨id', cs, q1, q2, q3⟩ := h.ob o ss hss
        rw [hid] at q1; cases q1
        have hty : AtS ι S.vals y (s.tm t) (s.own (.slot t)) := h.tm t _ hy
        have hsc := hty.one hone
        obtain ⟨c, hc, h1, h2, h3⟩ := at_one q3 hs
        have hlt : off < cs.length := (List.getElem?_eq_some_iff.1 hc).1
        have hseg := (spl_ok (ow' := fun j => (s.stoOb id cs off t).own (.cell id j)) (ys := [s.tm t]) (q := [.one y]) q3 hs h3 ⟨s.tm t, [], rfl, by
            show AtS ι S.vals y (s.tm t) ((s.stoOb id cs off t).own (.cell id off))
            rw [stoOb_ownc, if_pos ⟨rfl, rfl⟩]; exact hty, hsc, rfl⟩ rfl (.inl fun s' hs' => by simp at hs'; rw [hs']; rfl) (fun j hj => by
            show (s.stoOb id cs off t).own (.cell id j) = _
            rw [stoOb_ownc, if_neg (by omega)])).2
        have h4 : Sat κ ((S.disown t).setOb o (spl ss i 1 [.one y])) ι (s.stoOb id cs off t) := by
          refine (h.disown t).objUpd (s' := s.stoOb id cs off t) hid rfl (fun u => ?_) rfl (fun id' hne => ⟨by simp only [St.stoOb, upd, if_neg hne]; rfl, fun j => by rw [stoOb_ownc, if_neg (by omega), take_own, if_neg (by simp)]⟩) (by rw [hCells_stoOb, if_pos rfl]) (by rw [disown_vals]; exact hseg)
          rw [stoOb_own, take_own]
          by_cases e : u = t
          · rw [if_pos e, if_pos (by rw [e])]
          · rw [if_neg e, if_neg (by simpa using e)]
        exact ⟨_, ι, (s.stoOb id cs off t).put d Nil false, hk, by rw [e_sto, e1, doSto_ptr, q2]; simp only [Option.bind_some]; rw [if_pos ⟨hsc, hlt⟩], h4.put d (y := .at .nil) rfl⟩
      · cases hk
    · cases hk
  · cases hk

/-! ## structs -/
theorem zkind_ok {v : V} {kd : IntKind} (h : zkind v = some kd) : v = .int kd 0 := by
  unfold zkind at h; split at h <;> cases h; rfl
theorem zrun_ok {kd : IntKind} : ∀ l : List V, l.take (zrun kd l) = List.replicate (zrun kd l) (.int kd 0) ∧ zrun kd l ≤ l.length
  | [] => ⟨rfl, Nat.le_refl _⟩
  | v :: r => by
    simp only [zrun]
    split
    · rename_i j hj
      split
      · rename_i he
        have := of_decide_eq_true he
        subst this
        obtain ⟨h1, h2⟩ := zrun_ok (kd := j) r
        rw [List.take_succ_cons, h1, zkind_ok hj]
        exact ⟨rfl, by simp; omega⟩
      · exact ⟨rfl, Nat.zero_le _⟩
    · exact ⟨rfl, Nat.zero_le _⟩
theorem repl_eq {α : Type} (n : Nat) (x : α) : repl n x = List.replicate n x := rfl
theorem grp_ok {vs : List V} {ow' : Nat → Bool} : ∀ {m : Nat} {z : List V} {ss : List Seg} {j : Nat}, grp m z = some ss → SegsS ι vs ss z ow' j ∧ sized ss
  | 0, _, _, _, h => by cases h
  | _ + 1, [], _, _, h => by cases h; exact ⟨rfl, fun _ h => by cases h⟩
  | m + 1, v :: z, ss, j, h => by
    have one : ∀ {at' : At} {q : List Seg}, v.sc = true → (∀ o, AtS ι vs at' v o) → (grp m z = some q) → SegsS ι vs (.one at' :: q) (v :: z) ow' j ∧ sized (.one at' :: q) := by
      intro at' q hsc ha hq
      obtain ⟨h1, h2⟩ := grp_ok (j := j + 1) hq
      exact ⟨⟨v, z, rfl, ha _, hsc, h1⟩, fun s' hs' => (List.mem_cons.1 hs').elim (fun e => by rw [e]; rfl) (fun hs' => h2 s' hs')⟩
    simp only [grp] at h
    split at h
    · rename_i kd hk
      have hv := zkind_ok hk
      split at h
      · simp only [Option.map_eq_some_iff] at h
        obtain ⟨q, hq, rfl⟩ := h
        obtain ⟨h1, h2⟩ := zrun_ok (kd := kd) z
        obtain ⟨h3, h4⟩ := grp_ok (j := j + (zrun kd z + 1)) hq
        have hl : (v :: z.take (zrun kd z)) = List.replicate (zrun kd z + 1) (.int kd 0) := by rw [h1, hv]; rfl
        refine ⟨⟨v :: z.take (zrun kd z), z.drop (zrun kd z), .agg (repl (zrun kd z + 1) (.int kd 0)), by simp, fun m' hm' => by (cases hm'; simp; omega), fun h => by (cases h), ?_, ⟨rfl, ?_⟩, ?_, ?_⟩, fun s' hs' => ?_⟩
        · rw [hl, List.all_eq_true]; intro x hx; rw [(List.mem_replicate.1 hx).2]; rfl
        · show cleanL (List.replicate _ _) = true
          exact cleanL_iff.2 fun x hx => by rw [(List.mem_replicate.1 hx).2]; rfl
        · rw [hl, nfL_map, List.map_replicate]; rfl
        · have : (v :: z.take (zrun kd z)).length = zrun kd z + 1 := by simp; omega
          rw [this]; exact h3
        · rcases List.mem_cons.1 hs' with rfl | hs'
          · rfl
          · exact h4 s' hs'
      · simp only [Option.map_eq_some_iff] at h
        obtain ⟨q, hq, rfl⟩ := h
        subst hv
        exact one rfl (fun o => ⟨rfl, rfl, fun h => nomatch h⟩) hq
    · split at h
      · rename_i a' hsc ha
        simp only [Option.map_eq_some_iff] at h
        obtain ⟨q, hq, rfl⟩ := h
        exact one hsc (fun o => constAt_ok ha o vs) hq
      · cases h

/-- parts of a struct, with what they come to -/
theorem partAt_ok (h : Sat κ S ι s) {x : Opd} {at' : At} (hx : partAt (S.opd x) = some at') : AtV S.vals at' (evO s.tm x).nf ∧ ((at'.isVal = true ∧ S.opd x = some (.at at')) ∨ ∃ z, at' = .n z false false) := by
  unfold partAt at hx
  split at hx
  · rename_i b e
    split at hx
    · rename_i hv
      cases hx
      have := h.opd e
      refine ⟨?_, .inl ⟨hv, e⟩⟩
      cases at' <;> simp [At.isVal] at hv
      · exact ⟨this.1.symm, this.2.1⟩
      · exact this.1
    · cases hx
  · rename_i ss z e
    cases hx
    exact ⟨(h.opd e).2 z rfl, .inr ⟨z, rfl⟩⟩
  · cases hx
theorem partSeg_ok (h : Sat κ S ι s) {x : Opd} {at' : At} (hx : partAt (S.opd x) = some at') {n : Nat} (hn : (evO s.tm x).cells.length = n) (hsc : (evO s.tm x).cells.all V.sc = true) (h1 : n = 1 → (evO s.tm x).sc = true) (j : Nat) (ow' : Nat → Bool) :
    SegsS ι S.vals [partSeg n at'] (evO s.tm x).cells ow' j ∧ sized [partSeg n at'] := by
  obtain ⟨hv, hc⟩ := partAt_ok h hx
  by_cases e : n = 1
  · subst e
    have hs := h1 rfl
    rw [sc_one hs]
    refine ⟨⟨evO s.tm x, [], rfl, ?_, hs, rfl⟩, fun s' hs' => by simp at hs'; rw [hs']; rfl⟩
    rcases hc with ⟨_, e2⟩ | ⟨z, rfl⟩
    · exact AtS.noOwn (h.opd e2) _
    · exact ⟨hv, fun h => (nomatch h), fun h => (nomatch h)⟩
  · have e2 : partSeg n at' = .many (some n) at'.plain := by unfold partSeg; split <;> first | rfl | exact absurd rfl e
    rw [e2]
    refine ⟨⟨(evO s.tm x).cells, [], (evO s.tm x).nf, by simp, fun m hm => by (cases hm; exact hn), fun h => by (cases h), hsc, ?_, by rw [nf_cells], rfl⟩, fun s' hs' => by simp at hs'; rw [hs']; rfl⟩
    cases at' <;> first | exact hv | exact hv.elim

/-- what a look at the parts says -/
def PartsOK (tm : Nat → V) (ps : List (Nat × Nat × Opd)) : Prop := ∀ p ∈ ps, (evO tm p.2.2).cells.length = p.2.1 ∧ (evO tm p.2.2).cells.all V.sc = true ∧ (p.2.1 = 1 → (evO tm p.2.2).sc = true)
theorem parts_cat {tm : Nat → V} : ∀ {ps : List (Nat × Nat × Opd)} {l : List V}, catV (ps.map fun p => partLen p.2.1) (nfL ((ps.map (·.2.2)).map (evO tm))) = some l → PartsOK tm ps ∧ l = nfL ((ps.map fun p => (evO tm p.2.2).cells).flatten)
  | [], l, h => by cases h; exact ⟨fun _ h => (by cases h), rfl⟩
  | p :: ps, l, h => by
    simp only [List.map_cons, nfL] at h
    by_cases e : p.2.1 = 1
    · rw [show partLen p.2.1 = none by rw [e]; rfl] at h
      simp only [catV] at h
      split at h
      · rename_i hsc
        rw [nf_sc] at hsc
        simp only [Option.map_eq_some_iff] at h
        obtain ⟨m, hm, rfl⟩ := h
        obtain ⟨h1, rfl⟩ := parts_cat hm
        refine ⟨fun q hq => ?_, ?_⟩
        · rcases List.mem_cons.1 hq with rfl | hq
          · rw [sc_one hsc]; exact ⟨by rw [e]; rfl, by simp [hsc], fun _ => hsc⟩
          · exact h1 q hq
        · rw [List.map_cons, List.flatten_cons, nfL_append, sc_one hsc]; rfl
      · cases h
    · rw [show partLen p.2.1 = some p.2.1 by unfold partLen; split <;> first | rfl | (exact absurd (by assumption) e)] at h
      simp only [catV] at h
      split at h
      · rename_i hc
        rw [nf_cells, nfL_length, nf_all_sc] at hc
        simp only [Option.map_eq_some_iff] at h
        obtain ⟨m, hm, rfl⟩ := h
        obtain ⟨h1, rfl⟩ := parts_cat hm
        refine ⟨fun q hq => ?_, ?_⟩
        · rcases List.mem_cons.1 hq with rfl | hq
          · exact ⟨hc.1, hc.2, fun h => absurd h e⟩
          · exact h1 q hq
        · rw [List.map_cons, List.flatten_cons, nfL_append, nf_cells]
      · cases h

theorem partAts_cons {X : Type} {S : PS X} {p : Nat × Nat × Opd} {ps : List (Nat × Nat × Opd)} {ats : List At} (h : partAts S (p :: ps) = some ats) : ∃ x l, ats = x :: l ∧ partAt (S.opd p.2.2) = some x ∧ partAts S ps = some l := by
  simp only [partAts] at h
  split at h
  · rename_i x l h1 h2; cases h; exact ⟨x, l, rfl, h1, h2⟩
  · cases h
theorem row_ok (h : Sat κ S ι s) : ∀ {ps : List (Nat × Nat × Opd)} {ats : List At} {pre rest : List V} {e : Nat}, PartsOK s.tm ps → partAts S ps = some ats → inRow pre.length ps = some e → e = pre.length + rest.length →
    fillV (pre ++ rest) (ps.map fun p => (p.1, p.2.1, evO s.tm p.2.2)) = some (pre ++ (ps.map fun p => (evO s.tm p.2.2).cells).flatten) ∧ SegsS ι S.vals (partSegs ps ats) ((ps.map fun p => (evO s.tm p.2.2).cells).flatten) (fun _ => false) 0
  | [], ats, pre, rest, e, _, _, he, hr => by
    simp only [inRow, Option.some.injEq] at he
    have : rest = [] := List.eq_nil_of_length_eq_zero (by omega)
    subst this
    exact ⟨rfl, by cases ats <;> rfl⟩
  | p :: ps, ats, pre, rest, e, hp, ha, he, hr => by
    obtain ⟨x, l, rfl, h1, h2⟩ := partAts_cons ha
    simp only [inRow] at he
    split at he
    · rename_i hb
      have hoff := Nat.eq_of_beq_eq_true hb
      obtain ⟨q1, q2, q3⟩ := hp p (by simp)
      have mono : ∀ {ps : List (Nat × Nat × Opd)} {o e : Nat}, inRow o ps = some e → o ≤ e := by
        intro ps
        induction ps with
        | nil => intro o e h; simp [inRow] at h; omega
        | cons p ps ih =>
          intro o e h
          simp only [inRow] at h
          split at h
          · have := ih h; omega
          · cases h
      have hle := mono he
      have hrl : p.2.1 ≤ rest.length := by omega
      obtain ⟨g1, g2⟩ := row_ok h (ps := ps) (ats := l) (pre := pre ++ (evO s.tm p.2.2).cells) (rest := rest.drop p.2.1) (e := e) (fun q hq => hp q (by simp [hq])) h2 (by rw [List.length_append, q1]; exact he) (by simp; omega)
      obtain ⟨g3, g4⟩ := partSeg_ok h h1 q1 q2 q3 0 (fun _ => false)
      refine ⟨?_, ?_⟩
      · simp only [List.map_cons, fillV_cons]
        rw [if_pos ⟨q1, q2, by simp; omega⟩, hoff]
        have hset : setAt (pre ++ rest) pre.length (evO s.tm p.2.2).cells = (pre ++ (evO s.tm p.2.2).cells) ++ rest.drop p.2.1 := by
          simp only [setAt, List.take_left', q1]
          rw [List.drop_append, List.drop_eq_nil_of_le (by omega)]
          simp
        rw [hset, g1]; simp
      · simp only [partSegs, List.map_cons, List.flatten_cons]
        exact SegsS.app (p := [partSeg p.2.1 x]) (.inl g4) g3 (g2.shift fun i hi => rfl)
    · cases he
theorem fill_ok (h : Sat κ S ι s) : ∀ {ps : List (Nat × Nat × Opd)} {ats : List At} {ss q : List Seg} {z : List V}, PartsOK s.tm ps → partAts S ps = some ats → SegsS ι S.vals ss z (fun _ => false) 0 → fillS ss ps ats = some q →
    ∃ cs, fillV z (ps.map fun p => (p.1, p.2.1, evO s.tm p.2.2)) = some cs ∧ SegsS ι S.vals q cs (fun _ => false) 0
  | [], ats, ss, q, z, _, _, hs, hq => by
    simp only [fillS, Option.some.injEq] at hq
    subst hq
    exact ⟨z, rfl, hs⟩
  | p :: ps, ats, ss, q, z, hp, ha, hs, hq => by
    obtain ⟨x, l, rfl, h1, h2⟩ := partAts_cons ha
    simp only [fillS] at hq
    split at hq
    · rename_i sg i hsg
      split at hq
      · rename_i m hm
        obtain ⟨q1, q2, q3⟩ := hp p (by simp)
        obtain ⟨g3, g4⟩ := partSeg_ok h h1 q1 q2 q3 p.1 (fun _ => false)
        obtain ⟨g5, g6⟩ := spl_ok (ow' := fun _ => false) (ys := (evO s.tm p.2.2).cells) hs hsg hm g3 q1 (.inl g4) (fun _ _ => rfl)
        obtain ⟨cs, g7, g8⟩ := fill_ok h (fun q hq => hp q (by simp [hq])) h2 g6 hq
        exact ⟨cs, by simp only [List.map_cons, fillV_cons]; rw [if_pos ⟨q1, q2, g5⟩]; exact g7, g8⟩
      · cases hq
    · cases hq
theorem op_build (h : Sat κ S ι s) {z : List V} {ps : List (Nat × Nat × Opd)} (hk : op1 (BV Γ f) ow d (.build z ps) S k = some r) : Res1 κ GA gl d (.build z ps) g a s k r := by
  simp only [op1, bldP] at hk
  split at hk
  · rename_i ats hats
    obtain ⟨ys, S1, h1, h2, h3, h4, h5⟩ := h.matL hk
    simp only [BV, evp, Option.bind_eq_some_iff, Option.map_eq_some_iff] at h1
    obtain ⟨y, ⟨l, hl, rfl⟩, h1⟩ := h1
    rw [← h4] at hl
    obtain ⟨hp, rfl⟩ := parts_cat hl
    have hats1 : partAts S1 ps = some ats := by
      have : ∀ {ps : List (Nat × Nat × Opd)}, partAts S1 ps = partAts S ps := by
        intro ps
        induction ps with
        | nil => rfl
        | cons p ps ih => simp only [partAts, ih, h3.opd]
      rw [this]; exact hats
    have hcl : (V.agg (nfL ((ps.map fun p => (evO s.tm p.2.2).cells).flatten))).clean = true := catV_nf hl (by rw [h4]; exact h5)
    split at h1
    · rename_i hm
      split at hm
      · rename_i e he
        have hb := Nat.eq_of_beq_eq_true hm
        obtain ⟨g1, g2⟩ := row_ok h2 (pre := []) (rest := z) hp hats1 he (by simp [hb])
        simp only [List.nil_append] at g1
        refine ⟨_, ι, _, h1, by rw [e_build, g1]; rfl, (h2.push hcl).put d (v := .agg ((ps.map fun p => (evO s.tm p.2.2).cells).flatten)) (o := false) ⟨⟨_, rfl, g2.mono (.refl _) (Ext.push S1 _).pre⟩, fun i hi => ?_⟩⟩
        cases hi; rw [push_get]; rfl
      · cases hm
    · split at h1
      · rename_i ss hss
        split at h1
        · rename_i q hq
          split at h1
          · rename_i ns xs hsv
            simp only [BV, evp, Option.bind_eq_some_iff, Option.map_eq_some_iff] at h1
            obtain ⟨y, ⟨l, hl', rfl⟩, h1⟩ := h1
            obtain ⟨cs, g1, g2⟩ := fill_ok h2 hp hats1 (grp_ok hss).1 hq
            have h6 := h2.push hcl
            have g3 := g2.mono (PreN.refl ι) (Ext.push S1 (V.agg (nfL ((ps.map fun p => (evO s.tm p.2.2).cells).flatten)))).pre
            obtain ⟨rfl, hc⟩ := h6.segVals g3 hsv hl'
            refine ⟨_, ι, _, h1, by rw [e_build, g1]; rfl, (h6.push (x := .agg (nfL cs)) (catV_nf hl' hc)).put d (v := .agg cs) (o := false) ⟨⟨_, rfl, g3.mono (.refl _) (Ext.push _ _).pre⟩, fun i hi => ?_⟩⟩
            cases hi; rw [push_get]; rfl
          · cases h1
        · cases h1
      · cases h1
  · cases hk

/-! ## rows -/
theorem Sat.disown' (h : Sat κ S ι s) (t : Nat) : Sat κ (S.disown t) ι s where
  tm u y hy := by
    rw [disown_vals]
    unfold PS.disown at hy
    split at hy
    · rename_i z hz
      simp only [PS.get, lk_cons] at hy
      split at hy
      · rename_i e; subst e; cases hy; exact (h.tm _ _ hz).noOwn _
      · exact h.tm u y hy
    · exact h.tm u y hy
  ob k ss hk := by rw [disown_ob] at hk; rw [disown_vals]; exact h.ob k ss hk
  nd := h.nd
  lt := h.lt
  len := (h.disown t).len
  lits := (h.disown t).lits
  cln := (h.disown t).cln
  g := (h.disown t).g
  pre := h.pre
  new := (h.disown t).new
  nH := h.nH
  fr := h.fr
theorem vTail_nf {H : Hp} {sz : Nat} {x : V} {ys : List V} (hc : x.nf.clean = true) (h : vTail noH sz x.nf = some ys) : ∃ zs, vTail H sz x = some zs ∧ nfL zs = ys ∧ cleanL ys = true := by
  unfold vTail at h
  split at h
  · rename_i b s' l e
    obtain ⟨_, nl, rs, rfl, rfl, hn⟩ := nf_sl' e
    rw [e] at hc
    split at h
    · rename_i hs
      cases h
      refine ⟨rs, ?_, rfl, hc⟩
      have : s' = sz ∨ rs = [] := by
        rcases hs with hs | hs
        · exact .inl hs
        · right; cases rs <;> first | rfl | cases hs
      simp only [vTail]; rw [if_pos this]
    · cases h
  · rename_i b e
    rw [nf_str e]
    split at h
    · rename_i hs
      cases h
      exact ⟨encB b, by subst hs; rw [vTail_str], nf_encB b, cleanL_encB' b⟩
    · cases h
  · rename_i e
    rw [e] at hc; simp [V.clean] at hc
  · cases h
theorem op_app (h : Sat κ S ι s) {sz : Nat} {x y : Opd} (hk : op1 (BV Γ f) ow d (.app sz x y) S k = some r) : Res1 κ GA gl d (.app sz x y) g a s k r := by
  simp only [op1] at hk
  split at hk
  · rename_i a' hx
    split at hk
    · rename_i ho
      obtain ⟨ys, S1, h1, h2, h3, h4, h5⟩ := h.matL hk
      simp only [doX, BV, Option.bind_eq_some_iff] at h1
      obtain ⟨z, hz, h1⟩ := h1
      subst h4
      simp only [List.map_cons, List.map_nil, nfL, evp, vAppC] at hz
      simp only [List.map_cons, List.map_nil, nfL, cleanL, Bool.and_eq_true, Bool.and_true] at h5
      have hown : Own (evO s.tm x) (ownO s.own x) := AtS.owned (h.opd hx) ho
      split at hz
      · rename_i b s' xs zs e1 e2
        obtain ⟨_, nl, rs, e3, rfl, hn⟩ := nf_sl' e1
        obtain ⟨ws, e4, rfl, e5⟩ := vTail_nf (H := s.H) h5.2 e2
        have hcx : cleanL (nfL rs) = true := by rw [e1] at h5; exact h5.1
        split at hz
        · rename_i hc
          obtain ⟨hc, rfl⟩ := hc
          cases hz
          rw [nfL_length, nfL_length] at hc
          have hcl : (V.sl false s' (nfL rs ++ nfL ws)).clean = true := clean_app hcx e5
          cases nl with
          | true =>
            obtain rfl := hn rfl
            refine ⟨_, ι, s.put d (.sl ws.isEmpty s' ws) true, h1, ?_, ?_⟩
            · rw [e_app, e3]
              have : ws.length ≤ Lim := by simpa using hc
              rw [vApp_nil, e4]; simp [this]
            · have hv : (V.sl ws.isEmpty s' ws).nf = .sl false s' (nfL [] ++ nfL ws) := by
                rw [sl_nf (by simp)]; simp [nfL]
              cases x with
              | const v => exact h2.putN hv hcl (fun _ => .inl rfl) (fun _ => rfl)
              | tmp t => exact (h2.disown' t).putN hv hcl (fun _ => .inl rfl) (fun _ => rfl)
          | false =>
            have ho' : ownO s.own x = true := by
              rcases hown with h | ⟨z, h⟩
              · exact h
              · rw [e3] at h; cases h
            cases x with
            | const v => cases ho'
            | tmp t =>
              refine ⟨_, ι, (s.take (some (.slot t))).put d (.sl false s' (rs ++ ws)) true, h1, ?_, ?_⟩
              · rw [e_app, e3, ho', vApp_sl, e4]
                simp [hc]
              · exact (h2.disown t).putN (by show V.sl false s' (nfL (rs ++ ws)) = _; rw [nfL_append]) hcl (fun _ => .inl rfl) (fun _ => rfl)
        · cases hz
      · cases hz
    · cases hk
  · cases hk
theorem op_b2s (h : Sat κ S ι s) {x : Opd} (hk : op1 (BV Γ f) ow d (.b2s x) S k = some r) : Res1 κ GA gl d (.b2s x) g a s k r := by
  simp only [op1] at hk
  split at hk
  · rename_i o off n cap hx
    split at hk
    · rename_i ss hss
      split at hk
      · rename_i sn a' q i hs
        obtain ⟨id, hid, e1⟩ := h.opd hx
        obtain ⟨id', cs, q1, q2, q3⟩ := h.ob o ss hss
        rw [hid] at q1; cases q1
        obtain ⟨p, q', cp, cg, cq, e1', e2, e3, e4, e5, e6, e7, e8, e9⟩ := segAt_ok q3 hs
        obtain ⟨l, cs', w, f1, f2, f3, f4, f5, f6, f7⟩ := e7
        rw [show cs' = [] from f7, List.append_nil] at f1
        subst f1; subst e3
        obtain ⟨h1, h2⟩ := h.matV f5 hk
        simp only [doX, BV, Option.bind_eq_some_iff] at h1
        obtain ⟨z, hz, h1⟩ := h1
        simp only [evp, vB2so, ← f6, nfL_length] at hz
        split at hz
        · rename_i hle
          simp only [Option.map_eq_some_iff] at hz
          obtain ⟨b, hb, rfl⟩ := hz
          rw [← nfL_drop, ← nfL_take] at hb
          refine ⟨_, ι, s.put d (.str b) false, h1, ?_, h.putN rfl rfl (fun h => nomatch h) (fun _ => rfl)⟩
          rw [e_b2s, e1]
          simp only [vB2s, q2, Option.bind_some]
          rw [if_pos (by simp; omega), e4]
          have : ((cp ++ (cg ++ cq)).drop (cp.length + q)).take n = (cg.drop q).take n := by
            rw [List.drop_append, List.drop_eq_nil_of_le (by omega), show cp.length + q - cp.length = q by omega, List.nil_append, List.drop_append_of_le_length (by omega), List.take_append_of_le_length (by simp; omega)]
          rw [this, toBytes_nf hb]; rfl
        · cases hz
      · cases hk
    · cases hk
  · exact simple_ok h rfl hk
theorem nfL_cells (xs : List V) : nfL (xs.flatMap V.cells) = (nfL xs).flatMap V.cells := by
  induction xs with
  | nil => rfl
  | cons x r ih => simp only [List.flatMap_cons, nfL_append, nfL, ih, nf_cells]
theorem op_s2a (h : Sat κ S ι s) {n : Nat} {x : Opd} (hk : op1 (BV Γ f) ow d (.s2a n x) S k = some r) : Res1 κ GA gl d (.s2a n x) g a s k r := by
  simp only [op1] at hk
  obtain ⟨ys, S1, h1, h2, h3, h4, h5⟩ := h.matL hk
  simp only [BV, Option.bind_eq_some_iff] at h1
  obtain ⟨z, hz, h1⟩ := h1
  subst h4
  simp only [List.map_cons, List.map_nil, nfL, evp, vS2aC] at hz
  simp only [List.map_cons, List.map_nil, nfL, cleanL, Bool.and_true] at h5
  split at hz
  · rename_i b xs e
    obtain ⟨_, nl, rs, e3, rfl, hn⟩ := nf_sl' e
    split at hz
    · rename_i hc
      cases hz
      rw [nfL_length, fits_nf'] at hc
      have hne : rs ≠ [] := fun e => hc.2.1 (by rw [e]; rfl)
      have hnl : nl = false := by cases nl; rfl; exact absurd (hn rfl) hne
      subst hnl
      rw [e] at h5
      have hcl : (V.agg ((nfL rs).flatMap V.cells)).clean = true := by
        show cleanL _ = true
        refine cleanL_iff.2 fun v hv => ?_
        obtain ⟨w, hw, hv⟩ := List.mem_flatMap.1 hv
        exact cleanL_iff.1 (clean_cells (cleanL_iff.1 (show cleanL (nfL rs) = true from h5) w hw)) v hv
      refine ⟨_, ι, s.put d (.el (rs.flatMap V.cells) 0) false, h1, by rw [e_s2a, e3]; simp [vS2a, hc.1, hne, hc.2.2], (h2.push hcl).put d (y := .at (.el S1.nx 0)) ⟨_, push_get _ _, ?_⟩⟩
      show V.el (nfL (rs.flatMap V.cells)) 0 = _
      rw [nfL_cells]; rfl
    · cases hz
  · cases hz

theorem op_new (h : Sat κ S ι s) {cs : List V} (hk : op1 (BV Γ f) ow d (.new cs) S k = some r) : Res1 κ GA gl d (.new cs) g a s k r := by
  simp only [op1] at hk
  split at hk
  · rename_i ss hss
    obtain ⟨h1, h2⟩ := h.newOb (grp_ok (ι := ι) (vs := S.vals) (ow' := fun _ => false) (j := 0) hss).1
    exact ⟨_, ι ++ [s.nH], _, hk, e_new cs, h1.put d (y := .at (.ptr S.ob.length 0)) (v := .ptr s.nH 0) (o := false) ⟨s.nH, h2, rfl⟩⟩
  · cases hk
theorem op_box (h : Sat κ S ι s) {x : Opd} (hk : op1 (BV Γ f) ow d (.box x) S k = some r) : Res1 κ GA gl d (.box x) g a s k r := by
  simp only [op1] at hk
  split at hk
  · rename_i ss z hx
    obtain ⟨⟨cs, e1, h1⟩, _⟩ := h.opd hx
    obtain ⟨h2, h3⟩ := h.newOb (h1.noOwn (fun _ => false) 0 0)
    exact ⟨_, ι ++ [s.nH], _, hk, by rw [e_box, e1, cells_agg, if_pos h1.all_sc], h2.put d (y := .at (.ptr S.ob.length 0)) (v := .ptr s.nH 0) (o := false) ⟨s.nH, h3, rfl⟩⟩
  · cases hk
  · rename_i a' hx
    have ha := h.opd hx
    split at hk
    · rename_i ho
      have hsc := AtS.one ha ho
      have hseg : SegsS ι S.vals [.one a'.noOwn] (evO s.tm x).cells (fun _ => false) 0 := by rw [sc_one hsc]; exact ⟨_, [], rfl, AtS.noOwn ha _, hsc, rfl⟩
      obtain ⟨h2, h3⟩ := h.newOb hseg
      exact ⟨_, ι ++ [s.nH], _, hk, by rw [e_box, if_pos hseg.all_sc], h2.put d (y := .at (.ptr S.ob.length 0)) (v := .ptr s.nH 0) (o := false) ⟨s.nH, h3, rfl⟩⟩
    · obtain ⟨S1, h1, h2, h3, h4⟩ := h.mat ha hk
      simp only [BV, Option.bind_eq_some_iff] at h1
      obtain ⟨z, hz, h1⟩ := h1
      simp only [evp] at hz
      split at hz
      · rename_i hsc
        cases hz
        rw [nf_cells, nf_all_sc] at hsc
        have h5 := h2.push h4
        have hseg : SegsS ι (S1.push (evO s.tm x).nf).vals [.many none (.n S1.nx false false)] (evO s.tm x).cells (fun _ => false) 0 := ⟨_, [], (evO s.tm x).nf, by simp, fun m hm => by (cases hm), fun _ => rfl, hsc, push_get _ _, by rw [nf_cells], rfl⟩
        obtain ⟨h6, h7⟩ := h5.newOb hseg
        have hob : (S1.push (evO s.tm x).nf).ob.length = S.ob.length := by show S1.ob.length = _; rw [h3.ob]
        rw [hob] at h7
        exact ⟨_, ι ++ [s.nH], _, h1, by rw [e_box, if_pos hsc], h6.put d (y := .at (.ptr S.ob.length 0)) (v := .ptr s.nH 0) (o := false) ⟨s.nH, h7, rfl⟩⟩
      · cases hz
  · cases hk

/-! ## one operation -/
theorem op1_ok (h : Sat κ S ι s) (hΓ : GamOK GA gl Γ ow) {op : AOp} (hk : op1 (BV Γ f) ow d op S k = some r) : Res1 κ GA gl d op g a s k r := by
  cases op with
  | mv x => exact op_mv h hk
  | mvo t => exact op_mvo h hk
  | pick c x y => exact op_pick h hk
  | un op x => exact op_un h hk
  | bin op q x y => exact op_bin h hk
  | len sb x => exact op_len h hk
  | iaddr sz x i => exact op_iaddr h hk
  | iarr n sz x i => exact op_iarr h hk
  | faddr off x => exact op_faddr h hk
  | load n x => exact op_load h hΓ hk
  | ldo x => exact op_ldo h hk
  | fld n off x => exact op_fld h hk
  | slca n sz x lo hi mx => exact op_slca h hk
  | build z ps => exact op_build h hk
  | app sz x y => exact op_app h hk
  | b2s x => exact op_b2s h hk
  | s2a n x => exact op_s2a h hk
  | nilck x => exact op_nilck h hk
  | call f' xs => exact op_call h hΓ hk
  | callh f' xs => exact op_callh h hΓ hk
  | callvh x xs => exact op_callvh h hΓ hk
  | new cs => exact op_new h hk
  | box x => exact op_box h hk
  | store n x y => exact op_store h hk
  | sto x t => exact op_sto h hk
  | ext t i => exact op_ext h hk
  | callv x xs => cases hk
  | mnx m x y => exact simple_ok h rfl hk
  | idx x i => exact simple_ok h rfl hk
  | idxa l sz n x i => exact simple_ok h rfl hk
  | sls x lo hi => exact simple_ok h rfl hk
  | slc sz x lo hi mx => exact simple_ok h rfl hk
  | bsl sz xs => exact simple_ok h rfl hk
  | mks sz z l c => exact simple_ok h rfl hk
  | s2b x => exact simple_ok h rfl hk
  | i2i kd x => exact simple_ok h rfl hk
  | s2s x => exact simple_ok h rfl hk
  | mkf f' xs => exact op_mkf h hk
  | mkm f' xs => exact op_mkm h hk
end Go.Abs
/-
  Y, part 9: guards, labels, code, functions: the plain code follows what the reader says. Own work of this seat.
-/
namespace Go.Abs

variable {GA : Abs.Spec} {gl : Glob} {Γ : Gam} {f : Nat} {ow : Cfg} {κ : Fc} {ι : List Nat} {s : St} {S : PS V} {r : V} {k : PS V → Option V}

theorem vif_some {x : V} {a b : Option V} (h : vif x a b = some r) : (x = .bool true ∧ a = some r) ∨ (x = .bool false ∧ b = some r) := by
  unfold vif at h
  split at h
  · exact .inl ⟨rfl, h⟩
  · exact .inr ⟨rfl, h⟩
  · cases h
theorem Sat.know (h : Sat κ S ι s) {i : Nat} {b : Bool} (hb : S.vals[i]? = some (.bool b)) : Sat κ (S.know i b) ι s where
  tm := h.tm
  ob := h.ob
  nd := h.nd
  lt := h.lt
  len := h.len
  lits j c hc := by
    simp only [PS.know, lk_cons] at hc
    split at hc
    · rename_i e; subst e; cases hc; exact hb
    · exact h.lits j c hc
  cln := h.cln
  g := h.g
  pre := h.pre
  new := h.new
  nH := h.nH
  fr := h.fr
theorem Sat.skip (h : Sat κ S ι s) (d : Option Nat) : Sat κ (S.put d (.at .nil)) ι (s.put d Nil false) := h.put d (y := .at .nil) rfl
theorem get_opd {X : Type} (S : PS X) (t : Nat) : S.opd (.tmp t) = S.get t := rfl

theorem opG_ok (h : Sat κ S ι s) (hΓ : GamOK GA gl Γ ow) {o : AOper} (hk : opG (BV Γ f) ow o S k = some r) : ∃ S' ι' s', k S' = some r ∧ exec GA gl o s = some s' ∧ Sat κ S' ι' s' := by
  obtain ⟨d, op, g, a⟩ := o
  unfold opG at hk
  cases g with
  | none => exact op1_ok h hΓ hk
  | some p =>
    obtain ⟨t, w⟩ := p
    simp only at hk
    have skip : ∀ {S1 : PS V}, Sat κ S1 ι s → (∀ b, s.tm t = .bool b → (b == w) = false) → k (S1.put d (.at .nil)) = some r → ∃ S' ι' s', k S' = some r ∧ exec GA gl ⟨d, op, some (t, w), a⟩ s = some s' ∧ Sat κ S' ι' s' := by
      intro S1 h1 h2 h3
      refine ⟨_, ι, s.put d Nil false, h3, ?_, h1.skip d⟩
      rw [exec_some, if_neg]
      cases e : s.tm t <;> simp
      exact fun h => by have := h2 _ e; simp [h] at this
    have run : ∀ {S1 : PS V}, Sat κ S1 ι s → s.tm t = .bool w → op1 (BV Γ f) ow d op S1 k = some r → ∃ S' ι' s', k S' = some r ∧ exec GA gl ⟨d, op, some (t, w), a⟩ s = some s' ∧ Sat κ S' ι' s' := by
      intro S1 h1 h2 h3
      obtain ⟨S', ι', s', q1, q2, q3⟩ := op1_ok (gl := gl) (g := some (t, w)) (a := a) h1 hΓ h3
      refine ⟨S', ι', s', q1, ?_, q3⟩
      rw [exec_some, h2, if_pos (by simp)]; exact q2
    split at hk
    · rename_i hn
      have : s.tm t = Nil := h.tm t _ hn
      exact skip h (fun b hb => by rw [this] at hb; cases hb) hk
    · rename_i y hy
      split at hk
      · rename_i b hb
        have hb' : s.tm t = .bool b := truth_ok (x := .tmp t) h (by rw [get_opd]; exact hb)
        split at hk
        · rename_i hx
          have : b = w := by cases b <;> cases w <;> first | rfl | cases hx
          exact run h (by rw [hb', this]) hk
        · rename_i hx
          exact skip h (fun c hc => by rw [hb'] at hc; cases hc; cases b <;> cases w <;> first | rfl | cases hx) hk
      · split at hk
        · rename_i i o' sc hi
          have hat := h.tm t _ hi
          split at hk
          · rename_i x hx
            have hxe : x = (s.tm t).nf := by have := hat.1; rw [hx] at this; exact Option.some.inj this
            split at hk
            · rcases vif_some hk with ⟨e, h1⟩ | ⟨e, h1⟩
              · exact run (h.know (by rw [hx, e])) (nf_bool (hxe.symm.trans e)) h1
              · exact skip (h.know (by rw [hx, e])) (fun b hb => by rw [nf_bool (hxe.symm.trans e)] at hb; cases hb; rfl) h1
            · rcases vif_some hk with ⟨e, h1⟩ | ⟨e, h1⟩
              · exact skip (h.know (by rw [hx, e])) (fun b hb => by rw [nf_bool (hxe.symm.trans e)] at hb; cases hb; rfl) h1
              · exact run (h.know (by rw [hx, e])) (nf_bool (hxe.symm.trans e)) h1
          · cases hk
        · cases hk
theorem opsG_ok (hΓ : GamOK GA gl Γ ow) : ∀ {os : List AOper} {S : PS V} {ι : List Nat} {s : St}, Sat κ S ι s → opsG (BV Γ f) ow os S k = some r → ∃ S' ι' s', k S' = some r ∧ execs GA gl os s = some s' ∧ Sat κ S' ι' s'
  | [], S, ι, s, h, hk => ⟨S, ι, s, hk, rfl, h⟩
  | o :: os, S, ι, s, h, hk => by
    obtain ⟨S1, ι1, s1, h1, h2, h3⟩ := opG_ok (gl := gl) h hΓ hk
    obtain ⟨S2, ι2, s2, h4, h5, h6⟩ := opsG_ok hΓ h3 h1
    exact ⟨S2, ι2, s2, h4, by simp only [execs, h2]; exact h5, h6⟩

/-! ## labels -/
theorem Pre.get_app {acc l m : List V} {x : V} : ((acc ++ (x :: l)) ++ m)[acc.length]? = some x := by
  rw [List.append_assoc, List.getElem?_append_right (Nat.le_refl _)]; simp
theorem psEq_ok {no : Nat} : ∀ {ps qs : List (Nat × Nat)} {cs : List V}, psEq no ps qs = true → PsS ι qs cs → PsS (ι.take no) ps cs
  | [], [], cs, _, h => h
  | (a, b) :: ps, (c', d') :: qs, cs, he, ⟨id, cs', h1, h2, h3⟩ => by
    simp only [psEq, Bool.and_eq_true] at he
    obtain ⟨⟨⟨e1, e2⟩, e3⟩, e4⟩ := he
    obtain rfl := Nat.eq_of_beq_eq_true e1
    obtain rfl := Nat.eq_of_beq_eq_true e2
    have hlt : a < no := Nat.le_of_ble_eq_true e3
    exact ⟨id, cs', by show (ι.take no)[a]? = _; rw [List.getElem?_take, if_pos hlt]; exact h1, h2, psEq_ok e4 h3⟩
  | [], _ :: _, _, he, _ => by cases he
  | _ :: _, [], _, he, _ => by cases he
theorem gAt_ok (h : Sat κ S ι s) {no : Nat} {T y : At} {acc acc' : List V} (hg : gAt (BV Γ f) S no T y acc = some acc') :
    (∃ l, acc' = acc ++ l) ∧ (∀ v o, AtS ι S.vals y v o → (cleanL acc = true → cleanL acc' = true) ∧ ∀ vs, Pre acc' vs → AtS (ι.take no) vs T v o) ∧ (∀ w, AtV S.vals y w → (cleanL acc = true → cleanL acc' = true) ∧ ∀ vs, Pre acc' vs → AtV vs T w) := by
  have take : ∀ {o id : Nat}, ι[o]? = some id → o < no → (ι.take no)[o]? = some id := fun h1 h2 => by rw [List.getElem?_take, if_pos h2]; exact h1
  have hlt : ∀ {o : Nat}, Nat.blt o no = true → o < no := fun h => Nat.le_of_ble_eq_true h
  have last : ∀ {x : V} {i : Nat}, i = acc.length → (acc ++ [x])[i]? = some x := fun e => by rw [e]; simp
  unfold gAt at hg
  split at hg
  · split at hg
    · rename_i hc
      simp only [Bool.and_eq_true] at hc
      obtain ⟨⟨h1, h2⟩, h3⟩ := hc
      cases hg
      refine ⟨⟨[], by simp⟩, fun v o hv => ⟨id, fun vs _ => ?_⟩, fun w hw => hw.elim⟩
      obtain ⟨id, h4, h5⟩ := hv
      rw [← Nat.eq_of_beq_eq_true h1] at h4
      rw [← Nat.eq_of_beq_eq_true h2] at h5
      exact ⟨id, take h4 (hlt h3), h5⟩
    · cases hg
  · split at hg
    · rename_i hc
      simp only [Bool.and_eq_true] at hc
      cases hg
      refine ⟨⟨[], by simp⟩, fun v o hv => ⟨id, fun vs _ => ?_⟩, fun w hw => hw.elim⟩
      show v = _
      rw [Nat.eq_of_beq_eq_true hc.1, Nat.eq_of_beq_eq_true hc.2]; exact hv
    · cases hg
  · split at hg
    · rename_i hc
      simp only [Bool.and_eq_true] at hc
      obtain ⟨⟨⟨⟨⟨h1, h2⟩, h3⟩, h4⟩, h5⟩, h6⟩ := hc
      cases hg
      refine ⟨⟨[], by simp⟩, fun v o hv => ⟨id, fun vs _ => ?_⟩, fun w hw => hw.elim⟩
      obtain ⟨id, h7, h8⟩ := hv
      rw [← Nat.eq_of_beq_eq_true h1] at h7
      rw [← Nat.eq_of_beq_eq_true h2, ← Nat.eq_of_beq_eq_true h3, ← Nat.eq_of_beq_eq_true h4, ← Nat.eq_of_beq_eq_true h5] at h8
      exact ⟨id, take h7 (hlt h6), h8⟩
    · cases hg
  · split at hg
    · rename_i hc
      obtain ⟨b1, hc⟩ := xor_no hc
      simp only [Bool.and_eq_true] at hc
      cases hg
      refine ⟨⟨[], by simp⟩, fun v o hv => ⟨id, fun vs _ => ?_⟩, fun w hw => hw.elim⟩
      obtain ⟨cs, h7, h8⟩ := hv
      exact ⟨cs, by rw [b1, Nat.eq_of_beq_eq_true hc.1]; exact h7, psEq_ok hc.2 h8⟩
    · cases hg
  · cases hg
    exact ⟨⟨[], by simp⟩, fun v o hv => ⟨id, fun vs _ => ⟨hv.1, rfl, fun h => nomatch h⟩⟩, fun w hw => ⟨id, fun vs _ => hw⟩⟩
  · split at hg
    · rename_i x hc hx
      simp only [Bool.and_eq_true] at hc
      cases hg
      refine ⟨⟨[x], rfl⟩, fun v o hv => ⟨fun hcl => clean_app hcl (by simp only [cleanL, h.cln _ (List.mem_of_getElem? hx), Bool.and_self]), fun vs hp => ?_⟩, fun w hw => hw.elim⟩
      obtain ⟨w, h1, h2⟩ := hv
      rw [hx] at h1; cases h1
      exact ⟨x, hp _ _ (last (Nat.eq_of_beq_eq_true hc.1)), by rw [Nat.eq_of_beq_eq_true hc.2]; exact h2⟩
    · cases hg
  · split at hg
    · rename_i x hc hx
      simp only [Bool.and_eq_true, Bool.or_eq_true, Bool.not_eq_true'] at hc
      obtain ⟨⟨h1, h2⟩, h3⟩ := hc
      cases hg
      refine ⟨⟨[x], rfl⟩, fun v o hv => ?_, fun w hw => ?_⟩
      · obtain ⟨rfl, hxc⟩ := h.val hv hx
        refine ⟨fun hcl => clean_app hcl (by simp only [cleanL, hxc, Bool.and_self]), fun vs hp => ⟨hp _ _ (last (Nat.eq_of_beq_eq_true h1)), fun ho => ?_, fun ho => ?_⟩⟩
        · rcases h2 with h2 | h2
          · rw [ho] at h2; cases h2
          · exact hv.owned h2
        · rcases h3 with h3 | h3
          · rw [ho] at h3; cases h3
          · exact hv.one h3
      · obtain ⟨rfl, hxc⟩ := h.valV hw hx
        exact ⟨fun hcl => clean_app hcl (by simp only [cleanL, hxc, Bool.and_self]), fun vs hp => hp _ _ (last (Nat.eq_of_beq_eq_true h1))⟩
    · cases hg
  · cases hg
theorem gSegs_ok (h : Sat κ S ι s) {no : Nat} {ow' : Nat → Bool} : ∀ {ss qs : List Seg} {cs : List V} {j : Nat} {acc acc' : List V}, gSegs (BV Γ f) S no ss qs acc = some acc' → SegsS ι S.vals qs cs ow' j →
    (∃ l, acc' = acc ++ l) ∧ (cleanL acc = true → cleanL acc' = true) ∧ ∀ vs, Pre acc' vs → SegsS (ι.take no) vs ss cs ow' j
  | [], [], cs, j, acc, acc', hg, hs => by cases hg; exact ⟨⟨[], by simp⟩, id, fun _ _ => hs⟩
  | a :: ss, b :: qs, cs, j, acc, acc', hg, hs => by
    simp only [gSegs] at hg
    split at hg
    · rename_i acc1 h1
      have many : ∀ {n : Option Nat} {a' b' : At}, gAt (BV Γ f) S no a' b' acc = some acc1 → SegsS ι S.vals (.many n b' :: qs) cs ow' j → (∃ l, acc' = acc ++ l) ∧ (cleanL acc = true → cleanL acc' = true) ∧ ∀ vs, Pre acc' vs → SegsS (ι.take no) vs (.many n a' :: ss) cs ow' j := by
        rintro n a' b' h2 ⟨l, cs', w, e, q1, q2, q3, q4, q5, q6⟩
        obtain ⟨⟨l1, e1⟩, _, h3⟩ := gAt_ok h h2
        obtain ⟨h4, h5⟩ := h3 w q4
        obtain ⟨⟨l2, e2⟩, h6, h7⟩ := gSegs_ok h hg q6
        refine ⟨⟨l1 ++ l2, by rw [e2, e1, List.append_assoc]⟩, fun hc => h6 (h4 hc), fun vs hp => ⟨l, cs', w, e, q1, fun hn => ?_, q3, h5 vs (fun i x hi => hp i x (by rw [e2]; exact Pre.app _ _ i x hi)), q5, h7 vs hp⟩⟩
        have := q2 hn
        subst this
        cases ss with
        | nil => rfl
        | cons _ _ => simp [gSegs] at hg
      unfold gSeg at h1
      split at h1
      · obtain ⟨c, cs', e, q1, q2, q3⟩ := hs
        obtain ⟨⟨l1, e1⟩, h3, _⟩ := gAt_ok h h1
        obtain ⟨h4, h5⟩ := h3 c _ q1
        obtain ⟨⟨l2, e2⟩, h6, h7⟩ := gSegs_ok h hg q3
        exact ⟨⟨l1 ++ l2, by rw [e2, e1, List.append_assoc]⟩, fun hc => h6 (h4 hc), fun vs hp => ⟨c, cs', e, h5 vs (fun i x hi => hp i x (by rw [e2]; exact Pre.app _ _ i x hi)), q2, h7 vs hp⟩⟩
      · split at h1
        · rename_i hn
          rw [Nat.eq_of_beq_eq_true hn]
          exact many h1 hs
        · cases h1
      · exact many h1 hs
      · cases h1
    · cases hg
  | [], _ :: _, _, _, _, _, hg, _ => by cases hg
  | _ :: _, [], _, _, _, _, hg, _ => by cases hg
theorem gTm_ok (h : Sat κ S ι s) {no : Nat} : ∀ {tm : List (Nat × Sy)} {acc acc' : List V}, gTm (BV Γ f) S no tm acc = some acc' →
    (∃ l, acc' = acc ++ l) ∧ (cleanL acc = true → cleanL acc' = true) ∧ ∀ p ∈ tm, ∀ vs, Pre acc' vs → SyS (ι.take no) vs p.2 (s.tm p.1) (s.own (.slot p.1))
  | [], acc, acc', hg => by cases hg; exact ⟨⟨[], by simp⟩, id, fun _ hp => by cases hp⟩
  | (t, .at a) :: tm, acc, acc', hg => by
    simp only [gTm] at hg
    have go : ∀ {b : At} {acc1 : List V}, gAt (BV Γ f) S no a b acc = some acc1 → AtS ι S.vals b (s.tm t) (s.own (.slot t)) → gTm (BV Γ f) S no tm acc1 = some acc' →
        (∃ l, acc' = acc ++ l) ∧ (cleanL acc = true → cleanL acc' = true) ∧ ∀ p ∈ (t, Sy.at a) :: tm, ∀ vs, Pre acc' vs → SyS (ι.take no) vs p.2 (s.tm p.1) (s.own (.slot p.1)) := by
      intro b acc1 h1 h2 h3
      obtain ⟨⟨l1, e1⟩, q3, _⟩ := gAt_ok h h1
      obtain ⟨q4, q5⟩ := q3 _ _ h2
      obtain ⟨⟨l2, e2⟩, q6, q7⟩ := gTm_ok h h3
      refine ⟨⟨l1 ++ l2, by rw [e2, e1, List.append_assoc]⟩, fun hc => q6 (q4 hc), fun p hp vs hv => ?_⟩
      rcases List.mem_cons.1 hp with rfl | hp
      · exact q5 vs (fun i x hi => hv i x (by rw [e2]; exact Pre.app _ _ i x hi))
      · exact q7 p hp vs hv
    split at hg
    · rename_i b hb
      split at hg
      · exact go (by assumption) (h.tm t _ hb) hg
      · cases hg
    · rename_i ss z hb
      split at hg
      · exact go (b := .n z false false) (by assumption) ⟨(h.tm t _ hb).2 z rfl, fun h => (nomatch h), fun h => (nomatch h)⟩ hg
      · cases hg
    · cases hg
  | (t, .agg ss none) :: tm, acc, acc', hg => by
    simp only [gTm] at hg
    split at hg
    · rename_i qs z hb
      split at hg
      · rename_i acc1 h1
        obtain ⟨⟨cs, e, q1⟩, _⟩ := h.tm t _ hb
        obtain ⟨⟨l1, e1⟩, q2, q3⟩ := gSegs_ok h h1 q1
        obtain ⟨⟨l2, e2⟩, q6, q7⟩ := gTm_ok h hg
        refine ⟨⟨l1 ++ l2, by rw [e2, e1, List.append_assoc]⟩, fun hc => q6 (q2 hc), fun p hp vs hv => ?_⟩
        rcases List.mem_cons.1 hp with rfl | hp
        · exact ⟨⟨cs, e, q3 vs (fun i x hi => hv i x (by rw [e2]; exact Pre.app _ _ i x hi))⟩, fun i hi => by cases hi⟩
        · exact q7 p hp vs hv
      · cases hg
    · cases hg
  | (_, .agg _ (some _)) :: _, _, _, hg => by cases hg
  | (_, .tup _) :: _, _, _, hg => by cases hg
theorem gOb_ok (h : Sat κ S ι s) {no : Nat} : ∀ {ob ob' : List (Option (List Seg))} {b : Nat} {acc acc' : List V}, gOb (BV Γ f) S no ob ob' acc = some acc' → (∀ (k : Nat) (qs : List Seg), ob'[k]? = some (some qs) → S.obj (b + k) = some qs) →
    (∃ l, acc' = acc ++ l) ∧ (cleanL acc = true → cleanL acc' = true) ∧ ob.length ≤ ob'.length ∧ ∀ (k : Nat) (ss : List Seg), ob[k]? = some (some ss) → ∀ vs, Pre acc' vs → ∃ id cs, ι[b + k]? = some id ∧ hCells s.H id = some cs ∧ SegsS (ι.take no) vs ss cs (fun j => s.own (.cell id j)) 0
  | [], ob', b, acc, acc', hg, _ => by cases hg; exact ⟨⟨[], by simp⟩, id, by simp, fun k ss hk => by simp at hk⟩
  | none :: ob, q :: ob', b, acc, acc', hg, hb => by
    simp only [gOb] at hg
    obtain ⟨q1, q2, q3, q4⟩ := gOb_ok h (b := b + 1) hg fun k qs hk => by rw [show b + 1 + k = b + (k + 1) by omega]; exact hb (k + 1) qs hk
    refine ⟨q1, q2, by simp; omega, fun k ss hk vs hv => ?_⟩
    cases k with
    | zero => simp at hk
    | succ k => rw [show b + (k + 1) = b + 1 + k by omega]; exact q4 k ss hk vs hv
  | some ss :: ob, some qs :: ob', b, acc, acc', hg, hb => by
    simp only [gOb] at hg
    split at hg
    · rename_i acc1 h1
      obtain ⟨id, cs, e1, e2, e3⟩ := h.ob b qs (by have := hb 0 qs rfl; simpa using this)
      obtain ⟨⟨l1, f1⟩, f2, f3⟩ := gSegs_ok h h1 e3
      obtain ⟨⟨l2, q1⟩, q2, q3, q4⟩ := gOb_ok h (b := b + 1) hg fun k qs hk => by rw [show b + 1 + k = b + (k + 1) by omega]; exact hb (k + 1) qs hk
      refine ⟨⟨l1 ++ l2, by rw [q1, f1, List.append_assoc]⟩, fun hc => q2 (f2 hc), by simp; omega, fun k ss' hk vs hv => ?_⟩
      cases k with
      | zero =>
        simp at hk; subst hk
        exact ⟨id, cs, e1, e2, f3 vs fun i x hi => hv i x (by rw [q1]; exact Pre.app _ _ i x hi)⟩
      | succ k => rw [show b + (k + 1) = b + 1 + k by omega]; exact q4 k ss' hk vs hv
    · cases hg
  | none :: _, [], _, _, _, hg, _ => by cases hg
  | some _ :: _, [], _, _, _, hg, _ => by cases hg
  | some _ :: _, none :: _, _, _, _, hg, _ => by cases hg
theorem lk_mem {α : Type} : ∀ {l : List (Nat × α)} {t : Nat} {a : α}, lk l t = some a → (t, a) ∈ l
  | (k, b) :: l, t, a, h => by
    rw [lk_cons] at h
    split at h
    · rename_i e; cases h; rw [e]; simp
    · exact List.mem_cons_of_mem _ (lk_mem h)
/-- A STATE AT A LABEL. -/
theorem jump_ok (h : Sat κ S ι s) {m : Nat} {T : PT} (hk : jump (BV Γ f) m T S = some r) : ∃ xs, Γ f m xs = some r ∧ xs.length = T.n ∧ Sat κ (T.start xs) (ι.take T.ob.length) s := by
  unfold jump at hk
  split at hk
  · rename_i acc h1
    split at hk
    · rename_i xs h2
      split at hk
      · rename_i hn0
        simp only [Bool.and_eq_true] at hn0
        obtain ⟨hn, hg1, hg2⟩ := hn0
        have hg1 := Nat.eq_of_beq_eq_true hg1
        have hg2 := Nat.le_of_ble_eq_true hg2
        obtain ⟨⟨l1, e1⟩, q1, q2⟩ := gTm_ok h h1
        obtain ⟨⟨l2, e2⟩, q3, q4, q5⟩ := gOb_ok h (b := 0) h2 fun k qs hq => by unfold PS.obj; rw [Nat.zero_add, hq]
        refine ⟨xs, hk, Nat.eq_of_beq_eq_true hn, ?_⟩
        refine ⟨fun t y hy => ?_, fun k ss hs => ?_, h.nd.sublist (List.take_sublist _ _), fun id hid => h.lt id (List.mem_of_mem_take hid), ?_, fun i b hb => (by cases hb), fun x hx => cleanL_iff.1 (q3 (q1 rfl)) x hx, ?_, fun k id hk => ?_, fun k id hk hgk => ?_, h.nH, h.fr⟩
        · exact q2 (t, y) (lk_mem hy) xs (by rw [e2]; exact Pre.app _ _)
        · have hs' : T.ob[k]? = some (some ss) := by
            simp only [PS.obj, PT.start] at hs
            split at hs
            · rename_i e; cases hs; exact e
            · cases hs
          obtain ⟨id, cs, f1, f2, f3⟩ := q5 k ss hs' xs (.refl _)
          rw [Nat.zero_add] at f1
          exact ⟨id, cs, by rw [List.getElem?_take, if_pos (List.getElem?_eq_some_iff.1 hs').1]; exact f1, f2, f3⟩
        · simp only [List.length_take, PT.start]; rw [h.len]; omega
        · show κ.ids.length = T.g; rw [hg1]; exact h.g
        · have hkg : k < T.g := by rw [hg1, ← h.g]; exact (List.getElem?_eq_some_iff.1 hk).1
          rw [List.getElem?_take, if_pos (by omega)]; exact h.pre k id hk
        · rw [List.getElem?_take] at hk
          split at hk
          · exact h.new k id hk (by rw [← hg1]; exact hgk)
          · cases hk
      · cases hk
    · cases hk
  · cases hk

/-! ## code -/
/-- what stands behind a place of a code -/
def labQ (GA : Abs.Spec) (gl : Glob) (m : Nat) : ACode → Nat → (Ex → St → Prop) → St → Prop
  | .seq a b, n, Q, s => if m < n + 1 + a.size then labQ GA gl m a (n + 1) (thenQ (awp GA gl b Q) Q) s else if m = n + 1 + a.size then awp GA gl b Q s else labQ GA gl m b (n + 1 + a.size) Q s
  | .cond _ a b, n, Q, s => if m < n + 1 + a.size then labQ GA gl m a (n + 1) Q s else labQ GA gl m b (n + 1 + a.size) Q s
  | .block id b, n, Q, s => labQ GA gl m b (n + 1) (fun e s => Q (e.inBlock id) s) s
  | .loop b, n, Q, s => if m = n then awp GA gl (.loop b) Q s else labQ GA gl m b (n + 1) (thenQ (awp GA gl (.loop b) Q) Q) s
  | _, _, _, _ => False
def ACode.isLoop : ACode → Bool
  | .loop _ => true
  | _ => false
def JOK (κ : Fc) (GA : Abs.Spec) (gl : Glob) (Γ : Gam) (f : Nat) (L : List (Nat × PT)) (c : ACode) (n : Nat) (Q : Ex → St → Prop) (r : V) : Prop :=
  ∀ m T xs ι s, n ≤ m → (n < m ∨ c.isLoop = true) → m < n + c.size → lk L m = some T → Γ f m xs = some r → xs.length = T.n → Sat κ (T.start xs) ι s → labQ GA gl m c n Q s
theorem size_pos (c : ACode) : 1 ≤ c.size := by cases c <;> simp [ACode.size]

theorem awp_loop1 {b : ACode} {Q : Ex → St → Prop} (h : awp GA gl b (thenQ (awp GA gl (.loop b) Q) Q) s) : awp GA gl (.loop b) Q s := by
  obtain ⟨e, t, h1, h2⟩ := awp_det h
  cases e with
  | normal =>
    obtain ⟨k, hk⟩ : awp GA gl (.loop b) Q t := h1
    exact ⟨k + 1, h2 _ hk⟩
  | exit i => exact ⟨1, h2 _ h1⟩
  | ret => exact ⟨1, h2 _ h1⟩

theorem JOK.seqA {L : List (Nat × PT)} {a b : ACode} {n : Nat} {Q : Ex → St → Prop} (h : JOK κ GA gl Γ f L (.seq a b) n Q r) : JOK κ GA gl Γ f L a (n + 1) (thenQ (awp GA gl b Q) Q) r := fun m T xs ι s h1 _ h2 h3 h4 h5 h6 => by
  have := h m T xs ι s (by omega) (.inl (by omega)) (by simp only [ACode.size]; omega) h3 h4 h5 h6
  simp only [labQ] at this
  rwa [if_pos (by omega)] at this
theorem JOK.seqB {L : List (Nat × PT)} {a b : ACode} {n : Nat} {Q : Ex → St → Prop} (h : JOK κ GA gl Γ f L (.seq a b) n Q r) : JOK κ GA gl Γ f L b (n + 1 + a.size) Q r := fun m T xs ι s h1 h7 h2 h3 h4 h5 h6 => by
  have := h m T xs ι s (by omega) (.inl (by omega)) (by simp only [ACode.size]; omega) h3 h4 h5 h6
  simp only [labQ] at this
  rw [if_neg (by omega)] at this
  split at this
  · rename_i e
    subst e
    rcases h7 with h7 | h7
    · omega
    · cases b <;> first | (cases h7; done) | skip
      simpa only [labQ, if_true] using this
  · exact this
theorem JOK.condA {L : List (Nat × PT)} {c : Opd} {a b : ACode} {n : Nat} {Q : Ex → St → Prop} (h : JOK κ GA gl Γ f L (.cond c a b) n Q r) : JOK κ GA gl Γ f L a (n + 1) Q r := fun m T xs ι s h1 _ h2 h3 h4 h5 h6 => by
  have := h m T xs ι s (by omega) (.inl (by omega)) (by simp only [ACode.size]; omega) h3 h4 h5 h6
  simp only [labQ] at this
  rwa [if_pos (by omega)] at this
theorem JOK.condB {L : List (Nat × PT)} {c : Opd} {a b : ACode} {n : Nat} {Q : Ex → St → Prop} (h : JOK κ GA gl Γ f L (.cond c a b) n Q r) : JOK κ GA gl Γ f L b (n + 1 + a.size) Q r := fun m T xs ι s h1 _ h2 h3 h4 h5 h6 => by
  have := h m T xs ι s (by omega) (.inl (by omega)) (by simp only [ACode.size]; omega) h3 h4 h5 h6
  simp only [labQ] at this
  rwa [if_neg (by omega)] at this
theorem JOK.block {L : List (Nat × PT)} {i : Nat} {b : ACode} {n : Nat} {Q : Ex → St → Prop} (h : JOK κ GA gl Γ f L (.block i b) n Q r) : JOK κ GA gl Γ f L b (n + 1) (fun e s => Q (e.inBlock i) s) r := fun m T xs ι s h1 _ h2 h3 h4 h5 h6 => by
  have := h m T xs ι s (by omega) (.inl (by omega)) (by simp only [ACode.size]; omega) h3 h4 h5 h6
  simpa only [labQ] using this
theorem JOK.loop {L : List (Nat × PT)} {b : ACode} {n : Nat} {Q : Ex → St → Prop} (h : JOK κ GA gl Γ f L (.loop b) n Q r) : JOK κ GA gl Γ f L b (n + 1) (thenQ (awp GA gl (.loop b) Q) Q) r := fun m T xs ι s h1 _ h2 h3 h4 h5 h6 => by
  have := h m T xs ι s (by omega) (.inl (by omega)) (by simp only [ACode.size]; omega) h3 h4 h5 h6
  simp only [labQ] at this
  rwa [if_neg (by omega)] at this

theorem pe_ok (hΓ : GamOK GA gl Γ ow) {L : List (Nat × PT)} : ∀ {c : ACode} {n : Nat} {S : PS V} {k : Ex → PS V → Option V} {Q : Ex → St → Prop} {ι : List Nat} {s : St}, JOK κ GA gl Γ f L c n Q r → Sat κ S ι s → pe (BV Γ f) ow L c n S k = some r →
    (∀ e S' ι' s', k e S' = some r → Sat κ S' ι' s' → Q e s') → awp GA gl c Q s
  | .skip, n, S, k, Q, ι, s, _, h, hk, hQ => hQ .normal S ι s hk h
  | .region os d, n, S, k, Q, ι, s, _, h, hk, hQ => by
    obtain ⟨S', ι', s', h1, h2, h3⟩ := opsG_ok (gl := gl) hΓ h hk
    simp only [awp, h2]
    exact hQ .normal S' ι' s' h1 h3
  | .seq a b, n, S, k, Q, ι, s, hJ, h, hk, hQ => by
    simp only [pe] at hk
    show awp GA gl a (thenQ (awp GA gl b Q) Q) s
    refine pe_ok hΓ hJ.seqA h hk fun e S' ι' s' h1 h2 => ?_
    cases e with
    | normal =>
      simp only at h1
      split at h1
      · rename_i T hT
        obtain ⟨xs, q1, q2, q3⟩ := jump_ok h2 h1
        have := hJ _ T xs _ s' (by omega) (.inl (by omega)) (by simp only [ACode.size]; have := size_pos b; omega) hT q1 q2 q3
        simp only [labQ] at this
        rw [if_neg (by omega)] at this
        simpa using this
      · rename_i hT
        exact pe_ok hΓ hJ.seqB h2 h1 hQ
    | exit i => exact hQ (.exit i) S' ι' s' h1 h2
    | ret => exact hQ .ret S' ι' s' h1 h2
  | .cond c a b, n, S, k, Q, ι, s, hJ, h, hk, hQ => by
    simp only [pe] at hk
    split at hk
    · rename_i hb
      simp only [awp, truth_ok h hb]
      exact pe_ok hΓ hJ.condA h hk hQ
    · rename_i hb
      simp only [awp, truth_ok h hb]
      exact pe_ok hΓ hJ.condB h hk hQ
    · split at hk
      · rename_i i o' sc hi
        have hat := h.opd hi
        split at hk
        · rename_i x hx
          have hxe : x = (evO s.tm c).nf := by have := hat.1; rw [hx] at this; exact Option.some.inj this
          rcases vif_some hk with ⟨e, h1⟩ | ⟨e, h1⟩
          · simp only [awp, nf_bool (hxe.symm.trans e)]
            exact pe_ok hΓ hJ.condA (h.know (by rw [hx, e])) h1 hQ
          · simp only [awp, nf_bool (hxe.symm.trans e)]
            exact pe_ok hΓ hJ.condB (h.know (by rw [hx, e])) h1 hQ
        · cases hk
      · cases hk
  | .block i b, n, S, k, Q, ι, s, hJ, h, hk, hQ => by
    show awp GA gl b (fun e s => Q (e.inBlock i) s) s
    exact pe_ok hΓ hJ.block h hk fun e S' ι' s' h1 h2 => hQ _ S' ι' s' h1 h2
  | .loop b, n, S, k, Q, ι, s, hJ, h, hk, hQ => by
    simp only [pe] at hk
    split at hk
    · rename_i T hT
      obtain ⟨xs, q1, q2, q3⟩ := jump_ok h hk
      have := hJ _ T xs _ s (Nat.le_refl _) (.inr rfl) (by simp only [ACode.size]; omega) hT q1 q2 q3
      simpa only [labQ, if_true] using this
    · cases hk
  | .exit i, n, S, k, Q, ι, s, _, h, hk, hQ => hQ (.exit i) S ι s hk h
  | .ret, n, S, k, Q, ι, s, _, h, hk, hQ => hQ .ret S ι s hk h
  | .fail, _, _, _, _, _, _, _, _, hk, _ => by cases hk

theorem peL_ok (hΓ : GamOK GA gl Γ ow) {L : List (Nat × PT)} {c : ACode} {n : Nat} {S : PS V} {k : Ex → PS V → Option V} {Q : Ex → St → Prop} {ι : List Nat} {s : St}
    (hJ : ∀ m T xs ι s, n < m → m < n + c.size → lk L m = some T → Γ f m xs = some r → xs.length = T.n → Sat κ (T.start xs) ι s → labQ GA gl m c n Q s)
    (hL : ∀ T xs ι s, lk L n = some T → Γ f n xs = some r → xs.length = T.n → Sat κ (T.start xs) ι s → awp GA gl c Q s) (h : Sat κ S ι s) (hk : peL (BV Γ f) ow L c n S k = some r)
    (hQ : ∀ e S' ι' s', k e S' = some r → Sat κ S' ι' s' → Q e s') : awp GA gl c Q s := by
  unfold peL at hk
  split at hk
  · rename_i b
    have hJ2 : JOK κ GA gl Γ f L (.loop b) n Q r := fun m T xs ι s h1 _ h2 h3 h4 h5 h6 => by
      rcases Nat.lt_or_ge n m with h7 | h7
      · exact hJ m T xs ι s h7 h2 h3 h4 h5 h6
      · have : m = n := by omega
        subst this
        simp only [labQ, if_true]; exact hL T xs ι s h3 h4 h5 h6
    refine awp_loop1 (pe_ok hΓ hJ2.loop h hk fun e S' ι' s' h1 h2 => ?_)
    cases e with
    | normal =>
      simp only at h1
      split at h1
      · rename_i T hT
        obtain ⟨xs, q1, q2, q3⟩ := jump_ok h2 h1
        exact hL T xs _ s' hT q1 q2 q3
      · cases h1
    | exit i => exact hQ (.exit i) S' ι' s' h1 h2
    | ret => exact hQ .ret S' ι' s' h1 h2
  · rename_i hno
    refine pe_ok hΓ (fun m T xs ι s h1 h7 h2 h3 h4 h5 h6 => ?_) h hk hQ
    rcases h7 with h7 | h7
    · exact hJ m T xs ι s h7 h2 h3 h4 h5 h6
    · cases c <;> first | exact absurd rfl (hno _) | (cases h7; done)
theorem peAt_lt {L : List (Nat × PT)} {m : Nat} : ∀ {c : ACode} {n : Nat} {S : PS V} {k : Ex → PS V → Option V}, m < n → peAt (BV Γ f) ow L m c n S k = none
  | .seq a b, n, S, k, h => by
    simp only [peAt]
    rw [show Nat.blt m (n + 1 + a.size) = true from Nat.ble_eq_true_of_le (by omega)]
    exact peAt_lt (by omega)
  | .cond _ a b, n, S, k, h => by
    simp only [peAt]
    rw [show Nat.blt m (n + 1 + a.size) = true from Nat.ble_eq_true_of_le (by omega)]
    exact peAt_lt (by omega)
  | .block _ b, n, S, k, h => by simp only [peAt]; exact peAt_lt (by omega)
  | .loop b, n, S, k, h => by
    simp only [peAt]
    rw [show Nat.beq m n = false from by cases e : Nat.beq m n; rfl; exact absurd (Nat.eq_of_beq_eq_true e) (by omega)]
    exact peAt_lt (by omega)
  | .skip, _, _, _, _ => rfl
  | .region _ _, _, _, _, _ => rfl
  | .exit _, _, _, _, _ => rfl
  | .ret, _, _, _, _ => rfl
  | .fail, _, _, _, _ => rfl
theorem peAt_ok (hΓ : GamOK GA gl Γ ow) {L : List (Nat × PT)} {m : Nat} : ∀ {c : ACode} {n : Nat} {S : PS V} {k : Ex → PS V → Option V} {Q : Ex → St → Prop} {ι : List Nat} {s : St}, JOK κ GA gl Γ f L c n Q r → Sat κ S ι s → peAt (BV Γ f) ow L m c n S k = some r →
    (∀ e S' ι' s', k e S' = some r → Sat κ S' ι' s' → Q e s') → labQ GA gl m c n Q s
  | .seq a b, n, S, k, Q, ι, s, hJ, h, hk, hQ => by
    simp only [peAt] at hk
    simp only [labQ]
    split at hk
    · rename_i hlt
      have hlt' : m < n + 1 + a.size := Nat.le_of_ble_eq_true hlt
      rw [if_pos hlt']
      refine peAt_ok hΓ hJ.seqA h hk fun e S' ι' s' h1 h2 => ?_
      cases e with
      | normal =>
        simp only at h1
        split at h1
        · rename_i T hT
          obtain ⟨xs, q1, q2, q3⟩ := jump_ok h2 h1
          have := hJ _ T xs _ s' (by omega) (.inl (by omega)) (by simp only [ACode.size]; have := size_pos b; omega) hT q1 q2 q3
          simp only [labQ] at this
          rw [if_neg (by omega)] at this
          simpa using this
        · rename_i hT
          exact pe_ok hΓ hJ.seqB h2 h1 hQ
      | exit i => exact hQ (.exit i) S' ι' s' h1 h2
      | ret => exact hQ .ret S' ι' s' h1 h2
    · rename_i hlt
      have hlt' : ¬ m < n + 1 + a.size := fun e => by rw [show Nat.blt m (n + 1 + a.size) = true from Nat.ble_eq_true_of_le e] at hlt; cases hlt
      rw [if_neg hlt']
      split at hk
      · rename_i he
        have he := Nat.eq_of_beq_eq_true he
        rw [if_pos he]
        refine peL_ok hΓ (fun m' T xs ι s h1 h2 h3 h4 h5 h6 => ?_) (fun T xs ι s h3 h4 h5 h6 => ?_) h hk hQ
        · exact hJ.seqB m' T xs ι s (by omega) (.inl h1) h2 h3 h4 h5 h6
        · have := hJ _ T xs ι s (by omega) (.inl (by omega)) (by simp only [ACode.size]; have := size_pos b; omega) h3 h4 h5 h6
          simp only [labQ] at this
          rw [if_neg (by omega)] at this
          simpa using this
      · rename_i he
        rw [if_neg (fun e => by rw [e, Nat.beq_refl] at he; cases he)]
        exact peAt_ok hΓ hJ.seqB h hk hQ
  | .cond c a b, n, S, k, Q, ι, s, hJ, h, hk, hQ => by
    simp only [peAt] at hk
    simp only [labQ]
    split at hk
    · rename_i hlt
      rw [if_pos (show m < n + 1 + a.size from Nat.le_of_ble_eq_true hlt)]
      exact peAt_ok hΓ hJ.condA h hk hQ
    · rename_i hlt
      rw [if_neg (fun e : m < n + 1 + a.size => by rw [show Nat.blt m (n + 1 + a.size) = true from Nat.ble_eq_true_of_le e] at hlt; cases hlt)]
      exact peAt_ok hΓ hJ.condB h hk hQ
  | .block i b, n, S, k, Q, ι, s, hJ, h, hk, hQ => by
    simp only [peAt] at hk
    simp only [labQ]
    exact peAt_ok hΓ hJ.block h hk fun e S' ι' s' h1 h2 => hQ _ S' ι' s' h1 h2
  | .loop b, n, S, k, Q, ι, s, hJ, h, hk, hQ => by
    simp only [peAt] at hk
    simp only [labQ]
    split at hk
    · rename_i he
      rw [if_pos (Nat.eq_of_beq_eq_true he)]
      refine peL_ok hΓ (fun m' T xs ι s h1 h2 h3 h4 h5 h6 => ?_) (fun T xs ι s h3 h4 h5 h6 => ?_) h hk hQ
      · exact hJ m' T xs ι s (by omega) (.inl h1) h2 h3 h4 h5 h6
      · have := hJ _ T xs ι s (Nat.le_refl _) (.inr rfl) (by simp only [ACode.size]; omega) h3 h4 h5 h6
        simpa only [labQ, if_true] using this
    · rename_i he
      rw [if_neg (fun e => by rw [e, Nat.beq_refl] at he; cases he)]
      refine peAt_ok hΓ hJ.loop h hk fun e S' ι' s' h1 h2 => ?_
      cases e with
      | normal =>
        simp only at h1
        split at h1
        · rename_i T hT
          obtain ⟨xs, q1, q2, q3⟩ := jump_ok h2 h1
          have := hJ _ T xs _ s' (Nat.le_refl _) (.inr rfl) (by simp only [ACode.size]; omega) hT q1 q2 q3
          show awp GA gl (.loop b) Q s'
          simpa only [labQ, if_true] using this
        · cases h1
      | exit i => exact hQ (.exit i) S' ι' s' h1 h2
      | ret => exact hQ .ret S' ι' s' h1 h2
  | .skip, _, _, _, _, _, _, _, _, hk, _ => by cases hk
  | .region _ _, _, _, _, _, _, _, _, _, hk, _ => by cases hk
  | .exit _, _, _, _, _, _, _, _, _, hk, _ => by cases hk
  | .ret, _, _, _, _, _, _, _, _, hk, _ => by cases hk
  | .fail, _, _, _, _, _, _, _, _, hk, _ => by cases hk

/-! ## functions -/
theorem resL_ok (h : Sat κ S ι s) : ∀ {rs : List RS} {S : PS V} {acc : List V}, Sat κ S ι s → resL (BV Γ f) S rs acc = some r → cleanL acc = true → ∃ vs, rvs s rs = some vs ∧ r = oneV (acc ++ nfL vs) ∧ cleanL (acc ++ nfL vs) = true ∧ vs.length = rs.length
  | [], S, acc, _, hk, hc => ⟨[], rfl, by simp only [resL, BV, Option.some.injEq] at hk; rw [← hk]; simp [nfL], by simpa [nfL] using hc, rfl⟩
  | .t t :: rs, S, acc, h1, hk, hc => by
    simp only [resL, resR] at hk
    cases hg : S.get t with
    | none => rw [hg] at hk; cases hk
    | some y =>
      rw [hg] at hk
      obtain ⟨S1, h2, h3, _, h4⟩ := h1.mat (h1.tm t _ hg) hk
      obtain ⟨vs, q1, q2, q3, q4⟩ := resL_ok h h3 h2 (clean_app hc (by simp only [cleanL, h4, Bool.and_self]))
      exact ⟨s.tm t :: vs, by simp only [rvs, rv, Option.bind_some, q1, Option.map_some], by rw [q2]; simp [nfL], by simpa [nfL] using q3, by simp [q4]⟩
  | .c t n :: rs, S, acc, h1, hk, hc => by
    simp only [resL, resR] at hk
    split at hk
    · rename_i o off hg
      split at hk
      · rename_i ss hss
        obtain ⟨id, hid, e1⟩ := h1.tm t _ hg
        obtain ⟨id', cs, q1, q2, q3⟩ := h1.ob o ss hss
        rw [hid] at q1; cases q1
        obtain ⟨v, y, S1, f1, f2, f3, _, f5⟩ := ldY_ok h1 q3 hk
        obtain ⟨S2, h2, h3, _, h4⟩ := f3.mat f5 f2
        obtain ⟨vs, q5, q6, q7, q8⟩ := resL_ok h h3 h2 (clean_app hc (by simp only [cleanL, h4, Bool.and_self]))
        exact ⟨v :: vs, by simp only [rvs, rv, e1, q2, Option.bind_some, f1, Option.map_some, q5], by rw [q6]; simp [nfL], by simpa [nfL] using q7, by simp [q8]⟩
      · cases hk
    · cases hk
def endY (res : List RS) (own : Bool) (r : V) (e : Ex) (s : St) : Prop := endQ res own r e s ∧ r.clean = true
theorem resK_ok (h : Sat κ S ι s) {own : Bool} {res : List RS} {e : Ex} (hk : resK (BV Γ f) own res e S = some r) : endY res own r e s := by
  have main : resL (BV Γ f) S res [] = some r → (own = true → ∃ t, res = [.t t] ∧ Own (s.tm t) (s.own (.slot t))) → EndsX res own r s ∧ r.clean = true := by
    intro hk ho
    obtain ⟨vs, h1, h2, h3, h4⟩ := resL_ok h h hk rfl
    simp only [List.nil_append] at h2 h3
    by_cases h6 : ∃ t n, res = [.c t n]
    · obtain ⟨t, n, rfl⟩ := h6
      have hown : own = false := by
        cases own with
        | false => rfl
        | true => obtain ⟨t, e, _⟩ := ho rfl; cases e
      subst hown
      simp only [rvs] at h1
      cases hv : rv s (.c t n) with
      | none => rw [hv] at h1; cases h1
      | some p =>
        rw [hv] at h1
        simp only [Option.bind_some, Option.map_some, Option.some.injEq] at h1
        subst h1
        exact ⟨⟨p, hv, h2.symm, fun h => nomatch h⟩, by have e : r = p.1.nf := h2; rw [e]; simpa [nfL, cleanL] using h3⟩
    by_cases h5 : ∃ t, res = [.t t]
    · obtain ⟨t, rfl⟩ := h5
      simp only [rvs, rv, Option.bind_some, Option.map_some, Option.some.injEq] at h1
      subst h1
      have hr : r = (s.tm t).nf := h2
      refine ⟨⟨(s.tm t, s.own (.slot t)), rfl, hr.symm, fun h => ?_⟩, ?_⟩
      · obtain ⟨t', e, h6⟩ := ho h
        cases e; exact h6
      · rw [hr]; simpa [nfL, cleanL] using h3
    · have hown : own = false := by
        cases own with
        | false => rfl
        | true => obtain ⟨t, e, _⟩ := ho rfl; exact absurd ⟨t, e⟩ h5
      have hl : vs.length ≠ 1 := by
        intro hl
        rw [h4] at hl
        match res, hl with
        | [.t t], _ => exact h5 ⟨t, rfl⟩
        | [.c t n], _ => exact h6 ⟨t, n, rfl⟩
      have hr : r = .tup (nfL vs) := by
        rw [h2]
        match vs, hl with
        | [], _ => rfl
        | x :: y :: l, _ => rfl
      have hres : resOf res s = some (.tup vs, false) := by
        unfold resOf
        split
        · exact absurd h4 (by simp; omega)
        · rw [h1]; rfl
      subst hown
      exact ⟨⟨_, hres, by rw [hr]; rfl, fun h => nomatch h⟩, by rw [hr]; exact h3⟩
  have main2 : ∀ e', resK (BV Γ f) own res e' S = some r → (∀ i, e' ≠ .exit i) → EndsX res own r s ∧ r.clean = true := by
    intro e' hk' hne
    unfold resK at hk'
    split at hk'
    · exact absurd rfl (hne _)
    · split at hk'
      · exact main hk' fun h => nomatch h
      · split at hk'
        · rename_i t
          split at hk'
          · rename_i a hg
            split at hk'
            · rename_i ho
              exact main hk' fun _ => ⟨t, rfl, AtS.owned (h.tm t _ hg) ho⟩
            · cases hk'
          · cases hk'
        · cases hk'
  cases e with
  | exit i => cases hk
  | normal => exact main2 _ hk fun _ h => nomatch h
  | ret => exact main2 _ hk fun _ h => nomatch h
theorem params_get : ∀ {n t : Nat} {y : Sy}, lk (params n) t = some y → t < n ∧ y = .at (.n t false false)
  | 0, _, _, h => by cases h
  | n + 1, t, y, h => by
    have app : ∀ {l m : List (Nat × Sy)}, lk (l ++ m) t = some y → lk l t = some y ∨ lk m t = some y := by
      intro l
      induction l with
      | nil => intro m h; exact .inr h
      | cons p l ih =>
        intro m h
        obtain ⟨k, b⟩ := p
        rw [List.cons_append, lk_cons] at h
        rw [lk_cons]
        split at h
        · rename_i e; rw [if_pos e]; exact .inl h
        · rename_i e; rw [if_neg e]; exact ih h
    rcases app h with h | h
    · obtain ⟨h1, h2⟩ := params_get h; exact ⟨by omega, h2⟩
    · rw [lk_cons] at h
      split at h
      · rename_i e; cases h; subst e; exact ⟨by omega, rfl⟩
      · cases h
theorem entry_ok {args : List V} {n : Nat} (hl : args.length = n) (hc : cleanL (nfL args) = true) : Sat ⟨[], ⟨fun _ => none, 0, fun _ _ => false⟩⟩ ((entry n).start (nfL args)) [] (St.init args) where
  tm t y hy := by
    obtain ⟨h1, rfl⟩ := params_get hy
    refine ⟨?_, fun h => (nomatch h), fun h => (nomatch h)⟩
    show (nfL args)[t]? = _
    rw [nfL_get, init_tm, List.getElem?_eq_getElem (by omega)]
    simp [List.getD, hl, h1]
  ob k ss hk := by simp [PS.obj, PT.start, entry] at hk
  nd := List.nodup_nil
  lt _ h := by cases h
  len := rfl
  lits _ _ h := by cases h
  cln x hx := cleanL_iff.1 hc x hx
  g := rfl
  pre _ _ h := by simp at h
  new _ _ h := by simp at h
  nH := Nat.zero_le _
  fr _ h := absurd h (Nat.not_lt_zero _)

/-! ## ends that give objects -/
def rvps (s : St) : List RS → Option (List (V × Bool))
  | [] => some []
  | r :: rs => (rv s r).bind fun p => (rvps s rs).map (p :: ·)
theorem rvps_rvs {s : St} : ∀ {rs : List RS} {ps : List (V × Bool)}, rvps s rs = some ps → rvs s rs = some (ps.map (·.1))
  | [], ps, h => by cases h; rfl
  | r :: rs, ps, h => by
    simp only [rvps, Option.bind_eq_some_iff, Option.map_eq_some_iff] at h
    obtain ⟨p, h1, ps', h2, rfl⟩ := h
    simp only [rvs, h1, Option.bind_some, rvps_rvs h2, Option.map_some, List.map_cons]
theorem resA_ok : ∀ {rs : List RS} {S : PS V} {kk : List At → PS V → Option V}, Sat κ S ι s → resA (BV Γ f) S rs kk = some r → ∃ az S' ps, kk az S' = some r ∧ Sat κ S' ι s ∧ Ext S S' ∧ rvps s rs = some ps ∧ AtsO ι S'.vals az ps
  | [], S, kk, h, hk => ⟨[], S, [], hk, h, .refl S, rfl, rfl⟩
  | .t t :: rs, S, kk, h, hk => by
    simp only [resA] at hk
    obtain ⟨a, S1, h1, h2, h3, h4⟩ := atO_ok h (v := s.tm t) (o := s.own (.slot t)) (fun z hz => h.tm t z hz) hk
    obtain ⟨az, S2, ps, h5, h6, h7, h8, h9⟩ := resA_ok h2 h1
    exact ⟨_, S2, (s.tm t, s.own (.slot t)) :: ps, h5, h6, h3.trans h7, by simp only [rvps, rv, Option.bind_some, h8, Option.map_some], _, _, rfl, h4.mono (.refl _) h7.pre, h9⟩
  | .c t n :: rs, S, kk, h, hk => by
    simp only [resA] at hk
    split at hk
    · rename_i o off hg
      split at hk
      · rename_i ss hss
        obtain ⟨id, hid, e1⟩ := h.tm t _ hg
        obtain ⟨id', cs, q1, q2, q3⟩ := h.ob o ss hss
        rw [hid] at q1; cases q1
        obtain ⟨v, y, S1, f1, f2, f3, f4, f5⟩ := ldY_ok h q3 hk
        obtain ⟨a, S2, h1, h2, h3, h4⟩ := atO_ok f3 (v := v) (o := false) (fun z hz => by cases hz; exact f5) f2
        obtain ⟨az, S3, ps, h5, h6, h7, h8, h9⟩ := resA_ok h2 h1
        exact ⟨_, S3, (v, false) :: ps, h5, h6, f4.trans (h3.trans h7), by simp only [rvps, rv, e1, q2, Option.bind_some, f1, Option.map_some, h8], _, _, rfl, h4.mono (.refl _) h7.pre, h9⟩
      · cases hk
    · cases hk
theorem idR_mem : ∀ {n k o : Nat}, (k, o) ∈ idR n ↔ k = o ∧ k < n
  | 0, k, o => by simp [idR]
  | n + 1, k, o => by
    simp only [idR, List.mem_append, idR_mem (n := n), List.mem_singleton, Prod.mk.injEq]
    omega
theorem idR_lk : ∀ {n k : Nat}, k < n → lk (idR n) k = some k := by
  have app : ∀ {l m : List (Nat × Nat)} {k : Nat}, lk (l ++ m) k = match lk l k with | some x => some x | none => lk m k := by
    intro l
    induction l with
    | nil => intro m k; rfl
    | cons p l ih =>
      intro m k
      obtain ⟨a, b⟩ := p
      rw [List.cons_append, lk_cons, lk_cons]
      split
      · rfl
      · exact ih
  intro n
  induction n with
  | zero => intro k h; omega
  | succ n ih =>
    intro k h
    rw [idR, app]
    by_cases hk : k < n
    · rw [ih hk]
    · have : k = n := by omega
      subst this
      cases he : lk (idR k) k with
      | some x => have := (idR_mem.1 (lk_mem' he)).2; omega
      | none => simp only [lk_cons, if_true]
theorem fitR_ok (h : Sat κ S ι s) {az : List At} {ps : List (V × Bool)} (ha : AtsO ι S.vals az ps) {rt : RT} {xs : List V} (hf : fitR (BV Γ f) S az rt = some xs) {v : V} {o : Bool} 
    (hvo : (∃ p, ps = [p] ∧ v = p.1 ∧ o = p.2) ∨ (ps.length ≠ 1 ∧ v = .tup (ps.map (·.1)) ∧ ∀ p ∈ ps, p.2 = false)) : ∃ ι', RetS κ rt xs v o s.hs ι' := by
  unfold fitR at hf
  split at hf
  · rename_i hb
    simp only [Bool.and_eq_true] at hb
    have hg1 := Nat.le_of_ble_eq_true hb.1
    have hg2 := Nat.le_of_ble_eq_true hb.2
    split at hf
    · rename_i ρ1 acc1 h1
      split at hf
      · rename_i ρ xs2 h2
        split at hf
        · rename_i hx
          cases hf
          have hr0 : RI rt.ob.length (idR S.g) := ⟨fun k o hm => by obtain ⟨rfl, hk⟩ := idR_mem.1 hm; exact idR_lk hk, fun k k' o h1 h2 => (idR_mem.1 h1).1.trans (idR_mem.1 h2).1.symm, fun k o hm => by have := (idR_mem.1 hm).2; omega⟩
          obtain ⟨r1, r2, ⟨l1, e1⟩, r4, r5⟩ := mAts_ok h h1 hr0 ha
          obtain ⟨u1, u2, ⟨l2, e2⟩, u4, u5, u6⟩ := mObs_ok h h2 r1
          have hcov : Cov rt.ob.length ρ ι := fun k hk => by
            obtain ⟨o, h3, h4⟩ := u5 k hk
            rw [Nat.zero_add] at h3
            rw [← h.len] at h4
            exact ⟨o, _, h3, List.getElem?_eq_getElem h4⟩
          have hag := ιOf_get (ι := ι) u1
          have hid : ∀ k, k < S.g → (k, k) ∈ ρ := fun k hk => u2 _ (r2 _ (idR_mem.2 ⟨rfl, hk⟩))
          have hres := r5 _ xs (hag.sub u2) (by rw [e2]; exact Pre.app _ _)
          refine ⟨ιOf rt.ob.length ρ ι, ?_⟩
          exact {
            n := Nat.eq_of_beq_eq_true hx
            cl := u4 (r4 rfl)
            pre := fun k id hk => by
              have hkg : k < S.g := by rw [← h.g]; exact (List.getElem?_eq_some_iff.1 hk).1
              exact hag _ _ _ (hid k hkg) (h.pre k id hk)
            len := ιOf_len _ _ _
            nd := ιOf_nd u1 hcov h.nd
            lt := fun id hid => by
              obtain ⟨k, hk⟩ := List.mem_iff_getElem?.1 hid
              obtain ⟨o, _, h4⟩ := ιOf_inv u1 hcov hk
              exact h.lt id (List.mem_of_getElem? h4)
            new := fun k id hk hgk => by
              obtain ⟨o', h3, h4⟩ := ιOf_inv u1 hcov hk
              rw [h.g] at hgk
              refine h.new o' id h4 ?_
              rcases Nat.lt_or_ge o' S.g with h5 | h5
              · have := u1.inj _ _ _ (hid o' h5) h3; omega
              · exact h5
            nH := h.nH
            res := by
              rcases hvo with ⟨p, rfl, rfl, rfl⟩ | ⟨h3, rfl, h5⟩
              · have hl := hres.len
                match hrt : rt.res, hl with
                | [T], _ =>
                  rw [hrt] at hres
                  obtain ⟨p', ps', e, h6, _⟩ := hres
                  cases e
                  exact h6
              · have hl := hres.len
                have key := hres.ats h5
                unfold ResS
                split
                · rename_i T e; rw [e] at hl; exact absurd hl.symm h3
                · exact ⟨_, rfl, key⟩
            ob := fun k ss hk => by
              obtain ⟨o', id, cs, h3, h4, h5, h6⟩ := u6 k ss hk
              rw [Nat.zero_add] at h3
              exact ⟨id, cs, hag _ _ _ h3 h4, h5, h6 _ xs hag (.refl _)⟩
            fr := h.fr }
        · cases hf
      · cases hf
    · cases hf
  · cases hf
def endH (κ : Fc) (rts : List RT) (res : List RS) (r : V) : Ex → St → Prop
  | .exit _, _ => False
  | _, s => ∃ v o, resOf res s = some (v, o) ∧ RetR κ rts r v o s.hs
theorem retT_ok {az : List At} : ∀ {l : List RT} {j : Nat}, retT (BV Γ f) S az j l = some r → ∃ m rt xs, l[m]? = some rt ∧ fitR (BV Γ f) S az rt = some xs ∧ r = oneV (.int .i64 ((j + m : Nat) : Int) :: dumV xs)
  | [], j, h => by cases h
  | rt :: l, j, h => by
    simp only [retT] at h
    split at h
    · rename_i xs hf
      cases h
      exact ⟨0, rt, xs, rfl, hf, by cases xs <;> rfl⟩
    · obtain ⟨m, rt', xs, h1, h2, h3⟩ := retT_ok (j := j + 1) (by exact_mod_cast h)
      exact ⟨m + 1, rt', xs, by simpa using h1, h2, by rw [h3, show j + 1 + m = j + (m + 1) by omega]⟩
theorem resH_ok (h : Sat κ S ι s) {rts : List RT} {res : List RS} {e : Ex} (hk : resH (BV Γ f) rts res e S = some r) : endH κ rts res r e s := by
  have main : (resA (BV Γ f) S res fun az S1 => retP (BV Γ f) S1 (oneA az) rts) = some r → ∃ v o, resOf res s = some (v, o) ∧ RetR κ rts r v o s.hs := by
    intro hk
    obtain ⟨az, S1, ps, h1, h2, _, h3, h4⟩ := resA_ok h hk
    have hl : rvps s res = some ps → res.length = ps.length := by
      have : ∀ {rs : List RS} {ps : List (V × Bool)}, rvps s rs = some ps → rs.length = ps.length := by
        intro rs
        induction rs with
        | nil => intro ps h; cases h; rfl
        | cons r rs ih =>
          intro ps h
          simp only [rvps, Option.bind_eq_some_iff, Option.map_eq_some_iff] at h
          obtain ⟨p, _, ps', h2, rfl⟩ := h
          simp [ih h2]
      exact this
    have hl := hl h3
    obtain ⟨az', ps', v, o, e1, hat, hvo, hres⟩ : ∃ az' ps' v o, oneA az = az' ∧ AtsO ι S1.vals az' ps' ∧ ((∃ p, ps' = [p] ∧ v = p.1 ∧ o = p.2) ∨ (ps'.length ≠ 1 ∧ v = .tup (ps'.map (·.1)) ∧ ∀ p ∈ ps', p.2 = false)) ∧ resOf res s = some (v, o) := by
      by_cases hp1 : ps.length = 1
      · match ps, hp1, hl with
        | [p], _, hl =>
          match res, hl, h3 with
          | [rr], _, h3 =>
            simp only [rvps, Option.bind_eq_some_iff, Option.map_eq_some_iff] at h3
            obtain ⟨p', h5, ps', h6, h7⟩ := h3
            cases h6; cases h7
            match az, h4.len, h4 with
            | [a], _, h4 => exact ⟨_, _, p.1, p.2, rfl, h4, .inl ⟨p, rfl, rfl, rfl⟩, h5⟩
      · refine ⟨az.map At.noOwn, ps.map fun p => (p.1, false), .tup (ps.map (·.1)), false, ?_, h4.noOwn, .inr ⟨by simpa using hp1, by simp [Function.comp_def], fun p hp => ?_⟩, ?_⟩
        · match az, h4.len with
          | [a], hl2 => exact absurd hl2.symm hp1
          | [], _ => rfl
          | _ :: _ :: _, _ => rfl
        · obtain ⟨q, _, rfl⟩ := List.mem_map.1 hp; rfl
        · unfold resOf
          split
          · exact absurd hl (by simpa using Ne.symm hp1)
          · rw [rvps_rvs h3]; rfl
    rw [e1] at h1
    refine ⟨v, o, hres, ?_⟩
    unfold retP at h1
    split at h1
    · rename_i rt
      split at h1
      · rename_i xs hf
        cases h1
        obtain ⟨ι', hR⟩ := fitR_ok h2 hat hf hvo
        exact ⟨0, _, xs, ι', rfl, rfl, hR⟩
      · cases h1
    · rename_i hno
      obtain ⟨m, rt, xs, h5, h6, h7⟩ := retT_ok (j := 0) h1
      obtain ⟨ι', hR⟩ := fitR_ok h2 hat h6 hvo
      refine ⟨m, rt, xs, ι', h5, ?_, hR⟩
      rw [h7, Nat.zero_add]
      unfold packR
      split
      · rename_i hl1
        match rts, hl1, hno with
        | [rt], _, hno => exact absurd rfl (hno rt)
      · rfl
  cases e with
  | exit i => cases hk
  | normal => exact main hk
  | ret => exact main hk

/-! ## rows of the table -/
def endF (κ : Fc) (E : FE) (res : List RS) (r : V) : Ex → St → Prop := match E.ret with | none => endY res E.own r | some rts => endH κ rts res r
theorem resE_ok (h : Sat κ S ι s) {E : FE} {res : List RS} {e : Ex} (hk : resE (BV Γ f) E res e S = some r) : endF κ E res r e s := by
  unfold resE at hk
  unfold endF
  split at hk
  · rename_i he; rw [he]; exact resK_ok h hk
  · rename_i rts he; rw [he]; exact resH_ok h hk
def LabOK (GA : Abs.Spec) (gl : Glob) (F : AFn) (E : FE) (l : Nat) (xs : List V) (r : V) : Prop := ∀ κ T ι s, lk E.lab l = some T → xs.length = T.n → Sat κ (T.start xs) ι s → labQ GA gl l F.body 2 (endF κ E F.res r) s
theorem peF_ok (hΓ : GamOK GA gl Γ ow) {F : AFn} {E : FE} (hf : E.k = f) (hJ : ∀ l xs, 2 ≤ l → Γ f l xs = some r → LabOK GA gl F E l xs r) {l : Nat} {xs : List V} (hk : peF (BV Γ f) ow F E l xs = some r) :
    (l = 0 → E.k = E.f ∧ E.ret = none ∧ ∀ args, nfL args = xs → cleanL xs = true → args.length ≤ F.n ∧ awp GA gl F.body (endY F.res E.own r) (St.init args)) ∧
    (l = 1 → ∀ rts, E.ret = some rts → ∀ args ι hs, args.length = E.ar → Sat ⟨ι, hs⟩ (E.ent.start xs) ι (St.initH args hs) → args.length ≤ F.n ∧ awp GA gl F.body (endH ⟨ι, hs⟩ rts F.res r) (St.initH args hs)) ∧
    (2 ≤ l → LabOK GA gl F E l xs r) := by
  have J : ∀ κ, JOK κ GA gl Γ f E.lab F.body 2 (endF κ E F.res r) r := fun κ m T xs ι s h1 _ h2 h3 h4 h5 h6 => hJ m xs h1 h4 κ T ι s h3 h5 h6
  unfold peF at hk
  split at hk
  · refine ⟨fun _ => ?_, (fun h => by cases h), fun h => absurd h (by omega)⟩
    split at hk
    · rename_i hb
      simp only [Bool.and_eq_true] at hb
      obtain ⟨⟨⟨b1, b2⟩, b3⟩, b4⟩ := hb
      have h1 := Nat.eq_of_beq_eq_true b1
      have h2 := Nat.le_of_ble_eq_true b2
      have hret : E.ret = none := by cases he : E.ret with
        | none => rfl
        | some _ => rw [he] at b4; cases b4
      refine ⟨Nat.eq_of_beq_eq_true b3, hret, fun args ha hc => ?_⟩
      subst ha
      rw [nfL_length] at h1
      refine ⟨by omega, ?_⟩
      have := pe_ok hΓ (J ⟨[], ⟨fun _ => none, 0, fun _ _ => false⟩⟩) (entry_ok h1 hc) hk fun e S' ι' s' q1 q2 => resE_ok q2 q1
      unfold endF at this
      rw [hret] at this
      exact this
    · cases hk
  · refine ⟨(fun h => by cases h), fun _ rts hret args ι hs hl hS => ?_, fun h => absurd h (by omega)⟩
    split at hk
    · rename_i hb
      simp only [Bool.and_eq_true] at hb
      obtain ⟨⟨b1, b2⟩, b3⟩ := hb
      have h2 := Nat.le_of_ble_eq_true b2
      refine ⟨by omega, ?_⟩
      have := pe_ok hΓ (J ⟨ι, hs⟩) hS hk fun e S' ι' s' q1 q2 => resE_ok q2 q1
      unfold endF at this
      rw [hret] at this
      exact this
    · cases hk
  · rename_i l
    refine ⟨fun h => (by cases h), fun h => absurd h (by omega), fun _ κ T ι s hT hn hs => ?_⟩
    rw [hT] at hk
    simp only [hn, Nat.beq_refl] at hk
    exact peAt_ok hΓ (J κ) hs hk fun e S' ι' s' q1 q2 => resE_ok q2 q1
end Go.Abs
/-
  Y, part 10: the reader respects what its builders have in common. Own work of this seat.
-/
namespace Go.Abs

structure RelB {X D1 D2 : Type} (B1 : Bld X D1) (B2 : Bld X D2) (R : D1 → D2 → Prop) : Prop where
  c : B1.c = B2.c
  fail : R B1.fail B2.fail
  prim : ∀ p xs i k1 k2, (∀ x, R (k1 x) (k2 x)) → R (B1.prim p xs i k1) (B2.prim p xs i k2)
  ite : ∀ x a1 a2 b1 b2, R a1 a2 → R b1 b2 → R (B1.ite x a1 b1) (B2.ite x a2 b2)
  call : ∀ f xs i k1 k2, (∀ x, R (k1 x) (k2 x)) → R (B1.call f xs i k1) (B2.call f xs i k2)
  callv : ∀ v xs i k1 k2, (∀ x, R (k1 x) (k2 x)) → R (B1.callv v xs i k1) (B2.callv v xs i k2)
  callh : ∀ f xs i k1 k2, (∀ x, R (k1 x) (k2 x)) → R (B1.callh f xs i k1) (B2.callh f xs i k2)
  jmp : ∀ l xs, R (B1.jmp l xs) (B2.jmp l xs)
  ret : ∀ xs, R (B1.ret xs) (B2.ret xs)
  amb : ∀ x a1 a2 b1 b2, R a1 a2 → R b1 b2 → R (B1.amb x a1 b1) (B2.amb x a2 b2)

variable {X D1 D2 : Type} {B1 : Bld X D1} {B2 : Bld X D2} {R : D1 → D2 → Prop} {S : PS X}

theorem RelB.valA (h : RelB B1 B2 R) (S : PS X) (a : At) : S.valA B1 a = S.valA B2 a := by
  cases a <;> simp only [PS.valA, h.c]
theorem RelB.segVals (h : RelB B1 B2 R) (S : PS X) : ∀ ss : List Seg, segVals B1 S ss = segVals B2 S ss
  | [] => rfl
  | .one a :: r => by simp only [Abs.segVals, h.valA, RelB.segVals h S r]
  | .many (some n) a :: r => by simp only [Abs.segVals, h.valA, RelB.segVals h S r]
  | .many none a :: r => rfl
theorem RelB.mat (h : RelB B1 B2 R) {S : PS X} {y : Option Sy} {k1 : X → PS X → D1} {k2 : X → PS X → D2} (hk : ∀ x S, R (k1 x S) (k2 x S)) : R (mat B1 S y k1) (mat B2 S y k2) := by
  unfold Abs.mat
  split
  · rw [h.valA]; split <;> first | exact hk _ _ | exact h.fail
  · split <;> first | exact hk _ _ | exact h.fail
  · rw [h.segVals]; split
    · exact h.prim _ _ _ _ _ fun x => hk _ _
    · exact h.fail
  · exact h.fail
  · exact h.fail
theorem RelB.matL (h : RelB B1 B2 R) : ∀ {xs : List Opd} {S : PS X} {k1 : List X → PS X → D1} {k2 : List X → PS X → D2}, (∀ x S, R (k1 x S) (k2 x S)) → R (matL B1 S xs k1) (matL B2 S xs k2)
  | [], _, _, _, hk => hk _ _
  | o :: xs, S, k1, k2, hk => by
    simp only [Abs.matL]
    exact h.mat fun x S1 => RelB.matL h fun ys S2 => hk _ _
theorem RelB.doX (h : RelB B1 B2 R) {S : PS X} {p : Prim} {xs : List X} {d : Option Nat} {own : Bool} {k1 : PS X → D1} {k2 : PS X → D2} (hk : ∀ S, R (k1 S) (k2 S)) : R (doX B1 S p xs d own k1) (doX B2 S p xs d own k2) :=
  h.prim _ _ _ _ _ fun _ => hk _
theorem RelB.doP (h : RelB B1 B2 R) {S : PS X} {p : Prim} {xs : List Opd} {d : Option Nat} {own : Bool} {k1 : PS X → D1} {k2 : PS X → D2} (hk : ∀ S, R (k1 S) (k2 S)) : R (doP B1 S p xs d own k1) (doP B2 S p xs d own k2) :=
  h.matL fun _ _ => h.doX hk
theorem RelB.ldIn (h : RelB B1 B2 R) {S : PS X} {a : At} {n : Option Nat} {r : Nat} {k1 : Sy → PS X → D1} {k2 : Sy → PS X → D2} (hk : ∀ y S, R (k1 y S) (k2 y S)) : R (ldIn B1 S a n r k1) (ldIn B2 S a n r k2) :=
  h.mat fun _ _ => h.prim _ _ _ _ _ fun _ => hk _ _
theorem RelB.ldSegs (h : RelB B1 B2 R) {S : PS X} {ss : List Seg} {i m : Nat} {k1 : Sy → PS X → D1} {k2 : Sy → PS X → D2} {a1 : D1} {a2 : D2} (hk : ∀ y S, R (k1 y S) (k2 y S)) (ha : R a1 a2) : R (ldSegs B1 S ss i m k1 a1) (ldSegs B2 S ss i m k2 a2) := by
  unfold Abs.ldSegs
  split
  · rw [h.segVals]; split
    · exact h.prim _ _ _ _ _ fun _ => hk _ _
    · exact hk _ _
  · exact ha
theorem RelB.ldY (h : RelB B1 B2 R) {S : PS X} {ss : List Seg} {off : Nat} {n : Option Nat} {k1 : Sy → PS X → D1} {k2 : Sy → PS X → D2} (hk : ∀ y S, R (k1 y S) (k2 y S)) : R (ldY B1 S ss off n k1) (ldY B2 S ss off n k2) := by
  unfold Abs.ldY
  repeat' first | exact hk _ _ | exact h.fail | exact h.ldIn hk | exact h.ldSegs hk h.fail | exact h.ldSegs hk (h.ldIn hk) | split
theorem RelB.ldAt (h : RelB B1 B2 R) {S : PS X} {ss : List Seg} {off : Nat} {n : Option Nat} {d : Option Nat} {k1 : PS X → D1} {k2 : PS X → D2} (hk : ∀ S, R (k1 S) (k2 S)) : R (ldAt B1 S ss off n d k1) (ldAt B2 S ss off n d k2) :=
  h.ldY fun _ _ => hk _
theorem RelB.asSegs (h : RelB B1 B2 R) {S : PS X} {n : Nat} {y : Sy} {mny : Bool} {k1 : List Seg → PS X → D1} {k2 : List Seg → PS X → D2} (hk : ∀ q S, R (k1 q S) (k2 q S)) : R (asSegs B1 S n y mny k1) (asSegs B2 S n y mny k2) := by
  unfold Abs.asSegs
  repeat' first | exact hk _ _ | exact h.fail | exact h.mat fun _ _ => h.prim _ _ _ _ _ fun _ => hk _ _ | split
theorem RelB.stAt (h : RelB B1 B2 R) {S : PS X} {o : Nat} {ss : List Seg} {off n : Nat} {y : Sy} {d : Option Nat} {k1 : PS X → D1} {k2 : PS X → D2} (hk : ∀ S, R (k1 S) (k2 S)) : R (stAt B1 S o ss off n y d k1) (stAt B2 S o ss off n y d k2) := by
  unfold Abs.stAt
  split
  · split
    · exact h.asSegs fun _ _ => hk _
    · split
      · exact h.mat fun _ _ => h.mat fun _ _ => h.prim _ _ _ _ _ fun _ => hk _
      · exact h.fail
  · exact h.fail
theorem RelB.bldP (h : RelB B1 B2 R) {S : PS X} {z : List V} {ps : List (Nat × Nat × Opd)} {d : Option Nat} {k1 : PS X → D1} {k2 : PS X → D2} (hk : ∀ S, R (k1 S) (k2 S)) : R (bldP B1 S z ps d k1) (bldP B2 S z ps d k2) := by
  unfold Abs.bldP
  split
  · refine h.matL fun _ _ => h.prim _ _ _ _ _ fun _ => ?_
    split
    · exact hk _
    · split
      · split
        · rw [h.segVals]; split
          · exact h.prim _ _ _ _ _ fun _ => hk _
          · exact h.fail
        · exact h.fail
      · exact h.fail
  · exact h.fail
theorem RelB.onO (h : RelB B1 B2 R) {S : PS X} {x : Opd} {k1 : Sy → D1} {k2 : Sy → D2} (hk : ∀ y, R (k1 y) (k2 y)) : R (onO B1 S x k1) (onO B2 S x k2) := by
  unfold Abs.onO
  split
  · exact hk _
  · exact h.fail
theorem RelB.mAt (h : RelB B1 B2 R) (S : PS X) (no : Nat) (T y : At) (ρ : List (Nat × Nat)) (acc : List X) : mAt B1 S no T y ρ acc = mAt B2 S no T y ρ acc := by
  unfold Abs.mAt
  simp only [h.valA]
theorem RelB.mSegs (h : RelB B1 B2 R) (S : PS X) (no : Nat) : ∀ (ss qs : List Seg) (ρ : List (Nat × Nat)) (acc : List X), mSegs B1 S no ss qs ρ acc = mSegs B2 S no ss qs ρ acc
  | [], [], _, _ => rfl
  | .one a :: r, .one b :: q, ρ, acc => by simp only [Abs.mSegs, h.mAt, RelB.mSegs h S no r q]
  | .many (some n) a :: r, .many (some m) b :: q, ρ, acc => by simp only [Abs.mSegs, h.mAt, RelB.mSegs h S no r q]
  | .many none a :: r, .many none b :: q, ρ, acc => by simp only [Abs.mSegs, h.mAt, RelB.mSegs h S no r q]
  | [], _ :: _, _, _ => by simp [Abs.mSegs]
  | _ :: _, [], _, _ => by simp [Abs.mSegs]
  | .one _ :: _, .many _ _ :: _, _, _ => by simp [Abs.mSegs]
  | .many _ _ :: _, .one _ :: _, _, _ => by simp [Abs.mSegs]
  | .many none _ :: _, .many (some _) _ :: _, _, _ => by simp [Abs.mSegs]
  | .many (some _) _ :: _, .many none _ :: _, _, _ => by simp [Abs.mSegs]
theorem RelB.mObs (h : RelB B1 B2 R) (S : PS X) (no : Nat) : ∀ (T : List (Option (List Seg))) (k : Nat) (ρ : List (Nat × Nat)) (acc : List X), mObs B1 S no T k ρ acc = mObs B2 S no T k ρ acc
  | [], _, _, _ => rfl
  | q :: r, k, ρ, acc => by simp only [Abs.mObs, h.mSegs, RelB.mObs h S no r]
theorem RelB.mAts (h : RelB B1 B2 R) (S : PS X) (no : Nat) : ∀ (T az : List At) (ρ : List (Nat × Nat)) (acc : List X), mAts B1 S no T az ρ acc = mAts B2 S no T az ρ acc
  | [], [], _, _ => rfl
  | a :: r, b :: q, ρ, acc => by simp only [Abs.mAts, h.mAt, RelB.mAts h S no r q]
  | [], _ :: _, _, _ => rfl
  | _ :: _, [], _, _ => rfl
theorem RelB.mArgs (h : RelB B1 B2 R) (S : PS X) (no : Nat) (az : List At) : ∀ (tm : List (Nat × Sy)) (ρ : List (Nat × Nat)) (acc : List X), mArgs B1 S no az tm ρ acc = mArgs B2 S no az tm ρ acc
  | [], _, _ => rfl
  | (t, .at a) :: r, ρ, acc => by simp only [Abs.mArgs, h.mAt, RelB.mArgs h S no az r]
  | (_, .agg _ _) :: _, _, _ => rfl
  | (_, .tup _) :: _, _, _ => rfl
theorem RelB.fitE (h : RelB B1 B2 R) (S : PS X) (E : FE) (az : List At) : fitE B1 S E az = fitE B2 S E az := by
  unfold Abs.fitE
  simp only [h.mArgs, h.mObs]
theorem RelB.pickE (h : RelB B1 B2 R) (S : PS X) (az : List At) : ∀ l : List FE, pickE B1 S az l = pickE B2 S az l
  | [] => rfl
  | E :: l => by simp only [Abs.pickE, h.fitE, RelB.pickE h S az l]
theorem RelB.unp (h : RelB B1 B2 R) {v : X} : ∀ {n i nx : Nat} {k1 : List X → D1} {k2 : List X → D2}, (∀ l, R (k1 l) (k2 l)) → R (unp B1 v n i nx k1) (unp B2 v n i nx k2)
  | 0, _, _, _, _, hk => hk _
  | n + 1, i, nx, k1, k2, hk => h.prim _ _ _ _ _ fun x => RelB.unp h fun xs => hk _
theorem RelB.unpR (h : RelB B1 B2 R) {tag : Bool} {v : X} {n nx : Nat} {k1 : List X → D1} {k2 : List X → D2} (hk : ∀ l, R (k1 l) (k2 l)) : R (unpR B1 tag v n nx k1) (unpR B2 tag v n nx k2) := by
  unfold Abs.unpR
  repeat' first | exact hk _ | exact h.unp hk | split
theorem RelB.putRs (h : RelB B1 B2 R) {S : PS X} {d : Option Nat} {k1 : PS X → D1} {k2 : PS X → D2} (hk : ∀ S, R (k1 S) (k2 S)) (o : Option (List At)) : R (putRs B1 S d k1 o) (putRs B2 S d k2 o) := by
  unfold Abs.putRs
  repeat' first | exact hk _ | exact h.fail | split
theorem RelB.callRs (h : RelB B1 B2 R) {S : PS X} {g : Nat} {ρ : List (Nat × Nat)} {d : Option Nat} {tag : Bool} {v : X} {rt : RT} {k1 : PS X → D1} {k2 : PS X → D2} (hk : ∀ S, R (k1 S) (k2 S)) : R (callRs B1 S g ρ d tag v rt k1) (callRs B2 S g ρ d tag v rt k2) := by
  unfold Abs.callRs
  split
  · exact h.unpR fun _ => h.putRs hk _
  · exact h.fail
theorem RelB.swR (h : RelB B1 B2 R) {t : X} {k1 : PS X → RT → D1} {k2 : PS X → RT → D2} (hk : ∀ S rt, R (k1 S rt) (k2 S rt)) : ∀ {l : List RT} {S : PS X} {j : Int}, R (swR B1 t k1 S j l) (swR B2 t k2 S j l)
  | [], _, _ => h.fail
  | [_], _, _ => hk _ _
  | x :: y :: l, S, j => by
    simp only [Abs.swR]
    rw [h.c]
    exact h.prim _ _ _ _ _ fun b => h.ite _ _ _ _ _ (hk _ _) (RelB.swR h hk (l := y :: l))
theorem RelB.callE (h : RelB B1 B2 R) {S : PS X} {d : Option Nat} {k1 : PS X → D1} {k2 : PS X → D2} (hk : ∀ S, R (k1 S) (k2 S)) (q : Option (FE × List (Nat × Nat) × List X)) : R (callE B1 S d k1 q) (callE B2 S d k2 q) := by
  unfold Abs.callE
  split
  · split
    · exact h.callh _ _ _ _ _ fun _ => h.callRs hk
    · exact h.callh _ _ _ _ _ fun _ => h.prim _ _ _ _ _ fun _ => h.swR fun _ _ => h.callRs hk
    · exact h.fail
  · exact h.fail
theorem RelB.atO (h : RelB B1 B2 R) {S : PS X} {y : Option Sy} {k1 : At → PS X → D1} {k2 : At → PS X → D2} (hk : ∀ a S, R (k1 a S) (k2 a S)) : R (atO B1 S y k1) (atO B2 S y k2) := by
  unfold Abs.atO
  split
  · exact hk _ _
  · exact hk _ _
  · rw [h.segVals]; split
    · exact h.prim _ _ _ _ _ fun _ => hk _ _
    · exact h.fail
  · exact h.fail
theorem RelB.atsO (h : RelB B1 B2 R) : ∀ {xs : List Opd} {S : PS X} {k1 : List At → PS X → D1} {k2 : List At → PS X → D2}, (∀ a S, R (k1 a S) (k2 a S)) → R (atsO B1 S xs k1) (atsO B2 S xs k2)
  | [], _, _, _, hk => hk _ _
  | x :: xs, _, _, _, hk => by
    simp only [Abs.atsO]
    exact h.atO fun _ _ => RelB.atsO h fun _ _ => hk _ _
theorem RelB.coal (h : RelB B1 B2 R) {S : PS X} {o off n : Nat} {k1 : PS X → D1} {k2 : PS X → D2} (hk : ∀ S, R (k1 S) (k2 S)) : R (coal B1 S o off n k1) (coal B2 S o off n k2) := by
  unfold Abs.coal
  repeat' first | exact hk _ | exact h.fail | exact h.prim _ _ _ _ _ fun _ => hk _ | (rw [h.segVals]; split) | split
theorem RelB.op1 (h : RelB B1 B2 R) {ow : Cfg} {S : PS X} {d : Option Nat} {op : AOp} {k1 : PS X → D1} {k2 : PS X → D2} (hk : ∀ S, R (k1 S) (k2 S)) : R (op1 B1 ow d op S k1) (op1 B2 ow d op S k2) := by
  cases op <;> simp only [Abs.op1] <;> repeat' first
    | exact hk _
    | exact h.fail
    | exact h.onO fun _ => hk _
    | exact h.doP hk
    | exact h.bldP hk
    | exact h.ldAt hk
    | exact h.stAt hk
    | exact h.mat fun _ _ => h.amb _ _ _ _ _ (hk _) (hk _)
    | exact h.mat fun _ _ => h.doX hk
    | exact h.doX hk
    | exact h.atsO fun _ _ => by rw [h.pickE]; exact h.callE hk _
    | (rw [h.c]; exact h.doX hk)
    | exact h.coal fun _ => h.matL fun _ _ => h.prim _ _ _ _ _ fun _ => hk _
    | exact h.mat fun _ _ => h.prim _ _ _ _ _ fun _ => hk _
    | exact h.mat fun _ _ => h.mat fun _ _ => h.prim _ _ _ _ _ fun _ => hk _
    | exact h.matL fun _ _ => h.prim _ _ _ _ _ fun _ => hk _
    | exact h.matL fun _ _ => h.call _ _ _ _ _ fun _ => hk _
    | exact h.matL fun _ _ => h.doX hk
    | exact h.call _ _ _ _ _ fun _ => hk _
    | exact h.callv _ _ _ _ _ fun _ => hk _
    | (rw [h.pickE]; exact h.callE hk _)
    | (rw [h.valA]; split)
    | split
    | refine h.matL fun _ _ => ?_
    | refine h.atsO fun _ _ => ?_
theorem RelB.opG (h : RelB B1 B2 R) {ow : Cfg} {S : PS X} {o : AOper} {k1 : PS X → D1} {k2 : PS X → D2} (hk : ∀ S, R (k1 S) (k2 S)) : R (opG B1 ow o S k1) (opG B2 ow o S k2) := by
  unfold Abs.opG
  repeat' first
    | exact hk _
    | exact h.fail
    | exact h.op1 hk
    | exact h.ite _ _ _ _ _ (h.op1 hk) (hk _)
    | exact h.ite _ _ _ _ _ (hk _) (h.op1 hk)
    | split
theorem RelB.opsG (h : RelB B1 B2 R) {ow : Cfg} : ∀ {os : List AOper} {S : PS X} {k1 : PS X → D1} {k2 : PS X → D2}, (∀ S, R (k1 S) (k2 S)) → R (opsG B1 ow os S k1) (opsG B2 ow os S k2)
  | [], _, _, _, hk => hk _
  | o :: os, _, _, _, hk => h.opG fun _ => RelB.opsG h hk
theorem RelB.gAt (h : RelB B1 B2 R) (S : PS X) (no : Nat) (T y : At) (acc : List X) : gAt B1 S no T y acc = gAt B2 S no T y acc := by
  unfold Abs.gAt
  simp only [h.valA]
theorem RelB.gSegs (h : RelB B1 B2 R) (S : PS X) (no : Nat) : ∀ (ss qs : List Seg) (acc : List X), gSegs B1 S no ss qs acc = gSegs B2 S no ss qs acc
  | [], [], _ => rfl
  | a :: r, b :: q, acc => by
    have : Abs.gSeg B1 S no a b acc = Abs.gSeg B2 S no a b acc := by unfold Abs.gSeg; simp only [h.gAt]
    simp only [Abs.gSegs, this, RelB.gSegs h S no r q]
  | [], _ :: _, _ => rfl
  | _ :: _, [], _ => rfl
theorem RelB.gTm (h : RelB B1 B2 R) (S : PS X) (no : Nat) : ∀ (tm : List (Nat × Sy)) (acc : List X), gTm B1 S no tm acc = gTm B2 S no tm acc
  | [], _ => rfl
  | (t, .at a) :: r, acc => by simp only [Abs.gTm, h.gAt, RelB.gTm h S no r]
  | (t, .agg ss none) :: r, acc => by simp only [Abs.gTm, h.gSegs, RelB.gTm h S no r]
  | (_, .agg _ (some _)) :: _, _ => rfl
  | (_, .tup _) :: _, _ => rfl
theorem RelB.gOb (h : RelB B1 B2 R) (S : PS X) (no : Nat) : ∀ (ob ob' : List (Option (List Seg))) (acc : List X), gOb B1 S no ob ob' acc = gOb B2 S no ob ob' acc
  | [], _, _ => rfl
  | none :: r, _ :: q, acc => by simp only [Abs.gOb, RelB.gOb h S no r q]
  | some ss :: r, some qs :: q, acc => by simp only [Abs.gOb, h.gSegs, RelB.gOb h S no r q]
  | none :: _, [], _ => rfl
  | some _ :: _, [], _ => rfl
  | some _ :: _, none :: _, _ => rfl
theorem RelB.jump (h : RelB B1 B2 R) {m : Nat} {T : PT} {S : PS X} : R (jump B1 m T S) (jump B2 m T S) := by
  unfold Abs.jump
  rw [h.gTm]
  split
  · rw [h.gOb]
    split
    · split
      · exact h.jmp _ _
      · exact h.fail
    · exact h.fail
  · exact h.fail
theorem RelB.pe (h : RelB B1 B2 R) {ow : Cfg} {L : List (Nat × PT)} : ∀ {c : ACode} {n : Nat} {S : PS X} {k1 : Ex → PS X → D1} {k2 : Ex → PS X → D2}, (∀ e S, R (k1 e S) (k2 e S)) → R (pe B1 ow L c n S k1) (pe B2 ow L c n S k2)
  | .skip, _, _, _, _, hk => hk _ _
  | .region _ _, _, _, _, _, hk => h.opsG fun _ => hk _ _
  | .seq a b, n, S, k1, k2, hk => by
    simp only [Abs.pe]
    refine RelB.pe h fun e S' => ?_
    cases e with
    | normal =>
      simp only
      split
      · exact h.jump
      · exact RelB.pe h hk
    | exit i => exact hk _ _
    | ret => exact hk _ _
  | .cond c a b, n, S, k1, k2, hk => by
    simp only [Abs.pe]
    split
    · exact RelB.pe h hk
    · exact RelB.pe h hk
    · split
      · split
        · exact h.ite _ _ _ _ _ (RelB.pe h hk) (RelB.pe h hk)
        · exact h.fail
      · exact h.fail
  | .block i b, n, S, k1, k2, hk => by
    simp only [Abs.pe]
    exact RelB.pe h (c := b) fun e S' => hk (e.inBlock i) S'
  | .loop b, n, S, k1, k2, hk => by
    simp only [Abs.pe]
    split
    · exact h.jump
    · exact h.fail
  | .exit i, _, _, _, _, hk => hk _ _
  | .ret, _, _, _, _, hk => hk _ _
  | .fail, _, _, _, _, _ => h.fail
theorem RelB.peL (h : RelB B1 B2 R) {ow : Cfg} {L : List (Nat × PT)} {c : ACode} {n : Nat} {S : PS X} {k1 : Ex → PS X → D1} {k2 : Ex → PS X → D2} (hk : ∀ e S, R (k1 e S) (k2 e S)) : R (peL B1 ow L c n S k1) (peL B2 ow L c n S k2) := by
  unfold Abs.peL
  split
  · refine h.pe fun e S' => ?_
    cases e with
    | normal =>
      simp only
      split
      · exact h.jump
      · exact h.fail
    | exit i => exact hk _ _
    | ret => exact hk _ _
  · exact h.pe hk
theorem RelB.peAt (h : RelB B1 B2 R) {ow : Cfg} {L : List (Nat × PT)} {m : Nat} : ∀ {c : ACode} {n : Nat} {S : PS X} {k1 : Ex → PS X → D1} {k2 : Ex → PS X → D2}, (∀ e S, R (k1 e S) (k2 e S)) → R (peAt B1 ow L m c n S k1) (peAt B2 ow L m c n S k2)
  | .seq a b, n, S, k1, k2, hk => by
    simp only [Abs.peAt]
    split
    · refine RelB.peAt h fun e S' => ?_
      cases e with
      | normal =>
        simp only
        split
        · exact h.jump
        · exact h.pe hk
      | exit i => exact hk _ _
      | ret => exact hk _ _
    · split
      · exact h.peL hk
      · exact RelB.peAt h hk
  | .cond _ a b, n, S, k1, k2, hk => by
    simp only [Abs.peAt]
    split
    · exact RelB.peAt h hk
    · exact RelB.peAt h hk
  | .block i b, n, S, k1, k2, hk => by
    simp only [Abs.peAt]
    exact RelB.peAt h (c := b) fun e S' => hk (e.inBlock i) S'
  | .loop b, n, S, k1, k2, hk => by
    simp only [Abs.peAt]
    split
    · exact h.peL hk
    · refine RelB.peAt h fun e S' => ?_
      cases e with
      | normal =>
        simp only
        split
        · exact h.jump
        · exact h.fail
      | exit i => exact hk _ _
      | ret => exact hk _ _
  | .skip, _, _, _, _, _ => h.fail
  | .region _ _, _, _, _, _, _ => h.fail
  | .exit _, _, _, _, _, _ => h.fail
  | .ret, _, _, _, _, _ => h.fail
  | .fail, _, _, _, _, _ => h.fail
theorem RelB.resL (h : RelB B1 B2 R) : ∀ {rs : List RS} {S : PS X} {acc : List X}, R (resL B1 S rs acc) (resL B2 S rs acc)
  | [], _, _ => h.ret _
  | .t t :: rs, S, acc => by
    simp only [Abs.resL, resR]
    exact h.mat fun _ _ => RelB.resL h
  | .c t n :: rs, S, acc => by
    simp only [Abs.resL, resR]
    split
    · split
      · exact h.ldY fun _ _ => h.mat fun _ _ => RelB.resL h
      · exact h.fail
    · exact h.fail
theorem RelB.resK (h : RelB B1 B2 R) {own : Bool} {res : List RS} (e : Ex) (S : PS X) : R (resK B1 own res e S) (resK B2 own res e S) := by
  unfold Abs.resK
  repeat' first | exact h.fail | exact h.resL | split
theorem RelB.resA (h : RelB B1 B2 R) : ∀ {rs : List RS} {S : PS X} {k1 : List At → PS X → D1} {k2 : List At → PS X → D2}, (∀ a S, R (k1 a S) (k2 a S)) → R (resA B1 S rs k1) (resA B2 S rs k2)
  | [], _, _, _, hk => hk _ _
  | .t t :: rs, S, _, _, hk => by
    simp only [Abs.resA]
    exact h.atO fun _ _ => RelB.resA h fun _ _ => hk _ _
  | .c t n :: rs, S, _, _, hk => by
    simp only [Abs.resA]
    split
    · split
      · exact h.ldY fun _ _ => h.atO fun _ _ => RelB.resA h fun _ _ => hk _ _
      · exact h.fail
    · exact h.fail
theorem RelB.fitR (h : RelB B1 B2 R) (S : PS X) (az : List At) (rt : RT) : fitR B1 S az rt = fitR B2 S az rt := by
  unfold Abs.fitR
  simp only [h.mAts, h.mObs]
theorem RelB.retT (h : RelB B1 B2 R) {S : PS X} {az : List At} : ∀ {l : List RT} {j : Int}, R (retT B1 S az j l) (retT B2 S az j l)
  | [], _ => h.fail
  | rt :: l, j => by
    have hd : ∀ xs, dum B1 xs = dum B2 xs := fun xs => by cases xs <;> simp only [dum, h.c]
    simp only [Abs.retT]
    rw [h.fitR]
    split
    · rw [h.c, hd]; exact h.ret _
    · exact RelB.retT h
theorem RelB.retP (h : RelB B1 B2 R) {S : PS X} {az : List At} {l : List RT} : R (retP B1 S az l) (retP B2 S az l) := by
  unfold Abs.retP
  split
  · rw [h.fitR]
    split
    · exact h.ret _
    · exact h.fail
  · exact h.retT
theorem RelB.resE (h : RelB B1 B2 R) {E : FE} {res : List RS} (e : Ex) (S : PS X) : R (resE B1 E res e S) (resE B2 E res e S) := by
  unfold Abs.resE
  split
  · exact h.resK e S
  · unfold Abs.resH
    split
    · exact h.fail
    · exact h.resA fun _ _ => h.retP
theorem RelB.peF (h : RelB B1 B2 R) {ow : Cfg} {F : AFn} {E : FE} {l : Nat} {xs : List X} : R (peF B1 ow F E l xs) (peF B2 ow F E l xs) := by
  unfold Abs.peF
  repeat' first | exact h.fail | exact h.pe h.resE | exact h.peAt h.resE | split

/-! ## what functions come to: the limit of rounds -/
noncomputable def step (P : Program) (tabs : List FE) (ext : Nat → List V → Option V) (ow : Cfg) (Γ : Gam) : Gam := fun f l xs =>
  match tabs.find? (fun E => Nat.beq E.k f) with
  | some E => match cFn P E.f with
    | some F => peF (BV Γ f) ow F E l xs
    | none => none
  | none => match l with
    | 0 => ext f xs
    | _ + 1 => none
variable {P : Program} {tabs : List FE} {ext : Nat → List V → Option V} {ow : Cfg}
noncomputable def rounds (P : Program) (tabs : List FE) (ext : Nat → List V → Option V) (ow : Cfg) : Nat → Gam
  | 0 => fun _ _ _ => none
  | n + 1 => step P tabs ext ow (rounds P tabs ext ow n)
open Classical in
noncomputable def val (P : Program) (tabs : List FE) (ext : Nat → List V → Option V) (ow : Cfg) : Gam := fun f l xs =>
  if h : ∃ n r, rounds P tabs ext ow n f l xs = some r then some h.choose_spec.choose else none
def Le (Γ Γ' : Gam) : Prop := ∀ f l xs r, Γ f l xs = some r → Γ' f l xs = some r
theorem rel_mono {Γ Γ' : Gam} (h : Le Γ Γ') (f : Nat) : RelB (BV Γ f) (BV Γ' f) (fun a b => ∀ r, a = some r → b = some r) where
  c := rfl
  fail _ h := by cases h
  prim p xs i k1 k2 hk r hr := by
    simp only [BV, Option.bind_eq_some_iff] at hr ⊢
    obtain ⟨x, h1, h2⟩ := hr
    exact ⟨x, h1, hk x r h2⟩
  ite x a1 a2 b1 b2 h1 h2 r hr := by
    simp only [BV] at hr ⊢
    rcases vif_some hr with ⟨rfl, h3⟩ | ⟨rfl, h3⟩
    · exact h1 r h3
    · exact h2 r h3
  call g xs i k1 k2 hk r hr := by
    simp only [BV, Option.bind_eq_some_iff] at hr ⊢
    obtain ⟨x, h1, h2⟩ := hr
    exact ⟨x, h _ _ _ _ h1, hk x r h2⟩
  callv v xs i k1 k2 hk r hr := by
    simp only [BV, Option.bind_eq_some_iff] at hr ⊢
    obtain ⟨x, h1, h2⟩ := hr
    refine ⟨x, ?_, hk x r h2⟩
    unfold vApply at h1 ⊢
    split at h1
    · exact h _ _ _ _ h1
    · cases h1
  callh g xs i k1 k2 hk r hr := by
    simp only [BV, Option.bind_eq_some_iff] at hr ⊢
    obtain ⟨x, h1, h2⟩ := hr
    exact ⟨x, h _ _ _ _ h1, hk x r h2⟩
  jmp l xs r hr := h _ _ _ _ hr
  ret xs r hr := hr
  amb x a1 a2 b1 b2 h1 h2 r hr := by
    simp only [BV] at hr ⊢
    rcases vamb_some hr with ⟨c, sz, rfl, h3, h4⟩ | ⟨c, sz, y, l, rfl, h3⟩
    · rw [h1 r h3, h2 r h4]; simp [vamb]
    · exact h2 r h3
theorem step_mono {Γ Γ' : Gam} (h : Le Γ Γ') : Le (step P tabs ext ow Γ) (step P tabs ext ow Γ') := fun f l xs r hr => by
  unfold step at hr ⊢
  split at hr
  · split at hr
    · exact (rel_mono h f).peF r hr
    · cases hr
  · split at hr
    · exact hr
    · cases hr
theorem rounds_succ : ∀ n, Le (rounds P tabs ext ow n) (rounds P tabs ext ow (n + 1))
  | 0 => fun _ _ _ _ h => by cases h
  | n + 1 => step_mono (rounds_succ n)
theorem rounds_le {n m : Nat} (h : n ≤ m) : Le (rounds P tabs ext ow n) (rounds P tabs ext ow m) := by
  induction h with
  | refl => exact fun _ _ _ _ h => h
  | step _ ih => exact fun f l xs r hr => rounds_succ _ f l xs r (ih f l xs r hr)
theorem val_iff {f l : Nat} {xs : List V} {r : V} : val P tabs ext ow f l xs = some r ↔ ∃ n, rounds P tabs ext ow n f l xs = some r := by
  unfold val
  constructor
  · intro h
    split at h
    · rename_i hex
      cases h
      exact ⟨hex.choose, hex.choose_spec.choose_spec⟩
    · cases h
  · rintro ⟨n, hn⟩
    have hex : ∃ n r, rounds P tabs ext ow n f l xs = some r := ⟨n, r, hn⟩
    rw [dif_pos hex]
    have h1 := hex.choose_spec.choose_spec
    have h2 := rounds_le (Nat.le_max_left n hex.choose) _ _ _ _ hn
    have h3 := rounds_le (Nat.le_max_right n hex.choose) _ _ _ _ h1
    rw [h2] at h3
    exact h3.symm
/-- the same, of all late rounds -/
noncomputable def BN (G : Nat → Gam) (f : Nat) : Bld V (Nat → Option V) where
  c v := v
  fail _ := none
  prim p xs _ k n := (evp p xs).bind fun x => k x n
  ite x a b n := vif x (a n) (b n)
  call g xs _ k n := (G n g 0 xs).bind fun x => k x n
  callv x xs _ k n := (vApply (G n) x xs).bind fun x => k x n
  callh g xs _ k n := (G n g 1 xs).bind fun x => k x n
  jmp l xs n := G n f l xs
  ret xs _ := some (oneV xs)
  amb x a b n := vamb x (a n) (b n)
theorem rel_at (G : Nat → Gam) (f n : Nat) : RelB (BN G f) (BV (G n) f) (fun a b => a n = b) where
  c := rfl
  fail := rfl
  prim p xs i k1 k2 hk := by show (evp p xs).bind _ = (evp p xs).bind _; congr 1; funext x; exact hk x
  ite x a1 a2 b1 b2 h1 h2 := by show vif x (a1 n) (b1 n) = vif x a2 b2; rw [h1, h2]
  call g xs i k1 k2 hk := by show (G n g 0 xs).bind _ = (G n g 0 xs).bind _; congr 1; funext x; exact hk x
  callv v xs i k1 k2 hk := by show (vApply (G n) v xs).bind _ = (vApply (G n) v xs).bind _; congr 1; funext x; exact hk x
  callh g xs i k1 k2 hk := by show (G n g 1 xs).bind _ = (G n g 1 xs).bind _; congr 1; funext x; exact hk x
  jmp l xs := rfl
  ret xs := rfl
  amb x a1 a2 b1 b2 h1 h2 := by show vamb x (a1 n) (b1 n) = vamb x a2 b2; rw [h1, h2]
theorem rel_lim (f : Nat) : RelB (BV (val P tabs ext ow) f) (BN (rounds P tabs ext ow) f) (fun a b => ∀ r, a = some r → ∃ N, ∀ n, N ≤ n → b n = some r) where
  c := rfl
  fail _ h := by cases h
  prim p xs i k1 k2 hk r hr := by
    simp only [BV, Option.bind_eq_some_iff] at hr
    obtain ⟨x, h1, h2⟩ := hr
    obtain ⟨N, hN⟩ := hk x r h2
    exact ⟨N, fun n hn => by simp only [BN, h1, Option.bind_some]; exact hN n hn⟩
  ite x a1 a2 b1 b2 h1 h2 r hr := by
    simp only [BV] at hr
    rcases vif_some hr with ⟨rfl, h3⟩ | ⟨rfl, h3⟩
    · exact h1 r h3
    · exact h2 r h3
  call g xs i k1 k2 hk r hr := by
    simp only [BV, Option.bind_eq_some_iff] at hr
    obtain ⟨x, h1, h2⟩ := hr
    obtain ⟨N, hN⟩ := hk x r h2
    obtain ⟨M, hM⟩ := val_iff.1 h1
    exact ⟨max N M, fun n hn => by simp only [BN, rounds_le (show M ≤ n by omega) _ _ _ _ hM, Option.bind_some]; exact hN n (by omega)⟩
  callv v xs i k1 k2 hk r hr := by
    simp only [BV, Option.bind_eq_some_iff] at hr
    obtain ⟨x, h1, h2⟩ := hr
    obtain ⟨N, hN⟩ := hk x r h2
    unfold vApply at h1
    split at h1
    · obtain ⟨M, hM⟩ := val_iff.1 h1
      exact ⟨max N M, fun n hn => by simp only [BN, vApply, rounds_le (show M ≤ n by omega) _ _ _ _ hM, Option.bind_some]; exact hN n (by omega)⟩
    · cases h1
  callh g xs i k1 k2 hk r hr := by
    simp only [BV, Option.bind_eq_some_iff] at hr
    obtain ⟨x, h1, h2⟩ := hr
    obtain ⟨N, hN⟩ := hk x r h2
    obtain ⟨M, hM⟩ := val_iff.1 h1
    exact ⟨max N M, fun n hn => by simp only [BN, rounds_le (show M ≤ n by omega) _ _ _ _ hM, Option.bind_some]; exact hN n (by omega)⟩
  jmp l xs r hr := by
    obtain ⟨M, hM⟩ := val_iff.1 hr
    exact ⟨M, fun n hn => rounds_le hn _ _ _ _ hM⟩
  ret xs r hr := ⟨0, fun n _ => hr⟩
  amb x a1 a2 b1 b2 h1 h2 r hr := by
    simp only [BV] at hr
    rcases vamb_some hr with ⟨c, sz, rfl, h3, h4⟩ | ⟨c, sz, y, l, rfl, h3⟩
    · obtain ⟨N, hN⟩ := h1 r h3
      obtain ⟨M, hM⟩ := h2 r h4
      exact ⟨max N M, fun n hn => by show vamb (.sl c sz []) (a2 n) (b2 n) = some r; rw [hN n (by omega), hM n (by omega)]; simp [vamb]⟩
    · obtain ⟨M, hM⟩ := h2 r h3
      exact ⟨M, fun n hn => by show vamb (.sl c sz (y :: l)) (a2 n) (b2 n) = some r; rw [hM n hn]; rfl⟩
/-- A FUNCTION COMES TO WHAT ITS BODY DOES. -/
theorem val_step : val P tabs ext ow = step P tabs ext ow (val P tabs ext ow) := by
  funext f l xs
  apply Option.ext
  intro r
  constructor
  · intro h
    obtain ⟨n, hn⟩ := val_iff.1 h
    cases n with
    | zero => cases hn
    | succ n => exact step_mono (fun f l xs r h => val_iff.2 ⟨n, h⟩) f l xs r hn
  · intro h
    unfold step at h
    split at h
    · rename_i E hE
      split at h
      · rename_i F hF
        obtain ⟨N, hN⟩ := (rel_lim f).peF r h
        refine val_iff.2 ⟨N + 1, ?_⟩
        show step P tabs ext ow (rounds P tabs ext ow N) f l xs = some r
        unfold step
        rw [hE]; simp only [hF]
        rw [← (rel_at (rounds P tabs ext ow) f N).peF]; exact hN N (Nat.le_refl _)
      · cases h
    · rename_i hE
      split at h
      · refine val_iff.2 ⟨1, ?_⟩
        show step P tabs ext ow _ f 0 xs = some r
        unfold step
        rw [hE]; exact h
      · cases h
end Go.Abs
/-
  Y, part 11: what functions come to is what the loaded program does. Own work of this seat.
-/
namespace Go.Abs

/-- A CONTRACT: of these values this value (but for which empty rows are nil). -/
def Good (cx : Cx) (ow : Cfg) (f : Nat) (xs : List V) (r : V) : Prop := cleanL xs = true → ∀ args, nfL args = xs → r.clean = true ∧ ∃ v o, PC cx f args (v, o) ∧ v.nf = r ∧ (ow.ow f = true → Own v o)
def ExtOK (cx : Cx) (ext : Nat → List V → Option V) (ow : Cfg) : Prop := ∀ f xs r, ext f xs = some r → Good cx ow f xs r

open Classical in
noncomputable def specP (cx : Cx) (Γ : Gam) (ow : Cfg) : Nat → List V → Option (V × Bool) := fun f args =>
  if h : ∃ p : V × Bool, cleanL args = true ∧ PC cx f args p ∧ Γ f 0 (nfL args) = some p.1.nf ∧ (ow.ow f = true → Own p.1 p.2) then some h.choose else none
theorem specP_sound (cx : Cx) (Γ : Gam) (ow : Cfg) : ∀ f args r, specP cx Γ ow f args = some r → PC cx f args r := by
  intro f args p hp
  unfold specP at hp
  split at hp
  · rename_i hex
    cases hp
    exact hex.choose_spec.2.1
  · cases hp

variable {cx : Cx} {tabs : List FE} {ext : Nat → List V → Option V} {ow : Cfg}
noncomputable def specY (cx : Cx) (tabs : List FE) (ext : Nat → List V → Option V) (ow : Cfg) : Abs.Spec := hL cx.P cx.gl (specP cx (val cx.P tabs ext ow) ow)

/-- what a table must be -/
structure TabOK (cx : Cx) (tabs : List FE) (ow : Cfg) : Prop where
  own : ∀ E ∈ tabs, E.ret = none → ow.ow E.k = E.own
  he : ∀ f, ∀ E ∈ ow.he f, tabs.find? (fun E' => Nat.beq E'.k E.k) = some E ∧ E.f = f
  gl : ∀ g cs, ow.gl g = some cs → cx.gl g = some cs ∧ nfL cs = cs ∧ cleanL cs = true
theorem find_k {tabs : List FE} {k : Nat} {E : FE} (h : tabs.find? (fun E => Nat.beq E.k k) = some E) : E.k = k ∧ E ∈ tabs :=
  ⟨Nat.eq_of_beq_eq_true (by simpa using List.find?_some h), List.mem_of_find?_eq_some h⟩
/-- A CONTRACT OF A ROW THAT TAKES OBJECTS. -/
def HGood (cx : Cx) (tabs : List FE) (ext : Nat → List V → Option V) (ow : Cfg) (E : FE) (xs : List V) (r : V) : Prop :=
  ∀ rts, E.ret = some rts → ∀ args ι hs, args.length = E.ar → Sat ⟨ι, hs⟩ (E.ent.start xs) ι (St.initH args hs) → ∃ v o hs', (specY cx tabs ext ow).h E.f args hs = some (v, o, hs') ∧ RetR ⟨ι, hs⟩ rts r v o hs'

theorem rounds_ok (hgl : GlOK cx) (hm : cx.P.follows .mixedOrders = true) (hext : ExtOK cx ext ow) (hT : TabOK cx tabs ow) : ∀ (n k l : Nat) (xs : List V) (r : V), rounds cx.P tabs ext ow n k l xs = some r →
    (l = 0 → Good cx ow k xs r) ∧ (l = 1 → ∀ E, tabs.find? (fun E => Nat.beq E.k k) = some E → HGood cx tabs ext ow E xs r) ∧
    (2 ≤ l → ∀ E F, tabs.find? (fun E => Nat.beq E.k k) = some E → cFn cx.P E.f = some F → LabOK (specY cx tabs ext ow) cx.gl F E l xs r)
  | 0, _, _, _, _, h => by cases h
  | n + 1, k, l, xs, r, h => by
    have ih := rounds_ok hgl hm hext hT n
    have hle : Le (rounds cx.P tabs ext ow n) (val cx.P tabs ext ow) := fun f l xs r h => val_iff.2 ⟨n, h⟩
    have hsound : Sound cx (specY cx tabs ext ow) := hL_sound hgl hm (specP_sound cx _ ow)
    have hΓ : GamOK (specY cx tabs ext ow) cx.gl (rounds cx.P tabs ext ow n) ow := by
      refine ⟨fun f args r hc hr => ?_, fun f args r hr => ?_, fun f E hE rts hret xs r hr args ι hs hl _ hS => ?_, hT.gl⟩
      · obtain ⟨h1, v, o, h3, h4, h5⟩ := (ih f 0 _ r hr).1 rfl hc args rfl
        have hv := hle f 0 _ r hr
        have hex : ∃ p : V × Bool, cleanL args = true ∧ PC cx f args p ∧ val cx.P tabs ext ow f 0 (nfL args) = some p.1.nf ∧ (ow.ow f = true → Own p.1 p.2) := ⟨(v, o), nfL_clean hc, h3, by rw [hv, h4], h5⟩
        have h6 := hex.choose_spec
        refine ⟨hex.choose.1, hex.choose.2, by show specP cx _ ow f args = _; unfold specP; rw [dif_pos hex], ?_, h1, h6.2.2.2⟩
        exact (Option.some.inj (hv.symm.trans h6.2.2.1)).symm
      · have hr' : specP cx (val cx.P tabs ext ow) ow f args = some r := hr
        unfold specP at hr'
        split at hr'
        · rename_i hex; exact hex.choose_spec.1
        · cases hr'
      · obtain ⟨h1, h2⟩ := hT.he f E hE
        rw [← h2]
        exact (ih E.k 1 xs r hr).2.1 rfl E h1 rts hret args ι hs hl hS
    have h' : step cx.P tabs ext ow (rounds cx.P tabs ext ow n) k l xs = some r := h
    unfold step at h'
    split at h'
    · rename_i E hE
      obtain ⟨hEk, hEm⟩ := find_k hE
      split at h'
      · rename_i F hF
        have hJ : ∀ l xs, 2 ≤ l → rounds cx.P tabs ext ow n k l xs = some r → LabOK (specY cx tabs ext ow) cx.gl F E l xs r := fun l xs hl hr => (ih k l xs r hr).2.2 hl E F hE hF
        obtain ⟨q1, q2, q3⟩ := peF_ok (gl := cx.gl) hΓ hEk hJ h'
        refine ⟨fun hl hc => ?_, fun hl E' hE' rts hret args ι hs hlen hS => ?_, fun hl E' F' hE' hF' => ?_⟩
        · obtain ⟨e1, e2, e3⟩ := q1 hl
          intro args ha
          obtain ⟨h1, h2⟩ := e3 args ha hc
          obtain ⟨e, t, h3, h4⟩ := awp_det h2
          obtain ⟨h5, h6⟩ := h3
          have he : EndsX F.res E.own r t := by cases e <;> first | exact h5 | exact h5.elim
          obtain ⟨p, hp, hp1, hp2⟩ := he
          have hca : cleanL args = true := nfL_clean (by rw [ha]; exact hc)
          have hk : k = E.f := hEk.symm.trans e1
          subst hk
          refine ⟨h6, p.1, p.2, pc_of_awp hgl hm hsound hF h1 hca (nf_clean (by rw [hp1]; exact h6)) (h4 _ ?_), hp1, fun ho => hp2 (by rw [← hT.own E hEm e2, hEk]; exact ho)⟩
          cases e with
          | normal => exact ⟨p, hp, rfl, fun h => h⟩
          | ret => exact ⟨p, hp, rfl, fun h => h⟩
          | exit i => exact h5.elim
        · rw [hE] at hE'; cases hE'
          obtain ⟨h1, h2⟩ := q2 hl rts hret args ι hs hlen hS
          obtain ⟨e, t, h3, h4⟩ := awp_det h2
          have h5 : ∃ v o, resOf F.res t = some (v, o) ∧ RetR ⟨ι, hs⟩ rts r v o t.hs := by cases e <;> first | exact h3 | exact h3.elim
          obtain ⟨v, o, h6, h7⟩ := h5
          refine ⟨v, o, t.hs, hL_of ⟨F, hF, h1, h4 _ ?_⟩, h7⟩
          cases e with
          | normal => exact ⟨h6, rfl⟩
          | ret => exact ⟨h6, rfl⟩
          | exit i => exact h3.elim
        · rw [hE] at hE'; cases hE'
          rw [hF] at hF'; cases hF'
          exact q3 hl
      · cases h'
    · rename_i hE
      split at h'
      · exact ⟨fun _ => hext k xs r h', fun hl => (by cases hl), fun hl => absurd hl (by omega)⟩
      · cases h'
/-- EACH CALL COMES TO ITS VALUE. -/
theorem val_good (hgl : GlOK cx) (hm : cx.P.follows .mixedOrders = true) (hext : ExtOK cx ext ow) (hT : TabOK cx tabs ow) {f : Nat} {xs : List V} {r : V} (h : val cx.P tabs ext ow f 0 xs = some r) : Good cx ow f xs r := by
  obtain ⟨n, hn⟩ := val_iff.1 h
  exact (rounds_ok hgl hm hext hT n f 0 xs r hn).1 rfl
/-- how a function's body is read off -/
theorem val_of {P : Program} {f l : Nat} {xs : List V} {r : Option V} (h : step P tabs ext ow (val P tabs ext ow) f l xs = r) : val P tabs ext ow f l xs = r := by rw [← h, ← val_step]

/-! ## a table, as it is written -/
def keysOK : List FE → Bool
  | [] => true
  | E :: r => !(r.any fun E' => Nat.beq E'.k E.k) && keysOK r
def cfgOf (tabs : List FE) (eo : Nat → Bool) (gl : Nat → Option (List V)) : Cfg where
  ow f := match tabs.find? (fun E => Nat.beq E.k f) with | some E => E.own | none => eo f
  he f := tabs.filter fun E => Nat.beq E.f f && E.ret.isSome
  gl := gl
theorem find_mem : ∀ {tabs : List FE}, keysOK tabs = true → ∀ E ∈ tabs, tabs.find? (fun E' => Nat.beq E'.k E.k) = some E
  | [], _, E, h => by cases h
  | A :: r, hk, E, h => by
    simp only [keysOK, Bool.and_eq_true, Bool.not_eq_true'] at hk
    rw [List.find?_cons]
    rcases List.mem_cons.1 h with rfl | h
    · rw [Nat.beq_refl]
    · cases hb : Nat.beq A.k E.k with
      | true =>
        have := List.any_eq_false.1 hk.1 E h
        rw [Nat.eq_of_beq_eq_true hb, Nat.beq_refl] at this
        exact absurd rfl this
      | false => exact find_mem hk.2 E h
theorem cfgOf_ok {eo : Nat → Bool} {gl : Nat → Option (List V)} (hk : keysOK tabs = true) (hg : ∀ g cs, gl g = some cs → cx.gl g = some cs ∧ nfL cs = cs ∧ cleanL cs = true) : TabOK cx tabs (cfgOf tabs eo gl) where
  own E hE _ := by show (match tabs.find? _ with | some E => E.own | none => eo _) = _; rw [find_mem hk E hE]
  he f E hE := by
    obtain ⟨h1, h2⟩ := List.mem_filter.1 hE
    simp only [Bool.and_eq_true] at h2
    exact ⟨find_mem hk E h1, Nat.eq_of_beq_eq_true h2.1⟩
  gl := hg
/-- an operation; a call -/
abbrev pr (p : Prim) (xs : List V) (k : V → Option V) : Option V := (evp p xs).bind k
abbrev ca (Γ : Gam) (f : Nat) (xs : List V) (k : V → Option V) : Option V := (Γ f 0 xs).bind k
abbrev cv (Γ : Gam) (v : V) (xs : List V) (k : V → Option V) : Option V := (vApply Γ v xs).bind k
abbrev ch (Γ : Gam) (f : Nat) (xs : List V) (k : V → Option V) : Option V := (Γ f 1 xs).bind k
end Go.Abs
/-
  Y, part 12: functions that are given by contracts; words for plain proofs about what functions come to. Own work of this seat.
-/
namespace Go.Abs
open Go.RowKit

/-! ## functions that are given by contracts -/
open Classical in
noncomputable def extOf (cs : List FC) : Nat → List V → Option V := fun f xs =>
  match cs.find? (fun c => c.f == f && c.mt xs) with
  | some c => if h : ∃ y, c.rel xs y then some h.choose else none
  | none => none
theorem extOf_ok {cx : Cx} {cs : List FC} {ow : Cfg} (h : ∀ c ∈ cs, c.Holds cx) (ho : ∀ c ∈ cs, ow.ow c.f = true → c.own = true) : ExtOK cx (extOf cs) ow := by
  intro f xs r hr
  unfold extOf at hr
  split at hr
  · rename_i c hc
    have hm := List.mem_of_find?_eq_some hc
    have h2 := List.find?_some hc
    simp only [Bool.and_eq_true, beq_iff_eq] at h2
    obtain ⟨rfl, _⟩ := h2
    split at hr
    · rename_i hex
      cases hr
      have h3 := hex.choose_spec
      intro _ args ha
      subst ha
      obtain ⟨v, o, q1, q2, q3⟩ := h c hm args _ h3
      exact ⟨(c.clean _ _ h3).2, v, o, q1, q2, fun hw => q3 (ho c hm hw)⟩
    · cases hr
  · cases hr
theorem extOf_eq {cs : List FC} {c : FC} {xs : List V} {y : V} (hf : cs.find? (fun d => d.f == c.f && d.mt xs) = some c) (hr : c.rel xs y) : extOf cs c.f xs = some y := by
  unfold extOf
  rw [hf]
  have hex : ∃ y, c.rel xs y := ⟨y, hr⟩
  simp only [dif_pos hex]
  exact congrArg some (c.fn _ _ _ hex.choose_spec hr)
variable {P : Program} {tabs : List FE} {ow : Cfg} {ext : Nat → List V → Option V}
theorem val_ext {f : Nat} {xs : List V} {r : V} (hn : tabs.find? (fun E => Nat.beq E.k f) = none) (h : ext f xs = some r) : val P tabs ext ow f 0 xs = some r := by
  apply val_of
  unfold step
  rw [hn]; exact h
/-- A LAW'S END. -/
theorem law_endY {cx : Cx} (hgl : GlOK cx) (hm : cx.P.follows .mixedOrders = true) (hext : ExtOK cx ext ow) (hT : TabOK cx tabs ow) {f : Nat} {args : List V} {ys : List V} {xs : Array Value} (ha : nfL args = ys) (hc : cleanL ys = true)
    (h : val cx.P tabs ext ow f 0 ys = some (.bool true)) (hx : RepL cx.w0 (G0 cx.w0) (fun _ => none) args xs) : Calls cx.P f xs cx.w0 fun e W' => e = .returned (.bool true) ∧ Below cx.w0.heap.size cx.w0 W' := by
  obtain ⟨_, v, o, h1, h2, _⟩ := val_good hgl hm hext hT h hc args ha
  rw [nf_bool h2] at h1
  exact law_calls h1 hx

/-! ## what operations come to -/
section
variable {k : IntKind} {a b : Int} {s t : Bytes}
theorem v_lss : evp (.bin .lss .no) [.int k a, .int k b] = some (.bool (decide (a < b))) := by simp [evp, abin, aint]
theorem v_leq : evp (.bin .leq .no) [.int k a, .int k b] = some (.bool (decide (a ≤ b))) := by simp [evp, abin, aint]
theorem v_gtr : evp (.bin .gtr .no) [.int k a, .int k b] = some (.bool (decide (b < a))) := by simp [evp, abin, aint]
theorem v_geq : evp (.bin .geq .no) [.int k a, .int k b] = some (.bool (decide (b ≤ a))) := by simp [evp, abin, aint]
theorem v_eql : evp (.bin .eql .no) [.int k a, .int k b] = some (.bool (decide (a = b))) := by simp [evp, abin, aint]
theorem v_neq : evp (.bin .neq .no) [.int k a, .int k b] = some (.bool (!decide (a = b))) := by simp [evp, abin, aint]
theorem v_add : evp (.bin .add .no) [.int k a, .int k b] = some (.int k (k.wrap (a + b))) := by simp [evp, abin, aint]
theorem v_sub : evp (.bin .sub .no) [.int k a, .int k b] = some (.int k (k.wrap (a - b))) := by simp [evp, abin, aint]
theorem v_seql : evp (.bin .eql .no) [.str s, .str t] = some (.bool (decide (s = t))) := by simp [evp, abin, astr]
theorem v_sneq : evp (.bin .neq .no) [.str s, .str t] = some (.bool (!decide (s = t))) := by simp [evp, abin, astr]
theorem v_slss : evp (.bin .lss .no) [.str s, .str t] = some (.bool (Op.bytesLess s t)) := by simp [evp, abin, astr]
theorem v_sadd (h : s.length + t.length ≤ 4611686018427387904) : evp (.bin .add .no) [.str s, .str t] = some (.str (s ++ t)) := by simp [evp, abin, astr, h]
theorem v_beql {x y : Bool} : evp (.bin .eql .bool) [.bool x, .bool y] = some (.bool (x == y)) := by cases x <;> cases y <;> rfl
theorem v_bneq {x y : Bool} : evp (.bin .neq .bool) [.bool x, .bool y] = some (.bool (!(x == y))) := by cases x <;> cases y <;> rfl
theorem v_not {x : Bool} : evp (.un .not) [.bool x] = some (.bool !x) := rfl
theorem v_slen : evp (.len true) [.str s] = some (.int .i64 s.length) := rfl
theorem v_len {n : Bool} {sz : Nat} {xs : List V} : evp (.len false) [.sl n sz xs] = some (.int .i64 xs.length) := rfl
theorem vif_t {x y : Option V} : vif (.bool true) x y = x := rfl
theorem vif_f {x y : Option V} : vif (.bool false) x y = y := rfl
theorem vif_d {p : Prop} [Decidable p] {x y : Option V} : vif (.bool (decide p)) x y = if p then x else y := by by_cases h : p <;> simp [h, vif]
theorem vif_n {p : Prop} [Decidable p] {x y : Option V} : vif (.bool (!decide p)) x y = if p then y else x := by by_cases h : p <;> simp [h, vif]
theorem vif_b {c : Bool} {x y : Option V} : vif (.bool c) x y = if c = true then x else y := by cases c <;> rfl
theorem v_ext {i : Nat} {xs : List V} : evp (.ext i) [.tup xs] = xs[i]? := rfl
theorem v_sls0 {h : Nat} (hh : h ≤ s.length) : evp (.sls false true) [.str s, .int .i64 h] = some (.str (s.take h)) := by
  simp only [evp, vSlsC, vSls, vOpt]
  simp [cut3, hh]
theorem v_sls1 {l : Nat} (hl : l ≤ s.length) : evp (.sls true false) [.str s, .int .i64 l] = some (.str (s.drop l)) := by
  simp only [evp, vSlsC, vSls, vOpt]
  simp [cut3, hl]
theorem v_sls2 {l h : Nat} (hl : l ≤ h) (hh : h ≤ s.length) : evp (.sls true true) [.str s, .int .i64 l, .int .i64 h] = some (.str ((s.take h).drop l)) := by
  simp only [evp, vSlsC, vSls, vOpt]
  simp [cut3, hl, hh]
theorem v_idx {i : Nat} {c : UInt8} (h : s[i]? = some c) : evp .idx [.str s, .int .i64 i] = some (byteV c) := by simp [evp, vIdx, h]
theorem v_elem {n : Bool} {sz i : Nat} {xs : List V} {x : V} (h : xs[i]? = some x) : evp (.elem sz) [.sl n sz xs, .int .i64 i] = some x := by simp [evp, vElem, h]
theorem v_app {n : Bool} {sz : Nat} {xs ys : List V} {m : Bool} (h : xs.length + ys.length ≤ Lim) : evp (.app sz) [.sl n sz xs, .sl m sz ys] = some (.sl false sz (xs ++ ys)) := by simp [evp, vAppC, vTail, h]
theorem some_t {p : Prop} [Decidable p] (h : p) : some (V.bool true) = some (V.bool (decide p)) := by simp [h]
theorem some_f {p : Prop} [Decidable p] (h : ¬ p) : some (V.bool false) = some (V.bool (decide p)) := by simp [h]
theorem some_d {p q : Prop} [Decidable p] [Decidable q] (h : p ↔ q) : some (V.bool (decide p)) = some (V.bool (decide q)) := by rw [decide_eq_decide.2 h]
end
theorem yy :
    (∀ {p : Prim} {xs : List V} {k : V → Option V}, pr p xs k = (evp p xs).bind k) ∧ (∀ {Γ : Gam} {f : Nat} {xs : List V} {k : V → Option V}, ca Γ f xs k = (Γ f 0 xs).bind k) ∧ (∀ {Γ : Gam} {f : Nat} {xs : List V} {k : V → Option V}, ch Γ f xs k = (Γ f 1 xs).bind k) ∧
    (∀ {v : V} {k : V → Option V}, (some v).bind k = k v) ∧
    (∀ {k : IntKind} {a b : Int}, evp (.bin .lss .no) [.int k a, .int k b] = some (.bool (decide (a < b)))) ∧ (∀ {k : IntKind} {a b : Int}, evp (.bin .leq .no) [.int k a, .int k b] = some (.bool (decide (a ≤ b)))) ∧
    (∀ {k : IntKind} {a b : Int}, evp (.bin .gtr .no) [.int k a, .int k b] = some (.bool (decide (b < a)))) ∧ (∀ {k : IntKind} {a b : Int}, evp (.bin .geq .no) [.int k a, .int k b] = some (.bool (decide (b ≤ a)))) ∧
    (∀ {k : IntKind} {a b : Int}, evp (.bin .eql .no) [.int k a, .int k b] = some (.bool (decide (a = b)))) ∧ (∀ {k : IntKind} {a b : Int}, evp (.bin .neq .no) [.int k a, .int k b] = some (.bool (!decide (a = b)))) ∧
    (∀ {k : IntKind} {a b : Int}, evp (.bin .add .no) [.int k a, .int k b] = some (.int k (k.wrap (a + b)))) ∧ (∀ {k : IntKind} {a b : Int}, evp (.bin .sub .no) [.int k a, .int k b] = some (.int k (k.wrap (a - b)))) ∧
    (∀ {s t : Bytes}, evp (.bin .eql .no) [.str s, .str t] = some (.bool (decide (s = t)))) ∧ (∀ {s t : Bytes}, evp (.bin .neq .no) [.str s, .str t] = some (.bool (!decide (s = t)))) ∧ (∀ {s t : Bytes}, evp (.bin .lss .no) [.str s, .str t] = some (.bool (Op.bytesLess s t))) ∧
    (∀ {x y : Bool}, evp (.bin .eql .bool) [.bool x, .bool y] = some (.bool (x == y))) ∧ (∀ {x y : Bool}, evp (.bin .neq .bool) [.bool x, .bool y] = some (.bool (!(x == y)))) ∧ (∀ {x : Bool}, evp (.un .not) [.bool x] = some (.bool !x)) ∧
    (∀ {s : Bytes}, evp (.len true) [.str s] = some (.int .i64 s.length)) ∧ (∀ {n : Bool} {sz : Nat} {xs : List V}, evp (.len false) [.sl n sz xs] = some (.int .i64 xs.length)) ∧ (∀ {i : Nat} {xs : List V}, evp (.ext i) [.tup xs] = xs[i]?) ∧
    (∀ {x y : Option V}, vif (.bool true) x y = x) ∧ (∀ {x y : Option V}, vif (.bool false) x y = y) ∧ (∀ {p : Prop} [Decidable p] {x y : Option V}, vif (.bool (decide p)) x y = if p then x else y) ∧ (∀ {p : Prop} [Decidable p] {x y : Option V}, vif (.bool (!decide p)) x y = if p then y else x) ∧
    (!true) = false ∧ (!false) = true ∧ (∀ {α : Type} {f : α → V} {l : List α}, (l.map f).length = l.length) ∧ (∀ {x : V} {l : List V}, (x :: l)[0]? = some x) ∧ (∀ {x : V} {l : List V} {i : Nat}, (x :: l)[i + 1]? = l[i]?) :=
  ⟨rfl, rfl, rfl, rfl, v_lss, v_leq, v_gtr, v_geq, v_eql, v_neq, v_add, v_sub, v_seql, v_sneq, v_slss, v_beql, v_bneq, v_not, v_slen, v_len, v_ext, vif_t, vif_f, vif_d, vif_n, rfl, rfl, List.length_map .., rfl, rfl⟩
end Go.Abs
