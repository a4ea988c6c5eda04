/-
  Parts of the proof, one behind the other. Own work of this seat; some printed by its programs.
-/
import Derived.Test.YtpmgdngjbdkdfaaDoorM3
namespace Go.Abs
open Go.RowKit
open Classical in
noncomputable def extOf (cs : List FC) : Nat -> List V -> Option V := fun f xs =>
  match cs.find? (fun c => c.f == f && c.mt xs) with
  | some c => if h : ∃ y, c.rel xs y then some h.choose else none
  | none => none
theorem extOf_ok {cx : Cx} {cs : List FC} {ow : Cfg} (h : ∀ c ∈ cs, c.Holds cx) (ho : ∀ c ∈ cs, ow.ow c.f = true -> c.own = true) : ExtOK cx (extOf cs) ow := by
  intro f xs r hr
  unfold extOf at hr
  split at hr
  . rename_i c hc
    have hm := List.mem_of_find?_eq_some hc
    have h2 := List.find?_some hc
    simp only [Bool.and_eq_true, beq_iff_eq] at h2
    obtain ⟨rfl, _⟩ := h2
    split at hr
    . rename_i hex
      cases hr
      have h3 := hex.choose_spec
      intro _ args ha
      subst ha
      obtain ⟨v, o, q1, q2, q3⟩ := h c hm args _ h3
      exact ⟨(c.clean _ _ h3).2, v, o, q1, q2, fun hw => q3 (ho c hm hw)⟩
    . cases hr
  . cases hr
theorem extOf_eq {cs : List FC} {c : FC} {xs : List V} {y : V} (hf : cs.find? (fun d => d.f == c.f && d.mt xs) = some c) (hr : c.rel xs y) : extOf cs c.f xs = some y := by
  unfold extOf
  rw [hf]
  have hex : ∃ y, c.rel xs y := ⟨y, hr⟩
  simp only [dif_pos hex]
  exact congrArg some (c.fn _ _ _ hex.choose_spec hr)
variable {P : Program} {tabs : List FE} {ow : Cfg} {ext : Nat -> List V -> Option V}
theorem val_ext {f : Nat} {xs : List V} {r : V} (hn : tabs.find? (fun E => Nat.beq E.k f) = none) (h : ext f xs = some r) : val P tabs ext ow f 0 xs = some r := by
  apply val_of
  unfold step
  rw [hn]; exact h
theorem law_endY {cx : Cx} (hgl : GlOK cx) (hm : cx.P.follows .mixedOrders = true) (hext : ExtOK cx ext ow) (hT : TabOK cx tabs ow) {f : Nat} {args : List V} {ys : List V} {xs : Array Value} (ha : nfL args = ys) (hc : cleanL ys = true)
    (h : val cx.P tabs ext ow f 0 ys = some (.bool true)) (hx : RepL cx.w0 (G0 cx.w0) (fun _ => none) args xs) : Calls cx.P f xs cx.w0 fun e W' => e = .returned (.bool true) /\ Below cx.w0.heap.size cx.w0 W' := by
  obtain ⟨_, v, o, h1, h2, _⟩ := val_good hgl hm hext hT h hc args ha
  rw [nf_bool h2] at h1
  exact law_calls h1 hx
section
variable {k : IntKind} {a b : Int} {s t : Bytes}
theorem v_lss : evp (.bin .lss .no) [.int k a, .int k b] = some (.bool (decide (a < b))) := by simp [evp, abin, aint]
theorem v_leq : evp (.bin .leq .no) [.int k a, .int k b] = some (.bool (decide (a <= b))) := by simp [evp, abin, aint]
theorem v_gtr : evp (.bin .gtr .no) [.int k a, .int k b] = some (.bool (decide (b < a))) := by simp [evp, abin, aint]
theorem v_geq : evp (.bin .geq .no) [.int k a, .int k b] = some (.bool (decide (b <= a))) := by simp [evp, abin, aint]
theorem v_eql : evp (.bin .eql .no) [.int k a, .int k b] = some (.bool (decide (a = b))) := by simp [evp, abin, aint]
theorem v_neq : evp (.bin .neq .no) [.int k a, .int k b] = some (.bool (!decide (a = b))) := by simp [evp, abin, aint]
theorem v_add : evp (.bin .add .no) [.int k a, .int k b] = some (.int k (k.wrap (a + b))) := by simp [evp, abin, aint]
theorem v_sub : evp (.bin .sub .no) [.int k a, .int k b] = some (.int k (k.wrap (a - b))) := by simp [evp, abin, aint]
theorem v_seql : evp (.bin .eql .no) [.str s, .str t] = some (.bool (decide (s = t))) := by simp [evp, abin, astr]
theorem v_sneq : evp (.bin .neq .no) [.str s, .str t] = some (.bool (!decide (s = t))) := by simp [evp, abin, astr]
theorem v_slss : evp (.bin .lss .no) [.str s, .str t] = some (.bool (Op.bytesLess s t)) := by simp [evp, abin, astr]
theorem v_sadd (h : s.length + t.length <= 4611686018427387904) : evp (.bin .add .no) [.str s, .str t] = some (.str (s ++ t)) := by simp [evp, abin, astr, h]
theorem v_beql {x y : Bool} : evp (.bin .eql .bool) [.bool x, .bool y] = some (.bool (x == y)) := by cases x <;> cases y <;> rfl
theorem v_bneq {x y : Bool} : evp (.bin .neq .bool) [.bool x, .bool y] = some (.bool (!(x == y))) := by cases x <;> cases y <;> rfl
theorem v_not {x : Bool} : evp (.un .not) [.bool x] = some (.bool !x) := rfl
theorem v_slen : evp (.len true) [.str s] = some (.int .i64 s.length) := rfl
theorem v_len {n : Bool} {sz : Nat} {xs : List V} : evp (.len false) [.sl n sz xs] = some (.int .i64 xs.length) := rfl
theorem vif_t {x y : Option V} : vif (.bool true) x y = x := rfl
theorem vif_f {x y : Option V} : vif (.bool false) x y = y := rfl
theorem vif_d {p : Prop} [Decidable p] {x y : Option V} : vif (.bool (decide p)) x y = if p then x else y := by by_cases h : p <;> simp [h, vif]
theorem vif_n {p : Prop} [Decidable p] {x y : Option V} : vif (.bool (!decide p)) x y = if p then y else x := by by_cases h : p <;> simp [h, vif]
theorem vif_b {c : Bool} {x y : Option V} : vif (.bool c) x y = if c = true then x else y := by cases c <;> rfl
theorem v_ext {i : Nat} {xs : List V} : evp (.ext i) [.tup xs] = xs[i]? := rfl
theorem v_sls0 {h : Nat} (hh : h <= s.length) : evp (.sls false true) [.str s, .int .i64 h] = some (.str (s.take h)) := by
  simp only [evp, vSlsC, vSls, vOpt]
  simp [cut3, hh]
theorem v_sls1 {l : Nat} (hl : l <= s.length) : evp (.sls true false) [.str s, .int .i64 l] = some (.str (s.drop l)) := by
  simp only [evp, vSlsC, vSls, vOpt]
  simp [cut3, hl]
theorem v_sls2 {l h : Nat} (hl : l <= h) (hh : h <= s.length) : evp (.sls true true) [.str s, .int .i64 l, .int .i64 h] = some (.str ((s.take h).drop l)) := by
  simp only [evp, vSlsC, vSls, vOpt]
  simp [cut3, hl, hh]
theorem v_idx {i : Nat} {c : UInt8} (h : s[i]? = some c) : evp .idx [.str s, .int .i64 i] = some (byteV c) := by simp [evp, vIdx, h]
theorem v_elem {n : Bool} {sz i : Nat} {xs : List V} {x : V} (h : xs[i]? = some x) : evp (.elem sz) [.sl n sz xs, .int .i64 i] = some x := by simp [evp, vElem, h]
theorem v_app {n : Bool} {sz : Nat} {xs ys : List V} {m : Bool} (h : xs.length + ys.length <= Lim) : evp (.app sz) [.sl n sz xs, .sl m sz ys] = some (.sl false sz (xs ++ ys)) := by simp [evp, vAppC, vTail, h]
theorem some_f {p : Prop} [Decidable p] (h : ¬ p) : some (V.bool false) = some (V.bool (decide p)) := by simp [h]
end
theorem yy :
    (∀ {p : Prim} {xs : List V} {k : V -> Option V}, pr p xs k = (evp p xs).bind k) /\ (∀ {Γ : Gam} {f : Nat} {xs : List V} {k : V -> Option V}, ca Γ f xs k = (Γ f 0 xs).bind k) /\ (∀ {Γ : Gam} {f : Nat} {xs : List V} {k : V -> Option V}, ch Γ f xs k = (Γ f 1 xs).bind k) /\
    (∀ {v : V} {k : V -> Option V}, (some v).bind k = k v) /\
    (∀ {k : IntKind} {a b : Int}, evp (.bin .lss .no) [.int k a, .int k b] = some (.bool (decide (a < b)))) /\ (∀ {k : IntKind} {a b : Int}, evp (.bin .leq .no) [.int k a, .int k b] = some (.bool (decide (a <= b)))) /\
    (∀ {k : IntKind} {a b : Int}, evp (.bin .gtr .no) [.int k a, .int k b] = some (.bool (decide (b < a)))) /\ (∀ {k : IntKind} {a b : Int}, evp (.bin .geq .no) [.int k a, .int k b] = some (.bool (decide (b <= a)))) /\
    (∀ {k : IntKind} {a b : Int}, evp (.bin .eql .no) [.int k a, .int k b] = some (.bool (decide (a = b)))) /\ (∀ {k : IntKind} {a b : Int}, evp (.bin .neq .no) [.int k a, .int k b] = some (.bool (!decide (a = b)))) /\
    (∀ {k : IntKind} {a b : Int}, evp (.bin .add .no) [.int k a, .int k b] = some (.int k (k.wrap (a + b)))) /\ (∀ {k : IntKind} {a b : Int}, evp (.bin .sub .no) [.int k a, .int k b] = some (.int k (k.wrap (a - b)))) /\
    (∀ {s t : Bytes}, evp (.bin .eql .no) [.str s, .str t] = some (.bool (decide (s = t)))) /\ (∀ {s t : Bytes}, evp (.bin .neq .no) [.str s, .str t] = some (.bool (!decide (s = t)))) /\ (∀ {s t : Bytes}, evp (.bin .lss .no) [.str s, .str t] = some (.bool (Op.bytesLess s t))) /\
    (∀ {x y : Bool}, evp (.bin .eql .bool) [.bool x, .bool y] = some (.bool (x == y))) /\ (∀ {x y : Bool}, evp (.bin .neq .bool) [.bool x, .bool y] = some (.bool (!(x == y)))) /\ (∀ {x : Bool}, evp (.un .not) [.bool x] = some (.bool !x)) /\
    (∀ {s : Bytes}, evp (.len true) [.str s] = some (.int .i64 s.length)) /\ (∀ {n : Bool} {sz : Nat} {xs : List V}, evp (.len false) [.sl n sz xs] = some (.int .i64 xs.length)) /\ (∀ {i : Nat} {xs : List V}, evp (.ext i) [.tup xs] = xs[i]?) /\
    (∀ {x y : Option V}, vif (.bool true) x y = x) /\ (∀ {x y : Option V}, vif (.bool false) x y = y) /\ (∀ {p : Prop} [Decidable p] {x y : Option V}, vif (.bool (decide p)) x y = if p then x else y) /\ (∀ {p : Prop} [Decidable p] {x y : Option V}, vif (.bool (!decide p)) x y = if p then y else x) /\
    (!true) = false /\ (!false) = true /\ (∀ {α : Type} {f : α -> V} {l : List α}, (l.map f).length = l.length) /\ (∀ {x : V} {l : List V}, (x :: l)[0]? = some x) /\ (∀ {x : V} {l : List V} {i : Nat}, (x :: l)[i + 1]? = l[i]?) :=
  ⟨rfl, rfl, rfl, rfl, v_lss, v_leq, v_gtr, v_geq, v_eql, v_neq, v_add, v_sub, v_seql, v_sneq, v_slss, v_beql, v_bneq, v_not, v_slen, v_len, v_ext, vif_t, vif_f, vif_d, vif_n, rfl, rfl, List.length_map .., rfl, rfl⟩
end Go.Abs
