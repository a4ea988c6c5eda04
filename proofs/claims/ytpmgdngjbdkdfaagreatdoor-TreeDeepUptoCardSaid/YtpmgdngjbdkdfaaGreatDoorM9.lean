/-
  Parts of the proof, one behind the other. Own work of this seat; some printed by its programs.
-/
import Derived.Test.YtpmgdngjbdkdfaaGreatDoorM6
import Derived.Test.YtpmgdngjbdkdfaaGreatDoorM7
import Derived.Test.YtpmgdngjbdkdfaaGreatDoorM8
import Derived.Test.YtpmgdngjbdkdfaaGreatDoorCards
import Derived.Test.YtpmgdngjbdkdfaaGreatDoorTie
import Derived.ProofKit
import Derived.OpenShut
import Derived.Deep.DeepHandedRow
import Derived.Lib.LaidTab
import Derived.Test.YtpmgdngjbdkdfaaGreatDoorM4
import Derived.Test.YtpmgdngjbdkdfaaGreatDoorM5
namespace Go.Proofs.YtpmgdngjbdkdfaaGreatDoor
open Go.Abs
theorem Zz4 : ∀ w, 1 <= w -> w <= 40 -> Dif w 30
 | 1, _, _ => Za0 (by decide) chk1
 | 2, _, _ => Za0 (by decide) chk2
 | 3, _, _ => Za0 (by decide) chk3
 | 4, _, _ => Za0 (by decide) chk4
 | 5, _, _ => Za0 (by decide) chk5
 | 6, _, _ => Za0 (by decide) chk6
 | 7, _, _ => Za0 (by decide) chk7
 | 8, _, _ => Za0 (by decide) chk8
 | 9, _, _ => Za0 (by decide) chk9
 | 10, _, _ => Za0 (by decide) Z76
 | 11, _, _ => Za0 (by decide) Z7y
 | 12, _, _ => Za0 (by decide) Z5x
 | 13, _, _ => Za0 (by decide) Z6c
 | 14, _, _ => Za0 (by decide) Z7z
 | 15, _, _ => Za0 (by decide) Z52
 | 16, _, _ => Za0 (by decide) Z7i
 | 17, _, _ => Za0 (by decide) Z6x
 | 18, _, _ => Za0 (by decide) Z51
 | 19, _, _ => Za0 (by decide) Z68
 | 20, _, _ => Za0 (by decide) Z8r
 | 21, _, _ => Za0 (by decide) Z8g
 | 22, _, _ => Za0 (by decide) Z6n
 | 23, _, _ => Za0 (by decide) Z6y
 | 24, _, _ => Za0 (by decide) Z8e
 | 25, _, _ => Za0 (by decide) Z7l
 | 26, _, _ => Za0 (by decide) Z5s
 | 27, _, _ => Za0 (by decide) Z8m
 | 28, _, _ => Za0 (by decide) Z6s
 | 29, _, _ => Za0 (by decide) Z53
 | 30, _, _ => Za0 (by decide) Z6b
 | 31, _, _ => Za0 (by decide) Z65
 | 32, _, _ => Za0 (by decide) Z6u
 | 33, _, _ => Za0 (by decide) Z7j
 | 34, _, _ => Za0 (by decide) Z5u
 | 35, _, _ => Za0 (by decide) Z72
 | 36, _, _ => Za0 (by decide) Z7v
 | 37, _, _ => Za0 (by decide) Z8i
 | 38, _, _ => Za0 (by decide) Z7o
 | 39, _, _ => Za0 (by decide) Z5r
 | 40, _, _ => Za0 (by decide) Z6r
 | 0, h, _ => by cases h
 | n + 41, _, h => by omega
end Go.Proofs.YtpmgdngjbdkdfaaGreatDoor
namespace Go.Proofs.YtpmgdngjbdkdfaaGreatDoor
open Go.ChangeShapes Go.WideShapes Go.RowKit Go.Abs
theorem ownK : ownKnob Tryz.prog.godebug = none := by kernel_rfl
theorem kids : Kids Tryz.prog (· < Tryz.prog.types.size) := kids_rows (by kernel_rfl) (by kernel_rfl)
theorem full : ∀ t e, t < Tryz.prog.types.size -> Tryz.prog.underlying t = some (.slice e) -> 0 < Tryz.prog.cellsOf e := slices_full_of Tryz.prog (by kernel_rfl)
section
variable {P : Program} {m : Nat} {t e : TypeId} {vs : List V}
theorem Z2f {k : IntKind} (hu : P.underlying t = some (.int k)) (h : HasT P (m + 1) t vs) : ∃ x : Int, nfL vs = [V.int k x] := by
 simp only [HasT, hu] at h
 obtain ⟨n, rfl, _⟩ := h; exact ⟨n, rfl⟩
theorem Zw0 (hu : P.underlying t = some (.int .i64)) (h : HasT P (m + 1) t vs) : ∃ x : Int, nfL vs = [V.int .i64 x] /\ -9223372036854775808 <= x /\ x <= 9223372036854775807 := by
 simp only [HasT, hu] at h
 obtain ⟨n, rfl, h1, h2⟩ := h; exact ⟨n, rfl, h1, h2⟩
theorem Zxj (ha : Zdz P t = false) {v : V} (h : nfL vs = [v]) : (elV P t vs).nf = v := by
 unfold elV; rw [if_neg (by simp [ha])]
 cases vs with
 | nil => cases h
 | cons x r => rw [nfL] at h; exact (List.cons.inj h).1
theorem nfL_flat : ∀ {wss : List (List V)}, nfL wss.flatten = (wss.map nfL).flatten
 | [] => rfl
 | w :: r => by rw [Xcf, Zbt, nfL_flat]; rfl
end
end Go.Proofs.YtpmgdngjbdkdfaaGreatDoor
namespace Go.Proofs.YtpmgdngjbdkdfaaGreatDoor
open Go.Abs
variable {e : Ev}
theorem Zqk (he : EnvT e) (lv wd : Int) (h1 : -9223372036854775808 <= lv) (h2 : lv <= 9223372036854775807) (h3 : -9223372036854775808 <= wd) (h4 : wd <= 9223372036854775807) : vl e 4 0 [.int .i64 lv, .int .i64 wd] = some (.bool true) :=
 q.treeDeep he Zz4 lv wd
end Go.Proofs.YtpmgdngjbdkdfaaGreatDoor
namespace Go.Proofs.YtpmgdngjbdkdfaaGreatDoor
open Go.Abs Go.RowKit
def exts : List FC := [K.strings_Split, K.strings_Contains, K.strings_Join]
theorem Zys (w : World) (hw : EnvOK w) : ∀ c ∈ exts, c.Holds (cxD w) := by
 intro c hc
 simp only [exts, Xay, Xc3, or_false] at hc
 rcases hc with rfl | rfl | rfl
 ·exact H.strings_Split w hw
 ·exact H.strings_Contains w hw
 ·exact H.strings_Join w hw
theorem Zu9 : ∀ c ∈ exts, cfg.ow c.f = true -> c.own = true := by
 intro c hc h
 simp only [exts, Xay, Xc3, or_false] at hc
 rcases hc with rfl | rfl | rfl
 ·rfl
 ·exact absurd h (by rw [show cfg.ow K.strings_Contains.f = false by kernel_rfl]; decide)
 ·exact absurd h (by rw [show cfg.ow K.strings_Join.f = false by kernel_rfl]; decide)
theorem envX : EnvT (Zqq exts) where
 split s c hs := Zj1 (cs := exts) (c := K.strings_Split) rfl ⟨(s, [c]), Zal c s, rfl, by simp [g.strings_Split, hs], rfl⟩
 contains s c hs := Zj1 (cs := exts) (c := K.strings_Contains) rfl ⟨(s, [c]), decide (c ∈ s), rfl, by simp [g.strings_Contains, hs], rfl⟩
 join l s hl hj := Zj1 (cs := exts) (c := K.strings_Join) rfl ⟨(l, s), Zgj s l, rfl, by simp only [g.strings_Join, Zlm]; rw [if_pos ⟨hl, hj⟩], rfl⟩
end Go.Proofs.YtpmgdngjbdkdfaaGreatDoor
namespace Go.Proofs.YtpmgdngjbdkdfaaGreatDoor
open Go.Abs Go.RowKit Go.ChangeShapes Go.WideShapes
section
variable {P : Program} {w : World}
theorem Zpk {n : String} {d : DataW Unit} : ∀ {l : List (String × DataW Unit)} {ps : List MemPlace}, DataW.LaidVars P w l ps -> (n, d) ∈ l ->
  ∃ g t cs fuel p, P.globalNamed n = some g /\ (P.globals[g]?).map (·.type) = some t /\ w.var? P n = some cs /\ DataW.trod (fun _ => ()) P w 0 (fun _ => true) false fuel t cs.toList = some (d, p)
 | [], _, _, h => by cases h
 | (m, c) :: r, ps, hl, h => by
  obtain ⟨g, t, cs, fuel, p, q, h1, h2, h3, h4, h5, _⟩ := hl
  rcases Xay.1 h with e | h
  ·cases e; exact ⟨g, t, cs, fuel, p, h1, h2, h3, h4⟩
  ·exact Zpk h5 h
theorem Zsk {n : String} {g : Nat} {cs : Array Value} (hg : P.globalNamed n = some g) (h : w.var? P n = some cs) : ∃ t x, w.heap[g]? = some (.cells cs t x) := by
 unfold World.var? at h
 rw [hg, Xah] at h
 split at h
 ·rename_i c t x hx; cases h; exact ⟨t, x, hx⟩
 ·cases h
theorem trod_int {enc : TypeId × Value -> Unit} {held : Bool} {fuel : Nat} {e : TypeId} {k k' : IntKind} {cs : List Value} {n : Int} {p : List MemPlace} (he : P.underlying e = some (.int k)) (h : DataW.trod enc P w 0 (fun _ => true) held fuel e cs = some (.lit (.int k' n), p)) : cs = [.int k n] /\ k' = k := by
 cases fuel with
 | zero => simp [DataW.trod] at h
 | succ m =>
  unfold DataW.trod at h
  rw [he] at h
  split at h <;> simp_all
theorem Z0n {laid : List (String × DataW Unit)} {n : String} {d : DataW Unit} {g : Nat} {t e : TypeId} {k : IntKind} {m : Nat} (ns : List Int) (h : laidMet P laid w) (hm : (n, d) ∈ laid) (hg : P.globalNamed n = some g) (ht : (P.globals[g]?).map (·.type) = some t)
  (hu : P.underlying t = some (.array m e)) (he : P.underlying e = some (.int k)) (hc : P.cellsOf e = 1) (hct : P.cellsOf t = ns.length) (hd : d = .agg (ns.map fun i => .lit (.int k i))) : Row w (G0 w) (fun _ => none) (ns.map (V.int k)) g 0 /\ (ns.map (V.int k)).length <= G0 w g := by
 obtain ⟨ps, hl, _, _⟩ := h
 obtain ⟨g', t', cs, fuel, p, h1, h2, h3, h4⟩ := Zpk hl hm
 rw [hg] at h1; cases h1
 rw [ht] at h2; cases h2
 obtain ⟨t1, x1, hh⟩ := Zsk hg h3
 obtain ⟨xs, fu, _, hx, hlen, hxl, hel⟩ := DataW.trod_array hu h4
 have hxs : xs.map (·.1) = ns.map fun i => (DataW.lit (.int k i) : DataW Unit) := by
  have := (Prod.mk.inj hx).1
  rw [hd] at this
  exact (DataW.agg.inj this).symm
 have hnl : xs.length = ns.length := by have := congrArg List.length hxs; simpa using this
 have hsz : cs.size = ns.length := by rw [<- hct, <- hlen]; simp
 have hcell : ∀ i, (hi : i < ns.length) -> cs[i]? = some (.int k ns[i]) := by
  intro i hi
  have h5 := hel i (by omega)
  rw [hc, Xb9, Xad (by omega)] at h5
  have h6 : xs[i].1 = DataW.lit (.int k ns[i]) := by
   have h7 : (xs.map (·.1))[i]? = (ns.map fun i => (DataW.lit (.int k i) : DataW Unit))[i]? := by rw [hxs]
   rw [Xbe, Xbe, Xad (by omega), Xad hi] at h7
   simpa using h7
  obtain ⟨h8, _⟩ := trod_int (n := ns[i]) (p := xs[i].2) (k' := k) he (by rw [h5]; exact congrArg some (Prod.ext h6 rfl))
  have hi' : i < cs.toList.length := by simp; omega
  rw [Xa0 hi', Xcy, Xb7] at h8
  have h9 := (List.cons.inj h8).1
  rw [Xas (by omega)]
  simpa using h9
 refine ⟨⟨fun c hc => ?_, fun i c hc => ?_⟩, ?_⟩
 ·obtain ⟨j, _, rfl⟩ := Xa3.1 hc; rfl
 ·rw [Xbe] at hc
  obtain ⟨j, hj, rfl⟩ := Xaa.1 hc
  obtain ⟨hi, hj⟩ := Xae.1 hj
  refine ⟨.int k j, ?_, .int k j⟩
  rw [Xan]
  simp only [World.cell?, hh]
  rw [<- hj]; exact hcell i hi
 ·simp only [Xb4, G0, hh]; omega
end
noncomputable def cxG (gls : Nat -> Option (List V)) (w : World) : Cx := ⟨Tryz.prog, w, gls⟩
theorem Z10 {gls : Nat -> Option (List V)} {w W : World} {G : Nat -> Nat} (h : OKW (cxG gls w) W G) : OKW (cxD w) W G := ⟨h.below, h.Glo, h.Gz⟩
theorem Z5w {gls : Nat -> Option (List V)} {w : World} {f : FuncId} {args : List V} {r : V × Bool} (h : PC (cxD w) f args r) : PC (cxG gls w) f args r := ⟨h.1, fun W G φ xs ho hr => h.2 W G φ xs (Z10 ho) hr⟩
theorem Zz0 {gls : Nat -> Option (List V)} {w : World} {c : FC} (h : c.Holds (cxD w)) : c.Holds (cxG gls w) := fun args y hr => by
 obtain ⟨v, o, h1, h2⟩ := h args y hr
 exact ⟨v, o, Z5w h1, h2⟩
theorem Z1h {laid : List (String × DataW Unit)} {w : World} (h : laidMetH Tryz.prog laid w) (hn : (laid.filter fun x => x.2.handleName?.isSome) = []) : laidMet Tryz.prog laid w := by
 unfold laidMetH at h
 rw [hn] at h; exact h
end Go.Proofs.YtpmgdngjbdkdfaaGreatDoor
