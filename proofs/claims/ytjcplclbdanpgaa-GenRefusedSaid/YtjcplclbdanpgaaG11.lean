/- slices.SortFunc at edges: the shelf's contract, laid at this program; what it says of the heap. -/
import Derived.Shelf.SlSortCmp.NoneTotal
import Derived.Ground.SlsfProg
import Derived.Test.YtjcplclbdanpgaaProg
import Derived.Test.YtjcplclbdanpgaaG10
import Derived.Test.YtjcplclbdanpgaaFwT
namespace Go.Proofs
open Go.Shelf
def Try.sortE_ren : Go.Shelf.Ren := ⟨fun | 6 => 60 | 15 => 64 | 14 => 63 | 28 => 73 | 29 => 74 | 20 => 65 | 21 => 66 | 22 => 67 | 23 => 68 | 24 => 69 | 25 => 70 | 26 => 71 | 27 => 72 | 46 => 75 | 47 => 76 | 48 => 77 | 49 => 78 | 50 => 79 | 57 => 80 | n => n, fun | 22 => 26 | 24 => 35 | 25 => 59 | 3 => 3 | 39 => 65 | 0 => 0 | 53 => 75 | 55 => 77 | 4 => 4 | 46 => 68 | 45 => 67 | 50 => 72 | 5 => 5 | 9 => 9 | 66 => 78 | 70 => 82 | 76 => 84 | 77 => 44 | n => n, fun | n => n⟩
theorem Try.sortE : Go.Proofs.SlLaysF0.n6 Try.prog Try.sortE_ren := {
  mixed := by kernel_rfl
  f6 := ⟨Try.f60.name, by decide, Try.func60.trans (congrArg some (by kernel_rfl))⟩
  f14 := ⟨Try.f63.name, by decide, Try.func63.trans (congrArg some (by kernel_rfl))⟩
  f15 := Try.func64.trans (congrArg some (by kernel_rfl))
  f20 := ⟨Try.f65.name, by decide, Try.func65.trans (congrArg some (by kernel_rfl))⟩
  f21 := ⟨Try.f66.name, by decide, Try.func66.trans (congrArg some (by kernel_rfl))⟩
  f22 := ⟨Try.f67.name, by decide, Try.func67.trans (congrArg some (by kernel_rfl))⟩
  f23 := ⟨Try.f68.name, by decide, Try.func68.trans (congrArg some (by kernel_rfl))⟩
  f24 := ⟨Try.f69.name, by decide, Try.func69.trans (congrArg some (by kernel_rfl))⟩
  f25 := ⟨Try.f70.name, by decide, Try.func70.trans (congrArg some (by kernel_rfl))⟩
  f26 := ⟨Try.f71.name, by decide, Try.func71.trans (congrArg some (by kernel_rfl))⟩
  f27 := ⟨Try.f72.name, by decide, Try.func72.trans (congrArg some (by kernel_rfl))⟩
  f28 := Try.func73.trans (congrArg some (by kernel_rfl))
  f29 := Try.func74.trans (congrArg some (by kernel_rfl))
  f46 := ⟨Try.f75.name, by decide, Try.func75.trans (congrArg some (by kernel_rfl))⟩
  f47 := Try.func76.trans (congrArg some (by kernel_rfl))
  f48 := Try.func77.trans (congrArg some (by kernel_rfl))
  f49 := ⟨Try.f78.name, by decide, Try.func78.trans (congrArg some (by kernel_rfl))⟩
  f50 := ⟨Try.f79.name, by decide, Try.func79.trans (congrArg some (by kernel_rfl))⟩
  f57 := ⟨Try.f80.name, by decide, Try.func80.trans (congrArg some (by kernel_rfl))⟩
  t0 := Try.underlying0
  a0 := Try.isAgg0
  z0 := Try.sizeOf0
  v0 := Try.zeroValue0
  t3 := Try.underlying3
  a3 := Try.isAgg3
  z3 := Try.sizeOf3
  v3 := Try.zeroValue3
  t4 := Try.underlying4
  a4 := Try.isAgg4
  z4 := Try.sizeOf4
  v4 := Try.zeroValue4
  t5 := Try.underlying5
  a5 := Try.isAgg5
  z5 := Try.sizeOf5
  v5 := Try.zeroValue5
  t9 := Try.underlying9
  a9 := Try.isAgg9
  z9 := Try.sizeOf9
  v9 := Try.zeroValue9
  t22 := Try.underlying26
  a22 := Try.isAgg26
  z22 := Try.sizeOf26
  v22 := Try.zeroValue26
  t25 := Try.underlying59
  a25 := Try.isAgg59
  z25 := Try.sizeOf59
  v25 := Try.zeroValue59
  t39 := Try.underlying65
  a39 := Try.isAgg65
  z39 := Try.sizeOf65
  v39 := Try.zeroValue65
  t45 := Try.underlying67
  a45 := Try.isAgg67
  z45 := Try.sizeOf67
  v45 := Try.zeroValue67
  t46 := Try.underlying68
  a46 := Try.isAgg68
  z46 := Try.sizeOf68
  v46 := Try.zeroValue68
  t50 := Try.underlying72
  a50 := Try.isAgg72
  z50 := Try.sizeOf72
  v50 := Try.zeroValue72
  t53 := Try.underlying75
  a53 := Try.isAgg75
  z53 := Try.sizeOf75
  v53 := Try.zeroValue75
  t55 := Try.underlying77
  a55 := Try.isAgg77
  z55 := Try.sizeOf77
  v55 := Try.zeroValue77
  t66 := Try.underlying78
  a66 := Try.isAgg78
  z66 := Try.sizeOf78
  v66 := Try.zeroValue78
  t70 := Try.underlying82
  a70 := Try.isAgg82
  z70 := Try.sizeOf82
  v70 := Try.zeroValue82
  t76 := Try.underlying84
  a76 := Try.isAgg84
  z76 := Try.sizeOf84
  v76 := Try.zeroValue84
  t77 := Try.underlying44
  a77 := Try.isAgg44
  z77 := Try.sizeOf44
  v77 := Try.zeroValue44 }
end Go.Proofs
namespace Go.Fw
open Go Go.Sort
theorem Rel.grow {gl : Nat → AV} {B0 : Nat} {L : Lay} {G : Heap} {w : World} (h : Rel gl B0 L G w) (os : Array Obj) : Rel gl B0 L G (grow w os) ∧ Fr L G w L G (grow w os) := by
  have hi : ∀ i, i < w.heap.size → (Go.Sort.grow w os).heap[i]? = w.heap[i]? := fun i hi => by simp only [Go.Sort.grow]; rw [Array.getElem?_append_left hi]
  have hs : w.heap.size ≤ (Go.Sort.grow w os).heap.size := by simp [Go.Sort.grow]
  have hI : ∀ i, L.I i → (Go.Sort.grow w os).heap[i]? = w.heap[i]? := fun i h' => hi i (h.ilt i h')
  exact ⟨⟨Nat.le_trans h.base hs, h.idlt, fun i h' => Nat.lt_of_lt_of_le (h.ilt i h') hs, h.wf, fun b blk hD hg => by
    obtain ⟨h1, h2, o, h3, h4⟩ := h.live b blk hD hg
    exact ⟨h1, h2, o, by rw [hi _ (h.k_lt hD hg)]; exact h3, h4.mono (.refl L) hI⟩, h.inj, fun g => (h.glob g).mono (.refl L) hI⟩,
    ⟨.refl L, hs, rfl, rfl, rfl, fun i hi' _ => hi i hi', fun b hb hn => absurd hb hn, fun b hb hn => absurd hb hn, fun i hi hn => absurd hi hn, Nat.le_refl _, fun _ _ _ => rfl, fun _ _ h => h⟩⟩
end Go.Fw
namespace Go.Fw.Sx
open Go Go.Fw Go.Proofs Go.Shelf Go.RowKit Go.Lib Go.Sort
set_option maxRecDepth 100000
set_option linter.unusedSimpArgs false
set_option linter.unusedVariables false
theorem i64w {x : Int} (h1 : -9223372036854775808 ≤ x) (h2 : x ≤ 9223372036854775807) : IntKind.wrap .i64 x = x := by
  show (if (true && decide (x % 18446744073709551616 ≥ 9223372036854775808)) = true then x % 18446744073709551616 - 18446744073709551616 else x % 18446744073709551616) = x
  simp only [Bool.true_and, decide_eq_true_eq]
  split <;> omega
/-- Edges within bounds. -/
def SE : Type := { p : Int × Int // 0 ≤ p.1 ∧ p.1 ≤ 1048576 ∧ 0 ≤ p.2 ∧ p.2 ≤ 1048576 }
instance : Inhabited SE := ⟨⟨(0, 0), by decide⟩⟩
def SE.enc (x : SE) : List Value := [.int .i64 x.1.1, .int .i64 x.1.2]
def cmpE (x y : SE) : Int := if x.1.1 = y.1.1 then x.1.2 - y.1.2 else x.1.1 - y.1.1
set_option maxHeartbeats 1000000 in
theorem compare_calls (x y : SE) (W : World) : Calls Try.prog 61 #[.agg #[.int .i64 x.1.1, .int .i64 x.1.2], .agg #[.int .i64 y.1.1, .int .i64 y.1.2]] W fun e w' => e = .returned (.int .i64 (cmpE x y)) ∧ ∃ q os', w' = grow (W.drewN q) os' := by
  obtain ⟨⟨a, b⟩, h1, h2, h3, h4⟩ := x
  obtain ⟨⟨c, d⟩, k1, k2, k3, k4⟩ := y
  have e1 : IntKind.wrap .i64 (a - c) = a - c := i64w (by simp only at *; omega) (by simp only at *; omega)
  have e2 : IntKind.wrap .i64 (b - d) = b - d := i64w (by simp only at *; omega) (by simp only at *; omega)
  simp only [cmpE]
  clear h1 h2 h3 h4 k1 k2 k3 k4
  go_enter Try.func61, Try.ntmps61
  go_wp2
  · exact absurd ‹a = c› (by simpa using ‹(a != c) = true›)
  · go_ret
    exact ⟨rfl, 0, _, by rw [alloc_eq_grow, alloc_eq_grow, grow_grow]; rfl⟩
  · go_ret
    exact ⟨rfl, 0, _, by rw [alloc_eq_grow, alloc_eq_grow, grow_grow]; rfl⟩
  · exact absurd (by simpa using ‹(a != c) = false› : a = c) ‹¬ a = c›
theorem cmpE_lt (x y : SE) : ltOf cmpE x y = decide (x.1.1 < y.1.1 ∨ x.1.1 = y.1.1 ∧ x.1.2 < y.1.2) := by
  unfold ltOf cmpE
  split
  · rename_i h; rw [decide_eq_decide]; omega
  · rename_i h; rw [decide_eq_decide]; omega
theorem swoE : SWO (ltOf cmpE) where
  irrefl x := by rw [cmpE_lt]; simp
  trans x y z h1 h2 := by rw [cmpE_lt] at *; simp at *; omega
  ntrans x y z h1 h2 := by rw [cmpE_lt] at *; simp at *; omega
theorem antiE (x y : SE) (h1 : ltOf cmpE x y = false) (h2 : ltOf cmpE y x = false) : x = y := by
  rw [cmpE_lt] at h1 h2
  simp at h1 h2
  apply Subtype.ext
  apply Prod.ext <;> omega
theorem cmpLays61 (blk off size : Nat) (w : World) : CmpLays Try.prog 61 #[] SE.enc 2 cmpE blk off size w :=
  fun _ _ _ _ x y => compare_calls x y _
/-- Sorted edges. -/
noncomputable def sortL (ds : List SE) : List SE := ds.mergeSort fun x y => !(ltOf cmpE) y x
def cellE (ds : List SE) : Nat → AV := fun j => match ds[j / 2]? with
  | some p => if j % 2 = 0 then .int .i64 p.1.1 else .int .i64 p.1.2
  | none => .undef
theorem sortE_ct (G : Heap) (b n : Nat) (x : Bool) (f : Nat → AV) (ds : List SE) (hn : ds.length = n) (hlt : n < 4611686018427387904) (hg : G.get b = some ⟨n * 2, f⟩) (hf : ∀ j, j < n * 2 → f j = cellE ds j) :
    Ct cx 60 [.sl b 0 n x 2, .fn 61 [] []] G fun r G' => r = .tup [] ∧ G' = G.set b (some ⟨n * 2, cellE (sortL ds)⟩) := by
  refine ⟨by kernel_rfl, fun B0 L w vs hr hvs => ?_⟩
  obtain ⟨v1, us, hvs1, hv1, hus⟩ := hvs.of_cons
  obtain ⟨v2, us2, hus1, hv2, hus2⟩ := hus.of_cons
  have e0 := hus2.of_nil
  subst e0; subst hus1
  obtain ⟨cap, rfl, hD, hle, hx, hS, hm⟩ := hv1.inv_sl
  obtain ⟨p', q', rfl, k1, k2⟩ := hv2.inv_fn
  have e1 := k1.of_nil
  have e2 := k2.of_nil
  have e1 : p' = #[] := by cases p'; simp_all
  have e2 : q' = #[] := by cases q'; simp_all
  subst e1; subst e2
  have hvs2 : vs = #[.slice (some ⟨L.k b, 0, none⟩) n cap, .func (.func 61) #[] #[]] := by cases vs; simp_all
  subst hvs2
  obtain ⟨g1, g2, g3, c, e, hc, hs, hcell⟩ := hr.cells hD hg
  have hen : ∀ y : SE, y.enc.length = 2 := fun _ => rfl
  have hds : ds.toArray.size = n := by simpa using hn
  have hflat : ∀ (ds' : List SE) (j : Nat), j < ds'.length * 2 → ∃ y, ds'[j / 2]? = some y ∧ (flatK SE.enc 2 ds'.toArray)[j]! = (if j % 2 = 0 then Value.int .i64 y.1.1 else Value.int .i64 y.1.2) := by
    intro ds' j hj
    have hj2 : j / 2 < ds'.length := by omega
    refine ⟨ds'[j / 2], List.getElem?_eq_getElem hj2, ?_⟩
    rw [get_flatK _ _ _ _ (by simpa using hj)]
    have : ds'.toArray[j / 2]! = ds'[j / 2] := by simp [hj2]
    rw [this]
    unfold SE.enc
    rcases Nat.mod_two_eq_zero_or_one j with h | h <;> simp [h]
  have hH : HoldsK SE.enc 2 w (L.k b) 0 ds.toArray := by
    intro j hj
    rw [size_flatK, hds] at hj
    obtain ⟨v, q1, q2, q3⟩ := hcell j hj
    obtain ⟨y, q4, q5⟩ := hflat ds j (by rw [hn]; exact hj)
    have q3 : VR L w (f j) v := q3
    rw [hf j hj] at q3
    simp only [cellE, q4] at q3
    refine ⟨?_, by simp [World.frozen?, hc]⟩
    simp only [World.cell?, hc, Nat.zero_add, id_eq, q5]
    simp only [Option.isSome_none, Bool.false_eq_true, if_false, q1]
    split at q3
    · rename_i h; rw [if_pos h]; rw [q3.inv_int]
    · rename_i h; rw [if_neg h]; rw [q3.inv_int]
  have eg : ∀ args w, (callFunc 61 args).run Try.prog w = .ok (.enter 61 args) w := fun args w => callFunc_run (C := cx) (by kernel_rfl) args w
  have hcon := AnyQ.slices_SortFunc_total Try.sortE 2 Try.isAgg35 Try.sizeOf35 SE.enc hen (fun x v hv => by simp [SE.enc] at hv; rcases hv with rfl | rfl <;> rfl) cmpE swoE 61 #[] (L.k b) 0 cap ds.toArray w eg (cmpLays61 _ _ _ _) hH (hr.k_lt hD.1 hg) (by rw [hds]; exact hlt) antiE
  rw [hds] at hcon
  refine Calls.mono (P := Try.prog) hcon fun e' w' ⟨he, m, os, hw⟩ => ⟨_, he, ?_⟩
  have hsl : (sortL ds).length = n := by simp [sortL, hn]
  have hw1 : (putRowK SE.enc 2 (Sort.ahead w m) (L.k b) 0 (sortL ds).toArray).heap[L.k b]? = some (.cells (putCells id 0 (flatK SE.enc 2 (sortL ds).toArray) c) e (0, 0)) := by
    show (w.heap.modify (L.k b) (onCells _))[L.k b]? = _
    rw [Array.getElem?_modify, if_pos rfl, hc]
    rfl
  obtain ⟨r1, r2⟩ := hr.setObj (blk' := ⟨n * 2, cellE (sortL ds)⟩) (o' := .cells (putCells id 0 (flatK SE.enc 2 (sortL ds).toArray) c) e (0, 0)) (w' := putRowK SE.enc 2 (Sort.ahead w m) (L.k b) 0 (sortL ds).toArray) hD.1 hg (by
    rw [hD.2]
    refine ⟨by simp only; exact g3, _, e, rfl, by simp [putCells, hs], fun j hj => ?_⟩
    simp only at hj
    obtain ⟨y, q4, q5⟩ := hflat (sortL ds) j (by rw [hsl]; exact hj)
    have hjc : j < c.size := by have : n * 2 ≤ L.S b := g3; omega
    have hcv : (putCells id 0 (flatK SE.enc 2 (sortL ds).toArray) c)[j]? = some (if j % 2 = 0 then Value.int .i64 y.1.1 else Value.int .i64 y.1.2) := by
      simp only [putCells, Array.getElem?_mapIdx, Array.getElem?_eq_getElem hjc, Option.map_some, size_flatK, List.size_toArray, hsl, Nat.zero_le, true_and, Nat.zero_add, Nat.sub_zero, hj, if_true, id_eq, q5]
    simp only [cellE, q4]
    by_cases h : j % 2 = 0
    · rw [if_pos h] at hcv ⊢
      exact ⟨_, hcv, rfl, .int _ _⟩
    · rw [if_neg h] at hcv ⊢
      exact ⟨_, hcv, rfl, .int _ _⟩) hw1 (fun i hi => by
    show (w.heap.modify (L.k b) (onCells _))[i]? = _
    rw [Array.getElem?_modify, if_neg (Ne.symm hi)]) (by show (w.heap.modify _ _).size = _; simp) rfl rfl rfl
  obtain ⟨s1, s2⟩ := r1.grow os
  subst hw
  exact ⟨L, .tup [], _, ⟨rfl, rfl⟩, r2.trans s2 hr, s1, .tup _ _ rfl fun i c v e => by simp at e⟩
end Go.Fw.Sx
