import Derived.Test.YtjcplclbdanpgaaG5
namespace Go.Fw.Sx
open Go Go.Fw Go.Proofs
set_option maxRecDepth 100000
set_option linter.unusedSimpArgs false
set_option linter.unusedVariables false
def wayL (a : Int) (k : Nat) : List (Int × Int) := (List.range k).map fun (j : Nat) => (a + (j : Int), a + (j : Int) + 1)
theorem wayL_succ (a : Int) (k : Nat) : wayL a (k + 1) = wayL a k ++ [(a + (k : Int), a + (k : Int) + 1)] := by simp [wayL, List.range_succ]
theorem wayL_length (a : Int) (k : Nat) : (wayL a k).length = k := by simp [wayL]
def starL (k : Nat) : List (Int × Int) := (List.range k).map fun (j : Nat) => ((0 : Int), (j : Int) + 1)
theorem starL_succ (k : Nat) : starL (k + 1) = starL k ++ [(0, (k : Int) + 1)] := by simp [starL, List.range_succ]
theorem starL_length (k : Nat) : (starL k).length = k := by simp [starL]
theorem PSto.trans {base bp : Nat} {G G1 G2 : Heap} {p q : List (Int × Int)} (h : PSto base bp G p G1) (k : PSto base bp G1 q G2) : PSto base bp G q G2 :=
  ⟨k.1, fun b hb hn => (k.2 b hb hn).trans (h.2 b hb hn)⟩
abbrev toF (bp : Nat) : AV := .fn 11 [] [.ptr bp 0]
theorem way_ct {base bp : Nat} {G : Heap} {ps : List (Int × Int)} {a : Int} {k : Nat} (h : PS base G bp ps) (hlen : ps.length + k ≤ 1000000000) (ha : 0 ≤ a) (ha2 : a ≤ 1000000000) : Ct cx 18 [.int .i64 a, .int .i64 (a + k), toF bp] G fun _ G' => PSto base bp G (ps ++ wayL a k) G' := by
  refine Ct.start (fun _ => false) Try.func18 rfl (by kernel_rfl) (by kernel_rfl) fun R hR => ?_
  simp only [EV]
  refine Runs.seq ?_
  refine Runs.reg [1, 2, 6] (by kernel_rfl) fun kk hk oo ho => ?_
  clear ho
  simp +decide only [↓EV, EV, ty, ↓reduceIte, decide_true, decide_false, Int.cast_ofNat_Int]
  subst hk
  refine Runs.block ?_
  refine Runs.loop (fun m env G' => ∃ (i : Nat), m + i = k ∧ env = envL [(1, .int .i64 (a + k)), (2, toF bp), (6, .int .i64 (a + i))] ∧ PSto base bp G (ps ++ wayL a i) G') k ⟨0, rfl, by simp, by simpa [wayL] using ⟨h, fun _ _ _ => rfl⟩⟩ ?_
  rintro m _ G1 ⟨i, hm, rfl, hi⟩ IH
  refine Runs.seq ?_
  refine Runs.seq ?_
  refine Runs.reg [1, 2, 6, 10] (by kernel_rfl) fun kk hk oo ho => ?_
  clear ho
  simp +decide only [↓EV, EV, ty, ↓reduceIte, decide_true, decide_false, Int.cast_ofNat_Int]
  subst hk
  refine Runs.cond (by kernel_rfl) rfl (fun hc => ?_) (fun hc => ?_)
  · have hc' := ofB hc
    refine Runs.skip ?_
    refine Runs.seq ?_
    refine Runs.block ?_
    refine Runs.reg [1, 2, 6] (by kernel_rfl) fun kk hk oo ho => ?_
    clear ho
    simp +decide only [↓EV, EV, ty, ↓reduceIte, decide_true, decide_false, Int.cast_ofNat_Int]
    rw [i64s (by omega) (by omega)]
    refine CallAt.rel (to_ct hi.1 (by rw [List.length_append, wayL_length]; omega)) ?_
    intro r G2 h2
    simp +decide only [↓EV, EV, ty, ↓reduceIte, decide_true, decide_false, Int.cast_ofNat_Int]
    subst hk
    refine Runs.inBlock ?_
    refine Runs.reg [1, 2, 6] (by kernel_rfl) fun kk hk oo ho => ?_
    clear ho
    simp +decide only [↓EV, EV, ty, ↓reduceIte, decide_true, decide_false, Int.cast_ofNat_Int]
    subst hk
    rw [i64s (by omega) (by omega)]
    refine IH (m - 1) _ _ (by omega) ⟨i + 1, by omega, by rw [show a + (i : Int) + 1 = a + ((i + 1 : Nat) : Int) from by omega], ?_⟩
    have := hi.trans h2
    rwa [List.append_assoc, ← wayL_succ] at this
  · have hc' := ofNB hc
    refine Runs.exit rfl ?_
    refine Runs.finL [] (by kernel_rfl) (by kernel_rfl) ?_
    simp +decide only [↓EV, EV, ty, ↓reduceIte, decide_true, decide_false, Int.cast_ofNat_Int]
    subst hR
    have : i = k := by omega
    subst this
    exact hi
theorem ring_ct {base bp : Nat} {G : Heap} {ps : List (Int × Int)} {a : Int} {k : Nat} (h : PS base G bp ps) (hlen : ps.length + k + 1 ≤ 1000000000) (ha : 0 ≤ a) (ha2 : a ≤ 1000000000) : Ct cx 21 [.int .i64 a, .int .i64 (a + k), toF bp] G fun _ G' => PSto base bp G (ps ++ wayL a k ++ [(a + k, a)]) G' := by
  refine Ct.start (fun _ => false) Try.func21 rfl (by kernel_rfl) (by kernel_rfl) fun R hR => ?_
  simp only [EV]
  refine Runs.seq ?_
  refine Runs.reg [0, 1, 2] (by kernel_rfl) fun kk hk oo ho => ?_
  clear ho
  simp +decide only [↓EV, EV, ty, ↓reduceIte, decide_true, decide_false, Int.cast_ofNat_Int]
  refine CallAt.rel (way_ct h (by omega) ha ha2) ?_
  intro r G1 h1
  simp +decide only [↓EV, EV, ty, ↓reduceIte, decide_true, decide_false, Int.cast_ofNat_Int]
  subst hk
  refine Runs.reg [] (by kernel_rfl) fun kk hk oo ho => ?_
  clear ho
  simp +decide only [↓EV, EV, ty, ↓reduceIte, decide_true, decide_false, Int.cast_ofNat_Int]
  refine CallAt.rel (to_ct h1.1 (by rw [List.length_append, wayL_length]; omega)) ?_
  intro r G2 h2
  simp +decide only [↓EV, EV, ty, ↓reduceIte, decide_true, decide_false, Int.cast_ofNat_Int]
  subst hk
  refine Runs.finL [] (by kernel_rfl) (by kernel_rfl) ?_
  simp +decide only [↓EV, EV, ty, ↓reduceIte, decide_true, decide_false, Int.cast_ofNat_Int]
  subst hR
  exact h1.trans h2
end Go.Fw.Sx
