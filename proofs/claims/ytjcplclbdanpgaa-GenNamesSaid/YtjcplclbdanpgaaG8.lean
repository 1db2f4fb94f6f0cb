import Derived.Test.YtjcplclbdanpgaaG7
namespace Go.Fw.Sx
open Go Go.Fw Go.Proofs
set_option maxRecDepth 100000
set_option linter.unusedSimpArgs false
set_option linter.unusedVariables false
theorem Fz.two {G : Heap} {n : Nat} {a b : AV} (h1 : Sx.plain a = true) (h2 : Sx.plain b = true) : Fz G n (.tup [a, b]) (.tup [a, b]) := by
  refine .tup _ _ rfl fun i c d k1 k2 => ?_
  rw [k1] at k2; injection k2 with k2; subst k2
  match i, k1 with
  | 0, k1 => injection k1 with k1; subst k1; exact Fz.plain h1
  | 1, k1 => injection k1 with k1; subst k1; exact Fz.plain h2
theorem completeSize_cp {z : Nat → Int} (hz : z 0 = 2897) : ∀ G, Cp cx 25 [ints 1 z] G (.tup [.int .i64 2897, .int .i64 4194856]) := by
  refine Cp.intro fun n0 => ?_
  refine Ct.start (fun _ => false) Try.func25 rfl (by kernel_rfl) (by kernel_rfl) fun R hR => ?_
  simp only [EV]
  refine Runs.seq ?_
  refine Runs.reg [0] (by kernel_rfl) fun kk hk oo ho => ?_
  clear ho
  simp +decide only [↓EV, EV, ty, ↓reduceIte, decide_true, decide_false, Int.cast_ofNat_Int]
  subst hk
  refine Runs.seq ?_
  refine Runs.drawN [2, 3] [] 14 (by kernel_rfl) (by kernel_rfl) (by kernel_rfl) fun kk hk oo ho => ?_
  clear ho
  simp +decide only [↓EV, EV, ty, ↓reduceIte, decide_true, decide_false, Int.cast_ofNat_Int, hz]
  subst hk
  refine Runs.retL [.tmp 2, .tmp 3] (by kernel_rfl) (by kernel_rfl) ?_
  simp +decide only [↓EV, EV, ty, ↓reduceIte, decide_true, decide_false, Int.cast_ofNat_Int]
  subst hR
  exact Fz.two (a := .int .i64 2897) (b := .int .i64 4194856) rfl rfl
theorem bipartiteSize_cp {z : Nat → Int} (hz : z 0 = 2049) (hz1 : z 1 = 2049) : ∀ G, Cp cx 27 [ints 2 z] G (.tup [.int .i64 4098, .int .i64 4198401]) := by
  refine Cp.intro fun n0 => ?_
  refine Ct.start (fun _ => false) Try.func27 rfl (by kernel_rfl) (by kernel_rfl) fun R hR => ?_
  simp only [EV]
  refine Runs.seq ?_
  refine Runs.reg [0] (by kernel_rfl) fun kk hk oo ho => ?_
  clear ho
  simp +decide only [↓EV, EV, ty, ↓reduceIte, decide_true, decide_false, Int.cast_ofNat_Int]
  subst hk
  refine Runs.seq ?_
  refine Runs.drawN [2, 3] [] 16 (by kernel_rfl) (by kernel_rfl) (by kernel_rfl) fun kk hk oo ho => ?_
  clear ho
  simp +decide only [↓EV, EV, ty, ↓reduceIte, decide_true, decide_false, Int.cast_ofNat_Int, hz, hz1]
  subst hk
  refine Runs.retL [.tmp 2, .tmp 3] (by kernel_rfl) (by kernel_rfl) ?_
  simp +decide only [↓EV, EV, ty, ↓reduceIte, decide_true, decide_false, Int.cast_ofNat_Int]
  subst hR
  exact Fz.two (a := .int .i64 4098) (b := .int .i64 4198401) rfl rfl
theorem petersenSize_cp {n : Nat} {z : Nat → Int} : ∀ G, Cp cx 53 [ints n z] G (.tup [.int .i64 10, .int .i64 15]) := by
  refine Cp.intro fun n0 => ?_
  refine Ct.start (fun _ => false) Try.func53 rfl (by kernel_rfl) (by kernel_rfl) fun R hR => ?_
  simp only [EV]
  refine Runs.seq ?_
  refine Runs.reg [0] (by kernel_rfl) fun kk hk oo ho => ?_
  clear ho
  simp +decide only [↓EV, EV, ty, ↓reduceIte, decide_true, decide_false, Int.cast_ofNat_Int]
  subst hk
  refine Runs.seq ?_
  refine Runs.reg [2, 3] (by kernel_rfl) fun kk hk oo ho => ?_
  clear ho
  simp +decide only [↓EV, EV, ty, ↓reduceIte, decide_true, decide_false, Int.cast_ofNat_Int]
  subst hk
  refine Runs.retL [.tmp 2, .tmp 3] (by kernel_rfl) (by kernel_rfl) ?_
  simp +decide only [↓EV, EV, ty, ↓reduceIte, decide_true, decide_false, Int.cast_ofNat_Int]
  subst hR
  exact Fz.two rfl rfl
theorem stackedSize_cp {n : Nat} {z : Nat → Int} (hn : n ≤ 1000000) : ∀ G, Cp cx 55 [ints n z] G (.tup [.int .i64 (3 + n), .int .i64 (3 + 3 * n)]) := by
  refine Cp.intro fun n0 => ?_
  refine Ct.start (fun _ => false) Try.func55 rfl (by kernel_rfl) (by kernel_rfl) fun R hR => ?_
  simp only [EV]
  refine Runs.seq ?_
  refine Runs.reg [0] (by kernel_rfl) fun kk hk oo ho => ?_
  clear ho
  simp +decide only [↓EV, EV, ty, ↓reduceIte, decide_true, decide_false, Int.cast_ofNat_Int]
  subst hk
  refine Runs.seq ?_
  refine Runs.reg [2, 3] (by kernel_rfl) fun kk hk oo ho => ?_
  clear ho
  simp +decide only [↓EV, EV, ty, ↓reduceIte, decide_true, decide_false, Int.cast_ofNat_Int]
  subst hk
  refine Runs.retL [.tmp 2, .tmp 3] (by kernel_rfl) (by kernel_rfl) ?_
  simp +decide only [↓EV, EV, ty, ↓reduceIte, decide_true, decide_false, Int.cast_ofNat_Int]
  subst hR
  rw [i64s (x := 3 + (n : Int)) (by omega) (by omega), i64s (x := 3 * (n : Int)) (by omega) (by omega), i64s (x := 3 + 3 * (n : Int)) (by omega) (by omega)]
  exact Fz.two rfl rfl
end Go.Fw.Sx
