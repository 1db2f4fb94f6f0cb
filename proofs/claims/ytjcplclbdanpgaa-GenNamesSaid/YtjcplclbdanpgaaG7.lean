import Derived.Test.YtjcplclbdanpgaaG6
namespace Go.Fw.Sx
open Go Go.Fw Go.Proofs
set_option maxRecDepth 100000
set_option linter.unusedSimpArgs false
set_option linter.unusedVariables false
theorem star_ct {base bp : Nat} {G : Heap} {ps : List (Int × Int)} {k : Nat} (h : PS base G bp ps) (hlen : ps.length + k ≤ 1000000000) : Ct cx 24 [.int .i64 k, toF bp] G fun _ G' => PSto base bp G (ps ++ starL k) G' := by
  refine Ct.start (fun _ => false) Try.func24 rfl (by kernel_rfl) (by kernel_rfl) fun R hR => ?_
  simp only [EV]
  refine Runs.seq ?_
  refine Runs.reg [1, 5, 6] (by kernel_rfl) fun kk hk oo ho => ?_
  clear ho
  simp +decide only [↓EV, EV, ty, ↓reduceIte, decide_true, decide_false, Int.cast_ofNat_Int]
  subst hk
  refine Runs.block ?_
  refine Runs.loop (fun m env G' => ∃ (i : Nat), m + i = k ∧ env = envL [(1, toF bp), (5, .int .i64 k), (6, .int .i64 i)] ∧ PSto base bp G (ps ++ starL i) G') k ⟨0, rfl, rfl, by simpa [starL] using ⟨h, fun _ _ _ => rfl⟩⟩ ?_
  rintro m _ G1 ⟨i, hm, rfl, hi⟩ IH
  refine Runs.seq ?_
  refine Runs.reg [1, 5, 6, 7] (by kernel_rfl) fun kk hk oo ho => ?_
  clear ho
  simp +decide only [↓EV, EV, ty, ↓reduceIte, decide_true, decide_false, Int.cast_ofNat_Int]
  subst hk
  refine Runs.seq ?_
  refine Runs.cond (by kernel_rfl) rfl (fun hc => ?_) (fun hc => ?_)
  · have hc' := ofB hc
    refine Runs.skip ?_
    refine Runs.seq ?_
    refine Runs.block ?_
    refine Runs.seq ?_
    refine Runs.reg [1, 4, 5, 6] (by kernel_rfl) fun kk hk oo ho => ?_
    clear ho
    simp +decide only [↓EV, EV, ty, ↓reduceIte, decide_true, decide_false, Int.cast_ofNat_Int]
    subst hk
    refine Runs.reg [1, 5, 6] (by kernel_rfl) fun kk hk oo ho => ?_
    clear ho
    simp +decide only [↓EV, EV, ty, ↓reduceIte, decide_true, decide_false, Int.cast_ofNat_Int]
    rw [i64s (by omega) (by omega)]
    refine CallAt.rel (to_ct hi.1 (by rw [List.length_append, starL_length]; omega)) ?_
    intro r G2 h2
    simp +decide only [↓EV, EV, ty, ↓reduceIte, decide_true, decide_false, Int.cast_ofNat_Int]
    subst hk
    refine Runs.inBlock ?_
    refine Runs.reg [1, 5, 6] (by kernel_rfl) fun kk hk oo ho => ?_
    clear ho
    simp +decide only [↓EV, EV, ty, ↓reduceIte, decide_true, decide_false, Int.cast_ofNat_Int]
    subst hk
    rw [i64s (by omega) (by omega)]
    refine IH (m - 1) _ _ (by omega) ⟨i + 1, by omega, rfl, ?_⟩
    have := hi.trans h2
    rwa [List.append_assoc, ← starL_succ] at this
  · have hc' := ofNB hc
    refine Runs.exit rfl ?_
    refine Runs.finL [] (by kernel_rfl) (by kernel_rfl) ?_
    simp +decide only [↓EV, EV, ty, ↓reduceIte, decide_true, decide_false, Int.cast_ofNat_Int]
    subst hR
    have : i = k := by omega
    subst this
    exact hi
theorem wheelSize_cp {z : Nat → Int} (h0 : 0 ≤ z 0) (h1 : z 0 ≤ 1000000000) : ∀ G, Cp cx 34 [ints 1 z] G (.tup [.int .i64 (z 0 + 1), .int .i64 (2 * z 0)]) := by
  refine Cp.intro fun n0 => ?_
  refine Ct.start (fun _ => false) Try.func34 rfl (by kernel_rfl) (by kernel_rfl) fun R hR => ?_
  simp only [EV]
  refine Runs.seq ?_
  refine Runs.reg [0] (by kernel_rfl) fun kk hk oo ho => ?_
  clear ho
  simp +decide only [↓EV, EV, ty, ↓reduceIte, decide_true, decide_false, Int.cast_ofNat_Int]
  subst hk
  refine Runs.seq ?_
  refine Runs.drawN [2, 3] [] 10 (by kernel_rfl) (by kernel_rfl) (by kernel_rfl) fun kk hk oo ho => ?_
  clear ho
  simp +decide only [↓EV, EV, ty, ↓reduceIte, decide_true, decide_false, Int.cast_ofNat_Int]
  subst hk
  refine Runs.retL [.tmp 2, .tmp 3] (by kernel_rfl) (by kernel_rfl) ?_
  simp +decide only [↓EV, EV, ty, ↓reduceIte, decide_true, decide_false, Int.cast_ofNat_Int]
  subst hR
  rw [i64s (by omega) (by omega), i64s (by omega) (by omega)]
  refine .tup _ _ rfl fun i c d h1 h2 => ?_
  rw [h1] at h2; injection h2 with h2; subst h2
  match i, h1 with
  | 0, h1 => injection h1 with h1; subst h1; exact .int _ _
  | 1, h1 => injection h1 with h1; subst h1; exact .int _ _
theorem wheelEdges_ct {base bp : Nat} {G : Heap} {z : Nat → Int} {k : Nat} (h : PS base G bp []) (hz : z 0 = k) (hk : 1 ≤ k) (hk2 : k ≤ 1000000) : Ct cx 35 [ints 1 z, toF bp] G fun _ G' => PSto base bp G (starL k ++ wayL 1 (k - 1) ++ [((k : Int), 1)]) G' := by
  refine Ct.start (fun _ => false) Try.func35 rfl (by kernel_rfl) (by kernel_rfl) fun R hR => ?_
  simp only [EV]
  refine Runs.seq ?_
  refine Runs.reg [0, 1] (by kernel_rfl) fun kk hkk oo ho => ?_
  clear ho
  simp +decide only [↓EV, EV, ty, ↓reduceIte, decide_true, decide_false, Int.cast_ofNat_Int, hz]
  refine CallAt.rel (star_ct h (by simp; omega)) ?_
  intro r G1 h1
  simp +decide only [↓EV, EV, ty, ↓reduceIte, decide_true, decide_false, Int.cast_ofNat_Int]
  subst hkk
  refine Runs.reg [] (by kernel_rfl) fun kk hkk oo ho => ?_
  clear ho
  simp +decide only [↓EV, EV, ty, ↓reduceIte, decide_true, decide_false, Int.cast_ofNat_Int, hz]
  rw [show (k : Int) = 1 + ((k - 1 : Nat) : Int) from by omega]
  refine CallAt.rel (ring_ct h1.1 (by rw [List.nil_append, starL_length]; omega) (by omega) (by omega)) ?_
  intro r G2 h2
  simp +decide only [↓EV, EV, ty, ↓reduceIte, decide_true, decide_false, Int.cast_ofNat_Int]
  subst hkk
  refine Runs.finL [] (by kernel_rfl) (by kernel_rfl) ?_
  simp +decide only [↓EV, EV, ty, ↓reduceIte, decide_true, decide_false, Int.cast_ofNat_Int]
  subst hR
  have := h1.trans h2
  rw [List.nil_append, show 1 + ((k - 1 : Nat) : Int) = (k : Int) from by omega] at this
  exact this
end Go.Fw.Sx
