import Derived.Test.YtjcplclbdanpgaaG8
namespace Go.Fw.Sx
open Go Go.Fw Go.Proofs
set_option maxRecDepth 100000
set_option linter.unusedSimpArgs false
set_option linter.unusedVariables false
def pet (i : Nat) : List (Int × Int) := (List.range i).flatMap fun (j : Nat) => [((j : Int), 5 + (j : Int)), (5 + (j : Int), 5 + ((j : Int) + 2).tmod 5)]
theorem pet_succ (i : Nat) : pet (i + 1) = pet i ++ [((i : Int), 5 + (i : Int))] ++ [(5 + (i : Int), 5 + ((i : Int) + 2).tmod 5)] := by simp [pet, List.range_succ]
theorem pet_length (i : Nat) : (pet i).length = 2 * i := by
  induction i with
  | zero => rfl
  | succ i ih => rw [pet_succ]; simp [ih]; omega
theorem petersenEdges_ct {base bp : Nat} {G : Heap} {n : Nat} {z : Nat → Int} (h : PS base G bp []) : Ct cx 54 [ints n z, toF bp] G fun _ G' => PSto base bp G (wayL 0 4 ++ [(4, 0)] ++ pet 5) G' := by
  refine Ct.start (fun _ => false) Try.func54 rfl (by kernel_rfl) (by kernel_rfl) fun R hR => ?_
  simp only [EV]
  refine Runs.seq ?_
  refine Runs.reg [1] (by kernel_rfl) fun kk hk oo ho => ?_
  clear ho
  simp +decide only [↓EV, EV, ty, ↓reduceIte, decide_true, decide_false, Int.cast_ofNat_Int]
  refine CallAt.rel (ring_ct (a := 0) (k := 4) h (by simp) (by omega) (by omega)) ?_
  intro r G1 h1
  simp +decide only [↓EV, EV, ty, ↓reduceIte, decide_true, decide_false, Int.cast_ofNat_Int]
  subst hk
  refine Runs.seq ?_
  refine Runs.reg [1, 7] (by kernel_rfl) fun kk hk oo ho => ?_
  clear ho
  simp +decide only [↓EV, EV, ty, ↓reduceIte, decide_true, decide_false, Int.cast_ofNat_Int]
  subst hk
  refine Runs.block ?_
  refine Runs.loop (fun m env G' => ∃ (i : Nat), m + i = 5 ∧ env = envL [(1, toF bp), (7, .int .i64 i)] ∧ PSto base bp G (wayL 0 4 ++ [(4, 0)] ++ pet i) G') 5 ⟨0, rfl, rfl, by simpa [pet] using h1⟩ ?_
  rintro m _ G2 ⟨i, hm, rfl, hi⟩ IH
  refine Runs.seq ?_
  refine Runs.reg [1, 7, 8] (by kernel_rfl) fun kk hk oo ho => ?_
  clear ho
  simp +decide only [↓EV, EV, ty, ↓reduceIte, decide_true, decide_false, Int.cast_ofNat_Int]
  subst hk
  refine Runs.seq ?_
  refine Runs.cond (by kernel_rfl) rfl (fun hc => ?_) (fun hc => ?_)
  · have hc' := ofB hc
    refine Runs.skip ?_
    refine Runs.seq ?_
    refine Runs.block ?_
    refine Runs.seq ?_
    refine Runs.reg [1, 4, 7] (by kernel_rfl) fun kk hk oo ho => ?_
    clear ho
    simp +decide only [↓EV, EV, ty, ↓reduceIte, decide_true, decide_false, Int.cast_ofNat_Int]
    subst hk
    refine Runs.seq ?_
    refine Runs.reg [1, 4, 7] (by kernel_rfl) fun kk hk oo ho => ?_
    clear ho
    simp +decide only [↓EV, EV, ty, ↓reduceIte, decide_true, decide_false, Int.cast_ofNat_Int]
    rw [i64s (by omega) (by omega)]
    refine CallAt.rel (to_ct hi.1 (by simp only [List.length_append, wayL_length, pet_length, List.length_cons, List.length_nil]; omega)) ?_
    intro r2 G3 h3
    simp +decide only [↓EV, EV, ty, ↓reduceIte, decide_true, decide_false, Int.cast_ofNat_Int]
    subst hk
    refine Runs.reg [1, 7] (by kernel_rfl) fun kk hk oo ho => ?_
    clear ho
    simp +decide only [↓EV, EV, ty, ↓reduceIte, decide_true, decide_false, Int.cast_ofNat_Int]
    have hm2 : 0 ≤ ((i : Int) + 2).tmod 5 ∧ ((i : Int) + 2).tmod 5 < 5 := ⟨Int.tmod_nonneg _ (by omega), Int.tmod_lt_of_pos _ (by omega)⟩
    rw [i64s (x := 5 + (i : Int)) (by omega) (by omega), i64s (x := (i : Int) + 2) (by omega) (by omega), i64s (x := 5 + ((i : Int) + 2).tmod 5) (by omega) (by omega)]
    refine CallAt.rel (to_ct h3.1 (by simp only [List.length_append, wayL_length, pet_length, List.length_cons, List.length_nil]; omega)) ?_
    intro r3 G4 h4
    simp +decide only [↓EV, EV, ty, ↓reduceIte, decide_true, decide_false, Int.cast_ofNat_Int]
    subst hk
    refine Runs.inBlock ?_
    refine Runs.reg [1, 7] (by kernel_rfl) fun kk hk oo ho => ?_
    clear ho
    simp +decide only [↓EV, EV, ty, ↓reduceIte, decide_true, decide_false, Int.cast_ofNat_Int]
    subst hk
    rw [i64s (by omega) (by omega)]
    refine IH (m - 1) _ _ (by omega) ⟨i + 1, by omega, rfl, ?_⟩
    have := (hi.trans h3).trans h4
    rw [pet_succ]
    simpa only [List.append_assoc] using this
  · have hc' := ofNB hc
    refine Runs.exit rfl ?_
    refine Runs.finL [] (by kernel_rfl) (by kernel_rfl) ?_
    simp +decide only [↓EV, EV, ty, ↓reduceIte, decide_true, decide_false, Int.cast_ofNat_Int]
    subst hR
    have : i = 5 := by omega
    subst this
    exact hi
end Go.Fw.Sx
