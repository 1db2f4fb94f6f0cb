import Derived.Test.YtjcplclbdanpgaaG2
namespace Go.Fw.Sx
open Go Go.Fw Go.Proofs
set_option maxRecDepth 100000
set_option linter.unusedSimpArgs false
set_option linter.unusedVariables false
theorem ofB {p : Prop} [Decidable p] (h : decide p = true) : p := of_decide_eq_true h
theorem ofNB {p : Prop} [Decidable p] (h : decide p = false) : ¬ p := of_decide_eq_false h
theorem takesF_cp {nm : ByteArray} {k : Nat} {g : Nat → List AV} {lo hi : Nat → Int} {sz ed : FuncId} {n : Nat} {z : Nat → Int} {v e : Int} {res : Bool} (hg : ∀ i, i < k → g i = [.int .i64 (lo i), .int .i64 (hi i)]) (hn : n ≤ 9223372036854775807)
    (hcall : n = k → (∀ i, i < n → lo i ≤ z i ∧ z i ≤ hi i) → ∀ G, Cp cx sz [ints n z] G (.tup [.int .i64 v, .int .i64 e]))
    (h1 : n ≠ k → res = false) (h2 : n = k → ∀ i, i < n → ¬ (lo i ≤ z i ∧ z i ≤ hi i) → res = false) (h3 : n = k → (∀ i, i < n → lo i ≤ z i ∧ z i ≤ hi i) → res = decide (v ≤ 1048576 ∧ e ≤ 4194304)) :
    ∀ G, Cp cx 10 [.agg [.str nm, .bool false, .lst 2 k g, .fn sz [] [], .fn ed [] []], ints n z] G (.bool res) := by
  refine Cp.intro fun n0 => ?_
  refine Ct.start (fun _ => false) Try.func10 rfl (by kernel_rfl) (by kernel_rfl) fun R hR => ?_
  simp only [EV]
  refine Runs.seq ?_
  -- region 0 gen.go:201 box@2
  refine Runs.reg [1, 2] (by kernel_rfl) fun kk hk oo ho => ?_
  clear ho
  simp +decide only [↓EV, EV, ty, ↓reduceIte, decide_true, decide_false, Int.cast_ofNat_Int]
  subst hk
  refine Runs.seq ?_
  refine Runs.seq ?_
  -- region 1 gen.go:202 
  refine Runs.reg [1, 2, 20] (by kernel_rfl) fun kk hk oo ho => ?_
  have g3 : (oo[3]?).bind (·.dst) = some 13 := by subst ho; rfl
  clear ho
  simp +decide only [↓EV, EV, ty, ↓reduceIte, decide_true, decide_false, Int.cast_ofNat_Int, g3]
  subst hk
  refine Runs.cond (by kernel_rfl) rfl (fun hc => ?_) (fun hc => ?_)
  · refine Runs.seq ?_
    refine Runs.reg [4] (by kernel_rfl) fun kk hk oo ho => ?_
    clear ho
    simp +decide only [↓EV, EV, ty, ↓reduceIte, decide_true, decide_false, Int.cast_ofNat_Int]
    subst hk
    refine Runs.retL [.tmp 4] (by kernel_rfl) (by kernel_rfl) ?_
    simp +decide only [↓EV, EV, ty, ↓reduceIte, decide_true, decide_false, Int.cast_ofNat_Int]
    subst hR
    rw [h1 (by intro h; simp [h] at hc)]
    exact .bool _
  · have hnk : n = k := by
      have := hc
      simp at this
      omega
    refine Runs.skip ?_
    refine Runs.seq ?_
    refine Runs.seq ?_
    refine Runs.reg [1, 2, 21, 22, 23] (by kernel_rfl) fun kk hk oo ho => ?_
    clear ho
    simp +decide only [↓EV, EV, ty, ↓reduceIte, decide_true, decide_false, Int.cast_ofNat_Int]
    subst hk
    refine Runs.block ?_
    refine Runs.loop (fun m env G => ∃ (i : Nat), m + i = n ∧ env = envL [(1, ints n z), (2, .ref [.str nm, .bool false, .lst 2 k g, .fn sz [] [], .fn ed [] []]), (21, ints n z), (22, .int .i64 n), (23, .int .i64 i)] ∧ ∀ j, j < i → lo j ≤ z j ∧ z j ≤ hi j) n ⟨0, rfl, rfl, fun j hj => by omega⟩ ?_
    rintro m _ G ⟨i, hm, rfl, hin⟩ IH
    refine Runs.seq ?_
    refine Runs.reg [1, 2, 21, 22, 23, 24] (by kernel_rfl) fun kk hk oo ho => ?_
    clear ho
    simp +decide only [↓EV, EV, ty, ↓reduceIte, decide_true, decide_false, Int.cast_ofNat_Int]
    subst hk
    refine Runs.seq ?_
    refine Runs.cond (by kernel_rfl) rfl (fun hc => ?_) (fun hc => ?_)
    · have hc' := ofB hc
      refine Runs.skip ?_
      refine Runs.seq ?_
      refine Runs.block ?_
      refine Runs.seq ?_
      refine Runs.reg [1, 2, 5, 6, 21, 22, 23] (by kernel_rfl) fun kk hk oo ho => ?_
      clear ho
      simp +decide only [↓EV, EV, ty, ↓reduceIte, decide_true, decide_false, Int.cast_ofNat_Int]
      refine ⟨by omega, ?_⟩
      subst hk
      refine Runs.seq ?_
      refine Runs.reg [1, 2, 5, 6, 7, 21, 22, 23] (by kernel_rfl) fun kk hk oo ho => ?_
      clear ho
      simp +decide only [↓EV, EV, ty, ↓reduceIte, decide_true, decide_false, Int.cast_ofNat_Int, hg 0 (by omega)]
      refine ⟨by omega, ?_⟩
      subst hk
      refine Runs.seq ?_
      refine Runs.seq ?_
      refine Runs.reg [1, 2, 5, 6, 7, 21, 22, 23, 34] (by kernel_rfl) fun kk hk oo ho => ?_
      clear ho
      simp +decide only [↓EV, EV, ty, ↓reduceIte, decide_true, decide_false, Int.cast_ofNat_Int]
      subst hk
      refine Runs.cond (by kernel_rfl) rfl (fun hc => ?_) (fun hc => ?_)
      · refine Runs.reg [1, 2, 6, 7, 21, 22, 23] (by kernel_rfl) fun kk hk oo ho => ?_
        clear ho
        simp +decide only [↓EV, EV, ty, ↓reduceIte, decide_true, decide_false, Int.cast_ofNat_Int, hg i (by omega)]
        refine ⟨by omega, ?_⟩
        subst hk
        refine Runs.seq ?_
        by_cases hl : z i < lo i
        · have hx : ¬ (lo i ≤ z i ∧ z i ≤ hi i) := by omega
          refine Runs.reg [1, 2, 21, 22, 23, 49] (by kernel_rfl) fun kk hk oo ho => ?_
          have g4 : (oo[4]?).bind (·.dst) = some 44 := by subst ho; rfl
          clear ho
          simp +decide only [↓EV, EV, ty, ↓reduceIte, decide_true, decide_false, Int.cast_ofNat_Int, g4, hl, hl]
          subst hk
          refine Runs.cond (by kernel_rfl) rfl (fun hc => ?_) (fun hc => ?_)
          · refine Runs.seq ?_
            refine Runs.reg [4] (by kernel_rfl) fun kk hk oo ho => ?_
            clear ho
            simp +decide only [↓EV, EV, ty, ↓reduceIte, decide_true, decide_false, Int.cast_ofNat_Int]
            subst hk
            refine Runs.retL [.tmp 4] (by kernel_rfl) (by kernel_rfl) ?_
            simp +decide only [↓EV, EV, ty, ↓reduceIte, decide_true, decide_false, Int.cast_ofNat_Int]
            subst hR
            rw [h2 hnk i (by omega) hx]
            exact .bool _
          · cases hc
        · by_cases hh : z i > hi i
          · have hx : ¬ (lo i ≤ z i ∧ z i ≤ hi i) := by omega
            refine Runs.reg [1, 2, 21, 22, 23, 49] (by kernel_rfl) fun kk hk oo ho => ?_
            have g4 : (oo[4]?).bind (·.dst) = some 44 := by subst ho; rfl
            clear ho
            simp +decide only [↓EV, EV, ty, ↓reduceIte, decide_true, decide_false, Int.cast_ofNat_Int, g4, hl, hh]
            subst hk
            refine Runs.cond (by kernel_rfl) rfl (fun hc => ?_) (fun hc => ?_)
            · refine Runs.seq ?_
              refine Runs.reg [4] (by kernel_rfl) fun kk hk oo ho => ?_
              clear ho
              simp +decide only [↓EV, EV, ty, ↓reduceIte, decide_true, decide_false, Int.cast_ofNat_Int]
              subst hk
              refine Runs.retL [.tmp 4] (by kernel_rfl) (by kernel_rfl) ?_
              simp +decide only [↓EV, EV, ty, ↓reduceIte, decide_true, decide_false, Int.cast_ofNat_Int]
              subst hR
              rw [h2 hnk i (by omega) hx]
              exact .bool _
            · cases hc
          · refine Runs.reg [1, 2, 21, 22, 23, 49] (by kernel_rfl) fun kk hk oo ho => ?_
            have g4 : (oo[4]?).bind (·.dst) = some 44 := by subst ho; rfl
            clear ho
            simp +decide only [↓EV, EV, ty, ↓reduceIte, decide_true, decide_false, Int.cast_ofNat_Int, g4, hl, hh]
            subst hk
            refine Runs.cond (by kernel_rfl) rfl (fun hc => ?_) (fun hc => ?_)
            · cases hc
            · refine Runs.skip ?_
              refine Runs.inBlock ?_
              refine Runs.reg [1, 2, 21, 22, 23] (by kernel_rfl) fun kk hk oo ho => ?_
              clear ho
              simp +decide only [↓EV, EV, ty, ↓reduceIte, decide_true, decide_false, Int.cast_ofNat_Int]
              subst hk
              rw [i64s (by omega) (by omega)]
              exact IH (m - 1) _ _ (by omega) ⟨i + 1, by omega, rfl, fun j hj => by
                rcases Nat.lt_or_ge j i with h | h
                · exact hin j h
                · have : j = i := by omega
                  subst this; exact ⟨by omega, by omega⟩⟩
      · cases hc

    · have hc' := ofNB hc
      refine Runs.exit rfl ?_
      refine Runs.seq ?_
      refine Runs.reg [8, 9] (by kernel_rfl) fun kk hk oo ho => ?_
      clear ho
      simp +decide only [↓EV, EV, ty, ↓reduceIte, decide_true, decide_false, Int.cast_ofNat_Int]
      refine CallAt.pure (hcall hnk (fun i hi => hin i (by omega)) _) ?_
      simp +decide only [↓EV, EV, ty, ↓reduceIte, decide_true, decide_false, Int.cast_ofNat_Int]
      subst hk
      refine Runs.seq ?_
      by_cases hv : v ≤ 1048576
      · refine Runs.reg [4] (by kernel_rfl) fun kk hk oo ho => ?_
        have g2 : (oo[2]?).bind (·.dst) = some 60 := by subst ho; rfl
        clear ho
        simp +decide only [↓EV, EV, ty, ↓reduceIte, decide_true, decide_false, Int.cast_ofNat_Int, g2, hv]
        subst hk
        refine Runs.retL [.tmp 4] (by kernel_rfl) (by kernel_rfl) ?_
        simp +decide only [↓EV, EV, ty, ↓reduceIte, decide_true, decide_false, Int.cast_ofNat_Int]
        subst hR
        rw [h3 hnk (fun i hi => hin i (by omega))]
        simp only [hv, true_and, false_and, decide_false]
        exact .bool _
      · refine Runs.reg [4] (by kernel_rfl) fun kk hk oo ho => ?_
        have g2 : (oo[2]?).bind (·.dst) = some 60 := by subst ho; rfl
        clear ho
        simp +decide only [↓EV, EV, ty, ↓reduceIte, decide_true, decide_false, Int.cast_ofNat_Int, g2, hv]
        subst hk
        refine Runs.retL [.tmp 4] (by kernel_rfl) (by kernel_rfl) ?_
        simp +decide only [↓EV, EV, ty, ↓reduceIte, decide_true, decide_false, Int.cast_ofNat_Int]
        subst hR
        rw [h3 hnk (fun i hi => hin i (by omega))]
        simp only [hv, true_and, false_and, decide_false]
        exact .bool _

theorem takesT_cp {nm : ByteArray} {k : Nat} {g : Nat → List AV} {lo hi : Nat → Int} {sz ed : FuncId} {n : Nat} {z : Nat → Int} {v e : Int} {res : Bool} (hg : ∀ i, i < k → g i = [.int .i64 (lo i), .int .i64 (hi i)]) (hn : n ≤ 9223372036854775807)
    (hk0 : 0 < k) (hcall : (∀ i, i < n → lo 0 ≤ z i ∧ z i ≤ hi 0) → ∀ G, Cp cx sz [ints n z] G (.tup [.int .i64 v, .int .i64 e]))
    (h2 : ∀ i, i < n → ¬ (lo 0 ≤ z i ∧ z i ≤ hi 0) → res = false) (h3 : (∀ i, i < n → lo 0 ≤ z i ∧ z i ≤ hi 0) → res = decide (v ≤ 1048576 ∧ e ≤ 4194304)) :
    ∀ G, Cp cx 10 [.agg [.str nm, .bool true, .lst 2 k g, .fn sz [] [], .fn ed [] []], ints n z] G (.bool res) := by
  refine Cp.intro fun n0 => ?_
  refine Ct.start (fun _ => false) Try.func10 rfl (by kernel_rfl) (by kernel_rfl) fun R hR => ?_
  simp only [EV]
  refine Runs.seq ?_
  -- region 0 gen.go:201 box@2
  refine Runs.reg [1, 2] (by kernel_rfl) fun kk hk oo ho => ?_
  clear ho
  simp +decide only [↓EV, EV, ty, ↓reduceIte, decide_true, decide_false, Int.cast_ofNat_Int]
  subst hk
  refine Runs.seq ?_
  refine Runs.seq ?_
  -- region 1 gen.go:202 
  refine Runs.reg [1, 2, 20] (by kernel_rfl) fun kk hk oo ho => ?_
  have g3 : (oo[3]?).bind (·.dst) = some 13 := by subst ho; rfl
  clear ho
  simp +decide only [↓EV, EV, ty, ↓reduceIte, decide_true, decide_false, Int.cast_ofNat_Int, g3]
  subst hk
  refine Runs.cond (by kernel_rfl) rfl (fun hc => ?_) (fun hc => ?_)
  · cases hc
  · refine Runs.skip ?_
    refine Runs.seq ?_
    refine Runs.seq ?_
    refine Runs.reg [1, 2, 21, 22, 23] (by kernel_rfl) fun kk hk oo ho => ?_
    clear ho
    simp +decide only [↓EV, EV, ty, ↓reduceIte, decide_true, decide_false, Int.cast_ofNat_Int]
    subst hk
    refine Runs.block ?_
    refine Runs.loop (fun m env G => ∃ (i : Nat), m + i = n ∧ env = envL [(1, ints n z), (2, .ref [.str nm, .bool true, .lst 2 k g, .fn sz [] [], .fn ed [] []]), (21, ints n z), (22, .int .i64 n), (23, .int .i64 i)] ∧ ∀ j, j < i → lo 0 ≤ z j ∧ z j ≤ hi 0) n ⟨0, rfl, rfl, fun j hj => by omega⟩ ?_
    rintro m _ G ⟨i, hm, rfl, hin⟩ IH
    refine Runs.seq ?_
    refine Runs.reg [1, 2, 21, 22, 23, 24] (by kernel_rfl) fun kk hk oo ho => ?_
    clear ho
    simp +decide only [↓EV, EV, ty, ↓reduceIte, decide_true, decide_false, Int.cast_ofNat_Int]
    subst hk
    refine Runs.seq ?_
    refine Runs.cond (by kernel_rfl) rfl (fun hc => ?_) (fun hc => ?_)
    · have hc' := ofB hc
      refine Runs.skip ?_
      refine Runs.seq ?_
      refine Runs.block ?_
      refine Runs.seq ?_
      refine Runs.reg [1, 2, 5, 6, 21, 22, 23] (by kernel_rfl) fun kk hk oo ho => ?_
      clear ho
      simp +decide only [↓EV, EV, ty, ↓reduceIte, decide_true, decide_false, Int.cast_ofNat_Int]
      refine ⟨by omega, ?_⟩
      subst hk
      refine Runs.seq ?_
      refine Runs.reg [1, 2, 5, 6, 7, 21, 22, 23] (by kernel_rfl) fun kk hk oo ho => ?_
      clear ho
      simp +decide only [↓EV, EV, ty, ↓reduceIte, decide_true, decide_false, Int.cast_ofNat_Int, hg 0 (by omega)]
      refine ⟨by omega, ?_⟩
      subst hk
      refine Runs.seq ?_
      refine Runs.seq ?_
      refine Runs.reg [1, 2, 5, 6, 7, 21, 22, 23, 34] (by kernel_rfl) fun kk hk oo ho => ?_
      clear ho
      simp +decide only [↓EV, EV, ty, ↓reduceIte, decide_true, decide_false, Int.cast_ofNat_Int]
      subst hk
      refine Runs.cond (by kernel_rfl) rfl (fun hc => ?_) (fun hc => ?_)
      · cases hc
      · refine Runs.skip ?_
        refine Runs.seq ?_
        by_cases hl : z i < lo 0
        · have hx : ¬ (lo 0 ≤ z i ∧ z i ≤ hi 0) := by omega
          refine Runs.reg [1, 2, 21, 22, 23, 49] (by kernel_rfl) fun kk hk oo ho => ?_
          have g4 : (oo[4]?).bind (·.dst) = some 44 := by subst ho; rfl
          clear ho
          simp +decide only [↓EV, EV, ty, ↓reduceIte, decide_true, decide_false, Int.cast_ofNat_Int, g4, hl, hl]
          subst hk
          refine Runs.cond (by kernel_rfl) rfl (fun hc => ?_) (fun hc => ?_)
          · refine Runs.seq ?_
            refine Runs.reg [4] (by kernel_rfl) fun kk hk oo ho => ?_
            clear ho
            simp +decide only [↓EV, EV, ty, ↓reduceIte, decide_true, decide_false, Int.cast_ofNat_Int]
            subst hk
            refine Runs.retL [.tmp 4] (by kernel_rfl) (by kernel_rfl) ?_
            simp +decide only [↓EV, EV, ty, ↓reduceIte, decide_true, decide_false, Int.cast_ofNat_Int]
            subst hR
            rw [h2 i (by omega) hx]
            exact .bool _
          · cases hc
        · by_cases hh : z i > hi 0
          · have hx : ¬ (lo 0 ≤ z i ∧ z i ≤ hi 0) := by omega
            refine Runs.reg [1, 2, 21, 22, 23, 49] (by kernel_rfl) fun kk hk oo ho => ?_
            have g4 : (oo[4]?).bind (·.dst) = some 44 := by subst ho; rfl
            clear ho
            simp +decide only [↓EV, EV, ty, ↓reduceIte, decide_true, decide_false, Int.cast_ofNat_Int, g4, hl, hh]
            subst hk
            refine Runs.cond (by kernel_rfl) rfl (fun hc => ?_) (fun hc => ?_)
            · refine Runs.seq ?_
              refine Runs.reg [4] (by kernel_rfl) fun kk hk oo ho => ?_
              clear ho
              simp +decide only [↓EV, EV, ty, ↓reduceIte, decide_true, decide_false, Int.cast_ofNat_Int]
              subst hk
              refine Runs.retL [.tmp 4] (by kernel_rfl) (by kernel_rfl) ?_
              simp +decide only [↓EV, EV, ty, ↓reduceIte, decide_true, decide_false, Int.cast_ofNat_Int]
              subst hR
              rw [h2 i (by omega) hx]
              exact .bool _
            · cases hc
          · refine Runs.reg [1, 2, 21, 22, 23, 49] (by kernel_rfl) fun kk hk oo ho => ?_
            have g4 : (oo[4]?).bind (·.dst) = some 44 := by subst ho; rfl
            clear ho
            simp +decide only [↓EV, EV, ty, ↓reduceIte, decide_true, decide_false, Int.cast_ofNat_Int, g4, hl, hh]
            subst hk
            refine Runs.cond (by kernel_rfl) rfl (fun hc => ?_) (fun hc => ?_)
            · cases hc
            · refine Runs.skip ?_
              refine Runs.inBlock ?_
              refine Runs.reg [1, 2, 21, 22, 23] (by kernel_rfl) fun kk hk oo ho => ?_
              clear ho
              simp +decide only [↓EV, EV, ty, ↓reduceIte, decide_true, decide_false, Int.cast_ofNat_Int]
              subst hk
              rw [i64s (by omega) (by omega)]
              exact IH (m - 1) _ _ (by omega) ⟨i + 1, by omega, rfl, fun j hj => by
                rcases Nat.lt_or_ge j i with h | h
                · exact hin j h
                · have : j = i := by omega
                  subst this; exact ⟨by omega, by omega⟩⟩

    · have hc' := ofNB hc
      refine Runs.exit rfl ?_
      refine Runs.seq ?_
      refine Runs.reg [8, 9] (by kernel_rfl) fun kk hk oo ho => ?_
      clear ho
      simp +decide only [↓EV, EV, ty, ↓reduceIte, decide_true, decide_false, Int.cast_ofNat_Int]
      refine CallAt.pure (hcall (fun i hi => hin i (by omega)) _) ?_
      simp +decide only [↓EV, EV, ty, ↓reduceIte, decide_true, decide_false, Int.cast_ofNat_Int]
      subst hk
      refine Runs.seq ?_
      by_cases hv : v ≤ 1048576
      · refine Runs.reg [4] (by kernel_rfl) fun kk hk oo ho => ?_
        have g2 : (oo[2]?).bind (·.dst) = some 60 := by subst ho; rfl
        clear ho
        simp +decide only [↓EV, EV, ty, ↓reduceIte, decide_true, decide_false, Int.cast_ofNat_Int, g2, hv]
        subst hk
        refine Runs.retL [.tmp 4] (by kernel_rfl) (by kernel_rfl) ?_
        simp +decide only [↓EV, EV, ty, ↓reduceIte, decide_true, decide_false, Int.cast_ofNat_Int]
        subst hR
        rw [h3 (fun i hi => hin i (by omega))]
        simp only [hv, true_and, false_and, decide_false]
        exact .bool _
      · refine Runs.reg [4] (by kernel_rfl) fun kk hk oo ho => ?_
        have g2 : (oo[2]?).bind (·.dst) = some 60 := by subst ho; rfl
        clear ho
        simp +decide only [↓EV, EV, ty, ↓reduceIte, decide_true, decide_false, Int.cast_ofNat_Int, g2, hv]
        subst hk
        refine Runs.retL [.tmp 4] (by kernel_rfl) (by kernel_rfl) ?_
        simp +decide only [↓EV, EV, ty, ↓reduceIte, decide_true, decide_false, Int.cast_ofNat_Int]
        subst hR
        rw [h3 (fun i hi => hin i (by omega))]
        simp only [hv, true_and, false_and, decide_false]
        exact .bool _

end Go.Fw.Sx
