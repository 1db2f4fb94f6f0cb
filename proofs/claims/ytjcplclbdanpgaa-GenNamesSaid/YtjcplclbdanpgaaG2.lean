import Derived.Test.YtjcplclbdanpgaaG1
namespace Go.Fw.Sx
open Go Go.Fw Go.Proofs
set_option maxRecDepth 100000
set_option linter.unusedSimpArgs false
theorem i64s {x : Int} (h1 : -9223372036854775808 ≤ x) (h2 : x ≤ 9223372036854775807) : IntKind.wrap .i64 x = x := by
  show (if (true && decide (x % 18446744073709551616 ≥ 9223372036854775808)) = true then x % 18446744073709551616 - 18446744073709551616 else x % 18446744073709551616) = x
  simp only [Bool.true_and, decide_eq_true_eq]
  split <;> omega
def nameB (i : Nat) : ByteArray := match nameL[i]? with
  | some (.str s) => s
  | _ => ⟨#[]⟩
theorem famRow : ∀ i, i < 20 → ∃ a d s e, rows 5 fams.flatten i = [.str (nameB i), a, d, s, e] ∧ AV.isCell a = true ∧ AV.isCell d = true ∧ AV.isCell s = true ∧ AV.isCell e = true
  | 0, _ => ⟨_, _, _, _, rfl, rfl, rfl, rfl, rfl⟩
  | 1, _ => ⟨_, _, _, _, rfl, rfl, rfl, rfl, rfl⟩
  | 2, _ => ⟨_, _, _, _, rfl, rfl, rfl, rfl, rfl⟩
  | 3, _ => ⟨_, _, _, _, rfl, rfl, rfl, rfl, rfl⟩
  | 4, _ => ⟨_, _, _, _, rfl, rfl, rfl, rfl, rfl⟩
  | 5, _ => ⟨_, _, _, _, rfl, rfl, rfl, rfl, rfl⟩
  | 6, _ => ⟨_, _, _, _, rfl, rfl, rfl, rfl, rfl⟩
  | 7, _ => ⟨_, _, _, _, rfl, rfl, rfl, rfl, rfl⟩
  | 8, _ => ⟨_, _, _, _, rfl, rfl, rfl, rfl, rfl⟩
  | 9, _ => ⟨_, _, _, _, rfl, rfl, rfl, rfl, rfl⟩
  | 10, _ => ⟨_, _, _, _, rfl, rfl, rfl, rfl, rfl⟩
  | 11, _ => ⟨_, _, _, _, rfl, rfl, rfl, rfl, rfl⟩
  | 12, _ => ⟨_, _, _, _, rfl, rfl, rfl, rfl, rfl⟩
  | 13, _ => ⟨_, _, _, _, rfl, rfl, rfl, rfl, rfl⟩
  | 14, _ => ⟨_, _, _, _, rfl, rfl, rfl, rfl, rfl⟩
  | 15, _ => ⟨_, _, _, _, rfl, rfl, rfl, rfl, rfl⟩
  | 16, _ => ⟨_, _, _, _, rfl, rfl, rfl, rfl, rfl⟩
  | 17, _ => ⟨_, _, _, _, rfl, rfl, rfl, rfl, rfl⟩
  | 18, _ => ⟨_, _, _, _, rfl, rfl, rfl, rfl, rfl⟩
  | 19, _ => ⟨_, _, _, _, rfl, rfl, rfl, rfl, rfl⟩
  | n + 20, h => by omega
theorem genNames_ct (n0 : Nat) : Ct cx 8 [] (.nil n0) fun r G' => ∃ b f, r = .sl b 0 20 false 1 ∧ n0 ≤ b ∧ G'.get b = some ⟨20, f⟩ ∧ ∀ i, i < 20 → f i = .str (nameB i) := by
  refine Ct.start (fun _ => false) Try.func8 rfl (by kernel_rfl) (by kernel_rfl) fun R hR => ?_
  simp only [EV]
  refine Runs.seq ?_
  -- region 0 gen.go:192 
  refine Runs.reg [] (by kernel_rfl) fun kk hk oo ho => ?_
  simp +decide only [↓EV, EV, ty, ↓reduceIte, decide_true, decide_false, Int.cast_ofNat_Int]
  subst hk
  refine Runs.seq ?_
  -- region 1 gen.go:193 
  refine Runs.reg [1] (by kernel_rfl) fun kk hk oo ho => ?_
  simp +decide only [↓EV, EV, ty, ↓reduceIte, decide_true, decide_false, Int.cast_ofNat_Int]
  subst hk
  refine Runs.seq ?_
  refine Runs.seq ?_
  -- region 2 gen.go:194 CALL ('func', 9)
  refine Runs.reg [1, 4, 5, 6] (by kernel_rfl) fun kk hk oo ho => ?_
  simp +decide only [↓EV, EV, ty, ↓reduceIte, decide_true, decide_false, Int.cast_ofNat_Int]
  refine CallAt.pure (families_cp _) ?_
  simp +decide only [↓EV, EV, ty, ↓reduceIte, decide_true, decide_false, Int.cast_ofNat_Int]
  subst hk
  refine Runs.block ?_
  -- LOOP live [1, 4, 5, 6]
  refine Runs.loop (fun m env G => ∃ (i : Nat) (v : AV), m + i = 20 ∧ env = envL [(1, v), (4, .lst 5 20 (rows 5 fams.flatten)), (5, .int .i64 20), (6, .int .i64 i)] ∧ n0 ≤ G.next ∧
    (i = 0 ∧ v = .nils ∨ 0 < i ∧ ∃ b f, v = .sl b 0 i false 1 ∧ n0 ≤ b ∧ b < G.next ∧ G.get b = some ⟨i, f⟩ ∧ ∀ j, j < i → f j = .str (nameB j))) 20 ⟨0, _, rfl, rfl, Nat.le_refl _, .inl ⟨rfl, rfl⟩⟩ ?_
  rintro m _ G ⟨i, v, hm, rfl, hn, hv⟩ IH
  refine Runs.seq ?_
  -- region 3 gen.go:194 
  refine Runs.reg [1, 4, 5, 6, 7] (by kernel_rfl) fun kk hk oo ho => ?_
  simp +decide only [↓EV, EV, ty, ↓reduceIte, decide_true, decide_false, Int.cast_ofNat_Int]
  subst hk
  refine Runs.seq ?_
  refine Runs.cond (by kernel_rfl) rfl (fun hc => ?_) (fun hc => ?_)
  · simp only [decide_eq_true_eq, decide_eq_false_iff_not] at hc
    refine Runs.skip ?_
    refine Runs.seq ?_
    refine Runs.block ?_
    refine Runs.seq ?_
    obtain ⟨a, d, s, e, hrow, ha, hd, hs, he⟩ := famRow i (by omega)
    -- region 4 gen.go:194 alloc@3, store
    refine Runs.reg [1, 3, 4, 5, 6] (by kernel_rfl) fun kk hk oo ho => ?_
    simp +decide only [↓EV, EV, ty, ↓reduceIte, decide_true, decide_false, Int.cast_ofNat_Int, hrow, ha, hd, hs, he]
    refine ⟨by omega, ?_⟩
    subst hk
    -- region 5 gen.go:195 buildSlice@13, append
    refine Runs.reg [1, 4, 5, 6] (by kernel_rfl) fun kk hk oo ho => ?_
    rcases hv with ⟨rfl, rfl⟩ | ⟨h0, b, f, rfl, hb, hlt, hg, hf⟩
    · simp +decide only [↓EV, EV, ty, ↓reduceIte, decide_true, decide_false, Int.cast_ofNat_Int]
      subst hk
      refine Runs.inBlock ?_
      -- region 6 gen.go:194 
      refine Runs.reg [1, 4, 5, 6] (by kernel_rfl) fun kk hk oo ho => ?_
      simp +decide only [↓EV, EV, ty, ↓reduceIte, decide_true, decide_false, Int.cast_ofNat_Int]
      subst hk
      rw [i64s (by omega) (by omega)]
      exact IH (m - 1) _ _ (by omega) ⟨1, _, by omega, rfl, by show n0 ≤ G.next + 1 + 1; omega, .inr ⟨by omega, _, _, rfl, by omega, by show G.next + 1 < G.next + 1 + 1; omega, upd_same _ _ _, fun j hj => by
        have : j = 0 := by omega
        subst this; rfl⟩⟩
    · have hbn : (b = G.next) = False := eq_false (by omega)
      simp +decide only [↓EV, EV, ty, ↓reduceIte, decide_true, decide_false, Int.cast_ofNat_Int, hbn, hg]
      refine ⟨⟨by omega, by omega, by omega⟩, ?_⟩
      subst hk
      refine Runs.inBlock ?_
      -- region 6 gen.go:194 
      refine Runs.reg [1, 4, 5, 6] (by kernel_rfl) fun kk hk oo ho => ?_
      simp +decide only [↓EV, EV, ty, ↓reduceIte, decide_true, decide_false, Int.cast_ofNat_Int]
      subst hk
      rw [i64s (by omega) (by omega)]
      exact IH (m - 1) _ _ (by omega) ⟨i + 1, _, by omega, rfl, by show n0 ≤ G.next + 1 + 1; omega, .inr ⟨by omega, _, _, rfl, by omega, by show G.next + 1 < G.next + 1 + 1; omega, upd_same _ _ _, fun j hj => by
        simp only [appF]
        split
        · exact hf j (by omega)
        · have : j = i := by omega
          subst this
          simp⟩⟩
  · simp only [decide_eq_true_eq, decide_eq_false_iff_not] at hc
    refine Runs.exit rfl ?_
    refine Runs.seq ?_
    -- region 7 gen.go:197 
    refine Runs.reg [0] (by kernel_rfl) fun kk hk oo ho => ?_
    simp +decide only [↓EV, EV, ty, ↓reduceIte, decide_true, decide_false, Int.cast_ofNat_Int]
    subst hk
    refine Runs.retL [.tmp 0] (by kernel_rfl) (by kernel_rfl) ?_
    simp +decide only [↓EV, EV, ty, ↓reduceIte, decide_true, decide_false, Int.cast_ofNat_Int]
    subst hR
    rcases hv with ⟨rfl, rfl⟩ | ⟨h0, b, f, rfl, hb, hlt, hg, hf⟩
    · omega
    · have : i = 20 := by omega
      subst this
      exact ⟨b, f, rfl, hb, hg, hf⟩
end Go.Fw.Sx
