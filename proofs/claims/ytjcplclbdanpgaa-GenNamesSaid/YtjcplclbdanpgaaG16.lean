/- The law GenRefused is true. -/
import Derived.Test.YtjcplclbdanpgaaG15
namespace Go.Fw.Sx
open Go Go.Fw Go.Proofs
set_option maxRecDepth 100000
set_option linter.unusedSimpArgs false
set_option linter.unusedVariables false
theorem refRow : ∀ i, i < 20 → rows 1 nameL i = [.str (nameB i)] := by
  intro i hi
  rcases (show i = 0 ∨ i = 1 ∨ i = 2 ∨ i = 3 ∨ i = 4 ∨ i = 5 ∨ i = 6 ∨ i = 7 ∨ i = 8 ∨ i = 9 ∨ i = 10 ∨ i = 11 ∨ i = 12 ∨ i = 13 ∨ i = 14 ∨ i = 15 ∨ i = 16 ∨ i = 17 ∨ i = 18 ∨ i = 19 by omega) with rfl | rfl | rfl | rfl | rfl | rfl | rfl | rfl | rfl | rfl | rfl | rfl | rfl | rfl | rfl | rfl | rfl | rfl | rfl | rfl <;> rfl
def knownB (s : ByteArray) (i : Nat) : Bool := (List.range i).any fun j => (nameB j).toList == s.toList
theorem knownB_succ (s : ByteArray) (i : Nat) : knownB s (i + 1) = (knownB s i || (nameB i).toList == s.toList) := by simp [knownB, List.range_succ]
theorem toList_inj {a b : ByteArray} (h : a.toList = b.toList) : a = b := by
  rw [ByteArray.toList_eq, ByteArray.toList_eq] at h
  cases a; cases b
  simp at h
  subst h; rfl
def four (i0 : Nat) : AV := if i0 = 18 then graphV 7 stacked3L else errR
def nones (i0 : Nat) : AV := if i0 = 18 then graphV 3 stackedNL else if i0 = 17 then graphV 10 petersenNL else errR
theorem name_eq {i j : Nat} (hi : i < 20) (hj : j < 20) : ((nameB i).toList == (nameB j).toList) = decide (i = j) := by
  by_cases h : i = j
  · subst h; simp
  · have : (nameB i).toList ≠ (nameB j).toList := by
      rcases Nat.lt_or_gt_of_ne h with h | h
      · exact nameB_ne j hj i h
      · exact fun e => nameB_ne i hi j h e.symm
    simp [h, this]
theorem four_cp {i0 : Nat} (hi : i0 < 20) {z : Nat → Int} (hz : ∀ i, i < 4 → z i = 3) : ∀ G, Cp cx 7 [.str (nameB i0), ints 4 z] G (four i0) := by
  unfold four
  by_cases h : i0 = 18
  · subst h; rw [if_pos rfl]; exact mk_stacked3 hz
  · rw [if_neg h]
    refine make_bad hi (tk_all hi (by omega) (.inl ⟨h, ?_⟩))
    rcases (show i0 = 0 ∨ i0 = 1 ∨ i0 = 2 ∨ i0 = 3 ∨ i0 = 4 ∨ i0 = 5 ∨ i0 = 6 ∨ i0 = 7 ∨ i0 = 8 ∨ i0 = 9 ∨ i0 = 10 ∨ i0 = 11 ∨ i0 = 12 ∨ i0 = 13 ∨ i0 = 14 ∨ i0 = 15 ∨ i0 = 16 ∨ i0 = 17 ∨ i0 = 18 ∨ i0 = 19 by omega) with rfl | rfl | rfl | rfl | rfl | rfl | rfl | rfl | rfl | rfl | rfl | rfl | rfl | rfl | rfl | rfl | rfl | rfl | rfl | rfl <;> decide
theorem nones_cp {i0 : Nat} (hi : i0 < 20) : ∀ G, Cp cx 7 [.str (nameB i0), .nils] G (nones i0) := fun G => by
  refine Ct.args (bs := [.str (nameB i0), ints 0 fun _ => 0]) ?_ (.cons (.refl _) (.cons (AVle.nils_lst 1 _) .nil))
  revert G
  unfold nones
  by_cases h : i0 = 18
  · subst h; rw [if_pos rfl]; exact mk_stackedN
  · rw [if_neg h]
    by_cases h7 : i0 = 17
    · subst h7; rw [if_pos rfl]; exact mk_petersenN
    · rw [if_neg h7]
      refine make_bad hi (tk_all hi (by omega) (.inl ⟨h, ?_⟩))
      rcases (show i0 = 0 ∨ i0 = 1 ∨ i0 = 2 ∨ i0 = 3 ∨ i0 = 4 ∨ i0 = 5 ∨ i0 = 6 ∨ i0 = 7 ∨ i0 = 8 ∨ i0 = 9 ∨ i0 = 10 ∨ i0 = 11 ∨ i0 = 12 ∨ i0 = 13 ∨ i0 = 14 ∨ i0 = 15 ∨ i0 = 16 ∨ i0 = 17 ∨ i0 = 18 ∨ i0 = 19 by omega) with rfl | rfl | rfl | rfl | rfl | rfl | rfl | rfl | rfl | rfl | rfl | rfl | rfl | rfl | rfl | rfl | rfl | rfl | rfl | rfl <;> first | decide | (exact absurd rfl h) | (exact absurd rfl h7)
theorem refused_cp {s : ByteArray} {n : Nat} {z : Nat → Int} (hn : n * 8 ≤ 140737488355328) : ∀ G, Cp cx 3 [.str s, ints n z] G (.bool true) := by
  refine Cp.intro fun n0 => ?_
  refine Ct.start (fun _ => false) Try.func3 rfl (by kernel_rfl) (by kernel_rfl) fun R hR => ?_
  simp only [EV]
  refine Runs.seq ?_
  refine Runs.reg [0, 1] (by kernel_rfl) fun kk hk oo ho => ?_
  clear ho
  simp +decide only [↓EV, EV, ty, ↓reduceIte, decide_true, decide_false, Int.cast_ofNat_Int, Int.reduceToNat, Nat.reduceMul, Nat.reduceAdd, Nat.reduceBEq, Bool.or_self, Bool.or_true, Bool.true_or, Bool.or_false, Bool.false_or, beq_self_eq_true, Int.reduceBEq, eq_self, List.map_cons, List.map_nil, List.append_nil, List.nil_append, Bool.not_true, Bool.not_false, Bool.and_self, Bool.true_and, Bool.false_and, Bool.and_false]
  subst hk
  refine Runs.seq ?_
  refine Runs.seq ?_
  refine Runs.reg [0, 1, 27] (by kernel_rfl) fun kk hk oo ho => ?_
  clear ho
  simp +decide only [↓EV, EV, ty, ↓reduceIte, decide_true, decide_false, Int.cast_ofNat_Int, Int.reduceToNat, Nat.reduceMul, Nat.reduceAdd, Nat.reduceBEq, Bool.or_self, Bool.or_true, Bool.true_or, Bool.or_false, Bool.false_or, beq_self_eq_true, Int.reduceBEq, eq_self, List.map_cons, List.map_nil, List.append_nil, List.nil_append, Bool.not_true, Bool.not_false, Bool.and_self, Bool.true_and, Bool.false_and, Bool.and_false]
  refine CallAt.pure (fixed_cp _) ?_
  simp +decide only [↓EV, EV, ty, ↓reduceIte, decide_true, decide_false, Int.cast_ofNat_Int, Int.reduceToNat, Nat.reduceMul, Nat.reduceAdd, Nat.reduceBEq, Bool.or_self, Bool.or_true, Bool.true_or, Bool.or_false, Bool.false_or, beq_self_eq_true, Int.reduceBEq, eq_self, List.map_cons, List.map_nil, List.append_nil, List.nil_append, Bool.not_true, Bool.not_false, Bool.and_self, Bool.true_and, Bool.false_and, Bool.and_false]
  subst hk
  refine Runs.cond (by kernel_rfl) rfl (fun hc => ?_) (fun hc => ?_)
  · cases hc
  · refine Runs.skip ?_
    refine Runs.seq ?_
    refine Runs.reg [0, 1, 5] (by kernel_rfl) fun kk hk oo ho => ?_
    clear ho
    simp +decide only [↓EV, EV, ty, ↓reduceIte, decide_true, decide_false, Int.cast_ofNat_Int, Int.reduceToNat, Nat.reduceMul, Nat.reduceAdd, Nat.reduceBEq, Bool.or_self, Bool.or_true, Bool.true_or, Bool.or_false, Bool.false_or, beq_self_eq_true, Int.reduceBEq, eq_self, List.map_cons, List.map_nil, List.append_nil, List.nil_append, Bool.not_true, Bool.not_false, Bool.and_self, Bool.true_and, Bool.false_and, Bool.and_false]
    subst hk
    refine Runs.seq ?_
    refine Runs.seq ?_
    refine Runs.reg [0, 1, 5, 28, 29, 30] (by kernel_rfl) fun kk hk oo ho => ?_
    clear ho
    simp +decide only [↓EV, EV, ty, ↓reduceIte, decide_true, decide_false, Int.cast_ofNat_Int, Int.reduceToNat, Nat.reduceMul, Nat.reduceAdd, Nat.reduceBEq, Bool.or_self, Bool.or_true, Bool.true_or, Bool.or_false, Bool.false_or, beq_self_eq_true, Int.reduceBEq, eq_self, List.map_cons, List.map_nil, List.append_nil, List.nil_append, Bool.not_true, Bool.not_false, Bool.and_self, Bool.true_and, Bool.false_and, Bool.and_false]
    refine CallAt.pure (refNames_cp _) ?_
    simp +decide only [↓EV, EV, ty, ↓reduceIte, decide_true, decide_false, Int.cast_ofNat_Int, Int.reduceToNat, Nat.reduceMul, Nat.reduceAdd, Nat.reduceBEq, Bool.or_self, Bool.or_true, Bool.true_or, Bool.or_false, Bool.false_or, beq_self_eq_true, Int.reduceBEq, eq_self, List.map_cons, List.map_nil, List.append_nil, List.nil_append, Bool.not_true, Bool.not_false, Bool.and_self, Bool.true_and, Bool.false_and, Bool.and_false]
    subst hk
    refine Runs.block ?_
    refine Runs.loop (fun m env G => ∃ (i : Nat), m + i = 20 ∧ env = envL [(0, .str s), (1, ints n z), (5, .bool (knownB s i)), (28, .lst 1 20 (rows 1 nameL)), (29, .int .i64 20), (30, .int .i64 i)]) 20 ⟨0, rfl, rfl⟩ ?_
    rintro m _ G1 ⟨i, hm, rfl⟩ IH
    refine Runs.seq ?_
    refine Runs.reg [0, 1, 5, 28, 29, 30, 31] (by kernel_rfl) fun kk hk oo ho => ?_
    clear ho
    simp +decide only [↓EV, EV, ty, ↓reduceIte, decide_true, decide_false, Int.cast_ofNat_Int, Int.reduceToNat, Nat.reduceMul, Nat.reduceAdd, Nat.reduceBEq, Bool.or_self, Bool.or_true, Bool.true_or, Bool.or_false, Bool.false_or, beq_self_eq_true, Int.reduceBEq, eq_self, List.map_cons, List.map_nil, List.append_nil, List.nil_append, Bool.not_true, Bool.not_false, Bool.and_self, Bool.true_and, Bool.false_and, Bool.and_false]
    subst hk
    refine Runs.seq ?_
    refine Runs.cond (by kernel_rfl) rfl (fun hc => ?_) (fun hc => ?_)
    · have hc' := ofB hc
      have hrow := refRow i (by omega)
      have hks := knownB_succ s i
      refine Runs.skip ?_
      refine Runs.seq ?_
      refine Runs.block ?_
      refine Runs.seq ?_
      refine Runs.reg [0, 1, 5, 7, 28, 29, 30] (by kernel_rfl) fun kk hk oo ho => ?_
      clear ho
      simp +decide only [↓EV, EV, ty, ↓reduceIte, decide_true, decide_false, Int.cast_ofNat_Int, Int.reduceToNat, Nat.reduceMul, Nat.reduceAdd, Nat.reduceBEq, Bool.or_self, Bool.or_true, Bool.true_or, Bool.or_false, Bool.false_or, beq_self_eq_true, Int.reduceBEq, eq_self, List.map_cons, List.map_nil, List.append_nil, List.nil_append, Bool.not_true, Bool.not_false, Bool.and_self, Bool.true_and, Bool.false_and, Bool.and_false, hrow]
      refine ⟨by omega, ?_⟩
      subst hk
      cases hkn : knownB s i with
      | true =>
        refine Runs.reg [0, 1, 5, 28, 29, 30] (by kernel_rfl) fun kk hk oo ho => ?_
        have g1 : (oo[1]?).bind (·.dst) = some 35 := by subst ho; rfl
        clear ho
        simp +decide only [↓EV, EV, ty, ↓reduceIte, decide_true, decide_false, Int.cast_ofNat_Int, Int.reduceToNat, Nat.reduceMul, Nat.reduceAdd, Nat.reduceBEq, Bool.or_self, Bool.or_true, Bool.true_or, Bool.or_false, Bool.false_or, beq_self_eq_true, Int.reduceBEq, eq_self, List.map_cons, List.map_nil, List.append_nil, List.nil_append, Bool.not_true, Bool.not_false, Bool.and_self, Bool.true_and, Bool.false_and, Bool.and_false, g1, hkn]
        subst hk
        refine Runs.inBlock ?_
        refine Runs.reg [0, 1, 5, 28, 29, 30] (by kernel_rfl) fun kk hk oo ho => ?_
        clear ho
        simp +decide only [↓EV, EV, ty, ↓reduceIte, decide_true, decide_false, Int.cast_ofNat_Int, Int.reduceToNat, Nat.reduceMul, Nat.reduceAdd, Nat.reduceBEq, Bool.or_self, Bool.or_true, Bool.true_or, Bool.or_false, Bool.false_or, beq_self_eq_true, Int.reduceBEq, eq_self, List.map_cons, List.map_nil, List.append_nil, List.nil_append, Bool.not_true, Bool.not_false, Bool.and_self, Bool.true_and, Bool.false_and, Bool.and_false]
        subst hk
        rw [i64s (by omega) (by omega)]
        exact IH (m - 1) _ _ (by omega) ⟨i + 1, by omega, by rw [hks, hkn]; rfl⟩
      | false =>
        refine Runs.reg [0, 1, 5, 28, 29, 30] (by kernel_rfl) fun kk hk oo ho => ?_
        have g1 : (oo[1]?).bind (·.dst) = some 35 := by subst ho; rfl
        clear ho
        simp +decide only [↓EV, EV, ty, ↓reduceIte, decide_true, decide_false, Int.cast_ofNat_Int, Int.reduceToNat, Nat.reduceMul, Nat.reduceAdd, Nat.reduceBEq, Bool.or_self, Bool.or_true, Bool.true_or, Bool.or_false, Bool.false_or, beq_self_eq_true, Int.reduceBEq, eq_self, List.map_cons, List.map_nil, List.append_nil, List.nil_append, Bool.not_true, Bool.not_false, Bool.and_self, Bool.true_and, Bool.false_and, Bool.and_false, g1, hkn]
        subst hk
        refine Runs.inBlock ?_
        refine Runs.reg [0, 1, 5, 28, 29, 30] (by kernel_rfl) fun kk hk oo ho => ?_
        clear ho
        simp +decide only [↓EV, EV, ty, ↓reduceIte, decide_true, decide_false, Int.cast_ofNat_Int, Int.reduceToNat, Nat.reduceMul, Nat.reduceAdd, Nat.reduceBEq, Bool.or_self, Bool.or_true, Bool.true_or, Bool.or_false, Bool.false_or, beq_self_eq_true, Int.reduceBEq, eq_self, List.map_cons, List.map_nil, List.append_nil, List.nil_append, Bool.not_true, Bool.not_false, Bool.and_self, Bool.true_and, Bool.false_and, Bool.and_false]
        subst hk
        rw [i64s (by omega) (by omega)]
        exact IH (m - 1) _ _ (by omega) ⟨i + 1, by omega, by rw [hks, hkn]; rfl⟩
    · have hc' := ofNB hc
      have hi : i = 20 := by omega
      subst hi
      refine Runs.exit rfl ?_
      refine Runs.seq ?_
      refine Runs.seq ?_
      cases hkn : knownB s 20 with
      | false =>
        refine Runs.reg [0, 1, 42] (by kernel_rfl) fun kk hk oo ho => ?_
        clear ho
        simp +decide only [↓EV, EV, ty, ↓reduceIte, decide_true, decide_false, Int.cast_ofNat_Int, Int.reduceToNat, Nat.reduceMul, Nat.reduceAdd, Nat.reduceBEq, Bool.or_self, Bool.or_true, Bool.true_or, Bool.or_false, Bool.false_or, beq_self_eq_true, Int.reduceBEq, eq_self, List.map_cons, List.map_nil, List.append_nil, List.nil_append, Bool.not_true, Bool.not_false, Bool.and_self, Bool.true_and, Bool.false_and, Bool.and_false]
        subst hk
        refine Runs.cond (by kernel_rfl) rfl (fun hc => ?_) (fun hc => ?_)
        · have hno : ∀ i, i < 20 → (nameB i).toList ≠ s.toList := fun i hi he => by
            have : knownB s 20 = true := List.any_eq_true.2 ⟨i, List.mem_range.2 hi, by rw [he]; simp⟩
            rw [hkn] at this; cases this
          refine Runs.seq ?_
          by_cases h0 : n = 0
          · subst h0
            refine Runs.reg [8, 9] (by kernel_rfl) fun kk hk oo ho => ?_
            clear ho
            simp +decide only [↓EV, EV, ty, ↓reduceIte, decide_true, decide_false, Int.cast_ofNat_Int, Int.reduceToNat, Nat.reduceMul, Nat.reduceAdd, Nat.reduceBEq, Bool.or_self, Bool.or_true, Bool.true_or, Bool.or_false, Bool.false_or, beq_self_eq_true, Int.reduceBEq, eq_self, List.map_cons, List.map_nil, List.append_nil, List.nil_append, Bool.not_true, Bool.not_false, Bool.and_self, Bool.true_and, Bool.false_and, Bool.and_false]
            refine CallAt.pure (Ct.args (make_none (n := 0) (z := z) hno _) (.cons (.refl _) (.cons (AVle.nils_lst 1 _) .nil))) ?_
            simp +decide only [↓EV, EV, ty, ↓reduceIte, decide_true, decide_false, Int.cast_ofNat_Int, Int.reduceToNat, Nat.reduceMul, Nat.reduceAdd, Nat.reduceBEq, Bool.or_self, Bool.or_true, Bool.true_or, Bool.or_false, Bool.false_or, beq_self_eq_true, Int.reduceBEq, eq_self, List.map_cons, List.map_nil, List.append_nil, List.nil_append, Bool.not_true, Bool.not_false, Bool.and_self, Bool.true_and, Bool.false_and, Bool.and_false, errR]
            subst hk
            refine Runs.anyG fun G9 hG9 => ?_
            have q1 : ∃ f, G9.get G1.next = some ⟨2, f⟩ ∧ f 0 = .int .i64 0 ∧ f 1 = .nils := ⟨_, by rw [hG9]; exact upd_same _ _ _, rfl, rfl⟩
            clear hG9
            obtain ⟨f9, q1, q2, q3⟩ := q1
            refine Runs.seq ?_
            refine Runs.reg [4] (by kernel_rfl) fun kk hk oo ho => ?_
            have g2 : (oo[2]?).bind (·.dst) = some 53 := by subst ho; rfl
            have g7 : (oo[7]?).bind (·.dst) = some 58 := by subst ho; rfl
            clear ho
            simp +decide only [↓EV, EV, ty, ↓reduceIte, decide_true, decide_false, Int.cast_ofNat_Int, Int.reduceToNat, Nat.reduceMul, Nat.reduceAdd, Nat.reduceBEq, Bool.or_self, Bool.or_true, Bool.true_or, Bool.or_false, Bool.false_or, beq_self_eq_true, Int.reduceBEq, eq_self, List.map_cons, List.map_nil, List.append_nil, List.nil_append, Bool.not_true, Bool.not_false, Bool.and_self, Bool.true_and, Bool.false_and, Bool.and_false, g2, g7, q1, q2, q3]
            subst hk
            refine Runs.retL [.tmp 4] (by kernel_rfl) (by kernel_rfl) ?_
            simp +decide only [↓EV, EV, ty, ↓reduceIte, decide_true, decide_false, Int.cast_ofNat_Int, Int.reduceToNat, Nat.reduceMul, Nat.reduceAdd, Nat.reduceBEq, Bool.or_self, Bool.or_true, Bool.true_or, Bool.or_false, Bool.false_or, beq_self_eq_true, Int.reduceBEq, eq_self, List.map_cons, List.map_nil, List.append_nil, List.nil_append, Bool.not_true, Bool.not_false, Bool.and_self, Bool.true_and, Bool.false_and, Bool.and_false]
            subst hR
            exact .bool _
          · refine Runs.reg [8, 9] (by kernel_rfl) fun kk hk oo ho => ?_
            clear ho
            simp +decide only [↓EV, EV, ty, ↓reduceIte, decide_true, decide_false, Int.cast_ofNat_Int, Int.reduceToNat, Nat.reduceMul, Nat.reduceAdd, Nat.reduceBEq, Bool.or_self, Bool.or_true, Bool.true_or, Bool.or_false, Bool.false_or, beq_self_eq_true, Int.reduceBEq, eq_self, List.map_cons, List.map_nil, List.append_nil, List.nil_append, Bool.not_true, Bool.not_false, Bool.and_self, Bool.true_and, Bool.false_and, Bool.and_false, h0]
            refine ⟨⟨by omega, by omega⟩, ?_⟩
            refine CallAt.rel (Ct.frz1 (pre := [.str s]) (post := []) (len := n) (sz := 1) (g := fun i => [.int .i64 (z i)]) (upd_same _ _ _) (by simp) (fun i hi => rfl) (fun i j d hi hd => ?_) (make_none hno _)) ?_
            · match j, hd with
              | 0, hd =>
                injection hd with hd; subst hd
                simp only [appF]
                rw [if_neg (by omega), show (0 + i * 1 + 0 - 0 * 1) / 1 = i by simp, show (0 + i * 1 + 0 - 0 * 1) % 1 = 0 by omega]
                exact .refl _
            rintro r G2 ⟨rfl, rfl⟩
            simp +decide only [↓EV, EV, ty, ↓reduceIte, decide_true, decide_false, Int.cast_ofNat_Int, Int.reduceToNat, Nat.reduceMul, Nat.reduceAdd, Nat.reduceBEq, Bool.or_self, Bool.or_true, Bool.true_or, Bool.or_false, Bool.false_or, beq_self_eq_true, Int.reduceBEq, eq_self, List.map_cons, List.map_nil, List.append_nil, List.nil_append, Bool.not_true, Bool.not_false, Bool.and_self, Bool.true_and, Bool.false_and, Bool.and_false, errR]
            subst hk
            refine Runs.anyG fun G9 hG9 => ?_
            have q1 : ∃ f, G9.get (G1.next + 1) = some ⟨2, f⟩ ∧ f 0 = .int .i64 0 ∧ f 1 = .nils := ⟨_, by rw [hG9]; exact upd_same _ _ _, rfl, rfl⟩
            clear hG9
            obtain ⟨f9, q1, q2, q3⟩ := q1
            refine Runs.seq ?_
            refine Runs.reg [4] (by kernel_rfl) fun kk hk oo ho => ?_
            have g2 : (oo[2]?).bind (·.dst) = some 53 := by subst ho; rfl
            have g7 : (oo[7]?).bind (·.dst) = some 58 := by subst ho; rfl
            clear ho
            simp +decide only [↓EV, EV, ty, ↓reduceIte, decide_true, decide_false, Int.cast_ofNat_Int, Int.reduceToNat, Nat.reduceMul, Nat.reduceAdd, Nat.reduceBEq, Bool.or_self, Bool.or_true, Bool.true_or, Bool.or_false, Bool.false_or, beq_self_eq_true, Int.reduceBEq, eq_self, List.map_cons, List.map_nil, List.append_nil, List.nil_append, Bool.not_true, Bool.not_false, Bool.and_self, Bool.true_and, Bool.false_and, Bool.and_false, g2, g7, q1, q2, q3]
            subst hk
            refine Runs.retL [.tmp 4] (by kernel_rfl) (by kernel_rfl) ?_
            simp +decide only [↓EV, EV, ty, ↓reduceIte, decide_true, decide_false, Int.cast_ofNat_Int, Int.reduceToNat, Nat.reduceMul, Nat.reduceAdd, Nat.reduceBEq, Bool.or_self, Bool.or_true, Bool.true_or, Bool.or_false, Bool.false_or, beq_self_eq_true, Int.reduceBEq, eq_self, List.map_cons, List.map_nil, List.append_nil, List.nil_append, Bool.not_true, Bool.not_false, Bool.and_self, Bool.true_and, Bool.false_and, Bool.and_false]
            subst hR
            exact .bool _
        · cases hc
      | true =>
        refine Runs.reg [0, 1, 42] (by kernel_rfl) fun kk hk oo ho => ?_
        clear ho
        simp +decide only [↓EV, EV, ty, ↓reduceIte, decide_true, decide_false, Int.cast_ofNat_Int, Int.reduceToNat, Nat.reduceMul, Nat.reduceAdd, Nat.reduceBEq, Bool.or_self, Bool.or_true, Bool.true_or, Bool.or_false, Bool.false_or, beq_self_eq_true, Int.reduceBEq, eq_self, List.map_cons, List.map_nil, List.append_nil, List.nil_append, Bool.not_true, Bool.not_false, Bool.and_self, Bool.true_and, Bool.false_and, Bool.and_false]
        subst hk
        refine Runs.cond (by kernel_rfl) rfl (fun hc => ?_) (fun hc => ?_)
        · cases hc
        · obtain ⟨i0, hi0, he0⟩ := List.any_eq_true.1 hkn
          have hi0 := List.mem_range.1 hi0
          have hs : s = nameB i0 := (toList_inj (by simpa using he0)).symm
          subst hs
          refine Runs.skip ?_
          refine Runs.seq ?_
          refine Runs.reg [0, 10] (by kernel_rfl) fun kk hk oo ho => ?_
          clear ho
          simp +decide only [↓EV, EV, ty, ↓reduceIte, decide_true, decide_false, Int.cast_ofNat_Int, Int.reduceToNat, Nat.reduceMul, Nat.reduceAdd, Nat.reduceBEq, Bool.or_self, Bool.or_true, Bool.true_or, Bool.or_false, Bool.false_or, beq_self_eq_true, Int.reduceBEq, eq_self, List.map_cons, List.map_nil, List.append_nil, List.nil_append, Bool.not_true, Bool.not_false, Bool.and_self, Bool.true_and, Bool.false_and, Bool.and_false]
          subst hk
          refine Runs.seq ?_
          refine Runs.reg [0, 10, 11, 12] (by kernel_rfl) fun kk hk oo ho => ?_
          clear ho
          simp +decide only [↓EV, EV, ty, ↓reduceIte, decide_true, decide_false, Int.cast_ofNat_Int, Int.reduceToNat, Nat.reduceMul, Nat.reduceAdd, Nat.reduceBEq, Bool.or_self, Bool.or_true, Bool.true_or, Bool.or_false, Bool.false_or, beq_self_eq_true, Int.reduceBEq, eq_self, List.map_cons, List.map_nil, List.append_nil, List.nil_append, Bool.not_true, Bool.not_false, Bool.and_self, Bool.true_and, Bool.false_and, Bool.and_false]
          rw [show (⟨#[99, 111, 109, 112, 108, 101, 116, 101]⟩ : ByteArray) = nameB 4 from rfl]
          refine CallAt.pure (Ct.args (make_bad (i0 := 4) (by omega) (tk_complete (z := fun _ => 2897) rfl) _) (.cons (.refl _) (.cons (AVle.lst_congr fun i hi => by match i, hi with | 0, _ => rfl) .nil))) ?_
          simp +decide only [↓EV, EV, ty, ↓reduceIte, decide_true, decide_false, Int.cast_ofNat_Int, Int.reduceToNat, Nat.reduceMul, Nat.reduceAdd, Nat.reduceBEq, Bool.or_self, Bool.or_true, Bool.true_or, Bool.or_false, Bool.false_or, beq_self_eq_true, Int.reduceBEq, eq_self, List.map_cons, List.map_nil, List.append_nil, List.nil_append, Bool.not_true, Bool.not_false, Bool.and_self, Bool.true_and, Bool.false_and, Bool.and_false, errR]
          subst hk
          refine Runs.seq ?_
          refine Runs.reg [0, 10, 11, 12, 13, 14] (by kernel_rfl) fun kk hk oo ho => ?_
          clear ho
          simp +decide only [↓EV, EV, ty, ↓reduceIte, decide_true, decide_false, Int.cast_ofNat_Int, Int.reduceToNat, Nat.reduceMul, Nat.reduceAdd, Nat.reduceBEq, Bool.or_self, Bool.or_true, Bool.true_or, Bool.or_false, Bool.false_or, beq_self_eq_true, Int.reduceBEq, eq_self, List.map_cons, List.map_nil, List.append_nil, List.nil_append, Bool.not_true, Bool.not_false, Bool.and_self, Bool.true_and, Bool.false_and, Bool.and_false]
          rw [show (⟨#[112, 97, 116, 104]⟩ : ByteArray) = nameB 1 from rfl]
          refine CallAt.pure (Ct.args (make_bad (i0 := 1) (by omega) (tk_path (z := fun _ => 1048577) rfl) _) (.cons (.refl _) (.cons (AVle.lst_congr fun i hi => by match i, hi with | 0, _ => rfl) .nil))) ?_
          simp +decide only [↓EV, EV, ty, ↓reduceIte, decide_true, decide_false, Int.cast_ofNat_Int, Int.reduceToNat, Nat.reduceMul, Nat.reduceAdd, Nat.reduceBEq, Bool.or_self, Bool.or_true, Bool.true_or, Bool.or_false, Bool.false_or, beq_self_eq_true, Int.reduceBEq, eq_self, List.map_cons, List.map_nil, List.append_nil, List.nil_append, Bool.not_true, Bool.not_false, Bool.and_self, Bool.true_and, Bool.false_and, Bool.and_false, errR]
          subst hk
          refine Runs.seq ?_
          refine Runs.reg [0, 10, 11, 12, 13, 14, 15, 16] (by kernel_rfl) fun kk hk oo ho => ?_
          clear ho
          simp +decide only [↓EV, EV, ty, ↓reduceIte, decide_true, decide_false, Int.cast_ofNat_Int, Int.reduceToNat, Nat.reduceMul, Nat.reduceAdd, Nat.reduceBEq, Bool.or_self, Bool.or_true, Bool.true_or, Bool.or_false, Bool.false_or, beq_self_eq_true, Int.reduceBEq, eq_self, List.map_cons, List.map_nil, List.append_nil, List.nil_append, Bool.not_true, Bool.not_false, Bool.and_self, Bool.true_and, Bool.false_and, Bool.and_false]
          rw [show (⟨#[98, 105, 112, 97, 114, 116, 105, 116, 101]⟩ : ByteArray) = nameB 5 from rfl]
          refine CallAt.pure (Ct.args (make_bad (i0 := 5) (by omega) (tk_bipartite (z := fun _ => 2049) rfl rfl) _) (.cons (.refl _) (.cons (AVle.lst_congr fun i hi => by match i, hi with | 0, _ => rfl | 1, _ => rfl) .nil))) ?_
          simp +decide only [↓EV, EV, ty, ↓reduceIte, decide_true, decide_false, Int.cast_ofNat_Int, Int.reduceToNat, Nat.reduceMul, Nat.reduceAdd, Nat.reduceBEq, Bool.or_self, Bool.or_true, Bool.true_or, Bool.or_false, Bool.false_or, beq_self_eq_true, Int.reduceBEq, eq_self, List.map_cons, List.map_nil, List.append_nil, List.nil_append, Bool.not_true, Bool.not_false, Bool.and_self, Bool.true_and, Bool.false_and, Bool.and_false, errR]
          subst hk
          refine Runs.seq ?_
          refine Runs.reg [0, 10, 11, 12, 13, 14, 15, 16, 17, 18] (by kernel_rfl) fun kk hk oo ho => ?_
          clear ho
          simp +decide only [↓EV, EV, ty, ↓reduceIte, decide_true, decide_false, Int.cast_ofNat_Int, Int.reduceToNat, Nat.reduceMul, Nat.reduceAdd, Nat.reduceBEq, Bool.or_self, Bool.or_true, Bool.true_or, Bool.or_false, Bool.false_or, beq_self_eq_true, Int.reduceBEq, eq_self, List.map_cons, List.map_nil, List.append_nil, List.nil_append, Bool.not_true, Bool.not_false, Bool.and_self, Bool.true_and, Bool.false_and, Bool.and_false]
          rw [show (⟨#[99, 117, 98, 101]⟩ : ByteArray) = nameB 13 from rfl]
          refine CallAt.pure (Ct.args (make_bad (i0 := 13) (by omega) (tk_cube (z := fun _ => 18) rfl) _) (.cons (.refl _) (.cons (AVle.lst_congr fun i hi => by match i, hi with | 0, _ => rfl) .nil))) ?_
          simp +decide only [↓EV, EV, ty, ↓reduceIte, decide_true, decide_false, Int.cast_ofNat_Int, Int.reduceToNat, Nat.reduceMul, Nat.reduceAdd, Nat.reduceBEq, Bool.or_self, Bool.or_true, Bool.true_or, Bool.or_false, Bool.false_or, beq_self_eq_true, Int.reduceBEq, eq_self, List.map_cons, List.map_nil, List.append_nil, List.nil_append, Bool.not_true, Bool.not_false, Bool.and_self, Bool.true_and, Bool.false_and, Bool.and_false, errR]
          subst hk
          refine Runs.anyG fun G2 hG2 => ?_
          have k1 : (G1.next = G1.next + 1) = False := eq_false (by omega)
          have k2 : (G1.next = G1.next + 1 + 1) = False := eq_false (by omega)
          have k3 : (G1.next = G1.next + 1 + 1 + 1) = False := eq_false (by omega)
          have k4 : (G1.next + 1 = G1.next + 1 + 1) = False := eq_false (by omega)
          have k5 : (G1.next + 1 = G1.next + 1 + 1 + 1) = False := eq_false (by omega)
          have k6 : (G1.next + 1 + 1 = G1.next + 1 + 1 + 1) = False := eq_false (by omega)
          have q1 : ∃ f, G2.get G1.next = some ⟨2, f⟩ ∧ f 0 = .int .i64 0 := ⟨_, by rw [hG2]; simp only [EV, k1, k2, k3, if_false, if_true]; rfl, rfl⟩
          have q2 : ∃ f, G2.get (G1.next + 1) = some ⟨2, f⟩ ∧ f 0 = .int .i64 0 := ⟨_, by rw [hG2]; simp only [EV, k4, k5, if_false, if_true]; rfl, rfl⟩
          have q3 : ∃ f, G2.get (G1.next + 1 + 1) = some ⟨2, f⟩ ∧ f 0 = .int .i64 0 := ⟨_, by rw [hG2]; simp only [EV, k6, if_false, if_true]; rfl, rfl⟩
          have q4 : ∃ f, G2.get (G1.next + 1 + 1 + 1) = some ⟨2, f⟩ ∧ f 0 = .int .i64 0 := ⟨_, by rw [hG2]; simp only [EV, if_true]; rfl, rfl⟩
          clear hG2
          obtain ⟨f1, q1, a1⟩ := q1
          obtain ⟨f2, q2, a2⟩ := q2
          obtain ⟨f3, q3, a3⟩ := q3
          obtain ⟨f4, q4, a4⟩ := q4
          refine Runs.seq ?_
          refine Runs.seq ?_
          refine Runs.reg [0, 10, 112] (by kernel_rfl) fun kk hk oo ho => ?_
          have g2 : (oo[2]?).bind (·.dst) = some 87 := by subst ho; rfl
          have g6 : (oo[6]?).bind (·.dst) = some 91 := by subst ho; rfl
          have g10 : (oo[10]?).bind (·.dst) = some 95 := by subst ho; rfl
          have g14 : (oo[14]?).bind (·.dst) = some 99 := by subst ho; rfl
          clear ho
          simp +decide only [↓EV, EV, ty, ↓reduceIte, decide_true, decide_false, Int.cast_ofNat_Int, Int.reduceToNat, Nat.reduceMul, Nat.reduceAdd, Nat.reduceBEq, Bool.or_self, Bool.or_true, Bool.true_or, Bool.or_false, Bool.false_or, beq_self_eq_true, Int.reduceBEq, eq_self, List.map_cons, List.map_nil, List.append_nil, List.nil_append, Bool.not_true, Bool.not_false, Bool.and_self, Bool.true_and, Bool.false_and, Bool.and_false, g2, g6, g10, g14, q1, q2, q3, q4, a1, a2, a3, a4, bne_self_eq_false, Int.reduceAdd, Int.reduceBNe]
          subst hk
          refine Runs.cond (by kernel_rfl) rfl (fun hc => ?_) (fun hc => ?_)
          · cases hc
          · refine Runs.skip ?_
            refine Runs.seq ?_
            refine Runs.seq ?_
            refine Runs.reg [0, 10, 19] (by kernel_rfl) fun kk hk oo ho => ?_
            clear ho
            simp +decide only [↓EV, EV, ty, ↓reduceIte, decide_true, decide_false, Int.cast_ofNat_Int, Int.reduceToNat, Nat.reduceMul, Nat.reduceAdd, Nat.reduceBEq, Bool.or_self, Bool.or_true, Bool.true_or, Bool.or_false, Bool.false_or, beq_self_eq_true, Int.reduceBEq, eq_self, List.map_cons, List.map_nil, List.append_nil, List.nil_append, Bool.not_true, Bool.not_false, Bool.and_self, Bool.true_and, Bool.false_and, Bool.and_false]
            subst hk
            refine Runs.block ?_
            refine Runs.loop (fun m env G => ∃ (k : Nat), m + k = 4 ∧ 1 ≤ k ∧ env = envL [(0, .str (nameB i0)), (10, AV.lst 1 3 fun i => List.take 1 (List.drop i [AV.int IntKind.i64 (-1), AV.int IntKind.i64 (-1), AV.int IntKind.i64 (-1)])), (19, .int .i64 k)]) 3 ⟨1, rfl, by omega, rfl⟩ ?_
            rintro m' _ G3 ⟨k, hmk, hk1, rfl⟩ IH2
            refine Runs.seq ?_
            refine Runs.seq ?_
            refine Runs.reg [0, 10, 19, 114] (by kernel_rfl) fun kk hk oo ho => ?_
            clear ho
            simp +decide only [↓EV, EV, ty, ↓reduceIte, decide_true, decide_false, Int.cast_ofNat_Int, Int.reduceToNat, Nat.reduceMul, Nat.reduceAdd, Nat.reduceBEq, Bool.or_self, Bool.or_true, Bool.true_or, Bool.or_false, Bool.false_or, beq_self_eq_true, Int.reduceBEq, eq_self, List.map_cons, List.map_nil, List.append_nil, List.nil_append, Bool.not_true, Bool.not_false, Bool.and_self, Bool.true_and, Bool.false_and, Bool.and_false]
            subst hk
            refine Runs.cond (by kernel_rfl) rfl (fun hc => ?_) (fun hc => ?_)
            · have hc' := ofB hc
              refine Runs.skip ?_
              refine Runs.seq ?_
              refine Runs.block ?_
              refine Runs.seq ?_
              refine Runs.reg [0, 10, 19, 21] (by kernel_rfl) fun kk hk oo ho => ?_
              clear ho
              simp +decide only [↓EV, EV, ty, ↓reduceIte, decide_true, decide_false, Int.cast_ofNat_Int, Int.reduceToNat, Nat.reduceMul, Nat.reduceAdd, Nat.reduceBEq, Bool.or_self, Bool.or_true, Bool.true_or, Bool.or_false, Bool.false_or, beq_self_eq_true, Int.reduceBEq, eq_self, List.map_cons, List.map_nil, List.append_nil, List.nil_append, Bool.not_true, Bool.not_false, Bool.and_self, Bool.true_and, Bool.false_and, Bool.and_false]
              refine ⟨by omega, ?_⟩
              rw [show ((k : Int) - 0).toNat = k by omega]
              refine CallAt.pure (Ct.args (make_bad hi0 (tk_all (n := k) (z := fun _ => -1) hi0 (by omega) (.inr ⟨by omega, rfl⟩)) _) (.cons (.refl _) (.cons (AVle.lst_congr fun i hi => by
                rcases (show i = 0 ∨ i = 1 ∨ i = 2 by omega) with h | h | h <;> subst h <;> rfl) .nil))) ?_
              simp +decide only [↓EV, EV, ty, ↓reduceIte, decide_true, decide_false, Int.cast_ofNat_Int, Int.reduceToNat, Nat.reduceMul, Nat.reduceAdd, Nat.reduceBEq, Bool.or_self, Bool.or_true, Bool.true_or, Bool.or_false, Bool.false_or, beq_self_eq_true, Int.reduceBEq, eq_self, List.map_cons, List.map_nil, List.append_nil, List.nil_append, Bool.not_true, Bool.not_false, Bool.and_self, Bool.true_and, Bool.false_and, Bool.and_false, errR]
              subst hk
              refine Runs.seq ?_
              refine Runs.reg [0, 10, 19, 126] (by kernel_rfl) fun kk hk oo ho => ?_
              clear ho
              simp +decide only [↓EV, EV, ty, ↓reduceIte, decide_true, decide_false, Int.cast_ofNat_Int, Int.reduceToNat, Nat.reduceMul, Nat.reduceAdd, Nat.reduceBEq, Bool.or_self, Bool.or_true, Bool.true_or, Bool.or_false, Bool.false_or, beq_self_eq_true, Int.reduceBEq, eq_self, List.map_cons, List.map_nil, List.append_nil, List.nil_append, Bool.not_true, Bool.not_false, Bool.and_self, Bool.true_and, Bool.false_and, Bool.and_false]
              subst hk
              refine Runs.cond (by kernel_rfl) rfl (fun hc => ?_) (fun hc => ?_)
              · cases hc
              · refine Runs.skip ?_
                refine Runs.inBlock ?_
                refine Runs.reg [0, 10, 19] (by kernel_rfl) fun kk hk oo ho => ?_
                clear ho
                simp +decide only [↓EV, EV, ty, ↓reduceIte, decide_true, decide_false, Int.cast_ofNat_Int, Int.reduceToNat, Nat.reduceMul, Nat.reduceAdd, Nat.reduceBEq, Bool.or_self, Bool.or_true, Bool.true_or, Bool.or_false, Bool.false_or, beq_self_eq_true, Int.reduceBEq, eq_self, List.map_cons, List.map_nil, List.append_nil, List.nil_append, Bool.not_true, Bool.not_false, Bool.and_self, Bool.true_and, Bool.false_and, Bool.and_false]
                subst hk
                rw [i64s (by omega) (by omega)]
                exact IH2 (m' - 1) _ _ (by omega) ⟨k + 1, by omega, by omega, rfl⟩
            · have hc' := ofNB hc
              refine Runs.exit rfl ?_
              clear IH2 hmk hc hc'
              have hq18 : ((nameB i0).toList == (⟨#[115, 116, 97, 99, 107, 101, 100]⟩ : ByteArray).toList) = decide (i0 = 18) := name_eq (j := 18) hi0 (by omega)
              have hq17 : ((nameB i0).toList == (⟨#[112, 101, 116, 101, 114, 115, 101, 110]⟩ : ByteArray).toList) = decide (i0 = 17) := name_eq (j := 17) hi0 (by omega)
              have hcell := fun es => (fzEdges (List.map toSE es)).2
              have h4 := four_cp hi0 (z := fun _ => 3) (fun i hi => rfl)
              have h0 := nones_cp hi0
              by_cases e18 : i0 = 18
              · subst e18
                rw [decide_eq_true rfl] at hq18
                rw [show four 18 = graphV 7 stacked3L from if_pos rfl] at h4
                rw [show nones 18 = graphV 3 stackedNL from if_pos rfl] at h0
                refine Runs.seq ?_
                refine Runs.reg [0, 23] (by kernel_rfl) fun kk hk oo ho => ?_
                clear ho
                simp +decide only [↓EV, EV, ty, ↓reduceIte, decide_true, decide_false, Int.cast_ofNat_Int, Int.reduceToNat, Nat.reduceMul, Nat.reduceAdd, Nat.reduceBEq, Bool.or_self, Bool.or_true, Bool.true_or, Bool.or_false, Bool.false_or, beq_self_eq_true, Int.reduceBEq, eq_self, List.map_cons, List.map_nil, List.append_nil, List.nil_append, Bool.not_true, Bool.not_false, Bool.and_self, Bool.true_and, Bool.false_and, Bool.and_false]
                refine CallAt.pure (Ct.args (h4 _) (.cons (.refl _) (.cons (AVle.lst_congr fun i hi => by match i, hi with | 0, _ => rfl | 1, _ => rfl | 2, _ => rfl | 3, _ => rfl) .nil))) ?_
                simp +decide only [↓EV, EV, ty, ↓reduceIte, decide_true, decide_false, Int.cast_ofNat_Int, Int.reduceToNat, Nat.reduceMul, Nat.reduceAdd, Nat.reduceBEq, Bool.or_self, Bool.or_true, Bool.true_or, Bool.or_false, Bool.false_or, beq_self_eq_true, Int.reduceBEq, eq_self, List.map_cons, List.map_nil, List.append_nil, List.nil_append, Bool.not_true, Bool.not_false, Bool.and_self, Bool.true_and, Bool.false_and, Bool.and_false, graphV, errR, hcell]
                subst hk
                refine Runs.seq ?_
                refine Runs.reg [0, 23, 25] (by kernel_rfl) fun kk hk oo ho => ?_
                clear ho
                simp +decide only [↓EV, EV, ty, ↓reduceIte, decide_true, decide_false, Int.cast_ofNat_Int, Int.reduceToNat, Nat.reduceMul, Nat.reduceAdd, Nat.reduceBEq, Bool.or_self, Bool.or_true, Bool.true_or, Bool.or_false, Bool.false_or, beq_self_eq_true, Int.reduceBEq, eq_self, List.map_cons, List.map_nil, List.append_nil, List.nil_append, Bool.not_true, Bool.not_false, Bool.and_self, Bool.true_and, Bool.false_and, Bool.and_false]
                refine CallAt.pure (h0 _) ?_
                simp +decide only [↓EV, EV, ty, ↓reduceIte, decide_true, decide_false, Int.cast_ofNat_Int, Int.reduceToNat, Nat.reduceMul, Nat.reduceAdd, Nat.reduceBEq, Bool.or_self, Bool.or_true, Bool.true_or, Bool.or_false, Bool.false_or, beq_self_eq_true, Int.reduceBEq, eq_self, List.map_cons, List.map_nil, List.append_nil, List.nil_append, Bool.not_true, Bool.not_false, Bool.and_self, Bool.true_and, Bool.false_and, Bool.and_false, graphV, errR, hcell]
                subst hk
                refine Runs.seq ?_
                refine Runs.seq ?_
                refine Runs.reg [0, 23, 25, 139] (by kernel_rfl) fun kk hk oo ho => ?_
                clear ho
                simp +decide only [↓EV, EV, ty, ↓reduceIte, decide_true, decide_false, Int.cast_ofNat_Int, Int.reduceToNat, Nat.reduceMul, Nat.reduceAdd, Nat.reduceBEq, Bool.or_self, Bool.or_true, Bool.true_or, Bool.or_false, Bool.false_or, beq_self_eq_true, Int.reduceBEq, eq_self, List.map_cons, List.map_nil, List.append_nil, List.nil_append, Bool.not_true, Bool.not_false, Bool.and_self, Bool.true_and, Bool.false_and, Bool.and_false, hq18]
                subst hk
                refine Runs.cond (by kernel_rfl) rfl (fun hc => ?_) (fun hc => ?_)
                · refine Runs.seq ?_
                  refine Runs.reg [4] (by kernel_rfl) fun kk hk oo ho => ?_
                  have g2 : (oo[2]?).bind (·.dst) = some 142 := by subst ho; rfl
                  clear ho
                  simp +decide only [↓EV, EV, ty, ↓reduceIte, decide_true, decide_false, Int.cast_ofNat_Int, Int.reduceToNat, Nat.reduceMul, Nat.reduceAdd, Nat.reduceBEq, Bool.or_self, Bool.or_true, Bool.true_or, Bool.or_false, Bool.false_or, beq_self_eq_true, Int.reduceBEq, eq_self, List.map_cons, List.map_nil, List.append_nil, List.nil_append, Bool.not_true, Bool.not_false, Bool.and_self, Bool.true_and, Bool.false_and, Bool.and_false, g2]
                  subst hk
                  refine Runs.retL [.tmp 4] (by kernel_rfl) (by kernel_rfl) ?_
                  simp +decide only [↓EV, EV, ty, ↓reduceIte, decide_true, decide_false, Int.cast_ofNat_Int, Int.reduceToNat, Nat.reduceMul, Nat.reduceAdd, Nat.reduceBEq, Bool.or_self, Bool.or_true, Bool.true_or, Bool.or_false, Bool.false_or, beq_self_eq_true, Int.reduceBEq, eq_self, List.map_cons, List.map_nil, List.append_nil, List.nil_append, Bool.not_true, Bool.not_false, Bool.and_self, Bool.true_and, Bool.false_and, Bool.and_false]
                  subst hR
                  exact .bool _
                · cases hc
              · rw [decide_eq_false e18] at hq18
                rw [show four i0 = errR from if_neg e18] at h4
                by_cases e17 : i0 = 17
                · subst e17
                  rw [decide_eq_true rfl] at hq17
                  rw [show nones 17 = graphV 10 petersenNL from (if_neg e18).trans (if_pos rfl)] at h0
                  refine Runs.seq ?_
                  refine Runs.reg [0, 23] (by kernel_rfl) fun kk hk oo ho => ?_
                  clear ho
                  simp +decide only [↓EV, EV, ty, ↓reduceIte, decide_true, decide_false, Int.cast_ofNat_Int, Int.reduceToNat, Nat.reduceMul, Nat.reduceAdd, Nat.reduceBEq, Bool.or_self, Bool.or_true, Bool.true_or, Bool.or_false, Bool.false_or, beq_self_eq_true, Int.reduceBEq, eq_self, List.map_cons, List.map_nil, List.append_nil, List.nil_append, Bool.not_true, Bool.not_false, Bool.and_self, Bool.true_and, Bool.false_and, Bool.and_false]
                  refine CallAt.pure (Ct.args (h4 _) (.cons (.refl _) (.cons (AVle.lst_congr fun i hi => by match i, hi with | 0, _ => rfl | 1, _ => rfl | 2, _ => rfl | 3, _ => rfl) .nil))) ?_
                  simp +decide only [↓EV, EV, ty, ↓reduceIte, decide_true, decide_false, Int.cast_ofNat_Int, Int.reduceToNat, Nat.reduceMul, Nat.reduceAdd, Nat.reduceBEq, Bool.or_self, Bool.or_true, Bool.true_or, Bool.or_false, Bool.false_or, beq_self_eq_true, Int.reduceBEq, eq_self, List.map_cons, List.map_nil, List.append_nil, List.nil_append, Bool.not_true, Bool.not_false, Bool.and_self, Bool.true_and, Bool.false_and, Bool.and_false, graphV, errR, hcell]
                  subst hk
                  refine Runs.seq ?_
                  refine Runs.reg [0, 23, 25] (by kernel_rfl) fun kk hk oo ho => ?_
                  clear ho
                  simp +decide only [↓EV, EV, ty, ↓reduceIte, decide_true, decide_false, Int.cast_ofNat_Int, Int.reduceToNat, Nat.reduceMul, Nat.reduceAdd, Nat.reduceBEq, Bool.or_self, Bool.or_true, Bool.true_or, Bool.or_false, Bool.false_or, beq_self_eq_true, Int.reduceBEq, eq_self, List.map_cons, List.map_nil, List.append_nil, List.nil_append, Bool.not_true, Bool.not_false, Bool.and_self, Bool.true_and, Bool.false_and, Bool.and_false]
                  refine CallAt.pure (h0 _) ?_
                  simp +decide only [↓EV, EV, ty, ↓reduceIte, decide_true, decide_false, Int.cast_ofNat_Int, Int.reduceToNat, Nat.reduceMul, Nat.reduceAdd, Nat.reduceBEq, Bool.or_self, Bool.or_true, Bool.true_or, Bool.or_false, Bool.false_or, beq_self_eq_true, Int.reduceBEq, eq_self, List.map_cons, List.map_nil, List.append_nil, List.nil_append, Bool.not_true, Bool.not_false, Bool.and_self, Bool.true_and, Bool.false_and, Bool.and_false, graphV, errR, hcell]
                  subst hk
                  refine Runs.seq ?_
                  refine Runs.seq ?_
                  refine Runs.reg [0, 23, 25, 139] (by kernel_rfl) fun kk hk oo ho => ?_
                  clear ho
                  simp +decide only [↓EV, EV, ty, ↓reduceIte, decide_true, decide_false, Int.cast_ofNat_Int, Int.reduceToNat, Nat.reduceMul, Nat.reduceAdd, Nat.reduceBEq, Bool.or_self, Bool.or_true, Bool.true_or, Bool.or_false, Bool.false_or, beq_self_eq_true, Int.reduceBEq, eq_self, List.map_cons, List.map_nil, List.append_nil, List.nil_append, Bool.not_true, Bool.not_false, Bool.and_self, Bool.true_and, Bool.false_and, Bool.and_false, hq18]
                  subst hk
                  refine Runs.cond (by kernel_rfl) rfl (fun hc => ?_) (fun hc => ?_)
                  · cases hc
                  · refine Runs.skip ?_
                    refine Runs.seq ?_
                    refine Runs.reg [4] (by kernel_rfl) fun kk hk oo ho => ?_
                    have g2 : (oo[2]?).bind (·.dst) = some 148 := by subst ho; rfl
                    clear ho
                    simp +decide only [↓EV, EV, ty, ↓reduceIte, decide_true, decide_false, Int.cast_ofNat_Int, Int.reduceToNat, Nat.reduceMul, Nat.reduceAdd, Nat.reduceBEq, Bool.or_self, Bool.or_true, Bool.true_or, Bool.or_false, Bool.false_or, beq_self_eq_true, Int.reduceBEq, eq_self, List.map_cons, List.map_nil, List.append_nil, List.nil_append, Bool.not_true, Bool.not_false, Bool.and_self, Bool.true_and, Bool.false_and, Bool.and_false, g2, hq17]
                    subst hk
                    refine Runs.retL [.tmp 4] (by kernel_rfl) (by kernel_rfl) ?_
                    simp +decide only [↓EV, EV, ty, ↓reduceIte, decide_true, decide_false, Int.cast_ofNat_Int, Int.reduceToNat, Nat.reduceMul, Nat.reduceAdd, Nat.reduceBEq, Bool.or_self, Bool.or_true, Bool.true_or, Bool.or_false, Bool.false_or, beq_self_eq_true, Int.reduceBEq, eq_self, List.map_cons, List.map_nil, List.append_nil, List.nil_append, Bool.not_true, Bool.not_false, Bool.and_self, Bool.true_and, Bool.false_and, Bool.and_false]
                    subst hR
                    exact .bool _
                · rw [decide_eq_false e17] at hq17
                  rw [show nones i0 = errR from (if_neg e18).trans (if_neg e17)] at h0
                  refine Runs.seq ?_
                  refine Runs.reg [0, 23] (by kernel_rfl) fun kk hk oo ho => ?_
                  clear ho
                  simp +decide only [↓EV, EV, ty, ↓reduceIte, decide_true, decide_false, Int.cast_ofNat_Int, Int.reduceToNat, Nat.reduceMul, Nat.reduceAdd, Nat.reduceBEq, Bool.or_self, Bool.or_true, Bool.true_or, Bool.or_false, Bool.false_or, beq_self_eq_true, Int.reduceBEq, eq_self, List.map_cons, List.map_nil, List.append_nil, List.nil_append, Bool.not_true, Bool.not_false, Bool.and_self, Bool.true_and, Bool.false_and, Bool.and_false]
                  refine CallAt.pure (Ct.args (h4 _) (.cons (.refl _) (.cons (AVle.lst_congr fun i hi => by match i, hi with | 0, _ => rfl | 1, _ => rfl | 2, _ => rfl | 3, _ => rfl) .nil))) ?_
                  simp +decide only [↓EV, EV, ty, ↓reduceIte, decide_true, decide_false, Int.cast_ofNat_Int, Int.reduceToNat, Nat.reduceMul, Nat.reduceAdd, Nat.reduceBEq, Bool.or_self, Bool.or_true, Bool.true_or, Bool.or_false, Bool.false_or, beq_self_eq_true, Int.reduceBEq, eq_self, List.map_cons, List.map_nil, List.append_nil, List.nil_append, Bool.not_true, Bool.not_false, Bool.and_self, Bool.true_and, Bool.false_and, Bool.and_false, graphV, errR, hcell]
                  subst hk
                  refine Runs.seq ?_
                  refine Runs.reg [0, 23, 25] (by kernel_rfl) fun kk hk oo ho => ?_
                  clear ho
                  simp +decide only [↓EV, EV, ty, ↓reduceIte, decide_true, decide_false, Int.cast_ofNat_Int, Int.reduceToNat, Nat.reduceMul, Nat.reduceAdd, Nat.reduceBEq, Bool.or_self, Bool.or_true, Bool.true_or, Bool.or_false, Bool.false_or, beq_self_eq_true, Int.reduceBEq, eq_self, List.map_cons, List.map_nil, List.append_nil, List.nil_append, Bool.not_true, Bool.not_false, Bool.and_self, Bool.true_and, Bool.false_and, Bool.and_false]
                  refine CallAt.pure (h0 _) ?_
                  simp +decide only [↓EV, EV, ty, ↓reduceIte, decide_true, decide_false, Int.cast_ofNat_Int, Int.reduceToNat, Nat.reduceMul, Nat.reduceAdd, Nat.reduceBEq, Bool.or_self, Bool.or_true, Bool.true_or, Bool.or_false, Bool.false_or, beq_self_eq_true, Int.reduceBEq, eq_self, List.map_cons, List.map_nil, List.append_nil, List.nil_append, Bool.not_true, Bool.not_false, Bool.and_self, Bool.true_and, Bool.false_and, Bool.and_false, graphV, errR, hcell]
                  subst hk
                  refine Runs.seq ?_
                  refine Runs.seq ?_
                  refine Runs.reg [0, 23, 25, 139] (by kernel_rfl) fun kk hk oo ho => ?_
                  clear ho
                  simp +decide only [↓EV, EV, ty, ↓reduceIte, decide_true, decide_false, Int.cast_ofNat_Int, Int.reduceToNat, Nat.reduceMul, Nat.reduceAdd, Nat.reduceBEq, Bool.or_self, Bool.or_true, Bool.true_or, Bool.or_false, Bool.false_or, beq_self_eq_true, Int.reduceBEq, eq_self, List.map_cons, List.map_nil, List.append_nil, List.nil_append, Bool.not_true, Bool.not_false, Bool.and_self, Bool.true_and, Bool.false_and, Bool.and_false, hq18]
                  subst hk
                  refine Runs.cond (by kernel_rfl) rfl (fun hc => ?_) (fun hc => ?_)
                  · cases hc
                  · refine Runs.skip ?_
                    refine Runs.seq ?_
                    refine Runs.reg [4] (by kernel_rfl) fun kk hk oo ho => ?_
                    have g2 : (oo[2]?).bind (·.dst) = some 148 := by subst ho; rfl
                    clear ho
                    simp +decide only [↓EV, EV, ty, ↓reduceIte, decide_true, decide_false, Int.cast_ofNat_Int, Int.reduceToNat, Nat.reduceMul, Nat.reduceAdd, Nat.reduceBEq, Bool.or_self, Bool.or_true, Bool.true_or, Bool.or_false, Bool.false_or, beq_self_eq_true, Int.reduceBEq, eq_self, List.map_cons, List.map_nil, List.append_nil, List.nil_append, Bool.not_true, Bool.not_false, Bool.and_self, Bool.true_and, Bool.false_and, Bool.and_false, g2, hq17]
                    subst hk
                    refine Runs.retL [.tmp 4] (by kernel_rfl) (by kernel_rfl) ?_
                    simp +decide only [↓EV, EV, ty, ↓reduceIte, decide_true, decide_false, Int.cast_ofNat_Int, Int.reduceToNat, Nat.reduceMul, Nat.reduceAdd, Nat.reduceBEq, Bool.or_self, Bool.or_true, Bool.true_or, Bool.or_false, Bool.false_or, beq_self_eq_true, Int.reduceBEq, eq_self, List.map_cons, List.map_nil, List.append_nil, List.nil_append, Bool.not_true, Bool.not_false, Bool.and_self, Bool.true_and, Bool.false_and, Bool.and_false]
                    subst hR
                    exact .bool _

end Go.Fw.Sx
