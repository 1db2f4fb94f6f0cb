/- The law GenNames is true. -/
import Derived.Test.YtjcplclbdanpgaaG16
namespace Go.Fw.Sx
open Go Go.Fw Go.Proofs
set_option maxRecDepth 100000
set_option linter.unusedSimpArgs false
set_option linter.unusedVariables false
/-- A block that holds the names from place i on. -/
def NamesAt (G : Heap) (b i : Nat) : Prop := ∃ f, G.get b = some ⟨20, f⟩ ∧ ∀ j, i ≤ j → j < 20 → f j = .str (nameB j)
/-- The list of the lists. -/
def AllV (G : Heap) (v : AV) (bs : List Nat) : Prop := bs = [] ∧ v = .nils ∨ 0 < bs.length ∧ ∃ ab fa, v = .sl ab 0 bs.length false 1 ∧ ab ∉ bs ∧ G.get ab = some ⟨bs.length, fa⟩ ∧ ∀ j, j < bs.length → fa j = .sl (bs.getD j 0) 0 20 false 1
theorem AllV.to {G G' : Heap} {v : AV} {bs : List Nat} (h : AllV G v bs) (hg : ∀ b blk, b ∉ bs → G.get b = some blk → G'.get b = some blk) : AllV G' v bs := by
  rcases h with h | ⟨h0, ab, fa, h1, h2, h3, h4⟩
  · exact .inl h
  · exact .inr ⟨h0, ab, fa, h1, h2, hg _ _ h2 h3, h4⟩
theorem appL {h : Nat → AV} {bs : List Nat} {b : Nat} (hh : ∀ j, j < bs.length → h j = .sl (bs.getD j 0) 0 20 false 1) : ∀ j, j < (bs ++ [b]).length → appF 1 bs.length h (fun i => List.take 1 (List.drop i [AV.sl b 0 20 false 1])) j = .sl ((bs ++ [b]).getD j 0) 0 20 false 1 := by
  intro j hj
  simp only [List.length_append, List.length_cons, List.length_nil] at hj
  simp only [appF]
  by_cases hlt : j < bs.length
  · rw [if_pos (by omega), hh j hlt]
    simp [List.getD_eq_getElem?_getD, List.getElem?_append, hlt]
  · have : j = bs.length := by omega
    subst this
    rw [if_neg (by omega), show (bs.length - bs.length * 1) / 1 = 0 by omega, show (bs.length - bs.length * 1) % 1 = 0 by omega]
    simp
theorem names_cp : ∀ G, Cp cx 4 [] G (.bool true) := by
  refine Cp.intro fun n0 => ?_
  refine Ct.start (fun _ => false) Try.func4 rfl (by kernel_rfl) (by kernel_rfl) fun R hR => ?_
  simp only [EV]
  refine Runs.seq ?_
  refine Runs.reg [] (by kernel_rfl) fun kk hk oo ho => ?_
  clear ho
  simp +decide only [↓EV, EV, ty, ↓reduceIte, decide_true, decide_false, Int.cast_ofNat_Int, Int.reduceToNat, Nat.reduceMul, Nat.reduceAdd, Nat.reduceBEq, Bool.or_self, Bool.or_true, Bool.true_or, Bool.or_false, Bool.false_or, beq_self_eq_true, Int.reduceBEq, eq_self, List.map_cons, List.map_nil, List.append_nil, List.nil_append, Bool.not_true, Bool.not_false, Bool.and_self, Bool.true_and, Bool.false_and, Bool.and_false]
  subst hk
  refine Runs.seq ?_
  refine Runs.reg [1] (by kernel_rfl) fun kk hk oo ho => ?_
  clear ho
  simp +decide only [↓EV, EV, ty, ↓reduceIte, decide_true, decide_false, Int.cast_ofNat_Int, Int.reduceToNat, Nat.reduceMul, Nat.reduceAdd, Nat.reduceBEq, Bool.or_self, Bool.or_true, Bool.true_or, Bool.or_false, Bool.false_or, beq_self_eq_true, Int.reduceBEq, eq_self, List.map_cons, List.map_nil, List.append_nil, List.nil_append, Bool.not_true, Bool.not_false, Bool.and_self, Bool.true_and, Bool.false_and, Bool.and_false]
  refine CallAt.pure (refNames_cp _) ?_
  simp +decide only [↓EV, EV, ty, ↓reduceIte, decide_true, decide_false, Int.cast_ofNat_Int, Int.reduceToNat, Nat.reduceMul, Nat.reduceAdd, Nat.reduceBEq, Bool.or_self, Bool.or_true, Bool.true_or, Bool.or_false, Bool.false_or, beq_self_eq_true, Int.reduceBEq, eq_self, List.map_cons, List.map_nil, List.append_nil, List.nil_append, Bool.not_true, Bool.not_false, Bool.and_self, Bool.true_and, Bool.false_and, Bool.and_false]
  subst hk
  refine Runs.seq ?_
  refine Runs.reg [1, 2] (by kernel_rfl) fun kk hk oo ho => ?_
  clear ho
  simp +decide only [↓EV, EV, ty, ↓reduceIte, decide_true, decide_false, Int.cast_ofNat_Int, Int.reduceToNat, Nat.reduceMul, Nat.reduceAdd, Nat.reduceBEq, Bool.or_self, Bool.or_true, Bool.true_or, Bool.or_false, Bool.false_or, beq_self_eq_true, Int.reduceBEq, eq_self, List.map_cons, List.map_nil, List.append_nil, List.nil_append, Bool.not_true, Bool.not_false, Bool.and_self, Bool.true_and, Bool.false_and, Bool.and_false]
  subst hk
  refine Runs.seq ?_
  refine Runs.seq ?_
  refine Runs.reg [1, 2, 3] (by kernel_rfl) fun kk hk oo ho => ?_
  clear ho
  simp +decide only [↓EV, EV, ty, ↓reduceIte, decide_true, decide_false, Int.cast_ofNat_Int, Int.reduceToNat, Nat.reduceMul, Nat.reduceAdd, Nat.reduceBEq, Bool.or_self, Bool.or_true, Bool.true_or, Bool.or_false, Bool.false_or, beq_self_eq_true, Int.reduceBEq, eq_self, List.map_cons, List.map_nil, List.append_nil, List.nil_append, Bool.not_true, Bool.not_false, Bool.and_self, Bool.true_and, Bool.false_and, Bool.and_false]
  subst hk
  refine Runs.block ?_
  refine Runs.loop (fun m env G => ∃ (bs : List Nat) (v : AV), m + bs.length = 5 ∧ env = envL [(1, .lst 1 20 (rows 1 nameL)), (2, v), (3, .int .i64 bs.length)] ∧ bs.Nodup ∧ (∀ b ∈ bs, NamesAt G b 0) ∧ AllV G v bs) 5 ⟨[], .nils, rfl, rfl, List.nodup_nil, by simp, .inl ⟨rfl, rfl⟩⟩ ?_
  rintro m _ G1 ⟨bs, v, hm, rfl, hnd, hbs, hall⟩ IH
  refine Runs.seq ?_
  refine Runs.seq ?_
  refine Runs.reg [1, 2, 3, 10] (by kernel_rfl) fun kk hk oo ho => ?_
  clear ho
  simp +decide only [↓EV, EV, ty, ↓reduceIte, decide_true, decide_false, Int.cast_ofNat_Int, Int.reduceToNat, Nat.reduceMul, Nat.reduceAdd, Nat.reduceBEq, Bool.or_self, Bool.or_true, Bool.true_or, Bool.or_false, Bool.false_or, beq_self_eq_true, Int.reduceBEq, eq_self, List.map_cons, List.map_nil, List.append_nil, List.nil_append, Bool.not_true, Bool.not_false, Bool.and_self, Bool.true_and, Bool.false_and, Bool.and_false]
  subst hk
  refine Runs.cond (by kernel_rfl) rfl (fun hc => ?_) (fun hc => ?_)
  · have hc' := ofB hc
    refine Runs.wf fun hwf => ?_
    refine Runs.skip ?_
    refine Runs.seq ?_
    refine Runs.block ?_
    refine Runs.seq ?_
    refine Runs.reg [1, 2, 3, 4] (by kernel_rfl) fun kk hk oo ho => ?_
    clear ho
    simp +decide only [↓EV, EV, ty, ↓reduceIte, decide_true, decide_false, Int.cast_ofNat_Int, Int.reduceToNat, Nat.reduceMul, Nat.reduceAdd, Nat.reduceBEq, Bool.or_self, Bool.or_true, Bool.true_or, Bool.or_false, Bool.false_or, beq_self_eq_true, Int.reduceBEq, eq_self, List.map_cons, List.map_nil, List.append_nil, List.nil_append, Bool.not_true, Bool.not_false, Bool.and_self, Bool.true_and, Bool.false_and, Bool.and_false]
    refine CallAt.rel (Ct.more (Ct.fresh genNames_ct _)) ?_
    rintro r G2 ⟨⟨G2', ⟨b, f, rfl, hb, hgb, hfn⟩, hnx, hge, hlt⟩, hle, hwf2⟩
    simp +decide only [↓EV, EV, ty, ↓reduceIte, decide_true, decide_false, Int.cast_ofNat_Int, Int.reduceToNat, Nat.reduceMul, Nat.reduceAdd, Nat.reduceBEq, Bool.or_self, Bool.or_true, Bool.true_or, Bool.or_false, Bool.false_or, beq_self_eq_true, Int.reduceBEq, eq_self, List.map_cons, List.map_nil, List.append_nil, List.nil_append, Bool.not_true, Bool.not_false, Bool.and_self, Bool.true_and, Bool.false_and, Bool.and_false]
    subst hk
    have hb2 : G2.get b = some ⟨20, f⟩ := by rw [hge b hb]; exact hgb
    have hold : ∀ b' blk, G1.get b' = some blk → G2.get b' = some blk := fun b' blk h => by rw [hlt b' (hwf b' blk h)]; exact h
    have hbs2 : ∀ b' ∈ bs, NamesAt G2 b' 0 ∧ b' ≠ b := fun b' h => by
      obtain ⟨f', h1, h2⟩ := hbs b' h
      exact ⟨⟨f', hold b' _ h1, h2⟩, fun e => by have := hwf b' _ h1; omega⟩
    have hall2 : AllV G2 v bs := hall.to fun b' blk _ h => hold b' blk h
    have habb : ∀ ab x l s, v = .sl ab 0 l x s → ab ≠ b := fun ab x l s h => by
      rcases hall with ⟨_, h1⟩ | ⟨_, ab', fa, h1, _, h3, _⟩
      · rw [h1] at h; cases h
      · rw [h1] at h; cases h
        have := hwf _ _ h3; omega
    clear hwf hold hbs hall hgb hge hlt hnx hle hwf2
    refine Runs.seq ?_
    refine Runs.seq ?_
    refine Runs.reg [1, 2, 3, 4, 18] (by kernel_rfl) fun kk hk oo ho => ?_
    clear ho
    simp +decide only [↓EV, EV, ty, ↓reduceIte, decide_true, decide_false, Int.cast_ofNat_Int, Int.reduceToNat, Nat.reduceMul, Nat.reduceAdd, Nat.reduceBEq, Bool.or_self, Bool.or_true, Bool.true_or, Bool.or_false, Bool.false_or, beq_self_eq_true, Int.reduceBEq, eq_self, List.map_cons, List.map_nil, List.append_nil, List.nil_append, Bool.not_true, Bool.not_false, Bool.and_self, Bool.true_and, Bool.false_and, Bool.and_false, bne_self_eq_false, Int.reduceBNe]
    subst hk
    refine Runs.cond (by kernel_rfl) rfl (fun hc => ?_) (fun hc => ?_)
    · cases hc
    · refine Runs.skip ?_
      refine Runs.seq ?_
      refine Runs.seq ?_
      refine Runs.reg [1, 2, 3, 4, 20, 21] (by kernel_rfl) fun kk hk oo ho => ?_
      clear ho
      simp +decide only [↓EV, EV, ty, ↓reduceIte, decide_true, decide_false, Int.cast_ofNat_Int, Int.reduceToNat, Nat.reduceMul, Nat.reduceAdd, Nat.reduceBEq, Bool.or_self, Bool.or_true, Bool.true_or, Bool.or_false, Bool.false_or, beq_self_eq_true, Int.reduceBEq, eq_self, List.map_cons, List.map_nil, List.append_nil, List.nil_append, Bool.not_true, Bool.not_false, Bool.and_self, Bool.true_and, Bool.false_and, Bool.and_false]
      subst hk
      refine Runs.block ?_
      refine Runs.loop (fun m env G => ∃ (i : Nat), m + i = 20 ∧ env = envL [(1, .lst 1 20 (rows 1 nameL)), (2, v), (3, .int .i64 bs.length), (4, .sl b 0 20 false 1), (20, .int .i64 20), (21, .int .i64 i)] ∧ G.get = G2.get) 20 ⟨0, rfl, rfl, rfl⟩ ?_
      rintro m' _ G3 ⟨i, hmi, rfl, hg3⟩ IH2
      refine Runs.seq ?_
      refine Runs.reg [1, 2, 3, 4, 20, 21, 22] (by kernel_rfl) fun kk hk oo ho => ?_
      clear ho
      simp +decide only [↓EV, EV, ty, ↓reduceIte, decide_true, decide_false, Int.cast_ofNat_Int, Int.reduceToNat, Nat.reduceMul, Nat.reduceAdd, Nat.reduceBEq, Bool.or_self, Bool.or_true, Bool.true_or, Bool.or_false, Bool.false_or, beq_self_eq_true, Int.reduceBEq, eq_self, List.map_cons, List.map_nil, List.append_nil, List.nil_append, Bool.not_true, Bool.not_false, Bool.and_self, Bool.true_and, Bool.false_and, Bool.and_false]
      subst hk
      refine Runs.seq ?_
      refine Runs.cond (by kernel_rfl) rfl (fun hc => ?_) (fun hc => ?_)
      · have hc' := ofB hc
        have hrow := refRow i (by omega)
        have hfi := hfn i (by omega)
        have hb3 : G3.get b = some ⟨20, f⟩ := by rw [hg3]; exact hb2
        refine Runs.skip ?_
        refine Runs.seq ?_
        refine Runs.block ?_
        refine Runs.seq ?_
        refine Runs.reg [1, 2, 3, 4, 5, 20, 21] (by kernel_rfl) fun kk hk oo ho => ?_
        clear ho
        simp +decide only [↓EV, EV, ty, ↓reduceIte, decide_true, decide_false, Int.cast_ofNat_Int, Int.reduceToNat, Nat.reduceMul, Nat.reduceAdd, Nat.reduceBEq, Bool.or_self, Bool.or_true, Bool.true_or, Bool.or_false, Bool.false_or, beq_self_eq_true, Int.reduceBEq, eq_self, List.map_cons, List.map_nil, List.append_nil, List.nil_append, Bool.not_true, Bool.not_false, Bool.and_self, Bool.true_and, Bool.false_and, Bool.and_false]
        subst hk
        refine Runs.seq ?_
        refine Runs.drawN [1, 2, 3, 4, 20, 21, 32] [] 9 (by kernel_rfl) (by kernel_rfl) (by kernel_rfl) fun kk hk oo ho => ?_
        clear ho
        simp +decide only [↓EV, EV, ty, ↓reduceIte, decide_true, decide_false, Int.cast_ofNat_Int, Int.reduceToNat, Nat.reduceMul, Nat.reduceAdd, Nat.reduceBEq, Bool.or_self, Bool.or_true, Bool.true_or, Bool.or_false, Bool.false_or, beq_self_eq_true, Int.reduceBEq, eq_self, List.map_cons, List.map_nil, List.append_nil, List.nil_append, Bool.not_true, Bool.not_false, Bool.and_self, Bool.true_and, Bool.false_and, Bool.and_false, hb3, hfi, hrow]
        refine ⟨by omega, by omega, by omega, ?_⟩
        subst hk
        refine Runs.cond (by kernel_rfl) rfl (fun hc => ?_) (fun hc => ?_)
        · cases hc
        · refine Runs.skip ?_
          refine Runs.inBlock ?_
          refine Runs.reg [1, 2, 3, 4, 20, 21] (by kernel_rfl) fun kk hk oo ho => ?_
          clear ho
          simp +decide only [↓EV, EV, ty, ↓reduceIte, decide_true, decide_false, Int.cast_ofNat_Int, Int.reduceToNat, Nat.reduceMul, Nat.reduceAdd, Nat.reduceBEq, Bool.or_self, Bool.or_true, Bool.true_or, Bool.or_false, Bool.false_or, beq_self_eq_true, Int.reduceBEq, eq_self, List.map_cons, List.map_nil, List.append_nil, List.nil_append, Bool.not_true, Bool.not_false, Bool.and_self, Bool.true_and, Bool.false_and, Bool.and_false]
          subst hk
          rw [i64s (by omega) (by omega)]
          exact IH2 (m' - 1) _ _ (by omega) ⟨i + 1, by omega, rfl, hg3⟩
      · have hc' := ofNB hc
        refine Runs.wf fun hwf => ?_
        have hnew : ∀ b', b' ∈ bs ++ [b] → NamesAt G3 b' 0 := fun b' h => by
          unfold NamesAt
          rw [hg3]
          rcases List.mem_append.1 h with h | h
          · exact (hbs2 b' h).1
          · simp at h; subst h; exact ⟨f, hb2, fun j _ hj => hfn j hj⟩
        have hnd2 : (bs ++ [b]).Nodup := List.nodup_append.2 ⟨hnd, by simp, fun a ha c hc he => by simp at hc; subst hc; exact (hbs2 a ha).2 he⟩
        have hall3 : AllV G3 v bs := hall2.to fun b' blk _ h => by rw [hg3]; exact h
        refine Runs.exit rfl ?_
        rcases hall3 with ⟨hb0, hv⟩ | ⟨h0, ab, fa, hv, hab, hga, hfa⟩
        · subst hb0; subst hv
          refine Runs.reg [1, 2, 3] (by kernel_rfl) fun kk hk oo ho => ?_
          clear ho
          simp +decide only [↓EV, EV, ty, ↓reduceIte, decide_true, decide_false, Int.cast_ofNat_Int, Int.reduceToNat, Nat.reduceMul, Nat.reduceAdd, Nat.reduceBEq, Bool.or_self, Bool.or_true, Bool.true_or, Bool.or_false, Bool.false_or, beq_self_eq_true, Int.reduceBEq, eq_self, List.map_cons, List.map_nil, List.append_nil, List.nil_append, Bool.not_true, Bool.not_false, Bool.and_self, Bool.true_and, Bool.false_and, Bool.and_false]
          subst hk
          refine Runs.inBlock ?_
          refine Runs.reg [1, 2, 3] (by kernel_rfl) fun kk hk oo ho => ?_
          clear ho
          simp +decide only [↓EV, EV, ty, ↓reduceIte, decide_true, decide_false, Int.cast_ofNat_Int, Int.reduceToNat, Nat.reduceMul, Nat.reduceAdd, Nat.reduceBEq, Bool.or_self, Bool.or_true, Bool.true_or, Bool.or_false, Bool.false_or, beq_self_eq_true, Int.reduceBEq, eq_self, List.map_cons, List.map_nil, List.append_nil, List.nil_append, Bool.not_true, Bool.not_false, Bool.and_self, Bool.true_and, Bool.false_and, Bool.and_false]
          subst hk
          rw [i64s (by omega) (by omega)]
          refine IH 4 _ _ (by simp at hm; omega) ⟨[] ++ [b], _, by simp, rfl, hnd2, fun b' h => ?_, .inr ⟨by simp, G3.next, appF 1 0 (fun _ => .undef) (fun i => List.take 1 (List.drop i [AV.sl b 0 20 false 1])), rfl, fun h => ?_, upd_same _ _ _, appL (bs := []) (fun j hj => by simp at hj)⟩⟩
          · obtain ⟨f', h1, h2⟩ := hnew b' h
            exact ⟨f', by show upd _ _ _ _ = _; rw [upd_ne _ _ (by have := hwf b' _ h1; omega)]; exact h1, h2⟩
          · obtain ⟨f', h1, h2⟩ := hnew _ h
            have := hwf _ _ h1; omega
        · subst hv
          have hne := habb ab _ _ _ rfl
          refine Runs.reg [1, 2, 3] (by kernel_rfl) fun kk hk oo ho => ?_
          clear ho
          simp +decide only [↓EV, EV, ty, ↓reduceIte, decide_true, decide_false, Int.cast_ofNat_Int, Int.reduceToNat, Nat.reduceMul, Nat.reduceAdd, Nat.reduceBEq, Bool.or_self, Bool.or_true, Bool.true_or, Bool.or_false, Bool.false_or, beq_self_eq_true, Int.reduceBEq, eq_self, List.map_cons, List.map_nil, List.append_nil, List.nil_append, Bool.not_true, Bool.not_false, Bool.and_self, Bool.true_and, Bool.false_and, Bool.and_false, hga]
          refine ⟨by omega, ?_⟩
          subst hk
          refine Runs.inBlock ?_
          refine Runs.reg [1, 2, 3] (by kernel_rfl) fun kk hk oo ho => ?_
          clear ho
          simp +decide only [↓EV, EV, ty, ↓reduceIte, decide_true, decide_false, Int.cast_ofNat_Int, Int.reduceToNat, Nat.reduceMul, Nat.reduceAdd, Nat.reduceBEq, Bool.or_self, Bool.or_true, Bool.true_or, Bool.or_false, Bool.false_or, beq_self_eq_true, Int.reduceBEq, eq_self, List.map_cons, List.map_nil, List.append_nil, List.nil_append, Bool.not_true, Bool.not_false, Bool.and_self, Bool.true_and, Bool.false_and, Bool.and_false]
          subst hk
          rw [i64s (by omega) (by omega)]
          refine IH (m - 1) _ _ (by omega) ⟨bs ++ [b], .sl G3.next 0 (bs.length + 1) false 1, by simp; omega, by simp, hnd2, fun b' h => ?_, .inr ⟨by simp, G3.next, appF 1 bs.length fa (fun i => List.take 1 (List.drop i [AV.sl b 0 20 false 1])), by simp, fun h => ?_, ?_, appL hfa⟩⟩
          · obtain ⟨f', h1, h2⟩ := hnew b' h
            have hne2 : b' ≠ ab := by
              rcases List.mem_append.1 h with h | h
              · exact fun e => hab (e ▸ h)
              · simp at h; subst h; exact Ne.symm hne
            exact ⟨f', by show upd (upd _ _ _) G3.next _ _ = _; rw [upd_ne _ _ (by have := hwf b' _ h1; omega), upd_ne _ _ hne2]; exact h1, h2⟩
          · obtain ⟨f', h1, h2⟩ := hnew _ h
            have := hwf _ _ h1; omega
          · rw [show (bs ++ [b]).length = bs.length + 1 by simp]
            exact upd_same _ _ _
  · have hc' := ofNB hc
    have hl5 : bs.length = 5 := by omega
    clear IH
    refine Runs.exit rfl ?_
    refine Runs.seq ?_
    refine Runs.seq ?_
    rcases hall with ⟨hb0, _⟩ | ⟨h0, ab, fa, hv, hab, hga, hfa⟩
    · subst hb0; simp at hl5
    subst hv
    rw [hl5] at hga hfa hc ⊢
    refine Runs.reg [1, 2, 39, 40] (by kernel_rfl) fun kk hk oo ho => ?_
    clear ho
    simp +decide only [↓EV, EV, ty, ↓reduceIte, decide_true, decide_false, Int.cast_ofNat_Int, Int.reduceToNat, Nat.reduceMul, Nat.reduceAdd, Nat.reduceBEq, Bool.or_self, Bool.or_true, Bool.true_or, Bool.or_false, Bool.false_or, beq_self_eq_true, Int.reduceBEq, eq_self, List.map_cons, List.map_nil, List.append_nil, List.nil_append, Bool.not_true, Bool.not_false, Bool.and_self, Bool.true_and, Bool.false_and, Bool.and_false]
    subst hk
    refine Runs.block ?_
    refine Runs.loop (fun m env G => ∃ (k : Nat), m + k = 5 ∧ env = envL [(1, .lst 1 20 (rows 1 nameL)), (2, .sl ab 0 5 false 1), (39, .int .i64 5), (40, .int .i64 k)] ∧ (∀ j, k ≤ j → j < 5 → NamesAt G (bs.getD j 0) 0) ∧ G.get ab = some ⟨5, fa⟩) 5 ⟨0, rfl, rfl, fun j _ hj => hbs _ (by rw [List.getD_eq_getElem?_getD, List.getElem?_eq_getElem (show j < bs.length by omega)]; exact List.getElem_mem _), hga⟩ ?_
    rintro m2 _ G2 ⟨k, hmk, rfl, hnm, hga2⟩ IH
    refine Runs.seq ?_
    refine Runs.reg [1, 2, 39, 40, 41] (by kernel_rfl) fun kk hk oo ho => ?_
    clear ho
    simp +decide only [↓EV, EV, ty, ↓reduceIte, decide_true, decide_false, Int.cast_ofNat_Int, Int.reduceToNat, Nat.reduceMul, Nat.reduceAdd, Nat.reduceBEq, Bool.or_self, Bool.or_true, Bool.true_or, Bool.or_false, Bool.false_or, beq_self_eq_true, Int.reduceBEq, eq_self, List.map_cons, List.map_nil, List.append_nil, List.nil_append, Bool.not_true, Bool.not_false, Bool.and_self, Bool.true_and, Bool.false_and, Bool.and_false]
    subst hk
    refine Runs.seq ?_
    refine Runs.cond (by kernel_rfl) rfl (fun hc => ?_) (fun hc => ?_)
    · have hk5 := ofB hc
      have hbk : bs.getD k 0 ∈ bs := by rw [List.getD_eq_getElem?_getD, List.getElem?_eq_getElem (show k < bs.length by omega)]; exact List.getElem_mem _
      have hdist : ∀ j, k < j → j < 5 → bs.getD j 0 ≠ bs.getD k 0 := fun j h1 h2 he => by
        rw [List.getD_eq_getElem?_getD, List.getD_eq_getElem?_getD, List.getElem?_eq_getElem (show j < bs.length by omega), List.getElem?_eq_getElem (show k < bs.length by omega)] at he
        have := List.pairwise_iff_getElem.1 hnd k j (by omega) (by omega) h1
        exact this he.symm
      have hfk := hfa k (by omega)
      generalize hbb : bs.getD k 0 = b at hfk hbk hdist
      have hnab : b ≠ ab := fun e => hab (e ▸ hbk)
      refine Runs.skip ?_
      refine Runs.seq ?_
      refine Runs.block ?_
      refine Runs.seq ?_
      refine Runs.reg [1, 2, 6, 39, 40] (by kernel_rfl) fun kk hk oo ho => ?_
      clear ho
      simp +decide only [↓EV, EV, ty, ↓reduceIte, decide_true, decide_false, Int.cast_ofNat_Int, Int.reduceToNat, Nat.reduceMul, Nat.reduceAdd, Nat.reduceBEq, Bool.or_self, Bool.or_true, Bool.true_or, Bool.or_false, Bool.false_or, beq_self_eq_true, Int.reduceBEq, eq_self, List.map_cons, List.map_nil, List.append_nil, List.nil_append, Bool.not_true, Bool.not_false, Bool.and_self, Bool.true_and, Bool.false_and, Bool.and_false]
      subst hk
      refine Runs.seq ?_
      refine Runs.reg [1, 2, 6, 39, 40, 47, 48] (by kernel_rfl) fun kk hk oo ho => ?_
      clear ho
      simp +decide only [↓EV, EV, ty, ↓reduceIte, decide_true, decide_false, Int.cast_ofNat_Int, Int.reduceToNat, Nat.reduceMul, Nat.reduceAdd, Nat.reduceBEq, Bool.or_self, Bool.or_true, Bool.true_or, Bool.or_false, Bool.false_or, beq_self_eq_true, Int.reduceBEq, eq_self, List.map_cons, List.map_nil, List.append_nil, List.nil_append, Bool.not_true, Bool.not_false, Bool.and_self, Bool.true_and, Bool.false_and, Bool.and_false, hga2, hfk]
      refine ⟨by omega, by omega, ?_⟩
      subst hk
      refine Runs.block ?_
      refine Runs.loop (fun m env G => ∃ (i : Nat), m + i = 20 ∧ env = envL [(1, .lst 1 20 (rows 1 nameL)), (2, .sl ab 0 5 false 1), (6, .int .i64 k), (39, .int .i64 5), (40, .int .i64 k), (47, .int .i64 20), (48, .int .i64 i)] ∧ NamesAt G b i ∧ (∀ j, k < j → j < 5 → NamesAt G (bs.getD j 0) 0) ∧ G.get ab = some ⟨5, fa⟩) 20 ⟨0, rfl, rfl, by have := hnm k (Nat.le_refl _) (by omega); rwa [hbb] at this, fun j h1 h2 => hnm j (by omega) h2, hga2⟩ ?_
      rintro m3 _ G3 ⟨i, hmi, rfl, ⟨f, hgb, hf⟩, hrest, hga3⟩ IH2
      refine Runs.seq ?_
      refine Runs.reg [1, 2, 6, 39, 40, 47, 48, 49] (by kernel_rfl) fun kk hk oo ho => ?_
      clear ho
      simp +decide only [↓EV, EV, ty, ↓reduceIte, decide_true, decide_false, Int.cast_ofNat_Int, Int.reduceToNat, Nat.reduceMul, Nat.reduceAdd, Nat.reduceBEq, Bool.or_self, Bool.or_true, Bool.true_or, Bool.or_false, Bool.false_or, beq_self_eq_true, Int.reduceBEq, eq_self, List.map_cons, List.map_nil, List.append_nil, List.nil_append, Bool.not_true, Bool.not_false, Bool.and_self, Bool.true_and, Bool.false_and, Bool.and_false]
      subst hk
      refine Runs.seq ?_
      refine Runs.cond (by kernel_rfl) rfl (fun hc => ?_) (fun hc => ?_)
      · have hi20 := ofB hc
        have hrow := refRow i (by omega)
        have hfi := hf i (Nat.le_refl _) (by omega)
        refine Runs.skip ?_
        refine Runs.seq ?_
        refine Runs.block ?_
        refine Runs.seq ?_
        refine Runs.reg [1, 2, 6, 7, 39, 40, 47, 48] (by kernel_rfl) fun kk hk oo ho => ?_
        clear ho
        simp +decide only [↓EV, EV, ty, ↓reduceIte, decide_true, decide_false, Int.cast_ofNat_Int, Int.reduceToNat, Nat.reduceMul, Nat.reduceAdd, Nat.reduceBEq, Bool.or_self, Bool.or_true, Bool.true_or, Bool.or_false, Bool.false_or, beq_self_eq_true, Int.reduceBEq, eq_self, List.map_cons, List.map_nil, List.append_nil, List.nil_append, Bool.not_true, Bool.not_false, Bool.and_self, Bool.true_and, Bool.false_and, Bool.and_false]
        subst hk
        refine Runs.seq ?_
        refine Runs.seq ?_
        refine Runs.drawN [1, 2, 6, 7, 39, 40, 47, 48, 62] [] 12 (by kernel_rfl) (by kernel_rfl) (by kernel_rfl) fun kk hk oo ho => ?_
        clear ho
        simp +decide only [↓EV, EV, ty, ↓reduceIte, decide_true, decide_false, Int.cast_ofNat_Int, Int.reduceToNat, Nat.reduceMul, Nat.reduceAdd, Nat.reduceBEq, Bool.or_self, Bool.or_true, Bool.true_or, Bool.or_false, Bool.false_or, beq_self_eq_true, Int.reduceBEq, eq_self, List.map_cons, List.map_nil, List.append_nil, List.nil_append, Bool.not_true, Bool.not_false, Bool.and_self, Bool.true_and, Bool.false_and, Bool.and_false, hga3, hfk, hgb, hfi, hrow]
        refine ⟨by omega, by omega, by omega, by omega, by omega, ?_⟩
        subst hk
        refine Runs.cond (by kernel_rfl) rfl (fun hc => ?_) (fun hc => ?_)
        · cases hc
        · refine Runs.skip ?_
          refine Runs.reg [1, 2, 6, 39, 40, 47, 48] (by kernel_rfl) fun kk hk oo ho => ?_
          clear ho
          simp +decide only [↓EV, EV, ty, ↓reduceIte, decide_true, decide_false, Int.cast_ofNat_Int, Int.reduceToNat, Nat.reduceMul, Nat.reduceAdd, Nat.reduceBEq, Bool.or_self, Bool.or_true, Bool.true_or, Bool.or_false, Bool.false_or, beq_self_eq_true, Int.reduceBEq, eq_self, List.map_cons, List.map_nil, List.append_nil, List.nil_append, Bool.not_true, Bool.not_false, Bool.and_self, Bool.true_and, Bool.false_and, Bool.and_false, hga3, hfk, hgb, hfi, hrow]
          refine ⟨by omega, by omega, by omega, by omega, ?_⟩
          subst hk
          refine Runs.inBlock ?_
          refine Runs.reg [1, 2, 6, 39, 40, 47, 48] (by kernel_rfl) fun kk hk oo ho => ?_
          clear ho
          simp +decide only [↓EV, EV, ty, ↓reduceIte, decide_true, decide_false, Int.cast_ofNat_Int, Int.reduceToNat, Nat.reduceMul, Nat.reduceAdd, Nat.reduceBEq, Bool.or_self, Bool.or_true, Bool.true_or, Bool.or_false, Bool.false_or, beq_self_eq_true, Int.reduceBEq, eq_self, List.map_cons, List.map_nil, List.append_nil, List.nil_append, Bool.not_true, Bool.not_false, Bool.and_self, Bool.true_and, Bool.false_and, Bool.and_false]
          subst hk
          rw [i64s (by omega) (by omega)]
          refine IH2 (m3 - 1) _ _ (by omega) ⟨i + 1, by omega, rfl, ⟨_, upd_same _ _ _, fun j h1 h2 => ?_⟩, fun j h1 h2 => ?_, ?_⟩
          · show upd _ _ _ _ = _
            rw [upd_ne _ _ (by omega)]
            exact hf j (by omega) h2
          · obtain ⟨f', e1, e2⟩ := hrest j h1 h2
            exact ⟨f', by show upd _ _ _ _ = _; rw [upd_ne _ _ (hdist j h1 h2)]; exact e1, e2⟩
          · show upd _ _ _ _ = _
            rw [upd_ne _ _ (Ne.symm hnab)]
            exact hga3
      · refine Runs.exit rfl ?_
        refine Runs.inBlock ?_
        refine Runs.reg [1, 2, 39, 40] (by kernel_rfl) fun kk hk oo ho => ?_
        clear ho
        simp +decide only [↓EV, EV, ty, ↓reduceIte, decide_true, decide_false, Int.cast_ofNat_Int, Int.reduceToNat, Nat.reduceMul, Nat.reduceAdd, Nat.reduceBEq, Bool.or_self, Bool.or_true, Bool.true_or, Bool.or_false, Bool.false_or, beq_self_eq_true, Int.reduceBEq, eq_self, List.map_cons, List.map_nil, List.append_nil, List.nil_append, Bool.not_true, Bool.not_false, Bool.and_self, Bool.true_and, Bool.false_and, Bool.and_false]
        subst hk
        rw [i64s (by omega) (by omega)]
        exact IH (m2 - 1) _ _ (by omega) ⟨k + 1, by omega, rfl, fun j h1 h2 => hrest j (by omega) h2, hga3⟩
    · refine Runs.exit rfl ?_
      refine Runs.seq ?_
      refine Runs.reg [0] (by kernel_rfl) fun kk hk oo ho => ?_
      clear ho
      simp +decide only [↓EV, EV, ty, ↓reduceIte, decide_true, decide_false, Int.cast_ofNat_Int, Int.reduceToNat, Nat.reduceMul, Nat.reduceAdd, Nat.reduceBEq, Bool.or_self, Bool.or_true, Bool.true_or, Bool.or_false, Bool.false_or, beq_self_eq_true, Int.reduceBEq, eq_self, List.map_cons, List.map_nil, List.append_nil, List.nil_append, Bool.not_true, Bool.not_false, Bool.and_self, Bool.true_and, Bool.false_and, Bool.and_false]
      refine CallAt.pure (fixed_cp _) ?_
      simp +decide only [↓EV, EV, ty, ↓reduceIte, decide_true, decide_false, Int.cast_ofNat_Int, Int.reduceToNat, Nat.reduceMul, Nat.reduceAdd, Nat.reduceBEq, Bool.or_self, Bool.or_true, Bool.true_or, Bool.or_false, Bool.false_or, beq_self_eq_true, Int.reduceBEq, eq_self, List.map_cons, List.map_nil, List.append_nil, List.nil_append, Bool.not_true, Bool.not_false, Bool.and_self, Bool.true_and, Bool.false_and, Bool.and_false]
      subst hk
      refine Runs.retL [.tmp 0] (by kernel_rfl) (by kernel_rfl) ?_
      simp +decide only [↓EV, EV, ty, ↓reduceIte, decide_true, decide_false, Int.cast_ofNat_Int, Int.reduceToNat, Nat.reduceMul, Nat.reduceAdd, Nat.reduceBEq, Bool.or_self, Bool.or_true, Bool.true_or, Bool.or_false, Bool.false_or, beq_self_eq_true, Int.reduceBEq, eq_self, List.map_cons, List.map_nil, List.append_nil, List.nil_append, Bool.not_true, Bool.not_false, Bool.and_self, Bool.true_and, Bool.false_and, Bool.and_false]
      subst hR
      exact .bool _

end Go.Fw.Sx
