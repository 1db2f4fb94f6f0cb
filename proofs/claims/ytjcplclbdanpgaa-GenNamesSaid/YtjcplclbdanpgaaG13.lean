/- gen.stack. -/
import Derived.Test.YtjcplclbdanpgaaG9
namespace Go.Fw.Sx
open Go Go.Fw Go.Proofs
set_option maxRecDepth 100000
set_option linter.unusedSimpArgs false
set_option linter.unusedVariables false
/-- The variable of pairs, with blocks 'X' that are none of its own. -/
structure PSX (X : Nat → Prop) (G : Heap) (bp : Nat) (ps : List (Int × Int)) : Prop where
  nX : ¬ X bp
  lt : bp < G.next
  Xlt : ∀ b, X b → b < G.next
  st : ∃ f, G.get bp = some ⟨1, f⟩ ∧ (ps = [] ∧ f 0 = .nils ∨ 0 < ps.length ∧ ∃ b h, f 0 = .sl b 0 ps.length false 2 ∧ ¬ X b ∧ b ≠ bp ∧ b < G.next ∧ G.get b = some ⟨ps.length * 2, h⟩ ∧ ∀ i, i < ps.length → h (i * 2) = .int .i64 (ps.getD i (0, 0)).1 ∧ h (i * 2 + 1) = .int .i64 (ps.getD i (0, 0)).2)
theorem PSX.mono {X X' : Nat → Prop} {G G' : Heap} {bp : Nat} {ps : List (Int × Int)} (h : PSX X G bp ps) (hn : G.next ≤ G'.next) (hg : ∀ b, b < G.next → ¬ X b → G'.get b = G.get b) (hX : ∀ b, X' b → X b ∨ G.next ≤ b ∧ b < G'.next) : PSX X' G' bp ps := by
  have hlt : ∀ b, b < G.next → ¬ X b → ¬ X' b := fun b h1 h2 h3 => by
    rcases hX b h3 with h | h
    · exact h2 h
    · omega
  obtain ⟨f, h1, h2⟩ := h.st
  refine ⟨hlt bp h.lt h.nX, by have := h.lt; omega, fun b hb => ?_, f, by rw [hg bp h.lt h.nX]; exact h1, ?_⟩
  · rcases hX b hb with h' | h'
    · have := h.Xlt b h'; omega
    · exact h'.2
  · rcases h2 with h2 | ⟨h0, b, hh, e1, e2, e3, e4, e5, e6⟩
    · exact .inl h2
    · exact .inr ⟨h0, b, hh, e1, hlt b e4 e2, e3, by omega, by rw [hg b e4 e2]; exact e5, e6⟩
theorem PS.toX {base : Nat} {G : Heap} {bp : Nat} {ps : List (Int × Int)} (h : PS base G bp ps) : PSX (fun b => b < base ∧ b ≠ bp) G bp ps := by
  obtain ⟨hlt, hle, f, hg, hst⟩ := h
  refine ⟨fun h => h.2 rfl, by omega, fun b hb => by omega, f, hg, ?_⟩
  rcases hst with h | ⟨h0, b, hh, e1, e2, e3, e4, e5⟩
  · exact .inl h
  · exact .inr ⟨h0, b, hh, e1, fun h => by omega, by omega, e3, e4, e5⟩
theorem PSX.toPS {base : Nat} {G : Heap} {bp : Nat} {ps : List (Int × Int)} (h : PSX (fun b => b < base ∧ b ≠ bp) G bp ps) (hlt : bp < base) (hle : base ≤ G.next) : PS base G bp ps := by
  obtain ⟨_, _, _, f, hg, hst⟩ := h
  refine ⟨hlt, hle, f, hg, ?_⟩
  rcases hst with h | ⟨h0, b, hh, e1, e2, e3, e4, e5, e6⟩
  · exact .inl h
  · exact .inr ⟨h0, b, hh, e1, Nat.le_of_not_lt fun h => e2 ⟨h, e3⟩, e4, e5, e6⟩
theorem toX_ct {X : Nat → Prop} {bp : Nat} {G : Heap} {ps : List (Int × Int)} {u v : Int} (h : PSX X G bp ps) (hlen : ps.length ≤ 1000000000) : Ct cx 11 [.int .i64 u, .int .i64 v, .ptr bp 0] G fun _ G' => PSX X G' bp (ps ++ [(u, v)]) ∧ G.next ≤ G'.next ∧ ∀ b, X b → G'.get b = G.get b := by
  obtain ⟨hnX, hlt, hXlt, f, hg, hst⟩ := h
  refine Ct.start (fun _ => false) Try.func11 rfl (by kernel_rfl) (by kernel_rfl) fun R hR => ?_
  simp only [EV]
  have hXb : ∀ b, X b → b ≠ bp := fun b hb e => hnX (e ▸ hb)
  rcases hst with ⟨rfl, h0⟩ | ⟨hp, b, h, h0, hb, hb2, hb3, hgb, hh⟩
  · refine Runs.reg [] (by kernel_rfl) fun kk hk oo ho => ?_
    clear ho
    have e1 : (bp = G.next) = False := eq_false (by omega)
    simp +decide only [↓EV, EV, ty, ↓reduceIte, decide_true, decide_false, Int.cast_ofNat_Int, hg, h0, e1]
    subst hk
    refine Runs.finL [] (by kernel_rfl) (by kernel_rfl) ?_
    simp +decide only [↓EV, EV]
    subst hR
    refine ⟨⟨hnX, by show bp < G.next + 1; omega, fun b hb => by have := hXlt b hb; show b < G.next + 1; omega, _, upd_same _ _ _, .inr ⟨by simp, G.next, appF 2 0 (fun _ => .undef) (fun i => List.take 2 (List.drop (i * 2) [AV.int .i64 u, AV.int .i64 v])), by simp [upd_same], fun hx => by have := hXlt _ hx; omega, by omega, by show G.next < G.next + 1; omega, ?_, appPair (len := 0) rfl (fun i hi => by omega)⟩⟩, Nat.le_succ _, fun b hb => ?_⟩
    · show upd _ bp _ G.next = _
      rw [upd_ne _ _ (by omega)]
      exact upd_same _ _ _
    · have := hXlt b hb
      show upd (upd G.get G.next _) bp _ b = _
      rw [upd_ne _ _ (hXb b hb), upd_ne _ _ (by omega)]
  · refine Runs.reg [] (by kernel_rfl) fun kk hk oo ho => ?_
    clear ho
    have e1 : (bp = G.next) = False := eq_false (by omega)
    have e2 : (bp = b) = False := eq_false (by omega)
    simp +decide only [↓EV, EV, ty, ↓reduceIte, decide_true, decide_false, Int.cast_ofNat_Int, hg, h0, e1, e2, hgb]
    refine ⟨⟨by omega, by omega, by omega⟩, ?_⟩
    subst hk
    refine Runs.finL [] (by kernel_rfl) (by kernel_rfl) ?_
    simp +decide only [↓EV, EV]
    subst hR
    refine ⟨⟨hnX, by show bp < G.next + 1; omega, fun b hb => by have := hXlt b hb; show b < G.next + 1; omega, _, upd_same _ _ _, .inr ⟨by simp, G.next, appF 2 ps.length h (fun i => List.take 2 (List.drop (i * 2) [AV.int .i64 u, AV.int .i64 v])), by simp [upd_same], fun hx => by have := hXlt _ hx; omega, by omega, by show G.next < G.next + 1; omega, ?_, fun i hi => appPair rfl hh i (by simpa using hi)⟩⟩, Nat.le_succ _, fun b' hb' => ?_⟩
    · show upd _ bp _ G.next = _
      rw [upd_ne _ _ (by omega)]
      rw [show (ps ++ [(u, v)]).length = ps.length + 1 from by simp]
      exact upd_same _ _ _
    · have := hXlt b' hb'
      show upd (upd (upd G.get b _) G.next _) bp _ b' = _
      rw [upd_ne _ _ (hXb b' hb'), upd_ne _ _ (by omega), upd_ne _ _ (show b' ≠ b from fun e => hb (by rw [← e]; exact hb'))]
abbrev T3 := Int × Int × Int
def stackF (z : Nat → Int) : Nat → List T3
  | 0 => [(0, 1, 2), (0, 1, 2)]
  | i + 1 => let fs := stackF z i; let f := fs.getD ((z i).tmod fs.length).toNat (0, 0, 0); (fs.set ((z i).tmod fs.length).toNat (f.1, f.2.1, 3 + (i : Int))) ++ [(f.2.1, f.2.2, 3 + (i : Int)), (f.1, f.2.2, 3 + (i : Int))]
def stackE (z : Nat → Int) : Nat → List (Int × Int)
  | 0 => [(0, 1), (0, 2), (1, 2)]
  | i + 1 => let fs := stackF z i; let f := fs.getD ((z i).tmod fs.length).toNat (0, 0, 0); stackE z i ++ [(f.1, 3 + (i : Int)), (f.2.1, 3 + (i : Int)), (f.2.2, 3 + (i : Int))]
theorem stackF_length (z : Nat → Int) : ∀ i, (stackF z i).length = 2 + 2 * i
  | 0 => rfl
  | i + 1 => by simp [stackF, stackF_length z i]; omega
theorem stackE_length (z : Nat → Int) : ∀ i, (stackE z i).length = 3 + 3 * i
  | 0 => rfl
  | i + 1 => by simp [stackE, stackE_length z i]; omega
def cellF (fs : List T3) : Nat → AV := fun j => let f := fs.getD (j / 3) (0, 0, 0); if j % 3 = 0 then .int .i64 f.1 else if j % 3 = 1 then .int .i64 f.2.1 else .int .i64 f.2.2
theorem cellF_at (fs : List T3) (k : Nat) : cellF fs (k * 3) = .int .i64 (fs.getD k (0, 0, 0)).1 ∧ cellF fs (k * 3 + 1) = .int .i64 (fs.getD k (0, 0, 0)).2.1 ∧ cellF fs (k * 3 + 2) = .int .i64 (fs.getD k (0, 0, 0)).2.2 := by
  simp only [cellF]
  rw [show k * 3 / 3 = k by omega, show (k * 3 + 1) / 3 = k by omega, show (k * 3 + 2) / 3 = k by omega, if_pos (by omega), if_neg (by omega), if_pos (by omega), if_neg (by omega), if_neg (by omega)]
  exact ⟨rfl, rfl, rfl⟩
theorem cellF_set (fs : List T3) (k : Nat) (hk : k < fs.length) (a b c : Int) (ff : Nat → AV) (hff : ∀ j, j < fs.length * 3 → ff j = cellF fs j) : ∀ j, j < fs.length * 3 → setL ff (k * 3) [.int .i64 a, .int .i64 b, .int .i64 c] j = cellF (fs.set k (a, b, c)) j := by
  intro j hj
  rw [setL_apply]
  have hg : (fs.set k (a, b, c)).getD (j / 3) (0, 0, 0) = if k = j / 3 then (a, b, c) else fs.getD (j / 3) (0, 0, 0) := by
    simp only [List.getD_eq_getElem?_getD, List.getElem?_set]
    split
    · rename_i h; subst h; simp [hk]
    · rfl
  by_cases h : k * 3 ≤ j ∧ j < k * 3 + 3
  · rw [if_pos (by simpa using h)]
    have hkj : k = j / 3 := by omega
    simp only [cellF, hg, if_pos hkj]
    clear hkj hg
    rcases (show j = k * 3 ∨ j = k * 3 + 1 ∨ j = k * 3 + 2 by omega) with h | h | h
    · subst h; rw [if_pos (by omega), show k * 3 - k * 3 = 0 by omega]; rfl
    · subst h; rw [if_neg (by omega), if_pos (by omega), show k * 3 + 1 - k * 3 = 1 by omega]; rfl
    · subst h; rw [if_neg (by omega), if_neg (by omega), show k * 3 + 2 - k * 3 = 2 by omega]; rfl
  · rw [if_neg (by simpa using h), hff j hj]
    have hkj : ¬ k = j / 3 := by omega
    simp only [cellF, hg, if_neg hkj]
theorem cellF_app (fs : List T3) (a b : T3) (ff : Nat → AV) (hff : ∀ j, j < fs.length * 3 → ff j = cellF fs j) : ∀ j, j < (fs ++ [a, b]).length * 3 → appF 3 fs.length ff (fun i => List.take 3 (List.drop (i * 3) [AV.int .i64 a.1, AV.int .i64 a.2.1, AV.int .i64 a.2.2, AV.int .i64 b.1, AV.int .i64 b.2.1, AV.int .i64 b.2.2])) j = cellF (fs ++ [a, b]) j := by
  intro j hj
  simp only [List.length_append, List.length_cons, List.length_nil] at hj
  simp only [appF]
  by_cases h : j < fs.length * 3
  · rw [if_pos h, hff j h]
    simp only [cellF]
    rw [show (fs ++ [a, b]).getD (j / 3) (0, 0, 0) = fs.getD (j / 3) (0, 0, 0) by simp [List.getD_eq_getElem?_getD, List.getElem?_append, show j / 3 < fs.length by omega]]
  · rw [if_neg h]
    simp only [cellF]
    rcases (show j = fs.length * 3 ∨ j = fs.length * 3 + 1 ∨ j = fs.length * 3 + 2 ∨ j = fs.length * 3 + 3 ∨ j = fs.length * 3 + 4 ∨ j = fs.length * 3 + 5 by omega) with h | h | h | h | h | h <;> subst h
    · rw [show (fs ++ [a, b]).getD (fs.length * 3 / 3) (0, 0, 0) = a by rw [show fs.length * 3 / 3 = fs.length by omega]; simp, if_pos (by omega), show fs.length * 3 - fs.length * 3 = 0 by omega]; rfl
    · rw [show (fs ++ [a, b]).getD ((fs.length * 3 + 1) / 3) (0, 0, 0) = a by rw [show (fs.length * 3 + 1) / 3 = fs.length by omega]; simp, if_neg (by omega), if_pos (by omega), show fs.length * 3 + 1 - fs.length * 3 = 1 by omega]; rfl
    · rw [show (fs ++ [a, b]).getD ((fs.length * 3 + 2) / 3) (0, 0, 0) = a by rw [show (fs.length * 3 + 2) / 3 = fs.length by omega]; simp, if_neg (by omega), if_neg (by omega), show fs.length * 3 + 2 - fs.length * 3 = 2 by omega]; rfl
    · rw [show (fs ++ [a, b]).getD ((fs.length * 3 + 3) / 3) (0, 0, 0) = b by rw [show (fs.length * 3 + 3) / 3 = fs.length + 1 by omega]; simp, if_pos (by omega), show fs.length * 3 + 3 - fs.length * 3 = 3 by omega]; rfl
    · rw [show (fs ++ [a, b]).getD ((fs.length * 3 + 4) / 3) (0, 0, 0) = b by rw [show (fs.length * 3 + 4) / 3 = fs.length + 1 by omega]; simp, if_neg (by omega), if_pos (by omega), show fs.length * 3 + 4 - fs.length * 3 = 4 by omega]; rfl
    · rw [show (fs ++ [a, b]).getD ((fs.length * 3 + 5) / 3) (0, 0, 0) = b by rw [show (fs.length * 3 + 5) / 3 = fs.length + 1 by omega]; simp, if_neg (by omega), if_neg (by omega), show fs.length * 3 + 5 - fs.length * 3 = 5 by omega]; rfl
theorem stack_ct {base bp : Nat} {G : Heap} {n : Nat} {z : Nat → Int} (h : PS base G bp []) (hz : ∀ i, i < n → 0 ≤ z i) (hn : n ≤ 1000000) : Ct cx 56 [ints n z, toF bp] G fun _ G' => PSto base bp G (stackE z n) G' := by
  refine Ct.start (fun t => t == 9 || t == 20) Try.func56 rfl (by kernel_rfl) (by kernel_rfl) fun R hR => ?_
  simp only [EV]
  have hbase := h.le
  have hbpl := h.lt
  have hX0 := h.toX
  refine Runs.seq ?_
  refine Runs.reg [0, 1] (by kernel_rfl) fun kk hk oo ho => ?_
  clear ho
  simp +decide only [↓EV, EV, ty, ↓reduceIte, decide_true, decide_false, Int.cast_ofNat_Int]
  refine CallAt.rel (toX_ct hX0 (by simp)) ?_
  rintro r1 G1 ⟨a1, a2, a3⟩
  simp +decide only [↓EV, EV, ty, ↓reduceIte, decide_true, decide_false, Int.cast_ofNat_Int]
  subst hk
  refine Runs.seq ?_
  refine Runs.reg [0, 1] (by kernel_rfl) fun kk hk oo ho => ?_
  clear ho
  simp +decide only [↓EV, EV, ty, ↓reduceIte, decide_true, decide_false, Int.cast_ofNat_Int]
  refine CallAt.rel (toX_ct a1 (by simp)) ?_
  rintro r2 G2 ⟨b1, b2, b3⟩
  simp +decide only [↓EV, EV, ty, ↓reduceIte, decide_true, decide_false, Int.cast_ofNat_Int]
  subst hk
  refine Runs.seq ?_
  refine Runs.reg [0, 1] (by kernel_rfl) fun kk hk oo ho => ?_
  clear ho
  simp +decide only [↓EV, EV, ty, ↓reduceIte, decide_true, decide_false, Int.cast_ofNat_Int]
  refine CallAt.rel (toX_ct b1 (by simp)) ?_
  rintro r3 G3 ⟨c1, c2, c3⟩
  simp +decide only [↓EV, EV, ty, ↓reduceIte, decide_true, decide_false, Int.cast_ofNat_Int]
  subst hk
  have hold3 : ∀ b, b < base → b ≠ bp → G3.get b = G.get b := fun b hb hne => ((c3 b ⟨hb, hne⟩).trans (b3 b ⟨hb, hne⟩)).trans (a3 b ⟨hb, hne⟩)
  refine Runs.seq ?_
  refine Runs.reg [0, 1, 4] (by kernel_rfl) fun kk hk oo ho => ?_
  clear ho
  simp +decide only [↓EV, EV, ty, ↓reduceIte, decide_true, decide_false, Int.cast_ofNat_Int, Nat.reduceBEq, Bool.false_or, Nat.reduceMul]
  subst hk
  refine Runs.anyG fun G4 hG4 => ?_
  have d1 : G4.next = G3.next + 1 := by rw [hG4]; rfl
  have d2 : ∃ ff, G4.get G3.next = some ⟨6, ff⟩ ∧ ∀ j, j < 6 → ff j = cellF (stackF z 0) j := ⟨_, by rw [hG4]; exact upd_same _ _ _, fun j hj => by
    rcases (show j = 0 ∨ j = 1 ∨ j = 2 ∨ j = 3 ∨ j = 4 ∨ j = 5 by omega) with h | h | h | h | h | h <;> subst h <;> rfl⟩
  have d3 : ∀ b, b < G3.next → G4.get b = G3.get b := fun b hb => by rw [hG4]; exact upd_ne _ _ (by omega)
  obtain ⟨ff, d2, d4⟩ := d2
  have d5 : PSX (fun b => b < base ∧ b ≠ bp ∨ b = G3.next) G4 bp (stackE z 0) := c1.mono (by omega) (fun b hb _ => d3 b hb) fun b hb => by
    rcases hb with hb | hb
    · exact .inl hb
    · exact .inr (by omega)
  have d6 : ∀ b, b < base → b ≠ bp → G4.get b = G.get b := fun b hb hne => (d3 b (by omega)).trans (hold3 b hb hne)
  clear hG4
  generalize hfb : G3.next = fb at *
  have hfb1 : base ≤ fb := by omega
  refine Runs.seq ?_
  refine Runs.reg [1, 4, 21, 22, 23] (by kernel_rfl) fun kk hk oo ho => ?_
  clear ho
  simp +decide only [↓EV, EV, ty, ↓reduceIte, decide_true, decide_false, Int.cast_ofNat_Int]
  subst hk
  refine Runs.block ?_
  refine Runs.loop (fun m env G' => ∃ (i fb : Nat) (x : Bool) (ff : Nat → AV), m + i = n ∧ env = envL [(1, toF bp), (4, .sl fb 0 (2 + 2 * i) x 3), (21, ints n z), (22, .int .i64 n), (23, .int .i64 i)] ∧ base ≤ fb ∧ G'.get fb = some ⟨(2 + 2 * i) * 3, ff⟩ ∧ (∀ j, j < (2 + 2 * i) * 3 → ff j = cellF (stackF z i) j) ∧
      PSX (fun b => b < base ∧ b ≠ bp ∨ b = fb) G' bp (stackE z i) ∧ ∀ b, b < base → b ≠ bp → G'.get b = G.get b) n ⟨0, fb, true, ff, rfl, rfl, hfb1, d2, d4, d5, d6⟩ ?_
  clear d1 d2 d3 d4 d5 d6 hfb hfb1 ff fb a1 a2 a3 b1 b2 b3 c1 c2 c3 hold3 hX0
  rintro m _ G5 ⟨i, fb, x, ff, hm, rfl, hfb, e2, e4, e5, e6⟩ IH
  refine Runs.seq ?_
  refine Runs.reg [1, 4, 21, 22, 23, 24] (by kernel_rfl) fun kk hk oo ho => ?_
  clear ho
  simp +decide only [↓EV, EV, ty, ↓reduceIte, decide_true, decide_false, Int.cast_ofNat_Int]
  subst hk
  refine Runs.seq ?_
  refine Runs.cond (by kernel_rfl) rfl (fun hc => ?_) (fun hc => ?_)
  · have hc' := ofB hc
    refine Runs.skip ?_
    refine Runs.seq ?_
    refine Runs.block ?_
    refine Runs.seq ?_
    refine Runs.reg [1, 4, 5, 6, 21, 22, 23] (by kernel_rfl) fun kk hk oo ho => ?_
    clear ho
    simp +decide only [↓EV, EV, ty, ↓reduceIte, decide_true, decide_false, Int.cast_ofNat_Int]
    refine ⟨by omega, ?_⟩
    subst hk
    refine Runs.seq ?_
    have hzi := hz i (by omega)
    have hk0 : 0 ≤ (z i).tmod (2 + 2 * i : Nat) ∧ (z i).tmod (2 + 2 * i : Nat) < (2 + 2 * i : Nat) := ⟨Int.tmod_nonneg _ hzi, Int.tmod_lt_of_pos _ (by omega)⟩
    refine Runs.drawN [1, 4, 7, 8, 21, 22, 23] [] 8 (by kernel_rfl) (by kernel_rfl) (by kernel_rfl) fun kk hk oo ho => ?_
    clear ho
    simp +decide only [↓EV, EV, ty, ↓reduceIte, decide_true, decide_false, Int.cast_ofNat_Int]
    refine ⟨by omega, ?_⟩
    subst hk
    rw [i64s (x := 3 + (i : Int)) (by omega) (by omega)]
    obtain ⟨k, hk⟩ : ∃ k : Nat, (z i).tmod (2 + 2 * i : Nat) = k := ⟨_, (Int.toNat_of_nonneg hk0.1).symm⟩
    rw [hk] at hk0 ⊢
    have hkl : k < (stackF z i).length := by rw [stackF_length]; omega
    generalize hfk : (stackF z i).getD k (0, 0, 0) = fk
    obtain ⟨va, vb, vc⟩ := fk
    obtain ⟨g0, g1, g2⟩ := cellF_at (stackF z i) k
    rw [hfk] at g0 g1 g2
    rw [← e4 _ (by omega)] at g0 g1 g2
    simp only at g0 g1 g2
    have hkt : ((z i).tmod ((stackF z i).length : Nat)).toNat = k := by rw [stackF_length, hk]; rfl
    have hF : stackF z (i + 1) = ((stackF z i).set k (va, vb, 3 + (i : Int))) ++ [(vb, vc, 3 + (i : Int)), (va, vc, 3 + (i : Int))] := by
      simp only [stackF, hkt, hfk]
    have hE : stackE z (i + 1) = stackE z i ++ [(va, 3 + (i : Int)), (vb, 3 + (i : Int)), (vc, 3 + (i : Int))] := by
      simp only [stackE, hkt, hfk]
    clear hkt hfk
    refine Runs.anyG fun G6 hG6 => ?_
    have hg6 : G6.get = G5.get := by rw [hG6]
    have hn6 : G6.next = G5.next + 8 := by rw [hG6]
    rw [← hg6] at e2 e6
    have e5 : PSX (fun b => b < base ∧ b ≠ bp ∨ b = fb) G6 bp (stackE z i) := e5.mono (by omega) (fun b _ _ => by rw [hg6]) fun b hb => .inl hb
    have hfbl : fb < G6.next := e5.Xlt fb (.inr rfl)
    have hG6n : base ≤ G6.next := by omega
    clear hG6 hg6 hn6
    refine Runs.seq ?_
    refine Runs.reg [1, 4, 7, 8, 9, 21, 22, 23] (by kernel_rfl) fun kk hk oo ho => ?_
    clear ho
    simp +decide only [↓EV, EV, ty, ↓reduceIte, decide_true, decide_false, Int.cast_ofNat_Int, e2, g0, g1, g2]
    refine ⟨by omega, by omega, ?_⟩
    subst hk
    refine Runs.anyG fun G7 hG7 => ?_
    have p1 : G7.next = G6.next + 1 := by rw [hG7]; rfl
    have p2 : ∀ b, b < G6.next → G7.get b = G6.get b := fun b hb => by
      have h1 : b ≠ G6.next := by omega
      rw [hG7]; simp only [EV, h1, if_false]
    have p3 : ∃ f9, G7.get G6.next = some ⟨3, f9⟩ ∧ f9 0 = .int .i64 va ∧ f9 1 = .int .i64 vb ∧ f9 2 = .int .i64 vc := ⟨_, by rw [hG7]; simp only [EV, if_true]; rfl, rfl, rfl, rfl⟩
    clear hG7
    obtain ⟨f9, p3, q0, q1, q2⟩ := p3
    generalize hnb : G6.next = nb at *
    have p4 : PSX (fun b => b < base ∧ b ≠ bp ∨ b = fb ∨ b = nb) G7 bp (stackE z i) := e5.mono (by omega) (fun b hb _ => p2 b (by omega)) fun b hb => by
      rcases hb with hb | hb | hb
      · exact .inl (.inl hb)
      · exact .inl (.inr hb)
      · exact .inr (by omega)
    have p5 : G7.get fb = some ⟨(2 + 2 * i) * 3, ff⟩ := (p2 fb hfbl).trans e2
    refine Runs.seq ?_
    refine Runs.seq ?_
    refine Runs.reg [1, 4, 7, 8, 9, 21, 22, 23, 38, 39] (by kernel_rfl) fun kk hk oo ho => ?_
    clear ho
    simp +decide only [↓EV, EV, ty, ↓reduceIte, decide_true, decide_false, Int.cast_ofNat_Int, p3, q0, q1, q2]
    subst hk
    refine Runs.block ?_
    refine Runs.loop (fun m env G' => ∃ (j : Nat), m + j = 3 ∧ env = envL [(1, toF bp), (4, .sl fb 0 (2 + 2 * i) x 3), (7, .int .i64 (3 + (i : Int))), (8, .int .i64 k), (9, .ptr nb 0), (21, ints n z), (22, .int .i64 n), (23, .int .i64 i), (38, .agg [.int .i64 va, .int .i64 vb, .int .i64 vc]), (39, .int .i64 j)] ∧
        PSX (fun b => b < base ∧ b ≠ bp ∨ b = fb ∨ b = nb) G' bp (stackE z i ++ [(va, 3 + (i : Int)), (vb, 3 + (i : Int)), (vc, 3 + (i : Int))].take j) ∧ ∀ b, (b < base ∧ b ≠ bp ∨ b = fb ∨ b = nb) → G'.get b = G7.get b) 3 ⟨0, rfl, rfl, by simpa using p4, fun b _ => rfl⟩ ?_
    rintro m' _ G8 ⟨j, hj, rfl, w1, w2⟩ IH2
    refine Runs.seq ?_
    refine Runs.reg [1, 4, 7, 8, 9, 21, 22, 23, 38, 39, 40] (by kernel_rfl) fun kk hk oo ho => ?_
    clear ho
    simp +decide only [↓EV, EV, ty, ↓reduceIte, decide_true, decide_false, Int.cast_ofNat_Int]
    subst hk
    refine Runs.seq ?_
    refine Runs.cond (by kernel_rfl) rfl (fun hc => ?_) (fun hc => ?_)
    · have hcj := ofB hc
      rcases (show j = 0 ∨ j = 1 ∨ j = 2 by omega) with hj0 | hj0 | hj0 <;> subst hj0
      · refine Runs.skip ?_
        refine Runs.seq ?_
        refine Runs.block ?_
        refine Runs.seq ?_
        refine Runs.reg [1, 4, 7, 8, 9, 11, 21, 22, 23, 38, 39] (by kernel_rfl) fun kk hk oo ho => ?_
        clear ho
        simp +decide only [↓EV, EV, ty, ↓reduceIte, decide_true, decide_false, Int.cast_ofNat_Int]
        subst hk
        refine Runs.reg [1, 4, 7, 8, 9, 21, 22, 23, 38, 39] (by kernel_rfl) fun kk hk oo ho => ?_
        clear ho
        simp +decide only [↓EV, EV, ty, ↓reduceIte, decide_true, decide_false, Int.cast_ofNat_Int]
        refine CallAt.rel (toX_ct w1 (by simp only [List.length_append, stackE_length, List.length_take, List.length_cons, List.length_nil]; omega)) ?_
        rintro r9 G9 ⟨y1, y2, y3⟩
        simp +decide only [↓EV, EV, ty, ↓reduceIte, decide_true, decide_false, Int.cast_ofNat_Int]
        subst hk
        refine Runs.inBlock ?_
        refine Runs.reg [1, 4, 7, 8, 9, 21, 22, 23, 38, 39] (by kernel_rfl) fun kk hk oo ho => ?_
        clear ho
        simp +decide only [↓EV, EV, ty, ↓reduceIte, decide_true, decide_false, Int.cast_ofNat_Int]
        subst hk
        rw [i64s (by omega) (by omega)]
        exact IH2 (m' - 1) _ _ (by omega) ⟨1, by omega, rfl, by simpa using y1, fun b hb => (y3 b hb).trans (w2 b hb)⟩
      · refine Runs.skip ?_
        refine Runs.seq ?_
        refine Runs.block ?_
        refine Runs.seq ?_
        refine Runs.reg [1, 4, 7, 8, 9, 11, 21, 22, 23, 38, 39] (by kernel_rfl) fun kk hk oo ho => ?_
        clear ho
        simp +decide only [↓EV, EV, ty, ↓reduceIte, decide_true, decide_false, Int.cast_ofNat_Int]
        subst hk
        refine Runs.reg [1, 4, 7, 8, 9, 21, 22, 23, 38, 39] (by kernel_rfl) fun kk hk oo ho => ?_
        clear ho
        simp +decide only [↓EV, EV, ty, ↓reduceIte, decide_true, decide_false, Int.cast_ofNat_Int]
        refine CallAt.rel (toX_ct w1 (by simp only [List.length_append, stackE_length, List.length_take, List.length_cons, List.length_nil]; omega)) ?_
        rintro r9 G9 ⟨y1, y2, y3⟩
        simp +decide only [↓EV, EV, ty, ↓reduceIte, decide_true, decide_false, Int.cast_ofNat_Int]
        subst hk
        refine Runs.inBlock ?_
        refine Runs.reg [1, 4, 7, 8, 9, 21, 22, 23, 38, 39] (by kernel_rfl) fun kk hk oo ho => ?_
        clear ho
        simp +decide only [↓EV, EV, ty, ↓reduceIte, decide_true, decide_false, Int.cast_ofNat_Int]
        subst hk
        rw [i64s (by omega) (by omega)]
        exact IH2 (m' - 1) _ _ (by omega) ⟨2, by omega, rfl, by simpa using y1, fun b hb => (y3 b hb).trans (w2 b hb)⟩
      · refine Runs.skip ?_
        refine Runs.seq ?_
        refine Runs.block ?_
        refine Runs.seq ?_
        refine Runs.reg [1, 4, 7, 8, 9, 11, 21, 22, 23, 38, 39] (by kernel_rfl) fun kk hk oo ho => ?_
        clear ho
        simp +decide only [↓EV, EV, ty, ↓reduceIte, decide_true, decide_false, Int.cast_ofNat_Int]
        subst hk
        refine Runs.reg [1, 4, 7, 8, 9, 21, 22, 23, 38, 39] (by kernel_rfl) fun kk hk oo ho => ?_
        clear ho
        simp +decide only [↓EV, EV, ty, ↓reduceIte, decide_true, decide_false, Int.cast_ofNat_Int]
        refine CallAt.rel (toX_ct w1 (by simp only [List.length_append, stackE_length, List.length_take, List.length_cons, List.length_nil]; omega)) ?_
        rintro r9 G9 ⟨y1, y2, y3⟩
        simp +decide only [↓EV, EV, ty, ↓reduceIte, decide_true, decide_false, Int.cast_ofNat_Int]
        subst hk
        refine Runs.inBlock ?_
        refine Runs.reg [1, 4, 7, 8, 9, 21, 22, 23, 38, 39] (by kernel_rfl) fun kk hk oo ho => ?_
        clear ho
        simp +decide only [↓EV, EV, ty, ↓reduceIte, decide_true, decide_false, Int.cast_ofNat_Int]
        subst hk
        rw [i64s (by omega) (by omega)]
        exact IH2 (m' - 1) _ _ (by omega) ⟨3, by omega, rfl, by simpa using y1, fun b hb => (y3 b hb).trans (w2 b hb)⟩
    · have hcj := ofNB hc
      have hj3 : j = 3 := by omega
      subst hj3
      rw [show [(va, 3 + (i : Int)), (vb, 3 + (i : Int)), (vc, 3 + (i : Int))].take 3 = [(va, 3 + (i : Int)), (vb, 3 + (i : Int)), (vc, 3 + (i : Int))] from rfl, ← hE] at w1
      have x3 := (w2 nb (.inr (.inr rfl))).trans p3
      have x5 := (w2 fb (.inr (.inl rfl))).trans p5
      have x6 : ∀ b, b < base → b ≠ bp → G8.get b = G.get b := fun b hb hne => ((w2 b (.inl ⟨hb, hne⟩)).trans (p2 b (by omega))).trans (e6 b hb hne)
      clear IH2 e2 e5 p1 p2 p3 p4 p5
      refine Runs.exit rfl ?_
      refine Runs.seq ?_
      refine Runs.reg [1, 4, 7, 9, 21, 22, 23] (by kernel_rfl) fun kk hk oo ho => ?_
      clear ho
      simp +decide only [↓EV, EV, ty, ↓reduceIte, decide_true, decide_false, Int.cast_ofNat_Int, x3, x5, q0, q1, q2]
      refine ⟨by omega, by omega, ?_⟩
      subst hk
      refine Runs.anyG fun G9 hG9 => ?_
      have hne1 : fb ≠ nb := by omega
      have y1 : G9.next = G8.next := by rw [hG9]; rfl
      have y2 : ∃ ff', G9.get fb = some ⟨(2 + 2 * i) * 3, ff'⟩ ∧ ∀ j, j < (2 + 2 * i) * 3 → ff' j = cellF ((stackF z i).set k (va, vb, 3 + (i : Int))) j := ⟨setL ff (k * 3) [.int .i64 va, .int .i64 vb, .int .i64 (3 + (i : Int))], by rw [hG9]; exact (upd_same _ _ _).trans rfl, fun j hj => by
        have hl := stackF_length z i
        exact cellF_set (stackF z i) k hkl va vb _ ff (fun j hj => e4 j (by omega)) j (by omega)⟩
      have y3 : G9.get nb = some ⟨3, f9⟩ := by rw [hG9]; show upd _ _ _ _ = _; rw [upd_ne _ _ (by omega)]; exact x3
      have y6 : ∀ b, b ≠ fb → G9.get b = G8.get b := fun b hb => by rw [hG9]; exact upd_ne _ _ hb
      have y7 : PSX (fun b => b < base ∧ b ≠ bp ∨ b = fb ∨ b = nb) G9 bp (stackE z (i + 1)) := w1.mono (by omega) (fun b hb hx => y6 b fun e => hx (.inr (.inl e))) fun b hb => .inl hb
      clear hG9 x3 x5 w1 w2 ff e4 g0 g1 g2
      obtain ⟨ff, y2, y4⟩ := y2
      have hz1 : (nb = G9.next) = False := eq_false (by have := y7.Xlt nb (.inr (.inr rfl)); omega)
      have hz2 : (fb = G9.next) = False := eq_false (by have := y7.Xlt fb (.inr (.inl rfl)); omega)
      have hnb9 : nb < G9.next := y7.Xlt nb (.inr (.inr rfl))
      have hfb9 : fb < G9.next := y7.Xlt fb (.inr (.inl rfl))
      have hsl : ((stackF z i).set k (va, vb, 3 + (i : Int))).length = 2 + 2 * i := by rw [List.length_set, stackF_length]
      cases x with
      | true =>
        refine Runs.reg [1, 4, 21, 22, 23] (by kernel_rfl) fun kk hk oo ho => ?_
        clear ho
        simp +decide only [↓EV, EV, ty, ↓reduceIte, decide_true, decide_false, Int.cast_ofNat_Int, y3, y2, q0, q1, q2, hz1, hz2, Nat.reduceBEq, Bool.or_true, Nat.reduceMul]
        refine ⟨by omega, ?_⟩
        subst hk
        refine Runs.inBlock ?_
        refine Runs.reg [1, 4, 21, 22, 23] (by kernel_rfl) fun kk hk oo ho => ?_
        clear ho
        simp +decide only [↓EV, EV, ty, ↓reduceIte, decide_true, decide_false, Int.cast_ofNat_Int]
        subst hk
        rw [i64s (by omega) (by omega), show 2 + 2 * i + (1 + 1) = 2 + 2 * (i + 1) by omega]
        refine IH (m - 1) _ _ (by omega) ⟨i + 1, G9.next, false, _, by omega, rfl, by omega, upd_same _ _ _, fun j hj => ?_, y7.mono (Nat.le_succ _) (fun b hb hx => ?_) (fun b hb => ?_), fun b hb hne => ?_⟩
        · rw [hF]
          have hc := cellF_app ((stackF z i).set k (va, vb, 3 + (i : Int))) (vb, vc, 3 + (i : Int)) (va, vc, 3 + (i : Int)) ff (fun j hj => y4 j (by omega)) j (by simp only [List.length_append, List.length_cons, List.length_nil]; omega)
          rw [hsl] at hc
          exact hc
        · have hbf : b ≠ fb := fun e => hx (.inr (.inl e))
          (exact upd_ne _ _ (by omega))
        · rcases hb with hb | hb
          · exact .inl (.inl hb)
          · exact .inr ⟨by omega, by subst hb; exact Nat.lt_succ_self _⟩
        · have hbf : b ≠ fb := by omega
          refine Eq.trans ?_ ((y6 b hbf).trans (x6 b hb hne))
          (exact upd_ne _ _ (by omega))
      | false =>
        refine Runs.reg [1, 4, 21, 22, 23] (by kernel_rfl) fun kk hk oo ho => ?_
        clear ho
        simp +decide only [↓EV, EV, ty, ↓reduceIte, decide_true, decide_false, Int.cast_ofNat_Int, y3, y2, q0, q1, q2, hz1, hz2, Nat.reduceBEq, Bool.or_true, Nat.reduceMul]
        refine ⟨by omega, ?_⟩
        subst hk
        refine Runs.inBlock ?_
        refine Runs.reg [1, 4, 21, 22, 23] (by kernel_rfl) fun kk hk oo ho => ?_
        clear ho
        simp +decide only [↓EV, EV, ty, ↓reduceIte, decide_true, decide_false, Int.cast_ofNat_Int]
        subst hk
        rw [i64s (by omega) (by omega), show 2 + 2 * i + (1 + 1) = 2 + 2 * (i + 1) by omega]
        refine IH (m - 1) _ _ (by omega) ⟨i + 1, G9.next, false, _, by omega, rfl, by omega, upd_same _ _ _, fun j hj => ?_, y7.mono (Nat.le_succ _) (fun b hb hx => ?_) (fun b hb => ?_), fun b hb hne => ?_⟩
        · rw [hF]
          have hc := cellF_app ((stackF z i).set k (va, vb, 3 + (i : Int))) (vb, vc, 3 + (i : Int)) (va, vc, 3 + (i : Int)) ff (fun j hj => y4 j (by omega)) j (by simp only [List.length_append, List.length_cons, List.length_nil]; omega)
          rw [hsl] at hc
          exact hc
        · have hbf : b ≠ fb := fun e => hx (.inr (.inl e))
          (show upd (upd _ _ _) G9.next _ _ = _; rw [upd_ne _ _ (show b ≠ G9.next by omega), upd_ne _ _ hbf])
        · rcases hb with hb | hb
          · exact .inl (.inl hb)
          · exact .inr ⟨by omega, by subst hb; exact Nat.lt_succ_self _⟩
        · have hbf : b ≠ fb := by omega
          refine Eq.trans ?_ ((y6 b hbf).trans (x6 b hb hne))
          (show upd (upd _ _ _) G9.next _ _ = _; rw [upd_ne _ _ (show b ≠ G9.next by omega), upd_ne _ _ hbf])
  · have hc' := ofNB hc
    have hi : i = n := by omega
    subst hi
    refine Runs.exit rfl ?_
    refine Runs.finL [] (by kernel_rfl) (by kernel_rfl) ?_
    simp +decide only [↓EV, EV, ty, ↓reduceIte, decide_true, decide_false, Int.cast_ofNat_Int]
    subst hR
    have e7 : PSX (fun b => b < base ∧ b ≠ bp) G5 bp (stackE z i) := e5.mono (Nat.le_refl _) (fun b _ _ => rfl) fun b hb => .inl (.inl hb)
    have := e5.Xlt fb (.inr rfl)
    exact ⟨e7.toPS hbpl (by omega), e6⟩

end Go.Fw.Sx
