import Derived.Test.YtjcplclbdanpgaaG3
namespace Go.Fw.Sx
open Go Go.Fw Go.Proofs
set_option maxRecDepth 100000
set_option linter.unusedSimpArgs false
set_option linter.unusedVariables false
/-- A list of pairs that has been appended to. -/
def PrV (G : Heap) (v : AV) (ps : List (Int × Int)) : Prop := ps = [] ∧ v = .nils ∨ 0 < ps.length ∧ ∃ b f, v = .sl b 0 ps.length false 2 ∧ b < G.next ∧ G.get b = some ⟨ps.length * 2, f⟩ ∧ ∀ i, i < ps.length → f (i * 2) = .int .i64 (ps.getD i (0, 0)).1 ∧ f (i * 2 + 1) = .int .i64 (ps.getD i (0, 0)).2
def errR : AV := .tup [.agg [.int .i64 0, .nils], .int .i64 200]
/-- What a family does with numbers that it takes. -/
def Makes (row : List AV) (n : Nat) (z : Nat → Int) (g e : AV) : Prop := ∃ nm any nd sz ed, row = [nm, any, nd, .fn sz [] [], .fn ed [] []] ∧ ∃ vv ee ps, (∀ G, Cp cx sz [ints n z] G (.tup [.int .i64 vv, .int .i64 ee])) ∧
  (∀ G bp f, bp < G.next → G.get bp = some ⟨1, f⟩ → f 0 = .nils → Ct cx ed [ints n z, .fn 11 [] [.ptr bp 0]] G fun _ G' => G.next ≤ G'.next ∧ (∃ f', G'.get bp = some ⟨1, f'⟩ ∧ PrV G' (f' 0) ps ∧ AV.isCell (f' 0) = true) ∧ ∀ b, b < G.next → b ≠ bp → G'.get b = G.get b) ∧
  (∀ G pv, PrV G pv ps → Ct cx 12 [.int .i64 vv, pv] G fun r G' => r = .tup [g, e] ∧ G.next ≤ G'.next ∧ ∀ b, b < G.next → G'.get b = G.get b)
theorem make_cp {s : ByteArray} {n : Nat} {z : Nat → Int} {c1 c2 e : AV} (hd1 : plain c1 = true ∧ AV.isCell c1 = true) (hd2 : (∀ G m, Fz G m c2 c2) ∧ AV.isCell c2 = true) (he : plain e = true ∧ AV.isCell e = true)
    (h : (∀ i, i < 20 → (nameB i).toList ≠ s.toList) ∧ c1 = .int .i64 0 ∧ c2 = .nils ∧ e = .int .i64 200 ∨
      ∃ i0, i0 < 20 ∧ (nameB i0).toList = s.toList ∧ (∀ i, i < i0 → (nameB i).toList ≠ s.toList) ∧ ∃ b, (∀ G, Cp cx 10 [.agg (rows 5 fams.flatten i0), ints n z] G (.bool b)) ∧ (b = false → c1 = .int .i64 0 ∧ c2 = .nils ∧ e = .int .i64 200) ∧ (b = true → Makes (rows 5 fams.flatten i0) n z (.agg [c1, c2]) e)) :
    ∀ G, Cp cx 7 [.str s, ints n z] G (.tup [.agg [c1, c2], e]) := by
  refine Cp.intro fun n0 => ?_
  refine Ct.start (fun t => t == 4 || t == 7 || t == 10) Try.func7 rfl (by kernel_rfl) (by kernel_rfl) fun R hR => ?_
  simp only [EV]
  have hgood : ∀ G, Fz G n0 (.tup [.agg [c1, c2], e]) (.tup [.agg [c1, c2], e]) := fun G => by
    refine .tup _ _ rfl fun i c d h1 h2 => ?_
    rw [h1] at h2; injection h2 with h2; subst h2
    match i, h1 with
    | 0, h1 =>
      injection h1 with h1; subst h1
      refine .agg _ _ rfl fun i c d h1 h2 => ?_
      rw [h1] at h2; injection h2 with h2; subst h2
      match i, h1 with
      | 0, h1 => injection h1 with h1; subst h1; exact Fz.plain hd1.1
      | 1, h1 => injection h1 with h1; subst h1; exact hd2.1 _ _
    | 1, h1 => injection h1 with h1; subst h1; exact Fz.plain he.1
  refine Runs.seq ?_
  refine Runs.reg [0, 1, 4] (by kernel_rfl) fun kk hk oo ho => ?_
  clear ho
  simp +decide only [↓EV, EV, ty, ↓reduceIte, decide_true, decide_false, Int.cast_ofNat_Int]
  subst hk
  refine Runs.seq ?_
  refine Runs.seq ?_
  refine Runs.reg [0, 1, 4, 11, 12, 13] (by kernel_rfl) fun kk hk oo ho => ?_
  clear ho
  simp +decide only [↓EV, EV, ty, ↓reduceIte, decide_true, decide_false, Int.cast_ofNat_Int]
  refine CallAt.pure (families_cp _) ?_
  simp +decide only [↓EV, EV, ty, ↓reduceIte, decide_true, decide_false, Int.cast_ofNat_Int]
  subst hk
  refine Runs.block ?_
  refine Runs.loop (fun m env G => ∃ (i : Nat) (f4 : Nat → AV), m + i = 20 ∧ env = envL [(0, .str s), (1, ints n z), (4, .ptr n0 0), (11, .lst 5 20 (rows 5 fams.flatten)), (12, .int .i64 20), (13, .int .i64 i)] ∧ n0 < G.next ∧ G.get n0 = some ⟨2, f4⟩ ∧ ∀ j, j < i → (nameB j).toList ≠ s.toList) 20 ⟨0, _, rfl, rfl, Nat.lt_succ_self _, upd_same _ _ _, fun j hj => by omega⟩ ?_
  rintro m _ G ⟨i, f4, hm, rfl, hlt, hg4, hno⟩ IH
  refine Runs.seq ?_
  refine Runs.reg [0, 1, 4, 11, 12, 13, 14] (by kernel_rfl) fun kk hk oo ho => ?_
  clear ho
  simp +decide only [↓EV, EV, ty, ↓reduceIte, decide_true, decide_false, Int.cast_ofNat_Int]
  subst hk
  refine Runs.seq ?_
  refine Runs.cond (by kernel_rfl) rfl (fun hc => ?_) (fun hc => ?_)
  · have hc' := ofB hc
    refine Runs.skip ?_
    refine Runs.seq ?_
    refine Runs.block ?_
    refine Runs.seq ?_
    obtain ⟨a, d, sz, ed, hrow, ha, hd, hs, he'⟩ := famRow i (by omega)
    refine Runs.reg [0, 1, 4, 7, 11, 12, 13] (by kernel_rfl) fun kk hk oo ho => ?_
    clear ho
    simp +decide only [↓EV, EV, ty, ↓reduceIte, decide_true, decide_false, Int.cast_ofNat_Int, hrow, ha, hd, hs, he']
    refine ⟨by omega, ?_⟩
    subst hk
    refine Runs.seq ?_
    refine Runs.seq ?_
    have hne : (n0 = G.next) = False := eq_false (by omega)
    refine Runs.reg [0, 1, 4, 7, 11, 12, 13, 20] (by kernel_rfl) fun kk hk oo ho => ?_
    clear ho
    simp +decide only [↓EV, EV, ty, ↓reduceIte, decide_true, decide_false, Int.cast_ofNat_Int]
    subst hk
    refine Runs.cond (by kernel_rfl) rfl (fun hc => ?_) (fun hc => ?_)
    · refine Runs.exit rfl ?_
      refine Runs.reg [0, 1, 4, 11, 12, 13] (by kernel_rfl) fun kk hk oo ho => ?_
      clear ho
      simp +decide only [↓EV, EV, ty, ↓reduceIte, decide_true, decide_false, Int.cast_ofNat_Int]
      subst hk
      rw [i64s (by omega) (by omega)]
      refine IH (m - 1) _ _ (by omega) ⟨i + 1, f4, by omega, rfl, Nat.lt_succ_of_lt hlt, ?_, fun j hj => ?_⟩
      · simp only [EV, hne, if_false, hg4]
      · rcases Nat.lt_or_ge j i with h | h
        · exact hno j h
        · have : j = i := by omega
          subst this
          simpa using hc
    · have heq : (nameB i).toList = s.toList := by simpa using hc
      refine Runs.skip ?_
      refine Runs.seq ?_
      refine Runs.seq ?_
      rcases h with ⟨h, _⟩ | ⟨i0, hi0, hnm, hfirst, b, htk, hb0, hb1⟩
      · exact (h i (by omega) heq).elim
      have : i0 = i := by
        rcases Nat.lt_trichotomy i0 i with h | h | h
        · exact (hno i0 h hnm).elim
        · exact h
        · exact (hfirst i h heq).elim
      subst this
      rw [hrow] at htk hb1
      refine Runs.reg [1, 4, 7, 24] (by kernel_rfl) fun kk hk oo ho => ?_
      clear ho
      simp +decide only [↓EV, EV, ty, ↓reduceIte, decide_true, decide_false, Int.cast_ofNat_Int, hne, hg4]
      refine CallAt.pure (htk _) ?_
      simp +decide only [↓EV, EV, ty, ↓reduceIte, decide_true, decide_false, Int.cast_ofNat_Int]
      subst hk
      refine Runs.cond (by kernel_rfl) rfl (fun hc => ?_) (fun hc => ?_)
      · obtain ⟨rfl, rfl, rfl⟩ := hb0 (by simpa using hc)
        refine Runs.seq ?_
        refine Runs.reg [4, 5] (by kernel_rfl) fun kk hk oo ho => ?_
        clear ho
        simp +decide only [↓EV, EV, ty, ↓reduceIte, decide_true, decide_false, Int.cast_ofNat_Int, hne, hg4]
        subst hk
        refine Runs.retL [.cell 4 28, .tmp 5] (by kernel_rfl) (by kernel_rfl) ?_
        simp +decide only [↓EV, EV, ty, ↓reduceIte, decide_true, decide_false, Int.cast_ofNat_Int]
        subst hR
        exact hgood _
      · obtain ⟨nm, any, nd, szf, edf, hr2, vv, ee, ps, hsz, hed, hmk⟩ := hb1 (by simpa using hc)
        simp only [List.cons.injEq, and_true] at hr2
        obtain ⟨rfl, rfl, rfl, rfl, rfl⟩ := hr2
        refine Runs.skip ?_
        refine Runs.seq ?_
        refine Runs.reg [1, 4, 7, 8] (by kernel_rfl) fun kk hk oo ho => ?_
        clear ho
        simp +decide only [↓EV, EV, ty, ↓reduceIte, decide_true, decide_false, Int.cast_ofNat_Int, hne, hg4]
        refine CallAt.pure (hsz _) ?_
        simp +decide only [↓EV, EV, ty, ↓reduceIte, decide_true, decide_false, Int.cast_ofNat_Int]
        subst hk
        refine Runs.seq ?_
        refine Runs.reg [1, 4, 7, 8, 10] (by kernel_rfl) fun kk hk oo ho => ?_
        clear ho
        simp +decide only [↓EV, EV, ty, ↓reduceIte, decide_true, decide_false, Int.cast_ofNat_Int]
        subst hk
        refine Runs.seq ?_
        refine Runs.anyG fun G2 hG2 => ?_
        have hx1 : (G.next = G.next + 1) = False := eq_false (by omega)
        have hx2 : (G.next + 1 = G.next) = False := eq_false (by omega)
        have hx3 : (n0 = G.next + 1) = False := eq_false (by omega)
        have q1 : G2.next = G.next + 2 := by rw [hG2]; rfl
        have q2 : ∃ f, G2.get (G.next + 1) = some ⟨1, f⟩ ∧ f 0 = .nils := ⟨_, by rw [hG2]; exact upd_same _ _ _, rfl⟩
        have q3 : ∃ f, G2.get G.next = some ⟨5, f⟩ ∧ f 4 = .fn edf [] [] := ⟨_, by rw [hG2]; simp only [EV, hx1, if_false, if_true]; rfl, rfl⟩
        have q4 : G2.get n0 = some ⟨2, f4⟩ := by rw [hG2]; simp only [EV, hx3, hne, hg4, if_false]
        clear hG2
        obtain ⟨fp, q2, q2'⟩ := q2
        obtain ⟨f7, q3, q3'⟩ := q3
        refine Runs.reg [4, 8, 10] (by kernel_rfl) fun kk hk oo ho => ?_
        clear ho
        simp +decide only [↓EV, EV, ty, ↓reduceIte, decide_true, decide_false, Int.cast_ofNat_Int, q3, q3']
        refine CallAt.rel (hed G2 (G.next + 1) fp (by omega) q2 q2') ?_
        rintro r3 G3 ⟨w1, ⟨f', w2, w3, w4⟩, w5⟩
        simp +decide only [↓EV, EV, ty, ↓reduceIte, decide_true, decide_false, Int.cast_ofNat_Int]
        subst hk
        refine Runs.seq ?_
        refine Runs.reg [4, 5] (by kernel_rfl) fun kk hk oo ho => ?_
        clear ho
        simp +decide only [↓EV, EV, ty, ↓reduceIte, decide_true, decide_false, Int.cast_ofNat_Int, w2, w4]
        refine CallAt.rel (hmk G3 _ w3) ?_
        rintro r4 G4 ⟨rfl, x1, x2⟩
        have y1 : G4.get n0 = some ⟨2, f4⟩ := by rw [x2 n0 (by omega), w5 n0 (by omega) (by omega), q4]
        simp +decide only [↓EV, EV, ty, ↓reduceIte, decide_true, decide_false, Int.cast_ofNat_Int, y1, hd1.2, hd2.2]
        subst hk
        refine Runs.retL [.cell 4 28, .tmp 5] (by kernel_rfl) (by kernel_rfl) ?_
        simp +decide only [↓EV, EV, ty, ↓reduceIte, decide_true, decide_false, Int.cast_ofNat_Int]
        subst hR
        exact hgood _

  · have hc' := ofNB hc
    rcases h with ⟨_, rfl, rfl, rfl⟩ | ⟨i0, hi0, hnm, _⟩
    · refine Runs.exit rfl ?_
      refine Runs.seq ?_
      refine Runs.reg [4, 5] (by kernel_rfl) fun kk hk oo ho => ?_
      clear ho
      simp +decide only [↓EV, EV, ty, ↓reduceIte, decide_true, decide_false, Int.cast_ofNat_Int, hg4]
      subst hk
      refine Runs.retL [.cell 4 28, .tmp 5] (by kernel_rfl) (by kernel_rfl) ?_
      simp +decide only [↓EV, EV, ty, ↓reduceIte, decide_true, decide_false, Int.cast_ofNat_Int]
      subst hR
      exact hgood _
    · exact (hno i0 (by omega) hnm).elim
end Go.Fw.Sx
