/- simple.Make. -/
import Derived.Test.YtjcplclbdanpgaaG11
import Derived.Test.YtjcplclbdanpgaaG4
namespace Go.Fw.Sx
open Go Go.Fw Go.Proofs Go.Shelf Go.RowKit Go.Lib Go.Sort
set_option maxRecDepth 100000
set_option linter.unusedSimpArgs false
set_option linter.unusedVariables false
/-- A pair, the lesser end first. -/
def normE (p : Int × Int) : Int × Int := (if p.2 < p.1 then p.2 else p.1, if p.2 > p.1 then p.2 else p.1)
def inB (n : Int) (p : Int × Int) : Bool := decide (0 ≤ (normE p).1) && decide ((normE p).2 < n)
def addE (ks : List (Int × Int)) (e : Int × Int) : List (Int × Int) := match idxE e ks with
  | some _ => ks
  | none => ks ++ [e]
def delE (ks : List (Int × Int)) (e : Int × Int) : List (Int × Int) := match idxE e ks with
  | some i => ks.eraseIdx i
  | none => ks
def mapStep (ks : List (Int × Int)) (p : Int × Int) : List (Int × Int) := if (normE p).1 = (normE p).2 then delE (addE ks (normE p)) (normE p) else addE ks (normE p)
def keysOf (ps : List (Int × Int)) : List (Int × Int) := ps.foldl mapStep []
def toSE (p : Int × Int) : SE := if h : 0 ≤ p.1 ∧ p.1 ≤ 1048576 ∧ 0 ≤ p.2 ∧ p.2 ≤ 1048576 then ⟨p, h⟩ else default
/-- The edges of a graph, as a value. -/
def edgesV (ds : List SE) : AV := match ds with
  | [] => .nils
  | _ => .lst 2 ds.length fun i => match ds[i]? with
    | some p => [.int .i64 p.1.1, .int .i64 p.1.2]
    | none => [.undef, .undef]
def errG (e : Int) : AV := .tup [.agg [.int .i64 0, .nils], .int .i64 e]
noncomputable def makeR (n : Int) (ps : List (Int × Int)) : AV :=
  if n < 0 ∨ n > 1048576 then errG 2 else if ps.all (inB n) = false then errG 2 else if (keysOf ps).length > 4194304 then errG 141 else .tup [.agg [.int .i64 n, edgesV (sortL ((keysOf ps).map toSE))], .int .i64 0]
/-- A map of edges: when each came; what is kept with them. -/
structure MapOK (clock : Nat) (born : List Nat) (ks : List (Int × Int)) (vs : List AV) : Prop where
  lb : born.length = ks.length
  lv : vs.length = ks.length
  up : born.Pairwise (· < ·)
  lt : ∀ x ∈ born, x < clock
theorem MapOK.nil (c : Nat) : MapOK c [] [] [] := ⟨rfl, rfl, .nil, by simp⟩
theorem MapOK.push {clock : Nat} {born : List Nat} {ks : List (Int × Int)} {vs : List AV} (h : MapOK clock born ks vs) (e : Int × Int) (v : AV) : MapOK (clock + 1) (born ++ [clock]) (ks ++ [e]) (vs ++ [v]) :=
  ⟨by simp [h.lb], by simp [h.lv], List.pairwise_append.2 ⟨h.up, by simp, fun a ha b hb => by simp at hb; subst hb; exact h.lt a ha⟩, fun x hx => by
    rcases List.mem_append.1 hx with hx | hx
    · have := h.lt x hx; omega
    · simp at hx; omega⟩
theorem MapOK.erase {clock : Nat} {born : List Nat} {ks : List (Int × Int)} {vs : List AV} (h : MapOK clock born ks vs) (i : Nat) : MapOK clock (born.eraseIdx i) (ks.eraseIdx i) (vs.eraseIdx i) :=
  ⟨by simp [List.length_eraseIdx, h.lb], by simp [List.length_eraseIdx, h.lv], h.up.sublist (List.eraseIdx_sublist _ _), fun x hx => h.lt x ((List.eraseIdx_sublist _ _).subset hx)⟩
theorem MapOK.set {clock : Nat} {born : List Nat} {ks : List (Int × Int)} {vs : List AV} (h : MapOK clock born ks vs) (i : Nat) (v : AV) : MapOK clock born ks (vs.set i v) := ⟨h.lb, by simp [h.lv], h.up, h.lt⟩
/-- After 'there[e] = true'. -/
theorem mput_ok {clock : Nat} {born : List Nat} {ks : List (Int × Int)} {vs : List AV} (h : MapOK clock born ks vs) (e : Int × Int) (v : AV) : ∃ clock' born' vs', mput clock born (ks.map edgeV) vs (edgeV e) v (idxE e ks) = .mapc clock' born' ((addE ks e).map edgeV) vs' ∧ MapOK clock' born' (addE ks e) vs' := by
  unfold addE
  cases hq : idxE e ks with
  | none => exact ⟨clock + 1, born ++ [clock], vs ++ [v], by simp [mput], h.push e v⟩
  | some i => exact ⟨clock, born, vs.set i v, rfl, h.set i v⟩
theorem map_eraseIdx {α β : Type} (f : α → β) : ∀ (l : List α) (i : Nat), (l.map f).eraseIdx i = (l.eraseIdx i).map f
  | [], i => by simp
  | a :: l, 0 => rfl
  | a :: l, i + 1 => by simp [map_eraseIdx f l i]
theorem mdel_ok {clock : Nat} {born : List Nat} {ks : List (Int × Int)} {vs : List AV} (h : MapOK clock born ks vs) (e : Int × Int) : ∃ clock' born' vs', mdel clock born (ks.map edgeV) vs (idxE e ks) = .mapc clock' born' ((delE ks e).map edgeV) vs' ∧ MapOK clock' born' (delE ks e) vs' := by
  unfold delE
  cases hq : idxE e ks with
  | none => exact ⟨clock, born, vs, rfl, h⟩
  | some i => exact ⟨clock, born.eraseIdx i, vs.eraseIdx i, by simp [mdel, map_eraseIdx], h.erase i⟩
theorem idxE_mem {e : Int × Int} : ∀ {ks : List (Int × Int)}, idxE e ks = none → e ∉ ks
  | [], _ => by simp
  | q :: qs, h => by
    simp only [idxE] at h
    split at h
    · cases h
    · rename_i hne
      have : idxE e qs = none := by cases hq : idxE e qs <;> simp [hq] at h ⊢
      simp [hne, idxE_mem this]
theorem addE_mem {ks : List (Int × Int)} {e q : Int × Int} (h : q ∈ addE ks e) : q ∈ ks ∨ q = e := by
  unfold addE at h
  split at h
  · exact .inl h
  · simpa using h
theorem delE_mem {ks : List (Int × Int)} {e q : Int × Int} (h : q ∈ delE ks e) : q ∈ ks := by
  unfold delE at h
  split at h
  · exact (List.eraseIdx_sublist _ _).subset h
  · exact h
theorem keysOf_mem : ∀ (ps ks : List (Int × Int)) {q : Int × Int}, q ∈ ps.foldl mapStep ks → q ∈ ks ∨ ∃ p ∈ ps, q = normE p
  | [], ks, q, h => .inl h
  | p :: ps, ks, q, h => by
    rcases keysOf_mem ps (mapStep ks p) h with h | ⟨p', h1, h2⟩
    · have : q ∈ addE ks (normE p) := by
        unfold mapStep at h
        split at h
        · exact delE_mem h
        · exact h
      rcases addE_mem this with h | h
      · exact .inl h
      · exact .inr ⟨p, by simp, h⟩
    · exact .inr ⟨p', by simp [h1], h2⟩
theorem fz_pair {G : Heap} {n : Nat} {a b c d : AV} (h1 : Fz G n a c) (h2 : Fz G n b d) : Fz G n (.tup [a, b]) (.tup [c, d]) :=
  .tup _ _ rfl fun i x y e1 e2 => by
    match i, e1, e2 with
    | 0, e1, e2 => injection e1 with e1; injection e2 with e2; subst e1; subst e2; exact h1
    | 1, e1, e2 => injection e1 with e1; injection e2 with e2; subst e1; subst e2; exact h2
theorem fz_agg2 {G : Heap} {n : Nat} {a b c d : AV} (h1 : Fz G n a c) (h2 : Fz G n b d) : Fz G n (.agg [a, b]) (.agg [c, d]) :=
  .agg _ _ rfl fun i x y e1 e2 => by
    match i, e1, e2 with
    | 0, e1, e2 => injection e1 with e1; injection e2 with e2; subst e1; subst e2; exact h1
    | 1, e1, e2 => injection e1 with e1; injection e2 with e2; subst e1; subst e2; exact h2
theorem fz_errG (G : Heap) (n : Nat) (e : Int) : Fz G n (errG e) (errG e) := fz_pair (fz_agg2 (.int _ _) .nils) (.int _ _)
/-- The slice of edges that is gathered. -/
def cellP (es : List (Int × Int)) : Nat → AV := fun j => if j % 2 = 0 then .int .i64 (es.getD (j / 2) (0, 0)).1 else .int .i64 (es.getD (j / 2) (0, 0)).2
def EdV (lo : Nat) (G : Heap) (v : AV) (es : List (Int × Int)) : Prop := es = [] ∧ v = .nils ∨ 0 < es.length ∧ ∃ b f, v = .sl b 0 es.length false 2 ∧ lo ≤ b ∧ b < G.next ∧ G.get b = some ⟨es.length * 2, f⟩ ∧ ∀ j, j < es.length * 2 → f j = cellP es j
theorem appE {h : Nat → AV} {es : List (Int × Int)} {u v : Int} (hh : ∀ j, j < es.length * 2 → h j = cellP es j) : ∀ j, j < (es ++ [(u, v)]).length * 2 → appF 2 es.length h (fun i => List.take 2 (List.drop (i * 2) [AV.int .i64 u, AV.int .i64 v])) j = cellP (es ++ [(u, v)]) j := by
  intro j hj
  simp only [List.length_append, List.length_cons, List.length_nil] at hj
  simp only [appF]
  by_cases hlt : j < es.length * 2
  · rw [if_pos hlt, hh j hlt]
    have : (es ++ [(u, v)]).getD (j / 2) (0, 0) = es.getD (j / 2) (0, 0) := by
      simp [List.getD_eq_getElem?_getD, List.getElem?_append, show j / 2 < es.length by omega]
    simp only [cellP, this]
  · rw [if_neg hlt]
    have e1 : (es ++ [(u, v)]).getD (j / 2) (0, 0) = (u, v) := by
      simp [List.getD_eq_getElem?_getD, List.getElem?_append, show ¬ j / 2 < es.length by omega, show j / 2 - es.length = 0 by omega]
    simp only [cellP, e1]
    rcases (show j = es.length * 2 ∨ j = es.length * 2 + 1 by omega) with h | h
    · subst h; rw [if_pos (by omega), show es.length * 2 - es.length * 2 = 0 by omega]; rfl
    · subst h; rw [if_neg (by omega), show es.length * 2 + 1 - es.length * 2 = 1 by omega]; rfl
theorem sortNil_ct (G : Heap) : Ct cx 60 [.nils, .fn 61 [] []] G fun r G' => r = .tup [] ∧ G' = G := by
  refine ⟨by kernel_rfl, fun B0 L w vs hr hvs => ?_⟩
  obtain ⟨v1, us, hvs1, hv1, hus⟩ := hvs.of_cons
  obtain ⟨v2, us2, hus1, hv2, hus2⟩ := hus.of_cons
  have e0 := hus2.of_nil
  subst e0; subst hus1
  obtain ⟨a, rfl⟩ := hv1.inv_nils
  have hvs2 : vs = #[.slice a 0 0, v2] := by cases vs; simp_all
  subst hvs2
  refine Calls.mono (P := Try.prog) (AnyF.slices_SortFunc_none Try.sortE a 0 v2 w) fun e' w' ⟨he, hw⟩ => ⟨_, he, ?_⟩
  subst hw
  exact ⟨L, .tup [], G, ⟨rfl, rfl⟩, .refl L G _, hr, .tup _ _ rfl fun i c v e => by simp at e⟩
theorem sortL_perm {a b : List SE} (h : a.Perm b) : sortL a = sortL b := by
  unfold sortL
  have tr : ∀ x y z : SE, (!(ltOf cmpE) y x) = true → (!(ltOf cmpE) z y) = true → (!(ltOf cmpE) z x) = true := fun x y z h1 h2 => by
    rw [cmpE_lt] at *
    simp at *
    omega
  have to : ∀ x y : SE, ((!(ltOf cmpE) y x) || (!(ltOf cmpE) x y)) = true := fun x y => by
    rw [cmpE_lt, cmpE_lt]
    simp
    omega
  refine List.Perm.eq_of_pairwise (le := fun x y => (!(ltOf cmpE) y x) = true) (fun x y _ _ h1 h2 => ?_) (List.pairwise_mergeSort tr to a) (List.pairwise_mergeSort tr to b) (((List.mergeSort_perm a _).trans h).trans (List.mergeSort_perm b _).symm)
  exact antiE x y (by simpa using h2) (by simpa using h1)
theorem perm_of_idx {α : Type} (d : α) (ks : List α) (idx : List Nat) (hn : idx.Nodup) (hlt : ∀ j ∈ idx, j < ks.length) (hall : ∀ j, j < ks.length → j ∈ idx) : (idx.map fun j => ks.getD j d).Perm ks := by
  have h1 : idx.Perm (List.range ks.length) := (List.perm_ext_iff_of_nodup hn List.nodup_range).2 fun j => ⟨fun h => List.mem_range.2 (hlt j h), fun h => hall j (List.mem_range.1 h)⟩
  have h2 : ((List.range ks.length).map fun j => ks.getD j d) = ks := by
    apply List.ext_getElem?
    intro i
    rw [List.getElem?_map]
    by_cases hi : i < ks.length
    · simp [hi, List.getD_eq_getElem?_getD]
    · simp [hi]
  have := h1.map fun j => ks.getD j d
  rwa [h2] at this
theorem fz_edges {G : Heap} {n b len : Nat} {x : Bool} {ds : List SE} (hn : n ≤ b) (hl : ds.length = len) (h0 : 0 < len) (hg : G.get b = some ⟨len * 2, cellE ds⟩) : Fz G n (.sl b 0 len x 2) (edgesV ds) := by
  cases ds with
  | nil => simp at hl; omega
  | cons d ds =>
    subst hl
    refine .sl b 0 _ x 2 _ _ hn hg (by simp only; omega) (fun i hi => ?_) (fun i j d' hi hj => ?_)
    · rw [List.getElem?_eq_getElem hi]; rfl
    · rw [List.getElem?_eq_getElem hi] at hj
      simp only [cellE]
      match j, hj with
      | 0, hj =>
        injection hj with hj; subst hj
        rw [show (0 + i * 2 + 0) / 2 = i by omega, List.getElem?_eq_getElem hi]
        show Fz G n (if (0 + i * 2 + 0) % 2 = 0 then AV.int .i64 ((d :: ds)[i]).1.1 else AV.int .i64 ((d :: ds)[i]).1.2) _
        rw [if_pos (by omega)]
        exact .int _ _
      | 1, hj =>
        injection hj with hj; subst hj
        rw [show (0 + i * 2 + 1) / 2 = i by omega, List.getElem?_eq_getElem hi]
        show Fz G n (if (0 + i * 2 + 1) % 2 = 0 then AV.int .i64 ((d :: ds)[i]).1.1 else AV.int .i64 ((d :: ds)[i]).1.2) _
        rw [if_neg (by omega)]
        exact .int _ _
theorem toSE_val {p : Int × Int} (h : 0 ≤ p.1 ∧ p.1 ≤ 1048576 ∧ 0 ≤ p.2 ∧ p.2 ≤ 1048576) : (toSE p).1 = p := by
  have : toSE p = ⟨p, h⟩ := dif_pos h
  rw [this]
theorem nodup_len : ∀ (n : Nat) (l : List Nat), l.Nodup → (∀ x ∈ l, x < n) → l.length ≤ n
  | 0, l, _, h => by
    cases l with
    | nil => simp
    | cons a l => have := h a (by simp); omega
  | n + 1, l, hn, h => by
    by_cases hm : n ∈ l
    · have h1 := nodup_len n (l.erase n) (hn.erase n) fun x hx => by
        have := (hn.mem_erase_iff).1 hx
        have := h x this.2
        omega
      rw [List.length_erase_of_mem hm] at h1
      omega
    · have := nodup_len n l hn fun x hx => by
        have h1 := h x hx
        have h2 : x ≠ n := fun e => hm (e ▸ hx)
        omega
      omega
theorem simpleMake_cp {G : Heap} {bp : Nat} {fp : Nat → AV} {ps : List (Int × Int)} (hbp : bp < G.next) (hgp : G.get bp = some ⟨ps.length * 2, fp⟩) (hfp : ∀ i, i < ps.length → fp (i * 2) = .int .i64 (ps.getD i (0, 0)).1 ∧ fp (i * 2 + 1) = .int .i64 (ps.getD i (0, 0)).2) (hlen : ps.length ≤ 4611686018427387903) (n : Int) : Cp cx 12 [.int .i64 n, .sl bp 0 ps.length false 2] G (makeR n ps) := by
  refine Ct.freezeW (by kernel_rfl) fun hwf => ?_
  refine Ct.start (fun t => t == 4 || t == 8 || t == 9 || t == 10 || t == 11) Try.func12 rfl (by kernel_rfl) (by kernel_rfl) fun R hR => ?_
  simp only [EV]
  generalize hn0 : G.next = n0
  rw [hn0] at hbp
  have herr : ∀ (G' : Heap) e, Fz G' n0 (errG e) (errG e) := fun G' e => fz_errG _ _ _
  refine Runs.seq ?_
  refine Runs.reg [0, 1, 4] (by kernel_rfl) fun kk hk oo ho => ?_
  clear ho
  simp +decide only [↓EV, EV, ty, ↓reduceIte, decide_true, decide_false, Int.cast_ofNat_Int, hn0]
  subst hk
  refine Runs.seq ?_
  refine Runs.seq ?_
  refine Runs.anyG fun G0 hG0 => ?_
  have hnx : G0.next = n0 + 1 := by rw [hG0]; show G.next + 1 = _; omega
  have hg4 : ∃ f, G0.get n0 = some ⟨2, f⟩ := ⟨_, by rw [hG0]; simp only [EV, hn0, if_true]; rfl⟩
  have hold : ∀ b, b < n0 → G0.get b = G.get b := fun b hb => by rw [hG0]; exact upd_ne _ _ (by omega)
  clear hG0
  obtain ⟨f4, hg4⟩ := hg4
  by_cases h1 : n < 0
  · refine Runs.reg [0, 1, 4, 17] (by kernel_rfl) fun kk hk oo ho => ?_
    have g2 : (oo[2]?).bind (·.dst) = some 14 := by subst ho; rfl
    clear ho
    simp +decide only [↓EV, EV, ty, ↓reduceIte, decide_true, decide_false, Int.cast_ofNat_Int, g2, h1, h1]
    subst hk
    refine Runs.cond (by kernel_rfl) rfl (fun hc => ?_) (fun hc => ?_)
    · refine Runs.seq ?_
      refine Runs.reg [4, 5] (by kernel_rfl) fun kk hk oo ho => ?_
      clear ho
      simp +decide only [↓EV, EV, ty, ↓reduceIte, decide_true, decide_false, Int.cast_ofNat_Int, hg4]
      subst hk
      refine Runs.retL [.cell 4 28, .tmp 5] (by kernel_rfl) (by kernel_rfl) ?_
      simp +decide only [↓EV, EV, ty, ↓reduceIte, decide_true, decide_false, Int.cast_ofNat_Int, hg4]
      subst hR
      rw [hn0]
      refine ⟨fun b hb => by rw [← hold b hb]; exact upd_ne _ _ (by omega), ?_⟩
      have : makeR n ps = errG 2 := by unfold makeR; rw [if_pos (.inl h1)]
      rw [this]
      exact herr _ _
    · cases hc
  · by_cases h2 : n > 1048576
    · refine Runs.reg [0, 1, 4, 17] (by kernel_rfl) fun kk hk oo ho => ?_
      have g2 : (oo[2]?).bind (·.dst) = some 14 := by subst ho; rfl
      clear ho
      simp +decide only [↓EV, EV, ty, ↓reduceIte, decide_true, decide_false, Int.cast_ofNat_Int, g2, h1, h2]
      subst hk
      refine Runs.cond (by kernel_rfl) rfl (fun hc => ?_) (fun hc => ?_)
      · refine Runs.seq ?_
        refine Runs.reg [4, 5] (by kernel_rfl) fun kk hk oo ho => ?_
        clear ho
        simp +decide only [↓EV, EV, ty, ↓reduceIte, decide_true, decide_false, Int.cast_ofNat_Int, hg4]
        subst hk
        refine Runs.retL [.cell 4 28, .tmp 5] (by kernel_rfl) (by kernel_rfl) ?_
        simp +decide only [↓EV, EV, ty, ↓reduceIte, decide_true, decide_false, Int.cast_ofNat_Int, hg4]
        subst hR
        rw [hn0]
        refine ⟨fun b hb => by rw [← hold b hb]; exact upd_ne _ _ (by omega), ?_⟩
        have : makeR n ps = errG 2 := by unfold makeR; rw [if_pos (.inr h2)]
        rw [this]
        exact herr _ _
      · cases hc
    · refine Runs.reg [0, 1, 4, 17] (by kernel_rfl) fun kk hk oo ho => ?_
      have g2 : (oo[2]?).bind (·.dst) = some 14 := by subst ho; rfl
      clear ho
      simp +decide only [↓EV, EV, ty, ↓reduceIte, decide_true, decide_false, Int.cast_ofNat_Int, g2, h1, h2]
      subst hk
      refine Runs.cond (by kernel_rfl) rfl (fun hc => ?_) (fun hc => ?_)
      · cases hc
      · refine Runs.skip ?_
        refine Runs.seq ?_
        refine Runs.reg [0, 1, 4, 6] (by kernel_rfl) fun kk hk oo ho => ?_
        clear ho
        simp +decide only [↓EV, EV, ty, ↓reduceIte, decide_true, decide_false, Int.cast_ofNat_Int]
        subst hk
        refine Runs.seq ?_
        refine Runs.seq ?_
        refine Runs.anyG fun G1 hG1 => ?_
        have q1 : G1.next = n0 + 2 := by rw [hG1]; show G0.next + 1 = _; omega
        have q2 : G1.get (n0 + 1) = some ⟨0, fun _ => .mapc 0 [] [] []⟩ := by rw [hG1, ← hnx]; exact upd_same _ _ _
        have q3 : G1.get n0 = some ⟨2, f4⟩ := by rw [hG1]; show upd G0.get G0.next _ n0 = _; rw [upd_ne _ _ (by omega)]; exact hg4
        have q4 : ∀ b, b < n0 → G1.get b = G.get b := fun b hb => by rw [hG1]; show upd G0.get G0.next _ b = _; rw [upd_ne _ _ (by omega)]; exact hold b hb
        clear hG1 hg4 hold
        rw [hnx]
        refine Runs.reg [0, 4, 6, 20, 21, 22] (by kernel_rfl) fun kk hk oo ho => ?_
        clear ho
        simp +decide only [↓EV, EV, ty, ↓reduceIte, decide_true, decide_false, Int.cast_ofNat_Int]
        subst hk
        refine Runs.block ?_
        refine Runs.loop (fun m env G' => ∃ (i : Nat) (clock : Nat) (born : List Nat) (vs : List AV) (f4 : Nat → AV) (fm : Nat → AV), m + i = ps.length ∧ env = envL [(0, .int .i64 n), (4, .ptr n0 0), (6, .mp (n0 + 1)), (20, .sl bp 0 ps.length false 2), (21, .int .i64 ps.length), (22, .int .i64 i)] ∧ n0 + 1 < G'.next ∧ G'.get n0 = some ⟨2, f4⟩ ∧ G'.get (n0 + 1) = some ⟨0, fm⟩ ∧ fm 0 = .mapc clock born ((keysOf (ps.take i)).map edgeV) vs ∧ MapOK clock born (keysOf (ps.take i)) vs ∧ (∀ b, b < n0 → G'.get b = G.get b) ∧ ∀ j, j < i → inB n (ps.getD j (0, 0)) = true) ps.length ⟨0, 0, [], [], f4, _, rfl, rfl, by omega, q3, q2, rfl, MapOK.nil 0, q4, fun j hj => by omega⟩ ?_
        clear q1 q2 q3 q4 hnx f4
        rintro m _ G2 ⟨i, clock, born, vs, f4, fm, hm, rfl, hlt, hg4, hgm, hfm, hok, hold, hin⟩ IH
        refine Runs.seq ?_
        refine Runs.reg [0, 4, 6, 20, 21, 22, 23] (by kernel_rfl) fun kk hk oo ho => ?_
        clear ho
        simp +decide only [↓EV, EV, ty, ↓reduceIte, decide_true, decide_false, Int.cast_ofNat_Int]
        subst hk
        refine Runs.seq ?_
        refine Runs.cond (by kernel_rfl) rfl (fun hc => ?_) (fun hc => ?_)
        · have hc' := ofB hc
          refine Runs.skip ?_
          refine Runs.seq ?_
          refine Runs.block ?_
          refine Runs.seq ?_
          obtain ⟨hf0, hf1⟩ := hfp i (by omega)
          generalize hab : ps.getD i (0, 0) = ab at hf0 hf1
          obtain ⟨pa, pb⟩ := ab
          simp only at hf0 hf1
          have hgb : G2.get bp = some ⟨ps.length * 2, fp⟩ := by rw [hold bp hbp]; exact hgp
          refine Runs.reg [0, 4, 6, 8, 20, 21, 22] (by kernel_rfl) fun kk hk oo ho => ?_
          clear ho
          simp +decide only [↓EV, EV, ty, ↓reduceIte, decide_true, decide_false, Int.cast_ofNat_Int, hgb, hf0, hf1]
          refine ⟨by omega, by omega, ?_⟩
          subst hk
          refine Runs.seq ?_
          refine Runs.reg [0, 4, 6, 9, 20, 21, 22] (by kernel_rfl) fun kk hk oo ho => ?_
          clear ho
          simp +decide only [↓EV, EV, ty, ↓reduceIte, decide_true, decide_false, Int.cast_ofNat_Int]
          subst hk
          refine Runs.anyG fun G3 hG3 => ?_
          have hx0 : n0 ≠ G2.next := by omega
          have hx1 : n0 ≠ G2.next + 1 := by omega
          have hx2 : n0 + 1 ≠ G2.next := by omega
          have hx3 : n0 + 1 ≠ G2.next + 1 := by omega
          have r1 : G3.next = G2.next + 2 := by rw [hG3]; rfl
          have r2 : G3.get n0 = some ⟨2, f4⟩ := by rw [hG3]; simp only [EV, hx0, hx1, if_false]; exact hg4
          have r3 : G3.get (n0 + 1) = some ⟨0, fm⟩ := by rw [hG3]; simp only [EV, hx2, hx3, if_false]; exact hgm
          have r4 : ∀ b, b < n0 → G3.get b = G.get b := fun b hb => by
            have h1 : b ≠ G2.next := by omega
            have h2 : b ≠ G2.next + 1 := by omega
            rw [hG3]; simp only [EV, h1, h2, if_false]; exact hold b hb
          have r5 : ∃ f9, G3.get (G2.next + 1) = some ⟨2, f9⟩ ∧ f9 0 = .int .i64 (normE (pa, pb)).1 ∧ f9 1 = .int .i64 (normE (pa, pb)).2 := ⟨_, by rw [hG3]; simp only [EV, if_true]; rfl, rfl, rfl⟩
          clear hG3 hg4 hgm hgb
          obtain ⟨f9, r5, r6, r7⟩ := r5
          generalize hne : normE (pa, pb) = e at r6 r7
          obtain ⟨eu, ev⟩ := e
          simp only at r6 r7
          refine Runs.seq ?_
          refine Runs.seq ?_
          by_cases hl : eu < 0
          · refine Runs.reg [0, 4, 6, 9, 20, 21, 22, 45] (by kernel_rfl) fun kk hk oo ho => ?_
            have g3 : (oo[3]?).bind (·.dst) = some 40 := by subst ho; rfl
            clear ho
            simp +decide only [↓EV, EV, ty, ↓reduceIte, decide_true, decide_false, Int.cast_ofNat_Int, g3, r5, r6, r7, hl, hl]
            subst hk
            refine Runs.cond (by kernel_rfl) rfl (fun hc => ?_) (fun hc => ?_)
            · have hbad : makeR n ps = errG 2 := by
                unfold makeR
                rw [if_neg (by omega), if_pos]
                rw [Bool.eq_false_iff]
                intro hall
                have := List.all_eq_true.1 hall (ps.getD i (0, 0)) (by rw [List.getD_eq_getElem?_getD, List.getElem?_eq_getElem (show i < ps.length by omega)]; exact List.getElem_mem _)
                rw [hab] at this
                simp only [inB, hne, Bool.and_eq_true, decide_eq_true_eq] at this
                omega
              refine Runs.seq ?_
              refine Runs.reg [4, 5] (by kernel_rfl) fun kk hk oo ho => ?_
              clear ho
              simp +decide only [↓EV, EV, ty, ↓reduceIte, decide_true, decide_false, Int.cast_ofNat_Int, r2]
              subst hk
              refine Runs.retL [.cell 4 28, .tmp 5] (by kernel_rfl) (by kernel_rfl) ?_
              simp +decide only [↓EV, EV, ty, ↓reduceIte, decide_true, decide_false, Int.cast_ofNat_Int, r2]
              subst hR
              rw [hn0]
              refine ⟨fun b hb => by rw [← r4 b hb]; exact upd_ne _ _ (by omega), ?_⟩
              rw [hbad]
              exact herr _ _
            · cases hc
          · by_cases hh : ev ≥ n
            · refine Runs.reg [0, 4, 6, 9, 20, 21, 22, 45] (by kernel_rfl) fun kk hk oo ho => ?_
              have g3 : (oo[3]?).bind (·.dst) = some 40 := by subst ho; rfl
              clear ho
              simp +decide only [↓EV, EV, ty, ↓reduceIte, decide_true, decide_false, Int.cast_ofNat_Int, g3, r5, r6, r7, hl, hh]
              subst hk
              refine Runs.cond (by kernel_rfl) rfl (fun hc => ?_) (fun hc => ?_)
              · have hbad : makeR n ps = errG 2 := by
                  unfold makeR
                  rw [if_neg (by omega), if_pos]
                  rw [Bool.eq_false_iff]
                  intro hall
                  have := List.all_eq_true.1 hall (ps.getD i (0, 0)) (by rw [List.getD_eq_getElem?_getD, List.getElem?_eq_getElem (show i < ps.length by omega)]; exact List.getElem_mem _)
                  rw [hab] at this
                  simp only [inB, hne, Bool.and_eq_true, decide_eq_true_eq] at this
                  omega
                refine Runs.seq ?_
                refine Runs.reg [4, 5] (by kernel_rfl) fun kk hk oo ho => ?_
                clear ho
                simp +decide only [↓EV, EV, ty, ↓reduceIte, decide_true, decide_false, Int.cast_ofNat_Int, r2]
                subst hk
                refine Runs.retL [.cell 4 28, .tmp 5] (by kernel_rfl) (by kernel_rfl) ?_
                simp +decide only [↓EV, EV, ty, ↓reduceIte, decide_true, decide_false, Int.cast_ofNat_Int, r2]
                subst hR
                rw [hn0]
                refine ⟨fun b hb => by rw [← r4 b hb]; exact upd_ne _ _ (by omega), ?_⟩
                rw [hbad]
                exact herr _ _
              · cases hc
            · refine Runs.reg [0, 4, 6, 9, 20, 21, 22, 45] (by kernel_rfl) fun kk hk oo ho => ?_
              have g3 : (oo[3]?).bind (·.dst) = some 40 := by subst ho; rfl
              clear ho
              simp +decide only [↓EV, EV, ty, ↓reduceIte, decide_true, decide_false, Int.cast_ofNat_Int, g3, r5, r6, r7, hl, hh]
              subst hk
              refine Runs.cond (by kernel_rfl) rfl (fun hc => ?_) (fun hc => ?_)
              · cases hc
              · refine Runs.skip ?_
                refine Runs.seq ?_
                have hinb : inB n (pa, pb) = true := by simp only [inB, hne, Bool.and_eq_true, decide_eq_true_eq]; omega
                obtain ⟨c1, b1, v1, hmp, hok1⟩ := mput_ok hok (eu, ev) (.bool true)
                have hfe := findEdge (eu, ev) (keysOf (ps.take i))
                simp only [edgeV] at hfe hmp
                have hkey := edgeKey eu ev
                refine Runs.reg [0, 4, 6, 9, 20, 21, 22] (by kernel_rfl) fun kk hk oo ho => ?_
                clear ho
                simp +decide only [↓EV, EV, ty, ↓reduceIte, decide_true, decide_false, Int.cast_ofNat_Int, r3, r5, r6, r7, hfm, hfe]
                refine ⟨hkey, ?_⟩
                subst hk
                refine Runs.anyG fun G4 hG4 => ?_
                have s1 : G4.next = G2.next + 2 := by rw [hG4]; exact r1
                have s2 : G4.get n0 = some ⟨2, f4⟩ := by rw [hG4]; show upd G3.get (n0 + 1) _ n0 = _; rw [upd_ne _ _ (by omega)]; exact r2
                have s3 : ∃ fm, G4.get (n0 + 1) = some ⟨0, fm⟩ ∧ fm 0 = .mapc c1 b1 ((addE (keysOf (ps.take i)) (eu, ev)).map edgeV) v1 := ⟨_, by rw [hG4]; exact upd_same _ _ _, hmp⟩
                have s4 : ∀ b, b < n0 → G4.get b = G.get b := fun b hb => by rw [hG4]; show upd G3.get (n0 + 1) _ b = _; rw [upd_ne _ _ (by omega)]; exact r4 b hb
                have s5 : G4.get (G2.next + 1) = some ⟨2, f9⟩ := by rw [hG4]; show upd G3.get (n0 + 1) _ _ = _; rw [upd_ne _ _ (by omega)]; exact r5
                clear hG4 r1 r2 r3 r4 r5 hfm hok hfe hmp
                obtain ⟨fm1, s3, s6⟩ := s3
                have htake : ps.take (i + 1) = ps.take i ++ [(pa, pb)] := by
                  rw [List.take_add_one, ← hab, List.getD_eq_getElem?_getD, List.getElem?_eq_getElem (show i < ps.length by omega)]; rfl
                have hstep : keysOf (ps.take (i + 1)) = mapStep (keysOf (ps.take i)) (pa, pb) := by unfold keysOf; rw [htake, List.foldl_append]; rfl
                have hin' : ∀ j, j < i + 1 → inB n (ps.getD j (0, 0)) = true := fun j hj => by
                  rcases Nat.lt_or_ge j i with h | h
                  · exact hin j h
                  · have : j = i := by omega
                    subst this; rw [hab]; exact hinb
                refine Runs.seq ?_
                refine Runs.reg [0, 4, 6, 9, 20, 21, 22, 53] (by kernel_rfl) fun kk hk oo ho => ?_
                clear ho
                simp +decide only [↓EV, EV, ty, ↓reduceIte, decide_true, decide_false, Int.cast_ofNat_Int, s5, r6, r7]
                subst hk
                refine Runs.cond (by kernel_rfl) rfl (fun hc => ?_) (fun hc => ?_)
                · have he : eu = ev := by simpa using hc
                  subst he
                  have hks : keysOf (ps.take (i + 1)) = delE (addE (keysOf (ps.take i)) (eu, eu)) (eu, eu) := by rw [hstep]; unfold mapStep; rw [hne, if_pos rfl]
                  obtain ⟨c2, b2, v2, hmd, hok2⟩ := mdel_ok hok1 (eu, eu)
                  have hfe2 := findEdge (eu, eu) (addE (keysOf (ps.take i)) (eu, eu))
                  simp only [edgeV] at hfe2 hmd s6
                  refine Runs.reg [0, 4, 6, 20, 21, 22] (by kernel_rfl) fun kk hk oo ho => ?_
                  clear ho
                  simp +decide only [↓EV, EV, ty, ↓reduceIte, decide_true, decide_false, Int.cast_ofNat_Int, s3, s5, r6, r7, s6, hfe2]
                  refine ⟨hkey, ?_⟩
                  subst hk
                  refine Runs.anyG fun G5 hG5 => ?_
                  have t1 : G5.next = G2.next + 2 := by rw [hG5]; exact s1
                  have t2 : G5.get n0 = some ⟨2, f4⟩ := by rw [hG5]; show upd G4.get (n0 + 1) _ n0 = _; rw [upd_ne _ _ (by omega)]; exact s2
                  have t3 : ∃ fm, G5.get (n0 + 1) = some ⟨0, fm⟩ ∧ fm 0 = .mapc c2 b2 ((delE (addE (keysOf (ps.take i)) (eu, eu)) (eu, eu)).map edgeV) v2 := ⟨_, by rw [hG5]; exact upd_same _ _ _, hmd⟩
                  have t4 : ∀ b, b < n0 → G5.get b = G.get b := fun b hb => by rw [hG5]; show upd G4.get (n0 + 1) _ b = _; rw [upd_ne _ _ (by omega)]; exact s4 b hb
                  obtain ⟨fm2, t3, t5⟩ := t3
                  refine Runs.inBlock ?_
                  refine Runs.reg [0, 4, 6, 20, 21, 22] (by kernel_rfl) fun kk hk oo ho => ?_
                  clear ho
                  simp +decide only [↓EV, EV, ty, ↓reduceIte, decide_true, decide_false, Int.cast_ofNat_Int]
                  subst hk
                  rw [i64s (by omega) (by omega)]
                  exact IH (m - 1) _ _ (by omega) ⟨i + 1, _, _, _, f4, _, by omega, rfl, by omega, t2, t3, by rw [hks]; exact t5, by rw [hks]; exact hok2, t4, hin'⟩
                · have he : eu ≠ ev := by simpa using hc
                  have hks : keysOf (ps.take (i + 1)) = addE (keysOf (ps.take i)) (eu, ev) := by rw [hstep]; unfold mapStep; rw [hne, if_neg he]
                  refine Runs.skip ?_
                  refine Runs.inBlock ?_
                  refine Runs.reg [0, 4, 6, 20, 21, 22] (by kernel_rfl) fun kk hk oo ho => ?_
                  clear ho
                  simp +decide only [↓EV, EV, ty, ↓reduceIte, decide_true, decide_false, Int.cast_ofNat_Int]
                  subst hk
                  rw [i64s (by omega) (by omega)]
                  exact IH (m - 1) _ _ (by omega) ⟨i + 1, _, _, _, f4, _, by omega, rfl, by omega, s2, s3, by rw [hks]; exact s6, by rw [hks]; exact hok1, s4, hin'⟩
        · have hc' := ofNB hc
          have hi : i = ps.length := by omega
          subst hi
          rw [List.take_length] at hfm hok
          refine Runs.exit rfl ?_
          refine Runs.seq ?_
          refine Runs.seq ?_
          have hall : ps.all (inB n) = true := List.all_eq_true.2 fun q hq => by
            obtain ⟨j, hj⟩ := List.getElem?_of_mem hq
            have hlt := (List.getElem?_eq_some_iff.1 hj).1
            have := hin j hlt
            rwa [List.getD_eq_getElem?_getD, hj] at this
          generalize hks : keysOf ps = ks at hfm hok
          refine Runs.reg [0, 4, 6, 59] (by kernel_rfl) fun kk hk oo ho => ?_
          clear ho
          simp +decide only [↓EV, EV, ty, ↓reduceIte, decide_true, decide_false, Int.cast_ofNat_Int, hgm, hfm, List.length_map]
          subst hk
          refine Runs.cond (by kernel_rfl) rfl (fun hc => ?_) (fun hc => ?_)
          · have hc' := ofB hc
            refine Runs.seq ?_
            refine Runs.reg [4, 5] (by kernel_rfl) fun kk hk oo ho => ?_
            clear ho
            simp +decide only [↓EV, EV, ty, ↓reduceIte, decide_true, decide_false, Int.cast_ofNat_Int, hg4]
            subst hk
            refine Runs.retL [.cell 4 28, .tmp 5] (by kernel_rfl) (by kernel_rfl) ?_
            simp +decide only [↓EV, EV, ty, ↓reduceIte, decide_true, decide_false, Int.cast_ofNat_Int, hg4]
            subst hR
            rw [hn0]
            refine ⟨fun b hb => by rw [← hold b hb]; exact upd_ne _ _ (by omega), ?_⟩
            have : makeR n ps = errG 141 := by unfold makeR; rw [if_neg (by omega), if_neg (by rw [hall]; simp), hks, if_pos (by omega)]
            rw [this]
            exact herr _ _
          · have hc' := ofNB hc
            refine Runs.skip ?_
            refine Runs.seq ?_
            refine Runs.reg [4, 6, 10] (by kernel_rfl) fun kk hk oo ho => ?_
            clear ho
            simp +decide only [↓EV, EV, ty, ↓reduceIte, decide_true, decide_false, Int.cast_ofNat_Int]
            subst hk
            refine Runs.anyG fun G3 hG3 => ?_
            have hx0 : n0 ≠ G2.next := by omega
            have hx2 : n0 + 1 ≠ G2.next := by omega
            have r1 : G3.next = G2.next + 1 := by rw [hG3]; rfl
            have r2 : G3.get n0 = some ⟨2, f4⟩ := by rw [hG3]; simp only [EV, hx0, if_false]; exact hg4
            have r3 : G3.get (n0 + 1) = some ⟨0, fm⟩ := by rw [hG3]; simp only [EV, hx2, if_false]; exact hgm
            have r4 : ∀ b, b < n0 → G3.get b = G.get b := fun b hb => by
              have h1 : b ≠ G2.next := by omega
              rw [hG3]; simp only [EV, h1, if_false]; exact hold b hb
            have r5 : ∃ fg, G3.get G2.next = some ⟨2, fg⟩ ∧ fg 0 = .int .i64 n ∧ fg 1 = .nils := ⟨_, by rw [hG3]; simp only [EV, if_true]; rfl, rfl, rfl⟩
            clear hG3 hg4 hgm hold
            obtain ⟨fg, r5, r6, r7⟩ := r5
            generalize hgB : G2.next = gB at *
            clear IH hin
            refine Runs.seq ?_
            refine Runs.seq ?_
            refine Runs.reg [4, 10, 64] (by kernel_rfl) fun kk hk oo ho => ?_
            clear ho
            simp +decide only [↓EV, EV, ty, ↓reduceIte, decide_true, decide_false, Int.cast_ofNat_Int, r3, hfm]
            subst hk
            refine Runs.anyG fun G4 hG4 => ?_
            have s1 : G4.next = gB + 2 := by rw [hG4]; show G3.next + 1 = _; omega
            have s2 : G4.get n0 = some ⟨2, f4⟩ := by rw [hG4]; show upd G3.get G3.next _ _ = _; rw [upd_ne _ _ (by omega)]; exact r2
            have s3 : G4.get (n0 + 1) = some ⟨0, fm⟩ := by rw [hG4]; show upd G3.get G3.next _ _ = _; rw [upd_ne _ _ (by omega)]; exact r3
            have s4 : ∀ b, b < n0 → G4.get b = G.get b := fun b hb => by rw [hG4]; show upd G3.get G3.next _ _ = _; rw [upd_ne _ _ (by omega)]; exact r4 b hb
            have s5 : G4.get gB = some ⟨2, fg⟩ := by rw [hG4]; show upd G3.get G3.next _ _ = _; rw [upd_ne _ _ (by omega)]; exact r5
            have s6 : ∃ fi, G4.get (gB + 1) = some ⟨0, fi⟩ ∧ fi 0 = .iterc (n0 + 1) clock [] clock := ⟨_, by rw [hG4, ← r1]; exact upd_same _ _ _, rfl⟩
            rw [r1]
            clear hG4 r1 r2 r3 r4 r5
            obtain ⟨fi, s6, s7⟩ := s6
            refine Runs.block ?_
            refine Runs.loop (fun m env G' => ∃ (idx : List Nat) (fg fi : Nat → AV), m + idx.length = ks.length ∧ env = envL [(4, .ptr n0 0), (10, .ptr gB 0), (64, .itp (gB + 1))] ∧ gB + 1 < G'.next ∧ G'.get n0 = some ⟨2, f4⟩ ∧ G'.get (n0 + 1) = some ⟨0, fm⟩ ∧ (∀ b, b < n0 → G'.get b = G.get b) ∧ G'.get gB = some ⟨2, fg⟩ ∧ fg 0 = .int .i64 n ∧ EdV (gB + 2) G' (fg 1) (idx.map fun j => ks.getD j (0, 0)) ∧
                G'.get (gB + 1) = some ⟨0, fi⟩ ∧ fi 0 = .iterc (n0 + 1) clock (idx.map fun j => born.getD j 0) clock ∧ idx.Nodup ∧ ∀ j ∈ idx, j < ks.length) ks.length ⟨[], fg, fi, rfl, rfl, by omega, s2, s3, s4, s5, r6, .inl ⟨rfl, r7⟩, s6, s7, List.nodup_nil, by simp⟩ ?_
            clear s1 s2 s3 s4 s5 s6 s7 r6 r7 fg fi
            rintro m _ G5 ⟨idx, fg, fi, hm, rfl, hnx, s2, s3, s4, s5, hfg0, hed, s6, s7, hnd, hlt'⟩ IH
            have hgB2 : n0 + 1 < gB := hlt
            refine Runs.seq ?_
            refine Runs.reg [4, 10, 64, 66] (by kernel_rfl) fun kk hk oo ho => ?_
            clear ho
            simp +decide only [↓EV, EV, ty, ↓reduceIte, decide_true, decide_false, Int.cast_ofNat_Int, s3, hfm, s6, s7]
            refine ⟨hok.lt, fun hover => ?_, fun j sj hsj hns => ?_⟩
            · subst hk
              refine Runs.seq ?_
              refine Runs.cond (by kernel_rfl) rfl (fun hc => ?_) (fun hc => ?_)
              · cases hc
              · have hcov : ∀ j, j < ks.length → j ∈ idx := fun j hj => by
                  have hb : j < born.length := by rw [hok.lb]; exact hj
                  obtain ⟨j', hj', he⟩ := List.mem_map.1 (hover born[j] (List.getElem_mem hb))
                  have hb' : j' < born.length := by rw [hok.lb]; exact hlt' j' hj'
                  rw [List.getD_eq_getElem?_getD, List.getElem?_eq_getElem hb', Option.getD_some] at he
                  have : j' = j := by
                    rcases Nat.lt_trichotomy j' j with h | h | h
                    · have := List.pairwise_iff_getElem.1 hok.up j' j hb' hb h; omega
                    · exact h
                    · have := List.pairwise_iff_getElem.1 hok.up j j' hb hb' h; omega
                  rw [← this]; exact hj'
                have hperm := perm_of_idx (0, 0) ks idx hnd hlt' hcov
                generalize hes : (idx.map fun j => ks.getD j (0, 0)) = es at hed hperm
                have hres : makeR n ps = .tup [.agg [.int .i64 n, edgesV (sortL (es.map toSE))], .int .i64 0] := by
                  unfold makeR
                  rw [if_neg (by omega), if_neg (by rw [hall]; simp), hks, if_neg (by omega), sortL_perm (hperm.map toSE)]
                have hesin : ∀ q ∈ es, 0 ≤ q.1 ∧ q.1 ≤ 1048576 ∧ 0 ≤ q.2 ∧ q.2 ≤ 1048576 := fun q hq => by
                  have hq' := hperm.mem_iff.1 hq
                  rw [← hks] at hq'
                  rcases keysOf_mem ps [] hq' with h | ⟨p, h3, h4⟩
                  · simp at h
                  · have h5 := List.all_eq_true.1 hall p h3
                    simp only [inB, Bool.and_eq_true, decide_eq_true_eq, ← h4] at h5
                    have h6 : q.1 ≤ q.2 := by rw [h4]; simp only [normE]; split <;> split <;> omega
                    omega
                refine Runs.exit rfl ?_
                refine Runs.seq ?_
                have hx0 : (n0 = gB) = False := eq_false (by omega)
                rcases hed with ⟨rfl, hv⟩ | ⟨h0, b, f, hv, hb1, hb2, hb3, hb4⟩
                · refine Runs.reg [4, 10] (by kernel_rfl) fun kk hk oo ho => ?_
                  clear ho
                  simp +decide only [↓EV, EV, ty, ↓reduceIte, decide_true, decide_false, Int.cast_ofNat_Int, s5, hv]
                  refine CallAt.rel (sortNil_ct _) ?_
                  rintro r G6 ⟨rfl, rfl⟩
                  simp +decide only [↓EV, EV, ty, ↓reduceIte, decide_true, decide_false, Int.cast_ofNat_Int]
                  subst hk
                  refine Runs.seq ?_
                  refine Runs.reg [4, 5] (by kernel_rfl) fun kk hk oo ho => ?_
                  clear ho
                  simp +decide only [↓EV, EV, ty, ↓reduceIte, decide_true, decide_false, Int.cast_ofNat_Int, s5, s2, hfg0, hv]
                  subst hk
                  refine Runs.retL [.cell 4 28, .tmp 5] (by kernel_rfl) (by kernel_rfl) ?_
                  simp +decide only [↓EV, EV, ty, ↓reduceIte, decide_true, decide_false, Int.cast_ofNat_Int, s2]
                  subst hR
                  rw [hn0, hres]
                  refine ⟨fun b hb => by rw [← s4 b hb]; exact upd_ne _ _ (by omega), fz_pair (fz_agg2 (.int _ _) ?_) (.int _ _)⟩
                  simp only [List.map_nil, sortL, List.mergeSort_nil, edgesV]
                  exact .nils
                · refine Runs.reg [4, 10] (by kernel_rfl) fun kk hk oo ho => ?_
                  clear ho
                  simp +decide only [↓EV, EV, ty, ↓reduceIte, decide_true, decide_false, Int.cast_ofNat_Int, s5, hv]
                  have hds : (es.map toSE).length = es.length := by simp
                  have hlt4 : es.length ≤ 4194304 := by rw [hperm.length_eq]; omega
                  refine CallAt.rel (sortE_ct G5 b es.length false f (es.map toSE) hds (by omega) hb3 fun j hj => ?_) ?_
                  · rw [hb4 j hj]
                    have hj2 : j / 2 < es.length := by omega
                    have hin2 := hesin es[j / 2] (List.getElem_mem hj2)
                    simp only [cellP, cellE, List.getElem?_map, List.getElem?_eq_getElem hj2, Option.map_some, List.getD_eq_getElem?_getD, Option.getD_some, toSE_val hin2]
                  rintro r G6 ⟨rfl, rfl⟩
                  simp +decide only [↓EV, EV, ty, ↓reduceIte, decide_true, decide_false, Int.cast_ofNat_Int]
                  subst hk
                  have hy0 : (gB = b) = False := eq_false (by omega)
                  have hy1 : (n0 = b) = False := eq_false (by omega)
                  refine Runs.seq ?_
                  refine Runs.reg [4, 5] (by kernel_rfl) fun kk hk oo ho => ?_
                  clear ho
                  simp +decide only [↓EV, EV, ty, ↓reduceIte, decide_true, decide_false, Int.cast_ofNat_Int, s5, s2, hfg0, hv, hy0, hy1]
                  subst hk
                  refine Runs.retL [.cell 4 28, .tmp 5] (by kernel_rfl) (by kernel_rfl) ?_
                  simp +decide only [↓EV, EV, ty, ↓reduceIte, decide_true, decide_false, Int.cast_ofNat_Int, s2, hy1]
                  subst hR
                  rw [hn0, hres]
                  refine ⟨fun b' hb => by rw [← s4 b' hb]; show upd (upd _ _ _) _ _ _ = _; rw [upd_ne _ _ (by omega), upd_ne _ _ (by omega)], fz_pair (fz_agg2 (.int _ _) ?_) (.int _ _)⟩
                  refine fz_edges (by omega) (by simp [sortL]) h0 ?_
                  show upd (upd _ _ _) _ _ _ = _
                  rw [upd_ne _ _ (by omega)]
                  exact upd_same _ _ _
            · subst hk
              refine Runs.seq ?_
              refine Runs.cond (by kernel_rfl) rfl (fun hc => ?_) (fun hc => ?_)
              · have hjb : j < born.length := (List.getElem?_eq_some_iff.1 hsj).1
                have hjk : j < ks.length := by rw [← hok.lb]; exact hjb
                have hsj' : born.getD j 0 = sj := by rw [List.getD_eq_getElem?_getD, hsj]; rfl
                have hjn : j ∉ idx := fun h => hns (List.mem_map.2 ⟨j, h, hsj'⟩)
                refine Runs.skip ?_
                refine Runs.block ?_
                refine Runs.seq ?_
                refine Runs.anyG fun G6 hG6 => ?_
                have t1 : G6.next = G5.next := by rw [hG6]; rfl
                have t2 : G6.get n0 = some ⟨2, f4⟩ := by rw [hG6]; show upd _ _ _ _ = _; rw [upd_ne _ _ (by omega)]; exact s2
                have t3 : G6.get (n0 + 1) = some ⟨0, fm⟩ := by rw [hG6]; show upd _ _ _ _ = _; rw [upd_ne _ _ (by omega)]; exact s3
                have t4 : ∀ b, b < n0 → G6.get b = G.get b := fun b hb => by rw [hG6]; show upd _ _ _ _ = _; rw [upd_ne _ _ (by omega)]; exact s4 b hb
                have t5 : G6.get gB = some ⟨2, fg⟩ := by rw [hG6]; show upd _ _ _ _ = _; rw [upd_ne _ _ (by omega)]; exact s5
                have t6 : ∃ fi, G6.get (gB + 1) = some ⟨0, fi⟩ ∧ fi 0 = .iterc (n0 + 1) clock ((idx ++ [j]).map fun j => born.getD j 0) clock := ⟨_, by rw [hG6]; exact upd_same _ _ _, by simp only [List.map_append, List.map_cons, List.map_nil, hsj']⟩
                have hed6 : EdV (gB + 2) G6 (fg 1) (idx.map fun j => ks.getD j (0, 0)) := by
                  rcases hed with h | ⟨h0, b, f, h1, h2, h3, h4, h5⟩
                  · exact .inl h
                  · exact .inr ⟨h0, b, f, h1, h2, by omega, by rw [hG6]; show upd _ _ _ _ = _; rw [upd_ne _ _ (by omega)]; exact h4, h5⟩
                clear hG6 hed s2 s3 s4 s5 s6 s7
                obtain ⟨fi6, t6, t7⟩ := t6
                have hkey : (ks.map edgeV).getD j .undef = .agg [.int .i64 (ks.getD j (0, 0)).1, .int .i64 (ks.getD j (0, 0)).2] := by
                  rw [List.getD_eq_getElem?_getD, List.getElem?_map, List.getD_eq_getElem?_getD, List.getElem?_eq_getElem hjk]; rfl
                have hlastj : ((idx ++ [j]).map fun j => born.getD j 0).getLast? = some sj := by rw [List.map_append, List.map_cons, List.map_nil, hsj']; simp
                refine Runs.reg [4, 10, 11, 64] (by kernel_rfl) fun kk hk oo ho => ?_
                clear ho
                simp +decide only [↓EV, EV, ty, ↓reduceIte, decide_true, decide_false, Int.cast_ofNat_Int, t3, t6, t7, hfm, hkey]
                refine ⟨sj, j, hlastj, hsj, fun j' hj' he => ?_, ?_⟩
                · have hb' : j' < born.length := by omega
                  rw [List.getElem?_eq_getElem hb'] at he
                  rw [List.getElem?_eq_getElem hjb] at hsj
                  injection he with he; injection hsj with hsj
                  have := List.pairwise_iff_getElem.1 hok.up j' j hb' hjb hj'
                  omega
                simp +decide only [↓EV, EV, ty, ↓reduceIte, decide_true, decide_false, Int.cast_ofNat_Int, hkey]
                subst hk
                refine Runs.anyG fun G7 hG7 => ?_
                have u1 : G7.next = G5.next + 1 := by rw [hG7]; show G6.next + 1 = _; omega
                have hne : ∀ b, b < G5.next → G7.get b = G6.get b := fun b hb => by
                  have h1 : b ≠ G6.next := by omega
                  rw [hG7]; simp only [EV, h1, if_false]
                have u5 : ∃ f11, G7.get G6.next = some ⟨2, f11⟩ ∧ f11 0 = .int .i64 (ks.getD j (0, 0)).1 ∧ f11 1 = .int .i64 (ks.getD j (0, 0)).2 := ⟨_, by rw [hG7]; simp only [EV, if_true]; rfl, rfl, rfl⟩
                clear hG7
                obtain ⟨f11, u5, u6, u7⟩ := u5
                have v2 := (hne n0 (by omega)).trans t2
                have v3 := (hne (n0 + 1) (by omega)).trans t3
                have v4 : ∀ b, b < n0 → G7.get b = G.get b := fun b hb => (hne b (by omega)).trans (t4 b hb)
                have v5 := (hne gB (by omega)).trans t5
                have v6 := (hne (gB + 1) (by omega)).trans t6
                have hnd' : (idx ++ [j]).Nodup := List.nodup_append.2 ⟨hnd, by simp, fun a ha b hb he => by simp at hb; subst hb; subst he; exact hjn ha⟩
                have hlt2 : ∀ x ∈ idx ++ [j], x < ks.length := fun x hx => by
                  rcases List.mem_append.1 hx with h | h
                  · exact hlt' x h
                  · simp at h; subst h; exact hjk
                have hlen2 : idx.length < ks.length := by
                  rcases Nat.lt_or_ge idx.length ks.length with h | h
                  · exact h
                  · have hle := nodup_len ks.length _ hnd' hlt2
                    simp at hle; omega
                have hmapE : ((idx ++ [j]).map fun j => ks.getD j (0, 0)) = (idx.map fun j => ks.getD j (0, 0)) ++ [((ks.getD j (0, 0)).1, (ks.getD j (0, 0)).2)] := by simp
                have hel : (idx.map fun j => ks.getD j (0, 0)).length = idx.length := by simp
                generalize hes : (idx.map fun j => ks.getD j (0, 0)) = es at hed6 hmapE hel
                have hlt4 : es.length ≤ 4194304 := by omega
                have hz1 : (gB = G7.next) = False := eq_false (by omega)
                rcases hed6 with ⟨rfl, hv⟩ | ⟨h0, b, f, hv, hb1, hb2, hb3, hb4⟩
                · refine Runs.reg [4, 10, 64] (by kernel_rfl) fun kk hk oo ho => ?_
                  clear ho
                  simp +decide only [↓EV, EV, ty, ↓reduceIte, decide_true, decide_false, Int.cast_ofNat_Int, v5, u5, u6, u7, hv, hfg0, hz1]
                  subst hk
                  refine Runs.inBlock ?_
                  refine IH (m - 1) _ _ (by omega) ⟨idx ++ [j], _, fi6, by simp; omega, rfl, by show gB + 1 < G7.next + 1; omega, ?_, ?_, fun b' hb' => ?_, upd_same _ _ _, ?_, ?_, ?_, t7, hnd', hlt2⟩
                  · show upd (upd G7.get G7.next _) gB _ n0 = _
                    rw [upd_ne _ _ (by omega), upd_ne _ _ (by omega)]
                    exact v2
                  · show upd (upd G7.get G7.next _) gB _ (n0 + 1) = _
                    rw [upd_ne _ _ (by omega), upd_ne _ _ (by omega)]
                    exact v3
                  · show upd (upd G7.get G7.next _) gB _ b' = _
                    rw [upd_ne _ _ (by omega), upd_ne _ _ (by omega)]
                    exact v4 b' hb'
                  · exact hfg0
                  · rw [hmapE]
                    refine .inr ⟨by simp, G7.next, _, by simp [upd_same], by omega, by show G7.next < G7.next + 1; omega, ?_, appE (es := []) (h := fun _ => .undef) (fun j hj => by simp at hj)⟩
                    show upd (upd G7.get G7.next _) gB _ G7.next = _
                    rw [upd_ne _ _ (by omega)]
                    exact upd_same _ _ _
                  · show upd (upd G7.get G7.next _) gB _ (gB + 1) = _
                    rw [upd_ne _ _ (by omega), upd_ne _ _ (by omega)]
                    exact v6
                · have hb2' : b < G5.next := by omega
                  have hb3' := (hne b hb2').trans hb3
                  have hz2 : (gB = b) = False := eq_false (by omega)
                  refine Runs.reg [4, 10, 64] (by kernel_rfl) fun kk hk oo ho => ?_
                  clear ho
                  simp +decide only [↓EV, EV, ty, ↓reduceIte, decide_true, decide_false, Int.cast_ofNat_Int, v5, u5, u6, u7, hv, hfg0, hb3', hz1, hz2]
                  refine ⟨⟨by omega, by omega, by omega⟩, ?_⟩
                  subst hk
                  refine Runs.inBlock ?_
                  refine IH (m - 1) _ _ (by omega) ⟨idx ++ [j], _, fi6, by simp; omega, rfl, by show gB + 1 < G7.next + 1; omega, ?_, ?_, fun b' hb' => ?_, upd_same _ _ _, ?_, ?_, ?_, t7, hnd', hlt2⟩
                  · show upd (upd (upd G7.get b _) G7.next _) gB _ n0 = _
                    rw [upd_ne _ _ (by omega), upd_ne _ _ (by omega), upd_ne _ _ (by omega)]
                    exact v2
                  · show upd (upd (upd G7.get b _) G7.next _) gB _ (n0 + 1) = _
                    rw [upd_ne _ _ (by omega), upd_ne _ _ (by omega), upd_ne _ _ (by omega)]
                    exact v3
                  · show upd (upd (upd G7.get b _) G7.next _) gB _ b' = _
                    rw [upd_ne _ _ (by omega), upd_ne _ _ (by omega), upd_ne _ _ (by omega)]
                    exact v4 b' hb'
                  · exact hfg0
                  · rw [hmapE]
                    refine .inr ⟨by simp, G7.next, _, by simp [upd_same], by omega, by show G7.next < G7.next + 1; omega, ?_, appE hb4⟩
                    show upd (upd (upd G7.get b _) G7.next _) gB _ G7.next = _
                    rw [upd_ne _ _ (by omega)]
                    rw [show (es ++ [((ks.getD j (0, 0)).1, (ks.getD j (0, 0)).2)]).length = es.length + 1 from by simp]
                    exact upd_same _ _ _
                  · show upd (upd (upd G7.get b _) G7.next _) gB _ (gB + 1) = _
                    rw [upd_ne _ _ (by omega), upd_ne _ _ (by omega), upd_ne _ _ (by omega)]
                    exact v6
              · cases hc

end Go.Fw.Sx
