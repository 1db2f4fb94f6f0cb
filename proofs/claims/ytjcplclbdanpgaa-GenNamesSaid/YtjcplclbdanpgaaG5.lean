import Derived.Test.YtjcplclbdanpgaaG4
namespace Go.Fw.Sx
open Go Go.Fw Go.Proofs
set_option maxRecDepth 100000
set_option linter.unusedSimpArgs false
set_option linter.unusedVariables false
/-- The variable of pairs, at 'bp'; the list's memory is its own, from 'base' on. -/
structure PS (base : Nat) (G : Heap) (bp : Nat) (ps : List (Int × Int)) : Prop where
  lt : bp < base
  le : base ≤ G.next
  st : ∃ f, G.get bp = some ⟨1, f⟩ ∧ (ps = [] ∧ f 0 = .nils ∨ 0 < ps.length ∧ ∃ b h, f 0 = .sl b 0 ps.length false 2 ∧ base ≤ b ∧ b < G.next ∧ G.get b = some ⟨ps.length * 2, h⟩ ∧ ∀ i, i < ps.length → h (i * 2) = .int .i64 (ps.getD i (0, 0)).1 ∧ h (i * 2 + 1) = .int .i64 (ps.getD i (0, 0)).2)
def PSto (base bp : Nat) (G : Heap) (ps : List (Int × Int)) (G' : Heap) : Prop := PS base G' bp ps ∧ ∀ b, b < base → b ≠ bp → G'.get b = G.get b
theorem appPair {len : Nat} {h : Nat → AV} {ps : List (Int × Int)} {u v : Int} (hl : ps.length = len) (hh : ∀ i, i < len → h (i * 2) = .int .i64 (ps.getD i (0, 0)).1 ∧ h (i * 2 + 1) = .int .i64 (ps.getD i (0, 0)).2) :
    ∀ i, i < len + 1 → appF 2 len h (fun i => List.take 2 (List.drop (i * 2) [AV.int .i64 u, AV.int .i64 v])) (i * 2) = .int .i64 ((ps ++ [(u, v)]).getD i (0, 0)).1 ∧
      appF 2 len h (fun i => List.take 2 (List.drop (i * 2) [AV.int .i64 u, AV.int .i64 v])) (i * 2 + 1) = .int .i64 ((ps ++ [(u, v)]).getD i (0, 0)).2 := by
  intro i hi
  subst hl
  rcases Nat.lt_or_ge i ps.length with hlt | hge
  · simp only [appF]
    rw [if_pos (by omega), if_pos (by omega)]
    have e : (ps ++ [(u, v)]).getD i (0, 0) = ps.getD i (0, 0) := by simp [List.getD_eq_getElem?_getD, List.getElem?_append, hlt]
    rw [e]
    exact hh i hlt
  · have : i = ps.length := by omega
    subst this
    simp only [appF]
    rw [if_neg (by omega), if_neg (by omega)]
    have e : (ps ++ [(u, v)]).getD ps.length (0, 0) = (u, v) := by simp [List.getD_eq_getElem?_getD]
    rw [e, show ps.length * 2 - ps.length * 2 = 0 from by omega, show ps.length * 2 + 1 - ps.length * 2 = 1 from by omega]
    exact ⟨rfl, rfl⟩
theorem to_ct {base bp : Nat} {G : Heap} {ps : List (Int × Int)} {u v : Int} (h : PS base G bp ps) (hlen : ps.length ≤ 1000000000) : Ct cx 11 [.int .i64 u, .int .i64 v, .ptr bp 0] G fun _ G' => PSto base bp G (ps ++ [(u, v)]) G' := by
  obtain ⟨hlt, hle, f, hg, hst⟩ := h
  refine Ct.start (fun _ => false) Try.func11 rfl (by kernel_rfl) (by kernel_rfl) fun R hR => ?_
  simp only [EV]
  rcases hst with ⟨rfl, h0⟩ | ⟨hp, b, h, h0, hb, hb2, hgb, hh⟩
  · refine Runs.reg [] (by kernel_rfl) fun kk hk oo ho => ?_
    clear ho
    have e1 : (bp = G.next) = False := eq_false (by omega)
    simp +decide only [↓EV, EV, ty, ↓reduceIte, decide_true, decide_false, Int.cast_ofNat_Int, hg, h0, e1]
    subst hk
    refine Runs.finL [] (by kernel_rfl) (by kernel_rfl) ?_
    simp +decide only [↓EV, EV]
    subst hR
    refine ⟨⟨hlt, by show base ≤ G.next + 1; omega, _, upd_same _ _ _, .inr ⟨by simp, G.next, appF 2 0 (fun _ => .undef) (fun i => List.take 2 (List.drop (i * 2) [AV.int .i64 u, AV.int .i64 v])), by simp [upd_same], hle, by show G.next < G.next + 1; omega, ?_, appPair (len := 0) rfl (fun i hi => by omega)⟩⟩, fun b hb hne => ?_⟩
    · show upd _ bp _ G.next = _
      rw [upd_ne _ _ (by omega)]
      exact upd_same _ _ _
    · show upd (upd G.get G.next _) bp _ b = _
      rw [upd_ne _ _ hne, upd_ne _ _ (by omega)]
  · refine Runs.reg [] (by kernel_rfl) fun kk hk oo ho => ?_
    clear ho
    have e1 : (bp = G.next) = False := eq_false (by omega)
    have e2 : (bp = b) = False := eq_false (by omega)
    simp +decide only [↓EV, EV, ty, ↓reduceIte, decide_true, decide_false, Int.cast_ofNat_Int, hg, h0, e1, e2, hgb]
    refine ⟨⟨by omega, by omega, by omega⟩, ?_⟩
    subst hk
    refine Runs.finL [] (by kernel_rfl) (by kernel_rfl) ?_
    simp +decide only [↓EV, EV]
    subst hR
    refine ⟨⟨hlt, by show base ≤ G.next + 1; omega, _, upd_same _ _ _, .inr ⟨by simp, G.next, appF 2 ps.length h (fun i => List.take 2 (List.drop (i * 2) [AV.int .i64 u, AV.int .i64 v])), by simp [upd_same], hle, by show G.next < G.next + 1; omega, ?_, fun i hi => appPair rfl hh i (by simpa using hi)⟩⟩, fun b' hb' hne => ?_⟩
    · show upd _ bp _ G.next = _
      rw [upd_ne _ _ (by omega)]
      rw [show (ps ++ [(u, v)]).length = ps.length + 1 from by simp]
      exact upd_same _ _ _
    · show upd (upd (upd G.get b _) G.next _) bp _ b' = _
      rw [upd_ne _ _ hne, upd_ne _ _ (by omega), upd_ne _ _ (by omega)]
end Go.Fw.Sx
