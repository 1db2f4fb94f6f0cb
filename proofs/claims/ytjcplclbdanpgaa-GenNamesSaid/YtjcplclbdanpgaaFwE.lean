/- Literals; the operations that leave memory alone, all together. -/
import Derived.Test.YtjcplclbdanpgaaFwD
set_option linter.unusedVariables false
set_option linter.unusedSimpArgs false
namespace Go.Fw
open Go

theorem VR.oneCell {L : Lay} {w : World} {c : AV} {v : Value} (h : VR L w c v) (hc : c.isCell = true) : v.oneCell' = true := by
  cases h <;> first | rfl | (simp [AV.isCell] at hc)
theorem VR.cells1 {L : Lay} {w : World} {c : AV} {v : Value} (h : VR L w c v) (hc : c.isCell = true) : c.cells = [c] ∧ v.cells = #[v] := by
  cases h <;> first | exact ⟨rfl, rfl⟩ | (simp [AV.isCell] at hc)
theorem VR.cells {L : Lay} {w : World} {c : AV} {v : Value} (h : VR L w c v) (hc : c.cells.all AV.isCell = true) : VRs L w c.cells v.cells.toList ∧ ∀ u ∈ v.cells.toList, u.oneCell' = true := by
  by_cases ha : ∃ cs, c = .agg cs
  · obtain ⟨cs, rfl⟩ := ha
    obtain ⟨vs, rfl, hl, hv⟩ := h.inv_agg
    simp only [AV.cells, List.all_eq_true] at hc
    refine ⟨⟨hl, fun i d u e1 e2 => hv i d u e1 (by simpa [Value.cells] using e2)⟩, fun u hu => ?_⟩
    simp only [Value.cells] at hu
    obtain ⟨i, hi, rfl⟩ := List.mem_iff_getElem.1 hu
    have hi' : i < cs.length := by rw [hl]; simpa using hi
    exact (hv i cs[i] _ (by simp [hi']) (by simp)).oneCell (hc _ (List.getElem_mem hi'))
  · have h0 : c.cells = [c] := by
      cases c <;> first | rfl | exact absurd ⟨_, rfl⟩ ha
    have h1 : c.isCell = true := by
      rw [h0] at hc
      simpa using hc
    obtain ⟨e1, e2⟩ := h.cells1 h1
    rw [e1, e2]
    exact ⟨.cons h (.nil L w), fun u hu => by simp at hu; subst hu; exact h.oneCell h1⟩

theorem fold_get (off : Nat) (l : List Value) : ∀ (k : Nat) (cells : Array Value), off + k + l.length ≤ cells.size → ∀ i, ((l.zipIdx k).foldl (fun cs (x : Value × Nat) => cs.setIfInBounds (off + x.2) x.1) cells)[i]? =
    if off + k ≤ i ∧ i < off + k + l.length then l[i - off - k]? else cells[i]? := by
  induction l with
  | nil => intro k cells _ i; simp; omega
  | cons c l ih =>
    intro k cells hl i
    simp only [List.zipIdx_cons, List.foldl_cons]
    rw [ih (k + 1) _ (by simp at hl ⊢; omega)]
    simp only [List.length_cons] at hl ⊢
    by_cases h1 : off + (k + 1) ≤ i ∧ i < off + (k + 1) + l.length
    · rw [if_pos h1, if_pos (by omega)]
      rw [show i - off - k = (i - off - (k + 1)) + 1 from by omega, List.getElem?_cons_succ]
    · rw [if_neg h1]
      by_cases h2 : i = off + k
      · subst h2
        rw [if_pos (by omega)]
        have : off + k - off - k = 0 := by omega
        rw [this]
        simp [Array.getElem?_setIfInBounds]
        omega
      · rw [if_neg (by omega), Array.getElem?_setIfInBounds_ne (by omega)]
theorem fold_size (off : Nat) (l : List (Value × Nat)) : ∀ (cells : Array Value), (l.foldl (fun cs (x : Value × Nat) => cs.setIfInBounds (off + x.2) x.1) cells).size = cells.size := by
  induction l with
  | nil => intro cells; rfl
  | cons c l ih => intro cells; simp only [List.foldl_cons]; rw [ih]; simp

theorem lay_length (zs : List AV) (off : Nat) (cs : List AV) (h : off + cs.length ≤ zs.length) : (lay zs off cs).length = zs.length := by
  simp [lay]; omega
theorem lay_get (zs : List AV) (off : Nat) (cs : List AV) (h : off + cs.length ≤ zs.length) (i : Nat) : (lay zs off cs)[i]? = if off ≤ i ∧ i < off + cs.length then cs[i - off]? else zs[i]? := by
  unfold lay
  rw [List.append_assoc, List.getElem?_append]
  simp only [List.length_take]
  split
  · rw [if_neg (by omega), List.getElem?_take, if_pos (by omega)]
  · rw [List.getElem?_append]
    split
    · rw [if_pos (by omega)]; congr 1; omega
    · rw [if_neg (by omega), List.getElem?_drop]; congr 1; omega

theorem partsK_sound {C : Cx} {L : Lay} {w : World} {ρ : Operand → AV} {a : Act} {place : Nat → Option (Nat × Nat)} : ∀ (parts : List (Nat × Operand)) (zs : List AV) (cells : Array Value) {K : List AV → Prop}, VRs L w zs cells.toList →
    (∀ p ∈ parts, VR L w (ρ p.2) (a.eval p.2)) → partsK C place ρ parts zs K → ∃ cells' zs', Instr.fill place cells (parts.map fun (i, x) => (i, a.eval x)) = some cells' ∧ VRs L w zs' cells'.toList ∧ K zs' ∧ (zs.all AV.isCell = true → zs'.all AV.isCell = true)
  | [], zs, cells, K, hz, _, h => ⟨cells, zs, rfl, hz, h, fun h => h⟩
  | (i, x) :: rest, zs, cells, K, hz, hp, h => by
    simp only [partsK] at h
    simp only [List.map_cons, Instr.fill]
    cases hpl : place i with
    | none => simp [hpl] at h
    | some q =>
      obtain ⟨off, sz⟩ := q
      simp only [hpl] at h
      obtain ⟨h1, h2, h3, h4⟩ := h
      obtain ⟨hc, _⟩ := (hp (i, x) (by simp)).cells h3
      have hl : (a.eval x).cells.size = (ρ x).cells.length := by have := hc.1; simpa using this.symm
      have hzl : cells.size = zs.length := by have := hz.1; simpa using this.symm
      have hif : ((a.eval x).cells.size ≠ sz || off + (a.eval x).cells.size > cells.size) = false := by
        simp [hl, h1, hzl]; rw [← h1]; exact h2
      simp only [hif]
      have hcell : zs.all AV.isCell = true → (lay zs off (ρ x).cells).all AV.isCell = true := by
        intro hz0
        rw [List.all_eq_true] at hz0 h3 ⊢
        intro c hc
        simp only [lay, List.mem_append] at hc
        rcases hc with (hc | hc) | hc
        · exact hz0 c (List.mem_of_mem_take hc)
        · exact h3 c hc
        · exact hz0 c (List.mem_of_mem_drop hc)
      suffices hs : _ by
        obtain ⟨c', z', g1, g2, g3, g4⟩ := partsK_sound rest (lay zs off (ρ x).cells) _ hs (fun p hm => hp p (by simp [hm])) h4
        exact ⟨c', z', g1, g2, g3, fun hz0 => g4 (hcell hz0)⟩
      have hsz : ((a.eval x).cells.zipIdx.foldl (fun cs (x : Value × Nat) => cs.setIfInBounds (off + x.2) x.1) cells).size = cells.size := by
        rw [← Array.foldl_toList, fold_size]
      refine ⟨?_, fun j c v e1 e2 => ?_⟩
      · rw [lay_length _ _ _ h2, ← hzl]
        simpa using hsz.symm
      · rw [lay_get _ _ _ h2] at e1
        rw [Array.getElem?_toList, ← Array.foldl_toList, Array.toList_zipIdx, fold_get off _ 0 cells (by simp [hl, hzl]; exact h2)] at e2
        simp only [Nat.add_zero, Nat.sub_zero, Array.length_toList, hl] at e2
        split at e1
        · rename_i hh
          rw [if_pos hh] at e2
          exact hc.2 _ _ _ e1 e2
        · rename_i hh
          rw [if_neg hh] at e2
          exact hz.2 _ _ _ e1 (by simpa using e2)

end Go.Fw
