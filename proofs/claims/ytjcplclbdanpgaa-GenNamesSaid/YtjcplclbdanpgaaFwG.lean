/- New blocks, stores. -/
import Derived.Test.YtjcplclbdanpgaaFwF
set_option linter.unusedVariables false
set_option linter.unusedSimpArgs false
namespace Go.Fw
open Go

def Heap.push (G : Heap) (b : Blk) : Heap := ⟨G.next + 1, upd G.get G.next (some b)⟩
def Heap.set (G : Heap) (i : Nat) (b : Option Blk) : Heap := ⟨G.next, upd G.get i b⟩
def setL (f : Nat → AV) (off : Nat) : List AV → Nat → AV
  | [] => f
  | c :: cs => upd (setL f (off + 1) cs) off c
theorem setL_apply (cs : List AV) : ∀ (f : Nat → AV) (off i : Nat), setL f off cs i = if off ≤ i ∧ i < off + cs.length then cs.getD (i - off) .undef else f i := by
  induction cs with
  | nil => intro f off i; simp [setL]; omega
  | cons c cs ih =>
    intro f off i
    simp only [setL, upd_apply, ih]
    by_cases h : i = off
    · subst h; simp
    · rw [if_neg h]
      by_cases h2 : off + 1 ≤ i ∧ i < off + 1 + cs.length
      · rw [if_pos h2, if_pos ⟨by omega, by simp; omega⟩]
        rw [show i - off = (i - (off + 1)) + 1 from by omega]
        simp
      · rw [if_neg h2, if_neg (by simp; omega)]

def zeros (zs : List AV) (sz n : Nat) : List AV := tab (n * sz) fun i => zs.getD (i % sz) .undef
def elsK (C : Cx) (ρ : Operand → AV) (t : TypeId) (len : Nat) (parts : Array (Nat × Operand)) (K : Nat → List AV → Prop) : Prop :=
  match C.el t with
  | none => False
  | some e => match C.ti e with
    | none => False
    | some i => (len * i.sz ≤ 16777216 ∧ len ≤ 16777216 ∧ i.zs.all AV.isCell = true) ∧ partsK C (fun k => some (k * i.sz, i.sz)) ρ parts.toList (zeros i.zs i.sz len) (K i.sz)
/-- Memory that is made and never written again. -/
def immK (C : Cx) (ρ : Operand → AV) (op : Op) (K : AV → Prop) : Prop :=
  match op with
  | .box t x => (ρ x).cells.all AV.isCell = true ∧ K (.ref (ρ x).cells)
  | .buildSlice t len parts => (match len with
    | 0 => elsK C ρ t 0 parts fun _ _ => K .nils
    | n + 1 => elsK C ρ t (n + 1) parts fun sz cs => K (.lst sz (n + 1) fun i => (cs.drop (i * sz)).take sz))
  | _ => False
/-- A new block that may be written. -/
def newK (C : Cx) (ρ : Operand → AV) (op : Op) (K : (Nat → AV) → Blk → Prop) : Prop :=
  match op with
  | .alloc t => (match C.ti t with
    | some i => i.zs.all AV.isCell = true ∧ K (fun id => .ptr id 0) ⟨i.sz, fun j => i.zs.getD j .undef⟩
    | none => False)
  | .box t x => (ρ x).cells.all AV.isCell = true ∧ K (fun id => .ptr id 0) ⟨(ρ x).cells.length, fun j => (ρ x).cells.getD j .undef⟩
  | .buildSlice t len parts => elsK C ρ t len parts fun sz cs => K (fun id => .sl id 0 len true sz) ⟨len * sz, fun j => cs.getD j .undef⟩
  | .makeSlice t l c => (match C.el t, ρ l, ρ c with
    | some e, .int _ n, .int _ m => (match C.ti e with
      | some i => (0 ≤ n ∧ n ≤ m ∧ (i.by' : Int) * m ≤ 140737488355328 ∧ m ≤ 140737488355328 ∧ i.zs.all AV.isCell = true) ∧ K (fun id => .sl id 0 n.toNat (decide (n = m)) i.sz) ⟨n.toNat * i.sz, fun j => i.zs.getD (j % i.sz) .undef⟩
      | none => False)
    | _, _, _ => False)
  | _ => False

theorem alloc_heap (w : World) (o : Obj) : (w.alloc o).heap = w.heap.push o := rfl
theorem alloc_size (w : World) (o : Obj) : (w.alloc o).heap.size = w.heap.size + 1 := by simp [alloc_heap]
theorem alloc_old (w : World) (o : Obj) {i : Nat} (h : i < w.heap.size) : (w.alloc o).heap[i]? = w.heap[i]? := by rw [alloc_heap, Array.getElem?_push, if_neg (by omega)]
theorem alloc_new (w : World) (o : Obj) : (w.alloc o).heap[w.heap.size]? = some o := by simp [alloc_heap]

theorem madeCells_get (z : Array Value) (n i : Nat) (h : i < n) (hz : 0 < z.size) : (madeCells z n)[i]? = some (z[i % z.size]'(Nat.mod_lt _ hz)) := by
  have := Nat.mod_lt i hz
  simp [madeCells, h, this]

theorem zs_get {z : Value} {i0 : TypeInfo} {L : Lay} {w : World} (hs : z.cells.size = i0.size) {j : Nat} (hj : j < i0.size) : ∃ v, z.cells[j]? = some v ∧ VR L w ((z.cells.toList.map cst1).getD j .undef) v := by
  have h : j < z.cells.size := by omega
  refine ⟨z.cells[j], by simp [h], ?_⟩
  have : (z.cells.toList.map cst1).getD j .undef = cst1 z.cells[j] := by simp [List.getD_eq_getElem?_getD, h]
  rw [this]
  exact cst1_vr L w _

theorem zeros_vrs {z : Value} {i0 : TypeInfo} {L : Lay} {w : World} (hs : z.cells.size = i0.size) (n : Nat) : VRs L w (zeros (z.cells.toList.map cst1) i0.size n) (madeCells z.cells (n * i0.size)).toList := by
  refine ⟨by simp [zeros, tab_length, size_madeCells], fun j c v e1 e2 => ?_⟩
  have hj : j < n * i0.size := by
    have := (List.getElem?_eq_some_iff.1 e1).1
    simpa [zeros, tab_length] using this
  have hp : 0 < i0.size := by
    rcases Nat.eq_zero_or_pos i0.size with h | h
    · rw [h] at hj; omega
    · exact h
  rw [zeros, tab_get _ _ _ hj] at e1
  injection e1 with e1
  obtain ⟨u, hu, hv⟩ := zs_get (L := L) (w := w) hs (Nat.mod_lt j hp)
  rw [Array.getElem?_toList, madeCells_get _ _ _ hj (by omega)] at e2
  simp only [hs] at e2
  have hlt : j % i0.size < z.cells.size := by rw [hs]; exact Nat.mod_lt _ hp
  rw [Array.getElem?_eq_getElem hlt] at hu
  injection hu with hu
  injection e2 with e2
  rw [← e1, ← e2, hu]
  exact hv

theorem getD_cell {zs : List AV} {j : Nat} (h : zs.all AV.isCell = true) (hj : j < zs.length) : (zs.getD j .undef).isCell = true := by
  rw [List.all_eq_true] at h
  have : zs.getD j .undef = zs[j] := by simp [List.getD_eq_getElem?_getD, hj]
  rw [this]
  exact h _ (List.getElem_mem hj)
theorem tab_mem {n : Nat} : ∀ {f : Nat → AV} {c : AV}, c ∈ tab n f → ∃ i, i < n ∧ c = f i := by
  induction n with
  | zero => intro f c h; simp [tab] at h
  | succ n ih =>
    intro f c h
    simp only [tab, List.mem_cons] at h
    rcases h with rfl | h
    · exact ⟨0, by omega, rfl⟩
    · obtain ⟨i, h1, h2⟩ := ih h
      exact ⟨i + 1, by omega, h2⟩
theorem zeros_cell {zs : List AV} (h : zs.all AV.isCell = true) (sz n : Nat) (hs : zs.length = sz) : (zeros zs sz n).all AV.isCell = true := by
  rw [List.all_eq_true]
  intro c hc
  obtain ⟨i, hi, rfl⟩ := tab_mem hc
  refine getD_cell h ?_
  rw [hs]
  refine Nat.mod_lt _ ?_
  rcases Nat.eq_zero_or_pos sz with h0 | h0
  · subst h0; simp at hi
  · exact h0

theorem newRow_run (P : Program) (w : World) (e : TypeId) (c : Array Value) : (newRow e c).run P w = .ok ⟨w.heap.size, 0, none⟩ (w.alloc (.cells c e)) := rfl

theorem els_run {C : Cx} {L : Lay} {w : World} {ρ : Operand → AV} {a : Act} {t : TypeId} {len : Nat} {parts : Array (Nat × Operand)} {K : Nat → List AV → Prop} (hp : ∀ p ∈ parts.toList, VR L w (ρ p.2) (a.eval p.2)) (h : elsK C ρ t len parts K) :
    ∃ sz cs e cells, (Instr.buildSlice t len (parts.map fun (i, x) => (i, a.eval x))).run C.P w = .ok (.slice (some ⟨w.heap.size, 0, none⟩) len len) (w.alloc (.cells cells e)) ∧ cs.length = len * sz ∧ VRs L w cs cells.toList ∧ K sz cs ∧ len ≤ 16777216 ∧ cs.all AV.isCell = true := by
  unfold elsK at h
  split at h
  · exact h.elim
  · rename_i e he
    split at h
    · exact h.elim
    · rename_i i hi
      obtain ⟨i0, d, z, h1, h2, h3, h4, rfl⟩ := Cx.ti_spec hi
      simp only at h
      obtain ⟨⟨hlen, hlen2, hlen3⟩, h⟩ := h
      obtain ⟨cells', zs', hf, hv, hK, hall⟩ := partsK_sound parts.toList _ _ (zeros_vrs h4 len) hp h
      have hl : zs'.length = len * i0.size := by
        have e1 := hv.1
        have : ∀ (place : Nat → Option (Nat × Nat)) (ps : List (Nat × Value)) (c c' : Array Value), Instr.fill place c ps = some c' → c'.size = c.size := by
          intro place ps
          induction ps with
          | nil => intro c c' h; simp [Instr.fill] at h; rw [h]
          | cons p ps ih =>
            intro c c' h
            obtain ⟨k, v⟩ := p
            simp only [Instr.fill] at h
            cases hpl : place k with
            | none => simp [hpl] at h
            | some q =>
              simp only [hpl] at h
              split at h
              · cases h
              · rw [ih _ _ h, ← Array.foldl_toList, fold_size]
        rw [e1, Array.length_toList, this _ _ _ _ hf, size_madeCells]
      refine ⟨i0.size, zs', e, cells', ?_, hl, hv, hK, hlen2, hall (zeros_cell hlen3 _ _ (by simpa using h4))⟩
      have hpt : (parts.map fun (i, x) => (i, a.eval x)).toList = parts.toList.map fun (i, x) => (i, a.eval x) := by simp
      have hng : ¬ len * i0.size > 2 ^ 24 := by omega
      have hm : (Array.range (len * i0.size)).map (fun k => z.cells[k % z.cells.size]!) = madeCells z.cells (len * i0.size) := rfl
      simp only [Instr.buildSlice, Sem.run_bind, run_underlying (Cx.el_spec he), Result.andThen_ok, sizeOf_run h1, hng, if_false]
      have hf2 : Instr.fill (fun i => some (i * i0.size, i0.size)) (madeCells z.cells (len * i0.size)) (Array.map (fun x => (x.fst, a.eval x.snd)) parts).toList = some cells' := by
        rw [Array.toList_map]; exact hf
      by_cases h0 : len * i0.size = 0
      · have hmm : (Array.range (len * i0.size)).map (fun k => (#[] : Array Value)[k % (#[] : Array Value).size]!) = madeCells z.cells (len * i0.size) := by
          apply Array.ext'; rw [h0]; simp [madeCells]
        rw [if_pos h0]
        simp only [Sem.run_bind, Sem.run_pure, Result.andThen_ok, hmm, hf2, newRow_run]
      · have hz : (zeroValue e).run C.P w = .ok z w := by simp [zeroValue, typeInfo, h1, h3]
        rw [if_neg h0]
        simp only [Sem.run_bind, Sem.run_pure, Result.andThen_ok, hz, hm, hf2, newRow_run]

theorem new_sound {C : Cx} {L : Lay} {w : World} {ρ : Operand → AV} {a : Act} {o : Oper} {K : (Nat → AV) → Blk → Prop} (hρ : ∀ x ∈ o.op.operands.toList, VR L w (ρ x) (a.eval x)) (h : newK C ρ o.op K) :
    ∃ mkr blk c e v, (execOp a.eval o).run C.P w = .ok (.value v) (w.alloc (.cells c e)) ∧ K mkr blk ∧ blk.n ≤ c.size ∧ (∀ i, i < blk.n → ∃ u, c[i]? = some u ∧ u.oneCell' = true ∧ VR L w (blk.f i) u) ∧
      ∀ (L' : Lay) w' id, L'.DC id → L'.k id = w.heap.size → L'.S id = c.size → VR L' w' (mkr id) v := by
  obtain ⟨dst, op, type, pos, after, guard⟩ := o
  simp only at h hρ
  cases op <;> simp only [newK] at h <;> simp only [Op.operands] at hρ <;> simp only [execOp]
  case alloc t =>
    split at h
    · rename_i i hi
      obtain ⟨i0, d, z, h1, h2, h3, h4, rfl⟩ := Cx.ti_spec hi
      refine ⟨_, _, z.cells, t, .pointer (some ⟨w.heap.size, 0, none⟩), ?_, h.2, Nat.le_of_eq h4.symm, fun i hi => (by obtain ⟨v, e1, e2⟩ := zs_get (L := L) (w := w) h4 hi; exact ⟨v, e1, e2.oneCell (getD_cell h.1 (by simpa [h4] using hi)), e2⟩), fun L' w' id hD hk hS => ?_⟩
      · have hz : (zeroValue t).run C.P w = .ok z w := by simp [zeroValue, typeInfo, h1, h3]
        simp only [Instr.alloc, Sem.run_bind, hz, Result.andThen_ok, newVar, newRow_run, Sem.run_pure]
      · rw [← hk]; exact .ptr id 0 hD
    · exact h.elim
  case box t x =>
    obtain ⟨hc, hK⟩ := h
    obtain ⟨hv, hone⟩ := (hρ x (by simp)).cells hc
    refine ⟨_, _, (a.eval x).cells, t, .pointer (some ⟨w.heap.size, 0, none⟩), ?_, hK, ?_, fun i hi => ?_, fun L' w' id hD hk hS => ?_⟩
    · simp only [Instr.box, Sem.run_bind, Result.andThen_ok, newVar, newRow_run, Sem.run_pure]
    · have := hv.1; simp at this; simp only; omega
    · have hl := hv.1
      simp at hl
      simp only at hi
      have hi' : i < (a.eval x).cells.size := by omega
      refine ⟨(a.eval x).cells[i], by simp [hi'], hone _ (by simp), hv.2 i _ _ ?_ (by simp [hi'])⟩
      simp [List.getD_eq_getElem?_getD, hi]
    · rw [← hk]; exact .ptr id 0 hD
  case buildSlice t len parts =>
    obtain ⟨sz, cs, e, cells, hrun, hl, hv, hK, hlen, hall⟩ := els_run (fun p hp => hρ p.2 (by simp; exact ⟨p.1, by simpa using hp⟩)) h
    have hvl := hv.1
    simp at hvl
    refine ⟨_, _, cells, e, .slice (some ⟨w.heap.size, 0, none⟩) len len, by simp only [Sem.run_bind, hrun, Result.andThen_ok, Sem.run_pure], hK, ?_, fun i hi => ?_, fun L' w' id hD hk hS => ?_⟩
    · simp only; omega
    · simp only at hi ⊢
      have hi' : i < cells.size := by omega
      have e1 : VR L w (cs.getD i .undef) cells[i] := hv.2 i _ _ (by simp [List.getD_eq_getElem?_getD, show i < cs.length by omega]) (by simp [hi'])
      exact ⟨cells[i], by simp [hi'], e1.oneCell (getD_cell hall (by omega)), e1⟩
    · rw [← hk]
      exact .sl id 0 len true sz len hD (Nat.le_refl _) (fun _ => rfl) (by rw [hS]; omega) (by omega)
  case makeSlice t l c =>
    split at h
    · rename_i e kl n kc m he hl hc
      split at h
      · rename_i i hi
        obtain ⟨i0, d, z, h1, h2, h3, h4, rfl⟩ := Cx.ti_spec hi
        obtain ⟨⟨g0, g1, g2, g3, g4⟩, hK⟩ := h
        simp only at g2 g4 hK
        have e1 := hρ l (by simp)
        have e2 := hρ c (by simp)
        rw [hl] at e1
        rw [hc] at e2
        have hr := run_make (P := C.P) w t e i0 z (Cx.el_spec he) h1 h3 kl kc n m g0 g1 (by omega) (by omega)
        refine ⟨_, _, madeCells z.cells (m.toNat * i0.size), e, .slice (some ⟨w.heap.size, 0, none⟩) n.toNat m.toNat, by rw [e1.inv_int, e2.inv_int]; simp only [Sem.run_bind, hr, Result.andThen_ok, Sem.run_pure], hK, ?_, fun i hi => ?_, fun L' w' id hD hk hS => ?_⟩
        · rw [size_madeCells]; exact Nat.mul_le_mul_right _ (by omega)
        · simp only at hi ⊢
          have hle : n.toNat * i0.size ≤ m.toNat * i0.size := Nat.mul_le_mul_right _ (by omega)
          have hp : 0 < i0.size := by
            rcases Nat.eq_zero_or_pos i0.size with h | h
            · rw [h] at hi; omega
            · exact h
          obtain ⟨u, hu, hv⟩ := zs_get (L := L) (w := w) h4 (Nat.mod_lt i hp)
          refine ⟨u, ?_, hv.oneCell (getD_cell g4 (by simpa [h4] using Nat.mod_lt i hp)), hv⟩
          rw [madeCells_get _ _ _ (by omega) (by omega)]
          simp only [h4]
          have hlt : i % i0.size < z.cells.size := by rw [h4]; exact Nat.mod_lt _ hp
          rw [Array.getElem?_eq_getElem hlt] at hu
          exact hu
        · rw [← hk]
          refine .sl id 0 _ _ _ m.toNat hD (by omega) (fun h => ?_) (by rw [hS, size_madeCells]; omega) (by omega)
          simp only [decide_eq_true_eq] at h
          rw [h]
      · exact h.elim
    · exact h.elim

end Go.Fw
