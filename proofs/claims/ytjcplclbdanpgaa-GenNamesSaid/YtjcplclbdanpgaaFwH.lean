/- What new blocks and stores do to the relation. -/
import Derived.Test.YtjcplclbdanpgaaFwG
set_option linter.unusedVariables false
set_option linter.unusedSimpArgs false
namespace Go.Fw
open Go

def Lay.addI (L : Lay) (i : Nat) : Lay := { L with I := fun j => L.I j ∨ j = i }
def Lay.addD (L : Lay) (id at' n : Nat) (m : Bool := false) : Lay := { L with k := upd L.k id at', D := fun b => L.D b ∨ b = id, S := upd L.S id n, M := fun b => if b = id then m else L.M b }
theorem Lay.le_addI (L : Lay) (i : Nat) : L.le (L.addI i) := ⟨fun _ _ => rfl, fun _ _ => rfl, fun _ _ => rfl, fun _ h => h, fun _ h => .inl h⟩
theorem Lay.le_addD (L : Lay) {id : Nat} (at' n : Nat) (m : Bool) (h : ¬ L.D id) : L.le (L.addD id at' n m) :=
  ⟨fun b hb => upd_ne _ _ fun e => h (e ▸ hb), fun b hb => upd_ne _ _ fun e => h (e ▸ hb), fun b hb => if_neg fun e : b = id => h (e ▸ hb), fun _ h => .inl h, fun _ h => h⟩
theorem Lay.addD_DC (L : Lay) (id at' n : Nat) : (L.addD id at' n).DC id := ⟨.inr rfl, if_pos rfl⟩
theorem Lay.addD_DM (L : Lay) (id at' n : Nat) : (L.addD id at' n true).DM id := ⟨.inr rfl, if_pos rfl⟩

section
variable {gl : Nat → AV} {B0 : Nat} {L : Lay} {G : Heap} {w : World}

theorem Rel.imm_old (h : Rel gl B0 L G w) {o : Obj} : ∀ i, L.I i → (w.alloc o).heap[i]? = w.heap[i]? := fun i hi => alloc_old w o (h.ilt i hi)
theorem Rel.k_lt (h : Rel gl B0 L G w) {b : Nat} {blk : Blk} (hD : L.D b) (hg : G.get b = some blk) : L.k b < w.heap.size := by
  obtain ⟨_, _, o, hc, _⟩ := h.live b blk hD hg
  exact (Array.getElem?_eq_some_iff.1 hc).1

/-- A block of the world that is made and never written again. -/
theorem Rel.addImm (h : Rel gl B0 L G w) (o : Obj) : Rel gl B0 (L.addI w.heap.size) G (w.alloc o) ∧ Fr L G w (L.addI w.heap.size) G (w.alloc o) := by
  have hm : ∀ {v x}, VR L w v x → VR (L.addI w.heap.size) (w.alloc o) v x := fun hv => hv.mono (L.le_addI _) h.imm_old
  constructor
  · refine ⟨by rw [alloc_size]; have := h.base; omega, h.idlt, fun i hi => ?_, h.wf, fun b blk hD hg => ?_, h.inj, fun g => hm (h.glob g)⟩
    · rw [alloc_size]
      rcases hi with hi | hi
      · have := h.ilt i hi; omega
      · omega
    · obtain ⟨h1, h2, o', hc, ho⟩ := h.live b blk hD hg
      have hlt := h.k_lt hD hg
      refine ⟨h1, fun hi => ?_, o', by rw [show (L.addI w.heap.size).k b = L.k b from rfl, alloc_old _ _ hlt]; exact hc, ho.mono (L.le_addI _) h.imm_old⟩
      rcases hi with hi | hi
      · exact h2 hi
      · have : L.k b = w.heap.size := hi
        omega
  · exact ⟨L.le_addI _, by rw [alloc_size]; omega, rfl, rfl, rfl, fun i hi _ => alloc_old w o hi, fun b hb hn => absurd hb hn, fun b hb hn => absurd hb hn, fun i hi hn => .inl (by rcases hi with hi | hi; exact absurd hi hn; omega),
      Nat.le_refl _, fun _ _ _ => rfl, fun _ _ h => h⟩

/-- A new block that may be written. -/
theorem Rel.addObj (h : Rel gl B0 L G w) {id : Nat} {blk : Blk} {o : Obj} {n : Nat} {m : Bool} {nx : Nat} (hid : ¬ L.D id) (hnx : G.next ≤ nx) (hlt : id < nx) (ho : ObjR L w m n blk o) :
    Rel gl B0 (L.addD id w.heap.size n m) ⟨nx, upd G.get id (some blk)⟩ (w.alloc o) := by
  have hmo : ∀ {m' S' blk' o'}, ObjR L w m' S' blk' o' → ObjR (L.addD id w.heap.size n m) (w.alloc o) m' S' blk' o' := fun hv => hv.mono (L.le_addD _ _ _ hid) h.imm_old
  have hne : ∀ b, L.D b → b ≠ id := fun b hb e => hid (e ▸ hb)
  have hlive : ∀ b x, (L.addD id w.heap.size n m).D b → upd G.get id (some blk) b = some x → (b = id ∧ x = blk) ∨ (L.D b ∧ b ≠ id ∧ G.get b = some x) := by
    intro b x hb hx
    by_cases hbi : b = id
    · subst hbi
      rw [upd_same] at hx
      injection hx with hx
      exact .inl ⟨rfl, hx.symm⟩
    · rw [upd_ne _ _ hbi] at hx
      exact .inr ⟨hb.resolve_right hbi, hbi, hx⟩
  refine ⟨by rw [alloc_size]; have := h.base; omega, fun b hb => ?_, fun i hi => by rw [alloc_size]; have := h.ilt i hi; omega, fun b hb => ?_, fun b x hb hx => ?_, fun b b' x x' hb hb' hx hx' hk => ?_, fun g => (h.glob g).mono (L.le_addD _ _ _ hid) h.imm_old⟩
  · rcases hb with hb | hb
    · have := h.idlt b hb; show b < nx; omega
    · show b < nx; omega
  · have hb' : nx ≤ b := hb
    show upd G.get id (some blk) b = none
    rw [upd_ne _ _ (by omega)]
    exact h.wf b (by omega)
  · rcases hlive b x hb hx with ⟨rfl, rfl⟩ | ⟨hD, hbi, hx⟩
    · refine ⟨by show B0 ≤ upd L.k b w.heap.size b; rw [upd_same]; exact h.base, fun hi => ?_, o, ?_, ?_⟩
      · have hi' : L.I (upd L.k b w.heap.size b) := hi
        rw [upd_same] at hi'
        have := h.ilt _ hi'
        omega
      · show (w.alloc o).heap[upd L.k b w.heap.size b]? = _
        rw [upd_same]
        exact alloc_new w _
      · have e1 : (L.addD b w.heap.size n m).M b = m := if_pos rfl
        have e2 : (L.addD b w.heap.size n m).S b = n := upd_same _ _ _
        rw [e1, e2]
        exact hmo ho
    · obtain ⟨h1, h2, o', hc, ho'⟩ := h.live b x hD hx
      have hk : (L.addD id w.heap.size n m).k b = L.k b := upd_ne _ _ hbi
      have hS : (L.addD id w.heap.size n m).S b = L.S b := upd_ne _ _ hbi
      have hM : (L.addD id w.heap.size n m).M b = L.M b := if_neg hbi
      rw [hk, hS, hM]
      exact ⟨h1, h2, o', by rw [alloc_old _ _ (h.k_lt hD hx)]; exact hc, hmo ho'⟩
  · have hkk : upd L.k id w.heap.size b = upd L.k id w.heap.size b' := hk
    rcases hlive b x hb hx with ⟨rfl, rfl⟩ | ⟨hD, hbi, hx1⟩ <;> rcases hlive b' x' hb' hx' with ⟨rfl, rfl⟩ | ⟨hD', hbi', hx1'⟩
    · rfl
    · rw [upd_same, upd_ne _ _ hbi'] at hkk
      have := h.k_lt hD' hx1'
      omega
    · rw [upd_same, upd_ne _ _ hbi] at hkk
      have := h.k_lt hD hx1
      omega
    · rw [upd_ne _ _ hbi, upd_ne _ _ hbi'] at hkk
      exact h.inj b b' x x' hD hD' hx1 hx1' hkk
theorem Rel.addNew (h : Rel gl B0 L G w) {id : Nat} {blk : Blk} {c : Array Value} {e : TypeId} {nx : Nat} (hid : ¬ L.D id) (hg0 : G.get id = none) (hnx : G.next ≤ nx) (hlt : id < nx) (hn : blk.n ≤ c.size)
    (hv : ∀ i, i < blk.n → ∃ u, c[i]? = some u ∧ u.oneCell' = true ∧ VR L w (blk.f i) u) :
    Rel gl B0 (L.addD id w.heap.size c.size) ⟨nx, upd G.get id (some blk)⟩ (w.alloc (.cells c e)) :=
  h.addObj hid hnx hlt ⟨hn, c, e, rfl, rfl, hv⟩

theorem Rel.pushObj (h : Rel gl B0 L G w) {blk : Blk} {o : Obj} {n : Nat} {m : Bool} (ho : ObjR L w m n blk o) :
    Rel gl B0 (L.addD G.next w.heap.size n m) (G.push blk) (w.alloc o) ∧ Fr L G w (L.addD G.next w.heap.size n m) (G.push blk) (w.alloc o) := by
  have hid : ¬ L.D G.next := fun hd => by have := h.idlt _ hd; omega
  refine ⟨h.addObj hid (Nat.le_succ _) (Nat.lt_succ_self _) ho, L.le_addD _ _ _ hid, by rw [alloc_size]; omega, rfl, rfl, rfl, fun i hi _ => alloc_old w _ hi, fun b hb hn => ?_, fun b hb hn => ?_, fun i hi hn => absurd hi hn,
    Nat.le_succ _, fun b hb hn => ?_, fun b hb h0 => ?_⟩
  · rcases hb with hb | hb
    · exact absurd hb hn
    · omega
  · rcases hb with hb | hb
    · exact absurd hb hn
    · subst hb
      left
      show w.heap.size ≤ upd L.k G.next w.heap.size G.next
      rw [upd_same]
      omega
  · exact upd_ne _ _ (by omega)
  · show upd G.get G.next (some blk) b = none
    rw [upd_ne _ _ (by omega)]
    exact h0
theorem Rel.pushNew (h : Rel gl B0 L G w) {blk : Blk} {c : Array Value} {e : TypeId} (hn : blk.n ≤ c.size) (hv : ∀ i, i < blk.n → ∃ u, c[i]? = some u ∧ u.oneCell' = true ∧ VR L w (blk.f i) u) :
    Rel gl B0 (L.addD G.next w.heap.size c.size) (G.push blk) (w.alloc (.cells c e)) ∧ Fr L G w (L.addD G.next w.heap.size c.size) (G.push blk) (w.alloc (.cells c e)) :=
  h.pushObj ⟨hn, c, e, rfl, rfl, hv⟩

/-- A block is written. -/
theorem Rel.setObj (h : Rel gl B0 L G w) {b : Nat} {blk blk' : Blk} {o' : Obj} {w' : World} (hD : L.D b) (hg : G.get b = some blk) (ho : ObjR L w (L.M b) (L.S b) blk' o') (hw : w'.heap[L.k b]? = some o') (hw' : ∀ i, i ≠ L.k b → w'.heap[i]? = w.heap[i]?)
    (hz : w'.heap.size = w.heap.size) (hos : w'.os = w.os) (htp : w'.tape = w.tape) (hout : w'.output = w.output) : Rel gl B0 L (G.set b (some blk')) w' ∧ Fr L G w L (G.set b (some blk')) w' := by
  obtain ⟨g1, g2, o0, hc0, _⟩ := h.live b blk hD hg
  have hi : ∀ i, L.I i → w'.heap[i]? = w.heap[i]? := fun i hi => hw' _ fun e => g2 (e ▸ hi)
  have hlive : ∀ x y, upd G.get b (some blk') x = some y → (x = b ∧ y = blk') ∨ (x ≠ b ∧ G.get x = some y) := by
    intro x y hx
    by_cases hbi : x = b
    · subst hbi
      rw [upd_same] at hx
      injection hx with hx
      exact .inl ⟨rfl, hx.symm⟩
    · rw [upd_ne _ _ hbi] at hx
      exact .inr ⟨hbi, hx⟩
  have hget : ∀ x y, upd G.get b (some blk') x = some y → ∃ y', G.get x = some y' := by
    intro x y hx
    rcases hlive x y hx with ⟨rfl, _⟩ | ⟨_, hx⟩
    · exact ⟨_, hg⟩
    · exact ⟨_, hx⟩
  constructor
  · refine ⟨by rw [hz]; exact h.base, h.idlt, fun i hi => by rw [hz]; exact h.ilt i hi, fun x hx => ?_, fun x y hx hy => ?_, fun x x' y y' hx hx' hy hy' hk => ?_, fun g => (h.glob g).mono (.refl L) hi⟩
    · have hlt := h.idlt b hD
      have hx' : G.next ≤ x := hx
      show upd G.get b (some blk') x = none
      rw [upd_ne _ _ (by omega)]
      exact h.wf x hx
    · rcases hlive x y hy with ⟨rfl, rfl⟩ | ⟨hne, hy⟩
      · exact ⟨g1, g2, o', hw, ho.mono (.refl L) hi⟩
      · obtain ⟨h1, h2, o1, hc1, ho1⟩ := h.live x y hx hy
        refine ⟨h1, h2, o1, ?_, ho1.mono (.refl L) hi⟩
        rw [hw' _ fun e => hne (h.inj x b y blk hx hD hy hg e)]
        exact hc1
    · obtain ⟨z, hz⟩ := hget x y hy
      obtain ⟨z', hz'⟩ := hget x' y' hy'
      exact h.inj x x' z z' hx hx' hz hz' hk
  · refine ⟨.refl L, by omega, hos, htp, hout, fun i hi hn => hw' _ fun e => hn b hD (by rw [hg]; simp) e.symm, fun x hx hn => absurd hx hn, fun x hx hn => absurd hx hn, fun i hi hn => absurd hi hn, Nat.le_refl _, fun x hx hn => ?_, fun x hx h0 => ?_⟩
    · exact upd_ne _ _ fun e => hn (e ▸ hD)
    · show upd G.get b (some blk') x = none
      rw [upd_ne _ _ fun e => by rw [e, hg] at h0; cases h0]
      exact h0
theorem Rel.setNew (h : Rel gl B0 L G w) {b : Nat} {blk blk' : Blk} {c c' : Array Value} {e : TypeId} (hD : L.DC b) (hg : G.get b = some blk) (hc : w.heap[L.k b]? = some (.cells c e (0, 0))) (hs : c'.size = c.size) (hn : blk'.n ≤ c'.size)
    (hv : ∀ i, i < blk'.n → ∃ u, c'[i]? = some u ∧ u.oneCell' = true ∧ VR L w (blk'.f i) u) :
    Rel gl B0 L (G.set b (some blk')) (w.setRow (L.k b) c') ∧ Fr L G w L (G.set b (some blk')) (w.setRow (L.k b) c') := by
  obtain ⟨g1, g2, g3, c0, e0, hc0, hs0, _⟩ := h.cells hD hg
  rw [hc] at hc0
  injection hc0 with hc0
  injection hc0 with hc0 he0
  subst hc0
  refine h.setObj hD.1 hg (o' := .cells c' e (0, 0)) ?_ (setRow_heap w _ c c' e _ hc) (fun i hi => setRow_other w _ _ _ hi) (by simp) rfl rfl rfl
  rw [hD.2]
  exact ⟨by omega, c', e, rfl, by omega, hv⟩

/-- A block that is not spoken of any more. -/
theorem Rel.kill (h : Rel gl B0 L G w) (b : Nat) : Rel gl B0 L (G.set b none) w := by
  have hlive : ∀ x y, upd G.get b none x = some y → G.get x = some y := by
    intro x y hx
    by_cases hbi : x = b
    · subst hbi; rw [upd_same] at hx; cases hx
    · rw [upd_ne _ _ hbi] at hx; exact hx
  refine ⟨h.base, h.idlt, h.ilt, fun x hx => ?_, fun x y hx hy => h.live x y hx (hlive x y hy), fun x x' y y' hx hx' hy hy' => h.inj x x' y y' hx hx' (hlive x y hy) (hlive x' y' hy'), h.glob⟩
  show upd G.get b none x = none
  by_cases hbi : x = b
  · subst hbi; rw [upd_same]
  · rw [upd_ne _ _ hbi]; exact h.wf x hx
end

/-! ### Stores -/
def stoK (C : Cx) (G : Heap) (t : TypeId) (x v : AV) (K : Heap → Prop) : Prop :=
  match C.ti t with
  | none => False
  | some i => match x with
    | .ptr b off => (match G.get b with
      | some blk => (v.cells.length = i.sz ∧ off + i.sz ≤ blk.n ∧ v.cells.all AV.isCell = true) ∧ K (G.set b (some ⟨blk.n, setL blk.f off v.cells⟩))
      | none => False)
    | _ => False

theorem sto_sound {C : Cx} {B0 : Nat} {L : Lay} {G : Heap} {w : World} {t : TypeId} {x v : AV} {vx vv : Value} {K : Heap → Prop} (hr : Rel C.gl B0 L G w) (hx : VR L w x vx) (hv : VR L w v vv) (h : stoK C G t x v K) :
    ∃ w' G', (Instr.storeAt t vx vv).run C.P w = .ok () w' ∧ K G' ∧ Rel C.gl B0 L G' w' ∧ Fr L G w L G' w' := by
  unfold stoK at h
  split at h
  · exact h.elim
  · rename_i i hi
    obtain ⟨i0, d, z, h1, h2, h3, h4, rfl⟩ := Cx.ti_spec hi
    split at h
    · rename_i b off
      split at h
      · rename_i blk hg
        obtain ⟨⟨g1, g2, g3⟩, hK⟩ := h
        simp only at g1 g2
        obtain ⟨rfl, hD⟩ := hx.inv_ptr
        obtain ⟨hcv, hone⟩ := hv.cells g3
        have hl : vv.cells.toList.length = i0.size := by rw [← hcv.1, g1]
        obtain ⟨k1, k2, k3, c, e, hc, hs, hvc⟩ := hr.cells hD hg
        have hrun := run_storeCells_at C.P (L.k b) off e vv.cells.toList 0 c w hc (by omega) hone
        simp only [Nat.add_zero] at hrun
        have hget : ∀ j, (c.toList.take off ++ vv.cells.toList ++ c.toList.drop (off + vv.cells.toList.length)).toArray[j]? = if off ≤ j ∧ j < off + i0.size then vv.cells.toList[j - off]? else c[j]? := by
          intro j
          have hlc : off + vv.cells.toList.length ≤ c.toList.length := by rw [Array.length_toList (xs := c)]; omega
          rw [List.getElem?_toArray, List.append_assoc, List.getElem?_append]
          simp only [List.length_take]
          split
          · rw [if_neg (by omega), List.getElem?_take, if_pos (by omega), Array.getElem?_toList]
          · rw [List.getElem?_append]
            split
            · rw [if_pos (by omega)]; congr 1; omega
            · rw [if_neg (by omega), List.getElem?_drop, Array.getElem?_toList]; congr 1; omega
        obtain ⟨r1, r2⟩ := hr.setNew (c' := (c.toList.take off ++ vv.cells.toList ++ c.toList.drop (off + vv.cells.toList.length)).toArray) (blk' := ⟨blk.n, setL blk.f off v.cells⟩) hD hg hc
          (by rw [List.size_toArray]; simp only [List.length_append, List.length_take, List.length_drop, Array.length_toList] at hl ⊢; omega) (by rw [List.size_toArray]; simp only [List.length_append, List.length_take, List.length_drop, Array.length_toList] at hl ⊢; omega) (fun j hj => by
            rw [hget j]
            simp only [setL_apply]
            rw [g1]
            by_cases hjj : off ≤ j ∧ j < off + i0.size
            · rw [if_pos hjj, if_pos hjj]
              have hq : j - off < v.cells.length := by omega
              have hq' : j - off < vv.cells.toList.length := by omega
              refine ⟨vv.cells.toList[j - off], by simp [List.getElem?_eq_getElem hq'], hone _ (List.getElem_mem hq'), ?_⟩
              have e1 : v.cells.getD (j - off) .undef = v.cells[j - off] := by simp [List.getD_eq_getElem?_getD, hq]
              rw [e1]
              exact hcv.2 (j - off) _ _ (List.getElem?_eq_getElem hq) (List.getElem?_eq_getElem hq')
            · rw [if_neg hjj, if_neg hjj]
              exact hvc j hj)
        refine ⟨_, _, ?_, hK, r1, r2⟩
        have hne : ¬ (vv.cells.size ≠ i0.size) := by rw [Array.length_toList] at hl; omega
        simp only [Instr.storeAt, Instr.sureAddr, Sem.run_bind, Sem.run_pure, Result.andThen_ok, storeVar, sizeOf_run h1]
        rw [if_neg hne]
        exact hrun
      · exact h.elim
    · exact h.elim

end Go.Fw
