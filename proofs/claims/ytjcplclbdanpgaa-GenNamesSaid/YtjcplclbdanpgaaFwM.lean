/- A region whose order is drawn: run once, in its written order, with what must hold besides. -/
import Derived.Test.YtjcplclbdanpgaaFwL
import Derived.CheckFast
set_option linter.unusedVariables false
set_option linter.unusedSimpArgs false
namespace Go.Fw
open Go

/-- What a later operation must be told of an earlier one: a load of 'sz' cells at 'p'; a step that writes, with the heap before it. -/
inductive Ent where
  | ld (i : Nat) (p : AV) (sz : Nat)
  | ef (i : Nat) (H : Heap)

def rdSame (G G' : Heap) (p : AV) (sz : Nat) : Prop := match p with
  | .ptr b off => ∀ KL : List AV → Prop, rdK G (.ptr b off) sz KL → rdK G' (.ptr b off) sz KL
  | _ => True
def rdBack (lo hi : Nat) (Ge H : Heap) (p : AV) (sz : Nat) : Prop := match p with
  | .ptr b off => (match Ge.get b with
    | none => lo < b ∧ b < hi
    | some _ => ∀ KL : List AV → Prop, rdK H (.ptr b off) sz KL → rdK Ge (.ptr b off) sz KL)
  | _ => True
def efC (cf : List (Nat × Nat)) (e : Nat) (H H' : Heap) : List Ent → Prop
  | [] => True
  | .ld l p sz :: rest => (if cf.contains (l, e) = true then rdSame H H' p sz else True) ∧ efC cf e H H' rest
  | .ef _ _ :: rest => efC cf e H H' rest
def ldC (cf : List (Nat × Nat)) (base N l : Nat) (H : Heap) (p : AV) (sz : Nat) : List Ent → Prop
  | [] => True
  | .ef e He :: rest => (if cf.contains (l, e) = true then rdBack (base + e) (base + N) He H p sz else True) ∧ ldC cf base N l H p sz rest
  | .ld _ _ _ :: rest => ldC cf base N l H p sz rest
theorem efC_mem {cf : List (Nat × Nat)} {e : Nat} {H H' : Heap} {l : Nat} {p : AV} {sz : Nat} : ∀ {acc : List Ent}, efC cf e H H' acc → Ent.ld l p sz ∈ acc → cf.contains (l, e) = true → rdSame H H' p sz
  | .ld l' p' sz' :: rest, h, hm, hc => by
    rcases List.mem_cons.1 hm with hm | hm
    · injection hm with h1 h2 h3
      subst h1; subst h2; subst h3
      have := h.1
      rwa [if_pos hc] at this
    · exact efC_mem h.2 hm hc
  | .ef _ _ :: rest, h, hm, hc => by
    rcases List.mem_cons.1 hm with hm | hm
    · cases hm
    · exact efC_mem (acc := rest) h hm hc
theorem ldC_mem {cf : List (Nat × Nat)} {base N l e : Nat} {H He : Heap} {p : AV} {sz : Nat} : ∀ {acc : List Ent}, ldC cf base N l H p sz acc → Ent.ef e He ∈ acc → cf.contains (l, e) = true → rdBack (base + e) (base + N) He H p sz
  | .ef e' He' :: rest, h, hm, hc => by
    rcases List.mem_cons.1 hm with hm | hm
    · injection hm with h1 h2
      subst h1; subst h2
      have := h.1
      rwa [if_pos hc] at this
    · exact ldC_mem h.2 hm hc
  | .ld _ _ _ :: rest, h, hm, hc => by
    rcases List.mem_cons.1 hm with hm | hm
    · cases hm
    · exact ldC_mem (acc := rest) h hm hc

/-- The numbers that are kept for this region's blocks stay free. -/
def Keeps (base N : Nat) (H H' : Heap) : Prop := H.next ≤ H'.next ∧ ∀ i, i < N → H.get (base + i) = none → H'.get (base + i) = none
theorem Keeps.refl (base N : Nat) (H : Heap) : Keeps base N H H := ⟨Nat.le_refl _, fun _ _ h => h⟩

def stepX (C : Cx) (mb : Nat → Bool) (base N : Nat) (cf : List (Nat × Nat)) (i : Nat) (acc : List Ent) (o : Oper) (ρ : Operand → AV) (H : Heap) (K : AV → Heap → List Ent → Prop) : Prop :=
  match o.op with
  | .alloc t => newK C ρ (.alloc t) fun mk b => K (mk (base + i)) (H.set (base + i) (some b)) acc
  | .makeSlice t l c => newK C ρ (.makeSlice t l c) fun mk b => K (mk (base + i)) (H.set (base + i) (some b)) acc
  | .box t x => (match isMut mb o with
    | true => newK C ρ (.box t x) fun mk b => K (mk (base + i)) (H.set (base + i) (some b)) acc
    | false => immK C ρ (.box t x) fun r => K r H acc)
  | .buildSlice t n ps => (match isMut mb o with
    | true => newK C ρ (.buildSlice t n ps) fun mk b => K (mk (base + i)) (H.set (base + i) (some b)) acc
    | false => immK C ρ (.buildSlice t n ps) fun r => K r H acc)
  | .store t x v => stoK C H t (ρ x) (ρ v) fun H' => efC cf i H H' acc ∧ K .undef H' (.ef i H :: acc)
  | .load t x => (match C.ti t with
    | some ti => rdK H (ρ x) ti.sz fun cs => mkK ti.ag cs fun r => ldC cf base N i H (ρ x) ti.sz acc ∧ K r H (.ld i (ρ x) ti.sz :: acc)
    | none => False)
  | .call c => (match c.callee with
    | .value f => callK C H ρ f c.args fun r H' => Keeps base N H H' ∧ efC cf i H H' acc ∧ K r H' (.ef i H :: acc)
    | .builtin .append => (match c.args.toList, c.argTypes.toList with
      | [s, x], [ts, tx] => appK C H ts tx (ρ s) (ρ x) fun r H' => efC cf i H H' acc ∧ K r H' (.ef i H :: acc)
      | _, _ => False)
    | _ => pureK C H ρ (.call c) fun r => K r H acc)
  | .build t ps => C.bld t = true ∧ pureK C H ρ (.build t ps) fun r => K r H acc
  | op => pureK C H ρ op fun r => K r H acc

def isEff (o : Oper) : Bool := match o.op with
  | .store .. => true
  | .call c => (match c.callee with
    | .value _ => true
    | .builtin .append => true
    | _ => false)
  | _ => false
def isNew (mb : Nat → Bool) (o : Oper) : Bool := match o.op with
  | .alloc _ | .makeSlice .. => true
  | .box .. | .buildSlice .. => isMut mb o
  | _ => false
def isLd (o : Oper) : Bool := match o.op with
  | .load .. => true
  | _ => false

inductive StepIs (C : Cx) (mb : Nat → Bool) (base N : Nat) (cf : List (Nat × Nat)) (i : Nat) (acc : List Ent) (o : Oper) (ρ : Operand → AV) (H : Heap) : AV → Heap → List Ent → Prop
  | pur (r : AV) (he : isEff o = false) (hn : isNew mb o = false) (hl : isLd o = false) (hok : pureOk C o.op) (h : ∀ K : AV → Prop, K r → pureK C H ρ o.op K) : StepIs C mb base N cf i acc o ρ H r H acc
  | imm (r : AV) (he : isEff o = false) (hn : isNew mb o = false) (hl : isLd o = false) (h : ∀ K : AV → Prop, K r → immK C ρ o.op K) : StepIs C mb base N cf i acc o ρ H r H acc
  | new (mk : Nat → AV) (b : Blk) (he : isEff o = false) (hn : isNew mb o = true) (hl : isLd o = false) (h : ∀ K : (Nat → AV) → Blk → Prop, K mk b → newK C ρ o.op K) : StepIs C mb base N cf i acc o ρ H (mk (base + i)) (H.set (base + i) (some b)) acc
  | ld (r : AV) (t : TypeId) (x : Operand) (ti : TI) (he : isEff o = false) (hn : isNew mb o = false) (hl : isLd o = true) (ho : o.op = .load t x) (ht : C.ti t = some ti) (cs : List AV) (hr : ∀ K : List AV → Prop, K cs → rdK H (ρ x) ti.sz K) (hm : ∀ K : AV → Prop, K r → mkK ti.ag cs K)
      (hc : ldC cf base N i H (ρ x) ti.sz acc) : StepIs C mb base N cf i acc o ρ H r H (.ld i (ρ x) ti.sz :: acc)
  | eff (r : AV) (H' : Heap) (he : isEff o = true) (hn : isNew mb o = false) (hl : isLd o = false) (h : ∀ K : AV → Heap → Prop, K r H' → stepK C mb o ρ H K) (hc : efC cf i H H' acc) (hk : base + N ≤ H.next → Keeps base N H H') :
      StepIs C mb base N cf i acc o ρ H r H' (.ef i H :: acc)

theorem stoK_keeps {C : Cx} {H H' : Heap} {t : TypeId} {x v : AV} {base N : Nat} (h : stoK C H t x v fun G => G = H') : Keeps base N H H' := by
  unfold stoK at h
  split at h
  · exact h.elim
  · split at h
    · split at h
      · rename_i b off blk hb
        obtain ⟨_, rfl⟩ := h
        refine ⟨Nat.le_refl _, fun i _ h0 => ?_⟩
        simp only [Heap.set, upd_apply]
        rw [if_neg (fun e => by rw [e, hb] at h0; cases h0)]
        exact h0
      · exact h.elim
    · exact h.elim
theorem appTo_keeps {H H' : Heap} {s : AV} {sz m : Nat} {g : Nat → List AV} {fits : Nat → Prop} {base N : Nat} (hN : base + N ≤ H.next) (h : appTo H s sz m g fits fun _ G => G = H') : Keeps base N H H' := by
  have push : ∀ b, Keeps base N H (H.push b) := fun b => ⟨Nat.le_succ _, fun i hi h0 => by
    simp only [Heap.push, upd_apply]; rw [if_neg (by omega)]; exact h0⟩
  cases s <;> simp only [appTo] at h <;> try exact h.elim
  case nils =>
    obtain ⟨_, h1, h2⟩ := h
    rcases Nat.eq_zero_or_pos m with h0 | h0
    · rw [← h1 h0]; exact .refl ..
    · rw [← h2 h0]; exact push _
  case sl b off len ex sz' =>
    split at h
    · obtain ⟨_, h1, h2⟩ := h
      rcases Nat.eq_zero_or_pos m with h0 | h0
      · rw [← h1 h0]; exact .refl ..
      · have h3 := h2 h0
        cases ex with
        | true => simp only at h3; rw [← h3]; exact push _
        | false =>
          simp only at h3
          rw [← h3.2]
          refine ⟨Nat.le_succ _, fun i hi h0 => ?_⟩
          simp only [Heap.push, Heap.set, upd_apply]
          rw [if_neg (by omega)]
          split
          · rfl
          · exact h0
    · exact h.elim
theorem appK_keeps {C : Cx} {H H' : Heap} {ts tx : TypeId} {s x : AV} {base N : Nat} (hN : base + N ≤ H.next) (h : appK C H ts tx s x fun _ G => G = H') : Keeps base N H H' := by
  unfold appK at h
  split at h
  · split at h
    · obtain ⟨_, h⟩ := h
      cases x <;> simp only [rdsK] at h <;> try exact h.elim
      · exact appTo_keeps hN h
      · exact appTo_keeps hN h
      · split at h
        · exact appTo_keeps hN h.2
        · exact h.elim
      · exact appTo_keeps hN h.2
    · exact h.elim
  · exact h.elim

theorem stepX_is {C : Cx} {mb : Nat → Bool} {base N : Nat} {cf : List (Nat × Nat)} {i : Nat} {acc : List Ent} {o : Oper} {ρ : Operand → AV} {H : Heap} {K : AV → Heap → List Ent → Prop} (h : stepX C mb base N cf i acc o ρ H K) :
    ∃ r H' acc', K r H' acc' ∧ StepIs C mb base N cf i acc o ρ H r H' acc' := by
  obtain ⟨dst, op, ty, pos, af, gd⟩ := o
  have new' : isEff ⟨dst, op, ty, pos, af, gd⟩ = false → isNew mb ⟨dst, op, ty, pos, af, gd⟩ = true → isLd ⟨dst, op, ty, pos, af, gd⟩ = false → (newK C ρ op fun mk b => K (mk (base + i)) (H.set (base + i) (some b)) acc) →
      ∃ r H' acc', K r H' acc' ∧ StepIs C mb base N cf i acc ⟨dst, op, ty, pos, af, gd⟩ ρ H r H' acc' := fun h1 h2 h3 h => by
    obtain ⟨⟨mk, b⟩, k1, k2⟩ := (newK_ext C ρ op).out (fun q => K (q.1 (base + i)) (H.set (base + i) (some q.2)) acc) h
    exact ⟨_, _, _, k1, .new mk b h1 h2 h3 fun K' k => k2 (fun q => K' q.1 q.2) k⟩
  have imm' : isEff ⟨dst, op, ty, pos, af, gd⟩ = false → isNew mb ⟨dst, op, ty, pos, af, gd⟩ = false → isLd ⟨dst, op, ty, pos, af, gd⟩ = false → (immK C ρ op fun r => K r H acc) →
      ∃ r H' acc', K r H' acc' ∧ StepIs C mb base N cf i acc ⟨dst, op, ty, pos, af, gd⟩ ρ H r H' acc' := fun h1 h2 h3 h => by
    obtain ⟨r, k1, k2⟩ := (immK_ext C ρ op).out _ h
    exact ⟨r, _, _, k1, .imm r h1 h2 h3 k2⟩
  have pure' : isEff ⟨dst, op, ty, pos, af, gd⟩ = false → isNew mb ⟨dst, op, ty, pos, af, gd⟩ = false → isLd ⟨dst, op, ty, pos, af, gd⟩ = false → pureOk C op → (pureK C H ρ op fun r => K r H acc) →
      ∃ r H' acc', K r H' acc' ∧ StepIs C mb base N cf i acc ⟨dst, op, ty, pos, af, gd⟩ ρ H r H' acc' := fun h1 h2 h3 h4 h => by
    obtain ⟨r, k1, k2⟩ := (pureK_ext C H ρ op).out _ h
    exact ⟨r, _, _, k1, .pur r h1 h2 h3 h4 k2⟩
  cases op <;> simp only [stepX] at h
  case alloc t => exact new' rfl rfl rfl h
  case makeSlice t l c => exact new' rfl rfl rfl h
  case box t x =>
    split at h
    · rename_i hm; exact new' rfl hm rfl h
    · rename_i hm; exact imm' rfl hm rfl h
  case buildSlice t n ps =>
    split at h
    · rename_i hm; exact new' rfl hm rfl h
    · rename_i hm; exact imm' rfl hm rfl h
  case store t x v =>
    obtain ⟨H', ⟨k0, k1⟩, k2⟩ := (stoK_ext C H t (ρ x) (ρ v)).out _ h
    exact ⟨.undef, H', _, k1, .eff .undef H' rfl rfl rfl (fun K' k => k2 (fun G => K' .undef G) k) k0 fun _ => stoK_keeps (k2 _ rfl)⟩
  case load t x =>
    split at h
    · rename_i ti hti
      obtain ⟨cs, k1, k2⟩ := (rdK_ext H (ρ x) ti.sz).out _ h
      obtain ⟨r, ⟨k3, k4⟩, k5⟩ := (mkK_ext ti.ag cs).out _ k1
      exact ⟨r, H, _, k4, .ld r t x ti rfl rfl rfl rfl hti cs k2 k5 k3⟩
    · exact h.elim
  case build t ps => exact pure' rfl rfl rfl h.1 h.2
  case call c =>
    obtain ⟨callee, args, argTypes⟩ := c
    simp only at h
    split at h
    · rename_i f
      obtain ⟨⟨r, H'⟩, ⟨k0, k1, k3⟩, k2⟩ := (callK_ext C H ρ f args).out (fun q => Keeps base N H q.2 ∧ efC cf i H q.2 acc ∧ K q.1 q.2 (.ef i H :: acc)) h
      exact ⟨r, H', _, k3, .eff r H' rfl rfl rfl (fun K' k => callR_of (k2 (fun q => K' q.1 q.2) k)) k1 fun _ => k0⟩
    · split at h
      · rename_i s x ts tx ha ht
        obtain ⟨⟨r, H'⟩, ⟨k0, k1⟩, k2⟩ := (appK_ext C H ts tx (ρ s) (ρ x)).out (fun q => efC cf i H q.2 acc ∧ K q.1 q.2 (.ef i H :: acc)) h
        refine ⟨r, H', _, k1, .eff r H' rfl rfl rfl (fun K' k => ?_) k0 fun hN => appK_keeps hN (k2 (fun q => q.2 = H') rfl)⟩
        simp only [stepK, ha, ht]
        exact k2 (fun q => K' q.1 q.2) k
      · exact h.elim
    · rename_i hne1 hne2
      have he : isEff ⟨dst, .call ⟨callee, args, argTypes⟩, ty, pos, af, gd⟩ = false := by
        cases callee with
        | value f => exact (hne1 _ rfl).elim
        | builtin b => cases b <;> first | rfl | exact (hne2 rfl).elim
        | _ => rfl
      exact pure' he rfl rfl trivial h
  all_goals exact pure' rfl rfl rfl trivial h

end Go.Fw
