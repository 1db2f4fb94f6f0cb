/- One operation; a region in its written order; functions. -/
import Derived.Test.YtjcplclbdanpgaaFwIm
set_option linter.unusedVariables false
set_option linter.unusedSimpArgs false
namespace Go.Fw
open Go

def Cx.ev (C : Cx) (env : Nat → AV) : Operand → AV
  | .tmp t => env t
  | .const v => cst v
  | .global g => C.gl g
  | .func f => .fn f [] []
def isMut (mb : Nat → Bool) (o : Oper) : Bool := match o.dst with
  | some d => mb d
  | none => false
def callK (C : Cx) (G : Heap) (ρ : Operand → AV) (f : Operand) (args : Array Operand) (K : AV → Heap → Prop) : Prop :=
  match ρ f with
  | .fn g first cap => ∃ r G', Cd C g (first ++ args.toList.map ρ ++ cap) G r G' ∧ K r G'
  | _ => False
/-- The same, where a relation is known. -/
def callR (C : Cx) (G : Heap) (ρ : Operand → AV) (f : Operand) (args : Array Operand) (K : AV → Heap → Prop) : Prop :=
  match ρ f with
  | .fn g first cap => ∃ R, Ct C g (first ++ args.toList.map ρ ++ cap) G R ∧ ∀ r G', R r G' → K r G'
  | _ => False
theorem callR_of {C : Cx} {G : Heap} {ρ : Operand → AV} {f : Operand} {args : Array Operand} {K : AV → Heap → Prop} (h : callK C G ρ f args K) : callR C G ρ f args K := by
  unfold callK at h
  unfold callR
  split at h
  · rename_i g first cap hf
    obtain ⟨r, G', h1, h2⟩ := h
    exact ⟨_, h1, fun r1 G1 ⟨e1, e2⟩ => by subst e1; subst e2; exact h2⟩
  · exact h.elim
theorem callR_mono {C : Cx} {G : Heap} {ρ : Operand → AV} {f : Operand} {args : Array Operand} {K K' : AV → Heap → Prop} (hk : ∀ r G', K r G' → K' r G') (h : callR C G ρ f args K) : callR C G ρ f args K' := by
  unfold callR at h ⊢
  split at h
  · rename_i g first cap hf
    obtain ⟨R, h1, h2⟩ := h
    exact ⟨R, h1, fun r G' hr => hk _ _ (h2 r G' hr)⟩
  · exact h.elim
/-- The length of a map; of anything else as ever. -/
def lenK (C : Cx) (G : Heap) (ρ : Operand → AV) (c : Call) (K : AV → Heap → Prop) : Prop := match c with
  | ⟨_, ⟨[x]⟩, ⟨[t]⟩⟩ => (match ρ x with
    | .mp b => (C.mt t).isSome = true ∧ mapAt G (.mp b) fun b clock born ks vs => K (.int .i64 ks.length) G
    | _ => pureK C G ρ (.call ⟨.builtin .len, #[x], #[t]⟩) fun r => K r G)
  | _ => False
def stepK (C : Cx) (mb : Nat → Bool) (o : Oper) (ρ : Operand → AV) (G : Heap) (K : AV → Heap → Prop) : Prop :=
  match o.op with
  | .alloc t => newK C ρ (.alloc t) fun mk b => K (mk G.next) (G.push b)
  | .makeSlice t l c => newK C ρ (.makeSlice t l c) fun mk b => K (mk G.next) (G.push b)
  | .box t x => (match isMut mb o with
    | true => newK C ρ (.box t x) fun mk b => K (mk G.next) (G.push b)
    | false => immK C ρ (.box t x) fun r => K r G)
  | .buildSlice t n ps => (match isMut mb o with
    | true => newK C ρ (.buildSlice t n ps) fun mk b => K (mk G.next) (G.push b)
    | false => immK C ρ (.buildSlice t n ps) fun r => K r G)
  | .store t x v => stoK C G t (ρ x) (ρ v) fun G' => K .undef G'
  | .call c => (match c.callee with
    | .value f => callR C G ρ f c.args K
    | .builtin .append => (match c.args.toList, c.argTypes.toList with
      | [s, x], [ts, tx] => appK C G ts tx (ρ s) (ρ x) K
      | _, _ => False)
    | .builtin .delete => (match c.args.toList, c.argTypes.toList with
      | [m, k], [t, _] => delK C G t (ρ m) (ρ k) fun G' => K (.tup []) G'
      | _, _ => False)
    | .builtin .len => lenK C G ρ c K
    | _ => pureK C G ρ (.call c) fun r => K r G)
  | .makeMap _ none => K (.mp G.next) (G.push ⟨0, fun _ => .mapc 0 [] [] []⟩)
  | .mapUpdate t m k x => updK C G t (ρ m) (ρ k) (ρ x) fun G' => K .undef G'
  | .insert t m k x => updK C G t (ρ m) (ρ k) (ρ x) fun G' => K .undef G'
  | .lookup t x i ok => lookK C G t (ρ x) (ρ i) ok fun r => K r G
  | .range t x => (C.mt t).isSome = true ∧ mapAt G (ρ x) fun b clock born ks vs => K (.itp G.next) (G.push ⟨0, fun _ => .iterc b clock [] clock⟩)
  | .next it false => nextK G (ρ it) K
  | .entry it => entryK G (ρ it) fun r => K r G
  | .build t ps => C.bld t = true ∧ pureK C G ρ (.build t ps) fun r => K r G
  | op => pureK C G ρ op fun r => K r G

def OpRes (P : Program) (o : Oper) (a : Act) (w : World) (R : Value → World → Prop) : Prop :=
  match (execOp a.eval o).run P w with
  | .ok (.value v) w' => R v w'
  | .ok .skip w' => R undef w'
  | .ok (.enter f args) w' => Calls P f args w' fun e w'' => ∃ v, e = .returned v ∧ R v w''
  | _ => False
theorem OpRes.wp {P : Program} {o : Oper} {a : Act} {w : World} {R : Value → World → Prop} {next : Act → World → Prop} {Q : Exit → Act → World → Prop} (h : OpRes P o a w R) (hn : ∀ v w', R v w' → next (a.put o.dst v) w') : o.wp P a w next Q := by
  unfold OpRes at h
  unfold Oper.wp
  generalize (execOp a.eval o).run P w = r at h ⊢
  cases r with
  | ok n w' =>
    cases n <;> simp only at h <;> simp only [Oper.upon]
    case value v => exact hn _ _ h
    case skip => exact hn _ _ h
    case enter f args => exact h.mono fun e w'' ⟨v, he, hR⟩ => by subst he; exact hn _ _ hR
  | halt x w' => exact h.elim

theorem callFunc_run {C : Cx} {g : FuncId} (h : C.callable g = true) (args : Array Value) (w : World) : (callFunc g args).run C.P w = .ok (.enter g args) w := by
  unfold Cx.callable at h
  split at h
  · rename_i fn hfn
    simp only [Bool.and_eq_true, Bool.not_eq_true'] at h
    have hb : fn.body.isNone = false := by
      cases hq : fn.body with
      | none => rw [hq] at h; simp at h
      | some c => rfl
    unfold callFunc
    simp only [Sem.run_bind]
    have hp : program.run C.P w = .ok C.P w := rfl
    rw [hp]
    simp only [Result.andThen_ok, hfn, h.1, hb, Bool.false_eq_true, if_false]
    rfl
  · cases h

theorem imm_sound {C : Cx} {L : Lay} {w : World} {ρ : Operand → AV} {a : Act} {o : Oper} {K : AV → Prop} (himm : ∀ i, L.I i → i < w.heap.size) (hρ : ∀ x ∈ o.op.operands.toList, VR L w (ρ x) (a.eval x)) (h : immK C ρ o.op K) :
    ∃ c e v r, (execOp a.eval o).run C.P w = .ok (.value v) (w.alloc (.cells c e)) ∧ K r ∧ VR (L.addI w.heap.size) (w.alloc (.cells c e)) r v := by
  obtain ⟨dst, op, type, pos, after, guard⟩ := o
  simp only at h hρ
  cases op <;> simp only [immK] at h <;> simp only [Op.operands] at hρ <;> simp only [execOp]
  case box t x =>
    obtain ⟨hc, hK⟩ := h
    obtain ⟨hv, hone⟩ := (hρ x (by simp)).cells hc
    have hl := hv.1
    simp at hl
    refine ⟨(a.eval x).cells, t, .pointer (some ⟨w.heap.size, 0, none⟩), _, ?_, hK, ?_⟩
    · simp only [Instr.box, Sem.run_bind, Result.andThen_ok, newVar, newRow_run, Sem.run_pure]
    · refine .ref _ _ (fun i => ((a.eval x).cells[i]?).getD undef) (.inr rfl) (fun i hi => ?_) (fun i c hi => ?_)
      · have hi' : i < (a.eval x).cells.size := by omega
        rw [add_mk]
        have e1 : (w.alloc (.cells (a.eval x).cells t)).cell? ⟨w.heap.size, 0 + i, none⟩ = some (a.eval x).cells[i] := by
          simp only [World.cell?, alloc_new]
          simp [hi']
        rw [e1]
        exact ⟨by simp [hi'], by simp only [Array.getElem?_eq_getElem hi', Option.getD_some]; exact hone _ (by simp)⟩
      · have hi' : i < (a.eval x).cells.size := by have := (List.getElem?_eq_some_iff.1 hi).1; omega
        simp only [Array.getElem?_eq_getElem hi', Option.getD_some]
        exact (hv.2 i c _ hi (by simp [hi'])).mono (L.le_addI _) fun j hj => alloc_old w _ (himm j hj)
  case buildSlice t len parts =>
    have hp : ∀ p ∈ parts.toList, VR L w (ρ p.2) (a.eval p.2) := fun p hp => hρ p.2 (by simp; exact ⟨p.1, by simpa using hp⟩)
    split at h
    · obtain ⟨sz, cs, e, cells, hrun, hl, hv, hK, hlen, hall⟩ := els_run hp h
      exact ⟨cells, e, .slice (some ⟨w.heap.size, 0, none⟩) 0 0, _, by simp only [Sem.run_bind, hrun, Result.andThen_ok, Sem.run_pure], hK, .nils _⟩
    · rename_i n
      obtain ⟨sz, cs, e, cells, hrun, hl, hv, hK, hlen, hall⟩ := els_run hp h
      have hvl := hv.1
      simp at hvl
      have ij : ∀ {i j : Nat}, i < n + 1 → j < sz → i * sz + j < (n + 1) * sz := by
        intro i j hi hj
        have : (i + 1) * sz ≤ (n + 1) * sz := Nat.mul_le_mul_right _ hi
        rw [Nat.add_mul] at this
        omega
      have hcell : ∀ k, k < cells.size → (w.alloc (.cells cells e)).cell? ⟨w.heap.size, k, none⟩ = cells[k]? := fun k hk => by
        simp only [World.cell?, alloc_new]
        simp
      refine ⟨cells, e, .slice (some ⟨w.heap.size, 0, none⟩) (n + 1) (n + 1), _, by simp only [Sem.run_bind, hrun, Result.andThen_ok, Sem.run_pure], hK, ?_⟩
      refine .lst _ _ _ _ ⟨w.heap.size, 0, none⟩ _ (fun i j => (cells[i * sz + j]?).getD undef) (fun _ => ⟨rfl, .inr rfl⟩) (Nat.le_refl _) (fun i hi => ?_) (fun i j hi hj => ?_) (fun i j c hi hj => ?_)
      · have : (i + 1) * sz ≤ (n + 1) * sz := Nat.mul_le_mul_right _ hi
        rw [Nat.add_mul] at this
        rw [List.length_take, List.length_drop]
        omega
      · have hlt := ij hi hj
        have hi' : i * sz + j < cells.size := by omega
        rw [add_mk, Nat.zero_add, hcell _ hi', Array.getElem?_eq_getElem hi']
        refine ⟨by simp, ?_⟩
        have e1 : VR L w cs[i * sz + j] cells[i * sz + j] := hv.2 (i * sz + j) _ _ (List.getElem?_eq_getElem (by omega)) (by simp [hi'])
        simp only [Option.getD_some]
        exact e1.oneCell ((List.all_eq_true.1 hall) _ (List.getElem_mem _))
      · rw [List.getElem?_take] at hj
        split at hj
        · rename_i hj'
          rw [List.getElem?_drop] at hj
          have hi' : i * sz + j < cells.size := by have := (List.getElem?_eq_some_iff.1 hj).1; omega
          simp only [Array.getElem?_eq_getElem hi', Option.getD_some]
          exact (hv.2 _ c _ hj (by simp [hi'])).mono (L.le_addI _) fun k hk => alloc_old w _ (himm k hk)
        · cases hj

/-- What is known behind an operation. -/
def Post (C : Cx) (B0 : Nat) (L : Lay) (G : Heap) (w : World) (K : AV → Heap → Prop) (v : Value) (w' : World) : Prop :=
  ∃ L' r G', K r G' ∧ Fr L G w L' G' w' ∧ Rel C.gl B0 L' G' w' ∧ VR L' w' r v

theorem step_sound {C : Cx} {mb : Nat → Bool} {B0 : Nat} {L : Lay} {G : Heap} {w : World} {ρ : Operand → AV} {a : Act} {o : Oper} {K : AV → Heap → Prop} (hr : Rel C.gl B0 L G w) (hρ : ∀ x ∈ o.op.operands.toList, VR L w (ρ x) (a.eval x))
    (h : stepK C mb o ρ G K) : OpRes C.P o a w (Post C B0 L G w K) := by
  have pure' : (∀ t ps, o.op = .build t ps → C.bld t = true) → (pureK C G ρ o.op fun r => K r G) → OpRes C.P o a w (Post C B0 L G w K) := by
    intro hb h
    obtain ⟨v, r, h1, h2, h3⟩ := pure_sound hr hρ (by unfold pureOk; split; exact hb _ _ (by assumption); trivial) h
    unfold OpRes
    rw [h1]
    exact ⟨L, r, G, h3, .refl L G w, hr, h2⟩
  have new' : (newK C ρ o.op fun mk b => K (mk G.next) (G.push b)) → OpRes C.P o a w (Post C B0 L G w K) := by
    intro h
    obtain ⟨mk, blk, c, e, v, h1, h2, h3, h4, h5⟩ := new_sound hρ h
    unfold OpRes
    rw [h1]
    obtain ⟨r1, r2⟩ := hr.pushNew (e := e) h3 h4
    refine ⟨_, _, _, h2, r2, r1, h5 _ _ _ (Lay.addD_DC _ _ _ _) (upd_same _ _ _) (upd_same _ _ _)⟩
  have imm' : (immK C ρ o.op fun r => K r G) → OpRes C.P o a w (Post C B0 L G w K) := by
    intro h
    obtain ⟨c, e, v, r, h1, h2, h3⟩ := imm_sound hr.ilt hρ h
    unfold OpRes
    rw [h1]
    obtain ⟨r1, r2⟩ := hr.addImm (.cells c e)
    exact ⟨_, r, G, h2, r2, r1, h3⟩
  unfold stepK at h
  split at h
  · rename_i t ho; exact new' (by rw [ho]; exact h)
  · rename_i t l c ho; exact new' (by rw [ho]; exact h)
  · rename_i t x ho
    split at h
    · exact new' (by rw [ho]; exact h)
    · exact imm' (by rw [ho]; exact h)
  · rename_i t n ps ho
    split at h
    · exact new' (by rw [ho]; exact h)
    · exact imm' (by rw [ho]; exact h)
  · rename_i t x v ho
    rw [ho] at hρ
    simp only [Op.operands] at hρ
    obtain ⟨w', G', h1, h2, h3, h4⟩ := sto_sound hr (hρ x (by simp)) (hρ v (by simp)) h
    unfold OpRes
    obtain ⟨dst, op, type, pos, after, guard⟩ := o
    simp only at ho
    subst ho
    simp only [execOp, Sem.run_bind, h1, Result.andThen_ok, Sem.run_pure]
    exact ⟨L, .undef, G', h2, h4, h3, .undef _⟩
  · rename_i c ho
    obtain ⟨dst, op, type, pos, after, guard⟩ := o
    simp only at ho
    subst ho
    obtain ⟨callee, args, argTypes⟩ := c
    simp only at h
    split at h
    · rename_i f
      unfold callR at h
      split at h
      · rename_i g first cap hf
        obtain ⟨R, hcd, hK⟩ := h
        have hfv := hρ f (by simp [Op.operands, Call.operands])
        rw [hf] at hfv
        obtain ⟨p', q', hv, k1, k2⟩ := hfv.inv_fn
        have hargs := args_vrs (L := L) (w := w) (ρ := ρ) (a := a) (xs := args.toList) (fun x hx => hρ x (by simp [Op.operands, Call.operands]; exact .inr (by simpa using hx)))
        unfold OpRes
        simp only [execOp, resolve, hv, Deferred.ofValue, Sem.run_bind, Sem.run_pure, Result.andThen_ok, invoke, callFunc_run hcd.1]
        refine (hcd.2 B0 L w _ hr ?_).mono fun e w' ⟨v, he, L', r1, G1, hR, h2, h3, h4⟩ => ?_
        · simp only [Array.toList_append, Array.toList_map]
          exact (k1.append hargs).append k2
        · exact ⟨v, he, L', _, _, hK _ _ hR, h2, h3, h4⟩
      · exact h.elim
    · split at h
      · rename_i s x ts tx ha ht
        have ha' : args = #[s, x] := by cases args; simp_all
        have ht' : argTypes = #[ts, tx] := by cases argTypes; simp_all
        subst ha'; subst ht'
        obtain ⟨v, w', L', r, G', h1, h2, h3, h4, h5⟩ := app_sound (ty := type) hr (hρ s (by simp [Op.operands, Call.operands])) (hρ x (by simp [Op.operands, Call.operands])) h
        unfold OpRes
        simp only [execOp, resolve, Sem.run_bind, Sem.run_pure, Result.andThen_ok, invoke, builtin, List.map_toArray, List.map_cons, List.map_nil, h1]
        exact ⟨L', r, G', h2, h3, h4, h5⟩
      · exact h.elim
    · split at h
      · rename_i m k t t2 ha ht
        have ha' : args = #[m, k] := by cases args; simp_all
        have ht' : argTypes = #[t, t2] := by cases argTypes; simp_all
        subst ha'; subst ht'
        obtain ⟨w', G', h1, h2, h3, h4⟩ := del_sound (t2 := t2) (ty := type) hr (hρ m (by simp [Op.operands, Call.operands])) (hρ k (by simp [Op.operands, Call.operands])) h
        unfold OpRes
        simp only [execOp, resolve, Sem.run_bind, Sem.run_pure, Result.andThen_ok, invoke, builtin, List.map_toArray, List.map_cons, List.map_nil, h1]
        exact ⟨L, .tup [], G', h2, h4, h3, .tup _ _ rfl fun i c v e => by simp at e⟩
      · exact h.elim
    · unfold lenK at h
      split at h
      · rename_i x t hc
        injection hc with hc1 hc2 hc3
        subst hc2; subst hc3
        split at h
        · rename_i b hb
          obtain ⟨ht, h⟩ := h
          obtain ⟨⟨kt, et⟩, hq⟩ := Option.isSome_iff_exists.1 ht
          have hu := Cx.mt_spec hq
          have hx := hρ x (by simp [Op.operands, Call.operands])
          rw [hb] at hx
          obtain ⟨b', clock, born, ks, vs, es, hv, hM, hK⟩ := mapAt_spec hr hx h
          have hget := MapKept.run_getObj_map (P := C.P) hM.obj
          unfold OpRes
          simp only [execOp, resolve, Sem.run_bind, Sem.run_pure, Result.andThen_ok, invoke, builtin, List.map_toArray, List.map_cons, List.map_nil, hv]
          have hlen : (Builtin.len_ #[t] type #[.map (some (L.k b'))]).run C.P w = .ok (goInt es.size) w := by
            simp [Builtin.len_, run_underlying hu, hget]
          simp only [hlen, Result.andThen_ok]
          refine ⟨L, _, G, hK, .refl L G w, hr, ?_⟩
          rw [hM.len.2.1]
          exact .int .i64 _
        · exact pure' (fun t ps he => by cases he) h
      · exact h.elim
    · exact pure' (fun t ps he => by cases he) h
  · rename_i t ho
    obtain ⟨dst, op, type, pos, after, guard⟩ := o
    simp only at ho
    subst ho
    obtain ⟨r1, r2⟩ := hr.pushObj (m := true) (n := 0) (blk := ⟨0, fun _ => .mapc 0 [] [] []⟩) (o := .map #[] 0) ⟨rfl, .inl ⟨0, [], [], [], #[], rfl, rfl, rfl, .nil L w, .nil L w⟩⟩
    unfold OpRes
    simp only [execOp, Option.map_none, Instr.makeMap, Sem.run_bind, Sem.run_pure, Result.andThen_ok]
    have e1 : (L.addD G.next w.heap.size 0 true).k G.next = w.heap.size := upd_same _ _ _
    have := VR.mp (L := L.addD G.next w.heap.size 0 true) (w := w.alloc (.map #[] 0)) G.next (Lay.addD_DM _ _ _ _)
    rw [e1] at this
    exact ⟨_, _, _, h, r2, r1, this⟩
  · rename_i t m k x ho
    rw [ho] at hρ
    simp only [Op.operands] at hρ
    obtain ⟨w', G', h1, h2, h3, h4⟩ := upd_sound hr (hρ m (by simp)) (hρ k (by simp)) (hρ x (by simp)) h
    unfold OpRes
    obtain ⟨dst, op, type, pos, after, guard⟩ := o
    simp only at ho
    subst ho
    simp only [execOp, Sem.run_bind, h1, Result.andThen_ok, Sem.run_pure]
    exact ⟨L, .undef, G', h2, h4, h3, .undef _⟩
  · rename_i t m k x ho
    rw [ho] at hρ
    simp only [Op.operands] at hρ
    obtain ⟨w', G', h1, h2, h3, h4⟩ := upd_sound hr (hρ m (by simp)) (hρ k (by simp)) (hρ x (by simp)) h
    unfold OpRes
    obtain ⟨dst, op, type, pos, after, guard⟩ := o
    simp only at ho
    subst ho
    simp only [execOp, Sem.run_bind, h1, Result.andThen_ok, Sem.run_pure]
    exact ⟨L, .undef, G', h2, h4, h3, .undef _⟩
  · rename_i t x i ok ho
    rw [ho] at hρ
    simp only [Op.operands] at hρ
    obtain ⟨v, r, h1, h2, h3⟩ := look_sound hr (hρ x (by simp)) (hρ i (by simp)) h
    unfold OpRes
    obtain ⟨dst, op, type, pos, after, guard⟩ := o
    simp only at ho
    subst ho
    simp only [execOp, Sem.run_bind, h1, Result.andThen_ok, Sem.run_pure]
    exact ⟨L, r, G, h3, .refl L G w, hr, h2⟩
  · rename_i t x ho
    rw [ho] at hρ
    simp only [Op.operands] at hρ
    obtain ⟨v, w', L', r, G', h1, h2, h3, h4, h5⟩ := range_sound hr (hρ x (by simp)) h.1 h.2
    unfold OpRes
    obtain ⟨dst, op, type, pos, after, guard⟩ := o
    simp only at ho
    subst ho
    simp only [execOp, Sem.run_bind, h1, Result.andThen_ok, Sem.run_pure]
    exact ⟨L', r, G', h2, h3, h4, h5⟩
  · rename_i it ho
    rw [ho] at hρ
    simp only [Op.operands] at hρ
    obtain ⟨v, w', r, G', h1, h2, h3, h4, h5⟩ := next_sound (ty := o.type) hr (hρ it (by simp)) h
    unfold OpRes
    obtain ⟨dst, op, type, pos, after, guard⟩ := o
    simp only at ho
    subst ho
    simp only [execOp, Sem.run_bind, h1, Result.andThen_ok, Sem.run_pure]
    exact ⟨L, r, G', h2, h3, h4, h5⟩
  · rename_i it ho
    rw [ho] at hρ
    simp only [Op.operands] at hρ
    obtain ⟨v, r, h1, h2, h3⟩ := entry_sound hr (hρ it (by simp)) h
    unfold OpRes
    obtain ⟨dst, op, type, pos, after, guard⟩ := o
    simp only at ho
    subst ho
    simp only [execOp, Sem.run_bind, h1, Result.andThen_ok, Sem.run_pure]
    exact ⟨L, r, G, h3, .refl L G w, hr, h2⟩
  · rename_i t ps ho
    exact pure' (fun t' ps' he => by rw [ho] at he; injection he with e1 e2; subst e1; exact h.1) (by rw [ho]; exact h.2)
  · rename_i hnot
    exact pure' (fun t ps he => (hnot t ps he).elim) h

end Go.Fw
