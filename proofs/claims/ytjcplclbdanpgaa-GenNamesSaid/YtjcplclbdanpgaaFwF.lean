/- The operations that leave memory alone, all together. -/
import Derived.Test.YtjcplclbdanpgaaFwE
set_option linter.unusedVariables false
set_option linter.unusedSimpArgs false
namespace Go.Fw
open Go

/-- Are the sizes of a struct's fields known? -/
def Cx.bld (C : Cx) (t : TypeId) : Bool := match C.P.underlying t with
  | some (.struct fs) => fs.toList.all fun f => (C.ti f.type).isSome
  | some (.array _ e) => (C.ti e).isSome
  | _ => false

theorem mapM_run {P : Program} {w : World} {α β : Type} (f : α → Sem β) (g : α → β) : ∀ (l : List α), (∀ x ∈ l, (f x).run P w = .ok (g x) w) → (l.mapM f).run P w = .ok (l.map g) w
  | [], _ => by simp
  | x :: l, h => by
    simp only [List.mapM_cons, Sem.run_bind, h x (by simp), Result.andThen_ok, mapM_run f g l (fun y hy => h y (by simp [hy])), Sem.run_pure, List.map_cons]

theorem build_run {C : Cx} {L : Lay} {w : World} {ρ : Operand → AV} {a : Act} {t : TypeId} {i : TI} {parts : Array (Nat × Operand)} {K : AV → Prop} (hi : C.ti t = some i) (hb : C.bld t = true)
    (hp : ∀ p ∈ parts.toList, VR L w (ρ p.2) (a.eval p.2)) (h : partsK C (C.place t) ρ parts.toList i.zs fun cs => K (.agg cs)) : Yi C.P L w (Instr.build t (parts.map fun (i, x) => (i, a.eval x))) K := by
  obtain ⟨i0, d, z, h1, h2, h3, h4, rfl⟩ := Cx.ti_spec hi
  simp only at h
  have hz : VRs L w (z.cells.toList.map cst1) z.cells.toList := ⟨by simp, fun j c v e1 e2 => by
    rw [List.getElem?_map, e2] at e1
    simp at e1
    subst e1
    exact cst1_vr L w v⟩
  obtain ⟨cells', zs', hf, hv, hK, _⟩ := partsK_sound parts.toList _ z.cells hz hp h
  have hzv : (zeroValue t).run C.P w = .ok z w := by simp [zeroValue, typeInfo, h1, h3]
  have hpt : (parts.map fun (i, x) => (i, a.eval x)).toList = parts.toList.map fun (i, x) => (i, a.eval x) := by simp
  unfold Cx.bld at hb
  split at hb
  · rename_i fs hu
    rw [hu] at h2
    have hm : (fs.mapM fun f => (do Pure.pure (f.offset, ← sizeOf f.type) : Sem (Nat × Nat))).run C.P w = .ok (fs.map fun f => (f.offset, C.P.cellsOf f.type)) w := by
      rw [Array.mapM_eq_mapM_toList]
      simp only [Sem.run_map]
      rw [mapM_run _ (fun f => (f.offset, C.P.cellsOf f.type)) fs.toList (fun f hf => ?_)]
      · simp
        exact Array.ext' (by simp)
      · have hx := List.all_eq_true.1 hb f hf
        obtain ⟨ti, hti⟩ := Option.isSome_iff_exists.1 hx
        obtain ⟨j0, _, _, j1, _, _, _, rfl⟩ := Cx.ti_spec hti
        simp [sizeOf_run j1, Program.cellsOf, j1]
    have hpl : ∀ k, (fs.map fun f => (f.offset, C.P.cellsOf f.type))[k]? = C.place t k := by
      intro k
      unfold Cx.place Cx.fd Cx.ar
      simp only [hu]
      rw [Array.getElem?_map]
      cases hk : fs[k]? with
      | none => simp
      | some f =>
        have hx := List.all_eq_true.1 hb f (Array.mem_toList_iff.2 (Array.mem_of_getElem? hk))
        obtain ⟨ti, hti⟩ := Option.isSome_iff_exists.1 hx
        obtain ⟨j0, _, _, j1, _, _, _, e⟩ := Cx.ti_spec hti
        simp [hti, e, Program.cellsOf, j1]
    refine .of (v := .agg cells') ?_ (.agg _ _ (by have := hv.1; simpa using this) (fun j c v e1 e2 => hv.2 j c v e1 (by simpa using e2))) hK
    simp only [Instr.build, Sem.run_bind, hzv, Result.andThen_ok, run_underlying hu, hm]
    rw [show (fun x => (fs.map fun f => (f.offset, C.P.cellsOf f.type))[x]?) = C.place t from funext hpl, hpt, hf]
    rfl
  · rename_i n e hu
    obtain ⟨ti, hti⟩ := Option.isSome_iff_exists.1 hb
    obtain ⟨j0, _, _, j1, _, _, _, e1⟩ := Cx.ti_spec hti
    have hpl : (fun i => some (i * j0.size, j0.size)) = C.place t := by
      funext k
      unfold Cx.place Cx.fd Cx.ar
      simp [hu, hti, e1]
    refine .of (v := .agg cells') ?_ (.agg _ _ (by have := hv.1; simpa using this) (fun j c v e1 e2 => hv.2 j c v e1 (by simpa using e2))) hK
    simp only [Instr.build, Sem.run_bind, hzv, Result.andThen_ok, run_underlying hu, sizeOf_run j1]
    rw [hpl, hpt, hf]
    rfl
  · cases hb

def pureOk (C : Cx) (op : Op) : Prop := match op with
  | .build t _ => C.bld t = true
  | _ => True

theorem args_vrs {L : Lay} {w : World} {ρ : Operand → AV} {a : Act} {xs : List Operand} (h : ∀ x ∈ xs, VR L w (ρ x) (a.eval x)) : VRs L w (xs.map ρ) (xs.map a.eval) := by
  induction xs with
  | nil => exact .nil L w
  | cons x xs ih => exact .cons (h x (by simp)) (ih fun y hy => h y (by simp [hy]))

theorem pure_sound {C : Cx} {B0 : Nat} {L : Lay} {G : Heap} {w : World} {ρ : Operand → AV} {a : Act} {o : Oper} {K : AV → Prop} (hr : Rel C.gl B0 L G w) (hρ : ∀ x ∈ o.op.operands.toList, VR L w (ρ x) (a.eval x)) (hok : pureOk C o.op)
    (h : pureK C G ρ o.op K) : ∃ v r, (execOp a.eval o).run C.P w = .ok (.value v) w ∧ VR L w r v ∧ K r := by
  obtain ⟨dst, op, type, pos, after, guard⟩ := o
  simp only at h hρ hok
  have lift : ∀ s : Sem Value, Yi C.P L w s K → ∃ v r, (do let v ← s; Pure.pure (Next.value v) : Sem Next).run C.P w = .ok (.value v) w ∧ VR L w r v ∧ K r := fun s ⟨v, r, h1, h2, h3⟩ => ⟨v, r, by simp [h1], h2, h3⟩
  cases op <;> simp only [pureK] at h <;> simp only [Op.operands] at hρ <;> simp only [execOp]
  case move x => exact ⟨_, _, rfl, hρ x (by simp), h⟩
  case assign x => exact ⟨_, _, rfl, hρ x (by simp), h⟩
  case pick c x y =>
    split at h
    · rename_i t ht
      have hc := hρ c (by simp)
      rw [ht] at hc
      refine ⟨if t then a.eval x else a.eval y, _, ?_, ?_, h⟩
      · simp [hc.inv_bool, asBool]
      · cases t
        · exact hρ y (by simp)
        · exact hρ x (by simp)
    · exact h.elim
  case build t parts =>
    split at h
    · rename_i i hi
      exact lift _ (build_run hi hok (fun p hp => hρ p.2 (by simp; exact ⟨p.1, by simpa using hp⟩)) h.2)
    · exact h.elim
  case load t x =>
    split at h
    · rename_i i hi
      obtain ⟨ad, vs, cs, hv, hK, hvs, hl, hc, _⟩ := rdK_spec hr (hρ x (by simp)) h
      refine lift _ ?_
      rw [hv]
      obtain ⟨v, r, h1, h2, h3⟩ := loadVar_run hi hvs hl hc hK
      exact ⟨v, r, by simp [Instr.loadAt, Instr.sureAddr, h1], h2, h3⟩
    · exact h.elim
  case nilCheck x =>
    have hx := hρ x (by simp)
    split at h
    · rename_i b o hb
      rw [hb] at hx
      obtain ⟨e, _⟩ := hx.inv_ptr
      exact ⟨_, _, by rw [e]; rfl, e ▸ hx, h⟩
    · rename_i cs hb
      rw [hb] at hx
      generalize a.eval x = v at hx
      cases hx with
      | ref cs ad vs hI hc hv => exact ⟨_, _, rfl, .ref cs ad vs hI hc hv, h⟩
    · rename_i f p q hb
      rw [hb] at hx
      obtain ⟨p', q', e, _⟩ := hx.inv_fn
      exact ⟨_, _, by rw [e]; rfl, e ▸ hx, h⟩
    · exact h.elim
  case binOp op t x y yt =>
    have hx := hρ x (by simp)
    have hy := hρ y (by simp)
    refine lift _ ?_
    obtain ⟨v, r, h1, h2, h3⟩ := binK_sound hx hy h
    exact ⟨v, r, by simp only [Sem.run_bind, guard_run hx hy h, Result.andThen_ok, h1], h2, h3⟩
  case unOp op t x => exact lift _ (unK_sound (hρ x (by simp)) h)
  case convert s d x =>
    have hx := hρ x (by simp)
    split at h
    · rename_i k j n hk hn
      rw [hn] at hx
      obtain ⟨u, hu⟩ := Option.isSome_iff_exists.1 h.1
      rw [hx.inv_int]
      exact lift _ (.of (by simp [convert, run_underlying hu, run_underlying (Cx.ik_spec hk), Conv.intToInt]) (.int _ _) h.2)
    · exact h.elim
  case makeFunc fn first cap =>
    split at h
    · rename_i f
      refine lift _ (.of (v := .func (.func f) (first.map a.eval) (cap.map a.eval)) (by simp [Instr.makeFunc]) ?_ h)
      have h1 := args_vrs (L := L) (w := w) (ρ := ρ) (a := a) (xs := first.toList) (fun x hx => hρ x (by simp; exact .inl (by simpa using hx)))
      have h2 := args_vrs (L := L) (w := w) (ρ := ρ) (a := a) (xs := cap.toList) (fun x hx => hρ x (by simp; exact .inr (by simpa using hx)))
      refine .fn _ _ _ _ _ (by simp) (by simp) (fun i c v e1 e2 => h1.2 i c v e1 ?_) (fun i c v e1 e2 => h2.2 i c v e1 ?_)
      · rw [← Array.toList_map, Array.getElem?_toList]; exact e2
      · rw [← Array.toList_map, Array.getElem?_toList]; exact e2
    · exact h.elim
  case slice t x lo hi mx =>
    refine lift _ (sliceK_sound (hρ x (by simp)) (fun o ho => hρ o ?_) (fun o ho => hρ o ?_) (fun o ho => hρ o ?_) h) <;> subst ho <;> simp
  case fieldAddr t x i =>
    have hx := hρ x (by simp)
    split at h
    · rename_i off u hf
      obtain ⟨fs, f, h1, h2, rfl, rfl⟩ := Cx.fd_spec hf
      split at h
      · rename_i ti hti
        obtain ⟨i0, d, z, g1, g2, g3, g4, rfl⟩ := Cx.ti_spec hti
        obtain ⟨hne, h⟩ := h
        simp only at hne
        refine lift _ ?_
        split at h
        · rename_i b o hb
          rw [hb] at hx
          obtain ⟨e, hD⟩ := hx.inv_ptr
          rw [e]
          refine .of (v := .pointer (some ⟨L.k b, o + f.offset, none⟩)) ?_ (.ptr b _ hD) h
          simp [Instr.fieldAt, run_underlying h1, h2, Instr.sureAddr, fieldPlace, sizeOf_run g1, hne, add_mk]
        · rename_i cs hb
          rw [hb] at hx
          generalize a.eval x = v at hx
          cases hx with
          | ref cs ad vs hI hc hv =>
            refine .of (v := .pointer (some (ad.add f.offset))) ?_ (drop_ref (.ref cs ad vs hI hc hv)) h
            simp [Instr.fieldAt, run_underlying h1, h2, Instr.sureAddr, fieldPlace, sizeOf_run g1, hne]
        · exact h.elim
      · exact h.elim
    · exact h.elim
  case field t x i =>
    have hx := hρ x (by simp)
    split at h
    · rename_i off u cs hf hcs
      obtain ⟨fs, f, h1, h2, rfl, rfl⟩ := Cx.fd_spec hf
      split at h
      · rename_i ti hti
        rw [hcs] at hx
        obtain ⟨vs, e, hl, hv⟩ := hx.inv_agg
        rw [e]
        refine lift _ ?_
        obtain ⟨v, r, k1, k2, k3⟩ := partK_sound hti hl hv h
        exact ⟨v, r, by simp [Instr.field, run_underlying h1, h2, asAgg, k1], k2, k3⟩
      · exact h.elim
    · exact h.elim
  case indexAddr t x ix =>
    have hi := hρ ix (by simp)
    split at h
    · rename_i k i hix
      rw [hix] at hi
      rw [hi.inv_int]
      exact lift _ (idxK_sound (hρ x (by simp)) h)
    · exact h.elim
  case index t x ix =>
    have hi := hρ ix (by simp)
    have hx := hρ x (by simp)
    split at h
    · rename_i k i cs n e hix hcs har
      split at h
      · rename_i ti hti
        rw [hix] at hi
        rw [hcs] at hx
        obtain ⟨vs, ev, hl, hv⟩ := hx.inv_agg
        rw [hi.inv_int, ev]
        refine lift _ ?_
        obtain ⟨hb, h⟩ := h
        obtain ⟨v, r, k1, k2, k3⟩ := partK_sound hti hl hv h
        obtain ⟨i0, d, z, g1, g2, g3, g4, rfl⟩ := Cx.ti_spec hti
        exact ⟨v, r, by simp [Instr.index, asIntOf, run_underlying (Cx.ar_spec har), hb, sizeOf_run g1, k1], k2, k3⟩
      · exact h.elim
    · exact h.elim
  case extract x i =>
    have hx := hρ x (by simp)
    split at h
    · rename_i cs hcs
      split at h
      · rename_i c hc
        rw [hcs] at hx
        obtain ⟨vs, ev, hl, hv⟩ := hx.inv_tup
        have hlt : i < vs.size := by rw [← hl]; exact (List.getElem?_eq_some_iff.1 hc).1
        rw [ev]
        exact lift _ (.of (v := vs[i]) (by simp [Instr.extract, hlt]) (hv i c _ hc (by simp [hlt])) h)
      · exact h.elim
    · exact h.elim
  case call c =>
    obtain ⟨callee, args, argTypes⟩ := c
    simp only [Call.operands] at hρ
    simp only at h
    split at h
    · split at h
      · rename_i x t ha ht
        have ha' : args = #[x] := by cases args; simp_all
        have ht' : argTypes = #[t] := by cases argTypes; simp_all
        subst ha'; subst ht'
        have hx := hρ x (by simp)
        refine Exists.elim (?_ : Yi C.P L w (Builtin.len_ #[t] type #[a.eval x]) K) fun v ⟨r, h1, h2, h3⟩ => ⟨v, r, by simp [resolve, invoke, builtin, h1], h2, h3⟩
        split at h
        · rename_i s hs
          rw [hs] at hx
          rw [hx.inv_str]
          exact .of (by simp [Builtin.len_, run_underlying (isStr_spec h.1)]; rfl) (.int _ _) h.2
        · split at h
          · rename_i n hn
            obtain ⟨p, cap, e⟩ := lenOf_val hx hn
            obtain ⟨el, hel⟩ := Option.isSome_iff_exists.1 h.1
            rw [e]
            exact .of (by simp [Builtin.len_, run_underlying (Cx.el_spec hel)]; rfl) (.int _ _) h.2
          · exact h.elim
      · exact h.elim
    · have hv := args_vrs (L := L) (w := w) (ρ := ρ) (a := a) (xs := args.toList) (fun x hx => hρ x (by simpa using hx))
      obtain ⟨v, r, h1, h2, h3⟩ := minmaxK_sound (C := C) (mx := false) hv h argTypes type
      refine ⟨v, r, ?_, h2, h3⟩
      simp only [Bool.false_eq_true, if_false, ← Array.toList_map, Array.toArray_toList] at h1
      simp [resolve, invoke, builtin, h1]
    · have hv := args_vrs (L := L) (w := w) (ρ := ρ) (a := a) (xs := args.toList) (fun x hx => hρ x (by simpa using hx))
      obtain ⟨v, r, h1, h2, h3⟩ := minmaxK_sound (C := C) (mx := true) hv h argTypes type
      refine ⟨v, r, ?_, h2, h3⟩
      simp only [if_true, ← Array.toList_map, Array.toArray_toList] at h1
      simp [resolve, invoke, builtin, h1]
    · exact h.elim

end Go.Fw
