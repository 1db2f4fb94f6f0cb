/- The model's operations that leave memory alone do what 'pureK' says: slices, literals; all together. -/
import Derived.Test.YtjcplclbdanpgaaFwC
set_option linter.unusedVariables false
set_option linter.unusedSimpArgs false
namespace Go.Fw
open Go

theorem VR.inv_sl {L : Lay} {w : World} {b off len sz : Nat} {x : Bool} {v : Value} (h : VR L w (.sl b off len x sz) v) :
    ∃ cap, v = .slice (some ⟨L.k b, off, none⟩) len cap ∧ L.DC b ∧ len ≤ cap ∧ (x = true → cap = len) ∧ off + cap * sz ≤ L.S b ∧ cap ≤ 9223372036854775807 := by
  cases h with
  | sl b off len x sz cap h hle hx hS hm => exact ⟨cap, rfl, h, hle, hx, hS, hm⟩
theorem VR.inv_lst {L : Lay} {w : World} {n sz : Nat} {f : Nat → List AV} {v : Value} (h : VR L w (.lst sz n f) v) :
    ∃ (a : Option Addr) (ad : Addr) (cap : Nat) (vs : Nat → Nat → Value), v = .slice a n cap ∧ (0 < n → a = some ad ∧ L.I ad.block) ∧ n ≤ cap ∧ (∀ i, i < n → (f i).length = sz) ∧
      (∀ (i j : Nat), i < n → j < sz → w.cell? (ad.add (i * sz + j)) = some (vs i j) ∧ (vs i j).oneCell' = true) ∧ (∀ i j c, i < n → (f i)[j]? = some c → VR L w c (vs i j)) := by
  cases h with
  | lst sz n f a ad cap vs hp hle hl hc hv => exact ⟨a, ad, cap, vs, rfl, hp, hle, hl, hc, hv⟩
theorem VR.inv_nils {L : Lay} {w : World} {v : Value} (h : VR L w .nils v) : ∃ a, v = .slice a 0 0 := by
  cases h; exact ⟨_, rfl⟩
theorem VR.inv_emp {L : Lay} {w : World} {v : Value} (h : VR L w .emp v) : ∃ a cap, v = .slice a 0 cap := by
  cases h; exact ⟨_, _, rfl⟩
theorem VR.inv_int {L : Lay} {w : World} {k : IntKind} {n : Int} {v : Value} (h : VR L w (.int k n) v) : v = .int k n := by
  cases h; rfl
theorem VR.inv_bool {L : Lay} {w : World} {b : Bool} {v : Value} (h : VR L w (.bool b) v) : v = .bool b := by
  cases h; rfl
theorem VR.inv_agg {L : Lay} {w : World} {cs : List AV} {v : Value} (h : VR L w (.agg cs) v) : ∃ vs, v = .agg vs ∧ cs.length = vs.size ∧ ∀ (i : Nat) c v, cs[i]? = some c → vs[i]? = some v → VR L w c v := by
  cases h with
  | agg cs vs hl h => exact ⟨vs, rfl, hl, h⟩
theorem VR.inv_tup {L : Lay} {w : World} {cs : List AV} {v : Value} (h : VR L w (.tup cs) v) : ∃ vs, v = .tuple vs ∧ cs.length = vs.size ∧ ∀ (i : Nat) c v, cs[i]? = some c → vs[i]? = some v → VR L w c v := by
  cases h with
  | tup cs vs hl h => exact ⟨vs, rfl, hl, h⟩
theorem VR.inv_ptr {L : Lay} {w : World} {b off : Nat} {v : Value} (h : VR L w (.ptr b off) v) : v = .pointer (some ⟨L.k b, off, none⟩) ∧ L.DC b := by
  cases h with
  | ptr b off h => exact ⟨rfl, h⟩
theorem VR.inv_str {L : Lay} {w : World} {s : ByteArray} {v : Value} (h : VR L w (.str s) v) : v = .string s := by
  cases h; rfl
theorem VR.inv_fn {L : Lay} {w : World} {f : FuncId} {p q : List AV} {v : Value} (h : VR L w (.fn f p q) v) : ∃ p' q' : Array Value, v = .func (.func f) p' q' ∧ VRs L w p p'.toList ∧ VRs L w q q'.toList := by
  cases h with
  | fn f first cap first' cap' h1 h2 hf hc => exact ⟨_, _, rfl, ⟨by simpa using h1, fun i c v e1 e2 => hf i c v e1 (by simpa using e2)⟩, ⟨by simpa using h2, fun i c v e1 e2 => hc i c v e1 (by simpa using e2)⟩⟩

theorem lenOf_val {L : Lay} {w : World} {x : AV} {v : Value} {n : Nat} (h : VR L w x v) (hl : lenOf x = some n) : ∃ a cap, v = .slice a n cap := by
  cases x <;> simp only [lenOf] at hl <;> first | cases hl | skip
  · obtain ⟨a, rfl⟩ := h.inv_nils; exact ⟨_, _, rfl⟩
  · obtain ⟨a, cap, rfl⟩ := h.inv_emp; exact ⟨_, _, rfl⟩
  · obtain ⟨cap, rfl, _⟩ := h.inv_sl; exact ⟨_, _, rfl⟩
  · obtain ⟨a, ad, cap, vs, rfl, _⟩ := h.inv_lst; exact ⟨_, _, rfl⟩

theorem bnd_spec {L : Lay} {w : World} {ρ : Operand → AV} {a : Act} {x : Option Operand} (hv : ∀ o, x = some o → VR L w (ρ o) (a.eval o)) {d i : Int} (h : bnd ρ x d = some i) :
    (x = none ∧ i = d) ∨ ∃ k, x.map a.eval = some (.int k i) := by
  unfold bnd at h
  split at h
  · injection h with h; exact .inl ⟨rfl, h.symm⟩
  · rename_i o
    split at h
    · rename_i k j hj
      injection h with h
      subst h
      have := hv o rfl
      rw [hj] at this
      refine .inr ⟨k, ?_⟩
      generalize hq : a.eval o = q at this
      cases this
      simp [hq]
    · cases h

theorem bound_run {P : Program} {w : World} {k : IntKind} {i : Int} {y : Nat} (c : BoundsCode) (h : 0 ≤ i ∧ i ≤ (y : Int)) : (Instr.sliceBound (.int k i) y c).run P w = .ok i.toNat w := by
  simp [Instr.sliceBound, asIntOf, h]

/-- A slice is cut. -/
theorem slice_run {C : Cx} {L : Lay} {w : World} {ρ : Operand → AV} {a : Act} {t e : TypeId} {i0 : TypeInfo} {lo hi : Option Operand} (hu : C.P.underlying t = some (.slice e)) (h1 : C.P.info? e = some i0)
    (hlo : ∀ o, lo = some o → VR L w (ρ o) (a.eval o)) (hhi : ∀ o, hi = some o → VR L w (ρ o) (a.eval o)) {l h : Int} {p : Option Addr} {len cap : Nat} (el : bnd ρ lo 0 = some l) (eh : bnd ρ hi len = some h)
    (hb : 0 ≤ l ∧ l ≤ h ∧ h ≤ (len : Int)) (hle : len ≤ cap) :
    (Instr.sliceAt t (.slice p len cap) (lo.map a.eval) (hi.map a.eval) none).run C.P w = .ok (.slice (if cap = l.toNat then p else p.map (·.add (l.toNat * i0.size))) (h - l).toNat (cap - l.toNat)) w := by
  have e3 : h.toNat - l.toNat = (h - l).toNat := by omega
  have B : (Instr.sliceBounds true len cap (lo.map a.eval) (hi.map a.eval) none).run C.P w = .ok (l.toNat, h.toNat, cap) w := by
    rcases bnd_spec hlo el with ⟨rfl, rfl⟩ | ⟨k, hk⟩ <;> rcases bnd_spec hhi eh with ⟨rfl, rfl⟩ | ⟨k', hk'⟩
    · simp [Instr.sliceBounds]
    · simp [Instr.sliceBounds, hk', bound_run (k := k') (i := h) (y := cap) .sliceAcap ⟨by omega, by omega⟩]
    · simp [Instr.sliceBounds, hk, bound_run (k := k) (i := l) (y := len) .sliceB ⟨by omega, by omega⟩]
    · simp [Instr.sliceBounds, hk', bound_run (k := k') (i := h) (y := cap) .sliceAcap ⟨by omega, by omega⟩, hk, bound_run (k := k) (i := l) (y := h.toNat) .sliceB ⟨by omega, by omega⟩]
  simp only [Instr.sliceAt, Sem.run_bind, run_underlying hu, Result.andThen_ok, Instr.slice, B, sizeOf_run h1, Sem.run_pure, e3]

theorem sliceK_sound {C : Cx} {L : Lay} {w : World} {ρ : Operand → AV} {a : Act} {t : TypeId} {x : AV} {vx : Value} {lo hi mx : Option Operand} {K : AV → Prop} (hx : VR L w x vx)
    (hlo : ∀ o, lo = some o → VR L w (ρ o) (a.eval o)) (hhi : ∀ o, hi = some o → VR L w (ρ o) (a.eval o)) (hmx : ∀ o, mx = some o → VR L w (ρ o) (a.eval o))
    (h : sliceK C ρ t x lo hi mx K) : Yi C.P L w (Instr.sliceAt t vx (lo.map a.eval) (hi.map a.eval) (mx.map a.eval)) K := by
  unfold sliceK at h
  split at h
  · exact h.elim
  · rename_i e he
    have hu := Cx.el_spec he
    split at h
    · rename_i ti len hti hlen
      obtain ⟨i0, d, z, h1, h2, h3, h4, rfl⟩ := Cx.ti_spec hti
      obtain ⟨hsz, h⟩ := h
      split at h
      · rename_i l hh el eh
        cases x <;> simp only [sliceAt] at h
        case nils =>
          obtain ⟨p, rfl⟩ := hx.inv_nils
          simp only [lenOf] at hlen
          cases hlen
          obtain ⟨rfl, rfl, hK⟩ := h
          refine .of (slice_run hu h1 hlo hhi el eh ⟨by omega, by omega, by omega⟩ (Nat.le_refl 0)) ?_ hK
          simp only [Int.toNat_zero, if_true, Int.sub_self, Nat.sub_self]
          exact .nils _
        case emp =>
          obtain ⟨p, cap, rfl⟩ := hx.inv_emp
          simp only [lenOf] at hlen
          cases hlen
          obtain ⟨rfl, rfl, hK⟩ := h
          refine .of (slice_run hu h1 hlo hhi el eh ⟨by omega, by omega, by omega⟩ (Nat.zero_le _)) ?_ hK
          exact .emp _ _
        case sl b off len1 ex sz =>
          obtain ⟨cap, rfl, hb, hle, hex, hS, hm⟩ := hx.inv_sl
          simp only [lenOf] at hlen
          cases hlen
          obtain ⟨hbd, hor, hK⟩ := h
          simp only at hsz
          subst hsz
          refine .of (slice_run hu h1 hlo hhi el eh hbd hle) ?_ hK
          have hsl : VR L w (.sl b (off + l.toNat * i0.size) (hh - l).toNat (ex && decide (hh = (len : Int))) i0.size) (.slice (some ⟨L.k b, off + l.toNat * i0.size, none⟩) (hh - l).toNat (cap - l.toNat)) := by
            refine .sl _ _ _ _ _ _ hb (by omega) (fun hq => ?_) ?_ (by omega)
            · simp only [Bool.and_eq_true, decide_eq_true_eq] at hq
              have := hex hq.1
              omega
            · have : l.toNat * i0.size + (cap - l.toNat) * i0.size = cap * i0.size := by rw [← Nat.add_mul]; congr 1; omega
              omega
          by_cases hc : cap = l.toNat
          · have h0 : l = 0 := by omega
            subst h0
            simpa [hc] using hsl
          · rw [if_neg hc]
            simpa [add_mk] using hsl
        case lst sz n f =>
          obtain ⟨p, ad, cap, vs, rfl, hp, hle, hl, hc, hv⟩ := hx.inv_lst
          simp only [lenOf] at hlen
          cases hlen
          obtain ⟨hbd, hK⟩ := h
          simp only at hsz
          subst hsz
          refine .of (slice_run hu h1 hlo hhi el eh hbd hle) ?_ hK
          refine .lst _ _ _ _ (ad.add (l.toNat * i0.size)) _ (fun i j => vs (l.toNat + i) j) (fun hn => ?_) (by omega) (fun i hi => hl _ (by omega)) (fun i j hi hj => ?_) (fun i j c hi hj => hv _ _ _ (by omega) hj)
          · obtain ⟨rfl, hI⟩ := hp (by omega)
            rw [if_neg (by omega)]
            exact ⟨rfl, by rw [add_block]; exact hI⟩
          · rw [add_add, ← Nat.add_assoc, ← Nat.add_mul]
            exact hc _ _ (by omega) hj
      · exact h.elim
    · rename_i ti m len hti hlen
      obtain ⟨i0, d, z, h1, h2, h3, h4, rfl⟩ := Cx.ti_spec hti
      split at h
      · rename_i ho k hm
        split at h
        · rename_i k' hho
          have em := hmx m rfl
          rw [hm] at em
          have eh := hhi ho rfl
          rw [hho] at eh
          generalize hq : a.eval m = q at em
          generalize hq' : a.eval ho = q' at eh
          cases em; cases eh
          obtain ⟨p, cap, rfl⟩ := lenOf_val hx hlen
          refine .of (v := .slice (if 0 = 0 then p else p.map (·.add (0 * i0.size))) 0 0) ?_ (.nils _) h
          simp [Instr.sliceAt, run_underlying hu, Instr.slice, Instr.sliceBounds, hq, hq', bound_run (k := k) (i := 0) (y := cap) .slice3Acap ⟨by omega, by omega⟩, bound_run (k := k') (i := 0) (y := 0) .slice3B ⟨by omega, by omega⟩, sizeOf_run h1]
        · exact h.elim
      · exact h.elim
    · exact h.elim

end Go.Fw
