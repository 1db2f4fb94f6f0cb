/- The model's operations that leave memory alone do what 'pureK' says. -/
import Derived.Test.YtjcplclbdanpgaaFwB
set_option linter.unusedVariables false
set_option linter.unusedSimpArgs false
namespace Go.Fw
open Go

/-- The run yields a value that r stands for. -/
def Yi (P : Program) (L : Lay) (w : World) (s : Sem Value) (K : AV → Prop) : Prop := ∃ v r, s.run P w = .ok v w ∧ VR L w r v ∧ K r

theorem Yi.pure {P : Program} {L : Lay} {w : World} {v : Value} {r : AV} {K : AV → Prop} (h : VR L w r v) (hK : K r) : Yi P L w (Pure.pure v) K := ⟨v, r, rfl, h, hK⟩
theorem Yi.of {P : Program} {L : Lay} {w : World} {s : Sem Value} {v : Value} {r : AV} {K : AV → Prop} (hs : s.run P w = .ok v w) (h : VR L w r v) (hK : K r) : Yi P L w s K := ⟨v, r, hs, h, hK⟩

theorem intOp_sound {C : Cx} {L : Lay} {w : World} {op : BinOp} {k : IntKind} {a b : Int} {t : TypeId} {K : AV → Prop} (h : intOp op k a b K) : Yi C.P L w (binOp op t (.int k a) (.int k b)) K := by
  cases op <;> simp only [intOp] at h
  case quo => exact .of (by simp [binOp, Op.intDiv, h.1]) (.int _ _) h.2
  case rem => exact .of (by simp [binOp, Op.intDiv, h.1]) (.int _ _) h.2
  case and => exact .of (by simp only [binOp, ne_eq, not_true, if_false]; rfl) (.int _ _) h
  case or => exact .of (by simp only [binOp, ne_eq, not_true, if_false]; rfl) (.int _ _) h
  case xor => exact .of (by simp only [binOp, ne_eq, not_true, if_false]; rfl) (.int _ _) h
  case add => exact .of (by simp [binOp, Op.intArith]) (.int _ _) h
  case sub => exact .of (by simp [binOp, Op.intArith]) (.int _ _) h
  case mul => exact .of (by simp [binOp, Op.intArith]) (.int _ _) h
  all_goals exact .of (by simp [binOp, Op.intCmp]) (.bool _) h

theorem eqOp_sound {C : Cx} {L : Lay} {w : World} {op : BinOp} {x y : Value} {t : TypeId} {r : Bool} {K : AV → Prop} (h : eqOp op r K) (he : binOp .eql t x y = (do Pure.pure (.bool (← Op.equal t x y)))) (hn : binOp .neq t x y = (do Pure.pure (.bool (!(← Op.equal t x y)))))
    (hr : (Op.equal t x y).run C.P w = .ok r w) : Yi C.P L w (binOp op t x y) K := by
  cases op <;> simp only [eqOp] at h
  case eql => exact .of (by rw [he]; simp [hr]) (.bool _) h
  case neq => exact .of (by rw [hn]; simp [hr]) (.bool _) h

theorem eq_bool {P : Program} {t : TypeId} (d : Nat) (a b : Bool) (w : World) (h : P.underlying t = some .bool) : (Op.equalIn (d + 1) t (.bool a) (.bool b)).run P w = .ok (a == b) w := by
  simp [Op.equalIn, run_underlying h]
theorem eq_nn {P : Program} {t e : TypeId} (d : Nat) (w : World) (h : P.underlying t = some (.pointer e)) : (Op.equalIn (d + 1) t (.pointer none) (.pointer none)).run P w = .ok true w := by
  simp [Op.equalIn, run_underlying h]
theorem eq_np {P : Program} {t e : TypeId} (d : Nat) (a : Addr) (w : World) (h : P.underlying t = some (.pointer e)) : (Op.equalIn (d + 1) t (.pointer none) (.pointer (some a))).run P w = .ok false w := by
  simp [Op.equalIn, run_underlying h]
theorem eq_pn {P : Program} {t e : TypeId} (d : Nat) (a : Addr) (w : World) (h : P.underlying t = some (.pointer e)) : (Op.equalIn (d + 1) t (.pointer (some a)) (.pointer none)).run P w = .ok false w := by
  simp [Op.equalIn, run_underlying h]

theorem isPtr_spec {C : Cx} {t : TypeId} (h : C.isPtr t = true) : ∃ e, C.P.underlying t = some (.pointer e) := by
  unfold Cx.isPtr at h
  split at h
  · exact ⟨_, by assumption⟩
  · cases h
theorem isBool_spec {C : Cx} {t : TypeId} (h : C.isBool t = true) : C.P.underlying t = some .bool := by
  unfold Cx.isBool at h
  split at h
  · assumption
  · cases h
theorem isStr_spec {C : Cx} {t : TypeId} (h : C.isStr t = true) : C.P.underlying t = some .string := by
  unfold Cx.isStr at h
  split at h
  · assumption
  · cases h

theorem agg_ints {L : Lay} {w : World} {cs : List AV} {ns : List Int} {v : Value} (h : intL cs = some ns) (hv : VR L w (.agg cs) v) : v = aggI ns ∧ ns.length = cs.length := by
  have e := intL_spec h
  obtain ⟨vs, rfl, hl, hh⟩ : ∃ vs, v = .agg vs ∧ cs.length = vs.size ∧ ∀ (i : Nat) c v, cs[i]? = some c → vs[i]? = some v → VR L w c v := by
    cases hv with
    | agg cs vs hl h => exact ⟨vs, rfl, hl, h⟩
  have hlen : ns.length = cs.length := by rw [e]; simp
  refine ⟨?_, hlen⟩
  unfold aggI
  congr 1
  apply Array.ext_getElem?
  intro i
  by_cases hi : i < vs.size
  · have hc : cs[i]? = some (AV.int .i64 (ns[i]'(by omega))) := by
      have : cs[i]? = (ns.map fun n => AV.int .i64 n)[i]? := by rw [← e]
      rw [this]; simp [show i < ns.length by omega]
    have : vs[i] = .int .i64 (ns[i]'(by omega)) := by
      have h9 := hh i _ _ hc (Array.getElem?_eq_getElem hi)
      generalize vs[i] = u at h9
      cases h9; rfl
    rw [Array.getElem?_eq_getElem hi, this]
    simp [show i < ns.length by omega]
  · rw [Array.getElem?_eq_none (by omega), Array.getElem?_eq_none (by simp; omega)]

theorem eq_ff {P : Program} {t : TypeId} {a b c} (d : Nat) (w : World) (h : P.underlying t = some (.func a b c)) : (Op.equalIn (d + 1) t .nilFunc .nilFunc).run P w = .ok true w := by
  simp [Op.equalIn, run_underlying h]
theorem eq_fn {P : Program} {t : TypeId} {a b c} (d : Nat) (f p q) (w : World) (h : P.underlying t = some (.func a b c)) : (Op.equalIn (d + 1) t (.func f p q) .nilFunc).run P w = .ok false w := by
  simp [Op.equalIn, run_underlying h]
theorem eq_nf {P : Program} {t : TypeId} {a b c} (d : Nat) (f p q) (w : World) (h : P.underlying t = some (.func a b c)) : (Op.equalIn (d + 1) t .nilFunc (.func f p q)).run P w = .ok false w := by
  simp [Op.equalIn, run_underlying h]
theorem isFn_spec {C : Cx} {t : TypeId} (h : C.isFn t = true) : ∃ a b c, C.P.underlying t = some (.func a b c) := by
  unfold Cx.isFn at h
  split at h
  · exact ⟨_, _, _, by assumption⟩
  · cases h
theorem binK_sound {C : Cx} {L : Lay} {w : World} {op : BinOp} {x y : AV} {vx vy : Value} {t : TypeId} {K : AV → Prop} (hx : VR L w x vx) (hy : VR L w y vy) (h : binK C op t x y K) : Yi C.P L w (binOp op t vx vy) K := by
  have hx0 := hx
  have hy0 := hy
  cases hx <;> cases hy <;> simp only [binK] at h
  case agg.agg as vs hl hh bs us hl' hh' =>
    split at h
    · rename_i xs ys h1 h2
      obtain ⟨⟨ha, hlen⟩, h⟩ := h
      have e1 := (agg_ints h1 hx0).1
      have e2 := (agg_ints h2 hy0).1
      rw [e1, e2]
      exact eqOp_sound h rfl rfl (ha.2 xs ys w rfl hlen)
    · exact h.elim
  case nilf.nilf =>
    obtain ⟨hb, h⟩ := h
    obtain ⟨a, b, c, he⟩ := isFn_spec hb
    exact eqOp_sound h rfl rfl (eq_ff 9999 w he)
  case fn.nilf =>
    obtain ⟨hb, h⟩ := h
    obtain ⟨a, b, c, he⟩ := isFn_spec hb
    exact eqOp_sound h rfl rfl (eq_fn 9999 _ _ _ w he)
  case nilf.fn =>
    obtain ⟨hb, h⟩ := h
    obtain ⟨a, b, c, he⟩ := isFn_spec hb
    exact eqOp_sound h rfl rfl (eq_nf 9999 _ _ _ w he)
  case int.int k a k' b => obtain ⟨rfl, h⟩ := h; exact intOp_sound h
  case bool.bool a b =>
    obtain ⟨hb, h⟩ := h
    exact eqOp_sound h rfl rfl (eq_bool 9999 a b w (isBool_spec hb))
  case str.str a b =>
    cases op <;> simp only [strOp] at h
    case eql => exact .of (by simp [binOp, Op.stringOp]) (.bool _) h
    case neq => exact .of (by simp [binOp, Op.stringOp]) (.bool _) h
  case nilp.nilp =>
    obtain ⟨hb, h⟩ := h
    obtain ⟨e, he⟩ := isPtr_spec hb
    exact eqOp_sound h rfl rfl (eq_nn 9999 w he)
  case nilp.ptr b off hb' =>
    obtain ⟨hb, h⟩ := h
    obtain ⟨e, he⟩ := isPtr_spec hb
    exact eqOp_sound h rfl rfl (eq_np 9999 _ w he)
  case ptr.nilp b off hb' =>
    obtain ⟨hb, h⟩ := h
    obtain ⟨e, he⟩ := isPtr_spec hb
    exact eqOp_sound h rfl rfl (eq_pn 9999 _ w he)
  case nilp.ref cs a vs hI hc hv =>
    obtain ⟨hb, h⟩ := h
    obtain ⟨e, he⟩ := isPtr_spec hb
    exact eqOp_sound h rfl rfl (eq_np 9999 _ w he)
  case ref.nilp cs a vs hI hc hv =>
    obtain ⟨hb, h⟩ := h
    obtain ⟨e, he⟩ := isPtr_spec hb
    exact eqOp_sound h rfl rfl (eq_pn 9999 _ w he)

/-- The guard ahead of '==' lets all by that 'binK' speaks of. -/
theorem guard_run {C : Cx} {L : Lay} {w : World} {op : BinOp} {x y : AV} {vx vy : Value} {t : TypeId} {K : AV → Prop} {p q : Operand} (hx : VR L w x vx) (hy : VR L w y vy) (h : binK C op t x y K) : (eqGuard op t p q vx vy).run C.P w = .ok () w := by
  by_cases hag : ∃ as bs, x = .agg as ∧ y = .agg bs
  · obtain ⟨as, bs, rfl, rfl⟩ := hag
    simp only [binK] at h
    split at h
    · rename_i xs ys h1 h2
      have e1 := (agg_ints h1 hx).1
      have e2 := (agg_ints h2 hy).1
      rw [e1, e2]
      have hp : program.run C.P w = .ok C.P w := rfl
      cases op <;> first | rfl | simp [eqGuard, aggI, hp, h.1.1.1]
    · exact h.elim
  · have hh : (match vx, vy with | .nilIface, .nilIface => False | .agg _, .agg _ => False | _, _ => True) := by
      cases hx <;> cases hy <;> simp only [binK] at h ⊢
      exact hag ⟨_, _, rfl, rfl⟩
    cases op <;> first | rfl | (cases vx <;> cases vy <;> first | rfl | exact hh.elim)

theorem unK_sound {C : Cx} {L : Lay} {w : World} {op : UnOp} {x : AV} {v : Value} {K : AV → Prop} (hx : VR L w x v) (h : unK op x K) : Yi C.P L w (Op.unary op v) K := by
  cases op <;> cases hx <;> simp only [unK] at h
  case not.bool b => exact .of (by simp [Op.unary]) (.bool _) h
  case neg.int k n => exact .of (by simp [Op.unary, Op.intArith]) (.int _ _) h

/-- What is read of a slice's head. -/
theorem drop_ref {L : Lay} {w : World} {cs : List AV} {a : Addr} {n : Nat} (h : VR L w (.ref cs) (.pointer (some a))) : VR L w (.ref (cs.drop n)) (.pointer (some (a.add n))) := by
  cases h with
  | ref cs a vs hI hc hv =>
    refine .ref _ _ (fun i => vs (n + i)) (by rw [add_block]; exact hI) (fun i hi => ?_) (fun i c hc' => ?_)
    · rw [add_add]; exact hc _ (by rw [List.length_drop] at hi; omega)
    · exact hv _ _ (by rw [List.getElem?_drop] at hc'; exact hc')

theorem idxK_sound {C : Cx} {L : Lay} {w : World} {t : TypeId} {x : AV} {vx : Value} {k : IntKind} {i : Int} {K : AV → Prop} (hx : VR L w x vx) (h : idxK C t x i K) : Yi C.P L w (Instr.indexAt t vx (.int k i)) K := by
  unfold idxK at h
  split at h
  · rename_i e he
    have hu := Cx.el_spec he
    split at h
    · exact h.elim
    · rename_i ti hti
      obtain ⟨i0, d, z, h1, h2, h3, h4, rfl⟩ := Cx.ti_spec hti
      cases hx <;> simp only at h
      case sl b off len ex sz cap hb hle hx hS hm =>
        obtain ⟨rfl, hi, hK⟩ := h
        refine .of ?_ ?_ hK (v := .pointer (some ⟨L.k b, off + i.toNat * i0.size, none⟩))
        · simp [Instr.indexAt, asIntOf, run_underlying hu, hi, sizeOf_run h1, add_mk]
        · exact .ptr b _ hb
      case lst sz n f a ad cap vs hp hle hl hc hv =>
        obtain ⟨rfl, hi, hK⟩ := h
        have hn : i.toNat < n := by omega
        obtain ⟨rfl, hI⟩ := hp (by omega)
        refine .of ?_ ?_ hK (v := .pointer (some (ad.add (i.toNat * i0.size))))
        · simp [Instr.indexAt, asIntOf, run_underlying hu, hi, sizeOf_run h1]
        · refine .ref _ _ (vs i.toNat) (by rw [add_block]; exact hI) (fun j hj => ?_) (fun j c hj => hv _ _ _ hn hj)
          rw [add_add]
          exact hc _ _ hn (by rw [hl _ hn] at hj; exact hj)
  · split at h
    · exact h.elim
    · rename_i n e he
      have hu := Cx.ar_spec he
      split at h
      · exact h.elim
      · rename_i ti hti
        obtain ⟨i0, d, z, h1, h2, h3, h4, rfl⟩ := Cx.ti_spec hti
        cases hx <;> simp only at h
        case ptr b off hb =>
          obtain ⟨hi, hK⟩ := h
          refine .of ?_ ?_ hK (v := .pointer (some ⟨L.k b, off + i.toNat * i0.size, none⟩))
          · simp [Instr.indexAt, asIntOf, run_underlying hu, hi, sizeOf_run h1, add_mk, Instr.sureAddr]
          · exact .ptr b _ hb
        case ref cs a vs hI hc hv =>
          obtain ⟨hi, hK⟩ := h
          refine .of ?_ (drop_ref (.ref cs a vs hI hc hv)) hK
          simp [Instr.indexAt, asIntOf, run_underlying hu, hi, sizeOf_run h1, Instr.sureAddr]

theorem partK_sound {C : Cx} {L : Lay} {w : World} {u : TypeId} {ti : TI} {cs : List AV} {vs : Array Value} {off : Nat} {K : AV → Prop} (hti : C.ti u = some ti) (hl : cs.length = vs.size) (hv : ∀ (i : Nat) c v, cs[i]? = some c → vs[i]? = some v → VR L w c v)
    (h : partK ti off cs K) : Yi C.P L w (part u vs off) K := by
  obtain ⟨i0, d, z, h1, h2, h3, h4, rfl⟩ := Cx.ti_spec hti
  unfold partK at h
  simp only at h
  unfold Yi
  simp only [part, Sem.run_bind, aggD_run h2, Result.andThen_ok]
  cases hag : aggD d with
  | true =>
    rw [hag] at h
    simp only [if_true, Sem.run_bind, sizeOf_run h1, Result.andThen_ok, Sem.run_pure]
    refine ⟨_, _, rfl, .agg _ _ ?_ (fun i c v e1 e2 => ?_), h⟩
    · simp [hl, Array.size_extract]; omega
    · rw [Array.getElem?_extract] at e2
      split at e2
      · rename_i hlt
        rw [List.getElem?_take] at e1
        split at e1
        · rw [List.getElem?_drop] at e1
          exact hv _ _ _ e1 e2
        · cases e1
      · cases e2
  | false =>
    rw [hag] at h
    simp only at h
    split at h
    · rename_i c hc
      have hlt : off < vs.size := by rw [← hl]; exact (List.getElem?_eq_some_iff.1 hc).1
      refine ⟨vs[off], c, ?_, hv off c _ hc (by simp [hlt]), h⟩
      simp [hlt]
    · exact h.elim

theorem minmaxK_sound {C : Cx} {L : Lay} {w : World} {mx : Bool} {cs : List AV} {vs : List Value} {K : AV → Prop} (hv : VRs L w cs vs) (h : minmaxK mx cs K) (ts : Array TypeId) (ty : TypeId) :
    Yi C.P L w (if mx then Builtin.max_ ts ty vs.toArray else Builtin.min_ ts ty vs.toArray) K := by
  unfold minmaxK at h
  split at h
  · obtain ⟨v1, us, rfl, k1, k2⟩ := hv.of_cons
    obtain ⟨v2, us2, rfl, k3, k4⟩ := k2.of_cons
    obtain rfl := k4.of_nil
    obtain ⟨rfl, h⟩ := h
    cases k1; cases k3
    cases mx
    · exact .of (by simp [Builtin.min_, Builtin.min2]) (.int _ _) h
    · exact .of (by simp [Builtin.max_, Builtin.max2]) (.int _ _) h
  · exact h.elim

end Go.Fw
