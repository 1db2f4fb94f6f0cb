/- From what is said of a call's arguments to abstract values; from a contract to what is said of a law. -/
import Derived.Test.YtjcplclbdanpgaaFwR
import Derived.ChangeArms
import Derived.ChangeShapes
import Derived.ChangeSlices
import Derived.ChangeOld
import Derived.Laws.StructEq
set_option linter.unusedVariables false
set_option linter.unusedSimpArgs false
namespace Go.Fw
open Go

/-- All memory that is there is never written. -/
def Lay.all (W : World) : Lay := ⟨id, fun _ => False, fun i => i < W.heap.size, fun _ => 0, fun _ => false⟩
theorem Rel.all {gl : Nat → AV} (hg : ∀ g, gl g = .undef) (W : World) : Rel gl 0 (Lay.all W) (.nil 0) W :=
  ⟨Nat.zero_le _, fun _ h => h.elim, fun _ h => h, fun _ _ => rfl, fun _ _ h => h.elim, fun _ _ _ _ h => h.elim, fun g => by rw [hg g]; exact .undef _⟩

theorem Ct.law {C : Cx} {f : FuncId} {args : List AV} {vs : Array Value} {W : World} (hg : ∀ g, C.gl g = .undef) (h : Ct C f args (.nil 0) fun r _ => r = .bool true) (hv : VRs (Lay.all W) W args vs.toList) :
    Calls C.P f vs W fun e w' => e = .returned (.bool true) ∧ RowKit.Below W.heap.size W w' :=
  (h.2 0 (Lay.all W) W vs (.all hg W) hv).mono fun e w' ⟨v, he, L', r, G', hr, f, _, hv⟩ => by
    subst hr
    refine ⟨by rw [he, hv.inv_bool], f.os, f.tape, f.output, f.size, fun k hk => f.keep k hk fun b hb => hb.elim⟩

/-! ### Structs of numbers -/
/-- Fields of one int each, one behind the other. -/
def intFields (P : Program) (k : Nat) : List Field → Bool
  | [] => true
  | f :: fs => (f.name != "_") && (f.offset == k) && (match P.underlying f.type with | some (.int .i64) => true | _ => false) && intFields P (k + 1) fs
theorem eqFields_run {P : Program} {w : World} (d : Nat) (xs ys : List Int) : ∀ (fs : List Field) (k : Nat), intFields P k fs = true → k + fs.length = xs.length → ys.length = xs.length →
    (Op.eqFields (d + 1) (xs.map fun n => Value.int .i64 n).toArray (ys.map fun n => Value.int .i64 n).toArray fs).run P w = .ok (decide (xs.drop k = ys.drop k)) w
  | [], k, _, hk, hl => by
    have e1 : xs.drop k = [] := List.drop_eq_nil_of_le (by simp at hk; omega)
    have e2 : ys.drop k = [] := List.drop_eq_nil_of_le (by simp at hk; omega)
    rw [e1, e2]; rfl
  | f :: fs, k, h, hk, hl => by
    simp only [intFields, Bool.and_eq_true, bne_iff_ne, ne_eq, beq_iff_eq] at h
    obtain ⟨⟨⟨h1, h2⟩, h3⟩, h4⟩ := h
    have hu : P.underlying f.type = some (.int .i64) := by
      split at h3
      · assumption
      · cases h3
    simp only [List.length_cons] at hk
    have hx : k < xs.length := by omega
    have hy : k < ys.length := by omega
    have ha : ∀ w, (isAgg f.type).run P w = .ok false w := fun w => aggD_run (C := ⟨P, fun _ => .undef⟩) hu w
    have ih := eqFields_run (w := w) d xs ys fs (k + 1) h4 (by omega) hl
    have p1 : ∀ (zs : List Int) (hz : k < zs.length), (part f.type (zs.map fun n => Value.int .i64 n).toArray f.offset).run P w = .ok (.int .i64 zs[k]) w := fun zs hz => by
      simp [part, ha, h2, hz]
    simp only [Op.eqFields, h1, ne_eq, not_false_eq_true, if_true, Sem.run_bind, p1 xs hx, p1 ys hy, Result.andThen_ok, run_equalIn_int w d f.type .i64 .i64 _ _ hu]
    have hc : (xs.drop k = ys.drop k) = (xs[k] = ys[k] ∧ xs.drop (k + 1) = ys.drop (k + 1)) := by
      rw [List.drop_eq_getElem_cons hx, List.drop_eq_getElem_cons hy, List.cons.injEq]
    simp only [hc]
    by_cases e : xs[k] = ys[k]
    · simp [e, ih]
    · simp [e]
theorem aggEq_struct {C : Cx} {t : TypeId} (hu : C.P.underlying t = some (.struct (C.P.fieldsOf t))) (hp : C.P.stoodInHeld t = false) (hg : C.P.eqGuardType C.P.depth t = false) {n : Nat} (hn : (C.P.fieldsOf t).size = n) (hf : intFields C.P 0 (C.P.fieldsOf t).toList = true) : AggEq C t n := by
  refine ⟨hg, fun xs ys w h1 h2 => ?_⟩
  rw [show (10000 : Nat) = 9998 + 1 + 1 from rfl]
  unfold aggI
  rw [run_equalIn_struct w (9998 + 1) _ _ _ hu hp, eqFields_run 9998 xs ys _ 0 hf (by simp; omega) (by omega)]
  rfl
/-- A block is never written any more. -/
theorem Rel.still {gl : Nat → AV} {B0 : Nat} {L : Lay} {G : Heap} {w : World} (h : Rel gl B0 L G w) {b : Nat} {blk : Blk} (hD : L.D b) (hg : G.get b = some blk) :
    Rel gl B0 (L.addI (L.k b)) (G.set b none) w ∧ Fr L G w (L.addI (L.k b)) (G.set b none) w := by
  have hle := L.le_addI (L.k b)
  have hI : ∀ i, L.I i → w.heap[i]? = w.heap[i]? := fun _ _ => rfl
  have hget : ∀ x y, (G.set b none).get x = some y → x ≠ b ∧ G.get x = some y := fun x y hx => by
    have hx : upd G.get b none x = some y := hx
    by_cases e : x = b
    · subst e; rw [upd_same] at hx; cases hx
    · rw [upd_ne _ _ e] at hx; exact ⟨e, hx⟩
  refine ⟨⟨h.base, h.idlt, fun i hi => ?_, fun x hx => ?_, fun x y hx hy => ?_, fun x x' y y' hx hx' hy hy' => h.inj x x' y y' hx hx' (hget x y hy).2 (hget x' y' hy').2, fun g => (h.glob g).mono hle hI⟩,
    ⟨hle, Nat.le_refl _, rfl, rfl, rfl, fun _ _ _ => rfl, fun x hx hn => absurd hx hn, fun x hx hn => absurd hx hn, fun i hi hn => .inr ⟨b, hD, by rw [hg]; simp, ?_⟩, Nat.le_refl _, fun x hx hn => ?_, fun x hx h0 => ?_⟩⟩
  · rcases hi with hi | hi
    · exact h.ilt i hi
    · subst hi; exact h.k_lt hD hg
  · show upd G.get b none x = none
    by_cases e : x = b
    · subst e; rw [upd_same]
    · rw [upd_ne _ _ e]; exact h.wf x hx
  · obtain ⟨h1, h2⟩ := hget x y hy
    obtain ⟨g1, g2, o, g3, g4⟩ := h.live x y hx h2
    refine ⟨g1, fun hi => ?_, o, g3, g4.mono hle hI⟩
    rcases hi with hi | hi
    · exact g2 hi
    · exact h1 (h.inj x b y blk hx hD h2 hg hi)
  · rcases hi with hi | hi
    · exact absurd hi hn
    · exact hi.symm
  · exact upd_ne _ _ fun e => hn (e ▸ hD)
  · show upd G.get b none x = none
    by_cases e : x = b
    · subst e; rw [upd_same]
    · rw [upd_ne _ _ e]; exact h0
theorem VR.still {gl : Nat → AV} {B0 : Nat} {L : Lay} {G : Heap} {w : World} (h : Rel gl B0 L G w) {b off len sz : Nat} {x : Bool} {blk : Blk} {g : Nat → List AV} {v : Value} (hv : VR L w (.sl b off len x sz) v) (hg : G.get b = some blk) (hle : off + len * sz ≤ blk.n) (hl : ∀ i, i < len → (g i).length = sz)
    (hf : ∀ (i j : Nat) d, i < len → (g i)[j]? = some d → AVle (blk.f (off + i * sz + j)) d) : VR (L.addI (L.k b)) w (.lst sz len g) v := by
  obtain ⟨cap, rfl, hD, h1, h2, h3, h4⟩ := hv.inv_sl
  obtain ⟨_, _, _, c, e, hc, hs, hcell⟩ := h.cells hD hg
  have ij : ∀ {i j : Nat}, i < len → j < sz → i * sz + j < len * sz := by
    intro i j hi hj
    have : (i + 1) * sz ≤ len * sz := Nat.mul_le_mul_right _ hi
    rw [Nat.add_mul] at this
    omega
  refine .lst sz len g _ ⟨L.k b, off, none⟩ cap (fun i j => (c[off + i * sz + j]?).getD Go.undef) (fun _ => ⟨rfl, .inr rfl⟩) h1 hl (fun i j hi hj => ?_) fun i j d hi hd => ?_
  · obtain ⟨u, k1, k2, k3⟩ := hcell (off + i * sz + j) (by have := ij hi hj; omega)
    rw [add_mk, ← Nat.add_assoc]
    simp [World.cell?, hc, k1, k2]
  · have hj : j < sz := by have := (List.getElem?_eq_some_iff.1 hd).1; rw [hl i hi] at this; exact this
    obtain ⟨u, k1, k2, k3⟩ := hcell (off + i * sz + j) (by have := ij hi hj; omega)
    simp only [k1, Option.getD_some]
    exact (hf i j d hi hd _ _ _ k3).mono (L.le_addI _) fun _ _ => rfl
/-- A list that is handed in, and that nobody writes any more. -/
theorem Ct.frz1 {C : Cx} {f : FuncId} {G : Heap} {R : AV → Heap → Prop} {pre post : List AV} {b off len sz : Nat} {x : Bool} {blk : Blk} {g : Nat → List AV} (hg : G.get b = some blk) (hle : off + len * sz ≤ blk.n) (hl : ∀ i, i < len → (g i).length = sz)
    (hf : ∀ (i j : Nat) d, i < len → (g i)[j]? = some d → AVle (blk.f (off + i * sz + j)) d) (h : Ct C f (pre ++ .lst sz len g :: post) (G.set b none) R) : Ct C f (pre ++ .sl b off len x sz :: post) G R := by
  refine ⟨h.1, fun B0 L w vs hr hvs => ?_⟩
  have hlen : pre.length < vs.toList.length := by rw [← hvs.1]; simp
  have hv : VR L w (.sl b off len x sz) vs.toList[pre.length] := hvs.2 pre.length _ _ (by simp) (List.getElem?_eq_getElem hlen)
  obtain ⟨cap, _, hD, _⟩ := hv.inv_sl
  obtain ⟨r1, r2⟩ := hr.still hD.1 hg
  have hvs' : VRs (L.addI (L.k b)) w (pre ++ .lst sz len g :: post) vs.toList := by
    refine ⟨by rw [← hvs.1]; simp, fun i c v h1 h2 => ?_⟩
    by_cases e : i = pre.length
    · subst e
      rw [List.getElem?_append_right (Nat.le_refl _)] at h1
      simp at h1
      subst h1
      rw [List.getElem?_eq_getElem hlen] at h2
      injection h2 with h2
      subst h2
      exact hv.still hr hg hle hl hf
    · have : (pre ++ AV.sl b off len x sz :: post)[i]? = some c := by
        rw [← h1, List.getElem?_append, List.getElem?_append]
        split
        · rfl
        · rw [List.getElem?_cons, List.getElem?_cons, if_neg (by omega), if_neg (by omega)]
      exact (hvs.2 i c v this h2).mono (L.le_addI _) fun _ _ => rfl
  exact (h.2 B0 _ w vs r1 hvs').mono fun e w' ⟨v, he, L', r, G', hR, f', r', hv'⟩ => ⟨v, he, L', r, G', hR, r2.trans f' hr, r', hv'⟩
/-- What is known of any heap behind a call. -/
theorem Ct.more {C : Cx} {f : FuncId} {args : List AV} {G : Heap} {R : AV → Heap → Prop} (h : Ct C f args G R) : Ct C f args G fun r G' => R r G' ∧ G.next ≤ G'.next ∧ ∀ b blk, G'.get b = some blk → b < G'.next :=
  ⟨h.1, fun B0 L w vs hr hvs => (h.2 B0 L w vs hr hvs).mono fun e w' ⟨v, he, L', r, G', hR, f', r', hv⟩ => ⟨v, he, L', r, G', ⟨hR, f'.next, fun b blk hb => Nat.lt_of_not_le fun hle => by rw [r'.wf b hle] at hb; cases hb⟩, f', r', hv⟩⟩
theorem Runs.wf {F : Fx} {k : List Item} {env : Env} {G : Heap} (h : (∀ b blk, G.get b = some blk → b < G.next) → Runs F k env G) : Runs F k env G :=
  fun B0 L w a b cs hb he hr => h (fun b blk hg => Nat.lt_of_not_le fun hle => by rw [hr.wf b hle] at hg; cases hg) B0 L w a b cs hb he hr
theorem AVle.agg {as bs : List AV} (h : AVles as bs) : AVle (.agg as) (.agg bs) := fun L w v hv => by
  obtain ⟨vs, rfl, hl, hh⟩ := hv.inv_agg
  have := h.vrs (L := L) (w := w) (vs := vs.toList) ⟨by simpa using hl, fun i c v h1 h2 => hh i c v h1 (by simpa using h2)⟩
  exact .agg bs vs (by simpa using this.1) fun i c v h1 h2 => this.2 i c v h1 (by simpa using h2)
section
variable {H : Type} {enc : TypeId × Value → H} {P : Program} {w : World} {spare : Nat → Bool} {held : Bool}

/-- Fields of one cell each, one behind the other. -/
def flat (P : Program) (t : TypeId) (fs : Array Field) : Bool := P.cellsOf t == fs.size && (List.range fs.size).all fun i => match fs[i]? with
  | some f => f.offset == i && P.cellsOf f.type == 1
  | none => false

theorem trod_flat {fuel : Nat} {t : TypeId} {fs : Array Field} {cs : List Value} {x : DataW H × List MemPlace} (ht : P.underlying t = some (.struct fs)) (hf : flat P t fs = true) (h : DataW.trod enc P w 0 spare held fuel t cs = some x) :
    cs.length = fs.size ∧ ∀ (i : Nat) f c, fs[i]? = some f → cs[i]? = some c → ∃ n y, DataW.trod enc P w 0 spare held n f.type [c] = some y := by
  obtain ⟨xs, n, rfl, rfl, hl, hxl, hall⟩ := DataW.trod_struct ht h
  simp only [flat, Bool.and_eq_true, beq_iff_eq] at hf
  obtain ⟨hsz, hfl⟩ := hf
  refine ⟨by omega, fun i f c hi hc => ?_⟩
  have hlt : i < fs.size := (Array.getElem?_eq_some_iff.1 hi).1
  have := List.all_eq_true.1 hfl i (List.mem_range.2 hlt)
  rw [hi] at this
  simp only [Bool.and_eq_true, beq_iff_eq] at this
  have hx := hall i f hi
  rw [this.1, this.2] at hx
  have e1 : (cs.drop i).take 1 = [c] := by
    rw [List.drop_eq_getElem_cons (show i < cs.length by omega)]
    have : cs[i] = c := by rw [List.getElem?_eq_getElem (show i < cs.length by omega)] at hc; injection hc
    simp [this]
  rw [e1] at hx
  exact ⟨n, xs[i]'(by omega), by rw [hx]; exact List.getElem?_eq_getElem _⟩

theorem read_int {fuel : Nat} {t : TypeId} {k : IntKind} {c : Value} {x : DataW H × List MemPlace} (ht : P.underlying t = some (.int k)) (h : DataW.trod enc P w 0 spare held fuel t [c] = some x) : ∃ n, c = .int k n ∧ (Lit.int k n).wf = true := by
  obtain ⟨n, h1, h2, h3⟩ := DataW.trod_int ht h
  injection h1 with h1 _
  exact ⟨n, h1, h3⟩

/-- A slice, element by element. -/
theorem read_slice {fuel : Nat} {t e : TypeId} {c : Value} {x : DataW H × List MemPlace} (ht : P.underlying t = some (.slice e)) (h : DataW.trod enc P w 0 spare held fuel t [c] = some x) {sz : Nat} (hsz : P.cellsOf e = sz) (hpos : 0 < sz) {Q : List AV → Prop}
    (hel : ∀ (n : Nat) (row : List Value) y, row.length = sz → DataW.trod enc P w 0 spare held n e row = some y → ∃ avs, VRs (Lay.all w) w avs row ∧ (∀ v ∈ row, v.oneCell' = true) ∧ Q avs) :
    ∃ (a : Option Addr) (len cap : Nat), c = .slice a len cap ∧ len ≤ 9223372036854775807 ∧ ∃ f : Nat → List AV, (∀ i, i < len → Q (f i)) ∧ VR (Lay.all w) w (.lst sz len f) c := by
  rcases DataW.trod_slice ht h with ⟨h0, _⟩ | ⟨a, len, cap, elems, rest, n, rfl, h0, _, hb, hl, hm, hlen, hall, _, _⟩
  · injection h0 with h0 _
    subst h0
    exact ⟨none, 0, 0, rfl, by omega, fun _ => [], fun i hi => by omega, .lst sz 0 _ none ⟨0, 0, none⟩ 0 (fun _ _ => .nilFunc) (fun h => by omega) (Nat.le_refl _) (fun i h => by omega) (fun i j h => by omega) (fun i j c h => by omega)⟩
  · injection h0 with h0 _
    subst h0
    have each : ∀ i, i < len → ∃ row avs, w.cells? 0 (a.add (i * sz)) sz = some row ∧ VRs (Lay.all w) w avs row ∧ (∀ v ∈ row, v.oneCell' = true) ∧ Q avs := by
      intro i hi
      have := hall i hi
      rw [hsz, List.getElem?_eq_getElem (show i < elems.length by omega), Option.bind_eq_some_iff] at this
      obtain ⟨row, h1, h2⟩ := this
      obtain ⟨avs, h3, h4, h5⟩ := hel n row _ (World.cells?_some h1).2.1 h2
      exact ⟨row, avs, h1, h3, h4, h5⟩
    refine ⟨some a, len, cap, rfl, by simp only [maxLen] at hm; omega, ?_⟩
    let rows : Nat → List Value := fun i => if hi : i < len then (each i hi).choose else []
    let f : Nat → List AV := fun i => if hi : i < len then (each i hi).choose_spec.choose else []
    have hf : ∀ i, i < len → w.cells? 0 (a.add (i * sz)) sz = some (rows i) ∧ VRs (Lay.all w) w (f i) (rows i) ∧ (∀ v ∈ rows i, v.oneCell' = true) ∧ Q (f i) := by
      intro i hi
      simp only [rows, f, dif_pos hi]
      exact (each i hi).choose_spec.choose_spec
    refine ⟨f, fun i hi => (hf i hi).2.2.2, ?_⟩
    have hrl : ∀ i, i < len → (rows i).length = sz := fun i hi => (World.cells?_some (hf i hi).1).2.1
    refine .lst sz len f (some a) a cap (fun i j => (rows i).getD j Go.undef) (fun hp => ⟨rfl, ?_⟩) hl (fun i hi => ?_) (fun i j hi hj => ?_) (fun i j c hi hc => ?_)
    · have h0 := World.cells?_block (hf 0 hp).1 hpos
      rw [add_block] at h0
      exact h0
    · rw [(hf i hi).2.1.1, hrl i hi]
    · obtain ⟨h1, h2, h3, h4⟩ := hf i hi
      have h5 := (World.cells?_some h1).2.2 j hj
      rw [add_add] at h5
      have hlt : j < (rows i).length := by rw [hrl i hi]; exact hj
      have e1 : (rows i).getD j Go.undef = (rows i)[j] := by simp [List.getD_eq_getElem?_getD, hlt]
      rw [e1]
      exact ⟨by rw [h5, List.getElem?_eq_getElem hlt], h3 _ (List.getElem_mem _)⟩
    · obtain ⟨h1, h2, h3, h4⟩ := hf i hi
      have hlt : j < (rows i).length := by rw [← h2.1]; exact (List.getElem?_eq_some_iff.1 hc).1
      have e1 : (rows i).getD j Go.undef = (rows i)[j] := by simp [List.getD_eq_getElem?_getD, hlt]
      rw [e1]
      exact h2.2 j c _ hc (List.getElem?_eq_getElem hlt)

theorem VR.lst_congr {L : Lay} {sz n : Nat} {f g : Nat → List AV} {v : Value} (h : VR L w (.lst sz n f) v) (hg : ∀ i, i < n → f i = g i) : VR L w (.lst sz n g) v := by
  cases h with
  | lst _ _ _ a ad cap vs hp h1 hl hc hv => exact .lst sz n g a ad cap vs hp h1 (fun i hi => by rw [← hg i hi]; exact hl i hi) hc fun i j c hi hj => hv i j c hi (by rw [hg i hi]; exact hj)

abbrev I64 (n : Int) : Prop := -9223372036854775808 ≤ n ∧ n ≤ 9223372036854775807
theorem wf_i64 {n : Int} (h : (Lit.int .i64 n).wf = true) : I64 n := by
  have h' : (decide ((-9223372036854775808 : Int) ≤ n) && decide (n ≤ 9223372036854775807)) = true := h
  simp only [Bool.and_eq_true, decide_eq_true_eq] at h'
  exact h'

/-- A slice of ints. -/
abbrev ints (n : Nat) (z : Nat → Int) : AV := .lst 1 n fun i => [.int .i64 (z i)]
theorem read_ints {fuel : Nat} {t e : TypeId} {c : Value} {x : DataW H × List MemPlace} (ht : P.underlying t = some (.slice e)) (he : P.underlying e = some (.int .i64)) (hsz : P.cellsOf e = 1) (h : DataW.trod enc P w 0 spare held fuel t [c] = some x) :
    ∃ (n : Nat) (z : Nat → Int), VR (Lay.all w) w (ints n z) c ∧ n ≤ 9223372036854775807 ∧ ∀ i, i < n → I64 (z i) := by
  obtain ⟨a, len, cap, rfl, hl, f, hf, hv⟩ := read_slice ht h hsz (by omega) (Q := fun avs => ∃ n, avs = [.int .i64 n] ∧ I64 n) (fun n row y hr hy => by
    obtain ⟨c, rfl⟩ : ∃ c, row = [c] := by
      match row, hr with
      | [c], _ => exact ⟨c, rfl⟩
    obtain ⟨n, rfl, hw⟩ := read_int he hy
    exact ⟨[.int .i64 n], .cons (.int .i64 n) (.nil _ _), fun v hv => by simp at hv; subst hv; rfl, n, rfl, wf_i64 hw⟩)
  refine ⟨len, fun i => if hi : i < len then (hf i hi).choose else 0, hv.lst_congr fun i hi => ?_, hl, fun i hi => ?_⟩
  · simp only [dif_pos hi]; exact (hf i hi).choose_spec.1
  · simp only [dif_pos hi]; exact (hf i hi).choose_spec.2
/-- A slice of pairs of ints. -/
abbrev prs (n : Nat) (u v : Nat → Int) : AV := .lst 2 n fun i => [.int .i64 (u i), .int .i64 (v i)]
theorem read_prs {fuel : Nat} {t e t1 t2 : TypeId} {c : Value} {x : DataW H × List MemPlace} {fs : Array Field} (ht : P.underlying t = some (.slice e)) (he : P.underlying e = some (.struct fs)) (hfl : flat P e fs = true) (hsz : P.cellsOf e = 2)
    (hfs : (fs[0]?).map (·.type) = some t1 ∧ (fs[1]?).map (·.type) = some t2) (h1 : P.underlying t1 = some (.int .i64)) (h2 : P.underlying t2 = some (.int .i64)) (h : DataW.trod enc P w 0 spare held fuel t [c] = some x) :
    ∃ (n : Nat) (u v : Nat → Int), VR (Lay.all w) w (prs n u v) c ∧ n ≤ 9223372036854775807 ∧ ∀ i, i < n → I64 (u i) ∧ I64 (v i) := by
  obtain ⟨f0, hf0, e0⟩ := Option.map_eq_some_iff.1 hfs.1
  obtain ⟨f1, hf1, e1⟩ := Option.map_eq_some_iff.1 hfs.2
  obtain ⟨a, len, cap, rfl, hl, f, hf, hv⟩ := read_slice ht h hsz (by omega) (Q := fun avs => ∃ p q, avs = [.int .i64 p, .int .i64 q] ∧ I64 p ∧ I64 q) (fun n row y hr hy => by
    obtain ⟨c, d, rfl⟩ : ∃ c d, row = [c, d] := by
      match row, hr with
      | [c, d], _ => exact ⟨c, d, rfl⟩
    obtain ⟨_, hall⟩ := trod_flat he hfl hy
    obtain ⟨_, _, k0⟩ := hall 0 f0 c hf0 rfl
    obtain ⟨_, _, k1⟩ := hall 1 f1 d hf1 rfl
    rw [e0] at k0; rw [e1] at k1
    obtain ⟨p, rfl, hp⟩ := read_int h1 k0
    obtain ⟨q, rfl, hq⟩ := read_int h2 k1
    exact ⟨[.int .i64 p, .int .i64 q], .cons (.int .i64 p) (.cons (.int .i64 q) (.nil _ _)), fun v hv => by simp at hv; rcases hv with rfl | rfl <;> rfl, p, q, rfl, wf_i64 hp, wf_i64 hq⟩)
  refine ⟨len, fun i => if hi : i < len then (hf i hi).choose else 0, fun i => if hi : i < len then (hf i hi).choose_spec.choose else 0, hv.lst_congr fun i hi => ?_, hl, fun i hi => ?_⟩
  · simp only [dif_pos hi]; exact (hf i hi).choose_spec.choose_spec.1
  · simp only [dif_pos hi]; exact (hf i hi).choose_spec.choose_spec.2
end
end Go.Fw
