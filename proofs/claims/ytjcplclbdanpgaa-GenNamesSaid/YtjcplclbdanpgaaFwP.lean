/- A region whose order is drawn: the rule. -/
import Derived.Test.YtjcplclbdanpgaaFwO
set_option linter.unusedVariables false
set_option linter.unusedSimpArgs false
namespace Go.Fw
open Go

section
variable {C : Cx} {mb : Nat → Bool} {base N : Nat} {cf : List (Nat × Nat)} {ops : Array Oper} {T : Nat → St} {x : Nat → Bool} {r : Nat → AV} {nt : Nat} {ord : Nat → Nat → Bool}
variable {B0 : Nat} {L0 : Lay} {G0 : Heap} {w0 : World} {S : Nat → Prop} {L : Lay} {w : World} {a : Act}

theorem GS_quiet (h : Tr C mb base N cf ops T x r) {i : Nat} (hn : ¬ New mb ops x i) (c : Nat) : GS mb base N ops T x (fun j => S j ∨ j = i) c = GS mb base N ops T x S c := by
  have : ∀ b, (GS mb base N ops T x (fun j => S j ∨ j = i) c).get b = (GS mb base N ops T x S c).get b := fun b => by
    by_cases hex : ∃ j, c ≤ j ∧ j < N ∧ b = base + j ∧ New mb ops x j ∧ S j
    · obtain ⟨j, h1, h2, rfl, h4, h5⟩ := hex
      rw [GS_yes h1 h2 h4 h5, GS_yes h1 h2 h4 (.inl h5)]
    · rw [GS_no (S := S) fun j h1 h2 h3 h4 h5 => hex ⟨j, h1, h2, h3, h4, h5⟩, GS_no fun j h1 h2 h3 h4 h5 => ?_]
      rcases h5 with h5 | h5
      · exact hex ⟨j, h1, h2, h3, h4, h5⟩
      · subst h5; exact hn h4
  exact congrArg (Heap.mk _) (funext this)

/-- An operation that writes nothing and makes no block that can be written. -/
theorem Inv.quiet (h : Tr C mb base N cf ops T x r) (ho : Ordd ops nt cf ord) (hb : G0.next = base) (v : Inv C mb base N ops T x nt ord B0 L0 G0 w0 S L w a) {i : Nat} {o : Oper} (hi : ops[i]? = some o) (hS : ¬ S i)
    (hready : ∀ e ∈ o.after, Region.binds .any e = true → S e.on) (hn : ¬ New mb ops x i) (he : ¬ Eff ops x i) {L' : Lay} {w' : World} (hle : L.le L') (hD : ∀ b, L'.D b → L.D b) (hI : ∀ i, L.I i → w'.heap[i]? = w.heap[i]?)
    (hrel : ∀ G, Rel C.gl B0 L G w → Fr L0 G0 w0 L G w → Rel C.gl B0 L' G w' ∧ Fr L0 G0 w0 L' G w') {u : Value} (hu : VR L' w' (r i) u) :
    Inv C mb base N ops T x nt ord B0 L0 G0 w0 (fun j => S j ∨ j = i) L' w' (a.put o.dst u) := by
  obtain ⟨c, hcN, hc⟩ := v.ex
  obtain ⟨r1, r2, r3⟩ := v.rel c hcN hc
  obtain ⟨k1, k2⟩ := hrel _ r1 r2
  refine v.step h ho hb hi hS hready hle hI hu (fun j hj => ⟨fun hd => ?_, fun ⟨h1, h2⟩ => ?_⟩) hcN (fun e hE => ⟨fun h1 => .inl ((hc e hE).1 h1), fun h1 => ?_⟩) (by rw [GS_quiet h hn]; exact k1) (by rw [GS_quiet h hn]; exact k2) fun j hj hnj hs => r3 j hj hnj fun h1 => hs (.inl h1)
  · have := (v.dom j hj).1 (hD _ hd)
    exact ⟨.inl this.1, this.2⟩
  · rcases h1 with h1 | h1
    · exact hle.D _ ((v.dom j hj).2 ⟨h1, h2⟩)
    · subst h1; exact (hn h2).elim
  · rcases h1 with h1 | h1
    · exact (hc e hE).2 h1
    · subst h1; exact (he hE).elim

theorem Inv.op (h : Tr C mb base N cf ops T x r) (ho : Ordd ops nt cf ord) (hb : G0.next = base) (hr0 : Rel C.gl B0 L0 G0 w0) (v : Inv C mb base N ops T x nt ord B0 L0 G0 w0 S L w a) {i : Nat} {o : Oper} (hi : ops[i]? = some o) (hS : ¬ S i)
    (hready : ∀ e ∈ o.after, Region.binds .any e = true → S e.on) (hx : x i = true) :
    OpRes C.P o a w fun u w' => ∃ L', Inv C mb base N ops T x nt ord B0 L0 G0 w0 (fun j => S j ∨ j = i) L' w' (a.put o.dst u) := by
  have hiN : i < N := by rw [← h.size]; exact (Array.getElem?_eq_some_iff.1 hi).1
  have hρ := v.rho h ho hi hS hready
  have hy := (h.step i o hi).yes hx
  obtain ⟨c, hcN, hc⟩ := v.ex
  obtain ⟨r1, r2, r3⟩ := v.rel c hcN hc
  have hnn : isNew mb o = false → ¬ New mb ops x i := fun hn ⟨_, o', h1, h2⟩ => by
    rw [hi] at h1; injection h1 with h1; subst h1; rw [hn] at h2; cases h2
  have hne : isEff o = false → ¬ Eff ops x i := fun hn ⟨_, o', h1, h2⟩ => by
    rw [hi] at h1; injection h1 with h1; subst h1; rw [hn] at h2; cases h2
  generalize hH' : (T (i + 1)).H = H' at hy
  generalize (T (i + 1)).acc = acc' at hy
  generalize hri : r i = ri at hy
  cases hy with
  | pur _ he hn hl hok hh =>
    obtain ⟨u, r', k1, k2, k3⟩ := pure_sound r1 hρ hok (pureK_heap (G' := GS mb base N ops T x S c) hl (hh (fun y => y = ri) rfl))
    subst k3
    unfold OpRes
    rw [k1]
    exact ⟨L, v.quiet h ho hb hi hS hready (hnn hn) (hne he) (.refl L) (fun _ h => h) (fun _ _ => rfl) (fun G g1 g2 => ⟨g1, g2⟩) (by rw [hri]; exact k2)⟩
  | imm _ he hn hl hh =>
    obtain ⟨cc, e, u, r', k1, k2, k3⟩ := imm_sound r1.ilt hρ (hh (fun y => y = ri) rfl)
    subst k2
    unfold OpRes
    rw [k1]
    refine ⟨L.addI w.heap.size, v.quiet h ho hb hi hS hready (hnn hn) (hne he) (L.le_addI _) (fun _ h => h) (fun j hj => alloc_old w _ (r1.ilt j hj)) (fun G g1 g2 => ?_) (by rw [hri]; exact k3)⟩
    have := g1.addImm (.cells cc e)
    exact ⟨this.1, g2.trans this.2 hr0⟩
  | ld _ t y ti he hn hl hop ht cs hr' hm hld =>
    have key := v.load h ho hi hS hready hx hop ht rfl (hρ y (by rw [hop]; simp [Op.operands])) hld hr' hcN hc
    have hpk : pureK C (GS mb base N ops T x S c) (C.ev (T i).env) o.op (fun y => y = ri) := by
      rw [hop]
      simp only [pureK, ht]
      exact key _ (hm _ rfl)
    obtain ⟨u, r', k1, k2, k3⟩ := pure_sound r1 hρ (by rw [hop]; trivial) hpk
    subst k3
    unfold OpRes
    rw [k1]
    exact ⟨L, v.quiet h ho hb hi hS hready (hnn hn) (hne he) (.refl L) (fun _ h => h) (fun _ _ => rfl) (fun G g1 g2 => ⟨g1, g2⟩) (by rw [hri]; exact k2)⟩
  | new mk b he hn hl hh =>
    obtain ⟨mkr, blk, cc, e, u, k1, ⟨k2, k2'⟩, k3, k4, k5⟩ := new_sound hρ (hh (fun m b' => m = mk ∧ b' = b) ⟨rfl, rfl⟩)
    subst k2; subst k2'
    have hNew : New mb ops x i := ⟨hx, o, hi, hn⟩
    have hid : ¬ L.D (base + i) := fun hd => hS ((v.dom i hiN).1 hd).1
    have hnext : base + N ≤ (GS mb base N ops T x S c).next := h.next c hcN
    have hG2 : (⟨(GS mb base N ops T x S c).next, upd (GS mb base N ops T x S c).get (base + i) (some blk)⟩ : Heap) = GS mb base N ops T x (fun j => S j ∨ j = i) c := by
      refine congrArg (Heap.mk _) (funext fun b' => ?_)
      show _ = (GS mb base N ops T x (fun j => S j ∨ j = i) c).get b'
      by_cases hb' : b' = base + i
      · subst hb'
        have hlast : (T (i + 1)).H.get (base + i) = some blk := by rw [hH']; exact upd_same _ _ _
        rw [upd_same]
        rcases Nat.lt_or_ge i c with h1 | h1
        · rw [GS_no fun j q1 q2 q3 => by omega, r3 i h1 hNew hS, hlast]
        · rw [GS_yes h1 hiN hNew (.inr rfl), hlast]
      · rw [upd_ne _ _ hb']
        by_cases hex : ∃ j, c ≤ j ∧ j < N ∧ b' = base + j ∧ New mb ops x j ∧ S j
        · obtain ⟨j, h1, h2, rfl, h4, h5⟩ := hex
          rw [GS_yes h1 h2 h4 h5, GS_yes h1 h2 h4 (.inl h5)]
        · rw [GS_no (S := S) fun j h1 h2 h3 h4 h5 => hex ⟨j, h1, h2, h3, h4, h5⟩, GS_no fun j h1 h2 h3 h4 h5 => ?_]
          rcases h5 with h5 | h5
          · exact hex ⟨j, h1, h2, h3, h4, h5⟩
          · subst h5; exact hb' h3
    have hrel := (r1.kill (base + i)).addNew (nx := (GS mb base N ops T x S c).next) (e := e) hid (upd_same _ _ _) (Nat.le_refl _) (by omega) k3 k4
    have hupd : upd ((GS mb base N ops T x S c).set (base + i) none).get (base + i) (some blk) = upd (GS mb base N ops T x S c).get (base + i) (some blk) := funext fun b' => by
      simp only [Heap.set, upd_apply]
      split <;> rfl
    rw [hupd, hG2] at hrel
    have hfr := r2.addNew (id := base + i) (n := cc.size) (o := .cells cc e) (ob := some blk) hid (by omega)
    rw [hG2] at hfr
    unfold OpRes
    rw [k1]
    refine ⟨L.addD (base + i) w.heap.size cc.size, v.step h ho hb hi hS hready (L.le_addD _ _ _ hid) (fun j hj => alloc_old w _ (r1.ilt j hj)) (by rw [hri]; exact k5 _ _ _ (Lay.addD_DC _ _ _ _) (upd_same _ _ _) (upd_same _ _ _)) (fun j hj => ⟨fun hd => ?_, fun ⟨h1, h2⟩ => ?_⟩) hcN
      (fun e' hE => ⟨fun h1 => .inl ((hc e' hE).1 h1), fun h1 => ?_⟩) hrel hfr fun j hj hnj hs => r3 j hj hnj fun h1 => hs (.inl h1)⟩
    · rcases hd with hd | hd
      · have := (v.dom j hj).1 hd
        exact ⟨.inl this.1, this.2⟩
      · have : j = i := by omega
        subst this
        exact ⟨.inr rfl, hNew⟩
    · rcases h1 with h1 | h1
      · exact .inl ((v.dom j hj).2 ⟨h1, h2⟩)
      · subst h1; exact .inr rfl
    · rcases h1 with h1 | h1
      · exact (hc e' hE).2 h1
      · subst h1; exact (hne he hE).elim
  | eff _ _ he hn hl hh hcc hk =>
    have hEff : Eff ops x i := ⟨hx, o, hi, he⟩
    have hci : Cut ops x S i := fun e hE => by
      obtain ⟨hxe, oe, hoe, hee⟩ := hE
      constructor
      · intro h1
        exact v.pre ho hi hready (ho.eff i e o oe hi hoe h1 he hee)
      · intro h1
        rcases Nat.lt_or_ge e i with h2 | h2
        · exact h2
        · rcases Nat.eq_or_lt_of_le h2 with h3 | h3
          · subst h3; exact (hS h1).elim
          · have := v.nots hS h1
            rw [ho.eff e i oe o hoe hi h3 hee he] at this
            cases this
    obtain ⟨s1, s2, s3⟩ := v.rel i (by omega) hci
    have hsub : ∀ b blk, (T i).H.get b = some blk → (GS mb base N ops T x S i).get b = some blk := fun b blk hb' => by
      rw [GS_no fun j q1 q2 q3 _ _ => ?_, hb']
      rw [q3, h.free i (by omega) j q1 q2] at hb'
      cases hb'
    have hr1 : Rel C.gl B0 L (T i).H w := s1.hide (fun b blk _ hg => hsub b blk hg) (Nat.le_refl _) fun b hb' => by
      cases hg : (T i).H.get b with
      | none => rfl
      | some blk => rw [← hsub b blk hg]; exact s1.wf b hb'
    have hst := step_sound hr1 hρ (hh (fun r' G' => r' = ri ∧ G' = H') ⟨rfl, rfl⟩)
    have fin : ∀ u w', Post C B0 L (T i).H w (fun r' G' => r' = ri ∧ G' = H') u w' → ∃ L', Inv C mb base N ops T x nt ord B0 L0 G0 w0 (fun j => S j ∨ j = i) L' w' (a.put o.dst u) := by
      intro u w' ⟨L', r', G', ⟨e1, e2⟩, f1, f2, f3⟩
      subst e1; subst e2
      obtain ⟨g1, g2⟩ := f1.frame s1 hsub rfl f2
      have hne' := hnn hn
      have hover : Heap.over G' (T i).H (GS mb base N ops T x S i) = GS mb base N ops T x (fun j => S j ∨ j = i) (i + 1) := by
        have hnx : (T (i + 1)).H.next = G'.next := by rw [hH']
        unfold Heap.over
        refine Eq.trans ?_ (show Heap.mk (T (i + 1)).H.next (GS mb base N ops T x (fun j => S j ∨ j = i) (i + 1)).get = _ from rfl)
        rw [hnx]
        refine congrArg (Heap.mk _) (funext fun b => ?_)
        by_cases hex : ∃ j, i ≤ j ∧ j < N ∧ b = base + j ∧ New mb ops x j ∧ S j
        · obtain ⟨j, h1, h2, rfl, h4, h5⟩ := hex
          have hji : j ≠ i := fun e => hS (e ▸ h5)
          rw [GS_yes (show i + 1 ≤ j by omega) h2 h4 (.inl h5), h.free i (by omega) j h1 h2]
          simp only
          have := h.next i (by omega)
          rw [if_pos (by omega), GS_yes h1 h2 h4 h5]
        · rw [GS_no (S := fun j => S j ∨ j = i) fun j h1 h2 h3 h4 h5 => ?_, hH']
          · cases hg : (T i).H.get b with
            | some y => rfl
            | none =>
              simp only
              split
              · rename_i hlt
                rw [GS_no fun j h1 h2 h3 h4 h5 => hex ⟨j, h1, h2, h3, h4, h5⟩, hg, f1.dead b hlt hg]
              · rfl
          · rcases h5 with h5 | h5
            · exact hex ⟨j, by omega, h2, h3, h4, h5⟩
            · omega
      rw [hover] at g1 g2
      refine ⟨L', v.step h ho hb hi hS hready f1.le (f1.imm hr1) (by rw [hri]; exact f3) (fun j hj => ⟨fun hd => ?_, fun ⟨h1, h2⟩ => ?_⟩) (c := i + 1) (by omega) (fun e hE => ⟨fun h1 => ?_, fun h1 => ?_⟩) g2 (s2.trans g1 hr0) fun j hj hnj hs => ?_⟩
      · by_cases hD : L.D (base + j)
        · have := (v.dom j hj).1 hD
          exact ⟨.inl this.1, this.2⟩
        · have := f1.newD _ hd hD
          have := h.next i (by omega)
          omega
      · rcases h1 with h1 | h1
        · exact f1.le.D _ ((v.dom j hj).2 ⟨h1, h2⟩)
        · subst h1; exact (hne' h2).elim
      · rcases Nat.lt_or_ge e i with h2 | h2
        · exact .inl ((hci e hE).1 h2)
        · exact .inr (by omega)
      · rcases h1 with h1 | h1
        · have := (hci e hE).2 h1; omega
        · omega
      · have hji : j < i := by
          rcases Nat.lt_or_ge j i with h2 | h2
          · exact h2
          · exact (hs (.inr (by omega))).elim
        have hnd : ¬ L.D (base + j) := fun hd => hs (.inl ((v.dom j (by omega)).1 hd).1)
        have := h.next i (by omega)
        rw [hH', f1.old _ (by omega) hnd]
        exact s3 j hji hnj fun h1 => hs (.inl h1)
    unfold OpRes at hst ⊢
    generalize (execOp a.eval o).run C.P w = res at hst ⊢
    cases res with
    | ok n w1 =>
      cases n <;> simp only at hst ⊢
      case value u => exact fin _ _ hst
      case skip => exact fin _ _ hst
      case enter f args => exact hst.mono fun e w'' ⟨u, h1, h2⟩ => ⟨u, h1, fin _ _ h2⟩
    | halt y w1 => exact hst

theorem Inv.no (h : Tr C mb base N cf ops T x r) (ho : Ordd ops nt cf ord) (hb : G0.next = base) (v : Inv C mb base N ops T x nt ord B0 L0 G0 w0 S L w a) {i : Nat} {o : Oper} (hi : ops[i]? = some o) (hS : ¬ S i)
    (hready : ∀ e ∈ o.after, Region.binds .any e = true → S e.on) (hx : x i = false) : Inv C mb base N ops T x nt ord B0 L0 G0 w0 (fun j => S j ∨ j = i) L w (a.put o.dst undef) :=
  v.quiet h ho hb hi hS hready (fun hn => by have := hn.1; rw [hx] at this; cases this) (fun hn => by have := hn.1; rw [hx] at this; cases this) (.refl L) (fun _ h => h) (fun _ _ => rfl) (fun G g1 g2 => ⟨g1, g2⟩)
    (by rw [((h.step i o hi).no hx).1]; exact .undef _)

theorem any_sound (h : Tr C mb base N cf ops T x r) (ho : Ordd ops nt cf ord) (hb : G0.next = base) (hr0 : Rel C.gl B0 L0 G0 w0) {Q : Exit → Act → World → Prop}
    (hQ : ∀ L w a, Fr L0 G0 w0 L (T N).H w → Rel C.gl B0 L (T N).H w → ER L w nt (T N).env a → Q .normal a w) :
    ∀ (fuel : Nat) (listed : Array Bool), listed.size = N → listed.toList.countP (fun b => !b) ≤ fuel → ∀ L w a, Inv C mb base N ops T x nt ord B0 L0 G0 w0 (fun j => listed.getD j false = true) L w a → wpAny C.P .any ops Q fuel listed a w := by
  have done : ∀ (listed : Array Bool), listed.size = N → Region.ready .any ops listed = [] → ∀ L w a, Inv C mb base N ops T x nt ord B0 L0 G0 w0 (fun j => listed.getD j false = true) L w a → Q .normal a w := by
    intro listed hs hr L w a v
    have hall : ∀ k, k ≤ N → ∀ j, j < k → listed.getD j false = true := by
      intro k
      induction k with
      | zero => intro _ j hj; omega
      | succ k ih =>
        intro hk j hj
        rcases Nat.lt_or_ge j k with h1 | h1
        · exact ih (by omega) j h1
        · have : j = k := by omega
          subst this
          cases hx : listed.getD j false with
          | true => rfl
          | false =>
            obtain ⟨o, hoj⟩ := h.at (show j < N from hk)
            have : j ∈ Region.ready .any ops listed := mem_ready.2 ⟨?_, o, hoj, fun e he hbd => ih (by omega) _ (ho.back j o hoj e he hbd)⟩
            · rw [hr] at this; cases this
            · have hlt : j < listed.size := by omega
              simp [hlt] at hx ⊢
              exact hx
    obtain ⟨c, hcN, hc⟩ := v.ex
    have hcutN : Cut ops x (fun j => listed.getD j false = true) N := fun e hE => ⟨fun h1 => hall N (Nat.le_refl _) e h1, fun h1 => v.lt e h1⟩
    obtain ⟨r1, r2, _⟩ := v.rel N (Nat.le_refl _) hcutN
    have hGS : GS mb base N ops T x (fun j => listed.getD j false = true) N = (T N).H := by
      have : ∀ b, (GS mb base N ops T x (fun j => listed.getD j false = true) N).get b = (T N).H.get b := fun b => GS_no fun j h1 h2 _ _ _ => by omega
      exact congrArg (Heap.mk _) (funext this)
    rw [hGS] at r1 r2
    exact hQ L w a r2 r1 ⟨v.size, fun t ht => v.tm t ht N (Nat.le_refl _) (fun k o h1 _ _ => hall N (Nat.le_refl _) k h1) fun k o h1 h2 _ _ => by
      have := (Array.getElem?_eq_some_iff.1 h2).1
      rw [h.size] at this; omega, v.defers⟩
  intro fuel
  induction fuel with
  | zero =>
    intro listed hs hc L w a v
    have hr : Region.ready .any ops listed = [] := by
      cases hrd : Region.ready .any ops listed with
      | nil => rfl
      | cons i l =>
        have hi : i ∈ Region.ready .any ops listed := by rw [hrd]; exact List.mem_cons_self
        obtain ⟨h1, o, h2, _⟩ := mem_ready.1 hi
        have hlt : i < listed.size := by rw [hs, ← h.size]; exact (Array.getElem?_eq_some_iff.1 h2).1
        have h3 : listed[i] = false := by simpa [hlt] using h1
        have : 0 < listed.toList.countP (fun b => !b) := List.countP_pos_iff.2 ⟨listed[i], by simp, by rw [h3]; rfl⟩
        omega
    exact ⟨hr, done listed hs hr L w a v⟩
  | succ fuel ih =>
    intro listed hs hc L w a v
    refine ⟨fun hr => done listed hs hr L w a v, fun i hi => ?_⟩
    obtain ⟨h1, o, h2, h3⟩ := mem_ready.1 hi
    have hlt : i < listed.size := by rw [hs, ← h.size]; exact (Array.getElem?_eq_some_iff.1 h2).1
    have h4 : listed[i] = false := by simpa [hlt] using h1
    have hS : ¬ listed.getD i false = true := by simp [hlt, h4]
    have hset : (fun j => (listed.setIfInBounds i true).getD j false = true) = fun j => listed.getD j false = true ∨ j = i := by
      funext j
      refine propext ?_
      by_cases hj : j = i
      · subst hj; simp [hlt]
      · simp [Array.getElem?_setIfInBounds_ne (Ne.symm hj), hj]
    have hcnt : (listed.setIfInBounds i true).toList.countP (fun b => !b) ≤ fuel := by
      rw [Array.toList_setIfInBounds, List.countP_set (by simpa using hlt)]
      have e1 : (!(listed.toList[i]'(by simpa using hlt))) = true := by simp [h4]
      rw [e1]
      simp only [if_true, Bool.not_true, Bool.false_eq_true, if_false]
      omega
    have next : ∀ L w a, Inv C mb base N ops T x nt ord B0 L0 G0 w0 (fun j => listed.getD j false = true ∨ j = i) L w a → wpAny C.P .any ops Q fuel (listed.setIfInBounds i true) a w := fun L w a v' => by
      rw [← hset] at v'
      exact ih _ (by simpa using hs) hcnt L w a v'
    unfold wpOp
    rw [h2]
    simp only
    have hw := v.wanted h ho h2 hS h3
    cases hx : x i with
    | false =>
      rw [if_neg (by rw [hw, hx]; simp)]
      exact next L w _ (v.no h ho hb h2 hS h3 hx)
    | true =>
      rw [if_pos (by rw [hw, hx])]
      exact .inl ((v.op h ho hb hr0 h2 hS h3 hx).wp fun u w' ⟨L', v'⟩ => next L' w' _ v')
end
end Go.Fw
