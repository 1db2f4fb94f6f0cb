/- A region whose order is drawn, end of it. -/
import Derived.Test.YtjcplclbdanpgaaFwN
set_option linter.unusedVariables false
set_option linter.unusedSimpArgs false
namespace Go.Fw
open Go

theorem pureK_heap {C : Cx} {G G' : Heap} {ρ : Operand → AV} {o : Oper} {K : AV → Prop} (hl : isLd o = false) (h : pureK C G ρ o.op K) : pureK C G' ρ o.op K := by
  obtain ⟨dst, op, ty, pos, af, gd⟩ := o
  cases op <;> first | exact h | (simp [isLd] at hl)

section
variable {C : Cx} {mb : Nat → Bool} {base N : Nat} {cf : List (Nat × Nat)} {ops : Array Oper} {T : Nat → St} {x : Nat → Bool} {r : Nat → AV} {nt : Nat} {ord : Nat → Nat → Bool}
variable {B0 : Nat} {L0 : Lay} {G0 : Heap} {w0 : World}

/-- What holds when the operations of 'S' have been run. -/
structure Inv (C : Cx) (mb : Nat → Bool) (base N : Nat) (ops : Array Oper) (T : Nat → St) (x : Nat → Bool) (nt : Nat) (ord : Nat → Nat → Bool) (B0 : Nat) (L0 : Lay) (G0 : Heap) (w0 : World) (S : Nat → Prop) (L : Lay) (w : World) (a : Act) : Prop where
  closed : ∀ i, S i → ∀ j, ord i j = true → S j
  lt : ∀ i, S i → i < N
  dom : ∀ j, j < N → (L.D (base + j) ↔ S j ∧ New mb ops x j)
  ex : ∃ c, c ≤ N ∧ Cut ops x S c
  rel : ∀ c, c ≤ N → Cut ops x S c → Rel C.gl B0 L (GS mb base N ops T x S c) w ∧ Fr L0 G0 w0 L (GS mb base N ops T x S c) w ∧ ∀ j, j < c → New mb ops x j → ¬ S j → (T c).H.get (base + j) = (T (j + 1)).H.get (base + j)
  size : a.tmps.size = nt
  defers : a.defers = []
  tm : ∀ t, t < nt → ∀ i, i ≤ N → (∀ k o, k < i → ops[k]? = some o → o.dst = some t → S k) → (∀ k o, i ≤ k → ops[k]? = some o → o.dst = some t → ¬ S k) → VR L w ((T i).env t) (a.tmps.getD t undef)

theorem rel_one (h : Tr C mb base N cf ops T x r) (hb : G0.next = base) {S : Nat → Prop} {L : Lay} {w : World} (hdom : ∀ j, j < N → (L.D (base + j) ↔ S j ∧ New mb ops x j)) {c : Nat} (hcN : c ≤ N) (hc : Cut ops x S c)
    (hr : Rel C.gl B0 L (GS mb base N ops T x S c) w) (hf : Fr L0 G0 w0 L (GS mb base N ops T x S c) w) (hl : ∀ j, j < c → New mb ops x j → ¬ S j → (T c).H.get (base + j) = (T (j + 1)).H.get (base + j)) :
    ∀ c', c' ≤ N → Cut ops x S c' → Rel C.gl B0 L (GS mb base N ops T x S c') w ∧ Fr L0 G0 w0 L (GS mb base N ops T x S c') w ∧ ∀ j, j < c' → New mb ops x j → ¬ S j → (T c').H.get (base + j) = (T (j + 1)).H.get (base + j) := by
  intro c' hcN' hc'
  have heq : (GS mb base N ops T x S c').next = (GS mb base N ops T x S c).next ∧ ∀ b, (∀ j, j < N → New mb ops x j → b = base + j → S j) → (GS mb base N ops T x S c').get b = (GS mb base N ops T x S c).get b := by
    rcases Nat.le_total c c' with hle | hle
    · obtain ⟨h1, h2⟩ := h.gsEq hc hc' hle hcN'
      exact ⟨h1.symm, fun b hb => (h2 b hb).symm⟩
    · exact h.gsEq hc' hc hle hcN
  refine ⟨hr.hide (fun b blk hD hg => ?_) (by rw [heq.1]; exact Nat.le_refl _) (fun b hb' => ?_), hf.heapTo heq.1 fun b hb' => heq.2 b fun j _ _ e => by omega, fun j hj hn hS => ?_⟩
  · rw [← heq.2 b fun j hj hn e => by subst e; exact ((hdom j hj).1 hD).1]; exact hg
  · rw [heq.1] at hb'
    have hbN : base + N ≤ (GS mb base N ops T x S c).next := h.next c hcN
    rw [heq.2 b fun j hj _ e => by omega]
    exact hr.wf b hb'
  · rcases Nat.le_total c c' with hle | hle
    · have hE := hc.none hc'
      rcases Nat.lt_or_ge j c with hlt | hge
      · rw [(h.between (c := c) (b := base + j) c' hle hcN' hE fun j' k1 k2 _ => by omega).1]
        exact hl j hlt hn hS
      · exact (h.between (c := j + 1) (b := base + j) c' hj hcN' (fun e he ⟨k1, k2⟩ => hE e he ⟨by omega, k2⟩) fun j' k1 k2 _ => by omega).1
    · have hE := hc'.none hc
      rw [← (h.between (c := c') (b := base + j) c hle hcN hE fun j' k1 k2 _ => by omega).1]
      exact hl j (by omega) hn hS

/-- One more operation has been run. -/
theorem Inv.step (h : Tr C mb base N cf ops T x r) (ho : Ordd ops nt cf ord) (hb : G0.next = base) {S : Nat → Prop} {L L' : Lay} {w w' : World} {a : Act} (v : Inv C mb base N ops T x nt ord B0 L0 G0 w0 S L w a) {i : Nat} {o : Oper} (hi : ops[i]? = some o) (hS : ¬ S i)
    (hready : ∀ e ∈ o.after, Region.binds .any e = true → S e.on) (hle : L.le L') (hI : ∀ i, L.I i → w'.heap[i]? = w.heap[i]?) {u : Value} (hu : VR L' w' (r i) u)
    (hdom : ∀ j, j < N → (L'.D (base + j) ↔ (S j ∨ j = i) ∧ New mb ops x j)) {c : Nat} (hcN : c ≤ N) (hc : Cut ops x (fun j => S j ∨ j = i) c)
    (hr : Rel C.gl B0 L' (GS mb base N ops T x (fun j => S j ∨ j = i) c) w') (hf : Fr L0 G0 w0 L' (GS mb base N ops T x (fun j => S j ∨ j = i) c) w') (hl : ∀ j, j < c → New mb ops x j → ¬ (S j ∨ j = i) → (T c).H.get (base + j) = (T (j + 1)).H.get (base + j)) :
    Inv C mb base N ops T x nt ord B0 L0 G0 w0 (fun j => S j ∨ j = i) L' w' (a.put o.dst u) where
  closed k hk j hj := by
    rcases hk with hk | hk
    · exact .inl (v.closed k hk j hj)
    · subst hk
      obtain ⟨e, h1, h2, h3⟩ := ho.edge k o j hi hj
      rcases h3 with h3 | h3
      · subst h3; exact .inl (hready e h1 h2)
      · exact .inl (v.closed _ (hready e h1 h2) j h3)
  lt k hk := by
    rcases hk with hk | hk
    · exact v.lt k hk
    · subst hk; rw [← h.size]; exact (Array.getElem?_eq_some_iff.1 hi).1
  dom := hdom
  ex := ⟨c, hcN, hc⟩
  rel := rel_one h hb hdom hcN hc hr hf hl
  size := by rw [put_size]; exact v.size
  defers := by rw [put_defers]; exact v.defers
  tm t ht m hm hin hout := by
    have hiN : i < N := by rw [← h.size]; exact (Array.getElem?_eq_some_iff.1 hi).1
    by_cases hd : o.dst = some t
    · have him : i < m := by
        rcases Nat.lt_or_ge i m with h1 | h1
        · exact h1
        · exact (hout i o h1 hi hd (.inr rfl)).elim
      have henv : (T m).env t = r i := by
        rw [h.envConst (i := i + 1) m him hm fun k ok h1 h2 hk hkd => ?_, (h.step i o hi).env, hd]
        · exact upd_same _ _ _
        · rcases hin k ok h2 hk hkd with h3 | h3
          · refine hS (v.closed k h3 i (ho.tmp k i ok o t hk hi (by omega) (.inr ⟨hkd, ?_⟩)))
            unfold nm; rw [hd]; simp
          · omega
      rw [henv, hd]
      have : (a.put (some t) u).tmps.getD t undef = u := by simp [Act.put, v.size, ht]
      rw [this]; exact hu
    · have hput : (a.put o.dst u).tmps.getD t undef = a.tmps.getD t undef := by
        cases hdst : o.dst with
        | none => rfl
        | some d =>
          have : d ≠ t := fun e => hd (by rw [hdst, e])
          simp [Act.put, Array.getElem?_setIfInBounds_ne this]
      rw [hput]
      refine (v.tm t ht m hm (fun k ok h1 h2 h3 => ?_) fun k ok h1 h2 h3 h4 => hout k ok h1 h2 h3 (.inl h4)).mono hle hI
      rcases hin k ok h1 h2 h3 with h4 | h4
      · exact h4
      · subst h4; rw [hi] at h2; injection h2 with h2; subst h2; exact (hd h3).elim

variable {S : Nat → Prop} {L : Lay} {w : World} {a : Act}

theorem Inv.pre (ho : Ordd ops nt cf ord) (v : Inv C mb base N ops T x nt ord B0 L0 G0 w0 S L w a) {i : Nat} {o : Oper} (hi : ops[i]? = some o) (hready : ∀ e ∈ o.after, Region.binds .any e = true → S e.on) {j : Nat} (hj : ord i j = true) : S j := by
  obtain ⟨e, h1, h2, h3⟩ := ho.edge i o j hi hj
  rcases h3 with h3 | h3
  · subst h3; exact hready e h1 h2
  · exact v.closed _ (hready e h1 h2) j h3
theorem Inv.nots (v : Inv C mb base N ops T x nt ord B0 L0 G0 w0 S L w a) {i k : Nat} (hS : ¬ S i) (hk : S k) : ord k i = false := by
  cases hx : ord k i with
  | false => rfl
  | true => exact (hS (v.closed k hk i hx)).elim

theorem Inv.named (h : Tr C mb base N cf ops T x r) (ho : Ordd ops nt cf ord) (v : Inv C mb base N ops T x nt ord B0 L0 G0 w0 S L w a) {i : Nat} {o : Oper} (hi : ops[i]? = some o) (hS : ¬ S i) (hready : ∀ e ∈ o.after, Region.binds .any e = true → S e.on)
    {t : Nat} (ht : t < nt) (hn : nm ops o t = true) : VR L w ((T i).env t) (a.tmps.getD t undef) := by
  have hiN : i < N := by rw [← h.size]; exact (Array.getElem?_eq_some_iff.1 hi).1
  refine v.tm t ht i (by omega) (fun k ok h1 h2 h3 => v.pre ho hi hready (ho.tmp i k o ok t hi h2 h1 (.inl ⟨h3, hn⟩))) fun k ok h1 h2 h3 h4 => ?_
  rcases Nat.eq_or_lt_of_le h1 with e | hlt
  · subst e; exact hS h4
  · have := v.nots hS h4
    rw [ho.tmp k i ok o t h2 hi hlt (.inr ⟨h3, hn⟩)] at this
    cases this

theorem Inv.rho (h : Tr C mb base N cf ops T x r) (ho : Ordd ops nt cf ord) (v : Inv C mb base N ops T x nt ord B0 L0 G0 w0 S L w a) {i : Nat} {o : Oper} (hi : ops[i]? = some o) (hS : ¬ S i) (hready : ∀ e ∈ o.after, Region.binds .any e = true → S e.on) :
    ∀ y ∈ o.op.operands.toList, VR L w (C.ev (T i).env y) (a.eval y) := by
  intro y hy
  have hok := ho.opk i o hi
  simp only [opOk, Bool.and_eq_true] at hok
  have hin := List.all_eq_true.1 hok.1.1 y hy
  cases y with
  | tmp t =>
    refine v.named h ho hi hS hready (by simpa [inT] using hin) ?_
    unfold nm
    have : o.op.operands.any (isT t) = true := Array.any_eq_true'.2 ⟨.tmp t, Array.mem_toList_iff.1 hy, by simp [isT]⟩
    rw [this]; simp
  | const c => exact cst_vr L w c
  | global g =>
    obtain ⟨c, h1, h2⟩ := v.ex
    exact (v.rel c h1 h2).1.glob g
  | func f => exact .fn f [] [] #[] #[] rfl rfl (fun i c v e => by simp at e) (fun i c v e => by simp at e)

theorem Inv.wanted (h : Tr C mb base N cf ops T x r) (ho : Ordd ops nt cf ord) (v : Inv C mb base N ops T x nt ord B0 L0 G0 w0 S L w a) {i : Nat} {o : Oper} (hi : ops[i]? = some o) (hS : ¬ S i) (hready : ∀ e ∈ o.after, Region.binds .any e = true → S e.on) :
    Region.wanted o (yielded ops a.tmps) = x i := by
  have hw := (h.step i o hi).want
  have hok := ho.opk i o hi
  simp only [opOk, Bool.and_eq_true] at hok
  have hg := hok.2
  unfold wantF at hw
  unfold guardOk at hg
  unfold Region.wanted
  cases hgd : o.guard with
  | none => rw [hgd] at hw; exact hw.symm
  | some q =>
    obtain ⟨j, want⟩ := q
    rw [hgd] at hw hg
    simp only at hw hg ⊢
    obtain ⟨d, b, h1, h2, h3⟩ := hw
    rw [h1] at hg
    simp only [decide_eq_true_eq] at hg
    have e1 := v.named h ho hi hS hready hg (by unfold nm; rw [hgd]; simp [h1])
    rw [h2] at e1
    have e2 := e1.inv_bool
    have hlt : d < a.tmps.size := by rw [v.size]; exact hg
    have e3 : a.tmps[d]? = some (.bool b) := by
      simp only [Array.getD_eq_getD_getElem?, Array.getElem?_eq_getElem hlt, Option.getD_some] at e2
      rw [Array.getElem?_eq_getElem hlt, e2]
    have e4 : yielded ops a.tmps j = some b := by
      unfold yielded
      rw [h1]
      simp only [Option.bind_some, e3]
    rw [e4, h3]
    cases b <;> cases want <;> rfl

theorem rd_get {H H' : Heap} {b off sz : Nat} {cs : List AV} (he : H.get b = H'.get b) (h : ∀ K : List AV → Prop, K cs → rdK H (.ptr b off) sz K) : ∀ K : List AV → Prop, K cs → rdK H' (.ptr b off) sz K := fun K k => by
  have := h K k
  simp only [rdK] at this ⊢
  rw [he] at this
  exact this
theorem rd_some {H : Heap} {b off sz : Nat} {cs : List AV} (h : ∀ K : List AV → Prop, K cs → rdK H (.ptr b off) sz K) : H.get b ≠ none := fun e => by
  have := h (fun _ => True) trivial
  simp only [rdK] at this
  rw [e] at this
  exact this

theorem Inv.load (h : Tr C mb base N cf ops T x r) (ho : Ordd ops nt cf ord) (v : Inv C mb base N ops T x nt ord B0 L0 G0 w0 S L w a) {i : Nat} {o : Oper} (hi : ops[i]? = some o) (hS : ¬ S i) (hready : ∀ e ∈ o.after, Region.binds .any e = true → S e.on) (hx : x i = true)
    {t : TypeId} {y : Operand} {ti : TI} {p : AV} (hop : o.op = .load t y) (ht : C.ti t = some ti) (hp : C.ev (T i).env y = p) {pv : Value} (hv : VR L w p pv) (hld : ldC cf base N i (T i).H p ti.sz (T i).acc) {cs : List AV}
    (hrd : ∀ K : List AV → Prop, K cs → rdK (T i).H p ti.sz K) {c : Nat} (hcN : c ≤ N) (hc : Cut ops x S c) : ∀ K : List AV → Prop, K cs → rdK (GS mb base N ops T x S c) p ti.sz K := by
  have hiN : i < N := by rw [← h.size]; exact (Array.getElem?_eq_some_iff.1 hi).1
  have hisld : isLd o = true := by unfold isLd; rw [hop]
  have hiseff : isEff o = false := by unfold isEff; rw [hop]
  have hisnew : isNew mb o = false := by unfold isNew; rw [hop]
  cases p <;> try exact fun K k => hrd K k
  rename_i b off
  have hD : L.D b := hv.inv_ptr.2.1
  have hnotnew : ∀ j, New mb ops x j → j ≠ i := fun j ⟨_, o', h1, h2⟩ e => by
    subst e; rw [hi] at h1; injection h1 with h1; subst h1; rw [hisnew] at h2; cases h2
  have hnoteff : ∀ j, Eff ops x j → j ≠ i := fun j ⟨_, o', h1, h2⟩ e => by
    subst e; rw [hi] at h1; injection h1 with h1; subst h1; rw [hiseff] at h2; cases h2
  rcases Nat.lt_or_ge i c with hic | hci
  · -- writes that stand behind it have been run
    have up : ∀ m, i ≤ m → m ≤ c → ∀ K : List AV → Prop, K cs → rdK (T m).H (.ptr b off) ti.sz K := by
      intro m
      induction m with
      | zero => intro h1 _; rw [show (0 : Nat) = i from by omega]; exact hrd
      | succ m ih =>
        intro h1 h2
        rcases Nat.eq_or_lt_of_le h1 with e | hlt
        · rw [← e]; exact hrd
        · have ihm := ih (by omega) (by omega)
          have hmN : m < N := by omega
          rcases h.heap hmN with ⟨he, _, _⟩ | ⟨hn, _, blk, h3⟩ | ⟨_, _, h3⟩
          · have hSm := (hc m he).1 (by omega)
            have hmi := hnoteff m he
            obtain ⟨hxm, om, hom, hem⟩ := he
            have hcf : cf.contains (i, m) = true := by
              rcases ho.efld m i om o hom hi (by omega) hem hisld with h4 | h4
              · rw [v.nots hS hSm] at h4; cases h4
              · exact h4
            have hy := (h.step m om hom).yes hxm
            have hacc := h.accLd hi hx hop ht m (by omega) (by omega)
            rw [hp] at hacc
            have key : efC cf m (T m).H (T (m + 1)).H (T m).acc := by
              generalize (T (m + 1)).H = H' at hy ⊢
              generalize (T (m + 1)).acc = acc' at hy
              generalize r m = rk at hy
              cases hy with
              | pur _ he' => rw [he'] at hem; cases hem
              | imm _ he' => rw [he'] at hem; cases hem
              | new mk b he' => rw [he'] at hem; cases hem
              | ld _ _ _ _ he' => rw [he'] at hem; cases hem
              | eff _ _ _ _ _ _ hc' => exact hc'
            have := efC_mem key hacc hcf
            exact fun K k => this K (ihm K k)
          · refine rd_get ?_ ihm
            rw [h3]
            simp only [Heap.set]
            rw [upd_ne]
            intro e
            exact rd_some ihm (by rw [e]; exact h.free m (by omega) m (Nat.le_refl _) hmN)
          · rw [h3]; exact ihm
    have hcc := up c (by omega) (Nat.le_refl _)
    refine rd_get ?_ hcc
    exact (GS_no fun j h1 h2 h3 _ _ => rd_some hcc (by rw [h3]; exact h.free c hcN j h1 h2)).symm
  · -- writes that stand before it have not been run
    have down : ∀ lo, c ≤ lo → (∀ j, c ≤ j → j < N → b = base + j → New mb ops x j → S j → j < lo) → ∀ n m, m + n = i → lo ≤ m → ∀ K : List AV → Prop, K cs → rdK (T m).H (.ptr b off) ti.sz K := by
      intro lo hlo hj n
      induction n with
      | zero => intro m h1 _; rw [show m = i from by omega]; exact hrd
      | succ n ih =>
        intro m h1 h2
        have ihm := ih (m + 1) (by omega) (by omega)
        have hmN : m < N := by omega
        rcases h.heap hmN with ⟨he, _, _⟩ | ⟨hn, _, blk, h3⟩ | ⟨_, _, h3⟩
        · have hSm : ¬ S m := fun hs => by have := (hc m he).2 hs; omega
          have hacc := h.accEf he i (by omega) (by omega)
          obtain ⟨hxm, om, hom, hem⟩ := he
          have hcf : cf.contains (i, m) = true := by
            rcases ho.ldef i m o om hi hom (by omega) hisld hem with h4 | h4
            · exact (hSm (v.pre ho hi hready h4)).elim
            · exact h4
          have hbk := ldC_mem hld hacc hcf
          simp only [rdBack] at hbk
          cases hg : (T m).H.get b with
          | none =>
            rw [hg] at hbk
            simp only at hbk
            obtain ⟨q1, q2⟩ := hbk
            have hbj : b = base + (b - base) := by omega
            have hdj := (v.dom (b - base) (by omega)).1 (by rw [← hbj]; exact hD)
            have := hj (b - base) (by omega) (by omega) hbj hdj.2 hdj.1
            omega
          | some blk =>
            rw [hg] at hbk
            exact fun K k => hbk K (hrd K k)
        · refine rd_get ?_ ihm
          rw [h3]
          simp only [Heap.set]
          rw [upd_ne]
          intro e
          have hdj := (v.dom m hmN).1 (by rw [← e]; exact hD)
          have := hj m (by omega) hmN e hdj.2 hdj.1
          omega
        · rw [← h3]; exact ihm
    by_cases hex : ∃ j, c ≤ j ∧ j < N ∧ b = base + j ∧ New mb ops x j ∧ S j
    · obtain ⟨j, h1, h2, h3, h4, h5⟩ := hex
      have hji : j < i := by
        rcases Nat.lt_or_ge j i with h6 | h6
        · exact h6
        · exact (rd_some hrd (by rw [h3]; exact h.free i (by omega) j h6 h2)).elim
      have hm := down (j + 1) (by omega) (fun j' _ _ k3 _ _ => by omega) (i - (j + 1)) (j + 1) (by omega) (Nat.le_refl _)
      refine rd_get ?_ hm
      rw [h3]
      exact (GS_yes h1 h2 h4 h5).symm
    · have hm := down c (Nat.le_refl _) (fun j k1 k2 k3 k4 k5 => (hex ⟨j, k1, k2, k3, k4, k5⟩).elim) (i - c) c (by omega) (Nat.le_refl _)
      refine rd_get ?_ hm
      exact (GS_no fun j k1 k2 k3 k4 k5 => hex ⟨j, k1, k2, k3, k4, k5⟩).symm
end
end Go.Fw
