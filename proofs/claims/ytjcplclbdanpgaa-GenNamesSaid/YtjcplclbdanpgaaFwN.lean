/- A region whose order is drawn: what the written order shows, each drawn order shows. -/
import Derived.Test.YtjcplclbdanpgaaFwM
set_option linter.unusedVariables false
set_option linter.unusedSimpArgs false
namespace Go.Fw
open Go

structure St where
  env : Env
  H : Heap
  acc : List Ent

def wantF (ops : Array Oper) (o : Oper) (env : Env) (x : Bool) : Prop := match o.guard with
  | none => x = true
  | some (j, want) => ∃ d b, (ops[j]?).bind (·.dst) = some d ∧ env d = .bool b ∧ x = (b == want)

structure StepT (C : Cx) (mb : Nat → Bool) (base N : Nat) (cf : List (Nat × Nat)) (ops : Array Oper) (i : Nat) (o : Oper) (s : St) (x : Bool) (r : AV) (s' : St) : Prop where
  env : s'.env = putE s.env o.dst r
  want : wantF ops o s.env x
  yes : x = true → StepIs C mb base N cf i s.acc o (C.ev s.env) s.H r s'.H s'.acc
  no : x = false → r = .undef ∧ s'.H = s.H ∧ s'.acc = s.acc

def runX (C : Cx) (mb : Nat → Bool) (base N : Nat) (cf : List (Nat × Nat)) (ops : Array Oper) : Nat → List Oper → Env → Heap → List Ent → (Env → Heap → Prop) → Prop
  | _, [], env, H, _, K => K env H
  | i, o :: rest, env, H, acc, K => wantK ops o env (stepX C mb base N cf i acc o (C.ev env) H fun r H' acc' => runX C mb base N cf ops (i + 1) rest (putE env o.dst r) H' acc' K)
      (runX C mb base N cf ops (i + 1) rest (putE env o.dst .undef) H acc K)

theorem wantK_out {ops : Array Oper} {o : Oper} {env : Env} {yes no : Prop} (h : wantK ops o env yes no) : ∃ x, wantF ops o env x ∧ (x = true → yes) ∧ (x = false → no) := by
  unfold wantK at h
  unfold wantF
  cases hg : o.guard with
  | none => rw [hg] at h; exact ⟨true, rfl, fun _ => h, fun e => by cases e⟩
  | some q =>
    obtain ⟨j, want⟩ := q
    rw [hg] at h
    simp only at h ⊢
    split at h
    · rename_i d hd
      split at h
      · rename_i b hb
        exact ⟨b == want, ⟨d, b, hd, hb, rfl⟩, fun e => h.1 (by simpa using e), fun e => h.2 (by cases b <;> cases want <;> simp_all)⟩
      · exact h.elim
    · exact h.elim

theorem trace {C : Cx} {mb : Nat → Bool} {base N : Nat} {cf : List (Nat × Nat)} {ops : Array Oper} {K : Env → Heap → Prop} : ∀ (l : List Oper) (i : Nat) (s : St), (∀ j, l[j]? = ops[i + j]?) → runX C mb base N cf ops i l s.env s.H s.acc K →
    ∃ (T : Nat → St) (x : Nat → Bool) (r : Nat → AV), T i = s ∧ (∀ k o, i ≤ k → ops[k]? = some o → StepT C mb base N cf ops k o (T k) (x k) (r k) (T (k + 1))) ∧ K (T (i + l.length)).env (T (i + l.length)).H
  | [], i, s, hl, h => by
    refine ⟨fun _ => s, fun _ => true, fun _ => .undef, rfl, fun k o hk ho => ?_, h⟩
    have h0 := hl (k - i)
    rw [show i + (k - i) = k from by omega, ho] at h0
    cases h0
  | o :: rest, i, s, hl, h => by
    have ho : ops[i]? = some o := by have := hl 0; simpa using this.symm
    have hl' : ∀ j, rest[j]? = ops[i + 1 + j]? := fun j => by
      have := hl (j + 1)
      rw [show i + (j + 1) = i + 1 + j from by omega] at this
      simpa using this
    simp only [runX] at h
    obtain ⟨x0, hx, hy, hn⟩ := wantK_out h
    have glue : ∀ (s' : St) (r0 : AV), StepT C mb base N cf ops i o s x0 r0 s' → runX C mb base N cf ops (i + 1) rest s'.env s'.H s'.acc K →
        ∃ (T : Nat → St) (x : Nat → Bool) (r : Nat → AV), T i = s ∧ (∀ k o, i ≤ k → ops[k]? = some o → StepT C mb base N cf ops k o (T k) (x k) (r k) (T (k + 1))) ∧ K (T (i + (o :: rest).length)).env (T (i + (o :: rest).length)).H := fun s' r0 hs hr => by
      obtain ⟨T, x, r, h1, h2, h3⟩ := trace rest (i + 1) s' hl' hr
      refine ⟨fun k => if k ≤ i then s else T k, fun k => if k ≤ i then x0 else x k, fun k => if k ≤ i then r0 else r k, by simp, fun k o' hk ho' => ?_, ?_⟩
      · rcases Nat.eq_or_lt_of_le hk with e | hlt
        · subst e
          rw [ho] at ho'
          injection ho' with ho'
          subst ho'
          simp only [Nat.le_refl, if_true, show ¬ (i + 1 ≤ i) from by omega, if_false, h1]
          exact hs
        · simp only [show ¬ (k ≤ i) from by omega, show ¬ (k + 1 ≤ i) from by omega, if_false]
          exact h2 k o' hlt ho'
      · simp only [List.length_cons, show ¬ (i + (rest.length + 1) ≤ i) from by omega, if_false]
        rw [show i + (rest.length + 1) = i + 1 + rest.length from by omega]
        exact h3
    cases x0 with
    | true =>
      obtain ⟨r0, H', acc', k1, k2⟩ := stepX_is (hy rfl)
      exact glue ⟨putE s.env o.dst r0, H', acc'⟩ r0 ⟨rfl, hx, fun _ => k2, fun e => (by cases e)⟩ k1
    | false => exact glue ⟨putE s.env o.dst .undef, s.H, s.acc⟩ .undef ⟨rfl, hx, fun e => (by cases e), fun _ => ⟨rfl, rfl, rfl⟩⟩ (hn rfl)

def isT (t : Tmp) : Operand → Bool
  | .tmp u => u == t
  | _ => false
/-- The names of temporaries that an operation reads or writes. -/
def nm (ops : Array Oper) (o : Oper) (t : Tmp) : Bool := o.dst == some t || o.op.operands.any (isT t) || (match o.guard with
  | some (j, _) => (ops[j]?).bind (·.dst) == some t
  | none => false)

structure Ordd (ops : Array Oper) (nt : Nat) (cf : List (Nat × Nat)) (ord : Nat → Nat → Bool) : Prop where
  edge : ∀ (i : Nat) (o : Oper) (j : Nat), ops[i]? = some o → ord i j = true → ∃ e ∈ o.after, Region.binds .any e = true ∧ (e.on = j ∨ ord e.on j = true)
  back : ∀ (i : Nat) (o : Oper), ops[i]? = some o → ∀ e ∈ o.after, Region.binds .any e = true → e.on < i
  tmp : ∀ (i j : Nat) (oi oj : Oper) (t : Tmp), ops[i]? = some oi → ops[j]? = some oj → j < i → (oj.dst = some t ∧ nm ops oi t = true ∨ oi.dst = some t ∧ nm ops oj t = true) → ord i j = true
  eff : ∀ (i j : Nat) (oi oj : Oper), ops[i]? = some oi → ops[j]? = some oj → j < i → isEff oi = true → isEff oj = true → ord i j = true
  ldef : ∀ (i j : Nat) (oi oj : Oper), ops[i]? = some oi → ops[j]? = some oj → j < i → isLd oi = true → isEff oj = true → ord i j = true ∨ cf.contains (i, j) = true
  efld : ∀ (i j : Nat) (oi oj : Oper), ops[i]? = some oi → ops[j]? = some oj → j < i → isEff oi = true → isLd oj = true → ord i j = true ∨ cf.contains (j, i) = true
  opk : ∀ (i : Nat) (o : Oper), ops[i]? = some o → opOk ops nt o = true

structure Tr (C : Cx) (mb : Nat → Bool) (base N : Nat) (cf : List (Nat × Nat)) (ops : Array Oper) (T : Nat → St) (x : Nat → Bool) (r : Nat → AV) : Prop where
  size : ops.size = N
  step : ∀ (k : Nat) (o : Oper), ops[k]? = some o → StepT C mb base N cf ops k o (T k) (x k) (r k) (T (k + 1))
  next0 : base + N ≤ (T 0).H.next
  free0 : ∀ j, j < N → (T 0).H.get (base + j) = none

def Eff (ops : Array Oper) (x : Nat → Bool) (k : Nat) : Prop := x k = true ∧ ∃ o, ops[k]? = some o ∧ isEff o = true
def New (mb : Nat → Bool) (ops : Array Oper) (x : Nat → Bool) (k : Nat) : Prop := x k = true ∧ ∃ o, ops[k]? = some o ∧ isNew mb o = true

section text
variable {C : Cx} {mb : Nat → Bool} {base N : Nat} {cf : List (Nat × Nat)} {ops : Array Oper} {T : Nat → St} {x : Nat → Bool} {r : Nat → AV}

theorem Tr.at (h : Tr C mb base N cf ops T x r) {k : Nat} (hk : k < N) : ∃ o, ops[k]? = some o := ⟨_, Array.getElem?_eq_getElem (by rw [h.size]; exact hk)⟩

theorem Tr.heap (h : Tr C mb base N cf ops T x r) {k : Nat} (hk : k < N) :
    (Eff ops x k ∧ ¬ New mb ops x k ∧ (base + N ≤ (T k).H.next → Keeps base N (T k).H (T (k + 1)).H)) ∨ (New mb ops x k ∧ ¬ Eff ops x k ∧ ∃ b, (T (k + 1)).H = (T k).H.set (base + k) (some b)) ∨ (¬ New mb ops x k ∧ ¬ Eff ops x k ∧ (T (k + 1)).H = (T k).H) := by
  obtain ⟨o, ho⟩ := h.at hk
  have hs := h.step k o ho
  have hno : ∀ {b : Bool} (f : Oper → Bool), f o = b → b = false → ¬ (x k = true ∧ ∃ o, ops[k]? = some o ∧ f o = true) := fun f h1 h2 ⟨_, o', ho', h3⟩ => by
    rw [ho] at ho'; injection ho' with ho'; subst ho'; rw [h1, h2] at h3; cases h3
  cases hx : x k with
  | false =>
    refine .inr (.inr ⟨fun h => ?_, fun h => ?_, (hs.no hx).2.1⟩)
    · have := h.1; rw [hx] at this; cases this
    · have := h.1; rw [hx] at this; cases this
  | true =>
    have hy := hs.yes hx
    generalize hH : (T (k + 1)).H = H' at hy ⊢
    generalize (T (k + 1)).acc = acc' at hy
    generalize r k = rk at hy
    cases hy with
    | pur _ he hn hl hok hh => exact .inr (.inr ⟨hno (isNew mb) hn rfl, hno isEff he rfl, rfl⟩)
    | imm _ he hn hl hh => exact .inr (.inr ⟨hno (isNew mb) hn rfl, hno isEff he rfl, rfl⟩)
    | ld _ _ _ _ he hn hl => exact .inr (.inr ⟨hno (isNew mb) hn rfl, hno isEff he rfl, rfl⟩)
    | new mk b he hn hl hh => exact .inr (.inl ⟨⟨hx, o, ho, hn⟩, hno isEff he rfl, b, rfl⟩)
    | eff _ _ he hn hl hh hc hk => exact .inl ⟨⟨hx, o, ho, he⟩, hno (isNew mb) hn rfl, hk⟩

theorem Tr.next (h : Tr C mb base N cf ops T x r) : ∀ k, k ≤ N → base + N ≤ (T k).H.next
  | 0, _ => h.next0
  | k + 1, hk => by
    have ih := h.next k (by omega)
    rcases h.heap (show k < N from hk) with ⟨_, _, h1⟩ | ⟨_, _, b, h1⟩ | ⟨_, _, h1⟩
    · exact Nat.le_trans ih (h1 ih).1
    · rw [h1]; exact ih
    · rw [h1]; exact ih
theorem Tr.free (h : Tr C mb base N cf ops T x r) : ∀ k, k ≤ N → ∀ j, k ≤ j → j < N → (T k).H.get (base + j) = none
  | 0, _, j, _, hj => h.free0 j hj
  | k + 1, hk, j, hkj, hj => by
    have ih := h.free k (by omega) j (by omega) hj
    rcases h.heap (show k < N from hk) with ⟨_, _, h1⟩ | ⟨_, _, b, h1⟩ | ⟨_, _, h1⟩
    · exact (h1 (h.next k (by omega))).2 j hj ih
    · rw [h1]
      simp only [Heap.set, upd_apply]
      rw [if_neg (by omega)]
      exact ih
    · rw [h1]; exact ih

theorem Tr.accLd (h : Tr C mb base N cf ops T x r) {l : Nat} {o : Oper} {t : TypeId} {y : Operand} {ti : TI} (ho : ops[l]? = some o) (hx : x l = true) (hop : o.op = .load t y) (ht : C.ti t = some ti) : ∀ k, l < k → k ≤ N → Ent.ld l (C.ev (T l).env y) ti.sz ∈ (T k).acc
  | 0, hk, _ => by omega
  | k + 1, hlk, hk => by
    obtain ⟨ok, hok⟩ := h.at (show k < N from hk)
    have hs := h.step k ok hok
    rcases Nat.lt_or_ge l k with hlt | hge
    · have ih := h.accLd ho hx hop ht k hlt (by omega)
      cases hxk : x k with
      | false => rw [(hs.no hxk).2.2]; exact ih
      | true =>
        have hy := hs.yes hxk
        generalize (T (k + 1)).H = H' at hy
        generalize (T (k + 1)).acc = acc' at hy ⊢
        generalize r k = rk at hy
        cases hy <;> first | exact ih | exact List.mem_cons_of_mem _ ih
    · have : l = k := by omega
      subst this
      rw [hok] at ho; injection ho with ho; subst ho
      have hy := hs.yes hx
      have hl' : isLd ok = true := by unfold isLd; rw [hop]
      generalize (T (l + 1)).H = H' at hy
      generalize (T (l + 1)).acc = acc' at hy ⊢
      generalize r l = rk at hy
      cases hy with
      | pur _ he hn hl hok hh => rw [hl] at hl'; cases hl'
      | imm _ he hn hl hh => rw [hl] at hl'; cases hl'
      | new mk b he hn hl hh => rw [hl] at hl'; cases hl'
      | eff _ _ he hn hl hh hc hk => rw [hl] at hl'; cases hl'
      | ld _ t' y' ti' he hn hl ho' ht' =>
        rw [hop] at ho'; injection ho' with e1 e2; subst e1; subst e2
        rw [ht] at ht'; injection ht' with e; subst e
        exact List.mem_cons_self
theorem Tr.accEf (h : Tr C mb base N cf ops T x r) {l : Nat} (he : Eff ops x l) : ∀ k, l < k → k ≤ N → Ent.ef l (T l).H ∈ (T k).acc
  | 0, hk, _ => by omega
  | k + 1, hlk, hk => by
    obtain ⟨ok, hok⟩ := h.at (show k < N from hk)
    have hs := h.step k ok hok
    rcases Nat.lt_or_ge l k with hlt | hge
    · have ih := h.accEf he k hlt (by omega)
      cases hxk : x k with
      | false => rw [(hs.no hxk).2.2]; exact ih
      | true =>
        have hy := hs.yes hxk
        generalize (T (k + 1)).H = H' at hy
        generalize (T (k + 1)).acc = acc' at hy ⊢
        generalize r k = rk at hy
        cases hy <;> first | exact ih | exact List.mem_cons_of_mem _ ih
    · have : l = k := by omega
      subst this
      obtain ⟨hx, o, ho, he⟩ := he
      rw [hok] at ho; injection ho with ho; subst ho
      have hy := hs.yes hx
      generalize (T (l + 1)).H = H' at hy
      generalize (T (l + 1)).acc = acc' at hy ⊢
      generalize r l = rk at hy
      cases hy with
      | pur _ he' => rw [he'] at he; cases he
      | imm _ he' => rw [he'] at he; cases he
      | new mk b he' => rw [he'] at he; cases he
      | ld _ _ _ _ he' => rw [he'] at he; cases he
      | eff => exact List.mem_cons_self

theorem Tr.envConst (h : Tr C mb base N cf ops T x r) {t : Nat} {i : Nat} : ∀ m, i ≤ m → m ≤ N → (∀ k o, i ≤ k → k < m → ops[k]? = some o → o.dst ≠ some t) → (T m).env t = (T i).env t
  | 0, hm, _, _ => by rw [show i = 0 from by omega]
  | m + 1, hm, hN, hw => by
    rcases Nat.eq_or_lt_of_le hm with e | hlt
    · rw [e]
    · rw [← h.envConst m (by omega) (by omega) fun k o h1 h2 => hw k o h1 (by omega)]
      obtain ⟨o, ho⟩ := h.at (show m < N from hN)
      rw [(h.step m o ho).env]
      have hd := hw m o (by omega) (by omega) ho
      unfold putE
      cases hdst : o.dst with
      | none => rfl
      | some d => exact upd_ne _ _ (fun e => hd (by rw [hdst, e]))

/-- Up to which operation the writes have come. -/
def Cut (ops : Array Oper) (x : Nat → Bool) (S : Nat → Prop) (c : Nat) : Prop := ∀ e, Eff ops x e → (e < c ↔ S e)

open Classical in
noncomputable def GS (mb : Nat → Bool) (base N : Nat) (ops : Array Oper) (T : Nat → St) (x : Nat → Bool) (S : Nat → Prop) (c : Nat) : Heap :=
  ⟨(T c).H.next, fun b => if ∃ j, c ≤ j ∧ j < N ∧ b = base + j ∧ New mb ops x j ∧ S j then (T (b - base + 1)).H.get b else (T c).H.get b⟩

theorem GS_yes {S : Nat → Prop} {c j : Nat} (h1 : c ≤ j) (h2 : j < N) (h3 : New mb ops x j) (h4 : S j) : (GS mb base N ops T x S c).get (base + j) = (T (j + 1)).H.get (base + j) := by
  unfold GS
  simp only
  rw [if_pos ⟨j, h1, h2, rfl, h3, h4⟩, show base + j - base + 1 = j + 1 from by omega]
theorem GS_no {S : Nat → Prop} {c b : Nat} (h : ∀ j, c ≤ j → j < N → b = base + j → New mb ops x j → ¬ S j) : (GS mb base N ops T x S c).get b = (T c).H.get b := by
  unfold GS
  simp only
  rw [if_neg fun ⟨j, h1, h2, h3, h4, h5⟩ => h j h1 h2 h3 h4 h5]

theorem Tr.between (h : Tr C mb base N cf ops T x r) {c b : Nat} : ∀ m, c ≤ m → m ≤ N → (∀ e, Eff ops x e → ¬ (c ≤ e ∧ e < m)) → (∀ j, c ≤ j → j < m → New mb ops x j → b ≠ base + j) → (T m).H.get b = (T c).H.get b ∧ (T m).H.next = (T c).H.next
  | 0, hm, _, _, _ => by rw [show c = 0 from by omega]; exact ⟨rfl, rfl⟩
  | m + 1, hm, hN, hE, hb => by
    rcases Nat.eq_or_lt_of_le hm with e | hlt
    · rw [e]; exact ⟨rfl, rfl⟩
    · have ih := h.between (c := c) (b := b) m (by omega) (by omega) (fun e he ⟨h1, h2⟩ => hE e he ⟨h1, by omega⟩) fun j h1 h2 => hb j h1 (by omega)
      rcases h.heap (show m < N from hN) with ⟨he, _⟩ | ⟨hn, _, blk, h1⟩ | ⟨_, _, h1⟩
      · exact (hE m he ⟨by omega, by omega⟩).elim
      · rw [h1]
        simp only [Heap.set]
        rw [upd_ne _ _ (hb m (by omega) (by omega) hn)]
        exact ih
      · rw [h1]; exact ih
theorem Tr.betweenNext (h : Tr C mb base N cf ops T x r) {c : Nat} : ∀ m, c ≤ m → m ≤ N → (∀ e, Eff ops x e → ¬ (c ≤ e ∧ e < m)) → (T m).H.next = (T c).H.next
  | 0, hm, _, _ => by rw [show c = 0 from by omega]
  | m + 1, hm, hN, hE => by
    rcases Nat.eq_or_lt_of_le hm with e | hlt
    · rw [e]
    · have ih := h.betweenNext (c := c) m (by omega) (by omega) (fun e he ⟨h1, h2⟩ => hE e he ⟨h1, by omega⟩)
      rcases h.heap (show m < N from hN) with ⟨he, _⟩ | ⟨hn, _, blk, h1⟩ | ⟨_, _, h1⟩
      · exact (hE m he ⟨by omega, by omega⟩).elim
      · rw [h1]; exact ih
      · rw [h1]; exact ih

theorem Cut.none {S : Nat → Prop} {c c' : Nat} (h : Cut ops x S c) (h' : Cut ops x S c') : ∀ e, Eff ops x e → ¬ (c ≤ e ∧ e < c') := fun e he ⟨h1, h2⟩ => by
  have := (h e he).2 ((h' e he).1 h2)
  omega

/-- Between two cuts the heap is the same, but for blocks that are not made yet. -/
theorem Tr.gsEq (h : Tr C mb base N cf ops T x r) {S : Nat → Prop} {c c' : Nat} (hc : Cut ops x S c) (hc' : Cut ops x S c') (hle : c ≤ c') (hN : c' ≤ N) :
    (GS mb base N ops T x S c).next = (GS mb base N ops T x S c').next ∧ ∀ b, (∀ j, j < N → New mb ops x j → b = base + j → S j) → (GS mb base N ops T x S c).get b = (GS mb base N ops T x S c').get b := by
  have hE := hc.none hc'
  refine ⟨(h.betweenNext c' hle hN hE).symm, fun b hb => ?_⟩
  by_cases hx : ∃ j, c ≤ j ∧ j < N ∧ b = base + j ∧ New mb ops x j
  · obtain ⟨j, h1, h2, rfl, h4⟩ := hx
    have hS := hb j h2 h4 rfl
    rw [GS_yes h1 h2 h4 hS]
    rcases Nat.lt_or_ge j c' with hlt | hge
    · rw [GS_no fun j' k1 k2 k3 => by omega]
      exact ((h.between (c := j + 1) (b := base + j) c' hlt hN (fun e he ⟨k1, k2⟩ => hE e he ⟨by omega, k2⟩) fun j' k1 k2 _ => by omega).1).symm
    · rw [GS_yes hge h2 h4 hS]
  · rw [GS_no fun j h1 h2 h3 h4 _ => hx ⟨j, h1, h2, h3, h4⟩, GS_no fun j h1 h2 h3 h4 _ => hx ⟨j, by omega, h2, h3, h4⟩]
    exact ((h.between (c := c) (b := b) c' hle hN hE fun j h1 h2 h3 e => hx ⟨j, h1, by omega, e, h3⟩).1).symm
end text

theorem Fr.heapTo {L L' : Lay} {G G' G'' : Heap} {w w' : World} (f : Fr L G w L' G' w') (hn : G''.next = G'.next) (hg : ∀ b, b < G.next → G''.get b = G'.get b) : Fr L G w L' G'' w' :=
  ⟨f.le, f.size, f.os, f.tape, f.output, f.keep, f.newD, f.newK, f.newI, by rw [hn]; exact f.next, fun b hb hD => by rw [hg b hb]; exact f.old b hb hD, fun b hb h0 => by rw [hg b hb]; exact f.dead b hb h0⟩
theorem Fr.addNew {L0 L : Lay} {G0 G : Heap} {w0 w : World} (f : Fr L0 G0 w0 L G w) {id n : Nat} {o : Obj} {ob : Option Blk} (hid : ¬ L.D id) (hge : G0.next ≤ id) : Fr L0 G0 w0 (L.addD id w.heap.size n) ⟨G.next, upd G.get id ob⟩ (w.alloc o) where
  le := f.le.trans (L.le_addD _ _ _ hid)
  size := by rw [alloc_size]; have := f.size; omega
  os := f.os
  tape := f.tape
  output := f.output
  keep i hi h := (alloc_old w _ (Nat.lt_of_lt_of_le hi f.size)).trans (f.keep i hi h)
  newD b hb hn := by
    rcases hb with hb | hb
    · exact f.newD b hb hn
    · rw [hb]; exact hge
  newK b hb hn := by
    by_cases h : b = id
    · subst h
      exact .inl (by simp only [Lay.addD, upd_same]; exact f.size)
    · rcases hb with hb | hb
      · simp only [Lay.addD, upd_ne _ _ h]; exact f.newK b hb hn
      · exact (h hb).elim
  newI := f.newI
  next := f.next
  old b hb hD := by
    show upd G.get id ob b = _
    rw [upd_ne _ _ (by omega)]; exact f.old b hb hD
  dead b hb h0 := by
    show upd G.get id ob b = _
    rw [upd_ne _ _ (by omega)]; exact f.dead b hb h0

end Go.Fw
