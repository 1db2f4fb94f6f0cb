/- A region whose order is drawn: the rule for a function's code. -/
import Derived.Test.YtjcplclbdanpgaaFwP
set_option linter.unusedVariables false
set_option linter.unusedSimpArgs false
namespace Go.Fw
open Go

def ordB (bs : List Nat) (i j : Nat) : Bool := decide (j < i) && (bs.getD i 0).testBit j
def clash (ops : Array Oper) (oi oj : Oper) : Bool := (match oj.dst with
  | some t => nm ops oi t
  | none => false) || (match oi.dst with
  | some t => nm ops oj t
  | none => false)
def pairOk (ops : Array Oper) (cf : List (Nat × Nat)) (bs : List Nat) (i : Nat) (oi : Oper) (j : Nat) : Bool :=
  match ordB bs i j with
  | true => oi.after.toList.any fun e => Region.binds .any e && (e.on == j || ordB bs e.on j)
  | false => match ops[j]? with
    | none => true
    | some oj => !clash ops oi oj && !(isEff oi && isEff oj) && (!(isLd oi && isEff oj) || cf.contains (i, j)) && (!(isEff oi && isLd oj) || cf.contains (j, i))
def rgOkB (ops : Array Oper) (nt : Nat) (cf : List (Nat × Nat)) (bs : List Nat) : Bool :=
  (List.range ops.size).all fun i => match ops[i]? with
    | none => true
    | some oi => opOk ops nt oi && (oi.after.toList.all fun e => !Region.binds .any e || decide (e.on < i)) && (List.range i).all (pairOk ops cf bs i oi)
def rgOk (ops : Array Oper) (nt : Nat) (cf : List (Nat × Nat)) : Bool := rgOkB ops nt cf (CheckFast.beforeL ops.toList 0 [])

theorem rgOkB_ordd {ops : Array Oper} {nt : Nat} {cf : List (Nat × Nat)} {bs : List Nat} (h : rgOkB ops nt cf bs = true) : Ordd ops nt cf (ordB bs) := by
  have get : ∀ (i : Nat) oi, ops[i]? = some oi → opOk ops nt oi = true ∧ (∀ e ∈ oi.after, Region.binds .any e = true → e.on < i) ∧ ∀ j, j < i → pairOk ops cf bs i oi j = true := by
    intro i oi hi
    have := List.all_eq_true.1 h i (List.mem_range.2 (Array.getElem?_eq_some_iff.1 hi).1)
    rw [hi] at this
    simp only [Bool.and_eq_true] at this
    refine ⟨this.1.1, fun e he hb => ?_, fun j hj => List.all_eq_true.1 this.2 j (List.mem_range.2 hj)⟩
    have := List.all_eq_true.1 this.1.2 e (Array.mem_toList_iff.2 he)
    rw [hb] at this
    simpa using this
  have lt : ∀ i j, ordB bs i j = true → j < i := fun i j h => by
    unfold ordB at h
    simp only [Bool.and_eq_true, decide_eq_true_eq] at h
    exact h.1
  have pr : ∀ (i j : Nat) oi oj, ops[i]? = some oi → ops[j]? = some oj → j < i → ordB bs i j = true ∨ (clash ops oi oj = false ∧ (isEff oi && isEff oj) = false ∧ ((isLd oi && isEff oj) = true → cf.contains (i, j) = true) ∧ ((isEff oi && isLd oj) = true → cf.contains (j, i) = true)) := by
    intro i j oi oj hi hj hlt
    have := (get i oi hi).2.2 j hlt
    unfold pairOk at this
    split at this
    · rename_i ho; exact .inl ho
    · rw [hj] at this
      simp only [Bool.and_eq_true, Bool.not_eq_true', Bool.or_eq_true] at this
      obtain ⟨⟨⟨h1, h2⟩, h3⟩, h4⟩ := this
      refine .inr ⟨h1, h2, fun k => ?_, fun k => ?_⟩
      · rcases h3 with h3 | h3
        · rw [k] at h3; cases h3
        · exact h3
      · rcases h4 with h4 | h4
        · rw [k] at h4; cases h4
        · exact h4
  refine ⟨fun i o j hi ho => ?_, fun i o hi => (get i o hi).2.1, fun i j oi oj t hi hj hlt hcl => ?_, fun i j oi oj hi hj hlt h1 h2 => ?_, fun i j oi oj hi hj hlt h1 h2 => ?_, fun i j oi oj hi hj hlt h1 h2 => ?_, fun i o hi => (get i o hi).1⟩
  · have := (get i o hi).2.2 j (lt i j ho)
    unfold pairOk at this
    rw [ho] at this
    simp only at this
    obtain ⟨e, h1, h2⟩ := List.any_eq_true.1 this
    simp only [Bool.and_eq_true, Bool.or_eq_true, beq_iff_eq] at h2
    exact ⟨e, Array.mem_toList_iff.1 h1, h2.1, h2.2⟩
  · rcases pr i j oi oj hi hj hlt with h1 | ⟨h1, _⟩
    · exact h1
    · exfalso
      unfold clash at h1
      simp only [Bool.or_eq_false_iff] at h1
      rcases hcl with ⟨k1, k2⟩ | ⟨k1, k2⟩
      · rw [k1] at h1; simp only at h1; rw [k2] at h1; cases h1.1
      · rw [k1] at h1; simp only at h1; rw [k2] at h1; cases h1.2
  · rcases pr i j oi oj hi hj hlt with k | ⟨_, k, _⟩
    · exact k
    · rw [h1, h2] at k; cases k
  · rcases pr i j oi oj hi hj hlt with k | ⟨_, _, k, _⟩
    · exact .inl k
    · exact .inr (k (by rw [h1, h2]; rfl))
  · rcases pr i j oi oj hi hj hlt with k | ⟨_, _, _, k⟩
    · exact .inl k
    · exact .inr (k (by rw [h1, h2]; rfl))

theorem Fr.start {L : Lay} {G : Heap} {w w' : World} (n : Nat) (hh : w'.heap = w.heap) (ho : w'.os = w.os) (ht : w'.tape = w.tape) (hp : w'.output = w.output) : Fr L G w L ⟨G.next + n, G.get⟩ w' :=
  ⟨.refl L, by rw [hh]; exact Nat.le_refl _, ho, ht, hp, fun _ _ _ => by rw [hh], fun _ h n => absurd h n, fun _ h n => absurd h n, fun _ h n => absurd h n, Nat.le_add_right _ _, fun _ _ _ => rfl, fun _ _ h => h⟩

def envL : List (Nat × AV) → Env
  | [], _ => .undef
  | (i, v) :: rest, t => if t = i then v else envL rest t
theorem envL_nil (t : Nat) : envL [] t = .undef := rfl
theorem envL_cons (i : Nat) (v : AV) (rest : List (Nat × AV)) (t : Nat) : envL ((i, v) :: rest) t = if t = i then v else envL rest t := rfl
def keepL (env : Env) : List Nat → List (Nat × AV)
  | [] => []
  | t :: rest => (t, env t) :: keepL env rest
theorem envL_keepL (env : Env) : ∀ (l : List Nat) (t : Nat), envL (keepL env l) t = if t ∈ l then env t else .undef
  | [], t => by simp [keepL, envL]
  | i :: rest, t => by
    simp only [keepL, envL, envL_keepL env rest t, List.mem_cons]
    by_cases h : t = i
    · subst h; simp
    · simp [h]
theorem Runs.keep {F : Fx} {k : List Item} {env : Env} {G : Heap} (l : List Nat) (h : Runs F k (envL (keepL env l)) G) : Runs F k env G :=
  h.weaken fun t _ => by
    rw [envL_keepL]
    split
    · exact .refl _
    · exact .undef _
theorem Runs.draw {F : Fx} {k : List Item} {env : Env} {G : Heap} {id : Nat} {ops : Array Oper} (l : List Nat) (cf : List (Nat × Nat)) (hm : F.C.P.follows .mixedOrders = true) (hok : rgOk ops F.fn.ntmps cf = true)
    (h : ∀ kk, kk = k → ∀ oo, oo = ops → runX F.C F.mb G.next ops.size cf oo 0 ops.toList env ⟨G.next + ops.size, G.get⟩ [] fun env' G' => Runs F kk (envL (keepL env' l)) G') : Runs F (.code (.region id ops true) :: k) env G := by
  intro B0 L w a b cs hb he hr
  obtain ⟨T, x, r, t0, t1, t2⟩ := trace ops.toList 0 ⟨env, ⟨G.next + ops.size, G.get⟩, []⟩ (fun j => by simp) (h k rfl ops rfl)
  have ho := rgOkB_ordd hok
  have tr : Tr F.C F.mb G.next ops.size cf ops T x r := ⟨rfl, fun k o hk => t1 k o (Nat.zero_le _) hk, by rw [t0]; exact Nat.le_refl _, fun j hj => by rw [t0]; exact hr.wf _ (Nat.le_add_right _ _)⟩
  have ht2 : Runs F k (T ops.size).env (T ops.size).H := by
    refine Runs.keep l ?_
    have := t2
    rw [show 0 + ops.toList.length = ops.size from by simp] at this
    exact this
  let w' : World := { w with drawn := w.drawn + 1 }
  have inv : Inv F.C F.mb G.next ops.size ops T x F.fn.ntmps (ordB (CheckFast.beforeL ops.toList 0 [])) B0 L G w (fun j => (Array.replicate ops.size false).getD j false = true) L w' a := by
    have hS : ∀ j, ¬ (Array.replicate ops.size false).getD j false = true := fun j => by
      by_cases hj : j < ops.size <;> simp [Array.getElem?_replicate, hj]
    have hGS : GS F.mb G.next ops.size ops T x (fun j => (Array.replicate ops.size false).getD j false = true) 0 = ⟨G.next + ops.size, G.get⟩ := by
      have e1 : ∀ b, (GS F.mb G.next ops.size ops T x (fun j => (Array.replicate ops.size false).getD j false = true) 0).get b = (T 0).H.get b := fun b => GS_no fun j _ _ _ _ => hS j
      have : GS F.mb G.next ops.size ops T x (fun j => (Array.replicate ops.size false).getD j false = true) 0 = (T 0).H := congrArg (Heap.mk _) (funext e1)
      rw [this, t0]
    have hdom : ∀ j, j < ops.size → (L.D (G.next + j) ↔ (Array.replicate ops.size false).getD j false = true ∧ New F.mb ops x j) := fun j _ => ⟨fun hd => by have := hr.idlt _ hd; omega, fun h => (hS j h.1).elim⟩
    have hcut : Cut ops x (fun j => (Array.replicate ops.size false).getD j false = true) 0 := fun e _ => ⟨fun h => by omega, fun h => (hS e h).elim⟩
    have hrel : Rel F.C.gl B0 L (GS F.mb G.next ops.size ops T x (fun j => (Array.replicate ops.size false).getD j false = true) 0) w' := by
      rw [hGS]
      exact (hr.drew (w' := w') rfl).hide (fun b blk _ h => h) (Nat.le_add_right _ _) fun b hb' => hr.wf b (by simp only at hb'; omega)
    have hfr : Fr L G w L (GS F.mb G.next ops.size ops T x (fun j => (Array.replicate ops.size false).getD j false = true) 0) w' := by
      rw [hGS]
      exact .start ops.size rfl rfl rfl rfl
    refine ⟨fun i hi => (hS i hi).elim, fun i hi => (hS i hi).elim, hdom, ⟨0, Nat.zero_le _, hcut⟩, rel_one tr rfl hdom (Nat.zero_le _) hcut hrel hfr fun j hj => by omega, he.size, he.defers, fun t ht i hi hin hout => ?_⟩
    have : (T i).env t = env t := by
      rw [tr.envConst (i := 0) i (Nat.zero_le _) hi fun k o _ h2 h3 h4 => hS k (hin k o h2 h3 h4), t0]
    rw [this]
    exact VR.mono (w := w) (w' := w') (.refl L) (fun _ _ => rfl) (he.vr t ht)
  have hw : (Code.region id ops true).wp F.C.P (fun e a' w' => e = .normal ∧ ∃ L' G' env', Runs F k env' G' ∧ Fr L G w L' G' w' ∧ Rel F.C.gl B0 L' G' w' ∧ ER L' w' F.fn.ntmps env' a') a w :=
    wp_region_any hm (any_sound tr ho rfl hr (fun L' w' a' k1 k2 k3 => ⟨rfl, L', _, _, ht2, k1, k2, k3⟩) ops.size _ (by simp) (by rw [Array.toList_replicate]; exact Nat.le_trans List.countP_le_length (by simp)) L w' a inv)
  obtain ⟨e, a', w2, ⟨rfl, L', G', env', k1, k2, k3, k4⟩, harr⟩ := hw b k cs
  obtain ⟨w3, fr, v, g1, g2, g3, g4, g5, g6, L2, r2, G2, q1, q2, q3, q4⟩ := k1 B0 L' w2 a' b cs hb k4 k3
  exact ⟨w3, fr, v, Steps.trans harr g1, g2, g3, g4, g5, g6, L2, r2, G2, q1, k2.trans q2 hr, q3, q4⟩

end Go.Fw
