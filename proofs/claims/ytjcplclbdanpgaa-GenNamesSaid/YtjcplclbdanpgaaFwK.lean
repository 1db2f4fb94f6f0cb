/- A region in its written order; the rules for a function's code. -/
import Derived.Test.YtjcplclbdanpgaaFwJ
set_option linter.unusedVariables false
set_option linter.unusedSimpArgs false
namespace Go.Fw
open Go

abbrev Env := Nat → AV
def putE (env : Env) (dst : Option Tmp) (v : AV) : Env := match dst with
  | some d => upd env d v
  | none => env
def inT (nt : Nat) : Operand → Bool
  | .tmp t => decide (t < nt)
  | _ => true
def guardOk (ops : Array Oper) (nt : Nat) (o : Oper) : Bool := match o.guard with
  | none => true
  | some (j, _) => match (ops[j]?).bind (·.dst) with
    | some d => decide (d < nt)
    | none => false
def opOk (ops : Array Oper) (nt : Nat) (o : Oper) : Bool := o.op.operands.toList.all (inT nt) && (match o.dst with | some d => decide (d < nt) | none => true) && guardOk ops nt o
def wantK (ops : Array Oper) (o : Oper) (env : Env) (yes no : Prop) : Prop :=
  match o.guard with
  | none => yes
  | some (j, want) => match (ops[j]?).bind (·.dst) with
    | some d => (match env d with
      | .bool b => (b = want → yes) ∧ (b = !want → no)
      | _ => False)
    | none => False
def runOps (C : Cx) (mb : Nat → Bool) (ops : Array Oper) : List Oper → Env → Heap → (Env → Heap → Prop) → Prop
  | [], env, G, K => K env G
  | o :: rest, env, G, K => wantK ops o env (stepK C mb o (C.ev env) G fun r G' => runOps C mb ops rest (putE env o.dst r) G' K) (runOps C mb ops rest (putE env o.dst .undef) G K)

/-- The frame's temporaries are what the environment says. -/
structure ER (L : Lay) (w : World) (nt : Nat) (env : Env) (a : Act) : Prop where
  size : a.tmps.size = nt
  vr : ∀ t, t < nt → VR L w (env t) (a.tmps.getD t undef)
  defers : a.defers = []

theorem ER.mono {L L' : Lay} {w w' : World} {nt : Nat} {env : Env} {a : Act} (h : ER L w nt env a) (hle : L.le L') (hI : ∀ i, L.I i → w'.heap[i]? = w.heap[i]?) : ER L' w' nt env a :=
  ⟨h.size, fun t ht => (h.vr t ht).mono hle hI, h.defers⟩
theorem put_size (a : Act) (dst : Option Tmp) (v : Value) : (a.put dst v).tmps.size = a.tmps.size := by
  cases dst <;> simp [Act.put]
theorem put_defers (a : Act) (dst : Option Tmp) (v : Value) : (a.put dst v).defers = a.defers := by
  cases dst <;> rfl
theorem ER.put {L : Lay} {w : World} {nt : Nat} {env : Env} {a : Act} (h : ER L w nt env a) (dst : Option Tmp) {r : AV} {v : Value} (hv : VR L w r v) : ER L w nt (putE env dst r) (a.put dst v) := by
  refine ⟨by rw [put_size]; exact h.size, fun t ht => ?_, by rw [put_defers]; exact h.defers⟩
  cases dst with
  | none => exact h.vr t ht
  | some d =>
    simp only [putE, Act.put, upd_apply]
    by_cases e : t = d
    · subst e
      rw [if_pos rfl]
      have : (a.tmps.setIfInBounds t v).getD t undef = v := by simp [h.size, ht]
      rw [this]; exact hv
    · rw [if_neg e]
      have : (a.tmps.setIfInBounds d v).getD t undef = a.tmps.getD t undef := by
        simp [Array.getElem?_setIfInBounds_ne (Ne.symm e)]
      rw [this]; exact h.vr t ht
theorem ER.ev {C : Cx} {B0 : Nat} {L : Lay} {G : Heap} {w : World} {nt : Nat} {env : Env} {a : Act} (h : ER L w nt env a) (hr : Rel C.gl B0 L G w) {x : Operand} (hx : inT nt x = true) : VR L w (C.ev env x) (a.eval x) := by
  cases x with
  | tmp t => exact h.vr t (by simpa [inT] using hx)
  | const v => exact cst_vr L w v
  | global g => exact hr.glob g
  | func f => exact .fn f [] [] #[] #[] rfl rfl (fun i c v e => by simp at e) (fun i c v e => by simp at e)

theorem wantK_spec {L : Lay} {w : World} {nt : Nat} {ops : Array Oper} {o : Oper} {env : Env} {a : Act} {yes no : Prop} (he : ER L w nt env a) (hok : guardOk ops nt o = true) (h : wantK ops o env yes no) :
    (Region.wanted o (yielded ops a.tmps) = true ∧ yes) ∨ (Region.wanted o (yielded ops a.tmps) = false ∧ no) := by
  unfold wantK at h
  unfold guardOk at hok
  unfold Region.wanted
  cases hg : o.guard with
  | none => rw [hg] at h; exact .inl ⟨rfl, h⟩
  | some q =>
    obtain ⟨j, want⟩ := q
    rw [hg] at h hok
    simp only at h hok ⊢
    cases hd : (ops[j]?).bind (·.dst) with
    | none => rw [hd] at h; exact h.elim
    | some d =>
      rw [hd] at h hok
      simp only [decide_eq_true_eq] at h hok
      cases hv : env d with
      | bool b =>
        rw [hv] at h
        simp only at h
        have e1 := he.vr d hok
        rw [hv] at e1
        have e2 := e1.inv_bool
        have hlt : d < a.tmps.size := by rw [he.size]; exact hok
        have e3 : a.tmps[d]? = some (.bool b) := by
          simp only [Array.getD_eq_getD_getElem?, Array.getElem?_eq_getElem hlt, Option.getD_some] at e2
          rw [Array.getElem?_eq_getElem hlt, e2]
        have e4 : yielded ops a.tmps j = some b := by
          unfold yielded
          rw [hd]
          simp only [Option.bind_some, e3]
        rw [e4]
        by_cases hb : b = want
        · exact .inl ⟨by simp [hb], h.1 hb⟩
        · exact .inr ⟨by simp [hb], h.2 (by cases b <;> cases want <;> simp_all)⟩
      | _ => rw [hv] at h; exact h.elim

theorem runOps_sound {C : Cx} {mb : Nat → Bool} {nt : Nat} {B0 : Nat} {ops : Array Oper} {Q : Exit → Act → World → Prop} : ∀ (l : List Oper) {L : Lay} {G : Heap} {w : World} {env : Env} {a : Act} {K : Env → Heap → Prop}, l.all (opOk ops nt) = true → Rel C.gl B0 L G w → ER L w nt env a →
    runOps C mb ops l env G K → (∀ L' G' w' env' a', K env' G' → Fr L G w L' G' w' → Rel C.gl B0 L' G' w' → ER L' w' nt env' a' → Q .normal a' w') → wpList C.P ops Q l a w
  | [], L, G, w, env, a, K, _, hr, he, h, hQ => hQ L G w env a h (.refl L G w) hr he
  | o :: rest, L, G, w, env, a, K, hok, hr, he, h, hQ => by
    simp only [List.all_cons, Bool.and_eq_true] at hok
    obtain ⟨ho, hrest⟩ := hok
    simp only [opOk, Bool.and_eq_true] at ho
    obtain ⟨⟨ho1, ho2⟩, ho3⟩ := ho
    simp only [runOps] at h
    simp only [wpList]
    rcases wantK_spec he ho3 h with ⟨hw, h⟩ | ⟨hw, h⟩
    · rw [if_pos hw]
      refine .inl ((step_sound hr (fun x hx => he.ev hr (List.all_eq_true.1 ho1 x hx)) h).wp fun v w' ⟨L', r, G', hK, hf, hr', hv⟩ => ?_)
      exact runOps_sound rest hrest hr' ((he.mono hf.le (hf.imm hr)).put o.dst hv) hK fun L2 G2 w2 env2 a2 k1 k2 k3 k4 => hQ L2 G2 w2 env2 a2 k1 (hf.trans k2 hr) k3 k4
    · rw [if_neg (by simp [hw])]
      exact runOps_sound rest hrest hr (he.put o.dst (.undef _)) h hQ

/-- A function of a program, which of its boxes may be written, and what is asked of its answer. -/
structure Fx where
  C : Cx
  fn : Func
  mb : Nat → Bool
  R : AV → Heap → Prop

def resK (C : Cx) (G : Heap) (env : Env) : List ResultVar → (List AV → Prop) → Prop
  | [], K => K []
  | .tmp t :: rest, K => resK C G env rest fun vs => K (env t :: vs)
  | .cell x t :: rest, K => match C.ti t with
    | some i => rdK G (env x) i.sz fun cs => mkK i.ag cs fun v => resK C G env rest fun vs => K (v :: vs)
    | none => False
def oneK (vs : List AV) (K : AV → Prop) : Prop := match vs with
  | [v] => K v
  | vs => K (.tup vs)
def resOk (nt : Nat) : ResultVar → Bool
  | .tmp t => decide (t < nt)
  | .cell x _ => decide (x < nt)

theorem rdK_mono {G : Heap} {p : AV} {sz : Nat} {K K' : List AV → Prop} (h : rdK G p sz K) (hk : ∀ cs, K cs → K' cs) : rdK G p sz K' := by
  unfold rdK at h ⊢
  split at h
  · split at h
    · exact ⟨h.1, hk _ h.2⟩
    · exact h.elim
  · exact ⟨h.1, hk _ h.2⟩
  · exact h.elim

theorem resK_sound {C : Cx} {B0 : Nat} {L : Lay} {G : Heap} {w : World} {nt : Nat} {env : Env} {a : Act} (hr : Rel C.gl B0 L G w) (he : ER L w nt env a) : ∀ (rs : List ResultVar) {K : List AV → Prop}, rs.all (resOk nt) = true → resK C G env rs K →
    ∃ vs us, (rs.mapM fun | .tmp t => Pure.pure (a.tmps.getD t undef) | .cell x t => do loadVar t (← asAddr (a.tmps.getD x undef)) : Sem (List Value)).run C.P w = .ok us w ∧ VRs L w vs us ∧ K vs
  | [], K, _, h => ⟨[], [], rfl, .nil L w, h⟩
  | .tmp t :: rest, K, hok, h => by
    simp only [List.all_cons, Bool.and_eq_true, resOk, decide_eq_true_eq] at hok
    obtain ⟨vs, us, h1, h2, h3⟩ := resK_sound hr he rest hok.2 h
    exact ⟨_, _, by simp only [List.mapM_cons, Sem.run_bind, Sem.run_pure, Result.andThen_ok, h1], .cons (he.vr t hok.1) h2, h3⟩
  | .cell x t :: rest, K, hok, h => by
    simp only [List.all_cons, Bool.and_eq_true, resOk, decide_eq_true_eq] at hok
    simp only [resK] at h
    split at h
    · rename_i i hi
      obtain ⟨ad, vs, cs, hv, hK, hvs, hl, hc, _⟩ := rdK_spec hr (he.vr x hok.1) h
      obtain ⟨v, r, k1, k2, k3⟩ := loadVar_run hi hvs hl hc hK
      obtain ⟨vs', us', h1, h2, h3⟩ := resK_sound hr he rest hok.2 k3
      have e1 : (asAddr (a.tmps.getD x undef)).run C.P w = .ok ad w := by rw [hv]; rfl
      exact ⟨_, _, by simp only [List.mapM_cons, Sem.run_bind, e1, Sem.run_pure, Result.andThen_ok, k1, h1], .cons k2 h2, h3⟩
    · exact h.elim

theorem results_run {C : Cx} {B0 : Nat} {L : Lay} {G : Heap} {w : World} {env : Env} {a : Act} {fn : Func} {K : AV → Prop} (hr : Rel C.gl B0 L G w) (he : ER L w fn.ntmps env a) (hok : fn.results.toList.all (resOk fn.ntmps) = true)
    (h : resK C G env fn.results.toList fun vs => oneK vs K) : ∃ v r, (results fn a.tmps).run C.P w = .ok v w ∧ VR L w r v ∧ K r := by
  obtain ⟨vs, us, h1, h2, h3⟩ := resK_sound hr he fn.results.toList hok h
  have hrun : (fn.results.mapM fun | .tmp t => Pure.pure (a.tmps.getD t undef) | .cell x t => do loadVar t (← asAddr (a.tmps.getD x undef)) : Sem (Array Value)).run C.P w = .ok us.toArray w := by
    rw [Array.mapM_eq_mapM_toList]
    simp only [Sem.run_map, h1, Result.andThen_ok]
  have hrun2 : (results fn a.tmps).run C.P w = (Result.ok us.toArray w).andThen fun (vs : Array Value) w => .ok (if h : vs.size = 1 then vs[0] else .tuple vs) w := by
    rw [← hrun]
    unfold results
    rw [Sem.run_bind]
    rfl
  rw [hrun2]
  simp only [Result.andThen_ok]
  unfold oneK at h3
  split at h3
  · rename_i c
    obtain ⟨u, us', rfl, k1, k2⟩ := h2.of_cons
    obtain rfl := k2.of_nil
    exact ⟨u, c, by simp, k1, h3⟩
  · rename_i hne
    refine ⟨.tuple us.toArray, .tup vs, ?_, .tup _ _ (by simpa using h2.1) (fun i c v e1 e2 => h2.2 i c v e1 (by simpa using e2)), h3⟩
    have hl : us.length ≠ 1 := by
      rw [← h2.1]
      intro h1
      match vs, h1 with
      | [v], _ => exact hne v rfl
    simp [hl]

/-- From here on (what is left to do, the environment, the heap) the function comes to its end, and answers what is asked. -/
def Runs (F : Fx) (todo : List Item) (env : Env) (G : Heap) : Prop :=
  ∀ (B0 : Nat) (L : Lay) (w : World) (a : Act) (b : Frame) (cs : List Frame), b.kind = .normal → ER L w F.fn.ntmps env a → Rel F.C.gl B0 L G w →
    ∃ w' fr v, Steps F.C.P (lone (b.at a todo) cs w) (lone fr cs w') ∧ fr.fn = b.fn ∧ fr.mode = .returning ∧ fr.defers = [] ∧ fr.kind = .normal ∧ (results F.fn fr.tmps).run F.C.P w' = .ok v w' ∧ After F.C B0 L G w F.R v w'

section rules
variable {F : Fx} {k : List Item} {env : Env} {G : Heap}

theorem Runs.head {todo : List Item} (h : Runs F k env G) (hs : ∀ (b : Frame) (a : Act) (cs : List Frame) (w : World), (∀ t, t < F.fn.ntmps → True) → step F.C.P (lone (b.at a todo) cs w) = .next (lone (b.at a k) cs w)) : Runs F todo env G := by
  intro B0 L w a b cs hb he hr
  obtain ⟨w', fr, v, h1, h2⟩ := h B0 L w a b cs hb he hr
  exact ⟨w', fr, v, .head (hs b a cs w fun _ _ => trivial) h1, h2⟩
theorem Runs.seq {x y : Code} (h : Runs F (.code x :: .code y :: k) env G) : Runs F (.code (.seq x y) :: k) env G := h.head fun _ _ _ _ _ => step_seq
theorem Runs.skip (h : Runs F k env G) : Runs F (.code .skip :: k) env G := h.head fun _ _ _ _ _ => step_skip
theorem Runs.block {id : Nat} {c : Code} (h : Runs F (.code c :: .inBlock id :: k) env G) : Runs F (.code (.block id c) :: k) env G := h.head fun _ _ _ _ _ => step_block
theorem Runs.inBlock {id : Nat} (h : Runs F k env G) : Runs F (.inBlock id :: k) env G := h.head fun _ _ _ _ _ => step_inBlock
theorem Runs.exit {id : Nat} {k' : List Item} (hk : exitTo id k = some k') (h : Runs F k' env G) : Runs F (.code (.exit id) :: k) env G := h.head fun _ _ _ _ _ => step_exit hk
theorem Runs.inLoop {c : Code} (h : Runs F (.code c :: .inLoop c :: k) env G) : Runs F (.inLoop c :: k) env G := h.head fun _ _ _ _ _ => step_inLoop
theorem Runs.label {l : Nat} (h : Runs F k env G) : Runs F (.code (.label l) :: k) env G := h.head fun _ _ _ _ _ => step_label

theorem Runs.cond {t : Tmp} {x y : Code} {c : Bool} (ht' : decide (t < F.fn.ntmps) = true) (hc : env t = .bool c) (h1 : c = true → Runs F (.code x :: k) env G) (h2 : c = false → Runs F (.code y :: k) env G) : Runs F (.code (.cond (.tmp t) x y) :: k) env G := by
  intro B0 L w a b cs hb he hr
  have ht : t < F.fn.ntmps := of_decide_eq_true ht'
  have e1 := he.vr t ht
  rw [hc] at e1
  have e2 : a.eval (.tmp t) = .bool c := e1.inv_bool
  have hx : Runs F (.code (if c then x else y) :: k) env G := by cases c; exact h2 rfl; exact h1 rfl
  obtain ⟨w', fr, v, g1, g2⟩ := hx B0 L w a b cs hb he hr
  exact ⟨w', fr, v, .head (step_cond e2) g1, g2⟩

theorem Runs.loop {c : Code} (I : Nat → Env → Heap → Prop) (n : Nat) (h0 : I n env G) (hr : ∀ n env G, I n env G → (∀ n' env' G', n' < n → I n' env' G' → Runs F (.inLoop c :: k) env' G') → Runs F (.code c :: .inLoop c :: k) env G) :
    Runs F (.code (.loop c) :: k) env G := by
  have key : ∀ n env G, I n env G → Runs F (.code c :: .inLoop c :: k) env G := by
    intro n
    induction n using Nat.strongRecOn with
    | _ n ih => exact fun env G hI => hr n env G hI fun n' env' G' hlt hI' => (ih n' hlt env' G' hI').inLoop
  exact (key n env G h0).head fun _ _ _ _ _ => step_loop

theorem Runs.region {id : Nat} {ops : Array Oper} (hok : ops.toList.all (opOk ops F.fn.ntmps) = true) (h : runOps F.C F.mb ops ops.toList env G fun env' G' => Runs F k env' G') : Runs F (.code (.region id ops false) :: k) env G := by
  intro B0 L w a b cs hb he hr
  have hw : (Code.region id ops false).wp F.C.P (fun e a' w' => e = .normal ∧ ∃ L' G' env', Runs F k env' G' ∧ Fr L G w L' G' w' ∧ Rel F.C.gl B0 L' G' w' ∧ ER L' w' F.fn.ntmps env' a') a w :=
    wp_region_list (runOps_sound ops.toList hok hr he h fun L' G' w' env' a' k1 k2 k3 k4 => ⟨rfl, L', G', env', k1, k2, k3, k4⟩)
  obtain ⟨e, a', w', ⟨rfl, L', G', env', k1, k2, k3, k4⟩, harr⟩ := hw b k cs
  obtain ⟨w2, fr, v, g1, g2, g3, g4, g5, g6, L2, r, G2, q1, q2, q3, q4⟩ := k1 B0 L' w' a' b cs hb k4 k3
  exact ⟨w2, fr, v, Steps.trans harr g1, g2, g3, g4, g5, g6, L2, r, G2, q1, k2.trans q2 hr, q3, q4⟩

theorem Runs.ret (hok : F.fn.results.toList.all (resOk F.fn.ntmps) = true) (h : resK F.C G env F.fn.results.toList fun vs => oneK vs fun r => F.R r G) : Runs F (.code .ret :: k) env G := by
  intro B0 L w a b cs hb he hr
  obtain ⟨v, r, h1, h2, h3⟩ := results_run hr he hok h
  exact ⟨w, _, v, .one step_ret, rfl, rfl, he.defers, hb, h1, L, r, G, h3, .refl L G w, hr, h2⟩
theorem Runs.fin (hok : F.fn.results.toList.all (resOk F.fn.ntmps) = true) (h : resK F.C G env F.fn.results.toList fun vs => oneK vs fun r => F.R r G) : Runs F [] env G := by
  intro B0 L w a b cs hb he hr
  obtain ⟨v, r, h1, h2, h3⟩ := results_run hr he hok h
  exact ⟨w, _, v, .one step_end, rfl, rfl, he.defers, hb, h1, L, r, G, h3, .refl L G w, hr, h2⟩

/-- What is known of the environment may be forgotten. -/
theorem Runs.weaken {env' : Env} (h : Runs F k env' G) (hle : ∀ t, t < F.fn.ntmps → AVle (env t) (env' t)) : Runs F k env G :=
  fun B0 L w a b cs hb he hr => h B0 L w a b cs hb ⟨he.size, fun t ht => hle t ht _ _ _ (he.vr t ht), he.defers⟩ hr
end rules

def env0 (args : List AV) : Env := fun t => args.getD t .undef

theorem Ct.intro {C : Cx} {f : FuncId} {fn : Func} {c : Code} {args : List AV} {G : Heap} {R : AV → Heap → Prop} (mb : Nat → Bool) (hf : C.P.funcs[f]? = some fn) (hb : fn.body = some c) (hcall : C.callable f = true) (hlen : args.length ≤ fn.ntmps)
    (h : Runs ⟨C, fn, mb, R⟩ [.code c] (env0 args) G) : Ct C f args G R := by
  refine ⟨hcall, fun B0 L w vs hr hvs cs => ?_⟩
  let b : Frame := { (default : Frame) with fn := f, kind := .normal }
  have henter : Frame.enter C.P f vs .normal = b.at { tmps := vs ++ Array.replicate (fn.ntmps - vs.size) undef, defers := [] } [.code c] := by
    simp [Frame.enter, Frame.at, hf, hb, b]
  have hl : args.length = vs.size := by have := hvs.1; simpa using this
  have he : ER L w fn.ntmps (env0 args) { tmps := vs ++ Array.replicate (fn.ntmps - vs.size) undef, defers := [] } := by
    refine ⟨by simp; omega, fun t ht => ?_, rfl⟩
    simp only [env0, Array.getD_eq_getD_getElem?, Array.getElem?_append]
    by_cases htl : t < vs.size
    · rw [if_pos htl]
      have e1 : args.getD t .undef = args[t]'(by omega) := by simp [List.getD_eq_getElem?_getD, show t < args.length by omega]
      rw [e1, Array.getElem?_eq_getElem htl]
      exact hvs.2 t _ _ (List.getElem?_eq_getElem (by omega)) (by simp [htl])
    · rw [if_neg htl]
      have e1 : args.getD t .undef = .undef := by simp [List.getD_eq_getElem?_getD, List.getElem?_eq_none (show args.length ≤ t by omega)]
      rw [e1]
      exact .undef _
  obtain ⟨w', fr, v, h1, h2, h3, h4, h5, h6, h7⟩ := h B0 L w _ b cs rfl he hr
  rw [henter]
  exact ⟨.returned v, w', fr, ⟨v, rfl, h7⟩, h1, h2, h3, h4, h5, fn, by rw [h2]; exact hf, h6⟩

end Go.Fw
