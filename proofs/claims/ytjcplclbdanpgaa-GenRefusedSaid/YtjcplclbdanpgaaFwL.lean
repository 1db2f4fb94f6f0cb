/- What an operation answers is one value: it can be named before the rest is run. Frames: a part of a heap, and what is beside it. -/
import Derived.Test.YtjcplclbdanpgaaFwK
set_option linter.unusedVariables false
set_option linter.unusedSimpArgs false
namespace Go.Fw
open Go

/-- A condition on what follows that is a condition on one value. -/
structure Ext {α : Type} (F : (α → Prop) → Prop) : Prop where
  out : ∀ K, F K → ∃ x, K x ∧ ∀ K', K' x → F K'
theorem Ext.leaf {α : Type} (a : α) : Ext fun K : α → Prop => K a := ⟨fun K h => ⟨a, h, fun _ h => h⟩⟩
theorem Ext.no {α : Type} : Ext fun _ : α → Prop => False := ⟨fun K h => h.elim⟩
theorem Ext.and {α : Type} {p : Prop} {F : (α → Prop) → Prop} (h : Ext F) : Ext fun K => p ∧ F K := ⟨fun K ⟨hp, hF⟩ => by
  obtain ⟨x, h1, h2⟩ := h.out K hF
  exact ⟨x, h1, fun K' k => ⟨hp, h2 K' k⟩⟩⟩
theorem Ext.bind {α β : Type} {F : (α → Prop) → Prop} {G : α → (β → Prop) → Prop} (h : Ext F) (g : ∀ x, Ext (G x)) : Ext fun K => F fun x => G x K := ⟨fun K hF => by
  obtain ⟨x, h1, h2⟩ := h.out _ hF
  obtain ⟨y, h3, h4⟩ := (g x).out K h1
  exact ⟨y, h3, fun K' k => h2 _ (h4 K' k)⟩⟩
theorem Ext.map {α β : Type} {F : (α → Prop) → Prop} (h : Ext F) (f : α → β) : Ext fun K : β → Prop => F fun x => K (f x) := h.bind fun x => .leaf (f x)
theorem Ext.two {α : Type} {p q : Prop} {F G : (α → Prop) → Prop} (hpq : p ∨ q) (hnot : ¬ (p ∧ q)) (h : Ext F) (g : Ext G) : Ext fun K => (p → F K) ∧ (q → G K) := ⟨fun K ⟨h1, h2⟩ => by
  rcases hpq with hp | hq
  · obtain ⟨x, k1, k2⟩ := h.out K (h1 hp)
    exact ⟨x, k1, fun K' k => ⟨fun _ => k2 K' k, fun hq => (hnot ⟨hp, hq⟩).elim⟩⟩
  · obtain ⟨x, k1, k2⟩ := g.out K (h2 hq)
    exact ⟨x, k1, fun K' k => ⟨fun hp => (hnot ⟨hp, hq⟩).elim, fun _ => k2 K' k⟩⟩⟩

theorem rdK_ext (G : Heap) (p : AV) (sz : Nat) : Ext fun K => rdK G p sz K := by
  cases p <;> simp only [rdK] <;> try exact .no
  case ptr b off =>
    cases h : G.get b with
    | none => exact .no
    | some blk => exact .and (.leaf _)
  case ref cs => exact .and (.leaf _)
theorem mkK_ext (ag : Bool) (cs : List AV) : Ext fun K => mkK ag cs K := by
  cases ag with
  | true => exact .leaf _
  | false => match cs with
    | [] => exact .no
    | [c] => exact .leaf _
    | _ :: _ :: _ => exact .no
theorem intOp_ext (op : BinOp) (k : IntKind) (a b : Int) : Ext fun K => intOp op k a b K := by
  cases op <;> simp only [intOp] <;> first | exact .no | exact .leaf _ | exact .and (.leaf _)
theorem eqOp_ext (op : BinOp) (r : Bool) : Ext fun K => eqOp op r K := by
  cases op <;> simp only [eqOp] <;> first | exact .no | exact .leaf _
theorem strOp_ext (op : BinOp) (a b : ByteArray) : Ext fun K => strOp op a b K := by
  cases op <;> simp only [strOp] <;> first | exact .no | exact .leaf _
theorem binK_ext (C : Cx) (op : BinOp) (t : TypeId) (x y : AV) : Ext fun K => binK C op t x y K := by
  cases x <;> cases y <;> simp only [binK] <;> (try split) <;> first | exact .no | exact .and (intOp_ext ..) | exact .and (eqOp_ext ..) | exact strOp_ext ..
theorem unK_ext (op : UnOp) (x : AV) : Ext fun K => unK op x K := by
  cases op <;> cases x <;> simp only [unK] <;> first | exact .no | exact .leaf _
theorem sliceAt_ext (x : AV) (l h : Int) : Ext fun K => sliceAt x l h K := by
  cases x <;> simp only [sliceAt] <;> first | exact .no | exact .and (.leaf _) | exact .and (.and (.leaf _))
theorem sliceK_ext (C : Cx) (ρ : Operand → AV) (t : TypeId) (x : AV) (lo hi mx : Option Operand) : Ext fun K => sliceK C ρ t x lo hi mx K := by
  unfold sliceK
  cases C.el t with
  | none => exact .no
  | some e =>
    simp only
    split
    · refine .and ?_
      split
      · exact sliceAt_ext ..
      · exact .no
    · split
      · split
        · exact .leaf _
        · exact .no
      · exact .no
    · exact .no
theorem idxK_ext (C : Cx) (t : TypeId) (x : AV) (i : Int) : Ext fun K => idxK C t x i K := by
  unfold idxK
  cases C.el t with
  | some e =>
    simp only
    cases C.ti e with
    | none => exact .no
    | some ti => cases x <;> simp only <;> first | exact .no | exact .and (.and (.leaf _))
  | none =>
    simp only
    cases C.ar t with
    | none => exact .no
    | some q =>
      simp only
      cases C.ti q.2 with
      | none => exact .no
      | some ti => cases x <;> simp only <;> first | exact .no | exact .and (.leaf _)
theorem partK_ext (i : TI) (off : Nat) (cs : List AV) : Ext fun K => partK i off cs K := by
  unfold partK
  cases i.ag with
  | true => exact .leaf _
  | false =>
    simp only
    cases cs[off]? with
    | none => exact .no
    | some c => exact .leaf _
theorem partsK_ext (C : Cx) (place : Nat → Option (Nat × Nat)) (ρ : Operand → AV) : ∀ (l : List (Nat × Operand)) (zs : List AV), Ext fun K => partsK C place ρ l zs K
  | [], zs => .leaf _
  | (i, x) :: rest, zs => by
    simp only [partsK]
    cases place i with
    | none => exact .no
    | some q => exact .and (.and (.and (partsK_ext C place ρ rest _)))
theorem minmaxK_ext (mx : Bool) : ∀ l : List AV, Ext fun K => minmaxK mx l K
  | [] => .no
  | [a] => by cases a <;> exact .no
  | [a, b] => by cases a <;> cases b <;> simp only [minmaxK] <;> first | exact .no | exact .and (.leaf _)
  | a :: b :: c :: l => by cases a <;> cases b <;> exact .no
theorem pureK_ext (C : Cx) (G : Heap) (ρ : Operand → AV) (op : Op) : Ext fun K => pureK C G ρ op K := by
  cases op <;> simp only [pureK] <;> try exact .no
  case move => exact .leaf _
  case assign => exact .leaf _
  case pick c x y => cases ρ c <;> first | exact .leaf _ | exact .no
  case build t ps =>
    cases C.ti t with
    | none => exact .no
    | some i => exact .and ((partsK_ext ..).map _)
  case load t x =>
    cases C.ti t with
    | none => exact .no
    | some i => exact (rdK_ext ..).bind fun cs => mkK_ext ..
  case nilCheck x => cases ρ x <;> first | exact .leaf _ | exact .no
  case binOp => exact binK_ext ..
  case unOp => exact unK_ext ..
  case convert s d x => cases C.ik d <;> cases ρ x <;> first | exact .no | exact .and (.leaf _)
  case makeFunc f a b => cases f <;> first | exact .leaf _ | exact .no
  case slice => exact sliceK_ext ..
  case fieldAddr t x i =>
    cases C.fd t i with
    | none => exact .no
    | some q =>
      simp only
      cases C.ti q.2 with
      | none => exact .no
      | some ti => refine .and ?_; cases ρ x <;> first | exact .leaf _ | exact .no
  case field t x i =>
    cases C.fd t i with
    | none => exact .no
    | some q =>
      cases ρ x <;> (try simp only) <;> try exact .no
      cases C.ti q.2 with
      | none => exact .no
      | some ti => exact partK_ext ..
  case indexAddr t x ix => cases ρ ix <;> first | exact idxK_ext .. | exact .no
  case index t x ix =>
    cases ρ ix <;> (try simp only) <;> try exact .no
    cases ρ x <;> (try simp only) <;> try exact .no
    cases C.ar t with
    | none => exact .no
    | some q =>
      simp only
      cases C.ti q.2 with
      | none => exact .no
      | some ti => exact .and (partK_ext ..)
  case extract x i =>
    cases ρ x <;> (try simp only) <;> try exact .no
    rename_i vs
    cases vs[i]? with
    | none => exact .no
    | some v => exact .leaf _
  case call c =>
    cases c.callee <;> (try simp only) <;> try exact .no
    rename_i b
    cases b <;> (try simp only) <;> first | exact .no | exact minmaxK_ext .. | skip
    match c.args.toList, c.argTypes.toList with
    | [], _ => exact .no
    | [x], [] => exact .no
    | [x], [t] =>
      simp only
      cases ρ x <;> simp only [lenOf] <;> first | exact .no | exact .and (.leaf _)
    | [x], _ :: _ :: _ => exact .no
    | _ :: _ :: _, _ => exact .no
theorem elsK_ext (C : Cx) (ρ : Operand → AV) (t : TypeId) (len : Nat) (parts : Array (Nat × Operand)) : Ext fun K : Nat × List AV → Prop => elsK C ρ t len parts fun sz cs => K (sz, cs) := by
  unfold elsK
  cases C.el t with
  | none => exact .no
  | some e =>
    simp only
    cases C.ti e with
    | none => exact .no
    | some i => exact .and ((partsK_ext ..).map _)
theorem immK_ext (C : Cx) (ρ : Operand → AV) (op : Op) : Ext fun K => immK C ρ op K := by
  cases op <;> simp only [immK] <;> try exact .no
  case box => exact .and (.leaf _)
  case buildSlice t len ps =>
    cases len with
    | zero => exact (elsK_ext C ρ t 0 ps).map fun _ => AV.nils
    | succ n => exact (elsK_ext C ρ t (n + 1) ps).map fun q => AV.lst q.1 (n + 1) fun i => (q.2.drop (i * q.1)).take q.1
theorem newK_ext (C : Cx) (ρ : Operand → AV) (op : Op) : Ext fun K : (Nat → AV) × Blk → Prop => newK C ρ op fun mk b => K (mk, b) := by
  cases op <;> simp only [newK] <;> try exact .no
  case alloc t =>
    cases C.ti t with
    | none => exact .no
    | some i => exact .and (.leaf _)
  case box => exact .and (.leaf _)
  case buildSlice t len ps => exact (elsK_ext C ρ t len ps).map fun q => ((fun id => AV.sl id 0 len true q.1 : Nat → AV), (⟨len * q.1, fun j => q.2.getD j .undef⟩ : Blk))
  case makeSlice t l c =>
    cases C.el t <;> cases ρ l <;> (try simp only) <;> try exact .no
    cases ρ c <;> (try simp only) <;> try exact .no
    rename_i e _ _ _ _
    cases C.ti e with
    | none => exact .no
    | some i => exact .and (.leaf _)
theorem stoK_ext (C : Cx) (G : Heap) (t : TypeId) (x v : AV) : Ext fun K => stoK C G t x v K := by
  unfold stoK
  cases C.ti t with
  | none => exact .no
  | some i =>
    cases x <;> (try simp only) <;> try exact .no
    rename_i b off
    cases G.get b with
    | none => exact .no
    | some blk => exact .and (.leaf _)
theorem rdsK_ext (G : Heap) (x : AV) (sz : Nat) : Ext fun K : Nat × (Nat → List AV) → Prop => rdsK G x sz fun n f => K (n, f) := by
  cases x <;> simp only [rdsK] <;> try exact .no
  case sl b off len ex sz' =>
    cases G.get b with
    | none => exact .no
    | some blk => exact .and (.leaf _)
  case lst => exact .and (.leaf _)
  case nils => exact .leaf _
  case emp => exact .leaf _
theorem appTo_ext (G : Heap) (s : AV) (sz m : Nat) (g : Nat → List AV) (fits : Nat → Prop) : Ext fun K : AV × Heap → Prop => appTo G s sz m g fits fun r G' => K (r, G') := by
  cases s <;> simp only [appTo] <;> try exact .no
  case nils => exact .and (.two (by omega) (by omega) (.leaf _) (.leaf _))
  case sl b off len ex sz' =>
    cases G.get b with
    | none => exact .no
    | some blk =>
      refine .and (.two (by omega) (by omega) (.leaf _) ?_)
      cases ex with
      | true => exact .leaf _
      | false => exact .and (.leaf _)
theorem appK_ext (C : Cx) (G : Heap) (ts tx : TypeId) (s x : AV) : Ext fun K : AV × Heap → Prop => appK C G ts tx s x fun r G' => K (r, G') := by
  unfold appK
  cases C.el ts <;> cases (C.el tx).isSome <;> (try simp only) <;> try exact .no
  rename_i e
  cases C.ti e with
  | none => exact .no
  | some i => exact .and (Ext.bind (G := fun q K => appTo G s i.sz q.1 q.2 (fun n => n * i.by' ≤ 140737488355328 ∧ n ≤ 140737488355328) fun r G' => K (r, G')) (rdsK_ext G x i.sz) fun q => appTo_ext _ _ _ _ _ _)
theorem callK_ext (C : Cx) (G : Heap) (ρ : Operand → AV) (f : Operand) (args : Array Operand) : Ext fun K : AV × Heap → Prop => callK C G ρ f args fun r G' => K (r, G') := by
  unfold callK
  cases ρ f <;> (try simp only) <;> try exact .no
  exact ⟨fun K ⟨r, G', h, k⟩ => ⟨(r, G'), k, fun K' k' => ⟨r, G', h, k'⟩⟩⟩

/-! ### Frames -/
theorem Rel.hide {gl : Nat → AV} {B0 : Nat} {L : Lay} {G G1 : Heap} {w : World} (h : Rel gl B0 L G w) (hs : ∀ b blk, L.D b → G1.get b = some blk → G.get b = some blk) (hn : G.next ≤ G1.next) (hw : ∀ b, G1.next ≤ b → G1.get b = none) : Rel gl B0 L G1 w where
  base := h.base
  idlt b hb := Nat.lt_of_lt_of_le (h.idlt b hb) hn
  ilt := h.ilt
  wf := hw
  live b blk hb hg := h.live b blk hb (hs b blk hb hg)
  inj b b' x x' hb hb' hg hg' := h.inj b b' x x' hb hb' (hs _ _ hb hg) (hs _ _ hb' hg')
  glob := h.glob
theorem Rel.drew {gl : Nat → AV} {B0 : Nat} {L : Lay} {G : Heap} {w w' : World} (h : Rel gl B0 L G w) (hh : w'.heap = w.heap) : Rel gl B0 L G w' where
  base := by rw [hh]; exact h.base
  idlt := h.idlt
  ilt := by rw [hh]; exact h.ilt
  wf := h.wf
  live b blk hb hg := by
    obtain ⟨h1, h2, o, h4, h5⟩ := h.live b blk hb hg
    exact ⟨h1, h2, o, by rw [hh]; exact h4, h5.mono (.refl L) fun j _ => by rw [hh]⟩
  inj := h.inj
  glob g := (h.glob g).mono (.refl L) fun j _ => by rw [hh]

/-- A heap, with what stood beside the part that was worked on. -/
def Heap.over (G1' G1 G : Heap) : Heap := ⟨G1'.next, fun b => match G1.get b with
  | none => if b < G1.next then G.get b else G1'.get b
  | some _ => G1'.get b⟩

theorem Fr.frame {gl : Nat → AV} {B0 : Nat} {L L' : Lay} {G G1 G1' : Heap} {w w' : World} (r : Rel gl B0 L G w) (hs : ∀ b blk, G1.get b = some blk → G.get b = some blk) (hn : G1.next = G.next)
    (f : Fr L G1 w L' G1' w') (r' : Rel gl B0 L' G1' w') : Fr L G w L' (G1'.over G1 G) w' ∧ Rel gl B0 L' (G1'.over G1 G) w' := by
  have hget : ∀ b, b < G1.next → G1.get b = none → (G1'.over G1 G).get b = G.get b := fun b h1 h2 => by simp [Heap.over, h2, h1]
  have hget1 : ∀ b, ¬ (b < G1.next ∧ G1.get b = none) → (G1'.over G1 G).get b = G1'.get b := fun b h => by
    unfold Heap.over
    cases hg : G1.get b with
    | some x => simp [hg]
    | none => simp [hg]; intro h1; exact (h ⟨h1, hg⟩).elim
  have hnone : ∀ b, G.get b = none → G1.get b = none := fun b hb => by
    cases hg : G1.get b with
    | none => rfl
    | some x => rw [hs b x hg] at hb; cases hb
  have hsub : ∀ i, (∀ b, L.D b → G.get b ≠ none → L.k b ≠ i) → ∀ b, L.D b → G1.get b ≠ none → L.k b ≠ i := fun i h b hb hg => h b hb fun h0 => hg (hnone b h0)
  have hup : ∀ b0, G1.get b0 ≠ none → G.get b0 ≠ none := fun b0 h h0 => h (hnone b0 h0)
  refine ⟨⟨f.le, f.size, f.os, f.tape, f.output, fun i hi h => f.keep i hi (hsub i h), fun b h1 h2 => hn ▸ f.newD b h1 h2, fun b h1 h2 => ?_, fun i h1 h2 => ?_, ?_, fun b hb hD => ?_, fun b hb h0 => ?_⟩, ?_⟩
  · rcases f.newK b h1 h2 with h | ⟨b0, k1, k2, k3⟩
    · exact .inl h
    · exact .inr ⟨b0, k1, hup b0 k2, k3⟩
  · rcases f.newI i h1 h2 with h | ⟨b0, k1, k2, k3⟩
    · exact .inl h
    · exact .inr ⟨b0, k1, hup b0 k2, k3⟩
  · rw [← hn]; exact f.next
  · cases hg : G1.get b with
    | none => exact hget b (by omega) hg
    | some x =>
      rw [hget1 b (fun h => by rw [hg] at h; cases h.2), f.old b (by omega) hD, hg, hs b x hg]
  · rw [hget b (by omega) (hnone b h0)]; exact h0
  -- the relation
  · have case : ∀ b blk, L'.D b → (G1'.over G1 G).get b = some blk → (L.D b ∧ b < G1.next ∧ G1.get b = none ∧ G.get b = some blk) ∨ G1'.get b = some blk := fun b blk hD hg => by
      by_cases h : b < G1.next ∧ G1.get b = none
      · rw [hget b h.1 h.2] at hg
        refine .inl ⟨?_, h.1, h.2, hg⟩
        by_cases hb : L.D b
        · exact hb
        · have := f.newD b hD hb; omega
      · rw [hget1 b h] at hg; exact .inr hg
    have hidden : ∀ b blk, L.D b → G1.get b = none → G.get b = some blk → L.k b < w.heap.size ∧ (∀ b', L.D b' → G1.get b' ≠ none → L.k b' ≠ L.k b) := fun b blk hD h0 hg => by
      obtain ⟨_, _, o, hc, _⟩ := r.live b blk hD hg
      refine ⟨(Array.getElem?_eq_some_iff.1 hc).1, fun b' hD' hg' he => ?_⟩
      cases hx : G1.get b' with
      | none => exact hg' hx
      | some x' =>
        have := r.inj b' b x' blk hD' hD (hs b' x' hx) hg he
        subst this
        rw [h0] at hx; cases hx
    have hdisj : ∀ b b' x x', L.D b → G1.get b = none → G.get b = some x → L'.D b' → G1'.get b' = some x' → L'.k b' ≠ L.k b := fun b b' x x' hD h0 hg hD' hg' he => by
      obtain ⟨k1, k2⟩ := hidden b x hD h0 hg
      by_cases hb : L.D b'
      · rw [f.le.k b' hb] at he
        refine k2 b' hb (fun h1 => ?_) he
        rw [f.dead b' (by rw [hn]; exact r.idlt b' hb) h1] at hg'
        cases hg'
      · rcases f.newK b' hD' hb with h | ⟨b0, q1, q2, q3⟩
        · omega
        · exact k2 b0 q1 q2 (q3.trans he)
    refine ⟨r'.base, fun b hb => r'.idlt b hb, r'.ilt, fun b hb => ?_, fun b blk hD hg => ?_, fun b b' x x' hD hD' hg hg' he => ?_, r'.glob⟩
    · have : G1'.next ≤ b := hb
      have := f.next
      rw [hget1 b (fun h => by omega)]
      exact r'.wf b hb
    · rcases case b blk hD hg with ⟨h1, h2, h3, h4⟩ | h
      · obtain ⟨k1, k2⟩ := hidden b blk h1 h3 h4
        obtain ⟨q1, q2, o, q4, q5⟩ := r.live b blk h1 h4
        rw [f.le.k b h1, f.le.S b h1, f.le.M b h1]
        refine ⟨q1, fun hI => ?_, o, ?_, ?_⟩
        · rcases f.newI _ hI q2 with h | ⟨b0, s1, s2, s3⟩
          · omega
          · exact k2 b0 s1 s2 s3
        · rw [f.keep _ k1 k2]; exact q4
        · exact q5.mono f.le (f.imm (r.hide (fun b blk _ h => hs b blk h) (by omega) (fun b hb => hnone b (r.wf b (by omega)))))
      · exact r'.live b blk hD h
    · rcases case b x hD hg with ⟨h1, h2, h3, h4⟩ | h
      · rcases case b' x' hD' hg' with ⟨g1, g2, g3, g4⟩ | g
        · rw [f.le.k b h1, f.le.k b' g1] at he
          exact r.inj b b' x x' h1 g1 h4 g4 he
        · rw [f.le.k b h1] at he
          exact (hdisj b b' x x' h1 h3 h4 hD' g he.symm).elim
      · rcases case b' x' hD' hg' with ⟨g1, g2, g3, g4⟩ | g
        · rw [f.le.k b' g1] at he
          exact (hdisj b' b x' x g1 g3 g4 hD h he).elim
        · exact r'.inj b b' x x' hD hD' h g he

end Go.Fw
