/- A framework of this claim: abstract values, the relation between an abstract heap and the model's world, contracts. Nothing here speaks of one program. -/
import Derived.WalkKit
import Derived.KernelRfl
import Derived.Below
import Derived.Orders
set_option linter.unusedVariables false
set_option linter.unusedSimpArgs false
namespace Go.Fw
open Go

/-- Abstract values. 'ref', 'lst': memory that is never written any more, by its contents. 'ptr', 'sl': into a block that may be written. -/
inductive AV where
  | undef
  | bool (b : Bool)
  | int (k : IntKind) (n : Int)
  | str (s : ByteArray)
  | nilp
  | ptr (b off : Nat)
  | ref (cs : List AV)
  | nils
  | emp
  | sl (b off len : Nat) (x : Bool) (sz : Nat)
  | lst (sz n : Nat) (f : Nat → List AV)
  | nilf
  | fn (f : FuncId) (first cap : List AV)
  | agg (cs : List AV)
  | tup (vs : List AV)
  | val (v : Value)
  | mp (b : Nat)
  | nilm
  | mapc (clock : Nat) (born : List Nat) (ks vs : List AV)
  | itp (b : Nat)
  | iterc (b : Nat) (since : Nat) (seen : List Nat) (stepped : Nat)
instance : Inhabited AV := ⟨.undef⟩

/-- A value that stands in one cell of memory. -/
def AV.isCell : AV → Bool
  | .undef | .agg _ | .tup _ | .val _ | .mapc .. | .iterc .. => false
  | _ => true
def AV.cells : AV → List AV
  | .agg cs => cs
  | v => [v]

def upd {α : Type} (f : Nat → α) (i : Nat) (v : α) : Nat → α := fun j => if j = i then v else f j
theorem upd_same {α : Type} (f : Nat → α) (i : Nat) (v : α) : upd f i v i = v := by simp [upd]
theorem upd_ne {α : Type} (f : Nat → α) {i j : Nat} (v : α) (h : j ≠ i) : upd f i v j = f j := by simp [upd, h]
theorem upd_apply {α : Type} (f : Nat → α) (i j : Nat) (v : α) : upd f i v j = if j = i then v else f j := rfl

structure Blk where
  n : Nat
  f : Nat → AV
structure Heap where
  next : Nat
  get : Nat → Option Blk

/-- Where abstract blocks lie; which blocks of the world are never written any more. -/
structure Lay where
  k : Nat → Nat
  D : Nat → Prop
  I : Nat → Prop
  S : Nat → Nat
  M : Nat → Bool
/-- An abstract block that holds cells. -/
def Lay.DC (L : Lay) (b : Nat) : Prop := L.D b ∧ L.M b = false
/-- .. that is a map, or an iterator. -/
def Lay.DM (L : Lay) (b : Nat) : Prop := L.D b ∧ L.M b = true

structure Lay.le (L L' : Lay) : Prop where
  k : ∀ b, L.D b → L'.k b = L.k b
  S : ∀ b, L.D b → L'.S b = L.S b
  M : ∀ b, L.D b → L'.M b = L.M b
  D : ∀ b, L.D b → L'.D b
  I : ∀ i, L.I i → L'.I i
theorem Lay.le.refl (L : Lay) : L.le L := ⟨fun _ _ => rfl, fun _ _ => rfl, fun _ _ => rfl, fun _ h => h, fun _ h => h⟩
theorem Lay.le.trans {A B C : Lay} (h : A.le B) (g : B.le C) : A.le C :=
  ⟨fun b hb => (g.k b (h.D b hb)).trans (h.k b hb), fun b hb => (g.S b (h.D b hb)).trans (h.S b hb), fun b hb => (g.M b (h.D b hb)).trans (h.M b hb), fun b hb => g.D b (h.D b hb), fun i hi => g.I i (h.I i hi)⟩

theorem Lay.le.DC {L L' : Lay} (h : L.le L') {b : Nat} (hb : L.DC b) : L'.DC b := ⟨h.D b hb.1, (h.M b hb.1).trans hb.2⟩
theorem Lay.le.DM {L L' : Lay} (h : L.le L') {b : Nat} (hb : L.DM b) : L'.DM b := ⟨h.D b hb.1, (h.M b hb.1).trans hb.2⟩

inductive VR (L : Lay) (w : World) : AV → Value → Prop
  | undef (v : Value) : VR L w .undef v
  | bool (b : Bool) : VR L w (.bool b) (.bool b)
  | int (k : IntKind) (n : Int) : VR L w (.int k n) (.int k n)
  | str (s : ByteArray) : VR L w (.str s) (.string s)
  | nilp : VR L w .nilp (.pointer none)
  | ptr (b off : Nat) (h : L.DC b) : VR L w (.ptr b off) (.pointer (some ⟨L.k b, off, none⟩))
  | ref (cs : List AV) (a : Addr) (vs : Nat → Value) (hI : L.I a.block) (hc : ∀ i, i < cs.length → w.cell? (a.add i) = some (vs i) ∧ (vs i).oneCell' = true) (hv : ∀ i c, cs[i]? = some c → VR L w c (vs i)) :
      VR L w (.ref cs) (.pointer (some a))
  | nils (a : Option Addr) : VR L w .nils (.slice a 0 0)
  | emp (a : Option Addr) (cap : Nat) : VR L w .emp (.slice a 0 cap)
  | sl (b off len : Nat) (x : Bool) (sz cap : Nat) (h : L.DC b) (hle : len ≤ cap) (hx : x = true → cap = len) (hS : off + cap * sz ≤ L.S b) (hm : cap ≤ 9223372036854775807) :
      VR L w (.sl b off len x sz) (.slice (some ⟨L.k b, off, none⟩) len cap)
  | lst (sz n : Nat) (f : Nat → List AV) (a : Option Addr) (ad : Addr) (cap : Nat) (vs : Nat → Nat → Value) (hp : 0 < n → a = some ad ∧ L.I ad.block) (hle : n ≤ cap) (hl : ∀ i, i < n → (f i).length = sz)
      (hc : ∀ i j, i < n → j < sz → w.cell? (ad.add (i * sz + j)) = some (vs i j) ∧ (vs i j).oneCell' = true) (hv : ∀ i j c, i < n → (f i)[j]? = some c → VR L w c (vs i j)) : VR L w (.lst sz n f) (.slice a n cap)
  | nilf : VR L w .nilf .nilFunc
  | fn (f : FuncId) (first cap : List AV) (first' cap' : Array Value) (h1 : first.length = first'.size) (h2 : cap.length = cap'.size) (hf : ∀ (i : Nat) c v, first[i]? = some c → first'[i]? = some v → VR L w c v)
      (hc : ∀ (i : Nat) c v, cap[i]? = some c → cap'[i]? = some v → VR L w c v) : VR L w (.fn f first cap) (.func (.func f) first' cap')
  | agg (cs : List AV) (vs : Array Value) (hl : cs.length = vs.size) (h : ∀ (i : Nat) c v, cs[i]? = some c → vs[i]? = some v → VR L w c v) : VR L w (.agg cs) (.agg vs)
  | tup (cs : List AV) (vs : Array Value) (hl : cs.length = vs.size) (h : ∀ (i : Nat) c v, cs[i]? = some c → vs[i]? = some v → VR L w c v) : VR L w (.tup cs) (.tuple vs)
  | val (v : Value) : VR L w (.val v) v
  | mp (b : Nat) (h : L.DM b) : VR L w (.mp b) (.map (some (L.k b)))
  | nilm : VR L w .nilm (.map none)
  | itp (b : Nat) (h : L.DM b) : VR L w (.itp b) (.pointer (some ⟨L.k b, 0, none⟩))

/-- Lists of values, place by place. -/
def VRs (L : Lay) (w : World) (cs : List AV) (vs : List Value) : Prop := cs.length = vs.length ∧ ∀ (i : Nat) c v, cs[i]? = some c → vs[i]? = some v → VR L w c v

theorem cell_same {w w' : World} {a : Addr} (h : w'.heap[a.block]? = w.heap[a.block]?) : w'.cell? a = w.cell? a := by simp [World.cell?, h]
theorem add_block (a : Addr) (n : Nat) : (a.add n).block = a.block := by unfold Addr.add; split <;> rfl

theorem VR.mono {L L' : Lay} {w w' : World} (hle : L.le L') (hI : ∀ i, L.I i → w'.heap[i]? = w.heap[i]?) {v : AV} {x : Value} (h : VR L w v x) : VR L' w' v x := by
  induction h with
  | undef v => exact .undef v
  | bool b => exact .bool b
  | int k n => exact .int k n
  | str s => exact .str s
  | nilp => exact .nilp
  | ptr b off hb => rw [← hle.k b hb.1]; exact .ptr b off (hle.DC hb)
  | ref cs a vs hi hc hv ih =>
    refine .ref cs a vs (hle.I _ hi) (fun i h => ?_) ih
    rw [cell_same (w := w) (by rw [add_block]; exact hI _ hi)]
    exact hc i h
  | nils a => exact .nils a
  | emp a cap => exact .emp a cap
  | sl b off len x sz cap hb h1 h2 h3 h4 => rw [← hle.k b hb.1]; exact .sl b off len x sz cap (hle.DC hb) h1 h2 (by rw [hle.S b hb.1]; exact h3) h4
  | lst sz n f a ad cap vs hp h1 hl hc hv ih =>
    refine .lst sz n f a ad cap vs (fun hn => ⟨(hp hn).1, hle.I _ (hp hn).2⟩) h1 hl (fun i j hi hj => ?_) ih
    rw [cell_same (w := w) (by rw [add_block]; exact hI _ (hp (by omega)).2)]
    exact hc i j hi hj
  | nilf => exact .nilf
  | fn f first cap first' cap' h1 h2 hf hc ih1 ih2 => exact .fn f first cap first' cap' h1 h2 ih1 ih2
  | agg cs vs hl h ih => exact .agg cs vs hl ih
  | tup cs vs hl h ih => exact .tup cs vs hl ih
  | val v => exact .val v
  | mp b hb => rw [← hle.k b hb.1]; exact .mp b (hle.DM hb)
  | nilm => exact .nilm
  | itp b hb => rw [← hle.k b hb.1]; exact .itp b (hle.DM hb)

theorem VRs.mono {L L' : Lay} {w w' : World} (hle : L.le L') (hI : ∀ i, L.I i → w'.heap[i]? = w.heap[i]?) {v : List AV} {x : List Value} (h : VRs L w v x) : VRs L' w' v x :=
  ⟨h.1, fun i c v h1 h2 => (h.2 i c v h1 h2).mono hle hI⟩

theorem VRs.nil (L : Lay) (w : World) : VRs L w [] [] := ⟨rfl, fun i c v h => by simp at h⟩
theorem VRs.cons {L : Lay} {w : World} {c : AV} {v : Value} {cs : List AV} {vs : List Value} (h : VR L w c v) (hs : VRs L w cs vs) : VRs L w (c :: cs) (v :: vs) := by
  refine ⟨by simp [hs.1], fun i a b h1 h2 => ?_⟩
  cases i with
  | zero => simp at h1 h2; subst h1; subst h2; exact h
  | succ i => simp at h1 h2; exact hs.2 i a b h1 h2
theorem VRs.append {L : Lay} {w : World} {cs ds : List AV} {vs us : List Value} (h : VRs L w cs vs) (k : VRs L w ds us) : VRs L w (cs ++ ds) (vs ++ us) := by
  induction cs generalizing vs with
  | nil =>
    have : vs = [] := List.eq_nil_of_length_eq_zero (by have := h.1; simpa using this.symm)
    subst this
    simpa using k
  | cons c cs ih =>
    match vs, h with
    | [], h => have := h.1; simp at this
    | v :: vs, h =>
      refine VRs.cons (h.2 0 c v rfl rfl) (ih ⟨by have := h.1; simpa using this, fun i a b h1 h2 => h.2 (i + 1) a b (by simpa using h1) (by simpa using h2)⟩)
theorem VRs.of_cons {L : Lay} {w : World} {c : AV} {cs : List AV} {vs : List Value} (h : VRs L w (c :: cs) vs) : ∃ v us, vs = v :: us ∧ VR L w c v ∧ VRs L w cs us := by
  match vs, h with
  | [], h => have := h.1; simp at this
  | v :: us, h => exact ⟨v, us, rfl, h.2 0 c v rfl rfl, by have := h.1; simpa using this, fun i a b h1 h2 => h.2 (i + 1) a b (by simpa using h1) (by simpa using h2)⟩
theorem VRs.of_nil {L : Lay} {w : World} {vs : List Value} (h : VRs L w [] vs) : vs = [] := List.eq_nil_of_length_eq_zero (by have := h.1; simpa using this.symm)

/-- What a block of the heap says of the world's block: its cells; a map; an iterator over a map. -/
def ObjR (L : Lay) (w : World) (m : Bool) (S : Nat) (blk : Blk) (o : Obj) : Prop := match m with
  | false => blk.n ≤ S ∧ ∃ c e, o = .cells c e (0, 0) ∧ c.size = S ∧ ∀ i, i < blk.n → ∃ v, c[i]? = some v ∧ v.oneCell' = true ∧ VR L w (blk.f i) v
  | true => blk.n = 0 ∧ ((∃ clock born ks vs es, blk.f 0 = .mapc clock born ks vs ∧ o = .map es clock ∧ es.toList.map (·.born) = born ∧ VRs L w ks (es.toList.map (·.key)) ∧ VRs L w vs (es.toList.map (·.val))) ∨
      ∃ b since seen stepped, blk.f 0 = .iterc b since seen.toList stepped ∧ o = .mapIter (some (L.k b)) since seen stepped ∧ L.DM b)
theorem ObjR.mono {L L' : Lay} {w w' : World} (hle : L.le L') (hI : ∀ i, L.I i → w'.heap[i]? = w.heap[i]?) {m : Bool} {S : Nat} {blk : Blk} {o : Obj} (h : ObjR L w m S blk o) : ObjR L' w' m S blk o := by
  cases m with
  | false =>
    obtain ⟨h1, c, e, h2, h3, h4⟩ := h
    exact ⟨h1, c, e, h2, h3, fun i hi => by
      obtain ⟨v, k1, k2, k3⟩ := h4 i hi
      exact ⟨v, k1, k2, k3.mono hle hI⟩⟩
  | true =>
    obtain ⟨h0, ⟨clock, born, ks, vs, es, h1, h2, h3, h4, h5⟩ | ⟨b, since, seen, stepped, h1, h2, h3⟩⟩ := h
    · exact ⟨h0, .inl ⟨clock, born, ks, vs, es, h1, h2, h3, h4.mono hle hI, h5.mono hle hI⟩⟩
    · exact ⟨h0, .inr ⟨b, since, seen, stepped, h1, by rw [hle.k b h3.1]; exact h2, hle.DM h3⟩⟩

/-- The world bears the heap. 'B0': blocks of the world below it are none of the heap's. -/
structure Rel (gl : Nat → AV) (B0 : Nat) (L : Lay) (G : Heap) (w : World) : Prop where
  base : B0 ≤ w.heap.size
  idlt : ∀ b, L.D b → b < G.next
  ilt : ∀ i, L.I i → i < w.heap.size
  wf : ∀ b, G.next ≤ b → G.get b = none
  live : ∀ b blk, L.D b → G.get b = some blk → B0 ≤ L.k b ∧ ¬ L.I (L.k b) ∧ ∃ o, w.heap[L.k b]? = some o ∧ ObjR L w (L.M b) (L.S b) blk o
  inj : ∀ b b' x x', L.D b → L.D b' → G.get b = some x → G.get b' = some x' → L.k b = L.k b' → b = b'
  glob : ∀ g, VR L w (gl g) (.pointer (some ⟨g, 0, none⟩))

theorem Rel.cells {gl : Nat → AV} {B0 : Nat} {L : Lay} {G : Heap} {w : World} (h : Rel gl B0 L G w) {b : Nat} {blk : Blk} (hD : L.DC b) (hg : G.get b = some blk) : B0 ≤ L.k b ∧ ¬ L.I (L.k b) ∧ blk.n ≤ L.S b ∧
    ∃ c e, w.heap[L.k b]? = some (.cells c e (0, 0)) ∧ c.size = L.S b ∧ ∀ i, i < blk.n → ∃ v, c[i]? = some v ∧ v.oneCell' = true ∧ VR L w (blk.f i) v := by
  obtain ⟨h1, h2, o, h3, h4⟩ := h.live b blk hD.1 hg
  rw [hD.2] at h4
  obtain ⟨h5, c, e, rfl, h6, h7⟩ := h4
  exact ⟨h1, h2, h5, c, e, h3, h6, h7⟩
theorem Rel.objM {gl : Nat → AV} {B0 : Nat} {L : Lay} {G : Heap} {w : World} (h : Rel gl B0 L G w) {b : Nat} {blk : Blk} (hD : L.DM b) (hg : G.get b = some blk) : B0 ≤ L.k b ∧ ¬ L.I (L.k b) ∧ ∃ o, w.heap[L.k b]? = some o ∧ ObjR L w true (L.S b) blk o := by
  have := h.live b blk hD.1 hg
  rw [hD.2] at this
  exact this

/-- What a step may do. -/
structure Fr (L : Lay) (G : Heap) (w : World) (L' : Lay) (G' : Heap) (w' : World) : Prop where
  le : L.le L'
  size : w.heap.size ≤ w'.heap.size
  os : w'.os = w.os
  tape : w'.tape = w.tape
  output : w'.output = w.output
  keep : ∀ i, i < w.heap.size → (∀ b, L.D b → G.get b ≠ none → L.k b ≠ i) → w'.heap[i]? = w.heap[i]?
  newD : ∀ b, L'.D b → ¬ L.D b → G.next ≤ b
  newK : ∀ b, L'.D b → ¬ L.D b → w.heap.size ≤ L'.k b ∨ ∃ b0, L.D b0 ∧ G.get b0 ≠ none ∧ L.k b0 = L'.k b
  newI : ∀ i, L'.I i → ¬ L.I i → w.heap.size ≤ i ∨ ∃ b0, L.D b0 ∧ G.get b0 ≠ none ∧ L.k b0 = i
  next : G.next ≤ G'.next
  old : ∀ b, b < G.next → ¬ L.D b → G'.get b = G.get b
  dead : ∀ b, b < G.next → G.get b = none → G'.get b = none

theorem Fr.refl (L : Lay) (G : Heap) (w : World) : Fr L G w L G w :=
  ⟨.refl L, Nat.le_refl _, rfl, rfl, rfl, fun _ _ _ => rfl, fun _ h n => absurd h n, fun _ h n => absurd h n, fun _ h n => absurd h n, Nat.le_refl _, fun _ _ _ => rfl, fun _ _ h => h⟩

theorem Fr.imm {gl : Nat → AV} {B0 : Nat} {L L' : Lay} {G G' : Heap} {w w' : World} (h : Fr L G w L' G' w') (r : Rel gl B0 L G w) : ∀ i, L.I i → w'.heap[i]? = w.heap[i]? :=
  fun i hi => h.keep i (r.ilt i hi) fun b hb hg he => by
    cases hgb : G.get b with
    | none => exact hg hgb
    | some blk => exact (r.live b blk hb hgb).2.1 (he ▸ hi)

theorem Fr.vr {gl : Nat → AV} {B0 : Nat} {L L' : Lay} {G G' : Heap} {w w' : World} (h : Fr L G w L' G' w') (r : Rel gl B0 L G w) {v : AV} {x : Value} (hv : VR L w v x) : VR L' w' v x := hv.mono h.le (h.imm r)
theorem Fr.vrs {gl : Nat → AV} {B0 : Nat} {L L' : Lay} {G G' : Heap} {w w' : World} (h : Fr L G w L' G' w') (r : Rel gl B0 L G w) {v : List AV} {x : List Value} (hv : VRs L w v x) : VRs L' w' v x := hv.mono h.le (h.imm r)

theorem Fr.trans {gl : Nat → AV} {B0 : Nat} {L L1 L2 : Lay} {G G1 G2 : Heap} {w w1 w2 : World} (h : Fr L G w L1 G1 w1) (k : Fr L1 G1 w1 L2 G2 w2) (r : Rel gl B0 L G w) : Fr L G w L2 G2 w2 where
  le := h.le.trans k.le
  size := Nat.le_trans h.size k.size
  os := k.os.trans h.os
  tape := k.tape.trans h.tape
  output := k.output.trans h.output
  keep i hi hn := by
    refine (k.keep i (Nat.lt_of_lt_of_le hi h.size) fun b hb hg he => ?_).trans (h.keep i hi hn)
    by_cases hb0 : L.D b
    · refine hn b hb0 (fun h0 => hg (h.dead b (r.idlt b hb0) h0)) ?_
      rw [← h.le.k b hb0]; exact he
    · rcases h.newK b hb hb0 with h1 | ⟨b0, h1, h2, h3⟩
      · omega
      · exact hn b0 h1 h2 (h3.trans he)
  newD b hb hn := by
    by_cases hb1 : L1.D b
    · exact h.newD b hb1 hn
    · exact Nat.le_trans h.next (k.newD b hb hb1)
  newK b hb hn := by
    by_cases hb1 : L1.D b
    · rw [k.le.k b hb1]; exact h.newK b hb1 hn
    · rcases k.newK b hb hb1 with h1 | ⟨b0, h1, h2, h3⟩
      · exact .inl (Nat.le_trans h.size h1)
      · by_cases hb0 : L.D b0
        · exact .inr ⟨b0, hb0, fun h0 => h2 (h.dead b0 (r.idlt b0 hb0) h0), by rw [← h3, h.le.k b0 hb0]⟩
        · rw [← h3]; exact h.newK b0 h1 hb0
  newI i hi hn := by
    by_cases hi1 : L1.I i
    · exact h.newI i hi1 hn
    · rcases k.newI i hi hi1 with h1 | ⟨b0, h1, h2, h3⟩
      · exact .inl (Nat.le_trans h.size h1)
      · by_cases hb0 : L.D b0
        · exact .inr ⟨b0, hb0, fun h0 => h2 (h.dead b0 (r.idlt b0 hb0) h0), by rw [← h3, h.le.k b0 hb0]⟩
        · rw [← h3]; exact h.newK b0 h1 hb0
  next := Nat.le_trans h.next k.next
  old b hb hn := (k.old b (Nat.lt_of_lt_of_le hb h.next) (fun hb1 => by have := h.newD b hb1 hn; omega)).trans (h.old b hb hn)
  dead b hb h0 := k.dead b (Nat.lt_of_lt_of_le hb h.next) (h.dead b hb h0)

/-- A program, and what its package-level variables hold. -/
structure Cx where
  P : Program
  gl : Nat → AV

/-- What is known behind a call that began at (L, G, w). -/
def After (C : Cx) (B0 : Nat) (L : Lay) (G : Heap) (w : World) (R : AV → Heap → Prop) (v : Value) (w' : World) : Prop :=
  ∃ L' r G', R r G' ∧ Fr L G w L' G' w' ∧ Rel C.gl B0 L' G' w' ∧ VR L' w' r v

/-- Has the program this function, with a body that is entered? -/
def Cx.callable (C : Cx) (f : FuncId) : Bool := match C.P.funcs[f]? with
  | some fn => !(fn.name == "runtime.NumGoroutine") && fn.body.isSome
  | none => false
/-- A contract: called with these, the function answers what R says. -/
def Ct (C : Cx) (f : FuncId) (args : List AV) (G : Heap) (R : AV → Heap → Prop) : Prop :=
  C.callable f = true ∧ ∀ B0 L w (vs : Array Value), Rel C.gl B0 L G w → VRs L w args vs.toList → Calls C.P f vs w fun e w' => ∃ v, e = .returned v ∧ After C B0 L G w R v w'
/-- The answer is known. -/
def Cd (C : Cx) (f : FuncId) (args : List AV) (G : Heap) (r : AV) (G' : Heap) : Prop := Ct C f args G fun r1 G1 => r1 = r ∧ G1 = G'
/-- It answers r and leaves the heap as it was. -/
abbrev Cp (C : Cx) (f : FuncId) (args : List AV) (G : Heap) (r : AV) : Prop := Cd C f args G r G

theorem Ct.mono {C : Cx} {f : FuncId} {args : List AV} {G : Heap} {R R' : AV → Heap → Prop} (h : Ct C f args G R) (hr : ∀ r G', R r G' → R' r G') : Ct C f args G R' :=
  ⟨h.1, fun B0 L w vs hrel hvs => (h.2 B0 L w vs hrel hvs).mono fun _ _ ⟨v, he, L', r, G', h1, h2⟩ => ⟨v, he, L', r, G', hr _ _ h1, h2⟩⟩

/-- What stands for whatever the other one stands for. -/
def AVle (a b : AV) : Prop := ∀ L w v, VR L w a v → VR L w b v
theorem AVle.refl (a : AV) : AVle a a := fun _ _ _ h => h
inductive AVles : List AV → List AV → Prop
  | nil : AVles [] []
  | cons {a b : AV} {as bs : List AV} : AVle a b → AVles as bs → AVles (a :: as) (b :: bs)
theorem AVles.refl : ∀ as, AVles as as
  | [] => .nil
  | a :: as => .cons (.refl a) (AVles.refl as)
theorem AVles.vrs {as bs : List AV} (h : AVles as bs) {L : Lay} {w : World} {vs : List Value} (k : VRs L w as vs) : VRs L w bs vs := by
  induction h generalizing vs with
  | nil => exact k
  | cons h1 _ ih =>
    obtain ⟨v, us, rfl, k1, k2⟩ := k.of_cons
    exact .cons (h1 _ _ _ k1) (ih k2)
theorem Ct.args {C : Cx} {f : FuncId} {as bs : List AV} {G : Heap} {R : AV → Heap → Prop} (h : Ct C f bs G R) (hle : AVles as bs) : Ct C f as G R :=
  ⟨h.1, fun B0 L w vs hrel hvs => h.2 B0 L w vs hrel (hle.vrs hvs)⟩
theorem AVle.undef (a : AV) : AVle a .undef := fun _ _ v _ => .undef v
theorem AVle.nils_lst (sz : Nat) (f : Nat → List AV) : AVle .nils (.lst sz 0 f) := fun L w v h => by
  cases h with
  | nils a => exact .lst sz 0 f a ⟨0, 0, none⟩ 0 (fun _ _ => .nilFunc) (fun h => by omega) (Nat.le_refl _) (fun i h => by omega) (fun i j h => by omega) (fun i j c h => by omega)

end Go.Fw
