/- Answers in new memory, that nobody writes any more: known by what they hold. Contracts of functions that leave all memory as it was. -/
import Derived.Test.YtjcplclbdanpgaaFwQ
set_option linter.unusedVariables false
set_option linter.unusedSimpArgs false
namespace Go.Fw
open Go

/-- 'a', with all that it leads to in the heap from block 'n' on, is 'd'. -/
inductive Fz (G : Heap) (n : Nat) : AV → AV → Prop
  | undef (a : AV) : Fz G n a .undef
  | bool (b : Bool) : Fz G n (.bool b) (.bool b)
  | int (k : IntKind) (m : Int) : Fz G n (.int k m) (.int k m)
  | str (s : ByteArray) : Fz G n (.str s) (.str s)
  | nilp : Fz G n .nilp .nilp
  | nils : Fz G n .nils .nils
  | emp : Fz G n .emp .emp
  | nilf : Fz G n .nilf .nilf
  | val (v : Value) : Fz G n (.val v) (.val v)
  | nils0 (sz : Nat) (g : Nat → List AV) : Fz G n .nils (.lst sz 0 g)
  | emp0 (sz : Nat) (g : Nat → List AV) : Fz G n .emp (.lst sz 0 g)
  | ref (cs ds : List AV) (hl : cs.length = ds.length) (h : ∀ (i : Nat) c d, cs[i]? = some c → ds[i]? = some d → Fz G n c d) : Fz G n (.ref cs) (.ref ds)
  | lst (sz k : Nat) (f g : Nat → List AV) (hl : ∀ i, i < k → (f i).length = (g i).length) (h : ∀ (i j : Nat) c d, i < k → (f i)[j]? = some c → (g i)[j]? = some d → Fz G n c d) : Fz G n (.lst sz k f) (.lst sz k g)
  | ptr (b off : Nat) (blk : Blk) (ds : List AV) (hn : n ≤ b) (hb : G.get b = some blk) (hl : off + ds.length ≤ blk.n) (h : ∀ (i : Nat) d, ds[i]? = some d → Fz G n (blk.f (off + i)) d) : Fz G n (.ptr b off) (.ref ds)
  | sl (b off len : Nat) (x : Bool) (sz : Nat) (blk : Blk) (g : Nat → List AV) (hn : n ≤ b) (hb : G.get b = some blk) (hle : off + len * sz ≤ blk.n) (hl : ∀ i, i < len → (g i).length = sz) (h : ∀ (i j : Nat) d, i < len → (g i)[j]? = some d → Fz G n (blk.f (off + i * sz + j)) d) :
      Fz G n (.sl b off len x sz) (.lst sz len g)
  | fn (f : FuncId) (a b c d : List AV) (h1 : a.length = b.length) (h2 : c.length = d.length) (h3 : ∀ (i : Nat) p q, a[i]? = some p → b[i]? = some q → Fz G n p q) (h4 : ∀ (i : Nat) p q, c[i]? = some p → d[i]? = some q → Fz G n p q) : Fz G n (.fn f a c) (.fn f b d)
  | agg (cs ds : List AV) (hl : cs.length = ds.length) (h : ∀ (i : Nat) c d, cs[i]? = some c → ds[i]? = some d → Fz G n c d) : Fz G n (.agg cs) (.agg ds)
  | tup (cs ds : List AV) (hl : cs.length = ds.length) (h : ∀ (i : Nat) c d, cs[i]? = some c → ds[i]? = some d → Fz G n c d) : Fz G n (.tup cs) (.tup ds)

def Lay.fz (L : Lay) (G : Heap) (n : Nat) : Lay := { L with D := fun b => L.D b ∧ b < n, I := fun i => L.I i ∨ ∃ b, n ≤ b ∧ L.D b ∧ G.get b ≠ none ∧ L.k b = i }

theorem some_of_len {α β : Type} {cs : List α} {ds : List β} (h : cs.length = ds.length) {i : Nat} {d : β} (hd : ds[i]? = some d) : ∃ c, cs[i]? = some c :=
  ⟨_, List.getElem?_eq_getElem (by rw [h]; exact (List.getElem?_eq_some_iff.1 hd).1)⟩

theorem Fz.vr {gl : Nat → AV} {B0 : Nat} {L : Lay} {G : Heap} {w : World} (hr : Rel gl B0 L G w) {n : Nat} {a d : AV} (h : Fz G n a d) : ∀ {v : Value}, VR L w a v → VR (L.fz G n) w d v := by
  induction h with
  | undef a => (intro v _; exact .undef _)
  | bool b => (intro v hv; cases hv; exact .bool b)
  | int k m => (intro v hv; cases hv; exact .int k m)
  | str s => (intro v hv; cases hv; exact .str s)
  | nilp => (intro v hv; cases hv; exact .nilp)
  | nils => (intro v hv; cases hv; exact .nils _)
  | emp => (intro v hv; cases hv; exact .emp _ _)
  | nilf => (intro v hv; cases hv; exact .nilf)
  | val x => (intro v hv; cases hv; exact .val _)
  | nils0 sz g =>
    intro v hv
    cases hv with
    | nils a => exact .lst sz 0 g a ⟨0, 0, none⟩ 0 (fun _ _ => .nilFunc) (fun h => by omega) (Nat.le_refl _) (fun i h => by omega) (fun i j h => by omega) (fun i j c h => by omega)
  | emp0 sz g =>
    intro v hv
    cases hv with
    | emp a cap => exact .lst sz 0 g a ⟨0, 0, none⟩ cap (fun _ _ => .nilFunc) (fun h => by omega) (Nat.zero_le _) (fun i h => by omega) (fun i j h => by omega) (fun i j c h => by omega)
  | ref cs ds hl _ ih =>
    intro v hv
    cases hv with
    | ref _ a vs hI hc hv =>
      refine .ref ds a vs (.inl hI) (fun i hi => hc i (by omega)) fun i d hd => ?_
      obtain ⟨c, hcs⟩ := some_of_len hl hd
      exact ih i c d hcs hd (hv i c hcs)
  | lst sz k f g hl _ ih =>
    intro v hv
    cases hv with
    | lst _ _ _ a ad cap vs hp h1 hl' hc hv =>
      refine .lst sz k g a ad cap vs (fun h0 => ⟨(hp h0).1, .inl (hp h0).2⟩) h1 (fun i hi => by rw [← hl i hi]; exact hl' i hi) hc fun i j d hi hd => ?_
      obtain ⟨c, hcs⟩ := some_of_len (hl i hi) hd
      exact ih i j c d hi hcs hd (hv i j c hi hcs)
  | ptr b off blk ds hn hb hl _ ih =>
    intro v hv
    cases hv with
    | ptr _ _ hD =>
      obtain ⟨_, _, _, c, e, hc, hs, hcell⟩ := hr.cells hD hb
      refine .ref ds ⟨L.k b, off, none⟩ (fun i => (c[off + i]?).getD Go.undef) (.inr ⟨b, hn, hD.1, by rw [hb]; simp, rfl⟩) (fun i hi => ?_) fun i d hd => ?_
      · obtain ⟨u, h1, h2, h3⟩ := hcell (off + i) (by omega)
        rw [add_mk]
        simp [World.cell?, hc, h1, h2]
      · have hi : i < ds.length := (List.getElem?_eq_some_iff.1 hd).1
        obtain ⟨u, h1, h2, h3⟩ := hcell (off + i) (by omega)
        simp only [h1, Option.getD_some]
        exact ih i d hd h3
  | sl b off len x sz blk g hn hb hle hl _ ih =>
    intro v hv
    cases hv with
    | sl _ _ _ _ _ cap hD h1 h2 h3 h4 =>
      obtain ⟨_, _, _, c, e, hc, hs, hcell⟩ := hr.cells hD hb
      have ij : ∀ {i j : Nat}, i < len → j < sz → i * sz + j < len * sz := by
        intro i j hi hj
        have : (i + 1) * sz ≤ len * sz := Nat.mul_le_mul_right _ hi
        rw [Nat.add_mul] at this
        omega
      refine .lst sz len g _ ⟨L.k b, off, none⟩ cap (fun i j => (c[off + i * sz + j]?).getD Go.undef) (fun _ => ⟨rfl, .inr ⟨b, hn, hD.1, by rw [hb]; simp, rfl⟩⟩) h1 hl (fun i j hi hj => ?_) fun i j d hi hd => ?_
      · obtain ⟨u, k1, k2, k3⟩ := hcell (off + i * sz + j) (by have := ij hi hj; omega)
        rw [add_mk, ← Nat.add_assoc]
        simp [World.cell?, hc, k1, k2]
      · have hj : j < sz := by have := (List.getElem?_eq_some_iff.1 hd).1; rw [hl i hi] at this; exact this
        obtain ⟨u, k1, k2, k3⟩ := hcell (off + i * sz + j) (by have := ij hi hj; omega)
        simp only [k1, Option.getD_some]
        exact ih i j d hi hd k3
  | fn f a b c d h1 h2 _ _ ih1 ih2 =>
    intro v hv
    cases hv with
    | fn _ _ _ p q k1 k2 k3 k4 =>
      refine .fn f b d p q (by omega) (by omega) (fun i x y hx hy => ?_) fun i x y hx hy => ?_
      · obtain ⟨z, hz⟩ := some_of_len h1 hx
        exact ih1 i z x hz hx (k3 i z y hz hy)
      · obtain ⟨z, hz⟩ := some_of_len h2 hx
        exact ih2 i z x hz hx (k4 i z y hz hy)
  | agg cs ds hl _ ih =>
    intro v hv
    cases hv with
    | agg _ vs k1 k2 =>
      refine .agg ds vs (by omega) fun i d v hd hv => ?_
      obtain ⟨c, hcs⟩ := some_of_len hl hd
      exact ih i c d hcs hd (k2 i c v hcs hv)
  | tup cs ds hl _ ih =>
    intro v hv
    cases hv with
    | tup _ vs k1 k2 =>
      refine .tup ds vs (by omega) fun i d v hd hv => ?_
      obtain ⟨c, hcs⟩ := some_of_len hl hd
      exact ih i c d hcs hd (k2 i c v hcs hv)

abbrev Heap.nil (n : Nat) : Heap := ⟨n, fun _ => none⟩

theorem Fz.over {G G' : Heap} {n : Nat} {a d : AV} (h : Fz G n a d) (hg : ∀ b, n ≤ b → G'.get b = G.get b) : Fz G' n a d := by
  induction h with
  | undef a => exact .undef a
  | bool b => exact .bool b
  | int k m => exact .int k m
  | str s => exact .str s
  | nilp => exact .nilp
  | nils => exact .nils
  | emp => exact .emp
  | nilf => exact .nilf
  | val x => exact .val x
  | nils0 sz g => exact .nils0 sz g
  | emp0 sz g => exact .emp0 sz g
  | ref cs ds hl _ ih => exact .ref cs ds hl ih
  | lst sz k f g hl _ ih => exact .lst sz k f g hl ih
  | ptr b off blk ds hn hb hl _ ih => exact .ptr b off blk ds hn (by rw [hg b hn]; exact hb) hl ih
  | sl b off len x sz blk g hn hb hle hl _ ih => exact .sl b off len x sz blk g hn (by rw [hg b hn]; exact hb) hle hl ih
  | fn f a b c d h1 h2 _ _ ih1 ih2 => exact .fn f a b c d h1 h2 ih1 ih2
  | agg cs ds hl _ ih => exact .agg cs ds hl ih
  | tup cs ds hl _ ih => exact .tup cs ds hl ih
/-- What was spoken of before leads to nothing new. -/
theorem VR.both {L0 L : Lay} {w0 w : World} {G : Heap} {n : Nat} (hP : ∀ b, L0.D b → b < n) {c : AV} {v : Value} (h : VR L w c v) : ∀ {v0 : Value}, VR L0 w0 c v0 → VR (L.fz G n) w c v := by
  have hDC : ∀ b, L0.DC b → L.DC b → (L.fz G n).DC b := fun b h0 h => ⟨⟨h.1, hP b h0.1⟩, h.2⟩
  have hDM : ∀ b, L0.DM b → L.DM b → (L.fz G n).DM b := fun b h0 h => ⟨⟨h.1, hP b h0.1⟩, h.2⟩
  induction h with
  | undef v => (intro v0 _; exact .undef v)
  | bool b => (intro v0 _; exact .bool b)
  | int k m => (intro v0 _; exact .int k m)
  | str s => (intro v0 _; exact .str s)
  | nilp => (intro v0 _; exact .nilp)
  | ptr b off hb => (intro v0 h0; exact .ptr b off (hDC b h0.inv_ptr.2 hb))
  | ref cs a vs hi hc hv ih =>
    intro v0 h0
    cases h0 with
    | ref _ a0 vs0 hi0 hc0 hv0 => exact .ref cs a vs (.inl hi) hc fun i c hic => ih i c hic (hv0 i c hic)
  | nils a => (intro v0 _; exact .nils a)
  | emp a cap => (intro v0 _; exact .emp a cap)
  | sl b off len x sz cap hb h1 h2 h3 h4 =>
    intro v0 h0
    obtain ⟨_, _, hb0, _⟩ := h0.inv_sl
    exact .sl b off len x sz cap (hDC b hb0 hb) h1 h2 h3 h4
  | lst sz m f a ad cap vs hp h1 hl hc hv ih =>
    intro v0 h0
    cases h0 with
    | lst _ _ _ a0 ad0 cap0 vs0 hp0 h10 hl0 hc0 hv0 => exact .lst sz m f a ad cap vs (fun hn => ⟨(hp hn).1, .inl (hp hn).2⟩) h1 hl hc fun i j c hi hc => ih i j c hi hc (hv0 i j c hi hc)
  | nilf => (intro v0 _; exact .nilf)
  | fn f first cap first' cap' h1 h2 hf hc ih1 ih2 =>
    intro v0 h0
    cases h0 with
    | fn _ _ _ p q k1 k2 k3 k4 =>
      refine .fn f first cap first' cap' h1 h2 (fun i c v e1 e2 => ?_) fun i c v e1 e2 => ?_
      · have : i < p.size := by have := (List.getElem?_eq_some_iff.1 e1).1; omega
        exact ih1 i c v e1 e2 (k3 i c _ e1 (Array.getElem?_eq_getElem this))
      · have : i < q.size := by have := (List.getElem?_eq_some_iff.1 e1).1; omega
        exact ih2 i c v e1 e2 (k4 i c _ e1 (Array.getElem?_eq_getElem this))
  | agg cs vs hl h ih =>
    intro v0 h0
    obtain ⟨us, rfl, k1, k2⟩ := h0.inv_agg
    refine .agg cs vs hl fun i c v e1 e2 => ?_
    have : i < us.size := by have := (List.getElem?_eq_some_iff.1 e1).1; omega
    exact ih i c v e1 e2 (k2 i c _ e1 (Array.getElem?_eq_getElem this))
  | tup cs vs hl h ih =>
    intro v0 h0
    obtain ⟨us, rfl, k1, k2⟩ := h0.inv_tup
    refine .tup cs vs hl fun i c v e1 e2 => ?_
    have : i < us.size := by have := (List.getElem?_eq_some_iff.1 e1).1; omega
    exact ih i c v e1 e2 (k2 i c _ e1 (Array.getElem?_eq_getElem this))
  | val v => (intro v0 _; exact .val v)
  | mp b hb => (intro v0 h0; exact .mp b (hDM b h0.inv_mp.2 hb))
  | nilm => (intro v0 _; exact .nilm)
  | itp b hb => (intro v0 h0; exact .itp b (hDM b h0.inv_itp.2 hb))
theorem VRs.both {L0 L : Lay} {w0 w : World} {G : Heap} {n : Nat} (hP : ∀ b, L0.D b → b < n) {cs : List AV} {vs v0 : List Value} (h : VRs L w cs vs) (h0 : VRs L0 w0 cs v0) : VRs (L.fz G n) w cs vs :=
  ⟨h.1, fun i c v e1 e2 => by
    have : i < v0.length := by have := (List.getElem?_eq_some_iff.1 e1).1; rw [← h0.1]; exact this
    exact (h.2 i c v e1 e2).both hP (h0.2 i c _ e1 (List.getElem?_eq_getElem this))⟩
theorem ObjR.both {L0 L : Lay} {w0 w : World} {G : Heap} {n : Nat} (hP : ∀ b, L0.D b → b < n) {m : Bool} {S S0 : Nat} {blk : Blk} {o o0 : Obj} (h : ObjR L w m S blk o) (h0 : ObjR L0 w0 m S0 blk o0) : ObjR (L.fz G n) w m S blk o := by
  cases m with
  | false =>
    obtain ⟨h1, c, e, h2, h3, h4⟩ := h
    obtain ⟨k1, c0, e0, k2, k3, k4⟩ := h0
    refine ⟨h1, c, e, h2, h3, fun i hi => ?_⟩
    obtain ⟨v, g1, g2, g3⟩ := h4 i hi
    obtain ⟨v0, q1, q2, q3⟩ := k4 i hi
    exact ⟨v, g1, g2, g3.both hP q3⟩
  | true =>
    obtain ⟨hn, h⟩ := h
    obtain ⟨_, k⟩ := h0
    refine ⟨hn, ?_⟩
    rcases h with ⟨clock, born, ks, vs, es, h1, h2, h3, h4, h5⟩ | ⟨b, since, seen, stepped, h1, h2, h3⟩
    · rcases k with ⟨clock', born', ks', vs', es', k1, k2, k3, k4, k5⟩ | ⟨b, since, seen, stepped, k1, _⟩
      · rw [h1] at k1
        injection k1 with e1 e2 e3 e4
        subst e3; subst e4
        exact .inl ⟨clock, born, ks, vs, es, h1, h2, h3, h4.both hP k4, h5.both hP k5⟩
      · rw [h1] at k1; cases k1
    · rcases k with ⟨clock', born', ks', vs', es', k1, _⟩ | ⟨b', since', seen', stepped', k1, k2, k3⟩
      · rw [h1] at k1; cases k1
      · rw [h1] at k1
        injection k1 with e1
        subst e1
        exact .inr ⟨b, since, seen, stepped, h1, h2, ⟨h3.1, hP b k3.1⟩, h3.2⟩
/-- What is new and is led to by the answer is never written any more. -/
theorem Ct.freeze {C : Cx} {f : FuncId} {args : List AV} {G : Heap} {r : AV} (h : Ct C f args G fun a G' => (∀ b blk, G.get b = some blk → G'.get b = some blk) ∧ Fz G' G.next a r) : Cp C f args G r := by
  refine ⟨h.1, fun B0 L w vs hr hvs => ?_⟩
  refine (h.2 B0 L w vs hr hvs).mono fun e w' ⟨v, he, L', a, G', ⟨hsame, hz⟩, f, r', hv⟩ => ⟨v, he, L'.fz G' G.next, r, G, ⟨rfl, rfl⟩, ?_⟩
  have hlt : ∀ b, L.D b → b < G.next := hr.idlt
  have hle : L.le (L'.fz G' G.next) := ⟨f.le.k, f.le.S, f.le.M, fun b hb => ⟨f.le.D b hb, hlt b hb⟩, fun i hi => .inl (f.le.I i hi)⟩
  have hf : Fr L G w (L'.fz G' G.next) G w' := by
    refine ⟨hle, f.size, f.os, f.tape, f.output, f.keep, fun b hb hn => f.newD b hb.1 hn, fun b hb hn => ?_, fun i hi hn => ?_, Nat.le_refl _, fun _ _ _ => rfl, fun _ _ h => h⟩
    · exact f.newK b hb.1 hn
    · rcases hi with hi | ⟨b, h1, h2, h3, h4⟩
      · exact f.newI i hi hn
      · rcases f.newK b h2 (fun hd => by have := hlt b hd; omega) with k1 | ⟨b0, k1, k2, k3⟩
        · exact .inl (h4 ▸ k1)
        · exact .inr ⟨b0, k1, k2, k3.trans h4⟩
  have hlive : ∀ b, L'.D b → G'.get b ≠ none → L'.k b < w'.heap.size := fun b hD hg => by
    cases hx : G'.get b with
    | none => exact absurd hx hg
    | some x => exact r'.k_lt hD hx
  have hrel : Rel C.gl B0 (L'.fz G' G.next) G w' := by
    refine ⟨r'.base, fun b hb => hb.2, fun i hi => ?_, hr.wf, fun b blk hD e => ?_, fun b b' x x' hD hD' e e' he => ?_, fun g => (hr.glob g).mono hle (f.imm hr)⟩
    · rcases hi with hi | ⟨b, h1, h2, h3, h4⟩
      · exact r'.ilt i hi
      · rw [← h4]; exact hlive b h2 h3
    · have e1 : G'.get b = some blk := hsame b blk e
      obtain ⟨g1, g2, o, g3, g4⟩ := r'.live b blk hD.1 e1
      refine ⟨g1, fun hi => ?_, o, g3, ?_⟩
      · rcases hi with hi | ⟨b', h1, h2, h3, h4⟩
        · exact g2 hi
        · cases hx : G'.get b' with
          | none => exact h3 hx
          | some y =>
            have := r'.inj b' b y blk h2 hD.1 hx e1 h4
            have := hD.2
            omega
      · -- what is below keeps to what is below
        have hDL : L.D b := by
          by_cases hb : L.D b
          · exact hb
          · have := f.newD b hD.1 hb; have := hD.2; omega
        obtain ⟨_, _, o0, _, q4⟩ := hr.live b blk hDL e
        rw [← f.le.M b hDL] at q4
        exact g4.both hlt q4
    · exact r'.inj b b' x x' hD.1 hD'.1 (hsame b x e) (hsame b' x' e') he
  exact ⟨hf, hrel, hz.vr r' hv⟩

theorem Ct.freezeW {C : Cx} {f : FuncId} {args : List AV} {G : Heap} {r : AV} (hc : C.callable f = true) (h : (∀ b, G.next ≤ b → G.get b = none) → Ct C f args G fun a G' => (∀ b, b < G.next → G'.get b = G.get b) ∧ Fz G' G.next a r) : Cp C f args G r := by
  by_cases hG : ∀ b, G.next ≤ b → G.get b = none
  · refine Ct.freeze ((h hG).mono fun a G' ⟨h1, h2⟩ => ⟨fun b blk hb => ?_, h2⟩)
    rw [h1 b (Nat.lt_of_not_le fun hle => by rw [hG b hle] at hb; cases hb)]
    exact hb
  · exact ⟨hc, fun B0 L w vs hr _ => absurd hr.wf hG⟩

/-- A contract may be used with more memory beside. -/
theorem Ct.frame {C : Cx} {f : FuncId} {args : List AV} {G G1 : Heap} {R : AV → Heap → Prop} (h : Ct C f args G1 R) (hs : ∀ b blk, G1.get b = some blk → G.get b = some blk) (hn : G1.next = G.next) : Ct C f args G fun r G' => ∃ G1', R r G1' ∧ G' = G1'.over G1 G := by
  refine ⟨h.1, fun B0 L w vs hr hvs => ?_⟩
  have hr1 : Rel C.gl B0 L G1 w := hr.hide (fun b blk _ e => hs b blk e) (by omega) fun b hb => by
    cases hg : G1.get b with
    | none => rfl
    | some blk => rw [← hs b blk hg]; exact hr.wf b (by omega)
  refine (h.2 B0 L w vs hr1 hvs).mono fun e w' ⟨v, he, L', a, G', hR, f, r', hv⟩ => ?_
  obtain ⟨k1, k2⟩ := Fr.frame hr hs hn f r'
  exact ⟨v, he, L', a, _, ⟨G', hR, rfl⟩, k1, k2, hv⟩

/-- A function that needs no block that may be written, and whose answer is known by what it holds. -/
theorem Cp.intro {C : Cx} {f : FuncId} {args : List AV} {r : AV} (h : ∀ n, Ct C f args (.nil n) fun a G' => Fz G' n a r) (G : Heap) : Cp C f args G r := by
  by_cases hG : ∀ b, G.next ≤ b → G.get b = none
  case neg => exact ⟨(h 0).1, fun B0 L w vs hr _ => absurd hr.wf hG⟩
  refine Ct.freeze ((Ct.frame (G := G) (h G.next) (fun b blk e => (by cases e)) rfl).mono fun a G' ⟨G1, hz, he⟩ => ?_)
  subst he
  refine ⟨fun b blk hb => ?_, hz.over fun b hb => ?_⟩
  · simp only [Heap.over]
    by_cases hlt : b < G.next
    · rw [if_pos hlt]; exact hb
    · rw [hG b (by omega)] at hb; cases hb
  · simp only [Heap.over]
    rw [if_neg (by omega)]

/-! ### Environments as lists -/
theorem Ext.mono {α : Type} {F : (α → Prop) → Prop} (h : Ext F) {K K' : α → Prop} (hk : ∀ x, K x → K' x) (hF : F K) : F K' := by
  obtain ⟨x, h1, h2⟩ := h.out K hF
  exact h2 K' (hk x h1)
theorem mapAt_mono {G : Heap} {x : AV} {K K' : Nat → Nat → List Nat → List AV → List AV → Prop} (hk : ∀ a b c d e, K a b c d e → K' a b c d e) (h : mapAt G x K) : mapAt G x K' := by
  unfold mapAt at h ⊢
  split at h
  · rename_i b
    split at h
    · rename_i blk hg
      split at h
      · rename_i clock born ks vs hf
        exact hk _ _ _ _ _ h
      · exact h.elim
    · exact h.elim
  · exact h.elim
theorem updK_mono {C : Cx} {G : Heap} {t : TypeId} {m k x : AV} {K K' : Heap → Prop} (hk : ∀ G', K G' → K' G') (h : updK C G t m k x K) : updK C G t m k x K' := by
  unfold updK at h ⊢
  split at h
  · rename_i q hq
    refine mapAt_mono (fun a b c d e h => ?_) h
    split at h
    · rename_i r hr; exact ⟨h.1, hk _ h.2⟩
    · exact h.elim
  · exact h.elim
theorem delK_mono {C : Cx} {G : Heap} {t : TypeId} {m k : AV} {K K' : Heap → Prop} (hk : ∀ G', K G' → K' G') (h : delK C G t m k K) : delK C G t m k K' := by
  unfold delK at h ⊢
  split at h
  · rename_i q hq
    refine mapAt_mono (fun a b c d e h => ?_) h
    split at h
    · rename_i r hr; exact ⟨h.1, hk _ h.2⟩
    · exact h.elim
  · exact h.elim
theorem lookK_mono {C : Cx} {G : Heap} {t : TypeId} {m k : AV} {ok : Bool} {K K' : AV → Prop} (hk : ∀ r, K r → K' r) (h : lookK C G t m k ok K) : lookK C G t m k ok K' := by
  unfold lookK at h ⊢
  split at h
  · rename_i q hq
    refine mapAt_mono (fun a b c d e h => ?_) h
    split at h
    · rename_i r hr; exact ⟨h.1, hk _ h.2⟩
    · rename_i hr
      split at h
      · rename_i z hz; exact ⟨h.1, hk _ h.2⟩
      · exact h.elim
    · exact h.elim
  · exact h.elim
theorem nextK_mono {G : Heap} {it : AV} {K K' : AV → Heap → Prop} (hk : ∀ r G', K r G' → K' r G') (h : nextK G it K) : nextK G it K' := by
  unfold nextK at h ⊢
  split at h
  · rename_i bi
    split at h
    · rename_i blk hg
      split at h
      · rename_i b since seen stepped hf
        exact mapAt_mono (fun a b c d e ⟨h1, h2, h3⟩ => ⟨h1, fun h => hk _ _ (h2 h), fun i s k1 k2 => hk _ _ (h3 i s k1 k2)⟩) h
      · exact h.elim
    · exact h.elim
  · exact h.elim
theorem entryK_mono {G : Heap} {it : AV} {K K' : AV → Prop} (hk : ∀ r, K r → K' r) (h : entryK G it K) : entryK G it K' := by
  unfold entryK at h ⊢
  split at h
  · rename_i bi
    split at h
    · rename_i blk hg
      split at h
      · rename_i b since seen stepped hf
        exact mapAt_mono (fun a b c d e ⟨h1, s, i, h2, h3, h4, h5⟩ => ⟨h1, s, i, h2, h3, h4, hk _ h5⟩) h
      · exact h.elim
    · exact h.elim
  · exact h.elim
theorem stepK_mono {C : Cx} {mb : Nat → Bool} {o : Oper} {ρ : Operand → AV} {G : Heap} {K K' : AV → Heap → Prop} (hk : ∀ r G', K r G' → K' r G') (h : stepK C mb o ρ G K) : stepK C mb o ρ G K' := by
  obtain ⟨dst, op, ty, pos, af, gd⟩ := o
  have new' : (newK C ρ op fun mk b => K (mk G.next) (G.push b)) → newK C ρ op fun mk b => K' (mk G.next) (G.push b) := fun h => (newK_ext C ρ op).mono (K := fun q => K (q.1 G.next) (G.push q.2)) (K' := fun q => K' (q.1 G.next) (G.push q.2)) (fun q => hk _ _) h
  have imm' : (immK C ρ op fun r => K r G) → immK C ρ op fun r => K' r G := (immK_ext C ρ op).mono fun r => hk _ _
  have pure' : (pureK C G ρ op fun r => K r G) → pureK C G ρ op fun r => K' r G := (pureK_ext C G ρ op).mono fun r => hk _ _
  cases op <;> simp only [stepK] at h ⊢
  case alloc => exact new' h
  case makeSlice => exact new' h
  case box => split <;> rename_i hm <;> simp only [hm] at h <;> first | exact new' h | exact imm' h
  case buildSlice => split <;> rename_i hm <;> simp only [hm] at h <;> first | exact new' h | exact imm' h
  case store t x v => exact (stoK_ext C G t (ρ x) (ρ v)).mono (fun G' => hk _ _) h
  case build => exact ⟨h.1, pure' h.2⟩
  case call c =>
    obtain ⟨callee, args, ats⟩ := c
    cases callee with
    | value f => exact callR_mono hk h
    | builtin b =>
      cases b <;> (try simp only at h ⊢)
      case append =>
        obtain ⟨args⟩ := args
        obtain ⟨ats⟩ := ats
        match args, ats, h with
        | [s, x], [ts, tx], h => exact (appK_ext C G ts tx (ρ s) (ρ x)).mono (K := fun q => K q.1 q.2) (K' := fun q => K' q.1 q.2) (fun q => hk _ _) h
      case delete =>
        obtain ⟨args⟩ := args
        obtain ⟨ats⟩ := ats
        match args, ats, h with
        | [m, k], [t, _], h => exact delK_mono (fun G' => hk _ _) h
      case len =>
        unfold lenK at h ⊢
        split at h
        · rename_i x t hc
          injection hc with hc1 hc2 hc3
          subst hc2; subst hc3
          split at h
          · rename_i b hb
            exact ⟨h.1, mapAt_mono (fun a b c d e => hk _ _) h.2⟩
          · exact (pureK_ext C G ρ _).mono (fun r => hk _ _) h
        · exact h.elim
      all_goals exact pure' h
    | _ => exact pure' h
  case makeMap t r =>
    cases r with
    | none => exact hk _ _ h
    | some r => exact pure' h
  case mapUpdate => exact updK_mono (fun G' => hk _ _) h
  case insert => exact updK_mono (fun G' => hk _ _) h
  case lookup => exact lookK_mono (fun r => hk _ _) h
  case range => exact ⟨h.1, mapAt_mono (fun a b c d e => hk _ _) h.2⟩
  case next it s =>
    cases s with
    | false => exact nextK_mono hk h
    | true => exact pure' h
  case entry => exact entryK_mono (fun r => hk _ _) h
  all_goals exact pure' h
theorem wantK_mono {ops : Array Oper} {o : Oper} {env : Env} {y n y' n' : Prop} (hy : y → y') (hn : n → n') (h : wantK ops o env y n) : wantK ops o env y' n' := by
  unfold wantK at h ⊢
  cases hg : o.guard with
  | none => rw [hg] at h; exact hy h
  | some q =>
    rw [hg] at h
    cases hd : (ops[q.1]?).bind (·.dst) with
    | none => simp only [hd] at h
    | some d =>
      simp only [hd] at h ⊢
      cases hb : env d <;> rw [hb] at h <;> first | exact h.elim | exact ⟨fun e => hy (h.1 e), fun e => hn (h.2 e)⟩
theorem runOps_mono {C : Cx} {mb : Nat → Bool} {ops : Array Oper} {K K' : Env → Heap → Prop} : ∀ (l : List Oper) {env : Env} {G : Heap}, (∀ env G, K env G → K' env G) → runOps C mb ops l env G K → runOps C mb ops l env G K'
  | [], env, G, hk, h => hk _ _ h
  | o :: rest, env, G, hk, h => by
    simp only [runOps] at h ⊢
    refine wantK_mono (fun h => ?_) (runOps_mono rest hk) h
    exact stepK_mono (fun r G' => runOps_mono rest hk) h

def numL : Nat → List AV → List (Nat × AV)
  | _, [] => []
  | k, v :: vs => (k, v) :: numL (k + 1) vs
theorem envL_numL : ∀ (vs : List AV) (k t : Nat), envL (numL k vs) t = if t < k then .undef else vs.getD (t - k) .undef
  | [], k, t => by simp [numL, envL]
  | v :: vs, k, t => by
    simp only [numL, envL, envL_numL vs (k + 1) t]
    by_cases h1 : t = k
    · subst h1; simp
    · rw [if_neg h1]
      by_cases h2 : t < k
      · rw [if_pos h2, if_pos (by omega)]
      · rw [if_neg h2, if_neg (by omega), show t - k = (t - (k + 1)) + 1 from by omega]
        simp
theorem Ct.start {C : Cx} {f : FuncId} {fn : Func} {c : Code} {args : List AV} {G : Heap} {R : AV → Heap → Prop} (mb : Nat → Bool) (hf : C.P.funcs[f]? = some fn) (hb : fn.body = some c) (hcall : C.callable f = true) (hlen : decide (args.length ≤ fn.ntmps) = true)
    (h : ∀ R', R' = R → Runs ⟨C, fn, mb, R'⟩ [.code c] (envL (numL 0 args)) G) : Ct C f args G R :=
  Ct.intro mb hf hb hcall (of_decide_eq_true hlen) (by
    have : envL (numL 0 args) = env0 args := funext fun t => by rw [envL_numL]; simp [env0]
    rw [← this]; exact h R rfl)
theorem Runs.reg {F : Fx} {k : List Item} {env : Env} {G : Heap} {id : Nat} {ops : Array Oper} (l : List Nat) (hok : ops.toList.all (opOk ops F.fn.ntmps) = true) (h : ∀ kk, kk = k → ∀ oo, oo = ops → runOps F.C F.mb oo ops.toList env G fun env' G' => Runs F kk (envL (keepL env' l)) G') : Runs F (.code (.region id ops false) :: k) env G :=
  Runs.region hok (runOps_mono ops.toList (fun env' G' h => h.keep l) (h k rfl ops rfl))
theorem Runs.retL {F : Fx} {k : List Item} {env : Env} {G : Heap} (rs : List ResultVar) (hrs : F.fn.results.toList = rs) (hok : F.fn.results.toList.all (resOk F.fn.ntmps) = true) (h : resK F.C G env rs fun vs => oneK vs fun r => F.R r G) : Runs F (.code .ret :: k) env G := by
  subst hrs; exact Runs.ret hok h
theorem Runs.finL {F : Fx} {env : Env} {G : Heap} (rs : List ResultVar) (hrs : F.fn.results.toList = rs) (hok : F.fn.results.toList.all (resOk F.fn.ntmps) = true) (h : resK F.C G env rs fun vs => oneK vs fun r => F.R r G) : Runs F [] env G := by
  subst hrs; exact Runs.fin hok h
/-- A value that is reckoned before it is handed on. -/
def letX {α β : Type} (v : α) (K : α → β) : β := K v
def mark {α : Type} (v : α) : α := v
theorem mark_eq (α : Type) (v : α) : mark v = v := rfl
@[congr] theorem letX_congr {α β : Type} {v v' : α} {K : α → β} (h : mark v = v') : letX v K = letX v' K := by rw [← h]; rfl
theorem letX_eq (α β : Type) (v : α) (K : α → β) : letX v K = K v := rfl
theorem bool_ite {b p : Bool} {yes no : Prop} : ((b = p → yes) ∧ (b = !p → no)) = (if b = p then yes else no) := by
  cases b <;> cases p <;> simp
theorem wantK_ite {ops : Array Oper} {d : Option Tmp} {op : Op} {ty : TypeId} {pos : String} {af : Array Edge} {j : Nat} {p : Bool} {env : Env} {yes no : Prop} : wantK ops ⟨d, op, ty, pos, af, some (j, p)⟩ env yes no = (match (ops[j]?).bind (·.dst) with
    | some d => (match env d with
      | .bool b' => if b' = p then yes else no
      | _ => False)
    | none => False) := by
  simp only [← bool_ite]; rfl
theorem app_ite {n : Nat} {A B : Prop} : ((n = 0 → A) ∧ (0 < n → B)) = (if n = 0 then A else B) := by
  by_cases h : n = 0
  · subst h; simp
  · rw [if_neg h]; simp [h, Nat.pos_of_ne_zero h]
def stepR (C : Cx) (mb : Nat → Bool) (ops : Array Oper) (rest : List Oper) (o : Oper) (env : Env) (G : Heap) (KE : Env → Heap → Prop) : Prop := stepK C mb o (C.ev env) G fun r G' => runOps C mb ops rest (putE env o.dst r) G' KE
/-- At a call. -/
def CallAt (C : Cx) (mb : Nat → Bool) (ops : Array Oper) (rest : List Oper) (d : Option Tmp) (g : FuncId) (args : List AV) (env : Env) (G : Heap) (KE : Env → Heap → Prop) : Prop := ∃ R, Ct C g args G R ∧ ∀ r G', R r G' → runOps C mb ops rest (putE env d r) G' KE
def stepRX (C : Cx) (mb : Nat → Bool) (ba nn : Nat) (cf : List (Nat × Nat)) (ops : Array Oper) (ix : Nat) (rest : List Oper) (o : Oper) (env : Env) (G : Heap) (acc : List Ent) (KE : Env → Heap → Prop) : Prop :=
  stepX C mb ba nn cf ix acc o (C.ev env) G fun r G' acc' => runX C mb ba nn cf ops (ix + 1) rest (putE env o.dst r) G' acc' KE
def CallAtX (C : Cx) (mb : Nat → Bool) (ba nn : Nat) (cf : List (Nat × Nat)) (ops : Array Oper) (ix : Nat) (rest : List Oper) (d : Option Tmp) (g : FuncId) (args : List AV) (env : Env) (G : Heap) (acc : List Ent) (KE : Env → Heap → Prop) : Prop :=
  ∃ r G', Cd C g args G r G' ∧ Keeps ba nn G G' ∧ efC cf ix G G' acc ∧ runX C mb ba nn cf ops (ix + 1) rest (putE env d r) G' (.ef ix G :: acc) KE
theorem CallAt.pure {C : Cx} {mb : Nat → Bool} {ops : Array Oper} {rest : List Oper} {d : Option Tmp} {g : FuncId} {args : List AV} {env : Env} {G : Heap} {KE : Env → Heap → Prop} {r : AV} (h : Cp C g args G r) (k : runOps C mb ops rest (putE env d r) G KE) : CallAt C mb ops rest d g args env G KE :=
  ⟨_, h, fun r' G' ⟨e1, e2⟩ => by subst e1; subst e2; exact k⟩
theorem CallAt.rel {C : Cx} {mb : Nat → Bool} {ops : Array Oper} {rest : List Oper} {d : Option Tmp} {g : FuncId} {args : List AV} {env : Env} {G : Heap} {KE : Env → Heap → Prop} {R : AV → Heap → Prop} (h : Ct C g args G R) (k : ∀ r G', R r G' → runOps C mb ops rest (putE env d r) G' KE) : CallAt C mb ops rest d g args env G KE := ⟨R, h, k⟩
theorem CallAtX.pure {C : Cx} {mb : Nat → Bool} {ba nn : Nat} {cf : List (Nat × Nat)} {ops : Array Oper} {ix : Nat} {rest : List Oper} {d : Option Tmp} {g : FuncId} {args : List AV} {env : Env} {G : Heap} {acc : List Ent} {KE : Env → Heap → Prop} {r : AV} (h : Cp C g args G r)
    (he : efC cf ix G G acc) (k : runX C mb ba nn cf ops (ix + 1) rest (putE env d r) G (.ef ix G :: acc) KE) : CallAtX C mb ba nn cf ops ix rest d g args env G acc KE := ⟨r, G, h, .refl .., he, k⟩
theorem rdSame.rfl {G : Heap} {p : AV} {sz : Nat} : rdSame G G p sz := by
  unfold rdSame; split <;> simp
theorem efC.rfl {cf : List (Nat × Nat)} {ix : Nat} {G : Heap} : ∀ {acc : List Ent}, efC cf ix G G acc
  | [] => trivial
  | .ld .. :: rest => ⟨by split; exact rdSame.rfl; trivial, efC.rfl⟩
  | .ef .. :: rest => efC.rfl (acc := rest)
/-- 'partsK', with the cells as a function: nothing is said twice. -/
def partsF (C : Cx) (place : Nat → Option (Nat × Nat)) (ρ : Operand → AV) : List (Nat × Operand) → Nat → (Nat → AV) → (List AV → Prop) → Prop
  | [], len, f, K => K (tab len f)
  | (i, x) :: rest, len, f, K => match place i with
    | none => False
    | some (off, sz) => (ρ x).cells.length = sz ∧ off + (ρ x).cells.length ≤ len ∧ ((ρ x).cells.all AV.isCell = true) ∧ partsF C place ρ rest len (setL f off (ρ x).cells) K
theorem tab_getD (len : Nat) (f : Nat → AV) (i : Nat) : (tab len f)[i]? = if i < len then some (f i) else none := by
  split
  · rename_i h; exact tab_get _ _ _ h
  · rename_i h; exact List.getElem?_eq_none (by rw [tab_length]; omega)
theorem lay_tab {len off : Nat} {f : Nat → AV} {cs : List AV} (h : off + cs.length ≤ len) : lay (tab len f) off cs = tab len (setL f off cs) := by
  apply List.ext_getElem?
  intro i
  simp only [lay, List.getElem?_append, List.length_append, List.length_take, tab_length, List.getElem?_take, List.getElem?_drop, tab_getD, setL_apply]
  by_cases h1 : i < off
  · have : i < min off len + cs.length := by omega
    simp only [this, show i < min off len from by omega, show i < len from by omega, h1, if_true]
    rw [if_neg (by omega)]
  · by_cases h2 : i < off + cs.length
    · simp only [show i < min off len + cs.length from by omega, show ¬ i < min off len from by omega, show i < len from by omega, if_true, if_false]
      rw [if_pos ⟨by omega, h2⟩, show min off len = off from by omega]
      rw [List.getElem?_eq_getElem (show i - off < cs.length by omega), List.getD_eq_getElem?_getD, List.getElem?_eq_getElem (show i - off < cs.length by omega)]
      rfl
    · simp only [show ¬ i < min off len + cs.length from by omega, if_false]
      rw [show off + cs.length + (i - (min off len + cs.length)) = i from by omega, if_neg (show ¬ (off ≤ i ∧ i < off + cs.length) by omega)]
theorem parts_tab {C : Cx} {place : Nat → Option (Nat × Nat)} {ρ : Operand → AV} {K : List AV → Prop} : ∀ (l : List (Nat × Operand)) (len : Nat) (f : Nat → AV), partsK C place ρ l (tab len f) K = partsF C place ρ l len f K
  | [], len, f => rfl
  | (i, x) :: rest, len, f => by
    simp only [partsK, partsF]
    cases place i with
    | none => rfl
    | some q =>
      simp only [tab_length]
      refine propext (and_congr_right fun _ => and_congr_right fun hle => and_congr_right fun _ => ?_)
      rw [lay_tab hle, parts_tab rest]
theorem tab_self (zs : List AV) : tab zs.length (fun j => zs.getD j .undef) = zs := by
  apply List.ext_getElem?
  intro i
  rw [tab_getD]
  split
  · rename_i h; rw [List.getElem?_eq_getElem h, List.getD_eq_getElem?_getD, List.getElem?_eq_getElem h]; rfl
  · rename_i h; rw [List.getElem?_eq_none (by omega)]
theorem elsF {C : Cx} {ρ : Operand → AV} {t : TypeId} {n : Nat} {ps : Array (Nat × Operand)} {KK : Nat → List AV → Prop} : elsK C ρ t n ps KK = (match C.el t with
    | none => False
    | some e => match C.ti e with
      | none => False
      | some i => (n * i.sz ≤ 16777216 ∧ n ≤ 16777216 ∧ i.zs.all AV.isCell = true) ∧ partsF C (fun k => some (k * i.sz, i.sz)) ρ ps.toList (n * i.sz) (fun j => i.zs.getD (j % i.sz) .undef) (KK i.sz)) := by
  unfold elsK
  cases C.el t with
  | none => rfl
  | some e =>
    simp only
    cases C.ti e with
    | none => rfl
    | some i => simp only [zeros, parts_tab]
theorem bldF {C : Cx} {ρ : Operand → AV} {t : TypeId} {ps : Array (Nat × Operand)} {zs : List AV} {K : List AV → Prop} : partsK C (C.place t) ρ ps.toList zs K = partsF C (C.place t) ρ ps.toList zs.length (fun j => zs.getD j .undef) K := by
  rw [← parts_tab, tab_self]
/-- A contract that needs no memory, used where there is some. -/
theorem Ct.fresh {C : Cx} {f : FuncId} {args : List AV} {R : Nat → AV → Heap → Prop} (h : ∀ n, Ct C f args (.nil n) (R n)) (G : Heap) : Ct C f args G fun r G' => ∃ G1, R G.next r G1 ∧ G'.next = G1.next ∧ (∀ b, G.next ≤ b → G'.get b = G1.get b) ∧ ∀ b, b < G.next → G'.get b = G.get b := by
  refine (Ct.frame (G := G) (h G.next) (fun b blk e => (by cases e)) rfl).mono fun r G' ⟨G1, hR, he⟩ => ?_
  subst he
  refine ⟨G1, hR, rfl, fun b hb => ?_, fun b hb => ?_⟩
  · simp only [Heap.over]; rw [if_neg (by show ¬ b < G.next; omega)]
  · simp only [Heap.over]; rw [if_pos (show b < G.next from hb)]
theorem Runs.anyG {F : Fx} {k : List Item} {env : Env} {G : Heap} (h : ∀ G2, G2 = G → Runs F k env G2) : Runs F k env G := h G rfl
theorem Runs.drawN {F : Fx} {k : List Item} {env : Env} {G : Heap} {id : Nat} {ops : Array Oper} (l : List Nat) (cf : List (Nat × Nat)) (N : Nat) (hN : ops.size = N) (hm : F.C.P.follows .mixedOrders = true) (hok : rgOk ops F.fn.ntmps cf = true)
    (h : ∀ kk, kk = k → ∀ oo, oo = ops → runX F.C F.mb G.next N cf oo 0 ops.toList env ⟨G.next + N, G.get⟩ [] fun env' G' => Runs F kk (envL (keepL env' l)) G') : Runs F (.code (.region id ops true) :: k) env G := by
  subst hN; exact Runs.draw l cf hm hok h
end Go.Fw
