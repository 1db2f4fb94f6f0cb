/- append. -/
import Derived.Test.YtjcplclbdanpgaaFwH
import Derived.Laws.Append
import Derived.Laws.AppendOwn
set_option linter.unusedVariables false
set_option linter.unusedSimpArgs false
namespace Go.Fw
open Go

def rdsK (G : Heap) (x : AV) (sz : Nat) (K : Nat → (Nat → List AV) → Prop) : Prop :=
  match x with
  | .sl b off len ex sz' => (match G.get b with
    | some blk => (sz' = sz ∧ off + len * sz ≤ blk.n) ∧ K len fun i => tab sz fun j => blk.f (off + i * sz + j)
    | none => False)
  | .lst sz' n f => sz' = sz ∧ K n f
  | .nils | .emp => K 0 fun _ => []
  | _ => False
/-- What an append leaves: the old cells, then the new ones. -/
def appF (sz len : Nat) (old : Nat → AV) (g : Nat → List AV) : Nat → AV := fun i => if i < len * sz then old i else (g ((i - len * sz) / sz)).getD ((i - len * sz) % sz) .undef
def appTo (G : Heap) (s : AV) (sz m : Nat) (g : Nat → List AV) (fits : Nat → Prop) (K : AV → Heap → Prop) : Prop :=
  match s with
  | .nils => fits m ∧ (m = 0 → K .nils G) ∧ (0 < m → K (.sl G.next 0 m false sz) (G.push ⟨m * sz, appF sz 0 (fun _ => .undef) g⟩))
  | .sl b off len ex sz' => (match G.get b with
    | some blk => (sz' = sz ∧ off + len * sz ≤ blk.n ∧ fits (len + m)) ∧ (m = 0 → K (.sl b off len ex sz') G) ∧ (0 < m → match ex with
      | true => K (.sl G.next 0 (len + m) false sz) (G.push ⟨(len + m) * sz, appF sz len (fun i => blk.f (off + i)) g⟩)
      | false => off = 0 ∧ K (.sl G.next 0 (len + m) false sz) ((G.set b none).push ⟨(len + m) * sz, appF sz len blk.f g⟩))
    | none => False)
  | _ => False
def appK (C : Cx) (G : Heap) (ts tx : TypeId) (s x : AV) (K : AV → Heap → Prop) : Prop :=
  match C.el ts, (C.el tx).isSome with
  | some e, true => (match C.ti e with
    | some i => i.sz ≠ 0 ∧ rdsK G x i.sz fun m g => appTo G s i.sz m g (fun n => n * i.by' ≤ 140737488355328 ∧ n ≤ 140737488355328) K
    | none => False)
  | _, _ => False

section
variable {P : Program} (w : World)
theorem app_grow {t u ty e e' : TypeId} {i : TypeInfo} {z : Value} (ht : P.underlying t = some (.slice e)) (hu : P.underlying u = some (.slice e')) (hi : P.info? e = some i) (hz : i.zero = some z)
    (p : Option Addr) (sLen sCap : Nat) (olds : List Value) (hlo : olds.length = sLen * i.size) (holds : p = none ∧ sLen = 0 ∨ ∃ b, p = some b ∧ ∀ j v, olds[j]? = some v → w.cell? (b.add j) = some v)
    (q : Option Addr) (n c : Nat) (news : List Value) (hl : news.length = n * i.size) (hnews : ∃ a, q = some a ∧ ∀ j v, news[j]? = some v → w.cell? (a.add j) = some v)
    (hg : sCap < sLen + n) (h63 : ((sLen + n : Nat) : Int) ≤ 9223372036854775807) (hfit : Builtin.nextslicecap (sLen + n) sCap * i.bytes ≤ 281474976710656) :
    (Builtin.append_ #[t, u] ty #[.slice p sLen sCap, .slice q n c]).run P w =
      .ok (.slice (some ⟨w.heap.size, 0, none⟩) (sLen + n) (grownCap w (sLen + n) sCap e))
        (w.drew.alloc (.cells (olds.toArray ++ news.toArray ++ Builtin.zeroCells z.cells (grownCap w (sLen + n) sCap e - (sLen + n))) e)) := by
  obtain ⟨a, rfl, hnews⟩ := hnews
  have hn : ¬ (sLen + n ≤ sCap) := by omega
  have h63' : ¬ (9223372036854775807 < ((sLen : Int) + (n : Int))) := by omega
  have h48' : ¬ (281474976710656 < Builtin.nextslicecap (sLen + n) sCap * i.bytes) := by omega
  have hf := run_firstCells_some (P := P) w.drew i.size n a n c news hl (by simpa using hnews)
  have hfo : (Builtin.firstCells i.size sLen (.slice p sLen sCap)).run P w.drew = .ok olds.toArray w.drew := by
    rcases holds with ⟨rfl, h0⟩ | ⟨b, rfl, hb⟩
    · have : olds = [] := List.eq_nil_of_length_eq_zero (by rw [hlo, h0]; simp)
      subst this
      exact run_firstCells_none w.drew _ _ _ _
    · exact run_firstCells_some (P := P) w.drew i.size sLen b sLen sCap olds hlo (by simpa using hb)
  simp [Builtin.append_, run_underlying ht, run_underlying hu, sizeOf, typeInfo, zeroValue, hi, hz, Builtin.lenOf, hn, h63', h48', Question.forced, hf, hfo, newRow, grownCap]
  congr 2
  apply Array.ext'
  simp [List.append_assoc]

theorem app_room {t u ty e e' el : TypeId} {i : TypeInfo} (ht : P.underlying t = some (.slice e)) (hu : P.underlying u = some (.slice e')) (hi : P.info? e = some i)
    (g sLen sCap : Nat) (cur : Array Value) (hg : w.heap[g]? = some (.cells cur el (0, 0)))
    (q : Option Addr) (m c : Nat) (news : List Value) (hl : news.length = m * i.size) (hnews : ∃ a, q = some a ∧ ∀ j u, news[j]? = some u → w.cell? (a.add j) = some u) (h1 : ∀ u ∈ news, u.oneCell' = true)
    (hroom : sLen + m ≤ sCap) (hfit : sLen * i.size + news.length ≤ cur.size) :
    (Builtin.append_ #[t, u] ty #[.slice (some ⟨g, 0, none⟩) sLen sCap, .slice q m c]).run P w =
      .ok (.slice (some ⟨g, 0, none⟩) (sLen + m) sCap) (w.setRow g (cur.toList.take (sLen * i.size) ++ news ++ cur.toList.drop (sLen * i.size + news.length)).toArray) := by
  obtain ⟨a, rfl, hnews⟩ := hnews
  have hf := run_firstCells_some (P := P) w i.size m a m c news hl hnews
  have hst := run_storeCells_at P g (sLen * i.size) el news 0 cur w hg (by simpa using hfit) h1
  simp only [Nat.add_zero] at hst
  simp [Builtin.append_, run_underlying ht, run_underlying hu, sizeOf, typeInfo, hi, Builtin.lenOf, hroom, hf, add_mk, hst]

theorem app_none {t u ty e e' : TypeId} {i : TypeInfo} (ht : P.underlying t = some (.slice e)) (hu : P.underlying u = some (.slice e')) (hi : P.info? e = some i)
    (p q : Option Addr) (sLen sCap c : Nat) (hle : sLen ≤ sCap) : (Builtin.append_ #[t, u] ty #[.slice p sLen sCap, .slice q 0 c]).run P w = .ok (.slice p sLen sCap) w := by
  have hf : (Builtin.firstCells i.size 0 (.slice q 0 c)).run P w = .ok #[] w := by
    cases q with
    | none => exact run_firstCells_none w _ _ _ _
    | some a => exact run_firstCells_some (P := P) w i.size 0 a 0 c [] (by simp) (by simp)
  cases p <;> simp [Builtin.append_, run_underlying ht, run_underlying hu, sizeOf, typeInfo, hi, Builtin.lenOf, hle, hf, storeCells]
end

/-- What a readable slice holds: its cells in a row. -/
theorem rds_spec {C : Cx} {B0 : Nat} {L : Lay} {G : Heap} {w : World} (hr : Rel C.gl B0 L G w) {x : AV} {v : Value} {sz : Nat} {K : Nat → (Nat → List AV) → Prop} (hx : VR L w x v) (h : rdsK G x sz K) :
    ∃ (q : Option Addr) (m c : Nat) (g : Nat → List AV) (news : List Value), v = .slice q m c ∧ K m g ∧ news.length = m * sz ∧ (∀ i, i < m → (g i).length = sz) ∧ (∀ u ∈ news, u.oneCell' = true) ∧ (0 < m → ∃ a, q = some a ∧ ∀ (j : Nat) u, news[j]? = some u → w.cell? (a.add j) = some u) ∧
      ∀ i j u, i < m → j < sz → news[i * sz + j]? = some u → VR L w ((g i).getD j .undef) u := by
  have dm : ∀ {m j : Nat}, j < m * sz → j / sz < m ∧ j % sz < sz ∧ j / sz * sz + j % sz = j := by
    intro m j hj
    have hp : 0 < sz := by
      rcases Nat.eq_zero_or_pos sz with h | h
      · subst h; simp at hj
      · exact h
    exact ⟨(Nat.div_lt_iff_lt_mul hp).2 hj, Nat.mod_lt _ hp, Nat.div_add_mod' j sz⟩
  have ij : ∀ {m i j : Nat}, i < m → j < sz → i * sz + j < m * sz := by
    intro m i j hi hj
    have : (i + 1) * sz ≤ m * sz := Nat.mul_le_mul_right _ hi
    rw [Nat.add_mul] at this
    omega
  cases x <;> simp only [rdsK] at h
  case nils =>
    obtain ⟨a, rfl⟩ := hx.inv_nils
    exact ⟨a, 0, 0, _, [], rfl, h, by simp, fun i hi => by omega, by simp, fun h => by omega, fun i j u hi => by omega⟩
  case emp =>
    obtain ⟨a, cap, rfl⟩ := hx.inv_emp
    exact ⟨a, 0, cap, _, [], rfl, h, by simp, fun i hi => by omega, by simp, fun h => by omega, fun i j u hi => by omega⟩
  case sl b off len ex sz' =>
    obtain ⟨cap, rfl, hD, hle, _, hS, _⟩ := hx.inv_sl
    cases hg : G.get b with
    | none => simp [hg] at h
    | some blk =>
      simp only [hg] at h
      obtain ⟨⟨rfl, hlen⟩, hK⟩ := h
      obtain ⟨_, _, _, c, e, hc, hs, hcell⟩ := hr.cells hD hg
      have hx : ∀ j, j < len * sz' → ∃ v, c[off + j]? = some v ∧ v.oneCell' = true ∧ VR L w (blk.f (off + j)) v := fun j hj => hcell _ (by omega)
      refine ⟨_, len, cap, _, (List.range (len * sz')).map fun j => (c[off + j]?).getD undef, rfl, hK, by simp, fun i hi => tab_length _ _, fun u hu => ?_, fun _ => ⟨_, rfl, fun j u hu => ?_⟩, fun i j u hi hj hu => ?_⟩
      · obtain ⟨j, hj, rfl⟩ := List.mem_map.1 hu
        obtain ⟨v, h1, h2, _⟩ := hx j (List.mem_range.1 hj)
        simp [h1, h2]
      · have hj : j < len * sz' := by
          have := (List.getElem?_eq_some_iff.1 hu).1
          simpa using this
        obtain ⟨v, h1, h2, _⟩ := hx j hj
        simp [hj, h1] at hu
        subst hu
        rw [add_mk]
        simp [World.cell?, hc, h1]
      · have hlt := ij hi hj
        obtain ⟨v, h1, h2, h3⟩ := hx _ hlt
        simp [hlt, h1] at hu
        subst hu
        have e1 : (tab sz' fun j => blk.f (off + i * sz' + j)).getD j .undef = blk.f (off + (i * sz' + j)) := by
          rw [List.getD_eq_getElem?_getD, tab_get _ _ _ hj]; simp [Nat.add_assoc]
        rw [e1]
        exact h3
  case lst sz' n f =>
    obtain ⟨rfl, hK⟩ := h
    obtain ⟨q, ad, cap, vs, rfl, hp, hle, hl, hc, hv⟩ := hx.inv_lst
    refine ⟨q, n, cap, f, (List.range (n * sz')).map fun j => vs (j / sz') (j % sz'), rfl, hK, by simp, hl, fun u hu => ?_, fun h0 => ⟨ad, (hp h0).1, fun j u hu => ?_⟩, fun i j u hi hj hu => ?_⟩
    · obtain ⟨j, hj, rfl⟩ := List.mem_map.1 hu
      obtain ⟨h1, h2, h3⟩ := dm (List.mem_range.1 hj)
      exact (hc _ _ h1 h2).2
    · have hj : j < n * sz' := by
        have := (List.getElem?_eq_some_iff.1 hu).1
        simpa using this
      simp [hj] at hu
      subst hu
      obtain ⟨h1, h2, h3⟩ := dm hj
      have := (hc _ _ h1 h2).1
      rwa [h3] at this
    · have hlt := ij hi hj
      simp [hlt] at hu
      subst hu
      have e1 : (i * sz' + j) / sz' = i := by rw [Nat.mul_comm, Nat.mul_add_div (by omega), Nat.div_eq_of_lt hj]; rfl
      rw [e1, Nat.mod_eq_of_lt hj]
      have hjl : j < (f i).length := by rw [hl i hi]; exact hj
      refine hv i j _ hi ?_
      simp [List.getD_eq_getElem?_getD, hjl]

/-- The cells of old and new, in a row. -/
theorem app_cells {L : Lay} {w : World} {sz len m : Nat} {old : Nat → AV} {g : Nat → List AV} {olds news : List Value} (hlo : olds.length = len * sz) (hln : news.length = m * sz) (h0 : 0 < sz)
    (hold : ∀ i u, olds[i]? = some u → VR L w (old i) u) (hnew : ∀ i j u, i < m → j < sz → news[i * sz + j]? = some u → VR L w ((g i).getD j .undef) u) {i : Nat} {u : Value} (hu : (olds ++ news)[i]? = some u) :
    VR L w (appF sz len old g i) u := by
  unfold appF
  rw [List.getElem?_append, hlo] at hu
  split
  · rename_i h
    rw [if_pos h] at hu
    exact hold i u hu
  · rename_i h
    rw [if_neg h] at hu
    have hlt : i - len * sz < m * sz := by
      have := (List.getElem?_eq_some_iff.1 hu).1
      omega
    refine hnew _ _ u ((Nat.div_lt_iff_lt_mul h0).2 hlt) (Nat.mod_lt _ h0) ?_
    rw [Nat.div_add_mod']
    exact hu

theorem fits_app {C : Cx} {e : TypeId} {i0 : TypeInfo} {n cap : Nat} (h : n * i0.bytes ≤ 140737488355328) (hc : cap < n) : Builtin.nextslicecap n cap * i0.bytes ≤ 281474976710656 := growslice_fits hc h

theorem app_sound {C : Cx} {B0 : Nat} {L : Lay} {G : Heap} {w : World} {ts tx ty : TypeId} {s x : AV} {vs vx : Value} {K : AV → Heap → Prop} (hr : Rel C.gl B0 L G w) (hs : VR L w s vs) (hx : VR L w x vx) (h : appK C G ts tx s x K) :
    ∃ v w' L' r G', (Builtin.append_ #[ts, tx] ty #[vs, vx]).run C.P w = .ok v w' ∧ K r G' ∧ Fr L G w L' G' w' ∧ Rel C.gl B0 L' G' w' ∧ VR L' w' r v := by
  unfold appK at h
  split at h
  · rename_i e he htx
    obtain ⟨e', he'⟩ := Option.isSome_iff_exists.1 htx
    have hu := Cx.el_spec he
    have hu' := Cx.el_spec he'
    split at h
    · rename_i ti hti
      obtain ⟨i0, d, z, h1, h2, h3, h4, rfl⟩ := Cx.ti_spec hti
      simp only at h
      obtain ⟨hne, h⟩ := h
      have h0 : 0 < i0.size := by omega
      obtain ⟨q, m, c, g, news, rfl, hK, hln, hgl, hone, hat, hnew⟩ := rds_spec hr hx h
      have hdr : ∀ {G1 : Heap}, Rel C.gl B0 L G1 w → Rel C.gl B0 L G1 w.drew := fun h => ⟨h.base, h.idlt, h.ilt, h.wf, fun b blk hD hg => by
          obtain ⟨a1, a2, o, a4, a5⟩ := h.live b blk hD hg
          exact ⟨a1, a2, o, a4, a5.mono (w := w) (w' := w.drew) (.refl L) fun _ _ => rfl⟩, h.inj, fun g => (h.glob g).mono (w := w) (w' := w.drew) (.refl L) fun _ _ => rfl⟩
      -- a new row
      have grow : ∀ (G1 : Heap) (p : Option Addr) (len cap : Nat) (olds : List Value) (old : Nat → AV), Rel C.gl B0 L G1 w → G1.next = G.next → (∀ b, G1.get b ≠ none → G.get b ≠ none) → (∀ b, ¬ L.D b → G1.get b = G.get b) →
          olds.length = len * i0.size → (p = none ∧ len = 0 ∨ ∃ b, p = some b ∧ ∀ (j : Nat) v, olds[j]? = some v → w.cell? (b.add j) = some v) → (∀ u ∈ olds, u.oneCell' = true) → (∀ i u, olds[i]? = some u → VR L w (old i) u) → 0 < m → cap < len + m →
          (len + m) * i0.bytes ≤ 140737488355328 → len + m ≤ 140737488355328 → K (.sl G1.next 0 (len + m) false i0.size) (G1.push ⟨(len + m) * i0.size, appF i0.size len old g⟩) →
          ∃ v w' L' r G', (Builtin.append_ #[ts, tx] ty #[.slice p len cap, .slice q m c]).run C.P w = .ok v w' ∧ K r G' ∧ Fr L G w L' G' w' ∧ Rel C.gl B0 L' G' w' ∧ VR L' w' r v := by
        intro G1 p len cap olds old hr1 hnx hsub hout hlo hp hone' hold hm hcap hb1 hb2 hK1
        have hrun := app_grow (P := C.P) w (ty := ty) hu hu' h1 h3 p len cap olds hlo hp q m c news hln (hat hm) hcap (by omega) (growslice_fits hcap hb1)
        have hge : len + m ≤ grownCap w (len + m) cap e := grownCap_ge w (len + m) cap e
        have hmax := grownCap_le_maxLen w (len + m) cap e (by simp only [maxLen]; omega)
        simp only [maxLen] at hmax
        generalize hcs : olds.toArray ++ news.toArray ++ Builtin.zeroCells z.cells (grownCap w (len + m) cap e - (len + m)) = cs at hrun
        have hsz : cs.size = grownCap w (len + m) cap e * i0.size := by
          rw [← hcs]
          simp only [Array.size_append, List.size_toArray, size_zeroCells, h4, hlo, hln, ← Nat.add_mul]
          congr 1
          omega
        have hle : (len + m) * i0.size ≤ cs.size := by rw [hsz]; exact Nat.mul_le_mul_right _ hge
        obtain ⟨r1, r2⟩ := (hdr hr1).pushNew (blk := ⟨(len + m) * i0.size, appF i0.size len old g⟩) (c := cs) (e := e) hle (fun j hj => by
          simp only at hj ⊢
          have hj' : j < (olds ++ news).length := by rw [List.length_append, hlo, hln, ← Nat.add_mul]; exact hj
          have hcell : cs[j]? = some ((olds ++ news)[j]) := by
            rw [← hcs, Array.getElem?_append_left (by simp only [Array.size_append, List.size_toArray]; rw [List.length_append] at hj'; exact hj')]
            simp only [List.append_toArray, List.getElem?_toArray]
            exact List.getElem?_eq_getElem hj'
          refine ⟨_, hcell, ?_, ?_⟩
          · rcases List.mem_append.1 (List.getElem_mem hj') with h | h
            · exact hone' _ h
            · exact hone _ h
          · exact (app_cells hlo hln h0 hold hnew (List.getElem?_eq_getElem hj')).mono (w := w) (w' := w.drew) (.refl L) fun _ _ => rfl)
        refine ⟨_, _, _, _, _, hrun, hK1, ?_, r1, ?_⟩
        · refine ⟨r2.le, r2.size, r2.os, r2.tape, r2.output, fun i hi hn => ?_, fun b hb hn => by rw [← hnx]; exact r2.newD b hb hn, fun b hb hn => ?_, fun i hi hn => ?_, by rw [← hnx]; exact r2.next, fun b hb hn => ?_, fun b hb hz => ?_⟩
          · exact r2.keep i hi fun b hD hg => hn b hD (hsub b hg)
          · rcases r2.newK b hb hn with h | ⟨b0, k1, k2, k3⟩
            · exact .inl h
            · exact .inr ⟨b0, k1, hsub b0 k2, k3⟩
          · rcases r2.newI i hi hn with h | ⟨b0, k1, k2, k3⟩
            · exact .inl h
            · exact .inr ⟨b0, k1, hsub b0 k2, k3⟩
          · rw [r2.old b (by omega) hn]; exact hout b hn
          · refine r2.dead b (by omega) ?_
            cases hq : G1.get b with
            | none => rfl
            | some y => exact absurd hz (hsub b (by rw [hq]; simp))
        · have e1 : w.drew.heap.size = (L.addD G1.next w.drew.heap.size cs.size).k G1.next := by show _ = upd L.k G1.next w.drew.heap.size G1.next; rw [upd_same]
          have e2 : (⟨w.heap.size, 0, none⟩ : Addr) = ⟨(L.addD G1.next w.drew.heap.size cs.size).k G1.next, 0, none⟩ := by rw [← e1]; rfl
          rw [e2]
          refine .sl G1.next 0 _ false _ _ (Lay.addD_DC _ _ _ _) hge (fun h => by cases h) ?_ hmax
          show 0 + _ ≤ upd L.S G1.next cs.size G1.next
          rw [upd_same, hsz]
          omega
      cases s <;> simp only [appTo] at hK
      case nils =>
        obtain ⟨⟨f1, f2⟩, hK0, hK1⟩ := hK
        obtain ⟨p, rfl⟩ := hs.inv_nils
        by_cases hm : m = 0
        · subst hm
          exact ⟨_, _, L, _, _, app_none (P := C.P) w hu hu' h1 p q 0 0 c (Nat.le_refl _), hK0 rfl, .refl L G w, hr, .nils p⟩
        · have hm : 0 < m := by omega
          have e1 : appF i0.size 0 (fun _ => AV.undef) g = appF i0.size 0 (fun _ => .undef) g := rfl
          refine grow G none 0 0 [] (fun _ => .undef) hr rfl (fun _ h => h) (fun _ _ => rfl) (by simp) (.inl ⟨rfl, rfl⟩) (by simp) (by simp) hm (by omega) (by simpa using f1) (by simpa using f2) (by simpa using hK1 hm) |> fun hh => ?_
          have hpn : (Builtin.append_ #[ts, tx] ty #[.slice p 0 0, .slice q m c]).run C.P w = (Builtin.append_ #[ts, tx] ty #[.slice none 0 0, .slice q m c]).run C.P w := by
            cases p with
            | none => rfl
            | some a =>
              rw [app_grow (P := C.P) w (ty := ty) hu hu' h1 h3 none 0 0 [] (by simp) (.inl ⟨rfl, rfl⟩) q m c news hln (hat hm) (by omega) (by omega) (growslice_fits (by omega) (by simpa using f1)),
                app_grow (P := C.P) w (ty := ty) hu hu' h1 h3 (some a) 0 0 [] (by simp) (.inr ⟨a, rfl, by simp⟩) q m c news hln (hat hm) (by omega) (by omega) (growslice_fits (by omega) (by simpa using f1))]
          rw [hpn]
          exact hh
      case sl b off len ex sz' =>
        cases hg : G.get b with
        | none => simp [hg] at hK
        | some blk =>
          simp only [hg] at hK
          obtain ⟨⟨rfl, hfit, f1, f2⟩, hK0, hK1⟩ := hK
          obtain ⟨cap, rfl, hD, hle, hex, hS, hmx⟩ := hs.inv_sl
          obtain ⟨k1, k2, k3, cc, ee, hc, hs', hcell⟩ := hr.cells hD hg
          by_cases hm : m = 0
          · subst hm
            exact ⟨_, _, L, _, _, app_none (P := C.P) w hu hu' h1 _ q len cap c hle, hK0 rfl, .refl L G w, hr, .sl b off len ex _ cap hD hle hex hS hmx⟩
          · have hm : 0 < m := by omega
            have hx : ∀ j, j < len * i0.size → ∃ v, cc[off + j]? = some v ∧ v.oneCell' = true ∧ VR L w (blk.f (off + j)) v := fun j hj => hcell _ (by omega)
            have olds := (List.range (len * i0.size)).map fun j => (cc[off + j]?).getD undef
            have hol : ∀ (j : Nat) v, ((List.range (len * i0.size)).map fun j => (cc[off + j]?).getD undef)[j]? = some v → j < len * i0.size ∧ cc[off + j]? = some v ∧ v.oneCell' = true ∧ VR L w (blk.f (off + j)) v := by
              intro j v hj
              have hlt : j < len * i0.size := by
                have := (List.getElem?_eq_some_iff.1 hj).1
                simpa using this
              obtain ⟨u, e1, e2, e3⟩ := hx j hlt
              simp [hlt, e1] at hj
              subst hj
              exact ⟨hlt, e1, e2, e3⟩
            have hmem : ∀ u ∈ ((List.range (len * i0.size)).map fun j => (cc[off + j]?).getD undef), u.oneCell' = true := by
              intro u hu
              obtain ⟨j, hj⟩ := List.getElem?_of_mem hu
              exact (hol j u hj).2.2.1
            have hat' : ∀ (j : Nat) v, ((List.range (len * i0.size)).map fun j => (cc[off + j]?).getD undef)[j]? = some v → w.cell? ((⟨L.k b, off, none⟩ : Addr).add j) = some v := by
              intro j v hj
              rw [add_mk]
              simp [World.cell?, hc, (hol j v hj).2.1]
            cases ex with
            | true =>
              have hcap := hex rfl
              exact grow G _ len cap _ (fun i => blk.f (off + i)) hr rfl (fun _ h => h) (fun _ _ => rfl) (by simp) (.inr ⟨_, rfl, hat'⟩) hmem (fun i u hi => (hol i u hi).2.2.2) hm (by omega) f1 f2 (hK1 hm)
            | false =>
              obtain ⟨rfl, hKK⟩ := hK1 hm
              have hkill := hr.kill b
              have hb : b < G.next := hr.idlt b hD.1
              by_cases hroom : len + m ≤ cap
              · -- it fits: the same block of the world, under a new name
                have hnn : news.length ≤ m * i0.size := Nat.le_of_eq hln
                have hcc : len * i0.size + news.length ≤ cc.size := by
                  have : (len + m) * i0.size ≤ cap * i0.size := Nat.mul_le_mul_right _ hroom
                  rw [Nat.add_mul] at this
                  omega
                have hrun := app_room (P := C.P) w (ty := ty) hu hu' h1 (L.k b) len cap cc hc q m c news hln (hat hm) hone hroom hcc
                generalize hcs : (cc.toList.take (len * i0.size) ++ news ++ cc.toList.drop (len * i0.size + news.length)).toArray = cs at hrun
                have hccl : len * i0.size + news.length ≤ cc.toList.length := by rw [Array.length_toList (xs := cc)]; exact hcc
                have hsz : cs.size = cc.size := by
                  rw [← hcs, List.size_toArray]
                  simp only [List.length_append, List.length_take, List.length_drop, Array.length_toList] at hccl ⊢
                  omega
                have hget : ∀ j, j < (len + m) * i0.size → cs[j]? = (((List.range (len * i0.size)).map fun j => (cc[0 + j]?).getD undef) ++ news)[j]? := by
                  intro j hj
                  rw [← hcs, List.getElem?_toArray, List.getElem?_append, List.getElem?_append, List.getElem?_append]
                  rw [Nat.add_mul] at hj
                  have hl1 : (List.take (len * i0.size) cc.toList).length = len * i0.size := by rw [List.length_take]; omega
                  simp only [List.length_append, hl1, List.length_map, List.length_range]
                  by_cases hjl : j < len * i0.size
                  · rw [if_pos (by omega), if_pos hjl, if_pos hjl, List.getElem?_take, if_pos hjl, Array.getElem?_toList]
                    obtain ⟨u, e1, _⟩ := hx j hjl
                    simp only [Nat.zero_add] at e1 ⊢
                    simp [hjl, e1]
                  · rw [if_pos (by omega), if_neg hjl, if_neg hjl]
                -- the relation, as if the block were written under its old name
                obtain ⟨r1, r2⟩ := hr.setNew (blk' := ⟨(len + m) * i0.size, appF i0.size len blk.f g⟩) (c' := cs) hD hg hc hsz (by simp only; rw [hsz, Nat.add_mul, ← hln]; exact hcc) (fun j hj => by
                  simp only at hj ⊢
                  have hj' : j < (((List.range (len * i0.size)).map fun j => (cc[0 + j]?).getD undef) ++ news).length := by
                    rw [List.length_append, List.length_map, List.length_range, hln, ← Nat.add_mul]; exact hj
                  refine ⟨_, by rw [hget j hj]; exact List.getElem?_eq_getElem hj', ?_, ?_⟩
                  · rcases List.mem_append.1 (List.getElem_mem hj') with h | h
                    · exact hmem _ h
                    · exact hone _ h
                  · exact app_cells (old := blk.f) (by simp) hln h0 (fun i u hi => by have := (hol i u hi).2.2.2; simpa using this) hnew (List.getElem?_eq_getElem hj'))
                have hnid : ¬ L.D G.next := fun hd => by have := hr.idlt _ hd; omega
                let L' : Lay := { L with k := upd L.k G.next (L.k b), D := fun x => L.D x ∨ x = G.next, S := upd L.S G.next (L.S b), M := fun x => if x = G.next then false else L.M x }
                have hleL : L.le L' := ⟨fun x hx => upd_ne _ _ fun e => hnid (e ▸ hx), fun x hx => upd_ne _ _ fun e => hnid (e ▸ hx), fun x hx => if_neg fun e : x = G.next => hnid (e ▸ hx), fun _ h => .inl h, fun _ h => h⟩
                have hm2 : ∀ {v x}, VR L (w.setRow (L.k b) cs) v x → VR L' (w.setRow (L.k b) cs) v x := fun hv => hv.mono hleL fun _ _ => rfl
                have hlive : ∀ x y, (((G.set b none).push ⟨(len + m) * i0.size, appF i0.size len blk.f g⟩).get x = some y) → (x = G.next ∧ y = ⟨(len + m) * i0.size, appF i0.size len blk.f g⟩) ∨ (x ≠ G.next ∧ x ≠ b ∧ G.get x = some y) := by
                  intro x y hx
                  have hx' : upd (upd G.get b none) G.next (some ⟨(len + m) * i0.size, appF i0.size len blk.f g⟩) x = some y := hx
                  by_cases e1 : x = G.next
                  · subst e1
                    rw [upd_same] at hx'
                    injection hx' with hx'
                    exact .inl ⟨rfl, hx'.symm⟩
                  · rw [upd_ne _ _ e1] at hx'
                    by_cases e2 : x = b
                    · subst e2; rw [upd_same] at hx'; cases hx'
                    · rw [upd_ne _ _ e2] at hx'
                      exact .inr ⟨e1, e2, hx'⟩
                have hset : ∀ x y, x ≠ b → G.get x = some y → (G.set b (some ⟨(len + m) * i0.size, appF i0.size len blk.f g⟩)).get x = some y := fun x y hne hx => by
                  show upd G.get b _ x = _
                  rw [upd_ne _ _ hne]; exact hx
                have hsetb : (G.set b (some ⟨(len + m) * i0.size, appF i0.size len blk.f g⟩)).get b = some ⟨(len + m) * i0.size, appF i0.size len blk.f g⟩ := by
                  show upd G.get b _ b = _
                  rw [upd_same]
                have hkn : L'.k G.next = L.k b := upd_same _ _ _
                have hSn : L'.S G.next = L.S b := upd_same _ _ _
                have hMn : L'.M G.next = false := if_pos rfl
                refine ⟨_, _, L', _, _, hrun, hKK, ?_, ?_, ?_⟩
                · refine ⟨hleL, r2.size, r2.os, r2.tape, r2.output, r2.keep, fun x hx hn => ?_, fun x hx hn => ?_, fun i hi hn => absurd hi hn, Nat.le_succ _, fun x hx hn => ?_, fun x hx h0 => ?_⟩
                  · rcases hx with hx | hx
                    · exact absurd hx hn
                    · omega
                  · rcases hx with hx | hx
                    · exact absurd hx hn
                    · subst hx
                      exact .inr ⟨b, hD.1, by rw [hg]; simp, hkn.symm⟩
                  · show upd (upd G.get b none) G.next _ x = _
                    rw [upd_ne _ _ (by omega), upd_ne _ _ (show x ≠ b from fun e => hn (by rw [e]; exact hD.1))]
                  · show upd (upd G.get b none) G.next _ x = _
                    rw [upd_ne _ _ (by omega)]
                    by_cases e : x = b
                    · subst e; rw [upd_same]
                    · rw [upd_ne _ _ e]; exact h0
                · refine ⟨r1.base, fun x hx => ?_, r1.ilt, fun x hx => ?_, fun x y hx hy => ?_, fun x x' y y' hx hx' hy hy' hk => ?_, fun gg => hm2 (r1.glob gg)⟩
                  · rcases hx with hx | hx
                    · have := hr.idlt x hx; show x < G.next + 1; omega
                    · show x < G.next + 1; omega
                  · have hx' : G.next + 1 ≤ x := hx
                    show upd (upd G.get b none) G.next _ x = none
                    rw [upd_ne _ _ (by omega), upd_ne _ _ (by omega)]
                    exact hr.wf x (by omega)
                  · rcases hlive x y hy with ⟨rfl, rfl⟩ | ⟨n1, n2, hy⟩
                    · rw [hkn, hSn, hMn]
                      obtain ⟨a1, a2, o', a4, a5⟩ := r1.live b _ hD.1 hsetb
                      rw [hD.2] at a5
                      exact ⟨a1, a2, o', a4, a5.mono hleL fun _ _ => rfl⟩
                    · have hxD : L.D x := hx.resolve_right n1
                      have ek : L'.k x = L.k x := upd_ne _ _ n1
                      have eS : L'.S x = L.S x := upd_ne _ _ n1
                      have eM : L'.M x = L.M x := if_neg n1
                      rw [ek, eS, eM]
                      obtain ⟨a1, a2, o', a4, a5⟩ := r1.live x y hxD (hset x y n2 hy)
                      exact ⟨a1, a2, o', a4, a5.mono hleL fun _ _ => rfl⟩
                  · have hkk : upd L.k G.next (L.k b) x = upd L.k G.next (L.k b) x' := hk
                    rcases hlive x y hy with ⟨rfl, rfl⟩ | ⟨n1, n2, hy1⟩ <;> rcases hlive x' y' hy' with ⟨rfl, rfl⟩ | ⟨n1', n2', hy1'⟩
                    · rfl
                    · rw [upd_same, upd_ne _ _ n1'] at hkk
                      exact absurd (hr.inj b x' _ _ hD.1 (hx'.resolve_right n1') hg hy1' hkk).symm n2'
                    · rw [upd_same, upd_ne _ _ n1] at hkk
                      exact absurd (hr.inj x b _ _ (hx.resolve_right n1) hD.1 hy1 hg hkk) n2
                    · rw [upd_ne _ _ n1, upd_ne _ _ n1'] at hkk
                      exact hr.inj x x' _ _ (hx.resolve_right n1) (hx'.resolve_right n1') hy1 hy1' hkk
                · have e1 : (⟨L.k b, 0, none⟩ : Addr) = ⟨L'.k G.next, 0, none⟩ := by rw [hkn]
                  rw [e1]
                  exact .sl G.next 0 _ false _ cap ⟨.inr rfl, hMn⟩ hroom (fun h => by cases h) (by rw [hSn]; exact hS) hmx
              · have := grow (G.set b none) (some ⟨L.k b, 0, none⟩) len cap _ (fun i => blk.f (0 + i)) hkill rfl (fun x hx hn => hx (by
                    show upd G.get b none x = none
                    by_cases e : x = b
                    · subst e; rw [upd_same]
                    · rw [upd_ne _ _ e]; exact hn)) (fun x hx => upd_ne _ _ fun e => hx (e ▸ hD.1)) (by simp) (.inr ⟨_, rfl, hat'⟩) hmem (fun i u hi => (hol i u hi).2.2.2) hm (by omega) f1 f2 (by simp only [Nat.zero_add]; exact hKK)
                exact this
    · exact h.elim
  · exact h.elim

end Go.Fw
