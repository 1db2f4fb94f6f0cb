/- Maps: keys, and the operations on maps and on iterators over them. -/
import Derived.Test.YtjcplclbdanpgaaFwI
import Derived.MapKept
import Derived.KernelRfl
set_option linter.unusedVariables false
set_option linter.unusedSimpArgs false
namespace Go.Fw
open Go

/-- Are two keys one? (none: not keys of one kind that is covered.) -/
def keyB : AV → AV → Option Bool
  | .int k a, .int k' b => if k = k' then some (decide (a = b)) else none
  | .str a, .str b => some (decide (a = b))
  | .bool a, .bool b => some (a == b)
  | .agg as, .agg bs => match intL as, intL bs with
    | some x, some y => if x.length = y.length then some (decide (x = y)) else none
    | _, _ => none
  | _, _ => none
def findK (k : AV) : List AV → Option (Option Nat)
  | [] => some none
  | c :: cs => match keyB k c with
    | some true => some (some 0)
    | some false => (findK k cs).map (·.map (· + 1))
    | none => none
/-- A type of keys that are rows of numbers. -/
def AggKey (C : Cx) (t : TypeId) (n : Nat) : Prop := (∃ d, C.P.underlying t = some d ∧ ∀ u v, Instr.sameNow d (.agg u) v = none) ∧
  (∀ (xs ys : List Int) w, xs.length = n → ys.length = n → (Op.equalIn 10000 t (aggI xs) (aggI ys)).run C.P w = .ok (decide (xs = ys)) w) ∧
  ∀ e (xs : List Int) w, xs.length = n → (Instr.checkKey e 10000 t (aggI xs)).run C.P w = .ok () w
def KeyT (C : Cx) (t : TypeId) : AV → Prop
  | .int k _ => C.ik t = some k
  | .str _ => C.isStr t = true
  | .bool _ => C.isBool t = true
  | .agg cs => (intL cs).isSome = true ∧ AggKey C t cs.length
  | _ => False

theorem keyB_eq {k c : AV} (h : keyB k c = some true) : k = c := by
  unfold keyB at h
  split at h
  · split at h
    · rename_i e; subst e; simp at h; subst h; rfl
    · cases h
  · simp at h; subst h; rfl
  · simp at h; subst h; rfl
  · split at h
    · rename_i x y hx hy
      split at h
      · simp at h; subst h; rw [intL_spec hx, intL_spec hy]
      · cases h
    · cases h
  · cases h

theorem same_ints : ∀ (m : Nat) (xs : List Int), ((xs.map fun n => Value.int .i64 n).zip (xs.map fun n => Value.int .i64 n)).all (fun (x, y) => Instr.sameBits (m + 1) x y) = true
  | _, [] => rfl
  | m, x :: xs => by
    simp only [List.map_cons, List.zip_cons_cons, List.all_cons, Bool.and_eq_true]
    exact ⟨by simp [Instr.sameBits], same_ints m xs⟩
theorem same_self {C : Cx} {L : Lay} {w : World} {t : TypeId} {k : AV} {v : Value} (h : KeyT C t k) (hv : VR L w k v) : Instr.sameBits 10000 v v = true := by
  cases k <;> simp only [KeyT] at h <;> try exact h.elim
  case int => rw [hv.inv_int]; simp [Instr.sameBits]
  case str => rw [hv.inv_str]; simp only [Instr.sameBits]; exact (MapKept.bytes_beq _ _).2 rfl
  case bool => rw [hv.inv_bool]; simp [Instr.sameBits]
  case agg as =>
    obtain ⟨x, hx⟩ := Option.isSome_iff_exists.1 h.1
    rw [(agg_ints hx hv).1]
    show ((_ == _) && _) = true
    rw [Bool.and_eq_true]
    exact ⟨by simp, same_ints 9998 x⟩

def isAggV : AV → Bool
  | .agg _ => true
  | _ => false
/-- A key and another one of the same map, of a kind that is compared at once. -/
theorem sameNow_spec {C : Cx} {L : Lay} {w : World} {t : TypeId} {d : TypeDesc} {k c : AV} {vk vc : Value} {r : Bool} (hd : C.P.underlying t = some d) (hk : KeyT C t k) (hna : isAggV k = false) (hv : VR L w k vk) (hc : VR L w c vc) (h : keyB k c = some r) : Instr.sameNow d vk vc = some r := by
  unfold keyB at h
  split at h
  · split at h
    · rename_i e
      subst e
      rw [hv.inv_int, hc.inv_int]
      have := Cx.ik_spec hk
      rw [this] at hd; injection hd with hd; subst hd
      simp only [Instr.sameNow, if_true]
      injection h with h
      rw [← h]
      rename_i k a b
      by_cases e : a = b <;> simp [e]
    · cases h
  · rename_i a b
    rw [hv.inv_str, hc.inv_str]
    have := isStr_spec hk
    rw [this] at hd; injection hd with hd; subst hd
    simp only [Instr.sameNow]
    injection h with h
    rw [← h]
    by_cases e : a = b
    · subst e; simp only [decide_true, Option.some.injEq]; exact (MapKept.bytes_beq _ _).2 rfl
    · simp only [e, decide_false, Option.some.injEq]
      cases hq : (a == b) with
      | false => rfl
      | true => exact (e ((MapKept.bytes_beq _ _).1 hq)).elim
  · rw [hv.inv_bool, hc.inv_bool]
    have := isBool_spec hk
    rw [this] at hd; injection hd with hd; subst hd
    simp only [Instr.sameNow]
    exact h
  · cases hna
  · cases h

abbrev atV (es : List MapEntry) (r : Option Nat) (i : Nat) : Option (Nat × Value) := r.map fun j => (i + j, ((es[j]?).map (·.val)).getD Go.undef)
theorem findNow_run {C : Cx} {L : Lay} {w : World} {t : TypeId} {d : TypeDesc} {k : AV} {vk : Value} (hd : C.P.underlying t = some d) (hk : KeyT C t k) (hna : isAggV k = false) (hv : VR L w k vk) : ∀ (es : List MapEntry) (ks : List AV) (i : Nat) (r : Option Nat), VRs L w ks (es.map (·.key)) → findK k ks = some r →
    Instr.findNow d vk es i = some (atV es r i)
  | [], ks, i, r, hvs, hf => by
    have := hvs.1
    simp at this
    subst this
    simp only [findK, Option.some.injEq] at hf
    subst hf
    rfl
  | e :: es, ks, i, r, hvs, hf => by
    match ks, hvs with
    | [], hvs => have := hvs.1; simp at this
    | c :: ks, hvs =>
      have hc : VR L w c e.key := hvs.2 0 c e.key rfl rfl
      have hvs' : VRs L w ks (es.map (·.key)) := ⟨by have := hvs.1; simpa using this, fun j a b h1 h2 => hvs.2 (j + 1) a b (by simpa using h1) (by simpa using h2)⟩
      simp only [findK] at hf
      cases hb : keyB k c with
      | none => rw [hb] at hf; cases hf
      | some b =>
        rw [hb] at hf
        have h1 := sameNow_spec hd hk hna hv hc hb
        simp only [Instr.findNow, h1]
        cases b with
        | true =>
          simp only [Option.some.injEq] at hf
          subst hf
          simp [atV]
        | false =>
          simp only at hf
          cases hq : findK k ks with
          | none => rw [hq] at hf; cases hf
          | some r' =>
            rw [hq] at hf
            simp only [Option.map_some, Option.some.injEq] at hf
            subst hf
            simp only [findNow_run hd hk hna hv es ks (i + 1) r' hvs' hq]
            cases r' <;> simp [atV]; omega
theorem findAsk_run {C : Cx} {L : Lay} {w : World} {t : TypeId} {cs : List AV} {ns : List Int} (hn : intL cs = some ns) (hk : AggKey C t ns.length) : ∀ (es : List MapEntry) (ks : List AV) (i : Nat) (r : Option Nat), VRs L w ks (es.map (·.key)) → findK (.agg cs) ks = some r →
    (Instr.findAsking t (aggI ns) es i).run C.P w = .ok (atV es r i) w
  | [], ks, i, r, hvs, hf => by
    have := hvs.1
    simp at this
    subst this
    simp only [findK, Option.some.injEq] at hf
    subst hf
    rfl
  | e :: es, ks, i, r, hvs, hf => by
    match ks, hvs with
    | [], hvs => have := hvs.1; simp at this
    | c :: ks, hvs =>
      have hc : VR L w c e.key := hvs.2 0 c e.key rfl rfl
      have hvs' : VRs L w ks (es.map (·.key)) := ⟨by have := hvs.1; simpa using this, fun j a b h1 h2 => hvs.2 (j + 1) a b (by simpa using h1) (by simpa using h2)⟩
      simp only [findK] at hf
      cases hb : keyB (.agg cs) c with
      | none => rw [hb] at hf; cases hf
      | some b =>
        rw [hb] at hf
        have heq : (Op.equal t (aggI ns) e.key).run C.P w = .ok b w := by
          cases c <;> simp only [keyB] at hb <;> try (exact absurd hb (by simp))
          case agg bs =>
            simp only [hn] at hb
            split at hb
            · rename_i x y hx hy
              injection hx with hx; subst hx
              split at hb
              · rename_i hl
                injection hb with hb; subst hb
                rw [(agg_ints hy hc).1]
                exact hk.2.1 ns y w rfl hl.symm
              · cases hb
            · cases hb
        have hno : Instr.findAsking t (aggI ns) (e :: es) i = (do if ← Op.equal t (aggI ns) e.key then Pure.pure (some (i, e.val)) else Instr.findAsking t (aggI ns) es (i + 1)) := rfl
        rw [hno]
        simp only [Sem.run_bind, heq, Result.andThen_ok]
        cases b with
        | true =>
          simp only [Option.some.injEq] at hf
          subst hf
          simp [atV]
        | false =>
          simp only at hf
          cases hq : findK (.agg cs) ks with
          | none => rw [hq] at hf; cases hf
          | some r' =>
            rw [hq] at hf
            simp only [Option.map_some, Option.some.injEq] at hf
            subst hf
            simp only [Bool.false_eq_true, if_false, findAsk_run hn hk es ks (i + 1) r' hvs' hq]
            cases r' <;> simp [atV]; omega

theorem findKey_run {C : Cx} {L : Lay} {w : World} {t : TypeId} {k : AV} {vk : Value} {es : List MapEntry} {ks : List AV} {r : Option Nat} (hk : KeyT C t k) (hv : VR L w k vk) (hvs : VRs L w ks (es.map (·.key))) (hf : findK k ks = some r) :
    (Instr.findKey t vk es).run C.P w = .ok (atV es r 0) w := by
  by_cases hna : isAggV k = false
  · obtain ⟨d, hd⟩ : ∃ d, C.P.underlying t = some d := by
      cases k <;> simp only [KeyT] at hk <;> try exact hk.elim
      case int => exact ⟨_, Cx.ik_spec hk⟩
      case str => exact ⟨_, isStr_spec hk⟩
      case bool => exact ⟨_, isBool_spec hk⟩
      case agg => cases hna
    have h := findNow_run hd hk hna hv es ks 0 r hvs hf
    simp only [Instr.findKey, Sem.run_bind, run_underlying hd, Result.andThen_ok, h, Sem.run_pure]
  · cases k <;> simp only [isAggV, not_true] at hna <;> try (exact absurd rfl hna)
    case agg cs =>
      obtain ⟨hn, ha⟩ := hk
      obtain ⟨ns, hn⟩ := Option.isSome_iff_exists.1 hn
      obtain ⟨e1, e2⟩ := agg_ints hn hv
      rw [← e2] at ha
      obtain ⟨d, hd, hno⟩ := ha.1
      have h := findAsk_run hn ha es ks 0 r hvs hf
      subst e1
      simp only [Instr.findKey, Sem.run_bind, run_underlying hd, Result.andThen_ok]
      cases es with
      | nil =>
        have := hvs.1
        simp at this
        subst this
        simp only [findK, Option.some.injEq] at hf
        subst hf
        rfl
      | cons e es =>
        have : Instr.findNow d (aggI ns) (e :: es) 0 = none := by simp only [Instr.findNow, aggI, hno]
        rw [this]
        exact h
theorem checkKey_run {C : Cx} {L : Lay} {w : World} {t : TypeId} {k : AV} {vk : Value} (hk : KeyT C t k) (hv : VR L w k vk) (e : Bool) : (Instr.checkKey e 10000 t vk).run C.P w = .ok () w := by
  cases k <;> simp only [KeyT] at hk <;> try exact hk.elim
  case int => rw [hv.inv_int]; exact MapKept.run_checkKey (Cx.ik_spec hk) (by rfl) e 9999
  case str => rw [hv.inv_str]; exact MapKept.run_checkKey (isStr_spec hk) (by trivial) e 9999
  case bool => rw [hv.inv_bool]; exact MapKept.run_checkKey (isBool_spec hk) (by trivial) e 9999
  case agg cs =>
    obtain ⟨hn, ha⟩ := hk
    obtain ⟨ns, hn⟩ := Option.isSome_iff_exists.1 hn
    obtain ⟨e1, e2⟩ := agg_ints hn hv
    rw [e1]
    exact ha.2.2 e ns w e2

def Cx.mt (C : Cx) (t : TypeId) : Option (TypeId × TypeId) := match C.P.underlying t with
  | some (.map k e) => some (k, e)
  | _ => none
theorem Cx.mt_spec {C : Cx} {t k e : TypeId} (h : C.mt t = some (k, e)) : C.P.underlying t = some (.map k e) := by
  unfold Cx.mt at h
  split at h
  · rename_i h1; injection h with h; injection h with h2 h3; subst h2; subst h3; exact h1
  · cases h
/-- A type's zero. -/
def Cx.zv (C : Cx) (t : TypeId) : Option AV := match C.P.info? t with
  | some i => i.zero.map cst
  | none => none
/-- An entry is put, or turned. -/
def mput (clock : Nat) (born : List Nat) (ks vs : List AV) (k v : AV) : Option Nat → AV
  | some i => .mapc clock born ks (vs.set i v)
  | none => .mapc (clock + 1) (born ++ [clock]) (ks ++ [k]) (vs ++ [v])
def mdel (clock : Nat) (born : List Nat) (ks vs : List AV) : Option Nat → AV
  | some i => .mapc clock (born.eraseIdx i) (ks.eraseIdx i) (vs.eraseIdx i)
  | none => .mapc clock born ks vs
/-- The map that a value is. -/
def mapAt (G : Heap) (x : AV) (K : Nat → Nat → List Nat → List AV → List AV → Prop) : Prop := match x with
  | .mp b => (match G.get b with
    | some blk => (match blk.f 0 with
      | .mapc clock born ks vs => K b clock born ks vs
      | _ => False)
    | none => False)
  | _ => False
def updK (C : Cx) (G : Heap) (t : TypeId) (m k x : AV) (K : Heap → Prop) : Prop := match C.mt t with
  | some q => mapAt G m fun b clock born ks vs => (match findK k ks with
    | some r => KeyT C q.1 k ∧ K (G.set b (some ⟨0, fun _ => mput clock born ks vs k x r⟩))
    | none => False)
  | none => False
def delK (C : Cx) (G : Heap) (t : TypeId) (m k : AV) (K : Heap → Prop) : Prop := match C.mt t with
  | some q => mapAt G m fun b clock born ks vs => (match findK k ks with
    | some r => KeyT C q.1 k ∧ K (G.set b (some ⟨0, fun _ => mdel clock born ks vs r⟩))
    | none => False)
  | none => False
def lookK (C : Cx) (G : Heap) (t : TypeId) (m k : AV) (ok : Bool) (K : AV → Prop) : Prop := match C.mt t with
  | some q => mapAt G m fun b clock born ks vs => (match findK k ks with
    | some (some i) => KeyT C q.1 k ∧ K (if ok then .tup [vs.getD i .undef, .bool true] else vs.getD i .undef)
    | some none => (match C.zv q.2 with
      | some z => KeyT C q.1 k ∧ K (if ok then .tup [z, .bool false] else z)
      | none => False)
    | none => False)
  | none => False
def nextK (G : Heap) (it : AV) (K : AV → Heap → Prop) : Prop := match it with
  | .itp bi => (match G.get bi with
    | some blk => (match blk.f 0 with
      | .iterc b since seen stepped => mapAt G (.mp b) fun _ clock born ks vs => (since = clock ∧ stepped = clock ∧ ∀ x ∈ born, x < clock) ∧ ((∀ x ∈ born, x ∈ seen) → K (.tup [.bool false]) G) ∧
          ∀ i s, born[i]? = some s → ¬ s ∈ seen → K (.tup [.bool true, ks.getD i .undef, vs.getD i .undef]) (G.set bi (some ⟨0, fun _ => .iterc b since (seen ++ [s]) clock⟩))
      | _ => False)
    | none => False)
  | _ => False
def entryK (G : Heap) (it : AV) (K : AV → Prop) : Prop := match it with
  | .itp bi => (match G.get bi with
    | some blk => (match blk.f 0 with
      | .iterc b since seen stepped => mapAt G (.mp b) fun _ clock born ks vs => stepped = clock ∧ ∃ s i, seen.getLast? = some s ∧ born[i]? = some s ∧ (∀ j, j < i → born[j]? ≠ some s) ∧ K (.tup [ks.getD i .undef, vs.getD i .undef])
      | _ => False)
    | none => False)
  | _ => False

section
variable {C : Cx} {B0 : Nat} {L : Lay} {G : Heap} {w : World}
theorem VR.inv_mp {b : Nat} {v : Value} (h : VR L w (.mp b) v) : v = .map (some (L.k b)) ∧ L.DM b := by
  cases h with
  | mp b h => exact ⟨rfl, h⟩
theorem VR.inv_itp {b : Nat} {v : Value} (h : VR L w (.itp b) v) : v = .pointer (some ⟨L.k b, 0, none⟩) ∧ L.DM b := by
  cases h with
  | itp b h => exact ⟨rfl, h⟩
/-- What the world holds where a map is. -/
structure MapIn (L : Lay) (G : Heap) (w : World) (b clock : Nat) (born : List Nat) (ks vs : List AV) (es : Array MapEntry) : Prop where
  DM : L.DM b
  live : ∃ blk, G.get b = some blk
  obj : w.heap[L.k b]? = some (.map es clock)
  born : es.toList.map (·.born) = born
  ks : VRs L w ks (es.toList.map (·.key))
  vs : VRs L w vs (es.toList.map (·.val))
theorem mapAt_spec (hr : Rel C.gl B0 L G w) {x : AV} {v : Value} {K : Nat → Nat → List Nat → List AV → List AV → Prop} (hx : VR L w x v) (h : mapAt G x K) : ∃ b clock born ks vs es, v = .map (some (L.k b)) ∧ MapIn L G w b clock born ks vs es ∧ K b clock born ks vs := by
  unfold mapAt at h
  split at h
  · rename_i b
    split at h
    · rename_i blk hg
      split at h
      · rename_i clock born ks vs hf
        obtain ⟨rfl, hD⟩ := hx.inv_mp
        obtain ⟨_, _, o, ho, h0, ⟨clock', born', ks', vs', es, h1, h2, h3, h4, h5⟩ | ⟨b', since, seen, stepped, h1, _⟩⟩ := hr.objM hD hg
        · rw [hf] at h1
          injection h1 with e1 e2 e3 e4
          subst e1; subst e2; subst e3; subst e4
          rw [h2] at ho
          exact ⟨b, clock, born, ks, vs, es, rfl, ⟨hD, ⟨_, hg⟩, ho, h3, h4, h5⟩, h⟩
        · rw [hf] at h1; cases h1
      · exact h.elim
    · exact h.elim
  · exact h.elim

theorem setIf_other (w : World) (r : Nat) (o : Obj) : ∀ i, i ≠ r → ({ w with heap := w.heap.setIfInBounds r o } : World).heap[i]? = w.heap[i]? := fun i hi => by
  simp [Array.getElem?_setIfInBounds_ne (Ne.symm hi)]
theorem setIf_same (w : World) {r : Nat} {o' : Obj} (o : Obj) (h : w.heap[r]? = some o') : ({ w with heap := w.heap.setIfInBounds r o } : World).heap[r]? = some o := by
  have := (Array.getElem?_eq_some_iff.1 h).1
  simp [this]
theorem VRs.set {cs : List AV} {vs : List Value} (h : VRs L w cs vs) (i : Nat) {c : AV} {v : Value} (hc : VR L w c v) : VRs L w (cs.set i c) (vs.set i v) := by
  refine ⟨by simp [h.1], fun j a b h1 h2 => ?_⟩
  rw [List.getElem?_set] at h1 h2
  by_cases e : i = j
  · subst e
    rw [if_pos rfl] at h1 h2
    split at h1
    · split at h2
      · injection h1 with h1; injection h2 with h2; subst h1; subst h2; exact hc
      · cases h2
    · cases h1
  · rw [if_neg e] at h1 h2
    exact h.2 j a b h1 h2
theorem VRs.eraseIdx {cs : List AV} {vs : List Value} (h : VRs L w cs vs) (i : Nat) : VRs L w (cs.eraseIdx i) (vs.eraseIdx i) := by
  refine ⟨by simp [List.length_eraseIdx, h.1], fun j a b h1 h2 => ?_⟩
  rw [List.getElem?_eraseIdx] at h1 h2
  split at h1
  · rename_i hj; rw [if_pos hj] at h2; exact h.2 j a b h1 h2
  · rename_i hj; rw [if_neg hj] at h2; exact h.2 (j + 1) a b h1 h2
theorem findK_lt {k : AV} : ∀ {ks : List AV} {i : Nat}, findK k ks = some (some i) → i < ks.length
  | [], i, h => by simp only [findK] at h; cases h
  | c :: cs, i, h => by
    simp only [findK] at h
    split at h
    · injection h with h; injection h with h; subst h; simp
    · cases hq : findK k cs with
      | none => rw [hq] at h; cases h
      | some r =>
        rw [hq] at h
        cases r with
        | none => simp at h
        | some j =>
          simp at h
          subst h
          have := findK_lt hq
          simp; omega
    · cases h
theorem findK_at {k : AV} : ∀ {ks : List AV} {i : Nat}, findK k ks = some (some i) → ks[i]? = some k
  | [], i, h => by simp only [findK] at h; cases h
  | c :: cs, i, h => by
    simp only [findK] at h
    split at h
    · rename_i hb
      injection h with h; injection h with h; subst h
      rw [keyB_eq hb]; rfl
    · cases hq : findK k cs with
      | none => rw [hq] at h; cases h
      | some r =>
        rw [hq] at h
        cases r with
        | none => simp at h
        | some j =>
          simp at h
          subst h
          simpa using findK_at hq
    · cases h
theorem MapIn.set (hr : Rel C.gl B0 L G w) {b clock clock' : Nat} {born born' : List Nat} {ks vs ks' vs' : List AV} {es es' : Array MapEntry} (h : MapIn L G w b clock born ks vs es) (hb : es'.toList.map (·.born) = born') (hk : VRs L w ks' (es'.toList.map (·.key))) (hv : VRs L w vs' (es'.toList.map (·.val))) {f : Nat → AV} (hf : f 0 = .mapc clock' born' ks' vs') :
    Rel C.gl B0 L (G.set b (some ⟨0, f⟩)) { w with heap := w.heap.setIfInBounds (L.k b) (.map es' clock') } ∧ Fr L G w L (G.set b (some ⟨0, f⟩)) { w with heap := w.heap.setIfInBounds (L.k b) (.map es' clock') } := by
  obtain ⟨blk, hg⟩ := h.live
  refine hr.setObj h.DM.1 hg (o' := .map es' clock') ?_ (setIf_same w _ h.obj) (setIf_other w _ _) (by simp) rfl rfl rfl
  rw [h.DM.2]
  exact ⟨rfl, .inl ⟨clock', born', ks', vs', es', hf, rfl, hb, hk, hv⟩⟩

theorem upd_sound {t : TypeId} {m k x : AV} {vm vk vx : Value} {K : Heap → Prop} (hr : Rel C.gl B0 L G w) (hm : VR L w m vm) (hk : VR L w k vk) (hx : VR L w x vx) (h : updK C G t m k x K) :
    ∃ w' G', (Instr.mapUpdate t vm vk vx).run C.P w = .ok () w' ∧ K G' ∧ Rel C.gl B0 L G' w' ∧ Fr L G w L G' w' := by
  unfold updK at h
  split at h
  · rename_i q hq
    obtain ⟨kt, et⟩ := q
    have hu := Cx.mt_spec hq
    obtain ⟨b, clock, born, ks, vs, es, rfl, hM, h⟩ := mapAt_spec hr hm h
    split at h
    · rename_i r hf
      obtain ⟨hkt, hK⟩ := h
      simp only at hkt
      have hfind := findKey_run hkt hk (es := es.toList) hM.ks hf
      have hchk := checkKey_run hkt hk false
      have hget := MapKept.run_getObj_map (P := C.P) hM.obj
      cases r with
      | none =>
        have hrun : (Instr.mapUpdate t (.map (some (L.k b))) vk vx).run C.P w = .ok () { w with heap := w.heap.setIfInBounds (L.k b) (.map (es.push { key := vk, val := vx, born := clock }) (clock + 1)) } := by
          simp only [Instr.mapUpdate, Sem.run_bind, run_underlying hu, Result.andThen_ok, hget, hchk, hfind, atV, Option.map_none, MapKept.run_setObj_map _ hM.obj]
        obtain ⟨r1, r2⟩ := hM.set hr (es' := es.push { key := vk, val := vx, born := clock }) (clock' := clock + 1) (born' := born ++ [clock]) (ks' := ks ++ [k]) (vs' := vs ++ [x]) (by simp [hM.born]) (by
          simp only [Array.toList_push, List.map_append, List.map_cons, List.map_nil]
          exact hM.ks.append (.cons hk (.nil L w))) (by
          simp only [Array.toList_push, List.map_append, List.map_cons, List.map_nil]
          exact hM.vs.append (.cons hx (.nil L w))) (f := fun _ => mput clock born ks vs k x none) rfl
        exact ⟨_, _, hrun, hK, r1, r2⟩
      | some i =>
        have hlt := findK_lt hf
        have hlen : ks.length = es.size := by have := hM.ks.1; simpa using this
        have hi : i < es.size := by omega
        have hkey : es[i].key = vk ∨ True := .inr trivial
        have hold : VR L w k es[i].key := by
          have h1 := hM.ks.2 i k es[i].key (findK_at hf) (by simp [hi])
          exact h1
        have hsame : Instr.sameBits 10000 es[i].key vk = true := by
          have e : es[i].key = vk := by
            cases k <;> simp only [KeyT] at hkt <;> try exact hkt.elim
            case int => rw [hold.inv_int, hk.inv_int]
            case str => rw [hold.inv_str, hk.inv_str]
            case bool => rw [hold.inv_bool, hk.inv_bool]
            case agg cs =>
              obtain ⟨ns, hn⟩ := Option.isSome_iff_exists.1 hkt.1
              rw [(agg_ints hn hold).1, (agg_ints hn hk).1]
          rw [e]; exact same_self hkt hk
        have hrun : (Instr.mapUpdate t (.map (some (L.k b))) vk vx).run C.P w = .ok () { w with heap := w.heap.setIfInBounds (L.k b) (.map (es.modify i fun e => { e with key := vk, val := vx }) clock) } := by
          simp only [Instr.mapUpdate, Sem.run_bind, run_underlying hu, Result.andThen_ok, hget, hchk, hfind, atV, Option.map_some, Nat.zero_add, Instr.keyThatStays, Array.getElem?_eq_getElem hi, Option.getD_some, hsame, if_true, Sem.run_pure, MapKept.run_setObj_map _ hM.obj]
        have hmap : ∀ {α : Type} (g : MapEntry → α), ((es.modify i fun e => { e with key := vk, val := vx }).toList.map g) = (es.toList.map g).set i (g { es[i] with key := vk, val := vx }) := by
          intro α g
          apply List.ext_getElem?
          intro j
          rw [List.getElem?_map, Array.getElem?_toList, Array.getElem?_modify, List.getElem?_set]
          by_cases e : i = j
          · subst e
            simp [hi]
          · rw [if_neg e, if_neg e, List.getElem?_map, Array.getElem?_toList]
        obtain ⟨r1, r2⟩ := hM.set hr (es' := es.modify i fun e => { e with key := vk, val := vx }) (clock' := clock) (born' := born) (ks' := ks) (vs' := vs.set i x) (by
          rw [hmap, ← hM.born]
          apply List.ext_getElem?
          intro j
          rw [List.getElem?_set]
          split
          · rename_i e; subst e; simp [hi]
          · rfl) (by
          rw [hmap]
          have := hM.ks.set i (c := k) hk
          rw [show ks.set i k = ks from by
            apply List.ext_getElem?
            intro j
            rw [List.getElem?_set]
            split
            · rename_i e; subst e; rw [findK_at hf]
            · rfl] at this
          exact this) (by
          rw [hmap]
          exact hM.vs.set i hx) (f := fun _ => mput clock born ks vs k x (some i)) rfl
        exact ⟨_, _, hrun, hK, r1, r2⟩
    · exact h.elim
  · exact h.elim

theorem del_sound {t t2 ty : TypeId} {m k : AV} {vm vk : Value} {K : Heap → Prop} (hr : Rel C.gl B0 L G w) (hm : VR L w m vm) (hk : VR L w k vk) (h : delK C G t m k K) :
    ∃ w' G', (Builtin.delete_ #[t, t2] ty #[vm, vk]).run C.P w = .ok (.tuple #[]) w' ∧ K G' ∧ Rel C.gl B0 L G' w' ∧ Fr L G w L G' w' := by
  unfold delK at h
  split at h
  · rename_i q hq
    obtain ⟨kt, et⟩ := q
    have hu := Cx.mt_spec hq
    obtain ⟨b, clock, born, ks, vs, es, rfl, hM, h⟩ := mapAt_spec hr hm h
    split at h
    · rename_i r hf
      obtain ⟨hkt, hK⟩ := h
      simp only at hkt
      have hfind := findKey_run hkt hk (es := es.toList) hM.ks hf
      have hchk := fun e => checkKey_run hkt hk e
      have hget := MapKept.run_getObj_map (P := C.P) hM.obj
      cases r with
      | none =>
        have hrun : (Builtin.delete_ #[t, t2] ty #[.map (some (L.k b)), vk]).run C.P w = .ok (.tuple #[]) { w with heap := w.heap.setIfInBounds (L.k b) (.map es clock) } := by
          simp [Builtin.delete_, run_underlying hu, hget, hchk, hfind, atV, MapKept.run_setObj_map _ hM.obj]
        obtain ⟨r1, r2⟩ := hM.set hr (es' := es) (clock' := clock) (born' := born) (ks' := ks) (vs' := vs) hM.born hM.ks hM.vs (f := fun _ => mdel clock born ks vs none) rfl
        exact ⟨_, _, hrun, hK, r1, r2⟩
      | some i =>
        have hlt := findK_lt hf
        have hlen : ks.length = es.size := by have := hM.ks.1; simpa using this
        have hi : i < es.size := by omega
        have hrun : (Builtin.delete_ #[t, t2] ty #[.map (some (L.k b)), vk]).run C.P w = .ok (.tuple #[]) { w with heap := w.heap.setIfInBounds (L.k b) (.map (es.eraseIdxIfInBounds i) clock) } := by
          simp [Builtin.delete_, run_underlying hu, hget, hchk, hfind, atV, MapKept.run_setObj_map _ hM.obj]
        have hmap : ∀ {α : Type} (g : MapEntry → α), (es.eraseIdxIfInBounds i).toList.map g = (es.toList.map g).eraseIdx i := by
          intro α g
          unfold Array.eraseIdxIfInBounds
          rw [dif_pos hi, Array.toList_eraseIdx]
          apply List.ext_getElem?
          intro j
          simp only [List.getElem?_map, List.getElem?_eraseIdx]
          split <;> rfl
        obtain ⟨r1, r2⟩ := hM.set hr (es' := es.eraseIdxIfInBounds i) (clock' := clock) (born' := born.eraseIdx i) (ks' := ks.eraseIdx i) (vs' := vs.eraseIdx i) (by rw [hmap, hM.born]) (by rw [hmap]; exact hM.ks.eraseIdx i) (by rw [hmap]; exact hM.vs.eraseIdx i) (f := fun _ => mdel clock born ks vs (some i)) rfl
        exact ⟨_, _, hrun, hK, r1, r2⟩
    · exact h.elim
  · exact h.elim

theorem getD_vr {cs : List AV} {vs : List Value} (h : VRs L w cs vs) {i : Nat} (hi : i < cs.length) : VR L w (cs.getD i .undef) ((vs[i]?).getD Go.undef) := by
  have h1 : cs[i]? = some cs[i] := List.getElem?_eq_getElem hi
  have hl : i < vs.length := by rw [← h.1]; exact hi
  have h2 : vs[i]? = some vs[i] := List.getElem?_eq_getElem hl
  rw [List.getD_eq_getElem?_getD, h1, h2]
  exact h.2 i _ _ h1 h2
theorem VR.tup2 {a b : AV} {u v : Value} (ha : VR L w a u) (hb : VR L w b v) : VR L w (.tup [a, b]) (.tuple #[u, v]) :=
  .tup _ _ rfl fun i c x h1 h2 => by
    match i, h1, h2 with
    | 0, h1, h2 => simp at h1 h2; subst h1; subst h2; exact ha
    | 1, h1, h2 => simp at h1 h2; subst h1; subst h2; exact hb
theorem VR.tup3 {a b d : AV} {u v x : Value} (ha : VR L w a u) (hb : VR L w b v) (hd : VR L w d x) : VR L w (.tup [a, b, d]) (.tuple #[u, v, x]) :=
  .tup _ _ rfl fun i c y h1 h2 => by
    match i, h1, h2 with
    | 0, h1, h2 => simp at h1 h2; subst h1; subst h2; exact ha
    | 1, h1, h2 => simp at h1 h2; subst h1; subst h2; exact hb
    | 2, h1, h2 => simp at h1 h2; subst h1; subst h2; exact hd
theorem zero_vr {t : TypeId} {r : AV} (hi : C.zv t = some r) : ∃ z, (zeroValue t).run C.P w = .ok z w ∧ VR L w r z := by
  unfold Cx.zv at hi
  split at hi
  · rename_i i h1
    cases h3 : i.zero with
    | none => rw [h3] at hi; cases hi
    | some z =>
      rw [h3] at hi
      simp only [Option.map_some, Option.some.injEq] at hi
      subst hi
      exact ⟨z, by simp [zeroValue, typeInfo, h1, h3], cst_vr L w z⟩
  · cases hi
theorem look_sound {t : TypeId} {m k : AV} {ok : Bool} {vm vk : Value} {K : AV → Prop} (hr : Rel C.gl B0 L G w) (hm : VR L w m vm) (hk : VR L w k vk) (h : lookK C G t m k ok K) :
    ∃ v r, (Instr.lookup t vm vk ok).run C.P w = .ok v w ∧ VR L w r v ∧ K r := by
  unfold lookK at h
  split at h
  · rename_i q hq
    obtain ⟨kt, et⟩ := q
    have hu := Cx.mt_spec hq
    obtain ⟨b, clock, born, ks, vs, es, rfl, hM, h⟩ := mapAt_spec hr hm h
    have hget := MapKept.run_getObj_map (P := C.P) hM.obj
    split at h
    · rename_i i hf
      obtain ⟨hkt, hK⟩ := h
      simp only at hkt
      have hfind := findKey_run hkt hk (es := es.toList) hM.ks hf
      have hchk := fun e => checkKey_run hkt hk e
      have hlt := findK_lt hf
      have hv : VR L w (vs.getD i .undef) (((es.toList.map (·.val))[i]?).getD Go.undef) := getD_vr hM.vs (by have h1 := hM.ks.1; have h2 := hM.vs.1; simp at h1 h2; omega)
      rw [List.getElem?_map] at hv
      cases ok with
      | true => exact ⟨.tuple #[((es.toList[i]?).map (·.val)).getD Go.undef, .bool true], _, by simp [Instr.lookup, run_underlying hu, hget, hchk, hfind, atV], .tup2 hv (.bool true), hK⟩
      | false => exact ⟨((es.toList[i]?).map (·.val)).getD Go.undef, _, by simp [Instr.lookup, run_underlying hu, hget, hchk, hfind, atV], hv, hK⟩
    · rename_i hf
      split at h
      · rename_i r hti
        obtain ⟨hkt, hK⟩ := h
        simp only at hkt
        have hfind := findKey_run hkt hk (es := es.toList) hM.ks hf
        have hchk := fun e => checkKey_run hkt hk e
        obtain ⟨z, h1, h2⟩ := zero_vr (L := L) (w := w) hti
        cases ok with
        | true => exact ⟨.tuple #[z, .bool false], _, by simp [Instr.lookup, run_underlying hu, hget, hchk, hfind, atV, h1], .tup2 h2 (.bool false), hK⟩
        | false => exact ⟨z, _, by simp [Instr.lookup, run_underlying hu, hget, hchk, hfind, atV, h1], h2, hK⟩
      · exact h.elim
    · exact h.elim
  · exact h.elim

theorem range_sound {t : TypeId} {m : AV} {vm : Value} {K : AV → Heap → Prop} (hr : Rel C.gl B0 L G w) (hm : VR L w m vm) (ht : (C.mt t).isSome = true) (h : mapAt G m fun b clock born ks vs => K (.itp G.next) (G.push ⟨0, fun _ => .iterc b clock [] clock⟩)) :
    ∃ v w' L' r G', (Instr.range t vm).run C.P w = .ok v w' ∧ K r G' ∧ Fr L G w L' G' w' ∧ Rel C.gl B0 L' G' w' ∧ VR L' w' r v := by
  obtain ⟨⟨kt, et⟩, hq⟩ := Option.isSome_iff_exists.1 ht
  have hu := Cx.mt_spec hq
  obtain ⟨b, clock, born, ks, vs, es, rfl, hM, h⟩ := mapAt_spec hr hm h
  have hget := MapKept.run_getObj_map (P := C.P) hM.obj
  obtain ⟨r1, r2⟩ := hr.pushObj (m := true) (n := 0) (blk := ⟨0, fun _ => .iterc b clock [] clock⟩) (o := .mapIter (some (L.k b)) clock #[] clock) ⟨rfl, .inr ⟨b, clock, #[], clock, rfl, rfl, hM.DM⟩⟩
  refine ⟨.pointer (some ⟨w.heap.size, 0, none⟩), _, _, _, _, ?_, h, r2, r1, ?_⟩
  · simp only [Instr.range, Sem.run_bind, run_underlying hu, Result.andThen_ok, hget, Sem.run_pure]
    rfl
  · have e1 : (L.addD G.next w.heap.size 0 true).k G.next = w.heap.size := upd_same _ _ _
    have := VR.itp (L := L.addD G.next w.heap.size 0 true) (w := w.alloc (.mapIter (some (L.k b)) clock #[] clock)) G.next (Lay.addD_DM _ _ _ _)
    rw [e1] at this
    exact this

theorem iter_spec (hr : Rel C.gl B0 L G w) {bi b since stepped : Nat} {seen : List Nat} {blk : Blk} (hD : L.DM bi) (hg : G.get bi = some blk) (hf : blk.f 0 = .iterc b since seen stepped) : ∃ seen', seen = seen'.toList ∧ w.heap[L.k bi]? = some (.mapIter (some (L.k b)) since seen' stepped) ∧ L.DM b := by
  obtain ⟨_, _, o, ho, h0, ⟨clock', born', ks', vs', es, h1, _⟩ | ⟨b', since', seen', stepped', h1, h2, h3⟩⟩ := hr.objM hD hg
  · rw [hf] at h1; cases h1
  · rw [hf] at h1
    injection h1 with e1 e2 e3 e4
    subst e1; subst e2; subst e4
    exact ⟨seen', e3, by rw [ho, h2], h3⟩

theorem MapIn.len {b clock : Nat} {born : List Nat} {ks vs : List AV} {es : Array MapEntry} (h : MapIn L G w b clock born ks vs es) : born.length = es.size ∧ ks.length = es.size ∧ vs.length = es.size :=
  ⟨by rw [← h.born]; simp, by have := h.ks.1; simpa using this, by have := h.vs.1; simpa using this⟩
theorem MapIn.at {b clock : Nat} {born : List Nat} {ks vs : List AV} {es : Array MapEntry} (h : MapIn L G w b clock born ks vs es) {e : MapEntry} {i : Nat} (hi : es[i]? = some e) : born[i]? = some e.born ∧ VR L w (ks.getD i .undef) e.key ∧ VR L w (vs.getD i .undef) e.val := by
  have hlt : i < es.size := (Array.getElem?_eq_some_iff.1 hi).1
  obtain ⟨l1, l2, l3⟩ := h.len
  have g1 := getD_vr h.ks (i := i) (by omega)
  have g2 := getD_vr h.vs (i := i) (by omega)
  rw [List.getElem?_map, Array.getElem?_toList, hi] at g1 g2
  exact ⟨by rw [← h.born, List.getElem?_map, Array.getElem?_toList, hi]; rfl, g1, g2⟩

theorem next_sound {ty : TypeId} {it : AV} {vi : Value} {K : AV → Heap → Prop} (hr : Rel C.gl B0 L G w) (hi : VR L w it vi) (h : nextK G it K) :
    ∃ v w' r G', (Instr.next vi false ty).run C.P w = .ok v w' ∧ K r G' ∧ Fr L G w L G' w' ∧ Rel C.gl B0 L G' w' ∧ VR L w' r v := by
  unfold nextK at h
  split at h
  · rename_i bi
    split at h
    · rename_i blk hg
      split at h
      · rename_i b since seen stepped hf
        obtain ⟨rfl, hD⟩ := hi.inv_itp
        obtain ⟨seen, rfl, hoi, hDb⟩ := iter_spec hr hD hg hf
        obtain ⟨b', clock, born, ks, vs, es, hb', hM, ⟨hs1, hs2, hbt⟩, hend, hstep⟩ := mapAt_spec hr (.mp b hDb) h
        subst hs1
        have hs2 := hs2.symm
        subst hs2
        injection hb' with hb'
        injection hb' with hb'
        have hobj := hM.obj
        rw [← hb'] at hobj
        have hget := MapKept.run_getObj_map (P := C.P) hobj
        have hgeti : (getObj (L.k bi)).run C.P w = .ok (.mapIter (some (L.k b)) since seen since) w := by simp [getObj, Sem.run, hoi]
        obtain ⟨l1, l2, l3⟩ := hM.len
        have hbl : ∀ e ∈ es.toList, e.born < since := fun e he => hbt _ (by rw [← hM.born]; exact List.mem_map.2 ⟨e, he, rfl⟩)
        have hgone : (!seen.isEmpty && !es.isEmpty && es.all (fun x => decide (x.born ≥ since))) = false := by
          cases he : es.isEmpty with
          | true => simp
          | false =>
            have hall : es.all (fun x => decide (x.born ≥ since)) = false := by
              rw [Array.all_eq_false]
              have h0 : 0 < es.size := by
                rcases Nat.eq_zero_or_pos es.size with h | h
                · rw [Array.isEmpty_iff_size_eq_zero.2 h] at he; cases he
                · exact h
              exact ⟨0, h0, by have := hbl es[0] (by simp); simp; omega⟩
            rw [hall]; simp
        have hnew : (es.filter fun e => !seen.contains e.born).filter (fun x => decide (x.born ≥ since)) = #[] := by
          rw [Array.filter_eq_empty_iff]
          intro x hx
          have hx' : x ∈ es := by simp only [Array.mem_filter] at hx; exact hx.1
          have := hbl x (by simpa using hx')
          simp; omega
        have hold : (es.filter fun e => !seen.contains e.born).filter (fun x => decide (x.born < since)) = es.filter fun e => !seen.contains e.born := by
          rw [Array.filter_eq_self]
          intro x hx
          have hx' : x ∈ es := by simp only [Array.mem_filter] at hx; exact hx.1
          have := hbl x (by simpa using hx')
          simp; omega
        generalize hleft : (es.filter fun e => !seen.contains e.born) = left at hnew hold
        have hmem : ∀ e, e ∈ left ↔ e ∈ es ∧ ¬ e.born ∈ seen := by
          intro e
          rw [← hleft]
          simp
        by_cases hL : left.size = 0
        · have hle : left = #[] := Array.eq_empty_of_size_eq_zero hL
          have hall : ∀ x ∈ born, x ∈ seen.toList := by
            intro x hx
            rw [← hM.born] at hx
            obtain ⟨e, he, rfl⟩ := List.mem_map.1 hx
            by_cases hs : e.born ∈ seen
            · simpa using hs
            · have := (hmem e).2 ⟨by simpa using he, hs⟩
              rw [hle] at this
              simp at this
          refine ⟨.tuple #[.bool false], w, _, G, ?_, hend hall, .refl L G w, hr, ?_⟩
          · subst hle
            simp only [Instr.next, Sem.run_bind, hgeti, Result.andThen_ok, hget, hgone, Bool.false_eq_true, if_false, hleft, hold, hnew]
            simp [choose, Sem.run, Question.forced]
          · exact .tup _ _ rfl fun i c x h1 h2 => by
              match i, h1, h2 with
              | 0, h1, h2 => simp at h1 h2; subst h1; subst h2; exact .bool false
        · have hpos : 0 < left.size := by omega
          have hne : left.isEmpty = false := by
            cases hq : left.isEmpty with
            | false => rfl
            | true => rw [Array.isEmpty_iff_size_eq_zero] at hq; omega
          -- which one is drawn
          have hch : ∃ (j : Nat) (w1 : World), j < left.size ∧ w1.heap = w.heap ∧ w1.os = w.os ∧ w1.tape = w.tape ∧ w1.output = w.output ∧ (choose (Question.mapNext left.size)).run C.P w = .ok j w1 := by
            by_cases hf1 : left.size ≤ 1
            · exact ⟨0, w, by omega, rfl, rfl, rfl, rfl, by simp [choose, Sem.run, Question.forced, hf1]⟩
            · refine ⟨w.tape w.drawn (.mapNext left.size) % left.size, { w with drawn := w.drawn + 1 }, Nat.mod_lt _ hpos, rfl, rfl, rfl, rfl, ?_⟩
              simp [choose, Sem.run, Question.forced, hf1, Question.cut]
          obtain ⟨j, w1, hj, e1, e2, e3, e4, hrun1⟩ := hch
          obtain ⟨hes, hns⟩ := (hmem left[j]).1 (by simp)
          obtain ⟨i, hi'⟩ := Array.getElem?_of_mem hes
          obtain ⟨g1, g2, g3⟩ := hM.at hi'
          have hK := hstep i left[j].born g1 (by simpa using hns)
          have hr1 : Rel C.gl B0 L G w1 := ⟨by rw [e1]; exact hr.base, hr.idlt, fun i hi => by rw [e1]; exact hr.ilt i hi, hr.wf, fun x y hx hy => by
            obtain ⟨a1, a2, o, a3, a4⟩ := hr.live x y hx hy
            exact ⟨a1, a2, o, by rw [e1]; exact a3, a4.mono (.refl L) fun _ _ => by rw [e1]⟩, hr.inj, fun g => (hr.glob g).mono (.refl L) fun _ _ => by rw [e1]⟩
          have hoi1 : w1.heap[L.k bi]? = some (.mapIter (some (L.k b)) since seen since) := by rw [e1]; exact hoi
          obtain ⟨r1, r2⟩ := hr1.setObj (blk' := ⟨0, fun _ => .iterc b since (seen.toList ++ [left[j].born]) since⟩) (o' := .mapIter (some (L.k b)) since (seen.push left[j].born) since) (w' := { w1 with heap := w1.heap.setIfInBounds (L.k bi) (.mapIter (some (L.k b)) since (seen.push left[j].born) since) }) hD.1 hg (by
            rw [hD.2]
            exact ⟨rfl, .inr ⟨b, since, seen.push left[j].born, since, by simp, rfl, hDb⟩⟩) (setIf_same w1 _ hoi1) (setIf_other w1 _ _) (by simp) rfl rfl rfl
          refine ⟨.tuple #[.bool true, left[j].key, left[j].val], _, _, _, ?_, hK, ?_, r1, ?_⟩
          · simp only [Instr.next, Sem.run_bind, hgeti, Result.andThen_ok, hget, hgone, Bool.false_eq_true, if_false, hleft, hold, hnew, hne, Array.append_empty, Array.empty_append, Array.size_map, hrun1]
            have hget? : (left.map some)[j]? = some (some left[j]) := by simp [hj]
            rw [hget?]
            have hset : (setObj (L.k bi) (.mapIter (some (L.k b)) since (seen.push left[j].born) since)).run C.P w1 = .ok () { w1 with heap := w1.heap.setIfInBounds (L.k bi) (.mapIter (some (L.k b)) since (seen.push left[j].born) since) } := by
              simp [setObj, Sem.run, hoi1]
            simp only [Sem.run_bind, hset, Result.andThen_ok, Sem.run_pure]
          · have f0 : Fr L G w L G w1 := ⟨.refl L, by rw [e1]; omega, e2, e3, e4, fun i _ _ => by rw [e1], fun _ h n => absurd h n, fun _ h n => absurd h n, fun _ h n => absurd h n, Nat.le_refl _, fun _ _ _ => rfl, fun _ _ h => h⟩
            exact f0.trans r2 hr
          · have hI : ∀ i, L.I i → ({ w1 with heap := w1.heap.setIfInBounds (L.k bi) (.mapIter (some (L.k b)) since (seen.push left[j].born) since) } : World).heap[i]? = w.heap[i]? := fun i hi => by
              rw [r2.imm hr1 i hi, e1]
            exact .tup3 (.bool true) (g2.mono (.refl L) hI) (g3.mono (.refl L) hI)
      · exact h.elim
    · exact h.elim
  · exact h.elim

theorem entry_sound {it : AV} {vi : Value} {K : AV → Prop} (hr : Rel C.gl B0 L G w) (hi : VR L w it vi) (h : entryK G it K) :
    ∃ v r, (Instr.entry vi).run C.P w = .ok v w ∧ VR L w r v ∧ K r := by
  unfold entryK at h
  split at h
  · rename_i bi
    split at h
    · rename_i blk hg
      split at h
      · rename_i b since seen stepped hf
        obtain ⟨rfl, hD⟩ := hi.inv_itp
        obtain ⟨seen, rfl, hoi, hDb⟩ := iter_spec hr hD hg hf
        obtain ⟨b', clock, born, ks, vs, es, hb', hM, rfl, s, i, hs, hbi, hfirst, hK⟩ := mapAt_spec hr (.mp b hDb) h
        injection hb' with hb'
        injection hb' with hb'
        have hobj := hM.obj
        rw [← hb'] at hobj
        have hget := MapKept.run_getObj_map (P := C.P) hobj
        have hgeti : (getObj (L.k bi)).run C.P w = .ok (.mapIter (some (L.k b)) since seen stepped) w := by simp [getObj, Sem.run, hoi]
        obtain ⟨l1, l2, l3⟩ := hM.len
        have hlt : i < es.size := by have := (List.getElem?_eq_some_iff.1 hbi).1; omega
        have hei : es[i]? = some es[i] := by simp [hlt]
        obtain ⟨g1, g2, g3⟩ := hM.at hei
        rw [hbi] at g1
        injection g1 with g1
        have hback : seen.back? = some s := by
          rw [← hs]; simp [Array.back?, List.getLast?_eq_getElem?]
        have hfind : es.find? (fun x => x.born == s) = some es[i] := by
          rw [Array.find?_eq_some_iff_getElem]
          refine ⟨by simp [g1], i, hlt, rfl, fun j hj => ?_⟩
          have hn := hfirst j hj
          have : born[j]? = some es[j].born := by
            rw [← hM.born, List.getElem?_map, Array.getElem?_toList]
            simp [show j < es.size by omega]
          rw [this] at hn
          simp at hn ⊢
          exact hn
        refine ⟨.tuple #[es[i].key, es[i].val], _, ?_, .tup2 g2 g3, hK⟩
        simp only [Instr.entry, Sem.run_bind, hgeti, Result.andThen_ok, hback, hget, hfind]
        simp
      · exact h.elim
    · exact h.elim
  · exact h.elim
end
end Go.Fw
