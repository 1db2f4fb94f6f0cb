/- The operations over abstract values, and that the model's operations do what these say. -/
import Derived.Test.YtjcplclbdanpgaaFwA
import Derived.Laws.MakeOwn
import Derived.Laws.CopyRow
import Derived.Laws.Cells
import Derived.Laws.Entries
set_option linter.unusedVariables false
set_option linter.unusedSimpArgs false
namespace Go.Fw
open Go

/-! ### Constants, types -/
def cst1 : Value → AV
  | .int k n => .int k n
  | .bool b => .bool b
  | .string s => .str s
  | .slice none 0 0 => .nils
  | .pointer none => .nilp
  | .nilFunc => .nilf
  | _ => .undef
def cst : Value → AV
  | .agg cs => .agg (cs.toList.map cst1)
  | v => cst1 v
theorem cst1_vr (L : Lay) (w : World) (v : Value) : VR L w (cst1 v) v := by
  unfold cst1
  split <;> constructor
theorem cst_vr (L : Lay) (w : World) (v : Value) : VR L w (cst v) v := by
  unfold cst
  split
  · rename_i cs
    refine .agg _ _ (by simp) fun i c v h1 h2 => ?_
    rw [List.getElem?_map, Array.getElem?_toList, h2] at h1
    simp at h1
    subst h1
    exact cst1_vr L w v
  · exact cst1_vr L w v

structure TI where
  sz : Nat
  by' : Nat
  ag : Bool
  zs : List AV
def aggD : TypeDesc → Bool
  | .struct _ | .array _ _ => true
  | _ => false
def Cx.ti (C : Cx) (t : TypeId) : Option TI :=
  match C.P.info? t, C.P.underlying t with
  | some i, some d => match i.zero with
    | some z => if z.cells.size = i.size then some ⟨i.size, i.bytes, aggD d, z.cells.toList.map cst1⟩ else none
    | none => none
  | _, _ => none
theorem Cx.ti_spec {C : Cx} {t : TypeId} {x : TI} (h : C.ti t = some x) : ∃ i d z, C.P.info? t = some i ∧ C.P.underlying t = some d ∧ i.zero = some z ∧ z.cells.size = i.size ∧ x = ⟨i.size, i.bytes, aggD d, z.cells.toList.map cst1⟩ := by
  unfold Cx.ti at h
  split at h
  · rename_i i d h1 h2
    split at h
    · rename_i z hz
      split at h
      · rename_i hs
        injection h with h
        exact ⟨i, d, z, h1, h2, hz, hs, h.symm⟩
      · cases h
    · cases h
  · cases h
/-- A slice type's element type. -/
def Cx.el (C : Cx) (t : TypeId) : Option TypeId := match C.P.underlying t with
  | some (.slice e) => some e
  | _ => none
theorem Cx.el_spec {C : Cx} {t e : TypeId} (h : C.el t = some e) : C.P.underlying t = some (.slice e) := by
  unfold Cx.el at h
  split at h
  · injection h with h; subst h; assumption
  · cases h
/-- An array type's length and element type. -/
def Cx.ar (C : Cx) (t : TypeId) : Option (Nat × TypeId) := match C.P.underlying t with
  | some (.array n e) => some (n, e)
  | _ => none
theorem Cx.ar_spec {C : Cx} {t e : TypeId} {n : Nat} (h : C.ar t = some (n, e)) : C.P.underlying t = some (.array n e) := by
  unfold Cx.ar at h
  split at h
  · injection h with h; injection h with h1 h2; subst h1; subst h2; assumption
  · cases h
/-- A field's offset and type. -/
def Cx.fd (C : Cx) (t : TypeId) (i : Nat) : Option (Nat × TypeId) := match C.P.underlying t with
  | some (.struct fs) => (fs[i]?).map fun f => (f.offset, f.type)
  | _ => none
theorem Cx.fd_spec {C : Cx} {t u : TypeId} {i off : Nat} (h : C.fd t i = some (off, u)) : ∃ fs f, C.P.underlying t = some (.struct fs) ∧ fs[i]? = some f ∧ f.offset = off ∧ f.type = u := by
  unfold Cx.fd at h
  split at h
  · rename_i fs hf
    obtain ⟨f, h1, h2⟩ := Option.map_eq_some_iff.1 h
    injection h2 with h2 h3
    exact ⟨fs, f, hf, h1, h2, h3⟩
  · cases h
def Cx.ik (C : Cx) (t : TypeId) : Option IntKind := match C.P.underlying t with
  | some (.int k) => some k
  | _ => none
theorem Cx.ik_spec {C : Cx} {t : TypeId} {k : IntKind} (h : C.ik t = some k) : C.P.underlying t = some (.int k) := by
  unfold Cx.ik at h
  split at h
  · injection h with h; subst h; assumption
  · cases h
def Cx.isBool (C : Cx) (t : TypeId) : Bool := match C.P.underlying t with
  | some .bool => true
  | _ => false
def Cx.isPtr (C : Cx) (t : TypeId) : Bool := match C.P.underlying t with
  | some (.pointer _) => true
  | _ => false
def Cx.isStr (C : Cx) (t : TypeId) : Bool := match C.P.underlying t with
  | some .string => true
  | _ => false

def tab : Nat → (Nat → AV) → List AV
  | 0, _ => []
  | n + 1, f => f 0 :: tab n fun j => f (j + 1)
theorem tab_length (n : Nat) : ∀ f, (tab n f).length = n := by
  induction n with
  | zero => intro f; rfl
  | succ n ih => intro f; simp [tab, ih]
theorem tab_get (n : Nat) : ∀ f (i : Nat), i < n → (tab n f)[i]? = some (f i) := by
  induction n with
  | zero => intro f i h; omega
  | succ n ih =>
    intro f i h
    cases i with
    | zero => simp [tab]
    | succ i => simp [tab, ih _ i (by omega)]

/-! ### Operations that leave all memory alone -/
def rdK (G : Heap) (p : AV) (sz : Nat) (K : List AV → Prop) : Prop :=
  match p with
  | .ptr b off => match G.get b with
    | some blk => off + sz ≤ blk.n ∧ K (tab sz fun j => blk.f (off + j))
    | none => False
  | .ref cs => sz ≤ cs.length ∧ K (cs.take sz)
  | _ => False
def mkK (ag : Bool) (cs : List AV) (K : AV → Prop) : Prop :=
  match ag, cs with
  | true, cs => K (.agg cs)
  | false, [c] => K c
  | false, _ => False
def strOp (op : BinOp) (a b : ByteArray) (K : AV → Prop) : Prop :=
  match op with
  | .eql => K (.bool (a.toList == b.toList))
  | .neq => K (.bool !(a.toList == b.toList))
  | _ => False
def intOp (op : BinOp) (k : IntKind) (a b : Int) (K : AV → Prop) : Prop :=
  match op with
  | .add => K (.int k (k.wrap (a + b)))
  | .sub => K (.int k (k.wrap (a - b)))
  | .mul => K (.int k (k.wrap (a * b)))
  | .quo => b ≠ 0 ∧ K (.int k (k.wrap (a.tdiv b)))
  | .rem => b ≠ 0 ∧ K (.int k (a.tmod b))
  | .and => K (.int k (k.wrap (BitVec.ofInt k.bits a &&& BitVec.ofInt k.bits b).toNat))
  | .or => K (.int k (k.wrap (BitVec.ofInt k.bits a ||| BitVec.ofInt k.bits b).toNat))
  | .xor => K (.int k (k.wrap (BitVec.ofInt k.bits a ^^^ BitVec.ofInt k.bits b).toNat))
  | .eql => K (.bool (a == b))
  | .neq => K (.bool (a != b))
  | .lss => K (.bool (decide (a < b)))
  | .leq => K (.bool (decide (a ≤ b)))
  | .gtr => K (.bool (decide (a > b)))
  | .geq => K (.bool (decide (a ≥ b)))
  | _ => False
def eqOp (op : BinOp) (r : Bool) (K : AV → Prop) : Prop :=
  match op with
  | .eql => K (.bool r)
  | .neq => K (.bool !r)
  | _ => False
def intV : AV → Option Int
  | .int .i64 n => some n
  | _ => none
theorem intV_spec {c : AV} {n : Int} (h : intV c = some n) : c = .int .i64 n := by
  unfold intV at h
  split at h
  · injection h with h; subst h; rfl
  · cases h
def intL : List AV → Option (List Int)
  | [] => some []
  | c :: cs => match intV c, intL cs with
    | some n, some ns => some (n :: ns)
    | _, _ => none
theorem intL_spec : ∀ {cs : List AV} {ns : List Int}, intL cs = some ns → cs = ns.map fun n => AV.int .i64 n
  | [], ns, h => by simp only [intL, Option.some.injEq] at h; subst h; rfl
  | c :: cs, ns, h => by
    simp only [intL] at h
    split at h
    · rename_i n ms h1 h2
      injection h with h; subst h
      rw [intV_spec h1, intL_spec h2]; rfl
    · cases h
def aggI (xs : List Int) : Value := .agg (xs.map fun n => Value.int .i64 n).toArray
/-- Rows of numbers of this type are compared number by number. -/
def AggEq (C : Cx) (t : TypeId) (n : Nat) : Prop := C.P.eqGuardType C.P.depth t = false ∧ ∀ (xs ys : List Int) w, xs.length = n → ys.length = n → (Op.equalIn 10000 t (aggI xs) (aggI ys)).run C.P w = .ok (decide (xs = ys)) w
def Cx.isFn (C : Cx) (t : TypeId) : Bool := match C.P.underlying t with
  | some (.func ..) => true
  | _ => false
def binK (C : Cx) (op : BinOp) (t : TypeId) (x y : AV) (K : AV → Prop) : Prop :=
  match x, y with
  | .int k a, .int k' b => k = k' ∧ intOp op k a b K
  | .bool a, .bool b => C.isBool t = true ∧ eqOp op (a == b) K
  | .str a, .str b => strOp op a b K
  | .nilp, .nilp => C.isPtr t = true ∧ eqOp op true K
  | .nilp, .ptr _ _ => C.isPtr t = true ∧ eqOp op false K
  | .ptr _ _, .nilp => C.isPtr t = true ∧ eqOp op false K
  | .nilp, .ref _ => C.isPtr t = true ∧ eqOp op false K
  | .ref _, .nilp => C.isPtr t = true ∧ eqOp op false K
  | .agg as, .agg bs => (match intL as, intL bs with
    | some xs, some ys => (AggEq C t xs.length ∧ ys.length = xs.length) ∧ eqOp op (decide (xs = ys)) K
    | _, _ => False)
  | .nilf, .nilf => C.isFn t = true ∧ eqOp op true K
  | .fn .., .nilf => C.isFn t = true ∧ eqOp op false K
  | .nilf, .fn .. => C.isFn t = true ∧ eqOp op false K
  | _, _ => False
def unK (op : UnOp) (x : AV) (K : AV → Prop) : Prop :=
  match op, x with
  | .not, .bool b => K (.bool !b)
  | .neg, .int k n => K (.int k (k.wrap (0 - n)))
  | _, _ => False
def sliceAt (x : AV) (l h : Int) (K : AV → Prop) : Prop :=
  match x with
  | .sl b off len ex sz => (0 ≤ l ∧ l ≤ h ∧ h ≤ (len : Int)) ∧ (l = 0 ∨ l < h) ∧ K (.sl b (off + l.toNat * sz) (h - l).toNat (ex && decide (h = (len : Int))) sz)
  | .lst sz n f => (0 ≤ l ∧ l ≤ h ∧ h ≤ (n : Int)) ∧ K (.lst sz (h - l).toNat fun i => f (l.toNat + i))
  | .nils => l = 0 ∧ h = 0 ∧ K .nils
  | .emp => l = 0 ∧ h = 0 ∧ K .emp
  | _ => False
def lenOf : AV → Option Nat
  | .sl _ _ len _ _ => some len
  | .lst _ n _ => some n
  | .nils | .emp => some 0
  | _ => none
def bnd (ρ : Operand → AV) (x : Option Operand) (d : Int) : Option Int :=
  match x with
  | none => some d
  | some o => match ρ o with
    | .int _ i => some i
    | _ => none
def sliceK (C : Cx) (ρ : Operand → AV) (t : TypeId) (x : AV) (lo hi mx : Option Operand) (K : AV → Prop) : Prop :=
  match C.el t with
  | none => False
  | some e => match C.ti e, mx, lenOf x with
    | some i, none, some len =>
      (match x with | .sl _ _ _ _ sz => sz = i.sz | .lst sz _ _ => sz = i.sz | _ => True) ∧
      (match bnd ρ lo 0, bnd ρ hi len with
        | some l, some h => sliceAt x l h K
        | _, _ => False)
    | some i, some m, some len => match lo, hi, ρ m with
      | none, some h, .int _ 0 => (match ρ h with
        | .int _ 0 => K .nils
        | _ => False)
      | _, _, _ => False
    | _, _, _ => False
def idxK (C : Cx) (t : TypeId) (x : AV) (i : Int) (K : AV → Prop) : Prop :=
  match C.el t with
  | some e => (match C.ti e with
    | none => False
    | some ti => match x with
      | .sl b off len ex sz => sz = ti.sz ∧ (0 ≤ i ∧ i < (len : Int)) ∧ K (.ptr b (off + i.toNat * sz))
      | .lst sz n f => sz = ti.sz ∧ (0 ≤ i ∧ i < (n : Int)) ∧ K (.ref (f i.toNat))
      | _ => False)
  | none => match C.ar t with
    | none => False
    | some (n, e) => match C.ti e with
      | none => False
      | some ti => match x with
        | .ptr b off => (0 ≤ i ∧ i < (n : Int)) ∧ K (.ptr b (off + i.toNat * ti.sz))
        | .ref cs => (0 ≤ i ∧ i < (n : Int)) ∧ K (.ref (cs.drop (i.toNat * ti.sz)))
        | _ => False
def partK (i : TI) (off : Nat) (cs : List AV) (K : AV → Prop) : Prop :=
  match i.ag with
  | true => K (.agg ((cs.drop off).take i.sz))
  | false => match cs[off]? with
    | some c => K c
    | none => False
/-- Cells put over others. -/
def lay (zs : List AV) (off : Nat) (cs : List AV) : List AV := zs.take off ++ cs ++ zs.drop (off + cs.length)
def partsK (C : Cx) (place : Nat → Option (Nat × Nat)) (ρ : Operand → AV) : List (Nat × Operand) → List AV → (List AV → Prop) → Prop
  | [], zs, K => K zs
  | (i, x) :: rest, zs, K => match place i with
    | none => False
    | some (off, sz) => (ρ x).cells.length = sz ∧ off + (ρ x).cells.length ≤ zs.length ∧ ((ρ x).cells.all AV.isCell = true) ∧ partsK C place ρ rest (lay zs off (ρ x).cells) K
def Cx.place (C : Cx) (t : TypeId) (i : Nat) : Option (Nat × Nat) :=
  match C.fd t i with
  | some (off, u) => (C.ti u).map fun x => (off, x.sz)
  | none => match C.ar t with
    | some (_, e) => (C.ti e).map fun x => (i * x.sz, x.sz)
    | none => none
def minmaxK (mx : Bool) : List AV → (AV → Prop) → Prop
  | [.int k a, .int k' b], K => k = k' ∧ K (.int k (if mx then (if b > a then b else a) else (if b < a then b else a)))
  | _, _ => False

def pureK (C : Cx) (G : Heap) (ρ : Operand → AV) (op : Op) (K : AV → Prop) : Prop :=
  match op with
  | .move x => K (ρ x)
  | .assign x => K (ρ x)
  | .pick c x y => (match ρ c with
    | .bool t => K (if t then ρ x else ρ y)
    | _ => False)
  | .build t parts => (match C.ti t with
    | some i => i.ag = true ∧ partsK C (C.place t) ρ parts.toList i.zs fun cs => K (.agg cs)
    | none => False)
  | .load t x => (match C.ti t with
    | some i => rdK G (ρ x) i.sz fun cs => mkK i.ag cs K
    | none => False)
  | .nilCheck x => (match ρ x with
    | .ptr b o => K (.ptr b o)
    | .ref cs => K (.ref cs)
    | .fn f a b => K (.fn f a b)
    | _ => False)
  | .binOp op t x y _ => binK C op t (ρ x) (ρ y) K
  | .unOp op _ x => unK op (ρ x) K
  | .convert s d x => (match C.ik d, ρ x with
    | some k, .int _ n => (C.P.underlying s).isSome = true ∧ K (.int k (k.wrap n))
    | _, _ => False)
  | .makeFunc fn first cap => (match fn with
    | .func f => K (.fn f (first.toList.map ρ) (cap.toList.map ρ))
    | _ => False)
  | .slice t x lo hi mx => sliceK C ρ t (ρ x) lo hi mx K
  | .fieldAddr t x i => (match C.fd t i with
    | some (off, u) => (match C.ti u with
      | some ti => ti.sz ≠ 0 ∧ (match ρ x with
        | .ptr b o => K (.ptr b (o + off))
        | .ref cs => K (.ref (cs.drop off))
        | _ => False)
      | none => False)
    | none => False)
  | .field t x i => (match C.fd t i, ρ x with
    | some (off, u), .agg cs => (match C.ti u with
      | some ti => partK ti off cs K
      | none => False)
    | _, _ => False)
  | .indexAddr t x ix => (match ρ ix with
    | .int _ i => idxK C t (ρ x) i K
    | _ => False)
  | .index t x ix => (match ρ ix, ρ x, C.ar t with
    | .int _ i, .agg cs, some (n, e) => (match C.ti e with
      | some ti => (0 ≤ i ∧ i < (n : Int)) ∧ partK ti (i.toNat * ti.sz) cs K
      | none => False)
    | _, _, _ => False)
  | .extract x i => (match ρ x with
    | .tup vs => (match vs[i]? with
      | some v => K v
      | none => False)
    | _ => False)
  | .call c => (match c.callee with
    | .builtin .len => (match c.args.toList, c.argTypes.toList with
      | [x], [t] => (match ρ x with
        | .str s => C.isStr t = true ∧ K (.int .i64 s.size)
        | v => (match lenOf v with
          | some n => (C.el t).isSome = true ∧ K (.int .i64 n)
          | none => False))
      | _, _ => False)
    | .builtin .min => minmaxK false (c.args.toList.map ρ) K
    | .builtin .max => minmaxK true (c.args.toList.map ρ) K
    | _ => False)
  | _ => False

/-- What the model's operation does, where it leaves the world alone. -/
def PureAt (C : Cx) (o : Oper) (a : Act) (L : Lay) (w : World) (K : AV → Prop) : Prop :=
  ∃ v r, (execOp a.eval o).run C.P w = .ok (.value v) w ∧ VR L w r v ∧ K r

theorem add_add (a : Addr) (n m : Nat) : (a.add n).add m = a.add (n + m) := by
  unfold Addr.add
  by_cases h1 : n = 0 <;> by_cases h2 : m = 0 <;> simp [h1, h2, Nat.add_assoc]
theorem add_mk (b o n : Nat) : (⟨b, o, none⟩ : Addr).add n = ⟨b, o + n, none⟩ := by
  unfold Addr.add; split <;> simp_all

/-- What is read at an address. -/
theorem rdK_spec {C : Cx} {B0 : Nat} {L : Lay} {G : Heap} {w : World} (hr : Rel C.gl B0 L G w) {p : AV} {v : Value} {sz : Nat} {K : List AV → Prop} (hv : VR L w p v) (h : rdK G p sz K) :
    ∃ a vs cs, v = .pointer (some a) ∧ K cs ∧ VRs L w cs vs ∧ cs.length = sz ∧ (∀ j u, vs[j]? = some u → w.cell? (a.add j) = some u) ∧ ∀ u ∈ vs, u.oneCell' = true := by
  cases hv <;> simp only [rdK] at h
  case ptr b off hb =>
    cases hg : G.get b with
    | none => simp [hg] at h
    | some blk =>
      simp only [hg] at h
      obtain ⟨hle, hK⟩ := h
      obtain ⟨_, _, _, c, e, hc, hs, hcell⟩ := hr.cells hb hg
      have hx : ∀ j, j < sz → ∃ v, c[off + j]? = some v ∧ v.oneCell' = true ∧ VR L w (blk.f (off + j)) v := fun j hj => hcell _ (by omega)
      refine ⟨_, (List.range sz).map fun j => (c[off + j]?).getD undef, _, rfl, hK, ⟨by simp [tab_length], fun i d v h1 h2 => ?_⟩, tab_length _ _, fun j u hu => ?_, fun u hu => ?_⟩
      · have hi : i < sz := by
          rcases Nat.lt_or_ge i sz with h | h
          · exact h
          · rw [List.getElem?_eq_none (by rw [tab_length]; exact h)] at h1; cases h1
        rw [tab_get _ _ _ hi] at h1
        injection h1 with h1
        subst h1
        obtain ⟨u, hu1, _, hu2⟩ := hx i hi
        simp [hi, hu1] at h2
        subst h2
        exact hu2
      · have hj : j < sz := by
          rcases Nat.lt_or_ge j sz with h | h
          · exact h
          · rw [List.getElem?_eq_none (by simpa using h)] at hu; cases hu
        obtain ⟨u', hu1, _, hu2⟩ := hx j hj
        simp [hj, hu1] at hu
        subst hu
        rw [add_mk]
        simp [World.cell?, hc, hu1]
      · obtain ⟨j, hj, rfl⟩ := List.mem_map.1 hu
        obtain ⟨u', hu1, h1, _⟩ := hx j (List.mem_range.1 hj)
        simp [hu1, h1]
  case ref cs a vs hI hc hv' =>
    obtain ⟨hle, hK⟩ := h
    refine ⟨a, (List.range sz).map vs, cs.take sz, rfl, hK, ⟨by simp [hle], fun i d v h1 h2 => ?_⟩, by simp [hle], fun j u hu => ?_, fun u hu => ?_⟩
    · have hi : i < sz := by
        rcases Nat.lt_or_ge i sz with h | h
        · exact h
        · rw [List.getElem?_eq_none (by simp; omega)] at h1; cases h1
      rw [List.getElem?_take, if_pos hi] at h1
      simp [hi] at h2
      subst h2
      exact hv' i d h1
    · have hj : j < sz := by
        rcases Nat.lt_or_ge j sz with h | h
        · exact h
        · rw [List.getElem?_eq_none (by simpa using h)] at hu; cases hu
      simp [hj] at hu
      subst hu
      exact (hc j (by omega)).1
    · obtain ⟨j, hj, rfl⟩ := List.mem_map.1 hu
      exact (hc j (by have := List.mem_range.1 hj; omega)).2

theorem aggD_run {C : Cx} {t : TypeId} {d : TypeDesc} (h : C.P.underlying t = some d) (w : World) : (isAgg t).run C.P w = .ok (aggD d) w := by
  simp only [isAgg, Sem.run_bind, run_underlying h, Result.andThen_ok]
  cases d <;> rfl
theorem sizeOf_run {P : Program} {t : TypeId} {i : TypeInfo} (h : P.info? t = some i) (w : World) : (sizeOf t).run P w = .ok i.size w := by
  simp [sizeOf, typeInfo, h]

theorem loadVar_run {C : Cx} {t : TypeId} {i : TI} (hi : C.ti t = some i) {L : Lay} {w : World} {a : Addr} {cs : List AV} {vs : List Value} {K : AV → Prop} (hvs : VRs L w cs vs) (hl : cs.length = i.sz) (hc : ∀ j u, vs[j]? = some u → w.cell? (a.add j) = some u)
    (hK : mkK i.ag cs K) : ∃ v r, (loadVar t a).run C.P w = .ok v w ∧ VR L w r v ∧ K r := by
  obtain ⟨i0, d, z, h1, h2, h3, h4, rfl⟩ := Cx.ti_spec hi
  simp only at hl hK
  simp only [loadVar, Sem.run_bind, aggD_run h2, Result.andThen_ok]
  cases hag : aggD d with
  | true =>
    rw [hag] at hK
    simp only [mkK] at hK
    refine ⟨.agg vs.toArray, .agg cs, ?_, .agg _ _ (by simpa using hvs.1) (fun j c v e1 e2 => hvs.2 j c v e1 (by simpa using e2)), hK⟩
    simp only [if_true, Sem.run_bind, sizeOf_run h1, Result.andThen_ok]
    rw [← hl, hvs.1, run_loadCells_list w a vs hc]
    simp
  | false =>
    rw [hag] at hK
    match cs, hK with
    | [c], hK =>
      simp only [mkK] at hK
      obtain ⟨v, us, rfl, k1, k2⟩ := hvs.of_cons
      refine ⟨v, c, ?_, k1, hK⟩
      have h0 := hc 0 v rfl
      have e0 : a.add 0 = a := by simp [Addr.add]
      rw [e0] at h0
      simp [h0]

end Go.Fw
