/- The words by which a region is run, each by definition: one bundle of rules. -/
import Derived.Test.YtjcplclbdanpgaaFwR
set_option maxRecDepth 100000
set_option linter.unusedVariables false
set_option linter.unusedSimpArgs false
namespace Go.Fw
open Go
theorem ev0 (C : Cx) (mb : Nat → Bool) (ops : Array Oper) (env : Env) (G : Heap) (KE : Env → Heap → Prop) : runOps C mb ops [] env G KE = KE env G := rfl
theorem ev1 (C : Cx) (mb : Nat → Bool) (ops : Array Oper) (o : Oper) (rest : List Oper) (env : Env) (G : Heap) (KE : Env → Heap → Prop) : runOps C mb ops (o :: rest) env G KE = wantK ops o env (stepR C mb ops rest o env G KE) (runOps C mb ops rest (putE env o.dst .undef) G KE) := rfl
theorem ev2 (ops : Array Oper) (d : Option Tmp) (op : Op) (ty : TypeId) (pos : String) (af : Array Edge) (env : Env) (yes : Prop) (no : Prop) : wantK ops ⟨d, op, ty, pos, af, none⟩ env yes no = yes := rfl
theorem ev3 (ops : Array Oper) (d : Option Tmp) (op : Op) (ty : TypeId) (pos : String) (af : Array Edge) (j : Nat) (p : Bool) (env : Env) (yes : Prop) (no : Prop) : wantK ops ⟨d, op, ty, pos, af, some (j, p)⟩ env yes no = (letX ((ops[j]?).bind (·.dst)) fun m1' => match m1' with
    | some d => (letX (env d) fun m2' => match m2' with
      | .bool b' => if b' = p then yes else no
      | _ => False)
    | none => False) := by simp only [letX]; exact wantK_ite
theorem ev4 (env : Env) (i : Nat) (v : AV) : putE env (some i) v = upd env i v := rfl
theorem ev5 (env : Env) (v : AV) : putE env none v = env := rfl
theorem ev6 (C : Cx) (env : Env) (i : Nat) : C.ev env (.tmp i) = env i := rfl
theorem ev7 (C : Cx) (env : Env) (c : Value) : C.ev env (.const c) = cst c := rfl
theorem ev8 (C : Cx) (env : Env) (i : Nat) : C.ev env (.global i) = C.gl i := rfl
theorem ev9 (C : Cx) (env : Env) (i : Nat) : C.ev env (.func i) = .fn i [] [] := rfl
theorem ev10 (k : IntKind) (m : Int) : cst (.int k m) = .int k m := rfl
theorem ev11 (p : Bool) : cst (.bool p) = .bool p := rfl
theorem ev12 (s : ByteArray) : cst (.string s) = .str s := rfl
theorem ev13  : cst (.slice none 0 0) = .nils := rfl
theorem ev14  : cst (.pointer none) = .nilp := rfl
theorem ev15  : cst .nilFunc = .nilf := rfl
theorem ev16 (cs : Array Value) : cst (.agg cs) = .agg (cs.toList.map cst1) := rfl
theorem ev17 (k : IntKind) (m : Int) : cst1 (.int k m) = .int k m := rfl
theorem ev18 (p : Bool) : cst1 (.bool p) = .bool p := rfl
theorem ev19 (s : ByteArray) : cst1 (.string s) = .str s := rfl
theorem ev20  : cst1 (.slice none 0 0) = .nils := rfl
theorem ev21  : cst1 (.pointer none) = .nilp := rfl
theorem ev22  : cst1 .nilFunc = .nilf := rfl
theorem ev23 (C : Cx) (mb : Nat → Bool) (d : Option Tmp) (x : Operand) (ty : TypeId) (pos : String) (af : Array Edge) (gd : Option (Nat × Bool)) (ρ : Operand → AV) (G : Heap) (K : AV → Heap → Prop) : stepK C mb ⟨d, .move x, ty, pos, af, gd⟩ ρ G K = (letX (ρ x) fun vx' => K vx' G) := rfl
theorem ev24 (C : Cx) (mb : Nat → Bool) (d : Option Tmp) (x : Operand) (ty : TypeId) (pos : String) (af : Array Edge) (gd : Option (Nat × Bool)) (ρ : Operand → AV) (G : Heap) (K : AV → Heap → Prop) : stepK C mb ⟨d, .assign x, ty, pos, af, gd⟩ ρ G K = (letX (ρ x) fun vx' => K vx' G) := rfl
theorem ev25 (C : Cx) (mb : Nat → Bool) (d : Option Tmp) (x : Operand) (y : Operand) (z : Operand) (ty : TypeId) (pos : String) (af : Array Edge) (gd : Option (Nat × Bool)) (ρ : Operand → AV) (G : Heap) (K : AV → Heap → Prop) : stepK C mb ⟨d, .pick x y z, ty, pos, af, gd⟩ ρ G K = (letX (ρ x) fun vx' => letX (ρ y) fun vy' => letX (ρ z) fun vz' => (match vx' with
    | .bool t => K (if t then vy' else vz') G
    | _ => False)) := rfl
theorem ev26 (C : Cx) (mb : Nat → Bool) (d : Option Tmp) (t : TypeId) (ty : TypeId) (pos : String) (af : Array Edge) (gd : Option (Nat × Bool)) (ρ : Operand → AV) (G : Heap) (K : AV → Heap → Prop) : stepK C mb ⟨d, .alloc t, ty, pos, af, gd⟩ ρ G K = (letX (C.ti t) fun m3' => match m3' with
    | some i => letX i.zs fun z' => letX i.sz fun s' => z'.all AV.isCell = true ∧ K (.ptr G.next 0) (G.push ⟨s', fun j => z'.getD j .undef⟩)
    | none => False) := rfl
theorem ev27 (C : Cx) (mb : Nat → Bool) (d : Option Tmp) (t : TypeId) (x : Operand) (y : Operand) (ty : TypeId) (pos : String) (af : Array Edge) (gd : Option (Nat × Bool)) (ρ : Operand → AV) (G : Heap) (K : AV → Heap → Prop) : stepK C mb ⟨d, .makeSlice t x y, ty, pos, af, gd⟩ ρ G K = (letX (ρ x) fun vx' => letX (ρ y) fun vy' => (letX (C.el t) fun m4' => match m4', vx', vy' with
    | some e, .int _ n, .int _ m => (letX (C.ti e) fun m5' => match m5' with
      | some i => (0 ≤ n ∧ n ≤ m ∧ (i.by' : Int) * m ≤ 140737488355328 ∧ m ≤ 140737488355328 ∧ i.zs.all AV.isCell = true) ∧ K (.sl G.next 0 n.toNat (decide (n = m)) i.sz) (G.push ⟨n.toNat * i.sz, fun j => i.zs.getD (j % i.sz) .undef⟩)
      | none => False)
    | _, _, _ => False)) := rfl
theorem ev28 (C : Cx) (mb : Nat → Bool) (i : Nat) (t : TypeId) (x : Operand) (ty : TypeId) (pos : String) (af : Array Edge) (gd : Option (Nat × Bool)) (ρ : Operand → AV) (G : Heap) (K : AV → Heap → Prop) : stepK C mb ⟨some i, .box t x, ty, pos, af, gd⟩ ρ G K = (letX (ρ x) fun vx' => (letX (mb i) fun m6' => match m6' with
    | true => letX vx'.cells fun c' => c'.all AV.isCell = true ∧ K (.ptr G.next 0) (G.push ⟨c'.length, fun j => c'.getD j .undef⟩)
    | false => letX vx'.cells fun c' => c'.all AV.isCell = true ∧ K (.ref c') G)) := by simp only [letX]; cases h : mb i <;> simp [stepK, isMut, h, newK, immK]
theorem ev29 (C : Cx) (mb : Nat → Bool) (i : Nat) (t : TypeId) (n : Nat) (ps : Array (Nat × Operand)) (ty : TypeId) (pos : String) (af : Array Edge) (gd : Option (Nat × Bool)) (ρ : Operand → AV) (G : Heap) (K : AV → Heap → Prop) : stepK C mb ⟨some i, .buildSlice t n ps, ty, pos, af, gd⟩ ρ G K = (letX (mb i) fun m7' => match m7' with
    | true => elsK C ρ t n ps fun sz cs => K (.sl G.next 0 n true sz) (G.push ⟨n * sz, fun j => cs.getD j .undef⟩)
    | false => (match n with
      | 0 => elsK C ρ t 0 ps fun _ _ => K .nils G
      | n + 1 => elsK C ρ t (n + 1) ps fun sz cs => K (.lst sz (n + 1) fun i => (cs.drop (i * sz)).take sz) G)) := by simp only [letX]; cases h : mb i <;> simp only [stepK, isMut, h, newK, immK] <;> cases n <;> rfl
theorem ev30 (C : Cx) (ρ : Operand → AV) (t : TypeId) (n : Nat) (ps : Array (Nat × Operand)) (KK : Nat → List AV → Prop) : elsK C ρ t n ps KK = (letX (C.el t) fun m8' => match m8' with
    | none => False
    | some e => letX (C.ti e) fun m9' => match m9' with
      | none => False
      | some i => letX i.sz fun s' => letX i.zs fun z' => (n * s' ≤ 16777216 ∧ n ≤ 16777216 ∧ z'.all AV.isCell = true) ∧ letX ps.toList fun p' => letX (n * s') fun n' => partsF C (fun k => some (k * s', s')) ρ p' n' (fun j => z'.getD (j % s') .undef) (KK s')) := by simp only [letX]; exact elsF
theorem ev31 (C : Cx) (mb : Nat → Bool) (d : Option Tmp) (t : TypeId) (x : Operand) (y : Operand) (ty : TypeId) (pos : String) (af : Array Edge) (gd : Option (Nat × Bool)) (ρ : Operand → AV) (G : Heap) (K : AV → Heap → Prop) : stepK C mb ⟨d, .store t x y, ty, pos, af, gd⟩ ρ G K = (letX (ρ x) fun vx' => letX (ρ y) fun vy' => stoK C G t vx' vy' fun G' => K .undef G') := rfl
theorem ev32 (C : Cx) (G : Heap) (t : TypeId) (bb : Nat) (off : Nat) (v : AV) (KH : Heap → Prop) : stoK C G t (.ptr bb off) v KH = (letX (C.ti t) fun m10' => match m10' with
    | none => False
    | some i => (letX (G.get bb) fun m11' => match m11' with
      | some blk => letX v.cells fun c' => letX i.sz fun s' => (c'.length = s' ∧ off + s' ≤ blk.n ∧ c'.all AV.isCell = true) ∧ KH (G.set bb (some ⟨blk.n, setL blk.f off c'⟩))
      | none => False)) := by simp only [letX]; unfold stoK; cases C.ti t <;> rfl
theorem ev33 (C : Cx) (mb : Nat → Bool) (d : Option Tmp) (x : Operand) (y : Operand) (t : TypeId) (u : TypeId) (ty : TypeId) (pos : String) (af : Array Edge) (gd : Option (Nat × Bool)) (ρ : Operand → AV) (G : Heap) (K : AV → Heap → Prop) : stepK C mb ⟨d, .call ⟨.builtin .append, #[x, y], #[t, u]⟩, ty, pos, af, gd⟩ ρ G K = (letX (ρ x) fun vx' => letX (ρ y) fun vy' => appK C G t u vx' vy' K) := rfl
theorem ev34 (C : Cx) (mb : Nat → Bool) (d : Option Tmp) (x : Operand) (t : TypeId) (ty : TypeId) (pos : String) (af : Array Edge) (gd : Option (Nat × Bool)) (ρ : Operand → AV) (G : Heap) (K : AV → Heap → Prop) : stepK C mb ⟨d, .call ⟨.builtin .len, #[x], #[t]⟩, ty, pos, af, gd⟩ ρ G K = (letX (ρ x) fun vx' => (match vx' with
        | .str s => C.isStr t = true ∧ K (.int .i64 s.size) G
        | .mp b => (C.mt t).isSome = true ∧ mapAt G (.mp b) fun b clock born ks vs => K (.int .i64 ks.length) G
        | v => (letX (lenOf v) fun m12' => match m12' with
          | some n => (C.el t).isSome = true ∧ K (.int .i64 n) G
          | none => False))) := by simp only [letX]; exact (show stepK C mb ⟨d, .call ⟨.builtin .len, #[x], #[t]⟩, ty, pos, af, gd⟩ ρ G K = lenK C G ρ ⟨.builtin .len, #[x], #[t]⟩ K from rfl).trans (by show (match ρ x with | .mp b => _ | _ => _) = _; cases h : ρ x <;> simp only [pureK, h] <;> rfl)
theorem ev35 (C : Cx) (mb : Nat → Bool) (d : Option Tmp) (x : Operand) (y : Operand) (t : TypeId) (u : TypeId) (ty : TypeId) (pos : String) (af : Array Edge) (gd : Option (Nat × Bool)) (ρ : Operand → AV) (G : Heap) (K : AV → Heap → Prop) : stepK C mb ⟨d, .call ⟨.builtin .delete, #[x, y], #[t, u]⟩, ty, pos, af, gd⟩ ρ G K = (letX (ρ x) fun vx' => letX (ρ y) fun vy' => delK C G t vx' vy' fun G' => K (.tup []) G') := rfl
theorem ev36 (C : Cx) (mb : Nat → Bool) (d : Option Tmp) (t : TypeId) (ty : TypeId) (pos : String) (af : Array Edge) (gd : Option (Nat × Bool)) (ρ : Operand → AV) (G : Heap) (K : AV → Heap → Prop) : stepK C mb ⟨d, .makeMap t none, ty, pos, af, gd⟩ ρ G K = K (.mp G.next) (G.push ⟨0, fun _ => .mapc 0 [] [] []⟩) := rfl
theorem ev37 (C : Cx) (mb : Nat → Bool) (d : Option Tmp) (t : TypeId) (x : Operand) (y : Operand) (z : Operand) (ty : TypeId) (pos : String) (af : Array Edge) (gd : Option (Nat × Bool)) (ρ : Operand → AV) (G : Heap) (K : AV → Heap → Prop) : stepK C mb ⟨d, .mapUpdate t x y z, ty, pos, af, gd⟩ ρ G K = (letX (ρ x) fun vx' => letX (ρ y) fun vy' => letX (ρ z) fun vz' => updK C G t vx' vy' vz' fun G' => K .undef G') := rfl
theorem ev38 (C : Cx) (mb : Nat → Bool) (d : Option Tmp) (t : TypeId) (x : Operand) (y : Operand) (z : Operand) (ty : TypeId) (pos : String) (af : Array Edge) (gd : Option (Nat × Bool)) (ρ : Operand → AV) (G : Heap) (K : AV → Heap → Prop) : stepK C mb ⟨d, .insert t x y z, ty, pos, af, gd⟩ ρ G K = (letX (ρ x) fun vx' => letX (ρ y) fun vy' => letX (ρ z) fun vz' => updK C G t vx' vy' vz' fun G' => K .undef G') := rfl
theorem ev39 (C : Cx) (mb : Nat → Bool) (d : Option Tmp) (t : TypeId) (x : Operand) (y : Operand) (p : Bool) (ty : TypeId) (pos : String) (af : Array Edge) (gd : Option (Nat × Bool)) (ρ : Operand → AV) (G : Heap) (K : AV → Heap → Prop) : stepK C mb ⟨d, .lookup t x y p, ty, pos, af, gd⟩ ρ G K = (letX (ρ x) fun vx' => letX (ρ y) fun vy' => lookK C G t vx' vy' p fun r => K r G) := rfl
theorem ev40 (C : Cx) (mb : Nat → Bool) (d : Option Tmp) (t : TypeId) (x : Operand) (ty : TypeId) (pos : String) (af : Array Edge) (gd : Option (Nat × Bool)) (ρ : Operand → AV) (G : Heap) (K : AV → Heap → Prop) : stepK C mb ⟨d, .range t x, ty, pos, af, gd⟩ ρ G K = (letX (ρ x) fun vx' => ((C.mt t).isSome = true ∧ mapAt G vx' fun b clock born ks vs => K (.itp G.next) (G.push ⟨0, fun _ => .iterc b clock [] clock⟩))) := rfl
theorem ev41 (C : Cx) (mb : Nat → Bool) (d : Option Tmp) (x : Operand) (ty : TypeId) (pos : String) (af : Array Edge) (gd : Option (Nat × Bool)) (ρ : Operand → AV) (G : Heap) (K : AV → Heap → Prop) : stepK C mb ⟨d, .next x false, ty, pos, af, gd⟩ ρ G K = (letX (ρ x) fun vx' => nextK G vx' K) := rfl
theorem ev42 (C : Cx) (mb : Nat → Bool) (d : Option Tmp) (x : Operand) (ty : TypeId) (pos : String) (af : Array Edge) (gd : Option (Nat × Bool)) (ρ : Operand → AV) (G : Heap) (K : AV → Heap → Prop) : stepK C mb ⟨d, .entry x, ty, pos, af, gd⟩ ρ G K = (letX (ρ x) fun vx' => entryK G vx' fun r => K r G) := rfl
theorem ev43 (G : Heap) (bb : Nat) (KM : Nat → Nat → List Nat → List AV → List AV → Prop) : mapAt G (.mp bb) KM = (letX (G.get bb) fun m13' => match m13' with
    | some blk => (letX (blk.f 0) fun m14' => match m14' with
      | .mapc clock born ks vs => KM bb clock born ks vs
      | _ => False)
    | none => False) := rfl
theorem ev44 (C : Cx) (G : Heap) (t : TypeId) (av : AV) (aw : AV) (ax : AV) (KH : Heap → Prop) : updK C G t av aw ax KH = (letX (C.mt t) fun m15' => match m15' with
  | some q => mapAt G av fun b clock born ks vs => (letX (findK aw ks) fun m16' => match m16' with
    | some r => KeyT C q.1 aw ∧ KH (G.set b (some ⟨0, fun _ => mput clock born ks vs aw ax r⟩))
    | none => False)
  | none => False) := rfl
theorem ev45 (C : Cx) (G : Heap) (t : TypeId) (av : AV) (aw : AV) (KH : Heap → Prop) : delK C G t av aw KH = (letX (C.mt t) fun m17' => match m17' with
  | some q => mapAt G av fun b clock born ks vs => (letX (findK aw ks) fun m18' => match m18' with
    | some r => KeyT C q.1 aw ∧ KH (G.set b (some ⟨0, fun _ => mdel clock born ks vs r⟩))
    | none => False)
  | none => False) := rfl
theorem ev46 (C : Cx) (G : Heap) (t : TypeId) (av : AV) (aw : AV) (p : Bool) (KA : AV → Prop) : lookK C G t av aw p KA = (letX (C.mt t) fun m19' => match m19' with
  | some q => mapAt G av fun b clock born ks vs => (letX (findK aw ks) fun m20' => match m20' with
    | some (some i) => KeyT C q.1 aw ∧ KA (if p then .tup [vs.getD i .undef, .bool true] else vs.getD i .undef)
    | some none => (letX (C.zv q.2) fun m21' => match m21' with
      | some z => KeyT C q.1 aw ∧ KA (if p then .tup [z, .bool false] else z)
      | none => False)
    | none => False)
  | none => False) := rfl
theorem ev47 (G : Heap) (bb : Nat) (K : AV → Heap → Prop) : nextK G (.itp bb) K = (letX (G.get bb) fun m22' => match m22' with
    | some blk => (letX (blk.f 0) fun m23' => match m23' with
      | .iterc b since seen stepped => mapAt G (.mp b) fun _ clock born ks vs => (since = clock ∧ stepped = clock ∧ ∀ x ∈ born, x < clock) ∧ ((∀ x ∈ born, x ∈ seen) → K (.tup [.bool false]) G) ∧
          ∀ i s, born[i]? = some s → ¬ s ∈ seen → K (.tup [.bool true, ks.getD i .undef, vs.getD i .undef]) (G.set bb (some ⟨0, fun _ => .iterc b since (seen ++ [s]) clock⟩))
      | _ => False)
    | none => False) := rfl
theorem ev48 (G : Heap) (bb : Nat) (KA : AV → Prop) : entryK G (.itp bb) KA = (letX (G.get bb) fun m24' => match m24' with
    | some blk => (letX (blk.f 0) fun m25' => match m25' with
      | .iterc b since seen stepped => mapAt G (.mp b) fun _ clock born ks vs => stepped = clock ∧ ∃ s i, seen.getLast? = some s ∧ born[i]? = some s ∧ (∀ j, j < i → born[j]? ≠ some s) ∧ KA (.tup [ks.getD i .undef, vs.getD i .undef])
      | _ => False)
    | none => False) := rfl
theorem ev49 (n : Nat) (nl : List Nat) (vs : List AV) (us : List AV) (av : AV) (aw : AV) : mput n nl vs us av aw none = .mapc (n + 1) (nl ++ [n]) (vs ++ [av]) (us ++ [aw]) := rfl
theorem ev50 (n : Nat) (nl : List Nat) (vs : List AV) (us : List AV) (av : AV) (aw : AV) (i : Nat) : mput n nl vs us av aw (some i) = .mapc n nl vs (us.set i aw) := rfl
theorem ev51 (n : Nat) (nl : List Nat) (vs : List AV) (us : List AV) : mdel n nl vs us none = .mapc n nl vs us := rfl
theorem ev52 (n : Nat) (nl : List Nat) (vs : List AV) (us : List AV) (i : Nat) : mdel n nl vs us (some i) = .mapc n (nl.eraseIdx i) (vs.eraseIdx i) (us.eraseIdx i) := rfl
theorem ev53 (bb : Nat) : AV.cells (.mp bb) = [.mp bb] := rfl
theorem ev54  : AV.cells .nilm = [.nilm] := rfl
theorem ev55 (bb : Nat) : AV.cells (.itp bb) = [.itp bb] := rfl
theorem ev56 (bb : Nat) : AV.isCell (.mp bb) = true := rfl
theorem ev57  : AV.isCell .nilm = true := rfl
theorem ev58 (bb : Nat) : AV.isCell (.itp bb) = true := rfl
theorem ev59 (C : Cx) (mb : Nat → Bool) (d : Option Tmp) (x : Operand) (y : Operand) (t : TypeId) (u : TypeId) (ty : TypeId) (pos : String) (af : Array Edge) (gd : Option (Nat × Bool)) (ρ : Operand → AV) (G : Heap) (K : AV → Heap → Prop) : stepK C mb ⟨d, .call ⟨.builtin .min, #[x, y], #[t, u]⟩, ty, pos, af, gd⟩ ρ G K = (letX (ρ x) fun vx' => letX (ρ y) fun vy' => minmaxK false [vx', vy'] fun r => K r G) := rfl
theorem ev60 (C : Cx) (mb : Nat → Bool) (d : Option Tmp) (x : Operand) (y : Operand) (t : TypeId) (u : TypeId) (ty : TypeId) (pos : String) (af : Array Edge) (gd : Option (Nat × Bool)) (ρ : Operand → AV) (G : Heap) (K : AV → Heap → Prop) : stepK C mb ⟨d, .call ⟨.builtin .max, #[x, y], #[t, u]⟩, ty, pos, af, gd⟩ ρ G K = (letX (ρ x) fun vx' => letX (ρ y) fun vy' => minmaxK true [vx', vy'] fun r => K r G) := rfl
theorem ev61 (k : IntKind) (a : Int) (k' : IntKind) (b : Int) (KA : AV → Prop) : minmaxK false [.int k a, .int k' b] KA = (k = k' ∧ KA (.int k (if b < a then b else a))) := rfl
theorem ev62 (k : IntKind) (a : Int) (k' : IntKind) (b : Int) (KA : AV → Prop) : minmaxK true [.int k a, .int k' b] KA = (k = k' ∧ KA (.int k (if b > a then b else a))) := rfl
theorem ev63 (C : Cx) (mb : Nat → Bool) (d : Option Tmp) (t : TypeId) (ps : Array (Nat × Operand)) (ty : TypeId) (pos : String) (af : Array Edge) (gd : Option (Nat × Bool)) (ρ : Operand → AV) (G : Heap) (K : AV → Heap → Prop) : stepK C mb ⟨d, .build t ps, ty, pos, af, gd⟩ ρ G K = (C.bld t = true ∧ letX (C.ti t) fun m26' => match m26' with
    | some i => letX i.zs fun z' => i.ag = true ∧ letX ps.toList fun p' => letX z'.length fun n' => partsF C (C.place t) ρ p' n' (fun j => z'.getD j .undef) fun cs => K (.agg cs) G
    | none => False) := by simp only [letX]; (show (C.bld t = true ∧ pureK C G ρ (.build t ps) _) = _); simp only [pureK, bldF]; cases C.ti t <;> rfl
theorem ev64 (C : Cx) (mb : Nat → Bool) (d : Option Tmp) (t : TypeId) (x : Operand) (ty : TypeId) (pos : String) (af : Array Edge) (gd : Option (Nat × Bool)) (ρ : Operand → AV) (G : Heap) (K : AV → Heap → Prop) : stepK C mb ⟨d, .load t x, ty, pos, af, gd⟩ ρ G K = (letX (ρ x) fun vx' => (letX (C.ti t) fun m27' => match m27' with
    | some i => letX i.sz fun sz' => letX i.ag fun ag' => rdK G vx' sz' fun cs => mkK ag' cs fun r => K r G
    | none => False)) := rfl
theorem ev65 (C : Cx) (mb : Nat → Bool) (d : Option Tmp) (x : Operand) (ty : TypeId) (pos : String) (af : Array Edge) (gd : Option (Nat × Bool)) (ρ : Operand → AV) (G : Heap) (K : AV → Heap → Prop) : stepK C mb ⟨d, .nilCheck x, ty, pos, af, gd⟩ ρ G K = (letX (ρ x) fun vx' => (match vx' with
    | .ptr b o => K (.ptr b o) G
    | .ref cs => K (.ref cs) G
    | .fn f a b => K (.fn f a b) G
    | _ => False)) := rfl
theorem ev66 (C : Cx) (mb : Nat → Bool) (d : Option Tmp) (bop : BinOp) (t : TypeId) (x : Operand) (y : Operand) (u : TypeId) (ty : TypeId) (pos : String) (af : Array Edge) (gd : Option (Nat × Bool)) (ρ : Operand → AV) (G : Heap) (K : AV → Heap → Prop) : stepK C mb ⟨d, .binOp bop t x y u, ty, pos, af, gd⟩ ρ G K = (letX (ρ x) fun vx' => letX (ρ y) fun vy' => binK C bop t vx' vy' fun r => K r G) := rfl
theorem ev67 (C : Cx) (mb : Nat → Bool) (d : Option Tmp) (uop : UnOp) (t : TypeId) (x : Operand) (ty : TypeId) (pos : String) (af : Array Edge) (gd : Option (Nat × Bool)) (ρ : Operand → AV) (G : Heap) (K : AV → Heap → Prop) : stepK C mb ⟨d, .unOp uop t x, ty, pos, af, gd⟩ ρ G K = (letX (ρ x) fun vx' => unK uop vx' fun r => K r G) := rfl
theorem ev68 (C : Cx) (mb : Nat → Bool) (d : Option Tmp) (t : TypeId) (u : TypeId) (x : Operand) (ty : TypeId) (pos : String) (af : Array Edge) (gd : Option (Nat × Bool)) (ρ : Operand → AV) (G : Heap) (K : AV → Heap → Prop) : stepK C mb ⟨d, .convert t u x, ty, pos, af, gd⟩ ρ G K = (letX (ρ x) fun vx' => (letX (C.ik u) fun m28' => match m28', vx' with
    | some k, .int _ n => (C.P.underlying t).isSome = true ∧ K (.int k (k.wrap n)) G
    | _, _ => False)) := rfl
theorem ev69 (C : Cx) (mb : Nat → Bool) (d : Option Tmp) (i : Nat) (as' : Array Operand) (la : List Operand) (ty : TypeId) (pos : String) (af : Array Edge) (gd : Option (Nat × Bool)) (ρ : Operand → AV) (G : Heap) (K : AV → Heap → Prop) : stepK C mb ⟨d, .makeFunc (.func i) as' ⟨la⟩, ty, pos, af, gd⟩ ρ G K = K (.fn i (as'.toList.map ρ) (la.map ρ)) G := rfl
theorem ev70 (C : Cx) (mb : Nat → Bool) (d : Option Tmp) (t : TypeId) (x : Operand) (lo : Option Operand) (hi : Option Operand) (mx : Option Operand) (ty : TypeId) (pos : String) (af : Array Edge) (gd : Option (Nat × Bool)) (ρ : Operand → AV) (G : Heap) (K : AV → Heap → Prop) : stepK C mb ⟨d, .slice t x lo hi mx, ty, pos, af, gd⟩ ρ G K = (letX (ρ x) fun vx' => sliceK C ρ t vx' lo hi mx fun r => K r G) := rfl
theorem ev71 (C : Cx) (mb : Nat → Bool) (d : Option Tmp) (t : TypeId) (x : Operand) (i : Nat) (ty : TypeId) (pos : String) (af : Array Edge) (gd : Option (Nat × Bool)) (ρ : Operand → AV) (G : Heap) (K : AV → Heap → Prop) : stepK C mb ⟨d, .fieldAddr t x i, ty, pos, af, gd⟩ ρ G K = (letX (ρ x) fun vx' => (letX (C.fd t i) fun m29' => match m29' with
    | some (off, u) => (letX (C.ti u) fun m30' => match m30' with
      | some ti => ti.sz ≠ 0 ∧ (match vx' with
        | .ptr b o => K (.ptr b (o + off)) G
        | .ref cs => K (.ref (cs.drop off)) G
        | _ => False)
      | none => False)
    | none => False)) := rfl
theorem ev72 (C : Cx) (mb : Nat → Bool) (d : Option Tmp) (t : TypeId) (x : Operand) (i : Nat) (ty : TypeId) (pos : String) (af : Array Edge) (gd : Option (Nat × Bool)) (ρ : Operand → AV) (G : Heap) (K : AV → Heap → Prop) : stepK C mb ⟨d, .field t x i, ty, pos, af, gd⟩ ρ G K = (letX (ρ x) fun vx' => (letX (C.fd t i) fun m31' => match m31', vx' with
    | some (off, u), .agg cs => (letX (C.ti u) fun m32' => match m32' with
      | some ti => partK ti off cs fun r => K r G
      | none => False)
    | _, _ => False)) := rfl
theorem ev73 (C : Cx) (mb : Nat → Bool) (d : Option Tmp) (t : TypeId) (x : Operand) (y : Operand) (ty : TypeId) (pos : String) (af : Array Edge) (gd : Option (Nat × Bool)) (ρ : Operand → AV) (G : Heap) (K : AV → Heap → Prop) : stepK C mb ⟨d, .indexAddr t x y, ty, pos, af, gd⟩ ρ G K = (letX (ρ x) fun vx' => letX (ρ y) fun vy' => (match vy' with
    | .int _ i => idxK C t vx' i fun r => K r G
    | _ => False)) := rfl
theorem ev74 (C : Cx) (mb : Nat → Bool) (d : Option Tmp) (t : TypeId) (x : Operand) (y : Operand) (ty : TypeId) (pos : String) (af : Array Edge) (gd : Option (Nat × Bool)) (ρ : Operand → AV) (G : Heap) (K : AV → Heap → Prop) : stepK C mb ⟨d, .index t x y, ty, pos, af, gd⟩ ρ G K = (letX (ρ x) fun vx' => letX (ρ y) fun vy' => (letX (C.ar t) fun m33' => match vy', vx', m33' with
    | .int _ i, .agg cs, some (n, e) => (letX (C.ti e) fun m34' => match m34' with
      | some ti => (0 ≤ i ∧ i < (n : Int)) ∧ partK ti (i.toNat * ti.sz) cs fun r => K r G
      | none => False)
    | _, _, _ => False)) := rfl
theorem ev75 (C : Cx) (mb : Nat → Bool) (d : Option Tmp) (x : Operand) (i : Nat) (ty : TypeId) (pos : String) (af : Array Edge) (gd : Option (Nat × Bool)) (ρ : Operand → AV) (G : Heap) (K : AV → Heap → Prop) : stepK C mb ⟨d, .extract x i, ty, pos, af, gd⟩ ρ G K = (letX (ρ x) fun vx' => (match vx' with
    | .tup vs => (letX (vs[i]?) fun m35' => match m35' with
      | some v => K v G
      | none => False)
    | _ => False)) := rfl
theorem ev76 (G : Heap) (vs : List AV) (sz : Nat) (KL : List AV → Prop) : rdK G (.ref vs) sz KL = (sz ≤ vs.length ∧ letX (vs.take sz) fun l' => KL l') := rfl
theorem ev77 (G : Heap) (bb : Nat) (off : Nat) (sz : Nat) (KL : List AV → Prop) : rdK G (.ptr bb off) sz KL = (letX (G.get bb) fun m36' => match m36' with
    | some blk => off + sz ≤ blk.n ∧ letX (tab sz fun j => blk.f (off + j)) fun l' => KL l'
    | none => False) := rfl
theorem ev78 (vs : List AV) (KA : AV → Prop) : mkK true vs KA = KA (.agg vs) := rfl
theorem ev79 (v : AV) (KA : AV → Prop) : mkK false [v] KA = KA v := rfl
theorem ev80 (C : Cx) (bop : BinOp) (t : TypeId) (k : IntKind) (a : Int) (k' : IntKind) (b : Int) (KA : AV → Prop) : binK C bop t (.int k a) (.int k' b) KA = (k = k' ∧ intOp bop k a b KA) := rfl
theorem ev81 (k : IntKind) (a : Int) (b : Int) (KA : AV → Prop) : intOp .add k a b KA = KA (.int k (k.wrap (a + b))) := rfl
theorem ev82 (k : IntKind) (a : Int) (b : Int) (KA : AV → Prop) : intOp .sub k a b KA = KA (.int k (k.wrap (a - b))) := rfl
theorem ev83 (k : IntKind) (a : Int) (b : Int) (KA : AV → Prop) : intOp .mul k a b KA = KA (.int k (k.wrap (a * b))) := rfl
theorem ev84 (k : IntKind) (a : Int) (b : Int) (KA : AV → Prop) : intOp .quo k a b KA = (b ≠ 0 ∧ KA (.int k (k.wrap (a.tdiv b)))) := rfl
theorem ev85 (k : IntKind) (a : Int) (b : Int) (KA : AV → Prop) : intOp .rem k a b KA = (b ≠ 0 ∧ KA (.int k (a.tmod b))) := rfl
theorem ev86 (k : IntKind) (a : Int) (b : Int) (KA : AV → Prop) : intOp .eql k a b KA = KA (.bool (a == b)) := rfl
theorem ev87 (k : IntKind) (a : Int) (b : Int) (KA : AV → Prop) : intOp .neq k a b KA = KA (.bool (a != b)) := rfl
theorem ev88 (k : IntKind) (a : Int) (b : Int) (KA : AV → Prop) : intOp .lss k a b KA = KA (.bool (decide (a < b))) := rfl
theorem ev89 (k : IntKind) (a : Int) (b : Int) (KA : AV → Prop) : intOp .leq k a b KA = KA (.bool (decide (a ≤ b))) := rfl
theorem ev90 (k : IntKind) (a : Int) (b : Int) (KA : AV → Prop) : intOp .gtr k a b KA = KA (.bool (decide (a > b))) := rfl
theorem ev91 (k : IntKind) (a : Int) (b : Int) (KA : AV → Prop) : intOp .geq k a b KA = KA (.bool (decide (a ≥ b))) := rfl
theorem ev92 (k : IntKind) (a : Int) (b : Int) (KA : AV → Prop) : intOp .and k a b KA = KA (.int k (k.wrap (BitVec.ofInt k.bits a &&& BitVec.ofInt k.bits b).toNat)) := rfl
theorem ev93 (k : IntKind) (a : Int) (b : Int) (KA : AV → Prop) : intOp .xor k a b KA = KA (.int k (k.wrap (BitVec.ofInt k.bits a ^^^ BitVec.ofInt k.bits b).toNat)) := rfl
theorem ev94 (C : Cx) (bop : BinOp) (t : TypeId) (p : Bool) (q : Bool) (KA : AV → Prop) : binK C bop t (.bool p) (.bool q) KA = (C.isBool t = true ∧ eqOp bop (p == q) KA) := rfl
theorem ev95 (C : Cx) (bop : BinOp) (t : TypeId) (vs : List AV) (us : List AV) (KA : AV → Prop) : binK C bop t (.agg vs) (.agg us) KA = (letX (intL vs) fun m37' => letX (intL us) fun m38' => match m37', m38' with
    | some xs, some ys => (AggEq C t xs.length ∧ ys.length = xs.length) ∧ eqOp bop (decide (xs = ys)) KA
    | _, _ => False) := rfl
theorem ev96  : intL [] = some [] := rfl
theorem ev97 (m : Int) (vs : List AV) : intL (.int .i64 m :: vs) = (letX (intL vs) fun m39' => match m39' with
    | some ns => some (m :: ns)
    | none => none) := by simp only [letX]; simp only [intL, intV]; cases intL vs <;> rfl
theorem ev98 (C : Cx) (bop : BinOp) (t : TypeId) (KA : AV → Prop) : binK C bop t .nilf .nilf KA = (C.isFn t = true ∧ eqOp bop true KA) := rfl
theorem ev99 (C : Cx) (bop : BinOp) (t : TypeId) (i : Nat) (vs : List AV) (us : List AV) (KA : AV → Prop) : binK C bop t (.fn i vs us) .nilf KA = (C.isFn t = true ∧ eqOp bop false KA) := rfl
theorem ev100  : ([] : List Int).length = 0 := rfl
theorem ev101 (m : Int) (zl : List Int) : (m :: zl).length = zl.length + 1 := rfl
theorem ev102 (p : Bool) (KA : AV → Prop) : eqOp .eql p KA = KA (.bool p) := rfl
theorem ev103 (p : Bool) (KA : AV → Prop) : eqOp .neq p KA = KA (.bool !p) := rfl
theorem ev104 (C : Cx) (bop : BinOp) (t : TypeId) (KA : AV → Prop) : binK C bop t .nilp .nilp KA = (C.isPtr t = true ∧ eqOp bop true KA) := rfl
theorem ev105 (C : Cx) (bop : BinOp) (t : TypeId) (bb : Nat) (off : Nat) (KA : AV → Prop) : binK C bop t (.ptr bb off) .nilp KA = (C.isPtr t = true ∧ eqOp bop false KA) := rfl
theorem ev106 (C : Cx) (bop : BinOp) (t : TypeId) (vs : List AV) (KA : AV → Prop) : binK C bop t (.ref vs) .nilp KA = (C.isPtr t = true ∧ eqOp bop false KA) := rfl
theorem ev107 (p : Bool) (KA : AV → Prop) : unK .not (.bool p) KA = KA (.bool !p) := rfl
theorem ev108 (k : IntKind) (m : Int) (KA : AV → Prop) : unK .neg (.int k m) KA = KA (.int k (k.wrap (0 - m))) := rfl
theorem ev109 (bb : Nat) (off : Nat) (len : Nat) (p : Bool) (sz : Nat) : lenOf (.sl bb off len p sz) = some len := rfl
theorem ev110 (sz : Nat) (n : Nat) (f : Nat → List AV) : lenOf (.lst sz n f) = some n := rfl
theorem ev111  : lenOf .nils = some 0 := rfl
theorem ev112  : lenOf .emp = some 0 := rfl
theorem ev113 (vs : List AV) : AV.cells (.agg vs) = vs := rfl
theorem ev114 (p : Bool) : AV.cells (.bool p) = [.bool p] := rfl
theorem ev115 (k : IntKind) (m : Int) : AV.cells (.int k m) = [.int k m] := rfl
theorem ev116 (s : ByteArray) : AV.cells (.str s) = [.str s] := rfl
theorem ev117  : AV.cells .nilp = [.nilp] := rfl
theorem ev118 (bb : Nat) (off : Nat) : AV.cells (.ptr bb off) = [.ptr bb off] := rfl
theorem ev119 (vs : List AV) : AV.cells (.ref vs) = [.ref vs] := rfl
theorem ev120  : AV.cells .nils = [.nils] := rfl
theorem ev121  : AV.cells .emp = [.emp] := rfl
theorem ev122 (bb : Nat) (off : Nat) (len : Nat) (p : Bool) (sz : Nat) : AV.cells (.sl bb off len p sz) = [.sl bb off len p sz] := rfl
theorem ev123 (sz : Nat) (n : Nat) (f : Nat → List AV) : AV.cells (.lst sz n f) = [.lst sz n f] := rfl
theorem ev124  : AV.cells .nilf = [.nilf] := rfl
theorem ev125 (g : FuncId) (vs : List AV) (us : List AV) : AV.cells (.fn g vs us) = [.fn g vs us] := rfl
theorem ev126 (p : Bool) : AV.isCell (.bool p) = true := rfl
theorem ev127 (k : IntKind) (m : Int) : AV.isCell (.int k m) = true := rfl
theorem ev128 (s : ByteArray) : AV.isCell (.str s) = true := rfl
theorem ev129  : AV.isCell .nilp = true := rfl
theorem ev130 (bb : Nat) (off : Nat) : AV.isCell (.ptr bb off) = true := rfl
theorem ev131 (vs : List AV) : AV.isCell (.ref vs) = true := rfl
theorem ev132  : AV.isCell .nils = true := rfl
theorem ev133  : AV.isCell .emp = true := rfl
theorem ev134 (bb : Nat) (off : Nat) (len : Nat) (p : Bool) (sz : Nat) : AV.isCell (.sl bb off len p sz) = true := rfl
theorem ev135 (sz : Nat) (n : Nat) (f : Nat → List AV) : AV.isCell (.lst sz n f) = true := rfl
theorem ev136  : AV.isCell .nilf = true := rfl
theorem ev137 (g : FuncId) (vs : List AV) (us : List AV) : AV.isCell (.fn g vs us) = true := rfl
theorem ev138 (C : Cx) (t : TypeId) (bb : Nat) (off : Nat) (len : Nat) (p : Bool) (sz : Nat) (m : Int) (KA : AV → Prop) : idxK C t (.sl bb off len p sz) m KA = (letX (C.el t) fun m40' => match m40' with
    | some e => (letX (C.ti e) fun m41' => match m41' with
      | none => False
      | some ti => sz = ti.sz ∧ (0 ≤ m ∧ m < (len : Int)) ∧ KA (.ptr bb (off + m.toNat * sz)))
    | none => False) := by simp only [letX]; unfold idxK; (cases h : C.el t with | some e => cases h2 : C.ti e <;> simp [h2] | none => cases h3 : C.ar t with | none => rfl | some q => obtain ⟨a, b⟩ := q; cases h4 : C.ti b <;> simp [h4])
theorem ev139 (C : Cx) (t : TypeId) (sz : Nat) (n : Nat) (f : Nat → List AV) (m : Int) (KA : AV → Prop) : idxK C t (.lst sz n f) m KA = (letX (C.el t) fun m42' => match m42' with
    | some e => (letX (C.ti e) fun m43' => match m43' with
      | none => False
      | some ti => sz = ti.sz ∧ (0 ≤ m ∧ m < (n : Int)) ∧ KA (.ref (f m.toNat)))
    | none => False) := by simp only [letX]; unfold idxK; (cases h : C.el t with | some e => cases h2 : C.ti e <;> simp [h2] | none => cases h3 : C.ar t with | none => rfl | some q => obtain ⟨a, b⟩ := q; cases h4 : C.ti b <;> simp [h4])
theorem ev140 (C : Cx) (t : TypeId) (bb : Nat) (off : Nat) (m : Int) (KA : AV → Prop) : idxK C t (.ptr bb off) m KA = (letX (C.el t) fun m44' => match m44' with
    | some e => False
    | none => (letX (C.ar t) fun m45' => match m45' with
      | none => False
      | some (n, e) => (letX (C.ti e) fun m46' => match m46' with
        | none => False
        | some ti => (0 ≤ m ∧ m < (n : Int)) ∧ KA (.ptr bb (off + m.toNat * ti.sz))))) := by simp only [letX]; unfold idxK; (cases h : C.el t with | some e => cases h2 : C.ti e <;> simp [h2] | none => cases h3 : C.ar t with | none => rfl | some q => obtain ⟨a, b⟩ := q; cases h4 : C.ti b <;> simp [h4])
theorem ev141 (C : Cx) (t : TypeId) (vs : List AV) (m : Int) (KA : AV → Prop) : idxK C t (.ref vs) m KA = (letX (C.el t) fun m47' => match m47' with
    | some e => False
    | none => (letX (C.ar t) fun m48' => match m48' with
      | none => False
      | some (n, e) => (letX (C.ti e) fun m49' => match m49' with
        | none => False
        | some ti => (0 ≤ m ∧ m < (n : Int)) ∧ KA (.ref (vs.drop (m.toNat * ti.sz)))))) := by simp only [letX]; unfold idxK; (cases h : C.el t with | some e => cases h2 : C.ti e <;> simp [h2] | none => cases h3 : C.ar t with | none => rfl | some q => obtain ⟨a, b⟩ := q; cases h4 : C.ti b <;> simp [h4])
theorem ev142 (C : Cx) (G : Heap) (env : Env) (KL : List AV → Prop) : resK C G env [] KL = KL [] := rfl
theorem ev143 (C : Cx) (G : Heap) (env : Env) (i : Nat) (rs : List ResultVar) (KL : List AV → Prop) : resK C G env (.tmp i :: rs) KL = letX (env i) fun w' => resK C G env rs fun vs => KL (w' :: vs) := rfl
theorem ev144 (C : Cx) (G : Heap) (env : Env) (i : Nat) (t : TypeId) (rs : List ResultVar) (KL : List AV → Prop) : resK C G env (.cell i t :: rs) KL = (letX (C.ti t) fun m50' => match m50' with
    | some q => letX (env i) fun w' => letX q.sz fun s' => letX q.ag fun a' => rdK G w' s' fun cs => mkK a' cs fun v => resK C G env rs fun vs => KL (v :: vs)
    | none => False) := rfl
theorem ev145 (v : AV) (KA : AV → Prop) : oneK [v] KA = KA v := rfl
theorem ev146 (KA : AV → Prop) : oneK [] KA = KA (.tup []) := rfl
theorem ev147 (av : AV) (aw : AV) (vs : List AV) (KA : AV → Prop) : oneK (av :: aw :: vs) KA = KA (.tup (av :: aw :: vs)) := rfl
theorem ev148 (C : Cx) (place : Nat → Option (Nat × Nat)) (ρ : Operand → AV) (n : Nat) (h : Nat → AV) (KL : List AV → Prop) : partsF C place ρ [] n h KL = letX (tab n h) fun l' => KL l' := rfl
theorem ev149 (C : Cx) (place : Nat → Option (Nat × Nat)) (ρ : Operand → AV) (i : Nat) (x : Operand) (pl : List (Nat × Operand)) (n : Nat) (h : Nat → AV) (KL : List AV → Prop) : partsF C place ρ ((i, x) :: pl) n h KL = (letX (ρ x) fun vx' => (letX (place i) fun m51' => match m51' with
    | none => False
    | some (off, sz) => letX vx'.cells fun c' => c'.length = sz ∧ off + c'.length ≤ n ∧ (c'.all AV.isCell = true) ∧ partsF C place ρ pl n (setL h off c') KL)) := rfl
theorem ev150 (C : Cx) (t : TypeId) (i : Nat) : C.place t i = (letX (C.fd t i) fun m52' => match m52' with
    | some (off, u) => (C.ti u).map fun x => (off, x.sz)
    | none => letX (C.ar t) fun m53' => match m53' with
      | some (_, e) => (C.ti e).map fun x => (i * x.sz, x.sz)
      | none => none) := rfl
theorem ev151 (ti : TI) (i : Nat) (vs : List AV) (KA : AV → Prop) : partK ti i vs KA = (letX (ti.ag) fun m54' => match m54' with
    | true => KA (.agg ((vs.drop i).take ti.sz))
    | false => letX (vs[i]?) fun m55' => match m55' with
      | some c => KA c
      | none => False) := rfl
theorem ev152 (h : Nat → AV) : tab 0 h = [] := rfl
theorem ev153 (h : Nat → AV) : tab 1 h = [h 0] := rfl
theorem ev154 (h : Nat → AV) : tab 2 h = [h 0, h 1] := rfl
theorem ev155 (h : Nat → AV) : tab 3 h = [h 0, h 1, h 2] := rfl
theorem ev156 (h : Nat → AV) : tab 4 h = [h 0, h 1, h 2, h 3] := rfl
theorem ev157 (h : Nat → AV) : tab 6 h = [h 0, h 1, h 2, h 3, h 4, h 5] := rfl
theorem ev158 (h : Nat → AV) (i : Nat) : setL h i [] = h := rfl
theorem ev159 (h : Nat → AV) (i : Nat) (v : AV) (vs : List AV) : setL h i (v :: vs) = upd (setL h (i + 1) vs) i v := rfl
theorem ev160 (G : Heap) (blk : Blk) : (G.push blk).next = G.next + 1 := rfl
theorem ev161 (G : Heap) (blk : Blk) : (G.push blk).get = upd G.get G.next (some blk) := rfl
theorem ev162 (G : Heap) (i : Nat) (ob : Option Blk) : (G.set i ob).next = G.next := rfl
theorem ev163 (G : Heap) (i : Nat) (ob : Option Blk) : (G.set i ob).get = upd G.get i ob := rfl
theorem ev164 (vs : List AV) (i : Nat) : env0 vs i = vs.getD i .undef := rfl
theorem ev165 (h : Nat → AV) (i : Nat) (v : AV) (j : Nat) : upd h i v j = if j = i then v else h j := rfl
theorem ev166 (C : Cx) (mb : Nat → Bool) (ba : Nat) (nn : Nat) (cf : List (Nat × Nat)) (ix : Nat) (acc : List Ent) (d : Option Tmp) (x : Operand) (ty : TypeId) (pos : String) (af : Array Edge) (gd : Option (Nat × Bool)) (ρ : Operand → AV) (G : Heap) (KX : AV → Heap → List Ent → Prop) : stepX C mb ba nn cf ix acc ⟨d, .move x, ty, pos, af, gd⟩ ρ G KX = (letX (ρ x) fun vx' => KX vx' G acc) := rfl
theorem ev167 (C : Cx) (mb : Nat → Bool) (ba : Nat) (nn : Nat) (cf : List (Nat × Nat)) (ix : Nat) (acc : List Ent) (d : Option Tmp) (x : Operand) (ty : TypeId) (pos : String) (af : Array Edge) (gd : Option (Nat × Bool)) (ρ : Operand → AV) (G : Heap) (KX : AV → Heap → List Ent → Prop) : stepX C mb ba nn cf ix acc ⟨d, .assign x, ty, pos, af, gd⟩ ρ G KX = (letX (ρ x) fun vx' => KX vx' G acc) := rfl
theorem ev168 (C : Cx) (mb : Nat → Bool) (ba : Nat) (nn : Nat) (cf : List (Nat × Nat)) (ix : Nat) (acc : List Ent) (d : Option Tmp) (x : Operand) (y : Operand) (z : Operand) (ty : TypeId) (pos : String) (af : Array Edge) (gd : Option (Nat × Bool)) (ρ : Operand → AV) (G : Heap) (KX : AV → Heap → List Ent → Prop) : stepX C mb ba nn cf ix acc ⟨d, .pick x y z, ty, pos, af, gd⟩ ρ G KX = (letX (ρ x) fun vx' => letX (ρ y) fun vy' => letX (ρ z) fun vz' => (match vx' with
    | .bool t => KX (if t then vy' else vz') G acc
    | _ => False)) := rfl
theorem ev169 (C : Cx) (mb : Nat → Bool) (ba : Nat) (nn : Nat) (cf : List (Nat × Nat)) (ix : Nat) (acc : List Ent) (d : Option Tmp) (x : Operand) (t : TypeId) (ty : TypeId) (pos : String) (af : Array Edge) (gd : Option (Nat × Bool)) (ρ : Operand → AV) (G : Heap) (KX : AV → Heap → List Ent → Prop) : stepX C mb ba nn cf ix acc ⟨d, .call ⟨.builtin .len, #[x], #[t]⟩, ty, pos, af, gd⟩ ρ G KX = (letX (ρ x) fun vx' => (match vx' with
        | .str s => C.isStr t = true ∧ KX (.int .i64 s.size) G acc
        | v => (letX (lenOf v) fun m56' => match m56' with
          | some n => (C.el t).isSome = true ∧ KX (.int .i64 n) G acc
          | none => False))) := rfl
theorem ev170 (C : Cx) (mb : Nat → Bool) (ba : Nat) (nn : Nat) (cf : List (Nat × Nat)) (ix : Nat) (acc : List Ent) (d : Option Tmp) (x : Operand) (y : Operand) (t : TypeId) (u : TypeId) (ty : TypeId) (pos : String) (af : Array Edge) (gd : Option (Nat × Bool)) (ρ : Operand → AV) (G : Heap) (KX : AV → Heap → List Ent → Prop) : stepX C mb ba nn cf ix acc ⟨d, .call ⟨.builtin .min, #[x, y], #[t, u]⟩, ty, pos, af, gd⟩ ρ G KX = (letX (ρ x) fun vx' => letX (ρ y) fun vy' => minmaxK false [vx', vy'] fun r => KX r G acc) := rfl
theorem ev171 (C : Cx) (mb : Nat → Bool) (ba : Nat) (nn : Nat) (cf : List (Nat × Nat)) (ix : Nat) (acc : List Ent) (d : Option Tmp) (x : Operand) (y : Operand) (t : TypeId) (u : TypeId) (ty : TypeId) (pos : String) (af : Array Edge) (gd : Option (Nat × Bool)) (ρ : Operand → AV) (G : Heap) (KX : AV → Heap → List Ent → Prop) : stepX C mb ba nn cf ix acc ⟨d, .call ⟨.builtin .max, #[x, y], #[t, u]⟩, ty, pos, af, gd⟩ ρ G KX = (letX (ρ x) fun vx' => letX (ρ y) fun vy' => minmaxK true [vx', vy'] fun r => KX r G acc) := rfl
theorem ev172 (C : Cx) (mb : Nat → Bool) (ba : Nat) (nn : Nat) (cf : List (Nat × Nat)) (ix : Nat) (acc : List Ent) (d : Option Tmp) (t : TypeId) (ps : Array (Nat × Operand)) (ty : TypeId) (pos : String) (af : Array Edge) (gd : Option (Nat × Bool)) (ρ : Operand → AV) (G : Heap) (KX : AV → Heap → List Ent → Prop) : stepX C mb ba nn cf ix acc ⟨d, .build t ps, ty, pos, af, gd⟩ ρ G KX = (C.bld t = true ∧ letX (C.ti t) fun m57' => match m57' with
    | some i => letX i.zs fun z' => i.ag = true ∧ letX ps.toList fun p' => letX z'.length fun n' => partsF C (C.place t) ρ p' n' (fun j => z'.getD j .undef) fun cs => KX (.agg cs) G acc
    | none => False) := by simp only [letX]; (show (C.bld t = true ∧ pureK C G ρ (.build t ps) _) = _); simp only [pureK, bldF]; cases C.ti t <;> rfl
theorem ev173 (C : Cx) (mb : Nat → Bool) (ba : Nat) (nn : Nat) (cf : List (Nat × Nat)) (ix : Nat) (acc : List Ent) (d : Option Tmp) (x : Operand) (ty : TypeId) (pos : String) (af : Array Edge) (gd : Option (Nat × Bool)) (ρ : Operand → AV) (G : Heap) (KX : AV → Heap → List Ent → Prop) : stepX C mb ba nn cf ix acc ⟨d, .nilCheck x, ty, pos, af, gd⟩ ρ G KX = (letX (ρ x) fun vx' => (match vx' with
    | .ptr b o => KX (.ptr b o) G acc
    | .ref cs => KX (.ref cs) G acc
    | .fn f a b => KX (.fn f a b) G acc
    | _ => False)) := rfl
theorem ev174 (C : Cx) (mb : Nat → Bool) (ba : Nat) (nn : Nat) (cf : List (Nat × Nat)) (ix : Nat) (acc : List Ent) (d : Option Tmp) (bop : BinOp) (t : TypeId) (x : Operand) (y : Operand) (u : TypeId) (ty : TypeId) (pos : String) (af : Array Edge) (gd : Option (Nat × Bool)) (ρ : Operand → AV) (G : Heap) (KX : AV → Heap → List Ent → Prop) : stepX C mb ba nn cf ix acc ⟨d, .binOp bop t x y u, ty, pos, af, gd⟩ ρ G KX = (letX (ρ x) fun vx' => letX (ρ y) fun vy' => binK C bop t vx' vy' fun r => KX r G acc) := rfl
theorem ev175 (C : Cx) (mb : Nat → Bool) (ba : Nat) (nn : Nat) (cf : List (Nat × Nat)) (ix : Nat) (acc : List Ent) (d : Option Tmp) (uop : UnOp) (t : TypeId) (x : Operand) (ty : TypeId) (pos : String) (af : Array Edge) (gd : Option (Nat × Bool)) (ρ : Operand → AV) (G : Heap) (KX : AV → Heap → List Ent → Prop) : stepX C mb ba nn cf ix acc ⟨d, .unOp uop t x, ty, pos, af, gd⟩ ρ G KX = (letX (ρ x) fun vx' => unK uop vx' fun r => KX r G acc) := rfl
theorem ev176 (C : Cx) (mb : Nat → Bool) (ba : Nat) (nn : Nat) (cf : List (Nat × Nat)) (ix : Nat) (acc : List Ent) (d : Option Tmp) (t : TypeId) (u : TypeId) (x : Operand) (ty : TypeId) (pos : String) (af : Array Edge) (gd : Option (Nat × Bool)) (ρ : Operand → AV) (G : Heap) (KX : AV → Heap → List Ent → Prop) : stepX C mb ba nn cf ix acc ⟨d, .convert t u x, ty, pos, af, gd⟩ ρ G KX = (letX (ρ x) fun vx' => (letX (C.ik u) fun m58' => match m58', vx' with
    | some k, .int _ n => (C.P.underlying t).isSome = true ∧ KX (.int k (k.wrap n)) G acc
    | _, _ => False)) := rfl
theorem ev177 (C : Cx) (mb : Nat → Bool) (ba : Nat) (nn : Nat) (cf : List (Nat × Nat)) (ix : Nat) (acc : List Ent) (d : Option Tmp) (i : Nat) (as' : Array Operand) (la : List Operand) (ty : TypeId) (pos : String) (af : Array Edge) (gd : Option (Nat × Bool)) (ρ : Operand → AV) (G : Heap) (KX : AV → Heap → List Ent → Prop) : stepX C mb ba nn cf ix acc ⟨d, .makeFunc (.func i) as' ⟨la⟩, ty, pos, af, gd⟩ ρ G KX = KX (.fn i (as'.toList.map ρ) (la.map ρ)) G acc := rfl
theorem ev178 (C : Cx) (mb : Nat → Bool) (ba : Nat) (nn : Nat) (cf : List (Nat × Nat)) (ix : Nat) (acc : List Ent) (d : Option Tmp) (t : TypeId) (x : Operand) (lo : Option Operand) (hi : Option Operand) (mx : Option Operand) (ty : TypeId) (pos : String) (af : Array Edge) (gd : Option (Nat × Bool)) (ρ : Operand → AV) (G : Heap) (KX : AV → Heap → List Ent → Prop) : stepX C mb ba nn cf ix acc ⟨d, .slice t x lo hi mx, ty, pos, af, gd⟩ ρ G KX = (letX (ρ x) fun vx' => sliceK C ρ t vx' lo hi mx fun r => KX r G acc) := rfl
theorem ev179 (C : Cx) (mb : Nat → Bool) (ba : Nat) (nn : Nat) (cf : List (Nat × Nat)) (ix : Nat) (acc : List Ent) (d : Option Tmp) (t : TypeId) (x : Operand) (i : Nat) (ty : TypeId) (pos : String) (af : Array Edge) (gd : Option (Nat × Bool)) (ρ : Operand → AV) (G : Heap) (KX : AV → Heap → List Ent → Prop) : stepX C mb ba nn cf ix acc ⟨d, .fieldAddr t x i, ty, pos, af, gd⟩ ρ G KX = (letX (ρ x) fun vx' => (letX (C.fd t i) fun m59' => match m59' with
    | some (off, u) => (letX (C.ti u) fun m60' => match m60' with
      | some ti => ti.sz ≠ 0 ∧ (match vx' with
        | .ptr b o => KX (.ptr b (o + off)) G acc
        | .ref cs => KX (.ref (cs.drop off)) G acc
        | _ => False)
      | none => False)
    | none => False)) := rfl
theorem ev180 (C : Cx) (mb : Nat → Bool) (ba : Nat) (nn : Nat) (cf : List (Nat × Nat)) (ix : Nat) (acc : List Ent) (d : Option Tmp) (t : TypeId) (x : Operand) (i : Nat) (ty : TypeId) (pos : String) (af : Array Edge) (gd : Option (Nat × Bool)) (ρ : Operand → AV) (G : Heap) (KX : AV → Heap → List Ent → Prop) : stepX C mb ba nn cf ix acc ⟨d, .field t x i, ty, pos, af, gd⟩ ρ G KX = (letX (ρ x) fun vx' => (letX (C.fd t i) fun m61' => match m61', vx' with
    | some (off, u), .agg cs => (letX (C.ti u) fun m62' => match m62' with
      | some ti => partK ti off cs fun r => KX r G acc
      | none => False)
    | _, _ => False)) := rfl
theorem ev181 (C : Cx) (mb : Nat → Bool) (ba : Nat) (nn : Nat) (cf : List (Nat × Nat)) (ix : Nat) (acc : List Ent) (d : Option Tmp) (t : TypeId) (x : Operand) (y : Operand) (ty : TypeId) (pos : String) (af : Array Edge) (gd : Option (Nat × Bool)) (ρ : Operand → AV) (G : Heap) (KX : AV → Heap → List Ent → Prop) : stepX C mb ba nn cf ix acc ⟨d, .indexAddr t x y, ty, pos, af, gd⟩ ρ G KX = (letX (ρ x) fun vx' => letX (ρ y) fun vy' => (match vy' with
    | .int _ i => idxK C t vx' i fun r => KX r G acc
    | _ => False)) := rfl
theorem ev182 (C : Cx) (mb : Nat → Bool) (ba : Nat) (nn : Nat) (cf : List (Nat × Nat)) (ix : Nat) (acc : List Ent) (d : Option Tmp) (t : TypeId) (x : Operand) (y : Operand) (ty : TypeId) (pos : String) (af : Array Edge) (gd : Option (Nat × Bool)) (ρ : Operand → AV) (G : Heap) (KX : AV → Heap → List Ent → Prop) : stepX C mb ba nn cf ix acc ⟨d, .index t x y, ty, pos, af, gd⟩ ρ G KX = (letX (ρ x) fun vx' => letX (ρ y) fun vy' => (letX (C.ar t) fun m63' => match vy', vx', m63' with
    | .int _ i, .agg cs, some (n, e) => (letX (C.ti e) fun m64' => match m64' with
      | some ti => (0 ≤ i ∧ i < (n : Int)) ∧ partK ti (i.toNat * ti.sz) cs fun r => KX r G acc
      | none => False)
    | _, _, _ => False)) := rfl
theorem ev183 (C : Cx) (mb : Nat → Bool) (ba : Nat) (nn : Nat) (cf : List (Nat × Nat)) (ix : Nat) (acc : List Ent) (d : Option Tmp) (x : Operand) (i : Nat) (ty : TypeId) (pos : String) (af : Array Edge) (gd : Option (Nat × Bool)) (ρ : Operand → AV) (G : Heap) (KX : AV → Heap → List Ent → Prop) : stepX C mb ba nn cf ix acc ⟨d, .extract x i, ty, pos, af, gd⟩ ρ G KX = (letX (ρ x) fun vx' => (match vx' with
    | .tup vs => (letX (vs[i]?) fun m65' => match m65' with
      | some v => KX v G acc
      | none => False)
    | _ => False)) := rfl
theorem ev184 (C : Cx) (mb : Nat → Bool) (ba : Nat) (nn : Nat) (cf : List (Nat × Nat)) (ix : Nat) (acc : List Ent) (d : Option Tmp) (t : TypeId) (ty : TypeId) (pos : String) (af : Array Edge) (gd : Option (Nat × Bool)) (ρ : Operand → AV) (G : Heap) (KX : AV → Heap → List Ent → Prop) : stepX C mb ba nn cf ix acc ⟨d, .alloc t, ty, pos, af, gd⟩ ρ G KX = (letX (C.ti t) fun m66' => match m66' with
    | some i => i.zs.all AV.isCell = true ∧ KX (.ptr (ba + ix) 0) (G.set (ba + ix) (some ⟨i.sz, fun j => i.zs.getD j .undef⟩)) acc
    | none => False) := rfl
theorem ev185 (C : Cx) (mb : Nat → Bool) (ba : Nat) (nn : Nat) (cf : List (Nat × Nat)) (ix : Nat) (acc : List Ent) (d : Option Tmp) (t : TypeId) (x : Operand) (y : Operand) (ty : TypeId) (pos : String) (af : Array Edge) (gd : Option (Nat × Bool)) (ρ : Operand → AV) (G : Heap) (KX : AV → Heap → List Ent → Prop) : stepX C mb ba nn cf ix acc ⟨d, .makeSlice t x y, ty, pos, af, gd⟩ ρ G KX = (letX (ρ x) fun vx' => letX (ρ y) fun vy' => (letX (C.el t) fun m67' => match m67', vx', vy' with
    | some e, .int _ n, .int _ m => (letX (C.ti e) fun m68' => match m68' with
      | some i => (0 ≤ n ∧ n ≤ m ∧ (i.by' : Int) * m ≤ 140737488355328 ∧ m ≤ 140737488355328 ∧ i.zs.all AV.isCell = true) ∧ KX (.sl (ba + ix) 0 n.toNat (decide (n = m)) i.sz) (G.set (ba + ix) (some ⟨n.toNat * i.sz, fun j => i.zs.getD (j % i.sz) .undef⟩)) acc
      | none => False)
    | _, _, _ => False)) := rfl
theorem ev186 (C : Cx) (mb : Nat → Bool) (ba : Nat) (nn : Nat) (cf : List (Nat × Nat)) (ix : Nat) (acc : List Ent) (i : Nat) (t : TypeId) (x : Operand) (ty : TypeId) (pos : String) (af : Array Edge) (gd : Option (Nat × Bool)) (ρ : Operand → AV) (G : Heap) (KX : AV → Heap → List Ent → Prop) : stepX C mb ba nn cf ix acc ⟨some i, .box t x, ty, pos, af, gd⟩ ρ G KX = (letX (ρ x) fun vx' => (letX (mb i) fun m69' => match m69' with
    | true => vx'.cells.all AV.isCell = true ∧ KX (.ptr (ba + ix) 0) (G.set (ba + ix) (some ⟨vx'.cells.length, fun j => vx'.cells.getD j .undef⟩)) acc
    | false => vx'.cells.all AV.isCell = true ∧ KX (.ref vx'.cells) G acc)) := by simp only [letX]; cases h : mb i <;> simp [stepX, isMut, h, newK, immK]
theorem ev187 (C : Cx) (mb : Nat → Bool) (ba : Nat) (nn : Nat) (cf : List (Nat × Nat)) (ix : Nat) (acc : List Ent) (i : Nat) (t : TypeId) (n : Nat) (ps : Array (Nat × Operand)) (ty : TypeId) (pos : String) (af : Array Edge) (gd : Option (Nat × Bool)) (ρ : Operand → AV) (G : Heap) (KX : AV → Heap → List Ent → Prop) : stepX C mb ba nn cf ix acc ⟨some i, .buildSlice t n ps, ty, pos, af, gd⟩ ρ G KX = (letX (mb i) fun m70' => match m70' with
    | true => elsK C ρ t n ps fun sz cs => KX (.sl (ba + ix) 0 n true sz) (G.set (ba + ix) (some ⟨n * sz, fun j => cs.getD j .undef⟩)) acc
    | false => (match n with
      | 0 => elsK C ρ t 0 ps fun _ _ => KX .nils G acc
      | n + 1 => elsK C ρ t (n + 1) ps fun sz cs => KX (.lst sz (n + 1) fun i => (cs.drop (i * sz)).take sz) G acc)) := by simp only [letX]; cases h : mb i <;> simp only [stepX, isMut, h, newK, immK] <;> cases n <;> rfl
theorem ev188 (C : Cx) (mb : Nat → Bool) (ba : Nat) (nn : Nat) (cf : List (Nat × Nat)) (ix : Nat) (acc : List Ent) (d : Option Tmp) (t : TypeId) (x : Operand) (y : Operand) (ty : TypeId) (pos : String) (af : Array Edge) (gd : Option (Nat × Bool)) (ρ : Operand → AV) (G : Heap) (KX : AV → Heap → List Ent → Prop) : stepX C mb ba nn cf ix acc ⟨d, .store t x y, ty, pos, af, gd⟩ ρ G KX = (letX (ρ x) fun vx' => letX (ρ y) fun vy' => stoK C G t vx' vy' fun G' => efC cf ix G G' acc ∧ KX .undef G' (.ef ix G :: acc)) := rfl
theorem ev189 (C : Cx) (mb : Nat → Bool) (ba : Nat) (nn : Nat) (cf : List (Nat × Nat)) (ix : Nat) (acc : List Ent) (d : Option Tmp) (x : Operand) (y : Operand) (t : TypeId) (u : TypeId) (ty : TypeId) (pos : String) (af : Array Edge) (gd : Option (Nat × Bool)) (ρ : Operand → AV) (G : Heap) (KX : AV → Heap → List Ent → Prop) : stepX C mb ba nn cf ix acc ⟨d, .call ⟨.builtin .append, #[x, y], #[t, u]⟩, ty, pos, af, gd⟩ ρ G KX = (letX (ρ x) fun vx' => letX (ρ y) fun vy' => appK C G t u vx' vy' fun r G' => efC cf ix G G' acc ∧ KX r G' (.ef ix G :: acc)) := rfl
theorem ev190 (C : Cx) (mb : Nat → Bool) (ba : Nat) (nn : Nat) (cf : List (Nat × Nat)) (ix : Nat) (acc : List Ent) (d : Option Tmp) (t : TypeId) (x : Operand) (ty : TypeId) (pos : String) (af : Array Edge) (gd : Option (Nat × Bool)) (ρ : Operand → AV) (G : Heap) (KX : AV → Heap → List Ent → Prop) : stepX C mb ba nn cf ix acc ⟨d, .load t x, ty, pos, af, gd⟩ ρ G KX = (letX (ρ x) fun vx' => (letX (C.ti t) fun m71' => match m71' with
    | some i => letX i.sz fun sz' => letX i.ag fun ag' => rdK G vx' sz' fun cs => mkK ag' cs fun r => ldC cf ba nn ix G vx' sz' acc ∧ KX r G (.ld ix vx' sz' :: acc)
    | none => False)) := rfl
theorem ev191 (C : Cx) (mb : Nat → Bool) (ba : Nat) (nn : Nat) (cf : List (Nat × Nat)) (ops : Array Oper) (ix : Nat) (env : Env) (G : Heap) (acc : List Ent) (KE : Env → Heap → Prop) : runX C mb ba nn cf ops ix [] env G acc KE = KE env G := rfl
theorem ev192 (C : Cx) (mb : Nat → Bool) (ba : Nat) (nn : Nat) (cf : List (Nat × Nat)) (ops : Array Oper) (ix : Nat) (o : Oper) (rest : List Oper) (env : Env) (G : Heap) (acc : List Ent) (KE : Env → Heap → Prop) : runX C mb ba nn cf ops ix (o :: rest) env G acc KE = wantK ops o env (stepRX C mb ba nn cf ops ix rest o env G acc KE) (runX C mb ba nn cf ops (ix + 1) rest (putE env o.dst .undef) G acc KE) := rfl
theorem ev193 (cf : List (Nat × Nat)) (ix : Nat) (G : Heap) (H : Heap) : efC cf ix G H [] = True := rfl
theorem ev194 (cf : List (Nat × Nat)) (ix : Nat) (G : Heap) (H : Heap) (ll : Nat) (av : AV) (sz : Nat) (acc : List Ent) : efC cf ix G H (.ld ll av sz :: acc) = ((if cf.contains (ll, ix) = true then rdSame G H av sz else True) ∧ efC cf ix G H acc) := rfl
theorem ev195 (cf : List (Nat × Nat)) (ix : Nat) (G : Heap) (H : Heap) (ll : Nat) (H2 : Heap) (acc : List Ent) : efC cf ix G H (.ef ll H2 :: acc) = efC cf ix G H acc := rfl
theorem ev196 (cf : List (Nat × Nat)) (ba : Nat) (nn : Nat) (ix : Nat) (G : Heap) (av : AV) (sz : Nat) : ldC cf ba nn ix G av sz [] = True := rfl
theorem ev197 (cf : List (Nat × Nat)) (ba : Nat) (nn : Nat) (ix : Nat) (G : Heap) (av : AV) (sz : Nat) (ll : Nat) (H : Heap) (acc : List Ent) : ldC cf ba nn ix G av sz (.ef ll H :: acc) = ((if cf.contains (ix, ll) = true then rdBack (ba + ll) (ba + nn) H G av sz else True) ∧ ldC cf ba nn ix G av sz acc) := rfl
theorem ev198 (cf : List (Nat × Nat)) (ba : Nat) (nn : Nat) (ix : Nat) (G : Heap) (av : AV) (sz : Nat) (ll : Nat) (aw : AV) (s2 : Nat) (acc : List Ent) : ldC cf ba nn ix G av sz (.ld ll aw s2 :: acc) = ldC cf ba nn ix G av sz acc := rfl
theorem ev199 (G : Heap) (H : Heap) (vs : List AV) (sz : Nat) : rdSame G H (.ref vs) sz = True := rfl
theorem ev200 (G : Heap) (H : Heap) (bb : Nat) (off : Nat) (sz : Nat) : rdSame G H (.ptr bb off) sz = (letX (G.get bb) fun m72' => letX (H.get bb) fun m73' => match m72', m73' with
  | none, _ => True
  | some k1, none => ¬ (off + sz ≤ k1.n)
  | some k1, some k2 => ∀ KL : List AV → Prop, (off + sz ≤ k1.n ∧ KL (tab sz fun j => k1.f (off + j))) → (off + sz ≤ k2.n ∧ KL (tab sz fun j => k2.f (off + j)))) := by simp only [letX]; cases h1 : G.get bb <;> cases h2 : H.get bb <;> simp [rdSame, rdK, h1, h2] <;> exact ⟨fun h => Nat.lt_of_not_le fun hle => h (fun _ => True) hle trivial, fun h KL hle => by omega⟩
theorem ev201 (lo2 : Nat) (hi2 : Nat) (G : Heap) (H : Heap) (vs : List AV) (sz : Nat) : rdBack lo2 hi2 G H (.ref vs) sz = True := rfl
theorem ev202 (lo2 : Nat) (hi2 : Nat) (G : Heap) (H : Heap) (bb : Nat) (off : Nat) (sz : Nat) : rdBack lo2 hi2 G H (.ptr bb off) sz = (letX (G.get bb) fun m74' => letX (H.get bb) fun m75' => match m74', m75' with
  | none, _ => lo2 < bb ∧ bb < hi2
  | some _, none => True
  | some k2, some k1 => ∀ KL : List AV → Prop, (off + sz ≤ k1.n ∧ KL (tab sz fun j => k1.f (off + j))) → (off + sz ≤ k2.n ∧ KL (tab sz fun j => k2.f (off + j)))) := by simp only [letX]; cases h1 : G.get bb <;> cases h2 : H.get bb <;> simp [rdBack, rdK, h1, h2]
theorem ev203 (ba : Nat) (nn : Nat) (G : Heap) : Keeps ba nn G G = True := eq_true (Keeps.refl ..)
theorem ev204 (i : Nat) : envL [] i = .undef := rfl
theorem ev205 (j : Nat) (v : AV) (el : List (Nat × AV)) (i : Nat) : envL ((j, v) :: el) i = if i = j then v else envL el i := rfl
theorem ev206 (env : Env) : keepL env [] = [] := rfl
theorem ev207 (env : Env) (i : Nat) (nl : List Nat) : keepL env (i :: nl) = (i, env i) :: keepL env nl := rfl
theorem ev208 (n : Nat) : numL n [] = [] := rfl
theorem ev209 (n : Nat) (v : AV) (vs : List AV) : numL n (v :: vs) = (n, v) :: numL (n + 1) vs := rfl
theorem ev210 (av : AV) (vs : List AV) (aw : AV) : List.getD (av :: vs) 0 aw = av := rfl
theorem ev211 (av : AV) (vs : List AV) (i : Nat) (aw : AV) : List.getD (av :: vs) (i + 1) aw = vs.getD i aw := rfl
theorem ev212 (yes : Prop) : (True ∧ yes) = yes := by simp
theorem ev213 (yes : Prop) : (yes ∧ True) = yes := by simp
theorem ev214 (yes : Prop) : (True → yes) = yes := by simp
theorem ev215 (yes : Prop) : (False → yes) = True := by simp
theorem ev216 (av : AV) (vs : List AV) : List.length (av :: vs) = vs.length + 1 := rfl
theorem ev217  : List.length ([] : List AV) = 0 := rfl
theorem ev218 (av : AV) (vs : List AV) : (av :: vs).all AV.isCell = (av.isCell && vs.all AV.isCell) := rfl
theorem ev219  : ([] : List AV).all AV.isCell = true := rfl
theorem ev220 (p : Bool) : (true && p) = p := by simp
theorem ev221 (p : Bool) : (p && true) = p := by simp
theorem ev222 (n : Nat) : 0 + n = n := by simp
theorem ev223 (n : Nat) : n * 1 = n := by simp
theorem ev224 (n : Nat) : ((n : Int)).toNat = n := by simp
theorem ev225 (av : AV) (vs : List AV) (n : Nat) : (av :: vs).take (n + 1) = av :: vs.take n := rfl
theorem ev226 (vs : List AV) : vs.take 0 = [] := rfl
theorem ev227 (av : AV) (vs : List AV) (n : Nat) : (av :: vs).drop (n + 1) = vs.drop n := rfl
theorem ev228 (vs : List AV) : vs.drop 0 = vs := rfl
theorem ev229 (n : Nat) : ([] : List AV).drop n = [] := by cases n <;> rfl
theorem ev230 (n : Nat) : ([] : List AV).take n = [] := by cases n <;> rfl
theorem ev231 (av : AV) (vs : List AV) (us : List AV) : (av :: vs) ++ us = av :: (vs ++ us) := rfl
theorem ev232 (us : List AV) : ([] : List AV) ++ us = us := rfl
theorem ev233 (C : Cx) (bop : BinOp) (t : TypeId) (s : ByteArray) (s3 : ByteArray) (KA : AV → Prop) : binK C bop t (.str s) (.str s3) KA = strOp bop s s3 KA := rfl
theorem ev234 (s : ByteArray) (s3 : ByteArray) (KA : AV → Prop) : strOp .eql s s3 KA = KA (.bool (s.toList == s3.toList)) := rfl
theorem ev235 (s : ByteArray) (s3 : ByteArray) (KA : AV → Prop) : strOp .neq s s3 KA = KA (.bool !(s.toList == s3.toList)) := rfl
theorem ev236 (hb : Nat → Option Blk) (i : Nat) (ob : Option Blk) (j : Nat) : upd hb i ob j = if j = i then ob else hb j := rfl
theorem ev237 (fm : TI → Nat × Nat) (ti : TI) : Option.map fm (some ti) = some (fm ti) := rfl
theorem ev238 (fm : TI → Nat × Nat) : Option.map fm none = none := rfl
theorem ev239 (n : Nat) : n + 0 = n := rfl
theorem ev240 (n : Nat) (h : Nat → AV) : tab (n + 1) h = h 0 :: tab n fun j => h (j + 1) := rfl
theorem ev241 (C : Cx) (mb : Nat → Bool) (ops : Array Oper) (rest : List Oper) (d : Option Tmp) (x : Operand) (ty : TypeId) (pos : String) (af : Array Edge) (gd : Option (Nat × Bool)) (env : Env) (G : Heap) (KE : Env → Heap → Prop) : stepR C mb ops rest ⟨d, .move x, ty, pos, af, gd⟩ env G KE = stepK C mb ⟨d, .move x, ty, pos, af, gd⟩ (C.ev env) G fun r G' => letX r fun v' => runOps C mb ops rest (putE env d v') G' KE := rfl
theorem ev242 (C : Cx) (mb : Nat → Bool) (ops : Array Oper) (rest : List Oper) (d : Option Tmp) (x : Operand) (ty : TypeId) (pos : String) (af : Array Edge) (gd : Option (Nat × Bool)) (env : Env) (G : Heap) (KE : Env → Heap → Prop) : stepR C mb ops rest ⟨d, .assign x, ty, pos, af, gd⟩ env G KE = stepK C mb ⟨d, .assign x, ty, pos, af, gd⟩ (C.ev env) G fun r G' => letX r fun v' => runOps C mb ops rest (putE env d v') G' KE := rfl
theorem ev243 (C : Cx) (mb : Nat → Bool) (ops : Array Oper) (rest : List Oper) (d : Option Tmp) (x : Operand) (y : Operand) (z : Operand) (ty : TypeId) (pos : String) (af : Array Edge) (gd : Option (Nat × Bool)) (env : Env) (G : Heap) (KE : Env → Heap → Prop) : stepR C mb ops rest ⟨d, .pick x y z, ty, pos, af, gd⟩ env G KE = stepK C mb ⟨d, .pick x y z, ty, pos, af, gd⟩ (C.ev env) G fun r G' => letX r fun v' => runOps C mb ops rest (putE env d v') G' KE := rfl
theorem ev244 (C : Cx) (mb : Nat → Bool) (ops : Array Oper) (rest : List Oper) (d : Option Tmp) (t : TypeId) (ty : TypeId) (pos : String) (af : Array Edge) (gd : Option (Nat × Bool)) (env : Env) (G : Heap) (KE : Env → Heap → Prop) : stepR C mb ops rest ⟨d, .alloc t, ty, pos, af, gd⟩ env G KE = stepK C mb ⟨d, .alloc t, ty, pos, af, gd⟩ (C.ev env) G fun r G' => letX r fun v' => runOps C mb ops rest (putE env d v') G' KE := rfl
theorem ev245 (C : Cx) (mb : Nat → Bool) (ops : Array Oper) (rest : List Oper) (d : Option Tmp) (t : TypeId) (x : Operand) (y : Operand) (ty : TypeId) (pos : String) (af : Array Edge) (gd : Option (Nat × Bool)) (env : Env) (G : Heap) (KE : Env → Heap → Prop) : stepR C mb ops rest ⟨d, .makeSlice t x y, ty, pos, af, gd⟩ env G KE = stepK C mb ⟨d, .makeSlice t x y, ty, pos, af, gd⟩ (C.ev env) G fun r G' => letX r fun v' => runOps C mb ops rest (putE env d v') G' KE := rfl
theorem ev246 (C : Cx) (mb : Nat → Bool) (ops : Array Oper) (rest : List Oper) (i : Nat) (t : TypeId) (x : Operand) (ty : TypeId) (pos : String) (af : Array Edge) (gd : Option (Nat × Bool)) (env : Env) (G : Heap) (KE : Env → Heap → Prop) : stepR C mb ops rest ⟨some i, .box t x, ty, pos, af, gd⟩ env G KE = stepK C mb ⟨some i, .box t x, ty, pos, af, gd⟩ (C.ev env) G fun r G' => letX r fun v' => runOps C mb ops rest (putE env (some i) v') G' KE := rfl
theorem ev247 (C : Cx) (mb : Nat → Bool) (ops : Array Oper) (rest : List Oper) (i : Nat) (t : TypeId) (n : Nat) (ps : Array (Nat × Operand)) (ty : TypeId) (pos : String) (af : Array Edge) (gd : Option (Nat × Bool)) (env : Env) (G : Heap) (KE : Env → Heap → Prop) : stepR C mb ops rest ⟨some i, .buildSlice t n ps, ty, pos, af, gd⟩ env G KE = stepK C mb ⟨some i, .buildSlice t n ps, ty, pos, af, gd⟩ (C.ev env) G fun r G' => letX r fun v' => runOps C mb ops rest (putE env (some i) v') G' KE := rfl
theorem ev248 (C : Cx) (mb : Nat → Bool) (ops : Array Oper) (rest : List Oper) (d : Option Tmp) (t : TypeId) (x : Operand) (y : Operand) (ty : TypeId) (pos : String) (af : Array Edge) (gd : Option (Nat × Bool)) (env : Env) (G : Heap) (KE : Env → Heap → Prop) : stepR C mb ops rest ⟨d, .store t x y, ty, pos, af, gd⟩ env G KE = stepK C mb ⟨d, .store t x y, ty, pos, af, gd⟩ (C.ev env) G fun r G' => letX r fun v' => runOps C mb ops rest (putE env d v') G' KE := rfl
theorem ev249 (C : Cx) (mb : Nat → Bool) (ops : Array Oper) (rest : List Oper) (d : Option Tmp) (fo : Operand) (as' : Array Operand) (ts : Array TypeId) (ty : TypeId) (pos : String) (af : Array Edge) (gd : Option (Nat × Bool)) (env : Env) (G : Heap) (KE : Env → Heap → Prop) : stepR C mb ops rest ⟨d, .call ⟨.value fo, as', ts⟩, ty, pos, af, gd⟩ env G KE = (letX (C.ev env fo) fun m76' => match m76' with
    | .fn g first cap => letX (first ++ as'.toList.map (C.ev env) ++ cap) fun l' => CallAt C mb ops rest d g l' env G KE
    | _ => False) := rfl
theorem ev250 (C : Cx) (mb : Nat → Bool) (ops : Array Oper) (rest : List Oper) (d : Option Tmp) (x : Operand) (y : Operand) (t : TypeId) (u : TypeId) (ty : TypeId) (pos : String) (af : Array Edge) (gd : Option (Nat × Bool)) (env : Env) (G : Heap) (KE : Env → Heap → Prop) : stepR C mb ops rest ⟨d, .call ⟨.builtin .append, #[x, y], #[t, u]⟩, ty, pos, af, gd⟩ env G KE = stepK C mb ⟨d, .call ⟨.builtin .append, #[x, y], #[t, u]⟩, ty, pos, af, gd⟩ (C.ev env) G fun r G' => letX r fun v' => runOps C mb ops rest (putE env d v') G' KE := rfl
theorem ev251 (C : Cx) (mb : Nat → Bool) (ops : Array Oper) (rest : List Oper) (d : Option Tmp) (x : Operand) (t : TypeId) (ty : TypeId) (pos : String) (af : Array Edge) (gd : Option (Nat × Bool)) (env : Env) (G : Heap) (KE : Env → Heap → Prop) : stepR C mb ops rest ⟨d, .call ⟨.builtin .len, #[x], #[t]⟩, ty, pos, af, gd⟩ env G KE = stepK C mb ⟨d, .call ⟨.builtin .len, #[x], #[t]⟩, ty, pos, af, gd⟩ (C.ev env) G fun r G' => letX r fun v' => runOps C mb ops rest (putE env d v') G' KE := rfl
theorem ev252 (C : Cx) (mb : Nat → Bool) (ops : Array Oper) (rest : List Oper) (d : Option Tmp) (x : Operand) (y : Operand) (t : TypeId) (u : TypeId) (ty : TypeId) (pos : String) (af : Array Edge) (gd : Option (Nat × Bool)) (env : Env) (G : Heap) (KE : Env → Heap → Prop) : stepR C mb ops rest ⟨d, .call ⟨.builtin .min, #[x, y], #[t, u]⟩, ty, pos, af, gd⟩ env G KE = stepK C mb ⟨d, .call ⟨.builtin .min, #[x, y], #[t, u]⟩, ty, pos, af, gd⟩ (C.ev env) G fun r G' => letX r fun v' => runOps C mb ops rest (putE env d v') G' KE := rfl
theorem ev253 (C : Cx) (mb : Nat → Bool) (ops : Array Oper) (rest : List Oper) (d : Option Tmp) (x : Operand) (y : Operand) (t : TypeId) (u : TypeId) (ty : TypeId) (pos : String) (af : Array Edge) (gd : Option (Nat × Bool)) (env : Env) (G : Heap) (KE : Env → Heap → Prop) : stepR C mb ops rest ⟨d, .call ⟨.builtin .max, #[x, y], #[t, u]⟩, ty, pos, af, gd⟩ env G KE = stepK C mb ⟨d, .call ⟨.builtin .max, #[x, y], #[t, u]⟩, ty, pos, af, gd⟩ (C.ev env) G fun r G' => letX r fun v' => runOps C mb ops rest (putE env d v') G' KE := rfl
theorem ev254 (C : Cx) (mb : Nat → Bool) (ops : Array Oper) (rest : List Oper) (d : Option Tmp) (t : TypeId) (ps : Array (Nat × Operand)) (ty : TypeId) (pos : String) (af : Array Edge) (gd : Option (Nat × Bool)) (env : Env) (G : Heap) (KE : Env → Heap → Prop) : stepR C mb ops rest ⟨d, .build t ps, ty, pos, af, gd⟩ env G KE = stepK C mb ⟨d, .build t ps, ty, pos, af, gd⟩ (C.ev env) G fun r G' => letX r fun v' => runOps C mb ops rest (putE env d v') G' KE := rfl
theorem ev255 (C : Cx) (mb : Nat → Bool) (ops : Array Oper) (rest : List Oper) (d : Option Tmp) (t : TypeId) (x : Operand) (ty : TypeId) (pos : String) (af : Array Edge) (gd : Option (Nat × Bool)) (env : Env) (G : Heap) (KE : Env → Heap → Prop) : stepR C mb ops rest ⟨d, .load t x, ty, pos, af, gd⟩ env G KE = stepK C mb ⟨d, .load t x, ty, pos, af, gd⟩ (C.ev env) G fun r G' => letX r fun v' => runOps C mb ops rest (putE env d v') G' KE := rfl
theorem ev256 (C : Cx) (mb : Nat → Bool) (ops : Array Oper) (rest : List Oper) (d : Option Tmp) (x : Operand) (ty : TypeId) (pos : String) (af : Array Edge) (gd : Option (Nat × Bool)) (env : Env) (G : Heap) (KE : Env → Heap → Prop) : stepR C mb ops rest ⟨d, .nilCheck x, ty, pos, af, gd⟩ env G KE = stepK C mb ⟨d, .nilCheck x, ty, pos, af, gd⟩ (C.ev env) G fun r G' => letX r fun v' => runOps C mb ops rest (putE env d v') G' KE := rfl
theorem ev257 (C : Cx) (mb : Nat → Bool) (ops : Array Oper) (rest : List Oper) (d : Option Tmp) (bop : BinOp) (t : TypeId) (x : Operand) (y : Operand) (u : TypeId) (ty : TypeId) (pos : String) (af : Array Edge) (gd : Option (Nat × Bool)) (env : Env) (G : Heap) (KE : Env → Heap → Prop) : stepR C mb ops rest ⟨d, .binOp bop t x y u, ty, pos, af, gd⟩ env G KE = stepK C mb ⟨d, .binOp bop t x y u, ty, pos, af, gd⟩ (C.ev env) G fun r G' => letX r fun v' => runOps C mb ops rest (putE env d v') G' KE := rfl
theorem ev258 (C : Cx) (mb : Nat → Bool) (ops : Array Oper) (rest : List Oper) (d : Option Tmp) (uop : UnOp) (t : TypeId) (x : Operand) (ty : TypeId) (pos : String) (af : Array Edge) (gd : Option (Nat × Bool)) (env : Env) (G : Heap) (KE : Env → Heap → Prop) : stepR C mb ops rest ⟨d, .unOp uop t x, ty, pos, af, gd⟩ env G KE = stepK C mb ⟨d, .unOp uop t x, ty, pos, af, gd⟩ (C.ev env) G fun r G' => letX r fun v' => runOps C mb ops rest (putE env d v') G' KE := rfl
theorem ev259 (C : Cx) (mb : Nat → Bool) (ops : Array Oper) (rest : List Oper) (d : Option Tmp) (t : TypeId) (u : TypeId) (x : Operand) (ty : TypeId) (pos : String) (af : Array Edge) (gd : Option (Nat × Bool)) (env : Env) (G : Heap) (KE : Env → Heap → Prop) : stepR C mb ops rest ⟨d, .convert t u x, ty, pos, af, gd⟩ env G KE = stepK C mb ⟨d, .convert t u x, ty, pos, af, gd⟩ (C.ev env) G fun r G' => letX r fun v' => runOps C mb ops rest (putE env d v') G' KE := rfl
theorem ev260 (C : Cx) (mb : Nat → Bool) (ops : Array Oper) (rest : List Oper) (d : Option Tmp) (i : Nat) (as' : Array Operand) (la : List Operand) (ty : TypeId) (pos : String) (af : Array Edge) (gd : Option (Nat × Bool)) (env : Env) (G : Heap) (KE : Env → Heap → Prop) : stepR C mb ops rest ⟨d, .makeFunc (.func i) as' ⟨la⟩, ty, pos, af, gd⟩ env G KE = stepK C mb ⟨d, .makeFunc (.func i) as' ⟨la⟩, ty, pos, af, gd⟩ (C.ev env) G fun r G' => letX r fun v' => runOps C mb ops rest (putE env d v') G' KE := rfl
theorem ev261 (C : Cx) (mb : Nat → Bool) (ops : Array Oper) (rest : List Oper) (d : Option Tmp) (t : TypeId) (x : Operand) (lo : Option Operand) (hi : Option Operand) (mx : Option Operand) (ty : TypeId) (pos : String) (af : Array Edge) (gd : Option (Nat × Bool)) (env : Env) (G : Heap) (KE : Env → Heap → Prop) : stepR C mb ops rest ⟨d, .slice t x lo hi mx, ty, pos, af, gd⟩ env G KE = stepK C mb ⟨d, .slice t x lo hi mx, ty, pos, af, gd⟩ (C.ev env) G fun r G' => letX r fun v' => runOps C mb ops rest (putE env d v') G' KE := rfl
theorem ev262 (C : Cx) (mb : Nat → Bool) (ops : Array Oper) (rest : List Oper) (d : Option Tmp) (t : TypeId) (x : Operand) (i : Nat) (ty : TypeId) (pos : String) (af : Array Edge) (gd : Option (Nat × Bool)) (env : Env) (G : Heap) (KE : Env → Heap → Prop) : stepR C mb ops rest ⟨d, .fieldAddr t x i, ty, pos, af, gd⟩ env G KE = stepK C mb ⟨d, .fieldAddr t x i, ty, pos, af, gd⟩ (C.ev env) G fun r G' => letX r fun v' => runOps C mb ops rest (putE env d v') G' KE := rfl
theorem ev263 (C : Cx) (mb : Nat → Bool) (ops : Array Oper) (rest : List Oper) (d : Option Tmp) (t : TypeId) (x : Operand) (i : Nat) (ty : TypeId) (pos : String) (af : Array Edge) (gd : Option (Nat × Bool)) (env : Env) (G : Heap) (KE : Env → Heap → Prop) : stepR C mb ops rest ⟨d, .field t x i, ty, pos, af, gd⟩ env G KE = stepK C mb ⟨d, .field t x i, ty, pos, af, gd⟩ (C.ev env) G fun r G' => letX r fun v' => runOps C mb ops rest (putE env d v') G' KE := rfl
theorem ev264 (C : Cx) (mb : Nat → Bool) (ops : Array Oper) (rest : List Oper) (d : Option Tmp) (t : TypeId) (x : Operand) (y : Operand) (ty : TypeId) (pos : String) (af : Array Edge) (gd : Option (Nat × Bool)) (env : Env) (G : Heap) (KE : Env → Heap → Prop) : stepR C mb ops rest ⟨d, .indexAddr t x y, ty, pos, af, gd⟩ env G KE = stepK C mb ⟨d, .indexAddr t x y, ty, pos, af, gd⟩ (C.ev env) G fun r G' => letX r fun v' => runOps C mb ops rest (putE env d v') G' KE := rfl
theorem ev265 (C : Cx) (mb : Nat → Bool) (ops : Array Oper) (rest : List Oper) (d : Option Tmp) (t : TypeId) (x : Operand) (y : Operand) (ty : TypeId) (pos : String) (af : Array Edge) (gd : Option (Nat × Bool)) (env : Env) (G : Heap) (KE : Env → Heap → Prop) : stepR C mb ops rest ⟨d, .index t x y, ty, pos, af, gd⟩ env G KE = stepK C mb ⟨d, .index t x y, ty, pos, af, gd⟩ (C.ev env) G fun r G' => letX r fun v' => runOps C mb ops rest (putE env d v') G' KE := rfl
theorem ev266 (C : Cx) (mb : Nat → Bool) (ops : Array Oper) (rest : List Oper) (d : Option Tmp) (x : Operand) (i : Nat) (ty : TypeId) (pos : String) (af : Array Edge) (gd : Option (Nat × Bool)) (env : Env) (G : Heap) (KE : Env → Heap → Prop) : stepR C mb ops rest ⟨d, .extract x i, ty, pos, af, gd⟩ env G KE = stepK C mb ⟨d, .extract x i, ty, pos, af, gd⟩ (C.ev env) G fun r G' => letX r fun v' => runOps C mb ops rest (putE env d v') G' KE := rfl
theorem ev267 (C : Cx) (mb : Nat → Bool) (ops : Array Oper) (rest : List Oper) (d : Option Tmp) (x : Operand) (y : Operand) (t : TypeId) (u : TypeId) (ty : TypeId) (pos : String) (af : Array Edge) (gd : Option (Nat × Bool)) (env : Env) (G : Heap) (KE : Env → Heap → Prop) : stepR C mb ops rest ⟨d, .call ⟨.builtin .delete, #[x, y], #[t, u]⟩, ty, pos, af, gd⟩ env G KE = stepK C mb ⟨d, .call ⟨.builtin .delete, #[x, y], #[t, u]⟩, ty, pos, af, gd⟩ (C.ev env) G fun r G' => letX r fun v' => runOps C mb ops rest (putE env d v') G' KE := rfl
theorem ev268 (C : Cx) (mb : Nat → Bool) (ops : Array Oper) (rest : List Oper) (d : Option Tmp) (t : TypeId) (ty : TypeId) (pos : String) (af : Array Edge) (gd : Option (Nat × Bool)) (env : Env) (G : Heap) (KE : Env → Heap → Prop) : stepR C mb ops rest ⟨d, .makeMap t none, ty, pos, af, gd⟩ env G KE = stepK C mb ⟨d, .makeMap t none, ty, pos, af, gd⟩ (C.ev env) G fun r G' => letX r fun v' => runOps C mb ops rest (putE env d v') G' KE := rfl
theorem ev269 (C : Cx) (mb : Nat → Bool) (ops : Array Oper) (rest : List Oper) (d : Option Tmp) (t : TypeId) (x : Operand) (y : Operand) (z : Operand) (ty : TypeId) (pos : String) (af : Array Edge) (gd : Option (Nat × Bool)) (env : Env) (G : Heap) (KE : Env → Heap → Prop) : stepR C mb ops rest ⟨d, .mapUpdate t x y z, ty, pos, af, gd⟩ env G KE = stepK C mb ⟨d, .mapUpdate t x y z, ty, pos, af, gd⟩ (C.ev env) G fun r G' => letX r fun v' => runOps C mb ops rest (putE env d v') G' KE := rfl
theorem ev270 (C : Cx) (mb : Nat → Bool) (ops : Array Oper) (rest : List Oper) (d : Option Tmp) (t : TypeId) (x : Operand) (y : Operand) (z : Operand) (ty : TypeId) (pos : String) (af : Array Edge) (gd : Option (Nat × Bool)) (env : Env) (G : Heap) (KE : Env → Heap → Prop) : stepR C mb ops rest ⟨d, .insert t x y z, ty, pos, af, gd⟩ env G KE = stepK C mb ⟨d, .insert t x y z, ty, pos, af, gd⟩ (C.ev env) G fun r G' => letX r fun v' => runOps C mb ops rest (putE env d v') G' KE := rfl
theorem ev271 (C : Cx) (mb : Nat → Bool) (ops : Array Oper) (rest : List Oper) (d : Option Tmp) (t : TypeId) (x : Operand) (y : Operand) (p : Bool) (ty : TypeId) (pos : String) (af : Array Edge) (gd : Option (Nat × Bool)) (env : Env) (G : Heap) (KE : Env → Heap → Prop) : stepR C mb ops rest ⟨d, .lookup t x y p, ty, pos, af, gd⟩ env G KE = stepK C mb ⟨d, .lookup t x y p, ty, pos, af, gd⟩ (C.ev env) G fun r G' => letX r fun v' => runOps C mb ops rest (putE env d v') G' KE := rfl
theorem ev272 (C : Cx) (mb : Nat → Bool) (ops : Array Oper) (rest : List Oper) (d : Option Tmp) (t : TypeId) (x : Operand) (ty : TypeId) (pos : String) (af : Array Edge) (gd : Option (Nat × Bool)) (env : Env) (G : Heap) (KE : Env → Heap → Prop) : stepR C mb ops rest ⟨d, .range t x, ty, pos, af, gd⟩ env G KE = stepK C mb ⟨d, .range t x, ty, pos, af, gd⟩ (C.ev env) G fun r G' => letX r fun v' => runOps C mb ops rest (putE env d v') G' KE := rfl
theorem ev273 (C : Cx) (mb : Nat → Bool) (ops : Array Oper) (rest : List Oper) (d : Option Tmp) (x : Operand) (ty : TypeId) (pos : String) (af : Array Edge) (gd : Option (Nat × Bool)) (env : Env) (G : Heap) (KE : Env → Heap → Prop) : stepR C mb ops rest ⟨d, .next x false, ty, pos, af, gd⟩ env G KE = stepK C mb ⟨d, .next x false, ty, pos, af, gd⟩ (C.ev env) G fun r G' => letX r fun v' => runOps C mb ops rest (putE env d v') G' KE := rfl
theorem ev274 (C : Cx) (mb : Nat → Bool) (ops : Array Oper) (rest : List Oper) (d : Option Tmp) (x : Operand) (ty : TypeId) (pos : String) (af : Array Edge) (gd : Option (Nat × Bool)) (env : Env) (G : Heap) (KE : Env → Heap → Prop) : stepR C mb ops rest ⟨d, .entry x, ty, pos, af, gd⟩ env G KE = stepK C mb ⟨d, .entry x, ty, pos, af, gd⟩ (C.ev env) G fun r G' => letX r fun v' => runOps C mb ops rest (putE env d v') G' KE := rfl
theorem ev275 (C : Cx) (mb : Nat → Bool) (ba : Nat) (nn : Nat) (cf : List (Nat × Nat)) (ops : Array Oper) (ix : Nat) (rest : List Oper) (d : Option Tmp) (x : Operand) (ty : TypeId) (pos : String) (af : Array Edge) (gd : Option (Nat × Bool)) (env : Env) (G : Heap) (acc : List Ent) (KE : Env → Heap → Prop) : stepRX C mb ba nn cf ops ix rest ⟨d, .move x, ty, pos, af, gd⟩ env G acc KE = stepX C mb ba nn cf ix acc ⟨d, .move x, ty, pos, af, gd⟩ (C.ev env) G fun r G' acc' => letX r fun v' => runX C mb ba nn cf ops (ix + 1) rest (putE env d v') G' acc' KE := rfl
theorem ev276 (C : Cx) (mb : Nat → Bool) (ba : Nat) (nn : Nat) (cf : List (Nat × Nat)) (ops : Array Oper) (ix : Nat) (rest : List Oper) (d : Option Tmp) (x : Operand) (ty : TypeId) (pos : String) (af : Array Edge) (gd : Option (Nat × Bool)) (env : Env) (G : Heap) (acc : List Ent) (KE : Env → Heap → Prop) : stepRX C mb ba nn cf ops ix rest ⟨d, .assign x, ty, pos, af, gd⟩ env G acc KE = stepX C mb ba nn cf ix acc ⟨d, .assign x, ty, pos, af, gd⟩ (C.ev env) G fun r G' acc' => letX r fun v' => runX C mb ba nn cf ops (ix + 1) rest (putE env d v') G' acc' KE := rfl
theorem ev277 (C : Cx) (mb : Nat → Bool) (ba : Nat) (nn : Nat) (cf : List (Nat × Nat)) (ops : Array Oper) (ix : Nat) (rest : List Oper) (d : Option Tmp) (x : Operand) (y : Operand) (z : Operand) (ty : TypeId) (pos : String) (af : Array Edge) (gd : Option (Nat × Bool)) (env : Env) (G : Heap) (acc : List Ent) (KE : Env → Heap → Prop) : stepRX C mb ba nn cf ops ix rest ⟨d, .pick x y z, ty, pos, af, gd⟩ env G acc KE = stepX C mb ba nn cf ix acc ⟨d, .pick x y z, ty, pos, af, gd⟩ (C.ev env) G fun r G' acc' => letX r fun v' => runX C mb ba nn cf ops (ix + 1) rest (putE env d v') G' acc' KE := rfl
theorem ev278 (C : Cx) (mb : Nat → Bool) (ba : Nat) (nn : Nat) (cf : List (Nat × Nat)) (ops : Array Oper) (ix : Nat) (rest : List Oper) (d : Option Tmp) (x : Operand) (t : TypeId) (ty : TypeId) (pos : String) (af : Array Edge) (gd : Option (Nat × Bool)) (env : Env) (G : Heap) (acc : List Ent) (KE : Env → Heap → Prop) : stepRX C mb ba nn cf ops ix rest ⟨d, .call ⟨.builtin .len, #[x], #[t]⟩, ty, pos, af, gd⟩ env G acc KE = stepX C mb ba nn cf ix acc ⟨d, .call ⟨.builtin .len, #[x], #[t]⟩, ty, pos, af, gd⟩ (C.ev env) G fun r G' acc' => letX r fun v' => runX C mb ba nn cf ops (ix + 1) rest (putE env d v') G' acc' KE := rfl
theorem ev279 (C : Cx) (mb : Nat → Bool) (ba : Nat) (nn : Nat) (cf : List (Nat × Nat)) (ops : Array Oper) (ix : Nat) (rest : List Oper) (d : Option Tmp) (x : Operand) (y : Operand) (t : TypeId) (u : TypeId) (ty : TypeId) (pos : String) (af : Array Edge) (gd : Option (Nat × Bool)) (env : Env) (G : Heap) (acc : List Ent) (KE : Env → Heap → Prop) : stepRX C mb ba nn cf ops ix rest ⟨d, .call ⟨.builtin .min, #[x, y], #[t, u]⟩, ty, pos, af, gd⟩ env G acc KE = stepX C mb ba nn cf ix acc ⟨d, .call ⟨.builtin .min, #[x, y], #[t, u]⟩, ty, pos, af, gd⟩ (C.ev env) G fun r G' acc' => letX r fun v' => runX C mb ba nn cf ops (ix + 1) rest (putE env d v') G' acc' KE := rfl
theorem ev280 (C : Cx) (mb : Nat → Bool) (ba : Nat) (nn : Nat) (cf : List (Nat × Nat)) (ops : Array Oper) (ix : Nat) (rest : List Oper) (d : Option Tmp) (x : Operand) (y : Operand) (t : TypeId) (u : TypeId) (ty : TypeId) (pos : String) (af : Array Edge) (gd : Option (Nat × Bool)) (env : Env) (G : Heap) (acc : List Ent) (KE : Env → Heap → Prop) : stepRX C mb ba nn cf ops ix rest ⟨d, .call ⟨.builtin .max, #[x, y], #[t, u]⟩, ty, pos, af, gd⟩ env G acc KE = stepX C mb ba nn cf ix acc ⟨d, .call ⟨.builtin .max, #[x, y], #[t, u]⟩, ty, pos, af, gd⟩ (C.ev env) G fun r G' acc' => letX r fun v' => runX C mb ba nn cf ops (ix + 1) rest (putE env d v') G' acc' KE := rfl
theorem ev281 (C : Cx) (mb : Nat → Bool) (ba : Nat) (nn : Nat) (cf : List (Nat × Nat)) (ops : Array Oper) (ix : Nat) (rest : List Oper) (d : Option Tmp) (t : TypeId) (ps : Array (Nat × Operand)) (ty : TypeId) (pos : String) (af : Array Edge) (gd : Option (Nat × Bool)) (env : Env) (G : Heap) (acc : List Ent) (KE : Env → Heap → Prop) : stepRX C mb ba nn cf ops ix rest ⟨d, .build t ps, ty, pos, af, gd⟩ env G acc KE = stepX C mb ba nn cf ix acc ⟨d, .build t ps, ty, pos, af, gd⟩ (C.ev env) G fun r G' acc' => letX r fun v' => runX C mb ba nn cf ops (ix + 1) rest (putE env d v') G' acc' KE := rfl
theorem ev282 (C : Cx) (mb : Nat → Bool) (ba : Nat) (nn : Nat) (cf : List (Nat × Nat)) (ops : Array Oper) (ix : Nat) (rest : List Oper) (d : Option Tmp) (x : Operand) (ty : TypeId) (pos : String) (af : Array Edge) (gd : Option (Nat × Bool)) (env : Env) (G : Heap) (acc : List Ent) (KE : Env → Heap → Prop) : stepRX C mb ba nn cf ops ix rest ⟨d, .nilCheck x, ty, pos, af, gd⟩ env G acc KE = stepX C mb ba nn cf ix acc ⟨d, .nilCheck x, ty, pos, af, gd⟩ (C.ev env) G fun r G' acc' => letX r fun v' => runX C mb ba nn cf ops (ix + 1) rest (putE env d v') G' acc' KE := rfl
theorem ev283 (C : Cx) (mb : Nat → Bool) (ba : Nat) (nn : Nat) (cf : List (Nat × Nat)) (ops : Array Oper) (ix : Nat) (rest : List Oper) (d : Option Tmp) (bop : BinOp) (t : TypeId) (x : Operand) (y : Operand) (u : TypeId) (ty : TypeId) (pos : String) (af : Array Edge) (gd : Option (Nat × Bool)) (env : Env) (G : Heap) (acc : List Ent) (KE : Env → Heap → Prop) : stepRX C mb ba nn cf ops ix rest ⟨d, .binOp bop t x y u, ty, pos, af, gd⟩ env G acc KE = stepX C mb ba nn cf ix acc ⟨d, .binOp bop t x y u, ty, pos, af, gd⟩ (C.ev env) G fun r G' acc' => letX r fun v' => runX C mb ba nn cf ops (ix + 1) rest (putE env d v') G' acc' KE := rfl
theorem ev284 (C : Cx) (mb : Nat → Bool) (ba : Nat) (nn : Nat) (cf : List (Nat × Nat)) (ops : Array Oper) (ix : Nat) (rest : List Oper) (d : Option Tmp) (uop : UnOp) (t : TypeId) (x : Operand) (ty : TypeId) (pos : String) (af : Array Edge) (gd : Option (Nat × Bool)) (env : Env) (G : Heap) (acc : List Ent) (KE : Env → Heap → Prop) : stepRX C mb ba nn cf ops ix rest ⟨d, .unOp uop t x, ty, pos, af, gd⟩ env G acc KE = stepX C mb ba nn cf ix acc ⟨d, .unOp uop t x, ty, pos, af, gd⟩ (C.ev env) G fun r G' acc' => letX r fun v' => runX C mb ba nn cf ops (ix + 1) rest (putE env d v') G' acc' KE := rfl
theorem ev285 (C : Cx) (mb : Nat → Bool) (ba : Nat) (nn : Nat) (cf : List (Nat × Nat)) (ops : Array Oper) (ix : Nat) (rest : List Oper) (d : Option Tmp) (t : TypeId) (u : TypeId) (x : Operand) (ty : TypeId) (pos : String) (af : Array Edge) (gd : Option (Nat × Bool)) (env : Env) (G : Heap) (acc : List Ent) (KE : Env → Heap → Prop) : stepRX C mb ba nn cf ops ix rest ⟨d, .convert t u x, ty, pos, af, gd⟩ env G acc KE = stepX C mb ba nn cf ix acc ⟨d, .convert t u x, ty, pos, af, gd⟩ (C.ev env) G fun r G' acc' => letX r fun v' => runX C mb ba nn cf ops (ix + 1) rest (putE env d v') G' acc' KE := rfl
theorem ev286 (C : Cx) (mb : Nat → Bool) (ba : Nat) (nn : Nat) (cf : List (Nat × Nat)) (ops : Array Oper) (ix : Nat) (rest : List Oper) (d : Option Tmp) (i : Nat) (as' : Array Operand) (la : List Operand) (ty : TypeId) (pos : String) (af : Array Edge) (gd : Option (Nat × Bool)) (env : Env) (G : Heap) (acc : List Ent) (KE : Env → Heap → Prop) : stepRX C mb ba nn cf ops ix rest ⟨d, .makeFunc (.func i) as' ⟨la⟩, ty, pos, af, gd⟩ env G acc KE = stepX C mb ba nn cf ix acc ⟨d, .makeFunc (.func i) as' ⟨la⟩, ty, pos, af, gd⟩ (C.ev env) G fun r G' acc' => letX r fun v' => runX C mb ba nn cf ops (ix + 1) rest (putE env d v') G' acc' KE := rfl
theorem ev287 (C : Cx) (mb : Nat → Bool) (ba : Nat) (nn : Nat) (cf : List (Nat × Nat)) (ops : Array Oper) (ix : Nat) (rest : List Oper) (d : Option Tmp) (t : TypeId) (x : Operand) (lo : Option Operand) (hi : Option Operand) (mx : Option Operand) (ty : TypeId) (pos : String) (af : Array Edge) (gd : Option (Nat × Bool)) (env : Env) (G : Heap) (acc : List Ent) (KE : Env → Heap → Prop) : stepRX C mb ba nn cf ops ix rest ⟨d, .slice t x lo hi mx, ty, pos, af, gd⟩ env G acc KE = stepX C mb ba nn cf ix acc ⟨d, .slice t x lo hi mx, ty, pos, af, gd⟩ (C.ev env) G fun r G' acc' => letX r fun v' => runX C mb ba nn cf ops (ix + 1) rest (putE env d v') G' acc' KE := rfl
theorem ev288 (C : Cx) (mb : Nat → Bool) (ba : Nat) (nn : Nat) (cf : List (Nat × Nat)) (ops : Array Oper) (ix : Nat) (rest : List Oper) (d : Option Tmp) (t : TypeId) (x : Operand) (i : Nat) (ty : TypeId) (pos : String) (af : Array Edge) (gd : Option (Nat × Bool)) (env : Env) (G : Heap) (acc : List Ent) (KE : Env → Heap → Prop) : stepRX C mb ba nn cf ops ix rest ⟨d, .fieldAddr t x i, ty, pos, af, gd⟩ env G acc KE = stepX C mb ba nn cf ix acc ⟨d, .fieldAddr t x i, ty, pos, af, gd⟩ (C.ev env) G fun r G' acc' => letX r fun v' => runX C mb ba nn cf ops (ix + 1) rest (putE env d v') G' acc' KE := rfl
theorem ev289 (C : Cx) (mb : Nat → Bool) (ba : Nat) (nn : Nat) (cf : List (Nat × Nat)) (ops : Array Oper) (ix : Nat) (rest : List Oper) (d : Option Tmp) (t : TypeId) (x : Operand) (i : Nat) (ty : TypeId) (pos : String) (af : Array Edge) (gd : Option (Nat × Bool)) (env : Env) (G : Heap) (acc : List Ent) (KE : Env → Heap → Prop) : stepRX C mb ba nn cf ops ix rest ⟨d, .field t x i, ty, pos, af, gd⟩ env G acc KE = stepX C mb ba nn cf ix acc ⟨d, .field t x i, ty, pos, af, gd⟩ (C.ev env) G fun r G' acc' => letX r fun v' => runX C mb ba nn cf ops (ix + 1) rest (putE env d v') G' acc' KE := rfl
theorem ev290 (C : Cx) (mb : Nat → Bool) (ba : Nat) (nn : Nat) (cf : List (Nat × Nat)) (ops : Array Oper) (ix : Nat) (rest : List Oper) (d : Option Tmp) (t : TypeId) (x : Operand) (y : Operand) (ty : TypeId) (pos : String) (af : Array Edge) (gd : Option (Nat × Bool)) (env : Env) (G : Heap) (acc : List Ent) (KE : Env → Heap → Prop) : stepRX C mb ba nn cf ops ix rest ⟨d, .indexAddr t x y, ty, pos, af, gd⟩ env G acc KE = stepX C mb ba nn cf ix acc ⟨d, .indexAddr t x y, ty, pos, af, gd⟩ (C.ev env) G fun r G' acc' => letX r fun v' => runX C mb ba nn cf ops (ix + 1) rest (putE env d v') G' acc' KE := rfl
theorem ev291 (C : Cx) (mb : Nat → Bool) (ba : Nat) (nn : Nat) (cf : List (Nat × Nat)) (ops : Array Oper) (ix : Nat) (rest : List Oper) (d : Option Tmp) (t : TypeId) (x : Operand) (y : Operand) (ty : TypeId) (pos : String) (af : Array Edge) (gd : Option (Nat × Bool)) (env : Env) (G : Heap) (acc : List Ent) (KE : Env → Heap → Prop) : stepRX C mb ba nn cf ops ix rest ⟨d, .index t x y, ty, pos, af, gd⟩ env G acc KE = stepX C mb ba nn cf ix acc ⟨d, .index t x y, ty, pos, af, gd⟩ (C.ev env) G fun r G' acc' => letX r fun v' => runX C mb ba nn cf ops (ix + 1) rest (putE env d v') G' acc' KE := rfl
theorem ev292 (C : Cx) (mb : Nat → Bool) (ba : Nat) (nn : Nat) (cf : List (Nat × Nat)) (ops : Array Oper) (ix : Nat) (rest : List Oper) (d : Option Tmp) (x : Operand) (i : Nat) (ty : TypeId) (pos : String) (af : Array Edge) (gd : Option (Nat × Bool)) (env : Env) (G : Heap) (acc : List Ent) (KE : Env → Heap → Prop) : stepRX C mb ba nn cf ops ix rest ⟨d, .extract x i, ty, pos, af, gd⟩ env G acc KE = stepX C mb ba nn cf ix acc ⟨d, .extract x i, ty, pos, af, gd⟩ (C.ev env) G fun r G' acc' => letX r fun v' => runX C mb ba nn cf ops (ix + 1) rest (putE env d v') G' acc' KE := rfl
theorem ev293 (C : Cx) (mb : Nat → Bool) (ba : Nat) (nn : Nat) (cf : List (Nat × Nat)) (ops : Array Oper) (ix : Nat) (rest : List Oper) (d : Option Tmp) (t : TypeId) (ty : TypeId) (pos : String) (af : Array Edge) (gd : Option (Nat × Bool)) (env : Env) (G : Heap) (acc : List Ent) (KE : Env → Heap → Prop) : stepRX C mb ba nn cf ops ix rest ⟨d, .alloc t, ty, pos, af, gd⟩ env G acc KE = stepX C mb ba nn cf ix acc ⟨d, .alloc t, ty, pos, af, gd⟩ (C.ev env) G fun r G' acc' => letX r fun v' => runX C mb ba nn cf ops (ix + 1) rest (putE env d v') G' acc' KE := rfl
theorem ev294 (C : Cx) (mb : Nat → Bool) (ba : Nat) (nn : Nat) (cf : List (Nat × Nat)) (ops : Array Oper) (ix : Nat) (rest : List Oper) (d : Option Tmp) (t : TypeId) (x : Operand) (y : Operand) (ty : TypeId) (pos : String) (af : Array Edge) (gd : Option (Nat × Bool)) (env : Env) (G : Heap) (acc : List Ent) (KE : Env → Heap → Prop) : stepRX C mb ba nn cf ops ix rest ⟨d, .makeSlice t x y, ty, pos, af, gd⟩ env G acc KE = stepX C mb ba nn cf ix acc ⟨d, .makeSlice t x y, ty, pos, af, gd⟩ (C.ev env) G fun r G' acc' => letX r fun v' => runX C mb ba nn cf ops (ix + 1) rest (putE env d v') G' acc' KE := rfl
theorem ev295 (C : Cx) (mb : Nat → Bool) (ba : Nat) (nn : Nat) (cf : List (Nat × Nat)) (ops : Array Oper) (ix : Nat) (rest : List Oper) (i : Nat) (t : TypeId) (x : Operand) (ty : TypeId) (pos : String) (af : Array Edge) (gd : Option (Nat × Bool)) (env : Env) (G : Heap) (acc : List Ent) (KE : Env → Heap → Prop) : stepRX C mb ba nn cf ops ix rest ⟨some i, .box t x, ty, pos, af, gd⟩ env G acc KE = stepX C mb ba nn cf ix acc ⟨some i, .box t x, ty, pos, af, gd⟩ (C.ev env) G fun r G' acc' => letX r fun v' => runX C mb ba nn cf ops (ix + 1) rest (putE env (some i) v') G' acc' KE := rfl
theorem ev296 (C : Cx) (mb : Nat → Bool) (ba : Nat) (nn : Nat) (cf : List (Nat × Nat)) (ops : Array Oper) (ix : Nat) (rest : List Oper) (i : Nat) (t : TypeId) (n : Nat) (ps : Array (Nat × Operand)) (ty : TypeId) (pos : String) (af : Array Edge) (gd : Option (Nat × Bool)) (env : Env) (G : Heap) (acc : List Ent) (KE : Env → Heap → Prop) : stepRX C mb ba nn cf ops ix rest ⟨some i, .buildSlice t n ps, ty, pos, af, gd⟩ env G acc KE = stepX C mb ba nn cf ix acc ⟨some i, .buildSlice t n ps, ty, pos, af, gd⟩ (C.ev env) G fun r G' acc' => letX r fun v' => runX C mb ba nn cf ops (ix + 1) rest (putE env (some i) v') G' acc' KE := rfl
theorem ev297 (C : Cx) (mb : Nat → Bool) (ba : Nat) (nn : Nat) (cf : List (Nat × Nat)) (ops : Array Oper) (ix : Nat) (rest : List Oper) (d : Option Tmp) (t : TypeId) (x : Operand) (y : Operand) (ty : TypeId) (pos : String) (af : Array Edge) (gd : Option (Nat × Bool)) (env : Env) (G : Heap) (acc : List Ent) (KE : Env → Heap → Prop) : stepRX C mb ba nn cf ops ix rest ⟨d, .store t x y, ty, pos, af, gd⟩ env G acc KE = stepX C mb ba nn cf ix acc ⟨d, .store t x y, ty, pos, af, gd⟩ (C.ev env) G fun r G' acc' => letX r fun v' => runX C mb ba nn cf ops (ix + 1) rest (putE env d v') G' acc' KE := rfl
theorem ev298 (C : Cx) (mb : Nat → Bool) (ba : Nat) (nn : Nat) (cf : List (Nat × Nat)) (ops : Array Oper) (ix : Nat) (rest : List Oper) (d : Option Tmp) (fo : Operand) (as' : Array Operand) (ts : Array TypeId) (ty : TypeId) (pos : String) (af : Array Edge) (gd : Option (Nat × Bool)) (env : Env) (G : Heap) (acc : List Ent) (KE : Env → Heap → Prop) : stepRX C mb ba nn cf ops ix rest ⟨d, .call ⟨.value fo, as', ts⟩, ty, pos, af, gd⟩ env G acc KE = (letX (C.ev env fo) fun m77' => match m77' with
    | .fn g first cap => letX (first ++ as'.toList.map (C.ev env) ++ cap) fun l' => CallAtX C mb ba nn cf ops ix rest d g l' env G acc KE
    | _ => False) := rfl
theorem ev299 (C : Cx) (mb : Nat → Bool) (ba : Nat) (nn : Nat) (cf : List (Nat × Nat)) (ops : Array Oper) (ix : Nat) (rest : List Oper) (d : Option Tmp) (x : Operand) (y : Operand) (t : TypeId) (u : TypeId) (ty : TypeId) (pos : String) (af : Array Edge) (gd : Option (Nat × Bool)) (env : Env) (G : Heap) (acc : List Ent) (KE : Env → Heap → Prop) : stepRX C mb ba nn cf ops ix rest ⟨d, .call ⟨.builtin .append, #[x, y], #[t, u]⟩, ty, pos, af, gd⟩ env G acc KE = stepX C mb ba nn cf ix acc ⟨d, .call ⟨.builtin .append, #[x, y], #[t, u]⟩, ty, pos, af, gd⟩ (C.ev env) G fun r G' acc' => letX r fun v' => runX C mb ba nn cf ops (ix + 1) rest (putE env d v') G' acc' KE := rfl
theorem ev300 (C : Cx) (mb : Nat → Bool) (ba : Nat) (nn : Nat) (cf : List (Nat × Nat)) (ops : Array Oper) (ix : Nat) (rest : List Oper) (d : Option Tmp) (t : TypeId) (x : Operand) (ty : TypeId) (pos : String) (af : Array Edge) (gd : Option (Nat × Bool)) (env : Env) (G : Heap) (acc : List Ent) (KE : Env → Heap → Prop) : stepRX C mb ba nn cf ops ix rest ⟨d, .load t x, ty, pos, af, gd⟩ env G acc KE = stepX C mb ba nn cf ix acc ⟨d, .load t x, ty, pos, af, gd⟩ (C.ev env) G fun r G' acc' => letX r fun v' => runX C mb ba nn cf ops (ix + 1) rest (putE env d v') G' acc' KE := rfl
theorem ev301 (C : Cx) (G : Heap) (t : TypeId) (u : TypeId) (av : AV) (aw : AV) (K : AV → Heap → Prop) : appK C G t u av aw K = (letX (C.el t) fun m78' => letX ((C.el u).isSome) fun m79' => match m78', m79' with
  | some e, true => (letX (C.ti e) fun m80' => match m80' with
    | some i => letX i.sz fun s' => letX i.by' fun y' => s' ≠ 0 ∧ rdsK G aw s' fun m g => appTo G av s' m g (fun n => n * y' ≤ 140737488355328 ∧ n ≤ 140737488355328) K
    | none => False)
  | _, _ => False) := rfl
theorem ev302 (G : Heap) (s2 : Nat) (n : Nat) (f : Nat → List AV) (sz : Nat) (KP : Nat → (Nat → List AV) → Prop) : rdsK G (.lst s2 n f) sz KP = (s2 = sz ∧ KP n f) := rfl
theorem ev303 (G : Heap) (sz : Nat) (KP : Nat → (Nat → List AV) → Prop) : rdsK G .nils sz KP = KP 0 fun _ => [] := rfl
theorem ev304 (G : Heap) (sz : Nat) (KP : Nat → (Nat → List AV) → Prop) : rdsK G .emp sz KP = KP 0 fun _ => [] := rfl
theorem ev305 (G : Heap) (bb : Nat) (off : Nat) (len : Nat) (p : Bool) (s2 : Nat) (sz : Nat) (KP : Nat → (Nat → List AV) → Prop) : rdsK G (.sl bb off len p s2) sz KP = (letX (G.get bb) fun m81' => match m81' with
    | some blk => (s2 = sz ∧ off + len * sz ≤ blk.n) ∧ KP len fun i => tab sz fun j => blk.f (off + i * sz + j)
    | none => False) := rfl
theorem ev306 (G : Heap) (sz : Nat) (n : Nat) (gf : Nat → List AV) (fits : Nat → Prop) (K : AV → Heap → Prop) : appTo G .nils sz n gf fits K = (fits n ∧ if n = 0 then K .nils G else K (.sl G.next 0 n false sz) (G.push ⟨n * sz, appF sz 0 (fun _ => .undef) gf⟩)) := by rw [← app_ite]; rfl
theorem ev307 (G : Heap) (bb : Nat) (off : Nat) (len : Nat) (p : Bool) (s2 : Nat) (sz : Nat) (n : Nat) (gf : Nat → List AV) (fits : Nat → Prop) (K : AV → Heap → Prop) : appTo G (.sl bb off len p s2) sz n gf fits K = (letX (G.get bb) fun m82' => match m82' with
    | some blk => (s2 = sz ∧ off + len * sz ≤ blk.n ∧ fits (len + n)) ∧ (if n = 0 then K (.sl bb off len p s2) G else match p with
      | true => K (.sl G.next 0 (len + n) false sz) (G.push ⟨(len + n) * sz, appF sz len (fun i => blk.f (off + i)) gf⟩)
      | false => off = 0 ∧ K (.sl G.next 0 (len + n) false sz) ((G.set bb none).push ⟨(len + n) * sz, appF sz len blk.f gf⟩))
    | none => False) := by simp only [letX]; simp only [← app_ite]; rfl
theorem ev308 (ti : TI) : Option.isSome (some ti) = true := by cases ti; rfl
theorem ev309 (n : Nat) : Option.isSome (some n) = true := rfl
theorem ev310 (sz : Nat) (len : Nat) (h : Nat → AV) (gf : Nat → List AV) (i : Nat) : appF sz len h gf i = if i < len * sz then h i else (gf ((i - len * sz) / sz)).getD ((i - len * sz) % sz) .undef := rfl
theorem ev311  : Int.toNat 0 = 0 := rfl
theorem ev312  : Int.toNat 1 = 1 := rfl
theorem ev313  : Int.toNat 2 = 2 := rfl
theorem ev314 (av : AV) (vs : List AV) : (av :: vs)[0]? = some av := rfl
theorem ev315 (av : AV) (vs : List AV) (n : Nat) : (av :: vs)[n + 1]? = vs[n]? := rfl
theorem ev316 (C : Cx) (ρ : Operand → AV) (t : TypeId) (av : AV) (lo : Option Operand) (hi : Option Operand) (KA : AV → Prop) : sliceK C ρ t av lo hi none KA = (letX (C.el t) fun m83' => match m83' with
  | none => False
  | some e => letX (C.ti e) fun m84' => letX (lenOf av) fun m85' => match m84', m85' with
    | some i, some ll => (match av with | .sl _ _ _ _ sz => sz = i.sz | .lst sz _ _ => sz = i.sz | _ => True) ∧
      (letX (bnd ρ lo 0) fun m86' => letX (bnd ρ hi ll) fun m87' => match m86', m87' with
        | some l, some h => sliceAt av l h KA
        | _, _ => False)
    | _, _ => False) := by simp only [letX]; unfold sliceK; cases C.el t with | none => rfl | some e => (cases h2 : C.ti e <;> cases h3 : lenOf av <;> first | (simp [h2]; done) | (simp only [h2]; cases av <;> rfl))
theorem ev317 (ρ : Operand → AV) (m : Int) : bnd ρ none m = some m := rfl
theorem ev318 (ρ : Operand → AV) (x : Operand) (m : Int) : bnd ρ (some x) m = (letX (ρ x) fun m88' => match m88' with
    | .int _ i => some i
    | _ => none) := rfl
theorem ev319 (bb : Nat) (off : Nat) (len : Nat) (p : Bool) (sz : Nat) (m : Int) (a : Int) (KA : AV → Prop) : sliceAt (.sl bb off len p sz) m a KA = ((0 ≤ m ∧ m ≤ a ∧ a ≤ (len : Int)) ∧ (m = 0 ∨ m < a) ∧ KA (.sl bb (off + m.toNat * sz) (a - m).toNat (p && decide (a = (len : Int))) sz)) := rfl
theorem ev320 (sz : Nat) (n : Nat) (f : Nat → List AV) (m : Int) (a : Int) (KA : AV → Prop) : sliceAt (.lst sz n f) m a KA = ((0 ≤ m ∧ m ≤ a ∧ a ≤ (n : Int)) ∧ KA (.lst sz (a - m).toNat fun i => f (m.toNat + i))) := rfl
theorem ev321 (m : Int) (a : Int) (KA : AV → Prop) : sliceAt .nils m a KA = (m = 0 ∧ a = 0 ∧ KA .nils) := rfl
theorem EV : (∀ (C : Cx) (mb : Nat → Bool) (ops : Array Oper) (env : Env) (G : Heap) (KE : Env → Heap → Prop), runOps C mb ops [] env G KE = KE env G) ∧
  (∀ (C : Cx) (mb : Nat → Bool) (ops : Array Oper) (o : Oper) (rest : List Oper) (env : Env) (G : Heap) (KE : Env → Heap → Prop), runOps C mb ops (o :: rest) env G KE = wantK ops o env (stepR C mb ops rest o env G KE) (runOps C mb ops rest (putE env o.dst .undef) G KE)) ∧
  (∀ (ops : Array Oper) (d : Option Tmp) (op : Op) (ty : TypeId) (pos : String) (af : Array Edge) (env : Env) (yes : Prop) (no : Prop), wantK ops ⟨d, op, ty, pos, af, none⟩ env yes no = yes) ∧
  (∀ (ops : Array Oper) (d : Option Tmp) (op : Op) (ty : TypeId) (pos : String) (af : Array Edge) (j : Nat) (p : Bool) (env : Env) (yes : Prop) (no : Prop), wantK ops ⟨d, op, ty, pos, af, some (j, p)⟩ env yes no = (letX ((ops[j]?).bind (·.dst)) fun m1' => match m1' with
    | some d => (letX (env d) fun m2' => match m2' with
      | .bool b' => if b' = p then yes else no
      | _ => False)
    | none => False)) ∧
  (∀ (env : Env) (i : Nat) (v : AV), putE env (some i) v = upd env i v) ∧
  (∀ (env : Env) (v : AV), putE env none v = env) ∧
  (∀ (C : Cx) (env : Env) (i : Nat), C.ev env (.tmp i) = env i) ∧
  (∀ (C : Cx) (env : Env) (c : Value), C.ev env (.const c) = cst c) ∧
  (∀ (C : Cx) (env : Env) (i : Nat), C.ev env (.global i) = C.gl i) ∧
  (∀ (C : Cx) (env : Env) (i : Nat), C.ev env (.func i) = .fn i [] []) ∧
  (∀ (k : IntKind) (m : Int), cst (.int k m) = .int k m) ∧
  (∀ (p : Bool), cst (.bool p) = .bool p) ∧
  (∀ (s : ByteArray), cst (.string s) = .str s) ∧
  (cst (.slice none 0 0) = .nils) ∧
  (cst (.pointer none) = .nilp) ∧
  (cst .nilFunc = .nilf) ∧
  (∀ (cs : Array Value), cst (.agg cs) = .agg (cs.toList.map cst1)) ∧
  (∀ (k : IntKind) (m : Int), cst1 (.int k m) = .int k m) ∧
  (∀ (p : Bool), cst1 (.bool p) = .bool p) ∧
  (∀ (s : ByteArray), cst1 (.string s) = .str s) ∧
  (cst1 (.slice none 0 0) = .nils) ∧
  (cst1 (.pointer none) = .nilp) ∧
  (cst1 .nilFunc = .nilf) ∧
  (∀ (C : Cx) (mb : Nat → Bool) (d : Option Tmp) (x : Operand) (ty : TypeId) (pos : String) (af : Array Edge) (gd : Option (Nat × Bool)) (ρ : Operand → AV) (G : Heap) (K : AV → Heap → Prop), stepK C mb ⟨d, .move x, ty, pos, af, gd⟩ ρ G K = (letX (ρ x) fun vx' => K vx' G)) ∧
  (∀ (C : Cx) (mb : Nat → Bool) (d : Option Tmp) (x : Operand) (ty : TypeId) (pos : String) (af : Array Edge) (gd : Option (Nat × Bool)) (ρ : Operand → AV) (G : Heap) (K : AV → Heap → Prop), stepK C mb ⟨d, .assign x, ty, pos, af, gd⟩ ρ G K = (letX (ρ x) fun vx' => K vx' G)) ∧
  (∀ (C : Cx) (mb : Nat → Bool) (d : Option Tmp) (x : Operand) (y : Operand) (z : Operand) (ty : TypeId) (pos : String) (af : Array Edge) (gd : Option (Nat × Bool)) (ρ : Operand → AV) (G : Heap) (K : AV → Heap → Prop), stepK C mb ⟨d, .pick x y z, ty, pos, af, gd⟩ ρ G K = (letX (ρ x) fun vx' => letX (ρ y) fun vy' => letX (ρ z) fun vz' => (match vx' with
    | .bool t => K (if t then vy' else vz') G
    | _ => False))) ∧
  (∀ (C : Cx) (mb : Nat → Bool) (d : Option Tmp) (t : TypeId) (ty : TypeId) (pos : String) (af : Array Edge) (gd : Option (Nat × Bool)) (ρ : Operand → AV) (G : Heap) (K : AV → Heap → Prop), stepK C mb ⟨d, .alloc t, ty, pos, af, gd⟩ ρ G K = (letX (C.ti t) fun m3' => match m3' with
    | some i => letX i.zs fun z' => letX i.sz fun s' => z'.all AV.isCell = true ∧ K (.ptr G.next 0) (G.push ⟨s', fun j => z'.getD j .undef⟩)
    | none => False)) ∧
  (∀ (C : Cx) (mb : Nat → Bool) (d : Option Tmp) (t : TypeId) (x : Operand) (y : Operand) (ty : TypeId) (pos : String) (af : Array Edge) (gd : Option (Nat × Bool)) (ρ : Operand → AV) (G : Heap) (K : AV → Heap → Prop), stepK C mb ⟨d, .makeSlice t x y, ty, pos, af, gd⟩ ρ G K = (letX (ρ x) fun vx' => letX (ρ y) fun vy' => (letX (C.el t) fun m4' => match m4', vx', vy' with
    | some e, .int _ n, .int _ m => (letX (C.ti e) fun m5' => match m5' with
      | some i => (0 ≤ n ∧ n ≤ m ∧ (i.by' : Int) * m ≤ 140737488355328 ∧ m ≤ 140737488355328 ∧ i.zs.all AV.isCell = true) ∧ K (.sl G.next 0 n.toNat (decide (n = m)) i.sz) (G.push ⟨n.toNat * i.sz, fun j => i.zs.getD (j % i.sz) .undef⟩)
      | none => False)
    | _, _, _ => False))) ∧
  (∀ (C : Cx) (mb : Nat → Bool) (i : Nat) (t : TypeId) (x : Operand) (ty : TypeId) (pos : String) (af : Array Edge) (gd : Option (Nat × Bool)) (ρ : Operand → AV) (G : Heap) (K : AV → Heap → Prop), stepK C mb ⟨some i, .box t x, ty, pos, af, gd⟩ ρ G K = (letX (ρ x) fun vx' => (letX (mb i) fun m6' => match m6' with
    | true => letX vx'.cells fun c' => c'.all AV.isCell = true ∧ K (.ptr G.next 0) (G.push ⟨c'.length, fun j => c'.getD j .undef⟩)
    | false => letX vx'.cells fun c' => c'.all AV.isCell = true ∧ K (.ref c') G))) ∧
  (∀ (C : Cx) (mb : Nat → Bool) (i : Nat) (t : TypeId) (n : Nat) (ps : Array (Nat × Operand)) (ty : TypeId) (pos : String) (af : Array Edge) (gd : Option (Nat × Bool)) (ρ : Operand → AV) (G : Heap) (K : AV → Heap → Prop), stepK C mb ⟨some i, .buildSlice t n ps, ty, pos, af, gd⟩ ρ G K = (letX (mb i) fun m7' => match m7' with
    | true => elsK C ρ t n ps fun sz cs => K (.sl G.next 0 n true sz) (G.push ⟨n * sz, fun j => cs.getD j .undef⟩)
    | false => (match n with
      | 0 => elsK C ρ t 0 ps fun _ _ => K .nils G
      | n + 1 => elsK C ρ t (n + 1) ps fun sz cs => K (.lst sz (n + 1) fun i => (cs.drop (i * sz)).take sz) G))) ∧
  (∀ (C : Cx) (ρ : Operand → AV) (t : TypeId) (n : Nat) (ps : Array (Nat × Operand)) (KK : Nat → List AV → Prop), elsK C ρ t n ps KK = (letX (C.el t) fun m8' => match m8' with
    | none => False
    | some e => letX (C.ti e) fun m9' => match m9' with
      | none => False
      | some i => letX i.sz fun s' => letX i.zs fun z' => (n * s' ≤ 16777216 ∧ n ≤ 16777216 ∧ z'.all AV.isCell = true) ∧ letX ps.toList fun p' => letX (n * s') fun n' => partsF C (fun k => some (k * s', s')) ρ p' n' (fun j => z'.getD (j % s') .undef) (KK s'))) ∧
  (∀ (C : Cx) (mb : Nat → Bool) (d : Option Tmp) (t : TypeId) (x : Operand) (y : Operand) (ty : TypeId) (pos : String) (af : Array Edge) (gd : Option (Nat × Bool)) (ρ : Operand → AV) (G : Heap) (K : AV → Heap → Prop), stepK C mb ⟨d, .store t x y, ty, pos, af, gd⟩ ρ G K = (letX (ρ x) fun vx' => letX (ρ y) fun vy' => stoK C G t vx' vy' fun G' => K .undef G')) ∧
  (∀ (C : Cx) (G : Heap) (t : TypeId) (bb : Nat) (off : Nat) (v : AV) (KH : Heap → Prop), stoK C G t (.ptr bb off) v KH = (letX (C.ti t) fun m10' => match m10' with
    | none => False
    | some i => (letX (G.get bb) fun m11' => match m11' with
      | some blk => letX v.cells fun c' => letX i.sz fun s' => (c'.length = s' ∧ off + s' ≤ blk.n ∧ c'.all AV.isCell = true) ∧ KH (G.set bb (some ⟨blk.n, setL blk.f off c'⟩))
      | none => False))) ∧
  (∀ (C : Cx) (mb : Nat → Bool) (d : Option Tmp) (x : Operand) (y : Operand) (t : TypeId) (u : TypeId) (ty : TypeId) (pos : String) (af : Array Edge) (gd : Option (Nat × Bool)) (ρ : Operand → AV) (G : Heap) (K : AV → Heap → Prop), stepK C mb ⟨d, .call ⟨.builtin .append, #[x, y], #[t, u]⟩, ty, pos, af, gd⟩ ρ G K = (letX (ρ x) fun vx' => letX (ρ y) fun vy' => appK C G t u vx' vy' K)) ∧
  (∀ (C : Cx) (mb : Nat → Bool) (d : Option Tmp) (x : Operand) (t : TypeId) (ty : TypeId) (pos : String) (af : Array Edge) (gd : Option (Nat × Bool)) (ρ : Operand → AV) (G : Heap) (K : AV → Heap → Prop), stepK C mb ⟨d, .call ⟨.builtin .len, #[x], #[t]⟩, ty, pos, af, gd⟩ ρ G K = (letX (ρ x) fun vx' => (match vx' with
        | .str s => C.isStr t = true ∧ K (.int .i64 s.size) G
        | .mp b => (C.mt t).isSome = true ∧ mapAt G (.mp b) fun b clock born ks vs => K (.int .i64 ks.length) G
        | v => (letX (lenOf v) fun m12' => match m12' with
          | some n => (C.el t).isSome = true ∧ K (.int .i64 n) G
          | none => False)))) ∧
  (∀ (C : Cx) (mb : Nat → Bool) (d : Option Tmp) (x : Operand) (y : Operand) (t : TypeId) (u : TypeId) (ty : TypeId) (pos : String) (af : Array Edge) (gd : Option (Nat × Bool)) (ρ : Operand → AV) (G : Heap) (K : AV → Heap → Prop), stepK C mb ⟨d, .call ⟨.builtin .delete, #[x, y], #[t, u]⟩, ty, pos, af, gd⟩ ρ G K = (letX (ρ x) fun vx' => letX (ρ y) fun vy' => delK C G t vx' vy' fun G' => K (.tup []) G')) ∧
  (∀ (C : Cx) (mb : Nat → Bool) (d : Option Tmp) (t : TypeId) (ty : TypeId) (pos : String) (af : Array Edge) (gd : Option (Nat × Bool)) (ρ : Operand → AV) (G : Heap) (K : AV → Heap → Prop), stepK C mb ⟨d, .makeMap t none, ty, pos, af, gd⟩ ρ G K = K (.mp G.next) (G.push ⟨0, fun _ => .mapc 0 [] [] []⟩)) ∧
  (∀ (C : Cx) (mb : Nat → Bool) (d : Option Tmp) (t : TypeId) (x : Operand) (y : Operand) (z : Operand) (ty : TypeId) (pos : String) (af : Array Edge) (gd : Option (Nat × Bool)) (ρ : Operand → AV) (G : Heap) (K : AV → Heap → Prop), stepK C mb ⟨d, .mapUpdate t x y z, ty, pos, af, gd⟩ ρ G K = (letX (ρ x) fun vx' => letX (ρ y) fun vy' => letX (ρ z) fun vz' => updK C G t vx' vy' vz' fun G' => K .undef G')) ∧
  (∀ (C : Cx) (mb : Nat → Bool) (d : Option Tmp) (t : TypeId) (x : Operand) (y : Operand) (z : Operand) (ty : TypeId) (pos : String) (af : Array Edge) (gd : Option (Nat × Bool)) (ρ : Operand → AV) (G : Heap) (K : AV → Heap → Prop), stepK C mb ⟨d, .insert t x y z, ty, pos, af, gd⟩ ρ G K = (letX (ρ x) fun vx' => letX (ρ y) fun vy' => letX (ρ z) fun vz' => updK C G t vx' vy' vz' fun G' => K .undef G')) ∧
  (∀ (C : Cx) (mb : Nat → Bool) (d : Option Tmp) (t : TypeId) (x : Operand) (y : Operand) (p : Bool) (ty : TypeId) (pos : String) (af : Array Edge) (gd : Option (Nat × Bool)) (ρ : Operand → AV) (G : Heap) (K : AV → Heap → Prop), stepK C mb ⟨d, .lookup t x y p, ty, pos, af, gd⟩ ρ G K = (letX (ρ x) fun vx' => letX (ρ y) fun vy' => lookK C G t vx' vy' p fun r => K r G)) ∧
  (∀ (C : Cx) (mb : Nat → Bool) (d : Option Tmp) (t : TypeId) (x : Operand) (ty : TypeId) (pos : String) (af : Array Edge) (gd : Option (Nat × Bool)) (ρ : Operand → AV) (G : Heap) (K : AV → Heap → Prop), stepK C mb ⟨d, .range t x, ty, pos, af, gd⟩ ρ G K = (letX (ρ x) fun vx' => ((C.mt t).isSome = true ∧ mapAt G vx' fun b clock born ks vs => K (.itp G.next) (G.push ⟨0, fun _ => .iterc b clock [] clock⟩)))) ∧
  (∀ (C : Cx) (mb : Nat → Bool) (d : Option Tmp) (x : Operand) (ty : TypeId) (pos : String) (af : Array Edge) (gd : Option (Nat × Bool)) (ρ : Operand → AV) (G : Heap) (K : AV → Heap → Prop), stepK C mb ⟨d, .next x false, ty, pos, af, gd⟩ ρ G K = (letX (ρ x) fun vx' => nextK G vx' K)) ∧
  (∀ (C : Cx) (mb : Nat → Bool) (d : Option Tmp) (x : Operand) (ty : TypeId) (pos : String) (af : Array Edge) (gd : Option (Nat × Bool)) (ρ : Operand → AV) (G : Heap) (K : AV → Heap → Prop), stepK C mb ⟨d, .entry x, ty, pos, af, gd⟩ ρ G K = (letX (ρ x) fun vx' => entryK G vx' fun r => K r G)) ∧
  (∀ (G : Heap) (bb : Nat) (KM : Nat → Nat → List Nat → List AV → List AV → Prop), mapAt G (.mp bb) KM = (letX (G.get bb) fun m13' => match m13' with
    | some blk => (letX (blk.f 0) fun m14' => match m14' with
      | .mapc clock born ks vs => KM bb clock born ks vs
      | _ => False)
    | none => False)) ∧
  (∀ (C : Cx) (G : Heap) (t : TypeId) (av : AV) (aw : AV) (ax : AV) (KH : Heap → Prop), updK C G t av aw ax KH = (letX (C.mt t) fun m15' => match m15' with
  | some q => mapAt G av fun b clock born ks vs => (letX (findK aw ks) fun m16' => match m16' with
    | some r => KeyT C q.1 aw ∧ KH (G.set b (some ⟨0, fun _ => mput clock born ks vs aw ax r⟩))
    | none => False)
  | none => False)) ∧
  (∀ (C : Cx) (G : Heap) (t : TypeId) (av : AV) (aw : AV) (KH : Heap → Prop), delK C G t av aw KH = (letX (C.mt t) fun m17' => match m17' with
  | some q => mapAt G av fun b clock born ks vs => (letX (findK aw ks) fun m18' => match m18' with
    | some r => KeyT C q.1 aw ∧ KH (G.set b (some ⟨0, fun _ => mdel clock born ks vs r⟩))
    | none => False)
  | none => False)) ∧
  (∀ (C : Cx) (G : Heap) (t : TypeId) (av : AV) (aw : AV) (p : Bool) (KA : AV → Prop), lookK C G t av aw p KA = (letX (C.mt t) fun m19' => match m19' with
  | some q => mapAt G av fun b clock born ks vs => (letX (findK aw ks) fun m20' => match m20' with
    | some (some i) => KeyT C q.1 aw ∧ KA (if p then .tup [vs.getD i .undef, .bool true] else vs.getD i .undef)
    | some none => (letX (C.zv q.2) fun m21' => match m21' with
      | some z => KeyT C q.1 aw ∧ KA (if p then .tup [z, .bool false] else z)
      | none => False)
    | none => False)
  | none => False)) ∧
  (∀ (G : Heap) (bb : Nat) (K : AV → Heap → Prop), nextK G (.itp bb) K = (letX (G.get bb) fun m22' => match m22' with
    | some blk => (letX (blk.f 0) fun m23' => match m23' with
      | .iterc b since seen stepped => mapAt G (.mp b) fun _ clock born ks vs => (since = clock ∧ stepped = clock ∧ ∀ x ∈ born, x < clock) ∧ ((∀ x ∈ born, x ∈ seen) → K (.tup [.bool false]) G) ∧
          ∀ i s, born[i]? = some s → ¬ s ∈ seen → K (.tup [.bool true, ks.getD i .undef, vs.getD i .undef]) (G.set bb (some ⟨0, fun _ => .iterc b since (seen ++ [s]) clock⟩))
      | _ => False)
    | none => False)) ∧
  (∀ (G : Heap) (bb : Nat) (KA : AV → Prop), entryK G (.itp bb) KA = (letX (G.get bb) fun m24' => match m24' with
    | some blk => (letX (blk.f 0) fun m25' => match m25' with
      | .iterc b since seen stepped => mapAt G (.mp b) fun _ clock born ks vs => stepped = clock ∧ ∃ s i, seen.getLast? = some s ∧ born[i]? = some s ∧ (∀ j, j < i → born[j]? ≠ some s) ∧ KA (.tup [ks.getD i .undef, vs.getD i .undef])
      | _ => False)
    | none => False)) ∧
  (∀ (n : Nat) (nl : List Nat) (vs : List AV) (us : List AV) (av : AV) (aw : AV), mput n nl vs us av aw none = .mapc (n + 1) (nl ++ [n]) (vs ++ [av]) (us ++ [aw])) ∧
  (∀ (n : Nat) (nl : List Nat) (vs : List AV) (us : List AV) (av : AV) (aw : AV) (i : Nat), mput n nl vs us av aw (some i) = .mapc n nl vs (us.set i aw)) ∧
  (∀ (n : Nat) (nl : List Nat) (vs : List AV) (us : List AV), mdel n nl vs us none = .mapc n nl vs us) ∧
  (∀ (n : Nat) (nl : List Nat) (vs : List AV) (us : List AV) (i : Nat), mdel n nl vs us (some i) = .mapc n (nl.eraseIdx i) (vs.eraseIdx i) (us.eraseIdx i)) ∧
  (∀ (bb : Nat), AV.cells (.mp bb) = [.mp bb]) ∧
  (AV.cells .nilm = [.nilm]) ∧
  (∀ (bb : Nat), AV.cells (.itp bb) = [.itp bb]) ∧
  (∀ (bb : Nat), AV.isCell (.mp bb) = true) ∧
  (AV.isCell .nilm = true) ∧
  (∀ (bb : Nat), AV.isCell (.itp bb) = true) ∧
  (∀ (C : Cx) (mb : Nat → Bool) (d : Option Tmp) (x : Operand) (y : Operand) (t : TypeId) (u : TypeId) (ty : TypeId) (pos : String) (af : Array Edge) (gd : Option (Nat × Bool)) (ρ : Operand → AV) (G : Heap) (K : AV → Heap → Prop), stepK C mb ⟨d, .call ⟨.builtin .min, #[x, y], #[t, u]⟩, ty, pos, af, gd⟩ ρ G K = (letX (ρ x) fun vx' => letX (ρ y) fun vy' => minmaxK false [vx', vy'] fun r => K r G)) ∧
  (∀ (C : Cx) (mb : Nat → Bool) (d : Option Tmp) (x : Operand) (y : Operand) (t : TypeId) (u : TypeId) (ty : TypeId) (pos : String) (af : Array Edge) (gd : Option (Nat × Bool)) (ρ : Operand → AV) (G : Heap) (K : AV → Heap → Prop), stepK C mb ⟨d, .call ⟨.builtin .max, #[x, y], #[t, u]⟩, ty, pos, af, gd⟩ ρ G K = (letX (ρ x) fun vx' => letX (ρ y) fun vy' => minmaxK true [vx', vy'] fun r => K r G)) ∧
  (∀ (k : IntKind) (a : Int) (k' : IntKind) (b : Int) (KA : AV → Prop), minmaxK false [.int k a, .int k' b] KA = (k = k' ∧ KA (.int k (if b < a then b else a)))) ∧
  (∀ (k : IntKind) (a : Int) (k' : IntKind) (b : Int) (KA : AV → Prop), minmaxK true [.int k a, .int k' b] KA = (k = k' ∧ KA (.int k (if b > a then b else a)))) ∧
  (∀ (C : Cx) (mb : Nat → Bool) (d : Option Tmp) (t : TypeId) (ps : Array (Nat × Operand)) (ty : TypeId) (pos : String) (af : Array Edge) (gd : Option (Nat × Bool)) (ρ : Operand → AV) (G : Heap) (K : AV → Heap → Prop), stepK C mb ⟨d, .build t ps, ty, pos, af, gd⟩ ρ G K = (C.bld t = true ∧ letX (C.ti t) fun m26' => match m26' with
    | some i => letX i.zs fun z' => i.ag = true ∧ letX ps.toList fun p' => letX z'.length fun n' => partsF C (C.place t) ρ p' n' (fun j => z'.getD j .undef) fun cs => K (.agg cs) G
    | none => False)) ∧
  (∀ (C : Cx) (mb : Nat → Bool) (d : Option Tmp) (t : TypeId) (x : Operand) (ty : TypeId) (pos : String) (af : Array Edge) (gd : Option (Nat × Bool)) (ρ : Operand → AV) (G : Heap) (K : AV → Heap → Prop), stepK C mb ⟨d, .load t x, ty, pos, af, gd⟩ ρ G K = (letX (ρ x) fun vx' => (letX (C.ti t) fun m27' => match m27' with
    | some i => letX i.sz fun sz' => letX i.ag fun ag' => rdK G vx' sz' fun cs => mkK ag' cs fun r => K r G
    | none => False))) ∧
  (∀ (C : Cx) (mb : Nat → Bool) (d : Option Tmp) (x : Operand) (ty : TypeId) (pos : String) (af : Array Edge) (gd : Option (Nat × Bool)) (ρ : Operand → AV) (G : Heap) (K : AV → Heap → Prop), stepK C mb ⟨d, .nilCheck x, ty, pos, af, gd⟩ ρ G K = (letX (ρ x) fun vx' => (match vx' with
    | .ptr b o => K (.ptr b o) G
    | .ref cs => K (.ref cs) G
    | .fn f a b => K (.fn f a b) G
    | _ => False))) ∧
  (∀ (C : Cx) (mb : Nat → Bool) (d : Option Tmp) (bop : BinOp) (t : TypeId) (x : Operand) (y : Operand) (u : TypeId) (ty : TypeId) (pos : String) (af : Array Edge) (gd : Option (Nat × Bool)) (ρ : Operand → AV) (G : Heap) (K : AV → Heap → Prop), stepK C mb ⟨d, .binOp bop t x y u, ty, pos, af, gd⟩ ρ G K = (letX (ρ x) fun vx' => letX (ρ y) fun vy' => binK C bop t vx' vy' fun r => K r G)) ∧
  (∀ (C : Cx) (mb : Nat → Bool) (d : Option Tmp) (uop : UnOp) (t : TypeId) (x : Operand) (ty : TypeId) (pos : String) (af : Array Edge) (gd : Option (Nat × Bool)) (ρ : Operand → AV) (G : Heap) (K : AV → Heap → Prop), stepK C mb ⟨d, .unOp uop t x, ty, pos, af, gd⟩ ρ G K = (letX (ρ x) fun vx' => unK uop vx' fun r => K r G)) ∧
  (∀ (C : Cx) (mb : Nat → Bool) (d : Option Tmp) (t : TypeId) (u : TypeId) (x : Operand) (ty : TypeId) (pos : String) (af : Array Edge) (gd : Option (Nat × Bool)) (ρ : Operand → AV) (G : Heap) (K : AV → Heap → Prop), stepK C mb ⟨d, .convert t u x, ty, pos, af, gd⟩ ρ G K = (letX (ρ x) fun vx' => (letX (C.ik u) fun m28' => match m28', vx' with
    | some k, .int _ n => (C.P.underlying t).isSome = true ∧ K (.int k (k.wrap n)) G
    | _, _ => False))) ∧
  (∀ (C : Cx) (mb : Nat → Bool) (d : Option Tmp) (i : Nat) (as' : Array Operand) (la : List Operand) (ty : TypeId) (pos : String) (af : Array Edge) (gd : Option (Nat × Bool)) (ρ : Operand → AV) (G : Heap) (K : AV → Heap → Prop), stepK C mb ⟨d, .makeFunc (.func i) as' ⟨la⟩, ty, pos, af, gd⟩ ρ G K = K (.fn i (as'.toList.map ρ) (la.map ρ)) G) ∧
  (∀ (C : Cx) (mb : Nat → Bool) (d : Option Tmp) (t : TypeId) (x : Operand) (lo : Option Operand) (hi : Option Operand) (mx : Option Operand) (ty : TypeId) (pos : String) (af : Array Edge) (gd : Option (Nat × Bool)) (ρ : Operand → AV) (G : Heap) (K : AV → Heap → Prop), stepK C mb ⟨d, .slice t x lo hi mx, ty, pos, af, gd⟩ ρ G K = (letX (ρ x) fun vx' => sliceK C ρ t vx' lo hi mx fun r => K r G)) ∧
  (∀ (C : Cx) (mb : Nat → Bool) (d : Option Tmp) (t : TypeId) (x : Operand) (i : Nat) (ty : TypeId) (pos : String) (af : Array Edge) (gd : Option (Nat × Bool)) (ρ : Operand → AV) (G : Heap) (K : AV → Heap → Prop), stepK C mb ⟨d, .fieldAddr t x i, ty, pos, af, gd⟩ ρ G K = (letX (ρ x) fun vx' => (letX (C.fd t i) fun m29' => match m29' with
    | some (off, u) => (letX (C.ti u) fun m30' => match m30' with
      | some ti => ti.sz ≠ 0 ∧ (match vx' with
        | .ptr b o => K (.ptr b (o + off)) G
        | .ref cs => K (.ref (cs.drop off)) G
        | _ => False)
      | none => False)
    | none => False))) ∧
  (∀ (C : Cx) (mb : Nat → Bool) (d : Option Tmp) (t : TypeId) (x : Operand) (i : Nat) (ty : TypeId) (pos : String) (af : Array Edge) (gd : Option (Nat × Bool)) (ρ : Operand → AV) (G : Heap) (K : AV → Heap → Prop), stepK C mb ⟨d, .field t x i, ty, pos, af, gd⟩ ρ G K = (letX (ρ x) fun vx' => (letX (C.fd t i) fun m31' => match m31', vx' with
    | some (off, u), .agg cs => (letX (C.ti u) fun m32' => match m32' with
      | some ti => partK ti off cs fun r => K r G
      | none => False)
    | _, _ => False))) ∧
  (∀ (C : Cx) (mb : Nat → Bool) (d : Option Tmp) (t : TypeId) (x : Operand) (y : Operand) (ty : TypeId) (pos : String) (af : Array Edge) (gd : Option (Nat × Bool)) (ρ : Operand → AV) (G : Heap) (K : AV → Heap → Prop), stepK C mb ⟨d, .indexAddr t x y, ty, pos, af, gd⟩ ρ G K = (letX (ρ x) fun vx' => letX (ρ y) fun vy' => (match vy' with
    | .int _ i => idxK C t vx' i fun r => K r G
    | _ => False))) ∧
  (∀ (C : Cx) (mb : Nat → Bool) (d : Option Tmp) (t : TypeId) (x : Operand) (y : Operand) (ty : TypeId) (pos : String) (af : Array Edge) (gd : Option (Nat × Bool)) (ρ : Operand → AV) (G : Heap) (K : AV → Heap → Prop), stepK C mb ⟨d, .index t x y, ty, pos, af, gd⟩ ρ G K = (letX (ρ x) fun vx' => letX (ρ y) fun vy' => (letX (C.ar t) fun m33' => match vy', vx', m33' with
    | .int _ i, .agg cs, some (n, e) => (letX (C.ti e) fun m34' => match m34' with
      | some ti => (0 ≤ i ∧ i < (n : Int)) ∧ partK ti (i.toNat * ti.sz) cs fun r => K r G
      | none => False)
    | _, _, _ => False))) ∧
  (∀ (C : Cx) (mb : Nat → Bool) (d : Option Tmp) (x : Operand) (i : Nat) (ty : TypeId) (pos : String) (af : Array Edge) (gd : Option (Nat × Bool)) (ρ : Operand → AV) (G : Heap) (K : AV → Heap → Prop), stepK C mb ⟨d, .extract x i, ty, pos, af, gd⟩ ρ G K = (letX (ρ x) fun vx' => (match vx' with
    | .tup vs => (letX (vs[i]?) fun m35' => match m35' with
      | some v => K v G
      | none => False)
    | _ => False))) ∧
  (∀ (G : Heap) (vs : List AV) (sz : Nat) (KL : List AV → Prop), rdK G (.ref vs) sz KL = (sz ≤ vs.length ∧ letX (vs.take sz) fun l' => KL l')) ∧
  (∀ (G : Heap) (bb : Nat) (off : Nat) (sz : Nat) (KL : List AV → Prop), rdK G (.ptr bb off) sz KL = (letX (G.get bb) fun m36' => match m36' with
    | some blk => off + sz ≤ blk.n ∧ letX (tab sz fun j => blk.f (off + j)) fun l' => KL l'
    | none => False)) ∧
  (∀ (vs : List AV) (KA : AV → Prop), mkK true vs KA = KA (.agg vs)) ∧
  (∀ (v : AV) (KA : AV → Prop), mkK false [v] KA = KA v) ∧
  (∀ (C : Cx) (bop : BinOp) (t : TypeId) (k : IntKind) (a : Int) (k' : IntKind) (b : Int) (KA : AV → Prop), binK C bop t (.int k a) (.int k' b) KA = (k = k' ∧ intOp bop k a b KA)) ∧
  (∀ (k : IntKind) (a : Int) (b : Int) (KA : AV → Prop), intOp .add k a b KA = KA (.int k (k.wrap (a + b)))) ∧
  (∀ (k : IntKind) (a : Int) (b : Int) (KA : AV → Prop), intOp .sub k a b KA = KA (.int k (k.wrap (a - b)))) ∧
  (∀ (k : IntKind) (a : Int) (b : Int) (KA : AV → Prop), intOp .mul k a b KA = KA (.int k (k.wrap (a * b)))) ∧
  (∀ (k : IntKind) (a : Int) (b : Int) (KA : AV → Prop), intOp .quo k a b KA = (b ≠ 0 ∧ KA (.int k (k.wrap (a.tdiv b))))) ∧
  (∀ (k : IntKind) (a : Int) (b : Int) (KA : AV → Prop), intOp .rem k a b KA = (b ≠ 0 ∧ KA (.int k (a.tmod b)))) ∧
  (∀ (k : IntKind) (a : Int) (b : Int) (KA : AV → Prop), intOp .eql k a b KA = KA (.bool (a == b))) ∧
  (∀ (k : IntKind) (a : Int) (b : Int) (KA : AV → Prop), intOp .neq k a b KA = KA (.bool (a != b))) ∧
  (∀ (k : IntKind) (a : Int) (b : Int) (KA : AV → Prop), intOp .lss k a b KA = KA (.bool (decide (a < b)))) ∧
  (∀ (k : IntKind) (a : Int) (b : Int) (KA : AV → Prop), intOp .leq k a b KA = KA (.bool (decide (a ≤ b)))) ∧
  (∀ (k : IntKind) (a : Int) (b : Int) (KA : AV → Prop), intOp .gtr k a b KA = KA (.bool (decide (a > b)))) ∧
  (∀ (k : IntKind) (a : Int) (b : Int) (KA : AV → Prop), intOp .geq k a b KA = KA (.bool (decide (a ≥ b)))) ∧
  (∀ (k : IntKind) (a : Int) (b : Int) (KA : AV → Prop), intOp .and k a b KA = KA (.int k (k.wrap (BitVec.ofInt k.bits a &&& BitVec.ofInt k.bits b).toNat))) ∧
  (∀ (k : IntKind) (a : Int) (b : Int) (KA : AV → Prop), intOp .xor k a b KA = KA (.int k (k.wrap (BitVec.ofInt k.bits a ^^^ BitVec.ofInt k.bits b).toNat))) ∧
  (∀ (C : Cx) (bop : BinOp) (t : TypeId) (p : Bool) (q : Bool) (KA : AV → Prop), binK C bop t (.bool p) (.bool q) KA = (C.isBool t = true ∧ eqOp bop (p == q) KA)) ∧
  (∀ (C : Cx) (bop : BinOp) (t : TypeId) (vs : List AV) (us : List AV) (KA : AV → Prop), binK C bop t (.agg vs) (.agg us) KA = (letX (intL vs) fun m37' => letX (intL us) fun m38' => match m37', m38' with
    | some xs, some ys => (AggEq C t xs.length ∧ ys.length = xs.length) ∧ eqOp bop (decide (xs = ys)) KA
    | _, _ => False)) ∧
  (intL [] = some []) ∧
  (∀ (m : Int) (vs : List AV), intL (.int .i64 m :: vs) = (letX (intL vs) fun m39' => match m39' with
    | some ns => some (m :: ns)
    | none => none)) ∧
  (∀ (C : Cx) (bop : BinOp) (t : TypeId) (KA : AV → Prop), binK C bop t .nilf .nilf KA = (C.isFn t = true ∧ eqOp bop true KA)) ∧
  (∀ (C : Cx) (bop : BinOp) (t : TypeId) (i : Nat) (vs : List AV) (us : List AV) (KA : AV → Prop), binK C bop t (.fn i vs us) .nilf KA = (C.isFn t = true ∧ eqOp bop false KA)) ∧
  (([] : List Int).length = 0) ∧
  (∀ (m : Int) (zl : List Int), (m :: zl).length = zl.length + 1) ∧
  (∀ (p : Bool) (KA : AV → Prop), eqOp .eql p KA = KA (.bool p)) ∧
  (∀ (p : Bool) (KA : AV → Prop), eqOp .neq p KA = KA (.bool !p)) ∧
  (∀ (C : Cx) (bop : BinOp) (t : TypeId) (KA : AV → Prop), binK C bop t .nilp .nilp KA = (C.isPtr t = true ∧ eqOp bop true KA)) ∧
  (∀ (C : Cx) (bop : BinOp) (t : TypeId) (bb : Nat) (off : Nat) (KA : AV → Prop), binK C bop t (.ptr bb off) .nilp KA = (C.isPtr t = true ∧ eqOp bop false KA)) ∧
  (∀ (C : Cx) (bop : BinOp) (t : TypeId) (vs : List AV) (KA : AV → Prop), binK C bop t (.ref vs) .nilp KA = (C.isPtr t = true ∧ eqOp bop false KA)) ∧
  (∀ (p : Bool) (KA : AV → Prop), unK .not (.bool p) KA = KA (.bool !p)) ∧
  (∀ (k : IntKind) (m : Int) (KA : AV → Prop), unK .neg (.int k m) KA = KA (.int k (k.wrap (0 - m)))) ∧
  (∀ (bb : Nat) (off : Nat) (len : Nat) (p : Bool) (sz : Nat), lenOf (.sl bb off len p sz) = some len) ∧
  (∀ (sz : Nat) (n : Nat) (f : Nat → List AV), lenOf (.lst sz n f) = some n) ∧
  (lenOf .nils = some 0) ∧
  (lenOf .emp = some 0) ∧
  (∀ (vs : List AV), AV.cells (.agg vs) = vs) ∧
  (∀ (p : Bool), AV.cells (.bool p) = [.bool p]) ∧
  (∀ (k : IntKind) (m : Int), AV.cells (.int k m) = [.int k m]) ∧
  (∀ (s : ByteArray), AV.cells (.str s) = [.str s]) ∧
  (AV.cells .nilp = [.nilp]) ∧
  (∀ (bb : Nat) (off : Nat), AV.cells (.ptr bb off) = [.ptr bb off]) ∧
  (∀ (vs : List AV), AV.cells (.ref vs) = [.ref vs]) ∧
  (AV.cells .nils = [.nils]) ∧
  (AV.cells .emp = [.emp]) ∧
  (∀ (bb : Nat) (off : Nat) (len : Nat) (p : Bool) (sz : Nat), AV.cells (.sl bb off len p sz) = [.sl bb off len p sz]) ∧
  (∀ (sz : Nat) (n : Nat) (f : Nat → List AV), AV.cells (.lst sz n f) = [.lst sz n f]) ∧
  (AV.cells .nilf = [.nilf]) ∧
  (∀ (g : FuncId) (vs : List AV) (us : List AV), AV.cells (.fn g vs us) = [.fn g vs us]) ∧
  (∀ (p : Bool), AV.isCell (.bool p) = true) ∧
  (∀ (k : IntKind) (m : Int), AV.isCell (.int k m) = true) ∧
  (∀ (s : ByteArray), AV.isCell (.str s) = true) ∧
  (AV.isCell .nilp = true) ∧
  (∀ (bb : Nat) (off : Nat), AV.isCell (.ptr bb off) = true) ∧
  (∀ (vs : List AV), AV.isCell (.ref vs) = true) ∧
  (AV.isCell .nils = true) ∧
  (AV.isCell .emp = true) ∧
  (∀ (bb : Nat) (off : Nat) (len : Nat) (p : Bool) (sz : Nat), AV.isCell (.sl bb off len p sz) = true) ∧
  (∀ (sz : Nat) (n : Nat) (f : Nat → List AV), AV.isCell (.lst sz n f) = true) ∧
  (AV.isCell .nilf = true) ∧
  (∀ (g : FuncId) (vs : List AV) (us : List AV), AV.isCell (.fn g vs us) = true) ∧
  (∀ (C : Cx) (t : TypeId) (bb : Nat) (off : Nat) (len : Nat) (p : Bool) (sz : Nat) (m : Int) (KA : AV → Prop), idxK C t (.sl bb off len p sz) m KA = (letX (C.el t) fun m40' => match m40' with
    | some e => (letX (C.ti e) fun m41' => match m41' with
      | none => False
      | some ti => sz = ti.sz ∧ (0 ≤ m ∧ m < (len : Int)) ∧ KA (.ptr bb (off + m.toNat * sz)))
    | none => False)) ∧
  (∀ (C : Cx) (t : TypeId) (sz : Nat) (n : Nat) (f : Nat → List AV) (m : Int) (KA : AV → Prop), idxK C t (.lst sz n f) m KA = (letX (C.el t) fun m42' => match m42' with
    | some e => (letX (C.ti e) fun m43' => match m43' with
      | none => False
      | some ti => sz = ti.sz ∧ (0 ≤ m ∧ m < (n : Int)) ∧ KA (.ref (f m.toNat)))
    | none => False)) ∧
  (∀ (C : Cx) (t : TypeId) (bb : Nat) (off : Nat) (m : Int) (KA : AV → Prop), idxK C t (.ptr bb off) m KA = (letX (C.el t) fun m44' => match m44' with
    | some e => False
    | none => (letX (C.ar t) fun m45' => match m45' with
      | none => False
      | some (n, e) => (letX (C.ti e) fun m46' => match m46' with
        | none => False
        | some ti => (0 ≤ m ∧ m < (n : Int)) ∧ KA (.ptr bb (off + m.toNat * ti.sz)))))) ∧
  (∀ (C : Cx) (t : TypeId) (vs : List AV) (m : Int) (KA : AV → Prop), idxK C t (.ref vs) m KA = (letX (C.el t) fun m47' => match m47' with
    | some e => False
    | none => (letX (C.ar t) fun m48' => match m48' with
      | none => False
      | some (n, e) => (letX (C.ti e) fun m49' => match m49' with
        | none => False
        | some ti => (0 ≤ m ∧ m < (n : Int)) ∧ KA (.ref (vs.drop (m.toNat * ti.sz))))))) ∧
  (∀ (C : Cx) (G : Heap) (env : Env) (KL : List AV → Prop), resK C G env [] KL = KL []) ∧
  (∀ (C : Cx) (G : Heap) (env : Env) (i : Nat) (rs : List ResultVar) (KL : List AV → Prop), resK C G env (.tmp i :: rs) KL = letX (env i) fun w' => resK C G env rs fun vs => KL (w' :: vs)) ∧
  (∀ (C : Cx) (G : Heap) (env : Env) (i : Nat) (t : TypeId) (rs : List ResultVar) (KL : List AV → Prop), resK C G env (.cell i t :: rs) KL = (letX (C.ti t) fun m50' => match m50' with
    | some q => letX (env i) fun w' => letX q.sz fun s' => letX q.ag fun a' => rdK G w' s' fun cs => mkK a' cs fun v => resK C G env rs fun vs => KL (v :: vs)
    | none => False)) ∧
  (∀ (v : AV) (KA : AV → Prop), oneK [v] KA = KA v) ∧
  (∀ (KA : AV → Prop), oneK [] KA = KA (.tup [])) ∧
  (∀ (av : AV) (aw : AV) (vs : List AV) (KA : AV → Prop), oneK (av :: aw :: vs) KA = KA (.tup (av :: aw :: vs))) ∧
  (∀ (C : Cx) (place : Nat → Option (Nat × Nat)) (ρ : Operand → AV) (n : Nat) (h : Nat → AV) (KL : List AV → Prop), partsF C place ρ [] n h KL = letX (tab n h) fun l' => KL l') ∧
  (∀ (C : Cx) (place : Nat → Option (Nat × Nat)) (ρ : Operand → AV) (i : Nat) (x : Operand) (pl : List (Nat × Operand)) (n : Nat) (h : Nat → AV) (KL : List AV → Prop), partsF C place ρ ((i, x) :: pl) n h KL = (letX (ρ x) fun vx' => (letX (place i) fun m51' => match m51' with
    | none => False
    | some (off, sz) => letX vx'.cells fun c' => c'.length = sz ∧ off + c'.length ≤ n ∧ (c'.all AV.isCell = true) ∧ partsF C place ρ pl n (setL h off c') KL))) ∧
  (∀ (C : Cx) (t : TypeId) (i : Nat), C.place t i = (letX (C.fd t i) fun m52' => match m52' with
    | some (off, u) => (C.ti u).map fun x => (off, x.sz)
    | none => letX (C.ar t) fun m53' => match m53' with
      | some (_, e) => (C.ti e).map fun x => (i * x.sz, x.sz)
      | none => none)) ∧
  (∀ (ti : TI) (i : Nat) (vs : List AV) (KA : AV → Prop), partK ti i vs KA = (letX (ti.ag) fun m54' => match m54' with
    | true => KA (.agg ((vs.drop i).take ti.sz))
    | false => letX (vs[i]?) fun m55' => match m55' with
      | some c => KA c
      | none => False)) ∧
  (∀ (h : Nat → AV), tab 0 h = []) ∧
  (∀ (h : Nat → AV), tab 1 h = [h 0]) ∧
  (∀ (h : Nat → AV), tab 2 h = [h 0, h 1]) ∧
  (∀ (h : Nat → AV), tab 3 h = [h 0, h 1, h 2]) ∧
  (∀ (h : Nat → AV), tab 4 h = [h 0, h 1, h 2, h 3]) ∧
  (∀ (h : Nat → AV), tab 6 h = [h 0, h 1, h 2, h 3, h 4, h 5]) ∧
  (∀ (h : Nat → AV) (i : Nat), setL h i [] = h) ∧
  (∀ (h : Nat → AV) (i : Nat) (v : AV) (vs : List AV), setL h i (v :: vs) = upd (setL h (i + 1) vs) i v) ∧
  (∀ (G : Heap) (blk : Blk), (G.push blk).next = G.next + 1) ∧
  (∀ (G : Heap) (blk : Blk), (G.push blk).get = upd G.get G.next (some blk)) ∧
  (∀ (G : Heap) (i : Nat) (ob : Option Blk), (G.set i ob).next = G.next) ∧
  (∀ (G : Heap) (i : Nat) (ob : Option Blk), (G.set i ob).get = upd G.get i ob) ∧
  (∀ (vs : List AV) (i : Nat), env0 vs i = vs.getD i .undef) ∧
  (∀ (h : Nat → AV) (i : Nat) (v : AV) (j : Nat), upd h i v j = if j = i then v else h j) ∧
  (∀ (C : Cx) (mb : Nat → Bool) (ba : Nat) (nn : Nat) (cf : List (Nat × Nat)) (ix : Nat) (acc : List Ent) (d : Option Tmp) (x : Operand) (ty : TypeId) (pos : String) (af : Array Edge) (gd : Option (Nat × Bool)) (ρ : Operand → AV) (G : Heap) (KX : AV → Heap → List Ent → Prop), stepX C mb ba nn cf ix acc ⟨d, .move x, ty, pos, af, gd⟩ ρ G KX = (letX (ρ x) fun vx' => KX vx' G acc)) ∧
  (∀ (C : Cx) (mb : Nat → Bool) (ba : Nat) (nn : Nat) (cf : List (Nat × Nat)) (ix : Nat) (acc : List Ent) (d : Option Tmp) (x : Operand) (ty : TypeId) (pos : String) (af : Array Edge) (gd : Option (Nat × Bool)) (ρ : Operand → AV) (G : Heap) (KX : AV → Heap → List Ent → Prop), stepX C mb ba nn cf ix acc ⟨d, .assign x, ty, pos, af, gd⟩ ρ G KX = (letX (ρ x) fun vx' => KX vx' G acc)) ∧
  (∀ (C : Cx) (mb : Nat → Bool) (ba : Nat) (nn : Nat) (cf : List (Nat × Nat)) (ix : Nat) (acc : List Ent) (d : Option Tmp) (x : Operand) (y : Operand) (z : Operand) (ty : TypeId) (pos : String) (af : Array Edge) (gd : Option (Nat × Bool)) (ρ : Operand → AV) (G : Heap) (KX : AV → Heap → List Ent → Prop), stepX C mb ba nn cf ix acc ⟨d, .pick x y z, ty, pos, af, gd⟩ ρ G KX = (letX (ρ x) fun vx' => letX (ρ y) fun vy' => letX (ρ z) fun vz' => (match vx' with
    | .bool t => KX (if t then vy' else vz') G acc
    | _ => False))) ∧
  (∀ (C : Cx) (mb : Nat → Bool) (ba : Nat) (nn : Nat) (cf : List (Nat × Nat)) (ix : Nat) (acc : List Ent) (d : Option Tmp) (x : Operand) (t : TypeId) (ty : TypeId) (pos : String) (af : Array Edge) (gd : Option (Nat × Bool)) (ρ : Operand → AV) (G : Heap) (KX : AV → Heap → List Ent → Prop), stepX C mb ba nn cf ix acc ⟨d, .call ⟨.builtin .len, #[x], #[t]⟩, ty, pos, af, gd⟩ ρ G KX = (letX (ρ x) fun vx' => (match vx' with
        | .str s => C.isStr t = true ∧ KX (.int .i64 s.size) G acc
        | v => (letX (lenOf v) fun m56' => match m56' with
          | some n => (C.el t).isSome = true ∧ KX (.int .i64 n) G acc
          | none => False)))) ∧
  (∀ (C : Cx) (mb : Nat → Bool) (ba : Nat) (nn : Nat) (cf : List (Nat × Nat)) (ix : Nat) (acc : List Ent) (d : Option Tmp) (x : Operand) (y : Operand) (t : TypeId) (u : TypeId) (ty : TypeId) (pos : String) (af : Array Edge) (gd : Option (Nat × Bool)) (ρ : Operand → AV) (G : Heap) (KX : AV → Heap → List Ent → Prop), stepX C mb ba nn cf ix acc ⟨d, .call ⟨.builtin .min, #[x, y], #[t, u]⟩, ty, pos, af, gd⟩ ρ G KX = (letX (ρ x) fun vx' => letX (ρ y) fun vy' => minmaxK false [vx', vy'] fun r => KX r G acc)) ∧
  (∀ (C : Cx) (mb : Nat → Bool) (ba : Nat) (nn : Nat) (cf : List (Nat × Nat)) (ix : Nat) (acc : List Ent) (d : Option Tmp) (x : Operand) (y : Operand) (t : TypeId) (u : TypeId) (ty : TypeId) (pos : String) (af : Array Edge) (gd : Option (Nat × Bool)) (ρ : Operand → AV) (G : Heap) (KX : AV → Heap → List Ent → Prop), stepX C mb ba nn cf ix acc ⟨d, .call ⟨.builtin .max, #[x, y], #[t, u]⟩, ty, pos, af, gd⟩ ρ G KX = (letX (ρ x) fun vx' => letX (ρ y) fun vy' => minmaxK true [vx', vy'] fun r => KX r G acc)) ∧
  (∀ (C : Cx) (mb : Nat → Bool) (ba : Nat) (nn : Nat) (cf : List (Nat × Nat)) (ix : Nat) (acc : List Ent) (d : Option Tmp) (t : TypeId) (ps : Array (Nat × Operand)) (ty : TypeId) (pos : String) (af : Array Edge) (gd : Option (Nat × Bool)) (ρ : Operand → AV) (G : Heap) (KX : AV → Heap → List Ent → Prop), stepX C mb ba nn cf ix acc ⟨d, .build t ps, ty, pos, af, gd⟩ ρ G KX = (C.bld t = true ∧ letX (C.ti t) fun m57' => match m57' with
    | some i => letX i.zs fun z' => i.ag = true ∧ letX ps.toList fun p' => letX z'.length fun n' => partsF C (C.place t) ρ p' n' (fun j => z'.getD j .undef) fun cs => KX (.agg cs) G acc
    | none => False)) ∧
  (∀ (C : Cx) (mb : Nat → Bool) (ba : Nat) (nn : Nat) (cf : List (Nat × Nat)) (ix : Nat) (acc : List Ent) (d : Option Tmp) (x : Operand) (ty : TypeId) (pos : String) (af : Array Edge) (gd : Option (Nat × Bool)) (ρ : Operand → AV) (G : Heap) (KX : AV → Heap → List Ent → Prop), stepX C mb ba nn cf ix acc ⟨d, .nilCheck x, ty, pos, af, gd⟩ ρ G KX = (letX (ρ x) fun vx' => (match vx' with
    | .ptr b o => KX (.ptr b o) G acc
    | .ref cs => KX (.ref cs) G acc
    | .fn f a b => KX (.fn f a b) G acc
    | _ => False))) ∧
  (∀ (C : Cx) (mb : Nat → Bool) (ba : Nat) (nn : Nat) (cf : List (Nat × Nat)) (ix : Nat) (acc : List Ent) (d : Option Tmp) (bop : BinOp) (t : TypeId) (x : Operand) (y : Operand) (u : TypeId) (ty : TypeId) (pos : String) (af : Array Edge) (gd : Option (Nat × Bool)) (ρ : Operand → AV) (G : Heap) (KX : AV → Heap → List Ent → Prop), stepX C mb ba nn cf ix acc ⟨d, .binOp bop t x y u, ty, pos, af, gd⟩ ρ G KX = (letX (ρ x) fun vx' => letX (ρ y) fun vy' => binK C bop t vx' vy' fun r => KX r G acc)) ∧
  (∀ (C : Cx) (mb : Nat → Bool) (ba : Nat) (nn : Nat) (cf : List (Nat × Nat)) (ix : Nat) (acc : List Ent) (d : Option Tmp) (uop : UnOp) (t : TypeId) (x : Operand) (ty : TypeId) (pos : String) (af : Array Edge) (gd : Option (Nat × Bool)) (ρ : Operand → AV) (G : Heap) (KX : AV → Heap → List Ent → Prop), stepX C mb ba nn cf ix acc ⟨d, .unOp uop t x, ty, pos, af, gd⟩ ρ G KX = (letX (ρ x) fun vx' => unK uop vx' fun r => KX r G acc)) ∧
  (∀ (C : Cx) (mb : Nat → Bool) (ba : Nat) (nn : Nat) (cf : List (Nat × Nat)) (ix : Nat) (acc : List Ent) (d : Option Tmp) (t : TypeId) (u : TypeId) (x : Operand) (ty : TypeId) (pos : String) (af : Array Edge) (gd : Option (Nat × Bool)) (ρ : Operand → AV) (G : Heap) (KX : AV → Heap → List Ent → Prop), stepX C mb ba nn cf ix acc ⟨d, .convert t u x, ty, pos, af, gd⟩ ρ G KX = (letX (ρ x) fun vx' => (letX (C.ik u) fun m58' => match m58', vx' with
    | some k, .int _ n => (C.P.underlying t).isSome = true ∧ KX (.int k (k.wrap n)) G acc
    | _, _ => False))) ∧
  (∀ (C : Cx) (mb : Nat → Bool) (ba : Nat) (nn : Nat) (cf : List (Nat × Nat)) (ix : Nat) (acc : List Ent) (d : Option Tmp) (i : Nat) (as' : Array Operand) (la : List Operand) (ty : TypeId) (pos : String) (af : Array Edge) (gd : Option (Nat × Bool)) (ρ : Operand → AV) (G : Heap) (KX : AV → Heap → List Ent → Prop), stepX C mb ba nn cf ix acc ⟨d, .makeFunc (.func i) as' ⟨la⟩, ty, pos, af, gd⟩ ρ G KX = KX (.fn i (as'.toList.map ρ) (la.map ρ)) G acc) ∧
  (∀ (C : Cx) (mb : Nat → Bool) (ba : Nat) (nn : Nat) (cf : List (Nat × Nat)) (ix : Nat) (acc : List Ent) (d : Option Tmp) (t : TypeId) (x : Operand) (lo : Option Operand) (hi : Option Operand) (mx : Option Operand) (ty : TypeId) (pos : String) (af : Array Edge) (gd : Option (Nat × Bool)) (ρ : Operand → AV) (G : Heap) (KX : AV → Heap → List Ent → Prop), stepX C mb ba nn cf ix acc ⟨d, .slice t x lo hi mx, ty, pos, af, gd⟩ ρ G KX = (letX (ρ x) fun vx' => sliceK C ρ t vx' lo hi mx fun r => KX r G acc)) ∧
  (∀ (C : Cx) (mb : Nat → Bool) (ba : Nat) (nn : Nat) (cf : List (Nat × Nat)) (ix : Nat) (acc : List Ent) (d : Option Tmp) (t : TypeId) (x : Operand) (i : Nat) (ty : TypeId) (pos : String) (af : Array Edge) (gd : Option (Nat × Bool)) (ρ : Operand → AV) (G : Heap) (KX : AV → Heap → List Ent → Prop), stepX C mb ba nn cf ix acc ⟨d, .fieldAddr t x i, ty, pos, af, gd⟩ ρ G KX = (letX (ρ x) fun vx' => (letX (C.fd t i) fun m59' => match m59' with
    | some (off, u) => (letX (C.ti u) fun m60' => match m60' with
      | some ti => ti.sz ≠ 0 ∧ (match vx' with
        | .ptr b o => KX (.ptr b (o + off)) G acc
        | .ref cs => KX (.ref (cs.drop off)) G acc
        | _ => False)
      | none => False)
    | none => False))) ∧
  (∀ (C : Cx) (mb : Nat → Bool) (ba : Nat) (nn : Nat) (cf : List (Nat × Nat)) (ix : Nat) (acc : List Ent) (d : Option Tmp) (t : TypeId) (x : Operand) (i : Nat) (ty : TypeId) (pos : String) (af : Array Edge) (gd : Option (Nat × Bool)) (ρ : Operand → AV) (G : Heap) (KX : AV → Heap → List Ent → Prop), stepX C mb ba nn cf ix acc ⟨d, .field t x i, ty, pos, af, gd⟩ ρ G KX = (letX (ρ x) fun vx' => (letX (C.fd t i) fun m61' => match m61', vx' with
    | some (off, u), .agg cs => (letX (C.ti u) fun m62' => match m62' with
      | some ti => partK ti off cs fun r => KX r G acc
      | none => False)
    | _, _ => False))) ∧
  (∀ (C : Cx) (mb : Nat → Bool) (ba : Nat) (nn : Nat) (cf : List (Nat × Nat)) (ix : Nat) (acc : List Ent) (d : Option Tmp) (t : TypeId) (x : Operand) (y : Operand) (ty : TypeId) (pos : String) (af : Array Edge) (gd : Option (Nat × Bool)) (ρ : Operand → AV) (G : Heap) (KX : AV → Heap → List Ent → Prop), stepX C mb ba nn cf ix acc ⟨d, .indexAddr t x y, ty, pos, af, gd⟩ ρ G KX = (letX (ρ x) fun vx' => letX (ρ y) fun vy' => (match vy' with
    | .int _ i => idxK C t vx' i fun r => KX r G acc
    | _ => False))) ∧
  (∀ (C : Cx) (mb : Nat → Bool) (ba : Nat) (nn : Nat) (cf : List (Nat × Nat)) (ix : Nat) (acc : List Ent) (d : Option Tmp) (t : TypeId) (x : Operand) (y : Operand) (ty : TypeId) (pos : String) (af : Array Edge) (gd : Option (Nat × Bool)) (ρ : Operand → AV) (G : Heap) (KX : AV → Heap → List Ent → Prop), stepX C mb ba nn cf ix acc ⟨d, .index t x y, ty, pos, af, gd⟩ ρ G KX = (letX (ρ x) fun vx' => letX (ρ y) fun vy' => (letX (C.ar t) fun m63' => match vy', vx', m63' with
    | .int _ i, .agg cs, some (n, e) => (letX (C.ti e) fun m64' => match m64' with
      | some ti => (0 ≤ i ∧ i < (n : Int)) ∧ partK ti (i.toNat * ti.sz) cs fun r => KX r G acc
      | none => False)
    | _, _, _ => False))) ∧
  (∀ (C : Cx) (mb : Nat → Bool) (ba : Nat) (nn : Nat) (cf : List (Nat × Nat)) (ix : Nat) (acc : List Ent) (d : Option Tmp) (x : Operand) (i : Nat) (ty : TypeId) (pos : String) (af : Array Edge) (gd : Option (Nat × Bool)) (ρ : Operand → AV) (G : Heap) (KX : AV → Heap → List Ent → Prop), stepX C mb ba nn cf ix acc ⟨d, .extract x i, ty, pos, af, gd⟩ ρ G KX = (letX (ρ x) fun vx' => (match vx' with
    | .tup vs => (letX (vs[i]?) fun m65' => match m65' with
      | some v => KX v G acc
      | none => False)
    | _ => False))) ∧
  (∀ (C : Cx) (mb : Nat → Bool) (ba : Nat) (nn : Nat) (cf : List (Nat × Nat)) (ix : Nat) (acc : List Ent) (d : Option Tmp) (t : TypeId) (ty : TypeId) (pos : String) (af : Array Edge) (gd : Option (Nat × Bool)) (ρ : Operand → AV) (G : Heap) (KX : AV → Heap → List Ent → Prop), stepX C mb ba nn cf ix acc ⟨d, .alloc t, ty, pos, af, gd⟩ ρ G KX = (letX (C.ti t) fun m66' => match m66' with
    | some i => i.zs.all AV.isCell = true ∧ KX (.ptr (ba + ix) 0) (G.set (ba + ix) (some ⟨i.sz, fun j => i.zs.getD j .undef⟩)) acc
    | none => False)) ∧
  (∀ (C : Cx) (mb : Nat → Bool) (ba : Nat) (nn : Nat) (cf : List (Nat × Nat)) (ix : Nat) (acc : List Ent) (d : Option Tmp) (t : TypeId) (x : Operand) (y : Operand) (ty : TypeId) (pos : String) (af : Array Edge) (gd : Option (Nat × Bool)) (ρ : Operand → AV) (G : Heap) (KX : AV → Heap → List Ent → Prop), stepX C mb ba nn cf ix acc ⟨d, .makeSlice t x y, ty, pos, af, gd⟩ ρ G KX = (letX (ρ x) fun vx' => letX (ρ y) fun vy' => (letX (C.el t) fun m67' => match m67', vx', vy' with
    | some e, .int _ n, .int _ m => (letX (C.ti e) fun m68' => match m68' with
      | some i => (0 ≤ n ∧ n ≤ m ∧ (i.by' : Int) * m ≤ 140737488355328 ∧ m ≤ 140737488355328 ∧ i.zs.all AV.isCell = true) ∧ KX (.sl (ba + ix) 0 n.toNat (decide (n = m)) i.sz) (G.set (ba + ix) (some ⟨n.toNat * i.sz, fun j => i.zs.getD (j % i.sz) .undef⟩)) acc
      | none => False)
    | _, _, _ => False))) ∧
  (∀ (C : Cx) (mb : Nat → Bool) (ba : Nat) (nn : Nat) (cf : List (Nat × Nat)) (ix : Nat) (acc : List Ent) (i : Nat) (t : TypeId) (x : Operand) (ty : TypeId) (pos : String) (af : Array Edge) (gd : Option (Nat × Bool)) (ρ : Operand → AV) (G : Heap) (KX : AV → Heap → List Ent → Prop), stepX C mb ba nn cf ix acc ⟨some i, .box t x, ty, pos, af, gd⟩ ρ G KX = (letX (ρ x) fun vx' => (letX (mb i) fun m69' => match m69' with
    | true => vx'.cells.all AV.isCell = true ∧ KX (.ptr (ba + ix) 0) (G.set (ba + ix) (some ⟨vx'.cells.length, fun j => vx'.cells.getD j .undef⟩)) acc
    | false => vx'.cells.all AV.isCell = true ∧ KX (.ref vx'.cells) G acc))) ∧
  (∀ (C : Cx) (mb : Nat → Bool) (ba : Nat) (nn : Nat) (cf : List (Nat × Nat)) (ix : Nat) (acc : List Ent) (i : Nat) (t : TypeId) (n : Nat) (ps : Array (Nat × Operand)) (ty : TypeId) (pos : String) (af : Array Edge) (gd : Option (Nat × Bool)) (ρ : Operand → AV) (G : Heap) (KX : AV → Heap → List Ent → Prop), stepX C mb ba nn cf ix acc ⟨some i, .buildSlice t n ps, ty, pos, af, gd⟩ ρ G KX = (letX (mb i) fun m70' => match m70' with
    | true => elsK C ρ t n ps fun sz cs => KX (.sl (ba + ix) 0 n true sz) (G.set (ba + ix) (some ⟨n * sz, fun j => cs.getD j .undef⟩)) acc
    | false => (match n with
      | 0 => elsK C ρ t 0 ps fun _ _ => KX .nils G acc
      | n + 1 => elsK C ρ t (n + 1) ps fun sz cs => KX (.lst sz (n + 1) fun i => (cs.drop (i * sz)).take sz) G acc))) ∧
  (∀ (C : Cx) (mb : Nat → Bool) (ba : Nat) (nn : Nat) (cf : List (Nat × Nat)) (ix : Nat) (acc : List Ent) (d : Option Tmp) (t : TypeId) (x : Operand) (y : Operand) (ty : TypeId) (pos : String) (af : Array Edge) (gd : Option (Nat × Bool)) (ρ : Operand → AV) (G : Heap) (KX : AV → Heap → List Ent → Prop), stepX C mb ba nn cf ix acc ⟨d, .store t x y, ty, pos, af, gd⟩ ρ G KX = (letX (ρ x) fun vx' => letX (ρ y) fun vy' => stoK C G t vx' vy' fun G' => efC cf ix G G' acc ∧ KX .undef G' (.ef ix G :: acc))) ∧
  (∀ (C : Cx) (mb : Nat → Bool) (ba : Nat) (nn : Nat) (cf : List (Nat × Nat)) (ix : Nat) (acc : List Ent) (d : Option Tmp) (x : Operand) (y : Operand) (t : TypeId) (u : TypeId) (ty : TypeId) (pos : String) (af : Array Edge) (gd : Option (Nat × Bool)) (ρ : Operand → AV) (G : Heap) (KX : AV → Heap → List Ent → Prop), stepX C mb ba nn cf ix acc ⟨d, .call ⟨.builtin .append, #[x, y], #[t, u]⟩, ty, pos, af, gd⟩ ρ G KX = (letX (ρ x) fun vx' => letX (ρ y) fun vy' => appK C G t u vx' vy' fun r G' => efC cf ix G G' acc ∧ KX r G' (.ef ix G :: acc))) ∧
  (∀ (C : Cx) (mb : Nat → Bool) (ba : Nat) (nn : Nat) (cf : List (Nat × Nat)) (ix : Nat) (acc : List Ent) (d : Option Tmp) (t : TypeId) (x : Operand) (ty : TypeId) (pos : String) (af : Array Edge) (gd : Option (Nat × Bool)) (ρ : Operand → AV) (G : Heap) (KX : AV → Heap → List Ent → Prop), stepX C mb ba nn cf ix acc ⟨d, .load t x, ty, pos, af, gd⟩ ρ G KX = (letX (ρ x) fun vx' => (letX (C.ti t) fun m71' => match m71' with
    | some i => letX i.sz fun sz' => letX i.ag fun ag' => rdK G vx' sz' fun cs => mkK ag' cs fun r => ldC cf ba nn ix G vx' sz' acc ∧ KX r G (.ld ix vx' sz' :: acc)
    | none => False))) ∧
  (∀ (C : Cx) (mb : Nat → Bool) (ba : Nat) (nn : Nat) (cf : List (Nat × Nat)) (ops : Array Oper) (ix : Nat) (env : Env) (G : Heap) (acc : List Ent) (KE : Env → Heap → Prop), runX C mb ba nn cf ops ix [] env G acc KE = KE env G) ∧
  (∀ (C : Cx) (mb : Nat → Bool) (ba : Nat) (nn : Nat) (cf : List (Nat × Nat)) (ops : Array Oper) (ix : Nat) (o : Oper) (rest : List Oper) (env : Env) (G : Heap) (acc : List Ent) (KE : Env → Heap → Prop), runX C mb ba nn cf ops ix (o :: rest) env G acc KE = wantK ops o env (stepRX C mb ba nn cf ops ix rest o env G acc KE) (runX C mb ba nn cf ops (ix + 1) rest (putE env o.dst .undef) G acc KE)) ∧
  (∀ (cf : List (Nat × Nat)) (ix : Nat) (G : Heap) (H : Heap), efC cf ix G H [] = True) ∧
  (∀ (cf : List (Nat × Nat)) (ix : Nat) (G : Heap) (H : Heap) (ll : Nat) (av : AV) (sz : Nat) (acc : List Ent), efC cf ix G H (.ld ll av sz :: acc) = ((if cf.contains (ll, ix) = true then rdSame G H av sz else True) ∧ efC cf ix G H acc)) ∧
  (∀ (cf : List (Nat × Nat)) (ix : Nat) (G : Heap) (H : Heap) (ll : Nat) (H2 : Heap) (acc : List Ent), efC cf ix G H (.ef ll H2 :: acc) = efC cf ix G H acc) ∧
  (∀ (cf : List (Nat × Nat)) (ba : Nat) (nn : Nat) (ix : Nat) (G : Heap) (av : AV) (sz : Nat), ldC cf ba nn ix G av sz [] = True) ∧
  (∀ (cf : List (Nat × Nat)) (ba : Nat) (nn : Nat) (ix : Nat) (G : Heap) (av : AV) (sz : Nat) (ll : Nat) (H : Heap) (acc : List Ent), ldC cf ba nn ix G av sz (.ef ll H :: acc) = ((if cf.contains (ix, ll) = true then rdBack (ba + ll) (ba + nn) H G av sz else True) ∧ ldC cf ba nn ix G av sz acc)) ∧
  (∀ (cf : List (Nat × Nat)) (ba : Nat) (nn : Nat) (ix : Nat) (G : Heap) (av : AV) (sz : Nat) (ll : Nat) (aw : AV) (s2 : Nat) (acc : List Ent), ldC cf ba nn ix G av sz (.ld ll aw s2 :: acc) = ldC cf ba nn ix G av sz acc) ∧
  (∀ (G : Heap) (H : Heap) (vs : List AV) (sz : Nat), rdSame G H (.ref vs) sz = True) ∧
  (∀ (G : Heap) (H : Heap) (bb : Nat) (off : Nat) (sz : Nat), rdSame G H (.ptr bb off) sz = (letX (G.get bb) fun m72' => letX (H.get bb) fun m73' => match m72', m73' with
  | none, _ => True
  | some k1, none => ¬ (off + sz ≤ k1.n)
  | some k1, some k2 => ∀ KL : List AV → Prop, (off + sz ≤ k1.n ∧ KL (tab sz fun j => k1.f (off + j))) → (off + sz ≤ k2.n ∧ KL (tab sz fun j => k2.f (off + j))))) ∧
  (∀ (lo2 : Nat) (hi2 : Nat) (G : Heap) (H : Heap) (vs : List AV) (sz : Nat), rdBack lo2 hi2 G H (.ref vs) sz = True) ∧
  (∀ (lo2 : Nat) (hi2 : Nat) (G : Heap) (H : Heap) (bb : Nat) (off : Nat) (sz : Nat), rdBack lo2 hi2 G H (.ptr bb off) sz = (letX (G.get bb) fun m74' => letX (H.get bb) fun m75' => match m74', m75' with
  | none, _ => lo2 < bb ∧ bb < hi2
  | some _, none => True
  | some k2, some k1 => ∀ KL : List AV → Prop, (off + sz ≤ k1.n ∧ KL (tab sz fun j => k1.f (off + j))) → (off + sz ≤ k2.n ∧ KL (tab sz fun j => k2.f (off + j))))) ∧
  (∀ (ba : Nat) (nn : Nat) (G : Heap), Keeps ba nn G G = True) ∧
  (∀ (i : Nat), envL [] i = .undef) ∧
  (∀ (j : Nat) (v : AV) (el : List (Nat × AV)) (i : Nat), envL ((j, v) :: el) i = if i = j then v else envL el i) ∧
  (∀ (env : Env), keepL env [] = []) ∧
  (∀ (env : Env) (i : Nat) (nl : List Nat), keepL env (i :: nl) = (i, env i) :: keepL env nl) ∧
  (∀ (n : Nat), numL n [] = []) ∧
  (∀ (n : Nat) (v : AV) (vs : List AV), numL n (v :: vs) = (n, v) :: numL (n + 1) vs) ∧
  (∀ (av : AV) (vs : List AV) (aw : AV), List.getD (av :: vs) 0 aw = av) ∧
  (∀ (av : AV) (vs : List AV) (i : Nat) (aw : AV), List.getD (av :: vs) (i + 1) aw = vs.getD i aw) ∧
  (∀ (yes : Prop), (True ∧ yes) = yes) ∧
  (∀ (yes : Prop), (yes ∧ True) = yes) ∧
  (∀ (yes : Prop), (True → yes) = yes) ∧
  (∀ (yes : Prop), (False → yes) = True) ∧
  (∀ (av : AV) (vs : List AV), List.length (av :: vs) = vs.length + 1) ∧
  (List.length ([] : List AV) = 0) ∧
  (∀ (av : AV) (vs : List AV), (av :: vs).all AV.isCell = (av.isCell && vs.all AV.isCell)) ∧
  (([] : List AV).all AV.isCell = true) ∧
  (∀ (p : Bool), (true && p) = p) ∧
  (∀ (p : Bool), (p && true) = p) ∧
  (∀ (n : Nat), 0 + n = n) ∧
  (∀ (n : Nat), n * 1 = n) ∧
  (∀ (n : Nat), ((n : Int)).toNat = n) ∧
  (∀ (av : AV) (vs : List AV) (n : Nat), (av :: vs).take (n + 1) = av :: vs.take n) ∧
  (∀ (vs : List AV), vs.take 0 = []) ∧
  (∀ (av : AV) (vs : List AV) (n : Nat), (av :: vs).drop (n + 1) = vs.drop n) ∧
  (∀ (vs : List AV), vs.drop 0 = vs) ∧
  (∀ (n : Nat), ([] : List AV).drop n = []) ∧
  (∀ (n : Nat), ([] : List AV).take n = []) ∧
  (∀ (av : AV) (vs : List AV) (us : List AV), (av :: vs) ++ us = av :: (vs ++ us)) ∧
  (∀ (us : List AV), ([] : List AV) ++ us = us) ∧
  (∀ (C : Cx) (bop : BinOp) (t : TypeId) (s : ByteArray) (s3 : ByteArray) (KA : AV → Prop), binK C bop t (.str s) (.str s3) KA = strOp bop s s3 KA) ∧
  (∀ (s : ByteArray) (s3 : ByteArray) (KA : AV → Prop), strOp .eql s s3 KA = KA (.bool (s.toList == s3.toList))) ∧
  (∀ (s : ByteArray) (s3 : ByteArray) (KA : AV → Prop), strOp .neq s s3 KA = KA (.bool !(s.toList == s3.toList))) ∧
  (∀ (hb : Nat → Option Blk) (i : Nat) (ob : Option Blk) (j : Nat), upd hb i ob j = if j = i then ob else hb j) ∧
  (∀ (fm : TI → Nat × Nat) (ti : TI), Option.map fm (some ti) = some (fm ti)) ∧
  (∀ (fm : TI → Nat × Nat), Option.map fm none = none) ∧
  (∀ (n : Nat), n + 0 = n) ∧
  (∀ (n : Nat) (h : Nat → AV), tab (n + 1) h = h 0 :: tab n fun j => h (j + 1)) ∧
  (∀ (C : Cx) (mb : Nat → Bool) (ops : Array Oper) (rest : List Oper) (d : Option Tmp) (x : Operand) (ty : TypeId) (pos : String) (af : Array Edge) (gd : Option (Nat × Bool)) (env : Env) (G : Heap) (KE : Env → Heap → Prop), stepR C mb ops rest ⟨d, .move x, ty, pos, af, gd⟩ env G KE = stepK C mb ⟨d, .move x, ty, pos, af, gd⟩ (C.ev env) G fun r G' => letX r fun v' => runOps C mb ops rest (putE env d v') G' KE) ∧
  (∀ (C : Cx) (mb : Nat → Bool) (ops : Array Oper) (rest : List Oper) (d : Option Tmp) (x : Operand) (ty : TypeId) (pos : String) (af : Array Edge) (gd : Option (Nat × Bool)) (env : Env) (G : Heap) (KE : Env → Heap → Prop), stepR C mb ops rest ⟨d, .assign x, ty, pos, af, gd⟩ env G KE = stepK C mb ⟨d, .assign x, ty, pos, af, gd⟩ (C.ev env) G fun r G' => letX r fun v' => runOps C mb ops rest (putE env d v') G' KE) ∧
  (∀ (C : Cx) (mb : Nat → Bool) (ops : Array Oper) (rest : List Oper) (d : Option Tmp) (x : Operand) (y : Operand) (z : Operand) (ty : TypeId) (pos : String) (af : Array Edge) (gd : Option (Nat × Bool)) (env : Env) (G : Heap) (KE : Env → Heap → Prop), stepR C mb ops rest ⟨d, .pick x y z, ty, pos, af, gd⟩ env G KE = stepK C mb ⟨d, .pick x y z, ty, pos, af, gd⟩ (C.ev env) G fun r G' => letX r fun v' => runOps C mb ops rest (putE env d v') G' KE) ∧
  (∀ (C : Cx) (mb : Nat → Bool) (ops : Array Oper) (rest : List Oper) (d : Option Tmp) (t : TypeId) (ty : TypeId) (pos : String) (af : Array Edge) (gd : Option (Nat × Bool)) (env : Env) (G : Heap) (KE : Env → Heap → Prop), stepR C mb ops rest ⟨d, .alloc t, ty, pos, af, gd⟩ env G KE = stepK C mb ⟨d, .alloc t, ty, pos, af, gd⟩ (C.ev env) G fun r G' => letX r fun v' => runOps C mb ops rest (putE env d v') G' KE) ∧
  (∀ (C : Cx) (mb : Nat → Bool) (ops : Array Oper) (rest : List Oper) (d : Option Tmp) (t : TypeId) (x : Operand) (y : Operand) (ty : TypeId) (pos : String) (af : Array Edge) (gd : Option (Nat × Bool)) (env : Env) (G : Heap) (KE : Env → Heap → Prop), stepR C mb ops rest ⟨d, .makeSlice t x y, ty, pos, af, gd⟩ env G KE = stepK C mb ⟨d, .makeSlice t x y, ty, pos, af, gd⟩ (C.ev env) G fun r G' => letX r fun v' => runOps C mb ops rest (putE env d v') G' KE) ∧
  (∀ (C : Cx) (mb : Nat → Bool) (ops : Array Oper) (rest : List Oper) (i : Nat) (t : TypeId) (x : Operand) (ty : TypeId) (pos : String) (af : Array Edge) (gd : Option (Nat × Bool)) (env : Env) (G : Heap) (KE : Env → Heap → Prop), stepR C mb ops rest ⟨some i, .box t x, ty, pos, af, gd⟩ env G KE = stepK C mb ⟨some i, .box t x, ty, pos, af, gd⟩ (C.ev env) G fun r G' => letX r fun v' => runOps C mb ops rest (putE env (some i) v') G' KE) ∧
  (∀ (C : Cx) (mb : Nat → Bool) (ops : Array Oper) (rest : List Oper) (i : Nat) (t : TypeId) (n : Nat) (ps : Array (Nat × Operand)) (ty : TypeId) (pos : String) (af : Array Edge) (gd : Option (Nat × Bool)) (env : Env) (G : Heap) (KE : Env → Heap → Prop), stepR C mb ops rest ⟨some i, .buildSlice t n ps, ty, pos, af, gd⟩ env G KE = stepK C mb ⟨some i, .buildSlice t n ps, ty, pos, af, gd⟩ (C.ev env) G fun r G' => letX r fun v' => runOps C mb ops rest (putE env (some i) v') G' KE) ∧
  (∀ (C : Cx) (mb : Nat → Bool) (ops : Array Oper) (rest : List Oper) (d : Option Tmp) (t : TypeId) (x : Operand) (y : Operand) (ty : TypeId) (pos : String) (af : Array Edge) (gd : Option (Nat × Bool)) (env : Env) (G : Heap) (KE : Env → Heap → Prop), stepR C mb ops rest ⟨d, .store t x y, ty, pos, af, gd⟩ env G KE = stepK C mb ⟨d, .store t x y, ty, pos, af, gd⟩ (C.ev env) G fun r G' => letX r fun v' => runOps C mb ops rest (putE env d v') G' KE) ∧
  (∀ (C : Cx) (mb : Nat → Bool) (ops : Array Oper) (rest : List Oper) (d : Option Tmp) (fo : Operand) (as' : Array Operand) (ts : Array TypeId) (ty : TypeId) (pos : String) (af : Array Edge) (gd : Option (Nat × Bool)) (env : Env) (G : Heap) (KE : Env → Heap → Prop), stepR C mb ops rest ⟨d, .call ⟨.value fo, as', ts⟩, ty, pos, af, gd⟩ env G KE = (letX (C.ev env fo) fun m76' => match m76' with
    | .fn g first cap => letX (first ++ as'.toList.map (C.ev env) ++ cap) fun l' => CallAt C mb ops rest d g l' env G KE
    | _ => False)) ∧
  (∀ (C : Cx) (mb : Nat → Bool) (ops : Array Oper) (rest : List Oper) (d : Option Tmp) (x : Operand) (y : Operand) (t : TypeId) (u : TypeId) (ty : TypeId) (pos : String) (af : Array Edge) (gd : Option (Nat × Bool)) (env : Env) (G : Heap) (KE : Env → Heap → Prop), stepR C mb ops rest ⟨d, .call ⟨.builtin .append, #[x, y], #[t, u]⟩, ty, pos, af, gd⟩ env G KE = stepK C mb ⟨d, .call ⟨.builtin .append, #[x, y], #[t, u]⟩, ty, pos, af, gd⟩ (C.ev env) G fun r G' => letX r fun v' => runOps C mb ops rest (putE env d v') G' KE) ∧
  (∀ (C : Cx) (mb : Nat → Bool) (ops : Array Oper) (rest : List Oper) (d : Option Tmp) (x : Operand) (t : TypeId) (ty : TypeId) (pos : String) (af : Array Edge) (gd : Option (Nat × Bool)) (env : Env) (G : Heap) (KE : Env → Heap → Prop), stepR C mb ops rest ⟨d, .call ⟨.builtin .len, #[x], #[t]⟩, ty, pos, af, gd⟩ env G KE = stepK C mb ⟨d, .call ⟨.builtin .len, #[x], #[t]⟩, ty, pos, af, gd⟩ (C.ev env) G fun r G' => letX r fun v' => runOps C mb ops rest (putE env d v') G' KE) ∧
  (∀ (C : Cx) (mb : Nat → Bool) (ops : Array Oper) (rest : List Oper) (d : Option Tmp) (x : Operand) (y : Operand) (t : TypeId) (u : TypeId) (ty : TypeId) (pos : String) (af : Array Edge) (gd : Option (Nat × Bool)) (env : Env) (G : Heap) (KE : Env → Heap → Prop), stepR C mb ops rest ⟨d, .call ⟨.builtin .min, #[x, y], #[t, u]⟩, ty, pos, af, gd⟩ env G KE = stepK C mb ⟨d, .call ⟨.builtin .min, #[x, y], #[t, u]⟩, ty, pos, af, gd⟩ (C.ev env) G fun r G' => letX r fun v' => runOps C mb ops rest (putE env d v') G' KE) ∧
  (∀ (C : Cx) (mb : Nat → Bool) (ops : Array Oper) (rest : List Oper) (d : Option Tmp) (x : Operand) (y : Operand) (t : TypeId) (u : TypeId) (ty : TypeId) (pos : String) (af : Array Edge) (gd : Option (Nat × Bool)) (env : Env) (G : Heap) (KE : Env → Heap → Prop), stepR C mb ops rest ⟨d, .call ⟨.builtin .max, #[x, y], #[t, u]⟩, ty, pos, af, gd⟩ env G KE = stepK C mb ⟨d, .call ⟨.builtin .max, #[x, y], #[t, u]⟩, ty, pos, af, gd⟩ (C.ev env) G fun r G' => letX r fun v' => runOps C mb ops rest (putE env d v') G' KE) ∧
  (∀ (C : Cx) (mb : Nat → Bool) (ops : Array Oper) (rest : List Oper) (d : Option Tmp) (t : TypeId) (ps : Array (Nat × Operand)) (ty : TypeId) (pos : String) (af : Array Edge) (gd : Option (Nat × Bool)) (env : Env) (G : Heap) (KE : Env → Heap → Prop), stepR C mb ops rest ⟨d, .build t ps, ty, pos, af, gd⟩ env G KE = stepK C mb ⟨d, .build t ps, ty, pos, af, gd⟩ (C.ev env) G fun r G' => letX r fun v' => runOps C mb ops rest (putE env d v') G' KE) ∧
  (∀ (C : Cx) (mb : Nat → Bool) (ops : Array Oper) (rest : List Oper) (d : Option Tmp) (t : TypeId) (x : Operand) (ty : TypeId) (pos : String) (af : Array Edge) (gd : Option (Nat × Bool)) (env : Env) (G : Heap) (KE : Env → Heap → Prop), stepR C mb ops rest ⟨d, .load t x, ty, pos, af, gd⟩ env G KE = stepK C mb ⟨d, .load t x, ty, pos, af, gd⟩ (C.ev env) G fun r G' => letX r fun v' => runOps C mb ops rest (putE env d v') G' KE) ∧
  (∀ (C : Cx) (mb : Nat → Bool) (ops : Array Oper) (rest : List Oper) (d : Option Tmp) (x : Operand) (ty : TypeId) (pos : String) (af : Array Edge) (gd : Option (Nat × Bool)) (env : Env) (G : Heap) (KE : Env → Heap → Prop), stepR C mb ops rest ⟨d, .nilCheck x, ty, pos, af, gd⟩ env G KE = stepK C mb ⟨d, .nilCheck x, ty, pos, af, gd⟩ (C.ev env) G fun r G' => letX r fun v' => runOps C mb ops rest (putE env d v') G' KE) ∧
  (∀ (C : Cx) (mb : Nat → Bool) (ops : Array Oper) (rest : List Oper) (d : Option Tmp) (bop : BinOp) (t : TypeId) (x : Operand) (y : Operand) (u : TypeId) (ty : TypeId) (pos : String) (af : Array Edge) (gd : Option (Nat × Bool)) (env : Env) (G : Heap) (KE : Env → Heap → Prop), stepR C mb ops rest ⟨d, .binOp bop t x y u, ty, pos, af, gd⟩ env G KE = stepK C mb ⟨d, .binOp bop t x y u, ty, pos, af, gd⟩ (C.ev env) G fun r G' => letX r fun v' => runOps C mb ops rest (putE env d v') G' KE) ∧
  (∀ (C : Cx) (mb : Nat → Bool) (ops : Array Oper) (rest : List Oper) (d : Option Tmp) (uop : UnOp) (t : TypeId) (x : Operand) (ty : TypeId) (pos : String) (af : Array Edge) (gd : Option (Nat × Bool)) (env : Env) (G : Heap) (KE : Env → Heap → Prop), stepR C mb ops rest ⟨d, .unOp uop t x, ty, pos, af, gd⟩ env G KE = stepK C mb ⟨d, .unOp uop t x, ty, pos, af, gd⟩ (C.ev env) G fun r G' => letX r fun v' => runOps C mb ops rest (putE env d v') G' KE) ∧
  (∀ (C : Cx) (mb : Nat → Bool) (ops : Array Oper) (rest : List Oper) (d : Option Tmp) (t : TypeId) (u : TypeId) (x : Operand) (ty : TypeId) (pos : String) (af : Array Edge) (gd : Option (Nat × Bool)) (env : Env) (G : Heap) (KE : Env → Heap → Prop), stepR C mb ops rest ⟨d, .convert t u x, ty, pos, af, gd⟩ env G KE = stepK C mb ⟨d, .convert t u x, ty, pos, af, gd⟩ (C.ev env) G fun r G' => letX r fun v' => runOps C mb ops rest (putE env d v') G' KE) ∧
  (∀ (C : Cx) (mb : Nat → Bool) (ops : Array Oper) (rest : List Oper) (d : Option Tmp) (i : Nat) (as' : Array Operand) (la : List Operand) (ty : TypeId) (pos : String) (af : Array Edge) (gd : Option (Nat × Bool)) (env : Env) (G : Heap) (KE : Env → Heap → Prop), stepR C mb ops rest ⟨d, .makeFunc (.func i) as' ⟨la⟩, ty, pos, af, gd⟩ env G KE = stepK C mb ⟨d, .makeFunc (.func i) as' ⟨la⟩, ty, pos, af, gd⟩ (C.ev env) G fun r G' => letX r fun v' => runOps C mb ops rest (putE env d v') G' KE) ∧
  (∀ (C : Cx) (mb : Nat → Bool) (ops : Array Oper) (rest : List Oper) (d : Option Tmp) (t : TypeId) (x : Operand) (lo : Option Operand) (hi : Option Operand) (mx : Option Operand) (ty : TypeId) (pos : String) (af : Array Edge) (gd : Option (Nat × Bool)) (env : Env) (G : Heap) (KE : Env → Heap → Prop), stepR C mb ops rest ⟨d, .slice t x lo hi mx, ty, pos, af, gd⟩ env G KE = stepK C mb ⟨d, .slice t x lo hi mx, ty, pos, af, gd⟩ (C.ev env) G fun r G' => letX r fun v' => runOps C mb ops rest (putE env d v') G' KE) ∧
  (∀ (C : Cx) (mb : Nat → Bool) (ops : Array Oper) (rest : List Oper) (d : Option Tmp) (t : TypeId) (x : Operand) (i : Nat) (ty : TypeId) (pos : String) (af : Array Edge) (gd : Option (Nat × Bool)) (env : Env) (G : Heap) (KE : Env → Heap → Prop), stepR C mb ops rest ⟨d, .fieldAddr t x i, ty, pos, af, gd⟩ env G KE = stepK C mb ⟨d, .fieldAddr t x i, ty, pos, af, gd⟩ (C.ev env) G fun r G' => letX r fun v' => runOps C mb ops rest (putE env d v') G' KE) ∧
  (∀ (C : Cx) (mb : Nat → Bool) (ops : Array Oper) (rest : List Oper) (d : Option Tmp) (t : TypeId) (x : Operand) (i : Nat) (ty : TypeId) (pos : String) (af : Array Edge) (gd : Option (Nat × Bool)) (env : Env) (G : Heap) (KE : Env → Heap → Prop), stepR C mb ops rest ⟨d, .field t x i, ty, pos, af, gd⟩ env G KE = stepK C mb ⟨d, .field t x i, ty, pos, af, gd⟩ (C.ev env) G fun r G' => letX r fun v' => runOps C mb ops rest (putE env d v') G' KE) ∧
  (∀ (C : Cx) (mb : Nat → Bool) (ops : Array Oper) (rest : List Oper) (d : Option Tmp) (t : TypeId) (x : Operand) (y : Operand) (ty : TypeId) (pos : String) (af : Array Edge) (gd : Option (Nat × Bool)) (env : Env) (G : Heap) (KE : Env → Heap → Prop), stepR C mb ops rest ⟨d, .indexAddr t x y, ty, pos, af, gd⟩ env G KE = stepK C mb ⟨d, .indexAddr t x y, ty, pos, af, gd⟩ (C.ev env) G fun r G' => letX r fun v' => runOps C mb ops rest (putE env d v') G' KE) ∧
  (∀ (C : Cx) (mb : Nat → Bool) (ops : Array Oper) (rest : List Oper) (d : Option Tmp) (t : TypeId) (x : Operand) (y : Operand) (ty : TypeId) (pos : String) (af : Array Edge) (gd : Option (Nat × Bool)) (env : Env) (G : Heap) (KE : Env → Heap → Prop), stepR C mb ops rest ⟨d, .index t x y, ty, pos, af, gd⟩ env G KE = stepK C mb ⟨d, .index t x y, ty, pos, af, gd⟩ (C.ev env) G fun r G' => letX r fun v' => runOps C mb ops rest (putE env d v') G' KE) ∧
  (∀ (C : Cx) (mb : Nat → Bool) (ops : Array Oper) (rest : List Oper) (d : Option Tmp) (x : Operand) (i : Nat) (ty : TypeId) (pos : String) (af : Array Edge) (gd : Option (Nat × Bool)) (env : Env) (G : Heap) (KE : Env → Heap → Prop), stepR C mb ops rest ⟨d, .extract x i, ty, pos, af, gd⟩ env G KE = stepK C mb ⟨d, .extract x i, ty, pos, af, gd⟩ (C.ev env) G fun r G' => letX r fun v' => runOps C mb ops rest (putE env d v') G' KE) ∧
  (∀ (C : Cx) (mb : Nat → Bool) (ops : Array Oper) (rest : List Oper) (d : Option Tmp) (x : Operand) (y : Operand) (t : TypeId) (u : TypeId) (ty : TypeId) (pos : String) (af : Array Edge) (gd : Option (Nat × Bool)) (env : Env) (G : Heap) (KE : Env → Heap → Prop), stepR C mb ops rest ⟨d, .call ⟨.builtin .delete, #[x, y], #[t, u]⟩, ty, pos, af, gd⟩ env G KE = stepK C mb ⟨d, .call ⟨.builtin .delete, #[x, y], #[t, u]⟩, ty, pos, af, gd⟩ (C.ev env) G fun r G' => letX r fun v' => runOps C mb ops rest (putE env d v') G' KE) ∧
  (∀ (C : Cx) (mb : Nat → Bool) (ops : Array Oper) (rest : List Oper) (d : Option Tmp) (t : TypeId) (ty : TypeId) (pos : String) (af : Array Edge) (gd : Option (Nat × Bool)) (env : Env) (G : Heap) (KE : Env → Heap → Prop), stepR C mb ops rest ⟨d, .makeMap t none, ty, pos, af, gd⟩ env G KE = stepK C mb ⟨d, .makeMap t none, ty, pos, af, gd⟩ (C.ev env) G fun r G' => letX r fun v' => runOps C mb ops rest (putE env d v') G' KE) ∧
  (∀ (C : Cx) (mb : Nat → Bool) (ops : Array Oper) (rest : List Oper) (d : Option Tmp) (t : TypeId) (x : Operand) (y : Operand) (z : Operand) (ty : TypeId) (pos : String) (af : Array Edge) (gd : Option (Nat × Bool)) (env : Env) (G : Heap) (KE : Env → Heap → Prop), stepR C mb ops rest ⟨d, .mapUpdate t x y z, ty, pos, af, gd⟩ env G KE = stepK C mb ⟨d, .mapUpdate t x y z, ty, pos, af, gd⟩ (C.ev env) G fun r G' => letX r fun v' => runOps C mb ops rest (putE env d v') G' KE) ∧
  (∀ (C : Cx) (mb : Nat → Bool) (ops : Array Oper) (rest : List Oper) (d : Option Tmp) (t : TypeId) (x : Operand) (y : Operand) (z : Operand) (ty : TypeId) (pos : String) (af : Array Edge) (gd : Option (Nat × Bool)) (env : Env) (G : Heap) (KE : Env → Heap → Prop), stepR C mb ops rest ⟨d, .insert t x y z, ty, pos, af, gd⟩ env G KE = stepK C mb ⟨d, .insert t x y z, ty, pos, af, gd⟩ (C.ev env) G fun r G' => letX r fun v' => runOps C mb ops rest (putE env d v') G' KE) ∧
  (∀ (C : Cx) (mb : Nat → Bool) (ops : Array Oper) (rest : List Oper) (d : Option Tmp) (t : TypeId) (x : Operand) (y : Operand) (p : Bool) (ty : TypeId) (pos : String) (af : Array Edge) (gd : Option (Nat × Bool)) (env : Env) (G : Heap) (KE : Env → Heap → Prop), stepR C mb ops rest ⟨d, .lookup t x y p, ty, pos, af, gd⟩ env G KE = stepK C mb ⟨d, .lookup t x y p, ty, pos, af, gd⟩ (C.ev env) G fun r G' => letX r fun v' => runOps C mb ops rest (putE env d v') G' KE) ∧
  (∀ (C : Cx) (mb : Nat → Bool) (ops : Array Oper) (rest : List Oper) (d : Option Tmp) (t : TypeId) (x : Operand) (ty : TypeId) (pos : String) (af : Array Edge) (gd : Option (Nat × Bool)) (env : Env) (G : Heap) (KE : Env → Heap → Prop), stepR C mb ops rest ⟨d, .range t x, ty, pos, af, gd⟩ env G KE = stepK C mb ⟨d, .range t x, ty, pos, af, gd⟩ (C.ev env) G fun r G' => letX r fun v' => runOps C mb ops rest (putE env d v') G' KE) ∧
  (∀ (C : Cx) (mb : Nat → Bool) (ops : Array Oper) (rest : List Oper) (d : Option Tmp) (x : Operand) (ty : TypeId) (pos : String) (af : Array Edge) (gd : Option (Nat × Bool)) (env : Env) (G : Heap) (KE : Env → Heap → Prop), stepR C mb ops rest ⟨d, .next x false, ty, pos, af, gd⟩ env G KE = stepK C mb ⟨d, .next x false, ty, pos, af, gd⟩ (C.ev env) G fun r G' => letX r fun v' => runOps C mb ops rest (putE env d v') G' KE) ∧
  (∀ (C : Cx) (mb : Nat → Bool) (ops : Array Oper) (rest : List Oper) (d : Option Tmp) (x : Operand) (ty : TypeId) (pos : String) (af : Array Edge) (gd : Option (Nat × Bool)) (env : Env) (G : Heap) (KE : Env → Heap → Prop), stepR C mb ops rest ⟨d, .entry x, ty, pos, af, gd⟩ env G KE = stepK C mb ⟨d, .entry x, ty, pos, af, gd⟩ (C.ev env) G fun r G' => letX r fun v' => runOps C mb ops rest (putE env d v') G' KE) ∧
  (∀ (C : Cx) (mb : Nat → Bool) (ba : Nat) (nn : Nat) (cf : List (Nat × Nat)) (ops : Array Oper) (ix : Nat) (rest : List Oper) (d : Option Tmp) (x : Operand) (ty : TypeId) (pos : String) (af : Array Edge) (gd : Option (Nat × Bool)) (env : Env) (G : Heap) (acc : List Ent) (KE : Env → Heap → Prop), stepRX C mb ba nn cf ops ix rest ⟨d, .move x, ty, pos, af, gd⟩ env G acc KE = stepX C mb ba nn cf ix acc ⟨d, .move x, ty, pos, af, gd⟩ (C.ev env) G fun r G' acc' => letX r fun v' => runX C mb ba nn cf ops (ix + 1) rest (putE env d v') G' acc' KE) ∧
  (∀ (C : Cx) (mb : Nat → Bool) (ba : Nat) (nn : Nat) (cf : List (Nat × Nat)) (ops : Array Oper) (ix : Nat) (rest : List Oper) (d : Option Tmp) (x : Operand) (ty : TypeId) (pos : String) (af : Array Edge) (gd : Option (Nat × Bool)) (env : Env) (G : Heap) (acc : List Ent) (KE : Env → Heap → Prop), stepRX C mb ba nn cf ops ix rest ⟨d, .assign x, ty, pos, af, gd⟩ env G acc KE = stepX C mb ba nn cf ix acc ⟨d, .assign x, ty, pos, af, gd⟩ (C.ev env) G fun r G' acc' => letX r fun v' => runX C mb ba nn cf ops (ix + 1) rest (putE env d v') G' acc' KE) ∧
  (∀ (C : Cx) (mb : Nat → Bool) (ba : Nat) (nn : Nat) (cf : List (Nat × Nat)) (ops : Array Oper) (ix : Nat) (rest : List Oper) (d : Option Tmp) (x : Operand) (y : Operand) (z : Operand) (ty : TypeId) (pos : String) (af : Array Edge) (gd : Option (Nat × Bool)) (env : Env) (G : Heap) (acc : List Ent) (KE : Env → Heap → Prop), stepRX C mb ba nn cf ops ix rest ⟨d, .pick x y z, ty, pos, af, gd⟩ env G acc KE = stepX C mb ba nn cf ix acc ⟨d, .pick x y z, ty, pos, af, gd⟩ (C.ev env) G fun r G' acc' => letX r fun v' => runX C mb ba nn cf ops (ix + 1) rest (putE env d v') G' acc' KE) ∧
  (∀ (C : Cx) (mb : Nat → Bool) (ba : Nat) (nn : Nat) (cf : List (Nat × Nat)) (ops : Array Oper) (ix : Nat) (rest : List Oper) (d : Option Tmp) (x : Operand) (t : TypeId) (ty : TypeId) (pos : String) (af : Array Edge) (gd : Option (Nat × Bool)) (env : Env) (G : Heap) (acc : List Ent) (KE : Env → Heap → Prop), stepRX C mb ba nn cf ops ix rest ⟨d, .call ⟨.builtin .len, #[x], #[t]⟩, ty, pos, af, gd⟩ env G acc KE = stepX C mb ba nn cf ix acc ⟨d, .call ⟨.builtin .len, #[x], #[t]⟩, ty, pos, af, gd⟩ (C.ev env) G fun r G' acc' => letX r fun v' => runX C mb ba nn cf ops (ix + 1) rest (putE env d v') G' acc' KE) ∧
  (∀ (C : Cx) (mb : Nat → Bool) (ba : Nat) (nn : Nat) (cf : List (Nat × Nat)) (ops : Array Oper) (ix : Nat) (rest : List Oper) (d : Option Tmp) (x : Operand) (y : Operand) (t : TypeId) (u : TypeId) (ty : TypeId) (pos : String) (af : Array Edge) (gd : Option (Nat × Bool)) (env : Env) (G : Heap) (acc : List Ent) (KE : Env → Heap → Prop), stepRX C mb ba nn cf ops ix rest ⟨d, .call ⟨.builtin .min, #[x, y], #[t, u]⟩, ty, pos, af, gd⟩ env G acc KE = stepX C mb ba nn cf ix acc ⟨d, .call ⟨.builtin .min, #[x, y], #[t, u]⟩, ty, pos, af, gd⟩ (C.ev env) G fun r G' acc' => letX r fun v' => runX C mb ba nn cf ops (ix + 1) rest (putE env d v') G' acc' KE) ∧
  (∀ (C : Cx) (mb : Nat → Bool) (ba : Nat) (nn : Nat) (cf : List (Nat × Nat)) (ops : Array Oper) (ix : Nat) (rest : List Oper) (d : Option Tmp) (x : Operand) (y : Operand) (t : TypeId) (u : TypeId) (ty : TypeId) (pos : String) (af : Array Edge) (gd : Option (Nat × Bool)) (env : Env) (G : Heap) (acc : List Ent) (KE : Env → Heap → Prop), stepRX C mb ba nn cf ops ix rest ⟨d, .call ⟨.builtin .max, #[x, y], #[t, u]⟩, ty, pos, af, gd⟩ env G acc KE = stepX C mb ba nn cf ix acc ⟨d, .call ⟨.builtin .max, #[x, y], #[t, u]⟩, ty, pos, af, gd⟩ (C.ev env) G fun r G' acc' => letX r fun v' => runX C mb ba nn cf ops (ix + 1) rest (putE env d v') G' acc' KE) ∧
  (∀ (C : Cx) (mb : Nat → Bool) (ba : Nat) (nn : Nat) (cf : List (Nat × Nat)) (ops : Array Oper) (ix : Nat) (rest : List Oper) (d : Option Tmp) (t : TypeId) (ps : Array (Nat × Operand)) (ty : TypeId) (pos : String) (af : Array Edge) (gd : Option (Nat × Bool)) (env : Env) (G : Heap) (acc : List Ent) (KE : Env → Heap → Prop), stepRX C mb ba nn cf ops ix rest ⟨d, .build t ps, ty, pos, af, gd⟩ env G acc KE = stepX C mb ba nn cf ix acc ⟨d, .build t ps, ty, pos, af, gd⟩ (C.ev env) G fun r G' acc' => letX r fun v' => runX C mb ba nn cf ops (ix + 1) rest (putE env d v') G' acc' KE) ∧
  (∀ (C : Cx) (mb : Nat → Bool) (ba : Nat) (nn : Nat) (cf : List (Nat × Nat)) (ops : Array Oper) (ix : Nat) (rest : List Oper) (d : Option Tmp) (x : Operand) (ty : TypeId) (pos : String) (af : Array Edge) (gd : Option (Nat × Bool)) (env : Env) (G : Heap) (acc : List Ent) (KE : Env → Heap → Prop), stepRX C mb ba nn cf ops ix rest ⟨d, .nilCheck x, ty, pos, af, gd⟩ env G acc KE = stepX C mb ba nn cf ix acc ⟨d, .nilCheck x, ty, pos, af, gd⟩ (C.ev env) G fun r G' acc' => letX r fun v' => runX C mb ba nn cf ops (ix + 1) rest (putE env d v') G' acc' KE) ∧
  (∀ (C : Cx) (mb : Nat → Bool) (ba : Nat) (nn : Nat) (cf : List (Nat × Nat)) (ops : Array Oper) (ix : Nat) (rest : List Oper) (d : Option Tmp) (bop : BinOp) (t : TypeId) (x : Operand) (y : Operand) (u : TypeId) (ty : TypeId) (pos : String) (af : Array Edge) (gd : Option (Nat × Bool)) (env : Env) (G : Heap) (acc : List Ent) (KE : Env → Heap → Prop), stepRX C mb ba nn cf ops ix rest ⟨d, .binOp bop t x y u, ty, pos, af, gd⟩ env G acc KE = stepX C mb ba nn cf ix acc ⟨d, .binOp bop t x y u, ty, pos, af, gd⟩ (C.ev env) G fun r G' acc' => letX r fun v' => runX C mb ba nn cf ops (ix + 1) rest (putE env d v') G' acc' KE) ∧
  (∀ (C : Cx) (mb : Nat → Bool) (ba : Nat) (nn : Nat) (cf : List (Nat × Nat)) (ops : Array Oper) (ix : Nat) (rest : List Oper) (d : Option Tmp) (uop : UnOp) (t : TypeId) (x : Operand) (ty : TypeId) (pos : String) (af : Array Edge) (gd : Option (Nat × Bool)) (env : Env) (G : Heap) (acc : List Ent) (KE : Env → Heap → Prop), stepRX C mb ba nn cf ops ix rest ⟨d, .unOp uop t x, ty, pos, af, gd⟩ env G acc KE = stepX C mb ba nn cf ix acc ⟨d, .unOp uop t x, ty, pos, af, gd⟩ (C.ev env) G fun r G' acc' => letX r fun v' => runX C mb ba nn cf ops (ix + 1) rest (putE env d v') G' acc' KE) ∧
  (∀ (C : Cx) (mb : Nat → Bool) (ba : Nat) (nn : Nat) (cf : List (Nat × Nat)) (ops : Array Oper) (ix : Nat) (rest : List Oper) (d : Option Tmp) (t : TypeId) (u : TypeId) (x : Operand) (ty : TypeId) (pos : String) (af : Array Edge) (gd : Option (Nat × Bool)) (env : Env) (G : Heap) (acc : List Ent) (KE : Env → Heap → Prop), stepRX C mb ba nn cf ops ix rest ⟨d, .convert t u x, ty, pos, af, gd⟩ env G acc KE = stepX C mb ba nn cf ix acc ⟨d, .convert t u x, ty, pos, af, gd⟩ (C.ev env) G fun r G' acc' => letX r fun v' => runX C mb ba nn cf ops (ix + 1) rest (putE env d v') G' acc' KE) ∧
  (∀ (C : Cx) (mb : Nat → Bool) (ba : Nat) (nn : Nat) (cf : List (Nat × Nat)) (ops : Array Oper) (ix : Nat) (rest : List Oper) (d : Option Tmp) (i : Nat) (as' : Array Operand) (la : List Operand) (ty : TypeId) (pos : String) (af : Array Edge) (gd : Option (Nat × Bool)) (env : Env) (G : Heap) (acc : List Ent) (KE : Env → Heap → Prop), stepRX C mb ba nn cf ops ix rest ⟨d, .makeFunc (.func i) as' ⟨la⟩, ty, pos, af, gd⟩ env G acc KE = stepX C mb ba nn cf ix acc ⟨d, .makeFunc (.func i) as' ⟨la⟩, ty, pos, af, gd⟩ (C.ev env) G fun r G' acc' => letX r fun v' => runX C mb ba nn cf ops (ix + 1) rest (putE env d v') G' acc' KE) ∧
  (∀ (C : Cx) (mb : Nat → Bool) (ba : Nat) (nn : Nat) (cf : List (Nat × Nat)) (ops : Array Oper) (ix : Nat) (rest : List Oper) (d : Option Tmp) (t : TypeId) (x : Operand) (lo : Option Operand) (hi : Option Operand) (mx : Option Operand) (ty : TypeId) (pos : String) (af : Array Edge) (gd : Option (Nat × Bool)) (env : Env) (G : Heap) (acc : List Ent) (KE : Env → Heap → Prop), stepRX C mb ba nn cf ops ix rest ⟨d, .slice t x lo hi mx, ty, pos, af, gd⟩ env G acc KE = stepX C mb ba nn cf ix acc ⟨d, .slice t x lo hi mx, ty, pos, af, gd⟩ (C.ev env) G fun r G' acc' => letX r fun v' => runX C mb ba nn cf ops (ix + 1) rest (putE env d v') G' acc' KE) ∧
  (∀ (C : Cx) (mb : Nat → Bool) (ba : Nat) (nn : Nat) (cf : List (Nat × Nat)) (ops : Array Oper) (ix : Nat) (rest : List Oper) (d : Option Tmp) (t : TypeId) (x : Operand) (i : Nat) (ty : TypeId) (pos : String) (af : Array Edge) (gd : Option (Nat × Bool)) (env : Env) (G : Heap) (acc : List Ent) (KE : Env → Heap → Prop), stepRX C mb ba nn cf ops ix rest ⟨d, .fieldAddr t x i, ty, pos, af, gd⟩ env G acc KE = stepX C mb ba nn cf ix acc ⟨d, .fieldAddr t x i, ty, pos, af, gd⟩ (C.ev env) G fun r G' acc' => letX r fun v' => runX C mb ba nn cf ops (ix + 1) rest (putE env d v') G' acc' KE) ∧
  (∀ (C : Cx) (mb : Nat → Bool) (ba : Nat) (nn : Nat) (cf : List (Nat × Nat)) (ops : Array Oper) (ix : Nat) (rest : List Oper) (d : Option Tmp) (t : TypeId) (x : Operand) (i : Nat) (ty : TypeId) (pos : String) (af : Array Edge) (gd : Option (Nat × Bool)) (env : Env) (G : Heap) (acc : List Ent) (KE : Env → Heap → Prop), stepRX C mb ba nn cf ops ix rest ⟨d, .field t x i, ty, pos, af, gd⟩ env G acc KE = stepX C mb ba nn cf ix acc ⟨d, .field t x i, ty, pos, af, gd⟩ (C.ev env) G fun r G' acc' => letX r fun v' => runX C mb ba nn cf ops (ix + 1) rest (putE env d v') G' acc' KE) ∧
  (∀ (C : Cx) (mb : Nat → Bool) (ba : Nat) (nn : Nat) (cf : List (Nat × Nat)) (ops : Array Oper) (ix : Nat) (rest : List Oper) (d : Option Tmp) (t : TypeId) (x : Operand) (y : Operand) (ty : TypeId) (pos : String) (af : Array Edge) (gd : Option (Nat × Bool)) (env : Env) (G : Heap) (acc : List Ent) (KE : Env → Heap → Prop), stepRX C mb ba nn cf ops ix rest ⟨d, .indexAddr t x y, ty, pos, af, gd⟩ env G acc KE = stepX C mb ba nn cf ix acc ⟨d, .indexAddr t x y, ty, pos, af, gd⟩ (C.ev env) G fun r G' acc' => letX r fun v' => runX C mb ba nn cf ops (ix + 1) rest (putE env d v') G' acc' KE) ∧
  (∀ (C : Cx) (mb : Nat → Bool) (ba : Nat) (nn : Nat) (cf : List (Nat × Nat)) (ops : Array Oper) (ix : Nat) (rest : List Oper) (d : Option Tmp) (t : TypeId) (x : Operand) (y : Operand) (ty : TypeId) (pos : String) (af : Array Edge) (gd : Option (Nat × Bool)) (env : Env) (G : Heap) (acc : List Ent) (KE : Env → Heap → Prop), stepRX C mb ba nn cf ops ix rest ⟨d, .index t x y, ty, pos, af, gd⟩ env G acc KE = stepX C mb ba nn cf ix acc ⟨d, .index t x y, ty, pos, af, gd⟩ (C.ev env) G fun r G' acc' => letX r fun v' => runX C mb ba nn cf ops (ix + 1) rest (putE env d v') G' acc' KE) ∧
  (∀ (C : Cx) (mb : Nat → Bool) (ba : Nat) (nn : Nat) (cf : List (Nat × Nat)) (ops : Array Oper) (ix : Nat) (rest : List Oper) (d : Option Tmp) (x : Operand) (i : Nat) (ty : TypeId) (pos : String) (af : Array Edge) (gd : Option (Nat × Bool)) (env : Env) (G : Heap) (acc : List Ent) (KE : Env → Heap → Prop), stepRX C mb ba nn cf ops ix rest ⟨d, .extract x i, ty, pos, af, gd⟩ env G acc KE = stepX C mb ba nn cf ix acc ⟨d, .extract x i, ty, pos, af, gd⟩ (C.ev env) G fun r G' acc' => letX r fun v' => runX C mb ba nn cf ops (ix + 1) rest (putE env d v') G' acc' KE) ∧
  (∀ (C : Cx) (mb : Nat → Bool) (ba : Nat) (nn : Nat) (cf : List (Nat × Nat)) (ops : Array Oper) (ix : Nat) (rest : List Oper) (d : Option Tmp) (t : TypeId) (ty : TypeId) (pos : String) (af : Array Edge) (gd : Option (Nat × Bool)) (env : Env) (G : Heap) (acc : List Ent) (KE : Env → Heap → Prop), stepRX C mb ba nn cf ops ix rest ⟨d, .alloc t, ty, pos, af, gd⟩ env G acc KE = stepX C mb ba nn cf ix acc ⟨d, .alloc t, ty, pos, af, gd⟩ (C.ev env) G fun r G' acc' => letX r fun v' => runX C mb ba nn cf ops (ix + 1) rest (putE env d v') G' acc' KE) ∧
  (∀ (C : Cx) (mb : Nat → Bool) (ba : Nat) (nn : Nat) (cf : List (Nat × Nat)) (ops : Array Oper) (ix : Nat) (rest : List Oper) (d : Option Tmp) (t : TypeId) (x : Operand) (y : Operand) (ty : TypeId) (pos : String) (af : Array Edge) (gd : Option (Nat × Bool)) (env : Env) (G : Heap) (acc : List Ent) (KE : Env → Heap → Prop), stepRX C mb ba nn cf ops ix rest ⟨d, .makeSlice t x y, ty, pos, af, gd⟩ env G acc KE = stepX C mb ba nn cf ix acc ⟨d, .makeSlice t x y, ty, pos, af, gd⟩ (C.ev env) G fun r G' acc' => letX r fun v' => runX C mb ba nn cf ops (ix + 1) rest (putE env d v') G' acc' KE) ∧
  (∀ (C : Cx) (mb : Nat → Bool) (ba : Nat) (nn : Nat) (cf : List (Nat × Nat)) (ops : Array Oper) (ix : Nat) (rest : List Oper) (i : Nat) (t : TypeId) (x : Operand) (ty : TypeId) (pos : String) (af : Array Edge) (gd : Option (Nat × Bool)) (env : Env) (G : Heap) (acc : List Ent) (KE : Env → Heap → Prop), stepRX C mb ba nn cf ops ix rest ⟨some i, .box t x, ty, pos, af, gd⟩ env G acc KE = stepX C mb ba nn cf ix acc ⟨some i, .box t x, ty, pos, af, gd⟩ (C.ev env) G fun r G' acc' => letX r fun v' => runX C mb ba nn cf ops (ix + 1) rest (putE env (some i) v') G' acc' KE) ∧
  (∀ (C : Cx) (mb : Nat → Bool) (ba : Nat) (nn : Nat) (cf : List (Nat × Nat)) (ops : Array Oper) (ix : Nat) (rest : List Oper) (i : Nat) (t : TypeId) (n : Nat) (ps : Array (Nat × Operand)) (ty : TypeId) (pos : String) (af : Array Edge) (gd : Option (Nat × Bool)) (env : Env) (G : Heap) (acc : List Ent) (KE : Env → Heap → Prop), stepRX C mb ba nn cf ops ix rest ⟨some i, .buildSlice t n ps, ty, pos, af, gd⟩ env G acc KE = stepX C mb ba nn cf ix acc ⟨some i, .buildSlice t n ps, ty, pos, af, gd⟩ (C.ev env) G fun r G' acc' => letX r fun v' => runX C mb ba nn cf ops (ix + 1) rest (putE env (some i) v') G' acc' KE) ∧
  (∀ (C : Cx) (mb : Nat → Bool) (ba : Nat) (nn : Nat) (cf : List (Nat × Nat)) (ops : Array Oper) (ix : Nat) (rest : List Oper) (d : Option Tmp) (t : TypeId) (x : Operand) (y : Operand) (ty : TypeId) (pos : String) (af : Array Edge) (gd : Option (Nat × Bool)) (env : Env) (G : Heap) (acc : List Ent) (KE : Env → Heap → Prop), stepRX C mb ba nn cf ops ix rest ⟨d, .store t x y, ty, pos, af, gd⟩ env G acc KE = stepX C mb ba nn cf ix acc ⟨d, .store t x y, ty, pos, af, gd⟩ (C.ev env) G fun r G' acc' => letX r fun v' => runX C mb ba nn cf ops (ix + 1) rest (putE env d v') G' acc' KE) ∧
  (∀ (C : Cx) (mb : Nat → Bool) (ba : Nat) (nn : Nat) (cf : List (Nat × Nat)) (ops : Array Oper) (ix : Nat) (rest : List Oper) (d : Option Tmp) (fo : Operand) (as' : Array Operand) (ts : Array TypeId) (ty : TypeId) (pos : String) (af : Array Edge) (gd : Option (Nat × Bool)) (env : Env) (G : Heap) (acc : List Ent) (KE : Env → Heap → Prop), stepRX C mb ba nn cf ops ix rest ⟨d, .call ⟨.value fo, as', ts⟩, ty, pos, af, gd⟩ env G acc KE = (letX (C.ev env fo) fun m77' => match m77' with
    | .fn g first cap => letX (first ++ as'.toList.map (C.ev env) ++ cap) fun l' => CallAtX C mb ba nn cf ops ix rest d g l' env G acc KE
    | _ => False)) ∧
  (∀ (C : Cx) (mb : Nat → Bool) (ba : Nat) (nn : Nat) (cf : List (Nat × Nat)) (ops : Array Oper) (ix : Nat) (rest : List Oper) (d : Option Tmp) (x : Operand) (y : Operand) (t : TypeId) (u : TypeId) (ty : TypeId) (pos : String) (af : Array Edge) (gd : Option (Nat × Bool)) (env : Env) (G : Heap) (acc : List Ent) (KE : Env → Heap → Prop), stepRX C mb ba nn cf ops ix rest ⟨d, .call ⟨.builtin .append, #[x, y], #[t, u]⟩, ty, pos, af, gd⟩ env G acc KE = stepX C mb ba nn cf ix acc ⟨d, .call ⟨.builtin .append, #[x, y], #[t, u]⟩, ty, pos, af, gd⟩ (C.ev env) G fun r G' acc' => letX r fun v' => runX C mb ba nn cf ops (ix + 1) rest (putE env d v') G' acc' KE) ∧
  (∀ (C : Cx) (mb : Nat → Bool) (ba : Nat) (nn : Nat) (cf : List (Nat × Nat)) (ops : Array Oper) (ix : Nat) (rest : List Oper) (d : Option Tmp) (t : TypeId) (x : Operand) (ty : TypeId) (pos : String) (af : Array Edge) (gd : Option (Nat × Bool)) (env : Env) (G : Heap) (acc : List Ent) (KE : Env → Heap → Prop), stepRX C mb ba nn cf ops ix rest ⟨d, .load t x, ty, pos, af, gd⟩ env G acc KE = stepX C mb ba nn cf ix acc ⟨d, .load t x, ty, pos, af, gd⟩ (C.ev env) G fun r G' acc' => letX r fun v' => runX C mb ba nn cf ops (ix + 1) rest (putE env d v') G' acc' KE) ∧
  (∀ (C : Cx) (G : Heap) (t : TypeId) (u : TypeId) (av : AV) (aw : AV) (K : AV → Heap → Prop), appK C G t u av aw K = (letX (C.el t) fun m78' => letX ((C.el u).isSome) fun m79' => match m78', m79' with
  | some e, true => (letX (C.ti e) fun m80' => match m80' with
    | some i => letX i.sz fun s' => letX i.by' fun y' => s' ≠ 0 ∧ rdsK G aw s' fun m g => appTo G av s' m g (fun n => n * y' ≤ 140737488355328 ∧ n ≤ 140737488355328) K
    | none => False)
  | _, _ => False)) ∧
  (∀ (G : Heap) (s2 : Nat) (n : Nat) (f : Nat → List AV) (sz : Nat) (KP : Nat → (Nat → List AV) → Prop), rdsK G (.lst s2 n f) sz KP = (s2 = sz ∧ KP n f)) ∧
  (∀ (G : Heap) (sz : Nat) (KP : Nat → (Nat → List AV) → Prop), rdsK G .nils sz KP = KP 0 fun _ => []) ∧
  (∀ (G : Heap) (sz : Nat) (KP : Nat → (Nat → List AV) → Prop), rdsK G .emp sz KP = KP 0 fun _ => []) ∧
  (∀ (G : Heap) (bb : Nat) (off : Nat) (len : Nat) (p : Bool) (s2 : Nat) (sz : Nat) (KP : Nat → (Nat → List AV) → Prop), rdsK G (.sl bb off len p s2) sz KP = (letX (G.get bb) fun m81' => match m81' with
    | some blk => (s2 = sz ∧ off + len * sz ≤ blk.n) ∧ KP len fun i => tab sz fun j => blk.f (off + i * sz + j)
    | none => False)) ∧
  (∀ (G : Heap) (sz : Nat) (n : Nat) (gf : Nat → List AV) (fits : Nat → Prop) (K : AV → Heap → Prop), appTo G .nils sz n gf fits K = (fits n ∧ if n = 0 then K .nils G else K (.sl G.next 0 n false sz) (G.push ⟨n * sz, appF sz 0 (fun _ => .undef) gf⟩))) ∧
  (∀ (G : Heap) (bb : Nat) (off : Nat) (len : Nat) (p : Bool) (s2 : Nat) (sz : Nat) (n : Nat) (gf : Nat → List AV) (fits : Nat → Prop) (K : AV → Heap → Prop), appTo G (.sl bb off len p s2) sz n gf fits K = (letX (G.get bb) fun m82' => match m82' with
    | some blk => (s2 = sz ∧ off + len * sz ≤ blk.n ∧ fits (len + n)) ∧ (if n = 0 then K (.sl bb off len p s2) G else match p with
      | true => K (.sl G.next 0 (len + n) false sz) (G.push ⟨(len + n) * sz, appF sz len (fun i => blk.f (off + i)) gf⟩)
      | false => off = 0 ∧ K (.sl G.next 0 (len + n) false sz) ((G.set bb none).push ⟨(len + n) * sz, appF sz len blk.f gf⟩))
    | none => False)) ∧
  (∀ (ti : TI), Option.isSome (some ti) = true) ∧
  (∀ (n : Nat), Option.isSome (some n) = true) ∧
  (∀ (sz : Nat) (len : Nat) (h : Nat → AV) (gf : Nat → List AV) (i : Nat), appF sz len h gf i = if i < len * sz then h i else (gf ((i - len * sz) / sz)).getD ((i - len * sz) % sz) .undef) ∧
  (Int.toNat 0 = 0) ∧
  (Int.toNat 1 = 1) ∧
  (Int.toNat 2 = 2) ∧
  (∀ (av : AV) (vs : List AV), (av :: vs)[0]? = some av) ∧
  (∀ (av : AV) (vs : List AV) (n : Nat), (av :: vs)[n + 1]? = vs[n]?) ∧
  (∀ (C : Cx) (ρ : Operand → AV) (t : TypeId) (av : AV) (lo : Option Operand) (hi : Option Operand) (KA : AV → Prop), sliceK C ρ t av lo hi none KA = (letX (C.el t) fun m83' => match m83' with
  | none => False
  | some e => letX (C.ti e) fun m84' => letX (lenOf av) fun m85' => match m84', m85' with
    | some i, some ll => (match av with | .sl _ _ _ _ sz => sz = i.sz | .lst sz _ _ => sz = i.sz | _ => True) ∧
      (letX (bnd ρ lo 0) fun m86' => letX (bnd ρ hi ll) fun m87' => match m86', m87' with
        | some l, some h => sliceAt av l h KA
        | _, _ => False)
    | _, _ => False)) ∧
  (∀ (ρ : Operand → AV) (m : Int), bnd ρ none m = some m) ∧
  (∀ (ρ : Operand → AV) (x : Operand) (m : Int), bnd ρ (some x) m = (letX (ρ x) fun m88' => match m88' with
    | .int _ i => some i
    | _ => none)) ∧
  (∀ (bb : Nat) (off : Nat) (len : Nat) (p : Bool) (sz : Nat) (m : Int) (a : Int) (KA : AV → Prop), sliceAt (.sl bb off len p sz) m a KA = ((0 ≤ m ∧ m ≤ a ∧ a ≤ (len : Int)) ∧ (m = 0 ∨ m < a) ∧ KA (.sl bb (off + m.toNat * sz) (a - m).toNat (p && decide (a = (len : Int))) sz))) ∧
  (∀ (sz : Nat) (n : Nat) (f : Nat → List AV) (m : Int) (a : Int) (KA : AV → Prop), sliceAt (.lst sz n f) m a KA = ((0 ≤ m ∧ m ≤ a ∧ a ≤ (n : Int)) ∧ KA (.lst sz (a - m).toNat fun i => f (m.toNat + i)))) ∧
  (∀ (m : Int) (a : Int) (KA : AV → Prop), sliceAt .nils m a KA = (m = 0 ∧ a = 0 ∧ KA .nils)) :=
  ⟨ev0, ev1, ev2, ev3, ev4, ev5, ev6, ev7, ev8, ev9, ev10, ev11, ev12, ev13, ev14, ev15, ev16, ev17, ev18, ev19, ev20, ev21, ev22, ev23, ev24, ev25, ev26, ev27, ev28, ev29, ev30, ev31, ev32, ev33, ev34, ev35, ev36, ev37, ev38, ev39, ev40, ev41, ev42, ev43, ev44, ev45, ev46, ev47, ev48, ev49, ev50, ev51, ev52, ev53, ev54, ev55, ev56, ev57, ev58, ev59, ev60, ev61, ev62, ev63, ev64, ev65, ev66, ev67, ev68, ev69, ev70, ev71, ev72, ev73, ev74, ev75, ev76, ev77, ev78, ev79, ev80, ev81, ev82, ev83, ev84, ev85, ev86, ev87, ev88, ev89, ev90, ev91, ev92, ev93, ev94, ev95, ev96, ev97, ev98, ev99, ev100, ev101, ev102, ev103, ev104, ev105, ev106, ev107, ev108, ev109, ev110, ev111, ev112, ev113, ev114, ev115, ev116, ev117, ev118, ev119, ev120, ev121, ev122, ev123, ev124, ev125, ev126, ev127, ev128, ev129, ev130, ev131, ev132, ev133, ev134, ev135, ev136, ev137, ev138, ev139, ev140, ev141, ev142, ev143, ev144, ev145, ev146, ev147, ev148, ev149, ev150, ev151, ev152, ev153, ev154, ev155, ev156, ev157, ev158, ev159, ev160, ev161, ev162, ev163, ev164, ev165, ev166, ev167, ev168, ev169, ev170, ev171, ev172, ev173, ev174, ev175, ev176, ev177, ev178, ev179, ev180, ev181, ev182, ev183, ev184, ev185, ev186, ev187, ev188, ev189, ev190, ev191, ev192, ev193, ev194, ev195, ev196, ev197, ev198, ev199, ev200, ev201, ev202, ev203, ev204, ev205, ev206, ev207, ev208, ev209, ev210, ev211, ev212, ev213, ev214, ev215, ev216, ev217, ev218, ev219, ev220, ev221, ev222, ev223, ev224, ev225, ev226, ev227, ev228, ev229, ev230, ev231, ev232, ev233, ev234, ev235, ev236, ev237, ev238, ev239, ev240, ev241, ev242, ev243, ev244, ev245, ev246, ev247, ev248, ev249, ev250, ev251, ev252, ev253, ev254, ev255, ev256, ev257, ev258, ev259, ev260, ev261, ev262, ev263, ev264, ev265, ev266, ev267, ev268, ev269, ev270, ev271, ev272, ev273, ev274, ev275, ev276, ev277, ev278, ev279, ev280, ev281, ev282, ev283, ev284, ev285, ev286, ev287, ev288, ev289, ev290, ev291, ev292, ev293, ev294, ev295, ev296, ev297, ev298, ev299, ev300, ev301, ev302, ev303, ev304, ev305, ev306, ev307, ev308, ev309, ev310, ev311, ev312, ev313, ev314, ev315, ev316, ev317, ev318, ev319, ev320, ev321⟩
end Go.Fw
