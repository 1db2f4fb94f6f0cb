/- Edges as keys of a map. -/
import Derived.Test.YtjcplclbdanpgaaTy
import Derived.Test.YtjcplclbdanpgaaFwS
import Derived.Laws.StructEq
import Derived.KernelRfl
namespace Go.Fw.Sx
open Go Go.Fw Go.Proofs
set_option maxRecDepth 100000
theorem eqEdge (a b c d : Int) (w : World) : (Op.equalIn 10000 35 (.agg #[.int .i64 a, .int .i64 b]) (.agg #[.int .i64 c, .int .i64 d])).run cx.P w = .ok (a == c && b == d) w := by
  have u3 : cx.P.underlying 3 = some (.int .i64) := by kernel_rfl
  have hS : cx.P.underlying 35 = some (.struct (cx.P.fieldsOf 35)) := by kernel_rfl
  have hp : cx.P.stoodInHeld 35 = false := by kernel_rfl
  rw [show (10000 : Nat) = 9999 + 1 from rfl, run_equalIn_struct w 9999 _ _ _ hS hp]
  obtain ⟨f0, f1, hf, n0, n1, t0, t1, o0, o1⟩ : ∃ f0 f1 : Field, (cx.P.fieldsOf 35).toList = [f0, f1] ∧ (f0.name == "_") = false ∧ (f1.name == "_") = false ∧ f0.type = 3 ∧ f1.type = 3 ∧ f0.offset = 0 ∧ f1.offset = 1 :=
    ⟨(cx.P.fieldsOf 35).toList.getD 0 default, (cx.P.fieldsOf 35).toList.getD 1 default, by kernel_rfl, by kernel_rfl, by kernel_rfl, by kernel_rfl, by kernel_rfl, by kernel_rfl, by kernel_rfl⟩
  have ha : ∀ w, (isAgg 3).run cx.P w = .ok false w := fun w => aggD_run u3 w
  rw [hf]
  have n0' : f0.name ≠ "_" := by intro h; rw [h] at n0; cases n0
  have n1' : f1.name ≠ "_" := by intro h; rw [h] at n1; cases n1
  simp [Op.eqFields, n0', n1', t0, t1, o0, o1, part, ha, run_equalIn_int _ _ _ _ _ _ _ u3]
  by_cases h1 : a = c <;> by_cases h2 : b = d <;> simp [h1, h2]
theorem checkEdge (e : Bool) (a b : Int) (w : World) : (Instr.checkKey e 10000 35 (.agg #[.int .i64 a, .int .i64 b])).run cx.P w = .ok () w := by
  have u3 : cx.P.underlying 3 = some (.int .i64) := by kernel_rfl
  have hS : cx.P.underlying 35 = some (.struct (cx.P.fieldsOf 35)) := by kernel_rfl
  obtain ⟨f0, f1, hf, t0, t1, o0, o1⟩ : ∃ f0 f1 : Field, (cx.P.fieldsOf 35) = #[f0, f1] ∧ f0.type = 3 ∧ f1.type = 3 ∧ f0.offset = 0 ∧ f1.offset = 1 :=
    ⟨(cx.P.fieldsOf 35).toList.getD 0 default, (cx.P.fieldsOf 35).toList.getD 1 default, by kernel_rfl, by kernel_rfl, by kernel_rfl, by kernel_rfl, by kernel_rfl⟩
  have ha : ∀ w, (isAgg 3).run cx.P w = .ok false w := fun w => aggD_run u3 w
  have hk : ∀ (n : Nat) (x : Int) w, (Instr.checkKey e (n + 1) 3 (.int .i64 x)).run cx.P w = .ok () w := fun n x w => by
    simp [Instr.checkKey, run_underlying u3]
  rw [hf] at hS
  rw [show (10000 : Nat) = 9998 + 1 + 1 from rfl]
  generalize (9998 : Nat) = m
  rw [Instr.checkKey]
  simp [Instr.checkKey, run_underlying hS, run_underlying u3, t0, t1, o0, o1, part, ha]
theorem edgeKey (a b : Int) : KeyT cx 35 (.agg [.int .i64 a, .int .i64 b]) := by
  refine ⟨rfl, ⟨.struct (cx.P.fieldsOf 35), by kernel_rfl, fun u v => rfl⟩, fun xs ys w hx hy => ?_, fun e xs w hx => ?_⟩
  · match xs, ys, hx, hy with
    | [x1, x2], [y1, y2], _, _ =>
      refine (eqEdge x1 x2 y1 y2 w).trans ?_
      congr 1
      by_cases h1 : x1 = y1 <;> by_cases h2 : x2 = y2 <;> simp [h1, h2]
  · match xs, hx with
    | [x1, x2], _ => exact checkEdge e x1 x2 w
/-- Where an edge stands among a map's keys. -/
def edgeV (p : Int × Int) : AV := .agg [.int .i64 p.1, .int .i64 p.2]
def idxE (p : Int × Int) : List (Int × Int) → Option Nat
  | [] => none
  | q :: qs => if p = q then some 0 else (idxE p qs).map (· + 1)
theorem findEdge (p : Int × Int) : ∀ qs : List (Int × Int), findK (edgeV p) (qs.map edgeV) = some (idxE p qs)
  | [] => rfl
  | q :: qs => by
    simp only [List.map_cons, findK, edgeV, keyB, intL, intV, List.length_cons, List.length_nil, if_true, idxE]
    by_cases h : p = q
    · subst h; simp
    · have : ¬ ([p.1, p.2] = [q.1, q.2]) := fun e => h (by simp at e; exact Prod.ext e.1 e.2)
      have ih := findEdge p qs
      simp only [edgeV] at ih
      simp only [this, decide_false, ih, Option.map_some, h, if_false]
end Go.Fw.Sx
