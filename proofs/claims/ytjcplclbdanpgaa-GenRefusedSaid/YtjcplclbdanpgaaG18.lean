/- Rows.GenRefusedSaid is proved: at every input the law GenRefused returns true, and its arguments read as they did; no condition. -/
import Derived.Test.YtjcplclbdanpgaaRows
import Derived.Test.YtjcplclbdanpgaaG16
import Derived.WalkKit
import Derived.ProofKit
import Derived.OpenShut
import Derived.ShutString
import Derived.ChangeOld
import Derived.Below
import Derived.SizedLaws
namespace Go.Proofs.Ytjcplclbdanpgaa.genRefused
open Go.ChangeShapes Go.WideShapes Go.ChangeAt Go.RowKit
open Go.ChangeMaps (open_string shut_string)
set_option linter.unusedVariables false

theorem own : ownKnob Try.prog.godebug = none := by kernel_rfl
theorem laidOut : laidOutB Try.prog = true := by kernel_rfl

theorem I22 : Try.prog.underlying 22 = some (.slice 3) := Try.underlying22
set_option maxRecDepth 100000 in
theorem lifted (os : Os) (started : os.Started) (H : Type) (enc : TypeId × Value → H) :
    ReturnsInHanded {} Try.checked os 3 .any (Rows.genRefusedSpec.pre6 enc Try.prog Try.f3 Rows.genRefusedRow.domain false) (Rows.genRefusedSpec.post enc Try.prog Try.f3 false true false false) := by
  refine returnsInHanded_of_change_sized (C := Try.checked) own started (by kernel_rfl) Try.func3
    (ChangeSpec.witness6 (enc := enc) (C := Try.checked) false ⟨#[], #[.string ⟨#[]⟩, .slice none 0 0], []⟩ 8 (by kernel_rfl) (by kernel_rfl) (by kernel_rfl) (by kernel_rfl)) ?_
  intro W base args ds gs before hval0 hW hcnd hsz _
  have hval : ∀ (j : Nat) t v, Try.f3.params[j]? = some t → args[j]? = some v → Value.okWide Try.prog W .any base t v := hval0
  have hW' := hW
  obtain ⟨p, q, hA0, hV, rfl, hfz, hnd⟩ := hW
  have hA : DataW.TrodAll enc Try.prog W 0 (fun _ => true) true Try.f3.params.toList args.toList ds p := hA0
  rw [Try.params3] at hA hval
  obtain ⟨v0, vs0, d0, ds0, p0, q0, hargs, rfl, rfl, h0, r0⟩ := trodAll_cons hA
  obtain ⟨v1, vs1, d1, ds1, p1, q1, rfl, rfl, rfl, h1, r1⟩ := trodAll_cons r0
  obtain ⟨rfl, rfl, rfl⟩ := trodAll_nil r1
  obtain rfl : args = #[v0, v1] := by cases args; simp_all
  obtain ⟨rfl, rfl⟩ := trodVars_none hV
  obtain ⟨s, rfl, rfl, rfl, hs⟩ := open_string Try.underlying9 (hval 0 9 v0 rfl rfl) h0
  obtain ⟨a0, len0, cap0, rfl⟩ := okWide_slice Try.underlying22 (hval 1 22 v1 rfl rfl)
  have k1 := h1
  have lt1 : ∀ x ∈ p1, x.block < W.heap.size := by obtain ⟨m, hm⟩ := k1; exact DataW.trod_lt m _ _ _ hm
  obtain ⟨n, z, hn, hv⟩ : ∃ (n : Nat) (z : Nat → Int), n * 8 ≤ 140737488355328 ∧ Go.Fw.VR (Go.Fw.Lay.all W) W (Go.Fw.ints n z) (.slice a0 len0 cap0) := by
    obtain ⟨fuel, hf⟩ := h1
    obtain ⟨n, z, hv, _, _⟩ := Go.Fw.read_ints Try.underlying22 Try.underlying3 (by kernel_rfl) hf
    refine ⟨n, z, ?_, hv⟩
    have hlen : n = len0 := by cases hv; rfl
    rcases open_ints Try.underlying22 Try.underlying3 (by kernel_rfl) hf with ⟨hcs, _⟩ | ⟨x, l, c, zs, hcs, _, hl, hm, hz, hx, hcell, hwz⟩
    · simp [Value.cells] at hcs
      obtain ⟨rfl, rfl, rfl⟩ := hcs
      omega
    · simp [Value.cells] at hcs
      obtain ⟨rfl, rfl, rfl⟩ := hcs
      have hd : d1 = _ := congrArg Prod.fst hx
      have h8 : ((lits (H := H) .i64 (zs.take len0)).length + (lits (H := H) .i64 (zs.drop len0)).length) * 8 ≤ reachBytes := sized_slice hsz (j := 1) (t := 22) rfl (by rw [hd]; rfl) Try.underlying22
      have := reachBytes_lt
      simp only [lits, List.length_map, List.length_take, List.length_drop] at h8
      have hzl : len0 ≤ zs.length := by rw [hz]; simp only [if_true]; exact hl
      omega
  clear hA0 hval0
  refine (Go.Fw.Ct.law (C := Go.Fw.Sx.cx) (args := [.str s, Go.Fw.ints n z]) (fun _ => rfl) ((Go.Fw.Sx.refused_cp hn (.nil 0)).mono fun r G' h => h.1) (.cons (.str s) (.cons hv (.nil _ _)))).mono fun e W' ⟨he, bel⟩ => ?_
  subst he
  exact ⟨_, rfl, _, _, _, [], _, [], hW', trodAll_mk1 (shut_bool Try.underlying4 _), (trodAll_cons_mk (shut_string Try.underlying9 hs) (trodAll_cons_mk (Below.trod laidOut (by kernel_rfl) (of_decide_eq_true (by kernel_rfl)) k1 bel lt1) trodAll_mk0)), rfl, bel.frame _, fun h => by cases h⟩

theorem over : Rows.genRefusedRow.holds Try.pinned (OpenSpec.ofChange Rows.genRefusedSpec) :=
  OpenClaim.holds_of_wide 3 Try.f3 rfl rfl rfl rfl rfl rfl rfl ⟨rfl, rfl, rfl, rfl, rfl⟩ rfl rfl rfl rfl rfl (by kernel_rfl) Try.func3 (by kernel_rfl)
    (of_decide_eq_true (by kernel_rfl)) (by unfold Func.isWrapper; first | (rw [if_pos (by decide +kernel)]; kernel_rfl) | (rw [if_neg (by decide +kernel)]; exact ⟨rfl, rfl⟩))
    (fun os started H enc _ => lifted os started H enc)

/-- The statement. -/
theorem holds : Rows.GenRefusedSaid := over
end Go.Proofs.Ytjcplclbdanpgaa.genRefused
