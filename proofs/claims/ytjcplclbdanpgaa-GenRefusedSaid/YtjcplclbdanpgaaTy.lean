/- Facts on the program's types, each by the kernel. -/
import Derived.Test.YtjcplclbdanpgaaFwR
import Derived.Test.YtjcplclbdanpgaaProg
set_option maxRecDepth 100000
namespace Go.Fw.Sx
open Go Go.Fw
/-- The seat's program. -/
noncomputable def cx : Cx := ⟨Go.Proofs.Try.prog, fun _ => .undef⟩
theorem t0 : (cx.P.underlying 3).isSome = true := by kernel_rfl
theorem t1 : cx.ar 46 = some (2, 3) := by kernel_rfl
theorem t2 : cx.ar 60 = some (3, 3) := by kernel_rfl
theorem t3 : cx.bld 28 = true := by kernel_rfl
theorem t4 : cx.bld 35 = true := by kernel_rfl
theorem t5 : cx.bld 42 = true := by kernel_rfl
theorem t6 : cx.bld 46 = true := by kernel_rfl
theorem t7 : cx.bld 50 = true := by kernel_rfl
theorem t8 : cx.bld 60 = true := by kernel_rfl
theorem t9 : cx.el 22 = some 3 := by kernel_rfl
theorem t10 : cx.el 24 = some 9 := by kernel_rfl
theorem t11 : cx.el 26 = some 35 := by kernel_rfl
theorem t12 : cx.el 33 = some 24 := by kernel_rfl
theorem t13 : cx.el 36 = some 42 := by kernel_rfl
theorem t14 : cx.el 38 = some 50 := by kernel_rfl
theorem t15 : cx.el 45 = some 46 := by kernel_rfl
theorem t16 : cx.el 46 = none := by kernel_rfl
theorem t17 : cx.el 60 = none := by kernel_rfl
theorem t18 : cx.el 61 = some 60 := by kernel_rfl
theorem t19 : cx.fd 28 0 = some (0, 3) := by kernel_rfl
theorem t20 : cx.fd 28 1 = some (1, 26) := by kernel_rfl
theorem t21 : cx.fd 35 0 = some (0, 3) := by kernel_rfl
theorem t22 : cx.fd 35 1 = some (1, 3) := by kernel_rfl
theorem t23 : cx.fd 42 0 = some (0, 9) := by kernel_rfl
theorem t24 : cx.fd 42 1 = some (1, 4) := by kernel_rfl
theorem t25 : cx.fd 42 2 = some (2, 38) := by kernel_rfl
theorem t26 : cx.fd 42 3 = some (3, 39) := by kernel_rfl
theorem t27 : cx.fd 42 4 = some (4, 40) := by kernel_rfl
theorem t28 : cx.fd 46 0 = none := by kernel_rfl
theorem t29 : cx.fd 46 1 = none := by kernel_rfl
theorem t30 : cx.fd 50 0 = some (0, 3) := by kernel_rfl
theorem t31 : cx.fd 50 1 = some (1, 3) := by kernel_rfl
theorem t32 : cx.fd 60 0 = none := by kernel_rfl
theorem t33 : cx.fd 60 1 = none := by kernel_rfl
theorem t34 : cx.fd 60 2 = none := by kernel_rfl
theorem t35 : cx.ik 65 = some .u64 := by kernel_rfl
theorem t36 : cx.isBool 4 = true := by kernel_rfl
theorem t37 : cx.mt 57 = some (35, 4) := by kernel_rfl
theorem t38 : cx.ti 24 = some ⟨1, 24, false, [.nils]⟩ := by kernel_rfl
theorem t39 : cx.ti 26 = some ⟨1, 24, false, [.nils]⟩ := by kernel_rfl
theorem t40 : cx.ti 28 = some ⟨2, 32, true, [.int .i64 0, .nils]⟩ := by kernel_rfl
theorem t41 : cx.ti 3 = some ⟨1, 8, false, [.int .i64 0]⟩ := by kernel_rfl
theorem t42 : cx.ti 35 = some ⟨2, 16, true, [.int .i64 0, .int .i64 0]⟩ := by kernel_rfl
theorem t43 : cx.ti 38 = some ⟨1, 24, false, [.nils]⟩ := by kernel_rfl
theorem t44 : cx.ti 39 = some ⟨1, 8, false, [.nilf]⟩ := by kernel_rfl
theorem t45 : cx.ti 4 = some ⟨1, 1, false, [.bool false]⟩ := by kernel_rfl
theorem t46 : cx.ti 40 = some ⟨1, 8, false, [.nilf]⟩ := by kernel_rfl
theorem t47 : cx.ti 42 = some ⟨5, 64, true, [.str ⟨#[]⟩, .bool false, .nils, .nilf, .nilf]⟩ := by kernel_rfl
theorem t48 : cx.ti 45 = some ⟨1, 24, false, [.nils]⟩ := by kernel_rfl
theorem t49 : cx.ti 46 = some ⟨2, 16, true, [.int .i64 0, .int .i64 0]⟩ := by kernel_rfl
theorem t50 : cx.ti 50 = some ⟨2, 16, true, [.int .i64 0, .int .i64 0]⟩ := by kernel_rfl
theorem t51 : cx.ti 60 = some ⟨3, 24, true, [.int .i64 0, .int .i64 0, .int .i64 0]⟩ := by kernel_rfl
theorem t52 : cx.ti 9 = some ⟨1, 16, false, [.str ⟨#[]⟩]⟩ := by kernel_rfl
theorem t53 : ∀ (α : Type) (v : α), mark v = v := mark_eq
theorem t54 : ∀ (α β : Type) (v : α) (K : α → β), letX v K = K v := letX_eq
theorem ty : ((cx.P.underlying 3).isSome = true) ∧
  (cx.ar 46 = some (2, 3)) ∧
  (cx.ar 60 = some (3, 3)) ∧
  (cx.bld 28 = true) ∧
  (cx.bld 35 = true) ∧
  (cx.bld 42 = true) ∧
  (cx.bld 46 = true) ∧
  (cx.bld 50 = true) ∧
  (cx.bld 60 = true) ∧
  (cx.el 22 = some 3) ∧
  (cx.el 24 = some 9) ∧
  (cx.el 26 = some 35) ∧
  (cx.el 33 = some 24) ∧
  (cx.el 36 = some 42) ∧
  (cx.el 38 = some 50) ∧
  (cx.el 45 = some 46) ∧
  (cx.el 46 = none) ∧
  (cx.el 60 = none) ∧
  (cx.el 61 = some 60) ∧
  (cx.fd 28 0 = some (0, 3)) ∧
  (cx.fd 28 1 = some (1, 26)) ∧
  (cx.fd 35 0 = some (0, 3)) ∧
  (cx.fd 35 1 = some (1, 3)) ∧
  (cx.fd 42 0 = some (0, 9)) ∧
  (cx.fd 42 1 = some (1, 4)) ∧
  (cx.fd 42 2 = some (2, 38)) ∧
  (cx.fd 42 3 = some (3, 39)) ∧
  (cx.fd 42 4 = some (4, 40)) ∧
  (cx.fd 46 0 = none) ∧
  (cx.fd 46 1 = none) ∧
  (cx.fd 50 0 = some (0, 3)) ∧
  (cx.fd 50 1 = some (1, 3)) ∧
  (cx.fd 60 0 = none) ∧
  (cx.fd 60 1 = none) ∧
  (cx.fd 60 2 = none) ∧
  (cx.ik 65 = some .u64) ∧
  (cx.isBool 4 = true) ∧
  (cx.mt 57 = some (35, 4)) ∧
  (cx.ti 24 = some ⟨1, 24, false, [.nils]⟩) ∧
  (cx.ti 26 = some ⟨1, 24, false, [.nils]⟩) ∧
  (cx.ti 28 = some ⟨2, 32, true, [.int .i64 0, .nils]⟩) ∧
  (cx.ti 3 = some ⟨1, 8, false, [.int .i64 0]⟩) ∧
  (cx.ti 35 = some ⟨2, 16, true, [.int .i64 0, .int .i64 0]⟩) ∧
  (cx.ti 38 = some ⟨1, 24, false, [.nils]⟩) ∧
  (cx.ti 39 = some ⟨1, 8, false, [.nilf]⟩) ∧
  (cx.ti 4 = some ⟨1, 1, false, [.bool false]⟩) ∧
  (cx.ti 40 = some ⟨1, 8, false, [.nilf]⟩) ∧
  (cx.ti 42 = some ⟨5, 64, true, [.str ⟨#[]⟩, .bool false, .nils, .nilf, .nilf]⟩) ∧
  (cx.ti 45 = some ⟨1, 24, false, [.nils]⟩) ∧
  (cx.ti 46 = some ⟨2, 16, true, [.int .i64 0, .int .i64 0]⟩) ∧
  (cx.ti 50 = some ⟨2, 16, true, [.int .i64 0, .int .i64 0]⟩) ∧
  (cx.ti 60 = some ⟨3, 24, true, [.int .i64 0, .int .i64 0, .int .i64 0]⟩) ∧
  (cx.ti 9 = some ⟨1, 16, false, [.str ⟨#[]⟩]⟩) ∧
  (∀ (α : Type) (v : α), mark v = v) ∧
  (∀ (α β : Type) (v : α) (K : α → β), letX v K = K v) :=
  ⟨t0, t1, t2, t3, t4, t5, t6, t7, t8, t9, t10, t11, t12, t13, t14, t15, t16, t17, t18, t19, t20, t21, t22, t23, t24, t25, t26, t27, t28, t29, t30, t31, t32, t33, t34, t35, t36, t37, t38, t39, t40, t41, t42, t43, t44, t45, t46, t47, t48, t49, t50, t51, t52, t53, t54⟩
end Go.Fw.Sx
