import Derived.Test.YtjcplclbdanpgaaTy
import Derived.Test.YtjcplclbdanpgaaFwT
import Derived.Test.YtjcplclbdanpgaaFwS
namespace Go.Fw.Sx
open Go Go.Fw Go.Proofs
set_option maxRecDepth 100000
set_option linter.unusedSimpArgs false
def plain : AV → Bool
  | .bool _ | .int .. | .str _ | .nilp | .nils | .emp | .nilf | .fn _ [] [] => true
  | _ => false
theorem Fz.plain {G : Heap} {n : Nat} {a : AV} (h : plain a = true) : Fz G n a a := by
  cases a <;> simp only [Sx.plain] at h <;> first | exact .bool _ | exact .int _ _ | exact .str _ | exact .nilp | exact .nils | exact .emp | exact .nilf | (cases h; done) | skip
  rename_i f a b
  cases a <;> cases b <;> first | exact .fn _ _ _ _ _ rfl rfl (fun i p q h => by simp at h) (fun i p q h => by simp at h) | cases h
/-- Rows of a list. -/
def rows (sz : Nat) (l : List AV) : Nat → List AV := fun i => (l.drop (i * sz)).take sz
theorem Fz.rows {G : Heap} {m sz n : Nat} {l : List AV} (h : ∀ a ∈ l, Fz G m a a) : Fz G m (.lst sz n (rows sz l)) (.lst sz n (rows sz l)) :=
  .lst sz n _ _ (fun _ _ => rfl) fun i j c d _ h1 h2 => by
    rw [h1] at h2; injection h2 with h2; subst h2
    have := List.mem_of_getElem? h1
    exact h c (List.mem_of_mem_drop (List.mem_of_mem_take this))
theorem Fz.rowsP {G : Heap} {m sz n : Nat} {l : List AV} (h : l.all Sx.plain = true) : Fz G m (.lst sz n (Sx.rows sz l)) (.lst sz n (Sx.rows sz l)) := Fz.rows fun a ha => Fz.plain (List.all_eq_true.1 h a ha)
def bnds (n : Nat) (l : List AV) : AV := .lst 2 n (rows 2 l)
theorem from_cp (x : Int) : ∀ G, Cp cx 13 [.int .i64 x] G (.agg [.int .i64 x, .int .i64 1048576]) := by
  refine Cp.intro fun n0 => ?_
  refine Ct.start (fun _ => false) Try.func13 rfl (by kernel_rfl) (by kernel_rfl) fun R hR => ?_
  simp only [EV]
  refine Runs.seq ?_
  -- region 0 gen.go:25 alloc@2
  refine Runs.reg [0, 2] (by kernel_rfl) fun kk hk oo ho => ?_
  simp +decide only [↓EV, EV, ty, ↓reduceIte, decide_true, decide_false, Int.cast_ofNat_Int]
  subst hk
  refine Runs.seq ?_
  -- region 1 gen.go:25 store
  refine Runs.reg [2] (by kernel_rfl) fun kk hk oo ho => ?_
  simp +decide only [↓EV, EV, ty, ↓reduceIte, decide_true, decide_false, Int.cast_ofNat_Int]
  subst hk
  refine Runs.retL [.cell 2 50] (by kernel_rfl) (by kernel_rfl) ?_
  simp +decide only [↓EV, EV, ty, ↓reduceIte, decide_true, decide_false, Int.cast_ofNat_Int]
  subst hR
  refine .agg _ _ rfl fun i c d h1 h2 => ?_
  rw [h1] at h2; injection h2 with h2; subst h2
  match i, h1 with
  | 0, h1 => injection h1 with h1; subst h1; exact .int _ _
  | 1, h1 => injection h1 with h1; subst h1; exact .int _ _
/-- The families' names. -/
def nameL : List AV := [.str ⟨#[101, 109, 112, 116, 121]⟩, .str ⟨#[112, 97, 116, 104]⟩, .str ⟨#[99, 121, 99, 108, 101]⟩, .str ⟨#[115, 116, 97, 114]⟩, .str ⟨#[99, 111, 109, 112, 108, 101, 116, 101]⟩, .str ⟨#[98, 105, 112, 97, 114, 116, 105, 116, 101]⟩,
  .str ⟨#[103, 114, 105, 100]⟩, .str ⟨#[116, 111, 114, 117, 115]⟩, .str ⟨#[119, 104, 101, 101, 108]⟩, .str ⟨#[102, 97, 110]⟩, .str ⟨#[112, 114, 105, 115, 109]⟩, .str ⟨#[97, 110, 116, 105, 112, 114, 105, 115, 109]⟩, .str ⟨#[109, 111, 98, 105, 117, 115]⟩,
  .str ⟨#[99, 117, 98, 101]⟩, .str ⟨#[116, 114, 101, 101]⟩, .str ⟨#[102, 114, 105, 101, 110, 100, 115]⟩, .str ⟨#[98, 101, 97, 100, 115]⟩, .str ⟨#[112, 101, 116, 101, 114, 115, 101, 110]⟩, .str ⟨#[115, 116, 97, 99, 107, 101, 100]⟩, .str ⟨#[108, 99, 103]⟩]
theorem refNames_cp : ∀ G, Cp cx 6 [] G (.lst 1 20 (rows 1 nameL)) := by
  refine Cp.intro fun n0 => ?_
  refine Ct.start (fun _ => false) Try.func6 rfl (by kernel_rfl) (by kernel_rfl) fun R hR => ?_
  simp only [EV]
  refine Runs.seq ?_
  -- region 0 ref.go:18 
  refine Runs.reg [] (by kernel_rfl) fun kk hk oo ho => ?_
  simp +decide only [↓EV, EV, ty, ↓reduceIte, decide_true, decide_false, Int.cast_ofNat_Int]
  subst hk
  refine Runs.seq ?_
  -- region 1 ref.go:19 buildSlice@1
  refine Runs.reg [0] (by kernel_rfl) fun kk hk oo ho => ?_
  simp +decide only [↓EV, EV, ty, ↓reduceIte, decide_true, decide_false, Int.cast_ofNat_Int]
  subst hk
  refine Runs.retL [.tmp 0] (by kernel_rfl) (by kernel_rfl) ?_
  simp +decide only [↓EV, EV, ty, ↓reduceIte, decide_true, decide_false, Int.cast_ofNat_Int]
  subst hR
  have e : (fun i => List.take 1 (List.drop i nameL)) = rows 1 nameL := funext fun i => by simp [rows]
  show Fz _ _ (.lst 1 20 fun i => List.take 1 (List.drop i nameL)) _
  rw [e]
  refine Fz.rows fun a ha => Fz.plain ?_
  have : nameL.all plain = true := rfl
  exact List.all_eq_true.1 this a ha
def fams : List (List AV) := [
  [.str ⟨#[101, 109, 112, 116, 121]⟩, .bool false, (bnds 1 [.int .i64 0, .int .i64 1048576]), .fn 14 [] [], .fn 15 [] []],
  [.str ⟨#[112, 97, 116, 104]⟩, .bool false, (bnds 1 [.int .i64 0, .int .i64 1048576]), .fn 16 [] [], .fn 17 [] []],
  [.str ⟨#[99, 121, 99, 108, 101]⟩, .bool false, (bnds 1 [.int .i64 3, .int .i64 1048576]), .fn 19 [] [], .fn 20 [] []],
  [.str ⟨#[115, 116, 97, 114]⟩, .bool false, (bnds 1 [.int .i64 0, .int .i64 1048576]), .fn 22 [] [], .fn 23 [] []],
  [.str ⟨#[99, 111, 109, 112, 108, 101, 116, 101]⟩, .bool false, (bnds 1 [.int .i64 0, .int .i64 1048576]), .fn 25 [] [], .fn 26 [] []],
  [.str ⟨#[98, 105, 112, 97, 114, 116, 105, 116, 101]⟩, .bool false, (bnds 2 [.int .i64 0, .int .i64 1048576, .int .i64 0, .int .i64 1048576]), .fn 27 [] [], .fn 28 [] []],
  [.str ⟨#[103, 114, 105, 100]⟩, .bool false, (bnds 2 [.int .i64 1, .int .i64 1048576, .int .i64 1, .int .i64 1048576]), .fn 29 [] [], .fn 30 [] []],
  [.str ⟨#[116, 111, 114, 117, 115]⟩, .bool false, (bnds 2 [.int .i64 3, .int .i64 1048576, .int .i64 3, .int .i64 1048576]), .fn 32 [] [], .fn 33 [] []],
  [.str ⟨#[119, 104, 101, 101, 108]⟩, .bool false, (bnds 1 [.int .i64 3, .int .i64 1048576]), .fn 34 [] [], .fn 35 [] []],
  [.str ⟨#[102, 97, 110]⟩, .bool false, (bnds 1 [.int .i64 1, .int .i64 1048576]), .fn 36 [] [], .fn 37 [] []],
  [.str ⟨#[112, 114, 105, 115, 109]⟩, .bool false, (bnds 1 [.int .i64 3, .int .i64 1048576]), .fn 38 [] [], .fn 39 [] []],
  [.str ⟨#[97, 110, 116, 105, 112, 114, 105, 115, 109]⟩, .bool false, (bnds 1 [.int .i64 3, .int .i64 1048576]), .fn 41 [] [], .fn 42 [] []],
  [.str ⟨#[109, 111, 98, 105, 117, 115]⟩, .bool false, (bnds 1 [.int .i64 2, .int .i64 1048576]), .fn 43 [] [], .fn 44 [] []],
  [.str ⟨#[99, 117, 98, 101]⟩, .bool false, (bnds 1 [.int .i64 0, .int .i64 17]), .fn 45 [] [], .fn 46 [] []],
  [.str ⟨#[116, 114, 101, 101]⟩, .bool false, (bnds 2 [.int .i64 1, .int .i64 1048576, .int .i64 0, .int .i64 1048576]), .fn 47 [] [], .fn 48 [] []],
  [.str ⟨#[102, 114, 105, 101, 110, 100, 115]⟩, .bool false, (bnds 1 [.int .i64 0, .int .i64 1048576]), .fn 49 [] [], .fn 50 [] []],
  [.str ⟨#[98, 101, 97, 100, 115]⟩, .bool false, (bnds 2 [.int .i64 0, .int .i64 1048576, .int .i64 3, .int .i64 1048576]), .fn 51 [] [], .fn 52 [] []],
  [.str ⟨#[112, 101, 116, 101, 114, 115, 101, 110]⟩, .bool false, .nils, .fn 53 [] [], .fn 54 [] []],
  [.str ⟨#[115, 116, 97, 99, 107, 101, 100]⟩, .bool true, (bnds 1 [.int .i64 0, .int .i64 1048576]), .fn 55 [] [], .fn 56 [] []],
  [.str ⟨#[108, 99, 103]⟩, .bool false, (bnds 3 [.int .i64 0, .int .i64 1048576, .int .i64 0, .int .i64 4194304, .int .i64 0, .int .i64 2147483647]), .fn 57 [] [], .fn 58 [] []]]
theorem families_cp : ∀ G, Cp cx 9 [] G (.lst 5 20 (rows 5 fams.flatten)) := by
  refine Cp.intro fun n0 => ?_
  refine Ct.start (fun _ => false) Try.func9 rfl (by kernel_rfl) (by kernel_rfl) fun R hR => ?_
  simp only [EV]
  refine Runs.seq ?_
  -- region 0 gen.go:111 
  refine Runs.reg [] (by kernel_rfl) fun kk hk oo ho => ?_
  simp +decide only [↓EV, EV, ty, ↓reduceIte, decide_true, decide_false, Int.cast_ofNat_Int]
  subst hk
  refine Runs.seq ?_
  refine Runs.reg [0] (by kernel_rfl) fun kk hk oo ho => ?_
  simp +decide only [↓EV, EV, ty, ↓reduceIte, decide_true, decide_false, Int.cast_ofNat_Int, List.toList_toArray, List.append_eq, List.cons_append, List.nil_append]
  iterate 24 (first | (refine CallAt.pure (from_cp _ _) ?_; simp +decide only [↓EV, EV, ty, ↓reduceIte, decide_true, decide_false, Int.cast_ofNat_Int]) | skip)
  subst hk
  refine Runs.retL [.tmp 0] (by kernel_rfl) (by kernel_rfl) ?_
  simp +decide only [EV]
  subst hR
  show Fz _ _ (.lst 5 20 (rows 5 fams.flatten)) _
  refine Fz.rows fun a ha => ?_
  simp only [fams, List.flatten_cons, List.flatten_nil, List.append_nil, List.cons_append, List.nil_append, List.mem_cons, List.not_mem_nil, or_false] at ha
  repeat (rcases ha with rfl | ha; · first | exact Fz.plain rfl | exact Fz.rowsP rfl)
  first | (subst ha; exact Fz.plain rfl) | skip
end Go.Fw.Sx
