/- Which numbers the families refuse; what gen.Make answers there. -/
import Derived.Test.YtjcplclbdanpgaaG12
import Derived.Test.YtjcplclbdanpgaaG13
namespace Go.Fw.Sx
open Go Go.Fw Go.Proofs
set_option maxRecDepth 100000
set_option linter.unusedSimpArgs false
set_option linter.unusedVariables false
theorem make_none {s : ByteArray} {n : Nat} {z : Nat → Int} (h : ∀ i, i < 20 → (nameB i).toList ≠ s.toList) : ∀ G, Cp cx 7 [.str s, ints n z] G errR :=
  make_cp ⟨rfl, rfl⟩ ⟨fun _ _ => .nils, rfl⟩ ⟨rfl, rfl⟩ (.inl ⟨h, rfl, rfl, rfl⟩)
theorem nameB_ne' : ∀ i, i < 20 → ∀ j, j < i → (nameB j).data.toList ≠ (nameB i).data.toList := by decide
theorem nameB_ne : ∀ i, i < 20 → ∀ j, j < i → (nameB j).toList ≠ (nameB i).toList := fun i hi j hj => by
  rw [ByteArray.toList_eq, ByteArray.toList_eq]; exact nameB_ne' i hi j hj
theorem make_bad {i0 n : Nat} {z : Nat → Int} (hi : i0 < 20) (ht : ∀ G, Cp cx 10 [.agg (rows 5 fams.flatten i0), ints n z] G (.bool false)) : ∀ G, Cp cx 7 [.str (nameB i0), ints n z] G errR :=
  make_cp ⟨rfl, rfl⟩ ⟨fun _ _ => .nils, rfl⟩ ⟨rfl, rfl⟩ (.inr ⟨i0, hi, rfl, fun i h => nameB_ne i0 hi i h, false, ht, fun _ => ⟨rfl, rfl, rfl⟩, (fun h => by cases h)⟩)
theorem make_good {i0 n : Nat} {z : Nat → Int} {c2 : AV} {c1 e : Int} (hd2 : (∀ G m, Fz G m c2 c2) ∧ AV.isCell c2 = true) (hi : i0 < 20) (ht : ∀ G, Cp cx 10 [.agg (rows 5 fams.flatten i0), ints n z] G (.bool true)) (hm : Makes (rows 5 fams.flatten i0) n z (.agg [.int .i64 c1, c2]) (.int .i64 e)) :
    ∀ G, Cp cx 7 [.str (nameB i0), ints n z] G (.tup [.agg [.int .i64 c1, c2], .int .i64 e]) :=
  make_cp ⟨rfl, rfl⟩ hd2 ⟨rfl, rfl⟩ (.inr ⟨i0, hi, rfl, fun i h => nameB_ne i0 hi i h, true, ht, (fun h => by cases h), fun _ => hm⟩)
/-- How many numbers a family asks for. -/
def arity (i : Nat) : Nat := [1, 1, 1, 1, 1, 2, 2, 2, 1, 1, 1, 1, 1, 1, 2, 1, 2, 0, 1, 3].getD i 0
theorem hg0 : ∀ i, i < 1 → rows 2 [.int .i64 0, .int .i64 1048576] i = [.int .i64 (([0] : List Int).getD i 0), .int .i64 (([1048576] : List Int).getD i 0)] := fun i hi => by
    match i, hi with
    | 0, _ => rfl
theorem tk0 {n : Nat} {z : Nat → Int} (hn : n ≤ 9223372036854775807) (h : n ≠ 1 ∨ 0 < n ∧ z 0 = -1) : ∀ G, Cp cx 10 [.agg (rows 5 fams.flatten 0), ints n z] G (.bool false) :=
  takesF_cp (v := 0) (e := 0) (k := 1) (lo := fun i => ([0] : List Int).getD i 0) (hi := fun i => ([1048576] : List Int).getD i 0) hg0 hn (fun h0 hc => by
    rcases h with h | h
    · exact absurd h0 h
    · have := (hc 0 h.1).1; simp at this; omega) (fun _ => rfl) (fun _ _ _ _ => rfl) (fun h0 hc => by
    rcases h with h | h
    · exact absurd h0 h
    · have := (hc 0 h.1).1; simp at this; omega)
theorem hg1 : ∀ i, i < 1 → rows 2 [.int .i64 0, .int .i64 1048576] i = [.int .i64 (([0] : List Int).getD i 0), .int .i64 (([1048576] : List Int).getD i 0)] := fun i hi => by
    match i, hi with
    | 0, _ => rfl
theorem tk1 {n : Nat} {z : Nat → Int} (hn : n ≤ 9223372036854775807) (h : n ≠ 1 ∨ 0 < n ∧ z 0 = -1) : ∀ G, Cp cx 10 [.agg (rows 5 fams.flatten 1), ints n z] G (.bool false) :=
  takesF_cp (v := 0) (e := 0) (k := 1) (lo := fun i => ([0] : List Int).getD i 0) (hi := fun i => ([1048576] : List Int).getD i 0) hg1 hn (fun h0 hc => by
    rcases h with h | h
    · exact absurd h0 h
    · have := (hc 0 h.1).1; simp at this; omega) (fun _ => rfl) (fun _ _ _ _ => rfl) (fun h0 hc => by
    rcases h with h | h
    · exact absurd h0 h
    · have := (hc 0 h.1).1; simp at this; omega)
theorem hg2 : ∀ i, i < 1 → rows 2 [.int .i64 3, .int .i64 1048576] i = [.int .i64 (([3] : List Int).getD i 0), .int .i64 (([1048576] : List Int).getD i 0)] := fun i hi => by
    match i, hi with
    | 0, _ => rfl
theorem tk2 {n : Nat} {z : Nat → Int} (hn : n ≤ 9223372036854775807) (h : n ≠ 1 ∨ 0 < n ∧ z 0 = -1) : ∀ G, Cp cx 10 [.agg (rows 5 fams.flatten 2), ints n z] G (.bool false) :=
  takesF_cp (v := 0) (e := 0) (k := 1) (lo := fun i => ([3] : List Int).getD i 0) (hi := fun i => ([1048576] : List Int).getD i 0) hg2 hn (fun h0 hc => by
    rcases h with h | h
    · exact absurd h0 h
    · have := (hc 0 h.1).1; simp at this; omega) (fun _ => rfl) (fun _ _ _ _ => rfl) (fun h0 hc => by
    rcases h with h | h
    · exact absurd h0 h
    · have := (hc 0 h.1).1; simp at this; omega)
theorem hg3 : ∀ i, i < 1 → rows 2 [.int .i64 0, .int .i64 1048576] i = [.int .i64 (([0] : List Int).getD i 0), .int .i64 (([1048576] : List Int).getD i 0)] := fun i hi => by
    match i, hi with
    | 0, _ => rfl
theorem tk3 {n : Nat} {z : Nat → Int} (hn : n ≤ 9223372036854775807) (h : n ≠ 1 ∨ 0 < n ∧ z 0 = -1) : ∀ G, Cp cx 10 [.agg (rows 5 fams.flatten 3), ints n z] G (.bool false) :=
  takesF_cp (v := 0) (e := 0) (k := 1) (lo := fun i => ([0] : List Int).getD i 0) (hi := fun i => ([1048576] : List Int).getD i 0) hg3 hn (fun h0 hc => by
    rcases h with h | h
    · exact absurd h0 h
    · have := (hc 0 h.1).1; simp at this; omega) (fun _ => rfl) (fun _ _ _ _ => rfl) (fun h0 hc => by
    rcases h with h | h
    · exact absurd h0 h
    · have := (hc 0 h.1).1; simp at this; omega)
theorem hg4 : ∀ i, i < 1 → rows 2 [.int .i64 0, .int .i64 1048576] i = [.int .i64 (([0] : List Int).getD i 0), .int .i64 (([1048576] : List Int).getD i 0)] := fun i hi => by
    match i, hi with
    | 0, _ => rfl
theorem tk4 {n : Nat} {z : Nat → Int} (hn : n ≤ 9223372036854775807) (h : n ≠ 1 ∨ 0 < n ∧ z 0 = -1) : ∀ G, Cp cx 10 [.agg (rows 5 fams.flatten 4), ints n z] G (.bool false) :=
  takesF_cp (v := 0) (e := 0) (k := 1) (lo := fun i => ([0] : List Int).getD i 0) (hi := fun i => ([1048576] : List Int).getD i 0) hg4 hn (fun h0 hc => by
    rcases h with h | h
    · exact absurd h0 h
    · have := (hc 0 h.1).1; simp at this; omega) (fun _ => rfl) (fun _ _ _ _ => rfl) (fun h0 hc => by
    rcases h with h | h
    · exact absurd h0 h
    · have := (hc 0 h.1).1; simp at this; omega)
theorem hg5 : ∀ i, i < 2 → rows 2 [.int .i64 0, .int .i64 1048576, .int .i64 0, .int .i64 1048576] i = [.int .i64 (([0, 0] : List Int).getD i 0), .int .i64 (([1048576, 1048576] : List Int).getD i 0)] := fun i hi => by
    match i, hi with
    | 0, _ => rfl
    | 1, _ => rfl
theorem tk5 {n : Nat} {z : Nat → Int} (hn : n ≤ 9223372036854775807) (h : n ≠ 2 ∨ 0 < n ∧ z 0 = -1) : ∀ G, Cp cx 10 [.agg (rows 5 fams.flatten 5), ints n z] G (.bool false) :=
  takesF_cp (v := 0) (e := 0) (k := 2) (lo := fun i => ([0, 0] : List Int).getD i 0) (hi := fun i => ([1048576, 1048576] : List Int).getD i 0) hg5 hn (fun h0 hc => by
    rcases h with h | h
    · exact absurd h0 h
    · have := (hc 0 h.1).1; simp at this; omega) (fun _ => rfl) (fun _ _ _ _ => rfl) (fun h0 hc => by
    rcases h with h | h
    · exact absurd h0 h
    · have := (hc 0 h.1).1; simp at this; omega)
theorem hg6 : ∀ i, i < 2 → rows 2 [.int .i64 1, .int .i64 1048576, .int .i64 1, .int .i64 1048576] i = [.int .i64 (([1, 1] : List Int).getD i 0), .int .i64 (([1048576, 1048576] : List Int).getD i 0)] := fun i hi => by
    match i, hi with
    | 0, _ => rfl
    | 1, _ => rfl
theorem tk6 {n : Nat} {z : Nat → Int} (hn : n ≤ 9223372036854775807) (h : n ≠ 2 ∨ 0 < n ∧ z 0 = -1) : ∀ G, Cp cx 10 [.agg (rows 5 fams.flatten 6), ints n z] G (.bool false) :=
  takesF_cp (v := 0) (e := 0) (k := 2) (lo := fun i => ([1, 1] : List Int).getD i 0) (hi := fun i => ([1048576, 1048576] : List Int).getD i 0) hg6 hn (fun h0 hc => by
    rcases h with h | h
    · exact absurd h0 h
    · have := (hc 0 h.1).1; simp at this; omega) (fun _ => rfl) (fun _ _ _ _ => rfl) (fun h0 hc => by
    rcases h with h | h
    · exact absurd h0 h
    · have := (hc 0 h.1).1; simp at this; omega)
theorem hg7 : ∀ i, i < 2 → rows 2 [.int .i64 3, .int .i64 1048576, .int .i64 3, .int .i64 1048576] i = [.int .i64 (([3, 3] : List Int).getD i 0), .int .i64 (([1048576, 1048576] : List Int).getD i 0)] := fun i hi => by
    match i, hi with
    | 0, _ => rfl
    | 1, _ => rfl
theorem tk7 {n : Nat} {z : Nat → Int} (hn : n ≤ 9223372036854775807) (h : n ≠ 2 ∨ 0 < n ∧ z 0 = -1) : ∀ G, Cp cx 10 [.agg (rows 5 fams.flatten 7), ints n z] G (.bool false) :=
  takesF_cp (v := 0) (e := 0) (k := 2) (lo := fun i => ([3, 3] : List Int).getD i 0) (hi := fun i => ([1048576, 1048576] : List Int).getD i 0) hg7 hn (fun h0 hc => by
    rcases h with h | h
    · exact absurd h0 h
    · have := (hc 0 h.1).1; simp at this; omega) (fun _ => rfl) (fun _ _ _ _ => rfl) (fun h0 hc => by
    rcases h with h | h
    · exact absurd h0 h
    · have := (hc 0 h.1).1; simp at this; omega)
theorem hg8 : ∀ i, i < 1 → rows 2 [.int .i64 3, .int .i64 1048576] i = [.int .i64 (([3] : List Int).getD i 0), .int .i64 (([1048576] : List Int).getD i 0)] := fun i hi => by
    match i, hi with
    | 0, _ => rfl
theorem tk8 {n : Nat} {z : Nat → Int} (hn : n ≤ 9223372036854775807) (h : n ≠ 1 ∨ 0 < n ∧ z 0 = -1) : ∀ G, Cp cx 10 [.agg (rows 5 fams.flatten 8), ints n z] G (.bool false) :=
  takesF_cp (v := 0) (e := 0) (k := 1) (lo := fun i => ([3] : List Int).getD i 0) (hi := fun i => ([1048576] : List Int).getD i 0) hg8 hn (fun h0 hc => by
    rcases h with h | h
    · exact absurd h0 h
    · have := (hc 0 h.1).1; simp at this; omega) (fun _ => rfl) (fun _ _ _ _ => rfl) (fun h0 hc => by
    rcases h with h | h
    · exact absurd h0 h
    · have := (hc 0 h.1).1; simp at this; omega)
theorem hg9 : ∀ i, i < 1 → rows 2 [.int .i64 1, .int .i64 1048576] i = [.int .i64 (([1] : List Int).getD i 0), .int .i64 (([1048576] : List Int).getD i 0)] := fun i hi => by
    match i, hi with
    | 0, _ => rfl
theorem tk9 {n : Nat} {z : Nat → Int} (hn : n ≤ 9223372036854775807) (h : n ≠ 1 ∨ 0 < n ∧ z 0 = -1) : ∀ G, Cp cx 10 [.agg (rows 5 fams.flatten 9), ints n z] G (.bool false) :=
  takesF_cp (v := 0) (e := 0) (k := 1) (lo := fun i => ([1] : List Int).getD i 0) (hi := fun i => ([1048576] : List Int).getD i 0) hg9 hn (fun h0 hc => by
    rcases h with h | h
    · exact absurd h0 h
    · have := (hc 0 h.1).1; simp at this; omega) (fun _ => rfl) (fun _ _ _ _ => rfl) (fun h0 hc => by
    rcases h with h | h
    · exact absurd h0 h
    · have := (hc 0 h.1).1; simp at this; omega)
theorem hg10 : ∀ i, i < 1 → rows 2 [.int .i64 3, .int .i64 1048576] i = [.int .i64 (([3] : List Int).getD i 0), .int .i64 (([1048576] : List Int).getD i 0)] := fun i hi => by
    match i, hi with
    | 0, _ => rfl
theorem tk10 {n : Nat} {z : Nat → Int} (hn : n ≤ 9223372036854775807) (h : n ≠ 1 ∨ 0 < n ∧ z 0 = -1) : ∀ G, Cp cx 10 [.agg (rows 5 fams.flatten 10), ints n z] G (.bool false) :=
  takesF_cp (v := 0) (e := 0) (k := 1) (lo := fun i => ([3] : List Int).getD i 0) (hi := fun i => ([1048576] : List Int).getD i 0) hg10 hn (fun h0 hc => by
    rcases h with h | h
    · exact absurd h0 h
    · have := (hc 0 h.1).1; simp at this; omega) (fun _ => rfl) (fun _ _ _ _ => rfl) (fun h0 hc => by
    rcases h with h | h
    · exact absurd h0 h
    · have := (hc 0 h.1).1; simp at this; omega)
theorem hg11 : ∀ i, i < 1 → rows 2 [.int .i64 3, .int .i64 1048576] i = [.int .i64 (([3] : List Int).getD i 0), .int .i64 (([1048576] : List Int).getD i 0)] := fun i hi => by
    match i, hi with
    | 0, _ => rfl
theorem tk11 {n : Nat} {z : Nat → Int} (hn : n ≤ 9223372036854775807) (h : n ≠ 1 ∨ 0 < n ∧ z 0 = -1) : ∀ G, Cp cx 10 [.agg (rows 5 fams.flatten 11), ints n z] G (.bool false) :=
  takesF_cp (v := 0) (e := 0) (k := 1) (lo := fun i => ([3] : List Int).getD i 0) (hi := fun i => ([1048576] : List Int).getD i 0) hg11 hn (fun h0 hc => by
    rcases h with h | h
    · exact absurd h0 h
    · have := (hc 0 h.1).1; simp at this; omega) (fun _ => rfl) (fun _ _ _ _ => rfl) (fun h0 hc => by
    rcases h with h | h
    · exact absurd h0 h
    · have := (hc 0 h.1).1; simp at this; omega)
theorem hg12 : ∀ i, i < 1 → rows 2 [.int .i64 2, .int .i64 1048576] i = [.int .i64 (([2] : List Int).getD i 0), .int .i64 (([1048576] : List Int).getD i 0)] := fun i hi => by
    match i, hi with
    | 0, _ => rfl
theorem tk12 {n : Nat} {z : Nat → Int} (hn : n ≤ 9223372036854775807) (h : n ≠ 1 ∨ 0 < n ∧ z 0 = -1) : ∀ G, Cp cx 10 [.agg (rows 5 fams.flatten 12), ints n z] G (.bool false) :=
  takesF_cp (v := 0) (e := 0) (k := 1) (lo := fun i => ([2] : List Int).getD i 0) (hi := fun i => ([1048576] : List Int).getD i 0) hg12 hn (fun h0 hc => by
    rcases h with h | h
    · exact absurd h0 h
    · have := (hc 0 h.1).1; simp at this; omega) (fun _ => rfl) (fun _ _ _ _ => rfl) (fun h0 hc => by
    rcases h with h | h
    · exact absurd h0 h
    · have := (hc 0 h.1).1; simp at this; omega)
theorem hg13 : ∀ i, i < 1 → rows 2 [.int .i64 0, .int .i64 17] i = [.int .i64 (([0] : List Int).getD i 0), .int .i64 (([17] : List Int).getD i 0)] := fun i hi => by
    match i, hi with
    | 0, _ => rfl
theorem tk13 {n : Nat} {z : Nat → Int} (hn : n ≤ 9223372036854775807) (h : n ≠ 1 ∨ 0 < n ∧ z 0 = -1) : ∀ G, Cp cx 10 [.agg (rows 5 fams.flatten 13), ints n z] G (.bool false) :=
  takesF_cp (v := 0) (e := 0) (k := 1) (lo := fun i => ([0] : List Int).getD i 0) (hi := fun i => ([17] : List Int).getD i 0) hg13 hn (fun h0 hc => by
    rcases h with h | h
    · exact absurd h0 h
    · have := (hc 0 h.1).1; simp at this; omega) (fun _ => rfl) (fun _ _ _ _ => rfl) (fun h0 hc => by
    rcases h with h | h
    · exact absurd h0 h
    · have := (hc 0 h.1).1; simp at this; omega)
theorem hg14 : ∀ i, i < 2 → rows 2 [.int .i64 1, .int .i64 1048576, .int .i64 0, .int .i64 1048576] i = [.int .i64 (([1, 0] : List Int).getD i 0), .int .i64 (([1048576, 1048576] : List Int).getD i 0)] := fun i hi => by
    match i, hi with
    | 0, _ => rfl
    | 1, _ => rfl
theorem tk14 {n : Nat} {z : Nat → Int} (hn : n ≤ 9223372036854775807) (h : n ≠ 2 ∨ 0 < n ∧ z 0 = -1) : ∀ G, Cp cx 10 [.agg (rows 5 fams.flatten 14), ints n z] G (.bool false) :=
  takesF_cp (v := 0) (e := 0) (k := 2) (lo := fun i => ([1, 0] : List Int).getD i 0) (hi := fun i => ([1048576, 1048576] : List Int).getD i 0) hg14 hn (fun h0 hc => by
    rcases h with h | h
    · exact absurd h0 h
    · have := (hc 0 h.1).1; simp at this; omega) (fun _ => rfl) (fun _ _ _ _ => rfl) (fun h0 hc => by
    rcases h with h | h
    · exact absurd h0 h
    · have := (hc 0 h.1).1; simp at this; omega)
theorem hg15 : ∀ i, i < 1 → rows 2 [.int .i64 0, .int .i64 1048576] i = [.int .i64 (([0] : List Int).getD i 0), .int .i64 (([1048576] : List Int).getD i 0)] := fun i hi => by
    match i, hi with
    | 0, _ => rfl
theorem tk15 {n : Nat} {z : Nat → Int} (hn : n ≤ 9223372036854775807) (h : n ≠ 1 ∨ 0 < n ∧ z 0 = -1) : ∀ G, Cp cx 10 [.agg (rows 5 fams.flatten 15), ints n z] G (.bool false) :=
  takesF_cp (v := 0) (e := 0) (k := 1) (lo := fun i => ([0] : List Int).getD i 0) (hi := fun i => ([1048576] : List Int).getD i 0) hg15 hn (fun h0 hc => by
    rcases h with h | h
    · exact absurd h0 h
    · have := (hc 0 h.1).1; simp at this; omega) (fun _ => rfl) (fun _ _ _ _ => rfl) (fun h0 hc => by
    rcases h with h | h
    · exact absurd h0 h
    · have := (hc 0 h.1).1; simp at this; omega)
theorem hg16 : ∀ i, i < 2 → rows 2 [.int .i64 0, .int .i64 1048576, .int .i64 3, .int .i64 1048576] i = [.int .i64 (([0, 3] : List Int).getD i 0), .int .i64 (([1048576, 1048576] : List Int).getD i 0)] := fun i hi => by
    match i, hi with
    | 0, _ => rfl
    | 1, _ => rfl
theorem tk16 {n : Nat} {z : Nat → Int} (hn : n ≤ 9223372036854775807) (h : n ≠ 2 ∨ 0 < n ∧ z 0 = -1) : ∀ G, Cp cx 10 [.agg (rows 5 fams.flatten 16), ints n z] G (.bool false) :=
  takesF_cp (v := 0) (e := 0) (k := 2) (lo := fun i => ([0, 3] : List Int).getD i 0) (hi := fun i => ([1048576, 1048576] : List Int).getD i 0) hg16 hn (fun h0 hc => by
    rcases h with h | h
    · exact absurd h0 h
    · have := (hc 0 h.1).1; simp at this; omega) (fun _ => rfl) (fun _ _ _ _ => rfl) (fun h0 hc => by
    rcases h with h | h
    · exact absurd h0 h
    · have := (hc 0 h.1).1; simp at this; omega)
theorem tk17 {n : Nat} {z : Nat → Int} (hn : n ≤ 9223372036854775807) (h : n ≠ 0) : ∀ G, Cp cx 10 [.agg (rows 5 fams.flatten 17), ints n z] G (.bool false) := fun G =>
  Ct.args (takesF_cp (v := 0) (e := 0) (k := 0) (g := fun _ => []) (lo := fun _ => 0) (hi := fun _ => 0) (fun i hi => by omega) hn (fun h0 => absurd h0 h) (fun _ => rfl) (fun h0 => absurd h0 h) (fun h0 => absurd h0 h) G)
    (.cons (AVle.agg (.cons (.refl _) (.cons (.refl _) (.cons (AVle.nils_lst 2 _) (.refl _))))) (.refl _))
theorem tk18 {n : Nat} {z : Nat → Int} (hn : n ≤ 9223372036854775807) (h : 0 < n ∧ z 0 = -1) : ∀ G, Cp cx 10 [.agg (rows 5 fams.flatten 18), ints n z] G (.bool false) :=
  takesT_cp (v := 0) (e := 0) (k := 1) (lo := fun _ => 0) (hi := fun _ => 1048576) (fun i hi => by
    match i, hi with
    | 0, _ => rfl) hn (by omega) (fun hc => by have := hc 0 h.1; omega) (fun _ _ _ => rfl) (fun hc => by have := hc 0 h.1; omega)
theorem hg19 : ∀ i, i < 3 → rows 2 [.int .i64 0, .int .i64 1048576, .int .i64 0, .int .i64 4194304, .int .i64 0, .int .i64 2147483647] i = [.int .i64 (([0, 0, 0] : List Int).getD i 0), .int .i64 (([1048576, 4194304, 2147483647] : List Int).getD i 0)] := fun i hi => by
    match i, hi with
    | 0, _ => rfl
    | 1, _ => rfl
    | 2, _ => rfl
theorem tk19 {n : Nat} {z : Nat → Int} (hn : n ≤ 9223372036854775807) (h : n ≠ 3 ∨ 0 < n ∧ z 0 = -1) : ∀ G, Cp cx 10 [.agg (rows 5 fams.flatten 19), ints n z] G (.bool false) :=
  takesF_cp (v := 0) (e := 0) (k := 3) (lo := fun i => ([0, 0, 0] : List Int).getD i 0) (hi := fun i => ([1048576, 4194304, 2147483647] : List Int).getD i 0) hg19 hn (fun h0 hc => by
    rcases h with h | h
    · exact absurd h0 h
    · have := (hc 0 h.1).1; simp at this; omega) (fun _ => rfl) (fun _ _ _ _ => rfl) (fun h0 hc => by
    rcases h with h | h
    · exact absurd h0 h
    · have := (hc 0 h.1).1; simp at this; omega)
/-- No numbers, or too many, or one below the least: refused. -/
theorem tk_all {i n : Nat} {z : Nat → Int} (hi : i < 20) (hn : n ≤ 9223372036854775807) (h : i ≠ 18 ∧ n ≠ arity i ∨ 0 < n ∧ z 0 = -1) : ∀ G, Cp cx 10 [.agg (rows 5 fams.flatten i), ints n z] G (.bool false) := by
  rcases (show i = 0 ∨ i = 1 ∨ i = 2 ∨ i = 3 ∨ i = 4 ∨ i = 5 ∨ i = 6 ∨ i = 7 ∨ i = 8 ∨ i = 9 ∨ i = 10 ∨ i = 11 ∨ i = 12 ∨ i = 13 ∨ i = 14 ∨ i = 15 ∨ i = 16 ∨ i = 17 ∨ i = 18 ∨ i = 19 by omega) with rfl | rfl | rfl | rfl | rfl | rfl | rfl | rfl | rfl | rfl | rfl | rfl | rfl | rfl | rfl | rfl | rfl | rfl | rfl | rfl
  · exact tk0 hn (by rcases h with h | h; exact .inl h.2; exact .inr h)
  · exact tk1 hn (by rcases h with h | h; exact .inl h.2; exact .inr h)
  · exact tk2 hn (by rcases h with h | h; exact .inl h.2; exact .inr h)
  · exact tk3 hn (by rcases h with h | h; exact .inl h.2; exact .inr h)
  · exact tk4 hn (by rcases h with h | h; exact .inl h.2; exact .inr h)
  · exact tk5 hn (by rcases h with h | h; exact .inl h.2; exact .inr h)
  · exact tk6 hn (by rcases h with h | h; exact .inl h.2; exact .inr h)
  · exact tk7 hn (by rcases h with h | h; exact .inl h.2; exact .inr h)
  · exact tk8 hn (by rcases h with h | h; exact .inl h.2; exact .inr h)
  · exact tk9 hn (by rcases h with h | h; exact .inl h.2; exact .inr h)
  · exact tk10 hn (by rcases h with h | h; exact .inl h.2; exact .inr h)
  · exact tk11 hn (by rcases h with h | h; exact .inl h.2; exact .inr h)
  · exact tk12 hn (by rcases h with h | h; exact .inl h.2; exact .inr h)
  · exact tk13 hn (by rcases h with h | h; exact .inl h.2; exact .inr h)
  · exact tk14 hn (by rcases h with h | h; exact .inl h.2; exact .inr h)
  · exact tk15 hn (by rcases h with h | h; exact .inl h.2; exact .inr h)
  · exact tk16 hn (by rcases h with h | h; exact .inl h.2; exact .inr h)
  · exact tk17 hn (by rcases h with h | h; exact h.2; omega)
  · exact tk18 hn (by rcases h with h | h; exact absurd rfl h.1; exact h)
  · exact tk19 hn (by rcases h with h | h; exact .inl h.2; exact .inr h)
theorem tk_complete {z : Nat → Int} (hz : z 0 = 2897) : ∀ G, Cp cx 10 [.agg (rows 5 fams.flatten 4), ints 1 z] G (.bool false) :=
  takesF_cp (v := 2897) (e := 4194856) (k := 1) (lo := fun i => ([0] : List Int).getD i 0) (hi := fun i => ([1048576] : List Int).getD i 0) hg4 (by omega) (fun _ _ => completeSize_cp hz) (fun _ => rfl) (fun _ _ _ _ => rfl) (fun _ _ => by decide)
theorem tk_bipartite {z : Nat → Int} (hz : z 0 = 2049) (hz1 : z 1 = 2049) : ∀ G, Cp cx 10 [.agg (rows 5 fams.flatten 5), ints 2 z] G (.bool false) :=
  takesF_cp (v := 4098) (e := 4198401) (k := 2) (lo := fun i => ([0, 0] : List Int).getD i 0) (hi := fun i => ([1048576, 1048576] : List Int).getD i 0) hg5 (by omega) (fun _ _ => bipartiteSize_cp hz hz1) (fun _ => rfl) (fun _ _ _ _ => rfl) (fun _ _ => by decide)
theorem tk_path {z : Nat → Int} (hz : z 0 = 1048577) : ∀ G, Cp cx 10 [.agg (rows 5 fams.flatten 1), ints 1 z] G (.bool false) :=
  takesF_cp (v := 0) (e := 0) (k := 1) (lo := fun i => ([0] : List Int).getD i 0) (hi := fun i => ([1048576] : List Int).getD i 0) hg1 (by omega) (fun _ h => by have := (h 0 (by omega)).2; simp at this; omega) (fun _ => rfl) (fun _ _ _ _ => rfl) (fun _ h => by have := (h 0 (by omega)).2; simp at this; omega)
theorem tk_cube {z : Nat → Int} (hz : z 0 = 18) : ∀ G, Cp cx 10 [.agg (rows 5 fams.flatten 13), ints 1 z] G (.bool false) :=
  takesF_cp (v := 0) (e := 0) (k := 1) (lo := fun i => ([0] : List Int).getD i 0) (hi := fun i => ([17] : List Int).getD i 0) hg13 (by omega) (fun _ h => by have := (h 0 (by omega)).2; simp at this; omega) (fun _ => rfl) (fun _ _ _ _ => rfl) (fun _ h => by have := (h 0 (by omega)).2; simp at this; omega)
theorem tk_wheel2 {z : Nat → Int} (hz : z 0 = 2) : ∀ G, Cp cx 10 [.agg (rows 5 fams.flatten 8), ints 1 z] G (.bool false) :=
  takesF_cp (v := 0) (e := 0) (k := 1) (lo := fun i => ([3] : List Int).getD i 0) (hi := fun i => ([1048576] : List Int).getD i 0) hg8 (by omega) (fun _ h => by have := (h 0 (by omega)).1; simp at this; omega) (fun _ => rfl) (fun _ _ _ _ => rfl) (fun _ h => by have := (h 0 (by omega)).1; simp at this; omega)
theorem tk_wheel4 {z : Nat → Int} (hz : z 0 = 4) : ∀ G, Cp cx 10 [.agg (rows 5 fams.flatten 8), ints 1 z] G (.bool true) :=
  takesF_cp (v := z 0 + 1) (e := 2 * z 0) (k := 1) (lo := fun i => ([3] : List Int).getD i 0) (hi := fun i => ([1048576] : List Int).getD i 0) hg8 (by omega) (fun _ _ => wheelSize_cp (by omega) (by omega)) (fun h => absurd rfl h) (fun _ i hi h => absurd (by
    have : i = 0 := by omega
    subst this; simp; omega) h) (fun _ _ => by rw [hz]; decide)
theorem tk_petersen {z : Nat → Int} : ∀ G, Cp cx 10 [.agg (rows 5 fams.flatten 17), ints 0 z] G (.bool true) := fun G =>
  Ct.args (takesF_cp (v := 10) (e := 15) (k := 0) (g := fun _ => []) (lo := fun _ => 0) (hi := fun _ => 0) (fun i hi => by omega) (by omega) (fun _ _ => petersenSize_cp) (fun h => absurd rfl h) (fun _ i hi => by omega) (fun _ _ => by decide) G)
    (.cons (AVle.agg (.cons (.refl _) (.cons (.refl _) (.cons (AVle.nils_lst 2 _) (.refl _))))) (.refl _))
theorem tk_stacked {n : Nat} {z : Nat → Int} (hn : n ≤ 1000) (hz : ∀ i, i < n → 0 ≤ z i ∧ z i ≤ 1048576) : ∀ G, Cp cx 10 [.agg (rows 5 fams.flatten 18), ints n z] G (.bool true) :=
  takesT_cp (v := 3 + n) (e := 3 + 3 * n) (k := 1) (lo := fun _ => 0) (hi := fun _ => 1048576) (fun i hi => by
    match i, hi with
    | 0, _ => rfl) (by omega) (by omega) (fun _ => stackedSize_cp (by omega)) (fun i hi h => absurd (hz i hi) h) (fun _ => by simp; omega)
theorem makes_of {row : List AV} {n : Nat} {z : Nat → Int} {nm any nd : AV} {sz ed : FuncId} {vv ee : Int} {ps : List (Int × Int)} {g e : AV} (hrow : row = [nm, any, nd, .fn sz [] [], .fn ed [] []]) (hsz : ∀ G, Cp cx sz [ints n z] G (.tup [.int .i64 vv, .int .i64 ee]))
    (hed : ∀ G bp, PS G.next G bp [] → Ct cx ed [ints n z, toF bp] G fun _ G' => PSto G.next bp G ps G') (h0 : 0 < ps.length) (hl : ps.length ≤ 4611686018427387903) (hm : makeR vv ps = .tup [g, e]) : Makes row n z g e := by
  refine ⟨nm, any, nd, sz, ed, hrow, vv, ee, ps, hsz, fun G bp f hlt hg hf => ?_, fun G pv hp => ?_⟩
  · refine (hed G bp ⟨hlt, Nat.le_refl _, f, hg, .inl ⟨rfl, hf⟩⟩).mono fun r G' ⟨⟨h1, h2, f', h3, h4⟩, h5⟩ => ⟨h2, ⟨f', h3, ?_, ?_⟩, h5⟩
    · rcases h4 with h | ⟨h, b, hh, e1, e2, e3, e4, e5⟩
      · exact .inl h
      · exact .inr ⟨h, b, hh, e1, e3, e4, e5⟩
    · rcases h4 with h | ⟨h, b, hh, e1, _⟩
      · rw [h.2]; rfl
      · rw [e1]; rfl
  · rcases hp with ⟨h, _⟩ | ⟨_, b, f, rfl, h1, h2, h3⟩
    · rw [h] at h0; simp at h0
    · rw [← hm]
      exact (simpleMake_cp h1 h2 h3 hl vv).mono fun r G' ⟨e1, e2⟩ => by subst e1; subst e2; exact ⟨rfl, Nat.le_refl _, fun _ _ => rfl⟩
def lexLt (a b : Int × Int) : Bool := decide (a.1 < b.1 ∨ a.1 = b.1 ∧ a.2 < b.2)
def sortedB : List (Int × Int) → Bool
  | a :: b :: l => lexLt a b && sortedB (b :: l)
  | _ => true
def inR (p : Int × Int) : Bool := decide (0 ≤ p.1 ∧ p.1 ≤ 1048576 ∧ 0 ≤ p.2 ∧ p.2 ≤ 1048576)
theorem sortedB_pw : ∀ (l : List (Int × Int)), sortedB l = true → l.Pairwise fun a b => lexLt a b = true
  | [], _ => .nil
  | [a], _ => by simp
  | a :: b :: l, h => by
    simp only [sortedB, Bool.and_eq_true] at h
    have ih := sortedB_pw (b :: l) h.2
    refine List.pairwise_cons.2 ⟨fun x hx => ?_, ih⟩
    rcases List.mem_cons.1 hx with rfl | hx
    · exact h.1
    · have h1 := (List.pairwise_cons.1 ih).1 x hx
      have h2 := h.1
      simp only [lexLt, decide_eq_true_eq] at *
      omega
theorem sortL_of {l l' : List (Int × Int)} (h1 : l.isPerm l' = true) (h2 : sortedB l' = true) (h3 : l'.all inR = true) : sortL (l.map toSE) = l'.map toSE := by
  rw [sortL_perm ((List.isPerm_iff.1 h1).map toSE)]
  have hv : ∀ p ∈ l', (toSE p).1 = p := fun p hp => toSE_val (by have := List.all_eq_true.1 h3 p hp; simpa [inR] using this)
  refine List.mergeSort_of_pairwise ?_
  rw [List.pairwise_map]
  refine (List.Pairwise.and_mem.1 (sortedB_pw l' h2)).imp fun {a b} ⟨ha, hb, h⟩ => ?_
  rw [cmpE_lt, hv a ha, hv b hb]
  simp only [lexLt, decide_eq_true_eq] at h
  simp
  omega
theorem makeR_of {n : Int} {ps l' : List (Int × Int)} (h0 : decide (0 ≤ n ∧ n ≤ 1048576) = true) (h1 : ps.all (inB n) = true) (h2 : (keysOf ps).isPerm l' = true) (h3 : sortedB l' = true) (h4 : l'.all inR = true) (h5 : decide ((keysOf ps).length ≤ 4194304) = true) :
    makeR n ps = .tup [.agg [.int .i64 n, edgesV (l'.map toSE)], .int .i64 0] := by
  have h0' := of_decide_eq_true h0
  have h5' := of_decide_eq_true h5
  unfold makeR
  rw [if_neg (by omega), if_neg (by rw [h1]; simp), if_neg (by omega), sortL_of h2 h3 h4]
theorem fzEdges (ds : List SE) : (∀ G m, Fz G m (edgesV ds) (edgesV ds)) ∧ AV.isCell (edgesV ds) = true := by
  cases ds with
  | nil => exact ⟨fun G m => .nils, rfl⟩
  | cons d ds =>
    refine ⟨fun G m => .lst 2 _ _ _ (fun i hi => rfl) fun i j c d' hi h1 h2 => ?_, rfl⟩
    rw [h1] at h2
    injection h2 with h2
    subst h2
    rw [List.getElem?_eq_getElem hi] at h1
    match j, h1 with
    | 0, h1 => injection h1 with h1; subst h1; exact .int _ _
    | 1, h1 => injection h1 with h1; subst h1; exact .int _ _
end Go.Fw.Sx
