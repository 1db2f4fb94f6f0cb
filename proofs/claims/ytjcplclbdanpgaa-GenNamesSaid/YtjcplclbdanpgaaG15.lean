/- What gen.Make answers at the few numbers that the laws name; 'fixed'. -/
import Derived.Test.YtjcplclbdanpgaaG14
namespace Go.Fw.Sx
open Go Go.Fw Go.Proofs
set_option maxRecDepth 100000
set_option linter.unusedSimpArgs false
set_option linter.unusedVariables false
theorem edgeEq : AggEq cx 35 2 := aggEq_struct (by kernel_rfl) (by kernel_rfl) (by kernel_rfl) (by kernel_rfl) (by kernel_rfl)
def graphV (n : Int) (es : List (Int × Int)) : AV := .tup [.agg [.int .i64 n, edgesV (es.map toSE)], .int .i64 0]
def wheel4L : List (Int × Int) := [(0, 1), (0, 2), (0, 3), (0, 4), (1, 2), (1, 4), (2, 3), (3, 4)]
theorem mk_wheel4 {z : Nat → Int} (hz : z 0 = 4) : ∀ G, Cp cx 7 [.str (nameB 8), ints 1 z] G (graphV 5 wheel4L) :=
  make_good (fzEdges _) (by omega) (tk_wheel4 hz) (makes_of (ps := [(0, 1), (0, 2), (0, 3), (0, 4), (1, 2), (2, 3), (3, 4), (4, 1)]) rfl (fun G => by have := wheelSize_cp (z := z) (by omega) (by omega) G; rw [hz] at this; exact this) (fun G bp h => by have := wheelEdges_ct (z := z) (k := 4) h (by rw [hz]; rfl) (by omega) (by omega); exact this) (by decide) (by decide) (makeR_of (by decide) (by decide) (by decide) (by decide) (by decide) (by decide)))
def stacked05L : List (Int × Int) := [(0, 1), (0, 2), (0, 3), (0, 4), (1, 2), (1, 3), (1, 4), (2, 3), (2, 4)]
theorem mk_stacked05 {z : Nat → Int} (hz0 : z 0 = 0) (hz1 : z 1 = 5) : ∀ G, Cp cx 7 [.str (nameB 18), ints 2 z] G (graphV 5 stacked05L) :=
  make_good (fzEdges _) (by omega) (tk_stacked (by omega) (fun i hi => by rcases (show i = 0 ∨ i = 1 by omega) with h | h <;> subst h <;> omega)) (makes_of (ps := [(0, 1), (0, 2), (1, 2), (0, 3), (1, 3), (2, 3), (0, 4), (1, 4), (2, 4)]) rfl (stackedSize_cp (by omega)) (fun G bp h => by have := stack_ct (n := 2) (z := z) h (fun i hi => by rcases (show i = 0 ∨ i = 1 by omega) with h | h <;> subst h <;> omega) (by omega); simp only [stackE, stackF, hz0, hz1] at this; exact this) (by decide) (by decide) (makeR_of (by decide) (by decide) (by decide) (by decide) (by decide) (by decide)))
def stacked3L : List (Int × Int) := [(0, 1), (0, 2), (0, 3), (0, 4), (0, 5), (0, 6), (1, 2), (1, 3), (2, 3), (2, 4), (2, 5), (2, 6), (3, 4), (4, 5), (5, 6)]
theorem mk_stacked3 {z : Nat → Int} (hz : ∀ i, i < 4 → z i = 3) : ∀ G, Cp cx 7 [.str (nameB 18), ints 4 z] G (graphV 7 stacked3L) :=
  make_good (fzEdges _) (by omega) (tk_stacked (by omega) (fun i hi => by rw [hz i hi]; omega)) (makes_of (ps := [(0, 1), (0, 2), (1, 2), (0, 3), (1, 3), (2, 3), (0, 4), (2, 4), (3, 4), (0, 5), (2, 5), (4, 5), (0, 6), (2, 6), (5, 6)]) rfl (stackedSize_cp (by omega)) (fun G bp h => by have := stack_ct (n := 4) (z := z) h (fun i hi => by rw [hz i hi]; omega) (by omega); simp only [stackE, stackF, hz 0 (by omega), hz 1 (by omega), hz 2 (by omega), hz 3 (by omega)] at this; exact this) (by decide) (by decide) (makeR_of (by decide) (by decide) (by decide) (by decide) (by decide) (by decide)))
def stackedNL : List (Int × Int) := [(0, 1), (0, 2), (1, 2)]
theorem mk_stackedN {z : Nat → Int}  : ∀ G, Cp cx 7 [.str (nameB 18), ints 0 z] G (graphV 3 stackedNL) :=
  make_good (fzEdges _) (by omega) (tk_stacked (by omega) (fun i hi => by omega)) (makes_of (ps := [(0, 1), (0, 2), (1, 2)]) rfl (stackedSize_cp (by omega)) (fun G bp h => by have := stack_ct (n := 0) (z := z) h (fun i hi => by omega) (by omega); exact this) (by decide) (by decide) (makeR_of (by decide) (by decide) (by decide) (by decide) (by decide) (by decide)))
def petersenNL : List (Int × Int) := [(0, 1), (0, 4), (0, 5), (1, 2), (1, 6), (2, 3), (2, 7), (3, 4), (3, 8), (4, 9), (5, 7), (5, 8), (6, 8), (6, 9), (7, 9)]
theorem mk_petersenN {z : Nat → Int}  : ∀ G, Cp cx 7 [.str (nameB 17), ints 0 z] G (graphV 10 petersenNL) :=
  make_good (fzEdges _) (by omega) tk_petersen (makes_of (ps := [(0, 1), (1, 2), (2, 3), (3, 4), (4, 0), (0, 5), (5, 7), (1, 6), (6, 8), (2, 7), (7, 9), (3, 8), (8, 5), (4, 9), (9, 6)]) rfl petersenSize_cp (fun G bp h => by have := petersenEdges_ct (n := 0) (z := z) h; exact this) (by decide) (by decide) (makeR_of (by decide) (by decide) (by decide) (by decide) (by decide) (by decide)))
theorem AVle.lst_congr {sz n : Nat} {f g : Nat → List AV} (h : ∀ i, i < n → f i = g i) : AVle (.lst sz n f) (.lst sz n g) := fun L w v hv => hv.lst_congr h
theorem rdE (es : List (Int × Int)) (h : es.all inR = true) (h0 : 0 < es.length) : ∃ g : Nat → List AV, edgesV (es.map toSE) = .lst 2 es.length g ∧ ∀ i, i < es.length → g i = [.int .i64 (es.getD i (0, 0)).1, .int .i64 (es.getD i (0, 0)).2] := by
  cases es with
  | nil => simp at h0
  | cons e es =>
    refine ⟨_, by simp only [List.map_cons, edgesV, List.length_cons, List.length_map]; rfl, fun i hi => ?_⟩
    have hin := List.all_eq_true.1 h ((e :: es)[i]) (List.getElem_mem hi)
    have hv : (toSE (e :: es)[i]).1 = (e :: es)[i] := toSE_val (by simpa [inR] using hin)
    have : (toSE e :: List.map toSE es)[i]? = some (toSE (e :: es)[i]) := by
      rw [← List.map_cons (f := toSE), List.getElem?_map, List.getElem?_eq_getElem hi]; rfl
    rw [this, List.getD_eq_getElem?_getD, List.getElem?_eq_getElem hi]
    simp only [Option.getD_some, hv]
set_option maxHeartbeats 4000000 in
theorem fixed_cp : ∀ G, Cp cx 5 [] G (.bool true) := by
  obtain ⟨gw, ew, hw⟩ := rdE wheel4L (by decide) (by decide)
  obtain ⟨gs, es, hs⟩ := rdE stacked05L (by decide) (by decide)
  have hw5 := hw 5 (by decide)
  have hs3 := hs 3 (by decide)
  rw [show wheel4L.getD 5 (0, 0) = (1, 4) from rfl] at hw5
  rw [show stacked05L.getD 3 (0, 0) = (0, 4) from rfl] at hs3
  have lw : wheel4L.length = 8 := rfl
  have ls : stacked05L.length = 9 := rfl
  rw [lw] at ew
  rw [ls] at es
  have n8 : nameB 8 = ⟨#[119, 104, 101, 101, 108]⟩ := rfl
  have n18 : nameB 18 = ⟨#[115, 116, 97, 99, 107, 101, 100]⟩ := rfl
  refine Cp.intro fun n0 => ?_
  refine Ct.start (fun _ => false) Try.func5 rfl (by kernel_rfl) (by kernel_rfl) fun R hR => ?_
  simp only [EV]
  refine Runs.seq ?_
  refine Runs.reg [0] (by kernel_rfl) fun kk hk oo ho => ?_
  clear ho
  simp +decide only [↓EV, EV, ty, ↓reduceIte, decide_true, decide_false, Int.cast_ofNat_Int, Int.reduceToNat, Nat.reduceMul, Nat.reduceAdd, Nat.reduceBEq, Bool.or_self, Bool.or_true, Bool.true_or, Bool.or_false, Bool.false_or, beq_self_eq_true, Int.reduceBEq, eq_self]
  subst hk
  refine Runs.seq ?_
  refine Runs.reg [1, 2] (by kernel_rfl) fun kk hk oo ho => ?_
  clear ho
  simp +decide only [↓EV, EV, ty, ↓reduceIte, decide_true, decide_false, Int.cast_ofNat_Int, Int.reduceToNat, Nat.reduceMul, Nat.reduceAdd, Nat.reduceBEq, Bool.or_self, Bool.or_true, Bool.true_or, Bool.or_false, Bool.false_or, beq_self_eq_true, Int.reduceBEq, eq_self]
  rw [← n8]
  refine CallAt.pure (Ct.args (mk_wheel4 (z := fun _ => 4) rfl _) (.cons (.refl _) (.cons (AVle.lst_congr fun i hi => by match i, hi with | 0, _ => rfl) .nil))) ?_
  simp +decide only [↓EV, EV, ty, ↓reduceIte, decide_true, decide_false, Int.cast_ofNat_Int, Int.reduceToNat, Nat.reduceMul, Nat.reduceAdd, Nat.reduceBEq, Bool.or_self, Bool.or_true, Bool.true_or, Bool.or_false, Bool.false_or, beq_self_eq_true, Int.reduceBEq, eq_self, graphV, ew]
  subst hk
  refine Runs.seq ?_
  refine Runs.reg [1, 2, 3, 4] (by kernel_rfl) fun kk hk oo ho => ?_
  clear ho
  simp +decide only [↓EV, EV, ty, ↓reduceIte, decide_true, decide_false, Int.cast_ofNat_Int, Int.reduceToNat, Nat.reduceMul, Nat.reduceAdd, Nat.reduceBEq, Bool.or_self, Bool.or_true, Bool.true_or, Bool.or_false, Bool.false_or, beq_self_eq_true, Int.reduceBEq, eq_self]
  rw [← n18]
  refine CallAt.pure (Ct.args (mk_stacked05 (z := fun i => if i = 0 then 0 else 5) rfl rfl _) (.cons (.refl _) (.cons (AVle.lst_congr fun i hi => by match i, hi with | 0, _ => rfl | 1, _ => rfl) .nil))) ?_
  simp +decide only [↓EV, EV, ty, ↓reduceIte, decide_true, decide_false, Int.cast_ofNat_Int, Int.reduceToNat, Nat.reduceMul, Nat.reduceAdd, Nat.reduceBEq, Bool.or_self, Bool.or_true, Bool.true_or, Bool.or_false, Bool.false_or, beq_self_eq_true, Int.reduceBEq, eq_self, graphV, es]
  subst hk
  refine Runs.seq ?_
  refine Runs.reg [1, 2, 3, 4, 6] (by kernel_rfl) fun kk hk oo ho => ?_
  clear ho
  simp +decide only [↓EV, EV, ty, ↓reduceIte, decide_true, decide_false, Int.cast_ofNat_Int, Int.reduceToNat, Nat.reduceMul, Nat.reduceAdd, Nat.reduceBEq, Bool.or_self, Bool.or_true, Bool.true_or, Bool.or_false, Bool.false_or, beq_self_eq_true, Int.reduceBEq, eq_self]
  rw [← n8]
  refine CallAt.pure (Ct.args (make_bad (i0 := 8) (by omega) (tk_wheel2 (z := fun _ => 2) rfl) _) (.cons (.refl _) (.cons (AVle.lst_congr fun i hi => by match i, hi with | 0, _ => rfl) .nil))) ?_
  simp +decide only [↓EV, EV, ty, ↓reduceIte, decide_true, decide_false, Int.cast_ofNat_Int, Int.reduceToNat, Nat.reduceMul, Nat.reduceAdd, Nat.reduceBEq, Bool.or_self, Bool.or_true, Bool.true_or, Bool.or_false, Bool.false_or, beq_self_eq_true, Int.reduceBEq, eq_self, errR]
  subst hk
  refine Runs.anyG fun G hG => ?_
  have k1 : (n0 = n0 + 1) = False := eq_false (by omega)
  have k2 : (n0 = n0 + 1 + 1) = False := eq_false (by omega)
  have k3 : (n0 + 1 = n0 + 1 + 1) = False := eq_false (by omega)
  have q1 : ∃ f, G.get n0 = some ⟨2, f⟩ ∧ f 0 = .int .i64 5 ∧ f 1 = .lst 2 8 gw := ⟨_, by rw [hG]; simp only [EV, k1, k2, if_false, if_true]; rfl, rfl, rfl⟩
  have q2 : ∃ f, G.get (n0 + 1) = some ⟨2, f⟩ ∧ f 0 = .int .i64 5 ∧ f 1 = .lst 2 9 gs := ⟨_, by rw [hG]; simp only [EV, k3, if_false, if_true]; rfl, rfl, rfl⟩
  clear hG
  obtain ⟨f1, q1, a0, a1⟩ := q1
  obtain ⟨f2, q2, b0, b1⟩ := q2
  refine Runs.seq ?_
  refine Runs.reg [0] (by kernel_rfl) fun kk hk oo ho => ?_
  have g2 : (oo[2]?).bind (·.dst) = some 24 := by subst ho; rfl
  have g6 : (oo[6]?).bind (·.dst) = some 28 := by subst ho; rfl
  have g10 : (oo[10]?).bind (·.dst) = some 32 := by subst ho; rfl
  have g15 : (oo[15]?).bind (·.dst) = some 37 := by subst ho; rfl
  have g21 : (oo[21]?).bind (·.dst) = some 43 := by subst ho; rfl
  have g29 : (oo[29]?).bind (·.dst) = some 51 := by subst ho; rfl
  have g34 : (oo[34]?).bind (·.dst) = some 56 := by subst ho; rfl
  have g40 : (oo[40]?).bind (·.dst) = some 62 := by subst ho; rfl
  clear ho
  simp +decide only [↓EV, EV, ty, ↓reduceIte, decide_true, decide_false, Int.cast_ofNat_Int, Int.reduceToNat, Nat.reduceMul, Nat.reduceAdd, Nat.reduceBEq, Bool.or_self, Bool.or_true, Bool.true_or, Bool.or_false, Bool.false_or, beq_self_eq_true, Int.reduceBEq, eq_self, g2, g6, g10, g15, g21, g29, g34, g40, q1, q2, a0, a1, b0, b1, hw5, hs3, edgeEq]
  subst hk
  refine Runs.retL [.tmp 0] (by kernel_rfl) (by kernel_rfl) ?_
  simp +decide only [↓EV, EV, ty, ↓reduceIte, decide_true, decide_false, Int.cast_ofNat_Int, Int.reduceToNat, Nat.reduceMul, Nat.reduceAdd, Nat.reduceBEq, Bool.or_self, Bool.or_true, Bool.true_or, Bool.or_false, Bool.false_or, beq_self_eq_true, Int.reduceBEq, eq_self]
  subst hR
  exact .bool _

end Go.Fw.Sx
