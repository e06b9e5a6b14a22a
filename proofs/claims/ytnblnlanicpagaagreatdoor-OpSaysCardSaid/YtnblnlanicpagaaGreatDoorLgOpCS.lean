/-
  What the program's functions come to, in plain words.
-/
import Derived.Test.YtnblnlanicpagaaGreatDoorLgOpCQ

namespace Go.Proofs.YtnblnlanicpagaaGreatDoor.Lg

open Go Go.Eng Go.Proofs

theorem loop_soft_Result {N : Nat} (hN : 20000 ≤ N) (op : Int) (ins : List D) (t : List Int × (Bool × Unit)) (l : List D) (hl : l.length < 1000000) : ∀ (n i : Nat), i ≤ l.length → l.length < n + i →
    g_soft_Result_0 N n op ins t l l.length i = if firstBad (l.drop i) = .nil then some (.inl (op, (ins, (t, ())))) else some (.inr (([], (false, ())), (firstBad (l.drop i), ())))
  | 0, i, h, h' => by omega
  | n + 1, i, h, h' => by
    rw [g_soft_Result_0]
    by_cases hi : i < l.length
    · refine cT (by omega) (cT (by omega) (cT (by simpa using hi) (bnd _ (shape_Valid_spec hN _) ?_)))
      rw [drop_cons hi ([], false), Int.toNat_natCast, wi64_succ (by omega), firstBad]
      rcases shapeV_cases (l.getD i ([], false)).1 with h1 | ⟨h1, h2⟩
      · rw [ifT (nilT h1)]
        refine bF (by dsimp only; rw [nilT h1]; rfl) (cT (by first | rfl | exact True.intro) ?_)
        exact loop_soft_Result hN op ins t l hl n (i + 1) hi (by omega)
      · have h3 : ¬ shapeV (l.getD i ([], false)).1 = .nil := fun e => by rw [e] at h1; cases h1
        rw [ifF h1, if_neg h3]
        exact bT (by dsimp only; rw [h1]; rfl) rfl
    · refine cF (by omega) ?_
      rw [List.drop_eq_nil_of_le (by omega)]
      exact cT (by first | rfl | exact True.intro) rfl

def softLk (op : Int) (ins : List D) : D × Bool :=
  if op = 16 then (ins.getD 0 noD, decide (0 < ((ins.getD 0 noD).1.length : Int) ∧ (ins.getD 0 noD).2 = false ∧ ins.getD 1 noD = ([256], true)))
  else if op = 17 then
    if (ins.getD 0 noD).1.length ≠ 2 ∨ (ins.getD 1 noD).1.length ≠ 1 ∨ (ins.getD 1 noD).2 = false then (noD, false) else (([(ins.getD 1 noD).1.getD 0 0, (ins.getD 0 noD).1.getD 1 0], (ins.getD 0 noD).2), true)
  else if (ins.getD 0 noD).1.length = 0 then (noD, false)
  else (((ins.getD 0 noD).1.take ((ins.getD 0 noD).1.length - 1), true), true)

theorem soft_looks_spec {N : Nat} (hN : 20000 ≤ N) {op : Int} {ins : List D} (hop : op = 16 ∨ op = 17 ∨ op = 19 ∨ op = 20) (hl : (ins.length : Int) = softK op) (hb : firstBad ins = .nil) :
    F_soft_looks N op ins = some (boxD (softLk op ins).1, ((softLk op ins).2, ())) := by
  unfold F_soft_looks softLk
  rcases hop with rfl | rfl | rfl | rfl
  · simp only [softK, true_or, if_true] at hl
    match ins, hl, hb with
    | [a, b], _, hb =>
    obtain ⟨va, vb⟩ := firstBad_two hb
    have la := (shapeV_nil.1 va).1
    have lb := (shapeV_nil.1 vb).1
    rw [if_pos rfl]
    simp only [List.getD_cons_zero, List.getD_cons_succ]
    refine cT (by simp) (cT (by first | rfl | exact True.intro) (bnd _ (shape_Clone_spec N a (by omega)) ?_))
    by_cases h1 : (0 : Int) < (a.1.length : Int)
    case neg =>
      rw [decide_eq_false (p := _ ∧ _) (fun h => h1 h.1)]
      exact cF h1 (cT (by first | rfl | exact True.intro) rfl)
    refine cT h1 ?_
    cases h2 : a.2 with
    | true =>
      rw [decide_eq_false (p := _ ∧ _) (fun h => by cases h.2.1)]
      refine bF rfl (cT (by first | rfl | exact True.intro) ?_)
      rw [← h2]
    | false =>
      refine bT rfl (cT (by simp) (bnd _ (shape_Same_spec b ([256], true) (by omega) (by omega)) (cT (by first | rfl | exact True.intro) ?_)))
      rw [show decide ((0 : Int) < (a.1.length : Int) ∧ false = false ∧ b = ([256], true)) = decide (b = ([256], true)) from decide_eq_decide.2 ⟨fun h => h.2.2, fun h => ⟨h1, rfl, h⟩⟩]
      rw [← h2]
  · simp only [softK, or_true, if_true] at hl
    match ins, hl, hb with
    | [a, b], _, hb =>
    rw [if_neg (by decide), if_pos rfl]
    simp only [List.getD_cons_zero, List.getD_cons_succ]
    refine cT (by simp) (cF (by decide) (cT (by first | rfl | exact True.intro) (cT (by simp) ?_)))
    by_cases h1 : a.1.length = 2
    case neg => rw [if_pos (.inl h1)]; exact cT (by omega) rfl
    refine cF (by omega) ?_
    by_cases h2 : b.1.length = 1
    case neg => rw [if_pos (.inr (.inl h2))]; exact cT (by omega) rfl
    refine cF (by omega) ?_
    cases h3 : b.2 with
    | false => rw [if_pos (.inr (.inr rfl))]; exact bT rfl rfl
    | true =>
      rw [if_neg (by rintro (h | h | h); exact h h1; exact h h2; cases h)]
      exact bF rfl (cT (by omega) (cT (by omega) rfl))
  all_goals
    rw [softK, if_neg (by decide)] at hl
    match ins, hl, hb with
    | [a], _, hb =>
    have va := firstBad_one hb
    have la := (shapeV_nil.1 va).1
    rw [if_neg (by decide), if_neg (by decide)]
    simp only [List.getD_cons_zero]
    refine cT (by simp) (cF (by decide) (cF (by decide) ?_))
    by_cases h1 : a.1.length = 0
    · rw [if_pos h1]; exact cT (by omega) rfl
    rw [if_neg h1]
    refine cF (by omega) ?_
    have e : wi64 ((a.1.length : Int) - 1) = ((a.1.length - 1 : Nat) : Int) := by rw [wi64_in (by omega) (by omega)]; omega
    rw [e]
    refine cT (Int.natCast_nonneg _) (cT (by rw [Int.toNat_natCast]; omega) ?_)
    rw [Int.toNat_natCast, Nat.sub_zero]
    exact bnd _ (slices_Clone_spec N _ (by simp; omega)) (cT (by first | rfl | exact True.intro) rfl)

theorem softRes_lk {op : Int} {ins : List D} (hop : op = 16 ∨ op = 17 ∨ op = 19 ∨ op = 20) (hl : (ins.length : Int) = softK op) (hb : firstBad ins = .nil) :
    softRes op ins = if (softLk op ins).2 = false then (noD, .s ErrShape) else seenD (softLk op ins).1 := by
  unfold softRes softLk
  rw [if_neg (fun h => h hop), if_neg (fun h => h hl), ifNT (nilT hb)]
  rcases hop with rfl | rfl | rfl | rfl
  · simp only [softK, true_or, if_true] at hl
    match ins, hl, hb with
    | [a, b], _, hb =>
    obtain ⟨va, vb⟩ := firstBad_two hb
    rw [if_pos rfl, if_pos rfl]
    simp only [List.getD_cons_zero, List.getD_cons_succ]
    by_cases hc : a.2 = true ∨ (a.1.length : Int) < 1 ∨ b ≠ ([256], true)
    · rw [if_pos hc, decide_eq_false (p := _ ∧ _), if_pos rfl]
      rintro ⟨h1, h2, h3⟩
      rcases hc with h | h | h
      · rw [h] at h2; cases h2
      · omega
      · exact h h3
    · rw [if_neg hc]
      simp only [not_or, ne_eq, Decidable.not_not, Bool.not_eq_true] at hc
      rw [decide_eq_true (p := _ ∧ _) ⟨by omega, hc.1, hc.2.2⟩, if_neg (by decide)]
      unfold seenD
      rw [ifT (nilT va)]
  · simp only [Int.reduceEq, if_false, if_true]
    by_cases hc : (ins.getD 0 noD).1.length ≠ 2 ∨ (ins.getD 1 noD).1.length ≠ 1 ∨ (ins.getD 1 noD).2 = false
    · simp only [if_pos hc]; rfl
    · simp only [if_neg hc]; rfl
  all_goals
    rw [softK, if_neg (by decide)] at hl
    match ins, hl, hb with
    | [a], _, hb =>
    have va := firstBad_one hb
    simp only [Int.reduceEq, if_false]
    simp only [List.getD_cons_zero]
    by_cases h1 : a.1.length = 0
    · rw [if_pos (show (a.1.length : Int) < 1 by omega)]
      simp only [if_pos h1]
      rfl
    · rw [if_neg (show ¬ (a.1.length : Int) < 1 by omega)]
      simp only [if_neg h1]
      obtain ⟨pre, n, es, hn, hp, hq, he, hv, _⟩ := shape_nat_last va (by omega)
      have hv' : shapeV (a.1.take (a.1.length - 1)) = .nil := by rw [es, take_last]; exact hv
      have e : seenD ((a.1.take (a.1.length - 1), true)) = (((a.1.take (a.1.length - 1)), true), .nil) := by unfold seenD; rw [ifT (nilT hv')]
      exact e.symm

theorem soft_Result_spec {N : Nat} (hN : 20000 ≤ N) (op : Int) (ins : List D) (hi : ins.length ≤ 1000) : F_soft_Result N op ins = some ((softRes op ins).1, ((softRes op ins).2, ())) := by
  by_cases hop : op = 16 ∨ op = 17 ∨ op = 19 ∨ op = 20
  case neg =>
    unfold F_soft_Result softRes
    rw [if_pos hop]
    exact cF (by omega) (cF (by omega) (cF (by omega) (cF (by omega) rfl)))
  have h0 := loop_soft_Result hN op ins ([], (false, ())) ins (by omega) N 0 (by omega) (by omega)
  rw [show ((0 : Nat) : Int) = 0 from rfl, List.drop_zero] at h0
  by_cases hl : (ins.length : Int) = softK op
  case neg =>
    unfold F_soft_Result softRes
    rw [if_neg (fun h => h hop), if_pos hl]
    rcases hop with rfl | rfl | rfl | rfl
    all_goals
      (repeat first | refine bT rfl ?_ | refine bF rfl ?_)
      exact cT (by simpa [softK] using hl) rfl
  by_cases hb : firstBad ins = .nil
  case neg =>
    unfold F_soft_Result softRes
    rw [if_neg (fun h => h hop), if_neg (fun h => h hl), ifNF (isNil_false hb)]
    rw [if_neg hb] at h0
    rcases hop with rfl | rfl | rfl | rfl
    all_goals
      (repeat first | refine bT rfl ?_ | refine bF rfl ?_)
      refine cF (by simpa [softK] using hl) (bnd _ h0 ?_)
      dsimp only [Sum.elim_inr]
      (repeat first | refine cT (Nat.le_of_eq (Nat.zero_add _)) ?_ | refine cT rfl ?_ | refine cT True.intro ?_)
      rfl
  have lk := soft_looks_spec hN hop hl hb
  rw [softRes_lk hop hl hb]
  unfold F_soft_Result
  rw [if_pos hb] at h0
  have tail : ∀ (f : Option ((List Int × Bool) × (Er × Unit))), f = (cond (Bool.not (softLk op ins).2) (some ((([] : List Int), false), ((Er.s ErrShape), ())))
      (cond (decide (((0 : Nat) + (List.length (softLk op ins).1.1)) ≤ (List.length (softLk op ins).1.1)))
            (Option.bind (F_shape_Valid N ((List.take (List.length (softLk op ins).1.1) (softLk op ins).1.1), (softLk op ins).1.2)) fun y3 =>
            cond (Bool.not (Er.isNil (y3).1)) (some ((([] : List Int), false), y3))
              (cond (decide (((0 : Nat) + (List.length (softLk op ins).1.1)) ≤ (List.length (softLk op ins).1.1)))
                (some (((List.take (List.length (softLk op ins).1.1) (softLk op ins).1.1), (softLk op ins).1.2), (Er.nil, ()))) none)) none)) →
      f = some ((if (softLk op ins).2 = false then (noD, Er.s ErrShape) else seenD (softLk op ins).1).1, ((if (softLk op ins).2 = false then (noD, Er.s ErrShape) else seenD (softLk op ins).1).2, ())) := by
    intro f hf
    rw [hf]
    cases h2 : (softLk op ins).2 with
    | false => rfl
    | true =>
      rw [if_neg (by decide)]
      refine bF rfl ?_
      (repeat first | refine cT (Nat.le_of_eq (Nat.zero_add _)) ?_ | refine cT rfl ?_ | refine cT True.intro ?_)
      rw [List.take_length]
      refine bnd _ (shape_Valid_spec hN _) ?_
      unfold seenD
      rcases shapeV_cases (softLk op ins).1.1 with h3 | ⟨h3, h4⟩
      · rw [ifT (nilT h3)]
        refine bF (by dsimp only; rw [nilT h3]; rfl) ?_
        (repeat first | refine cT (Nat.le_of_eq (Nat.zero_add _)) ?_ | refine cT rfl ?_ | refine cT True.intro ?_)
        rfl
      · rw [ifF h3]
        exact bT (by dsimp only; rw [h3]; rfl) rfl
  rcases hop with rfl | rfl | rfl | rfl
  all_goals
    (repeat first | refine bT rfl ?_ | refine bF rfl ?_)
    refine cF (by simpa [softK] using hl) (bnd _ h0 ?_)
    dsimp only [Sum.elim_inl]
    exact bnd _ lk (tail _ rfl)

section

variable {a b : T} {n P : Nat}

end

end Go.Proofs.YtnblnlanicpagaaGreatDoor.Lg
