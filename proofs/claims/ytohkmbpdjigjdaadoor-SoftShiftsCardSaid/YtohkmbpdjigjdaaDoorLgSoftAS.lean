/-
  What the program's functions come to, in plain words.
-/
import Derived.Test.YtohkmbpdjigjdaaDoorLgSoftAQ
namespace Go.Proofs.YtohkmbpdjigjdaaDoor.Lg
open Go Go.Eng Go.Proofs

/-! the program's tables, choices, sums -/

theorem soft_reads_1_spec (N : Nat) (t : T) {i : Nat} (h : i < t.2.length) : F_soft_reads_1 N (i : Int) t = some (t.2.getD i 0, ()) := by
  unfold F_soft_reads_1
  exact cT (Int.natCast_nonneg _) (cT (by rw [Int.toNat_natCast]; exact h) (by rw [Int.toNat_natCast]))

theorem loop_soft_reads (N : Nat) (ins : List T) (hl : ins.length ≤ 1000) : ∀ (n i : Nat), i ≤ ins.length → ins.length < n + i →
    g_soft_reads_0 N n (ins.take i) ins ins.length i = some (ins, ())
  | 0, i, h, h' => by omega
  | n + 1, i, h, h' => by
    rw [g_soft_reads_0]
    by_cases hi : i < ins.length
    · have hlen : (ins.take i).length = i := by simp; omega
      have e : List.take (List.length (ins.take i)) (ins.take i) ++ [ins.getD i (([], false), [])] = ins.take (i + 1) := by
        rw [List.take_length, List.take_succ_eq_append_getElem hi, getD_lt hi]
      refine cT (by omega) (cT (by omega) (cT (by simpa using hi) (cT (by omega) ?_)))
      rw [Int.toNat_natCast, e, wi64_succ (by omega)]
      refine cT (by rw [hlen]; simp only [most]; omega) (cT (by simp; omega) ?_)
      exact loop_soft_reads N ins hl n (i + 1) hi (by omega)
    · refine cF (by omega) ?_
      rw [List.take_of_length_le (by omega)]
      exact cT (by first | rfl | exact True.intro) rfl

theorem soft_reads_spec {N : Nat} (hN : 20000 ≤ N) (ins : List T) (hl : ins.length ≤ 1000) : F_soft_reads N ins = some (ins, ()) := by
  unfold F_soft_reads
  have h0 := loop_soft_reads N ins hl N 0 (by omega) (by omega)
  rw [show ((0 : Nat) : Int) = 0 from rfl, List.take_zero] at h0
  exact bnd _ h0 (cT (by first | rfl | exact True.intro) rfl)

theorem loop_soft_Result {N : Nat} (hN : 20000 ≤ N) (op : Int) (ins : List D) (t : List Int × (Bool × Unit)) (l : List D) (hl : l.length < 1000000) : ∀ (n i : Nat), i ≤ l.length → l.length < n + i →
    g_soft_Result_0 N n op ins t l l.length i = if firstBad (l.drop i) = .nil then some (.inl (op, (ins, (t, ())))) else some (.inr (([], (false, ())), (firstBad (l.drop i), ())))
  | 0, i, h, h' => by omega
  | n + 1, i, h, h' => by
    rw [g_soft_Result_0]
    by_cases hi : i < l.length
    · refine cT (by omega) (cT (by omega) (cT (by simpa using hi) (bnd _ (shape_Valid_spec hN _) ?_)))
      rw [drop_cons hi ([], false), Int.toNat_natCast, wi64_succ (by omega), firstBad]
      rcases shapeV_cases (l.getD i ([], false)).1 with h1 | ⟨h1, h2⟩
      · rw [ifT (nilT h1)]
        refine bF (by dsimp only; rw [nilT h1]; rfl) (cT (by first | rfl | exact True.intro) ?_)
        exact loop_soft_Result hN op ins t l hl n (i + 1) hi (by omega)
      · have h3 : ¬ shapeV (l.getD i ([], false)).1 = .nil := fun e => by rw [e] at h1; cases h1
        rw [ifF h1, if_neg h3]
        exact bT (by dsimp only; rw [h1]; rfl) rfl
    · refine cF (by omega) ?_
      rw [List.drop_eq_nil_of_le (by omega)]
      exact cT (by first | rfl | exact True.intro) rfl

/-- what it would look like; may it? -/
def softLk (op : Int) (ins : List D) : D × Bool :=
  if op = 16 then (ins.getD 0 noD, decide (0 < ((ins.getD 0 noD).1.length : Int) ∧ (ins.getD 0 noD).2 = false ∧ ins.getD 1 noD = ([256], true)))
  else if op = 17 then
    if (ins.getD 0 noD).1.length ≠ 2 ∨ (ins.getD 1 noD).1.length ≠ 1 ∨ (ins.getD 1 noD).2 = false then (noD, false) else (([(ins.getD 1 noD).1.getD 0 0, (ins.getD 0 noD).1.getD 1 0], (ins.getD 0 noD).2), true)
  else if (ins.getD 0 noD).1.length = 0 then (noD, false)
  else (((ins.getD 0 noD).1.take ((ins.getD 0 noD).1.length - 1), true), true)

theorem soft_looks_spec {N : Nat} (hN : 20000 ≤ N) {op : Int} {ins : List D} (hop : op = 16 ∨ op = 17 ∨ op = 19 ∨ op = 20) (hl : (ins.length : Int) = softK op) (hb : firstBad ins = .nil) :
    F_soft_looks N op ins = some (boxD (softLk op ins).1, ((softLk op ins).2, ())) := by
  unfold F_soft_looks softLk
  rcases hop with rfl | rfl | rfl | rfl
  · simp only [softK, true_or, if_true] at hl
    match ins, hl, hb with
    | [a, b], _, hb =>
    obtain ⟨va, vb⟩ := firstBad_two hb
    have la := (shapeV_nil.1 va).1
    have lb := (shapeV_nil.1 vb).1
    rw [if_pos rfl]
    simp only [List.getD_cons_zero, List.getD_cons_succ]
    refine cT (by simp) (cT (by first | rfl | exact True.intro) (bnd _ (shape_Clone_spec N a (by omega)) ?_))
    by_cases h1 : (0 : Int) < (a.1.length : Int)
    case neg =>
      rw [decide_eq_false (p := _ ∧ _) (fun h => h1 h.1)]
      exact cF h1 (cT (by first | rfl | exact True.intro) rfl)
    refine cT h1 ?_
    cases h2 : a.2 with
    | true =>
      rw [decide_eq_false (p := _ ∧ _) (fun h => by cases h.2.1)]
      refine bF rfl (cT (by first | rfl | exact True.intro) ?_)
      rw [← h2]
    | false =>
      refine bT rfl (cT (by simp) (bnd _ (shape_Same_spec b ([256], true) (by omega) (by omega)) (cT (by first | rfl | exact True.intro) ?_)))
      rw [show decide ((0 : Int) < (a.1.length : Int) ∧ false = false ∧ b = ([256], true)) = decide (b = ([256], true)) from decide_eq_decide.2 ⟨fun h => h.2.2, fun h => ⟨h1, rfl, h⟩⟩]
      rw [← h2]
  · simp only [softK, or_true, if_true] at hl
    match ins, hl, hb with
    | [a, b], _, hb =>
    rw [if_neg (by decide), if_pos rfl]
    simp only [List.getD_cons_zero, List.getD_cons_succ]
    refine cT (by simp) (cF (by decide) (cT (by first | rfl | exact True.intro) (cT (by simp) ?_)))
    by_cases h1 : a.1.length = 2
    case neg => rw [if_pos (.inl h1)]; exact cT (by omega) rfl
    refine cF (by omega) ?_
    by_cases h2 : b.1.length = 1
    case neg => rw [if_pos (.inr (.inl h2))]; exact cT (by omega) rfl
    refine cF (by omega) ?_
    cases h3 : b.2 with
    | false => rw [if_pos (.inr (.inr rfl))]; exact bT rfl rfl
    | true =>
      rw [if_neg (by rintro (h | h | h); exact h h1; exact h h2; cases h)]
      exact bF rfl (cT (by omega) (cT (by omega) rfl))
  all_goals
    rw [softK, if_neg (by decide)] at hl
    match ins, hl, hb with
    | [a], _, hb =>
    have va := firstBad_one hb
    have la := (shapeV_nil.1 va).1
    rw [if_neg (by decide), if_neg (by decide)]
    simp only [List.getD_cons_zero]
    refine cT (by simp) (cF (by decide) (cF (by decide) ?_))
    by_cases h1 : a.1.length = 0
    · rw [if_pos h1]; exact cT (by omega) rfl
    rw [if_neg h1]
    refine cF (by omega) ?_
    have e : wi64 ((a.1.length : Int) - 1) = ((a.1.length - 1 : Nat) : Int) := by rw [wi64_in (by omega) (by omega)]; omega
    rw [e]
    refine cT (Int.natCast_nonneg _) (cT (by rw [Int.toNat_natCast]; omega) ?_)
    rw [Int.toNat_natCast, Nat.sub_zero]
    exact bnd _ (slices_Clone_spec N _ (by simp; omega)) (cT (by first | rfl | exact True.intro) rfl)

theorem softRes_lk {op : Int} {ins : List D} (hop : op = 16 ∨ op = 17 ∨ op = 19 ∨ op = 20) (hl : (ins.length : Int) = softK op) (hb : firstBad ins = .nil) :
    softRes op ins = if (softLk op ins).2 = false then (noD, .s ErrShape) else seenD (softLk op ins).1 := by
  unfold softRes softLk
  rw [if_neg (fun h => h hop), if_neg (fun h => h hl), ifNT (nilT hb)]
  rcases hop with rfl | rfl | rfl | rfl
  · simp only [softK, true_or, if_true] at hl
    match ins, hl, hb with
    | [a, b], _, hb =>
    obtain ⟨va, vb⟩ := firstBad_two hb
    rw [if_pos rfl, if_pos rfl]
    simp only [List.getD_cons_zero, List.getD_cons_succ]
    by_cases hc : a.2 = true ∨ (a.1.length : Int) < 1 ∨ b ≠ ([256], true)
    · rw [if_pos hc, decide_eq_false (p := _ ∧ _), if_pos rfl]
      rintro ⟨h1, h2, h3⟩
      rcases hc with h | h | h
      · rw [h] at h2; cases h2
      · omega
      · exact h h3
    · rw [if_neg hc]
      simp only [not_or, ne_eq, Decidable.not_not, Bool.not_eq_true] at hc
      rw [decide_eq_true (p := _ ∧ _) ⟨by omega, hc.1, hc.2.2⟩, if_neg (by decide)]
      unfold seenD
      rw [ifT (nilT va)]
  · simp only [Int.reduceEq, if_false, if_true]
    by_cases hc : (ins.getD 0 noD).1.length ≠ 2 ∨ (ins.getD 1 noD).1.length ≠ 1 ∨ (ins.getD 1 noD).2 = false
    · simp only [if_pos hc]; rfl
    · simp only [if_neg hc]; rfl
  all_goals
    rw [softK, if_neg (by decide)] at hl
    match ins, hl, hb with
    | [a], _, hb =>
    have va := firstBad_one hb
    simp only [Int.reduceEq, if_false]
    simp only [List.getD_cons_zero]
    by_cases h1 : a.1.length = 0
    · rw [if_pos (show (a.1.length : Int) < 1 by omega)]
      simp only [if_pos h1]
      rfl
    · rw [if_neg (show ¬ (a.1.length : Int) < 1 by omega)]
      simp only [if_neg h1]
      obtain ⟨pre, n, es, hn, hp, hq, he, hv, _⟩ := shape_nat_last va (by omega)
      have hv' : shapeV (a.1.take (a.1.length - 1)) = .nil := by rw [es, take_last]; exact hv
      have e : seenD ((a.1.take (a.1.length - 1), true)) = (((a.1.take (a.1.length - 1)), true), .nil) := by unfold seenD; rw [ifT (nilT hv')]
      exact e.symm

theorem soft_Result_spec {N : Nat} (hN : 20000 ≤ N) (op : Int) (ins : List D) (hi : ins.length ≤ 1000) : F_soft_Result N op ins = some ((softRes op ins).1, ((softRes op ins).2, ())) := by
  by_cases hop : op = 16 ∨ op = 17 ∨ op = 19 ∨ op = 20
  case neg =>
    unfold F_soft_Result softRes
    rw [if_pos hop]
    exact cF (by omega) (cF (by omega) (cF (by omega) (cF (by omega) rfl)))
  have h0 := loop_soft_Result hN op ins ([], (false, ())) ins (by omega) N 0 (by omega) (by omega)
  rw [show ((0 : Nat) : Int) = 0 from rfl, List.drop_zero] at h0
  by_cases hl : (ins.length : Int) = softK op
  case neg =>
    unfold F_soft_Result softRes
    rw [if_neg (fun h => h hop), if_pos hl]
    rcases hop with rfl | rfl | rfl | rfl
    all_goals
      (repeat first | refine bT rfl ?_ | refine bF rfl ?_)
      exact cT (by simpa [softK] using hl) rfl
  by_cases hb : firstBad ins = .nil
  case neg =>
    unfold F_soft_Result softRes
    rw [if_neg (fun h => h hop), if_neg (fun h => h hl), ifNF (isNil_false hb)]
    rw [if_neg hb] at h0
    rcases hop with rfl | rfl | rfl | rfl
    all_goals
      (repeat first | refine bT rfl ?_ | refine bF rfl ?_)
      refine cF (by simpa [softK] using hl) (bnd _ h0 ?_)
      dsimp only [Sum.elim_inr]
      (repeat first | refine cT (Nat.le_of_eq (Nat.zero_add _)) ?_ | refine cT rfl ?_ | refine cT True.intro ?_)
      rfl
  have lk := soft_looks_spec hN hop hl hb
  rw [softRes_lk hop hl hb]
  unfold F_soft_Result
  rw [if_pos hb] at h0
  have tail : ∀ (f : Option ((List Int × Bool) × (Er × Unit))), f = (cond (Bool.not (softLk op ins).2) (some ((([] : List Int), false), ((Er.s ErrShape), ())))
      (cond (decide (((0 : Nat) + (List.length (softLk op ins).1.1)) ≤ (List.length (softLk op ins).1.1)))
            (Option.bind (F_shape_Valid N ((List.take (List.length (softLk op ins).1.1) (softLk op ins).1.1), (softLk op ins).1.2)) fun y3 =>
            cond (Bool.not (Er.isNil (y3).1)) (some ((([] : List Int), false), y3))
              (cond (decide (((0 : Nat) + (List.length (softLk op ins).1.1)) ≤ (List.length (softLk op ins).1.1)))
                (some (((List.take (List.length (softLk op ins).1.1) (softLk op ins).1.1), (softLk op ins).1.2), (Er.nil, ()))) none)) none)) →
      f = some ((if (softLk op ins).2 = false then (noD, Er.s ErrShape) else seenD (softLk op ins).1).1, ((if (softLk op ins).2 = false then (noD, Er.s ErrShape) else seenD (softLk op ins).1).2, ())) := by
    intro f hf
    rw [hf]
    cases h2 : (softLk op ins).2 with
    | false => rfl
    | true =>
      rw [if_neg (by decide)]
      refine bF rfl ?_
      (repeat first | refine cT (Nat.le_of_eq (Nat.zero_add _)) ?_ | refine cT rfl ?_ | refine cT True.intro ?_)
      rw [List.take_length]
      refine bnd _ (shape_Valid_spec hN _) ?_
      unfold seenD
      rcases shapeV_cases (softLk op ins).1.1 with h3 | ⟨h3, h4⟩
      · rw [ifT (nilT h3)]
        refine bF (by dsimp only; rw [nilT h3]; rfl) ?_
        (repeat first | refine cT (Nat.le_of_eq (Nat.zero_add _)) ?_ | refine cT rfl ?_ | refine cT True.intro ?_)
        rfl
      · rw [ifF h3]
        exact bT (by dsimp only; rw [h3]; rfl) rfl
  rcases hop with rfl | rfl | rfl | rfl
  all_goals
    (repeat first | refine bT rfl ?_ | refine bF rfl ?_)
    refine cF (by simpa [softK] using hl) (bnd _ h0 ?_)
    dsimp only [Sum.elim_inl]
    exact bnd _ lk (tail _ rfl)

theorem loop_soft_result {N : Nat} (hN : 20000 ≤ N) (op : Int) (t : List Int × (Bool × Unit)) (l : List T) (hl : l.length ≤ 1000) : ∀ (n i : Nat), i ≤ l.length → l.length < n + i →
    g_soft_result_0 N n op t ((l.map Prod.fst).take i) l l.length i = if firstBadT (l.drop i) = .nil then some (.inl (op, (t, (l.map Prod.fst, ())))) else some (.inr (([], (false, ())), ([], (firstBadT (l.drop i), ()))))
  | 0, i, h, h' => by omega
  | n + 1, i, h, h' => by
    rw [g_soft_result_0]
    by_cases hi : i < l.length
    · have hlen : ((l.map Prod.fst).take i).length = i := by simp; omega
      have e : List.take (List.length ((l.map Prod.fst).take i)) ((l.map Prod.fst).take i) ++ [(l.getD i (([], false), [])).1] = (l.map Prod.fst).take (i + 1) := by
        rw [List.take_length, List.take_succ_eq_append_getElem (by simpa using hi), getD_lt hi]
        simp
      refine cT (by omega) (cT (by omega) (cT (by simpa using hi) (bnd _ (tens_Valid_spec hN _) ?_)))
      rw [drop_cons hi (([], false), []), Int.toNat_natCast, wi64_succ (by omega), firstBadT]
      by_cases h1 : tensV (l.getD i (([], false), [])) = .nil
      · rw [ifT (nilT h1)]
        refine bF (by dsimp only; rw [nilT h1]; rfl) (cT (by omega) ?_)
        rw [e]
        refine cT (by rw [hlen]; simp only [most]; omega) ?_
        (repeat first | refine cT rfl ?_ | refine cT True.intro ?_)
        refine cT (by simp; omega) ?_
        exact loop_soft_result hN op t l hl n (i + 1) hi (by omega)
      · rw [ifF (isNil_false h1), if_neg h1]
        exact bT (by dsimp only; rw [isNil_false h1]; rfl) rfl
    · refine cF (by omega) ?_
      rw [List.drop_eq_nil_of_le (by omega), List.take_of_length_le (by simp; omega)]
      (repeat first | refine cT rfl ?_ | refine cT True.intro ?_)
      rfl

theorem soft_result_bad {N : Nat} (hN : 20000 ≤ N) (op : Int) (ins : List T) (hi : ins.length ≤ 1000) (hv : firstBadT ins ≠ .nil) : F_soft_result N op ins = some (noD, ([], (firstBadT ins, ()))) := by
  unfold F_soft_result
  have h0 := loop_soft_result hN op ([], (false, ())) ins hi N 0 (by omega) (by omega)
  rw [show ((0 : Nat) : Int) = 0 from rfl, List.drop_zero, List.take_zero, if_neg hv] at h0
  refine bnd _ h0 ?_
  dsimp only [Sum.elim_inr]
  (repeat first | refine cT (Nat.le_of_eq (Nat.zero_add _)) ?_ | refine cT rfl ?_ | refine cT True.intro ?_)
  rfl

theorem soft_result_ok {N : Nat} (hN : 20000 ≤ N) (op : Int) (ins : List T) (hi : ins.length ≤ 1000) (hv : firstBadT ins = .nil) : F_soft_result N op ins = some ((softRes op (ins.map Prod.fst)).1, (ins.map Prod.fst, ((softRes op (ins.map Prod.fst)).2, ()))) := by
  unfold F_soft_result
  have h0 := loop_soft_result hN op ([], (false, ())) ins hi N 0 (by omega) (by omega)
  rw [show ((0 : Nat) : Int) = 0 from rfl, List.drop_zero, List.take_zero, if_pos hv] at h0
  refine bnd _ h0 ?_
  dsimp only [Sum.elim_inl]
  (repeat first | refine cT (Nat.le_of_eq (Nat.zero_add _)) ?_ | refine cT rfl ?_ | refine cT True.intro ?_)
  have hm : List.take (List.length (ins.map Prod.fst)) (ins.map Prod.fst) = ins.map Prod.fst := List.take_length
  rw [hm]
  refine bnd _ (soft_Result_spec hN op _ (by simpa using hi)) ?_
  (repeat first | refine cT (Nat.le_of_eq (Nat.zero_add _)) ?_ | refine cT rfl ?_ | refine cT True.intro ?_)
  rfl

/-! elements -/

theorem soft_softmax_c1_spec (N : Nat) (b : T) {x m : Int} (h1 : 0 ≤ m - x) (h2 : m - x < (b.2.length : Int)) (h3 : m - x ≤ 1000000) : F_soft_softmax_c1 N x b m = some (max 0 (b.2.getD (m - x).toNat 0), ()) := by
  unfold F_soft_softmax_c1
  obtain ⟨k, hk⟩ : ∃ k : Nat, m - x = (k : Int) := ⟨(m - x).toNat, by omega⟩
  rw [wi64_in (by omega) (by omega), hk]
  refine bnd _ (soft_reads_1_spec N b (by omega)) ?_
  rw [imax_eq', Int.max_comm, Int.toNat_natCast]

section

variable {a b : T} {n P : Nat}

theorem loop_sm_0 (N : Nat) (tb : T × Unit) (hn : 1 ≤ n ∧ n ≤ 256) (hl : a.2.length = P * n) (hP : P * n ≤ 16384) {i : Nat} (hi : i < P * n) (I : Int) : ∀ (cnt j : Nat), j ≤ n → n < cnt + j →
    g_soft_softmax_0 N cnt a I n tb ((i / n * n : Nat) : Int) (mx (fun j => a.2.getD (i / n * n + j) 0) (j - 1), ()) n j = some (a, (I, ((n : Int), (tb, (((i / n * n : Nat) : Int), ((smM a.2 n i, ()), ()))))))
  | 0, j, h1, h2 => by omega
  | cnt + 1, j, h1, h2 => by
    rw [g_soft_softmax_0]
    obtain ⟨r1, r2, r3⟩ := row_idx hn.1 hi
    by_cases hj : j < n
    · have e : wi64 (((i / n * n : Nat) : Int) + j) = ((i / n * n + j : Nat) : Int) := wi64_add (by omega)
      rw [e]
      refine cT (by omega) (bnd _ (soft_reads_1_spec N a (by rw [hl]; omega)) ?_)
      rw [wi64_succ (by omega), imax_eq']
      have ih := loop_sm_0 N tb hn hl hP hi I cnt (j + 1) hj (by omega)
      have hm : max (mx (fun j => a.2.getD (i / n * n + j) 0) (j - 1)) (a.2.getD (i / n * n + j) 0) = mx (fun j => a.2.getD (i / n * n + j) 0) (j + 1 - 1) := by
        cases j with
        | zero => simp only [Nat.zero_sub, mx, Nat.add_zero, Nat.zero_add, Nat.sub_self]; omega
        | succ j => rfl
      dsimp only
      rw [hm]
      exact ih
    · have : j = n := by omega
      subst this
      exact cF (by omega) rfl

theorem loop_sm_1 (N : Nat) (hn : 1 ≤ n ∧ n ≤ 256) (hl : a.2.length = P * n) (hP : P * n ≤ 16384) (hb : b.2.length = 256) (fA : ∀ p, -128 ≤ a.2.getD p 0 ∧ a.2.getD p 0 ≤ 127) (fB : ∀ p, -2147483648 ≤ b.2.getD p 0 ∧ b.2.getD p 0 ≤ 2147483647) {i : Nat} (hi : i < P * n) (I : Int) : ∀ (cnt j : Nat), j ≤ n → n < cnt + j →
    g_soft_softmax_1 N cnt a I ((i / n * n : Nat) : Int) (b, smM a.2 n i) (sumN (fun j => smW a.2 b.2 n i (i / n * n + j)) j) n j = some (a, (I, ((b, smM a.2 n i), (smS a.2 b.2 n i, ()))))
  | 0, j, h1, h2 => by omega
  | cnt + 1, j, h1, h2 => by
    rw [g_soft_softmax_1]
    obtain ⟨r1, r2, r3⟩ := row_idx hn.1 hi
    by_cases hj : j < n
    · have e : wi64 (((i / n * n : Nat) : Int) + j) = ((i / n * n + j : Nat) : Int) := wi64_add (by omega)
      have hd := smD_in fA hn.1 (i := i) (j := i / n * n + j) (by omega) (by omega)
      have hw := smW_in fB (n := n) a.2 i (i / n * n + j)
      have hs := sumN_bound (fun j => smW a.2 b.2 n i (i / n * n + j)) 2147483647 (fun j => by have := smW_in fB (n := n) a.2 i (i / n * n + j); omega) j
      rw [e]
      refine cT (by omega) (bnd _ (soft_reads_1_spec N a (by rw [hl]; omega)) (bnd _ (soft_softmax_c1_spec N b (by dsimp only; omega) (by dsimp only; rw [hb]; omega) (by dsimp only; omega)) ?_))
      rw [wi64_succ (by omega)]
      have ih := loop_sm_1 N hn hl hP hb fA fB hi I cnt (j + 1) hj (by omega)
      rw [sumN] at ih
      unfold smW at hw hs ih ⊢
      dsimp only
      rw [wi64_in (by omega) (by omega)]
      exact ih
    · have : j = n := by omega
      subst this
      exact cF (by omega) rfl

theorem soft_softmax_spec {N : Nat} (hN : 20000 ≤ N) (hn : 1 ≤ n ∧ n ≤ 256) (hl : a.2.length = P * n) (hP : P * n ≤ 16384) (hb : b.2.length = 256) (fA : ∀ p, -128 ≤ a.2.getD p 0 ∧ a.2.getD p 0 ≤ 127) (fB : ∀ p, -2147483648 ≤ b.2.getD p 0 ∧ b.2.getD p 0 ≤ 2147483647) {i : Nat} (hi : i < P * n) :
    F_soft_softmax N a b i n = some (smC a.2 b.2 n i, ()) := by
  unfold F_soft_softmax
  obtain ⟨r1, r2, r3⟩ := row_idx hn.1 hi
  have er : wi64 (wi64 (Int.tdiv (i : Int) (n : Int)) * (n : Int)) = ((i / n * n : Nat) : Int) := by
    rw [wi64_tdiv i n (by omega), wi64_mul (by omega)]
  rw [er]
  have h0 := loop_sm_0 (a := a) (n := n) (P := P) N (b, ()) hn hl hP hi (i : Int) N 0 (by omega) (by omega)
  rw [show ((0 : Nat) : Int) = 0 from rfl] at h0
  simp only [Nat.zero_sub, mx, Nat.add_zero] at h0
  have h1 := loop_sm_1 (a := a) (b := b) (n := n) (P := P) N hn hl hP hb fA fB hi (i : Int) N 0 (by omega) (by omega)
  rw [show ((0 : Nat) : Int) = 0 from rfl, sumN] at h1
  refine cT (by omega) (bnd _ (soft_reads_1_spec N a (by rw [hl]; omega)) (bnd _ h0 (bnd _ h1 ?_)))
  unfold smC
  by_cases hz : smS a.2 b.2 n i = 0
  · rw [if_pos hz]
    exact cT hz rfl
  rw [if_neg hz]
  have hd := smD_in fA hn.1 (i := i) (j := i) r2 r3
  have hw := smW_in fB (n := n) a.2 i i
  have hs : 0 ≤ smS a.2 b.2 n i := sumN_nonneg (fun j => (smW_in fB (n := n) a.2 i _).1) n
  have hs2 := sumN_bound (fun j => smW a.2 b.2 n i (i / n * n + j)) 2147483647 (fun j => by have := smW_in fB (n := n) a.2 i (i / n * n + j); omega) n
  change -(2147483647 * (n : Int)) ≤ smS a.2 b.2 n i ∧ smS a.2 b.2 n i ≤ 2147483647 * (n : Int) at hs2
  refine cF hz (bnd _ (soft_reads_1_spec N a (by rw [hl]; omega)) (bnd _ (soft_softmax_c1_spec N b (by dsimp only; omega) (by dsimp only; rw [hb]; omega) (by dsimp only; omega)) (cT hz ?_)))
  have hq : 0 ≤ smS a.2 b.2 n i / 2 := Int.ediv_nonneg hs (by omega)
  dsimp only
  have ew : max 0 (b.2.getD (smM a.2 n i - a.2.getD i 0).toNat 0) = smW a.2 b.2 n i i := rfl
  rw [ew]
  generalize smW a.2 b.2 n i i = W at *
  generalize smS a.2 b.2 n i = S at *
  have e2 : wi64 (Int.tdiv S 2) = S / 2 := by rw [Int.tdiv_eq_ediv_of_nonneg hs, wi64_in (by omega) (by omega)]
  have e3 : wi64 (wi64 (255 * W) + S / 2) = 255 * W + S / 2 := by rw [wi64_in (n := 255 * W) (by omega) (by omega), wi64_in (by omega) (by omega)]
  have b1 : 0 ≤ (255 * W + S / 2) / S := Int.ediv_nonneg (by omega) (by omega)
  have b2 : (255 * W + S / 2) / S ≤ 255 * W + S / 2 := Int.ediv_le_self _ (by omega)
  rw [e2, e3, Int.tdiv_eq_ediv_of_nonneg (by omega), wi64_in (n := (255 * W + S / 2) / S) (by omega) (by omega), wi64_in (by omega) (by omega)]
  rfl

theorem loop_sa_0 (N : Nat) (hn : 1 ≤ n ∧ n ≤ 256) (hl : a.2.length = P * n) (hP : P * n ≤ 16384) {i : Nat} (hi : i < P) : ∀ (cnt j : Nat), j ≤ n → n < cnt + j →
    g_soft_At_0 N cnt i n a (am (rowF a.2 n i) j) n j = some (((am (rowF a.2 n i) n : Nat) : Int), ())
  | 0, j, h1, h2 => by omega
  | cnt + 1, j, h1, h2 => by
    rw [g_soft_At_0]
    by_cases hj : j < n
    · have hr : i * n + n ≤ P * n := by
        have : (i + 1) * n ≤ P * n := Nat.mul_le_mul_right n hi
        rw [Nat.add_mul, Nat.one_mul] at this
        exact this
      have ha := am_le (rowF a.2 n i) j
      have e1 : wi64 (wi64 ((i : Int) * n) + j) = ((i * n + j : Nat) : Int) := wi64_row (by omega)
      have e2 : wi64 (wi64 ((i : Int) * n) + ((am (rowF a.2 n i) j : Nat) : Int)) = ((i * n + am (rowF a.2 n i) j : Nat) : Int) := wi64_row (by omega)
      have ih := loop_sa_0 N hn hl hP hi cnt (j + 1) hj (by omega)
      rw [e1, e2]
      refine cT (by omega) (bnd _ (soft_reads_1_spec N a (by rw [hl]; omega)) (bnd _ (soft_reads_1_spec N a (by rw [hl]; omega)) ?_))
      rw [wi64_succ (by omega)]
      by_cases hlt : rowF a.2 n i (am (rowF a.2 n i) j) < rowF a.2 n i j
      · refine cT hlt ?_
        rw [am, if_pos hlt] at ih
        exact ih
      · refine cF hlt ?_
        rw [am, if_neg hlt] at ih
        exact ih
    · have : j = n := by omega
      subst this
      exact cF (by omega) rfl

theorem loop_sa_1 (N : Nat) (hn : 1 ≤ n ∧ n ≤ 256) (hl : a.2.length = P * n) (hP : P * n ≤ 16384) (fA : ∀ p, -2147483648 ≤ a.2.getD p 0 ∧ a.2.getD p 0 ≤ 2147483647) {i : Nat} (hi : i < P) : ∀ (cnt j : Nat), j ≤ n → n < cnt + j →
    g_soft_At_1 N cnt i n a (sumN (rowF a.2 n i) j) n j = some (sumN (rowF a.2 n i) n, ())
  | 0, j, h1, h2 => by omega
  | cnt + 1, j, h1, h2 => by
    rw [g_soft_At_1]
    by_cases hj : j < n
    · have hr : i * n + n ≤ P * n := by
        have : (i + 1) * n ≤ P * n := Nat.mul_le_mul_right n hi
        rw [Nat.add_mul, Nat.one_mul] at this
        exact this
      have e1 : wi64 (wi64 ((i : Int) * n) + j) = ((i * n + j : Nat) : Int) := wi64_row (by omega)
      have hs := sumN_bound (rowF a.2 n i) 2147483648 (fun j => by have := fA (i * n + j); unfold rowF; omega) j
      have hv := fA (i * n + j)
      have e3 : wi64 (sumN (rowF a.2 n i) j + a.2.getD (i * n + j) 0) = sumN (rowF a.2 n i) (j + 1) := by
        rw [wi64_in (by omega) (by omega)]
        rfl
      have ih := loop_sa_1 N hn hl hP fA hi cnt (j + 1) hj (by omega)
      rw [e1]
      refine cT (by omega) (bnd _ (soft_reads_1_spec N a (by rw [hl]; omega)) ?_)
      dsimp only
      rw [wi64_succ (by omega), e3]
      exact ih
    · have : j = n := by omega
      subst this
      exact cF (by omega) rfl

end

/-- AN ELEMENT of these operations -/
theorem soft_At_spec {N : Nat} (hN : 20000 ≤ N) {op : Int} (hs : op = 16 ∨ op = 17 ∨ op = 19 ∨ op = 20) (args : List Int) (ins : List T) (hv : firstBadT ins = .nil) (hr : (softRes op (ins.map Prod.fst)).2 = .nil) {i : Nat} (hi : (i : Int) < elems (softRes op (ins.map Prod.fst)).1.1) :
    F_soft_At N op i (ins.map Prod.fst) ins = some (elAll op args ins (softRes op (ins.map Prod.fst)).1 i, ()) := by
  generalize hd : (softRes op (ins.map Prod.fst)).1 = d at *
  unfold softRes at hr hd
  rw [if_neg (fun h => h hs)] at hr hd
  by_cases hl : ((ins.map Prod.fst).length : Int) = softK op
  case neg => rw [if_pos hl] at hr; cases hr
  rw [if_neg (fun h => h hl)] at hr hd
  rw [List.length_map] at hl
  by_cases hb : firstBad (ins.map Prod.fst) = .nil
  case neg => rw [ifNF (isNil_false hb)] at hr; exact absurd hr hb
  rw [ifNT (nilT hb)] at hr hd
  unfold F_soft_At elAll
  rw [if_neg (by omega), if_neg (by omega), if_neg (by omega), if_neg (by omega)]
  rcases hs with rfl | rfl | rfl | rfl
  · simp only [softK, true_or, if_true] at hl
    match ins, hl with
    | [a, b], _ =>
    obtain ⟨va, vb⟩ := firstBadT_two hv
    rw [if_pos rfl] at hr hd
    simp only [List.map_cons, List.map_nil, List.getD_cons_zero, List.getD_cons_succ] at hr hd ⊢
    by_cases hc : a.1.2 = true ∨ (a.1.1.length : Int) < 1 ∨ b.1 ≠ ([256], true)
    · rw [if_pos hc] at hr; cases hr
    rw [if_neg hc] at hd
    simp only [not_or, ne_eq, Decidable.not_not, Bool.not_eq_true] at hc
    obtain ⟨pre, n, es, hn, hp1, hq, he, _, _⟩ := shape_nat_last (tensV_shape va) (by omega)
    subst hd
    rw [he] at hi
    have la := tensV_len va
    rw [he] at la
    have lb := tensV_len vb
    rw [hc.2.2] at lb
    have l4 := (shapeV_nil.1 (tensV_shape va)).1
    have lb' : b.2.length = 256 := by
      have : elems [256] = 256 := by decide
      dsimp only at lb
      omega
    have eg : a.1.1.getD (a.1.1.length - 1) 0 = (n : Int) := by rw [es]; exact getD_last _ _ _
    have e : wi64 ((a.1.1.length : Int) - 1) = ((a.1.1.length - 1 : Nat) : Int) := by rw [wi64_in (by omega) (by omega)]; omega
    first | rw [if_pos rfl] | rw [if_pos True.intro]
    simp only [e, eg, Int.toNat_natCast]
    refine cT (by simp) (cT (Int.natCast_nonneg _) (cT (by omega) (cT (by simp) (cT (by first | rfl | exact True.intro) (cT (by simp) ?_)))))
    exact bnd _ (soft_softmax_spec hN hn (P := prodN pre) (by omega) hq lb' (tensV_narrowD va hc.1) (tensV_in vb) (by omega)) rfl
  · simp only [softK, or_true, if_true] at hl
    match ins, hl with
    | [a, b], _ =>
    obtain ⟨va, vb⟩ := firstBadT_two hv
    rw [if_neg (by decide), if_pos rfl] at hr hd
    simp only [List.map_cons, List.map_nil, List.getD_cons_zero, List.getD_cons_succ] at hr hd ⊢
    by_cases hc : a.1.1.length ≠ 2 ∨ b.1.1.length ≠ 1 ∨ b.1.2 = false
    · rw [if_pos hc] at hr; cases hr
    rw [if_neg hc] at hr hd
    simp only [not_or, ne_eq, Decidable.not_not, Bool.not_eq_false] at hc
    obtain ⟨m, w, e1, hm, hw, hmw, he⟩ := shape_nat_two (tensV_shape va) hc.1
    obtain ⟨ns, e2, _, hn2, _, hq2, he2⟩ := shape_nat (tensV_shape vb)
    have l2 := hc.2.1
    rw [e2] at l2
    match ns, l2, e2, hn2, hq2, he2 with
    | [k], _, e2, hn2, hq2, he2 =>
    simp only [prodN, Nat.mul_one, List.map_cons, List.map_nil] at hq2 he2 e2
    have hk := hn2 k (by simp)
    have la := tensV_len va
    rw [he] at la
    have lb := tensV_len vb
    rw [he2] at lb
    rw [e1, e2] at hr hd
    simp only [List.getD_cons_zero, List.getD_cons_succ] at hr hd
    unfold seenD at hr hd
    by_cases hsv : shapeV [(k : Int), (w : Int)] = .nil
    case neg => rw [ifF (isNil_false hsv)] at hr; exact absurd hr hsv
    rw [ifT (nilT hsv)] at hd
    obtain ⟨k', w', e3, _, _, hkw, he3⟩ := shape_nat_two hsv rfl
    simp only [List.cons.injEq, Int.ofNat_inj, and_true] at e3
    subst hd
    rw [he3, ← e3.1, ← e3.2] at hi
    rw [if_neg (by decide)]
    first | rw [if_pos rfl] | rw [if_pos True.intro]
    have hkw' : k * w ≤ 256 * 256 := Nat.mul_le_mul hk.2 hw.2
    have hmw' : m * w ≤ 256 * 256 := Nat.mul_le_mul hm.2 hw.2
    have hi' : i < k * w := by omega
    have h1 : i / w < k := Nat.div_lt_of_lt_mul (by rw [Nat.mul_comm]; exact hi')
    have hq := ga_idx hm.1 hw.1 (b.2.getD (i / w) 0) i
    have hcc := cut_in (x := b.2.getD (i / w) 0) (lo := 0) (hi := (m : Int) - 1) (by omega)
    have e5 : wi64 ((([(m : Int), (w : Int)].length : Nat) : Int) - 1) = 1 := rfl
    simp only [e1, e5, List.getD_cons_zero, List.getD_cons_succ, Int.toNat_natCast, show Int.toNat 1 = 1 from rfl]
    rw [wi64_tdiv i w (show i ≤ 1099511627776 by omega), tmod_nat, wi64_in (n := (m : Int) - 1) (by omega) (by omega)]
    refine cT (by simp) (cT (by decide) (cT (by simp) (cT (by simp) (cF (by decide) (cF (by decide) (cF (by decide) (cT (by simp) (cT (by omega) ?_))))))))
    refine bnd _ (soft_reads_1_spec N b (by omega)) ?_
    refine cT (by simp) (cT (by omega) ?_)
    have ec : imax 0 (imin (b.2.getD (i / w) 0) ((m : Int) - 1)) = cut (b.2.getD (i / w) 0) 0 ((m : Int) - 1) := by
      unfold imax imin cut
      repeat' split
      all_goals omega
    dsimp only
    rw [ec]
    unfold gaC
    obtain ⟨C, hC⟩ : ∃ C : Nat, cut (b.2.getD (i / w) 0) 0 ((m : Int) - 1) = (C : Int) := ⟨(cut (b.2.getD (i / w) 0) 0 ((m : Int) - 1)).toNat, by omega⟩
    rw [hC] at hq ⊢
    rw [Int.toNat_natCast] at hq ⊢
    have e4 : wi64 (wi64 ((C : Int) * w) + ((i % w : Nat) : Int)) = ((C * w + i % w : Nat) : Int) := wi64_row (by omega)
    rw [e4]
    exact bnd _ (soft_reads_1_spec N a (by omega)) rfl
  all_goals
    rw [softK, if_neg (by decide)] at hl
    match ins, hl with
    | [a], _ =>
    have va := firstBadT_one hv
    rw [if_neg (by decide), if_neg (by decide)] at hr hd
    simp only [List.map_cons, List.map_nil, List.getD_cons_zero] at hr hd ⊢
    by_cases hc : (a.1.1.length : Int) < 1
    · rw [if_pos hc] at hr; cases hr
    rw [if_neg hc] at hd
    obtain ⟨pre, n, es, hn, hp1, hq, he, _, hep⟩ := shape_nat_last (tensV_shape va) (by omega)
    have la := tensV_len va
    rw [he] at la
    have l4 := (shapeV_nil.1 (tensV_shape va)).1
    have eg : a.1.1.getD (a.1.1.length - 1) 0 = (n : Int) := by rw [es]; exact getD_last _ _ _
    have e : wi64 ((a.1.1.length : Int) - 1) = ((a.1.1.length - 1 : Nat) : Int) := by rw [wi64_in (by omega) (by omega)]; omega
    subst hd
    have et : a.1.1.take (a.1.1.length - 1) = pre.map Nat.cast := by rw [es]; exact take_last _ _
    simp only at hi
    rw [et, hep] at hi
    have h0 := loop_sa_0 (a := a) (n := n) (P := prodN pre) N hn (by omega) hq (i := i) (by omega) N 0 (by omega) (by omega)
    have h1 := loop_sa_1 (a := a) (n := n) (P := prodN pre) N hn (by omega) hq (tensV_in va) (i := i) (by omega) N 0 (by omega) (by omega)
    rw [show ((0 : Nat) : Int) = 0 from rfl] at h1
    simp only [am, show ((0 : Nat) : Int) = 0 from rfl] at h0
    rw [sumN] at h1
    rw [if_neg (by decide), if_neg (by decide)]
    simp only [e, eg, Int.toNat_natCast]
    refine cT (by simp) (cT (Int.natCast_nonneg _) (cT (by omega) (cT (by simp) ?_)))
    first
    | (rw [if_pos True.intro]; exact cF (by decide) (cT (by first | rfl | exact True.intro) (bnd _ h0 rfl)))
    | (rw [if_pos rfl]; exact cF (by decide) (cT (by first | rfl | exact True.intro) (bnd _ h0 rfl)))
    | (rw [if_neg (by decide), if_pos rfl]; exact cF (by decide) (cF (by decide) (cT (by first | rfl | exact True.intro) (bnd _ h1 (bnd _ (tens_Wide_spec N _) rfl)))))
    | (rw [if_neg (by decide), if_pos True.intro]; exact cF (by decide) (cF (by decide) (cT (by first | rfl | exact True.intro) (bnd _ h1 (bnd _ (tens_Wide_spec N _) rfl)))))

/-! tensors -/

def softApp (op : Int) (ins : List T) : T × Er :=
  if firstBadT ins ≠ .nil then ((noD, []), firstBadT ins)
  else if (softRes op (ins.map Prod.fst)).2 ≠ .nil then ((noD, []), (softRes op (ins.map Prod.fst)).2)
  else (((softRes op (ins.map Prod.fst)).1, (List.range (elems (softRes op (ins.map Prod.fst)).1.1).toNat).map (elAll op [] ins (softRes op (ins.map Prod.fst)).1)), .nil)

def softElm (op : Int) (i : Int) (ins : List T) : Int :=
  if firstBadT ins ≠ .nil then 0
  else if (softRes op (ins.map Prod.fst)).2 ≠ .nil then 0
  else if 0 ≤ i ∧ i < elems (softRes op (ins.map Prod.fst)).1.1 then elAll op [] ins (softRes op (ins.map Prod.fst)).1 i.toNat else 0

theorem loop_soft_do {N : Nat} (hN : 20000 ≤ N) (op : Int) (ins : List T) (hi : ins.length ≤ 1000) (t : List Int × (Bool × (List Int × Unit))) (ds : List D) (sh : List Int) (w : Bool) (sz : Nat) (hsz : sz ≤ 1000000) (f : Nat → Int)
    (hf : ∀ i, i < sz → F_soft_At N op i ds ins = some (f i, ())) : ∀ (cnt i : Nat), i ≤ sz → sz < cnt + i →
    g_soft_do_0 N cnt op ins t ds (boxT sh w ((List.range i).map f)) sz i = some (t, (boxT sh w ((List.range sz).map f), ()))
  | 0, i, h, h' => by omega
  | cnt + 1, i, h, h' => by
    rw [g_soft_do_0]
    by_cases hi' : i < sz
    · have e : List.take (List.length ((List.range i).map f)) ((List.range i).map f) ++ [f i] = (List.range (i + 1)).map f := by
        rw [List.take_length, List.range_succ, List.map_append]
        rfl
      have hm : List.take (List.length ins) ins = ins := List.take_length
      refine cT (by omega) (bnd _ (soft_reads_spec hN ins hi) ?_)
      refine cT (by simp) ?_
      dsimp only
      rw [hm]
      refine bnd _ (hf i hi') ?_
      refine cT (by omega) (cT (by simp [most]; omega) ?_)
      (repeat first | refine cT rfl ?_ | refine cT True.intro ?_)
      dsimp only
      rw [e]
      refine cT (by simp) ?_
      rw [wi64_succ (by omega)]
      exact loop_soft_do hN op ins hi t ds sh w sz hsz f hf cnt (i + 1) hi' (by omega)
    · have : i = sz := by omega
      subst this
      refine cF (by omega) ?_
      (repeat first | refine cT rfl ?_ | refine cT True.intro ?_)
      rfl

theorem soft_do_spec {N : Nat} (hN : 20000 ≤ N) {op : Int} (hs : op = 16 ∨ op = 17 ∨ op = 19 ∨ op = 20) (ins : List T) (hi : ins.length ≤ 1000) : F_soft_do N op ins = some (boxT (softApp op ins).1.1.1 (softApp op ins).1.1.2 (softApp op ins).1.2, ((softApp op ins).2, ())) := by
  unfold F_soft_do softApp
  by_cases hv : firstBadT ins = .nil
  case neg =>
    rw [if_pos hv]
    refine bnd _ (soft_result_bad hN op ins hi hv) (bT (by simp [isNil_false hv]) rfl)
  rw [if_neg (fun h => h hv)]
  refine bnd _ (soft_result_ok hN op ins hi hv) ?_
  by_cases hr : (softRes op (ins.map Prod.fst)).2 = .nil
  case neg =>
    rw [if_pos hr]
    exact bT (by simp [isNil_false hr]) rfl
  rw [if_neg (fun h => h hr)]
  have hb := elems_bound (softRes op (ins.map Prod.fst)).1.1
  refine bF (by simp [hr, Er.isNil]) (bnd _ (shape_Elems_spec hN _) ?_)
  have h1 := loop_soft_do hN op ins hi ([], (false, ([], ()))) (ins.map Prod.fst) (softRes op (ins.map Prod.fst)).1.1 (softRes op (ins.map Prod.fst)).1.2 (elems (softRes op (ins.map Prod.fst)).1.1).toNat (by omega) (elAll op [] ins (softRes op (ins.map Prod.fst)).1)
    (fun i h => soft_At_spec hN hs [] ins hv hr (by omega)) N 0 (by omega) (by omega)
  rw [show ((0 : Nat) : Int) = 0 from rfl, show (((elems (softRes op (ins.map Prod.fst)).1.1).toNat : Nat) : Int) = elems (softRes op (ins.map Prod.fst)).1.1 by omega] at h1
  refine bnd _ h1 ?_
  (repeat first | refine cT rfl ?_ | refine cT True.intro ?_)
  rfl

theorem soft_Cell_spec {N : Nat} (hN : 20000 ≤ N) (op i : Int) (ins : List T) (hi : ins.length ≤ 1000) : F_soft_Cell N op i ins = some (softElm op i ins, ()) := by
  unfold F_soft_Cell softElm
  by_cases hv : firstBadT ins = .nil
  case neg =>
    rw [if_pos hv]
    refine bnd _ (soft_result_bad hN op ins hi hv) (bT (by simp [isNil_false hv]) rfl)
  rw [if_neg (fun h => h hv)]
  refine bnd _ (soft_result_ok hN op ins hi hv) ?_
  by_cases hr : (softRes op (ins.map Prod.fst)).2 = .nil
  case neg =>
    rw [if_pos hr]
    exact bT (by simp [isNil_false hr]) rfl
  rw [if_neg (fun h => h hr)]
  have hs : op = 16 ∨ op = 17 ∨ op = 19 ∨ op = 20 := by
    apply Decidable.byContradiction
    intro h
    unfold softRes at hr
    rw [if_pos h] at hr
    cases hr
  refine bF (by simp [hr, Er.isNil]) ?_
  by_cases h0 : 0 ≤ i
  case neg => rw [if_neg (fun h => h0 h.1)]; exact cT (by omega) rfl
  refine cF (by omega) (bnd _ (shape_Elems_spec hN _) ?_)
  by_cases h1 : i < elems (softRes op (ins.map Prod.fst)).1.1
  case neg => rw [if_neg (fun h => h1 h.2)]; exact cT (by dsimp only; omega) rfl
  rw [if_pos ⟨h0, h1⟩]
  refine cF (by dsimp only; omega) (bnd _ (soft_reads_spec hN ins hi) (cT (by simp) ?_))
  have hm : List.take (List.length ins) ins = ins := List.take_length
  dsimp only
  rw [hm]
  have := soft_At_spec hN hs [] ins hv hr (i := i.toNat) (by omega)
  rw [show ((i.toNat : Nat) : Int) = i by omega] at this
  exact bnd _ this rfl

theorem soft_Softmax_spec {N : Nat} (hN : 20000 ≤ N) (a b : T) : F_soft_Softmax N a b = some (boxT (softApp 16 [a, b]).1.1.1 (softApp 16 [a, b]).1.1.2 (softApp 16 [a, b]).1.2, ((softApp 16 [a, b]).2, ())) := by
  unfold F_soft_Softmax
  (repeat first | refine cT (Nat.le_of_eq (Nat.zero_add _)) ?_ | refine cT rfl ?_ | refine cT True.intro ?_)
  refine bnd _ (soft_do_spec hN (.inl rfl) [a, b] (by simp)) ?_
  (repeat first | refine cT (Nat.le_of_eq (Nat.zero_add _)) ?_ | refine cT rfl ?_ | refine cT True.intro ?_)
  rfl

theorem soft_Gather_spec {N : Nat} (hN : 20000 ≤ N) (a b : T) : F_soft_Gather N a b = some (boxT (softApp 17 [a, b]).1.1.1 (softApp 17 [a, b]).1.1.2 (softApp 17 [a, b]).1.2, ((softApp 17 [a, b]).2, ())) := by
  unfold F_soft_Gather
  (repeat first | refine cT (Nat.le_of_eq (Nat.zero_add _)) ?_ | refine cT rfl ?_ | refine cT True.intro ?_)
  refine bnd _ (soft_do_spec hN (.inr (.inl rfl)) [a, b] (by simp)) ?_
  (repeat first | refine cT (Nat.le_of_eq (Nat.zero_add _)) ?_ | refine cT rfl ?_ | refine cT True.intro ?_)
  rfl

theorem soft_ArgMax_spec {N : Nat} (hN : 20000 ≤ N) (a : T) : F_soft_ArgMax N a = some (boxT (softApp 19 [a]).1.1.1 (softApp 19 [a]).1.1.2 (softApp 19 [a]).1.2, ((softApp 19 [a]).2, ())) := by
  unfold F_soft_ArgMax
  (repeat first | refine cT (Nat.le_of_eq (Nat.zero_add _)) ?_ | refine cT rfl ?_ | refine cT True.intro ?_)
  refine bnd _ (soft_do_spec hN (.inr (.inr (.inl rfl))) [a] (by simp)) ?_
  (repeat first | refine cT (Nat.le_of_eq (Nat.zero_add _)) ?_ | refine cT rfl ?_ | refine cT True.intro ?_)
  rfl

theorem soft_Sum_spec {N : Nat} (hN : 20000 ≤ N) (a : T) : F_soft_Sum N a = some (boxT (softApp 20 [a]).1.1.1 (softApp 20 [a]).1.1.2 (softApp 20 [a]).1.2, ((softApp 20 [a]).2, ())) := by
  unfold F_soft_Sum
  (repeat first | refine cT (Nat.le_of_eq (Nat.zero_add _)) ?_ | refine cT rfl ?_ | refine cT True.intro ?_)
  refine bnd _ (soft_do_spec hN (.inr (.inr (.inr rfl))) [a] (by simp)) ?_
  (repeat first | refine cT (Nat.le_of_eq (Nat.zero_add _)) ?_ | refine cT rfl ?_ | refine cT True.intro ?_)
  rfl

/-! rows, in plain words -/

theorem mx_congr {f g : Nat → Int} : ∀ {k : Nat}, (∀ i, i ≤ k → f i = g i) → mx f k = mx g k
  | 0, h => h 0 (Nat.le_refl _)
  | k + 1, h => by
    simp only [mx]
    rw [mx_congr (fun i hi => h i (by omega)), h (k + 1) (Nat.le_refl _)]

theorem mx_shift {f : Nat → Int} {c : Int} : ∀ k : Nat, mx (fun i => f i + c) k = mx f k + c
  | 0 => rfl
  | k + 1 => by
    simp only [mx]
    rw [mx_shift k]
    omega

theorem mx_at {f : Nat → Int} : ∀ k : Nat, ∃ i, i ≤ k ∧ mx f k = f i
  | 0 => ⟨0, Nat.le_refl _, rfl⟩
  | k + 1 => by
    obtain ⟨i, hi, e⟩ := mx_at (f := f) k
    simp only [mx]
    by_cases h : mx f k ≤ f (k + 1)
    · exact ⟨k + 1, Nat.le_refl _, by omega⟩
    · exact ⟨i, by omega, by omega⟩

/-- the first of the greatest -/
theorem am_spec {f : Nat → Int} : ∀ {k : Nat}, 1 ≤ k → (∀ i, i < k → f i ≤ f (am f k)) ∧ (∀ i, i < am f k → f i < f (am f k))
  | 0, h => by omega
  | 1, _ => by
    refine ⟨fun i hi => ?_, fun i hi => ?_⟩
    · have : i = 0 := by omega
      subst this
      simp [am]
    · simp [am] at hi
  | k + 2, _ => by
    obtain ⟨h1, h2⟩ := am_spec (f := f) (k := k + 1) (by omega)
    have hl := am_lt f (k + 1) (by omega)
    rw [am]
    by_cases h : f (am f (k + 1)) < f (k + 1)
    · rw [if_pos h]
      refine ⟨fun i hi => ?_, fun i hi => ?_⟩
      · by_cases e : i = k + 1
        · rw [e]; omega
        · have := h1 i (by omega); omega
      · have := h1 i (by omega); omega
    · rw [if_neg h]
      refine ⟨fun i hi => ?_, h2⟩
      by_cases e : i = k + 1
      · rw [e]; omega
      · exact h1 i (by omega)

theorem am_mx {f : Nat → Int} {k : Nat} (hk : 1 ≤ k) : f (am f k) = mx f (k - 1) := by
  obtain ⟨h1, _⟩ := am_spec (f := f) hk
  have hl := am_lt f k hk
  have h3 := mx_ge (f := f) (k := k - 1) (i := am f k) (by omega)
  obtain ⟨i, hi, e⟩ := mx_at (f := f) (k - 1)
  have := h1 i (by omega)
  omega

/-! one row alone -/

theorem smM_one {A : List Int} {n i : Nat} (hi : i < n) : smM A n i = mx (fun j => A.getD j 0) (n - 1) := by
  unfold smM
  have : i / n = 0 := Nat.div_eq_of_lt hi
  rw [this, Nat.zero_mul]
  apply mx_congr
  intro j _
  rw [Nat.zero_add]

def rowW (A T : List Int) (n j : Nat) : Int := max 0 (T.getD (mx (fun j => A.getD j 0) (n - 1) - A.getD j 0).toNat 0)

def rowS (A T : List Int) (n : Nat) : Int := sumN (rowW A T n) n

def rowC (A T : List Int) (n i : Nat) : Int := if rowS A T n = 0 then -128 else (255 * rowW A T n i + rowS A T n / 2) / rowS A T n - 128

theorem smC_one {A T : List Int} {n i : Nat} (hi : i < n) : smC A T n i = rowC A T n i := by
  have h1 := smM_one (A := A) hi
  have e0 : i / n = 0 := Nat.div_eq_of_lt hi
  have hw : ∀ j, smW A T n i j = rowW A T n j := by
    intro j
    unfold smW rowW
    rw [h1]
  have hs : smS A T n i = rowS A T n := by
    unfold smS rowS
    rw [e0, Nat.zero_mul]
    apply sumN_congr
    intro j _
    rw [Nat.zero_add]
    exact hw j
  unfold smC rowC
  rw [hs, hw]

theorem rowW_shift {A B T : List Int} {n : Nat} {c : Int} (hn : 1 ≤ n) (h : ∀ j, j < n → B.getD j 0 = A.getD j 0 + c) {j : Nat} (hj : j < n) : rowW B T n j = rowW A T n j := by
  unfold rowW
  have : mx (fun j => B.getD j 0) (n - 1) = mx (fun j => A.getD j 0) (n - 1) + c := by
    rw [← mx_shift]
    exact mx_congr (fun i hi => h i (by omega))
  rw [this, h j hj]
  congr 3
  omega

theorem rowC_shift {A B T : List Int} {n : Nat} {c : Int} (hn : 1 ≤ n) (h : ∀ j, j < n → B.getD j 0 = A.getD j 0 + c) {i : Nat} (hi : i < n) : rowC B T n i = rowC A T n i := by
  have hs : rowS B T n = rowS A T n := sumN_congr (fun j hj => rowW_shift hn h hj)
  unfold rowC
  rw [hs, rowW_shift hn h hi]

/-- a table that is at most what it begins with -/
structure TableOK (T : List Int) : Prop where
  first : T.getD 0 0 = 1048576
  all : ∀ p, 0 ≤ T.getD p 0 ∧ T.getD p 0 ≤ 1048576

theorem rowW_in {A T : List Int} (hT : TableOK T) (n j : Nat) : 0 ≤ rowW A T n j ∧ rowW A T n j ≤ 1048576 := by
  unfold rowW
  have := hT.all (mx (fun j => A.getD j 0) (n - 1) - A.getD j 0).toNat
  omega

theorem rowW_top {A T : List Int} (hT : TableOK T) {n : Nat} (hn : 1 ≤ n) : rowW A T n (am (fun j => A.getD j 0) n) = 1048576 := by
  unfold rowW
  have := am_mx (f := fun j => A.getD j 0) hn
  (try simp only at this)
  rw [this, show (mx (fun j => A.getD j 0) (n - 1) - mx (fun j => A.getD j 0) (n - 1)).toNat = 0 by omega, hT.first]
  decide

theorem sumN_ge {f : Nat → Int} (h : ∀ i, 0 ≤ f i) : ∀ {k i : Nat}, i < k → f i ≤ sumN f k
  | 0, _, hi => by omega
  | k + 1, i, hi => by
    simp only [sumN]
    have hs := sumN_nonneg h k
    by_cases e : i = k
    · subst e; omega
    · have := sumN_ge h (k := k) (i := i) (by omega)
      have := h k
      omega

theorem rowS_in {A T : List Int} (hT : TableOK T) {n : Nat} (hn : 1 ≤ n) : 1048576 ≤ rowS A T n ∧ rowS A T n ≤ 1048576 * n := by
  constructor
  · have := sumN_ge (f := rowW A T n) (fun i => (rowW_in hT n i).1) (am_lt (fun j => A.getD j 0) n hn)
    rw [rowW_top hT hn] at this
    exact this
  · exact (sumN_bound (rowW A T n) 1048576 (fun i => by have := rowW_in (A := A) hT n i; omega) n).2

theorem rowC_top {A T : List Int} (hT : TableOK T) {n : Nat} (hn : 1 ≤ n) (i : Nat) : rowC A T n i ≤ rowC A T n (am (fun j => A.getD j 0) n) := by
  have hs := rowS_in (A := A) hT hn
  have h1 := rowW_in (A := A) hT n i
  unfold rowC
  rw [if_neg (by omega), if_neg (by omega), rowW_top hT hn]
  have := Int.ediv_le_ediv (c := rowS A T n) (by omega) (show 255 * rowW A T n i + rowS A T n / 2 ≤ 255 * 1048576 + rowS A T n / 2 by omega)
  omega

/-- the weights of a row are 255 in all, but for rounding -/
theorem rowC_sum {A T : List Int} (hT : TableOK T) {n : Nat} (hn : 1 ≤ n) : 255 - (n : Int) ≤ sumN (fun i => rowC A T n i + 128) n ∧ sumN (fun i => rowC A T n i + 128) n ≤ 255 + n := by
  have hs := rowS_in (A := A) hT hn
  have key : ∀ k : Nat, rowS A T n * sumN (fun i => rowC A T n i + 128) k ≤ 255 * sumN (rowW A T n) k + (rowS A T n / 2) * k ∧ 255 * sumN (rowW A T n) k + (rowS A T n / 2 - rowS A T n) * k ≤ rowS A T n * sumN (fun i => rowC A T n i + 128) k := by
    intro k
    induction k with
    | zero => simp [sumN]
    | succ k ih =>
      simp only [sumN]
      have e : rowC A T n k + 128 = (255 * rowW A T n k + rowS A T n / 2) / rowS A T n := by
        unfold rowC
        rw [if_neg (by omega)]
        omega
      rw [e]
      have d1 := Int.ediv_mul_le (255 * rowW A T n k + rowS A T n / 2) (show rowS A T n ≠ 0 by omega)
      have d2 := Int.lt_ediv_add_one_mul_self (255 * rowW A T n k + rowS A T n / 2) (show 0 < rowS A T n by omega)
      generalize (255 * rowW A T n k + rowS A T n / 2) / rowS A T n = q at *
      generalize rowS A T n / 2 = h at *
      have e1 : ((k + 1 : Nat) : Int) = (k : Int) + 1 := by omega
      rw [e1, Int.mul_add, Int.mul_add, Int.mul_add, Int.mul_add, Int.mul_one, Int.mul_one]
      rw [Int.add_mul, Int.one_mul] at d2
      have c1 : rowS A T n * q = q * rowS A T n := Int.mul_comm _ _
      rw [c1]
      omega
  obtain ⟨k1, k2⟩ := key n
  have hS : sumN (rowW A T n) n = rowS A T n := rfl
  rw [hS] at k1 k2
  generalize hQ : sumN (fun i => rowC A T n i + 128) n = Q at *
  generalize rowS A T n = s at *
  have hn0 : (0 : Int) ≤ n := by omega
  have b1 : (s / 2) * n ≤ s * n := Int.mul_le_mul_of_nonneg_right (by omega) hn0
  have b2 : -(s * n) ≤ (s / 2 - s) * n := by
    have : (-s) * n ≤ (s / 2 - s) * n := Int.mul_le_mul_of_nonneg_right (by omega) hn0
    rw [Int.neg_mul] at this
    exact this
  constructor
  · have h1 : s * (255 - n) ≤ s * Q := by
      rw [Int.mul_sub]
      have : s * 255 = 255 * s := Int.mul_comm _ _
      omega
    exact Int.le_of_mul_le_mul_left h1 (by omega)
  · have h1 : s * Q ≤ s * (255 + n) := by
      rw [Int.mul_add]
      have : s * 255 = 255 * s := Int.mul_comm _ _
      omega
    exact Int.le_of_mul_le_mul_left h1 (by omega)

end Go.Proofs.YtohkmbpdjigjdaaDoor.Lg
