/-
  What the program's functions come to, in plain words.
-/
import Derived.Test.YtnblnlanicpagaaDoorLgOpAQ
namespace Go.Proofs.YtnblnlanicpagaaDoor.Lg
open Go Go.Eng Go.Proofs

/-! the program's tables, choices, sums -/

theorem loop_soft_Result {N : Nat} (hN : 20000 ≤ N) (op : Int) (ins : List D) (t : List Int × (Bool × Unit)) (l : List D) (hl : l.length < 1000000) : ∀ (n i : Nat), i ≤ l.length → l.length < n + i →
    g_soft_Result_0 N n op ins t l l.length i = if firstBad (l.drop i) = .nil then some (.inl (op, (ins, (t, ())))) else some (.inr (([], (false, ())), (firstBad (l.drop i), ())))
  | 0, i, h, h' => by omega
  | n + 1, i, h, h' => by
    rw [g_soft_Result_0]
    by_cases hi : i < l.length
    · refine cT (by omega) (cT (by omega) (cT (by simpa using hi) (bnd _ (shape_Valid_spec hN _) ?_)))
      rw [drop_cons hi ([], false), Int.toNat_natCast, wi64_succ (by omega), firstBad]
      rcases shapeV_cases (l.getD i ([], false)).1 with h1 | ⟨h1, h2⟩
      · rw [ifT (nilT h1)]
        refine bF (by dsimp only; rw [nilT h1]; rfl) (cT (by first | rfl | exact True.intro) ?_)
        exact loop_soft_Result hN op ins t l hl n (i + 1) hi (by omega)
      · have h3 : ¬ shapeV (l.getD i ([], false)).1 = .nil := fun e => by rw [e] at h1; cases h1
        rw [ifF h1, if_neg h3]
        exact bT (by dsimp only; rw [h1]; rfl) rfl
    · refine cF (by omega) ?_
      rw [List.drop_eq_nil_of_le (by omega)]
      exact cT (by first | rfl | exact True.intro) rfl

/-- what it would look like; may it? -/
def softLk (op : Int) (ins : List D) : D × Bool :=
  if op = 16 then (ins.getD 0 noD, decide (0 < ((ins.getD 0 noD).1.length : Int) ∧ (ins.getD 0 noD).2 = false ∧ ins.getD 1 noD = ([256], true)))
  else if op = 17 then
    if (ins.getD 0 noD).1.length ≠ 2 ∨ (ins.getD 1 noD).1.length ≠ 1 ∨ (ins.getD 1 noD).2 = false then (noD, false) else (([(ins.getD 1 noD).1.getD 0 0, (ins.getD 0 noD).1.getD 1 0], (ins.getD 0 noD).2), true)
  else if (ins.getD 0 noD).1.length = 0 then (noD, false)
  else (((ins.getD 0 noD).1.take ((ins.getD 0 noD).1.length - 1), true), true)

theorem soft_looks_spec {N : Nat} (hN : 20000 ≤ N) {op : Int} {ins : List D} (hop : op = 16 ∨ op = 17 ∨ op = 19 ∨ op = 20) (hl : (ins.length : Int) = softK op) (hb : firstBad ins = .nil) :
    F_soft_looks N op ins = some (boxD (softLk op ins).1, ((softLk op ins).2, ())) := by
  unfold F_soft_looks softLk
  rcases hop with rfl | rfl | rfl | rfl
  · simp only [softK, true_or, if_true] at hl
    match ins, hl, hb with
    | [a, b], _, hb =>
    obtain ⟨va, vb⟩ := firstBad_two hb
    have la := (shapeV_nil.1 va).1
    have lb := (shapeV_nil.1 vb).1
    rw [if_pos rfl]
    simp only [List.getD_cons_zero, List.getD_cons_succ]
    refine cT (by simp) (cT (by first | rfl | exact True.intro) (bnd _ (shape_Clone_spec N a (by omega)) ?_))
    by_cases h1 : (0 : Int) < (a.1.length : Int)
    case neg =>
      rw [decide_eq_false (p := _ ∧ _) (fun h => h1 h.1)]
      exact cF h1 (cT (by first | rfl | exact True.intro) rfl)
    refine cT h1 ?_
    cases h2 : a.2 with
    | true =>
      rw [decide_eq_false (p := _ ∧ _) (fun h => by cases h.2.1)]
      refine bF rfl (cT (by first | rfl | exact True.intro) ?_)
      rw [← h2]
    | false =>
      refine bT rfl (cT (by simp) (bnd _ (shape_Same_spec b ([256], true) (by omega) (by omega)) (cT (by first | rfl | exact True.intro) ?_)))
      rw [show decide ((0 : Int) < (a.1.length : Int) ∧ false = false ∧ b = ([256], true)) = decide (b = ([256], true)) from decide_eq_decide.2 ⟨fun h => h.2.2, fun h => ⟨h1, rfl, h⟩⟩]
      rw [← h2]
  · simp only [softK, or_true, if_true] at hl
    match ins, hl, hb with
    | [a, b], _, hb =>
    rw [if_neg (by decide), if_pos rfl]
    simp only [List.getD_cons_zero, List.getD_cons_succ]
    refine cT (by simp) (cF (by decide) (cT (by first | rfl | exact True.intro) (cT (by simp) ?_)))
    by_cases h1 : a.1.length = 2
    case neg => rw [if_pos (.inl h1)]; exact cT (by omega) rfl
    refine cF (by omega) ?_
    by_cases h2 : b.1.length = 1
    case neg => rw [if_pos (.inr (.inl h2))]; exact cT (by omega) rfl
    refine cF (by omega) ?_
    cases h3 : b.2 with
    | false => rw [if_pos (.inr (.inr rfl))]; exact bT rfl rfl
    | true =>
      rw [if_neg (by rintro (h | h | h); exact h h1; exact h h2; cases h)]
      exact bF rfl (cT (by omega) (cT (by omega) rfl))
  all_goals
    rw [softK, if_neg (by decide)] at hl
    match ins, hl, hb with
    | [a], _, hb =>
    have va := firstBad_one hb
    have la := (shapeV_nil.1 va).1
    rw [if_neg (by decide), if_neg (by decide)]
    simp only [List.getD_cons_zero]
    refine cT (by simp) (cF (by decide) (cF (by decide) ?_))
    by_cases h1 : a.1.length = 0
    · rw [if_pos h1]; exact cT (by omega) rfl
    rw [if_neg h1]
    refine cF (by omega) ?_
    have e : wi64 ((a.1.length : Int) - 1) = ((a.1.length - 1 : Nat) : Int) := by rw [wi64_in (by omega) (by omega)]; omega
    rw [e]
    refine cT (Int.natCast_nonneg _) (cT (by rw [Int.toNat_natCast]; omega) ?_)
    rw [Int.toNat_natCast, Nat.sub_zero]
    exact bnd _ (slices_Clone_spec N _ (by simp; omega)) (cT (by first | rfl | exact True.intro) rfl)

theorem softRes_lk {op : Int} {ins : List D} (hop : op = 16 ∨ op = 17 ∨ op = 19 ∨ op = 20) (hl : (ins.length : Int) = softK op) (hb : firstBad ins = .nil) :
    softRes op ins = if (softLk op ins).2 = false then (noD, .s ErrShape) else seenD (softLk op ins).1 := by
  unfold softRes softLk
  rw [if_neg (fun h => h hop), if_neg (fun h => h hl), ifNT (nilT hb)]
  rcases hop with rfl | rfl | rfl | rfl
  · simp only [softK, true_or, if_true] at hl
    match ins, hl, hb with
    | [a, b], _, hb =>
    obtain ⟨va, vb⟩ := firstBad_two hb
    rw [if_pos rfl, if_pos rfl]
    simp only [List.getD_cons_zero, List.getD_cons_succ]
    by_cases hc : a.2 = true ∨ (a.1.length : Int) < 1 ∨ b ≠ ([256], true)
    · rw [if_pos hc, decide_eq_false (p := _ ∧ _), if_pos rfl]
      rintro ⟨h1, h2, h3⟩
      rcases hc with h | h | h
      · rw [h] at h2; cases h2
      · omega
      · exact h h3
    · rw [if_neg hc]
      simp only [not_or, ne_eq, Decidable.not_not, Bool.not_eq_true] at hc
      rw [decide_eq_true (p := _ ∧ _) ⟨by omega, hc.1, hc.2.2⟩, if_neg (by decide)]
      unfold seenD
      rw [ifT (nilT va)]
  · simp only [Int.reduceEq, if_false, if_true]
    by_cases hc : (ins.getD 0 noD).1.length ≠ 2 ∨ (ins.getD 1 noD).1.length ≠ 1 ∨ (ins.getD 1 noD).2 = false
    · simp only [if_pos hc]; rfl
    · simp only [if_neg hc]; rfl
  all_goals
    rw [softK, if_neg (by decide)] at hl
    match ins, hl, hb with
    | [a], _, hb =>
    have va := firstBad_one hb
    simp only [Int.reduceEq, if_false]
    simp only [List.getD_cons_zero]
    by_cases h1 : a.1.length = 0
    · rw [if_pos (show (a.1.length : Int) < 1 by omega)]
      simp only [if_pos h1]
      rfl
    · rw [if_neg (show ¬ (a.1.length : Int) < 1 by omega)]
      simp only [if_neg h1]
      obtain ⟨pre, n, es, hn, hp, hq, he, hv, _⟩ := shape_nat_last va (by omega)
      have hv' : shapeV (a.1.take (a.1.length - 1)) = .nil := by rw [es, take_last]; exact hv
      have e : seenD ((a.1.take (a.1.length - 1), true)) = (((a.1.take (a.1.length - 1)), true), .nil) := by unfold seenD; rw [ifT (nilT hv')]
      exact e.symm

theorem soft_Result_spec {N : Nat} (hN : 20000 ≤ N) (op : Int) (ins : List D) (hi : ins.length ≤ 1000) : F_soft_Result N op ins = some ((softRes op ins).1, ((softRes op ins).2, ())) := by
  by_cases hop : op = 16 ∨ op = 17 ∨ op = 19 ∨ op = 20
  case neg =>
    unfold F_soft_Result softRes
    rw [if_pos hop]
    exact cF (by omega) (cF (by omega) (cF (by omega) (cF (by omega) rfl)))
  have h0 := loop_soft_Result hN op ins ([], (false, ())) ins (by omega) N 0 (by omega) (by omega)
  rw [show ((0 : Nat) : Int) = 0 from rfl, List.drop_zero] at h0
  by_cases hl : (ins.length : Int) = softK op
  case neg =>
    unfold F_soft_Result softRes
    rw [if_neg (fun h => h hop), if_pos hl]
    rcases hop with rfl | rfl | rfl | rfl
    all_goals
      (repeat first | refine bT rfl ?_ | refine bF rfl ?_)
      exact cT (by simpa [softK] using hl) rfl
  by_cases hb : firstBad ins = .nil
  case neg =>
    unfold F_soft_Result softRes
    rw [if_neg (fun h => h hop), if_neg (fun h => h hl), ifNF (isNil_false hb)]
    rw [if_neg hb] at h0
    rcases hop with rfl | rfl | rfl | rfl
    all_goals
      (repeat first | refine bT rfl ?_ | refine bF rfl ?_)
      refine cF (by simpa [softK] using hl) (bnd _ h0 ?_)
      dsimp only [Sum.elim_inr]
      (repeat first | refine cT (Nat.le_of_eq (Nat.zero_add _)) ?_ | refine cT rfl ?_ | refine cT True.intro ?_)
      rfl
  have lk := soft_looks_spec hN hop hl hb
  rw [softRes_lk hop hl hb]
  unfold F_soft_Result
  rw [if_pos hb] at h0
  have tail : ∀ (f : Option ((List Int × Bool) × (Er × Unit))), f = (cond (Bool.not (softLk op ins).2) (some ((([] : List Int), false), ((Er.s ErrShape), ())))
      (cond (decide (((0 : Nat) + (List.length (softLk op ins).1.1)) ≤ (List.length (softLk op ins).1.1)))
            (Option.bind (F_shape_Valid N ((List.take (List.length (softLk op ins).1.1) (softLk op ins).1.1), (softLk op ins).1.2)) fun y3 =>
            cond (Bool.not (Er.isNil (y3).1)) (some ((([] : List Int), false), y3))
              (cond (decide (((0 : Nat) + (List.length (softLk op ins).1.1)) ≤ (List.length (softLk op ins).1.1)))
                (some (((List.take (List.length (softLk op ins).1.1) (softLk op ins).1.1), (softLk op ins).1.2), (Er.nil, ()))) none)) none)) →
      f = some ((if (softLk op ins).2 = false then (noD, Er.s ErrShape) else seenD (softLk op ins).1).1, ((if (softLk op ins).2 = false then (noD, Er.s ErrShape) else seenD (softLk op ins).1).2, ())) := by
    intro f hf
    rw [hf]
    cases h2 : (softLk op ins).2 with
    | false => rfl
    | true =>
      rw [if_neg (by decide)]
      refine bF rfl ?_
      (repeat first | refine cT (Nat.le_of_eq (Nat.zero_add _)) ?_ | refine cT rfl ?_ | refine cT True.intro ?_)
      rw [List.take_length]
      refine bnd _ (shape_Valid_spec hN _) ?_
      unfold seenD
      rcases shapeV_cases (softLk op ins).1.1 with h3 | ⟨h3, h4⟩
      · rw [ifT (nilT h3)]
        refine bF (by dsimp only; rw [nilT h3]; rfl) ?_
        (repeat first | refine cT (Nat.le_of_eq (Nat.zero_add _)) ?_ | refine cT rfl ?_ | refine cT True.intro ?_)
        rfl
      · rw [ifF h3]
        exact bT (by dsimp only; rw [h3]; rfl) rfl
  rcases hop with rfl | rfl | rfl | rfl
  all_goals
    (repeat first | refine bT rfl ?_ | refine bF rfl ?_)
    refine cF (by simpa [softK] using hl) (bnd _ h0 ?_)
    dsimp only [Sum.elim_inl]
    exact bnd _ lk (tail _ rfl)

/-! elements -/

section

variable {a b : T} {n P : Nat}

end

/-! tensors -/

def softApp (op : Int) (ins : List T) : T × Er :=
  if firstBadT ins ≠ .nil then ((noD, []), firstBadT ins)
  else if (softRes op (ins.map Prod.fst)).2 ≠ .nil then ((noD, []), (softRes op (ins.map Prod.fst)).2)
  else (((softRes op (ins.map Prod.fst)).1, (List.range (elems (softRes op (ins.map Prod.fst)).1.1).toNat).map (elAll op [] ins (softRes op (ins.map Prod.fst)).1)), .nil)

def softElm (op : Int) (i : Int) (ins : List T) : Int :=
  if firstBadT ins ≠ .nil then 0
  else if (softRes op (ins.map Prod.fst)).2 ≠ .nil then 0
  else if 0 ≤ i ∧ i < elems (softRes op (ins.map Prod.fst)).1.1 then elAll op [] ins (softRes op (ins.map Prod.fst)).1 i.toNat else 0

/-! rows, in plain words -/

theorem mx_congr {f g : Nat → Int} : ∀ {k : Nat}, (∀ i, i ≤ k → f i = g i) → mx f k = mx g k
  | 0, h => h 0 (Nat.le_refl _)
  | k + 1, h => by
    simp only [mx]
    rw [mx_congr (fun i hi => h i (by omega)), h (k + 1) (Nat.le_refl _)]

theorem mx_shift {f : Nat → Int} {c : Int} : ∀ k : Nat, mx (fun i => f i + c) k = mx f k + c
  | 0 => rfl
  | k + 1 => by
    simp only [mx]
    rw [mx_shift k]
    omega

theorem mx_at {f : Nat → Int} : ∀ k : Nat, ∃ i, i ≤ k ∧ mx f k = f i
  | 0 => ⟨0, Nat.le_refl _, rfl⟩
  | k + 1 => by
    obtain ⟨i, hi, e⟩ := mx_at (f := f) k
    simp only [mx]
    by_cases h : mx f k ≤ f (k + 1)
    · exact ⟨k + 1, Nat.le_refl _, by omega⟩
    · exact ⟨i, by omega, by omega⟩

/-- the first of the greatest -/
theorem am_spec {f : Nat → Int} : ∀ {k : Nat}, 1 ≤ k → (∀ i, i < k → f i ≤ f (am f k)) ∧ (∀ i, i < am f k → f i < f (am f k))
  | 0, h => by omega
  | 1, _ => by
    refine ⟨fun i hi => ?_, fun i hi => ?_⟩
    · have : i = 0 := by omega
      subst this
      simp [am]
    · simp [am] at hi
  | k + 2, _ => by
    obtain ⟨h1, h2⟩ := am_spec (f := f) (k := k + 1) (by omega)
    have hl := am_lt f (k + 1) (by omega)
    rw [am]
    by_cases h : f (am f (k + 1)) < f (k + 1)
    · rw [if_pos h]
      refine ⟨fun i hi => ?_, fun i hi => ?_⟩
      · by_cases e : i = k + 1
        · rw [e]; omega
        · have := h1 i (by omega); omega
      · have := h1 i (by omega); omega
    · rw [if_neg h]
      refine ⟨fun i hi => ?_, h2⟩
      by_cases e : i = k + 1
      · rw [e]; omega
      · exact h1 i (by omega)

theorem am_mx {f : Nat → Int} {k : Nat} (hk : 1 ≤ k) : f (am f k) = mx f (k - 1) := by
  obtain ⟨h1, _⟩ := am_spec (f := f) hk
  have hl := am_lt f k hk
  have h3 := mx_ge (f := f) (k := k - 1) (i := am f k) (by omega)
  obtain ⟨i, hi, e⟩ := mx_at (f := f) (k - 1)
  have := h1 i (by omega)
  omega

/-! one row alone -/

theorem smM_one {A : List Int} {n i : Nat} (hi : i < n) : smM A n i = mx (fun j => A.getD j 0) (n - 1) := by
  unfold smM
  have : i / n = 0 := Nat.div_eq_of_lt hi
  rw [this, Nat.zero_mul]
  apply mx_congr
  intro j _
  rw [Nat.zero_add]

def rowW (A T : List Int) (n j : Nat) : Int := max 0 (T.getD (mx (fun j => A.getD j 0) (n - 1) - A.getD j 0).toNat 0)

def rowS (A T : List Int) (n : Nat) : Int := sumN (rowW A T n) n

def rowC (A T : List Int) (n i : Nat) : Int := if rowS A T n = 0 then -128 else (255 * rowW A T n i + rowS A T n / 2) / rowS A T n - 128

theorem smC_one {A T : List Int} {n i : Nat} (hi : i < n) : smC A T n i = rowC A T n i := by
  have h1 := smM_one (A := A) hi
  have e0 : i / n = 0 := Nat.div_eq_of_lt hi
  have hw : ∀ j, smW A T n i j = rowW A T n j := by
    intro j
    unfold smW rowW
    rw [h1]
  have hs : smS A T n i = rowS A T n := by
    unfold smS rowS
    rw [e0, Nat.zero_mul]
    apply sumN_congr
    intro j _
    rw [Nat.zero_add]
    exact hw j
  unfold smC rowC
  rw [hs, hw]

theorem rowW_shift {A B T : List Int} {n : Nat} {c : Int} (hn : 1 ≤ n) (h : ∀ j, j < n → B.getD j 0 = A.getD j 0 + c) {j : Nat} (hj : j < n) : rowW B T n j = rowW A T n j := by
  unfold rowW
  have : mx (fun j => B.getD j 0) (n - 1) = mx (fun j => A.getD j 0) (n - 1) + c := by
    rw [← mx_shift]
    exact mx_congr (fun i hi => h i (by omega))
  rw [this, h j hj]
  congr 3
  omega

theorem rowC_shift {A B T : List Int} {n : Nat} {c : Int} (hn : 1 ≤ n) (h : ∀ j, j < n → B.getD j 0 = A.getD j 0 + c) {i : Nat} (hi : i < n) : rowC B T n i = rowC A T n i := by
  have hs : rowS B T n = rowS A T n := sumN_congr (fun j hj => rowW_shift hn h hj)
  unfold rowC
  rw [hs, rowW_shift hn h hi]

/-- a table that is at most what it begins with -/
structure TableOK (T : List Int) : Prop where
  first : T.getD 0 0 = 1048576
  all : ∀ p, 0 ≤ T.getD p 0 ∧ T.getD p 0 ≤ 1048576

theorem rowW_in {A T : List Int} (hT : TableOK T) (n j : Nat) : 0 ≤ rowW A T n j ∧ rowW A T n j ≤ 1048576 := by
  unfold rowW
  have := hT.all (mx (fun j => A.getD j 0) (n - 1) - A.getD j 0).toNat
  omega

theorem rowW_top {A T : List Int} (hT : TableOK T) {n : Nat} (hn : 1 ≤ n) : rowW A T n (am (fun j => A.getD j 0) n) = 1048576 := by
  unfold rowW
  have := am_mx (f := fun j => A.getD j 0) hn
  (try simp only at this)
  rw [this, show (mx (fun j => A.getD j 0) (n - 1) - mx (fun j => A.getD j 0) (n - 1)).toNat = 0 by omega, hT.first]
  decide

theorem sumN_ge {f : Nat → Int} (h : ∀ i, 0 ≤ f i) : ∀ {k i : Nat}, i < k → f i ≤ sumN f k
  | 0, _, hi => by omega
  | k + 1, i, hi => by
    simp only [sumN]
    have hs := sumN_nonneg h k
    by_cases e : i = k
    · subst e; omega
    · have := sumN_ge h (k := k) (i := i) (by omega)
      have := h k
      omega

theorem rowS_in {A T : List Int} (hT : TableOK T) {n : Nat} (hn : 1 ≤ n) : 1048576 ≤ rowS A T n ∧ rowS A T n ≤ 1048576 * n := by
  constructor
  · have := sumN_ge (f := rowW A T n) (fun i => (rowW_in hT n i).1) (am_lt (fun j => A.getD j 0) n hn)
    rw [rowW_top hT hn] at this
    exact this
  · exact (sumN_bound (rowW A T n) 1048576 (fun i => by have := rowW_in (A := A) hT n i; omega) n).2

theorem rowC_top {A T : List Int} (hT : TableOK T) {n : Nat} (hn : 1 ≤ n) (i : Nat) : rowC A T n i ≤ rowC A T n (am (fun j => A.getD j 0) n) := by
  have hs := rowS_in (A := A) hT hn
  have h1 := rowW_in (A := A) hT n i
  unfold rowC
  rw [if_neg (by omega), if_neg (by omega), rowW_top hT hn]
  have := Int.ediv_le_ediv (c := rowS A T n) (by omega) (show 255 * rowW A T n i + rowS A T n / 2 ≤ 255 * 1048576 + rowS A T n / 2 by omega)
  omega

/-- the weights of a row are 255 in all, but for rounding -/
theorem rowC_sum {A T : List Int} (hT : TableOK T) {n : Nat} (hn : 1 ≤ n) : 255 - (n : Int) ≤ sumN (fun i => rowC A T n i + 128) n ∧ sumN (fun i => rowC A T n i + 128) n ≤ 255 + n := by
  have hs := rowS_in (A := A) hT hn
  have key : ∀ k : Nat, rowS A T n * sumN (fun i => rowC A T n i + 128) k ≤ 255 * sumN (rowW A T n) k + (rowS A T n / 2) * k ∧ 255 * sumN (rowW A T n) k + (rowS A T n / 2 - rowS A T n) * k ≤ rowS A T n * sumN (fun i => rowC A T n i + 128) k := by
    intro k
    induction k with
    | zero => simp [sumN]
    | succ k ih =>
      simp only [sumN]
      have e : rowC A T n k + 128 = (255 * rowW A T n k + rowS A T n / 2) / rowS A T n := by
        unfold rowC
        rw [if_neg (by omega)]
        omega
      rw [e]
      have d1 := Int.ediv_mul_le (255 * rowW A T n k + rowS A T n / 2) (show rowS A T n ≠ 0 by omega)
      have d2 := Int.lt_ediv_add_one_mul_self (255 * rowW A T n k + rowS A T n / 2) (show 0 < rowS A T n by omega)
      generalize (255 * rowW A T n k + rowS A T n / 2) / rowS A T n = q at *
      generalize rowS A T n / 2 = h at *
      have e1 : ((k + 1 : Nat) : Int) = (k : Int) + 1 := by omega
      rw [e1, Int.mul_add, Int.mul_add, Int.mul_add, Int.mul_add, Int.mul_one, Int.mul_one]
      rw [Int.add_mul, Int.one_mul] at d2
      have c1 : rowS A T n * q = q * rowS A T n := Int.mul_comm _ _
      rw [c1]
      omega
  obtain ⟨k1, k2⟩ := key n
  have hS : sumN (rowW A T n) n = rowS A T n := rfl
  rw [hS] at k1 k2
  generalize hQ : sumN (fun i => rowC A T n i + 128) n = Q at *
  generalize rowS A T n = s at *
  have hn0 : (0 : Int) ≤ n := by omega
  have b1 : (s / 2) * n ≤ s * n := Int.mul_le_mul_of_nonneg_right (by omega) hn0
  have b2 : -(s * n) ≤ (s / 2 - s) * n := by
    have : (-s) * n ≤ (s / 2 - s) * n := Int.mul_le_mul_of_nonneg_right (by omega) hn0
    rw [Int.neg_mul] at this
    exact this
  constructor
  · have h1 : s * (255 - n) ≤ s * Q := by
      rw [Int.mul_sub]
      have : s * 255 = 255 * s := Int.mul_comm _ _
      omega
    exact Int.le_of_mul_le_mul_left h1 (by omega)
  · have h1 : s * Q ≤ s * (255 + n) := by
      rw [Int.mul_add]
      have : s * 255 = 255 * s := Int.mul_comm _ _
      omega
    exact Int.le_of_mul_le_mul_left h1 (by omega)

end Go.Proofs.YtnblnlanicpagaaDoor.Lg
