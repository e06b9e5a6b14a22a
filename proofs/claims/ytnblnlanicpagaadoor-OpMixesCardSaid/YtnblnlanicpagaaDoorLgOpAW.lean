/-
  What the program's functions come to, in plain words.
-/
import Derived.Test.YtnblnlanicpagaaDoorLgOpAS
namespace Go.Proofs.YtnblnlanicpagaaDoor.Lg
open Go Go.Eng Go.Proofs

/-! all operations, by the program -/

theorem op_Known_spec (N : Nat) (op : Int) : F_op_Known N op = some (decide (4 ≤ op ∧ op ≤ 21), ()) := by
  unfold F_op_Known
  by_cases h : 4 ≤ op
  · refine cT h ?_
    rw [show decide (4 ≤ op ∧ op ≤ 21) = decide (op ≤ 21) from decide_eq_decide.2 ⟨fun x => x.2, fun x => ⟨h, x⟩⟩]
  · rw [decide_eq_false (p := _ ∧ _) (fun x => h x.1)]
    exact cF h rfl

theorem op_Ins_spec (N : Nat) (op : Int) : F_op_Ins N op = some ((insN op : Int), ()) := by
  unfold F_op_Ins insN
  by_cases h4 : op = 4
  · rw [if_pos (by omega)]; exact cT h4 rfl
  refine cF h4 ?_
  by_cases h5 : op = 5
  · rw [if_pos (by omega)]; exact cT h5 rfl
  refine cF h5 ?_
  by_cases h6 : op = 6
  · rw [if_pos (by omega)]; exact cT h6 rfl
  refine cF h6 ?_
  by_cases h7 : op = 7
  · rw [if_pos (by omega)]; exact cT h7 rfl
  refine cF h7 ?_
  by_cases h12 : op = 12
  · rw [if_pos (by omega)]; exact cT h12 rfl
  refine cF h12 ?_
  by_cases h13 : op = 13
  · rw [if_pos (by omega)]; exact cT h13 rfl
  refine cF h13 ?_
  by_cases h16 : op = 16
  · rw [if_pos (by omega)]; exact cT h16 rfl
  refine cF h16 ?_
  by_cases h17 : op = 17
  · rw [if_pos (by omega)]; exact cT h17 rfl
  refine cF h17 (bnd _ (op_Known_spec N op) ?_)
  rw [if_neg (by omega)]
  by_cases hk : 4 ≤ op ∧ op ≤ 21
  · rw [if_pos hk]; exact bT (decide_eq_true hk) rfl
  · rw [if_neg hk]; exact bF (decide_eq_false hk) rfl

theorem op_Args_spec (N : Nat) (op : Int) : F_op_Args N op = some ((argN op : Int), ()) := by
  unfold F_op_Args argN
  by_cases h9 : op = 9
  · rw [if_pos (by omega)]; exact cT h9 rfl
  refine cF h9 ?_
  by_cases h12 : op = 12
  · rw [if_pos (by omega)]; exact cT h12 rfl
  refine cF h12 ?_
  by_cases h14 : op = 14
  · rw [if_pos (by omega)]; exact cT h14 rfl
  refine cF h14 ?_
  by_cases h15 : op = 15
  · rw [if_pos (by omega)]; exact cT h15 rfl
  refine cF h15 ?_
  rw [if_neg (by omega)]
  by_cases h10 : op = 10
  · rw [if_pos (by omega)]; exact cT h10 rfl
  refine cF h10 ?_
  by_cases h13 : op = 13
  · rw [if_pos (by omega)]; exact cT h13 rfl
  refine cF h13 ?_
  rw [if_neg (by omega)]
  by_cases h11 : op = 11
  · rw [if_pos h11]; exact cT h11 rfl
  rw [if_neg h11]
  exact cF h11 rfl

theorem loop_op_reshape {N : Nat} (hN : 20000 ≤ N) (args : List Int) (a : D × Unit) (t : List Int × (Bool × Unit)) (d : D × Unit) (l : List D) (hl : l.length < 1000000) : ∀ (n i : Nat), i ≤ l.length → l.length < n + i →
    g_op_reshape_0 N n args a t d l l.length i = if firstBad (l.drop i) = .nil then some (.inl (args, (a, (t, (d, ()))))) else some (.inr (([], (false, ())), (firstBad (l.drop i), ())))
  | 0, i, h, h' => by omega
  | n + 1, i, h, h' => by
    rw [g_op_reshape_0]
    by_cases hi : i < l.length
    · refine cT (by omega) (cT (by omega) (cT (by simpa using hi) (cT (by simpa using hi) (bnd _ (shape_Valid_spec hN _) ?_))))
      rw [drop_cons hi ([], false), Nat.zero_add, Int.toNat_natCast, wi64_succ (by omega), firstBad]
      rcases shapeV_cases (l.getD i ([], false)).1 with h1 | ⟨h1, h2⟩
      · rw [ifT (nilT h1)]
        refine bF (by dsimp only; rw [nilT h1]; rfl) ?_
        (repeat first | refine cT rfl ?_ | refine cT True.intro ?_)
        exact loop_op_reshape hN args a t d l hl n (i + 1) hi (by omega)
      · have h3 : ¬ shapeV (l.getD i ([], false)).1 = .nil := fun e => by rw [e] at h1; cases h1
        rw [ifF h1, if_neg h3]
        exact bT (by dsimp only; rw [h1]; rfl) rfl
    · refine cF (by omega) ?_
      rw [List.drop_eq_nil_of_le (by omega)]
      (repeat first | refine cT rfl ?_ | refine cT True.intro ?_)
      rfl

theorem op_reshape_spec {N : Nat} (hN : 20000 ≤ N) (args : List Int) (hargs : args.length ≤ 10000) (a : D) : F_op_reshape N args a = some ((reshRes args a).1, ((reshRes args a).2, ())) := by
  unfold F_op_reshape reshRes
  refine bnd _ (slices_Clone_spec N args (by omega)) ?_
  (repeat first | refine cT (Nat.le_of_eq (Nat.zero_add _)) ?_ | refine cT rfl ?_ | refine cT True.intro ?_)
  dsimp only
  rw [List.take_length]
  have h0 := loop_op_reshape hN args (a, ()) ([], (false, ())) ((args, a.2), ()) [a, (args, a.2)] (by simp) N 0 (by simp) (by simp; omega)
  rw [show ((0 : Nat) : Int) = 0 from rfl, List.drop_zero, show (([a, (args, a.2)] : List D).length : Int) = 2 from rfl] at h0
  unfold firstBad firstBad firstBad at h0
  rcases shapeV_cases a.1 with ha | ⟨ha, ha'⟩
  case inr =>
    have h3 : ¬ shapeV a.1 = .nil := fun e => by rw [e] at ha; cases ha
    rw [ifF ha, if_neg h3] at h0
    rw [ifNF ha]
    refine bnd _ h0 ?_
    dsimp only [Sum.elim_inr]
    (repeat first | refine cT (Nat.le_of_eq (Nat.zero_add _)) ?_ | refine cT rfl ?_ | refine cT True.intro ?_)
    rfl
  rw [ifT (nilT ha)] at h0
  rw [ifNT (nilT ha)]
  rcases shapeV_cases args with hb | ⟨hb, hb'⟩
  case inr =>
    have h3 : ¬ shapeV args = .nil := fun e => by rw [e] at hb; cases hb
    rw [ifF hb, if_neg h3] at h0
    rw [ifNF hb]
    refine bnd _ h0 ?_
    dsimp only [Sum.elim_inr]
    (repeat first | refine cT (Nat.le_of_eq (Nat.zero_add _)) ?_ | refine cT rfl ?_ | refine cT True.intro ?_)
    rfl
  rw [ifT (nilT hb), if_pos rfl] at h0
  rw [ifNT (nilT hb)]
  refine bnd _ h0 ?_
  dsimp only [Sum.elim_inl]
  refine bnd _ (shape_Elems_spec hN _) (bnd _ (shape_Elems_spec hN _) ?_)
  by_cases he : elems args = elems a.1
  · rw [if_neg (fun h => h he)]
    exact cF (fun h => h he.symm) rfl
  · rw [if_pos he]
    exact cT (fun h => he h.symm) rfl

theorem op_turn_spec {N : Nat} (hN : 20000 ≤ N) (a : D) : F_op_turn N a = some (boxD (turnRes a).1, ((turnRes a).2, ())) := by
  unfold F_op_turn turnRes
  refine bnd _ (shape_Valid_spec hN _) ?_
  rcases shapeV_cases a.1 with ha | ⟨ha, ha'⟩
  case inr => rw [ifNF ha]; exact bT (by dsimp only; rw [ha]; rfl) rfl
  rw [ifNT (nilT ha)]
  refine bF (by dsimp only; rw [nilT ha]; rfl) ?_
  by_cases h2 : a.1.length = 2
  · rw [if_neg (fun h => h h2)]
    exact cF (by omega) (cT (by omega) (cT (by omega) rfl))
  · rw [if_pos h2]
    exact cT (by omega) rfl

theorem pool_Result_spec {N : Nat} (hN : 20000 ≤ N) (ar : List Int) (a : D) : F_pool_Result N ar a = some (boxD (poolRes ar a).1, ((poolRes ar a).2, ())) := by
  unfold F_pool_Result poolRes
  by_cases hl : ar.length = 2
  case neg =>
    rw [if_pos hl]
    exact cT (by omega) rfl
  rw [if_neg (fun h => h hl)]
  refine cF (by omega) ?_
  refine bnd _ (shape_Valid_spec hN _) ?_
  rcases shapeV_cases a.1 with ha | ⟨ha, ha'⟩
  case inr => rw [ifNF ha]; exact bT (by dsimp only; rw [ha]; rfl) rfl
  rw [ifNT (nilT ha)]
  refine bF (by dsimp only; rw [nilT ha]; rfl) ?_
  by_cases h3 : a.1.length = 3
  case neg => rw [if_pos h3]; exact cT (by omega) rfl
  rw [if_neg (fun h => h h3)]
  refine cF (by omega) (cT (by omega) (cT (by omega) ?_))
  by_cases r1 : ar.getD 0 0 < 1
  · rw [if_pos (.inl r1)]; exact cT r1 rfl
  refine cF r1 ?_
  by_cases r2 : 16 < ar.getD 0 0
  · rw [if_pos (.inr (.inl r2))]; exact cT r2 rfl
  refine cF r2 ?_
  by_cases r3 : ar.getD 1 0 < 1
  · rw [if_pos (.inr (.inr (.inl r3)))]; exact cT r3 rfl
  refine cF r3 ?_
  by_cases r4 : 16 < ar.getD 1 0
  · rw [if_pos (.inr (.inr (.inr r4)))]; exact cT r4 rfl
  refine cF r4 ?_
  rw [if_neg (by omega)]
  obtain ⟨h, w, c, e, hh, hw, hc, hp, he⟩ := shape_nat_three ha h3
  refine cT (by omega) (cT (by omega) ?_)
  rw [e]
  simp only [List.getD_cons_zero, List.getD_cons_succ]
  obtain ⟨n, en⟩ : ∃ n : Nat, ar.getD 0 0 = (n : Int) := ⟨(ar.getD 0 0).toNat, by omega⟩
  obtain ⟨s, es⟩ : ∃ s : Nat, ar.getD 1 0 = (s : Int) := ⟨(ar.getD 1 0).toNat, by omega⟩
  rw [en] at r1 r2
  rw [es] at r3 r4
  simp only [en, es]
  rw [wi64_in (n := (h : Int) - n) (by omega) (by omega), wi64_in (n := (w : Int) - n) (by omega) (by omega)]
  by_cases q1 : (h : Int) < n
  · rw [if_pos (.inl q1)]; exact cT (by omega) rfl
  refine cF (by omega) ?_
  by_cases q2 : (w : Int) < n
  · rw [if_pos (.inr q2)]; exact cT (by omega) rfl
  refine cF (by omega) (cT (by omega) (cT (by omega) (cT (by simp) ?_)))
  rw [if_neg (by omega)]
  have d0 : wi64 (wi64 (Int.tdiv ((h : Int) - n) s) + 1) = (((h - n) / s + 1 : Nat) : Int) := by
    rw [show (h : Int) - n = ((h - n : Nat) : Int) by omega, wi64_tdiv _ s (by omega), wi64_succ]
    have := Nat.div_le_self (h - n) s
    generalize (h - n) / s = q at *
    omega
  have d1 : wi64 (wi64 (Int.tdiv ((w : Int) - n) s) + 1) = (((w - n) / s + 1 : Nat) : Int) := by
    rw [show (w : Int) - n = ((w - n : Nat) : Int) by omega, wi64_tdiv _ s (by omega), wi64_succ]
    have := Nat.div_le_self (w - n) s
    generalize (w - n) / s = q at *
    omega
  rw [d0, d1, poolSh_nat (by omega) (by omega) (by omega) (by omega)]

theorem op_Result_spec {N : Nat} (hN : 20000 ≤ N) (op : Int) (args : List Int) (hargs : args.length ≤ 10000) (ins : List D) (hi : ins.length ≤ 1000) : F_op_Result N op args ins = some ((resV op args ins).1, ((resV op args ins).2, ())) := by
  unfold F_op_Result
  refine bnd _ (op_Known_spec N op) ?_
  by_cases hk : 4 ≤ op ∧ op ≤ 21
  case neg =>
    unfold resV
    rw [if_pos hk]
    exact bT (by dsimp only; rw [decide_eq_false hk]; rfl) rfl
  refine bF (by dsimp only; rw [decide_eq_true hk]; rfl) ?_
  refine bnd (op, (args, (ins, (([], (false, ())), (decide (ins.length ≠ insN op ∨ (op ≠ 18 ∧ args.length ≠ argN op)), ()))))) ?_ ?_
  · refine bnd _ (op_Ins_spec N op) ?_
    by_cases h1 : ins.length = insN op
    case neg =>
      rw [decide_eq_true (p := _ ∨ _) (.inl h1)]
      exact cT (by dsimp only; omega) rfl
    refine cF (by dsimp only; omega) ?_
    by_cases h2 : op = 18
    · rw [decide_eq_false (p := _ ∨ _) (by rintro (h | h); exact h h1; exact h.1 h2)]
      exact cF (fun h => h h2) rfl
    refine cT h2 (bnd _ (op_Args_spec N op) ?_)
    by_cases h3 : args.length = argN op
    · rw [decide_eq_false (p := _ ∨ _) (by rintro (h | h); exact h h1; exact h.2 h3), decide_eq_false (p := _ ≠ _) (by dsimp only; omega)]
    · rw [decide_eq_true (p := _ ∨ _) (.inr ⟨h2, h3⟩), decide_eq_true (p := _ ≠ _) (by dsimp only; omega)]
  by_cases hB : ins.length ≠ insN op ∨ (op ≠ 18 ∧ args.length ≠ argN op)
  · refine bT (decide_eq_true hB) ?_
    unfold resV
    rw [if_neg (fun h => h hk)]
    by_cases h11 : op ≤ 11
    · rw [if_pos h11]
      unfold elemRes
      rw [if_neg (fun h => h ⟨hk.1, h11⟩), if_pos]
      · rfl
      · have this : op = 4 ∨ op = 5 ∨ op = 6 ∨ op = 7 ∨ op = 8 ∨ op = 9 ∨ op = 10 ∨ op = 11 := by omega
        have e1 : insN op = elK op := by rcases this with rfl | rfl | rfl | rfl | rfl | rfl | rfl | rfl <;> rfl
        have e2 : argN op = elN op := by rcases this with rfl | rfl | rfl | rfl | rfl | rfl | rfl | rfl <;> rfl
        rw [e1, e2] at hB
        rcases hB with h | h
        · exact .inr h
        · exact .inl h.2
    · rw [if_neg h11, if_pos hB]
      rfl
  refine bF (decide_eq_false hB) ?_
  have hn : ins.length = insN op := Decidable.byContradiction fun h => hB (.inl h)
  have ha : op ≠ 18 → args.length = argN op := fun h => Decidable.byContradiction fun h' => hB (.inr ⟨h, h'⟩)
  dsimp only
  by_cases h12 : op = 12
  · subst h12
    have e : resV 12 args ins = matRes (args.getD 0 0) (args.getD 1 0) (ins.getD 0 noD) (ins.getD 1 noD) := by
      unfold resV
      rw [if_neg (fun h => h hk), if_neg (by decide), if_neg hB, if_pos rfl]
    have n2 : insN 12 = 2 := rfl
    have a2 : argN 12 = 2 := rfl
    have ha' := ha (by decide)
    rw [e]
    refine cT rfl (cT (by omega) (cT (by omega) (cT (by omega) (cT (by omega) (bnd _ (mat_Result_spec hN _ _ _ _) rfl)))))
  refine cF h12 ?_
  by_cases h13 : op = 13
  · subst h13
    have e : resV 13 args ins = convRes args (ins.getD 0 noD) (ins.getD 1 noD) := by
      unfold resV
      rw [if_neg (fun h => h hk), if_neg (by decide), if_neg hB, if_neg (by decide), if_pos rfl]
    have n2 : insN 13 = 2 := rfl
    rw [e]
    refine cT rfl (cT (by omega) (cT (by omega) (bnd _ (conv_Result_spec hN _ _ _) rfl)))
  refine cF h13 ?_
  refine bnd (op, (args, (ins, (([], (false, ())), (op, (decide (op = 14 ∨ op = 15), ())))))) ?_ ?_
  · by_cases h : op = 14
    · refine cT h (cT (by first | rfl | exact True.intro) ?_)
      rw [decide_eq_true (p := _ ∨ _) (.inl h)]
    · refine cF h (cT (by first | rfl | exact True.intro) ?_)
      rw [show decide (op = 14 ∨ op = 15) = decide (op = 15) from decide_eq_decide.2 ⟨fun x => x.resolve_left h, .inr⟩]
  by_cases h145 : op = 14 ∨ op = 15
  · refine bT (decide_eq_true h145) ?_
    dsimp only
    have e : resV op args ins = poolRes args (ins.getD 0 noD) := by
      unfold resV
      rw [if_neg (fun h => h hk), if_neg (by omega), if_neg hB, if_neg h12, if_neg h13, if_pos h145]
    have n1 : insN op = 1 := by rcases h145 with rfl | rfl <;> rfl
    rw [e]
    refine cT (by omega) (bnd _ (pool_Result_spec hN _ _) ?_)
    (repeat first | refine cT (Nat.le_of_eq (Nat.zero_add _)) ?_ | refine cT rfl ?_ | refine cT True.intro ?_)
    dsimp only
    rw [List.take_length]
    rfl
  refine bF (decide_eq_false h145) ?_
  dsimp only
  refine bnd (op, (args, (ins, (([], (false, ())), (op, (decide (op = 16 ∨ op = 17 ∨ op = 19 ∨ op = 20), ())))))) ?_ ?_
  · by_cases h : op = 16
    · refine cT h (cT (by first | rfl | exact True.intro) ?_)
      rw [decide_eq_true (p := _ ∨ _) (.inl h)]
    refine cF h ?_
    by_cases h' : op = 19
    · refine cT h' (cT (by first | rfl | exact True.intro) ?_)
      rw [decide_eq_true (p := op = 16 ∨ op = 17 ∨ op = 19 ∨ op = 20) (.inr (.inr (.inl h')))]
    refine cF h' ?_
    by_cases h'' : op = 20
    · refine cT h'' (cT (by first | rfl | exact True.intro) ?_)
      rw [decide_eq_true (p := op = 16 ∨ op = 17 ∨ op = 19 ∨ op = 20) (.inr (.inr (.inr h'')))]
    refine cF h'' (cT (by first | rfl | exact True.intro) ?_)
    rw [show decide (op = 16 ∨ op = 17 ∨ op = 19 ∨ op = 20) = decide (op = 17) from decide_eq_decide.2 ⟨fun x => by omega, fun x => .inr (.inl x)⟩]
  by_cases hs : op = 16 ∨ op = 17 ∨ op = 19 ∨ op = 20
  · refine bT (decide_eq_true hs) ?_
    have e : resV op args ins = softRes op ins := by
      unfold resV
      rw [if_neg (fun h => h hk), if_neg (by omega), if_neg hB, if_neg h12, if_neg h13, if_neg h145, if_pos hs]
    rw [e]
    exact bnd _ (soft_Result_spec hN op ins hi) rfl
  refine bF (decide_eq_false hs) ?_
  dsimp only
  by_cases h18 : op = 18
  · have e : resV op args ins = reshRes args (ins.getD 0 noD) := by
      unfold resV
      rw [if_neg (fun h => h hk), if_neg (by omega), if_neg hB, if_neg h12, if_neg h13, if_neg h145, if_neg hs, if_neg (by omega)]
    have n1 : insN op = 1 := by rw [h18]; rfl
    rw [e]
    exact cT h18 (cT (by omega) (bnd _ (op_reshape_spec hN args hargs _) rfl))
  refine cF h18 ?_
  by_cases h21 : op = 21
  · have e : resV op args ins = turnRes (ins.getD 0 noD) := by
      unfold resV
      rw [if_neg (fun h => h hk), if_neg (by omega), if_neg hB, if_neg h12, if_neg h13, if_neg h145, if_neg hs, if_pos h21]
    have n1 : insN op = 1 := by rw [h21]; rfl
    rw [e]
    refine cT h21 (cT (by omega) (bnd _ (op_turn_spec hN _) ?_))
    (repeat first | refine cT (Nat.le_of_eq (Nat.zero_add _)) ?_ | refine cT rfl ?_ | refine cT True.intro ?_)
    dsimp only
    rw [List.take_length]
    rfl
  refine cF h21 ?_
  have e : resV op args ins = elemRes op args ins := by
    unfold resV
    rw [if_neg (fun h => h hk), if_pos (by omega)]
  rw [e]
  refine bnd _ (elem_Result_spec hN op args ins hi) ?_
  (repeat first | refine cT (Nat.le_of_eq (Nat.zero_add _)) ?_ | refine cT rfl ?_ | refine cT True.intro ?_)
  dsimp only
  rw [List.take_length]

/-- what an element costs -/
def unitV (op : Int) (args : List Int) (ins : List D) : Int :=
  if op = 10 then 2
  else if op = 12 then (ins.getD 0 noD).1.getD 1 0
  else if op = 13 then wi64 (wi64 ((ins.getD 1 noD).1.getD 0 0 * (ins.getD 1 noD).1.getD 1 0) * (ins.getD 1 noD).1.getD 2 0)
  else if op = 14 ∨ op = 15 then wi64 (args.getD 0 0 * args.getD 0 0)
  else if op = 16 ∨ op = 19 ∨ op = 20 then (ins.getD 0 noD).1.getD ((ins.getD 0 noD).1.length - 1) 0
  else 1

def unitR (op : Int) (args : List Int) (ins : List D) : Int := if (resV op args ins).2 = .nil then unitV op args ins else 0

theorem resV_unit {op : Int} {args : List Int} {ins : List D} (h : (resV op args ins).2 = .nil) : (4 ≤ op ∧ op ≤ 21) ∧ 0 < ins.length ∧ (op = 12 → 1 < (ins.getD 0 noD).1.length) ∧ (op = 13 → 1 < ins.length ∧ 2 < (ins.getD 1 noD).1.length) ∧ (op = 14 ∨ op = 15 → 0 < args.length) ∧ (op = 16 ∨ op = 19 ∨ op = 20 → 1 ≤ (ins.getD 0 noD).1.length ∧ (ins.getD 0 noD).1.length ≤ 4) := by
  unfold resV at h
  by_cases hk : 4 ≤ op ∧ op ≤ 21
  case neg => rw [if_pos hk] at h; cases h
  rw [if_neg (fun h => h hk)] at h
  by_cases h11 : op ≤ 11
  · rw [if_pos h11] at h
    obtain ⟨_, _, h3, _⟩ := elemRes_ok h
    refine ⟨hk, ?_, by omega, by omega, by omega, by omega⟩
    unfold elK at h3
    split at h3 <;> omega
  rw [if_neg h11] at h
  by_cases hB : ins.length ≠ insN op ∨ (op ≠ 18 ∧ args.length ≠ argN op)
  · rw [if_pos hB] at h; cases h
  rw [if_neg hB] at h
  have hn : ins.length = insN op := Decidable.byContradiction fun h => hB (.inl h)
  have ha : op ≠ 18 → args.length = argN op := fun h => Decidable.byContradiction fun h' => hB (.inr ⟨h, h'⟩)
  have hn1 : 0 < ins.length := by
    rw [hn]
    unfold insN
    split
    · omega
    · first | omega | (rw [if_pos hk]; omega)
  by_cases h12 : op = 12
  · rw [if_pos h12] at h
    refine ⟨hk, hn1, fun _ => ?_, by omega, by omega, by omega⟩
    unfold matRes at h
    split at h
    · rename_i hh; dsimp only at h; rw [h] at hh; cases hh
    split at h
    · rename_i hh; dsimp only at h; rw [h] at hh; cases hh
    split at h
    · cases h
    · omega
  rw [if_neg h12] at h
  by_cases h13 : op = 13
  · rw [if_pos h13] at h
    have n2 : insN op = 2 := by rw [h13]; rfl
    refine ⟨hk, hn1, by omega, fun _ => ⟨by omega, ?_⟩, by omega, by omega⟩
    unfold convRes at h
    split at h
    · cases h
    split at h
    · rename_i hh; dsimp only at h; rw [h] at hh; cases hh
    split at h
    · rename_i hh; dsimp only at h; rw [h] at hh; cases hh
    split at h
    · cases h
    · omega
  rw [if_neg h13] at h
  by_cases h145 : op = 14 ∨ op = 15
  · have a2 : argN op = 2 := by rcases h145 with rfl | rfl <;> rfl
    have := ha (by omega)
    exact ⟨hk, hn1, by omega, by omega, fun _ => by omega, by omega⟩
  rw [if_neg h145] at h
  by_cases hs : op = 16 ∨ op = 17 ∨ op = 19 ∨ op = 20
  · rw [if_pos hs] at h
    refine ⟨hk, hn1, by omega, by omega, by omega, fun hu => ?_⟩
    unfold softRes at h
    rw [if_neg (fun h => h hs)] at h
    split at h
    · cases h
    by_cases hb : firstBad ins = .nil
    case neg => rw [ifNF (isNil_false hb)] at h; exact absurd h hb
    have h4 := firstBad_getD1 hb 0
    rw [ifNT (nilT hb)] at h
    split at h
    · split at h
      · cases h
      · rename_i hh
        simp only [not_or] at hh
        omega
    · split at h
      · rename_i hh; omega
      · split at h
        · cases h
        · omega
  · exact ⟨hk, hn1, by omega, by omega, by omega, by omega⟩

theorem op_Unit_spec {N : Nat} (hN : 20000 ≤ N) (op : Int) (args : List Int) (hargs : args.length ≤ 10000) (ins : List D) (hi : ins.length ≤ 1000) : F_op_Unit N op args ins = some (unitR op args ins, ((resV op args ins).2, ())) := by
  unfold F_op_Unit unitR
  refine bnd _ (op_Result_spec hN op args hargs ins hi) ?_
  by_cases hr : (resV op args ins).2 = .nil
  case neg => rw [if_neg hr]; exact bT (by dsimp only; rw [isNil_false hr]; rfl) rfl
  rw [if_pos hr]
  refine bF (by dsimp only; rw [hr]; rfl) ?_
  obtain ⟨hk, u0, u1, u2, u3, u4⟩ := resV_unit hr
  rw [hr]
  refine cT u0 ?_
  unfold unitV
  by_cases h10 : op = 10
  · rw [if_pos h10]; exact cT h10 rfl
  rw [if_neg h10]
  refine cF h10 ?_
  by_cases h12 : op = 12
  · rw [if_pos h12]; exact cT h12 (cT (u1 h12) rfl)
  rw [if_neg h12]
  refine cF h12 ?_
  by_cases h13 : op = 13
  · obtain ⟨v1, v2⟩ := u2 h13
    rw [if_pos h13]; exact cT h13 (cT v1 (cT (by change 0 < (ins.getD 1 noD).1.length; omega) (cT (by change 1 < (ins.getD 1 noD).1.length; omega) (cT v2 rfl))))
  rw [if_neg h13]
  refine cF h13 ?_
  by_cases h14 : op = 14
  · rw [if_pos (.inl h14)]; exact cT h14 (cT (u3 (.inl h14)) (cT (u3 (.inl h14)) rfl))
  refine cF h14 ?_
  by_cases h15 : op = 15
  · rw [if_pos (.inr h15)]; exact cT h15 (cT (u3 (.inr h15)) (cT (u3 (.inr h15)) rfl))
  refine cF h15 ?_
  rw [if_neg (by omega)]
  have e : 1 ≤ (ins.getD 0 noD).1.length ∧ (ins.getD 0 noD).1.length ≤ 4 → wi64 (((ins.getD 0 noD).1.length : Int) - 1) = (((ins.getD 0 noD).1.length - 1 : Nat) : Int) := fun h => by rw [wi64_in (by omega) (by omega)]; omega
  by_cases h16 : op = 16
  · have e' := e (u4 (.inl h16))
    have v := u4 (.inl h16)
    rw [if_pos (.inl h16)]
    unfold noD at e' v ⊢
    rw [e']
    exact cT h16 (cT (Int.natCast_nonneg _) (cT (by rw [Int.toNat_natCast]; omega) (by rw [Int.toNat_natCast]; first | done | rfl)))
  refine cF h16 ?_
  by_cases h19 : op = 19
  · have e' := e (u4 (.inr (.inl h19)))
    have v := u4 (.inr (.inl h19))
    rw [if_pos (.inr (.inl h19))]
    unfold noD at e' v ⊢
    rw [e']
    exact cT h19 (cT (Int.natCast_nonneg _) (cT (by rw [Int.toNat_natCast]; omega) (by rw [Int.toNat_natCast]; first | done | rfl)))
  refine cF h19 ?_
  by_cases h20 : op = 20
  · have e' := e (u4 (.inr (.inr h20)))
    have v := u4 (.inr (.inr h20))
    rw [if_pos (.inr (.inr h20))]
    unfold noD at e' v ⊢
    rw [e']
    exact cT h20 (cT (Int.natCast_nonneg _) (cT (by rw [Int.toNat_natCast]; omega) (by rw [Int.toNat_natCast]; first | done | rfl)))
  rw [if_neg (by omega)]
  exact cF h20 rfl

theorem ref_Unit_spec {N : Nat} (hN : 20000 ≤ N) (op : Int) (args : List Int) (hargs : args.length ≤ 10000) (ins : List D) (hi : ins.length ≤ 1000) : F_lodgeref3_Unit N op args ins = some (unitR op args ins, (codeE (resV op args ins).2, ())) := by
  unfold F_lodgeref3_Unit unitR
  refine bnd _ (ref_Result_all hN op args hargs ins hi) ?_
  by_cases hr : (resV op args ins).2 = .nil
  case neg => rw [if_neg hr]; exact cT (fun e => hr ((codeE_zero _).1 e)) rfl
  rw [if_pos hr]
  refine cF (by dsimp only; rw [hr]; exact fun h => h rfl) ?_
  obtain ⟨hk, u0, u1, u2, u3, u4⟩ := resV_unit hr
  rw [hr]
  refine cT u0 ?_
  unfold unitV
  by_cases h10 : op = 10
  · rw [if_pos h10]; exact cT h10 rfl
  rw [if_neg h10]
  refine cF h10 ?_
  by_cases h12 : op = 12
  · rw [if_pos h12]; exact cT h12 (cT (u1 h12) rfl)
  rw [if_neg h12]
  refine cF h12 ?_
  by_cases h13 : op = 13
  · obtain ⟨v1, v2⟩ := u2 h13
    rw [if_pos h13]; exact cT h13 (cT v1 (cT (by change 0 < (ins.getD 1 noD).1.length; omega) (cT (by change 1 < (ins.getD 1 noD).1.length; omega) (cT v2 rfl))))
  rw [if_neg h13]
  refine cF h13 ?_
  by_cases h14 : op = 14
  · rw [if_pos (.inl h14)]; exact cT h14 (cT (u3 (.inl h14)) (cT (u3 (.inl h14)) rfl))
  refine cF h14 ?_
  by_cases h15 : op = 15
  · rw [if_pos (.inr h15)]; exact cT h15 (cT (u3 (.inr h15)) (cT (u3 (.inr h15)) rfl))
  refine cF h15 ?_
  rw [if_neg (by omega)]
  have e : 1 ≤ (ins.getD 0 noD).1.length ∧ (ins.getD 0 noD).1.length ≤ 4 → wi64 (((ins.getD 0 noD).1.length : Int) - 1) = (((ins.getD 0 noD).1.length - 1 : Nat) : Int) := fun h => by rw [wi64_in (by omega) (by omega)]; omega
  by_cases h16 : op = 16
  · have e' := e (u4 (.inl h16))
    have v := u4 (.inl h16)
    rw [if_pos (.inl h16)]
    unfold noD at e' v ⊢
    rw [e']
    exact cT h16 (cT (Int.natCast_nonneg _) (cT (by rw [Int.toNat_natCast]; omega) (by rw [Int.toNat_natCast]; first | done | rfl)))
  refine cF h16 ?_
  by_cases h19 : op = 19
  · have e' := e (u4 (.inr (.inl h19)))
    have v := u4 (.inr (.inl h19))
    rw [if_pos (.inr (.inl h19))]
    unfold noD at e' v ⊢
    rw [e']
    exact cT h19 (cT (Int.natCast_nonneg _) (cT (by rw [Int.toNat_natCast]; omega) (by rw [Int.toNat_natCast]; first | done | rfl)))
  refine cF h19 ?_
  by_cases h20 : op = 20
  · have e' := e (u4 (.inr (.inr h20)))
    have v := u4 (.inr (.inr h20))
    rw [if_pos (.inr (.inr h20))]
    unfold noD at e' v ⊢
    rw [e']
    exact cT h20 (cT (Int.natCast_nonneg _) (cT (by rw [Int.toNat_natCast]; omega) (by rw [Int.toNat_natCast]; first | done | rfl)))
  rw [if_neg (by omega)]
  exact cF h20 rfl

end Go.Proofs.YtnblnlanicpagaaDoor.Lg
