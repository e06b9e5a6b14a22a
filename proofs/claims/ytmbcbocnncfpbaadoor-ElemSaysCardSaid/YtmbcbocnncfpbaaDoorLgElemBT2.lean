/-
  What the program's functions come to, in plain words.
-/
import Derived.Test.YtmbcbocnncfpbaaDoorLgElemBS
namespace Go.Proofs.YtmbcbocnncfpbaaDoor.Lg
open Go Go.Eng Go.Proofs

/-! all operations -/

def insN (op : Int) : Nat := if op = 4 ∨ op = 5 ∨ op = 6 ∨ op = 7 ∨ op = 12 ∨ op = 13 ∨ op = 16 ∨ op = 17 then 2 else if 4 ≤ op ∧ op ≤ 21 then 1 else 0

def argN (op : Int) : Nat := if op = 9 ∨ op = 12 ∨ op = 14 ∨ op = 15 then 2 else if op = 10 ∨ op = 13 then 3 else if op = 11 then 1 else 0

def reshRes (args : List Int) (a : D) : D × Er :=
  if !(shapeV a.1).isNil then (noD, shapeV a.1)
  else if !(shapeV args).isNil then (noD, shapeV args)
  else if elems args ≠ elems a.1 then (noD, .s ErrShape)
  else ((args, a.2), .nil)

def resV (op : Int) (args : List Int) (ins : List D) : D × Er :=
  if ¬ (4 ≤ op ∧ op ≤ 21) then (noD, .s ErrKind)
  else if op ≤ 11 then elemRes op args ins
  else if ins.length ≠ insN op ∨ (op ≠ 18 ∧ args.length ≠ argN op) then (noD, .s ErrShape)
  else if op = 12 then matRes (args.getD 0 0) (args.getD 1 0) (ins.getD 0 noD) (ins.getD 1 noD)
  else if op = 13 then convRes args (ins.getD 0 noD) (ins.getD 1 noD)
  else if op = 14 ∨ op = 15 then poolRes args (ins.getD 0 noD)
  else if op = 16 ∨ op = 17 ∨ op = 19 ∨ op = 20 then softRes op ins
  else if op = 21 then turnRes (ins.getD 0 noD)
  else reshRes args (ins.getD 0 noD)

theorem turnRes_bare (a : D) : bareE (turnRes a).2 := by
  unfold turnRes
  repeat' split
  all_goals first | exact True.intro | (dsimp only; exact shapeV_bare _)

theorem turnRes_OK (a : D) : erOK (turnRes a).2 := by
  unfold turnRes
  repeat' split
  all_goals first | exact True.intro | exact (show ErrShape < 21 by decide) | (dsimp only; exact shapeV_OK _)

theorem reshRes_bare (args : List Int) (a : D) : bareE (reshRes args a).2 := by
  unfold reshRes
  repeat' split
  all_goals first | exact True.intro | (dsimp only; exact shapeV_bare _)

theorem reshRes_OK (args : List Int) (a : D) : erOK (reshRes args a).2 := by
  unfold reshRes
  repeat' split
  all_goals first | exact True.intro | exact (show ErrShape < 21 by decide) | (dsimp only; exact shapeV_OK _)

theorem resV_bare (op : Int) (args : List Int) (ins : List D) : bareE (resV op args ins).2 := by
  unfold resV
  repeat' split
  all_goals first | exact True.intro | exact elemRes_bare _ _ _ | exact matRes_bare _ _ _ _ | exact convRes_bare _ _ _ | exact poolRes_bare _ _ | exact softRes_bare _ _ | exact turnRes_bare _ | exact reshRes_bare _ _

theorem resV_OK (op : Int) (args : List Int) (ins : List D) : erOK (resV op args ins).2 := by
  unfold resV
  repeat' split
  all_goals first | exact True.intro | exact (show ErrKind < 21 by decide) | exact (show ErrShape < 21 by decide) | exact elemRes_OK _ _ _ | exact matRes_OK _ _ _ _ | exact convRes_OK _ _ _ | exact poolRes_OK _ _ | exact softRes_OK _ _ | exact turnRes_OK _ | exact reshRes_OK _ _

theorem ref_Result_12 {N : Nat} (hN : 20000 ≤ N) (args : List Int) (ins : List D) : F_lodgeref3_Result N 12 args ins = some (boxD (resV 12 args ins).1, (codeE (resV 12 args ins).2, ())) := by
  unfold F_lodgeref3_Result resV
  rw [if_neg (by decide), if_neg (by decide), show insN 12 = 2 from rfl, show argN 12 = 2 from rfl]
  refine bnd _ rfl ?_
  (repeat first | refine bT rfl ?_ | refine bF rfl ?_)
  refine bnd (12, (args, (ins, (([], (false, ())), (decide (ins.length ≠ 2 ∨ ((12 : Int) ≠ 18 ∧ args.length ≠ 2)), ()))))) ?_ ?_
  · refine bnd _ rfl ?_
    by_cases h1 : ins.length = 2
    case neg =>
      refine cT (by first | omega | (dsimp only; omega) | (simp; omega)) ?_
      rw [decide_eq_true (p := _ ∨ _) (.inl h1)]
    refine cF (by first | omega | (dsimp only; omega) | (simp; omega)) ?_
    (repeat first | refine bT rfl ?_ | refine bF rfl ?_)
    refine bnd _ rfl ?_
    dsimp only
    by_cases h2 : args.length = 2
    · rw [decide_eq_false (show ¬ ((args.length : Int) ≠ 2) by omega), decide_eq_false (p := _ ∨ _) (by rintro (h | ⟨_, h⟩); exact h h1; exact h h2)]
    · rw [decide_eq_true (show (args.length : Int) ≠ 2 by omega), decide_eq_true (p := _ ∨ _) (.inr ⟨by decide, h2⟩)]
  by_cases hB : ins.length ≠ 2 ∨ ((12 : Int) ≠ 18 ∧ args.length ≠ 2)
  case pos => rw [if_pos hB]; exact cT hB rfl
  rw [if_neg hB]
  refine cF hB ?_
  have hk : ins.length = 2 := Decidable.byContradiction fun h => hB (.inl h)
  have hn : args.length = 2 := Decidable.byContradiction fun h => hB (.inr ⟨by decide, h⟩)
  match ins, hk with
  | [a, b], _ =>
  rw [if_pos rfl]
  (repeat first | refine bT rfl ?_ | refine bF rfl ?_)
  refine cT (by first | omega | (dsimp only; omega) | (simp; omega)) (cT (by first | omega | (dsimp only; omega) | (simp; omega)) ?_)
  (repeat first | refine bT rfl ?_ | refine bF rfl ?_)
  refine bnd _ (lodgeref3_MatResult_spec hN _ _ _ _) ?_
  (repeat first | refine cT rfl ?_ | refine cT True.intro ?_)
  rfl

theorem ref_Result_13 {N : Nat} (hN : 20000 ≤ N) (args : List Int) (ins : List D) : F_lodgeref3_Result N 13 args ins = some (boxD (resV 13 args ins).1, (codeE (resV 13 args ins).2, ())) := by
  unfold F_lodgeref3_Result resV
  rw [if_neg (by decide), if_neg (by decide), show insN 13 = 2 from rfl, show argN 13 = 3 from rfl]
  refine bnd _ rfl ?_
  (repeat first | refine bT rfl ?_ | refine bF rfl ?_)
  refine bnd (13, (args, (ins, (([], (false, ())), (decide (ins.length ≠ 2 ∨ ((13 : Int) ≠ 18 ∧ args.length ≠ 3)), ()))))) ?_ ?_
  · refine bnd _ rfl ?_
    by_cases h1 : ins.length = 2
    case neg =>
      refine cT (by first | omega | (dsimp only; omega) | (simp; omega)) ?_
      rw [decide_eq_true (p := _ ∨ _) (.inl h1)]
    refine cF (by first | omega | (dsimp only; omega) | (simp; omega)) ?_
    (repeat first | refine bT rfl ?_ | refine bF rfl ?_)
    refine bnd _ rfl ?_
    dsimp only
    by_cases h2 : args.length = 3
    · rw [decide_eq_false (show ¬ ((args.length : Int) ≠ 3) by omega), decide_eq_false (p := _ ∨ _) (by rintro (h | ⟨_, h⟩); exact h h1; exact h h2)]
    · rw [decide_eq_true (show (args.length : Int) ≠ 3 by omega), decide_eq_true (p := _ ∨ _) (.inr ⟨by decide, h2⟩)]
  by_cases hB : ins.length ≠ 2 ∨ ((13 : Int) ≠ 18 ∧ args.length ≠ 3)
  case pos => rw [if_pos hB]; exact cT hB rfl
  rw [if_neg hB]
  refine cF hB ?_
  have hk : ins.length = 2 := Decidable.byContradiction fun h => hB (.inl h)
  have hn : args.length = 3 := Decidable.byContradiction fun h => hB (.inr ⟨by decide, h⟩)
  match ins, hk with
  | [a, b], _ =>
  rw [if_neg (by decide), if_pos rfl]
  (repeat first | refine bT rfl ?_ | refine bF rfl ?_)
  refine bnd _ (lodgeref3_ConvResult_spec hN _ _ _) ?_
  (repeat first | refine cT rfl ?_ | refine cT True.intro ?_)
  rfl

theorem ref_Result_14 {N : Nat} (hN : 20000 ≤ N) (args : List Int) (ins : List D) : F_lodgeref3_Result N 14 args ins = some (boxD (resV 14 args ins).1, (codeE (resV 14 args ins).2, ())) := by
  unfold F_lodgeref3_Result resV
  rw [if_neg (by decide), if_neg (by decide), show insN 14 = 1 from rfl, show argN 14 = 2 from rfl]
  refine bnd _ rfl ?_
  (repeat first | refine bT rfl ?_ | refine bF rfl ?_)
  refine bnd (14, (args, (ins, (([], (false, ())), (decide (ins.length ≠ 1 ∨ ((14 : Int) ≠ 18 ∧ args.length ≠ 2)), ()))))) ?_ ?_
  · refine bnd _ rfl ?_
    by_cases h1 : ins.length = 1
    case neg =>
      refine cT (by first | omega | (dsimp only; omega) | (simp; omega)) ?_
      rw [decide_eq_true (p := _ ∨ _) (.inl h1)]
    refine cF (by first | omega | (dsimp only; omega) | (simp; omega)) ?_
    (repeat first | refine bT rfl ?_ | refine bF rfl ?_)
    refine bnd _ rfl ?_
    dsimp only
    by_cases h2 : args.length = 2
    · rw [decide_eq_false (show ¬ ((args.length : Int) ≠ 2) by omega), decide_eq_false (p := _ ∨ _) (by rintro (h | ⟨_, h⟩); exact h h1; exact h h2)]
    · rw [decide_eq_true (show (args.length : Int) ≠ 2 by omega), decide_eq_true (p := _ ∨ _) (.inr ⟨by decide, h2⟩)]
  by_cases hB : ins.length ≠ 1 ∨ ((14 : Int) ≠ 18 ∧ args.length ≠ 2)
  case pos => rw [if_pos hB]; exact cT hB rfl
  rw [if_neg hB]
  refine cF hB ?_
  have hk : ins.length = 1 := Decidable.byContradiction fun h => hB (.inl h)
  have hn : args.length = 2 := Decidable.byContradiction fun h => hB (.inr ⟨by decide, h⟩)
  match ins, hk with
  | [a], _ =>
  rw [if_neg (by decide), if_neg (by decide), if_pos (by decide)]
  (repeat first | refine bT rfl ?_ | refine bF rfl ?_)
  refine bnd _ rfl ?_
  (repeat first | refine bT rfl ?_ | refine bF rfl ?_)
  refine bnd _ (lodgeref3_PoolResult_spec hN _ _) ?_
  (repeat first | refine cT rfl ?_ | refine cT True.intro ?_)
  rfl

theorem ref_Result_15 {N : Nat} (hN : 20000 ≤ N) (args : List Int) (ins : List D) : F_lodgeref3_Result N 15 args ins = some (boxD (resV 15 args ins).1, (codeE (resV 15 args ins).2, ())) := by
  unfold F_lodgeref3_Result resV
  rw [if_neg (by decide), if_neg (by decide), show insN 15 = 1 from rfl, show argN 15 = 2 from rfl]
  refine bnd _ rfl ?_
  (repeat first | refine bT rfl ?_ | refine bF rfl ?_)
  refine bnd (15, (args, (ins, (([], (false, ())), (decide (ins.length ≠ 1 ∨ ((15 : Int) ≠ 18 ∧ args.length ≠ 2)), ()))))) ?_ ?_
  · refine bnd _ rfl ?_
    by_cases h1 : ins.length = 1
    case neg =>
      refine cT (by first | omega | (dsimp only; omega) | (simp; omega)) ?_
      rw [decide_eq_true (p := _ ∨ _) (.inl h1)]
    refine cF (by first | omega | (dsimp only; omega) | (simp; omega)) ?_
    (repeat first | refine bT rfl ?_ | refine bF rfl ?_)
    refine bnd _ rfl ?_
    dsimp only
    by_cases h2 : args.length = 2
    · rw [decide_eq_false (show ¬ ((args.length : Int) ≠ 2) by omega), decide_eq_false (p := _ ∨ _) (by rintro (h | ⟨_, h⟩); exact h h1; exact h h2)]
    · rw [decide_eq_true (show (args.length : Int) ≠ 2 by omega), decide_eq_true (p := _ ∨ _) (.inr ⟨by decide, h2⟩)]
  by_cases hB : ins.length ≠ 1 ∨ ((15 : Int) ≠ 18 ∧ args.length ≠ 2)
  case pos => rw [if_pos hB]; exact cT hB rfl
  rw [if_neg hB]
  refine cF hB ?_
  have hk : ins.length = 1 := Decidable.byContradiction fun h => hB (.inl h)
  have hn : args.length = 2 := Decidable.byContradiction fun h => hB (.inr ⟨by decide, h⟩)
  match ins, hk with
  | [a], _ =>
  rw [if_neg (by decide), if_neg (by decide), if_pos (by decide)]
  (repeat first | refine bT rfl ?_ | refine bF rfl ?_)
  refine bnd _ rfl ?_
  (repeat first | refine bT rfl ?_ | refine bF rfl ?_)
  refine bnd _ (lodgeref3_PoolResult_spec hN _ _) ?_
  (repeat first | refine cT rfl ?_ | refine cT True.intro ?_)
  rfl

theorem ref_Result_16 {N : Nat} (hN : 20000 ≤ N) (args : List Int) (ins : List D) : F_lodgeref3_Result N 16 args ins = some (boxD (resV 16 args ins).1, (codeE (resV 16 args ins).2, ())) := by
  unfold F_lodgeref3_Result resV
  rw [if_neg (by decide), if_neg (by decide), show insN 16 = 2 from rfl, show argN 16 = 0 from rfl]
  refine bnd _ rfl ?_
  (repeat first | refine bT rfl ?_ | refine bF rfl ?_)
  refine bnd (16, (args, (ins, (([], (false, ())), (decide (ins.length ≠ 2 ∨ ((16 : Int) ≠ 18 ∧ args.length ≠ 0)), ()))))) ?_ ?_
  · refine bnd _ rfl ?_
    by_cases h1 : ins.length = 2
    case neg =>
      refine cT (by first | omega | (dsimp only; omega) | (simp; omega)) ?_
      rw [decide_eq_true (p := _ ∨ _) (.inl h1)]
    refine cF (by first | omega | (dsimp only; omega) | (simp; omega)) ?_
    (repeat first | refine bT rfl ?_ | refine bF rfl ?_)
    refine bnd _ rfl ?_
    dsimp only
    by_cases h2 : args.length = 0
    · rw [decide_eq_false (show ¬ ((args.length : Int) ≠ 0) by omega), decide_eq_false (p := _ ∨ _) (by rintro (h | ⟨_, h⟩); exact h h1; exact h h2)]
    · rw [decide_eq_true (show (args.length : Int) ≠ 0 by omega), decide_eq_true (p := _ ∨ _) (.inr ⟨by decide, h2⟩)]
  by_cases hB : ins.length ≠ 2 ∨ ((16 : Int) ≠ 18 ∧ args.length ≠ 0)
  case pos => rw [if_pos hB]; exact cT hB rfl
  rw [if_neg hB]
  refine cF hB ?_
  have hk : ins.length = 2 := Decidable.byContradiction fun h => hB (.inl h)
  have hn : args.length = 0 := Decidable.byContradiction fun h => hB (.inr ⟨by decide, h⟩)
  rw [if_neg (by decide), if_neg (by decide), if_neg (by decide), if_pos (by decide)]
  (repeat first | refine bT rfl ?_ | refine bF rfl ?_)
  refine bnd _ rfl ?_
  (repeat first | refine bT rfl ?_ | refine bF rfl ?_)
  refine bnd _ rfl ?_
  (repeat first | refine bT rfl ?_ | refine bF rfl ?_)
  refine bnd _ (lodgeref3_SoftResult_spec hN _ _ (by first | omega | (dsimp only; omega) | (simp; omega))) ?_
  (repeat first | refine cT rfl ?_ | refine cT True.intro ?_)
  rfl

theorem ref_Result_17 {N : Nat} (hN : 20000 ≤ N) (args : List Int) (ins : List D) : F_lodgeref3_Result N 17 args ins = some (boxD (resV 17 args ins).1, (codeE (resV 17 args ins).2, ())) := by
  unfold F_lodgeref3_Result resV
  rw [if_neg (by decide), if_neg (by decide), show insN 17 = 2 from rfl, show argN 17 = 0 from rfl]
  refine bnd _ rfl ?_
  (repeat first | refine bT rfl ?_ | refine bF rfl ?_)
  refine bnd (17, (args, (ins, (([], (false, ())), (decide (ins.length ≠ 2 ∨ ((17 : Int) ≠ 18 ∧ args.length ≠ 0)), ()))))) ?_ ?_
  · refine bnd _ rfl ?_
    by_cases h1 : ins.length = 2
    case neg =>
      refine cT (by first | omega | (dsimp only; omega) | (simp; omega)) ?_
      rw [decide_eq_true (p := _ ∨ _) (.inl h1)]
    refine cF (by first | omega | (dsimp only; omega) | (simp; omega)) ?_
    (repeat first | refine bT rfl ?_ | refine bF rfl ?_)
    refine bnd _ rfl ?_
    dsimp only
    by_cases h2 : args.length = 0
    · rw [decide_eq_false (show ¬ ((args.length : Int) ≠ 0) by omega), decide_eq_false (p := _ ∨ _) (by rintro (h | ⟨_, h⟩); exact h h1; exact h h2)]
    · rw [decide_eq_true (show (args.length : Int) ≠ 0 by omega), decide_eq_true (p := _ ∨ _) (.inr ⟨by decide, h2⟩)]
  by_cases hB : ins.length ≠ 2 ∨ ((17 : Int) ≠ 18 ∧ args.length ≠ 0)
  case pos => rw [if_pos hB]; exact cT hB rfl
  rw [if_neg hB]
  refine cF hB ?_
  have hk : ins.length = 2 := Decidable.byContradiction fun h => hB (.inl h)
  have hn : args.length = 0 := Decidable.byContradiction fun h => hB (.inr ⟨by decide, h⟩)
  rw [if_neg (by decide), if_neg (by decide), if_neg (by decide), if_pos (by decide)]
  (repeat first | refine bT rfl ?_ | refine bF rfl ?_)
  refine bnd _ rfl ?_
  (repeat first | refine bT rfl ?_ | refine bF rfl ?_)
  refine bnd _ rfl ?_
  (repeat first | refine bT rfl ?_ | refine bF rfl ?_)
  refine bnd _ (lodgeref3_SoftResult_spec hN _ _ (by first | omega | (dsimp only; omega) | (simp; omega))) ?_
  (repeat first | refine cT rfl ?_ | refine cT True.intro ?_)
  rfl

theorem ref_Result_18 {N : Nat} (hN : 20000 ≤ N) (args : List Int) (hargs : args.length ≤ 10000) (ins : List D) : F_lodgeref3_Result N 18 args ins = some (boxD (resV 18 args ins).1, (codeE (resV 18 args ins).2, ())) := by
  unfold F_lodgeref3_Result resV
  rw [if_neg (by decide), if_neg (by decide), show insN 18 = 1 from rfl, show argN 18 = 0 from rfl]
  refine bnd _ rfl ?_
  (repeat first | refine bT rfl ?_ | refine bF rfl ?_)
  refine bnd (18, (args, (ins, (([], (false, ())), (decide (ins.length ≠ 1 ∨ ((18 : Int) ≠ 18 ∧ args.length ≠ 0)), ()))))) ?_ ?_
  · refine bnd _ rfl ?_
    by_cases h1 : ins.length = 1
    case neg =>
      refine cT (by first | omega | (dsimp only; omega) | (simp; omega)) ?_
      rw [decide_eq_true (p := _ ∨ _) (.inl h1)]
    refine cF (by first | omega | (dsimp only; omega) | (simp; omega)) ?_
    (repeat first | refine bT rfl ?_ | refine bF rfl ?_)
    rw [decide_eq_false (p := _ ∨ _) (by rintro (h | ⟨h, _⟩); exact h h1; exact h rfl)]
  by_cases hB : ins.length ≠ 1 ∨ ((18 : Int) ≠ 18 ∧ args.length ≠ 0)
  case pos => rw [if_pos hB]; exact cT hB rfl
  rw [if_neg hB]
  refine cF hB ?_
  have hk : ins.length = 1 := Decidable.byContradiction fun h => hB (.inl h)
  match ins, hk with
  | [a], _ =>
  rw [if_neg (by decide), if_neg (by decide), if_neg (by decide), if_neg (by decide), if_neg (by decide)]
  (repeat first | refine bT rfl ?_ | refine bF rfl ?_)
  refine bnd _ rfl ?_
  (repeat first | refine bT rfl ?_ | refine bF rfl ?_)
  refine bnd _ rfl ?_
  (repeat first | refine bT rfl ?_ | refine bF rfl ?_)
  refine bnd _ (VD_spec hN _) ?_
  show _ = some (boxD (reshRes args a).1, (codeE (reshRes args a).2, ()))
  unfold reshRes
  rcases shapeV_cases a.1 with ha | ⟨ha, ha'⟩
  case inr => rw [ifNF ha]; exact cT ha' rfl
  rw [ifNT (nilT ha)]
  refine cF (by simp [codeE, ha]) ?_
  (repeat first | refine bT rfl ?_ | refine bF rfl ?_)
  have hl : args.length < 1000000 ∧ args.length < N := by omega
  refine bnd _ (lodgeref_Ints_spec args hl.1 hl.2) (cT (by simp) ?_)
  (try simp only [List.take_length])
  refine bnd _ (VD_spec hN _) ?_
  rcases shapeV_cases args with hr | ⟨hr, hr'⟩
  case inr => rw [ifNF hr]; exact cT hr' rfl
  rw [ifNT (nilT hr)]
  refine cF (by simp [codeE, hr]) (cT (by simp) ?_)
  (try simp only [List.take_length])
  refine bnd _ (lodgeref3_Elems_spec hN _) (bnd _ (lodgeref3_Elems_spec hN _) ?_)
  by_cases he : elems args = elems a.1
  case neg => rw [if_pos he]; exact cT he rfl
  rw [if_neg (fun h => h he)]
  refine cF (fun h => h he) ?_
  (repeat first | refine cT rfl ?_ | refine cT True.intro ?_)
  rfl

theorem ref_Result_19 {N : Nat} (hN : 20000 ≤ N) (args : List Int) (ins : List D) : F_lodgeref3_Result N 19 args ins = some (boxD (resV 19 args ins).1, (codeE (resV 19 args ins).2, ())) := by
  unfold F_lodgeref3_Result resV
  rw [if_neg (by decide), if_neg (by decide), show insN 19 = 1 from rfl, show argN 19 = 0 from rfl]
  refine bnd _ rfl ?_
  (repeat first | refine bT rfl ?_ | refine bF rfl ?_)
  refine bnd (19, (args, (ins, (([], (false, ())), (decide (ins.length ≠ 1 ∨ ((19 : Int) ≠ 18 ∧ args.length ≠ 0)), ()))))) ?_ ?_
  · refine bnd _ rfl ?_
    by_cases h1 : ins.length = 1
    case neg =>
      refine cT (by first | omega | (dsimp only; omega) | (simp; omega)) ?_
      rw [decide_eq_true (p := _ ∨ _) (.inl h1)]
    refine cF (by first | omega | (dsimp only; omega) | (simp; omega)) ?_
    (repeat first | refine bT rfl ?_ | refine bF rfl ?_)
    refine bnd _ rfl ?_
    dsimp only
    by_cases h2 : args.length = 0
    · rw [decide_eq_false (show ¬ ((args.length : Int) ≠ 0) by omega), decide_eq_false (p := _ ∨ _) (by rintro (h | ⟨_, h⟩); exact h h1; exact h h2)]
    · rw [decide_eq_true (show (args.length : Int) ≠ 0 by omega), decide_eq_true (p := _ ∨ _) (.inr ⟨by decide, h2⟩)]
  by_cases hB : ins.length ≠ 1 ∨ ((19 : Int) ≠ 18 ∧ args.length ≠ 0)
  case pos => rw [if_pos hB]; exact cT hB rfl
  rw [if_neg hB]
  refine cF hB ?_
  have hk : ins.length = 1 := Decidable.byContradiction fun h => hB (.inl h)
  have hn : args.length = 0 := Decidable.byContradiction fun h => hB (.inr ⟨by decide, h⟩)
  rw [if_neg (by decide), if_neg (by decide), if_neg (by decide), if_pos (by decide)]
  (repeat first | refine bT rfl ?_ | refine bF rfl ?_)
  refine bnd _ rfl ?_
  (repeat first | refine bT rfl ?_ | refine bF rfl ?_)
  refine bnd _ rfl ?_
  (repeat first | refine bT rfl ?_ | refine bF rfl ?_)
  refine bnd _ (lodgeref3_SoftResult_spec hN _ _ (by first | omega | (dsimp only; omega) | (simp; omega))) ?_
  (repeat first | refine cT rfl ?_ | refine cT True.intro ?_)
  rfl

theorem ref_Result_20 {N : Nat} (hN : 20000 ≤ N) (args : List Int) (ins : List D) : F_lodgeref3_Result N 20 args ins = some (boxD (resV 20 args ins).1, (codeE (resV 20 args ins).2, ())) := by
  unfold F_lodgeref3_Result resV
  rw [if_neg (by decide), if_neg (by decide), show insN 20 = 1 from rfl, show argN 20 = 0 from rfl]
  refine bnd _ rfl ?_
  (repeat first | refine bT rfl ?_ | refine bF rfl ?_)
  refine bnd (20, (args, (ins, (([], (false, ())), (decide (ins.length ≠ 1 ∨ ((20 : Int) ≠ 18 ∧ args.length ≠ 0)), ()))))) ?_ ?_
  · refine bnd _ rfl ?_
    by_cases h1 : ins.length = 1
    case neg =>
      refine cT (by first | omega | (dsimp only; omega) | (simp; omega)) ?_
      rw [decide_eq_true (p := _ ∨ _) (.inl h1)]
    refine cF (by first | omega | (dsimp only; omega) | (simp; omega)) ?_
    (repeat first | refine bT rfl ?_ | refine bF rfl ?_)
    refine bnd _ rfl ?_
    dsimp only
    by_cases h2 : args.length = 0
    · rw [decide_eq_false (show ¬ ((args.length : Int) ≠ 0) by omega), decide_eq_false (p := _ ∨ _) (by rintro (h | ⟨_, h⟩); exact h h1; exact h h2)]
    · rw [decide_eq_true (show (args.length : Int) ≠ 0 by omega), decide_eq_true (p := _ ∨ _) (.inr ⟨by decide, h2⟩)]
  by_cases hB : ins.length ≠ 1 ∨ ((20 : Int) ≠ 18 ∧ args.length ≠ 0)
  case pos => rw [if_pos hB]; exact cT hB rfl
  rw [if_neg hB]
  refine cF hB ?_
  have hk : ins.length = 1 := Decidable.byContradiction fun h => hB (.inl h)
  have hn : args.length = 0 := Decidable.byContradiction fun h => hB (.inr ⟨by decide, h⟩)
  rw [if_neg (by decide), if_neg (by decide), if_neg (by decide), if_pos (by decide)]
  (repeat first | refine bT rfl ?_ | refine bF rfl ?_)
  refine bnd _ rfl ?_
  (repeat first | refine bT rfl ?_ | refine bF rfl ?_)
  refine bnd _ rfl ?_
  (repeat first | refine bT rfl ?_ | refine bF rfl ?_)
  refine bnd _ (lodgeref3_SoftResult_spec hN _ _ (by first | omega | (dsimp only; omega) | (simp; omega))) ?_
  (repeat first | refine cT rfl ?_ | refine cT True.intro ?_)
  rfl

theorem ref_Result_21 {N : Nat} (hN : 20000 ≤ N) (args : List Int) (ins : List D) : F_lodgeref3_Result N 21 args ins = some (boxD (resV 21 args ins).1, (codeE (resV 21 args ins).2, ())) := by
  unfold F_lodgeref3_Result resV
  rw [if_neg (by decide), if_neg (by decide), show insN 21 = 1 from rfl, show argN 21 = 0 from rfl]
  refine bnd _ rfl ?_
  (repeat first | refine bT rfl ?_ | refine bF rfl ?_)
  refine bnd (21, (args, (ins, (([], (false, ())), (decide (ins.length ≠ 1 ∨ ((21 : Int) ≠ 18 ∧ args.length ≠ 0)), ()))))) ?_ ?_
  · refine bnd _ rfl ?_
    by_cases h1 : ins.length = 1
    case neg =>
      refine cT (by first | omega | (dsimp only; omega) | (simp; omega)) ?_
      rw [decide_eq_true (p := _ ∨ _) (.inl h1)]
    refine cF (by first | omega | (dsimp only; omega) | (simp; omega)) ?_
    (repeat first | refine bT rfl ?_ | refine bF rfl ?_)
    refine bnd _ rfl ?_
    dsimp only
    by_cases h2 : args.length = 0
    · rw [decide_eq_false (show ¬ ((args.length : Int) ≠ 0) by omega), decide_eq_false (p := _ ∨ _) (by rintro (h | ⟨_, h⟩); exact h h1; exact h h2)]
    · rw [decide_eq_true (show (args.length : Int) ≠ 0 by omega), decide_eq_true (p := _ ∨ _) (.inr ⟨by decide, h2⟩)]
  by_cases hB : ins.length ≠ 1 ∨ ((21 : Int) ≠ 18 ∧ args.length ≠ 0)
  case pos => rw [if_pos hB]; exact cT hB rfl
  rw [if_neg hB]
  refine cF hB ?_
  have hk : ins.length = 1 := Decidable.byContradiction fun h => hB (.inl h)
  have hn : args.length = 0 := Decidable.byContradiction fun h => hB (.inr ⟨by decide, h⟩)
  match ins, hk with
  | [a], _ =>
  have hn' : args = [] := List.length_eq_zero_iff.1 hn
  subst hn'
  rw [if_neg (by decide), if_neg (by decide), if_neg (by decide), if_neg (by decide), if_pos rfl]
  have h0 := ref_Result_turn hN a
  unfold F_lodgeref3_Result at h0
  exact h0

theorem ref_Result_all {N : Nat} (hN : 20000 ≤ N) (op : Int) (args : List Int) (hargs : args.length ≤ 10000) (ins : List D) (hi : ins.length ≤ 1000) : F_lodgeref3_Result N op args ins = some (boxD (resV op args ins).1, (codeE (resV op args ins).2, ())) := by
  by_cases hk : 4 ≤ op ∧ op ≤ 21
  case neg =>
    unfold F_lodgeref3_Result resV
    rw [if_pos hk]
    refine bnd (false, ()) ?_ (bT rfl rfl)
    unfold F_lodgeref3_Known
    by_cases h4 : 4 ≤ op
    · refine cT h4 ?_
      rw [decide_eq_false (by omega)]
    · exact cF h4 rfl
  by_cases h11 : op ≤ 11
  · unfold F_lodgeref3_Result resV
    rw [if_neg (fun h => h hk), if_pos h11]
    refine bnd (true, ()) ?_ (bF rfl (cT h11 ?_))
    · unfold F_lodgeref3_Known
      refine cT hk.1 ?_
      rw [decide_eq_true hk.2]
    refine bnd _ (lodgeref3_ElemResult_spec hN op args ins hi) ?_
    (repeat first | refine cT rfl ?_ | refine cT True.intro ?_)
    rfl
  have h : op = 12 ∨ op = 13 ∨ op = 14 ∨ op = 15 ∨ op = 16 ∨ op = 17 ∨ op = 18 ∨ op = 19 ∨ op = 20 ∨ op = 21 := by omega
  rcases h with rfl | rfl | rfl | rfl | rfl | rfl | rfl | rfl | rfl | rfl
  · exact ref_Result_12 hN args ins
  · exact ref_Result_13 hN args ins
  · exact ref_Result_14 hN args ins
  · exact ref_Result_15 hN args ins
  · exact ref_Result_16 hN args ins
  · exact ref_Result_17 hN args ins
  · exact ref_Result_18 hN args hargs ins
  · exact ref_Result_19 hN args ins
  · exact ref_Result_20 hN args ins
  · exact ref_Result_21 hN args ins

end Go.Proofs.YtmbcbocnncfpbaaDoor.Lg
