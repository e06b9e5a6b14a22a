/-
  What the program's functions come to, in plain words.
-/
import Derived.Test.YtmbcbocnncfpbaaDoorLgElemBR
namespace Go.Proofs.YtmbcbocnncfpbaaDoor.Lg
open Go Go.Eng Go.Proofs

theorem ref_ER_4 {N : Nat} (hN : 20000 ≤ N) (args : List Int) (ins : List D) (hi : ins.length ≤ 1000) : F_lodgeref3_ElemResult N 4 args ins = some (boxD (elemRes 4 args ins).1, (codeE (elemRes 4 args ins).2, ())) := by
  unfold F_lodgeref3_ElemResult elemRes
  rw [if_neg (by decide), show elN 4 = 0 from rfl, show elK 4 = 2 from rfl]
  refine bnd _ rfl (bnd _ rfl ?_)
  (repeat first | refine bT rfl ?_ | refine bF rfl ?_)
  refine bnd _ rfl (bnd _ rfl ?_)
  refine bnd (4, (args, (ins, (([], (false, ())), (true, (decide (args.length ≠ 0 ∨ ins.length ≠ 2), ())))))) ?_ ?_
  · by_cases h1 : args.length = 0
    case neg =>
      refine cT (by first | omega | (dsimp only; omega) | (simp; omega)) ?_
      (repeat first | refine cT rfl ?_ | refine cT True.intro ?_)
      rw [decide_eq_true (p := _ ∨ _) (.inl h1)]
      all_goals rfl
    refine cF (by first | omega | (dsimp only; omega) | (simp; omega)) ?_
    (repeat first | refine cT rfl ?_ | refine cT True.intro ?_)
    dsimp only
    by_cases h2 : ins.length = 2
    · rw [decide_eq_false (show ¬ ((ins.length : Int) ≠ 2) by omega), decide_eq_false (p := _ ∨ _) (by omega)]
      all_goals rfl
    · rw [decide_eq_true (show (ins.length : Int) ≠ 2 by omega), decide_eq_true (p := _ ∨ _) (.inr h2)]
      all_goals rfl
  by_cases hB : args.length ≠ 0 ∨ ins.length ≠ 2
  case pos => rw [if_pos hB]; exact cT hB rfl
  rw [if_neg hB]
  refine cF hB ?_
  refine bnd _ (lodgeref3_descs_spec hN _ (by first | omega | (dsimp only; omega) | (simp; omega))) ?_
  by_cases hb : firstBad ins = .nil
  case neg =>
    rw [ifNF (isNil_false hb)]
    exact cT (fun e => hb ((codeE_zero _).1 e)) rfl
  rw [ifNT (nilT hb)]
  refine cF (by simp [codeE, hb]) ?_
  simp only [not_or, ne_eq, Decidable.not_not] at hB
  match ins, hB.2, hb with
  | [a, b], _, hb =>
  obtain ⟨va, vb⟩ := firstBad_two hb
  have l4 := (shapeV_nil.1 va).1
  refine cT (by simp) ?_
  by_cases h3 : a = b
  case neg =>
    rw [if_pos (.inl ⟨by first | rfl | exact True.intro, h3⟩)]
    refine bnd (4, args, ([], false, ()), (a, ()), true, ()) ?_ rfl
    refine bT rfl (cT (by simp) (bnd _ (lodgeref_SameDesc_spec a b (by omega) (by omega)) ?_))
    refine bT (by simp [h3]) ?_
    (repeat first | refine cT rfl ?_ | refine cT True.intro ?_)
    rfl
  rw [if_neg (by rintro (⟨_, h⟩ | ⟨h, _⟩ | ⟨h, _⟩); exact h h3; exact absurd h (by decide); exact absurd h (by decide))]
  refine bnd (4, args, ([], false, ()), (a, ()), false, ()) ?_ ?_
  · refine bT rfl (cT (by simp) (bnd _ (lodgeref_SameDesc_spec a b (by omega) (by omega)) ?_))
    refine bF (by simp [h3]) ?_
    (repeat first | refine bT rfl ?_ | refine bF rfl ?_)
    rfl
  refine bF rfl (bnd _ (lodgeref_Desc_spec a (by omega) (by omega)) ?_)
  have eF : ∀ w, elFair 4 args w = true := fun _ => rfl
  rw [eF, if_neg (show ¬ (true = false) by decide)]
  (repeat first | refine bT rfl ?_ | refine bF rfl ?_)
  (repeat first | refine cT rfl ?_ | refine cT True.intro ?_)
  rfl

theorem ref_ER_5 {N : Nat} (hN : 20000 ≤ N) (args : List Int) (ins : List D) (hi : ins.length ≤ 1000) : F_lodgeref3_ElemResult N 5 args ins = some (boxD (elemRes 5 args ins).1, (codeE (elemRes 5 args ins).2, ())) := by
  unfold F_lodgeref3_ElemResult elemRes
  rw [if_neg (by decide), show elN 5 = 0 from rfl, show elK 5 = 2 from rfl]
  refine bnd _ rfl (bnd _ rfl ?_)
  (repeat first | refine bT rfl ?_ | refine bF rfl ?_)
  refine bnd _ rfl (bnd _ rfl ?_)
  refine bnd (5, (args, (ins, (([], (false, ())), (true, (decide (args.length ≠ 0 ∨ ins.length ≠ 2), ())))))) ?_ ?_
  · by_cases h1 : args.length = 0
    case neg =>
      refine cT (by first | omega | (dsimp only; omega) | (simp; omega)) ?_
      (repeat first | refine cT rfl ?_ | refine cT True.intro ?_)
      rw [decide_eq_true (p := _ ∨ _) (.inl h1)]
      all_goals rfl
    refine cF (by first | omega | (dsimp only; omega) | (simp; omega)) ?_
    (repeat first | refine cT rfl ?_ | refine cT True.intro ?_)
    dsimp only
    by_cases h2 : ins.length = 2
    · rw [decide_eq_false (show ¬ ((ins.length : Int) ≠ 2) by omega), decide_eq_false (p := _ ∨ _) (by omega)]
      all_goals rfl
    · rw [decide_eq_true (show (ins.length : Int) ≠ 2 by omega), decide_eq_true (p := _ ∨ _) (.inr h2)]
      all_goals rfl
  by_cases hB : args.length ≠ 0 ∨ ins.length ≠ 2
  case pos => rw [if_pos hB]; exact cT hB rfl
  rw [if_neg hB]
  refine cF hB ?_
  refine bnd _ (lodgeref3_descs_spec hN _ (by first | omega | (dsimp only; omega) | (simp; omega))) ?_
  by_cases hb : firstBad ins = .nil
  case neg =>
    rw [ifNF (isNil_false hb)]
    exact cT (fun e => hb ((codeE_zero _).1 e)) rfl
  rw [ifNT (nilT hb)]
  refine cF (by simp [codeE, hb]) ?_
  simp only [not_or, ne_eq, Decidable.not_not] at hB
  match ins, hB.2, hb with
  | [a, b], _, hb =>
  obtain ⟨va, vb⟩ := firstBad_two hb
  have l4 := (shapeV_nil.1 va).1
  refine cT (by simp) ?_
  by_cases h3 : a = b
  case neg =>
    rw [if_pos (.inl ⟨by first | rfl | exact True.intro, h3⟩)]
    refine bnd (5, args, ([], false, ()), (a, ()), true, ()) ?_ rfl
    refine bT rfl (cT (by simp) (bnd _ (lodgeref_SameDesc_spec a b (by omega) (by omega)) ?_))
    refine bT (by simp [h3]) ?_
    (repeat first | refine cT rfl ?_ | refine cT True.intro ?_)
    rfl
  rw [if_neg (by rintro (⟨_, h⟩ | ⟨h, _⟩ | ⟨h, _⟩); exact h h3; exact absurd h (by decide); exact absurd h (by decide))]
  refine bnd (5, args, ([], false, ()), (a, ()), false, ()) ?_ ?_
  · refine bT rfl (cT (by simp) (bnd _ (lodgeref_SameDesc_spec a b (by omega) (by omega)) ?_))
    refine bF (by simp [h3]) ?_
    (repeat first | refine bT rfl ?_ | refine bF rfl ?_)
    rfl
  refine bF rfl (bnd _ (lodgeref_Desc_spec a (by omega) (by omega)) ?_)
  have eF : ∀ w, elFair 5 args w = true := fun _ => rfl
  rw [eF, if_neg (show ¬ (true = false) by decide)]
  (repeat first | refine bT rfl ?_ | refine bF rfl ?_)
  (repeat first | refine cT rfl ?_ | refine cT True.intro ?_)
  rfl

theorem ref_ER_6 {N : Nat} (hN : 20000 ≤ N) (args : List Int) (ins : List D) (hi : ins.length ≤ 1000) : F_lodgeref3_ElemResult N 6 args ins = some (boxD (elemRes 6 args ins).1, (codeE (elemRes 6 args ins).2, ())) := by
  unfold F_lodgeref3_ElemResult elemRes
  rw [if_neg (by decide), show elN 6 = 0 from rfl, show elK 6 = 2 from rfl]
  refine bnd _ rfl (bnd _ rfl ?_)
  (repeat first | refine bT rfl ?_ | refine bF rfl ?_)
  refine bnd _ rfl (bnd _ rfl ?_)
  refine bnd (6, (args, (ins, (([], (false, ())), (true, (decide (args.length ≠ 0 ∨ ins.length ≠ 2), ())))))) ?_ ?_
  · by_cases h1 : args.length = 0
    case neg =>
      refine cT (by first | omega | (dsimp only; omega) | (simp; omega)) ?_
      (repeat first | refine cT rfl ?_ | refine cT True.intro ?_)
      rw [decide_eq_true (p := _ ∨ _) (.inl h1)]
      all_goals rfl
    refine cF (by first | omega | (dsimp only; omega) | (simp; omega)) ?_
    (repeat first | refine cT rfl ?_ | refine cT True.intro ?_)
    dsimp only
    by_cases h2 : ins.length = 2
    · rw [decide_eq_false (show ¬ ((ins.length : Int) ≠ 2) by omega), decide_eq_false (p := _ ∨ _) (by omega)]
      all_goals rfl
    · rw [decide_eq_true (show (ins.length : Int) ≠ 2 by omega), decide_eq_true (p := _ ∨ _) (.inr h2)]
      all_goals rfl
  by_cases hB : args.length ≠ 0 ∨ ins.length ≠ 2
  case pos => rw [if_pos hB]; exact cT hB rfl
  rw [if_neg hB]
  refine cF hB ?_
  refine bnd _ (lodgeref3_descs_spec hN _ (by first | omega | (dsimp only; omega) | (simp; omega))) ?_
  by_cases hb : firstBad ins = .nil
  case neg =>
    rw [ifNF (isNil_false hb)]
    exact cT (fun e => hb ((codeE_zero _).1 e)) rfl
  rw [ifNT (nilT hb)]
  refine cF (by simp [codeE, hb]) ?_
  simp only [not_or, ne_eq, Decidable.not_not] at hB
  match ins, hB.2, hb with
  | [a, b], _, hb =>
  obtain ⟨va, vb⟩ := firstBad_two hb
  have l4 := (shapeV_nil.1 va).1
  refine cT (by simp) ?_
  by_cases h3 : a = b
  case neg =>
    rw [if_pos (.inl ⟨by first | rfl | exact True.intro, h3⟩)]
    refine bnd (6, args, ([], false, ()), (a, ()), true, ()) ?_ rfl
    refine bT rfl (cT (by simp) (bnd _ (lodgeref_SameDesc_spec a b (by omega) (by omega)) ?_))
    refine bT (by simp [h3]) ?_
    (repeat first | refine cT rfl ?_ | refine cT True.intro ?_)
    rfl
  rw [if_neg (by rintro (⟨_, h⟩ | ⟨h, _⟩ | ⟨h, _⟩); exact h h3; exact absurd h (by decide); exact absurd h (by decide))]
  refine bnd (6, args, ([], false, ()), (a, ()), false, ()) ?_ ?_
  · refine bT rfl (cT (by simp) (bnd _ (lodgeref_SameDesc_spec a b (by omega) (by omega)) ?_))
    refine bF (by simp [h3]) ?_
    (repeat first | refine bT rfl ?_ | refine bF rfl ?_)
    rfl
  refine bF rfl (bnd _ (lodgeref_Desc_spec a (by omega) (by omega)) ?_)
  have eF : ∀ w, elFair 6 args w = true := fun _ => rfl
  rw [eF, if_neg (show ¬ (true = false) by decide)]
  (repeat first | refine bT rfl ?_ | refine bF rfl ?_)
  (repeat first | refine cT rfl ?_ | refine cT True.intro ?_)
  rfl

theorem ref_ER_7 {N : Nat} (hN : 20000 ≤ N) (args : List Int) (ins : List D) (hi : ins.length ≤ 1000) : F_lodgeref3_ElemResult N 7 args ins = some (boxD (elemRes 7 args ins).1, (codeE (elemRes 7 args ins).2, ())) := by
  unfold F_lodgeref3_ElemResult elemRes
  rw [if_neg (by decide), show elN 7 = 0 from rfl, show elK 7 = 2 from rfl]
  refine bnd _ rfl (bnd _ rfl ?_)
  (repeat first | refine bT rfl ?_ | refine bF rfl ?_)
  refine bnd _ rfl (bnd _ rfl ?_)
  refine bnd (7, (args, (ins, (([], (false, ())), (true, (decide (args.length ≠ 0 ∨ ins.length ≠ 2), ())))))) ?_ ?_
  · by_cases h1 : args.length = 0
    case neg =>
      refine cT (by first | omega | (dsimp only; omega) | (simp; omega)) ?_
      (repeat first | refine cT rfl ?_ | refine cT True.intro ?_)
      rw [decide_eq_true (p := _ ∨ _) (.inl h1)]
      all_goals rfl
    refine cF (by first | omega | (dsimp only; omega) | (simp; omega)) ?_
    (repeat first | refine cT rfl ?_ | refine cT True.intro ?_)
    dsimp only
    by_cases h2 : ins.length = 2
    · rw [decide_eq_false (show ¬ ((ins.length : Int) ≠ 2) by omega), decide_eq_false (p := _ ∨ _) (by omega)]
      all_goals rfl
    · rw [decide_eq_true (show (ins.length : Int) ≠ 2 by omega), decide_eq_true (p := _ ∨ _) (.inr h2)]
      all_goals rfl
  by_cases hB : args.length ≠ 0 ∨ ins.length ≠ 2
  case pos => rw [if_pos hB]; exact cT hB rfl
  rw [if_neg hB]
  refine cF hB ?_
  refine bnd _ (lodgeref3_descs_spec hN _ (by first | omega | (dsimp only; omega) | (simp; omega))) ?_
  by_cases hb : firstBad ins = .nil
  case neg =>
    rw [ifNF (isNil_false hb)]
    exact cT (fun e => hb ((codeE_zero _).1 e)) rfl
  rw [ifNT (nilT hb)]
  refine cF (by simp [codeE, hb]) ?_
  simp only [not_or, ne_eq, Decidable.not_not] at hB
  match ins, hB.2, hb with
  | [a, b], _, hb =>
  obtain ⟨va, vb⟩ := firstBad_two hb
  have l4 := (shapeV_nil.1 va).1
  refine cT (by simp) ?_
  by_cases h3 : a = b
  case neg =>
    rw [if_pos (.inl ⟨by first | rfl | exact True.intro, h3⟩)]
    refine bnd (7, args, ([], false, ()), (a, ()), true, ()) ?_ rfl
    refine bT rfl (cT (by simp) (bnd _ (lodgeref_SameDesc_spec a b (by omega) (by omega)) ?_))
    refine bT (by simp [h3]) ?_
    (repeat first | refine cT rfl ?_ | refine cT True.intro ?_)
    rfl
  rw [if_neg (by rintro (⟨_, h⟩ | ⟨h, _⟩ | ⟨h, _⟩); exact h h3; exact absurd h (by decide); exact absurd h (by decide))]
  refine bnd (7, args, ([], false, ()), (a, ()), false, ()) ?_ ?_
  · refine bT rfl (cT (by simp) (bnd _ (lodgeref_SameDesc_spec a b (by omega) (by omega)) ?_))
    refine bF (by simp [h3]) ?_
    (repeat first | refine bT rfl ?_ | refine bF rfl ?_)
    rfl
  refine bF rfl (bnd _ (lodgeref_Desc_spec a (by omega) (by omega)) ?_)
  have eF : ∀ w, elFair 7 args w = true := fun _ => rfl
  rw [eF, if_neg (show ¬ (true = false) by decide)]
  (repeat first | refine bT rfl ?_ | refine bF rfl ?_)
  (repeat first | refine cT rfl ?_ | refine cT True.intro ?_)
  rfl

theorem ref_ER_8 {N : Nat} (hN : 20000 ≤ N) (args : List Int) (ins : List D) (hi : ins.length ≤ 1000) : F_lodgeref3_ElemResult N 8 args ins = some (boxD (elemRes 8 args ins).1, (codeE (elemRes 8 args ins).2, ())) := by
  unfold F_lodgeref3_ElemResult elemRes
  rw [if_neg (by decide), show elN 8 = 0 from rfl, show elK 8 = 1 from rfl]
  refine bnd _ rfl (bnd _ rfl ?_)
  (repeat first | refine bT rfl ?_ | refine bF rfl ?_)
  refine bnd _ rfl (bnd _ rfl ?_)
  refine bnd (8, (args, (ins, (([], (false, ())), (false, (decide (args.length ≠ 0 ∨ ins.length ≠ 1), ())))))) ?_ ?_
  · by_cases h1 : args.length = 0
    case neg =>
      refine cT (by first | omega | (dsimp only; omega) | (simp; omega)) ?_
      (repeat first | refine cT rfl ?_ | refine cT True.intro ?_)
      rw [decide_eq_true (p := _ ∨ _) (.inl h1)]
      all_goals rfl
    refine cF (by first | omega | (dsimp only; omega) | (simp; omega)) ?_
    (repeat first | refine cT rfl ?_ | refine cT True.intro ?_)
    dsimp only
    by_cases h2 : ins.length = 1
    · rw [decide_eq_false (show ¬ ((ins.length : Int) ≠ 1) by omega), decide_eq_false (p := _ ∨ _) (by omega)]
      all_goals rfl
    · rw [decide_eq_true (show (ins.length : Int) ≠ 1 by omega), decide_eq_true (p := _ ∨ _) (.inr h2)]
      all_goals rfl
  by_cases hB : args.length ≠ 0 ∨ ins.length ≠ 1
  case pos => rw [if_pos hB]; exact cT hB rfl
  rw [if_neg hB]
  refine cF hB ?_
  refine bnd _ (lodgeref3_descs_spec hN _ (by first | omega | (dsimp only; omega) | (simp; omega))) ?_
  by_cases hb : firstBad ins = .nil
  case neg =>
    rw [ifNF (isNil_false hb)]
    exact cT (fun e => hb ((codeE_zero _).1 e)) rfl
  rw [ifNT (nilT hb)]
  refine cF (by simp [codeE, hb]) ?_
  simp only [not_or, ne_eq, Decidable.not_not] at hB
  match ins, hB.2, hb with
  | [a], _, hb =>
  have va := firstBad_one hb
  have l4 := (shapeV_nil.1 va).1
  refine cT (by simp) ?_
  rw [if_neg (by rintro (⟨h, _⟩ | ⟨h, _⟩ | ⟨h, _⟩) <;> exact absurd h (by decide))]
  refine bnd (8, args, ([], false, ()), (a, ()), false, ()) rfl ?_
  refine bF rfl (bnd _ (lodgeref_Desc_spec a (by omega) (by omega)) ?_)
  have eF : ∀ w, elFair 8 args w = true := fun _ => rfl
  rw [eF, if_neg (show ¬ (true = false) by decide)]
  (repeat first | refine bT rfl ?_ | refine bF rfl ?_)
  (repeat first | refine cT rfl ?_ | refine cT True.intro ?_)
  rfl

theorem ref_ER_9 {N : Nat} (hN : 20000 ≤ N) (args : List Int) (ins : List D) (hi : ins.length ≤ 1000) : F_lodgeref3_ElemResult N 9 args ins = some (boxD (elemRes 9 args ins).1, (codeE (elemRes 9 args ins).2, ())) := by
  unfold F_lodgeref3_ElemResult elemRes
  rw [if_neg (by decide), show elN 9 = 2 from rfl, show elK 9 = 1 from rfl]
  refine bnd _ rfl (bnd _ rfl ?_)
  (repeat first | refine bT rfl ?_ | refine bF rfl ?_)
  refine bnd _ rfl (bnd _ rfl ?_)
  refine bnd (9, (args, (ins, (([], (false, ())), (false, (decide (args.length ≠ 2 ∨ ins.length ≠ 1), ())))))) ?_ ?_
  · by_cases h1 : args.length = 2
    case neg =>
      refine cT (by first | omega | (dsimp only; omega) | (simp; omega)) ?_
      (repeat first | refine cT rfl ?_ | refine cT True.intro ?_)
      rw [decide_eq_true (p := _ ∨ _) (.inl h1)]
      all_goals rfl
    refine cF (by first | omega | (dsimp only; omega) | (simp; omega)) ?_
    (repeat first | refine cT rfl ?_ | refine cT True.intro ?_)
    dsimp only
    by_cases h2 : ins.length = 1
    · rw [decide_eq_false (show ¬ ((ins.length : Int) ≠ 1) by omega), decide_eq_false (p := _ ∨ _) (by omega)]
      all_goals rfl
    · rw [decide_eq_true (show (ins.length : Int) ≠ 1 by omega), decide_eq_true (p := _ ∨ _) (.inr h2)]
      all_goals rfl
  by_cases hB : args.length ≠ 2 ∨ ins.length ≠ 1
  case pos => rw [if_pos hB]; exact cT hB rfl
  rw [if_neg hB]
  refine cF hB ?_
  refine bnd _ (lodgeref3_descs_spec hN _ (by first | omega | (dsimp only; omega) | (simp; omega))) ?_
  by_cases hb : firstBad ins = .nil
  case neg =>
    rw [ifNF (isNil_false hb)]
    exact cT (fun e => hb ((codeE_zero _).1 e)) rfl
  rw [ifNT (nilT hb)]
  refine cF (by simp [codeE, hb]) ?_
  simp only [not_or, ne_eq, Decidable.not_not] at hB
  match ins, hB.2, hb with
  | [a], _, hb =>
  have va := firstBad_one hb
  have l4 := (shapeV_nil.1 va).1
  refine cT (by simp) ?_
  rw [if_neg (by rintro (⟨h, _⟩ | ⟨h, _⟩ | ⟨h, _⟩) <;> exact absurd h (by decide))]
  refine bnd (9, args, ([], false, ()), (a, ()), false, ()) rfl ?_
  refine bF rfl (bnd _ (lodgeref_Desc_spec a (by omega) (by omega)) ?_)
  (repeat first | refine bT rfl ?_ | refine bF rfl ?_)
  have hlen : args.length = 2 := hB.1
  simp only [List.getD_cons_zero]
  have eF : elFair 9 args a.2 = (fitsB a.2 (args.getD 0 0) && fitsB a.2 (args.getD 1 0) && decide (args.getD 0 0 ≤ args.getD 1 0)) := rfl
  refine bnd (([], false, ()), ((a.1, a.2, ()), (!elFair 9 args a.2, ()))) ?_ ?_
  · refine cT (by omega) (bnd _ (lodgeref3_in_spec N _ _) ?_)
    rw [eF]
    cases e1 : fitsB a.2 (args.getD 0 0)
    · refine bT rfl ?_
      (repeat first | refine cT rfl ?_ | refine cT True.intro ?_)
      rfl
    refine bF rfl (cT (by omega) (bnd _ (lodgeref3_in_spec N _ _) ?_))
    cases e2 : fitsB a.2 (args.getD 1 0)
    · refine bT rfl ?_
      (repeat first | refine cT rfl ?_ | refine cT True.intro ?_)
      rfl
    refine bF rfl (cT (by omega) (cT (by omega) ?_))
    (repeat first | refine cT rfl ?_ | refine cT True.intro ?_)
    by_cases e3 : args.getD 0 0 ≤ args.getD 1 0
    · rw [decide_eq_true e3, decide_eq_false (by omega)]
      rfl
    · rw [decide_eq_false e3, decide_eq_true (by omega)]
      rfl
  cases hF : elFair 9 args a.2
  · rfl
  · rfl

theorem ref_ER_10 {N : Nat} (hN : 20000 ≤ N) (args : List Int) (ins : List D) (hi : ins.length ≤ 1000) : F_lodgeref3_ElemResult N 10 args ins = some (boxD (elemRes 10 args ins).1, (codeE (elemRes 10 args ins).2, ())) := by
  unfold F_lodgeref3_ElemResult elemRes
  rw [if_neg (by decide), show elN 10 = 3 from rfl, show elK 10 = 1 from rfl]
  refine bnd _ rfl (bnd _ rfl ?_)
  (repeat first | refine bT rfl ?_ | refine bF rfl ?_)
  refine bnd _ rfl (bnd _ rfl ?_)
  refine bnd (10, (args, (ins, (([], (false, ())), (false, (decide (args.length ≠ 3 ∨ ins.length ≠ 1), ())))))) ?_ ?_
  · by_cases h1 : args.length = 3
    case neg =>
      refine cT (by first | omega | (dsimp only; omega) | (simp; omega)) ?_
      (repeat first | refine cT rfl ?_ | refine cT True.intro ?_)
      rw [decide_eq_true (p := _ ∨ _) (.inl h1)]
      all_goals rfl
    refine cF (by first | omega | (dsimp only; omega) | (simp; omega)) ?_
    (repeat first | refine cT rfl ?_ | refine cT True.intro ?_)
    dsimp only
    by_cases h2 : ins.length = 1
    · rw [decide_eq_false (show ¬ ((ins.length : Int) ≠ 1) by omega), decide_eq_false (p := _ ∨ _) (by omega)]
      all_goals rfl
    · rw [decide_eq_true (show (ins.length : Int) ≠ 1 by omega), decide_eq_true (p := _ ∨ _) (.inr h2)]
      all_goals rfl
  by_cases hB : args.length ≠ 3 ∨ ins.length ≠ 1
  case pos => rw [if_pos hB]; exact cT hB rfl
  rw [if_neg hB]
  refine cF hB ?_
  refine bnd _ (lodgeref3_descs_spec hN _ (by first | omega | (dsimp only; omega) | (simp; omega))) ?_
  by_cases hb : firstBad ins = .nil
  case neg =>
    rw [ifNF (isNil_false hb)]
    exact cT (fun e => hb ((codeE_zero _).1 e)) rfl
  rw [ifNT (nilT hb)]
  refine cF (by simp [codeE, hb]) ?_
  simp only [not_or, ne_eq, Decidable.not_not] at hB
  match ins, hB.2, hb with
  | [a], _, hb =>
  have va := firstBad_one hb
  have l4 := (shapeV_nil.1 va).1
  refine cT (by simp) ?_
  cases h3 : a.2
  case false =>
    rw [if_pos (.inr (.inl ⟨by first | rfl | exact True.intro, h3⟩))]
    refine bnd (10, args, ([], false, ()), (a, ()), true, ()) ?_ rfl
    (repeat first | refine bT rfl ?_ | refine bF rfl ?_)
    refine bT (by simp [h3]) ?_
    (repeat first | refine cT rfl ?_ | refine cT True.intro ?_)
    rfl
  rw [if_neg (by rintro (⟨h, _⟩ | ⟨_, h⟩ | ⟨h, _⟩); exact absurd h (by decide); rw [List.getD_cons_zero, h3] at h; cases h; exact absurd h (by decide))]
  refine bnd (10, args, ([], false, ()), (a, ()), false, ()) ?_ ?_
  · (repeat first | refine bT rfl ?_ | refine bF rfl ?_)
    refine bF (by simp [h3]) ?_
    (repeat first | refine bT rfl ?_ | refine bF rfl ?_)
    rfl
  refine bF rfl (bnd _ (lodgeref_Desc_spec a (by omega) (by omega)) ?_)
  (repeat first | refine bT rfl ?_ | refine bF rfl ?_)
  have hlen : args.length = 3 := hB.1
  simp only [List.getD_cons_zero]
  have eF : elFair 10 args a.2 = (decide (0 ≤ args.getD 0 0) && decide (args.getD 0 0 ≤ 2147483647) && decide (0 ≤ args.getD 1 0) && decide (args.getD 1 0 ≤ 62) && narrowB (args.getD 2 0)) := rfl
  refine bnd (([], false, ()), ((a.1, a.2, ()), (!elFair 10 args a.2, ()))) ?_ ?_
  · refine cT (by omega) ?_
    rw [eF]
    by_cases e1 : args.getD 0 0 < 0
    · rw [decide_eq_false (show ¬ 0 ≤ args.getD 0 0 by omega)]
      refine cT e1 ?_
      (repeat first | refine cT rfl ?_ | refine cT True.intro ?_)
      rfl
    rw [decide_eq_true (show 0 ≤ args.getD 0 0 by omega)]
    refine cF e1 (cT (by omega) ?_)
    by_cases e2 : 2147483647 < args.getD 0 0
    · rw [decide_eq_false (show ¬ args.getD 0 0 ≤ 2147483647 by omega)]
      refine cT e2 ?_
      (repeat first | refine cT rfl ?_ | refine cT True.intro ?_)
      rfl
    rw [decide_eq_true (show args.getD 0 0 ≤ 2147483647 by omega)]
    refine cF e2 (cT (by omega) ?_)
    by_cases e3 : args.getD 1 0 < 0
    · rw [decide_eq_false (show ¬ 0 ≤ args.getD 1 0 by omega)]
      refine cT e3 ?_
      (repeat first | refine cT rfl ?_ | refine cT True.intro ?_)
      rfl
    rw [decide_eq_true (show 0 ≤ args.getD 1 0 by omega)]
    refine cF e3 (cT (by omega) ?_)
    by_cases e4 : 62 < args.getD 1 0
    · rw [decide_eq_false (show ¬ args.getD 1 0 ≤ 62 by omega)]
      refine cT e4 ?_
      (repeat first | refine cT rfl ?_ | refine cT True.intro ?_)
      rfl
    rw [decide_eq_true (show args.getD 1 0 ≤ 62 by omega)]
    refine cF e4 (cT (by omega) (bnd _ (lodgeref3_narrow_spec N _) ?_))
    (repeat first | refine cT rfl ?_ | refine cT True.intro ?_)
    rfl
  cases hF : elFair 10 args a.2
  · rfl
  · rfl

theorem ref_ER_11 {N : Nat} (hN : 20000 ≤ N) (args : List Int) (ins : List D) (hi : ins.length ≤ 1000) : F_lodgeref3_ElemResult N 11 args ins = some (boxD (elemRes 11 args ins).1, (codeE (elemRes 11 args ins).2, ())) := by
  unfold F_lodgeref3_ElemResult elemRes
  rw [if_neg (by decide), show elN 11 = 1 from rfl, show elK 11 = 1 from rfl]
  refine bnd _ rfl (bnd _ rfl ?_)
  (repeat first | refine bT rfl ?_ | refine bF rfl ?_)
  refine bnd _ rfl (bnd _ rfl ?_)
  refine bnd (11, (args, (ins, (([], (false, ())), (false, (decide (args.length ≠ 1 ∨ ins.length ≠ 1), ())))))) ?_ ?_
  · by_cases h1 : args.length = 1
    case neg =>
      refine cT (by first | omega | (dsimp only; omega) | (simp; omega)) ?_
      (repeat first | refine cT rfl ?_ | refine cT True.intro ?_)
      rw [decide_eq_true (p := _ ∨ _) (.inl h1)]
      all_goals rfl
    refine cF (by first | omega | (dsimp only; omega) | (simp; omega)) ?_
    (repeat first | refine cT rfl ?_ | refine cT True.intro ?_)
    dsimp only
    by_cases h2 : ins.length = 1
    · rw [decide_eq_false (show ¬ ((ins.length : Int) ≠ 1) by omega), decide_eq_false (p := _ ∨ _) (by omega)]
      all_goals rfl
    · rw [decide_eq_true (show (ins.length : Int) ≠ 1 by omega), decide_eq_true (p := _ ∨ _) (.inr h2)]
      all_goals rfl
  by_cases hB : args.length ≠ 1 ∨ ins.length ≠ 1
  case pos => rw [if_pos hB]; exact cT hB rfl
  rw [if_neg hB]
  refine cF hB ?_
  refine bnd _ (lodgeref3_descs_spec hN _ (by first | omega | (dsimp only; omega) | (simp; omega))) ?_
  by_cases hb : firstBad ins = .nil
  case neg =>
    rw [ifNF (isNil_false hb)]
    exact cT (fun e => hb ((codeE_zero _).1 e)) rfl
  rw [ifNT (nilT hb)]
  refine cF (by simp [codeE, hb]) ?_
  simp only [not_or, ne_eq, Decidable.not_not] at hB
  match ins, hB.2, hb with
  | [a], _, hb =>
  have va := firstBad_one hb
  have l4 := (shapeV_nil.1 va).1
  refine cT (by simp) ?_
  cases h3 : a.2
  case true =>
    rw [if_pos (.inr (.inr ⟨by first | rfl | exact True.intro, h3⟩))]
    refine bnd (11, args, ([], false, ()), (a, ()), true, ()) ?_ rfl
    (repeat first | refine bT rfl ?_ | refine bF rfl ?_)
    simp only [List.getD_cons_zero, h3]
  rw [if_neg (by rintro (⟨h, _⟩ | ⟨h, _⟩ | ⟨_, h⟩); exact absurd h (by decide); exact absurd h (by decide); rw [List.getD_cons_zero, h3] at h; cases h)]
  refine bnd (11, args, ([], false, ()), (a, ()), false, ()) ?_ ?_
  · (repeat first | refine bT rfl ?_ | refine bF rfl ?_)
    simp only [List.getD_cons_zero, h3]
  refine bF rfl (bnd _ (lodgeref_Desc_spec a (by omega) (by omega)) ?_)
  (repeat first | refine bT rfl ?_ | refine bF rfl ?_)
  have hlen : args.length = 1 := hB.1
  refine cT (by first | omega | (dsimp only; omega) | (simp; omega)) (bnd _ (lodgeref3_narrow_spec N _) ?_)
  have eF : elFair 11 args a.2 = narrowB (args.getD 0 0) := rfl
  simp only [List.getD_cons_zero, h3] at eF ⊢
  rw [eF]
  cases hF : narrowB (args.getD 0 0)
  · rfl
  · rfl

theorem lodgeref3_ElemResult_spec {N : Nat} (hN : 20000 ≤ N) (op : Int) (args : List Int) (ins : List D) (hi : ins.length ≤ 1000) : F_lodgeref3_ElemResult N op args ins = some (boxD (elemRes op args ins).1, (codeE (elemRes op args ins).2, ())) := by
  by_cases hop : 4 ≤ op ∧ op ≤ 11
  · have h : op = 4 ∨ op = 5 ∨ op = 6 ∨ op = 7 ∨ op = 8 ∨ op = 9 ∨ op = 10 ∨ op = 11 := by omega
    rcases h with rfl | rfl | rfl | rfl | rfl | rfl | rfl | rfl
    · exact ref_ER_4 hN args ins hi
    · exact ref_ER_5 hN args ins hi
    · exact ref_ER_6 hN args ins hi
    · exact ref_ER_7 hN args ins hi
    · exact ref_ER_8 hN args ins hi
    · exact ref_ER_9 hN args ins hi
    · exact ref_ER_10 hN args ins hi
    · exact ref_ER_11 hN args ins hi
  · unfold elemRes
    rw [if_pos hop]
    unfold F_lodgeref3_ElemResult
    refine bnd (op, (args, (ins, (([], (false, ())), (false, ()))))) ?_ ?_
    · refine cF (by omega) (cF (by omega) (cF (by omega) ?_))
      rw [decide_eq_false (show ¬ op = 7 by omega)]
    refine bnd (op, (args, (ins, (([], (false, ())), (false, (true, ())))))) ?_ (bT rfl rfl)
    refine bT rfl (cT (by first | omega | (dsimp only; omega) | (simp; omega)) (cT (by first | omega | (dsimp only; omega) | (simp; omega)) (cT (by first | omega | (dsimp only; omega) | (simp; omega)) ?_)))
    (repeat first | refine cT rfl ?_ | refine cT True.intro ?_)
    dsimp only
    rw [decide_eq_true (show op ≠ 11 by omega)]

/-! element by element -/

theorem elem_in_spec (N : Nat) (n lo hi : Int) : F_elem_in N n lo hi = some (decide (lo ≤ n) && decide (n ≤ hi), ()) := by
  unfold F_elem_in
  by_cases h : lo ≤ n
  · exact cT h (by simp [h])
  · exact cF h (by simp [h])

theorem elem_of_spec (N : Nat) (n : Int) (w : Bool) : F_elem_of N n w = some (fitsB w n, ()) := by
  unfold F_elem_of
  cases w
  · exact bF rfl (bnd _ (elem_in_spec N _ _ _) rfl)
  · exact bT rfl (bnd _ (elem_in_spec N _ _ _) rfl)

theorem loop_elem_Result {N : Nat} (hN : 20000 ≤ N) (op : Int) (args : List Int) (ins : List D) (t : List Int × (Bool × Unit)) (k : Int) (l : List D) (hl : l.length < 1000000) : ∀ (n i : Nat), i ≤ l.length → l.length < n + i →
    g_elem_Result_0 N n op args ins t k l l.length i = if firstBad (l.drop i) = .nil then some (.inl (op, (args, (ins, (t, (k, ())))))) else some (.inr (([], (false, ())), (firstBad (l.drop i), ())))
  | 0, i, h, h' => by omega
  | n + 1, i, h, h' => by
    rw [g_elem_Result_0]
    by_cases hi : i < l.length
    · refine cT (by omega) (cT (by omega) (cT (by simpa using hi) (bnd _ (shape_Valid_spec hN _) ?_)))
      rw [drop_cons hi ([], false), Int.toNat_natCast, wi64_succ (by omega), firstBad]
      rcases shapeV_cases (l.getD i ([], false)).1 with h1 | ⟨h1, h2⟩
      · rw [h1]
        refine bF rfl (cT rfl ?_)
        rw [ifT (c := Er.nil.isNil) rfl]
        exact loop_elem_Result hN op args ins t k l hl n (i + 1) hi (by omega)
      · refine bT (by simp only [h1]; rfl) ?_
        have h3 : ¬ shapeV (l.getD i ([], false)).1 = .nil := fun e => by rw [e] at h1; cases h1
        rw [ifF h1, if_neg h3]
    · refine cF (by omega) (cT rfl ?_)
      rw [List.drop_eq_nil_of_le (by omega)]
      rfl

theorem ER_4 {N : Nat} (hN : 20000 ≤ N) (args : List Int) (ins : List D) (hi : ins.length ≤ 1000) : F_elem_Result N 4 args ins = some (boxD (elemRes 4 args ins).1, ((elemRes 4 args ins).2, ())) := by
  unfold F_elem_Result elemRes
  rw [if_neg (by decide), show elN 4 = 0 from rfl, show elK 4 = 2 from rfl]
  refine bnd _ rfl ?_
  (repeat first | refine bT rfl ?_ | refine bF rfl ?_)
  refine bnd (4, (args, (ins, (([], (false, ())), (2, (decide (args.length ≠ 0 ∨ ins.length ≠ 2), ())))))) ?_ ?_
  · by_cases h1 : args.length = 0
    case neg =>
      refine cT (by first | omega | (dsimp only; omega) | (simp; omega)) ?_
      (repeat first | refine cT rfl ?_ | refine cT True.intro ?_)
      rw [decide_eq_true (p := _ ∨ _) (.inl h1)]
      all_goals rfl
    refine cF (by first | omega | (dsimp only; omega) | (simp; omega)) ?_
    (repeat first | refine cT rfl ?_ | refine cT True.intro ?_)
    dsimp only
    by_cases h2 : ins.length = 2
    · rw [decide_eq_false (show ¬ ((ins.length : Int) ≠ 2) by omega), decide_eq_false (p := _ ∨ _) (by omega)]
      all_goals rfl
    · rw [decide_eq_true (show (ins.length : Int) ≠ 2 by omega), decide_eq_true (p := _ ∨ _) (.inr h2)]
      all_goals rfl
  by_cases hB : args.length ≠ 0 ∨ ins.length ≠ 2
  case pos => rw [if_pos hB]; exact cT hB rfl
  rw [if_neg hB]
  refine cF hB ?_
  (repeat first | refine cT rfl ?_ | refine cT True.intro ?_)
  have h0 := loop_elem_Result hN 4 args ins ([], (false, ())) 2 ins (by first | omega | (dsimp only; omega) | (simp; omega)) N 0 (by omega) (by omega)
  rw [show ((0 : Nat) : Int) = 0 from rfl, List.drop_zero] at h0
  dsimp only
  rw [h0]
  by_cases hb : firstBad ins = .nil
  case neg =>
    rw [if_neg hb, ifNF (isNil_false hb)]
    simp only [Option.bind_some, Sum.elim_inr]
    (repeat first | refine cT rfl ?_ | refine cT True.intro ?_)
    rfl
  rw [if_pos hb, ifNT (nilT hb)]
  simp only [Option.bind_some, Sum.elim_inl]
  simp only [not_or, ne_eq, Decidable.not_not] at hB
  match ins, hB.2, hb with
  | [a, b], _, hb =>
  obtain ⟨va, vb⟩ := firstBad_two hb
  have l4 := (shapeV_nil.1 va).1
  refine cT (by simp) ?_
  by_cases h3 : a = b
  case neg =>
    rw [if_pos (.inl ⟨by first | rfl | exact True.intro, h3⟩)]
    refine bnd (4, args, ([], false, ()), (a, ()), true, ()) ?_ rfl
    refine bT rfl (cT (by simp) (bnd _ (shape_Same_spec a b (by omega) (by omega)) ?_))
    refine bT (by simp [h3]) ?_
    (repeat first | refine cT rfl ?_ | refine cT True.intro ?_)
    rfl
  rw [if_neg (by rintro (⟨_, h⟩ | ⟨h, _⟩ | ⟨h, _⟩); exact h h3; exact absurd h (by decide); exact absurd h (by decide))]
  refine bnd (4, args, ([], false, ()), (a, ()), false, ()) ?_ ?_
  · refine bT rfl (cT (by simp) (bnd _ (shape_Same_spec a b (by omega) (by omega)) ?_))
    refine bF (by simp [h3]) ?_
    (repeat first | refine bT rfl ?_ | refine bF rfl ?_)
    rfl
  refine bF rfl ?_
  have eF : ∀ w, elFair 4 args w = true := fun _ => rfl
  rw [eF, if_neg (show ¬ (true = false) by decide)]
  refine bnd _ rfl ?_
  refine bF rfl ?_
  refine bnd _ (shape_Clone_spec N _ (by first | omega | (dsimp only; omega) | (simp; omega))) ?_
  (repeat first | refine cT rfl ?_ | refine cT True.intro ?_)
  rfl

theorem ER_5 {N : Nat} (hN : 20000 ≤ N) (args : List Int) (ins : List D) (hi : ins.length ≤ 1000) : F_elem_Result N 5 args ins = some (boxD (elemRes 5 args ins).1, ((elemRes 5 args ins).2, ())) := by
  unfold F_elem_Result elemRes
  rw [if_neg (by decide), show elN 5 = 0 from rfl, show elK 5 = 2 from rfl]
  refine bnd _ rfl ?_
  (repeat first | refine bT rfl ?_ | refine bF rfl ?_)
  refine bnd (5, (args, (ins, (([], (false, ())), (2, (decide (args.length ≠ 0 ∨ ins.length ≠ 2), ())))))) ?_ ?_
  · by_cases h1 : args.length = 0
    case neg =>
      refine cT (by first | omega | (dsimp only; omega) | (simp; omega)) ?_
      (repeat first | refine cT rfl ?_ | refine cT True.intro ?_)
      rw [decide_eq_true (p := _ ∨ _) (.inl h1)]
      all_goals rfl
    refine cF (by first | omega | (dsimp only; omega) | (simp; omega)) ?_
    (repeat first | refine cT rfl ?_ | refine cT True.intro ?_)
    dsimp only
    by_cases h2 : ins.length = 2
    · rw [decide_eq_false (show ¬ ((ins.length : Int) ≠ 2) by omega), decide_eq_false (p := _ ∨ _) (by omega)]
      all_goals rfl
    · rw [decide_eq_true (show (ins.length : Int) ≠ 2 by omega), decide_eq_true (p := _ ∨ _) (.inr h2)]
      all_goals rfl
  by_cases hB : args.length ≠ 0 ∨ ins.length ≠ 2
  case pos => rw [if_pos hB]; exact cT hB rfl
  rw [if_neg hB]
  refine cF hB ?_
  (repeat first | refine cT rfl ?_ | refine cT True.intro ?_)
  have h0 := loop_elem_Result hN 5 args ins ([], (false, ())) 2 ins (by first | omega | (dsimp only; omega) | (simp; omega)) N 0 (by omega) (by omega)
  rw [show ((0 : Nat) : Int) = 0 from rfl, List.drop_zero] at h0
  dsimp only
  rw [h0]
  by_cases hb : firstBad ins = .nil
  case neg =>
    rw [if_neg hb, ifNF (isNil_false hb)]
    simp only [Option.bind_some, Sum.elim_inr]
    (repeat first | refine cT rfl ?_ | refine cT True.intro ?_)
    rfl
  rw [if_pos hb, ifNT (nilT hb)]
  simp only [Option.bind_some, Sum.elim_inl]
  simp only [not_or, ne_eq, Decidable.not_not] at hB
  match ins, hB.2, hb with
  | [a, b], _, hb =>
  obtain ⟨va, vb⟩ := firstBad_two hb
  have l4 := (shapeV_nil.1 va).1
  refine cT (by simp) ?_
  by_cases h3 : a = b
  case neg =>
    rw [if_pos (.inl ⟨by first | rfl | exact True.intro, h3⟩)]
    refine bnd (5, args, ([], false, ()), (a, ()), true, ()) ?_ rfl
    refine bT rfl (cT (by simp) (bnd _ (shape_Same_spec a b (by omega) (by omega)) ?_))
    refine bT (by simp [h3]) ?_
    (repeat first | refine cT rfl ?_ | refine cT True.intro ?_)
    rfl
  rw [if_neg (by rintro (⟨_, h⟩ | ⟨h, _⟩ | ⟨h, _⟩); exact h h3; exact absurd h (by decide); exact absurd h (by decide))]
  refine bnd (5, args, ([], false, ()), (a, ()), false, ()) ?_ ?_
  · refine bT rfl (cT (by simp) (bnd _ (shape_Same_spec a b (by omega) (by omega)) ?_))
    refine bF (by simp [h3]) ?_
    (repeat first | refine bT rfl ?_ | refine bF rfl ?_)
    rfl
  refine bF rfl ?_
  have eF : ∀ w, elFair 5 args w = true := fun _ => rfl
  rw [eF, if_neg (show ¬ (true = false) by decide)]
  refine bnd _ rfl ?_
  refine bF rfl ?_
  refine bnd _ (shape_Clone_spec N _ (by first | omega | (dsimp only; omega) | (simp; omega))) ?_
  (repeat first | refine cT rfl ?_ | refine cT True.intro ?_)
  rfl

theorem ER_6 {N : Nat} (hN : 20000 ≤ N) (args : List Int) (ins : List D) (hi : ins.length ≤ 1000) : F_elem_Result N 6 args ins = some (boxD (elemRes 6 args ins).1, ((elemRes 6 args ins).2, ())) := by
  unfold F_elem_Result elemRes
  rw [if_neg (by decide), show elN 6 = 0 from rfl, show elK 6 = 2 from rfl]
  refine bnd _ rfl ?_
  (repeat first | refine bT rfl ?_ | refine bF rfl ?_)
  refine bnd (6, (args, (ins, (([], (false, ())), (2, (decide (args.length ≠ 0 ∨ ins.length ≠ 2), ())))))) ?_ ?_
  · by_cases h1 : args.length = 0
    case neg =>
      refine cT (by first | omega | (dsimp only; omega) | (simp; omega)) ?_
      (repeat first | refine cT rfl ?_ | refine cT True.intro ?_)
      rw [decide_eq_true (p := _ ∨ _) (.inl h1)]
      all_goals rfl
    refine cF (by first | omega | (dsimp only; omega) | (simp; omega)) ?_
    (repeat first | refine cT rfl ?_ | refine cT True.intro ?_)
    dsimp only
    by_cases h2 : ins.length = 2
    · rw [decide_eq_false (show ¬ ((ins.length : Int) ≠ 2) by omega), decide_eq_false (p := _ ∨ _) (by omega)]
      all_goals rfl
    · rw [decide_eq_true (show (ins.length : Int) ≠ 2 by omega), decide_eq_true (p := _ ∨ _) (.inr h2)]
      all_goals rfl
  by_cases hB : args.length ≠ 0 ∨ ins.length ≠ 2
  case pos => rw [if_pos hB]; exact cT hB rfl
  rw [if_neg hB]
  refine cF hB ?_
  (repeat first | refine cT rfl ?_ | refine cT True.intro ?_)
  have h0 := loop_elem_Result hN 6 args ins ([], (false, ())) 2 ins (by first | omega | (dsimp only; omega) | (simp; omega)) N 0 (by omega) (by omega)
  rw [show ((0 : Nat) : Int) = 0 from rfl, List.drop_zero] at h0
  dsimp only
  rw [h0]
  by_cases hb : firstBad ins = .nil
  case neg =>
    rw [if_neg hb, ifNF (isNil_false hb)]
    simp only [Option.bind_some, Sum.elim_inr]
    (repeat first | refine cT rfl ?_ | refine cT True.intro ?_)
    rfl
  rw [if_pos hb, ifNT (nilT hb)]
  simp only [Option.bind_some, Sum.elim_inl]
  simp only [not_or, ne_eq, Decidable.not_not] at hB
  match ins, hB.2, hb with
  | [a, b], _, hb =>
  obtain ⟨va, vb⟩ := firstBad_two hb
  have l4 := (shapeV_nil.1 va).1
  refine cT (by simp) ?_
  by_cases h3 : a = b
  case neg =>
    rw [if_pos (.inl ⟨by first | rfl | exact True.intro, h3⟩)]
    refine bnd (6, args, ([], false, ()), (a, ()), true, ()) ?_ rfl
    refine bT rfl (cT (by simp) (bnd _ (shape_Same_spec a b (by omega) (by omega)) ?_))
    refine bT (by simp [h3]) ?_
    (repeat first | refine cT rfl ?_ | refine cT True.intro ?_)
    rfl
  rw [if_neg (by rintro (⟨_, h⟩ | ⟨h, _⟩ | ⟨h, _⟩); exact h h3; exact absurd h (by decide); exact absurd h (by decide))]
  refine bnd (6, args, ([], false, ()), (a, ()), false, ()) ?_ ?_
  · refine bT rfl (cT (by simp) (bnd _ (shape_Same_spec a b (by omega) (by omega)) ?_))
    refine bF (by simp [h3]) ?_
    (repeat first | refine bT rfl ?_ | refine bF rfl ?_)
    rfl
  refine bF rfl ?_
  have eF : ∀ w, elFair 6 args w = true := fun _ => rfl
  rw [eF, if_neg (show ¬ (true = false) by decide)]
  refine bnd _ rfl ?_
  refine bF rfl ?_
  refine bnd _ (shape_Clone_spec N _ (by first | omega | (dsimp only; omega) | (simp; omega))) ?_
  (repeat first | refine cT rfl ?_ | refine cT True.intro ?_)
  rfl

theorem ER_7 {N : Nat} (hN : 20000 ≤ N) (args : List Int) (ins : List D) (hi : ins.length ≤ 1000) : F_elem_Result N 7 args ins = some (boxD (elemRes 7 args ins).1, ((elemRes 7 args ins).2, ())) := by
  unfold F_elem_Result elemRes
  rw [if_neg (by decide), show elN 7 = 0 from rfl, show elK 7 = 2 from rfl]
  refine bnd _ rfl ?_
  (repeat first | refine bT rfl ?_ | refine bF rfl ?_)
  refine bnd (7, (args, (ins, (([], (false, ())), (2, (decide (args.length ≠ 0 ∨ ins.length ≠ 2), ())))))) ?_ ?_
  · by_cases h1 : args.length = 0
    case neg =>
      refine cT (by first | omega | (dsimp only; omega) | (simp; omega)) ?_
      (repeat first | refine cT rfl ?_ | refine cT True.intro ?_)
      rw [decide_eq_true (p := _ ∨ _) (.inl h1)]
      all_goals rfl
    refine cF (by first | omega | (dsimp only; omega) | (simp; omega)) ?_
    (repeat first | refine cT rfl ?_ | refine cT True.intro ?_)
    dsimp only
    by_cases h2 : ins.length = 2
    · rw [decide_eq_false (show ¬ ((ins.length : Int) ≠ 2) by omega), decide_eq_false (p := _ ∨ _) (by omega)]
      all_goals rfl
    · rw [decide_eq_true (show (ins.length : Int) ≠ 2 by omega), decide_eq_true (p := _ ∨ _) (.inr h2)]
      all_goals rfl
  by_cases hB : args.length ≠ 0 ∨ ins.length ≠ 2
  case pos => rw [if_pos hB]; exact cT hB rfl
  rw [if_neg hB]
  refine cF hB ?_
  (repeat first | refine cT rfl ?_ | refine cT True.intro ?_)
  have h0 := loop_elem_Result hN 7 args ins ([], (false, ())) 2 ins (by first | omega | (dsimp only; omega) | (simp; omega)) N 0 (by omega) (by omega)
  rw [show ((0 : Nat) : Int) = 0 from rfl, List.drop_zero] at h0
  dsimp only
  rw [h0]
  by_cases hb : firstBad ins = .nil
  case neg =>
    rw [if_neg hb, ifNF (isNil_false hb)]
    simp only [Option.bind_some, Sum.elim_inr]
    (repeat first | refine cT rfl ?_ | refine cT True.intro ?_)
    rfl
  rw [if_pos hb, ifNT (nilT hb)]
  simp only [Option.bind_some, Sum.elim_inl]
  simp only [not_or, ne_eq, Decidable.not_not] at hB
  match ins, hB.2, hb with
  | [a, b], _, hb =>
  obtain ⟨va, vb⟩ := firstBad_two hb
  have l4 := (shapeV_nil.1 va).1
  refine cT (by simp) ?_
  by_cases h3 : a = b
  case neg =>
    rw [if_pos (.inl ⟨by first | rfl | exact True.intro, h3⟩)]
    refine bnd (7, args, ([], false, ()), (a, ()), true, ()) ?_ rfl
    refine bT rfl (cT (by simp) (bnd _ (shape_Same_spec a b (by omega) (by omega)) ?_))
    refine bT (by simp [h3]) ?_
    (repeat first | refine cT rfl ?_ | refine cT True.intro ?_)
    rfl
  rw [if_neg (by rintro (⟨_, h⟩ | ⟨h, _⟩ | ⟨h, _⟩); exact h h3; exact absurd h (by decide); exact absurd h (by decide))]
  refine bnd (7, args, ([], false, ()), (a, ()), false, ()) ?_ ?_
  · refine bT rfl (cT (by simp) (bnd _ (shape_Same_spec a b (by omega) (by omega)) ?_))
    refine bF (by simp [h3]) ?_
    (repeat first | refine bT rfl ?_ | refine bF rfl ?_)
    rfl
  refine bF rfl ?_
  have eF : ∀ w, elFair 7 args w = true := fun _ => rfl
  rw [eF, if_neg (show ¬ (true = false) by decide)]
  refine bnd _ rfl ?_
  refine bF rfl ?_
  refine bnd _ (shape_Clone_spec N _ (by first | omega | (dsimp only; omega) | (simp; omega))) ?_
  (repeat first | refine cT rfl ?_ | refine cT True.intro ?_)
  rfl

theorem ER_8 {N : Nat} (hN : 20000 ≤ N) (args : List Int) (ins : List D) (hi : ins.length ≤ 1000) : F_elem_Result N 8 args ins = some (boxD (elemRes 8 args ins).1, ((elemRes 8 args ins).2, ())) := by
  unfold F_elem_Result elemRes
  rw [if_neg (by decide), show elN 8 = 0 from rfl, show elK 8 = 1 from rfl]
  refine bnd _ rfl ?_
  (repeat first | refine bT rfl ?_ | refine bF rfl ?_)
  refine bnd (8, (args, (ins, (([], (false, ())), (1, (decide (args.length ≠ 0 ∨ ins.length ≠ 1), ())))))) ?_ ?_
  · by_cases h1 : args.length = 0
    case neg =>
      refine cT (by first | omega | (dsimp only; omega) | (simp; omega)) ?_
      (repeat first | refine cT rfl ?_ | refine cT True.intro ?_)
      rw [decide_eq_true (p := _ ∨ _) (.inl h1)]
      all_goals rfl
    refine cF (by first | omega | (dsimp only; omega) | (simp; omega)) ?_
    (repeat first | refine cT rfl ?_ | refine cT True.intro ?_)
    dsimp only
    by_cases h2 : ins.length = 1
    · rw [decide_eq_false (show ¬ ((ins.length : Int) ≠ 1) by omega), decide_eq_false (p := _ ∨ _) (by omega)]
      all_goals rfl
    · rw [decide_eq_true (show (ins.length : Int) ≠ 1 by omega), decide_eq_true (p := _ ∨ _) (.inr h2)]
      all_goals rfl
  by_cases hB : args.length ≠ 0 ∨ ins.length ≠ 1
  case pos => rw [if_pos hB]; exact cT hB rfl
  rw [if_neg hB]
  refine cF hB ?_
  (repeat first | refine cT rfl ?_ | refine cT True.intro ?_)
  have h0 := loop_elem_Result hN 8 args ins ([], (false, ())) 1 ins (by first | omega | (dsimp only; omega) | (simp; omega)) N 0 (by omega) (by omega)
  rw [show ((0 : Nat) : Int) = 0 from rfl, List.drop_zero] at h0
  dsimp only
  rw [h0]
  by_cases hb : firstBad ins = .nil
  case neg =>
    rw [if_neg hb, ifNF (isNil_false hb)]
    simp only [Option.bind_some, Sum.elim_inr]
    (repeat first | refine cT rfl ?_ | refine cT True.intro ?_)
    rfl
  rw [if_pos hb, ifNT (nilT hb)]
  simp only [Option.bind_some, Sum.elim_inl]
  simp only [not_or, ne_eq, Decidable.not_not] at hB
  match ins, hB.2, hb with
  | [a], _, hb =>
  have va := firstBad_one hb
  have l4 := (shapeV_nil.1 va).1
  refine cT (by simp) ?_
  rw [if_neg (by rintro (⟨h, _⟩ | ⟨h, _⟩ | ⟨h, _⟩) <;> exact absurd h (by decide))]
  refine bnd (8, args, ([], false, ()), (a, ()), false, ()) rfl ?_
  refine bF rfl ?_
  have eF : ∀ w, elFair 8 args w = true := fun _ => rfl
  rw [eF, if_neg (show ¬ (true = false) by decide)]
  refine bnd _ rfl ?_
  refine bF rfl ?_
  refine bnd _ (shape_Clone_spec N _ (by first | omega | (dsimp only; omega) | (simp; omega))) ?_
  (repeat first | refine cT rfl ?_ | refine cT True.intro ?_)
  rfl

theorem ER_9 {N : Nat} (hN : 20000 ≤ N) (args : List Int) (ins : List D) (hi : ins.length ≤ 1000) : F_elem_Result N 9 args ins = some (boxD (elemRes 9 args ins).1, ((elemRes 9 args ins).2, ())) := by
  unfold F_elem_Result elemRes
  rw [if_neg (by decide), show elN 9 = 2 from rfl, show elK 9 = 1 from rfl]
  refine bnd _ rfl ?_
  (repeat first | refine bT rfl ?_ | refine bF rfl ?_)
  refine bnd (9, (args, (ins, (([], (false, ())), (1, (decide (args.length ≠ 2 ∨ ins.length ≠ 1), ())))))) ?_ ?_
  · by_cases h1 : args.length = 2
    case neg =>
      refine cT (by first | omega | (dsimp only; omega) | (simp; omega)) ?_
      (repeat first | refine cT rfl ?_ | refine cT True.intro ?_)
      rw [decide_eq_true (p := _ ∨ _) (.inl h1)]
      all_goals rfl
    refine cF (by first | omega | (dsimp only; omega) | (simp; omega)) ?_
    (repeat first | refine cT rfl ?_ | refine cT True.intro ?_)
    dsimp only
    by_cases h2 : ins.length = 1
    · rw [decide_eq_false (show ¬ ((ins.length : Int) ≠ 1) by omega), decide_eq_false (p := _ ∨ _) (by omega)]
      all_goals rfl
    · rw [decide_eq_true (show (ins.length : Int) ≠ 1 by omega), decide_eq_true (p := _ ∨ _) (.inr h2)]
      all_goals rfl
  by_cases hB : args.length ≠ 2 ∨ ins.length ≠ 1
  case pos => rw [if_pos hB]; exact cT hB rfl
  rw [if_neg hB]
  refine cF hB ?_
  (repeat first | refine cT rfl ?_ | refine cT True.intro ?_)
  have h0 := loop_elem_Result hN 9 args ins ([], (false, ())) 1 ins (by first | omega | (dsimp only; omega) | (simp; omega)) N 0 (by omega) (by omega)
  rw [show ((0 : Nat) : Int) = 0 from rfl, List.drop_zero] at h0
  dsimp only
  rw [h0]
  by_cases hb : firstBad ins = .nil
  case neg =>
    rw [if_neg hb, ifNF (isNil_false hb)]
    simp only [Option.bind_some, Sum.elim_inr]
    (repeat first | refine cT rfl ?_ | refine cT True.intro ?_)
    rfl
  rw [if_pos hb, ifNT (nilT hb)]
  simp only [Option.bind_some, Sum.elim_inl]
  simp only [not_or, ne_eq, Decidable.not_not] at hB
  match ins, hB.2, hb with
  | [a], _, hb =>
  have va := firstBad_one hb
  have l4 := (shapeV_nil.1 va).1
  refine cT (by simp) ?_
  rw [if_neg (by rintro (⟨h, _⟩ | ⟨h, _⟩ | ⟨h, _⟩) <;> exact absurd h (by decide))]
  refine bnd (9, args, ([], false, ()), (a, ()), false, ()) rfl ?_
  refine bF rfl ?_
  have hlen : args.length = 2 := hB.1
  simp only [List.getD_cons_zero]
  have eF : elFair 9 args a.2 = (fitsB a.2 (args.getD 0 0) && fitsB a.2 (args.getD 1 0) && decide (args.getD 0 0 ≤ args.getD 1 0)) := rfl
  refine bnd (([], false, ()), ((a, ()), (elFair 9 args a.2, (a.2, ())))) ?_ ?_
  · (repeat first | refine bT rfl ?_ | refine bF rfl ?_)
    refine cT (by omega) (cT (by omega) ?_)
    rw [eF]
    by_cases e3 : args.getD 0 0 ≤ args.getD 1 0
    case neg =>
      refine cF e3 ?_
      (repeat first | refine cT rfl ?_ | refine cT True.intro ?_)
      rw [decide_eq_false e3, Bool.and_false]
    refine cT e3 (cT (by omega) (bnd _ (elem_of_spec N _ _) ?_))
    cases e1 : fitsB a.2 (args.getD 0 0)
    · refine bF rfl ?_
      (repeat first | refine cT rfl ?_ | refine cT True.intro ?_)
      rfl
    refine bT rfl (cT (by omega) (bnd _ (elem_of_spec N _ _) ?_))
    (repeat first | refine cT rfl ?_ | refine cT True.intro ?_)
    rw [decide_eq_true e3, Bool.and_true]
    rfl
  skip
  cases hF : elFair 9 args a.2
  · rfl
  refine bF rfl ?_
  refine bnd _ (shape_Clone_spec N _ (by first | omega | (dsimp only; omega) | (simp; omega))) ?_
  (repeat first | refine cT rfl ?_ | refine cT True.intro ?_)
  rfl

theorem ER_10 {N : Nat} (hN : 20000 ≤ N) (args : List Int) (ins : List D) (hi : ins.length ≤ 1000) : F_elem_Result N 10 args ins = some (boxD (elemRes 10 args ins).1, ((elemRes 10 args ins).2, ())) := by
  unfold F_elem_Result elemRes
  rw [if_neg (by decide), show elN 10 = 3 from rfl, show elK 10 = 1 from rfl]
  refine bnd _ rfl ?_
  (repeat first | refine bT rfl ?_ | refine bF rfl ?_)
  refine bnd (10, (args, (ins, (([], (false, ())), (1, (decide (args.length ≠ 3 ∨ ins.length ≠ 1), ())))))) ?_ ?_
  · by_cases h1 : args.length = 3
    case neg =>
      refine cT (by first | omega | (dsimp only; omega) | (simp; omega)) ?_
      (repeat first | refine cT rfl ?_ | refine cT True.intro ?_)
      rw [decide_eq_true (p := _ ∨ _) (.inl h1)]
      all_goals rfl
    refine cF (by first | omega | (dsimp only; omega) | (simp; omega)) ?_
    (repeat first | refine cT rfl ?_ | refine cT True.intro ?_)
    dsimp only
    by_cases h2 : ins.length = 1
    · rw [decide_eq_false (show ¬ ((ins.length : Int) ≠ 1) by omega), decide_eq_false (p := _ ∨ _) (by omega)]
      all_goals rfl
    · rw [decide_eq_true (show (ins.length : Int) ≠ 1 by omega), decide_eq_true (p := _ ∨ _) (.inr h2)]
      all_goals rfl
  by_cases hB : args.length ≠ 3 ∨ ins.length ≠ 1
  case pos => rw [if_pos hB]; exact cT hB rfl
  rw [if_neg hB]
  refine cF hB ?_
  (repeat first | refine cT rfl ?_ | refine cT True.intro ?_)
  have h0 := loop_elem_Result hN 10 args ins ([], (false, ())) 1 ins (by first | omega | (dsimp only; omega) | (simp; omega)) N 0 (by omega) (by omega)
  rw [show ((0 : Nat) : Int) = 0 from rfl, List.drop_zero] at h0
  dsimp only
  rw [h0]
  by_cases hb : firstBad ins = .nil
  case neg =>
    rw [if_neg hb, ifNF (isNil_false hb)]
    simp only [Option.bind_some, Sum.elim_inr]
    (repeat first | refine cT rfl ?_ | refine cT True.intro ?_)
    rfl
  rw [if_pos hb, ifNT (nilT hb)]
  simp only [Option.bind_some, Sum.elim_inl]
  simp only [not_or, ne_eq, Decidable.not_not] at hB
  match ins, hB.2, hb with
  | [a], _, hb =>
  have va := firstBad_one hb
  have l4 := (shapeV_nil.1 va).1
  refine cT (by simp) ?_
  cases h3 : a.2
  case false =>
    rw [if_pos (.inr (.inl ⟨by first | rfl | exact True.intro, h3⟩))]
    refine bnd (10, args, ([], false, ()), (a, ()), true, ()) ?_ rfl
    (repeat first | refine bT rfl ?_ | refine bF rfl ?_)
    refine bT (by simp [h3]) ?_
    (repeat first | refine cT rfl ?_ | refine cT True.intro ?_)
    rfl
  rw [if_neg (by rintro (⟨h, _⟩ | ⟨_, h⟩ | ⟨h, _⟩); exact absurd h (by decide); rw [List.getD_cons_zero, h3] at h; cases h; exact absurd h (by decide))]
  refine bnd (10, args, ([], false, ()), (a, ()), false, ()) ?_ ?_
  · (repeat first | refine bT rfl ?_ | refine bF rfl ?_)
    refine bF (by simp [h3]) ?_
    (repeat first | refine bT rfl ?_ | refine bF rfl ?_)
    rfl
  refine bF rfl ?_
  have hlen : args.length = 3 := hB.1
  simp only [List.getD_cons_zero]
  have eF : elFair 10 args a.2 = (decide (0 ≤ args.getD 0 0) && decide (args.getD 0 0 ≤ 2147483647) && decide (0 ≤ args.getD 1 0) && decide (args.getD 1 0 ≤ 62) && narrowB (args.getD 2 0)) := rfl
  refine bnd (([], false, ()), ((a, ()), (elFair 10 args a.2, (false, ())))) ?_ ?_
  · (repeat first | refine bT rfl ?_ | refine bF rfl ?_)
    refine cT (by omega) (bnd _ (elem_in_spec N _ _ _) ?_)
    rw [eF]
    cases e1 : (decide (0 ≤ args.getD 0 0) && decide (args.getD 0 0 ≤ 2147483647))
    · refine bF rfl ?_
      (repeat first | refine cT rfl ?_ | refine cT True.intro ?_)
      rfl
    refine bT rfl (cT (by omega) (bnd _ (elem_in_spec N _ _ _) ?_))
    rw [Bool.true_and]
    cases e2 : (decide (0 ≤ args.getD 1 0) && decide (args.getD 1 0 ≤ 62))
    · refine bF rfl ?_
      (repeat first | refine cT rfl ?_ | refine cT True.intro ?_)
      rfl
    refine bT rfl (cT (by omega) (bnd _ (elem_of_spec N _ _) ?_))
    (repeat first | refine cT rfl ?_ | refine cT True.intro ?_)
    rfl
  simp only [h3] at *
  cases hF : elFair 10 args true
  · rfl
  refine bF rfl ?_
  refine bnd _ (shape_Clone_spec N _ (by first | omega | (dsimp only; omega) | (simp; omega))) ?_
  (repeat first | refine cT rfl ?_ | refine cT True.intro ?_)
  rfl

theorem ER_11 {N : Nat} (hN : 20000 ≤ N) (args : List Int) (ins : List D) (hi : ins.length ≤ 1000) : F_elem_Result N 11 args ins = some (boxD (elemRes 11 args ins).1, ((elemRes 11 args ins).2, ())) := by
  unfold F_elem_Result elemRes
  rw [if_neg (by decide), show elN 11 = 1 from rfl, show elK 11 = 1 from rfl]
  refine bnd _ rfl ?_
  (repeat first | refine bT rfl ?_ | refine bF rfl ?_)
  refine bnd (11, (args, (ins, (([], (false, ())), (1, (decide (args.length ≠ 1 ∨ ins.length ≠ 1), ())))))) ?_ ?_
  · by_cases h1 : args.length = 1
    case neg =>
      refine cT (by first | omega | (dsimp only; omega) | (simp; omega)) ?_
      (repeat first | refine cT rfl ?_ | refine cT True.intro ?_)
      rw [decide_eq_true (p := _ ∨ _) (.inl h1)]
      all_goals rfl
    refine cF (by first | omega | (dsimp only; omega) | (simp; omega)) ?_
    (repeat first | refine cT rfl ?_ | refine cT True.intro ?_)
    dsimp only
    by_cases h2 : ins.length = 1
    · rw [decide_eq_false (show ¬ ((ins.length : Int) ≠ 1) by omega), decide_eq_false (p := _ ∨ _) (by omega)]
      all_goals rfl
    · rw [decide_eq_true (show (ins.length : Int) ≠ 1 by omega), decide_eq_true (p := _ ∨ _) (.inr h2)]
      all_goals rfl
  by_cases hB : args.length ≠ 1 ∨ ins.length ≠ 1
  case pos => rw [if_pos hB]; exact cT hB rfl
  rw [if_neg hB]
  refine cF hB ?_
  (repeat first | refine cT rfl ?_ | refine cT True.intro ?_)
  have h0 := loop_elem_Result hN 11 args ins ([], (false, ())) 1 ins (by first | omega | (dsimp only; omega) | (simp; omega)) N 0 (by omega) (by omega)
  rw [show ((0 : Nat) : Int) = 0 from rfl, List.drop_zero] at h0
  dsimp only
  rw [h0]
  by_cases hb : firstBad ins = .nil
  case neg =>
    rw [if_neg hb, ifNF (isNil_false hb)]
    simp only [Option.bind_some, Sum.elim_inr]
    (repeat first | refine cT rfl ?_ | refine cT True.intro ?_)
    rfl
  rw [if_pos hb, ifNT (nilT hb)]
  simp only [Option.bind_some, Sum.elim_inl]
  simp only [not_or, ne_eq, Decidable.not_not] at hB
  match ins, hB.2, hb with
  | [a], _, hb =>
  have va := firstBad_one hb
  have l4 := (shapeV_nil.1 va).1
  refine cT (by simp) ?_
  cases h3 : a.2
  case true =>
    rw [if_pos (.inr (.inr ⟨by first | rfl | exact True.intro, h3⟩))]
    refine bnd (11, args, ([], false, ()), (a, ()), true, ()) ?_ rfl
    (repeat first | refine bT rfl ?_ | refine bF rfl ?_)
    simp only [List.getD_cons_zero, h3]
  rw [if_neg (by rintro (⟨h, _⟩ | ⟨h, _⟩ | ⟨_, h⟩); exact absurd h (by decide); exact absurd h (by decide); rw [List.getD_cons_zero, h3] at h; cases h)]
  refine bnd (11, args, ([], false, ()), (a, ()), false, ()) ?_ ?_
  · (repeat first | refine bT rfl ?_ | refine bF rfl ?_)
    simp only [List.getD_cons_zero, h3]
  refine bF rfl ?_
  have hlen : args.length = 1 := hB.1
  simp only [List.getD_cons_zero]
  have eF : elFair 11 args a.2 = narrowB (args.getD 0 0) := rfl
  refine bnd (([], false, ()), ((a, ()), (elFair 11 args a.2, (true, ())))) ?_ ?_
  · (repeat first | refine bT rfl ?_ | refine bF rfl ?_)
    refine cT (by first | omega | (dsimp only; omega) | (simp; omega)) (bnd _ (elem_of_spec N _ _) ?_)
    (repeat first | refine cT rfl ?_ | refine cT True.intro ?_)
    rfl
  simp only [h3] at *
  cases hF : elFair 11 args false
  · rfl
  refine bF rfl ?_
  refine bnd _ (shape_Clone_spec N _ (by first | omega | (dsimp only; omega) | (simp; omega))) ?_
  (repeat first | refine cT rfl ?_ | refine cT True.intro ?_)
  rfl

theorem elem_Result_spec {N : Nat} (hN : 20000 ≤ N) (op : Int) (args : List Int) (ins : List D) (hi : ins.length ≤ 1000) : F_elem_Result N op args ins = some (boxD (elemRes op args ins).1, ((elemRes op args ins).2, ())) := by
  by_cases hop : 4 ≤ op ∧ op ≤ 11
  · have h : op = 4 ∨ op = 5 ∨ op = 6 ∨ op = 7 ∨ op = 8 ∨ op = 9 ∨ op = 10 ∨ op = 11 := by omega
    rcases h with rfl | rfl | rfl | rfl | rfl | rfl | rfl | rfl
    · exact ER_4 hN args ins hi
    · exact ER_5 hN args ins hi
    · exact ER_6 hN args ins hi
    · exact ER_7 hN args ins hi
    · exact ER_8 hN args ins hi
    · exact ER_9 hN args ins hi
    · exact ER_10 hN args ins hi
    · exact ER_11 hN args ins hi
  · unfold elemRes
    rw [if_pos hop]
    unfold F_elem_Result
    refine bnd (0, (0, (false, ()))) ?_ (bT rfl rfl)
    unfold F_elem_counts
    refine cF (by omega) (cF (by omega) (cF (by omega) (cF (by omega) (cF (by omega) (cF (by omega) (cF (by omega) (cF (by omega) rfl)))))))

end Go.Proofs.YtmbcbocnncfpbaaDoor.Lg
