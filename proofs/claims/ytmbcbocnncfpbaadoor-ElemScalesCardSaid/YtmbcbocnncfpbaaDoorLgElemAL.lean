/-
  What the program's functions come to, in plain words.
-/
import Derived.Test.YtmbcbocnncfpbaaDoorLgElemAQ
namespace Go.Proofs.YtmbcbocnncfpbaaDoor.Lg
open Go Go.Eng Go.Proofs

theorem dT {p : Prop} [Decidable p] (h : p) : some (decide p, ()) = some (true, ()) := by rw [decide_eq_true h]

/-! what is made of tensors that may be -/

theorem elemRes_mk {op : Int} {args : List Int} {ins : List D} (h1 : 4 ≤ op ∧ op ≤ 11) (h2 : args.length = elN op) (h3 : ins.length = elK op) (h4 : firstBad ins = .nil) (h5 : elK op = 2 → ins.getD 0 noD = ins.getD 1 noD) (h6 : op = 10 → (ins.getD 0 noD).2 = true) (h7 : op = 11 → (ins.getD 0 noD).2 = false)
    (h8 : elFair op args (ins.getD 0 noD).2 = true) : elemRes op args ins = (((ins.getD 0 noD).1, elWide op (ins.getD 0 noD).2), .nil) := by
  unfold elemRes
  rw [if_neg (fun h => h h1), if_neg (by rintro (h | h); exact h h2; exact h h3), ifNT (nilT h4), if_neg, if_neg (by rw [h8]; decide)]
  rintro (⟨ha, hb⟩ | ⟨ha, hb⟩ | ⟨ha, hb⟩)
  · exact hb (h5 ha)
  · rw [h6 ha] at hb; cases hb
  · rw [h7 ha] at hb; cases hb

theorem elemApp_two {op : Int} (hop : op = 4 ∨ op = 5 ∨ op = 6 ∨ op = 7) {a b : T} (va : tensV a = .nil) (vb : tensV b = .nil) (hab : a.1 = b.1) :
    elemApp op [] [a, b] = ((a.1, (List.range a.2.length).map (fun i => elV op a.1.2 (a.2.getD i 0) (b.2.getD i 0) [])), .nil) := by
  have hr : elemRes op [] ([a, b].map Prod.fst) = ((a.1.1, elWide op a.1.2), .nil) := by
    refine elemRes_mk (by omega) ?_ ?_ ?_ (fun _ => hab) (fun h => by omega) (fun h => by omega) ?_
    · rcases hop with rfl | rfl | rfl | rfl <;> rfl
    · rcases hop with rfl | rfl | rfl | rfl <;> rfl
    · show firstBad [a.1, b.1] = .nil
      unfold firstBad firstBad firstBad
      rw [ifT (nilT (tensV_shape va)), ifT (nilT (tensV_shape vb))]
    · rcases hop with rfl | rfl | rfl | rfl <;> rfl
  have hv : firstBadT [a, b] = .nil := by unfold firstBadT firstBadT firstBadT; rw [ifT (nilT va), ifT (nilT vb)]
  have hw : elWide op a.1.2 = a.1.2 := by rcases hop with rfl | rfl | rfl | rfl <;> rfl
  unfold elemApp
  rw [hr, if_neg (show ¬ (firstBadT [a, b] ≠ .nil) from fun h => h hv), if_neg (show ¬ ((((a.1.1, elWide op a.1.2), Er.nil) : D × Er).2 ≠ .nil) from fun h => h rfl), hw]
  rfl

theorem elemApp_one {op : Int} {args : List Int} (hop : op = 8 ∨ op = 9 ∨ op = 10 ∨ op = 11) {a : T} (va : tensV a = .nil) (h2 : args.length = elN op) (h6 : op = 10 → a.1.2 = true) (h7 : op = 11 → a.1.2 = false) (h8 : elFair op args a.1.2 = true) :
    elemApp op args [a] = (((a.1.1, elWide op a.1.2), (List.range a.2.length).map (fun i => elV op a.1.2 (a.2.getD i 0) 0 args)), .nil) := by
  have hk : elK op = 1 := by rcases hop with rfl | rfl | rfl | rfl <;> rfl
  have hr : elemRes op args ([a].map Prod.fst) = ((a.1.1, elWide op a.1.2), .nil) := by
    refine elemRes_mk (by omega) h2 hk.symm ?_ (fun h => by rw [hk] at h; cases h) h6 h7 h8
    show firstBad [a.1] = .nil
    unfold firstBad firstBad
    rw [ifT (nilT (tensV_shape va))]
  have hv : firstBadT [a] = .nil := by unfold firstBadT firstBadT; rw [ifT (nilT va)]
  unfold elemApp
  rw [hr, if_neg (show ¬ (firstBadT [a] ≠ .nil) from fun h => h hv), if_neg (show ¬ ((((a.1.1, elWide op a.1.2), Er.nil) : D × Er).2 ≠ .nil) from fun h => h rfl)]
  rfl

theorem tensV_mk {d : D} {n : Nat} {f : Nat → Int} (hs : shapeV d.1 = .nil) (he : elems d.1 = (n : Int)) (hf : ∀ i, i < n → fitsB d.2 (f i) = true) : tensV (d, (List.range n).map f) = .nil := by
  rw [tensV_iff]
  refine ⟨hs, by simp [he], ?_⟩
  intro x hx
  simp only [List.mem_map, List.mem_range] at hx
  obtain ⟨i, hi, rfl⟩ := hx
  exact hf i hi

theorem kept_fits (w : Bool) (n : Int) : fitsB w (kept w n) = true := by
  unfold kept
  cases w
  · rw [if_neg (by decide), fitsB_narrow]
    exact cut_in (by omega)
  · rw [if_pos rfl, fitsB_wide]
    exact round32_range n

theorem getD_map_range {n i : Nat} (f : Nat → Int) (h : i < n) : ((List.range n).map f).getD i 0 = f i := by
  rw [getD_lt (by simpa using h)]
  simp

theorem map_range_self (l : List Int) : (List.range l.length).map (fun i => l.getD i 0) = l := by
  apply List.ext_getElem
  · simp
  · intro i h1 h2
    simp only [List.getElem_map, List.getElem_range]
    exact getD_lt h2 0

theorem tens_Same_self {N : Nat} {a b : T} (h : a = b) (h1 : a.1.1.length < 1000000) (h1' : a.1.1.length < N) (h2 : a.2.length < 1000000) (h2' : a.2.length < N) : F_tens_Same N a b = some (true, ()) := by
  subst h
  exact tens_Same_refl a h1 h1' h2 h2'

theorem sub_add_round {a b : Int} (ha : -2147483648 ≤ a ∧ a ≤ 2147483647) : round32 (round32 (a + b) - b) = a := by
  unfold round32
  omega

/-! at the ends -/

theorem imin_imax (n : Int) : imin (imax n (-128)) 127 = cut n (-128) 127 := by
  unfold imin imax cut
  repeat' split
  all_goals omega

theorem ElemEdges_law {N : Nat} (hN : 20000 ≤ N) (h1st : F_lodgelaw7_first N = some (true, ())) (x y : Int) : F_lodgelaw7_ElemEdges N x y = some (true, ()) := by
  unfold F_lodgelaw7_ElemEdges
  obtain ⟨M, hM, eM⟩ := Number_nat (N := N) x 7 (by omega) (by omega)
  obtain ⟨K, hK, eK⟩ := Number_nat (N := N) y 7 (by omega) (by omega)
  have near : ∀ M : Nat, M < 7 → -128 ≤ ([-128, -127, -1, 0, 1, 126, 127] : List Int).getD M 0 ∧ ([-128, -127, -1, 0, 1, 126, 127] : List Int).getD M 0 ≤ 127 := by decide
  have far : ∀ M : Nat, M < 7 → -2147483648 ≤ ([-2147483648, -2147483647, -1, 0, 1, 2147483646, 2147483647] : List Int).getD M 0 ∧ ([-2147483648, -2147483647, -1, 0, 1, 2147483646, 2147483647] : List Int).getD M 0 ≤ 2147483647 := by decide
  have a1 := near M hM
  have b1 := near K hK
  have c1 := far M hM
  have d1 := far K hK
  refine bnd _ h1st (bF rfl (bnd _ eM (cT (by omega) (cT (by dsimp only; omega) (cT (by dsimp only; omega) (bnd _ eK (cT (by omega) (cT (by dsimp only; omega) (cT (by dsimp only; omega) ?_)))))))))
  simp only [Int.toNat_natCast, Nat.zero_add]
  generalize ea : ([-128, -127, -1, 0, 1, 126, 127] : List Int).getD M 0 = a at *
  generalize eb : ([-128, -127, -1, 0, 1, 126, 127] : List Int).getD K 0 = b at *
  have hp := mul_abs (A := 128) (B := 128) (a := a) (b := b) (by omega) (by omega) (by omega) (by omega)
  refine bnd _ (elem_Value_spec N 4 false (by omega) (by omega) (by omega) (by omega)) (bnd _ rfl (cF ?_ ?_))
  · rw [imin_imax, wi64_in (by omega) (by omega)]; exact fun h => h rfl
  refine bnd _ (elem_Value_spec N 5 false (by omega) (by omega) (by omega) (by omega)) (bnd _ rfl (cF ?_ ?_))
  · rw [imin_imax, wi64_in (by omega) (by omega)]; exact fun h => h rfl
  refine bnd _ (elem_Value_spec N 6 false (by omega) (by omega) (by omega) (by omega)) (bnd _ rfl (cF ?_ ?_))
  · rw [imin_imax, wi64_in (by omega) (by omega)]; exact fun h => h rfl
  refine bnd _ eM (cT (by omega) (cT (by dsimp only; omega) (cT (by dsimp only; omega) (bnd _ eK (cT (by omega) (cT (by dsimp only; omega) (cT (by dsimp only; omega) ?_)))))))
  simp only [Int.toNat_natCast, Nat.zero_add]
  have hq := mul_abs (A := 2147483648) (B := 2147483648) (a := ([-2147483648, -2147483647, -1, 0, 1, 2147483646, 2147483647] : List Int).getD M 0) (b := ([-2147483648, -2147483647, -1, 0, 1, 2147483646, 2147483647] : List Int).getD K 0) (by omega) (by omega) (by omega) (by omega)
  refine bT rfl (bnd _ (elem_Value_spec N 4 true (by omega) (by omega) (by omega) (by omega)) (bnd _ (tens_Wide_spec N _) (cT ?_ ?_)))
  · rw [wi64_in (by omega) (by omega)]; rfl
  refine bnd _ (elem_Value_spec N 5 true (by omega) (by omega) (by omega) (by omega)) (bnd _ (tens_Wide_spec N _) (cT ?_ ?_))
  · rw [wi64_in (by omega) (by omega)]; rfl
  refine bnd _ (elem_Value_spec N 6 true (by omega) (by omega) (by omega) (by omega)) (bnd _ (tens_Wide_spec N _) (cT ?_ ?_))
  · rw [wi64_in (by omega) (by omega)]; rfl
  refine bnd _ (elem_Value_spec N 7 true (by omega) (by omega) (by omega) (by omega)) ?_
  exact dT (by rw [imax_eq']; rfl)

theorem ElemA_first : F_lodgelaw7_first 100000 = some (true, ()) := by kernel_rfl

theorem ElemEdges_row {N : Nat} (hN : N = 100000) (x : Val (rowTy ps_lodgelaw7_ElemEdges)) (_ : FitsL ps_lodgelaw7_ElemEdges x) : (c_lodgelaw7_ElemEdges N).g x = some (true, ()) := by
  subst hN
  exact ElemEdges_law (by omega) ElemA_first _ _

/-! a value -/

theorem elV_one {op : Int} {w : Bool} {x y : Int} {args : List Int} (h : op = 8 ∨ op = 9 ∨ op = 10 ∨ op = 11) : elV op w x 0 args = elV op w x y args := by
  rcases h with rfl | rfl | rfl | rfl <;> rfl

/-- what is asked of a value, once its args are known -/
theorem ElemValues_tail {N : Nat} (hN : 20000 ≤ N) {op x y : Int} {kind : Bool} {args : List Int} (hop : 4 ≤ op ∧ op ≤ 11) (hx : fitsB kind x = true) (hy : fitsB kind y = true) (h2 : args.length = elN op) (h6 : op = 10 → kind = true) (h7 : op = 11 → kind = false) (h8 : elFair op args kind = true) :
    F_elem_Value N op kind x y args = some (elV op kind x y args, ()) ∧ F_lodgeref3_Value N op kind x y args = some (elV op kind x y args, ()) ∧
    ((op ≤ 7 → ∃ sh w, F_elem_Two N op (([], kind), [x]) (([], kind), [y]) = some (boxT sh w [elV op kind x y args], (.nil, ()))) ∧ (7 < op → ∃ sh w, F_elem_One N op (([], kind), [x]) args = some (boxT sh w [elV op kind x y args], (.nil, ())))) := by
  have hx' : -2147483648 ≤ x ∧ x ≤ 2147483647 := by
    cases kind
    · have := fitsB_narrow.1 hx; omega
    · exact fitsB_wide.1 hx
  have hy' : -2147483648 ≤ y ∧ y ≤ 2147483647 := by
    cases kind
    · have := fitsB_narrow.1 hy; omega
    · exact fitsB_wide.1 hy
  have h11 : op = 11 → -2147483648 ≤ args.getD 0 0 ∧ args.getD 0 0 ≤ 2147483647 := fun ho => by subst ho; have := elFair_11 h8; omega
  have e0 : elems [] = ((1 : Nat) : Int) := by decide
  have s0 : shapeV [] = .nil := by decide
  have vx : tensV (([], kind), [x]) = .nil := by
    rw [tensV_iff]
    exact ⟨s0, by rw [e0]; rfl, by simpa using hx⟩
  have vy : tensV (([], kind), [y]) = .nil := by
    rw [tensV_iff]
    exact ⟨s0, by rw [e0]; rfl, by simpa using hy⟩
  refine ⟨?_, lodgeref3_Value_spec N op kind hx' hy' (by omega) h11, fun h => ?_, fun h => ?_⟩
  · rw [elem_Value_spec N op kind hx' hy' (fun ho => by subst ho; exact elFair_9 h8) h11, if_neg (by omega)]
  · have ho : op = 4 ∨ op = 5 ∨ op = 6 ∨ op = 7 := by omega
    have hn : args = [] := by
      apply List.length_eq_zero_iff.1
      rw [h2]
      rcases ho with rfl | rfl | rfl | rfl <;> rfl
    subst hn
    refine ⟨[], kind, ?_⟩
    rw [elem_Two_spec hN, elemApp_two ho vx vy rfl]
    rfl
  · have ho : op = 8 ∨ op = 9 ∨ op = 10 ∨ op = 11 := by omega
    refine ⟨[], elWide op kind, ?_⟩
    rw [elem_One_spec hN, elemApp_one ho vx h2 h6 h7 h8, ← elV_one ho]
    rfl

theorem ElemValues_law {N : Nat} (hN : 20000 ≤ N) (h1st : F_lodgelaw7_first N = some (true, ())) (op x y : Int) (wide : Bool) (p q r : Int) : F_lodgelaw7_ElemValues N op x y wide p q r = some (true, ()) := by
  unfold F_lodgelaw7_ElemValues
  refine bnd _ h1st (bF rfl ?_)
  obtain ⟨X, Y, hX, hY, hjoin⟩ : ∃ X Y : Int, fitsB wide X = true ∧ fitsB wide Y = true ∧ (cond wide
      (Option.bind (F_tens_Wide N x) fun y1 => Option.bind (F_tens_Wide N y) fun y2 => some (op, ((y1).1, ((y2).1, (wide, (p, (q, (r, (true, ())))))))))
      (Option.bind (F_lodgeworld_Number N x (256 : Int)) fun y3 => Option.bind (F_lodgeworld_Number N y (256 : Int)) fun y4 => some (op, ((wi64 ((y3).1 - (128 : Int))), ((wi64 ((y4).1 - (128 : Int))), (wide, (p, (q, (r, (true, ()))))))))))
      = some (op, (X, (Y, (wide, (p, (q, (r, (true, ())))))))) := by
    cases wide
    · obtain ⟨M, hM, eM⟩ := Number_nat (N := N) x 256 (by omega) (by omega)
      obtain ⟨K, hK, eK⟩ := Number_nat (N := N) y 256 (by omega) (by omega)
      refine ⟨(M : Int) - 128, (K : Int) - 128, by rw [fitsB_narrow]; omega, by rw [fitsB_narrow]; omega, bF rfl (bnd _ eM (bnd _ eK ?_))⟩
      rw [wi64_in (n := (M : Int) - 128) (by omega) (by omega), wi64_in (n := (K : Int) - 128) (by omega) (by omega)]
    · exact ⟨round32 x, round32 y, by rw [fitsB_wide]; exact round32_range x, by rw [fitsB_wide]; exact round32_range y, bT rfl (bnd _ (tens_Wide_spec N _) (bnd _ (tens_Wide_spec N _) rfl))⟩
  refine bnd _ hjoin ?_
  clear hjoin
  dsimp only
  by_cases hop : 4 ≤ op ∧ op ≤ 11
  · -- one of these
    obtain ⟨Pn, hPn, ePn⟩ := mod_nat p 2147483648 (by omega)
    obtain ⟨Qn, hQn, eQn⟩ := mod_nat q 63 (by omega)
    obtain ⟨Rn, hRn, eRn⟩ := mod_nat r 256 (by omega)
    have nP := lodgeworld_Number_spec N p 2147483648 (by omega) (by omega)
    have nQ := lodgeworld_Number_spec N q 63 (by omega) (by omega)
    have nR := lodgeworld_Number_spec N r 256 (by omega) (by omega)
    have ePn' : p % 2147483648 = (Pn : Int) := ePn
    have eQn' : q % 63 = (Qn : Int) := eQn
    have eRn' : r % 256 = (Rn : Int) := eRn
    rw [ePn'] at nP
    rw [eQn'] at nQ
    rw [eRn'] at nR
    have eR : wi64 ((Rn : Int) - 128) = (Rn : Int) - 128 := wi64_in (by omega) (by omega)
    by_cases h11w : op = 11 ∧ wide = true
    · obtain ⟨rfl, rfl⟩ := h11w
      exact bnd (.inr (true, ())) (cF (by decide) (cF (by decide) (cT rfl (bnd _ nR (bT rfl rfl))))) rfl
    obtain ⟨A, hA⟩ : ∃ A : List Int, A = if op = 9 then [imin X Y, imax X Y] else if op = 10 then [(Pn : Int), (Qn : Int), (Rn : Int) - 128] else if op = 11 then [(Rn : Int) - 128] else [] := ⟨_, rfl⟩
    obtain ⟨K, hK⟩ : ∃ K : Bool, K = if op = 10 then true else if op = 11 then false else wide := ⟨_, rfl⟩
    refine bnd (.inl (op, (X, (Y, (wide, (true, (A, (K, ()))))))) ) ?_ ?_
    · by_cases h9 : op = 9
      · subst h9
        rw [if_pos rfl] at hA
        rw [if_neg (by decide), if_neg (by decide)] at hK
        rw [hA, hK]
        exact cT rfl rfl
      refine cF h9 ?_
      by_cases h10 : op = 10
      · subst h10
        rw [if_neg (by decide), if_pos rfl] at hA
        rw [if_pos rfl] at hK
        rw [hA, hK]
        refine cT rfl (bnd _ nP (bnd _ nQ (bnd _ nR ?_)))
        rw [eR]
      refine cF h10 ?_
      by_cases h11 : op = 11
      · subst h11
        have hw : wide = false := by
          cases wide
          · rfl
          · exact absurd ⟨rfl, rfl⟩ h11w
        rw [if_neg (by decide), if_neg (by decide), if_pos rfl] at hA
        rw [if_neg (by decide), if_pos rfl] at hK
        rw [hA, hK]
        refine cT rfl (bnd _ nR (bF hw ?_))
        rw [eR]
      refine cF h11 ?_
      rw [if_neg h9, if_neg h10, if_neg h11] at hA
      rw [if_neg h10, if_neg h11] at hK
      rw [hA, hK]
    have props : A.length = elN op ∧ (op = 10 → K = true) ∧ (op = 11 → K = false) ∧ elFair op A K = true ∧ fitsB K X = true ∧ fitsB K Y = true := by
      have up : ∀ z, fitsB wide z = true → fitsB true z = true := by
        intro z hz
        cases wide
        · have := fitsB_narrow.1 hz
          rw [fitsB_wide]
          omega
        · exact hz
      by_cases h9 : op = 9
      · subst h9
        rw [if_pos rfl] at hA
        rw [if_neg (by decide), if_neg (by decide)] at hK
        subst hA
        subst hK
        refine ⟨rfl, fun h => absurd h (by decide), fun h => absurd h (by decide), ?_, hX, hY⟩
        have e : elFair 9 [imin X Y, imax X Y] K = (fitsB K (imin X Y) && fitsB K (imax X Y) && decide (imin X Y ≤ imax X Y)) := rfl
        rw [e]
        have h1 : imin X Y = X ∨ imin X Y = Y := by unfold imin; split <;> simp
        have h2 : imax X Y = X ∨ imax X Y = Y := by unfold imax; split <;> simp
        have h3 : imin X Y ≤ imax X Y := by unfold imin imax; repeat' split
                                            all_goals omega
        have h4 : fitsB K (imin X Y) = true := by rcases h1 with h | h <;> rw [h] <;> assumption
        have h5 : fitsB K (imax X Y) = true := by rcases h2 with h | h <;> rw [h] <;> assumption
        rw [h4, h5, decide_eq_true h3]
        rfl
      by_cases h10 : op = 10
      · subst h10
        rw [if_neg (by decide), if_pos rfl] at hA
        rw [if_pos rfl] at hK
        subst hA
        subst hK
        refine ⟨rfl, fun _ => rfl, fun h => absurd h (by decide), ?_, up _ hX, up _ hY⟩
        have e : elFair 10 [(Pn : Int), (Qn : Int), (Rn : Int) - 128] true = (decide ((0 : Int) ≤ Pn) && decide ((Pn : Int) ≤ 2147483647) && decide ((0 : Int) ≤ Qn) && decide ((Qn : Int) ≤ 62) && narrowB ((Rn : Int) - 128)) := rfl
        have h4 : narrowB ((Rn : Int) - 128) = true := by rw [narrowB_iff]; omega
        rw [e, h4, decide_eq_true (show (0 : Int) ≤ Pn by omega), decide_eq_true (show (Pn : Int) ≤ 2147483647 by omega), decide_eq_true (show (0 : Int) ≤ Qn by omega), decide_eq_true (show (Qn : Int) ≤ 62 by omega)]
        rfl
      by_cases h11 : op = 11
      · subst h11
        have hw : wide = false := by
          cases wide
          · rfl
          · exact absurd ⟨rfl, rfl⟩ h11w
        subst hw
        rw [if_neg (by decide), if_neg (by decide), if_pos rfl] at hA
        rw [if_neg (by decide), if_pos rfl] at hK
        subst hA
        subst hK
        refine ⟨rfl, fun h => absurd h (by decide), fun _ => rfl, ?_, hX, hY⟩
        show narrowB ((Rn : Int) - 128) = true
        rw [narrowB_iff]
        omega
      rw [if_neg h9, if_neg h10, if_neg h11] at hA
      rw [if_neg h10, if_neg h11] at hK
      subst hA
      subst hK
      have ho : op = 4 ∨ op = 5 ∨ op = 6 ∨ op = 7 ∨ op = 8 := by omega
      refine ⟨?_, fun h => absurd h h10, fun h => absurd h h11, ?_, hX, hY⟩
      · rcases ho with rfl | rfl | rfl | rfl | rfl <;> rfl
      · rcases ho with rfl | rfl | rfl | rfl | rfl <;> rfl
    obtain ⟨q1, q2, q3, q4, q5, q6⟩ := props
    obtain ⟨v1, v2, v3, v4⟩ := ElemValues_tail hN hop q5 q6 q1 q2 q3 q4
    clear hA hK
    dsimp only [Sum.elim_inl]
    refine bnd (op, (X, (Y, (wide, (true, (A, (K, (false, ())))))))) ?_ ?_
    · refine cF (by omega) ?_
      (repeat first | refine cT rfl ?_ | refine cT True.intro ?_)
      rw [decide_eq_false (show ¬ 11 < op by omega)]
    refine bF rfl (cT (by simp) ?_)
    simp only [List.take_length]
    refine bnd _ v1 (cT (by simp) (bnd _ v2 (cF (fun h => h rfl) ?_)))
    by_cases h7 : op ≤ 7
    · obtain ⟨sh, w, e⟩ := v3 h7
      refine bnd (true, (elV op K X Y A, (boxT sh w [elV op K X Y A], (.nil, ())))) ?_ ?_
      · refine bnd (true, ()) ?_ (bT rfl (bnd _ e ?_))
        · unfold F_lodgelaw7_two
          refine cT hop.1 ?_
          rw [decide_eq_true h7]
        (repeat first | refine cT rfl ?_ | refine cT True.intro ?_)
        rfl
      · refine bT rfl (bT rfl (cT rfl (cT (by simp) (cT (by simp) ?_))))
        simp
    · obtain ⟨sh, w, e⟩ := v4 (by omega)
      refine bnd (true, (elV op K X Y A, (boxT sh w [elV op K X Y A], (.nil, ())))) ?_ ?_
      · refine bnd (false, ()) ?_ (bF rfl (cT (by simp) (bnd _ e ?_)))
        · unfold F_lodgelaw7_two
          refine cT hop.1 ?_
          rw [decide_eq_false h7]
        (repeat first | refine cT rfl ?_ | refine cT True.intro ?_)
        rfl
      · refine bT rfl (bT rfl (cT rfl (cT (by simp) (cT (by simp) ?_))))
        simp
  · -- none of these
    have h9 : op ≠ 9 := by omega
    have h10 : op ≠ 10 := by omega
    have h11 : op ≠ 11 := by omega
    refine bnd (.inl (op, (X, (Y, (wide, (true, ([], (wide, ()))))))) ) (cF h9 (cF h10 (cF h11 rfl))) ?_
    dsimp only [Sum.elim_inl]
    refine bnd (op, (X, (Y, (wide, (true, ([], (wide, (true, ())))))))) ?_ ?_
    · by_cases h4 : op < 4
      · refine cT h4 ?_
        (repeat first | refine cT rfl ?_ | refine cT True.intro ?_)
        rfl
      · refine cF h4 ?_
        (repeat first | refine cT rfl ?_ | refine cT True.intro ?_)
        rw [decide_eq_true (show 11 < op by omega)]
    refine bT rfl (bT rfl (cT (by simp) (bnd _ (elem_Value_out N op wide X Y _ hop) ?_)))
    rfl

theorem ElemValues_row {N : Nat} (hN : N = 100000) (x : Val (rowTy ps_lodgelaw7_ElemValues)) (_ : FitsL ps_lodgelaw7_ElemValues x) : (c_lodgelaw7_ElemValues N).g x = some (true, ()) := by
  subst hN
  exact ElemValues_law (by omega) ElemA_first _ _ _ _ _ _ _

end Go.Proofs.YtmbcbocnncfpbaaDoor.Lg
