/-
  What the program's functions come to, in plain words.
-/
import Derived.Test.YtmbcbocnncfpbaaDoorLgElemAL
namespace Go.Proofs.YtmbcbocnncfpbaaDoor.Lg
open Go Go.Eng Go.Proofs

/-! by a scale -/

def scD (l : List Int) (i : Nat) : Int := l.getD i 0 % 256 - 128

theorem scD_in (l : List Int) (i : Nat) : -128 ≤ scD l i ∧ scD l i ≤ 127 := by unfold scD; omega

theorem loop_ElemScales_0 (N : Nat) (l : List Int) (hl : l.length ≤ 1000) (z m s : Int) (sh : List Int) (w : Bool) : ∀ (cnt i : Nat), i ≤ l.length → l.length < cnt + i →
    g_lodgelaw7_ElemScales_0 N cnt l z m s (boxT sh w ((List.range i).map (scD l))) i = some (l, (z, (m, (s, (boxT sh w ((List.range l.length).map (scD l)), ())))))
  | 0, i, h, h' => by omega
  | cnt + 1, i, h, h' => by
    rw [g_lodgelaw7_ElemScales_0]
    by_cases hi : i < l.length
    · have hs := scD_in l i
      have e : List.take (List.length ((List.range i).map (scD l))) ((List.range i).map (scD l)) ++ [scD l i] = (List.range (i + 1)).map (scD l) := by
        rw [List.take_length, List.range_succ, List.map_append]
        rfl
      have e2 : wi64 (l.getD i 0 % 256 - 128) = scD l i := by
        unfold scD at hs ⊢
        exact wi64_in (by omega) (by omega)
      refine cT (by omega) (cT (by omega) (cT (by simpa using hi) (bnd _ (lodgeworld_Number_spec N _ _ (by omega) (by omega)) ?_)))
      simp only [Int.toNat_natCast, e2]
      refine cT (by omega) (cT (by simp [most]; omega) ?_)
      (repeat first | refine cT rfl ?_ | refine cT True.intro ?_)
      simp only [e]
      refine cT (by simp) ?_
      rw [wi64_succ (by omega)]
      exact loop_ElemScales_0 N l hl z m s sh w cnt (i + 1) hi (by omega)
    · have : i = l.length := by omega
      refine cF (by omega) ?_
      (repeat first | refine cT rfl ?_ | refine cT True.intro ?_)
      rw [this]

theorem loop_ElemScales_1 (N : Nat) (l : List Int) (hl : l.length ≤ 1000) (z m s : Int) (hz : -128 ≤ z ∧ z ≤ 127) (a : T) (ha : a.2 = (List.range l.length).map (scD l)) (sh : List Int) (w : Bool) : ∀ (cnt i : Nat), i ≤ l.length → l.length < cnt + i →
    g_lodgelaw7_ElemScales_1 N cnt l z m s (a, ()) (boxT sh w ((List.range l.length).map (fun i => requ (scD l i - z) m s z))) i = some (.inl ())
  | 0, i, h, h' => by omega
  | cnt + 1, i, h, h' => by
    rw [g_lodgelaw7_ElemScales_1]
    by_cases hi : i < l.length
    · have hs := scD_in l i
      have eg : a.2.getD i 0 = scD l i := by rw [ha]; exact getD_map_range _ hi
      refine cT (by omega) (cT (by omega) (cT (by simpa using hi) (cT (by simpa using hi) (cT (by omega) (cT (by rw [ha]; simpa using hi) ?_)))))
      simp only [Int.toNat_natCast, eg, wi64_in (n := scD l i - z) (by omega) (by omega), Nat.zero_add]
      refine bnd _ (quant_Requant_spec N _ _ _ _) (cF ?_ ?_)
      · rw [getD_map_range _ hi]
        exact fun h => h rfl
      (repeat first | refine cT rfl ?_ | refine cT True.intro ?_)
      rw [wi64_succ (by omega)]
      exact loop_ElemScales_1 N l hl z m s hz a ha sh w cnt (i + 1) hi (by omega)
    · exact cF (by omega) rfl

theorem requ_unit {d z : Int} (hd : -128 ≤ d ∧ d ≤ 127) (hz : -128 ≤ z ∧ z ≤ 127) : requ (d - z) 1073741824 30 z = d := by
  unfold requ
  have e1 : cut 30 0 62 = 30 := by decide
  have e2 : cut (d - z) (-2147483648) 2147483647 = d - z := by unfold cut; rw [if_neg (by omega), if_neg (by omega)]
  have e3 : cut 1073741824 0 2147483647 = 1073741824 := by decide
  have e4 : cut z (-128) 127 = z := by unfold cut; rw [if_neg (by omega), if_neg (by omega)]
  rw [e1, e2, e3, e4, if_pos (by omega)]
  have e5 : ((d - z) * 1073741824 + 2 ^ ((30 : Int).toNat - 1)) / 2 ^ (30 : Int).toNat = d - z := by
    have p1 : ((2 : Int) ^ ((30 : Int).toNat - 1)) = 536870912 := by decide
    have p2 : ((2 : Int) ^ (30 : Int).toNat) = 1073741824 := by decide
    rw [p1, p2]
    omega
  rw [e5]
  unfold cut
  rw [if_neg (by omega), if_neg (by omega)]
  omega

theorem ElemScales_law {N : Nat} (hN : 20000 ≤ N) (h1st : F_lodgelaw7_first N = some (true, ())) (l : List Int) (zero mult shift : Int) : F_lodgelaw7_ElemScales N l zero mult shift = some (true, ()) := by
  unfold F_lodgelaw7_ElemScales
  refine bnd _ h1st (bF rfl ?_)
  by_cases h1 : (100 : Int) < l.length
  · exact cT h1 rfl
  refine cF h1 ?_
  by_cases h2 : (l.length : Int) = 0
  · exact cT h2 rfl
  refine cF h2 (bF rfl ?_)
  obtain ⟨Z, hZ, eZ⟩ := mod_nat zero 256 (by omega)
  obtain ⟨M, hM, eM⟩ := mod_nat mult 2147483648 (by omega)
  obtain ⟨S, hS, eS⟩ := mod_nat shift 63 (by omega)
  have nZ := lodgeworld_Number_spec N zero 256 (by omega) (by omega)
  have nM := lodgeworld_Number_spec N mult 2147483648 (by omega) (by omega)
  have nS := lodgeworld_Number_spec N shift 63 (by omega) (by omega)
  rw [show zero % 256 = (Z : Int) from eZ] at nZ
  rw [show mult % 2147483648 = (M : Int) from eM] at nM
  rw [show shift % 63 = (S : Int) from eS] at nS
  refine bnd _ nZ (bnd _ nM (bnd _ nS ?_))
  dsimp only
  rw [wi64_in (n := (Z : Int) - 128) (by omega) (by omega)]
  obtain ⟨z, hz⟩ : ∃ z : Int, z = (Z : Int) - 128 := ⟨_, rfl⟩
  rw [← hz]
  have hz' : -128 ≤ z ∧ z ≤ 127 := by omega
  have h0 := loop_ElemScales_0 N l (by omega) z M S [(l.length : Int)] false N 0 (by omega) (by omega)
  rw [show ((0 : Nat) : Int) = 0 from rfl] at h0
  refine bnd _ h0 ?_
  have sl : shapeV [(l.length : Int)] = .nil := by
    rw [shapeV_nil]
    refine ⟨by simp, ?_, ?_⟩
    · simp [badDim]; omega
    · simp [overs]; omega
  have el : elems [(l.length : Int)] = ((l.length : Nat) : Int) := by
    unfold elems
    rw [sl]
    simp [Er.isNil]
  -- the tensor, made wide, and narrow again
  obtain ⟨a, ha⟩ : ∃ a : T, a = (([(l.length : Int)], false), (List.range l.length).map (scD l)) := ⟨_, rfl⟩
  have va : tensV a = .nil := by rw [ha]; exact tensV_mk sl el (fun i _ => fitsB_narrow.2 (scD_in l i))
  have e11 : elemApp 11 [z] [a] = ((([(l.length : Int)], true), (List.range l.length).map (fun i => scD l i - z)), .nil) := by
    rw [elemApp_one (op := 11) (args := [z]) (by omega) va rfl (fun h => absurd h (by decide)) (fun _ => by rw [ha]) (show elFair 11 [z] a.1.2 = true from narrowB_iff.2 hz')]
    rw [ha]
    simp only [List.length_map, List.length_range]
    congr 2
    apply List.map_congr_left
    intro i hi
    rw [getD_map_range _ (List.mem_range.1 hi)]
    rfl
  have vw : tensV (([(l.length : Int)], true), (List.range l.length).map (fun i => scD l i - z)) = .nil := tensV_mk sl el (fun i _ => by rw [fitsB_wide]; have := scD_in l i; omega)
  have e10 : ∀ m s : Int, 0 ≤ m → m ≤ 2147483647 → 0 ≤ s → s ≤ 62 → elemApp 10 [m, s, z] [(([(l.length : Int)], true), (List.range l.length).map (fun i => scD l i - z))] = ((([(l.length : Int)], false), (List.range l.length).map (fun i => requ (scD l i - z) m s z)), .nil) := by
    intro m s m1 m2 s1 s2
    have hf : elFair 10 [m, s, z] true = true := by
      have e : elFair 10 [m, s, z] true = (decide (0 ≤ m) && decide (m ≤ 2147483647) && decide (0 ≤ s) && decide (s ≤ 62) && narrowB z) := rfl
      rw [e, narrowB_iff.2 hz', decide_eq_true m1, decide_eq_true m2, decide_eq_true s1, decide_eq_true s2]
      rfl
    rw [elemApp_one (by omega) vw rfl (fun _ => rfl) (fun h => absurd h (by decide)) hf]
    simp only [List.length_map, List.length_range]
    congr 2
    apply List.map_congr_left
    intro i hi
    rw [getD_map_range _ (List.mem_range.1 hi)]
    rfl
  have eb : (List.range l.length).map (fun i => requ (scD l i - z) 1073741824 30 z) = (List.range l.length).map (scD l) := by
    apply List.map_congr_left
    intro i _
    exact requ_unit (scD_in l i) hz'
  have o11 := elem_One_spec hN 11 a [z]
  rw [e11] at o11
  have o10 := elem_One_spec hN 10 (([(l.length : Int)], true), (List.range l.length).map (fun i => scD l i - z)) [1073741824, 30, z]
  rw [e10 _ _ (by omega) (by omega) (by omega) (by omega), eb] at o10
  have o10' := elem_One_spec hN 10 (([(l.length : Int)], true), (List.range l.length).map (fun i => scD l i - z)) [(M : Int), (S : Int), z]
  rw [e10 _ _ (by omega) (by omega) (by omega) (by omega)] at o10'
  rw [ha] at o11
  refine cT (by simp) (cT (by simp) ?_)
  simp only [List.take_length]
  refine bnd _ o11 (cT (by simp) (cT (by simp) ?_))
  simp only [List.take_length]
  refine bnd _ o10 (cT (by simp) (cT (by simp) (bnd _ o10' ?_)))
  refine bF rfl (bF rfl (bF rfl (bF rfl (bF rfl ?_))))
  refine cT (by simp) (cT (by simp) (cT (by simp) (cT (by simp) ?_)))
  simp only [List.take_length]
  refine bnd _ (lodgeref_SameTensor_self rfl (by simp) (by simp; omega) (by simp; omega) (by simp; omega)) (bF rfl ?_)
  refine cT (by simp) (cT (by simp) (cT (by simp) (cT (by simp) ?_)))
  (repeat first | refine cT rfl ?_ | refine cT True.intro ?_)
  have h9 := loop_ElemScales_1 N l (by omega) z M S hz' (([(l.length : Int)], false), (List.range l.length).map (scD l)) rfl [(l.length : Int)] false N 0 (by omega) (by omega)
  rw [show ((0 : Nat) : Int) = 0 from rfl] at h9
  exact bnd _ h9 rfl

theorem ElemScales_row {N : Nat} (hN : N = 100000) (x : Val (rowTy ps_lodgelaw7_ElemScales)) (_ : FitsL ps_lodgelaw7_ElemScales x) : (c_lodgelaw7_ElemScales N).g x = some (true, ()) := by
  subst hN
  exact ElemScales_law (by omega) ElemA_first _ _ _ _

/-! laws -/

theorem lodgeref3_Good_spec {N : Nat} (hN : 20000 ≤ N) (t : T) : F_lodgeref3_Good N t = some ((tensV t).isNil, ()) := by
  unfold F_lodgeref3_Good
  refine bnd _ (lodgeref3_Valid_spec hN t) ?_
  dsimp only
  rw [faultE_one]
  by_cases h : tensV t = .nil
  · rw [h]; rfl
  · rw [isNil_false h, decide_eq_false (fun e => h ((codeE_zero _).1 e))]

theorem kept_range (w : Bool) (n : Int) : -2147483648 ≤ kept w n ∧ kept w n ≤ 2147483647 := by
  have := kept_fits w n
  cases w
  · have := fitsB_narrow.1 this; omega
  · exact fitsB_wide.1 this

theorem loop_ElemLaws (N : Nat) (a b : T) (hl : a.2.length ≤ 1000) (hb : b.2.length = a.2.length) (sh sh' : List Int) (w w' : Bool) : ∀ (cnt i : Nat), i ≤ a.2.length → a.2.length < cnt + i →
    g_lodgelaw7_ElemLaws_0 N cnt (a, ()) (b, ()) (boxT sh w ((List.range a.2.length).map (fun i => max (a.2.getD i 0) (b.2.getD i 0)))) (boxT sh' w' ((List.range a.2.length).map (fun i => max (a.2.getD i 0) 0))) i = some (.inl ((a, ()), ()))
  | 0, i, h, h' => by omega
  | cnt + 1, i, h, h' => by
    rw [g_lodgelaw7_ElemLaws_0]
    by_cases hi : i < a.2.length
    · refine cT (by first | omega | (dsimp only; omega) | (simp; omega)) (cT (by omega) (cT (by simpa using hi) (cT (by simpa using hi) (cT (by omega) (cT (by simpa using hi) (cT (by omega) (cT (by simp only [Int.toNat_natCast, hb]; exact hi) ?_)))))))
      simp only [Int.toNat_natCast, Nat.zero_add]
      refine cF ?_ (cT (by omega) (cT (by simpa using hi) (cT (by simpa using hi) (cT (by omega) (cT (by simpa using hi) (cF ?_ ?_))))))
      · rw [getD_map_range _ hi, imax_eq']; exact fun h => h rfl
      · rw [getD_map_range _ hi, imax_eq']; exact fun h => h rfl
      (repeat first | refine cT rfl ?_ | refine cT True.intro ?_)
      rw [wi64_succ (by omega)]
      exact loop_ElemLaws N a b hl hb sh sh' w w' cnt (i + 1) hi (by omega)
    · exact cF (by first | omega | (dsimp only; omega) | (simp; omega)) rfl

theorem ElemLaws_law {N : Nat} (hN : 20000 ≤ N) (h1st : F_lodgelaw7_first N = some (true, ())) (a b : T) : F_lodgelaw7_ElemLaws N a b = some (true, ()) := by
  unfold F_lodgelaw7_ElemLaws
  refine bnd _ h1st (bF rfl ?_)
  obtain ⟨β, hβ⟩ : ∃ β : Bool, β = (!decide ((a.1.1.length : Int) ≤ 8 ∧ (a.2.length : Int) ≤ 300) || !decide ((b.1.1.length : Int) ≤ 8 ∧ (b.2.length : Int) ≤ 300) || !(tensV a).isNil || !(tensV b).isNil || !decide (a.1 = b.1)) := ⟨_, rfl⟩
  refine bnd ((a, ()), ((b, ()), (true, (β, ())))) ?_ ?_
  · refine bnd _ (lodgeworld_Tensor_spec N a 300) ?_
    by_cases c1 : (a.1.1.length : Int) ≤ 8 ∧ (a.2.length : Int) ≤ 300
    case neg =>
      rw [decide_eq_false c1] at hβ ⊢
      rw [hβ]
      exact bT rfl rfl
    rw [decide_eq_true c1] at hβ ⊢
    refine bF rfl (bnd _ (lodgeworld_Tensor_spec N b 300) ?_)
    by_cases c2 : (b.1.1.length : Int) ≤ 8 ∧ (b.2.length : Int) ≤ 300
    case neg =>
      rw [decide_eq_false c2] at hβ ⊢
      rw [hβ]
      exact bT rfl rfl
    rw [decide_eq_true c2] at hβ ⊢
    refine bF rfl (bnd _ (lodgeref3_Good_spec hN a) ?_)
    cases c3 : (tensV a).isNil
    · rw [c3] at hβ
      rw [hβ]
      exact bT rfl rfl
    refine bF rfl (bnd _ (lodgeref3_Good_spec hN b) ?_)
    cases c4 : (tensV b).isNil
    · rw [c3, c4] at hβ
      rw [hβ]
      exact bT rfl rfl
    refine bF rfl (bnd _ (lodgeref_SameDesc_spec a.1 b.1 (by omega) (by omega)) ?_)
    rw [c3, c4] at hβ
    by_cases c5 : a.1 = b.1
    · rw [decide_eq_true c5] at hβ ⊢
      rw [hβ]
      exact bF rfl rfl
    · rw [decide_eq_false c5] at hβ ⊢
      rw [hβ]
      exact bT rfl rfl
  cases hb : β
  case true => exact bT rfl rfl
  rw [hb] at hβ
  have hβ := hβ.symm
  simp only [Bool.or_eq_false_iff, Bool.not_eq_false', decide_eq_true_eq] at hβ
  obtain ⟨⟨⟨⟨c1, c2⟩, c3⟩, c4⟩, hab⟩ := hβ
  have va := (isNil_iff _).1 c3
  have vb := (isNil_iff _).1 c4
  clear c3 c4 hb
  have hl : b.2.length = a.2.length := by
    have h1 := tensV_len va
    have h2 := tensV_len vb
    rw [hab] at h1
    omega
  have sv := tensV_shape va
  have sl := tensV_len va
  have l4 := (shapeV_nil.1 sv).1
  refine bF rfl ?_
  dsimp only
  -- what each comes to
  have o4 := elem_Two_spec hN 4 a b
  rw [elemApp_two (by omega) va vb hab] at o4
  have o4' := elem_Two_spec hN 4 b a
  rw [elemApp_two (by omega) vb va hab.symm] at o4'
  have o7 := elem_Two_spec hN 7 a b
  rw [elemApp_two (by omega) va vb hab] at o7
  have o8 := elem_One_spec hN 8 a []
  rw [elemApp_one (by omega) va rfl (fun h => absurd h (by decide)) (fun h => absurd h (by decide)) rfl] at o8
  have o6 := elem_Two_spec hN 6 a b
  rw [elemApp_two (by omega) va vb hab] at o6
  have o6' := elem_Two_spec hN 6 b a
  rw [elemApp_two (by omega) vb va hab.symm] at o6'
  have e4' : (List.range b.2.length).map (fun i => elV 4 b.1.2 (b.2.getD i 0) (a.2.getD i 0) []) = (List.range a.2.length).map (fun i => elV 4 a.1.2 (a.2.getD i 0) (b.2.getD i 0) []) := by
    rw [hl, hab]
    apply List.map_congr_left
    intro i _
    show kept b.1.2 (b.2.getD i 0 + a.2.getD i 0) = kept b.1.2 (a.2.getD i 0 + b.2.getD i 0)
    rw [Int.add_comm]
  have e6' : (List.range b.2.length).map (fun i => elV 6 b.1.2 (b.2.getD i 0) (a.2.getD i 0) []) = (List.range a.2.length).map (fun i => elV 6 a.1.2 (a.2.getD i 0) (b.2.getD i 0) []) := by
    rw [hl, hab]
    apply List.map_congr_left
    intro i _
    show kept b.1.2 (b.2.getD i 0 * a.2.getD i 0) = kept b.1.2 (a.2.getD i 0 * b.2.getD i 0)
    rw [Int.mul_comm]
  rw [e4', ← hab] at o4'
  rw [e6', ← hab] at o6'
  obtain ⟨Sd, hSd⟩ : ∃ Sd : List Int, Sd = (List.range a.2.length).map (fun i => elV 4 a.1.2 (a.2.getD i 0) (b.2.getD i 0) []) := ⟨_, rfl⟩
  obtain ⟨Pd, hPd⟩ : ∃ Pd : List Int, Pd = (List.range a.2.length).map (fun i => elV 6 a.1.2 (a.2.getD i 0) (b.2.getD i 0) []) := ⟨_, rfl⟩
  have hM : (List.range a.2.length).map (fun i => elV 7 a.1.2 (a.2.getD i 0) (b.2.getD i 0) []) = (List.range a.2.length).map (fun i => max (a.2.getD i 0) (b.2.getD i 0)) := rfl
  have hR : (List.range a.2.length).map (fun i => elV 8 a.1.2 (a.2.getD i 0) 0 []) = (List.range a.2.length).map (fun i => max (a.2.getD i 0) 0) := rfl
  rw [hM] at o7
  rw [hR, show elWide 8 a.1.2 = a.1.2 from rfl] at o8
  rw [← hSd] at o4 o4'
  rw [← hPd] at o6 o6'
  have vS : tensV ((a.1.1, a.1.2), Sd) = .nil := by rw [hSd]; exact tensV_mk sv sl.symm (fun i _ => kept_fits _ _)
  have vP : tensV ((a.1.1, a.1.2), Pd) = .nil := by rw [hPd]; exact tensV_mk sv sl.symm (fun i _ => kept_fits _ _)
  have lS : Sd.length = a.2.length := by rw [hSd]; simp
  have lP : Pd.length = a.2.length := by rw [hPd]; simp
  have sS : F_tens_Same N ((a.1.1, a.1.2), Sd) ((a.1.1, a.1.2), Sd) = some (true, ()) := tens_Same_self rfl (by dsimp only; omega) (by dsimp only; omega) (by dsimp only; omega) (by dsimp only; omega)
  have sP : F_tens_Same N ((a.1.1, a.1.2), Pd) ((a.1.1, a.1.2), Pd) = some (true, ()) := tens_Same_self rfl (by dsimp only; omega) (by dsimp only; omega) (by dsimp only; omega) (by dsimp only; omega)
  have tS := tens_Valid_spec hN ((a.1.1, a.1.2), Sd)
  rw [vS] at tS
  have tP := tens_Valid_spec hN ((a.1.1, a.1.2), Pd)
  rw [vP] at tP
  refine bnd _ o4 (bnd _ o4' (bnd _ o7 (bnd _ o8 (bnd _ o6 (bnd _ o6' ?_)))))
  refine bnd ((a, ()), ((b, ()), ((((a.1.1, a.1.2), Sd), ()), (boxT a.1.1 a.1.2 ((List.range a.2.length).map (fun i => max (a.2.getD i 0) (b.2.getD i 0))), (boxT a.1.1 a.1.2 ((List.range a.2.length).map (fun i => max (a.2.getD i 0) 0)), (false, ())))))) ?_ ?_
  · simp only [List.take_length]
    refine bF rfl (bF rfl (bF rfl (bF rfl (bF rfl (bF rfl ?_)))))
    (repeat first | refine cT (Nat.le_of_eq (Nat.zero_add _)) ?_ | refine cT rfl ?_ | refine cT True.intro ?_)
    refine bnd _ sS (bF rfl ?_)
    (repeat first | refine cT (Nat.le_of_eq (Nat.zero_add _)) ?_ | refine cT rfl ?_ | refine cT True.intro ?_)
    refine bnd _ sP (bF rfl ?_)
    (repeat first | refine cT (Nat.le_of_eq (Nat.zero_add _)) ?_ | refine cT rfl ?_ | refine cT True.intro ?_)
    refine bnd _ tS (bF rfl ?_)
    (repeat first | refine cT (Nat.le_of_eq (Nat.zero_add _)) ?_ | refine cT rfl ?_ | refine cT True.intro ?_)
    refine bnd _ tP ?_
    (repeat first | refine cT (Nat.le_of_eq (Nat.zero_add _)) ?_ | refine cT rfl ?_ | refine cT True.intro ?_)
    rfl
  refine bF rfl ?_
  have sub : a.1.2 = true → elemApp 5 [] [((a.1.1, a.1.2), Sd), b] = (a, .nil) := by
    intro hw
    rw [elemApp_two (by omega) vS vb hab]
    have e : (List.range Sd.length).map (fun i => elV 5 a.1.2 (Sd.getD i 0) (b.2.getD i 0) []) = a.2 := by
      conv => rhs; rw [← map_range_self a.2]
      rw [lS]
      apply List.map_congr_left
      intro i hi
      rw [hSd, getD_map_range _ (List.mem_range.1 hi), hw]
      show round32 (round32 (a.2.getD i 0 + b.2.getD i 0) - b.2.getD i 0) = a.2.getD i 0
      exact sub_add_round (tensV_in va i)
    rw [e]
  refine bnd (.inl ((a, ()), ((b, ()), (boxT a.1.1 a.1.2 ((List.range a.2.length).map (fun i => max (a.2.getD i 0) (b.2.getD i 0))), (boxT a.1.1 a.1.2 ((List.range a.2.length).map (fun i => max (a.2.getD i 0) 0)), ()))))) ?_ ?_
  · by_cases hw : a.1.2 = true
    case neg =>
      refine bF (show a.1.2 = false by simpa using hw) ?_
      (repeat first | refine cT (Nat.le_of_eq (Nat.zero_add _)) ?_ | refine cT rfl ?_ | refine cT True.intro ?_)
      rfl
    · have o5 := elem_Two_spec hN 5 ((a.1.1, a.1.2), Sd) b
      rw [sub hw] at o5
      refine bT hw (bnd _ o5 ?_)
      refine bnd ((a, ()), ((b, ()), (boxT a.1.1 a.1.2 ((List.range a.2.length).map (fun i => max (a.2.getD i 0) (b.2.getD i 0))), (boxT a.1.1 a.1.2 ((List.range a.2.length).map (fun i => max (a.2.getD i 0) 0)), (false, ()))))) ?_ ?_
      · simp only [List.take_length]
        refine bF rfl ?_
        (repeat first | refine cT (Nat.le_of_eq (Nat.zero_add _)) ?_ | refine cT rfl ?_ | refine cT True.intro ?_)
        refine bnd _ (tens_Same_self (a := ((a.1.1, a.1.2), a.2)) (b := a) rfl (by dsimp only; omega) (by dsimp only; omega) (by dsimp only; omega) (by dsimp only; omega)) ?_
        (repeat first | refine cT (Nat.le_of_eq (Nat.zero_add _)) ?_ | refine cT rfl ?_ | refine cT True.intro ?_)
        rfl
      · refine bF rfl ?_
        (repeat first | refine cT (Nat.le_of_eq (Nat.zero_add _)) ?_ | refine cT rfl ?_ | refine cT True.intro ?_)
        rfl
  simp only [Sum.elim_inl]
  (repeat first | refine cT (Nat.le_of_eq (Nat.zero_add _)) ?_ | refine cT rfl ?_ | refine cT True.intro ?_)
  have h0 := loop_ElemLaws N a b (by omega) hl a.1.1 a.1.1 a.1.2 a.1.2 N 0 (by omega) (by omega)
  rw [show ((0 : Nat) : Int) = 0 from rfl] at h0
  refine bnd _ h0 ?_
  simp only [Sum.elim_inl]
  -- cut, and cut again
  have hF : elFair 9 [-3, 3] a.1.2 = true := by cases a.1.2 <;> decide
  have o9 := elem_One_spec hN 9 a [-3, 3]
  rw [elemApp_one (by omega) va rfl (fun h => absurd h (by decide)) (fun h => absurd h (by decide)) hF] at o9
  obtain ⟨Cd, hCd⟩ : ∃ Cd : List Int, Cd = (List.range a.2.length).map (fun i => elV 9 a.1.2 (a.2.getD i 0) 0 [-3, 3]) := ⟨_, rfl⟩
  rw [← hCd, show elWide 9 a.1.2 = a.1.2 from rfl] at o9
  have lC : Cd.length = a.2.length := by rw [hCd]; simp
  have vC : tensV ((a.1.1, a.1.2), Cd) = .nil := by
    rw [hCd]
    refine tensV_mk sv sl.symm (fun i _ => ?_)
    have h3 : -3 ≤ elV 9 a.1.2 (a.2.getD i 0) 0 [-3, 3] ∧ elV 9 a.1.2 (a.2.getD i 0) 0 [-3, 3] ≤ 3 := cut_in (x := a.2.getD i 0) (lo := -3) (hi := 3) (by omega)
    show fitsB a.1.2 _ = true
    generalize elV 9 a.1.2 (a.2.getD i 0) 0 [-3, 3] = v at *
    cases a.1.2
    · rw [fitsB_narrow]; omega
    · rw [fitsB_wide]; omega
  have o9' := elem_One_spec hN 9 ((a.1.1, a.1.2), Cd) [-3, 3]
  rw [elemApp_one (by omega) vC rfl (fun h => absurd h (by decide)) (fun h => absurd h (by decide)) hF] at o9'
  have eC : (List.range Cd.length).map (fun i => elV 9 a.1.2 (Cd.getD i 0) 0 [-3, 3]) = Cd := by
    conv => rhs; rw [← map_range_self Cd]
    apply List.map_congr_left
    intro i hi
    have hi' := List.mem_range.1 hi
    rw [lC] at hi'
    rw [hCd, getD_map_range _ hi']
    show cut (cut (a.2.getD i 0) (-3) 3) (-3) 3 = cut (a.2.getD i 0) (-3) 3
    have := cut_in (x := a.2.getD i 0) (lo := -3) (hi := 3) (by omega)
    unfold cut at this ⊢
    repeat' split
    all_goals omega
  simp only [show elWide 9 a.1.2 = a.1.2 from rfl] at o9'
  rw [eC] at o9'
  refine bnd _ o9 ?_
  simp only [List.take_length]
  (repeat first | refine cT (Nat.le_of_eq (Nat.zero_add _)) ?_ | refine cT rfl ?_ | refine cT True.intro ?_)
  refine bnd _ o9' (bT rfl (bT rfl ?_))
  (repeat first | refine cT (Nat.le_of_eq (Nat.zero_add _)) ?_ | refine cT rfl ?_ | refine cT True.intro ?_)
  simp only [List.take_length]
  exact bnd _ (tens_Same_self rfl (by dsimp only; omega) (by dsimp only; omega) (by dsimp only; omega) (by dsimp only; omega)) rfl

theorem ElemLaws_row {N : Nat} (hN : N = 100000) (x : Val (rowTy ps_lodgelaw7_ElemLaws)) (_ : FitsL ps_lodgelaw7_ElemLaws x) : (c_lodgelaw7_ElemLaws N).g x = some (true, ()) := by
  subst hN
  exact ElemLaws_law (by omega) ElemA_first _ _

end Go.Proofs.YtmbcbocnncfpbaaDoor.Lg
