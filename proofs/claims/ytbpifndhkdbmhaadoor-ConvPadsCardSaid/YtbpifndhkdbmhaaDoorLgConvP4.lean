/-
  What the program's functions come to, in plain words.
-/
import Derived.Test.YtbpifndhkdbmhaaDoorLgConvP2
import Derived.Test.YtbpifndhkdbmhaaDoorLgConvP3
namespace Go.Proofs.YtbpifndhkdbmhaaDoor.Lg
open Go Go.Eng Go.Proofs

theorem shapeV_three {a b c : Nat} (ha : 1 ≤ a ∧ a ≤ 256) (hb : 1 ≤ b ∧ b ≤ 256) (hc : 1 ≤ c ∧ c ≤ 256) (h : a * b * c ≤ 16384) : shapeV [(a : Int), (b : Int), (c : Int)] = .nil := by
  rw [shapeV_nil]
  have e : (a : Int) * b = ((a * b : Nat) : Int) := by simp
  have e' : ((a * b : Nat) : Int) * c = ((a * b * c : Nat) : Int) := by simp
  have h1 : a * b ≤ a * b * c := Nat.le_mul_of_pos_right _ (by omega)
  refine ⟨by simp, ?_, ?_⟩
  · simp [badDim]; omega
  · simp only [overs, Int.one_mul, e, e', Bool.or_false, Bool.or_eq_false_iff, decide_eq_false_iff_not]
    generalize a * b * c = P at *
    generalize a * b = Q at *
    omega

theorem elems_three {a b c : Nat} (ha : 1 ≤ a ∧ a ≤ 256) (hb : 1 ≤ b ∧ b ≤ 256) (hc : 1 ≤ c ∧ c ≤ 256) (h : a * b * c ≤ 16384) : elems [(a : Int), (b : Int), (c : Int)] = ((a * b * c : Nat) : Int) := by
  unfold elems
  rw [shapeV_three ha hb hc h]
  simp [Er.isNil]

theorem shapeV_four {a b c d : Nat} (ha : 1 ≤ a ∧ a ≤ 256) (hb : 1 ≤ b ∧ b ≤ 256) (hc : 1 ≤ c ∧ c ≤ 256) (hd : 1 ≤ d ∧ d ≤ 256) (h : a * b * c * d ≤ 16384) : shapeV [(a : Int), (b : Int), (c : Int), (d : Int)] = .nil := by
  rw [shapeV_nil]
  have e : (a : Int) * b = ((a * b : Nat) : Int) := by simp
  have e' : ((a * b : Nat) : Int) * c = ((a * b * c : Nat) : Int) := by simp
  have e'' : ((a * b * c : Nat) : Int) * d = ((a * b * c * d : Nat) : Int) := by simp
  have h1 : a * b ≤ a * b * c := Nat.le_mul_of_pos_right _ (by omega)
  have h2 : a * b * c ≤ a * b * c * d := Nat.le_mul_of_pos_right _ (by omega)
  refine ⟨by simp, ?_, ?_⟩
  · simp [badDim]; omega
  · simp only [overs, Int.one_mul, e, e', e'', Bool.or_false, Bool.or_eq_false_iff, decide_eq_false_iff_not]
    generalize a * b * c * d = R at *
    generalize a * b * c = P at *
    generalize a * b = Q at *
    omega

theorem elems_four {a b c d : Nat} (ha : 1 ≤ a ∧ a ≤ 256) (hb : 1 ≤ b ∧ b ≤ 256) (hc : 1 ≤ c ∧ c ≤ 256) (hd : 1 ≤ d ∧ d ≤ 256) (h : a * b * c * d ≤ 16384) : elems [(a : Int), (b : Int), (c : Int), (d : Int)] = ((a * b * c * d : Nat) : Int) := by
  unfold elems
  rw [shapeV_four ha hb hc hd h]
  simp [Er.isNil]

theorem tensV_narrow {s d : List Int} {n : Nat} (hs : shapeV s = .nil) (he : elems s = (n : Int)) (hd : d.length = n) (hf : ∀ x, x ∈ d → -128 ≤ x ∧ x ≤ 127) : tensV ((s, false), d) = .nil := by
  unfold tensV
  rw [hs, he, hd]
  simp only [Er.isNil, if_true]
  have : d.findIdx? (fun n => !fitsB false n) = none := by
    rw [List.findIdx?_eq_none_iff]
    intro x hx
    have := hf x hx
    simp [fitsB, this]
  rw [this]

/-! how many elements, by the document -/
theorem overs_foldl : ∀ (l : List Int) (m : Int), 1 ≤ m → l.any badDim = false → (overs m l || decide (16384 < m)) = decide (16384 < l.foldl (· * ·) m)
  | [], m, _, _ => by
    rw [overs, Bool.false_or]
    exact decide_eq_decide.2 Iff.rfl
  | k :: r, m, hm, hb => by
    simp only [List.any_cons, Bool.or_eq_false_iff] at hb
    have hk := hb.1
    simp only [badDim, Bool.or_eq_false_iff, decide_eq_false_iff_not] at hk
    have h1 : m ≤ m * k := by
      have := Int.mul_le_mul (Int.le_refl m) (show 1 ≤ k by omega) (by omega) (by omega)
      omega
    have ih := overs_foldl r (m * k) (by omega) hb.2
    rw [List.foldl_cons, ← ih, overs]
    by_cases h2 : 16384 < m
    · have h3 : 16384 < m * k := by omega
      simp [h2, h3]
    · rw [decide_eq_false h2, Bool.or_false, Bool.or_comm]

theorem loop_VD (N : Nat) (d : D × Unit) (hl : d.1.1.length ≤ 4) : ∀ (n i : Nat) (m : Int), 1 ≤ m → m ≤ ((256 ^ i : Nat) : Int) → i ≤ d.1.1.length → d.1.1.length < n + i →
    g_lodgeref3_ValidDesc_0 N n d m i = if (d.1.1.drop i).any badDim then some (.inr (102, ())) else some (.inl ((d.1.1.drop i).foldl (· * ·) m, ()))
  | 0, i, m, _, _, h, h' => by omega
  | n + 1, i, m, h1, h2, h, h' => by
    rw [g_lodgeref3_ValidDesc_0]
    by_cases hi : i < d.1.1.length
    · refine cT (by omega) ?_
      refine cT (by omega) ?_
      refine cT (by simpa using hi) ?_
      rw [drop_cons hi 0, List.any_cons, Int.toNat_natCast]
      generalize hx : d.1.1.getD i 0 = x
      by_cases hx1 : x < 1
      · refine cT hx1 ?_
        simp [badDim, hx1]
      refine cF hx1 ?_
      refine cT (by omega) ?_
      refine cT hi ?_
      by_cases hx2 : 256 < x
      · refine cT hx2 ?_
        simp [badDim, hx2]
      refine cF hx2 ?_
      refine cT (by omega) ?_
      refine cT hi ?_
      have hp : (256 : Nat) ^ i ≤ 256 ^ 4 := Nat.pow_le_pow_right (by omega) (by omega)
      have hm : m * x ≤ ((256 ^ i : Nat) : Int) * 256 := Int.mul_le_mul h2 (by omega) (by omega) (by omega)
      have hm1 : 1 ≤ m * x := by
        have := Int.mul_le_mul h1 (show 1 ≤ x by omega) (by omega) (by omega)
        omega
      rw [wi64_in (n := m * x) (by omega) (by omega), wi64_succ (by omega)]
      have hbd : badDim x = false := by simp [badDim]; omega
      rw [hbd, Bool.false_or, List.foldl_cons]
      exact loop_VD N d hl n (i + 1) (m * x) hm1 (by rw [Nat.pow_succ]; omega) hi (by omega)
    · refine cF (by omega) ?_
      rw [List.drop_eq_nil_of_le (by omega)]
      rfl

/-- why a tensor may not look so, by the document's numbers -/
def vdCode (sh : List Int) : Int := if 4 < sh.length then 104 else if sh.any badDim then 102 else if overs 1 sh then 104 else 0

theorem lodgeref3_ValidDesc_spec {N : Nat} (hN : 20000 ≤ N) (d : D) : F_lodgeref3_ValidDesc N d = some (vdCode d.1, ()) := by
  unfold F_lodgeref3_ValidDesc vdCode
  by_cases h4 : 4 < d.1.length
  · rw [if_pos h4]
    exact cT (by omega) rfl
  rw [if_neg h4]
  refine cF (by omega) ?_
  have h0 := loop_VD N (d, ()) (by simpa using h4) N 0 1 (by omega) (by simp) (by omega) (by simp only; omega)
  rw [show ((0 : Nat) : Int) = 0 from rfl, List.drop_zero] at h0
  cases hb : d.1.any badDim with
  | true =>
    rw [if_pos hb] at h0
    exact bnd _ h0 rfl
  | false =>
    rw [if_neg (by simp [hb])] at h0
    refine bnd _ h0 ?_
    have e := overs_foldl d.1 1 (by omega) hb
    rw [show decide ((16384 : Int) < 1) = false from rfl, Bool.or_false] at e
    simp only [Sum.elim_inl, Bool.false_eq_true, if_false]
    rw [e]
    by_cases h1 : 16384 < d.1.foldl (· * ·) 1
    · refine cT h1 ?_
      simp [h1]
    · refine cF h1 ?_
      simp [h1]

theorem vdCode_zero (sh : List Int) : vdCode sh = 0 ↔ shapeV sh = .nil := by
  rw [shapeV_nil]
  unfold vdCode
  by_cases h4 : 4 < sh.length
  · rw [if_pos h4]; omega
  · rw [if_neg h4]
    cases hb : sh.any badDim <;> cases ho : overs 1 sh <;> simp <;> omega

theorem loop_Elems3 (N : Nat) (l : List Int) (hl : l.length ≤ 4) (hb : l.any badDim = false) : ∀ (n i : Nat) (m : Int), 1 ≤ m → m ≤ ((256 ^ i : Nat) : Int) → i ≤ l.length → l.length < n + i →
    g_lodgeref3_Elems_0 N n l m i = some ((l.drop i).foldl (· * ·) m, ())
  | 0, i, m, _, _, h, h' => by omega
  | n + 1, i, m, h1, h2, h, h' => by
    rw [g_lodgeref3_Elems_0]
    by_cases hi : i < l.length
    · refine cT (by omega) ?_
      refine cT (by omega) ?_
      refine cT (by simpa using hi) ?_
      rw [drop_cons hi 0, Int.toNat_natCast]
      have hx : badDim (l.getD i 0) = false := by
        rw [List.any_eq_false] at hb
        rw [getD_lt hi]
        simpa using hb _ (List.getElem_mem hi)
      generalize l.getD i 0 = x at *
      simp only [badDim, Bool.or_eq_false_iff, decide_eq_false_iff_not] at hx
      have hp : (256 : Nat) ^ i ≤ 256 ^ 4 := Nat.pow_le_pow_right (by omega) (by omega)
      have hm : m * x ≤ ((256 ^ i : Nat) : Int) * 256 := Int.mul_le_mul h2 (by omega) (by omega) (by omega)
      have hm1 : 1 ≤ m * x := by
        have := Int.mul_le_mul h1 (show 1 ≤ x by omega) (by omega) (by omega)
        omega
      rw [wi64_in (n := m * x) (by omega) (by omega), wi64_succ (by omega), List.foldl_cons]
      exact loop_Elems3 N l hl hb n (i + 1) (m * x) hm1 (by rw [Nat.pow_succ]; omega) hi (by omega)
    · refine cF (by omega) ?_
      rw [List.drop_eq_nil_of_le (by omega)]
      rfl

theorem lodgeref3_Elems_spec {N : Nat} (hN : 20000 ≤ N) (sh : List Int) : F_lodgeref3_Elems N sh = some (elems sh, ()) := by
  unfold F_lodgeref3_Elems elems
  refine bnd _ (lodgeref3_ValidDesc_spec hN _) ?_
  by_cases h : vdCode sh = 0
  · refine cF (by simpa using h) ?_
    have h2 := (vdCode_zero sh).1 h
    obtain ⟨h3, h4, h5⟩ := shapeV_nil.1 h2
    have h0 := loop_Elems3 N sh h3 h4 N 0 1 (by omega) (by simp) (by omega) (by omega)
    rw [show ((0 : Nat) : Int) = 0 from rfl, List.drop_zero] at h0
    refine bnd _ h0 ?_
    rw [h2]
    rfl
  · refine cT (by simpa using h) ?_
    have h2 : ¬ (shapeV sh).isNil = true := fun e => h ((vdCode_zero sh).2 ((isNil_iff _).1 e))
    rw [if_neg h2]

/-! a tensor of any numbers -/
def tenE (l : List Int) (p : Nat) : Int := if l.length = 0 then 0 else wi64 (l.getD (p % l.length) 0 + 7 * p) % 256 - 128
def tenD (l : List Int) (sz : Nat) : List Int := (List.range sz).map (tenE l)

theorem tenE_in (l : List Int) (p : Nat) : -128 ≤ tenE l p ∧ tenE l p ≤ 127 := by
  unfold tenE
  split <;> omega

theorem tenD_length (l : List Int) (sz : Nat) : (tenD l sz).length = sz := by simp [tenD]
theorem tenD_in (l : List Int) (sz : Nat) : ∀ x, x ∈ tenD l sz → -128 ≤ x ∧ x ≤ 127 := by
  intro x hx
  simp only [tenD, List.mem_map] at hx
  obtain ⟨i, _, rfl⟩ := hx
  exact tenE_in l i
theorem tenD_nil (sz : Nat) : tenD [] sz = List.replicate sz 0 := by
  rw [replicate_range]
  apply List.map_congr_left
  intro p _
  rfl
theorem tenD_getD {l : List Int} {sz p : Nat} (h : p < sz) : (tenD l sz).getD p 0 = tenE l p := by
  rw [getD_lt (by rw [tenD_length]; exact h)]
  simp [tenD]

theorem loop_tensor (N : Nat) (l : List Int) (sz : Nat) (hsz : sz ≤ 1000000) (t4 : List Int × (Bool × (List Int × Unit))) (sh : List Int) (w : Bool) : ∀ (cnt i : Nat), i ≤ sz → sz < cnt + i →
    g_lodgelaw9_tensor_0 N cnt l t4 (boxT sh w ((List.range sz).map fun p => if p < i then tenE l p else 0)) i = some (t4, (boxT sh w (tenD l sz), ()))
  | 0, i, h, h' => by omega
  | cnt + 1, i, h, h' => by
    rw [g_lodgelaw9_tensor_0]
    simp only [cond_dec, Int.ofNat_lt, Int.toNat_natCast, Int.natCast_nonneg, if_true, tmod_nat, List.length_map, List.length_range]
    by_cases hi : i < sz
    · rw [if_pos hi]
      by_cases hl : 0 < l.length
      · have hmod : i % l.length < l.length := Nat.mod_lt _ hl
        have he := tenE_in l i
        have h7 : wi64 ((7 : Int) * i) = 7 * i := wi64_in (by omega) (by omega)
        have hE : wi64 (wi64 (l.getD (i % l.length) 0 + wi64 ((7 : Int) * i)) % 256 - 128) = tenE l i := by
          rw [h7, wi64_in (by omega) (by omega)]
          unfold tenE
          rw [if_neg (by omega)]
        rw [if_pos (by omega), if_pos (by omega), if_pos hmod, lodgeworld_Number_spec N _ _ (by omega) (by omega)]
        simp only [Option.bind_some, Nat.zero_add, List.length_set, List.length_map, List.length_range, hi, if_true, hE]
        rw [set_upto _ _ _ _ hi, wi64_succ (by omega)]
        exact loop_tensor N l sz hsz t4 sh w cnt (i + 1) hi (by omega)
      · have hl0 : l.length = 0 := by omega
        rw [if_neg (by omega)]
        have : ((List.range sz).map fun p => if p < i then tenE l p else 0) = tenD l sz := by
          apply List.map_congr_left
          intro p _
          unfold tenE
          rw [if_pos hl0]
          split <;> rfl
        rw [this]
    · have : i = sz := by omega
      subst this
      rw [if_neg hi, map_upto_all]
      rfl

theorem lodgelaw9_tensor_spec {N : Nat} (hN : 20000 ≤ N) (s l : List Int) {sz : Nat} (he : elems s = (sz : Int)) : F_lodgelaw9_tensor N s l = some (boxT s false (tenD l sz), ()) := by
  unfold F_lodgelaw9_tensor
  have hb := elems_bound s
  rw [he] at hb
  refine bnd _ (lodgeref3_Elems_spec hN s) ?_
  rw [he]
  refine cT (by omega) ?_
  refine cT (Int.le_refl _) ?_
  refine cT (by unfold most; omega) ?_
  refine cT (by simp) ?_
  have h0 := loop_tensor N l sz (by omega) ([], (false, ([], ()))) s false N 0 (by omega) (by omega)
  rw [show ((0 : Nat) : Int) = 0 from rfl, map_upto_zero, ← replicate_range] at h0
  refine bnd _ h0 ?_
  exact cT rfl rfl

/-! A CONVOLUTION -/
section
variable {a k : T} {za : Int} {h w c kh kw n s p : Nat}

theorem loop_Do (H : ConvOK a k za h w c kh kw n s p) {N : Nat} (hN : 20000 ≤ N) {ow : Nat} (how : 1 ≤ ow ∧ ow ≤ 256) (t6 : List Int × (Bool × (List Int × Unit))) (oh : Int) (wd : Bool) (sh : List Int) (ws : Bool) (sz : Nat) (hsz : sz ≤ 16384) :
    ∀ (cnt i : Nat), i ≤ sz → sz < cnt + i →
    g_conv_Do_0 N cnt [(s : Int), (p : Int), za] (a, ()) (k, ()) t6 (([oh, (ow : Int), (n : Int)], wd), ()) (boxT sh ws ((List.range i).map (cvC a.2 k.2 za h w c kh kw n s p ow))) sz i
      = some (t6, (boxT sh ws ((List.range sz).map (cvC a.2 k.2 za h w c kh kw n s p ow)), ()))
  | 0, i, hx, hx' => by omega
  | cnt + 1, i, hx, hx' => by
    rw [g_conv_Do_0]
    by_cases hi : i < sz
    · refine cT (by omega) ?_
      refine bnd (a, ()) rfl ?_
      refine bnd (k, ()) rfl ?_
      refine cT (by simp) ?_
      refine bnd _ (conv_At_spec H hN how (i := i) (by omega)) ?_
      refine cT (by simp) ?_
      refine cT (by simp [most]; omega) ?_
      refine cT rfl ?_
      refine cT rfl ?_
      refine cT (by simp) ?_
      have e : List.take (List.length ((List.range i).map (cvC a.2 k.2 za h w c kh kw n s p ow))) ((List.range i).map (cvC a.2 k.2 za h w c kh kw n s p ow)) ++ [cvC a.2 k.2 za h w c kh kw n s p ow i] = (List.range (i + 1)).map (cvC a.2 k.2 za h w c kh kw n s p ow) := by
        rw [List.take_length, List.range_succ, List.map_append]
        rfl
      rw [wi64_succ (by omega)]
      simp only [e]
      exact loop_Do H hN how t6 oh wd sh ws sz hsz cnt (i + 1) hi (by omega)
    · have : i = sz := by omega
      subst this
      refine cF (by omega) ?_
      refine cT rfl ?_
      refine cT rfl ?_
      exact cT rfl rfl

/-- what a convolution comes to -/
def cvL (A K : List Int) (za : Int) (h w c kh kw n s p oh ow : Nat) : List Int := (List.range (oh * ow * n)).map (cvC A K za h w c kh kw n s p ow)

theorem conv_Do_ok (H : ConvOK a k za h w c kh kw n s p) {N : Nat} (hN : 20000 ≤ N) {oh ow : Nat} (hoh : 1 ≤ oh ∧ oh ≤ 256) (how : 1 ≤ ow ∧ ow ≤ 256) (ho : oh * ow * n ≤ 16384)
    (hr : convRes' a k [(s : Int), (p : Int), za] = (([(oh : Int), (ow : Int), (n : Int)], true), .nil)) :
    F_conv_Do N a k [(s : Int), (p : Int), za] = some (boxT [(oh : Int), (ow : Int), (n : Int)] true (cvL a.2 k.2 za h w c kh kw n s p oh ow), (.nil, ())) := by
  unfold F_conv_Do
  refine bnd _ (conv_result_spec hN _ _ _) ?_
  rw [hr]
  refine bF rfl ?_
  refine bnd _ (shape_Elems_spec hN _) ?_
  rw [elems_three hoh how H.hn ho]
  have h0 := loop_Do H hN how ([], (false, ([], ()))) oh true [(oh : Int), (ow : Int), (n : Int)] true (oh * ow * n) ho N 0 (by omega) (by omega)
  refine bnd _ h0 ?_
  exact cT rfl rfl

theorem conv_Cell_ok (H : ConvOK a k za h w c kh kw n s p) {N : Nat} (hN : 20000 ≤ N) {oh ow : Nat} (hoh : 1 ≤ oh ∧ oh ≤ 256) (how : 1 ≤ ow ∧ ow ≤ 256) (ho : oh * ow * n ≤ 16384)
    (hr : convRes' a k [(s : Int), (p : Int), za] = (([(oh : Int), (ow : Int), (n : Int)], true), .nil)) (i : Int) :
    F_conv_Cell N a k i [(s : Int), (p : Int), za] = some (if 0 ≤ i ∧ i < ((oh * ow * n : Nat) : Int) then cvC a.2 k.2 za h w c kh kw n s p ow i.toNat else 0, ()) := by
  unfold F_conv_Cell
  refine bnd _ (conv_result_spec hN _ _ _) ?_
  rw [hr]
  refine bF rfl ?_
  by_cases h0 : i < 0
  · rw [if_neg (by omega)]
    exact cT h0 rfl
  refine cF h0 ?_
  refine bnd _ (shape_Elems_spec hN _) ?_
  rw [elems_three hoh how H.hn ho]
  by_cases h1 : ((oh * ow * n : Nat) : Int) ≤ i
  · rw [if_neg (by omega)]
    exact cT h1 rfl
  refine cF h1 ?_
  refine bnd (a, ()) rfl ?_
  refine bnd (k, ()) rfl ?_
  refine cT (by simp) ?_
  rw [if_pos (by omega)]
  have := conv_At_spec H hN how (i := i.toNat) (by omega)
  rw [show ((i.toNat : Nat) : Int) = i by omega] at this
  exact bnd _ this rfl

end

theorem conv_Do_bad {N : Nat} (hN : 20000 ≤ N) {a k : T} {ar : List Int} (h : (convRes' a k ar).2.isNil = false) : F_conv_Do N a k ar = some (boxT [] false [], ((convRes' a k ar).2, ())) := by
  unfold F_conv_Do
  refine bnd _ (conv_result_spec hN _ _ _) ?_
  exact bT (by simp [h]) rfl

theorem conv_Cell_bad {N : Nat} (hN : 20000 ≤ N) {a k : T} {ar : List Int} {i : Int} (h : (convRes' a k ar).2.isNil = false) : F_conv_Cell N a k i ar = some (0, ()) := by
  unfold F_conv_Cell
  refine bnd _ (conv_result_spec hN _ _ _) ?_
  exact bT (by simp [h]) rfl

/-- of places that are known -/
theorem convRes'_good {A K : List Int} {za : Int} {h w c kh kw n s p : Nat} (hh : 1 ≤ h ∧ h ≤ 256) (hw : 1 ≤ w ∧ w ≤ 256) (hc : 1 ≤ c ∧ c ≤ 256) (hkh : 1 ≤ kh ∧ kh ≤ 256) (hkw : 1 ≤ kw ∧ kw ≤ 256) (hn : 1 ≤ n ∧ n ≤ 256) (hs : 1 ≤ s ∧ s ≤ 16) (hp : p ≤ 15)
    (hA : A.length = h * w * c) (hK : K.length = kh * kw * c * n) (bA : h * w * c ≤ 16384) (bK : kh * kw * c * n ≤ 16384)
    (fA : ∀ x, x ∈ A → -128 ≤ x ∧ x ≤ 127) (fK : ∀ x, x ∈ K → -128 ≤ x ∧ x ≤ 127) (hza : -128 ≤ za ∧ za ≤ 127)
    (hkh' : kh ≤ h + 2 * p) (hkw' : kw ≤ w + 2 * p) {oh ow : Nat} (eoh : oh = (h + 2 * p - kh) / s + 1) (eow : ow = (w + 2 * p - kw) / s + 1) (hoh : oh ≤ 256) (how : ow ≤ 256) (ho : oh * ow * n ≤ 16384) :
    convRes' (([(h : Int), (w : Int), (c : Int)], false), A) (([(kh : Int), (kw : Int), (c : Int), (n : Int)], false), K) [(s : Int), (p : Int), za] = (([(oh : Int), (ow : Int), (n : Int)], true), .nil) := by
  have o1 : 1 ≤ oh := by rw [eoh]; exact Nat.le_add_left 1 _
  have o2 : 1 ≤ ow := by rw [eow]; exact Nat.le_add_left 1 _
  unfold convRes' convRes
  rw [tensV_narrow (shapeV_three hh hw hc bA) (elems_three hh hw hc bA) hA fA, tensV_narrow (shapeV_four hkh hkw hc hn bK) (elems_four hkh hkw hc hn bK) hK fK]
  simp only [Er.isNil, Bool.not_true, Bool.false_eq_true, if_false]
  rw [shapeV_three hh hw hc bA, shapeV_four hkh hkw hc hn bK]
  have n1 : narrowB za = true := by simp [narrowB, hza]
  simp only [Er.isNil, Bool.not_true, Bool.false_eq_true, if_false, List.length_cons, List.length_nil, List.getD_cons_zero, List.getD_cons_succ, n1]
  have e1 : ((h : Int) + 2 * p - kh) / s + 1 = (oh : Int) := by
    rw [show (h : Int) + 2 * p - kh = ((h + 2 * p - kh : Nat) : Int) by omega, eoh]
    simp
  have e2 : ((w : Int) + 2 * p - kw) / s + 1 = (ow : Int) := by
    rw [show (w : Int) + 2 * p - kw = ((w + 2 * p - kw : Nat) : Int) by omega, eow]
    simp
  have e3 : convSh (s : Int) (p : Int) [(h : Int), (w : Int), (c : Int)] [(kh : Int), (kw : Int), (c : Int), (n : Int)] = [(oh : Int), (ow : Int), (n : Int)] := by
    unfold convSh
    simp only [List.getD_cons_zero, List.getD_cons_succ]
    rw [e1, e2]
  rw [if_neg (by simp), if_neg (by simp), if_neg (by simp; omega), if_neg (by omega), e3, shapeV_three ⟨o1, hoh⟩ ⟨o2, how⟩ hn ho]
  rfl

end Go.Proofs.YtbpifndhkdbmhaaDoor.Lg
