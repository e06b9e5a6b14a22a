/-
  What the program's functions come to, in plain words.
-/
import Derived.Test.YtmbcbocnncfpbaaDoorLgElemBT2
namespace Go.Proofs.YtmbcbocnncfpbaaDoor.Lg
open Go Go.Eng Go.Proofs

/-! an operation of one element -/

theorem quant_cut_spec (N : Nat) (x : Int) {lo hi : Int} (h : lo ≤ hi) : F_quant_cut N x lo hi = some (cut x lo hi, ()) := by
  unfold F_quant_cut imax imin cut
  congr 2
  repeat' split
  all_goals omega

theorem shl_one' {s : Nat} (h1 : 1 ≤ s) (h2 : s ≤ 62) : shlI IntKind.i64 1 (wi64 ((s : Int) - 1)) = 2 ^ (s - 1) := by
  have e1 : wi64 ((s : Int) - 1) = ((s - 1 : Nat) : Int) := by rw [wi64_in (by omega) (by omega)]; omega
  have hb := pow_bound (s := s - 1) (by omega)
  rw [e1]
  unfold shlI
  rw [show IntKind.bits .i64 = 64 from rfl, Int.toNat_natCast, Nat.min_eq_left (by omega), Int.one_mul]
  exact wi64_in (by omega) (by omega)

theorem shr_at' {p : Int} {s : Nat} (h2 : s ≤ 62) : shrI IntKind.i64 p (s : Int) = p / 2 ^ s := by
  unfold shrI
  rw [show IntKind.bits .i64 = 64 from rfl, Int.toNat_natCast, Nat.min_eq_left (by omega), Int.fdiv_eq_ediv_of_nonneg]
  have : (0 : Int) < 2 ^ s := Int.pow_pos (by omega)
  omega

theorem div_pow_bound {p : Int} (h : -9223372036854775000 ≤ p ∧ p ≤ 9223372036854775000) {s : Nat} : -9223372036854775000 ≤ p / 2 ^ s ∧ p / 2 ^ s ≤ 9223372036854775000 := by
  have h1 : 1 ≤ (2 : Nat) ^ s := Nat.one_le_two_pow
  have e : ((2 : Int) ^ s) = ((2 ^ s : Nat) : Int) := by simp
  rw [e]
  generalize (2 : Nat) ^ s = q at *
  constructor
  · exact Int.le_ediv_of_mul_le (by omega) (by omega)
  · exact Int.ediv_le_of_le_mul (by omega) (by omega)

theorem quant_Requant_spec (N : Nat) (x m s z : Int) : F_quant_Requant N x m s z = some (requ x m s z, ()) := by
  unfold F_quant_Requant requ
  refine bnd _ (quant_cut_spec N _ (by omega)) (bnd _ (quant_cut_spec N _ (by omega)) (bnd _ (quant_cut_spec N _ (by omega)) ?_))
  have hs := cut_in (x := s) (lo := 0) (hi := 62) (by omega)
  have hz := cut_in (x := z) (lo := -128) (hi := 127) (by omega)
  have hp := requ_prod x m
  obtain ⟨S, hS⟩ : ∃ S : Nat, cut s 0 62 = (S : Int) := ⟨(cut s 0 62).toNat, by omega⟩
  rw [hS] at hs ⊢
  dsimp only
  generalize cut x (-2147483648) 2147483647 * cut m 0 2147483647 = p at *
  rw [wi64_in (n := p) (by omega) (by omega)]
  by_cases h0 : (0 : Int) < S
  · rw [if_pos h0]
    have hb := pow_bound (s := S - 1) (by omega)
    refine cT h0 (cT (by rw [wi64_in (by omega) (by omega)]; omega) (cT (by omega) ?_))
    rw [shl_one' (by omega) (by omega), wi64_in (n := p + 2 ^ (S - 1)) (by omega) (by omega), shr_at' (by omega)]
    have hd := div_pow_bound (p := p + 2 ^ (S - 1)) (by omega) (s := S)
    refine bnd _ (quant_cut_spec N _ (by omega)) ?_
    dsimp only
    rw [wi64_in (by omega) (by omega)]
    refine bnd _ (quant_cut_spec N _ (by omega)) ?_
    rw [Int.toNat_natCast]
  · rw [if_neg h0]
    refine cF h0 (bnd _ (quant_cut_spec N _ (by omega)) ?_)
    dsimp only
    rw [wi64_in (by omega) (by omega)]
    exact bnd _ (quant_cut_spec N _ (by omega)) rfl

theorem elem_kind_spec (N : Nat) (n : Int) (w : Bool) : F_elem_kind N n w = some (kept w n, ()) := by
  unfold F_elem_kind kept
  cases w
  · refine bF rfl (bnd _ (tens_Narrow_spec N _) ?_)
    rw [if_neg (by decide)]
    unfold cut
    congr 2
    repeat' split
    all_goals omega
  · exact bT rfl (bnd _ (tens_Wide_spec N _) rfl)

theorem elem_counts_spec (N : Nat) (op : Int) : ∃ k b, F_elem_counts N op = some (k, (((elN op : Nat) : Int), (b, ()))) := by
  unfold F_elem_counts
  by_cases h4 : op = 4
  · subst h4; exact ⟨_, _, rfl⟩
  by_cases h5 : op = 5
  · subst h5; exact ⟨_, _, rfl⟩
  by_cases h6 : op = 6
  · subst h6; exact ⟨_, _, rfl⟩
  by_cases h7 : op = 7
  · subst h7; exact ⟨_, _, rfl⟩
  by_cases h8 : op = 8
  · subst h8; exact ⟨_, _, rfl⟩
  by_cases h9 : op = 9
  · subst h9; exact ⟨_, _, rfl⟩
  by_cases h10 : op = 10
  · subst h10; exact ⟨_, _, rfl⟩
  by_cases h11 : op = 11
  · subst h11; exact ⟨_, _, rfl⟩
  refine ⟨0, false, cF h4 (cF h5 (cF h6 (cF h7 (cF h8 (cF h9 (cF h10 (cF h11 ?_)))))))⟩
  unfold elN
  rw [if_neg h9, if_neg h10, if_neg h11]
  rfl

theorem elem_Value_spec (N : Nat) (op : Int) (w : Bool) {x y : Int} {args : List Int} (hx : -2147483648 ≤ x ∧ x ≤ 2147483647) (hy : -2147483648 ≤ y ∧ y ≤ 2147483647) (h9 : op = 9 → args.getD 0 0 ≤ args.getD 1 0) (h11 : op = 11 → -2147483648 ≤ args.getD 0 0 ∧ args.getD 0 0 ≤ 2147483647) :
    F_elem_Value N op w x y args = some (if args.length < elN op then 0 else elV op w x y args, ()) := by
  unfold F_elem_Value
  obtain ⟨k, b, hc⟩ := elem_counts_spec N op
  refine bnd _ hc ?_
  by_cases hl : args.length < elN op
  · rw [if_pos hl]
    exact cT (by dsimp only; omega) rfl
  rw [if_neg hl]
  refine cF (by dsimp only; omega) ?_
  unfold elV
  have hargs : elN op ≤ args.length := by omega
  unfold elN at hargs
  by_cases h4 : op = 4
  · subst h4
    refine cT rfl ?_
    rw [if_pos rfl, wi64_in (by omega) (by omega)]
    exact bnd _ (elem_kind_spec N _ _) rfl
  refine cF h4 ?_
  rw [if_neg h4]
  by_cases h5 : op = 5
  · subst h5
    refine cT rfl ?_
    rw [if_pos rfl, wi64_in (by omega) (by omega)]
    exact bnd _ (elem_kind_spec N _ _) rfl
  refine cF h5 ?_
  rw [if_neg h5]
  by_cases h6 : op = 6
  · subst h6
    refine cT rfl ?_
    have hp := mul_abs (A := 2147483648) (B := 2147483648) (a := x) (b := y) (by omega) (by omega) (by omega) (by omega)
    rw [if_pos rfl, wi64_in (by omega) (by omega)]
    exact bnd _ (elem_kind_spec N _ _) rfl
  refine cF h6 ?_
  rw [if_neg h6]
  by_cases h7 : op = 7
  · subst h7
    refine cT rfl ?_
    rw [if_pos rfl, imax_eq']
  refine cF h7 ?_
  rw [if_neg h7]
  by_cases h8 : op = 8
  · subst h8
    refine cT rfl ?_
    rw [if_pos rfl, imax_eq']
  refine cF h8 ?_
  rw [if_neg h8]
  by_cases h9' : op = 9
  · have hr := h9 h9'
    subst h9'
    rw [if_pos rfl] at hargs
    refine cT rfl (cT (by omega) (cT (by omega) ?_))
    rw [if_pos rfl]
    congr 2
    unfold imax imin cut
    repeat' split
    all_goals omega
  refine cF h9' ?_
  rw [if_neg h9'] at hargs ⊢
  by_cases h10 : op = 10
  · subst h10
    rw [if_pos rfl] at hargs
    refine cT rfl (cT (by omega) (cT (by omega) (cT (by omega) ?_)))
    rw [if_pos rfl]
    exact bnd _ (quant_Requant_spec N _ _ _ _) rfl
  refine cF h10 ?_
  rw [if_neg h10] at hargs ⊢
  by_cases h11' : op = 11
  · have hr := h11 h11'
    subst h11'
    rw [if_pos rfl] at hargs
    refine cT rfl (cT (by omega) ?_)
    rw [if_pos rfl, wi64_in (by omega) (by omega)]
  refine cF h11' ?_
  rw [if_neg h11']

theorem elem_Value_out (N : Nat) (op : Int) (w : Bool) (x y : Int) (args : List Int) (h : ¬ (4 ≤ op ∧ op ≤ 11)) : F_elem_Value N op w x y args = some (0, ()) := by
  unfold F_elem_Value
  obtain ⟨k, b, hc⟩ := elem_counts_spec N op
  refine bnd _ hc ?_
  have e : elN op = 0 := by unfold elN; rw [if_neg (by omega), if_neg (by omega), if_neg (by omega)]
  rw [e]
  refine cF (by dsimp only; omega) (cF (by omega) (cF (by omega) (cF (by omega) (cF (by omega) (cF (by omega) (cF (by omega) (cF (by omega) (cF (by omega) rfl))))))))

/-! tensors -/

def elY (ins : List T) (i : Nat) : Int := if 1 < ins.length then (ins.getD 1 (([], false), [])).2.getD i 0 else 0

def elE (op : Int) (args : List Int) (ins : List T) (i : Nat) : Int := elV op (ins.getD 0 (([], false), [])).1.2 ((ins.getD 0 (([], false), [])).2.getD i 0) (elY ins i) args

theorem elemRes_ok {op : Int} {args : List Int} {ins : List D} (h : (elemRes op args ins).2 = .nil) : (4 ≤ op ∧ op ≤ 11) ∧ args.length = elN op ∧ ins.length = elK op ∧ firstBad ins = .nil ∧
    (elK op = 2 → ins.getD 0 noD = ins.getD 1 noD) ∧ (op = 10 → (ins.getD 0 noD).2 = true) ∧ (op = 11 → (ins.getD 0 noD).2 = false) ∧ elFair op args (ins.getD 0 noD).2 = true ∧ (elemRes op args ins).1 = ((ins.getD 0 noD).1, elWide op (ins.getD 0 noD).2) := by
  unfold elemRes at h ⊢
  by_cases h1 : 4 ≤ op ∧ op ≤ 11
  case neg => rw [if_pos h1] at h; cases h
  rw [if_neg (fun h => h h1)] at h ⊢
  by_cases h2 : args.length ≠ elN op ∨ ins.length ≠ elK op
  · rw [if_pos h2] at h; cases h
  rw [if_neg h2] at h ⊢
  by_cases h3 : firstBad ins = .nil
  case neg => rw [ifNF (isNil_false h3)] at h; exact absurd h h3
  rw [ifNT (nilT h3)] at h ⊢
  by_cases h4 : elK op = 2 ∧ ins.getD 0 noD ≠ ins.getD 1 noD ∨ op = 10 ∧ (ins.getD 0 noD).2 = false ∨ op = 11 ∧ (ins.getD 0 noD).2 = true
  · rw [if_pos h4] at h; cases h
  rw [if_neg h4] at h ⊢
  by_cases h5 : elFair op args (ins.getD 0 noD).2 = false
  · rw [if_pos h5] at h; cases h
  rw [if_neg h5] at h ⊢
  simp only [not_or, ne_eq, Decidable.not_not] at h2
  refine ⟨h1, h2.1, h2.2, h3, fun hk => Decidable.byContradiction fun hn => h4 (.inl ⟨hk, hn⟩), fun ho => ?_, fun ho => ?_, by simpa using h5, rfl⟩
  · cases hw : (ins.getD 0 noD).2
    · exact absurd (.inr (.inl ⟨ho, hw⟩)) h4
    · rfl
  · cases hw : (ins.getD 0 noD).2
    · rfl
    · exact absurd (.inr (.inr ⟨ho, hw⟩)) h4

theorem elFair_9 {args : List Int} {w : Bool} (h : elFair 9 args w = true) : args.getD 0 0 ≤ args.getD 1 0 := by
  have e : elFair 9 args w = (fitsB w (args.getD 0 0) && fitsB w (args.getD 1 0) && decide (args.getD 0 0 ≤ args.getD 1 0)) := rfl
  rw [e] at h
  simp only [Bool.and_eq_true, decide_eq_true_eq] at h
  exact h.2

theorem elFair_11 {args : List Int} {w : Bool} (h : elFair 11 args w = true) : -128 ≤ args.getD 0 0 ∧ args.getD 0 0 ≤ 127 := narrowB_iff.1 h

theorem firstBadT_two {a b : T} (h : firstBadT [a, b] = .nil) : tensV a = .nil ∧ tensV b = .nil := by
  unfold firstBadT firstBadT firstBadT at h
  by_cases ha : tensV a = .nil
  case neg => rw [ifF (isNil_false ha)] at h; exact absurd h ha
  rw [ifT (nilT ha)] at h
  by_cases hb : tensV b = .nil
  case neg => rw [ifF (isNil_false hb)] at h; exact absurd h hb
  exact ⟨ha, hb⟩

theorem firstBadT_one {a : T} (h : firstBadT [a] = .nil) : tensV a = .nil := by
  unfold firstBadT firstBadT at h
  by_cases ha : tensV a = .nil
  case neg => rw [ifF (isNil_false ha)] at h; exact absurd h ha
  exact ha

theorem tensV_in {a : T} (h : tensV a = .nil) (p : Nat) : -2147483648 ≤ a.2.getD p 0 ∧ a.2.getD p 0 ≤ 2147483647 := by
  have h3 := ((tensV_iff a).1 h).2.2
  rcases Nat.lt_or_ge p a.2.length with hp | hp
  · have := h3 _ (List.getElem_mem hp)
    rw [getD_lt hp]
    cases hw : a.1.2
    · rw [hw] at this; have := fitsB_narrow.1 this; omega
    · rw [hw] at this; exact fitsB_wide.1 this
  · rw [List.getD_eq_getElem?_getD, List.getElem?_eq_none hp]; simp

theorem tensV_narrowD {a : T} (h : tensV a = .nil) (hw : a.1.2 = false) (p : Nat) : -128 ≤ a.2.getD p 0 ∧ a.2.getD p 0 ≤ 127 := by
  have h3 := ((tensV_iff a).1 h).2.2
  rcases Nat.lt_or_ge p a.2.length with hp | hp
  · have := h3 _ (List.getElem_mem hp)
    rw [getD_lt hp]
    rw [hw] at this; exact fitsB_narrow.1 this
  · rw [List.getD_eq_getElem?_getD, List.getElem?_eq_none hp]; simp

theorem tensV_len {a : T} (h : tensV a = .nil) : (a.2.length : Int) = elems a.1.1 := ((tensV_iff a).1 h).2.1

theorem tensV_shape {a : T} (h : tensV a = .nil) : shapeV a.1.1 = .nil := ((tensV_iff a).1 h).1

theorem element_elem {N : Nat} (op : Int) (args : List Int) (ins : List T) (hr : (elemRes op args (ins.map Prod.fst)).2 = .nil) (hv : firstBadT ins = .nil) (d : D) {i : Nat} (hi : i < (ins.getD 0 (([], false), [])).2.length) :
    F_lodgeref3_element N op args i ins d = some (elE op args ins i, ()) := by
  obtain ⟨h1, h2, h3, _, h5, _, _, h8, _⟩ := elemRes_ok hr
  have hk : elK op = 2 ∨ elK op = 1 := by unfold elK; split <;> simp
  unfold F_lodgeref3_element elE
  rcases hk with hk | hk
  · rw [List.length_map, hk] at h3
    match ins, h3 with
    | [a, b], _ =>
    obtain ⟨va, vb⟩ := firstBadT_two hv
    have hab : a.1 = b.1 := h5 hk
    have ll : a.2.length = b.2.length := by
      have := tensV_len va
      have := tensV_len vb
      rw [hab] at *
      omega
    have hi' : i < a.2.length := hi
    refine cT (by simp) (cT h1.2 (cT (by simp) (cT (by simp) (cT (by omega) (cT (by simp; omega) (cT (by omega) (cT (by simp; omega) ?_)))))))
    refine bnd _ (lodgeref3_Value_spec N op _ (tensV_in va _) (tensV_in vb _) (by omega) (fun ho => ?_)) rfl
    subst ho
    have := elFair_11 h8
    omega
  · rw [List.length_map, hk] at h3
    match ins, h3 with
    | [a], _ =>
    have va := firstBadT_one hv
    have hi' : i < a.2.length := hi
    refine cT (by simp) (cT h1.2 (cF (by simp) (cT (by omega) (cT (by simp; omega) ?_))))
    refine bnd _ (lodgeref3_Value_spec N op _ (tensV_in va _) (by omega) (by omega) (fun ho => ?_)) rfl
    subst ho
    have := elFair_11 h8
    omega

end Go.Proofs.YtmbcbocnncfpbaaDoor.Lg
