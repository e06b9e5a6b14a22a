/-
  What the program's functions come to, in plain words.
-/
import Derived.Test.YtnblnlanicpagaaDoorLgOpAY
namespace Go.Proofs.YtnblnlanicpagaaDoor.Lg
open Go Go.Eng Go.Proofs

theorem op_first {N : Nat} (hN : N = 100000) : F_lodgelaw12_first N = some (true, ()) := by
  subst hN
  kernel_rfl

theorem kept_fits (w : Bool) (n : Int) : fitsB w (kept w n) = true := by
  unfold kept
  cases w
  · rw [if_neg (by decide), fitsB_narrow]
    exact cut_in (by omega)
  · rw [if_pos rfl, fitsB_wide]
    exact round32_range n

theorem getD_map_range {n i : Nat} (f : Nat → Int) (h : i < n) : ((List.range n).map f).getD i 0 = f i := by
  rw [getD_lt (by simpa using h)]
  simp

theorem tensV_mk {d : D} {n : Nat} {f : Nat → Int} (hs : shapeV d.1 = .nil) (he : elems d.1 = (n : Int)) (hf : ∀ i, i < n → fitsB d.2 (f i) = true) : tensV (d, (List.range n).map f) = .nil := by
  rw [tensV_iff]
  refine ⟨hs, by simp [he], ?_⟩
  intro x hx
  simp only [List.mem_map, List.mem_range] at hx
  obtain ⟨i, hi, rfl⟩ := hx
  exact hf i hi

theorem fits_zero (w : Bool) : fitsB w 0 = true := by cases w <;> decide

theorem tensV_fits {a : T} (h : tensV a = .nil) (p : Nat) : fitsB a.1.2 (a.2.getD p 0) = true := by
  by_cases hp : p < a.2.length
  · rw [getD_lt hp]; exact ((tensV_iff a).1 h).2.2 _ (List.getElem_mem hp)
  · rw [List.getD_eq_getElem?_getD, List.getElem?_eq_none (by omega)]; exact fits_zero _

theorem elV_fits {op : Int} {w : Bool} {x y : Int} {args : List Int} (hop : 4 ≤ op ∧ op ≤ 11) (hx : fitsB w x = true) (hy : fitsB w y = true) (hf : elFair op args w = true) (h11 : op = 11 → w = false) : fitsB (elWide op w) (elV op w x y args) = true := by
  have h : op = 4 ∨ op = 5 ∨ op = 6 ∨ op = 7 ∨ op = 8 ∨ op = 9 ∨ op = 10 ∨ op = 11 := by omega
  rcases h with rfl | rfl | rfl | rfl | rfl | rfl | rfl | rfl
  · exact kept_fits w _
  · exact kept_fits w _
  · exact kept_fits w _
  · change fitsB w (max x y) = true
    rcases Int.le_total x y with h | h
    · rw [show max x y = y by omega]; exact hy
    · rw [show max x y = x by omega]; exact hx
  · change fitsB w (max x 0) = true
    rcases Int.le_total x 0 with h | h
    · rw [show max x 0 = 0 by omega]; exact fits_zero w
    · rw [show max x 0 = x by omega]; exact hx
  · change fitsB w (cut x (args.getD 0 0) (args.getD 1 0)) = true
    have e : elFair 9 args w = (fitsB w (args.getD 0 0) && fitsB w (args.getD 1 0) && decide (args.getD 0 0 ≤ args.getD 1 0)) := rfl
    rw [e] at hf
    simp only [Bool.and_eq_true] at hf
    unfold cut
    split
    · exact hf.1.1
    · split
      · exact hf.1.2
      · exact hx
  · change fitsB false (requ x (args.getD 0 0) (args.getD 1 0) (args.getD 2 0)) = true
    rw [fitsB_narrow]
    exact cut_in (by omega)
  · change fitsB true (x - args.getD 0 0) = true
    have := elFair_11 hf
    have hw := h11 rfl
    subst hw
    have := fitsB_narrow.1 hx
    rw [fitsB_wide]
    omega

theorem matRes_wide {za zb : Int} {a b : D} (h : (matRes za zb a b).2 = .nil) : (matRes za zb a b).1.2 = true := by
  unfold matRes at h ⊢
  by_cases h1 : shapeV a.1 = .nil
  case neg => rw [ifNF (isNil_false h1)] at h; exact absurd h h1
  rw [ifNT (nilT h1)] at h ⊢
  by_cases h2 : shapeV b.1 = .nil
  case neg => rw [ifNF (isNil_false h2)] at h; exact absurd h h2
  rw [ifNT (nilT h2)] at h ⊢
  by_cases h3 : a.1.length ≠ 2 ∨ b.1.length ≠ 2 ∨ a.1.getD 1 0 ≠ b.1.getD 0 0 ∨ a.2 = true ∨ b.2 = true
  · rw [if_pos h3] at h; cases h
  rw [if_neg h3] at h ⊢
  by_cases h4 : narrowB za = false ∨ narrowB zb = false
  · rw [if_pos h4] at h; cases h
  rw [if_neg h4] at h ⊢
  by_cases h5 : shapeV [a.1.getD 0 0, b.1.getD 1 0] = .nil
  case neg => rw [ifF (isNil_false h5)] at h; exact absurd h h5
  rw [ifT (nilT h5)]

theorem sumN_lo {f : Nat → Int} {lo : Int} (h : ∀ i, lo ≤ f i) : ∀ k : Nat, lo * k ≤ sumN f k
  | 0 => by simp [sumN]
  | k + 1 => by
    have := sumN_lo h k
    have := h k
    simp only [sumN]
    rw [show ((k + 1 : Nat) : Int) = (k : Int) + 1 by omega, Int.mul_add, Int.mul_one]
    omega

theorem sumN_hi {f : Nat → Int} {hi : Int} (h : ∀ i, f i ≤ hi) : ∀ k : Nat, sumN f k ≤ hi * k
  | 0 => by simp [sumN]
  | k + 1 => by
    have := sumN_hi h k
    have := h k
    simp only [sumN]
    rw [show ((k + 1 : Nat) : Int) = (k : Int) + 1 by omega, Int.mul_add, Int.mul_one]
    omega

theorem avg_in {lo hi S q : Int} (hq : 0 < q) (h1 : lo * q ≤ S) (h2 : S ≤ hi * q) : lo ≤ (2 * S + q) / (2 * q) ∧ (2 * S + q) / (2 * q) ≤ hi := by
  constructor
  · apply Int.le_ediv_of_mul_le (by omega)
    have : lo * (2 * q) = 2 * (lo * q) := by rw [← Int.mul_assoc, Int.mul_comm lo 2, Int.mul_assoc]
    omega
  · have : (2 * S + q) / (2 * q) < hi + 1 := by
      apply Int.ediv_lt_of_lt_mul (by omega)
      have : (hi + 1) * (2 * q) = 2 * (hi * q) + 2 * q := by rw [Int.add_mul, Int.one_mul, ← Int.mul_assoc, Int.mul_comm hi 2, Int.mul_assoc]
      omega
    omega

theorem plC_in {A : List Int} {lo hi : Int} (fA : ∀ p, lo ≤ A.getD p 0 ∧ A.getD p 0 ≤ hi) {n : Nat} (hn : 1 ≤ n) (avg : Bool) (w c s ow i : Nat) : lo ≤ plC avg A w c n s ow i ∧ plC avg A w c n s ow i ≤ hi := by
  unfold plC
  cases avg
  · rw [if_neg (by decide)]
    exact mx_bound (fun q => fA _) _
  · rw [if_pos rfl]
    have q1 : 1 ≤ n * n := Nat.mul_le_mul hn hn
    have e : ((n * n : Nat) : Int) = (n : Int) * n := Int.natCast_mul n n
    apply avg_in (by omega)
    · unfold plS
      have := sumN_lo (f := fun dy => sumN (plV A w c s (i / c / ow) (i / c % ow) (i % c) dy) n) (lo := lo * n) (fun dy => sumN_lo (fun dx => (fA _).1) n) n
      rw [e, ← Int.mul_assoc]
      exact this
    · unfold plS
      have := sumN_hi (f := fun dy => sumN (plV A w c s (i / c / ow) (i / c % ow) (i % c) dy) n) (hi := hi * n) (fun dy => sumN_hi (fun dx => (fA _).2) n) n
      rw [e, ← Int.mul_assoc]
      exact this

theorem fits_iff {w : Bool} {x : Int} : fitsB w x = true ↔ (if w then (-2147483648 : Int) else -128) ≤ x ∧ x ≤ (if w then (2147483647 : Int) else 127) := by
  cases w
  · exact fitsB_narrow
  · exact fitsB_wide

theorem smC_in {A B : List Int} {n P i : Nat} (hn : 1 ≤ n) (hi : i < P * n) : -128 ≤ smC A B n i ∧ smC A B n i ≤ 127 := by
  have hw : ∀ j, 0 ≤ smW A B n i j := fun j => by unfold smW; omega
  have hs : 0 ≤ smS A B n i := sumN_nonneg (fun j => hw _) n
  have hle : smW A B n i i ≤ smS A B n i := by
    obtain ⟨r1, r2, r3⟩ := row_idx hn hi
    have := sumN_ge (f := fun j => smW A B n i (i / n * n + j)) (fun j => hw _) (k := n) (i := i - i / n * n) (by omega)
    (try dsimp only at this)
    rw [show i / n * n + (i - i / n * n) = i by omega] at this
    exact this
  have h0 := hw i
  unfold smC
  by_cases hz : smS A B n i = 0
  · rw [if_pos hz]; omega
  rw [if_neg hz]
  have d1 : 0 ≤ smS A B n i / 2 := Int.ediv_nonneg hs (by omega)
  have q1 : 0 ≤ (255 * smW A B n i i + smS A B n i / 2) / smS A B n i := Int.ediv_nonneg (by omega) hs
  have q2 : (255 * smW A B n i i + smS A B n i / 2) / smS A B n i < 256 := by
    apply Int.ediv_lt_of_lt_mul (by omega)
    omega
  omega

theorem elAll_fits (op : Int) (args : List Int) (ins : List T) (hv : firstBadT ins = .nil) (hr : (resV op args (ins.map Prod.fst)).2 = .nil) {i : Nat} (hi : (i : Int) < elems (resV op args (ins.map Prod.fst)).1.1) :
    fitsB (resV op args (ins.map Prod.fst)).1.2 (elAll op args ins (resV op args (ins.map Prod.fst)).1 i) = true := by
  generalize hd : (resV op args (ins.map Prod.fst)).1 = d at *
  unfold resV at hr hd
  by_cases hk : 4 ≤ op ∧ op ≤ 21
  case neg => rw [if_pos hk] at hr; cases hr
  rw [if_neg (fun h => h hk)] at hr hd
  unfold elAll
  by_cases h11 : op ≤ 11
  · rw [if_pos h11] at hr hd ⊢
    obtain ⟨p1, p2, p3, p4⟩ := elem_lens hr hv
    obtain ⟨h4, _, h6, _, h7, _, h9, h8, e⟩ := elemRes_ok hr
    rw [e] at hd
    subst hd
    rw [p3] at h8 h9 ⊢
    have hy : fitsB (ins.getD 0 (([], false), [])).1.2 (elY ins i) = true := by
      unfold elY
      split
      · rename_i hh
        have hk2 : elK op = 2 := by
          rw [List.length_map] at h6
          unfold elK at h6 ⊢
          split at h6
          · rw [if_pos (by assumption)]
          · omega
        have h10 := h7 hk2
        have e1 : (ins.map Prod.fst).getD 1 noD = (ins.getD 1 (([], false), [])).1 := by
          match ins, hh with
          | a :: b :: r, _ => rfl
        rw [p3, e1] at h10
        rw [h10]
        exact tensV_fits (p4 hh).1 i
      · exact fits_zero _
    exact elV_fits h4 (tensV_fits p2 i) hy h8 h9
  rw [if_neg h11] at hr hd ⊢
  by_cases hB : ins.length ≠ insN op ∨ (op ≠ 18 ∧ args.length ≠ argN op)
  · rw [List.length_map, if_pos hB] at hr; cases hr
  rw [List.length_map, if_neg hB] at hr hd
  have hn : ins.length = insN op := Decidable.byContradiction fun h => hB (.inl h)
  by_cases h12 : op = 12
  · rw [if_pos h12] at hr hd ⊢
    rw [← hd, matRes_wide hr, fitsB_wide]
    exact round32_range _
  rw [if_neg h12] at hr hd ⊢
  by_cases h13 : op = 13
  · subst h13
    rw [if_pos rfl] at hr hd ⊢
    match ins, hn with
    | [a, b], _ =>
    obtain ⟨va, vb⟩ := firstBadT_two hv
    obtain ⟨za, h, w, c, kh, kw, n, s, p, H, ear, wa, wb, q1, q2, g1, g2, g3, e1, e2⟩ := convRes_ok va vb hr
    change (convRes args a.1 b.1).1 = d at hd
    rw [e1] at hd
    subst hd
    rw [fitsB_wide]
    exact round32_range _
  rw [if_neg h13] at hr hd ⊢
  by_cases h145 : op = 14 ∨ op = 15
  · rw [if_pos h145] at hr hd ⊢
    have hn1 : ins.length = 1 := by rcases h145 with rfl | rfl <;> exact hn
    match ins, hn1 with
    | [a], _ =>
    have va := firstBadT_one hv
    obtain ⟨h, w, c, n, s, H, ear, g3, e1, e2⟩ := poolRes_ok va hr
    change (poolRes args a.1).1 = d at hd
    rw [e1] at hd
    subst hd
    subst ear
    have fa : ∀ p, (if a.1.2 then (-2147483648 : Int) else -128) ≤ a.2.getD p 0 ∧ a.2.getD p 0 ≤ (if a.1.2 then (2147483647 : Int) else 127) := fun p => fits_iff.1 (tensV_fits va p)
    simp only [List.getD_cons_zero, List.getD_cons_succ, Int.toNat_natCast]
    rw [fits_iff]
    exact plC_in fa H.hn.1 _ _ _ _ _ _
  rw [if_neg h145] at hr hd ⊢
  by_cases hs : op = 16 ∨ op = 17 ∨ op = 19 ∨ op = 20
  · rw [if_pos hs] at hr hd
    unfold softRes at hr hd
    rw [if_neg (fun h => h hs)] at hr hd
    by_cases hl : ((ins.map Prod.fst).length : Int) = softK op
    case neg => rw [if_pos hl] at hr; cases hr
    rw [if_neg (fun h => h hl)] at hr hd
    by_cases hb : firstBad (ins.map Prod.fst) = .nil
    case neg => rw [ifNF (isNil_false hb)] at hr; exact absurd hr hb
    rw [ifNT (nilT hb)] at hr hd
    rcases hs with rfl | rfl | rfl | rfl
    · match ins, hn with
      | [a, b], _ =>
      obtain ⟨va, vb⟩ := firstBadT_two hv
      rw [if_pos rfl] at hr hd
      simp only [List.map_cons, List.map_nil, List.getD_cons_zero, List.getD_cons_succ] at hr hd
      by_cases hc : a.1.2 = true ∨ (a.1.1.length : Int) < 1 ∨ b.1 ≠ ([256], true)
      · rw [if_pos hc] at hr; cases hr
      rw [if_neg hc] at hd
      simp only [not_or, ne_eq, Decidable.not_not, Bool.not_eq_true] at hc
      obtain ⟨pre, n, es, hn, hp1, hq, he, _, _⟩ := shape_nat_last (tensV_shape va) (by omega)
      subst hd
      rw [he] at hi
      have eg : a.1.1.getD (a.1.1.length - 1) 0 = (n : Int) := by rw [es]; exact getD_last _ _ _
      rw [if_pos rfl]
      simp only [List.getD_cons_zero, List.getD_cons_succ, eg, Int.toNat_natCast]
      rw [hc.1, fitsB_narrow]
      exact smC_in (P := prodN pre) hn.1 (by omega)
    · match ins, hn with
      | [a, b], _ =>
      obtain ⟨va, vb⟩ := firstBadT_two hv
      rw [if_neg (by decide), if_pos rfl] at hr hd
      simp only [List.map_cons, List.map_nil, List.getD_cons_zero, List.getD_cons_succ] at hr hd
      by_cases hc : a.1.1.length ≠ 2 ∨ b.1.1.length ≠ 1 ∨ b.1.2 = false
      · rw [if_pos hc] at hr; cases hr
      rw [if_neg hc] at hr hd
      unfold seenD at hr hd
      by_cases hsv : shapeV [b.1.1.getD 0 0, a.1.1.getD 1 0] = .nil
      case neg => rw [ifF (isNil_false hsv)] at hr; exact absurd hr hsv
      rw [ifT (nilT hsv)] at hd
      subst hd
      rw [if_neg (by decide), if_pos rfl]
      exact tensV_fits va _
    all_goals
      match ins, hn with
      | [a], _ =>
      have va := firstBadT_one hv
      rw [if_neg (by decide), if_neg (by decide)] at hr hd
      simp only [List.map_cons, List.map_nil, List.getD_cons_zero] at hr hd
      by_cases hc : (a.1.1.length : Int) < 1
      · rw [if_pos hc] at hr; cases hr
      rw [if_neg hc] at hd
      obtain ⟨pre, n, es, hn, hp1, hq, he, _, hep⟩ := shape_nat_last (tensV_shape va) (by omega)
      have eg : a.1.1.getD (a.1.1.length - 1) 0 = (n : Int) := by rw [es]; exact getD_last _ _ _
      subst hd
      rw [if_neg (by decide), if_neg (by decide)]
      simp only [List.getD_cons_zero, eg, Int.toNat_natCast]
      rw [fitsB_wide]
      have hl := am_lt (rowF a.2 n i) n hn.1
      have hr2 := round32_range (sumN (rowF a.2 n i) n)
      first
      | (rw [if_pos True.intro]; omega)
      | (rw [if_pos rfl]; omega)
      | (rw [if_neg (by decide), if_pos rfl]; omega)
      | (rw [if_neg (by decide), if_pos True.intro]; omega)
  rw [if_neg hs] at hr hd
  have h16 : op ≠ 16 := fun h => hs (.inl h)
  have h17 : op ≠ 17 := fun h => hs (.inr (.inl h))
  have h19 : op ≠ 19 := fun h => hs (.inr (.inr (.inl h)))
  have h20 : op ≠ 20 := fun h => hs (.inr (.inr (.inr h)))
  rw [if_neg h16, if_neg h17, if_neg h19, if_neg h20]
  by_cases h21 : op = 21
  · subst h21
    rw [if_pos rfl] at hr hd ⊢
    match ins, hn with
    | [a], _ =>
    have va := firstBadT_one hv
    unfold turnRes at hr hd
    simp only [List.map_cons, List.map_nil, List.getD_cons_zero] at hr hd ⊢
    rw [ifNT (nilT (tensV_shape va))] at hr hd
    by_cases h2 : a.1.1.length = 2
    case neg => rw [if_pos h2] at hr; cases hr
    rw [if_neg (fun h => h h2)] at hd
    subst hd
    exact tensV_fits va _
  rw [if_neg h21] at hr hd ⊢
  have h18 : op = 18 := by omega
  subst h18
  match ins, hn with
  | [a], _ =>
  have va := firstBadT_one hv
  unfold reshRes at hr hd
  simp only [List.map_cons, List.map_nil, List.getD_cons_zero] at hr hd ⊢
  rw [ifNT (nilT (tensV_shape va))] at hr hd
  by_cases hsv : shapeV args = .nil
  case neg => rw [ifNF (isNil_false hsv)] at hr; exact absurd hr hsv
  rw [ifNT (nilT hsv)] at hr hd
  by_cases he : elems args = elems a.1.1
  case neg => rw [if_pos he] at hr; cases hr
  rw [if_neg (fun h => h he)] at hd
  subst hd
  exact tensV_fits va _

theorem elems_shape {sh : List Int} (h : elems sh ≠ 0) : shapeV sh = .nil := by
  unfold elems at h
  split at h
  · rename_i hh; exact (isNil_iff _).1 hh
  · exact absurd rfl h

theorem resV_shape (op : Int) (args : List Int) (ins : List T) (hv : firstBadT ins = .nil) (hr : (resV op args (ins.map Prod.fst)).2 = .nil) : shapeV (resV op args (ins.map Prod.fst)).1.1 = .nil := by
  generalize hd : (resV op args (ins.map Prod.fst)).1 = d at *
  unfold resV at hr hd
  by_cases hk : 4 ≤ op ∧ op ≤ 21
  case neg => rw [if_pos hk] at hr; cases hr
  rw [if_neg (fun h => h hk)] at hr hd
  by_cases h11 : op ≤ 11
  · rw [if_pos h11] at hr hd
    obtain ⟨p1, p2, p3, p4⟩ := elem_lens hr hv
    obtain ⟨_, _, _, _, _, _, _, _, e⟩ := elemRes_ok hr
    rw [e] at hd
    subst hd
    rw [p3]
    exact tensV_shape p2
  rw [if_neg h11] at hr hd
  by_cases hB : ins.length ≠ insN op ∨ (op ≠ 18 ∧ args.length ≠ argN op)
  · rw [List.length_map, if_pos hB] at hr; cases hr
  rw [List.length_map, if_neg hB] at hr hd
  have hn : ins.length = insN op := Decidable.byContradiction fun h => hB (.inl h)
  by_cases h12 : op = 12
  · rw [if_pos h12] at hr hd
    rw [← hd]
    unfold matRes at hr ⊢
    by_cases h1 : shapeV ((ins.map Prod.fst).getD 0 noD).1 = .nil
    case neg => rw [ifNF (isNil_false h1)] at hr; exact absurd hr h1
    rw [ifNT (nilT h1)] at hr ⊢
    by_cases h2 : shapeV ((ins.map Prod.fst).getD 1 noD).1 = .nil
    case neg => rw [ifNF (isNil_false h2)] at hr; exact absurd hr h2
    rw [ifNT (nilT h2)] at hr ⊢
    split at hr
    · cases hr
    rename_i h3
    rw [if_neg h3]
    split at hr
    · cases hr
    rename_i h4
    rw [if_neg h4]
    by_cases h5 : shapeV [((ins.map Prod.fst).getD 0 noD).1.getD 0 0, ((ins.map Prod.fst).getD 1 noD).1.getD 1 0] = .nil
    case neg => rw [ifF (isNil_false h5)] at hr; exact absurd hr h5
    rw [ifT (nilT h5)]
    exact h5
  rw [if_neg h12] at hr hd
  by_cases h13 : op = 13
  · subst h13
    rw [if_pos rfl] at hr hd
    match ins, hn with
    | [a, b], _ =>
    obtain ⟨va, vb⟩ := firstBadT_two hv
    obtain ⟨za, h, w, c, kh, kw, n, s, p, H, ear, wa, wb, q1, q2, g1, g2, g3, e1, e2⟩ := convRes_ok va vb hr
    change (convRes args a.1 b.1).1 = d at hd
    rw [hd] at e2
    apply elems_shape
    rw [e2]
    have hh := H.hn
    have : 1 ≤ ((h + 2 * p - kh) / s + 1) * ((w + 2 * p - kw) / s + 1) * n := Nat.mul_pos (Nat.mul_pos (by omega) (by omega)) (by omega)
    omega
  rw [if_neg h13] at hr hd
  by_cases h145 : op = 14 ∨ op = 15
  · rw [if_pos h145] at hr hd
    have hn1 : ins.length = 1 := by rcases h145 with rfl | rfl <;> exact hn
    match ins, hn1 with
    | [a], _ =>
    have va := firstBadT_one hv
    obtain ⟨h, w, c, n, s, H, ear, g3, e1, e2⟩ := poolRes_ok va hr
    change (poolRes args a.1).1 = d at hd
    rw [hd] at e2
    apply elems_shape
    rw [e2]
    have hh := H.hc
    have : 1 ≤ ((h - n) / s + 1) * ((w - n) / s + 1) * c := Nat.mul_pos (Nat.mul_pos (Nat.succ_pos _) (Nat.succ_pos _)) (by omega)
    omega
  rw [if_neg h145] at hr hd
  by_cases hs : op = 16 ∨ op = 17 ∨ op = 19 ∨ op = 20
  · rw [if_pos hs] at hr hd
    have hl : ((ins.map Prod.fst).length : Int) = softK op := by
      apply Decidable.byContradiction
      intro hl
      unfold softRes at hr
      rw [if_neg (fun h => h hs), if_pos hl] at hr
      cases hr
    have hb : firstBad (ins.map Prod.fst) = .nil := by
      apply Decidable.byContradiction
      intro hb
      unfold softRes at hr
      rw [if_neg (fun h => h hs), if_neg (fun h => h hl), ifNF (isNil_false hb)] at hr
      exact hb hr
    rw [softRes_lk hs hl hb] at hr hd
    split at hr
    · cases hr
    rename_i h2
    rw [if_neg h2] at hd
    unfold seenD at hr hd
    by_cases h3 : shapeV (softLk op (ins.map Prod.fst)).1.1 = .nil
    · rw [ifT (nilT h3)] at hd
      rw [← hd]
      exact h3
    · rw [ifF (isNil_false h3)] at hr
      exact absurd hr h3
  rw [if_neg hs] at hr hd
  by_cases h21 : op = 21
  · subst h21
    rw [if_pos rfl] at hr hd
    match ins, hn with
    | [a], _ =>
    have va := firstBadT_one hv
    unfold turnRes at hr hd
    simp only [List.map_cons, List.map_nil, List.getD_cons_zero] at hr hd
    rw [ifNT (nilT (tensV_shape va))] at hr hd
    by_cases h2 : a.1.1.length = 2
    case neg => rw [if_pos h2] at hr; cases hr
    rw [if_neg (fun h => h h2)] at hd
    obtain ⟨m, n, e, hm, hn, hmn, he⟩ := shape_nat_two (tensV_shape va) h2
    subst hd
    rw [e]
    exact shapeV_two hn hm (by rw [Nat.mul_comm]; exact hmn)
  rw [if_neg h21] at hr hd
  unfold reshRes at hr hd
  split at hr
  · rename_i hh; dsimp only at hr; rw [hr] at hh; cases hh
  rename_i h1
  rw [if_neg h1] at hd
  by_cases hsv : shapeV args = .nil
  case neg => rw [ifNF (isNil_false hsv)] at hr; exact absurd hr hsv
  rw [ifNT (nilT hsv)] at hr hd
  split at hr
  · cases hr
  rename_i h3
  rw [if_neg h3] at hd
  rw [← hd]
  exact hsv

def okT (m : Int) (t : T) : Bool := decide ((t.1.1.length : Int) ≤ 8 ∧ (t.2.length : Int) ≤ m)

theorem loop_TensorsE (N : Nat) (l : List T) (m : Int) (hl : l.length ≤ 1000) : ∀ (n i : Nat), i ≤ l.length → l.length < n + i →
    g_lodgeworld_Tensors_0 N n l m i = if (l.drop i).all (okT m) then some (.inl ()) else some (.inr (false, ()))
  | 0, i, h, h' => by omega
  | n + 1, i, h, h' => by
    rw [g_lodgeworld_Tensors_0]
    by_cases hi : i < l.length
    · have hs := lodgeworld_Tensor_spec N (l.getD i (([], false), [])) m
      rw [drop_cons hi (([], false), []), List.all_cons]
      change F_lodgeworld_Tensor N (l.getD i (([], false), [])) m = some (okT m (l.getD i (([], false), [])), ()) at hs
      refine cT (by omega) (cT (by omega) (cT (by simpa using hi) ?_))
      rw [Int.toNat_natCast, wi64_succ (by omega)]
      refine bnd _ hs ?_
      cases hd : okT m (l.getD i (([], false), []))
      · exact bT rfl rfl
      · refine bF rfl ?_
        rw [Bool.true_and]
        exact loop_TensorsE N l m hl n (i + 1) hi (by omega)
    · rw [List.drop_eq_nil_of_le (by omega)]
      exact cF (by omega) rfl

theorem loop_lightE (N : Nat) (op : Int) (args : List Int) (ins : List T) (hl : ins.length ≤ 1000) : ∀ (n i : Nat), i ≤ ins.length → ins.length < n + i →
    g_lodgelaw12_light_0 N n op args ins ((ins.map Prod.fst).take i) i = some (op, (args, (ins.map Prod.fst, ())))
  | 0, i, h, h' => by omega
  | n + 1, i, h, h' => by
    rw [g_lodgelaw12_light_0]
    by_cases hi : i < ins.length
    · have hlen : ((ins.map Prod.fst).take i).length = i := by simp; omega
      have e : List.take (List.length ((ins.map Prod.fst).take i)) ((ins.map Prod.fst).take i) ++ [(ins.getD i (([], false), [])).1] = (ins.map Prod.fst).take (i + 1) := by
        rw [List.take_length, List.take_succ_eq_append_getElem (by simpa using hi), getD_lt hi]
        simp
      refine cT (by omega) (cT (by omega) (cT (by simpa using hi) (cT (by omega) ?_)))
      rw [Int.toNat_natCast, e, wi64_succ (by omega)]
      refine cT (by rw [hlen]; simp only [most]; omega) (cT (by simp; omega) ?_)
      exact loop_lightE N op args ins hl n (i + 1) hi (by omega)
    · refine cF (by omega) ?_
      rw [List.take_of_length_le (by simp; omega)]
      exact cT (by first | rfl | exact True.intro) rfl

theorem lightE_spec {N : Nat} (hN : 20000 ≤ N) (op : Int) (args : List Int) (ins : List T) : ∃ b, F_lodgelaw12_light N op args ins = some (b, ()) ∧ (b = true → args.length ≤ 10 ∧ ins.length ≤ 3 ∧ ins.all (okT 300) = true) := by
  unfold F_lodgelaw12_light
  by_cases h1 : (10 : Int) < (args.length : Int)
  · exact ⟨false, cT h1 rfl, by simp⟩
  by_cases h2 : (3 : Int) < (ins.length : Int)
  · refine ⟨false, cF h1 (bnd (false, ()) ?_ (bT rfl rfl)), by simp⟩
    unfold F_lodgeworld_Tensors
    exact cT h2 rfl
  have h0 := loop_TensorsE N ins 300 (by omega) N 0 (by omega) (by omega)
  rw [show ((0 : Nat) : Int) = 0 from rfl, List.drop_zero] at h0
  cases ha : ins.all (okT 300)
  case false =>
    rw [ha] at h0
    refine ⟨false, cF h1 (bnd (false, ()) ?_ (bT rfl rfl)), by simp⟩
    unfold F_lodgeworld_Tensors
    exact cF h2 (bnd _ h0 rfl)
  rw [ha] at h0
  have h3 := loop_lightE N op args ins (by omega) N 0 (by omega) (by omega)
  rw [show ((0 : Nat) : Int) = 0 from rfl, List.take_zero] at h3
  have hT : F_lodgeworld_Tensors N ins 3 300 = some (true, ()) := by
    unfold F_lodgeworld_Tensors
    exact cF h2 (bnd _ h0 rfl)
  have hm : List.take (List.length (ins.map Prod.fst)) (ins.map Prod.fst) = ins.map Prod.fst := List.take_length
  have hR := ref_Result_all hN op args (by omega) (ins.map Prod.fst) (by simp; omega)
  have hU := ref_Unit_spec hN op args (by omega) (ins.map Prod.fst) (by simp; omega)
  by_cases hr : codeE (resV op args (ins.map Prod.fst)).2 = 0
  · refine ⟨decide (wi64 (elems (resV op args (ins.map Prod.fst)).1.1 * unitR op args (ins.map Prod.fst)) ≤ 100000), cF h1 (bnd _ hT (bF rfl (bnd _ h3 (cT (by simp) ?_)))), fun _ => ⟨by omega, by omega, rfl⟩⟩
    dsimp only
    rw [hm]
    refine bnd _ hR (cT (by simp) (bnd _ hU (cF (fun h => h hr) (cT (by simp) ?_))))
    dsimp only
    rw [List.take_length]
    exact bnd _ (lodgeref3_Elems_spec hN _) rfl
  · refine ⟨true, cF h1 (bnd _ hT (bF rfl (bnd _ h3 (cT (by simp) ?_)))), fun _ => ⟨by omega, by omega, rfl⟩⟩
    dsimp only
    rw [hm]
    exact bnd _ hR (cT (by simp) (bnd _ hU (cT hr rfl)))

theorem lodgeref_Tensor_spec {N : Nat} (hN : 20000 ≤ N) (a : T) (h1 : a.1.1.length ≤ 1000) (h2 : a.2.length ≤ 1000) : F_lodgeref_Tensor N a = some (boxT a.1.1 a.1.2 a.2, ()) := by
  unfold F_lodgeref_Tensor
  refine bnd _ (lodgeref_Desc_spec a.1 (by omega) (by omega)) (bnd _ (lodgeref_Ints_spec a.2 (by omega) (by omega)) ?_)
  (repeat first | refine cT rfl ?_ | refine cT True.intro ?_)
  rfl

theorem okT_len {m : Int} {t : T} (h : okT m t = true) : (t.1.1.length : Int) ≤ 8 ∧ (t.2.length : Int) ≤ m := of_decide_eq_true h

theorem loop_Tensors_copy {N : Nat} (hN : 20000 ≤ N) (ins : List T) (hl : ins.length ≤ 1000) (ha : ∀ t, t ∈ ins → okT 300 t = true) : ∀ (n i : Nat), i ≤ ins.length → ins.length < n + i →
    g_lodgeref_Tensors_0 N n ins (ins.take i) i = some (ins, ())
  | 0, i, h, h' => by omega
  | n + 1, i, h, h' => by
    rw [g_lodgeref_Tensors_0]
    by_cases hi : i < ins.length
    · have hlen : (ins.take i).length = i := by simp; omega
      have ht := okT_len (ha (ins.getD i (([], false), [])) (by rw [getD_lt hi]; exact List.getElem_mem hi))
      have e : List.take (List.length (ins.take i)) (ins.take i) ++ [ins.getD i (([], false), [])] = ins.take (i + 1) := by
        rw [List.take_length, List.take_succ_eq_append_getElem hi, getD_lt hi]
      refine cT (by omega) (cT (by omega) (cT (by simpa using hi) ?_))
      rw [Int.toNat_natCast]
      refine bnd _ (lodgeref_Tensor_spec hN _ (by omega) (by omega)) (cT (by simp) (cT (by simp) (cT (by omega) ?_)))
      dsimp only
      simp only [List.take_length]
      change cond _ (cond (decide ((ins.take i).length + 1 = (List.length ((ins.take i) ++ [ins.getD i (([], false), [])])))) (g_lodgeref_Tensors_0 N n ins ((ins.take i) ++ [ins.getD i (([], false), [])]) _) none) none = _
      rw [List.take_length] at e
      rw [e, wi64_succ (by omega)]
      refine cT (by rw [hlen]; simp only [most]; omega) (cT (by simp; omega) ?_)
      exact loop_Tensors_copy hN ins hl ha n (i + 1) hi (by omega)
    · refine cF (by omega) ?_
      rw [List.take_of_length_le (by omega)]
      exact cT (by first | rfl | exact True.intro) rfl

theorem loop_SameTensors {N : Nat} (hN : 20000 ≤ N) (ins : List T) (hl : ins.length ≤ 1000) (ha : ∀ t, t ∈ ins → okT 300 t = true) : ∀ (n i : Nat), i ≤ ins.length → ins.length < n + i →
    g_lodgeref_SameTensors_0 N n ins ins i = some (.inl ())
  | 0, i, h, h' => by omega
  | n + 1, i, h, h' => by
    rw [g_lodgeref_SameTensors_0]
    by_cases hi : i < ins.length
    · have ht := okT_len (ha (ins.getD i (([], false), [])) (by rw [getD_lt hi]; exact List.getElem_mem hi))
      refine cT (by omega) (cT (by omega) (cT (by simpa using hi) (cT (by omega) (cT (by simpa using hi) ?_))))
      rw [Int.toNat_natCast]
      refine bnd _ (lodgeref_SameTensor_self rfl (by omega) (by omega) (by omega) (by omega)) (bF rfl ?_)
      rw [wi64_succ (by omega)]
      exact loop_SameTensors hN ins hl ha n (i + 1) hi (by omega)
    · exact cF (by omega) rfl

theorem loop_OpElements_0 (N : Nat) (op : Int) (args : List Int) (ins : List T) (t : List Int × (Bool × (List Int × Unit))) (hl : ins.length ≤ 1000) : ∀ (n i : Nat), i ≤ ins.length → ins.length < n + i →
    g_lodgelaw12_OpElements_0 N n op args ins t ((ins.map Prod.fst).take i) i = some (op, (args, (ins, (t, (ins.map Prod.fst, ())))))
  | 0, i, h, h' => by omega
  | n + 1, i, h, h' => by
    rw [g_lodgelaw12_OpElements_0]
    by_cases hi : i < ins.length
    · have hlen : ((ins.map Prod.fst).take i).length = i := by simp; omega
      have e : List.take (List.length ((ins.map Prod.fst).take i)) ((ins.map Prod.fst).take i) ++ [(ins.getD i (([], false), [])).1] = (ins.map Prod.fst).take (i + 1) := by
        rw [List.take_length, List.take_succ_eq_append_getElem (by simpa using hi), getD_lt hi]
        simp
      refine cT (by omega) (cT (by omega) (cT (by simpa using hi) (cT (by omega) ?_)))
      rw [Int.toNat_natCast, e, wi64_succ (by omega)]
      refine cT (by rw [hlen]; simp only [most]; omega) (cT (by first | rfl | exact True.intro) (cT (by simp; omega) ?_))
      exact loop_OpElements_0 N op args ins t hl n (i + 1) hi (by omega)
    · refine cF (by omega) ?_
      rw [List.take_of_length_le (by simp; omega)]
      (repeat first | refine cT rfl ?_ | refine cT True.intro ?_)
      rfl

theorem loop_OpElements_1 {N : Nat} (hN : 20000 ≤ N) (op : Int) (args : List Int) (hargs : args.length ≤ 10000) (ins : List T) (hi : ins.length ≤ 1000) (d : D) (L : List Int) (hL : L.length ≤ 100000) (he : ∀ i, i < L.length → elmV op args (i : Int) ins = L.getD i 0) : ∀ (n i : Nat), i ≤ 60 → i ≤ L.length → 60 < n + i →
    g_lodgelaw12_OpElements_1 N n op args ins ((d, L), ()) i = some (.inl (op, (args, (ins, (((d, L), ()), ())))))
  | 0, i, h1, h2, h' => by omega
  | n + 1, i, h1, h2, h' => by
    rw [g_lodgelaw12_OpElements_1]
    by_cases hlt : i < L.length
    · by_cases h60 : i < 60
      · refine cT (by dsimp only; omega) (cT (by omega) (bnd _ (op_Element_spec hN op args hargs (i : Int) ins hi) (cT (Int.natCast_nonneg _) (cT (by rw [Int.toNat_natCast]; exact hlt) (cF ?_ ?_)))))
        · rw [Int.toNat_natCast]; exact fun h => h (he i hlt)
        · rw [wi64_succ (by omega)]
          exact loop_OpElements_1 hN op args hargs ins hi d L hL he n (i + 1) (by omega) hlt (by omega)
      · exact cT (by dsimp only; omega) (cF (by omega) rfl)
    · exact cF (by dsimp only; omega) rfl

theorem OpElements_law {N : Nat} (hN : 20000 ≤ N) (h1st : F_lodgelaw12_first N = some (true, ())) (op : Int) (args : List Int) (ins : List T) : F_lodgelaw12_OpElements N op args ins = some (true, ()) := by
  unfold F_lodgelaw12_OpElements
  refine bnd _ h1st (bF rfl ?_)
  obtain ⟨b, hb, hb'⟩ := lightE_spec hN op args ins
  refine bnd _ hb ?_
  cases b
  case false => exact bT rfl rfl
  obtain ⟨ha, hi, hall⟩ := hb' rfl
  have hall' : ∀ t, t ∈ ins → okT 300 t = true := fun t ht => List.all_eq_true.1 hall t ht
  refine bF rfl (bF rfl ?_)
  have h0 := loop_Tensors_copy hN ins (by omega) hall' N 0 (by omega) (by omega)
  rw [show ((0 : Nat) : Int) = 0 from rfl, List.take_zero] at h0
  have hT : F_lodgeref_Tensors N ins = some (ins, ()) := by
    unfold F_lodgeref_Tensors
    refine cT (by simp only [most]; omega) (bnd _ h0 ?_)
    (repeat first | refine cT rfl ?_ | refine cT True.intro ?_)
    rfl
  have h1 := loop_SameTensors hN ins (by omega) hall' N 0 (by omega) (by omega)
  rw [show ((0 : Nat) : Int) = 0 from rfl] at h1
  have hS : F_lodgeref_SameTensors N ins ins = some (true, ()) := by
    unfold F_lodgeref_SameTensors
    exact cF (fun h => h rfl) (bnd _ h1 rfl)
  refine bnd _ hT (bnd _ (op_Apply_spec hN op args (by omega) ins (by omega)) (cT (by simp) ?_))
  dsimp only
  rw [List.take_length]
  refine bnd _ hS (bF rfl ?_)
  have hE := fun i => op_Element_spec hN op args (by omega) i ins (by omega)
  by_cases hv : firstBadT ins = .nil
  case neg =>
    have e1 : appV op args ins = ((noD, []), firstBadT ins) := by unfold appV; rw [if_pos hv]
    have e2 : elmV op args 0 ins = 0 := by unfold elmV; rw [if_pos hv]
    rw [e1]
    refine bT (by simp [isNil_false hv]) (cT (by first | rfl | exact True.intro) (bnd _ (hE 0) ?_))
    rw [e2]
    rfl
  by_cases hr : (resV op args (ins.map Prod.fst)).2 = .nil
  case neg =>
    have e1 : appV op args ins = ((noD, []), (resV op args (ins.map Prod.fst)).2) := by unfold appV; rw [if_neg (fun h => h hv), if_pos hr]
    have e2 : elmV op args 0 ins = 0 := by unfold elmV; rw [if_neg (fun h => h hv), if_pos hr]
    rw [e1]
    refine bT (by simp [isNil_false hr]) (cT (by first | rfl | exact True.intro) (bnd _ (hE 0) ?_))
    rw [e2]
    rfl
  have e1 : appV op args ins = (((resV op args (ins.map Prod.fst)).1, (List.range (elems (resV op args (ins.map Prod.fst)).1.1).toNat).map (elAll op args ins (resV op args (ins.map Prod.fst)).1)), .nil) := by unfold appV; rw [if_neg (fun h => h hv), if_neg (fun h => h hr)]
  have hsh := resV_shape op args ins hv hr
  have hb2 := elems_bound (resV op args (ins.map Prod.fst)).1.1
  have hlen := resV_len op args (ins.map Prod.fst)
  have hfit := fun i => @elAll_fits op args ins hv hr i
  have hel : ∀ i : Nat, (i : Int) < elems (resV op args (ins.map Prod.fst)).1.1 → elmV op args (i : Int) ins = elAll op args ins (resV op args (ins.map Prod.fst)).1 i := by
    intro i h
    unfold elmV
    rw [if_neg (fun h => h hv), if_neg (fun h => h hr), if_pos ⟨by omega, h⟩, Int.toNat_natCast]
  have hneg : elmV op args (-1) ins = 0 := by
    unfold elmV
    rw [if_neg (fun h => h hv), if_neg (fun h => h hr), if_neg (by omega)]
  have hout : elmV op args (elems (resV op args (ins.map Prod.fst)).1.1) ins = 0 := by
    unfold elmV
    rw [if_neg (fun h => h hv), if_neg (fun h => h hr), if_neg (by omega)]
  have hRes := op_Result_spec hN op args (by omega) (ins.map Prod.fst) (by simp; omega)
  rw [e1]
  generalize resV op args (ins.map Prod.fst) = Z at *
  obtain ⟨sz, esz⟩ : ∃ sz : Nat, elems Z.1.1 = (sz : Int) := ⟨(elems Z.1.1).toNat, by omega⟩
  rw [esz] at hb2 hfit hel hout ⊢
  rw [Int.toNat_natCast]
  obtain ⟨L, eL⟩ : ∃ L, (List.range sz).map (elAll op args ins Z.1) = L := ⟨_, rfl⟩
  have hL : L.length = sz := by rw [← eL, List.length_map, List.length_range]
  have hLg : ∀ i, i < L.length → elmV op args (i : Int) ins = L.getD i 0 := by
    intro i h
    rw [hel i (by omega), getD_lt h]
    simp only [← eL, List.getElem_map, List.getElem_range]
  have hval : tensV (Z.1, L) = .nil := by
    rw [← eL]
    exact tensV_mk hsh esz (fun i h => hfit i (by omega))
  rw [eL]
  refine bF rfl ?_
  (repeat first | refine cT rfl ?_ | refine cT True.intro ?_)
  have h2 := loop_OpElements_0 N op args ins (boxT Z.1.1 Z.1.2 L) (by omega) N 0 (by omega) (by omega)
  rw [show ((0 : Nat) : Int) = 0 from rfl, List.take_zero] at h2
  refine bnd _ h2 (cT (by simp) ?_)
  dsimp only
  have hm : List.take (List.length (ins.map Prod.fst)) (ins.map Prod.fst) = ins.map Prod.fst := List.take_length
  rw [hm]
  refine bnd _ hRes (bF (by dsimp only; rw [hr]; rfl) (cT (by simp) ?_))
  dsimp only
  (try simp only [List.take_length])
  refine bnd _ (tens_Valid_spec hN _) (bF (by dsimp only; rw [hval]; rfl) ?_)
  refine bnd _ (lodgeref_SameDesc_self rfl (by omega) (by omega)) (bF rfl (cT (by simp) (cT (by simp) ?_)))
  have h3 := loop_OpElements_1 hN op args (by omega) ins (by omega) Z.1 L (by omega) hLg N 0 (by omega) (by omega) (by omega)
  rw [show ((0 : Nat) : Int) = 0 from rfl] at h3
  refine bnd _ h3 ?_
  dsimp only [Sum.elim_inl]
  refine bnd _ (hE (-1)) (cT hneg (bnd _ (hE (L.length : Int)) ?_))
  rw [hL, hout]
  rfl

theorem OpElements_row {N : Nat} (hN : N = 100000) (x : Val (rowTy ps_lodgelaw12_OpElements)) (_ : FitsL ps_lodgelaw12_OpElements x) : (c_lodgelaw12_OpElements N).g x = some (true, ()) := by
  have h1 := op_first hN
  exact OpElements_law (by omega) h1 _ _ _

end Go.Proofs.YtnblnlanicpagaaDoor.Lg
