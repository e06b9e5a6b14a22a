/-
  What the program's functions come to, in plain words.
-/
import Derived.Test.YtmbcbocnncfpbaaDoorLgElemResults
namespace Go.Proofs.YtmbcbocnncfpbaaDoor.Lg
open Go Go.Eng Go.Proofs

/-! an element of any operation -/

def elAll (op : Int) (args : List Int) (ins : List T) (d : D) (i : Nat) : Int :=
  if op ≤ 11 then elE op args ins i
  else if op = 12 then mulC (ins.getD 0 (([], false), [])).2 (ins.getD 1 (([], false), [])).2 (args.getD 0 0) (args.getD 1 0) ((ins.getD 0 (([], false), [])).1.1.getD 1 0).toNat ((ins.getD 1 (([], false), [])).1.1.getD 1 0).toNat i
  else if op = 13 then cvC (ins.getD 0 (([], false), [])).2 (ins.getD 1 (([], false), [])).2 (args.getD 2 0) ((ins.getD 0 (([], false), [])).1.1.getD 0 0).toNat ((ins.getD 0 (([], false), [])).1.1.getD 1 0).toNat ((ins.getD 0 (([], false), [])).1.1.getD 2 0).toNat ((ins.getD 1 (([], false), [])).1.1.getD 0 0).toNat ((ins.getD 1 (([], false), [])).1.1.getD 1 0).toNat ((ins.getD 1 (([], false), [])).1.1.getD 3 0).toNat (args.getD 0 0).toNat (args.getD 1 0).toNat (d.1.getD 1 0).toNat i
  else if op = 14 ∨ op = 15 then plC (decide (op = 15)) (ins.getD 0 (([], false), [])).2 ((ins.getD 0 (([], false), [])).1.1.getD 1 0).toNat ((ins.getD 0 (([], false), [])).1.1.getD 2 0).toNat (args.getD 0 0).toNat (args.getD 1 0).toNat (d.1.getD 1 0).toNat i
  else if op = 16 then smC (ins.getD 0 (([], false), [])).2 (ins.getD 1 (([], false), [])).2 ((ins.getD 0 (([], false), [])).1.1.getD ((ins.getD 0 (([], false), [])).1.1.length - 1) 0).toNat i
  else if op = 17 then gaC (ins.getD 0 (([], false), [])).2 (ins.getD 1 (([], false), [])).2 ((ins.getD 0 (([], false), [])).1.1.getD 0 0).toNat ((ins.getD 0 (([], false), [])).1.1.getD 1 0).toNat i
  else if op = 19 then ((am (rowF (ins.getD 0 (([], false), [])).2 ((ins.getD 0 (([], false), [])).1.1.getD ((ins.getD 0 (([], false), [])).1.1.length - 1) 0).toNat i) ((ins.getD 0 (([], false), [])).1.1.getD ((ins.getD 0 (([], false), [])).1.1.length - 1) 0).toNat : Nat) : Int)
  else if op = 20 then round32 (sumN (rowF (ins.getD 0 (([], false), [])).2 ((ins.getD 0 (([], false), [])).1.1.getD ((ins.getD 0 (([], false), [])).1.1.length - 1) 0).toNat i) ((ins.getD 0 (([], false), [])).1.1.getD ((ins.getD 0 (([], false), [])).1.1.length - 1) 0).toNat)
  else if op = 21 then (ins.getD 0 (([], false), [])).2.getD (i % ((ins.getD 0 (([], false), [])).1.1.getD 0 0).toNat * ((ins.getD 0 (([], false), [])).1.1.getD 1 0).toNat + i / ((ins.getD 0 (([], false), [])).1.1.getD 0 0).toNat) 0
  else (ins.getD 0 (([], false), [])).2.getD i 0

/-- two tensors whose convolution may be -/
theorem convRes_ok {a k : T} {ar : List Int} (va : tensV a = .nil) (vk : tensV k = .nil) (h : (convRes ar a.1 k.1).2 = .nil) : ∃ (za : Int) (h w c kh kw n s p : Nat), ConvOK a k za h w c kh kw n s p ∧ ar = [(s : Int), (p : Int), za] ∧ a.1.2 = false ∧ k.1.2 = false ∧ kh ≤ h + 2 * p ∧ kw ≤ w + 2 * p ∧
    (1 ≤ (h + 2 * p - kh) / s + 1 ∧ (h + 2 * p - kh) / s + 1 ≤ 256) ∧ (1 ≤ (w + 2 * p - kw) / s + 1 ∧ (w + 2 * p - kw) / s + 1 ≤ 256) ∧ ((h + 2 * p - kh) / s + 1) * ((w + 2 * p - kw) / s + 1) * n ≤ 16384 ∧
    (convRes ar a.1 k.1).1 = ([(((h + 2 * p - kh) / s + 1 : Nat) : Int), (((w + 2 * p - kw) / s + 1 : Nat) : Int), (n : Int)], true) ∧ elems (convRes ar a.1 k.1).1.1 = ((((h + 2 * p - kh) / s + 1) * ((w + 2 * p - kw) / s + 1) * n : Nat) : Int) := by
  have sa := tensV_shape va
  have sk := tensV_shape vk
  unfold convRes at h ⊢
  by_cases hl : ar.length = 3
  case neg => rw [if_pos hl] at h; cases h
  rw [if_neg (fun h => h hl), ifNT (nilT sa), ifNT (nilT sk)] at h ⊢
  split at h
  · cases h
  rename_i hB1
  split at h
  · cases h
  rename_i hB2
  split at h
  · cases h
  rename_i hB3
  rw [if_neg hB1, if_neg hB2, if_neg hB3]
  simp only [not_or, ne_eq, Decidable.not_not, Bool.not_eq_true, Int.not_lt] at hB1 hB2 hB3
  obtain ⟨l1, l2, c1, w1, w2⟩ := hB1
  obtain ⟨r1, r2, r3, r4, r5⟩ := hB2
  obtain ⟨q1, q2⟩ := hB3
  obtain ⟨h0, w0, c0, e1, hh, hw, hc, hp, he⟩ := shape_nat_three sa l1
  obtain ⟨ns, e2, _, hn, _, hq, he2⟩ := shape_nat sk
  rw [e2] at l2
  match ns, l2, e2, hn, hq, he2 with
  | [kh, kw, kc, n], _, e2, hn, hq, he2 =>
  simp only [prodN, Nat.mul_one] at hq he2
  rw [e1, e2] at c1 q1 q2
  simp only [List.map_cons, List.map_nil, List.getD_cons_zero, List.getD_cons_succ] at c1 q1 q2 e2
  have hcc : kc = c0 := by omega
  subst hcc
  have hkh := hn kh (by simp)
  have hkw := hn kw (by simp)
  have hnn := hn n (by simp)
  match ar, hl with
  | [x, y, z], _ =>
  simp only [List.getD_cons_zero, List.getD_cons_succ] at r1 r2 r3 r4 r5 q1 q2 h ⊢
  obtain ⟨s, es⟩ : ∃ s : Nat, x = (s : Int) := ⟨x.toNat, by omega⟩
  obtain ⟨p, ep⟩ : ∃ p : Nat, y = (p : Int) := ⟨y.toNat, by omega⟩
  subst es
  subst ep
  have eS : convSh (s : Int) (p : Int) a.1.1 k.1.1 = [(((h0 + 2 * p - kh) / s + 1 : Nat) : Int), (((w0 + 2 * p - kw) / s + 1 : Nat) : Int), (n : Int)] := by
    unfold convSh
    rw [e1, e2]
    simp only [List.getD_cons_zero, List.getD_cons_succ]
    rw [show (h0 : Int) + 2 * p - kh = ((h0 + 2 * p - kh : Nat) : Int) by omega, show (w0 : Int) + 2 * p - kw = ((w0 + 2 * p - kw : Nat) : Int) by omega]
    simp
  rw [eS] at h ⊢
  by_cases hv : shapeV [(((h0 + 2 * p - kh) / s + 1 : Nat) : Int), (((w0 + 2 * p - kw) / s + 1 : Nat) : Int), (n : Int)] = .nil
  case neg => rw [ifF (isNil_false hv)] at h; exact absurd h hv
  rw [ifT (nilT hv)]
  obtain ⟨d1, d2, d3, ed, g1, g2, g3, g4, g5⟩ := shape_nat_three hv rfl
  simp only [List.cons.injEq, Int.ofNat_inj, and_true] at ed
  obtain ⟨ed1, ed2, ed3⟩ := ed
  rw [← ed1] at g1
  rw [← ed2] at g2
  rw [← ed1, ← ed2, ← ed3] at g4 g5
  have la := tensV_len va
  have lk := tensV_len vk
  rw [he] at la
  rw [he2] at lk
  refine ⟨z, h0, w0, kc, kh, kw, n, s, p, ⟨hh, hw, hc, hkh, hkw, hnn, by omega, by omega, e1, e2, by omega, by rw [Nat.mul_assoc, Nat.mul_assoc]; omega, hp, by rw [Nat.mul_assoc, Nat.mul_assoc]; exact hq, tensV_narrowD va w1, tensV_narrowD vk w2, narrowB_iff.1 (by simpa using r5)⟩, rfl, w1, w2, by omega, by omega, g1, g2, g4, rfl, g5⟩

/-- a tensor whose pool may be -/
theorem poolRes_ok {a : T} {ar : List Int} (va : tensV a = .nil) (h : (poolRes ar a.1).2 = .nil) : ∃ (h w c n s : Nat), PoolOK a h w c n s ∧ ar = [(n : Int), (s : Int)] ∧ ((h - n) / s + 1) * ((w - n) / s + 1) * c ≤ 16384 ∧
    (poolRes ar a.1).1 = ([(((h - n) / s + 1 : Nat) : Int), (((w - n) / s + 1 : Nat) : Int), (c : Int)], a.1.2) ∧ elems (poolRes ar a.1).1.1 = ((((h - n) / s + 1) * ((w - n) / s + 1) * c : Nat) : Int) := by
  have sa := tensV_shape va
  unfold poolRes at h ⊢
  by_cases hl : ar.length = 2
  case neg => rw [if_pos hl] at h; cases h
  rw [if_neg (fun h => h hl), ifNT (nilT sa)] at h ⊢
  by_cases h3 : a.1.1.length = 3
  case neg => rw [if_pos h3] at h; cases h
  rw [if_neg (fun h => h h3)] at h ⊢
  split at h
  · cases h
  rename_i hB1
  split at h
  · cases h
  rename_i hB2
  rw [if_neg hB1, if_neg hB2]
  simp only [not_or, Int.not_lt] at hB1 hB2
  obtain ⟨r1, r2, r3, r4⟩ := hB1
  obtain ⟨q1, q2⟩ := hB2
  obtain ⟨h0, w0, c0, e1, hh, hw, hc, hp, he⟩ := shape_nat_three sa h3
  rw [e1] at q1 q2
  simp only [List.getD_cons_zero, List.getD_cons_succ] at q1 q2
  match ar, hl with
  | [x, y], _ =>
  simp only [List.getD_cons_zero, List.getD_cons_succ] at r1 r2 r3 r4 q1 q2 ⊢
  obtain ⟨n, en⟩ : ∃ n : Nat, x = (n : Int) := ⟨x.toNat, by omega⟩
  obtain ⟨s, es⟩ : ∃ s : Nat, y = (s : Int) := ⟨y.toNat, by omega⟩
  subst en
  subst es
  have la := tensV_len va
  rw [he] at la
  have eS : poolSh (n : Int) (s : Int) a.1.1 = [(((h0 - n) / s + 1 : Nat) : Int), (((w0 - n) / s + 1 : Nat) : Int), (c0 : Int)] := by rw [e1, poolSh_nat (by omega) (by omega) (by omega) (by omega)]
  have p1 := pool_dim (h := h0) (n := n) (s := s) (by omega) (by omega) (by omega)
  have p2 := pool_dim (h := w0) (n := n) (s := s) (by omega) (by omega) (by omega)
  have p3 := pool_prod (h := h0) (w := w0) (c := c0) (n := n) (s := s) (by omega) (by omega) (by omega) (by omega) hp
  rw [eS]
  exact ⟨h0, w0, c0, n, s, ⟨hh, hw, hc, by omega, by omega, by omega, by omega, e1, by omega, hp, tensV_in va⟩, rfl, p3, rfl, elems_three (by omega) (by omega) hc p3⟩

theorem element_reshape {N : Nat} (args : List Int) (a : T) (d : D) {i : Nat} (hi : i < a.2.length) : F_lodgeref3_element N 18 args i [a] d = some (a.2.getD i 0, ()) := by
  unfold F_lodgeref3_element
  (repeat first | refine bT rfl ?_ | refine bF rfl ?_)
  simp only [List.getD_cons_zero, Int.toNat_natCast]
  first
  | exact cT (Int.natCast_nonneg _) (cT hi rfl)
  | exact cT hi rfl

/-- AN ELEMENT, whatever the operation -/
theorem ref_element_all {N : Nat} (hN : 20000 ≤ N) (op : Int) (args : List Int) (ins : List T) (hv : firstBadT ins = .nil) (hr : (resV op args (ins.map Prod.fst)).2 = .nil) {i : Nat} (hi : (i : Int) < elems (resV op args (ins.map Prod.fst)).1.1) :
    F_lodgeref3_element N op args i ins (resV op args (ins.map Prod.fst)).1 = some (elAll op args ins (resV op args (ins.map Prod.fst)).1 i, ()) := by
  generalize hd : (resV op args (ins.map Prod.fst)).1 = d at *
  have hr0 := hr
  unfold resV at hr hd
  by_cases hk : 4 ≤ op ∧ op ≤ 21
  case neg => rw [if_pos hk] at hr; cases hr
  rw [if_neg (fun h => h hk)] at hr hd
  unfold elAll
  by_cases h11 : op ≤ 11
  · rw [if_pos h11] at hr hd ⊢
    obtain ⟨p1, p2, p3, p4⟩ := elem_lens hr hv
    obtain ⟨_, _, _, _, _, _, _, _, e⟩ := elemRes_ok hr
    rw [e] at hd
    subst hd
    rw [p3, ← tensV_len p2] at hi
    exact element_elem op args ins hr hv _ (by omega)
  rw [if_neg h11] at hr hd ⊢
  by_cases hB : ins.length ≠ insN op ∨ (op ≠ 18 ∧ args.length ≠ argN op)
  · rw [List.length_map, if_pos hB] at hr; cases hr
  rw [List.length_map, if_neg hB] at hr hd
  have hn : ins.length = insN op := Decidable.byContradiction fun h => hB (.inl h)
  have ha : op ≠ 18 → args.length = argN op := fun h => Decidable.byContradiction fun h' => hB (.inr ⟨h, h'⟩)
  by_cases h12 : op = 12
  · subst h12
    rw [if_pos rfl] at hr hd ⊢
    match ins, hn with
    | [a, b], _ =>
    obtain ⟨va, vb⟩ := firstBadT_two hv
    match args, ha (by decide) with
    | [x, y], _ =>
    have hr' : (matRes' a b x y).2 = .nil := by unfold matRes'; rw [ifNT (nilT va), ifNT (nilT vb)]; exact hr
    obtain ⟨m, k, n, hm, hk, hn, hmk, hkn, hmn, ea, eb, la, lb, fa, fb, hza, hzb, va, vb⟩ := matRes'_ok hr'
    have H : MulOK a b x y m k n := ⟨hm, hk, hn, la, lb, getD_in fa, getD_in fb, hza, hzb⟩
    have hg := matRes'_good hm hk hn hmk hkn hmn la lb fa fb hza hzb
    have ea1 : a.1.1 = [(m : Int), (k : Int)] := by rw [ea]
    have eb1 : b.1.1 = [(k : Int), (n : Int)] := by rw [eb]
    have hd' : (matRes x y a.1 b.1).1 = ([(m : Int), (n : Int)], true) := by
      have : matRes' a b x y = (([(m : Int), (n : Int)], true), .nil) := by
        obtain ⟨a1, a2⟩ := a
        obtain ⟨b1, b2⟩ := b
        simp only at ea eb
        subst ea
        subst eb
        exact hg
      unfold matRes' at this
      rw [ifNT (nilT va), ifNT (nilT vb)] at this
      rw [this]
    have hi' : i < m * n := by
      rw [← hd] at hi
      change (i : Int) < elems (matRes x y a.1 b.1).1.1 at hi
      rw [hd', elems_two hm hn hmn] at hi
      omega
    simp only [List.getD_cons_zero, List.getD_cons_succ, ea1, eb1, Int.toNat_natCast]
    exact element_mat hN H ea1 eb1 d hi'
  rw [if_neg h12] at hr hd ⊢
  by_cases h13 : op = 13
  · subst h13
    rw [if_pos rfl] at hr hd ⊢
    match ins, hn with
    | [a, b], _ =>
    obtain ⟨va, vb⟩ := firstBadT_two hv
    obtain ⟨za, h, w, c, kh, kw, n, s, p, H, ear, wa, wb, q1, q2, g1, g2, g3, e1, e2⟩ := convRes_ok va vb hr
    change (convRes args a.1 b.1).1 = d at hd
    rw [e1] at hd
    rw [e1] at e2
    subst hd
    rw [e2] at hi
    subst ear
    simp only [List.getD_cons_zero, List.getD_cons_succ, H.sa, H.sk, Int.toNat_natCast]
    exact element_conv H hN g1 g2 (by omega) _
  rw [if_neg h13] at hr hd ⊢
  by_cases h145 : op = 14 ∨ op = 15
  · rw [if_pos h145] at hr hd ⊢
    have hn1 : ins.length = 1 := by rcases h145 with rfl | rfl <;> exact hn
    match ins, hn1 with
    | [a], _ =>
    have va := firstBadT_one hv
    obtain ⟨h, w, c, n, s, H, ear, g3, e1, e2⟩ := poolRes_ok va hr
    change (poolRes args a.1).1 = d at hd
    rw [e1] at hd
    rw [e1] at e2
    subst hd
    rw [e2] at hi
    subst ear
    simp only [List.getD_cons_zero, List.getD_cons_succ, H.sa, Int.toNat_natCast]
    have hp := fun avg => pool_spec H hN avg (i := i) rfl rfl (by omega) a.1.2
    rcases h145 with rfl | rfl
    · unfold F_lodgeref3_element
      (repeat first | refine bT rfl ?_ | refine bF rfl ?_)
      exact bnd _ (hp _) rfl
    · unfold F_lodgeref3_element
      (repeat first | refine bT rfl ?_ | refine bF rfl ?_)
      exact bnd _ (hp _) rfl
  rw [if_neg h145] at hr hd ⊢
  by_cases hs : op = 16 ∨ op = 17 ∨ op = 19 ∨ op = 20
  · rw [if_pos hs] at hr hd
    unfold softRes at hr hd
    rw [if_neg (fun h => h hs)] at hr hd
    by_cases hl : ((ins.map Prod.fst).length : Int) = softK op
    case neg => rw [if_pos hl] at hr; cases hr
    rw [if_neg (fun h => h hl)] at hr hd
    by_cases hb : firstBad (ins.map Prod.fst) = .nil
    case neg => rw [ifNF (isNil_false hb)] at hr; exact absurd hr hb
    rw [ifNT (nilT hb)] at hr hd
    rcases hs with rfl | rfl | rfl | rfl
    · match ins, hn with
      | [a, b], _ =>
      obtain ⟨va, vb⟩ := firstBadT_two hv
      rw [if_pos rfl] at hr hd
      simp only [List.map_cons, List.map_nil, List.getD_cons_zero, List.getD_cons_succ] at hr hd
      by_cases hc : a.1.2 = true ∨ (a.1.1.length : Int) < 1 ∨ b.1 ≠ ([256], true)
      · rw [if_pos hc] at hr; cases hr
      rw [if_neg hc] at hd
      simp only [not_or, ne_eq, Decidable.not_not, Bool.not_eq_true] at hc
      obtain ⟨pre, n, es, hn, hp1, hq, he, _, _⟩ := shape_nat_last (tensV_shape va) (by omega)
      subst hd
      rw [he] at hi
      have la := tensV_len va
      rw [he] at la
      have lb := tensV_len vb
      rw [hc.2.2] at lb
      have l4 := (shapeV_nil.1 (tensV_shape va)).1
      have lb' : b.2.length = 256 := by
        have : elems [256] = 256 := by decide
        dsimp only at lb
        omega
      have eg : a.1.1.getD (a.1.1.length - 1) 0 = (n : Int) := by rw [es]; exact getD_last _ _ _
      rw [if_pos rfl]
      simp only [List.getD_cons_zero, List.getD_cons_succ, eg, Int.toNat_natCast]
      exact element_softmax hN es (by rw [es] at l4; simp at l4 ⊢; omega) hn (by omega) hq lb' (tensV_narrowD va hc.1) (tensV_in vb) (by omega) _ _
    · match ins, hn with
      | [a, b], _ =>
      obtain ⟨va, vb⟩ := firstBadT_two hv
      rw [if_neg (by decide), if_pos rfl] at hr hd
      simp only [List.map_cons, List.map_nil, List.getD_cons_zero, List.getD_cons_succ] at hr hd
      by_cases hc : a.1.1.length ≠ 2 ∨ b.1.1.length ≠ 1 ∨ b.1.2 = false
      · rw [if_pos hc] at hr; cases hr
      rw [if_neg hc] at hr hd
      simp only [not_or, ne_eq, Decidable.not_not, Bool.not_eq_false] at hc
      obtain ⟨m, w, e1, hm, hw, hmw, he⟩ := shape_nat_two (tensV_shape va) hc.1
      obtain ⟨ns, e2, _, hn2, _, hq2, he2⟩ := shape_nat (tensV_shape vb)
      have l2 := hc.2.1
      rw [e2] at l2
      match ns, l2, e2, hn2, hq2, he2 with
      | [k], _, e2, hn2, hq2, he2 =>
      simp only [prodN, Nat.mul_one, List.map_cons, List.map_nil] at hq2 he2 e2
      have hk := hn2 k (by simp)
      have la := tensV_len va
      rw [he] at la
      have lb := tensV_len vb
      rw [he2] at lb
      rw [e1, e2] at hr hd
      simp only [List.getD_cons_zero, List.getD_cons_succ] at hr hd
      unfold seenD at hr hd
      by_cases hsv : shapeV [(k : Int), (w : Int)] = .nil
      case neg => rw [ifF (isNil_false hsv)] at hr; exact absurd hr hsv
      rw [ifT (nilT hsv)] at hd
      obtain ⟨k', w', e3, _, _, hkw, he3⟩ := shape_nat_two hsv rfl
      simp only [List.cons.injEq, Int.ofNat_inj, and_true] at e3
      subst hd
      rw [he3, ← e3.1, ← e3.2] at hi
      rw [if_neg (by decide), if_pos rfl]
      simp only [List.getD_cons_zero, List.getD_cons_succ, e1, Int.toNat_natCast]
      exact element_gather e1 hm hw (by omega) (show b.2.length = k by omega) hk.2 (by omega) _ _
    all_goals
      match ins, hn with
      | [a], _ =>
      have va := firstBadT_one hv
      rw [if_neg (by decide), if_neg (by decide)] at hr hd
      simp only [List.map_cons, List.map_nil, List.getD_cons_zero] at hr hd
      by_cases hc : (a.1.1.length : Int) < 1
      · rw [if_pos hc] at hr; cases hr
      rw [if_neg hc] at hd
      obtain ⟨pre, n, es, hn, hp1, hq, he, _, hep⟩ := shape_nat_last (tensV_shape va) (by omega)
      have la := tensV_len va
      rw [he] at la
      have l4 := (shapeV_nil.1 (tensV_shape va)).1
      have eg : a.1.1.getD (a.1.1.length - 1) 0 = (n : Int) := by rw [es]; exact getD_last _ _ _
      subst hd
      have et : a.1.1.take (a.1.1.length - 1) = pre.map Nat.cast := by rw [es]; exact take_last _ _
      simp only at hi
      rw [et, hep] at hi
      have h2 := element_row (a := a) (n := n) (P := prodN pre) hN es (by rw [es] at l4; simp at l4 ⊢; omega) hn (by omega) hq (tensV_in va) (i := i) (by omega) (a.1.1.take (a.1.1.length - 1), true) args
      rw [if_neg (by decide), if_neg (by decide)]
      simp only [List.getD_cons_zero, eg, Int.toNat_natCast]
      first
      | (rw [if_pos True.intro]; exact h2.1)
      | (rw [if_pos True.intro]; exact h2.2)
      | (rw [if_pos rfl]; exact h2.1)
      | (rw [if_pos rfl]; exact h2.2)
      | (rw [if_neg (by decide), if_pos rfl]; exact h2.2)
      | (rw [if_neg (by decide), if_pos True.intro]; exact h2.2)
  rw [if_neg hs] at hr hd
  have h16 : op ≠ 16 := fun h => hs (.inl h)
  have h17 : op ≠ 17 := fun h => hs (.inr (.inl h))
  have h19 : op ≠ 19 := fun h => hs (.inr (.inr (.inl h)))
  have h20 : op ≠ 20 := fun h => hs (.inr (.inr (.inr h)))
  rw [if_neg h16, if_neg h17, if_neg h19, if_neg h20]
  by_cases h21 : op = 21
  · subst h21
    rw [if_pos rfl] at hr hd ⊢
    match ins, hn with
    | [a], _ =>
    have va := firstBadT_one hv
    match args, ha (by decide) with
    | [], _ =>
    unfold turnRes at hr hd
    simp only [List.map_cons, List.map_nil, List.getD_cons_zero] at hr hd
    rw [ifNT (nilT (tensV_shape va))] at hr hd
    by_cases h2 : a.1.1.length = 2
    case neg => rw [if_pos h2] at hr; cases hr
    rw [if_neg (fun h => h h2)] at hd
    obtain ⟨m, n, e, hm, hn, hmn, he⟩ := shape_nat_two (tensV_shape va) h2
    have la := tensV_len va
    rw [he] at la
    subst hd
    rw [e] at hi
    simp only [List.getD_cons_zero, List.getD_cons_succ] at hi
    rw [elems_two hn hm (by rw [Nat.mul_comm]; exact hmn)] at hi
    simp only [List.getD_cons_zero, List.getD_cons_succ, e, Int.toNat_natCast]
    exact element_turn e (by omega) hmn _ (by rw [Nat.mul_comm]; omega)
  rw [if_neg h21] at hr hd ⊢
  have h18 : op = 18 := by omega
  subst h18
  match ins, hn with
  | [a], _ =>
  have va := firstBadT_one hv
  unfold reshRes at hr hd
  simp only [List.map_cons, List.map_nil, List.getD_cons_zero] at hr hd
  rw [ifNT (nilT (tensV_shape va))] at hr hd
  by_cases hsv : shapeV args = .nil
  case neg => rw [ifNF (isNil_false hsv)] at hr; exact absurd hr hsv
  rw [ifNT (nilT hsv)] at hr hd
  by_cases he : elems args = elems a.1.1
  case neg => rw [if_pos he] at hr; cases hr
  rw [if_neg (fun h => h he)] at hd
  subst hd
  have la := tensV_len va
  simp only at hi
  rw [he, ← la] at hi
  exact element_reshape args a _ (by omega)

/-! tensors -/

def appV (op : Int) (args : List Int) (ins : List T) : T × Er :=
  if firstBadT ins ≠ .nil then ((noD, []), firstBadT ins)
  else if (resV op args (ins.map Prod.fst)).2 ≠ .nil then ((noD, []), (resV op args (ins.map Prod.fst)).2)
  else (((resV op args (ins.map Prod.fst)).1, (List.range (elems (resV op args (ins.map Prod.fst)).1.1).toNat).map (elAll op args ins (resV op args (ins.map Prod.fst)).1)), .nil)

def elmV (op : Int) (args : List Int) (i : Int) (ins : List T) : Int :=
  if firstBadT ins ≠ .nil then 0
  else if (resV op args (ins.map Prod.fst)).2 ≠ .nil then 0
  else if 0 ≤ i ∧ i < elems (resV op args (ins.map Prod.fst)).1.1 then elAll op args ins (resV op args (ins.map Prod.fst)).1 i.toNat else 0

theorem appV_OK (op : Int) (args : List Int) (ins : List T) : erOK (appV op args ins).2 := by
  unfold appV
  repeat' split
  all_goals first | exact True.intro | exact firstBadT_OK _ | exact resV_OK _ _ _

theorem firstBad_getD1 : ∀ {l : List D}, firstBad l = .nil → ∀ k, (l.getD k noD).1.length ≤ 4
  | [], _, k => by simp [noD]
  | d :: r, h, k => by
    unfold firstBad at h
    rcases shapeV_cases d.1 with hd | ⟨hd, hd'⟩
    · rw [ifT (nilT hd)] at h
      cases k with
      | zero => exact (shapeV_nil.1 hd).1
      | succ k => exact firstBad_getD1 h k
    · rw [ifF hd] at h
      rw [h] at hd
      cases hd

theorem seenD_len (d : D) : (seenD d).1.1.length ≤ 4 := by
  unfold seenD
  rcases shapeV_cases d.1 with h | ⟨h, _⟩
  · rw [ifT (nilT h)]; exact (shapeV_nil.1 h).1
  · rw [ifF h]; simp [noD]

theorem softRes_len (op : Int) (ins : List D) : (softRes op ins).1.1.length ≤ 4 := by
  unfold softRes
  split
  · simp [noD]
  split
  · simp [noD]
  by_cases h3 : firstBad ins = .nil
  case neg => rw [ifNF (isNil_false h3)]; simp [noD]
  rw [ifNT (nilT h3)]
  have := firstBad_getD1 h3 0
  split
  · split
    · simp [noD]
    · exact this
  split
  · split
    · simp [noD]
    · exact seenD_len _
  split
  · simp [noD]
  · simp only [List.length_take]; omega

theorem resV_len (op : Int) (args : List Int) (ins : List D) : (resV op args ins).1.1.length ≤ 4 := by
  unfold resV
  split
  · simp [noD]
  split
  · exact elemRes_len _ _ _
  split
  · simp [noD]
  split
  · unfold matRes; repeat' split
    all_goals simp [noD]
  split
  · unfold convRes; repeat' split
    all_goals simp [noD, convSh]
  split
  · unfold poolRes; repeat' split
    all_goals simp [noD, poolSh]
  split
  · exact softRes_len _ _
  split
  · unfold turnRes; repeat' split
    all_goals simp [noD]
  · unfold reshRes
    split
    · simp [noD]
    by_cases h : shapeV args = .nil
    · rw [ifNT (nilT h)]
      split
      · simp [noD]
      · exact (shapeV_nil.1 h).1
    · rw [ifNF (isNil_false h)]; simp [noD]

theorem appV_len (op : Int) (args : List Int) (ins : List T) : (appV op args ins).1.1.1.length ≤ 4 ∧ (appV op args ins).1.2.length ≤ 16384 := by
  unfold appV
  split
  · simp [noD]
  split
  · simp [noD]
  · have h1 := resV_len op args (ins.map Prod.fst)
    have h2 := elems_bound (resV op args (ins.map Prod.fst)).1.1
    refine ⟨h1, ?_⟩
    simp
    omega

/-- THE ANSWER OF ANY TENSORS, by the document -/
theorem ref_Apply_all {N : Nat} (hN : 20000 ≤ N) (op : Int) (args : List Int) (hargs : args.length ≤ 10000) (ins : List T) (hi : ins.length ≤ 1000) :
    F_lodgeref3_Apply N op args ins = some (boxT (appV op args ins).1.1.1 (appV op args ins).1.1.2 (appV op args ins).1.2, (faultE (appV op args ins).2, ())) := by
  unfold appV
  by_cases hv : firstBadT ins = .nil
  case neg => rw [if_pos hv]; exact ref_Apply_in hN op args ins hi hv
  rw [if_neg (fun h => h hv)]
  have hR := ref_Result_all hN op args hargs (ins.map Prod.fst) (by simpa using hi)
  by_cases hr : (resV op args (ins.map Prod.fst)).2 = .nil
  case neg =>
    rw [if_pos hr]
    have := ref_Apply_bad hN op args ins hi hv (fun e => hr ((codeE_zero _).1 e)) hR
    rw [this, faultE_bare (resV_bare _ _ _)]
    rfl
  rw [if_neg (fun h => h hr)]
  have hb := elems_bound (resV op args (ins.map Prod.fst)).1.1
  have hlen := resV_len op args (ins.map Prod.fst)
  rw [hr] at hR
  exact ref_Apply_ok hN op args ins hi hv (d := (resV op args (ins.map Prod.fst)).1) (by omega) (sz := (elems (resV op args (ins.map Prod.fst)).1.1).toNat) (by omega) hR _ (fun i hi => ref_element_all hN op args ins hv hr (by omega))

end Go.Proofs.YtmbcbocnncfpbaaDoor.Lg
