/-
  What the program's functions come to, in plain words.
-/
import Derived.Test.YtbpifndhkdbmhaaDoorLgConvBQ
namespace Go.Proofs.YtbpifndhkdbmhaaDoor.Lg
open Go Go.Eng Go.Proofs

/-! convolutions, by the document -/

theorem convRes_bare (ar : List Int) (a k : D) : bareE (convRes ar a k).2 := by
  unfold convRes
  repeat' split
  all_goals first | exact True.intro | (dsimp only; exact shapeV_bare _)

theorem convRes_OK (ar : List Int) (a k : D) : erOK (convRes ar a k).2 := by
  unfold convRes
  repeat' split
  all_goals first | exact True.intro | exact (show ErrShape < 21 by decide) | exact (show ErrRange < 21 by decide) | (dsimp only; exact shapeV_OK _)

theorem lodgeref3_ConvResult_spec {N : Nat} (hN : 20000 ≤ N) (ar : List Int) (a k : D) : F_lodgeref3_ConvResult N ar a k = some (boxD (convRes ar a k).1, (codeE (convRes ar a k).2, ())) := by
  unfold F_lodgeref3_ConvResult convRes
  by_cases hl : ar.length = 3
  case neg =>
    rw [if_pos hl]
    exact cT (by omega) rfl
  rw [if_neg (fun h => h hl)]
  refine cF (by omega) ?_
  refine bnd _ (lodgeref3_descs_spec hN _ (by simp)) ?_
  unfold firstBad firstBad firstBad
  rcases shapeV_cases a.1 with ha | ⟨ha, ha'⟩
  case inr => rw [ifF ha, ifNF ha]; exact cT ha' rfl
  rcases shapeV_cases k.1 with hk | ⟨hk, hk'⟩
  case inr => rw [ifT (nilT ha), ifF hk, ifNT (nilT ha), ifNF hk]; exact cT hk' rfl
  rw [ifT (nilT ha), ifT (nilT hk), ifNT (nilT ha), ifNT (nilT hk)]
  refine cF (by simp [codeE]) ?_
  refine bnd (ar, ((a, ()), ((k, ()), (([], (false, ())), (decide (a.1.length ≠ 3 ∨ k.1.length ≠ 4 ∨ a.1.getD 2 0 ≠ k.1.getD 2 0 ∨ a.2 = true ∨ k.2 = true), ()))))) ?_ ?_
  · by_cases h1 : a.1.length = 3
    case neg => exact cT (by omega) (by rw [decide_eq_true (p := _ ∨ _) (.inl h1)])
    refine cF (by omega) ?_
    by_cases h2 : k.1.length = 4
    case neg => exact cT (by omega) (by rw [decide_eq_true (p := _ ∨ _) (.inr (.inl h2))])
    refine cF (by omega) ?_
    by_cases h4 : a.2 = true
    · exact bT h4 (by rw [decide_eq_true (p := _ ∨ _) (.inr (.inr (.inr (.inl h4))))])
    refine bF (by simpa using h4) ?_
    by_cases h5 : k.2 = true
    · exact bT h5 (by rw [decide_eq_true (p := _ ∨ _) (.inr (.inr (.inr (.inr h5))))])
    refine bF (by simpa using h5) (cT (by omega) (cT (by omega) ?_))
    by_cases h3 : a.1.getD 2 0 = k.1.getD 2 0
    · rw [decide_eq_false (fun h => h h3), decide_eq_false]
      rintro (h | h | h | h | h)
      exact h h1
      exact h h2
      exact h h3
      exact h4 h
      exact h5 h
    · rw [decide_eq_true h3, decide_eq_true (p := _ ∨ _) (.inr (.inr (.inl h3)))]
  by_cases hB : a.1.length ≠ 3 ∨ k.1.length ≠ 4 ∨ a.1.getD 2 0 ≠ k.1.getD 2 0 ∨ a.2 = true ∨ k.2 = true
  case pos => rw [if_pos hB]; exact cT hB rfl
  rw [if_neg hB]
  refine cF hB ?_
  simp only [not_or, ne_eq, Decidable.not_not] at hB
  obtain ⟨h1, h2, h3, h4, h5⟩ := hB
  refine cT (by dsimp only; omega) (cT (by dsimp only; omega) ?_)
  dsimp only
  refine bnd ((a, ()), ((k, ()), (([], (false, ())), (ar.getD 0 0, (ar.getD 1 0, (decide (ar.getD 0 0 < 1 ∨ 16 < ar.getD 0 0 ∨ ar.getD 1 0 < 0 ∨ 15 < ar.getD 1 0 ∨ narrowB (ar.getD 2 0) = false), ())))))) ?_ ?_
  · by_cases r1 : ar.getD 0 0 < 1
    · refine cT r1 ?_
      (repeat first | refine cT rfl ?_ | refine cT True.intro ?_)
      rw [decide_eq_true (p := _ ∨ _) (.inl r1)]
    refine cF r1 ?_
    by_cases r2 : 16 < ar.getD 0 0
    · refine cT r2 ?_
      (repeat first | refine cT rfl ?_ | refine cT True.intro ?_)
      rw [decide_eq_true (p := _ ∨ _) (.inr (.inl r2))]
    refine cF r2 ?_
    by_cases r3 : ar.getD 1 0 < 0
    · refine cT r3 ?_
      (repeat first | refine cT rfl ?_ | refine cT True.intro ?_)
      rw [decide_eq_true (p := _ ∨ _) (.inr (.inr (.inl r3)))]
    refine cF r3 ?_
    by_cases r4 : 15 < ar.getD 1 0
    · refine cT r4 ?_
      (repeat first | refine cT rfl ?_ | refine cT True.intro ?_)
      rw [decide_eq_true (p := _ ∨ _) (.inr (.inr (.inr (.inl r4))))]
    refine cF r4 (cT (by omega) ?_)
    refine bnd _ (lodgeref3_narrow_spec N _) ?_
    (repeat first | refine cT rfl ?_ | refine cT True.intro ?_)
    cases r5 : narrowB (ar.getD 2 0) with
    | false => rw [decide_eq_true (p := _ ∨ _) (.inr (.inr (.inr (.inr rfl))))]; rfl
    | true => rw [decide_eq_false (p := _ ∨ _) (by rintro (h | h | h | h | h); exact r1 h; exact r2 h; exact r3 h; exact r4 h; cases h)]; rfl
  by_cases hB : ar.getD 0 0 < 1 ∨ 16 < ar.getD 0 0 ∨ ar.getD 1 0 < 0 ∨ 15 < ar.getD 1 0 ∨ narrowB (ar.getD 2 0) = false
  case pos => rw [if_pos hB]; exact cT hB rfl
  rw [if_neg hB]
  refine cF hB ?_
  simp only [not_or, Int.not_lt] at hB
  obtain ⟨r1, r2, r3, r4, r5⟩ := hB
  have a0 := shapeV_dims ha 0 (by omega)
  have a1 := shapeV_dims ha 1 (by omega)
  have k0 := shapeV_dims hk 0 (by omega)
  have k1 := shapeV_dims hk 1 (by omega)
  have w2 : wi64 (2 * ar.getD 1 0) = 2 * ar.getD 1 0 := wi64_in (by omega) (by omega)
  have e0 : wi64 (a.1.getD 0 0 + 2 * ar.getD 1 0) = a.1.getD 0 0 + 2 * ar.getD 1 0 := wi64_in (by omega) (by omega)
  have e1 : wi64 (a.1.getD 1 0 + 2 * ar.getD 1 0) = a.1.getD 1 0 + 2 * ar.getD 1 0 := wi64_in (by omega) (by omega)
  have e0' : wi64 (a.1.getD 0 0 + 2 * ar.getD 1 0 - k.1.getD 0 0) = a.1.getD 0 0 + 2 * ar.getD 1 0 - k.1.getD 0 0 := wi64_in (by omega) (by omega)
  have e1' : wi64 (a.1.getD 1 0 + 2 * ar.getD 1 0 - k.1.getD 1 0) = a.1.getD 1 0 + 2 * ar.getD 1 0 - k.1.getD 1 0 := wi64_in (by omega) (by omega)
  simp only [w2, e0, e1, e0', e1']
  refine bnd ((a, ()), ((k, ()), (([], (false, ())), (ar.getD 0 0, (ar.getD 1 0, (decide (a.1.getD 0 0 + 2 * ar.getD 1 0 - k.1.getD 0 0 < 0 ∨ a.1.getD 1 0 + 2 * ar.getD 1 0 - k.1.getD 1 0 < 0), ())))))) ?_ ?_
  · refine cT (by omega) (cT (by omega) ?_)
    by_cases q1 : a.1.getD 0 0 + 2 * ar.getD 1 0 - k.1.getD 0 0 < 0
    · refine cT (by omega) ?_
      (repeat first | refine cT rfl ?_ | refine cT True.intro ?_)
      rw [decide_eq_true (p := _ ∨ _) (.inl q1)]
    refine cF (by omega) (cT (by omega) (cT (by omega) ?_))
    (repeat first | refine cT rfl ?_ | refine cT True.intro ?_)
    by_cases q2 : a.1.getD 1 0 + 2 * ar.getD 1 0 - k.1.getD 1 0 < 0
    · rw [decide_eq_true (p := _ ∨ _) (.inr q2), decide_eq_true (show a.1.getD 1 0 + 2 * ar.getD 1 0 < k.1.getD 1 0 by omega)]
    · rw [decide_eq_false (p := _ ∨ _) (by rintro (h | h) <;> contradiction), decide_eq_false (show ¬ a.1.getD 1 0 + 2 * ar.getD 1 0 < k.1.getD 1 0 by omega)]
  by_cases hB : a.1.getD 0 0 + 2 * ar.getD 1 0 - k.1.getD 0 0 < 0 ∨ a.1.getD 1 0 + 2 * ar.getD 1 0 - k.1.getD 1 0 < 0
  case pos => rw [if_pos hB]; exact cT hB rfl
  rw [if_neg hB]
  refine cF hB ?_
  simp only [not_or, Int.not_lt] at hB
  obtain ⟨q1, q2⟩ := hB
  have b1 : 0 ≤ (a.1.getD 0 0 + 2 * ar.getD 1 0 - k.1.getD 0 0) / ar.getD 0 0 := Int.ediv_nonneg (by omega) (by omega)
  have b2 : (a.1.getD 0 0 + 2 * ar.getD 1 0 - k.1.getD 0 0) / ar.getD 0 0 ≤ a.1.getD 0 0 + 2 * ar.getD 1 0 - k.1.getD 0 0 := Int.ediv_le_self _ (by omega)
  have b3 : 0 ≤ (a.1.getD 1 0 + 2 * ar.getD 1 0 - k.1.getD 1 0) / ar.getD 0 0 := Int.ediv_nonneg (by omega) (by omega)
  have b4 : (a.1.getD 1 0 + 2 * ar.getD 1 0 - k.1.getD 1 0) / ar.getD 0 0 ≤ a.1.getD 1 0 + 2 * ar.getD 1 0 - k.1.getD 1 0 := Int.ediv_le_self _ (by omega)
  refine cT (by dsimp only; omega) (cT (by dsimp only; omega) (cT (by dsimp only; omega) (cT (by dsimp only; omega) (cT (by dsimp only; omega) (cT (by dsimp only; omega) (cT (by dsimp only; omega) ?_))))))
  dsimp only
  simp only [w2, e0, e1, e0', e1']
  rw [tdiv_pos (by omega) (by omega) (by omega), tdiv_pos (by omega) (by omega) (by omega), wi64_in (n := (a.1.getD 0 0 + 2 * ar.getD 1 0 - k.1.getD 0 0) / ar.getD 0 0 + 1) (by omega) (by omega), wi64_in (n := (a.1.getD 1 0 + 2 * ar.getD 1 0 - k.1.getD 1 0) / ar.getD 0 0 + 1) (by omega) (by omega)]
  refine bnd _ (lodgeref3_seen_spec hN _) ?_
  (repeat first | refine cT rfl ?_ | refine cT True.intro ?_)
  unfold seenD convSh
  dsimp only

theorem ref_Result_conv {N : Nat} (hN : 20000 ≤ N) (x y z : Int) (a k : D) : F_lodgeref3_Result N 13 [x, y, z] [a, k] = some (boxD (convRes [x, y, z] a k).1, (codeE (convRes [x, y, z] a k).2, ())) := by
  unfold F_lodgeref3_Result
  refine bnd _ rfl ?_
  (repeat first | refine bT rfl ?_ | refine bF rfl ?_)
  refine bnd _ rfl ?_
  (repeat first | refine bT rfl ?_ | refine bF rfl ?_)
  exact bnd _ (lodgeref3_ConvResult_spec hN _ _ _) (cT rfl rfl)

section

variable {a k : T} {za : Int} {h w c kh kw n s p : Nat}

theorem loop_rc_2 (H : ConvOK a k za h w c kh kw n s p) (N : Nat) (y x : Int) {o dy dx r q : Nat} (ho : o < n) (hdy : dy < kh) (hdx : dx < kw) (hr : r < h) (hq : q < w) (S : Int) (hS : -1099511627776 ≤ S ∧ S ≤ 1099511627776) : ∀ (cnt ch : Nat), ch ≤ c → c < cnt + ch →
    g_lodgeref3_conv_2 N cnt [(s : Int), (p : Int), za] (a, ()) (k, ()) n o x y (S + sumN (cvP a.2 k.2 za w c kw n r q dy dx o) ch) dy dx r q ch
      = some ([(s : Int), (p : Int), za], ((a, ()), ((k, ()), ((n : Int), ((o : Int), (x, (y, (S + sumN (cvP a.2 k.2 za w c kw n r q dy dx o) c, ((dy : Int), ((dx : Int), ()))))))))))
  | 0, ch, h1, h2 => by omega
  | cnt + 1, ch, h1, h2 => by
    have hc := H.hc
    rw [g_lodgeref3_conv_2]
    simp only [H.sa, H.sk, List.getD_cons_zero, List.getD_cons_succ]
    refine cT (by simp) ?_
    by_cases hch : ch < c
    · have iA : (r * w + q) * c + ch < h * w * c := three_idx hr hq hch
      have iK : ((dy * kw + dx) * c + ch) * n + o < kh * kw * c * n := three_idx (by
        have : (dy + 1) * kw ≤ kh * kw := Nat.mul_le_mul_right kw hdy
        rw [Nat.add_mul] at this
        omega) hch ho
      have bA := H.bA
      have bK := H.bK
      have m1 : r * w + q ≤ (r * w + q) * c := Nat.le_mul_of_pos_right _ (by omega)
      have m2 : dy * kw + dx ≤ (dy * kw + dx) * c := Nat.le_mul_of_pos_right _ (by omega)
      have m3 : (dy * kw + dx) * c + ch ≤ ((dy * kw + dx) * c + ch) * n := Nat.le_mul_of_pos_right _ (by omega)
      have e1 : wi64 (wi64 (wi64 (wi64 ((r : Int) * w) + q) * c) + ch) = (((r * w + q) * c + ch : Nat) : Int) := by
        rw [wi64_row (by omega), wi64_row (by omega)]
      have e2 : wi64 (wi64 (wi64 (wi64 (wi64 (wi64 ((dy : Int) * kw) + dx) * c) + ch) * n) + o) = ((((dy * kw + dx) * c + ch) * n + o : Nat) : Int) := by
        rw [wi64_row (by omega), wi64_row (by omega), wi64_row (by omega)]
      have h3 := H.fA ((r * w + q) * c + ch)
      have h4 := H.fK (((dy * kw + dx) * c + ch) * n + o)
      have h5 := H.hza
      have h7 := H.part r q dy dx o ch
      have h8 := sumN_bound (cvP a.2 k.2 za w c kw n r q dy dx o) 32640 (fun ch => H.part r q dy dx o ch) ch
      have e3 : wi64 (S + sumN (cvP a.2 k.2 za w c kw n r q dy dx o) ch + wi64 (wi64 (a.2.getD ((r * w + q) * c + ch) 0 - za) * k.2.getD (((dy * kw + dx) * c + ch) * n + o) 0)) = S + sumN (cvP a.2 k.2 za w c kw n r q dy dx o) (ch + 1) := by
        have : wi64 (wi64 (a.2.getD ((r * w + q) * c + ch) 0 - za) * k.2.getD (((dy * kw + dx) * c + ch) * n + o) 0) = cvP a.2 k.2 za w c kw n r q dy dx o ch := by
          unfold cvP at h7 ⊢
          rw [wi64_in (n := a.2.getD ((r * w + q) * c + ch) 0 - za) (by omega) (by omega), wi64_in (by omega) (by omega)]
        rw [this, wi64_in (by omega) (by omega), sumN]
        omega
      simp only [e1, e2, Int.toNat_natCast, e3]
      refine cT (by omega) (cT (by simp) (cT (by simp) (cT (Int.natCast_nonneg _) (cT (by rw [H.hA]; exact iA) (cT (by simp) (cT (by simp) (cT (by simp) (cT (Int.natCast_nonneg _) (cT (by rw [H.hK]; exact iK) ?_)))))))))
      rw [wi64_succ (by omega)]
      exact loop_rc_2 H N y x ho hdy hdx hr hq S hS cnt (ch + 1) hch (by omega)
    · have : ch = c := by omega
      subst this
      exact cF (by omega) rfl

theorem loop_rc_1 (H : ConvOK a k za h w c kh kw n s p) {N : Nat} (hN : 20000 ≤ N) {y x o dy : Nat} (ho : o < n) (hy : y * s ≤ 1000000) (hx : x * s ≤ 1000000) (hdy : dy < kh) (S : Int) (hS : -549755813888 ≤ S ∧ S ≤ 549755813888) : ∀ (cnt dx : Nat), dx ≤ kw → kw < cnt + dx →
    g_lodgeref3_conv_1 N cnt [(s : Int), (p : Int), za] (a, ()) (k, ()) n o x y (S + sumN (cvT a.2 k.2 za h w c kw n s p y x o dy) dx) dy dx
      = some ([(s : Int), (p : Int), za], ((a, ()), ((k, ()), ((n : Int), ((o : Int), ((x : Int), ((y : Int), (S + sumN (cvT a.2 k.2 za h w c kw n s p y x o dy) kw, ((dy : Int), ())))))))))
  | 0, dx, h1, h2 => by omega
  | cnt + 1, dx, h1, h2 => by
    have hc := H.hc
    have hp := H.hp
    have hkw := H.hkw
    have hkh := H.hkh
    rw [g_lodgeref3_conv_1]
    have er : wi64 (wi64 (wi64 ((y : Int) * s) - p) + dy) = ((y * s : Nat) : Int) - p + dy := by
      rw [wi64_mul (by omega)]
      generalize y * s = Y at *
      rw [wi64_in (n := (Y : Int) - p) (by omega) (by omega), wi64_in (by omega) (by omega)]
    simp only [H.sa, H.sk, List.getD_cons_zero, List.getD_cons_succ, er]
    refine cT (by simp) ?_
    by_cases hdx : dx < kw
    · have ec : wi64 (wi64 (wi64 ((x : Int) * s) - p) + dx) = ((x * s : Nat) : Int) - p + dx := by
        rw [wi64_mul (by omega)]
        generalize x * s = X at *
        rw [wi64_in (n := (X : Int) - p) (by omega) (by omega), wi64_in (by omega) (by omega)]
      simp only [ec]
      refine cT (by omega) (cT (by simp) (cT (by simp) (cT (by simp) (cT (by simp) ?_))))
      have skip : ¬ (p ≤ y * s + dy ∧ y * s + dy - p < h ∧ p ≤ x * s + dx ∧ x * s + dx - p < w) → g_lodgeref3_conv_1 N cnt [(s : Int), (p : Int), za] (a, ()) (k, ()) n o x y (S + sumN (cvT a.2 k.2 za h w c kw n s p y x o dy) dx) dy (wi64 ((dx : Int) + 1)) = some ([(s : Int), (p : Int), za], ((a, ()), ((k, ()), ((n : Int), ((o : Int), ((x : Int), ((y : Int), (S + sumN (cvT a.2 k.2 za h w c kw n s p y x o dy) kw, ((dy : Int), ()))))))))) := by
        intro hno
        have hz : cvT a.2 k.2 za h w c kw n s p y x o dy dx = 0 := by unfold cvT; rw [if_neg hno]
        rw [wi64_succ (by omega)]
        have := loop_rc_1 H hN ho hy hx hdy S hS cnt (dx + 1) hdx (by omega)
        rw [sumN, hz, Int.add_zero] at this
        exact this
      by_cases c1 : ((y * s : Nat) : Int) - p + dy < 0
      · exact cT c1 (skip (by omega))
      refine cF c1 ?_
      by_cases c2 : ((x * s : Nat) : Int) - p + dx < 0
      · exact cT c2 (skip (by omega))
      refine cF c2 (cT (by simp) ?_)
      by_cases c3 : (h : Int) ≤ ((y * s : Nat) : Int) - p + dy
      · exact cT c3 (skip (by omega))
      refine cF c3 (cT (by simp) ?_)
      by_cases c4 : (w : Int) ≤ ((x * s : Nat) : Int) - p + dx
      · exact cT c4 (skip (by omega))
      refine cF c4 ?_
      have hin : p ≤ y * s + dy ∧ y * s + dy - p < h ∧ p ≤ x * s + dx ∧ x * s + dx - p < w := by omega
      have hS2 := sumN_bound (cvT a.2 k.2 za h w c kw n s p y x o dy) 8355840 (fun dx => H.place y x o dy dx) dx
      have h0 := loop_rc_2 H N (y : Int) (x : Int) ho hdy hdx hin.2.1 hin.2.2.2 (S + sumN (cvT a.2 k.2 za h w c kw n s p y x o dy) dx) (by omega) N 0 (by omega) (by omega)
      rw [show ((0 : Nat) : Int) = 0 from rfl, sumN, Int.add_zero, show ((y * s + dy - p : Nat) : Int) = ((y * s : Nat) : Int) - p + dy by omega, show ((x * s + dx - p : Nat) : Int) = ((x * s : Nat) : Int) - p + dx by omega] at h0
      refine bnd _ h0 ?_
      dsimp only
      have hz : cvT a.2 k.2 za h w c kw n s p y x o dy dx = sumN (cvP a.2 k.2 za w c kw n (y * s + dy - p) (x * s + dx - p) dy dx o) c := by unfold cvT; rw [if_pos hin]
      rw [wi64_succ (by omega), ← hz]
      have := loop_rc_1 H hN ho hy hx hdy S hS cnt (dx + 1) hdx (by omega)
      rw [sumN, ← Int.add_assoc] at this
      exact this
    · have : dx = kw := by omega
      subst this
      exact cF (by omega) rfl

theorem loop_rc_0 (H : ConvOK a k za h w c kh kw n s p) {N : Nat} (hN : 20000 ≤ N) {y x o : Nat} (ho : o < n) (hy : y * s ≤ 1000000) (hx : x * s ≤ 1000000) : ∀ (cnt dy : Nat), dy ≤ kh → kh < cnt + dy →
    g_lodgeref3_conv_0 N cnt [(s : Int), (p : Int), za] (a, ()) (k, ()) n o x y (sumN (fun dy => sumN (cvT a.2 k.2 za h w c kw n s p y x o dy) kw) dy) dy = some (cvS a.2 k.2 za h w c kh kw n s p y x o, ())
  | 0, dy, h1, h2 => by omega
  | cnt + 1, dy, h1, h2 => by
    have hkh := H.hkh
    have hkw := H.hkw
    rw [g_lodgeref3_conv_0]
    simp only [H.sk, List.getD_cons_zero]
    refine cT (by simp) ?_
    by_cases hdy : dy < kh
    · refine cT (by omega) ?_
      have hS := sumN_bound (fun dy => sumN (cvT a.2 k.2 za h w c kw n s p y x o dy) kw) 2139095040 (fun dy => H.row y x o dy) dy
      have h0 := loop_rc_1 H hN ho hy hx hdy (sumN (fun dy => sumN (cvT a.2 k.2 za h w c kw n s p y x o dy) kw) dy) (by omega) N 0 (by omega) (by omega)
      rw [show ((0 : Nat) : Int) = 0 from rfl, sumN, Int.add_zero] at h0
      refine bnd _ h0 ?_
      dsimp only
      rw [wi64_succ (by omega)]
      exact loop_rc_0 H hN ho hy hx cnt (dy + 1) hdy (by omega)
    · have : dy = kh := by omega
      subst this
      exact cF (by omega) rfl

theorem element_conv (H : ConvOK a k za h w c kh kw n s p) {N : Nat} (hN : 20000 ≤ N) {oh ow : Nat} (hoh : 1 ≤ oh ∧ oh ≤ 256) (how : 1 ≤ ow ∧ ow ≤ 256) {i : Nat} (hi : i < oh * ow * n) (wd : Bool) :
    F_lodgeref3_element N 13 [(s : Int), (p : Int), za] i [a, k] ([(oh : Int), (ow : Int), (n : Int)], wd) = some (cvC a.2 k.2 za h w c kh kw n s p ow i, ()) := by
  have hn := H.hn
  have hs := H.hs
  have h1 : i / n < oh * ow := Nat.div_lt_of_lt_mul (by rw [Nat.mul_comm]; exact hi)
  have h2 : i / n / ow < oh := Nat.div_lt_of_lt_mul (by rw [Nat.mul_comm]; exact h1)
  have h3 : i / n % ow < ow := Nat.mod_lt _ (by omega)
  have h4 : i % n < n := Nat.mod_lt _ (by omega)
  have bo : oh * ow ≤ 256 * 256 := Nat.mul_le_mul hoh.2 how.2
  have bi : oh * ow * n ≤ 256 * 256 * 256 := Nat.mul_le_mul bo hn.2
  have hy : i / n / ow * s ≤ 256 * 16 := Nat.mul_le_mul (by omega) hs.2
  have hx : i / n % ow * s ≤ 256 * 16 := Nat.mul_le_mul (by omega) hs.2
  have d1 : wi64 (Int.tdiv (i : Int) (n : Int)) = ((i / n : Nat) : Int) := wi64_tdiv i n (by omega)
  have d2 : wi64 (Int.tdiv ((i / n : Nat) : Int) (ow : Int)) = ((i / n / ow : Nat) : Int) := wi64_tdiv _ ow (by omega)
  have h0 := loop_rc_0 H hN h4 (show i / n / ow * s ≤ 1000000 by omega) (show i / n % ow * s ≤ 1000000 by omega) N 0 (by omega) (by have := H.hkh; omega)
  rw [show ((0 : Nat) : Int) = 0 from rfl, sumN] at h0
  unfold F_lodgeref3_element
  (repeat first | refine bT rfl ?_ | refine bF rfl ?_)
  refine bnd (cvC a.2 k.2 za h w c kh kw n s p ow i, ()) ?_ rfl
  unfold F_lodgeref3_conv
  simp only [List.getD_cons_zero, List.getD_cons_succ, d1, d2, tmod_nat]
  refine cT (by simp) (cT (by omega) (cT (by omega) (cT (by simp) (cT (by omega) (cT (by omega) (cT (by simp) (cT (by omega) ?_)))))))
  exact bnd _ h0 (bnd _ (lodgeref3_Wide_spec N _) rfl)

end

/-- three dimensions -/
theorem shape_nat_three {sh : List Int} (h : shapeV sh = .nil) (hl : sh.length = 3) : ∃ a b c : Nat, sh = [(a : Int), (b : Int), (c : Int)] ∧ (1 ≤ a ∧ a ≤ 256) ∧ (1 ≤ b ∧ b ≤ 256) ∧ (1 ≤ c ∧ c ≤ 256) ∧ a * b * c ≤ 16384 ∧ elems sh = ((a * b * c : Nat) : Int) := by
  obtain ⟨ns, e, _, hn, _, h5, h6⟩ := shape_nat h
  rw [e] at hl
  match ns, hl with
  | [a, b, c], _ =>
    simp only [prodN, Nat.mul_one] at h5 h6
    rw [← Nat.mul_assoc] at h5 h6
    exact ⟨a, b, c, e, hn a (by simp), hn b (by simp), hn c (by simp), h5, h6⟩

theorem firstBadT_two {a b : T} (h : firstBadT [a, b] = .nil) : tensV a = .nil ∧ tensV b = .nil := by
  unfold firstBadT firstBadT firstBadT at h
  by_cases ha : tensV a = .nil
  case neg => rw [ifF (isNil_false ha)] at h; exact absurd h ha
  rw [ifT (nilT ha)] at h
  by_cases hb : tensV b = .nil
  case neg => rw [ifF (isNil_false hb)] at h; exact absurd h hb
  exact ⟨ha, hb⟩

theorem firstBadT_one {a : T} (h : firstBadT [a] = .nil) : tensV a = .nil := by
  unfold firstBadT firstBadT at h
  by_cases ha : tensV a = .nil
  case neg => rw [ifF (isNil_false ha)] at h; exact absurd h ha
  exact ha

theorem tensV_in {a : T} (h : tensV a = .nil) (p : Nat) : -2147483648 ≤ a.2.getD p 0 ∧ a.2.getD p 0 ≤ 2147483647 := by
  have h3 := ((tensV_iff a).1 h).2.2
  rcases Nat.lt_or_ge p a.2.length with hp | hp
  · have := h3 _ (List.getElem_mem hp)
    rw [getD_lt hp]
    cases hw : a.1.2
    · rw [hw] at this; have := fitsB_narrow.1 this; omega
    · rw [hw] at this; exact fitsB_wide.1 this
  · rw [List.getD_eq_getElem?_getD, List.getElem?_eq_none hp]; simp

theorem tensV_narrowD {a : T} (h : tensV a = .nil) (hw : a.1.2 = false) (p : Nat) : -128 ≤ a.2.getD p 0 ∧ a.2.getD p 0 ≤ 127 := by
  have h3 := ((tensV_iff a).1 h).2.2
  rcases Nat.lt_or_ge p a.2.length with hp | hp
  · have := h3 _ (List.getElem_mem hp)
    rw [getD_lt hp]
    rw [hw] at this; exact fitsB_narrow.1 this
  · rw [List.getD_eq_getElem?_getD, List.getElem?_eq_none hp]; simp

theorem tensV_len {a : T} (h : tensV a = .nil) : (a.2.length : Int) = elems a.1.1 := ((tensV_iff a).1 h).2.1

theorem tensV_shape {a : T} (h : tensV a = .nil) : shapeV a.1.1 = .nil := ((tensV_iff a).1 h).1

/-- two tensors whose convolution may be -/
theorem convRes_ok {a k : T} {ar : List Int} (va : tensV a = .nil) (vk : tensV k = .nil) (h : (convRes ar a.1 k.1).2 = .nil) : ∃ (za : Int) (h w c kh kw n s p : Nat), ConvOK a k za h w c kh kw n s p ∧ ar = [(s : Int), (p : Int), za] ∧ a.1.2 = false ∧ k.1.2 = false ∧ kh ≤ h + 2 * p ∧ kw ≤ w + 2 * p ∧
    (1 ≤ (h + 2 * p - kh) / s + 1 ∧ (h + 2 * p - kh) / s + 1 ≤ 256) ∧ (1 ≤ (w + 2 * p - kw) / s + 1 ∧ (w + 2 * p - kw) / s + 1 ≤ 256) ∧ ((h + 2 * p - kh) / s + 1) * ((w + 2 * p - kw) / s + 1) * n ≤ 16384 ∧
    (convRes ar a.1 k.1).1 = ([(((h + 2 * p - kh) / s + 1 : Nat) : Int), (((w + 2 * p - kw) / s + 1 : Nat) : Int), (n : Int)], true) ∧ elems (convRes ar a.1 k.1).1.1 = ((((h + 2 * p - kh) / s + 1) * ((w + 2 * p - kw) / s + 1) * n : Nat) : Int) := by
  have sa := tensV_shape va
  have sk := tensV_shape vk
  unfold convRes at h ⊢
  by_cases hl : ar.length = 3
  case neg => rw [if_pos hl] at h; cases h
  rw [if_neg (fun h => h hl), ifNT (nilT sa), ifNT (nilT sk)] at h ⊢
  split at h
  · cases h
  rename_i hB1
  split at h
  · cases h
  rename_i hB2
  split at h
  · cases h
  rename_i hB3
  rw [if_neg hB1, if_neg hB2, if_neg hB3]
  simp only [not_or, ne_eq, Decidable.not_not, Bool.not_eq_true, Int.not_lt] at hB1 hB2 hB3
  obtain ⟨l1, l2, c1, w1, w2⟩ := hB1
  obtain ⟨r1, r2, r3, r4, r5⟩ := hB2
  obtain ⟨q1, q2⟩ := hB3
  obtain ⟨h0, w0, c0, e1, hh, hw, hc, hp, he⟩ := shape_nat_three sa l1
  obtain ⟨ns, e2, _, hn, _, hq, he2⟩ := shape_nat sk
  rw [e2] at l2
  match ns, l2, e2, hn, hq, he2 with
  | [kh, kw, kc, n], _, e2, hn, hq, he2 =>
  simp only [prodN, Nat.mul_one] at hq he2
  rw [e1, e2] at c1 q1 q2
  simp only [List.map_cons, List.map_nil, List.getD_cons_zero, List.getD_cons_succ] at c1 q1 q2 e2
  have hcc : kc = c0 := by omega
  subst hcc
  have hkh := hn kh (by simp)
  have hkw := hn kw (by simp)
  have hnn := hn n (by simp)
  match ar, hl with
  | [x, y, z], _ =>
  simp only [List.getD_cons_zero, List.getD_cons_succ] at r1 r2 r3 r4 r5 q1 q2 h ⊢
  obtain ⟨s, es⟩ : ∃ s : Nat, x = (s : Int) := ⟨x.toNat, by omega⟩
  obtain ⟨p, ep⟩ : ∃ p : Nat, y = (p : Int) := ⟨y.toNat, by omega⟩
  subst es
  subst ep
  have eS : convSh (s : Int) (p : Int) a.1.1 k.1.1 = [(((h0 + 2 * p - kh) / s + 1 : Nat) : Int), (((w0 + 2 * p - kw) / s + 1 : Nat) : Int), (n : Int)] := by
    unfold convSh
    rw [e1, e2]
    simp only [List.getD_cons_zero, List.getD_cons_succ]
    rw [show (h0 : Int) + 2 * p - kh = ((h0 + 2 * p - kh : Nat) : Int) by omega, show (w0 : Int) + 2 * p - kw = ((w0 + 2 * p - kw : Nat) : Int) by omega]
    simp
  rw [eS] at h ⊢
  by_cases hv : shapeV [(((h0 + 2 * p - kh) / s + 1 : Nat) : Int), (((w0 + 2 * p - kw) / s + 1 : Nat) : Int), (n : Int)] = .nil
  case neg => rw [ifF (isNil_false hv)] at h; exact absurd h hv
  rw [ifT (nilT hv)]
  obtain ⟨d1, d2, d3, ed, g1, g2, g3, g4, g5⟩ := shape_nat_three hv rfl
  simp only [List.cons.injEq, Int.ofNat_inj, and_true] at ed
  obtain ⟨ed1, ed2, ed3⟩ := ed
  rw [← ed1] at g1
  rw [← ed2] at g2
  rw [← ed1, ← ed2, ← ed3] at g4 g5
  have la := tensV_len va
  have lk := tensV_len vk
  rw [he] at la
  rw [he2] at lk
  refine ⟨z, h0, w0, kc, kh, kw, n, s, p, ⟨hh, hw, hc, hkh, hkw, hnn, by omega, by omega, e1, e2, by omega, by rw [Nat.mul_assoc, Nat.mul_assoc]; omega, hp, by rw [Nat.mul_assoc, Nat.mul_assoc]; exact hq, tensV_narrowD va w1, tensV_narrowD vk w2, narrowB_iff.1 (by simpa using r5)⟩, rfl, w1, w2, by omega, by omega, g1, g2, g4, rfl, g5⟩

end Go.Proofs.YtbpifndhkdbmhaaDoor.Lg
