/-
  What the program's functions come to, in plain words.
-/
import Derived.Test.YtmbcbocnncfpbaaDoorLgElemBQ
namespace Go.Proofs.YtmbcbocnncfpbaaDoor.Lg
open Go Go.Eng Go.Proofs

/-! pools, by the document -/

def poolSh (n s : Int) (a : List Int) : List Int := [(a.getD 0 0 - n) / s + 1, (a.getD 1 0 - n) / s + 1, a.getD 2 0]

def poolRes (ar : List Int) (a : D) : D × Er :=
  if ar.length ≠ 2 then (noD, .s ErrShape)
  else if !(shapeV a.1).isNil then (noD, shapeV a.1)
  else if a.1.length ≠ 3 then (noD, .s ErrShape)
  else if ar.getD 0 0 < 1 ∨ 16 < ar.getD 0 0 ∨ ar.getD 1 0 < 1 ∨ 16 < ar.getD 1 0 then (noD, .s ErrRange)
  else if a.1.getD 0 0 < ar.getD 0 0 ∨ a.1.getD 1 0 < ar.getD 0 0 then (noD, .s ErrShape)
  else ((poolSh (ar.getD 0 0) (ar.getD 1 0) a.1, a.2), .nil)

theorem poolRes_bare (ar : List Int) (a : D) : bareE (poolRes ar a).2 := by
  unfold poolRes
  repeat' split
  all_goals first | exact True.intro | (dsimp only; exact shapeV_bare _)

theorem poolRes_OK (ar : List Int) (a : D) : erOK (poolRes ar a).2 := by
  unfold poolRes
  repeat' split
  all_goals first | exact True.intro | exact (show ErrShape < 21 by decide) | exact (show ErrRange < 21 by decide) | (dsimp only; exact shapeV_OK _)

/-- three dimensions -/
theorem shape_nat_three {sh : List Int} (h : shapeV sh = .nil) (hl : sh.length = 3) : ∃ a b c : Nat, sh = [(a : Int), (b : Int), (c : Int)] ∧ (1 ≤ a ∧ a ≤ 256) ∧ (1 ≤ b ∧ b ≤ 256) ∧ (1 ≤ c ∧ c ≤ 256) ∧ a * b * c ≤ 16384 ∧ elems sh = ((a * b * c : Nat) : Int) := by
  obtain ⟨ns, e, _, hn, _, h5, h6⟩ := shape_nat h
  rw [e] at hl
  match ns, hl with
  | [a, b, c], _ =>
    simp only [prodN, Nat.mul_one] at h5 h6
    rw [← Nat.mul_assoc] at h5 h6
    exact ⟨a, b, c, e, hn a (by simp), hn b (by simp), hn c (by simp), h5, h6⟩

theorem poolSh_nat {h w c n s : Nat} (hn : 1 ≤ n) (hs : 1 ≤ s) (h1 : n ≤ h) (h2 : n ≤ w) : poolSh (n : Int) (s : Int) [(h : Int), (w : Int), (c : Int)] = [(((h - n) / s + 1 : Nat) : Int), (((w - n) / s + 1 : Nat) : Int), (c : Int)] := by
  unfold poolSh
  simp only [List.getD_cons_zero, List.getD_cons_succ]
  rw [show (h : Int) - n = ((h - n : Nat) : Int) by omega, show (w : Int) - n = ((w - n : Nat) : Int) by omega]
  simp

theorem pool_dim {h n s : Nat} (hn : 1 ≤ n) (hs : 1 ≤ s) (h1 : n ≤ h) : 1 ≤ (h - n) / s + 1 ∧ (h - n) / s + 1 ≤ h := by
  have := Nat.div_le_self (h - n) s
  generalize (h - n) / s = q at *
  omega

theorem pool_prod {h w c n s : Nat} (hn : 1 ≤ n) (hs : 1 ≤ s) (h1 : n ≤ h) (h2 : n ≤ w) (hp : h * w * c ≤ 16384) : ((h - n) / s + 1) * ((w - n) / s + 1) * c ≤ 16384 :=
  Nat.le_trans (Nat.mul_le_mul_right c (Nat.mul_le_mul (pool_dim hn hs h1).2 (pool_dim hn hs h2).2)) hp

theorem lodgeref3_PoolResult_spec {N : Nat} (hN : 20000 ≤ N) (ar : List Int) (a : D) : F_lodgeref3_PoolResult N ar a = some (boxD (poolRes ar a).1, (codeE (poolRes ar a).2, ())) := by
  unfold F_lodgeref3_PoolResult poolRes
  by_cases hl : ar.length = 2
  case neg =>
    rw [if_pos hl]
    exact cT (by omega) rfl
  rw [if_neg (fun h => h hl)]
  refine cF (by omega) ?_
  refine bnd _ (VD_spec hN _) ?_
  rcases shapeV_cases a.1 with ha | ⟨ha, ha'⟩
  case inr => rw [ifNF ha]; exact cT ha' rfl
  rw [ifNT (nilT ha)]
  refine cF (by simp [codeE, ha]) ?_
  by_cases h3 : a.1.length = 3
  case neg => rw [if_pos h3]; exact cT (by omega) rfl
  rw [if_neg (fun h => h h3)]
  refine cF (by omega) (cT (by omega) (cT (by omega) ?_))
  by_cases r1 : ar.getD 0 0 < 1
  · rw [if_pos (.inl r1)]; exact cT r1 rfl
  refine cF r1 ?_
  by_cases r2 : 16 < ar.getD 0 0
  · rw [if_pos (.inr (.inl r2))]; exact cT r2 rfl
  refine cF r2 ?_
  by_cases r3 : ar.getD 1 0 < 1
  · rw [if_pos (.inr (.inr (.inl r3)))]; exact cT r3 rfl
  refine cF r3 ?_
  by_cases r4 : 16 < ar.getD 1 0
  · rw [if_pos (.inr (.inr (.inr r4)))]; exact cT r4 rfl
  refine cF r4 ?_
  rw [if_neg (by omega)]
  obtain ⟨h, w, c, e, hh, hw, hc, hp, he⟩ := shape_nat_three ha h3
  refine cT (by omega) ?_
  by_cases q1 : a.1.getD 0 0 < ar.getD 0 0
  · rw [if_pos (.inl q1)]; exact cT q1 rfl
  refine cF q1 (cT (by omega) ?_)
  by_cases q2 : a.1.getD 1 0 < ar.getD 0 0
  · rw [if_pos (.inr q2)]; exact cT q2 rfl
  refine cF q2 (cT (by omega) (cT (by omega) (cT (by omega) (cT (by omega) (cT (by omega) ?_)))))
  rw [if_neg (by omega)]
  rw [e] at q1 q2 ⊢
  simp only [List.getD_cons_zero, List.getD_cons_succ] at q1 q2 ⊢
  obtain ⟨n, en⟩ : ∃ n : Nat, ar.getD 0 0 = (n : Int) := ⟨(ar.getD 0 0).toNat, by omega⟩
  obtain ⟨s, es⟩ : ∃ s : Nat, ar.getD 1 0 = (s : Int) := ⟨(ar.getD 1 0).toNat, by omega⟩
  rw [en] at r1 r2 q1 q2
  rw [es] at r3 r4
  simp only [en, es]
  have d0 : wi64 (wi64 (Int.tdiv (wi64 ((h : Int) - n)) s) + 1) = (((h - n) / s + 1 : Nat) : Int) := by
    rw [show (h : Int) - n = ((h - n : Nat) : Int) by omega, wi64_in (n := ((h - n : Nat) : Int)) (by omega) (by omega), wi64_tdiv _ s (by omega), wi64_succ]
    have := Nat.div_le_self (h - n) s
    generalize (h - n) / s = q at *
    omega
  have d1 : wi64 (wi64 (Int.tdiv (wi64 ((w : Int) - n)) s) + 1) = (((w - n) / s + 1 : Nat) : Int) := by
    rw [show (w : Int) - n = ((w - n : Nat) : Int) by omega, wi64_in (n := ((w - n : Nat) : Int)) (by omega) (by omega), wi64_tdiv _ s (by omega), wi64_succ]
    have := Nat.div_le_self (w - n) s
    generalize (w - n) / s = q at *
    omega
  rw [d0, d1]
  have hv := shapeV_three (a := (h - n) / s + 1) (b := (w - n) / s + 1) (c := c) (by have := pool_dim (h := h) (n := n) (s := s) (by omega) (by omega) (by omega); omega) (by have := pool_dim (h := w) (n := n) (s := s) (by omega) (by omega) (by omega); omega) hc (pool_prod (by omega) (by omega) (by omega) (by omega) hp)
  refine bnd _ (lodgeref3_seen_spec hN _) ?_
  (repeat first | refine cT rfl ?_ | refine cT True.intro ?_)
  unfold seenD
  rw [ifT (nilT hv), poolSh_nat (by omega) (by omega) (by omega) (by omega)]

/-- the greatest of the first ones -/
def mx (f : Nat → Int) : Nat → Int
  | 0 => f 0
  | k + 1 => max (mx f k) (f (k + 1))

def bst (f : Nat → Int) : Nat → Int
  | 0 => 0
  | k + 1 => mx f k

theorem mx_bound {f : Nat → Int} {lo hi : Int} (h : ∀ i, lo ≤ f i ∧ f i ≤ hi) : ∀ k, lo ≤ mx f k ∧ mx f k ≤ hi
  | 0 => h 0
  | k + 1 => by
    have := mx_bound h k
    have := h (k + 1)
    simp only [mx]
    omega

theorem mx_ge {f : Nat → Int} : ∀ {k i : Nat}, i ≤ k → f i ≤ mx f k
  | 0, i, h => by
    have : i = 0 := by omega
    subst this
    exact Int.le_refl _
  | k + 1, i, h => by
    simp only [mx]
    by_cases e : i = k + 1
    · subst e; omega
    · have := mx_ge (f := f) (k := k) (i := i) (by omega)
      omega

/-- what a pool is made of -/
structure PoolOK (a : T) (h w c n s : Nat) : Prop where
  hh : 1 ≤ h ∧ h ≤ 256
  hw : 1 ≤ w ∧ w ≤ 256
  hc : 1 ≤ c ∧ c ≤ 256
  hn : 1 ≤ n ∧ n ≤ 16
  hs : 1 ≤ s ∧ s ≤ 16
  nh : n ≤ h
  nw : n ≤ w
  sa : a.1.1 = [(h : Int), (w : Int), (c : Int)]
  hA : a.2.length = h * w * c
  bA : h * w * c ≤ 16384
  fA : ∀ p, -2147483648 ≤ a.2.getD p 0 ∧ a.2.getD p 0 ≤ 2147483647

/-- what it reads -/
def plV (A : List Int) (w c s y x ch dy dx : Nat) : Int := A.getD (((y * s + dy) * w + (x * s + dx)) * c + ch) 0

def plS (A : List Int) (w c n s y x ch : Nat) : Int := sumN (fun dy => sumN (plV A w c s y x ch dy) n) n

def plM (A : List Int) (w c n s y x ch : Nat) : Int := mx (fun q => plV A w c s y x ch (q / n) (q % n)) (n * n - 1)

def plC (avg : Bool) (A : List Int) (w c n s ow i : Nat) : Int :=
  if avg then (2 * plS A w c n s (i / c / ow) (i / c % ow) (i % c) + ((n * n : Nat) : Int)) / (2 * ((n * n : Nat) : Int)) else plM A w c n s (i / c / ow) (i / c % ow) (i % c)

section

variable {a : T} {h w c n s : Nat}

theorem pool_idx (H : PoolOK a h w c n s) {y x ch dy dx : Nat} (hy : y < (h - n) / s + 1) (hx : x < (w - n) / s + 1) (hch : ch < c) (hdy : dy < n) (hdx : dx < n) :
    y * s + dy < h ∧ x * s + dx < w ∧ ((y * s + dy) * w + (x * s + dx)) * c + ch < h * w * c := by
  have e1 : y * s ≤ h - n := by
    have : y ≤ (h - n) / s := by omega
    have := Nat.mul_le_mul_right s this
    have := Nat.div_mul_le_self (h - n) s
    omega
  have e2 : x * s ≤ w - n := by
    have : x ≤ (w - n) / s := by omega
    have := Nat.mul_le_mul_right s this
    have := Nat.div_mul_le_self (w - n) s
    omega
  have := H.nh
  have := H.nw
  have h1 : y * s + dy < h := by omega
  have h2 : x * s + dx < w := by omega
  exact ⟨h1, h2, three_idx h1 h2 hch⟩

theorem pool_wi (H : PoolOK a h w c n s) {y x ch dy dx : Nat} (hy : y < (h - n) / s + 1) (hx : x < (w - n) / s + 1) (hch : ch < c) (hdy : dy < n) (hdx : dx < n) :
    wi64 (wi64 (wi64 (wi64 (wi64 (wi64 (wi64 ((y : Int) * s) + dy) * w) + wi64 ((x : Int) * s)) + dx) * c) + ch) = ((((y * s + dy) * w + (x * s + dx)) * c + ch : Nat) : Int) := by
  obtain ⟨h1, h2, h3⟩ := pool_idx H hy hx hch hdy hdx
  have bA := H.bA
  have hw := H.hw
  have hh := H.hh
  have hc := H.hc
  have b1 : (y * s + dy) * w ≤ 256 * 256 := Nat.mul_le_mul (by omega) hw.2
  have b2 : (y * s + dy) * w + (x * s + dx) ≤ ((y * s + dy) * w + (x * s + dx)) * c := Nat.le_mul_of_pos_right _ (by omega)
  rw [wi64_row (by omega), wi64_mul (i := x) (k := s) (by omega), wi64_mul (by omega), wi64_add (i := (y * s + dy) * w) (by omega), wi64_add (i := (y * s + dy) * w + x * s) (by omega), Nat.add_assoc, wi64_row (by omega)]

theorem loop_rp_1 (H : PoolOK a h w c n s) (N : Nat) (avg : Bool) {y x ch dy : Nat} (hy : y < (h - n) / s + 1) (hx : x < (w - n) / s + 1) (hch : ch < c) (hdy : dy < n) (S : Int) (hS : -1099511627776 ≤ S ∧ S ≤ 1099511627776) : ∀ (cnt dx : Nat), dx ≤ n → n < cnt + dx →
    g_lodgeref3_pool_1 N cnt avg [(n : Int), (s : Int)] (a, ()) c ch x y (S + sumN (plV a.2 w c s y x ch dy) dx) (bst (fun q => plV a.2 w c s y x ch (q / n) (q % n)) (dy * n + dx)) dy dx
      = some (avg, ([(n : Int), (s : Int)], ((a, ()), ((c : Int), ((ch : Int), ((x : Int), ((y : Int), (S + sumN (plV a.2 w c s y x ch dy) n, (bst (fun q => plV a.2 w c s y x ch (q / n) (q % n)) (dy * n + n), ((dy : Int), ()))))))))))
  | 0, dx, h1, h2 => by omega
  | cnt + 1, dx, h1, h2 => by
    have hn := H.hn
    rw [g_lodgeref3_pool_1]
    simp only [H.sa, List.getD_cons_zero, List.getD_cons_succ]
    refine cT (by simp) ?_
    by_cases hdx : dx < n
    · obtain ⟨i1, i2, i3⟩ := pool_idx H hy hx hch hdy hdx
      have bA := H.bA
      have hv := H.fA (((y * s + dy) * w + (x * s + dx)) * c + ch)
      have h8 := sumN_bound (plV a.2 w c s y x ch dy) 2147483648 (fun q => by have := H.fA (((y * s + dy) * w + (x * s + q)) * c + ch); unfold plV; omega) dx
      have e3 : wi64 (S + sumN (plV a.2 w c s y x ch dy) dx + a.2.getD (((y * s + dy) * w + (x * s + dx)) * c + ch) 0) = S + sumN (plV a.2 w c s y x ch dy) (dx + 1) := by
        rw [wi64_in (by omega) (by omega), sumN]
        unfold plV
        omega
      have ih := loop_rp_1 H N avg hy hx hch hdy S hS cnt (dx + 1) hdx (by omega)
      have q1 : (dy * n + dx) / n = dy := by rw [Nat.mul_comm, Nat.mul_add_div (by omega), Nat.div_eq_of_lt hdx]; rfl
      have q2 : (dy * n + dx) % n = dx := by rw [Nat.mul_comm, Nat.mul_add_mod, Nat.mod_eq_of_lt hdx]
      simp only [pool_wi H hy hx hch hdy hdx, Int.toNat_natCast, e3, wi64_succ (show dx < 9223372036854775807 by omega)]
      refine cT (by omega) (cT (by simp) (cT (by simp) (cT (by simp) (cT (Int.natCast_nonneg _) (cT (by rw [H.hA]; exact i3) ?_)))))
      have key : ∀ B : Int, B = bst (fun q => plV a.2 w c s y x ch (q / n) (q % n)) (dy * n + (dx + 1)) → g_lodgeref3_pool_1 N cnt avg [(n : Int), (s : Int)] (a, ()) c ch x y (S + sumN (plV a.2 w c s y x ch dy) (dx + 1)) B dy ((dx + 1 : Nat) : Int)
          = some (avg, ([(n : Int), (s : Int)], ((a, ()), ((c : Int), ((ch : Int), ((x : Int), ((y : Int), (S + sumN (plV a.2 w c s y x ch dy) n, (bst (fun q => plV a.2 w c s y x ch (q / n) (q % n)) (dy * n + n), ((dy : Int), ())))))))))) := by
        intro B hB
        rw [hB]
        exact ih
      have hval : ∀ k, dy * n + dx = k → bst (fun q => plV a.2 w c s y x ch (q / n) (q % n)) (dy * n + (dx + 1)) = mx (fun q => plV a.2 w c s y x ch (q / n) (q % n)) k ∧ plV a.2 w c s y x ch (k / n) (k % n) = a.2.getD (((y * s + dy) * w + (x * s + dx)) * c + ch) 0 := by
        intro k hk
        subst hk
        rw [q1, q2]
        exact ⟨rfl, rfl⟩
      by_cases z : dy * n + dx = 0
      · have zy : dy = 0 := by
          rcases Nat.eq_zero_or_pos dy with h | h
          · exact h
          · have := Nat.mul_le_mul_right n h
            omega
        have zx : dx = 0 := by omega
        refine cT (by omega) (cT (by omega) (key _ ?_))
        obtain ⟨v1, v2⟩ := hval 0 z
        rw [v1]
        exact v2.symm
      · obtain ⟨k, hk⟩ : ∃ k, dy * n + dx = k + 1 := ⟨dy * n + dx - 1, by omega⟩
        obtain ⟨v1, v2⟩ := hval _ hk
        have hb : bst (fun q => plV a.2 w c s y x ch (q / n) (q % n)) (dy * n + dx) = mx (fun q => plV a.2 w c s y x ch (q / n) (q % n)) k := by rw [hk]; rfl
        have hfin : cond (decide (bst (fun q => plV a.2 w c s y x ch (q / n) (q % n)) (dy * n + dx) < a.2.getD (((y * s + dy) * w + (x * s + dx)) * c + ch) 0))
            (g_lodgeref3_pool_1 N cnt avg [(n : Int), (s : Int)] (a, ()) c ch x y (S + sumN (plV a.2 w c s y x ch dy) (dx + 1)) (a.2.getD (((y * s + dy) * w + (x * s + dx)) * c + ch) 0) dy ((dx + 1 : Nat) : Int))
            (g_lodgeref3_pool_1 N cnt avg [(n : Int), (s : Int)] (a, ()) c ch x y (S + sumN (plV a.2 w c s y x ch dy) (dx + 1)) (bst (fun q => plV a.2 w c s y x ch (q / n) (q % n)) (dy * n + dx)) dy ((dx + 1 : Nat) : Int))
            = some (avg, ([(n : Int), (s : Int)], ((a, ()), ((c : Int), ((ch : Int), ((x : Int), ((y : Int), (S + sumN (plV a.2 w c s y x ch dy) n, (bst (fun q => plV a.2 w c s y x ch (q / n) (q % n)) (dy * n + n), ((dy : Int), ())))))))))) := by
          by_cases hlt : bst (fun q => plV a.2 w c s y x ch (q / n) (q % n)) (dy * n + dx) < a.2.getD (((y * s + dy) * w + (x * s + dx)) * c + ch) 0
          · refine cT hlt (key _ ?_)
            rw [v1, mx, v2, ← hb]
            omega
          · refine cF hlt (key _ ?_)
            rw [v1, mx, v2, ← hb]
            omega
        by_cases zy : dy = 0
        · have hdx0 : dx ≠ 0 := by
            intro e
            rw [zy, e, Nat.zero_mul] at z
            exact z rfl
          exact cT (by omega) (cF (by omega) hfin)
        · exact cF (by omega) hfin
    · have : dx = n := by omega
      subst this
      exact cF (by omega) rfl

theorem loop_rp_0 (H : PoolOK a h w c n s) {N : Nat} (hN : 20000 ≤ N) (avg : Bool) {y x ch : Nat} (hy : y < (h - n) / s + 1) (hx : x < (w - n) / s + 1) (hch : ch < c) : ∀ (cnt dy : Nat), dy ≤ n → n < cnt + dy →
    g_lodgeref3_pool_0 N cnt avg [(n : Int), (s : Int)] (a, ()) c ch x y (sumN (fun dy => sumN (plV a.2 w c s y x ch dy) n) dy) (bst (fun q => plV a.2 w c s y x ch (q / n) (q % n)) (dy * n)) dy
      = some (avg, ([(n : Int), (s : Int)], (plS a.2 w c n s y x ch, (plM a.2 w c n s y x ch, ()))))
  | 0, dy, h1, h2 => by omega
  | cnt + 1, dy, h1, h2 => by
    have hn := H.hn
    rw [g_lodgeref3_pool_0]
    simp only [List.getD_cons_zero]
    refine cT (by simp) ?_
    by_cases hdy : dy < n
    · refine cT (by omega) ?_
      have hS := sumN_bound (fun dy => sumN (plV a.2 w c s y x ch dy) n) 34359738368 (fun dy => by
        have := sumN_bound (plV a.2 w c s y x ch dy) 2147483648 (fun q => by have := H.fA (((y * s + dy) * w + (x * s + q)) * c + ch); unfold plV; omega) n
        omega) dy
      have h0 := loop_rp_1 H N avg hy hx hch hdy (sumN (fun dy => sumN (plV a.2 w c s y x ch dy) n) dy) (by omega) N 0 (by omega) (by omega)
      rw [show ((0 : Nat) : Int) = 0 from rfl, sumN, Int.add_zero, Nat.add_zero] at h0
      refine bnd _ h0 ?_
      dsimp only
      rw [wi64_succ (by omega)]
      have := loop_rp_0 H hN avg hy hx hch cnt (dy + 1) hdy (by omega)
      rw [sumN, Nat.add_mul, Nat.one_mul] at this
      exact this
    · have : dy = n := by omega
      subst this
      refine cF (by omega) ?_
      have e : bst (fun q => plV a.2 w c s y x ch (q / dy) (q % dy)) (dy * dy) = plM a.2 w c dy s y x ch := by
        unfold plM
        have : 1 ≤ dy * dy := Nat.mul_le_mul hn.1 hn.1
        obtain ⟨k, hk⟩ : ∃ k, dy * dy = k + 1 := ⟨dy * dy - 1, by omega⟩
        rw [hk]
        rfl
      rw [e]
      rfl

theorem div_spec (N : Nat) {a b : Int} (hb : 0 < b) (hb' : b ≤ 4398046511104) (ha : -4398046511104 ≤ a ∧ a ≤ 4398046511104) : F_lodgeref3_div N a b = some (a / b, ()) := by
  unfold F_lodgeref3_div
  have hd := Int.mul_ediv_add_emod a b
  have hm := Int.emod_nonneg a (show b ≠ 0 by omega)
  have hm' := Int.emod_lt_of_pos a hb
  have hq : -4398046511104 ≤ a / b ∧ a / b ≤ 4398046511104 := by
    constructor
    · have := Int.ediv_le_ediv hb ha.1
      have h2 : -4398046511104 ≤ (-4398046511104 : Int) / b := by
        have := Int.le_ediv_of_mul_le hb (show -4398046511104 * b ≤ -4398046511104 by omega)
        exact this
      omega
    · have := Int.ediv_le_ediv hb ha.2
      have h2 : (4398046511104 : Int) / b ≤ 4398046511104 := Int.ediv_le_self _ (by omega)
      omega
  have ht : Int.tdiv a b = a / b ∧ ¬ Int.tmod a b < 0 ∨ Int.tdiv a b = a / b + 1 ∧ Int.tmod a b < 0 := by
    rw [Int.tdiv_eq_ediv, Int.tmod_eq_emod]
    by_cases h : 0 ≤ a ∨ b ∣ a
    · left
      rw [if_pos h, if_pos h]
      constructor <;> omega
    · right
      have hs : b.sign = 1 := Int.sign_eq_one_of_pos hb
      rw [if_neg h, if_neg h, hs]
      constructor
      · omega
      · omega
  refine cT (by omega) (cT (by omega) ?_)
  rcases ht with ⟨h1, h2⟩ | ⟨h1, h2⟩
  · refine cF h2 ?_
    rw [h1, wi64_in (by omega) (by omega)]
  · refine cT h2 ?_
    rw [h1, wi64_in (n := a / b + 1) (by omega) (by omega), wi64_in (by omega) (by omega)]
    congr 2
    omega

theorem plS_bound (H : PoolOK a h w c n s) (y x ch : Nat) : -549755813888 ≤ plS a.2 w c n s y x ch ∧ plS a.2 w c n s y x ch ≤ 549755813888 := by
  have hn := H.hn
  have := sumN_bound (fun dy => sumN (plV a.2 w c s y x ch dy) n) 34359738368 (fun dy => by
        have := sumN_bound (plV a.2 w c s y x ch dy) 2147483648 (fun q => by have := H.fA (((y * s + dy) * w + (x * s + q)) * c + ch); unfold plV; omega) n
        omega) n
  unfold plS
  omega

theorem pool_spec (H : PoolOK a h w c n s) {N : Nat} (hN : 20000 ≤ N) (avg : Bool) {i oh : Nat} (eoh : oh = (h - n) / s + 1) {ow : Nat} (eow : ow = (w - n) / s + 1) (hi : i < oh * ow * c) (wd : Bool) :
    F_lodgeref3_pool N avg [(n : Int), (s : Int)] i a ([(oh : Int), (ow : Int), (c : Int)], wd) = some (plC avg a.2 w c n s ow i, ()) := by
  have hc := H.hc
  have hn := H.hn
  have hs := H.hs
  have d0 := pool_dim (h := h) (n := n) (s := s) (by omega) (by omega) H.nh
  have d1 := pool_dim (h := w) (n := n) (s := s) (by omega) (by omega) H.nw
  have hp := pool_prod (c := c) (by omega) (by omega) H.nh H.nw H.bA (n := n) (s := s)
  rw [← eoh, ← eow] at hp
  have h1 : i / c < oh * ow := Nat.div_lt_of_lt_mul (by rw [Nat.mul_comm]; exact hi)
  have h2 : i / c / ow < oh := Nat.div_lt_of_lt_mul (by rw [Nat.mul_comm]; exact h1)
  have h3 : i / c % ow < ow := Nat.mod_lt _ (by omega)
  have h4 : i % c < c := Nat.mod_lt _ (by omega)
  have e1 : wi64 (Int.tdiv (i : Int) (c : Int)) = ((i / c : Nat) : Int) := wi64_tdiv i c (by omega)
  have e2 : wi64 (Int.tdiv ((i / c : Nat) : Int) (ow : Int)) = ((i / c / ow : Nat) : Int) := wi64_tdiv _ ow (by have := Nat.div_le_self i c; omega)
  have h0 := loop_rp_0 H hN avg (y := i / c / ow) (x := i / c % ow) (ch := i % c) (by omega) (by omega) h4 N 0 (by omega) (by omega)
  rw [show ((0 : Nat) : Int) = 0 from rfl, sumN, Nat.zero_mul] at h0
  unfold F_lodgeref3_pool
  simp only [List.getD_cons_zero, List.getD_cons_succ, e1, e2, tmod_nat]
  refine cT (by simp) (cT (by omega) (cT (by omega) (cT (by simp) (cT (by omega) (cT (by omega) (cT (by simp) (cT (by omega) (bnd _ h0 ?_))))))))
  unfold plC
  cases avg
  · exact bF rfl rfl
  · refine bT rfl ?_
    (repeat first | refine bT rfl ?_ | refine bF rfl ?_)
    have hsum := plS_bound H (i / c / ow) (i / c % ow) (i % c)
    have hnn : n * n ≤ 16 * 16 := Nat.mul_le_mul hn.2 hn.2
    have hn1 : 1 ≤ n * n := Nat.mul_le_mul hn.1 hn.1
    simp only [List.getD_cons_zero]
    rw [wi64_mul (i := n) (k := n) (by omega), wi64_in (n := 2 * plS a.2 w c n s (i / c / ow) (i / c % ow) (i % c)) (by omega) (by omega), wi64_in (n := 2 * plS a.2 w c n s (i / c / ow) (i / c % ow) (i % c) + ((n * n : Nat) : Int)) (by omega) (by omega), wi64_in (n := 2 * ((n * n : Nat) : Int)) (by omega) (by omega)]
    exact bnd _ (div_spec N (by omega) (by omega) (by omega)) rfl

end

/-! tables, choices, sums, by the document -/

def softK (op : Int) : Int := if op = 16 ∨ op = 17 then 2 else 1

def softRes (op : Int) (ins : List D) : D × Er :=
  if ¬ (op = 16 ∨ op = 17 ∨ op = 19 ∨ op = 20) then (noD, .s ErrKind)
  else if (ins.length : Int) ≠ softK op then (noD, .s ErrShape)
  else if !(firstBad ins).isNil then (noD, firstBad ins)
  else if op = 16 then
    if (ins.getD 0 noD).2 = true ∨ ((ins.getD 0 noD).1.length : Int) < 1 ∨ ins.getD 1 noD ≠ ([256], true) then (noD, .s ErrShape) else (ins.getD 0 noD, .nil)
  else if op = 17 then
    if (ins.getD 0 noD).1.length ≠ 2 ∨ (ins.getD 1 noD).1.length ≠ 1 ∨ (ins.getD 1 noD).2 = false then (noD, .s ErrShape) else seenD ([(ins.getD 1 noD).1.getD 0 0, (ins.getD 0 noD).1.getD 1 0], (ins.getD 0 noD).2)
  else if ((ins.getD 0 noD).1.length : Int) < 1 then (noD, .s ErrShape)
  else (((ins.getD 0 noD).1.take ((ins.getD 0 noD).1.length - 1), true), .nil)

theorem softRes_bare (op : Int) (ins : List D) : bareE (softRes op ins).2 := by
  unfold softRes
  repeat' split
  all_goals first | exact True.intro | exact seenD_bare _ | (dsimp only; exact firstBad_bare _)

theorem softRes_OK (op : Int) (ins : List D) : erOK (softRes op ins).2 := by
  unfold softRes
  repeat' split
  all_goals first | exact True.intro | exact (show ErrShape < 21 by decide) | exact (show ErrKind < 21 by decide) | exact seenD_OK _ | (dsimp only; exact firstBad_OK _)

theorem firstBad_two {a b : D} (h : firstBad [a, b] = .nil) : shapeV a.1 = .nil ∧ shapeV b.1 = .nil := by
  unfold firstBad firstBad firstBad at h
  rcases shapeV_cases a.1 with ha | ⟨ha, ha'⟩
  case inr => rw [ifF ha] at h; rw [h] at ha; cases ha
  rw [ifT (nilT ha)] at h
  rcases shapeV_cases b.1 with hb | ⟨hb, hb'⟩
  case inr => rw [ifF hb] at h; rw [h] at hb; cases hb
  exact ⟨ha, hb⟩

theorem firstBad_one {a : D} (h : firstBad [a] = .nil) : shapeV a.1 = .nil := by
  unfold firstBad firstBad at h
  rcases shapeV_cases a.1 with ha | ⟨ha, ha'⟩
  case inr => rw [ifF ha] at h; rw [h] at ha; cases ha
  exact ha

theorem prodN_append : ∀ (l m : List Nat), prodN (l ++ m) = prodN l * prodN m
  | [], m => by simp [prodN]
  | n :: r, m => by rw [List.cons_append, prodN, prodN, prodN_append r m, Nat.mul_assoc]

/-- the last dimension, and those ahead of it -/
theorem shape_nat_last {sh : List Int} (h : shapeV sh = .nil) (hl : 1 ≤ sh.length) : ∃ (pre : List Nat) (n : Nat), sh = (pre.map Nat.cast) ++ [(n : Int)] ∧ (1 ≤ n ∧ n ≤ 256) ∧ 1 ≤ prodN pre ∧ prodN pre * n ≤ 16384 ∧ elems sh = ((prodN pre * n : Nat) : Int) ∧ shapeV (pre.map (Nat.cast : Nat → Int)) = .nil ∧ elems (pre.map (Nat.cast : Nat → Int)) = ((prodN pre : Nat) : Int) := by
  obtain ⟨ns, e, h4, hn, h1, h5, h6⟩ := shape_nat h
  have hne : ns ≠ [] := by
    intro e0
    rw [e, e0] at hl
    simp at hl
  have hd : ns.dropLast ++ [ns.getLast hne] = ns := List.dropLast_concat_getLast hne
  have hp : prodN ns = prodN ns.dropLast * ns.getLast hne := by
    conv => lhs; rw [← hd]
    rw [prodN_append]
    simp [prodN]
  have hmem : ∀ x, x ∈ ns.dropLast → x ∈ ns := fun x hx => (List.dropLast_sublist _).subset hx
  have hpos : 1 ≤ prodN ns.dropLast := by
    rcases Nat.eq_zero_or_pos (prodN ns.dropLast) with h0 | h0
    · rw [h0, Nat.zero_mul] at hp; omega
    · exact h0
  have hlast := hn _ (List.getLast_mem hne)
  have hle : prodN ns.dropLast ≤ prodN ns.dropLast * ns.getLast hne := Nat.le_mul_of_pos_right _ (by omega)
  have hv : shapeV (ns.dropLast.map (Nat.cast : Nat → Int)) = .nil := by
    rw [shapeV_nil]
    refine ⟨by simp; omega, ?_, ?_⟩
    · rw [List.any_eq_false]
      intro x hx
      obtain ⟨m, hm, rfl⟩ := List.mem_map.1 hx
      have := hn m (hmem m hm)
      simp [badDim]
      omega
    · have hb : (ns.dropLast.map (Nat.cast : Nat → Int)).any badDim = false := by
        rw [List.any_eq_false]
        intro x hx
        obtain ⟨m, hm, rfl⟩ := List.mem_map.1 hx
        have := hn m (hmem m hm)
        simp [badDim]
        omega
      have := overs_foldl (ns.dropLast.map (Nat.cast : Nat → Int)) 1 (by omega) hb
      have hf := foldl_prodN ns.dropLast 1
      rw [Nat.one_mul] at hf
      rw [show ((1 : Nat) : Int) = 1 from rfl] at hf
      rw [hf] at this
      rw [show decide ((16384 : Int) < 1) = false from rfl, Bool.or_false] at this
      rw [this]
      simp
      omega
  refine ⟨ns.dropLast, ns.getLast hne, ?_, hlast, hpos, by omega, by rw [h6, hp], hv, ?_⟩
  · rw [e]
    conv => lhs; rw [← hd]
    simp
  · unfold elems
    rw [hv]
    have hf := foldl_prodN ns.dropLast 1
    rw [Nat.one_mul] at hf
    exact hf

theorem take_last {α : Type} (l : List α) (x : α) : (l ++ [x]).take ((l ++ [x]).length - 1) = l := by simp

theorem getD_last {α : Type} (l : List α) (x d : α) : (l ++ [x]).getD ((l ++ [x]).length - 1) d = x := by
  rw [List.getD_eq_getElem?_getD]
  simp

theorem lodgeref3_SoftResult_spec {N : Nat} (hN : 20000 ≤ N) (op : Int) (ins : List D) (hi : ins.length ≤ 1000) : F_lodgeref3_SoftResult N op ins = some (boxD (softRes op ins).1, (codeE (softRes op ins).2, ())) := by
  unfold F_lodgeref3_SoftResult softRes
  by_cases hop : op = 16 ∨ op = 17 ∨ op = 19 ∨ op = 20
  case neg =>
    rw [if_pos hop]
    refine bnd (.inl (([], (false, ())), ((103 : Int), ()))) ?_ rfl
    refine bnd (op, (ins, (([], (false, ())), ((1 : Int), (op, (false, ())))))) ?_ ?_
    · refine cF (by omega) ?_
      rw [decide_eq_false (show ¬ op = 17 by omega)]
    refine bF rfl ?_
    refine bnd (op, (ins, (([], (false, ())), ((1 : Int), (false, ()))))) ?_ (bF rfl rfl)
    refine cF (by dsimp only; omega) ?_
    refine bT rfl ?_
    dsimp only
    rw [decide_eq_false (show ¬ op = 20 by omega)]
  rw [if_neg (fun h => h hop)]
  refine bnd (.inr (op, (ins, (([], (false, ())), (softK op, ()))))) ?_ ?_
  · rcases hop with rfl | rfl | rfl | rfl <;> rfl
  dsimp only [Sum.elim_inr]
  by_cases hl : (ins.length : Int) = softK op
  case neg => rw [if_pos hl]; exact cT hl rfl
  rw [if_neg (fun h => h hl)]
  refine cF (fun h => h hl) ?_
  refine bnd _ (lodgeref3_descs_spec hN _ (by omega)) ?_
  by_cases hb : firstBad ins = .nil
  case neg =>
    rw [ifNF (isNil_false hb)]
    exact cT (fun e => hb ((codeE_zero _).1 e)) rfl
  rw [ifNT (nilT hb)]
  refine cF (by simp [codeE, hb]) ?_
  rcases hop with rfl | rfl | rfl | rfl
  · -- softmax
    simp only [softK, true_or, if_true] at hl
    match ins, hl, hb with
    | [a, b], _, hb =>
    obtain ⟨va, vb⟩ := firstBad_two hb
    (repeat first | refine bT rfl ?_ | refine bF rfl ?_)
    refine bnd (([], (false, ())), ((a, ()), (decide (a.2 = true ∨ (a.1.length : Int) < 1 ∨ b ≠ ([256], true)), ()))) ?_ ?_
    · by_cases h1 : a.2 = true
      · refine bT h1 ?_
        (repeat first | refine cT rfl ?_ | refine cT True.intro ?_)
        rw [decide_eq_true (p := _ ∨ _) (.inl h1)]
        rfl
      refine bF (by simpa using h1) ?_
      by_cases h2 : (a.1.length : Int) < 1
      · refine cT h2 ?_
        (repeat first | refine cT rfl ?_ | refine cT True.intro ?_)
        rw [decide_eq_true (p := _ ∨ _) (.inr (.inl h2))]
        rfl
      refine cF h2 (cT (by simp) ?_)
      refine bnd _ (lodgeref_SameDesc_spec b ([256], true) (by have := (shapeV_nil.1 vb).1; omega) (by have := (shapeV_nil.1 vb).1; omega)) (cT rfl ?_)
      by_cases h3 : b = ([256], true)
      · rw [decide_eq_true h3, decide_eq_false (p := _ ∨ _) (by rintro (h | h | h); exact h1 h; exact h2 h; exact h h3)]
        rfl
      · rw [decide_eq_false h3, decide_eq_true (p := _ ∨ _) (.inr (.inr h3))]
        rfl
    by_cases hB : a.2 = true ∨ (a.1.length : Int) < 1 ∨ b ≠ ([256], true)
    · rw [if_pos rfl]
      simp only [List.getD_cons_zero, List.getD_cons_succ]
      rw [if_pos hB]
      exact cT hB rfl
    · rw [if_pos rfl]
      simp only [List.getD_cons_zero, List.getD_cons_succ]
      rw [if_neg hB]
      refine cF hB ?_
      refine bnd _ (lodgeref3_seen_spec hN _) ?_
      (repeat first | refine cT rfl ?_ | refine cT True.intro ?_)
      unfold seenD
      rw [ifT (nilT va)]
  · -- gather
    simp only [softK, or_true, if_true] at hl
    match ins, hl, hb with
    | [a, b], _, hb =>
    obtain ⟨va, vb⟩ := firstBad_two hb
    (repeat first | refine bT rfl ?_ | refine bF rfl ?_)
    refine bnd ([a, b], (([], (false, ())), ((a, ()), (decide (a.1.length ≠ 2 ∨ b.1.length ≠ 1 ∨ b.2 = false), ())))) ?_ ?_
    · by_cases h1 : a.1.length = 2
      case neg =>
        refine cT (by simp only [List.getD_cons_zero]; omega) ?_
        (repeat first | refine cT rfl ?_ | refine cT True.intro ?_)
        rw [decide_eq_true (p := _ ∨ _) (.inl h1)]
        rfl
      refine cF (by simp only [List.getD_cons_zero]; omega) (cT (by simp) ?_)
      by_cases h2 : b.1.length = 1
      case neg =>
        refine cT (by simp only [List.getD_cons_zero, List.getD_cons_succ]; omega) ?_
        (repeat first | refine cT rfl ?_ | refine cT True.intro ?_)
        rw [decide_eq_true (p := _ ∨ _) (.inr (.inl h2))]
        rfl
      refine cF (by simp only [List.getD_cons_zero, List.getD_cons_succ]; omega) (cT (by simp) (cT rfl ?_))
      cases h3 : b.2
      · rw [decide_eq_true (p := _ ∨ _) (.inr (.inr rfl))]
        simp [h3]
      · rw [decide_eq_false (p := _ ∨ _) (by rintro (h | h | h); exact h h1; exact h h2; cases h)]
        simp [h3]
    rw [if_neg (by decide), if_pos rfl]
    simp only [List.getD_cons_zero, List.getD_cons_succ]
    by_cases hB : a.1.length ≠ 2 ∨ b.1.length ≠ 1 ∨ b.2 = false
    · rw [if_pos hB]
      exact cT hB rfl
    · rw [if_neg hB]
      refine cF hB ?_
      refine cT (by simp) (cT (by omega) (cT (by omega) ?_))
      refine bnd _ (lodgeref3_seen_spec hN _) ?_
      (repeat first | refine cT rfl ?_ | refine cT True.intro ?_)
      rfl
  all_goals
    rw [softK, if_neg (by decide)] at hl
    match ins, hl, hb with
    | [a], _, hb =>
    have va := firstBad_one hb
    have h4 := (shapeV_nil.1 va).1
    rw [if_neg (by decide), if_neg (by decide)]
    (repeat first | refine bT rfl ?_ | refine bF rfl ?_)
    simp only [List.getD_cons_zero]
    by_cases h1 : (a.1.length : Int) < 1
    · rw [if_pos h1]
      exact cT h1 rfl
    rw [if_neg h1]
    refine cF h1 ?_
    have e : wi64 ((a.1.length : Int) - 1) = ((a.1.length - 1 : Nat) : Int) := by rw [wi64_in (by omega) (by omega)]; omega
    rw [e]
    refine cT (by omega) (cT (by omega) ?_)
    rw [Int.toNat_natCast, Nat.sub_zero]
    obtain ⟨pre, n, es, hn, hp, hq, he, hv, _⟩ := shape_nat_last va (by omega)
    have hv' : shapeV (a.1.take (a.1.length - 1)) = .nil := by rw [es, take_last]; exact hv
    refine bnd _ (lodgeref3_seen_spec hN _) ?_
    (repeat first | refine cT rfl ?_ | refine cT True.intro ?_)
    unfold seenD
    rw [ifT (nilT hv')]

/-! elements -/

def smM (A : List Int) (n i : Nat) : Int := mx (fun j => A.getD (i / n * n + j) 0) (n - 1)

def smW (A B : List Int) (n i j : Nat) : Int := max 0 (B.getD (smM A n i - A.getD j 0).toNat 0)

def smS (A B : List Int) (n i : Nat) : Int := sumN (fun j => smW A B n i (i / n * n + j)) n

def smC (A B : List Int) (n i : Nat) : Int := if smS A B n i = 0 then -128 else (255 * smW A B n i i + smS A B n i / 2) / smS A B n i - 128

theorem row_idx {P n i : Nat} (hn : 1 ≤ n) (hi : i < P * n) : i / n * n + n ≤ P * n ∧ i / n * n ≤ i ∧ i < i / n * n + n := by
  have h1 : i / n < P := Nat.div_lt_of_lt_mul (by rw [Nat.mul_comm]; exact hi)
  have h2 : (i / n + 1) * n ≤ P * n := Nat.mul_le_mul_right n h1
  have h3 := Nat.div_mul_le_self i n
  have h4 := Nat.mod_lt i (show 0 < n by omega)
  have h5 := Nat.div_add_mod i n
  rw [Nat.add_mul, Nat.one_mul] at h2
  rw [Nat.mul_comm] at h5
  omega

theorem imax_eq' (a b : Int) : imax a b = max a b := by
  unfold imax
  split <;> omega

section

variable {a b : T} {n P : Nat}

theorem loop_rs_0 (N : Nat) (t : T × Unit) (hn : 1 ≤ n ∧ n ≤ 256) (hl : a.2.length = P * n) (hP : P * n ≤ 16384) {i : Nat} (hi : i < P * n) (I : Int) : ∀ (cnt j : Nat), j ≤ n → n < cnt + j →
    g_lodgeref3_softmax_0 N cnt I (a, ()) t n ((i / n * n : Nat) : Int) (mx (fun j => a.2.getD (i / n * n + j) 0) (j - 1)) j = some (I, ((a, ()), (t, ((n : Int), (((i / n * n : Nat) : Int), (smM a.2 n i, ()))))))
  | 0, j, h1, h2 => by omega
  | cnt + 1, j, h1, h2 => by
    rw [g_lodgeref3_softmax_0]
    obtain ⟨r1, r2, r3⟩ := row_idx hn.1 hi
    by_cases hj : j < n
    · have e : wi64 (((i / n * n : Nat) : Int) + j) = ((i / n * n + j : Nat) : Int) := wi64_add (by omega)
      simp only [e, Int.toNat_natCast]
      refine cT (by omega) (cT (Int.natCast_nonneg _) (cT (by rw [hl]; omega) ?_))
      rw [wi64_succ (by omega), imax_eq']
      have ih := loop_rs_0 N t hn hl hP hi I cnt (j + 1) hj (by omega)
      have hm : max (mx (fun j => a.2.getD (i / n * n + j) 0) (j - 1)) (a.2.getD (i / n * n + j) 0) = mx (fun j => a.2.getD (i / n * n + j) 0) (j + 1 - 1) := by
        cases j with
        | zero => simp only [Nat.zero_sub, mx, Nat.add_zero, Nat.zero_add, Nat.sub_self]; omega
        | succ j => rfl
      rw [hm]
      exact ih
    · have : j = n := by omega
      subst this
      exact cF (by omega) rfl

theorem smM_in (fA : ∀ p, -128 ≤ a.2.getD p 0 ∧ a.2.getD p 0 ≤ 127) (i : Nat) : -128 ≤ smM a.2 n i ∧ smM a.2 n i ≤ 127 := mx_bound (fun j => fA _) _

theorem smD_in (fA : ∀ p, -128 ≤ a.2.getD p 0 ∧ a.2.getD p 0 ≤ 127) (hn : 1 ≤ n) {i j : Nat} (h1 : i / n * n ≤ j) (h2 : j < i / n * n + n) : 0 ≤ smM a.2 n i - a.2.getD j 0 ∧ smM a.2 n i - a.2.getD j 0 ≤ 255 := by
  have h3 := smM_in fA (n := n) i
  have h4 := fA j
  have h5 : a.2.getD j 0 ≤ smM a.2 n i := by
    have := mx_ge (f := fun j => a.2.getD (i / n * n + j) 0) (k := n - 1) (i := j - i / n * n) (by omega)
    rw [show i / n * n + (j - i / n * n) = j by omega] at this
    exact this
  omega

theorem smW_in (fB : ∀ p, -2147483648 ≤ b.2.getD p 0 ∧ b.2.getD p 0 ≤ 2147483647) (A : List Int) (i j : Nat) : 0 ≤ smW A b.2 n i j ∧ smW A b.2 n i j ≤ 2147483647 := by
  have := fB (smM A n i - A.getD j 0).toNat
  unfold smW
  omega

theorem sumN_nonneg {f : Nat → Int} (h : ∀ i, 0 ≤ f i) : ∀ k, 0 ≤ sumN f k
  | 0 => Int.le_refl _
  | k + 1 => by
    have := sumN_nonneg h k
    have := h k
    simp only [sumN]
    omega

theorem loop_rs_1 (N : Nat) (hn : 1 ≤ n ∧ n ≤ 256) (hl : a.2.length = P * n) (hP : P * n ≤ 16384) (hb : b.2.length = 256) (fA : ∀ p, -128 ≤ a.2.getD p 0 ∧ a.2.getD p 0 ≤ 127) (fB : ∀ p, -2147483648 ≤ b.2.getD p 0 ∧ b.2.getD p 0 ≤ 2147483647) {i : Nat} (hi : i < P * n) (I : Int) : ∀ (cnt j : Nat), j ≤ n → n < cnt + j →
    g_lodgeref3_softmax_1 N cnt I (a, ()) (b, ()) n ((i / n * n : Nat) : Int) (smM a.2 n i) (sumN (fun j => smW a.2 b.2 n i (i / n * n + j)) j) j = some (I, ((a, ()), ((b, ()), (smM a.2 n i, (smS a.2 b.2 n i, ())))))
  | 0, j, h1, h2 => by omega
  | cnt + 1, j, h1, h2 => by
    rw [g_lodgeref3_softmax_1]
    obtain ⟨r1, r2, r3⟩ := row_idx hn.1 hi
    by_cases hj : j < n
    · have e : wi64 (((i / n * n : Nat) : Int) + j) = ((i / n * n + j : Nat) : Int) := wi64_add (by omega)
      have hd := smD_in fA hn.1 (i := i) (j := i / n * n + j) (by omega) (by omega)
      have hw := smW_in fB (n := n) a.2 i (i / n * n + j)
      have hs := sumN_bound (fun j => smW a.2 b.2 n i (i / n * n + j)) 2147483647 (fun j => by have := smW_in fB (n := n) a.2 i (i / n * n + j); omega) j
      simp only [e, Int.toNat_natCast]
      rw [wi64_in (n := smM a.2 n i - a.2.getD (i / n * n + j) 0) (by omega) (by omega)]
      refine cT (by omega) (cT (Int.natCast_nonneg _) (cT (by rw [hl]; omega) (cT (by omega) (cT (by rw [hb]; omega) ?_))))
      rw [wi64_succ (by omega), imax_eq']
      have ih := loop_rs_1 N hn hl hP hb fA fB hi I cnt (j + 1) hj (by omega)
      rw [sumN] at ih
      unfold smW at hw hs ih ⊢
      rw [wi64_in (by omega) (by omega)]
      exact ih
    · have : j = n := by omega
      subst this
      exact cF (by omega) rfl

theorem softmax_spec {N : Nat} (hN : 20000 ≤ N) {pre : List Int} (sa : a.1.1 = pre ++ [(n : Int)]) (hpre : pre.length ≤ 10) (hn : 1 ≤ n ∧ n ≤ 256) (hl : a.2.length = P * n) (hP : P * n ≤ 16384) (hb : b.2.length = 256) (fA : ∀ p, -128 ≤ a.2.getD p 0 ∧ a.2.getD p 0 ≤ 127) (fB : ∀ p, -2147483648 ≤ b.2.getD p 0 ∧ b.2.getD p 0 ≤ 2147483647) {i : Nat} (hi : i < P * n) :
    F_lodgeref3_softmax N i a b = some (smC a.2 b.2 n i, ()) := by
  unfold F_lodgeref3_softmax
  obtain ⟨r1, r2, r3⟩ := row_idx hn.1 hi
  have e : wi64 ((a.1.1.length : Int) - 1) = ((a.1.1.length - 1 : Nat) : Int) := by
    have : a.1.1.length = pre.length + 1 := by rw [sa]; simp
    rw [wi64_in (by omega) (by omega)]; omega
  have eg : a.1.1.getD (a.1.1.length - 1) 0 = (n : Int) := by rw [sa]; exact getD_last _ _ _
  have er : wi64 (wi64 (Int.tdiv (i : Int) (n : Int)) * (n : Int)) = ((i / n * n : Nat) : Int) := by
    rw [wi64_tdiv i n (by omega), wi64_mul (by omega)]
  simp only [e, Int.toNat_natCast, eg, er]
  have h0 := loop_rs_0 (a := a) (n := n) (P := P) N (b, ()) hn hl hP hi (i : Int) N 0 (by omega) (by omega)
  rw [show ((0 : Nat) : Int) = 0 from rfl] at h0
  simp only [Nat.zero_sub, mx, Nat.add_zero] at h0
  have h1 := loop_rs_1 (a := a) (b := b) (n := n) (P := P) N hn hl hP hb fA fB hi (i : Int) N 0 (by omega) (by omega)
  rw [show ((0 : Nat) : Int) = 0 from rfl, sumN] at h1
  have hlen : a.1.1.length = pre.length + 1 := by rw [sa]; simp
  refine cT (Int.natCast_nonneg _) (cT (by omega) (cT (by omega) (cT (Int.natCast_nonneg _) (cT (by rw [hl]; omega) (bnd _ h0 (bnd _ h1 ?_))))))
  unfold smC
  by_cases hz : smS a.2 b.2 n i = 0
  · rw [if_pos hz]
    exact cT hz rfl
  rw [if_neg hz]
  have hd := smD_in fA hn.1 (i := i) (j := i) r2 r3
  have hw := smW_in fB (n := n) a.2 i i
  have hs : 0 ≤ smS a.2 b.2 n i := sumN_nonneg (fun j => (smW_in fB (n := n) a.2 i _).1) n
  have hs2 := sumN_bound (fun j => smW a.2 b.2 n i (i / n * n + j)) 2147483647 (fun j => by have := smW_in fB (n := n) a.2 i (i / n * n + j); omega) n
  change -(2147483647 * (n : Int)) ≤ smS a.2 b.2 n i ∧ smS a.2 b.2 n i ≤ 2147483647 * (n : Int) at hs2
  refine cF hz (cT (Int.natCast_nonneg _) (cT (by dsimp only [Int.toNat_natCast]; omega) ?_))
  simp only [Int.toNat_natCast, wi64_in (n := smM a.2 n i - a.2.getD i 0) (by omega) (by omega)]
  refine cT (by omega) (cT (by rw [hb]; omega) (cT hz ?_))
  rw [imax_eq']
  have hq : 0 ≤ smS a.2 b.2 n i / 2 := Int.ediv_nonneg hs (by omega)
  have ew : max 0 (b.2.getD (smM a.2 n i - a.2.getD i 0).toNat 0) = smW a.2 b.2 n i i := rfl
  rw [ew]
  generalize smW a.2 b.2 n i i = W at *
  generalize smS a.2 b.2 n i = S at *
  have e2 : wi64 (Int.tdiv S 2) = S / 2 := by rw [Int.tdiv_eq_ediv_of_nonneg hs, wi64_in (by omega) (by omega)]
  have e3 : wi64 (wi64 (255 * W) + S / 2) = 255 * W + S / 2 := by rw [wi64_in (n := 255 * W) (by omega) (by omega), wi64_in (by omega) (by omega)]
  have b1 : 0 ≤ (255 * W + S / 2) / S := Int.ediv_nonneg (by omega) (by omega)
  have b2 : (255 * W + S / 2) / S ≤ 255 * W + S / 2 := Int.ediv_le_self _ (by omega)
  rw [e2, e3, Int.tdiv_eq_ediv_of_nonneg (by omega), wi64_in (n := (255 * W + S / 2) / S) (by omega) (by omega), wi64_in (by omega) (by omega)]

theorem element_softmax {N : Nat} (hN : 20000 ≤ N) {pre : List Int} (sa : a.1.1 = pre ++ [(n : Int)]) (hpre : pre.length ≤ 10) (hn : 1 ≤ n ∧ n ≤ 256) (hl : a.2.length = P * n) (hP : P * n ≤ 16384) (hb : b.2.length = 256) (fA : ∀ p, -128 ≤ a.2.getD p 0 ∧ a.2.getD p 0 ≤ 127) (fB : ∀ p, -2147483648 ≤ b.2.getD p 0 ∧ b.2.getD p 0 ≤ 2147483647) {i : Nat} (hi : i < P * n) (d : D) (args : List Int) :
    F_lodgeref3_element N 16 args i [a, b] d = some (smC a.2 b.2 n i, ()) := by
  unfold F_lodgeref3_element
  (repeat first | refine bT rfl ?_ | refine bF rfl ?_)
  exact bnd _ (softmax_spec hN sa hpre hn hl hP hb fA fB hi) rfl

/-- a number, cut -/
def cut (x lo hi : Int) : Int := if x < lo then lo else if hi < x then hi else x

theorem lodgeref3_Cut_spec (N : Nat) (x lo hi : Int) : F_lodgeref3_Cut N x lo hi = some (cut x lo hi, ()) := by
  unfold F_lodgeref3_Cut cut
  by_cases h1 : x < lo
  · rw [if_pos h1]; exact cT h1 rfl
  rw [if_neg h1]
  refine cF h1 ?_
  by_cases h2 : hi < x
  · rw [if_pos h2]; exact cT h2 rfl
  rw [if_neg h2]
  exact cF h2 rfl

theorem cut_in {x lo hi : Int} (h : lo ≤ hi) : lo ≤ cut x lo hi ∧ cut x lo hi ≤ hi := by
  unfold cut
  split
  · omega
  · split <;> omega

def gaC (A B : List Int) (m w i : Nat) : Int := A.getD ((cut (B.getD (i / w) 0) 0 ((m : Int) - 1)).toNat * w + i % w) 0

theorem ga_idx {m w : Nat} (hm : 1 ≤ m) (hw : 1 ≤ w) (x : Int) (i : Nat) : (cut x 0 ((m : Int) - 1)).toNat * w + i % w < m * w := by
  have h := cut_in (x := x) (lo := 0) (hi := (m : Int) - 1) (by omega)
  have h2 : (cut x 0 ((m : Int) - 1)).toNat + 1 ≤ m := by omega
  have h3 := Nat.mul_le_mul_right w h2
  have h4 := Nat.mod_lt i (show 0 < w by omega)
  rw [Nat.add_mul] at h3
  omega

theorem element_gather {N : Nat} {m w k : Nat} (sa : a.1.1 = [(m : Int), (w : Int)]) (hm : 1 ≤ m ∧ m ≤ 256) (hw : 1 ≤ w ∧ w ≤ 256) (hl : a.2.length = m * w) (hb : b.2.length = k) (hk : k ≤ 256) {i : Nat} (hi : i < k * w) (d : D) (args : List Int) :
    F_lodgeref3_element N 17 args i [a, b] d = some (gaC a.2 b.2 m w i, ()) := by
  unfold F_lodgeref3_element
  (repeat first | refine bT rfl ?_ | refine bF rfl ?_)
  have hkw : k * w ≤ 256 * 256 := Nat.mul_le_mul hk hw.2
  have hmw : m * w ≤ 256 * 256 := Nat.mul_le_mul hm.2 hw.2
  have h1 : i / w < k := Nat.div_lt_of_lt_mul (by rw [Nat.mul_comm]; exact hi)
  have hq := ga_idx hm.1 hw.1 (b.2.getD (i / w) 0) i
  have hc := cut_in (x := b.2.getD (i / w) 0) (lo := 0) (hi := (m : Int) - 1) (by omega)
  simp only [List.getD_cons_zero, List.getD_cons_succ, sa, wi64_tdiv i w (show i ≤ 1099511627776 by omega), tmod_nat, Int.toNat_natCast, wi64_in (n := (m : Int) - 1) (by omega) (by omega)]
  refine cT (by simp) (cT (by simp) (cT (by omega) (cT (Int.natCast_nonneg _) (cT (by rw [hb]; exact h1) (cT (by simp) (bnd _ (lodgeref3_Cut_spec N _ _ _) ?_))))))
  unfold gaC
  obtain ⟨C, hC⟩ : ∃ C : Nat, cut (b.2.getD (i / w) 0) 0 ((m : Int) - 1) = (C : Int) := ⟨(cut (b.2.getD (i / w) 0) 0 ((m : Int) - 1)).toNat, by omega⟩
  rw [hC] at hq ⊢
  rw [Int.toNat_natCast] at hq ⊢
  have e : wi64 (wi64 ((C : Int) * w) + ((i % w : Nat) : Int)) = ((C * w + i % w : Nat) : Int) := wi64_row (by omega)
  simp only [e, Int.toNat_natCast]
  refine cT (by omega) (cT (Int.natCast_nonneg _) (cT (by rw [hl]; exact hq) rfl))

/-- the first of the greatest of the first ones -/
def am (f : Nat → Int) : Nat → Nat
  | 0 => 0
  | k + 1 => if f (am f k) < f k then k else am f k

theorem am_lt (f : Nat → Int) : ∀ k, 1 ≤ k → am f k < k
  | 0, h => by omega
  | 1, _ => by simp [am]
  | k + 2, _ => by
    have := am_lt f (k + 1) (by omega)
    rw [am]
    split <;> omega

theorem am_le (f : Nat → Int) : ∀ k, am f k ≤ k
  | 0 => Nat.le_refl _
  | k + 1 => by
    have := am_le f k
    rw [am]
    split <;> omega

def rowF (A : List Int) (n i j : Nat) : Int := A.getD (i * n + j) 0

theorem loop_re_1 (N : Nat) (op : Int) (hn : 1 ≤ n ∧ n ≤ 256) (hl : a.2.length = P * n) (hP : P * n ≤ 16384) (fA : ∀ p, -2147483648 ≤ a.2.getD p 0 ∧ a.2.getD p 0 ≤ 2147483647) {i : Nat} (hi : i < P) : ∀ (cnt j : Nat), j ≤ n → n < cnt + j →
    g_lodgeref3_element_1 N cnt op i (a, ()) n (am (rowF a.2 n i) j) (sumN (rowF a.2 n i) j) j = some (op, (((am (rowF a.2 n i) n : Nat) : Int), (sumN (rowF a.2 n i) n, ())))
  | 0, j, h1, h2 => by omega
  | cnt + 1, j, h1, h2 => by
    rw [g_lodgeref3_element_1]
    by_cases hj : j < n
    · have hr : i * n + n ≤ P * n := by
        have : (i + 1) * n ≤ P * n := Nat.mul_le_mul_right n hi
        rw [Nat.add_mul, Nat.one_mul] at this
        exact this
      have ha := am_le (rowF a.2 n i) j
      have e1 : wi64 (wi64 ((i : Int) * n) + j) = ((i * n + j : Nat) : Int) := wi64_row (by omega)
      have e2 : wi64 (wi64 ((i : Int) * n) + ((am (rowF a.2 n i) j : Nat) : Int)) = ((i * n + am (rowF a.2 n i) j : Nat) : Int) := wi64_row (by omega)
      have hs := sumN_bound (rowF a.2 n i) 2147483648 (fun j => by have := fA (i * n + j); unfold rowF; omega) j
      have hv := fA (i * n + j)
      have e3 : wi64 (sumN (rowF a.2 n i) j + a.2.getD (i * n + j) 0) = sumN (rowF a.2 n i) (j + 1) := by
        rw [wi64_in (by omega) (by omega)]
        rfl
      have ih := loop_re_1 N op hn hl hP fA hi cnt (j + 1) hj (by omega)
      simp only [e1, e2, e3, Int.toNat_natCast]
      refine cT (by omega) (cT (Int.natCast_nonneg _) (cT (by rw [hl]; omega) (cT (Int.natCast_nonneg _) (cT (by rw [hl]; omega) ?_))))
      rw [wi64_succ (by omega)]
      by_cases hlt : rowF a.2 n i (am (rowF a.2 n i) j) < rowF a.2 n i j
      · refine cT hlt ?_
        rw [am, if_pos hlt] at ih
        exact ih
      · refine cF hlt ?_
        rw [am, if_neg hlt] at ih
        exact ih
    · have : j = n := by omega
      subst this
      exact cF (by omega) rfl

theorem element_row {N : Nat} (hN : 20000 ≤ N) {pre : List Int} (sa : a.1.1 = pre ++ [(n : Int)]) (hpre : pre.length ≤ 10) (hn : 1 ≤ n ∧ n ≤ 256) (hl : a.2.length = P * n) (hP : P * n ≤ 16384) (fA : ∀ p, -2147483648 ≤ a.2.getD p 0 ∧ a.2.getD p 0 ≤ 2147483647) {i : Nat} (hi : i < P) (d : D) (args : List Int) :
    F_lodgeref3_element N 19 args i [a] d = some (((am (rowF a.2 n i) n : Nat) : Int), ()) ∧ F_lodgeref3_element N 20 args i [a] d = some (round32 (sumN (rowF a.2 n i) n), ()) := by
  have hlen : a.1.1.length = pre.length + 1 := by rw [sa]; simp
  have e : wi64 ((a.1.1.length : Int) - 1) = ((a.1.1.length - 1 : Nat) : Int) := by
    rw [wi64_in (by omega) (by omega)]; omega
  have eg : a.1.1.getD (a.1.1.length - 1) 0 = (n : Int) := by rw [sa]; exact getD_last _ _ _
  have h0 := fun op => loop_re_1 (a := a) (n := n) (P := P) N op hn hl hP fA hi N 0 (by omega) (by omega)
  simp only [am, sumN] at h0
  constructor
  · unfold F_lodgeref3_element
    (repeat first | refine bT rfl ?_ | refine bF rfl ?_)
    simp only [List.getD_cons_zero, e, Int.toNat_natCast, eg]
    refine cT (Int.natCast_nonneg _) (cT (by omega) (bnd _ (h0 19) ?_))
    rfl
  · unfold F_lodgeref3_element
    (repeat first | refine bT rfl ?_ | refine bF rfl ?_)
    simp only [List.getD_cons_zero, e, Int.toNat_natCast, eg]
    refine cT (Int.natCast_nonneg _) (cT (by omega) (bnd _ (h0 20) ?_))
    exact cT rfl (bnd _ (lodgeref3_Wide_spec N _) rfl)

end

/-! element by element, by the document -/

def kept (w : Bool) (n : Int) : Int := if w then round32 n else cut n (-128) 127

def requ (x m s z : Int) : Int :=
  cut ((if 0 < cut s 0 62 then (cut x (-2147483648) 2147483647 * cut m 0 2147483647 + 2 ^ ((cut s 0 62).toNat - 1)) / 2 ^ (cut s 0 62).toNat else cut x (-2147483648) 2147483647 * cut m 0 2147483647) + cut z (-128) 127) (-128) 127

def elV (op : Int) (w : Bool) (x y : Int) (args : List Int) : Int :=
  if op = 4 then kept w (x + y) else if op = 5 then kept w (x - y) else if op = 6 then kept w (x * y) else if op = 7 then max x y else if op = 8 then max x 0
  else if op = 9 then cut x (args.getD 0 0) (args.getD 1 0) else if op = 10 then requ x (args.getD 0 0) (args.getD 1 0) (args.getD 2 0) else if op = 11 then x - args.getD 0 0 else 0

def elN (op : Int) : Nat := if op = 9 then 2 else if op = 10 then 3 else if op = 11 then 1 else 0

theorem lodgeref3_kept_spec (N : Nat) (n : Int) (w : Bool) : F_lodgeref3_kept N n w = some (kept w n, ()) := by
  unfold F_lodgeref3_kept kept
  cases w
  · exact bF rfl (bnd _ (lodgeref3_Cut_spec N _ _ _) rfl)
  · exact bT rfl (bnd _ (lodgeref3_Wide_spec N _) rfl)

theorem pow_bound {s : Nat} (h : s ≤ 61) : (1 : Int) ≤ 2 ^ s ∧ (2 : Int) ^ s ≤ 2305843009213693952 := by
  have h1 : (2 : Nat) ^ s ≤ 2 ^ 61 := Nat.pow_le_pow_right (by omega) h
  have h2 : 1 ≤ (2 : Nat) ^ s := Nat.one_le_two_pow
  have e : ((2 : Int) ^ s) = ((2 ^ s : Nat) : Int) := by simp
  rw [e]
  constructor
  · omega
  · have : (2 : Nat) ^ 61 = 2305843009213693952 := by decide
    omega

theorem requ_prod (x m : Int) : -4611686018427387904 ≤ cut x (-2147483648) 2147483647 * cut m 0 2147483647 ∧ cut x (-2147483648) 2147483647 * cut m 0 2147483647 ≤ 4611686018427387904 := by
  have h1 := cut_in (x := x) (lo := -2147483648) (hi := 2147483647) (by omega)
  have h2 := cut_in (x := m) (lo := 0) (hi := 2147483647) (by omega)
  exact mul_abs (A := 2147483648) (B := 2147483648) (by omega) (by omega) (by omega) (by omega)

theorem shl_one {s : Nat} (h1 : 1 ≤ s) (h2 : s ≤ 62) : shlI IntKind.i64 1 (wu64 (wi64 ((s : Int) - 1))) = 2 ^ (s - 1) := by
  have e1 : wi64 ((s : Int) - 1) = ((s - 1 : Nat) : Int) := by rw [wi64_in (by omega) (by omega)]; omega
  have e2 : wu64 ((s - 1 : Nat) : Int) = ((s - 1 : Nat) : Int) := by
    show IntKind.wrap .u64 _ = _
    simp only [IntKind.wrap, IntKind.bits, IntKind.signed]
    simp
    omega
  have hb := pow_bound (s := s - 1) (by omega)
  rw [e1, e2]
  unfold shlI
  rw [show IntKind.bits .i64 = 64 from rfl, Int.toNat_natCast, Nat.min_eq_left (by omega), Int.one_mul]
  exact wi64_in (by omega) (by omega)

theorem shr_at {p : Int} {s : Nat} (h2 : s ≤ 62) : shrI IntKind.i64 p (wu64 (s : Int)) = p / 2 ^ s := by
  have e2 : wu64 (s : Int) = (s : Int) := by
    show IntKind.wrap .u64 _ = _
    simp only [IntKind.wrap, IntKind.bits, IntKind.signed]
    simp
    omega
  rw [e2]
  unfold shrI
  rw [show IntKind.bits .i64 = 64 from rfl, Int.toNat_natCast, Nat.min_eq_left (by omega), Int.fdiv_eq_ediv_of_nonneg]
  have : (0 : Int) < 2 ^ s := Int.pow_pos (by omega)
  omega

theorem cut_cut {q z : Int} (hz : -128 ≤ z ∧ z ≤ 127) : cut (cut q (-1099511627776) 1099511627776 + z) (-128) 127 = cut (q + z) (-128) 127 := by
  unfold cut
  repeat' split
  all_goals omega

theorem lodgeref3_Requant_spec (N : Nat) (x m s z : Int) : F_lodgeref3_Requant N x m s z = some (requ x m s z, ()) := by
  unfold F_lodgeref3_Requant requ
  refine bnd _ (lodgeref3_Cut_spec N _ _ _) (bnd _ (lodgeref3_Cut_spec N _ _ _) (bnd _ (lodgeref3_Cut_spec N _ _ _) ?_))
  have hs := cut_in (x := s) (lo := 0) (hi := 62) (by omega)
  have hz := cut_in (x := z) (lo := -128) (hi := 127) (by omega)
  have hp := requ_prod x m
  obtain ⟨S, hS⟩ : ∃ S : Nat, cut s 0 62 = (S : Int) := ⟨(cut s 0 62).toNat, by omega⟩
  rw [hS] at hs ⊢
  dsimp only
  generalize cut x (-2147483648) 2147483647 * cut m 0 2147483647 = p at *
  rw [wi64_in (n := p) (by omega) (by omega)]
  by_cases h0 : (0 : Int) < S
  · rw [if_pos h0]
    have hb := pow_bound (s := S - 1) (by omega)
    refine cT h0 ?_
    rw [shl_one (by omega) (by omega), wi64_in (n := p + 2 ^ (S - 1)) (by omega) (by omega), shr_at (by omega)]
    have u1 : ∀ n : Nat, n ≤ 64 → wu64 (n : Int) = (n : Int) := by
      intro n hn
      show IntKind.wrap .u64 _ = _
      simp only [IntKind.wrap, IntKind.bits, IntKind.signed]
      simp
      omega
    refine cT ?_ (cT ?_ ?_)
    · rw [show wi64 ((S : Int) - 1) = ((S - 1 : Nat) : Int) by rw [wi64_in (by omega) (by omega)]; omega, u1 _ (by omega)]
      omega
    · rw [u1 _ (by omega)]
      omega
    refine bnd _ (lodgeref3_Cut_spec N _ _ _) (bnd _ (lodgeref3_Cut_spec N _ _ _) ?_)
    have hc := cut_in (x := (p + 2 ^ (S - 1)) / 2 ^ S) (lo := -1099511627776) (hi := 1099511627776) (by omega)
    dsimp only
    rw [wi64_in (by omega) (by omega)]
    refine bnd _ (lodgeref3_Cut_spec N _ _ _) ?_
    rw [cut_cut hz, Int.toNat_natCast]
  · rw [if_neg h0]
    refine cF h0 (bnd _ (lodgeref3_Cut_spec N _ _ _) (bnd _ (lodgeref3_Cut_spec N _ _ _) ?_))
    have hc := cut_in (x := p) (lo := -1099511627776) (hi := 1099511627776) (by omega)
    dsimp only
    rw [wi64_in (by omega) (by omega)]
    refine bnd _ (lodgeref3_Cut_spec N _ _ _) ?_
    rw [cut_cut hz]

theorem lodgeref3_Value_spec (N : Nat) (op : Int) (w : Bool) {x y : Int} {args : List Int} (hx : -2147483648 ≤ x ∧ x ≤ 2147483647) (hy : -2147483648 ≤ y ∧ y ≤ 2147483647) (hargs : elN op ≤ args.length) (h11 : op = 11 → -2147483648 ≤ args.getD 0 0 ∧ args.getD 0 0 ≤ 2147483647) :
    F_lodgeref3_Value N op w x y args = some (elV op w x y args, ()) := by
  unfold F_lodgeref3_Value elV
  unfold elN at hargs
  by_cases h4 : op = 4
  · subst h4
    refine cT rfl ?_
    rw [if_pos rfl, wi64_in (by omega) (by omega)]
    exact bnd _ (lodgeref3_kept_spec N _ _) rfl
  refine cF h4 ?_
  rw [if_neg h4]
  by_cases h5 : op = 5
  · subst h5
    refine cT rfl ?_
    rw [if_pos rfl, wi64_in (by omega) (by omega)]
    exact bnd _ (lodgeref3_kept_spec N _ _) rfl
  refine cF h5 ?_
  rw [if_neg h5]
  by_cases h6 : op = 6
  · subst h6
    refine cT rfl ?_
    have hp := mul_abs (A := 2147483648) (B := 2147483648) (a := x) (b := y) (by omega) (by omega) (by omega) (by omega)
    rw [if_pos rfl, wi64_in (by omega) (by omega)]
    exact bnd _ (lodgeref3_kept_spec N _ _) rfl
  refine cF h6 ?_
  rw [if_neg h6]
  by_cases h7 : op = 7
  · subst h7
    refine cT rfl ?_
    rw [if_pos rfl, imax_eq']
  refine cF h7 ?_
  rw [if_neg h7]
  by_cases h8 : op = 8
  · subst h8
    refine cT rfl ?_
    rw [if_pos rfl, imax_eq']
  refine cF h8 ?_
  rw [if_neg h8]
  by_cases h9 : op = 9
  · subst h9
    rw [if_pos rfl] at hargs
    refine cT rfl (cT (by omega) (cT (by omega) ?_))
    rw [if_pos rfl]
    exact bnd _ (lodgeref3_Cut_spec N _ _ _) rfl
  refine cF h9 ?_
  rw [if_neg h9] at hargs ⊢
  by_cases h10 : op = 10
  · subst h10
    rw [if_pos rfl] at hargs
    refine cT rfl (cT (by omega) (cT (by omega) (cT (by omega) ?_)))
    rw [if_pos rfl]
    exact bnd _ (lodgeref3_Requant_spec N _ _ _ _) rfl
  refine cF h10 ?_
  rw [if_neg h10] at hargs ⊢
  by_cases h11' : op = 11
  · have hr := h11 h11'
    subst h11'
    rw [if_pos rfl] at hargs
    refine cT rfl (cT (by omega) ?_)
    rw [if_pos rfl, wi64_in (by omega) (by omega)]
  refine cF h11' ?_
  rw [if_neg h11']

/-- what an operation element by element makes of what looks so -/
def elK (op : Int) : Nat := if op = 4 ∨ op = 5 ∨ op = 6 ∨ op = 7 then 2 else 1

def elFair (op : Int) (args : List Int) (w : Bool) : Bool :=
  if op = 9 then fitsB w (args.getD 0 0) && fitsB w (args.getD 1 0) && decide (args.getD 0 0 ≤ args.getD 1 0)
  else if op = 10 then decide (0 ≤ args.getD 0 0) && decide (args.getD 0 0 ≤ 2147483647) && decide (0 ≤ args.getD 1 0) && decide (args.getD 1 0 ≤ 62) && narrowB (args.getD 2 0)
  else if op = 11 then narrowB (args.getD 0 0) else true

def elWide (op : Int) (w : Bool) : Bool := if op = 10 then false else if op = 11 then true else w

def elemRes (op : Int) (args : List Int) (ins : List D) : D × Er :=
  if ¬ (4 ≤ op ∧ op ≤ 11) then (noD, .s ErrKind)
  else if args.length ≠ elN op ∨ ins.length ≠ elK op then (noD, .s ErrShape)
  else if !(firstBad ins).isNil then (noD, firstBad ins)
  else if elK op = 2 ∧ ins.getD 0 noD ≠ ins.getD 1 noD ∨ op = 10 ∧ (ins.getD 0 noD).2 = false ∨ op = 11 ∧ (ins.getD 0 noD).2 = true then (noD, .s ErrShape)
  else if elFair op args (ins.getD 0 noD).2 = false then (noD, .s ErrRange)
  else (((ins.getD 0 noD).1, elWide op (ins.getD 0 noD).2), .nil)

theorem elemRes_bare (op : Int) (args : List Int) (ins : List D) : bareE (elemRes op args ins).2 := by
  unfold elemRes
  repeat' split
  all_goals first | exact True.intro | (dsimp only; exact firstBad_bare _)

theorem elemRes_OK (op : Int) (args : List Int) (ins : List D) : erOK (elemRes op args ins).2 := by
  unfold elemRes
  repeat' split
  all_goals first | exact True.intro | exact (show ErrShape < 21 by decide) | exact (show ErrKind < 21 by decide) | exact (show ErrRange < 21 by decide) | (dsimp only; exact firstBad_OK _)

end Go.Proofs.YtmbcbocnncfpbaaDoor.Lg
