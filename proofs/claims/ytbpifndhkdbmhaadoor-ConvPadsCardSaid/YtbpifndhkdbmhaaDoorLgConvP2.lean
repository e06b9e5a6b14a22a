/-
  What the program's functions come to, in plain words.
-/
import Derived.Test.YtbpifndhkdbmhaaDoorLgConvP
namespace Go.Proofs.YtbpifndhkdbmhaaDoor.Lg
open Go Go.Eng Go.Proofs

theorem conv_of_1_spec (N : Nat) (i : Nat) (t : T) (h : i < t.2.length) : F_conv_of_1 N (i : Int) t = some (t.2.getD i 0, ()) := by
  unfold F_conv_of_1
  refine cT (by omega) ?_
  refine cT (by simpa using h) ?_
  simp

/-- what a convolution is made of -/
structure ConvOK (a k : T) (za : Int) (h w c kh kw n s p : Nat) : Prop where
  hh : 1 ≤ h ∧ h ≤ 256
  hw : 1 ≤ w ∧ w ≤ 256
  hc : 1 ≤ c ∧ c ≤ 256
  hkh : 1 ≤ kh ∧ kh ≤ 256
  hkw : 1 ≤ kw ∧ kw ≤ 256
  hn : 1 ≤ n ∧ n ≤ 256
  hs : 1 ≤ s ∧ s ≤ 16
  hp : p ≤ 15
  sa : a.1.1 = [(h : Int), (w : Int), (c : Int)]
  sk : k.1.1 = [(kh : Int), (kw : Int), (c : Int), (n : Int)]
  hA : a.2.length = h * w * c
  hK : k.2.length = kh * kw * c * n
  bA : h * w * c ≤ 16384
  bK : kh * kw * c * n ≤ 16384
  fA : ∀ p, -128 ≤ a.2.getD p 0 ∧ a.2.getD p 0 ≤ 127
  fK : ∀ p, -128 ≤ k.2.getD p 0 ∧ k.2.getD p 0 ≤ 127
  hza : -128 ≤ za ∧ za ≤ 127

/-- one of its parts -/
def cvP (A K : List Int) (za : Int) (w c kw n r q dy dx o ch : Nat) : Int := (A.getD ((r * w + q) * c + ch) 0 - za) * K.getD (((dy * kw + dx) * c + ch) * n + o) 0
/-- what one of the kernel's places gives -/
def cvT (A K : List Int) (za : Int) (h w c kw n s p y x o dy dx : Nat) : Int :=
  if p ≤ y * s + dy ∧ y * s + dy - p < h ∧ p ≤ x * s + dx ∧ x * s + dx - p < w then sumN (cvP A K za w c kw n (y * s + dy - p) (x * s + dx - p) dy dx o) c else 0
/-- an element, by its place -/
def cvS (A K : List Int) (za : Int) (h w c kh kw n s p y x o : Nat) : Int := sumN (fun dy => sumN (cvT A K za h w c kw n s p y x o dy) kw) kh
def cvC (A K : List Int) (za : Int) (h w c kh kw n s p ow i : Nat) : Int := round32 (cvS A K za h w c kh kw n s p (i / n / ow) (i / n % ow) (i % n))

section
variable {a k : T} {za : Int} {h w c kh kw n s p : Nat}

theorem ConvOK.part (H : ConvOK a k za h w c kh kw n s p) (r q dy dx o ch : Nat) : -32640 ≤ cvP a.2 k.2 za w c kw n r q dy dx o ch ∧ cvP a.2 k.2 za w c kw n r q dy dx o ch ≤ 32640 := by
  have h1 := H.fA ((r * w + q) * c + ch)
  have h2 := H.fK (((dy * kw + dx) * c + ch) * n + o)
  have h3 := H.hza
  exact mul_abs (A := 255) (B := 128) (by omega) (by omega) (by omega) (by omega)

theorem ConvOK.place (H : ConvOK a k za h w c kh kw n s p) (y x o dy dx : Nat) : -8355840 ≤ cvT a.2 k.2 za h w c kw n s p y x o dy dx ∧ cvT a.2 k.2 za h w c kw n s p y x o dy dx ≤ 8355840 := by
  unfold cvT
  have := H.hc
  split
  · have := sumN_bound (cvP a.2 k.2 za w c kw n (y * s + dy - p) (x * s + dx - p) dy dx o) 32640 (fun ch => H.part _ _ _ _ _ ch) c
    omega
  · omega

theorem ConvOK.row (H : ConvOK a k za h w c kh kw n s p) (y x o dy : Nat) : -2139095040 ≤ sumN (cvT a.2 k.2 za h w c kw n s p y x o dy) kw ∧ sumN (cvT a.2 k.2 za h w c kw n s p y x o dy) kw ≤ 2139095040 := by
  have := H.hkw
  have := sumN_bound (cvT a.2 k.2 za h w c kw n s p y x o dy) 8355840 (fun dx => H.place y x o dy dx) kw
  omega

theorem three_idx {a b c i j k : Nat} (hi : i < a) (hj : j < b) (hk : k < c) : (i * b + j) * c + k < a * b * c := by
  have h1 : i * b + j < a * b := by
    have : (i + 1) * b ≤ a * b := Nat.mul_le_mul_right b hi
    rw [Nat.add_mul] at this
    omega
  have : (i * b + j + 1) * c ≤ a * b * c := Nat.mul_le_mul_right c h1
  rw [Nat.add_mul] at this
  omega

theorem idx_key {P X p q dx : Nat} (hP : P ≤ 256 * 256) (hX : X ≤ 1000000) (hp : p ≤ 15) (h : q + p = X + dx) (hq : q ≤ 1000000 := by omega) : wi64 (wi64 ((P : Int) + ((X : Int) - p)) + dx) = ((P + q : Nat) : Int) := by
  rw [wi64_in (n := (P : Int) + ((X : Int) - p)) (by omega) (by omega), wi64_in (by omega) (by omega)]
  omega

theorem loop_At_2 (H : ConvOK a k za h w c kh kw n s p) (N : Nat) {y x o dy dx : Nat} (ho : o < n) (hy : y * s ≤ 1000000) (hx : x * s ≤ 1000000) (hdy : dy < kh) (hdx : dx < kw)
    (hin : p ≤ y * s + dy ∧ y * s + dy - p < h ∧ p ≤ x * s + dx ∧ x * s + dx - p < w) (dyTo dxFrom dxTo s0 : Int) (hs0 : -1000000000000 ≤ s0 ∧ s0 ≤ 1000000000000) : ∀ (cnt ch : Nat), ch ≤ c → c < cnt + ch →
    g_conv_At_2 N cnt a.1.1 k.1.1 a k za c n o ((y : Int) * s - p) ((x : Int) * s - p) dyTo dxFrom dxTo (s0 + sumN (cvP a.2 k.2 za w c kw n (y * s + dy - p) (x * s + dx - p) dy dx o) ch) dy dx c ch =
      some (a.1.1, (k.1.1, (a, (k, (za, ((c : Int), ((n : Int), ((o : Int), ((y : Int) * s - p, ((x : Int) * s - p, (dyTo, (dxFrom, (dxTo, (s0 + sumN (cvP a.2 k.2 za w c kw n (y * s + dy - p) (x * s + dx - p) dy dx o) c, ((dy : Int), ((dx : Int), ()))))))))))))))))
  | 0, ch, h1, h2 => by omega
  | cnt + 1, ch, h1, h2 => by
    rw [g_conv_At_2]
    by_cases hch : ch < c
    · refine cT (by omega) ?_
      have hh := H.hh
      have hw := H.hw
      have hc := H.hc
      have hn := H.hn
      have hp := H.hp
      obtain ⟨r, hr⟩ : ∃ r, r = y * s + dy - p := ⟨_, rfl⟩
      obtain ⟨q, hq⟩ : ∃ q, q = x * s + dx - p := ⟨_, rfl⟩
      rw [← hr, ← hq] at hin ⊢
      have h3 := three_idx (a := h) (b := w) (c := c) (i := r) (j := q) (k := ch) (by omega) (by omega) hch
      have h4 := three_idx (a := kh) (b := kw) (c := c) (i := dy) (j := dx) (k := ch) hdy hdx hch
      have h5 : ((dy * kw + dx) * c + ch) * n + o < kh * kw * c * n := by
        have : ((dy * kw + dx) * c + ch + 1) * n ≤ kh * kw * c * n := Nat.mul_le_mul_right n h4
        rw [Nat.add_mul] at this
        omega
      have bA := H.bA
      have bK := H.bK
      have hrw : r * w ≤ 256 * 256 := Nat.mul_le_mul (by omega) hw.2
      have e1 : (y : Int) * s = ((y * s : Nat) : Int) := by simp
      have e2 : (x : Int) * s = ((x * s : Nat) : Int) := by simp
      have g1 : List.getD a.1.1 1 0 = (w : Int) := by rw [H.sa]; rfl
      have g2 : List.getD k.1.1 1 0 = (kw : Int) := by rw [H.sk]; rfl
      have i1 : wi64 ((y : Int) * s - p + dy) = (r : Int) := by rw [e1, wi64_in (by omega) (by omega)]; omega
      have i2 : wi64 (wi64 (wi64 ((r : Int) * w) + ((x : Int) * s - p)) + dx) = ((r * w + q : Nat) : Int) := by
        rw [wi64_mul (by omega), e2]
        exact idx_key hrw hx hp (by omega)
      have hP : r * w + q ≤ 100000 := by
        generalize r * w = P at *
        omega
      have i3 : wi64 (wi64 (((r * w + q : Nat) : Int) * c) + ch) = (((r * w + q) * c + ch : Nat) : Int) := wi64_row (by omega)
      have i4 : wi64 (wi64 ((dy : Int) * kw) + dx) = ((dy * kw + dx : Nat) : Int) := by
        have : dy * kw ≤ 256 * 256 := Nat.mul_le_mul (by have := H.hkh; omega) H.hkw.2
        have := H.hkw
        exact wi64_row (by omega)
      have i5 : wi64 (wi64 (((dy * kw + dx : Nat) : Int) * c) + ch) = (((dy * kw + dx) * c + ch : Nat) : Int) := by
        refine wi64_row ?_
        have : (dy * kw + dx) * c + ch ≤ ((dy * kw + dx) * c + ch) * n := Nat.le_mul_of_pos_right _ (by omega)
        omega
      have i6 : wi64 (wi64 ((((dy * kw + dx) * c + ch : Nat) : Int) * n) + o) = ((((dy * kw + dx) * c + ch) * n + o : Nat) : Int) := wi64_row (by omega)
      refine cT (by rw [H.sa]; simp) ?_
      refine bnd _ (by rw [g1, i1, i2, i3]; exact conv_of_1_spec N _ a (by rw [H.hA]; exact h3)) ?_
      refine cT (by rw [H.sk]; simp) ?_
      refine bnd _ (by rw [g2, i4, i5, i6]; exact conv_of_1_spec N _ k (by rw [H.hK]; exact h5)) ?_
      have f1 := H.fA ((r * w + q) * c + ch)
      have f2 := H.fK (((dy * kw + dx) * c + ch) * n + o)
      have f3 := H.hza
      have f4 := H.part r q dy dx o ch
      have f5 := sumN_bound (cvP a.2 k.2 za w c kw n r q dy dx o) 32640 (fun ch => H.part r q dy dx o ch) ch
      have e3 : wi64 (s0 + sumN (cvP a.2 k.2 za w c kw n r q dy dx o) ch + wi64 (wi64 (a.2.getD ((r * w + q) * c + ch) 0 - za) * k.2.getD (((dy * kw + dx) * c + ch) * n + o) 0)) = s0 + sumN (cvP a.2 k.2 za w c kw n r q dy dx o) (ch + 1) := by
        have : wi64 (wi64 (a.2.getD ((r * w + q) * c + ch) 0 - za) * k.2.getD (((dy * kw + dx) * c + ch) * n + o) 0) = cvP a.2 k.2 za w c kw n r q dy dx o ch := by
          unfold cvP at f4 ⊢
          rw [wi64_in (n := a.2.getD ((r * w + q) * c + ch) 0 - za) (by omega) (by omega), wi64_in (by omega) (by omega)]
        rw [this, wi64_in (by omega) (by omega)]
        simp only [sumN]
        omega
      simp only [e3]
      rw [wi64_succ (by omega)]
      have := loop_At_2 H N ho hy hx hdy hdx (by rw [← hr, ← hq]; exact hin) dyTo dxFrom dxTo s0 hs0 cnt (ch + 1) hch (by omega)
      rw [← hr, ← hq] at this
      exact this
    · have : ch = c := by omega
      subst this
      exact cF (by omega) rfl

theorem loop_At_1 (H : ConvOK a k za h w c kh kw n s p) {N : Nat} (hN : 20000 ≤ N) {y x o dy : Nat} (ho : o < n) (hy : y * s ≤ 1000000) (hx : x * s ≤ 1000000) (hdy : dy < kh)
    (hin : p ≤ y * s + dy ∧ y * s + dy - p < h) {f t : Nat} (hft : f ≤ t ∧ t ≤ kw) (hi : ∀ dx, dx < kw → ((f ≤ dx ∧ dx < t) ↔ (p ≤ x * s + dx ∧ x * s + dx - p < w))) (dyTo s0 : Int) (hs0 : -900000000000 ≤ s0 ∧ s0 ≤ 900000000000) : ∀ (cnt dx : Nat), f ≤ dx → dx ≤ t → t < cnt + dx →
    g_conv_At_1 N cnt a.1.1 k.1.1 a k za c n o ((y : Int) * s - p) ((x : Int) * s - p) dyTo f t (s0 + sumN (cvT a.2 k.2 za h w c kw n s p y x o dy) dx) dy dx =
      some (a.1.1, (k.1.1, (a, (k, (za, ((c : Int), ((n : Int), ((o : Int), ((y : Int) * s - p, ((x : Int) * s - p, (dyTo, ((f : Int), ((t : Int), (s0 + sumN (cvT a.2 k.2 za h w c kw n s p y x o dy) t, (((dy + 1 : Nat) : Int), ())))))))))))))))
  | 0, dx, h0, h1, h2 => by omega
  | cnt + 1, dx, h0, h1, h2 => by
    have hkh := H.hkh
    have hkw := H.hkw
    rw [g_conv_At_1]
    by_cases hd : dx < t
    · refine cF (by omega) ?_
      obtain ⟨g1, g2⟩ := (hi dx (by omega)).1 ⟨h0, hd⟩
      have f5 := sumN_bound (cvT a.2 k.2 za h w c kw n s p y x o dy) 8355840 (fun q => H.place y x o dy q) dx
      have h3 := loop_At_2 H N ho hy hx hdy (show dx < kw by omega) ⟨hin.1, hin.2, g1, g2⟩ dyTo f t (s0 + sumN (cvT a.2 k.2 za h w c kw n s p y x o dy) dx) (by omega) N 0 (by omega) (by have := H.hc; omega)
      simp only [sumN] at h3
      rw [Int.add_zero, show ((0 : Nat) : Int) = 0 from rfl] at h3
      refine bnd _ h3 ?_
      have e : s0 + sumN (cvT a.2 k.2 za h w c kw n s p y x o dy) dx + sumN (cvP a.2 k.2 za w c kw n (y * s + dy - p) (x * s + dx - p) dy dx o) c = s0 + sumN (cvT a.2 k.2 za h w c kw n s p y x o dy) (dx + 1) := by
        have : cvT a.2 k.2 za h w c kw n s p y x o dy dx = sumN (cvP a.2 k.2 za w c kw n (y * s + dy - p) (x * s + dx - p) dy dx o) c := by
          unfold cvT
          rw [if_pos ⟨hin.1, hin.2, g1, g2⟩]
        simp only [sumN, this]
        omega
      simp only [e]
      rw [wi64_succ (by omega)]
      exact loop_At_1 H hN ho hy hx hdy hin hft hi dyTo s0 hs0 cnt (dx + 1) (by omega) hd (by omega)
    · have : dx = t := by omega
      subst this
      refine cT (by omega) ?_
      rw [wi64_succ (by omega)]

theorem sumN_zero {f : Nat → Int} : ∀ {k : Nat}, (∀ x, x < k → f x = 0) → sumN f k = 0
  | 0, _ => rfl
  | k + 1, h => by simp only [sumN]; rw [sumN_zero (fun x hx => h x (by omega)), h k (by omega)]; rfl

theorem sumN_cut {f : Nat → Int} {t : Nat} : ∀ {k : Nat}, t ≤ k → (∀ x, t ≤ x → x < k → f x = 0) → sumN f k = sumN f t
  | 0, h, _ => by
    have : t = 0 := by omega
    rw [this]
  | k + 1, h, hz => by
    by_cases he : t = k + 1
    · rw [he]
    · simp only [sumN]
      rw [sumN_cut (by omega) (fun x h1 h2 => hz x h1 (by omega)), hz k (by omega) (by omega), Int.add_zero]

theorem loop_At_0 (H : ConvOK a k za h w c kh kw n s p) {N : Nat} (hN : 20000 ≤ N) {y x o : Nat} (ho : o < n) (hy : y * s ≤ 1000000) (hx : x * s ≤ 1000000)
    {F T0 : Nat} (hFT : F ≤ T0 ∧ T0 ≤ kh) (hI : ∀ dy, dy < kh → ((F ≤ dy ∧ dy < T0) ↔ (p ≤ y * s + dy ∧ y * s + dy - p < h))) {f t : Nat} (hft : f ≤ t ∧ t ≤ kw) (hi : ∀ dx, dx < kw → ((f ≤ dx ∧ dx < t) ↔ (p ≤ x * s + dx ∧ x * s + dx - p < w))) : ∀ (cnt dy : Nat), F ≤ dy → dy ≤ T0 → T0 < cnt + dy →
    g_conv_At_0 N cnt a.1.1 k.1.1 a k za c n o ((y : Int) * s - p) ((x : Int) * s - p) T0 f t (sumN (fun dy => sumN (cvT a.2 k.2 za h w c kw n s p y x o dy) kw) dy) dy =
      some (sumN (fun dy => sumN (cvT a.2 k.2 za h w c kw n s p y x o dy) kw) T0, ())
  | 0, dy, h0, h1, h2 => by omega
  | cnt + 1, dy, h0, h1, h2 => by
    have hkh := H.hkh
    have hkw := H.hkw
    rw [g_conv_At_0]
    by_cases hd : dy < T0
    · refine cT (by omega) ?_
      have hin := (hI dy (by omega)).1 ⟨h0, hd⟩
      have f5 := sumN_bound (fun dy => sumN (cvT a.2 k.2 za h w c kw n s p y x o dy) kw) 2139095040 (fun q => H.row y x o q) dy
      have z1 : sumN (cvT a.2 k.2 za h w c kw n s p y x o dy) f = 0 := sumN_zero fun dx hdx => by
        unfold cvT
        rw [if_neg]
        rintro ⟨_, _, g1, g2⟩
        have := (hi dx (by omega)).2 ⟨g1, g2⟩
        omega
      have z2 : sumN (cvT a.2 k.2 za h w c kw n s p y x o dy) kw = sumN (cvT a.2 k.2 za h w c kw n s p y x o dy) t := sumN_cut hft.2 fun dx g0 hdx => by
        unfold cvT
        rw [if_neg]
        rintro ⟨_, _, g1, g2⟩
        have := (hi dx hdx).2 ⟨g1, g2⟩
        omega
      have h3 := loop_At_1 H hN ho hy hx (show dy < kh by omega) hin hft hi T0 (sumN (fun dy => sumN (cvT a.2 k.2 za h w c kw n s p y x o dy) kw) dy) (by omega) N f (Nat.le_refl _) hft.1 (by omega)
      rw [z1, Int.add_zero] at h3
      refine bnd _ h3 ?_
      have e : sumN (fun dy => sumN (cvT a.2 k.2 za h w c kw n s p y x o dy) kw) dy + sumN (cvT a.2 k.2 za h w c kw n s p y x o dy) t = sumN (fun dy => sumN (cvT a.2 k.2 za h w c kw n s p y x o dy) kw) (dy + 1) := by
        rw [← z2]
        rfl
      simp only [e]
      exact loop_At_0 H hN ho hy hx hFT hI hft hi cnt (dy + 1) (by omega) hd (by omega)
    · have : dy = T0 := by omega
      subst this
      exact cF (by omega) rfl

/-- AN ELEMENT -/
theorem conv_At_spec (H : ConvOK a k za h w c kh kw n s p) {N : Nat} (hN : 20000 ≤ N) {ow : Nat} (how : 1 ≤ ow ∧ ow ≤ 256) {i : Nat} (hi : i ≤ 20000) :
    F_conv_At N [(s : Int), (p : Int), za] a.1.1 k.1.1 a k i ow = some (cvC a.2 k.2 za h w c kh kw n s p ow i, ()) := by
  have hh := H.hh
  have hw := H.hw
  have hc := H.hc
  have hn := H.hn
  have hs := H.hs
  have hp := H.hp
  have hkh := H.hkh
  have hkw := H.hkw
  unfold F_conv_At
  rw [show List.getD [(s : Int), (p : Int), za] 0 0 = (s : Int) from rfl, show List.getD [(s : Int), (p : Int), za] 1 0 = (p : Int) from rfl, show List.getD [(s : Int), (p : Int), za] 2 0 = za from rfl]
  have a0 : List.getD a.1.1 0 0 = (h : Int) := by rw [H.sa]; rfl
  have a1 : List.getD a.1.1 1 0 = (w : Int) := by rw [H.sa]; rfl
  have a2 : List.getD a.1.1 2 0 = (c : Int) := by rw [H.sa]; rfl
  have k0 : List.getD k.1.1 0 0 = (kh : Int) := by rw [H.sk]; rfl
  have k1 : List.getD k.1.1 1 0 = (kw : Int) := by rw [H.sk]; rfl
  have k3 : List.getD k.1.1 3 0 = (n : Int) := by rw [H.sk]; rfl
  have la : a.1.1.length = 3 := by rw [H.sa]; rfl
  have lk : k.1.1.length = 4 := by rw [H.sk]; rfl
  have tdiv : ∀ u v : Nat, u ≤ 20000 → wi64 (Int.tdiv (u : Int) (v : Int)) = ((u / v : Nat) : Int) := by
    intro u v hu
    rw [show Int.tdiv (u : Int) (v : Int) = ((u / v : Nat) : Int) from (Int.ofNat_tdiv u v).symm]
    have := Nat.div_le_self u v
    generalize u / v = q at *
    exact wi64_in (by omega) (by omega)
  have d1 : i / n ≤ i := Nat.div_le_self i n
  have d2 : i / n / ow ≤ i / n := Nat.div_le_self _ _
  have d3 : i / n % ow < ow := Nat.mod_lt _ (by omega)
  have d4 : i % n < n := Nat.mod_lt _ (by omega)
  simp only [a0, a1, a2, k0, k1, k3, la, lk, tmod_nat, tdiv i n hi, tdiv (i / n) ow (by omega)]
  obtain ⟨y, hy⟩ : ∃ y, y = i / n / ow := ⟨_, rfl⟩
  obtain ⟨x, hx⟩ : ∃ x, x = i / n % ow := ⟨_, rfl⟩
  obtain ⟨o, ho⟩ : ∃ o, o = i % n := ⟨_, rfl⟩
  unfold cvC
  rw [← hy, ← hx, ← ho]
  rw [← ho] at d4
  rw [← hy] at d2
  rw [← hx] at d3
  have ys : y * s ≤ 20000 * 16 := Nat.mul_le_mul (by omega) hs.2
  have xs : x * s ≤ 256 * 16 := Nat.mul_le_mul (by omega) hs.2
  have ysI : (y : Int) * s = ((y * s : Nat) : Int) := by simp
  have xsI : (x : Int) * s = ((x * s : Nat) : Int) := by simp
  have top : wi64 (wi64 ((y : Int) * s) - p) = (y : Int) * s - p := by rw [wi64_mul (by omega), wi64_in (by omega) (by omega), ysI]
  have left : wi64 (wi64 ((x : Int) * s) - p) = (x : Int) * s - p := by rw [wi64_mul (by omega), wi64_in (by omega) (by omega), xsI]
  obtain ⟨b1, b2, b3⟩ := ins_bounds h kh s p y (by omega)
  obtain ⟨c1, c2, c3⟩ := ins_bounds w kw s p x (by omega)
  obtain ⟨F, hF⟩ : ∃ F : Nat, insA h kh s p y = (F : Int) := ⟨(insA h kh s p y).toNat, by omega⟩
  obtain ⟨T0, hT0⟩ : ∃ T0 : Nat, insB h kh s p y = (T0 : Int) := ⟨(insB h kh s p y).toNat, by omega⟩
  obtain ⟨f, hf⟩ : ∃ f : Nat, insA w kw s p x = (f : Int) := ⟨(insA w kw s p x).toNat, by omega⟩
  obtain ⟨t, ht⟩ : ∃ t : Nat, insB w kw s p x = (t : Int) := ⟨(insB w kw s p x).toNat, by omega⟩
  have hI : ∀ dy, dy < kh → ((F ≤ dy ∧ dy < T0) ↔ (p ≤ y * s + dy ∧ y * s + dy - p < h)) := by
    intro dy hdy
    have := ins_iff h kh s p y dy (by omega)
    rw [hF, hT0, ysI] at this
    constructor
    · intro g
      have := this.1 (by omega)
      omega
    · intro g
      have := this.2 (by omega)
      omega
  have hi' : ∀ dx, dx < kw → ((f ≤ dx ∧ dx < t) ↔ (p ≤ x * s + dx ∧ x * s + dx - p < w)) := by
    intro dx hdx
    have := ins_iff w kw s p x dx (by omega)
    rw [hf, ht, xsI] at this
    constructor
    · intro g
      have := this.1 (by omega)
      omega
    · intro g
      have := this.2 (by omega)
      omega
  rw [hF, hT0] at b2
  rw [hT0] at b3
  rw [hf, ht] at c2
  rw [ht] at c3
  refine cT (by simp) ?_
  refine cT (by simp) ?_
  refine cT (by simp) ?_
  refine cT (by omega) ?_
  refine cT (by omega) ?_
  refine cT (by omega) ?_
  refine cT (by omega) ?_
  refine cT (by omega) ?_
  refine cT (by omega) ?_
  refine cT (by omega) ?_
  refine cT (by omega) ?_
  refine cT (by omega) ?_
  refine bnd _ (conv_Inside_ab N h kh s p y (by omega) (by omega) (by omega) (by omega) (by omega)) ?_
  refine cT (by omega) ?_
  refine cT (by omega) ?_
  refine bnd _ (conv_Inside_ab N w kw s p x (by omega) (by omega) (by omega) (by omega) (by omega)) ?_
  rw [hF, hT0, hf, ht, top, left]
  have z1 : sumN (fun dy => sumN (cvT a.2 k.2 za h w c kw n s p y x o dy) kw) F = 0 := sumN_zero fun dy hdy => sumN_zero fun dx hdx => by
    unfold cvT
    rw [if_neg]
    rintro ⟨g1, g2, _, _⟩
    have := (hI dy (by omega)).2 ⟨g1, g2⟩
    omega
  have z2 : cvS a.2 k.2 za h w c kh kw n s p y x o = sumN (fun dy => sumN (cvT a.2 k.2 za h w c kw n s p y x o dy) kw) T0 := sumN_cut (by omega) fun dy g0 hdy => sumN_zero fun dx hdx => by
    unfold cvT
    rw [if_neg]
    rintro ⟨g1, g2, _, _⟩
    have := (hI dy hdy).2 ⟨g1, g2⟩
    omega
  have h0 := loop_At_0 H hN d4 (by omega) (by omega) ⟨by omega, by omega⟩ hI ⟨by omega, by omega⟩ hi' N F (Nat.le_refl _) (by omega) (by omega)
  rw [z1] at h0
  refine bnd _ h0 ?_
  refine bnd _ (tens_Wide_spec N _) ?_
  rw [z2]

end

end Go.Proofs.YtbpifndhkdbmhaaDoor.Lg
