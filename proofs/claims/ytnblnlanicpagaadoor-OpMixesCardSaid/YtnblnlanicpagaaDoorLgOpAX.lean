/-
  What the program's functions come to, in plain words.
-/
import Derived.Test.YtnblnlanicpagaaDoorLgOpAW
namespace Go.Proofs.YtnblnlanicpagaaDoor.Lg
open Go Go.Eng Go.Proofs

theorem imax_eq (a b : Int) : imax a b = max a b := by
  unfold imax
  split <;> omega

theorem imin_eq (a b : Int) : imin a b = min a b := by
  unfold imin
  split <;> omega

/-- which of a kernel's places lie inside: of numbers that are small -/
def insF (s p o : Int) : Int := max 0 (p - o * s)

def insT (n k s p o : Int) : Int := min k (n - (o * s - p))

theorem conv_Inside_zero (N : Nat) (n k s p o : Int) (h : n < 0 ∨ p < 0 ∨ o < 0 ∨ k < 1 ∨ n < 1 ∨ s < 1) : F_conv_Inside N n k s p o = some (0, (0, ())) := by
  unfold F_conv_Inside
  simp only [cond_dec]
  by_cases h1 : n < 0
  · rw [if_pos h1]
  rw [if_neg h1]
  by_cases h2 : p < 0
  · rw [if_pos h2]
  rw [if_neg h2]
  by_cases h3 : o < 0
  · rw [if_pos h3]
  rw [if_neg h3]
  by_cases h4 : k < 1
  · rw [if_pos h4]
  rw [if_neg h4]
  by_cases h5 : n < 1
  · rw [if_pos h5]
  rw [if_neg h5]
  rw [if_pos (by omega)]

theorem conv_Inside_spec (N : Nat) (n k s p o : Int) (hn : 1 ≤ n ∧ n ≤ 1048576) (hk : 1 ≤ k ∧ k ≤ 1048576) (hs : 1 ≤ s ∧ s ≤ 1048576) (hp : 0 ≤ p ∧ p ≤ 1048576) (ho : 0 ≤ o ∧ o ≤ 1048576) :
    F_conv_Inside N n k s p o = some (if insT n k s p o ≤ insF s p o then (0, (0, ())) else (insF s p o, (insT n k s p o, ()))) := by
  have hos : 0 ≤ o * s ∧ o * s ≤ 1048576 * 1048576 := ⟨Int.mul_nonneg (by omega) (by omega), Int.mul_le_mul ho.2 hs.2 (by omega) (by omega)⟩
  unfold F_conv_Inside
  refine cF (by omega) ?_
  refine cF (by omega) ?_
  refine cF (by omega) ?_
  refine cF (by omega) ?_
  refine cF (by omega) ?_
  refine cF (by omega) ?_
  refine cF (by simp only [imax_eq]; omega) ?_
  have e0 : wi64 (o * s) = o * s := wi64_in (by omega) (by omega)
  have e1 : wi64 (o * s - p) = o * s - p := wi64_in (by omega) (by omega)
  have e2 : wi64 (n - (o * s - p)) = n - (o * s - p) := wi64_in (by omega) (by omega)
  have e3 : wi64 (0 - (o * s - p)) = p - o * s := by rw [wi64_in (by omega) (by omega)]; omega
  simp only [e0, e1, e2, e3, imax_eq, imin_eq, cond_dec]
  unfold insT insF
  by_cases h : min k (n - (o * s - p)) ≤ max 0 (p - o * s)
  · rw [if_pos h, if_pos h]
  · rw [if_neg h, if_neg h]

/-- both ends -/
def insA (n k s p o : Int) : Int := if insT n k s p o ≤ insF s p o then 0 else insF s p o

def insB (n k s p o : Int) : Int := if insT n k s p o ≤ insF s p o then 0 else insT n k s p o

theorem conv_Inside_ab (N : Nat) (n k s p o : Int) (hn : 1 ≤ n ∧ n ≤ 1048576) (hk : 1 ≤ k ∧ k ≤ 1048576) (hs : 1 ≤ s ∧ s ≤ 1048576) (hp : 0 ≤ p ∧ p ≤ 1048576) (ho : 0 ≤ o ∧ o ≤ 1048576) :
    F_conv_Inside N n k s p o = some (insA n k s p o, (insB n k s p o, ())) := by
  rw [conv_Inside_spec N n k s p o hn hk hs hp ho]
  unfold insA insB
  split <;> rfl

theorem ins_bounds (n k s p o : Int) (hk : 1 ≤ k) : 0 ≤ insA n k s p o ∧ insA n k s p o ≤ insB n k s p o ∧ insB n k s p o ≤ k := by
  unfold insA insB insF insT
  split <;> omega

theorem ins_iff (n k s p o d : Int) (hd : 0 ≤ d ∧ d < k) : (insA n k s p o ≤ d ∧ d < insB n k s p o) ↔ (0 ≤ o * s - p + d ∧ o * s - p + d < n) := by
  unfold insA insB insF insT
  split <;> omega

theorem op_reads_1_spec (N : Nat) (i : Nat) (t : T) (h : i < t.2.length) : F_op_reads_1 N (i : Int) t = some (t.2.getD i 0, ()) := by
  unfold F_op_reads_1
  simp [cond_dec, h]

theorem loop_At (N : Nat) {a b : T} {za zb : Int} {m k n : Nat} (h : MulOK a b za zb m k n) {i j : Nat} (hi : i < m) (hj : j < n) : ∀ (cnt x : Nat), x ≤ k → k < cnt + x →
    g_mat_At_0 N cnt k n a b za zb (sumN (mulF a.2 b.2 za zb k n i j) x) i j k x = some (sumN (mulF a.2 b.2 za zb k n i j) k, ())
  | 0, x, h1, h2 => by omega
  | cnt + 1, x, h1, h2 => by
    have hm := h.hm
    have hk := h.hk
    have hn := h.hn
    rw [g_mat_At_0]
    simp only [cond_dec, Int.ofNat_lt]
    by_cases hx : x < k
    · have hik : i * k + x < m * k := by
        have : (i + 1) * k ≤ m * k := Nat.mul_le_mul_right k hi
        rw [Nat.add_mul] at this
        omega
      have hxn : x * n + j < k * n := by
        have : (x + 1) * n ≤ k * n := Nat.mul_le_mul_right n hx
        rw [Nat.add_mul] at this
        omega
      have hmk : m * k ≤ 256 * 256 := Nat.mul_le_mul hm.2 hk.2
      have hkn : k * n ≤ 256 * 256 := Nat.mul_le_mul hk.2 hn.2
      have h3 := h.fA (i * k + x)
      have h4 := h.fB (x * n + j)
      have h5 := h.hza
      have h6 := h.hzb
      have h7 := h.part i j x
      have h8 := sumN_bound (mulF a.2 b.2 za zb k n i j) 65025 (fun q => h.part i j q) x
      have e3 : wi64 (sumN (mulF a.2 b.2 za zb k n i j) x + wi64 (wi64 (a.2.getD (i * k + x) 0 - za) * wi64 (b.2.getD (x * n + j) 0 - zb))) = sumN (mulF a.2 b.2 za zb k n i j) (x + 1) := by
        have : wi64 (wi64 (a.2.getD (i * k + x) 0 - za) * wi64 (b.2.getD (x * n + j) 0 - zb)) = mulF a.2 b.2 za zb k n i j x := by
          unfold mulF at h7 ⊢
          rw [wi64_in (n := a.2.getD (i * k + x) 0 - za) (by omega) (by omega), wi64_in (n := b.2.getD (x * n + j) 0 - zb) (by omega) (by omega), wi64_in (by omega) (by omega)]
        rw [this, wi64_in (by omega) (by omega)]
        rfl
      rw [if_pos hx, wi64_row (i := i) (k := k) (x := x) (by omega), wi64_row (i := x) (k := n) (x := j) (by omega), op_reads_1_spec N _ a (by rw [h.hA]; exact hik), op_reads_1_spec N _ b (by rw [h.hB]; exact hxn)]
      simp only [Option.bind_some, e3]
      rw [wi64_succ (by omega)]
      exact loop_At N h hi hj cnt (x + 1) hx (by omega)
    · have : x = k := by omega
      subst this
      rw [if_neg hx]

theorem mat_At_spec {N : Nat} (hN : 20000 ≤ N) {a b : T} {za zb : Int} {m k n : Nat} (h : MulOK a b za zb m k n) {i : Nat} (hi : i < m * n) : F_mat_At N k n a b za zb i = some (mulC a.2 b.2 za zb k n i, ()) := by
  have hn := h.hn
  have hm := h.hm
  have hmn : m * n ≤ 256 * 256 := Nat.mul_le_mul hm.2 hn.2
  have h1 : i / n < m := by
    rw [Nat.mul_comm] at hi
    exact Nat.div_lt_of_lt_mul hi
  have h2 : i % n < n := Nat.mod_lt _ (by omega)
  unfold F_mat_At
  refine cT (by omega) ?_
  refine cT (by omega) ?_
  have h0 := loop_At N h h1 h2 N 0 (by omega) (by have := h.hk; omega)
  simp only [sumN] at h0
  rw [show ((0 : Nat) : Int) = 0 from rfl] at h0
  refine bnd _ (by rw [wi64_tdiv i n (by omega), tmod_nat]; exact h0) ?_
  refine bnd _ (tens_Wide_spec N _) ?_
  rfl

section

variable {a k : T} {za : Int} {h w c kh kw n s p : Nat}

theorem loop_At_2 (H : ConvOK a k za h w c kh kw n s p) (N : Nat) {y x o dy dx : Nat} (ho : o < n) (hy : y * s ≤ 1000000) (hx : x * s ≤ 1000000) (hdy : dy < kh) (hdx : dx < kw)
    (hin : p ≤ y * s + dy ∧ y * s + dy - p < h ∧ p ≤ x * s + dx ∧ x * s + dx - p < w) (dyTo dxFrom dxTo s0 : Int) (hs0 : -1000000000000 ≤ s0 ∧ s0 ≤ 1000000000000) : ∀ (cnt ch : Nat), ch ≤ c → c < cnt + ch →
    g_conv_At_2 N cnt a.1.1 k.1.1 a k za c n o ((y : Int) * s - p) ((x : Int) * s - p) dyTo dxFrom dxTo (s0 + sumN (cvP a.2 k.2 za w c kw n (y * s + dy - p) (x * s + dx - p) dy dx o) ch) dy dx c ch =
      some (a.1.1, (k.1.1, (a, (k, (za, ((c : Int), ((n : Int), ((o : Int), ((y : Int) * s - p, ((x : Int) * s - p, (dyTo, (dxFrom, (dxTo, (s0 + sumN (cvP a.2 k.2 za w c kw n (y * s + dy - p) (x * s + dx - p) dy dx o) c, ((dy : Int), ((dx : Int), ()))))))))))))))))
  | 0, ch, h1, h2 => by omega
  | cnt + 1, ch, h1, h2 => by
    rw [g_conv_At_2]
    by_cases hch : ch < c
    · refine cT (by omega) ?_
      have hh := H.hh
      have hw := H.hw
      have hc := H.hc
      have hn := H.hn
      have hp := H.hp
      obtain ⟨r, hr⟩ : ∃ r, r = y * s + dy - p := ⟨_, rfl⟩
      obtain ⟨q, hq⟩ : ∃ q, q = x * s + dx - p := ⟨_, rfl⟩
      rw [← hr, ← hq] at hin ⊢
      have h3 := three_idx (a := h) (b := w) (c := c) (i := r) (j := q) (k := ch) (by omega) (by omega) hch
      have h4 := three_idx (a := kh) (b := kw) (c := c) (i := dy) (j := dx) (k := ch) hdy hdx hch
      have h5 : ((dy * kw + dx) * c + ch) * n + o < kh * kw * c * n := by
        have : ((dy * kw + dx) * c + ch + 1) * n ≤ kh * kw * c * n := Nat.mul_le_mul_right n h4
        rw [Nat.add_mul] at this
        omega
      have bA := H.bA
      have bK := H.bK
      have hrw : r * w ≤ 256 * 256 := Nat.mul_le_mul (by omega) hw.2
      have e1 : (y : Int) * s = ((y * s : Nat) : Int) := by simp
      have e2 : (x : Int) * s = ((x * s : Nat) : Int) := by simp
      have g1 : List.getD a.1.1 1 0 = (w : Int) := by rw [H.sa]; rfl
      have g2 : List.getD k.1.1 1 0 = (kw : Int) := by rw [H.sk]; rfl
      have i1 : wi64 ((y : Int) * s - p + dy) = (r : Int) := by rw [e1, wi64_in (by omega) (by omega)]; omega
      have i2 : wi64 (wi64 (wi64 ((r : Int) * w) + ((x : Int) * s - p)) + dx) = ((r * w + q : Nat) : Int) := by
        rw [wi64_mul (by omega), e2]
        exact idx_key hrw hx hp (by omega)
      have hP : r * w + q ≤ 100000 := by
        generalize r * w = P at *
        omega
      have i3 : wi64 (wi64 (((r * w + q : Nat) : Int) * c) + ch) = (((r * w + q) * c + ch : Nat) : Int) := wi64_row (by omega)
      have i4 : wi64 (wi64 ((dy : Int) * kw) + dx) = ((dy * kw + dx : Nat) : Int) := by
        have : dy * kw ≤ 256 * 256 := Nat.mul_le_mul (by have := H.hkh; omega) H.hkw.2
        have := H.hkw
        exact wi64_row (by omega)
      have i5 : wi64 (wi64 (((dy * kw + dx : Nat) : Int) * c) + ch) = (((dy * kw + dx) * c + ch : Nat) : Int) := by
        refine wi64_row ?_
        have : (dy * kw + dx) * c + ch ≤ ((dy * kw + dx) * c + ch) * n := Nat.le_mul_of_pos_right _ (by omega)
        omega
      have i6 : wi64 (wi64 ((((dy * kw + dx) * c + ch : Nat) : Int) * n) + o) = ((((dy * kw + dx) * c + ch) * n + o : Nat) : Int) := wi64_row (by omega)
      refine cT (by rw [H.sa]; simp) ?_
      refine bnd _ (by rw [g1, i1, i2, i3]; exact op_reads_1_spec N _ a (by rw [H.hA]; exact h3)) ?_
      refine cT (by rw [H.sk]; simp) ?_
      refine bnd _ (by rw [g2, i4, i5, i6]; exact op_reads_1_spec N _ k (by rw [H.hK]; exact h5)) ?_
      have f1 := H.fA ((r * w + q) * c + ch)
      have f2 := H.fK (((dy * kw + dx) * c + ch) * n + o)
      have f3 := H.hza
      have f4 := H.part r q dy dx o ch
      have f5 := sumN_bound (cvP a.2 k.2 za w c kw n r q dy dx o) 32640 (fun ch => H.part r q dy dx o ch) ch
      have e3 : wi64 (s0 + sumN (cvP a.2 k.2 za w c kw n r q dy dx o) ch + wi64 (wi64 (a.2.getD ((r * w + q) * c + ch) 0 - za) * k.2.getD (((dy * kw + dx) * c + ch) * n + o) 0)) = s0 + sumN (cvP a.2 k.2 za w c kw n r q dy dx o) (ch + 1) := by
        have : wi64 (wi64 (a.2.getD ((r * w + q) * c + ch) 0 - za) * k.2.getD (((dy * kw + dx) * c + ch) * n + o) 0) = cvP a.2 k.2 za w c kw n r q dy dx o ch := by
          unfold cvP at f4 ⊢
          rw [wi64_in (n := a.2.getD ((r * w + q) * c + ch) 0 - za) (by omega) (by omega), wi64_in (by omega) (by omega)]
        rw [this, wi64_in (by omega) (by omega)]
        simp only [sumN]
        omega
      simp only [e3]
      rw [wi64_succ (by omega)]
      have := loop_At_2 H N ho hy hx hdy hdx (by rw [← hr, ← hq]; exact hin) dyTo dxFrom dxTo s0 hs0 cnt (ch + 1) hch (by omega)
      rw [← hr, ← hq] at this
      exact this
    · have : ch = c := by omega
      subst this
      exact cF (by omega) rfl

theorem loop_At_1 (H : ConvOK a k za h w c kh kw n s p) {N : Nat} (hN : 20000 ≤ N) {y x o dy : Nat} (ho : o < n) (hy : y * s ≤ 1000000) (hx : x * s ≤ 1000000) (hdy : dy < kh)
    (hin : p ≤ y * s + dy ∧ y * s + dy - p < h) {f t : Nat} (hft : f ≤ t ∧ t ≤ kw) (hi : ∀ dx, dx < kw → ((f ≤ dx ∧ dx < t) ↔ (p ≤ x * s + dx ∧ x * s + dx - p < w))) (dyTo s0 : Int) (hs0 : -900000000000 ≤ s0 ∧ s0 ≤ 900000000000) : ∀ (cnt dx : Nat), f ≤ dx → dx ≤ t → t < cnt + dx →
    g_conv_At_1 N cnt a.1.1 k.1.1 a k za c n o ((y : Int) * s - p) ((x : Int) * s - p) dyTo f t (s0 + sumN (cvT a.2 k.2 za h w c kw n s p y x o dy) dx) dy dx =
      some (a.1.1, (k.1.1, (a, (k, (za, ((c : Int), ((n : Int), ((o : Int), ((y : Int) * s - p, ((x : Int) * s - p, (dyTo, ((f : Int), ((t : Int), (s0 + sumN (cvT a.2 k.2 za h w c kw n s p y x o dy) t, (((dy + 1 : Nat) : Int), ())))))))))))))))
  | 0, dx, h0, h1, h2 => by omega
  | cnt + 1, dx, h0, h1, h2 => by
    have hkh := H.hkh
    have hkw := H.hkw
    rw [g_conv_At_1]
    by_cases hd : dx < t
    · refine cF (by omega) ?_
      obtain ⟨g1, g2⟩ := (hi dx (by omega)).1 ⟨h0, hd⟩
      have f5 := sumN_bound (cvT a.2 k.2 za h w c kw n s p y x o dy) 8355840 (fun q => H.place y x o dy q) dx
      have h3 := loop_At_2 H N ho hy hx hdy (show dx < kw by omega) ⟨hin.1, hin.2, g1, g2⟩ dyTo f t (s0 + sumN (cvT a.2 k.2 za h w c kw n s p y x o dy) dx) (by omega) N 0 (by omega) (by have := H.hc; omega)
      simp only [sumN] at h3
      rw [Int.add_zero, show ((0 : Nat) : Int) = 0 from rfl] at h3
      refine bnd _ h3 ?_
      have e : s0 + sumN (cvT a.2 k.2 za h w c kw n s p y x o dy) dx + sumN (cvP a.2 k.2 za w c kw n (y * s + dy - p) (x * s + dx - p) dy dx o) c = s0 + sumN (cvT a.2 k.2 za h w c kw n s p y x o dy) (dx + 1) := by
        have : cvT a.2 k.2 za h w c kw n s p y x o dy dx = sumN (cvP a.2 k.2 za w c kw n (y * s + dy - p) (x * s + dx - p) dy dx o) c := by
          unfold cvT
          rw [if_pos ⟨hin.1, hin.2, g1, g2⟩]
        simp only [sumN, this]
        omega
      simp only [e]
      rw [wi64_succ (by omega)]
      exact loop_At_1 H hN ho hy hx hdy hin hft hi dyTo s0 hs0 cnt (dx + 1) (by omega) hd (by omega)
    · have : dx = t := by omega
      subst this
      refine cT (by omega) ?_
      rw [wi64_succ (by omega)]

theorem loop_At_0 (H : ConvOK a k za h w c kh kw n s p) {N : Nat} (hN : 20000 ≤ N) {y x o : Nat} (ho : o < n) (hy : y * s ≤ 1000000) (hx : x * s ≤ 1000000)
    {F T0 : Nat} (hFT : F ≤ T0 ∧ T0 ≤ kh) (hI : ∀ dy, dy < kh → ((F ≤ dy ∧ dy < T0) ↔ (p ≤ y * s + dy ∧ y * s + dy - p < h))) {f t : Nat} (hft : f ≤ t ∧ t ≤ kw) (hi : ∀ dx, dx < kw → ((f ≤ dx ∧ dx < t) ↔ (p ≤ x * s + dx ∧ x * s + dx - p < w))) : ∀ (cnt dy : Nat), F ≤ dy → dy ≤ T0 → T0 < cnt + dy →
    g_conv_At_0 N cnt a.1.1 k.1.1 a k za c n o ((y : Int) * s - p) ((x : Int) * s - p) T0 f t (sumN (fun dy => sumN (cvT a.2 k.2 za h w c kw n s p y x o dy) kw) dy) dy =
      some (sumN (fun dy => sumN (cvT a.2 k.2 za h w c kw n s p y x o dy) kw) T0, ())
  | 0, dy, h0, h1, h2 => by omega
  | cnt + 1, dy, h0, h1, h2 => by
    have hkh := H.hkh
    have hkw := H.hkw
    rw [g_conv_At_0]
    by_cases hd : dy < T0
    · refine cT (by omega) ?_
      have hin := (hI dy (by omega)).1 ⟨h0, hd⟩
      have f5 := sumN_bound (fun dy => sumN (cvT a.2 k.2 za h w c kw n s p y x o dy) kw) 2139095040 (fun q => H.row y x o q) dy
      have z1 : sumN (cvT a.2 k.2 za h w c kw n s p y x o dy) f = 0 := sumN_zero fun dx hdx => by
        unfold cvT
        rw [if_neg]
        rintro ⟨_, _, g1, g2⟩
        have := (hi dx (by omega)).2 ⟨g1, g2⟩
        omega
      have z2 : sumN (cvT a.2 k.2 za h w c kw n s p y x o dy) kw = sumN (cvT a.2 k.2 za h w c kw n s p y x o dy) t := sumN_cut hft.2 fun dx g0 hdx => by
        unfold cvT
        rw [if_neg]
        rintro ⟨_, _, g1, g2⟩
        have := (hi dx hdx).2 ⟨g1, g2⟩
        omega
      have h3 := loop_At_1 H hN ho hy hx (show dy < kh by omega) hin hft hi T0 (sumN (fun dy => sumN (cvT a.2 k.2 za h w c kw n s p y x o dy) kw) dy) (by omega) N f (Nat.le_refl _) hft.1 (by omega)
      rw [z1, Int.add_zero] at h3
      refine bnd _ h3 ?_
      have e : sumN (fun dy => sumN (cvT a.2 k.2 za h w c kw n s p y x o dy) kw) dy + sumN (cvT a.2 k.2 za h w c kw n s p y x o dy) t = sumN (fun dy => sumN (cvT a.2 k.2 za h w c kw n s p y x o dy) kw) (dy + 1) := by
        rw [← z2]
        rfl
      simp only [e]
      exact loop_At_0 H hN ho hy hx hFT hI hft hi cnt (dy + 1) (by omega) hd (by omega)
    · have : dy = T0 := by omega
      subst this
      exact cF (by omega) rfl

/-- AN ELEMENT -/
theorem conv_At_spec (H : ConvOK a k za h w c kh kw n s p) {N : Nat} (hN : 20000 ≤ N) {ow : Nat} (how : 1 ≤ ow ∧ ow ≤ 256) {i : Nat} (hi : i ≤ 20000) :
    F_conv_At N [(s : Int), (p : Int), za] a.1.1 k.1.1 a k i ow = some (cvC a.2 k.2 za h w c kh kw n s p ow i, ()) := by
  have hh := H.hh
  have hw := H.hw
  have hc := H.hc
  have hn := H.hn
  have hs := H.hs
  have hp := H.hp
  have hkh := H.hkh
  have hkw := H.hkw
  unfold F_conv_At
  rw [show List.getD [(s : Int), (p : Int), za] 0 0 = (s : Int) from rfl, show List.getD [(s : Int), (p : Int), za] 1 0 = (p : Int) from rfl, show List.getD [(s : Int), (p : Int), za] 2 0 = za from rfl]
  have a0 : List.getD a.1.1 0 0 = (h : Int) := by rw [H.sa]; rfl
  have a1 : List.getD a.1.1 1 0 = (w : Int) := by rw [H.sa]; rfl
  have a2 : List.getD a.1.1 2 0 = (c : Int) := by rw [H.sa]; rfl
  have k0 : List.getD k.1.1 0 0 = (kh : Int) := by rw [H.sk]; rfl
  have k1 : List.getD k.1.1 1 0 = (kw : Int) := by rw [H.sk]; rfl
  have k3 : List.getD k.1.1 3 0 = (n : Int) := by rw [H.sk]; rfl
  have la : a.1.1.length = 3 := by rw [H.sa]; rfl
  have lk : k.1.1.length = 4 := by rw [H.sk]; rfl
  have tdiv : ∀ u v : Nat, u ≤ 20000 → wi64 (Int.tdiv (u : Int) (v : Int)) = ((u / v : Nat) : Int) := by
    intro u v hu
    rw [show Int.tdiv (u : Int) (v : Int) = ((u / v : Nat) : Int) from (Int.ofNat_tdiv u v).symm]
    have := Nat.div_le_self u v
    generalize u / v = q at *
    exact wi64_in (by omega) (by omega)
  have d1 : i / n ≤ i := Nat.div_le_self i n
  have d2 : i / n / ow ≤ i / n := Nat.div_le_self _ _
  have d3 : i / n % ow < ow := Nat.mod_lt _ (by omega)
  have d4 : i % n < n := Nat.mod_lt _ (by omega)
  simp only [a0, a1, a2, k0, k1, k3, la, lk, tmod_nat, tdiv i n hi, tdiv (i / n) ow (by omega)]
  obtain ⟨y, hy⟩ : ∃ y, y = i / n / ow := ⟨_, rfl⟩
  obtain ⟨x, hx⟩ : ∃ x, x = i / n % ow := ⟨_, rfl⟩
  obtain ⟨o, ho⟩ : ∃ o, o = i % n := ⟨_, rfl⟩
  unfold cvC
  rw [← hy, ← hx, ← ho]
  rw [← ho] at d4
  rw [← hy] at d2
  rw [← hx] at d3
  have ys : y * s ≤ 20000 * 16 := Nat.mul_le_mul (by omega) hs.2
  have xs : x * s ≤ 256 * 16 := Nat.mul_le_mul (by omega) hs.2
  have ysI : (y : Int) * s = ((y * s : Nat) : Int) := by simp
  have xsI : (x : Int) * s = ((x * s : Nat) : Int) := by simp
  have top : wi64 (wi64 ((y : Int) * s) - p) = (y : Int) * s - p := by rw [wi64_mul (by omega), wi64_in (by omega) (by omega), ysI]
  have left : wi64 (wi64 ((x : Int) * s) - p) = (x : Int) * s - p := by rw [wi64_mul (by omega), wi64_in (by omega) (by omega), xsI]
  obtain ⟨b1, b2, b3⟩ := ins_bounds h kh s p y (by omega)
  obtain ⟨c1, c2, c3⟩ := ins_bounds w kw s p x (by omega)
  obtain ⟨F, hF⟩ : ∃ F : Nat, insA h kh s p y = (F : Int) := ⟨(insA h kh s p y).toNat, by omega⟩
  obtain ⟨T0, hT0⟩ : ∃ T0 : Nat, insB h kh s p y = (T0 : Int) := ⟨(insB h kh s p y).toNat, by omega⟩
  obtain ⟨f, hf⟩ : ∃ f : Nat, insA w kw s p x = (f : Int) := ⟨(insA w kw s p x).toNat, by omega⟩
  obtain ⟨t, ht⟩ : ∃ t : Nat, insB w kw s p x = (t : Int) := ⟨(insB w kw s p x).toNat, by omega⟩
  have hI : ∀ dy, dy < kh → ((F ≤ dy ∧ dy < T0) ↔ (p ≤ y * s + dy ∧ y * s + dy - p < h)) := by
    intro dy hdy
    have := ins_iff h kh s p y dy (by omega)
    rw [hF, hT0, ysI] at this
    constructor
    · intro g
      have := this.1 (by omega)
      omega
    · intro g
      have := this.2 (by omega)
      omega
  have hi' : ∀ dx, dx < kw → ((f ≤ dx ∧ dx < t) ↔ (p ≤ x * s + dx ∧ x * s + dx - p < w)) := by
    intro dx hdx
    have := ins_iff w kw s p x dx (by omega)
    rw [hf, ht, xsI] at this
    constructor
    · intro g
      have := this.1 (by omega)
      omega
    · intro g
      have := this.2 (by omega)
      omega
  rw [hF, hT0] at b2
  rw [hT0] at b3
  rw [hf, ht] at c2
  rw [ht] at c3
  refine cT (by simp) ?_
  refine cT (by simp) ?_
  refine cT (by simp) ?_
  refine cT (by omega) ?_
  refine cT (by omega) ?_
  refine cT (by omega) ?_
  refine cT (by omega) ?_
  refine cT (by omega) ?_
  refine cT (by omega) ?_
  refine cT (by omega) ?_
  refine cT (by omega) ?_
  refine cT (by omega) ?_
  refine bnd _ (conv_Inside_ab N h kh s p y (by omega) (by omega) (by omega) (by omega) (by omega)) ?_
  refine cT (by omega) ?_
  refine cT (by omega) ?_
  refine bnd _ (conv_Inside_ab N w kw s p x (by omega) (by omega) (by omega) (by omega) (by omega)) ?_
  rw [hF, hT0, hf, ht, top, left]
  have z1 : sumN (fun dy => sumN (cvT a.2 k.2 za h w c kw n s p y x o dy) kw) F = 0 := sumN_zero fun dy hdy => sumN_zero fun dx hdx => by
    unfold cvT
    rw [if_neg]
    rintro ⟨g1, g2, _, _⟩
    have := (hI dy (by omega)).2 ⟨g1, g2⟩
    omega
  have z2 : cvS a.2 k.2 za h w c kh kw n s p y x o = sumN (fun dy => sumN (cvT a.2 k.2 za h w c kw n s p y x o dy) kw) T0 := sumN_cut (by omega) fun dy g0 hdy => sumN_zero fun dx hdx => by
    unfold cvT
    rw [if_neg]
    rintro ⟨g1, g2, _, _⟩
    have := (hI dy hdy).2 ⟨g1, g2⟩
    omega
  have h0 := loop_At_0 H hN d4 (by omega) (by omega) ⟨by omega, by omega⟩ hI ⟨by omega, by omega⟩ hi' N F (Nat.le_refl _) (by omega) (by omega)
  rw [z1] at h0
  refine bnd _ h0 ?_
  refine bnd _ (tens_Wide_spec N _) ?_
  rw [z2]

end

/-! the program's tables, choices, sums -/

theorem op_reads_1_at (N : Nat) (t : T) {i : Nat} (h : i < t.2.length) : F_op_reads_1 N (i : Int) t = some (t.2.getD i 0, ()) := by
  unfold F_op_reads_1
  exact cT (Int.natCast_nonneg _) (cT (by rw [Int.toNat_natCast]; exact h) (by rw [Int.toNat_natCast]))

theorem loop_op_reads (N : Nat) (ins : List T) (hl : ins.length ≤ 1000) : ∀ (n i : Nat), i ≤ ins.length → ins.length < n + i →
    g_op_reads_0 N n (ins.take i) ins ins.length i = some (ins, ())
  | 0, i, h, h' => by omega
  | n + 1, i, h, h' => by
    rw [g_op_reads_0]
    by_cases hi : i < ins.length
    · have hlen : (ins.take i).length = i := by simp; omega
      have e : List.take (List.length (ins.take i)) (ins.take i) ++ [ins.getD i (([], false), [])] = ins.take (i + 1) := by
        rw [List.take_length, List.take_succ_eq_append_getElem hi, getD_lt hi]
      refine cT (by omega) (cT (by omega) (cT (by simpa using hi) (cT (by omega) ?_)))
      rw [Int.toNat_natCast, e, wi64_succ (by omega)]
      refine cT (by rw [hlen]; simp only [most]; omega) (cT (by simp; omega) ?_)
      exact loop_op_reads N ins hl n (i + 1) hi (by omega)
    · refine cF (by omega) ?_
      rw [List.take_of_length_le (by omega)]
      exact cT (by first | rfl | exact True.intro) rfl

theorem op_reads_spec {N : Nat} (hN : 20000 ≤ N) (ins : List T) (hl : ins.length ≤ 1000) : F_op_reads N ins = some (ins, ()) := by
  unfold F_op_reads
  have h0 := loop_op_reads N ins hl N 0 (by omega) (by omega)
  rw [show ((0 : Nat) : Int) = 0 from rfl, List.take_zero] at h0
  exact bnd _ h0 (cT (by first | rfl | exact True.intro) rfl)

/-! elements -/

theorem soft_softmax_c1_spec (N : Nat) (b : T) {x m : Int} (h1 : 0 ≤ m - x) (h2 : m - x < (b.2.length : Int)) (h3 : m - x ≤ 1000000) : F_soft_softmax_c1 N x b m = some (max 0 (b.2.getD (m - x).toNat 0), ()) := by
  unfold F_soft_softmax_c1
  obtain ⟨k, hk⟩ : ∃ k : Nat, m - x = (k : Int) := ⟨(m - x).toNat, by omega⟩
  rw [wi64_in (by omega) (by omega), hk]
  refine bnd _ (op_reads_1_at N b (by omega)) ?_
  rw [imax_eq', Int.max_comm, Int.toNat_natCast]

section

variable {a b : T} {n P : Nat}

theorem loop_sm_0 (N : Nat) (tb : T × Unit) (hn : 1 ≤ n ∧ n ≤ 256) (hl : a.2.length = P * n) (hP : P * n ≤ 16384) {i : Nat} (hi : i < P * n) (I : Int) : ∀ (cnt j : Nat), j ≤ n → n < cnt + j →
    g_soft_softmax_0 N cnt a I n tb ((i / n * n : Nat) : Int) (mx (fun j => a.2.getD (i / n * n + j) 0) (j - 1), ()) n j = some (a, (I, ((n : Int), (tb, (((i / n * n : Nat) : Int), ((smM a.2 n i, ()), ()))))))
  | 0, j, h1, h2 => by omega
  | cnt + 1, j, h1, h2 => by
    rw [g_soft_softmax_0]
    obtain ⟨r1, r2, r3⟩ := row_idx hn.1 hi
    by_cases hj : j < n
    · have e : wi64 (((i / n * n : Nat) : Int) + j) = ((i / n * n + j : Nat) : Int) := wi64_add (by omega)
      rw [e]
      refine cT (by omega) (bnd _ (op_reads_1_at N a (by rw [hl]; omega)) ?_)
      rw [wi64_succ (by omega), imax_eq']
      have ih := loop_sm_0 N tb hn hl hP hi I cnt (j + 1) hj (by omega)
      have hm : max (mx (fun j => a.2.getD (i / n * n + j) 0) (j - 1)) (a.2.getD (i / n * n + j) 0) = mx (fun j => a.2.getD (i / n * n + j) 0) (j + 1 - 1) := by
        cases j with
        | zero => simp only [Nat.zero_sub, mx, Nat.add_zero, Nat.zero_add, Nat.sub_self]; omega
        | succ j => rfl
      dsimp only
      rw [hm]
      exact ih
    · have : j = n := by omega
      subst this
      exact cF (by omega) rfl

theorem loop_sm_1 (N : Nat) (hn : 1 ≤ n ∧ n ≤ 256) (hl : a.2.length = P * n) (hP : P * n ≤ 16384) (hb : b.2.length = 256) (fA : ∀ p, -128 ≤ a.2.getD p 0 ∧ a.2.getD p 0 ≤ 127) (fB : ∀ p, -2147483648 ≤ b.2.getD p 0 ∧ b.2.getD p 0 ≤ 2147483647) {i : Nat} (hi : i < P * n) (I : Int) : ∀ (cnt j : Nat), j ≤ n → n < cnt + j →
    g_soft_softmax_1 N cnt a I ((i / n * n : Nat) : Int) (b, smM a.2 n i) (sumN (fun j => smW a.2 b.2 n i (i / n * n + j)) j) n j = some (a, (I, ((b, smM a.2 n i), (smS a.2 b.2 n i, ()))))
  | 0, j, h1, h2 => by omega
  | cnt + 1, j, h1, h2 => by
    rw [g_soft_softmax_1]
    obtain ⟨r1, r2, r3⟩ := row_idx hn.1 hi
    by_cases hj : j < n
    · have e : wi64 (((i / n * n : Nat) : Int) + j) = ((i / n * n + j : Nat) : Int) := wi64_add (by omega)
      have hd := smD_in fA hn.1 (i := i) (j := i / n * n + j) (by omega) (by omega)
      have hw := smW_in fB (n := n) a.2 i (i / n * n + j)
      have hs := sumN_bound (fun j => smW a.2 b.2 n i (i / n * n + j)) 2147483647 (fun j => by have := smW_in fB (n := n) a.2 i (i / n * n + j); omega) j
      rw [e]
      refine cT (by omega) (bnd _ (op_reads_1_at N a (by rw [hl]; omega)) (bnd _ (soft_softmax_c1_spec N b (by dsimp only; omega) (by dsimp only; rw [hb]; omega) (by dsimp only; omega)) ?_))
      rw [wi64_succ (by omega)]
      have ih := loop_sm_1 N hn hl hP hb fA fB hi I cnt (j + 1) hj (by omega)
      rw [sumN] at ih
      unfold smW at hw hs ih ⊢
      dsimp only
      rw [wi64_in (by omega) (by omega)]
      exact ih
    · have : j = n := by omega
      subst this
      exact cF (by omega) rfl

theorem soft_softmax_spec {N : Nat} (hN : 20000 ≤ N) (hn : 1 ≤ n ∧ n ≤ 256) (hl : a.2.length = P * n) (hP : P * n ≤ 16384) (hb : b.2.length = 256) (fA : ∀ p, -128 ≤ a.2.getD p 0 ∧ a.2.getD p 0 ≤ 127) (fB : ∀ p, -2147483648 ≤ b.2.getD p 0 ∧ b.2.getD p 0 ≤ 2147483647) {i : Nat} (hi : i < P * n) :
    F_soft_softmax N a b i n = some (smC a.2 b.2 n i, ()) := by
  unfold F_soft_softmax
  obtain ⟨r1, r2, r3⟩ := row_idx hn.1 hi
  have er : wi64 (wi64 (Int.tdiv (i : Int) (n : Int)) * (n : Int)) = ((i / n * n : Nat) : Int) := by
    rw [wi64_tdiv i n (by omega), wi64_mul (by omega)]
  rw [er]
  have h0 := loop_sm_0 (a := a) (n := n) (P := P) N (b, ()) hn hl hP hi (i : Int) N 0 (by omega) (by omega)
  rw [show ((0 : Nat) : Int) = 0 from rfl] at h0
  simp only [Nat.zero_sub, mx, Nat.add_zero] at h0
  have h1 := loop_sm_1 (a := a) (b := b) (n := n) (P := P) N hn hl hP hb fA fB hi (i : Int) N 0 (by omega) (by omega)
  rw [show ((0 : Nat) : Int) = 0 from rfl, sumN] at h1
  refine cT (by omega) (bnd _ (op_reads_1_at N a (by rw [hl]; omega)) (bnd _ h0 (bnd _ h1 ?_)))
  unfold smC
  by_cases hz : smS a.2 b.2 n i = 0
  · rw [if_pos hz]
    exact cT hz rfl
  rw [if_neg hz]
  have hd := smD_in fA hn.1 (i := i) (j := i) r2 r3
  have hw := smW_in fB (n := n) a.2 i i
  have hs : 0 ≤ smS a.2 b.2 n i := sumN_nonneg (fun j => (smW_in fB (n := n) a.2 i _).1) n
  have hs2 := sumN_bound (fun j => smW a.2 b.2 n i (i / n * n + j)) 2147483647 (fun j => by have := smW_in fB (n := n) a.2 i (i / n * n + j); omega) n
  change -(2147483647 * (n : Int)) ≤ smS a.2 b.2 n i ∧ smS a.2 b.2 n i ≤ 2147483647 * (n : Int) at hs2
  refine cF hz (bnd _ (op_reads_1_at N a (by rw [hl]; omega)) (bnd _ (soft_softmax_c1_spec N b (by dsimp only; omega) (by dsimp only; rw [hb]; omega) (by dsimp only; omega)) (cT hz ?_)))
  have hq : 0 ≤ smS a.2 b.2 n i / 2 := Int.ediv_nonneg hs (by omega)
  dsimp only
  have ew : max 0 (b.2.getD (smM a.2 n i - a.2.getD i 0).toNat 0) = smW a.2 b.2 n i i := rfl
  rw [ew]
  generalize smW a.2 b.2 n i i = W at *
  generalize smS a.2 b.2 n i = S at *
  have e2 : wi64 (Int.tdiv S 2) = S / 2 := by rw [Int.tdiv_eq_ediv_of_nonneg hs, wi64_in (by omega) (by omega)]
  have e3 : wi64 (wi64 (255 * W) + S / 2) = 255 * W + S / 2 := by rw [wi64_in (n := 255 * W) (by omega) (by omega), wi64_in (by omega) (by omega)]
  have b1 : 0 ≤ (255 * W + S / 2) / S := Int.ediv_nonneg (by omega) (by omega)
  have b2 : (255 * W + S / 2) / S ≤ 255 * W + S / 2 := Int.ediv_le_self _ (by omega)
  rw [e2, e3, Int.tdiv_eq_ediv_of_nonneg (by omega), wi64_in (n := (255 * W + S / 2) / S) (by omega) (by omega), wi64_in (by omega) (by omega)]
  rfl

theorem loop_sa_0 (N : Nat) (hn : 1 ≤ n ∧ n ≤ 256) (hl : a.2.length = P * n) (hP : P * n ≤ 16384) {i : Nat} (hi : i < P) : ∀ (cnt j : Nat), j ≤ n → n < cnt + j →
    g_soft_At_0 N cnt i n a (am (rowF a.2 n i) j) n j = some (((am (rowF a.2 n i) n : Nat) : Int), ())
  | 0, j, h1, h2 => by omega
  | cnt + 1, j, h1, h2 => by
    rw [g_soft_At_0]
    by_cases hj : j < n
    · have hr : i * n + n ≤ P * n := by
        have : (i + 1) * n ≤ P * n := Nat.mul_le_mul_right n hi
        rw [Nat.add_mul, Nat.one_mul] at this
        exact this
      have ha := am_le (rowF a.2 n i) j
      have e1 : wi64 (wi64 ((i : Int) * n) + j) = ((i * n + j : Nat) : Int) := wi64_row (by omega)
      have e2 : wi64 (wi64 ((i : Int) * n) + ((am (rowF a.2 n i) j : Nat) : Int)) = ((i * n + am (rowF a.2 n i) j : Nat) : Int) := wi64_row (by omega)
      have ih := loop_sa_0 N hn hl hP hi cnt (j + 1) hj (by omega)
      rw [e1, e2]
      refine cT (by omega) (bnd _ (op_reads_1_at N a (by rw [hl]; omega)) (bnd _ (op_reads_1_at N a (by rw [hl]; omega)) ?_))
      rw [wi64_succ (by omega)]
      by_cases hlt : rowF a.2 n i (am (rowF a.2 n i) j) < rowF a.2 n i j
      · refine cT hlt ?_
        rw [am, if_pos hlt] at ih
        exact ih
      · refine cF hlt ?_
        rw [am, if_neg hlt] at ih
        exact ih
    · have : j = n := by omega
      subst this
      exact cF (by omega) rfl

theorem loop_sa_1 (N : Nat) (hn : 1 ≤ n ∧ n ≤ 256) (hl : a.2.length = P * n) (hP : P * n ≤ 16384) (fA : ∀ p, -2147483648 ≤ a.2.getD p 0 ∧ a.2.getD p 0 ≤ 2147483647) {i : Nat} (hi : i < P) : ∀ (cnt j : Nat), j ≤ n → n < cnt + j →
    g_soft_At_1 N cnt i n a (sumN (rowF a.2 n i) j) n j = some (sumN (rowF a.2 n i) n, ())
  | 0, j, h1, h2 => by omega
  | cnt + 1, j, h1, h2 => by
    rw [g_soft_At_1]
    by_cases hj : j < n
    · have hr : i * n + n ≤ P * n := by
        have : (i + 1) * n ≤ P * n := Nat.mul_le_mul_right n hi
        rw [Nat.add_mul, Nat.one_mul] at this
        exact this
      have e1 : wi64 (wi64 ((i : Int) * n) + j) = ((i * n + j : Nat) : Int) := wi64_row (by omega)
      have hs := sumN_bound (rowF a.2 n i) 2147483648 (fun j => by have := fA (i * n + j); unfold rowF; omega) j
      have hv := fA (i * n + j)
      have e3 : wi64 (sumN (rowF a.2 n i) j + a.2.getD (i * n + j) 0) = sumN (rowF a.2 n i) (j + 1) := by
        rw [wi64_in (by omega) (by omega)]
        rfl
      have ih := loop_sa_1 N hn hl hP fA hi cnt (j + 1) hj (by omega)
      rw [e1]
      refine cT (by omega) (bnd _ (op_reads_1_at N a (by rw [hl]; omega)) ?_)
      dsimp only
      rw [wi64_succ (by omega), e3]
      exact ih
    · have : j = n := by omega
      subst this
      exact cF (by omega) rfl

end

/-- AN ELEMENT of these operations -/
theorem soft_At_spec {N : Nat} (hN : 20000 ≤ N) {op : Int} (hs : op = 16 ∨ op = 17 ∨ op = 19 ∨ op = 20) (args : List Int) (ins : List T) (hv : firstBadT ins = .nil) (hr : (softRes op (ins.map Prod.fst)).2 = .nil) {i : Nat} (hi : (i : Int) < elems (softRes op (ins.map Prod.fst)).1.1) :
    F_soft_At N op i (ins.map Prod.fst) ins = some (elAll op args ins (softRes op (ins.map Prod.fst)).1 i, ()) := by
  generalize hd : (softRes op (ins.map Prod.fst)).1 = d at *
  unfold softRes at hr hd
  rw [if_neg (fun h => h hs)] at hr hd
  by_cases hl : ((ins.map Prod.fst).length : Int) = softK op
  case neg => rw [if_pos hl] at hr; cases hr
  rw [if_neg (fun h => h hl)] at hr hd
  rw [List.length_map] at hl
  by_cases hb : firstBad (ins.map Prod.fst) = .nil
  case neg => rw [ifNF (isNil_false hb)] at hr; exact absurd hr hb
  rw [ifNT (nilT hb)] at hr hd
  unfold F_soft_At elAll
  rw [if_neg (by omega), if_neg (by omega), if_neg (by omega), if_neg (by omega)]
  rcases hs with rfl | rfl | rfl | rfl
  · simp only [softK, true_or, if_true] at hl
    match ins, hl with
    | [a, b], _ =>
    obtain ⟨va, vb⟩ := firstBadT_two hv
    rw [if_pos rfl] at hr hd
    simp only [List.map_cons, List.map_nil, List.getD_cons_zero, List.getD_cons_succ] at hr hd ⊢
    by_cases hc : a.1.2 = true ∨ (a.1.1.length : Int) < 1 ∨ b.1 ≠ ([256], true)
    · rw [if_pos hc] at hr; cases hr
    rw [if_neg hc] at hd
    simp only [not_or, ne_eq, Decidable.not_not, Bool.not_eq_true] at hc
    obtain ⟨pre, n, es, hn, hp1, hq, he, _, _⟩ := shape_nat_last (tensV_shape va) (by omega)
    subst hd
    rw [he] at hi
    have la := tensV_len va
    rw [he] at la
    have lb := tensV_len vb
    rw [hc.2.2] at lb
    have l4 := (shapeV_nil.1 (tensV_shape va)).1
    have lb' : b.2.length = 256 := by
      have : elems [256] = 256 := by decide
      dsimp only at lb
      omega
    have eg : a.1.1.getD (a.1.1.length - 1) 0 = (n : Int) := by rw [es]; exact getD_last _ _ _
    have e : wi64 ((a.1.1.length : Int) - 1) = ((a.1.1.length - 1 : Nat) : Int) := by rw [wi64_in (by omega) (by omega)]; omega
    first | rw [if_pos rfl] | rw [if_pos True.intro]
    simp only [e, eg, Int.toNat_natCast]
    refine cT (by simp) (cT (Int.natCast_nonneg _) (cT (by omega) (cT (by simp) (cT (by first | rfl | exact True.intro) (cT (by simp) ?_)))))
    exact bnd _ (soft_softmax_spec hN hn (P := prodN pre) (by omega) hq lb' (tensV_narrowD va hc.1) (tensV_in vb) (by omega)) rfl
  · simp only [softK, or_true, if_true] at hl
    match ins, hl with
    | [a, b], _ =>
    obtain ⟨va, vb⟩ := firstBadT_two hv
    rw [if_neg (by decide), if_pos rfl] at hr hd
    simp only [List.map_cons, List.map_nil, List.getD_cons_zero, List.getD_cons_succ] at hr hd ⊢
    by_cases hc : a.1.1.length ≠ 2 ∨ b.1.1.length ≠ 1 ∨ b.1.2 = false
    · rw [if_pos hc] at hr; cases hr
    rw [if_neg hc] at hr hd
    simp only [not_or, ne_eq, Decidable.not_not, Bool.not_eq_false] at hc
    obtain ⟨m, w, e1, hm, hw, hmw, he⟩ := shape_nat_two (tensV_shape va) hc.1
    obtain ⟨ns, e2, _, hn2, _, hq2, he2⟩ := shape_nat (tensV_shape vb)
    have l2 := hc.2.1
    rw [e2] at l2
    match ns, l2, e2, hn2, hq2, he2 with
    | [k], _, e2, hn2, hq2, he2 =>
    simp only [prodN, Nat.mul_one, List.map_cons, List.map_nil] at hq2 he2 e2
    have hk := hn2 k (by simp)
    have la := tensV_len va
    rw [he] at la
    have lb := tensV_len vb
    rw [he2] at lb
    rw [e1, e2] at hr hd
    simp only [List.getD_cons_zero, List.getD_cons_succ] at hr hd
    unfold seenD at hr hd
    by_cases hsv : shapeV [(k : Int), (w : Int)] = .nil
    case neg => rw [ifF (isNil_false hsv)] at hr; exact absurd hr hsv
    rw [ifT (nilT hsv)] at hd
    obtain ⟨k', w', e3, _, _, hkw, he3⟩ := shape_nat_two hsv rfl
    simp only [List.cons.injEq, Int.ofNat_inj, and_true] at e3
    subst hd
    rw [he3, ← e3.1, ← e3.2] at hi
    rw [if_neg (by decide)]
    first | rw [if_pos rfl] | rw [if_pos True.intro]
    have hkw' : k * w ≤ 256 * 256 := Nat.mul_le_mul hk.2 hw.2
    have hmw' : m * w ≤ 256 * 256 := Nat.mul_le_mul hm.2 hw.2
    have hi' : i < k * w := by omega
    have h1 : i / w < k := Nat.div_lt_of_lt_mul (by rw [Nat.mul_comm]; exact hi')
    have hq := ga_idx hm.1 hw.1 (b.2.getD (i / w) 0) i
    have hcc := cut_in (x := b.2.getD (i / w) 0) (lo := 0) (hi := (m : Int) - 1) (by omega)
    have e5 : wi64 ((([(m : Int), (w : Int)].length : Nat) : Int) - 1) = 1 := rfl
    simp only [e1, e5, List.getD_cons_zero, List.getD_cons_succ, Int.toNat_natCast, show Int.toNat 1 = 1 from rfl]
    rw [wi64_tdiv i w (show i ≤ 1099511627776 by omega), tmod_nat, wi64_in (n := (m : Int) - 1) (by omega) (by omega)]
    refine cT (by simp) (cT (by decide) (cT (by simp) (cT (by simp) (cF (by decide) (cF (by decide) (cF (by decide) (cT (by simp) (cT (by omega) ?_))))))))
    refine bnd _ (op_reads_1_at N b (by omega)) ?_
    refine cT (by simp) (cT (by omega) ?_)
    have ec : imax 0 (imin (b.2.getD (i / w) 0) ((m : Int) - 1)) = cut (b.2.getD (i / w) 0) 0 ((m : Int) - 1) := by
      unfold imax imin cut
      repeat' split
      all_goals omega
    dsimp only
    rw [ec]
    unfold gaC
    obtain ⟨C, hC⟩ : ∃ C : Nat, cut (b.2.getD (i / w) 0) 0 ((m : Int) - 1) = (C : Int) := ⟨(cut (b.2.getD (i / w) 0) 0 ((m : Int) - 1)).toNat, by omega⟩
    rw [hC] at hq ⊢
    rw [Int.toNat_natCast] at hq ⊢
    have e4 : wi64 (wi64 ((C : Int) * w) + ((i % w : Nat) : Int)) = ((C * w + i % w : Nat) : Int) := wi64_row (by omega)
    rw [e4]
    exact bnd _ (op_reads_1_at N a (by omega)) rfl
  all_goals
    rw [softK, if_neg (by decide)] at hl
    match ins, hl with
    | [a], _ =>
    have va := firstBadT_one hv
    rw [if_neg (by decide), if_neg (by decide)] at hr hd
    simp only [List.map_cons, List.map_nil, List.getD_cons_zero] at hr hd ⊢
    by_cases hc : (a.1.1.length : Int) < 1
    · rw [if_pos hc] at hr; cases hr
    rw [if_neg hc] at hd
    obtain ⟨pre, n, es, hn, hp1, hq, he, _, hep⟩ := shape_nat_last (tensV_shape va) (by omega)
    have la := tensV_len va
    rw [he] at la
    have l4 := (shapeV_nil.1 (tensV_shape va)).1
    have eg : a.1.1.getD (a.1.1.length - 1) 0 = (n : Int) := by rw [es]; exact getD_last _ _ _
    have e : wi64 ((a.1.1.length : Int) - 1) = ((a.1.1.length - 1 : Nat) : Int) := by rw [wi64_in (by omega) (by omega)]; omega
    subst hd
    have et : a.1.1.take (a.1.1.length - 1) = pre.map Nat.cast := by rw [es]; exact take_last _ _
    simp only at hi
    rw [et, hep] at hi
    have h0 := loop_sa_0 (a := a) (n := n) (P := prodN pre) N hn (by omega) hq (i := i) (by omega) N 0 (by omega) (by omega)
    have h1 := loop_sa_1 (a := a) (n := n) (P := prodN pre) N hn (by omega) hq (tensV_in va) (i := i) (by omega) N 0 (by omega) (by omega)
    rw [show ((0 : Nat) : Int) = 0 from rfl] at h1
    simp only [am, show ((0 : Nat) : Int) = 0 from rfl] at h0
    rw [sumN] at h1
    rw [if_neg (by decide), if_neg (by decide)]
    simp only [e, eg, Int.toNat_natCast]
    refine cT (by simp) (cT (Int.natCast_nonneg _) (cT (by omega) (cT (by simp) ?_)))
    first
    | (rw [if_pos True.intro]; exact cF (by decide) (cT (by first | rfl | exact True.intro) (bnd _ h0 rfl)))
    | (rw [if_pos rfl]; exact cF (by decide) (cT (by first | rfl | exact True.intro) (bnd _ h0 rfl)))
    | (rw [if_neg (by decide), if_pos rfl]; exact cF (by decide) (cF (by decide) (cT (by first | rfl | exact True.intro) (bnd _ h1 (bnd _ (tens_Wide_spec N _) rfl)))))
    | (rw [if_neg (by decide), if_pos True.intro]; exact cF (by decide) (cF (by decide) (cT (by first | rfl | exact True.intro) (bnd _ h1 (bnd _ (tens_Wide_spec N _) rfl)))))

/-! tensors -/

end Go.Proofs.YtnblnlanicpagaaDoor.Lg
