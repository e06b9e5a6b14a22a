/-
  What the program's functions come to, in plain words.
-/
import Derived.Test.YtbpifndhkdbmhaaDoorLgConvP4
import Derived.Test.YtbpifndhkdbmhaaDoorLgEngZc
import Derived.KernelRfl
namespace Go.Proofs.YtbpifndhkdbmhaaDoor.Lg
open Go Go.Eng Go.Proofs

theorem sumN_single {f : Nat → Int} {j : Nat} : ∀ {k : Nat}, j < k → (∀ x, x < k → x ≠ j → f x = 0) → sumN f k = f j
  | 0, h, _ => by omega
  | k + 1, h, hz => by
    rw [sumN]
    by_cases hj : j = k
    · subst hj
      rw [sumN_zero (k := j) fun x hx => hz x (by omega) (by omega)]
      omega
    · rw [sumN_single (k := k) (by omega) fun x hx hn => hz x (by omega) hn, hz k (by omega) (by omega)]
      omega

theorem sumN_congr' {f g : Nat → Int} : ∀ {c : Nat}, (∀ x, x < c → f x = g x) → sumN f c = sumN g c
  | 0, _ => rfl
  | c + 1, h => by
    rw [sumN, sumN, sumN_congr' fun x hx => h x (by omega), h c (by omega)]

theorem round32_in {n : Int} (h : -2147483648 ≤ n) (h' : n ≤ 2147483647) : round32 n = n := by
  unfold round32
  omega

theorem wi64_tdiv {u v : Nat} (h : u ≤ 1000000) : wi64 (Int.tdiv (u : Int) (v : Int)) = ((u / v : Nat) : Int) := by
  rw [show Int.tdiv (u : Int) (v : Int) = ((u / v : Nat) : Int) from (Int.ofNat_tdiv u v).symm]
  have := Nat.div_le_self u v
  generalize u / v = q at *
  exact wi64_in (by omega) (by omega)

theorem cvL_length (A K : List Int) (za : Int) (h w c kh kw n s p oh ow : Nat) : (cvL A K za h w c kh kw n s p oh ow).length = oh * ow * n := by simp [cvL]
theorem cvL_getD {A K : List Int} {za : Int} {h w c kh kw n s p oh ow i : Nat} (hi : i < oh * ow * n) : (cvL A K za h w c kh kw n s p oh ow).getD i 0 = cvC A K za h w c kh kw n s p ow i := by
  rw [getD_lt (by rw [cvL_length]; exact hi)]
  simp [cvL]

/-- a convolution of places that are known -/
theorem conv_good {N : Nat} (hN : 20000 ≤ N) {A K : List Int} {za : Int} {h w c kh kw n s p : Nat} (hh : 1 ≤ h ∧ h ≤ 256) (hw : 1 ≤ w ∧ w ≤ 256) (hc : 1 ≤ c ∧ c ≤ 256) (hkh : 1 ≤ kh ∧ kh ≤ 256) (hkw : 1 ≤ kw ∧ kw ≤ 256) (hn : 1 ≤ n ∧ n ≤ 256) (hs : 1 ≤ s ∧ s ≤ 16) (hp : p ≤ 15)
    (hA : A.length = h * w * c) (hK : K.length = kh * kw * c * n) (bA : h * w * c ≤ 16384) (bK : kh * kw * c * n ≤ 16384)
    (fA : ∀ x, x ∈ A → -128 ≤ x ∧ x ≤ 127) (fK : ∀ x, x ∈ K → -128 ≤ x ∧ x ≤ 127) (hza : -128 ≤ za ∧ za ≤ 127)
    (hkh' : kh ≤ h + 2 * p) (hkw' : kw ≤ w + 2 * p) {oh ow : Nat} (eoh : oh = (h + 2 * p - kh) / s + 1) (eow : ow = (w + 2 * p - kw) / s + 1) (hoh : oh ≤ 256) (how : ow ≤ 256) (ho : oh * ow * n ≤ 16384) :
    F_conv_Do N (([(h : Int), (w : Int), (c : Int)], false), A) (([(kh : Int), (kw : Int), (c : Int), (n : Int)], false), K) [(s : Int), (p : Int), za]
        = some (boxT [(oh : Int), (ow : Int), (n : Int)] true (cvL A K za h w c kh kw n s p oh ow), (.nil, ()))
      ∧ ∀ i, F_conv_Cell N (([(h : Int), (w : Int), (c : Int)], false), A) (([(kh : Int), (kw : Int), (c : Int), (n : Int)], false), K) i [(s : Int), (p : Int), za]
        = some (if 0 ≤ i ∧ i < ((oh * ow * n : Nat) : Int) then cvC A K za h w c kh kw n s p ow i.toNat else 0, ()) := by
  have H : ConvOK (([(h : Int), (w : Int), (c : Int)], false), A) (([(kh : Int), (kw : Int), (c : Int), (n : Int)], false), K) za h w c kh kw n s p :=
    ⟨hh, hw, hc, hkh, hkw, hn, hs, hp, rfl, rfl, hA, hK, bA, bK, getD_in fA, getD_in fK, hza⟩
  have hr := convRes'_good hh hw hc hkh hkw hn hs hp hA hK bA bK fA fK hza hkh' hkw' eoh eow hoh how ho
  have o1 : 1 ≤ oh := by rw [eoh]; exact Nat.le_add_left 1 _
  have o2 : 1 ≤ ow := by rw [eow]; exact Nat.le_add_left 1 _
  exact ⟨conv_Do_ok H hN ⟨o1, hoh⟩ ⟨o2, how⟩ ho hr, conv_Cell_ok H hN ⟨o1, hoh⟩ ⟨o2, how⟩ ho hr⟩

theorem tensor_three {N : Nat} (hN : 20000 ≤ N) {a b c : Nat} (l : List Int) (ha : 1 ≤ a ∧ a ≤ 256) (hb : 1 ≤ b ∧ b ≤ 256) (hc : 1 ≤ c ∧ c ≤ 256) (h : a * b * c ≤ 16384) : F_lodgelaw9_tensor N [(a : Int), (b : Int), (c : Int)] l = some (boxT [(a : Int), (b : Int), (c : Int)] false (tenD l (a * b * c)), ()) :=
  lodgelaw9_tensor_spec hN _ l (elems_three ha hb hc h)
theorem tensor_four {N : Nat} (hN : 20000 ≤ N) {a b c d : Nat} (l : List Int) (ha : 1 ≤ a ∧ a ≤ 256) (hb : 1 ≤ b ∧ b ≤ 256) (hc : 1 ≤ c ∧ c ≤ 256) (hd : 1 ≤ d ∧ d ≤ 256) (h : a * b * c * d ≤ 16384) : F_lodgelaw9_tensor N [(a : Int), (b : Int), (c : Int), (d : Int)] l = some (boxT [(a : Int), (b : Int), (c : Int), (d : Int)] false (tenD l (a * b * c * d)), ()) :=
  lodgelaw9_tensor_spec hN _ l (elems_four ha hb hc hd h)

theorem first_100' : F_lodgelaw9_first 100000 = some (true, ()) := by kernel_rfl

theorem take_one_more (l : List Int) (x : Int) : List.take (l.length + 1) (List.take l.length l ++ [x]) = l ++ [x] := take_app_one l x

theorem mul_small {a b A B : Nat} (ha : a ≤ A) (hb : b ≤ B) : a * b ≤ A * B := Nat.mul_le_mul ha hb

end Go.Proofs.YtbpifndhkdbmhaaDoor.Lg
