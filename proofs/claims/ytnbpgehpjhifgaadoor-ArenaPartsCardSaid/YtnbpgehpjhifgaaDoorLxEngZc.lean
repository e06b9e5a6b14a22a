/-
  The abstract machine, part 28: a call's arguments, read off their places.
-/
import Derived.Test.YtnbpgehpjhifgaaDoorLxEngZb
import Derived.ChangeArms
import Derived.WideShapes
namespace Go.Eng

/-- numbers within their kinds, lists that may be -/
def FitsT : (t : Ty) → Val t → Prop
  | .int k, n => (Lit.int k n).wf = true
  | .str, s => s.size ≤ maxLen
  | .pair a b, p => FitsT a p.1 ∧ FitsT b p.2
  | .st a, x => FitsT a x
  | .sl a, l => l.length ≤ maxLen ∧ ∀ i, i < l.length → FitsT a (l.getD i (dfl a))
  | _, _ => True

/-- a struct's fields, one after the other -/
def fldsIs (P : Program) (is : TypeId → Ty → Bool) : List Field → Nat → Ty → Bool
  | [], _, .unit => true
  | [f], off, a => is f.type a && Nat.beq f.offset off && Nat.beq (P.cellsOf f.type) a.size
  | f :: g :: r, off, .pair a b => is f.type a && Nat.beq f.offset off && Nat.beq (P.cellsOf f.type) a.size && fldsIs P is (g :: r) (off + a.size) b
  | _, _, _ => false

/-- is it a type of plain data? -/
def tyIs (P : Program) : Nat → TypeId → Ty → Bool
  | 0, _, _ => false
  | n + 1, t, u => match P.underlying t, u with
    | some .bool, .bool => true
    | some (.int k), .int k' => sameK k k'
    | some (.float .f64), .flt => true
    | some .string, .str => true
    | some (.slice e), .sl a => tyIs P n e a && Nat.beq (P.cellsOf e) a.size && Nat.blt 0 a.size
    | some (.struct fs), .st a => fldsIs P (tyIs P n) fs.toList 0 a && Nat.beq (P.cellsOf t) a.size
    | _, _ => false

section
variable {H : Type} {enc : TypeId × Value → H} {P : Program} {W : World} {sp : Nat → Bool} {held : Bool} {T : Stat}

theorem trod_flt {t : TypeId} {fuel : Nat} {cs : List Value} {x : DataW H × List MemPlace} (ht : P.underlying t = some (.float .f64)) (h : DataW.trod enc P W 0 sp held fuel t cs = some x) : ∃ b, cs = [.float .f64 b] := by
  cases fuel with
  | zero => simp [DataW.trod] at h
  | succ n =>
    unfold DataW.trod at h
    rw [ht] at h
    split at h <;> simp_all

theorem list_of {α : Type} (d : α) {p : Nat → α → Prop} : ∀ n : Nat, (∀ i, i < n → ∃ x, p i x) → ∃ l : List α, l.length = n ∧ ∀ i, i < n → p i (l.getD i d)
  | 0, _ => ⟨[], rfl, fun i hi => by omega⟩
  | n + 1, h => by
    obtain ⟨l, hl, hp⟩ := list_of d n fun i hi => h i (by omega)
    obtain ⟨x, hx⟩ := h n (by omega)
    refine ⟨l ++ [x], by simp [hl], fun i hi => ?_⟩
    rw [List.getD_eq_getElem?_getD]
    by_cases hin : i < n
    · rw [List.getElem?_append_left (by omega), ← List.getD_eq_getElem?_getD]
      exact hp i hin
    · have : i = n := by omega
      subst this
      rw [List.getElem?_append_right (by omega), hl, Nat.sub_self]
      exact hx

theorem flds_rep {is : TypeId → Ty → Bool} {fuel : Nat} {cs : List Value} (his : ∀ t u cs' x, is t u = true → DataW.trod enc P W 0 sp held fuel t cs' = some x → ∃ y : Val u, RepT (rcW T (fun b => b < W.heap.size) noL W) u y cs' ∧ FitsT u y) :
    ∀ (fs : List Field) (off : Nat) (a : Ty), fldsIs P is fs off a = true → (∀ f, f ∈ fs → ∃ x, DataW.trod enc P W 0 sp held fuel f.type ((cs.drop f.offset).take (P.cellsOf f.type)) = some x) →
      ∃ y : Val a, RepT (rcW T (fun b => b < W.heap.size) noL W) a y ((cs.drop off).take a.size) ∧ FitsT a y
  | [], off, a, h, hx => by
    cases a <;> simp [fldsIs] at h
    exact ⟨(), by simp [RepT, Ty.size], trivial⟩
  | [f], off, a, h, hx => by
    simp only [fldsIs, Bool.and_eq_true] at h
    obtain ⟨⟨h1, h2⟩, h3⟩ := h
    obtain ⟨x, hx⟩ := hx f (by simp)
    rw [Nat.eq_of_beq_eq_true h2, Nat.eq_of_beq_eq_true h3] at hx
    exact his _ _ _ _ h1 hx
  | f :: g :: r, off, a, h, hx => by
    cases a <;> simp only [fldsIs, Bool.false_eq_true] at h
    rename_i a b
    simp only [Bool.and_eq_true] at h
    obtain ⟨⟨⟨h1, h2⟩, h3⟩, h4⟩ := h
    obtain ⟨x, hx1⟩ := hx f (by simp)
    rw [Nat.eq_of_beq_eq_true h2, Nat.eq_of_beq_eq_true h3] at hx1
    obtain ⟨y, hy, hfy⟩ := his _ _ _ _ h1 hx1
    obtain ⟨z, hz, hfz⟩ := flds_rep his (g :: r) (off + a.size) b h4 fun k hk => hx k (List.mem_cons_of_mem _ hk)
    refine ⟨(y, z), ⟨_, _, ?_, hy, hz⟩, hfy, hfz⟩
    rw [Ty.size, List.take_add, List.drop_drop]

theorem trod_rep : ∀ (n : Nat) (t : TypeId) (u : Ty) (fuel : Nat) (cs : List Value) (x : DataW H × List MemPlace), tyIs P n t u = true → DataW.trod enc P W 0 sp held fuel t cs = some x →
    ∃ y : Val u, RepT (rcW T (fun b => b < W.heap.size) noL W) u y cs ∧ FitsT u y
  | 0, t, u, fuel, cs, x, h, hx => by cases h
  | n + 1, t, u, fuel, cs, x, h, hx => by
    simp only [tyIs] at h
    split at h
    · rename_i ht
      obtain ⟨b, rfl, _⟩ := DataW.trod_bool ht hx
      exact ⟨b, rfl, trivial⟩
    · rename_i k k' ht
      obtain rfl := sameK_eq h
      obtain ⟨m, rfl, _, hw⟩ := DataW.trod_int ht hx
      exact ⟨m, rfl, hw⟩
    · rename_i ht
      obtain ⟨b, rfl⟩ := trod_flt ht hx
      exact ⟨b, rfl, trivial⟩
    · rename_i ht
      obtain ⟨s, rfl, _, hs⟩ := DataW.trod_string ht hx
      exact ⟨s, rfl, hs⟩
    · rename_i e a ht
      simp only [Bool.and_eq_true] at h
      obtain ⟨⟨h1, h2⟩, h3⟩ := h
      have h2 := Nat.eq_of_beq_eq_true h2
      have h3 : 0 < a.size := Nat.le_of_ble_eq_true h3
      rcases DataW.trod_slice ht hx with ⟨rfl, _⟩ | ⟨ad, len, cap, elems, rest, m, _, rfl, _, hb, hl, hm, hlen, hel, _, _⟩
      · exact ⟨([] : List (Val a)), ⟨none, 0, rfl, Nat.le_refl _, fun hn => absurd rfl hn, fun _ => rfl⟩, Nat.zero_le _, fun i hi => absurd hi (Nat.not_lt_zero _)⟩
      · have key : ∀ i, i < len → ∃ y : Val a, (∃ c, RepT (rcW T (fun b => b < W.heap.size) noL W) a y c ∧ c.length = a.size ∧ ∀ j, j < a.size → W.cell? ((ad.add (i * a.size)).add j) = c[j]?) ∧ FitsT a y := by
          intro i hi
          have h0 := hel i hi
          rw [List.getElem?_eq_getElem (by omega), h2] at h0
          obtain ⟨c, hc, hc2⟩ := Option.bind_eq_some_iff.1 h0
          obtain ⟨y, hy, hf⟩ := trod_rep n e a m c _ h1 hc2
          obtain ⟨_, hcl, hcc⟩ := World.cells?_some hc
          exact ⟨y, ⟨c, hy, hcl, hcc⟩, hf⟩
        obtain ⟨l, hll, hp⟩ := list_of (dfl a) len key
        refine ⟨l, ⟨some ad, cap, by rw [hll], by rw [hll]; exact hl, fun hn => ?_, fun h => by cases h⟩, by rw [hll]; omega, fun i hi => (hp i (by omega)).2⟩
        rw [hll] at hn
        obtain ⟨⟨c0, _, hc0l, hc0⟩, _⟩ := hp 0 (by omega)
        have hc00 := hc0 0 h3
        simp only [Nat.zero_mul, Addr.add, if_true] at hc00
        rw [List.getElem?_eq_getElem (by omega)] at hc00
        have hspot : ad.spot = none ∧ ad.block < W.heap.size := by
          unfold World.cell? at hc00
          split at hc00
          · rename_i hh
            split at hc00
            · cases hc00
            · rename_i hs
              refine ⟨by simpa using hs, ?_⟩
              exact (Array.getElem?_eq_some_iff.1 hh).1
          · cases hc00
        obtain ⟨b, o, s⟩ := ad
        obtain ⟨hs, hlt⟩ := hspot
        simp only at hs hlt
        subst hs
        refine ⟨b, o, rfl, hlt, fun i hi => ?_⟩
        obtain ⟨⟨c, hc, hcl, hcc⟩, _⟩ := hp i (by omega)
        refine ⟨c, hc, fun j v hj => ?_⟩
        have hjl : j < a.size := by rw [← hcl]; exact (List.getElem?_eq_some_iff.1 hj).1
        have := hcc j hjl
        rw [hj] at this
        have hadd : ((⟨b, o, none⟩ : Addr).add (i * a.size)).add j = ⟨b, o + i * a.size + j, none⟩ := by
          unfold Addr.add
          by_cases h0 : i * a.size = 0
          · rw [if_pos h0, h0]
            by_cases h1 : j = 0
            · rw [if_pos h1, h1]; rfl
            · rw [if_neg h1]; rfl
          · rw [if_neg h0]
            by_cases h1 : j = 0
            · rw [if_pos h1, h1]; rfl
            · rw [if_neg h1]
        rw [hadd] at this
        exact this
    · rename_i fs a ht
      simp only [Bool.and_eq_true] at h
      obtain ⟨xs, m, _, _, hcl, hxl, hxs⟩ := DataW.trod_struct ht hx
      obtain ⟨y, hy, hf⟩ := flds_rep (cs := cs) (fuel := m) (fun t u cs' x h h' => trod_rep n t u m cs' x h h') fs.toList 0 a h.1 fun f hf => by
        obtain ⟨i, hi, he⟩ := List.getElem_of_mem hf
        have : fs[i]? = some f := by rw [← Array.getElem?_toList, List.getElem?_eq_getElem hi, he]
        have := hxs i f this
        rw [List.getElem?_eq_getElem (by rw [hxl]; simpa using hi)] at this
        exact ⟨_, this⟩
      refine ⟨y, ?_, hf⟩
      rw [List.drop_zero, List.take_of_length_le (by rw [hcl, Nat.eq_of_beq_eq_true h.2]; exact Nat.le_refl _)] at hy
      exact hy
    · cases h

/-- one argument -/
theorem arg_rep {n : Nat} {t : TypeId} {u : Ty} {v : Value} {d : DataW H} {ps : List MemPlace} {r : Reach} {b0 : Nat} (h : tyIs P n t u = true) (hval : Value.okWide P W r b0 t v) (hd : DataW.Trod enc P W 0 sp held t v d ps) :
    ∃ y : Val u, Rep (rcW T (fun b => b < W.heap.size) noL W) noL (encA u y) v ∧ FitsT u y := by
  obtain ⟨fuel, hf⟩ := hd
  obtain ⟨y, hy, hfit⟩ := trod_rep (T := T) n t u fuel _ _ h hf
  refine ⟨y, ?_, hfit⟩
  cases n with
  | zero => cases h
  | succ n =>
    have hr := RepL.ofT (L := noL) u hy
    have single : u.one = true → (∀ cs, v ≠ .agg cs) → Rep (rcW T (fun b => b < W.heap.size) noL W) noL (encA u y) v := by
      intro h1 hv
      obtain ⟨z, hz, hz2⟩ := cellsT_one u y h1
      have hc : v.cells = #[v] := by
        cases v <;> first | rfl | exact absurd rfl (hv _)
      rw [hz, hc] at hr
      simp only [RepL] at hr
      obtain ⟨w, tl, he, hw, _⟩ := hr
      simp only [List.cons.injEq] at he
      rw [hz2, he.1]
      exact hw
    simp only [tyIs] at h
    split at h
    · rename_i ht
      obtain ⟨b, rfl⟩ := WideShapes.okWide_bool ht hval
      exact single rfl (by simp)
    · rename_i k k' ht
      obtain ⟨b, rfl⟩ := WideShapes.okWide_int ht hval
      exact single rfl (by simp)
    · rename_i ht
      refine single rfl fun cs e => ?_
      subst e
      simp only [Value.okWide, ht, _root_.Go.Cell.okWide, _root_.Go.Cell.ok] at hval
    · rename_i ht
      obtain ⟨b, rfl⟩ := WideShapes.okWide_string ht hval
      exact single rfl (by simp)
    · rename_i e a ht
      obtain ⟨b, l, c, rfl⟩ := WideShapes.okWide_slice ht hval
      exact single rfl (by simp)
    · rename_i fs a ht
      obtain ⟨cs, rfl, _⟩ := WideShapes.okWide_struct ht hval
      unfold encA
      simp only [Ty.isAgg, Rep]
      exact ⟨cs, rfl, hr⟩
    · cases h

def tysIs (P : Program) : List TypeId → List Ty → Bool
  | [], [] => true
  | t :: ts, u :: us => tyIs P 12 t u && tysIs P ts us
  | _, _ => false

def FitsL : (us : List Ty) → Val (rowTy us) → Prop
  | [], _ => True
  | u :: us, x => FitsT u x.1 ∧ FitsL us x.2

/-- all arguments -/
theorem args_rep {r : Reach} {b0 : Nat} : ∀ {ts : List TypeId} {us : List Ty} {vs : List Value} {ds : List (DataW H)} {ps : List MemPlace}, tysIs P ts us = true → (∀ (j : Nat) t v, ts[j]? = some t → vs[j]? = some v → Value.okWide P W r b0 t v) →
    DataW.TrodAll enc P W 0 sp held ts vs ds ps → ∃ x : Val (rowTy us), RepL (rcW T (fun b => b < W.heap.size) noL W) noL (encL us x) vs ∧ FitsL us x
  | [], [], vs, ds, ps, _, _, h => by
    obtain ⟨rfl, rfl, rfl⟩ := ChangeShapes.trodAll_nil h
    exact ⟨(), by simp [encL, RepL], trivial⟩
  | [], _ :: _, _, _, _, h, _, _ => by cases h
  | _ :: _, [], _, _, _, h, _, _ => by cases h
  | t :: ts, u :: us, vs, ds, ps, h, hval, hd => by
    simp only [tysIs, Bool.and_eq_true] at h
    obtain ⟨v, vs', d, ds', p, q, rfl, rfl, rfl, h1, h2⟩ := ChangeShapes.trodAll_cons hd
    obtain ⟨y, hy, hfy⟩ := arg_rep (T := T) h.1 (hval 0 t v rfl rfl) h1
    obtain ⟨z, hz, hfz⟩ := args_rep h.2 (fun j t v h h' => hval (j + 1) t v (by simpa using h) (by simpa using h')) h2
    refine ⟨(y, z), ?_, hfy, hfz⟩
    simp only [encL, RepL]
    exact ⟨v, vs', rfl, hy, hz⟩

end
end Go.Eng
