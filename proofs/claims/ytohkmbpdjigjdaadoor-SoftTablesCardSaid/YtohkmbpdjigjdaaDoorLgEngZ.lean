/-
  The abstract machine, part 25: the world at a call's beginning; what a row asks at its end.
-/
import Derived.Test.YtohkmbpdjigjdaaDoorLgEngY
import Derived.LaidEql
import Derived.LaidLaws
import Derived.Carry
import Derived.ChangeShapes
namespace Go.Eng

/-- an error as errors.New makes it -/
def errD (nm : String) (text : List UInt8) : DataW Unit := .iface nm (.ptr (.agg [.lit (.string text)]))

def laidOf (nm : String) (ns : List (String × List UInt8 × Nat)) : List (String × DataW Unit) := ns.map fun x => (x.1, errD nm x.2.1)

/-- where the error lies that a variable holds -/
def errAt (w : World) (g : Nat) : Addr := match w.heap[g]? with
  | some (.cells cs _ _) => match cs.toList with
    | [.iface _ (.pointer (some a))] => a
    | _ => ⟨0, 0, none⟩
  | _ => ⟨0, 0, none⟩

/-- what a program is to have for its errors -/
structure ErrsOK (P : Program) (nm : String) (ti tp te ts : TypeId) : Prop where
  hi : ∃ ms, P.underlying ti = some (.interface ms)
  hrow : ∀ u, P.typeName? 3 u = some nm → u = tp
  hp : P.underlying tp = some (.pointer te)
  he : ∃ f : Field, P.underlying te = some (.struct #[f]) ∧ f.type = ts ∧ f.offset = 0
  hs : P.underlying ts = some .string
  hc : P.cellsOf te = 1
  hcs : P.cellsOf ts = 1
  info : ∃ i j, P.info? tp = some i ∧ i.comparable = true ∧ P.info? te = some j ∧ j.size ≠ 0

section
variable {P : Program} {nm : String} {ti tp te ts : TypeId}

theorem laid_errs (hO : ErrsOK P nm ti tp te ts) {W : World} : ∀ {ns : List (String × List UInt8 × Nat)} {ps : List MemPlace}, DataW.LaidVars P W (laidOf nm ns) ps →
    (∀ x, x ∈ ns → P.globalNamed x.1 = some x.2.2 ∧ (P.globals[x.2.2]?).map (·.type) = some ti) →
    (∀ b off, MemPlace.cell b off ∈ ps → (∃ c t, W.heap[b]? = some (.cells c t (0, 0))) ∧ ∀ u v, W.cell? ⟨b, off, none⟩ = some (.iface u v) → Value.okWide P W .any 0 u v) → ps.Nodup →
    (∀ x, x ∈ ns → (∃ T fz, W.heap[x.2.2]? = some (.cells #[.iface tp (.pointer (some (errAt W x.2.2)))] T fz)) ∧ MemPlace.cell (errAt W x.2.2).block (errAt W x.2.2).off ∈ ps) ∧
    (∀ x y, x ∈ ns → y ∈ ns → x.2.2 ≠ y.2.2 → errAt W x.2.2 ≠ errAt W y.2.2)
  | [], ps, _, _, _, _ => ⟨fun x hx => by simp at hx, fun x y hx => by simp at hx⟩
  | z :: ns, ps, h, hg, hrows, hnd => by
    obtain ⟨g0, t0, cs0, f0, p0, q0, hg0, ht0, hv0, hd0, hrest, e0⟩ := h
    obtain ⟨hz, hzt⟩ := hg z (by simp)
    have hg0 : P.globalNamed z.1 = some g0 := hg0
    obtain rfl := Option.some.inj (hz.symm.trans hg0)
    obtain rfl := Option.some.inj (hzt.symm.trans ht0)
    subst e0
    obtain ⟨l0⟩ := cs0
    have ok0 : ∀ u v, l0 = [.iface u v] → Value.okWide P W .any 0 u v := fun u v e => by
      subst e
      exact (hrows z.2.2 0 (by simp [MemPlace.row])).2 u v (by simpa using World.var?_cell hz hv0 0)
    obtain ⟨ms, hi⟩ := hO.hi
    obtain ⟨f, he, hft, hfo⟩ := hO.he
    obtain ⟨a0, s0, rfl, hc0, hs0, hz0, rfl⟩ := errorString_of_trod hi hO.hrow hO.hp he hft hfo hO.hs hO.hc hO.hcs hd0 ok0
    have hnd' := List.nodup_append.1 hnd
    obtain ⟨h1, h2⟩ := laid_errs hO (ns := ns) hrest (fun x hx => hg x (by simp [hx])) (fun b off hb => hrows b off (List.mem_append_right _ hb)) hnd'.2.1
    obtain ⟨T0, fz0, hh0⟩ : ∃ T fz, W.heap[z.2.2]? = some (.cells #[.iface tp (.pointer (some a0))] T fz) := by
      unfold World.var? at hv0
      rw [hz] at hv0
      simp only [Option.bind_some] at hv0
      split at hv0
      · rename_i cs T fz hh
        injection hv0 with hv0
        subst hv0
        exact ⟨T, fz, hh⟩
      · cases hv0
    have ha : errAt W z.2.2 = a0 := by simp [errAt, hh0]
    have hmem : MemPlace.cell a0.block a0.off ∈ MemPlace.row ⟨z.2.2, 0, none⟩ (#[Value.iface tp (.pointer (some a0))]).size ++ MemPlace.row a0 1 := List.mem_append_right _ (by simp [MemPlace.row])
    have hne : ∀ y, y ∈ ns → errAt W z.2.2 ≠ errAt W y.2.2 := by
      intro y hy e
      obtain ⟨_, hm⟩ := h1 y hy
      rw [← e, ha] at hm
      exact hnd'.2.2 _ hmem _ hm rfl
    refine ⟨fun x hx => ?_, fun x y hx hy hxy => ?_⟩
    · rcases List.mem_cons.1 hx with rfl | hx
      · rw [ha]
        exact ⟨⟨T0, fz0, hh0⟩, List.mem_append_left _ hmem⟩
      · obtain ⟨g1, g2⟩ := h1 x hx
        exact ⟨g1, List.mem_append_right _ g2⟩
    · rcases List.mem_cons.1 hx with hx | hx <;> rcases List.mem_cons.1 hy with hy | hy
      · rw [hx, hy] at hxy; exact absurd rfl hxy
      · rw [hx]; exact hne y hy
      · rw [hy]; exact fun e => hne x hx e.symm
      · exact h2 x y hx hy hxy

/-- THE WORLD AT A CALL's BEGINNING is as the machine takes it to be. -/
theorem laid_wok (hO : ErrsOK P nm ti tp te ts) {E : Env} {ns : List (String × List UInt8 × Nat)} (hg : ∀ x, x ∈ ns → P.globalNamed x.1 = some x.2.2 ∧ (P.globals[x.2.2]?).map (·.type) = some ti)
    (hglob : ∀ g row, E.glob g = some row → row = [.er (.s g)] ∧ ∃ x, x ∈ ns ∧ x.2.2 = g) (ht : E.errT = tp) (hne : E.atT ≠ E.errT) {W : World} (h : laidMet P (laidOf nm ns) W) : WOK P E (errAt W) W := by
  obtain ⟨ps, hl, hnd, hrows⟩ := h
  obtain ⟨h1, h2⟩ := laid_errs hO hl hg hrows hnd
  refine ⟨fun g row hr => ?_, fun w' hw t ms hms g g' hg1 hg2 => ?_, hne⟩
  · obtain ⟨rfl, x, hx, rfl⟩ := hglob g row hr
    obtain ⟨⟨T, fz, hh⟩, _⟩ := h1 x hx
    refine ⟨_, T, fz, hh, ?_⟩
    simp only [RepL, Rep, RepE]
    exact ⟨_, [], rfl, ⟨hr, by show _ = Value.iface E.errT _; rw [ht]; rfl⟩, rfl⟩
  · obtain ⟨_, x, hx, rfl⟩ := hglob g _ hg1
    obtain ⟨_, y, hy, rfl⟩ := hglob g' _ hg2
    obtain ⟨i, j, hinfo, hcomp, hte, hsz⟩ := hO.info
    rw [ht]
    by_cases e : x.2.2 = y.2.2
    · rw [e, decide_eq_true rfl]
      exact run_equalIn_iface_ptr_same w' 9998 _ hms hO.hp hinfo hcomp hte
    · rw [decide_eq_false e]
      obtain ⟨c1, T1, hc1⟩ := (hrows _ _ (h1 x hx).2).1
      obtain ⟨c2, T2, hc2⟩ := (hrows _ _ (h1 y hy).2).1
      refine run_equalIn_iface_ptr_other (ca := c1) (cb := c2) (ta := T1) (tb := T2) w' 9998 hms hO.hp hinfo hcomp hte hsz (h2 x y hx hy e) ?_ ?_
      · rw [hw _ (lt_of_heap hc1)]; exact hc1
      · rw [hw _ (lt_of_heap hc2)]; exact hc2

end

/-- A LAW's CALL -/
theorem law_call {P : Program} {E : Env} {W : World} {f : FuncId} {as : List AV} {vs : Array Value} (hW : WOK P E (errAt W) W) (hargs : RepL (rcW (statOf E (errAt W)) (fun b => b < W.heap.size) W) noL as vs.toList)
    {b : Bool} (hC : Con P E (errAt W) f as 0 (.v (.bool b)) []) : Calls P f vs W fun e W' => e = .returned (.bool b) ∧ RowKit.Below W.heap.size W W' := by
  refine (hC W _ vs hW (fun b hb => hb) hargs).mono fun e W' he => ?_
  cases e with
  | returned v =>
    obtain ⟨hio, hs, hw, I', _, _, _, pls, hres⟩ := he
    have hpl : pls = [] := List.length_eq_zero_iff.1 hres.len
    have hr := hres.rep noL (by rw [hpl]; intro j p hj; simp at hj)
    simp only [Rep] at hr
    subst hr
    exact ⟨rfl, hio.1, hio.2.1, hio.2.2, hs, hw⟩
  | panicked ch => exact he.elim
  | outgrown => exact he.elim

/-- all arguments read as they did -/
theorem trodAll_below {H : Type} {enc : TypeId × Value → H} {P : Program} (hl : laidOutB P = true) {W W' : World} (hb : RowKit.Below W.heap.size W W') : ∀ {ts : List TypeId} {vs : List Value} {ds : List (DataW H)} {ps : List MemPlace},
    (∀ t, t ∈ ts → P.readableRec t = true ∧ t < P.types.size) → (∀ x, x ∈ ps → x.block < W.heap.size) → DataW.TrodAll enc P W 0 (fun _ => true) true ts vs ds ps → DataW.TrodAll enc P W' 0 (fun b => decide (b < W.heap.size)) true ts vs ds ps
  | [], vs, ds, ps, _, _, h => by
    obtain ⟨rfl, rfl, rfl⟩ := ChangeShapes.trodAll_nil h
    rfl
  | t :: ts, vs, ds, ps, ht, hp, h => by
    obtain ⟨v, vs', d, ds', p, q, rfl, rfl, rfl, h1, h2⟩ := ChangeShapes.trodAll_cons h
    exact ⟨p, q, RowKit.Below.trod hl (ht t (by simp)).1 (ht t (by simp)).2 h1 hb (fun x hx => hp x (List.mem_append_left _ hx)), trodAll_below hl hb (fun t h => ht t (by simp [h])) (fun x hx => hp x (List.mem_append_right _ hx)) h2, rfl⟩

end Go.Eng
