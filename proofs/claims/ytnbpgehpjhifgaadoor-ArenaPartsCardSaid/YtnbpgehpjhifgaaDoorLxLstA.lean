/-
  What slices.Insert and slices.Delete do: cells laid into a row (no program here).
-/
import Derived.Test.YtnbpgehpjhifgaaDoorLxEngRd
import Derived.Laws.IdiomCopy
import Derived.ArgAppend
import Derived.Lib.SliceRun
namespace Go.Eng
open Go

theorem heap_setCells {b : Nat} {T : TypeId} : ∀ (vs : List Value) (o : Nat) (w : World) (cs : Array Value), w.heap[b]? = some (.cells cs T (0, 0)) →
    (w.setCells b o vs).heap[b]? = some (.cells (wrAt cs o vs) T (0, 0)) ∧ (w.setCells b o vs).heap.size = w.heap.size ∧ (∀ k, k ≠ b → (w.setCells b o vs).heap[k]? = w.heap[k]?) ∧ IO w (w.setCells b o vs)
  | [], o, w, cs, h => ⟨h, rfl, fun _ _ => rfl, IO.refl w⟩
  | v :: r, o, w, cs, h => by
    obtain ⟨h1, h2, h3, h4⟩ := heap_setCells r (o + 1) (w.setCell ⟨b, o, none⟩ v) (cs.setIfInBounds o v) (heap_setCell_same w b o cs T v h)
    rw [World.setCells]
    refine ⟨h1, ?_, fun k hk => ?_, h4⟩
    · rw [h2]; simp [World.setCell]
    · rw [h3 k hk]
      exact heap_setCell_other w _ k v hk

theorem cell_isSome {w : World} {b o : Nat} {cs : Array Value} {T : TypeId} (h : w.heap[b]? = some (.cells cs T (0, 0))) (ho : o < cs.size) : (w.cell? ⟨b, o, none⟩).isSome = true := by
  rw [cell?_cells h, Array.getElem?_eq_getElem ho]; rfl

theorem frozen_no {w : World} {b o : Nat} {cs : Array Value} {T : TypeId} (h : w.heap[b]? = some (.cells cs T (0, 0))) : w.frozen? ⟨b, o, none⟩ = false := by simp [World.frozen?, h]

/-- elements made nothings, of however many cells -/
theorem run_clear_row {P : Program} (w : World) (t e ty : TypeId) (z : Value) (ht : P.underlying t = some (.slice e)) (hv : ∀ w, (zeroValue e).run P w = .ok z w) {b o n c : Nat} {cs : Array Value} {T : TypeId} (hh : w.heap[b]? = some (.cells cs T (0, 0)))
    (hs : o + n * z.cells.size ≤ cs.size) (h1 : ∀ v, v ∈ z.cells.toList → v.oneCell' = true) :
    (Builtin.clear_ #[t] ty #[.slice (some ⟨b, o, none⟩) n c]).run P w = .ok (.tuple #[]) (w.setCells b o (Builtin.zeroCells z.cells n).toList) := by
  have hl : (Builtin.zeroCells z.cells n).toList.length = n * z.cells.size := by simp [size_zeroCells]
  have hmem : ∀ v, v ∈ (Builtin.zeroCells z.cells n).toList → v.oneCell' = true := by
    intro v hv
    simp only [Builtin.zeroCells, Array.toList_map, List.mem_map] at hv
    obtain ⟨i, hi, rfl⟩ := hv
    have hi := Array.mem_range.1 (by simpa using hi)
    have hpos : 0 < z.cells.size := by
      apply Nat.pos_of_ne_zero
      intro h0
      rw [h0, Nat.mul_zero] at hi
      omega
    have hlt := Nat.mod_lt i hpos
    rw [getElem!_pos z.cells _ hlt]
    exact h1 _ (by simp)
  have hst := run_storeCells_cells (P := P) b o (Builtin.zeroCells z.cells n).toList 0 w (fun j hj => by
      rw [Nat.add_zero]
      exact cell_isSome hh (by rw [hl] at hj; omega)) (fun j hj => frozen_no hh) hmem
  simp only [Nat.add_zero] at hst
  cases n with
  | zero =>
    have : (Builtin.zeroCells z.cells 0).toList = [] := by simp [Builtin.zeroCells]
    rw [this]
    simp [Builtin.clear_, run_underlying ht, World.setCells]
  | succ n => simp [Builtin.clear_, run_underlying ht, hv, hst]

/-- elements copied, of however many cells -/
theorem run_copy_row {P : Program} (w : World) {t e ty : TypeId} {i : TypeInfo} {sz : Nat} (ht : P.underlying t = some (.slice e)) (hi : P.info? e = some i) (hsz : i.size = sz) {b o dLen dCap sLen sCap : Nat} {a : Addr} {G : List Value} {cs : Array Value} {T : TypeId} (hn : G.length = min sLen dLen * sz)
    (hsrc : ∀ (j : Nat) v, G[j]? = some v → w.cell? (a.add j) = some v) (hh : w.heap[b]? = some (.cells cs T (0, 0))) (hs : o + G.length ≤ cs.size) (h1 : ∀ v, v ∈ G → v.oneCell' = true) :
    (Builtin.copy_ #[t, t] ty #[.slice (some ⟨b, o, none⟩) dLen dCap, .slice (some a) sLen sCap]).run P w = .ok (goInt (min sLen dLen : Nat)) (w.setCells b o G) := by
  have hl := run_loadCells_list (P := P) w a G hsrc
  have hst := run_storeCells_cells (P := P) b o G 0 w (fun j hj => by rw [Nat.add_zero]; exact cell_isSome hh (by omega)) (fun j hj => frozen_no hh) h1
  simp only [Nat.add_zero] at hst
  rw [hn] at hl
  subst hsz
  simp [Builtin.copy_, run_underlying ht, sizeOf, typeInfo, hi, Builtin.lenOf, Builtin.firstCells, hl, hst, goInt]

end Go.Eng
