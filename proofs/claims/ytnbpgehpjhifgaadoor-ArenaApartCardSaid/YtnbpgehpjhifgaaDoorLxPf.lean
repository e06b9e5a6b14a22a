/-
  Texts of the proof, one behind the other.
-/
import Derived.Test.YtnbpgehpjhifgaaDoorLxPe
import Derived.Test.YtnbpgehpjhifgaaDoorProg
import Derived.KernelRfl
import Derived.WalkKit
import Derived.Deep.LoopGhost
import Derived.Deep.RegionLaw
import Derived.Lib.Walk
import Derived.Shelf.RegionOpenPlain
import Derived.Sort.WalkB12
import Derived.Shelf.Spec.SlicesInsert
import Derived.Lib.AppendZerosOnto
import Derived.Deep.Draws
import Derived.Shelf.SlIter.AllValues
import Derived.RangeFuncWrites
import Derived.Shelf.SlicesE.Clone

/-
  slices.Insert at a slice type, walked.
-/
namespace Go.Proofs.LxLst.I24
open Go Go.Eng Go.RowKit Go.Lib

theorem underS : Tryd.prog.underlying 57 = some (.slice 60) := by kernel_rfl
theorem infoE : (Tryd.prog.info? 60).map (fun i => (i.zero, i.size, i.bytes)) = some (some (.pointer none), 1, 8) := by kernel_rfl
theorem mixed' : Tryd.prog.follows .mixedOrders = true := by kernel_rfl
theorem sizeE : ∀ w, (Go.sizeOf 60).run Tryd.prog w = .ok 1 w := by
  obtain ⟨i0, hi0, hz0, hz1, hz2⟩ := info_parts infoE
  intro w
  simp [sizeOf, typeInfo, hi0, hz1]

set_option maxHeartbeats 4000000 in
set_option maxRecDepth 100000 in
/-- at the end, with room -/
theorem endRoom {w : World} {n cap m capy b off vb voff : Nat} {G : List Value} {cs : Array Value} {T : TypeId} (hm : 0 < m) (hg : n + m ≤ cap) (hbig : (n + m) * (8 + 1) ≤ 1099511627776) (hGl : G.length = m * 1) (hG1 : ∀ v, v ∈ G → v.oneCell' = true)
    (hvs : ∀ (j : Nat) v, G[j]? = some v → w.cell? ⟨vb, voff + j, none⟩ = some v) (hh : w.heap[b]? = some (.cells cs T (0, 0))) (hroom : off + cap * 1 ≤ cs.size) :
    Calls Tryd.prog 24 #[.slice (some ⟨b, off, none⟩) n cap, .int .i64 n, .slice (some ⟨vb, voff, none⟩) m capy] w fun e w' => e = .returned (.slice (some ⟨b, off, none⟩) (n + m) cap) ∧ w' = w.setCells b (off + n * 1) G := by
  have mixed := mixed'
  have t62 := underS
  obtain ⟨i0, hi0, hz0, hz1, hz2⟩ := info_parts infoE
  have hrun : ∀ ty, (Builtin.append_ #[57, 57] ty #[.slice (some ⟨b, off, none⟩) n cap, .slice (some ⟨vb, voff, none⟩) m capy]).run Tryd.prog w = .ok (.slice (some ⟨b, off, none⟩) (n + m) cap) (w.setCells b (off + n * 1) G) := by
    intro ty
    have := run_append_room_cells (P := Tryd.prog) w 57 ty 60 i0 t62 hi0 b off n cap ⟨vb, voff, none⟩ m capy G (by rw [hz1]; exact hGl) (fun j u hj => by rw [Addr.add_lit]; exact hvs j u hj) hG1 hg
      (fun j hj => cell_isSome hh (by rw [hz1]; omega)) (fun j hj => frozen_no hh)
    rw [hz1] at this
    exact this
  have hz1' : ¬ ((m : Int) = 0) := by omega
  clear hvs hh hroom hG1 hGl
  try simp only [Nat.mul_one] at *
  go_enter Tryd.func24, Tryd.ntmps24
  go_wp2_with (at_builtin; refine Lib.wpList_append_run _ rfl _ _ _ _ rfl _ _ rfl rfl _ _ (hrun _) ?_)
  go_ret
  exact ⟨rfl, rfl⟩

set_option maxHeartbeats 4000000 in
set_option maxRecDepth 100000 in
/-- at the end, with none -/
theorem endGrow {w : World} {n cap m capy vb voff nc : Nat} {ad : Option Addr} {w1 : World} (hm : 0 < m) (hnc : n ≤ cap) (hg : cap < n + m) (hbig : (n + m) * (8 + 1) ≤ 1099511627776)
    (hrun : (Builtin.append_ #[57, 57] 57 #[.slice ad n cap, .slice (some ⟨vb, voff, none⟩) m capy]).run Tryd.prog w = .ok (.slice (some ⟨w.heap.size, 0, none⟩) (n + m) nc) w1) :
    Calls Tryd.prog 24 #[.slice ad n cap, .int .i64 n, .slice (some ⟨vb, voff, none⟩) m capy] w fun e w' => e = .returned (.slice (some ⟨w.heap.size, 0, none⟩) (n + m) nc) ∧ w' = w1 := by
  have mixed := mixed'
  have t62 := underS
  have hz1' : ¬ ((m : Int) = 0) := by omega
  try simp only [Nat.mul_one] at *
  go_enter Tryd.func24, Tryd.ntmps24
  cases ad with
  | none =>
    go_wp2_with (at_builtin; refine Lib.wpList_append_run _ rfl _ _ _ _ rfl _ _ rfl rfl _ _ hrun ?_)
    all_goals (go_ret; exact ⟨rfl, rfl⟩)
  | some a =>
    obtain ⟨ab, ao, asp⟩ := a
    go_wp2_with (at_builtin; refine Lib.wpList_append_run _ rfl _ _ _ _ rfl _ _ rfl rfl _ _ hrun ?_)
    all_goals (go_ret; exact ⟨rfl, rfl⟩)

set_option maxHeartbeats 4000000 in
set_option maxRecDepth 100000 in
/-- within, with room -/
theorem shift {w : World} {n cap m capy b off i vb voff : Nat} {F G : List Value} {cs csv : Array Value} {T Tv : TypeId} (hm : 0 < m) (hi : i < n) (hg : n + m ≤ cap) (hbig : (n + m) * (8 + 1) ≤ 1099511627776) (hFl : F.length = n * 1) (hF1 : ∀ v, v ∈ F → v.oneCell' = true)
    (hGl : G.length = m * 1) (hG1 : ∀ v, v ∈ G → v.oneCell' = true) (hat : ∀ (j : Nat) v, F[j]? = some v → cs[off + j]? = some v)
    (hatv : ∀ (j : Nat) v, G[j]? = some v → csv[voff + j]? = some v) (hh : w.heap[b]? = some (.cells cs T (0, 0))) (hhv : w.heap[vb]? = some (.cells csv Tv (0, 0))) (hvb : vb ≠ b) (hroom : off + cap * 1 ≤ cs.size) :
    Calls Tryd.prog 24 #[.slice (some ⟨b, off, none⟩) n cap, .int .i64 i, .slice (some ⟨vb, voff, none⟩) m capy] w fun e w' => e = .returned (.slice (some ⟨b, off, none⟩) (n + m) cap) ∧
      w' = (w.drew.setCells b (off + (i + m) * 1) (F.drop (i * 1))).setCells b (off + i * 1) G := by
  have mixed := mixed'
  have t62 := underS
  obtain ⟨i0, hi0, hz0, hz1, hz2⟩ := info_parts infoE
  have hz1' : ¬ ((m : Int) = 0) := by omega
  have hz2' : ¬ ((i : Int) = (n : Int)) := by omega
  have hov : ∀ lb cb, (callFunc 37 #[.slice (some ⟨vb, voff, none⟩) m capy, .slice (some ⟨b, off + (i + m) * 1, none⟩) lb cb]).run Tryd.prog w = .ok (.value (.bool false)) w := fun lb cb => by
    rw [run_callFunc_extern Tryd.func37 (by kernel_rfl) (by kernel_rfl) (by kernel_rfl) (e := Extern.SlicesOverlaps.overlaps #[57, 57] #[4]) (by kernel_rfl),
      Lib.run_overlaps_apart w 57 4 60 underS 1 sizeE ⟨vb, voff, none⟩ ⟨b, off + (i + m) * 1, none⟩ m capy lb cb hvb Tv T csv.size cs.size (by simp [World.shape?, hhv]) (by simp [World.shape?, hh]) (by omega) (frozen_no hhv) (frozen_no hhv)]
    rfl
  have hdl : (F.drop (i * 1)).length = (n - i) * 1 := by rw [List.length_drop, hFl]; omega
  have hw1 : IntKind.i64.wrap ((i : Int) + (m : Int)) = (i : Int) + (m : Int) := by rw [IntKind.wrap_i64]; omega
  have hw2 : IntKind.i64.wrap ((n : Int) + (m : Int)) = (n : Int) + (m : Int) := by rw [IntKind.wrap_i64]; omega
  have hb1 : (0 : Int) ≤ (i : Int) + (m : Int) := by omega
  have hin : i ≤ n := by omega
  have htn : ((i : Int) + (m : Int)).toNat = i + m := by omega
  have hb2 : ¬ (cap = i + m) := by omega
  have hb3 : (i : Int) ≤ (n : Int) + (m : Int) := by omega
  have hb4 : ¬ (cap = i) := by omega
  have hcp1 : ∀ ty dc sc, (Builtin.copy_ #[57, 57] ty #[.slice (some ⟨b, off + (i + m) * 1, none⟩) (n + m - (i + m)) dc, .slice (some ⟨b, off + i * 1, none⟩) (n + m - i) sc]).run Tryd.prog w.drew = .ok (goInt (min (n + m - i) (n + m - (i + m)) : Nat)) (w.drew.setCells b (off + (i + m) * 1) (F.drop (i * 1))) := fun ty dc sc =>
    Go.Eng.run_copy_row (cs := cs) (T := T) w.drew t62 hi0 hz1 (by rw [hdl, Nat.min_def]; split <;> omega) (fun j v hj => by
      rw [Addr.add_lit]
      show w.cell? _ = _
      rw [cell?_cells hh, Nat.add_assoc]
      exact hat _ v (by rwa [List.getElem?_drop] at hj)) (show w.drew.heap[b]? = _ from hh) (by rw [hdl]; omega) (fun v hv => hF1 v (List.mem_of_mem_drop hv))
  obtain ⟨W1, hW1⟩ : ∃ W1, W1 = w.drew.setCells b (off + (i + m) * 1) (F.drop (i * 1)) := ⟨_, rfl⟩
  obtain ⟨g1, g2, g3, g4⟩ := heap_setCells (F.drop (i * 1)) (off + (i + m) * 1) w.drew cs (show w.drew.heap[b]? = _ from hh)
  rw [← hW1] at g1 g2 g3 g4 hcp1
  have hcp2 : ∀ (W : World), W.heap = W1.heap → ∀ ty dc, (Builtin.copy_ #[57, 57] ty #[.slice (some ⟨b, off + i * 1, none⟩) (n + m - i) dc, .slice (some ⟨vb, voff, none⟩) m capy]).run Tryd.prog W = .ok (goInt (min m (n + m - i) : Nat)) (W.setCells b (off + i * 1) G) := fun W hWh ty dc =>
    Go.Eng.run_copy_row (cs := wrAt cs (off + (i + m) * 1) (F.drop (i * 1))) (T := T) W t62 hi0 hz1 (by rw [hGl, Nat.min_def]; split <;> omega) (fun j v hj => by
      have e1 : W.cell? ⟨vb, voff + j, none⟩ = W1.cell? ⟨vb, voff + j, none⟩ := cell?_heap vb (voff + j) (by rw [hWh])
      have e2 : W1.cell? ⟨vb, voff + j, none⟩ = w.drew.cell? ⟨vb, voff + j, none⟩ := cell?_heap vb (voff + j) (g3 vb hvb)
      rw [Addr.add_lit, e1, e2]
      show w.cell? _ = _
      rw [cell?_cells hhv]
      exact hatv j v hj) (by rw [hWh]; exact g1) (by rw [wrAt_size, hGl]; omega) hG1
  clear g1 g2 g3 g4 hat hatv hh hhv hroom hF1 hG1 hFl hGl hdl
  try simp only [Nat.mul_one] at *
  go_enter Tryd.func24, Tryd.ntmps24
  go_wp2_with (simp only [hov])
  go_region_law_o (refine Go.Proofs.step_copy_runI rfl _ _ 57 57 rfl _ _ (by simp [Act.eval, Act.put]) (by simp [Act.eval, Act.put]) (hcp1 _ _ _) ?_)
  go_wp2_with (at_builtin; refine Go.Proofs.wpList_copy_runI _ rfl _ _ 57 57 rfl _ _ rfl rfl (hcp2 _ rfl _ _) ?_)
  go_ret
  first | exact ⟨rfl, rfl⟩ | exact ⟨rfl, by rw [hW1]⟩

set_option maxHeartbeats 4000000 in
set_option maxRecDepth 100000 in
/-- within, with none -/
theorem grow {w : World} {n cap m capy b off i vb voff : Nat} {F G : List Value} {cs csv : Array Value} {T Tv : TypeId} (hm : 0 < m) (hi : i < n) (hnc : n ≤ cap) (hg : cap < n + m) (hbig : (n + m) * (8 + 1) ≤ 1099511627776) (hFl : F.length = n * 1) (hF1 : ∀ v, v ∈ F → v.oneCell' = true)
    (hGl : G.length = m * 1) (hG1 : ∀ v, v ∈ G → v.oneCell' = true) (hat : ∀ (j : Nat) v, F[j]? = some v → cs[off + j]? = some v)
    (hatv : ∀ (j : Nat) v, G[j]? = some v → csv[voff + j]? = some v) (hh : w.heap[b]? = some (.cells cs T (0, 0))) (hhv : w.heap[vb]? = some (.cells csv Tv (0, 0))) :
    ∃ (N : Nat) (ROW : Array Value), n + m ≤ N ∧ ROW.size = N * 1 ∧ (∀ (j : Nat), j < i * 1 → ROW[j]? = F[j]?) ∧
    Calls Tryd.prog 24 #[.slice (some ⟨b, off, none⟩) n cap, .int .i64 i, .slice (some ⟨vb, voff, none⟩) m capy] w fun e w' => e = .returned (.slice (some ⟨w.heap.size, 0, none⟩) (n + m) N) ∧
      w' = (((w.alloc (.cells ROW 60)).drew.setCells w.heap.size (i * 1) G).drew).setCells w.heap.size ((i + m) * 1) (F.drop (i * 1)) := by
  have mixed := mixed'
  have t62 := underS
  have tint : Tryd.prog.underlying 3 = some (.int .i64) := by kernel_rfl
  obtain ⟨i0, hi0, hz0, hz1, hz2⟩ := info_parts infoE
  have hz1' : ¬ ((m : Int) = 0) := by omega
  have hz2' : ¬ ((i : Int) = (n : Int)) := by omega
  have hz3 : (cap : Int) < (n : Int) + (m : Int) := by omega
  have hkk : (n : Int) + (m : Int) - (i : Int) = ((n + m - i : Nat) : Int) := by omega
  have hik : i + (n + m - i) = n + m := by omega
  have hbw : b < w.heap.size := (Array.getElem?_eq_some_iff.1 hh).1
  have hvw : vb < w.heap.size := (Array.getElem?_eq_some_iff.1 hhv).1
  have htl : (F.take (i * 1)).length = i * 1 := by rw [List.length_take, hFl]; omega
  have hold : (Builtin.firstCells i0.size i (.slice (some ⟨b, off, none⟩) i cap)).run Tryd.prog w.drew = .ok (F.take (i * 1)).toArray w.drew := by
    rw [hz1]
    exact run_firstCells_some w.drew 1 i ⟨b, off, none⟩ i cap (F.take (i * 1)) htl (fun j v hj => by
      rw [Addr.add_lit]
      rw [List.getElem?_take] at hj
      split at hj
      · show w.cell? _ = _
        rw [cell?_cells hh]
        exact hat j v hj
      · cases hj)
  have hrz : ∀ ty, (Builtin.append_ #[57, 3] ty #[.slice (some ⟨b, off, none⟩) i cap, .int .i64 ((n : Int) + (m : Int) - (i : Int))]).run Tryd.prog w =
      .ok (.slice (some ⟨w.heap.size, 0, none⟩) (n + m) (grownCap w (n + m) cap 60)) (w.drew.alloc (.cells ((F.take (i * 1)).toArray ++ Builtin.zeroCells (.pointer none : Value).cells (n + m - i) ++ Builtin.zeroCells (.pointer none : Value).cells (grownCap w (n + m) cap 60 - (n + m))) 60)) := fun ty => by
    have h := Lib.run_append_grow_zeros w 57 3 ty 60 i0 _ .i64 .i64 t62 tint hi0 hz0 (some ⟨b, off, none⟩) i cap (F.take (i * 1)) hold (n + m - i) (by omega) (by omega) (by omega) (by omega) (by rw [hz2]; omega) (by rw [hz2, hik]; exact growslice_fits hg (by omega))
    rw [hik] at h
    rw [hkk]
    exact h
  obtain ⟨N, hN⟩ : ∃ N, N = grownCap w (n + m) cap 60 := ⟨_, rfl⟩
  obtain ⟨ROW, hROW⟩ : ∃ ROW : Array Value, ROW = (F.take (i * 1)).toArray ++ Builtin.zeroCells (.pointer none : Value).cells (n + m - i) ++ Builtin.zeroCells (.pointer none : Value).cells (N - (n + m)) := ⟨_, rfl⟩
  have hGn : n + m ≤ N := by rw [hN]; exact grownCap_ge w _ _ _
  rw [← hN] at hrz
  rw [← hROW] at hrz
  have hRs : ROW.size = N * 1 := by
    rw [hROW]
    simp only [Array.size_append, List.size_toArray, size_zeroCells, htl]
    show i * 1 + (n + m - i) * 1 + (N - (n + m)) * 1 = N * 1
    omega
  have hRt : ∀ (j : Nat), j < i * 1 → ROW[j]? = F[j]? := by
    intro j hj
    rw [hROW, ← Array.getElem?_toList]
    simp only [Array.toList_append, List.append_assoc]
    rw [List.getElem?_append_left (by show j < (F.take (i * 1)).length; rw [htl]; exact hj), List.getElem?_take_of_lt hj]
  refine ⟨N, ROW, hGn, hRs, hRt, ?_⟩
  obtain ⟨W1, hW1⟩ : ∃ W1, W1 = w.drew.alloc (.cells ROW 60) := ⟨_, rfl⟩
  rw [← hW1] at hrz
  have hh1 : W1.heap[w.heap.size]? = some (.cells ROW 60 (0, 0)) := by rw [hW1]; exact heap_push_new (w := w) (w' := w.drew.alloc (.cells ROW 60)) rfl
  have hho : ∀ k, k < w.heap.size → W1.heap[k]? = w.heap[k]? := fun k hk => by rw [hW1]; exact heap_push_old (w := w) (w' := w.drew.alloc (.cells ROW 60)) rfl k hk
  have hdl : (F.drop (i * 1)).length = (n - i) * 1 := by rw [List.length_drop, hFl]; omega
  have hcpA : ∀ (W : World), W.heap = W1.heap → ∀ ty dc, (Builtin.copy_ #[57, 57] ty #[.slice (some ⟨w.heap.size, i * 1, none⟩) (n + m - i) dc, .slice (some ⟨vb, voff, none⟩) m capy]).run Tryd.prog W = .ok (goInt (min m (n + m - i) : Nat)) (W.setCells w.heap.size (i * 1) G) := fun W hWh ty dc =>
    Go.Eng.run_copy_row (cs := ROW) (T := 60) W t62 hi0 hz1 (by rw [hGl, Nat.min_def]; split <;> omega) (fun j v hj => by
      have e1 : W.cell? ⟨vb, voff + j, none⟩ = w.cell? ⟨vb, voff + j, none⟩ := cell?_heap vb (voff + j) (by rw [hWh]; exact hho vb hvw)
      rw [Addr.add_lit, e1, cell?_cells hhv]
      exact hatv j v hj) (by rw [hWh]; exact hh1) (by rw [hRs, hGl]; omega) hG1
  obtain ⟨g1, g2, g3, g4⟩ := heap_setCells G (i * 1) W1 ROW hh1
  have hcpB : ∀ (W : World), W.heap = (W1.setCells w.heap.size (i * 1) G).heap → ∀ ty dc sc, (Builtin.copy_ #[57, 57] ty #[.slice (some ⟨w.heap.size, (i + m) * 1, none⟩) (n + m - (i + m)) dc, .slice (some ⟨b, off + i * 1, none⟩) (n - i) sc]).run Tryd.prog W = .ok (goInt (min (n - i) (n + m - (i + m)) : Nat)) (W.setCells w.heap.size ((i + m) * 1) (F.drop (i * 1))) := fun W hWh ty dc sc =>
    Go.Eng.run_copy_row (cs := wrAt ROW (i * 1) G) (T := 60) W t62 hi0 hz1 (by rw [hdl, Nat.min_def]; split <;> omega) (fun j v hj => by
      have e1 : W.cell? ⟨b, off + i * 1 + j, none⟩ = w.cell? ⟨b, off + i * 1 + j, none⟩ := cell?_heap b _ (by rw [hWh, g3 b (by omega)]; exact hho b hbw)
      rw [Addr.add_lit, e1, cell?_cells hh, Nat.add_assoc]
      exact hat _ v (by rwa [List.getElem?_drop] at hj)) (by rw [hWh]; exact g1) (by rw [wrAt_size, hRs, hdl]; omega) (fun v hv => hF1 v (List.mem_of_mem_drop hv))
  have hGi : ¬ (N = i) := by omega
  have hGim : ¬ (N = i + m) := by omega
  have hci : ¬ (cap = i) := by omega
  subst hW1
  have hE1 : ((w.alloc (.cells ROW 60)).drew).heap = (w.drew.alloc (.cells ROW 60)).heap := rfl
  have hE2 : (((w.alloc (.cells ROW 60)).drew.setCells w.heap.size (i * 1) G).drew).heap = ((w.drew.alloc (.cells ROW 60)).setCells w.heap.size (i * 1) G).heap := rfl
  have hw1 : IntKind.i64.wrap ((i : Int) + (m : Int)) = (i : Int) + (m : Int) := by rw [IntKind.wrap_i64]; omega
  have hw2 : IntKind.i64.wrap ((n : Int) + (m : Int)) = (n : Int) + (m : Int) := by rw [IntKind.wrap_i64]; omega
  have hw3 : IntKind.i64.wrap ((n : Int) + (m : Int) - (i : Int)) = (n : Int) + (m : Int) - (i : Int) := by rw [IntKind.wrap_i64]; omega
  have hb1 : (0 : Int) ≤ (i : Int) + (m : Int) := by omega
  have hin : i ≤ n := by omega
  have htn : ((i : Int) + (m : Int)).toNat = i + m := by omega
  have hb3 : (i : Int) ≤ (n : Int) := by omega
  have hic : i ≤ cap := by omega
  clear hkk hik hold hROW hN hRs hRt hh hhv hat hatv hF1 hG1 hFl hGl hdl g1 g2 g3 g4 hh1 hho htl
  try simp only [Nat.mul_one] at *
  go_enter Tryd.func24, Tryd.ntmps24
  go_wp2_with (first
    | (at_builtin; refine Lib.wpList_append_run _ rfl _ _ _ _ rfl _ _ rfl rfl _ _ (hrz _) ?_)
    | (at_builtin; refine Go.Proofs.wpList_copy_runI _ rfl _ _ 57 57 rfl _ _ rfl rfl (hcpA _ hE1 _ _) ?_))
  go_region_law_o (refine Go.Proofs.step_copy_runI rfl _ _ 57 57 rfl (.slice (some ⟨w.heap.size, i + m, none⟩) (n + m - (i + m)) (N - (i + m))) (.slice (some ⟨b, off + i, none⟩) (n - i) (cap - i)) (by simp [Act.eval, Act.put]) (by simp [Act.eval, Act.put]) (hcpB _ hE2 _ _ _) ?_)
  go_wp2
  go_ret
  exact ⟨rfl, rfl⟩

theorem ok : LstOK Tryd.prog 24 (.ins 1 8) := by
  intro w n ad cap F i m ay capy G hrow hrowy hne hm hin hbig
  obtain ⟨hnc, hFl, hF1, hpl⟩ := hrow
  obtain ⟨hmc, hGl, hG1, hply⟩ := hrowy
  rcases hply with h0 | ⟨vb, voff, csv, Tv, rfl, hhv, hroomv, hatv⟩
  · omega
  obtain ⟨i0, hi0, hz0, hz1, hz2⟩ := info_parts infoE
  have hvs : ∀ (j : Nat) v, G[j]? = some v → w.cell? ⟨vb, voff + j, none⟩ = some v := fun j v hj => by rw [cell?_cells hhv]; exact hatv j v hj
  have hlen : (F.take (i * 1) ++ G ++ F.drop (i * 1)).length = (n + m) * 1 := by
    simp only [List.length_append, List.length_take, List.length_drop]
    omega
  by_cases hi : i = n
  · subst hi
    have hF' : F.take (i * 1) ++ G ++ F.drop (i * 1) = F ++ G := by
      rw [← hFl, List.take_length, List.drop_length, List.append_nil]
    rw [hF'] at hlen ⊢
    by_cases hg : i + m ≤ cap
    · rcases hpl with h0 | ⟨b, off, cs, T, rfl, hh, hroom, hat⟩
      · omega
      refine (endRoom hm hg hbig hGl hG1 hvs hh hroom).mono ?_
      rintro e w' ⟨rfl, rfl⟩
      obtain ⟨g1, g2, g3, g4⟩ := heap_setCells G (off + i * 1) w cs hh
      refine ⟨_, rfl, g4, hlen, cap, hg, .inl ⟨b, off, cs, _, T, rfl, hh, rfl, Nat.le_refl _, by omega, g2, g1, by rw [wrAt_size], g3, fun k x hk => ?_⟩⟩
      rw [List.getElem?_append] at hk
      split at hk
      · rename_i h1
        rw [wrAt_out _ _ _ _ (.inl (by omega))]
        exact hat k x hk
      · rename_i h1
        have hkl := (List.getElem?_eq_some_iff.1 hk).1
        rw [hFl] at hk hkl h1
        rw [show off + k = off + i * 1 + (k - i * 1) from by omega, wrAt_in _ _ _ _ hkl (by rw [hGl] at hkl; omega)]
        exact hk
    · have hFr : Reads w ((.hd 1) : Ty).size i (.slice ad i cap) F := reads_at (by rw [hFl]; rfl) fun hn0 => by
        rcases hpl with h0 | ⟨b, off, cs, T, rfl, hh, hroom, hat⟩
        · omega
        · exact ⟨b, off, rfl, fun j v hj => by rw [cell?_cells hh]; exact hat j v hj⟩
      have hGr : Reads w ((.hd 1) : Ty).size m (.slice (some ⟨vb, voff, none⟩) m capy) G := reads_at (by rw [hGl]; rfl) fun _ => ⟨vb, voff, rfl, hvs⟩
      obtain ⟨nc, w1, hr, hnc', hheap, hio⟩ := run_append_new (P := Tryd.prog) w (ty := 57) underS hi0 hz0 (sz := ((.hd 1) : Ty).size) (by rw [hz1]; rfl) rfl rfl hFr (by rw [hFl]; rfl) hGr (by rw [hGl]; rfl) (by omega) (by rw [hz2]; exact hbig)
      refine (endGrow hm hnc (by omega) hbig hr).mono ?_
      rintro e w' ⟨rfl, rfl⟩
      refine ⟨_, rfl, hio, hlen, nc, hnc', .inr ⟨_, _, hheap, rfl, ?_, fun k x hk => ?_⟩⟩
      · simp only [Array.size_append, List.size_toArray, size_zeroCells, hFl, hGl]
        show nc * 1 ≤ i * 1 + m * 1 + (nc - (i + m)) * 1
        omega
      · rw [← Array.getElem?_toList]
        simp only [Array.toList_append]
        exact List.getElem?_append_left (List.getElem?_eq_some_iff.1 hk).1 ▸ hk
  · have hlt : i < n := by omega
    rcases hpl with h0 | ⟨b, off, cs, T, rfl, hh, hroom, hat⟩
    · omega
    have hvb : vb ≠ b := fun e => hne b off vb voff rfl rfl (by omega) e.symm
    have htl : (F.take (i * 1)).length = i * 1 := by rw [List.length_take, hFl]; omega
    have hdl : (F.drop (i * 1)).length = (n - i) * 1 := by rw [List.length_drop, hFl]; omega
    by_cases hg : n + m ≤ cap
    · refine (shift (capy := capy) hm hlt hg hbig hFl hF1 hGl hG1 hat hatv hh hhv hvb hroom).mono ?_
      rintro e w' ⟨rfl, rfl⟩
      obtain ⟨g1, g2, g3, g4⟩ := heap_setCells (F.drop (i * 1)) (off + (i + m) * 1) w.drew cs (show w.drew.heap[b]? = _ from hh)
      obtain ⟨k1, k2, k3, k4⟩ := heap_setCells G (off + i * 1) (w.drew.setCells b (off + (i + m) * 1) (F.drop (i * 1))) _ g1
      refine ⟨_, rfl, IO.trans (show IO w _ from g4) k4, hlen, cap, hg, .inl ⟨b, off, cs, _, T, rfl, hh, rfl, Nat.le_refl _, by omega, k2.trans g2, k1, by rw [wrAt_size, wrAt_size], fun k hk => (k3 k hk).trans (g3 k hk), fun k x hk => ?_⟩⟩
      rw [List.append_assoc, List.getElem?_append] at hk
      split at hk
      · rename_i h1
        rw [htl] at h1
        rw [wrAt_out _ _ _ _ (.inl (by omega)), wrAt_out _ _ _ _ (.inl (by omega))]
        rw [List.getElem?_take_of_lt h1] at hk
        exact hat k x hk
      · rename_i h1
        rw [htl] at h1 hk
        rw [List.getElem?_append] at hk
        split at hk
        · rename_i h2
          rw [show off + k = off + i * 1 + (k - i * 1) from by omega, wrAt_in _ _ _ _ h2 (by rw [wrAt_size]; rw [hGl] at h2; omega)]
          exact hk
        · rename_i h2
          rw [hGl] at h2 hk
          have hkl := (List.getElem?_eq_some_iff.1 hk).1
          rw [wrAt_out _ _ _ _ (.inr (by rw [hGl]; omega)), show off + k = off + (i + m) * 1 + (k - i * 1 - m * 1) from by omega, wrAt_in _ _ _ _ hkl (by rw [hdl] at hkl; omega)]
          exact hk
    · obtain ⟨N, ROW, hN, hRs, hRt, hcall⟩ := grow (capy := capy) hm hlt hnc (by omega) hbig hFl hF1 hGl hG1 hat hatv hh hhv
      refine hcall.mono ?_
      rintro e w' ⟨rfl, rfl⟩
      have hh1 : (w.alloc (.cells ROW 60)).drew.heap[w.heap.size]? = some (.cells ROW 60 (0, 0)) := heap_push_new (w := w) (w' := w.alloc (.cells ROW 60)) rfl
      have hho : ∀ k, k < w.heap.size → (w.alloc (.cells ROW 60)).drew.heap[k]? = w.heap[k]? := fun k hk => heap_push_old (w := w) (w' := w.alloc (.cells ROW 60)) rfl k hk
      obtain ⟨g1, g2, g3, g4⟩ := heap_setCells G (i * 1) (w.alloc (.cells ROW 60)).drew ROW hh1
      obtain ⟨k1, k2, k3, k4⟩ := heap_setCells (F.drop (i * 1)) ((i + m) * 1) ((w.alloc (.cells ROW 60)).drew.setCells w.heap.size (i * 1) G).drew _ g1
      refine ⟨_, rfl, IO.trans (show IO w (w.alloc (.cells ROW 60)).drew from ⟨rfl, rfl, rfl⟩) (IO.trans g4 k4), hlen, N, hN, .inr ⟨wrAt (wrAt ROW (i * 1) G) ((i + m) * 1) (F.drop (i * 1)), 60, ?_, rfl, ?_, fun k x hk => ?_⟩⟩
      · have hsz : (((w.alloc (.cells ROW 60)).drew.setCells w.heap.size (i * 1) G).drew.setCells w.heap.size ((i + m) * 1) (F.drop (i * 1))).heap.size = w.heap.size + 1 := by
          rw [k2]
          show ((w.alloc (.cells ROW 60)).drew.setCells w.heap.size (i * 1) G).heap.size = _
          rw [g2]
          show (w.heap.push (.cells ROW 60 (0, 0))).size = _
          rw [Array.size_push]
        apply Array.ext_getElem?
        intro k
        rw [Array.getElem?_push]
        split
        · rename_i e
          rw [e]
          exact k1
        · rename_i e
          rw [k3 k e]
          show ((w.alloc (.cells ROW 60)).drew.setCells w.heap.size (i * 1) G).heap[k]? = _
          rw [g3 k e]
          rcases Nat.lt_or_ge k w.heap.size with hk | hk
          · exact hho k hk
          · have hs1 : (w.alloc (.cells ROW 60)).drew.heap.size = w.heap.size + 1 := by
              show (w.heap.push (.cells ROW 60 (0, 0))).size = _
              rw [Array.size_push]
            rw [Array.getElem?_eq_none hk, Array.getElem?_eq_none (by rw [hs1]; omega)]
      · rw [wrAt_size, wrAt_size, hRs]
        exact Nat.le_refl _
      · rw [List.append_assoc, List.getElem?_append] at hk
        split at hk
        · rename_i h1
          rw [htl] at h1
          rw [wrAt_out _ _ _ _ (.inl (by omega)), wrAt_out _ _ _ _ (.inl (by omega)), hRt k h1]
          rw [List.getElem?_take_of_lt h1] at hk
          exact hk
        · rename_i h1
          rw [htl] at h1 hk
          rw [List.getElem?_append] at hk
          split at hk
          · rename_i h2
            rw [wrAt_out _ _ _ _ (.inl (by rw [hGl] at h2; omega)), show k = i * 1 + (k - i * 1) from by omega, wrAt_in _ _ _ _ h2 (by rw [hGl] at h2; omega)]
            exact hk
          · rename_i h2
            rw [hGl] at h2 hk
            have hkl := (List.getElem?_eq_some_iff.1 hk).1
            have hk2 : k = (i + m) * 1 + (k - i * 1 - m * 1) := by omega
            rw [hk2, wrAt_in _ _ _ _ hkl (by rw [wrAt_size, hRs]; rw [hdl] at hkl; omega)]
            exact hk

end Go.Proofs.LxLst.I24

/-
  slices.Insert at a slice type, walked.
-/
namespace Go.Proofs.LxLst.I25
open Go Go.Eng Go.RowKit Go.Lib

theorem underS : Tryd.prog.underlying 62 = some (.slice 66) := by kernel_rfl
theorem infoE : (Tryd.prog.info? 66).map (fun i => (i.zero, i.size, i.bytes)) = some (some (.agg #[.int .i64 0, .int .i64 0]), 2, 16) := by kernel_rfl
theorem mixed' : Tryd.prog.follows .mixedOrders = true := by kernel_rfl
theorem sizeE : ∀ w, (Go.sizeOf 66).run Tryd.prog w = .ok 2 w := by
  obtain ⟨i0, hi0, hz0, hz1, hz2⟩ := info_parts infoE
  intro w
  simp [sizeOf, typeInfo, hi0, hz1]

set_option maxHeartbeats 4000000 in
set_option maxRecDepth 100000 in
/-- at the end, with room -/
theorem endRoom {w : World} {n cap m capy b off vb voff : Nat} {G : List Value} {cs : Array Value} {T : TypeId} (hm : 0 < m) (hg : n + m ≤ cap) (hbig : (n + m) * (16 + 1) ≤ 1099511627776) (hGl : G.length = m * 2) (hG1 : ∀ v, v ∈ G → v.oneCell' = true)
    (hvs : ∀ (j : Nat) v, G[j]? = some v → w.cell? ⟨vb, voff + j, none⟩ = some v) (hh : w.heap[b]? = some (.cells cs T (0, 0))) (hroom : off + cap * 2 ≤ cs.size) :
    Calls Tryd.prog 25 #[.slice (some ⟨b, off, none⟩) n cap, .int .i64 n, .slice (some ⟨vb, voff, none⟩) m capy] w fun e w' => e = .returned (.slice (some ⟨b, off, none⟩) (n + m) cap) ∧ w' = w.setCells b (off + n * 2) G := by
  have mixed := mixed'
  have t62 := underS
  obtain ⟨i0, hi0, hz0, hz1, hz2⟩ := info_parts infoE
  have hrun : ∀ ty, (Builtin.append_ #[62, 62] ty #[.slice (some ⟨b, off, none⟩) n cap, .slice (some ⟨vb, voff, none⟩) m capy]).run Tryd.prog w = .ok (.slice (some ⟨b, off, none⟩) (n + m) cap) (w.setCells b (off + n * 2) G) := by
    intro ty
    have := run_append_room_cells (P := Tryd.prog) w 62 ty 66 i0 t62 hi0 b off n cap ⟨vb, voff, none⟩ m capy G (by rw [hz1]; exact hGl) (fun j u hj => by rw [Addr.add_lit]; exact hvs j u hj) hG1 hg
      (fun j hj => cell_isSome hh (by rw [hz1]; omega)) (fun j hj => frozen_no hh)
    rw [hz1] at this
    exact this
  have hz1' : ¬ ((m : Int) = 0) := by omega
  clear hvs hh hroom hG1 hGl
  try simp only [Nat.mul_one] at *
  go_enter Tryd.func25, Tryd.ntmps25
  go_wp2_with (at_builtin; refine Lib.wpList_append_run _ rfl _ _ _ _ rfl _ _ rfl rfl _ _ (hrun _) ?_)
  go_ret
  exact ⟨rfl, rfl⟩

set_option maxHeartbeats 4000000 in
set_option maxRecDepth 100000 in
/-- at the end, with none -/
theorem endGrow {w : World} {n cap m capy vb voff nc : Nat} {ad : Option Addr} {w1 : World} (hm : 0 < m) (hnc : n ≤ cap) (hg : cap < n + m) (hbig : (n + m) * (16 + 1) ≤ 1099511627776)
    (hrun : (Builtin.append_ #[62, 62] 62 #[.slice ad n cap, .slice (some ⟨vb, voff, none⟩) m capy]).run Tryd.prog w = .ok (.slice (some ⟨w.heap.size, 0, none⟩) (n + m) nc) w1) :
    Calls Tryd.prog 25 #[.slice ad n cap, .int .i64 n, .slice (some ⟨vb, voff, none⟩) m capy] w fun e w' => e = .returned (.slice (some ⟨w.heap.size, 0, none⟩) (n + m) nc) ∧ w' = w1 := by
  have mixed := mixed'
  have t62 := underS
  have hz1' : ¬ ((m : Int) = 0) := by omega
  try simp only [Nat.mul_one] at *
  go_enter Tryd.func25, Tryd.ntmps25
  cases ad with
  | none =>
    go_wp2_with (at_builtin; refine Lib.wpList_append_run _ rfl _ _ _ _ rfl _ _ rfl rfl _ _ hrun ?_)
    all_goals (go_ret; exact ⟨rfl, rfl⟩)
  | some a =>
    obtain ⟨ab, ao, asp⟩ := a
    go_wp2_with (at_builtin; refine Lib.wpList_append_run _ rfl _ _ _ _ rfl _ _ rfl rfl _ _ hrun ?_)
    all_goals (go_ret; exact ⟨rfl, rfl⟩)

set_option maxHeartbeats 4000000 in
set_option maxRecDepth 100000 in
/-- within, with room -/
theorem shift {w : World} {n cap m capy b off i vb voff : Nat} {F G : List Value} {cs csv : Array Value} {T Tv : TypeId} (hm : 0 < m) (hi : i < n) (hg : n + m ≤ cap) (hbig : (n + m) * (16 + 1) ≤ 1099511627776) (hFl : F.length = n * 2) (hF1 : ∀ v, v ∈ F → v.oneCell' = true)
    (hGl : G.length = m * 2) (hG1 : ∀ v, v ∈ G → v.oneCell' = true) (hat : ∀ (j : Nat) v, F[j]? = some v → cs[off + j]? = some v)
    (hatv : ∀ (j : Nat) v, G[j]? = some v → csv[voff + j]? = some v) (hh : w.heap[b]? = some (.cells cs T (0, 0))) (hhv : w.heap[vb]? = some (.cells csv Tv (0, 0))) (hvb : vb ≠ b) (hroom : off + cap * 2 ≤ cs.size) :
    Calls Tryd.prog 25 #[.slice (some ⟨b, off, none⟩) n cap, .int .i64 i, .slice (some ⟨vb, voff, none⟩) m capy] w fun e w' => e = .returned (.slice (some ⟨b, off, none⟩) (n + m) cap) ∧
      w' = (w.drew.setCells b (off + (i + m) * 2) (F.drop (i * 2))).setCells b (off + i * 2) G := by
  have mixed := mixed'
  have t62 := underS
  obtain ⟨i0, hi0, hz0, hz1, hz2⟩ := info_parts infoE
  have hz1' : ¬ ((m : Int) = 0) := by omega
  have hz2' : ¬ ((i : Int) = (n : Int)) := by omega
  have hov : ∀ lb cb, (callFunc 39 #[.slice (some ⟨vb, voff, none⟩) m capy, .slice (some ⟨b, off + (i + m) * 2, none⟩) lb cb]).run Tryd.prog w = .ok (.value (.bool false)) w := fun lb cb => by
    rw [run_callFunc_extern Tryd.func39 (by kernel_rfl) (by kernel_rfl) (by kernel_rfl) (e := Extern.SlicesOverlaps.overlaps #[62, 62] #[4]) (by kernel_rfl),
      Lib.run_overlaps_apart w 62 4 66 underS 2 sizeE ⟨vb, voff, none⟩ ⟨b, off + (i + m) * 2, none⟩ m capy lb cb hvb Tv T csv.size cs.size (by simp [World.shape?, hhv]) (by simp [World.shape?, hh]) (by omega) (frozen_no hhv) (frozen_no hhv)]
    rfl
  have hdl : (F.drop (i * 2)).length = (n - i) * 2 := by rw [List.length_drop, hFl]; omega
  have hw1 : IntKind.i64.wrap ((i : Int) + (m : Int)) = (i : Int) + (m : Int) := by rw [IntKind.wrap_i64]; omega
  have hw2 : IntKind.i64.wrap ((n : Int) + (m : Int)) = (n : Int) + (m : Int) := by rw [IntKind.wrap_i64]; omega
  have hb1 : (0 : Int) ≤ (i : Int) + (m : Int) := by omega
  have hin : i ≤ n := by omega
  have htn : ((i : Int) + (m : Int)).toNat = i + m := by omega
  have hb2 : ¬ (cap = i + m) := by omega
  have hb3 : (i : Int) ≤ (n : Int) + (m : Int) := by omega
  have hb4 : ¬ (cap = i) := by omega
  have hcp1 : ∀ ty dc sc, (Builtin.copy_ #[62, 62] ty #[.slice (some ⟨b, off + (i + m) * 2, none⟩) (n + m - (i + m)) dc, .slice (some ⟨b, off + i * 2, none⟩) (n + m - i) sc]).run Tryd.prog w.drew = .ok (goInt (min (n + m - i) (n + m - (i + m)) : Nat)) (w.drew.setCells b (off + (i + m) * 2) (F.drop (i * 2))) := fun ty dc sc =>
    Go.Eng.run_copy_row (cs := cs) (T := T) w.drew t62 hi0 hz1 (by rw [hdl, Nat.min_def]; split <;> omega) (fun j v hj => by
      rw [Addr.add_lit]
      show w.cell? _ = _
      rw [cell?_cells hh, Nat.add_assoc]
      exact hat _ v (by rwa [List.getElem?_drop] at hj)) (show w.drew.heap[b]? = _ from hh) (by rw [hdl]; omega) (fun v hv => hF1 v (List.mem_of_mem_drop hv))
  obtain ⟨W1, hW1⟩ : ∃ W1, W1 = w.drew.setCells b (off + (i + m) * 2) (F.drop (i * 2)) := ⟨_, rfl⟩
  obtain ⟨g1, g2, g3, g4⟩ := heap_setCells (F.drop (i * 2)) (off + (i + m) * 2) w.drew cs (show w.drew.heap[b]? = _ from hh)
  rw [← hW1] at g1 g2 g3 g4 hcp1
  have hcp2 : ∀ (W : World), W.heap = W1.heap → ∀ ty dc, (Builtin.copy_ #[62, 62] ty #[.slice (some ⟨b, off + i * 2, none⟩) (n + m - i) dc, .slice (some ⟨vb, voff, none⟩) m capy]).run Tryd.prog W = .ok (goInt (min m (n + m - i) : Nat)) (W.setCells b (off + i * 2) G) := fun W hWh ty dc =>
    Go.Eng.run_copy_row (cs := wrAt cs (off + (i + m) * 2) (F.drop (i * 2))) (T := T) W t62 hi0 hz1 (by rw [hGl, Nat.min_def]; split <;> omega) (fun j v hj => by
      have e1 : W.cell? ⟨vb, voff + j, none⟩ = W1.cell? ⟨vb, voff + j, none⟩ := cell?_heap vb (voff + j) (by rw [hWh])
      have e2 : W1.cell? ⟨vb, voff + j, none⟩ = w.drew.cell? ⟨vb, voff + j, none⟩ := cell?_heap vb (voff + j) (g3 vb hvb)
      rw [Addr.add_lit, e1, e2]
      show w.cell? _ = _
      rw [cell?_cells hhv]
      exact hatv j v hj) (by rw [hWh]; exact g1) (by rw [wrAt_size, hGl]; omega) hG1
  clear g1 g2 g3 g4 hat hatv hh hhv hroom hF1 hG1 hFl hGl hdl
  try simp only [Nat.mul_one] at *
  go_enter Tryd.func25, Tryd.ntmps25
  go_wp2_with (simp only [hov])
  go_region_law_o (refine Go.Proofs.step_copy_runI rfl _ _ 62 62 rfl _ _ (by simp [Act.eval, Act.put]) (by simp [Act.eval, Act.put]) (hcp1 _ _ _) ?_)
  go_wp2_with (at_builtin; refine Go.Proofs.wpList_copy_runI _ rfl _ _ 62 62 rfl _ _ rfl rfl (hcp2 _ rfl _ _) ?_)
  go_ret
  first | exact ⟨rfl, rfl⟩ | exact ⟨rfl, by rw [hW1]⟩

set_option maxHeartbeats 4000000 in
set_option maxRecDepth 100000 in
/-- within, with none -/
theorem grow {w : World} {n cap m capy b off i vb voff : Nat} {F G : List Value} {cs csv : Array Value} {T Tv : TypeId} (hm : 0 < m) (hi : i < n) (hnc : n ≤ cap) (hg : cap < n + m) (hbig : (n + m) * (16 + 1) ≤ 1099511627776) (hFl : F.length = n * 2) (hF1 : ∀ v, v ∈ F → v.oneCell' = true)
    (hGl : G.length = m * 2) (hG1 : ∀ v, v ∈ G → v.oneCell' = true) (hat : ∀ (j : Nat) v, F[j]? = some v → cs[off + j]? = some v)
    (hatv : ∀ (j : Nat) v, G[j]? = some v → csv[voff + j]? = some v) (hh : w.heap[b]? = some (.cells cs T (0, 0))) (hhv : w.heap[vb]? = some (.cells csv Tv (0, 0))) :
    ∃ (N : Nat) (ROW : Array Value), n + m ≤ N ∧ ROW.size = N * 2 ∧ (∀ (j : Nat), j < i * 2 → ROW[j]? = F[j]?) ∧
    Calls Tryd.prog 25 #[.slice (some ⟨b, off, none⟩) n cap, .int .i64 i, .slice (some ⟨vb, voff, none⟩) m capy] w fun e w' => e = .returned (.slice (some ⟨w.heap.size, 0, none⟩) (n + m) N) ∧
      w' = (((w.alloc (.cells ROW 66)).drew.setCells w.heap.size (i * 2) G).drew).setCells w.heap.size ((i + m) * 2) (F.drop (i * 2)) := by
  have mixed := mixed'
  have t62 := underS
  have tint : Tryd.prog.underlying 3 = some (.int .i64) := by kernel_rfl
  obtain ⟨i0, hi0, hz0, hz1, hz2⟩ := info_parts infoE
  have hz1' : ¬ ((m : Int) = 0) := by omega
  have hz2' : ¬ ((i : Int) = (n : Int)) := by omega
  have hz3 : (cap : Int) < (n : Int) + (m : Int) := by omega
  have hkk : (n : Int) + (m : Int) - (i : Int) = ((n + m - i : Nat) : Int) := by omega
  have hik : i + (n + m - i) = n + m := by omega
  have hbw : b < w.heap.size := (Array.getElem?_eq_some_iff.1 hh).1
  have hvw : vb < w.heap.size := (Array.getElem?_eq_some_iff.1 hhv).1
  have htl : (F.take (i * 2)).length = i * 2 := by rw [List.length_take, hFl]; omega
  have hold : (Builtin.firstCells i0.size i (.slice (some ⟨b, off, none⟩) i cap)).run Tryd.prog w.drew = .ok (F.take (i * 2)).toArray w.drew := by
    rw [hz1]
    exact run_firstCells_some w.drew 2 i ⟨b, off, none⟩ i cap (F.take (i * 2)) htl (fun j v hj => by
      rw [Addr.add_lit]
      rw [List.getElem?_take] at hj
      split at hj
      · show w.cell? _ = _
        rw [cell?_cells hh]
        exact hat j v hj
      · cases hj)
  have hrz : ∀ ty, (Builtin.append_ #[62, 3] ty #[.slice (some ⟨b, off, none⟩) i cap, .int .i64 ((n : Int) + (m : Int) - (i : Int))]).run Tryd.prog w =
      .ok (.slice (some ⟨w.heap.size, 0, none⟩) (n + m) (grownCap w (n + m) cap 66)) (w.drew.alloc (.cells ((F.take (i * 2)).toArray ++ Builtin.zeroCells (.agg #[.int .i64 0, .int .i64 0] : Value).cells (n + m - i) ++ Builtin.zeroCells (.agg #[.int .i64 0, .int .i64 0] : Value).cells (grownCap w (n + m) cap 66 - (n + m))) 66)) := fun ty => by
    have h := Lib.run_append_grow_zeros w 62 3 ty 66 i0 _ .i64 .i64 t62 tint hi0 hz0 (some ⟨b, off, none⟩) i cap (F.take (i * 2)) hold (n + m - i) (by omega) (by omega) (by omega) (by omega) (by rw [hz2]; omega) (by rw [hz2, hik]; exact growslice_fits hg (by omega))
    rw [hik] at h
    rw [hkk]
    exact h
  obtain ⟨N, hN⟩ : ∃ N, N = grownCap w (n + m) cap 66 := ⟨_, rfl⟩
  obtain ⟨ROW, hROW⟩ : ∃ ROW : Array Value, ROW = (F.take (i * 2)).toArray ++ Builtin.zeroCells (.agg #[.int .i64 0, .int .i64 0] : Value).cells (n + m - i) ++ Builtin.zeroCells (.agg #[.int .i64 0, .int .i64 0] : Value).cells (N - (n + m)) := ⟨_, rfl⟩
  have hGn : n + m ≤ N := by rw [hN]; exact grownCap_ge w _ _ _
  rw [← hN] at hrz
  rw [← hROW] at hrz
  have hRs : ROW.size = N * 2 := by
    rw [hROW]
    simp only [Array.size_append, List.size_toArray, size_zeroCells, htl]
    show i * 2 + (n + m - i) * 2 + (N - (n + m)) * 2 = N * 2
    omega
  have hRt : ∀ (j : Nat), j < i * 2 → ROW[j]? = F[j]? := by
    intro j hj
    rw [hROW, ← Array.getElem?_toList]
    simp only [Array.toList_append, List.append_assoc]
    rw [List.getElem?_append_left (by show j < (F.take (i * 2)).length; rw [htl]; exact hj), List.getElem?_take_of_lt hj]
  refine ⟨N, ROW, hGn, hRs, hRt, ?_⟩
  obtain ⟨W1, hW1⟩ : ∃ W1, W1 = w.drew.alloc (.cells ROW 66) := ⟨_, rfl⟩
  rw [← hW1] at hrz
  have hh1 : W1.heap[w.heap.size]? = some (.cells ROW 66 (0, 0)) := by rw [hW1]; exact heap_push_new (w := w) (w' := w.drew.alloc (.cells ROW 66)) rfl
  have hho : ∀ k, k < w.heap.size → W1.heap[k]? = w.heap[k]? := fun k hk => by rw [hW1]; exact heap_push_old (w := w) (w' := w.drew.alloc (.cells ROW 66)) rfl k hk
  have hdl : (F.drop (i * 2)).length = (n - i) * 2 := by rw [List.length_drop, hFl]; omega
  have hcpA : ∀ (W : World), W.heap = W1.heap → ∀ ty dc, (Builtin.copy_ #[62, 62] ty #[.slice (some ⟨w.heap.size, i * 2, none⟩) (n + m - i) dc, .slice (some ⟨vb, voff, none⟩) m capy]).run Tryd.prog W = .ok (goInt (min m (n + m - i) : Nat)) (W.setCells w.heap.size (i * 2) G) := fun W hWh ty dc =>
    Go.Eng.run_copy_row (cs := ROW) (T := 66) W t62 hi0 hz1 (by rw [hGl, Nat.min_def]; split <;> omega) (fun j v hj => by
      have e1 : W.cell? ⟨vb, voff + j, none⟩ = w.cell? ⟨vb, voff + j, none⟩ := cell?_heap vb (voff + j) (by rw [hWh]; exact hho vb hvw)
      rw [Addr.add_lit, e1, cell?_cells hhv]
      exact hatv j v hj) (by rw [hWh]; exact hh1) (by rw [hRs, hGl]; omega) hG1
  obtain ⟨g1, g2, g3, g4⟩ := heap_setCells G (i * 2) W1 ROW hh1
  have hcpB : ∀ (W : World), W.heap = (W1.setCells w.heap.size (i * 2) G).heap → ∀ ty dc sc, (Builtin.copy_ #[62, 62] ty #[.slice (some ⟨w.heap.size, (i + m) * 2, none⟩) (n + m - (i + m)) dc, .slice (some ⟨b, off + i * 2, none⟩) (n - i) sc]).run Tryd.prog W = .ok (goInt (min (n - i) (n + m - (i + m)) : Nat)) (W.setCells w.heap.size ((i + m) * 2) (F.drop (i * 2))) := fun W hWh ty dc sc =>
    Go.Eng.run_copy_row (cs := wrAt ROW (i * 2) G) (T := 66) W t62 hi0 hz1 (by rw [hdl, Nat.min_def]; split <;> omega) (fun j v hj => by
      have e1 : W.cell? ⟨b, off + i * 2 + j, none⟩ = w.cell? ⟨b, off + i * 2 + j, none⟩ := cell?_heap b _ (by rw [hWh, g3 b (by omega)]; exact hho b hbw)
      rw [Addr.add_lit, e1, cell?_cells hh, Nat.add_assoc]
      exact hat _ v (by rwa [List.getElem?_drop] at hj)) (by rw [hWh]; exact g1) (by rw [wrAt_size, hRs, hdl]; omega) (fun v hv => hF1 v (List.mem_of_mem_drop hv))
  have hGi : ¬ (N = i) := by omega
  have hGim : ¬ (N = i + m) := by omega
  have hci : ¬ (cap = i) := by omega
  subst hW1
  have hE1 : ((w.alloc (.cells ROW 66)).drew).heap = (w.drew.alloc (.cells ROW 66)).heap := rfl
  have hE2 : (((w.alloc (.cells ROW 66)).drew.setCells w.heap.size (i * 2) G).drew).heap = ((w.drew.alloc (.cells ROW 66)).setCells w.heap.size (i * 2) G).heap := rfl
  have hw1 : IntKind.i64.wrap ((i : Int) + (m : Int)) = (i : Int) + (m : Int) := by rw [IntKind.wrap_i64]; omega
  have hw2 : IntKind.i64.wrap ((n : Int) + (m : Int)) = (n : Int) + (m : Int) := by rw [IntKind.wrap_i64]; omega
  have hw3 : IntKind.i64.wrap ((n : Int) + (m : Int) - (i : Int)) = (n : Int) + (m : Int) - (i : Int) := by rw [IntKind.wrap_i64]; omega
  have hb1 : (0 : Int) ≤ (i : Int) + (m : Int) := by omega
  have hin : i ≤ n := by omega
  have htn : ((i : Int) + (m : Int)).toNat = i + m := by omega
  have hb3 : (i : Int) ≤ (n : Int) := by omega
  have hic : i ≤ cap := by omega
  clear hkk hik hold hROW hN hRs hRt hh hhv hat hatv hF1 hG1 hFl hGl hdl g1 g2 g3 g4 hh1 hho htl
  try simp only [Nat.mul_one] at *
  go_enter Tryd.func25, Tryd.ntmps25
  go_wp2_with (first
    | (at_builtin; refine Lib.wpList_append_run _ rfl _ _ _ _ rfl _ _ rfl rfl _ _ (hrz _) ?_)
    | (at_builtin; refine Go.Proofs.wpList_copy_runI _ rfl _ _ 62 62 rfl _ _ rfl rfl (hcpA _ hE1 _ _) ?_))
  go_region_law_o (refine Go.Proofs.step_copy_runI rfl _ _ 62 62 rfl (.slice (some ⟨w.heap.size, (i + m) * 2, none⟩) (n + m - (i + m)) (N - (i + m))) (.slice (some ⟨b, off + i * 2, none⟩) (n - i) (cap - i)) (by simp [Act.eval, Act.put]) (by simp [Act.eval, Act.put]) (hcpB _ hE2 _ _ _) ?_)
  go_wp2
  go_ret
  exact ⟨rfl, rfl⟩

theorem ok : LstOK Tryd.prog 25 (.ins 2 16) := by
  intro w n ad cap F i m ay capy G hrow hrowy hne hm hin hbig
  obtain ⟨hnc, hFl, hF1, hpl⟩ := hrow
  obtain ⟨hmc, hGl, hG1, hply⟩ := hrowy
  rcases hply with h0 | ⟨vb, voff, csv, Tv, rfl, hhv, hroomv, hatv⟩
  · omega
  obtain ⟨i0, hi0, hz0, hz1, hz2⟩ := info_parts infoE
  have hvs : ∀ (j : Nat) v, G[j]? = some v → w.cell? ⟨vb, voff + j, none⟩ = some v := fun j v hj => by rw [cell?_cells hhv]; exact hatv j v hj
  have hlen : (F.take (i * 2) ++ G ++ F.drop (i * 2)).length = (n + m) * 2 := by
    simp only [List.length_append, List.length_take, List.length_drop]
    omega
  by_cases hi : i = n
  · subst hi
    have hF' : F.take (i * 2) ++ G ++ F.drop (i * 2) = F ++ G := by
      rw [← hFl, List.take_length, List.drop_length, List.append_nil]
    rw [hF'] at hlen ⊢
    by_cases hg : i + m ≤ cap
    · rcases hpl with h0 | ⟨b, off, cs, T, rfl, hh, hroom, hat⟩
      · omega
      refine (endRoom hm hg hbig hGl hG1 hvs hh hroom).mono ?_
      rintro e w' ⟨rfl, rfl⟩
      obtain ⟨g1, g2, g3, g4⟩ := heap_setCells G (off + i * 2) w cs hh
      refine ⟨_, rfl, g4, hlen, cap, hg, .inl ⟨b, off, cs, _, T, rfl, hh, rfl, Nat.le_refl _, by omega, g2, g1, by rw [wrAt_size], g3, fun k x hk => ?_⟩⟩
      rw [List.getElem?_append] at hk
      split at hk
      · rename_i h1
        rw [wrAt_out _ _ _ _ (.inl (by omega))]
        exact hat k x hk
      · rename_i h1
        have hkl := (List.getElem?_eq_some_iff.1 hk).1
        rw [hFl] at hk hkl h1
        rw [show off + k = off + i * 2 + (k - i * 2) from by omega, wrAt_in _ _ _ _ hkl (by rw [hGl] at hkl; omega)]
        exact hk
    · have hFr : Reads w ((.st (.pair (.int .i64) (.int .i64))) : Ty).size i (.slice ad i cap) F := reads_at (by rw [hFl]; rfl) fun hn0 => by
        rcases hpl with h0 | ⟨b, off, cs, T, rfl, hh, hroom, hat⟩
        · omega
        · exact ⟨b, off, rfl, fun j v hj => by rw [cell?_cells hh]; exact hat j v hj⟩
      have hGr : Reads w ((.st (.pair (.int .i64) (.int .i64))) : Ty).size m (.slice (some ⟨vb, voff, none⟩) m capy) G := reads_at (by rw [hGl]; rfl) fun _ => ⟨vb, voff, rfl, hvs⟩
      obtain ⟨nc, w1, hr, hnc', hheap, hio⟩ := run_append_new (P := Tryd.prog) w (ty := 62) underS hi0 hz0 (sz := ((.st (.pair (.int .i64) (.int .i64))) : Ty).size) (by rw [hz1]; rfl) rfl rfl hFr (by rw [hFl]; rfl) hGr (by rw [hGl]; rfl) (by omega) (by rw [hz2]; exact hbig)
      refine (endGrow hm hnc (by omega) hbig hr).mono ?_
      rintro e w' ⟨rfl, rfl⟩
      refine ⟨_, rfl, hio, hlen, nc, hnc', .inr ⟨_, _, hheap, rfl, ?_, fun k x hk => ?_⟩⟩
      · simp only [Array.size_append, List.size_toArray, size_zeroCells, hFl, hGl]
        show nc * 2 ≤ i * 2 + m * 2 + (nc - (i + m)) * 2
        omega
      · rw [← Array.getElem?_toList]
        simp only [Array.toList_append]
        exact List.getElem?_append_left (List.getElem?_eq_some_iff.1 hk).1 ▸ hk
  · have hlt : i < n := by omega
    rcases hpl with h0 | ⟨b, off, cs, T, rfl, hh, hroom, hat⟩
    · omega
    have hvb : vb ≠ b := fun e => hne b off vb voff rfl rfl (by omega) e.symm
    have htl : (F.take (i * 2)).length = i * 2 := by rw [List.length_take, hFl]; omega
    have hdl : (F.drop (i * 2)).length = (n - i) * 2 := by rw [List.length_drop, hFl]; omega
    by_cases hg : n + m ≤ cap
    · refine (shift (capy := capy) hm hlt hg hbig hFl hF1 hGl hG1 hat hatv hh hhv hvb hroom).mono ?_
      rintro e w' ⟨rfl, rfl⟩
      obtain ⟨g1, g2, g3, g4⟩ := heap_setCells (F.drop (i * 2)) (off + (i + m) * 2) w.drew cs (show w.drew.heap[b]? = _ from hh)
      obtain ⟨k1, k2, k3, k4⟩ := heap_setCells G (off + i * 2) (w.drew.setCells b (off + (i + m) * 2) (F.drop (i * 2))) _ g1
      refine ⟨_, rfl, IO.trans (show IO w _ from g4) k4, hlen, cap, hg, .inl ⟨b, off, cs, _, T, rfl, hh, rfl, Nat.le_refl _, by omega, k2.trans g2, k1, by rw [wrAt_size, wrAt_size], fun k hk => (k3 k hk).trans (g3 k hk), fun k x hk => ?_⟩⟩
      rw [List.append_assoc, List.getElem?_append] at hk
      split at hk
      · rename_i h1
        rw [htl] at h1
        rw [wrAt_out _ _ _ _ (.inl (by omega)), wrAt_out _ _ _ _ (.inl (by omega))]
        rw [List.getElem?_take_of_lt h1] at hk
        exact hat k x hk
      · rename_i h1
        rw [htl] at h1 hk
        rw [List.getElem?_append] at hk
        split at hk
        · rename_i h2
          rw [show off + k = off + i * 2 + (k - i * 2) from by omega, wrAt_in _ _ _ _ h2 (by rw [wrAt_size]; rw [hGl] at h2; omega)]
          exact hk
        · rename_i h2
          rw [hGl] at h2 hk
          have hkl := (List.getElem?_eq_some_iff.1 hk).1
          rw [wrAt_out _ _ _ _ (.inr (by rw [hGl]; omega)), show off + k = off + (i + m) * 2 + (k - i * 2 - m * 2) from by omega, wrAt_in _ _ _ _ hkl (by rw [hdl] at hkl; omega)]
          exact hk
    · obtain ⟨N, ROW, hN, hRs, hRt, hcall⟩ := grow (capy := capy) hm hlt hnc (by omega) hbig hFl hF1 hGl hG1 hat hatv hh hhv
      refine hcall.mono ?_
      rintro e w' ⟨rfl, rfl⟩
      have hh1 : (w.alloc (.cells ROW 66)).drew.heap[w.heap.size]? = some (.cells ROW 66 (0, 0)) := heap_push_new (w := w) (w' := w.alloc (.cells ROW 66)) rfl
      have hho : ∀ k, k < w.heap.size → (w.alloc (.cells ROW 66)).drew.heap[k]? = w.heap[k]? := fun k hk => heap_push_old (w := w) (w' := w.alloc (.cells ROW 66)) rfl k hk
      obtain ⟨g1, g2, g3, g4⟩ := heap_setCells G (i * 2) (w.alloc (.cells ROW 66)).drew ROW hh1
      obtain ⟨k1, k2, k3, k4⟩ := heap_setCells (F.drop (i * 2)) ((i + m) * 2) ((w.alloc (.cells ROW 66)).drew.setCells w.heap.size (i * 2) G).drew _ g1
      refine ⟨_, rfl, IO.trans (show IO w (w.alloc (.cells ROW 66)).drew from ⟨rfl, rfl, rfl⟩) (IO.trans g4 k4), hlen, N, hN, .inr ⟨wrAt (wrAt ROW (i * 2) G) ((i + m) * 2) (F.drop (i * 2)), 66, ?_, rfl, ?_, fun k x hk => ?_⟩⟩
      · have hsz : (((w.alloc (.cells ROW 66)).drew.setCells w.heap.size (i * 2) G).drew.setCells w.heap.size ((i + m) * 2) (F.drop (i * 2))).heap.size = w.heap.size + 1 := by
          rw [k2]
          show ((w.alloc (.cells ROW 66)).drew.setCells w.heap.size (i * 2) G).heap.size = _
          rw [g2]
          show (w.heap.push (.cells ROW 66 (0, 0))).size = _
          rw [Array.size_push]
        apply Array.ext_getElem?
        intro k
        rw [Array.getElem?_push]
        split
        · rename_i e
          rw [e]
          exact k1
        · rename_i e
          rw [k3 k e]
          show ((w.alloc (.cells ROW 66)).drew.setCells w.heap.size (i * 2) G).heap[k]? = _
          rw [g3 k e]
          rcases Nat.lt_or_ge k w.heap.size with hk | hk
          · exact hho k hk
          · have hs1 : (w.alloc (.cells ROW 66)).drew.heap.size = w.heap.size + 1 := by
              show (w.heap.push (.cells ROW 66 (0, 0))).size = _
              rw [Array.size_push]
            rw [Array.getElem?_eq_none hk, Array.getElem?_eq_none (by rw [hs1]; omega)]
      · rw [wrAt_size, wrAt_size, hRs]
        exact Nat.le_refl _
      · rw [List.append_assoc, List.getElem?_append] at hk
        split at hk
        · rename_i h1
          rw [htl] at h1
          rw [wrAt_out _ _ _ _ (.inl (by omega)), wrAt_out _ _ _ _ (.inl (by omega)), hRt k h1]
          rw [List.getElem?_take_of_lt h1] at hk
          exact hk
        · rename_i h1
          rw [htl] at h1 hk
          rw [List.getElem?_append] at hk
          split at hk
          · rename_i h2
            rw [wrAt_out _ _ _ _ (.inl (by rw [hGl] at h2; omega)), show k = i * 2 + (k - i * 2) from by omega, wrAt_in _ _ _ _ h2 (by rw [hGl] at h2; omega)]
            exact hk
          · rename_i h2
            rw [hGl] at h2 hk
            have hkl := (List.getElem?_eq_some_iff.1 hk).1
            have hk2 : k = (i + m) * 2 + (k - i * 2 - m * 2) := by omega
            rw [hk2, wrAt_in _ _ _ _ hkl (by rw [wrAt_size, hRs]; rw [hdl] at hkl; omega)]
            exact hk

end Go.Proofs.LxLst.I25

/-
  slices.Delete at a slice type, walked.
-/
namespace Go.Proofs.LxLst.D30
open Go Go.Eng Go.RowKit Go.Lib

theorem underS : Tryd.prog.underlying 62 = some (.slice 66) := by kernel_rfl
theorem infoE : (Tryd.prog.info? 66).map (fun i => (i.zero, i.size, i.bytes)) = some (some (.agg #[.int .i64 0, .int .i64 0]), 2, 16) := by kernel_rfl
theorem mixed' : Tryd.prog.follows .mixedOrders = true := by kernel_rfl

set_option maxHeartbeats 4000000 in
set_option maxRecDepth 1000000 in
theorem ok : LstOK Tryd.prog 30 (.del 2) := by
  intro w n ad cap F i j hrow hn hij hj
  obtain ⟨hnc, hFl, hF1, hpl⟩ := hrow
  rcases hpl with h0 | ⟨b, off, cs, T, rfl, hh, hroom, hat⟩
  · omega
  have mixed := mixed'
  have t62 := underS
  obtain ⟨i0, hi0, hz0, hz1, hz2⟩ := info_parts infoE
  by_cases heq : i = j
  · subst heq
    have h0 : Calls Tryd.prog 30 #[.slice (some ⟨b, off, none⟩) n cap, .int .i64 i, .int .i64 i] w fun e w' => e = .returned (.slice (some ⟨b, off, none⟩) n cap) ∧ w' = w := by
      clear hat hroom hh hF1 hFl
      go_enter Tryd.func30, Tryd.ntmps30
      go_wp2
      all_goals (go_ret; exact ⟨rfl, rfl⟩)
    refine h0.mono ?_
    rintro e w' ⟨rfl, rfl⟩
    refine ⟨_, rfl, IO.refl _, ?_, cap, by omega, .inl ⟨b, off, cs, cs, T, rfl, hh, by rw [Nat.sub_self, Nat.sub_zero], Nat.le_refl _, by omega, rfl, hh, rfl, fun _ _ => rfl, fun k x hk => ?_⟩⟩
    · simp only [List.length_append, List.length_take, List.length_drop]; omega
    · rw [List.take_append_drop] at hk; exact hat k x hk
  · have hlt : i < j := by omega
    obtain ⟨news, hnews⟩ : ∃ news, news = F.drop (j * 2) := ⟨_, rfl⟩
    have hlen : news.length = (n - j) * 2 := by rw [hnews, List.length_drop, hFl]; omega
    obtain ⟨A, hA, hsrc⟩ : ∃ A : Addr, (if cap = j then some (⟨b, off, none⟩ : Addr) else some ⟨b, off + j * 2, none⟩) = some A ∧ Hid (∀ t u, news[t]? = some u → w.drew.cell? (A.add t) = some u) := by
      by_cases h : cap = j
      · refine ⟨⟨b, off, none⟩, by simp [h], fun t u hu => ?_⟩
        have h0 : news.length = 0 := by rw [hlen]; omega
        rw [List.length_eq_zero_iff.1 h0] at hu
        simp at hu
      · refine ⟨⟨b, off + j * 2, none⟩, by simp [h], fun t u hu => ?_⟩
        rw [hnews, List.getElem?_drop] at hu
        rw [Addr.add_lit]
        show w.cell? _ = some u
        rw [cell?_cells hh, Nat.add_assoc]
        exact hat _ _ hu
    have s1 : Hid (news.length = (n - j) * 2) := hlen
    have s2 : Hid (∀ u ∈ news, u.oneCell' = true) := fun u hu => hF1 u (by rw [hnews] at hu; exact List.mem_of_mem_drop hu)
    have s3 : Hid (∀ t, t < news.length → (w.drew.cell? ⟨b, off + i * 2 + t, none⟩).isSome = true ∧ w.drew.frozen? ⟨b, off + i * 2 + t, none⟩ = false) := by
      intro t ht
      rw [hlen] at ht
      exact ⟨cell_isSome (w := w.drew) hh (by omega), frozen_no (w := w.drew) hh⟩
    obtain ⟨W1, hW1⟩ : ∃ W1, W1 = w.drew.setCells b (off + i * 2) news := ⟨_, rfl⟩
    obtain ⟨g1, g2, g3, g4⟩ := heap_setCells news (off + i * 2) w.drew cs (show w.drew.heap[b]? = _ from hh)
    rw [← hW1] at g1 g2 g3 g4
    have hcl : ∀ ty, (Builtin.clear_ #[62] ty #[.slice (some ⟨b, off + (i + (n - j)) * 2, none⟩) (n - (i + (n - j))) (cap - (i + (n - j)))]).run Tryd.prog W1 = .ok (.tuple #[]) (W1.setCells b (off + (i + (n - j)) * 2) (Builtin.zeroCells (.agg #[.int .i64 0, .int .i64 0] : Value).cells (n - (i + (n - j)))).toList) :=
      fun ty => run_clear_row W1 _ _ ty _ t62 Tryd.zeroValue66 g1 (by
        rw [wrAt_size]
        show _ + _ * 2 ≤ _
        omega) (by intro v hv; simp [Value.cells] at hv; rcases hv with rfl | rfl <;> rfl)
    have hW : Hid (W1 = w.drew.setCells b (off + i * 2) news) := hW1
    obtain ⟨W2, hW2⟩ : ∃ W2, W2 = W1.setCells b (off + (i + (n - j)) * 2) (Builtin.zeroCells (.agg #[.int .i64 0, .int .i64 0] : Value).cells (n - (i + (n - j)))).toList := ⟨_, rfl⟩
    obtain ⟨k1, k2, k3, k4⟩ := heap_setCells (Builtin.zeroCells (.agg #[.int .i64 0, .int .i64 0] : Value).cells (n - (i + (n - j)))).toList (off + (i + (n - j)) * 2) W1 _ g1
    rw [← hW2] at hcl k1 k2 k3 k4
    have key : Calls Tryd.prog 30 #[.slice (some ⟨b, off, none⟩) n cap, .int .i64 i, .int .i64 j] w fun e w' => e = .returned (.slice (some ⟨b, off, none⟩) (i + (n - j)) cap) ∧ w' = W2 := by
      have hic : i ≤ cap := by omega
      have hjc : j ≤ cap := by omega
      clear hW1 hW2 hnews hlen hat hroom hh g1 g2 g3 g4 k1 k2 k3 k4 hF1 hFl
      go_enter Tryd.func30, Tryd.ntmps30
      go_wp2_with fail
      go_region_law_o (refine step_append_room rfl (.tmp 22) (.tmp 25) 62 rfl 66 i0 2 t62 hi0 hz1 b off i cap (by simp [Act.eval, Act.put]) A (n - j) (cap - j) news (by simp [Act.eval, Act.put]) s1.out hsrc.out s2.out (by omega) s3.out ?_; rw [← hW.out])
      go_wp2
      go_ret
      exact ⟨rfl, rfl⟩
    refine key.mono ?_
    rintro e w' ⟨rfl, rfl⟩
    refine ⟨_, rfl, IO.trans (show IO w W1 from g4) k4, ?_, cap, by omega, .inl ⟨b, off, cs, _, T, rfl, hh, by rw [show n - (j - i) = i + (n - j) by omega], Nat.le_refl _, by omega, k2.trans g2, k1, by rw [wrAt_size, wrAt_size], fun k hk => (k3 k hk).trans (g3 k hk), fun k x hk => ?_⟩⟩
    · simp only [List.length_append, List.length_take, List.length_drop]; omega
    · have hkl := (List.getElem?_eq_some_iff.1 hk).1
      rw [List.length_append, List.length_take, List.length_drop] at hkl
      rw [wrAt_out _ _ _ _ (.inl (by omega))]
      rw [List.getElem?_append] at hk
      split at hk
      · rename_i h1
        rw [List.length_take] at h1
        rw [wrAt_out _ _ _ _ (.inl (by omega))]
        rw [List.getElem?_take] at hk
        split at hk
        · exact hat k x hk
        · cases hk
      · rename_i h1
        rw [List.length_take] at h1
        rw [List.length_take] at hk
        have hmin : min (i * 2) F.length = i * 2 := by rw [hFl]; omega
        rw [hmin] at hk h1
        rw [show off + k = off + i * 2 + (k - i * 2) from by omega, wrAt_in _ _ _ _ (by rw [hlen]; omega) (by omega), hnews]
        exact hk

end Go.Proofs.LxLst.D30

/-
  The tables of the seat's program.
-/
namespace Go.Proofs.YtnbpgehpjhifgaaDoor.Lx
open Go Go.Eng Go.Proofs

def nms : Names := ⟨101, 90⟩

def tys : List (TypeId × TyI) := [
  (3, ⟨.int .i64, 1, 8, [.v (.int .i64 0)], some (.int .i64), none⟩),
  (4, ⟨.bool, 1, 1, [.v (.bool false)], some .bool, none⟩),
  (5, ⟨.int .u8, 1, 1, [.v (.int .u8 0)], some (.int .u8), none⟩),
  (24, ⟨.ptr 59, 1, 8, [.v (.pointer none)], some (.hd 0), none⟩),
  (26, ⟨.iface, 1, 16, [.v (.nilIface)], some .err, none⟩),
  (30, ⟨.struct [(3, 0, 1), (3, 1, 1), (3, 2, 1)], 3, 24, [.v (.int .i64 0), .v (.int .i64 0), .v (.int .i64 0)], some (.st (.pair (.int .i64) (.pair (.int .i64) (.int .i64)))), none⟩),
  (39, ⟨.slice 3, 1, 24, [.v (.slice none 0 0)], some (.sl (.int .i64)), none⟩),
  (44, ⟨.slice 47, 1, 24, [.v (.slice none 0 0)], some (.sl (.st (.pair (.int .i64) (.pair (.int .i64) (.pair (.int .i64) (.pair (.int .i64) (.sl (.int .u8)))))))), none⟩),
  (45, ⟨.slice 5, 1, 24, [.v (.slice none 0 0)], some (.sl (.int .u8)), none⟩),
  (47, ⟨.struct [(3, 0, 1), (3, 1, 1), (3, 2, 1), (3, 3, 1), (45, 4, 1)], 5, 56, [.v (.int .i64 0), .v (.int .i64 0), .v (.int .i64 0), .v (.int .i64 0), .v (.slice none 0 0)], some (.st (.pair (.int .i64) (.pair (.int .i64) (.pair (.int .i64) (.pair (.int .i64) (.sl (.int .u8))))))), none⟩),
  (57, ⟨.slice 60, 1, 24, [.v (.slice none 0 0)], some (.sl (.hd 1)), none⟩),
  (59, ⟨.struct [(45, 0, 1), (57, 1, 1)], 2, 48, [.v (.slice none 0 0), .v (.slice none 0 0)], some (.st (.pair (.sl (.int .u8)) (.sl (.hd 1)))), none⟩),
  (60, ⟨.ptr 64, 1, 8, [.v (.pointer none)], some (.hd 1), none⟩),
  (62, ⟨.slice 66, 1, 24, [.v (.slice none 0 0)], some (.sl (.st (.pair (.int .i64) (.int .i64)))), none⟩),
  (64, ⟨.struct [(30, 0, 3), (62, 3, 1)], 4, 48, [.v (.int .i64 0), .v (.int .i64 0), .v (.int .i64 0), .v (.slice none 0 0)], some (.st (.pair (.st (.pair (.int .i64) (.pair (.int .i64) (.int .i64)))) (.sl (.st (.pair (.int .i64) (.int .i64)))))), none⟩),
  (66, ⟨.struct [(3, 0, 1), (3, 1, 1)], 2, 16, [.v (.int .i64 0), .v (.int .i64 0)], some (.st (.pair (.int .i64) (.int .i64))), none⟩),
  (76, ⟨.other, 1, 8, [.v (.nilFunc)], none, none⟩)]

def fns : List Nat := [9, 22, 23, 10, 11, 29, 28, 14, 7, 8, 33, 17, 34, 18, 19, 36, 35, 20, 13, 5]
def gbs : List Nat := [0, 1, 2]
abbrev ErrRange : Nat := 0
abbrev ErrRoom : Nat := 1
abbrev ErrNone : Nat := 2

def exts : List (FuncId × ExtK) := []
def knds : List (List Cell) := [[.sl (.int .u8), .sl (.hd 1)], [.d (.int .i64), .d (.int .i64), .d (.int .i64), .sl (.st (.pair (.int .i64) (.int .i64)))]]
def kts : List (TypeId × Nat) := [(59, 0), (64, 1)]
def kss : List (FuncId × List Nat) := [(9, [0, 1]), (22, [0, 1]), (10, [0, 1]), (11, [0, 1]), (14, [0, 1]), (7, [0, 1]), (33, [0, 1]), (17, [0, 1]), (18, [0, 1]), (19, [0, 1]), (35, [0, 1]), (20, [0, 1]), (13, [0, 1]), (5, [0, 1])]
def lsts : List (FuncId × LstK) := [(24, .ins 1 8), (25, .ins 2 16), (30, .del 2)]
noncomputable def E : Eng.Env := mkEnvK Tryd.prog nms tys fns gbs exts knds kts kss lsts

set_option maxRecDepth 100000 in
theorem tys_ok : TysOK Tryd.prog nms tys := ⟨by kernel_rfl, by kernel_rfl, by kernel_rfl, by kernel_rfl, by kernel_rfl, by kernel_rfl, by kernel_rfl, by kernel_rfl, by kernel_rfl, by kernel_rfl, by kernel_rfl, by kernel_rfl, by kernel_rfl, by kernel_rfl, by kernel_rfl, by kernel_rfl, by kernel_rfl, trivial⟩
theorem E_ok : EnvOK Tryd.prog E := mkEnvK_ok (mkEnvX_ok (mkEnv_ok tys_ok.mem (fnsOK.mem (by kernel_rfl))) (.nil)) (by kernel_rfl) (.cons ⟨_, Tryd.func24, by kernel_rfl, by kernel_rfl⟩ LxLst.I24.ok (.cons ⟨_, Tryd.func25, by kernel_rfl, by kernel_rfl⟩ LxLst.I25.ok (.cons ⟨_, Tryd.func30, by kernel_rfl, by kernel_rfl⟩ LxLst.D30.ok (.nil))))
theorem mixed : Tryd.prog.follows .mixedOrders = true := by kernel_rfl

end Go.Proofs.YtnbpgehpjhifgaaDoor.Lx

/-
  Used, walked: what a part's blocks come to.
-/
namespace Go.Proofs.LxArena
open Go Go.Eng Go.RowKit Go.Lib Go.Sort Go.Proofs Go.Shelf

def CellsAt (W : World) (b o : Nat) (vs : List Value) : Prop := ∀ (j : Nat) v, vs[j]? = some v → W.cell? ⟨b, o + j, none⟩ = some v

/-- a part, as it lies -/
structure PR where
  b : Nat
  id : Int
  off : Int
  size : Int
  l : List (Int × Int)
instance : Inhabited PR := ⟨⟨0, 0, 0, 0, []⟩⟩

def blkCells (l : List (Int × Int)) : List Value := l.flatMap fun x => [.int .i64 x.1, .int .i64 x.2]

def PartAt (W : World) (p : PR) : Prop := ∃ ad cap, CellsAt W p.b 0 [.int .i64 p.id, .int .i64 p.off, .int .i64 p.size, .slice ad p.l.length cap] ∧ p.l.length ≤ cap ∧
  (p.l.length ≠ 0 → ∃ bb bo, ad = some ⟨bb, bo, none⟩ ∧ CellsAt W bb bo (blkCells p.l))

def ArenaAt (W : World) (ab : Nat) (ps : List PR) : Prop := ∃ ad cap, W.cell? ⟨ab, 1, none⟩ = some (.slice ad ps.length cap) ∧ ps.length ≤ cap ∧
  (ps.length ≠ 0 → ∃ lb lo, ad = some ⟨lb, lo, none⟩ ∧ CellsAt W lb lo (ps.map fun p => .pointer (some ⟨p.b, 0, none⟩))) ∧ ∀ p, p ∈ ps → PartAt W p

def ptrOf : Option PR → Value
  | some p => .pointer (some ⟨p.b, 0, none⟩)
  | none => .pointer none

theorem find_hit {ps : List PR} {k : Nat} {id : Int} (hk : k < ps.length) (h : ps[k]!.id = id) (hn : ∀ j, j < k → ps[j]!.id ≠ id) : ps.find? (fun p => decide (p.id = id)) = some ps[k]! := by
  rw [List.find?_eq_some_iff_getElem]
  refine ⟨by simpa using h, k, hk, (getElem!_pos ps k hk).symm, fun j hj => ?_⟩
  have := hn j hj
  rw [getElem!_pos ps j (by omega)] at this
  simpa using this

theorem find_miss {ps : List PR} {id : Int} (hn : ∀ j, j < ps.length → ps[j]!.id ≠ id) : ps.find? (fun p => decide (p.id = id)) = none := by
  rw [List.find?_eq_none]
  intro p hp
  obtain ⟨j, hj, rfl⟩ := List.mem_iff_getElem.1 hp
  have := hn j hj
  rw [getElem!_pos ps j hj] at this
  simpa using this

set_option maxHeartbeats 2000000 in
theorem find_raw {W : World} {ab : Nat} {ps : List PR} {id : Int} (h : ArenaAt W ab ps) (hs : ps.length ≤ 1099511627776) :
    Calls Tryd.prog 22 #[.pointer (some ⟨ab, 0, none⟩), .int .i64 id] W fun e w' => e = .returned (ptrOf (ps.find? fun p => decide (p.id = id))) ∧ ∃ q, w' = W.drewN q := by
  have mixed : Tryd.prog.follows .mixedOrders = true := by kernel_rfl
  obtain ⟨ad, cap, hl, hcap, hrow, hparts⟩ := h
  have hpt : ∀ j, j < ps.length → ∃ lb lo, ad = some ⟨lb, lo, none⟩ ∧ W.cell? ⟨lb, lo + j, none⟩ = some (.pointer (some ⟨ps[j]!.b, 0, none⟩)) ∧ W.cell? ⟨ps[j]!.b, 0, none⟩ = some (.int .i64 ps[j]!.id) := by
    intro j hj
    obtain ⟨lb, lo, e, hc⟩ := hrow (by omega)
    refine ⟨lb, lo, e, ?_, ?_⟩
    · refine hc j _ ?_
      rw [List.getElem?_map, List.getElem?_eq_getElem hj, getElem!_pos ps j hj]
      rfl
    · rw [getElem!_pos ps j hj]
      obtain ⟨_, _, hp, _⟩ := hparts ps[j] (List.getElem_mem hj)
      exact hp 0 _ rfl
  clear hrow hparts
  obtain ⟨n, hn⟩ : ∃ n, n = ps.length := ⟨_, rfl⟩
  rw [← hn] at hl hcap hs hpt
  go_enter Tryd.func22, Tryd.ntmps22
  go_wp2
  go_loopg [6, 12] n (fun gg _ s12 wr => ∃ kk q : Nat, kk ≤ n ∧ n - kk ≤ gg ∧ s12 = .int .i64 kk ∧ wr = W.drewN q ∧ Aside (∀ j, j < kk → ps[j]!.id ≠ id))
  case atStart => exact ⟨0, 0, Nat.zero_le _, by omega, rfl, rfl, fun j hj => absurd hj (Nat.not_lt_zero _)⟩
  case round =>
    obtain ⟨kk, q, hkk, hg, rfl, rfl, A⟩ := hrel
    by_cases hlt : kk < n
    · have hltz : (kk : Int) < (n : Int) := by omega
      obtain ⟨lb, lo, rfl, h1, h2⟩ := hpt kk hlt
      clear hpt
      generalize hy : ps[kk]!.id = y at h2
      generalize hb : ps[kk]!.b = pb at h1 h2
      have B : Aside (ps[kk]!.id = y ∧ ps[kk]!.b = pb) := ⟨hy, hb⟩
      clear hy hb
      by_cases e : y = id
      · subst e
        go_wp2
        go_ret
        refine ⟨?_, q, rfl⟩
        rw [find_hit (by omega) B.out.1 A.out]
        show _ = Ending.returned (Value.pointer (some ⟨ps[kk]!.b, 0, none⟩))
        rw [B.out.2]
        rfl
      · have e' : (y == id) = false := beq_eq_false_iff_ne.2 e
        go_wp2
        go_roundg (n - (kk + 1))
        case measure => omega
        case rel =>
          refine ⟨kk + 1, _, by omega, by omega, by go_num, rfl, (show Aside _ from fun j hj => ?_)⟩
          by_cases ej : j = kk
          · subst ej
            rw [B.out.1]; exact e
          · exact A.out j (by omega)
    · have hltz : ¬ (kk : Int) < (n : Int) := by omega
      have : kk = n := by omega
      subst this
      go_wp2
      go_ret
      refine ⟨?_, q, rfl⟩
      rw [find_miss (fun j hj => A.out j (by omega))]
      rfl


/-- what lies in a block of its own -/
def OwnAt (W : World) (b : Nat) (vs : List Value) : Prop := ∃ cs T, W.heap[b]? = some (.cells cs T (0, 0)) ∧ ∀ (j : Nat) v, vs[j]? = some v → cs[j]? = some v

theorem blk_length (l : List (Int × Int)) : (blkCells l).length = 2 * l.length := by
  induction l with
  | nil => rfl
  | cons x r ih =>
    simp only [blkCells, List.flatMap_cons, List.length_append, List.length_cons, List.length_nil] at ih ⊢
    omega

theorem blk_at (l : List (Int × Int)) : ∀ (k : Nat) (hk : k < l.length), (blkCells l)[2 * k]? = some (.int .i64 l[k].1) ∧ (blkCells l)[2 * k + 1]? = some (.int .i64 l[k].2) := by
  induction l with
  | nil => intro k hk; cases hk
  | cons x r ih =>
    intro k hk
    cases k with
    | zero => exact ⟨rfl, rfl⟩
    | succ k =>
      have := ih k (by simpa using hk)
      simp only [List.getElem_cons_succ]
      exact this

def renC : Ren := ⟨fun | 41 => 36 | n => n, fun | 4 => 4 | 22 => 62 | 23 => 66 | n => n, fun n => n⟩
theorem laysC : SlLaysE0.n41 Tryd.prog renC where
  mixed := by kernel_rfl
  f41 := ⟨Tryd.f36.name, by kernel_rfl, by kernel_rfl⟩
  t4 := by kernel_rfl
  a4 := Tryd.isAgg4
  z4 := Tryd.sizeOf4
  v4 := Tryd.zeroValue4
  t22 := by kernel_rfl
  a22 := Tryd.isAgg62
  z22 := Tryd.sizeOf62
  v22 := Tryd.zeroValue62

theorem grown_of {W w' : World} (h : Below W.heap.size W w') : W.grownBy w' none := ⟨h.os, h.tape, h.output, h.size, fun k hk _ => h.block k hk⟩

set_option maxHeartbeats 2000000 in
theorem clone_zero {W : World} {a : Addr} {cap : Nat} : Calls Tryd.prog 36 #[.slice (some a) 0 cap] W fun e w' => e = .returned (.slice (some ⟨W.heap.size, 0, none⟩) 0 0) ∧ w' = W.alloc (.cells #[] 66) := by
  have mixed : Tryd.prog.follows .mixedOrders = true := by kernel_rfl
  have t62 : Tryd.prog.underlying 62 = some (.slice 66) := by kernel_rfl
  obtain ⟨i0, hi0, hz0, hz1, hz2⟩ := info_parts (show (Tryd.prog.info? 66).map (fun i => (i.zero, i.size, i.bytes)) = some (some (.agg #[.int .i64 0, .int .i64 0]), 2, 16) by kernel_rfl)
  have q62 : ∀ (w : World) (a : Option Addr) (n c n' c' : Nat), (binOp .eql 62 (.slice a n c) (.slice none n' c')).run Tryd.prog w = .ok (.bool a.isNone) w := fun w a n c n' c' => Lib.run_eql_slice_nil w _ _ a n c n' c' t62
  have hrun : ∀ ty, (Builtin.append_ #[62, 62] ty #[.slice (some ⟨W.heap.size, 0, none⟩) 0 0, .slice (some a) 0 cap]).run Tryd.prog (W.alloc (.cells #[] 66)) = .ok (.slice (some ⟨W.heap.size, 0, none⟩) 0 0) (W.alloc (.cells #[] 66)) := fun ty => by
    have := run_append_room_cells (P := Tryd.prog) (W.alloc (.cells #[] 66)) 62 ty 66 i0 t62 hi0 W.heap.size 0 0 0 a 0 cap [] (by simp) (fun j u hj => by simp at hj) (fun u hu => by cases hu) (Nat.le_refl _) (fun j hj => by simp at hj) (fun j hj => by simp at hj)
    simpa [World.setCells] using this
  go_enter Tryd.func36, Tryd.ntmps36
  go_wp2_with (at_builtin; refine Lib.wpList_append_run _ rfl _ _ _ _ rfl _ _ rfl rfl _ _ (hrun _) ?_)
  go_ret
  exact ⟨rfl, rfl⟩

/-- a part's blocks, copied -/
theorem clone_raw {W : World} {l : List (Int × Int)} {ad : Option Addr} {cap : Nat} (hs : l.length ≤ 1000000) (h : l.length ≠ 0 → ∃ bb bo, ad = some ⟨bb, bo, none⟩ ∧ CellsAt W bb bo (blkCells l)) :
    Calls Tryd.prog 36 #[.slice ad l.length cap] W fun e w' => ∃ ad' cap', e = .returned (.slice ad' l.length cap') ∧ W.grownBy w' none ∧ (l.length ≠ 0 → ∃ b, ad' = some ⟨b, 0, none⟩ ∧ W.heap.size ≤ b ∧ OwnAt w' b (blkCells l)) := by
  obtain ⟨i0, hi0, hz0, hz1, hz2⟩ := info_parts (show (Tryd.prog.info? 66).map (fun i => (i.zero, i.size, i.bytes)) = some (some (.agg #[.int .i64 0, .int .i64 0]), 2, 16) by kernel_rfl)
  by_cases hl : l.length = 0
  · cases ad with
    | none =>
      refine (AnyE.slices_Clone_nil laysC l.length cap W).mono ?_
      rintro e w' ⟨rfl, rfl⟩
      exact ⟨none, 0, by rw [hl], ⟨rfl, rfl, rfl, Nat.le_refl _, fun _ _ _ => rfl⟩, fun hn => absurd hl hn⟩
    | some a =>
      rw [hl]
      refine clone_zero.mono ?_
      rintro e w' ⟨rfl, rfl⟩
      exact ⟨_, _, rfl, World.grownBy_alloc W _ none, fun hn => absurd rfl hn⟩
  · obtain ⟨b, o, rfl, hc⟩ := h hl
    refine (AnyE.slices_Clone laysC i0 _ 2 16 hi0 hz0 hz1 hz2 rfl (by omega) Tryd.sizeOf66 b o l.length cap (blkCells l) W (by rw [blk_length]; omega) (by unfold maxLen; omega) (by omega) hc (fun u hu => ?_)).mono ?_
    · simp only [blkCells, List.mem_flatMap] at hu
      obtain ⟨x, _, hu⟩ := hu
      simp only [List.mem_cons, List.not_mem_nil, or_false] at hu
      rcases hu with rfl | rfl <;> rfl
    · rintro e w' ⟨v', rfl, ⟨hlen, hrow⟩, hne, hb⟩
      rcases hrow with ⟨e0, _⟩ | ⟨g, cp, cur, rfl, hg, hh, hcp, _, hcs, htk⟩
      · exact absurd e0 hne
      · refine ⟨_, _, rfl, grown_of hb, fun _ => ⟨g, rfl, hg, cur, _, hh, fun j v hj => ?_⟩⟩
        rw [← htk, List.getElem?_take] at hj
        split at hj
        · rw [← Array.getElem?_toList]; exact hj
        · cases hj

/-- what a round leaves as it is -/
def Kp (base : Nat) (A B : World) : Prop := A.heap.size ≤ B.heap.size ∧ ∀ b, base ≤ b → (∃ cs T fz, A.heap[b]? = some (.cells cs T fz)) → B.heap[b]? = A.heap[b]?

theorem Kp.trans {base : Nat} {A B C : World} (h : Kp base A B) (k : Kp base B C) : Kp base A C :=
  ⟨Nat.le_trans h.1 k.1, fun b hb hc => by
    have e := h.2 b hb hc
    rw [k.2 b hb (by rw [e]; exact hc), e]⟩

theorem Kp.put {base : Nat} (W : World) (l : Nat) (o o' : Obj) (h : W.heap[l]? = some o) (ho : o.isCells = false) : Kp base W (W.putObj l o') :=
  ⟨by simp, fun b _ hc => by
    by_cases e : b = l
    · subst e
      obtain ⟨cs, T, fz, hc⟩ := hc
      rw [h] at hc
      injection hc with hc
      subst hc
      cases ho
    · exact World.putObj_heap_other e⟩

abbrev encs2 (x : Int × Int) : Array Value := #[.int .i64 x.1, .int .i64 x.2]
def blocksOf (ps : List PR) (id : Int) : List (Int × Int) := match ps.find? (fun p => decide (p.id = id)) with
  | some p => p.l
  | none => []

theorem grown_drew (W : World) (q : Nat) : W.grownBy (W.drewN q) none := ⟨rfl, rfl, rfl, Nat.le_refl _, fun _ _ _ => rfl⟩

theorem CellsAt.below {w W : World} (hW : Below w.heap.size w W) {b o : Nat} {vs : List Value} (h : CellsAt w b o vs) : CellsAt W b o vs := fun j v hj => by
  have := h j v hj
  have hlt : b < w.heap.size := by
    unfold World.cell? at this
    cases hh : w.heap[b]? with
    | none => simp [hh] at this
    | some x => exact (Array.getElem?_eq_some_iff.1 hh).1
  rw [World.cell?_of_block (hW.block b hlt)]
  exact this

theorem cell_below {w W : World} (hW : Below w.heap.size w W) {b o : Nat} {v : Value} (h : w.cell? ⟨b, o, none⟩ = some v) : W.cell? ⟨b, o, none⟩ = some v := CellsAt.below (vs := [v]) (o := o) hW (fun j u hu => by
  cases j with
  | zero => simp at hu; subst hu; exact h
  | succ j => simp at hu) 0 v rfl

theorem PartAt.below {w W : World} (hW : Below w.heap.size w W) {p : PR} (h : PartAt w p) : PartAt W p := by
  obtain ⟨ad, cap, h1, h2, h3⟩ := h
  refine ⟨ad, cap, h1.below hW, h2, fun hn => ?_⟩
  obtain ⟨bb, bo, e, hc⟩ := h3 hn
  exact ⟨bb, bo, e, hc.below hW⟩

theorem ArenaAt.below {w W : World} (hW : Below w.heap.size w W) {ab : Nat} {ps : List PR} (h : ArenaAt w ab ps) : ArenaAt W ab ps := by
  obtain ⟨ad, cap, h1, h2, h3, h4⟩ := h
  refine ⟨ad, cap, cell_below hW h1, h2, fun hn => ?_, fun p hp => (h4 p hp).below hW⟩
  obtain ⟨lb, lo, e, hc⟩ := h3 hn
  exact ⟨lb, lo, e, hc.below hW⟩

set_option maxRecDepth 100000 in
set_option maxHeartbeats 4000000 in
theorem blocks_stops {w : World} {n : Nat} (hn : 1 ≤ n) {ca ci ab : Nat} {id : Int} {ps : List PR} (hca : w.cell? ⟨ca, 0, none⟩ = some (.pointer (some ⟨ab, 0, none⟩))) (hci : w.cell? ⟨ci, 0, none⟩ = some (.int .i64 id)) (hA : ArenaAt w ab ps)
    (hps : ps.length ≤ 1000000) (hbl : ∀ p, p ∈ ps → p.l.length ≤ 1000000) :
    SeqStopsK Fence.wide n Tryd.prog 35 #[.pointer (some ⟨ca, 0, none⟩), .pointer (some ⟨ci, 0, none⟩)] encs2 (Kp w.heap.size) (fun xs => xs = blocksOf ps id) (fun _ => True) 1000000 w := fun l J Jx W hW hJ _ hY h0 => by
  have mixed : Tryd.prog.follows .mixedOrders = true := by kernel_rfl
  have hca' := cell_below hW hca
  have hci' := cell_below hW hci
  have hA' := hA.below hW
  have hbase := hW.size
  have hfind := find_raw (id := id) hA' (by omega)
  obtain ⟨_, _, _, _, _, hparts⟩ := hA'
  clear hca hci hA hps
  have hfindC : ∀ m, CallsIn Fence.wide m Tryd.prog 22 #[.pointer (some ⟨ab, 0, none⟩), .int .i64 id] W fun e w' => e = .returned (ptrOf (ps.find? fun p => decide (p.id = id))) ∧ ∃ q, w' = W.drewN q := fun m => callsIn_wide.2 hfind
  have hcloneC : ∀ (m q : Nat) (ad : Option Addr) (cap : Nat) (l : List (Int × Int)), l.length ≤ 1000000 → (l.length ≠ 0 → ∃ bb bo, ad = some ⟨bb, bo, none⟩ ∧ CellsAt W bb bo (blkCells l)) →
    CallsIn Fence.wide m Tryd.prog 36 #[.slice ad l.length cap] (W.drewN q) fun e w' => ∃ ad' cap', e = .returned (.slice ad' l.length cap') ∧ (W.drewN q).grownBy w' none ∧ (l.length ≠ 0 → ∃ b, ad' = some ⟨b, 0, none⟩ ∧ W.heap.size ≤ b ∧ OwnAt w' b (blkCells l)) := fun m q ad cap l hs h => callsIn_wide.2 (clone_raw (W := W.drewN q) hs h)
  have h22 : Fence.wide.fn 22 := trivial
  have h36 : Fence.wide.fn 36 := trivial
  have h35 : Fence.wide.fn 35 := trivial
  have hro : Fence.wide.round = none := rfl
  generalize Fence.wide = F at *
  clear hfind
  refine callsIn_of_wp Tryd.func35 rfl h35 ?_ hro
  unfold blocksOf
  simp only [Tryd.ntmps35, List.size_toArray, List.length_cons, List.length_nil, Nat.reduceAdd, Nat.reduceSub, Array.replicate_succ, Array.replicate_zero, List.push_toArray, List.append_toArray, List.nil_append, List.cons_append]
  cases hf : ps.find? (fun p => decide (p.id = id)) with
  | none =>
    rw [hf] at hfindC
    simp only [ptrOf] at hfindC
    clear hf hparts hbl hcloneC
    gi_wp2_with (gi_at_call 22; refine (hfindC _).mono ?_; rintro e w' ⟨rfl, q, rfl⟩)
    refine bodyPost_ret (results_none rfl _ _ _) rfl ?_
    exact ⟨⟨_, rfl⟩, .inl (hJ [] W _ none h0 (grown_drew W q) (fun r e => by cases e))⟩
  | some p =>
    rw [hf] at hfindC
    simp only [ptrOf] at hfindC
    have hp : p ∈ ps := List.mem_of_find?_eq_some hf
    obtain ⟨ad, cap, hpc, hcap, hrow⟩ := hparts p hp
    have hlen := hbl p hp
    have h3 : W.cell? ⟨p.b, 3, none⟩ = some (.slice ad p.l.length cap) := by
      have := hpc 3 _ rfl
      simpa using this
    have hcl := fun (m q : Nat) => hcloneC m q ad cap p.l hlen hrow
    clear hf hparts hbl hcloneC hpc hrow
    obtain ⟨pb, hpb⟩ : ∃ pb, pb = p.b := ⟨_, rfl⟩
    obtain ⟨L, hL⟩ : ∃ L, L = p.l := ⟨_, rfl⟩
    rw [← hpb] at hfindC h3
    rw [← hL] at h3 hcl hcap hlen
    simp only [← hL]
    clear hL hpb hp
    gi_wp2_with (first
      | (gi_at_call 22; refine (hfindC _).mono ?_; rintro e w' ⟨rfl, q, rfl⟩)
      | (gi_at_call 36; refine (hcl _ _).mono ?_; rintro e w' ⟨ad', cap', rfl, hg1, hown⟩))
    obtain ⟨b, hb⟩ : ∃ b, L.length ≠ 0 → ad' = some ⟨b, 0, none⟩ ∧ W.heap.size ≤ b ∧ OwnAt w' b (blkCells L) := by
      by_cases hz : L.length = 0
      · exact ⟨0, fun h => absurd hz h⟩
      · obtain ⟨b, h⟩ := hown hz
        exact ⟨b, fun _ => h⟩
    have hJ1 : J [] w' := hJ [] _ w' none (hJ [] W _ none h0 (grown_drew W q) (fun r e => by cases e)) hg1 (fun r e => by cases e)
    have hsz1 : W.heap.size ≤ w'.heap.size := hg1.size
    have hsz2 : W.heap.size + 0 ≤ w'.heap.size := hsz1
    clear hown hg1 h3 hcl hfindC hca' hci' h0 hsz2
    gi_loopw [6, 18] (fun _ s18 wr => ∃ k : Nat, k ≤ L.length ∧ s18 = .int .i64 k ∧ W.heap.size ≤ wr.heap.size ∧ (L.length ≠ 0 → ad' = some ⟨b, 0, none⟩ ∧ W.heap.size ≤ b ∧ OwnAt wr b (blkCells L)) ∧ J (L.take k) wr)
      (fun _ s18 _ => L.length - (Lib.intOf s18).toNat)
    case atStart => exact ⟨0, Nat.zero_le _, rfl, hsz1, hb, by rw [List.take_zero]; exact hJ1⟩
    case round =>
      clear hb hJ1 hsz1
      obtain ⟨k, hk, rfl, hsz, hb, hJs⟩ := hrel
      by_cases hlt : k < L.length
      · have hltz : (k : Int) < (L.length : Int) := by omega
        obtain ⟨rfl, hwb, cs, T, hh, hcs⟩ := hb (by omega)
        obtain ⟨c0, c1⟩ := blk_at L k hlt
        have c0 : wr.cell? ⟨b, k * 2, none⟩ = some (.int .i64 L[k].1) := by
          rw [cell?_cells hh, Nat.mul_comm]; exact hcs _ _ c0
        have c1 : wr.cell? ⟨b, k * 2 + 1, none⟩ = some (.int .i64 L[k].2) := by
          rw [cell?_cells hh, Nat.mul_comm]; exact hcs _ _ c1
        obtain ⟨x, hx⟩ : ∃ x, x = L[k] := ⟨_, rfl⟩
        rw [← hx] at c0 c1
        have htk : L.take (k + 1) = L.take k ++ [x] := by rw [hx]; exact List.take_succ_eq_append_getElem hlt
        have hgr : wr.grownBy (wr.alloc (.cells #[.int .i64 x.1, .int .i64 x.2] 66)) none := World.grownBy_alloc wr _ none
        have hJ2 : J (L.take k) (wr.alloc (.cells #[.int .i64 x.1, .int .i64 x.2] 66)) := hJ _ wr _ none hJs hgr (fun r e => by cases e)
        have hown2 : (wr.alloc (.cells #[.int .i64 x.1, .int .i64 x.2] 66)).heap[b]? = some (.cells cs T (0, 0)) := (Below.heap_alloc wr _ b (Array.getElem?_eq_some_iff.1 hh).1).trans hh
        obtain ⟨fn, tmps, assign, body, hy, hR⟩ := hY (L.take k) x _ hJ2 (by rw [List.length_take]; omega)
        have hsz3 : W.heap.size ≤ (wr.alloc (.cells #[.int .i64 x.1, .int .i64 x.2] 66)).heap.size := by rw [World.size_alloc]; omega
        rw [← htk] at hR
        have hkeep : ∀ W3 : World, Kp w.heap.size (wr.alloc (.cells #[.int .i64 x.1, .int .i64 x.2] 66)) W3 → W.heap.size ≤ W3.heap.size ∧ OwnAt W3 b (blkCells L) := fun W3 hk3 =>
          ⟨Nat.le_trans hsz3 hk3.1, cs, T, (hk3.2 b (by omega) ⟨cs, T, _, hown2⟩).trans hown2, hcs⟩
        have hwb' : Aside (W.heap.size ≤ b) := hwb
        clear hx hh hcs hJ2 hgr hown2 hsz3 hJs htk hwb
        dsimp only [encs2] at hy
        gi_wp2
        refine hR.mono ?_
        rintro e W3 (⟨rfl, hJ3, hk3⟩ | ⟨rfl, hJx3⟩)
        · obtain ⟨hs3, ho3⟩ := hkeep W3 hk3
          clear hR hkeep hk3
          gi_wp2
          go_roundw
          case rel => exact ⟨k + 1, by omega, by go_num, hs3, fun _ => ⟨trivial, hwb'.out, ho3⟩, hJ3⟩
          case measure =>
            show L.length - ((k : Int) + 1).toNat < L.length - ((k : Int)).toNat
            omega
        · clear hR hkeep
          gi_wp2
          refine bodyPost_ret (results_none rfl _ _ _) rfl ?_
          exact ⟨⟨_, rfl⟩, .inr ⟨_, trivial, hJx3⟩⟩
      · have hltz : ¬ (k : Int) < (L.length : Int) := by omega
        have hkL : k = L.length := by omega
        subst hkL
        rw [List.take_length] at hJs
        clear hb
        gi_wp2
        go_end0
        exact ⟨⟨_, rfl⟩, .inl hJs⟩


def sumW (l : List (Int × Int)) : Int := l.foldl (fun s x => wrap64 (s + x.2)) 0
theorem sumW_snoc (pre : List (Int × Int)) (x : Int × Int) : sumW (pre ++ [x]) = wrap64 (sumW pre + x.2) := by simp [sumW]

/-- more lies there; what lay, lies -/
structure Grown (w W : World) : Prop where
  size : w.heap.size ≤ W.heap.size
  block : ∀ b, b < w.heap.size → W.heap[b]? = w.heap[b]?
  io : IO w W

theorem Grown.by {w W W' : World} {row : Option Nat} (h : Grown w W) (hg : W.grownBy W' row) (hr : ∀ r, row = some r → w.heap.size ≤ r) : Grown w W' :=
  ⟨Nat.le_trans h.size hg.size, fun b hb => (hg.block b (Nat.lt_of_lt_of_le hb h.size) (fun e => by have := hr b e.symm; omega)).trans (h.block b hb), h.io.trans ⟨hg.os, hg.tape, hg.output⟩⟩


set_option maxHeartbeats 1000000 in
theorem blocks_in {F : Fence} {n : Nat} (hf : F.fn 20) (hro : F.round = none) (v : Value) (h1 : v.oneCell' = true) (id : Int) (W : World) :
    CallsIn F n Tryd.prog 20 #[v, .int .i64 id] W fun e w' => e = .returned (.func (.func 35) #[] #[.pointer (some ⟨W.heap.size, 0, none⟩), .pointer (some ⟨W.heap.size + 1, 0, none⟩)]) ∧ w' = (W.alloc (.cells #[v] 24)).alloc (.cells #[.int .i64 id] 3) := by
  have mixed : Tryd.prog.follows .mixedOrders = true := by kernel_rfl
  refine callsIn_of_wp Tryd.func20 rfl hf ?_ hro
  have hc : v.cells = #[v] := by cases v <;> first | rfl | cases h1
  simp only [Value.cells] at hc
  simp only [Tryd.ntmps20, List.size_toArray, List.length_cons, List.length_nil, Nat.reduceAdd, Nat.reduceSub, Array.replicate_succ, Array.replicate_zero, List.push_toArray, List.append_toArray, List.nil_append, List.cons_append]
  gi_wp2
  go_ret
  exact ⟨rfl, rfl⟩

set_option maxRecDepth 100000 in
set_option maxHeartbeats 4000000 in
theorem used_raw {w : World} {ab : Nat} {id : Int} {ps : List PR} (hA : ArenaAt w ab ps) (hps : ps.length ≤ 1000000) (hbl : ∀ p, p ∈ ps → p.l.length ≤ 1000000) :
    Calls Tryd.prog 13 #[.pointer (some ⟨ab, 0, none⟩), .int .i64 id] w fun e w' => e = .returned (.int .i64 (sumW (blocksOf ps id))) ∧ Grown w w' := by
  have mixed : Tryd.prog.follows .mixedOrders = true := by kernel_rfl
  rw [← callsIn_wide (n := 5)]
  have hstops : ∀ W : World, Below w.heap.size w W → ∀ ca ci, W.cell? ⟨ca, 0, none⟩ = some (.pointer (some ⟨ab, 0, none⟩)) → W.cell? ⟨ci, 0, none⟩ = some (.int .i64 id) →
      SeqStopsK Fence.wide 4 Tryd.prog 35 #[.pointer (some ⟨ca, 0, none⟩), .pointer (some ⟨ci, 0, none⟩)] encs2 (Kp W.heap.size) (fun xs => xs = blocksOf ps id) (fun _ => True) 1000000 W :=
    fun W hW ca ci h1 h2 => blocks_stops (by omega) h1 h2 (hA.below hW) hps hbl
  have h20 : Fence.wide.fn 20 := trivial
  have h35 : Fence.wide.fn 35 := trivial
  have h13 : Fence.wide.fn 13 := trivial
  have hro : Fence.wide.round = none := rfl
  generalize Fence.wide = F at *
  clear hA hps hbl
  have hn1 : 1 ≤ 5 := by omega
  refine callsIn_of_wp_marks Tryd.func13 rfl h13 ?_ hro
  simp only [Tryd.ntmps13, List.size_toArray, List.length_cons, List.length_nil, Nat.reduceAdd, Nat.reduceSub, Array.replicate_succ, Array.replicate_zero, List.push_toArray, List.append_toArray, List.nil_append, List.cons_append]
  gi_wp2_with (gi_at_call 20; refine (blocks_in h20 hro _ rfl id _).mono ?_; rintro e w' ⟨rfl, rfl⟩)
  obtain ⟨w1, hw1⟩ : ∃ w1, w1 = ((w.alloc (.cells #[.int .i64 0] 3)).alloc (.cells #[.pointer (some ⟨ab, 0, none⟩)] 24)).alloc (.cells #[.int .i64 id] 3) := ⟨_, rfl⟩
  have hsz1 : w1.heap.size = w.heap.size + 3 := by rw [hw1]; simp [World.size_alloc]
  have hbl1 : ∀ b, b < w.heap.size → w1.heap[b]? = w.heap[b]? := fun b hb => by
    rw [hw1, Below.heap_alloc _ _ b (by simp [World.size_alloc]; omega), Below.heap_alloc _ _ b (by simp [World.size_alloc]; omega), Below.heap_alloc _ _ b hb]
  have hio1 : IO w w1 := by rw [hw1]; exact ⟨rfl, rfl, rfl⟩
  have hc0 : w1.heap[w.heap.size]? = some (.cells #[.int .i64 0] 3 (0, 0)) := by
    rw [hw1, Below.heap_alloc _ _ _ (by simp [World.size_alloc]; omega), Below.heap_alloc _ _ _ (by simp [World.size_alloc])]
    exact World.alloc_heap_new w _
  have hc1 : w1.heap[w.heap.size + 1]? = some (.cells #[.pointer (some ⟨ab, 0, none⟩)] 24 (0, 0)) := by
    rw [hw1, Below.heap_alloc _ _ _ (by simp [World.size_alloc])]
    have := World.alloc_heap_new (w.alloc (.cells #[.int .i64 0] 3)) (.cells #[.pointer (some ⟨ab, 0, none⟩)] 24)
    rwa [World.size_alloc] at this
  have hc2 : w1.heap[w.heap.size + 1 + 1]? = some (.cells #[.int .i64 id] 3 (0, 0)) := by
    rw [hw1]
    have := World.alloc_heap_new ((w.alloc (.cells #[.int .i64 0] 3)).alloc (.cells #[.pointer (some ⟨ab, 0, none⟩)] 24)) (.cells #[.int .i64 id] 3)
    rwa [World.size_alloc, World.size_alloc] at this
  have hB1 : Below w.heap.size w w1 := ⟨hio1.1, hio1.2.1, hio1.2.2, by omega, hbl1⟩
  rw [← hw1]
  have hst := hstops w1 hB1 (w.heap.size + 1) (w.heap.size + 1 + 1) (by rw [cell?_cells hc1]; rfl) (by rw [cell?_cells hc2]; rfl)
  refine wpIn_rangeFunc_ownF hro hn1 (gf := 35) (lb := #[.pointer (some ⟨w.heap.size + 1, 0, none⟩), .pointer (some ⟨w.heap.size + 1 + 1, 0, none⟩)]) rfl h35 (enters_of Tryd.func35 (by kernel_rfl) rfl)
    hst (fun h k => h.trans k) (fun W l o o' _ h ho _ => Kp.put W l o o' h ho) (Below.refl _ _) (fun _ => rfl)
    (fun pre W => W.heap[w.heap.size]? = some (.cells #[.int .i64 (sumW pre)] 3 (0, 0)) ∧ Grown w W ∧ w1.heap.size ≤ W.heap.size)
    (fun _ _ _ => False)
    (fun s A B row hs hg hr => ⟨(hg.block _ (by have := hs.2.2; omega) (fun e => by have := (hr _ e.symm).1; omega)).trans hs.1, hs.2.1.by hg (fun r e => by have := (hr r e).1; omega), Nat.le_trans hs.2.2 hg.size⟩)
    (fun _ _ _ _ _ hs _ _ => hs)
    ⟨hc0, ⟨by omega, hbl1, hio1⟩, Nat.le_refl _⟩
    (fun x => { tmps := #[.pointer (some ⟨ab, 0, none⟩), .int .i64 id, undef, undef, .int .i64 0, .pointer (some ⟨w.heap.size, 0, none⟩), undef, .int .i64 x.2, .pointer (some ⟨ab, 0, none⟩), .int .i64 id, .func (.func 35) #[] #[.pointer (some ⟨w.heap.size + 1, 0, none⟩), .pointer (some ⟨w.heap.size + 1 + 1, 0, none⟩)], .int .i64 x.1, .int .i64 x.2, undef, undef, undef, undef], defers := [] }) ?assign ?body ?done ?stop
  case assign =>
    intro l x W K hK
    gi_wp2_with (rw [Oper.semAt_eq _ _ _ (fun c h => by cases h)]; go_simp; try go_bits)
    exact hK
  case body =>
    rintro l pre x W ⟨hc, hg, hs⟩ _
    have hcell : W.cell? ⟨w.heap.size, 0, none⟩ = some (.int .i64 (sumW pre)) := by rw [cell?_cells hc]; rfl
    have hfr : W.frozen? ⟨w.heap.size, 0, none⟩ = false := frozen_no hc
    gi_wp2_with (rw [Oper.semAt_eq _ _ _ (fun c h => by cases h)]; go_simp; try go_bits)
    have hss : (W.setCell ⟨w.heap.size, 0, none⟩ (.int .i64 (wrap64 (sumW pre + x.2)))).heap.size = W.heap.size := by simp [World.setCell]
    refine ⟨KeepsOthers.setCell _ _ _, ⟨by rw [hss]; exact Nat.le_refl _, fun b hb _ => heap_setCell_other W ⟨w.heap.size, 0, none⟩ b _ (show b ≠ w.heap.size by omega)⟩, ?_, hg.by (row := some w.heap.size) ⟨rfl, rfl, rfl, by rw [hss]; exact Nat.le_refl _, fun k _ hk => heap_setCell_other W ⟨w.heap.size, 0, none⟩ k _ (fun e => hk (congrArg some e))⟩ (fun r e => by cases e; exact Nat.le_refl _), by rw [hss]; exact hs⟩
    rw [sumW_snoc]
    exact heap_setCell_same W _ 0 _ 3 _ hc
  case done =>
    rintro D xs W hD rfl ⟨hc, hg, hs⟩ hK
    have hcell : W.cell? ⟨w.heap.size, 0, none⟩ = some (.int .i64 (sumW (blocksOf ps id))) := by rw [cell?_cells hc]; rfl
    gi_wp2
    refine ⟨by simp, .inl ⟨_, _, rfl, run_takeDeferred hK, ?_⟩⟩
    exact ⟨_, results_tmp rfl _ _ _, rfl, hg.by (grownBy_putObj' _ D (.deferred none)) (fun r e => by cases e; omega)⟩
  case stop =>
    rintro D c pre W _ _ h _
    exact h.elim

end Go.Proofs.LxArena

/-
  Used, as a plain function over the tables of objects.
-/
namespace Go.Eng
open Go

section
variable {c : Ctx} {I : Nat → Prop} {L : Ref → Option Pl} {s : St} {a : Act} {w : World}

def gs0 (cs : List Cell) : List Nat := List.replicate ((ownQs cs 1).length + 1) 0

/-- an object's variable, as it lies -/
theorem obj_at (h : Sim c I L s a w) {k i : Nat} {cs : List Cell} {T : List (Val (rowsTy cs))} (hs : s.heap[k]? = some (some (tabB cs T))) (hi : i < T.length) :
    ∃ p, L (.o k i 0) = some p ∧ ∃ cells Tt, w.heap[p.b]? = some (.cells cells Tt (0, 0)) ∧ RepL (c.rc I L w) L (rowO k i (fun _ => false) (gs0 cs) cs 1 (T.getD i (dfl (rowsTy cs)))) cells.toList := by
  have hr : rdv s.heap (.o k i 0) = some { ct := .box (rowO k i (fun _ => false) (gs0 cs) cs 1 (T.getD i (dfl (rowsTy cs)))), gen := 0, frozen := false } := by
    simp only [rdv, hs, tabB, if_pos hi, viewV]
    simp [gs0]
  obtain ⟨p, hp, ⟨_, hk⟩, _⟩ := h.blk _ _ hr
  obtain ⟨_, _, cells, Tt, hh, hrep⟩ := hk
  exact ⟨p, hp, cells, Tt, hh, hrep⟩

/-- a slice of an object's own, as it lies -/
theorem slice_at (h : Sim c I L s a w) {k i q : Nat} {cs : List Cell} {T : List (Val (rowsTy cs))} (hs : s.heap[k]? = some (some (tabB cs T))) (hi : i < T.length) {t : Ty} {y : List (Val t)} (hq : slO (q + 1) cs 1 (T.getD i (dfl (rowsTy cs))) = some ⟨t, y⟩)
    {v : Value} (hv : Rep (c.rc I L w) L (.lsl t (.o k i (q + 1)) 0 y.length ((gs0 cs).getD (q + 1) 0)) v) :
    ∃ ad cap, v = .slice ad y.length cap ∧ y.length ≤ cap ∧ (y.length ≠ 0 → ∃ bb bo, ad = some ⟨bb, bo, none⟩ ∧ ∀ j, j < y.length → ∃ d, RepT (c.rc I L w) t (y.getD j (dfl t)) d ∧ At (c.rc I L w) d bb (bo + j * t.size)) := by
  have hr : rdv s.heap (.o k i (q + 1)) = some { ct := .sl t y, gen := (gs0 cs).getD (q + 1) 0, frozen := false } := by
    simp only [rdv, hs, tabB, if_pos hi, viewV, hq]
    simp [gs0]
  obtain ⟨p, hp, ⟨hg, hk⟩, _⟩ := h.blk _ _ hr
  simp only [Rep] at hv
  obtain ⟨p', hp', hw, _, ad, cap, rfl, hcap, hsome, hpl⟩ := hv
  rw [hp] at hp'
  injection hp' with hp'
  subst hp'
  refine ⟨ad, cap, rfl, hcap, fun hn => ?_⟩
  rcases hpl hg with h0 | ⟨hvt, had, _⟩
  · omega
  · refine ⟨p.b, p.o + 0 * p.w, had, fun j hj => ?_⟩
    rcases hk with ⟨hvt', _⟩ | ⟨_, hpw, cells, Tt, _, _, _, hi'⟩
    · rw [hvt] at hvt'; cases hvt'
    · obtain ⟨d, hd, hat⟩ := hi' j hj
      refine ⟨d, hd, ?_⟩
      rw [Nat.zero_mul, Nat.add_zero, ← hpw]
      exact hat

/-- a handle's object -/
theorem hd_at {k : Nat} {x : Option Nat} {v : Value} (hv : Rep (c.rc I L w) L (.hd k x) v) : match x with
    | none => v = .pointer none
    | some i => ∃ p, L (.o k i 0) = some p ∧ v = .pointer (some ⟨p.b, 0, none⟩) := by
  simp only [Rep, RepT] at hv
  cases x with
  | none => simpa using hv
  | some i =>
    obtain ⟨b, hb, e⟩ := hv
    have hb : (L (.o k i 0)).map (·.b) = some b := hb
    obtain ⟨p, hp, rfl⟩ := Option.map_eq_some_iff.1 hb
    exact ⟨p, hp, by simpa using e⟩

end
end Go.Eng

namespace Go.Proofs.YtnbpgehpjhifgaaDoor.Lx
open Go Go.Eng Go.Proofs Go.Proofs.LxArena

abbrev K0 : List Cell := [.sl (.int .u8), .sl (.hd 1)]
abbrev K1 : List Cell := [.d (.int .i64), .d (.int .i64), .d (.int .i64), .sl (.st (.pair (.int .i64) (.int .i64)))]
abbrev R0 := List Int × (List (Option Nat) × Unit)
abbrev R1 := Int × (Int × (Int × (List (Int × Int) × Unit)))

theorem entry13 (x : List R0 × (List R1 × Unit)) : entryH E (E.ks 13) (encTabs E.kinds (E.ks 13) x) = [some (tabB K0 x.1), some (tabB K1 x.2.1)] := by kernel_rfl


section
variable {c : Ctx} {I : Nat → Prop} {L : Ref → Option Pl} {s : St} {a : Act} {w : World}

def z0 : R0 := ([], ([], ()))
def z1 : R1 := (0, (0, (0, ([], ()))))
def prOf (L : Ref → Option Pl) (T1 : List R1) (i : Nat) : PR := ⟨((L (.o 1 i 0)).map (·.b)).getD 0, (T1.getD i z1).1, (T1.getD i z1).2.1, (T1.getD i z1).2.2.1, (T1.getD i z1).2.2.2.1⟩

theorem flat_cells {R : RC} {b o : Nat} {W : World} (hC : ∀ b o, R.C b o = W.cell? ⟨b, o, none⟩) (l : List (Int × Int)) (h : ∀ j, j < l.length → ∃ d, RepT R (.st (.pair (.int .i64) (.int .i64))) (l.getD j (dfl (.st (.pair (.int .i64) (.int .i64))))) d ∧ At R d b (o + j * 2)) : CellsAt W b o (blkCells l) := by
  intro j v hj
  have hlt := (List.getElem?_eq_some_iff.1 hj).1
  rw [blk_length] at hlt
  obtain ⟨d, hd, hat⟩ := h (j / 2) (by omega)
  have hg : l.getD (j / 2) (dfl (.st (.pair (.int .i64) (.int .i64)))) = l[j / 2]'(by omega) := by
    rw [List.getD_eq_getElem?_getD, List.getElem?_eq_getElem (by omega)]; rfl
  rw [hg] at hd
  simp only [RepT] at hd
  obtain ⟨c1, d1, rfl, rfl, rfl⟩ := hd
  obtain ⟨h1, h2⟩ := blk_at l (j / 2) (by omega)
  rcases Nat.mod_two_eq_zero_or_one j with hm | hm
  · have e : j = 2 * (j / 2) := by omega
    rw [e, h1] at hj
    injection hj with hj
    have := hat 0 _ rfl
    rw [hC] at this
    rw [← hj, ← this]
    congr 2
    omega
  · have e : j = 2 * (j / 2) + 1 := by omega
    rw [e, h2] at hj
    injection hj with hj
    have := hat 1 _ rfl
    rw [hC] at this
    rw [← hj, ← this]
    congr 2
    omega

theorem part_at (h : Sim c I L s a w) {T1 : List R1} (hs : s.heap[1]? = some (some (tabB K1 T1))) {i : Nat} (hi : i < T1.length) : (∃ p, L (.o 1 i 0) = some p ∧ p.b = (prOf L T1 i).b) ∧ PartAt w (prOf L T1 i) := by
  obtain ⟨p, hp, cells, Tt, hh, hrep⟩ := obj_at h (k := 1) (i := i) hs hi
  have hb : (prOf L T1 i).b = p.b := by simp [prOf, hp]
  refine ⟨⟨p, hp, hb.symm⟩, ?_⟩
  obtain ⟨r, hr⟩ : ∃ r : R1, r = T1.getD i z1 := ⟨_, rfl⟩
  have hr' : (List.getD T1 i (dfl (rowsTy K1)) : R1) = r := hr.symm
  have hsl : slO 1 K1 1 (List.getD T1 i (dfl (rowsTy K1))) = some ⟨.st (.pair (.int .i64) (.int .i64)), r.2.2.2.1⟩ := by rw [← hr']; rfl
  have hrow : rowO 1 i (fun _ => false) (gs0 K1) K1 1 (List.getD T1 i (dfl (rowsTy K1))) = [.v (.int .i64 r.1), .v (.int .i64 r.2.1), .v (.int .i64 r.2.2.1), .lsl (.st (.pair (.int .i64) (.int .i64))) (.o 1 i 1) 0 r.2.2.2.1.length ((gs0 K1).getD 1 0)] := by rw [← hr']; rfl
  rw [hrow] at hrep
  simp only [RepL] at hrep
  obtain ⟨v0, t0, e0, hv0, v1, t1, rfl, hv1, v2, t2, rfl, hv2, v3, t3, rfl, hv3, rfl⟩ := hrep
  simp only [Rep] at hv0 hv1 hv2
  subst hv0; subst hv1; subst hv2
  obtain ⟨ad, cap, rfl, hcap, hcell⟩ := slice_at h (k := 1) (i := i) (q := 0) hs hi hsl hv3
  have hpr : prOf L T1 i = ⟨p.b, r.1, r.2.1, r.2.2.1, r.2.2.2.1⟩ := by
    unfold prOf
    rw [hp, ← hr]
    rfl
  rw [hpr]
  refine ⟨ad, cap, fun j v hj => ?_, hcap, fun hn => ?_⟩
  · rw [Nat.zero_add, cell?_cells hh, ← Array.getElem?_toList, e0]
    exact hj
  · obtain ⟨bb, bo, e, hc⟩ := hcell hn
    exact ⟨bb, bo, e, flat_cells (fun _ _ => rfl) _ hc⟩

theorem arena_at (h : Sim c I L s a w) {T0 : List R0} {T1 : List R1} (hs0 : s.heap[0]? = some (some (tabB K0 T0))) (hs1 : s.heap[1]? = some (some (tabB K1 T1))) {i : Nat} (hi : i < T0.length)
    (hall : ∀ x, x ∈ (T0.getD i z0).2.1 → ∃ j, x = some j ∧ j < T1.length) {p : Pl} (hp : L (.o 0 i 0) = some p) : ArenaAt w p.b ((T0.getD i z0).2.1.map fun x => prOf L T1 (x.getD 0)) := by
  obtain ⟨p', hp', cells, Tt, hh, hrep⟩ := obj_at h (k := 0) (i := i) hs0 hi
  rw [hp] at hp'
  injection hp' with hp'
  subst hp'
  obtain ⟨r, hr⟩ : ∃ r : R0, r = T0.getD i z0 := ⟨_, rfl⟩
  have hr' : (List.getD T0 i (dfl (rowsTy K0)) : R0) = r := hr.symm
  have hsl : slO 2 K0 1 (List.getD T0 i (dfl (rowsTy K0))) = some ⟨.hd 1, r.2.1⟩ := by rw [← hr']; rfl
  have hrow : rowO 0 i (fun _ => false) (gs0 K0) K0 1 (List.getD T0 i (dfl (rowsTy K0))) = [.lsl (.int .u8) (.o 0 i 1) 0 r.1.length ((gs0 K0).getD 1 0), .lsl (.hd 1) (.o 0 i 2) 0 r.2.1.length ((gs0 K0).getD 2 0)] := by rw [← hr']; rfl
  rw [hrow] at hrep
  rw [← hr] at hall ⊢
  simp only [RepL] at hrep
  obtain ⟨v0, t0, e0, hv0, v1, t1, rfl, hv1, rfl⟩ := hrep
  obtain ⟨ad, cap, rfl, hcap, hcell⟩ := slice_at h (k := 0) (i := i) (q := 1) hs0 hi hsl hv1
  refine ⟨ad, cap, ?_, by rw [List.length_map]; exact hcap, fun hn => ?_, fun q hq => ?_⟩
  · rw [cell?_cells hh, ← Array.getElem?_toList, e0, List.length_map]
    rfl
  · rw [List.length_map] at hn
    obtain ⟨bb, bo, e, hc⟩ := hcell hn
    refine ⟨bb, bo, e, fun j v hj => ?_⟩
    rw [List.getElem?_map, List.getElem?_map] at hj
    obtain ⟨q, hq, rfl⟩ := Option.map_eq_some_iff.1 hj
    obtain ⟨x, hx, rfl⟩ := Option.map_eq_some_iff.1 hq
    have hjl := (List.getElem?_eq_some_iff.1 hx).1
    obtain ⟨k, rfl, hk⟩ := hall x (List.mem_of_getElem? hx)
    obtain ⟨⟨pk, hpk, hpb⟩, _⟩ := part_at h hs1 hk
    obtain ⟨d, hd, hat⟩ := hc j hjl
    have hg : List.getD r.2.1 j (dfl (.hd 1)) = some k := by
      rw [List.getD_eq_getElem?_getD]
      show (r.2.1[j]?).getD _ = _
      rw [hx]
      rfl
    rw [hg] at hd
    obtain ⟨b, hb, rfl⟩ := hd
    have hb : (L (.o 1 k 0)).map (·.b) = some b := hb
    rw [hpk] at hb
    injection hb with hb
    have := hat 0 _ rfl
    simp only [Ty.size, Nat.mul_one, Nat.add_zero] at this
    show w.cell? _ = some (.pointer (some ⟨(prOf L T1 k).b, 0, none⟩))
    have hb : pk.b = b := hb
    rw [← hpb, hb]
    exact this
  · obtain ⟨x, hx, rfl⟩ := List.mem_map.1 hq
    obtain ⟨k, rfl, hk⟩ := hall x hx
    exact (part_at h hs1 hk).2

end


/-- the parts' rows -/
def rowsAt (T1 : List R1) (hs : List (Option Nat)) : List R1 := hs.map fun x => T1.getD (x.getD 0) z1
def usedOf (T1 : List R1) (hs : List (Option Nat)) (id : Int) : Int := match (rowsAt T1 hs).find? (fun r => decide (r.1 = id)) with
  | some r => sumW r.2.2.2.1
  | none => 0

/-- is all well with them? -/
def handlesOK (T1 : List R1) (hs : List (Option Nat)) : Bool := decide (hs.length ≤ 1000000) && hs.all fun x => match x with
  | some j => decide (j < T1.length) && decide ((T1.getD j z1).2.2.2.1.length ≤ 1000000)
  | none => false

def F_arena_Arena_Used (_N : Nat) (T0 : List (List Int × (List (Option Nat) × Unit))) (T1 : List (Int × (Int × (Int × (List ((Int × Int)) × Unit))))) (a_0 : Option Nat) (id_1 : Int) : Option ((List (List Int × (List (Option Nat) × Unit)) × (List (Int × (Int × (Int × (List ((Int × Int)) × Unit)))) × Unit)) × (Int × Unit)) :=
  match a_0 with
  | none => none
  | some i => match decide (i < T0.length) && handlesOK T1 (T0.getD i z0).2.1 with
    | true => some ((T0, (T1, ())), (usedOf T1 (T0.getD i z0).2.1 id_1, ()))
    | false => none

abbrev ps_arena_Arena_Used : List Ty := [(.hd 0), (.int .i64)]
abbrev rs_arena_Arena_Used : List Slot := [.data (.int .i64)]
abbrev c_arena_Arena_Used (N : Nat) : CallSpec E := ⟨13, ps_arena_Arena_Used, rs_arena_Arena_Used, fun x => F_arena_Arena_Used N x.1.1 x.1.2.1 x.2.1 x.2.2.1⟩

theorem find_prs (L : Ref → Option Pl) (T1 : List R1) (id : Int) : ∀ hs : List (Option Nat), sumW (blocksOf (hs.map fun x => prOf L T1 (x.getD 0)) id) = usedOf T1 hs id := by
  intro hs
  unfold blocksOf usedOf rowsAt
  induction hs with
  | nil => rfl
  | cons x r ih =>
    rw [List.map_cons, List.map_cons, List.find?_cons, List.find?_cons]
    by_cases e : (T1.getD (x.getD 0) z1).1 = id
    · have e' : (prOf L T1 (x.getD 0)).id = id := e
      simp only [e, e', decide_true]
      rfl
    · have e' : ¬ (prOf L T1 (x.getD 0)).id = id := e
      simp only [e, e', decide_false]
      exact ih

theorem F_arena_Arena_Used_ok (S : Ini) (N : Nat) : ∀ x y, (c_arena_Arena_Used N).g x = some y → FCon Go.Proofs.Tryd.prog E S 13 ps_arena_Arena_Used rs_arena_Arena_Used x y := by
  intro x y hxy b0
  have hxy : F_arena_Arena_Used N x.1.1 x.1.2.1 x.2.1 x.2.2.1 = some y := hxy
  obtain ⟨⟨T0, T1, ⟨⟩⟩, h, id, ⟨⟩⟩ := x
  simp only at hxy
  cases h with
  | none => cases hxy
  | some i =>
    unfold F_arena_Arena_Used at hxy
    simp only at hxy
    split at hxy
    · rename_i hok
      injection hxy with hxy
      subst hxy
      simp only [Bool.and_eq_true, decide_eq_true_eq, handlesOK, List.all_eq_true] at hok
      obtain ⟨hi, hlen, hall⟩ := hok
      intro w I L Rt B vs hW hb0 hs
      have hheap : entryH E (E.ks 13) (encTabs E.kinds (E.ks 13) (T0, (T1, ()))) = [some (tabB K0 T0), some (tabB K1 T1)] := entry13 (T0, (T1, ()))
      have hs' : Sim ⟨Go.Proofs.Tryd.prog, E, S, w, I, Rt, B⟩ I L ⟨[.hd 0 (some i), .v (.int .i64 id)], [some (tabB K0 T0), some (tabB K1 T1)]⟩ { tmps := vs, defers := [] } w := by
        rw [← hheap]; exact hs
      have henv := hs'.env
      simp only [RepL] at henv
      obtain ⟨v0, t0, e0, hv0, v1, t1, rfl, hv1, rfl⟩ := henv
      obtain ⟨p, hp, rfl⟩ := hd_at hv0
      simp only [Rep] at hv1
      subst hv1
      have hvs : vs = #[.pointer (some ⟨p.b, 0, none⟩), .int .i64 id] := Array.ext' e0
      have hall' : ∀ x, x ∈ (T0.getD i z0).2.1 → ∃ j, x = some j ∧ j < T1.length ∧ (T1.getD j z1).2.2.2.1.length ≤ 1000000 := fun x hx => by
        have := hall x hx
        cases x with
        | none => cases this
        | some j =>
          simp only [Bool.and_eq_true, decide_eq_true_eq] at this
          exact ⟨j, rfl, this.1, this.2⟩
      have hA := arena_at hs' (T0 := T0) (T1 := T1) rfl rfl hi (fun x hx => by
        obtain ⟨j, e, hj, _⟩ := hall' x hx
        exact ⟨j, e, hj⟩) hp
      have hraw := used_raw (id := id) hA (by rw [List.length_map]; exact hlen) (fun q hq => by
        obtain ⟨x, hx, rfl⟩ := List.mem_map.1 hq
        obtain ⟨j, rfl, _, hj⟩ := hall' x hx
        exact hj)
      rw [← hvs] at hraw
      refine hraw.mono fun e w' he => ?_
      obtain ⟨rfl, hg⟩ := he
      refine ⟨I, L, ?_⟩
      have h2 := hs.world (I' := I) (fun _ h => h) hg.size hg.block (fun b hb => Nat.lt_of_lt_of_le (hs.imm b hb) hg.size) (fun b hb => .inl hb) hg.io
      have h3 := h2.heap (hp' := outH E (E.ks 13) (encTabs E.kinds (E.ks 13) (T0, (T1, ()))) b0 []) (fun id b => by
        unfold outH
        rw [List.append_nil]
        exact pad_some)
      refine ⟨?_, rfl, h3.blk, h3.dom, h3.own, h3.inj, h3.imm, h3.i0, h3.iN, h3.same, h3.fix, h3.bx, h3.grow, h3.io⟩
      show RepL _ _ [.v (.int .i64 (usedOf T1 (T0.getD i z0).2.1 id))] [_]
      simp only [RepL, Rep]
      exact ⟨_, [], rfl, congrArg (Value.int .i64) (find_prs L T1 id (T0.getD i z0).2.1), rfl⟩
    · cases hxy

end Go.Proofs.YtnbpgehpjhifgaaDoor.Lx
