/-
  slices.Insert at a slice type, walked.
-/
import Derived.Test.YtnbpgehpjhifgaaDoorProg
import Derived.Test.YtnbpgehpjhifgaaDoorLxLstA
import Derived.KernelRfl
import Derived.WalkKit
import Derived.Deep.LoopGhost
import Derived.Deep.RegionLaw
import Derived.Lib.Walk
import Derived.Shelf.RegionOpenPlain
import Derived.Sort.WalkB12
import Derived.Shelf.Spec.SlicesInsert
import Derived.Lib.AppendZerosOnto
namespace Go.Proofs.LxLst.I25
open Go Go.Eng Go.RowKit Go.Lib

theorem underS : Tryd.prog.underlying 62 = some (.slice 66) := by kernel_rfl
theorem infoE : (Tryd.prog.info? 66).map (fun i => (i.zero, i.size, i.bytes)) = some (some (.agg #[.int .i64 0, .int .i64 0]), 2, 16) := by kernel_rfl
theorem mixed' : Tryd.prog.follows .mixedOrders = true := by kernel_rfl
theorem sizeE : ∀ w, (Go.sizeOf 66).run Tryd.prog w = .ok 2 w := by
  obtain ⟨i0, hi0, hz0, hz1, hz2⟩ := info_parts infoE
  intro w
  simp [sizeOf, typeInfo, hi0, hz1]

set_option maxHeartbeats 4000000 in
set_option maxRecDepth 100000 in
/-- at the end, with room -/
theorem endRoom {w : World} {n cap m capy b off vb voff : Nat} {G : List Value} {cs : Array Value} {T : TypeId} (hm : 0 < m) (hg : n + m ≤ cap) (hbig : (n + m) * (16 + 1) ≤ 1099511627776) (hGl : G.length = m * 2) (hG1 : ∀ v, v ∈ G → v.oneCell' = true)
    (hvs : ∀ (j : Nat) v, G[j]? = some v → w.cell? ⟨vb, voff + j, none⟩ = some v) (hh : w.heap[b]? = some (.cells cs T (0, 0))) (hroom : off + cap * 2 ≤ cs.size) :
    Calls Tryd.prog 25 #[.slice (some ⟨b, off, none⟩) n cap, .int .i64 n, .slice (some ⟨vb, voff, none⟩) m capy] w fun e w' => e = .returned (.slice (some ⟨b, off, none⟩) (n + m) cap) ∧ w' = w.setCells b (off + n * 2) G := by
  have mixed := mixed'
  have t62 := underS
  obtain ⟨i0, hi0, hz0, hz1, hz2⟩ := info_parts infoE
  have hrun : ∀ ty, (Builtin.append_ #[62, 62] ty #[.slice (some ⟨b, off, none⟩) n cap, .slice (some ⟨vb, voff, none⟩) m capy]).run Tryd.prog w = .ok (.slice (some ⟨b, off, none⟩) (n + m) cap) (w.setCells b (off + n * 2) G) := by
    intro ty
    have := run_append_room_cells (P := Tryd.prog) w 62 ty 66 i0 t62 hi0 b off n cap ⟨vb, voff, none⟩ m capy G (by rw [hz1]; exact hGl) (fun j u hj => by rw [Addr.add_lit]; exact hvs j u hj) hG1 hg
      (fun j hj => cell_isSome hh (by rw [hz1]; omega)) (fun j hj => frozen_no hh)
    rw [hz1] at this
    exact this
  have hz1' : ¬ ((m : Int) = 0) := by omega
  clear hvs hh hroom hG1 hGl
  try simp only [Nat.mul_one] at *
  go_enter Tryd.func25, Tryd.ntmps25
  go_wp2_with (at_builtin; refine Lib.wpList_append_run _ rfl _ _ _ _ rfl _ _ rfl rfl _ _ (hrun _) ?_)
  go_ret
  exact ⟨rfl, rfl⟩

set_option maxHeartbeats 4000000 in
set_option maxRecDepth 100000 in
/-- at the end, with none -/
theorem endGrow {w : World} {n cap m capy vb voff nc : Nat} {ad : Option Addr} {w1 : World} (hm : 0 < m) (hnc : n ≤ cap) (hg : cap < n + m) (hbig : (n + m) * (16 + 1) ≤ 1099511627776)
    (hrun : (Builtin.append_ #[62, 62] 62 #[.slice ad n cap, .slice (some ⟨vb, voff, none⟩) m capy]).run Tryd.prog w = .ok (.slice (some ⟨w.heap.size, 0, none⟩) (n + m) nc) w1) :
    Calls Tryd.prog 25 #[.slice ad n cap, .int .i64 n, .slice (some ⟨vb, voff, none⟩) m capy] w fun e w' => e = .returned (.slice (some ⟨w.heap.size, 0, none⟩) (n + m) nc) ∧ w' = w1 := by
  have mixed := mixed'
  have t62 := underS
  have hz1' : ¬ ((m : Int) = 0) := by omega
  try simp only [Nat.mul_one] at *
  go_enter Tryd.func25, Tryd.ntmps25
  cases ad with
  | none =>
    go_wp2_with (at_builtin; refine Lib.wpList_append_run _ rfl _ _ _ _ rfl _ _ rfl rfl _ _ hrun ?_)
    all_goals (go_ret; exact ⟨rfl, rfl⟩)
  | some a =>
    obtain ⟨ab, ao, asp⟩ := a
    go_wp2_with (at_builtin; refine Lib.wpList_append_run _ rfl _ _ _ _ rfl _ _ rfl rfl _ _ hrun ?_)
    all_goals (go_ret; exact ⟨rfl, rfl⟩)

set_option maxHeartbeats 4000000 in
set_option maxRecDepth 100000 in
/-- within, with room -/
theorem shift {w : World} {n cap m capy b off i vb voff : Nat} {F G : List Value} {cs csv : Array Value} {T Tv : TypeId} (hm : 0 < m) (hi : i < n) (hg : n + m ≤ cap) (hbig : (n + m) * (16 + 1) ≤ 1099511627776) (hFl : F.length = n * 2) (hF1 : ∀ v, v ∈ F → v.oneCell' = true)
    (hGl : G.length = m * 2) (hG1 : ∀ v, v ∈ G → v.oneCell' = true) (hat : ∀ (j : Nat) v, F[j]? = some v → cs[off + j]? = some v)
    (hatv : ∀ (j : Nat) v, G[j]? = some v → csv[voff + j]? = some v) (hh : w.heap[b]? = some (.cells cs T (0, 0))) (hhv : w.heap[vb]? = some (.cells csv Tv (0, 0))) (hvb : vb ≠ b) (hroom : off + cap * 2 ≤ cs.size) :
    Calls Tryd.prog 25 #[.slice (some ⟨b, off, none⟩) n cap, .int .i64 i, .slice (some ⟨vb, voff, none⟩) m capy] w fun e w' => e = .returned (.slice (some ⟨b, off, none⟩) (n + m) cap) ∧
      w' = (w.drew.setCells b (off + (i + m) * 2) (F.drop (i * 2))).setCells b (off + i * 2) G := by
  have mixed := mixed'
  have t62 := underS
  obtain ⟨i0, hi0, hz0, hz1, hz2⟩ := info_parts infoE
  have hz1' : ¬ ((m : Int) = 0) := by omega
  have hz2' : ¬ ((i : Int) = (n : Int)) := by omega
  have hov : ∀ lb cb, (callFunc 39 #[.slice (some ⟨vb, voff, none⟩) m capy, .slice (some ⟨b, off + (i + m) * 2, none⟩) lb cb]).run Tryd.prog w = .ok (.value (.bool false)) w := fun lb cb => by
    rw [run_callFunc_extern Tryd.func39 (by kernel_rfl) (by kernel_rfl) (by kernel_rfl) (e := Extern.SlicesOverlaps.overlaps #[62, 62] #[4]) (by kernel_rfl),
      Lib.run_overlaps_apart w 62 4 66 underS 2 sizeE ⟨vb, voff, none⟩ ⟨b, off + (i + m) * 2, none⟩ m capy lb cb hvb Tv T csv.size cs.size (by simp [World.shape?, hhv]) (by simp [World.shape?, hh]) (by omega) (frozen_no hhv) (frozen_no hhv)]
    rfl
  have hdl : (F.drop (i * 2)).length = (n - i) * 2 := by rw [List.length_drop, hFl]; omega
  have hw1 : IntKind.i64.wrap ((i : Int) + (m : Int)) = (i : Int) + (m : Int) := by rw [IntKind.wrap_i64]; omega
  have hw2 : IntKind.i64.wrap ((n : Int) + (m : Int)) = (n : Int) + (m : Int) := by rw [IntKind.wrap_i64]; omega
  have hb1 : (0 : Int) ≤ (i : Int) + (m : Int) := by omega
  have hin : i ≤ n := by omega
  have htn : ((i : Int) + (m : Int)).toNat = i + m := by omega
  have hb2 : ¬ (cap = i + m) := by omega
  have hb3 : (i : Int) ≤ (n : Int) + (m : Int) := by omega
  have hb4 : ¬ (cap = i) := by omega
  have hcp1 : ∀ ty dc sc, (Builtin.copy_ #[62, 62] ty #[.slice (some ⟨b, off + (i + m) * 2, none⟩) (n + m - (i + m)) dc, .slice (some ⟨b, off + i * 2, none⟩) (n + m - i) sc]).run Tryd.prog w.drew = .ok (goInt (min (n + m - i) (n + m - (i + m)) : Nat)) (w.drew.setCells b (off + (i + m) * 2) (F.drop (i * 2))) := fun ty dc sc =>
    Go.Eng.run_copy_row (cs := cs) (T := T) w.drew t62 hi0 hz1 (by rw [hdl, Nat.min_def]; split <;> omega) (fun j v hj => by
      rw [Addr.add_lit]
      show w.cell? _ = _
      rw [cell?_cells hh, Nat.add_assoc]
      exact hat _ v (by rwa [List.getElem?_drop] at hj)) (show w.drew.heap[b]? = _ from hh) (by rw [hdl]; omega) (fun v hv => hF1 v (List.mem_of_mem_drop hv))
  obtain ⟨W1, hW1⟩ : ∃ W1, W1 = w.drew.setCells b (off + (i + m) * 2) (F.drop (i * 2)) := ⟨_, rfl⟩
  obtain ⟨g1, g2, g3, g4⟩ := heap_setCells (F.drop (i * 2)) (off + (i + m) * 2) w.drew cs (show w.drew.heap[b]? = _ from hh)
  rw [← hW1] at g1 g2 g3 g4 hcp1
  have hcp2 : ∀ (W : World), W.heap = W1.heap → ∀ ty dc, (Builtin.copy_ #[62, 62] ty #[.slice (some ⟨b, off + i * 2, none⟩) (n + m - i) dc, .slice (some ⟨vb, voff, none⟩) m capy]).run Tryd.prog W = .ok (goInt (min m (n + m - i) : Nat)) (W.setCells b (off + i * 2) G) := fun W hWh ty dc =>
    Go.Eng.run_copy_row (cs := wrAt cs (off + (i + m) * 2) (F.drop (i * 2))) (T := T) W t62 hi0 hz1 (by rw [hGl, Nat.min_def]; split <;> omega) (fun j v hj => by
      have e1 : W.cell? ⟨vb, voff + j, none⟩ = W1.cell? ⟨vb, voff + j, none⟩ := cell?_heap vb (voff + j) (by rw [hWh])
      have e2 : W1.cell? ⟨vb, voff + j, none⟩ = w.drew.cell? ⟨vb, voff + j, none⟩ := cell?_heap vb (voff + j) (g3 vb hvb)
      rw [Addr.add_lit, e1, e2]
      show w.cell? _ = _
      rw [cell?_cells hhv]
      exact hatv j v hj) (by rw [hWh]; exact g1) (by rw [wrAt_size, hGl]; omega) hG1
  clear g1 g2 g3 g4 hat hatv hh hhv hroom hF1 hG1 hFl hGl hdl
  try simp only [Nat.mul_one] at *
  go_enter Tryd.func25, Tryd.ntmps25
  go_wp2_with (simp only [hov])
  go_region_law_o (refine Go.Proofs.step_copy_runI rfl _ _ 62 62 rfl _ _ (by simp [Act.eval, Act.put]) (by simp [Act.eval, Act.put]) (hcp1 _ _ _) ?_)
  go_wp2_with (at_builtin; refine Go.Proofs.wpList_copy_runI _ rfl _ _ 62 62 rfl _ _ rfl rfl (hcp2 _ rfl _ _) ?_)
  go_ret
  first | exact ⟨rfl, rfl⟩ | exact ⟨rfl, by rw [hW1]⟩

set_option maxHeartbeats 4000000 in
set_option maxRecDepth 100000 in
/-- within, with none -/
theorem grow {w : World} {n cap m capy b off i vb voff : Nat} {F G : List Value} {cs csv : Array Value} {T Tv : TypeId} (hm : 0 < m) (hi : i < n) (hnc : n ≤ cap) (hg : cap < n + m) (hbig : (n + m) * (16 + 1) ≤ 1099511627776) (hFl : F.length = n * 2) (hF1 : ∀ v, v ∈ F → v.oneCell' = true)
    (hGl : G.length = m * 2) (hG1 : ∀ v, v ∈ G → v.oneCell' = true) (hat : ∀ (j : Nat) v, F[j]? = some v → cs[off + j]? = some v)
    (hatv : ∀ (j : Nat) v, G[j]? = some v → csv[voff + j]? = some v) (hh : w.heap[b]? = some (.cells cs T (0, 0))) (hhv : w.heap[vb]? = some (.cells csv Tv (0, 0))) :
    ∃ (N : Nat) (ROW : Array Value), n + m ≤ N ∧ ROW.size = N * 2 ∧ (∀ (j : Nat), j < i * 2 → ROW[j]? = F[j]?) ∧
    Calls Tryd.prog 25 #[.slice (some ⟨b, off, none⟩) n cap, .int .i64 i, .slice (some ⟨vb, voff, none⟩) m capy] w fun e w' => e = .returned (.slice (some ⟨w.heap.size, 0, none⟩) (n + m) N) ∧
      w' = (((w.alloc (.cells ROW 66)).drew.setCells w.heap.size (i * 2) G).drew).setCells w.heap.size ((i + m) * 2) (F.drop (i * 2)) := by
  have mixed := mixed'
  have t62 := underS
  have tint : Tryd.prog.underlying 3 = some (.int .i64) := by kernel_rfl
  obtain ⟨i0, hi0, hz0, hz1, hz2⟩ := info_parts infoE
  have hz1' : ¬ ((m : Int) = 0) := by omega
  have hz2' : ¬ ((i : Int) = (n : Int)) := by omega
  have hz3 : (cap : Int) < (n : Int) + (m : Int) := by omega
  have hkk : (n : Int) + (m : Int) - (i : Int) = ((n + m - i : Nat) : Int) := by omega
  have hik : i + (n + m - i) = n + m := by omega
  have hbw : b < w.heap.size := (Array.getElem?_eq_some_iff.1 hh).1
  have hvw : vb < w.heap.size := (Array.getElem?_eq_some_iff.1 hhv).1
  have htl : (F.take (i * 2)).length = i * 2 := by rw [List.length_take, hFl]; omega
  have hold : (Builtin.firstCells i0.size i (.slice (some ⟨b, off, none⟩) i cap)).run Tryd.prog w.drew = .ok (F.take (i * 2)).toArray w.drew := by
    rw [hz1]
    exact run_firstCells_some w.drew 2 i ⟨b, off, none⟩ i cap (F.take (i * 2)) htl (fun j v hj => by
      rw [Addr.add_lit]
      rw [List.getElem?_take] at hj
      split at hj
      · show w.cell? _ = _
        rw [cell?_cells hh]
        exact hat j v hj
      · cases hj)
  have hrz : ∀ ty, (Builtin.append_ #[62, 3] ty #[.slice (some ⟨b, off, none⟩) i cap, .int .i64 ((n : Int) + (m : Int) - (i : Int))]).run Tryd.prog w =
      .ok (.slice (some ⟨w.heap.size, 0, none⟩) (n + m) (grownCap w (n + m) cap 66)) (w.drew.alloc (.cells ((F.take (i * 2)).toArray ++ Builtin.zeroCells (.agg #[.int .i64 0, .int .i64 0] : Value).cells (n + m - i) ++ Builtin.zeroCells (.agg #[.int .i64 0, .int .i64 0] : Value).cells (grownCap w (n + m) cap 66 - (n + m))) 66)) := fun ty => by
    have h := Lib.run_append_grow_zeros w 62 3 ty 66 i0 _ .i64 .i64 t62 tint hi0 hz0 (some ⟨b, off, none⟩) i cap (F.take (i * 2)) hold (n + m - i) (by omega) (by omega) (by omega) (by omega) (by rw [hz2]; omega) (by rw [hz2, hik]; exact growslice_fits hg (by omega))
    rw [hik] at h
    rw [hkk]
    exact h
  obtain ⟨N, hN⟩ : ∃ N, N = grownCap w (n + m) cap 66 := ⟨_, rfl⟩
  obtain ⟨ROW, hROW⟩ : ∃ ROW : Array Value, ROW = (F.take (i * 2)).toArray ++ Builtin.zeroCells (.agg #[.int .i64 0, .int .i64 0] : Value).cells (n + m - i) ++ Builtin.zeroCells (.agg #[.int .i64 0, .int .i64 0] : Value).cells (N - (n + m)) := ⟨_, rfl⟩
  have hGn : n + m ≤ N := by rw [hN]; exact grownCap_ge w _ _ _
  rw [← hN] at hrz
  rw [← hROW] at hrz
  have hRs : ROW.size = N * 2 := by
    rw [hROW]
    simp only [Array.size_append, List.size_toArray, size_zeroCells, htl]
    show i * 2 + (n + m - i) * 2 + (N - (n + m)) * 2 = N * 2
    omega
  have hRt : ∀ (j : Nat), j < i * 2 → ROW[j]? = F[j]? := by
    intro j hj
    rw [hROW, ← Array.getElem?_toList]
    simp only [Array.toList_append, List.append_assoc]
    rw [List.getElem?_append_left (by show j < (F.take (i * 2)).length; rw [htl]; exact hj), List.getElem?_take_of_lt hj]
  refine ⟨N, ROW, hGn, hRs, hRt, ?_⟩
  obtain ⟨W1, hW1⟩ : ∃ W1, W1 = w.drew.alloc (.cells ROW 66) := ⟨_, rfl⟩
  rw [← hW1] at hrz
  have hh1 : W1.heap[w.heap.size]? = some (.cells ROW 66 (0, 0)) := by rw [hW1]; exact heap_push_new (w := w) (w' := w.drew.alloc (.cells ROW 66)) rfl
  have hho : ∀ k, k < w.heap.size → W1.heap[k]? = w.heap[k]? := fun k hk => by rw [hW1]; exact heap_push_old (w := w) (w' := w.drew.alloc (.cells ROW 66)) rfl k hk
  have hdl : (F.drop (i * 2)).length = (n - i) * 2 := by rw [List.length_drop, hFl]; omega
  have hcpA : ∀ (W : World), W.heap = W1.heap → ∀ ty dc, (Builtin.copy_ #[62, 62] ty #[.slice (some ⟨w.heap.size, i * 2, none⟩) (n + m - i) dc, .slice (some ⟨vb, voff, none⟩) m capy]).run Tryd.prog W = .ok (goInt (min m (n + m - i) : Nat)) (W.setCells w.heap.size (i * 2) G) := fun W hWh ty dc =>
    Go.Eng.run_copy_row (cs := ROW) (T := 66) W t62 hi0 hz1 (by rw [hGl, Nat.min_def]; split <;> omega) (fun j v hj => by
      have e1 : W.cell? ⟨vb, voff + j, none⟩ = w.cell? ⟨vb, voff + j, none⟩ := cell?_heap vb (voff + j) (by rw [hWh]; exact hho vb hvw)
      rw [Addr.add_lit, e1, cell?_cells hhv]
      exact hatv j v hj) (by rw [hWh]; exact hh1) (by rw [hRs, hGl]; omega) hG1
  obtain ⟨g1, g2, g3, g4⟩ := heap_setCells G (i * 2) W1 ROW hh1
  have hcpB : ∀ (W : World), W.heap = (W1.setCells w.heap.size (i * 2) G).heap → ∀ ty dc sc, (Builtin.copy_ #[62, 62] ty #[.slice (some ⟨w.heap.size, (i + m) * 2, none⟩) (n + m - (i + m)) dc, .slice (some ⟨b, off + i * 2, none⟩) (n - i) sc]).run Tryd.prog W = .ok (goInt (min (n - i) (n + m - (i + m)) : Nat)) (W.setCells w.heap.size ((i + m) * 2) (F.drop (i * 2))) := fun W hWh ty dc sc =>
    Go.Eng.run_copy_row (cs := wrAt ROW (i * 2) G) (T := 66) W t62 hi0 hz1 (by rw [hdl, Nat.min_def]; split <;> omega) (fun j v hj => by
      have e1 : W.cell? ⟨b, off + i * 2 + j, none⟩ = w.cell? ⟨b, off + i * 2 + j, none⟩ := cell?_heap b _ (by rw [hWh, g3 b (by omega)]; exact hho b hbw)
      rw [Addr.add_lit, e1, cell?_cells hh, Nat.add_assoc]
      exact hat _ v (by rwa [List.getElem?_drop] at hj)) (by rw [hWh]; exact g1) (by rw [wrAt_size, hRs, hdl]; omega) (fun v hv => hF1 v (List.mem_of_mem_drop hv))
  have hGi : ¬ (N = i) := by omega
  have hGim : ¬ (N = i + m) := by omega
  have hci : ¬ (cap = i) := by omega
  subst hW1
  have hE1 : ((w.alloc (.cells ROW 66)).drew).heap = (w.drew.alloc (.cells ROW 66)).heap := rfl
  have hE2 : (((w.alloc (.cells ROW 66)).drew.setCells w.heap.size (i * 2) G).drew).heap = ((w.drew.alloc (.cells ROW 66)).setCells w.heap.size (i * 2) G).heap := rfl
  have hw1 : IntKind.i64.wrap ((i : Int) + (m : Int)) = (i : Int) + (m : Int) := by rw [IntKind.wrap_i64]; omega
  have hw2 : IntKind.i64.wrap ((n : Int) + (m : Int)) = (n : Int) + (m : Int) := by rw [IntKind.wrap_i64]; omega
  have hw3 : IntKind.i64.wrap ((n : Int) + (m : Int) - (i : Int)) = (n : Int) + (m : Int) - (i : Int) := by rw [IntKind.wrap_i64]; omega
  have hb1 : (0 : Int) ≤ (i : Int) + (m : Int) := by omega
  have hin : i ≤ n := by omega
  have htn : ((i : Int) + (m : Int)).toNat = i + m := by omega
  have hb3 : (i : Int) ≤ (n : Int) := by omega
  have hic : i ≤ cap := by omega
  clear hkk hik hold hROW hN hRs hRt hh hhv hat hatv hF1 hG1 hFl hGl hdl g1 g2 g3 g4 hh1 hho htl
  try simp only [Nat.mul_one] at *
  go_enter Tryd.func25, Tryd.ntmps25
  go_wp2_with (first
    | (at_builtin; refine Lib.wpList_append_run _ rfl _ _ _ _ rfl _ _ rfl rfl _ _ (hrz _) ?_)
    | (at_builtin; refine Go.Proofs.wpList_copy_runI _ rfl _ _ 62 62 rfl _ _ rfl rfl (hcpA _ hE1 _ _) ?_))
  go_region_law_o (refine Go.Proofs.step_copy_runI rfl _ _ 62 62 rfl (.slice (some ⟨w.heap.size, (i + m) * 2, none⟩) (n + m - (i + m)) (N - (i + m))) (.slice (some ⟨b, off + i * 2, none⟩) (n - i) (cap - i)) (by simp [Act.eval, Act.put]) (by simp [Act.eval, Act.put]) (hcpB _ hE2 _ _ _) ?_)
  go_wp2
  go_ret
  exact ⟨rfl, rfl⟩

theorem ok : LstOK Tryd.prog 25 (.ins 2 16) := by
  intro w n ad cap F i m ay capy G hrow hrowy hne hm hin hbig
  obtain ⟨hnc, hFl, hF1, hpl⟩ := hrow
  obtain ⟨hmc, hGl, hG1, hply⟩ := hrowy
  rcases hply with h0 | ⟨vb, voff, csv, Tv, rfl, hhv, hroomv, hatv⟩
  · omega
  obtain ⟨i0, hi0, hz0, hz1, hz2⟩ := info_parts infoE
  have hvs : ∀ (j : Nat) v, G[j]? = some v → w.cell? ⟨vb, voff + j, none⟩ = some v := fun j v hj => by rw [cell?_cells hhv]; exact hatv j v hj
  have hlen : (F.take (i * 2) ++ G ++ F.drop (i * 2)).length = (n + m) * 2 := by
    simp only [List.length_append, List.length_take, List.length_drop]
    omega
  by_cases hi : i = n
  · subst hi
    have hF' : F.take (i * 2) ++ G ++ F.drop (i * 2) = F ++ G := by
      rw [← hFl, List.take_length, List.drop_length, List.append_nil]
    rw [hF'] at hlen ⊢
    by_cases hg : i + m ≤ cap
    · rcases hpl with h0 | ⟨b, off, cs, T, rfl, hh, hroom, hat⟩
      · omega
      refine (endRoom hm hg hbig hGl hG1 hvs hh hroom).mono ?_
      rintro e w' ⟨rfl, rfl⟩
      obtain ⟨g1, g2, g3, g4⟩ := heap_setCells G (off + i * 2) w cs hh
      refine ⟨_, rfl, g4, hlen, cap, hg, .inl ⟨b, off, cs, _, T, rfl, hh, rfl, Nat.le_refl _, by omega, g2, g1, by rw [wrAt_size], g3, fun k x hk => ?_⟩⟩
      rw [List.getElem?_append] at hk
      split at hk
      · rename_i h1
        rw [wrAt_out _ _ _ _ (.inl (by omega))]
        exact hat k x hk
      · rename_i h1
        have hkl := (List.getElem?_eq_some_iff.1 hk).1
        rw [hFl] at hk hkl h1
        rw [show off + k = off + i * 2 + (k - i * 2) from by omega, wrAt_in _ _ _ _ hkl (by rw [hGl] at hkl; omega)]
        exact hk
    · have hFr : Reads w ((.st (.pair (.int .i64) (.int .i64))) : Ty).size i (.slice ad i cap) F := reads_at (by rw [hFl]; rfl) fun hn0 => by
        rcases hpl with h0 | ⟨b, off, cs, T, rfl, hh, hroom, hat⟩
        · omega
        · exact ⟨b, off, rfl, fun j v hj => by rw [cell?_cells hh]; exact hat j v hj⟩
      have hGr : Reads w ((.st (.pair (.int .i64) (.int .i64))) : Ty).size m (.slice (some ⟨vb, voff, none⟩) m capy) G := reads_at (by rw [hGl]; rfl) fun _ => ⟨vb, voff, rfl, hvs⟩
      obtain ⟨nc, w1, hr, hnc', hheap, hio⟩ := run_append_new (P := Tryd.prog) w (ty := 62) underS hi0 hz0 (sz := ((.st (.pair (.int .i64) (.int .i64))) : Ty).size) (by rw [hz1]; rfl) rfl rfl hFr (by rw [hFl]; rfl) hGr (by rw [hGl]; rfl) (by omega) (by rw [hz2]; exact hbig)
      refine (endGrow hm hnc (by omega) hbig hr).mono ?_
      rintro e w' ⟨rfl, rfl⟩
      refine ⟨_, rfl, hio, hlen, nc, hnc', .inr ⟨_, _, hheap, rfl, ?_, fun k x hk => ?_⟩⟩
      · simp only [Array.size_append, List.size_toArray, size_zeroCells, hFl, hGl]
        show nc * 2 ≤ i * 2 + m * 2 + (nc - (i + m)) * 2
        omega
      · rw [← Array.getElem?_toList]
        simp only [Array.toList_append]
        exact List.getElem?_append_left (List.getElem?_eq_some_iff.1 hk).1 ▸ hk
  · have hlt : i < n := by omega
    rcases hpl with h0 | ⟨b, off, cs, T, rfl, hh, hroom, hat⟩
    · omega
    have hvb : vb ≠ b := fun e => hne b off vb voff rfl rfl (by omega) e.symm
    have htl : (F.take (i * 2)).length = i * 2 := by rw [List.length_take, hFl]; omega
    have hdl : (F.drop (i * 2)).length = (n - i) * 2 := by rw [List.length_drop, hFl]; omega
    by_cases hg : n + m ≤ cap
    · refine (shift (capy := capy) hm hlt hg hbig hFl hF1 hGl hG1 hat hatv hh hhv hvb hroom).mono ?_
      rintro e w' ⟨rfl, rfl⟩
      obtain ⟨g1, g2, g3, g4⟩ := heap_setCells (F.drop (i * 2)) (off + (i + m) * 2) w.drew cs (show w.drew.heap[b]? = _ from hh)
      obtain ⟨k1, k2, k3, k4⟩ := heap_setCells G (off + i * 2) (w.drew.setCells b (off + (i + m) * 2) (F.drop (i * 2))) _ g1
      refine ⟨_, rfl, IO.trans (show IO w _ from g4) k4, hlen, cap, hg, .inl ⟨b, off, cs, _, T, rfl, hh, rfl, Nat.le_refl _, by omega, k2.trans g2, k1, by rw [wrAt_size, wrAt_size], fun k hk => (k3 k hk).trans (g3 k hk), fun k x hk => ?_⟩⟩
      rw [List.append_assoc, List.getElem?_append] at hk
      split at hk
      · rename_i h1
        rw [htl] at h1
        rw [wrAt_out _ _ _ _ (.inl (by omega)), wrAt_out _ _ _ _ (.inl (by omega))]
        rw [List.getElem?_take_of_lt h1] at hk
        exact hat k x hk
      · rename_i h1
        rw [htl] at h1 hk
        rw [List.getElem?_append] at hk
        split at hk
        · rename_i h2
          rw [show off + k = off + i * 2 + (k - i * 2) from by omega, wrAt_in _ _ _ _ h2 (by rw [wrAt_size]; rw [hGl] at h2; omega)]
          exact hk
        · rename_i h2
          rw [hGl] at h2 hk
          have hkl := (List.getElem?_eq_some_iff.1 hk).1
          rw [wrAt_out _ _ _ _ (.inr (by rw [hGl]; omega)), show off + k = off + (i + m) * 2 + (k - i * 2 - m * 2) from by omega, wrAt_in _ _ _ _ hkl (by rw [hdl] at hkl; omega)]
          exact hk
    · obtain ⟨N, ROW, hN, hRs, hRt, hcall⟩ := grow (capy := capy) hm hlt hnc (by omega) hbig hFl hF1 hGl hG1 hat hatv hh hhv
      refine hcall.mono ?_
      rintro e w' ⟨rfl, rfl⟩
      have hh1 : (w.alloc (.cells ROW 66)).drew.heap[w.heap.size]? = some (.cells ROW 66 (0, 0)) := heap_push_new (w := w) (w' := w.alloc (.cells ROW 66)) rfl
      have hho : ∀ k, k < w.heap.size → (w.alloc (.cells ROW 66)).drew.heap[k]? = w.heap[k]? := fun k hk => heap_push_old (w := w) (w' := w.alloc (.cells ROW 66)) rfl k hk
      obtain ⟨g1, g2, g3, g4⟩ := heap_setCells G (i * 2) (w.alloc (.cells ROW 66)).drew ROW hh1
      obtain ⟨k1, k2, k3, k4⟩ := heap_setCells (F.drop (i * 2)) ((i + m) * 2) ((w.alloc (.cells ROW 66)).drew.setCells w.heap.size (i * 2) G).drew _ g1
      refine ⟨_, rfl, IO.trans (show IO w (w.alloc (.cells ROW 66)).drew from ⟨rfl, rfl, rfl⟩) (IO.trans g4 k4), hlen, N, hN, .inr ⟨wrAt (wrAt ROW (i * 2) G) ((i + m) * 2) (F.drop (i * 2)), 66, ?_, rfl, ?_, fun k x hk => ?_⟩⟩
      · have hsz : (((w.alloc (.cells ROW 66)).drew.setCells w.heap.size (i * 2) G).drew.setCells w.heap.size ((i + m) * 2) (F.drop (i * 2))).heap.size = w.heap.size + 1 := by
          rw [k2]
          show ((w.alloc (.cells ROW 66)).drew.setCells w.heap.size (i * 2) G).heap.size = _
          rw [g2]
          show (w.heap.push (.cells ROW 66 (0, 0))).size = _
          rw [Array.size_push]
        apply Array.ext_getElem?
        intro k
        rw [Array.getElem?_push]
        split
        · rename_i e
          rw [e]
          exact k1
        · rename_i e
          rw [k3 k e]
          show ((w.alloc (.cells ROW 66)).drew.setCells w.heap.size (i * 2) G).heap[k]? = _
          rw [g3 k e]
          rcases Nat.lt_or_ge k w.heap.size with hk | hk
          · exact hho k hk
          · have hs1 : (w.alloc (.cells ROW 66)).drew.heap.size = w.heap.size + 1 := by
              show (w.heap.push (.cells ROW 66 (0, 0))).size = _
              rw [Array.size_push]
            rw [Array.getElem?_eq_none hk, Array.getElem?_eq_none (by rw [hs1]; omega)]
      · rw [wrAt_size, wrAt_size, hRs]
        exact Nat.le_refl _
      · rw [List.append_assoc, List.getElem?_append] at hk
        split at hk
        · rename_i h1
          rw [htl] at h1
          rw [wrAt_out _ _ _ _ (.inl (by omega)), wrAt_out _ _ _ _ (.inl (by omega)), hRt k h1]
          rw [List.getElem?_take_of_lt h1] at hk
          exact hk
        · rename_i h1
          rw [htl] at h1 hk
          rw [List.getElem?_append] at hk
          split at hk
          · rename_i h2
            rw [wrAt_out _ _ _ _ (.inl (by rw [hGl] at h2; omega)), show k = i * 2 + (k - i * 2) from by omega, wrAt_in _ _ _ _ h2 (by rw [hGl] at h2; omega)]
            exact hk
          · rename_i h2
            rw [hGl] at h2 hk
            have hkl := (List.getElem?_eq_some_iff.1 hk).1
            have hk2 : k = (i + m) * 2 + (k - i * 2 - m * 2) := by omega
            rw [hk2, wrAt_in _ _ _ _ hkl (by rw [wrAt_size, hRs]; rw [hdl] at hkl; omega)]
            exact hk

end Go.Proofs.LxLst.I25
