/-
  Texts of the proof, one behind the other.
-/
import Derived.Test.YtnbpgehpjhifgaaDoorLxPe
import Derived.Test.YtnbpgehpjhifgaaDoorProg
import Derived.KernelRfl
import Derived.WalkKit
import Derived.Deep.LoopGhost
import Derived.Deep.RegionLaw
import Derived.Lib.Walk
import Derived.Shelf.RegionOpenPlain
import Derived.Sort.WalkB12
import Derived.Shelf.Spec.SlicesInsert
import Derived.Lib.AppendZerosOnto
import Derived.LaidEqlPtr
import Derived.Shelf.SlicesE.DeleteFunc

/-
  slices.Insert at a slice type, walked.
-/
namespace Go.Proofs.LxLst.I24
open Go Go.Eng Go.RowKit Go.Lib

theorem underS : Tryd.prog.underlying 57 = some (.slice 60) := by kernel_rfl
theorem infoE : (Tryd.prog.info? 60).map (fun i => (i.zero, i.size, i.bytes)) = some (some (.pointer none), 1, 8) := by kernel_rfl
theorem mixed' : Tryd.prog.follows .mixedOrders = true := by kernel_rfl
theorem sizeE : ∀ w, (Go.sizeOf 60).run Tryd.prog w = .ok 1 w := by
  obtain ⟨i0, hi0, hz0, hz1, hz2⟩ := info_parts infoE
  intro w
  simp [sizeOf, typeInfo, hi0, hz1]

set_option maxHeartbeats 4000000 in
set_option maxRecDepth 100000 in
/-- at the end, with room -/
theorem endRoom {w : World} {n cap m capy b off vb voff : Nat} {G : List Value} {cs : Array Value} {T : TypeId} (hm : 0 < m) (hg : n + m ≤ cap) (hbig : (n + m) * (8 + 1) ≤ 1099511627776) (hGl : G.length = m * 1) (hG1 : ∀ v, v ∈ G → v.oneCell' = true)
    (hvs : ∀ (j : Nat) v, G[j]? = some v → w.cell? ⟨vb, voff + j, none⟩ = some v) (hh : w.heap[b]? = some (.cells cs T (0, 0))) (hroom : off + cap * 1 ≤ cs.size) :
    Calls Tryd.prog 24 #[.slice (some ⟨b, off, none⟩) n cap, .int .i64 n, .slice (some ⟨vb, voff, none⟩) m capy] w fun e w' => e = .returned (.slice (some ⟨b, off, none⟩) (n + m) cap) ∧ w' = w.setCells b (off + n * 1) G := by
  have mixed := mixed'
  have t62 := underS
  obtain ⟨i0, hi0, hz0, hz1, hz2⟩ := info_parts infoE
  have hrun : ∀ ty, (Builtin.append_ #[57, 57] ty #[.slice (some ⟨b, off, none⟩) n cap, .slice (some ⟨vb, voff, none⟩) m capy]).run Tryd.prog w = .ok (.slice (some ⟨b, off, none⟩) (n + m) cap) (w.setCells b (off + n * 1) G) := by
    intro ty
    have := run_append_room_cells (P := Tryd.prog) w 57 ty 60 i0 t62 hi0 b off n cap ⟨vb, voff, none⟩ m capy G (by rw [hz1]; exact hGl) (fun j u hj => by rw [Addr.add_lit]; exact hvs j u hj) hG1 hg
      (fun j hj => cell_isSome hh (by rw [hz1]; omega)) (fun j hj => frozen_no hh)
    rw [hz1] at this
    exact this
  have hz1' : ¬ ((m : Int) = 0) := by omega
  clear hvs hh hroom hG1 hGl
  try simp only [Nat.mul_one] at *
  go_enter Tryd.func24, Tryd.ntmps24
  go_wp2_with (at_builtin; refine Lib.wpList_append_run _ rfl _ _ _ _ rfl _ _ rfl rfl _ _ (hrun _) ?_)
  go_ret
  exact ⟨rfl, rfl⟩

set_option maxHeartbeats 4000000 in
set_option maxRecDepth 100000 in
/-- at the end, with none -/
theorem endGrow {w : World} {n cap m capy vb voff nc : Nat} {ad : Option Addr} {w1 : World} (hm : 0 < m) (hnc : n ≤ cap) (hg : cap < n + m) (hbig : (n + m) * (8 + 1) ≤ 1099511627776)
    (hrun : (Builtin.append_ #[57, 57] 57 #[.slice ad n cap, .slice (some ⟨vb, voff, none⟩) m capy]).run Tryd.prog w = .ok (.slice (some ⟨w.heap.size, 0, none⟩) (n + m) nc) w1) :
    Calls Tryd.prog 24 #[.slice ad n cap, .int .i64 n, .slice (some ⟨vb, voff, none⟩) m capy] w fun e w' => e = .returned (.slice (some ⟨w.heap.size, 0, none⟩) (n + m) nc) ∧ w' = w1 := by
  have mixed := mixed'
  have t62 := underS
  have hz1' : ¬ ((m : Int) = 0) := by omega
  try simp only [Nat.mul_one] at *
  go_enter Tryd.func24, Tryd.ntmps24
  cases ad with
  | none =>
    go_wp2_with (at_builtin; refine Lib.wpList_append_run _ rfl _ _ _ _ rfl _ _ rfl rfl _ _ hrun ?_)
    all_goals (go_ret; exact ⟨rfl, rfl⟩)
  | some a =>
    obtain ⟨ab, ao, asp⟩ := a
    go_wp2_with (at_builtin; refine Lib.wpList_append_run _ rfl _ _ _ _ rfl _ _ rfl rfl _ _ hrun ?_)
    all_goals (go_ret; exact ⟨rfl, rfl⟩)

set_option maxHeartbeats 4000000 in
set_option maxRecDepth 100000 in
/-- within, with room -/
theorem shift {w : World} {n cap m capy b off i vb voff : Nat} {F G : List Value} {cs csv : Array Value} {T Tv : TypeId} (hm : 0 < m) (hi : i < n) (hg : n + m ≤ cap) (hbig : (n + m) * (8 + 1) ≤ 1099511627776) (hFl : F.length = n * 1) (hF1 : ∀ v, v ∈ F → v.oneCell' = true)
    (hGl : G.length = m * 1) (hG1 : ∀ v, v ∈ G → v.oneCell' = true) (hat : ∀ (j : Nat) v, F[j]? = some v → cs[off + j]? = some v)
    (hatv : ∀ (j : Nat) v, G[j]? = some v → csv[voff + j]? = some v) (hh : w.heap[b]? = some (.cells cs T (0, 0))) (hhv : w.heap[vb]? = some (.cells csv Tv (0, 0))) (hvb : vb ≠ b) (hroom : off + cap * 1 ≤ cs.size) :
    Calls Tryd.prog 24 #[.slice (some ⟨b, off, none⟩) n cap, .int .i64 i, .slice (some ⟨vb, voff, none⟩) m capy] w fun e w' => e = .returned (.slice (some ⟨b, off, none⟩) (n + m) cap) ∧
      w' = (w.drew.setCells b (off + (i + m) * 1) (F.drop (i * 1))).setCells b (off + i * 1) G := by
  have mixed := mixed'
  have t62 := underS
  obtain ⟨i0, hi0, hz0, hz1, hz2⟩ := info_parts infoE
  have hz1' : ¬ ((m : Int) = 0) := by omega
  have hz2' : ¬ ((i : Int) = (n : Int)) := by omega
  have hov : ∀ lb cb, (callFunc 37 #[.slice (some ⟨vb, voff, none⟩) m capy, .slice (some ⟨b, off + (i + m) * 1, none⟩) lb cb]).run Tryd.prog w = .ok (.value (.bool false)) w := fun lb cb => by
    rw [run_callFunc_extern Tryd.func37 (by kernel_rfl) (by kernel_rfl) (by kernel_rfl) (e := Extern.SlicesOverlaps.overlaps #[57, 57] #[4]) (by kernel_rfl),
      Lib.run_overlaps_apart w 57 4 60 underS 1 sizeE ⟨vb, voff, none⟩ ⟨b, off + (i + m) * 1, none⟩ m capy lb cb hvb Tv T csv.size cs.size (by simp [World.shape?, hhv]) (by simp [World.shape?, hh]) (by omega) (frozen_no hhv) (frozen_no hhv)]
    rfl
  have hdl : (F.drop (i * 1)).length = (n - i) * 1 := by rw [List.length_drop, hFl]; omega
  have hw1 : IntKind.i64.wrap ((i : Int) + (m : Int)) = (i : Int) + (m : Int) := by rw [IntKind.wrap_i64]; omega
  have hw2 : IntKind.i64.wrap ((n : Int) + (m : Int)) = (n : Int) + (m : Int) := by rw [IntKind.wrap_i64]; omega
  have hb1 : (0 : Int) ≤ (i : Int) + (m : Int) := by omega
  have hin : i ≤ n := by omega
  have htn : ((i : Int) + (m : Int)).toNat = i + m := by omega
  have hb2 : ¬ (cap = i + m) := by omega
  have hb3 : (i : Int) ≤ (n : Int) + (m : Int) := by omega
  have hb4 : ¬ (cap = i) := by omega
  have hcp1 : ∀ ty dc sc, (Builtin.copy_ #[57, 57] ty #[.slice (some ⟨b, off + (i + m) * 1, none⟩) (n + m - (i + m)) dc, .slice (some ⟨b, off + i * 1, none⟩) (n + m - i) sc]).run Tryd.prog w.drew = .ok (goInt (min (n + m - i) (n + m - (i + m)) : Nat)) (w.drew.setCells b (off + (i + m) * 1) (F.drop (i * 1))) := fun ty dc sc =>
    Go.Eng.run_copy_row (cs := cs) (T := T) w.drew t62 hi0 hz1 (by rw [hdl, Nat.min_def]; split <;> omega) (fun j v hj => by
      rw [Addr.add_lit]
      show w.cell? _ = _
      rw [cell?_cells hh, Nat.add_assoc]
      exact hat _ v (by rwa [List.getElem?_drop] at hj)) (show w.drew.heap[b]? = _ from hh) (by rw [hdl]; omega) (fun v hv => hF1 v (List.mem_of_mem_drop hv))
  obtain ⟨W1, hW1⟩ : ∃ W1, W1 = w.drew.setCells b (off + (i + m) * 1) (F.drop (i * 1)) := ⟨_, rfl⟩
  obtain ⟨g1, g2, g3, g4⟩ := heap_setCells (F.drop (i * 1)) (off + (i + m) * 1) w.drew cs (show w.drew.heap[b]? = _ from hh)
  rw [← hW1] at g1 g2 g3 g4 hcp1
  have hcp2 : ∀ (W : World), W.heap = W1.heap → ∀ ty dc, (Builtin.copy_ #[57, 57] ty #[.slice (some ⟨b, off + i * 1, none⟩) (n + m - i) dc, .slice (some ⟨vb, voff, none⟩) m capy]).run Tryd.prog W = .ok (goInt (min m (n + m - i) : Nat)) (W.setCells b (off + i * 1) G) := fun W hWh ty dc =>
    Go.Eng.run_copy_row (cs := wrAt cs (off + (i + m) * 1) (F.drop (i * 1))) (T := T) W t62 hi0 hz1 (by rw [hGl, Nat.min_def]; split <;> omega) (fun j v hj => by
      have e1 : W.cell? ⟨vb, voff + j, none⟩ = W1.cell? ⟨vb, voff + j, none⟩ := cell?_heap vb (voff + j) (by rw [hWh])
      have e2 : W1.cell? ⟨vb, voff + j, none⟩ = w.drew.cell? ⟨vb, voff + j, none⟩ := cell?_heap vb (voff + j) (g3 vb hvb)
      rw [Addr.add_lit, e1, e2]
      show w.cell? _ = _
      rw [cell?_cells hhv]
      exact hatv j v hj) (by rw [hWh]; exact g1) (by rw [wrAt_size, hGl]; omega) hG1
  clear g1 g2 g3 g4 hat hatv hh hhv hroom hF1 hG1 hFl hGl hdl
  try simp only [Nat.mul_one] at *
  go_enter Tryd.func24, Tryd.ntmps24
  go_wp2_with (simp only [hov])
  go_region_law_o (refine Go.Proofs.step_copy_runI rfl _ _ 57 57 rfl _ _ (by simp [Act.eval, Act.put]) (by simp [Act.eval, Act.put]) (hcp1 _ _ _) ?_)
  go_wp2_with (at_builtin; refine Go.Proofs.wpList_copy_runI _ rfl _ _ 57 57 rfl _ _ rfl rfl (hcp2 _ rfl _ _) ?_)
  go_ret
  first | exact ⟨rfl, rfl⟩ | exact ⟨rfl, by rw [hW1]⟩

set_option maxHeartbeats 4000000 in
set_option maxRecDepth 100000 in
/-- within, with none -/
theorem grow {w : World} {n cap m capy b off i vb voff : Nat} {F G : List Value} {cs csv : Array Value} {T Tv : TypeId} (hm : 0 < m) (hi : i < n) (hnc : n ≤ cap) (hg : cap < n + m) (hbig : (n + m) * (8 + 1) ≤ 1099511627776) (hFl : F.length = n * 1) (hF1 : ∀ v, v ∈ F → v.oneCell' = true)
    (hGl : G.length = m * 1) (hG1 : ∀ v, v ∈ G → v.oneCell' = true) (hat : ∀ (j : Nat) v, F[j]? = some v → cs[off + j]? = some v)
    (hatv : ∀ (j : Nat) v, G[j]? = some v → csv[voff + j]? = some v) (hh : w.heap[b]? = some (.cells cs T (0, 0))) (hhv : w.heap[vb]? = some (.cells csv Tv (0, 0))) :
    ∃ (N : Nat) (ROW : Array Value), n + m ≤ N ∧ ROW.size = N * 1 ∧ (∀ (j : Nat), j < i * 1 → ROW[j]? = F[j]?) ∧
    Calls Tryd.prog 24 #[.slice (some ⟨b, off, none⟩) n cap, .int .i64 i, .slice (some ⟨vb, voff, none⟩) m capy] w fun e w' => e = .returned (.slice (some ⟨w.heap.size, 0, none⟩) (n + m) N) ∧
      w' = (((w.alloc (.cells ROW 60)).drew.setCells w.heap.size (i * 1) G).drew).setCells w.heap.size ((i + m) * 1) (F.drop (i * 1)) := by
  have mixed := mixed'
  have t62 := underS
  have tint : Tryd.prog.underlying 3 = some (.int .i64) := by kernel_rfl
  obtain ⟨i0, hi0, hz0, hz1, hz2⟩ := info_parts infoE
  have hz1' : ¬ ((m : Int) = 0) := by omega
  have hz2' : ¬ ((i : Int) = (n : Int)) := by omega
  have hz3 : (cap : Int) < (n : Int) + (m : Int) := by omega
  have hkk : (n : Int) + (m : Int) - (i : Int) = ((n + m - i : Nat) : Int) := by omega
  have hik : i + (n + m - i) = n + m := by omega
  have hbw : b < w.heap.size := (Array.getElem?_eq_some_iff.1 hh).1
  have hvw : vb < w.heap.size := (Array.getElem?_eq_some_iff.1 hhv).1
  have htl : (F.take (i * 1)).length = i * 1 := by rw [List.length_take, hFl]; omega
  have hold : (Builtin.firstCells i0.size i (.slice (some ⟨b, off, none⟩) i cap)).run Tryd.prog w.drew = .ok (F.take (i * 1)).toArray w.drew := by
    rw [hz1]
    exact run_firstCells_some w.drew 1 i ⟨b, off, none⟩ i cap (F.take (i * 1)) htl (fun j v hj => by
      rw [Addr.add_lit]
      rw [List.getElem?_take] at hj
      split at hj
      · show w.cell? _ = _
        rw [cell?_cells hh]
        exact hat j v hj
      · cases hj)
  have hrz : ∀ ty, (Builtin.append_ #[57, 3] ty #[.slice (some ⟨b, off, none⟩) i cap, .int .i64 ((n : Int) + (m : Int) - (i : Int))]).run Tryd.prog w =
      .ok (.slice (some ⟨w.heap.size, 0, none⟩) (n + m) (grownCap w (n + m) cap 60)) (w.drew.alloc (.cells ((F.take (i * 1)).toArray ++ Builtin.zeroCells (.pointer none : Value).cells (n + m - i) ++ Builtin.zeroCells (.pointer none : Value).cells (grownCap w (n + m) cap 60 - (n + m))) 60)) := fun ty => by
    have h := Lib.run_append_grow_zeros w 57 3 ty 60 i0 _ .i64 .i64 t62 tint hi0 hz0 (some ⟨b, off, none⟩) i cap (F.take (i * 1)) hold (n + m - i) (by omega) (by omega) (by omega) (by omega) (by rw [hz2]; omega) (by rw [hz2, hik]; exact growslice_fits hg (by omega))
    rw [hik] at h
    rw [hkk]
    exact h
  obtain ⟨N, hN⟩ : ∃ N, N = grownCap w (n + m) cap 60 := ⟨_, rfl⟩
  obtain ⟨ROW, hROW⟩ : ∃ ROW : Array Value, ROW = (F.take (i * 1)).toArray ++ Builtin.zeroCells (.pointer none : Value).cells (n + m - i) ++ Builtin.zeroCells (.pointer none : Value).cells (N - (n + m)) := ⟨_, rfl⟩
  have hGn : n + m ≤ N := by rw [hN]; exact grownCap_ge w _ _ _
  rw [← hN] at hrz
  rw [← hROW] at hrz
  have hRs : ROW.size = N * 1 := by
    rw [hROW]
    simp only [Array.size_append, List.size_toArray, size_zeroCells, htl]
    show i * 1 + (n + m - i) * 1 + (N - (n + m)) * 1 = N * 1
    omega
  have hRt : ∀ (j : Nat), j < i * 1 → ROW[j]? = F[j]? := by
    intro j hj
    rw [hROW, ← Array.getElem?_toList]
    simp only [Array.toList_append, List.append_assoc]
    rw [List.getElem?_append_left (by show j < (F.take (i * 1)).length; rw [htl]; exact hj), List.getElem?_take_of_lt hj]
  refine ⟨N, ROW, hGn, hRs, hRt, ?_⟩
  obtain ⟨W1, hW1⟩ : ∃ W1, W1 = w.drew.alloc (.cells ROW 60) := ⟨_, rfl⟩
  rw [← hW1] at hrz
  have hh1 : W1.heap[w.heap.size]? = some (.cells ROW 60 (0, 0)) := by rw [hW1]; exact heap_push_new (w := w) (w' := w.drew.alloc (.cells ROW 60)) rfl
  have hho : ∀ k, k < w.heap.size → W1.heap[k]? = w.heap[k]? := fun k hk => by rw [hW1]; exact heap_push_old (w := w) (w' := w.drew.alloc (.cells ROW 60)) rfl k hk
  have hdl : (F.drop (i * 1)).length = (n - i) * 1 := by rw [List.length_drop, hFl]; omega
  have hcpA : ∀ (W : World), W.heap = W1.heap → ∀ ty dc, (Builtin.copy_ #[57, 57] ty #[.slice (some ⟨w.heap.size, i * 1, none⟩) (n + m - i) dc, .slice (some ⟨vb, voff, none⟩) m capy]).run Tryd.prog W = .ok (goInt (min m (n + m - i) : Nat)) (W.setCells w.heap.size (i * 1) G) := fun W hWh ty dc =>
    Go.Eng.run_copy_row (cs := ROW) (T := 60) W t62 hi0 hz1 (by rw [hGl, Nat.min_def]; split <;> omega) (fun j v hj => by
      have e1 : W.cell? ⟨vb, voff + j, none⟩ = w.cell? ⟨vb, voff + j, none⟩ := cell?_heap vb (voff + j) (by rw [hWh]; exact hho vb hvw)
      rw [Addr.add_lit, e1, cell?_cells hhv]
      exact hatv j v hj) (by rw [hWh]; exact hh1) (by rw [hRs, hGl]; omega) hG1
  obtain ⟨g1, g2, g3, g4⟩ := heap_setCells G (i * 1) W1 ROW hh1
  have hcpB : ∀ (W : World), W.heap = (W1.setCells w.heap.size (i * 1) G).heap → ∀ ty dc sc, (Builtin.copy_ #[57, 57] ty #[.slice (some ⟨w.heap.size, (i + m) * 1, none⟩) (n + m - (i + m)) dc, .slice (some ⟨b, off + i * 1, none⟩) (n - i) sc]).run Tryd.prog W = .ok (goInt (min (n - i) (n + m - (i + m)) : Nat)) (W.setCells w.heap.size ((i + m) * 1) (F.drop (i * 1))) := fun W hWh ty dc sc =>
    Go.Eng.run_copy_row (cs := wrAt ROW (i * 1) G) (T := 60) W t62 hi0 hz1 (by rw [hdl, Nat.min_def]; split <;> omega) (fun j v hj => by
      have e1 : W.cell? ⟨b, off + i * 1 + j, none⟩ = w.cell? ⟨b, off + i * 1 + j, none⟩ := cell?_heap b _ (by rw [hWh, g3 b (by omega)]; exact hho b hbw)
      rw [Addr.add_lit, e1, cell?_cells hh, Nat.add_assoc]
      exact hat _ v (by rwa [List.getElem?_drop] at hj)) (by rw [hWh]; exact g1) (by rw [wrAt_size, hRs, hdl]; omega) (fun v hv => hF1 v (List.mem_of_mem_drop hv))
  have hGi : ¬ (N = i) := by omega
  have hGim : ¬ (N = i + m) := by omega
  have hci : ¬ (cap = i) := by omega
  subst hW1
  have hE1 : ((w.alloc (.cells ROW 60)).drew).heap = (w.drew.alloc (.cells ROW 60)).heap := rfl
  have hE2 : (((w.alloc (.cells ROW 60)).drew.setCells w.heap.size (i * 1) G).drew).heap = ((w.drew.alloc (.cells ROW 60)).setCells w.heap.size (i * 1) G).heap := rfl
  have hw1 : IntKind.i64.wrap ((i : Int) + (m : Int)) = (i : Int) + (m : Int) := by rw [IntKind.wrap_i64]; omega
  have hw2 : IntKind.i64.wrap ((n : Int) + (m : Int)) = (n : Int) + (m : Int) := by rw [IntKind.wrap_i64]; omega
  have hw3 : IntKind.i64.wrap ((n : Int) + (m : Int) - (i : Int)) = (n : Int) + (m : Int) - (i : Int) := by rw [IntKind.wrap_i64]; omega
  have hb1 : (0 : Int) ≤ (i : Int) + (m : Int) := by omega
  have hin : i ≤ n := by omega
  have htn : ((i : Int) + (m : Int)).toNat = i + m := by omega
  have hb3 : (i : Int) ≤ (n : Int) := by omega
  have hic : i ≤ cap := by omega
  clear hkk hik hold hROW hN hRs hRt hh hhv hat hatv hF1 hG1 hFl hGl hdl g1 g2 g3 g4 hh1 hho htl
  try simp only [Nat.mul_one] at *
  go_enter Tryd.func24, Tryd.ntmps24
  go_wp2_with (first
    | (at_builtin; refine Lib.wpList_append_run _ rfl _ _ _ _ rfl _ _ rfl rfl _ _ (hrz _) ?_)
    | (at_builtin; refine Go.Proofs.wpList_copy_runI _ rfl _ _ 57 57 rfl _ _ rfl rfl (hcpA _ hE1 _ _) ?_))
  go_region_law_o (refine Go.Proofs.step_copy_runI rfl _ _ 57 57 rfl (.slice (some ⟨w.heap.size, i + m, none⟩) (n + m - (i + m)) (N - (i + m))) (.slice (some ⟨b, off + i, none⟩) (n - i) (cap - i)) (by simp [Act.eval, Act.put]) (by simp [Act.eval, Act.put]) (hcpB _ hE2 _ _ _) ?_)
  go_wp2
  go_ret
  exact ⟨rfl, rfl⟩

theorem ok : LstOK Tryd.prog 24 (.ins 1 8) := by
  intro w n ad cap F i m ay capy G hrow hrowy hne hm hin hbig
  obtain ⟨hnc, hFl, hF1, hpl⟩ := hrow
  obtain ⟨hmc, hGl, hG1, hply⟩ := hrowy
  rcases hply with h0 | ⟨vb, voff, csv, Tv, rfl, hhv, hroomv, hatv⟩
  · omega
  obtain ⟨i0, hi0, hz0, hz1, hz2⟩ := info_parts infoE
  have hvs : ∀ (j : Nat) v, G[j]? = some v → w.cell? ⟨vb, voff + j, none⟩ = some v := fun j v hj => by rw [cell?_cells hhv]; exact hatv j v hj
  have hlen : (F.take (i * 1) ++ G ++ F.drop (i * 1)).length = (n + m) * 1 := by
    simp only [List.length_append, List.length_take, List.length_drop]
    omega
  by_cases hi : i = n
  · subst hi
    have hF' : F.take (i * 1) ++ G ++ F.drop (i * 1) = F ++ G := by
      rw [← hFl, List.take_length, List.drop_length, List.append_nil]
    rw [hF'] at hlen ⊢
    by_cases hg : i + m ≤ cap
    · rcases hpl with h0 | ⟨b, off, cs, T, rfl, hh, hroom, hat⟩
      · omega
      refine (endRoom hm hg hbig hGl hG1 hvs hh hroom).mono ?_
      rintro e w' ⟨rfl, rfl⟩
      obtain ⟨g1, g2, g3, g4⟩ := heap_setCells G (off + i * 1) w cs hh
      refine ⟨_, rfl, g4, hlen, cap, hg, .inl ⟨b, off, cs, _, T, rfl, hh, rfl, Nat.le_refl _, by omega, g2, g1, by rw [wrAt_size], g3, fun k x hk => ?_⟩⟩
      rw [List.getElem?_append] at hk
      split at hk
      · rename_i h1
        rw [wrAt_out _ _ _ _ (.inl (by omega))]
        exact hat k x hk
      · rename_i h1
        have hkl := (List.getElem?_eq_some_iff.1 hk).1
        rw [hFl] at hk hkl h1
        rw [show off + k = off + i * 1 + (k - i * 1) from by omega, wrAt_in _ _ _ _ hkl (by rw [hGl] at hkl; omega)]
        exact hk
    · have hFr : Reads w ((.hd 1) : Ty).size i (.slice ad i cap) F := reads_at (by rw [hFl]; rfl) fun hn0 => by
        rcases hpl with h0 | ⟨b, off, cs, T, rfl, hh, hroom, hat⟩
        · omega
        · exact ⟨b, off, rfl, fun j v hj => by rw [cell?_cells hh]; exact hat j v hj⟩
      have hGr : Reads w ((.hd 1) : Ty).size m (.slice (some ⟨vb, voff, none⟩) m capy) G := reads_at (by rw [hGl]; rfl) fun _ => ⟨vb, voff, rfl, hvs⟩
      obtain ⟨nc, w1, hr, hnc', hheap, hio⟩ := run_append_new (P := Tryd.prog) w (ty := 57) underS hi0 hz0 (sz := ((.hd 1) : Ty).size) (by rw [hz1]; rfl) rfl rfl hFr (by rw [hFl]; rfl) hGr (by rw [hGl]; rfl) (by omega) (by rw [hz2]; exact hbig)
      refine (endGrow hm hnc (by omega) hbig hr).mono ?_
      rintro e w' ⟨rfl, rfl⟩
      refine ⟨_, rfl, hio, hlen, nc, hnc', .inr ⟨_, _, hheap, rfl, ?_, fun k x hk => ?_⟩⟩
      · simp only [Array.size_append, List.size_toArray, size_zeroCells, hFl, hGl]
        show nc * 1 ≤ i * 1 + m * 1 + (nc - (i + m)) * 1
        omega
      · rw [← Array.getElem?_toList]
        simp only [Array.toList_append]
        exact List.getElem?_append_left (List.getElem?_eq_some_iff.1 hk).1 ▸ hk
  · have hlt : i < n := by omega
    rcases hpl with h0 | ⟨b, off, cs, T, rfl, hh, hroom, hat⟩
    · omega
    have hvb : vb ≠ b := fun e => hne b off vb voff rfl rfl (by omega) e.symm
    have htl : (F.take (i * 1)).length = i * 1 := by rw [List.length_take, hFl]; omega
    have hdl : (F.drop (i * 1)).length = (n - i) * 1 := by rw [List.length_drop, hFl]; omega
    by_cases hg : n + m ≤ cap
    · refine (shift (capy := capy) hm hlt hg hbig hFl hF1 hGl hG1 hat hatv hh hhv hvb hroom).mono ?_
      rintro e w' ⟨rfl, rfl⟩
      obtain ⟨g1, g2, g3, g4⟩ := heap_setCells (F.drop (i * 1)) (off + (i + m) * 1) w.drew cs (show w.drew.heap[b]? = _ from hh)
      obtain ⟨k1, k2, k3, k4⟩ := heap_setCells G (off + i * 1) (w.drew.setCells b (off + (i + m) * 1) (F.drop (i * 1))) _ g1
      refine ⟨_, rfl, IO.trans (show IO w _ from g4) k4, hlen, cap, hg, .inl ⟨b, off, cs, _, T, rfl, hh, rfl, Nat.le_refl _, by omega, k2.trans g2, k1, by rw [wrAt_size, wrAt_size], fun k hk => (k3 k hk).trans (g3 k hk), fun k x hk => ?_⟩⟩
      rw [List.append_assoc, List.getElem?_append] at hk
      split at hk
      · rename_i h1
        rw [htl] at h1
        rw [wrAt_out _ _ _ _ (.inl (by omega)), wrAt_out _ _ _ _ (.inl (by omega))]
        rw [List.getElem?_take_of_lt h1] at hk
        exact hat k x hk
      · rename_i h1
        rw [htl] at h1 hk
        rw [List.getElem?_append] at hk
        split at hk
        · rename_i h2
          rw [show off + k = off + i * 1 + (k - i * 1) from by omega, wrAt_in _ _ _ _ h2 (by rw [wrAt_size]; rw [hGl] at h2; omega)]
          exact hk
        · rename_i h2
          rw [hGl] at h2 hk
          have hkl := (List.getElem?_eq_some_iff.1 hk).1
          rw [wrAt_out _ _ _ _ (.inr (by rw [hGl]; omega)), show off + k = off + (i + m) * 1 + (k - i * 1 - m * 1) from by omega, wrAt_in _ _ _ _ hkl (by rw [hdl] at hkl; omega)]
          exact hk
    · obtain ⟨N, ROW, hN, hRs, hRt, hcall⟩ := grow (capy := capy) hm hlt hnc (by omega) hbig hFl hF1 hGl hG1 hat hatv hh hhv
      refine hcall.mono ?_
      rintro e w' ⟨rfl, rfl⟩
      have hh1 : (w.alloc (.cells ROW 60)).drew.heap[w.heap.size]? = some (.cells ROW 60 (0, 0)) := heap_push_new (w := w) (w' := w.alloc (.cells ROW 60)) rfl
      have hho : ∀ k, k < w.heap.size → (w.alloc (.cells ROW 60)).drew.heap[k]? = w.heap[k]? := fun k hk => heap_push_old (w := w) (w' := w.alloc (.cells ROW 60)) rfl k hk
      obtain ⟨g1, g2, g3, g4⟩ := heap_setCells G (i * 1) (w.alloc (.cells ROW 60)).drew ROW hh1
      obtain ⟨k1, k2, k3, k4⟩ := heap_setCells (F.drop (i * 1)) ((i + m) * 1) ((w.alloc (.cells ROW 60)).drew.setCells w.heap.size (i * 1) G).drew _ g1
      refine ⟨_, rfl, IO.trans (show IO w (w.alloc (.cells ROW 60)).drew from ⟨rfl, rfl, rfl⟩) (IO.trans g4 k4), hlen, N, hN, .inr ⟨wrAt (wrAt ROW (i * 1) G) ((i + m) * 1) (F.drop (i * 1)), 60, ?_, rfl, ?_, fun k x hk => ?_⟩⟩
      · have hsz : (((w.alloc (.cells ROW 60)).drew.setCells w.heap.size (i * 1) G).drew.setCells w.heap.size ((i + m) * 1) (F.drop (i * 1))).heap.size = w.heap.size + 1 := by
          rw [k2]
          show ((w.alloc (.cells ROW 60)).drew.setCells w.heap.size (i * 1) G).heap.size = _
          rw [g2]
          show (w.heap.push (.cells ROW 60 (0, 0))).size = _
          rw [Array.size_push]
        apply Array.ext_getElem?
        intro k
        rw [Array.getElem?_push]
        split
        · rename_i e
          rw [e]
          exact k1
        · rename_i e
          rw [k3 k e]
          show ((w.alloc (.cells ROW 60)).drew.setCells w.heap.size (i * 1) G).heap[k]? = _
          rw [g3 k e]
          rcases Nat.lt_or_ge k w.heap.size with hk | hk
          · exact hho k hk
          · have hs1 : (w.alloc (.cells ROW 60)).drew.heap.size = w.heap.size + 1 := by
              show (w.heap.push (.cells ROW 60 (0, 0))).size = _
              rw [Array.size_push]
            rw [Array.getElem?_eq_none hk, Array.getElem?_eq_none (by rw [hs1]; omega)]
      · rw [wrAt_size, wrAt_size, hRs]
        exact Nat.le_refl _
      · rw [List.append_assoc, List.getElem?_append] at hk
        split at hk
        · rename_i h1
          rw [htl] at h1
          rw [wrAt_out _ _ _ _ (.inl (by omega)), wrAt_out _ _ _ _ (.inl (by omega)), hRt k h1]
          rw [List.getElem?_take_of_lt h1] at hk
          exact hk
        · rename_i h1
          rw [htl] at h1 hk
          rw [List.getElem?_append] at hk
          split at hk
          · rename_i h2
            rw [wrAt_out _ _ _ _ (.inl (by rw [hGl] at h2; omega)), show k = i * 1 + (k - i * 1) from by omega, wrAt_in _ _ _ _ h2 (by rw [hGl] at h2; omega)]
            exact hk
          · rename_i h2
            rw [hGl] at h2 hk
            have hkl := (List.getElem?_eq_some_iff.1 hk).1
            have hk2 : k = (i + m) * 1 + (k - i * 1 - m * 1) := by omega
            rw [hk2, wrAt_in _ _ _ _ hkl (by rw [wrAt_size, hRs]; rw [hdl] at hkl; omega)]
            exact hk

end Go.Proofs.LxLst.I24

/-
  slices.Insert at a slice type, walked.
-/
namespace Go.Proofs.LxLst.I25
open Go Go.Eng Go.RowKit Go.Lib

theorem underS : Tryd.prog.underlying 62 = some (.slice 66) := by kernel_rfl
theorem infoE : (Tryd.prog.info? 66).map (fun i => (i.zero, i.size, i.bytes)) = some (some (.agg #[.int .i64 0, .int .i64 0]), 2, 16) := by kernel_rfl
theorem mixed' : Tryd.prog.follows .mixedOrders = true := by kernel_rfl
theorem sizeE : ∀ w, (Go.sizeOf 66).run Tryd.prog w = .ok 2 w := by
  obtain ⟨i0, hi0, hz0, hz1, hz2⟩ := info_parts infoE
  intro w
  simp [sizeOf, typeInfo, hi0, hz1]

set_option maxHeartbeats 4000000 in
set_option maxRecDepth 100000 in
/-- at the end, with room -/
theorem endRoom {w : World} {n cap m capy b off vb voff : Nat} {G : List Value} {cs : Array Value} {T : TypeId} (hm : 0 < m) (hg : n + m ≤ cap) (hbig : (n + m) * (16 + 1) ≤ 1099511627776) (hGl : G.length = m * 2) (hG1 : ∀ v, v ∈ G → v.oneCell' = true)
    (hvs : ∀ (j : Nat) v, G[j]? = some v → w.cell? ⟨vb, voff + j, none⟩ = some v) (hh : w.heap[b]? = some (.cells cs T (0, 0))) (hroom : off + cap * 2 ≤ cs.size) :
    Calls Tryd.prog 25 #[.slice (some ⟨b, off, none⟩) n cap, .int .i64 n, .slice (some ⟨vb, voff, none⟩) m capy] w fun e w' => e = .returned (.slice (some ⟨b, off, none⟩) (n + m) cap) ∧ w' = w.setCells b (off + n * 2) G := by
  have mixed := mixed'
  have t62 := underS
  obtain ⟨i0, hi0, hz0, hz1, hz2⟩ := info_parts infoE
  have hrun : ∀ ty, (Builtin.append_ #[62, 62] ty #[.slice (some ⟨b, off, none⟩) n cap, .slice (some ⟨vb, voff, none⟩) m capy]).run Tryd.prog w = .ok (.slice (some ⟨b, off, none⟩) (n + m) cap) (w.setCells b (off + n * 2) G) := by
    intro ty
    have := run_append_room_cells (P := Tryd.prog) w 62 ty 66 i0 t62 hi0 b off n cap ⟨vb, voff, none⟩ m capy G (by rw [hz1]; exact hGl) (fun j u hj => by rw [Addr.add_lit]; exact hvs j u hj) hG1 hg
      (fun j hj => cell_isSome hh (by rw [hz1]; omega)) (fun j hj => frozen_no hh)
    rw [hz1] at this
    exact this
  have hz1' : ¬ ((m : Int) = 0) := by omega
  clear hvs hh hroom hG1 hGl
  try simp only [Nat.mul_one] at *
  go_enter Tryd.func25, Tryd.ntmps25
  go_wp2_with (at_builtin; refine Lib.wpList_append_run _ rfl _ _ _ _ rfl _ _ rfl rfl _ _ (hrun _) ?_)
  go_ret
  exact ⟨rfl, rfl⟩

set_option maxHeartbeats 4000000 in
set_option maxRecDepth 100000 in
/-- at the end, with none -/
theorem endGrow {w : World} {n cap m capy vb voff nc : Nat} {ad : Option Addr} {w1 : World} (hm : 0 < m) (hnc : n ≤ cap) (hg : cap < n + m) (hbig : (n + m) * (16 + 1) ≤ 1099511627776)
    (hrun : (Builtin.append_ #[62, 62] 62 #[.slice ad n cap, .slice (some ⟨vb, voff, none⟩) m capy]).run Tryd.prog w = .ok (.slice (some ⟨w.heap.size, 0, none⟩) (n + m) nc) w1) :
    Calls Tryd.prog 25 #[.slice ad n cap, .int .i64 n, .slice (some ⟨vb, voff, none⟩) m capy] w fun e w' => e = .returned (.slice (some ⟨w.heap.size, 0, none⟩) (n + m) nc) ∧ w' = w1 := by
  have mixed := mixed'
  have t62 := underS
  have hz1' : ¬ ((m : Int) = 0) := by omega
  try simp only [Nat.mul_one] at *
  go_enter Tryd.func25, Tryd.ntmps25
  cases ad with
  | none =>
    go_wp2_with (at_builtin; refine Lib.wpList_append_run _ rfl _ _ _ _ rfl _ _ rfl rfl _ _ hrun ?_)
    all_goals (go_ret; exact ⟨rfl, rfl⟩)
  | some a =>
    obtain ⟨ab, ao, asp⟩ := a
    go_wp2_with (at_builtin; refine Lib.wpList_append_run _ rfl _ _ _ _ rfl _ _ rfl rfl _ _ hrun ?_)
    all_goals (go_ret; exact ⟨rfl, rfl⟩)

set_option maxHeartbeats 4000000 in
set_option maxRecDepth 100000 in
/-- within, with room -/
theorem shift {w : World} {n cap m capy b off i vb voff : Nat} {F G : List Value} {cs csv : Array Value} {T Tv : TypeId} (hm : 0 < m) (hi : i < n) (hg : n + m ≤ cap) (hbig : (n + m) * (16 + 1) ≤ 1099511627776) (hFl : F.length = n * 2) (hF1 : ∀ v, v ∈ F → v.oneCell' = true)
    (hGl : G.length = m * 2) (hG1 : ∀ v, v ∈ G → v.oneCell' = true) (hat : ∀ (j : Nat) v, F[j]? = some v → cs[off + j]? = some v)
    (hatv : ∀ (j : Nat) v, G[j]? = some v → csv[voff + j]? = some v) (hh : w.heap[b]? = some (.cells cs T (0, 0))) (hhv : w.heap[vb]? = some (.cells csv Tv (0, 0))) (hvb : vb ≠ b) (hroom : off + cap * 2 ≤ cs.size) :
    Calls Tryd.prog 25 #[.slice (some ⟨b, off, none⟩) n cap, .int .i64 i, .slice (some ⟨vb, voff, none⟩) m capy] w fun e w' => e = .returned (.slice (some ⟨b, off, none⟩) (n + m) cap) ∧
      w' = (w.drew.setCells b (off + (i + m) * 2) (F.drop (i * 2))).setCells b (off + i * 2) G := by
  have mixed := mixed'
  have t62 := underS
  obtain ⟨i0, hi0, hz0, hz1, hz2⟩ := info_parts infoE
  have hz1' : ¬ ((m : Int) = 0) := by omega
  have hz2' : ¬ ((i : Int) = (n : Int)) := by omega
  have hov : ∀ lb cb, (callFunc 39 #[.slice (some ⟨vb, voff, none⟩) m capy, .slice (some ⟨b, off + (i + m) * 2, none⟩) lb cb]).run Tryd.prog w = .ok (.value (.bool false)) w := fun lb cb => by
    rw [run_callFunc_extern Tryd.func39 (by kernel_rfl) (by kernel_rfl) (by kernel_rfl) (e := Extern.SlicesOverlaps.overlaps #[62, 62] #[4]) (by kernel_rfl),
      Lib.run_overlaps_apart w 62 4 66 underS 2 sizeE ⟨vb, voff, none⟩ ⟨b, off + (i + m) * 2, none⟩ m capy lb cb hvb Tv T csv.size cs.size (by simp [World.shape?, hhv]) (by simp [World.shape?, hh]) (by omega) (frozen_no hhv) (frozen_no hhv)]
    rfl
  have hdl : (F.drop (i * 2)).length = (n - i) * 2 := by rw [List.length_drop, hFl]; omega
  have hw1 : IntKind.i64.wrap ((i : Int) + (m : Int)) = (i : Int) + (m : Int) := by rw [IntKind.wrap_i64]; omega
  have hw2 : IntKind.i64.wrap ((n : Int) + (m : Int)) = (n : Int) + (m : Int) := by rw [IntKind.wrap_i64]; omega
  have hb1 : (0 : Int) ≤ (i : Int) + (m : Int) := by omega
  have hin : i ≤ n := by omega
  have htn : ((i : Int) + (m : Int)).toNat = i + m := by omega
  have hb2 : ¬ (cap = i + m) := by omega
  have hb3 : (i : Int) ≤ (n : Int) + (m : Int) := by omega
  have hb4 : ¬ (cap = i) := by omega
  have hcp1 : ∀ ty dc sc, (Builtin.copy_ #[62, 62] ty #[.slice (some ⟨b, off + (i + m) * 2, none⟩) (n + m - (i + m)) dc, .slice (some ⟨b, off + i * 2, none⟩) (n + m - i) sc]).run Tryd.prog w.drew = .ok (goInt (min (n + m - i) (n + m - (i + m)) : Nat)) (w.drew.setCells b (off + (i + m) * 2) (F.drop (i * 2))) := fun ty dc sc =>
    Go.Eng.run_copy_row (cs := cs) (T := T) w.drew t62 hi0 hz1 (by rw [hdl, Nat.min_def]; split <;> omega) (fun j v hj => by
      rw [Addr.add_lit]
      show w.cell? _ = _
      rw [cell?_cells hh, Nat.add_assoc]
      exact hat _ v (by rwa [List.getElem?_drop] at hj)) (show w.drew.heap[b]? = _ from hh) (by rw [hdl]; omega) (fun v hv => hF1 v (List.mem_of_mem_drop hv))
  obtain ⟨W1, hW1⟩ : ∃ W1, W1 = w.drew.setCells b (off + (i + m) * 2) (F.drop (i * 2)) := ⟨_, rfl⟩
  obtain ⟨g1, g2, g3, g4⟩ := heap_setCells (F.drop (i * 2)) (off + (i + m) * 2) w.drew cs (show w.drew.heap[b]? = _ from hh)
  rw [← hW1] at g1 g2 g3 g4 hcp1
  have hcp2 : ∀ (W : World), W.heap = W1.heap → ∀ ty dc, (Builtin.copy_ #[62, 62] ty #[.slice (some ⟨b, off + i * 2, none⟩) (n + m - i) dc, .slice (some ⟨vb, voff, none⟩) m capy]).run Tryd.prog W = .ok (goInt (min m (n + m - i) : Nat)) (W.setCells b (off + i * 2) G) := fun W hWh ty dc =>
    Go.Eng.run_copy_row (cs := wrAt cs (off + (i + m) * 2) (F.drop (i * 2))) (T := T) W t62 hi0 hz1 (by rw [hGl, Nat.min_def]; split <;> omega) (fun j v hj => by
      have e1 : W.cell? ⟨vb, voff + j, none⟩ = W1.cell? ⟨vb, voff + j, none⟩ := cell?_heap vb (voff + j) (by rw [hWh])
      have e2 : W1.cell? ⟨vb, voff + j, none⟩ = w.drew.cell? ⟨vb, voff + j, none⟩ := cell?_heap vb (voff + j) (g3 vb hvb)
      rw [Addr.add_lit, e1, e2]
      show w.cell? _ = _
      rw [cell?_cells hhv]
      exact hatv j v hj) (by rw [hWh]; exact g1) (by rw [wrAt_size, hGl]; omega) hG1
  clear g1 g2 g3 g4 hat hatv hh hhv hroom hF1 hG1 hFl hGl hdl
  try simp only [Nat.mul_one] at *
  go_enter Tryd.func25, Tryd.ntmps25
  go_wp2_with (simp only [hov])
  go_region_law_o (refine Go.Proofs.step_copy_runI rfl _ _ 62 62 rfl _ _ (by simp [Act.eval, Act.put]) (by simp [Act.eval, Act.put]) (hcp1 _ _ _) ?_)
  go_wp2_with (at_builtin; refine Go.Proofs.wpList_copy_runI _ rfl _ _ 62 62 rfl _ _ rfl rfl (hcp2 _ rfl _ _) ?_)
  go_ret
  first | exact ⟨rfl, rfl⟩ | exact ⟨rfl, by rw [hW1]⟩

set_option maxHeartbeats 4000000 in
set_option maxRecDepth 100000 in
/-- within, with none -/
theorem grow {w : World} {n cap m capy b off i vb voff : Nat} {F G : List Value} {cs csv : Array Value} {T Tv : TypeId} (hm : 0 < m) (hi : i < n) (hnc : n ≤ cap) (hg : cap < n + m) (hbig : (n + m) * (16 + 1) ≤ 1099511627776) (hFl : F.length = n * 2) (hF1 : ∀ v, v ∈ F → v.oneCell' = true)
    (hGl : G.length = m * 2) (hG1 : ∀ v, v ∈ G → v.oneCell' = true) (hat : ∀ (j : Nat) v, F[j]? = some v → cs[off + j]? = some v)
    (hatv : ∀ (j : Nat) v, G[j]? = some v → csv[voff + j]? = some v) (hh : w.heap[b]? = some (.cells cs T (0, 0))) (hhv : w.heap[vb]? = some (.cells csv Tv (0, 0))) :
    ∃ (N : Nat) (ROW : Array Value), n + m ≤ N ∧ ROW.size = N * 2 ∧ (∀ (j : Nat), j < i * 2 → ROW[j]? = F[j]?) ∧
    Calls Tryd.prog 25 #[.slice (some ⟨b, off, none⟩) n cap, .int .i64 i, .slice (some ⟨vb, voff, none⟩) m capy] w fun e w' => e = .returned (.slice (some ⟨w.heap.size, 0, none⟩) (n + m) N) ∧
      w' = (((w.alloc (.cells ROW 66)).drew.setCells w.heap.size (i * 2) G).drew).setCells w.heap.size ((i + m) * 2) (F.drop (i * 2)) := by
  have mixed := mixed'
  have t62 := underS
  have tint : Tryd.prog.underlying 3 = some (.int .i64) := by kernel_rfl
  obtain ⟨i0, hi0, hz0, hz1, hz2⟩ := info_parts infoE
  have hz1' : ¬ ((m : Int) = 0) := by omega
  have hz2' : ¬ ((i : Int) = (n : Int)) := by omega
  have hz3 : (cap : Int) < (n : Int) + (m : Int) := by omega
  have hkk : (n : Int) + (m : Int) - (i : Int) = ((n + m - i : Nat) : Int) := by omega
  have hik : i + (n + m - i) = n + m := by omega
  have hbw : b < w.heap.size := (Array.getElem?_eq_some_iff.1 hh).1
  have hvw : vb < w.heap.size := (Array.getElem?_eq_some_iff.1 hhv).1
  have htl : (F.take (i * 2)).length = i * 2 := by rw [List.length_take, hFl]; omega
  have hold : (Builtin.firstCells i0.size i (.slice (some ⟨b, off, none⟩) i cap)).run Tryd.prog w.drew = .ok (F.take (i * 2)).toArray w.drew := by
    rw [hz1]
    exact run_firstCells_some w.drew 2 i ⟨b, off, none⟩ i cap (F.take (i * 2)) htl (fun j v hj => by
      rw [Addr.add_lit]
      rw [List.getElem?_take] at hj
      split at hj
      · show w.cell? _ = _
        rw [cell?_cells hh]
        exact hat j v hj
      · cases hj)
  have hrz : ∀ ty, (Builtin.append_ #[62, 3] ty #[.slice (some ⟨b, off, none⟩) i cap, .int .i64 ((n : Int) + (m : Int) - (i : Int))]).run Tryd.prog w =
      .ok (.slice (some ⟨w.heap.size, 0, none⟩) (n + m) (grownCap w (n + m) cap 66)) (w.drew.alloc (.cells ((F.take (i * 2)).toArray ++ Builtin.zeroCells (.agg #[.int .i64 0, .int .i64 0] : Value).cells (n + m - i) ++ Builtin.zeroCells (.agg #[.int .i64 0, .int .i64 0] : Value).cells (grownCap w (n + m) cap 66 - (n + m))) 66)) := fun ty => by
    have h := Lib.run_append_grow_zeros w 62 3 ty 66 i0 _ .i64 .i64 t62 tint hi0 hz0 (some ⟨b, off, none⟩) i cap (F.take (i * 2)) hold (n + m - i) (by omega) (by omega) (by omega) (by omega) (by rw [hz2]; omega) (by rw [hz2, hik]; exact growslice_fits hg (by omega))
    rw [hik] at h
    rw [hkk]
    exact h
  obtain ⟨N, hN⟩ : ∃ N, N = grownCap w (n + m) cap 66 := ⟨_, rfl⟩
  obtain ⟨ROW, hROW⟩ : ∃ ROW : Array Value, ROW = (F.take (i * 2)).toArray ++ Builtin.zeroCells (.agg #[.int .i64 0, .int .i64 0] : Value).cells (n + m - i) ++ Builtin.zeroCells (.agg #[.int .i64 0, .int .i64 0] : Value).cells (N - (n + m)) := ⟨_, rfl⟩
  have hGn : n + m ≤ N := by rw [hN]; exact grownCap_ge w _ _ _
  rw [← hN] at hrz
  rw [← hROW] at hrz
  have hRs : ROW.size = N * 2 := by
    rw [hROW]
    simp only [Array.size_append, List.size_toArray, size_zeroCells, htl]
    show i * 2 + (n + m - i) * 2 + (N - (n + m)) * 2 = N * 2
    omega
  have hRt : ∀ (j : Nat), j < i * 2 → ROW[j]? = F[j]? := by
    intro j hj
    rw [hROW, ← Array.getElem?_toList]
    simp only [Array.toList_append, List.append_assoc]
    rw [List.getElem?_append_left (by show j < (F.take (i * 2)).length; rw [htl]; exact hj), List.getElem?_take_of_lt hj]
  refine ⟨N, ROW, hGn, hRs, hRt, ?_⟩
  obtain ⟨W1, hW1⟩ : ∃ W1, W1 = w.drew.alloc (.cells ROW 66) := ⟨_, rfl⟩
  rw [← hW1] at hrz
  have hh1 : W1.heap[w.heap.size]? = some (.cells ROW 66 (0, 0)) := by rw [hW1]; exact heap_push_new (w := w) (w' := w.drew.alloc (.cells ROW 66)) rfl
  have hho : ∀ k, k < w.heap.size → W1.heap[k]? = w.heap[k]? := fun k hk => by rw [hW1]; exact heap_push_old (w := w) (w' := w.drew.alloc (.cells ROW 66)) rfl k hk
  have hdl : (F.drop (i * 2)).length = (n - i) * 2 := by rw [List.length_drop, hFl]; omega
  have hcpA : ∀ (W : World), W.heap = W1.heap → ∀ ty dc, (Builtin.copy_ #[62, 62] ty #[.slice (some ⟨w.heap.size, i * 2, none⟩) (n + m - i) dc, .slice (some ⟨vb, voff, none⟩) m capy]).run Tryd.prog W = .ok (goInt (min m (n + m - i) : Nat)) (W.setCells w.heap.size (i * 2) G) := fun W hWh ty dc =>
    Go.Eng.run_copy_row (cs := ROW) (T := 66) W t62 hi0 hz1 (by rw [hGl, Nat.min_def]; split <;> omega) (fun j v hj => by
      have e1 : W.cell? ⟨vb, voff + j, none⟩ = w.cell? ⟨vb, voff + j, none⟩ := cell?_heap vb (voff + j) (by rw [hWh]; exact hho vb hvw)
      rw [Addr.add_lit, e1, cell?_cells hhv]
      exact hatv j v hj) (by rw [hWh]; exact hh1) (by rw [hRs, hGl]; omega) hG1
  obtain ⟨g1, g2, g3, g4⟩ := heap_setCells G (i * 2) W1 ROW hh1
  have hcpB : ∀ (W : World), W.heap = (W1.setCells w.heap.size (i * 2) G).heap → ∀ ty dc sc, (Builtin.copy_ #[62, 62] ty #[.slice (some ⟨w.heap.size, (i + m) * 2, none⟩) (n + m - (i + m)) dc, .slice (some ⟨b, off + i * 2, none⟩) (n - i) sc]).run Tryd.prog W = .ok (goInt (min (n - i) (n + m - (i + m)) : Nat)) (W.setCells w.heap.size ((i + m) * 2) (F.drop (i * 2))) := fun W hWh ty dc sc =>
    Go.Eng.run_copy_row (cs := wrAt ROW (i * 2) G) (T := 66) W t62 hi0 hz1 (by rw [hdl, Nat.min_def]; split <;> omega) (fun j v hj => by
      have e1 : W.cell? ⟨b, off + i * 2 + j, none⟩ = w.cell? ⟨b, off + i * 2 + j, none⟩ := cell?_heap b _ (by rw [hWh, g3 b (by omega)]; exact hho b hbw)
      rw [Addr.add_lit, e1, cell?_cells hh, Nat.add_assoc]
      exact hat _ v (by rwa [List.getElem?_drop] at hj)) (by rw [hWh]; exact g1) (by rw [wrAt_size, hRs, hdl]; omega) (fun v hv => hF1 v (List.mem_of_mem_drop hv))
  have hGi : ¬ (N = i) := by omega
  have hGim : ¬ (N = i + m) := by omega
  have hci : ¬ (cap = i) := by omega
  subst hW1
  have hE1 : ((w.alloc (.cells ROW 66)).drew).heap = (w.drew.alloc (.cells ROW 66)).heap := rfl
  have hE2 : (((w.alloc (.cells ROW 66)).drew.setCells w.heap.size (i * 2) G).drew).heap = ((w.drew.alloc (.cells ROW 66)).setCells w.heap.size (i * 2) G).heap := rfl
  have hw1 : IntKind.i64.wrap ((i : Int) + (m : Int)) = (i : Int) + (m : Int) := by rw [IntKind.wrap_i64]; omega
  have hw2 : IntKind.i64.wrap ((n : Int) + (m : Int)) = (n : Int) + (m : Int) := by rw [IntKind.wrap_i64]; omega
  have hw3 : IntKind.i64.wrap ((n : Int) + (m : Int) - (i : Int)) = (n : Int) + (m : Int) - (i : Int) := by rw [IntKind.wrap_i64]; omega
  have hb1 : (0 : Int) ≤ (i : Int) + (m : Int) := by omega
  have hin : i ≤ n := by omega
  have htn : ((i : Int) + (m : Int)).toNat = i + m := by omega
  have hb3 : (i : Int) ≤ (n : Int) := by omega
  have hic : i ≤ cap := by omega
  clear hkk hik hold hROW hN hRs hRt hh hhv hat hatv hF1 hG1 hFl hGl hdl g1 g2 g3 g4 hh1 hho htl
  try simp only [Nat.mul_one] at *
  go_enter Tryd.func25, Tryd.ntmps25
  go_wp2_with (first
    | (at_builtin; refine Lib.wpList_append_run _ rfl _ _ _ _ rfl _ _ rfl rfl _ _ (hrz _) ?_)
    | (at_builtin; refine Go.Proofs.wpList_copy_runI _ rfl _ _ 62 62 rfl _ _ rfl rfl (hcpA _ hE1 _ _) ?_))
  go_region_law_o (refine Go.Proofs.step_copy_runI rfl _ _ 62 62 rfl (.slice (some ⟨w.heap.size, (i + m) * 2, none⟩) (n + m - (i + m)) (N - (i + m))) (.slice (some ⟨b, off + i * 2, none⟩) (n - i) (cap - i)) (by simp [Act.eval, Act.put]) (by simp [Act.eval, Act.put]) (hcpB _ hE2 _ _ _) ?_)
  go_wp2
  go_ret
  exact ⟨rfl, rfl⟩

theorem ok : LstOK Tryd.prog 25 (.ins 2 16) := by
  intro w n ad cap F i m ay capy G hrow hrowy hne hm hin hbig
  obtain ⟨hnc, hFl, hF1, hpl⟩ := hrow
  obtain ⟨hmc, hGl, hG1, hply⟩ := hrowy
  rcases hply with h0 | ⟨vb, voff, csv, Tv, rfl, hhv, hroomv, hatv⟩
  · omega
  obtain ⟨i0, hi0, hz0, hz1, hz2⟩ := info_parts infoE
  have hvs : ∀ (j : Nat) v, G[j]? = some v → w.cell? ⟨vb, voff + j, none⟩ = some v := fun j v hj => by rw [cell?_cells hhv]; exact hatv j v hj
  have hlen : (F.take (i * 2) ++ G ++ F.drop (i * 2)).length = (n + m) * 2 := by
    simp only [List.length_append, List.length_take, List.length_drop]
    omega
  by_cases hi : i = n
  · subst hi
    have hF' : F.take (i * 2) ++ G ++ F.drop (i * 2) = F ++ G := by
      rw [← hFl, List.take_length, List.drop_length, List.append_nil]
    rw [hF'] at hlen ⊢
    by_cases hg : i + m ≤ cap
    · rcases hpl with h0 | ⟨b, off, cs, T, rfl, hh, hroom, hat⟩
      · omega
      refine (endRoom hm hg hbig hGl hG1 hvs hh hroom).mono ?_
      rintro e w' ⟨rfl, rfl⟩
      obtain ⟨g1, g2, g3, g4⟩ := heap_setCells G (off + i * 2) w cs hh
      refine ⟨_, rfl, g4, hlen, cap, hg, .inl ⟨b, off, cs, _, T, rfl, hh, rfl, Nat.le_refl _, by omega, g2, g1, by rw [wrAt_size], g3, fun k x hk => ?_⟩⟩
      rw [List.getElem?_append] at hk
      split at hk
      · rename_i h1
        rw [wrAt_out _ _ _ _ (.inl (by omega))]
        exact hat k x hk
      · rename_i h1
        have hkl := (List.getElem?_eq_some_iff.1 hk).1
        rw [hFl] at hk hkl h1
        rw [show off + k = off + i * 2 + (k - i * 2) from by omega, wrAt_in _ _ _ _ hkl (by rw [hGl] at hkl; omega)]
        exact hk
    · have hFr : Reads w ((.st (.pair (.int .i64) (.int .i64))) : Ty).size i (.slice ad i cap) F := reads_at (by rw [hFl]; rfl) fun hn0 => by
        rcases hpl with h0 | ⟨b, off, cs, T, rfl, hh, hroom, hat⟩
        · omega
        · exact ⟨b, off, rfl, fun j v hj => by rw [cell?_cells hh]; exact hat j v hj⟩
      have hGr : Reads w ((.st (.pair (.int .i64) (.int .i64))) : Ty).size m (.slice (some ⟨vb, voff, none⟩) m capy) G := reads_at (by rw [hGl]; rfl) fun _ => ⟨vb, voff, rfl, hvs⟩
      obtain ⟨nc, w1, hr, hnc', hheap, hio⟩ := run_append_new (P := Tryd.prog) w (ty := 62) underS hi0 hz0 (sz := ((.st (.pair (.int .i64) (.int .i64))) : Ty).size) (by rw [hz1]; rfl) rfl rfl hFr (by rw [hFl]; rfl) hGr (by rw [hGl]; rfl) (by omega) (by rw [hz2]; exact hbig)
      refine (endGrow hm hnc (by omega) hbig hr).mono ?_
      rintro e w' ⟨rfl, rfl⟩
      refine ⟨_, rfl, hio, hlen, nc, hnc', .inr ⟨_, _, hheap, rfl, ?_, fun k x hk => ?_⟩⟩
      · simp only [Array.size_append, List.size_toArray, size_zeroCells, hFl, hGl]
        show nc * 2 ≤ i * 2 + m * 2 + (nc - (i + m)) * 2
        omega
      · rw [← Array.getElem?_toList]
        simp only [Array.toList_append]
        exact List.getElem?_append_left (List.getElem?_eq_some_iff.1 hk).1 ▸ hk
  · have hlt : i < n := by omega
    rcases hpl with h0 | ⟨b, off, cs, T, rfl, hh, hroom, hat⟩
    · omega
    have hvb : vb ≠ b := fun e => hne b off vb voff rfl rfl (by omega) e.symm
    have htl : (F.take (i * 2)).length = i * 2 := by rw [List.length_take, hFl]; omega
    have hdl : (F.drop (i * 2)).length = (n - i) * 2 := by rw [List.length_drop, hFl]; omega
    by_cases hg : n + m ≤ cap
    · refine (shift (capy := capy) hm hlt hg hbig hFl hF1 hGl hG1 hat hatv hh hhv hvb hroom).mono ?_
      rintro e w' ⟨rfl, rfl⟩
      obtain ⟨g1, g2, g3, g4⟩ := heap_setCells (F.drop (i * 2)) (off + (i + m) * 2) w.drew cs (show w.drew.heap[b]? = _ from hh)
      obtain ⟨k1, k2, k3, k4⟩ := heap_setCells G (off + i * 2) (w.drew.setCells b (off + (i + m) * 2) (F.drop (i * 2))) _ g1
      refine ⟨_, rfl, IO.trans (show IO w _ from g4) k4, hlen, cap, hg, .inl ⟨b, off, cs, _, T, rfl, hh, rfl, Nat.le_refl _, by omega, k2.trans g2, k1, by rw [wrAt_size, wrAt_size], fun k hk => (k3 k hk).trans (g3 k hk), fun k x hk => ?_⟩⟩
      rw [List.append_assoc, List.getElem?_append] at hk
      split at hk
      · rename_i h1
        rw [htl] at h1
        rw [wrAt_out _ _ _ _ (.inl (by omega)), wrAt_out _ _ _ _ (.inl (by omega))]
        rw [List.getElem?_take_of_lt h1] at hk
        exact hat k x hk
      · rename_i h1
        rw [htl] at h1 hk
        rw [List.getElem?_append] at hk
        split at hk
        · rename_i h2
          rw [show off + k = off + i * 2 + (k - i * 2) from by omega, wrAt_in _ _ _ _ h2 (by rw [wrAt_size]; rw [hGl] at h2; omega)]
          exact hk
        · rename_i h2
          rw [hGl] at h2 hk
          have hkl := (List.getElem?_eq_some_iff.1 hk).1
          rw [wrAt_out _ _ _ _ (.inr (by rw [hGl]; omega)), show off + k = off + (i + m) * 2 + (k - i * 2 - m * 2) from by omega, wrAt_in _ _ _ _ hkl (by rw [hdl] at hkl; omega)]
          exact hk
    · obtain ⟨N, ROW, hN, hRs, hRt, hcall⟩ := grow (capy := capy) hm hlt hnc (by omega) hbig hFl hF1 hGl hG1 hat hatv hh hhv
      refine hcall.mono ?_
      rintro e w' ⟨rfl, rfl⟩
      have hh1 : (w.alloc (.cells ROW 66)).drew.heap[w.heap.size]? = some (.cells ROW 66 (0, 0)) := heap_push_new (w := w) (w' := w.alloc (.cells ROW 66)) rfl
      have hho : ∀ k, k < w.heap.size → (w.alloc (.cells ROW 66)).drew.heap[k]? = w.heap[k]? := fun k hk => heap_push_old (w := w) (w' := w.alloc (.cells ROW 66)) rfl k hk
      obtain ⟨g1, g2, g3, g4⟩ := heap_setCells G (i * 2) (w.alloc (.cells ROW 66)).drew ROW hh1
      obtain ⟨k1, k2, k3, k4⟩ := heap_setCells (F.drop (i * 2)) ((i + m) * 2) ((w.alloc (.cells ROW 66)).drew.setCells w.heap.size (i * 2) G).drew _ g1
      refine ⟨_, rfl, IO.trans (show IO w (w.alloc (.cells ROW 66)).drew from ⟨rfl, rfl, rfl⟩) (IO.trans g4 k4), hlen, N, hN, .inr ⟨wrAt (wrAt ROW (i * 2) G) ((i + m) * 2) (F.drop (i * 2)), 66, ?_, rfl, ?_, fun k x hk => ?_⟩⟩
      · have hsz : (((w.alloc (.cells ROW 66)).drew.setCells w.heap.size (i * 2) G).drew.setCells w.heap.size ((i + m) * 2) (F.drop (i * 2))).heap.size = w.heap.size + 1 := by
          rw [k2]
          show ((w.alloc (.cells ROW 66)).drew.setCells w.heap.size (i * 2) G).heap.size = _
          rw [g2]
          show (w.heap.push (.cells ROW 66 (0, 0))).size = _
          rw [Array.size_push]
        apply Array.ext_getElem?
        intro k
        rw [Array.getElem?_push]
        split
        · rename_i e
          rw [e]
          exact k1
        · rename_i e
          rw [k3 k e]
          show ((w.alloc (.cells ROW 66)).drew.setCells w.heap.size (i * 2) G).heap[k]? = _
          rw [g3 k e]
          rcases Nat.lt_or_ge k w.heap.size with hk | hk
          · exact hho k hk
          · have hs1 : (w.alloc (.cells ROW 66)).drew.heap.size = w.heap.size + 1 := by
              show (w.heap.push (.cells ROW 66 (0, 0))).size = _
              rw [Array.size_push]
            rw [Array.getElem?_eq_none hk, Array.getElem?_eq_none (by rw [hs1]; omega)]
      · rw [wrAt_size, wrAt_size, hRs]
        exact Nat.le_refl _
      · rw [List.append_assoc, List.getElem?_append] at hk
        split at hk
        · rename_i h1
          rw [htl] at h1
          rw [wrAt_out _ _ _ _ (.inl (by omega)), wrAt_out _ _ _ _ (.inl (by omega)), hRt k h1]
          rw [List.getElem?_take_of_lt h1] at hk
          exact hk
        · rename_i h1
          rw [htl] at h1 hk
          rw [List.getElem?_append] at hk
          split at hk
          · rename_i h2
            rw [wrAt_out _ _ _ _ (.inl (by rw [hGl] at h2; omega)), show k = i * 2 + (k - i * 2) from by omega, wrAt_in _ _ _ _ h2 (by rw [hGl] at h2; omega)]
            exact hk
          · rename_i h2
            rw [hGl] at h2 hk
            have hkl := (List.getElem?_eq_some_iff.1 hk).1
            have hk2 : k = (i + m) * 2 + (k - i * 2 - m * 2) := by omega
            rw [hk2, wrAt_in _ _ _ _ hkl (by rw [wrAt_size, hRs]; rw [hdl] at hkl; omega)]
            exact hk

end Go.Proofs.LxLst.I25

/-
  slices.Delete at a slice type, walked.
-/
namespace Go.Proofs.LxLst.D30
open Go Go.Eng Go.RowKit Go.Lib

theorem underS : Tryd.prog.underlying 62 = some (.slice 66) := by kernel_rfl
theorem infoE : (Tryd.prog.info? 66).map (fun i => (i.zero, i.size, i.bytes)) = some (some (.agg #[.int .i64 0, .int .i64 0]), 2, 16) := by kernel_rfl
theorem mixed' : Tryd.prog.follows .mixedOrders = true := by kernel_rfl

set_option maxHeartbeats 4000000 in
set_option maxRecDepth 1000000 in
theorem ok : LstOK Tryd.prog 30 (.del 2) := by
  intro w n ad cap F i j hrow hn hij hj
  obtain ⟨hnc, hFl, hF1, hpl⟩ := hrow
  rcases hpl with h0 | ⟨b, off, cs, T, rfl, hh, hroom, hat⟩
  · omega
  have mixed := mixed'
  have t62 := underS
  obtain ⟨i0, hi0, hz0, hz1, hz2⟩ := info_parts infoE
  by_cases heq : i = j
  · subst heq
    have h0 : Calls Tryd.prog 30 #[.slice (some ⟨b, off, none⟩) n cap, .int .i64 i, .int .i64 i] w fun e w' => e = .returned (.slice (some ⟨b, off, none⟩) n cap) ∧ w' = w := by
      clear hat hroom hh hF1 hFl
      go_enter Tryd.func30, Tryd.ntmps30
      go_wp2
      all_goals (go_ret; exact ⟨rfl, rfl⟩)
    refine h0.mono ?_
    rintro e w' ⟨rfl, rfl⟩
    refine ⟨_, rfl, IO.refl _, ?_, cap, by omega, .inl ⟨b, off, cs, cs, T, rfl, hh, by rw [Nat.sub_self, Nat.sub_zero], Nat.le_refl _, by omega, rfl, hh, rfl, fun _ _ => rfl, fun k x hk => ?_⟩⟩
    · simp only [List.length_append, List.length_take, List.length_drop]; omega
    · rw [List.take_append_drop] at hk; exact hat k x hk
  · have hlt : i < j := by omega
    obtain ⟨news, hnews⟩ : ∃ news, news = F.drop (j * 2) := ⟨_, rfl⟩
    have hlen : news.length = (n - j) * 2 := by rw [hnews, List.length_drop, hFl]; omega
    obtain ⟨A, hA, hsrc⟩ : ∃ A : Addr, (if cap = j then some (⟨b, off, none⟩ : Addr) else some ⟨b, off + j * 2, none⟩) = some A ∧ Hid (∀ t u, news[t]? = some u → w.drew.cell? (A.add t) = some u) := by
      by_cases h : cap = j
      · refine ⟨⟨b, off, none⟩, by simp [h], fun t u hu => ?_⟩
        have h0 : news.length = 0 := by rw [hlen]; omega
        rw [List.length_eq_zero_iff.1 h0] at hu
        simp at hu
      · refine ⟨⟨b, off + j * 2, none⟩, by simp [h], fun t u hu => ?_⟩
        rw [hnews, List.getElem?_drop] at hu
        rw [Addr.add_lit]
        show w.cell? _ = some u
        rw [cell?_cells hh, Nat.add_assoc]
        exact hat _ _ hu
    have s1 : Hid (news.length = (n - j) * 2) := hlen
    have s2 : Hid (∀ u ∈ news, u.oneCell' = true) := fun u hu => hF1 u (by rw [hnews] at hu; exact List.mem_of_mem_drop hu)
    have s3 : Hid (∀ t, t < news.length → (w.drew.cell? ⟨b, off + i * 2 + t, none⟩).isSome = true ∧ w.drew.frozen? ⟨b, off + i * 2 + t, none⟩ = false) := by
      intro t ht
      rw [hlen] at ht
      exact ⟨cell_isSome (w := w.drew) hh (by omega), frozen_no (w := w.drew) hh⟩
    obtain ⟨W1, hW1⟩ : ∃ W1, W1 = w.drew.setCells b (off + i * 2) news := ⟨_, rfl⟩
    obtain ⟨g1, g2, g3, g4⟩ := heap_setCells news (off + i * 2) w.drew cs (show w.drew.heap[b]? = _ from hh)
    rw [← hW1] at g1 g2 g3 g4
    have hcl : ∀ ty, (Builtin.clear_ #[62] ty #[.slice (some ⟨b, off + (i + (n - j)) * 2, none⟩) (n - (i + (n - j))) (cap - (i + (n - j)))]).run Tryd.prog W1 = .ok (.tuple #[]) (W1.setCells b (off + (i + (n - j)) * 2) (Builtin.zeroCells (.agg #[.int .i64 0, .int .i64 0] : Value).cells (n - (i + (n - j)))).toList) :=
      fun ty => run_clear_row W1 _ _ ty _ t62 Tryd.zeroValue66 g1 (by
        rw [wrAt_size]
        show _ + _ * 2 ≤ _
        omega) (by intro v hv; simp [Value.cells] at hv; rcases hv with rfl | rfl <;> rfl)
    have hW : Hid (W1 = w.drew.setCells b (off + i * 2) news) := hW1
    obtain ⟨W2, hW2⟩ : ∃ W2, W2 = W1.setCells b (off + (i + (n - j)) * 2) (Builtin.zeroCells (.agg #[.int .i64 0, .int .i64 0] : Value).cells (n - (i + (n - j)))).toList := ⟨_, rfl⟩
    obtain ⟨k1, k2, k3, k4⟩ := heap_setCells (Builtin.zeroCells (.agg #[.int .i64 0, .int .i64 0] : Value).cells (n - (i + (n - j)))).toList (off + (i + (n - j)) * 2) W1 _ g1
    rw [← hW2] at hcl k1 k2 k3 k4
    have key : Calls Tryd.prog 30 #[.slice (some ⟨b, off, none⟩) n cap, .int .i64 i, .int .i64 j] w fun e w' => e = .returned (.slice (some ⟨b, off, none⟩) (i + (n - j)) cap) ∧ w' = W2 := by
      have hic : i ≤ cap := by omega
      have hjc : j ≤ cap := by omega
      clear hW1 hW2 hnews hlen hat hroom hh g1 g2 g3 g4 k1 k2 k3 k4 hF1 hFl
      go_enter Tryd.func30, Tryd.ntmps30
      go_wp2_with fail
      go_region_law_o (refine step_append_room rfl (.tmp 22) (.tmp 25) 62 rfl 66 i0 2 t62 hi0 hz1 b off i cap (by simp [Act.eval, Act.put]) A (n - j) (cap - j) news (by simp [Act.eval, Act.put]) s1.out hsrc.out s2.out (by omega) s3.out ?_; rw [← hW.out])
      go_wp2
      go_ret
      exact ⟨rfl, rfl⟩
    refine key.mono ?_
    rintro e w' ⟨rfl, rfl⟩
    refine ⟨_, rfl, IO.trans (show IO w W1 from g4) k4, ?_, cap, by omega, .inl ⟨b, off, cs, _, T, rfl, hh, by rw [show n - (j - i) = i + (n - j) by omega], Nat.le_refl _, by omega, k2.trans g2, k1, by rw [wrAt_size, wrAt_size], fun k hk => (k3 k hk).trans (g3 k hk), fun k x hk => ?_⟩⟩
    · simp only [List.length_append, List.length_take, List.length_drop]; omega
    · have hkl := (List.getElem?_eq_some_iff.1 hk).1
      rw [List.length_append, List.length_take, List.length_drop] at hkl
      rw [wrAt_out _ _ _ _ (.inl (by omega))]
      rw [List.getElem?_append] at hk
      split at hk
      · rename_i h1
        rw [List.length_take] at h1
        rw [wrAt_out _ _ _ _ (.inl (by omega))]
        rw [List.getElem?_take] at hk
        split at hk
        · exact hat k x hk
        · cases hk
      · rename_i h1
        rw [List.length_take] at h1
        rw [List.length_take] at hk
        have hmin : min (i * 2) F.length = i * 2 := by rw [hFl]; omega
        rw [hmin] at hk h1
        rw [show off + k = off + i * 2 + (k - i * 2) from by omega, wrAt_in _ _ _ _ (by rw [hlen]; omega) (by omega), hnews]
        exact hk

end Go.Proofs.LxLst.D30

/-
  slices.DeleteFunc at a slice of pointers, with a closure that holds a pointer's variable.
-/
namespace Go.Proofs.LxLst.R31
open Go Go.Eng Go.RowKit Go.Lib Go.Sort Go.Shelf Go.Proofs

def ren : Ren := ⟨fun | 6 => 43 | 10 => 31 | n => n, fun | 0 => 0 | 3 => 3 | 4 => 4 | 22 => 57 | 23 => 60 | 25 => 79 | n => n, fun n => n⟩

theorem lays : SlLaysH.n10 Tryd.prog ren where
  mixed := by kernel_rfl
  f6 := ⟨Tryd.f43.name, by kernel_rfl, by kernel_rfl⟩
  f10 := ⟨Tryd.f31.name, by kernel_rfl, by kernel_rfl⟩
  t0 := by kernel_rfl
  a0 := Tryd.isAgg0
  z0 := Tryd.sizeOf0
  v0 := Tryd.zeroValue0
  t3 := by kernel_rfl
  a3 := Tryd.isAgg3
  z3 := Tryd.sizeOf3
  v3 := Tryd.zeroValue3
  t4 := by kernel_rfl
  a4 := Tryd.isAgg4
  z4 := Tryd.sizeOf4
  v4 := Tryd.zeroValue4
  t22 := by kernel_rfl
  a22 := Tryd.isAgg57
  z22 := Tryd.sizeOf57
  v22 := Tryd.zeroValue57
  a23 := Tryd.isAgg60
  z23 := Tryd.sizeOf60
  t25 := by kernel_rfl
  a25 := Tryd.isAgg79
  z25 := Tryd.sizeOf79
  v25 := Tryd.zeroValue79

theorem underP : Tryd.prog.underlying 60 = some (.pointer 64) := by kernel_rfl
theorem infoP : ∃ j, Tryd.prog.info? 64 = some j ∧ j.size ≠ 0 := by
  have h : (Tryd.prog.info? 64).map (·.size) = some 4 := by kernel_rfl
  cases hj : Tryd.prog.info? 64 with
  | none => rw [hj] at h; cases h
  | some j =>
    rw [hj] at h
    injection h with h
    have h : j.size = 4 := h
    exact ⟨j, rfl, by omega⟩

/-- the pointers' equality -/
theorem eql_ptr {W : World} {x y : Value} (hx : PtrAt W x) (hy : PtrAt W y) : (binOp .eql 60 x y).run Tryd.prog W = .ok (.bool (Eng.ptrEq x y)) W := by
  obtain ⟨j, hj, hs⟩ := infoP
  have none_some : ∀ a : Addr, (binOp .eql 60 (.pointer none) (.pointer (some a))).run Tryd.prog W = .ok (.bool false) W := fun a => by
    have h : ∀ d : Nat, (Op.equalIn (d + 1) 60 (.pointer none) (.pointer (some a))).run Tryd.prog W = .ok false W := fun d => by
      simp [Op.equalIn, run_underlying underP, sizeOf, typeInfo, hj]
    simp only [binOp]
    simp [Op.equal, Op.maxDepth, h 9999]
  have some_none : ∀ a : Addr, (binOp .eql 60 (.pointer (some a)) (.pointer none)).run Tryd.prog W = .ok (.bool false) W := fun a => by
    have h : ∀ d : Nat, (Op.equalIn (d + 1) 60 (.pointer (some a)) (.pointer none)).run Tryd.prog W = .ok false W := fun d => by
      simp [Op.equalIn, run_underlying underP, sizeOf, typeInfo, hj]
    simp only [binOp]
    simp [Op.equal, Op.maxDepth, h 9999]
  have none_none : (binOp .eql 60 (.pointer none) (.pointer none)).run Tryd.prog W = .ok (.bool true) W := by
    have h : ∀ d : Nat, (Op.equalIn (d + 1) 60 (.pointer none) (.pointer none)).run Tryd.prog W = .ok true W := fun d => by
      simp [Op.equalIn, run_underlying underP, sizeOf, typeInfo, hj]
    simp only [binOp]
    simp [Op.equal, Op.maxDepth, h 9999]
  rcases hx with rfl | ⟨b, cs, T, rfl, hb⟩ <;> rcases hy with rfl | ⟨b', cs', T', rfl, hb'⟩
  · exact none_none
  · exact none_some _
  · exact some_none _
  · by_cases e : b = b'
    · subst e
      rw [run_eql_ptr_same (P := Tryd.prog) W ⟨b, 0, none⟩ underP hj]
      simp [Eng.ptrEq]
    · rw [run_eql_ptr_other (P := Tryd.prog) (ca := cs) (cb := cs') (ta := T) (tb := T') W underP hj hs (by intro h; injection h with h; exact e h) hb hb']
      have : b.beq b' = false := by
        cases h : b.beq b' with
        | true => exact absurd (Nat.eq_of_beq_eq_true h) e
        | false => rfl
      simp [Eng.ptrEq, this]

set_option maxHeartbeats 1000000 in
/-- the closure -/
theorem closure {W : World} {bb : Nat} {csb : Array Value} {Tb : TypeId} {x xv : Value} (hb : W.heap[bb]? = some (.cells csb Tb (0, 0))) (h0 : csb[0]? = some xv) (hx : PtrAt W x) (hy : PtrAt W xv) :
    Calls Tryd.prog 32 (#[x] ++ #[.pointer (some ⟨bb, 0, none⟩)]) W fun e w' => e = .returned (.bool (Eng.ptrEq x xv)) ∧ ∃ q, w' = W.drewN q := by
  have mixed : Tryd.prog.follows .mixedOrders = true := by kernel_rfl
  have hc : W.cell? ⟨bb, 0, none⟩ = some xv := by rw [cell?_cells hb]; exact h0
  have heq := eql_ptr hx hy
  have hg : ∀ op o1 o2, (eqGuard op 60 o1 o2 x xv) = pure () := fun op o1 o2 => by
    rcases hx with rfl | ⟨_, _, _, rfl, _⟩ <;> cases op <;> rfl
  clear hb h0 hx hy
  generalize Eng.ptrEq x xv = r at *
  show Calls _ _ #[x, .pointer (some ⟨bb, 0, none⟩)] _ _
  go_enter Tryd.func32, Tryd.ntmps32
  go_wp2
  go_ret
  exact ⟨rfl, 0, rfl⟩

theorem heap_putRow_other {α : Type} [Inhabited α] (enc : α → Value) (w : World) (q blk off : Nat) (d : Array α) (k : Nat) (hk : k ≠ blk) : (putRow enc (Sort.ahead w q) blk off d).heap[k]? = w.heap[k]? := by
  simp only [putRow, mapBlock, Array.getElem?_modify]
  rw [if_neg (fun e => hk e.symm)]
  rfl

theorem heap_putRow_same {α : Type} [Inhabited α] (enc : α → Value) (w : World) (q blk off : Nat) (d : Array α) {cs : Array Value} {T : TypeId} (h : w.heap[blk]? = some (.cells cs T (0, 0))) :
    (putRow enc (Sort.ahead w q) blk off d).heap[blk]? = some (.cells (putCells enc off d cs) T (0, 0)) := by
  simp only [putRow, mapBlock, Array.getElem?_modify, if_true]
  show Option.map _ w.heap[blk]? = _
  rw [h]
  rfl

set_option maxHeartbeats 4000000 in
set_option maxRecDepth 100000 in
theorem ok : LstOK Tryd.prog 31 (.fil 32 1) := by
  intro w n ad cap F bb csb Tb xv hrow hn hmax hF hxv hbb h0 hap
  obtain ⟨hnc, hFl, hF1, hpl⟩ := hrow
  rcases hpl with hz | ⟨b, off, cs, T, rfl, hh, hroom, hat⟩
  · omega
  rw [Nat.mul_one] at hFl hroom
  obtain ⟨hne, hav⟩ := hap b off rfl (by omega)
  -- the pointers that there may be
  let Q : Value → Prop := fun v => PtrAt w v ∧ v ≠ .pointer (some ⟨b, 0, none⟩)
  have hin : Inhabited {v : Value // Q v} := ⟨⟨.pointer none, .inl rfl, by intro e; cases e⟩⟩
  let enc : {v : Value // Q v} → Value := fun v => v.1
  have hQ : ∀ v, v ∈ F → Q v := fun v hv => ⟨hF v hv, hav v (.inl hv)⟩
  have hQx : Q xv := ⟨hxv, hav xv (.inr rfl)⟩
  let d : Array {v : Value // Q v} := (F.attach.map fun v => ⟨v.1, hQ v.1 v.2⟩).toArray
  have hds : d.size = n := by simp [d, hFl]
  have hdm : d.toList.map enc = F := by simp [d, enc]
  have hdj : ∀ j, j < n → F[j]? = some (enc d[j]!) := fun j hj => by
    rw [← hdm, List.getElem?_map, getElem!_pos d j (by omega)]
    simp [Array.getElem?_toList, Array.getElem?_eq_getElem (show j < d.size by omega)]
  let p : {v : Value // Q v} → Bool := fun v => Eng.ptrEq v.1 xv
  have hO : OneCell enc := fun v => by
    obtain ⟨v, hv, _⟩ := v
    rcases hv with rfl | ⟨_, _, _, rfl, _⟩ <;> rfl
  have hbw : b < w.heap.size := (Array.getElem?_eq_some_iff.1 hh).1
  have hbbw : bb < w.heap.size := (Array.getElem?_eq_some_iff.1 hbb).1
  have gives : ∀ (W : World) (x : {v : Value // Q v}), (∀ k, k < w.heap.size → k ≠ b → W.heap[k]? = w.heap[k]?) → FnGives Tryd.prog 32 #[.pointer (some ⟨bb, 0, none⟩)] #[enc x] (.bool (p x)) W := by
    intro W x hW
    have at' : ∀ v, Q v → PtrAt W v := fun v hv => by
      obtain ⟨hv, hvb⟩ := hv
      rcases hv with rfl | ⟨b', cs', T', rfl, hb'⟩
      · exact .inl rfl
      · refine .inr ⟨b', cs', T', rfl, ?_⟩
        rw [hW b' (Array.getElem?_eq_some_iff.1 hb').1 (fun e => hvb (by rw [e]))]
        exact hb'
    exact closure (by rw [hW bb hbbw (fun e => hne e.symm)]; exact hbb) h0 (at' _ x.2) (at' _ hQx)
  have hpred : PredAt Tryd.prog 32 #[.pointer (some ⟨bb, 0, none⟩)] enc p w := fun W x hb => gives W x fun k hk _ => hb.block k hk
  have hover : PredOver Tryd.prog 32 #[.pointer (some ⟨bb, 0, none⟩)] enc p b off d.size w := fun m os dk x _ => gives _ x fun k hk hkb => by
    unfold sortWorld
    rw [Sort.heap_grow_old _ _ (by show k < _; simp; exact hk)]
    exact heap_putRow_other enc w m b off dk k hkb
  have hH : Holds enc w b off d := fun j hj => by
    rw [hds] at hj
    refine ⟨?_, frozen_no hh⟩
    rw [cell?_cells hh]
    exact hat j _ (hdj j hj)
  have hcall := AnyE.slices_DeleteFunc lays enc hO p 32 #[.pointer (some ⟨bb, 0, none⟩)] (Bears.enters (P := Tryd.prog) (B := Tryd.f32) ⟨Tryd.f32.name, by kernel_rfl, by kernel_rfl⟩ rfl) ⟨.pointer none, .inl rfl, by intro e; cases e⟩ Tryd.zeroValue60 b off cap d w hpred hover hH (by omega) (by omega)
  rw [hds] at hcall
  obtain ⟨kept, hkept⟩ : ∃ kept, kept = d.toList.filter fun x => !p x := ⟨_, rfl⟩
  rw [← hkept] at hcall
  have hkF : kept.map enc = F.filter fun v => !Eng.ptrEq v xv := by
    rw [hkept, ← hdm]
    generalize d.toList = l
    rw [List.filter_map]
    rfl
  have hkl : kept.length = (F.filter fun v => !Eng.ptrEq v xv).length := by rw [← hkF, List.length_map]
  have hkn : kept.length ≤ n := by rw [hkl, ← hFl]; exact List.length_filter_le _ _
  refine hcall.mono ?_
  rintro e w' ⟨rfl, q, rfl⟩
  have hsz : (kept ++ List.replicate (n - kept.length) (⟨.pointer none, .inl rfl, by intro e; cases e⟩ : {v : Value // Q v})).toArray.size = n := by simp; omega
  refine ⟨_, rfl, ⟨rfl, rfl, rfl⟩, by rw [Nat.mul_one], cap, by omega, .inl ⟨b, off, cs, _, T, rfl, hh, ?_, Nat.le_refl _, by omega, ?_, heap_putRow_same enc w q b off _ hh, by simp [putCells], fun k hk => heap_putRow_other enc w q b off _ k hk, fun j x hj => ?_⟩⟩
  · rw [hkl]
  · simp [putRow, mapBlock, Sort.ahead]
  · have hjl := (List.getElem?_eq_some_iff.1 hj).1
    rw [← hkl] at hjl
    simp only [putCells, Array.getElem?_mapIdx]
    have hcs : off + j < cs.size := by omega
    rw [Array.getElem?_eq_getElem hcs, Option.map_some, if_pos (by rw [hsz]; omega), show off + j - off = j by omega]
    rw [← hkF, List.getElem?_map, List.getElem?_eq_getElem hjl, Option.map_some] at hj
    injection hj with hj
    rw [← hj, getElem!_pos _ j (by rw [hsz]; omega)]
    congr 1
    simp [List.getElem_append_left hjl]

end Go.Proofs.LxLst.R31

/-
  The tables of the seat's program.
-/
namespace Go.Proofs.YtnbpgehpjhifgaaDoor.Lx
open Go Go.Eng Go.Proofs

def nms : Names := ⟨101, 90⟩

def tys : List (TypeId × TyI) := [
  (3, ⟨.int .i64, 1, 8, [.v (.int .i64 0)], some (.int .i64), none⟩),
  (4, ⟨.bool, 1, 1, [.v (.bool false)], some .bool, none⟩),
  (5, ⟨.int .u8, 1, 1, [.v (.int .u8 0)], some (.int .u8), none⟩),
  (24, ⟨.ptr 59, 1, 8, [.v (.pointer none)], some (.hd 0), none⟩),
  (26, ⟨.iface, 1, 16, [.v (.nilIface)], some .err, none⟩),
  (30, ⟨.struct [(3, 0, 1), (3, 1, 1), (3, 2, 1)], 3, 24, [.v (.int .i64 0), .v (.int .i64 0), .v (.int .i64 0)], some (.st (.pair (.int .i64) (.pair (.int .i64) (.int .i64)))), none⟩),
  (45, ⟨.slice 5, 1, 24, [.v (.slice none 0 0)], some (.sl (.int .u8)), none⟩),
  (57, ⟨.slice 60, 1, 24, [.v (.slice none 0 0)], some (.sl (.hd 1)), none⟩),
  (59, ⟨.struct [(45, 0, 1), (57, 1, 1)], 2, 48, [.v (.slice none 0 0), .v (.slice none 0 0)], some (.st (.pair (.sl (.int .u8)) (.sl (.hd 1)))), none⟩),
  (60, ⟨.ptr 64, 1, 8, [.v (.pointer none)], some (.hd 1), none⟩),
  (62, ⟨.slice 66, 1, 24, [.v (.slice none 0 0)], some (.sl (.st (.pair (.int .i64) (.int .i64)))), none⟩),
  (64, ⟨.struct [(30, 0, 3), (62, 3, 1)], 4, 48, [.v (.int .i64 0), .v (.int .i64 0), .v (.int .i64 0), .v (.slice none 0 0)], some (.st (.pair (.st (.pair (.int .i64) (.pair (.int .i64) (.int .i64)))) (.sl (.st (.pair (.int .i64) (.int .i64)))))), none⟩),
  (66, ⟨.struct [(3, 0, 1), (3, 1, 1)], 2, 16, [.v (.int .i64 0), .v (.int .i64 0)], some (.st (.pair (.int .i64) (.int .i64))), none⟩),
  (76, ⟨.other, 1, 8, [.v (.nilFunc)], none, none⟩),
  (79, ⟨.other, 1, 8, [.v (.nilFunc)], none, none⟩)]

def fns : List Nat := [9, 22, 23, 10, 11, 29, 28, 14, 7, 8, 33, 17, 32, 16, 34, 18, 36, 35, 20, 19, 21, 6]
def gbs : List Nat := [0, 1, 2]
abbrev ErrRange : Nat := 0
abbrev ErrRoom : Nat := 1
abbrev ErrNone : Nat := 2

def exts : List (FuncId × ExtK) := []
def knds : List (List Cell) := [[.sl (.int .u8), .sl (.hd 1)], [.d (.int .i64), .d (.int .i64), .d (.int .i64), .sl (.st (.pair (.int .i64) (.int .i64)))]]
def kts : List (TypeId × Nat) := [(59, 0), (64, 1)]
def kss : List (FuncId × List Nat) := [(9, [0, 1]), (22, [0, 1]), (10, [0, 1]), (11, [0, 1]), (14, [0, 1]), (7, [0, 1]), (33, [0, 1]), (17, [0, 1]), (32, [1]), (16, [0, 1]), (18, [0, 1]), (35, [0, 1]), (20, [0, 1]), (19, [0, 1]), (6, [0, 1])]
def lsts : List (FuncId × LstK) := [(24, .ins 1 8), (25, .ins 2 16), (30, .del 2), (31, .fil 32 1)]
noncomputable def E : Eng.Env := mkEnvK Tryd.prog nms tys fns gbs exts knds kts kss lsts

set_option maxRecDepth 100000 in
theorem tys_ok : TysOK Tryd.prog nms tys := ⟨by kernel_rfl, by kernel_rfl, by kernel_rfl, by kernel_rfl, by kernel_rfl, by kernel_rfl, by kernel_rfl, by kernel_rfl, by kernel_rfl, by kernel_rfl, by kernel_rfl, by kernel_rfl, by kernel_rfl, by kernel_rfl, by kernel_rfl, trivial⟩
theorem E_ok : EnvOK Tryd.prog E := mkEnvK_ok (mkEnvX_ok (mkEnv_ok tys_ok.mem (fnsOK.mem (by kernel_rfl))) (.nil)) (by kernel_rfl) (.cons ⟨_, Tryd.func24, by kernel_rfl, by kernel_rfl⟩ LxLst.I24.ok (.cons ⟨_, Tryd.func25, by kernel_rfl, by kernel_rfl⟩ LxLst.I25.ok (.cons ⟨_, Tryd.func30, by kernel_rfl, by kernel_rfl⟩ LxLst.D30.ok (.cons ⟨_, Tryd.func31, by kernel_rfl, by kernel_rfl⟩ LxLst.R31.ok (.nil)))))
theorem mixed : Tryd.prog.follows .mixedOrders = true := by kernel_rfl

end Go.Proofs.YtnbpgehpjhifgaaDoor.Lx

/-
  The functions of the seat's program, as plain functions.
-/
namespace Go.Proofs.YtnbpgehpjhifgaaDoor.Lx
open Go Go.Eng Go.Proofs
set_option maxRecDepth 100000

/-! lodge/arena.New -/

abbrev ps_arena_New : List Ty := [(.int .i64)]
abbrev rs_arena_New : List Slot := [.data (.hd 0), .data .err]
abbrev cs_arena_New (N : Nat) : List (CallSpec E) := []
noncomputable abbrev b_arena_New : Code := ((Go.Proofs.Tryd.f9.body).getD .skip)

def F_arena_New (N : Nat) (T0 : List (List Int × (List (Option Nat) × Unit))) (T1 : List (Int × (Int × (Int × (List ((Int × Int)) × Unit))))) (size_0 : Int) : Option ((List (List Int × (List (Option Nat) × Unit)) × (List (Int × (Int × (Int × (List ((Int × Int)) × Unit)))) × Unit)) × (Option Nat × (Er × Unit))) :=
  cond (decide (size_0 < (1 : Int)))
    (
    some ((T0, (T1, ())), ((@Option.none Nat), ((Go.Eng.Er.s ErrRange), ()))))
    (
    cond (decide ((1048576 : Int) < size_0))
      (
      some ((T0, (T1, ())), ((@Option.none Nat), ((Go.Eng.Er.s ErrRange), ()))))
      (
      cond (decide ((0 : Int) ≤ size_0))
        (
        cond (decide (size_0 ≤ size_0))
          (
          cond (decide ((size_0 * ((Nat.cast 1 : Int) + (1 : Int))) ≤ (Nat.cast Go.Eng.most : Int)))
            (
            cond (decide (((0 : Nat) + (Int.toNat size_0)) ≤ (List.length (List.replicate (Int.toNat size_0) (0 : Int)))))
              (
              some (((T0 ++ (((List.take (Int.toNat size_0) (List.replicate (Int.toNat size_0) (0 : Int))), (([] : List (Option Nat)), ())) :: ([] : List ((List Int) × ((List (Option Nat)) × PUnit))))), (T1, ())), ((@Option.some Nat (List.length T0)), (Go.Eng.Er.nil, ()))))
              (
              none))
            (
            none))
          (
          none))
        (
        none)))

abbrev c_arena_New (N : Nat) : CallSpec E := ⟨9, ps_arena_New, rs_arena_New, fun x => F_arena_New N x.1.1 x.1.2.1 x.2.1⟩

theorem cs_arena_New_ok (S : Ini) (N : Nat) : CallsOK Go.Proofs.Tryd.prog E S (cs_arena_New N) :=
  .nil
theorem F_arena_New_ok (S : Ini) (N : Nat) : ∀ x y, (c_arena_New N).g x = some y → FCon Go.Proofs.Tryd.prog E S 9 ps_arena_New rs_arena_New x y := by
  intro x y h
  exact fun_specJ E_ok mixed (cs_arena_New_ok S N) (f := 9) (fi := ⟨b_arena_New, 15, Go.Proofs.Tryd.f9.results.toList⟩) (by kernel_rfl) (ls := []) (.nil) (js := []) (by kernel_rfl) (ps := ps_arena_New) (rs := rs_arena_New) (Eq.trans (b := F_arena_New N x.1.1 x.1.2.1 x.2.1) (by kernel_rfl) h)

/-! (*lodge/arena.Arena).find -/

abbrev ps_arena_Arena_find : List Ty := [(.hd 0), (.int .i64)]
abbrev rs_arena_Arena_find : List Slot := [.data (.hd 1)]
abbrev cs_arena_Arena_find (N : Nat) : List (CallSpec E) := []
noncomputable abbrev b_arena_Arena_find : Code := ((Go.Proofs.Tryd.f22.body).getD .skip)

abbrev h_arena_Arena_find_0 : List Slot := [.dead, .data (.int .i64), .dead, .dead, .dead, .dead, .dead, .dead, .dead, .dead, .bor (.hd 1) 0 2, .data (.int .i64), .data (.int .i64), .dead, .dead, .dead, .dead, .dead, .dead, .dead, .dead, .dead, .dead, .dead, .dead]
abbrev e_arena_Arena_find_0 : List (AX × List Slot) := [(AX.exit 0, [.dead, .dead, .dead, .dead, .dead, .dead, .dead, .dead, .dead, .dead, .dead, .dead, .dead, .dead, .dead, .dead, .dead, .dead, .dead, .dead, .dead, .dead, .dead, .dead, .dead]), (AX.ret, [.dead, .dead, .dead, .dead, .data (.hd 1), .dead, .dead, .dead, .dead, .dead, .dead, .dead, .dead, .dead, .dead, .dead, .dead, .dead, .dead, .dead, .dead, .dead, .dead, .dead, .dead])]
def g_arena_Arena_find_0 (N : Nat) : Nat → List (List Int × (List (Option Nat) × Unit)) → List (Int × (Int × (Int × (List ((Int × Int)) × Unit)))) → Int → (Nat × (Nat × Nat)) → Int → Int → Option (Sum ((List (List Int × (List (Option Nat) × Unit)) × (List (Int × (Int × (Int × (List ((Int × Int)) × Unit)))) × Unit)) × Unit) ((List (List Int × (List (Option Nat) × Unit)) × (List (Int × (Int × (Int × (List ((Int × Int)) × Unit)))) × Unit)) × (Option Nat × Unit)))
  | 0, _, _, _, _, _, _ => none
  | n + 1, T0, T1, id_1, t_10, t_11, t_12 =>
    cond (decide (t_12 < t_11))
      (
      cond (decide ((0 : Int) ≤ t_12))
        (
        cond (decide ((Int.toNat t_12) < ((t_10).2).2))
          (
          cond (decide ((((t_10).2).1 + (Int.toNat t_12)) < (List.length (((List.getD T0 (t_10).1 (([] : List Int), (([] : List (Option Nat)), ())))).2).1)))
            (
            cond (@Option.isSome Nat (List.getD (((List.getD T0 (t_10).1 (([] : List Int), (([] : List (Option Nat)), ())))).2).1 (((t_10).2).1 + (Int.toNat t_12)) (@Option.none Nat)))
              (
              cond (decide (((List.getD T1 (@Option.getD Nat (List.getD (((List.getD T0 (t_10).1 (([] : List Int), (([] : List (Option Nat)), ())))).2).1 (((t_10).2).1 + (Int.toNat t_12)) (@Option.none Nat)) (0 : Nat)) ((0 : Int), ((0 : Int), ((0 : Int), (([] : List (Int × Int)), ())))))).1 = id_1))
                (
                some (Sum.inr ((T0, (T1, ())), ((List.getD (((List.getD T0 (t_10).1 (([] : List Int), (([] : List (Option Nat)), ())))).2).1 (((t_10).2).1 + (Int.toNat t_12)) (@Option.none Nat)), ()))))
                (
                (g_arena_Arena_find_0 N n T0 T1 id_1 t_10 t_11 (wi64 (t_12 + (1 : Int))))))
              (
              none))
            (
            none))
          (
          none))
        (
        none))
      (
      some (Sum.inl ((T0, (T1, ())), ())))

def F_arena_Arena_find (N : Nat) (T0 : List (List Int × (List (Option Nat) × Unit))) (T1 : List (Int × (Int × (Int × (List ((Int × Int)) × Unit))))) (a_0 : Option Nat) (id_1 : Int) : Option ((List (List Int × (List (Option Nat) × Unit)) × (List (Int × (Int × (Int × (List ((Int × Int)) × Unit)))) × Unit)) × (Option Nat × Unit)) :=
  cond (@Option.isSome Nat a_0)
    (
    Option.bind (g_arena_Arena_find_0 N N T0 T1 id_1 ((@Option.getD Nat a_0 (0 : Nat)), ((0 : Nat), (List.length (((List.getD T0 (@Option.getD Nat a_0 (0 : Nat)) (([] : List Int), (([] : List (Option Nat)), ())))).2).1))) (Nat.cast (List.length (((List.getD T0 (@Option.getD Nat a_0 (0 : Nat)) (([] : List Int), (([] : List (Option Nat)), ())))).2).1) : Int) (0 : Int)) fun y0 =>
    Sum.elim (fun y1 =>
      some ((y1).1, ((@Option.none Nat), ())))
      (fun y2 =>
      some y2) y0)
    (
    none)

abbrev c_arena_Arena_find (N : Nat) : CallSpec E := ⟨22, ps_arena_Arena_find, rs_arena_Arena_find, fun x => F_arena_Arena_find N x.1.1 x.1.2.1 x.2.1 x.2.2.1⟩
abbrev l_arena_Arena_find_0 (N : Nat) : LoopSpec E [0, 1] := ⟨0, h_arena_Arena_find_0, e_arena_Arena_find_0, fun x => g_arena_Arena_find_0 N N x.1.1 x.1.2.1 x.2.1 x.2.2.1 x.2.2.2.1 x.2.2.2.2.1⟩

theorem cs_arena_Arena_find_ok (S : Ini) (N : Nat) : CallsOK Go.Proofs.Tryd.prog E S (cs_arena_Arena_find N) :=
  .nil
noncomputable abbrev b_arena_Arena_find_0 : Code := (loopsOf b_arena_Arena_find).getD 0 .skip
theorem g_arena_Arena_find_0_ok (S : Ini) (N : Nat) : ∀ n x y, (fun (x : StV E [0, 1] h_arena_Arena_find_0) => g_arena_Arena_find_0 N n x.1.1 x.1.2.1 x.2.1 x.2.2.1 x.2.2.2.1 x.2.2.2.2.1) x = some y → LoopCon Go.Proofs.Tryd.prog E S b_arena_Arena_find_0 (encSlots E [0, 1] h_arena_Arena_find_0 x) (encEx E [0, 1] e_arena_Arena_find_0 y).1 (encEx E [0, 1] e_arena_Arena_find_0 y).2 :=
  loop_specJ E_ok mixed (E_ok.ks 22) (cs_arena_Arena_find_ok S N) (all := loopsOf b_arena_Arena_find) (ls := []) (.nil) (js := []) (i := 0) (by kernel_rfl) (inner_of (by kernel_rfl)) (head := h_arena_Arena_find_0) (ex := e_arena_Arena_find_0) (fun n (x : StV E [0, 1] h_arena_Arena_find_0) => g_arena_Arena_find_0 N n x.1.1 x.1.2.1 x.2.1 x.2.2.1 x.2.2.2.1 x.2.2.2.2.1) (fun _ => rfl) (fun n x => by kernel_rfl)
theorem F_arena_Arena_find_ok (S : Ini) (N : Nat) : ∀ x y, (c_arena_Arena_find N).g x = some y → FCon Go.Proofs.Tryd.prog E S 22 ps_arena_Arena_find rs_arena_Arena_find x y := by
  intro x y h
  exact fun_specJ E_ok mixed (cs_arena_Arena_find_ok S N) (f := 22) (fi := ⟨b_arena_Arena_find, 25, Go.Proofs.Tryd.f22.results.toList⟩) (by kernel_rfl) (ls := [l_arena_Arena_find_0 N]) (.cons (by kernel_rfl) (g_arena_Arena_find_0_ok S N N) (.nil)) (js := []) (by kernel_rfl) (ps := ps_arena_Arena_find) (rs := rs_arena_Arena_find) (Eq.trans (b := F_arena_Arena_find N x.1.1 x.1.2.1 x.2.1 x.2.2.1) (by kernel_rfl) h)

/-! lodge/arena.gap -/

abbrev ps_arena_gap : List Ty := [(.sl (.st (.pair (.int .i64) (.int .i64)))), (.int .i64), (.int .i64)]
abbrev rs_arena_gap : List Slot := [.data (.int .i64), .data (.int .i64), .data .bool]
abbrev cs_arena_gap (N : Nat) : List (CallSpec E) := []
noncomputable abbrev b_arena_gap : Code := ((Go.Proofs.Tryd.f23.body).getD .skip)

abbrev h_arena_gap_0 : List Slot := [.data (.sl (.st (.pair (.int .i64) (.int .i64)))), .data (.int .i64), .data (.int .i64), .dead, .dead, .dead, .dead, .dead, .dead, .data (.int .i64), .dead, .dead, .data (.sl (.st (.pair (.int .i64) (.int .i64)))), .data (.int .i64), .data (.int .i64), .dead, .dead, .dead, .dead, .dead, .dead, .dead, .dead, .dead, .dead, .dead, .dead, .dead, .dead, .dead, .dead, .dead, .dead, .dead, .dead, .dead, .dead, .dead, .dead, .dead, .dead]
abbrev e_arena_gap_0 : List (AX × List Slot) := [(AX.exit 0, [.data (.sl (.st (.pair (.int .i64) (.int .i64)))), .data (.int .i64), .data (.int .i64), .dead, .dead, .dead, .dead, .dead, .dead, .data (.int .i64), .dead, .dead, .dead, .dead, .dead, .dead, .dead, .dead, .dead, .dead, .dead, .dead, .dead, .dead, .dead, .dead, .dead, .dead, .dead, .dead, .dead, .dead, .dead, .dead, .dead, .dead, .dead, .dead, .dead, .dead, .dead]), (AX.ret, [.dead, .dead, .dead, .dead, .dead, .dead, .data (.int .i64), .data (.int .i64), .data .bool, .dead, .dead, .dead, .dead, .dead, .dead, .dead, .dead, .dead, .dead, .dead, .dead, .dead, .dead, .dead, .dead, .dead, .dead, .dead, .dead, .dead, .dead, .dead, .dead, .dead, .dead, .dead, .dead, .dead, .dead, .dead, .dead])]
def g_arena_gap_0 (N : Nat) : Nat → List ((Int × Int)) → Int → Int → Int → List ((Int × Int)) → Int → Int → Option (Sum (Unit × (List ((Int × Int)) × (Int × (Int × (Int × Unit))))) (Unit × (Int × (Int × (Bool × Unit)))))
  | 0, _, _, _, _, _, _, _ => none
  | n + 1, l_0, size_1, n_2, at_9, t_12, t_13, t_14 =>
    cond (decide (t_14 < t_13))
      (
      cond (decide ((0 : Int) ≤ t_14))
        (
        cond (decide ((Int.toNat t_14) < (List.length t_12)))
          (
          cond (decide (n_2 ≤ (wi64 (((List.getD t_12 (Int.toNat t_14) ((0 : Int), (0 : Int)))).1 - at_9))))
            (
            some (Sum.inr ((), (at_9, (t_14, (true, ()))))))
            (
            (g_arena_gap_0 N n l_0 size_1 n_2 (wi64 (((List.getD t_12 (Int.toNat t_14) ((0 : Int), (0 : Int)))).1 + ((List.getD t_12 (Int.toNat t_14) ((0 : Int), (0 : Int)))).2)) t_12 t_13 (wi64 (t_14 + (1 : Int))))))
          (
          none))
        (
        none))
      (
      some (Sum.inl ((), (l_0, (size_1, (n_2, (at_9, ())))))))

def F_arena_gap (N : Nat) (l_0 : List ((Int × Int))) (size_1 : Int) (n_2 : Int) : Option (Unit × (Int × (Int × (Bool × Unit)))) :=
  Option.bind (g_arena_gap_0 N N l_0 size_1 n_2 (0 : Int) l_0 (Nat.cast (List.length l_0) : Int) (0 : Int)) fun y0 =>
  Sum.elim (fun y1 =>
    some ((), ((((((y1).2).2).2).2).1, ((Nat.cast (List.length ((y1).2).1) : Int), ((decide (((((y1).2).2).2).1 ≤ (wi64 ((((y1).2).2).1 - (((((y1).2).2).2).2).1)))), ())))))
    (fun y2 =>
    some ((), (y2).2)) y0

abbrev c_arena_gap (N : Nat) : CallSpec E := ⟨23, ps_arena_gap, rs_arena_gap, fun x => F_arena_gap N x.2.1 x.2.2.1 x.2.2.2.1⟩
abbrev l_arena_gap_0 (N : Nat) : LoopSpec E [] := ⟨0, h_arena_gap_0, e_arena_gap_0, fun x => g_arena_gap_0 N N x.2.1 x.2.2.1 x.2.2.2.1 x.2.2.2.2.1 x.2.2.2.2.2.1 x.2.2.2.2.2.2.1 x.2.2.2.2.2.2.2.1⟩

theorem cs_arena_gap_ok (S : Ini) (N : Nat) : CallsOK Go.Proofs.Tryd.prog E S (cs_arena_gap N) :=
  .nil
noncomputable abbrev b_arena_gap_0 : Code := (loopsOf b_arena_gap).getD 0 .skip
theorem g_arena_gap_0_ok (S : Ini) (N : Nat) : ∀ n x y, (fun (x : StV E [] h_arena_gap_0) => g_arena_gap_0 N n x.2.1 x.2.2.1 x.2.2.2.1 x.2.2.2.2.1 x.2.2.2.2.2.1 x.2.2.2.2.2.2.1 x.2.2.2.2.2.2.2.1) x = some y → LoopCon Go.Proofs.Tryd.prog E S b_arena_gap_0 (encSlots E [] h_arena_gap_0 x) (encEx E [] e_arena_gap_0 y).1 (encEx E [] e_arena_gap_0 y).2 :=
  loop_specJ E_ok mixed (E_ok.ks 23) (cs_arena_gap_ok S N) (all := loopsOf b_arena_gap) (ls := []) (.nil) (js := []) (i := 0) (by kernel_rfl) (inner_of (by kernel_rfl)) (head := h_arena_gap_0) (ex := e_arena_gap_0) (fun n (x : StV E [] h_arena_gap_0) => g_arena_gap_0 N n x.2.1 x.2.2.1 x.2.2.2.1 x.2.2.2.2.1 x.2.2.2.2.2.1 x.2.2.2.2.2.2.1 x.2.2.2.2.2.2.2.1) (fun _ => rfl) (fun n x => by kernel_rfl)
theorem F_arena_gap_ok (S : Ini) (N : Nat) : ∀ x y, (c_arena_gap N).g x = some y → FCon Go.Proofs.Tryd.prog E S 23 ps_arena_gap rs_arena_gap x y := by
  intro x y h
  exact fun_specJ E_ok mixed (cs_arena_gap_ok S N) (f := 23) (fi := ⟨b_arena_gap, 41, Go.Proofs.Tryd.f23.results.toList⟩) (by kernel_rfl) (ls := [l_arena_gap_0 N]) (.cons (by kernel_rfl) (g_arena_gap_0_ok S N N) (.nil)) (js := []) (by kernel_rfl) (ps := ps_arena_gap) (rs := rs_arena_gap) (Eq.trans (b := F_arena_gap N x.2.1 x.2.2.1 x.2.2.2.1) (by kernel_rfl) h)

/-! (*lodge/arena.Arena).Add -/

abbrev ps_arena_Arena_Add : List Ty := [(.hd 0), (.int .i64), (.int .i64)]
abbrev rs_arena_Arena_Add : List Slot := [.data (.st (.pair (.int .i64) (.pair (.int .i64) (.int .i64)))), .data .err]
abbrev cs_arena_Arena_Add (N : Nat) : List (CallSpec E) := [c_arena_Arena_find N, c_arena_gap N]
noncomputable abbrev b_arena_Arena_Add : Code := ((Go.Proofs.Tryd.f10.body).getD .skip)

abbrev h_arena_Arena_Add_0 : List Slot := [.data (.hd 0), .data (.int .i64), .data (.int .i64), .dead, .dead, .dead, .box [.d (.st (.pair (.int .i64) (.pair (.int .i64) (.int .i64))))], .dead, .sl (.st (.pair (.int .i64) (.int .i64))), .dead, .dead, .dead, .dead, .dead, .dead, .dead, .dead, .dead, .dead, .dead, .dead, .dead, .dead, .dead, .dead, .dead, .dead, .dead, .bor (.hd 1) 0 2, .data (.int .i64), .data (.int .i64), .dead, .dead, .dead, .dead, .dead, .dead, .dead, .dead, .dead, .dead, .dead, .dead, .dead, .dead, .dead, .dead, .dead, .dead, .dead, .dead, .dead, .dead, .dead, .dead, .dead, .dead, .dead, .dead, .dead, .dead, .dead, .dead, .dead, .dead, .dead, .dead, .dead, .dead, .dead, .dead, .dead, .dead, .dead, .dead, .dead, .dead, .dead, .dead, .dead, .dead, .dead, .dead]
abbrev e_arena_Arena_Add_0 : List (AX × List Slot) := [(AX.exit 0, [.data (.hd 0), .data (.int .i64), .data (.int .i64), .dead, .dead, .dead, .box [.d (.st (.pair (.int .i64) (.pair (.int .i64) (.int .i64))))], .dead, .sl (.st (.pair (.int .i64) (.int .i64))), .dead, .dead, .dead, .dead, .dead, .dead, .dead, .dead, .dead, .dead, .dead, .dead, .dead, .dead, .dead, .dead, .dead, .dead, .dead, .dead, .dead, .dead, .dead, .dead, .dead, .dead, .dead, .dead, .dead, .dead, .dead, .dead, .dead, .dead, .dead, .dead, .dead, .dead, .dead, .dead, .dead, .dead, .dead, .dead, .dead, .dead, .dead, .dead, .dead, .dead, .dead, .dead, .dead, .dead, .dead, .dead, .dead, .dead, .dead, .dead, .dead, .dead, .dead, .dead, .dead, .dead, .dead, .dead, .dead, .dead, .dead, .dead, .dead, .dead])]
def g_arena_Arena_Add_0 (N : Nat) : Nat → List (List Int × (List (Option Nat) × Unit)) → List (Int × (Int × (Int × (List ((Int × Int)) × Unit)))) → Option Nat → Int → Int → ((Int × (Int × Int)) × Unit) → List ((Int × Int)) → (Nat × (Nat × Nat)) → Int → Int → Option ((List (List Int × (List (Option Nat) × Unit)) × (List (Int × (Int × (Int × (List ((Int × Int)) × Unit)))) × Unit)) × (Option Nat × (Int × (Int × (((Int × (Int × Int)) × Unit) × (List ((Int × Int)) × Unit))))))
  | 0, _, _, _, _, _, _, _, _, _, _ => none
  | n + 1, T0, T1, a_0, id_1, size_2, t_6, l_8, t_28, t_29, t_30 =>
    cond (decide (t_30 < t_29))
      (
      cond (decide ((0 : Int) ≤ t_30))
        (
        cond (decide ((Int.toNat t_30) < ((t_28).2).2))
          (
          cond (decide ((((t_28).2).1 + (Int.toNat t_30)) < (List.length (((List.getD T0 (t_28).1 (([] : List Int), (([] : List (Option Nat)), ())))).2).1)))
            (
            cond (@Option.isSome Nat (List.getD (((List.getD T0 (t_28).1 (([] : List Int), (([] : List (Option Nat)), ())))).2).1 (((t_28).2).1 + (Int.toNat t_30)) (@Option.none Nat)))
              (
              cond (@Option.isSome Nat (List.getD (((List.getD T0 (t_28).1 (([] : List Int), (([] : List (Option Nat)), ())))).2).1 (((t_28).2).1 + (Int.toNat t_30)) (@Option.none Nat)))
                (
                cond (decide (((0 : Nat) + (List.length l_8)) = (List.length l_8)))
                  (
                  cond (decide ((((List.length l_8) + 1) * (16 + (1 : Nat))) ≤ Go.Eng.most))
                    (
                    cond (decide (((List.length l_8) + 1) = (List.length ((List.take (List.length l_8) l_8) ++ (((((List.getD T1 (@Option.getD Nat (List.getD (((List.getD T0 (t_28).1 (([] : List Int), (([] : List (Option Nat)), ())))).2).1 (((t_28).2).1 + (Int.toNat t_30)) (@Option.none Nat)) (0 : Nat)) ((0 : Int), ((0 : Int), ((0 : Int), (([] : List (Int × Int)), ())))))).2).1, ((((List.getD T1 (@Option.getD Nat (List.getD (((List.getD T0 (t_28).1 (([] : List Int), (([] : List (Option Nat)), ())))).2).1 (((t_28).2).1 + (Int.toNat t_30)) (@Option.none Nat)) (0 : Nat)) ((0 : Int), ((0 : Int), ((0 : Int), (([] : List (Int × Int)), ())))))).2).2).1) :: ([] : List (Int × Int)))))))
                      (
                      (g_arena_Arena_Add_0 N n T0 T1 a_0 id_1 size_2 t_6 ((List.take (List.length l_8) l_8) ++ (((((List.getD T1 (@Option.getD Nat (List.getD (((List.getD T0 (t_28).1 (([] : List Int), (([] : List (Option Nat)), ())))).2).1 (((t_28).2).1 + (Int.toNat t_30)) (@Option.none Nat)) (0 : Nat)) ((0 : Int), ((0 : Int), ((0 : Int), (([] : List (Int × Int)), ())))))).2).1, ((((List.getD T1 (@Option.getD Nat (List.getD (((List.getD T0 (t_28).1 (([] : List Int), (([] : List (Option Nat)), ())))).2).1 (((t_28).2).1 + (Int.toNat t_30)) (@Option.none Nat)) (0 : Nat)) ((0 : Int), ((0 : Int), ((0 : Int), (([] : List (Int × Int)), ())))))).2).2).1) :: ([] : List (Int × Int)))) t_28 t_29 (wi64 (t_30 + (1 : Int)))))
                      (
                      none))
                    (
                    none))
                  (
                  none))
                (
                none))
              (
              none))
            (
            none))
          (
          none))
        (
        none))
      (
      cond (decide ((List.length l_8) = (List.length l_8)))
        (
        some ((T0, (T1, ())), (a_0, (id_1, (size_2, (t_6, (l_8, ())))))))
        (
        none))

def F_arena_Arena_Add (N : Nat) (T0 : List (List Int × (List (Option Nat) × Unit))) (T1 : List (Int × (Int × (Int × (List ((Int × Int)) × Unit))))) (a_0 : Option Nat) (id_1 : Int) (size_2 : Int) : Option ((List (List Int × (List (Option Nat) × Unit)) × (List (Int × (Int × (Int × (List ((Int × Int)) × Unit)))) × Unit)) × ((Int × (Int × Int)) × (Er × Unit))) :=
  cond (decide (size_2 < (1 : Int)))
    (
    some ((T0, (T1, ())), (((0 : Int), ((0 : Int), (0 : Int))), ((Go.Eng.Er.s ErrRange), ()))))
    (
    Option.bind (F_arena_Arena_find N T0 T1 a_0 id_1) fun y0 =>
    cond (Bool.not (@Option.isNone Nat ((y0).2).1))
      (
      some ((y0).1, (((0 : Int), ((0 : Int), (0 : Int))), ((Go.Eng.Er.s ErrRange), ()))))
      (
      cond (@Option.isSome Nat a_0)
        (
        Option.bind (g_arena_Arena_Add_0 N N ((y0).1).1 (((y0).1).2).1 a_0 id_1 size_2 (((0 : Int), ((0 : Int), (0 : Int))), ()) ([] : List (Int × Int)) ((@Option.getD Nat a_0 (0 : Nat)), ((0 : Nat), (List.length (((List.getD ((y0).1).1 (@Option.getD Nat a_0 (0 : Nat)) (([] : List Int), (([] : List (Option Nat)), ())))).2).1))) (Nat.cast (List.length (((List.getD ((y0).1).1 (@Option.getD Nat a_0 (0 : Nat)) (([] : List Int), (([] : List (Option Nat)), ())))).2).1) : Int) (0 : Int)) fun y1 =>
        cond (@Option.isSome Nat ((y1).2).1)
          (
          cond (decide (((0 : Nat) + (List.length ((((((y1).2).2).2).2).2).1)) ≤ (List.length ((((((y1).2).2).2).2).2).1)))
            (
            Option.bind (F_arena_gap N (List.take (List.length ((((((y1).2).2).2).2).2).1) ((((((y1).2).2).2).2).2).1) (Nat.cast (List.length ((List.getD ((y1).1).1 (@Option.getD Nat ((y1).2).1 (0 : Nat)) (([] : List Int), (([] : List (Option Nat)), ())))).1) : Int) ((((y1).2).2).2).1) fun y2 =>
            cond (Bool.not ((((y2).2).2).2).1)
              (
              some ((y1).1, (((0 : Int), ((0 : Int), (0 : Int))), ((Go.Eng.Er.s ErrRoom), ()))))
              (
              cond (@Option.isSome Nat ((y1).2).1)
                (
                cond (decide (((0 : Nat) + (List.length (((List.getD ((y1).1).1 (@Option.getD Nat ((y1).2).1 (0 : Nat)) (([] : List Int), (([] : List (Option Nat)), ())))).2).1)) = (List.length (((List.getD ((y1).1).1 (@Option.getD Nat ((y1).2).1 (0 : Nat)) (([] : List Int), (([] : List (Option Nat)), ())))).2).1)))
                  (
                  cond (decide ((0 : Int) ≤ (((y2).2).2).1))
                    (
                    cond (decide ((Int.toNat (((y2).2).2).1) ≤ (List.length (List.take (List.length (((List.getD ((y1).1).1 (@Option.getD Nat ((y1).2).1 (0 : Nat)) (([] : List Int), (([] : List (Option Nat)), ())))).2).1) (((List.getD ((y1).1).1 (@Option.getD Nat ((y1).2).1 (0 : Nat)) (([] : List Int), (([] : List (Option Nat)), ())))).2).1))))
                      (
                      cond (decide ((((List.length (List.take (List.length (((List.getD ((y1).1).1 (@Option.getD Nat ((y1).2).1 (0 : Nat)) (([] : List Int), (([] : List (Option Nat)), ())))).2).1) (((List.getD ((y1).1).1 (@Option.getD Nat ((y1).2).1 (0 : Nat)) (([] : List Int), (([] : List (Option Nat)), ())))).2).1)) + (1 : Nat)) * ((8 : Nat) + (1 : Nat))) ≤ Go.Eng.most))
                        (
                        cond (@Option.isSome Nat ((y1).2).1)
                          (
                          cond (decide (((0 : Nat) + ((List.length (List.take (List.length (((List.getD ((y1).1).1 (@Option.getD Nat ((y1).2).1 (0 : Nat)) (([] : List Int), (([] : List (Option Nat)), ())))).2).1) (((List.getD ((y1).1).1 (@Option.getD Nat ((y1).2).1 (0 : Nat)) (([] : List Int), (([] : List (Option Nat)), ())))).2).1)) + (1 : Nat))) ≤ (List.length (((List.take (Int.toNat (((y2).2).2).1) (List.take (List.length (((List.getD ((y1).1).1 (@Option.getD Nat ((y1).2).1 (0 : Nat)) (([] : List Int), (([] : List (Option Nat)), ())))).2).1) (((List.getD ((y1).1).1 (@Option.getD Nat ((y1).2).1 (0 : Nat)) (([] : List Int), (([] : List (Option Nat)), ())))).2).1)) ++ ((@Option.some Nat (List.length (((y1).1).2).1)) :: ([] : List (Option Nat)))) ++ (List.drop (Int.toNat (((y2).2).2).1) (List.take (List.length (((List.getD ((y1).1).1 (@Option.getD Nat ((y1).2).1 (0 : Nat)) (([] : List Int), (([] : List (Option Nat)), ())))).2).1) (((List.getD ((y1).1).1 (@Option.getD Nat ((y1).2).1 (0 : Nat)) (([] : List Int), (([] : List (Option Nat)), ())))).2).1))))))
                            (
                            cond (decide ((@Option.getD Nat ((y1).2).1 (0 : Nat)) = (@Option.getD Nat ((y1).2).1 (0 : Nat))))
                              (
                              some (((List.set ((y1).1).1 (@Option.getD Nat ((y1).2).1 (0 : Nat)) (((List.getD ((y1).1).1 (@Option.getD Nat ((y1).2).1 (0 : Nat)) (([] : List Int), (([] : List (Option Nat)), ())))).1, ((List.take ((List.length (List.take (List.length (((List.getD ((y1).1).1 (@Option.getD Nat ((y1).2).1 (0 : Nat)) (([] : List Int), (([] : List (Option Nat)), ())))).2).1) (((List.getD ((y1).1).1 (@Option.getD Nat ((y1).2).1 (0 : Nat)) (([] : List Int), (([] : List (Option Nat)), ())))).2).1)) + (1 : Nat)) (((List.take (Int.toNat (((y2).2).2).1) (List.take (List.length (((List.getD ((y1).1).1 (@Option.getD Nat ((y1).2).1 (0 : Nat)) (([] : List Int), (([] : List (Option Nat)), ())))).2).1) (((List.getD ((y1).1).1 (@Option.getD Nat ((y1).2).1 (0 : Nat)) (([] : List Int), (([] : List (Option Nat)), ())))).2).1)) ++ ((@Option.some Nat (List.length (((y1).1).2).1)) :: ([] : List (Option Nat)))) ++ (List.drop (Int.toNat (((y2).2).2).1) (List.take (List.length (((List.getD ((y1).1).1 (@Option.getD Nat ((y1).2).1 (0 : Nat)) (([] : List Int), (([] : List (Option Nat)), ())))).2).1) (((List.getD ((y1).1).1 (@Option.getD Nat ((y1).2).1 (0 : Nat)) (([] : List Int), (([] : List (Option Nat)), ())))).2).1)))), (((List.getD ((y1).1).1 (@Option.getD Nat ((y1).2).1 (0 : Nat)) (([] : List Int), (([] : List (Option Nat)), ())))).2).2))), (((((y1).1).2).1 ++ (((((y1).2).2).1, (((y2).2).1, (((((y1).2).2).2).1, (([] : List (Int × Int)), ())))) :: ([] : List (Int × (Int × (Int × ((List (Int × Int)) × PUnit))))))), ())), (((((y1).2).2).1, (((y2).2).1, ((((y1).2).2).2).1)), (Go.Eng.Er.nil, ()))))
                              (
                              none))
                            (
                            none))
                          (
                          none))
                        (
                        none))
                      (
                      none))
                    (
                    none))
                  (
                  none))
                (
                none)))
            (
            none))
          (
          none))
        (
        none)))

abbrev c_arena_Arena_Add (N : Nat) : CallSpec E := ⟨10, ps_arena_Arena_Add, rs_arena_Arena_Add, fun x => F_arena_Arena_Add N x.1.1 x.1.2.1 x.2.1 x.2.2.1 x.2.2.2.1⟩
abbrev l_arena_Arena_Add_0 (N : Nat) : LoopSpec E [0, 1] := ⟨0, h_arena_Arena_Add_0, e_arena_Arena_Add_0, fun x => g_arena_Arena_Add_0 N N x.1.1 x.1.2.1 x.2.1 x.2.2.1 x.2.2.2.1 x.2.2.2.2.1 x.2.2.2.2.2.1 x.2.2.2.2.2.2.1 x.2.2.2.2.2.2.2.1 x.2.2.2.2.2.2.2.2.1⟩

theorem cs_arena_Arena_Add_ok (S : Ini) (N : Nat) : CallsOK Go.Proofs.Tryd.prog E S (cs_arena_Arena_Add N) :=
  .cons (F_arena_Arena_find_ok S N) (.cons (F_arena_gap_ok S N) (.nil))
noncomputable abbrev b_arena_Arena_Add_0 : Code := (loopsOf b_arena_Arena_Add).getD 0 .skip
theorem g_arena_Arena_Add_0_ok (S : Ini) (N : Nat) : ∀ n x y, (fun (x : StV E [0, 1] h_arena_Arena_Add_0) => g_arena_Arena_Add_0 N n x.1.1 x.1.2.1 x.2.1 x.2.2.1 x.2.2.2.1 x.2.2.2.2.1 x.2.2.2.2.2.1 x.2.2.2.2.2.2.1 x.2.2.2.2.2.2.2.1 x.2.2.2.2.2.2.2.2.1) x = some y → LoopCon Go.Proofs.Tryd.prog E S b_arena_Arena_Add_0 (encSlots E [0, 1] h_arena_Arena_Add_0 x) (encEx E [0, 1] e_arena_Arena_Add_0 y).1 (encEx E [0, 1] e_arena_Arena_Add_0 y).2 :=
  loop_specJ E_ok mixed (E_ok.ks 10) (cs_arena_Arena_Add_ok S N) (all := loopsOf b_arena_Arena_Add) (ls := []) (.nil) (js := []) (i := 0) (by kernel_rfl) (inner_of (by kernel_rfl)) (head := h_arena_Arena_Add_0) (ex := e_arena_Arena_Add_0) (fun n (x : StV E [0, 1] h_arena_Arena_Add_0) => g_arena_Arena_Add_0 N n x.1.1 x.1.2.1 x.2.1 x.2.2.1 x.2.2.2.1 x.2.2.2.2.1 x.2.2.2.2.2.1 x.2.2.2.2.2.2.1 x.2.2.2.2.2.2.2.1 x.2.2.2.2.2.2.2.2.1) (fun _ => rfl) (fun n x => by kernel_rfl)
theorem F_arena_Arena_Add_ok (S : Ini) (N : Nat) : ∀ x y, (c_arena_Arena_Add N).g x = some y → FCon Go.Proofs.Tryd.prog E S 10 ps_arena_Arena_Add rs_arena_Arena_Add x y := by
  intro x y h
  exact fun_specJ E_ok mixed (cs_arena_Arena_Add_ok S N) (f := 10) (fi := ⟨b_arena_Arena_Add, 83, Go.Proofs.Tryd.f10.results.toList⟩) (by kernel_rfl) (ls := [l_arena_Arena_Add_0 N]) (.cons (by kernel_rfl) (g_arena_Arena_Add_0_ok S N N) (.nil)) (js := []) (by kernel_rfl) (ps := ps_arena_Arena_Add) (rs := rs_arena_Arena_Add) (Eq.trans (b := F_arena_Arena_Add N x.1.1 x.1.2.1 x.2.1 x.2.2.1 x.2.2.2.1) (by kernel_rfl) h)

/-! (*lodge/arena.Arena).Take -/

abbrev ps_arena_Arena_Take : List Ty := [(.hd 0), (.int .i64), (.int .i64)]
abbrev rs_arena_Arena_Take : List Slot := [.data (.int .i64), .data .err]
abbrev cs_arena_Arena_Take (N : Nat) : List (CallSpec E) := [c_arena_Arena_find N, c_arena_gap N]
noncomputable abbrev b_arena_Arena_Take : Code := ((Go.Proofs.Tryd.f11.body).getD .skip)

def F_arena_Arena_Take (N : Nat) (T0 : List (List Int × (List (Option Nat) × Unit))) (T1 : List (Int × (Int × (Int × (List ((Int × Int)) × Unit))))) (a_0 : Option Nat) (id_1 : Int) (n_2 : Int) : Option ((List (List Int × (List (Option Nat) × Unit)) × (List (Int × (Int × (Int × (List ((Int × Int)) × Unit)))) × Unit)) × (Int × (Er × Unit))) :=
  Option.bind (F_arena_Arena_find N T0 T1 a_0 id_1) fun y0 =>
  cond (@Option.isNone Nat ((y0).2).1)
    (
    some ((y0).1, ((0 : Int), ((Go.Eng.Er.s ErrNone), ()))))
    (
    cond (decide (n_2 < (1 : Int)))
      (
      some ((y0).1, ((0 : Int), ((Go.Eng.Er.s ErrRange), ()))))
      (
      cond (@Option.isSome Nat ((y0).2).1)
        (
        cond (@Option.isSome Nat ((y0).2).1)
          (
          cond (decide (((0 : Nat) + (List.length (((((List.getD (((y0).1).2).1 (@Option.getD Nat ((y0).2).1 (0 : Nat)) ((0 : Int), ((0 : Int), ((0 : Int), (([] : List (Int × Int)), ())))))).2).2).2).1)) ≤ (List.length (((((List.getD (((y0).1).2).1 (@Option.getD Nat ((y0).2).1 (0 : Nat)) ((0 : Int), ((0 : Int), ((0 : Int), (([] : List (Int × Int)), ())))))).2).2).2).1)))
            (
            Option.bind (F_arena_gap N (List.take (List.length (((((List.getD (((y0).1).2).1 (@Option.getD Nat ((y0).2).1 (0 : Nat)) ((0 : Int), ((0 : Int), ((0 : Int), (([] : List (Int × Int)), ())))))).2).2).2).1) (((((List.getD (((y0).1).2).1 (@Option.getD Nat ((y0).2).1 (0 : Nat)) ((0 : Int), ((0 : Int), ((0 : Int), (([] : List (Int × Int)), ())))))).2).2).2).1) ((((List.getD (((y0).1).2).1 (@Option.getD Nat ((y0).2).1 (0 : Nat)) ((0 : Int), ((0 : Int), ((0 : Int), (([] : List (Int × Int)), ())))))).2).2).1 n_2) fun y1 =>
            cond (Bool.not ((((y1).2).2).2).1)
              (
              some ((y0).1, ((0 : Int), ((Go.Eng.Er.s ErrRoom), ()))))
              (
              cond (@Option.isSome Nat ((y0).2).1)
                (
                cond (decide (((0 : Nat) + (List.length (((((List.getD (((y0).1).2).1 (@Option.getD Nat ((y0).2).1 (0 : Nat)) ((0 : Int), ((0 : Int), ((0 : Int), (([] : List (Int × Int)), ())))))).2).2).2).1)) = (List.length (((((List.getD (((y0).1).2).1 (@Option.getD Nat ((y0).2).1 (0 : Nat)) ((0 : Int), ((0 : Int), ((0 : Int), (([] : List (Int × Int)), ())))))).2).2).2).1)))
                  (
                  cond (decide ((0 : Int) ≤ (((y1).2).2).1))
                    (
                    cond (decide ((Int.toNat (((y1).2).2).1) ≤ (List.length (List.take (List.length (((((List.getD (((y0).1).2).1 (@Option.getD Nat ((y0).2).1 (0 : Nat)) ((0 : Int), ((0 : Int), ((0 : Int), (([] : List (Int × Int)), ())))))).2).2).2).1) (((((List.getD (((y0).1).2).1 (@Option.getD Nat ((y0).2).1 (0 : Nat)) ((0 : Int), ((0 : Int), ((0 : Int), (([] : List (Int × Int)), ())))))).2).2).2).1))))
                      (
                      cond (decide ((((List.length (List.take (List.length (((((List.getD (((y0).1).2).1 (@Option.getD Nat ((y0).2).1 (0 : Nat)) ((0 : Int), ((0 : Int), ((0 : Int), (([] : List (Int × Int)), ())))))).2).2).2).1) (((((List.getD (((y0).1).2).1 (@Option.getD Nat ((y0).2).1 (0 : Nat)) ((0 : Int), ((0 : Int), ((0 : Int), (([] : List (Int × Int)), ())))))).2).2).2).1)) + (1 : Nat)) * ((16 : Nat) + (1 : Nat))) ≤ Go.Eng.most))
                        (
                        cond (@Option.isSome Nat ((y0).2).1)
                          (
                          cond (decide (((0 : Nat) + ((List.length (List.take (List.length (((((List.getD (((y0).1).2).1 (@Option.getD Nat ((y0).2).1 (0 : Nat)) ((0 : Int), ((0 : Int), ((0 : Int), (([] : List (Int × Int)), ())))))).2).2).2).1) (((((List.getD (((y0).1).2).1 (@Option.getD Nat ((y0).2).1 (0 : Nat)) ((0 : Int), ((0 : Int), ((0 : Int), (([] : List (Int × Int)), ())))))).2).2).2).1)) + (1 : Nat))) ≤ (List.length (((List.take (Int.toNat (((y1).2).2).1) (List.take (List.length (((((List.getD (((y0).1).2).1 (@Option.getD Nat ((y0).2).1 (0 : Nat)) ((0 : Int), ((0 : Int), ((0 : Int), (([] : List (Int × Int)), ())))))).2).2).2).1) (((((List.getD (((y0).1).2).1 (@Option.getD Nat ((y0).2).1 (0 : Nat)) ((0 : Int), ((0 : Int), ((0 : Int), (([] : List (Int × Int)), ())))))).2).2).2).1)) ++ ((((y1).2).1, n_2) :: ([] : List (Int × Int)))) ++ (List.drop (Int.toNat (((y1).2).2).1) (List.take (List.length (((((List.getD (((y0).1).2).1 (@Option.getD Nat ((y0).2).1 (0 : Nat)) ((0 : Int), ((0 : Int), ((0 : Int), (([] : List (Int × Int)), ())))))).2).2).2).1) (((((List.getD (((y0).1).2).1 (@Option.getD Nat ((y0).2).1 (0 : Nat)) ((0 : Int), ((0 : Int), ((0 : Int), (([] : List (Int × Int)), ())))))).2).2).2).1))))))
                            (
                            cond (decide ((@Option.getD Nat ((y0).2).1 (0 : Nat)) = (@Option.getD Nat ((y0).2).1 (0 : Nat))))
                              (
                              some ((((y0).1).1, ((List.set (((y0).1).2).1 (@Option.getD Nat ((y0).2).1 (0 : Nat)) (((List.getD (((y0).1).2).1 (@Option.getD Nat ((y0).2).1 (0 : Nat)) ((0 : Int), ((0 : Int), ((0 : Int), (([] : List (Int × Int)), ())))))).1, ((((List.getD (((y0).1).2).1 (@Option.getD Nat ((y0).2).1 (0 : Nat)) ((0 : Int), ((0 : Int), ((0 : Int), (([] : List (Int × Int)), ())))))).2).1, (((((List.getD (((y0).1).2).1 (@Option.getD Nat ((y0).2).1 (0 : Nat)) ((0 : Int), ((0 : Int), ((0 : Int), (([] : List (Int × Int)), ())))))).2).2).1, ((List.take ((List.length (List.take (List.length (((((List.getD (((y0).1).2).1 (@Option.getD Nat ((y0).2).1 (0 : Nat)) ((0 : Int), ((0 : Int), ((0 : Int), (([] : List (Int × Int)), ())))))).2).2).2).1) (((((List.getD (((y0).1).2).1 (@Option.getD Nat ((y0).2).1 (0 : Nat)) ((0 : Int), ((0 : Int), ((0 : Int), (([] : List (Int × Int)), ())))))).2).2).2).1)) + (1 : Nat)) (((List.take (Int.toNat (((y1).2).2).1) (List.take (List.length (((((List.getD (((y0).1).2).1 (@Option.getD Nat ((y0).2).1 (0 : Nat)) ((0 : Int), ((0 : Int), ((0 : Int), (([] : List (Int × Int)), ())))))).2).2).2).1) (((((List.getD (((y0).1).2).1 (@Option.getD Nat ((y0).2).1 (0 : Nat)) ((0 : Int), ((0 : Int), ((0 : Int), (([] : List (Int × Int)), ())))))).2).2).2).1)) ++ ((((y1).2).1, n_2) :: ([] : List (Int × Int)))) ++ (List.drop (Int.toNat (((y1).2).2).1) (List.take (List.length (((((List.getD (((y0).1).2).1 (@Option.getD Nat ((y0).2).1 (0 : Nat)) ((0 : Int), ((0 : Int), ((0 : Int), (([] : List (Int × Int)), ())))))).2).2).2).1) (((((List.getD (((y0).1).2).1 (@Option.getD Nat ((y0).2).1 (0 : Nat)) ((0 : Int), ((0 : Int), ((0 : Int), (([] : List (Int × Int)), ())))))).2).2).2).1)))), (((((List.getD (((y0).1).2).1 (@Option.getD Nat ((y0).2).1 (0 : Nat)) ((0 : Int), ((0 : Int), ((0 : Int), (([] : List (Int × Int)), ())))))).2).2).2).2))))), ())), (((y1).2).1, (Go.Eng.Er.nil, ()))))
                              (
                              none))
                            (
                            none))
                          (
                          none))
                        (
                        none))
                      (
                      none))
                    (
                    none))
                  (
                  none))
                (
                none)))
            (
            none))
          (
          none))
        (
        none)))

abbrev c_arena_Arena_Take (N : Nat) : CallSpec E := ⟨11, ps_arena_Arena_Take, rs_arena_Arena_Take, fun x => F_arena_Arena_Take N x.1.1 x.1.2.1 x.2.1 x.2.2.1 x.2.2.2.1⟩

theorem cs_arena_Arena_Take_ok (S : Ini) (N : Nat) : CallsOK Go.Proofs.Tryd.prog E S (cs_arena_Arena_Take N) :=
  .cons (F_arena_Arena_find_ok S N) (.cons (F_arena_gap_ok S N) (.nil))
theorem F_arena_Arena_Take_ok (S : Ini) (N : Nat) : ∀ x y, (c_arena_Arena_Take N).g x = some y → FCon Go.Proofs.Tryd.prog E S 11 ps_arena_Arena_Take rs_arena_Arena_Take x y := by
  intro x y h
  exact fun_specJ E_ok mixed (cs_arena_Arena_Take_ok S N) (f := 11) (fi := ⟨b_arena_Arena_Take, 53, Go.Proofs.Tryd.f11.results.toList⟩) (by kernel_rfl) (ls := []) (.nil) (js := []) (by kernel_rfl) (ps := ps_arena_Arena_Take) (rs := rs_arena_Arena_Take) (Eq.trans (b := F_arena_Arena_Take N x.1.1 x.1.2.1 x.2.1 x.2.2.1 x.2.2.2.1) (by kernel_rfl) h)

/-! (*lodge/arena.Arena).Drop$1 -/

abbrev ps_arena_Arena_Drop_1 : List Ty := [(.st (.pair (.int .i64) (.int .i64))), (.ref (.int .i64))]
abbrev rs_arena_Arena_Drop_1 : List Slot := [.data .bool]
abbrev cs_arena_Arena_Drop_1 (N : Nat) : List (CallSpec E) := []
noncomputable abbrev b_arena_Arena_Drop_1 : Code := ((Go.Proofs.Tryd.f29.body).getD .skip)

def F_arena_Arena_Drop_1 (N : Nat) (x_0 : (Int × Int)) (t_1 : Int) : Option (Unit × (Bool × Unit)) :=
  some ((), ((decide ((x_0).1 = t_1)), ()))

abbrev c_arena_Arena_Drop_1 (N : Nat) : CallSpec E := ⟨29, ps_arena_Arena_Drop_1, rs_arena_Arena_Drop_1, fun x => F_arena_Arena_Drop_1 N x.2.1 x.2.2.1⟩

theorem cs_arena_Arena_Drop_1_ok (S : Ini) (N : Nat) : CallsOK Go.Proofs.Tryd.prog E S (cs_arena_Arena_Drop_1 N) :=
  .nil
theorem F_arena_Arena_Drop_1_ok (S : Ini) (N : Nat) : ∀ x y, (c_arena_Arena_Drop_1 N).g x = some y → FCon Go.Proofs.Tryd.prog E S 29 ps_arena_Arena_Drop_1 rs_arena_Arena_Drop_1 x y := by
  intro x y h
  exact fun_specJ E_ok mixed (cs_arena_Arena_Drop_1_ok S N) (f := 29) (fi := ⟨b_arena_Arena_Drop_1, 8, Go.Proofs.Tryd.f29.results.toList⟩) (by kernel_rfl) (ls := []) (.nil) (js := []) (by kernel_rfl) (ps := ps_arena_Arena_Drop_1) (rs := rs_arena_Arena_Drop_1) (Eq.trans (b := F_arena_Arena_Drop_1 N x.2.1 x.2.2.1) (by kernel_rfl) h)

/-! slices.IndexFunc[[]lodge/arena.block,lodge/arena.block] -/

abbrev ps_slices_IndexFunc_arena_block : List Ty := [(.sl (.st (.pair (.int .i64) (.int .i64)))), (.clo 29 (.ref (.int .i64)))]
abbrev rs_slices_IndexFunc_arena_block : List Slot := [.data (.int .i64)]
abbrev cs_slices_IndexFunc_arena_block (N : Nat) : List (CallSpec E) := [c_arena_Arena_Drop_1 N]
noncomputable abbrev b_slices_IndexFunc_arena_block : Code := ((Go.Proofs.Tryd.f28.body).getD .skip)

abbrev h_slices_IndexFunc_arena_block_0 : List Slot := [.data (.sl (.st (.pair (.int .i64) (.int .i64)))), .data (.clo 29 (.ref (.int .i64))), .dead, .dead, .dead, .dead, .dead, .data (.int .i64), .data (.int .i64), .dead, .dead, .dead, .dead, .dead, .dead, .dead, .dead, .dead, .dead]
abbrev e_slices_IndexFunc_arena_block_0 : List (AX × List Slot) := [(AX.exit 0, [.dead, .dead, .dead, .dead, .dead, .dead, .dead, .dead, .dead, .dead, .dead, .dead, .dead, .dead, .dead, .dead, .dead, .dead, .dead]), (AX.ret, [.dead, .dead, .dead, .dead, .data (.int .i64), .dead, .dead, .dead, .dead, .dead, .dead, .dead, .dead, .dead, .dead, .dead, .dead, .dead, .dead])]
def g_slices_IndexFunc_arena_block_0 (N : Nat) : Nat → List ((Int × Int)) → Int → Int → Int → Option (Sum (Unit × Unit) (Unit × (Int × Unit)))
  | 0, _, _, _, _ => none
  | n + 1, s_0, f_1, t_7, t_8 =>
    cond (decide (t_8 < t_7))
      (
      cond (decide ((0 : Int) ≤ t_8))
        (
        cond (decide ((Int.toNat t_8) < (List.length s_0)))
          (
          Option.bind (F_arena_Arena_Drop_1 N (List.getD s_0 (Int.toNat t_8) ((0 : Int), (0 : Int))) f_1) fun y1 =>
          cond ((y1).2).1
            (
            some (Sum.inr ((), (t_8, ()))))
            (
            (g_slices_IndexFunc_arena_block_0 N n s_0 f_1 t_7 (wi64 (t_8 + (1 : Int))))))
          (
          none))
        (
        none))
      (
      some (Sum.inl ((), ())))

def F_slices_IndexFunc_arena_block (N : Nat) (s_0 : List ((Int × Int))) (f_1 : Int) : Option (Unit × (Int × Unit)) :=
  Option.bind (g_slices_IndexFunc_arena_block_0 N N s_0 f_1 (Nat.cast (List.length s_0) : Int) (0 : Int)) fun y0 =>
  Sum.elim (fun y1 =>
    some ((), ((-(1 : Int)), ())))
    (fun y2 =>
    some ((), (y2).2)) y0

abbrev c_slices_IndexFunc_arena_block (N : Nat) : CallSpec E := ⟨28, ps_slices_IndexFunc_arena_block, rs_slices_IndexFunc_arena_block, fun x => F_slices_IndexFunc_arena_block N x.2.1 x.2.2.1⟩
abbrev l_slices_IndexFunc_arena_block_0 (N : Nat) : LoopSpec E [] := ⟨0, h_slices_IndexFunc_arena_block_0, e_slices_IndexFunc_arena_block_0, fun x => g_slices_IndexFunc_arena_block_0 N N x.2.1 x.2.2.1 x.2.2.2.1 x.2.2.2.2.1⟩

theorem cs_slices_IndexFunc_arena_block_ok (S : Ini) (N : Nat) : CallsOK Go.Proofs.Tryd.prog E S (cs_slices_IndexFunc_arena_block N) :=
  .cons (F_arena_Arena_Drop_1_ok S N) (.nil)
noncomputable abbrev b_slices_IndexFunc_arena_block_0 : Code := (loopsOf b_slices_IndexFunc_arena_block).getD 0 .skip
theorem g_slices_IndexFunc_arena_block_0_ok (S : Ini) (N : Nat) : ∀ n x y, (fun (x : StV E [] h_slices_IndexFunc_arena_block_0) => g_slices_IndexFunc_arena_block_0 N n x.2.1 x.2.2.1 x.2.2.2.1 x.2.2.2.2.1) x = some y → LoopCon Go.Proofs.Tryd.prog E S b_slices_IndexFunc_arena_block_0 (encSlots E [] h_slices_IndexFunc_arena_block_0 x) (encEx E [] e_slices_IndexFunc_arena_block_0 y).1 (encEx E [] e_slices_IndexFunc_arena_block_0 y).2 :=
  loop_specJ E_ok mixed (E_ok.ks 28) (cs_slices_IndexFunc_arena_block_ok S N) (all := loopsOf b_slices_IndexFunc_arena_block) (ls := []) (.nil) (js := []) (i := 0) (by kernel_rfl) (inner_of (by kernel_rfl)) (head := h_slices_IndexFunc_arena_block_0) (ex := e_slices_IndexFunc_arena_block_0) (fun n (x : StV E [] h_slices_IndexFunc_arena_block_0) => g_slices_IndexFunc_arena_block_0 N n x.2.1 x.2.2.1 x.2.2.2.1 x.2.2.2.2.1) (fun _ => rfl) (fun n x => by kernel_rfl)
theorem F_slices_IndexFunc_arena_block_ok (S : Ini) (N : Nat) : ∀ x y, (c_slices_IndexFunc_arena_block N).g x = some y → FCon Go.Proofs.Tryd.prog E S 28 ps_slices_IndexFunc_arena_block rs_slices_IndexFunc_arena_block x y := by
  intro x y h
  exact fun_specJ E_ok mixed (cs_slices_IndexFunc_arena_block_ok S N) (f := 28) (fi := ⟨b_slices_IndexFunc_arena_block, 19, Go.Proofs.Tryd.f28.results.toList⟩) (by kernel_rfl) (ls := [l_slices_IndexFunc_arena_block_0 N]) (.cons (by kernel_rfl) (g_slices_IndexFunc_arena_block_0_ok S N N) (.nil)) (js := []) (by kernel_rfl) (ps := ps_slices_IndexFunc_arena_block) (rs := rs_slices_IndexFunc_arena_block) (Eq.trans (b := F_slices_IndexFunc_arena_block N x.2.1 x.2.2.1) (by kernel_rfl) h)

/-! (*lodge/arena.Arena).Drop -/

abbrev ps_arena_Arena_Drop : List Ty := [(.hd 0), (.int .i64), (.int .i64)]
abbrev rs_arena_Arena_Drop : List Slot := [.data .bool]
abbrev cs_arena_Arena_Drop (N : Nat) : List (CallSpec E) := [c_arena_Arena_find N, c_arena_Arena_Drop_1 N, c_slices_IndexFunc_arena_block N]
noncomputable abbrev b_arena_Arena_Drop : Code := ((Go.Proofs.Tryd.f14.body).getD .skip)

def F_arena_Arena_Drop (N : Nat) (T0 : List (List Int × (List (Option Nat) × Unit))) (T1 : List (Int × (Int × (Int × (List ((Int × Int)) × Unit))))) (a_0 : Option Nat) (id_1 : Int) (off_2 : Int) : Option ((List (List Int × (List (Option Nat) × Unit)) × (List (Int × (Int × (Int × (List ((Int × Int)) × Unit)))) × Unit)) × (Bool × Unit)) :=
  Option.bind (F_arena_Arena_find N T0 T1 a_0 id_1) fun y0 =>
  cond (@Option.isNone Nat ((y0).2).1)
    (
    some ((y0).1, (false, ())))
    (
    cond (@Option.isSome Nat ((y0).2).1)
      (
      cond (decide (((0 : Nat) + (List.length (((((List.getD (((y0).1).2).1 (@Option.getD Nat ((y0).2).1 (0 : Nat)) ((0 : Int), ((0 : Int), ((0 : Int), (([] : List (Int × Int)), ())))))).2).2).2).1)) ≤ (List.length (((((List.getD (((y0).1).2).1 (@Option.getD Nat ((y0).2).1 (0 : Nat)) ((0 : Int), ((0 : Int), ((0 : Int), (([] : List (Int × Int)), ())))))).2).2).2).1)))
        (
        Option.bind (F_slices_IndexFunc_arena_block N (List.take (List.length (((((List.getD (((y0).1).2).1 (@Option.getD Nat ((y0).2).1 (0 : Nat)) ((0 : Int), ((0 : Int), ((0 : Int), (([] : List (Int × Int)), ())))))).2).2).2).1) (((((List.getD (((y0).1).2).1 (@Option.getD Nat ((y0).2).1 (0 : Nat)) ((0 : Int), ((0 : Int), ((0 : Int), (([] : List (Int × Int)), ())))))).2).2).2).1) off_2) fun y1 =>
        cond (decide (((y1).2).1 < (0 : Int)))
          (
          some ((y0).1, (false, ())))
          (
          cond (@Option.isSome Nat a_0)
            (
            cond (@Option.isSome Nat ((y0).2).1)
              (
              cond (@Option.isSome Nat ((y0).2).1)
                (
                cond (@Option.isSome Nat ((y0).2).1)
                  (
                  cond (decide ((0 : Int) ≤ ((y1).2).1))
                    (
                    cond (decide ((Int.toNat ((y1).2).1) < (List.length (((((List.getD (((y0).1).2).1 (@Option.getD Nat ((y0).2).1 (0 : Nat)) ((0 : Int), ((0 : Int), ((0 : Int), (([] : List (Int × Int)), ())))))).2).2).2).1)))
                      (
                      cond (decide (((0 : Nat) + (Int.toNat ((y1).2).1)) < (List.length (((((List.getD (((y0).1).2).1 (@Option.getD Nat ((y0).2).1 (0 : Nat)) ((0 : Int), ((0 : Int), ((0 : Int), (([] : List (Int × Int)), ())))))).2).2).2).1)))
                        (
                        cond (decide ((0 : Int) ≤ (wi64 ((((List.getD (((y0).1).2).1 (@Option.getD Nat ((y0).2).1 (0 : Nat)) ((0 : Int), ((0 : Int), ((0 : Int), (([] : List (Int × Int)), ())))))).2).1 + off_2))))
                          (
                          cond (decide ((0 : Int) ≤ (wi64 ((wi64 ((((List.getD (((y0).1).2).1 (@Option.getD Nat ((y0).2).1 (0 : Nat)) ((0 : Int), ((0 : Int), ((0 : Int), (([] : List (Int × Int)), ())))))).2).1 + off_2)) + ((List.getD (((((List.getD (((y0).1).2).1 (@Option.getD Nat ((y0).2).1 (0 : Nat)) ((0 : Int), ((0 : Int), ((0 : Int), (([] : List (Int × Int)), ())))))).2).2).2).1 ((0 : Nat) + (Int.toNat ((y1).2).1)) ((0 : Int), (0 : Int)))).2))))
                            (
                            cond (decide ((Int.toNat (wi64 ((((List.getD (((y0).1).2).1 (@Option.getD Nat ((y0).2).1 (0 : Nat)) ((0 : Int), ((0 : Int), ((0 : Int), (([] : List (Int × Int)), ())))))).2).1 + off_2))) ≤ (Int.toNat (wi64 ((wi64 ((((List.getD (((y0).1).2).1 (@Option.getD Nat ((y0).2).1 (0 : Nat)) ((0 : Int), ((0 : Int), ((0 : Int), (([] : List (Int × Int)), ())))))).2).1 + off_2)) + ((List.getD (((((List.getD (((y0).1).2).1 (@Option.getD Nat ((y0).2).1 (0 : Nat)) ((0 : Int), ((0 : Int), ((0 : Int), (([] : List (Int × Int)), ())))))).2).2).2).1 ((0 : Nat) + (Int.toNat ((y1).2).1)) ((0 : Int), (0 : Int)))).2)))))
                              (
                              cond (decide ((Int.toNat (wi64 ((wi64 ((((List.getD (((y0).1).2).1 (@Option.getD Nat ((y0).2).1 (0 : Nat)) ((0 : Int), ((0 : Int), ((0 : Int), (([] : List (Int × Int)), ())))))).2).1 + off_2)) + ((List.getD (((((List.getD (((y0).1).2).1 (@Option.getD Nat ((y0).2).1 (0 : Nat)) ((0 : Int), ((0 : Int), ((0 : Int), (([] : List (Int × Int)), ())))))).2).2).2).1 ((0 : Nat) + (Int.toNat ((y1).2).1)) ((0 : Int), (0 : Int)))).2))) ≤ (List.length ((List.getD ((y0).1).1 (@Option.getD Nat a_0 (0 : Nat)) (([] : List Int), (([] : List (Option Nat)), ())))).1)))
                                (
                                cond (decide ((((0 : Nat) + (Int.toNat (wi64 ((((List.getD (((y0).1).2).1 (@Option.getD Nat ((y0).2).1 (0 : Nat)) ((0 : Int), ((0 : Int), ((0 : Int), (([] : List (Int × Int)), ())))))).2).1 + off_2)))) + ((Int.toNat (wi64 ((wi64 ((((List.getD (((y0).1).2).1 (@Option.getD Nat ((y0).2).1 (0 : Nat)) ((0 : Int), ((0 : Int), ((0 : Int), (([] : List (Int × Int)), ())))))).2).1 + off_2)) + ((List.getD (((((List.getD (((y0).1).2).1 (@Option.getD Nat ((y0).2).1 (0 : Nat)) ((0 : Int), ((0 : Int), ((0 : Int), (([] : List (Int × Int)), ())))))).2).2).2).1 ((0 : Nat) + (Int.toNat ((y1).2).1)) ((0 : Int), (0 : Int)))).2))) - (Int.toNat (wi64 ((((List.getD (((y0).1).2).1 (@Option.getD Nat ((y0).2).1 (0 : Nat)) ((0 : Int), ((0 : Int), ((0 : Int), (([] : List (Int × Int)), ())))))).2).1 + off_2))))) ≤ (List.length ((List.getD ((y0).1).1 (@Option.getD Nat a_0 (0 : Nat)) (([] : List Int), (([] : List (Option Nat)), ())))).1)))
                                  (
                                  cond (@Option.isSome Nat ((y0).2).1)
                                    (
                                    cond (decide (((0 : Nat) + (List.length (((((List.getD (((y0).1).2).1 (@Option.getD Nat ((y0).2).1 (0 : Nat)) ((0 : Int), ((0 : Int), ((0 : Int), (([] : List (Int × Int)), ())))))).2).2).2).1)) = (List.length (((((List.getD (((y0).1).2).1 (@Option.getD Nat ((y0).2).1 (0 : Nat)) ((0 : Int), ((0 : Int), ((0 : Int), (([] : List (Int × Int)), ())))))).2).2).2).1)))
                                      (
                                      cond (decide ((0 : Nat) < (List.length (List.take (List.length (((((List.getD (((y0).1).2).1 (@Option.getD Nat ((y0).2).1 (0 : Nat)) ((0 : Int), ((0 : Int), ((0 : Int), (([] : List (Int × Int)), ())))))).2).2).2).1) (((((List.getD (((y0).1).2).1 (@Option.getD Nat ((y0).2).1 (0 : Nat)) ((0 : Int), ((0 : Int), ((0 : Int), (([] : List (Int × Int)), ())))))).2).2).2).1))))
                                        (
                                        cond (decide ((0 : Int) ≤ ((y1).2).1))
                                          (
                                          cond (decide ((Int.toNat ((y1).2).1) ≤ (Int.toNat (wi64 (((y1).2).1 + (1 : Int))))))
                                            (
                                            cond (decide ((0 : Int) ≤ (wi64 (((y1).2).1 + (1 : Int)))))
                                              (
                                              cond (decide ((Int.toNat (wi64 (((y1).2).1 + (1 : Int)))) ≤ (List.length (List.take (List.length (((((List.getD (((y0).1).2).1 (@Option.getD Nat ((y0).2).1 (0 : Nat)) ((0 : Int), ((0 : Int), ((0 : Int), (([] : List (Int × Int)), ())))))).2).2).2).1) (((((List.getD (((y0).1).2).1 (@Option.getD Nat ((y0).2).1 (0 : Nat)) ((0 : Int), ((0 : Int), ((0 : Int), (([] : List (Int × Int)), ())))))).2).2).2).1))))
                                                (
                                                cond (@Option.isSome Nat ((y0).2).1)
                                                  (
                                                  cond (decide (((0 : Nat) + ((List.length (List.take (List.length (((((List.getD (((y0).1).2).1 (@Option.getD Nat ((y0).2).1 (0 : Nat)) ((0 : Int), ((0 : Int), ((0 : Int), (([] : List (Int × Int)), ())))))).2).2).2).1) (((((List.getD (((y0).1).2).1 (@Option.getD Nat ((y0).2).1 (0 : Nat)) ((0 : Int), ((0 : Int), ((0 : Int), (([] : List (Int × Int)), ())))))).2).2).2).1)) - ((Int.toNat (wi64 (((y1).2).1 + (1 : Int)))) - (Int.toNat ((y1).2).1)))) ≤ (List.length ((List.take (Int.toNat ((y1).2).1) (List.take (List.length (((((List.getD (((y0).1).2).1 (@Option.getD Nat ((y0).2).1 (0 : Nat)) ((0 : Int), ((0 : Int), ((0 : Int), (([] : List (Int × Int)), ())))))).2).2).2).1) (((((List.getD (((y0).1).2).1 (@Option.getD Nat ((y0).2).1 (0 : Nat)) ((0 : Int), ((0 : Int), ((0 : Int), (([] : List (Int × Int)), ())))))).2).2).2).1)) ++ (List.drop (Int.toNat (wi64 (((y1).2).1 + (1 : Int)))) (List.take (List.length (((((List.getD (((y0).1).2).1 (@Option.getD Nat ((y0).2).1 (0 : Nat)) ((0 : Int), ((0 : Int), ((0 : Int), (([] : List (Int × Int)), ())))))).2).2).2).1) (((((List.getD (((y0).1).2).1 (@Option.getD Nat ((y0).2).1 (0 : Nat)) ((0 : Int), ((0 : Int), ((0 : Int), (([] : List (Int × Int)), ())))))).2).2).2).1))))))
                                                    (
                                                    cond (decide ((@Option.getD Nat ((y0).2).1 (0 : Nat)) = (@Option.getD Nat ((y0).2).1 (0 : Nat))))
                                                      (
                                                      some (((List.set ((y0).1).1 (@Option.getD Nat a_0 (0 : Nat)) ((((List.take ((0 : Nat) + (Int.toNat (wi64 ((((List.getD (((y0).1).2).1 (@Option.getD Nat ((y0).2).1 (0 : Nat)) ((0 : Int), ((0 : Int), ((0 : Int), (([] : List (Int × Int)), ())))))).2).1 + off_2)))) ((List.getD ((y0).1).1 (@Option.getD Nat a_0 (0 : Nat)) (([] : List Int), (([] : List (Option Nat)), ())))).1) ++ (List.replicate ((Int.toNat (wi64 ((wi64 ((((List.getD (((y0).1).2).1 (@Option.getD Nat ((y0).2).1 (0 : Nat)) ((0 : Int), ((0 : Int), ((0 : Int), (([] : List (Int × Int)), ())))))).2).1 + off_2)) + ((List.getD (((((List.getD (((y0).1).2).1 (@Option.getD Nat ((y0).2).1 (0 : Nat)) ((0 : Int), ((0 : Int), ((0 : Int), (([] : List (Int × Int)), ())))))).2).2).2).1 ((0 : Nat) + (Int.toNat ((y1).2).1)) ((0 : Int), (0 : Int)))).2))) - (Int.toNat (wi64 ((((List.getD (((y0).1).2).1 (@Option.getD Nat ((y0).2).1 (0 : Nat)) ((0 : Int), ((0 : Int), ((0 : Int), (([] : List (Int × Int)), ())))))).2).1 + off_2)))) (0 : Int))) ++ (List.drop (((0 : Nat) + (Int.toNat (wi64 ((((List.getD (((y0).1).2).1 (@Option.getD Nat ((y0).2).1 (0 : Nat)) ((0 : Int), ((0 : Int), ((0 : Int), (([] : List (Int × Int)), ())))))).2).1 + off_2)))) + ((Int.toNat (wi64 ((wi64 ((((List.getD (((y0).1).2).1 (@Option.getD Nat ((y0).2).1 (0 : Nat)) ((0 : Int), ((0 : Int), ((0 : Int), (([] : List (Int × Int)), ())))))).2).1 + off_2)) + ((List.getD (((((List.getD (((y0).1).2).1 (@Option.getD Nat ((y0).2).1 (0 : Nat)) ((0 : Int), ((0 : Int), ((0 : Int), (([] : List (Int × Int)), ())))))).2).2).2).1 ((0 : Nat) + (Int.toNat ((y1).2).1)) ((0 : Int), (0 : Int)))).2))) - (Int.toNat (wi64 ((((List.getD (((y0).1).2).1 (@Option.getD Nat ((y0).2).1 (0 : Nat)) ((0 : Int), ((0 : Int), ((0 : Int), (([] : List (Int × Int)), ())))))).2).1 + off_2))))) ((List.getD ((y0).1).1 (@Option.getD Nat a_0 (0 : Nat)) (([] : List Int), (([] : List (Option Nat)), ())))).1)), ((List.getD ((y0).1).1 (@Option.getD Nat a_0 (0 : Nat)) (([] : List Int), (([] : List (Option Nat)), ())))).2)), ((List.set (((y0).1).2).1 (@Option.getD Nat ((y0).2).1 (0 : Nat)) (((List.getD (((y0).1).2).1 (@Option.getD Nat ((y0).2).1 (0 : Nat)) ((0 : Int), ((0 : Int), ((0 : Int), (([] : List (Int × Int)), ())))))).1, ((((List.getD (((y0).1).2).1 (@Option.getD Nat ((y0).2).1 (0 : Nat)) ((0 : Int), ((0 : Int), ((0 : Int), (([] : List (Int × Int)), ())))))).2).1, (((((List.getD (((y0).1).2).1 (@Option.getD Nat ((y0).2).1 (0 : Nat)) ((0 : Int), ((0 : Int), ((0 : Int), (([] : List (Int × Int)), ())))))).2).2).1, ((List.take ((List.length (List.take (List.length (((((List.getD (((y0).1).2).1 (@Option.getD Nat ((y0).2).1 (0 : Nat)) ((0 : Int), ((0 : Int), ((0 : Int), (([] : List (Int × Int)), ())))))).2).2).2).1) (((((List.getD (((y0).1).2).1 (@Option.getD Nat ((y0).2).1 (0 : Nat)) ((0 : Int), ((0 : Int), ((0 : Int), (([] : List (Int × Int)), ())))))).2).2).2).1)) - ((Int.toNat (wi64 (((y1).2).1 + (1 : Int)))) - (Int.toNat ((y1).2).1))) ((List.take (Int.toNat ((y1).2).1) (List.take (List.length (((((List.getD (((y0).1).2).1 (@Option.getD Nat ((y0).2).1 (0 : Nat)) ((0 : Int), ((0 : Int), ((0 : Int), (([] : List (Int × Int)), ())))))).2).2).2).1) (((((List.getD (((y0).1).2).1 (@Option.getD Nat ((y0).2).1 (0 : Nat)) ((0 : Int), ((0 : Int), ((0 : Int), (([] : List (Int × Int)), ())))))).2).2).2).1)) ++ (List.drop (Int.toNat (wi64 (((y1).2).1 + (1 : Int)))) (List.take (List.length (((((List.getD (((y0).1).2).1 (@Option.getD Nat ((y0).2).1 (0 : Nat)) ((0 : Int), ((0 : Int), ((0 : Int), (([] : List (Int × Int)), ())))))).2).2).2).1) (((((List.getD (((y0).1).2).1 (@Option.getD Nat ((y0).2).1 (0 : Nat)) ((0 : Int), ((0 : Int), ((0 : Int), (([] : List (Int × Int)), ())))))).2).2).2).1)))), (((((List.getD (((y0).1).2).1 (@Option.getD Nat ((y0).2).1 (0 : Nat)) ((0 : Int), ((0 : Int), ((0 : Int), (([] : List (Int × Int)), ())))))).2).2).2).2))))), ())), (true, ())))
                                                      (
                                                      none))
                                                    (
                                                    none))
                                                  (
                                                  none))
                                                (
                                                none))
                                              (
                                              none))
                                            (
                                            none))
                                          (
                                          none))
                                        (
                                        none))
                                      (
                                      none))
                                    (
                                    none))
                                  (
                                  none))
                                (
                                none))
                              (
                              none))
                            (
                            none))
                          (
                          none))
                        (
                        none))
                      (
                      none))
                    (
                    none))
                  (
                  none))
                (
                none))
              (
              none))
            (
            none)))
        (
        none))
      (
      none))

abbrev c_arena_Arena_Drop (N : Nat) : CallSpec E := ⟨14, ps_arena_Arena_Drop, rs_arena_Arena_Drop, fun x => F_arena_Arena_Drop N x.1.1 x.1.2.1 x.2.1 x.2.2.1 x.2.2.2.1⟩

theorem cs_arena_Arena_Drop_ok (S : Ini) (N : Nat) : CallsOK Go.Proofs.Tryd.prog E S (cs_arena_Arena_Drop N) :=
  .cons (F_arena_Arena_find_ok S N) (.cons (F_arena_Arena_Drop_1_ok S N) (.cons (F_slices_IndexFunc_arena_block_ok S N) (.nil)))
theorem F_arena_Arena_Drop_ok (S : Ini) (N : Nat) : ∀ x y, (c_arena_Arena_Drop N).g x = some y → FCon Go.Proofs.Tryd.prog E S 14 ps_arena_Arena_Drop rs_arena_Arena_Drop x y := by
  intro x y h
  exact fun_specJ E_ok mixed (cs_arena_Arena_Drop_ok S N) (f := 14) (fi := ⟨b_arena_Arena_Drop, 61, Go.Proofs.Tryd.f14.results.toList⟩) (by kernel_rfl) (ls := []) (.nil) (js := []) (by kernel_rfl) (ps := ps_arena_Arena_Drop) (rs := rs_arena_Arena_Drop) (Eq.trans (b := F_arena_Arena_Drop N x.1.1 x.1.2.1 x.2.1 x.2.2.1 x.2.2.2.1) (by kernel_rfl) h)

/-! lodge/lodgelaw13.first -/

abbrev ps_lodgelaw13_first : List Ty := []
abbrev rs_lodgelaw13_first : List Slot := [.data .bool]
abbrev cs_lodgelaw13_first (N : Nat) : List (CallSpec E) := [c_arena_New N, c_arena_Arena_Add N, c_arena_Arena_Take N, c_arena_Arena_Drop N]
noncomputable abbrev b_lodgelaw13_first : Code := ((Go.Proofs.Tryd.f7.body).getD .skip)

def F_lodgelaw13_first (N : Nat) (T0 : List (List Int × (List (Option Nat) × Unit))) (T1 : List (Int × (Int × (Int × (List ((Int × Int)) × Unit))))) : Option ((List (List Int × (List (Option Nat) × Unit)) × (List (Int × (Int × (Int × (List ((Int × Int)) × Unit)))) × Unit)) × (Bool × Unit)) :=
  Option.bind (F_arena_New N T0 T1 (100 : Int)) fun y0 =>
  cond (@Option.isNone Nat ((y0).2).1)
    (
    some ((y0).1, (false, ())))
    (
    cond (Bool.not (Go.Eng.Er.isNil (((y0).2).2).1))
      (
      some ((y0).1, (false, ())))
      (
      Option.bind (F_arena_Arena_Add N ((y0).1).1 (((y0).1).2).1 ((y0).2).1 (1 : Int) (50 : Int)) fun y1 =>
      Option.bind (F_arena_Arena_Take N ((y1).1).1 (((y1).1).2).1 ((y0).2).1 (1 : Int) (4 : Int)) fun y2 =>
      Option.bind (F_arena_Arena_Take N ((y2).1).1 (((y2).1).2).1 ((y0).2).1 (1 : Int) (4 : Int)) fun y3 =>
      Option.bind (F_arena_Arena_Drop N ((y3).1).1 (((y3).1).2).1 ((y0).2).1 (1 : Int) ((y2).2).1) fun y4 =>
      Option.bind (F_arena_Arena_Take N ((y4).1).1 (((y4).1).2).1 ((y0).2).1 (1 : Int) (2 : Int)) fun y5 =>
      cond (Go.Eng.Er.isNil (((y1).2).2).1)
        (
        cond (Go.Eng.Er.isNil (((y2).2).2).1)
          (
          cond (Go.Eng.Er.isNil (((y3).2).2).1)
            (
            cond (Go.Eng.Er.isNil (((y5).2).2).1)
              (
              cond ((y4).2).1
                (
                cond (decide (((y2).2).1 = (0 : Int)))
                  (
                  cond (decide (((y3).2).1 = (4 : Int)))
                    (
                    some ((y5).1, ((decide (((y5).2).1 = (0 : Int))), ())))
                    (
                    some ((y5).1, (false, ()))))
                  (
                  some ((y5).1, (false, ()))))
                (
                some ((y5).1, (false, ()))))
              (
              some ((y5).1, (false, ()))))
            (
            some ((y5).1, (false, ()))))
          (
          some ((y5).1, (false, ()))))
        (
        some ((y5).1, (false, ())))))

abbrev c_lodgelaw13_first (N : Nat) : CallSpec E := ⟨7, ps_lodgelaw13_first, rs_lodgelaw13_first, fun x => F_lodgelaw13_first N x.1.1 x.1.2.1⟩

theorem cs_lodgelaw13_first_ok (S : Ini) (N : Nat) : CallsOK Go.Proofs.Tryd.prog E S (cs_lodgelaw13_first N) :=
  .cons (F_arena_New_ok S N) (.cons (F_arena_Arena_Add_ok S N) (.cons (F_arena_Arena_Take_ok S N) (.cons (F_arena_Arena_Drop_ok S N) (.nil))))
theorem F_lodgelaw13_first_ok (S : Ini) (N : Nat) : ∀ x y, (c_lodgelaw13_first N).g x = some y → FCon Go.Proofs.Tryd.prog E S 7 ps_lodgelaw13_first rs_lodgelaw13_first x y := by
  intro x y h
  exact fun_specJ E_ok mixed (cs_lodgelaw13_first_ok S N) (f := 7) (fi := ⟨b_lodgelaw13_first, 74, Go.Proofs.Tryd.f7.results.toList⟩) (by kernel_rfl) (ls := []) (.nil) (js := []) (by kernel_rfl) (ps := ps_lodgelaw13_first) (rs := rs_lodgelaw13_first) (Eq.trans (b := F_lodgelaw13_first N x.1.1 x.1.2.1) (by kernel_rfl) h)

/-! lodge/lodgeworld.Number -/

abbrev ps_lodgeworld_Number : List Ty := [(.int .i64), (.int .i64)]
abbrev rs_lodgeworld_Number : List Slot := [.data (.int .i64)]
abbrev cs_lodgeworld_Number (N : Nat) : List (CallSpec E) := []
noncomputable abbrev b_lodgeworld_Number : Code := ((Go.Proofs.Tryd.f8.body).getD .skip)

def F_lodgeworld_Number (N : Nat) (n_0 : Int) (below_1 : Int) : Option (Unit × (Int × Unit)) :=
  cond (decide (@Ne Int below_1 (0 : Int)))
    (
    cond (decide (@Ne Int below_1 (0 : Int)))
      (
      some ((), ((Int.tmod (wi64 ((Int.tmod n_0 below_1) + below_1)) below_1), ())))
      (
      none))
    (
    none)

abbrev c_lodgeworld_Number (N : Nat) : CallSpec E := ⟨8, ps_lodgeworld_Number, rs_lodgeworld_Number, fun x => F_lodgeworld_Number N x.2.1 x.2.2.1⟩

theorem cs_lodgeworld_Number_ok (S : Ini) (N : Nat) : CallsOK Go.Proofs.Tryd.prog E S (cs_lodgeworld_Number N) :=
  .nil
theorem F_lodgeworld_Number_ok (S : Ini) (N : Nat) : ∀ x y, (c_lodgeworld_Number N).g x = some y → FCon Go.Proofs.Tryd.prog E S 8 ps_lodgeworld_Number rs_lodgeworld_Number x y := by
  intro x y h
  exact fun_specJ E_ok mixed (cs_lodgeworld_Number_ok S N) (f := 8) (fi := ⟨b_lodgeworld_Number, 12, Go.Proofs.Tryd.f8.results.toList⟩) (by kernel_rfl) (ls := []) (.nil) (js := []) (by kernel_rfl) (ps := ps_lodgeworld_Number) (rs := rs_lodgeworld_Number) (Eq.trans (b := F_lodgeworld_Number N x.2.1 x.2.2.1) (by kernel_rfl) h)

/-! (*lodge/arena.Arena).within -/

abbrev ps_arena_Arena_within : List Ty := [(.hd 0), (.int .i64), (.int .i64), (.int .i64)]
abbrev rs_arena_Arena_within : List Slot := [.bor (.int .u8) 0 1, .data .bool]
abbrev cs_arena_Arena_within (N : Nat) : List (CallSpec E) := [c_arena_Arena_find N]
noncomputable abbrev b_arena_Arena_within : Code := ((Go.Proofs.Tryd.f33.body).getD .skip)

abbrev h_arena_Arena_within_0 : List Slot := [.data (.hd 0), .dead, .data (.int .i64), .data (.int .i64), .dead, .dead, .dead, .dead, .dead, .dead, .data (.hd 1), .dead, .dead, .dead, .dead, .dead, .dead, .dead, .dead, .dead, .dead, .dead, .dead, .dead, .dead, .bor (.st (.pair (.int .i64) (.int .i64))) 1 1, .data (.int .i64), .data (.int .i64), .dead, .dead, .dead, .dead, .dead, .dead, .dead, .dead, .dead, .dead, .dead, .dead, .dead, .dead, .dead, .dead, .dead, .dead, .dead, .dead, .dead, .dead, .dead, .dead, .dead, .dead, .dead, .dead, .dead, .dead, .dead, .dead, .dead, .dead, .dead, .dead, .dead, .dead, .dead, .dead, .dead, .dead, .dead, .dead, .dead, .dead, .dead, .dead, .dead]
abbrev e_arena_Arena_within_0 : List (AX × List Slot) := [(AX.exit 0, [.dead, .dead, .dead, .dead, .dead, .dead, .dead, .dead, .dead, .dead, .dead, .dead, .dead, .dead, .dead, .dead, .dead, .dead, .dead, .dead, .dead, .dead, .dead, .dead, .dead, .dead, .dead, .dead, .dead, .dead, .dead, .dead, .dead, .dead, .dead, .dead, .dead, .dead, .dead, .dead, .dead, .dead, .dead, .dead, .dead, .dead, .dead, .dead, .dead, .dead, .dead, .dead, .dead, .dead, .dead, .dead, .dead, .dead, .dead, .dead, .dead, .dead, .dead, .dead, .dead, .dead, .dead, .dead, .dead, .dead, .dead, .dead, .dead, .dead, .dead, .dead, .dead]), (AX.ret, [.dead, .dead, .dead, .dead, .dead, .dead, .dead, .dead, .bor (.int .u8) 0 1, .data .bool, .dead, .dead, .dead, .dead, .dead, .dead, .dead, .dead, .dead, .dead, .dead, .dead, .dead, .dead, .dead, .dead, .dead, .dead, .dead, .dead, .dead, .dead, .dead, .dead, .dead, .dead, .dead, .dead, .dead, .dead, .dead, .dead, .dead, .dead, .dead, .dead, .dead, .dead, .dead, .dead, .dead, .dead, .dead, .dead, .dead, .dead, .dead, .dead, .dead, .dead, .dead, .dead, .dead, .dead, .dead, .dead, .dead, .dead, .dead, .dead, .dead, .dead, .dead, .dead, .dead, .dead, .dead])]
def g_arena_Arena_within_0 (N : Nat) : Nat → List (List Int × (List (Option Nat) × Unit)) → List (Int × (Int × (Int × (List ((Int × Int)) × Unit)))) → Option Nat → Int → Int → Option Nat → (Nat × (Nat × Nat)) → Int → Int → Option (Sum ((List (List Int × (List (Option Nat) × Unit)) × (List (Int × (Int × (Int × (List ((Int × Int)) × Unit)))) × Unit)) × Unit) ((List (List Int × (List (Option Nat) × Unit)) × (List (Int × (Int × (Int × (List ((Int × Int)) × Unit)))) × Unit)) × ((Nat × (Nat × Nat)) × (Bool × Unit))))
  | 0, _, _, _, _, _, _, _, _, _ => none
  | n + 1, T0, T1, a_0, off_2, n_3, p_10, t_25, t_26, t_27 =>
    cond (decide (t_27 < t_26))
      (
      cond (decide ((0 : Int) ≤ t_27))
        (
        cond (decide ((Int.toNat t_27) < ((t_25).2).2))
          (
          cond (decide ((((t_25).2).1 + (Int.toNat t_27)) < (List.length (((((List.getD T1 (t_25).1 ((0 : Int), ((0 : Int), ((0 : Int), (([] : List (Int × Int)), ())))))).2).2).2).1)))
            (
            cond (decide (((List.getD (((((List.getD T1 (t_25).1 ((0 : Int), ((0 : Int), ((0 : Int), (([] : List (Int × Int)), ())))))).2).2).2).1 (((t_25).2).1 + (Int.toNat t_27)) ((0 : Int), (0 : Int)))).1 ≤ off_2))
              (
              cond (decide (off_2 ≤ (wi64 (((List.getD (((((List.getD T1 (t_25).1 ((0 : Int), ((0 : Int), ((0 : Int), (([] : List (Int × Int)), ())))))).2).2).2).1 (((t_25).2).1 + (Int.toNat t_27)) ((0 : Int), (0 : Int)))).1 + ((List.getD (((((List.getD T1 (t_25).1 ((0 : Int), ((0 : Int), ((0 : Int), (([] : List (Int × Int)), ())))))).2).2).2).1 (((t_25).2).1 + (Int.toNat t_27)) ((0 : Int), (0 : Int)))).2))))
                (
                cond (decide (n_3 ≤ (wi64 ((wi64 (((List.getD (((((List.getD T1 (t_25).1 ((0 : Int), ((0 : Int), ((0 : Int), (([] : List (Int × Int)), ())))))).2).2).2).1 (((t_25).2).1 + (Int.toNat t_27)) ((0 : Int), (0 : Int)))).1 + ((List.getD (((((List.getD T1 (t_25).1 ((0 : Int), ((0 : Int), ((0 : Int), (([] : List (Int × Int)), ())))))).2).2).2).1 (((t_25).2).1 + (Int.toNat t_27)) ((0 : Int), (0 : Int)))).2)) - off_2))))
                  (
                  cond (@Option.isSome Nat a_0)
                    (
                    cond (@Option.isSome Nat p_10)
                      (
                      cond (@Option.isSome Nat p_10)
                        (
                        cond (decide ((0 : Int) ≤ (wi64 ((((List.getD T1 (@Option.getD Nat p_10 (0 : Nat)) ((0 : Int), ((0 : Int), ((0 : Int), (([] : List (Int × Int)), ())))))).2).1 + off_2))))
                          (
                          cond (decide ((0 : Int) ≤ (wi64 ((wi64 ((((List.getD T1 (@Option.getD Nat p_10 (0 : Nat)) ((0 : Int), ((0 : Int), ((0 : Int), (([] : List (Int × Int)), ())))))).2).1 + off_2)) + n_3))))
                            (
                            cond (decide ((Int.toNat (wi64 ((((List.getD T1 (@Option.getD Nat p_10 (0 : Nat)) ((0 : Int), ((0 : Int), ((0 : Int), (([] : List (Int × Int)), ())))))).2).1 + off_2))) ≤ (Int.toNat (wi64 ((wi64 ((((List.getD T1 (@Option.getD Nat p_10 (0 : Nat)) ((0 : Int), ((0 : Int), ((0 : Int), (([] : List (Int × Int)), ())))))).2).1 + off_2)) + n_3)))))
                              (
                              cond (decide ((Int.toNat (wi64 ((wi64 ((((List.getD T1 (@Option.getD Nat p_10 (0 : Nat)) ((0 : Int), ((0 : Int), ((0 : Int), (([] : List (Int × Int)), ())))))).2).1 + off_2)) + n_3))) ≤ (List.length ((List.getD T0 (@Option.getD Nat a_0 (0 : Nat)) (([] : List Int), (([] : List (Option Nat)), ())))).1)))
                                (
                                some (Sum.inr ((T0, (T1, ())), (((@Option.getD Nat a_0 (0 : Nat)), (((0 : Nat) + (Int.toNat (wi64 ((((List.getD T1 (@Option.getD Nat p_10 (0 : Nat)) ((0 : Int), ((0 : Int), ((0 : Int), (([] : List (Int × Int)), ())))))).2).1 + off_2)))), ((Int.toNat (wi64 ((wi64 ((((List.getD T1 (@Option.getD Nat p_10 (0 : Nat)) ((0 : Int), ((0 : Int), ((0 : Int), (([] : List (Int × Int)), ())))))).2).1 + off_2)) + n_3))) - (Int.toNat (wi64 ((((List.getD T1 (@Option.getD Nat p_10 (0 : Nat)) ((0 : Int), ((0 : Int), ((0 : Int), (([] : List (Int × Int)), ())))))).2).1 + off_2)))))), (true, ())))))
                                (
                                none))
                              (
                              none))
                            (
                            none))
                          (
                          none))
                        (
                        none))
                      (
                      none))
                    (
                    none))
                  (
                  (g_arena_Arena_within_0 N n T0 T1 a_0 off_2 n_3 p_10 t_25 t_26 (wi64 (t_27 + (1 : Int))))))
                (
                (g_arena_Arena_within_0 N n T0 T1 a_0 off_2 n_3 p_10 t_25 t_26 (wi64 (t_27 + (1 : Int))))))
              (
              (g_arena_Arena_within_0 N n T0 T1 a_0 off_2 n_3 p_10 t_25 t_26 (wi64 (t_27 + (1 : Int))))))
            (
            none))
          (
          none))
        (
        none))
      (
      some (Sum.inl ((T0, (T1, ())), ())))

def F_arena_Arena_within (N : Nat) (T0 : List (List Int × (List (Option Nat) × Unit))) (T1 : List (Int × (Int × (Int × (List ((Int × Int)) × Unit))))) (a_0 : Option Nat) (id_1 : Int) (off_2 : Int) (n_3 : Int) : Option ((List (List Int × (List (Option Nat) × Unit)) × (List (Int × (Int × (Int × (List ((Int × Int)) × Unit)))) × Unit)) × ((Nat × (Nat × Nat)) × (Bool × Unit))) :=
  Option.bind (F_arena_Arena_find N T0 T1 a_0 id_1) fun y0 =>
  cond (@Option.isNone Nat ((y0).2).1)
    (
    cond (decide ((0 : Nat) < (List.length ((y0).1).1)))
      (
      some ((y0).1, (((0 : Nat), ((0 : Nat), (0 : Nat))), (false, ()))))
      (
      none))
    (
    cond (decide (n_3 < (0 : Int)))
      (
      cond (decide ((0 : Nat) < (List.length ((y0).1).1)))
        (
        some ((y0).1, (((0 : Nat), ((0 : Nat), (0 : Nat))), (false, ()))))
        (
        none))
      (
      cond (@Option.isSome Nat ((y0).2).1)
        (
        Option.bind (g_arena_Arena_within_0 N N ((y0).1).1 (((y0).1).2).1 a_0 off_2 n_3 ((y0).2).1 ((@Option.getD Nat ((y0).2).1 (0 : Nat)), ((0 : Nat), (List.length (((((List.getD (((y0).1).2).1 (@Option.getD Nat ((y0).2).1 (0 : Nat)) ((0 : Int), ((0 : Int), ((0 : Int), (([] : List (Int × Int)), ())))))).2).2).2).1))) (Nat.cast (List.length (((((List.getD (((y0).1).2).1 (@Option.getD Nat ((y0).2).1 (0 : Nat)) ((0 : Int), ((0 : Int), ((0 : Int), (([] : List (Int × Int)), ())))))).2).2).2).1) : Int) (0 : Int)) fun y1 =>
        Sum.elim (fun y2 =>
          cond (decide ((0 : Nat) < (List.length ((y2).1).1)))
            (
            some ((y2).1, (((0 : Nat), ((0 : Nat), (0 : Nat))), (false, ()))))
            (
            none))
          (fun y3 =>
          some y3) y1)
        (
        none)))

abbrev c_arena_Arena_within (N : Nat) : CallSpec E := ⟨33, ps_arena_Arena_within, rs_arena_Arena_within, fun x => F_arena_Arena_within N x.1.1 x.1.2.1 x.2.1 x.2.2.1 x.2.2.2.1 x.2.2.2.2.1⟩
abbrev l_arena_Arena_within_0 (N : Nat) : LoopSpec E [0, 1] := ⟨0, h_arena_Arena_within_0, e_arena_Arena_within_0, fun x => g_arena_Arena_within_0 N N x.1.1 x.1.2.1 x.2.1 x.2.2.1 x.2.2.2.1 x.2.2.2.2.1 x.2.2.2.2.2.1 x.2.2.2.2.2.2.1 x.2.2.2.2.2.2.2.1⟩

theorem cs_arena_Arena_within_ok (S : Ini) (N : Nat) : CallsOK Go.Proofs.Tryd.prog E S (cs_arena_Arena_within N) :=
  .cons (F_arena_Arena_find_ok S N) (.nil)
noncomputable abbrev b_arena_Arena_within_0 : Code := (loopsOf b_arena_Arena_within).getD 0 .skip
theorem g_arena_Arena_within_0_ok (S : Ini) (N : Nat) : ∀ n x y, (fun (x : StV E [0, 1] h_arena_Arena_within_0) => g_arena_Arena_within_0 N n x.1.1 x.1.2.1 x.2.1 x.2.2.1 x.2.2.2.1 x.2.2.2.2.1 x.2.2.2.2.2.1 x.2.2.2.2.2.2.1 x.2.2.2.2.2.2.2.1) x = some y → LoopCon Go.Proofs.Tryd.prog E S b_arena_Arena_within_0 (encSlots E [0, 1] h_arena_Arena_within_0 x) (encEx E [0, 1] e_arena_Arena_within_0 y).1 (encEx E [0, 1] e_arena_Arena_within_0 y).2 :=
  loop_specJ E_ok mixed (E_ok.ks 33) (cs_arena_Arena_within_ok S N) (all := loopsOf b_arena_Arena_within) (ls := []) (.nil) (js := []) (i := 0) (by kernel_rfl) (inner_of (by kernel_rfl)) (head := h_arena_Arena_within_0) (ex := e_arena_Arena_within_0) (fun n (x : StV E [0, 1] h_arena_Arena_within_0) => g_arena_Arena_within_0 N n x.1.1 x.1.2.1 x.2.1 x.2.2.1 x.2.2.2.1 x.2.2.2.2.1 x.2.2.2.2.2.1 x.2.2.2.2.2.2.1 x.2.2.2.2.2.2.2.1) (fun _ => rfl) (fun n x => by kernel_rfl)
theorem F_arena_Arena_within_ok (S : Ini) (N : Nat) : ∀ x y, (c_arena_Arena_within N).g x = some y → FCon Go.Proofs.Tryd.prog E S 33 ps_arena_Arena_within rs_arena_Arena_within x y := by
  intro x y h
  exact fun_specJ E_ok mixed (cs_arena_Arena_within_ok S N) (f := 33) (fi := ⟨b_arena_Arena_within, 77, Go.Proofs.Tryd.f33.results.toList⟩) (by kernel_rfl) (ls := [l_arena_Arena_within_0 N]) (.cons (by kernel_rfl) (g_arena_Arena_within_0_ok S N N) (.nil)) (js := []) (by kernel_rfl) (ps := ps_arena_Arena_within) (rs := rs_arena_Arena_within) (Eq.trans (b := F_arena_Arena_within N x.1.1 x.1.2.1 x.2.1 x.2.2.1 x.2.2.2.1 x.2.2.2.2.1) (by kernel_rfl) h)

/-! (*lodge/arena.Arena).Write -/

abbrev ps_arena_Arena_Write : List Ty := [(.hd 0), (.int .i64), (.int .i64), (.sl (.int .u8))]
abbrev rs_arena_Arena_Write : List Slot := [.data .bool]
abbrev cs_arena_Arena_Write (N : Nat) : List (CallSpec E) := [c_arena_Arena_within N]
noncomputable abbrev b_arena_Arena_Write : Code := ((Go.Proofs.Tryd.f17.body).getD .skip)

def F_arena_Arena_Write (N : Nat) (T0 : List (List Int × (List (Option Nat) × Unit))) (T1 : List (Int × (Int × (Int × (List ((Int × Int)) × Unit))))) (a_0 : Option Nat) (id_1 : Int) (off_2 : Int) (b_3 : List Int) : Option ((List (List Int × (List (Option Nat) × Unit)) × (List (Int × (Int × (Int × (List ((Int × Int)) × Unit)))) × Unit)) × (Bool × Unit)) :=
  Option.bind (F_arena_Arena_within N T0 T1 a_0 id_1 off_2 (Nat.cast (List.length b_3) : Int)) fun y0 =>
  cond (decide ((((((y0).2).1).2).1 + ((((y0).2).1).2).2) ≤ (List.length ((List.getD ((y0).1).1 (((y0).2).1).1 (([] : List Int), (([] : List (Option Nat)), ())))).1)))
    (
    some (((List.set ((y0).1).1 (((y0).2).1).1 ((((List.take ((((y0).2).1).2).1 ((List.getD ((y0).1).1 (((y0).2).1).1 (([] : List Int), (([] : List (Option Nat)), ())))).1) ++ (List.take (@Min.min Nat instMinNat (List.length b_3) ((((y0).2).1).2).2) b_3)) ++ (List.drop (((((y0).2).1).2).1 + (@Min.min Nat instMinNat (List.length b_3) ((((y0).2).1).2).2)) ((List.getD ((y0).1).1 (((y0).2).1).1 (([] : List Int), (([] : List (Option Nat)), ())))).1)), ((List.getD ((y0).1).1 (((y0).2).1).1 (([] : List Int), (([] : List (Option Nat)), ())))).2)), ((y0).1).2), ((y0).2).2))
    (
    none)

abbrev c_arena_Arena_Write (N : Nat) : CallSpec E := ⟨17, ps_arena_Arena_Write, rs_arena_Arena_Write, fun x => F_arena_Arena_Write N x.1.1 x.1.2.1 x.2.1 x.2.2.1 x.2.2.2.1 x.2.2.2.2.1⟩

theorem cs_arena_Arena_Write_ok (S : Ini) (N : Nat) : CallsOK Go.Proofs.Tryd.prog E S (cs_arena_Arena_Write N) :=
  .cons (F_arena_Arena_within_ok S N) (.nil)
theorem F_arena_Arena_Write_ok (S : Ini) (N : Nat) : ∀ x y, (c_arena_Arena_Write N).g x = some y → FCon Go.Proofs.Tryd.prog E S 17 ps_arena_Arena_Write rs_arena_Arena_Write x y := by
  intro x y h
  exact fun_specJ E_ok mixed (cs_arena_Arena_Write_ok S N) (f := 17) (fi := ⟨b_arena_Arena_Write, 24, Go.Proofs.Tryd.f17.results.toList⟩) (by kernel_rfl) (ls := []) (.nil) (js := []) (by kernel_rfl) (ps := ps_arena_Arena_Write) (rs := rs_arena_Arena_Write) (Eq.trans (b := F_arena_Arena_Write N x.1.1 x.1.2.1 x.2.1 x.2.2.1 x.2.2.2.1 x.2.2.2.2.1) (by kernel_rfl) h)

/-! (*lodge/arena.Arena).Remove$1 -/

abbrev ps_arena_Arena_Remove_1 : List Ty := [(.hd 1), (.ref (.hd 1))]
abbrev rs_arena_Arena_Remove_1 : List Slot := [.data .bool]
abbrev cs_arena_Arena_Remove_1 (N : Nat) : List (CallSpec E) := []
noncomputable abbrev b_arena_Arena_Remove_1 : Code := ((Go.Proofs.Tryd.f32.body).getD .skip)

def F_arena_Arena_Remove_1 (N : Nat) (T1 : List (Int × (Int × (Int × (List ((Int × Int)) × Unit))))) (q_0 : Option Nat) (t_1 : Option Nat) : Option ((List (Int × (Int × (Int × (List ((Int × Int)) × Unit)))) × Unit) × (Bool × Unit)) :=
  some ((T1, ()), ((decide (q_0 = t_1)), ()))

abbrev c_arena_Arena_Remove_1 (N : Nat) : CallSpec E := ⟨32, ps_arena_Arena_Remove_1, rs_arena_Arena_Remove_1, fun x => F_arena_Arena_Remove_1 N x.1.1 x.2.1 x.2.2.1⟩

theorem cs_arena_Arena_Remove_1_ok (S : Ini) (N : Nat) : CallsOK Go.Proofs.Tryd.prog E S (cs_arena_Arena_Remove_1 N) :=
  .nil
theorem F_arena_Arena_Remove_1_ok (S : Ini) (N : Nat) : ∀ x y, (c_arena_Arena_Remove_1 N).g x = some y → FCon Go.Proofs.Tryd.prog E S 32 ps_arena_Arena_Remove_1 rs_arena_Arena_Remove_1 x y := by
  intro x y h
  exact fun_specJ E_ok mixed (cs_arena_Arena_Remove_1_ok S N) (f := 32) (fi := ⟨b_arena_Arena_Remove_1, 7, Go.Proofs.Tryd.f32.results.toList⟩) (by kernel_rfl) (ls := []) (.nil) (js := []) (by kernel_rfl) (ps := ps_arena_Arena_Remove_1) (rs := rs_arena_Arena_Remove_1) (Eq.trans (b := F_arena_Arena_Remove_1 N x.1.1 x.2.1 x.2.2.1) (by kernel_rfl) h)


end Go.Proofs.YtnbpgehpjhifgaaDoor.Lx
