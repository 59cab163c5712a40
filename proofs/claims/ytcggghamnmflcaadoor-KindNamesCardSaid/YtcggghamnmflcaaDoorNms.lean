import Derived.Test.YtcggghamnmflcaaDoorOfd
import Derived.Test.YtcggghamnmflcaaDoorKlw
namespace Go.Proofs.YtcggghamnmflcaaDoor
open Go.RowKit
theorem cell_new2 (w : World) (o : Obj) (cs : Array Value) (t : TypeId) (i : Nat) (v : Value) (h : cs[i]? = some v) : (((w.alloc o).drew.alloc (.cells cs t)).drew).cell? ⟨w.heap.size + 1, i, none⟩ = some v := by
  have := cell_new (w.alloc o).drew cs t i v h
  rw [show (w.alloc o).drew.heap.size = w.heap.size + 1 from World.size_alloc w o] at this
  exact this
set_option maxRecDepth 100000 in
set_option maxHeartbeats 4000000 in
theorem kyes1false_w (w : World) (hn : NamesAt w) : Calls Tryd.prog 4 #[.int .i64 1, .bool false] w fun e w' => e = .returned (.bool true) ∧ Below w.heap.size w w' := by
  go_enter Tryd.func4, Tryd.ntmps4
  go_wp2_with (first | (go_at_call 5; (with_reducible refine (shown_c _).mono ?_); rintro e w' ⟨rfl, rfl⟩) | (go_at_call 12; (with_reducible refine (name_c 1 _ hn).mono ?_); rintro e w' ⟨rfl, rfl⟩; rw [show kname 1 = ⟨#[99, 104, 97, 114]⟩ from rfl]))
  go_loopw [7, 8] (fun u i wr => (wr.cell? ⟨w.heap.size, 0, none⟩ = some (.string ⟨#[99, 104, 97, 114]⟩) ∧ u = .slice (some ⟨w.heap.size, 0, none⟩) 1 1 ∧ Below w.heap.size w wr) ∧ ∃ k : Nat, i = .int .i64 k ∧ k ≤ 4) (fun _ i _ => 4 - (intOf i).toNat)
  case atStart => exact ⟨⟨cell_new _ _ _ 0 _ rfl, rfl, bel_alloc (Below.refl _ _) _⟩, 0, rfl, by omega⟩
  case round =>
    obtain ⟨⟨hc, rfl, hB⟩, k, rfl, hk⟩ := hrel
    obtain rfl | rfl | rfl | rfl | rfl : k = 0 ∨ k = 1 ∨ k = 2 ∨ k = 3 ∨ k = 4 := by omega
    · go_wp2
      go_roundw
      case rel => exact ⟨⟨hc, rfl, hB⟩, 1, by go_num, by omega⟩
      case measure => simp [intOf]
    · go_wp2
      go_roundw
      case rel => exact ⟨⟨hc, rfl, hB⟩, 2, by go_num, by omega⟩
      case measure => simp [intOf]
    · go_wp2
      go_roundw
      case rel => exact ⟨⟨hc, rfl, hB⟩, 3, by go_num, by omega⟩
      case measure => simp [intOf]
    · go_wp2
      go_roundw
      case rel => exact ⟨⟨hc, rfl, hB⟩, 4, by go_num, by omega⟩
      case measure => simp [intOf]
    · have _h0 := hk
      have hF : StrsAt wr (some ⟨w.heap.size, 0, none⟩) [⟨#[99, 104, 97, 114]⟩] := fun i s hs => by
        obtain rfl : i = 0 := by have := (List.getElem?_eq_some_iff.1 hs).1; simpa using this
        cases hs
        exact ⟨_, _, rfl, hc⟩
      have e1 : kofV (pl [⟨#[99, 104, 97, 114]⟩]) = 1 := by kernel_rfl
      have e2 : kofE (pl [⟨#[99, 104, 97, 114]⟩]) = 0 := by kernel_rfl
      go_wp2_with (go_at_call 14; refine (of_c (some ⟨w.heap.size, 0, none⟩) 1 [⟨#[99, 104, 97, 114]⟩] _ hF (by decide) (by decide)).mono ?_; rintro e w2 ⟨rfl, hb2⟩; rw [e1, e2])
      go_ret
      exact ⟨rfl, bel_then hB hb2⟩
set_option maxRecDepth 100000 in
set_option maxHeartbeats 4000000 in
theorem kyes1true_w (w : World) (hn : NamesAt w) : Calls Tryd.prog 4 #[.int .i64 1, .bool true] w fun e w' => e = .returned (.bool true) ∧ Below w.heap.size w w' := by
  go_enter Tryd.func4, Tryd.ntmps4
  go_wp2_with (first | (go_at_call 5; (with_reducible refine (shown_c _).mono ?_); rintro e w' ⟨rfl, rfl⟩) | (go_at_call 12; (with_reducible refine (name_c 1 _ hn).mono ?_); rintro e w' ⟨rfl, rfl⟩; rw [show kname 1 = ⟨#[99, 104, 97, 114]⟩ from rfl]))
  go_loopw [7, 8] (fun u i wr => (wr.cell? ⟨w.heap.size, 0, none⟩ = some (.string ⟨#[99, 104, 97, 114]⟩) ∧ u = .slice (some ⟨w.heap.size, 0, none⟩) 1 1 ∧ Below w.heap.size w wr) ∧ ∃ k : Nat, i = .int .i64 k ∧ k ≤ 4) (fun _ i _ => 4 - (intOf i).toNat)
  case atStart => exact ⟨⟨cell_new _ _ _ 0 _ rfl, rfl, bel_alloc (Below.refl _ _) _⟩, 0, rfl, by omega⟩
  case round =>
    obtain ⟨⟨hc, rfl, hB⟩, k, rfl, hk⟩ := hrel
    obtain rfl | rfl | rfl | rfl | rfl : k = 0 ∨ k = 1 ∨ k = 2 ∨ k = 3 ∨ k = 4 := by omega
    · go_wp2
      go_roundw
      case rel => exact ⟨⟨hc, rfl, hB⟩, 1, by go_num, by omega⟩
      case measure => simp [intOf]
    · go_wp2
      go_roundw
      case rel => exact ⟨⟨hc, rfl, hB⟩, 2, by go_num, by omega⟩
      case measure => simp [intOf]
    · go_wp2
      go_roundw
      case rel => exact ⟨⟨hc, rfl, hB⟩, 3, by go_num, by omega⟩
      case measure => simp [intOf]
    · go_wp2
      go_roundw
      case rel => exact ⟨⟨hc, rfl, hB⟩, 4, by go_num, by omega⟩
      case measure => simp [intOf]
    · have _h0 := hk
      have hF : StrsAt wr (some ⟨w.heap.size, 0, none⟩) [⟨#[99, 104, 97, 114]⟩] := fun i s hs => by
        obtain rfl : i = 0 := by have := (List.getElem?_eq_some_iff.1 hs).1; simpa using this
        cases hs
        exact ⟨_, _, rfl, hc⟩
      have e1 : kofV (pl [⟨#[99, 104, 97, 114]⟩]) = 1 := by kernel_rfl
      have e2 : kofE (pl [⟨#[99, 104, 97, 114]⟩]) = 0 := by kernel_rfl
      go_wp2_with (go_at_call 14; refine (of_c (some ⟨w.heap.size, 0, none⟩) 1 [⟨#[99, 104, 97, 114]⟩] _ hF (by decide) (by decide)).mono ?_; rintro e w2 ⟨rfl, hb2⟩; rw [e1, e2])
      go_ret
      exact ⟨rfl, bel_then hB hb2⟩
set_option maxRecDepth 100000 in
set_option maxHeartbeats 4000000 in
theorem kyes2false_w (w : World) (hn : NamesAt w) : Calls Tryd.prog 4 #[.int .i64 2, .bool false] w fun e w' => e = .returned (.bool true) ∧ Below w.heap.size w w' := by
  go_enter Tryd.func4, Tryd.ntmps4
  go_wp2_with (first | (go_at_call 5; (with_reducible refine (shown_c _).mono ?_); rintro e w' ⟨rfl, rfl⟩) | (go_at_call 12; (with_reducible refine (name_c 2 _ hn).mono ?_); rintro e w' ⟨rfl, rfl⟩; rw [show kname 2 = ⟨#[117, 110, 115, 105, 103, 110, 101, 100, 32, 99, 104, 97, 114]⟩ from rfl]))
  go_loopw [7, 8] (fun u i wr => Below w.heap.size w wr ∧ ∃ k : Nat, i = .int .i64 k ∧ k ≤ 13 ∧ (8 < k → ∃ g, u = .slice (some ⟨g, 0, none⟩) 2 2 ∧ wr.cell? ⟨g, 0, none⟩ = some (.string ⟨#[117, 110, 115, 105, 103, 110, 101, 100]⟩) ∧ wr.cell? ⟨g, 1, none⟩ = some (.string ⟨#[99, 104, 97, 114]⟩))) (fun _ i _ => 13 - (intOf i).toNat)
  case atStart => exact ⟨bel_alloc (Below.refl _ _) _, 0, rfl, by omega, by omega⟩
  case round =>
    obtain ⟨hB, k, rfl, hk, hu⟩ := hrel
    obtain rfl | rfl | rfl | rfl | rfl | rfl | rfl | rfl | rfl | rfl | rfl | rfl | rfl | rfl : k = 0 ∨ k = 1 ∨ k = 2 ∨ k = 3 ∨ k = 4 ∨ k = 5 ∨ k = 6 ∨ k = 7 ∨ k = 8 ∨ k = 9 ∨ k = 10 ∨ k = 11 ∨ k = 12 ∨ k = 13 := by omega
    · clear hu
      go_wp2
      go_roundw
      case rel => exact ⟨hB, 1, by go_num, by omega, by omega⟩
      case measure => simp [intOf]
    · clear hu
      go_wp2
      go_roundw
      case rel => exact ⟨hB, 2, by go_num, by omega, by omega⟩
      case measure => simp [intOf]
    · clear hu
      go_wp2
      go_roundw
      case rel => exact ⟨hB, 3, by go_num, by omega, by omega⟩
      case measure => simp [intOf]
    · clear hu
      go_wp2
      go_roundw
      case rel => exact ⟨hB, 4, by go_num, by omega, by omega⟩
      case measure => simp [intOf]
    · clear hu
      go_wp2
      go_roundw
      case rel => exact ⟨hB, 5, by go_num, by omega, by omega⟩
      case measure => simp [intOf]
    · clear hu
      go_wp2
      go_roundw
      case rel => exact ⟨hB, 6, by go_num, by omega, by omega⟩
      case measure => simp [intOf]
    · clear hu
      go_wp2
      go_roundw
      case rel => exact ⟨hB, 7, by go_num, by omega, by omega⟩
      case measure => simp [intOf]
    · clear hu
      go_wp2
      go_roundw
      case rel => exact ⟨hB, 8, by go_num, by omega, by omega⟩
      case measure => simp [intOf]
    · clear hu
      go_wp2_with fail
      go_region
      go_wp2_with fail
      go_roundw
      case rel => exact ⟨bel_drew (bel_alloc hB _), 9, by go_num, by omega, fun _ => ⟨_, rfl, cell_new _ _ _ 0 _ rfl, cell_new _ _ _ 1 _ rfl⟩⟩
      case measure => simp [intOf]
    · have hu := hu (by omega)
      obtain ⟨g, rfl, g0, g1⟩ := hu
      go_wp2
      go_roundw
      case rel => exact ⟨hB, 10, by go_num, by omega, fun _ => ⟨_, rfl, g0, g1⟩⟩
      case measure => simp [intOf]
    · have hu := hu (by omega)
      obtain ⟨g, rfl, g0, g1⟩ := hu
      go_wp2
      go_roundw
      case rel => exact ⟨hB, 11, by go_num, by omega, fun _ => ⟨_, rfl, g0, g1⟩⟩
      case measure => simp [intOf]
    · have hu := hu (by omega)
      obtain ⟨g, rfl, g0, g1⟩ := hu
      go_wp2
      go_roundw
      case rel => exact ⟨hB, 12, by go_num, by omega, fun _ => ⟨_, rfl, g0, g1⟩⟩
      case measure => simp [intOf]
    · have hu := hu (by omega)
      obtain ⟨g, rfl, g0, g1⟩ := hu
      go_wp2
      go_roundw
      case rel => exact ⟨hB, 13, by go_num, by omega, fun _ => ⟨_, rfl, g0, g1⟩⟩
      case measure => simp [intOf]
    · have _h0 := hk
      obtain ⟨g, rfl, g0, g1⟩ := hu (by omega)
      have hF : StrsAt wr (some ⟨g, 0, none⟩) [⟨#[117, 110, 115, 105, 103, 110, 101, 100]⟩, ⟨#[99, 104, 97, 114]⟩] := fun i s hs => by
        obtain rfl | rfl : i = 0 ∨ i = 1 := by have := (List.getElem?_eq_some_iff.1 hs).1; simp at this; omega
        · cases hs; exact ⟨_, _, rfl, g0⟩
        · cases hs; exact ⟨_, _, rfl, g1⟩
      have e1 : kofV (pl [⟨#[117, 110, 115, 105, 103, 110, 101, 100]⟩, ⟨#[99, 104, 97, 114]⟩]) = 2 := by kernel_rfl
      have e2 : kofE (pl [⟨#[117, 110, 115, 105, 103, 110, 101, 100]⟩, ⟨#[99, 104, 97, 114]⟩]) = 0 := by kernel_rfl
      go_wp2_with (go_at_call 14; refine (of_c (some ⟨g, 0, none⟩) 2 [⟨#[117, 110, 115, 105, 103, 110, 101, 100]⟩, ⟨#[99, 104, 97, 114]⟩] _ hF (by decide) (by decide)).mono ?_; rintro e w2 ⟨rfl, hb2⟩; rw [e1, e2])
      go_ret
      exact ⟨rfl, bel_then hB hb2⟩
set_option maxRecDepth 100000 in
set_option maxHeartbeats 4000000 in
theorem kyes2true_w (w : World) (hn : NamesAt w) : Calls Tryd.prog 4 #[.int .i64 2, .bool true] w fun e w' => e = .returned (.bool true) ∧ Below w.heap.size w w' := by
  go_enter Tryd.func4, Tryd.ntmps4
  go_wp2_with (first | (go_at_call 5; (with_reducible refine (shown_c _).mono ?_); rintro e w' ⟨rfl, rfl⟩) | (go_at_call 12; (with_reducible refine (name_c 2 _ hn).mono ?_); rintro e w' ⟨rfl, rfl⟩; rw [show kname 2 = ⟨#[117, 110, 115, 105, 103, 110, 101, 100, 32, 99, 104, 97, 114]⟩ from rfl]))
  go_loopw [7, 8] (fun u i wr => Below w.heap.size w wr ∧ ∃ k : Nat, i = .int .i64 k ∧ k ≤ 13 ∧ (8 < k → ∃ g, u = .slice (some ⟨g, 0, none⟩) 2 2 ∧ wr.cell? ⟨g, 0, none⟩ = some (.string ⟨#[99, 104, 97, 114]⟩) ∧ wr.cell? ⟨g, 1, none⟩ = some (.string ⟨#[117, 110, 115, 105, 103, 110, 101, 100]⟩))) (fun _ i _ => 13 - (intOf i).toNat)
  case atStart => exact ⟨bel_alloc (Below.refl _ _) _, 0, rfl, by omega, by omega⟩
  case round =>
    obtain ⟨hB, k, rfl, hk, hu⟩ := hrel
    obtain rfl | rfl | rfl | rfl | rfl | rfl | rfl | rfl | rfl | rfl | rfl | rfl | rfl | rfl : k = 0 ∨ k = 1 ∨ k = 2 ∨ k = 3 ∨ k = 4 ∨ k = 5 ∨ k = 6 ∨ k = 7 ∨ k = 8 ∨ k = 9 ∨ k = 10 ∨ k = 11 ∨ k = 12 ∨ k = 13 := by omega
    · clear hu
      go_wp2
      go_roundw
      case rel => exact ⟨hB, 1, by go_num, by omega, by omega⟩
      case measure => simp [intOf]
    · clear hu
      go_wp2
      go_roundw
      case rel => exact ⟨hB, 2, by go_num, by omega, by omega⟩
      case measure => simp [intOf]
    · clear hu
      go_wp2
      go_roundw
      case rel => exact ⟨hB, 3, by go_num, by omega, by omega⟩
      case measure => simp [intOf]
    · clear hu
      go_wp2
      go_roundw
      case rel => exact ⟨hB, 4, by go_num, by omega, by omega⟩
      case measure => simp [intOf]
    · clear hu
      go_wp2
      go_roundw
      case rel => exact ⟨hB, 5, by go_num, by omega, by omega⟩
      case measure => simp [intOf]
    · clear hu
      go_wp2
      go_roundw
      case rel => exact ⟨hB, 6, by go_num, by omega, by omega⟩
      case measure => simp [intOf]
    · clear hu
      go_wp2
      go_roundw
      case rel => exact ⟨hB, 7, by go_num, by omega, by omega⟩
      case measure => simp [intOf]
    · clear hu
      go_wp2
      go_roundw
      case rel => exact ⟨hB, 8, by go_num, by omega, by omega⟩
      case measure => simp [intOf]
    · clear hu
      go_wp2_with fail
      go_region
      go_wp2_with fail
      go_region
      go_wp2_with fail
      go_roundw
      case rel => exact ⟨bel_drew (bel_alloc (bel_drew (bel_alloc hB _)) _), 9, by go_num, by omega, fun _ => ⟨_, rfl, cell_new2 _ _ _ _ 0 _ rfl, cell_new2 _ _ _ _ 1 _ rfl⟩⟩
      case measure => simp [intOf]
    · have hu := hu (by omega)
      obtain ⟨g, rfl, g0, g1⟩ := hu
      go_wp2
      go_roundw
      case rel => exact ⟨hB, 10, by go_num, by omega, fun _ => ⟨_, rfl, g0, g1⟩⟩
      case measure => simp [intOf]
    · have hu := hu (by omega)
      obtain ⟨g, rfl, g0, g1⟩ := hu
      go_wp2
      go_roundw
      case rel => exact ⟨hB, 11, by go_num, by omega, fun _ => ⟨_, rfl, g0, g1⟩⟩
      case measure => simp [intOf]
    · have hu := hu (by omega)
      obtain ⟨g, rfl, g0, g1⟩ := hu
      go_wp2
      go_roundw
      case rel => exact ⟨hB, 12, by go_num, by omega, fun _ => ⟨_, rfl, g0, g1⟩⟩
      case measure => simp [intOf]
    · have hu := hu (by omega)
      obtain ⟨g, rfl, g0, g1⟩ := hu
      go_wp2
      go_roundw
      case rel => exact ⟨hB, 13, by go_num, by omega, fun _ => ⟨_, rfl, g0, g1⟩⟩
      case measure => simp [intOf]
    · have _h0 := hk
      obtain ⟨g, rfl, g0, g1⟩ := hu (by omega)
      have hF : StrsAt wr (some ⟨g, 0, none⟩) [⟨#[99, 104, 97, 114]⟩, ⟨#[117, 110, 115, 105, 103, 110, 101, 100]⟩] := fun i s hs => by
        obtain rfl | rfl : i = 0 ∨ i = 1 := by have := (List.getElem?_eq_some_iff.1 hs).1; simp at this; omega
        · cases hs; exact ⟨_, _, rfl, g0⟩
        · cases hs; exact ⟨_, _, rfl, g1⟩
      have e1 : kofV (pl [⟨#[99, 104, 97, 114]⟩, ⟨#[117, 110, 115, 105, 103, 110, 101, 100]⟩]) = 2 := by kernel_rfl
      have e2 : kofE (pl [⟨#[99, 104, 97, 114]⟩, ⟨#[117, 110, 115, 105, 103, 110, 101, 100]⟩]) = 0 := by kernel_rfl
      go_wp2_with (go_at_call 14; refine (of_c (some ⟨g, 0, none⟩) 2 [⟨#[99, 104, 97, 114]⟩, ⟨#[117, 110, 115, 105, 103, 110, 101, 100]⟩] _ hF (by decide) (by decide)).mono ?_; rintro e w2 ⟨rfl, hb2⟩; rw [e1, e2])
      go_ret
      exact ⟨rfl, bel_then hB hb2⟩
set_option maxRecDepth 100000 in
set_option maxHeartbeats 4000000 in
theorem kyes3false_w (w : World) (hn : NamesAt w) : Calls Tryd.prog 4 #[.int .i64 3, .bool false] w fun e w' => e = .returned (.bool true) ∧ Below w.heap.size w w' := by
  go_enter Tryd.func4, Tryd.ntmps4
  go_wp2_with (first | (go_at_call 5; (with_reducible refine (shown_c _).mono ?_); rintro e w' ⟨rfl, rfl⟩) | (go_at_call 12; (with_reducible refine (name_c 3 _ hn).mono ?_); rintro e w' ⟨rfl, rfl⟩; rw [show kname 3 = ⟨#[115, 104, 111, 114, 116]⟩ from rfl]))
  go_loopw [7, 8] (fun u i wr => (wr.cell? ⟨w.heap.size, 0, none⟩ = some (.string ⟨#[115, 104, 111, 114, 116]⟩) ∧ u = .slice (some ⟨w.heap.size, 0, none⟩) 1 1 ∧ Below w.heap.size w wr) ∧ ∃ k : Nat, i = .int .i64 k ∧ k ≤ 5) (fun _ i _ => 5 - (intOf i).toNat)
  case atStart => exact ⟨⟨cell_new _ _ _ 0 _ rfl, rfl, bel_alloc (Below.refl _ _) _⟩, 0, rfl, by omega⟩
  case round =>
    obtain ⟨⟨hc, rfl, hB⟩, k, rfl, hk⟩ := hrel
    obtain rfl | rfl | rfl | rfl | rfl | rfl : k = 0 ∨ k = 1 ∨ k = 2 ∨ k = 3 ∨ k = 4 ∨ k = 5 := by omega
    · go_wp2
      go_roundw
      case rel => exact ⟨⟨hc, rfl, hB⟩, 1, by go_num, by omega⟩
      case measure => simp [intOf]
    · go_wp2
      go_roundw
      case rel => exact ⟨⟨hc, rfl, hB⟩, 2, by go_num, by omega⟩
      case measure => simp [intOf]
    · go_wp2
      go_roundw
      case rel => exact ⟨⟨hc, rfl, hB⟩, 3, by go_num, by omega⟩
      case measure => simp [intOf]
    · go_wp2
      go_roundw
      case rel => exact ⟨⟨hc, rfl, hB⟩, 4, by go_num, by omega⟩
      case measure => simp [intOf]
    · go_wp2
      go_roundw
      case rel => exact ⟨⟨hc, rfl, hB⟩, 5, by go_num, by omega⟩
      case measure => simp [intOf]
    · have _h0 := hk
      have hF : StrsAt wr (some ⟨w.heap.size, 0, none⟩) [⟨#[115, 104, 111, 114, 116]⟩] := fun i s hs => by
        obtain rfl : i = 0 := by have := (List.getElem?_eq_some_iff.1 hs).1; simpa using this
        cases hs
        exact ⟨_, _, rfl, hc⟩
      have e1 : kofV (pl [⟨#[115, 104, 111, 114, 116]⟩]) = 3 := by kernel_rfl
      have e2 : kofE (pl [⟨#[115, 104, 111, 114, 116]⟩]) = 0 := by kernel_rfl
      go_wp2_with (go_at_call 14; refine (of_c (some ⟨w.heap.size, 0, none⟩) 1 [⟨#[115, 104, 111, 114, 116]⟩] _ hF (by decide) (by decide)).mono ?_; rintro e w2 ⟨rfl, hb2⟩; rw [e1, e2])
      go_ret
      exact ⟨rfl, bel_then hB hb2⟩
set_option maxRecDepth 100000 in
set_option maxHeartbeats 4000000 in
theorem kyes3true_w (w : World) (hn : NamesAt w) : Calls Tryd.prog 4 #[.int .i64 3, .bool true] w fun e w' => e = .returned (.bool true) ∧ Below w.heap.size w w' := by
  go_enter Tryd.func4, Tryd.ntmps4
  go_wp2_with (first | (go_at_call 5; (with_reducible refine (shown_c _).mono ?_); rintro e w' ⟨rfl, rfl⟩) | (go_at_call 12; (with_reducible refine (name_c 3 _ hn).mono ?_); rintro e w' ⟨rfl, rfl⟩; rw [show kname 3 = ⟨#[115, 104, 111, 114, 116]⟩ from rfl]))
  go_loopw [7, 8] (fun u i wr => (wr.cell? ⟨w.heap.size, 0, none⟩ = some (.string ⟨#[115, 104, 111, 114, 116]⟩) ∧ u = .slice (some ⟨w.heap.size, 0, none⟩) 1 1 ∧ Below w.heap.size w wr) ∧ ∃ k : Nat, i = .int .i64 k ∧ k ≤ 5) (fun _ i _ => 5 - (intOf i).toNat)
  case atStart => exact ⟨⟨cell_new _ _ _ 0 _ rfl, rfl, bel_alloc (Below.refl _ _) _⟩, 0, rfl, by omega⟩
  case round =>
    obtain ⟨⟨hc, rfl, hB⟩, k, rfl, hk⟩ := hrel
    obtain rfl | rfl | rfl | rfl | rfl | rfl : k = 0 ∨ k = 1 ∨ k = 2 ∨ k = 3 ∨ k = 4 ∨ k = 5 := by omega
    · go_wp2
      go_roundw
      case rel => exact ⟨⟨hc, rfl, hB⟩, 1, by go_num, by omega⟩
      case measure => simp [intOf]
    · go_wp2
      go_roundw
      case rel => exact ⟨⟨hc, rfl, hB⟩, 2, by go_num, by omega⟩
      case measure => simp [intOf]
    · go_wp2
      go_roundw
      case rel => exact ⟨⟨hc, rfl, hB⟩, 3, by go_num, by omega⟩
      case measure => simp [intOf]
    · go_wp2
      go_roundw
      case rel => exact ⟨⟨hc, rfl, hB⟩, 4, by go_num, by omega⟩
      case measure => simp [intOf]
    · go_wp2
      go_roundw
      case rel => exact ⟨⟨hc, rfl, hB⟩, 5, by go_num, by omega⟩
      case measure => simp [intOf]
    · have _h0 := hk
      have hF : StrsAt wr (some ⟨w.heap.size, 0, none⟩) [⟨#[115, 104, 111, 114, 116]⟩] := fun i s hs => by
        obtain rfl : i = 0 := by have := (List.getElem?_eq_some_iff.1 hs).1; simpa using this
        cases hs
        exact ⟨_, _, rfl, hc⟩
      have e1 : kofV (pl [⟨#[115, 104, 111, 114, 116]⟩]) = 3 := by kernel_rfl
      have e2 : kofE (pl [⟨#[115, 104, 111, 114, 116]⟩]) = 0 := by kernel_rfl
      go_wp2_with (go_at_call 14; refine (of_c (some ⟨w.heap.size, 0, none⟩) 1 [⟨#[115, 104, 111, 114, 116]⟩] _ hF (by decide) (by decide)).mono ?_; rintro e w2 ⟨rfl, hb2⟩; rw [e1, e2])
      go_ret
      exact ⟨rfl, bel_then hB hb2⟩
set_option maxRecDepth 100000 in
set_option maxHeartbeats 4000000 in
theorem kyes4false_w (w : World) (hn : NamesAt w) : Calls Tryd.prog 4 #[.int .i64 4, .bool false] w fun e w' => e = .returned (.bool true) ∧ Below w.heap.size w w' := by
  go_enter Tryd.func4, Tryd.ntmps4
  go_wp2_with (first | (go_at_call 5; (with_reducible refine (shown_c _).mono ?_); rintro e w' ⟨rfl, rfl⟩) | (go_at_call 12; (with_reducible refine (name_c 4 _ hn).mono ?_); rintro e w' ⟨rfl, rfl⟩; rw [show kname 4 = ⟨#[117, 110, 115, 105, 103, 110, 101, 100, 32, 115, 104, 111, 114, 116]⟩ from rfl]))
  go_loopw [7, 8] (fun u i wr => Below w.heap.size w wr ∧ ∃ k : Nat, i = .int .i64 k ∧ k ≤ 14 ∧ (8 < k → ∃ g, u = .slice (some ⟨g, 0, none⟩) 2 2 ∧ wr.cell? ⟨g, 0, none⟩ = some (.string ⟨#[117, 110, 115, 105, 103, 110, 101, 100]⟩) ∧ wr.cell? ⟨g, 1, none⟩ = some (.string ⟨#[115, 104, 111, 114, 116]⟩))) (fun _ i _ => 14 - (intOf i).toNat)
  case atStart => exact ⟨bel_alloc (Below.refl _ _) _, 0, rfl, by omega, by omega⟩
  case round =>
    obtain ⟨hB, k, rfl, hk, hu⟩ := hrel
    obtain rfl | rfl | rfl | rfl | rfl | rfl | rfl | rfl | rfl | rfl | rfl | rfl | rfl | rfl | rfl : k = 0 ∨ k = 1 ∨ k = 2 ∨ k = 3 ∨ k = 4 ∨ k = 5 ∨ k = 6 ∨ k = 7 ∨ k = 8 ∨ k = 9 ∨ k = 10 ∨ k = 11 ∨ k = 12 ∨ k = 13 ∨ k = 14 := by omega
    · clear hu
      go_wp2
      go_roundw
      case rel => exact ⟨hB, 1, by go_num, by omega, by omega⟩
      case measure => simp [intOf]
    · clear hu
      go_wp2
      go_roundw
      case rel => exact ⟨hB, 2, by go_num, by omega, by omega⟩
      case measure => simp [intOf]
    · clear hu
      go_wp2
      go_roundw
      case rel => exact ⟨hB, 3, by go_num, by omega, by omega⟩
      case measure => simp [intOf]
    · clear hu
      go_wp2
      go_roundw
      case rel => exact ⟨hB, 4, by go_num, by omega, by omega⟩
      case measure => simp [intOf]
    · clear hu
      go_wp2
      go_roundw
      case rel => exact ⟨hB, 5, by go_num, by omega, by omega⟩
      case measure => simp [intOf]
    · clear hu
      go_wp2
      go_roundw
      case rel => exact ⟨hB, 6, by go_num, by omega, by omega⟩
      case measure => simp [intOf]
    · clear hu
      go_wp2
      go_roundw
      case rel => exact ⟨hB, 7, by go_num, by omega, by omega⟩
      case measure => simp [intOf]
    · clear hu
      go_wp2
      go_roundw
      case rel => exact ⟨hB, 8, by go_num, by omega, by omega⟩
      case measure => simp [intOf]
    · clear hu
      go_wp2_with fail
      go_region
      go_wp2_with fail
      go_roundw
      case rel => exact ⟨bel_drew (bel_alloc hB _), 9, by go_num, by omega, fun _ => ⟨_, rfl, cell_new _ _ _ 0 _ rfl, cell_new _ _ _ 1 _ rfl⟩⟩
      case measure => simp [intOf]
    · have hu := hu (by omega)
      obtain ⟨g, rfl, g0, g1⟩ := hu
      go_wp2
      go_roundw
      case rel => exact ⟨hB, 10, by go_num, by omega, fun _ => ⟨_, rfl, g0, g1⟩⟩
      case measure => simp [intOf]
    · have hu := hu (by omega)
      obtain ⟨g, rfl, g0, g1⟩ := hu
      go_wp2
      go_roundw
      case rel => exact ⟨hB, 11, by go_num, by omega, fun _ => ⟨_, rfl, g0, g1⟩⟩
      case measure => simp [intOf]
    · have hu := hu (by omega)
      obtain ⟨g, rfl, g0, g1⟩ := hu
      go_wp2
      go_roundw
      case rel => exact ⟨hB, 12, by go_num, by omega, fun _ => ⟨_, rfl, g0, g1⟩⟩
      case measure => simp [intOf]
    · have hu := hu (by omega)
      obtain ⟨g, rfl, g0, g1⟩ := hu
      go_wp2
      go_roundw
      case rel => exact ⟨hB, 13, by go_num, by omega, fun _ => ⟨_, rfl, g0, g1⟩⟩
      case measure => simp [intOf]
    · have hu := hu (by omega)
      obtain ⟨g, rfl, g0, g1⟩ := hu
      go_wp2
      go_roundw
      case rel => exact ⟨hB, 14, by go_num, by omega, fun _ => ⟨_, rfl, g0, g1⟩⟩
      case measure => simp [intOf]
    · have _h0 := hk
      obtain ⟨g, rfl, g0, g1⟩ := hu (by omega)
      have hF : StrsAt wr (some ⟨g, 0, none⟩) [⟨#[117, 110, 115, 105, 103, 110, 101, 100]⟩, ⟨#[115, 104, 111, 114, 116]⟩] := fun i s hs => by
        obtain rfl | rfl : i = 0 ∨ i = 1 := by have := (List.getElem?_eq_some_iff.1 hs).1; simp at this; omega
        · cases hs; exact ⟨_, _, rfl, g0⟩
        · cases hs; exact ⟨_, _, rfl, g1⟩
      have e1 : kofV (pl [⟨#[117, 110, 115, 105, 103, 110, 101, 100]⟩, ⟨#[115, 104, 111, 114, 116]⟩]) = 4 := by kernel_rfl
      have e2 : kofE (pl [⟨#[117, 110, 115, 105, 103, 110, 101, 100]⟩, ⟨#[115, 104, 111, 114, 116]⟩]) = 0 := by kernel_rfl
      go_wp2_with (go_at_call 14; refine (of_c (some ⟨g, 0, none⟩) 2 [⟨#[117, 110, 115, 105, 103, 110, 101, 100]⟩, ⟨#[115, 104, 111, 114, 116]⟩] _ hF (by decide) (by decide)).mono ?_; rintro e w2 ⟨rfl, hb2⟩; rw [e1, e2])
      go_ret
      exact ⟨rfl, bel_then hB hb2⟩
set_option maxRecDepth 100000 in
set_option maxHeartbeats 4000000 in
theorem kyes4true_w (w : World) (hn : NamesAt w) : Calls Tryd.prog 4 #[.int .i64 4, .bool true] w fun e w' => e = .returned (.bool true) ∧ Below w.heap.size w w' := by
  go_enter Tryd.func4, Tryd.ntmps4
  go_wp2_with (first | (go_at_call 5; (with_reducible refine (shown_c _).mono ?_); rintro e w' ⟨rfl, rfl⟩) | (go_at_call 12; (with_reducible refine (name_c 4 _ hn).mono ?_); rintro e w' ⟨rfl, rfl⟩; rw [show kname 4 = ⟨#[117, 110, 115, 105, 103, 110, 101, 100, 32, 115, 104, 111, 114, 116]⟩ from rfl]))
  go_loopw [7, 8] (fun u i wr => Below w.heap.size w wr ∧ ∃ k : Nat, i = .int .i64 k ∧ k ≤ 14 ∧ (8 < k → ∃ g, u = .slice (some ⟨g, 0, none⟩) 2 2 ∧ wr.cell? ⟨g, 0, none⟩ = some (.string ⟨#[115, 104, 111, 114, 116]⟩) ∧ wr.cell? ⟨g, 1, none⟩ = some (.string ⟨#[117, 110, 115, 105, 103, 110, 101, 100]⟩))) (fun _ i _ => 14 - (intOf i).toNat)
  case atStart => exact ⟨bel_alloc (Below.refl _ _) _, 0, rfl, by omega, by omega⟩
  case round =>
    obtain ⟨hB, k, rfl, hk, hu⟩ := hrel
    obtain rfl | rfl | rfl | rfl | rfl | rfl | rfl | rfl | rfl | rfl | rfl | rfl | rfl | rfl | rfl : k = 0 ∨ k = 1 ∨ k = 2 ∨ k = 3 ∨ k = 4 ∨ k = 5 ∨ k = 6 ∨ k = 7 ∨ k = 8 ∨ k = 9 ∨ k = 10 ∨ k = 11 ∨ k = 12 ∨ k = 13 ∨ k = 14 := by omega
    · clear hu
      go_wp2
      go_roundw
      case rel => exact ⟨hB, 1, by go_num, by omega, by omega⟩
      case measure => simp [intOf]
    · clear hu
      go_wp2
      go_roundw
      case rel => exact ⟨hB, 2, by go_num, by omega, by omega⟩
      case measure => simp [intOf]
    · clear hu
      go_wp2
      go_roundw
      case rel => exact ⟨hB, 3, by go_num, by omega, by omega⟩
      case measure => simp [intOf]
    · clear hu
      go_wp2
      go_roundw
      case rel => exact ⟨hB, 4, by go_num, by omega, by omega⟩
      case measure => simp [intOf]
    · clear hu
      go_wp2
      go_roundw
      case rel => exact ⟨hB, 5, by go_num, by omega, by omega⟩
      case measure => simp [intOf]
    · clear hu
      go_wp2
      go_roundw
      case rel => exact ⟨hB, 6, by go_num, by omega, by omega⟩
      case measure => simp [intOf]
    · clear hu
      go_wp2
      go_roundw
      case rel => exact ⟨hB, 7, by go_num, by omega, by omega⟩
      case measure => simp [intOf]
    · clear hu
      go_wp2
      go_roundw
      case rel => exact ⟨hB, 8, by go_num, by omega, by omega⟩
      case measure => simp [intOf]
    · clear hu
      go_wp2_with fail
      go_region
      go_wp2_with fail
      go_region
      go_wp2_with fail
      go_roundw
      case rel => exact ⟨bel_drew (bel_alloc (bel_drew (bel_alloc hB _)) _), 9, by go_num, by omega, fun _ => ⟨_, rfl, cell_new2 _ _ _ _ 0 _ rfl, cell_new2 _ _ _ _ 1 _ rfl⟩⟩
      case measure => simp [intOf]
    · have hu := hu (by omega)
      obtain ⟨g, rfl, g0, g1⟩ := hu
      go_wp2
      go_roundw
      case rel => exact ⟨hB, 10, by go_num, by omega, fun _ => ⟨_, rfl, g0, g1⟩⟩
      case measure => simp [intOf]
    · have hu := hu (by omega)
      obtain ⟨g, rfl, g0, g1⟩ := hu
      go_wp2
      go_roundw
      case rel => exact ⟨hB, 11, by go_num, by omega, fun _ => ⟨_, rfl, g0, g1⟩⟩
      case measure => simp [intOf]
    · have hu := hu (by omega)
      obtain ⟨g, rfl, g0, g1⟩ := hu
      go_wp2
      go_roundw
      case rel => exact ⟨hB, 12, by go_num, by omega, fun _ => ⟨_, rfl, g0, g1⟩⟩
      case measure => simp [intOf]
    · have hu := hu (by omega)
      obtain ⟨g, rfl, g0, g1⟩ := hu
      go_wp2
      go_roundw
      case rel => exact ⟨hB, 13, by go_num, by omega, fun _ => ⟨_, rfl, g0, g1⟩⟩
      case measure => simp [intOf]
    · have hu := hu (by omega)
      obtain ⟨g, rfl, g0, g1⟩ := hu
      go_wp2
      go_roundw
      case rel => exact ⟨hB, 14, by go_num, by omega, fun _ => ⟨_, rfl, g0, g1⟩⟩
      case measure => simp [intOf]
    · have _h0 := hk
      obtain ⟨g, rfl, g0, g1⟩ := hu (by omega)
      have hF : StrsAt wr (some ⟨g, 0, none⟩) [⟨#[115, 104, 111, 114, 116]⟩, ⟨#[117, 110, 115, 105, 103, 110, 101, 100]⟩] := fun i s hs => by
        obtain rfl | rfl : i = 0 ∨ i = 1 := by have := (List.getElem?_eq_some_iff.1 hs).1; simp at this; omega
        · cases hs; exact ⟨_, _, rfl, g0⟩
        · cases hs; exact ⟨_, _, rfl, g1⟩
      have e1 : kofV (pl [⟨#[115, 104, 111, 114, 116]⟩, ⟨#[117, 110, 115, 105, 103, 110, 101, 100]⟩]) = 4 := by kernel_rfl
      have e2 : kofE (pl [⟨#[115, 104, 111, 114, 116]⟩, ⟨#[117, 110, 115, 105, 103, 110, 101, 100]⟩]) = 0 := by kernel_rfl
      go_wp2_with (go_at_call 14; refine (of_c (some ⟨g, 0, none⟩) 2 [⟨#[115, 104, 111, 114, 116]⟩, ⟨#[117, 110, 115, 105, 103, 110, 101, 100]⟩] _ hF (by decide) (by decide)).mono ?_; rintro e w2 ⟨rfl, hb2⟩; rw [e1, e2])
      go_ret
      exact ⟨rfl, bel_then hB hb2⟩
set_option maxRecDepth 100000 in
set_option maxHeartbeats 4000000 in
theorem kyes5false_w (w : World) (hn : NamesAt w) : Calls Tryd.prog 4 #[.int .i64 5, .bool false] w fun e w' => e = .returned (.bool true) ∧ Below w.heap.size w w' := by
  go_enter Tryd.func4, Tryd.ntmps4
  go_wp2_with (first | (go_at_call 5; (with_reducible refine (shown_c _).mono ?_); rintro e w' ⟨rfl, rfl⟩) | (go_at_call 12; (with_reducible refine (name_c 5 _ hn).mono ?_); rintro e w' ⟨rfl, rfl⟩; rw [show kname 5 = ⟨#[105, 110, 116]⟩ from rfl]))
  go_loopw [7, 8] (fun u i wr => (wr.cell? ⟨w.heap.size, 0, none⟩ = some (.string ⟨#[105, 110, 116]⟩) ∧ u = .slice (some ⟨w.heap.size, 0, none⟩) 1 1 ∧ Below w.heap.size w wr) ∧ ∃ k : Nat, i = .int .i64 k ∧ k ≤ 3) (fun _ i _ => 3 - (intOf i).toNat)
  case atStart => exact ⟨⟨cell_new _ _ _ 0 _ rfl, rfl, bel_alloc (Below.refl _ _) _⟩, 0, rfl, by omega⟩
  case round =>
    obtain ⟨⟨hc, rfl, hB⟩, k, rfl, hk⟩ := hrel
    obtain rfl | rfl | rfl | rfl : k = 0 ∨ k = 1 ∨ k = 2 ∨ k = 3 := by omega
    · go_wp2
      go_roundw
      case rel => exact ⟨⟨hc, rfl, hB⟩, 1, by go_num, by omega⟩
      case measure => simp [intOf]
    · go_wp2
      go_roundw
      case rel => exact ⟨⟨hc, rfl, hB⟩, 2, by go_num, by omega⟩
      case measure => simp [intOf]
    · go_wp2
      go_roundw
      case rel => exact ⟨⟨hc, rfl, hB⟩, 3, by go_num, by omega⟩
      case measure => simp [intOf]
    · have _h0 := hk
      have hF : StrsAt wr (some ⟨w.heap.size, 0, none⟩) [⟨#[105, 110, 116]⟩] := fun i s hs => by
        obtain rfl : i = 0 := by have := (List.getElem?_eq_some_iff.1 hs).1; simpa using this
        cases hs
        exact ⟨_, _, rfl, hc⟩
      have e1 : kofV (pl [⟨#[105, 110, 116]⟩]) = 5 := by kernel_rfl
      have e2 : kofE (pl [⟨#[105, 110, 116]⟩]) = 0 := by kernel_rfl
      go_wp2_with (go_at_call 14; refine (of_c (some ⟨w.heap.size, 0, none⟩) 1 [⟨#[105, 110, 116]⟩] _ hF (by decide) (by decide)).mono ?_; rintro e w2 ⟨rfl, hb2⟩; rw [e1, e2])
      go_ret
      exact ⟨rfl, bel_then hB hb2⟩
set_option maxRecDepth 100000 in
set_option maxHeartbeats 4000000 in
theorem kyes5true_w (w : World) (hn : NamesAt w) : Calls Tryd.prog 4 #[.int .i64 5, .bool true] w fun e w' => e = .returned (.bool true) ∧ Below w.heap.size w w' := by
  go_enter Tryd.func4, Tryd.ntmps4
  go_wp2_with (first | (go_at_call 5; (with_reducible refine (shown_c _).mono ?_); rintro e w' ⟨rfl, rfl⟩) | (go_at_call 12; (with_reducible refine (name_c 5 _ hn).mono ?_); rintro e w' ⟨rfl, rfl⟩; rw [show kname 5 = ⟨#[105, 110, 116]⟩ from rfl]))
  go_loopw [7, 8] (fun u i wr => (wr.cell? ⟨w.heap.size, 0, none⟩ = some (.string ⟨#[105, 110, 116]⟩) ∧ u = .slice (some ⟨w.heap.size, 0, none⟩) 1 1 ∧ Below w.heap.size w wr) ∧ ∃ k : Nat, i = .int .i64 k ∧ k ≤ 3) (fun _ i _ => 3 - (intOf i).toNat)
  case atStart => exact ⟨⟨cell_new _ _ _ 0 _ rfl, rfl, bel_alloc (Below.refl _ _) _⟩, 0, rfl, by omega⟩
  case round =>
    obtain ⟨⟨hc, rfl, hB⟩, k, rfl, hk⟩ := hrel
    obtain rfl | rfl | rfl | rfl : k = 0 ∨ k = 1 ∨ k = 2 ∨ k = 3 := by omega
    · go_wp2
      go_roundw
      case rel => exact ⟨⟨hc, rfl, hB⟩, 1, by go_num, by omega⟩
      case measure => simp [intOf]
    · go_wp2
      go_roundw
      case rel => exact ⟨⟨hc, rfl, hB⟩, 2, by go_num, by omega⟩
      case measure => simp [intOf]
    · go_wp2
      go_roundw
      case rel => exact ⟨⟨hc, rfl, hB⟩, 3, by go_num, by omega⟩
      case measure => simp [intOf]
    · have _h0 := hk
      have hF : StrsAt wr (some ⟨w.heap.size, 0, none⟩) [⟨#[105, 110, 116]⟩] := fun i s hs => by
        obtain rfl : i = 0 := by have := (List.getElem?_eq_some_iff.1 hs).1; simpa using this
        cases hs
        exact ⟨_, _, rfl, hc⟩
      have e1 : kofV (pl [⟨#[105, 110, 116]⟩]) = 5 := by kernel_rfl
      have e2 : kofE (pl [⟨#[105, 110, 116]⟩]) = 0 := by kernel_rfl
      go_wp2_with (go_at_call 14; refine (of_c (some ⟨w.heap.size, 0, none⟩) 1 [⟨#[105, 110, 116]⟩] _ hF (by decide) (by decide)).mono ?_; rintro e w2 ⟨rfl, hb2⟩; rw [e1, e2])
      go_ret
      exact ⟨rfl, bel_then hB hb2⟩
set_option maxRecDepth 100000 in
set_option maxHeartbeats 4000000 in
theorem kyes6false_w (w : World) (hn : NamesAt w) : Calls Tryd.prog 4 #[.int .i64 6, .bool false] w fun e w' => e = .returned (.bool true) ∧ Below w.heap.size w w' := by
  go_enter Tryd.func4, Tryd.ntmps4
  go_wp2_with (first | (go_at_call 5; (with_reducible refine (shown_c _).mono ?_); rintro e w' ⟨rfl, rfl⟩) | (go_at_call 12; (with_reducible refine (name_c 6 _ hn).mono ?_); rintro e w' ⟨rfl, rfl⟩; rw [show kname 6 = ⟨#[117, 110, 115, 105, 103, 110, 101, 100, 32, 105, 110, 116]⟩ from rfl]))
  go_loopw [7, 8] (fun u i wr => Below w.heap.size w wr ∧ ∃ k : Nat, i = .int .i64 k ∧ k ≤ 12 ∧ (8 < k → ∃ g, u = .slice (some ⟨g, 0, none⟩) 2 2 ∧ wr.cell? ⟨g, 0, none⟩ = some (.string ⟨#[117, 110, 115, 105, 103, 110, 101, 100]⟩) ∧ wr.cell? ⟨g, 1, none⟩ = some (.string ⟨#[105, 110, 116]⟩))) (fun _ i _ => 12 - (intOf i).toNat)
  case atStart => exact ⟨bel_alloc (Below.refl _ _) _, 0, rfl, by omega, by omega⟩
  case round =>
    obtain ⟨hB, k, rfl, hk, hu⟩ := hrel
    obtain rfl | rfl | rfl | rfl | rfl | rfl | rfl | rfl | rfl | rfl | rfl | rfl | rfl : k = 0 ∨ k = 1 ∨ k = 2 ∨ k = 3 ∨ k = 4 ∨ k = 5 ∨ k = 6 ∨ k = 7 ∨ k = 8 ∨ k = 9 ∨ k = 10 ∨ k = 11 ∨ k = 12 := by omega
    · clear hu
      go_wp2
      go_roundw
      case rel => exact ⟨hB, 1, by go_num, by omega, by omega⟩
      case measure => simp [intOf]
    · clear hu
      go_wp2
      go_roundw
      case rel => exact ⟨hB, 2, by go_num, by omega, by omega⟩
      case measure => simp [intOf]
    · clear hu
      go_wp2
      go_roundw
      case rel => exact ⟨hB, 3, by go_num, by omega, by omega⟩
      case measure => simp [intOf]
    · clear hu
      go_wp2
      go_roundw
      case rel => exact ⟨hB, 4, by go_num, by omega, by omega⟩
      case measure => simp [intOf]
    · clear hu
      go_wp2
      go_roundw
      case rel => exact ⟨hB, 5, by go_num, by omega, by omega⟩
      case measure => simp [intOf]
    · clear hu
      go_wp2
      go_roundw
      case rel => exact ⟨hB, 6, by go_num, by omega, by omega⟩
      case measure => simp [intOf]
    · clear hu
      go_wp2
      go_roundw
      case rel => exact ⟨hB, 7, by go_num, by omega, by omega⟩
      case measure => simp [intOf]
    · clear hu
      go_wp2
      go_roundw
      case rel => exact ⟨hB, 8, by go_num, by omega, by omega⟩
      case measure => simp [intOf]
    · clear hu
      go_wp2_with fail
      go_region
      go_wp2_with fail
      go_roundw
      case rel => exact ⟨bel_drew (bel_alloc hB _), 9, by go_num, by omega, fun _ => ⟨_, rfl, cell_new _ _ _ 0 _ rfl, cell_new _ _ _ 1 _ rfl⟩⟩
      case measure => simp [intOf]
    · have hu := hu (by omega)
      obtain ⟨g, rfl, g0, g1⟩ := hu
      go_wp2
      go_roundw
      case rel => exact ⟨hB, 10, by go_num, by omega, fun _ => ⟨_, rfl, g0, g1⟩⟩
      case measure => simp [intOf]
    · have hu := hu (by omega)
      obtain ⟨g, rfl, g0, g1⟩ := hu
      go_wp2
      go_roundw
      case rel => exact ⟨hB, 11, by go_num, by omega, fun _ => ⟨_, rfl, g0, g1⟩⟩
      case measure => simp [intOf]
    · have hu := hu (by omega)
      obtain ⟨g, rfl, g0, g1⟩ := hu
      go_wp2
      go_roundw
      case rel => exact ⟨hB, 12, by go_num, by omega, fun _ => ⟨_, rfl, g0, g1⟩⟩
      case measure => simp [intOf]
    · have _h0 := hk
      obtain ⟨g, rfl, g0, g1⟩ := hu (by omega)
      have hF : StrsAt wr (some ⟨g, 0, none⟩) [⟨#[117, 110, 115, 105, 103, 110, 101, 100]⟩, ⟨#[105, 110, 116]⟩] := fun i s hs => by
        obtain rfl | rfl : i = 0 ∨ i = 1 := by have := (List.getElem?_eq_some_iff.1 hs).1; simp at this; omega
        · cases hs; exact ⟨_, _, rfl, g0⟩
        · cases hs; exact ⟨_, _, rfl, g1⟩
      have e1 : kofV (pl [⟨#[117, 110, 115, 105, 103, 110, 101, 100]⟩, ⟨#[105, 110, 116]⟩]) = 6 := by kernel_rfl
      have e2 : kofE (pl [⟨#[117, 110, 115, 105, 103, 110, 101, 100]⟩, ⟨#[105, 110, 116]⟩]) = 0 := by kernel_rfl
      go_wp2_with (go_at_call 14; refine (of_c (some ⟨g, 0, none⟩) 2 [⟨#[117, 110, 115, 105, 103, 110, 101, 100]⟩, ⟨#[105, 110, 116]⟩] _ hF (by decide) (by decide)).mono ?_; rintro e w2 ⟨rfl, hb2⟩; rw [e1, e2])
      go_ret
      exact ⟨rfl, bel_then hB hb2⟩
set_option maxRecDepth 100000 in
set_option maxHeartbeats 4000000 in
theorem kyes6true_w (w : World) (hn : NamesAt w) : Calls Tryd.prog 4 #[.int .i64 6, .bool true] w fun e w' => e = .returned (.bool true) ∧ Below w.heap.size w w' := by
  go_enter Tryd.func4, Tryd.ntmps4
  go_wp2_with (first | (go_at_call 5; (with_reducible refine (shown_c _).mono ?_); rintro e w' ⟨rfl, rfl⟩) | (go_at_call 12; (with_reducible refine (name_c 6 _ hn).mono ?_); rintro e w' ⟨rfl, rfl⟩; rw [show kname 6 = ⟨#[117, 110, 115, 105, 103, 110, 101, 100, 32, 105, 110, 116]⟩ from rfl]))
  go_loopw [7, 8] (fun u i wr => Below w.heap.size w wr ∧ ∃ k : Nat, i = .int .i64 k ∧ k ≤ 12 ∧ (8 < k → ∃ g, u = .slice (some ⟨g, 0, none⟩) 2 2 ∧ wr.cell? ⟨g, 0, none⟩ = some (.string ⟨#[105, 110, 116]⟩) ∧ wr.cell? ⟨g, 1, none⟩ = some (.string ⟨#[117, 110, 115, 105, 103, 110, 101, 100]⟩))) (fun _ i _ => 12 - (intOf i).toNat)
  case atStart => exact ⟨bel_alloc (Below.refl _ _) _, 0, rfl, by omega, by omega⟩
  case round =>
    obtain ⟨hB, k, rfl, hk, hu⟩ := hrel
    obtain rfl | rfl | rfl | rfl | rfl | rfl | rfl | rfl | rfl | rfl | rfl | rfl | rfl : k = 0 ∨ k = 1 ∨ k = 2 ∨ k = 3 ∨ k = 4 ∨ k = 5 ∨ k = 6 ∨ k = 7 ∨ k = 8 ∨ k = 9 ∨ k = 10 ∨ k = 11 ∨ k = 12 := by omega
    · clear hu
      go_wp2
      go_roundw
      case rel => exact ⟨hB, 1, by go_num, by omega, by omega⟩
      case measure => simp [intOf]
    · clear hu
      go_wp2
      go_roundw
      case rel => exact ⟨hB, 2, by go_num, by omega, by omega⟩
      case measure => simp [intOf]
    · clear hu
      go_wp2
      go_roundw
      case rel => exact ⟨hB, 3, by go_num, by omega, by omega⟩
      case measure => simp [intOf]
    · clear hu
      go_wp2
      go_roundw
      case rel => exact ⟨hB, 4, by go_num, by omega, by omega⟩
      case measure => simp [intOf]
    · clear hu
      go_wp2
      go_roundw
      case rel => exact ⟨hB, 5, by go_num, by omega, by omega⟩
      case measure => simp [intOf]
    · clear hu
      go_wp2
      go_roundw
      case rel => exact ⟨hB, 6, by go_num, by omega, by omega⟩
      case measure => simp [intOf]
    · clear hu
      go_wp2
      go_roundw
      case rel => exact ⟨hB, 7, by go_num, by omega, by omega⟩
      case measure => simp [intOf]
    · clear hu
      go_wp2
      go_roundw
      case rel => exact ⟨hB, 8, by go_num, by omega, by omega⟩
      case measure => simp [intOf]
    · clear hu
      go_wp2_with fail
      go_region
      go_wp2_with fail
      go_region
      go_wp2_with fail
      go_roundw
      case rel => exact ⟨bel_drew (bel_alloc (bel_drew (bel_alloc hB _)) _), 9, by go_num, by omega, fun _ => ⟨_, rfl, cell_new2 _ _ _ _ 0 _ rfl, cell_new2 _ _ _ _ 1 _ rfl⟩⟩
      case measure => simp [intOf]
    · have hu := hu (by omega)
      obtain ⟨g, rfl, g0, g1⟩ := hu
      go_wp2
      go_roundw
      case rel => exact ⟨hB, 10, by go_num, by omega, fun _ => ⟨_, rfl, g0, g1⟩⟩
      case measure => simp [intOf]
    · have hu := hu (by omega)
      obtain ⟨g, rfl, g0, g1⟩ := hu
      go_wp2
      go_roundw
      case rel => exact ⟨hB, 11, by go_num, by omega, fun _ => ⟨_, rfl, g0, g1⟩⟩
      case measure => simp [intOf]
    · have hu := hu (by omega)
      obtain ⟨g, rfl, g0, g1⟩ := hu
      go_wp2
      go_roundw
      case rel => exact ⟨hB, 12, by go_num, by omega, fun _ => ⟨_, rfl, g0, g1⟩⟩
      case measure => simp [intOf]
    · have _h0 := hk
      obtain ⟨g, rfl, g0, g1⟩ := hu (by omega)
      have hF : StrsAt wr (some ⟨g, 0, none⟩) [⟨#[105, 110, 116]⟩, ⟨#[117, 110, 115, 105, 103, 110, 101, 100]⟩] := fun i s hs => by
        obtain rfl | rfl : i = 0 ∨ i = 1 := by have := (List.getElem?_eq_some_iff.1 hs).1; simp at this; omega
        · cases hs; exact ⟨_, _, rfl, g0⟩
        · cases hs; exact ⟨_, _, rfl, g1⟩
      have e1 : kofV (pl [⟨#[105, 110, 116]⟩, ⟨#[117, 110, 115, 105, 103, 110, 101, 100]⟩]) = 6 := by kernel_rfl
      have e2 : kofE (pl [⟨#[105, 110, 116]⟩, ⟨#[117, 110, 115, 105, 103, 110, 101, 100]⟩]) = 0 := by kernel_rfl
      go_wp2_with (go_at_call 14; refine (of_c (some ⟨g, 0, none⟩) 2 [⟨#[105, 110, 116]⟩, ⟨#[117, 110, 115, 105, 103, 110, 101, 100]⟩] _ hF (by decide) (by decide)).mono ?_; rintro e w2 ⟨rfl, hb2⟩; rw [e1, e2])
      go_ret
      exact ⟨rfl, bel_then hB hb2⟩
set_option maxRecDepth 100000 in
set_option maxHeartbeats 4000000 in
theorem kyes7false_w (w : World) (hn : NamesAt w) : Calls Tryd.prog 4 #[.int .i64 7, .bool false] w fun e w' => e = .returned (.bool true) ∧ Below w.heap.size w w' := by
  go_enter Tryd.func4, Tryd.ntmps4
  go_wp2_with (first | (go_at_call 5; (with_reducible refine (shown_c _).mono ?_); rintro e w' ⟨rfl, rfl⟩) | (go_at_call 12; (with_reducible refine (name_c 7 _ hn).mono ?_); rintro e w' ⟨rfl, rfl⟩; rw [show kname 7 = ⟨#[108, 111, 110, 103]⟩ from rfl]))
  go_loopw [7, 8] (fun u i wr => (wr.cell? ⟨w.heap.size, 0, none⟩ = some (.string ⟨#[108, 111, 110, 103]⟩) ∧ u = .slice (some ⟨w.heap.size, 0, none⟩) 1 1 ∧ Below w.heap.size w wr) ∧ ∃ k : Nat, i = .int .i64 k ∧ k ≤ 4) (fun _ i _ => 4 - (intOf i).toNat)
  case atStart => exact ⟨⟨cell_new _ _ _ 0 _ rfl, rfl, bel_alloc (Below.refl _ _) _⟩, 0, rfl, by omega⟩
  case round =>
    obtain ⟨⟨hc, rfl, hB⟩, k, rfl, hk⟩ := hrel
    obtain rfl | rfl | rfl | rfl | rfl : k = 0 ∨ k = 1 ∨ k = 2 ∨ k = 3 ∨ k = 4 := by omega
    · go_wp2
      go_roundw
      case rel => exact ⟨⟨hc, rfl, hB⟩, 1, by go_num, by omega⟩
      case measure => simp [intOf]
    · go_wp2
      go_roundw
      case rel => exact ⟨⟨hc, rfl, hB⟩, 2, by go_num, by omega⟩
      case measure => simp [intOf]
    · go_wp2
      go_roundw
      case rel => exact ⟨⟨hc, rfl, hB⟩, 3, by go_num, by omega⟩
      case measure => simp [intOf]
    · go_wp2
      go_roundw
      case rel => exact ⟨⟨hc, rfl, hB⟩, 4, by go_num, by omega⟩
      case measure => simp [intOf]
    · have _h0 := hk
      have hF : StrsAt wr (some ⟨w.heap.size, 0, none⟩) [⟨#[108, 111, 110, 103]⟩] := fun i s hs => by
        obtain rfl : i = 0 := by have := (List.getElem?_eq_some_iff.1 hs).1; simpa using this
        cases hs
        exact ⟨_, _, rfl, hc⟩
      have e1 : kofV (pl [⟨#[108, 111, 110, 103]⟩]) = 7 := by kernel_rfl
      have e2 : kofE (pl [⟨#[108, 111, 110, 103]⟩]) = 0 := by kernel_rfl
      go_wp2_with (go_at_call 14; refine (of_c (some ⟨w.heap.size, 0, none⟩) 1 [⟨#[108, 111, 110, 103]⟩] _ hF (by decide) (by decide)).mono ?_; rintro e w2 ⟨rfl, hb2⟩; rw [e1, e2])
      go_ret
      exact ⟨rfl, bel_then hB hb2⟩
set_option maxRecDepth 100000 in
set_option maxHeartbeats 4000000 in
theorem kyes7true_w (w : World) (hn : NamesAt w) : Calls Tryd.prog 4 #[.int .i64 7, .bool true] w fun e w' => e = .returned (.bool true) ∧ Below w.heap.size w w' := by
  go_enter Tryd.func4, Tryd.ntmps4
  go_wp2_with (first | (go_at_call 5; (with_reducible refine (shown_c _).mono ?_); rintro e w' ⟨rfl, rfl⟩) | (go_at_call 12; (with_reducible refine (name_c 7 _ hn).mono ?_); rintro e w' ⟨rfl, rfl⟩; rw [show kname 7 = ⟨#[108, 111, 110, 103]⟩ from rfl]))
  go_loopw [7, 8] (fun u i wr => (wr.cell? ⟨w.heap.size, 0, none⟩ = some (.string ⟨#[108, 111, 110, 103]⟩) ∧ u = .slice (some ⟨w.heap.size, 0, none⟩) 1 1 ∧ Below w.heap.size w wr) ∧ ∃ k : Nat, i = .int .i64 k ∧ k ≤ 4) (fun _ i _ => 4 - (intOf i).toNat)
  case atStart => exact ⟨⟨cell_new _ _ _ 0 _ rfl, rfl, bel_alloc (Below.refl _ _) _⟩, 0, rfl, by omega⟩
  case round =>
    obtain ⟨⟨hc, rfl, hB⟩, k, rfl, hk⟩ := hrel
    obtain rfl | rfl | rfl | rfl | rfl : k = 0 ∨ k = 1 ∨ k = 2 ∨ k = 3 ∨ k = 4 := by omega
    · go_wp2
      go_roundw
      case rel => exact ⟨⟨hc, rfl, hB⟩, 1, by go_num, by omega⟩
      case measure => simp [intOf]
    · go_wp2
      go_roundw
      case rel => exact ⟨⟨hc, rfl, hB⟩, 2, by go_num, by omega⟩
      case measure => simp [intOf]
    · go_wp2
      go_roundw
      case rel => exact ⟨⟨hc, rfl, hB⟩, 3, by go_num, by omega⟩
      case measure => simp [intOf]
    · go_wp2
      go_roundw
      case rel => exact ⟨⟨hc, rfl, hB⟩, 4, by go_num, by omega⟩
      case measure => simp [intOf]
    · have _h0 := hk
      have hF : StrsAt wr (some ⟨w.heap.size, 0, none⟩) [⟨#[108, 111, 110, 103]⟩] := fun i s hs => by
        obtain rfl : i = 0 := by have := (List.getElem?_eq_some_iff.1 hs).1; simpa using this
        cases hs
        exact ⟨_, _, rfl, hc⟩
      have e1 : kofV (pl [⟨#[108, 111, 110, 103]⟩]) = 7 := by kernel_rfl
      have e2 : kofE (pl [⟨#[108, 111, 110, 103]⟩]) = 0 := by kernel_rfl
      go_wp2_with (go_at_call 14; refine (of_c (some ⟨w.heap.size, 0, none⟩) 1 [⟨#[108, 111, 110, 103]⟩] _ hF (by decide) (by decide)).mono ?_; rintro e w2 ⟨rfl, hb2⟩; rw [e1, e2])
      go_ret
      exact ⟨rfl, bel_then hB hb2⟩
set_option maxRecDepth 100000 in
set_option maxHeartbeats 4000000 in
theorem kyes8false_w (w : World) (hn : NamesAt w) : Calls Tryd.prog 4 #[.int .i64 8, .bool false] w fun e w' => e = .returned (.bool true) ∧ Below w.heap.size w w' := by
  go_enter Tryd.func4, Tryd.ntmps4
  go_wp2_with (first | (go_at_call 5; (with_reducible refine (shown_c _).mono ?_); rintro e w' ⟨rfl, rfl⟩) | (go_at_call 12; (with_reducible refine (name_c 8 _ hn).mono ?_); rintro e w' ⟨rfl, rfl⟩; rw [show kname 8 = ⟨#[117, 110, 115, 105, 103, 110, 101, 100, 32, 108, 111, 110, 103]⟩ from rfl]))
  go_loopw [7, 8] (fun u i wr => Below w.heap.size w wr ∧ ∃ k : Nat, i = .int .i64 k ∧ k ≤ 13 ∧ (8 < k → ∃ g, u = .slice (some ⟨g, 0, none⟩) 2 2 ∧ wr.cell? ⟨g, 0, none⟩ = some (.string ⟨#[117, 110, 115, 105, 103, 110, 101, 100]⟩) ∧ wr.cell? ⟨g, 1, none⟩ = some (.string ⟨#[108, 111, 110, 103]⟩))) (fun _ i _ => 13 - (intOf i).toNat)
  case atStart => exact ⟨bel_alloc (Below.refl _ _) _, 0, rfl, by omega, by omega⟩
  case round =>
    obtain ⟨hB, k, rfl, hk, hu⟩ := hrel
    obtain rfl | rfl | rfl | rfl | rfl | rfl | rfl | rfl | rfl | rfl | rfl | rfl | rfl | rfl : k = 0 ∨ k = 1 ∨ k = 2 ∨ k = 3 ∨ k = 4 ∨ k = 5 ∨ k = 6 ∨ k = 7 ∨ k = 8 ∨ k = 9 ∨ k = 10 ∨ k = 11 ∨ k = 12 ∨ k = 13 := by omega
    · clear hu
      go_wp2
      go_roundw
      case rel => exact ⟨hB, 1, by go_num, by omega, by omega⟩
      case measure => simp [intOf]
    · clear hu
      go_wp2
      go_roundw
      case rel => exact ⟨hB, 2, by go_num, by omega, by omega⟩
      case measure => simp [intOf]
    · clear hu
      go_wp2
      go_roundw
      case rel => exact ⟨hB, 3, by go_num, by omega, by omega⟩
      case measure => simp [intOf]
    · clear hu
      go_wp2
      go_roundw
      case rel => exact ⟨hB, 4, by go_num, by omega, by omega⟩
      case measure => simp [intOf]
    · clear hu
      go_wp2
      go_roundw
      case rel => exact ⟨hB, 5, by go_num, by omega, by omega⟩
      case measure => simp [intOf]
    · clear hu
      go_wp2
      go_roundw
      case rel => exact ⟨hB, 6, by go_num, by omega, by omega⟩
      case measure => simp [intOf]
    · clear hu
      go_wp2
      go_roundw
      case rel => exact ⟨hB, 7, by go_num, by omega, by omega⟩
      case measure => simp [intOf]
    · clear hu
      go_wp2
      go_roundw
      case rel => exact ⟨hB, 8, by go_num, by omega, by omega⟩
      case measure => simp [intOf]
    · clear hu
      go_wp2_with fail
      go_region
      go_wp2_with fail
      go_roundw
      case rel => exact ⟨bel_drew (bel_alloc hB _), 9, by go_num, by omega, fun _ => ⟨_, rfl, cell_new _ _ _ 0 _ rfl, cell_new _ _ _ 1 _ rfl⟩⟩
      case measure => simp [intOf]
    · have hu := hu (by omega)
      obtain ⟨g, rfl, g0, g1⟩ := hu
      go_wp2
      go_roundw
      case rel => exact ⟨hB, 10, by go_num, by omega, fun _ => ⟨_, rfl, g0, g1⟩⟩
      case measure => simp [intOf]
    · have hu := hu (by omega)
      obtain ⟨g, rfl, g0, g1⟩ := hu
      go_wp2
      go_roundw
      case rel => exact ⟨hB, 11, by go_num, by omega, fun _ => ⟨_, rfl, g0, g1⟩⟩
      case measure => simp [intOf]
    · have hu := hu (by omega)
      obtain ⟨g, rfl, g0, g1⟩ := hu
      go_wp2
      go_roundw
      case rel => exact ⟨hB, 12, by go_num, by omega, fun _ => ⟨_, rfl, g0, g1⟩⟩
      case measure => simp [intOf]
    · have hu := hu (by omega)
      obtain ⟨g, rfl, g0, g1⟩ := hu
      go_wp2
      go_roundw
      case rel => exact ⟨hB, 13, by go_num, by omega, fun _ => ⟨_, rfl, g0, g1⟩⟩
      case measure => simp [intOf]
    · have _h0 := hk
      obtain ⟨g, rfl, g0, g1⟩ := hu (by omega)
      have hF : StrsAt wr (some ⟨g, 0, none⟩) [⟨#[117, 110, 115, 105, 103, 110, 101, 100]⟩, ⟨#[108, 111, 110, 103]⟩] := fun i s hs => by
        obtain rfl | rfl : i = 0 ∨ i = 1 := by have := (List.getElem?_eq_some_iff.1 hs).1; simp at this; omega
        · cases hs; exact ⟨_, _, rfl, g0⟩
        · cases hs; exact ⟨_, _, rfl, g1⟩
      have e1 : kofV (pl [⟨#[117, 110, 115, 105, 103, 110, 101, 100]⟩, ⟨#[108, 111, 110, 103]⟩]) = 8 := by kernel_rfl
      have e2 : kofE (pl [⟨#[117, 110, 115, 105, 103, 110, 101, 100]⟩, ⟨#[108, 111, 110, 103]⟩]) = 0 := by kernel_rfl
      go_wp2_with (go_at_call 14; refine (of_c (some ⟨g, 0, none⟩) 2 [⟨#[117, 110, 115, 105, 103, 110, 101, 100]⟩, ⟨#[108, 111, 110, 103]⟩] _ hF (by decide) (by decide)).mono ?_; rintro e w2 ⟨rfl, hb2⟩; rw [e1, e2])
      go_ret
      exact ⟨rfl, bel_then hB hb2⟩
set_option maxRecDepth 100000 in
set_option maxHeartbeats 4000000 in
theorem kyes8true_w (w : World) (hn : NamesAt w) : Calls Tryd.prog 4 #[.int .i64 8, .bool true] w fun e w' => e = .returned (.bool true) ∧ Below w.heap.size w w' := by
  go_enter Tryd.func4, Tryd.ntmps4
  go_wp2_with (first | (go_at_call 5; (with_reducible refine (shown_c _).mono ?_); rintro e w' ⟨rfl, rfl⟩) | (go_at_call 12; (with_reducible refine (name_c 8 _ hn).mono ?_); rintro e w' ⟨rfl, rfl⟩; rw [show kname 8 = ⟨#[117, 110, 115, 105, 103, 110, 101, 100, 32, 108, 111, 110, 103]⟩ from rfl]))
  go_loopw [7, 8] (fun u i wr => Below w.heap.size w wr ∧ ∃ k : Nat, i = .int .i64 k ∧ k ≤ 13 ∧ (8 < k → ∃ g, u = .slice (some ⟨g, 0, none⟩) 2 2 ∧ wr.cell? ⟨g, 0, none⟩ = some (.string ⟨#[108, 111, 110, 103]⟩) ∧ wr.cell? ⟨g, 1, none⟩ = some (.string ⟨#[117, 110, 115, 105, 103, 110, 101, 100]⟩))) (fun _ i _ => 13 - (intOf i).toNat)
  case atStart => exact ⟨bel_alloc (Below.refl _ _) _, 0, rfl, by omega, by omega⟩
  case round =>
    obtain ⟨hB, k, rfl, hk, hu⟩ := hrel
    obtain rfl | rfl | rfl | rfl | rfl | rfl | rfl | rfl | rfl | rfl | rfl | rfl | rfl | rfl : k = 0 ∨ k = 1 ∨ k = 2 ∨ k = 3 ∨ k = 4 ∨ k = 5 ∨ k = 6 ∨ k = 7 ∨ k = 8 ∨ k = 9 ∨ k = 10 ∨ k = 11 ∨ k = 12 ∨ k = 13 := by omega
    · clear hu
      go_wp2
      go_roundw
      case rel => exact ⟨hB, 1, by go_num, by omega, by omega⟩
      case measure => simp [intOf]
    · clear hu
      go_wp2
      go_roundw
      case rel => exact ⟨hB, 2, by go_num, by omega, by omega⟩
      case measure => simp [intOf]
    · clear hu
      go_wp2
      go_roundw
      case rel => exact ⟨hB, 3, by go_num, by omega, by omega⟩
      case measure => simp [intOf]
    · clear hu
      go_wp2
      go_roundw
      case rel => exact ⟨hB, 4, by go_num, by omega, by omega⟩
      case measure => simp [intOf]
    · clear hu
      go_wp2
      go_roundw
      case rel => exact ⟨hB, 5, by go_num, by omega, by omega⟩
      case measure => simp [intOf]
    · clear hu
      go_wp2
      go_roundw
      case rel => exact ⟨hB, 6, by go_num, by omega, by omega⟩
      case measure => simp [intOf]
    · clear hu
      go_wp2
      go_roundw
      case rel => exact ⟨hB, 7, by go_num, by omega, by omega⟩
      case measure => simp [intOf]
    · clear hu
      go_wp2
      go_roundw
      case rel => exact ⟨hB, 8, by go_num, by omega, by omega⟩
      case measure => simp [intOf]
    · clear hu
      go_wp2_with fail
      go_region
      go_wp2_with fail
      go_region
      go_wp2_with fail
      go_roundw
      case rel => exact ⟨bel_drew (bel_alloc (bel_drew (bel_alloc hB _)) _), 9, by go_num, by omega, fun _ => ⟨_, rfl, cell_new2 _ _ _ _ 0 _ rfl, cell_new2 _ _ _ _ 1 _ rfl⟩⟩
      case measure => simp [intOf]
    · have hu := hu (by omega)
      obtain ⟨g, rfl, g0, g1⟩ := hu
      go_wp2
      go_roundw
      case rel => exact ⟨hB, 10, by go_num, by omega, fun _ => ⟨_, rfl, g0, g1⟩⟩
      case measure => simp [intOf]
    · have hu := hu (by omega)
      obtain ⟨g, rfl, g0, g1⟩ := hu
      go_wp2
      go_roundw
      case rel => exact ⟨hB, 11, by go_num, by omega, fun _ => ⟨_, rfl, g0, g1⟩⟩
      case measure => simp [intOf]
    · have hu := hu (by omega)
      obtain ⟨g, rfl, g0, g1⟩ := hu
      go_wp2
      go_roundw
      case rel => exact ⟨hB, 12, by go_num, by omega, fun _ => ⟨_, rfl, g0, g1⟩⟩
      case measure => simp [intOf]
    · have hu := hu (by omega)
      obtain ⟨g, rfl, g0, g1⟩ := hu
      go_wp2
      go_roundw
      case rel => exact ⟨hB, 13, by go_num, by omega, fun _ => ⟨_, rfl, g0, g1⟩⟩
      case measure => simp [intOf]
    · have _h0 := hk
      obtain ⟨g, rfl, g0, g1⟩ := hu (by omega)
      have hF : StrsAt wr (some ⟨g, 0, none⟩) [⟨#[108, 111, 110, 103]⟩, ⟨#[117, 110, 115, 105, 103, 110, 101, 100]⟩] := fun i s hs => by
        obtain rfl | rfl : i = 0 ∨ i = 1 := by have := (List.getElem?_eq_some_iff.1 hs).1; simp at this; omega
        · cases hs; exact ⟨_, _, rfl, g0⟩
        · cases hs; exact ⟨_, _, rfl, g1⟩
      have e1 : kofV (pl [⟨#[108, 111, 110, 103]⟩, ⟨#[117, 110, 115, 105, 103, 110, 101, 100]⟩]) = 8 := by kernel_rfl
      have e2 : kofE (pl [⟨#[108, 111, 110, 103]⟩, ⟨#[117, 110, 115, 105, 103, 110, 101, 100]⟩]) = 0 := by kernel_rfl
      go_wp2_with (go_at_call 14; refine (of_c (some ⟨g, 0, none⟩) 2 [⟨#[108, 111, 110, 103]⟩, ⟨#[117, 110, 115, 105, 103, 110, 101, 100]⟩] _ hF (by decide) (by decide)).mono ?_; rintro e w2 ⟨rfl, hb2⟩; rw [e1, e2])
      go_ret
      exact ⟨rfl, bel_then hB hb2⟩
theorem knm_w (k : Int) (b : Bool) (w : World) (hn : NamesAt w) (h : isK k = false) : Calls Tryd.prog 4 #[.int .i64 k, .bool b] w fun e w' => e = .returned (.bool true) ∧ Below w.heap.size w w' := by
  have H := Lib.hid h
  have HS := Lib.hid (isK_false h).1
  cases h0 : k == 0 with
  | true =>
    obtain rfl : k = 0 := by simpa using h0
    clear h h0
    go_enter Tryd.func4, Tryd.ntmps4
    go_wp2_with (first | (go_at_call 5; (with_reducible refine (shown_c _).mono ?_); rintro e w' ⟨rfl, rfl⟩) | (go_at_call 12; (with_reducible refine (name_c 0 _ hn).mono ?_); rintro e w' ⟨rfl, rfl⟩; rw [show kname 0 = ⟨#[118, 111, 105, 100]⟩ from rfl]) | (go_at_call 8; (with_reducible refine (size_c 0 _).mono ?_); rintro e w' ⟨rfl, rfl⟩; rw [HS.out]))
    go_ret
    exact ⟨rfl, Below.refl _ _⟩
  | false =>
    have HN := Lib.hid (kname_no h h0)
    clear h
    go_enter Tryd.func4, Tryd.ntmps4
    go_wp2_with (first | (go_at_call 5; (with_reducible refine (shown_c _).mono ?_); rintro e w' ⟨rfl, rfl⟩) | (go_at_call 12; (with_reducible refine (name_c k _ hn).mono ?_); rintro e w' ⟨rfl, rfl⟩; rw [HN.out]) | (go_at_call 8; (with_reducible refine (size_c k _).mono ?_); rintro e w' ⟨rfl, rfl⟩; rw [HS.out]))
    go_ret
    exact ⟨rfl, Below.refl _ _⟩
theorem kindNames_w (k : Int) (b : Bool) (w : World) (hn : NamesAt w) : Calls Tryd.prog 4 #[.int .i64 k, .bool b] w fun e w' => e = .returned (.bool true) ∧ Below w.heap.size w w' := by
  cases h : isK k with
  | false => exact knm_w k b w hn h
  | true =>
    rcases isK_cases h with rfl | rfl | rfl | rfl | rfl | rfl | rfl | rfl
    · cases b
      · exact kyes1false_w w hn
      · exact kyes1true_w w hn
    · cases b
      · exact kyes2false_w w hn
      · exact kyes2true_w w hn
    · cases b
      · exact kyes3false_w w hn
      · exact kyes3true_w w hn
    · cases b
      · exact kyes4false_w w hn
      · exact kyes4true_w w hn
    · cases b
      · exact kyes5false_w w hn
      · exact kyes5true_w w hn
    · cases b
      · exact kyes6false_w w hn
      · exact kyes6true_w w hn
    · cases b
      · exact kyes7false_w w hn
      · exact kyes7true_w w hn
    · cases b
      · exact kyes8false_w w hn
      · exact kyes8true_w w hn
end Go.Proofs.YtcggghamnmflcaaDoor
