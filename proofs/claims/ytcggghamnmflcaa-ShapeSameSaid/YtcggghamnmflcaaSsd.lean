/- The law ShapeSame walked: whatever two types, it returns true. -/
import Derived.Test.YtcggghamnmflcaaSsc
namespace Go.Proofs.Ytcggghamnmflcaa
open Go Go.RowKit Go.Shelf
set_option maxRecDepth 100000 in
set_option maxHeartbeats 2000000 in
theorem shapeSame_w (d : Nat) (a : Tp d) (u0 u1 u2 u3 u4 u5 u6 : Value) (e : Nat) (b : Tp e) (v0 v1 v2 v3 v4 v5 v6 : Value) (w : World) (hta : TyAt w d a [u0, u1, u2, u3, u4, u5, u6]) (htb : TyAt w e b [v0, v1, v2, v3, v4, v5, v6]) :
    Calls Try.prog 14 #[.agg #[u0, u1, u2, u3, u4, u5, u6], .agg #[v0, v1, v2, v3, v4, v5, v6]] w fun e' w' => e' = .returned (.bool true) ∧ Below w.heap.size w w' := by
  obtain ⟨R, hR⟩ : ∃ R, sameS d e a b = R := ⟨_, rfl⟩
  have HC := fun w' (hb : Below w.heap.size w w') => same_c d e a b _ _ _ _ _ _ _ _ _ _ _ _ _ _ w' (hta.below hb) (htb.below hb)
  have HD := fun w' (hb : Below w.heap.size w w') => rsame_c d e a b _ _ _ _ _ _ _ _ _ _ _ _ _ _ w' (hta.below hb) (htb.below hb)
  rw [hR] at HC HD
  replace HC := Lib.hid HC
  replace HD := Lib.hid HD
  clear hR hta htb
  go_enter Try.func14, Try.ntmps14
  go_wp2_with fail
  refine (shown44_c _).mono ?_
  rintro e' w1 ⟨rfl, hb1⟩
  have hT := ((Bk.new w 38 #[u0, u1, u2, u3, u4, u5, u6]).alloc (.cells #[v0, v1, v2, v3, v4, v5, v6] 38)).below hb1 (by simp; omega)
  have hQ := (Bk.new1 w (.cells #[u0, u1, u2, u3, u4, u5, u6] 38) 38 #[v0, v1, v2, v3, v4, v5, v6]).below hb1 (by simp)
  have HB1 := Lib.hid (bel_then (bel_alloc (bel_alloc (Below.refl _ _) _) _) hb1)
  clear hb1
  go_wp2_with fail
  have Gu0 := fun s => BelS.cell (hT.at_ (i := 0) rfl) s
  have Gv0 := fun s => BelS.cell (hQ.at_ (i := 0) rfl) s
  have Gu1 := fun s => BelS.cell (hT.at_ (i := 1) rfl) s
  have Gv1 := fun s => BelS.cell (hQ.at_ (i := 1) rfl) s
  have Gu2 := fun s => BelS.cell (hT.at_ (i := 2) rfl) s
  have Gv2 := fun s => BelS.cell (hQ.at_ (i := 2) rfl) s
  have Gu3 := fun s => BelS.cell (hT.at_ (i := 3) rfl) s
  have Gv3 := fun s => BelS.cell (hQ.at_ (i := 3) rfl) s
  have Gu4 := fun s => BelS.cell (hT.at_ (i := 4) rfl) s
  have Gv4 := fun s => BelS.cell (hQ.at_ (i := 4) rfl) s
  have Gu5 := fun s => BelS.cell (hT.at_ (i := 5) rfl) s
  have Gv5 := fun s => BelS.cell (hQ.at_ (i := 5) rfl) s
  have Gu6 := fun s => BelS.cell (hT.at_ (i := 6) rfl) s
  have Gv6 := fun s => BelS.cell (hQ.at_ (i := 6) rfl) s
  have L1 : ∀ s : BelS w1, Calls Try.prog 51 #[.agg #[u0, u1, u2, u3, u4, u5, u6], .agg #[v0, v1, v2, v3, v4, v5, v6]] s.w fun e' w'' => e' = .returned (.bool R) ∧ ∃ s' : BelS w1, w'' = s'.w := fun s => (HC.out s.w (bel_then HB1.out s.h)).mono fun e' w'' ⟨he, hb⟩ => ⟨he, ⟨w'', bel_then s.h hb⟩, rfl⟩
  replace L1 := Lib.hid L1
  have L2 : ∀ s : BelS w1, Calls Try.prog 52 #[.agg #[u0, u1, u2, u3, u4, u5, u6], .agg #[v0, v1, v2, v3, v4, v5, v6]] s.w fun e' w'' => e' = .returned (.bool R) ∧ ∃ s' : BelS w1, w'' = s'.w := fun s => (HD.out s.w (bel_then HB1.out s.h)).mono fun e' w'' ⟨he, hb⟩ => ⟨he, ⟨w'', bel_then s.h hb⟩, rfl⟩
  replace L2 := Lib.hid L2
  refine region_tail (C := fun w' => ∃ s : BelS w1, w' = s.w) 10 (by kernel_rfl) (by kernel_rfl) ⟨⟨_, bel_drew (Below.refl _ _)⟩, rfl⟩ ?_
  simp only [List.take_succ_cons, List.take_zero, List.drop_succ_cons, List.drop_zero]
  repeat (go_big_quiet_step (first | (go_at_call 51; exact L1.out _) | (go_at_call 52; exact L2.out _)))
  refine wpQuiet_nil ?_
  rintro _ ⟨⟨w2, hb2⟩, rfl⟩
  go_wp2_with fail
  go_ret
  exact ⟨rfl, bel_then HB1.out hb2⟩
end Go.Proofs.Ytcggghamnmflcaa
