/- ImageGets: what is read and written. -/
import Derived.Test.YtcggghamnmflcaaIrg
namespace Go.Proofs.Ytcggghamnmflcaa
open Go Go.RowKit Go.Shelf
set_option maxRecDepth 100000 in
set_option maxHeartbeats 4000000 in
theorem imageGets_w (d : Nat) (t : Tp d) (v0 v1 v2 v3 v4 v5 v6 : Value) (s : ByteArray) (A : Option Addr) (p : List Int) (c : Nat) (v : Int) (w : World) (ht : TyAt w d t [v0, v1, v2, v3, v4, v5, v6]) (hs : s.size ≤ 9223372036854775807)
    (hc1 : p.length ≤ c) (hc2 : c ≤ 9223372036854775807) (hP : IntsAt w A p.length p) :
    Calls Try.prog 19 #[.agg #[v0, v1, v2, v3, v4, v5, v6], .string s, .slice A p.length c, .int .i64 v] w fun e w' => e = .returned (.bool true) ∧ Below w.heap.size w w' := by
  have HG := Lib.hid (fun w' (hb : Below w.heap.size w w') => get_c A p c s w' (ht.below hb) (hP.below hb) hc1 hc2 hs)
  have HRG := Lib.hid (fun w' (hb : Below w.heap.size w w') => rget_c A p c s w' (ht.below hb) (hP.below hb) hc1 hc2 hs)
  have HPU := Lib.hid (fun w' (hb : Below w.heap.size w w') => put_c A p c s v w' (ht.below hb) (hP.below hb) hc1 hc2 hs)
  have HRP := Lib.hid (fun w' (hb : Below w.heap.size w w') => rput_c A p c s v w' (ht.below hb) (hP.below hb) hc1 hc2 hs)
  clear ht hP
  unfold GetP at HG HRG
  unfold PutP at HPU HRP
  obtain ⟨G, hG⟩ : ∃ x, getV d t s p = x := ⟨_, rfl⟩
  obtain ⟨X, hX⟩ : ∃ x, putV d t s p v = x := ⟨_, rfl⟩
  obtain ⟨E, hE⟩ : ∃ x, sizedE d t s.size p = x := ⟨_, rfl⟩
  rw [hG, hE] at HG HRG
  rw [hX, hE] at HPU HRP
  clear hG hX hE
  go_enter Try.func19, Try.ntmps19
  go_wp2_with fail
  refine (shown54_c _).mono ?_
  rintro e w1 ⟨rfl, hb1⟩
  have hT1 := (Bk.new w 38 #[v0, v1, v2, v3, v4, v5, v6]).below hb1 (by simp)
  have t0 := hT1.at_ (i := 0) rfl; have t1 := hT1.at_ (i := 1) rfl; have t2 := hT1.at_ (i := 2) rfl; have t3 := hT1.at_ (i := 3) rfl; have t4 := hT1.at_ (i := 4) rfl; have t5 := hT1.at_ (i := 5) rfl; have t6 := hT1.at_ (i := 6) rfl
  have HB1 := Lib.hid (bel_then (bel_alloc (Below.refl _ _) _) hb1)
  clear hb1
  go_wp2_with fail
  refine (HG.out _ HB1.out).mono ?_
  rintro e w2 ⟨rfl, hb2⟩
  have hT2 := hT1.below hb2 hT1.lt
  have HB2 := Lib.hid (bel_then HB1.out hb2)
  clear t0 t1 t2 t3 t4 t5 t6 hT1 HB1 hb2
  have t0 := hT2.at_ (i := 0) rfl; have t1 := hT2.at_ (i := 1) rfl; have t2 := hT2.at_ (i := 2) rfl; have t3 := hT2.at_ (i := 3) rfl; have t4 := hT2.at_ (i := 4) rfl; have t5 := hT2.at_ (i := 5) rfl; have t6 := hT2.at_ (i := 6) rfl
  go_wp2_with fail
  refine (HRG.out _ HB2.out).mono ?_
  rintro e w3 ⟨rfl, hb3⟩
  have hT3 := hT2.below hb3 hT2.lt
  have HB3 := Lib.hid (bel_then HB2.out hb3)
  clear t0 t1 t2 t3 t4 t5 t6 hT2 HB2 hb3
  have t0 := hT3.at_ (i := 0) rfl; have t1 := hT3.at_ (i := 1) rfl; have t2 := hT3.at_ (i := 2) rfl; have t3 := hT3.at_ (i := 3) rfl; have t4 := hT3.at_ (i := 4) rfl; have t5 := hT3.at_ (i := 5) rfl; have t6 := hT3.at_ (i := 6) rfl
  go_wp2_with fail
  refine (HPU.out _ HB3.out).mono ?_
  rintro e w4 ⟨rfl, hb4⟩
  have hT4 := hT3.below hb4 hT3.lt
  have HB4 := Lib.hid (bel_then HB3.out hb4)
  clear t0 t1 t2 t3 t4 t5 t6 hT3 HB3 hb4
  have t0 := hT4.at_ (i := 0) rfl; have t1 := hT4.at_ (i := 1) rfl; have t2 := hT4.at_ (i := 2) rfl; have t3 := hT4.at_ (i := 3) rfl; have t4 := hT4.at_ (i := 4) rfl; have t5 := hT4.at_ (i := 5) rfl; have t6 := hT4.at_ (i := 6) rfl
  go_wp2_with fail
  refine (HRP.out _ HB4.out).mono ?_
  rintro e w5 ⟨rfl, hb5⟩
  have HB5 := Lib.hid (bel_then HB4.out hb5)
  clear t0 t1 t2 t3 t4 t5 t6 hT4 HB4 hb5
  go_wp2_with fail
  go_ret
  exact ⟨rfl, HB5.out⟩
end Go.Proofs.Ytcggghamnmflcaa
