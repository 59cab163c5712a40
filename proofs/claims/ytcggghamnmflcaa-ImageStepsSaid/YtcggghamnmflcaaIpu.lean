/- image.Put: what is written. -/
import Derived.Test.YtcggghamnmflcaaGi
namespace Go.Proofs.Ytcggghamnmflcaa
open Go Go.RowKit Go.Shelf
def putV (d : Nat) (t : Tp d) (s : ByteArray) (p : List Int) (v : Int) : ByteArray :=
  if sizedE d t s.size p = 0 then ofN (wrS (byN s) (spotS d t p).bit.toNat (v % 18446744073709551616).toNat (spotS d t p).bits.toNat) else ⟨#[]⟩
def PutP (d : Nat) (t : Tp d) (s : ByteArray) (p : List Int) (v : Int) (w : World) (e : Ending) (w' : World) : Prop :=
  e = .returned (.tuple #[.string (putV d t s p v), .int .i64 (sizedE d t s.size p)]) ∧ Below w.heap.size w w'
set_option maxRecDepth 100000 in
set_option maxHeartbeats 2000000 in
theorem put_c {d : Nat} {t : Tp d} {v0 v1 v2 v3 v4 v5 v6 : Value} (A : Option Addr) (p : List Int) (c : Nat) (s : ByteArray) (v : Int) (w : World) (ht : TyAt w d t [v0, v1, v2, v3, v4, v5, v6]) (hP : IntsAt w A p.length p) (hc1 : p.length ≤ c) (hc2 : c ≤ 9223372036854775807) (hs : s.size ≤ 9223372036854775807) :
    Calls Try.prog 61 #[.agg #[v0, v1, v2, v3, v4, v5, v6], .string s, .slice A p.length c, .int .i64 v] w (PutP d t s p v w) := by
  have HF := Lib.hid (fun w' (hb : Below w.heap.size w w') => sized_c A p c s w' (ht.below hb) (hP.below hb) hc1 hc2 hs)
  clear ht hP
  go_enter Try.func61, Try.ntmps61
  go_upto_region 1 with (fail)
  have hT := Bk.new w 38 #[v0, v1, v2, v3, v4, v5, v6]
  have hb0 := bel_alloc (Below.refl _ w) (.cells #[v0, v1, v2, v3, v4, v5, v6] 38)
  generalize World.alloc w _ = W0 at hT hb0 ⊢
  have t0 := hT.at_ (i := 0) rfl; have t1 := hT.at_ (i := 1) rfl; have t2 := hT.at_ (i := 2) rfl; have t3 := hT.at_ (i := 3) rfl; have t4 := hT.at_ (i := 4) rfl; have t5 := hT.at_ (i := 5) rfl; have t6 := hT.at_ (i := 6) rfl
  go_wp2_with fail
  refine (HF.out _ hb0).mono ?_
  rintro e w1 ⟨B, k, c', rfl, hb1⟩
  obtain ⟨sp, hsp⟩ : ∃ x, sizedS d t s.size p = x := ⟨_, rfl⟩
  obtain ⟨fe, hfe⟩ : ∃ x, sizedE d t s.size p = x := ⟨_, rfl⟩
  rw [hsp, hfe]
  have HSP := Lib.hid hsp
  have HFE := Lib.hid hfe
  have h6 := Bk.new w1 119 #[.int .i64 sp.bit, .int .i64 sp.bits, .int .i64 sp.k, .slice B k c']
  have hb2 := bel_alloc (bel_then hb0 hb1) (.cells #[.int .i64 sp.bit, .int .i64 sp.bits, .int .i64 sp.k, .slice B k c'] 119)
  clear t0 t1 t2 t3 t4 t5 t6 hb0 hb1 hT hsp hfe
  go_upto_region 2 with (fail)
  generalize World.alloc w1 _ = W3 at h6 hb2 ⊢
  by_cases he : fe = 0
  · subst he
    obtain ⟨e1, e2, e3, bt, bs, e4, e5, e6, e7, e8, e9⟩ := sized_0 HFE.out
    have hsp' : spotS d t p = sp := by rw [← e1, HSP.out]
    obtain ⟨u, hu⟩ : ∃ u : Nat, v % 18446744073709551616 = (u : Int) := ⟨(v % 18446744073709551616).toNat, by omega⟩
    have HPV := Lib.hid (show putV d t s p v = ofN (wrS (byN s) bt u bs) by
      unfold putV
      rw [if_pos HFE.out, e4, e5, Int.toNat_natCast, Int.toNat_natCast, hu, Int.toNat_natCast])
    rw [hsp'] at e4 e5
    obtain ⟨cap, W4, hrun, ⟨rest, hby⟩, hb4⟩ := conv_bytes W3 s
    have h64 := h6.below hb4 h6.lt
    have u0 := h64.at_ (i := 0) rfl; have u1 := h64.at_ (i := 1) rfl; have u2 := h64.at_ (i := 2) rfl
    rw [e4] at u0
    rw [e5] at u1
    have hl := byN_len s
    have HWR := write_c W3.heap.size cap (byN s) rest bt bs sp.k v u W4 hby (byN_lt s) (by omega) (by omega) e7 hu
    rw [hl] at HWR
    replace HWR := Lib.hid HWR
    have hlt : ∀ x ∈ wrS (byN s) bt u bs, x < 256 := wrQ_lt (byN_lt s) (bs := bs) (by omega) _ (fun x hx => by simpa using hx)
    have HLT := Lib.hid hlt
    have HLN := Lib.hid (show (wrS (byN s) bt u bs).length = s.size by rw [wrS_len, hl])
    have HB4 := Lib.hid (bel_then hb2 hb4)
    have hgz := hb2.size
    clear e1 e2 e3 e4 e5 e6 e7 e8 e9 hsp' hby hb4 h64 hl hu hlt
    go_wp2_with fail
    refine HWR.out.mono ?_
    rintro e w5 ⟨⟨r, rfl⟩, hby5, hgx⟩
    have HB5 := Lib.hid (Gx.bel HB4.out hgx hgz)
    have hcv := conv_back hby5 HLT.out cap
    rw [HLN.out] at hcv
    rw [← HPV.out] at hcv
    clear hby5 hgx hrun u0 u1 u2
    go_wp2_with fail
    go_ret2
    unfold PutP
    rw [HFE.out]
    exact ⟨rfl, HB5.out⟩
  · have hne : (fe != 0) = true := by simpa using he
    have HPV := Lib.hid (show putV d t s p v = ⟨#[]⟩ by unfold putV; rw [if_neg (by rw [HFE.out]; exact he)])
    go_wp2_with fail
    go_ret2
    unfold PutP
    rw [HPV.out, HFE.out]
    exact ⟨rfl, hb2⟩
end Go.Proofs.Ytcggghamnmflcaa
