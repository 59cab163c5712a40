/- The walk of burinlaw10.stands: a right member, a spot of its width. -/
import Derived.Test.YtcggghamnmflcaaPla
namespace Go.Proofs.Ytcggghamnmflcaa
open Go Go.RowKit Go.Shelf
def standsB (bits ag k xbit : Int) : Bool :=
  if bits < 0 then xbit % (8 * ag) == 0 else if bits = 0 then xbit % (8 * ksize k) == 0 else xbit / (8 * ksize k) == (xbit + bits - 1) / (8 * ksize k)
set_option maxRecDepth 100000 in
set_option maxHeartbeats 4000000 in
theorem stands_c {d : Nat} {f : Fld (Tp d)} {n al xbit xb xk sz ag : Int} {A1 A2 : Option Addr} {n1 n2 c1 c2 : Nat} {pk : Bool} {w : World} (ht : TyAt w d f.t [.int .i64 (tsh d f.t), .int .i64 (tk d f.t), .int .i64 n, .slice A1 n1 c1, .slice A2 n2 c2, .bool pk, .int .i64 al])
    (he : errS d f.t = 0) (hsz : szS d f.t = sz) (hag : agS d f.t = ag) (s1 : 1 ≤ sz) (s2 : sz ≤ 65536) (a1 : 1 ≤ ag) (a2 : ag ≤ 64) (x1 : 0 ≤ xbit) (x2 : xbit ≤ 1000000000) (hx : xb = if f.bits < 0 then 8 * sz else f.bits) (hk : 0 ≤ f.bits → 1 ≤ ksize (tk d f.t) ∧ ksize (tk d f.t) ≤ 8 ∧ f.bits ≤ 64) :
    Calls Try.prog 48 #[.agg #[.string f.nm, .int .i64 (tsh d f.t), .int .i64 (tk d f.t), .int .i64 n, .slice A1 n1 c1, .slice A2 n2 c2, .bool pk, .int .i64 al, .int .i64 f.bits], .agg #[.int .i64 xbit, .int .i64 xb, .int .i64 xk]] w
      fun e w' => e = .returned (.bool (standsB f.bits ag (tk d f.t) xbit)) ∧ Below w.heap.size w w' := by
  have HS := fun w' (hb : Below w.heap.size w w') => ssize_c (ht.below hb)
  rw [he, hsz, hag] at HS
  have HS := Lib.hid HS
  clear he hsz hag ht
  obtain ⟨sh, hsh⟩ : ∃ x, tsh d f.t = x := ⟨_, rfl⟩
  obtain ⟨k, hkk⟩ : ∃ x, tk d f.t = x := ⟨_, rfl⟩
  obtain ⟨bits, hbits⟩ : ∃ x, f.bits = x := ⟨_, rfl⟩
  rw [hsh, hkk] at HS ⊢
  rw [hbits] at hx hk ⊢
  rw [hkk] at hk
  clear hsh hkk hbits
  by_cases hb : bits < 0
  · rw [if_pos hb] at hx
    subst hx
    clear hk
    cases hc : (xbit % (8 * ag) == 0) with
    | true =>
      have HR := Lib.hid (show standsB bits ag k xbit = true by unfold standsB; rw [if_pos hb]; exact hc)
      go_enter Try.func48, Try.ntmps48
      go_wp2_with fail
      refine (HS.out _ (bel_alloc (bel_alloc (Below.refl _ _) _) _)).mono ?_
      rintro e w1 ⟨rfl, hb1⟩
      have hF := ((Bk.new w 56 #[.string f.nm, .int .i64 sh, .int .i64 k, .int .i64 n, .slice A1 n1 c1, .slice A2 n2 c2, .bool pk, .int .i64 al, .int .i64 bits]).alloc (.cells #[.int .i64 xbit, .int .i64 (8 * sz), .int .i64 xk] 48)).below hb1 (by simp; omega)
      have hX := (Bk.new1 w (.cells #[.string f.nm, .int .i64 sh, .int .i64 k, .int .i64 n, .slice A1 n1 c1, .slice A2 n2 c2, .bool pk, .int .i64 al, .int .i64 bits] 56) 48 #[.int .i64 xbit, .int .i64 (8 * sz), .int .i64 xk]).below hb1 (by simp)
      have HB := Lib.hid (bel_then (bel_alloc (bel_alloc (Below.refl _ _) _) _) hb1)
      clear hb1
      have f2 := hF.at_ (i := 2) rfl
      have f8 := hF.at_ (i := 8) rfl
      have q0 := hX.at_ (i := 0) rfl
      have q1 := hX.at_ (i := 1) rfl
      go_wp2_with fail
      go_ret
      exact ⟨by rw [HR.out]; rfl, HB.out⟩
    | false =>
      have HR := Lib.hid (show standsB bits ag k xbit = false by unfold standsB; rw [if_pos hb]; exact hc)
      go_enter Try.func48, Try.ntmps48
      go_wp2_with fail
      refine (HS.out _ (bel_alloc (bel_alloc (Below.refl _ _) _) _)).mono ?_
      rintro e w1 ⟨rfl, hb1⟩
      have hF := ((Bk.new w 56 #[.string f.nm, .int .i64 sh, .int .i64 k, .int .i64 n, .slice A1 n1 c1, .slice A2 n2 c2, .bool pk, .int .i64 al, .int .i64 bits]).alloc (.cells #[.int .i64 xbit, .int .i64 (8 * sz), .int .i64 xk] 48)).below hb1 (by simp; omega)
      have hX := (Bk.new1 w (.cells #[.string f.nm, .int .i64 sh, .int .i64 k, .int .i64 n, .slice A1 n1 c1, .slice A2 n2 c2, .bool pk, .int .i64 al, .int .i64 bits] 56) 48 #[.int .i64 xbit, .int .i64 (8 * sz), .int .i64 xk]).below hb1 (by simp)
      have HB := Lib.hid (bel_then (bel_alloc (bel_alloc (Below.refl _ _) _) _) hb1)
      clear hb1
      have f2 := hF.at_ (i := 2) rfl
      have f8 := hF.at_ (i := 8) rfl
      have q0 := hX.at_ (i := 0) rfl
      have q1 := hX.at_ (i := 1) rfl
      go_wp2_with fail
      go_ret
      exact ⟨by rw [HR.out]; rfl, HB.out⟩
  · rw [if_neg hb] at hx
    subst hx
    obtain ⟨k1, k2, k3⟩ := hk (by omega)
    clear hk
    obtain ⟨u, hu⟩ : ∃ u, ksize k = u := ⟨_, rfl⟩
    have HK := Lib.hid hu
    rw [hu] at k1 k2
    clear hu
    by_cases hz : xb = 0
    · subst hz
      cases hc : (xbit % (8 * u) == 0) with
      | true =>
        have HR := Lib.hid (show standsB 0 ag k xbit = true by unfold standsB; rw [if_neg hb, if_pos rfl, HK.out]; exact hc)
        go_enter Try.func48, Try.ntmps48
        go_wp2_with fail
        refine (HS.out _ (bel_alloc (bel_alloc (Below.refl _ _) _) _)).mono ?_
        rintro e w1 ⟨rfl, hb1⟩
        have hF := ((Bk.new w 56 #[.string f.nm, .int .i64 sh, .int .i64 k, .int .i64 n, .slice A1 n1 c1, .slice A2 n2 c2, .bool pk, .int .i64 al, .int .i64 0]).alloc (.cells #[.int .i64 xbit, .int .i64 0, .int .i64 xk] 48)).below hb1 (by simp; omega)
        have hX := (Bk.new1 w (.cells #[.string f.nm, .int .i64 sh, .int .i64 k, .int .i64 n, .slice A1 n1 c1, .slice A2 n2 c2, .bool pk, .int .i64 al, .int .i64 0] 56) 48 #[.int .i64 xbit, .int .i64 0, .int .i64 xk]).below hb1 (by simp)
        have HB := Lib.hid (bel_then (bel_alloc (bel_alloc (Below.refl _ _) _) _) hb1)
        clear hb1
        have f2 := hF.at_ (i := 2) rfl
        have f8 := hF.at_ (i := 8) rfl
        have q0 := hX.at_ (i := 0) rfl
        have q1 := hX.at_ (i := 1) rfl
        go_wp2_with fail
        refine (size_c _ _).mono ?_
        rintro e w2 ⟨rfl, rfl⟩
        rw [HK.out]
        go_wp2_with fail
        go_quiet (fail)
        go_wp2_with fail
        go_ret
        exact ⟨by rw [HR.out]; rfl, bel_drewN HB.out _⟩
      | false =>
        have HR := Lib.hid (show standsB 0 ag k xbit = false by unfold standsB; rw [if_neg hb, if_pos rfl, HK.out]; exact hc)
        go_enter Try.func48, Try.ntmps48
        go_wp2_with fail
        refine (HS.out _ (bel_alloc (bel_alloc (Below.refl _ _) _) _)).mono ?_
        rintro e w1 ⟨rfl, hb1⟩
        have hF := ((Bk.new w 56 #[.string f.nm, .int .i64 sh, .int .i64 k, .int .i64 n, .slice A1 n1 c1, .slice A2 n2 c2, .bool pk, .int .i64 al, .int .i64 0]).alloc (.cells #[.int .i64 xbit, .int .i64 0, .int .i64 xk] 48)).below hb1 (by simp; omega)
        have hX := (Bk.new1 w (.cells #[.string f.nm, .int .i64 sh, .int .i64 k, .int .i64 n, .slice A1 n1 c1, .slice A2 n2 c2, .bool pk, .int .i64 al, .int .i64 0] 56) 48 #[.int .i64 xbit, .int .i64 0, .int .i64 xk]).below hb1 (by simp)
        have HB := Lib.hid (bel_then (bel_alloc (bel_alloc (Below.refl _ _) _) _) hb1)
        clear hb1
        have f2 := hF.at_ (i := 2) rfl
        have f8 := hF.at_ (i := 8) rfl
        have q0 := hX.at_ (i := 0) rfl
        have q1 := hX.at_ (i := 1) rfl
        go_wp2_with fail
        refine (size_c _ _).mono ?_
        rintro e w2 ⟨rfl, rfl⟩
        rw [HK.out]
        go_wp2_with fail
        go_quiet (fail)
        go_wp2_with fail
        go_ret
        exact ⟨by rw [HR.out]; rfl, bel_drewN HB.out _⟩
    · have hz' : (xb == 0) = false := by simpa using hz
      cases hc : (xbit / (8 * u) == (xbit + xb - 1) / (8 * u)) with
      | true =>
        have HR := Lib.hid (show standsB xb ag k xbit = true by unfold standsB; rw [if_neg hb, if_neg hz, HK.out]; exact hc)
        have hpos : 0 < xb := by omega
        have hpos' : decide (0 < xb) = true := decide_eq_true hpos
        clear hz
        go_enter Try.func48, Try.ntmps48
        go_wp2_with fail
        refine (HS.out _ (bel_alloc (bel_alloc (Below.refl _ _) _) _)).mono ?_
        rintro e w1 ⟨rfl, hb1⟩
        have hF := ((Bk.new w 56 #[.string f.nm, .int .i64 sh, .int .i64 k, .int .i64 n, .slice A1 n1 c1, .slice A2 n2 c2, .bool pk, .int .i64 al, .int .i64 xb]).alloc (.cells #[.int .i64 xbit, .int .i64 xb, .int .i64 xk] 48)).below hb1 (by simp; omega)
        have hX := (Bk.new1 w (.cells #[.string f.nm, .int .i64 sh, .int .i64 k, .int .i64 n, .slice A1 n1 c1, .slice A2 n2 c2, .bool pk, .int .i64 al, .int .i64 xb] 56) 48 #[.int .i64 xbit, .int .i64 xb, .int .i64 xk]).below hb1 (by simp)
        have HB := Lib.hid (bel_then (bel_alloc (bel_alloc (Below.refl _ _) _) _) hb1)
        clear hb1
        have f2 := hF.at_ (i := 2) rfl
        have f8 := hF.at_ (i := 8) rfl
        have q0 := hX.at_ (i := 0) rfl
        have q1 := hX.at_ (i := 1) rfl
        go_wp2_with fail
        refine (size_c _ _).mono ?_
        rintro e w2 ⟨rfl, rfl⟩
        rw [HK.out]
        go_wp2_with fail
        go_quiet (fail)
        go_wp2_with fail
        go_ret
        exact ⟨by rw [HR.out]; rfl, bel_drewN HB.out _⟩
      | false =>
        have HR := Lib.hid (show standsB xb ag k xbit = false by unfold standsB; rw [if_neg hb, if_neg hz, HK.out]; exact hc)
        have hpos : 0 < xb := by omega
        have hpos' : decide (0 < xb) = true := decide_eq_true hpos
        clear hz
        go_enter Try.func48, Try.ntmps48
        go_wp2_with fail
        refine (HS.out _ (bel_alloc (bel_alloc (Below.refl _ _) _) _)).mono ?_
        rintro e w1 ⟨rfl, hb1⟩
        have hF := ((Bk.new w 56 #[.string f.nm, .int .i64 sh, .int .i64 k, .int .i64 n, .slice A1 n1 c1, .slice A2 n2 c2, .bool pk, .int .i64 al, .int .i64 xb]).alloc (.cells #[.int .i64 xbit, .int .i64 xb, .int .i64 xk] 48)).below hb1 (by simp; omega)
        have hX := (Bk.new1 w (.cells #[.string f.nm, .int .i64 sh, .int .i64 k, .int .i64 n, .slice A1 n1 c1, .slice A2 n2 c2, .bool pk, .int .i64 al, .int .i64 xb] 56) 48 #[.int .i64 xbit, .int .i64 xb, .int .i64 xk]).below hb1 (by simp)
        have HB := Lib.hid (bel_then (bel_alloc (bel_alloc (Below.refl _ _) _) _) hb1)
        clear hb1
        have f2 := hF.at_ (i := 2) rfl
        have f8 := hF.at_ (i := 8) rfl
        have q0 := hX.at_ (i := 0) rfl
        have q1 := hX.at_ (i := 1) rfl
        go_wp2_with fail
        refine (size_c _ _).mono ?_
        rintro e w2 ⟨rfl, rfl⟩
        rw [HK.out]
        go_wp2_with fail
        go_quiet (fail)
        go_wp2_with fail
        go_ret
        exact ⟨by rw [HR.out]; rfl, bel_drewN HB.out _⟩
end Go.Proofs.Ytcggghamnmflcaa
