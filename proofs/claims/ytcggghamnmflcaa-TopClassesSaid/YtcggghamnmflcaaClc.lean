/- burintop.shownClass, and the law TopClasses. -/
import Derived.Test.YtcggghamnmflcaaClb
import Derived.Test.YtcggghamnmflcaaSrj
import Derived.BigQuiet
namespace Go.Proofs.Ytcggghamnmflcaa
open Go Go.RowKit Go.Shelf
def shownC : Tp 2 := ({ sh := 4, k := 0, n := 0, of := [], fs := [⟨⟨#[97]⟩, intT 5, -1⟩], pk := false, al := 16 } : Nd (Tp 1))
theorem shownC_e : clsE 2 shownC = 0 := by kernel_rfl
theorem shownC_l : clsL 2 shownC = [1, 0] := by kernel_rfl
def shownCC : Array Value := #[.string ⟨#[97]⟩, .int .i64 1, .int .i64 5, .int .i64 0, .slice none 0 0, .slice none 0 0, .bool false, .int .i64 0, .int .i64 (-1)]
theorem shownC_at (W : World) (g : Nat) (t : TypeId) (h : Bk W g t shownCC) : TyAt W 2 shownC [.int .i64 4, .int .i64 0, .int .i64 0, .slice none 0 0, .slice (some ⟨g, 0, none⟩) 1 1, .bool false, .int .i64 16] := by
  refine ⟨none, some ⟨g, 0, none⟩, 0, 1, rfl, (i64d (n := 4) (by decide)), (i64d (n := 0) (by decide)), (i64d (n := 0) (by decide)), (i64d (n := 16) (by decide)), Nat.le_refl _, Nat.le_refl _, by decide, by decide, fun i x h => by simp [shownC] at h, fun i x hx => ?_⟩
  match i, hx with
  | 0, hx =>
    cases hx
    exact ⟨g, 0, _, rfl, rfl, (i64d (n := -1) (by decide)), by decide, row_of_bk h _ _ (fun j v hv => by
      match j, hv with
      | 0, hv | 1, hv | 2, hv | 3, hv | 4, hv | 5, hv | 6, hv | 7, hv | 8, hv => exact hv
      | j + 9, hv => simp at hv), intT_at W 5 (i64d (by decide))⟩
  | i + 1, hx => simp [shownC] at hx
set_option maxRecDepth 100000 in
theorem shown38_c (w : World) : Calls Try.prog 38 #[] w fun e w' => e = .returned (.bool true) ∧ Below w.heap.size w w' := by
  go_enter Try.func38, Try.ntmps38
  go_wp2_with fail
  have hg := Bk.new w 56 shownCC
  have hb0 : Below w.heap.size w (w.alloc (.cells shownCC 56)) := bel_alloc (Below.refl _ _) _
  unfold shownCC at hg hb0
  generalize World.alloc w _ = W1 at hg hb0 ⊢
  have hS := classes_c (shownC_at W1 _ _ hg)
  rw [shownC_e, shownC_l] at hS
  refine hS.mono ?_
  rintro e w2 ⟨A, n, c, rfl, ⟨hn, hx⟩, hb2⟩
  obtain rfl : n = 2 := hn
  obtain ⟨b, o, rfl, x0⟩ := hx 0 _ rfl
  obtain ⟨b', o', he, x1⟩ := hx 1 _ rfl
  obtain ⟨rfl, rfl⟩ : b = b' ∧ o = o' := by simpa using he
  simp only [Nat.add_zero] at x0
  have hB := Lib.hid (bel_then hb0 hb2)
  clear hb0 hb2 hx he hS
  go_wp2_with fail
  go_ret
  exact ⟨rfl, hB.out⟩
theorem cls_0 {d : Nat} {t : Tp d} (h : clsE d t = 0) : errS d t = 0 ∧ tsh d t ≠ 3 ∧ leafE d t = 0 := by
  unfold clsE at h
  split at h
  · rename_i h0
    split at h
    · cases h
    · rename_i h1; exact ⟨h0, h1, h⟩
  · rename_i h0; exact absurd h h0
theorem clsV_len (m : Nat) (l : List Spt) : (clsV m l).length = m := by simp [clsV]
theorem clsV_get {m i : Nat} (l : List Spt) (h : i < m) : (clsV m l)[i]? = some (if l.any (covS · i) then 1 else 0) := by simp [clsV, h]
set_option maxRecDepth 100000 in
set_option maxHeartbeats 8000000 in
theorem topClasses_w (d : Nat) (t : Tp d) (v0 v1 v2 v3 v4 v5 v6 : Value) (w : World) (ht : TyAt w d t [v0, v1, v2, v3, v4, v5, v6]) :
    Calls Try.prog 8 #[.agg #[v0, v1, v2, v3, v4, v5, v6]] w fun e w' => e = .returned (.bool true) ∧ Below w.heap.size w w' := by
  have HX := fun w' (hb : Below w.heap.size w w') => classes_c (ht.below hb)
  have HS := fun w' (hb : Below w.heap.size w w') => ssize_c (ht.below hb)
  have HL := fun w' (hb : Below w.heap.size w w') => leaves40_c (ht.below hb)
  obtain ⟨er, her⟩ : ∃ x, errS d t = x := ⟨_, rfl⟩
  obtain ⟨f1, hf1⟩ : ∃ x, leafE d t = x := ⟨_, rfl⟩
  obtain ⟨sz, hsz⟩ : ∃ x, szS d t = x := ⟨_, rfl⟩
  obtain ⟨ag, hag⟩ : ∃ x, agS d t = x := ⟨_, rfl⟩
  obtain ⟨ll, hll⟩ : ∃ x, leafL d t = x := ⟨_, rfl⟩
  obtain ⟨ce, hce⟩ : ∃ x, clsE d t = x := ⟨_, rfl⟩
  obtain ⟨cl, hcl⟩ : ∃ x, clsL d t = x := ⟨_, rfl⟩
  rw [her, hsz, hag] at HS
  rw [hf1, hll] at HL
  rw [hce, hcl] at HX
  have HER := Lib.hid her
  have HF1 := Lib.hid hf1
  have HSZ := Lib.hid hsz
  have HLL := Lib.hid hll
  have HCE := Lib.hid hce
  have HCL := Lib.hid hcl
  replace HX := Lib.hid HX
  replace HS := Lib.hid HS
  replace HL := Lib.hid HL
  clear her hf1 hsz hag hll hce hcl ht
  go_enter Try.func8, Try.ntmps8
  go_wp2_with fail
  refine (shown38_c _).mono ?_
  rintro e w1 ⟨rfl, hb1⟩
  have hT1 := (Bk.new w 38 #[v0, v1, v2, v3, v4, v5, v6]).below hb1 (by simp)
  have t0 := hT1.at_ (i := 0) rfl; have t1 := hT1.at_ (i := 1) rfl; have t2 := hT1.at_ (i := 2) rfl; have t3 := hT1.at_ (i := 3) rfl; have t4 := hT1.at_ (i := 4) rfl; have t5 := hT1.at_ (i := 5) rfl; have t6 := hT1.at_ (i := 6) rfl
  have HB1 := Lib.hid (bel_then (bel_alloc (Below.refl _ _) _) hb1)
  clear hb1
  go_wp2_with fail
  refine (HX.out _ HB1.out).mono ?_
  rintro e w2 ⟨C, cn, cc, rfl, hC2, hb2⟩
  have hT2 := hT1.below hb2 hT1.lt
  have HC2 := Lib.hid hC2
  have HB2 := Lib.hid (bel_then HB1.out hb2)
  clear hb2 hC2 hT1 t0 t1 t2 t3 t4 t5 t6
  have t0 := hT2.at_ (i := 0) rfl; have t1 := hT2.at_ (i := 1) rfl; have t2 := hT2.at_ (i := 2) rfl; have t3 := hT2.at_ (i := 3) rfl; have t4 := hT2.at_ (i := 4) rfl; have t5 := hT2.at_ (i := 5) rfl; have t6 := hT2.at_ (i := 6) rfl
  go_wp2_with fail
  refine (HL.out _ HB2.out).mono ?_
  rintro e w3 ⟨A, nn, c, rfl, hA3, hb3⟩
  have hT3 := hT2.below hb3 hT2.lt
  have HC3 := Lib.hid (HC2.out.below hb3)
  have HA3 := Lib.hid hA3.1
  have HB3 := Lib.hid (bel_then HB2.out hb3)
  clear hb3 hA3 HC2 hT2 t0 t1 t2 t3 t4 t5 t6
  have t0 := hT3.at_ (i := 0) rfl; have t1 := hT3.at_ (i := 1) rfl; have t2 := hT3.at_ (i := 2) rfl; have t3 := hT3.at_ (i := 3) rfl; have t4 := hT3.at_ (i := 4) rfl; have t5 := hT3.at_ (i := 5) rfl; have t6 := hT3.at_ (i := 6) rfl
  go_wp2_with fail
  refine (HS.out _ HB3.out).mono ?_
  rintro e w4 ⟨rfl, hb4⟩
  have HC4 := Lib.hid (HC3.out.below hb4)
  have HA4 := Lib.hid (HA3.out.below hb4)
  have HB4 := Lib.hid (bel_then HB3.out hb4)
  clear hb4 HA3 HC3 hT3 t0 t1 t2 t3 t4 t5 t6
  cases e1 : (ce == 0) with
  | false =>
    have e1' : (ce != 0) = true := by rw [bne, e1]; rfl
    have hcl : cl = [] := by rw [← HCL.out]; unfold clsL; rw [if_neg (by rw [HCE.out]; simpa using e1)]
    obtain rfl : cn = 0 := by rw [HC4.out.1, hcl]; rfl
    clear hcl
    go_wp2_with fail
    go_ret
    exact ⟨rfl, HB4.out⟩
  | true =>
    obtain rfl : ce = 0 := by simpa using e1
    clear e1
    obtain ⟨p1, p2, p3⟩ := cls_0 HCE.out
    obtain rfl : er = 0 := HER.out.symm.trans p1
    obtain rfl : f1 = 0 := HF1.out.symm.trans p3
    obtain ⟨_, o1, o2⟩ := leaf_z p3
    have hol : ll = leavesS d t 0 := HLL.out.symm.trans o1
    rw [← hol] at o2
    obtain ⟨q1, q2⟩ := err_0 p1
    have hok := boxS_ok d t 6 _ q1 q2
    have hszb : sz = (boxD d t).size := by have := HSZ.out; unfold szS at this; rw [if_pos p1] at this; exact this.symm
    have z1 : 1 ≤ sz := by have := hok.1; omega
    have HRNG := Lib.hid (fun s (hs : s ∈ ll) => leaves_rng d t 0 _ q1 q2 s (by rw [← hol]; exact hs))
    rw [← hszb] at HRNG
    have z2 : sz ≤ 65536 := by have := hok.2.1; omega
    have HD := Lib.hid (show cl = if 16 < sz ∨ ll.any misS = true then [2] else clsV (((sz + 7) / 8).toNat) ll by rw [← HCL.out]; unfold clsL; rw [if_pos HCE.out, HSZ.out, ← hol])
    clear p1 p2 p3 o1 hol q1 q2 hok hszb
    obtain rfl : nn = ll.length := HA4.out.1
    by_cases h2 : 16 < sz ∨ ll.any misS = true
    · obtain rfl : cl = [2] := by rw [HD.out, if_pos h2]
      obtain rfl : cn = 1 := HC4.out.1
      obtain ⟨b, o, rfl, x0⟩ := HC4.out.2 0 _ rfl
      simp only [Nat.add_zero] at x0
      clear h2
      go_wp2_with fail
      go_ret
      exact ⟨rfl, HB4.out⟩
    · obtain ⟨m, hm, hm1, hm2⟩ : ∃ m : Nat, (sz + 7) / 8 = (m : Int) ∧ 1 ≤ m ∧ m ≤ 2 := ⟨((sz + 7) / 8).toNat, by omega, by omega, by omega⟩
      have hcl : cl = clsV m ll := by rw [HD.out, if_neg h2, hm, Int.toNat_natCast]
      have h16 : ¬ 16 < sz := fun h => h2 (.inl h)
      clear h2 HD
      subst hcl
      obtain rfl : cn = m := by rw [HC4.out.1, clsV_len]
      obtain ⟨b, o, rfl, x0⟩ := HC4.out.2 0 _ (clsV_get ll (show 0 < cn by omega))
      simp only [Nat.add_zero] at x0
      obtain ⟨f0, hf0⟩ : ∃ f0 : Int, (if ll.any (covS · 0) then (1 : Int) else 0) = f0 := ⟨_, rfl⟩
      have hf2 : f0 ≠ 2 := by rw [← hf0]; split <;> omega
      have hf3 : (f0 == 2) = false := by simpa using hf2
      rw [hf0] at x0
      clear hf0
      go_wp2_with fail
      clear x0 hf2 hf3 hm h16
      go_loopw [11] (fun s11 wr => ∃ i : Nat, i ≤ cn ∧ s11 = .int .i64 i ∧ Below w4.heap.size w4 wr) (fun i _ => cn - (intOf i).toNat)
      case atStart => exact ⟨0, Nat.zero_le _, rfl, Below.refl _ _⟩
      case round =>
        obtain ⟨i, hi, rfl, hb⟩ := hrel
        have HB := Lib.hid hb
        clear hb
        obtain ⟨wo, rfl⟩ : ∃ wo : World, wo = wr := ⟨_, rfl⟩
        by_cases hlt : i < cn
        · go_wp2_with fail
          go_loopw [12, 13] (fun s12 s13 wr => ∃ j : Nat, j ≤ ll.length ∧ s12 = .bool ((ll.take j).any (covS · i)) ∧ s13 = .int .i64 j ∧ Below w4.heap.size w4 wr) (fun _ j _ => ll.length - (intOf j).toNat)
          case atStart => exact ⟨0, Nat.zero_le _, rfl, rfl, HB.out⟩
          case round =>
            obtain ⟨j, hj, rfl, rfl, hb⟩ := hrel
            have HB2 := Lib.hid hb
            clear hb
            by_cases hlj : j < ll.length
            · obtain ⟨x, hx⟩ : ∃ x, ll[j]? = some x := ⟨_, List.getElem?_eq_getElem hlj⟩
              obtain ⟨xb, xo, rfl, a0, a1, a2⟩ := (HA4.out.below HB2.out).2 j x hx
              obtain ⟨r0, r1, r2, r3⟩ := HRNG.out x (List.mem_of_getElem? hx)
              have HN := Lib.hid (show (ll.take (j + 1)).any (covS · i) = ((ll.take j).any (covS · i) || (decide (x.bit < 64 * i + 64) && decide (64 * (i : Int) < x.bit + x.bits))) by
                rw [take_snoc_of hx, List.any_append]
                congr 1
                simp only [List.any_cons, List.any_nil, Bool.or_false]
                unfold covS
                rw [Bool.eq_iff_iff]
                simp only [Bool.and_eq_true, decide_eq_true_eq]
                omega)
              clear hx a2
              obtain ⟨on, hon⟩ : ∃ on, (ll.take j).any (covS · i) = on := ⟨_, rfl⟩
              rw [hon] at HN ⊢
              clear hon
              cases on with
              | true =>
                have HN2 := Lib.hid (show (ll.take (j + 1)).any (covS · i) = true by rw [HN.out]; rfl)
                go_wp2_with fail
                go_quiet (fail)
                go_wp2_with fail
                go_roundw
                case rel => exact ⟨j + 1, by omega, by rw [HN2.out], by go_num, bel_drewN HB2.out _⟩
                case measure => simp [intOf]; omega
              | false =>
                by_cases c1 : x.bit < 64 * i + 64
                · have HN2 := Lib.hid (show (ll.take (j + 1)).any (covS · i) = decide (64 * (i : Int) < x.bit + x.bits) by rw [HN.out, decide_eq_true c1]; simp)
                  go_wp2_with fail
                  go_quiet (fail)
                  go_wp2_with fail
                  go_roundw
                  case rel => exact ⟨j + 1, by omega, by rw [HN2.out], by go_num, bel_drewN HB2.out _⟩
                  case measure => simp [intOf]; omega
                · have HN2 := Lib.hid (show (ll.take (j + 1)).any (covS · i) = false by rw [HN.out, decide_eq_false c1]; simp)
                  have c1' : decide (x.bit < 64 * (i : Int) + 64) = false := decide_eq_false c1
                  go_wp2_with fail
                  go_quiet (fail)
                  go_wp2_with fail
                  go_roundw
                  case rel => exact ⟨j + 1, by omega, by rw [HN2.out], by go_num, bel_drewN HB2.out _⟩
                  case measure => simp [intOf]; omega
            · obtain ⟨b', o', he, y0⟩ := (HC4.out.below HB2.out).2 i _ (clsV_get ll hlt)
              obtain ⟨rfl, rfl⟩ : b = b' ∧ o = o' := by simpa using he
              rw [List.take_of_length_le (by omega)]
              obtain ⟨on, hon⟩ : ∃ on, ll.any (covS · i) = on := ⟨_, rfl⟩
              rw [hon] at y0 ⊢
              clear hon he
              cases on with
              | true =>
                simp only [if_true] at y0
                go_wp2_with fail
                go_roundw
                case rel => exact ⟨i + 1, by omega, by go_num, HB2.out⟩
                case measure => simp [intOf]; omega
              | false =>
                simp only [if_false, Bool.false_eq_true] at y0
                go_wp2_with fail
                go_roundw
                case rel => exact ⟨i + 1, by omega, by go_num, HB2.out⟩
                case measure => simp [intOf]; omega
        · go_wp2_with fail
          go_ret
          exact ⟨rfl, bel_then HB4.out HB.out⟩
end Go.Proofs.Ytcggghamnmflcaa
