/- burinref11.through. -/
import Derived.Test.YtcggghamnmflcaaImz
import Derived.Test.YtcggghamnmflcaaIro
namespace Go.Proofs.Ytcggghamnmflcaa
open Go Go.RowKit Go.Shelf
/-- Which member of a union was led through last. -/
def lastM (M : List Stp) (k : Uky) : Option Int := M.foldl (fun c m => if ukOf m = k then some m.member else c) none
theorem lastM_snoc (M : List Stp) (m : Stp) (k : Uky) : lastM (M ++ [m]) k = if ukOf m = k then some m.member else lastM M k := by
  unfold lastM
  rw [List.foldl_append]
  rfl
/-- Is another member led through now? -/
def clrB (M : List Stp) (s : Stp) : Bool := match lastM M (ukOf s) with | some m => m != s.member | none => false
theorem clrB_snoc (M : List Stp) (m s : Stp) : clrB (M ++ [m]) s = if ukOf m = ukOf s then (m.member != s.member) else clrB M s := by
  unfold clrB
  rw [lastM_snoc]
  by_cases h : ukOf m = ukOf s
  · rw [if_pos h, if_pos h]
  · rw [if_neg h, if_neg h]
/-- The others. -/
def othM (M : List Stp) (s : Stp) : List Stp := M.filter fun m => decide (ukOf m ≠ ukOf s)
theorem othM_snoc (M : List Stp) (m s : Stp) : othM (M ++ [m]) s = if ukOf m = ukOf s then othM M s else othM M s ++ [m] := by
  unfold othM
  rw [List.filter_append]
  by_cases h : ukOf m = ukOf s
  · rw [if_pos h]; simp [h]
  · rw [if_neg h]; simp [h]
theorem othM_len (M : List Stp) (s : Stp) : (othM M s).length ≤ M.length := List.length_filter_le ..
theorem lastM_oth (M : List Stp) (s : Stp) (k : Uky) (h : k ≠ ukOf s) : lastM (othM M s) k = lastM M k := by
  have key : ∀ (M : List Stp) (c : Option Int), (M.filter fun m => decide (ukOf m ≠ ukOf s)).foldl (fun c m => if ukOf m = k then some m.member else c) c = M.foldl (fun c m => if ukOf m = k then some m.member else c) c := by
    intro M
    induction M with
    | nil => intro c; rfl
    | cons m M ih =>
      intro c
      by_cases hm : ukOf m = ukOf s
      · rw [List.filter_cons_of_neg (by simp [hm]), List.foldl_cons, ih, if_neg (by rw [hm]; exact fun e => h e.symm)]
      · rw [List.filter_cons_of_pos (by simp [hm]), List.foldl_cons, List.foldl_cons, ih]
  exact key M none
/-- What is met behind it. -/
def metM (M : List Stp) (s : Stp) : List Stp := othM M s ++ [s]
theorem lastM_met (M : List Stp) (s : Stp) (k : Uky) : lastM (metM M s) k = if k = ukOf s then some s.member else lastM M k := by
  unfold metM
  rw [lastM_snoc]
  by_cases h : k = ukOf s
  · rw [if_pos h.symm, if_pos h]
  · rw [if_neg (fun e => h e.symm), if_neg h, lastM_oth M s k h]
def clrL (l : List Nat) (M : List Stp) (s : Stp) : List Nat := if clrB M s = true then clr l s.from_.toNat s.size.toNat else l
/-- It does what the plain step does. -/
theorem thr_met {l : List Nat} {M : List Stp} {f : Uky → Option Int} (h : ∀ k, lastM M k = f k) (s : Stp) : thr1 (l, f) s = (clrL l M s, fun k => lastM (metM M s) k) := by
  unfold thr1 clrL clrB
  rw [h]
  simp only
  congr 1
  · cases f (ukOf s) with
    | none => rfl
    | some m =>
      simp only
      by_cases hm : m = s.member
      · rw [if_pos hm, if_neg (by simp [hm])]
      · rw [if_neg hm, if_pos (by simpa using hm)]
  · funext k
    rw [lastM_met, h]
theorem key_ne {m s : Stp} (h : ukOf m ≠ ukOf s) : m.from_ ≠ s.from_ ∨ (m.from_ = s.from_ ∧ m.deep ≠ s.deep) ∨ (m.from_ = s.from_ ∧ m.deep = s.deep ∧ m.size ≠ s.size) := by
  by_cases h1 : m.from_ = s.from_
  · by_cases h2 : m.deep = s.deep
    · by_cases h3 : m.size = s.size
      · exact absurd (by unfold ukOf; rw [h1, h2, h3]) h
      · exact .inr (.inr ⟨h1, h2, h3⟩)
    · exact .inr (.inl ⟨h1, h2⟩)
  · exact .inl h1
theorem key_eq {m s : Stp} (h : ukOf m = ukOf s) : m.from_ = s.from_ ∧ m.deep = s.deep ∧ m.size = s.size := by
  unfold ukOf at h
  injection h with h1 h2 h3
  exact ⟨h1, h3, h2⟩
theorem clr_succ {l : List Nat} {a n : Nat} (h : a + (n + 1) ≤ l.length) : (clr l a n).set (a + n) 0 = clr l a (n + 1) := by
  apply List.ext_getElem?
  intro i
  rw [clr_get h, List.getElem?_set, clr_len (by omega), clr_get (by omega)]
  by_cases h1 : i < a
  · rw [if_neg (by omega), if_pos h1, if_pos h1]
  · by_cases h2 : a + n = i
    · rw [if_pos h2, if_pos (by omega), if_neg h1, if_pos (by omega)]
    · rw [if_neg h2, if_neg h1, if_neg h1]
      by_cases h3 : i < a + n
      · rw [if_pos h3, if_pos (by omega)]
      · rw [if_neg h3, if_neg (by omega)]
set_option maxRecDepth 100000 in
set_option maxHeartbeats 4000000 in
theorem through_c (g cap : Nat) (l : List Nat) (rest : List Value) (B : Option Addr) (n c' : Nat) (M : List Stp) (s : Stp) (w : World) (h : ByA w g l rest) (hM : StpsAt w B n M) (hn : n ≤ 10000) (hc : n ≤ c') (hl : l.length ≤ 65536)
    (h1 : 0 ≤ s.from_) (h2 : 1 ≤ s.size) (h3 : s.from_ + s.size ≤ (l.length : Int)) :
    Calls Try.prog 93 #[.slice (some ⟨g, 0, none⟩) l.length cap, .slice B n c', .agg #[.int .i64 s.from_, .int .i64 s.size, .int .i64 s.deep, .int .i64 s.member]] w
      fun e w' => ∃ (B' : Option Addr) (n' c'' : Nat), e = .returned (.slice B' n' c'') ∧ n' ≤ n + 1 ∧ n' ≤ c'' ∧ StpsF w.heap.size w' B' n' (metM M s) ∧ ByA w' g (clrL l M s) rest ∧ Gx g w w' := by
  have hgl := h.lt
  obtain ⟨sf, hsf⟩ : ∃ y, s.from_ = y := ⟨_, rfl⟩
  obtain ⟨ss, hss⟩ : ∃ y, s.size = y := ⟨_, rfl⟩
  obtain ⟨sd, hsd⟩ : ∃ y, s.deep = y := ⟨_, rfl⟩
  obtain ⟨sm, hsm⟩ : ∃ y, s.member = y := ⟨_, rfl⟩
  rw [hsf] at h1 h3 ⊢
  rw [hss] at h2 h3 ⊢
  rw [hsd, hsm]
  have HSF := Lib.hid hsf; have HSS := Lib.hid hss; have HSD := Lib.hid hsd; have HSM := Lib.hid hsm
  have HM := Lib.hid hM
  have HN := Lib.hid hM.1
  clear hsf hss hsd hsm hM
  go_enter Try.func93, Try.ntmps93
  go_upto_region 1 with (fail)
  have h5 := Bk.new w 133 #[.int .i64 sf, .int .i64 ss, .int .i64 sd, .int .i64 sm]
  have hb0 := bel_alloc (Below.refl _ w) (.cells #[.int .i64 sf, .int .i64 ss, .int .i64 sd, .int .i64 sm] 133)
  have hby := h.alloc (.cells #[.int .i64 sf, .int .i64 ss, .int .i64 sd, .int .i64 sm] 133)
  have hz0 : (w.alloc (.cells #[.int .i64 sf, .int .i64 ss, .int .i64 sd, .int .i64 sm] 133)).heap.size = w.heap.size + 1 := by simp
  generalize World.alloc w _ = W0 at h5 hb0 hby hz0 ⊢
  clear h
  have H5 := Lib.hid h5
  have HB0 := Lib.hid hb0
  have HBY := Lib.hid hby
  clear h5 hb0 hby
  go_wp2_with fail
  go_loopw [7, 8, 9] (fun s7 s8 s9 wr => ∃ i : Nat, i ≤ n ∧ s9 = .int .i64 i ∧ s8 = .bool (clrB (M.take i) s) ∧ Below W0.heap.size W0 wr ∧ wr.ownsRow (w.heap.size + 1) 133 4 s7 (othM (M.take i) s).length (stpC (othM (M.take i) s))) (fun _ _ i _ => n - (intOf i).toNat)
  case atStart => exact ⟨0, Nat.zero_le _, rfl, rfl, Below.refl _ _, World.ownsRow_nil _ _ _ _⟩
  case round =>
    obtain ⟨i, hi, rfl, rfl, hbel, hrow⟩ := hrel
    have HB := Lib.hid hbel
    have HR := Lib.hid hrow
    have h5 := H5.out.below hbel H5.out.lt
    have hwz := hbel.size
    clear hbel hrow
    by_cases hlt : i < n
    · obtain ⟨m, hm⟩ : ∃ m, M[i]? = some m := ⟨_, List.getElem?_eq_getElem (by have := HN.out; omega)⟩
      obtain ⟨mb, mo, rfl, a0, a1, a2, a3⟩ := (HM.out.below HB0.out).2 i m hm
      replace a0 := bel_cell HB.out a0; replace a1 := bel_cell HB.out a1; replace a2 := bel_cell HB.out a2; replace a3 := bel_cell HB.out a3
      have HT := Lib.hid (take_snoc_of hm)
      have hlen := othM_len (M.take i) s
      have hli : (M.take i).length ≤ i := by rw [List.length_take]; omega
      obtain ⟨mf, hmf⟩ : ∃ y, m.from_ = y := ⟨_, rfl⟩
      obtain ⟨ms, hms⟩ : ∃ y, m.size = y := ⟨_, rfl⟩
      obtain ⟨md, hmd⟩ : ∃ y, m.deep = y := ⟨_, rfl⟩
      obtain ⟨mm, hmm⟩ : ∃ y, m.member = y := ⟨_, rfl⟩
      rw [hmf] at a0; rw [hms] at a1; rw [hmd] at a2; rw [hmm] at a3
      have HMF := Lib.hid hmf; have HMS := Lib.hid hms; have HMD := Lib.hid hmd; have HMM := Lib.hid hmm
      clear hm hmf hms hmd hmm
      obtain ⟨wo, rfl⟩ : ∃ wo : World, wo = wr := ⟨_, rfl⟩
      go_upto_region 7 with (fail)
      have h10 := Bk.new wo 133 #[.int .i64 mf, .int .i64 ms, .int .i64 md, .int .i64 mm]
      have h55 := h5.alloc (.cells #[.int .i64 mf, .int .i64 ms, .int .i64 md, .int .i64 mm] 133)
      have HB2 := Lib.hid (bel_alloc HB.out (.cells #[.int .i64 mf, .int .i64 ms, .int .i64 md, .int .i64 mm] 133))
      have HR2 := Lib.hid (HR.out.alloc (.cells #[.int .i64 mf, .int .i64 ms, .int .i64 md, .int .i64 mm] 133))
      obtain ⟨G10, hG10⟩ : ∃ y, wo.heap.size = y := ⟨_, rfl⟩
      have hg10 : w.heap.size + 1 ≤ G10 := by omega
      rw [hG10] at h10 ⊢
      generalize World.alloc wo _ = W2 at h10 h55 HB2 HR2 ⊢
      clear a0 a1 a2 a3 h5 hG10 HB HR hwz
      have k0 := h10.at_ (i := 0) rfl; have k1 := h10.at_ (i := 1) rfl; have k2 := h10.at_ (i := 2) rfl; have k3 := h10.at_ (i := 3) rfl
      have j0 := h55.at_ (i := 0) rfl; have j1 := h55.at_ (i := 1) rfl; have j2 := h55.at_ (i := 2) rfl; have j3 := h55.at_ (i := 3) rfl
      by_cases hk : ukOf m = ukOf s
      · obtain ⟨q1, q2, q3⟩ := key_eq hk
        rw [HMF.out, HSF.out] at q1
        rw [HMD.out, HSD.out] at q2
        rw [HMS.out, HSS.out] at q3
        have e1 : (mf == sf) = true := by rw [q1]; simp
        have e2 : (md == sd) = true := by rw [q2]; simp
        have e3 : (ms == ss) = true := by rw [q3]; simp
        have HC := Lib.hid (show clrB (M.take (i + 1)) s = (mm != sm) by rw [HT.out, clrB_snoc, if_pos hk, HMM.out, HSM.out])
        have HO := Lib.hid (show othM (M.take (i + 1)) s = othM (M.take i) s by rw [HT.out, othM_snoc, if_pos hk])
        clear q1 q2 q3 hk
        go_wp2_with fail
        go_roundw
        case rel => exact ⟨i + 1, by omega, by go_num, by rw [HC.out], HB2.out, by rw [HO.out]; exact HR2.out⟩
        case measure => simp [intOf]; omega
      · have HC := Lib.hid (show clrB (M.take (i + 1)) s = clrB (M.take i) s by rw [HT.out, clrB_snoc, if_neg hk])
        have HO := Lib.hid (show othM (M.take (i + 1)) s = othM (M.take i) s ++ [⟨mf, ms, md, mm⟩] by
          rw [HT.out, othM_snoc, if_neg hk, ← HMF.out, ← HMS.out, ← HMD.out, ← HMM.out])
        rcases key_ne hk with h | ⟨h1, h⟩ | ⟨h1, h2, h⟩
        · rw [HMF.out, HSF.out] at h
          have e1 : (mf == sf) = false := by simpa using h
          clear h hk
          have hrow := HR2.out
          obtain ⟨i0', hi0, hz0', hz1', hz2'⟩ := info_parts info133
          have hwz2 := HB2.out.size
          go_upto_region 9 with (fail)
          go_wp2_with (at_builtin; refine wpList_append_own _ rfl (.tmp 46) (.tmp 48) 128 rfl (w.heap.size + 1) 133 i0' _ 4 32 Try.underlying128 hi0 hz0' hz1' hz2' rfl (by decide) _ (othM (M.take i) s).length (stpC (othM (M.take i) s)) rfl (hrow.alloc _) ⟨W2.heap.size, 0, none⟩ 1 1 [.int .i64 mf, .int .i64 ms, .int .i64 md, .int .i64 mm] rfl rfl (new_cells _ _ _) (by simp [Value.oneCell']) (by unfold maxLen; omega) (by omega) (by rw [World.size_alloc]; omega) ?_; intro v' w7 hown' hgrow _; have HOWN := Lib.hid hown'; have HGR := Lib.hid hgrow; clear hown' hgrow hrow)
          go_roundw
          case rel => exact ⟨i + 1, by omega, by go_num, by rw [HC.out], Below.grown (bel_alloc HB2.out _) HGR.out (by rw [World.size_alloc]; have := HB2.out.size; omega) (fun k e => by have := (ownT HR2.out k e).1; omega), by
            rw [HO.out, List.length_append, stpC_snoc]
            exact HOWN.out⟩
          case measure => simp [intOf]; omega
        · rw [HMF.out, HSF.out] at h1
          rw [HMD.out, HSD.out] at h
          have e1 : (mf == sf) = true := by simpa using h1
          have e2 : (md == sd) = false := by simpa using h
          clear h h1 hk
          have hrow := HR2.out
          obtain ⟨i0', hi0, hz0', hz1', hz2'⟩ := info_parts info133
          have hwz2 := HB2.out.size
          go_upto_region 9 with (fail)
          go_wp2_with (at_builtin; refine wpList_append_own _ rfl (.tmp 46) (.tmp 48) 128 rfl (w.heap.size + 1) 133 i0' _ 4 32 Try.underlying128 hi0 hz0' hz1' hz2' rfl (by decide) _ (othM (M.take i) s).length (stpC (othM (M.take i) s)) rfl (hrow.alloc _) ⟨W2.heap.size, 0, none⟩ 1 1 [.int .i64 mf, .int .i64 ms, .int .i64 md, .int .i64 mm] rfl rfl (new_cells _ _ _) (by simp [Value.oneCell']) (by unfold maxLen; omega) (by omega) (by rw [World.size_alloc]; omega) ?_; intro v' w7 hown' hgrow _; have HOWN := Lib.hid hown'; have HGR := Lib.hid hgrow; clear hown' hgrow hrow)
          go_roundw
          case rel => exact ⟨i + 1, by omega, by go_num, by rw [HC.out], Below.grown (bel_alloc HB2.out _) HGR.out (by rw [World.size_alloc]; have := HB2.out.size; omega) (fun k e => by have := (ownT HR2.out k e).1; omega), by
            rw [HO.out, List.length_append, stpC_snoc]
            exact HOWN.out⟩
          case measure => simp [intOf]; omega
        · rw [HMF.out, HSF.out] at h1
          rw [HMD.out, HSD.out] at h2
          rw [HMS.out, HSS.out] at h
          have e1 : (mf == sf) = true := by simpa using h1
          have e2 : (md == sd) = true := by simpa using h2
          have e3 : (ms == ss) = false := by simpa using h
          clear h h1 h2 hk
          have hrow := HR2.out
          obtain ⟨i0', hi0, hz0', hz1', hz2'⟩ := info_parts info133
          have hwz2 := HB2.out.size
          go_upto_region 9 with (fail)
          go_wp2_with (at_builtin; refine wpList_append_own _ rfl (.tmp 46) (.tmp 48) 128 rfl (w.heap.size + 1) 133 i0' _ 4 32 Try.underlying128 hi0 hz0' hz1' hz2' rfl (by decide) _ (othM (M.take i) s).length (stpC (othM (M.take i) s)) rfl (hrow.alloc _) ⟨W2.heap.size, 0, none⟩ 1 1 [.int .i64 mf, .int .i64 ms, .int .i64 md, .int .i64 mm] rfl rfl (new_cells _ _ _) (by simp [Value.oneCell']) (by unfold maxLen; omega) (by omega) (by rw [World.size_alloc]; omega) ?_; intro v' w7 hown' hgrow _; have HOWN := Lib.hid hown'; have HGR := Lib.hid hgrow; clear hown' hgrow hrow)
          go_roundw
          case rel => exact ⟨i + 1, by omega, by go_num, by rw [HC.out], Below.grown (bel_alloc HB2.out _) HGR.out (by rw [World.size_alloc]; have := HB2.out.size; omega) (fun k e => by have := (ownT HR2.out k e).1; omega), by
            rw [HO.out, List.length_append, stpC_snoc]
            exact HOWN.out⟩
          case measure => simp [intOf]; omega
    · obtain rfl : i = n := by omega
      rw [List.take_of_length_le (by have := HN.out; omega)] at HR ⊢
      have hlen := othM_len M s
      have hML := HN.out
      have HB3 := Lib.hid (HBY.out.below HB.out HBY.out.lt)
      have HG3 := Lib.hid (Gx.of (g := g) (bel_then HB0.out HB.out))
      obtain ⟨wo, rfl⟩ : ∃ wo : World, wo = wr := ⟨_, rfl⟩
      cases hcb : clrB M s with
      | false =>
        have HL := Lib.hid (show clrL l M s = l by unfold clrL; rw [hcb]; rfl)
        have HR2 := HR
        have HB4 := HB3
        have HG4 := HG3
        have h5b := h5
        obtain ⟨wz, hwz'⟩ : ∃ wz : World, wz = wo := ⟨_, rfl⟩
        rw [← hwz'] at HR2 HB4 HG4 h5b ⊢
        clear hcb hwz' h5
        have j0 := h5b.at_ (i := 0) rfl; have j1 := h5b.at_ (i := 1) rfl; have j2 := h5b.at_ (i := 2) rfl; have j3 := h5b.at_ (i := 3) rfl
        have hrow := HR2.out
        have hwz2 := HG4.out.size
        have hbase : w.heap.size + 1 ≤ wz.heap.size := h5b.lt
        obtain ⟨i0', hi0, hz0', hz1', hz2'⟩ := info_parts info133
        go_upto_region 15 with (fail)
        go_wp2_with (at_builtin; refine wpList_append_own _ rfl (.tmp 65) (.tmp 67) 128 rfl (w.heap.size + 1) 133 i0' _ 4 32 Try.underlying128 hi0 hz0' hz1' hz2' rfl (by decide) _ (othM M s).length (stpC (othM M s)) rfl (hrow.alloc _) ⟨wz.heap.size, 0, none⟩ 1 1 [.int .i64 sf, .int .i64 ss, .int .i64 sd, .int .i64 sm] rfl rfl (new_cells _ _ _) (by simp [Value.oneCell']) (by unfold maxLen; omega) (by omega) (by rw [World.size_alloc]; omega) ?_; intro v' w7 hown' hgrow _; obtain ⟨g', cap', rfl⟩ := ownsRow_succ hown'; have HOWN := Lib.hid hown'; have HGR := Lib.hid hgrow; clear hown' hgrow hrow)
        have hst : StpsF w.heap.size w7 (some ⟨g', 0, none⟩) ((othM M s).length + 1) (metM M s) := by
          have h := HOWN.out
          rw [show stpC (othM M s) ++ [.int .i64 sf, .int .i64 ss, .int .i64 sd, .int .i64 sm] = stpC (metM M s) by unfold metM; rw [stpC_snoc, HSF.out, HSS.out, HSD.out, HSM.out],
            show (othM M s).length + 1 = (metM M s).length by unfold metM; rw [List.length_append]; rfl] at h
          exact ⟨by rw [show (othM M s).length + 1 = (metM M s).length by unfold metM; rw [List.length_append]; rfl]; exact stps_of_row' h rfl, row_fresh h (Nat.le_succ _)⟩
        have hcap : (othM M s).length + 1 ≤ cap' := by
          rcases HOWN.out.2 with ⟨e, _⟩ | ⟨_, _, _, e, _, _, e3, _⟩
          · cases e
          · injection e with _ _ e
            omega
        have hby7 : ByA w7 g (clrL l M s) rest := by
          rw [HL.out]
          exact (HB4.out.alloc _).of_block (HGR.out.block g (by rw [World.size_alloc]; have := HB4.out.lt; omega) (fun e => by have := (ownT HR2.out g e.symm).1; omega))
        have hgx7 : Gx g w w7 := (HG4.out.below ((Below.refl w.heap.size wz).alloc (by omega) _)).grown HGR.out (fun k e => by have := (ownT HR2.out k e).1; omega)
        go_ret
        exact ⟨_, _, _, rfl, by omega, hcap, hst, hby7, hgx7⟩
      | true =>
        obtain ⟨a, ha⟩ : ∃ y : Nat, sf = (y : Int) := ⟨sf.toNat, by omega⟩
        obtain ⟨z, hz⟩ : ∃ y : Nat, ss = (y : Int) := ⟨ss.toNat, by omega⟩
        have HL := Lib.hid (show clrL l M s = clr l a z by unfold clrL; rw [hcb, if_pos rfl, HSF.out, HSS.out, ha, hz, Int.toNat_natCast, Int.toNat_natCast])
        have haz : a + z ≤ l.length := by omega
        subst ha hz
        have j0 := h5.at_ (i := 0) rfl; have j1 := h5.at_ (i := 1) rfl
        have H55 := Lib.hid h5
        clear hcb h5
        go_upto_region 12 with (fail)
        clear j0 j1
        go_wp2_with fail
        go_loopw [11] (fun s11 wr => ∃ k : Nat, k ≤ z ∧ s11 = .int .i64 ((a : Int) + k) ∧ ByA wr g (clr l a k) rest ∧ Gx g w wr ∧ Bk wr w.heap.size 133 #[.int .i64 (a : Int), .int .i64 (z : Int), .int .i64 sd, .int .i64 sm] ∧ wr.ownsRow (w.heap.size + 1) 133 4 u7 (othM M s).length (stpC (othM M s))) (fun i _ => a + z - (intOf i).toNat)
        case atStart => exact ⟨0, Nat.zero_le _, by simp, by rw [clr_0]; exact HB3.out, HG3.out, H55.out, HR.out⟩
        case round =>
          clear HR H55
          obtain ⟨k, hk, rfl, hby, hgx, h5, hrow⟩ := hrel
          have j0 := h5.at_ (i := 0) rfl; have j1 := h5.at_ (i := 1) rfl
          by_cases hkz : k < z
          · have c8 : ∃ v, wr.cell? ⟨g, a + k, none⟩ = some v := by
              have hlt : a + k < (clr l a k).length := by rw [clr_len (by omega)]; omega
              exact ⟨_, hby.at_ (i := a + k) (v := .int .u8 (((clr l a k)[a + k] : Nat) : Int)) (by simp [byC, List.getElem?_append, hlt])⟩
            obtain ⟨cv, c8⟩ := c8
            have d8 : wr.frozen? ⟨g, a + k, none⟩ = false := hby.frozen (by rw [clr_len (by omega)]; omega)
            have e1 : ((a : Int) + k) = ((a + k : Nat) : Int) := by omega
            have z1 : (0 : Int) ≤ ((a + k : Nat) : Int) := Int.natCast_nonneg _
            have z2 : ((a + k : Nat) : Int) < (l.length : Int) := by omega
            have HBY2 := Lib.hid (show ByA (wr.setCell ⟨g, a + k, none⟩ (.int .u8 0)) g (clr l a (k + 1)) rest by
              rw [← clr_succ (by omega)]
              exact hby.set_ (by rw [clr_len (by omega)]; omega) 0)
            have HGX2 := Lib.hid (hgx.setG (a + k) (.int .u8 0))
            have H52 := Lib.hid (h5.far (p := ⟨g, a + k, none⟩) (by dsimp only; omega) (.int .u8 0))
            have HRW2 := Lib.hid (rset hrow (show g < w.heap.size + 1 by omega) (a + k) (.int .u8 0))
            clear hby hgx h5 hrow
            rw [e1]
            clear e1
            go_wp2_with fail
            go_roundw
            case rel => exact ⟨k + 1, by omega, by rw [Int.natCast_add, Int.natCast_one, Int.add_assoc], HBY2.out, HGX2.out, H52.out, HRW2.out⟩
            case measure => simp [intOf]; omega
          · obtain rfl : k = z := by omega
            have HR2 := Lib.hid hrow
            have HB4 := Lib.hid hby
            have HG4 := Lib.hid hgx
            have h5b := h5
            clear hby hgx h5 hrow j1
            obtain ⟨wz, rfl⟩ : ∃ wz : World, wz = wr := ⟨_, rfl⟩
            have j1 := h5b.at_ (i := 1) rfl; have j2 := h5b.at_ (i := 2) rfl; have j3 := h5b.at_ (i := 3) rfl
            have hrow := HR2.out
            have hwz2 := HG4.out.size
            have hbase : w.heap.size + 1 ≤ wz.heap.size := h5b.lt
            obtain ⟨i0', hi0, hz0', hz1', hz2'⟩ := info_parts info133
            go_upto_region 15 with (fail)
            go_wp2_with (at_builtin; refine wpList_append_own _ rfl (.tmp 65) (.tmp 67) 128 rfl (w.heap.size + 1) 133 i0' _ 4 32 Try.underlying128 hi0 hz0' hz1' hz2' rfl (by decide) _ (othM M s).length (stpC (othM M s)) rfl (hrow.alloc _) ⟨wz.heap.size, 0, none⟩ 1 1 [.int .i64 (a : Int), .int .i64 (k : Int), .int .i64 sd, .int .i64 sm] rfl rfl (new_cells _ _ _) (by simp [Value.oneCell']) (by unfold maxLen; omega) (by omega) (by rw [World.size_alloc]; omega) ?_; intro v' w7 hown' hgrow _; obtain ⟨g', cap', rfl⟩ := ownsRow_succ hown'; have HOWN := Lib.hid hown'; have HGR := Lib.hid hgrow; clear hown' hgrow hrow)
            have hst : StpsF w.heap.size w7 (some ⟨g', 0, none⟩) ((othM M s).length + 1) (metM M s) := by
              have h := HOWN.out
              rw [show stpC (othM M s) ++ [.int .i64 (a : Int), .int .i64 (k : Int), .int .i64 sd, .int .i64 sm] = stpC (metM M s) by unfold metM; rw [stpC_snoc, HSF.out, HSS.out, HSD.out, HSM.out],
                show (othM M s).length + 1 = (metM M s).length by unfold metM; rw [List.length_append]; rfl] at h
              exact ⟨by rw [show (othM M s).length + 1 = (metM M s).length by unfold metM; rw [List.length_append]; rfl]; exact stps_of_row' h rfl, row_fresh h (Nat.le_succ _)⟩
            have hcap : (othM M s).length + 1 ≤ cap' := by
              rcases HOWN.out.2 with ⟨e, _⟩ | ⟨_, _, _, e, _, _, e3, _⟩
              · cases e
              · injection e with _ _ e
                omega
            have hby7 : ByA w7 g (clrL l M s) rest := by
              rw [HL.out]
              exact (HB4.out.alloc _).of_block (HGR.out.block g (by rw [World.size_alloc]; have := HB4.out.lt; omega) (fun e => by have := (ownT HR2.out g e.symm).1; omega))
            have hgx7 : Gx g w w7 := (HG4.out.below ((Below.refl w.heap.size wz).alloc (by omega) _)).grown HGR.out (fun k e => by have := (ownT HR2.out k e).1; omega)
            go_ret
            exact ⟨_, _, _, rfl, by omega, hcap, hst, hby7, hgx7⟩
end Go.Proofs.Ytcggghamnmflcaa
