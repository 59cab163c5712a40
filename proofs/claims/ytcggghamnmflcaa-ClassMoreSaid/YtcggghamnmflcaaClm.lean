/- Plain laws of handing over: what lies apart, and what arguments more change. -/
import Derived.Test.YtcggghamnmflcaaCli
import Derived.Test.YtcggghamnmflcaaPlb
namespace Go.Proofs.Ytcggghamnmflcaa
open Go Go.RowKit
/-- What the law asks of one place, behind the last register and the stack's end. -/
def okP (d : Nat) (ts : List (Tp d)) (reg en : Int) (x : Plw) : Prop :=
  (x.reg = reg + 1 ∧ 0 ≤ x.reg ∧ x.reg ≤ 5 ∧ x.off = 0) ∨
  (x.reg = -1 ∧ ∃ (q : Nat) (t : Tp d), x.arg = q ∧ ts[q]? = some t ∧ clsE d t = 0 ∧ en ≤ x.off ∧ 0 ≤ x.off ∧ x.off ≤ 1000000000 ∧ x.off % 8 = 0 ∧ (x.eight = 0 → x.off % agS d t = 0))
def nxR (reg : Int) (x : Plw) : Int := if 0 ≤ x.reg then x.reg else reg
def nxE (en : Int) (x : Plw) : Int := if 0 ≤ x.reg then en else x.off + 8
def okL (d : Nat) (ts : List (Tp d)) : Int → Int → List Plw → Prop
  | _, _, [] => True
  | reg, en, x :: l => okP d ts reg en x ∧ okL d ts (nxR reg x) (nxE en x) l
theorem okL_app (d : Nat) (ts : List (Tp d)) : ∀ (l k : List Plw) (reg en : Int), okL d ts reg en l → okL d ts (l.foldl nxR reg) (l.foldl nxE en) k → okL d ts reg en (l ++ k)
  | [], _, _, _, _, h => h
  | _ :: l, k, _, _, h, h' => ⟨h.1, okL_app d ts l k _ _ h.2 h'⟩
theorem okL_at (d : Nat) (ts : List (Tp d)) : ∀ (l : List Plw) (reg en : Int) (j : Nat) (x : Plw), okL d ts reg en l → l[j]? = some x → okP d ts ((l.take j).foldl nxR reg) ((l.take j).foldl nxE en) x
  | [], _, _, _, _, _, h => by simp at h
  | a :: l, reg, en, 0, _, h, hx => by
    cases hx
    exact h.1
  | a :: l, reg, en, j + 1, x, h, hx => okL_at d ts l _ _ j x h.2 (by simpa using hx)
theorem okL_reg (d : Nat) (ts : List (Tp d)) (i : Nat) (r en : Int) (h0 : 0 ≤ r) (pre : List (Nat × Bool)) : ∀ n, n ≤ pre.length → r + n ≤ 6 → okL d ts (r - 1) en (regL i r (pre.take n)) ∧ (regL i r (pre.take n)).foldl nxR (r - 1) = r - 1 + n ∧ (regL i r (pre.take n)).foldl nxE en = en
  | 0, _, _ => by simp [regL, okL]
  | n + 1, hn, hr => by
    obtain ⟨a1, a2, a3⟩ := okL_reg d ts i r en h0 pre n (by omega) (by omega)
    obtain ⟨x, hx⟩ : ∃ x, pre[n]? = some x := ⟨_, List.getElem?_eq_getElem (by omega)⟩
    have hl : (pre.take n).length = n := by simp; omega
    rw [take_snoc_of hx, regL_snoc, hl]
    refine ⟨okL_app d ts _ _ _ _ a1 ⟨.inl ?_, trivial⟩, ?_, ?_⟩
    · rw [a2]
      refine ⟨?_, ?_, ?_, rfl⟩ <;> simp only <;> omega
    · rw [List.foldl_append, a2]
      simp only [List.foldl_cons, List.foldl_nil, nxR]
      rw [if_pos (by omega)]
      omega
    · rw [List.foldl_append, a3]
      simp only [List.foldl_cons, List.foldl_nil, nxE]
      rw [if_pos (by omega)]
theorem okL_stk (d : Nat) (ts : List (Tp d)) (i : Nat) (t : Tp d) (ht : ts[i]? = some t) (hc : clsE d t = 0) (reg en T : Int) (h0 : 0 ≤ T) (h1 : en ≤ T) (h8 : T % 8 = 0) (ha : T % agS d t = 0) : ∀ m : Nat, T + 8 * m ≤ 1000000000 → 1 ≤ m →
    okL d ts reg en ((List.range m).map fun (q : Nat) => (⟨i, q, -1, T + 8 * q⟩ : Plw)) ∧ ((List.range m).map fun (q : Nat) => (⟨i, q, -1, T + 8 * q⟩ : Plw)).foldl nxR reg = reg ∧ ((List.range m).map fun (q : Nat) => (⟨i, q, -1, T + 8 * q⟩ : Plw)).foldl nxE en = T + 8 * m
  | 0, _, h => by omega
  | 1, hm, _ => by
    simp only [List.range_succ, List.range_zero, List.nil_append, List.map_cons, List.map_nil, okL, List.foldl_cons, List.foldl_nil, nxR, nxE, and_true]
    refine ⟨.inr ⟨rfl, i, t, rfl, ht, hc, ?_, ?_, ?_, ?_, fun _ => ?_⟩, ?_, ?_⟩
    · simp only; omega
    · simp only; omega
    · simp only; omega
    · simp only; omega
    · simpa using ha
    · simp
    · simp
  | m + 2, hm, _ => by
    obtain ⟨a1, a2, a3⟩ := okL_stk d ts i t ht hc reg en T h0 h1 h8 ha (m + 1) (by omega) (by omega)
    rw [List.range_succ, List.map_append]
    refine ⟨okL_app d ts _ _ _ _ a1 ⟨.inr ?_, trivial⟩, ?_, ?_⟩
    · rw [a3]
      refine ⟨rfl, i, t, rfl, ht, hc, ?_, ?_, ?_, ?_, fun h => ?_⟩
      · simp only; omega
      · simp only; omega
      · simp only; omega
      · simp only; omega
      · simp only at h; omega
    · rw [List.foldl_append, a2]
      simp [nxR]
    · rw [List.foldl_append, a3]
      simp only [List.map_cons, List.map_nil, List.foldl_cons, List.foldl_nil, nxE]
      rw [if_neg (by omega)]
      omega
theorem agS_pow {d : Nat} {t : Tp d} (h : clsE d t = 0) : pow7 (agS d t) := by
  obtain ⟨h0, _, _⟩ := Clsz h
  obtain ⟨q1, q2⟩ := err_0 h0
  have hag : agS d t = (boxD d t).align := by unfold agS; rw [if_pos h0]
  rw [hag]
  exact boxS_pow d t 6 _ q1 q2
theorem upS_mod {v ag : Int} (hp : pow7 ag) (_h0 : 0 ≤ v) : upS v (mx 8 ag) % 8 = 0 ∧ upS v (mx 8 ag) % ag = 0 ∧ v ≤ upS v (mx 8 ag) := by
  have hm : mx 8 ag = 8 ∨ mx 8 ag = 16 ∨ mx 8 ag = 32 ∨ mx 8 ag = 64 := by rw [mx_eq]; unfold pow7 at hp; omega
  have hz : mx 8 ag % ag = 0 := by rw [mx_eq]; unfold pow7 at hp; rcases hp with rfl | rfl | rfl | rfl | rfl | rfl | rfl <;> decide
  unfold upS
  obtain ⟨k, hk⟩ : ∃ k, (v + mx 8 ag - 1) / mx 8 ag = k := ⟨_, rfl⟩
  refine ⟨?_, ?_, ?_⟩
  · rcases hm with h | h | h | h <;> rw [h] <;> omega
  · rw [hk, Int.mul_emod, hz]; simp
  · rcases hm with h | h | h | h <;> rw [h] <;> omega
theorem run_apart {d : Nat} {ts : List (Tp d)} (s : PSt) (hz : ∀ t ∈ ts, clsE d t = 0) (h0 : 0 ≤ s.r) (h1 : s.r ≤ 6) (h2 : 0 ≤ s.top) (ht2 : s.top ≤ 1000)
    (hs1 : okL d ts (-1) 0 s.l) (hs2 : s.l.foldl nxR (-1) = s.r - 1) (hs3 : s.l.foldl nxE 0 = s.top) : ∀ j : Nat, j ≤ 16 →
    okL d ts (-1) 0 (runP d s ts j).l ∧ (runP d s ts j).l.foldl nxR (-1) = (runP d s ts j).r - 1 ∧ (runP d s ts j).l.foldl nxE 0 = (runP d s ts j).top
  | 0, _ => ⟨hs1, hs2, hs3⟩
  | j + 1, hj => by
    obtain ⟨a1, a2, a3⟩ := run_apart s hz h0 h1 h2 ht2 hs1 hs2 hs3 j (by omega)
    obtain ⟨b0, b1, b2, b3, _⟩ := runP_ok s hz h0 h1 h2 j
    unfold runP
    split
    · rename_i t ht
      have hc := hz t (List.mem_of_getElem? ht)
      obtain ⟨L, hL⟩ : ∃ L, (runP d s ts j).l = L := ⟨_, rfl⟩
      obtain ⟨r, hr⟩ : ∃ L, (runP d s ts j).r = L := ⟨_, rfl⟩
      obtain ⟨T, hT⟩ : ∃ L, (runP d s ts j).top = L := ⟨_, rfl⟩
      unfold stepP
      rw [hL, hr, hT]
      rw [hL] at a1 a2 a3
      rw [hr] at a2 b0 b1
      rw [hT] at a3 b2 b3
      clear hL hr hT
      simp only
      by_cases hf : fitsS r (clsL d t) = true
      · have e1 : ovL j r T (clsL d t) (szS d t) (agS d t) = regL j r (evN r (clsL d t) (clsL d t).length) := by unfold ovL; rw [if_pos hf]
        have e2 : ovR r (clsL d t) = r + (evN r (clsL d t) (clsL d t).length).length := by unfold ovR; rw [if_pos hf]
        have e3 : ovT r T (clsL d t) (szS d t) (agS d t) = T := by unfold ovT; rw [if_pos hf]
        have hle := (ovR_rng (clsL d t) b0 b1).2
        rw [e2] at hle
        obtain ⟨k1, k2, k3⟩ := okL_reg d ts j r T b0 (evN r (clsL d t) (clsL d t).length) _ (Nat.le_refl _) hle
        rw [List.take_length] at k1 k2 k3
        rw [e1, e2, e3]
        refine ⟨okL_app d ts _ _ _ _ a1 ?_, ?_, ?_⟩
        · rw [a2, a3]; exact k1
        · rw [List.foldl_append, a2, k2]; omega
        · rw [List.foldl_append, a3, k3]
      · have e1 : ovL j r T (clsL d t) (szS d t) (agS d t) = (List.range ((upS (szS d t) 8) / 8).toNat).map fun (q : Nat) => (⟨j, q, -1, upS T (mx 8 (agS d t)) + 8 * q⟩ : Plw) := by unfold ovL; rw [if_neg hf]
        have e2 : ovR r (clsL d t) = r := by unfold ovR; rw [if_neg hf]
        have e3 : ovT r T (clsL d t) (szS d t) (agS d t) = upS T (mx 8 (agS d t)) + 8 * (((upS (szS d t) 8) / 8).toNat : Nat) := by unfold ovT; rw [if_neg hf]
        have hr := ovT_rng r T hc b2
        rw [e3] at hr
        obtain ⟨m1, m2, m3⟩ := upS_mod (agS_pow hc) b2
        obtain ⟨_, y1, y2⟩ := Clsz hc
        have hm1 : 1 ≤ ((upS (szS d t) 8) / 8).toNat := by unfold upS; omega
        obtain ⟨k1, k2, k3⟩ := okL_stk d ts j t ht hc (r - 1) T (upS T (mx 8 (agS d t))) (by omega) m3 m1 m2 ((upS (szS d t) 8) / 8).toNat (by omega) hm1
        rw [e1, e2, e3]
        refine ⟨okL_app d ts _ _ _ _ a1 ?_, ?_, ?_⟩
        · rw [a2, a3]; exact k1
        · rw [List.foldl_append, a2, k2]
        · rw [List.foldl_append, a3, k3]
    · exact ⟨a1, a2, a3⟩
theorem pass_apart {d e : Nat} {ts : List (Tp d)} {ret : Tp e} (h : passE d e ts ret = 0) :
    okL d ts (-1) 0 (passL d e ts ret) ∧ ∃ en, (passL d e ts ret).foldl nxE 0 = en ∧ 0 ≤ en ∧ passN d e ts ret % 16 = 0 ∧ en ≤ passN d e ts ret ∧ passN d e ts ret - en < 64 ∧ en ≤ 10000000 := by
  obtain ⟨y1, y2⟩ := passL_1 h
  have h16 : ts.length ≤ 16 := by
    unfold passE at h
    split at h
    · cases h
    · omega
  have hz : ∀ t ∈ ts, clsE d t = 0 := by
    unfold passE at h
    rw [if_neg (by omega)] at h
    split at h
    · rename_i h1; exact absurd h h1
    · rename_i h1
      exact firstE_z (by simpa using h1)
  have hst : 0 ≤ (start0 e ret).r ∧ (start0 e ret).r ≤ 6 ∧ (start0 e ret).top = 0 ∧ okL d ts (-1) 0 (start0 e ret).l ∧ (start0 e ret).l.foldl nxR (-1) = (start0 e ret).r - 1 ∧ (start0 e ret).l.foldl nxE 0 = (start0 e ret).top := by
    unfold start0
    split
    · exact ⟨by decide, by decide, rfl, ⟨.inl ⟨by decide, by decide, by decide, rfl⟩, trivial⟩, rfl, rfl⟩
    · exact ⟨by decide, by decide, rfl, trivial, rfl, rfl⟩
  obtain ⟨s0, s1, s2, s3, s4, s5⟩ := hst
  obtain ⟨a1, a2, a3⟩ := run_apart (start0 e ret) hz s0 s1 (by omega) (by omega) s3 s4 s5 ts.length h16
  obtain ⟨b0, b1, b2, b3, _⟩ := runP_ok (start0 e ret) hz s0 s1 (by omega) ts.length
  rw [y1, y2]
  refine ⟨a1, _, a3, b2, ?_, ?_, ?_, ?_⟩
  · unfold upS; omega
  · unfold upS; omega
  · unfold upS; omega
  · omega
theorem runP_more {d : Nat} (s : PSt) (ts : List (Tp d)) (m : Tp d) : ∀ j, j ≤ ts.length → runP d s (ts ++ [m]) j = runP d s ts j
  | 0, _ => rfl
  | j + 1, hj => by
    obtain ⟨t, ht⟩ : ∃ t, ts[j]? = some t := ⟨_, List.getElem?_eq_getElem (by omega)⟩
    rw [runP_next ht, runP_next (t := t) (by rw [List.getElem?_append_left (by omega)]; exact ht), runP_more s ts m j (by omega)]
theorem ovT_ge {d : Nat} {t : Tp d} (r top : Int) (h : clsE d t = 0) (h0 : 0 ≤ top) : top ≤ ovT r top (clsL d t) (szS d t) (agS d t) := by
  unfold ovT
  split
  · omega
  · have := (upS_mod (agS_pow h) h0).2.2
    omega
theorem pass_more {d e : Nat} {ts : List (Tp d)} {m : Tp d} {ret : Tp e} (h : passE d e ts ret = 0) (k : passE d e (ts ++ [m]) ret = 0) :
    (passL d e (ts ++ [m]) ret).take (passL d e ts ret).length = passL d e ts ret ∧ (passL d e ts ret).length ≤ (passL d e (ts ++ [m]) ret).length ∧ passN d e ts ret ≤ passN d e (ts ++ [m]) ret := by
  obtain ⟨y1, y2⟩ := passL_1 h
  obtain ⟨z1, z2⟩ := passL_1 k
  have hz : ∀ t ∈ ts ++ [m], clsE d t = 0 := by
    unfold passE at k
    split at k
    · cases k
    · split at k
      · rename_i h1; exact absurd k h1
      · rename_i h1
        exact firstE_z (by simpa using h1)
  have hr : runP d (start0 e ret) (ts ++ [m]) (ts ++ [m]).length = stepP d (runP d (start0 e ret) ts ts.length) ts.length m := by
    rw [List.length_append, List.length_singleton, runP_next (t := m) (by simp), runP_more _ _ _ _ (Nat.le_refl _)]
  have hs : 0 ≤ (start0 e ret).r ∧ (start0 e ret).r ≤ 6 ∧ (start0 e ret).top = 0 := by unfold start0; split <;> simp
  obtain ⟨b0, b1, b2, b3, _⟩ := runP_ok (ts := ts) (start0 e ret) (fun t ht => hz t (by simp [ht])) hs.1 hs.2.1 (by omega) ts.length
  have hg := ovT_ge (runP d (start0 e ret) ts ts.length).r (runP d (start0 e ret) ts ts.length).top (hz m (by simp)) b2
  rw [y1, y2, z1, z2, hr]
  unfold stepP
  simp only
  refine ⟨by simp, by simp, ?_⟩
  unfold upS
  omega
end Go.Proofs.Ytcggghamnmflcaa
