/- Handing over all arguments, in plain words. -/
import Derived.Test.YtcggghamnmflcaaClh
namespace Go.Proofs.Ytcggghamnmflcaa
open Go Go.RowKit
structure PSt where
  l : List Plw
  r : Int
  top : Int
def stepP (d : Nat) (s : PSt) (i : Nat) (t : Tp d) : PSt := ⟨s.l ++ ovL i s.r s.top (clsL d t) (szS d t) (agS d t), ovR s.r (clsL d t), ovT s.r s.top (clsL d t) (szS d t) (agS d t)⟩
/-- Behind the first j arguments. -/
def runP (d : Nat) (s : PSt) (ts : List (Tp d)) : Nat → PSt
  | 0 => s
  | j + 1 => match ts[j]? with
    | some t => stepP d (runP d s ts j) j t
    | none => runP d s ts j
theorem ev_len (r : Int) (l : List Int) : ∀ j, j ≤ l.length → (evN r l j).length = ones (l.take j)
  | 0, _ => by simp [evN, ones]
  | j + 1, hj => by
    have ih := ev_len r l j (by omega)
    obtain ⟨x, hx⟩ : ∃ x, l[j]? = some x := ⟨_, List.getElem?_eq_getElem (by omega)⟩
    have ho := ones_snoc hx
    by_cases h1 : x = 1
    · subst h1
      rw [evN_yes hx, List.length_append, ih, ho, if_pos rfl]
      rfl
    · rw [evN_no hx h1, ho, if_neg h1, Nat.add_zero]
      exact ih
theorem ovR_rng {r : Int} (l : List Int) (h0 : 0 ≤ r) (h1 : r ≤ 6) : 0 ≤ ovR r l ∧ ovR r l ≤ 6 := by
  unfold ovR
  split
  · rename_i h
    unfold fitsS at h
    simp only [Bool.and_eq_true, decide_eq_true_eq] at h
    have := ev_len r l l.length (Nat.le_refl _)
    rw [List.take_length] at this
    omega
  · omega
theorem upS_b {v n : Int} (h0 : 0 ≤ v) (h1 : 1 ≤ n) : 0 ≤ upS v n ∧ upS v n ≤ v + n - 1 := by
  unfold upS
  exact ⟨Int.mul_nonneg (Int.ediv_nonneg (by omega) (by omega)) (by omega), Int.ediv_mul_le _ (by omega)⟩
theorem ovT_rng {d : Nat} {t : Tp d} (r top : Int) (h : clsE d t = 0) (h0 : 0 ≤ top) : 0 ≤ ovT r top (clsL d t) (szS d t) (agS d t) ∧ ovT r top (clsL d t) (szS d t) (agS d t) ≤ top + 66000 := by
  obtain ⟨_, y1, y2⟩ := Clsz h
  have y3 := agS_rng h
  unfold ovT
  split
  · omega
  · have hm : 8 ≤ mx 8 (agS d t) ∧ mx 8 (agS d t) ≤ 64 := by rw [mx_eq]; omega
    have h1 := upS_b h0 (show 1 ≤ mx 8 (agS d t) by omega)
    have h2 := upS_b (v := szS d t) (n := 8) (by omega) (by omega)
    omega
theorem ovL_len {d : Nat} {t : Tp d} (i : Nat) (r top : Int) (h : clsE d t = 0) : (ovL i r top (clsL d t) (szS d t) (agS d t)).length ≤ 10000 := by
  obtain ⟨_, y1, y2⟩ := Clsz h
  have y3 := cls_len h
  unfold ovL
  split
  · have h1 := ev_len r (clsL d t) _ (Nat.le_refl _)
    rw [List.take_length] at h1
    have h2 := ones_le (clsL d t)
    unfold regL
    rw [List.length_mapIdx]
    omega
  · have h2 := upS_b (v := szS d t) (n := 8) (by omega) (by omega)
    simp only [List.length_map, List.length_range]
    omega
theorem runP_ok {d : Nat} {ts : List (Tp d)} (s : PSt) (hz : ∀ t ∈ ts, clsE d t = 0) (h0 : 0 ≤ s.r) (h1 : s.r ≤ 6) (h2 : 0 ≤ s.top) : ∀ j : Nat,
    0 ≤ (runP d s ts j).r ∧ (runP d s ts j).r ≤ 6 ∧ 0 ≤ (runP d s ts j).top ∧ (runP d s ts j).top ≤ s.top + 66000 * j ∧ (runP d s ts j).l.length ≤ s.l.length + 10000 * j
  | 0 => ⟨h0, h1, h2, by simp [runP], by simp [runP]⟩
  | j + 1 => by
    obtain ⟨a0, a1, a2, a3, a4⟩ := runP_ok s hz h0 h1 h2 j
    unfold runP
    split
    · rename_i t ht
      have hc := hz t (List.mem_of_getElem? ht)
      have b1 := ovR_rng (r := (runP d s ts j).r) (clsL d t) a0 a1
      have b2 := ovT_rng (runP d s ts j).r (runP d s ts j).top hc a2
      have b3 := ovL_len j (runP d s ts j).r (runP d s ts j).top hc
      unfold stepP
      simp only [List.length_append]
      omega
    · omega
theorem runP_next {d : Nat} {s : PSt} {ts : List (Tp d)} {j : Nat} {t : Tp d} (h : ts[j]? = some t) : runP d s ts (j + 1) = stepP d (runP d s ts j) j t := by
  rw [runP, h]
/-- The first error of the arguments' classes. -/
def firstE (d : Nat) : List (Tp d) → Int
  | [] => 0
  | t :: l => if clsE d t = 0 then firstE d l else clsE d t
theorem firstE_at {d : Nat} {t : Tp d} (hn : clsE d t ≠ 0) : ∀ {ts : List (Tp d)} {j : Nat}, ts[j]? = some t → (∀ x ∈ ts.take j, clsE d x = 0) → firstE d ts = clsE d t
  | [], _, h, _ => by simp at h
  | a :: l, 0, h, _ => by
    obtain rfl : a = t := by simpa using h
    unfold firstE
    rw [if_neg hn]
  | a :: l, j + 1, h, hz => by
    unfold firstE
    rw [if_pos (hz a (by simp))]
    exact firstE_at hn (by simpa using h) (fun x hx => hz x (by simp [hx]))
theorem firstE_0 {d : Nat} : ∀ {ts : List (Tp d)}, (∀ x ∈ ts, clsE d x = 0) → firstE d ts = 0
  | [], _ => rfl
  | a :: l, hz => by
    unfold firstE
    rw [if_pos (hz a (by simp))]
    exact firstE_0 (fun x hx => hz x (by simp [hx]))
theorem firstE_z {d : Nat} : ∀ {ts : List (Tp d)}, firstE d ts = 0 → ∀ x ∈ ts, clsE d x = 0
  | [], _, x, hx => by simp at hx
  | a :: l, h, x, hx => by
    unfold firstE at h
    split at h
    · rename_i h0
      rcases List.mem_cons.1 hx with rfl | hx
      · exact h0
      · exact firstE_z h x hx
    · rename_i h0; exact absurd h h0
theorem take_z {d : Nat} {ts : List (Tp d)} {j : Nat} {t : Tp d} (h : ts[j]? = some t) (hc : clsE d t = 0) (hz : ∀ x ∈ ts.take j, clsE d x = 0) : ∀ x ∈ ts.take (j + 1), clsE d x = 0 := by
  rw [take_snoc_of h]
  intro x hx
  rcases List.mem_append.1 hx with hx | hx
  · exact hz x hx
  · obtain rfl : x = t := by simpa using hx
    exact hc
/-- The type that says nothing. -/
def emptyT : Tp 1 := ({ sh := 0, k := 0, n := 0, of := [], fs := [], pk := false, al := 0 } : Nd Empty)
theorem emptyT_at (w : World) : TyAt w 1 emptyT [.int .i64 0, .int .i64 0, .int .i64 0, .slice none 0 0, .slice none 0 0, .bool false, .int .i64 0] :=
  ⟨none, none, 0, 0, rfl, (i64d (n := 0) (by decide)), (i64d (n := 0) (by decide)), (i64d (n := 0) (by decide)), (i64d (n := 0) (by decide)), Nat.le_refl _, Nat.le_refl _, by decide, by decide, fun _ x _ => Empty.elim x, fun _ f _ => Empty.elim f.t⟩
def noneR (d : Nat) (t : Tp d) : Bool := sameS d 1 t emptyT
def passE (d e : Nat) (ts : List (Tp d)) (ret : Tp e) : Int :=
  if 16 < ts.length then 2 else if firstE d ts ≠ 0 then firstE d ts else if noneR e ret = true then 0 else clsE e ret
def start0 (e : Nat) (ret : Tp e) : PSt := if noneR e ret = false ∧ (clsL e ret)[0]? = some 2 then ⟨[⟨-1, 0, 0, 0⟩], 1, 0⟩ else ⟨[], 0, 0⟩
def passR (d e : Nat) (ts : List (Tp d)) (ret : Tp e) : PSt := runP d (start0 e ret) ts ts.length
def passL (d e : Nat) (ts : List (Tp d)) (ret : Tp e) : List Plw := if passE d e ts ret = 0 then (passR d e ts ret).l else []
def passN (d e : Nat) (ts : List (Tp d)) (ret : Tp e) : Int := if passE d e ts ret = 0 then upS (passR d e ts ret).top 16 else 0
theorem passL_0 {d e : Nat} {ts : List (Tp d)} {ret : Tp e} {x : Int} (h : passE d e ts ret = x) (hx : x ≠ 0) : passL d e ts ret = [] ∧ passN d e ts ret = 0 := by
  unfold passL passN
  rw [if_neg (by rw [h]; exact hx), if_neg (by rw [h]; exact hx)]
  exact ⟨rfl, rfl⟩
theorem passL_1 {d e : Nat} {ts : List (Tp d)} {ret : Tp e} (h : passE d e ts ret = 0) : passL d e ts ret = (runP d (start0 e ret) ts ts.length).l ∧ passN d e ts ret = upS (runP d (start0 e ret) ts ts.length).top 16 := by
  unfold passL passN
  rw [if_pos h, if_pos h]
  exact ⟨rfl, rfl⟩
end Go.Proofs.Ytcggghamnmflcaa
