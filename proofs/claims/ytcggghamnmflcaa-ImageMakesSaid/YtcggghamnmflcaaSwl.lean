/- Plain laws of laying members: what is laid at whatever numbers is what the document says, where the numbers are those of right members. -/
import Derived.Test.YtcggghamnmflcaaSwj
namespace Go.Proofs.Ytcggghamnmflcaa
open Go Go.RowKit
theorem lieE_0 {d : Nat} {t : Tp d} {deep : Int} (h : 0 = lieE d t deep) : plainS d t deep = true ∧ ∃ b, boxS d t = some b := by
  unfold lieE at h
  split at h
  · rename_i hp
    cases hb : boxS d t with
    | none => rw [hb] at h; cases h
    | some b => exact ⟨hp, b, rfl⟩
  · cases h
theorem boxS_int {d : Nat} {t : Tp d} (h : tsh d t = 1) : boxS d t = some { size := ksize (tk d t), align := ksize (tk d t), l := [] } := by
  cases d with
  | zero => nomatch t
  | succ d =>
    simp only [tsh] at h
    simp only [boxS, tk]
    rw [if_pos h]
theorem FldR.bits {d : Nat} {deep : Int} {f : Fld (Tp d)} {x : BxV} (h : FldR d deep f x) (h0 : x.er = 0) : f.bits ≤ 8 * x.sz := by
  have h1 := h.1
  rw [h0] at h1
  unfold fldE at h1
  split at h1
  · rename_i hf
    obtain ⟨hp, b, hb⟩ := lieE_0 h1
    have hs := (h.2 h0 b hb).1
    unfold isFieldS at hf
    split at hf
    · rcases x.ok with ⟨_, h2, _⟩ | h2 | h2 <;> omega
    · simp only [Bool.and_eq_true, beq_iff_eq, decide_eq_true_eq] at hf
      rw [boxS_int hf.1.1] at hb
      cases hb
      rw [hs]
      exact hf.1.2
  · cases h1
theorem wrap64_id {v : Int} (h0 : -9223372036854775808 ≤ v) (h1 : v ≤ 9223372036854775807) : wrap64 v = v := wrap64_is ⟨h0, h1⟩
def LayR (m : Nat) (s : Lay) : Prop := 0 ≤ s.at_ ∧ s.at_ ≤ m * 1048576 ∧ 0 ≤ s.end_ ∧ s.end_ ≤ m * 1048576 ∧ 1 ≤ s.align ∧ s.align ≤ 64
theorem layS_rng {un pk : Bool} {nm : ByteArray} {k bits : Int} {b : Bx} {s : Lay} {m : Nat} (h : LayR m s) (h1 : 1 ≤ b.size) (h2 : b.size ≤ 65536) (h3 : 1 ≤ b.align) (h4 : b.align ≤ 64) (h5 : bits ≤ 8 * b.size) : LayR (m + 1) (layS un pk nm k bits b s) := by
  obtain ⟨a1, a2, a3, a4, a5, a6⟩ := h
  have hr := nextS_rng pk bits b.size b.align (if un then 0 else s.at_) h1 h3 h4
  have hat : (0 : Int) ≤ (if un then 0 else s.at_) ∧ (if un then 0 else s.at_) ≤ (m : Int) * 1048576 := by split <;> omega
  unfold LayR layS
  simp only
  generalize nextS pk bits b.size b.align (if un then 0 else s.at_) = bit at *
  generalize (if un then 0 else s.at_) = at0 at *
  push_cast
  have hw : bit + (if bits < 0 then 8 * b.size else bits) ≤ ((m : Int) + 1) * 1048576 ∧ 0 ≤ bit + (if bits < 0 then 8 * b.size else bits) := by split at hr <;> split <;> omega
  refine ⟨hw.2, hw.1, by omega, by omega, by split <;> omega, by split <;> omega⟩
theorem layW_is {un pk : Bool} {nm : ByteArray} {k bits sz ag : Int} {s : Lay} {m : Nat} (hm : m ≤ 900) (h : LayR m s) (h1 : 1 ≤ sz) (h2 : sz ≤ 65536) (h3 : 1 ≤ ag) (h4 : ag ≤ 64) (h5 : bits ≤ 8 * sz) : layW un pk nm k bits sz ag s = layS un pk nm k bits { size := sz, align := ag, l := [] } s := by
  have hr := layS_rng (un := un) (pk := pk) (nm := nm) (k := k) (b := { size := sz, align := ag, l := [] }) h h1 h2 h3 h4 h5
  obtain ⟨a1, a2, a3, a4, a5, a6⟩ := h
  have hat : (0 : Int) ≤ (if un then 0 else s.at_) ∧ (if un then 0 else s.at_) ≤ 1000000000 := by split <;> omega
  unfold layW
  rw [nextW_is hat.1 hat.2 h1 h2 h3 h4 h5]
  unfold LayR layS at hr
  unfold layS
  simp only at hr ⊢
  simp only [mx_eq]
  rw [wrap64_id (by omega) (by push_cast at hr; omega)]
def OkP {d : Nat} (p : Fld (Tp d) × BxV) : Prop := 1 ≤ p.2.sz ∧ p.2.sz ≤ 65536 ∧ 1 ≤ p.2.ag ∧ p.2.ag ≤ 64 ∧ p.1.bits ≤ 8 * p.2.sz
theorem okP_of {d : Nat} {deep : Int} {l : List (Fld (Tp d))} {pre : List BxV} (h : PreR d deep l pre) (h0 : ∀ x ∈ pre, x.er = 0) : ∀ p ∈ l.zip pre, OkP p := by
  intro p hp
  obtain ⟨j, hj⟩ := List.mem_iff_getElem?.1 hp
  obtain ⟨f, x⟩ := p
  obtain ⟨hf, hx⟩ := List.getElem?_zip_eq_some.1 hj
  have he := h0 x (List.mem_of_getElem? hx)
  rcases x.ok with ⟨_, q⟩ | q | q
  · exact ⟨q.1, q.2.1, q.2.2.1, q.2.2.2, (h j x f hx hf).bits he⟩
  · omega
  · omega
theorem lay_fold_rng {d : Nat} {un pk : Bool} : ∀ (z : List (Fld (Tp d) × BxV)) (s : Lay) (m : Nat), LayR m s → (∀ p ∈ z, OkP p) → LayR (m + z.length) (z.foldl (fun s p => layS un pk p.1.nm (tk d p.1.t) p.1.bits { size := p.2.sz, align := p.2.ag, l := [] } s) s)
  | [], s, m, h, _ => h
  | p :: z, s, m, h, hp => by
    obtain ⟨q1, q2, q3, q4, q5⟩ := hp p (List.mem_cons_self ..)
    have := lay_fold_rng (un := un) (pk := pk) z (layS un pk p.1.nm (tk d p.1.t) p.1.bits { size := p.2.sz, align := p.2.ag, l := [] } s) (m + 1) (layS_rng h q1 q2 q3 q4 q5) (fun p hp' => hp p (List.mem_cons_of_mem _ hp'))
    rw [List.foldl_cons, List.length_cons, show m + (z.length + 1) = m + 1 + z.length by omega]
    exact this
theorem lay0_rng {al : Int} (h : isAlignS al = true) : LayR 0 (lay0 al) := by
  have : al = 0 ∨ al = 1 ∨ al = 2 ∨ al = 4 ∨ al = 8 ∨ al = 16 ∨ al = 32 ∨ al = 64 := by
    simp [isAlignS] at h; omega
  rcases this with rfl | rfl | rfl | rfl | rfl | rfl | rfl | rfl <;> (unfold LayR; decide)
theorem layK_rng {d : Nat} {deep : Int} {un pk : Bool} {al : Int} {l : List (Fld (Tp d))} {pre : List BxV} (ha : isAlignS al = true) (h : PreR d deep l pre) (h0 : ∀ x ∈ pre, x.er = 0) (hl : pre.length ≤ l.length) : LayR pre.length (layK un pk al l pre) := by
  have := lay_fold_rng (un := un) (pk := pk) (l.zip pre) (lay0 al) 0 (lay0_rng ha) (okP_of h h0)
  rw [List.length_zip, Nat.zero_add, Nat.min_eq_right hl] at this
  exact this
theorem layK_snoc {d : Nat} {un pk : Bool} {al : Int} {l : List (Fld (Tp d))} {pre : List BxV} {x : BxV} {f : Fld (Tp d)} (hf : l[pre.length]? = some f) :
    layK un pk al l (pre ++ [x]) = layS un pk f.nm (tk d f.t) f.bits { size := x.sz, align := x.ag, l := [] } (layK un pk al l pre) := by
  obtain ⟨hl, hf'⟩ := List.getElem?_eq_some_iff.1 hf
  have e : l = l.take pre.length ++ f :: l.drop (pre.length + 1) := by
    rw [← hf', ← List.drop_eq_getElem_cons hl, List.take_append_drop]
  have h1 : l.zip (pre ++ [x]) = (l.take pre.length).zip pre ++ [(f, x)] := by
    conv => lhs; rw [e]
    rw [List.zip_append (by simp; omega)]
    simp
  have h2 : l.zip pre = (l.take pre.length).zip pre := by
    have h3 : l.zip (pre ++ []) = (l.take pre.length).zip pre ++ [] := by
      conv => lhs; rw [e]
      rw [List.zip_append (by simp; omega)]
      simp
    simpa using h3
  unfold layK
  rw [h1, h2, List.foldl_append]
  rfl
theorem pre_init {d : Nat} {deep : Int} {l : List (Fld (Tp d))} {pre : List BxV} {x : BxV} (h : PreR d deep l (pre ++ [x])) : PreR d deep l pre := fun j y f hy hf => h j y f (by
  obtain ⟨hj, rfl⟩ := List.getElem?_eq_some_iff.1 hy
  rw [List.getElem?_append_left hj]; exact hy) hf
theorem pre_last {d : Nat} {deep : Int} {l : List (Fld (Tp d))} {pre : List BxV} {x : BxV} {f : Fld (Tp d)} (h : PreR d deep l (pre ++ [x])) (hf : l[pre.length]? = some f) : FldR d deep f x := h pre.length x f (by simp) hf
/-- A round's step of what is laid. -/
theorem layK_step {d : Nat} {deep : Int} {un pk : Bool} {al : Int} {l : List (Fld (Tp d))} {pre : List BxV} {x : BxV} {f : Fld (Tp d)} {s : Lay} (ha : isAlignS al = true) (hl : l.length ≤ 40) (hf : l[pre.length]? = some f) (h0 : ∀ x ∈ pre, x.er = 0) (hx : x.er = 0)
    (h : PreR d deep l pre → layK un pk al l pre = s) : PreR d deep l (pre ++ [x]) → layK un pk al l (pre ++ [x]) = layW un pk f.nm (tk d f.t) f.bits x.sz x.ag s := by
  intro hp
  have hlt := (List.getElem?_eq_some_iff.1 hf).1
  have h1 := h (pre_init hp)
  have hr := layK_rng (un := un) (pk := pk) (al := al) ha (pre_init hp) h0 (by omega)
  rw [h1] at hr
  obtain ⟨q1, q2, q3, q4, q5⟩ := okP_of hp (er_snoc h0 hx) (f, x) (by
    refine List.mem_iff_getElem?.2 ⟨pre.length, ?_⟩
    rw [List.getElem?_zip_eq_some]
    exact ⟨hf, by simp⟩)
  rw [layK_snoc hf, h1, layW_is (by omega) hr q1 q2 q3 q4 q5]
/-- What compound's own cells hold behind its loop. -/
structure CmpE (w0 : World) (B D : Nat) (sz ag wo : Int) (n : Nat) (L : List Value) (S : Value) (W : World) : Prop where
  o : Bk W B 99 #[.int .i64 sz, .int .i64 ag, S]
  r : W.ownsRow (B + 1 + 1 + 1 + 1 + 1 + 1 + 1) 48 3 S n L
  wo : Bk W (B + 1 + 1 + 1) 23 #[.int .i64 wo]
  re : Bk W (w0.heap.size + 1 + 1) 99 #[.int .i64 0, .int .i64 0, .slice none 0 0]
  d : W.heap[D]? = some (.deferred (some []))
  hD : B + 1 + 1 + 1 + 1 + 1 + 1 + 1 ≤ D
  bel : Below w0.heap.size w0 W
section
variable {w0 : World} {B D : Nat} {sz ag wo : Int} {n : Nat} {L : List Value} {S : Value} {W W1 : World}
theorem heap_below {o : Obj} (h : W.heap[D]? = some o) (hb : Below W.heap.size W W1) : W1.heap[D]? = some o := (hb.block D (Array.getElem?_eq_some_iff.1 h).1).trans h
theorem CmpE.below_ (h : CmpE w0 B D sz ag wo n L S W) (hb : Below W.heap.size W W1) : CmpE w0 B D sz ag wo n L S W1 :=
  ⟨h.o.below hb h.o.lt, h.r.kept (grown_none hb) (by cases S.ownBlock <;> simp), h.wo.below hb h.wo.lt, h.re.below hb h.re.lt, heap_below h.d hb, h.hD, bel_then h.bel hb⟩
theorem CmpE.setW (h : CmpE w0 B D sz ag wo n L S W) (hB : w0.heap.size + 1 + 1 < B) (v : Int) : CmpE w0 B D sz ag v n L S (W.setCell ⟨B + 1 + 1 + 1, 0, none⟩ (.int .i64 v)) :=
  ⟨h.o.far (by simp only; omega) _, h.r.kept (grownBy_setCell' W (B + 1 + 1 + 1) _) (.inr (own_ne h.r (by omega))), h.wo.set_ 0 _, h.re.far (by simp only; omega) _, (Below.heap_setCell W _ _ D (by have := h.hD; simp only; omega)).trans h.d, h.hD, h.bel.setCell (by simp; omega) _⟩
theorem CmpI.behind {d : Nat} {t0 : Array Value} {deep : Int} {sl : Value} {un pk : Bool} {al : Int} {l : List (Fld (Tp d))} {k : Nat} {pre : List BxV} {S : Value} {L : List Value} (h : CmpI w0 B t0 deep sl un pk al l wo k pre W) (hB : w0.heap.size + 1 + 1 < B) (ho : Bk W B 99 #[.int .i64 0, .int .i64 ag, S]) (hr : W.ownsRow (B + 1 + 1 + 1 + 1 + 1 + 1 + 1) 48 3 S n L)
    (hD : B + 1 + 1 + 1 + 1 + 1 + 1 + 1 ≤ D) (hd : W.heap[D]? = some (.deferred (some []))) (v : Int) : CmpE w0 B D v ag wo n L S (W.setCell ⟨B, 0, none⟩ (.int .i64 v)) :=
  ⟨ho.set_ 0 _, hr.kept (grown_set W B 0 _) (.inr (own_ne hr (by omega))), h.wo.far (by simp only; omega) _, h.re.far (by simp only; omega) _, (Below.heap_setCell W _ _ D (by simp only; omega)).trans hd, hD, h.bel.setCell (by simp; omega) _⟩
theorem row_set {base g : Nat} (hr : W.ownsRow base 48 3 S n L) (hg : g < base) (k : Nat) (v : Value) : (W.setCell ⟨g, k, none⟩ v).ownsRow base 48 3 S n L := hr.kept (grown_set W g k v) (.inr (own_ne hr hg))
theorem spts_of_row {base : Nat} {l : List Spt} (h : W.ownsRow base 48 3 S l.length (sptC l)) : ∃ A c, S = .slice A l.length c ∧ Spts base W A l.length l := by
  have hc := fun g (hg : S.ownBlock = some g) => h.cells hg
  rcases h.2 with ⟨rfl, h0⟩ | ⟨g, cap, cur, rfl, hbg, _⟩
  · have : l = [] := List.eq_nil_of_length_eq_zero h0
    subst this
    exact ⟨none, 0, rfl, ⟨rfl, fun i s hs => by simp at hs⟩, fun a ha => by cases ha⟩
  · refine ⟨some ⟨g, 0, none⟩, cap, rfl, ⟨rfl, fun i s hs => ⟨g, 0, rfl, ?_⟩⟩, fun a ha => by cases ha; exact hbg⟩
    have key : ∀ j (v : Value), (sptC [s])[j]? = some v → j < 3 → (sptC l)[i * 3 + j]? = some v := by
      have : ∀ (l : List Spt) (i : Nat), l[i]? = some s → ∀ j, j < 3 → (sptC l)[i * 3 + j]? = (sptC [s])[j]? := by
        intro l
        induction l with
        | nil => intro i hi; simp at hi
        | cons a l ih =>
          intro i hi j hj
          cases i with
          | zero =>
            simp at hi
            subst hi
            have : sptC (a :: l) = sptC [a] ++ sptC l := by simp [sptC]
            rw [this, List.getElem?_append_left (by simp [sptC]; omega)]
            simp
          | succ i =>
            have : sptC (a :: l) = sptC [a] ++ sptC l := by simp [sptC]
            have hl : (sptC [a]).length = 3 := by simp [sptC]
            rw [this, List.getElem?_append_right (by rw [hl]; omega), hl, ← ih i (by simpa using hi) j hj]
            congr 1
            omega
      intro j v hv hj
      rw [this l i hs j hj]
      exact hv
    have hcell : ∀ j v, (sptC [s])[j]? = some v → j < 3 → W.cell? ⟨g, 0 + i * 3 + j, none⟩ = some v := fun j v hv hj => by
      have := hc g rfl _ v (key j v hv hj)
      rw [add_off _ rfl] at this
      rw [Nat.add_assoc]
      exact this
    exact ⟨hcell 0 _ rfl (by omega), hcell 1 _ rfl (by omega), hcell 2 _ rfl (by omega)⟩
end
/-! ### where all members are laid -/
theorem lay_fold_pos {d : Nat} {un pk : Bool} : ∀ (z : List (Fld (Tp d) × BxV)) (s : Lay) (m : Nat), LayR m s → (∀ p ∈ z, OkP p) → (1 ≤ s.end_ ∨ ∃ p ∈ z, p.1.bits ≠ 0) → 1 ≤ (z.foldl (fun s p => layS un pk p.1.nm (tk d p.1.t) p.1.bits { size := p.2.sz, align := p.2.ag, l := [] } s) s).end_
  | [], s, m, h, _, h1 => by
    rcases h1 with h1 | ⟨p, hp, _⟩
    · exact h1
    · simp at hp
  | p :: z, s, m, h, hp, h1 => by
    obtain ⟨q1, q2, q3, q4, q5⟩ := hp p (List.mem_cons_self ..)
    have hr := nextS_rng pk p.1.bits p.2.sz p.2.ag (if un then 0 else s.at_) q1 q3 q4
    have hat : (0 : Int) ≤ (if un then 0 else s.at_) := by have := h.1; split <;> omega
    refine lay_fold_pos z _ (m + 1) (layS_rng h q1 q2 q3 q4 q5) (fun p hp' => hp p (List.mem_cons_of_mem _ hp')) ?_
    by_cases hb : p.1.bits = 0
    · rcases h1 with h1 | ⟨p', hp', hb'⟩
      · left
        unfold layS
        simp only
        omega
      · rcases List.mem_cons.1 hp' with rfl | hp'
        · exact absurd hb hb'
        · exact .inr ⟨p', hp', hb'⟩
    · left
      unfold layS
      simp only
      generalize (if un then 0 else s.at_) = at0 at *
      split <;> omega
theorem fldE_0 {d : Nat} {deep : Int} {f : Fld (Tp d)} {x : BxV} (h : FldR d deep f x) (h0 : x.er = 0) : isFieldS f.nm (tsh d f.t) (tk d f.t) f.bits = true ∧ plainS d f.t deep = true ∧ ∃ b, boxS d f.t = some b ∧ x.sz = b.size ∧ x.ag = b.align := by
  have h1 := h.1
  rw [h0] at h1
  unfold fldE at h1
  split at h1
  · rename_i hf
    obtain ⟨hp, b, hb⟩ := lieE_0 h1
    exact ⟨hf, hp, b, hb, h.2 h0 b hb⟩
  · cases h1
theorem layK_pos {d : Nat} {deep : Int} {un pk : Bool} {al : Int} {l : List (Fld (Tp d))} {xs : List BxV} (ha : isAlignS al = true) (hn : namedS (l.map Fld.nm) = true) (h : PreR d deep l xs) (h0 : ∀ x ∈ xs, x.er = 0) (hl : xs.length = l.length) : 1 ≤ (layK un pk al l xs).end_ := by
  refine lay_fold_pos _ _ 0 (lay0_rng ha) (okP_of h h0) (.inr ?_)
  unfold namedS at hn
  simp only [Bool.and_eq_true, List.any_eq_true, List.mem_map] at hn
  obtain ⟨⟨_, nm, ⟨f, hf, rfl⟩, hne⟩, _⟩ := hn
  obtain ⟨j, hj⟩ := List.mem_iff_getElem?.1 hf
  have hjl := (List.getElem?_eq_some_iff.1 hj).1
  obtain ⟨x, hx⟩ : ∃ x, xs[j]? = some x := ⟨_, List.getElem?_eq_getElem (by omega)⟩
  refine ⟨(f, x), List.mem_iff_getElem?.2 ⟨j, List.getElem?_zip_eq_some.2 ⟨hj, hx⟩⟩, fun hb => ?_⟩
  have := (fldE_0 (h j x f hx hj) (h0 x (List.mem_of_getElem? hx))).1
  simp only at hb
  unfold isFieldS at this
  rw [if_neg (by omega), hb] at this
  simp at this
  simp [this] at hne
/-- What is stored as a size. -/
def szW (en ag : Int) : Int := upW (wrap64 ((upW en 8).tdiv 8)) ag
theorem szW_is {s : Lay} {m : Nat} (hm : m ≤ 900) (h : LayR m s) : szW s.end_ s.align = closeS s := by
  obtain ⟨a1, a2, a3, a4, a5, a6⟩ := h
  have h1 := upS_rng (v := s.end_) (show (1 : Int) ≤ 8 by omega)
  unfold szW closeS
  rw [upW_is (v := s.end_) (by omega) (by omega) (by omega) (by omega), Int.tdiv_eq_ediv_of_nonneg (by omega), wrap64_id (by omega) (by omega)]
  exact upW_is (by omega) (by omega) (by omega) (by omega)
theorem closeS_pos {s : Lay} {m : Nat} (h : LayR m s) (h1 : 1 ≤ s.end_) : 1 ≤ closeS s := by
  obtain ⟨a1, a2, a3, a4, a5, a6⟩ := h
  unfold closeS
  have h3 := upS_rng (v := upS s.end_ 8 / 8) (show (1 : Int) ≤ s.align by omega)
  have : 1 ≤ upS s.end_ 8 / 8 := by unfold upS; omega
  omega
/-- What compound answers. -/
def CmpPost {d : Nat} (deep al : Int) (un pk : Bool) (l : List (Fld (Tp d))) (w0 : World) (e : Ending) (w' : World) : Prop :=
  ∃ x : BxV, e = .returned (.tuple #[.agg #[.int .i64 x.sz, .int .i64 x.ag, .slice x.A x.n x.c], .int .i64 x.er]) ∧ Below w0.heap.size w0 w' ∧
    ((∃ xs, PreR d (deep - 1) l xs ∧ (∀ y ∈ xs, y.er = 0) ∧ xs.length = l.length ∧
        ((65536 < closeS (layK un pk al l xs) ∧ x.er = 101) ∨ (closeS (layK un pk al l xs) ≤ 65536 ∧ x.er = 0 ∧ x.sz = closeS (layK un pk al l xs) ∧ x.ag = (layK un pk al l xs).align ∧ Spts w0.heap.size w' x.A x.n (layK un pk al l xs).l))) ∨
     (∃ pre y, PreR d (deep - 1) l (pre ++ [y]) ∧ (∀ z ∈ pre, z.er = 0) ∧ pre.length < l.length ∧ ((y.er = 100 ∧ x.er = 100) ∨ (y.er = 101 ∧ x.er = laterS d (l.drop (pre.length + 1)) (deep - 1)))))
end Go.Proofs.Ytcggghamnmflcaa
