/- A region that draws its order, in which one new block is laid at whatever place among operations that only read, or call what makes memory alone; then those that write. In a function, and in a round of a loop over an iterator. -/
import Derived.Test.YtcggghamnmflcaaTail
import Derived.Below
import Derived.Test.YtcggghamnmflcaaGa
namespace Go.Proofs.Ytcggghamnmflcaa
open Go Go.RowKit
/-- Worlds in which what lay in W lies as it lay. -/
structure BelS (W : World) where
  w : World
  h : Below W.heap.size W w
instance (W : World) : Nonempty (BelS W) := ⟨⟨W, Below.refl _ _⟩⟩
theorem BelS.cell {W : World} {a : Addr} {v : Value} (h : W.cell? a = some v) (s : BelS W) : s.w.cell? a = some v := bel_cell s.h h
theorem bels_class (X : World) : (fun w' => ∃ s : BelS X, w' = s.w) = fun w' => Below X.heap.size X w' := by
  funext w'
  exact propext ⟨fun ⟨s, e⟩ => e ▸ s.h, fun h => ⟨⟨w', h⟩, rfl⟩⟩
section
variable {P : Program} {ops : Array Oper} {md : Region.Mode} {C : World → Prop} {D : World → World → Prop} {m : Nat}

/-- In state a, in every world of the class, the operation leaves v, and a world that stands in D to the one that it got. -/
def YieldsD (P : Program) (ops : Array Oper) (C : World → Prop) (D : World → World → Prop) (o : Oper) (v : Value) (a : Act) : Prop :=
  (Region.wanted o (yielded ops a.tmps) = true ∧ ∀ w, C w → o.quietAt P a (D w) w v) ∨ (Region.wanted o (yielded ops a.tmps) = false ∧ v = undef)
theorem YieldsD.of_same {o : Oper} {v : Value} {a a' : Act} (hy : YieldsD P ops C D o v a) (he : execOp a'.eval o = execOp a.eval o)
    (hw : Region.wanted o (yielded ops a'.tmps) = Region.wanted o (yielded ops a.tmps)) : YieldsD P ops C D o v a' := by
  unfold YieldsD Oper.quietAt at *
  rw [he, hw]
  exact hy

/-- Of the operations below n, in whatever order: number m lays a block (wherever), the others yield; L where that many rounds are over. -/
def HeadD (P : Program) (md : Region.Mode) (ops : Array Oper) (C : World → Prop) (D : World → World → Prop) (m n : Nat) (L : Array Bool → Act → Prop) : Nat → Array Bool → Act → Prop
  | 0, listed, a => L listed a
  | f + 1, listed, a => Region.ready md ops listed ≠ [] ∧ ∀ i ∈ Region.ready md ops listed, i < n ∧
      ((i = m ∧ ∀ (o : Oper) (u : Nat), ops[m]? = some o → HeadD P md ops C D m n L f (listed.setIfInBounds m true) (a.put o.dst (.pointer (some ⟨u, 0, none⟩)))) ∨
       (i ≠ m ∧ ∃ o v, ops[i]? = some o ∧ YieldsD P ops C D o v a ∧ HeadD P md ops C D m n L f (listed.setIfInBounds i true) (a.put o.dst v)))

theorem headD_first {n i : Nat} {oi : Oper} {v : Value} {L : Array Bool → Act → Prop} (hi : ops[i]? = some oi) (him : i ≠ m) (hsel : ∀ (j : Nat) (o : Oper) cs b, ops[j]? = some o → o.op ≠ .select cs b)
    (hs : Region.sinkB md ops n = true) (hc : Region.chainB md ops n = true) (hn : n < ops.size) (hin : i < n) (hdone : ∀ listed a, L listed a → ∀ j ∈ Region.ready md ops listed, n ≤ j) :
    ∀ (f : Nat) (listed : Array Bool) (a : Act), HeadInv md ops n listed →
      (∀ j oj, ops[j]? = some oj → j ≠ i → listed.getD j true = false → (∀ e ∈ oj.after, Region.binds md e = true → e.on ≠ i) → oi.apart ops oj = true) →
      i ∈ Region.ready md ops listed → YieldsD P ops C D oi v a → HeadD P md ops C D m n L f (listed.setIfInBounds i true) (a.put oi.dst v) → HeadD P md ops C D m n L (f + 1) listed a := by
  intro f
  induction f with
  | zero =>
    intro listed a inv _ hr hy H
    refine ⟨fun h => (by rw [h] at hr; cases hr), fun j hj => ?_⟩
    have hjn : j < n := Nat.lt_of_not_le fun h => tail_waits hs hc hn inv _ i rfl hin (mem_ready.1 hr).1 j h hj
    refine ⟨hjn, ?_⟩
    by_cases e : j = i
    · subst e
      exact .inr ⟨him, oi, v, hi, hy, H⟩
    · exact absurd (hdone _ _ H j (ready_mono hj e)) (by omega)
  | succ f ih =>
    intro listed a inv hfree hr hy H
    refine ⟨fun h => (by rw [h] at hr; cases hr), fun j hj => ?_⟩
    have hjn : j < n := Nat.lt_of_not_le fun h => tail_waits hs hc hn inv _ i rfl hin (mem_ready.1 hr).1 j h hj
    refine ⟨hjn, ?_⟩
    by_cases e : j = i
    · subst e
      exact .inr ⟨him, oi, v, hi, hy, H⟩
    · obtain ⟨hjun, oj, hoj, hall⟩ := mem_ready.1 hj
      have hnot : ∀ e ∈ oj.after, Region.binds md e = true → e.on ≠ i := fun e he hb heq => by
        have h1 := hall e he hb
        rw [heq, getD_both (mem_ready.1 hr).1] at h1
        cases h1
      obtain ⟨h1, h2, h3⟩ := Oper.apart_spec (hfree j oj hoj e hjun hnot)
      have hsi : ∀ cs b, oi.op ≠ .select cs b := fun cs b => hsel i oi cs b hi
      have hsj : ∀ cs b, oj.op ≠ .select cs b := fun cs b => hsel j oj cs b hoj
      have keep : ∀ u, YieldsD P ops C D oi v (a.put oj.dst u) := fun u => hy.of_same (execOp_put oi hsi a oj.dst u h3) (wanted_put oi a oj.dst u h3)
      have hfree' : ∀ k ok, ops[k]? = some ok → k ≠ i → (listed.setIfInBounds j true).getD k true = false →
          (∀ e ∈ ok.after, Region.binds md e = true → e.on ≠ i) → oi.apart ops ok = true := fun k ok hk hki hun hno => by
        refine hfree k ok hk hki ?_ hno
        by_cases hjk : j = k
        · subst hjk; exact hjun
        · rw [getD_set_ne true hjk] at hun; exact hun
      rcases (H.2 j (ready_mono hj e)).2 with ⟨rfl, hm⟩ | ⟨hjm, o', u, ho', hu, hH⟩
      · refine .inl ⟨rfl, fun o u ho => ?_⟩
        have : o = oj := Option.some.inj (ho.symm.trans hoj)
        subst this
        refine ih _ _ (inv.set hj hjn) hfree' (ready_mono hr (Ne.symm e)) (keep _) ?_
        have := hm o u ho
        rw [Array.setIfInBounds_comm _ _ e, ← Act.put_comm a v _ h2]
        exact this
      · have : o' = oj := Option.some.inj (ho'.symm.trans hoj)
        subst this
        refine .inr ⟨hjm, o', u, ho', hu.of_same (execOp_put o' hsj a oi.dst v h1).symm (wanted_put o' a oi.dst v h1).symm, ?_⟩
        refine ih _ _ (inv.set hj hjn) hfree' (ready_mono hr (Ne.symm e)) (keep _) ?_
        rw [Array.setIfInBounds_comm _ _ e, ← Act.put_comm a v u h2]
        exact hH

/-- Values one behind the other. -/
def SeqD (P : Program) (ops : Array Oper) (C : World → Prop) (D : World → World → Prop) (Q : Act → Prop) : List Oper → Act → Prop
  | [], a => Q a
  | o :: l, a => ∃ v, YieldsD P ops C D o v a ∧ SeqD P ops C D Q l (a.put o.dst v)

theorem headD_lex {g : Nat} {om : Oper} {Lq : Act → Prop} (hm : ops[m]? = some om) (hsel : Region.noSelect ops = true) (hs : Region.sinkB md ops (m + 1) = true) (hc : Region.chainB md ops (m + 1) = true) (hn : m + 1 < ops.size) :
    ∀ (l : List Oper) (k : Nat) (listed : Array Bool) (a : Act), (∀ j, j < l.length → l[j]? = ops[k + j]?) → k + l.length = m → HeadInv md ops (m + 1) listed →
    Region.lexHead md ops g (l.length + 1) k listed = true → SeqD P ops C D Lq l a → HeadD P md ops C D m (m + 1) (fun listed' a' => (Region.seqB md ops g (m + 1) listed' = true ∧ listed'.getD m false = true) ∧ ∃ u A, Lq A ∧ a' = A.put om.dst (.pointer (some ⟨u, 0, none⟩))) (l.length + 1) listed a
  | [], k, listed, a, _, hk, inv, hB, h => by
    have e : k = m := by simpa using hk
    subst e
    simp only [List.length_nil, Region.lexHead, Bool.and_eq_true] at hB
    obtain ⟨⟨hr, hf⟩, hseq⟩ := hB
    have hr' : k ∈ Region.ready md ops listed := by simpa using hr
    have hseq' : Region.seqB md ops g (k + 1) (listed.setIfInBounds k true) = true := hseq
    refine ⟨fun h0 => (by rw [h0] at hr'; cases hr'), fun j hj => ?_⟩
    have hjn : j < k + 1 := Nat.lt_of_not_le fun h => tail_waits hs hc hn inv _ k rfl (by omega) (mem_ready.1 hr').1 j h hj
    refine ⟨hjn, ?_⟩
    have hjk : j = k := by
      by_cases e : j = k
      · exact e
      · have := seqB_ready hseq' j (ready_mono hj e)
        omega
    subst hjk
    refine .inl ⟨rfl, fun o u ho => ?_⟩
    have : o = om := Option.some.inj (ho.symm.trans hm)
    subst this
    refine ⟨⟨hseq', ?_⟩, u, a, h, rfl⟩
    have hsz := inv.size
    simp [Array.getD_eq_getD_getElem?, show j < listed.size by omega]
  | o :: l, k, listed, a, hl, hk, inv, hB, h => by
    have h0 : ops[k]? = some o := by simpa using (hl 0 (by simp)).symm
    rw [List.length_cons, Region.lexHead, Bool.and_eq_true, Bool.and_eq_true] at hB
    simp only [List.length_cons] at hk
    have hr' : k ∈ Region.ready md ops listed := by simpa using hB.1.1
    obtain ⟨v, hy, hK⟩ := h
    exact headD_first h0 (by omega) (Region.noSelect_spec hsel) hs hc hn (by omega) (fun listed' a' hL => seqB_ready hL.1.1) (l.length + 1) listed a inv (Region.free_spec h0 hB.1.2) hr' hy
      (headD_lex hm hsel hs hc hn l (k + 1) _ _ (fun j hj => by have := hl (j + 1) (by simp; omega); simpa [Nat.add_assoc, Nat.add_comm 1 j] using this) (by omega) (inv.set hr' (by omega)) hB.2 hK)

/-! ### from walks at every later class -/
/-- What the frame holds at d is not written any more. -/
theorem quiet_keeps {A : Act} {E : World → Prop} (d : Nat) : ∀ (l : List Oper) (a : Act), (∀ o ∈ l, o.dst ≠ some d) → wpQuiet P ops E (fun a' => a' = A) l a → A.tmps[d]? = a.tmps[d]?
  | [], a, _, h => by rw [show a = A from h]
  | o :: l, a, hd, h => by
    have key : ∀ v, (a.put o.dst v).tmps[d]? = a.tmps[d]? := fun v => by
      have h0 := hd o (List.mem_cons_self ..)
      unfold Act.put
      cases hdst : o.dst with
      | none => rfl
      | some k =>
        have : k ≠ d := fun e => h0 (by rw [hdst, e])
        simp [this]
    unfold wpQuiet at h
    split at h
    · obtain ⟨v, _, h2⟩ := h
      rw [quiet_keeps d l _ (fun o ho => hd o (List.mem_cons_of_mem _ ho)) h2, key]
    · rw [quiet_keeps d l _ (fun o ho => hd o (List.mem_cons_of_mem _ ho)) h, key]

/-- Each leaves its value in a place of its own. -/
def ownDsts (n : Nat) : List Oper → Bool
  | [] => true
  | o :: l => (match o.dst with | some k => decide (k < n) && l.all (fun o' => o'.dst != some k) | none => false) && ownDsts n l

theorem put_size (a : Act) (d : Option Nat) (v : Value) : (a.put d v).tmps.size = a.tmps.size := by
  unfold Act.put
  cases d <;> simp
theorem seqD_of_quiet {A : Act} (W : World) : ∀ (l : List Oper) (a : Act), ownDsts a.tmps.size l = true →
    (∀ X, Below W.heap.size W X → wpQuiet P ops (fun w => Below X.heap.size X w) (fun a' => a' = A) l a) → SeqD P ops (fun w => Below W.heap.size W w) (fun w w' => Below w.heap.size w w') (fun a' => a' = A) l a
  | [], a, _, h => h W (Below.refl _ _)
  | o :: l, a, hd, h => by
    unfold ownDsts at hd
    cases hdst : o.dst with
    | none => rw [hdst] at hd; simp at hd
    | some k =>
      rw [hdst] at hd
      simp only [Bool.and_eq_true, decide_eq_true_eq] at hd
      obtain ⟨⟨hk, hall⟩, hd'⟩ := hd
      have hnk : ∀ o' ∈ l, o'.dst ≠ some k := fun o' ho' => by simpa using List.all_eq_true.1 hall o' ho'
      have hput : ∀ v, (a.put o.dst v).tmps[k]? = some v := fun v => by
        rw [hdst]
        simp [Act.put, hk]
      by_cases hw : Region.wanted o (yielded ops a.tmps) = true
      · have h' : ∀ X, Below W.heap.size W X → ∃ v, (∀ w, Below X.heap.size X w → o.quietAt P a (fun w => Below X.heap.size X w) w v) ∧ wpQuiet P ops (fun w => Below X.heap.size X w) (fun a' => a' = A) l (a.put o.dst v) := fun X hX => by
          have := h X hX
          unfold wpQuiet at this
          simp only [hw, if_true] at this
          exact this
        obtain ⟨v, _, hv⟩ := h' W (Below.refl _ _)
        have same : ∀ X, Below W.heap.size W X → ∀ u, wpQuiet P ops (fun w => Below X.heap.size X w) (fun a' => a' = A) l (a.put o.dst u) → u = v := fun X hX u hu => by
          have e1 := quiet_keeps k l _ hnk hv
          have e2 := quiet_keeps k l _ hnk hu
          rw [hput] at e1 e2
          rw [e1] at e2
          exact (Option.some.inj e2).symm
        refine ⟨v, .inl ⟨hw, fun w hC => ?_⟩, seqD_of_quiet W l _ (by rw [put_size]; exact hd') fun X hX => ?_⟩
        · obtain ⟨u, hu, hr⟩ := h' w hC
          obtain rfl := same w hC u hr
          exact hu w (Below.refl _ _)
        · obtain ⟨u, hu, hr⟩ := h' X hX
          obtain rfl := same X hX u hr
          exact hr
      · have hw' : Region.wanted o (yielded ops a.tmps) = false := by simpa using hw
        refine ⟨undef, .inr ⟨hw', rfl⟩, seqD_of_quiet W l _ (by rw [put_size]; exact hd') fun X hX => ?_⟩
        have := h X hX
        unfold wpQuiet at this
        simpa only [hw', Bool.false_eq_true, if_false] using this
end
section
variable {P : Program} {ops : Array Oper} {md : Region.Mode} {m : Nat}
/-- The block that was laid: where the frame says, as it was laid. -/
def LaidAt (W : World) (z : Obj) (d : Nat) (a : Act) (w : World) : Prop := ∃ u : Nat, a.tmps[d]? = some (.pointer (some ⟨u, 0, none⟩)) ∧ W.heap.size ≤ u ∧ w.heap[u]? = some z
theorem LaidAt.step {W : World} {z : Obj} {d : Nat} {a : Act} {w w' : World} (h : LaidAt W z d a w) (hb : Below w.heap.size w w') {k : Option Nat} (hk : k ≠ some d) (v : Value) : LaidAt W z d (a.put k v) w' := by
  obtain ⟨u, h1, h2, h3⟩ := h
  refine ⟨u, ?_, h2, (hb.block u (Array.getElem?_eq_some_iff.1 h3).1).trans h3⟩
  unfold Act.put
  cases k with
  | none => exact h1
  | some k =>
    have : k ≠ d := fun e => hk (by rw [e])
    simp [this, h1]

theorem opIn_of_quietAt {r n : Nat} {o : Oper} {a : Act} {v : Value} {E : World → Prop} {K' : Act → World → Prop} {Q' : Exit → Act → World → Prop} {w : World} (hd : ∀ c, o.op ≠ .defer c) (hq : o.quietAt P a E w v) (hw : E w) (h : ∀ w', E w' → K' (a.put o.dst v) w') :
    o.wpIn (Fence.wide.inRound r) n P a w K' Q' := by
  unfold Oper.quietAt at hq
  unfold Oper.wpIn
  refine ⟨fun _ _ => trivial, ?_⟩
  have e : o.semAt (Fence.wide.inRound r).round a.eval = execOp a.eval o := Oper.semAt_some r _ _ hd
  rw [e]
  generalize (execOp a.eval o).run P w = q at *
  cases q with
  | ok x w' =>
    cases x <;> simp only [Oper.quietUpon] at hq <;> simp only [Oper.uponIn]
    case value u =>
      obtain ⟨e1, e2⟩ := hq
      rw [e1, e2]
      exact h _ hw
    case skip =>
      obtain ⟨e1, e2⟩ := hq
      rw [e1, ← e2]
      exact h _ hw
    case enter f args =>
      obtain ⟨e1, hc⟩ := hq
      rw [e1]
      refine ⟨fun h => by simp [Fence.wide] at h, CallsIn.inRound r (callsIn_wide.2 (hc.mono fun e w'' ⟨he, hw''⟩ => ?_))⟩
      subst he
      exact h _ hw''
  | halt x w' => simp only [Oper.quietUpon] at hq

/-- The order in which the head comes, and what its worlds are. -/
theorem anyIn_of_headD {r nf n g d : Nat} {W : World} {z : Obj} {om : Oper} {L : Array Bool → Act → Prop} {Q' : Exit → Act → World → Prop} (hd : ∀ (i : Nat) (o : Oper) c, ops[i]? = some o → o.op ≠ .defer c)
    (hm : ops[m]? = some om) (hdst : om.dst = some d) (hwant : ∀ ts, Region.wanted om (yielded ops ts) = true) (hdo : ∀ i o, ops[i]? = some o → i ≠ m → i < n → o.dst ≠ some d)
    (hal : ∀ (a : Act) (w : World), (execOp a.eval om).run P w = .ok (.value (.pointer (some ⟨w.heap.size, 0, none⟩))) (w.alloc z))
    (hL : ∀ listed a w, Below W.heap.size W w → (listed.getD m false = true → LaidAt W z d a w) → L listed a → wpAnyIn (Fence.wide.inRound r) nf P md ops Q' g listed a w) :
    ∀ (f : Nat) (listed : Array Bool) (a : Act) (w : World), d < a.tmps.size → listed.size = ops.size → Below W.heap.size W w → (listed.getD m false = true → LaidAt W z d a w) →
      HeadD P md ops (fun w => Below W.heap.size W w) (fun w w' => Below w.heap.size w w') m n L f listed a → wpAnyIn (Fence.wide.inRound r) nf P md ops Q' (f + g) listed a w
  | 0, listed, a, w, _, _, hw, hl, h => by rw [Nat.zero_add]; exact hL _ _ _ hw hl h
  | f + 1, listed, a, w, hsz, hls, hw, hl, h => by
    rw [show f + 1 + g = (f + g) + 1 by omega]
    refine ⟨fun h0 => absurd h0 h.1, fun i hi => ?_⟩
    obtain ⟨hin, hq⟩ := h.2 i hi
    unfold wpOpIn
    rcases hq with ⟨him, hq⟩ | ⟨him, o, v, ho, hy, hH⟩
    · rw [him]
      simp only [hm]
      rw [if_pos (hwant _)]
      unfold Oper.wpIn
      refine ⟨fun _ _ => trivial, ?_⟩
      have e : om.semAt (Fence.wide.inRound r).round a.eval = execOp a.eval om := Oper.semAt_some r _ _ (fun c => hd m om c hm)
      rw [e, hal]
      simp only [Oper.uponIn]
      refine anyIn_of_headD hd hm hdst hwant hdo hal hL f _ _ _ (by rw [put_size]; exact hsz) (by simp [hls]) (hw.alloc hw.size _) (fun _ => ⟨w.heap.size, ?_, hw.size, ?_⟩) (hq om w.heap.size hm)
      · rw [hdst]
        simp [Act.put, hsz]
      · exact heap_alloc_new w _
    · simp only [ho]
      have hlist : (listed.setIfInBounds i true).getD m false = listed.getD m false := by
        simp [Array.getD_eq_getD_getElem?, him]
      rcases hy with ⟨hwd, hy⟩ | ⟨hwd, rfl⟩
      · rw [if_pos hwd]
        refine opIn_of_quietAt (fun c => hd i o c ho) (hy w hw) (Below.refl _ _) fun w' hw' => ?_
        exact anyIn_of_headD hd hm hdst hwant hdo hal hL f _ _ _ (by rw [put_size]; exact hsz) (by simp [hls]) (hw.trans (hw'.mono hw.size)) (fun hlm => (hl (hlist ▸ hlm)).step hw' (hdo i o ho him hin) v) hH
      · rw [if_neg (by simp [hwd])]
        exact ⟨fun _ _ => trivial, anyIn_of_headD hd hm hdst hwant hdo hal hL f _ _ _ (by rw [put_size]; exact hsz) (by simp [hls]) hw (fun hlm => (hl (hlist ▸ hlm)).step (Below.refl _ _) (hdo i o ho him hin) undef) hH⟩

/-- The region as a Bool: its operations below m each have a place of their own, and none has m's. -/
def floB (size m : Nat) (l : List Oper) : Bool := ownDsts size (l.take m) && (match l[m]? with | some o => (match o.dst with | some d => decide (d < size) && (l.take m).all (fun o' => o'.dst != some d) | none => false) | none => false)
theorem regionIn_flo {id r nf : Nat} {Q : Exit → Act → World → Prop} {a : Act} {w : World} {l : List Oper} (m : Nat) {om : Oper} {d : Nat} (z : Obj) (hmo : P.follows .mixedOrders = true) (hB : Region.lexTailB .any l.toArray (m + 1) = true) (hd : noDefer l = true)
    (hm : l[m]? = some om) (hdst : om.dst = some d) (hF : floB a.tmps.size m l = true) (hwant : ∀ ts, Region.wanted om (yielded l.toArray ts) = true)
    (hal : ∀ (a : Act) (w : World), (execOp a.eval om).run P w = .ok (.value (.pointer (some ⟨w.heap.size, 0, none⟩))) (w.alloc z))
    (hh : ∃ A, (∀ X, Below w.heap.size w X → wpQuiet P l.toArray (fun w' => ∃ s : BelS X, w' = s.w) (fun a' => a' = A) (l.take m) a) ∧
      ∀ (u : Nat) (w' : World), Below w.heap.size w w' → w.heap.size ≤ u → w'.heap[u]? = some z → wpListIn (Fence.wide.inRound r) nf P l.toArray Q (l.drop (m + 1)) (A.put (some d) (.pointer (some ⟨u, 0, none⟩))) w') :
    (Code.region id l.toArray true).wpIn (Fence.wide.inRound r) nf P Q a w := by
  obtain ⟨A, h, hK⟩ := hh
  simp only [Region.lexTailB, Bool.and_eq_true, decide_eq_true_eq] at hB
  obtain ⟨⟨⟨⟨hsel, hn⟩, hs⟩, hc⟩, hlex⟩ := hB
  unfold floB at hF
  rw [hm] at hF
  simp only [hdst, Bool.and_eq_true, decide_eq_true_eq] at hF
  obtain ⟨hown, hds, hdn⟩ := hF
  have hml : m < l.length := (List.getElem?_eq_some_iff.1 hm).1
  have htl : (l.take m).length = m := by simp; omega
  have hdl : (l.drop (m + 1)).length = l.toArray.size - (m + 1) := by simp
  have hdr : ∀ X, Below w.heap.size w.drew X → Below w.heap.size w X := fun X hX => ⟨hX.os, hX.tape, hX.output, hX.size, hX.block⟩
  have hdr' : ∀ X, Below w.heap.size w X → Below w.heap.size w.drew X := fun X hX => ⟨hX.os, hX.tape, hX.output, hX.size, hX.block⟩
  have H := headD_lex (P := P) (md := .any) (g := l.toArray.size - (m + 1)) (C := fun w' => Below w.heap.size w w') (D := fun w w' => Below w.heap.size w w') (om := om) (Lq := fun a' => a' = A) (m := m) (ops := l.toArray) (by simpa using hm) hsel hs hc (by simpa using hn) (l.take m) 0 (Array.replicate l.toArray.size false) a (fun j hj => by
    have hj' : j < m := by rw [htl] at hj; exact hj
    simp [hj']) (by simpa using htl)
    ⟨by simp, fun j oj _ hl => (by rw [getD_replicate_false] at hl; cases hl), fun t _ ht => getD_in (by simpa using ht) (getD_replicate_false _ _)⟩ (by rw [htl]; exact hlex) (seqD_of_quiet w _ _ hown fun X hX => by rw [← bels_class]; exact h X hX)
  refine wpIn_region_any hmo ?_
  have := anyIn_of_headD (P := P) (md := .any) (ops := l.toArray) (m := m) (n := m + 1) (W := w) (z := z) (r := r) (nf := nf) (Q' := Q) (g := l.toArray.size - (m + 1)) (fun i o c ho => noDefer_spec hd i o c ho) (by simpa using hm) hdst hwant
    (fun i o ho him hi => by
      have hi' : i < m := by omega
      have : o ∈ l.take m := List.mem_iff_getElem?.2 ⟨i, by rw [List.getElem?_take, if_pos hi']; simpa using ho⟩
      simpa using List.all_eq_true.1 hdn o this) hal
    (fun listed a' w' hw' hla hL => by
      obtain ⟨⟨hseq, hlm⟩, u, A', rfl, rfl⟩ := hL
      obtain ⟨u', h1, h2, h3⟩ := hla hlm
      have hsA : d < A'.tmps.size := by
        have := (Array.getElem?_eq_some_iff.1 h1).1
        rwa [put_size] at this
      rw [hdst] at h1 ⊢
      have hu : u = u' := by
        simp [Act.put, hsA] at h1
        exact h1
      subst hu
      have := anyIn_of_seq (md := .any) (Q' := Q) (l.drop (m + 1)) (m + 1) listed _ w' (fun j => by simp [List.getElem?_drop]) (by rw [hdl]; exact hseq) (hK u w' hw' h2 h3)
      rwa [hdl] at this) _ _ a w.drew hds (by simp) (hdr _ (Below.refl _ _)) (fun hlm => by simp [Array.getD_eq_getD_getElem?, Array.getElem?_replicate] at hlm; split at hlm <;> simp at hlm) H
  rw [htl, show m + 1 + (l.toArray.size - (m + 1)) = l.toArray.size by simp; omega] at this
  exact this
end
/-- What follows a statement that ends its block, behind a variable. -/
theorem wpIn_hideK {F : Fence} {rm : Nat} {P : Program} {s : Code} {Q : Exit → Act → World → Prop} {a : Act} {w : World} (h : ∀ K : Act → World → Prop, (∀ a w, Q .normal a w → K a w) → s.wpIn F rm P (Exit.then K Q) a w) : s.wpIn F rm P Q a w :=
  wpIn_mono (h (fun a w => Q .normal a w) (fun _ _ h => h)) fun e a w h => by
    cases e <;> exact h
end Go.Proofs.Ytcggghamnmflcaa
