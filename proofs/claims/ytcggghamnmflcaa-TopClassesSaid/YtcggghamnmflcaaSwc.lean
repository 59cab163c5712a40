/- The walk of shape.named: names in a map. -/
import Derived.Test.YtcggghamnmflcaaSwb
import Derived.LoopTactic
import Derived.Maps.OwnOps
import Derived.Maps.OwnSet
import Derived.Maps.Views
namespace Go.Proofs.Ytcggghamnmflcaa
open Go Go.RowKit
def keyB (b : ByteArray) : Lit := .string b.data.toList
def setB (l : List ByteArray) : DataW Unit := Maps.setOf (.lit (.bool true)) (l.map keyB)
def seenS (l : List ByteArray) (x : ByteArray) : Bool := l.any fun y => y.data.toList == x.data.toList
theorem keyed9 : Maps.Keyed Try.prog 9 := Maps.string_keyed Try.underlying9
theorem keyOf9 {s : ByteArray} (h : s.size ≤ 9223372036854775807) : keyOf Try.prog 9 (.string s) = some (keyB s) := Go.WideMaps.keyOf_string_mk Try.underlying9 (by simpa [maxLen] using h)
theorem zero4 (w : World) : (zeroValue 4).run Try.prog w = .ok (.bool false) w := by kernel_rfl
theorem keyB_lit (b : ByteArray) : WideAt.IsKeyLit (keyB b) := by
  simp [WideAt.IsKeyLit, keyB]
theorem keyB_same (x y : ByteArray) : (keyB y).sameKey (keyB x) = (y.data.toList == x.data.toList) := by
  simp [keyB, Lit.sameKey]
theorem keyB_ne {x y : ByteArray} (h : (y.data.toList == x.data.toList) = false) : keyB x ≠ keyB y := by
  intro e
  simp [keyB] at e
  simp [e] at h
theorem fold_at (x : ByteArray) : ∀ (l : List ByteArray) (m : DataW Unit), Maps.IsMap m → ((l.map keyB).foldl (fun m x => m.put x (.lit (.bool true))) m).atKey (keyB x) (.lit (.bool false)) = if (l.any fun y => y.data.toList == x.data.toList) = true then .lit (.bool true) else m.atKey (keyB x) (.lit (.bool false))
  | [], m, _ => rfl
  | y :: l, m, hm => by
    rw [List.map_cons, List.foldl_cons, fold_at x l _ (hm.put _ _), List.any_cons]
    cases h : (l.any fun y => y.data.toList == x.data.toList) with
    | true => simp
    | false =>
      cases h2 : (y.data.toList == x.data.toList) with
      | true =>
        have e : keyB y = keyB x := by simp at h2; simp [keyB, h2]
        rw [e]
        simp [Maps.atKey_put_same hm (keyB_lit x)]
      | false => simp [Maps.atKey_put_other (keyB_ne h2)]
theorem setB_at (l : List ByteArray) (x : ByteArray) : (setB l).atKey (keyB x) (.lit (.bool false)) = .lit (.bool (seenS l x)) := by
  unfold setB seenS Maps.setOf
  rw [fold_at x l _ Maps.isMap_empty]
  cases (l.any fun y => y.data.toList == x.data.toList) <;> rfl
theorem setB_snoc (l : List ByteArray) (x : ByteArray) : setB (l ++ [x]) = (setB l).put (keyB x) (.lit (.bool true)) := by
  unfold setB
  rw [List.map_append, List.map_singleton, Maps.setOf_snoc]
theorem plainElem_bool_inv {P : Program} {e : TypeId} (he : P.underlying e = some .bool) {v : Value} {z : DataW Unit × List MemPlace} (h : plainElem P e v = some z) : ∃ x, v = .bool x ∧ z = (.lit (.bool x), []) := by
  unfold plainElem at h
  rw [he] at h
  cases v <;> simp at h
  exact ⟨_, rfl, h.symm⟩
theorem look_seen {w : World} {b n : Nat} {l : List ByteArray} {x : ByteArray} (h : w.ownsMap Try.prog 9 (plainElem Try.prog 4) b n (setB l)) (hx : x.size ≤ 9223372036854775807) :
    (Instr.lookup 168 (.map (some b)) (.string x) false).run Try.prog w = .ok (.bool (seenS l x)) w := by
  obtain ⟨v, ps, hrun, hv⟩ := h.lookup keyed9 Try.underlying168 (zero4 w) (zd := .lit (.bool false)) (zp := []) (plainElem_bool Try.underlying4 false) (keyOf9 hx)
  obtain ⟨y, rfl, hz⟩ := plainElem_bool_inv Try.underlying4 hv
  rw [setB_at] at hz
  simp at hz
  rw [hrun, hz.1]
def key0 : Lit := keyB ⟨#[]⟩
theorem empty_iff (x : ByteArray) : x.toList.isEmpty = true ↔ keyB x = key0 := by
  rw [Go.ByteArray.toList_eq]
  cases h : x.data.toList with
  | nil => simp [keyB, key0, h]
  | cons a l => simp [keyB, key0, h]
theorem has_size {E : DataW Unit} {k : Lit} (h : Maps.has E k = true) : 0 < Maps.size E := by
  cases E with
  | map es =>
    rw [Maps.has_eq, List.any_eq_true] at h
    obtain ⟨p, hp, _⟩ := h
    rw [Maps.size_eq]
    exact List.length_pos_of_mem hp
  | _ => cases h
theorem filter_insert {f : Lit × DataW Unit → Bool} {x : Lit × DataW Unit} (hx : f x = false) : ∀ l : List (Lit × DataW Unit), (DataW.insert x l).filter f = l.filter f
  | [] => by simp [DataW.insert, hx]
  | y :: l => by
    unfold DataW.insert
    split
    · rw [List.filter_cons, hx]; rfl
    · rw [List.filter_cons, List.filter_cons, filter_insert hx l]
theorem put_del (m : DataW Unit) (k : Lit) (hk : WideAt.IsKeyLit k) (u : DataW Unit) : (m.put k u).del k = m.del k := by
  cases m <;> try rfl
  rename_i es
  simp only [DataW.put, DataW.del]
  rw [filter_insert (by simp [WideAt.sameKey_self hk])]
  simp
theorem fold_del : ∀ (l : List ByteArray) (m : DataW Unit), (∀ x ∈ l, keyB x = key0) → ((l.map keyB).foldl (fun m x => m.put x (.lit (.bool true))) m).del key0 = m.del key0
  | [], m, _ => rfl
  | y :: l, m, h => by
    rw [List.map_cons, List.foldl_cons, fold_del l _ (fun x hx => h x (List.mem_cons_of_mem _ hx)), h y (List.mem_cons_self ..)]
    exact put_del m key0 (keyB_lit _) _
theorem size_named (l : List ByteArray) : 0 < Maps.size ((setB l).del key0) ↔ (l.any fun x => !x.toList.isEmpty) = true := by
  constructor
  · intro h
    cases ha : (l.any fun x => !x.toList.isEmpty) with
    | true => rfl
    | false =>
      have h2 : ∀ x ∈ l, keyB x = key0 := fun x hx => by
        rw [List.any_eq_false] at ha
        exact (empty_iff x).1 (by simpa using ha x hx)
      have h3 : (setB l).del key0 = (.map [] : DataW Unit).del key0 := fold_del l _ h2
      rw [h3] at h
      simp [DataW.del, Maps.size] at h
  · intro h
    rw [List.any_eq_true] at h
    obtain ⟨x, hx, hne⟩ := h
    have hk : keyB x ≠ key0 := fun e => by rw [(empty_iff x).2 e] at hne; cases hne
    refine has_size (k := keyB x) ?_
    rw [Maps.has_del_other hk]
    unfold setB
    rw [Maps.has_setOf _ _ _ (fun y hy => by obtain ⟨z, _, rfl⟩ := List.mem_map.1 hy; exact keyB_lit z), List.any_eq_true]
    exact ⟨keyB x, List.mem_map_of_mem hx, WideAt.sameKey_self (keyB_lit x)⟩
theorem apartS_iff : ∀ l : List ByteArray, apartS l = true ↔ l.Pairwise (fun a b => a.toList.isEmpty = true ∨ b.data.toList ≠ a.data.toList)
  | [] => by simp [apartS]
  | x :: l => by
    rw [apartS, Bool.and_eq_true, apartS_iff l, List.pairwise_cons]
    refine and_congr ?_ Iff.rfl
    rw [Bool.or_eq_true, Bool.not_eq_true', List.any_eq_false]
    constructor
    · rintro (h | h) y hy
      · exact .inl h
      · exact .inr (by simpa using h y hy)
    · intro h
      cases he : x.toList.isEmpty with
      | true => exact .inl rfl
      | false => exact .inr (fun y hy => by rcases h y hy with h | h <;> simp_all)
theorem seen_of_apart {l : List ByteArray} (h : apartS l = true) {j : Nat} {x : ByteArray} (hx : l[j]? = some x) : x.toList.isEmpty = true ∨ seenS (l.take j) x = false := by
  rw [apartS_iff, List.pairwise_iff_getElem] at h
  obtain ⟨hj, rfl⟩ := List.getElem?_eq_some_iff.1 hx
  cases he : (l[j]).toList.isEmpty with
  | true => exact .inl rfl
  | false =>
    refine .inr ?_
    unfold seenS
    rw [List.any_eq_false]
    intro y hy
    obtain ⟨i, hi, rfl⟩ := List.mem_iff_getElem.1 hy
    simp at hi
    have hij : i < j := by omega
    rw [List.getElem_take]
    rcases h i j (by omega) hj hij with h | h
    · intro e
      simp at e
      have : keyB l[i] = keyB l[j] := by simp [keyB, e]
      rw [empty_iff, this, ← empty_iff, he] at h
      cases h
    · intro e
      simp at e
      exact h (congrArg Array.toList e.symm)
theorem apart_of_seen {l : List ByteArray} (h : ∀ j x, j < l.length → l[j]? = some x → x.toList.isEmpty = true ∨ seenS (l.take j) x = false) : apartS l = true := by
  rw [apartS_iff, List.pairwise_iff_getElem]
  intro i j hi hj hij
  rcases h j _ hj (List.getElem?_eq_getElem hj) with h | h
  · by_cases e : l[j].data.toList = l[i].data.toList
    · left
      rw [empty_iff] at h ⊢
      rw [← h]
      simp [keyB, e]
    · exact .inr e
  · right
    intro e
    unfold seenS at h
    rw [List.any_eq_false] at h
    have hm : l[i] ∈ l.take j := by
      rw [List.mem_iff_getElem]
      exact ⟨i, by simp; omega, by simp⟩
    have := h _ hm
    simp [e] at this
theorem ret_b {a b : Bool} (h : a = b) : Ending.returned (.bool a) = .returned (.bool b) := by rw [h]
theorem take_snoc_of {α : Type} {l : List α} {k : Nat} {x : α} (h : l[k]? = some x) : l.take (k + 1) = l.take k ++ [x] := by
  rw [List.take_add_one, h]; rfl
set_option maxRecDepth 100000 in
theorem named_c {d : Nat} (A : Option Addr) (c : Nat) (l : List (Fld (Tp d))) (w : World) (hc : l.length ≤ c) (hm : c ≤ 9223372036854775807) (h : FdsAt w d A l) :
    Calls Try.prog 118 #[.slice A l.length c] w fun e w' => e = .returned (.bool (namedS (l.map Fld.nm))) ∧ Below w.heap.size w w' := by
  have hmm := @run_makeMap Try.prog
  go_enter Try.func118, Try.ntmps118
  go_wp2
  clear hmm
  have hlen : l.length ≤ 9223372036854775807 := by omega
  go_loopw [9] (fun i wr => ∃ k : Nat, k ≤ l.length ∧ i = .int .i64 k ∧ wr.ownsMap Try.prog 9 (plainElem Try.prog 4) w.heap.size k (setB ((l.map Fld.nm).take k)) ∧ Below w.heap.size w wr ∧ (∀ j x, j < k → (l.map Fld.nm)[j]? = some x → x.toList.isEmpty = true ∨ seenS ((l.map Fld.nm).take j) x = false))
     (fun i _ => l.length - (intOf i).toNat)
  case atStart => exact ⟨0, Nat.zero_le _, rfl, World.ownsMap_made _ _ _ _, bel_alloc (Below.refl _ _) _, fun j x hj => by omega⟩
  case round =>
    obtain ⟨k, hk, rfl, hown, hB, hs⟩ := hrel
    by_cases hlt : k < l.length
    · obtain ⟨f, hf⟩ : ∃ f, l[k]? = some f := ⟨_, List.getElem?_eq_getElem hlt⟩
      obtain ⟨b, o, n, A1, A2, n1, n2, c1, c2, pk, al, rfl, hbt, hnm, -, q0, q1, q2, q3, q4, q5, q6, q7, q8⟩ := (h.below hB).at_ hf
      have hrun := look_seen (hown.alloc (.cells #[.string f.nm, .int .i64 (tsh d f.t), .int .i64 (tk d f.t), .int .i64 n, .slice A1 n1 c1, .slice A2 n2 c2, .bool pk, .int .i64 al, .int .i64 f.bits] 56)) hnm
      have HS := Lib.hid hs
      have HF := Lib.hid hf
      clear h hs hf
      cases he : f.nm.toList.isEmpty with
      | true =>
          have HE := Lib.hid he
          go_wp2_with (at_mapUpdate; refine wpList_mapUpdate_own _ rfl _ _ _ 168 rfl 9 4 keyed9 Try.underlying168 _ _ k _ rfl (hown.alloc _) (by unfold maxLen; omega) _ _ (keyB f.nm) rfl rfl (keyOf9 hnm) _ [] (plainElem_bool Try.underlying4 true) ?_; intro w1 hown1 hgrow1)
          go_roundw
          case rel => exact ⟨k + 1, by omega, by go_num, by rw [take_snoc_of (l := l.map Fld.nm) (x := f.nm) (by simp [HF.out]), setB_snoc]; exact hown1, (bel_alloc hB _).grown hgrow1 (Nat.le_trans hB.size (by simp)) (by rintro g hg; cases hg; exact Nat.le_refl _), fun j x hj hx => by
              rcases Nat.lt_or_ge j k with h1 | h1
              · exact HS.out j x h1 hx
              · obtain rfl : j = k := by omega
                have : x = f.nm := by simp [HF.out] at hx; exact hx.symm
                subst this
                exact .inl HE.out⟩
          case measure => simp [intOf]; omega

      | false =>
        cases hb : seenS (List.take k (List.map Fld.nm l)) f.nm with
        | true =>
          have HN := Lib.hid (show namedS (l.map Fld.nm) = false by
            unfold namedS
            cases ha : apartS (l.map Fld.nm) with
            | false => rfl
            | true =>
              rcases seen_of_apart ha (j := k) (x := f.nm) (by simp [HF.out]) with h | h
              · rw [he] at h; cases h
              · rw [hb] at h; cases h)
          go_wp2_with fail
          go_ret
          exact ⟨by rw [HN.out]; rfl, bel_alloc hB _⟩
        | false =>
          have HE := Lib.hid hb
          go_wp2_with (at_mapUpdate; refine wpList_mapUpdate_own _ rfl _ _ _ 168 rfl 9 4 keyed9 Try.underlying168 _ _ k _ rfl (hown.alloc _) (by unfold maxLen; omega) _ _ (keyB f.nm) rfl rfl (keyOf9 hnm) _ [] (plainElem_bool Try.underlying4 true) ?_; intro w1 hown1 hgrow1)
          go_roundw
          case rel => exact ⟨k + 1, by omega, by go_num, by rw [take_snoc_of (l := l.map Fld.nm) (x := f.nm) (by simp [HF.out]), setB_snoc]; exact hown1, (bel_alloc hB _).grown hgrow1 (Nat.le_trans hB.size (by simp)) (by rintro g hg; cases hg; exact Nat.le_refl _), fun j x hj hx => by
              rcases Nat.lt_or_ge j k with h1 | h1
              · exact HS.out j x h1 hx
              · obtain rfl : j = k := by omega
                have : x = f.nm := by simp [HF.out] at hx; exact hx.symm
                subst this
                exact .inr HE.out⟩
          case measure => simp [intOf]; omega

    · obtain rfl : k = l.length := by omega
      rw [List.take_of_length_le (by simp)] at hown
      have HA := Lib.hid (apart_of_seen (l := l.map Fld.nm) (by simpa using hs))
      have hsz := size_named (l.map Fld.nm)
      obtain ⟨z, hz⟩ : ∃ z, Maps.size ((setB (l.map Fld.nm)).del key0) = z := ⟨_, rfl⟩
      rw [hz] at hsz
      have HZ := Lib.hid hz
      have HN := Lib.hid (show namedS (l.map Fld.nm) = (decide (0 < z) && decide (l.length ≤ 40)) by
        unfold namedS
        rw [HA.out, List.length_map, Bool.true_and]
        cases hany : ((l.map Fld.nm).any fun x => !x.toList.isEmpty) with
        | true =>
          have hz0 : 0 < z := hsz.2 hany
          rw [decide_eq_true hz0]
        | false =>
          have hz0 : ¬ 0 < z := fun h0 => by rw [hsz.1 h0] at hany; cases hany
          rw [decide_eq_false hz0])
      clear h hs hsz hz
      by_cases h1 : 0 < z
      all_goals by_cases h2 : l.length ≤ 40
      all_goals
        go_wp2_with (first | (at_delete; refine wpList_delete_own _ rfl _ _ 168 9 rfl 4 keyed9 Try.underlying168 _ _ l.length _ rfl hown _ key0 rfl (keyOf9 (by decide)) ?_; intro w1 hown1 hturn1) | (at_len; refine wpList_len_own _ rfl _ 168 rfl 9 4 Try.underlying168 _ _ l.length _ rfl hown1 ?_; rw [HZ.out]))
        go_ret
        exact ⟨ret_b (by rw [HN.out]; simp [h1]; try omega), hB.grown hturn1.grown hB.size (by rintro g hg; cases hg; exact Nat.le_refl _)⟩
end Go.Proofs.Ytcggghamnmflcaa
