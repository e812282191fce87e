/- The plain law of a turned bit. -/
import Derived.Test.YtkefciacdmbidaaHe
namespace Go.Proofs.Ytkefciacdmbidaa
open Go.RowKit Go.WideMaps Go.Maps Go.Lib

theorem sumP_fst : ∀ (xs : List Int) (s : Int × Int), 0 ≤ s.1 ∧ s.1 < 65521 → (xs.foldl sumStep s).1 = (s.1 + xs.sum) % 65521
  | [], s, h => by simp; omega
  | c :: r, s, h => by
    rw [List.foldl_cons, sumP_fst r (sumStep s c) (by unfold sumStep; simp only; omega)]
    unfold sumStep
    simp only [List.sum_cons]
    omega
theorem sum_set : ∀ (xs : List Int) (k : Nat) (y : Int) (h : k < xs.length), (xs.set k y).sum = xs.sum - xs[k] + y
  | a :: r, 0, y, _ => by simp; omega
  | a :: r, k + 1, y, h => by
    have := sum_set r k y (by simpa using h)
    simp only [List.set_cons_succ, List.sum_cons, List.getElem_cons_succ]
    omega
theorem sumB_set {xs : List Int} {k : Nat} {y : Int} (h : k < xs.length) (ho : Octets xs) (hy : 0 ≤ y ∧ y < 256) (hne : y ≠ xs[k]) : sumB (xs.set k y) ≠ sumB xs := by
  have h1 := sumP_fst xs (1, 0) (by decide)
  have h2 := sumP_fst (xs.set k y) (1, 0) (by decide)
  have r1 := sumP_range xs
  have r2 := sumP_range (xs.set k y)
  have hx := ho xs[k] (List.getElem_mem h)
  rw [sum_set xs k y h] at h2
  unfold sumB sumP at *
  simp only at h1 h2
  intro e
  have e1 : (xs.foldl sumStep (1, 0)).1 = ((xs.set k y).foldl sumStep (1, 0)).1 := by omega
  rw [h1, h2] at e1
  omega
theorem endN_inj {n m : Int} (hn : 0 ≤ n ∧ n < 4294967296) (hm : 0 ≤ m ∧ m < 4294967296) (h : endN n = endN m) : n = m := by
  unfold endN at h
  simp only [List.cons.injEq, and_true] at h
  omega
theorem set_ne {xs : List Int} {k : Nat} {y : Int} (h : k < xs.length) (hne : y ≠ xs[k]) : xs.set k y ≠ xs := fun e => by
  have := congrArg (fun l => l[k]?) e
  simp only [List.getElem?_set_self h, List.getElem?_eq_getElem h, Option.some.injEq] at this
  exact hne this

theorem bits_told {x : List Int} (hl : x.length ≤ 65536) (ho : Octets x) {k : Nat} {y : Int} (h1 : (numN x.length).length ≤ k) (h2 : k < (frameB x).length) (hy : 0 ≤ y ∧ y < 256) (hne : y ≠ (frameB x)[k]) : readB ((frameB x).set k y) = none := by
  rw [frameB_len] at h2
  have e0 : (frameB x).set k y = numN x.length ++ (x ++ endB x).set (k - (numN x.length).length) y := by
    unfold frameB
    rw [List.set_append, if_neg (by omega)]
  obtain ⟨j, hj⟩ : ∃ j, j = k - (numN x.length).length := ⟨_, rfl⟩
  rw [← hj] at e0
  have hjl : j < x.length + 4 := by omega
  have hget : (frameB x)[k]'(by rw [frameB_len]; exact h2) = (x ++ endB x)[j]'(by rw [List.length_append, endB_len]; exact hjl) := by
    unfold frameB
    rw [List.getElem_append_right (by omega)]
    congr 1
    exact hj.symm
  rw [hget] at hne
  have hbad : nextB ((frameB x).set k y) = .bad := by
    unfold nextB
    rw [e0, begunB_low (by
      obtain ⟨c, hc, hl⟩ := numN_low 2 x.length (by omega)
      exact ⟨c, List.mem_append_left _ hc, hl⟩), take_num (by omega)]
    simp only [Bool.false_eq_true, if_false]
    rw [if_neg (by omega), if_neg (by simp only [List.length_set, List.length_append, endB_len]; omega)]
    rw [if_neg]
    by_cases hjx : j < x.length
    · have e1 : (x ++ endB x).set j y = x.set j y ++ endB x := by rw [List.set_append, if_pos hjx]
      have hl1 : (x.set j y).length = x.length := List.length_set
      rw [e1, List.take_append_of_le_length (by omega), List.take_of_length_le (by omega), show x.length = (x.set j y).length by omega, List.drop_left, ← endB_len x, List.take_length]
      rw [List.getElem_append_left hjx] at hne
      intro e
      exact sumB_set hjx ho hy hne (endN_inj (sumB_range _) (sumB_range _) e)
    · have e1 : (x ++ endB x).set j y = x ++ (endB x).set (j - x.length) y := by rw [List.set_append, if_neg hjx]
      rw [e1, List.take_left, List.drop_left, List.take_of_length_le (by rw [List.length_set, endB_len]; omega)]
      rw [List.getElem_append_right (by omega)] at hne
      exact fun e => set_ne (by rw [endB_len]; omega) hne e.symm
  have hnil : (frameB x).set k y ≠ [] := fun e => by
    have := congrArg List.length e
    rw [List.length_set, frameB_len] at this
    simp at this
  unfold readB
  rw [allB_step hnil, hbad]
  rfl

theorem row_set {w : World} {base g n c : Nat} {xs : List Int} (h : w.ownsRow base 5 1 (.slice (some ⟨g, 0, none⟩) n c) n (xs.map (Value.int .u8))) {k : Nat} (hk : k < xs.length) (y : Int) :
    BytesAt (w.setCell ⟨g, k, none⟩ (.int .u8 y)) (.slice (some ⟨g, 0, none⟩) (xs.set k y).length c) (xs.set k y) := by
  have hl : xs.length = n := by simpa using h.1
  obtain ⟨cs, hc⟩ := ownsRow_type h (g := g) rfl
  have hset := setCell_same (o := k) (v := .int .u8 y) hc
  obtain ⟨A', c', e, hcc⟩ := ownsRow_slice h
  simp only [Value.slice.injEq] at e
  obtain ⟨-, -, rfl⟩ := e
  refine Or.inr ⟨⟨g, 0, none⟩, c, rfl, by rw [List.length_set]; omega, by simp, fun j u hj => ?_, one_u8 _⟩
  rw [add_flat', Nat.zero_add, cell_of hset]
  have hjl := (List.getElem?_eq_some_iff.1 hj).1
  simp only [List.length_map, List.length_set] at hjl
  have hold : ∀ i, i < xs.length → cs[i]? = some (.int .u8 (xs.getD i 0)) := fun i hi => by
    have := h.cells (g := g) rfl i (.int .u8 (xs.getD i 0)) (by simp [hi])
    rw [add_flat', Nat.zero_add, cell_of hc] at this
    exact this
  by_cases hjk : k = j
  · subst hjk
    have hsz : k < cs.size := (Array.getElem?_eq_some_iff.1 (hold k hk)).1
    rw [List.getElem?_map, List.getElem?_set_self hk] at hj
    simp only [Option.map_some, Option.some.injEq] at hj
    rw [← hj]
    simp [hsz]
  · rw [List.getElem?_map, List.getElem?_set_ne hjk] at hj
    rw [Array.getElem?_setIfInBounds_ne hjk, hold j hjl, ← hj]
    simp [hjl]
end Go.Proofs.Ytkefciacdmbidaa
