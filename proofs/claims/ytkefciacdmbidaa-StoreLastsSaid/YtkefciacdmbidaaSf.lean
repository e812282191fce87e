/- slices.DeleteFunc over the writes of a disk. -/
import Derived.Test.YtkefciacdmbidaaSe
namespace Go.Proofs.Ytkefciacdmbidaa
open Go.RowKit Go.WideMaps Go.Maps

def keepL (i : Nat) (l : List (Nat × Nat)) : List (Nat × Nat) := l.filter fun p => p.1 != i

theorem setCell_same {w : World} {g o : Nat} {cur : Array Value} {e : TypeId} {z : Nat × Nat} {v : Value} (h : w.heap[g]? = some (.cells cur e z)) : (w.setCell ⟨g, o, none⟩ v).heap[g]? = some (.cells (cur.setIfInBounds o v) e z) := by
  simp only [World.setCell, Array.getElem?_modify, if_true, h, Option.map_some]
  rfl
theorem setRow_same {w : World} {g : Nat} {cur cs : Array Value} {e : TypeId} {z : Nat × Nat} (h : w.heap[g]? = some (.cells cur e z)) : (w.setRow g cs).heap[g]? = some (.cells cs e z) := by
  simp only [World.setRow, Array.getElem?_modify, if_true, h, Option.map_some]
theorem setRow_grown (w : World) (g : Nat) (cs : Array Value) : w.grownBy (w.setRow g cs) (some g) :=
  ⟨rfl, rfl, rfl, by simp [World.setRow], fun k _ hne => by
    simp only [World.setRow, Array.getElem?_modify]
    rw [if_neg (by intro e; exact hne (by rw [e]))]⟩
theorem setCell_grown (w : World) (g o : Nat) (v : Value) : w.grownBy (w.setCell ⟨g, o, none⟩ v) (some g) :=
  ⟨rfl, rfl, rfl, by simp [World.setCell], fun k _ hne => Below.heap_setCell _ _ _ _ (by intro e; exact hne (by rw [e]))⟩
theorem grown_of_below {w w' : World} (h : Below w.heap.size w w') (row : Option Nat) : w.grownBy w' row := ⟨h.os, h.tape, h.output, h.size, fun k hk _ => h.block k hk⟩

theorem run_clear_row (w : World) (ty : TypeId) (g q n c : Nat) (cur : Array Value) (hg : w.heap[g]? = some (.cells cur 105 (0, 0))) (hn : 0 < n) (hfit : q * 2 + n * 2 ≤ cur.size) :
    ∃ cs : Array Value, (Builtin.clear_ #[86] ty #[.slice (some ⟨g, q * 2, none⟩) n c]).run Try.prog w = .ok (.tuple #[]) (w.setRow g cs) ∧ cs.size = cur.size ∧ ∀ p, p < q * 2 → cs[p]? = cur[p]? := by
  have hz : ∀ w : World, (zeroValue 105).run Try.prog w = .ok (.agg #[.pointer none, .int .i64 0]) w := fun w => by kernel_rfl
  obtain ⟨zs, hzs⟩ : ∃ zs, Builtin.zeroCells #[.pointer none, .int .i64 0] n = zs := ⟨_, rfl⟩
  have hzl : zs.size = n * 2 := by rw [← hzs, size_zeroCells]; rfl
  have hz1 : ∀ v ∈ zs.toList, v.oneCell' = true := by
    intro v hv
    rw [← hzs] at hv
    simp only [Builtin.zeroCells, Array.toList_map, Array.toList_range, List.mem_map, List.mem_range] at hv
    obtain ⟨k, _, rfl⟩ := hv
    have : k % 2 = 0 ∨ k % 2 = 1 := by omega
    rcases this with h | h
    · show ((#[Value.pointer none, Value.int .i64 0] : Array Value)[k % 2]!).oneCell' = true
      rw [h]; rfl
    · show ((#[Value.pointer none, Value.int .i64 0] : Array Value)[k % 2]!).oneCell' = true
      rw [h]; rfl
  have hst := run_storeCells_at Try.prog g (q * 2) 105 zs.toList 0 cur w hg (by simp [hzl]; omega) hz1
  simp only [Nat.add_zero] at hst
  obtain ⟨m, rfl⟩ : ∃ m, n = m + 1 := ⟨n - 1, by omega⟩
  refine ⟨(cur.toList.take (q * 2) ++ zs.toList ++ cur.toList.drop (q * 2 + zs.toList.length)).toArray, ?_, ?_, ?_⟩
  · simp only [Builtin.clear_]
    simp [run_underlying Try.underlying86, hz, Value.cells, hzs, hst, Result.andThen]
  · simp [hzl]
    omega
  · intro p hp
    have h1 : p < (cur.toList.take (q * 2)).length := by simp; omega
    rw [List.getElem?_toArray, List.append_assoc, List.getElem?_append_left h1, List.getElem?_take_of_lt hp, Array.getElem?_toList]

theorem keepL_take (i : Nat) (l : List (Nat × Nat)) (k : Nat) (h : k < l.length) : keepL i (l.take (k + 1)) = keepL i (l.take k) ++ (if l[k].1 = i then [] else [l[k]]) := by
  unfold keepL
  rw [List.take_succ_eq_append_getElem h, List.filter_append]
  congr 1
  by_cases e : l[k].1 = i <;> simp [e]
theorem keepL_len (i : Nat) (l : List (Nat × Nat)) (k : Nat) : (keepL i (l.take k)).length ≤ k := Nat.le_trans (List.length_filter_le _ _) (by simp; omega)
theorem keepL_first (i : Nat) (l : List (Nat × Nat)) : keepL i (l.take (firstOf i l)) = l.take (firstOf i l) := by
  unfold keepL
  rw [List.filter_eq_self]
  intro p hp
  obtain ⟨k, hk, rfl⟩ := List.getElem_of_mem hp
  rw [List.length_take] at hk
  rw [List.getElem_take]
  have := List.not_of_lt_findIdx (xs := l) (p := fun p => p.1 == i) (i := k) (by have : firstOf i l = List.findIdx (fun p => p.1 == i) l := rfl; omega)
  simpa using this
theorem keepL_none (i : Nat) (l : List (Nat × Nat)) (h : ¬ firstOf i l < l.length) : keepL i l = l := by
  have := firstOf_le i l
  have e : firstOf i l = l.length := by omega
  have h2 := keepL_first i l
  rw [e, List.take_length] at h2
  exact h2
theorem looseCells_append (a b : List (Nat × Nat)) : looseCells (a ++ b) = looseCells a ++ looseCells b := by simp [looseCells]
theorem looseCells_take (l : List (Nat × Nat)) (n p : Nat) (h : p < n * 2) : (looseCells (l.take n))[p]? = (looseCells l)[p]? := by
  by_cases hn : n ≤ l.length
  · have e : looseCells l = looseCells (l.take n) ++ looseCells (l.drop n) := by rw [← looseCells_append, List.take_append_drop]
    rw [e, List.getElem?_append_left]
    rw [looseCells_length, List.length_take]
    omega
  · rw [List.take_of_length_le (by omega)]

/-- the row of writes while DeleteFunc goes through it: k are looked at -/
structure DelAt (wr w : World) (g cap : Nat) (i : Nat) (l : List (Nat × Nat)) (k : Nat) (cur : Array Value) : Prop where
  heap : wr.heap[g]? = some (.cells cur 105 (0, 0))
  size : cur.size = cap * 2
  kept : ∀ p, p < (keepL i (l.take k)).length * 2 → cur[p]? = (looseCells (keepL i (l.take k)))[p]?
  rest : ∀ p, k * 2 ≤ p → p < l.length * 2 → cur[p]? = (looseCells l)[p]?
  grown : w.grownBy wr (some g)

theorem DelAt.step {wr w w' : World} {g cap i : Nat} {l : List (Nat × Nat)} {k : Nat} {cur : Array Value} (h : DelAt wr w g cap i l k cur) (hb : Below wr.heap.size wr w') : DelAt w' w g cap i l k cur :=
  ⟨(hb.block g (Array.getElem?_eq_some_iff.1 h.heap).1).trans h.heap, h.size, h.kept, h.rest, h.grown.trans ⟨hb.os, hb.tape, hb.output, hb.size, fun k hk _ => hb.block k hk⟩⟩

theorem DelAt.drop {wr w : World} {g cap i : Nat} {l : List (Nat × Nat)} {k : Nat} {cur : Array Value} (h : DelAt wr w g cap i l k cur) (hk : keepL i (l.take (k + 1)) = keepL i (l.take k)) : DelAt wr w g cap i l (k + 1) cur :=
  ⟨h.heap, h.size, by rw [hk]; exact h.kept, fun p hp => h.rest p (by omega), h.grown⟩

theorem DelAt.put {wr w : World} {g cap i : Nat} {l : List (Nat × Nat)} {k : Nat} {cur : Array Value} {j x q : Nat} (h : DelAt wr w g cap i l k cur) (hq : q + 1 ≤ k) (hlt : k < l.length) (hqq : (keepL i (l.take k)).length = q) (hk : keepL i (l.take (k + 1)) = keepL i (l.take k) ++ [(j, x)]) (hc : l.length ≤ cap) :
    DelAt ((wr.setCell ⟨g, q * 2, none⟩ (.pointer (some ⟨j, 0, none⟩))).setCell ⟨g, q * 2 + 1, none⟩ (.int .i64 x)) w g cap i l (k + 1) ((cur.setIfInBounds (q * 2) (.pointer (some ⟨j, 0, none⟩))).setIfInBounds (q * 2 + 1) (.int .i64 x)) := by
  refine ⟨setCell_same (setCell_same h.heap), by simp [h.size], fun p hp => ?_, fun p hp hp2 => ?_, (h.grown.trans (setCell_grown _ _ _ _)).trans (setCell_grown _ _ _ _)⟩
  · rw [hk] at hp ⊢
    rw [List.length_append, hqq] at hp
    have hs := h.size
    have hl := looseCells_length (keepL i (l.take k))
    rw [hqq] at hl
    rw [looseCells_append]
    simp only [Array.getElem?_setIfInBounds, Array.size_setIfInBounds]
    by_cases h1 : p = q * 2 + 1
    · subst h1
      rw [if_pos rfl, if_pos (by omega), List.getElem?_append_right (by omega), hl]
      simp [looseCells]
    · rw [if_neg (by omega)]
      by_cases h2 : p = q * 2
      · subst h2
        rw [if_pos rfl, if_pos (by omega), List.getElem?_append_right (by omega), hl]
        simp [looseCells]
      · rw [if_neg (by omega), List.getElem?_append_left (by simp at hp; omega)]
        exact h.kept p (by rw [hqq]; simp at hp; omega)
  · simp only [Array.getElem?_setIfInBounds]
    rw [if_neg (by omega), if_neg (by omega)]
    exact h.rest p (by omega) hp2

def DelPost (w : World) (v : Value) (i : Nat) (l : List (Nat × Nat)) (e : Ending) (w' : World) : Prop :=
  ∃ v', e = .returned v' ∧ v'.ownBlock = v.ownBlock ∧ w'.ownsRow 0 105 2 v' (keepL i l).length (looseCells (keepL i l)) ∧ w.grownBy w' v.ownBlock

set_option maxHeartbeats 1000000 in
theorem delete_any (i cb : Nat) (l : List (Nat × Nat)) (v : Value) (w : World) (hcb : w.cell? ⟨cb, 0, none⟩ = some (.pointer (some ⟨i, 0, none⟩))) (hrow : w.ownsRow 0 105 2 v l.length (looseCells l)) (hlen : l.length ≤ 16777216)
    (hi : IsCells w i) (hin : ∀ p ∈ l, IsCells w p.1) (hne : ∀ g, v.ownBlock = some g → g ≠ cb ∧ g ≠ i ∧ ∀ p ∈ l, p.1 ≠ g) : Calls Try.prog 90 #[v, delF cb] w (DelPost w v i l) := by
  have hidx := index_any i cb l v w hcb hrow hlen hi hin
  have Hidx := Lib.hid hidx
  by_cases hf : firstOf i l < l.length
  · have hfi : firstI i l = (firstOf i l : Int) := by unfold firstI; rw [if_pos hf]
    rcases hrow.2 with ⟨rfl, h0⟩ | ⟨g, cap, cur, rfl, _, hg, hc, hcm, hcs, htk⟩
    · omega
    · obtain ⟨hn1, hn2, hn3⟩ := hne g rfl
      have hglt := (Array.getElem?_eq_some_iff.1 hg).1
      have hcl : cb < w.heap.size := World.block_lt_of_cell? w _ hcb
      have Hc := Lib.hid hcb
      have Hi := Lib.hid hi
      have Hin := Lib.hid hin
      have Hfi := Lib.hid hfi
      have Hn3 := Lib.hid hn3
      have hfirst : l[firstOf i l].1 = i := by
        have h := List.findIdx_getElem (xs := l) (p := fun p : Nat × Nat => p.1 == i) (w := hf)
        exact of_decide_eq_true h
      have hk0 : keepL i (l.take (firstOf i l + 1)) = l.take (firstOf i l) := by rw [keepL_take i l _ hf, if_pos hfirst, List.append_nil, keepL_first]
      have hd0 : DelAt w w g cap i l (firstOf i l + 1) cur := ⟨hg, hcs, fun p hp => by
          rw [hk0] at hp ⊢
          rw [List.length_take] at hp
          rw [looseCells_take _ _ _ (by omega), ← htk, List.getElem?_take_of_lt (by omega), Array.getElem?_toList], fun p _ hp => by rw [← htk, List.getElem?_take_of_lt hp, Array.getElem?_toList], ⟨rfl, rfl, rfl, Nat.le_refl _, fun _ _ _ => rfl⟩⟩
      have hq0 : (keepL i (l.take (firstOf i l + 1))).length = firstOf i l := by rw [hk0, List.length_take]; omega
      have Hd0 := Lib.hid hd0
      have Hq0 := Lib.hid hq0
      generalize hn0 : firstOf i l = n0 at *
      have Hn0 := Lib.hid hn0
      clear hidx hrow hcb hi hin hne hfi hn0 hfirst hk0 hd0 hq0 hg hcs htk hn3
      have hn1' : ((n0 : Int) == -1) = false := by
        rw [beq_eq_false_iff_ne]
        omega
      unfold delF
      go_enter Try.func90, Try.ntmps90
      go_wp2_with fail
      refine Hidx.out.mono ?_
      rintro e w0 ⟨rfl, hb0⟩
      rw [Hfi.out]
      go_wp2_with fail
      go_loopw [5, 6] (fun x y wr => ∃ (k : Nat) (cur' : Array Value), k ≤ l.length ∧ (keepL i (l.take k)).length + 1 ≤ k ∧ y = .int .i64 k ∧ x = .int .i64 ((keepL i (l.take k)).length : Nat) ∧ DelAt wr w g cap i l k cur') (fun _ y _ => l.length - (intOf y).toNat)
      case atStart => exact ⟨n0 + 1, cur, by omega, by rw [Hq0.out]; exact Nat.le_refl _, by go_num, by rw [Hq0.out], Hd0.out.step hb0⟩
      case round =>
        obtain ⟨k, cur', hk, hq, rfl, rfl, hdel⟩ := hrel
        by_cases hlt : k < l.length
        · obtain ⟨g0, g1⟩ := looseCells_get l k hlt
          obtain ⟨j, x, hix⟩ : ∃ i x, l[k] = (i, x) := ⟨_, _, rfl⟩
          rw [hix] at g0 g1
          have hkt := keepL_take i l k hlt
          rw [hix] at hkt
          have d0 : wr.cell? ⟨g, k * 2, none⟩ = some (.pointer (some ⟨j, 0, none⟩)) := by rw [cell_of hdel.heap, hdel.rest _ (by omega) (by omega), g0]
          have d1 : wr.cell? ⟨g, k * 2 + 1, none⟩ = some (.int .i64 x) := by rw [cell_of hdel.heap, hdel.rest _ (by omega) (by omega), g1]
          have hmem : (j, x) ∈ l := by rw [← hix]; exact List.getElem_mem hlt
          have Hix := Lib.hid hix
          have Hkt := Lib.hid hkt
          have Hdel := Lib.hid hdel
          clear g0 g1 hix hkt hdel
          generalize hqq : (keepL i (l.take k)).length = q at *
          have Hqq := Lib.hid hqq
          clear hqq
          have hcb1 : wr.cell? ⟨cb, 0, none⟩ = some (.pointer (some ⟨i, 0, none⟩)) := Hdel.out.grown.cell Hc.out (by simp; omega)
          have hi1 : IsCells wr i := Hi.out.block (Hdel.out.grown.block i Hi.out.lt (by simp; omega))
          have hj1 : IsCells wr j := (Hin.out _ hmem).block (Hdel.out.grown.block j (Hin.out _ hmem).lt (by have := Hn3.out _ hmem; simp; omega))
          have Hcall := Lib.hid (del_any i j x cb (wr.alloc (.cells #[.pointer (some ⟨j, 0, none⟩), .int .i64 x] 105)) (cell_alloc hcb1) (hi1.alloc _) (hj1.alloc _))
          clear hcb1 hi1 hj1
          have hgl : g < wr.heap.size := (Array.getElem?_eq_some_iff.1 Hdel.out.heap).1
          go_wp2_with fail
          refine Hcall.out.mono ?_
          rintro e w2 ⟨rfl, hb⟩
          have hb2 : Below wr.heap.size wr w2 := ((Below.refl _ wr).alloc (Nat.le_refl _) _).trans (hb.mono (by simp))
          have Hdel2 := Lib.hid (Hdel.out.step hb2)
          have hv := (hb.block wr.heap.size (by simp)).trans (heap_alloc_new wr _)
          have e0 : w2.cell? ⟨wr.heap.size, 0, none⟩ = some (.pointer (some ⟨j, 0, none⟩)) := by rw [cell_of hv]; rfl
          have e1 : w2.cell? ⟨wr.heap.size, 1, none⟩ = some (.int .i64 x) := by rw [cell_of hv]; rfl
          clear hv d0 d1
          by_cases hji : j = i
          · have ht : (j == i) = true := by simpa using hji
            rw [ht]
            have hkt : keepL i (l.take (k + 1)) = keepL i (l.take k) := by rw [Hkt.out, if_pos hji, List.append_nil]
            have Hk1 := Lib.hid hkt
            clear hkt hji ht
            go_wp2
            go_roundw
            case rel => exact ⟨k + 1, cur', by omega, by rw [Hk1.out, Hqq.out]; omega, by go_num, by rw [Hk1.out, Hqq.out], Hdel2.out.drop Hk1.out⟩
            case measure => simp [intOf]; omega
          · have ht : (j == i) = false := by simpa using hji
            rw [ht]
            have hkt : keepL i (l.take (k + 1)) = keepL i (l.take k) ++ [(j, x)] := by rw [Hkt.out, if_neg hji]
            have Hk1 := Lib.hid hkt
            obtain ⟨o0, f0⟩ : ∃ u, w2.cell? ⟨g, q * 2, none⟩ = some u := ⟨_, by rw [cell_of Hdel2.out.heap]; exact Array.getElem?_eq_getElem (by rw [Hdel2.out.size]; omega)⟩
            obtain ⟨o1, f1⟩ : ∃ u, w2.cell? ⟨g, q * 2 + 1, none⟩ = some u := ⟨_, by rw [cell_of Hdel2.out.heap]; exact Array.getElem?_eq_getElem (by rw [Hdel2.out.size]; omega)⟩
            have z0 : w2.frozen? ⟨g, q * 2, none⟩ = false := free_of Hdel2.out.heap _
            have z1 : w2.frozen? ⟨g, q * 2 + 1, none⟩ = false := free_of Hdel2.out.heap _
            clear hkt hji ht
            go_wp2
            go_roundw
            case rel => exact ⟨k + 1, _, by omega, by rw [Hk1.out, List.length_append, Hqq.out]; simp; omega, by go_num, by rw [Hk1.out, List.length_append, Hqq.out]; go_num, Hdel2.out.put hq hlt Hqq.out Hk1.out hc⟩
            case measure => simp [intOf]; omega
        · have hkl : k = l.length := by omega
          subst hkl
          rw [List.take_length] at hq ⊢
          obtain ⟨cs, hclr, hcsz, hcs⟩ := run_clear_row wr 0 g (keepL i l).length (l.length - (keepL i l).length) (cap - (keepL i l).length) cur' hdel.heap (by omega) (by rw [hdel.size]; omega)
          have Hdel := Lib.hid hdel
          have Hcs := Lib.hid hcs
          have Hcsz := Lib.hid hcsz
          clear hdel hcs hcsz
          generalize hqq : (keepL i l).length = q at *
          have Hqq := Lib.hid hqq
          clear hqq
          go_wp2
          go_ret
          refine ⟨_, rfl, rfl, ?_, Hdel.out.grown.trans (setRow_grown _ _ _)⟩
          rw [Hqq.out]
          refine ⟨by rw [looseCells_length, Hqq.out], Or.inr ⟨g, cap, cs, rfl, Nat.zero_le _, setRow_same Hdel.out.heap, by omega, hcm, by rw [Hcsz.out, Hdel.out.size], ?_⟩⟩
          apply List.ext_getElem?
          intro p
          by_cases hp : p < q * 2
          · rw [List.getElem?_take_of_lt hp, Array.getElem?_toList, Hcs.out p hp]
            have := Hdel.out.kept p (by rw [List.take_length, Hqq.out]; exact hp)
            rw [List.take_length] at this
            exact this
          · rw [List.getElem?_eq_none (by simp; omega), List.getElem?_eq_none (by rw [looseCells_length, Hqq.out]; omega)]
  · have hfi : firstI i l = -1 := by unfold firstI; rw [if_neg hf]
    obtain ⟨A, c, rfl, hc⟩ := ownsRow_slice hrow
    have hkeep := keepL_none i l hf
    have Hkeep := Lib.hid hkeep
    have Hrow := Lib.hid hrow
    have Hfi := Lib.hid hfi
    clear hidx hrow hcb hi hin hne hfi hkeep
    unfold delF
    go_enter Try.func90, Try.ntmps90
    go_wp2_with fail
    refine Hidx.out.mono ?_
    rintro e w0 ⟨rfl, hb0⟩
    rw [Hfi.out]
    go_wp2
    go_ret
    refine ⟨_, rfl, rfl, ?_, grown_of_below hb0 _⟩
    rw [Hkeep.out]
    exact ownsRow_block Hrow.out fun g hg => hb0.block g (Hrow.out.lt g hg).2
end Go.Proofs.Ytkefciacdmbidaa
