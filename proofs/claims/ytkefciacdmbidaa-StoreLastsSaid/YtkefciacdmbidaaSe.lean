/- forget: a file's writes are taken out of the row of those that don't last. -/
import Derived.Test.YtkefciacdmbidaaSc
import Derived.LaidEqlPtr
namespace Go.Proofs.Ytkefciacdmbidaa
open Go.RowKit Go.WideMaps Go.Maps

theorem cell_alloc {W : World} {a : Addr} {v : Value} {o : Obj} (h : W.cell? a = some v) : (W.alloc o).cell? a = some v := by
  rw [← h]
  exact World.cell?_of_block (Below.heap_alloc W o _ (World.block_lt_of_cell? W a h))

def IsCells (w : World) (k : Nat) : Prop := ∃ cs t, w.heap[k]? = some (.cells cs t (0, 0))
theorem IsCells.block {w w' : World} {k : Nat} (h : IsCells w k) (hb : w'.heap[k]? = w.heap[k]?) : IsCells w' k := by
  obtain ⟨cs, t, h⟩ := h
  exact ⟨cs, t, hb.trans h⟩
theorem IsCells.lt {w : World} {k : Nat} (h : IsCells w k) : k < w.heap.size := by
  obtain ⟨cs, t, h⟩ := h
  exact (Array.getElem?_eq_some_iff.1 h).1
theorem IsCells.below {w w' : World} {B k : Nat} (h : IsCells w k) (hb : Below B w w') (hk : k < B) : IsCells w' k := h.block (hb.block k hk)
theorem IsCells.alloc {w : World} {k : Nat} (h : IsCells w k) (o : Obj) : IsCells (w.alloc o) k := h.block (Below.heap_alloc w o k h.lt)

theorem info103 : (Try.prog.info? 103).map (fun i => (i.zero, i.size, i.bytes)) = some (some (.agg #[.slice none 0 0, .int .i64 0, .bool false]), 3, 40) := by kernel_rfl

theorem eql_file (w : World) (i j : Nat) (hi : IsCells w i) (hj : IsCells w j) : (binOp .eql 101 (.pointer (some ⟨j, 0, none⟩)) (.pointer (some ⟨i, 0, none⟩))).run Try.prog w = .ok (.bool (j == i)) w := by
  obtain ⟨i0, h1, _, h3, _⟩ := info_parts info103
  by_cases h : j = i
  · subst h
    rw [run_eql_ptr_same w _ Try.underlying101 h1]
    simp
  · obtain ⟨ci, ti, hi⟩ := hi
    obtain ⟨cj, tj, hj⟩ := hj
    rw [run_eql_ptr_other w Try.underlying101 h1 (by rw [h3]; decide) (fun e => h (by cases e; rfl)) hj hi]
    simp [h]

theorem del_any (i j n cb : Nat) (w : World) (hc : w.cell? ⟨cb, 0, none⟩ = some (.pointer (some ⟨i, 0, none⟩))) (hi : IsCells w i) (hj : IsCells w j) :
    Calls Try.prog 91 #[.agg #[.pointer (some ⟨j, 0, none⟩), .int .i64 n], .pointer (some ⟨cb, 0, none⟩)] w fun e w' => e = .returned (.bool (j == i)) ∧ Below w.heap.size w w' := by
  have hca : (w.alloc (.cells #[.pointer (some ⟨j, 0, none⟩), .int .i64 n] 105)).cell? ⟨cb, 0, none⟩ = some (.pointer (some ⟨i, 0, none⟩)) := cell_alloc hc
  have heq := eql_file _ i j (hi.alloc (.cells #[.pointer (some ⟨j, 0, none⟩), .int .i64 n] 105)) (hj.alloc _)
  clear hc hi hj
  go_enter Try.func91, Try.ntmps91
  go_wp2
  go_ret
  exact ⟨rfl, (Below.refl _ _).alloc (Nat.le_refl _) _⟩

def delF (cb : Nat) : Value := .func (.func 91) #[] #[.pointer (some ⟨cb, 0, none⟩)]

/-- the place of the first write to file i; as many as there are: there is none -/
def firstOf (i : Nat) (l : List (Nat × Nat)) : Nat := l.findIdx fun p => p.1 == i

def firstI (i : Nat) (l : List (Nat × Nat)) : Int := if firstOf i l < l.length then (firstOf i l : Int) else -1
theorem firstOf_le (i : Nat) (l : List (Nat × Nat)) : firstOf i l ≤ l.length := List.findIdx_le_length
theorem firstOf_hit {i : Nat} {l : List (Nat × Nat)} {k : Nat} (hk : k < l.length) (hf : k ≤ firstOf i l) (h : l[k].1 = i) : firstOf i l = k := by
  rcases Nat.lt_or_ge k (firstOf i l) with h1 | h1
  · have := List.not_of_lt_findIdx h1
    simp [h] at this
  · omega
theorem firstOf_miss {i : Nat} {l : List (Nat × Nat)} {k : Nat} (hk : k < l.length) (hf : k ≤ firstOf i l) (h : l[k].1 ≠ i) : k + 1 ≤ firstOf i l := by
  rcases Nat.lt_or_ge k (firstOf i l) with h1 | h1
  · omega
  · exfalso
    have e : firstOf i l = k := by omega
    have := List.findIdx_getElem (xs := l) (p := fun p => p.1 == i) (w := by show firstOf i l < _; omega)
    simp only [show List.findIdx (fun p : Nat × Nat => p.1 == i) l = k from e] at this
    exact h (by simpa using this)

theorem index_any (i cb : Nat) (l : List (Nat × Nat)) (v : Value) (w : World) (hcb : w.cell? ⟨cb, 0, none⟩ = some (.pointer (some ⟨i, 0, none⟩))) (hrow : w.ownsRow 0 105 2 v l.length (looseCells l)) (hlen : l.length ≤ 16777216) (hi : IsCells w i) (hin : ∀ p ∈ l, IsCells w p.1) :
    Calls Try.prog 110 #[v, delF cb] w fun e w' => e = .returned (.int .i64 (firstI i l)) ∧ Below w.heap.size w w' := by
  unfold delF
  have hcs := @World.ownsRow.cells _ _ _ _ _ _ _ hrow
  rcases hrow.2 with ⟨rfl, h0⟩ | ⟨g, cap, cur, rfl, _, hg, hc, _⟩
  · have hs : l = [] := by simpa using h0
    subst hs
    clear hcs hrow h0 hlen
    go_enter Try.func110, Try.ntmps110
    go_wp2
    refine wp_loop_rounds 1 ?_
    rw [rounds_succ]
    go_wp2
    go_ret
    exact ⟨ret_int (by simp [firstI, firstOf]), Below.refl _ _⟩
  · have hglt := (Array.getElem?_eq_some_iff.1 hg).1
    have Hcs := Lib.hid (hcs (g := g) rfl)
    have hcl : cb < w.heap.size := World.block_lt_of_cell? w _ hcb
    have Hc := Lib.hid hcb
    have Hi := Lib.hid hi
    have Hin := Lib.hid hin
    clear hcs hrow hg hcb hi hin
    go_enter Try.func110, Try.ntmps110
    go_wp2
    go_loopw [8] (fun x wr => ∃ k : Nat, k ≤ l.length ∧ x = .int .i64 k ∧ k ≤ firstOf i l ∧ Below w.heap.size w wr) (fun x _ => l.length - (intOf x).toNat)
    case atStart => exact ⟨0, Nat.zero_le _, rfl, Nat.zero_le _, Below.refl _ _⟩
    case round =>
      obtain ⟨k, hk, rfl, hkf, hnx⟩ := hrel
      by_cases hlt : k < l.length
      · obtain ⟨g0, g1⟩ := looseCells_get l k hlt
        obtain ⟨j, x, hix⟩ : ∃ i x, l[k] = (i, x) := ⟨_, _, rfl⟩
        rw [hix] at g0 g1
        have d0 : wr.cell? ⟨g, k * 2, none⟩ = some (.pointer (some ⟨j, 0, none⟩)) := by rw [hnx.cell (p := ⟨g, k * 2, none⟩) hglt, ← add0]; exact Hcs.out _ _ g0
        have d1 : wr.cell? ⟨g, k * 2 + 1, none⟩ = some (.int .i64 x) := by rw [hnx.cell (p := ⟨g, k * 2 + 1, none⟩) hglt, ← add0]; exact Hcs.out _ _ g1
        have hmem : (j, x) ∈ l := by rw [← hix]; exact List.getElem_mem hlt
        have Hix := Lib.hid hix
        clear g0 g1 hix
        have hc1 : wr.cell? ⟨cb, 0, none⟩ = some (.pointer (some ⟨i, 0, none⟩)) := by rw [hnx.cell (p := ⟨cb, 0, none⟩) hcl]; exact Hc.out
        have hi1 := Hi.out.below hnx Hi.out.lt
        have hj1 := (Hin.out _ hmem).below hnx (Hin.out _ hmem).lt
        have Hcall := Lib.hid (del_any i j x cb wr hc1 hi1 hj1)
        clear hc1 hi1 hj1
        go_wp2_with fail
        refine Hcall.out.mono ?_
        rintro e w' ⟨rfl, hb⟩
        by_cases hji : j = i
        · have ht : (j == i) = true := by simpa using hji
          rw [ht]
          go_wp2
          go_ret
          have hf := firstOf_hit hlt hkf (by rw [Hix.out]; exact hji)
          exact ⟨ret_int (by unfold firstI; rw [hf, if_pos hlt]), hnx.trans (hb.mono hnx.size)⟩
        · have ht : (j == i) = false := by simpa using hji
          rw [ht]
          have hf := firstOf_miss hlt hkf (by rw [Hix.out]; exact hji)
          clear hji ht
          go_wp2
          go_roundw
          case rel => exact ⟨k + 1, by omega, by go_num, hf, hnx.trans (hb.mono hnx.size)⟩
          case measure => simp [intOf]; omega
      · go_wp2
        go_ret
        have := firstOf_le i l
        exact ⟨ret_int (by unfold firstI; rw [if_neg (by omega)]), hnx⟩
end Go.Proofs.Ytkefciacdmbidaa
