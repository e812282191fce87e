/- The arguments of a law of manifest, opened: a state. -/
import Derived.Test.YtkefciacdmbidaaGk
import Derived.Test.YtkefciacdmbidaaHe
namespace Go.Proofs.Ytkefciacdmbidaa
open Go.ChangeShapes Go.WideShapes Go.ChangeAt Go.RowKit Go.Deep

theorem cells59 : Try.prog.cellsOf 59 = 4 := by kernel_rfl
theorem cells57 : Try.prog.cellsOf 57 = 1 := by kernel_rfl
theorem list4 {α : Type} {l : List α} (h : l.length = 4) : ∃ a b c d, l = [a, b, c, d] := by
  match l, h with
  | [a, b, c, d], _ => exact ⟨a, b, c, d, rfl⟩
section
variable {H : Type} {enc : TypeId × Value → H} {w : World}
/-- numbers that a reading has reached -/
theorem open_nums {fuel : Nat} {v : Value} {x : DataW H × List MemPlace} (h : DataW.trod enc Try.prog w 0 (fun _ => true) true fuel 57 [v] = some x) :
    ∃ xs : List Int, IntsAt w v xs ∧ (∀ ad n k, v = .slice (some ad) n k → 0 < n → ad.block < w.heap.size) ∧ ∀ n ∈ xs, -9223372036854775808 ≤ n ∧ n ≤ 9223372036854775807 := by
  rcases open_ints Try.underlying57 Try.underlying3 cells3 h with ⟨hcs, _⟩ | ⟨a, len, cap, zs, hcs, -, hl, hm, hzs, hx, hcell, hwf⟩
  · cases hcs
    exact ⟨[], Or.inl ⟨rfl, rfl, rfl⟩, ⟨fun ad n k e => by simp at e, fun n hn => absurd hn List.not_mem_nil⟩⟩
  · cases hcs
    have hzl : zs.length = cap := by simpa using hzs
    have htl : (zs.take len).length = len := by simp; omega
    have hcl : ∀ j, j < len → w.cell? (a.add j) = some (.int .i64 (zs.getD j 0)) := fun j hj => hcell j (by omega)
    refine ⟨zs.take len, ?_, fun ad n k e h0 => ?_, fun n hn => ?_⟩
    · refine Or.inr ⟨a, cap, by rw [htl], by rw [htl]; exact hl, by simp, fun j u hj => ?_, one_i64 _⟩
      have hjl : j < len := by
        have := (List.getElem?_eq_some_iff.1 hj).1
        simp at this
        omega
      rw [hcl j hjl, ← hj]
      simp [hjl, show j < zs.length by omega]
    · cases e
      have := World.block_lt_of_cell? w _ (hcl 0 h0)
      exact this
    · exact i64_range (hwf n (List.mem_of_mem_take hn))
/-- a state that a reading has reached -/
theorem open_state {fuel : Nat} {cs : List Value} {x : DataW H × List MemPlace} (h : DataW.trod enc Try.prog w 0 (fun _ => true) true fuel 59 cs = some x) :
    ∃ (s : MS) (tv : Value), cs = [.int .i64 s.gen, .int .i64 s.applied, .int .i64 s.next, tv] ∧ IntsAt w tv s.tables ∧ (∀ ad n k, tv = .slice (some ad) n k → 0 < n → ad.block < w.heap.size) ∧
      (-9223372036854775808 ≤ s.gen ∧ s.gen ≤ 9223372036854775807) ∧ (-9223372036854775808 ≤ s.applied ∧ s.applied ≤ 9223372036854775807) ∧ (-9223372036854775808 ≤ s.next ∧ s.next ≤ 9223372036854775807) ∧ ∀ n ∈ s.tables, -9223372036854775808 ≤ n ∧ n ≤ 9223372036854775807 := by
  obtain ⟨xs, n, -, rfl, hl, hxl, hf⟩ := DataW.trod_struct Try.underlying59 h
  rw [cells59] at hl
  obtain ⟨c0, c1, c2, c3, rfl⟩ := list4 hl
  obtain ⟨y0, y1, y2, y3, rfl⟩ := list4 hxl
  have t0 : DataW.trod enc Try.prog w 0 (fun _ => true) true n 3 [c0] = some y0 := by simpa [cells3] using hf 0 _ rfl
  have t1 : DataW.trod enc Try.prog w 0 (fun _ => true) true n 3 [c1] = some y1 := by simpa [cells3] using hf 1 _ rfl
  have t2 : DataW.trod enc Try.prog w 0 (fun _ => true) true n 3 [c2] = some y2 := by simpa [cells3] using hf 2 _ rfl
  have t3 : DataW.trod enc Try.prog w 0 (fun _ => true) true n 57 [c3] = some y3 := by simpa [cells57] using hf 3 _ rfl
  obtain ⟨n0, e0, -, w0⟩ := DataW.trod_int Try.underlying3 t0
  obtain ⟨n1, e1, -, w1⟩ := DataW.trod_int Try.underlying3 t1
  obtain ⟨n2, e2, -, w2⟩ := DataW.trod_int Try.underlying3 t2
  cases e0
  cases e1
  cases e2
  obtain ⟨xs, hb, hlow, hr⟩ := open_nums t3
  exact ⟨⟨n0, n1, n2, xs⟩, c3, rfl, hb, hlow, i64_range w0, i64_range w1, i64_range w2, hr⟩
end
end Go.Proofs.Ytkefciacdmbidaa
