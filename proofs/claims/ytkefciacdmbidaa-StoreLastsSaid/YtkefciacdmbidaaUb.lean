/- SameTexts. -/
import Derived.Test.YtkefciacdmbidaaUa
namespace Go.Proofs.Ytkefciacdmbidaa
open Go.RowKit Go.WideMaps Go.Maps

def TextsAt (w : World) (v : Value) (xs : List ByteArray) : Prop := Srcs w v 1 xs.length (xs.map Value.string)
theorem toList_inj {x y : ByteArray} (h : x.toList = y.toList) : x = y := by
  rw [Lib.toList_data, Lib.toList_data] at h
  cases x
  cases y
  congr 1
  exact Array.toList_inj.1 h

theorem sameTexts_any (w : World) (va vb : Value) (xs ys : List ByteArray) (ha : TextsAt w va xs) (hb : TextsAt w vb ys) (hx : xs.length ≤ 140737488355328) (hy : ys.length ≤ 140737488355328) :
    Calls Try.prog 24 #[va, vb] w (IsB w (decide (xs = ys))) := by
  obtain ⟨A, ca, rfl, hca, hA⟩ := srcs_at ha
  obtain ⟨B, cb, rfl, hcb, hB⟩ := srcs_at hb
  have HA := Lib.hid hA
  have HB := Lib.hid hB
  clear ha hb hA hB
  by_cases hl : xs.length = ys.length
  · have hne : (((xs.length : Nat) : Int) != ((ys.length : Nat) : Int)) = false := by simp [hl]
    have Hl := Lib.hid hl
    clear hl
    go_enter Try.func24, Try.ntmps24
    go_wp2_with fail
    go_loopw [5] (fun i wr => ∃ k : Nat, k ≤ xs.length ∧ i = .int .i64 k ∧ xs.take k = ys.take k ∧ Below w.heap.size w wr) (fun i _ => xs.length - (intOf i).toNat)
    case atStart => exact ⟨0, Nat.zero_le _, rfl, rfl, Below.refl _ _⟩
    case round =>
      obtain ⟨k, hk, rfl, heq, hnx⟩ := hrel
      by_cases hlt : k < xs.length
      · have hlt2 : k < ys.length := by have := Hl.out; omega
        obtain ⟨b1, o1, rfl, hb1, hc1⟩ := HA.out (by omega)
        obtain ⟨b2, o2, rfl, hb2, hc2⟩ := HB.out (by omega)
        have d1 : wr.cell? ⟨b1, o1 + k, none⟩ = some (.string xs[k]) := by
          rw [hnx.cell (p := ⟨b1, o1 + k, none⟩) hb1]
          exact hc1 k _ (by simp [hlt])
        have d2 : wr.cell? ⟨b2, o2 + k, none⟩ = some (.string ys[k]) := by
          rw [hnx.cell (p := ⟨b2, o2 + k, none⟩) hb2]
          exact hc2 k _ (by simp [hlt2])
        have hst := take_eq_step hlt hlt2 heq
        obtain ⟨x, hx⟩ : ∃ x, xs[k] = x := ⟨_, rfl⟩
        obtain ⟨y, hy⟩ : ∃ y, ys[k] = y := ⟨_, rfl⟩
        rw [hx] at d1 hst
        rw [hy] at d2 hst
        have Hst := Lib.hid hst
        have Hnx := Lib.hid hnx
        clear hst hx hy hc1 hc2 heq hnx
        by_cases hxy : x = y
        · have ht : (x.toList == y.toList) = true := by simp [hxy]
          have Hxy := Lib.hid hxy
          clear hxy
          go_wp2
          go_region
          go_wp2
          exact ⟨⟨k + 1, by omega, by go_num, Hst.out.2 Hxy.out, Hnx.out.drew⟩, by simp [intOf]; omega⟩
        · have ht : (x.toList == y.toList) = false := by
            rw [beq_eq_false_iff_ne]
            exact fun e => hxy (toList_inj e)
          have Hxy := Lib.hid hxy
          clear hxy
          go_wp2
          go_region
          go_wp2
          go_ret
          exact ⟨ret_bool (by
            have : xs ≠ ys := fun e => Hxy.out (Hst.out.1 (by rw [e]))
            simp [this]), Hnx.out.drew⟩
      · go_wp2
        go_ret
        have hk1 : k = xs.length := by omega
        refine ⟨ret_bool ?_, hnx⟩
        rw [hk1, List.take_length, Hl.out, List.take_length] at heq
        simp [heq]
  · have hne : (((xs.length : Nat) : Int) != ((ys.length : Nat) : Int)) = true := by simp; omega
    have Hl := Lib.hid hl
    clear hl
    go_enter Try.func24, Try.ntmps24
    go_wp2
    go_ret
    exact ⟨ret_bool (by
      have : xs ≠ ys := fun e => Hl.out (by rw [e])
      simp [this]), Below.refl _ _⟩
end Go.Proofs.Ytkefciacdmbidaa
