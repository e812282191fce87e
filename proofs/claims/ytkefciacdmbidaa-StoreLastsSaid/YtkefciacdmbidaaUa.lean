/- SameBytes, CopyBytes: helpers of the references. -/
import Derived.Test.YtkefciacdmbidaaSb
namespace Go.Proofs.Ytkefciacdmbidaa
open Go.RowKit Go.WideMaps Go.Maps

theorem srcs_at {w : World} {v : Value} {m : Nat} {news : List Value} (h : Srcs w v 1 m news) : ∃ A c, v = .slice A m c ∧ m ≤ c ∧ (0 < m → ∃ b off, A = some ⟨b, off, none⟩ ∧ b < w.heap.size ∧ ∀ j u, news[j]? = some u → w.cell? ⟨b, off + j, none⟩ = some u) := by
  rcases h with ⟨rfl, rfl, rfl⟩ | ⟨ad, c, rfl, hc, hl, hcell, _⟩
  · exact ⟨none, 0, rfl, Nat.le_refl _, fun h => absurd h (Nat.lt_irrefl _)⟩
  · refine ⟨some ad, c, rfl, hc, fun hm => ?_⟩
    have h0 := hcell 0 _ (List.getElem?_eq_getElem (show 0 < news.length by omega))
    have hlt := World.block_lt_of_cell? w _ h0
    obtain ⟨b, off, sp⟩ := ad
    have hsp : sp = none := by
      cases sp with
      | none => rfl
      | some x =>
        exfalso
        simp only [Addr.add, if_true] at h0
        simp only [World.cell?] at h0
        split at h0
        · simp at h0
        · cases h0
    subst hsp
    refine ⟨b, off, rfl, by simpa [Addr.add] using hlt, fun j u hj => ?_⟩
    have := hcell j u hj
    have e : (⟨b, off, none⟩ : Addr).add j = ⟨b, off + j, none⟩ := by unfold Addr.add; split <;> simp_all
    rw [e] at this
    exact this

theorem take_eq_step {α : Type} [DecidableEq α] {xs ys : List α} {k : Nat} (h1 : k < xs.length) (h2 : k < ys.length) (h : xs.take k = ys.take k) : xs.take (k + 1) = ys.take (k + 1) ↔ xs[k] = ys[k] := by
  have e1 := List.take_succ_eq_append_getElem h1
  have e2 := List.take_succ_eq_append_getElem h2
  rw [e1, e2, h]
  constructor
  · intro e
    have := List.append_cancel_left e
    simpa using this
  · intro e
    rw [e]

def IsB (w : World) (b : Bool) (e : Ending) (w' : World) : Prop := e = .returned (.bool b) ∧ Below w.heap.size w w'

theorem sameBytes_any (w : World) (va vb : Value) (xs ys : List Int) (ha : BytesAt w va xs) (hb : BytesAt w vb ys) (hx : xs.length ≤ 140737488355328) (hy : ys.length ≤ 140737488355328) :
    Calls Try.prog 22 #[va, vb] w (IsB w (decide (xs = ys))) := by
  obtain ⟨A, ca, rfl, hca, hA⟩ := srcs_at ha
  obtain ⟨B, cb, rfl, hcb, hB⟩ := srcs_at hb
  have HA := Lib.hid hA
  have HB := Lib.hid hB
  clear ha hb hA hB
  by_cases hl : xs.length = ys.length
  · have hne : (((xs.length : Nat) : Int) != ((ys.length : Nat) : Int)) = false := by simp [hl]
    have Hl := Lib.hid hl
    clear hl
    go_enter Try.func22, Try.ntmps22
    go_wp2_with fail
    go_loopw [5] (fun i wr => ∃ k : Nat, k ≤ xs.length ∧ i = .int .i64 k ∧ xs.take k = ys.take k ∧ Below w.heap.size w wr) (fun i _ => xs.length - (intOf i).toNat)
    case atStart => exact ⟨0, Nat.zero_le _, rfl, rfl, Below.refl _ _⟩
    case round =>
      obtain ⟨k, hk, rfl, heq, hnx⟩ := hrel
      by_cases hlt : k < xs.length
      · have hlt2 : k < ys.length := by have := Hl.out; omega
        obtain ⟨b1, o1, rfl, hb1, hc1⟩ := HA.out (by omega)
        obtain ⟨b2, o2, rfl, hb2, hc2⟩ := HB.out (by omega)
        have d1 : wr.cell? ⟨b1, o1 + k, none⟩ = some (.int .u8 xs[k]) := by
          rw [hnx.cell (p := ⟨b1, o1 + k, none⟩) hb1]
          exact hc1 k _ (by simp [hlt])
        have d2 : wr.cell? ⟨b2, o2 + k, none⟩ = some (.int .u8 ys[k]) := by
          rw [hnx.cell (p := ⟨b2, o2 + k, none⟩) hb2]
          exact hc2 k _ (by simp [hlt2])
        have hst := take_eq_step hlt hlt2 heq
        obtain ⟨x, hx⟩ : ∃ x, xs[k] = x := ⟨_, rfl⟩
        obtain ⟨y, hy⟩ : ∃ y, ys[k] = y := ⟨_, rfl⟩
        rw [hx] at d1 hst
        rw [hy] at d2 hst
        have Hst := Lib.hid hst
        have Hnx := Lib.hid hnx
        clear hst hx hy hc1 hc2 heq hnx
        by_cases hxy : x = y
        · have ht : (x != y) = false := by simp [hxy]
          have Hxy := Lib.hid hxy
          clear hxy
          go_wp2
          go_region
          go_wp2
          exact ⟨⟨k + 1, by omega, by go_num, Hst.out.2 Hxy.out, Hnx.out.drew⟩, by simp [intOf]; omega⟩
        · have ht : (x != y) = true := by simp [hxy]
          have Hxy := Lib.hid hxy
          clear hxy
          go_wp2
          go_region
          go_wp2
          go_ret
          exact ⟨ret_bool (by
            have : xs ≠ ys := fun e => Hxy.out (Hst.out.1 (by rw [e]))
            simp [this]), Hnx.out.drew⟩
      · go_wp2
        go_ret
        have hk1 : k = xs.length := by omega
        refine ⟨ret_bool ?_, hnx⟩
        rw [hk1, List.take_length, Hl.out, List.take_length] at heq
        simp [heq]
  · have hne : (((xs.length : Nat) : Int) != ((ys.length : Nat) : Int)) = true := by simp; omega
    have Hl := Lib.hid hl
    clear hl
    go_enter Try.func22, Try.ntmps22
    go_wp2
    go_ret
    exact ⟨ret_bool (by
      have : xs ≠ ys := fun e => Hl.out (by rw [e])
      simp [this]), Below.refl _ _⟩
end Go.Proofs.Ytkefciacdmbidaa
