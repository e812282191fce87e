/- Loose, forget and what it calls: contracts of package store. -/
import Derived.Test.YtkefciacdmbidaaSb
namespace Go.Proofs.Ytkefciacdmbidaa
open Go.RowKit Go.WideMaps Go.Maps

theorem looseCells_length (l : List (Nat × Nat)) : (looseCells l).length = l.length * 2 := by
  induction l with
  | nil => rfl
  | cons p r ih => simp [looseCells] at ih ⊢; omega
theorem looseCells_get (l : List (Nat × Nat)) (k : Nat) (h : k < l.length) : (looseCells l)[k * 2]? = some (.pointer (some ⟨l[k].1, 0, none⟩)) ∧ (looseCells l)[k * 2 + 1]? = some (.int .i64 l[k].2) := by
  induction l generalizing k with
  | nil => simp at h
  | cons p r ih =>
    cases k with
    | zero => exact ⟨rfl, rfl⟩
    | succ k =>
      have := ih k (by simpa using h)
      have e : looseCells (p :: r) = .pointer (some ⟨p.1, 0, none⟩) :: .int .i64 p.2 :: looseCells r := rfl
      rw [e, show (k + 1) * 2 = k * 2 + 1 + 1 from by omega]
      simpa using this
theorem one_loose (l : List (Nat × Nat)) : ∀ u ∈ looseCells l, u.oneCell' = true := by
  intro u hu
  simp only [looseCells, List.mem_flatMap] at hu
  obtain ⟨p, _, hp⟩ := hu
  simp at hp
  rcases hp with rfl | rfl <;> rfl

def sum2 (l : List (Nat × Nat)) : Nat := (l.map (·.2)).sum
theorem sum2_take (l : List (Nat × Nat)) (k : Nat) (h : k < l.length) : sum2 (l.take (k + 1)) = sum2 (l.take k) + l[k].2 := by
  unfold sum2
  rw [List.take_succ_eq_append_getElem h, List.map_append, List.sum_append]
  simp
theorem add0 (g j : Nat) : (⟨g, 0, none⟩ : Addr).add j = ⟨g, j, none⟩ := by unfold Addr.add; split <;> simp_all
theorem sum2_le (l : List (Nat × Nat)) (k : Nat) : sum2 (l.take k) ≤ sum2 l := by
  have : sum2 l = sum2 (l.take k) + sum2 (l.drop k) := by
    unfold sum2
    rw [← List.sum_append, ← List.map_append, List.take_append_drop]
  omega

theorem loose_any {F : Nat → Prop} {d : Nat} {S : SD} {w : World} (hd : DiskAt F w d S) (hl : S.nloose ≤ 16777216) (hlen : S.loose.length ≤ 16777216) :
    Calls Try.prog 29 #[.pointer (some ⟨d, 0, none⟩)] w fun e w' => e = .returned (.int .i64 S.nloose) ∧ Below w.heap.size w w' := by
  obtain ⟨role, m, lv, hd, -⟩ := hd
  have c1 := hd.c1
  have hn : S.nloose = sum2 S.loose := rfl
  rw [hn] at hl ⊢
  clear hn
  have hcs := @World.ownsRow.cells _ _ _ _ _ _ _ hd.loose
  have hrow := hd.loose
  clear hd
  rcases hrow.2 with ⟨rfl, h0⟩ | ⟨g, cap, cur, rfl, _, hg, hc, _⟩
  · have hs : S.loose = [] := by simpa using h0
    rw [hs]
    clear hcs hrow hs h0 hl hlen
    go_enter Try.func29, Try.ntmps29
    go_wp2
    refine wp_loop_rounds 1 ?_
    rw [rounds_succ]
    go_wp2
    go_ret
    exact ⟨rfl, Below.refl _ _⟩
  · have hglt := (Array.getElem?_eq_some_iff.1 hg).1
    have Hcs := Lib.hid (hcs (g := g) rfl)
    have Hl := Lib.hid hl
    generalize S.loose = l at *
    clear hcs hrow hg hl
    go_enter Try.func29, Try.ntmps29
    go_wp2
    go_loopw [3, 11] (fun n i wr => ∃ k : Nat, k ≤ l.length ∧ i = .int .i64 k ∧ n = .int .i64 (sum2 (l.take k)) ∧ Below w.heap.size w wr) (fun _ i _ => l.length - (intOf i).toNat)
    case atStart => exact ⟨0, Nat.zero_le _, rfl, rfl, Below.refl _ _⟩
    case round =>
      obtain ⟨k, hk, rfl, rfl, hnx⟩ := hrel
      by_cases hlt : k < l.length
      · obtain ⟨g0, g1⟩ := looseCells_get l k hlt
        have hst := sum2_take l k hlt
        have hle := sum2_le l (k + 1)
        obtain ⟨i, x, hix⟩ : ∃ i x, l[k] = (i, x) := ⟨_, _, rfl⟩
        rw [hix] at g0 g1 hst
        have d0 : wr.cell? ⟨g, k * 2, none⟩ = some (.pointer (some ⟨i, 0, none⟩)) := by rw [hnx.cell (p := ⟨g, k * 2, none⟩) hglt, ← add0]; exact Hcs.out _ _ g0
        have d1 : wr.cell? ⟨g, k * 2 + 1, none⟩ = some (.int .i64 x) := by rw [hnx.cell (p := ⟨g, k * 2 + 1, none⟩) hglt, ← add0]; exact Hcs.out _ _ g1
        have hx : x ≤ 16777216 := by have := Hl.out; simp at hst; omega
        have hs : sum2 (l.take k) ≤ 16777216 := by have := Hl.out; have := sum2_le l k; omega
        have Hst := Lib.hid hst
        clear g0 g1 hix hst hle
        go_wp2
        go_roundw
        case rel => exact ⟨k + 1, by omega, by go_num, by rw [Hst.out]; go_num, (hnx.alloc hnx.size _)⟩
        case measure => simp [intOf]; omega
      · go_wp2
        go_ret
        have : k = l.length := by omega
        subst this
        exact ⟨ret_int (by rw [List.take_length]), hnx⟩
end Go.Proofs.Ytkefciacdmbidaa
