/- The arguments of a law of manifest, opened: a row of states. -/
import Derived.Test.YtkefciacdmbidaaHb
import Derived.Test.YtkefciacdmbidaaHi
namespace Go.Proofs.Ytkefciacdmbidaa
open Go.ChangeShapes Go.WideShapes Go.ChangeAt Go.RowKit Go.Deep
section
variable {H : Type} {enc : TypeId × Value → H} {w : World}
/-- the states that a law gets -/
theorem open_states {A : Option Addr} {len cap : Nat} {d : DataW H} {ps : List MemPlace} (h : DataW.Trod enc Try.prog w 0 (fun _ => true) true 82 (.slice A len cap) d ps) :
    ∃ ss : List MS, ss.length = len ∧ StatesAt w A ss := by
  obtain ⟨fuel, hf⟩ := h
  rcases open_slice Try.underlying82 hf with ⟨hcs, _⟩ | ⟨a, len', cap', m, n, D, Pl, hcs, -, hl, hm, hmm, hx, hel⟩
  · simp [Value.cells] at hcs
    obtain ⟨rfl, rfl, rfl⟩ := hcs
    exact ⟨[], rfl, ⟨fun h => absurd rfl h⟩⟩
  · simp [Value.cells] at hcs
    obtain ⟨rfl, rfl, rfl⟩ := hcs
    have hmcap : m = cap := by simpa using hmm
    rw [cells59] at hel
    have each : ∀ i, i < len → ∃ s : MS, ∃ cs tv, w.cells? 0 (a.add (i * 4)) 4 = some cs ∧ cs = [.int .i64 s.gen, .int .i64 s.applied, .int .i64 s.next, tv] ∧ IntsAt w tv s.tables := fun i hi => by
      obtain ⟨cs, h1, h2⟩ := hel i (by omega)
      obtain ⟨s, tv, h3, h4, -⟩ := open_state h2
      exact ⟨s, cs, tv, h1, h3, h4⟩
    haveI : Inhabited MS := ⟨⟨0, 0, 0, []⟩⟩
    obtain ⟨f, hfc⟩ := choose_lt each
    refine ⟨(List.range len).map f, by simp, ⟨fun hne => ?_⟩⟩
    have h0 : 0 < len := by
      rcases Nat.eq_zero_or_pos len with h | h
      · subst h
        exact absurd rfl hne
      · exact h
    have hspot : a.spot = none := by
      obtain ⟨cs, tv, h1, h2, -⟩ := hfc 0 h0
      have := (World.cells?_some h1).2.2 0 (by omega)
      rw [h2] at this
      have hs := World.cell?_spot this
      rw [show (0 : Nat) * 4 = 0 from rfl] at hs
      unfold Addr.add at hs
      simpa using hs
    obtain ⟨b, off, sp⟩ := a
    simp only at hspot
    subst hspot
    have hcj : ∀ i, i < len → ∃ tv, IntsAt w tv (f i).tables ∧ ∀ j, j < 4 → w.cell? ⟨b, off + i * 4 + j, none⟩ = [Value.int .i64 (f i).gen, .int .i64 (f i).applied, .int .i64 (f i).next, tv][j]? := fun i hi => by
      obtain ⟨cs, tv, h1, h2, h3⟩ := hfc i hi
      have hc := (World.cells?_some h1).2.2
      rw [h2, add_flat] at hc
      exact ⟨tv, h3, fun j hj => by
        have := hc j hj
        rw [add_flat] at this
        exact this⟩
    refine ⟨b, off, rfl, ?_, fun i hi => ?_⟩
    · obtain ⟨tv, -, hj⟩ := hcj 0 h0
      exact World.block_lt_of_cell? w _ (hj 0 (by omega))
    · have hil : i < len := by simpa using hi
      rw [List.getElem_map, List.getElem_range]
      obtain ⟨tv, h3, hj⟩ := hcj i hil
      obtain ⟨A', c', rfl, -⟩ := Srcs.slice h3
      exact ⟨hj 0 (by omega), hj 1 (by omega), hj 2 (by omega), _, _, hj 3 (by omega), h3⟩
end
end Go.Proofs.Ytkefciacdmbidaa
