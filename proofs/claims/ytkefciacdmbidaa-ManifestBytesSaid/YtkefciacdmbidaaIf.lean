/- ManifestBytes: what both answer, in one form. -/
import Derived.Test.YtkefciacdmbidaaIe
import Derived.Test.YtkefciacdmbidaaHe
namespace Go.Proofs.Ytkefciacdmbidaa
open Go.RowKit Go.WideMaps Go.Maps Go.Lib

open Classical in
noncomputable def encU (s : MS) : List Int × Bool := if s.Right then (encB s, true) else ([], false)
def EncU (w : World) (t : List Int × Bool) (e : Ending) (w' : World) : Prop :=
  Below w.heap.size w w' ∧ ∃ A c, e = .returned (.tuple #[.slice A t.1.length c, .bool t.2]) ∧ BytesAt w' (.slice A t.1.length c) t.1
theorem EncU.of {w : World} {s : MS} {e : Ending} {w' : World} (h : EncPost w s e w') : EncU w (encU s) e w' := by
  obtain ⟨hb, ⟨hR, v, rfl, ho⟩ | ⟨hR, rfl⟩⟩ := h
  · obtain ⟨A, c, rfl, -⟩ := ownsRow_slice ho
    unfold encU
    rw [if_pos hR]
    exact ⟨hb, A, c, rfl, ownsRow_srcs ho (one_u8 _)⟩
  · unfold encU
    rw [if_neg hR]
    exact ⟨hb, none, 0, rfl, Or.inl ⟨rfl, rfl, rfl⟩⟩
theorem encU_len {s : MS} : (encU s).1.length ≤ 600 := by
  unfold encU
  by_cases hR : s.Right
  · rw [if_pos hR]; exact encB_len hR
  · rw [if_neg hR]; decide

def decU (d : Option MS) : MS × Bool := match d with
  | none => (⟨0, 0, 0, []⟩, false)
  | some s => (s, true)
def DecU (w : World) (t : MS × Bool) (e : Ending) (w' : World) : Prop :=
  Below w.heap.size w w' ∧ ∃ A c, e = .returned (.tuple #[stV t.1.gen t.1.applied t.1.next (.slice A t.1.tables.length c), .bool t.2]) ∧ IntsAt w' (.slice A t.1.tables.length c) t.1.tables
theorem DecU.of {w : World} {d : Option MS} {e : Ending} {w' : World} (h : DecPost w d e w') : DecU w (decU d) e w' := by
  obtain ⟨hb, h⟩ := h
  cases d with
  | none => exact ⟨hb, none, 0, h, row0_at w'⟩
  | some s =>
    obtain ⟨tv, rfl, ho⟩ := h
    obtain ⟨A, c, rfl, -⟩ := ownsRow_slice ho
    exact ⟨hb, A, c, rfl, ownsRow_srcs ho (one_i64 _)⟩
theorem DecU.ofR {w : World} {d : Option MS} {e : Ending} {w' : World} (h : RDecPost w d e w') : DecU w (decU d) e w' := by
  obtain ⟨hb, h⟩ := h
  cases d with
  | none => exact ⟨hb, none, 0, h, row0_at w'⟩
  | some s =>
    obtain ⟨A, c, rfl, ho, -⟩ := h
    exact ⟨hb, A, c, rfl, ho⟩
def readU (r : Option (MS × Int)) : MS × Int × Int := match r with
  | none => (⟨0, 0, 0, []⟩, 0, 20)
  | some (s, n) => (s, n, 0)
def ReadU (w : World) (t : MS × Int × Int) (e : Ending) (w' : World) : Prop :=
  Below w.heap.size w w' ∧ ∃ A c, e = .returned (.tuple #[stV t.1.gen t.1.applied t.1.next (.slice A t.1.tables.length c), .int .i64 t.2.1, .int .i64 t.2.2]) ∧ IntsAt w' (.slice A t.1.tables.length c) t.1.tables
theorem ReadU.of {w : World} {d : Option (MS × Int)} {e : Ending} {w' : World} (h : MReadPost w d e w') : ReadU w (readU d) e w' := by
  obtain ⟨hb, h⟩ := h
  cases d with
  | none => exact ⟨hb, none, 0, h, row0_at w'⟩
  | some p =>
    obtain ⟨s, n⟩ := p
    obtain ⟨tv, rfl, ho⟩ := h
    obtain ⟨A, c, rfl, -⟩ := ownsRow_slice ho
    exact ⟨hb, A, c, rfl, ownsRow_srcs ho (one_i64 _)⟩
theorem ReadU.ofR {w : World} {d : Option (MS × Int)} {e : Ending} {w' : World} (h : RReadPost w d e w') : ReadU w (readU d) e w' := by
  obtain ⟨hb, h⟩ := h
  cases d with
  | none => exact ⟨hb, none, 0, h, row0_at w'⟩
  | some p =>
    obtain ⟨s, n⟩ := p
    obtain ⟨A, c, rfl, ho⟩ := h
    exact ⟨hb, A, c, rfl, ho⟩
theorem decU_len {xs : List Int} : (decU (decB xs)).1.tables.length ≤ 1000 := by
  cases h : decB xs with
  | none => exact Nat.zero_le _
  | some s => have := (decB_right h).basic.t; simp only [decU]; omega
theorem readU_len {xs : List Int} : (readU (readB xs)).1.tables.length ≤ 1000 := by
  cases h : readB xs with
  | none => exact Nat.zero_le _
  | some p =>
    obtain ⟨s, n⟩ := p
    have := (readB_rng h).1.2.2
    simp only [readU]
    omega
end Go.Proofs.Ytkefciacdmbidaa
