/- What a disk keeps: SD.Ok stands behind each call. -/
import Derived.Test.YtkefciacdmbidaaSr
namespace Go.Proofs.Ytkefciacdmbidaa
open Go.RowKit Go.WideMaps Go.Maps

theorem looseOf_append (a b : List (Nat × Nat)) (i : Nat) : looseOf (a ++ b) i = looseOf a i + looseOf b i := by simp [looseOf]
theorem looseOf_keep (l : List (Nat × Nat)) (i j : Nat) : looseOf (keepL i l) j = if j = i then 0 else looseOf l j := by
  unfold looseOf keepL
  rw [List.filter_filter]
  by_cases e : j = i
  · rw [if_pos e, e]
    have : (l.filter fun a => (a.1 == i) && (a.1 != i)) = [] := by
      rw [List.filter_eq_nil_iff]
      intro a _
      by_cases h : a.1 = i <;> simp [h]
    rw [this]; rfl
  · rw [if_neg e]
    congr 2
    apply List.filter_congr
    intro a _
    by_cases h : a.1 = j
    · simp [h, e]
    · simp [h]
theorem looseOf_none {l : List (Nat × Nat)} {i : Nat} (h : ∀ p ∈ l, p.1 ≠ i) : looseOf l i = 0 := by
  unfold looseOf
  rw [List.filter_eq_nil_iff.2 (fun p hp => by simpa using h p hp)]
  rfl
theorem mem_keepL {i : Nat} {l : List (Nat × Nat)} {p : Nat × Nat} : p ∈ keepL i l ↔ p ∈ l ∧ p.1 ≠ i := by simp [keepL]

theorem updF_pair {R : List UInt8 × SF → List UInt8 × SF → Prop} {i : Nat} {g : SF → SF} {L : Files} (h : L.Pairwise R) (hR : ∀ p q : List UInt8 × SF, R p q → R (if p.2.id = i then (p.1, g p.2) else p) (if q.2.id = i then (q.1, g q.2) else q)) : (updF i g L).Pairwise R := by
  unfold updF
  exact List.pairwise_map.2 (h.imp fun h => hR _ _ h)

theorem lens_updF {k : List UInt8} {f f' : SF} : ∀ {L : Files}, L.Pairwise (fun p q => p.2.id ≠ q.2.id) → (k, f) ∈ L → lens (updF f.id (fun _ => f') L) + f.data.length = lens L + f'.data.length
  | y :: r, hp, hf => by
    obtain ⟨h1, h2⟩ := List.pairwise_cons.1 hp
    rcases List.mem_cons.1 hf with e | hf
    · subst e
      have : updF f.id (fun _ => f') r = r := updF_other fun p hp e => h1 p hp e.symm
      have e : updF f.id (fun _ => f') ((k, f) :: r) = (k, f') :: updF f.id (fun _ => f') r := by simp [updF]
      rw [e, this]
      simp [lens]
      omega
    · have hne : y.2.id ≠ f.id := h1 _ hf
      have ih := lens_updF (f' := f') h2 hf
      have e : updF f.id (fun _ => f') (y :: r) = y :: updF f.id (fun _ => f') r := by simp [updF, hne]
      rw [e]
      simp [lens] at ih ⊢
      omega
theorem lens_perm {L L' : Files} (h : L.Perm L') : lens L = lens L' := (h.map _).sum_nat
theorem lens_ers_le (k : List UInt8) : ∀ L : Files, lens (ers k L) ≤ lens L
  | [] => Nat.le_refl _
  | y :: r => by
    have := lens_ers_le k r
    unfold ers lens at *
    rw [List.filter_cons]
    split
    · simp at this ⊢; omega
    · simp at this ⊢; omega

theorem sins_sorted {α : Type} {p : List UInt8 × α} : ∀ {L : List (List UInt8 × α)}, L.Pairwise (fun a b => Go.bytesBefore a.1 b.1 = true) → (∀ q ∈ L, q.1 ≠ p.1) → (sins p L).Pairwise (fun a b => Go.bytesBefore a.1 b.1 = true)
  | [], _, _ => by simp [sins]
  | y :: r, h, hne => by
    obtain ⟨h1, h2⟩ := List.pairwise_cons.1 h
    unfold sins
    by_cases hb : Go.bytesBefore p.1 y.1 = true
    · rw [if_pos hb]
      refine List.pairwise_cons.2 ⟨fun q hq => ?_, h⟩
      rcases List.mem_cons.1 hq with e | hq
      · rw [e]; exact hb
      · exact Go.WideShapes.before_trans (a := .string p.1) (b := .string y.1) (c := .string q.1) hb (h1 q hq)
    · rw [if_neg hb]
      refine List.pairwise_cons.2 ⟨fun q hq => ?_, sins_sorted h2 fun q hq => hne q (by simp [hq])⟩
      rcases mem_sins.1 hq with e | hq
      · rw [e]
        have hne' := hne y (by simp)
        rcases before_total y.1 p.1 hne' with h3 | h3
        · exact h3
        · exact absurd h3 hb
      · exact h1 q hq
where
  before_total : ∀ (a b : List UInt8), a ≠ b → Go.bytesBefore a b = true ∨ Go.bytesBefore b a = true
  | [], [], h => absurd rfl h
  | [], _ :: _, _ => Or.inl rfl
  | _ :: _, [], _ => Or.inr rfl
  | a :: r, b :: s, h => by
    simp only [Go.bytesBefore, Bool.or_eq_true, decide_eq_true_eq, Bool.and_eq_true, beq_iff_eq]
    by_cases e : a = b
    · subst e
      have hrs : r ≠ s := fun e => h (by rw [e])
      rcases before_total r s hrs with h1 | h1
      · exact Or.inl (Or.inr ⟨rfl, h1⟩)
      · exact Or.inr (Or.inr ⟨rfl, h1⟩)
    · have : a < b ∨ b < a := by
        rcases Nat.lt_trichotomy a.toNat b.toNat with h1 | h1 | h1
        · exact Or.inl h1
        · exact absurd (UInt8.toNat_inj.1 h1) e
        · exact Or.inr h1
      rcases this with h1 | h1
      · exact Or.inl (Or.inl h1)
      · exact Or.inr (Or.inl h1)
end Go.Proofs.Ytkefciacdmbidaa
