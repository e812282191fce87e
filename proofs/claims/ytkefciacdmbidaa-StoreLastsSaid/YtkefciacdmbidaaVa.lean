/- StoreTwice: the walk. -/
import Derived.Test.YtkefciacdmbidaaUg
namespace Go.Proofs.Ytkefciacdmbidaa
open Go.RowKit Go.WideMaps Go.Maps

theorem start_ok : SD.Ok ⟨[], [], 16777216⟩ := ⟨List.Pairwise.nil, List.Pairwise.nil, fun _ h => by simp at h, fun _ h => by simp at h, fun _ h => by simp at h, by decide, by decide⟩

theorem ownsRow_type {w : World} {base : Nat} {e : TypeId} {size : Nat} {v : Value} {n : Nat} {xs : List Value} (h : w.ownsRow base e size v n xs) {g : Nat} (hg : v.ownBlock = some g) : ∃ cs, w.heap[g]? = some (.cells cs e (0, 0)) := by
  rcases h.2 with ⟨rfl, _⟩ | ⟨g', cap, cur, rfl, _, hb, _⟩
  · simp [Value.ownBlock] at hg
  · cases hg
    exact ⟨_, hb⟩

theorem ownsRow_apart {w : World} {b b' : Nat} {e e' : TypeId} {s s' : Nat} {v v' : Value} {n n' : Nat} {xs xs' : List Value} (h : w.ownsRow b e s v n xs) (h' : w.ownsRow b' e' s' v' n' xs') (hne : e ≠ e') {g : Nat} (hg : v.ownBlock = some g) : some g ≠ v'.ownBlock := fun hg' => by
  obtain ⟨cs, h1⟩ := ownsRow_type h hg
  obtain ⟨cs', h2⟩ := ownsRow_type h' hg'.symm
  rw [h1] at h2
  cases h2
  exact hne rfl

/-- a row of rows of bytes: of the first k files -/
structure OldAt (F : Nat → Prop) (w : World) (o : Value) (k : Nat) (vs : List Value) (ds : List (List Int)) : Prop where
  own : w.ownsRow 0 32 1 o k vs
  out : ∀ g, o.ownBlock = some g → ¬ F g
  len : ds.length = k
  vlen : vs.length = k
  each : ∀ j (h : j < ds.length), ∃ v, vs[j]? = some v ∧ w.ownsRow 0 5 1 v ds[j].length (ds[j].map (Value.int .u8)) ∧ ∀ g, v.ownBlock = some g → ¬ F g

theorem OldAt.same {F : Nat → Prop} {w w' : World} {o : Value} {k : Nat} {vs : List Value} {ds : List (List Int)} (h : OldAt F w o k vs ds) (hs : Same (fun k => ¬ F k) w w') : OldAt F w' o k vs ds :=
  ⟨ownsRow_block h.own fun g hg => hs.block g (h.own.lt g hg).2 (h.out g hg), h.out, h.len, h.vlen, fun j hj => by
    obtain ⟨v, h1, h2, h3⟩ := h.each j hj
    exact ⟨v, h1, ownsRow_block h2 fun g hg => hs.block g (h2.lt g hg).2 (h3 g hg), h3⟩⟩
theorem OldAt.foot {F F' : Nat → Prop} {w w' : World} {o : Value} {k : Nat} {vs : List Value} {ds : List (List Int)} (h : OldAt F w o k vs ds) (hu : Upd F F' w w') : OldAt F' w' o k vs ds := by
  have h' := h.same ⟨hu.os, hu.tape, hu.output, hu.size, hu.block⟩
  have hF : ∀ g, g < w.heap.size → ¬ F g → ¬ F' g := fun g hg hn hF => by
    rcases hu.sub g hF with h1 | h1
    · exact hn h1
    · omega
  refine ⟨h'.own, fun g hg => hF g (h.own.lt g hg).2 (h.out g hg), h.len, h.vlen, fun j hj => ?_⟩
  obtain ⟨v, h1, h2, h3⟩ := h.each j hj
  exact ⟨v, h1, ownsRow_block h2 fun g hg => hu.block g (h2.lt g hg).2 (h3 g hg), fun g hg => hF g (h2.lt g hg).2 (h3 g hg)⟩
theorem NamesAt.foot {F F' : Nat → Prop} {w w' : World} {A : Option Addr} {n c : Nat} {S : SD} (h : NamesAt F w A n c S) (hu : Upd F F' w w') : NamesAt F' w' A n c S := by
  have h' := h.same ⟨hu.os, hu.tape, hu.output, hu.size, hu.block⟩
  refine ⟨h'.own, fun g hg hF => ?_, h.len⟩
  rcases hu.sub g hF with h1 | h1
  · exact h.out g hg h1
  · have := (h.own.lt g hg).2
    omega

theorem OldAt.slice {F : Nat → Prop} {w : World} {o : Value} {k : Nat} {vs : List Value} {ds : List (List Int)} (h : OldAt F w o k vs ds) : ∃ A c, o = .slice A k c := by
  obtain ⟨A, c, rfl, _⟩ := ownsRow_slice h.own
  exact ⟨A, c, rfl⟩

theorem OldAt.at_ {F : Nat → Prop} {w : World} {A : Option Addr} {c : Nat} {k : Nat} {vs : List Value} {ds : List (List Int)} (h : OldAt F w (.slice A k c) k vs ds) {j : Nat} (hj : j < k) :
    ∃ g v, A = some ⟨g, 0, none⟩ ∧ w.cell? ⟨g, j, none⟩ = some v ∧ BytesAt w v (ds.getD j []) := by
  obtain ⟨v, h1, h2, -⟩ := h.each j (by rw [h.len]; exact hj)
  have e : ds[j]'(by rw [h.len]; exact hj) = ds.getD j [] := by simp [h.len, hj]
  rcases h.own.2 with ⟨e1, e2⟩ | ⟨g, cap, cur, e1, _⟩
  · omega
  · cases e1
    have := h.own.cells (g := g) rfl j v h1
    rw [add0] at this
    refine ⟨g, v, rfl, this, ?_⟩
    have := ownsRow_srcs h2 (one_u8 _)
    rw [e] at this
    exact this

/-- a new row goes behind -/
theorem OldAt.app {F : Nat → Prop} {w w' : World} {o o' v : Value} {k : Nat} {vs : List Value} {ds : List (List Int)} {d : List Int} (h : OldAt F w o k vs ds) (ha : Appended w w' o o' 32 1 k 1 (vs ++ [v]))
    (hv : w.ownsRow 0 5 1 v d.length (d.map (Value.int .u8))) (hvo : ∀ g, v.ownBlock = some g → ¬ F g) (hF : ∀ g, F g → g < w.heap.size) : OldAt F w' o' (k + 1) (vs ++ [v]) (ds ++ [d]) := by
  refine ⟨ha.own, fun g hg hFg => ?_, by simp [h.len], by simp [h.vlen], fun j hj => ?_⟩
  · rcases ha.loc with hl | hl
    · exact h.out g (by rw [← hl]; exact hg) hFg
    · rw [hl] at hg
      cases hg
      exact Nat.lt_irrefl _ (hF _ hFg)
  · rw [List.length_append, List.length_singleton] at hj
    by_cases hlt : j < ds.length
    · obtain ⟨u, h1, h2, h3⟩ := h.each j hlt
      refine ⟨u, by rw [List.getElem?_append_left (by rw [h.vlen, ← h.len]; exact hlt)]; exact h1, ?_, h3⟩
      rw [List.getElem_append_left hlt]
      exact ownsRow_block h2 fun g hg => ha.grown.block g (h2.lt g hg).2 (ownsRow_apart h2 h.own (by decide) hg)
    · have e : j = ds.length := by omega
      subst e
      refine ⟨v, by rw [List.getElem?_append_right (by rw [h.vlen, h.len]; exact Nat.le_refl _), h.vlen, h.len]; simp, ?_, hvo⟩
      rw [List.getElem_append_right (Nat.le_refl _)]
      simp only [Nat.sub_self, List.getElem_singleton]
      exact ownsRow_block hv fun g hg => ha.grown.block g (hv.lt g hg).2 (ownsRow_apart hv h.own (by decide) hg)
theorem NamesAt.app {F : Nat → Prop} {w w' : World} {o : Value} {A : Option Addr} {n c k : Nat} {vs : List Value} {S : SD} (h : NamesAt F w A n c S) (ho : w.ownsRow 0 32 1 o k vs) (hg : w.grownBy w' o.ownBlock) : NamesAt F w' A n c S :=
  ⟨ownsRow_block h.own fun g hgg => hg.block g (h.own.lt g hgg).2 (ownsRow_apart h.own ho (by decide) hgg), h.out, h.len⟩
theorem DiskAt.app {F : Nat → Prop} {w w' : World} {o : Value} {d : Nat} {S : SD} (h : DiskAt F w d S) (ho : ∀ g, o.ownBlock = some g → ¬ F g) (hg : w.grownBy w' o.ownBlock) : DiskAt F w' d S :=
  h.keep hg.size fun k hk => hg.block k (h.lt k hk) fun e => ho k e.symm hk

/-- the rows that Read has made of the first k names -/
structure Olds (F : Nat → Prop) (w0 w : World) (d : Nat) (S : SD) (A : Option Addr) (n c : Nat) (o : Value) (k : Nat) (vs : List Value) : Prop where
  disk : DiskAt F w d S
  names : NamesAt F w A n c S
  old : OldAt F w o k vs ((S.files.map fun p => p.2.data).take k)
  fb : ∀ k, F k → w0.heap.size ≤ k
  ob : ∀ g, o.ownBlock = some g → w0.heap.size ≤ g
  below : Below w0.heap.size w0 w
end Go.Proofs.Ytkefciacdmbidaa
