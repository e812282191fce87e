/- Write: the contract of package store. -/
import Derived.Test.YtkefciacdmbidaaSj
namespace Go.Proofs.Ytkefciacdmbidaa
open Go.RowKit Go.WideMaps Go.Maps

def addRole (role : Nat → Nat) (v : Value) (r : Nat) (k : Nat) : Nat := if role k = 0 ∧ v.ownBlock = some k then r else role k
theorem addRole_old {role : Nat → Nat} {v : Value} {r k : Nat} (h : role k ≠ 0) : addRole role v r k = role k := by unfold addRole; rw [if_neg (fun e => h e.1)]
theorem addRole_inv {role : Nat → Nat} {v : Value} {r k : Nat} (h : addRole role v r k ≠ 0) : role k ≠ 0 ∨ v.ownBlock = some k := by
  unfold addRole at h
  split at h
  · rename_i e; exact Or.inr e.2
  · exact Or.inl h
theorem addRole_own {role : Nat → Nat} {v : Value} {r k : Nat} (h : v.ownBlock = some k) (h2 : role k = 0 ∨ role k = r) : addRole role v r k = r := by
  unfold addRole
  split
  · rfl
  · rename_i e
    rcases h2 with h2 | h2
    · exact absurd ⟨h2, h⟩ e
    · exact h2

theorem DiskIn.appFile {role : Nat → Nat} {w w2 : World} {d m : Nat} {lv : Value} {S : SD} (h : DiskIn role w d m lv S) {f : SF} (h4 : role f.id = 4) {dv v1 : Value} {xs : List Int} (hdv : ∀ g, dv.ownBlock = some g → role g = 5 + f.id)
    (hblk : w.heap[f.id]? = some (.cells #[dv, .int .i64 f.safe, .bool f.stays] 103 (0, 0))) (ha : Appended w w2 dv v1 5 1 f.data.length xs.length (f.data.map (Value.int .u8) ++ xs.map (Value.int .u8))) :
    DiskIn (addRole role v1 (5 + f.id)) (w2.setCell ⟨f.id, 0, none⟩ v1) d m lv { S with files := updF f.id (fun _ => { f with data := f.data ++ xs }) S.files } := by
  have hz : (w2.setCell ⟨f.id, 0, none⟩ v1).heap.size = w2.heap.size := by simp [World.setCell]
  have hown : ∀ g, v1.ownBlock = some g → (role g = 0 ∨ role g = 5 + f.id) ∧ g < w2.heap.size ∧ g ≠ f.id := fun g hg => by
    have hl := (ha.own.lt g hg).2
    rcases ha.loc with e | e
    · rw [hg] at e
      have := hdv g e.symm
      exact ⟨Or.inr this, hl, fun e2 => by rw [e2, h4] at this; omega⟩
    · rw [hg] at e
      cases e
      refine ⟨Or.inl (Classical.byContradiction fun hne => ?_), hl, fun e2 => ?_⟩
      · have := h.lt _ hne; omega
      · have := h.lt f.id (by rw [h4]; decide); omega
  have hb : ∀ k, k < w.heap.size → k ≠ f.id → role k ≠ 5 + f.id → (w2.setCell ⟨f.id, 0, none⟩ v1).heap[k]? = w.heap[k]? := fun k hk hne h5 =>
    (Below.heap_setCell _ _ _ _ hne).trans (ha.grown.block k hk fun e => h5 (hdv k e.symm))
  refine h.setFile h4 rfl (fun _ hk => addRole_old hk) (fun k hk => ?_) hb ⟨?_, v1, fun g hg => addRole_own hg (hown g hg).1, ?_, ?_⟩
  · rw [hz]
    rcases addRole_inv hk with h1 | h1
    · exact Nat.lt_of_lt_of_le (h.lt k h1) ha.grown.size
    · exact (hown k h1).2.1
  · rw [addRole_old (by rw [h4]; decide)]; exact h4
  · have := (ha.grown.block f.id (h.lt f.id (by rw [h4]; decide)) fun e => by have := hdv _ e.symm; omega).trans hblk
    rw [setCell_same this]
    rfl
  · have := ownsRow_block (w' := w2.setCell ⟨f.id, 0, none⟩ v1) ha.own fun g hg => Below.heap_setCell _ _ _ _ (hown g hg).2.2
    rw [List.length_append, List.map_append]
    exact this

theorem DiskIn.appLoose {role : Nat → Nat} {w w5 : World} {d m : Nat} {lv v2 : Value} {S : SD} {o : Obj} (h : DiskIn role w d m lv S) {i n : Nat} (ha : Appended (w.alloc o) w5 lv v2 105 2 S.loose.length 1 (looseCells S.loose ++ [.pointer (some ⟨i, 0, none⟩), .int .i64 n])) :
    DiskIn (addRole role v2 3) (w5.setCell ⟨d, 1, none⟩ v2) d m v2 { S with loose := S.loose ++ [(i, n)] } := by
  have hz : (w5.setCell ⟨d, 1, none⟩ v2).heap.size = w5.heap.size := by simp [World.setCell]
  have hsz : w.heap.size + 1 ≤ w5.heap.size := by have := ha.grown.size; simpa using this
  have hown : ∀ g, v2.ownBlock = some g → (role g = 0 ∨ role g = 3) ∧ g < w5.heap.size ∧ g ≠ d := fun g hg => by
    have hl := (ha.own.lt g hg).2
    rcases ha.loc with e | e
    · rw [hg] at e
      have := h.rl g e.symm
      exact ⟨Or.inr this, hl, fun e2 => by rw [e2, h.rd] at this; omega⟩
    · rw [hg] at e
      simp at e
      subst e
      refine ⟨Or.inl (Classical.byContradiction fun hne => ?_), hl, fun e2 => ?_⟩
      · have := h.lt _ hne; omega
      · have := h.lt d (by rw [h.rd]; decide); omega
  have hb0 : ∀ k, k < w.heap.size → role k ≠ 3 → w5.heap[k]? = w.heap[k]? := fun k hk h3 =>
    (ha.grown.block k (by simp; omega) fun e => h3 (h.rl k e.symm)).trans (Below.heap_alloc w o k hk)
  have h1 := h.setLoose (w1 := w5) (l := S.loose) (lv' := .slice none 0 0) (by omega) hb0 (fun g hg => by simp [Value.ownBlock] at hg)
  exact {
    lt := fun k hk => by
      rw [hz]
      rcases addRole_inv hk with h1 | h1
      · have := h.lt k h1; omega
      · exact (hown k h1).2.1
    rd := (addRole_old (by rw [h.rd]; decide)).trans h.rd
    rm := (addRole_old (by rw [h.rm]; decide)).trans h.rm
    rl := fun g hg => addRole_own hg (hown g hg).1
    disk := by
      have := (hb0 d (h.lt d (by rw [h.rd]; decide)) (by rw [h.rd]; decide)).trans h.disk
      rw [setCell_same this]
      rfl
    map := h.map.block ((Below.heap_setCell _ _ _ _ (fun e => by have := h.rm; rw [show m = d from e, h.rd] at this; cases this)).trans (hb0 m (h.lt m (by rw [h.rm]; decide)) (by rw [h.rm]; decide)))
    loose := by
      have := ownsRow_block (w' := w5.setCell ⟨d, 1, none⟩ v2) ha.own fun g hg => Below.heap_setCell _ _ _ _ (hown g hg).2.2
      rw [looseCells_append, List.length_append]
      exact this
    file := fun p hp => by
      have h4 := (h.file p hp).1
      refine (h.file p hp).keep' (fun k hk => addRole_old ?_) fun k hk => ?_
      · rcases hk with rfl | hk
        · rw [h4]; decide
        · omega
      · have h0 : role k ≠ 0 ∧ role k ≠ 3 ∧ k ≠ d := by
          rcases hk with rfl | hk
          · exact ⟨by rw [h4]; decide, by rw [h4]; decide, fun e => by rw [e, h.rd] at h4; cases h4⟩
          · exact ⟨by omega, by omega, fun e => by rw [e, h.rd] at hk; omega⟩
        exact (Below.heap_setCell _ _ _ _ h0.2.2).trans (hb0 k (h.lt k h0.1) h0.2.1) }

def newRole (role : Nat → Nat) (i : Nat) (k : Nat) : Nat := if k = i then 4 else role k
theorem DiskIn.newFile {role : Nat → Nat} {w w3 : World} {d m : Nat} {lv : Value} {S : SD} (h : DiskIn role w d m lv S) {nm : List UInt8} (hmap : MapIs w3 m (sins (nm, w.heap.size) (ers nm S.ids)))
    (hg : (w.alloc (.cells #[.slice none 0 0, .int .i64 0, .bool false] 103)).grownBy w3 (some m)) : DiskIn (newRole role w.heap.size) w3 d m lv { S with files := sins (nm, ⟨w.heap.size, [], 0, false⟩) (ers nm S.files) } := by
  have hsz : w.heap.size + 1 ≤ w3.heap.size := by have := hg.size; simpa using this
  have hold : ∀ k, role k ≠ 0 → newRole role w.heap.size k = role k := fun k hk => by
    unfold newRole
    rw [if_neg (fun e => by have := h.lt k hk; omega)]
  have hb : ∀ k, k < w.heap.size → k ≠ m → w3.heap[k]? = w.heap[k]? := fun k hk hne => (hg.block k (by simp; omega) (fun e => hne (by cases e; rfl))).trans (Below.heap_alloc w _ k hk)
  have hml := h.lt m (by rw [h.rm]; decide)
  exact {
    lt := fun k hk => by
      unfold newRole at hk
      split at hk
      · omega
      · have := h.lt k hk; omega
    rd := (hold d (by rw [h.rd]; decide)).trans h.rd
    rm := (hold m (by rw [h.rm]; decide)).trans h.rm
    rl := fun g hg => (hold g (by rw [h.rl g hg]; decide)).trans (h.rl g hg)
    disk := (hb d (h.lt d (by rw [h.rd]; decide)) (fun e => by have := h.rd; rw [e, h.rm] at this; cases this)).trans h.disk
    map := by
      have e : SD.ids { S with files := sins (nm, ⟨w.heap.size, [], 0, false⟩) (ers nm S.files) } = sins (nm, w.heap.size) (ers nm S.ids) := by
        show (sins _ _).map idp = _
        rw [show idp = fun x : List UInt8 × SF => (x.1, SF.id x.2) from rfl, sins_map, ers_map]
        rfl
      rw [e]
      exact hmap
    loose := ownsRow_block h.loose fun g hg => hb g (h.lt g (by rw [h.rl g hg]; decide)) (fun e => by have := h.rl g hg; rw [e, h.rm] at this; cases this)
    file := fun p hp => by
      rcases mem_sins.1 hp with rfl | hp
      · refine ⟨by unfold newRole; rw [if_pos rfl], _, fun g hg => by simp [Value.ownBlock] at hg, (hg.block _ (by simp) (fun e => by simp at e; omega)).trans (heap_alloc_new w _), World.ownsRow_nil _ _ _ _⟩
      · have hf := h.file p (mem_ers.1 hp).1
        have h4 := hf.1
        refine hf.keep' (fun k hk => hold k ?_) fun k hk => ?_
        · rcases hk with rfl | hk
          · rw [h4]; decide
          · omega
        · rcases hk with rfl | hk
          · exact hb _ (h.lt _ (by rw [h4]; decide)) (fun e => by rw [e, h.rm] at h4; cases h4)
          · exact hb _ (h.lt _ (by omega)) (fun e => by rw [e, h.rm] at hk; omega) }
end Go.Proofs.Ytkefciacdmbidaa
