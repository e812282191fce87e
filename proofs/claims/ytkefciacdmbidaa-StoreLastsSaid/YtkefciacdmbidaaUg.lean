/- What the laws of store share: a disk under way, names, rows of bytes. -/
import Derived.Test.YtkefciacdmbidaaUf
namespace Go.Proofs.Ytkefciacdmbidaa
open Go.RowKit Go.WideMaps Go.Maps

/-- a disk of a law, behind k calls -/
structure DS (w0 wr : World) (d : Nat) (F : Nat → Prop) (S : SD) (k : Nat) : Prop where
  disk : DiskAt F wr d S
  ok : S.Ok
  nf : S.files.length ≤ k
  nl : S.loose.length ≤ k
  fb : ∀ k, F k → w0.heap.size ≤ k
  below : Below w0.heap.size w0 wr

theorem DS.step {w0 wr w' : World} {d : Nat} {F : Nat → Prop} {S : SD} {k : Nat} (h : DS w0 wr d F S k) (hb : Below wr.heap.size wr w') : DS w0 w' d F S k :=
  ⟨h.disk.below hb, h.ok, h.nf, h.nl, h.fb, h.below.trans (hb.mono h.below.size)⟩

theorem DS.act {w0 wr w' : World} {d : Nat} {F F' : Nat → Prop} {S : SD} {k : Nat} (h : DS w0 wr d F S k) {c : CallM} {i : Nat} (hi : ∀ p ∈ S.files, p.2.id ≠ i) (hd : DiskAt F' w' d (S.act i c).2) (hu : Upd F F' wr w') : DS w0 w' d F' (S.act i c).2 (k + 1) := by
  have hs := act_sizes S i c
  exact ⟨hd, act_ok h.ok hi c, Nat.le_trans hs.1 (Nat.succ_le_succ h.nf), Nat.le_trans hs.2 (Nat.succ_le_succ h.nl), hu.fb h.fb h.below.size, h.below.trans (hu.below h.fb h.below.size)⟩

theorem DS.crash {w0 wr w' : World} {d : Nat} {F F' : Nat → Prop} {S : SD} {k : Nat} (h : DS w0 wr d F S k) {keep : Int} (hd : DiskAt F' w' d (S.crash keep)) (hu : Upd F F' wr w') : DS w0 w' d F' (S.crash keep) k := by
  have h1 := finish_length (cred S.loose keep S.files).2
  rw [cred_length] at h1
  exact ⟨hd, crash_ok h.ok keep, Nat.le_trans h1 h.nf, Nat.zero_le _, hu.fb h.fb h.below.size, h.below.trans (hu.below h.fb h.below.size)⟩

theorem CallAt.outside {w0 wr : World} {d : Nat} {F : Nat → Prop} {S : SD} {k b off : Nat} {c : CallM} (h : CallAt w0 w0.heap.size b off c) (hd : DS w0 wr d F S k) : Outside F wr c.dv c.data :=
  ⟨(h.below hd.below).data, fun ad n k e h0 => by
    have := h.low ad n k e h0
    exact ⟨fun hF => by have := hd.fb _ hF; omega, Nat.lt_of_lt_of_le this hd.below.size⟩⟩

/-! names -/
def nameBs (S : SD) : List ByteArray := S.files.map fun p => ⟨p.1.toArray⟩
theorem nameBs_map (S : SD) : (nameBs S).map Value.string = S.files.map fun p => nameV p.1 := by
  unfold nameBs
  rw [List.map_map]
  rfl
theorem nameBs_length (S : SD) : (nameBs S).length = S.files.length := by simp [nameBs]

theorem getF_mem {α : Type} {L : List (List UInt8 × α)} (h : L.Pairwise (fun p q => p.1 ≠ q.1)) {k : List UInt8} {a : α} (hm : (k, a) ∈ L) : getF k L = some a := by
  cases hg : getF k L with
  | none => exact absurd rfl (getF_none hg _ hm)
  | some b =>
    have := pair_one (g := Prod.fst) h (getF_some hg) hm rfl
    simp only [Prod.mk.injEq] at this
    rw [this.2]

/-- the row of names that Names has made -/
structure NamesAt (F : Nat → Prop) (w : World) (A : Option Addr) (n c : Nat) (S : SD) : Prop where
  own : w.ownsRow 0 9 1 (.slice A n c) n ((nameBs S).map Value.string)
  out : ∀ g, (Value.slice A n c).ownBlock = some g → ¬ F g
  len : n = S.files.length

theorem one_string (xs : List ByteArray) : ∀ u ∈ xs.map Value.string, u.oneCell' = true := by simp [Value.oneCell']

theorem NamesAt.same {F : Nat → Prop} {w w' : World} {A : Option Addr} {n c : Nat} {S : SD} (h : NamesAt F w A n c S) (hs : Same (fun k => ¬ F k) w w') : NamesAt F w' A n c S :=
  ⟨ownsRow_block h.own fun g hg => hs.block g (h.own.lt g hg).2 (h.out g hg), h.out, h.len⟩
theorem NamesAt.below {F : Nat → Prop} {w w' : World} {A : Option Addr} {n c : Nat} {S : SD} (h : NamesAt F w A n c S) (hb : Below w.heap.size w w') : NamesAt F w' A n c S := h.same (Same.of_below hb _)
theorem NamesAt.texts {F : Nat → Prop} {w : World} {A : Option Addr} {n c : Nat} {S : SD} (h : NamesAt F w A n c S) : TextsAt w (.slice A n c) (nameBs S) := by
  have := ownsRow_srcs h.own (one_string _)
  rw [h.len, ← nameBs_length S] at this
  rw [h.len, ← nameBs_length S]
  exact this

theorem NamesAt.made {F : Nat → Prop} {w w' : World} {d : Nat} {S : SD} {v : Value} (hd : DiskAt F w d S) (h : w'.ownsRow w.heap.size 9 1 v S.files.length (S.files.map fun p => nameV p.1)) : ∃ A c, v = .slice A S.files.length c ∧ NamesAt F w' A S.files.length c S := by
  obtain ⟨A, c, rfl, _⟩ := ownsRow_slice h
  refine ⟨A, c, rfl, by rw [nameBs_map]; exact ownsRow_base0 h, fun g hg hF => ?_, rfl⟩
  have h1 := (h.lt g hg).1
  have h2 := hd.lt g hF
  omega

theorem NamesAt.at_ {F : Nat → Prop} {w : World} {A : Option Addr} {n c : Nat} {S : SD} (h : NamesAt F w A n c S) {k : Nat} (hk : k < n) : ∃ g, A = some ⟨g, 0, none⟩ ∧ g < w.heap.size ∧ ¬ F g ∧ w.cell? ⟨g, k, none⟩ = some (.string ⟨(S.files[k]'(by rw [← h.len]; exact hk)).1.toArray⟩) := by
  have hl := h.len
  rcases h.own.2 with ⟨e, e2⟩ | ⟨g, cap, cur, e, _⟩
  · omega
  · cases e
    refine ⟨g, rfl, (h.own.lt g rfl).2, h.out g rfl, ?_⟩
    have := h.own.cells (g := g) rfl k (.string ⟨(S.files[k]'(by rw [← hl]; exact hk)).1.toArray⟩) (by simp [nameBs, show k < S.files.length by omega])
    rw [add0] at this
    exact this

/-- the data of the k-th file -/
theorem SD.data_at {S : SD} (h : S.Ok) {k : Nat} (hk : k < S.files.length) : S.data S.files[k].1 = S.files[k].2.data ∧ (getF S.files[k].1 S.files).isSome = true := by
  have := getF_mem h.names_ne (k := S.files[k].1) (a := S.files[k].2) (List.getElem_mem hk)
  unfold SD.data
  rw [this]
  exact ⟨rfl, rfl⟩

/-! a crash that nothing follows -/
theorem finish_again {L : Files} (h : ∀ p ∈ L, p.2.safe ≤ p.2.data.length) : finish (finish L) = finish L := by
  unfold finish
  rw [List.filter_map, List.map_map]
  have e : ((fun p : List UInt8 × SF => p.2.stays) ∘ fun p : List UInt8 × SF => (p.1, trunc p.2)) = fun p : List UInt8 × SF => p.2.stays := by funext p; rfl
  rw [e, List.filter_filter]
  have e2 : (fun a : List UInt8 × SF => a.2.stays && a.2.stays) = fun a => a.2.stays := by funext a; cases a.2.stays <;> rfl
  rw [e2]
  apply List.map_congr_left
  intro p hp
  have := h p (List.mem_filter.1 hp).1
  simp [trunc, List.take_take]
theorem crash_twice {S : SD} (h : S.Ok) (a b : Int) : (S.crash a).crash b = S.crash a := by
  have hinv := cred_inv h a
  have := finish_again (L := (cred S.loose a S.files).2) fun p hp => Nat.le_trans (Nat.le_add_right _ _) (hinv.safe p hp)
  show SD.mk (finish (cred [] b (finish (cred S.loose a S.files).2)).2) [] S.limit = SD.mk (finish (cred S.loose a S.files).2) [] S.limit
  rw [show (cred [] b (finish (cred S.loose a S.files).2)).2 = finish (cred S.loose a S.files).2 from rfl, this]
end Go.Proofs.Ytkefciacdmbidaa
