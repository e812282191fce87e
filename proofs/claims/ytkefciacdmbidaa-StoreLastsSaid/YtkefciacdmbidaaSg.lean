/- forget, Sync, Remove: contracts of package store. -/
import Derived.Test.YtkefciacdmbidaaSf
namespace Go.Proofs.Ytkefciacdmbidaa
open Go.RowKit Go.WideMaps Go.Maps

/-- w' is w but for new blocks and for blocks that may turn -/
structure Same (keep : Nat → Prop) (w w' : World) : Prop where
  os : w'.os = w.os
  tape : w'.tape = w.tape
  output : w'.output = w.output
  size : w.heap.size ≤ w'.heap.size
  block : ∀ k, k < w.heap.size → keep k → w'.heap[k]? = w.heap[k]?

theorem Same.refl (keep : Nat → Prop) (w : World) : Same keep w w := ⟨rfl, rfl, rfl, Nat.le_refl _, fun _ _ _ => rfl⟩
theorem Same.trans {keep : Nat → Prop} {w w' w'' : World} (h : Same keep w w') (h' : Same keep w' w'') : Same keep w w'' :=
  ⟨h'.os.trans h.os, h'.tape.trans h.tape, h'.output.trans h.output, Nat.le_trans h.size h'.size, fun k hk hp => (h'.block k (Nat.lt_of_lt_of_le hk h.size) hp).trans (h.block k hk hp)⟩
theorem Same.mono {keep keep' : Nat → Prop} {w w' : World} (h : Same keep w w') (hk : ∀ k, k < w.heap.size → keep' k → keep k) : Same keep' w w' :=
  ⟨h.os, h.tape, h.output, h.size, fun k hlt hp => h.block k hlt (hk k hlt hp)⟩
theorem Same.of_grown {w w' : World} {row : Option Nat} (h : w.grownBy w' row) : Same (fun k => some k ≠ row) w w' := ⟨h.os, h.tape, h.output, h.size, h.block⟩
theorem Same.of_below {w w' : World} (h : Below w.heap.size w w') (keep : Nat → Prop) : Same keep w w' := ⟨h.os, h.tape, h.output, h.size, fun k hk _ => h.block k hk⟩
theorem Same.setCell (w : World) (g o : Nat) (v : Value) : Same (fun k => k ≠ g) w (w.setCell ⟨g, o, none⟩ v) := (Same.of_grown (setCell_grown w g o v)).mono fun k _ h e => h (by cases e; rfl)
theorem Same.alloc (w : World) (o : Obj) (keep : Nat → Prop) : Same keep w (w.alloc o) := ⟨rfl, rfl, rfl, by simp, fun k hk _ => Below.heap_alloc w o k hk⟩

theorem FileAt.cells {role : Nat → Nat} {w : World} {f : SF} (h : FileAt role w f) : IsCells w f.id := by
  obtain ⟨_, dv, _, h, _⟩ := h
  exact ⟨_, _, h⟩

theorem upd_of {role role' : Nat → Nat} {w w' : World} (hs : Same (fun k => role k = 0) w w') (hr : ∀ k, k < w.heap.size → role k = 0 → role' k = 0) : Upd (fun k => role k ≠ 0) (fun k => role' k ≠ 0) w w' where
  os := hs.os
  tape := hs.tape
  output := hs.output
  size := hs.size
  block k hk hF := hs.block k hk (by simpa using hF)
  sub k hk := by
    rcases Nat.lt_or_ge k w.heap.size with h | h
    · exact Or.inl fun h0 => hk (hr k h h0)
    · exact Or.inr h

theorem Upd.congr {F F' G G' : Nat → Prop} {w w' : World} (h : Upd F F' w w') (h1 : ∀ k, F k ↔ G k) (h2 : ∀ k, G' k ↔ F' k) : Upd G G' w w' :=
  ⟨h.os, h.tape, h.output, h.size, fun k hk hG => h.block k hk fun hF => hG ((h1 k).1 hF), fun k hk => (h.sub k ((h2 k).1 hk)).imp (h1 k).1 id⟩

theorem DiskIn.setLoose {role : Nat → Nat} {w w1 : World} {d m : Nat} {lv lv' : Value} {S : SD} {l : List (Nat × Nat)} (h : DiskIn role w d m lv S) (hs : w.heap.size ≤ w1.heap.size) (hb : ∀ k, k < w.heap.size → role k ≠ 3 → w1.heap[k]? = w.heap[k]?)
    (hr : ∀ g, lv'.ownBlock = some g → role g = 3) (hrow : w1.ownsRow 0 105 2 lv' l.length (looseCells l)) : DiskIn role (w1.setCell ⟨d, 1, none⟩ lv') d m lv' { S with loose := l } where
  lt k hk := by
    have := h.lt k hk
    simp [World.setCell]
    omega
  rd := h.rd
  rm := h.rm
  rl := hr
  disk := by
    have := (hb d (h.lt d (by rw [h.rd]; decide)) (by rw [h.rd]; decide)).trans h.disk
    rw [setCell_same this]
    rfl
  map := by
    have hlt := h.lt m (by rw [h.rm]; decide)
    refine h.map.block ((Below.heap_setCell _ _ _ _ ?_).trans (hb m hlt (by rw [h.rm]; decide)))
    intro e
    have := h.rm
    rw [show m = d from e, h.rd] at this
    cases this
  loose := ownsRow_block hrow fun g hg => Below.heap_setCell _ _ _ _ (by
    intro e
    have := hr g hg
    rw [show g = d from e, h.rd] at this
    cases this)
  file p hp := (h.file p hp).keep (fun _ _ => rfl) fun k hk => by
    have h0 : role k ≠ 0 := by omega
    refine (Below.heap_setCell _ _ _ _ ?_).trans (hb k (h.lt k h0) (by omega))
    intro e
    rw [show k = d from e, h.rd] at hk
    omega

def ForgetPost (role : Nat → Nat) (w : World) (d m : Nat) (S : SD) (i : Nat) (e : Ending) (w' : World) : Prop :=
  e = .returned (.tuple #[]) ∧ ∃ lv', DiskIn role w' d m lv' { S with loose := keepL i S.loose } ∧ Same (fun k => k ≠ d ∧ role k ≠ 3) w w'

theorem forget_any {role : Nat → Nat} {w : World} {d m : Nat} {lv : Value} {S : SD} (hd : DiskIn role w d m lv S) (i : Nat) (hi : IsCells w i) (hid : role i ≠ 3) (hin : ∀ p ∈ S.loose, role p.1 = 4 ∧ IsCells w p.1) (hlen : S.loose.length ≤ 16777216) :
    Calls Try.prog 78 #[.pointer (some ⟨d, 0, none⟩), .pointer (some ⟨i, 0, none⟩)] w (ForgetPost role w d m S i) := by
  have hdl := hd.lt d (by rw [hd.rd]; decide)
  have c1 : (w.alloc (.cells #[.pointer (some ⟨i, 0, none⟩)] 101)).cell? ⟨d, 1, none⟩ = some lv := cell_alloc hd.c1
  have hdel := delete_any i w.heap.size S.loose lv (w.alloc (.cells #[.pointer (some ⟨i, 0, none⟩)] 101)) (by rw [cell_of (heap_alloc_new w _)]; rfl) (hd.loose.alloc _) hlen (hi.alloc _) (fun p hp => (hin p hp).2.alloc _) (fun g hg => by
    have h1 := hd.rl g hg
    have h2 := hd.lt g (by rw [h1]; decide)
    refine ⟨by omega, fun e => hid (by rw [← e]; exact h1), fun p hp e => ?_⟩
    have := (hin p hp).1
    rw [e] at this
    omega)
  have Hdel := Lib.hid hdel
  have Hd := Lib.hid hd
  clear hdel hd hin hi
  unfold delF at Hdel
  go_enter Try.func78, Try.ntmps78
  go_wp2_with fail
  refine Hdel.out.mono ?_
  rintro e w1 ⟨lv', rfl, hob, hrow, hgr⟩
  have hblk : ∀ k, k < w.heap.size → role k ≠ 3 → w1.heap[k]? = w.heap[k]? := fun k hk h3 =>
    (hgr.block k (by simp; omega) (fun e => h3 (Hd.out.rl k e.symm))).trans (Below.heap_alloc w _ k hk)
  have hb := (hblk d hdl (by rw [Hd.out.rd]; decide)).trans Hd.out.disk
  have c2 : w1.cell? ⟨d, 1, none⟩ = some lv := by rw [cell_of hb]; rfl
  have z2 : w1.frozen? ⟨d, 1, none⟩ = false := free_of hb _
  have Hob := Lib.hid hob
  have Hrow := Lib.hid hrow
  have Hgr := Lib.hid hgr
  have Hblk := Lib.hid hblk
  have Hb := Lib.hid hb
  obtain ⟨A, c, hlv, -⟩ := ownsRow_slice hrow
  clear hob hrow hgr hblk hb
  subst hlv
  go_wp2
  go_end0
  refine ⟨rfl, _, Hd.out.setLoose (w1 := w1) (Nat.le_trans (by simp) Hgr.out.size) Hblk.out (fun g hg => Hd.out.rl g (Hob.out ▸ hg)) Hrow.out, ?_⟩
  refine Same.trans (w' := w1) ⟨Hgr.out.os, Hgr.out.tape, Hgr.out.output, Nat.le_trans (by simp) Hgr.out.size, fun k hk h => Hblk.out k hk h.2⟩ ((Same.setCell w1 d 1 _).mono fun k _ h => h.1)
end Go.Proofs.Ytkefciacdmbidaa
