/- Write: the walk. -/
import Derived.Test.YtkefciacdmbidaaSk
namespace Go.Proofs.Ytkefciacdmbidaa
open Go.RowKit Go.WideMaps Go.Maps

def SD.write (S : SD) (i : Nat) (nm : List UInt8) (xs : List Int) : SD :=
  match getF nm S.files with
  | some f => { S with files := updF f.id (fun _ => { f with data := f.data ++ xs }) S.files, loose := S.loose ++ [(f.id, xs.length)] }
  | none => { S with files := sins (nm, ⟨i, xs, 0, false⟩) (ers nm S.files), loose := S.loose ++ [(i, xs.length)] }
def SD.werr (S : SD) (nm : List UInt8) (n : Nat) : Int := if goodName nm then (if S.limit < S.size + n then 21 else 0) else 10

def WritePost (F : Nat → Prop) (w : World) (d : Nat) (S : SD) (nm : List UInt8) (xs : List Int) (e : Ending) (w' : World) : Prop :=
  e = .returned (.int .i64 (S.werr nm xs.length)) ∧ ∃ F' i, (∀ p ∈ S.files, p.2.id ≠ i) ∧ DiskAt F' w' d (if S.werr nm xs.length = 0 then S.write i nm xs else S) ∧ Upd F F' w w'

/-- bytes that lie outside of a footprint -/
structure Outside (F : Nat → Prop) (w : World) (v : Value) (xs : List Int) : Prop where
  bytes : BytesAt w v xs
  out : ∀ ad n c, v = .slice (some ad) n c → 0 < n → ¬ F ad.block ∧ ad.block < w.heap.size

theorem Outside.same {F : Nat → Prop} {w w' : World} {v : Value} {xs : List Int} (h : Outside F w v xs) (hs : Same (fun k => ¬ F k) w w') : BytesAt w' v xs := by
  rcases h.bytes with h1 | ⟨ad, c, rfl, hc, hl, hcell, h1⟩
  · exact Or.inl h1
  · refine Or.inr ⟨ad, c, rfl, hc, hl, fun j u hj => ?_, h1⟩
    obtain ⟨h2, h3⟩ := h.out ad _ c rfl (by
      have := (List.getElem?_eq_some_iff.1 hj).1
      simp at this
      omega)
    have h4 := hcell j u hj
    have e : (ad.add j).block = ad.block := by unfold Addr.add; split <;> rfl
    rw [World.cell?_of_block (w := w) (by rw [e]; exact hs.block _ h3 h2)]
    exact h4

theorem write_bad {F : Nat → Prop} {d : Nat} {S : SD} {w : World} (hd : DiskAt F w d S) (nm : ByteArray) (hn : nm.size ≤ maxLen) (v : Value) (xs : List Int) (hr : goodName nm.data.toList = false) :
    Calls Try.prog 49 #[.pointer (some ⟨d, 0, none⟩), .string nm, v] w (WritePost F w d S nm.data.toList xs) := by
  have hright := right_any nm w hn
  rw [rightB_eq, hr] at hright
  have Hright := Lib.hid hright
  have Hr := Lib.hid hr
  have Hd := Lib.hid hd
  clear hright hr hd hn
  go_enter Try.func49, Try.ntmps49
  go_wp2_with fail
  refine Hright.out.mono ?_
  rintro e w' ⟨rfl, rfl⟩
  go_wp2
  go_ret
  have he : S.werr nm.data.toList xs.length = 10 := by unfold SD.werr; rw [Hr.out]; rfl
  have hfresh : ∀ p ∈ S.files, p.2.id ≠ w.heap.size := fun p hp e => by
    obtain ⟨role, m, lv, hd, _⟩ := Hd.out
    have := hd.lt p.2.id (by rw [(hd.file p hp).1]; decide)
    omega
  exact ⟨ret_int he.symm, F, w.heap.size, hfresh, by rw [he, if_neg (by decide)]; exact Hd.out, Upd.of_below (Below.refl _ _)⟩

theorem write_full {F : Nat → Prop} {d : Nat} {S : SD} {w : World} (hd : DiskAt F w d S) (hok : S.Ok) (nm : ByteArray) (hn : nm.size ≤ maxLen) (v : Value) (xs : List Int) (hv : ∃ A c, v = .slice A xs.length c) (hr : goodName nm.data.toList = true) (hf : S.limit < S.size + xs.length) :
    Calls Try.prog 49 #[.pointer (some ⟨d, 0, none⟩), .string nm, v] w (WritePost F w d S nm.data.toList xs) := by
  have hright := right_any nm w hn
  rw [rightB_eq, hr] at hright
  obtain ⟨A, c, rfl⟩ := hv
  have Hright := Lib.hid hright
  have Hr := Lib.hid hr
  have Hd := Lib.hid hd
  have Hroom := Lib.hid (room_any hd hok)
  have hlt : ((S.limit : Int) - S.size) < (xs.length : Int) := by omega
  have Hf := Lib.hid hf
  clear hright hr hd hn hok hf
  go_enter Try.func49, Try.ntmps49
  go_wp2_with fail
  refine Hright.out.mono ?_
  rintro e w' ⟨rfl, rfl⟩
  go_wp2_with fail
  refine Hroom.out.mono ?_
  rintro e w1 ⟨rfl, hb1⟩
  go_wp2
  go_ret
  have he : S.werr nm.data.toList xs.length = 21 := by unfold SD.werr; rw [Hr.out, if_pos rfl, if_pos Hf.out]
  have hfresh : ∀ p ∈ S.files, p.2.id ≠ w.heap.size := fun p hp e => by
    obtain ⟨role, m, lv, hd, _⟩ := Hd.out
    have := hd.lt p.2.id (by rw [(hd.file p hp).1]; decide)
    omega
  exact ⟨ret_int he.symm, F, w.heap.size, hfresh, by rw [he, if_neg (by decide)]; exact Hd.out.below hb1, Upd.of_below hb1⟩
end Go.Proofs.Ytkefciacdmbidaa
