/- The small functions of package store: what they answer. -/
import Derived.Test.YtkefciacdmbidaaSd
namespace Go.Proofs.Ytkefciacdmbidaa
open Go.RowKit Go.WideMaps Go.Maps

theorem ret_int {k : IntKind} {a b : Int} (h : a = b) : Ending.returned (.int k a) = .returned (.int k b) := by rw [h]
theorem ret_bool {a b : Bool} (h : a = b) : Ending.returned (.bool a) = .returned (.bool b) := by rw [h]

def rightB (nm : ByteArray) : Bool := decide (1 ≤ nm.size ∧ nm.size ≤ 16)

theorem isEmpty_size (nm : ByteArray) : nm.toList.isEmpty = decide (nm.size = 0) := by
  have : nm.toList.length = nm.size := by
    rw [Lib.toList_data]
    rfl
  cases h : nm.toList with
  | nil => rw [h] at this; simp at this; simp [← this]
  | cons a r =>
    rw [h] at this
    simp at this
    have h0 : ¬ nm.size = 0 := by omega
    simp [h0]

theorem right_any (nm : ByteArray) (w : World) (h : nm.size ≤ maxLen) :
    Calls Try.prog 77 #[.string nm] w fun e w' => e = .returned (.bool (rightB nm)) ∧ w = w' := by
  unfold maxLen at h
  have hE := Lib.hid (isEmpty_size nm)
  go_enter Try.func77, Try.ntmps77
  go_wp2
  · go_ret
    refine ⟨ret_bool ?_, rfl⟩
    have h1 : nm.toList = [] := by assumption
    have h2 : nm.toList.isEmpty = true := by rw [h1]; rfl
    rw [hE.out] at h2
    simp at h2
    simp [rightB, h2]
  · go_ret
    refine ⟨ret_bool ?_, rfl⟩
    rw [hE.out, rightB]
    by_cases h0 : nm.size = 0
    · simp [h0]
    · by_cases h1 : nm.size ≤ 16 <;> simp [h0, h1] <;> omega

def IsSize (w : World) (S : SD) (e : Ending) (w' : World) : Prop := e = .returned (.int .i64 S.size) ∧ Below w.heap.size w w'

theorem lens_ers {L : List (List UInt8 × SF)} (hp : L.Pairwise (fun p q => p.1 ≠ q.1)) {k : List UInt8} {f : SF} (h : (k, f) ∈ L) : lens L = f.data.length + lens (ers k L) := sum_ers (fun p : List UInt8 × SF => p.2.data.length) hp h

set_option maxHeartbeats 400000 in
theorem size_any {F : Nat → Prop} {d : Nat} {S : SD} {w : World} (hd : DiskAt F w d S) (hok : S.Ok) :
    Calls Try.prog 26 #[.pointer (some ⟨d, 0, none⟩)] w (IsSize w S) := by
  obtain ⟨role, m, lv, hd, -⟩ := hd
  have c0 := hd.c0
  have hmap := hd.map
  have hlim : S.size ≤ 16777216 := Nat.le_trans hok.room hok.limit
  have H := Lib.hid hd
  have Hok := Lib.hid hok
  clear hd hok
  go_enter Try.func26, Try.ntmps26
  go_wp2_with (first
    | (at_range; refine wpList_files_range _ rfl _ rfl rfl hmap ?_; intro w0 hrg0 hg0 hs0))
  go_frame
  go_loopw [3] (fun n wr => ∃ rf : List (List UInt8 × SF), RangeIs wr m w.heap.size S.ids (rf.map idp) ∧ Below w.heap.size w wr ∧ (∀ p ∈ rf, p ∈ S.files) ∧ rf.Pairwise (fun p q => p.1 ≠ q.1) ∧ lens rf ≤ S.size ∧ n = .int .i64 ((S.size : Int) - lens rf))
    (fun _ wr => wr.rangeLeft m w.heap.size)
  case atStart => exact ⟨S.files, hrg0, (Below.refl _ _).grown hg0 (Nat.le_refl _) (by simp), fun _ h => h, Hok.out.names_ne, Nat.le_refl _, by simp [SD.size]⟩
  case round =>
    obtain ⟨rf, hrg, hnx, hin, hpw, hle, rfl⟩ := hrel
    have HIn := Lib.hid hin
    clear hin
    go_wp2_with (first
      | (at_next; refine wpList_files_next _ rfl _ rfl rfl hrg ?_ ?_))
    · intro hr0
      go_wp2
      go_ret
      have : rf = [] := by simpa using hr0.nil
      subst this
      exact ⟨ret_int (by simp [lens]), hnx⟩
    · intro s i w1 hst
      obtain ⟨f, hf, rfl⟩ := mem_idp hst.mem
      have hnx1 : Below w.heap.size w w1 := hnx.grown hst.grown hnx.size (fun j hj => by cases hj; exact Nat.le_refl _)
      have hen := hst.entry
      obtain ⟨-, dv, -, hb, hrow⟩ := H.out.file _ (HIn.out _ hf)
      obtain ⟨A, c, rfl, hc⟩ := ownsRow_slice hrow
      have hlt := (Array.getElem?_eq_some_iff.1 hb).1
      have hb1 := (hnx1.block f.id hlt).trans hb
      have c1 : w1.cell? ⟨f.id, 0, none⟩ = some (.slice A f.data.length c) := by rw [cell_of hb1]; rfl
      have hsum := lens_ers hpw hf
      have hl2 : lens (ers s.data.toList rf) ≤ S.size := by omega
      have Hb := Lib.hid hb
      have Hb1 := Lib.hid hb1
      have Hrow := Lib.hid hrow
      have Hst := Lib.hid hst
      have Hsum := Lib.hid hsum
      have Hf := Lib.hid hf
      clear hb hb1 hrow hst hsum hf
      have hl3 : (f.data.length : Int) ≤ (S.size : Int) := by have := Hsum.out; omega
      go_wp2
      refine ⟨⟨ers s.data.toList rf, by rw [ers_idp]; exact Hst.out.range, hnx1, fun p hp => HIn.out p (mem_ers.1 hp).1, ers_pairwise hpw _, hl2, ?_⟩, Hst.out.left⟩
      have := Hsum.out
      congr 1
      omega

theorem room_any {F : Nat → Prop} {d : Nat} {S : SD} {w : World} (hd : DiskAt F w d S) (hok : S.Ok) :
    Calls Try.prog 28 #[.pointer (some ⟨d, 0, none⟩)] w fun e w' => e = .returned (.int .i64 ((S.limit : Int) - S.size)) ∧ Below w.heap.size w w' := by
  have hsz : ∀ w0 : World, w0.heap = w.heap → Calls Try.prog 26 #[.pointer (some ⟨d, 0, none⟩)] w0 (IsSize w0 S) := fun w0 h0 => size_any (hd.keep (by rw [h0]; exact Nat.le_refl _) (fun k _ => by rw [h0])) hok
  obtain ⟨role, m, lv, hd, -⟩ := hd
  have hlim : S.size ≤ 16777216 := Nat.le_trans hok.room hok.limit
  have hlim2 : S.limit ≤ 16777216 := hok.limit
  have c2 := hd.c2
  have hdl := hd.lt d (by rw [hd.rd]; decide)
  have hcells : ∀ w0 w1 : World, Below w0.heap.size w0 w1 → w0.heap = w.heap → w1.cell? ⟨d, 2, none⟩ = some (.int .i64 S.limit) := fun w0 w1 hb h0 => by
    rw [hb.cell (p := ⟨d, 2, none⟩) (by rw [h0]; exact hdl)]
    rw [cell_of (by rw [h0]; exact hd.disk)]; rfl
  have H := Lib.hid hd
  have Hc := Lib.hid hcells
  have Hz := Lib.hid hsz
  clear hd hok hcells hsz
  have hwr : IntKind.i64.wrap ((S.limit : Int) - S.size) = (S.limit : Int) - S.size := IntWalk.i64_in _ (by omega)
  go_enter Try.func28, Try.ntmps28
  go_wp2_with fail
  go_region_with (go_at_call 26; refine (Hz.out _ ?_).mono ?_; exact rfl; rintro e w' ⟨rfl, hb⟩; have hx := Hc.out _ _ hb rfl)
  all_goals (go_wp2; go_ret; exact ⟨rfl, below_undrew hb⟩)
end Go.Proofs.Ytkefciacdmbidaa
