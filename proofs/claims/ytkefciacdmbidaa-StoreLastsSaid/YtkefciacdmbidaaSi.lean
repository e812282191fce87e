/- Remove and Rename: contracts of package store. -/
import Derived.Test.YtkefciacdmbidaaSh
namespace Go.Proofs.Ytkefciacdmbidaa
open Go.RowKit Go.WideMaps Go.Maps

theorem DiskIn.setMap {role : Nat → Nat} {w w' : World} {d m : Nat} {lv : Value} {S : SD} (h : DiskIn role w d m lv S) (hs : w.heap.size ≤ w'.heap.size) (hb : ∀ k, k < w.heap.size → k ≠ m → w'.heap[k]? = w.heap[k]?)
    {L : List (List UInt8 × SF)} (hm : MapIs w' m (L.map idp)) (hL : ∀ p ∈ L, FileAt role w p.2) : DiskIn role w' d m lv { S with files := L } where
  lt k hk := Nat.lt_of_lt_of_le (h.lt k hk) hs
  rd := h.rd
  rm := h.rm
  rl := h.rl
  disk := (hb d (h.lt d (by rw [h.rd]; decide)) (fun e => by have := h.rd; rw [e, h.rm] at this; cases this)).trans h.disk
  map := hm
  loose := ownsRow_block h.loose fun g hg => hb g (h.lt g (by rw [h.rl g hg]; decide)) (fun e => by have := h.rl g hg; rw [e, h.rm] at this; cases this)
  file p hp := by
    have h4 := (hL p hp).1
    refine (hL p hp).keep (fun _ _ => rfl) fun k hk => hb k (h.lt k (by omega)) (fun e => by rw [e, h.rm] at hk; omega)

def SD.remove (S : SD) (nm : List UInt8) : SD :=
  match getF nm S.files with
  | none => S
  | some f => { S with files := ers nm S.files, loose := keepL f.id S.loose }

def RemovePost (role : Nat → Nat) (w : World) (d m : Nat) (n : Int) (S' : SD) (e : Ending) (w' : World) : Prop :=
  e = .returned (.int .i64 n) ∧ ∃ lv', DiskIn role w' d m lv' S' ∧ Same (fun k => k ≠ d ∧ k ≠ m ∧ role k ≠ 3) w w'

theorem remove_in {role : Nat → Nat} {d m : Nat} {lv : Value} {S : SD} {w : World} (hd : DiskIn role w d m lv S) (hin : ∀ p ∈ S.loose, role p.1 = 4 ∧ IsCells w p.1) (hlen : S.loose.length ≤ 16777216) (nm : ByteArray) (hn : nm.size ≤ maxLen) :
    Calls Try.prog 51 #[.pointer (some ⟨d, 0, none⟩), .string nm] w (RemovePost role w d m (errOf S nm.data.toList) (S.remove nm.data.toList)) := by
  have c0 := hd.c0
  have hlk := SD.lookup hd.map nm hn
  have Hn := Lib.hid hn
  cases hg : getF nm.data.toList S.files with
  | none =>
    rw [hg] at hlk
    have hlk' : (Instr.lookup 85 (.map (some m)) (.string nm) false).run Try.prog w = .ok (.pointer none) w := hlk
    have Hg := Lib.hid hg
    have Hd := Lib.hid hd
    clear hd hlk hg hn hlen hin
    go_enter Try.func51, Try.ntmps51
    go_wp2
    go_ret
    refine ⟨ret_int (by unfold errOf; rw [Hg.out]; rfl), lv, ?_, Same.refl _ _⟩
    unfold SD.remove
    rw [Hg.out]
    exact Hd.out
  | some f =>
    rw [hg] at hlk
    have hlk' : (Instr.lookup 85 (.map (some m)) (.string nm) false).run Try.prog w = .ok (.pointer (some ⟨f.id, 0, none⟩)) w := hlk
    have hmem := getF_some hg
    have hfile := hd.file _ hmem
    have hmap := hd.map
    have Hg := Lib.hid hg
    have Hd := Lib.hid hd
    have Hm := Lib.hid hmem
    have Hin := Lib.hid hin
    have Hfile := Lib.hid hfile
    have Hlen := Lib.hid hlen
    clear hd hlk hg hn hmem hin hfile hlen
    go_enter Try.func51, Try.ntmps51
    go_wp2_with (first | (at_delete; refine wpList_files_delete _ rfl _ _ rfl hmap nm Hn.out rfl rfl ?_))
    intro w1 hmap1 hg1 hs1
    have hb1 : ∀ k, k < w.heap.size → k ≠ m → w1.heap[k]? = w.heap[k]? := fun k hk hne => hg1.block k hk (fun e => hne (by cases e; rfl))
    have hd1 : DiskIn role w1 d m lv { S with files := ers nm.data.toList S.files } := Hd.out.setMap (by omega) hb1 (by rw [ers_idp]; exact hmap1) (fun p hp => Hd.out.file p (mem_ers.1 hp).1)
    have hne : ∀ k, role k = 4 → k ≠ m := fun k h4 e => by rw [e, Hd.out.rm] at h4; cases h4
    have hcall := forget_any hd1 f.id (Hfile.out.cells.block (hb1 _ Hfile.out.cells.lt (hne _ Hfile.out.1))) (by rw [Hfile.out.1]; decide) (fun p hp => ⟨(Hin.out p hp).1, (Hin.out p hp).2.block (hb1 _ (Hin.out p hp).2.lt (hne _ (Hin.out p hp).1))⟩) Hlen.out
    have Hcall := Lib.hid hcall
    have Hs1 := Lib.hid hs1
    have Hg1 := Lib.hid hg1
    clear hd1 hcall hb1 hg1 hne hs1 hmap1
    go_wp2_with fail
    refine Hcall.out.mono ?_
    rintro e w2 ⟨rfl, lv', hd2, hs2⟩
    have Hd2 := Lib.hid hd2
    have Hs2 := Lib.hid hs2
    clear hd2 hs2
    go_wp2
    go_ret
    refine ⟨ret_int (by unfold errOf; rw [Hg.out]; rfl), lv', ?_, ?_⟩
    · unfold SD.remove
      rw [Hg.out]
      exact Hd2.out
    · exact ((Same.of_grown Hg1.out).mono fun k _ h e => h.2.1 (by cases e; rfl)).trans (Hs2.out.mono fun k _ h => ⟨h.1, h.2.2⟩)

theorem remove_any {F : Nat → Prop} {d : Nat} {S : SD} {w : World} (hd : DiskAt F w d S) (hok : S.Ok) (hlen : S.loose.length ≤ 16777216) (nm : ByteArray) (hn : nm.size ≤ maxLen) :
    Calls Try.prog 51 #[.pointer (some ⟨d, 0, none⟩), .string nm] w (DiskPost F w d (errOf S nm.data.toList) (S.remove nm.data.toList)) := by
  obtain ⟨role, m, lv, hd, hF⟩ := hd
  refine (remove_in hd (hok.looseCells hd) hlen nm hn).mono ?_
  rintro e w' ⟨rfl, lv', hd', hs'⟩
  refine ⟨rfl, F, ⟨role, m, lv', hd', hF⟩, (upd_of (role := role) (role' := role) ?_ (fun _ _ h => h)).congr (fun k => (hF k).symm) (fun k => hF k)⟩
  exact hs'.mono fun k _ h => ⟨fun e => (by rw [e, hd.rd] at h; cases h), fun e => (by rw [e, hd.rm] at h; cases h), by rw [h]; decide⟩
end Go.Proofs.Ytkefciacdmbidaa
