/- Rename: the contract of package store. -/
import Derived.Test.YtkefciacdmbidaaSi
namespace Go.Proofs.Ytkefciacdmbidaa
open Go.RowKit Go.WideMaps Go.Maps

def goodName (k : List UInt8) : Bool := decide (1 ≤ k.length ∧ k.length ≤ 16)
theorem rightB_eq (nm : ByteArray) : rightB nm = goodName nm.data.toList := by
  unfold rightB goodName
  have : nm.data.toList.length = nm.size := rfl
  rw [this]

def SD.rename (S : SD) (a b : List UInt8) : Int × SD :=
  if goodName b then
    match getF a S.files with
    | none => (12, S)
    | some f =>
      let S2 := SD.remove { S with files := ers a S.files } b
      (0, { S2 with files := sins (b, { f with stays := true }) (ers b S2.files) })
  else (10, S)

theorem DiskIn.other {role : Nat → Nat} {w w' : World} {d m : Nat} {lv : Value} {S : SD} (h : DiskIn role w d m lv S) {i : Nat} (hi : role i = 4) (hs : w.heap.size ≤ w'.heap.size) (hb : ∀ k, k < w.heap.size → k ≠ i → w'.heap[k]? = w.heap[k]?)
    (hne : ∀ p ∈ S.files, p.2.id ≠ i) : DiskIn role w' d m lv S where
  lt k hk := Nat.lt_of_lt_of_le (h.lt k hk) hs
  rd := h.rd
  rm := h.rm
  rl := h.rl
  disk := (hb d (h.lt d (by rw [h.rd]; decide)) (fun e => by have := h.rd; rw [e, hi] at this; cases this)).trans h.disk
  map := h.map.block (hb m (h.lt m (by rw [h.rm]; decide)) (fun e => by have := h.rm; rw [e, hi] at this; cases this))
  loose := ownsRow_block h.loose fun g hg => hb g (h.lt g (by rw [h.rl g hg]; decide)) (fun e => by have := h.rl g hg; rw [e, hi] at this; cases this)
  file p hp := by
    have h4 := (h.file p hp).1
    refine (h.file p hp).keep' (fun _ _ => rfl) fun k hk => ?_
    rcases hk with rfl | hk
    · exact hb _ (h.lt _ (by rw [h4]; decide)) (hne p hp)
    · exact hb _ (h.lt _ (by omega)) (fun e => by rw [e] at hk; omega)

theorem ids_ne {L : List (List UInt8 × SF)} (hids : L.Pairwise (fun p q => p.2.id ≠ q.2.id)) {p q : List UInt8 × SF} (hp : p ∈ L) (hq : q ∈ L) (h : p.2.id = q.2.id) : p = q := by
  induction L with
  | nil => simp at hp
  | cons x r ih =>
    obtain ⟨h1, h2⟩ := List.pairwise_cons.1 hids
    rcases List.mem_cons.1 hp with rfl | hp
    · rcases List.mem_cons.1 hq with rfl | hq
      · rfl
      · exact absurd h (h1 q hq)
    · rcases List.mem_cons.1 hq with e | hq
      · rw [e] at h ⊢
        exact absurd h.symm (h1 p hp)
      · exact ih h2 hp hq

theorem mem_remove {S : SD} {b : List UInt8} {p : List UInt8 × SF} (h : p ∈ (S.remove b).files) : p ∈ S.files := by
  unfold SD.remove at h
  split at h
  · exact h
  · exact (mem_ers.1 h).1

theorem remove_length (S : SD) (b : List UInt8) : (S.remove b).files.length ≤ S.files.length := by
  unfold SD.remove
  split
  · exact Nat.le_refl _
  · exact ers_length _ _

theorem rename_any {F : Nat → Prop} {d : Nat} {S : SD} {w : World} (hd : DiskAt F w d S) (hok : S.Ok) (hlen : S.loose.length ≤ 16777216) (hlen2 : S.files.length ≤ 16777216) (a b : ByteArray) (ha : a.size ≤ maxLen) (hb : b.size ≤ maxLen) :
    Calls Try.prog 52 #[.pointer (some ⟨d, 0, none⟩), .string a, .string b] w (DiskPost F w d (S.rename a.data.toList b.data.toList).1 (S.rename a.data.toList b.data.toList).2) := by
  have hdat := hd
  obtain ⟨role, m, lv, hd, hF⟩ := hd
  have c0 := hd.c0
  have hlk := SD.lookup hd.map a ha
  have hright := right_any b w hb
  cases hr : rightB b with
  | false =>
    rw [hr] at hright
    rw [rightB_eq] at hr
    have Hr := Lib.hid hr
    have Hright := Lib.hid hright
    have Hdat := Lib.hid hdat
    clear hd hok hlen hlen2 ha hb hF hright hr hdat
    generalize getF a.data.toList S.files = o at *
    go_enter Try.func52, Try.ntmps52
    go_wp2_with fail
    refine Hright.out.mono ?_
    rintro e w' ⟨rfl, rfl⟩
    go_wp2
    go_ret
    refine ⟨ret_int (by unfold SD.rename; rw [Hr.out]; rfl), F, ?_, Upd.of_below (Below.refl _ _)⟩
    unfold SD.rename
    rw [Hr.out]
    exact Hdat.out
  | true =>
    rw [hr] at hright
    rw [rightB_eq] at hr
    have Hr := Lib.hid hr
    have Hright := Lib.hid hright
    cases hg : getF a.data.toList S.files with
    | none =>
      rw [hg] at hlk
      have hlk' : (Instr.lookup 85 (.map (some m)) (.string a) false).run Try.prog w = .ok (.pointer none) w := hlk
      have Hg := Lib.hid hg
      have Hdat := Lib.hid hdat
      clear hd hok hlen hlen2 ha hb hF hright hr hdat hg hlk
      go_enter Try.func52, Try.ntmps52
      go_wp2_with fail
      refine Hright.out.mono ?_
      rintro e w' ⟨rfl, rfl⟩
      go_wp2
      go_ret
      refine ⟨ret_int (by unfold SD.rename; rw [Hr.out, Hg.out]; rfl), F, ?_, Upd.of_below (Below.refl _ _)⟩
      unfold SD.rename
      rw [Hr.out, Hg.out]
      exact Hdat.out
    | some f =>
      rw [hg] at hlk
      have hlk' : (Instr.lookup 85 (.map (some m)) (.string a) false).run Try.prog w = .ok (.pointer (some ⟨f.id, 0, none⟩)) w := hlk
      have hmem := getF_some hg
      have hfile := hd.file _ hmem
      have hmap := hd.map
      have Hg := Lib.hid hg
      have Hd := Lib.hid hd
      have Hok := Lib.hid hok
      have Hm := Lib.hid hmem
      have Hfile := Lib.hid hfile
      have Hlen := Lib.hid hlen
      have Hlen2 := Lib.hid hlen2
      have Ha := Lib.hid ha
      have Hb := Lib.hid hb
      have HF := Lib.hid hF
      clear hd hok hlk hg hmem hfile hlen hlen2 ha hb hF hright hr hdat
      go_enter Try.func52, Try.ntmps52
      go_wp2_with fail
      refine Hright.out.mono ?_
      rintro e w' ⟨rfl, rfl⟩
      go_wp2_with (first | (at_delete; refine wpList_files_delete _ rfl _ _ rfl hmap a Ha.out rfl rfl ?_))
      intro w1 hmap1 hg1 hs1
      have hb1 : ∀ k, k < w.heap.size → k ≠ m → w1.heap[k]? = w.heap[k]? := fun k hk hne => hg1.block k hk (fun e => hne (by cases e; rfl))
      have hd1 : DiskIn role w1 d m lv { S with files := ers a.data.toList S.files } := Hd.out.setMap (by omega) hb1 (by rw [ers_idp]; exact hmap1) (fun p hp => Hd.out.file p (mem_ers.1 hp).1)
      have hne : ∀ k, role k = 4 → k ≠ m := fun k h4 e => by rw [e, Hd.out.rm] at h4; cases h4
      have hcall := remove_in hd1 (fun p hp => ⟨(Hok.out.looseCells Hd.out p hp).1, (Hok.out.looseCells Hd.out p hp).2.block (hb1 _ (Hok.out.looseCells Hd.out p hp).2.lt (hne _ (Hok.out.looseCells Hd.out p hp).1))⟩) Hlen.out b Hb.out
      have Hcall := Lib.hid hcall
      have Hs1 := Lib.hid hs1
      have Hg1 := Lib.hid hg1
      have Hb1 := Lib.hid hb1
      clear hd1 hcall hb1 hg1 hne hs1 hmap1 hmap
      go_wp2_with fail
      refine Hcall.out.mono ?_
      rintro e w2 ⟨rfl, lv', hd2, hs2⟩
      have hfid : ∀ p ∈ (SD.remove { S with files := ers a.data.toList S.files } b.data.toList).files, p.2.id ≠ f.id := fun p hp e => by
        have h1 := mem_ers.1 (mem_remove hp)
        have := ids_ne Hok.out.ids h1.1 Hm.out e
        rw [this] at h1
        exact h1.2 rfl
      have hb12 : ∀ k, role k = 4 ∨ role k = 5 + f.id → w2.heap[k]? = w.heap[k]? := fun k hk => by
        have hlt := Hd.out.lt k (by omega)
        have hkm : k ≠ m := fun e => by rw [e, Hd.out.rm] at hk; omega
        have hkd : k ≠ d := fun e => by rw [e, Hd.out.rd] at hk; omega
        exact (hs2.block k (by have := Hs1.out; omega) ⟨hkd, hkm, by omega⟩).trans (Hb1.out k hlt hkm)
      have hfile2 := Hfile.out.keep (role' := role) (fun _ _ => rfl) hb12
      obtain ⟨h4, dv, hdv, hblk, hrow⟩ := hfile2
      have f2 : w2.cell? ⟨f.id, 2, none⟩ = some (.bool f.stays) := by rw [cell_of hblk]; rfl
      have z2 : w2.frozen? ⟨f.id, 2, none⟩ = false := free_of hblk _
      have hd3 : DiskIn role (w2.setCell ⟨f.id, 2, none⟩ (.bool true)) d m lv' _ := hd2.other h4 (by simp [World.setCell]) (fun k _ hne => Below.heap_setCell _ _ _ _ hne) hfid
      have c3 := hd3.c0
      have hmap3 := hd3.map
      have hl3 : (SD.ids (SD.remove { S with files := ers a.data.toList S.files } b.data.toList)).length < maxLen := by
        have h1 := remove_length { S with files := ers a.data.toList S.files } b.data.toList
        have h2 := ers_length a.data.toList S.files
        have h3 := Hlen2.out
        simp only [SD.ids, List.length_map] at h1 ⊢
        unfold maxLen
        omega
      have Hd2 := Lib.hid hd2
      have Hs2 := Lib.hid hs2
      have Hblk := Lib.hid hblk
      have Hrow := Lib.hid hrow
      have Hdv := Lib.hid hdv
      have Hd3 := Lib.hid hd3
      have H4 := Lib.hid h4
      have Hl3 := Lib.hid hl3
      clear hd2 hs2 hfid hb12 hblk hrow hdv hd3 h4 hl3
      go_wp2_with (first | (at_mapUpdate; refine wpList_files_update rfl _ rfl _ _ _ rfl hmap3 Hl3.out b Hb.out f.id rfl rfl rfl ?_))
      intro w4 hmap4 hg4 hs4
      have Hmap4 := Lib.hid hmap4
      have Hg4 := Lib.hid hg4
      have Hs4 := Lib.hid hs4
      clear hmap4 hg4 hs4
      go_wp2
      go_ret
      refine ⟨ret_int (by unfold SD.rename; rw [Hr.out, Hg.out]; rfl), F, ⟨role, m, lv', ?_, HF.out⟩, ?_⟩
      · unfold SD.rename
        rw [Hr.out, Hg.out]
        refine Hd3.out.setMap (by rw [Hs4.out]; simp [World.setCell]) (fun k hk hne => Hg4.out.block k hk (fun e => hne (by cases e; rfl))) ?_ ?_
        · have e : ∀ L : List (List UInt8 × SF), (sins (b.data.toList, { f with stays := true }) (ers b.data.toList L)).map idp = sins (b.data.toList, f.id) (ers b.data.toList (L.map idp)) := fun L => by
            rw [show idp = fun x : List UInt8 × SF => (x.1, SF.id x.2) from rfl, sins_map, ers_map]
          rw [e]
          exact Hmap4.out
        · intro p hp
          rcases mem_sins.1 hp with rfl | hp
          · refine ⟨H4.out, dv, Hdv.out, by rw [setCell_same Hblk.out]; rfl, ownsRow_block Hrow.out fun g hg => Below.heap_setCell _ _ _ _ fun e => ?_⟩
            have h1 := Hdv.out g hg
            have h2 := H4.out
            rw [show g = f.id from e] at h1
            omega
          · exact Hd3.out.file p (mem_ers.1 hp).1
      · refine (upd_of (role := role) (role' := role) ?_ (fun _ _ h => h)).congr (fun k => (HF.out k).symm) (fun k => HF.out k)
        have k1 : Same (fun k => role k = 0) w w1 := (Same.of_grown Hg1.out).mono fun k _ h e => by
          cases e
          rw [Hd.out.rm] at h
          cases h
        have k2 : Same (fun k => role k = 0) w1 w2 := Hs2.out.mono fun k _ h => ⟨fun e => (by rw [e, Hd.out.rd] at h; cases h), fun e => (by rw [e, Hd.out.rm] at h; cases h), by rw [h]; decide⟩
        have k3 : Same (fun k => role k = 0) w2 (w2.setCell ⟨f.id, 2, none⟩ (.bool true)) := (Same.setCell w2 f.id 2 _).mono fun k _ h e => by
          rw [e, H4.out] at h
          cases h
        have k4 : Same (fun k => role k = 0) (w2.setCell ⟨f.id, 2, none⟩ (.bool true)) w4 := (Same.of_grown Hg4.out).mono fun k _ h e => by
          cases e
          rw [Hd.out.rm] at h
          cases h
        exact ((k1.trans k2).trans k3).trans k4
end Go.Proofs.Ytkefciacdmbidaa
