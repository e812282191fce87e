/- Write: bytes of a new file. -/
import Derived.Test.YtkefciacdmbidaaSm
namespace Go.Proofs.Ytkefciacdmbidaa
open Go.RowKit Go.WideMaps Go.Maps

theorem updF_other {i : Nat} {g : SF → SF} {L : List (List UInt8 × SF)} (h : ∀ p ∈ L, p.2.id ≠ i) : updF i g L = L := by
  unfold updF
  rw [List.map_congr_left (g := id) (fun p hp => by rw [if_neg (h p hp)]; rfl), List.map_id]
theorem updF_sins {nm : List UInt8} {f : SF} {g : SF → SF} : ∀ {L : List (List UInt8 × SF)}, (∀ p ∈ L, p.2.id ≠ f.id) → updF f.id g (sins (nm, f) L) = sins (nm, g f) L
  | [], _ => by simp [updF, sins]
  | y :: r, h => by
    have hy := h y (by simp)
    have hr := updF_sins (g := g) (nm := nm) (f := f) (L := r) (fun p hp => h p (by simp [hp]))
    unfold sins
    by_cases hb : Go.bytesBefore nm y.1 = true
    · simp only [hb, if_true]
      have := updF_other (g := g) h
      unfold updF at this ⊢
      rw [List.map_cons, this]
      simp
    · simp only [hb, Bool.false_eq_true, if_false]
      unfold updF at hr ⊢
      rw [List.map_cons, hr, if_neg hy]

set_option maxRecDepth 100000 in
set_option maxHeartbeats 1000000 in
theorem write_new {F : Nat → Prop} {d : Nat} {S : SD} {w : World} (hd : DiskAt F w d S) (hok : S.Ok) (nm : ByteArray) (hn : nm.size ≤ maxLen) (v : Value) (xs : List Int) (hv : Outside F w v xs) (hr : goodName nm.data.toList = true) (hf : ¬ S.limit < S.size + xs.length)
    (hlen : S.loose.length ≤ 16777216) (hlen2 : S.files.length ≤ 16777216) (hg : getF nm.data.toList S.files = none) :
    Calls Try.prog 49 #[.pointer (some ⟨d, 0, none⟩), .string nm, v] w (WritePost F w d S nm.data.toList xs) := by
  have hright := right_any nm w hn
  rw [rightB_eq, hr] at hright
  obtain ⟨A, c, hvs, -⟩ := Srcs.slice hv.bytes
  subst hvs
  have Hright := Lib.hid hright
  have Hr := Lib.hid hr
  have Hroom := Lib.hid (room_any hd hok)
  have hge : ¬ ((S.limit : Int) - S.size) < (xs.length : Int) := by omega
  have hlim := hok.limit
  have hroom := hok.room
  have hxl : xs.length ≤ 16777216 := by omega
  obtain ⟨role, m, lv, hd, hF⟩ := hd
  have HF := Lib.hid hF
  have Hd := Lib.hid hd
  have Hf := Lib.hid hf
  have Hn := Lib.hid hn
  have Hg := Lib.hid hg
  have Hlen2 := Lib.hid hlen2
  have Hv := Lib.hid hv
  have Hok := Lib.hid hok
  have Hlen := Lib.hid hlen
  clear hright hr hd hn hok hf hF hg hv hlim hroom hlen hlen2
  go_enter Try.func49, Try.ntmps49
  go_wp2_with fail
  refine Hright.out.mono ?_
  rintro e w' ⟨rfl, rfl⟩
  go_wp2_with fail
  refine Hroom.out.mono ?_
  rintro e w1 ⟨rfl, hb1⟩
  have hd1 := Hd.out.keep hb1.size fun k hk => hb1.block k (Hd.out.lt k hk)
  have c0 := hd1.c0
  have hlk : (Instr.lookup 85 (.map (some m)) (.string nm) false).run Try.prog w1 = .ok (.pointer none) w1 := by
    rw [SD.lookup hd1.map nm Hn.out, Hg.out]; rfl
  have c1' : (w1.alloc (.cells #[.slice none 0 0, .int .i64 0, .bool false] 103)).cell? ⟨d, 0, none⟩ = some (.map (some m)) := cell_alloc c0
  have hmap1 : MapIs (w1.alloc (.cells #[.slice none 0 0, .int .i64 0, .bool false] 103)) m S.ids := hd1.map.block (Below.heap_alloc w1 _ m (hd1.lt m (by rw [hd1.rm]; decide)))
  have hl3 : S.ids.length < maxLen := by
    have := Hlen2.out
    simp only [SD.ids, List.length_map]
    unfold maxLen
    omega
  have Hd1 := Lib.hid hd1
  have Hb1 := Lib.hid hb1
  have Hl3 := Lib.hid hl3
  clear hd1 hb1 hl3
  go_wp2_with (first | (at_mapUpdate; refine wpList_files_update rfl _ rfl _ _ _ rfl hmap1 Hl3.out nm Hn.out w1.heap.size rfl rfl rfl ?_))
  intro w3 hmap3 hg3 hs3
  have hd3 := Hd1.out.newFile hmap3 hg3
  obtain ⟨h4, dv, hdv, hblk, hrow⟩ := hd3.file (nm.data.toList, ⟨w1.heap.size, [], 0, false⟩) (mem_sins.2 (Or.inl rfl))
  have hdve : dv = .slice none 0 0 := by
    rcases hrow.2 with ⟨e, _⟩ | ⟨g, cap, cur, e, _⟩
    · exact e
    · have h1 := (hg3.block w1.heap.size (by simp) (fun e => by have := hd3.rm; simp at e; rw [← e] at this; have h5 : newRole role w1.heap.size w1.heap.size = 4 := h4; omega)).trans (heap_alloc_new w1 _)
      rw [show (⟨w1.heap.size, [], 0, false⟩ : SF).id = w1.heap.size from rfl] at hblk
      rw [h1] at hblk
      simp at hblk
      exact hblk.symm
  subst hdve
  have f0 : w3.cell? ⟨w1.heap.size, 0, none⟩ = some (.slice none 0 0) := by rw [cell_of hblk]; rfl
  have hbytes : BytesAt w3 (.slice A xs.length c) xs := Hv.out.same (((Same.of_below Hb1.out _).trans (Same.alloc _ _ _)).trans ((Same.of_grown hg3).mono fun k _ h e => by cases e; exact h ((HF.out m).2 (by rw [Hd.out.rm]; decide))))
  have Hd3a := Lib.hid hd3
  have H4 := Lib.hid h4
  have Hdv := Lib.hid hdv
  have Hblk := Lib.hid hblk
  have Hrow := Lib.hid hrow
  have Hbytes := Lib.hid hbytes
  have Hg3 := Lib.hid hg3
  have Hs3 := Lib.hid hs3
  clear hd3 h4 hdv hblk hrow hbytes hg3 hs3 hmap3
  go_wp2_with (first | (at_builtin; refine wpList_app _ rfl _ _ 32 rfl 5 1 1 _ Try.underlying32 info5 rfl (by decide) _ 0 [] rfl Hrow.out _ xs.length (xs.map (Value.int .u8)) rfl Hbytes.out ?h63 ?hby ?_))
  case h63 => unfold maxLen; omega
  case hby => omega
  intro v1 w2 ha
  have hblk2 := (ha.grown.block w1.heap.size (Hd3a.out.lt w1.heap.size (by have := H4.out; show newRole role w1.heap.size w1.heap.size ≠ 0; rw [show newRole role w1.heap.size w1.heap.size = 4 from this]; decide)) (by simp [Value.ownBlock])).trans Hblk.out
  have f1 : w2.cell? ⟨w1.heap.size, 0, none⟩ = some (.slice none 0 0) := by rw [cell_of hblk2]; rfl
  have z1 : w2.frozen? ⟨w1.heap.size, 0, none⟩ = false := free_of hblk2 _
  have hd3 := Hd3a.out.appFile (f := ⟨w1.heap.size, [], 0, false⟩) H4.out Hdv.out Hblk.out ha
  have c1 := hd3.c1
  obtain ⟨B1, cb1, hv1, -⟩ := ownsRow_slice ha.own
  rw [Nat.zero_add] at hv1
  subst hv1
  have Hd3 := Lib.hid hd3
  have Ha := Lib.hid ha
  clear hblk2 hd3 ha
  go_wp2_with (first | (at_builtin; refine wpList_app _ rfl _ _ 86 rfl 105 2 16 _ Try.underlying86 info105 rfl (by decide) _ S.loose.length (looseCells S.loose) rfl ?hrow2 _ 1 [.pointer (some ⟨w1.heap.size, 0, none⟩), .int .i64 xs.length] rfl ?hsrc2 ?h632 ?hby2 ?_))
  case hrow2 => exact Hd3.out.loose.alloc _
  case hsrc2 => exact src_new (by simp [World.setCell])
  case h632 => have := Hlen.out; unfold maxLen; omega
  case hby2 => have := Hlen.out; omega
  intro v2 w5 ha2
  have hdl := Hd3.out.lt d (by rw [Hd3.out.rd]; decide)
  have hblk5 := (ha2.grown.block d (by have := hdl; simp [World.setCell] at this ⊢; omega) fun e => by have h1 := Hd3.out.rl d e.symm; have h2 := Hd3.out.rd; omega).trans ((Below.heap_alloc _ _ d hdl).trans Hd3.out.disk)
  have g1 : w5.cell? ⟨d, 1, none⟩ = some lv := by rw [cell_of hblk5]; rfl
  have y1 : w5.frozen? ⟨d, 1, none⟩ = false := free_of hblk5 _
  have hd6 := Hd3.out.appLoose ha2
  obtain ⟨B2, cb2, hv2, -⟩ := ownsRow_slice ha2.own
  subst hv2
  have Hd6 := Lib.hid hd6
  have Ha2 := Lib.hid ha2
  clear hdl hblk5 hd6 ha2
  go_wp2
  go_ret
  have he : S.werr nm.data.toList xs.length = 0 := by unfold SD.werr; rw [Hr.out, if_pos rfl, if_neg Hf.out]
  have hfresh : ∀ p ∈ S.files, p.2.id ≠ w1.heap.size := fun p hp e => by
    have := Hd1.out.lt p.2.id (by rw [(Hd1.out.file p hp).1]; decide)
    omega
  refine ⟨ret_int he.symm, fun k => addRole (addRole (newRole role w1.heap.size) (.slice B1 xs.length cb1) (5 + w1.heap.size)) (.slice B2 (S.loose.length + 1) cb2) 3 k ≠ 0, w1.heap.size, hfresh, ⟨addRole (addRole (newRole role w1.heap.size) (.slice B1 xs.length cb1) (5 + w1.heap.size)) (.slice B2 (S.loose.length + 1) cb2) 3, m, .slice B2 (S.loose.length + 1) cb2, ?_, fun k => Iff.rfl⟩, ?_⟩
  · rw [if_pos he]
    unfold SD.write
    rw [Hg.out]
    have := Hd6.out
    have e := updF_sins (nm := nm.data.toList) (f := ⟨w1.heap.size, [], 0, false⟩) (g := fun _ => ⟨w1.heap.size, [] ++ xs, 0, false⟩) (L := ers nm.data.toList S.files) (by intro p hp; exact hfresh p (mem_ers.1 hp).1)
    rw [show (⟨w1.heap.size, [], 0, false⟩ : SF).id = w1.heap.size from rfl] at e
    rw [e] at this
    exact this
  · refine (upd_of (role := role) ?_ ?_).congr (fun k => (HF.out k).symm) (fun k => Iff.rfl)
    · have k1 : Same (fun k => role k = 0 ∧ k < w1.heap.size) w w1 := Same.of_below Hb1.out _
      have k1a : Same (fun k => role k = 0 ∧ k < w1.heap.size) w1 _ := Same.alloc _ (.cells #[.slice none 0 0, .int .i64 0, .bool false] 103) _
      have k1b : Same (fun k => role k = 0 ∧ k < w1.heap.size) _ w3 := (Same.of_grown Hg3.out).mono fun k _ h e => by cases e; have := Hd.out.rm; omega
      have k2 : Same (fun k => role k = 0 ∧ k < w1.heap.size) w3 w2 := (Same.of_grown Ha.out.grown).mono fun k _ h => by simp [Value.ownBlock]
      have k3 : Same (fun k => role k = 0 ∧ k < w1.heap.size) w2 _ := (Same.setCell w2 w1.heap.size 0 (.slice B1 xs.length cb1)).mono fun k _ h e => by omega
      have k4 : Same (fun k => role k = 0 ∧ k < w1.heap.size) (w2.setCell ⟨w1.heap.size, 0, none⟩ (.slice B1 xs.length cb1)) _ := Same.alloc _ (.cells #[.pointer (some ⟨w1.heap.size, 0, none⟩), .int .i64 xs.length] 105) _
      have k5 : Same (fun k => role k = 0 ∧ k < w1.heap.size) _ w5 := (Same.of_grown Ha2.out.grown).mono fun k _ h e => by have := Hd.out.rl k e.symm; omega
      have k6 : Same (fun k => role k = 0 ∧ k < w1.heap.size) w5 _ := (Same.setCell w5 d 1 (.slice B2 (S.loose.length + 1) cb2)).mono fun k _ h e => by have := Hd.out.rd; rw [← e] at this; omega
      exact (((((((k1.trans k1a).trans k1b).trans k2).trans k3).trans k4).trans k5).trans k6).mono fun k hk h => ⟨h, Nat.lt_of_lt_of_le hk Hb1.out.size⟩
    · intro k hk h0
      have hw : w.heap.size ≤ w1.heap.size := Hb1.out.size
      have hw3 : w1.heap.size + 1 ≤ w3.heap.size := by have := Hg3.out.size; simpa using this
      have hw2 : w3.heap.size ≤ w2.heap.size := Ha.out.grown.size
      refine role_stays (role_stays (by unfold newRole; rw [if_neg (by omega)]; exact h0) fun e => ?_) fun e => ?_
      · rcases Ha.out.loc with h | h
        · rw [e] at h; simp [Value.ownBlock] at h
        · rw [e] at h; simp at h; omega
      · rcases Ha2.out.loc with h | h
        · rw [e] at h; have := Hd.out.rl k h.symm; omega
        · rw [e] at h; simp [World.setCell] at h; omega
end Go.Proofs.Ytkefciacdmbidaa
