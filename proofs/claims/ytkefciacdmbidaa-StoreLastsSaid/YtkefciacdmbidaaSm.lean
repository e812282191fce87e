/- Write: bytes at the end of a file that is there, and of a new one. -/
import Derived.Test.YtkefciacdmbidaaSl
namespace Go.Proofs.Ytkefciacdmbidaa
open Go.RowKit Go.WideMaps Go.Maps

theorem src_new {W : World} {n : Nat} {a b : Value} {t : TypeId} (h : n = W.heap.size) (ha : a.oneCell' = true := by rfl) (hb : b.oneCell' = true := by rfl) : Srcs (W.alloc (.cells #[a, b] t)) (.slice (some ⟨n, 0, none⟩) 1 1) 2 1 [a, b] := by
  subst h
  refine Or.inr ⟨_, 1, rfl, Nat.le_refl _, rfl, fun j u hj => ?_, ?_⟩
  · rw [add0, cell_of (heap_alloc_new W _)]
    simpa using hj
  · intro u hu
    simp at hu
    rcases hu with rfl | rfl
    · exact ha
    · exact hb
theorem role_stays {role : Nat → Nat} {v : Value} {r k : Nat} (h : role k = 0) (hv : v.ownBlock ≠ some k) : addRole role v r k = 0 := by
  unfold addRole
  rw [if_neg (fun e => hv e.2)]
  exact h

set_option maxRecDepth 100000 in
set_option maxHeartbeats 1000000 in
theorem write_old {F : Nat → Prop} {d : Nat} {S : SD} {w : World} (hd : DiskAt F w d S) (hok : S.Ok) (nm : ByteArray) (hn : nm.size ≤ maxLen) (v : Value) (xs : List Int) (hv : Outside F w v xs) (hr : goodName nm.data.toList = true) (hf : ¬ S.limit < S.size + xs.length)
    (hlen : S.loose.length ≤ 16777216) {f : SF} (hg : getF nm.data.toList S.files = some f) :
    Calls Try.prog 49 #[.pointer (some ⟨d, 0, none⟩), .string nm, v] w (WritePost F w d S nm.data.toList xs) := by
  have hright := right_any nm w hn
  rw [rightB_eq, hr] at hright
  obtain ⟨A, c, hvs, -⟩ := Srcs.slice hv.bytes
  subst hvs
  have Hright := Lib.hid hright
  have Hr := Lib.hid hr
  have Hroom := Lib.hid (room_any hd hok)
  have hge : ¬ ((S.limit : Int) - S.size) < (xs.length : Int) := by omega
  have hmem := getF_some hg
  have hfl := file_le hok hmem
  have hlim := hok.limit
  have hroom := hok.room
  have hxl : xs.length ≤ 16777216 := by omega
  have hflen : f.data.length ≤ 16777216 := by omega
  obtain ⟨role, m, lv, hd, hF⟩ := hd
  have HF := Lib.hid hF
  have Hd := Lib.hid hd
  have Hf := Lib.hid hf
  have Hn := Lib.hid hn
  have Hg := Lib.hid hg
  have Hm := Lib.hid hmem
  have Hv := Lib.hid hv
  have Hok := Lib.hid hok
  have Hlen := Lib.hid hlen
  clear hright hr hd hn hok hf hF hg hmem hv hfl hlim hroom hlen
  go_enter Try.func49, Try.ntmps49
  go_wp2_with fail
  refine Hright.out.mono ?_
  rintro e w' ⟨rfl, rfl⟩
  go_wp2_with fail
  refine Hroom.out.mono ?_
  rintro e w1 ⟨rfl, hb1⟩
  have hd1 := Hd.out.keep hb1.size fun k hk => hb1.block k (Hd.out.lt k hk)
  have c0 := hd1.c0
  have hlk : (Instr.lookup 85 (.map (some m)) (.string nm) false).run Try.prog w1 = .ok (.pointer (some ⟨f.id, 0, none⟩)) w1 := by
    rw [SD.lookup hd1.map nm Hn.out, Hg.out]; rfl
  obtain ⟨h4, dv, hdv, hblk, hrow⟩ := hd1.file _ Hm.out
  have f0 : w1.cell? ⟨f.id, 0, none⟩ = some dv := by rw [cell_of hblk]; rfl
  have hbytes : BytesAt w1 (.slice A xs.length c) xs := Hv.out.same (Same.of_below hb1 _)
  obtain ⟨B, cb, hdvs, -⟩ := ownsRow_slice hrow
  subst hdvs
  have Hd1 := Lib.hid hd1
  have H4 := Lib.hid h4
  have Hdv := Lib.hid hdv
  have Hblk := Lib.hid hblk
  have Hrow := Lib.hid hrow
  have Hbytes := Lib.hid hbytes
  have Hb1 := Lib.hid hb1
  clear hd1 h4 hdv hblk hrow hbytes hb1
  go_wp2_with (first | (at_builtin; refine wpList_app _ rfl _ _ 32 rfl 5 1 1 _ Try.underlying32 info5 rfl (by decide) _ f.data.length (f.data.map (Value.int .u8)) rfl Hrow.out _ xs.length (xs.map (Value.int .u8)) rfl Hbytes.out ?h63 ?hby ?_))
  case h63 => unfold maxLen; omega
  case hby => omega
  intro v1 w2 ha
  have hblk2 := (ha.grown.block f.id (Hd1.out.lt f.id (by rw [H4.out]; decide)) fun e => by have := Hdv.out _ e.symm; have h4 := H4.out; omega).trans Hblk.out
  have f1 : w2.cell? ⟨f.id, 0, none⟩ = some (.slice B f.data.length cb) := by rw [cell_of hblk2]; rfl
  have z1 : w2.frozen? ⟨f.id, 0, none⟩ = false := free_of hblk2 _
  have hd3 := Hd1.out.appFile H4.out Hdv.out Hblk.out ha
  have c1 := hd3.c1
  obtain ⟨B1, cb1, hv1, -⟩ := ownsRow_slice ha.own
  subst hv1
  have Hd3 := Lib.hid hd3
  have Ha := Lib.hid ha
  clear hblk2 hd3 ha
  go_wp2_with (first | (at_builtin; refine wpList_app _ rfl _ _ 86 rfl 105 2 16 _ Try.underlying86 info105 rfl (by decide) _ S.loose.length (looseCells S.loose) rfl ?hrow2 _ 1 [.pointer (some ⟨f.id, 0, none⟩), .int .i64 xs.length] rfl ?hsrc2 ?h632 ?hby2 ?_))
  case hrow2 => exact Hd3.out.loose.alloc _
  case hsrc2 => exact src_new (by simp [World.setCell])
  case h632 => have := Hlen.out; unfold maxLen; omega
  case hby2 => have := Hlen.out; omega
  intro v2 w5 ha2
  have hdl := Hd3.out.lt d (by rw [Hd3.out.rd]; decide)
  have hblk5 := (ha2.grown.block d (by have := hdl; simp [World.setCell] at this ⊢; omega) fun e => by have h1 := Hd3.out.rl d e.symm; have h2 := Hd3.out.rd; omega).trans ((Below.heap_alloc _ _ d hdl).trans Hd3.out.disk)
  have g1 : w5.cell? ⟨d, 1, none⟩ = some lv := by rw [cell_of hblk5]; rfl
  have y1 : w5.frozen? ⟨d, 1, none⟩ = false := free_of hblk5 _
  have hd6 := Hd3.out.appLoose ha2
  obtain ⟨B2, cb2, hv2, -⟩ := ownsRow_slice ha2.own
  subst hv2
  have Hd6 := Lib.hid hd6
  have Ha2 := Lib.hid ha2
  clear hdl hblk5 hd6 ha2
  go_wp2
  go_ret
  have he : S.werr nm.data.toList xs.length = 0 := by unfold SD.werr; rw [Hr.out, if_pos rfl, if_neg Hf.out]
  have hfresh : ∀ p ∈ S.files, p.2.id ≠ w.heap.size := fun p hp e => by
    have := Hd.out.lt p.2.id (by rw [(Hd.out.file p hp).1]; decide)
    omega
  refine ⟨ret_int he.symm, fun k => addRole (addRole role (.slice B1 (f.data.length + xs.length) cb1) (5 + f.id)) (.slice B2 (S.loose.length + 1) cb2) 3 k ≠ 0, w.heap.size, hfresh, ⟨addRole (addRole role (.slice B1 (f.data.length + xs.length) cb1) (5 + f.id)) (.slice B2 (S.loose.length + 1) cb2) 3, m, .slice B2 (S.loose.length + 1) cb2, ?_, fun k => Iff.rfl⟩, ?_⟩
  · rw [if_pos he]
    unfold SD.write
    rw [Hg.out]
    exact Hd6.out
  · refine (upd_of (role := role) ?_ ?_).congr (fun k => (HF.out k).symm) (fun k => Iff.rfl)
    · have k1 : Same (fun k => role k = 0) w w1 := Same.of_below Hb1.out _
      have k2 : Same (fun k => role k = 0) w1 w2 := (Same.of_grown Ha.out.grown).mono fun k _ h e => by have := Hdv.out k e.symm; omega
      have k3 : Same (fun k => role k = 0) w2 _ := (Same.setCell w2 f.id 0 (.slice B1 (f.data.length + xs.length) cb1)).mono fun k _ h e => by have := H4.out; rw [← e] at this; omega
      have k4 : Same (fun k => role k = 0) (w2.setCell ⟨f.id, 0, none⟩ (.slice B1 (f.data.length + xs.length) cb1)) _ := Same.alloc _ (.cells #[.pointer (some ⟨f.id, 0, none⟩), .int .i64 xs.length] 105) _
      have k5 : Same (fun k => role k = 0) _ w5 := (Same.of_grown Ha2.out.grown).mono fun k _ h e => by have := Hd.out.rl k e.symm; omega
      have k6 : Same (fun k => role k = 0) w5 _ := (Same.setCell w5 d 1 (.slice B2 (S.loose.length + 1) cb2)).mono fun k _ h e => by have := Hd.out.rd; rw [← e] at this; omega
      exact ((((k1.trans k2).trans k3).trans k4).trans k5).trans k6
    · intro k hk h0
      have hw : w.heap.size ≤ w2.heap.size := Nat.le_trans Hb1.out.size Ha.out.grown.size
      refine role_stays (role_stays h0 fun e => ?_) fun e => ?_
      · rcases Ha.out.loc with h | h
        · rw [e] at h; have := Hdv.out k h.symm; omega
        · rw [e] at h; have := Hb1.out.size; simp at h; omega
      · rcases Ha2.out.loc with h | h
        · rw [e] at h; have := Hd.out.rl k h.symm; omega
        · rw [e] at h; simp [World.setCell] at h; omega
end Go.Proofs.Ytkefciacdmbidaa
