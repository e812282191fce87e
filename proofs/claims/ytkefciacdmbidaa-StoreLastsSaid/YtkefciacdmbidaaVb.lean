/- StoreTwice: the walk. -/
import Derived.Test.YtkefciacdmbidaaVa
namespace Go.Proofs.Ytkefciacdmbidaa
open Go.RowKit Go.WideMaps Go.Maps

theorem DS.start {w0 w : World} {d : Nat} {F : Nat → Prop} {S : SD} (hd : DiskAt F w d S) (hok : S.Ok) (h0 : S.files = []) (h1 : S.loose = []) (hF : ∀ k, F k → w0.heap.size ≤ k) (hb : Below w0.heap.size w0 w) : DS w0 w d F S 0 :=
  ⟨hd, hok, by rw [h0]; exact Nat.le_refl _, by rw [h1]; exact Nat.le_refl _, hF, hb⟩

theorem name_le {S : SD} (h : S.Ok) {k : Nat} {hk : k < S.files.length} {p : List UInt8 × SF} (e : p = S.files[k]) : (⟨p.1.toArray⟩ : ByteArray).size ≤ maxLen := by
  have := (h.names p (by rw [e]; exact List.getElem_mem hk)).2
  show p.1.toArray.size ≤ maxLen
  unfold maxLen
  simp
  omega

theorem file_small {S : SD} (h : S.Ok) {k : Nat} {hk : k < S.files.length} {p : List UInt8 × SF} (e : p = S.files[k]) : p.2.data.length ≤ 16777216 := by
  have h1 := file_le h (k := p.1) (f := p.2) (by rw [e]; exact List.getElem_mem hk)
  have h2 := h.room
  have h3 := h.limit
  omega

/-- how the loop over the calls runs -/
structure Runs (w0 wr : World) (d : Nat) (k : Nat) : Prop where
  ds : ∃ F S, DS w0 wr d F S k

theorem do_in {w0 wr : World} {d : Nat} {F : Nat → Prop} {S : SD} {k b off : Nat} {c : CallM} (hds : DS w0 wr d F S k) (hc : CallAt w0 w0.heap.size b off c) (hk : k ≤ 80) :
    Calls Try.prog 16 #[.pointer (some ⟨d, 0, none⟩), callV c] wr (DoPost F wr d S c) :=
  do_any hds.disk hds.ok c (hc.outside hds) hc.nmsz hc.tosz hc.lo hc.hi (by have := hds.nl; omega) (by have := hds.nf; omega)

theorem DS.done {w0 wr w' : World} {d : Nat} {F : Nat → Prop} {S : SD} {k : Nat} {c : CallM} {e : Ending} (h : DS w0 wr d F S k) (hp : DoPost F wr d S c e w') : ∃ F' i, e = .returned (.int .i64 (S.act i c).1) ∧ DS w0 w' d F' (S.act i c).2 (k + 1) := by
  obtain ⟨F', i, hi, he, hd, hu⟩ := hp
  exact ⟨F', i, he, h.act hi hd hu⟩

theorem Olds.start {w0 w : World} {d : Nat} {F : Nat → Prop} {S : SD} {A : Option Addr} {n c k : Nat} (hds : DS w0 w d F S k) (hna : NamesAt F w A n c S) :
    Olds F w0 (w.alloc (.cells #[] 32)) d S A n c (.slice (some ⟨w.heap.size, 0, none⟩) 0 0) 0 [] := by
  have hb : Below w.heap.size w (w.alloc (.cells #[] 32)) := (Below.refl _ _).alloc (Nat.le_refl _) _
  refine ⟨hds.disk.below hb, hna.below hb, ⟨World.ownsRow_made w #[] 0 (Nat.zero_le _) (Nat.zero_le _) rfl, fun g hg hF => ?_, by simp, rfl, fun j hj => by simp at hj⟩, hds.fb, fun g hg => ?_, hds.below.trans (hb.mono hds.below.size)⟩
  · cases hg
    exact Nat.lt_irrefl _ (hds.disk.lt _ hF)
  · cases hg
    exact hds.below.size

theorem Olds.step {w0 w w' : World} {d : Nat} {F : Nat → Prop} {S : SD} {A : Option Addr} {n c k : Nat} {o : Value} {vs : List Value} (h : Olds F w0 w d S A n c o k vs) (hb : Below w.heap.size w w') : Olds F w0 w' d S A n c o k vs :=
  ⟨h.disk.below hb, h.names.below hb, h.old.same (Same.of_below hb _), h.fb, h.ob, h.below.trans (hb.mono h.below.size)⟩

theorem row_new (w : World) (v : Value) (h : v.oneCell' = true) : Srcs (w.alloc (.cells #[v] 32)) (.slice (some ⟨w.heap.size, 0, none⟩) 1 1) 1 1 [v] := by
  refine Or.inr ⟨_, 1, rfl, Nat.le_refl _, rfl, fun j u hj => ?_, fun u hu => by simp at hu; rw [hu]; exact h⟩
  rw [add0, cell_of (heap_alloc_new w _)]
  simpa using hj

theorem Olds.app {w0 w w' : World} {d : Nat} {F : Nat → Prop} {S : SD} {A : Option Addr} {n c k : Nat} {o o' v : Value} {vs : List Value} (h : Olds F w0 w d S A n c o k vs) {p : List UInt8 × SF} {hk : k < S.files.length} (hp : p = S.files[k]) (hdat : S.data p.1 = p.2.data)
    (hv : w.ownsRow 0 5 1 v (S.data p.1).length ((S.data p.1).map (Value.int .u8))) (hvo : ∀ g, v.ownBlock = some g → ¬ F g) (ha : Appended (w.alloc (.cells #[v] 32)) w' o o' 32 1 k 1 (vs ++ [v])) : Olds F w0 w' d S A n c o' (k + 1) (vs ++ [v]) := by
  have hb : Below w.heap.size w (w.alloc (.cells #[v] 32)) := (Below.refl _ _).alloc (Nat.le_refl _) _
  have h1 := h.step hb
  have hv1 := hv.alloc (.cells #[v] 32)
  have e : (S.files.map fun p => p.2.data).take (k + 1) = (S.files.map fun p => p.2.data).take k ++ [S.data p.1] := by
    rw [List.take_succ_eq_append_getElem (by simpa using hk), List.getElem_map, hdat, hp]
  refine ⟨h1.disk.app h1.old.out ha.grown, h1.names.app h1.old.own ha.grown, ?_, h1.fb, fun g hg => ?_, h1.below.trans ⟨ha.grown.os, ha.grown.tape, ha.grown.output, ha.grown.size, fun k hk => ha.grown.block k (Nat.lt_of_lt_of_le hk h1.below.size) fun e => by have := h1.ob k e.symm; omega⟩⟩
  · rw [e]
    exact h1.old.app ha hv1 hvo fun g hg => h1.disk.lt g hg
  · rcases ha.loc with hl | hl
    · exact h1.ob g (by rw [← hl]; exact hg)
    · rw [hl] at hg
      cases hg
      exact h1.below.size

theorem Olds.crash {w0 w w' : World} {d : Nat} {F F' : Nat → Prop} {S : SD} {A : Option Addr} {n c k : Nat} {o : Value} {vs : List Value} (h : Olds F w0 w d S A n c o k vs) (hd : DiskAt F' w' d S) (hu : Upd F F' w w') : Olds F' w0 w' d S A n c o k vs :=
  ⟨hd, h.names.foot hu, h.old.foot hu, hu.fb h.fb h.below.size, h.ob, h.below.trans (hu.below h.fb h.below.size)⟩

set_option maxRecDepth 100000 in
set_option maxHeartbeats 2000000 in
theorem twice_any (w : World) (A : Option Addr) (c : Nat) (cs : List CallM) (h : CallsAt w w.heap.size A cs) (hlen : cs.length ≤ 140737488351232) (keep again : Int)
    (k1 : -9223372036854775808 ≤ keep) (k2 : keep ≤ 9223372036854775807) (a1 : -9223372036854775808 ≤ again) (a2 : again ≤ 9223372036854775807) :
    Calls Try.prog 5 #[.slice A cs.length c, .int .i64 keep, .int .i64 again] w (IsB w true) := by
  have Hal := Lib.hid (alive_any w)
  have H := Lib.hid h
  clear h
  go_enter Try.func5, Try.ntmps5
  go_wp2_with fail
  refine Hal.out.mono ?_
  rintro e w1 ⟨rfl, hb1⟩
  have Hg := Lib.hid (great_any w1 w.heap.size A c cs (H.out.below hb1) hlen)
  have Hb1 := Lib.hid hb1
  clear hb1 Hal
  go_wp2_with fail
  refine Hg.out.mono ?_
  rintro e w1' ⟨b, rfl, hsm, rfl⟩
  cases b with
  | true =>
    go_wp2
    go_ret
    exact ⟨rfl, Hb1.out⟩
  | false =>
  have hsm := hsm rfl
  have h80 := hsm.len
  have Hsm := Lib.hid hsm
  have Hn := Lib.hid (new_any 16777216 w1)
  clear hsm Hg
  go_wp2_with fail
  refine Hn.out.mono ?_
  rintro e w2 hp
  rcases hp with ⟨h, -, -⟩ | ⟨-, -, F, d, rfl, hd1, hF, hb2⟩
  · omega
  have hds : DS w w2 d F ⟨[], [], 16777216⟩ 0 := DS.start hd1 start_ok rfl rfl (fun k hk => Nat.le_trans Hb1.out.size (hF k hk)) (Hb1.out.trans (hb2.mono Hb1.out.size))
  have Hds := Lib.hid hds
  clear hd1 hF hb2 Hn hds
  go_wp2_with fail
  go_loopw [9] (fun i wr => ∃ k : Nat, k ≤ cs.length ∧ i = .int .i64 k ∧ Runs w wr d k) (fun i _ => cs.length - (intOf i).toNat)
  case atStart => exact ⟨0, Nat.zero_le _, rfl, ⟨_, _, Hds.out⟩⟩
  case round =>
    obtain ⟨k, hk, rfl, hds⟩ := hrel
    obtain ⟨F1, S1, hds⟩ := hds.ds
    have Hds1 := Lib.hid hds
    clear hds
    by_cases hlt : k < cs.length
    · obtain ⟨bb, off, rfl, hc⟩ := H.out.at_ (fun e => by rw [e] at hlt; simp at hlt)
      have hck := hc k hlt
      have hdo := do_in Hds1.out hck (by omega)
      have hcb := hck.below Hds1.out.below
      obtain ⟨x, hx⟩ : ∃ x, cs[k] = x := ⟨_, rfl⟩
      rw [hx] at hdo hcb
      have d0 := hcb.c0
      have d1 := hcb.c1
      have d2 := hcb.c2
      have d3 := hcb.c3
      have d4 := hcb.c4
      have Hdo := Lib.hid hdo
      unfold callV at Hdo
      clear hc hck hx hdo hcb
      go_wp2_with fail
      refine Hdo.out.mono ?_
      rintro e w3 hp
      obtain ⟨F3, i3, rfl, hds3⟩ := Hds1.out.done hp
      have Hds3 := Lib.hid hds3
      clear hp hds3
      go_wp2
      exact ⟨⟨k + 1, by omega, by go_num, ⟨_, _, Hds3.out⟩⟩, by simp [intOf]; omega⟩
    · have hk1 : k = cs.length := by omega
      subst hk1
      have hcr := crash_any Hds1.out.disk Hds1.out.ok (by have := Hds1.out.nl; omega) keep k1 k2
      have Hcr := Lib.hid hcr
      clear hcr Hds
      go_wp2_with fail
      refine Hcr.out.mono ?_
      rintro e w3 ⟨rfl, F3, hd3, hu3⟩
      have htw := crash_twice Hds1.out.ok keep again
      have hds3 := Hds1.out.crash hd3 hu3
      obtain ⟨S, hS⟩ : ∃ S, S = S1.crash keep := ⟨_, rfl⟩
      rw [← hS] at hds3 htw
      have Hds3 := Lib.hid hds3
      have Htw := Lib.hid htw
      have hnm := names_any hds3.disk hds3.ok (by have := hds3.nf; omega)
      have Hnm := Lib.hid hnm
      clear hd3 hu3 hds3 htw hnm Hcr hS Hds1
      go_wp2_with fail
      refine Hnm.out.mono ?_
      rintro e w4 ⟨v, rfl, hown, hb4⟩
      have hds4 := Hds3.out.step hb4
      obtain ⟨NA, nc, rfl, hna⟩ := NamesAt.made Hds3.out.disk hown
      obtain ⟨n, hn⟩ : ∃ n, n = S.files.length := ⟨_, rfl⟩
      have hn80 : n ≤ 80 := by have := hds4.nf; omega
      rw [← hn] at hna
      rw [← hn]
      have hsz := size_any hds4.disk hds4.ok
      have Hds4 := Lib.hid hds4
      have Hna := Lib.hid hna
      have Hsz := Lib.hid hsz
      have Hn := Lib.hid hn
      clear hown hb4 hds4 hna hsz hn Hds3 Hnm
      go_wp2_with fail
      refine Hsz.out.mono ?_
      rintro e w5 ⟨rfl, hb5⟩
      have hds5 := Hds4.out.step hb5
      have hna5 := Hna.out.below hb5
      have hol := Olds.start hds5 hna5
      have Hds5 := Lib.hid hds5
      have Hol := Lib.hid hol
      clear hb5 hds5 hna5 hol Hna Hds4 Hsz
      go_wp2_with fail
      obtain ⟨wo, rfl⟩ : ∃ wo : World, wo = wr := ⟨_, rfl⟩
      go_loopw [12, 13] (fun o i wr => ∃ (k : Nat) (OA : Option Addr) (oc : Nat) (vs : List Value), k ≤ n ∧ i = .int .i64 k ∧ o = .slice OA k oc ∧ Olds F3 w wr d S NA n nc (.slice OA k oc) k vs) (fun _ i _ => n - (intOf i).toNat)
      case atStart => exact ⟨0, _, _, _, Nat.zero_le _, rfl, rfl, Hol.out⟩
      case round =>
        obtain ⟨k, OA, oc, vs, hk, rfl, rfl, hol1⟩ := hrel
        have Hol1 := Lib.hid hol1
        clear hol1 Hol
        by_cases hlt : k < n
        · obtain ⟨g, rfl, hg, hgF, hcell⟩ := Hol1.out.names.at_ hlt
          obtain ⟨p, hp⟩ : ∃ p, p = S.files[k]'(by rw [← Hn.out]; exact hlt) := ⟨_, rfl⟩
          rw [← hp] at hcell
          have hrd := read_any Hol1.out.disk Hds5.out.ok ⟨p.1.toArray⟩ (name_le Hds5.out.ok hp)
          have hdat := SD.data_at Hds5.out.ok (k := k) (by rw [← Hn.out]; exact hlt)
          rw [← hp] at hdat
          have Hrd := Lib.hid hrd
          have Hdat := Lib.hid hdat
          have Hp := Lib.hid hp
          clear hrd hp hg hgF hdat
          go_wp2_with fail
          refine Hrd.out.mono ?_
          rintro e w6 ⟨v, rfl, hrow, hb6⟩
          obtain ⟨B, bc, rfl, -⟩ := ownsRow_slice hrow
          have hol6 := Hol1.out.step hb6
          have hout : ∀ g, (Value.slice B (S.data p.1).length bc).ownBlock = some g → ¬ F3 g := fun g hg hF => by
            have h1 := (hrow.lt g hg).1
            have h2 := Hol1.out.disk.lt g hF
            omega
          have Hrow := Lib.hid hrow
          have Hout := Lib.hid hout
          have Hol6 := Lib.hid hol6
          clear hrow hout hol6 hb6 Hrd Hol1
          go_wp2_with (first | (at_builtin; refine wpList_app _ rfl _ _ 54 rfl 32 1 24 _ Try.underlying54 info32 rfl (by decide) _ k vs rfl ?hrow _ 1 [.slice B (S.data p.1).length bc] rfl ?hsrc ?h63 ?hby ?_))
          case hrow => exact Hol6.out.old.own.alloc _
          case hsrc => exact row_new w6 _ rfl
          case h63 => unfold maxLen; omega
          case hby => omega
          intro o' w7 ha
          have hol7 := Hol6.out.app Hp.out Hdat.out.1 (ownsRow_base0 Hrow.out) Hout.out ha
          obtain ⟨OA', oc', rfl, -⟩ := ownsRow_slice ha.own
          have Hol7 := Lib.hid hol7
          clear hol7 ha
          go_wp2
          exact ⟨⟨k + 1, OA', oc', _, by omega, by go_num, rfl, Hol7.out⟩, by simp [intOf]; omega⟩
        · have hkn : k = n := by omega
          subst hkn
          have hcr := crash_any Hol1.out.disk Hds5.out.ok (by have := Hds5.out.nl; omega) again a1 a2
          rw [Htw.out] at hcr
          have Hcr := Lib.hid hcr
          clear hcr
          go_wp2_with fail
          refine Hcr.out.mono ?_
          rintro e w6 ⟨rfl, F6, hd6, hu6⟩
          have hol6 := Hol1.out.crash hd6 hu6
          have hnm := names_any hol6.disk Hds5.out.ok (by have := Hds5.out.nf; omega)
          have Hol6 := Lib.hid hol6
          have Hnm := Lib.hid hnm
          clear hd6 hu6 hol6 hnm Hcr Hol1
          go_wp2_with fail
          refine Hnm.out.mono ?_
          rintro e w7 ⟨v, rfl, hown, hb7⟩
          obtain ⟨NB, nd, rfl, hnb⟩ := NamesAt.made Hol6.out.disk hown
          have hol7 := Hol6.out.step hb7
          have hst := sameTexts_any w7 _ _ _ _ hnb.texts hol7.names.texts (by rw [nameBs_length, ← Hn.out]; omega) (by rw [nameBs_length, ← Hn.out]; omega)
          rw [show decide (nameBs S = nameBs S) = true from decide_eq_true rfl] at hst
          have Hst := Lib.hid hst
          have Hol7 := Lib.hid hol7
          clear hown hb7 hnb hol7 hst Hnm Hol6
          rw [← Hn.out]
          rw [← Hn.out] at Hst
          go_wp2_with fail
          refine Hst.out.mono ?_
          rintro e w8 ⟨rfl, hb8⟩
          have hol8 := Hol7.out.step hb8
          have hsz := size_any hol8.disk Hds5.out.ok
          have Hol8 := Lib.hid hol8
          have Hsz := Lib.hid hsz
          clear hol8 hsz hb8 Hst Hol7
          go_wp2_with fail
          refine Hsz.out.mono ?_
          rintro e w9 ⟨rfl, hb9⟩
          have hol9 := Hol8.out.step hb9
          have Hol9 := Lib.hid hol9
          clear hol9 hb9 Hsz Hol8
          go_wp2_with fail
          obtain ⟨wo2, rfl⟩ : ∃ wo2 : World, wo2 = wr := ⟨_, rfl⟩
          go_loopw [16] (fun i wr => ∃ j : Nat, j ≤ k ∧ i = .int .i64 j ∧ Olds F6 w wr d S NA k nc (.slice OA k oc) k vs) (fun i _ => k - (intOf i).toNat)
          case atStart => exact ⟨0, Nat.zero_le _, rfl, Hol9.out⟩
          case round =>
            obtain ⟨j, hj, rfl, hol1⟩ := hrel
            have Hol1 := Lib.hid hol1
            clear hol1 Hol9
            by_cases hlt : j < k
            · obtain ⟨g, rfl, hg, hgF, hcell⟩ := Hol1.out.names.at_ hlt
              obtain ⟨p, hp⟩ : ∃ p, p = S.files[j]'(by rw [← Hn.out]; exact hlt) := ⟨_, rfl⟩
              rw [← hp] at hcell
              have hrd := read_any Hol1.out.disk Hds5.out.ok ⟨p.1.toArray⟩ (name_le Hds5.out.ok hp)
              have hdat := SD.data_at Hds5.out.ok (k := j) (by rw [← Hn.out]; exact hlt)
              rw [← hp] at hdat
              have hp2 : p.2.data.length ≤ 16777216 := file_small Hds5.out.ok hp
              have Hrd := Lib.hid hrd
              have Hdat := Lib.hid hdat
              have Hp := Lib.hid hp
              have Hp2 := Lib.hid hp2
              clear hrd hp hg hgF hdat hp2
              go_wp2_with fail
              refine Hrd.out.mono ?_
              rintro e w10 ⟨v, rfl, hrow, hb10⟩
              have is1 : (getF p.1 S.files).isSome = true := Hdat.out.2
              have is2 : (getF (ByteArray.mk p.1.toArray).data.toList S.files).isSome = true := is1
              rw [is2]
              have hol10 := Hol1.out.step hb10
              obtain ⟨go, u, rfl, hgo, hu⟩ := hol10.old.at_ hlt
              have hdd : ((S.files.map fun p => p.2.data).take k).getD j [] = S.data p.1 := by
                rw [Hdat.out.1, Hp.out]
                simp [hlt, ← Hn.out]
              rw [hdd] at hu
              have hv := ownsRow_srcs hrow (one_u8 _)
              have hsb := sameBytes_any w10 v u (S.data p.1) (S.data p.1) (by simpa [BytesAt] using hv) hu (by rw [Hdat.out.1]; have := Hp2.out; omega) (by rw [Hdat.out.1]; have := Hp2.out; omega)
              rw [show decide (S.data p.1 = S.data p.1) = true from decide_eq_true rfl] at hsb
              obtain ⟨B, bc, rfl, -⟩ := ownsRow_slice hrow
              have Hsb := Lib.hid hsb
              have Hol10 := Lib.hid hol10
              clear hrow hol10 hu hv hsb hb10 is1 is2 hdd Hrd Hol1
              go_wp2_with fail
              refine Hsb.out.mono ?_
              rintro e w11 ⟨rfl, hb11⟩
              have hol11 := Hol10.out.step hb11
              have Hol11 := Lib.hid hol11
              clear hol11 hb11
              go_wp2
              exact ⟨⟨j + 1, by omega, by go_num, Hol11.out⟩, by simp [intOf]; omega⟩
            · go_wp2
              go_ret
              exact ⟨rfl, Hol1.out.below⟩
end Go.Proofs.Ytkefciacdmbidaa
