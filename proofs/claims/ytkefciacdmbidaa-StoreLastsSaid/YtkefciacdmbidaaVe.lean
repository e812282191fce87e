/- StoreLasts: the walk. -/
import Derived.Test.YtkefciacdmbidaaVd
namespace Go.Proofs.Ytkefciacdmbidaa
open Go.RowKit Go.WideMaps Go.Maps

/-- how the loop over the calls runs, with what is sure -/
structure RunsSure (w0 wr : World) (d : Nat) (nm : List UInt8) (s : Nat) (k : Nat) : Prop where
  ds : ∃ F S, DS w0 wr d F S k ∧ Lasts S nm s
  small : s ≤ 16777216

def boxed (w : World) (c : CallM) : World := w.alloc (.cells #[.int .i64 c.what, .string c.nm, .string c.to, c.dv, .int .i64 c.n] 34)
theorem boxed_below (w : World) (c : CallM) : Below w.heap.size w (boxed w c) := (Below.refl _ _).alloc (Nat.le_refl _) _
/-- what a law keeps of a call in a box of its own, over the call -/
structure BoxAt (w : World) (b : Nat) (c : CallM) : Prop where
  c0 : w.cell? ⟨b, 0, none⟩ = some (.int .i64 c.what)
  c1 : w.cell? ⟨b, 1, none⟩ = some (.string c.nm)
  c2 : w.cell? ⟨b, 2, none⟩ = some (.string c.to)
theorem BoxAt.block {w w' : World} {b : Nat} {c : CallM} (h : BoxAt w b c) (hb : w'.heap[b]? = w.heap[b]?) : BoxAt w' b c :=
  ⟨(World.cell?_of_block (a := ⟨b, 0, none⟩) hb).trans h.c0, (World.cell?_of_block (a := ⟨b, 1, none⟩) hb).trans h.c1, (World.cell?_of_block (a := ⟨b, 2, none⟩) hb).trans h.c2⟩

theorem boxed_cells (w : World) (c : CallM) : BoxAt (boxed w c) w.heap.size c :=
  ⟨by unfold boxed; rw [cell_of (heap_alloc_new w _)]; rfl, by unfold boxed; rw [cell_of (heap_alloc_new w _)]; rfl, by unfold boxed; rw [cell_of (heap_alloc_new w _)]; rfl⟩

theorem DS.box_kept {wr w' : World} {d : Nat} {F : Nat → Prop} {S : SD} {c x : CallM} {e : Ending} (hn : ∀ k, F k → k < wr.heap.size) (hp : DoPost F (boxed wr x) d S c e w') : w'.heap[wr.heap.size]? = (boxed wr x).heap[wr.heap.size]? := by
  obtain ⟨F', i, hi, he, hd, hu⟩ := hp
  exact hu.block _ (by simp [boxed]) fun hF => Nat.lt_irrefl _ (hn _ hF)

theorem DS.done_sure {w0 wr w' : World} {d : Nat} {F : Nat → Prop} {S : SD} {k s : Nat} {c : CallM} {e : Ending} {nm : List UInt8} (h : DS w0 wr d F S k) (hl : Lasts S nm s) (hp : DoPost F wr d S c e w') :
    ∃ F' i, e = .returned (.int .i64 (S.act i c).1) ∧ DS w0 w' d F' (S.act i c).2 (k + 1) ∧ Lasts (S.act i c).2 nm (sureS nm (S.act i c).2 (S.act i c).1 c s) := by
  obtain ⟨F', i, hi, he, hd, hu⟩ := hp
  exact ⟨F', i, he, h.act hi hd hu, lasts_act h.ok hl i c⟩

theorem lasts_same {S : SD} {nm : List UInt8} {e : Int} {c : CallM} {s : Nat} (h : Lasts S nm (sureS nm S e c s)) (hn : ¬ (e = 0 ∧ c.what = 1 ∧ c.nm.data.toList = nm) ∧ ¬ ((e = 0 ∧ ((c.what = 2 ∧ c.nm.data.toList = nm) ∨ (c.what = 3 ∧ (c.nm.data.toList = nm ∨ c.to.data.toList = nm)))) ∨ c.what = 4)) : Lasts S nm s := by
  unfold sureS at h
  rw [if_neg hn.1, if_neg hn.2] at h
  exact h
theorem lasts_read {S : SD} {nm : List UInt8} {e : Int} {c : CallM} {s : Nat} (h : Lasts S nm (sureS nm S e c s)) (h0 : e = 0) (h1 : c.what = 1) (h2 : c.nm.data.toList = nm) : Lasts S nm (S.data nm).length := by
  unfold sureS at h
  rw [if_pos ⟨h0, h1, h2⟩] at h
  exact h
theorem name_ne {a b : ByteArray} (h : ¬ a = b) : ¬ a.data.toList = b.data.toList := fun e => h (by
  obtain ⟨⟨l⟩⟩ := a
  obtain ⟨⟨m⟩⟩ := b
  simp only at e
  rw [e])
theorem data_small {S : SD} (h : S.Ok) (nm : List UInt8) : (S.data nm).length ≤ 16777216 := by
  unfold SD.data
  cases hg : getF nm S.files with
  | none => exact Nat.zero_le _
  | some f =>
    have h1 := file_le h (getF_some hg)
    have h2 := h.room
    have h3 := h.limit
    show f.data.length ≤ _
    omega

theorem same_rows (w w' : World) (hb : Below w.heap.size w w') {v u : Value} {n : Nat} {xs : List Int} (hv : Srcs w v 1 n (xs.map (Value.int .u8))) (hu : Srcs w u 1 n (xs.map (Value.int .u8))) (hn : n = xs.length) (hx : n ≤ 140737488355328) : Calls Try.prog 22 #[v, u] w' (IsB w' true) := by
  subst hn
  have := sameBytes_any w' v u xs xs (srcs_below hv hb) (srcs_below hu hb) hx hx
  rwa [show decide (xs = xs) = true from decide_eq_true rfl] at this

set_option maxRecDepth 100000 in
set_option maxHeartbeats 2000000 in
theorem lasts_any (w : World) (A : Option Addr) (c : Nat) (cs : List CallM) (nm : ByteArray) (keep : Int) (h : CallsAt w w.heap.size A cs) (hlen : cs.length ≤ 140737488351232) (hnm : nm.size ≤ 140737488351232)
    (k1 : -9223372036854775808 ≤ keep) (k2 : keep ≤ 9223372036854775807) :
    Calls Try.prog 4 #[.slice A cs.length c, .string nm, .int .i64 keep] w (IsB w true) := by
  have Hal := Lib.hid (alive_any w)
  have H := Lib.hid h
  clear h
  go_enter Try.func4, Try.ntmps4
  go_wp2_with fail
  refine Hal.out.mono ?_
  rintro e w1 ⟨rfl, hb1⟩
  have Hg := Lib.hid (great_any w1 w.heap.size A c cs (H.out.below hb1) hlen)
  have Hb1 := Lib.hid hb1
  clear hb1 Hal
  go_wp2_with fail
  refine Hg.out.mono ?_
  rintro e w1' ⟨b, rfl, hsm, rfl⟩
  cases b with
  | true =>
    go_wp2
    go_ret
    exact ⟨rfl, Hb1.out⟩
  | false =>
  have hsm := hsm rfl
  have h80 := hsm.len
  clear hsm Hg
  by_cases hn1 : nm.size < 1
  · go_wp2
    go_ret
    exact ⟨rfl, Hb1.out⟩
  by_cases hn16 : 16 < nm.size
  · go_wp2
    go_ret
    exact ⟨rfl, Hb1.out⟩
  have Hn := Lib.hid (new_any 16777216 w1)
  go_wp2_with fail
  refine Hn.out.mono ?_
  rintro e w2 hp
  rcases hp with ⟨h, -, -⟩ | ⟨-, -, F, d, rfl, hd1, hF, hb2⟩
  · omega
  have hds : DS w w2 d F ⟨[], [], 16777216⟩ 0 := DS.start hd1 start_ok rfl rfl (fun k hk => Nat.le_trans Hb1.out.size (hF k hk)) (Hb1.out.trans (hb2.mono Hb1.out.size))
  have Hds := Lib.hid hds
  clear hd1 hF hb2 Hn hds
  go_wp2_with fail
  go_loopw [9, 10] (fun m i wr => ∃ k s : Nat, k ≤ cs.length ∧ i = .int .i64 k ∧ m = .int .i64 s ∧ RunsSure w wr d nm.data.toList s k) (fun _ i _ => cs.length - (intOf i).toNat)
  case atStart => exact ⟨0, 0, Nat.zero_le _, rfl, rfl, ⟨⟨_, _, Hds.out, lasts_zero _ _⟩, Nat.zero_le _⟩⟩
  case round =>
    obtain ⟨k, s, hk, rfl, rfl, hrs⟩ := hrel
    obtain ⟨⟨F1, S1, hds, hls⟩, hs16⟩ := hrs
    have Hds1 := Lib.hid hds
    have Hls := Lib.hid hls
    clear hds hls Hds
    by_cases hlt : k < cs.length
    · obtain ⟨bb, off, rfl, hc⟩ := H.out.at_ (fun e => by rw [e] at hlt; simp at hlt)
      have hck := hc k hlt
      obtain ⟨x, hx⟩ : ∃ x, cs[k] = x := ⟨_, rfl⟩
      rw [hx] at hck
      have hds0 := Hds1.out.step (boxed_below wr x)
      have hflt := Hds1.out.disk.lt
      have hdo := do_in hds0 hck (by omega)
      have hcb := hck.below Hds1.out.below
      have d0 := hcb.c0
      have d1 := hcb.c1
      have d2 := hcb.c2
      have d3 := hcb.c3
      have d4 := hcb.c4
      have hns1 := hcb.nmsz
      have hns2 := hcb.tosz
      obtain ⟨A1, c1, hdv, -⟩ := Srcs.slice hcb.data
      have hb0 := boxed_cells wr x
      unfold callV boxed at hdo
      have hbe : wr.alloc (.cells #[.int .i64 x.what, .string x.nm, .string x.to, .slice A1 x.data.length c1, .int .i64 x.n] 34) = boxed wr x := by
        unfold boxed
        rw [hdv]
      rw [hdv] at d3 hdo
      have Hbe := Lib.hid hbe
      have Hb0 := Lib.hid hb0
      have Hflt := Lib.hid hflt
      have Hdo := Lib.hid hdo
      have Hds0 := Lib.hid hds0
      clear hflt hc hck hx hdo hcb hds0 Hds1 hdv hb0 hbe
      go_wp2_with fail
      refine Hdo.out.mono ?_
      rintro e w3 hp
      rw [Hbe.out] at hp
      have hblk := DS.box_kept Hflt.out hp
      obtain ⟨F3, i3, rfl, hds3, hls3⟩ := Hds0.out.done_sure Hls.out hp
      have hbx := Hb0.out.block hblk
      have e0 := hbx.c0
      have e1 := hbx.c1
      have e2 := hbx.c2
      obtain ⟨ev, hev⟩ : ∃ ev, ev = (S1.act i3 x).1 := ⟨_, rfl⟩
      obtain ⟨S, hS⟩ : ∃ S, S = (S1.act i3 x).2 := ⟨_, rfl⟩
      rw [← hev, ← hS] at hls3
      rw [← hS] at hds3
      rw [← hev]
      have Hls3 := Lib.hid hls3
      have Hds3 := Lib.hid hds3
      clear hp hblk hls3 hds3 hbx hev hS Hdo Hds0 Hls Hb0 d0 d1 d2 d3 d4
      clear hn1 hn16 k1 k2
      by_cases z0 : ev = 0
      · have t0 : (ev == 0) = true := by simp [z0]
        by_cases z : x.what = 1
        · skip
          have t1 : (x.what == 1) = true := by simp [z]
          have t2 : (x.what == 2) = false := by simp [z]
          have t3 : (x.what == 3) = false := by simp [z]
          have t4 : (x.what == 4) = false := by simp [z]
          by_cases hn : x.nm = nm
          · have hs : (x.nm.toList == nm.toList) = true := by simp [hn]
            have Hz := Lib.hid z
            have Hhn := Lib.hid hn
            have Hz0 := Lib.hid z0
            clear z hn z0
            have hrd := read_any Hds3.out.disk Hds3.out.ok nm (by unfold maxLen; omega)
            have hsm := data_small Hds3.out.ok nm.data.toList
            have Hrd := Lib.hid hrd
            clear hrd
            go_wp2_with fail
            refine Hrd.out.mono ?_
            rintro e w4 ⟨v, rfl, hrow, hb4⟩
            obtain ⟨B, bc, rfl, -⟩ := ownsRow_slice hrow
            have hds4 := Hds3.out.step hb4
            have Hds4 := Lib.hid hds4
            clear hrow hb4 hds4
            go_wp2
            exact ⟨⟨k + 1, (S.data nm.data.toList).length, by omega, by go_num, rfl, ⟨⟨_, _, Hds4.out, lasts_read Hls3.out Hz0.out Hz.out (by rw [Hhn.out])⟩, hsm⟩⟩, by simp [intOf]; omega⟩
          · have hs : (x.nm.toList == nm.toList) = false := by
              rw [beq_eq_false_iff_ne]
              exact fun e => hn (toList_inj e)
            have Hz := Lib.hid z
            have Hhn := Lib.hid hn
            have Hz0 := Lib.hid z0
            clear z hn z0
            go_wp2
            exact ⟨⟨k + 1, s, by omega, by go_num, rfl, ⟨⟨_, _, Hds3.out, lasts_same Hls3.out (by simp [Hz.out, name_ne Hhn.out])⟩, hs16⟩⟩, by simp [intOf]; omega⟩
        by_cases z2 : x.what = 2
        · have z := z2
          have t1 : (x.what == 1) = false := by simp [z]
          have t2 : (x.what == 2) = true := by simp [z]
          have t3 : (x.what == 3) = false := by simp [z]
          have t4 : (x.what == 4) = false := by simp [z]
          by_cases hn : x.nm = nm
          · have hs : (x.nm.toList == nm.toList) = true := by simp [hn]
            have Hz := Lib.hid z
            have Hz2 := Lib.hid z2
            have Hhn := Lib.hid hn
            have Hz0 := Lib.hid z0
            clear z z2 hn z0
            go_wp2
            exact ⟨⟨k + 1, 0, by omega, by go_num, rfl, ⟨⟨_, _, Hds3.out, lasts_zero _ _⟩, Nat.zero_le _⟩⟩, by simp [intOf]; omega⟩
          · have hs : (x.nm.toList == nm.toList) = false := by
              rw [beq_eq_false_iff_ne]
              exact fun e => hn (toList_inj e)
            have Hz := Lib.hid z
            have Hz2 := Lib.hid z2
            have Hhn := Lib.hid hn
            have Hz0 := Lib.hid z0
            clear z z2 hn z0
            go_wp2
            exact ⟨⟨k + 1, s, by omega, by go_num, rfl, ⟨⟨_, _, Hds3.out, lasts_same Hls3.out (by simp [Hz2.out, name_ne Hhn.out])⟩, hs16⟩⟩, by simp [intOf]; omega⟩
        by_cases z3 : x.what = 3
        · have z := z3
          have t1 : (x.what == 1) = false := by simp [z]
          have t2 : (x.what == 2) = false := by simp [z]
          have t3 : (x.what == 3) = true := by simp [z]
          have t4 : (x.what == 4) = false := by simp [z]
          by_cases hn : x.nm = nm
          · have hs : (x.nm.toList == nm.toList) = true := by simp [hn]
            have Hz := Lib.hid z
            have Hz2 := Lib.hid z2
            have Hz3 := Lib.hid z3
            have Hhn := Lib.hid hn
            have Hz0 := Lib.hid z0
            clear z z2 z3 hn z0
            go_wp2
            exact ⟨⟨k + 1, 0, by omega, by go_num, rfl, ⟨⟨_, _, Hds3.out, lasts_zero _ _⟩, Nat.zero_le _⟩⟩, by simp [intOf]; omega⟩
          · have hs : (x.nm.toList == nm.toList) = false := by
              rw [beq_eq_false_iff_ne]
              exact fun e => hn (toList_inj e)
            by_cases ho : x.to = nm
            · have hs2 : (x.to.toList == nm.toList) = true := by simp [ho]
              have Hz := Lib.hid z
              have Hz2 := Lib.hid z2
              have Hz3 := Lib.hid z3
              have Hhn := Lib.hid hn
              have Hho := Lib.hid ho
              have Hz0 := Lib.hid z0
              clear z z2 z3 hn ho z0
              go_wp2
              exact ⟨⟨k + 1, 0, by omega, by go_num, rfl, ⟨⟨_, _, Hds3.out, lasts_zero _ _⟩, Nat.zero_le _⟩⟩, by simp [intOf]; omega⟩
            · have hs2 : (x.to.toList == nm.toList) = false := by
                rw [beq_eq_false_iff_ne]
                exact fun e => ho (toList_inj e)
              have Hz := Lib.hid z
              have Hz2 := Lib.hid z2
              have Hz3 := Lib.hid z3
              have Hhn := Lib.hid hn
              have Hho := Lib.hid ho
              have Hz0 := Lib.hid z0
              clear z z2 z3 hn ho z0
              go_wp2
              exact ⟨⟨k + 1, s, by omega, by go_num, rfl, ⟨⟨_, _, Hds3.out, lasts_same Hls3.out (by simp [Hz3.out, name_ne Hhn.out, name_ne Hho.out])⟩, hs16⟩⟩, by simp [intOf]; omega⟩
        by_cases z4 : x.what = 4
        · have z := z4
          have t1 : (x.what == 1) = false := by simp [z]
          have t2 : (x.what == 2) = false := by simp [z]
          have t3 : (x.what == 3) = false := by simp [z]
          have t4 : (x.what == 4) = true := by simp [z]
          have Hz := Lib.hid z
          have Hz2 := Lib.hid z2
          have Hz3 := Lib.hid z3
          have Hz4 := Lib.hid z4
          have Hz0 := Lib.hid z0
          clear z z2 z3 z4 z0
          go_wp2
          exact ⟨⟨k + 1, 0, by omega, by go_num, rfl, ⟨⟨_, _, Hds3.out, lasts_zero _ _⟩, Nat.zero_le _⟩⟩, by simp [intOf]; omega⟩
        · have z1 := z
          have t1 : (x.what == 1) = false := by simp [z1]
          have t2 : (x.what == 2) = false := by simp [z2]
          have t3 : (x.what == 3) = false := by simp [z3]
          have t4 : (x.what == 4) = false := by simp [z4]
          have Hz := Lib.hid z
          have Hz1 := Lib.hid z1
          have Hz2 := Lib.hid z2
          have Hz3 := Lib.hid z3
          have Hz4 := Lib.hid z4
          have Hz0 := Lib.hid z0
          clear z z1 z2 z3 z4 z0
          go_wp2
          exact ⟨⟨k + 1, s, by omega, by go_num, rfl, ⟨⟨_, _, Hds3.out, lasts_same Hls3.out (by simp [Hz1.out, Hz2.out, Hz3.out, Hz4.out])⟩, hs16⟩⟩, by simp [intOf]; omega⟩
      · have t0 : (ev == 0) = false := by simp [z0]
        by_cases z4 : x.what = 4
        · have t4 : (x.what == 4) = true := by simp [z4]
          have Hz4 := Lib.hid z4
          have Hz0 := Lib.hid z0
          clear z4 z0
          go_wp2
          exact ⟨⟨k + 1, 0, by omega, by go_num, rfl, ⟨⟨_, _, Hds3.out, lasts_zero _ _⟩, Nat.zero_le _⟩⟩, by simp [intOf]; omega⟩
        · have t4 : (x.what == 4) = false := by simp [z4]
          have Hz4 := Lib.hid z4
          have Hz0 := Lib.hid z0
          clear z4 z0
          go_wp2
          exact ⟨⟨k + 1, s, by omega, by go_num, rfl, ⟨⟨_, _, Hds3.out, lasts_same Hls3.out (by simp [Hz0.out, Hz4.out])⟩, hs16⟩⟩, by simp [intOf]; omega⟩
    · have hk1 : k = cs.length := by omega
      subst hk1
      have hrd := read_any Hds1.out.disk Hds1.out.ok nm (by unfold maxLen; omega)
      have hsm := data_small Hds1.out.ok nm.data.toList
      have hleft := crash_left Hds1.out.ok Hls.out keep
      have hok2 := crash_ok Hds1.out.ok keep
      have Hrd := Lib.hid hrd
      have Hleft := Lib.hid hleft
      have Hok2 := Lib.hid hok2
      clear hrd hleft hok2
      go_wp2_with fail
      refine Hrd.out.mono ?_
      rintro e w3 ⟨v, rfl, hrow, hb3⟩
      obtain ⟨B, bc, rfl, hbc⟩ := ownsRow_slice hrow
      have hout : ∀ g, (Value.slice B (S1.data nm.data.toList).length bc).ownBlock = some g → ¬ F1 g := fun g hg hF => by
        have h1 := (hrow.lt g hg).1
        have h2 := Hds1.out.disk.lt g hF
        omega
      have hds3 := Hds1.out.step hb3
      have hcr := crash_any hds3.disk hds3.ok (by have := hds3.nl; omega) keep k1 k2
      have Hrow := Lib.hid hrow
      have Hout := Lib.hid hout
      have Hds3 := Lib.hid hds3
      have Hcr := Lib.hid hcr
      clear hrow hout hds3 hcr hb3 Hrd Hls Hds1
      go_wp2_with fail
      refine Hcr.out.mono ?_
      rintro e w4 ⟨rfl, F4, hd4, hu4⟩
      have hrow4 := ownsRow_block Hrow.out fun g hg => hu4.block g (Hrow.out.lt g hg).2 (Hout.out g hg)
      have hds4 := Hds3.out.crash hd4 hu4
      have hrd := read_any hds4.disk hds4.ok nm (by unfold maxLen; omega)
      have Hrd := Lib.hid hrd
      have Hrow4 := Lib.hid hrow4
      have Hds4 := Lib.hid hds4
      clear hrow4 hds4 hrd hd4 hu4 Hrow Hout Hds3 Hcr
      go_wp2_with fail
      refine Hrd.out.mono ?_
      rintro e w5 ⟨v, rfl, hrow5, hb5⟩
      have hrowb := ownsRow_block Hrow4.out fun g hg => hb5.block g (Hrow4.out.lt g hg).2
      obtain ⟨C, cc, rfl, hcc⟩ := ownsRow_slice hrow5
      have hds5 := Hds4.out.step hb5
      obtain ⟨n1, hn1e⟩ : ∃ n1, n1 = (S1.data nm.data.toList).length := ⟨_, rfl⟩
      obtain ⟨n2, hn2e⟩ : ∃ n2, n2 = ((S1.crash keep).data nm.data.toList).length := ⟨_, rfl⟩
      have hlow := Hleft.out.low
      have hhigh := Hleft.out.high
      rw [← hn1e, ← hn2e] at hhigh
      rw [← hn2e] at hlow hrow5 hcc
      rw [← hn1e] at hrowb hbc hsm
      rw [← hn1e, ← hn2e]
      have hlsc := loose_any hds5.disk (by rw [Hleft.out.loose]; omega) (Nat.zero_le _)
      rw [Hleft.out.loose] at hlsc
      have Hlsc := Lib.hid hlsc
      have Hds5 := Lib.hid hds5
      have Hrowb := Lib.hid hrowb
      have Hrow5 := Lib.hid hrow5
      have Hn1 := Lib.hid hn1e
      have Hn2 := Lib.hid hn2e
      clear hlsc hds5 hrowb hrow5 hb5 hn1e hn2e Hrow4 Hds4 Hrd
      obtain ⟨b1, hb1⟩ : ∃ b, b = (getF nm.data.toList (S1.crash keep).files).isSome := ⟨_, rfl⟩
      obtain ⟨b2, hb2⟩ : ∃ b, b = (getF nm.data.toList S1.files).isSome := ⟨_, rfl⟩
      have hbb : b1 = true → b2 = true := fun h => by rw [hb2]; rw [hb1] at h; exact Hleft.out.is h
      rw [← hb1, ← hb2]
      clear hb1 hb2
      have hbt := ownsRow_take (ownsRow_base0 Hrowb.out) hhigh
      have hb0 := ownsRow_srcs hbt fun u hu => one_u8 _ u (List.mem_of_mem_take hu)
      have hb5 := ownsRow_srcs Hrow5.out (one_u8 _)
      have hsame := Hleft.out.same
      rw [← Hn2.out] at hsame
      rw [← List.map_take, ← hsame] at hb0
      have hsb := fun w6 (hb : Below w5.heap.size w5 w6) => same_rows w5 w6 hb hb5 hb0 Hn2.out (by have := data_small Hds5.out.ok nm.data.toList; omega)
      have Hsb := Lib.hid hsb
      clear hbt hb0 hb5 hsame hsb
      cases b1 with
      | false =>
        go_wp2_with fail
        refine Hlsc.out.mono ?_
        rintro e w6 ⟨rfl, hb6⟩
        have hsb6 := Hsb.out w6 hb6
        have hds6 := Hds5.out.step hb6
        have Hsb6 := Lib.hid hsb6
        have Hds6 := Lib.hid hds6
        clear hb6 hsb6 hds6
        go_wp2_with fail
        refine Hsb6.out.mono ?_
        rintro e w7 ⟨rfl, hb7⟩
        have hds7 := Hds6.out.step hb7
        have Hds7 := Lib.hid hds7
        clear hb7 hds7
        go_wp2
        go_ret
        exact ⟨rfl, Hds7.out.below⟩
      | true =>
        obtain rfl := hbb rfl
        go_wp2_with fail
        refine Hlsc.out.mono ?_
        rintro e w6 ⟨rfl, hb6⟩
        have hsb6 := Hsb.out w6 hb6
        have hds6 := Hds5.out.step hb6
        have Hsb6 := Lib.hid hsb6
        have Hds6 := Lib.hid hds6
        clear hb6 hsb6 hds6
        go_wp2_with fail
        refine Hsb6.out.mono ?_
        rintro e w7 ⟨rfl, hb7⟩
        have hds7 := Hds6.out.step hb7
        have Hds7 := Lib.hid hds7
        clear hb7 hds7
        go_wp2
        go_ret
        exact ⟨rfl, Hds7.out.below⟩
end Go.Proofs.Ytkefciacdmbidaa
