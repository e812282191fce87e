/- ManifestCrash: the walk. -/
import Derived.Test.YtkefciacdmbidaaHh
namespace Go.Proofs.Ytkefciacdmbidaa
open Go.RowKit Go.WideMaps Go.Maps Go.Lib

/-- how the law runs -/
def Crashing (w w1 wr : World) (d q : Nat) (av : Value) : Prop :=
  ∃ F xs last A c, CrashAt w1 wr d q F xs last av (.slice A last.tables.length c) ∧ IntsAt w (.slice A last.tables.length c) last.tables

theorem ints_one {w : World} {g : Nat} {a : Int} (h : w.heap[g]? = some (.cells #[.int .i64 a] 3 (0, 0))) : IntsAt w (.slice (some ⟨g, 0, none⟩) 1 1) [a] := by
  refine Or.inr ⟨⟨g, 0, none⟩, 1, rfl, Nat.le_refl _, rfl, fun j u hj => ?_, one_i64 _⟩
  have hj1 := (List.getElem?_eq_some_iff.1 hj).1
  have : j = 0 := by simpa using hj1
  subst this
  rw [add_flat', Nat.zero_add, cell_of h]
  exact hj

set_option maxRecDepth 100000 in
set_option maxHeartbeats 4000000 in
theorem mcrash_any (w : World) (A : Option Addr) (c : Nat) (ss : List MS) (keep : Int) (h : StatesAt w A ss) (hk : -9223372036854775808 ≤ keep ∧ keep ≤ 9223372036854775807) : Calls Try.prog 10 #[.slice A ss.length c, .int .i64 keep] w (IsB w true) := by
  have Hal := Lib.hid (alive11_any w)
  have H := Lib.hid h
  clear h
  go_enter Try.func10, Try.ntmps10
  go_wp2_with fail
  refine Hal.out.mono ?_
  rintro e w1 ⟨rfl, hb1⟩
  have Hb1 := Lib.hid hb1
  clear hb1 Hal
  by_cases h100 : 100 < ss.length
  · have h100' : (100 : Int) < (ss.length : Int) := by omega
    go_wp2
    go_ret
    exact ⟨rfl, Hb1.out⟩
  have h100' : ¬ (100 : Int) < (ss.length : Int) := by omega
  have Hnew := Lib.hid (new_any 1048576 w1)
  go_wp2_with fail
  refine Hnew.out.mono ?_
  rintro e w2 hp
  rcases hp with ⟨hno, -, -⟩ | ⟨-, -, F, d, rfl, hd1, hF, hb2⟩
  · omega
  have hm2 : DM w1 w2 d F [] ms0 1048576 := dm_new (by decide) hd1 hF hb2
  obtain ⟨w3, hw3⟩ : ∃ w3, w3 = w2.alloc (.cells #[] 5) := ⟨_, rfl⟩
  have hb23 := (Below.refl w2.heap.size w2).alloc (Nat.le_refl _) (.cells #[] 5)
  rw [← hw3] at hb23
  have hrow3 : w3.ownsRow w1.heap.size 5 1 (.slice (some ⟨w2.heap.size, 0, none⟩) 0 0) 0 [] := by
    rw [hw3]
    exact ownsRow_rebase (Buf.made 5 1 (Below.refl w2.heap.size w2)).own fun g hg => by
      cases hg
      exact hb2.size
  have hout3 : ∀ g, (Value.slice (some ⟨w2.heap.size, 0, none⟩) 0 0).ownBlock = some g → ¬ F g := fun g hg hf => by
    cases hg
    exact Nat.lt_irrefl _ (hm2.lt _ hf)
  have hm3 := hm2.step hb23
  have Hm3 := Lib.hid hm3
  have Hrow3 := Lib.hid hrow3
  have Hout3 := Lib.hid hout3
  have Hfi := Lib.hid (first_any w3)
  unfold stV at Hfi
  clear hd1 hF hb2 hm2 hb23 hrow3 hout3 hm3 Hnew
  go_upto_region 9 with (fail)
  rw [← hw3]
  clear hw3
  go_wp2_with fail
  refine Hfi.out.mono ?_
  rintro e w4 ⟨rfl, hb4⟩
  obtain ⟨w5, hw5⟩ : ∃ w5, w5 = w4.alloc (.cells #[.int .i64 0, .int .i64 0, .int .i64 1, .slice none 0 0] 59) := ⟨_, rfl⟩
  have hb45 := (Below.refl w4.heap.size w4).alloc (Nat.le_refl _) (.cells #[.int .i64 0, .int .i64 0, .int .i64 1, .slice none 0 0] 59)
  have hbox5 : KB F w5 w4.heap.size (boxV 0 0 1 (.slice none 0 0) 59) := ⟨by rw [hw5]; exact heap_alloc_new w4 _, fun hf => Nat.lt_irrefl _ (Nat.lt_of_lt_of_le (Hm3.out.lt _ hf) hb4.size)⟩
  rw [← hw5] at hb45
  have hb35 : Below w3.heap.size w3 w5 := hb4.trans (hb45.mono hb4.size)
  have hca : CrashAt w1 w5 d w4.heap.size F [] ms0 (.slice (some ⟨w2.heap.size, 0, none⟩) 0 0) (.slice none 0 0) :=
    ⟨Hm3.out.step hb35, hbox5, Nat.le_trans Hm3.out.below.size hb4.size, ownsRow_block Hrow3.out fun g hg => hb35.block g (Hrow3.out.lt g hg).2, Hout3.out, by decide⟩
  have Hcr := Lib.hid (show Crashing w w1 w5 d w4.heap.size (.slice (some ⟨w2.heap.size, 0, none⟩) 0 0) from ⟨F, [], ms0, none, 0, hca, row0_at w⟩)
  clear hb4 hb45 hbox5 hb35 hca Hfi
  go_upto_region 10 with (fail)
  rw [← hw5]
  clear hw5
  obtain ⟨q, hq⟩ : ∃ q, q = w4.heap.size := ⟨_, rfl⟩
  rw [← hq] at Hcr ⊢
  clear hq
  go_wp2_with fail
  go_loopw [7, 9] (fun a i wr => ∃ k : Nat, k ≤ ss.length ∧ i = .int .i64 k ∧ (∃ B n m, a = .slice B n m) ∧ Crashing w w1 wr d q a) (fun _ i _ => ss.length - (intOf i).toNat)
  case atStart => exact ⟨0, Nat.zero_le _, rfl, ⟨_, _, _, rfl⟩, Hcr.out⟩
  case round =>
    obtain ⟨k, hkl, rfl, ⟨B, n, m, rfl⟩, hcr⟩ := hrel
    have Hc := Lib.hid hcr
    clear hcr Hcr
    obtain ⟨F1, xs, last, AL, cL, hca, hil⟩ := Hc.out
    have hbw : Below w.heap.size w wr := Hb1.out.trans (hca.dm.below.mono Hb1.out.size)
    have Hca := Lib.hid hca
    have Hil := Lib.hid hil
    have Hbw := Lib.hid hbw
    clear hca hil hbw
    by_cases hlt : k < ss.length
    · obtain ⟨b, off, rfl, hbl, hst⟩ := H.out.at_ (fun e => by rw [e] at hlt; simp at hlt)
      have hsk := hst k hlt
      obtain ⟨s, hs⟩ : ∃ s, s = ss[k] := ⟨_, rfl⟩
      rw [← hs] at hsk
      obtain ⟨A3, m3, e3, hi3⟩ := hsk.ex
      have d0 : wr.cell? ⟨b, off + k * 4, none⟩ = some (.int .i64 s.gen) := (Hbw.out.cell (p := ⟨b, off + k * 4, none⟩) hbl).trans hsk.c0
      have d1 : wr.cell? ⟨b, off + k * 4 + 1, none⟩ = some (.int .i64 s.applied) := (Hbw.out.cell (p := ⟨b, off + k * 4 + 1, none⟩) hbl).trans hsk.c1
      have d2 : wr.cell? ⟨b, off + k * 4 + 2, none⟩ = some (.int .i64 s.next) := (Hbw.out.cell (p := ⟨b, off + k * 4 + 2, none⟩) hbl).trans hsk.c2
      have d3 : wr.cell? ⟨b, off + k * 4 + 3, none⟩ = some (.slice A3 s.tables.length m3) := (Hbw.out.cell (p := ⟨b, off + k * 4 + 3, none⟩) hbl).trans e3
      have Hi3 := Lib.hid hi3
      have Hsk := Lib.hid hsk
      have He3 := Lib.hid e3
      clear hst hs hsk hi3 e3
      by_cases h60 : 60 < s.tables.length
      · have h60' : (60 : Int) < (s.tables.length : Int) := by omega
        go_wp2
        go_ret
        exact ⟨rfl, Hbw.out⟩
      have h60' : ¬ (60 : Int) < (s.tables.length : Int) := by omega
      have Hof := Lib.hid (of_any wr s.gen s.applied s.next s.tables _ (srcs_below Hi3.out Hbw.out) (by omega))
      unfold stV at Hof
      go_wp2_with fail
      refine Hof.out.mono ?_
      rintro e w6 ⟨tv6, rfl, hown6, hb6⟩
      obtain ⟨A6, c6, rfl, -⟩ := ownsRow_slice hown6
      have hca6 := Hca.out.step hb6
      have Hsv := Lib.hid (dm_save hca6.dm s _ (ownsRow_srcs hown6 (one_i64 _)) (by omega) (fun hR => by have := hca6.len; have := hR.basic.t; omega))
      have Hca6 := Lib.hid hca6
      unfold msV at Hsv
      clear hown6 hca6 hb6 Hof d0 d1 d2 d3
      go_wp2_with fail
      refine Hsv.out.mono ?_
      rintro e w7 hp
      rcases hp with ⟨hfit, rfl, F7, xs7, hm7, hu7, -, hx7⟩ | ⟨hno, rfl, F7, hm7, hu7⟩
      · have hca7 := (Hca6.out.box.upd hu7)
        have hR7 := hfit.1.basic.t
        have hbw7 : Below w.heap.size w w7 := Hb1.out.trans (hm7.below.mono Hb1.out.size)
        have d0 : w7.cell? ⟨b, off + k * 4, none⟩ = some (.int .i64 s.gen) := (hbw7.cell (p := ⟨b, off + k * 4, none⟩) hbl).trans Hsk.out.c0
        have d1 : w7.cell? ⟨b, off + k * 4 + 1, none⟩ = some (.int .i64 s.applied) := (hbw7.cell (p := ⟨b, off + k * 4 + 1, none⟩) hbl).trans Hsk.out.c1
        have d2 : w7.cell? ⟨b, off + k * 4 + 2, none⟩ = some (.int .i64 s.next) := (hbw7.cell (p := ⟨b, off + k * 4 + 2, none⟩) hbl).trans Hsk.out.c2
        have d3 : w7.cell? ⟨b, off + k * 4 + 3, none⟩ = some (.slice A3 s.tables.length m3) := (hbw7.cell (p := ⟨b, off + k * 4 + 3, none⟩) hbl).trans He3.out
        have hcs := boxV_cells hca7
        have b0 := hcs.1
        have b1 := hcs.2.1
        have b2 := hcs.2.2.1
        have b3 := hcs.2.2.2
        have f0 := free_of hca7.at_ 0
        have f1 := free_of hca7.at_ 1
        have f2 := free_of hca7.at_ 2
        have f3 := free_of hca7.at_ 3
        have hbs := box_set (g' := s.gen) (a' := s.applied) (n' := s.next) (tv' := .slice A3 s.tables.length m3) hm7 hca7 Hca6.out.qlo
        obtain ⟨w8, hw8⟩ : ∃ w8, w8 = ((((w7.setCell ⟨q, 0, none⟩ (.int .i64 s.gen)).setCell ⟨q, 1, none⟩ (.int .i64 s.applied)).setCell ⟨q, 2, none⟩ (.int .i64 s.next)).setCell ⟨q, 3, none⟩ (.slice A3 s.tables.length m3)) := ⟨_, rfl⟩
        rw [← hw8] at hbs
        have Hld := Lib.hid (dm_load hbs.1)
        have Hbs := Lib.hid hbs
        have hx7' : xs7.length ≤ 3000 := by omega
        clear hm7 hu7 hx7 hca7 hbw7 hcs hbs Hsv
        go_upto_region 17 with (fail)
        rw [← hw8]
        clear hw8
        go_wp2_with fail
        refine Hld.out.mono ?_
        rintro e w9 ⟨hb9, tv9, rfl, hown9⟩
        obtain ⟨A9, c9, rfl, -⟩ := ownsRow_slice hown9
        obtain ⟨w10, hw10⟩ : ∃ w10, w10 = w9.alloc (.cells #[.int .i64 s.gen, .int .i64 s.applied, .int .i64 s.next, .slice A9 s.tables.length c9] 61) := ⟨_, rfl⟩
        have hb910 := (Below.refl w9.heap.size w9).alloc (Nat.le_refl _) (.cells #[.int .i64 s.gen, .int .i64 s.applied, .int .i64 s.next, .slice A9 s.tables.length c9] 61)
        have hx10 : KB (fun _ => False) w10 w9.heap.size (boxV s.gen s.applied s.next (.slice A9 s.tables.length c9) 61) := ⟨by rw [hw10]; exact heap_alloc_new w9 _, id⟩
        rw [← hw10] at hb910
        have hb810 := hb9.trans (hb910.mono hb9.size)
        have hm10 := Hbs.out.1.step hb810
        have hk10 := Hbs.out.2.step hb810
        have hbw10 : Below w.heap.size w w10 := Hb1.out.trans (hm10.below.mono Hb1.out.size)
        have hcs := boxV_cells hk10
        have b0 := hcs.1
        have b1 := hcs.2.1
        have b2 := hcs.2.2.1
        have b3 := hcs.2.2.2
        have hcs := boxV_cells hx10
        have x0 := hcs.1
        have x1 := hcs.2.1
        have x2 := hcs.2.2.1
        have x3 := hcs.2.2.2
        have hrx : IntsAt w10 (.slice A9 s.tables.length c9) s.tables := srcs_below (ownsRow_srcs hown9 (one_i64 _)) hb910
        have hsm := same_true w10 s.gen s.applied s.next s.gen s.applied s.next _ _ s.tables s.tables hrx (srcs_below Hi3.out hbw10) (by omega) (by omega) (sameSt_refl _ _ _ _)
        unfold stV at hsm
        have Hsm := Lib.hid hsm
        have Hm10 := Lib.hid hm10
        have Hk10 := Lib.hid hk10
        clear hb9 hown9 hb910 hx10 hb810 hm10 hk10 hbw10 hcs hrx hsm Hld
        unfold msV
        go_upto_region 18 with (fail)
        rw [← hw10]
        clear hw10
        go_wp2_with fail
        refine Hsm.out.mono ?_
        rintro e w11 ⟨rfl, hb11⟩
        have hm11 := Hm10.out.step hb11
        have Hnl := Lib.hid hm11.noloose
        have Hm11 := Lib.hid hm11
        have Hk11 := Lib.hid (Hk10.out.step hb11)
        clear hm11 hb11 Hsm b0 b1 b2 b3 x0 x1 x2 x3
        go_wp2_with fail
        refine Hnl.out.mono ?_
        rintro e w12 ⟨rfl, hb12⟩
        have hm12 := Hm11.out.step hb12
        have Hra := Lib.hid hm12.readall
        have Hm12 := Lib.hid hm12
        have Hk12 := Lib.hid (Hk11.out.step hb12)
        clear hm12 hb12 Hnl
        go_wp2_with fail
        refine Hra.out.mono ?_
        rintro e w13 ⟨v13, b13, rfl, hown13, hb13⟩
        obtain ⟨A13, c13, rfl, -⟩ := ownsRow_slice hown13
        have hnew : CrashAt w1 w13 d q F7 xs7 s (.slice A13 xs7.length c13) (.slice A3 s.tables.length m3) :=
          ⟨Hm12.out.step hb13, Hk12.out.step hb13, Hca6.out.qlo, ownsRow_rebase hown13 fun g hg => Nat.le_trans Hm12.out.below.size (hown13.lt g hg).1, fun g hg hf => by
            have h1 := Hm12.out.lt g hf
            have h2 := (hown13.lt g hg).1
            omega, hx7'⟩
        have Hnew2 := Lib.hid (show Crashing w w1 w13 d q (.slice A13 xs7.length c13) from ⟨F7, xs7, s, A3, m3, hnew, Hi3.out⟩)
        clear hown13 hb13 hnew Hra
        go_wp2
        exact ⟨⟨k + 1, by omega, by go_num, ⟨_, _, _, rfl⟩, Hnew2.out⟩, by simp [intOf]; omega⟩
      · have hca7 := Hca6.out.upd hm7 hu7
        have Hnew2 := Lib.hid (show Crashing w w1 w7 d q (.slice B n m) from ⟨F7, xs, last, AL, cL, hca7, Hil.out⟩)
        clear hm7 hu7 hno hca7 Hsv
        go_wp2
        exact ⟨⟨k + 1, by omega, by go_num, ⟨_, _, _, rfl⟩, Hnew2.out⟩, by simp [intOf]; omega⟩
    · obtain ⟨L1, hL1⟩ : ∃ g, g = last.gen := ⟨_, rfl⟩
      have hrg := Hca.out.dm.good.rng
      have hcs := boxV_cells Hca.out.box
      have b0 := hcs.1
      have b1 := hcs.2.1
      have b2 := hcs.2.2.1
      have b3 := hcs.2.2.2
      obtain ⟨nx, hnx⟩ : ∃ s : MS, s = ⟨last.gen + 1, 7, 9, [8]⟩ := ⟨_, rfl⟩
      obtain ⟨w6, hw6⟩ : ∃ w6, w6 = (wr.alloc (.cells #[.int .i64 8] 3)).alloc (.cells #[.int .i64 (last.gen + 1), .int .i64 7, .int .i64 9, .slice (some ⟨wr.heap.size, 0, none⟩) 1 1] 59) := ⟨_, rfl⟩
      have hb6 : Below wr.heap.size wr w6 := by rw [hw6]; exact ((Below.refl _ _).alloc (Nat.le_refl _) _).alloc (by simp) _
      have hrow6 : IntsAt w6 (.slice (some ⟨wr.heap.size, 0, none⟩) 1 1) [8] := by
        rw [hw6]
        exact (row1_at wr 8).alloc _
      have hbn : KB F1 w6 (wr.heap.size + 1) (boxV (last.gen + 1) 7 9 (.slice (some ⟨wr.heap.size, 0, none⟩) 1 1) 59) := by
        refine ⟨?_, fun hf => by have := Hca.out.dm.lt _ hf; omega⟩
        rw [hw6]
        have := heap_alloc_new (wr.alloc (.cells #[.int .i64 8] 3)) (.cells #[.int .i64 (last.gen + 1), .int .i64 7, .int .i64 9, .slice (some ⟨wr.heap.size, 0, none⟩) 1 1] 59)
        simpa [boxV] using this
      have hro : KB F1 w6 wr.heap.size (.cells #[.int .i64 8] 3 (0, 0)) := by
        refine ⟨?_, fun hf => by have := Hca.out.dm.lt _ hf; omega⟩
        rw [hw6, Below.heap_alloc _ _ _ (by simp)]
        exact heap_alloc_new wr _
      have Hro := Lib.hid hro
      clear hro
      have hca6 := Hca.out.step hb6
      have hcs := boxV_cells hbn
      have n0 := hcs.1
      have n1 := hcs.2.1
      have n2 := hcs.2.2.1
      have n3 := hcs.2.2.2
      have hen := rencode_any w6 nx (.slice (some ⟨wr.heap.size, 0, none⟩) 1 1) (by rw [hnx]; exact hrow6) (by rw [hnx]; exact (show (1 : Nat) ≤ 1000000 by decide))
      have hst : stV nx.gen nx.applied nx.next (.slice (some ⟨wr.heap.size, 0, none⟩) 1 1) = .agg #[.int .i64 (last.gen + 1), .int .i64 7, .int .i64 9, .slice (some ⟨wr.heap.size, 0, none⟩) 1 1] := by rw [hnx]; rfl
      rw [hst] at hen
      have Hen := Lib.hid hen
      have Hbn := Lib.hid hbn
      have Hrow6 := Lib.hid hrow6
      have Hca6 := Lib.hid hca6
      have Hnx := Lib.hid hnx
      have hg1 := hrg.1
      have hg2 := hrg.2.1
      clear hcs hb6 hrow6 hbn hca6 hen hst hrg hL1 hnx
      go_upto_region 22 with (fail)
      rw [← hw6]
      clear hw6 b1 b2 b3
      go_wp2_with fail
      refine Hen.out.mono ?_
      rintro e w7 ⟨hb7, ⟨hR, v7, rfl, hown7⟩ | ⟨hR, rfl⟩⟩
      · obtain ⟨A7, c7, rfl, -⟩ := ownsRow_slice hown7
        have Hfr := Lib.hid (rframe_any w7 _ (encB nx) (ownsRow_srcs hown7 (one_u8 _)) (encB_oct hR) (by have := encB_len hR; omega))
        have hbn7 := Hbn.out.step hb7
        have hca7 := Hca6.out.step hb7
        have Hrow7 := Lib.hid (srcs_below Hrow6.out hb7)
        have Hbn7 := Lib.hid hbn7
        have Hro7 := Lib.hid (Hro.out.step hb7)
        have Hca7 := Lib.hid hca7
        have HR := Lib.hid hR
        clear hown7 hbn7 hca7 hb7 hR Hen
        go_wp2_with fail
        refine Hfr.out.mono ?_
        rintro e w8 ⟨v8, rfl, hown8, hb8⟩
        have hxl := encB_len HR.out
        have hfl : (frameB (encB nx)).length ≤ 1000 := by
          have := numN_len 2 (encB nx).length (by omega)
          rw [frameB_len]; omega
        have hoct := frameB_oct (encB_oct HR.out) (show (encB nx).length ≤ 65536 by omega)
        obtain ⟨f, hf⟩ : ∃ f, f = frameB (encB nx) := ⟨_, rfl⟩
        rw [← hf] at hown8 hfl hoct
        obtain ⟨A8, c8, rfl, hc8⟩ := ownsRow_slice hown8
        have Hbn8 := Lib.hid (Hbn7.out.step hb8)
        have Hro8 := Lib.hid (Hro7.out.step hb8)
        have hca8 := Hca7.out.step hb8
        have Hrow8 := Lib.hid (srcs_below Hrow7.out hb8)
        have Hca8 := Lib.hid hca8
        obtain ⟨fl, hfl'⟩ : ∃ n, n = f.length := ⟨_, rfl⟩
        obtain ⟨kk, hkk⟩ : ∃ kk : Nat, max (min keep (fl : Int)) 0 = (kk : Int) := ⟨(max (min keep (fl : Int)) 0).toNat, by omega⟩
        have hkf : kk ≤ fl := by omega
        rw [← hfl'] at hown8 hfl hc8 ⊢
        have hpre : BytesAt w8 (.slice A8 kk c8) (f.take kk) := by
          have h8 := ownsRow_srcs hown8 (one_u8 _)
          rw [hfl'] at h8
          have := bytes_pre (k := kk) (A := A8) (c := c8) (xs := f) h8 (by omega)
          rw [List.length_take, show min kk f.length = kk by omega] at this
          exact this
        have hrl := Hca8.out.row.1
        have hcl := Hca8.out.len
        have hn : n = xs.length := by
          obtain ⟨A', c', e, -⟩ := ownsRow_slice Hca8.out.row
          cases e
          rfl
        subst hn
        have hkc : kk ≤ c8 := by omega
        have Hpre := Lib.hid hpre
        have Hf := Lib.hid hf
        have Hfl := Lib.hid hfl'
        have Hoct := Lib.hid hoct
        clear hown8 hb8 hca8 hoct hf hfl' hpre hrl Hfr hxl
        go_wp2_with (first | (at_builtin; go_loud (refine wpList_app _ rfl _ _ 32 rfl 5 1 1 _ Try.underlying32 info5 rfl (by decide) _ xs.length (xs.map (Value.int .u8)) rfl ?hrow _ kk ((f.take kk).map (Value.int .u8)) rfl ?hsrc ?h63 ?hby ?_)))
        case hrow => exact ownsRow_base0 Hca8.out.row
        case hsrc =>
          have hp := Hpre.out
          have hl : (f.take kk).length = kk := by rw [List.length_take]; have := Hfl.out; omega
          have hp2 : Srcs w8 (.slice A8 kk c8) 1 (f.take kk).length ((f.take kk).map (Value.int .u8)) := hp
          rw [hl] at hp2
          exact hp2
        case h63 => unfold maxLen; omega
        case hby => omega
        intro o9 w9 ha
        have hgr : ∀ j o, j < w8.heap.size → w8.heap[j]? = some o → (∀ cs, o ≠ .cells cs 5 (0, 0)) → w9.heap[j]? = some o := fun j o hj ho hne => by
          rw [← ho]
          refine ha.grown.block j hj fun e => ?_
          obtain ⟨cs, hc⟩ := ownsRow_type Hca8.out.row e.symm
          rw [ho] at hc
          exact hne cs (by injection hc)
        have hown9 := ha.own
        rw [← List.map_take, ← List.map_append] at hown9
        have hl9 : (xs ++ f.take kk).length = xs.length + kk := by rw [List.length_append, List.length_take]; have := Hfl.out; omega
        obtain ⟨A9, c9, rfl, -⟩ := ownsRow_slice hown9
        have hby9 : BytesAt w9 (.slice A9 (xs.length + kk) c9) (xs ++ f.take kk) := by
          have h9 := ownsRow_srcs hown9 (one_u8 _)
          show Srcs w9 _ 1 (xs ++ f.take kk).length _
          rw [hl9]
          exact h9
        have hb9 : Below w.heap.size w w9 := by
          have h1 := Hb1.out.trans (Hca8.out.dm.below.mono Hb1.out.size)
          exact h1.trans ⟨ha.grown.os, ha.grown.tape, ha.grown.output, ha.grown.size, fun j hj => ha.grown.block j (Nat.lt_of_lt_of_le hj h1.size) fun e => by
            have := (Hca8.out.row.lt j e.symm).1
            have := Hb1.out.size
            omega⟩
        have hq9 : KB (fun _ => False) w9 q (boxV last.gen last.applied last.next (.slice AL last.tables.length cL) 59) := ⟨hgr q _ Hca8.out.box.lt Hca8.out.box.at_ (fun cs e => by cases e), id⟩
        have hn9 : KB (fun _ => False) w9 (wr.heap.size + 1) (boxV (last.gen + 1) 7 9 (.slice (some ⟨wr.heap.size, 0, none⟩) 1 1) 59) := ⟨hgr _ _ Hbn8.out.lt Hbn8.out.at_ (fun cs e => by cases e), id⟩
        have hdm := Hca8.out.dm
        have hoc : Octets (xs ++ f.take kk) := hdm.good.oct.app (Hoct.out.take kk)
        have hrd := mread_any w9 _ (xs ++ f.take kk) hby9 hoc (by omega)
        have hfits : last.gen = 0 ∨ nx.gen = last.gen + 1 := Or.inr (by rw [Hnx.out])
        have Hb9 := Lib.hid hb9
        have Hq9 := Lib.hid hq9
        have Hn9 := Lib.hid hn9
        have Hr9 := Lib.hid (ints_one (hgr _ _ Hro8.out.lt Hro8.out.at_ (fun cs e => by cases e)))
        have Hl9 := Lib.hid hl9
        by_cases hkl2 : kk = fl
        · subst hkl2
          have e1 : f.take kk = f := List.take_of_length_le (by rw [Hfl.out]; exact Nat.le_refl _)
          have hgood := (hdm.good.next HR.out hfits).read
          rw [← Hf.out] at hgood
          rw [e1] at hrd
          rw [hgood] at hrd
          have hN : ((xs ++ f).length : Int) = (xs.length : Int) + kk := by rw [List.length_append, ← Hfl.out]; omega
          rw [hN] at hrd
          have Hrd := Lib.hid hrd
          clear ha hgr hown9 hby9 hb9 hq9 hn9 hdm hoc hrd hfits hl9 e1 hgood hN b0 n0 n1 n2 n3
          go_wp2_with fail
          refine Hrd.out.mono ?_
          rintro e w10 ⟨hb10, tv10, rfl, hown10⟩
          have e1 : nx.gen = last.gen + 1 := by rw [Hnx.out]
          have e2 : nx.applied = 7 := by rw [Hnx.out]
          have e3 : nx.next = 9 := by rw [Hnx.out]
          have e4 : nx.tables = [8] := by rw [Hnx.out]
          rw [e4] at hown10
          replace hown10 : w10.ownsRow w9.heap.size 3 1 tv10 1 [.int .i64 8] := hown10
          obtain ⟨A10, c10, rfl, -⟩ := ownsRow_slice hown10
          unfold msV
          rw [e1, e2, e3]
          clear e1 e2 e3 e4
          obtain ⟨w11, hw11⟩ : ∃ w11, w11 = w10.alloc (.cells #[.int .i64 (last.gen + 1), .int .i64 7, .int .i64 9, .slice A10 1 c10] 61) := ⟨_, rfl⟩
          have hb1011 := (Below.refl w10.heap.size w10).alloc (Nat.le_refl _) (.cells #[.int .i64 (last.gen + 1), .int .i64 7, .int .i64 9, .slice A10 1 c10] 61)
          have hx11 : KB (fun _ => False) w11 w10.heap.size (boxV (last.gen + 1) 7 9 (.slice A10 1 c10) 61) := ⟨by rw [hw11]; exact heap_alloc_new w10 _, id⟩
          rw [← hw11] at hb1011
          have hb911 := hb10.trans (hb1011.mono hb10.size)
          have hcs := boxV_cells (Hn9.out.step hb911)
          have n0 := hcs.1
          have n1 := hcs.2.1
          have n2 := hcs.2.2.1
          have n3 := hcs.2.2.2
          have hcs := boxV_cells hx11
          have x0 := hcs.1
          have x1 := hcs.2.1
          have x2 := hcs.2.2.1
          have x3 := hcs.2.2.2
          have hsm := same_true w11 (last.gen + 1) 7 9 (last.gen + 1) 7 9 _ _ [8] [8] (srcs_below (ownsRow_srcs hown10 (one_i64 [8])) hb1011) (srcs_below Hr9.out hb911) (by decide) (by decide) (sameSt_refl _ _ _ _)
          unfold stV at hsm
          have Hsm := Lib.hid hsm
          have Hbw11 := Lib.hid (Hb9.out.trans (hb911.mono Hb9.out.size))
          clear hb10 hown10 hb1011 hx11 hb911 hcs hsm Hrd
          go_upto_region 28 with (fail)
          rw [← hw11]
          clear hw11
          go_wp2_with fail
          refine Hsm.out.mono ?_
          rintro e w12 ⟨rfl, hb12⟩
          have Hb12 := Lib.hid (Hbw11.out.trans (hb12.mono Hbw11.out.size))
          clear hb12
          go_wp2
          go_ret
          exact ⟨rfl, Hb12.out⟩
        · have hklt : kk < (frameB (encB nx)).length := by rw [← Hf.out, ← Hfl.out]; omega
          have htorn := hdm.good.torn (x := encB nx) (by have := encB_len HR.out; omega) hklt
          rw [← Hf.out] at htorn
          rw [htorn] at hrd
          have Hrd := Lib.hid hrd
          have hkl3 : ((kk : Int) == (fl : Int)) = false := by simp; omega
          clear ha hgr hown9 hby9 hb9 hq9 hn9 hdm hoc hrd hfits hl9 hklt htorn b0 n0 n1 n2 n3
          go_wp2_with fail
          refine Hrd.out.mono ?_
          rintro e w10 ⟨hb10, tv10, rfl, hown10⟩
          obtain ⟨A10, c10, rfl, -⟩ := ownsRow_slice hown10
          unfold msV
          obtain ⟨w11, hw11⟩ : ∃ w11, w11 = w10.alloc (.cells #[.int .i64 last.gen, .int .i64 last.applied, .int .i64 last.next, .slice A10 last.tables.length c10] 61) := ⟨_, rfl⟩
          have hb1011 := (Below.refl w10.heap.size w10).alloc (Nat.le_refl _) (.cells #[.int .i64 last.gen, .int .i64 last.applied, .int .i64 last.next, .slice A10 last.tables.length c10] 61)
          have hx11 : KB (fun _ => False) w11 w10.heap.size (boxV last.gen last.applied last.next (.slice A10 last.tables.length c10) 61) := ⟨by rw [hw11]; exact heap_alloc_new w10 _, id⟩
          rw [← hw11] at hb1011
          have hb911 := hb10.trans (hb1011.mono hb10.size)
          have hcs := boxV_cells (Hq9.out.step hb911)
          have n0 := hcs.1
          have n1 := hcs.2.1
          have n2 := hcs.2.2.1
          have n3 := hcs.2.2.2
          have hcs := boxV_cells hx11
          have x0 := hcs.1
          have x1 := hcs.2.1
          have x2 := hcs.2.2.1
          have x3 := hcs.2.2.2
          have hbw11 := Hb9.out.trans (hb911.mono Hb9.out.size)
          have hsm := same_true w11 last.gen last.applied last.next last.gen last.applied last.next _ _ last.tables last.tables (srcs_below (ownsRow_srcs hown10 (one_i64 _)) hb1011) (srcs_below Hil.out hbw11) (by have := Hca8.out.dm.good.rng; omega) (by have := Hca8.out.dm.good.rng; omega) (sameSt_refl _ _ _ _)
          unfold stV at hsm
          have Hsm := Lib.hid hsm
          have Hbw11 := Lib.hid hbw11
          clear hb10 hown10 hb1011 hx11 hb911 hcs hsm Hrd hbw11
          go_upto_region 28 with (fail)
          rw [← hw11]
          clear hw11
          go_wp2_with fail
          refine Hsm.out.mono ?_
          rintro e w12 ⟨rfl, hb12⟩
          have Hb12 := Lib.hid (Hbw11.out.trans (hb12.mono Hbw11.out.size))
          clear hb12
          go_wp2
          go_ret
          exact ⟨rfl, Hb12.out⟩
      · have hbw7 : Below w.heap.size w w7 := Hb1.out.trans ((Hca6.out.step hb7).dm.below.mono Hb1.out.size)
        have Hbw7 := Lib.hid hbw7
        clear hR hb7 hbw7
        go_wp2
        go_ret
        exact ⟨rfl, Hbw7.out⟩
end Go.Proofs.Ytkefciacdmbidaa
