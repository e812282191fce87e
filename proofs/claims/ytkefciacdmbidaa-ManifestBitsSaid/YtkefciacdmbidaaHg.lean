/- ManifestBits: the walk. -/
import Derived.Test.YtkefciacdmbidaaHf
import Derived.Laws.BitsAllLaws
namespace Go.Proofs.Ytkefciacdmbidaa
open Go.RowKit Go.WideMaps Go.Maps Go.Lib

theorem turned {x : Int} {r : Nat} (h0 : 0 ≤ x) (h1 : x < 256) (hr : r < 8) : (0 ≤ bits .xor .u8 x (2 ^ r % 256) ∧ bits .xor .u8 x (2 ^ r % 256) < 256) ∧ bits .xor .u8 x (2 ^ r % 256) ≠ x := by
  obtain ⟨n, rfl⟩ := Int.eq_ofNat_of_zero_le h0
  have hp : 2 ^ r < 256 := Nat.pow_lt_pow_right (a := 2) (by decide) hr
  have hp0 : 0 < 2 ^ r := Nat.pow_pos (by decide)
  have e : (2 : Int) ^ r % 256 = ((2 ^ r : Nat) : Int) := by
    have : ((2 ^ r : Nat) : Int) = (2 : Int) ^ r := by simp
    rw [← this]
    omega
  have hn : n < 256 := by omega
  rw [e, u8_xor_nat n (2 ^ r) hn hp]
  have h2 : n ^^^ 2 ^ r < 2 ^ 8 := Nat.xor_lt_two_pow hn hp
  refine ⟨⟨by omega, by omega⟩, fun e2 => ?_⟩
  have e3 : n ^^^ 2 ^ r = n := by omega
  have e4 : n ^^^ (n ^^^ 2 ^ r) = n ^^^ n := by rw [e3]
  rw [← Nat.xor_assoc, Nat.xor_self, Nat.zero_xor] at e4
  omega
theorem byte_cell {w : World} {B n c : Nat} {A : Option Addr} {zs : List Int} (h : w.ownsRow B 5 1 (.slice A n c) n (zs.map (Value.int .u8))) {k : Nat} (hk : k < zs.length) : ∃ g, A = some ⟨g, 0, none⟩ ∧ w.cell? ⟨g, k, none⟩ = some (.int .u8 zs[k]) := by
  have hl : zs.length = n := by simpa using h.1
  rcases h.2 with ⟨e1, e2⟩ | ⟨g, cap, cur, e1, _⟩
  · omega
  · simp only [Value.slice.injEq] at e1
    refine ⟨g, e1.1, ?_⟩
    have h2 := h.cells (g := g) (by rw [e1.1]; rfl) k (.int .u8 zs[k]) (by simp [hk])
    rw [add_flat', Nat.zero_add] at h2
    exact h2
theorem row_free {w : World} {B n c g : Nat} {zs : List Value} (h : w.ownsRow B 5 1 (.slice (some ⟨g, 0, none⟩) n c) n zs) (k : Nat) : w.frozen? ⟨g, k, none⟩ = false := by
  obtain ⟨cs, hc⟩ := ownsRow_type h (g := g) rfl
  exact free_of hc k

set_option maxRecDepth 100000 in
set_option maxHeartbeats 4000000 in
theorem bits_any (w : World) (s : MS) (bit : Int) (tv : Value) (h : IntsAt w tv s.tables) (hbit : -9223372036854775808 ≤ bit ∧ bit ≤ 9223372036854775807) : Calls Try.prog 8 #[stV s.gen s.applied s.next tv, .int .i64 bit] w (IsB w true) := by
  obtain ⟨A, c, rfl, -⟩ := Srcs.slice h
  obtain ⟨wb, hwb⟩ : ∃ wb, wb = w.alloc (.cells #[.int .i64 s.gen, .int .i64 s.applied, .int .i64 s.next, .slice A s.tables.length c] 59) := ⟨_, rfl⟩
  have hb0 : Below w.heap.size w wb := by rw [hwb]; exact (Below.refl _ _).alloc (Nat.le_refl _) _
  have hk : KB (fun _ => False) wb w.heap.size (boxV s.gen s.applied s.next (.slice A s.tables.length c) 59) := ⟨by rw [hwb]; exact heap_alloc_new w _, id⟩
  have Hal := Lib.hid (alive11_any wb)
  have Hk := Lib.hid hk
  have Hb0 := Lib.hid hb0
  have Hh := Lib.hid h
  clear hk hb0 h
  unfold stV
  go_enter Try.func8, Try.ntmps8
  go_wp2_with fail
  rw [← hwb]
  clear hwb
  refine Hal.out.mono ?_
  rintro e w1 ⟨rfl, hb1⟩
  have hk1 := Hk.out.step hb1
  have hcs := boxV_cells hk1
  have q0 := hcs.1
  have q1 := hcs.2.1
  have q2 := hcs.2.2.1
  have q3 := hcs.2.2.2
  have Hk1 := Lib.hid hk1
  have Hb1 := Lib.hid (Hb0.out.trans (hb1.mono Hb0.out.size))
  clear hk1 hb1 hcs
  by_cases h60 : 60 < s.tables.length
  · have h60' : (60 : Int) < (s.tables.length : Int) := by omega
    go_wp2
    go_ret
    exact ⟨rfl, Hb1.out⟩
  have h60' : ¬ (60 : Int) < (s.tables.length : Int) := by omega
  have Hof := Lib.hid (of_any w1 s.gen s.applied s.next s.tables _ (srcs_below Hh.out Hb1.out) (by omega))
  unfold stV at Hof
  go_wp2_with fail
  refine Hof.out.mono ?_
  rintro e w2 ⟨tv2, rfl, hown2, hb2⟩
  obtain ⟨A2, c2, rfl, -⟩ := ownsRow_slice hown2
  have Hen := Lib.hid (mencode_any w2 s _ (ownsRow_srcs hown2 (one_i64 _)) (by omega))
  unfold msV at Hen
  have Hk2 := Lib.hid (Hk1.out.step hb2)
  have Hb2 := Lib.hid (Hb1.out.trans (hb2.mono Hb1.out.size))
  clear hown2 hb2 q0 q1 q2 q3 Hof
  go_wp2_with fail
  refine Hen.out.mono ?_
  rintro e w3 ⟨hb3, ⟨hR, v3, rfl, hown3⟩ | ⟨hR, rfl⟩⟩
  · obtain ⟨A3, c3, rfl, -⟩ := ownsRow_slice hown3
    have hdec := mdecode_any w3 _ (encB s) (ownsRow_srcs hown3 (one_u8 _)) (encB_oct hR) (by have := encB_len hR; omega)
    rw [decB_enc hR] at hdec
    have Hdec := Lib.hid hdec
    have HR := Lib.hid hR
    have Hk3 := Lib.hid (Hk2.out.step hb3)
    have Hb3 := Lib.hid (Hb2.out.trans (hb3.mono Hb2.out.size))
    have Hown3 := Lib.hid hown3
    clear hb3 hR hown3 hdec Hen
    go_wp2_with fail
    refine Hdec.out.mono ?_
    rintro e w4 ⟨hb4, tv4, rfl, hown4⟩
    obtain ⟨A4, c4, rfl, -⟩ := ownsRow_slice hown4
    obtain ⟨w5, hw5⟩ : ∃ w5, w5 = w4.alloc (.cells #[.int .i64 s.gen, .int .i64 s.applied, .int .i64 s.next, .slice A4 s.tables.length c4] 61) := ⟨_, rfl⟩
    have hb45 := (Below.refl w4.heap.size w4).alloc (Nat.le_refl _) (.cells #[.int .i64 s.gen, .int .i64 s.applied, .int .i64 s.next, .slice A4 s.tables.length c4] 61)
    have hx5 : KB (fun _ => False) w5 w4.heap.size (boxV s.gen s.applied s.next (.slice A4 s.tables.length c4) 61) := ⟨by rw [hw5]; exact heap_alloc_new w4 _, id⟩
    rw [← hw5] at hb45
    have hk5 := (Hk3.out.step hb4).step hb45
    have hb35 : Below w3.heap.size w3 w5 := hb4.trans (hb45.mono hb4.size)
    have hfr := rframe_any w5 _ (encB s) (srcs_below (ownsRow_srcs Hown3.out (one_u8 _)) hb35) (encB_oct HR.out) (by have := encB_len HR.out; omega)
    have Hfr := Lib.hid hfr
    have Hx5 := Lib.hid hx5
    have Hk5 := Lib.hid hk5
    have Hb5 := Lib.hid (Hb3.out.trans (hb35.mono Hb3.out.size))
    have Hr5 := Lib.hid (srcs_below (ownsRow_srcs hown4 (one_i64 _)) hb45)
    clear hb4 hown4 hb45 hx5 hk5 hb35 hfr Hdec
    unfold msV
    go_upto_region 9 with (fail)
    rw [← hw5]
    clear hw5
    go_wp2_with fail
    refine Hfr.out.mono ?_
    rintro e w6 ⟨v6, rfl, hown6, hb6⟩
    have hfl : (frameB (encB s)).length = (numN (encB s).length).length + ((encB s).length + 4) := frameB_len _
    have hxl := encB_len HR.out
    have hnl := numN_len 2 (encB s).length (by omega)
    have hoct := frameB_oct (encB_oct HR.out) (show (encB s).length ≤ 65536 by omega)
    obtain ⟨f, hf⟩ : ∃ f, f = frameB (encB s) := ⟨_, rfl⟩
    rw [← hf] at hown6 hfl hoct
    obtain ⟨A6, c6, rfl, -⟩ := ownsRow_slice hown6
    have hk6 := Hk5.out.step hb6
    have hx6 := Hx5.out.step hb6
    have hbw6 := Hb5.out.trans (hb6.mono Hb5.out.size)
    have hcs := boxV_cells hk6
    have q0 := hcs.1
    have q1 := hcs.2.1
    have q2 := hcs.2.2.1
    have q3 := hcs.2.2.2
    have hcs := boxV_cells hx6
    have x0 := hcs.1
    have x1 := hcs.2.1
    have x2 := hcs.2.2.1
    have x3 := hcs.2.2.2
    have hsm := same_true w6 s.gen s.applied s.next s.gen s.applied s.next _ _ s.tables s.tables (srcs_below Hr5.out hb6) (srcs_below Hh.out hbw6) (by omega) (by omega) (sameSt_refl _ _ _ _)
    unfold stV at hsm
    have Hsm := Lib.hid hsm
    have Hb6 := Lib.hid hbw6
    have Hown6 := Lib.hid hown6
    have Hf := Lib.hid hf
    have Hoct := Lib.hid hoct
    obtain ⟨fl, hfl'⟩ : ∃ n, n = f.length := ⟨_, rfl⟩
    obtain ⟨xl, hxl'⟩ : ∃ n, n = (encB s).length := ⟨_, rfl⟩
    obtain ⟨nl, hnl'⟩ : ∃ n, n = (numN xl).length := ⟨_, rfl⟩
    rw [← hxl', ← hfl', ← hnl'] at hfl
    rw [← hxl'] at hxl hnl
    rw [← hnl'] at hnl
    rw [← hfl', ← hxl']
    have Hfl := Lib.hid hfl'
    have Hxl := Lib.hid hxl'
    have Hnl := Lib.hid hnl'
    have Hfle := Lib.hid hfl
    have hsub : (fl : Int) - xl - 4 = nl := by omega
    have hfb : fl ≤ 700 := by omega
    have hxf : xl ≤ fl := by omega
    have Hsub := Lib.hid hsub
    clear hown6 hb6 hk6 hx6 hbw6 hcs hsm hf hfl' hxl' hnl' Hfr hoct hfl hsub hnl
    go_wp2_with fail
    refine Hsm.out.mono ?_
    rintro e w7 ⟨rfl, hb7⟩
    have hown7 := ownsRow_block (w' := w7) Hown6.out fun k hk => hb7.block k (Hown6.out.lt k hk).2
    have Hb7 := Lib.hid (Hb6.out.trans (hb7.mono Hb6.out.size))
    have Hown7 := Lib.hid hown7
    clear hb7 hown7 Hsm q0 q1 q2 q3 x0 x1 x2 x3
    by_cases hlo : bit < 8 * ((fl : Int) - xl - 4)
    · go_wp2
      go_ret
      exact ⟨rfl, Hb7.out⟩
    by_cases hhi : 8 * (fl : Int) ≤ bit
    · go_wp2
      go_ret
      exact ⟨rfl, Hb7.out⟩
    obtain ⟨b, rfl⟩ : ∃ b : Nat, bit = (b : Int) := ⟨bit.toNat, by have := Hsub.out; omega⟩
    have hk1 : (b : Int).tdiv 8 = ((b / 8 : Nat) : Int) := by rw [Int.tdiv_eq_ediv_of_nonneg (by omega)]; rfl
    have hr1 : (b : Int).tmod 8 = ((b % 8 : Nat) : Int) := by rw [Int.tmod_eq_emod_of_nonneg (by omega)]; rfl
    obtain ⟨k, hk⟩ : ∃ k, k = b / 8 := ⟨_, rfl⟩
    obtain ⟨r, hr⟩ : ∃ r, r = b % 8 := ⟨_, rfl⟩
    rw [← hk] at hk1
    rw [← hr] at hr1
    have hkf : k < fl := by omega
    have hkn : nl ≤ k := by have := Hsub.out; omega
    have hr8 : r < 8 := by omega
    have hkl : k < f.length := by rw [← Hfl.out]; exact hkf
    obtain ⟨g, rfl, hcell⟩ := byte_cell Hown7.out hkl
    have hfree := row_free Hown7.out k
    have hxo := Hoct.out f[k] (List.getElem_mem hkl)
    obtain ⟨x, hx⟩ : ∃ x, x = f[k] := ⟨_, rfl⟩
    rw [← hx] at hcell hxo
    have Hx := Lib.hid hx
    clear hk hr hx
    have hyy := turned (r := r) hxo.1 hxo.2 hr8
    obtain ⟨y, hy⟩ : ∃ y, y = bits .xor .u8 x (2 ^ r % 256) := ⟨_, rfl⟩
    rw [← hy] at hyy
    have hrow := row_set Hown7.out (k := k) (by rw [← Hfl.out]; exact hkf) y
    have hbb : Below w.heap.size w (w7.setCell ⟨g, k, none⟩ (.int .u8 y)) := Hb7.out.setCell (p := ⟨g, k, none⟩) (Nat.le_trans Hb5.out.size (Hown7.out.lt g rfl).1) _
    have hlen : (f.set k y).length = fl := by rw [List.length_set, Hfl.out]
    have hno : readB (f.set k y) = none := by
      have h2 : k < (frameB (encB s)).length := by rw [← Hf.out, ← Hfl.out]; exact hkf
      have hge : (frameB (encB s))[k]'h2 = x := by
        have := Hx.out
        rw [this]
        congr 1
        exact Hf.out.symm
      have := bits_told (x := encB s) (by have := encB_len HR.out; omega) (encB_oct HR.out) (k := k) (y := y) (by rw [← Hxl.out, ← Hnl.out]; exact hkn) h2 hyy.1 (by rw [hge]; exact hyy.2)
      rw [Hf.out]
      exact this
    have hoy : Octets (f.set k y) := fun z hz => by
      rcases List.mem_or_eq_of_mem_set hz with h | h
      · exact Hoct.out z h
      · rw [h]; exact hyy.1
    have hrd := mread_any _ _ (f.set k y) hrow hoy (by rw [hlen]; omega)
    rw [hno, hlen] at hrd
    have Hrd := Lib.hid hrd
    have Hbb := Lib.hid hbb
    have Hy := Lib.hid hy
    clear hyy hrow hbb hlen hno hoy hrd hy
    go_wp2_with fail
    rw [← Hy.out]
    refine Hrd.out.mono ?_
    rintro e w8 ⟨hb8, rfl⟩
    have hz := row0_at (w8.alloc (.cells #[.int .i64 0, .int .i64 0, .int .i64 0, .slice none 0 0] 61))
    have hsm := same_true _ 0 0 0 0 0 0 _ _ [] [] hz hz (by decide) (by decide) (sameSt_refl _ _ _ _)
    unfold stV at hsm
    have Hsm := Lib.hid hsm
    have Hb8 := Lib.hid (Hbb.out.trans (hb8.mono Hbb.out.size))
    clear hz hsm hb8 Hrd
    unfold zeroMS
    go_wp2_with fail
    refine Hsm.out.mono ?_
    rintro e w9 ⟨rfl, hb9⟩
    have hb8' := Hb8.out.alloc Hb8.out.size (.cells #[.int .i64 0, .int .i64 0, .int .i64 0, .slice none 0 0] 61)
    have Hb9 := Lib.hid (hb8'.trans (hb9.mono hb8'.size))
    clear hb8' hb9
    go_wp2
    go_ret
    exact ⟨rfl, Hb9.out⟩
  · have hk3 := Hk2.out.step hb3
    have hcs := boxV_cells hk3
    have q0 := hcs.1
    have q1 := hcs.2.1
    have q2 := hcs.2.2.1
    have q3 := hcs.2.2.2
    have hbw3 := Hb2.out.trans (hb3.mono Hb2.out.size)
    have hri := rright_any w3 s _ (srcs_below Hh.out hbw3) (by omega)
    rw [rightM_no hR] at hri
    have Hri := Lib.hid hri
    have Hb3 := Lib.hid hbw3
    unfold stV at Hri
    clear hk3 hcs hbw3 hri hb3 hR
    go_wp2_with fail
    refine Hri.out.mono ?_
    rintro e w4 ⟨rfl, hb4⟩
    have Hb4 := Lib.hid (Hb3.out.trans (hb4.mono Hb3.out.size))
    clear hb4
    go_wp2
    go_ret
    exact ⟨rfl, Hb4.out⟩
end Go.Proofs.Ytkefciacdmbidaa
