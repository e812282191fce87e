/- alive: a disk that loses a byte. -/
import Derived.Test.YtkefciacdmbidaaUc
import Derived.Test.YtkefciacdmbidaaSn
import Derived.Test.YtkefciacdmbidaaSt
import Derived.Laws.BytesArg
import Derived.Lib.SlBytesConst
namespace Go.Proofs.Ytkefciacdmbidaa
open Go.RowKit Go.WideMaps Go.Maps

theorem werr0 : SD.werr ⟨[], [], 9⟩ [120] 2 = 0 := by decide
theorem write1 (i : Nat) : SD.write ⟨[], [], 9⟩ i [120] [97, 98] = ⟨[([120], ⟨i, [97, 98], 0, false⟩)], [(i, 2)], 9⟩ := rfl
theorem werr1 (i : Nat) : SD.werr ⟨[([120], ⟨i, [97, 98], 0, false⟩)], [(i, 2)], 9⟩ [121] 2 = 0 := rfl
theorem write2 (i j : Nat) : SD.write ⟨[([120], ⟨i, [97, 98], 0, false⟩)], [(i, 2)], 9⟩ j [121] [99, 100] = ⟨[([120], ⟨i, [97, 98], 0, false⟩), ([121], ⟨j, [99, 100], 0, false⟩)], [(i, 2), (j, 2)], 9⟩ := rfl
theorem crash3 (i j : Nat) (h : i ≠ j) : SD.crash ⟨[([120], ⟨i, [97, 98], 0, false⟩), ([121], ⟨j, [99, 100], 0, false⟩)], [(i, 2), (j, 2)], 9⟩ 3 = ⟨[([120], ⟨i, [97, 98], 2, true⟩), ([121], ⟨j, [99], 1, true⟩)], [], 9⟩ := by
  simp [SD.crash, cred, credS, updF, credF, finish, trunc, h, h.symm]
theorem nil_ok : SD.Ok ⟨[], [], 9⟩ := ⟨List.Pairwise.nil, List.Pairwise.nil, fun _ h => by simp at h, fun _ h => by simp at h, fun _ h => by simp at h, by decide, by decide⟩

theorem conv_bytes {w : World} {v : Value} {xs : List Int} (h : BytesAt w v xs) : (convert 32 9 v).run Try.prog w = .ok (.string (strOfNums xs)) w := by
  obtain ⟨A, c, rfl, hc, hcell⟩ := srcs_at h
  rcases Nat.eq_zero_or_pos xs.length with h0 | h0
  · have hx : xs = [] := by simpa using h0
    subst hx
    cases A with
    | none => exact run_convert_bytes_nil (P := Try.prog) w 32 5 Try.underlying32 Try.underlying5 0 c 9 Try.underlying9
    | some ad =>
      have := run_convert_bytes_string (P := Try.prog) w 32 9 5 (some ad) 0 c Try.underlying32 Try.underlying5 Try.underlying9
      rw [show ([] : List Int).length = 0 from rfl, this]
      have := run_bytesToString (P := Try.prog) w ad 0 c [] (by simp [loadCells, loadCellsFrom])
      rw [this]
      rfl
  · obtain ⟨b, off, rfl, _, hcs⟩ := hcell h0
    exact run_convert_bytes_arg (P := Try.prog) w 32 5 Try.underlying32 Try.underlying5 b off _ c xs rfl (fun i hi => hcs i _ (by simp [hi])) 9 Try.underlying9

theorem srcs_below {w w' : World} {v : Value} {size m : Nat} {news : List Value} (h : Srcs w v size m news) (hb : Below w.heap.size w w') : Srcs w' v size m news := by
  rcases h with h | ⟨ad, c, rfl, hc, hl, hcell, h1⟩
  · exact Or.inl h
  · refine Or.inr ⟨ad, c, rfl, hc, hl, fun j u hj => ?_, h1⟩
    have h2 := hcell j u hj
    rw [hb.cell (World.block_lt_of_cell? w _ h2)]
    exact h2

theorem Upd.fb {F F' : Nat → Prop} {w w' : World} (h : Upd F F' w w') {B : Nat} (hF : ∀ k, F k → B ≤ k) (hB : B ≤ w.heap.size) : ∀ k, F' k → B ≤ k := fun k hk => by
  rcases h.sub k hk with h1 | h1
  · exact hF k h1
  · omega

/-- two bytes in a new block -/
theorem two_bytes (w : World) (a b : Int) : BytesAt (w.alloc (.cells #[.int .u8 a, .int .u8 b] 5 (2, 3))) (.slice (some ⟨w.heap.size, 0, none⟩) 2 2) [a, b] := by
  refine Or.inr ⟨_, 2, rfl, Nat.le_refl _, rfl, fun j u hj => ?_, one_u8 [a, b]⟩
  rw [add0, cell_of (heap_alloc_new w _)]
  simpa using hj

theorem outside_new {F : Nat → Prop} {w : World} (hF : ∀ k, F k → k < w.heap.size) (a b : Int) : Outside F (w.alloc (.cells #[.int .u8 a, .int .u8 b] 5 (2, 3))) (.slice (some ⟨w.heap.size, 0, none⟩) 2 2) [a, b] :=
  ⟨two_bytes w a b, fun ad n c e _ => by
    cases e
    exact ⟨fun h => Nat.lt_irrefl _ (hF _ h), by simp⟩⟩

set_option maxRecDepth 100000 in
set_option maxHeartbeats 1000000 in
theorem alive_any (w : World) : Calls Try.prog 11 #[] w (IsB w true) := by
  have kc := fun (w : World) (C : Array Value) (n c : Nat) => Lib.run_convert_bytes_const (P := Try.prog) w 32 5 C n c Try.underlying32 Try.underlying5
  have Hnew := Lib.hid (new_any 9 w)
  go_enter Try.func11, Try.ntmps11
  go_wp2_with fail
  refine Hnew.out.mono ?_
  rintro e w1 hp
  rcases hp with ⟨h, -, -⟩ | ⟨-, -, F, d, rfl, hd1, hF, hb1⟩
  · omega
  have hd1' : DiskAt F (w1.alloc (.cells #[.int .u8 97, .int .u8 98] 5 (2, 3))) d ⟨[], [], 9⟩ := hd1.below ((Below.refl _ _).alloc (Nat.le_refl _) _)
  have Hw1 := Lib.hid (write_any hd1' nil_ok ⟨#[120]⟩ (by unfold maxLen; decide) _ _ (outside_new hd1.lt 97 98) (by decide) (by decide))
  have HF := Lib.hid hF
  have Hb1 := Lib.hid hb1
  clear hd1 hd1' hF hb1
  go_wp2_with fail
  refine Hw1.out.mono ?_
  rintro e w2 ⟨he, F2, i, -, hd2, hu2⟩
  replace he : e = .returned (.int .i64 0) := he
  replace hd2 : DiskAt F2 w2 d ⟨[([120], ⟨i, [97, 98], 0, false⟩)], [(i, 2)], 9⟩ := hd2
  subst he
  have hok2 : SD.Ok ⟨[([120], ⟨i, [97, 98], 0, false⟩)], [(i, 2)], 9⟩ := by
    have := write_ok nil_ok (i := i) (by simp) (nm := [120]) (xs := [97, 98]) werr0
    rw [write1] at this
    exact this
  have hd2' := hd2.below ((Below.refl _ w2).alloc (Nat.le_refl _) (.cells #[.int .u8 99, .int .u8 100] 5 (2, 3)))
  have Hw2 := Lib.hid (write_any hd2' hok2 ⟨#[121]⟩ (by unfold maxLen; decide) _ _ (outside_new hd2.lt 99 100) (by simp) (by simp))
  have Hu2 := Lib.hid hu2
  have Hok2 := Lib.hid hok2
  clear hd2 hd2' hu2 hok2
  go_wp2_with fail
  refine Hw2.out.mono ?_
  rintro e w3 ⟨he, F3, j, hij, hd3, hu3⟩
  have Hij : i ≠ j := hij ([120], ⟨i, [97, 98], 0, false⟩) (by simp)
  replace he : e = .returned (.int .i64 0) := he
  replace hd3 : DiskAt F3 w3 d ⟨[([120], ⟨i, [97, 98], 0, false⟩), ([121], ⟨j, [99, 100], 0, false⟩)], [(i, 2), (j, 2)], 9⟩ := hd3
  subst he
  have hok3 : SD.Ok ⟨[([120], ⟨i, [97, 98], 0, false⟩), ([121], ⟨j, [99, 100], 0, false⟩)], [(i, 2), (j, 2)], 9⟩ := by
    have := write_ok Hok2.out (i := j) (by simpa using Hij) (nm := [121]) (xs := [99, 100]) (werr1 i)
    rw [write2] at this
    exact this
  have Hl := Lib.hid (loose_any hd3 (by simp [SD.nloose]) (by simp))
  have Hij2 := Lib.hid Hij
  have Hd3 := Lib.hid hd3
  have Hu3 := Lib.hid hu3
  have Hok3 := Lib.hid hok3
  clear hd3 hu3 hok3 hij Hij
  go_wp2_with fail
  refine Hl.out.mono ?_
  rintro e w4 ⟨he, hb4⟩
  replace he : e = .returned (.int .i64 4) := he
  subst he
  have Hd4 := Lib.hid (Hd3.out.below hb4)
  have Hc := Lib.hid (crash_any Hd4.out Hok3.out (by simp) 3 (by omega) (by omega))
  have Hb4 := Lib.hid hb4
  clear hb4
  go_wp2_with fail
  refine Hc.out.mono ?_
  rintro e w5 ⟨rfl, F5, hd5, hu5⟩
  rw [crash3 i j Hij2.out] at hd5
  have hok5 := crash_ok Hok3.out 3
  rw [crash3 i j Hij2.out] at hok5
  have Hr5 := Lib.hid (read_any hd5 hok5 ⟨#[120]⟩ (by unfold maxLen; decide))
  have Hd5 := Lib.hid hd5
  have Hu5 := Lib.hid hu5
  have Hok5 := Lib.hid hok5
  clear hd5 hu5 hok5
  go_wp2_with fail
  refine Hr5.out.mono ?_
  rintro e w6 ⟨v6, rfl, ho6, hb6⟩
  replace ho6 : w6.ownsRow w5.heap.size 5 1 v6 2 ([97, 98].map (Value.int .u8)) := ho6
  have Hd6 := Lib.hid (Hd5.out.below hb6)
  have Hr6 := Lib.hid (read_any Hd6.out Hok5.out ⟨#[121]⟩ (by unfold maxLen; decide))
  have Hx6 := Lib.hid (show BytesAt w6 v6 [97, 98] from ownsRow_srcs ho6 (one_u8 [97, 98]))
  have Hb6 := Lib.hid hb6
  clear ho6 hb6
  go_wp2_with fail
  refine Hr6.out.mono ?_
  rintro e w7 ⟨v7, he, ho7, hb7⟩
  replace he : e = .returned (.tuple #[v7, .bool true]) := he
  subst he
  replace ho7 : w7.ownsRow w6.heap.size 5 1 v7 1 ([99].map (Value.int .u8)) := ho7
  have hx7 : BytesAt w7 v7 [99] := ownsRow_srcs ho7 (one_u8 [99])
  have hy7 : BytesAt w7 v6 [97, 98] := srcs_below Hx6.out hb7
  have hc7 : (convert 32 9 v7).run Try.prog w7 = .ok (.string ⟨#[99]⟩) w7 := conv_bytes hx7
  have hc6 : (convert 32 9 v6).run Try.prog w7 = .ok (.string ⟨#[97, 98]⟩) w7 := conv_bytes hy7
  have Hd7 := Lib.hid (Hd6.out.below hb7)
  have Hs7 := Lib.hid (size_any Hd7.out Hok5.out)
  have Hb7 := Lib.hid hb7
  clear ho7 hx7 hy7 hb7
  go_wp2_with fail
  refine Hs7.out.mono ?_
  rintro e w8 ⟨he, hb8⟩
  replace he : e = .returned (.int .i64 3) := he
  subst he
  have Hd8 := Lib.hid (Hd7.out.below hb8)
  have Hs8 := Lib.hid (room_any Hd8.out Hok5.out)
  have Hb8 := Lib.hid hb8
  clear hb8 hc6 hc7
  go_wp2_with fail
  refine Hs8.out.mono ?_
  rintro e w9 ⟨he, hb9⟩
  replace he : e = .returned (.int .i64 6) := he
  subst he
  have Hd9 := Lib.hid (Hd8.out.below hb9)
  have Hs9 := Lib.hid (names_any Hd9.out Hok5.out (by simp))
  have Hb9 := Lib.hid hb9
  clear hb9
  go_wp2_with fail
  refine Hs9.out.mono ?_
  rintro e w10 ⟨v10, rfl, ho10, hb10⟩
  obtain ⟨A10, c10, hv10, -⟩ := ownsRow_slice ho10
  replace hv10 : v10 = .slice A10 2 c10 := hv10
  subst hv10
  have Hd10 := Lib.hid (Hd9.out.below hb10)
  have Hs10 := Lib.hid (sync_any Hd10.out Hok5.out (by simp) ⟨#[122]⟩ (by unfold maxLen; decide))
  have Hb10 := Lib.hid hb10
  clear ho10 hb10
  go_wp2_with fail
  refine Hs10.out.mono ?_
  rintro e w11 ⟨he, F11, hd11, hu11⟩
  replace he : e = .returned (.int .i64 12) := he
  subst he
  have Hu11 := Lib.hid hu11
  clear hd11 hu11
  go_wp2
  go_ret
  have a1 := Hb1.out.alloc Hb1.out.size (.cells #[.int .u8 97, .int .u8 98] 5 (2, 3))
  have b2 := a1.trans (Hu2.out.below HF.out a1.size)
  have f2 := Hu2.out.fb HF.out a1.size
  have a2 := b2.alloc b2.size (.cells #[.int .u8 99, .int .u8 100] 5 (2, 3))
  have b3 := a2.trans (Hu3.out.below f2 a2.size)
  have f3 := Hu3.out.fb f2 a2.size
  have b4 := b3.trans (Hb4.out.mono b3.size)
  have b5 := b4.trans (Hu5.out.below f3 b4.size)
  have f5 := Hu5.out.fb f3 b4.size
  have b6 := b5.trans (Hb6.out.mono b5.size)
  have b7 := b6.trans (Hb7.out.mono b6.size)
  have b8 := b7.trans (Hb8.out.mono b7.size)
  have b9 := b8.trans (Hb9.out.mono b8.size)
  have b10 := b9.trans (Hb10.out.mono b9.size)
  exact ⟨rfl, b10.trans (Hu11.out.below f5 b10.size)⟩
end Go.Proofs.Ytkefciacdmbidaa
