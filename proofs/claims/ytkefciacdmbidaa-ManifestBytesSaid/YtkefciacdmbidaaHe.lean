/- ManifestRises: the walk. -/
import Derived.Test.YtkefciacdmbidaaGj
import Derived.Test.YtkefciacdmbidaaGg
namespace Go.Proofs.Ytkefciacdmbidaa
open Go.RowKit Go.WideMaps Go.Maps Go.Lib

/-- a block that stays what it is -/
structure KB (F : Nat → Prop) (w : World) (q : Nat) (o : Obj) : Prop where
  at_ : w.heap[q]? = some o
  out : ¬ F q
theorem KB.lt {F : Nat → Prop} {w : World} {q : Nat} {o : Obj} (h : KB F w q o) : q < w.heap.size := (Array.getElem?_eq_some_iff.1 h.at_).1
theorem KB.step {F : Nat → Prop} {w w' : World} {q : Nat} {o : Obj} (h : KB F w q o) (hb : Below w.heap.size w w') : KB F w' q o := ⟨(hb.block q h.lt).trans h.at_, h.out⟩
theorem KB.upd {F F' : Nat → Prop} {w w' : World} {q : Nat} {o : Obj} (h : KB F w q o) (hu : Upd F F' w w') : KB F' w' q o :=
  ⟨(hu.block q h.lt h.out).trans h.at_, fun hf => (hu.sub q hf).elim h.out fun h1 => by have := h.lt; omega⟩
theorem DM.size {w0 w : World} {d : Nat} {F : Nat → Prop} {xs : List Int} {last : MS} {lim : Nat} (h : DM w0 w d F xs last lim) : Calls Try.prog 26 #[.pointer (some ⟨d, 0, none⟩)] w fun e w' => e = .returned (.int .i64 xs.length) ∧ Below w.heap.size w w' := by
  obtain ⟨S, h1, h2⟩ := h.ex
  refine (size_any h1 h2.ok).mono fun e w' hp => ?_
  unfold IsSize at hp
  rw [h2.size] at hp
  exact hp

def boxV (g a n : Int) (tv : Value) (t : TypeId) : Obj := .cells #[.int .i64 g, .int .i64 a, .int .i64 n, tv] t (0, 0)
theorem boxV_cells {F : Nat → Prop} {w : World} {q : Nat} {g a n : Int} {tv : Value} {t : TypeId} (h : KB F w q (boxV g a n tv t)) :
    w.cell? ⟨q, 0, none⟩ = some (.int .i64 g) ∧ w.cell? ⟨q, 1, none⟩ = some (.int .i64 a) ∧ w.cell? ⟨q, 2, none⟩ = some (.int .i64 n) ∧ w.cell? ⟨q, 3, none⟩ = some tv :=
  ⟨(cell_of h.at_ _).trans rfl, (cell_of h.at_ _).trans rfl, (cell_of h.at_ _).trans rfl, (cell_of h.at_ _).trans rfl⟩

theorem sameSt_refl (g a n : Int) (xs : List Int) : sameSt g a n xs g a n xs = true := by simp [sameSt]

set_option maxRecDepth 100000 in
set_option maxHeartbeats 4000000 in
theorem rises_any (w : World) (s : MS) (gen : Int) (tv : Value) (h : IntsAt w tv s.tables) : Calls Try.prog 9 #[stV s.gen s.applied s.next tv, .int .i64 gen] w (IsB w true) := by
  obtain ⟨A, c, rfl, -⟩ := Srcs.slice h
  obtain ⟨wb, hwb⟩ : ∃ wb, wb = w.alloc (.cells #[.int .i64 s.gen, .int .i64 s.applied, .int .i64 s.next, .slice A s.tables.length c] 59) := ⟨_, rfl⟩
  have hb0 : Below w.heap.size w wb := by rw [hwb]; exact (Below.refl _ _).alloc (Nat.le_refl _) _
  have hk : KB (fun _ => False) wb w.heap.size (boxV s.gen s.applied s.next (.slice A s.tables.length c) 59) := ⟨by rw [hwb]; exact heap_alloc_new w _, id⟩
  have Hal := Lib.hid (alive11_any wb)
  have Hk := Lib.hid hk
  have Hb0 := Lib.hid hb0
  have Hh := Lib.hid h
  clear hk hb0 h
  unfold stV
  go_enter Try.func9, Try.ntmps9
  go_wp2_with fail
  rw [← hwb]
  clear hwb
  refine Hal.out.mono ?_
  rintro e w1 ⟨rfl, hb1⟩
  have hk1 := Hk.out.step hb1
  have hc1 := (boxV_cells hk1).2.2.2
  have Hk1 := Lib.hid hk1
  have Hb1 := Lib.hid (Hb0.out.trans (hb1.mono Hb0.out.size))
  clear hk1 hb1
  by_cases h60 : 60 < s.tables.length
  · have h60' : (60 : Int) < (s.tables.length : Int) := by omega
    go_wp2
    go_ret
    exact ⟨rfl, Hb1.out⟩
  have h60' : ¬ (60 : Int) < (s.tables.length : Int) := by omega
  have Hnew := Lib.hid (new_any 5000 w1)
  go_wp2_with fail
  refine Hnew.out.mono ?_
  rintro e w2 hp
  rcases hp with ⟨hno, -, -⟩ | ⟨-, -, F, d, rfl, hd1, hF, hb2⟩
  · omega
  have hm2 : DM w1 w2 d F [] ms0 5000 := dm_new (by decide) hd1 hF hb2
  have hk2 : KB F w2 w.heap.size (boxV s.gen s.applied s.next (.slice A s.tables.length c) 59) := ⟨(Hk1.out.step hb2).at_, fun hf => by have := hF _ hf; have := Hk1.out.lt; omega⟩
  have hb2' := Hb1.out.trans (hb2.mono Hb1.out.size)
  have hcs := boxV_cells hk2
  have q0 := hcs.1
  have q1 := hcs.2.1
  have q2 := hcs.2.2.1
  have q3 := hcs.2.2.2
  have Hm2 := Lib.hid hm2
  have Hk2 := Lib.hid hk2
  have Hb2 := Lib.hid hb2'
  have Hri := Lib.hid (rright_any w2 s _ (srcs_below Hh.out hb2') (by omega))
  unfold stV at Hri
  clear hd1 hF hb2 hm2 hk2 hb2' hcs hc1 Hnew
  go_wp2_with fail
  refine Hri.out.mono ?_
  rintro e w3 ⟨rfl, hb3⟩
  have hk3 := Hk2.out.step hb3
  have hm3 := Hm2.out.step hb3
  have hbw3 := Hb2.out.trans (hb3.mono Hb2.out.size)
  have hcs := boxV_cells hk3
  have q0 := hcs.1
  have q1 := hcs.2.1
  have q2 := hcs.2.2.1
  have q3 := hcs.2.2.2
  have Hm3 := Lib.hid hm3
  have Hk3 := Lib.hid hk3
  have Hb3 := Lib.hid hbw3
  clear hb3 hm3 hk3 hbw3 hcs Hri
  by_cases hR : s.Right
  · rw [rightM_true.2 hR]
    have hg2 := hR.basic.g2
    have hg1 := hR.basic.g1
    have ht50 := hR.basic.t
    have HR := Lib.hid hR
    obtain ⟨w4, hw4⟩ : ∃ w4, w4 = w3.alloc (.cells #[.int .i64 gen, .int .i64 s.applied, .int .i64 s.next, .slice A s.tables.length c] 59) := ⟨_, rfl⟩
    have hb34 : Below w3.heap.size w3 w4 := by rw [hw4]; exact (Below.refl _ _).alloc (Nat.le_refl _) _
    have hm4 := Hm3.out.step hb34
    have hk4 := Hk3.out.step hb34
    have hn4 : KB F w4 w3.heap.size (boxV gen s.applied s.next (.slice A s.tables.length c) 59) := ⟨by rw [hw4]; exact heap_alloc_new w3 _, fun hf => Nat.lt_irrefl _ (Hm3.out.lt _ hf)⟩
    have hbw4 := Hb3.out.trans (hb34.mono Hb3.out.size)
    have hcs := boxV_cells hk4
    have r0 := hcs.1
    have r1 := hcs.2.1
    have r2 := hcs.2.2.1
    have r3 := hcs.2.2.2
    have Hof := Lib.hid (of_any w4 s.gen s.applied s.next s.tables _ (srcs_below Hh.out hbw4) (by omega))
    have Hm4 := Lib.hid hm4
    have Hk4 := Lib.hid hk4
    have Hn4 := Lib.hid hn4
    have Hb4 := Lib.hid hbw4
    unfold stV at Hof
    clear hR hb34 hm4 hk4 hn4 hbw4 hcs
    go_upto_region 12 with (fail)
    rw [← hw4]
    clear hw4 q0 q1 q2 q3
    go_wp2_with fail
    refine Hof.out.mono ?_
    rintro e w5 ⟨tv5, rfl, hown5, hb5⟩
    obtain ⟨A5, c5, rfl, -⟩ := ownsRow_slice hown5
    have Hsv := Lib.hid (dm_save (Hm4.out.step hb5) s _ (ownsRow_srcs hown5 (one_i64 _)) (by omega) (fun _ => by simp; omega))
    have Hk5 := Lib.hid (Hk4.out.step hb5)
    have Hn5 := Lib.hid (Hn4.out.step hb5)
    unfold msV at Hsv
    clear hown5 hb5 Hof r0 r1 r2 r3
    go_wp2_with fail
    refine Hsv.out.mono ?_
    rintro e w6 hp
    rcases hp with ⟨-, rfl, F6, xs6, hm6, hu6, hx6, -⟩ | ⟨hno, -⟩
    rotate_left
    · exact absurd ⟨HR.out, Or.inl rfl⟩ hno
    have hx6' : xs6.length ≤ 1000 := by simp at hx6; omega
    have hn6 := Hn5.out.upd hu6
    have hcs := boxV_cells hn6
    have r0 := hcs.1
    have r1 := hcs.2.1
    have r2 := hcs.2.2.1
    have r3 := hcs.2.2.2
    have hb6 := Hb1.out.trans (hm6.below.mono Hb1.out.size)
    obtain ⟨s2, hs2⟩ : ∃ s2 : MS, s2 = ⟨gen, s.applied, s.next, s.tables⟩ := ⟨_, rfl⟩
    have Hof := Lib.hid (of_any w6 gen s.applied s.next s.tables _ (srcs_below Hh.out hb6) (by omega))
    have Hk6 := Lib.hid (Hk5.out.upd hu6)
    have Hn6 := Lib.hid hn6
    have Hm6 := Lib.hid hm6
    unfold stV at Hof
    have Hs2 := Lib.hid hs2
    clear hx6 hn6 hcs hb6 hm6 hu6 Hsv hs2
    go_wp2_with fail
    refine Hof.out.mono ?_
    rintro e w7 ⟨tv7, rfl, hown7, hb7⟩
    obtain ⟨A7, c7, rfl, -⟩ := ownsRow_slice hown7
    have hsv := dm_save (Hm6.out.step hb7) s2 (.slice A7 s.tables.length c7) (by rw [Hs2.out]; exact ownsRow_srcs hown7 (one_i64 _)) (by rw [Hs2.out]; simp; omega) (fun _ => by rw [Hs2.out]; simp; omega)
    have emv : msV s2 (.slice A7 s.tables.length c7) = .agg #[.int .i64 gen, .int .i64 s.applied, .int .i64 s.next, .slice A7 s.tables.length c7] := by rw [Hs2.out]; rfl
    rw [emv] at hsv
    have Hsv := Lib.hid hsv
    have Hk7 := Lib.hid (Hk6.out.step hb7)
    have Hn7 := Lib.hid (Hn6.out.step hb7)
    clear hown7 hb7 Hof r0 r1 r2 r3 hsv emv
    go_wp2_with fail
    refine Hsv.out.mono ?_
    rintro e w8 hp
    rcases hp with ⟨hfit, rfl, F8, xs8, hm8, hu8, -, -⟩ | ⟨hno, rfl, F8, hm8, hu8⟩
    · have hge : gen = s.gen + 1 := by
        have := hfit.2
        rw [Hs2.out] at this
        simp only at this
        omega
      have Hld := Lib.hid (dm_load hm8)
      have HK8 := Lib.hid (Hk7.out.upd hu8)
      have HN8 := Lib.hid (Hn7.out.upd hu8)
      have HB8 := Lib.hid (Hb1.out.trans (hm8.below.mono Hb1.out.size))
      have Hfit := Lib.hid hfit
      have tge : (gen == s.gen + 1) = true := by simp [hge]
      clear hm8 hu8 hfit hge Hsv
      go_wp2_with fail
      refine Hld.out.mono ?_
      rintro e w9 ⟨hb9, tv9, rfl, hown9⟩
      have e1 : s2.gen = gen := by rw [Hs2.out]
      have e2 : s2.applied = s.applied := by rw [Hs2.out]
      have e3 : s2.next = s.next := by rw [Hs2.out]
      have e4 : s2.tables = s.tables := by rw [Hs2.out]
      rw [e4] at hown9
      obtain ⟨A9, c9, rfl, -⟩ := ownsRow_slice hown9
      unfold msV
      rw [e1, e2, e3]
      clear e1 e2 e3 e4
      have hk10 := (HK8.out.step hb9)
      have hn10 := (HN8.out.step hb9)
      have hbw9 := HB8.out.trans (hb9.mono HB8.out.size)
      obtain ⟨wa, hwa⟩ : ∃ wa, wa = w9.alloc (.cells #[.int .i64 gen, .int .i64 s.applied, .int .i64 s.next, .slice A9 s.tables.length c9] 61) := ⟨_, rfl⟩
      have hba := (Below.refl w9.heap.size w9).alloc (Nat.le_refl _) (.cells #[.int .i64 gen, .int .i64 s.applied, .int .i64 s.next, .slice A9 s.tables.length c9] 61)
      have hna := heap_alloc_new w9 (.cells #[.int .i64 gen, .int .i64 s.applied, .int .i64 s.next, .slice A9 s.tables.length c9] 61)
      rw [← hwa] at hba hna
      have hka := hk10.step hba
      have hnx := hn10.step hba
      have hla : KB (fun _ => False) wa w9.heap.size (boxV gen s.applied s.next (.slice A9 s.tables.length c9) 61) := ⟨hna, id⟩
      have hbwa := hbw9.trans (hba.mono hbw9.size)
      have howa := ownsRow_block (w' := wa) hown9 fun k hk => hba.block k (hown9.lt k hk).2
      have hcs := boxV_cells hka
      have q0 := hcs.1
      have q1 := hcs.2.1
      have q2 := hcs.2.2.1
      have q3 := hcs.2.2.2
      have hcs := boxV_cells hnx
      have r0 := hcs.1
      have r1 := hcs.2.1
      have r2 := hcs.2.2.1
      have r3 := hcs.2.2.2
      have hcs := boxV_cells hla
      have l0 := hcs.1
      have l1 := hcs.2.1
      have l2 := hcs.2.2.1
      have l3 := hcs.2.2.2
      have Hka := Lib.hid hka
      have Hnx := Lib.hid hnx
      have Hla := Lib.hid hla
      have Hbwa := Lib.hid hbwa
      have Howa := Lib.hid (ownsRow_srcs howa (one_i64 _))
      clear hk10 hn10 hbw9 hba hna hka hnx hla hbwa howa hown9 hb9 hcs
      go_upto_region 15 with (fail)
      rw [← hwa]
      clear hwa
      have hr2 : Calls Try.prog 43 #[.agg #[.int .i64 gen, .int .i64 s.applied, .int .i64 s.next, .slice A s.tables.length c]] wa (IsB wa true) := by
        have := rright_any wa s2 (.slice A s.tables.length c) (by rw [Hs2.out]; exact srcs_below Hh.out Hbwa.out) (by rw [Hs2.out]; simp; omega)
        rw [rightM_true.2 Hfit.out.1, Hs2.out] at this
        exact this
      have Hr2 := Lib.hid hr2
      clear hr2
      go_wp2_with fail
      refine Hr2.out.mono ?_
      rintro e w11 ⟨rfl, hb11⟩
      have hnx := Hnx.out.step hb11
      have hla := Hla.out.step hb11
      have hcs := boxV_cells hnx
      have r0 := hcs.1
      have r1 := hcs.2.1
      have r2 := hcs.2.2.1
      have r3 := hcs.2.2.2
      have hcs := boxV_cells hla
      have l0 := hcs.1
      have l1 := hcs.2.1
      have l2 := hcs.2.2.1
      have l3 := hcs.2.2.2
      have Hb11 := Lib.hid (Hbwa.out.trans (hb11.mono Hbwa.out.size))
      have Hx11 := Lib.hid (srcs_below Howa.out hb11)
      clear hb11 hnx hla hcs
      have Hsm := Lib.hid (same_true w11 gen s.applied s.next gen s.applied s.next _ _ s.tables s.tables Hx11.out (srcs_below Hh.out Hb11.out) (by have := ht50; simp; omega) (by have := ht50; simp; omega) (sameSt_refl _ _ _ _))
      unfold stV at Hsm
      go_wp2_with fail
      refine Hsm.out.mono ?_
      rintro e w12 ⟨rfl, hb12⟩
      have Hb12 := Lib.hid (Hb11.out.trans (hb12.mono Hb11.out.size))
      clear hb12
      go_wp2
      go_ret
      exact ⟨rfl, Hb12.out⟩
    · have Hld := Lib.hid (dm_load hm8)
      have HK8 := Lib.hid (Hk7.out.upd hu8)
      have HN8 := Lib.hid (Hn7.out.upd hu8)
      have HB8 := Lib.hid (Hb1.out.trans (hm8.below.mono Hb1.out.size))
      have Hno := Lib.hid hno
      clear hm8 hu8 hno Hsv
      go_wp2_with fail
      refine Hld.out.mono ?_
      rintro e w9 ⟨hb9, tv9, rfl, hown9⟩
      obtain ⟨A9, c9, rfl, -⟩ := ownsRow_slice hown9
      unfold msV
      have hk10 := (HK8.out.step hb9)
      have hn10 := (HN8.out.step hb9)
      have hbw9 := HB8.out.trans (hb9.mono HB8.out.size)
      obtain ⟨wa, hwa⟩ : ∃ wa, wa = w9.alloc (.cells #[.int .i64 s.gen, .int .i64 s.applied, .int .i64 s.next, .slice A9 s.tables.length c9] 61) := ⟨_, rfl⟩
      have hba := (Below.refl w9.heap.size w9).alloc (Nat.le_refl _) (.cells #[.int .i64 s.gen, .int .i64 s.applied, .int .i64 s.next, .slice A9 s.tables.length c9] 61)
      have hna := heap_alloc_new w9 (.cells #[.int .i64 s.gen, .int .i64 s.applied, .int .i64 s.next, .slice A9 s.tables.length c9] 61)
      rw [← hwa] at hba hna
      have hka := hk10.step hba
      have hnx := hn10.step hba
      have hla : KB (fun _ => False) wa w9.heap.size (boxV s.gen s.applied s.next (.slice A9 s.tables.length c9) 61) := ⟨hna, id⟩
      have hbwa := hbw9.trans (hba.mono hbw9.size)
      have howa := ownsRow_block (w' := wa) hown9 fun k hk => hba.block k (hown9.lt k hk).2
      have hcs := boxV_cells hka
      have q0 := hcs.1
      have q1 := hcs.2.1
      have q2 := hcs.2.2.1
      have q3 := hcs.2.2.2
      have hcs := boxV_cells hnx
      have r0 := hcs.1
      have r1 := hcs.2.1
      have r2 := hcs.2.2.1
      have r3 := hcs.2.2.2
      have hcs := boxV_cells hla
      have l0 := hcs.1
      have l1 := hcs.2.1
      have l2 := hcs.2.2.1
      have l3 := hcs.2.2.2
      have Hka := Lib.hid hka
      have Hnx := Lib.hid hnx
      have Hla := Lib.hid hla
      have Hbwa := Lib.hid hbwa
      have Howa := Lib.hid (ownsRow_srcs howa (one_i64 _))
      clear hk10 hn10 hbw9 hba hna hka hnx hla hbwa howa hown9 hb9 hcs
      go_upto_region 15 with (fail)
      rw [← hwa]
      clear hwa
      by_cases hge : gen = s.gen + 1
      · have tge : (gen == s.gen + 1) = true := by simp [hge]
        have hr2 : Calls Try.prog 43 #[.agg #[.int .i64 gen, .int .i64 s.applied, .int .i64 s.next, .slice A s.tables.length c]] wa (IsB wa false) := by
          have := rright_any wa s2 (.slice A s.tables.length c) (by rw [Hs2.out]; exact srcs_below Hh.out Hbwa.out) (by rw [Hs2.out]; simp; omega)
          rw [rightM_no fun h => Hno.out ⟨h, Or.inr (by rw [Hs2.out]; exact hge)⟩, Hs2.out] at this
          exact this
        have Hr2 := Lib.hid hr2
        clear hr2 hge
        go_wp2_with fail
        refine Hr2.out.mono ?_
        rintro e w11 ⟨rfl, hb11⟩
        have hnx := Hka.out.step hb11
        have hla := Hla.out.step hb11
        have hcs := boxV_cells hnx
        have r0 := hcs.1
        have r1 := hcs.2.1
        have r2 := hcs.2.2.1
        have r3 := hcs.2.2.2
        have hcs := boxV_cells hla
        have l0 := hcs.1
        have l1 := hcs.2.1
        have l2 := hcs.2.2.1
        have l3 := hcs.2.2.2
        have Hb11 := Lib.hid (Hbwa.out.trans (hb11.mono Hbwa.out.size))
        have Hx11 := Lib.hid (srcs_below Howa.out hb11)
        clear hb11 hnx hla hcs
        have Hsm := Lib.hid (same_true w11 s.gen s.applied s.next s.gen s.applied s.next _ _ s.tables s.tables Hx11.out (srcs_below Hh.out Hb11.out) (by have := ht50; simp; omega) (by have := ht50; simp; omega) (sameSt_refl _ _ _ _))
        unfold stV at Hsm
        go_wp2_with fail
        refine Hsm.out.mono ?_
        rintro e w12 ⟨rfl, hb12⟩
        have Hb12 := Lib.hid (Hb11.out.trans (hb12.mono Hb11.out.size))
        clear hb12
        go_wp2
        go_ret
        exact ⟨rfl, Hb12.out⟩
      · have tge : (gen == s.gen + 1) = false := by simp [hge]
        clear hge
        have Hsm := Lib.hid (same_true wa s.gen s.applied s.next s.gen s.applied s.next _ _ s.tables s.tables Howa.out (srcs_below Hh.out Hbwa.out) (by have := ht50; simp; omega) (by have := ht50; simp; omega) (sameSt_refl _ _ _ _))
        unfold stV at Hsm
        go_wp2_with fail
        refine Hsm.out.mono ?_
        rintro e w12 ⟨rfl, hb12⟩
        have Hb12 := Lib.hid (Hbwa.out.trans (hb12.mono Hbwa.out.size))
        clear hb12
        go_wp2
        go_ret
        exact ⟨rfl, Hb12.out⟩
  · rw [rightM_no hR]
    have Hof := Lib.hid (of_any w3 s.gen s.applied s.next s.tables _ (srcs_below Hh.out Hb3.out) (by omega))
    unfold stV at Hof
    have HR := Lib.hid hR
    clear hR
    go_wp2_with fail
    refine Hof.out.mono ?_
    rintro e w4 ⟨tv4, rfl, hown4, hb4⟩
    obtain ⟨A4, c4, rfl, -⟩ := ownsRow_slice hown4
    have hm4 := Hm3.out.step hb4
    have Hsv := Lib.hid (dm_save hm4 s _ (ownsRow_srcs hown4 (one_i64 _)) (by omega) (fun h => absurd h HR.out))
    have Hb4 := Lib.hid (Hb3.out.trans (hb4.mono Hb3.out.size))
    unfold msV at Hsv
    clear hown4 hb4 hm4 q0 q1 q2 q3
    go_wp2_with fail
    refine Hsv.out.mono ?_
    rintro e w5 hp
    rcases hp with ⟨hfit, -⟩ | ⟨-, rfl, F5, hm5, hu5⟩
    · exact absurd hfit.1 HR.out
    · have Hsz := Lib.hid hm5.size
      have Hm5 := Lib.hid hm5
      clear hm5 hu5
      go_wp2_with fail
      refine Hsz.out.mono ?_
      rintro e w6 ⟨rfl, hb6⟩
      have Hb6 := Lib.hid ((Hb1.out.trans (Hm5.out.below.mono Hb1.out.size)).trans (hb6.mono (Nat.le_trans Hb1.out.size Hm5.out.below.size)))
      clear hb6
      go_wp2
      go_ret
      exact ⟨rfl, Hb6.out⟩
end Go.Proofs.Ytkefciacdmbidaa
