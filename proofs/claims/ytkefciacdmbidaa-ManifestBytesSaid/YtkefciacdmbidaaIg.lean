/- ManifestBytes: the walk. -/
import Derived.Test.YtkefciacdmbidaaIf
namespace Go.Proofs.Ytkefciacdmbidaa
open Go.RowKit Go.WideMaps Go.Maps Go.Lib

/-- behind a call that makes a state: the state's box -/
theorem made_box {w0 w1 : World} {s : MS} {A : Option Addr} {c : Nat} {t : TypeId} {w2 : World} (hw : w2 = w1.alloc (.cells #[.int .i64 s.gen, .int .i64 s.applied, .int .i64 s.next, .slice A s.tables.length c] t)) (hi : IntsAt w1 (.slice A s.tables.length c) s.tables) (hb : Below w0.heap.size w0 w1) :
    Below w0.heap.size w0 w2 ∧ KB (fun _ => False) w2 w1.heap.size (boxV s.gen s.applied s.next (.slice A s.tables.length c) t) ∧ IntsAt w2 (.slice A s.tables.length c) s.tables := by
  subst hw
  exact ⟨hb.alloc hb.size _, ⟨heap_alloc_new w1 _, id⟩, hi.alloc _⟩

set_option maxRecDepth 100000 in
set_option maxHeartbeats 8000000 in
theorem mbytes_any (w : World) (s : MS) (tv bv : Value) (xs : List Int) (h : IntsAt w tv s.tables) (hB : BytesAt w bv xs) (ho : Octets xs) : Calls Try.prog 7 #[stV s.gen s.applied s.next tv, bv] w (IsB w true) := by
  obtain ⟨A, c, rfl, -⟩ := Srcs.slice h
  obtain ⟨XA, xc, rfl, -⟩ := Srcs.slice hB
  obtain ⟨wb, hwb⟩ : ∃ wb, wb = w.alloc (.cells #[.int .i64 s.gen, .int .i64 s.applied, .int .i64 s.next, .slice A s.tables.length c] 59) := ⟨_, rfl⟩
  have hb0 : Below w.heap.size w wb := by rw [hwb]; exact (Below.refl _ _).alloc (Nat.le_refl _) _
  have hk : KB (fun _ => False) wb w.heap.size (boxV s.gen s.applied s.next (.slice A s.tables.length c) 59) := ⟨by rw [hwb]; exact heap_alloc_new w _, id⟩
  have Hal := Lib.hid (alive11_any wb)
  have Hk := Lib.hid hk
  have Hb0 := Lib.hid hb0
  have Hh := Lib.hid h
  have HB := Lib.hid hB
  have Ho := Lib.hid ho
  clear hk hb0 h hB ho
  unfold stV
  go_enter Try.func7, Try.ntmps7
  go_wp2_with fail
  rw [← hwb]
  clear hwb
  refine Hal.out.mono ?_
  rintro e w1 ⟨rfl, hb1⟩
  have hk1 := Hk.out.step hb1
  have hcs := boxV_cells hk1
  have q0 := hcs.1
  have q1 := hcs.2.1
  have q2 := hcs.2.2.1
  have q3 := hcs.2.2.2
  have Hk1 := Lib.hid hk1
  have Hb1 := Lib.hid (Hb0.out.trans (hb1.mono Hb0.out.size))
  clear hk1 hb1 hcs Hal
  by_cases h200 : 200 < s.tables.length
  · have h200' : (200 : Int) < (s.tables.length : Int) := by omega
    go_wp2
    go_ret
    exact ⟨rfl, Hb1.out⟩
  have h200' : ¬ (200 : Int) < (s.tables.length : Int) := by omega
  by_cases h3000 : 3000 < xs.length
  · have h3000' : (3000 : Int) < (xs.length : Int) := by omega
    go_wp2
    go_ret
    exact ⟨rfl, Hb1.out⟩
  have h3000' : ¬ (3000 : Int) < (xs.length : Int) := by omega
  have Hof := Lib.hid (of_any w1 s.gen s.applied s.next s.tables _ (srcs_below Hh.out Hb1.out) (by omega))
  unfold stV at Hof
  go_wp2_with fail
  refine Hof.out.mono ?_
  rintro e w2 ⟨tv2, rfl, hown2, hb2⟩
  obtain ⟨A2, c2, rfl, -⟩ := ownsRow_slice hown2
  have Hen := Lib.hid ((mencode_any w2 s _ (ownsRow_srcs hown2 (one_i64 _)) (by omega)).mono fun e w' hp => EncU.of hp)
  unfold msV at Hen
  have Hk2 := Lib.hid (Hk1.out.step hb2)
  have Hb2 := Lib.hid (Hb1.out.trans (hb2.mono Hb1.out.size))
  clear hown2 hb2 q0 q1 q2 q3 Hof
  go_wp2_with fail
  refine Hen.out.mono ?_
  rintro e w3 ⟨hb3, X1, x1, rfl, hx3⟩
  obtain ⟨E, hE⟩ : ∃ E, E = encU s := ⟨_, rfl⟩
  rw [← hE] at hx3 ⊢
  have hEl : E.1.length ≤ 600 := by rw [hE]; exact encU_len
  have hren := (rencode_any w3 s _ (srcs_below Hh.out (Hb2.out.trans (hb3.mono Hb2.out.size))) (by omega)).mono fun e w' hp => EncU.of hp
  rw [← hE] at hren
  unfold stV at hren
  obtain ⟨EX, eb⟩ := E
  simp only at hx3 hEl ⊢
  have Hren := Lib.hid hren
  have hk3 := Hk2.out.step hb3
  have hcs := boxV_cells hk3
  have q0 := hcs.1
  have q1 := hcs.2.1
  have q2 := hcs.2.2.1
  have q3 := hcs.2.2.2
  have Hk3 := Lib.hid hk3
  have Hx3 := Lib.hid hx3
  have Hb3 := Lib.hid (Hb2.out.trans (hb3.mono Hb2.out.size))
  clear hx3 hren hk3 hcs hb3 Hen hE
  go_wp2_with fail
  refine Hren.out.mono ?_
  rintro e w4 ⟨hb4, Y1, y1, rfl, hy4⟩
  simp only at hy4 ⊢
  have hbw4 := Hb3.out.trans (hb4.mono Hb3.out.size)
  have Hdec := Lib.hid ((mdecode_any w4 _ xs (srcs_below HB.out hbw4) Ho.out (by omega)).mono fun e w' hp => DecU.of hp)
  have Hk4 := Lib.hid (Hk3.out.step hb4)
  have Hx4 := Lib.hid (srcs_below Hx3.out hb4)
  have Hy4 := Lib.hid hy4
  have Hb4 := Lib.hid hbw4
  clear hb4 hy4 hbw4 Hren q0 q1 q2 q3
  go_wp2_with fail
  refine Hdec.out.mono ?_
  rintro e w5 ⟨hb5, AP, cP, rfl, hi5⟩
  obtain ⟨D, hD⟩ : ∃ D, D = decU (decB xs) := ⟨_, rfl⟩
  have hDl : D.1.tables.length ≤ 1000 := by rw [hD]; exact decU_len
  rw [← hD] at hi5 ⊢
  obtain ⟨P, pb⟩ := D
  simp only at hi5 hDl ⊢
  unfold stV
  obtain ⟨w6, hw6⟩ : ∃ w6, w6 = w5.alloc (.cells #[.int .i64 P.gen, .int .i64 P.applied, .int .i64 P.next, .slice AP P.tables.length cP] 61) := ⟨_, rfl⟩
  obtain ⟨hb46, hkp, hip⟩ := made_box hw6 hi5 hb5
  have hbw6 := Hb4.out.trans (hb46.mono Hb4.out.size)
  have hrd := (rdecode_any w6 _ xs (srcs_below HB.out hbw6) Ho.out (by omega)).mono fun e w' hp => DecU.ofR hp
  rw [← hD] at hrd
  have Hrd := Lib.hid hrd
  have Hk6 := Lib.hid (Hk4.out.step hb46)
  have Hx6 := Lib.hid (srcs_below Hx4.out hb46)
  have Hy6 := Lib.hid (srcs_below Hy4.out hb46)
  have Hb6 := Lib.hid hbw6
  have Hkp := Lib.hid hkp
  have Hip := Lib.hid hip
  clear hb5 hi5 hb46 hkp hip hbw6 hrd Hdec hD
  go_upto_region 8 with (fail)
  rw [← hw6]
  clear hw6
  go_wp2_with fail
  refine Hrd.out.mono ?_
  rintro e w7 ⟨hb7, AQ, cQ, rfl, hi7⟩
  simp only at hi7 ⊢
  unfold stV
  obtain ⟨w8, hw8⟩ : ∃ w8, w8 = w7.alloc (.cells #[.int .i64 P.gen, .int .i64 P.applied, .int .i64 P.next, .slice AQ P.tables.length cQ] 59) := ⟨_, rfl⟩
  obtain ⟨hb68, hkq, hiq⟩ := made_box hw8 hi7 hb7
  have hbw8 := Hb6.out.trans (hb68.mono Hb6.out.size)
  have Hmr := Lib.hid ((mread_any w8 _ xs (srcs_below HB.out hbw8) Ho.out (by omega)).mono fun e w' hp => ReadU.of hp)
  have Hk8 := Lib.hid (Hk6.out.step hb68)
  have Hx8 := Lib.hid (srcs_below Hx6.out hb68)
  have Hy8 := Lib.hid (srcs_below Hy6.out hb68)
  have Hb8 := Lib.hid hbw8
  have Hkp8 := Lib.hid (Hkp.out.step hb68)
  have Hip8 := Lib.hid (srcs_below Hip.out hb68)
  have Hkq := Lib.hid hkq
  have Hiq := Lib.hid hiq
  clear hb7 hi7 hb68 hkq hiq hbw8 Hrd
  go_upto_region 9 with (fail)
  rw [← hw8]
  clear hw8
  go_wp2_with fail
  refine Hmr.out.mono ?_
  rintro e w9 ⟨hb9, AU, cU, rfl, hi9⟩
  obtain ⟨R, hR⟩ : ∃ R, R = readU (readB xs) := ⟨_, rfl⟩
  have hRl : R.1.tables.length ≤ 1000 := by rw [hR]; exact readU_len
  rw [← hR] at hi9 ⊢
  obtain ⟨U, un, ue⟩ := R
  simp only at hi9 hRl ⊢
  unfold stV
  obtain ⟨w10, hw10⟩ : ∃ w10, w10 = w9.alloc (.cells #[.int .i64 U.gen, .int .i64 U.applied, .int .i64 U.next, .slice AU U.tables.length cU] 61) := ⟨_, rfl⟩
  obtain ⟨hb810, hku, hiu⟩ := made_box hw10 hi9 hb9
  have hbw10 := Hb8.out.trans (hb810.mono Hb8.out.size)
  have hrr := (rread_any w10 _ xs (srcs_below HB.out hbw10) Ho.out (by omega)).mono fun e w' hp => ReadU.ofR hp
  rw [← hR] at hrr
  have Hrr := Lib.hid hrr
  have Hk10 := Lib.hid (Hk8.out.step hb810)
  have Hx10 := Lib.hid (srcs_below Hx8.out hb810)
  have Hy10 := Lib.hid (srcs_below Hy8.out hb810)
  have Hb10 := Lib.hid hbw10
  have Hkp10 := Lib.hid (Hkp8.out.step hb810)
  have Hip10 := Lib.hid (srcs_below Hip8.out hb810)
  have Hkq10 := Lib.hid (Hkq.out.step hb810)
  have Hiq10 := Lib.hid (srcs_below Hiq.out hb810)
  have Hku := Lib.hid hku
  have Hiu := Lib.hid hiu
  clear hb9 hi9 hb810 hku hiu hbw10 hrr Hmr hR
  go_upto_region 10 with (fail)
  rw [← hw10]
  clear hw10
  go_wp2_with fail
  refine Hrr.out.mono ?_
  rintro e w11 ⟨hb11, AV, cV, rfl, hi11⟩
  simp only at hi11 ⊢
  unfold stV
  obtain ⟨w12, hw12⟩ : ∃ w12, w12 = w11.alloc (.cells #[.int .i64 U.gen, .int .i64 U.applied, .int .i64 U.next, .slice AV U.tables.length cV] 59) := ⟨_, rfl⟩
  obtain ⟨hb1012, hkv, hiv⟩ := made_box hw12 hi11 hb11
  have hbw12 := Hb10.out.trans (hb1012.mono Hb10.out.size)
  obtain ⟨b9, hb9e⟩ : ∃ b, b = w5.heap.size := ⟨_, rfl⟩
  obtain ⟨b11, hb11e⟩ : ∃ b, b = w7.heap.size := ⟨_, rfl⟩
  obtain ⟨b13, hb13e⟩ : ∃ b, b = w9.heap.size := ⟨_, rfl⟩
  obtain ⟨b16, hb16e⟩ : ∃ b, b = w11.heap.size := ⟨_, rfl⟩
  have hk0 := Hk10.out.step hb1012
  have hk9 := Hkp10.out.step hb1012
  have hk11 := Hkq10.out.step hb1012
  have hk13 := Hku.out.step hb1012
  rw [← hb9e] at hk9
  rw [← hb11e] at hk11
  rw [← hb13e] at hk13
  rw [← hb16e] at hkv
  have hold : ∀ w4 : World, Below w12.heap.size w12 w4 → (w4.cell? ⟨w.heap.size, 0, none⟩ = some (.int .i64 s.gen) ∧ w4.cell? ⟨w.heap.size, 1, none⟩ = some (.int .i64 s.applied) ∧ w4.cell? ⟨w.heap.size, 2, none⟩ = some (.int .i64 s.next) ∧ w4.cell? ⟨w.heap.size, 3, none⟩ = some (.slice A s.tables.length c)) ∧
      (w4.cell? ⟨b9, 0, none⟩ = some (.int .i64 P.gen) ∧ w4.cell? ⟨b9, 1, none⟩ = some (.int .i64 P.applied) ∧ w4.cell? ⟨b9, 2, none⟩ = some (.int .i64 P.next) ∧ w4.cell? ⟨b9, 3, none⟩ = some (.slice AP P.tables.length cP)) ∧
      (w4.cell? ⟨b11, 0, none⟩ = some (.int .i64 P.gen) ∧ w4.cell? ⟨b11, 1, none⟩ = some (.int .i64 P.applied) ∧ w4.cell? ⟨b11, 2, none⟩ = some (.int .i64 P.next) ∧ w4.cell? ⟨b11, 3, none⟩ = some (.slice AQ P.tables.length cQ)) ∧
      (w4.cell? ⟨b13, 0, none⟩ = some (.int .i64 U.gen) ∧ w4.cell? ⟨b13, 1, none⟩ = some (.int .i64 U.applied) ∧ w4.cell? ⟨b13, 2, none⟩ = some (.int .i64 U.next) ∧ w4.cell? ⟨b13, 3, none⟩ = some (.slice AU U.tables.length cU)) ∧
      (w4.cell? ⟨b16, 0, none⟩ = some (.int .i64 U.gen) ∧ w4.cell? ⟨b16, 1, none⟩ = some (.int .i64 U.applied) ∧ w4.cell? ⟨b16, 2, none⟩ = some (.int .i64 U.next) ∧ w4.cell? ⟨b16, 3, none⟩ = some (.slice AV U.tables.length cV)) := fun w4 hb =>
    ⟨boxV_cells (hk0.step hb), boxV_cells (hk9.step hb), boxV_cells (hk11.step hb), boxV_cells (hk13.step hb), boxV_cells (hkv.step hb)⟩
  have c0 := hold w12 (Below.refl _ _)
  have hx12 := srcs_below Hx10.out hb1012
  have hy12 := srcs_below Hy10.out hb1012
  have hp12 := srcs_below Hip10.out hb1012
  have hq12 := srcs_below Hiq10.out hb1012
  have hu12 := srcs_below Hiu.out hb1012
  obtain ⟨rb, hrb⟩ : ∃ rb, rb = rightM s := ⟨_, rfl⟩
  have h36 := of_any w12.drew s.gen s.applied s.next s.tables _ (srcs_below Hh.out (show Below w.heap.size w w12.drew from hbw12.drew)) (by omega)
  have h42 : ∀ (W : World) (C : Option Addr) (q : Nat), IntsAt W (.slice C s.tables.length q) s.tables → Calls Try.prog 42 #[.agg #[.int .i64 s.gen, .int .i64 s.applied, .int .i64 s.next, .slice C s.tables.length q]] W (IsB W rb) := fun W C q hC => by
    rw [hrb]; exact mright_any W s _ hC (by omega)
  have h43 : ∀ W : World, Below w12.heap.size w12 W → Calls Try.prog 43 #[.agg #[.int .i64 s.gen, .int .i64 s.applied, .int .i64 s.next, .slice A s.tables.length c]] W (IsB W rb) := fun W hb => by
    rw [hrb]; exact rright_any W s _ (srcs_below Hh.out (hbw12.trans (hb.mono hbw12.size))) (by omega)
  have h22 : ∀ W : World, Below w12.heap.size w12 W → Calls Try.prog 22 #[.slice X1 EX.length x1, .slice Y1 EX.length y1] W (IsB W true) := fun W hb => by
    have := sameBytes_any W _ _ EX EX (srcs_below hx12 hb) (srcs_below hy12 hb) (by omega) (by omega)
    rwa [show decide (EX = EX) = true from decide_eq_true rfl] at this
  have h44p : ∀ W : World, Below w12.heap.size w12 W → Calls Try.prog 44 #[.agg #[.int .i64 P.gen, .int .i64 P.applied, .int .i64 P.next, .slice AP P.tables.length cP], .agg #[.int .i64 P.gen, .int .i64 P.applied, .int .i64 P.next, .slice AQ P.tables.length cQ]] W (IsB W true) := fun W hb =>
    same_true W P.gen P.applied P.next P.gen P.applied P.next _ _ P.tables P.tables (srcs_below hp12 hb) (srcs_below hq12 hb) (by omega) (by omega) (sameSt_refl _ _ _ _)
  have h44u : ∀ W : World, Below w12.heap.size w12 W → Calls Try.prog 44 #[.agg #[.int .i64 U.gen, .int .i64 U.applied, .int .i64 U.next, .slice AU U.tables.length cU], .agg #[.int .i64 U.gen, .int .i64 U.applied, .int .i64 U.next, .slice AV U.tables.length cV]] W (IsB W true) := fun W hb =>
    same_true W U.gen U.applied U.next U.gen U.applied U.next _ _ U.tables U.tables (srcs_below hu12 hb) (srcs_below hiv hb) (by omega) (by omega) (sameSt_refl _ _ _ _)
  unfold stV at h36
  have H36 := Lib.hid h36
  have H42 := Lib.hid h42
  have H43 := Lib.hid h43
  have H22 := Lib.hid h22
  have H44p := Lib.hid h44p
  have H44u := Lib.hid h44u
  have Hold := Lib.hid hold
  have Hb12 := Lib.hid hbw12
  clear h36 h42 h43 h22 h44p h44u hold hbw12 hx12 hy12 hp12 hq12 hu12 hk0 hk9 hk11 hk13 hkv hiv hb1012 hrb hb11 hi11 Hrr
  go_upto_region 11 with (fail)
  rw [← hw12, ← hb9e, ← hb11e, ← hb13e, ← hb16e]
  clear hw12 hb9e hb11e hb13e hb16e
  go_region_held3 (fun w' => (w'.cell? ⟨w.heap.size, 0, none⟩ = some (.int .i64 s.gen) ∧ w'.cell? ⟨w.heap.size, 1, none⟩ = some (.int .i64 s.applied) ∧ w'.cell? ⟨w.heap.size, 2, none⟩ = some (.int .i64 s.next) ∧ w'.cell? ⟨w.heap.size, 3, none⟩ = some (.slice A s.tables.length c)) ∧
      (w'.cell? ⟨b9, 0, none⟩ = some (.int .i64 P.gen) ∧ w'.cell? ⟨b9, 1, none⟩ = some (.int .i64 P.applied) ∧ w'.cell? ⟨b9, 2, none⟩ = some (.int .i64 P.next) ∧ w'.cell? ⟨b9, 3, none⟩ = some (.slice AP P.tables.length cP)) ∧
      (w'.cell? ⟨b11, 0, none⟩ = some (.int .i64 P.gen) ∧ w'.cell? ⟨b11, 1, none⟩ = some (.int .i64 P.applied) ∧ w'.cell? ⟨b11, 2, none⟩ = some (.int .i64 P.next) ∧ w'.cell? ⟨b11, 3, none⟩ = some (.slice AQ P.tables.length cQ)) ∧
      (w'.cell? ⟨b13, 0, none⟩ = some (.int .i64 U.gen) ∧ w'.cell? ⟨b13, 1, none⟩ = some (.int .i64 U.applied) ∧ w'.cell? ⟨b13, 2, none⟩ = some (.int .i64 U.next) ∧ w'.cell? ⟨b13, 3, none⟩ = some (.slice AU U.tables.length cU)) ∧
      (w'.cell? ⟨b16, 0, none⟩ = some (.int .i64 U.gen) ∧ w'.cell? ⟨b16, 1, none⟩ = some (.int .i64 U.applied) ∧ w'.cell? ⟨b16, 2, none⟩ = some (.int .i64 U.next) ∧ w'.cell? ⟨b16, 3, none⟩ = some (.slice AV U.tables.length cV)))
    ((first | with_reducible exact c0 | with_reducible exact k4 | with_reducible exact k5 | with_reducible exact k6 | with_reducible exact k7 | with_reducible exact k8 | with_reducible exact k9 | go_keep))
    ((first | (go_at_call 36; show Calls _ _ _ w12.drew _; refine H36.out.mono ?_; rintro e w14 ⟨v4, rfl, hown4, hb4⟩; obtain ⟨A4, q4, rfl, -⟩ := ownsRow_slice hown4; have m4 := below_undrew hb4; have k4 := Hold.out w14 m4; have Hown4 := Lib.hid (ownsRow_srcs hown4 (one_i64 _)); have M4 := Lib.hid m4; clear hown4 hb4 m4)
            | (go_at_call 42; show Calls _ _ _ w14 _; refine (H42.out w14 A4 q4 Hown4.out).mono ?_; rintro e w15 ⟨rfl, hb5⟩; have m5 := M4.out.trans (hb5.mono M4.out.size); have k5 := Hold.out w15 m5; have M5 := Lib.hid m5; clear m5 hb5)
            | (go_at_call 43; show Calls _ _ _ w15 _; refine (H43.out w15 M5.out).mono ?_; rintro e w16 ⟨rfl, hb6⟩; have m6 := M5.out.trans (hb6.mono M5.out.size); have k6 := Hold.out w16 m6; have M6 := Lib.hid m6; clear m6 hb6)
            | (go_at_call 22; show Calls _ _ _ w16 _; refine (H22.out w16 M6.out).mono ?_; rintro e w17 ⟨rfl, hb7⟩; have m7 := M6.out.trans (hb7.mono M6.out.size); have k7 := Hold.out w17 m7; have M7 := Lib.hid m7; clear m7 hb7)
            | (go_at_call 44; show Calls _ _ _ w17 _; refine (H44p.out w17 M7.out).mono ?_; rintro e w18 ⟨rfl, hb8⟩; have m8 := M7.out.trans (hb8.mono M7.out.size); have k8 := Hold.out w18 m8; have M8 := Lib.hid m8; clear m8 hb8)
            | (go_at_call 44; show Calls _ _ _ w18 _; refine (H44u.out w18 M8.out).mono ?_; rintro e w19 ⟨rfl, hb9⟩; have m9 := M8.out.trans (hb9.mono M8.out.size); have k9 := Hold.out w19 m9; have M9 := Lib.hid m9; clear m9 hb9)))
  go_wp2
  go_ret
  exact ⟨rfl, Hb12.out.trans (M9.out.mono Hb12.out.size)⟩
end Go.Proofs.Ytkefciacdmbidaa
