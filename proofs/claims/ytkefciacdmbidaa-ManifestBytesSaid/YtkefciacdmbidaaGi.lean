/- Read: the walk. follows: the frame of a state that is to be saved. Save: a state more. Load: the state of a manifest. -/
import Derived.Test.YtkefciacdmbidaaGh
import Derived.Test.YtkefciacdmbidaaGg
namespace Go.Proofs.Ytkefciacdmbidaa
open Go.RowKit Go.WideMaps Go.Maps Go.Lib

theorem readF_step {b : Bool} {last : MS} {fs : List (List Int)} {k : Nat} (h : k < fs.length) : readF b last (fs.drop k) = match decB fs[k] with
    | none => none
    | some s => if b = false ∧ s.gen ≠ last.gen + 1 then none else readF false s (fs.drop (k + 1)) := by
  rw [List.drop_eq_getElem_cons h, readF]
  cases decB fs[k] <;> rfl
theorem readF_end {b : Bool} {last : MS} {fs : List (List Int)} {k : Nat} (h : fs.length ≤ k) : readF b last (fs.drop k) = some last := by
  rw [List.drop_eq_nil_of_le h, readF]

/-- how Read runs -/
structure ReadAt (B gl : Nat) (w2 wr : World) (R : Option MS) (fs : List (List Int)) (last : MS) (tv : Value) (k : Nat) : Prop where
  below : Below w2.heap.size w2 wr
  cell : wr.heap[gl]? = some (.cells #[.int .i64 last.gen, .int .i64 last.applied, .int .i64 last.next, tv] 61 (0, 0))
  own : wr.ownsRow B 3 1 tv last.tables.length (last.tables.map (Value.int .i64))
  lo : 0 ≤ last.gen
  hi : last.gen ≤ 1099511627776
  eq : R = readF (decide (k = 0)) last (fs.drop k)

set_option maxRecDepth 100000 in
set_option maxHeartbeats 2000000 in
theorem mread_any (w : World) (v : Value) (xs : List Int) (h : BytesAt w v xs) (ho : Octets xs) (hn : xs.length ≤ 1000000000) : Calls Try.prog 40 #[v] w (MReadPost w (readB xs)) := by
  obtain ⟨A, cap, rfl, -⟩ := Srcs.slice h
  obtain ⟨wb, hwb⟩ : ∃ wb, wb = w.alloc (.cells #[.int .i64 0, .int .i64 0, .int .i64 0, .slice none 0 0] 61) := ⟨_, rfl⟩
  have hb0 : Below w.heap.size w wb := by rw [hwb]; exact (Below.refl _ _).alloc (Nat.le_refl _) _
  have hwl : w.heap.size < wb.heap.size := by rw [hwb]; simp
  have hblk : wb.heap[w.heap.size]? = some (.cells #[.int .i64 0, .int .i64 0, .int .i64 0, .slice none 0 0] 61 (0, 0)) := by rw [hwb]; exact heap_alloc_new w _
  have hall := all_any wb _ xs (srcs_below h hb0) ho hn
  obtain ⟨D, hD⟩ : ∃ D, D = readB xs := ⟨_, rfl⟩
  have hoct := allB_oct ho
  have hflen := allF_len xs.length xs
  have hcode := allB_code xs
  rw [← hD]
  unfold readB at hD
  obtain ⟨t, ht⟩ : ∃ t, t = allB xs := ⟨_, rfl⟩
  rw [← ht] at hall hD hoct hcode
  rw [show allF xs.length xs = allB xs from rfl, ← ht] at hflen
  obtain ⟨fs, rest, what⟩ := t
  simp only at hD hoct hcode hflen
  have HD := Lib.hid hD
  have Hall := Lib.hid hall
  have Hb0 := Lib.hid hb0
  have Hwb := Lib.hid hwb
  have Hblk := Lib.hid hblk
  have Hoct := Lib.hid hoct
  have Hcode := Lib.hid hcode
  have hfl : fs.length ≤ 1000000000 := by omega
  clear h ho hb0 hD hblk hall hoct hcode ht hflen
  go_enter Try.func40, Try.ntmps40
  go_wp2_with fail
  rw [← hwb]
  clear hwb
  refine Hall.out.mono ?_
  rintro e w2 ⟨v2, rfl, hrows, hb2⟩
  obtain ⟨A2, c2, rfl, hc2⟩ := hrows.cell
  simp only
  obtain ⟨N, hN⟩ : ∃ N : Int, N = (xs.length : Int) - rest.length := ⟨_, rfl⟩
  rw [← hN]
  have hk2 := (hb2.block w.heap.size hwl).trans Hblk.out
  have hlt2 := Nat.lt_of_lt_of_le hwl hb2.size
  have hbw2 := Hb0.out.trans (hb2.mono Hb0.out.size)
  have Hk2 := Lib.hid hk2
  have Hbw2 := Lib.hid hbw2
  have HN := Lib.hid hN
  have Hrows := Lib.hid hrows
  clear hk2 hbw2 hb2 hc2 hN hrows
  by_cases hw2 : what = 2
  · have tw : (what == 2) = true := by simp [hw2]
    have hDn : D = none := by rw [HD.out, if_pos hw2]
    have HDn := Lib.hid hDn
    have Hset := Lib.hid (set4 Hk2.out (.int .i64 0) (.int .i64 0) (.int .i64 0) (.slice none 0 0))
    have c0 : w2.cell? ⟨w.heap.size, 0, none⟩ = some (.int .i64 0) := by rw [cell_of Hk2.out]; rfl
    have c1 : w2.cell? ⟨w.heap.size, 1, none⟩ = some (.int .i64 0) := by rw [cell_of Hk2.out]; rfl
    have c2 : w2.cell? ⟨w.heap.size, 2, none⟩ = some (.int .i64 0) := by rw [cell_of Hk2.out]; rfl
    have c3 : w2.cell? ⟨w.heap.size, 3, none⟩ = some (.slice none 0 0) := by rw [cell_of Hk2.out]; rfl
    have e0 := free_of Hk2.out 0
    have e1 := free_of Hk2.out 1
    have e2 := free_of Hk2.out 2
    have e3 := free_of Hk2.out 3
    clear hDn hw2
    go_wp2
    refine bodyPost_ret (res3 rfl _ _ w.heap.size _ _ _ _ (0, 0) rfl Hset.out) rfl ?_
    rw [HDn.out]
    exact ⟨below_set4 Hbw2.out (Nat.le_refl _) _ _ _ _, rfl⟩
  · have tw : (what == 2) = false := by simp [hw2]
    have hDs : D = (readF true ms0 fs).map fun s => (s, N) := by rw [HD.out, if_neg hw2, HN.out]
    have HDs := Lib.hid hDs
    clear hDs hw2
    have hat0 : ReadAt w.heap.size w2.heap.size w2 (w2.alloc (.cells #[.int .i64 0, .int .i64 0, .int .i64 1, .slice none 0 0] 61)) (readF true ms0 fs) fs ms0 (.slice none 0 0) 0 :=
      ⟨(Below.refl _ _).alloc (Nat.le_refl _) _, heap_alloc_new w2 _, World.ownsRow_nil _ _ _ _, by decide, by decide, by simp⟩
    obtain ⟨R, hR⟩ : ∃ R, R = readF true ms0 fs := ⟨_, rfl⟩
    rw [← hR] at hat0
    have HR := Lib.hid hR
    have H0 := Lib.hid hat0
    clear hat0 hR
    go_wp2_with fail
    go_loopw [25] (fun i wr => ∃ (last : MS) (A : Option Addr) (c k : Nat), i = .int .i64 k ∧ k ≤ fs.length ∧ ReadAt w.heap.size w2.heap.size w2 wr R fs last (.slice A last.tables.length c) k) (fun i _ => fs.length - (intOf i).toNat)
    case atStart => exact ⟨ms0, none, 0, 0, rfl, Nat.zero_le _, H0.out⟩
    case round =>
      obtain ⟨last, A3, c3', k, rfl, hk, hat⟩ := hrel
      have hgl : w2.heap.size < wr.heap.size := (Array.getElem?_eq_some_iff.1 hat.cell).1
      have hkr : wr.heap[w.heap.size]? = some (.cells #[.int .i64 0, .int .i64 0, .int .i64 0, .slice none 0 0] 61 (0, 0)) := (hat.below.block w.heap.size hlt2).trans Hk2.out
      have hbwr : Below w.heap.size w wr := Hbw2.out.trans (hat.below.mono Hbw2.out.size)
      have hne : w.heap.size ≠ w2.heap.size := Nat.ne_of_lt hlt2
      have hlo := hat.lo
      have hhi := hat.hi
      have Hat := Lib.hid hat
      have Hkr := Lib.hid hkr
      have Hbwr := Lib.hid hbwr
      clear hat hkr hbwr H0
      by_cases hlt : k < fs.length
      · obtain ⟨_, _, e2, hc2⟩ := (Hrows.out.below Hat.out.below).cell
        cases e2
        obtain ⟨b, off, u, rfl, hbs, hu, hub⟩ := hc2 k hlt
        obtain ⟨A5, c5, rfl, -⟩ := Srcs.slice hub
        have ho5 := Hoct.out fs[k] (List.getElem_mem hlt)
        have hdec := mdecode_any wr _ fs[k] hub ho5.1 (by have := ho5.2; omega)
        have hst := Hat.out.eq
        rw [readF_step hlt] at hst
        have Hst := Lib.hid hst
        have Hdec := Lib.hid hdec
        clear hub ho5 hdec hst hc2
        go_wp2_with fail
        refine Hdec.out.mono ?_
        intro e w3 hp
        obtain ⟨hb3, hp⟩ := hp
        have hk3 := (hb3.block w.heap.size (Nat.lt_trans hlt2 hgl)).trans Hkr.out
        have hg3 := (hb3.block w2.heap.size hgl).trans Hat.out.cell
        have hgl3 : w2.heap.size < w3.heap.size := Nat.lt_of_lt_of_le hgl hb3.size
        have hwl3 : w.heap.size < w3.heap.size := Nat.lt_trans hlt2 hgl3
        have hbw3 := Hbwr.out.trans (hb3.mono Hbwr.out.size)
        have hb23 := Hat.out.below.trans (hb3.mono Hat.out.below.size)
        have Hb3 := Lib.hid hb3
        have Hk3 := Lib.hid hk3
        have Hg3 := Lib.hid hg3
        have Hbw3 := Lib.hid hbw3
        have Hb23 := Lib.hid hb23
        clear hb3 hk3 hg3 hbw3 hb23
        cases hdb : decB fs[k] with
        | none =>
          rw [hdb] at hp
          simp only at hp
          subst hp
          have hst := Hst.out
          rw [hdb] at hst
          have hDn : D = none := by rw [HDs.out, ← HR.out, hst]; rfl
          have HDn := Lib.hid hDn
          obtain ⟨wa, hwa⟩ : ∃ wa, wa = w3.alloc (.cells #[.int .i64 0, .int .i64 0, .int .i64 0, .slice none 0 0] 61) := ⟨_, rfl⟩
          have hka := (Below.heap_alloc w3 (.cells #[.int .i64 0, .int .i64 0, .int .i64 0, .slice none 0 0] 61) w.heap.size hwl3).trans Hk3.out
          rw [← hwa] at hka
          have hba := Hbw3.out.alloc Hbw3.out.size (.cells #[.int .i64 0, .int .i64 0, .int .i64 0, .slice none 0 0] 61)
          rw [← hwa] at hba
          have Hba := Lib.hid hba
          have Hset := Lib.hid (set4 hka (.int .i64 0) (.int .i64 0) (.int .i64 0) (.slice none 0 0))
          have c0 : wa.cell? ⟨w.heap.size, 0, none⟩ = some (.int .i64 0) := by rw [cell_of hka]; rfl
          have c1 : wa.cell? ⟨w.heap.size, 1, none⟩ = some (.int .i64 0) := by rw [cell_of hka]; rfl
          have c2 : wa.cell? ⟨w.heap.size, 2, none⟩ = some (.int .i64 0) := by rw [cell_of hka]; rfl
          have c3 : wa.cell? ⟨w.heap.size, 3, none⟩ = some (.slice none 0 0) := by rw [cell_of hka]; rfl
          have e0 := free_of hka 0
          have e1 := free_of hka 1
          have e2 := free_of hka 2
          have e3 := free_of hka 3
          clear hst hDn hdb hka hba
          unfold zeroMS
          go_upto_region 9 with (fail)
          rw [← hwa]
          clear hwa
          go_wp2
          refine bodyPost_ret (res3 rfl _ _ w.heap.size _ _ _ _ (0, 0) rfl Hset.out) rfl ?_
          rw [HDn.out]
          exact ⟨below_set4 Hba.out (Nat.le_refl _) _ _ _ _, rfl⟩
        | some s =>
          rw [hdb] at hp
          obtain ⟨tv, rfl, hown⟩ := hp
          obtain ⟨A6, c6, rfl, -⟩ := ownsRow_slice hown
          have hst := Hst.out
          rw [hdb] at hst
          simp only at hst
          have hsr := (decB_right hdb).basic
          have hg1 := hsr.g1
          have hg2 := hsr.g2
          have Hown := Lib.hid hown
          have Hst2 := Lib.hid hst
          obtain ⟨wa, hwa⟩ : ∃ wa, wa = w3.alloc (.cells #[.int .i64 s.gen, .int .i64 s.applied, .int .i64 s.next, .slice A6 s.tables.length c6] 61) := ⟨_, rfl⟩
          have hka := (Below.heap_alloc w3 (.cells #[.int .i64 s.gen, .int .i64 s.applied, .int .i64 s.next, .slice A6 s.tables.length c6] 61) w.heap.size hwl3).trans Hk3.out
          have hga := (Below.heap_alloc w3 (.cells #[.int .i64 s.gen, .int .i64 s.applied, .int .i64 s.next, .slice A6 s.tables.length c6] 61) w2.heap.size hgl3).trans Hg3.out
          have hna := heap_alloc_new w3 (.cells #[.int .i64 s.gen, .int .i64 s.applied, .int .i64 s.next, .slice A6 s.tables.length c6] 61)
          have hba := Hbw3.out.alloc Hbw3.out.size (.cells #[.int .i64 s.gen, .int .i64 s.applied, .int .i64 s.next, .slice A6 s.tables.length c6] 61)
          have hb2a := Hb23.out.alloc Hb23.out.size (.cells #[.int .i64 s.gen, .int .i64 s.applied, .int .i64 s.next, .slice A6 s.tables.length c6] 61)
          have howa := hown.alloc (.cells #[.int .i64 s.gen, .int .i64 s.applied, .int .i64 s.next, .slice A6 s.tables.length c6] 61)
          rw [← hwa] at hka hga hna hba hb2a howa
          have Hba := Lib.hid hba
          have Hb2a := Lib.hid hb2a
          have Howa := Lib.hid howa
          have Hset := Lib.hid (set4 hka (.int .i64 0) (.int .i64 0) (.int .i64 0) (.slice none 0 0))
          have Hgset := Lib.hid (set4 hga (.int .i64 s.gen) (.int .i64 s.applied) (.int .i64 s.next) (.slice A6 s.tables.length c6))
          have Hga := Lib.hid hga
          have c0 : wa.cell? ⟨w.heap.size, 0, none⟩ = some (.int .i64 0) := by rw [cell_of hka]; rfl
          have c1 : wa.cell? ⟨w.heap.size, 1, none⟩ = some (.int .i64 0) := by rw [cell_of hka]; rfl
          have c2 : wa.cell? ⟨w.heap.size, 2, none⟩ = some (.int .i64 0) := by rw [cell_of hka]; rfl
          have c3 : wa.cell? ⟨w.heap.size, 3, none⟩ = some (.slice none 0 0) := by rw [cell_of hka]; rfl
          have e0 := free_of hka 0
          have e1 := free_of hka 1
          have e2 := free_of hka 2
          have e3 := free_of hka 3
          have n0 : wa.cell? ⟨w3.heap.size, 0, none⟩ = some (.int .i64 s.gen) := by rw [cell_of hna]; rfl
          have n1 : wa.cell? ⟨w3.heap.size, 1, none⟩ = some (.int .i64 s.applied) := by rw [cell_of hna]; rfl
          have n2 : wa.cell? ⟨w3.heap.size, 2, none⟩ = some (.int .i64 s.next) := by rw [cell_of hna]; rfl
          have n3 : wa.cell? ⟨w3.heap.size, 3, none⟩ = some (.slice A6 s.tables.length c6) := by rw [cell_of hna]; rfl
          have g0 : wa.cell? ⟨w2.heap.size, 0, none⟩ = some (.int .i64 last.gen) := by rw [cell_of hga]; rfl
          have g1 : wa.cell? ⟨w2.heap.size, 1, none⟩ = some (.int .i64 last.applied) := by rw [cell_of hga]; rfl
          have g2 : wa.cell? ⟨w2.heap.size, 2, none⟩ = some (.int .i64 last.next) := by rw [cell_of hga]; rfl
          have g3 : wa.cell? ⟨w2.heap.size, 3, none⟩ = some (.slice A3 last.tables.length c3') := by rw [cell_of hga]; rfl
          have h0 := free_of hga 0
          have h1 := free_of hga 1
          have h2 := free_of hga 2
          have h3 := free_of hga 3
          have hnext : Hid (∀ (hh : R = readF false s (fs.drop (k + 1))), ReadAt w.heap.size w2.heap.size w2 ((((wa.setCell ⟨w2.heap.size, 0, none⟩ (.int .i64 s.gen)).setCell ⟨w2.heap.size, 1, none⟩ (.int .i64 s.applied)).setCell ⟨w2.heap.size, 2, none⟩ (.int .i64 s.next)).setCell ⟨w2.heap.size, 3, none⟩ (.slice A6 s.tables.length c6)) R fs s (.slice A6 s.tables.length c6) (k + 1)) := Lib.hid fun hh => by
            refine ⟨below_set4 Hb2a.out (Nat.le_refl _) _ _ _ _, Hgset.out, ownsRow_rebase (ownsRow_block Howa.out fun q hq => set4_other ?_ _ _ _ _) fun q hq => ?_, by omega, by omega, by rw [hh]; simp⟩
            · intro e
              obtain ⟨cs, hq1⟩ := ownsRow_type Howa.out hq
              rw [← e, Hga.out] at hq1
              cases hq1
            · exact Nat.le_trans Hbwr.out.size (Howa.out.lt q hq).1
          clear hown hst hdb hka hga hna hba hb2a howa hsr
          unfold msV
          go_upto_region 9 with (fail)
          rw [← hwa]
          clear hwa
          by_cases hk0 : k = 0
          · subst hk0
            have hR2 : R = readF false s (fs.drop (0 + 1)) := by rw [Hst2.out]; simp
            have HR2 := Lib.hid (hnext.out hR2)
            clear hR2
            go_wp2
            exact ⟨⟨s, A6, c6, 1, rfl, by omega, HR2.out⟩, by simp [intOf]; omega⟩
          · have hkp : (0 : Int) < (k : Int) := by omega
            by_cases hgen : s.gen = last.gen + 1
            · have tg : (s.gen != last.gen + 1) = false := by simp [hgen]
              have hR2 : R = readF false s (fs.drop (k + 1)) := by rw [Hst2.out, if_neg (fun e => e.2 hgen)]
              have HR2 := Lib.hid (hnext.out hR2)
              clear hR2 hgen hk0
              go_wp2
              exact ⟨⟨s, A6, c6, k + 1, by go_num, by omega, HR2.out⟩, by simp [intOf]; omega⟩
            · have tg : (s.gen != last.gen + 1) = true := by simp [hgen]
              have hDn : D = none := by rw [HDs.out, ← HR.out, Hst2.out, if_pos ⟨by simp [hk0], hgen⟩]; rfl
              have HDn := Lib.hid hDn
              clear hDn hgen hk0
              go_wp2
              refine bodyPost_ret (res3 rfl _ _ w.heap.size _ _ _ _ (0, 0) rfl Hset.out) rfl ?_
              rw [HDn.out]
              exact ⟨below_set4 Hba.out (Nat.le_refl _) _ _ _ _, rfl⟩
      · have hRs : R = some last := by rw [Hat.out.eq, readF_end (by omega)]
        have hDs2 : D = some (last, N) := by rw [HDs.out, ← HR.out, hRs]; rfl
        have HDs2 := Lib.hid hDs2
        have Hset := Lib.hid (set4 Hkr.out (.int .i64 last.gen) (.int .i64 last.applied) (.int .i64 last.next) (.slice A3 last.tables.length c3'))
        have c0 : wr.cell? ⟨w.heap.size, 0, none⟩ = some (.int .i64 0) := by rw [cell_of Hkr.out]; rfl
        have c1 : wr.cell? ⟨w.heap.size, 1, none⟩ = some (.int .i64 0) := by rw [cell_of Hkr.out]; rfl
        have c2 : wr.cell? ⟨w.heap.size, 2, none⟩ = some (.int .i64 0) := by rw [cell_of Hkr.out]; rfl
        have c3 : wr.cell? ⟨w.heap.size, 3, none⟩ = some (.slice none 0 0) := by rw [cell_of Hkr.out]; rfl
        have e0 := free_of Hkr.out 0
        have e1 := free_of Hkr.out 1
        have e2 := free_of Hkr.out 2
        have e3 := free_of Hkr.out 3
        have g0 : wr.cell? ⟨w2.heap.size, 0, none⟩ = some (.int .i64 last.gen) := by rw [cell_of Hat.out.cell]; rfl
        have g1 : wr.cell? ⟨w2.heap.size, 1, none⟩ = some (.int .i64 last.applied) := by rw [cell_of Hat.out.cell]; rfl
        have g2 : wr.cell? ⟨w2.heap.size, 2, none⟩ = some (.int .i64 last.next) := by rw [cell_of Hat.out.cell]; rfl
        have g3 : wr.cell? ⟨w2.heap.size, 3, none⟩ = some (.slice A3 last.tables.length c3') := by rw [cell_of Hat.out.cell]; rfl
        clear hRs hDs2
        go_wp2
        refine bodyPost_ret (res3 rfl _ _ w.heap.size _ _ _ _ (0, 0) rfl Hset.out) rfl ?_
        rw [HDs2.out]
        refine ⟨below_set4 Hbwr.out (Nat.le_refl _) _ _ _ _, _, rfl, ownsRow_block Hat.out.own fun q hq => set4_other ?_ _ _ _ _⟩
        intro e
        obtain ⟨cs, hq1⟩ := ownsRow_type Hat.out.own hq
        rw [← e, Hkr.out] at hq1
        cases hq1
end Go.Proofs.Ytkefciacdmbidaa

namespace Go.Proofs.Ytkefciacdmbidaa
open Go.RowKit Go.WideMaps Go.Maps Go.Lib

theorem readF_rng : ∀ (fs : List (List Int)) (b : Bool) (last s : MS), 0 ≤ last.gen ∧ last.gen ≤ 1099511627776 ∧ last.tables.length ≤ 50 → readF b last fs = some s → 0 ≤ s.gen ∧ s.gen ≤ 1099511627776 ∧ s.tables.length ≤ 50
  | [], b, last, s, h, e => by
    simp only [readF, Option.some.injEq] at e
    rw [← e]; exact h
  | f :: t, b, last, s, h, e => by
    rw [readF] at e
    cases hd : decB f with
    | none => rw [hd] at e; simp at e
    | some q =>
      rw [hd] at e
      simp only at e
      split at e
      · simp at e
      · have hb := (decB_right hd).basic
        have := hb.g1; have := hb.g2; have := hb.t
        exact readF_rng t false q s ⟨by omega, by omega, by omega⟩ e
theorem readB_rng {xs : List Int} {s : MS} {n : Int} (h : readB xs = some (s, n)) : (0 ≤ s.gen ∧ s.gen ≤ 1099511627776 ∧ s.tables.length ≤ 50) ∧ n = (xs.length : Int) - (allB xs).2.1.length := by
  unfold readB at h
  split at h
  · simp at h
  · cases hr : readF true ms0 (allB xs).1 with
    | none => rw [hr] at h; simp at h
    | some q =>
      rw [hr] at h
      simp only [Option.map_some, Option.some.injEq, Prod.mk.injEq] at h
      rw [← h.1]
      exact ⟨readF_rng _ _ _ _ (by decide) hr, h.2.symm⟩

open Classical in
/-- what follows: an error, or how many bytes are whole -/
noncomputable def followsB (xs : List Int) (s : MS) : Int ⊕ Int :=
  if s.Right then match readB xs with
    | none => .inl 20
    | some (old, n) => if 0 < old.gen ∧ s.gen ≠ old.gen + 1 then .inl 10 else .inr n
  else .inl 10
def FollowPost (w : World) (s : MS) (r : Int ⊕ Int) (e : Ending) (w' : World) : Prop :=
  Below w.heap.size w w' ∧ match r with
  | .inl code => e = .returned (.tuple #[.slice none 0 0, .int .i64 0, .int .i64 code])
  | .inr n => ∃ v, e = .returned (.tuple #[v, .int .i64 n, .int .i64 0]) ∧ w'.ownsRow w.heap.size 5 1 v (frameB (encB s)).length ((frameB (encB s)).map (Value.int .u8))

theorem encB_oct {s : MS} (h : s.Right) : Octets (encB s) := by
  intro x hx
  unfold encB encL at hx
  obtain ⟨n, hn, hx⟩ := List.mem_flatMap.1 hx
  have := h.nums n hn
  exact numN_octets 8 n.toNat (by omega) x hx
theorem encB_len {s : MS} (h : s.Right) : (encB s).length ≤ 600 := by
  have h1 := encL_len s.nums fun x hx => by have := (h.nums x hx).2; omega
  have h2 := h.basic.t
  rw [MS.nums_length] at h1
  unfold encB
  omega
theorem follows_no {xs : List Int} {s : MS} (h : ¬ s.Right) : followsB xs s = .inl 10 := by unfold followsB; rw [if_neg h]

set_option maxRecDepth 100000 in
set_option maxHeartbeats 2000000 in
theorem follows_any (w : World) (v : Value) (xs : List Int) (s : MS) (tv : Value) (h : BytesAt w v xs) (ho : Octets xs) (hn : xs.length ≤ 1000000000) (ht : IntsAt w tv s.tables) (hs : s.tables.length ≤ 1000000) :
    Calls Try.prog 75 #[v, msV s tv] w (FollowPost w s (followsB xs s)) := by
  obtain ⟨A, cap, rfl, -⟩ := Srcs.slice h
  obtain ⟨B, c, rfl, -⟩ := Srcs.slice ht
  obtain ⟨wb, hwb⟩ : ∃ wb, wb = w.alloc (.cells #[.int .i64 s.gen, .int .i64 s.applied, .int .i64 s.next, .slice B s.tables.length c] 61) := ⟨_, rfl⟩
  have hb0 : Below w.heap.size w wb := by rw [hwb]; exact (Below.refl _ _).alloc (Nat.le_refl _) _
  have hwl : w.heap.size < wb.heap.size := by rw [hwb]; simp
  have hk : wb.heap[w.heap.size]? = some (.cells #[.int .i64 s.gen, .int .i64 s.applied, .int .i64 s.next, .slice B s.tables.length c] 61 (0, 0)) := by rw [hwb]; exact heap_alloc_new w _
  have hen := mencode_any wb s _ (srcs_below ht hb0) (by omega)
  have c0 : wb.cell? ⟨w.heap.size, 0, none⟩ = some (.int .i64 s.gen) := by rw [cell_of hk]; rfl
  have c1 : wb.cell? ⟨w.heap.size, 1, none⟩ = some (.int .i64 s.applied) := by rw [cell_of hk]; rfl
  have c2 : wb.cell? ⟨w.heap.size, 2, none⟩ = some (.int .i64 s.next) := by rw [cell_of hk]; rfl
  have c3 : wb.cell? ⟨w.heap.size, 3, none⟩ = some (.slice B s.tables.length c) := by rw [cell_of hk]; rfl
  have Hen := Lib.hid hen
  have H := Lib.hid (srcs_below h hb0)
  have Ho := Lib.hid ho
  have Hb0 := Lib.hid hb0
  have Hk := Lib.hid hk
  clear hen h ht ho hb0 hk
  unfold msV at Hen ⊢
  go_enter Try.func75, Try.ntmps75
  go_wp2_with fail
  rw [← hwb]
  clear hwb
  refine Hen.out.mono ?_
  rintro e w1 ⟨hb1, ⟨hR, v1, rfl, hown1⟩ | ⟨hR, rfl⟩⟩
  · obtain ⟨A1, c1', rfl, -⟩ := ownsRow_slice hown1
    have hbw1 := Hb0.out.trans (hb1.mono Hb0.out.size)
    have hk1 := (hb1.block w.heap.size hwl).trans Hk.out
    have hrd := mread_any w1 _ xs (srcs_below H.out hb1) Ho.out hn
    have HR := Lib.hid hR
    have Hrd := Lib.hid hrd
    have Hbw1 := Lib.hid hbw1
    have Hk1 := Lib.hid hk1
    have Hown1 := Lib.hid hown1
    have hwl1 : w.heap.size < w1.heap.size := Nat.lt_of_lt_of_le hwl hb1.size
    clear hrd hbw1 hk1 hown1 hb1 hR c0 c1 c2 c3
    go_wp2_with fail
    refine Hrd.out.mono ?_
    rintro e w2 ⟨hb2, hp⟩
    have hbw2 := Hbw1.out.trans (hb2.mono Hbw1.out.size)
    have hk2 := (hb2.block w.heap.size hwl1).trans Hk1.out
    have hwl2 : w.heap.size < w2.heap.size := Nat.lt_of_lt_of_le hwl1 hb2.size
    have hown2 := ownsRow_block (w' := w2) Hown1.out fun k hk => hb2.block k (Hown1.out.lt k hk).2
    have Hbw2 := Lib.hid hbw2
    have Hk2 := Lib.hid hk2
    have Hown2 := Lib.hid hown2
    clear hbw2 hk2 hown2 hb2
    cases hrb : readB xs with
    | none =>
      rw [hrb] at hp
      simp only at hp
      subst hp
      have hf : followsB xs s = .inl 20 := by unfold followsB; rw [if_pos HR.out, hrb]
      have Hf := Lib.hid hf
      clear hrb hf
      unfold zeroMS
      go_wp2
      go_ret3
      rw [Hf.out]
      exact ⟨Hbw2.out.alloc Hbw2.out.size _, rfl⟩
    | some p =>
      obtain ⟨old, n⟩ := p
      rw [hrb] at hp
      obtain ⟨tv2, rfl, hown3⟩ := hp
      obtain ⟨A3, c3', rfl, -⟩ := ownsRow_slice hown3
      obtain ⟨⟨ho1, ho2, -⟩, -⟩ := readB_rng hrb
      obtain ⟨wa, hwa⟩ : ∃ wa, wa = w2.alloc (.cells #[.int .i64 old.gen, .int .i64 old.applied, .int .i64 old.next, .slice A3 old.tables.length c3'] 61) := ⟨_, rfl⟩
      have hka := (Below.heap_alloc w2 (.cells #[.int .i64 old.gen, .int .i64 old.applied, .int .i64 old.next, .slice A3 old.tables.length c3'] 61) w.heap.size hwl2).trans Hk2.out
      have hna := heap_alloc_new w2 (.cells #[.int .i64 old.gen, .int .i64 old.applied, .int .i64 old.next, .slice A3 old.tables.length c3'] 61)
      have hba := Hbw2.out.alloc Hbw2.out.size (.cells #[.int .i64 old.gen, .int .i64 old.applied, .int .i64 old.next, .slice A3 old.tables.length c3'] 61)
      have howa := Hown2.out.alloc (.cells #[.int .i64 old.gen, .int .i64 old.applied, .int .i64 old.next, .slice A3 old.tables.length c3'] 61)
      rw [← hwa] at hka hna hba howa
      have g0 : wa.cell? ⟨w2.heap.size, 0, none⟩ = some (.int .i64 old.gen) := by rw [cell_of hna]; rfl
      have s0 : wa.cell? ⟨w.heap.size, 0, none⟩ = some (.int .i64 s.gen) := by rw [cell_of hka]; rfl
      have Hba := Lib.hid hba
      have hfr := frame_any wa _ (encB s) (ownsRow_srcs howa (one_u8 _)) (encB_oct HR.out) (by have := encB_len HR.out; omega)
      have Hfr := Lib.hid hfr
      have Hrb := Lib.hid hrb
      clear hka hna hba howa hfr hrb hown3
      unfold msV
      go_upto_region 5 with (fail)
      rw [← hwa]
      clear hwa
      by_cases hg0 : 0 < old.gen
      · by_cases hgs : s.gen = old.gen + 1
        · have tg : (s.gen != old.gen + 1) = false := by simp [hgs]
          have hf : followsB xs s = .inr n := by unfold followsB; rw [if_pos HR.out, Hrb.out]; simp only; rw [if_neg (fun e => e.2 hgs)]
          have Hf := Lib.hid hf
          clear hf hgs
          go_wp2_with fail
          refine Hfr.out.mono ?_
          rintro e w5 ⟨v5, rfl, hown5, hb5⟩
          obtain ⟨A5, c5, rfl, -⟩ := ownsRow_slice hown5
          have Hown5 := Lib.hid hown5
          have Hb5 := Lib.hid hb5
          clear hown5 hb5
          go_wp2
          go_ret3
          rw [Hf.out]
          exact ⟨Hba.out.trans (Hb5.out.mono Hba.out.size), _, rfl, ownsRow_rebase Hown5.out fun q hq => Nat.le_trans Hba.out.size (Hown5.out.lt q hq).1⟩
        · have tg : (s.gen != old.gen + 1) = true := by simp [hgs]
          have hf : followsB xs s = .inl 10 := by unfold followsB; rw [if_pos HR.out, Hrb.out]; simp only; rw [if_pos ⟨hg0, hgs⟩]
          have Hf := Lib.hid hf
          clear hf hgs
          go_wp2
          go_ret3
          rw [Hf.out]
          exact ⟨Hba.out, rfl⟩
      · have hf : followsB xs s = .inr n := by unfold followsB; rw [if_pos HR.out, Hrb.out]; simp only; rw [if_neg (fun e => hg0 e.1)]
        have Hf := Lib.hid hf
        clear hf
        go_wp2_with fail
        refine Hfr.out.mono ?_
        rintro e w5 ⟨v5, rfl, hown5, hb5⟩
        obtain ⟨A5, c5, rfl, -⟩ := ownsRow_slice hown5
        have Hown5 := Lib.hid hown5
        have Hb5 := Lib.hid hb5
        clear hown5 hb5
        go_wp2
        go_ret3
        rw [Hf.out]
        exact ⟨Hba.out.trans (Hb5.out.mono Hba.out.size), _, rfl, ownsRow_rebase Hown5.out fun q hq => Nat.le_trans Hba.out.size (Hown5.out.lt q hq).1⟩
  · have hbw1 := Hb0.out.trans (hb1.mono Hb0.out.size)
    have Hf := Lib.hid (follows_no (xs := xs) hR)
    have Hbw1 := Lib.hid hbw1
    clear hR hb1 hbw1
    go_wp2
    go_ret3
    rw [Hf.out]
    exact ⟨Hbw1.out, rfl⟩
end Go.Proofs.Ytkefciacdmbidaa

namespace Go.Proofs.Ytkefciacdmbidaa
open Go.RowKit Go.WideMaps Go.Maps Go.Lib

theorem data_le {S : SD} (h : S.Ok) (nm : List UInt8) : (S.data nm).length ≤ 16777216 := by
  unfold SD.data
  cases hg : getF nm S.files with
  | none => exact Nat.zero_le _
  | some f =>
    have h1 := file_le h (getF_some hg)
    have h2 := h.room
    have h3 := h.limit
    simp only
    omega
theorem outside_row {F : Nat → Prop} {B : Nat} {w' : World} {v : Value} {xs : List Int} (hF : ∀ k, F k → k < B) (h : w'.ownsRow B 5 1 v xs.length (xs.map (Value.int .u8))) : Outside F w' v xs := by
  refine ⟨ownsRow_srcs h (one_u8 _), fun ad n c e h0 => ?_⟩
  subst e
  rcases h.2 with ⟨e1, _⟩ | ⟨g, cap, cur, e1, _⟩
  · cases e1
  · simp only [Value.slice.injEq, Option.some.injEq] at e1
    obtain ⟨rfl, -, -⟩ := e1
    have := h.lt g rfl
    exact ⟨fun hf => by have := hF g hf; omega, this.2⟩

theorem bytes_pre {w : World} {A : Option Addr} {c k : Nat} {xs : List Int} (h : BytesAt w (.slice A xs.length c) xs) (hk : k ≤ xs.length) : BytesAt w (.slice A (xs.take k).length c) (xs.take k) := by
  have hl : (xs.take k).length = k := by rw [List.length_take]; omega
  rcases h with ⟨h1, h2, h3⟩ | ⟨ad, c', e, hc, hl', hcell, h1⟩
  · have : xs = [] := by simpa using h3
    subst this
    simp only [List.take_nil]
    exact Or.inl ⟨h1, rfl, rfl⟩
  · simp only [Value.slice.injEq] at e
    obtain ⟨rfl, -, rfl⟩ := e
    refine Or.inr ⟨ad, c, rfl, by omega, by simp, fun j u hj => ?_, one_u8 _⟩
    rw [List.map_take] at hj
    exact hcell j u (by
      have := (List.getElem?_eq_some_iff.1 hj).1
      rw [List.getElem?_take_of_lt (by simp at this; omega)] at hj
      exact hj)

/-- bytes are added to a file, and made sure -/
def AppRel (S : SD) (nm : List UInt8) (xs : List Int) (n : Int) (S' : SD) : Prop :=
  ∃ i, (∀ p ∈ S.files, p.2.id ≠ i) ∧ ((S.werr nm xs.length ≠ 0 ∧ n = S.werr nm xs.length ∧ S' = S) ∨ (S.werr nm xs.length = 0 ∧ n = errOf (S.write i nm xs) nm ∧ S' = (S.write i nm xs).sync nm))
/-- Save on plain data -/
def SaveRel (S : SD) (nm : List UInt8) (s : MS) (n : Int) (S' : SD) : Prop :=
  match followsB (S.data nm) s with
  | .inl code => n = code ∧ S' = S
  | .inr m => if 2048 ≤ (S.data nm).length then SwapRel S nm (frameB (encB s)) n S'
    else if m < ((S.data nm).length : Int) then ∃ n1 S1, SwapRel S nm ((S.data nm).take m.toNat) n1 S1 ∧ ((n1 ≠ 0 ∧ n = n1 ∧ S' = S1) ∨ (n1 = 0 ∧ AppRel S1 nm (frameB (encB s)) n S'))
    else AppRel S nm (frameB (encB s)) n S'
def SavePost (F : Nat → Prop) (w : World) (d : Nat) (S : SD) (nm : List UInt8) (s : MS) (e : Ending) (w' : World) : Prop :=
  ∃ n S' F', e = .returned (.int .i64 n) ∧ SaveRel S nm s n S' ∧ DiskAt F' w' d S' ∧ Upd F F' w w'

theorem rename_lens (S : SD) (a b : List UInt8) (h1 : S.loose.length ≤ 1000001) (h2 : S.files.length ≤ 1000001) : (S.rename a b).2.loose.length ≤ 1000001 ∧ (S.rename a b).2.files.length ≤ 1000002 := by
  unfold SD.rename
  split
  · split
    · exact ⟨h1, by simp only; omega⟩
    · rename_i f hf
      have h3 : ∀ (k : List UInt8) (L : List (List UInt8 × SF)), (ers k L).length ≤ L.length := fun k L => List.length_filter_le _ _
      have h4 : (SD.remove { S with files := ers a S.files } b).loose.length ≤ S.loose.length ∧ (SD.remove { S with files := ers a S.files } b).files.length ≤ S.files.length := by
        unfold SD.remove
        split
        · exact ⟨Nat.le_refl _, h3 _ _⟩
        · exact ⟨List.length_filter_le _ _, Nat.le_trans (h3 _ _) (h3 _ _)⟩
      simp only
      rw [sins_length]
      have := h3 b (SD.remove { S with files := ers a S.files } b).files
      omega
  · exact ⟨h1, by simp only; omega⟩
theorem swap_ok {S S1 : SD} {nm : List UInt8} {xs : List Int} {n : Int} (h : SwapRel S nm xs n S1) (hok : S.Ok) (h1 : S.loose.length ≤ 1000000) (h2 : S.files.length ≤ 1000000) : S1.Ok ∧ S1.loose.length ≤ 1000002 ∧ S1.files.length ≤ 1000002 := by
  obtain ⟨i, hi, ⟨-, -, rfl⟩ | ⟨hz, he⟩⟩ := h
  · have := remove_lens S (nm ++ [126]) h1 h2
    exact ⟨remove_ok hok _, by omega, by omega⟩
  · have e2 : S1 = ((((S.remove (nm ++ [126])).write i (nm ++ [126]) xs).sync (nm ++ [126])).rename (nm ++ [126]) nm).2 := by rw [← he]
    rw [e2]
    have l1 := remove_lens S (nm ++ [126]) h1 h2
    have l2 := write_lens _ i (nm ++ [126]) xs l1.1 l1.2
    have l3 := sync_lens _ (nm ++ [126]) l2.1 l2.2
    have l4 := rename_lens _ (nm ++ [126]) nm l3.1 l3.2
    exact ⟨rename_ok (sync_ok (write_ok (remove_ok hok _) hi hz) _) _ _, by omega, by omega⟩
theorem followsB_rng {xs : List Int} {s : MS} : match followsB xs s with
    | .inl code => code ≠ 0
    | .inr m => s.Right ∧ ∃ k : Nat, m = k ∧ k ≤ xs.length := by
  unfold followsB
  by_cases hR : s.Right
  · rw [if_pos hR]
    cases hr : readB xs with
    | none => simp
    | some p =>
      obtain ⟨old, n⟩ := p
      simp only
      by_cases hg : 0 < old.gen ∧ s.gen ≠ old.gen + 1
      · rw [if_pos hg]; simp
      · rw [if_neg hg]
        refine ⟨hR, ?_⟩
        have h2 := (readB_rng hr).2
        have h3 : (allB xs).2.1.length ≤ xs.length := by
          have : ∀ (k : Nat) (xs : List Int), (allF k xs).2.1.length ≤ xs.length := fun k => by
            induction k with
            | zero => exact fun xs => by simp [allF]
            | succ k ih =>
              intro xs
              unfold allF
              split
              · simp
              · split
                · simp
                · simp
                · rename_i f r hn
                  have := ih r
                  have := (nextB_shorter hn).1
                  simp only
                  omega
          exact this _ _
        exact ⟨xs.length - (allB xs).2.1.length, by omega, by omega⟩
  · rw [if_neg hR]; simp
theorem write_lens' (S : SD) (i : Nat) (nm : List UInt8) (xs : List Int) (h1 : S.loose.length ≤ 1000002) (h2 : S.files.length ≤ 1000002) : (S.write i nm xs).loose.length ≤ 1000003 ∧ (S.write i nm xs).files.length ≤ 1000003 := by
  unfold SD.write
  split
  · refine ⟨by simp; omega, ?_⟩
    simp only [updF, List.length_map]
    omega
  · refine ⟨by simp; omega, ?_⟩
    have := sins_length (nm, (⟨i, xs, 0, false⟩ : SF)) (ers nm S.files)
    have h3 : (ers nm S.files).length ≤ S.files.length := List.length_filter_le _ _
    simp only
    omega
theorem SaveRel.app {S : SD} {nm : List UInt8} {s : MS} {m : Int} (hf : followsB (S.data nm) s = .inr m) (h1 : ¬ 2048 ≤ (S.data nm).length) (h2 : ¬ m < ((S.data nm).length : Int)) {n : Int} {S' : SD} (h : AppRel S nm (frameB (encB s)) n S') : SaveRel S nm s n S' := by
  unfold SaveRel
  rw [hf]
  simp only
  rw [if_neg h1, if_neg h2]
  exact h
theorem SaveRel.cut {S : SD} {nm : List UInt8} {s : MS} {m : Int} (hf : followsB (S.data nm) s = .inr m) (h1 : ¬ 2048 ≤ (S.data nm).length) (h2 : m < ((S.data nm).length : Int)) {n n1 : Int} {S1 S' : SD} (hs : SwapRel S nm ((S.data nm).take m.toNat) n1 S1)
    (h : (n1 ≠ 0 ∧ n = n1 ∧ S' = S1) ∨ (n1 = 0 ∧ AppRel S1 nm (frameB (encB s)) n S')) : SaveRel S nm s n S' := by
  unfold SaveRel
  rw [hf]
  simp only
  rw [if_neg h1, if_pos h2]
  exact ⟨n1, S1, hs, h⟩
theorem SaveRel.long {S : SD} {nm : List UInt8} {s : MS} {m : Int} (hf : followsB (S.data nm) s = .inr m) (h1 : 2048 ≤ (S.data nm).length) {n : Int} {S' : SD} (h : SwapRel S nm (frameB (encB s)) n S') : SaveRel S nm s n S' := by
  unfold SaveRel
  rw [hf]
  simp only
  rw [if_pos h1]
  exact h
theorem SaveRel.err {S : SD} {nm : List UInt8} {s : MS} {c : Int} (hf : followsB (S.data nm) s = .inl c) : SaveRel S nm s c S := by
  unfold SaveRel
  rw [hf]
  exact ⟨rfl, rfl⟩

set_option maxRecDepth 100000 in
set_option maxHeartbeats 2000000 in
theorem save_any {F : Nat → Prop} {d : Nat} {S : SD} {w : World} (hd : DiskAt F w d S) (hok : S.Ok) (nm : ByteArray) (hn : nm.size ≤ 1000000) (ho : Octets (S.data nm.data.toList)) (s : MS) (tv : Value) (ht : IntsAt w tv s.tables) (hs : s.tables.length ≤ 1000000)
    (h1 : S.loose.length ≤ 1000000) (h2 : S.files.length ≤ 1000000) : Calls Try.prog 46 #[.pointer (some ⟨d, 0, none⟩), .string nm, msV s tv] w (SavePost F w d S nm.data.toList s) := by
  obtain ⟨B, c, rfl, -⟩ := Srcs.slice ht
  have hnm : nm.size ≤ maxLen := by unfold maxLen; omega
  obtain ⟨wb, hwb⟩ : ∃ wb, wb = w.alloc (.cells #[.int .i64 s.gen, .int .i64 s.applied, .int .i64 s.next, .slice B s.tables.length c] 61) := ⟨_, rfl⟩
  have hb0 : Below w.heap.size w wb := by rw [hwb]; exact (Below.refl _ _).alloc (Nat.le_refl _) _
  have hwl : w.heap.size < wb.heap.size := by rw [hwb]; simp
  have hk : wb.heap[w.heap.size]? = some (.cells #[.int .i64 s.gen, .int .i64 s.applied, .int .i64 s.next, .slice B s.tables.length c] 61 (0, 0)) := by rw [hwb]; exact heap_alloc_new w _
  have hrd := read_any (hd.below hb0) hok nm hnm
  have hlt := hd.lt
  have hxl := data_le hok nm.data.toList
  have hfr := followsB_rng (xs := S.data nm.data.toList) (s := s)
  obtain ⟨xs, hxs⟩ : ∃ xs, xs = S.data nm.data.toList := ⟨_, rfl⟩
  unfold ReadPost at hrd
  rw [← hxs] at hrd hxl hfr ho
  have Hrd := Lib.hid hrd
  have Hb0 := Lib.hid hb0
  have Hk := Lib.hid hk
  have Hd := Lib.hid hd
  have Hok := Lib.hid hok
  have Hn := Lib.hid hnm
  have Hlt := Lib.hid hlt
  have Hxs := Lib.hid hxs
  have Hfr := Lib.hid hfr
  have Ho := Lib.hid ho
  have Ht := Lib.hid ht
  clear hrd hb0 hk hd hok hnm hlt hxs hfr ho ht
  unfold msV
  go_enter Try.func46, Try.ntmps46
  go_wp2_with fail
  rw [← hwb]
  clear hwb
  refine Hrd.out.mono ?_
  rintro e w1 ⟨v1, rfl, hown1, hb1⟩
  obtain ⟨A1, q1, rfl, hq1⟩ := ownsRow_slice hown1
  have hk1 := (hb1.block w.heap.size hwl).trans Hk.out
  have hbw1 := Hb0.out.trans (hb1.mono Hb0.out.size)
  have hby1 : BytesAt w1 (.slice A1 xs.length q1) xs := ownsRow_srcs hown1 (one_u8 _)
  have hfo := follows_any w1 _ xs s _ hby1 Ho.out (by omega) (srcs_below Ht.out hbw1) hs
  have c0 : w1.cell? ⟨w.heap.size, 0, none⟩ = some (.int .i64 s.gen) := by rw [cell_of hk1]; rfl
  have c1 : w1.cell? ⟨w.heap.size, 1, none⟩ = some (.int .i64 s.applied) := by rw [cell_of hk1]; rfl
  have c2 : w1.cell? ⟨w.heap.size, 2, none⟩ = some (.int .i64 s.next) := by rw [cell_of hk1]; rfl
  have c3 : w1.cell? ⟨w.heap.size, 3, none⟩ = some (.slice B s.tables.length c) := by rw [cell_of hk1]; rfl
  have Hfo := Lib.hid hfo
  have Hbw1 := Lib.hid hbw1
  have Hown1 := Lib.hid hown1
  unfold msV at Hfo
  clear hb1 hk1 hbw1 hby1 hfo hown1
  go_wp2_with fail
  refine Hfo.out.mono ?_
  rintro e w2 ⟨hb2, hp⟩
  have hbw2 := Hbw1.out.trans (hb2.mono Hbw1.out.size)
  have hd2 := Hd.out.below hbw2
  have hown2 := ownsRow_block (w' := w2) Hown1.out fun k hk => hb2.block k (Hown1.out.lt k hk).2
  have Hbw2 := Lib.hid hbw2
  have Hd2 := Lib.hid hd2
  have Hown2 := Lib.hid (ownsRow_rebase hown2 fun k hk => Nat.le_trans Hb0.out.size (hown2.lt k hk).1)
  have hr := Hfr.out
  cases hfb : followsB xs s with
  | inl code =>
    rw [hfb] at hp hr
    simp only at hp hr
    subst hp
    have tc : (code != 0) = true := by simp [hr]
    rw [Hxs.out] at hfb
    have Hfb := Lib.hid hfb
    clear hfb hr hb2 hbw2 hd2 hown2 c0 c1 c2 c3
    go_wp2
    go_ret
    exact ⟨_, S, F, rfl, SaveRel.err Hfb.out, Hd2.out, Upd.of_below Hbw2.out⟩
  | inr m =>
    rw [hfb] at hp hr
    simp only at hr
    obtain ⟨v3, rfl, hown3⟩ := hp
    obtain ⟨hR, k, rfl, hkl⟩ := hr
    obtain ⟨A3, q3, rfl, -⟩ := ownsRow_slice hown3
    have hout := outside_row (w' := w2) (xs := frameB (encB s)) Hlt.out (ownsRow_rebase hown3 fun k hk => Nat.le_trans Hbw1.out.size (hown3.lt k hk).1)
    rw [Hxs.out] at hfb
    have Hfb := Lib.hid hfb
    have Hout := Lib.hid hout
    clear hfb hb2 hbw2 hd2 hown2 hown3 hout c0 c1 c2 c3 hR
    by_cases h2048 : 2048 ≤ xs.length
    · have hge : (2048 : Int) ≤ (xs.length : Int) := by omega
      have hsw := swap_any Hd2.out Hok.out nm hn _ _ Hout.out h1 h2
      have Hsw := Lib.hid hsw
      clear hsw
      go_wp2_with fail
      refine Hsw.out.mono ?_
      rintro e w3 ⟨n3, S3, F3, rfl, hrel, hd3, hu3⟩
      have Hrel := Lib.hid hrel
      have Hd3 := Lib.hid hd3
      have Hu3 := Lib.hid hu3
      clear hrel hd3 hu3
      go_wp2
      go_ret
      exact ⟨_, S3, F3, rfl, SaveRel.long Hfb.out (by rw [← Hxs.out]; exact h2048) Hrel.out, Hd3.out, (Upd.of_below Hbw2.out).trans Hu3.out⟩
    · have hge : ¬ (2048 : Int) ≤ (xs.length : Int) := by omega
      by_cases hlt : k < xs.length
      · have hli : (k : Int) < (xs.length : Int) := by omega
        have hby2 := bytes_pre (ownsRow_srcs Hown2.out (one_u8 _)) hkl
        have htl : (xs.take k).length = k := by rw [List.length_take]; omega
        have hov : Outside F w2 (.slice A1 (xs.take k).length q1) (xs.take k) := ⟨hby2, fun ad n c e h0 => by
          simp only [Value.slice.injEq] at e
          obtain ⟨rfl, -, -⟩ := e
          exact (outside_row (w' := w2) (xs := xs) Hlt.out Hown2.out).out ad _ _ rfl (by omega)⟩
        rw [htl] at hov
        have hsw := swap_any Hd2.out Hok.out nm hn _ _ hov h1 h2
        have Hsw := Lib.hid hsw
        clear hsw hov hby2 htl
        have hkq : k ≤ q1 := by omega
        go_wp2_with fail
        refine Hsw.out.mono ?_
        rintro e w3 ⟨n3, S3, F3, rfl, hrel, hd3, hu3⟩
        have hok3 := swap_ok hrel Hok.out h1 h2
        have hout3 := Hout.out.upd hu3
        have Hrel := Lib.hid hrel
        have Hd3 := Lib.hid hd3
        have Hu3 := Lib.hid hu3
        have Hok3 := Lib.hid hok3.1
        have hl3 := hok3.2.1
        have hl3' := hok3.2.2
        have Hout3 := Lib.hid hout3
        clear hrel hd3 hu3 hok3 hout3
        by_cases h3 : n3 = 0
        · have t3 : (n3 != 0) = false := by simp [h3]
          have H3 := Lib.hid h3
          clear h3
          have hw := write_any Hd3.out Hok3.out nm Hn.out _ (frameB (encB s)) Hout3.out (by omega) (by omega)
          have Hw := Lib.hid hw
          clear hw
          go_wp2_with fail
          refine Hw.out.mono ?_
          rintro e w4 ⟨rfl, F4, i, hi, hd4, hu4⟩
          obtain ⟨n1, hn1⟩ : ∃ n1, n1 = S3.werr nm.data.toList (frameB (encB s)).length := ⟨_, rfl⟩
          rw [← hn1] at hd4 ⊢
          have Hi := Lib.hid hi
          have Hn1 := Lib.hid hn1
          have Hu4 := Lib.hid hu4
          by_cases h0 : n1 = 0
          · have t0 : (n1 != 0) = false := by simp [h0]
            rw [if_pos h0] at hd4
            have hok4 := write_ok Hok3.out hi (nm := nm.data.toList) (xs := frameB (encB s)) (by rw [← hn1]; exact h0)
            have hl4 := write_lens' S3 i nm.data.toList (frameB (encB s)) (by omega) (by omega)
            have hs4 := sync_any hd4 hok4 (by omega) nm Hn.out
            have Hs4 := Lib.hid hs4
            have H0 := Lib.hid h0
            clear hs4 hok4 hl4 h0 hd4 hi hn1 hu4
            go_wp2_with fail
            refine Hs4.out.mono ?_
            rintro e w5 ⟨rfl, F5, hd5, hu5⟩
            have Hd5 := Lib.hid hd5
            have Hu5 := Lib.hid hu5
            clear hd5 hu5
            go_wp2
            go_ret
            refine ⟨_, _, F5, rfl, SaveRel.cut Hfb.out (by rw [← Hxs.out]; exact h2048) (by rw [← Hxs.out]; exact hli) (by rw [← Hxs.out]; exact Hrel.out) (Or.inr ⟨H3.out, i, Hi.out, Or.inr ⟨by rw [← Hn1.out]; exact H0.out, rfl, rfl⟩⟩), Hd5.out, ((Upd.of_below Hbw2.out).trans Hu3.out).trans (Hu4.out.trans Hu5.out)⟩
          · have t0 : (n1 != 0) = true := by simp [h0]
            rw [if_neg h0] at hd4
            have Hd4 := Lib.hid hd4
            have H0 := Lib.hid h0
            clear h0 hd4 hi hn1 hu4
            go_wp2
            go_ret
            refine ⟨_, _, F4, rfl, SaveRel.cut Hfb.out (by rw [← Hxs.out]; exact h2048) (by rw [← Hxs.out]; exact hli) (by rw [← Hxs.out]; exact Hrel.out) (Or.inr ⟨H3.out, i, Hi.out, Or.inl ⟨by rw [← Hn1.out]; exact H0.out, Hn1.out, rfl⟩⟩), Hd4.out, ((Upd.of_below Hbw2.out).trans Hu3.out).trans Hu4.out⟩
        · have t3 : (n3 != 0) = true := by simp [h3]
          have H3 := Lib.hid h3
          clear h3
          go_wp2
          go_ret
          exact ⟨_, S3, F3, rfl, SaveRel.cut Hfb.out (by rw [← Hxs.out]; exact h2048) (by rw [← Hxs.out]; exact hli) (by rw [← Hxs.out]; exact Hrel.out) (Or.inl ⟨H3.out, rfl, rfl⟩), Hd3.out, (Upd.of_below Hbw2.out).trans Hu3.out⟩
      · have hli : ¬ (k : Int) < (xs.length : Int) := by omega
        have hw := write_any Hd2.out Hok.out nm Hn.out _ (frameB (encB s)) Hout.out (by omega) (by omega)
        have Hw := Lib.hid hw
        clear hw
        go_wp2_with fail
        refine Hw.out.mono ?_
        rintro e w4 ⟨rfl, F4, i, hi, hd4, hu4⟩
        obtain ⟨n1, hn1⟩ : ∃ n1, n1 = S.werr nm.data.toList (frameB (encB s)).length := ⟨_, rfl⟩
        rw [← hn1] at hd4 ⊢
        have Hi := Lib.hid hi
        have Hn1 := Lib.hid hn1
        have Hu4 := Lib.hid hu4
        by_cases h0 : n1 = 0
        · have t0 : (n1 != 0) = false := by simp [h0]
          rw [if_pos h0] at hd4
          have hok4 := write_ok Hok.out hi (nm := nm.data.toList) (xs := frameB (encB s)) (by rw [← hn1]; exact h0)
          have hl4 := write_lens' S i nm.data.toList (frameB (encB s)) (by omega) (by omega)
          have hs4 := sync_any hd4 hok4 (by omega) nm Hn.out
          have Hs4 := Lib.hid hs4
          have H0 := Lib.hid h0
          clear hs4 hok4 hl4 h0 hd4 hi hn1 hu4
          go_wp2_with fail
          refine Hs4.out.mono ?_
          rintro e w5 ⟨rfl, F5, hd5, hu5⟩
          have Hd5 := Lib.hid hd5
          have Hu5 := Lib.hid hu5
          clear hd5 hu5
          go_wp2
          go_ret
          refine ⟨_, _, F5, rfl, SaveRel.app Hfb.out (by rw [← Hxs.out]; exact h2048) (by rw [← Hxs.out]; omega) ⟨i, Hi.out, Or.inr ⟨by rw [← Hn1.out]; exact H0.out, rfl, rfl⟩⟩, Hd5.out, (Upd.of_below Hbw2.out).trans (Hu4.out.trans Hu5.out)⟩
        · have t0 : (n1 != 0) = true := by simp [h0]
          rw [if_neg h0] at hd4
          have Hd4 := Lib.hid hd4
          have H0 := Lib.hid h0
          clear h0 hd4 hi hn1 hu4
          go_wp2
          go_ret
          refine ⟨_, _, F4, rfl, SaveRel.app Hfb.out (by rw [← Hxs.out]; exact h2048) (by rw [← Hxs.out]; omega) ⟨i, Hi.out, Or.inl ⟨by rw [← Hn1.out]; exact H0.out, Hn1.out, rfl⟩⟩, Hd4.out, (Upd.of_below Hbw2.out).trans Hu4.out⟩
end Go.Proofs.Ytkefciacdmbidaa

namespace Go.Proofs.Ytkefciacdmbidaa
open Go.RowKit Go.WideMaps Go.Maps Go.Lib

noncomputable def loadB (xs : List Int) : Option MS := (readB xs).map Prod.fst
def LoadPost (w : World) (r : Option MS) (e : Ending) (w' : World) : Prop :=
  Below w.heap.size w w' ∧ match r with
  | none => e = .returned (.tuple #[zeroMS, .int .i64 20])
  | some s => ∃ tv, e = .returned (.tuple #[msV s tv, .int .i64 0]) ∧ w'.ownsRow w.heap.size 3 1 tv s.tables.length (s.tables.map (Value.int .i64))

set_option maxRecDepth 100000 in
set_option maxHeartbeats 2000000 in
theorem load_any {F : Nat → Prop} {d : Nat} {S : SD} {w : World} (hd : DiskAt F w d S) (hok : S.Ok) (nm : ByteArray) (hn : nm.size ≤ 1000000) (ho : Octets (S.data nm.data.toList)) :
    Calls Try.prog 47 #[.pointer (some ⟨d, 0, none⟩), .string nm] w (LoadPost w (loadB (S.data nm.data.toList))) := by
  have hnm : nm.size ≤ maxLen := by unfold maxLen; omega
  obtain ⟨wb, hwb⟩ : ∃ wb, wb = w.alloc (.cells #[.int .i64 0, .int .i64 0, .int .i64 0, .slice none 0 0] 61) := ⟨_, rfl⟩
  have hb0 : Below w.heap.size w wb := by rw [hwb]; exact (Below.refl _ _).alloc (Nat.le_refl _) _
  have hwl : w.heap.size < wb.heap.size := by rw [hwb]; simp
  have hk : wb.heap[w.heap.size]? = some (.cells #[.int .i64 0, .int .i64 0, .int .i64 0, .slice none 0 0] 61 (0, 0)) := by rw [hwb]; exact heap_alloc_new w _
  have hrd := read_any (hd.below hb0) hok nm hnm
  have hxl := data_le hok nm.data.toList
  obtain ⟨xs, hxs⟩ : ∃ xs, xs = S.data nm.data.toList := ⟨_, rfl⟩
  unfold ReadPost at hrd
  rw [← hxs] at hrd hxl ho ⊢
  have Hrd := Lib.hid hrd
  have Hb0 := Lib.hid hb0
  have Hk := Lib.hid hk
  have Ho := Lib.hid ho
  clear hrd hb0 hk hd hok hnm hxs ho
  go_enter Try.func47, Try.ntmps47
  go_wp2_with fail
  rw [← hwb]
  clear hwb
  refine Hrd.out.mono ?_
  rintro e w1 ⟨v1, rfl, hown1, hb1⟩
  obtain ⟨A1, q1, rfl, hq1⟩ := ownsRow_slice hown1
  have hk1 := (hb1.block w.heap.size hwl).trans Hk.out
  have hwl1 : w.heap.size < w1.heap.size := Nat.lt_of_lt_of_le hwl hb1.size
  have hbw1 := Hb0.out.trans (hb1.mono Hb0.out.size)
  have hmr := mread_any w1 _ xs (ownsRow_srcs hown1 (one_u8 _)) Ho.out (by omega)
  have Hmr := Lib.hid hmr
  have Hk1 := Lib.hid hk1
  have Hbw1 := Lib.hid hbw1
  clear hown1 hb1 hk1 hbw1 hmr
  go_wp2_with fail
  refine Hmr.out.mono ?_
  rintro e w2 ⟨hb2, hp⟩
  have hk2 := (hb2.block w.heap.size hwl1).trans Hk1.out
  have hwl2 : w.heap.size < w2.heap.size := Nat.lt_of_lt_of_le hwl1 hb2.size
  have hbw2 := Hbw1.out.trans (hb2.mono Hbw1.out.size)
  cases hr : readB xs with
  | none =>
    have Hld : Hid (loadB xs = none) := Lib.hid (by unfold loadB; rw [hr]; rfl)
    rw [hr] at hp
    simp only at hp
    subst hp
    obtain ⟨wa, hwa⟩ : ∃ wa, wa = w2.alloc (.cells #[.int .i64 0, .int .i64 0, .int .i64 0, .slice none 0 0] 61) := ⟨_, rfl⟩
    have hka := (Below.heap_alloc w2 (.cells #[.int .i64 0, .int .i64 0, .int .i64 0, .slice none 0 0] 61) w.heap.size hwl2).trans hk2
    have hna := heap_alloc_new w2 (.cells #[.int .i64 0, .int .i64 0, .int .i64 0, .slice none 0 0] 61)
    have hba := hbw2.alloc hbw2.size (.cells #[.int .i64 0, .int .i64 0, .int .i64 0, .slice none 0 0] 61)
    rw [← hwa] at hka hna hba
    have Hset := Lib.hid (set4 hka (.int .i64 0) (.int .i64 0) (.int .i64 0) (.slice none 0 0))
    have Hba := Lib.hid hba
    have c0 : wa.cell? ⟨w.heap.size, 0, none⟩ = some (.int .i64 0) := by rw [cell_of hka]; rfl
    have c1 : wa.cell? ⟨w.heap.size, 1, none⟩ = some (.int .i64 0) := by rw [cell_of hka]; rfl
    have c2 : wa.cell? ⟨w.heap.size, 2, none⟩ = some (.int .i64 0) := by rw [cell_of hka]; rfl
    have c3 : wa.cell? ⟨w.heap.size, 3, none⟩ = some (.slice none 0 0) := by rw [cell_of hka]; rfl
    have e0 := free_of hka 0
    have e1 := free_of hka 1
    have e2 := free_of hka 2
    have e3 := free_of hka 3
    have n0 : wa.cell? ⟨w2.heap.size, 0, none⟩ = some (.int .i64 0) := by rw [cell_of hna]; rfl
    have n1 : wa.cell? ⟨w2.heap.size, 1, none⟩ = some (.int .i64 0) := by rw [cell_of hna]; rfl
    have n2 : wa.cell? ⟨w2.heap.size, 2, none⟩ = some (.int .i64 0) := by rw [cell_of hna]; rfl
    have n3 : wa.cell? ⟨w2.heap.size, 3, none⟩ = some (.slice none 0 0) := by rw [cell_of hna]; rfl
    clear hr hk2 hbw2 hka hna hba hb2
    unfold zeroMS
    go_upto_region 3 with (fail)
    rw [← hwa]
    clear hwa
    go_wp2
    refine bodyPost_ret (res2 rfl _ _ w.heap.size _ _ _ _ (0, 0) rfl Hset.out) rfl ?_
    rw [Hld.out]
    exact ⟨below_set4 Hba.out (Nat.le_refl _) _ _ _ _, rfl⟩
  | some p =>
    obtain ⟨s, m⟩ := p
    have Hld : Hid (loadB xs = some s) := Lib.hid (by unfold loadB; rw [hr]; rfl)
    rw [hr] at hp
    obtain ⟨tv, rfl, hown⟩ := hp
    obtain ⟨A6, c6, rfl, -⟩ := ownsRow_slice hown
    obtain ⟨wa, hwa⟩ : ∃ wa, wa = w2.alloc (.cells #[.int .i64 s.gen, .int .i64 s.applied, .int .i64 s.next, .slice A6 s.tables.length c6] 61) := ⟨_, rfl⟩
    have hka := (Below.heap_alloc w2 (.cells #[.int .i64 s.gen, .int .i64 s.applied, .int .i64 s.next, .slice A6 s.tables.length c6] 61) w.heap.size hwl2).trans hk2
    have hna := heap_alloc_new w2 (.cells #[.int .i64 s.gen, .int .i64 s.applied, .int .i64 s.next, .slice A6 s.tables.length c6] 61)
    have hba := hbw2.alloc hbw2.size (.cells #[.int .i64 s.gen, .int .i64 s.applied, .int .i64 s.next, .slice A6 s.tables.length c6] 61)
    have howa := hown.alloc (.cells #[.int .i64 s.gen, .int .i64 s.applied, .int .i64 s.next, .slice A6 s.tables.length c6] 61)
    rw [← hwa] at hka hna hba howa
    have Hset := Lib.hid (set4 hka (.int .i64 s.gen) (.int .i64 s.applied) (.int .i64 s.next) (.slice A6 s.tables.length c6))
    have Hba := Lib.hid hba
    have Hka := Lib.hid hka
    have Howa := Lib.hid (ownsRow_rebase howa fun q hq => Nat.le_trans Hbw1.out.size (howa.lt q hq).1)
    have c0 : wa.cell? ⟨w.heap.size, 0, none⟩ = some (.int .i64 0) := by rw [cell_of hka]; rfl
    have c1 : wa.cell? ⟨w.heap.size, 1, none⟩ = some (.int .i64 0) := by rw [cell_of hka]; rfl
    have c2 : wa.cell? ⟨w.heap.size, 2, none⟩ = some (.int .i64 0) := by rw [cell_of hka]; rfl
    have c3 : wa.cell? ⟨w.heap.size, 3, none⟩ = some (.slice none 0 0) := by rw [cell_of hka]; rfl
    have e0 := free_of hka 0
    have e1 := free_of hka 1
    have e2 := free_of hka 2
    have e3 := free_of hka 3
    have n0 : wa.cell? ⟨w2.heap.size, 0, none⟩ = some (.int .i64 s.gen) := by rw [cell_of hna]; rfl
    have n1 : wa.cell? ⟨w2.heap.size, 1, none⟩ = some (.int .i64 s.applied) := by rw [cell_of hna]; rfl
    have n2 : wa.cell? ⟨w2.heap.size, 2, none⟩ = some (.int .i64 s.next) := by rw [cell_of hna]; rfl
    have n3 : wa.cell? ⟨w2.heap.size, 3, none⟩ = some (.slice A6 s.tables.length c6) := by rw [cell_of hna]; rfl
    clear hr hk2 hbw2 hka hna hba hb2 hown howa
    unfold msV
    go_upto_region 3 with (fail)
    rw [← hwa]
    clear hwa
    go_wp2
    refine bodyPost_ret (res2 rfl _ _ w.heap.size _ _ _ _ (0, 0) rfl Hset.out) rfl ?_
    rw [Hld.out]
    refine ⟨below_set4 Hba.out (Nat.le_refl _) _ _ _ _, _, rfl, ownsRow_block Howa.out fun q hq => set4_other ?_ _ _ _ _⟩
    intro e
    obtain ⟨cs, hq1⟩ := ownsRow_type Howa.out hq
    rw [← e, Hka.out] at hq1
    cases hq1
end Go.Proofs.Ytkefciacdmbidaa
