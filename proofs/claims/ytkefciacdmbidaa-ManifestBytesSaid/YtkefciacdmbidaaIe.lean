/- Read, as the document says it. -/
import Derived.Test.YtkefciacdmbidaaIc
import Derived.Test.YtkefciacdmbidaaId
namespace Go.Proofs.Ytkefciacdmbidaa
open Go.RowKit Go.WideMaps Go.Maps Go.Lib

def RReadPost (w : World) (r : Option (MS × Int)) (e : Ending) (w' : World) : Prop :=
  Below w.heap.size w w' ∧ match r with
  | none => e = .returned (.tuple #[zeroMS, .int .i64 0, .int .i64 20])
  | some (s, n) => ∃ A c, e = .returned (.tuple #[stV s.gen s.applied s.next (.slice A s.tables.length c), .int .i64 n, .int .i64 0]) ∧ IntsAt w' (.slice A s.tables.length c) s.tables
theorem res3r {fn : Func} {p u q : Tmp} (h : fn.results = #[.cell p 59, .tmp u, .tmp q]) (tmps : Array Value) (w : World) (g : Nat) (a b c d : Value) (fr : Nat × Nat)
    (hp : tmps.getD p undef = .pointer (some ⟨g, 0, none⟩)) (hg : w.heap[g]? = some (.cells #[a, b, c, d] 59 fr)) :
    (results fn tmps).run Try.prog w = .ok (.tuple #[.agg #[a, b, c, d], tmps.getD u undef, tmps.getD q undef]) w := by
  rw [results_cell_tmp2 h, hp]
  simp [asAddr, run_loadVar_row w g 59 59 #[a, b, c, d] fr _ hg Try.underlying59 rfl info59, Result.andThen]

/-- how Read runs -/
structure RReadAt (B gl : Nat) (w2 wr : World) (R : Option MS) (fs : List (List Int)) (last : MS) (A : Option Addr) (c : Nat) (k : Nat) : Prop where
  below : Below w2.heap.size w2 wr
  cell : wr.heap[gl]? = some (.cells #[.int .i64 last.gen, .int .i64 last.applied, .int .i64 last.next, .slice A last.tables.length c] 59 (0, 0))
  ints : IntsAt wr (.slice A last.tables.length c) last.tables
  low : ∀ ad, A = some ad → 0 < last.tables.length → B < ad.block ∧ gl ≠ ad.block ∧ ad.block < wr.heap.size
  lo : 0 ≤ last.gen
  hi : last.gen ≤ 1099511627776
  eq : R = readF (decide (k = 0)) last (fs.drop k)

set_option maxRecDepth 100000 in
set_option maxHeartbeats 2000000 in
theorem rread_any (w : World) (v : Value) (xs : List Int) (h : BytesAt w v xs) (ho : Octets xs) (hn : xs.length ≤ 1000000) : Calls Try.prog 41 #[v] w (RReadPost w (readB xs)) := by
  obtain ⟨A, cap, rfl, -⟩ := Srcs.slice h
  obtain ⟨wb, hwb⟩ : ∃ wb, wb = w.alloc (.cells #[.int .i64 0, .int .i64 0, .int .i64 0, .slice none 0 0] 59) := ⟨_, rfl⟩
  have hb0 : Below w.heap.size w wb := by rw [hwb]; exact (Below.refl _ _).alloc (Nat.le_refl _) _
  have hwl : w.heap.size < wb.heap.size := by rw [hwb]; simp
  have hblk : wb.heap[w.heap.size]? = some (.cells #[.int .i64 0, .int .i64 0, .int .i64 0, .slice none 0 0] 59 (0, 0)) := by rw [hwb]; exact heap_alloc_new w _
  have hall := rall_any wb _ xs (srcs_below h hb0) ho (by omega)
  obtain ⟨D, hD⟩ : ∃ D, D = readB xs := ⟨_, rfl⟩
  have hoct := allB_oct ho
  have hflen := allF_len xs.length xs
  have hcode := allB_code xs
  rw [← hD]
  unfold readB at hD
  obtain ⟨t, ht⟩ : ∃ t, t = allB xs := ⟨_, rfl⟩
  rw [← ht] at hall hD hoct hcode
  rw [show allF xs.length xs = allB xs from rfl, ← ht] at hflen
  obtain ⟨fs, rest, what⟩ := t
  simp only at hD hoct hcode hflen
  have HD := Lib.hid hD
  have Hall := Lib.hid hall
  have Hb0 := Lib.hid hb0
  have Hwb := Lib.hid hwb
  have Hblk := Lib.hid hblk
  have Hoct := Lib.hid hoct
  have Hcode := Lib.hid hcode
  have hfl : fs.length ≤ 1000000000 := by omega
  clear h ho hb0 hD hblk hall hoct hcode ht hflen
  go_enter Try.func41, Try.ntmps41
  go_wp2_with fail
  rw [← hwb]
  clear hwb
  refine Hall.out.mono ?_
  rintro e w2 ⟨v2, rfl, hrows, hb2⟩
  obtain ⟨A2, c2, rfl, hc2⟩ := hrows.cell
  simp only
  obtain ⟨N, hN⟩ : ∃ N : Int, N = (xs.length : Int) - rest.length := ⟨_, rfl⟩
  rw [← hN]
  have hk2 := (hb2.block w.heap.size hwl).trans Hblk.out
  have hlt2 := Nat.lt_of_lt_of_le hwl hb2.size
  have hbw2 := Hb0.out.trans (hb2.mono Hb0.out.size)
  have Hk2 := Lib.hid hk2
  have Hbw2 := Lib.hid hbw2
  have HN := Lib.hid hN
  have Hrows := Lib.hid hrows
  clear hk2 hbw2 hb2 hc2 hN hrows
  by_cases hw2 : what = 2
  · have tw : (what == 2) = true := by simp [hw2]
    have hDn : D = none := by rw [HD.out, if_pos hw2]
    have HDn := Lib.hid hDn
    have Hset := Lib.hid (set4 Hk2.out (.int .i64 0) (.int .i64 0) (.int .i64 0) (.slice none 0 0))
    have c0 : w2.cell? ⟨w.heap.size, 0, none⟩ = some (.int .i64 0) := by rw [cell_of Hk2.out]; rfl
    have c1 : w2.cell? ⟨w.heap.size, 1, none⟩ = some (.int .i64 0) := by rw [cell_of Hk2.out]; rfl
    have c2 : w2.cell? ⟨w.heap.size, 2, none⟩ = some (.int .i64 0) := by rw [cell_of Hk2.out]; rfl
    have c3 : w2.cell? ⟨w.heap.size, 3, none⟩ = some (.slice none 0 0) := by rw [cell_of Hk2.out]; rfl
    have e0 := free_of Hk2.out 0
    have e1 := free_of Hk2.out 1
    have e2 := free_of Hk2.out 2
    have e3 := free_of Hk2.out 3
    clear hDn hw2
    go_wp2
    refine bodyPost_ret (res3r rfl _ _ w.heap.size _ _ _ _ (0, 0) rfl Hset.out) rfl ?_
    rw [HDn.out]
    exact ⟨below_set4 Hbw2.out (Nat.le_refl _) _ _ _ _, rfl⟩
  · have tw : (what == 2) = false := by simp [hw2]
    have hDs : D = (readF true ms0 fs).map fun s => (s, N) := by rw [HD.out, if_neg hw2, HN.out]
    have HDs := Lib.hid hDs
    clear hDs hw2
    have Hfi := Lib.hid (first_any w2)
    unfold stV at Hfi
    go_wp2_with fail
    refine Hfi.out.mono ?_
    rintro e w9 ⟨rfl, hbf⟩
    have Hk9 := Lib.hid ((hbf.block w.heap.size hlt2).trans Hk2.out)
    have Hrows9 := Lib.hid (Hrows.out.below hbf)
    have Hbw9 := Lib.hid (Hbw2.out.trans (hbf.mono Hbw2.out.size))
    have hlt9 : w.heap.size < w9.heap.size := Nat.lt_of_lt_of_le hlt2 hbf.size
    clear hbf Hfi
    have hat0 : RReadAt w.heap.size w9.heap.size w9 (w9.alloc (.cells #[.int .i64 0, .int .i64 0, .int .i64 1, .slice none 0 0] 59)) (readF true ms0 fs) fs ms0 none 0 0 :=
      ⟨(Below.refl _ _).alloc (Nat.le_refl _) _, heap_alloc_new w9 _, row0_at _, fun ad e => by (cases e), by decide, by decide, by simp⟩
    obtain ⟨R, hR⟩ : ∃ R, R = readF true ms0 fs := ⟨_, rfl⟩
    rw [← hR] at hat0
    have HR := Lib.hid hR
    have H0 := Lib.hid hat0
    clear hat0 hR
    go_wp2_with fail
    go_loopw [9] (fun i wr => ∃ (last : MS) (A : Option Addr) (c k : Nat), i = .int .i64 k ∧ k ≤ fs.length ∧ RReadAt w.heap.size w9.heap.size w9 wr R fs last A c k) (fun i _ => fs.length - (intOf i).toNat)
    case atStart => exact ⟨ms0, none, 0, 0, rfl, Nat.zero_le _, H0.out⟩
    case round =>
      obtain ⟨last, A3, c3', k, rfl, hk, hat⟩ := hrel
      have hgl : w9.heap.size < wr.heap.size := (Array.getElem?_eq_some_iff.1 hat.cell).1
      have hkr : wr.heap[w.heap.size]? = some (.cells #[.int .i64 0, .int .i64 0, .int .i64 0, .slice none 0 0] 59 (0, 0)) := (hat.below.block w.heap.size hlt9).trans Hk9.out
      have hbwr : Below w.heap.size w wr := Hbw9.out.trans (hat.below.mono Hbw9.out.size)
      have hne : w.heap.size ≠ w9.heap.size := Nat.ne_of_lt hlt9
      have hlo := hat.lo
      have hhi := hat.hi
      have Hat := Lib.hid hat
      have Hkr := Lib.hid hkr
      have Hbwr := Lib.hid hbwr
      clear hat hkr hbwr H0
      by_cases hlt : k < fs.length
      · obtain ⟨_, _, e2, hc2⟩ := (Hrows9.out.below Hat.out.below).cell
        cases e2
        obtain ⟨b, off, u, rfl, hbs, hu, hub⟩ := hc2 k hlt
        obtain ⟨A5, c5, rfl, -⟩ := Srcs.slice hub
        have ho5 := Hoct.out fs[k] (List.getElem_mem hlt)
        have hdec := rdecode_any wr _ fs[k] hub ho5.1 (by have := ho5.2; omega)
        have hst := Hat.out.eq
        rw [readF_step hlt] at hst
        have Hst := Lib.hid hst
        have Hdec := Lib.hid hdec
        clear hub ho5 hdec hst hc2
        go_wp2_with fail
        refine Hdec.out.mono ?_
        intro e w3 hp
        obtain ⟨hb3, hp⟩ := hp
        have hk3 := (hb3.block w.heap.size (Nat.lt_trans hlt9 hgl)).trans Hkr.out
        have hg3 := (hb3.block w9.heap.size hgl).trans Hat.out.cell
        have hgl3 : w9.heap.size < w3.heap.size := Nat.lt_of_lt_of_le hgl hb3.size
        have hwl3 : w.heap.size < w3.heap.size := Nat.lt_trans hlt9 hgl3
        have hbw3 := Hbwr.out.trans (hb3.mono Hbwr.out.size)
        have hb23 := Hat.out.below.trans (hb3.mono Hat.out.below.size)
        have Hb3 := Lib.hid hb3
        have Hk3 := Lib.hid hk3
        have Hg3 := Lib.hid hg3
        have Hbw3 := Lib.hid hbw3
        have Hb23 := Lib.hid hb23
        clear hb3 hk3 hg3 hbw3 hb23
        cases hdb : decB fs[k] with
        | none =>
          rw [hdb] at hp
          simp only at hp
          subst hp
          have hst := Hst.out
          rw [hdb] at hst
          have hDn : D = none := by rw [HDs.out, ← HR.out, hst]; rfl
          have HDn := Lib.hid hDn
          obtain ⟨wa, hwa⟩ : ∃ wa, wa = w3.alloc (.cells #[.int .i64 0, .int .i64 0, .int .i64 0, .slice none 0 0] 59) := ⟨_, rfl⟩
          have hka := (Below.heap_alloc w3 (.cells #[.int .i64 0, .int .i64 0, .int .i64 0, .slice none 0 0] 59) w.heap.size hwl3).trans Hk3.out
          rw [← hwa] at hka
          have hba := Hbw3.out.alloc Hbw3.out.size (.cells #[.int .i64 0, .int .i64 0, .int .i64 0, .slice none 0 0] 59)
          rw [← hwa] at hba
          have Hba := Lib.hid hba
          have Hset := Lib.hid (set4 hka (.int .i64 0) (.int .i64 0) (.int .i64 0) (.slice none 0 0))
          have c0 : wa.cell? ⟨w.heap.size, 0, none⟩ = some (.int .i64 0) := by rw [cell_of hka]; rfl
          have c1 : wa.cell? ⟨w.heap.size, 1, none⟩ = some (.int .i64 0) := by rw [cell_of hka]; rfl
          have c2 : wa.cell? ⟨w.heap.size, 2, none⟩ = some (.int .i64 0) := by rw [cell_of hka]; rfl
          have c3 : wa.cell? ⟨w.heap.size, 3, none⟩ = some (.slice none 0 0) := by rw [cell_of hka]; rfl
          have e0 := free_of hka 0
          have e1 := free_of hka 1
          have e2 := free_of hka 2
          have e3 := free_of hka 3
          clear hst hDn hdb hka hba
          unfold zeroMS
          go_upto_region 9 with (fail)
          rw [← hwa]
          clear hwa
          go_wp2
          refine bodyPost_ret (res3r rfl _ _ w.heap.size _ _ _ _ (0, 0) rfl Hset.out) rfl ?_
          rw [HDn.out]
          exact ⟨below_set4 Hba.out (Nat.le_refl _) _ _ _ _, rfl⟩
        | some s =>
          rw [hdb] at hp
          obtain ⟨A6, c6, rfl, hown, hlow⟩ := hp
          have hst := Hst.out
          rw [hdb] at hst
          simp only at hst
          have hsr := (decB_right hdb).basic
          have hg1 := hsr.g1
          have hg2 := hsr.g2
          have Hown := Lib.hid hown
          have Hst2 := Lib.hid hst
          obtain ⟨wa, hwa⟩ : ∃ wa, wa = w3.alloc (.cells #[.int .i64 s.gen, .int .i64 s.applied, .int .i64 s.next, .slice A6 s.tables.length c6] 59) := ⟨_, rfl⟩
          have hka := (Below.heap_alloc w3 (.cells #[.int .i64 s.gen, .int .i64 s.applied, .int .i64 s.next, .slice A6 s.tables.length c6] 59) w.heap.size hwl3).trans Hk3.out
          have hga := (Below.heap_alloc w3 (.cells #[.int .i64 s.gen, .int .i64 s.applied, .int .i64 s.next, .slice A6 s.tables.length c6] 59) w9.heap.size hgl3).trans Hg3.out
          have hna := heap_alloc_new w3 (.cells #[.int .i64 s.gen, .int .i64 s.applied, .int .i64 s.next, .slice A6 s.tables.length c6] 59)
          have hba := Hbw3.out.alloc Hbw3.out.size (.cells #[.int .i64 s.gen, .int .i64 s.applied, .int .i64 s.next, .slice A6 s.tables.length c6] 59)
          have hb2a := Hb23.out.alloc Hb23.out.size (.cells #[.int .i64 s.gen, .int .i64 s.applied, .int .i64 s.next, .slice A6 s.tables.length c6] 59)
          have howa : IntsAt (w3.alloc (.cells #[.int .i64 s.gen, .int .i64 s.applied, .int .i64 s.next, .slice A6 s.tables.length c6] 59)) (.slice A6 s.tables.length c6) s.tables := hown.alloc (.cells #[.int .i64 s.gen, .int .i64 s.applied, .int .i64 s.next, .slice A6 s.tables.length c6] 59)
          rw [← hwa] at hka hga hna hba hb2a howa
          have Hba := Lib.hid hba
          have Hb2a := Lib.hid hb2a
          have Howa := Lib.hid howa
          have hlow2 : ∀ ad, A6 = some ad → 0 < s.tables.length → w.heap.size < ad.block ∧ w9.heap.size ≠ ad.block ∧ ad.block < wa.heap.size := fun ad e h0 => by
            have h1 := hlow ad e h0
            have h2 : w3.heap.size ≤ wa.heap.size := by rw [hwa]; simp
            omega
          have Hlow2 := Lib.hid hlow2
          have Hset := Lib.hid (set4 hka (.int .i64 0) (.int .i64 0) (.int .i64 0) (.slice none 0 0))
          have Hgset := Lib.hid (set4 hga (.int .i64 s.gen) (.int .i64 s.applied) (.int .i64 s.next) (.slice A6 s.tables.length c6))
          have Hga := Lib.hid hga
          have c0 : wa.cell? ⟨w.heap.size, 0, none⟩ = some (.int .i64 0) := by rw [cell_of hka]; rfl
          have c1 : wa.cell? ⟨w.heap.size, 1, none⟩ = some (.int .i64 0) := by rw [cell_of hka]; rfl
          have c2 : wa.cell? ⟨w.heap.size, 2, none⟩ = some (.int .i64 0) := by rw [cell_of hka]; rfl
          have c3 : wa.cell? ⟨w.heap.size, 3, none⟩ = some (.slice none 0 0) := by rw [cell_of hka]; rfl
          have e0 := free_of hka 0
          have e1 := free_of hka 1
          have e2 := free_of hka 2
          have e3 := free_of hka 3
          have n0 : wa.cell? ⟨w3.heap.size, 0, none⟩ = some (.int .i64 s.gen) := by rw [cell_of hna]; rfl
          have n1 : wa.cell? ⟨w3.heap.size, 1, none⟩ = some (.int .i64 s.applied) := by rw [cell_of hna]; rfl
          have n2 : wa.cell? ⟨w3.heap.size, 2, none⟩ = some (.int .i64 s.next) := by rw [cell_of hna]; rfl
          have n3 : wa.cell? ⟨w3.heap.size, 3, none⟩ = some (.slice A6 s.tables.length c6) := by rw [cell_of hna]; rfl
          have g0 : wa.cell? ⟨w9.heap.size, 0, none⟩ = some (.int .i64 last.gen) := by rw [cell_of hga]; rfl
          have g1 : wa.cell? ⟨w9.heap.size, 1, none⟩ = some (.int .i64 last.applied) := by rw [cell_of hga]; rfl
          have g2 : wa.cell? ⟨w9.heap.size, 2, none⟩ = some (.int .i64 last.next) := by rw [cell_of hga]; rfl
          have g3 : wa.cell? ⟨w9.heap.size, 3, none⟩ = some (.slice A3 last.tables.length c3') := by rw [cell_of hga]; rfl
          have h0 := free_of hga 0
          have h1 := free_of hga 1
          have h2 := free_of hga 2
          have h3 := free_of hga 3
          have hnext : Hid (∀ (hh : R = readF false s (fs.drop (k + 1))), RReadAt w.heap.size w9.heap.size w9 ((((wa.setCell ⟨w9.heap.size, 0, none⟩ (.int .i64 s.gen)).setCell ⟨w9.heap.size, 1, none⟩ (.int .i64 s.applied)).setCell ⟨w9.heap.size, 2, none⟩ (.int .i64 s.next)).setCell ⟨w9.heap.size, 3, none⟩ (.slice A6 s.tables.length c6)) R fs s A6 c6 (k + 1)) := Lib.hid fun hh => by
            refine ⟨below_set4 Hb2a.out (Nat.le_refl _) _ _ _ _, Hgset.out, ints_keep Howa.out fun ad e h0 => set4_other (Hlow2.out ad e h0).2.1 _ _ _ _, fun ad e h0 => ?_, by omega, by omega, by rw [hh]; simp⟩
            have := Hlow2.out ad e h0
            refine ⟨this.1, this.2.1, ?_⟩
            simpa [World.setCell] using this.2.2
          clear hown hlow hlow2 hst hdb hka hga hna hba hb2a howa hsr
          unfold stV
          go_upto_region 9 with (fail)
          rw [← hwa]
          clear hwa
          by_cases hk0 : k = 0
          · subst hk0
            have hR2 : R = readF false s (fs.drop (0 + 1)) := by rw [Hst2.out]; simp
            have HR2 := Lib.hid (hnext.out hR2)
            clear hR2
            go_wp2
            exact ⟨⟨s, A6, c6, 1, rfl, by omega, HR2.out⟩, by simp [intOf]; omega⟩
          · have hkp : (0 : Int) < (k : Int) := by omega
            by_cases hgen : s.gen = last.gen + 1
            · have tg : (s.gen != last.gen + 1) = false := by simp [hgen]
              have hR2 : R = readF false s (fs.drop (k + 1)) := by rw [Hst2.out, if_neg (fun e => e.2 hgen)]
              have HR2 := Lib.hid (hnext.out hR2)
              clear hR2 hgen hk0
              go_wp2
              exact ⟨⟨s, A6, c6, k + 1, by go_num, by omega, HR2.out⟩, by simp [intOf]; omega⟩
            · have tg : (s.gen != last.gen + 1) = true := by simp [hgen]
              have hDn : D = none := by rw [HDs.out, ← HR.out, Hst2.out, if_pos ⟨by simp [hk0], hgen⟩]; rfl
              have HDn := Lib.hid hDn
              clear hDn hgen hk0
              go_wp2
              refine bodyPost_ret (res3r rfl _ _ w.heap.size _ _ _ _ (0, 0) rfl Hset.out) rfl ?_
              rw [HDn.out]
              exact ⟨below_set4 Hba.out (Nat.le_refl _) _ _ _ _, rfl⟩
      · have hRs : R = some last := by rw [Hat.out.eq, readF_end (by omega)]
        have hDs2 : D = some (last, N) := by rw [HDs.out, ← HR.out, hRs]; rfl
        have HDs2 := Lib.hid hDs2
        have Hset := Lib.hid (set4 Hkr.out (.int .i64 last.gen) (.int .i64 last.applied) (.int .i64 last.next) (.slice A3 last.tables.length c3'))
        have c0 : wr.cell? ⟨w.heap.size, 0, none⟩ = some (.int .i64 0) := by rw [cell_of Hkr.out]; rfl
        have c1 : wr.cell? ⟨w.heap.size, 1, none⟩ = some (.int .i64 0) := by rw [cell_of Hkr.out]; rfl
        have c2 : wr.cell? ⟨w.heap.size, 2, none⟩ = some (.int .i64 0) := by rw [cell_of Hkr.out]; rfl
        have c3 : wr.cell? ⟨w.heap.size, 3, none⟩ = some (.slice none 0 0) := by rw [cell_of Hkr.out]; rfl
        have e0 := free_of Hkr.out 0
        have e1 := free_of Hkr.out 1
        have e2 := free_of Hkr.out 2
        have e3 := free_of Hkr.out 3
        have g0 : wr.cell? ⟨w9.heap.size, 0, none⟩ = some (.int .i64 last.gen) := by rw [cell_of Hat.out.cell]; rfl
        have g1 : wr.cell? ⟨w9.heap.size, 1, none⟩ = some (.int .i64 last.applied) := by rw [cell_of Hat.out.cell]; rfl
        have g2 : wr.cell? ⟨w9.heap.size, 2, none⟩ = some (.int .i64 last.next) := by rw [cell_of Hat.out.cell]; rfl
        have g3 : wr.cell? ⟨w9.heap.size, 3, none⟩ = some (.slice A3 last.tables.length c3') := by rw [cell_of Hat.out.cell]; rfl
        clear hRs hDs2
        go_wp2
        refine bodyPost_ret (res3r rfl _ _ w.heap.size _ _ _ _ (0, 0) rfl Hset.out) rfl ?_
        rw [HDs2.out]
        refine ⟨below_set4 Hbwr.out (Nat.le_refl _) _ _ _ _, _, _, rfl, ints_keep Hat.out.ints fun ad e h0 => set4_other (Nat.ne_of_lt (Hat.out.low ad e h0).1) _ _ _ _⟩
end Go.Proofs.Ytkefciacdmbidaa
