/- do: one call on a disk. -/
import Derived.Test.YtkefciacdmbidaaUe
namespace Go.Proofs.Ytkefciacdmbidaa
open Go.RowKit Go.WideMaps Go.Maps

def SD.act (S : SD) (i : Nat) (c : CallM) : Int × SD :=
  if c.what = 0 then (S.werr c.nm.data.toList c.data.length, if S.werr c.nm.data.toList c.data.length = 0 then S.write i c.nm.data.toList c.data else S)
  else if c.what = 1 then (errOf S c.nm.data.toList, S.sync c.nm.data.toList)
  else if c.what = 2 then (errOf S c.nm.data.toList, S.remove c.nm.data.toList)
  else if c.what = 3 then S.rename c.nm.data.toList c.to.data.toList
  else if c.what = 4 then (0, S.crash c.n)
  else (0, S)

theorem act_ok {S : SD} (h : S.Ok) {i : Nat} (hi : ∀ p ∈ S.files, p.2.id ≠ i) (c : CallM) : (S.act i c).2.Ok := by
  unfold SD.act
  split
  · simp only
    split
    · exact write_ok h hi (by assumption)
    · exact h
  · split
    · exact sync_ok h _
    · split
      · exact remove_ok h _
      · split
        · exact rename_ok h _ _
        · split
          · exact crash_ok h _
          · exact h

theorem updF_length (i : Nat) (g : SF → SF) (L : Files) : (updF i g L).length = L.length := by simp [updF]
theorem keepL_length (i : Nat) (l : List (Nat × Nat)) : (keepL i l).length ≤ l.length := List.length_filter_le _ _
theorem finish_length (L : Files) : (finish L).length ≤ L.length := by
  unfold finish
  rw [List.length_map]
  exact List.length_filter_le _ _
theorem cred_length (l : List (Nat × Nat)) (keep : Int) (L : Files) : (cred l keep L).2.length = L.length := by
  unfold cred
  induction l generalizing keep L with
  | nil => rfl
  | cons p r ih =>
    rw [List.foldl_cons]
    have := ih (credS (keep, L) p).1 (credS (keep, L) p).2
    rw [show ((credS (keep, L) p).1, (credS (keep, L) p).2) = credS (keep, L) p from rfl] at this
    rw [this]
    exact updF_length _ _ _

theorem act_sizes (S : SD) (i : Nat) (c : CallM) : (S.act i c).2.files.length ≤ S.files.length + 1 ∧ (S.act i c).2.loose.length ≤ S.loose.length + 1 := by
  unfold SD.act
  split
  · simp only
    split
    · unfold SD.write
      split
      · exact ⟨by rw [updF_length]; omega, by simp⟩
      · refine ⟨?_, by simp⟩
        rw [sins_length]
        have := ers_length c.nm.data.toList S.files
        omega
    · exact ⟨Nat.le_succ _, Nat.le_succ _⟩
  · split
    · unfold SD.sync
      split
      · exact ⟨Nat.le_succ _, Nat.le_succ _⟩
      · exact ⟨by rw [updF_length]; omega, Nat.le_succ_of_le (keepL_length _ _)⟩
    · split
      · unfold SD.remove
        split
        · exact ⟨Nat.le_succ _, Nat.le_succ _⟩
        · exact ⟨Nat.le_succ_of_le (ers_length _ _), Nat.le_succ_of_le (keepL_length _ _)⟩
      · split
        · unfold SD.rename
          split
          · split
            · exact ⟨Nat.le_succ _, Nat.le_succ _⟩
            · refine ⟨?_, ?_⟩
              · rw [sins_length]
                have h1 := ers_length c.to.data.toList (SD.remove { S with files := ers c.nm.data.toList S.files } c.to.data.toList).files
                have h2 := remove_length { S with files := ers c.nm.data.toList S.files } c.to.data.toList
                have h3 := ers_length c.nm.data.toList S.files
                simp only at h2
                omega
              · unfold SD.remove
                split
                · exact Nat.le_succ _
                · exact Nat.le_succ_of_le (keepL_length _ _)
          · exact ⟨Nat.le_succ _, Nat.le_succ _⟩
        · split
          · refine ⟨?_, Nat.zero_le _⟩
            have h1 := finish_length (cred S.loose c.n S.files).2
            rw [cred_length] at h1
            exact Nat.le_succ_of_le h1
          · exact ⟨Nat.le_succ _, Nat.le_succ _⟩

def callV (c : CallM) : Value := .agg #[.int .i64 c.what, .string c.nm, .string c.to, c.dv, .int .i64 c.n]

def DoPost (F : Nat → Prop) (w : World) (d : Nat) (S : SD) (c : CallM) (e : Ending) (w' : World) : Prop :=
  ∃ F' i, (∀ p ∈ S.files, p.2.id ≠ i) ∧ e = .returned (.int .i64 (S.act i c).1) ∧ DiskAt F' w' d (S.act i c).2 ∧ Upd F F' w w'

theorem DiskAt.fresh {F : Nat → Prop} {w : World} {d : Nat} {S : SD} (h : DiskAt F w d S) {i : Nat} (hi : w.heap.size ≤ i) : ∀ p ∈ S.files, p.2.id ≠ i := fun p hp e => by
  obtain ⟨role, m, lv, hd, _⟩ := h
  have := hd.lt p.2.id (by rw [(hd.file p hp).1]; decide)
  omega

theorem Outside.below {F : Nat → Prop} {w w' : World} {v : Value} {xs : List Int} (h : Outside F w v xs) (hb : Below w.heap.size w w') : Outside F w' v xs :=
  ⟨h.same (Same.of_below hb _), fun ad n c e h0 => ⟨(h.out ad n c e h0).1, Nat.lt_of_lt_of_le (h.out ad n c e h0).2 hb.size⟩⟩

set_option maxRecDepth 100000 in
set_option maxHeartbeats 1000000 in
theorem do_any {F : Nat → Prop} {d : Nat} {S : SD} {w : World} (hd : DiskAt F w d S) (hok : S.Ok) (c : CallM) (hv : Outside F w c.dv c.data) (hn : c.nm.size ≤ 140737488351232) (ht : c.to.size ≤ 140737488351232)
    (hlo : -9223372036854775808 ≤ c.n) (hhi : c.n ≤ 9223372036854775807) (hlen : S.loose.length ≤ 1000000) (hlen2 : S.files.length ≤ 1000000) : Calls Try.prog 16 #[.pointer (some ⟨d, 0, none⟩), callV c] w (DoPost F w d S c) := by
  have hb0 : Below w.heap.size w (w.alloc (.cells #[.int .i64 c.what, .string c.nm, .string c.to, c.dv, .int .i64 c.n] 34)) := (Below.refl _ _).alloc (Nat.le_refl _) _
  have hd0 := hd.below hb0
  have hv0 := hv.below hb0
  have hn' : c.nm.size ≤ maxLen := by unfold maxLen; omega
  have ht' : c.to.size ≤ maxLen := by unfold maxLen; omega
  have hfr := hd.fresh (Nat.le_refl _)
  have Hb0 := Lib.hid hb0
  have Hfr := Lib.hid hfr
  obtain ⟨what, nm, to, dv, data, n⟩ := c
  simp only at hv hn ht hlo hhi hd0 hv0 hn' ht' Hb0
  unfold callV
  simp only
  by_cases h0 : what = 0
  · have hw := write_any hd0 hok nm hn' dv data hv0 (by omega) (by omega)
    have Hw := Lib.hid hw
    have H0 := Lib.hid h0
    have t0 : (what == 0) = true := by simp [h0]
    clear hb0 hd0 hv0 hn' ht' hfr hd hok hv hn ht hw h0
    go_enter Try.func16, Try.ntmps16
    go_wp2_with fail
    refine Hw.out.mono ?_
    rintro e w1 ⟨rfl, F1, i, hi, hd1, hu1⟩
    have Hd1 := Lib.hid hd1
    have Hu1 := Lib.hid hu1
    have Hi := Lib.hid hi
    clear hd1 hu1 hi
    go_wp2
    go_ret
    refine ⟨F1, i, Hi.out, ret_int ?_, ?_, (Upd.of_below Hb0.out).trans Hu1.out⟩
    · unfold SD.act
      rw [if_pos H0.out]
    · unfold SD.act
      rw [if_pos H0.out]
      exact Hd1.out
  · have t0 : (what == 0) = false := by simp [h0]
    have H0 := Lib.hid h0
    clear h0
    by_cases h1 : what = 1
    · have hw := sync_any hd0 hok (by omega) nm hn'
      have Hw := Lib.hid hw
      have t1 : (what == 1) = true := by simp [h1]
      have H1 := Lib.hid h1
      clear hb0 hd0 hv0 hn' ht' hfr hd hok hv hn ht hw h1
      go_enter Try.func16, Try.ntmps16
      go_wp2_with fail
      refine Hw.out.mono ?_
      rintro e w1 ⟨rfl, F1, hd1, hu1⟩
      have Hd1 := Lib.hid hd1
      have Hu1 := Lib.hid hu1
      clear hd1 hu1
      go_wp2
      go_ret
      refine ⟨F1, w.heap.size, Hfr.out, ret_int ?_, ?_, (Upd.of_below Hb0.out).trans Hu1.out⟩
      · unfold SD.act
        rw [if_neg H0.out, if_pos H1.out]
      · unfold SD.act
        rw [if_neg H0.out, if_pos H1.out]
        exact Hd1.out
    have t1 : (what == 1) = false := by simp [h1]
    have H1 := Lib.hid h1
    clear h1
    by_cases h2 : what = 2
    · have hw := remove_any hd0 hok (by omega) nm hn'
      have Hw := Lib.hid hw
      have t2 : (what == 2) = true := by simp [h2]
      have H2 := Lib.hid h2
      clear hb0 hd0 hv0 hn' ht' hfr hd hok hv hn ht hw h2
      go_enter Try.func16, Try.ntmps16
      go_wp2_with fail
      refine Hw.out.mono ?_
      rintro e w1 ⟨rfl, F1, hd1, hu1⟩
      have Hd1 := Lib.hid hd1
      have Hu1 := Lib.hid hu1
      clear hd1 hu1
      go_wp2
      go_ret
      refine ⟨F1, w.heap.size, Hfr.out, ret_int ?_, ?_, (Upd.of_below Hb0.out).trans Hu1.out⟩
      · unfold SD.act
        rw [if_neg H0.out, if_neg H1.out, if_pos H2.out]
      · unfold SD.act
        rw [if_neg H0.out, if_neg H1.out, if_pos H2.out]
        exact Hd1.out
    have t2 : (what == 2) = false := by simp [h2]
    have H2 := Lib.hid h2
    clear h2
    by_cases h3 : what = 3
    · have hw := rename_any hd0 hok (by omega) (by omega) nm to hn' ht'
      have Hw := Lib.hid hw
      have t3 : (what == 3) = true := by simp [h3]
      have H3 := Lib.hid h3
      clear hb0 hd0 hv0 hn' ht' hfr hd hok hv hn ht hw h3
      go_enter Try.func16, Try.ntmps16
      go_wp2_with fail
      refine Hw.out.mono ?_
      rintro e w1 ⟨rfl, F1, hd1, hu1⟩
      have Hd1 := Lib.hid hd1
      have Hu1 := Lib.hid hu1
      clear hd1 hu1
      go_wp2
      go_ret
      refine ⟨F1, w.heap.size, Hfr.out, ret_int ?_, ?_, (Upd.of_below Hb0.out).trans Hu1.out⟩
      · unfold SD.act
        rw [if_neg H0.out, if_neg H1.out, if_neg H2.out, if_pos H3.out]
      · unfold SD.act
        rw [if_neg H0.out, if_neg H1.out, if_neg H2.out, if_pos H3.out]
        exact Hd1.out
    have t3 : (what == 3) = false := by simp [h3]
    have H3 := Lib.hid h3
    clear h3
    by_cases h4 : what = 4
    · have hw := crash_any hd0 hok (by omega) n hlo hhi
      have Hw := Lib.hid hw
      have t4 : (what == 4) = true := by simp [h4]
      have H4 := Lib.hid h4
      clear hb0 hd0 hv0 hn' ht' hfr hd hok hv hn ht hw h4
      go_enter Try.func16, Try.ntmps16
      go_wp2_with fail
      refine Hw.out.mono ?_
      rintro e w1 ⟨rfl, F1, hd1, hu1⟩
      have Hd1 := Lib.hid hd1
      have Hu1 := Lib.hid hu1
      clear hd1 hu1
      go_wp2
      go_ret
      refine ⟨F1, w.heap.size, Hfr.out, ret_int ?_, ?_, (Upd.of_below Hb0.out).trans Hu1.out⟩
      · unfold SD.act
        rw [if_neg H0.out, if_neg H1.out, if_neg H2.out, if_neg H3.out, if_pos H4.out]
      · unfold SD.act
        rw [if_neg H0.out, if_neg H1.out, if_neg H2.out, if_neg H3.out, if_pos H4.out]
        exact Hd1.out
    have t4 : (what == 4) = false := by simp [h4]
    have H4 := Lib.hid h4
    clear h4
    have Hd0 := Lib.hid hd0
    clear hb0 hd0 hv0 hn' ht' hfr hd hok hv hn ht
    go_enter Try.func16, Try.ntmps16
    go_wp2
    go_ret
    refine ⟨F, w.heap.size, Hfr.out, ret_int ?_, ?_, Upd.of_below Hb0.out⟩
    · unfold SD.act
      rw [if_neg H0.out, if_neg H1.out, if_neg H2.out, if_neg H3.out, if_neg H4.out]
    · unfold SD.act
      rw [if_neg H0.out, if_neg H1.out, if_neg H2.out, if_neg H3.out, if_neg H4.out]
      exact Hd0.out
end Go.Proofs.Ytkefciacdmbidaa
