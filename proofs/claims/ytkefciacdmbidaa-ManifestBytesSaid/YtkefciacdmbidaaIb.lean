/- open, Next, All, as the document says them. -/
import Derived.Test.YtkefciacdmbidaaIa
import Derived.Test.YtkefciacdmbidaaGj
namespace Go.Proofs.Ytkefciacdmbidaa
open Go.RowKit Go.WideMaps Go.Maps

theorem open_any (w : World) (v : Value) (xs : List Int) (h : BytesAt w v xs) (hn : xs.length ≤ 140737488355328) : Calls Try.prog 97 #[v] w fun e w' => e = .returned (.bool (begunB xs)) ∧ w' = w := by
  obtain ⟨A, cap, rfl, hcap, hcell⟩ := srcs_at h
  have Hcell := Lib.hid hcell
  clear h hcell
  go_enter Try.func97, Try.ntmps97
  go_wp2_with fail
  go_loop [3] (fun i => ∃ k : Nat, k ≤ xs.length ∧ i = .int .i64 k ∧ ∀ x ∈ xs.take k, 128 ≤ x) (fun i => xs.length - (intOf i).toNat)
  case atStart => exact ⟨0, Nat.zero_le _, rfl, fun x hx => by simp at hx⟩
  case round =>
    obtain ⟨k, hk, rfl, hall⟩ := hrel
    have Hall := Lib.hid hall
    clear hall
    by_cases hlt : k < xs.length
    · obtain ⟨b, off, rfl, hb, hc⟩ := Hcell.out (by omega)
      have d := hc k (.int .u8 xs[k]) (by simp [hlt])
      have htk := List.take_succ_eq_append_getElem hlt
      have hmem := List.getElem_mem hlt
      obtain ⟨x, hx⟩ : ∃ x, x = xs[k] := ⟨_, rfl⟩
      rw [← hx] at d htk hmem
      have Htk := Lib.hid htk
      have Hmem := Lib.hid hmem
      clear hc hx htk hmem
      by_cases hx128 : x < 128
      · have hf : begunB xs = false := begunB_low ⟨x, Hmem.out, hx128⟩
        have Hf := Lib.hid hf
        clear hf
        go_wp2
        go_ret
        rw [Hf.out]
        exact ⟨rfl, rfl⟩
      · have hnext : ∀ z ∈ xs.take (k + 1), 128 ≤ z := fun z hz => by
          rw [Htk.out] at hz
          rcases List.mem_append.1 hz with h1 | h1
          · exact Hall.out z h1
          · rw [List.mem_singleton] at h1
            omega
        have Hnext := Lib.hid hnext
        clear hnext
        go_wp2
        exact ⟨⟨k + 1, by omega, by go_num, Hnext.out⟩, by simp [intOf]; omega⟩
    · have hall := Hall.out
      rw [List.take_of_length_le (by omega)] at hall
      have hb : begunB xs = decide ((xs.length : Int) ≤ 8) := by
        by_cases h8 : xs.length ≤ 8
        · rw [begunB_high h8 hall]; simp; omega
        · have : begunB xs = false := by simp [begunB, h8]
          rw [this]; simp; omega
      have Hb := Lib.hid hb
      clear hall hb
      go_wp2
      go_ret
      exact ⟨ret_bool Hb.out.symm, rfl⟩


def RNextPost (w : World) (r : NextR) (e : Ending) (w' : World) : Prop :=
  Below w.heap.size w w' ∧ match r with
  | .torn => e = .returned (.tuple #[.slice none 0 0, .slice none 0 0, .int .i64 1])
  | .bad => e = .returned (.tuple #[.slice none 0 0, .slice none 0 0, .int .i64 2])
  | .whole f r => ∃ v1 v2, e = .returned (.tuple #[v1, v2, .int .i64 0]) ∧ w'.ownsRow w.heap.size 5 1 v1 f.length (f.map (Value.int .u8)) ∧ w'.ownsRow w.heap.size 5 1 v2 r.length (r.map (Value.int .u8))

set_option maxRecDepth 10000 in
set_option maxHeartbeats 4000000 in
theorem rnext_any (w : World) (v : Value) (xs : List Int) (h : BytesAt w v xs) (ho : Octets xs) (hn : xs.length ≤ 140737488355328) : Calls Try.prog 84 #[v] w (RNextPost w (nextB xs)) := by
  have hb := open_any w v xs h hn
  have ht := rtake_any w v xs h ho hn
  obtain ⟨A, cap, rfl, hcap⟩ := Srcs.slice h
  have Hb := Lib.hid hb
  have Ht := Lib.hid ht
  have Ho := Lib.hid ho
  obtain ⟨N, hN⟩ : ∃ N, N = nextB xs := ⟨_, rfl⟩
  rw [← hN]
  unfold nextB at hN
  have HN := Lib.hid hN
  clear hb ht h ho hN
  go_enter Try.func84, Try.ntmps84
  go_wp2_with fail
  refine Hb.out.mono ?_
  rintro e w' ⟨rfl, rfl⟩
  cases hbg : begunB xs with
  | true =>
    rw [hbg] at HN
    go_wp2
    go_ret3
    rw [HN.out]
    exact ⟨Below.refl _ _, rfl⟩
  | false =>
  rw [hbg] at HN
  go_wp2_with fail
  refine Ht.out.mono ?_
  intro e w1 hp
  cases htk : takeN xs 0 0 with
  | none =>
    rw [htk] at hp HN
    obtain ⟨rfl, hb1⟩ := hp
    have Hb1 := Lib.hid hb1
    clear hb1
    go_wp2
    go_ret3
    rw [HN.out]
    exact ⟨Hb1.out, rfl⟩
  | some p =>
    obtain ⟨n, r⟩ := p
    rw [htk] at hp HN
    obtain ⟨v2, rfl, hown, hb1⟩ := hp
    have hn9 := takeN_lt htk (by omega) (by decide)
    obtain ⟨j, -, hr⟩ := takeN_rest htk
    have hor := Ho.out.drop j
    rw [← hr] at hor
    have hrl : r.length ≤ 140737488355328 := by rw [hr, List.length_drop]; omega
    have hsrc := ownsRow_srcs hown (one_u8 _)
    obtain ⟨R, rc, rfl, hrc⟩ := ownsRow_slice hown
    have Hor := Lib.hid hor
    have Hsrc := Lib.hid hsrc
    have Hb1 := Lib.hid hb1
    have hn63 : n ≤ 9223372036854775807 := by omega
    clear hn9 hr hor hsrc hb1 htk Hb Ht Ho
    have hN2 : N = if 65536 < n then .bad else if r.length < n + 4 then .torn else if endB (r.take n) = (r.drop n).take 4 then .whole (r.take n) (r.drop (n + 4)) else .bad := HN.out
    have HN2 := Lib.hid hN2
    clear hN2 HN
    by_cases hbig : 65536 < n
    · rw [if_pos hbig] at HN2
      go_wp2
      go_ret3
      rw [HN2.out]
      exact ⟨Hb1.out, rfl⟩
    · rw [if_neg hbig] at HN2
      by_cases hshort : r.length < n + 4
      · rw [if_pos hshort] at HN2
        go_wp2
        go_ret3
        rw [HN2.out]
        exact ⟨Hb1.out, rfl⟩
      · rw [if_neg hshort] at HN2
        have hbr : BytesAt w1 (.slice R r.length rc) r := Hsrc.out
        obtain ⟨g, rfl⟩ : ∃ g, R = some ⟨g, 0, none⟩ := by
          rcases hown.2 with ⟨e1, e2⟩ | ⟨g, c, cur, e1, -⟩
          · exfalso
            omega
          · simp only [Value.slice.injEq] at e1
            exact ⟨g, e1.1⟩
        have hgl := hown.lt g rfl
        have Hgl := Lib.hid hgl
        clear hgl
        have hf1 : BytesAt w1 (.slice (some ⟨g, 0, none⟩) n rc) (r.take n) := bytes_take hbr (by omega) (by omega) (by simp)
        have hd4 := bytes_drop (j := n) hbr (by omega)
        have hf2 : BytesAt w1 (.slice (some ⟨g, n, none⟩) 4 (rc - n)) ((r.drop n).take 4) := by
          rw [Nat.zero_add, show r.length - n = (r.drop n).length by simp] at hd4
          exact bytes_take hd4 (by simp; omega) (by omega) (by simp)
        have hsm : ∀ w0 : World, w0.heap = w1.heap → Calls Try.prog 74 #[.slice (some ⟨g, 0, none⟩) n rc] w0 fun e w' => e = .returned (.int .i64 (sumB (r.take n))) ∧ w' = w0 := fun w0 h0 => rsum_any w0 _ _ (srcs_heap hf1 h0) (Hor.out.take n) (by simp; omega)
        have hfo : ∀ w0 : World, Calls Try.prog 73 #[.int .i64 (sumB (r.take n))] w0 (NewRow w0 5 1 4 ((endB (r.take n)).map (Value.int .u8))) := fun w0 => four_any w0 _ (sumB_range _)
        have heq : ∀ (w0 w2 : World) (v3 : Value), w0.heap = w1.heap → w2.ownsRow w0.heap.size 5 1 v3 4 ((endB (r.take n)).map (Value.int .u8)) → Below w0.heap.size w0 w2 → Calls Try.prog 22 #[v3, .slice (some ⟨g, n, none⟩) 4 (rc - n)] w2 (IsB w2 (decide (endB (r.take n) = (r.drop n).take 4))) := fun w0 w2 v3 h0 hv hb =>
          sameBytes_any w2 _ _ _ _ (ownsRow_srcs hv (one_u8 _)) (srcs_below (srcs_heap hf2 h0) hb) (by rw [endB_len]; decide) (by simp; omega)
        obtain ⟨q, hq⟩ : ∃ q, q = decide (endB (r.take n) = (r.drop n).take 4) := ⟨_, rfl⟩
        rw [← hq] at heq
        have Hq := Lib.hid hq
        have Hf1 := Lib.hid hf1
        have Hbr := Lib.hid hbr
        clear hq
        have hne : ¬ rc = n := by omega
        have hw4 : IntKind.i64.wrap ((n : Int) + 4) = (n : Int) + 4 := IntWalk.i64_in _ (by omega)
        have hw5 : wrap64 ((n : Int) + 4) = (n : Int) + 4 := IntWalk.wrap64_in _ (by omega)
        have hi1 : (n : Int) + 4 ≤ (rc : Int) := by omega
        have hi2 : (0 : Int) ≤ (n : Int) + 4 := by omega
        have hi3 : (n : Int) ≤ (n : Int) + 4 := by omega
        have hi4 : ((n : Int) + 4).toNat = n + 4 := by omega
        have hi5 : n + 4 - n = 4 := by omega
        have hi6 : (n : Int) ≤ (rc : Int) := by omega
        have Hsm := Lib.hid hsm
        have Hfo := Lib.hid hfo
        have Heq := Lib.hid heq
        clear hsm hfo heq hf1 hf2 hd4 hbr
        go_wp2_with fail
        go_region_with (first | (go_at_call 74; refine (Hsm.out _ ?_).mono ?_; exact rfl; rintro e w2 ⟨rfl, rfl⟩) | (go_at_call 73; refine (Hfo.out _).mono ?_; rintro e w3 ⟨v3, rfl, hown3, hb3⟩; obtain ⟨A3, c3, rfl, -⟩ := ownsRow_slice hown3; have Hown3 := Lib.hid hown3; have Hb3 := Lib.hid hb3; clear hown3 hb3) | (go_at_call 22; refine (Heq.out _ _ _ ?_ Hown3.out Hb3.out).mono ?_; exact rfl; rintro e w4 ⟨rfl, hb4⟩; have Hb4 := Lib.hid hb4; clear hb4))
        cases q with
        | false =>
          rw [if_neg (of_decide_eq_false Hq.out.symm)] at HN2
          go_wp2
          go_ret3
          rw [HN2.out]
          exact ⟨Hb1.out.trans (((below_undrew Hb3.out).trans (Hb4.out.mono Hb3.out.size)).mono Hb1.out.size), rfl⟩
        | true =>
          rw [if_pos (of_decide_eq_true Hq.out.symm)] at HN2
          have hb14 : Below w1.heap.size w1 w4 := (below_undrew Hb3.out).trans (Hb4.out.mono Hb3.out.size)
          obtain ⟨fr, hfr⟩ : ∃ fr, fr = r.take n := ⟨_, rfl⟩
          obtain ⟨dr, hdr⟩ : ∃ dr, dr = r.drop (n + 4) := ⟨_, rfl⟩
          have hfl : fr.length = n := by rw [hfr, List.length_take]; omega
          rw [← hfr, ← hdr] at HN2
          have Hfl := Lib.hid hfl
          have Hdr := Lib.hid hdr
          have hc1 : ∀ w0 : World, w0.heap = w4.heap → Calls Try.prog 15 #[.slice (some ⟨g, 0, none⟩) n rc] w0 (NewRow w0 5 1 n (fr.map (Value.int .u8))) := fun w0 h0 => by
            have h1 := copyBytes_any w0 (.slice (some ⟨g, 0, none⟩) n rc) fr (by rw [hfr]; exact srcs_heap (srcs_below Hf1.out hb14) h0) (by omega)
            rw [hfl] at h1
            exact h1
          have Hc1 := Lib.hid hc1
          have Hb14 := Lib.hid hb14
          clear hc1 hb14 hfl hfr hdr
          by_cases hrc : rc = n + 4
          · subst hrc
            have hc2 : ∀ w0 w5 W : World, w0.heap = w4.heap → Below w0.heap.size w0 w5 → W.heap = w5.heap → Calls Try.prog 15 #[.slice (some ⟨g, 0, none⟩) 0 0] W (NewRow W 5 1 dr.length (dr.map (Value.int .u8))) := fun w0 w5 W h0 h5 hW =>
              copyBytes_any W _ _ (by
                have h1 := srcs_heap (srcs_below (srcs_heap (bytes_end (w := w4) (b := g) (off := 0) (xs := r) (j := n + 4) (by omega)) h0) h5) hW
                rw [← Hdr.out] at h1
                have h2 : r.length - (n + 4) = 0 := by omega
                have h3 : dr.length = 0 := by rw [Hdr.out, List.length_drop]; omega
                rw [h2] at h1
                exact h1) (by rw [Hdr.out, List.length_drop]; omega)
            have Hc2 := Lib.hid hc2
            clear hc2
            go_wp2_with fail
            go_region_with (first | (go_at_call 15; refine (Hc1.out _ ?_).mono ?_; exact rfl; rintro e w5 ⟨v5, rfl, hown5, hb5⟩; obtain ⟨A5, c5, rfl, -⟩ := ownsRow_slice hown5; have Hown5 := Lib.hid hown5; have Hb5 := Lib.hid hb5; clear hown5 hb5) | (go_at_call 15; refine (Hc2.out _ _ _ ?_ Hb5.out ?_).mono ?_; exact rfl; exact rfl; rintro e w6 ⟨v6, rfl, hown6, hb6⟩; obtain ⟨A6, c6, rfl, -⟩ := ownsRow_slice hown6; have Hown6 := Lib.hid hown6; have Hb6 := Lib.hid hb6; clear hown6 hb6))
            go_wp2
            go_ret3
            rw [HN2.out]
            have hb16 := (below_undrew' Hb5.out).trans (Hb6.out.mono Hb5.out.size)
            have hb06 := Hb1.out.trans ((Hb14.out.trans (hb16.mono Hb14.out.size)).mono Hb1.out.size)
            have ho5 := ownsRow_rebase (ownsRow_block (w' := w6) Hown5.out fun k hk => Hb6.out.block k (Hown5.out.lt k hk).2) (base' := w'.heap.size) fun k hk => Nat.le_trans (Nat.le_trans Hb1.out.size Hb14.out.size) (Hown5.out.lt k hk).1
            have ho6 := ownsRow_rebase Hown6.out (base' := w'.heap.size) fun k hk => Nat.le_trans (Nat.le_trans (Nat.le_trans Hb1.out.size Hb14.out.size) Hb5.out.size) (Hown6.out.lt k hk).1
            refine ⟨hb06, _, _, rfl, ?_, ho6⟩
            rw [Hfl.out]
            exact ho5
          · have hc2 : ∀ w0 w5 W : World, w0.heap = w4.heap → Below w0.heap.size w0 w5 → W.heap = w5.heap → Calls Try.prog 15 #[.slice (some ⟨g, n + 4, none⟩) (r.length - (n + 4)) (rc - (n + 4))] W (NewRow W 5 1 dr.length (dr.map (Value.int .u8))) := fun w0 w5 W h0 h5 hW =>
              copyBytes_any W _ _ (by
                have h1 := srcs_heap (srcs_below (srcs_heap (srcs_below (by have := bytes_drop (j := n + 4) Hbr.out (by omega); rw [Nat.zero_add] at this; exact this) Hb14.out) h0) h5) hW
                rw [← Hdr.out] at h1
                exact h1) (by rw [Hdr.out, List.length_drop]; omega)
            have Hc2 := Lib.hid hc2
            clear hc2
            go_wp2_with fail
            go_region_with (first | (go_at_call 15; refine (Hc1.out _ ?_).mono ?_; exact rfl; rintro e w5 ⟨v5, rfl, hown5, hb5⟩; obtain ⟨A5, c5, rfl, -⟩ := ownsRow_slice hown5; have Hown5 := Lib.hid hown5; have Hb5 := Lib.hid hb5; clear hown5 hb5) | (go_at_call 15; refine (Hc2.out _ _ _ ?_ Hb5.out ?_).mono ?_; exact rfl; exact rfl; rintro e w6 ⟨v6, rfl, hown6, hb6⟩; obtain ⟨A6, c6, rfl, -⟩ := ownsRow_slice hown6; have Hown6 := Lib.hid hown6; have Hb6 := Lib.hid hb6; clear hown6 hb6))
            go_wp2
            go_ret3
            rw [HN2.out]
            have hb16 := (below_undrew' Hb5.out).trans (Hb6.out.mono Hb5.out.size)
            have hb06 := Hb1.out.trans ((Hb14.out.trans (hb16.mono Hb14.out.size)).mono Hb1.out.size)
            have ho5 := ownsRow_rebase (ownsRow_block (w' := w6) Hown5.out fun k hk => Hb6.out.block k (Hown5.out.lt k hk).2) (base' := w'.heap.size) fun k hk => Nat.le_trans (Nat.le_trans Hb1.out.size Hb14.out.size) (Hown5.out.lt k hk).1
            have ho6 := ownsRow_rebase Hown6.out (base' := w'.heap.size) fun k hk => Nat.le_trans (Nat.le_trans (Nat.le_trans Hb1.out.size Hb14.out.size) Hb5.out.size) (Hown6.out.lt k hk).1
            refine ⟨hb06, _, _, rfl, ?_, ho6⟩
            rw [Hfl.out]
            exact ho5
end Go.Proofs.Ytkefciacdmbidaa
