/- Right, as the document says it. Encode, as the document says it. The plain law of frames and states: what was written is read. The plain law of Save on a disk that holds this one file. A disk that holds a manifest: Save, Load, Crash. alive: a state that is saved twice. -/
import Derived.Test.YtkefciacdmbidaaGi
namespace Go.Proofs.Ytkefciacdmbidaa
open Go.RowKit Go.WideMaps Go.Maps Go.Lib

structure MS.Upto (s : MS) (i : Nat) : Prop where
  range : ∀ t ∈ s.tables.take i, 1 ≤ t ∧ t < s.next
  nodup : (s.tables.take i).Nodup
theorem MS.Upto.step {s : MS} {i : Nat} (h : s.Upto i) (hi : i < s.tables.length) (h1 : 1 ≤ s.tables[i] ∧ s.tables[i] < s.next) (h2 : s.tables[i] ∉ s.tables.take i) : s.Upto (i + 1) := by
  have e := List.take_succ_eq_append_getElem hi
  refine ⟨fun t ht => ?_, ?_⟩
  · rw [e] at ht
    rcases List.mem_append.1 ht with h3 | h3
    · exact h.range t h3
    · rw [List.mem_singleton] at h3
      rw [h3]; exact h1
  · rw [e, List.nodup_append]
    exact ⟨h.nodup, by simp, fun a ha b hb => by
      rw [List.mem_singleton] at hb
      rw [hb]; exact fun e => h2 (by rw [← e]; exact ha)⟩
theorem MS.Upto.right {s : MS} (hb : s.Basic) (h : s.Upto s.tables.length) : s.Right := by
  have h1 := h.range; have h2 := h.nodup
  rw [List.take_length] at h1 h2
  exact ⟨hb, h1, h2⟩
theorem not_mem_step {xs : List Int} {k : Nat} {x : Int} (hk : k < xs.length) (h : x ∉ xs.take k) (hne : xs[k] ≠ x) : x ∉ xs.take (k + 1) := by
  rw [List.take_succ_eq_append_getElem hk]
  intro h1
  rcases List.mem_append.1 h1 with h3 | h3
  · exact h h3
  · rw [List.mem_singleton] at h3
    exact hne h3.symm
theorem not_right_dup {s : MS} {i k : Nat} (hi : i < s.tables.length) (hk : k < i) (e : s.tables[k]'(by omega) = s.tables[i]) : ¬ s.Right := fun h => by
  have := List.pairwise_iff_getElem.1 h.nodup k i (by omega) hi hk
  exact this e

theorem below_drewN {B : Nat} {w w' : World} (h : Below B w w') (q : Nat) : Below B w (w'.drewN q) := ⟨h.os, h.tape, h.output, h.size, h.block⟩

set_option maxRecDepth 100000 in
set_option maxHeartbeats 2000000 in
theorem rright_any (w : World) (s : MS) (tv : Value) (h : IntsAt w tv s.tables) (hn : s.tables.length ≤ 1000000) : Calls Try.prog 43 #[stV s.gen s.applied s.next tv] w (IsB w (rightM s)) := by
  obtain ⟨A, c, rfl, -, hA⟩ := srcs_at h
  obtain ⟨wb, hwb⟩ : ∃ wb, wb = w.alloc (.cells #[.int .i64 s.gen, .int .i64 s.applied, .int .i64 s.next, .slice A s.tables.length c] 59) := ⟨_, rfl⟩
  have hb0 : Below w.heap.size w wb := by rw [hwb]; exact (Below.refl _ _).alloc (Nat.le_refl _) _
  have hb0' : Below w.heap.size w (w.alloc (.cells #[.int .i64 s.gen, .int .i64 s.applied, .int .i64 s.next, .slice A s.tables.length c] 59)) := (Below.refl _ _).alloc (Nat.le_refl _) _
  have hwl : w.heap.size < wb.heap.size := by rw [hwb]; simp
  have hk : wb.heap[w.heap.size]? = some (.cells #[.int .i64 s.gen, .int .i64 s.applied, .int .i64 s.next, .slice A s.tables.length c] 59 (0, 0)) := by rw [hwb]; exact heap_alloc_new w _
  have hbox : ∀ W : World, Below wb.heap.size wb W → W.cell? ⟨w.heap.size, 2, none⟩ = some (.int .i64 s.next) ∧ W.cell? ⟨w.heap.size, 3, none⟩ = some (.slice A s.tables.length c) := fun W hb => by
    have h1 := (hb.block w.heap.size hwl).trans hk
    exact ⟨(cell_of h1 _).trans rfl, (cell_of h1 _).trans rfl⟩
  have hcell : ∀ W : World, Below wb.heap.size wb W → 0 < s.tables.length → ∃ b off, A = some ⟨b, off, none⟩ ∧ ∀ j (hj : j < s.tables.length), W.cell? ⟨b, off + j, none⟩ = some (.int .i64 s.tables[j]) := fun W hb h0 => by
    obtain ⟨b, off, e, hlt, hc⟩ := hA h0
    refine ⟨b, off, e, fun j hj => ?_⟩
    rw [hb.cell (p := ⟨b, off + j, none⟩) (Nat.lt_trans hlt hwl), hb0.cell (p := ⟨b, off + j, none⟩) hlt]
    exact hc j _ (by simp [hj])
  have Hb0 := Lib.hid hb0
  have Hb0' := Lib.hid hb0'
  have Hbox := Lib.hid hbox
  have Hcell := Lib.hid hcell
  clear hb0 hb0' hk hbox hcell h hA
  unfold stV
  by_cases c1 : s.gen < 1
  · go_enter Try.func43, Try.ntmps43
    go_wp2
    go_ret
    exact ⟨ret_bool (rightM_no fun h => by have := h.basic.g1; omega).symm, Hb0'.out⟩
  by_cases c2 : 1099511627776 < s.gen
  · go_enter Try.func43, Try.ntmps43
    go_wp2
    go_ret
    exact ⟨ret_bool (rightM_no fun h => by have := h.basic.g2; omega).symm, Hb0'.out⟩
  by_cases c3 : s.applied < 0
  · go_enter Try.func43, Try.ntmps43
    go_wp2
    go_ret
    exact ⟨ret_bool (rightM_no fun h => by have := h.basic.a1; omega).symm, Hb0'.out⟩
  by_cases c4 : 1099511627776 < s.applied
  · go_enter Try.func43, Try.ntmps43
    go_wp2
    go_ret
    exact ⟨ret_bool (rightM_no fun h => by have := h.basic.a2; omega).symm, Hb0'.out⟩
  by_cases c5 : s.next < 1
  · go_enter Try.func43, Try.ntmps43
    go_wp2
    go_ret
    exact ⟨ret_bool (rightM_no fun h => by have := h.basic.n1; omega).symm, Hb0'.out⟩
  by_cases c6 : 999999 < s.next
  · go_enter Try.func43, Try.ntmps43
    go_wp2
    go_ret
    exact ⟨ret_bool (rightM_no fun h => by have := h.basic.n2; omega).symm, Hb0'.out⟩
  by_cases c7 : 50 < s.tables.length
  · go_enter Try.func43, Try.ntmps43
    go_wp2
    go_ret
    exact ⟨ret_bool (rightM_no fun h => by have := h.basic.t; omega).symm, Hb0'.out⟩
  have hbasic : s.Basic := ⟨by omega, by omega, by omega, by omega, by omega, by omega, by omega⟩
  have Hbasic := Lib.hid hbasic
  clear hbasic Hb0'
  go_enter Try.func43, Try.ntmps43
  go_wp2_with fail
  rw [← hwb]
  clear hwb
  go_loopw [3] (fun i wr => ∃ k : Nat, k ≤ s.tables.length ∧ i = .int .i64 k ∧ s.Upto k ∧ Below wb.heap.size wb wr) (fun i _ => s.tables.length - (intOf i).toNat)
  case atStart => exact ⟨0, Nat.zero_le _, rfl, ⟨fun t ht => by simp at ht, by simp⟩, Below.refl _ _⟩
  case round =>
    obtain ⟨k, hk, rfl, hup, hbl⟩ := hrel
    have hbx := Hbox.out wr hbl
    have b2 := hbx.1
    have b3 := hbx.2
    have Hup := Lib.hid hup
    have Hbl := Lib.hid hbl
    clear hup hbl hbx
    by_cases hlt : k < s.tables.length
    · obtain ⟨b, off, rfl, hcs⟩ := Hcell.out wr Hbl.out (by omega)
      have d := hcs k hlt
      have hst := Hup.out.step hlt
      have hno : ∀ hR : s.Right, 1 ≤ s.tables[k] ∧ s.tables[k] < s.next := fun hR => hR.range _ (List.getElem_mem hlt)
      have hdup := fun j (hj : j < k) => not_right_dup hlt hj
      obtain ⟨x, hx⟩ : ∃ x, x = s.tables[k] := ⟨_, rfl⟩
      rw [← hx] at d hst hno
      have hxx := fun j (hj : j < k) (e : s.tables[j]'(by omega) = x) => hdup j hj (by rw [e, hx])
      have Hst := Lib.hid hst
      have Hno := Lib.hid hno
      have Hxx := Lib.hid hxx
      have Hx := Lib.hid hx
      clear hst hno hdup hxx hx hcs
      have hi0 : (0 : Int) ≤ (k : Int) := by omega
      have hi1 : (k : Int) < (s.tables.length : Int) := by omega
      by_cases hx1 : x < 1
      · have t1 : decide (x < 1) = true := by simp [hx1]
        go_wp2_with fail
        go_quiet (fail)
        go_wp2
        go_ret
        exact ⟨ret_bool (rightM_no fun h => by have := (Hno.out h).1; omega).symm, Hb0.out.trans ((below_drewN Hbl.out _).mono (Nat.le_of_lt hwl))⟩
      · have t1 : decide (x < 1) = false := by simp [hx1]
        by_cases hx2 : s.next ≤ x
        · have t2 : decide (s.next ≤ x) = true := by simp [hx2]
          go_wp2_with fail
          go_quiet (fail)
          go_wp2
          go_ret
          exact ⟨ret_bool (rightM_no fun h => by have := (Hno.out h).2; omega).symm, Hb0.out.trans ((below_drewN Hbl.out _).mono (Nat.le_of_lt hwl))⟩
        · have t2 : decide (s.next ≤ x) = false := by simp [hx2]
          go_wp2_with fail
          go_quiet (fail)
          rename_i nq
          have hbo := below_drewN Hbl.out nq
          obtain ⟨wo, hwo⟩ : ∃ wo, wo = wr.drewN nq := ⟨_, rfl⟩
          rw [← hwo] at hbo ⊢
          have Hbo := Lib.hid hbo
          clear hbo hwo d b2 b3
          go_wp2_with fail
          go_loopw [4] (fun i wr => ∃ j : Nat, j ≤ k ∧ i = .int .i64 j ∧ x ∉ s.tables.take j ∧ Below wb.heap.size wb wr) (fun i _ => k - (intOf i).toNat)
          case atStart => exact ⟨0, Nat.zero_le _, rfl, by simp, Hbo.out⟩
          case round =>
            obtain ⟨j, hj, rfl, hnot, hbl2⟩ := hrel
            have hbx2 := Hbox.out wr hbl2
            have b2 := hbx2.1
            have b3 := hbx2.2
            have Hbl2 := Lib.hid hbl2
            have Hnot := Lib.hid hnot
            clear hbx2 hbl2 hnot
            by_cases hjk : j < k
            · obtain ⟨b', off', e', hcs2⟩ := Hcell.out wr Hbl2.out (by omega)
              cases e'
              have d := hcs2 k hlt
              rw [← Hx.out] at d
              have d2 := hcs2 j (by omega)
              have hms := not_mem_step (k := j) (by omega) Hnot.out
              have hxj := Hxx.out j hjk
              obtain ⟨y, hy⟩ : ∃ y, y = s.tables[j]'(by omega) := ⟨_, rfl⟩
              rw [← hy] at d2 hms hxj
              have Hms := Lib.hid hms
              have Hxj := Lib.hid hxj
              clear hms hxj hy hcs2
              have hj0 : (0 : Int) ≤ (j : Int) := by omega
              have hj1 : (j : Int) < (s.tables.length : Int) := by omega
              have hjn : j < s.tables.length := by omega
              have hji : (j : Int) < (k : Int) := by omega
              by_cases hyx : y = x
              · have t3 : (y == x) = true := by simp [hyx]
                have Hyx := Lib.hid hyx
                clear hyx
                go_wp2_with fail
                go_quiet (fail)
                go_wp2
                go_ret
                exact ⟨ret_bool (rightM_no (Hxj.out Hyx.out)).symm, Hb0.out.trans ((below_drewN Hbl2.out _).mono (Nat.le_of_lt hwl))⟩
              · have t3 : (y == x) = false := by simp [hyx]
                have Hyx := Lib.hid hyx
                clear hyx
                go_wp2_with fail
                go_quiet (fail)
                go_wp2
                exact ⟨⟨j + 1, by omega, by go_num, Hms.out Hyx.out, below_drewN Hbl2.out _⟩, by simp [intOf]; omega⟩
            · have hjk' : ¬ (j : Int) < (k : Int) := by omega
              have hjk2 : j = k := by omega
              have hnk := Hnot.out
              rw [hjk2] at hnk
              have hnext := Hst.out ⟨by omega, by omega⟩ hnk
              have Hnext := Lib.hid hnext
              clear hjk2 hnk hnext
              go_wp2
              exact ⟨⟨k + 1, by omega, by go_num, Hnext.out, Hbl2.out⟩, by simp [intOf]; omega⟩
    · go_wp2
      go_ret
      have hk1 : k = s.tables.length := by omega
      refine ⟨ret_bool ?_, Hb0.out.trans (Hbl.out.mono (Nat.le_of_lt hwl))⟩
      have := Hup.out
      rw [hk1] at this
      exact (rightM_true.2 (this.right Hbasic.out)).symm
end Go.Proofs.Ytkefciacdmbidaa

namespace Go.Proofs.Ytkefciacdmbidaa
open Go.RowKit Go.WideMaps Go.Maps Go.Lib

set_option maxRecDepth 100000 in
set_option maxHeartbeats 1000000 in
theorem rencode_any (w : World) (s : MS) (tv : Value) (h : IntsAt w tv s.tables) (hn : s.tables.length ≤ 1000000) : Calls Try.prog 37 #[stV s.gen s.applied s.next tv] w (EncPost w s) := by
  obtain ⟨A, c, rfl, -⟩ := Srcs.slice h
  obtain ⟨wb, hwb⟩ : ∃ wb, wb = w.alloc (.cells #[.int .i64 s.gen, .int .i64 s.applied, .int .i64 s.next, .slice A s.tables.length c] 59) := ⟨_, rfl⟩
  have hb0 : Below w.heap.size w wb := by rw [hwb]; exact (Below.refl _ _).alloc (Nat.le_refl _) _
  have hwl : w.heap.size < wb.heap.size := by rw [hwb]; simp
  have hcells : ∀ j, wb.cell? ⟨w.heap.size, j, none⟩ = #[Value.int .i64 s.gen, .int .i64 s.applied, .int .i64 s.next, .slice A s.tables.length c][j]? := fun j => by rw [hwb, cell_of (heap_alloc_new w _)]
  have hri := rright_any wb s _ (srcs_below h hb0) (by omega)
  have Hri := Lib.hid hri
  have Hwb := Lib.hid hwb
  have Hb0 := Lib.hid hb0
  have Hcells := Lib.hid hcells
  have H := Lib.hid h
  clear hri hb0 hcells h
  unfold stV at Hri ⊢
  rw [hwb] at Hri
  clear hwb
  go_enter Try.func37, Try.ntmps37
  go_wp2_with fail
  refine Hri.out.mono ?_
  rintro e w1 ⟨rfl, hb1⟩
  rw [← Hwb.out] at hb1
  have hb01 := Hb0.out.trans (hb1.mono (Nat.le_of_lt hwl))
  have Hb01 := Lib.hid hb01
  cases hR : rightM s with
  | false =>
    have Hno := Lib.hid (rightM_false.1 hR)
    clear hR hb1 hb01 Hri
    go_wp2
    go_ret2
    exact ⟨Hb01.out, Or.inr ⟨Hno.out, rfl⟩⟩
  | true =>
    have hR := rightM_true.1 hR
    have hcell : ∀ j, w1.cell? ⟨w.heap.size, j, none⟩ = #[Value.int .i64 s.gen, .int .i64 s.applied, .int .i64 s.next, .slice A s.tables.length c][j]? := fun j => (hb1.cell (p := ⟨w.heap.size, j, none⟩) hwl).trans (Hcells.out j)
    have d0 : w1.cell? ⟨w.heap.size, 0, none⟩ = some (.int .i64 s.gen) := hcell 0
    have d1 : w1.cell? ⟨w.heap.size, 1, none⟩ = some (.int .i64 s.applied) := hcell 1
    have d2 : w1.cell? ⟨w.heap.size, 2, none⟩ = some (.int .i64 s.next) := hcell 2
    have d3 : w1.cell? ⟨w.heap.size, 3, none⟩ = some (.slice A s.tables.length c) := hcell 3
    have d3' : (w1.alloc (.cells #[.int .i64 s.gen, .int .i64 s.applied, .int .i64 s.next, .int .i64 s.tables.length] 3)).cell? ⟨w.heap.size, 3, none⟩ = some (.slice A s.tables.length c) := cell_alloc d3
    have hti := srcs_below H.out hb01
    have h50 := hR.basic.t
    have HR := Lib.hid hR
    have Hti := Lib.hid hti
    clear hR hb1 hb01 hcell hti Hri Hcells
    go_wp2_with (first | (at_builtin; go_loud (refine wpList_app _ rfl _ _ 57 rfl 3 1 8 _ Try.underlying57 info3 rfl (by decide) _ 4 [.int .i64 s.gen, .int .i64 s.applied, .int .i64 s.next, .int .i64 s.tables.length] rfl ?hrow _ s.tables.length (s.tables.map (Value.int .i64)) rfl ?hsrc ?h63 ?hby ?_)))
    case hrow => exact ownsRow_base0 (row_built w1 #[.int .i64 s.gen, .int .i64 s.applied, .int .i64 s.next, .int .i64 s.tables.length] 3 four_le)
    case hsrc => exact Hti.out.alloc _
    case h63 => unfold maxLen; omega
    case hby => omega
    intro o2 w2 ha
    have hL : Value.int .i64 s.gen :: .int .i64 s.applied :: .int .i64 s.next :: .int .i64 s.tables.length :: s.tables.map (Value.int .i64) = s.nums.map (Value.int .i64) := by simp [MS.nums]
    have hown : w2.ownsRow 0 3 1 o2 s.nums.length (s.nums.map (Value.int .i64)) := by
      have := ha.own
      rw [hL] at this
      rw [MS.nums_length, Nat.add_comm]
      exact this
    obtain ⟨L, hLd⟩ : ∃ L, L = s.nums := ⟨_, rfl⟩
    rw [← hLd] at hown
    have hLl : L.length = 4 + s.tables.length := by rw [hLd, MS.nums_length, Nat.add_comm]
    obtain ⟨B, bc, rfl, -⟩ := ownsRow_slice hown
    have hints : IntsAt w2 (.slice B L.length bc) L := ownsRow_srcs hown (one_i64 _)
    have hb12 : Below w1.heap.size w1 w2 := by
      have hb := (Below.refl w1.heap.size w1).alloc (Nat.le_refl _) (.cells #[.int .i64 s.gen, .int .i64 s.applied, .int .i64 s.next, .int .i64 s.tables.length] 3)
      exact hb.trans ⟨ha.grown.os, ha.grown.tape, ha.grown.output, ha.grown.size, fun k hk => ha.grown.block k (Nat.lt_of_lt_of_le hk hb.size) fun e => by
        cases e
        exact Nat.lt_irrefl _ hk⟩
    have hb02 := Hb01.out.trans (hb12.mono Hb01.out.size)
    have hrange := HR.out.nums
    rw [← hLd] at hrange
    have Hints := Lib.hid hints
    have Hb02 := Lib.hid hb02
    have Hrange := Lib.hid hrange
    have HLd := Lib.hid hLd
    have hL54 : L.length ≤ 54 := by omega
    clear ha hL hown hints hb12 hb02 hrange hLd hLl Hti H d0 d1 d2 d3 d3'
    go_wp2_with fail
    go_loopw [5, 6] (fun o i wr => ∃ (k n : Nat) (E : Option Addr) (ec : Nat) (es : List Int), k ≤ L.length ∧ i = .int .i64 k ∧ o = .slice E n ec ∧ Buf 5 1 w2 wr (.slice E n ec) n (es.map (Value.int .u8)) ∧ es = encL (L.take k) ∧ n = es.length) (fun _ i _ => L.length - (intOf i).toNat)
    case atStart => exact ⟨0, 0, _, _, [], Nat.zero_le _, rfl, rfl, Buf.made 5 1 (Below.refl _ _), rfl, rfl⟩
    case round =>
      obtain ⟨k, n, E, ec, es, hk, rfl, rfl, hbuf, hes, hne⟩ := hrel
      have hsmall : n ≤ 1000 := by
        have h1 := encL_len (L.take k) fun x hx => by have := Hrange.out x (List.mem_of_mem_take hx); omega
        rw [← hes, ← hne, List.length_take] at h1
        omega
      have Hbuf := Lib.hid hbuf
      have Hes := Lib.hid hes
      have Hne := Lib.hid hne
      clear hbuf hes hne
      by_cases hlt : k < L.length
      · obtain ⟨b, off, rfl, hc⟩ := ints_cell (srcs_below Hints.out Hbuf.out.below) hlt
        have hr := Hrange.out L[k] (List.getElem_mem hlt)
        have htk := encL_take hlt
        obtain ⟨x, hx⟩ : ∃ x, x = L[k] := ⟨_, rfl⟩
        rw [← hx] at hc hr htk
        obtain ⟨y, rfl⟩ := Int.eq_ofNat_of_zero_le hr.1
        have hnum := rnum_any y wr (by omega)
        have hl9 := numN_len 8 y (by omega)
        have htk2 : encL (L.take (k + 1)) = es ++ numN y := by rw [htk, ← Hes.out]; rfl
        have Hnum := Lib.hid hnum
        have Htk := Lib.hid htk2
        clear hnum htk htk2 hx
        go_wp2_with fail
        refine Hnum.out.mono ?_
        rintro e w4 ⟨v4, rfl, hown4, hb4⟩
        have hbuf4 := Hbuf.out.step hb4
        have hsrc := ownsRow_srcs hown4 (one_u8 _)
        obtain ⟨q, hq⟩ : ∃ q, q = (numN y).length := ⟨_, rfl⟩
        rw [← hq] at hsrc hown4 hl9
        obtain ⟨D, dc, rfl, -⟩ := ownsRow_slice hown4
        have Hbuf4 := Lib.hid hbuf4
        have Hsrc := Lib.hid hsrc
        have Hq := Lib.hid hq
        clear hbuf4 hsrc hown4 hb4 hq Hnum Hbuf
        go_wp2_with (first | (at_builtin; refine wpList_app _ rfl _ _ 32 rfl 5 1 1 _ Try.underlying32 info5 rfl (by decide) _ n (es.map (Value.int .u8)) rfl (ownsRow_base0 Hbuf4.out.own) _ q ((numN y).map (Value.int .u8)) rfl Hsrc.out ?h63 ?hby ?_))
        case h63 => unfold maxLen; omega
        case hby => omega
        intro o5 w5 ha5
        have hbuf5 := Hbuf4.out.app (Below.refl _ _) ha5
        rw [← List.map_append, ← Htk.out] at hbuf5
        obtain ⟨E5, ec5, rfl⟩ := hbuf5.slice
        have Hbuf5 := Lib.hid hbuf5
        clear ha5 hbuf5
        go_wp2
        exact ⟨⟨k + 1, n + q, E5, ec5, _, by omega, by go_num, rfl, Hbuf5.out, rfl, by rw [Htk.out, List.length_append, Hne.out, Hq.out]⟩, by simp [intOf]; omega⟩
      · have hkl : k = L.length := by omega
        subst hkl
        go_wp2
        go_ret2
        have e1 : es = encB s := by
          rw [Hes.out, List.take_length, HLd.out]
          rfl
        have e2 := Hbuf.out
        rw [Hne.out, e1] at e2
        refine ⟨Hb02.out.trans (Hbuf.out.below.mono Hb02.out.size), Or.inl ⟨HR.out, _, ?_, ownsRow_rebase e2.own fun g hg => Nat.le_trans Hb02.out.size (e2.own.lt g hg).1⟩⟩
        rw [← e1, ← Hne.out]
        rfl
end Go.Proofs.Ytkefciacdmbidaa

namespace Go.Proofs.Ytkefciacdmbidaa
open Go.RowKit Go.WideMaps Go.Maps Go.Lib

theorem takeN_numN : ∀ (j n i acc : Nat) (r : List Int), n < 128 ^ (j + 1) → i + j ≤ 8 → (0 < i → 0 < n) → takeN (numN n ++ r) i acc = some (acc + n * 128 ^ i, r)
  | j, n, i, acc, r, h, hi, h0 => by
    by_cases h1 : 127 < n
    · match j, h, hi with
      | 0, h, _ => simp at h; omega
      | j + 1, h, hi =>
        have hd : n / 128 < 128 ^ (j + 1) := by
          rw [Nat.pow_succ] at h
          exact Nat.div_lt_of_lt_mul (by omega)
        rw [numN_more h1, List.cons_append, takeN, if_neg (by omega), if_pos (by omega)]
        have e1 : (((n : Int) % 128 + 128) % 128).toNat = n % 128 := by omega
        rw [e1, takeN_numN j (n / 128) (i + 1) _ r hd (by omega) (fun _ => by omega)]
        have e2 : acc + n % 128 * 128 ^ i + n / 128 * 128 ^ (i + 1) = acc + n * 128 ^ i := by
          rw [Nat.pow_succ, Nat.mul_comm (128 ^ i) 128, ← Nat.mul_assoc, Nat.add_assoc, ← Nat.add_mul]
          congr 2
          omega
        rw [e2]
    · rw [numN_last h1, List.singleton_append, takeN, if_neg (by omega), if_neg (by omega), if_neg (by omega)]
      have e1 : ((n : Int) % 128).toNat = n := by omega
      rw [e1]
theorem take_num {n : Nat} (h : n < 128 ^ 9) (r : List Int) : takeN (numN n ++ r) 0 0 = some (n, r) := by
  rw [takeN_numN 8 n 0 0 r h (by omega) (fun h => absurd h (Nat.lt_irrefl _))]
  simp
theorem numN_low : ∀ (j n : Nat), n < 128 ^ (j + 1) → ∃ x ∈ numN n, x < 128
  | j, n, h => by
    by_cases h1 : 127 < n
    · match j, h with
      | 0, h => simp at h; omega
      | j + 1, h =>
        obtain ⟨x, hx, hl⟩ := numN_low j (n / 128) (by
          rw [Nat.pow_succ] at h
          exact Nat.div_lt_of_lt_mul (by omega))
        rw [numN_more h1]
        exact ⟨x, List.mem_cons_of_mem _ hx, hl⟩
    · rw [numN_last h1]
      exact ⟨n, List.mem_singleton_self _, by omega⟩
theorem numN_high : ∀ (j n k : Nat), n < 128 ^ (j + 1) → k < (numN n).length → ∀ x ∈ (numN n).take k, 128 ≤ x
  | j, n, k, h, hk => by
    by_cases h1 : 127 < n
    · match j, h with
      | 0, h => simp at h; omega
      | j + 1, h =>
        rw [numN_more h1] at hk ⊢
        cases k with
        | zero => intro x hx; simp at hx
        | succ k =>
          intro x hx
          rw [List.take_succ_cons] at hx
          rcases List.mem_cons.1 hx with rfl | hx
          · omega
          · exact numN_high j (n / 128) k (by
              rw [Nat.pow_succ] at h
              exact Nat.div_lt_of_lt_mul (by omega)) (by simpa using hk) x hx
    · rw [numN_last h1] at hk ⊢
      have : k = 0 := by simpa using hk
      subst this
      intro x hx; simp at hx
theorem begunB_low {xs : List Int} (h : ∃ x ∈ xs, x < 128) : begunB xs = false := by
  obtain ⟨x, hx, hl⟩ := h
  have : lowOf xs < xs.length := List.findIdx_lt_length.2 ⟨x, hx, by simp [isLow, hl]⟩
  simp [begunB, this]
theorem begunB_high {xs : List Int} (hl : xs.length ≤ 8) (h : ∀ x ∈ xs, 128 ≤ x) : begunB xs = true := by
  have : ¬ lowOf xs < xs.length := fun h1 => by
    obtain ⟨x, hx, hl⟩ := List.findIdx_lt_length.1 h1
    have := h x hx
    simp [isLow] at hl
    omega
  simp [begunB, this, hl]
theorem endB_len (xs : List Int) : (endB xs).length = 4 := rfl
theorem frameB_len (xs : List Int) : (frameB xs).length = (numN xs.length).length + (xs.length + 4) := by
  unfold frameB
  rw [List.length_append, List.length_append, endB_len]

theorem nextB_frame {x : List Int} (h : x.length ≤ 65536) (r : List Int) : nextB (frameB x ++ r) = .whole x r := by
  unfold nextB frameB
  rw [List.append_assoc, begunB_low (by
    obtain ⟨c, hc, hl⟩ := numN_low 2 x.length (by omega)
    exact ⟨c, List.mem_append_left _ hc, hl⟩), take_num (by omega)]
  simp only [Bool.false_eq_true, if_false]
  rw [if_neg (by omega), if_neg (by simp only [List.length_append, endB_len]; omega)]
  have e1 : (x ++ endB x ++ r).take x.length = x := by rw [List.append_assoc, List.take_left]
  have e2 : ((x ++ endB x ++ r).drop x.length).take 4 = endB x := by
    rw [List.append_assoc, List.drop_left, ← endB_len x, List.take_left]
  have e3 : (x ++ endB x ++ r).drop (x.length + 4) = r := by
    rw [show x.length + 4 = (x ++ endB x).length by rw [List.length_append, endB_len], List.drop_left]
  rw [e1, e2, e3, if_pos rfl]
theorem nextB_torn {x : List Int} (h : x.length ≤ 65536) {k : Nat} (hk : k < (frameB x).length) : nextB ((frameB x).take k) = .torn := by
  rw [frameB_len] at hk
  have hl := numN_len 2 x.length (by omega)
  by_cases h1 : k < (numN x.length).length
  · have e : (frameB x).take k = (numN x.length).take k := by
      unfold frameB
      rw [List.take_append_of_le_length (Nat.le_of_lt h1)]
    unfold nextB
    rw [e, begunB_high (by rw [List.length_take]; omega) (numN_high 2 x.length k (by omega) h1)]
    rfl
  · have e : (frameB x).take k = numN x.length ++ (x ++ endB x).take (k - (numN x.length).length) := by
      unfold frameB
      rw [List.take_append, List.take_of_length_le (by omega)]
    unfold nextB
    rw [e, begunB_low (by
      obtain ⟨c, hc, hl⟩ := numN_low 2 x.length (by omega)
      exact ⟨c, List.mem_append_left _ hc, hl⟩), take_num (by omega)]
    simp only [Bool.false_eq_true, if_false]
    rw [if_neg (by omega), if_pos (by rw [List.length_take, List.length_append, endB_len]; omega)]

theorem allB_app {x : List Int} (h : x.length ≤ 65536) (r : List Int) : allB (frameB x ++ r) = (x :: (allB r).1, (allB r).2) := by
  rw [allB_step (by
    intro e
    have := congrArg List.length e
    rw [List.length_append, frameB_len] at this
    simp at this), nextB_frame h]
def framesB (L : List (List Int)) : List Int := L.flatMap frameB
theorem allB_frames : ∀ (L : List (List Int)) (r : List Int), (∀ x ∈ L, x.length ≤ 65536) → allB (framesB L ++ r) = (L ++ (allB r).1, (allB r).2)
  | [], r, _ => rfl
  | x :: L, r, h => by
    unfold framesB
    rw [List.flatMap_cons, List.append_assoc, allB_app (h x List.mem_cons_self)]
    have := allB_frames L r fun y hy => h y (List.mem_cons_of_mem _ hy)
    unfold framesB at this
    rw [this]
    rfl
theorem allB_torn {x : List Int} (h : x.length ≤ 65536) {k : Nat} (hk : k < (frameB x).length) : (allB ((frameB x).take k)).1 = [] ∧ (allB ((frameB x).take k)).2.1 = (frameB x).take k ∧ (allB ((frameB x).take k)).2.2 ≠ 2 := by
  by_cases h0 : (frameB x).take k = []
  · rw [h0, allB_nil]; exact ⟨rfl, rfl, by decide⟩
  · rw [allB_step h0, nextB_torn h hk]; exact ⟨rfl, rfl, fun e => absurd (show (1 : Int) = 2 from e) (by decide)⟩

theorem tks_encL : ∀ l : List Int, (∀ x ∈ l, 0 ≤ x ∧ x ≤ 1099511627776) → tks (encL l) = some l
  | [], _ => rfl
  | a :: r, h => by
    have ha := h a List.mem_cons_self
    have e : encL (a :: r) = numN a.toNat ++ encL r := by unfold encL; rw [List.flatMap_cons]
    have hne : encL (a :: r) ≠ [] := fun e0 => by
      rw [e] at e0
      have h1 := numN_pos a.toNat
      have h2 := (List.append_eq_nil_iff.1 e0).1
      rw [h2] at h1
      exact absurd h1 (by decide)
    rw [tks_step hne, e, take_num (by omega)]
    simp only
    rw [tks_encL r fun x hx => h x (List.mem_cons_of_mem _ hx)]
    simp only [Option.map_some, Option.some.injEq, List.cons.injEq, and_true]
    omega
theorem decB_enc {s : MS} (h : s.Right) : decB (encB s) = some s := by
  have hst : stateOfL s.nums = s := by cases s; simp [stateOfL, MS.nums]
  unfold decB encB
  rw [tks_encL s.nums h.nums]
  simp only
  rw [if_pos ⟨by rw [MS.nums_length]; omega, by rw [MS.nums_length]; simp [MS.nums], by rw [hst]; exact h⟩, hst]

theorem readF_app : ∀ (L : List (List Int)) (b : Bool) (last : MS) (f : List Int), readF b last (L ++ [f]) = match readF b last L with
    | none => none
    | some q => match decB f with
      | none => none
      | some s => if (b = false ∨ L ≠ []) ∧ s.gen ≠ q.gen + 1 then none else some s
  | [], b, last, f => by
    simp only [List.nil_append, readF]
    cases decB f <;> simp
  | x :: L, b, last, f => by
    rw [List.cons_append, readF, readF]
    cases hd : decB x with
    | none => rfl
    | some q =>
      simp only
      by_cases hc : b = false ∧ q.gen ≠ last.gen + 1
      · rw [if_pos hc, if_pos hc]
      · rw [if_neg hc, if_neg hc, readF_app L false q f]
        cases readF false q L with
        | none => rfl
        | some q' =>
          simp only
          cases decB f with
          | none => rfl
          | some s => simp

/-- bytes of frames whose last state is this one -/
structure Good (xs : List Int) (last : MS) : Prop where
  ex : ∃ L : List (List Int), xs = framesB L ∧ (∀ x ∈ L, x.length ≤ 65536 ∧ Octets x) ∧ readF true ms0 L = some last ∧ (L ≠ [] → 1 ≤ last.gen)
theorem good_nil : Good [] ms0 := ⟨[], rfl, fun x hx => by simp at hx, rfl, fun h => absurd rfl h⟩
theorem Good.read {xs : List Int} {last : MS} (h : Good xs last) : readB xs = some (last, (xs.length : Int)) := by
  obtain ⟨L, rfl, hL, hr, -⟩ := h.ex
  have := allB_frames L [] fun x hx => (hL x hx).1
  rw [List.append_nil, allB_nil, List.append_nil] at this
  unfold readB
  rw [this]
  simp only [show ¬ ((0 : Int) = 2) by decide, if_false, hr, Option.map_some, List.length_nil]
  simp
theorem Good.torn {xs : List Int} {last : MS} (h : Good xs last) {x : List Int} (hx : x.length ≤ 65536) {k : Nat} (hk : k < (frameB x).length) : readB (xs ++ (frameB x).take k) = some (last, (xs.length : Int)) := by
  obtain ⟨L, rfl, hL, hr, -⟩ := h.ex
  obtain ⟨t1, t2, t3⟩ := allB_torn hx hk
  have := allB_frames L ((frameB x).take k) fun x hx => (hL x hx).1
  rw [t1, List.append_nil] at this
  unfold readB
  rw [this]
  simp only [t2, if_neg t3, hr, Option.map_some, List.length_append]
  congr 2
  omega
theorem frameB_oct {x : List Int} (h : Octets x) (hl : x.length ≤ 65536) : Octets (frameB x) :=
  (numN_octets 2 _ (by omega)).app (h.app (endN_octets (sumB_range x)))
theorem Good.oct {xs : List Int} {last : MS} (h : Good xs last) : Octets xs := by
  obtain ⟨L, rfl, hL, -, -⟩ := h.ex
  intro x hx
  obtain ⟨y, hy, hx⟩ := List.mem_flatMap.1 hx
  exact frameB_oct (hL y hy).2 (hL y hy).1 x hx
theorem Good.rng {xs : List Int} {last : MS} (h : Good xs last) : 0 ≤ last.gen ∧ last.gen ≤ 1099511627776 ∧ last.tables.length ≤ 50 := by
  obtain ⟨L, -, -, hr, -⟩ := h.ex
  exact readF_rng L true ms0 last (by decide) hr
theorem Good.next {xs : List Int} {last s : MS} (h : Good xs last) (hs : s.Right) (hg : last.gen = 0 ∨ s.gen = last.gen + 1) : Good (xs ++ frameB (encB s)) s := by
  obtain ⟨L, rfl, hL, hr, h1⟩ := h.ex
  refine ⟨L ++ [encB s], by unfold framesB; simp, fun x hx => ?_, ?_, fun _ => hs.basic.g1⟩
  · rcases List.mem_append.1 hx with h2 | h2
    · exact hL x h2
    · rw [List.mem_singleton] at h2
      rw [h2]
      exact ⟨by have := encB_len hs; omega, encB_oct hs⟩
  · rw [readF_app, hr]
    simp only
    rw [decB_enc hs]
    simp only
    rw [if_neg]
    rintro ⟨h2, h3⟩
    rcases h2 with h2 | h2
    · cases h2
    · have := h1 h2
      omega
theorem good_one {s : MS} (hs : s.Right) : Good (frameB (encB s)) s := by
  have := good_nil.next hs (Or.inl rfl)
  simpa using this
theorem Good.follows {xs : List Int} {last s : MS} (h : Good xs last) (hs : s.Right) (hg : last.gen = 0 ∨ s.gen = last.gen + 1) : followsB xs s = .inr (xs.length : Int) := by
  unfold followsB
  rw [if_pos hs, h.read]
  simp only
  rw [if_neg (by omega)]
theorem Good.follows_no {xs : List Int} {last s : MS} (h : Good xs last) (hg : ¬ (s.Right ∧ (last.gen = 0 ∨ s.gen = last.gen + 1))) : followsB xs s = .inl 10 := by
  unfold followsB
  by_cases hs : s.Right
  · rw [if_pos hs, h.read]
    simp only
    have := h.rng
    rw [if_pos (by
      have : ¬ (last.gen = 0 ∨ s.gen = last.gen + 1) := fun e => hg ⟨hs, e⟩
      omega)]
  · rw [if_neg hs]
end Go.Proofs.Ytkefciacdmbidaa

namespace Go.Proofs.Ytkefciacdmbidaa
open Go.RowKit Go.WideMaps Go.Maps Go.Lib

def mm : List UInt8 := [109]
structure Disk1 (S : SD) (xs : List Int) (lim : Nat) : Prop where
  ok : S.Ok
  lim : S.limit = lim
  loose : S.loose = []
  files : (S.files = [] ∧ xs = []) ∨ ∃ id, S.files = [(mm, ⟨id, xs, xs.length, true⟩)]
theorem Disk1.data {S : SD} {xs : List Int} {lim : Nat} (h : Disk1 S xs lim) : S.data mm = xs := by
  rcases h.files with ⟨h1, rfl⟩ | ⟨id, h1⟩
  · simp [SD.data, h1, getF]
  · simp [SD.data, h1, getF]
theorem Disk1.size {S : SD} {xs : List Int} {lim : Nat} (h : Disk1 S xs lim) : S.size = xs.length := by
  rcases h.files with ⟨h1, rfl⟩ | ⟨id, h1⟩
  · simp [SD.size, lens, h1]
  · simp [SD.size, lens, h1]
theorem Disk1.nloose {S : SD} {xs : List Int} {lim : Nat} (h : Disk1 S xs lim) : S.nloose = 0 := by simp [SD.nloose, h.loose]
theorem good_mm : goodName mm = true := by decide
theorem good_mt : goodName (mm ++ [126]) = true := by decide

theorem Disk1.app {S : SD} {xs : List Int} {lim : Nat} (h : Disk1 S xs lim) {ys : List Int} {n : Int} {S' : SD} (ha : AppRel S mm ys n S') (hl : xs.length + ys.length ≤ lim) : n = 0 ∧ Disk1 S' (xs ++ ys) lim := by
  have hw : S.werr mm ys.length = 0 := by
    unfold SD.werr
    rw [if_pos good_mm, h.size, h.lim, if_neg (by omega)]
  obtain ⟨i, hi, ⟨h1, -, -⟩ | ⟨-, rfl, rfl⟩⟩ := ha
  · exact absurd hw h1
  · have hok := sync_ok (write_ok h.ok hi hw) mm
    rcases h.files with ⟨h1, rfl⟩ | ⟨id, h1⟩
    · refine ⟨?_, hok, ?_, ?_, Or.inr ⟨i, ?_⟩⟩
      · simp [errOf, SD.write, h1, getF, ers, sins]
      · simp [SD.sync, SD.write, h1, getF, ers, sins, h.lim]
      · simp [SD.sync, SD.write, h1, getF, ers, sins, h.loose, keepL]
      · simp [SD.sync, SD.write, h1, getF, ers, sins, updF]
    · refine ⟨?_, hok, ?_, ?_, Or.inr ⟨id, ?_⟩⟩
      · simp [errOf, SD.write, h1, getF, updF]
      · simp [SD.sync, SD.write, h1, getF, updF, h.lim]
      · simp [SD.sync, SD.write, h1, getF, updF, h.loose, keepL]
      · simp [SD.sync, SD.write, h1, getF, updF]

theorem Disk1.swap {S : SD} {xs : List Int} {lim : Nat} (h : Disk1 S xs lim) {ys : List Int} {n : Int} {S' : SD} (ha : SwapRel S mm ys n S') (hl : xs.length + ys.length ≤ lim) : n = 0 ∧ Disk1 S' ys lim := by
  have h0 : S.remove (mm ++ [126]) = S := by
    rcases h.files with ⟨h1, -⟩ | ⟨id, h1⟩
    · simp [SD.remove, h1, getF]
    · simp [SD.remove, h1, getF, mm]
  have hw : S.werr (mm ++ [126]) ys.length = 0 := by
    unfold SD.werr
    rw [if_pos good_mt, h.size, h.lim, if_neg (by omega)]
  obtain ⟨i, hi, ha⟩ := ha
  rw [h0] at hi ha
  rcases ha with ⟨h1, -, -⟩ | ⟨-, he⟩
  · exact absurd hw h1
  · have hok := rename_ok (sync_ok (write_ok h.ok hi hw) (mm ++ [126])) (mm ++ [126]) mm
    have e1 : n = ((((S.write i (mm ++ [126]) ys).sync (mm ++ [126])).rename (mm ++ [126]) mm)).1 := by rw [← he]
    have e2 : S' = ((((S.write i (mm ++ [126]) ys).sync (mm ++ [126])).rename (mm ++ [126]) mm)).2 := by rw [← he]
    rw [← e2] at hok
    rcases h.files with ⟨h1, rfl⟩ | ⟨id, h1⟩
    · have ew : S.write i (mm ++ [126]) ys = ⟨[(mm ++ [126], ⟨i, ys, 0, false⟩)], [(i, ys.length)], S.limit⟩ := by simp [SD.write, h1, getF, ers, sins, h.loose]
      have es : (S.write i (mm ++ [126]) ys).sync (mm ++ [126]) = ⟨[(mm ++ [126], ⟨i, ys, ys.length, true⟩)], [], S.limit⟩ := by rw [ew]; simp [SD.sync, getF, updF, keepL]
      have er : ((S.write i (mm ++ [126]) ys).sync (mm ++ [126])).rename (mm ++ [126]) mm = (0, ⟨[(mm, ⟨i, ys, ys.length, true⟩)], [], S.limit⟩) := by
        rw [es]; simp [SD.rename, good_mm, getF, ers, sins, SD.remove]
      rw [er] at e1 e2
      subst e1 e2
      exact ⟨rfl, hok, h.lim, rfl, Or.inr ⟨i, rfl⟩⟩
    · have hne : id ≠ i := hi (mm, ⟨id, xs, xs.length, true⟩) (by rw [h1]; exact List.mem_singleton_self _)
      have ew : S.write i (mm ++ [126]) ys = ⟨[(mm, ⟨id, xs, xs.length, true⟩), (mm ++ [126], ⟨i, ys, 0, false⟩)], [(i, ys.length)], S.limit⟩ := by
        have hb : Go.bytesBefore (mm ++ [126]) mm = false := by decide
        have hb' : Go.bytesBefore [109, 126] [109] = false := by decide
        simp [SD.write, h1, getF, ers, sins, h.loose, mm, hb']
      have es : (S.write i (mm ++ [126]) ys).sync (mm ++ [126]) = ⟨[(mm, ⟨id, xs, xs.length, true⟩), (mm ++ [126], ⟨i, ys, ys.length, true⟩)], [], S.limit⟩ := by rw [ew]; simp [SD.sync, getF, updF, keepL, mm, hne]
      have er : ((S.write i (mm ++ [126]) ys).sync (mm ++ [126])).rename (mm ++ [126]) mm = (0, ⟨[(mm, ⟨i, ys, ys.length, true⟩)], [], S.limit⟩) := by
        rw [es]; simp [SD.rename, getF, ers, sins, SD.remove, mm, keepL, show goodName [109] = true from by decide]
      rw [er] at e1 e2
      subst e1 e2
      exact ⟨rfl, hok, h.lim, rfl, Or.inr ⟨i, rfl⟩⟩

theorem frame_len {s : MS} (h : s.Right) : (frameB (encB s)).length ≤ 9 * (s.tables.length + 4) + 7 := by
  have h1 := encL_len s.nums fun x hx => by have := (h.nums x hx).2; omega
  rw [MS.nums_length] at h1
  have h2 := encB_len h
  have h3 := numN_len 2 (encB s).length (by omega)
  rw [frameB_len]
  unfold encB at h2 h3 ⊢
  omega
theorem Disk1.save {S : SD} {xs : List Int} {lim : Nat} {last s : MS} (h : Disk1 S xs lim) (hg : Good xs last) {n : Int} {S' : SD} (hs : SaveRel S mm s n S') (hl : xs.length + (9 * (s.tables.length + 4) + 7) ≤ lim)
    (hR : s.Right) (hn : last.gen = 0 ∨ s.gen = last.gen + 1) : n = 0 ∧ ∃ xs', Disk1 S' xs' lim ∧ Good xs' s ∧ xs'.length ≤ xs.length + (9 * (s.tables.length + 4) + 7) ∧ xs'.length ≤ 2047 + (9 * (s.tables.length + 4) + 7) := by
  have hfl := frame_len hR
  unfold SaveRel at hs
  rw [h.data, hg.follows hR hn] at hs
  simp only at hs
  by_cases h2 : 2048 ≤ xs.length
  · rw [if_pos h2] at hs
    obtain ⟨e, h3⟩ := h.swap hs (by omega)
    exact ⟨e, _, h3, good_one hR, by omega, by omega⟩
  · rw [if_neg h2, if_neg (by omega)] at hs
    obtain ⟨e, h3⟩ := h.app hs (by omega)
    exact ⟨e, _, h3, hg.next hR hn, by rw [List.length_append]; omega, by rw [List.length_append]; omega⟩
theorem Disk1.save_no {S : SD} {xs : List Int} {lim : Nat} {last s : MS} (h : Disk1 S xs lim) (hg : Good xs last) {n : Int} {S' : SD} (hs : SaveRel S mm s n S') (hn : ¬ (s.Right ∧ (last.gen = 0 ∨ s.gen = last.gen + 1))) : n = 10 ∧ S' = S := by
  unfold SaveRel at hs
  rw [h.data, hg.follows_no hn] at hs
  exact hs
theorem Disk1.load {S : SD} {xs : List Int} {lim : Nat} {last : MS} (h : Disk1 S xs lim) (hg : Good xs last) : (readB (S.data mm)).map Prod.fst = some last := by
  rw [h.data, hg.read]; rfl
theorem disk1_start {lim : Nat} (h : lim ≤ 16777216) : Disk1 ⟨[], [], lim⟩ [] lim := ⟨⟨List.Pairwise.nil, List.Pairwise.nil, fun _ h => by simp at h, fun _ h => by simp at h, fun _ h => by simp at h, h, Nat.zero_le _⟩, rfl, rfl, Or.inl ⟨rfl, rfl⟩⟩
end Go.Proofs.Ytkefciacdmbidaa

namespace Go.Proofs.Ytkefciacdmbidaa
open Go.RowKit Go.WideMaps Go.Maps Go.Lib

structure DM (w0 w : World) (d : Nat) (F : Nat → Prop) (xs : List Int) (last : MS) (lim : Nat) : Prop where
  ex : ∃ S, DiskAt F w d S ∧ Disk1 S xs lim
  good : Good xs last
  foot : ∀ k, F k → w0.heap.size ≤ k
  below : Below w0.heap.size w0 w
theorem DM.step {w0 w w' : World} {d : Nat} {F : Nat → Prop} {xs : List Int} {last : MS} {lim : Nat} (h : DM w0 w d F xs last lim) (hb : Below w.heap.size w w') : DM w0 w' d F xs last lim := by
  obtain ⟨S, h1, h2⟩ := h.ex
  exact ⟨⟨S, h1.below hb, h2⟩, h.good, h.foot, h.below.trans (hb.mono h.below.size)⟩
theorem DM.lt {w0 w : World} {d : Nat} {F : Nat → Prop} {xs : List Int} {last : MS} {lim : Nat} (h : DM w0 w d F xs last lim) : ∀ k, F k → k < w.heap.size := by
  obtain ⟨S, h1, h2⟩ := h.ex
  exact h1.lt

/-- may this state be saved behind that one? -/
def Fits (last s : MS) : Prop := s.Right ∧ (last.gen = 0 ∨ s.gen = last.gen + 1)
def DMSave (w0 w : World) (d : Nat) (F : Nat → Prop) (xs : List Int) (last : MS) (lim : Nat) (s : MS) (e : Ending) (w' : World) : Prop :=
  (Fits last s ∧ e = .returned (.int .i64 0) ∧ ∃ F' xs', DM w0 w' d F' xs' s lim ∧ Upd F F' w w' ∧ xs'.length ≤ xs.length + (9 * (s.tables.length + 4) + 7) ∧ xs'.length ≤ 2047 + (9 * (s.tables.length + 4) + 7)) ∨
  (¬ Fits last s ∧ e = .returned (.int .i64 10) ∧ ∃ F', DM w0 w' d F' xs last lim ∧ Upd F F' w w')

theorem Disk1.files_len {S : SD} {xs : List Int} {lim : Nat} (h : Disk1 S xs lim) : S.files.length ≤ 1 := by
  rcases h.files with ⟨h1, -⟩ | ⟨id, h1⟩ <;> rw [h1] <;> simp
theorem upd_foot {F F' : Nat → Prop} {w0 w w' : World} (hF : ∀ k, F k → w0.heap.size ≤ k) (hb : Below w0.heap.size w0 w) (hu : Upd F F' w w') : (∀ k, F' k → w0.heap.size ≤ k) ∧ Below w0.heap.size w0 w' :=
  ⟨fun k hk => (hu.sub k hk).elim (hF k) fun h => Nat.le_trans hb.size h, hb.trans (hu.below hF hb.size)⟩

theorem dm_save {w0 w : World} {d : Nat} {F : Nat → Prop} {xs : List Int} {last : MS} {lim : Nat} (h : DM w0 w d F xs last lim) (s : MS) (tv : Value) (ht : IntsAt w tv s.tables) (hs : s.tables.length ≤ 1000000)
    (hl : s.Right → xs.length + (9 * (s.tables.length + 4) + 7) ≤ lim) : Calls Try.prog 46 #[.pointer (some ⟨d, 0, none⟩), .string ⟨#[109]⟩, msV s tv] w (DMSave w0 w d F xs last lim s) := by
  obtain ⟨S, h1, h2⟩ := h.ex
  have ho : Octets (S.data (⟨#[109]⟩ : ByteArray).data.toList) := by
    rw [show (⟨#[109]⟩ : ByteArray).data.toList = mm from rfl, h2.data]
    exact h.good.oct
  refine (save_any h1 h2.ok ⟨#[109]⟩ (by decide) ho s tv ht hs (by rw [h2.loose]; decide) (Nat.le_trans h2.files_len (by decide))).mono ?_
  rintro e w' ⟨n, S', F', rfl, hr, hd', hu⟩
  replace hr : SaveRel S mm s n S' := hr
  obtain ⟨hf, hb⟩ := upd_foot h.foot h.below hu
  by_cases hfit : Fits last s
  · obtain ⟨rfl, xs', h3, h4, h5, h6⟩ := h2.save h.good hr (hl hfit.1) hfit.1 hfit.2
    exact Or.inl ⟨hfit, rfl, F', xs', ⟨⟨S', hd', h3⟩, h4, hf, hb⟩, hu, h5, h6⟩
  · obtain ⟨rfl, rfl⟩ := h2.save_no h.good hr hfit
    exact Or.inr ⟨hfit, rfl, F', ⟨⟨S', hd', h2⟩, h.good, hf, hb⟩, hu⟩
theorem dm_load {w0 w : World} {d : Nat} {F : Nat → Prop} {xs : List Int} {last : MS} {lim : Nat} (h : DM w0 w d F xs last lim) : Calls Try.prog 47 #[.pointer (some ⟨d, 0, none⟩), .string ⟨#[109]⟩] w (LoadPost w (some last)) := by
  obtain ⟨S, h1, h2⟩ := h.ex
  have ho : Octets (S.data (⟨#[109]⟩ : ByteArray).data.toList) := by
    rw [show (⟨#[109]⟩ : ByteArray).data.toList = mm from rfl, h2.data]
    exact h.good.oct
  have := load_any h1 h2.ok ⟨#[109]⟩ (by decide) ho
  have e : loadB (S.data (⟨#[109]⟩ : ByteArray).data.toList) = some last := h2.load h.good
  rw [e] at this
  exact this
theorem Disk1.crash {S : SD} {xs : List Int} {lim : Nat} (h : Disk1 S xs lim) (keep : Int) : Disk1 (S.crash keep) xs lim := by
  refine ⟨crash_ok h.ok keep, h.lim, rfl, ?_⟩
  rcases h.files with ⟨h1, rfl⟩ | ⟨id, h1⟩
  · exact Or.inl ⟨by simp [SD.crash, h.loose, cred, h1, finish], rfl⟩
  · exact Or.inr ⟨id, by simp [SD.crash, h.loose, cred, h1, finish, trunc]⟩
def DMPost (w0 w : World) (d : Nat) (F : Nat → Prop) (xs : List Int) (last : MS) (lim : Nat) (v : Value) (e : Ending) (w' : World) : Prop := e = .returned v ∧ ∃ F', DM w0 w' d F' xs last lim ∧ Upd F F' w w'
theorem dm_crash {w0 w : World} {d : Nat} {F : Nat → Prop} {xs : List Int} {last : MS} {lim : Nat} (h : DM w0 w d F xs last lim) (keep : Int) (hk1 : -9223372036854775808 ≤ keep) (hk2 : keep ≤ 9223372036854775807) :
    Calls Try.prog 32 #[.pointer (some ⟨d, 0, none⟩), .int .i64 keep] w (DMPost w0 w d F xs last lim (.tuple #[])) := by
  obtain ⟨S, h1, h2⟩ := h.ex
  refine (crash_any h1 h2.ok (by rw [h2.loose]; decide) keep hk1 hk2).mono ?_
  rintro e w' ⟨rfl, F', hd', hu⟩
  obtain ⟨hf, hb⟩ := upd_foot h.foot h.below hu
  exact ⟨rfl, F', ⟨⟨_, hd', h2.crash keep⟩, h.good, hf, hb⟩, hu⟩
theorem dm_new {w w1 : World} {F : Nat → Prop} {d lim : Nat} (hl : lim ≤ 16777216) (hd : DiskAt F w1 d ⟨[], [], lim⟩) (hF : ∀ k, F k → w.heap.size ≤ k) (hb : Below w.heap.size w w1) : DM w w1 d F [] ms0 lim :=
  ⟨⟨_, hd, disk1_start hl⟩, good_nil, hF, hb⟩
theorem DM.upd {w0 w w' : World} {d : Nat} {F : Nat → Prop} {xs : List Int} {last : MS} {lim : Nat} (_ : DM w0 w d F xs last lim) {F' : Nat → Prop} (hu : Upd F F' w w') (k : Nat) (hk : k < w.heap.size) (hF : ¬ F k) : w'.heap[k]? = w.heap[k]? := hu.block k hk hF
end Go.Proofs.Ytkefciacdmbidaa

namespace Go.Proofs.Ytkefciacdmbidaa
open Go.RowKit Go.WideMaps Go.Maps Go.Lib

def sA : MS := ⟨1, 2, 3, [2, 1]⟩
def sB : MS := ⟨2, 5, 4, [3]⟩
def sC : MS := ⟨2, 5, 4, []⟩
theorem sA_right : sA.Right := ⟨⟨by decide, by decide, by decide, by decide, by decide, by decide, by decide⟩, by decide, by decide⟩
theorem sB_right : sB.Right := ⟨⟨by decide, by decide, by decide, by decide, by decide, by decide, by decide⟩, by decide, by decide⟩
theorem fitA : Fits ms0 sA := ⟨sA_right, Or.inl rfl⟩
theorem fitB : Fits sA sB := ⟨sB_right, Or.inr rfl⟩
theorem fitC : ¬ Fits sB sC := fun h => by
  rcases h.2 with h | h
  · exact absurd h (by decide)
  · exact absurd h (by decide)
theorem row2_at (w : World) (a b : Int) : IntsAt (w.alloc (.cells #[.int .i64 a, .int .i64 b] 3)) (.slice (some ⟨w.heap.size, 0, none⟩) 2 2) [a, b] :=
  ownsRow_srcs (row_built w #[.int .i64 a, .int .i64 b] 3 (show (2 : Nat) ≤ maxLen by unfold maxLen; decide)) (one_i64 [a, b])
theorem row1_at (w : World) (a : Int) : IntsAt (w.alloc (.cells #[.int .i64 a] 3)) (.slice (some ⟨w.heap.size, 0, none⟩) 1 1) [a] :=
  ownsRow_srcs (row_built w #[.int .i64 a] 3 (show (1 : Nat) ≤ maxLen by unfold maxLen; decide)) (one_i64 [a])
theorem row0_at (w : World) : IntsAt w (.slice none 0 0) [] := Or.inl ⟨rfl, rfl, rfl⟩

set_option maxRecDepth 100000 in
set_option maxHeartbeats 2000000 in
theorem alive11_any (w : World) : Calls Try.prog 34 #[] w (IsB w true) := by
  have Hnew := Lib.hid (new_any 500 w)
  go_enter Try.func34, Try.ntmps34
  go_wp2_with fail
  refine Hnew.out.mono ?_
  rintro e w1 hp
  rcases hp with ⟨h, -, -⟩ | ⟨-, -, F, d, rfl, hd1, hF, hb1⟩
  · omega
  have hm1 : DM w w1 d F [] ms0 500 := dm_new (by decide) hd1 hF hb1
  have hs1 := dm_save (hm1.step ((Below.refl _ w1).alloc (Nat.le_refl _) (.cells #[.int .i64 2, .int .i64 1] 3))) sA _ (row2_at w1 2 1) (by decide) (fun _ => by decide)
  have Hs1 := Lib.hid hs1
  unfold msV sA at Hs1
  clear hs1 hd1 hF hb1 hm1 Hnew
  go_wp2_with fail
  refine Hs1.out.mono ?_
  rintro e w2 hp
  rcases hp with ⟨-, rfl, F2, xs2, hm2, -, hx2, -⟩ | ⟨hno, -⟩
  · have hm2 : DM w w2 d F2 xs2 sA 500 := hm2
    have hs2 := dm_save (hm2.step ((Below.refl _ w2).alloc (Nat.le_refl _) (.cells #[.int .i64 3] 3))) sB _ (row1_at w2 3) (by decide) (fun _ => by
      simp at hx2
      simp [sB]; omega)
    have Hs2 := Lib.hid hs2
    unfold msV sB at Hs2
    have hx2' : xs2.length ≤ 61 := by simpa using hx2
    clear hs2 hm2 hx2
    go_wp2_with fail
    refine Hs2.out.mono ?_
    rintro e w3 hp
    rcases hp with ⟨-, rfl, F3, xs3, hm3, -, hx3, -⟩ | ⟨hno, -⟩
    · have hm3 : DM w w3 d F3 xs3 sB 500 := hm3
      have hs3 := dm_save hm3 sC _ (row0_at w3) (by decide) (fun _ => by
        simp at hx3
        simp [sC]; omega)
      have Hs3 := Lib.hid hs3
      unfold msV sC at Hs3
      clear hs3 hm3 hx3
      go_wp2_with fail
      refine Hs3.out.mono ?_
      rintro e w4 hp
      rcases hp with ⟨hno, -⟩ | ⟨-, rfl, F4, hm4, -⟩
      · exact absurd hno fitC
      · have Hc := Lib.hid (dm_crash hm4 0 (by decide) (by decide))
        clear hm4
        go_wp2_with fail
        refine Hc.out.mono ?_
        rintro e w5 ⟨rfl, F5, hm5, -⟩
        have Hl := Lib.hid (dm_load hm5)
        have Hm5 := Lib.hid hm5.below
        clear hm5
        go_wp2_with fail
        refine Hl.out.mono ?_
        rintro e w6 ⟨hb6, tv, rfl, hown⟩
        obtain ⟨A6, c6, rfl, -⟩ := ownsRow_slice hown
        have Hb6 := Lib.hid (Hm5.out.trans (hb6.mono Hm5.out.size))
        clear hb6 hown
        unfold msV sB
        go_wp2
        go_ret
        exact ⟨rfl, Hb6.out.alloc Hb6.out.size _⟩
    · exact absurd fitB hno
  · exact absurd fitA hno
end Go.Proofs.Ytkefciacdmbidaa
