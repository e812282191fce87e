/- swap: bytes take the place of a file's. SameInts, CopyInts: helpers of the references, at numbers. of, back, First: states there and back. back, First, Same: states there and back. same: are a state and the document's one alike? -/
import Derived.Test.YtkefciacdmbidaaGd
import Derived.Test.YtkefciacdmbidaaGe
import Derived.Lib.OwnBridge
import Derived.Laws.ResultCell
import Derived.Laws.Rows
import Derived.Test.YtkefciacdmbidaaGf
namespace Go.Proofs.Ytkefciacdmbidaa
open Go.RowKit Go.WideMaps Go.Maps

theorem Outside.upd {F F' : Nat → Prop} {w w' : World} {v : Value} {xs : List Int} (h : Outside F w v xs) (hu : Upd F F' w w') : Outside F' w' v xs := by
  refine ⟨h.same ⟨hu.os, hu.tape, hu.output, hu.size, fun k hk hF => hu.block k hk hF⟩, fun ad n c e h0 => ⟨fun hF => ?_, Nat.lt_of_lt_of_le (h.out ad n c e h0).2 hu.size⟩⟩
  · rcases hu.sub _ hF with h1 | h1
    · exact (h.out ad n c e h0).1 h1
    · have := (h.out ad n c e h0).2
      omega

def tilde (nm : ByteArray) : ByteArray := nm ++ { data := #[126] }

/-- swap on plain data -/
def SwapRel (S : SD) (nm : List UInt8) (xs : List Int) (n : Int) (S' : SD) : Prop :=
  ∃ i, (∀ p ∈ (S.remove (nm ++ [126])).files, p.2.id ≠ i) ∧
    (((S.remove (nm ++ [126])).werr (nm ++ [126]) xs.length ≠ 0 ∧ n = (S.remove (nm ++ [126])).werr (nm ++ [126]) xs.length ∧ S' = S.remove (nm ++ [126])) ∨
     ((S.remove (nm ++ [126])).werr (nm ++ [126]) xs.length = 0 ∧ (n, S') = ((((S.remove (nm ++ [126])).write i (nm ++ [126]) xs).sync (nm ++ [126])).rename (nm ++ [126]) nm)))
def SwapPost (F : Nat → Prop) (w : World) (d : Nat) (S : SD) (nm : List UInt8) (xs : List Int) (e : Ending) (w' : World) : Prop :=
  ∃ n S' F', e = .returned (.int .i64 n) ∧ SwapRel S nm xs n S' ∧ DiskAt F' w' d S' ∧ Upd F F' w w'

theorem remove_lens (S : SD) (nm : List UInt8) (h1 : S.loose.length ≤ 1000000) (h2 : S.files.length ≤ 1000000) : (S.remove nm).loose.length ≤ 1000000 ∧ (S.remove nm).files.length ≤ 1000000 := by
  unfold SD.remove
  split
  · exact ⟨h1, h2⟩
  · exact ⟨Nat.le_trans (List.length_filter_le _ _) h1, Nat.le_trans (List.length_filter_le _ _) h2⟩
theorem write_lens (S : SD) (i : Nat) (nm : List UInt8) (xs : List Int) (h1 : S.loose.length ≤ 1000000) (h2 : S.files.length ≤ 1000000) : (S.write i nm xs).loose.length ≤ 1000001 ∧ (S.write i nm xs).files.length ≤ 1000001 := by
  unfold SD.write
  split
  · refine ⟨by simp; omega, ?_⟩
    simp only [updF, List.length_map]
    omega
  · refine ⟨by simp; omega, ?_⟩
    have := sins_length (nm, (⟨i, xs, 0, false⟩ : SF)) (ers nm S.files)
    have h3 : (ers nm S.files).length ≤ S.files.length := List.length_filter_le _ _
    simp only
    omega
theorem sync_lens (S : SD) (nm : List UInt8) (h1 : S.loose.length ≤ 1000001) (h2 : S.files.length ≤ 1000001) : (S.sync nm).loose.length ≤ 1000001 ∧ (S.sync nm).files.length ≤ 1000001 := by
  unfold SD.sync
  split
  · exact ⟨h1, h2⟩
  · refine ⟨Nat.le_trans (List.length_filter_le _ _) h1, ?_⟩
    simp only [updF, List.length_map]
    exact h2

theorem tilde_list (nm : ByteArray) : (tilde nm).data.toList = nm.data.toList ++ [126] := by
  unfold tilde
  simp

set_option maxRecDepth 100000 in
set_option maxHeartbeats 1000000 in
theorem swap_any {F : Nat → Prop} {d : Nat} {S : SD} {w : World} (hd : DiskAt F w d S) (hok : S.Ok) (nm : ByteArray) (hn : nm.size ≤ 1000000) (v : Value) (xs : List Int) (hv : Outside F w v xs)
    (h1 : S.loose.length ≤ 1000000) (h2 : S.files.length ≤ 1000000) : Calls Try.prog 76 #[.pointer (some ⟨d, 0, none⟩), .string nm, v] w (SwapPost F w d S nm.data.toList xs) := by
  have htl := tilde_list nm
  have hts : (tilde nm).size ≤ maxLen := by
    have : (tilde nm).size = nm.size + 1 := by unfold tilde; rw [ByteArray.size_append]; rfl
    unfold maxLen; omega
  have hr := remove_any hd hok (by omega) (tilde nm) hts
  rw [htl] at hr
  have hl1 := remove_lens S (nm.data.toList ++ [126]) h1 h2
  have hok1 := remove_ok hok (nm.data.toList ++ [126])
  obtain ⟨S1, hS1⟩ : ∃ S1, S1 = S.remove (nm.data.toList ++ [126]) := ⟨_, rfl⟩
  rw [← hS1] at hr hl1 hok1
  have Hr := Lib.hid hr
  have Hl1 := Lib.hid hl1
  have Hok1 := Lib.hid hok1
  have HS1 := Lib.hid hS1
  have Hts := Lib.hid hts
  have Htl := Lib.hid htl
  have Hv := Lib.hid hv
  have hnm : nm.size + 1 ≤ maxLen := by unfold maxLen; omega
  have Hn : Hid (nm.size ≤ maxLen) := Lib.hid (by unfold maxLen; omega)
  clear hr hl1 hok1 hS1 hts htl hv hd hok h1 h2
  unfold tilde at Hr
  go_enter Try.func76, Try.ntmps76
  go_wp2_with fail
  refine Hr.out.mono ?_
  rintro e w1 ⟨rfl, F1, hd1, hu1⟩
  have hv1 := Hv.out.upd hu1
  have hw := write_any hd1 Hok1.out (tilde nm) Hts.out v xs hv1 (by have := Hl1.out; omega) (by have := Hl1.out; omega)
  rw [Htl.out] at hw
  unfold tilde at hw
  have Hw := Lib.hid hw
  have Hu1 := Lib.hid hu1
  have Hd1 := Lib.hid hd1
  clear hw hu1 hd1 hv1
  go_wp2_with fail
  refine Hw.out.mono ?_
  rintro e w2 ⟨rfl, F2, i, hi, hd2, hu2⟩
  obtain ⟨n1, hn1⟩ : ∃ n1, n1 = S1.werr (nm.data.toList ++ [126]) xs.length := ⟨_, rfl⟩
  rw [← hn1] at hd2 ⊢
  have Hi := Lib.hid hi
  have Hn1 := Lib.hid hn1
  have Hu2 := Lib.hid hu2
  by_cases h0 : n1 = 0
  · have t0 : (n1 != 0) = false := by simp [h0]
    rw [if_pos h0] at hd2
    have hok2 := write_ok Hok1.out hi (nm := nm.data.toList ++ [126]) (xs := xs) (by rw [← hn1]; exact h0)
    have hl2 := write_lens S1 i (nm.data.toList ++ [126]) xs Hl1.out.1 Hl1.out.2
    have hs := sync_any hd2 hok2 (by omega) (tilde nm) Hts.out
    rw [Htl.out] at hs
    unfold tilde at hs
    have Hs := Lib.hid hs
    have Hok2 := Lib.hid hok2
    have Hl2 := Lib.hid hl2
    have H0 := Lib.hid h0
    clear hs hok2 hl2 h0 hd2 hi hn1 hu2
    go_wp2_with fail
    refine Hs.out.mono ?_
    rintro e w3 ⟨rfl, F3, hd3, hu3⟩
    have hl3 := sync_lens _ (nm.data.toList ++ [126]) Hl2.out.1 Hl2.out.2
    have hr3 := rename_any hd3 (sync_ok Hok2.out _) (by omega) (by omega) (tilde nm) nm Hts.out Hn.out
    rw [Htl.out] at hr3
    unfold tilde at hr3
    have Hr3 := Lib.hid hr3
    have Hu3 := Lib.hid hu3
    clear hr3 hu3 hd3 hl3
    go_wp2_with fail
    refine Hr3.out.mono ?_
    rintro e w4 ⟨rfl, F4, hd4, hu4⟩
    have Hd4 := Lib.hid hd4
    have Hu4 := Lib.hid hu4
    clear hd4 hu4
    go_wp2
    go_ret
    refine ⟨_, _, F4, rfl, ⟨i, by rw [← HS1.out]; exact Hi.out, Or.inr ⟨by rw [← HS1.out, ← Hn1.out]; exact H0.out, ?_⟩⟩, Hd4.out, ((Hu1.out.trans Hu2.out).trans Hu3.out).trans Hu4.out⟩
    rw [← HS1.out]
  · have t0 : (n1 != 0) = true := by simp [h0]
    rw [if_neg h0] at hd2
    have Hd2 := Lib.hid hd2
    have H0 := Lib.hid h0
    clear h0 hd2 hi hn1 hu2
    go_wp2
    go_ret
    refine ⟨_, _, F2, rfl, ⟨i, by rw [← HS1.out]; exact Hi.out, Or.inl ⟨by rw [← HS1.out, ← Hn1.out]; exact H0.out, by rw [← HS1.out]; exact Hn1.out, HS1.out⟩⟩, Hd2.out, Hu1.out.trans Hu2.out⟩
end Go.Proofs.Ytkefciacdmbidaa

namespace Go.Proofs.Ytkefciacdmbidaa
open Go.RowKit Go.WideMaps Go.Maps

theorem sameInts_any (w : World) (va vb : Value) (xs ys : List Int) (ha : IntsAt w va xs) (hb : IntsAt w vb ys) (hx : xs.length ≤ 17592186044416) (hy : ys.length ≤ 17592186044416) :
    Calls Try.prog 88 #[va, vb] w (IsB w (decide (xs = ys))) := by
  obtain ⟨A, ca, rfl, hca, hA⟩ := srcs_at ha
  obtain ⟨B, cb, rfl, hcb, hB⟩ := srcs_at hb
  have HA := Lib.hid hA
  have HB := Lib.hid hB
  clear ha hb hA hB
  by_cases hl : xs.length = ys.length
  · have hne : (((xs.length : Nat) : Int) != ((ys.length : Nat) : Int)) = false := by simp [hl]
    have Hl := Lib.hid hl
    clear hl
    go_enter Try.func88, Try.ntmps88
    go_wp2_with fail
    go_loopw [5] (fun i wr => ∃ k : Nat, k ≤ xs.length ∧ i = .int .i64 k ∧ xs.take k = ys.take k ∧ Below w.heap.size w wr) (fun i _ => xs.length - (intOf i).toNat)
    case atStart => exact ⟨0, Nat.zero_le _, rfl, rfl, Below.refl _ _⟩
    case round =>
      obtain ⟨k, hk, rfl, heq, hnx⟩ := hrel
      by_cases hlt : k < xs.length
      · have hlt2 : k < ys.length := by have := Hl.out; omega
        obtain ⟨b1, o1, rfl, hb1, hc1⟩ := HA.out (by omega)
        obtain ⟨b2, o2, rfl, hb2, hc2⟩ := HB.out (by omega)
        have d1 : wr.cell? ⟨b1, o1 + k, none⟩ = some (.int .i64 xs[k]) := by
          rw [hnx.cell (p := ⟨b1, o1 + k, none⟩) hb1]
          exact hc1 k _ (by simp [hlt])
        have d2 : wr.cell? ⟨b2, o2 + k, none⟩ = some (.int .i64 ys[k]) := by
          rw [hnx.cell (p := ⟨b2, o2 + k, none⟩) hb2]
          exact hc2 k _ (by simp [hlt2])
        have hst := take_eq_step hlt hlt2 heq
        obtain ⟨x, hx⟩ : ∃ x, xs[k] = x := ⟨_, rfl⟩
        obtain ⟨y, hy⟩ : ∃ y, ys[k] = y := ⟨_, rfl⟩
        rw [hx] at d1 hst
        rw [hy] at d2 hst
        have Hst := Lib.hid hst
        have Hnx := Lib.hid hnx
        clear hst hx hy hc1 hc2 heq hnx
        by_cases hxy : x = y
        · have ht : (x != y) = false := by simp [hxy]
          have Hxy := Lib.hid hxy
          clear hxy
          go_wp2
          go_region
          go_wp2
          exact ⟨⟨k + 1, by omega, by go_num, Hst.out.2 Hxy.out, Hnx.out.drew⟩, by simp [intOf]; omega⟩
        · have ht : (x != y) = true := by simp [hxy]
          have Hxy := Lib.hid hxy
          clear hxy
          go_wp2
          go_region
          go_wp2
          go_ret
          exact ⟨ret_bool (by
            have : xs ≠ ys := fun e => Hxy.out (Hst.out.1 (by rw [e]))
            simp [this]), Hnx.out.drew⟩
      · go_wp2
        go_ret
        have hk1 : k = xs.length := by omega
        refine ⟨ret_bool ?_, hnx⟩
        rw [hk1, List.take_length, Hl.out, List.take_length] at heq
        simp [heq]
  · have hne : (((xs.length : Nat) : Int) != ((ys.length : Nat) : Int)) = true := by simp; omega
    have Hl := Lib.hid hl
    clear hl
    go_enter Try.func88, Try.ntmps88
    go_wp2
    go_ret
    exact ⟨ret_bool (by
      have : xs ≠ ys := fun e => Hl.out (by rw [e])
      simp [this]), Below.refl _ _⟩

set_option maxHeartbeats 1000000 in
theorem copyInts_any (w : World) (v : Value) (xs : List Int) (h : IntsAt w v xs) (hn : xs.length * 8 ≤ 140737488355328) : Calls Try.prog 61 #[v] w (NewRow w 3 1 xs.length (xs.map (Value.int .i64))) := by
  obtain ⟨A, c, rfl, -⟩ := Srcs.slice h
  have H := Lib.hid h
  clear h
  go_enter Try.func61, Try.ntmps61
  go_wp2_with (first | (at_builtin; refine wpList_app _ rfl _ _ 57 rfl 3 1 8 _ Try.underlying57 info3 rfl (by decide) _ 0 [] rfl ?hrow _ xs.length (xs.map (Value.int .i64)) rfl ?hsrc ?h63 ?hby ?_))
  case hrow => exact ownsRow_base0 (Buf.made 3 1 (Below.refl w.heap.size w)).own
  case hsrc => exact H.out.alloc _
  case h63 => unfold maxLen; omega
  case hby => omega
  intro o' w' ha
  have hb := (Buf.made 3 1 (Below.refl w.heap.size w)).app (Below.refl _ _) ha
  obtain ⟨A', c', rfl⟩ := hb.slice
  have Hb := Lib.hid hb
  clear hb ha
  go_wp2
  go_ret
  have := Hb.out.newRow
  rw [Nat.zero_add, List.nil_append] at this
  rw [Nat.zero_add]
  exact this
end Go.Proofs.Ytkefciacdmbidaa

namespace Go.Proofs.Ytkefciacdmbidaa
open Go.RowKit Go.WideMaps Go.Maps

theorem info61 : (Try.prog.info? 61).map (fun i => i.size) = some 4 := by kernel_rfl
theorem res2 {fn : Func} {p u : Tmp} (h : fn.results = #[.cell p 61, .tmp u]) (tmps : Array Value) (w : World) (g : Nat) (a b c d : Value) (fr : Nat × Nat)
    (hp : tmps.getD p undef = .pointer (some ⟨g, 0, none⟩)) (hg : w.heap[g]? = some (.cells #[a, b, c, d] 61 fr)) :
    (results fn tmps).run Try.prog w = .ok (.tuple #[.agg #[a, b, c, d], tmps.getD u undef]) w := by
  rw [results_cell_tmp h, hp]
  simp [asAddr, run_loadVar_row w g 61 61 #[a, b, c, d] fr _ hg Try.underlying61 rfl info61, Result.andThen]
theorem set4 {w : World} {g : Nat} {a b c d : Value} {t : TypeId} (h : w.heap[g]? = some (.cells #[a, b, c, d] t (0, 0))) (a' b' c' d' : Value) :
    ((((w.setCell ⟨g, 0, none⟩ a').setCell ⟨g, 1, none⟩ b').setCell ⟨g, 2, none⟩ c').setCell ⟨g, 3, none⟩ d').heap[g]? = some (.cells #[a', b', c', d'] t (0, 0)) := by
  rw [setCell_same (setCell_same (setCell_same (setCell_same h)))]
  rfl
theorem set4_other {w : World} {g k : Nat} (h : g ≠ k) (a' b' c' d' : Value) :
    ((((w.setCell ⟨g, 0, none⟩ a').setCell ⟨g, 1, none⟩ b').setCell ⟨g, 2, none⟩ c').setCell ⟨g, 3, none⟩ d').heap[k]? = w.heap[k]? :=
  (Below.heap_setCell _ _ _ _ (by intro e; exact h (by rw [e]))).trans ((Below.heap_setCell _ _ _ _ (by intro e; exact h (by rw [e]))).trans ((Below.heap_setCell _ _ _ _ (by intro e; exact h (by rw [e]))).trans (Below.heap_setCell _ _ _ _ (by intro e; exact h (by rw [e])))))
theorem below_set4 {B g : Nat} {w0 w : World} (h : Below B w0 w) (hg : B ≤ g) (a' b' c' d' : Value) : Below B w0 ((((w.setCell ⟨g, 0, none⟩ a').setCell ⟨g, 1, none⟩ b').setCell ⟨g, 2, none⟩ c').setCell ⟨g, 3, none⟩ d') :=
  (((h.setCell (p := ⟨g, 0, none⟩) hg a').setCell (p := ⟨g, 1, none⟩) hg b').setCell (p := ⟨g, 2, none⟩) hg c').setCell (p := ⟨g, 3, none⟩) hg d'


theorem results_cell_tmp2 {fn : Func} {p u q : Tmp} {ty : TypeId} (h : fn.results = #[.cell p ty, .tmp u, .tmp q]) (tmps : Array Value) (P : Program) (w : World) :
    (results fn tmps).run P w =
      ((asAddr (tmps.getD p undef)).run P w).andThen fun a w₁ => ((loadVar ty a).run P w₁).andThen fun v w₂ => .ok (.tuple #[v, tmps.getD u undef, tmps.getD q undef]) w₂ := by
  simp only [results, h]
  simp [Sem.run_bind, Result.andThen]
theorem res3 {fn : Func} {p u q : Tmp} (h : fn.results = #[.cell p 61, .tmp u, .tmp q]) (tmps : Array Value) (w : World) (g : Nat) (a b c d : Value) (fr : Nat × Nat)
    (hp : tmps.getD p undef = .pointer (some ⟨g, 0, none⟩)) (hg : w.heap[g]? = some (.cells #[a, b, c, d] 61 fr)) :
    (results fn tmps).run Try.prog w = .ok (.tuple #[.agg #[a, b, c, d], tmps.getD u undef, tmps.getD q undef]) w := by
  rw [results_cell_tmp2 h, hp]
  simp [asAddr, run_loadVar_row w g 61 61 #[a, b, c, d] fr _ hg Try.underlying61 rfl info61, Result.andThen]


theorem info59 : (Try.prog.info? 59).map (fun i => i.size) = some 4 := by kernel_rfl
def StPost (w : World) (tables : List Int) (f : Value → Value) (e : Ending) (w' : World) : Prop :=
  ∃ tv, e = .returned (f tv) ∧ w'.ownsRow w.heap.size 3 1 tv tables.length (tables.map (Value.int .i64)) ∧ Below w.heap.size w w'
def stV (g a n : Int) (tv : Value) : Value := .agg #[.int .i64 g, .int .i64 a, .int .i64 n, tv]

set_option maxRecDepth 100000 in
set_option maxHeartbeats 1000000 in
theorem of_any (w : World) (g a n : Int) (tables : List Int) (tv : Value) (h : IntsAt w tv tables) (hn : tables.length * 8 ≤ 140737488355328) : Calls Try.prog 36 #[stV g a n tv] w (StPost w tables (stV g a n)) := by
  obtain ⟨A, c, rfl, -⟩ := Srcs.slice h
  obtain ⟨wb, hwb⟩ : ∃ wb, wb = (w.alloc (.cells #[.int .i64 g, .int .i64 a, .int .i64 n, .slice A tables.length c] 59)).alloc (.cells #[.int .i64 0, .int .i64 0, .int .i64 0, .slice none 0 0] 61) := ⟨_, rfl⟩
  have hb0 : Below w.heap.size w wb := by rw [hwb]; exact ((Below.refl _ _).alloc (Nat.le_refl _) _).alloc (by simp) _
  have hsz : wb.heap.size = w.heap.size + 2 := by rw [hwb]; simp
  have hk0 : wb.heap[w.heap.size]? = some (.cells #[.int .i64 g, .int .i64 a, .int .i64 n, .slice A tables.length c] 59 (0, 0)) := by
    rw [hwb, Below.heap_alloc _ _ _ (by simp)]
    exact heap_alloc_new w _
  have hk1 : wb.heap[w.heap.size + 1]? = some (.cells #[.int .i64 0, .int .i64 0, .int .i64 0, .slice none 0 0] 61 (0, 0)) := by
    have := heap_alloc_new (w.alloc (.cells #[.int .i64 g, .int .i64 a, .int .i64 n, .slice A tables.length c] 59)) (.cells #[.int .i64 0, .int .i64 0, .int .i64 0, .slice none 0 0] 61)
    rw [hwb]
    simpa using this
  have c0 : wb.cell? ⟨w.heap.size, 0, none⟩ = some (.int .i64 g) := by rw [cell_of hk0]; rfl
  have c1 : wb.cell? ⟨w.heap.size, 1, none⟩ = some (.int .i64 a) := by rw [cell_of hk0]; rfl
  have c2 : wb.cell? ⟨w.heap.size, 2, none⟩ = some (.int .i64 n) := by rw [cell_of hk0]; rfl
  have c3 : wb.cell? ⟨w.heap.size, 3, none⟩ = some (.slice A tables.length c) := by rw [cell_of hk0]; rfl
  have hcp := copyInts_any wb.drew _ _ (srcs_below h (show Below w.heap.size w wb.drew from hb0.drew)) hn
  have hold : ∀ w4 : World, Below wb.heap.size wb w4 → (w4.cell? ⟨w.heap.size, 0, none⟩ = some (.int .i64 g) ∧ w4.cell? ⟨w.heap.size, 1, none⟩ = some (.int .i64 a) ∧ w4.cell? ⟨w.heap.size, 2, none⟩ = some (.int .i64 n) ∧ w4.cell? ⟨w.heap.size, 3, none⟩ = some (.slice A tables.length c)) ∧ w4.heap[w.heap.size + 1]? = some (.cells #[.int .i64 0, .int .i64 0, .int .i64 0, .slice none 0 0] 61 (0, 0)) := fun w4 hb => by
    have h0 := (hb.block w.heap.size (by omega)).trans hk0
    exact ⟨⟨by rw [cell_of h0]; rfl, by rw [cell_of h0]; rfl, by rw [cell_of h0]; rfl, by rw [cell_of h0]; rfl⟩, (hb.block (w.heap.size + 1) (by omega)).trans hk1⟩
  have Hb0 := Lib.hid hb0
  have Hcp := Lib.hid hcp
  have Hold := Lib.hid hold
  clear hb0 hcp hold hk0 hk1 hsz h
  unfold stV
  go_enter Try.func36, Try.ntmps36
  go_wp2_with fail
  rw [← hwb]
  clear hwb
  go_region_held3 (fun w' => w'.cell? ⟨w.heap.size, 0, none⟩ = some (.int .i64 g) ∧ w'.cell? ⟨w.heap.size, 1, none⟩ = some (.int .i64 a) ∧ w'.cell? ⟨w.heap.size, 2, none⟩ = some (.int .i64 n) ∧ w'.cell? ⟨w.heap.size, 3, none⟩ = some (.slice A tables.length c)) ((first | exact ⟨c0, c1, c2, c3⟩ | exact hk.1 | go_keep)) ((first | (go_at_call 61; show Calls _ _ _ wb.drew _; refine Hcp.out.mono ?_; rintro e w4 ⟨v4, rfl, hown4, hb4⟩; obtain ⟨A4, c4, rfl, -⟩ := ownsRow_slice hown4; have hk := Hold.out w4 (below_undrew hb4); have z0 : w4.cell? ⟨w.heap.size + 1, 0, none⟩ = some (.int .i64 0) := (cell_of hk.2 _).trans rfl; have z1 : w4.cell? ⟨w.heap.size + 1, 1, none⟩ = some (.int .i64 0) := (cell_of hk.2 _).trans rfl; have z2 : w4.cell? ⟨w.heap.size + 1, 2, none⟩ = some (.int .i64 0) := (cell_of hk.2 _).trans rfl; have z3 : w4.cell? ⟨w.heap.size + 1, 3, none⟩ = some (.slice none 0 0) := (cell_of hk.2 _).trans rfl; have y0 := free_of hk.2 0; have y1 := free_of hk.2 1; have y2 := free_of hk.2 2; have y3 := free_of hk.2 3; have Hown4 := Lib.hid hown4; have Hb4 := Lib.hid hb4; clear hown4 hb4)))
  go_wp2
  refine bodyPost_ret (results_cell_row rfl _ _ (w.heap.size + 1) 61 _ (0, 0) _ rfl (set4 hk.2 _ _ _ _) Try.underlying61 rfl info61) rfl ?_
  have hb : Below w.heap.size w w4 := Hb0.out.trans ((below_undrew Hb4.out).mono Hb0.out.size)
  have hg : wb.heap.size ≤ w4.heap.size := (below_undrew Hb4.out).size
  refine ⟨_, rfl, ?_, below_set4 hb (Nat.le_succ _) _ _ _ _⟩
  refine ownsRow_rebase (ownsRow_block Hown4.out fun k hk' => ?_) fun k hk' => ?_
  · have h1 := (Hown4.out.lt k hk').1
    have h2 : w.heap.size + 1 ≠ k := by
      have : wb.drew.heap.size = wb.heap.size := rfl
      have := (Array.getElem?_eq_some_iff.1 (Hold.out wb (Below.refl _ _)).2).1
      omega
    exact set4_other h2 _ _ _ _
  · have h1 := (Hown4.out.lt k hk').1
    exact Nat.le_trans Hb0.out.size h1
end Go.Proofs.Ytkefciacdmbidaa

namespace Go.Proofs.Ytkefciacdmbidaa
open Go.RowKit Go.WideMaps Go.Maps

theorem drewN_below {w w' : World} {q : Nat} {B : Nat} (h : w' = w.drewN q) : Below B w w' := by rw [h]; exact ⟨rfl, rfl, rfl, Nat.le_refl _, fun _ _ => rfl⟩

theorem equalI_any (w : World) (va vb : Value) (xs ys : List Int) (ha : IntsAt w va xs) (hb : IntsAt w vb ys) (hx : xs.length ≤ 17592186044416) (hy : ys.length ≤ 17592186044416) :
    Calls Try.prog 87 #[va, vb] w (IsB w (decide (xs = ys))) := by
  obtain ⟨A, ca, rfl, hca, hA⟩ := srcs_at ha
  obtain ⟨B, cb, rfl, hcb, hB⟩ := srcs_at hb
  by_cases hl : xs.length = ys.length
  · by_cases h0 : ys.length = 0
    · have h1 : xs = [] := List.length_eq_zero_iff.1 (by omega)
      have h2 : ys = [] := List.length_eq_zero_iff.1 h0
      subst h1 h2
      exact (Try.slices_Equal_int_empty A B ca 0 cb w (by omega)).mono fun e w' ⟨he, hw⟩ => ⟨by rw [he]; rfl, by rw [hw]; exact Below.refl _ _⟩
    · obtain ⟨b1, o1, rfl, hb1, hc1⟩ := hA (by omega)
      obtain ⟨b2, o2, rfl, hb2, hc2⟩ := hB (by omega)
      refine (Try.slices_Equal_int b1 o1 xs.length ca b2 o2 ys.length cb xs ys w (Nat.le_refl _) (Nat.le_refl _) (by omega) (by omega) (fun j hj => hc1 j _ (by simp [hj])) (fun j hj => hc2 j _ (by simp [hj]))).mono fun e w' ⟨he, q, hw⟩ => ⟨?_, drewN_below hw⟩
      rw [he, List.take_length, List.take_length]
      by_cases e : xs = ys <;> simp [e]
  · exact (Try.slices_Equal_int_lens A B xs.length ca ys.length cb w hl).mono fun e w' ⟨he, hw⟩ => ⟨by
      have : xs ≠ ys := fun e => hl (by rw [e])
      rw [he]; simp [this], by rw [hw]; exact Below.refl _ _⟩

def AggPost (w : World) (v : Value) (e : Ending) (w' : World) : Prop := e = .returned v ∧ Below w.heap.size w w'

set_option maxRecDepth 100000 in
set_option maxHeartbeats 1000000 in
theorem back_any (w : World) (g a n : Int) (A : Option Addr) (m c : Nat) : Calls Try.prog 72 #[stV g a n (.slice A m c)] w (AggPost w (stV g a n (.slice A m c))) := by
  unfold stV
  go_enter Try.func72, Try.ntmps72
  go_wp2
  have hh := heap_alloc_new (w.alloc (.cells #[.int .i64 g, .int .i64 a, .int .i64 n, .slice A m c] 61)) (.cells #[.int .i64 g, .int .i64 a, .int .i64 n, .slice A m c] 59)
  refine bodyPost_ret (results_cell_row rfl _ _ (w.heap.size + 1) 59 #[.int .i64 g, .int .i64 a, .int .i64 n, .slice A m c] (0, 0) _ rfl (by simpa using hh) Try.underlying59 rfl info59) rfl ?_
  exact ⟨rfl, ((Below.refl _ _).alloc (Nat.le_refl _) _).alloc (by simp) _⟩

set_option maxRecDepth 100000 in
set_option maxHeartbeats 1000000 in
theorem first_any (w : World) : Calls Try.prog 48 #[] w (AggPost w (stV 0 0 1 (.slice none 0 0))) := by
  unfold stV
  go_enter Try.func48, Try.ntmps48
  go_wp2
  refine bodyPost_ret (results_cell_row rfl _ _ w.heap.size 59 _ (0, 0) _ rfl (heap_alloc_new w _) Try.underlying59 rfl info59) rfl ?_
  exact ⟨rfl, (Below.refl _ _).alloc (Nat.le_refl _) _⟩

/-- two states have the same numbers -/
def sameSt (g a n : Int) (xs : List Int) (g' a' n' : Int) (ys : List Int) : Bool := decide (g = g' ∧ a = a' ∧ n = n' ∧ xs = ys)

set_option maxRecDepth 100000 in
set_option maxHeartbeats 1000000 in
theorem msame_any (w : World) (g a n g' a' n' : Int) (tv tv' : Value) (xs ys : List Int) (h : IntsAt w tv xs) (h' : IntsAt w tv' ys) (hx : xs.length ≤ 17592186044416) (hy : ys.length ≤ 17592186044416) :
    Calls Try.prog 70 #[stV g a n tv, stV g' a' n' tv'] w (IsB w (sameSt g a n xs g' a' n' ys)) := by
  obtain ⟨A, c, rfl, -⟩ := Srcs.slice h
  obtain ⟨B, d, rfl, -⟩ := Srcs.slice h'
  have hb0 : Below w.heap.size w ((w.alloc (.cells #[.int .i64 g, .int .i64 a, .int .i64 n, .slice A xs.length c] 61)).alloc (.cells #[.int .i64 g', .int .i64 a', .int .i64 n', .slice B ys.length d] 61)) := ((Below.refl _ _).alloc (Nat.le_refl _) _).alloc (by simp) _
  have hEq := equalI_any _ _ _ xs ys (srcs_below h hb0) (srcs_below h' hb0) hx hy
  have HEq := Lib.hid hEq
  have Hb0 := Lib.hid hb0
  clear hEq hb0 h h'
  unfold stV
  by_cases h1 : g = g'
  · have t1 : (g == g') = true := by simp [h1]
    have H1 := Lib.hid h1
    clear h1
    by_cases h2 : a = a'
    · have t2 : (a == a') = true := by simp [h2]
      have H2 := Lib.hid h2
      clear h2
      by_cases h3 : n = n'
      · have t3 : (n == n') = true := by simp [h3]
        have H3 := Lib.hid h3
        clear h3
        go_enter Try.func70, Try.ntmps70
        go_wp2_with fail
        refine HEq.out.mono ?_
        rintro e w1 ⟨rfl, hb1⟩
        have Hb1 := Lib.hid hb1
        clear hb1
        go_wp2
        go_ret
        refine ⟨ret_bool ?_, Hb0.out.trans (Hb1.out.mono Hb0.out.size)⟩
        unfold sameSt
        have := H1.out; have := H2.out; have := H3.out
        by_cases e : xs = ys <;> simp [*]
      · have t3 : (n == n') = false := by simp [h3]
        have H3 := Lib.hid h3
        clear h3
        go_enter Try.func70, Try.ntmps70
        go_wp2
        go_ret
        exact ⟨ret_bool (by unfold sameSt; rw [decide_eq_false fun e => H3.out e.2.2.1]), Hb0.out⟩
    · have t2 : (a == a') = false := by simp [h2]
      have H2 := Lib.hid h2
      clear h2
      go_enter Try.func70, Try.ntmps70
      go_wp2
      go_ret
      exact ⟨ret_bool (by unfold sameSt; rw [decide_eq_false fun e => H2.out e.2.1]), Hb0.out⟩
  · have t1 : (g == g') = false := by simp [h1]
    have H1 := Lib.hid h1
    clear h1
    go_enter Try.func70, Try.ntmps70
    go_wp2
    go_ret
    exact ⟨ret_bool (by unfold sameSt; rw [decide_eq_false fun e => H1.out e.1]), Hb0.out⟩

set_option maxRecDepth 100000 in
set_option maxHeartbeats 1000000 in
theorem rsame_any (w : World) (g a n g' a' n' : Int) (tv tv' : Value) (xs ys : List Int) (h : IntsAt w tv xs) (h' : IntsAt w tv' ys) (hx : xs.length ≤ 17592186044416) (hy : ys.length ≤ 17592186044416) :
    Calls Try.prog 71 #[stV g a n tv, stV g' a' n' tv'] w (IsB w (sameSt g a n xs g' a' n' ys)) := by
  obtain ⟨A, c, rfl, -⟩ := Srcs.slice h
  obtain ⟨B, d, rfl, -⟩ := Srcs.slice h'
  have hb0 : Below w.heap.size w ((w.alloc (.cells #[.int .i64 g, .int .i64 a, .int .i64 n, .slice A xs.length c] 59)).alloc (.cells #[.int .i64 g', .int .i64 a', .int .i64 n', .slice B ys.length d] 59)) := ((Below.refl _ _).alloc (Nat.le_refl _) _).alloc (by simp) _
  have hEq := sameInts_any _ _ _ xs ys (srcs_below h hb0) (srcs_below h' hb0) hx hy
  have HEq := Lib.hid hEq
  have Hb0 := Lib.hid hb0
  clear hEq hb0 h h'
  unfold stV
  by_cases h1 : g = g'
  · have t1 : (g == g') = true := by simp [h1]
    have H1 := Lib.hid h1
    clear h1
    by_cases h2 : a = a'
    · have t2 : (a == a') = true := by simp [h2]
      have H2 := Lib.hid h2
      clear h2
      by_cases h3 : n = n'
      · have t3 : (n == n') = true := by simp [h3]
        have H3 := Lib.hid h3
        clear h3
        go_enter Try.func71, Try.ntmps71
        go_wp2_with fail
        refine HEq.out.mono ?_
        rintro e w1 ⟨rfl, hb1⟩
        have Hb1 := Lib.hid hb1
        clear hb1
        go_wp2
        go_ret
        refine ⟨ret_bool ?_, Hb0.out.trans (Hb1.out.mono Hb0.out.size)⟩
        unfold sameSt
        have := H1.out; have := H2.out; have := H3.out
        by_cases e : xs = ys <;> simp [*]
      · have t3 : (n == n') = false := by simp [h3]
        have H3 := Lib.hid h3
        clear h3
        go_enter Try.func71, Try.ntmps71
        go_wp2
        go_ret
        exact ⟨ret_bool (by unfold sameSt; rw [decide_eq_false fun e => H3.out e.2.2.1]), Hb0.out⟩
    · have t2 : (a == a') = false := by simp [h2]
      have H2 := Lib.hid h2
      clear h2
      go_enter Try.func71, Try.ntmps71
      go_wp2
      go_ret
      exact ⟨ret_bool (by unfold sameSt; rw [decide_eq_false fun e => H2.out e.2.1]), Hb0.out⟩
  · have t1 : (g == g') = false := by simp [h1]
    have H1 := Lib.hid h1
    clear h1
    go_enter Try.func71, Try.ntmps71
    go_wp2
    go_ret
    exact ⟨ret_bool (by unfold sameSt; rw [decide_eq_false fun e => H1.out e.1]), Hb0.out⟩
end Go.Proofs.Ytkefciacdmbidaa

namespace Go.Proofs.Ytkefciacdmbidaa
open Go.RowKit Go.WideMaps Go.Maps

set_option maxRecDepth 100000 in
set_option maxHeartbeats 1000000 in
theorem same_true (w : World) (g a n g' a' n' : Int) (tv tv' : Value) (xs ys : List Int) (h : IntsAt w tv xs) (h' : IntsAt w tv' ys) (hx : xs.length ≤ 17592186044416) (hy : ys.length ≤ 17592186044416) (hs : sameSt g a n xs g' a' n' ys = true) :
    Calls Try.prog 44 #[stV g a n tv, stV g' a' n' tv'] w (IsB w true) := by
  obtain ⟨A, c, rfl, -⟩ := Srcs.slice h
  obtain ⟨B, d, rfl, -⟩ := Srcs.slice h'
  obtain ⟨wb, hwb⟩ : ∃ wb, wb = (w.alloc (.cells #[.int .i64 g, .int .i64 a, .int .i64 n, .slice A xs.length c] 61)).alloc (.cells #[.int .i64 g', .int .i64 a', .int .i64 n', .slice B ys.length d] 59) := ⟨_, rfl⟩
  have hb0 : Below w.heap.size w wb := by rw [hwb]; exact ((Below.refl _ _).alloc (Nat.le_refl _) _).alloc (by simp) _
  have hsz : wb.heap.size = w.heap.size + 2 := by rw [hwb]; simp
  have hk0 : wb.heap[w.heap.size]? = some (.cells #[.int .i64 g, .int .i64 a, .int .i64 n, .slice A xs.length c] 61 (0, 0)) := by
    rw [hwb, Below.heap_alloc _ _ _ (by simp)]
    exact heap_alloc_new w _
  have hk1 : wb.heap[w.heap.size + 1]? = some (.cells #[.int .i64 g', .int .i64 a', .int .i64 n', .slice B ys.length d] 59 (0, 0)) := by
    have := heap_alloc_new (w.alloc (.cells #[.int .i64 g, .int .i64 a, .int .i64 n, .slice A xs.length c] 61)) (.cells #[.int .i64 g', .int .i64 a', .int .i64 n', .slice B ys.length d] 59)
    rw [hwb]
    simpa using this
  have hold : ∀ w4 : World, Below wb.heap.size wb w4 →
      (w4.cell? ⟨w.heap.size, 0, none⟩ = some (.int .i64 g) ∧ w4.cell? ⟨w.heap.size, 1, none⟩ = some (.int .i64 a) ∧ w4.cell? ⟨w.heap.size, 2, none⟩ = some (.int .i64 n) ∧ w4.cell? ⟨w.heap.size, 3, none⟩ = some (.slice A xs.length c)) ∧
      (w4.cell? ⟨w.heap.size + 1, 0, none⟩ = some (.int .i64 g') ∧ w4.cell? ⟨w.heap.size + 1, 1, none⟩ = some (.int .i64 a') ∧ w4.cell? ⟨w.heap.size + 1, 2, none⟩ = some (.int .i64 n') ∧ w4.cell? ⟨w.heap.size + 1, 3, none⟩ = some (.slice B ys.length d)) := fun w4 hb => by
    have h0 := (hb.block w.heap.size (by omega)).trans hk0
    have h1 := (hb.block (w.heap.size + 1) (by omega)).trans hk1
    exact ⟨⟨(cell_of h0 _).trans rfl, (cell_of h0 _).trans rfl, (cell_of h0 _).trans rfl, (cell_of h0 _).trans rfl⟩, (cell_of h1 _).trans rfl, (cell_of h1 _).trans rfl, (cell_of h1 _).trans rfl, (cell_of h1 _).trans rfl⟩
  have c0 := hold wb (Below.refl _ _)
  have hA : ∀ w4 : World, Below wb.heap.size wb w4 → IntsAt w4 (.slice A xs.length c) xs := fun w4 hb => srcs_below h (hb0.trans (hb.mono hb0.size))
  have hB : ∀ w4 : World, Below wb.heap.size wb w4 → IntsAt w4 (.slice B ys.length d) ys := fun w4 hb => srcs_below h' (hb0.trans (hb.mono hb0.size))
  have h36 := of_any wb.drew g' a' n' ys _ (hB wb.drew (Below.refl _ _).drew) (by omega)
  have h72 := fun w5 => back_any w5 g a n A xs.length c
  have h70 : ∀ (w4 : World) (C : Option Addr) (q : Nat), Below wb.heap.size wb w4 → IntsAt w4 (.slice C ys.length q) ys → Calls Try.prog 70 #[stV g a n (.slice A xs.length c), stV g' a' n' (.slice C ys.length q)] w4 (IsB w4 true) := fun w4 C q hb hC => by
    rw [← hs]
    exact msame_any w4 g a n g' a' n' _ _ xs ys (hA w4 hb) hC hx hy
  have h71 : ∀ w4 : World, Below wb.heap.size wb w4 → Calls Try.prog 71 #[stV g a n (.slice A xs.length c), stV g' a' n' (.slice B ys.length d)] w4 (IsB w4 true) := fun w4 hb => by
    rw [← hs]
    exact rsame_any w4 g a n g' a' n' _ _ xs ys (hA w4 hb) (hB w4 hb) hx hy
  have H36 := Lib.hid h36
  have H70 := Lib.hid h70
  have H71 := Lib.hid h71
  have H72 := Lib.hid h72
  have Hold := Lib.hid hold
  have Hb0 := Lib.hid hb0
  clear h36 h70 h71 h72 hold hb0 hk0 hk1 hsz h h' hA hB hs
  unfold stV at H36 H70 H71 H72 ⊢
  go_enter Try.func44, Try.ntmps44
  go_wp2_with fail
  rw [← hwb]
  clear hwb
  go_region_held3 (fun w' => (w'.cell? ⟨w.heap.size, 0, none⟩ = some (.int .i64 g) ∧ w'.cell? ⟨w.heap.size, 1, none⟩ = some (.int .i64 a) ∧ w'.cell? ⟨w.heap.size, 2, none⟩ = some (.int .i64 n) ∧ w'.cell? ⟨w.heap.size, 3, none⟩ = some (.slice A xs.length c)) ∧
    (w'.cell? ⟨w.heap.size + 1, 0, none⟩ = some (.int .i64 g') ∧ w'.cell? ⟨w.heap.size + 1, 1, none⟩ = some (.int .i64 a') ∧ w'.cell? ⟨w.heap.size + 1, 2, none⟩ = some (.int .i64 n') ∧ w'.cell? ⟨w.heap.size + 1, 3, none⟩ = some (.slice B ys.length d)))
    ((first | exact c0 | exact k4 | exact k5 | exact k6 | exact k7 | go_keep))
    ((first | (go_at_call 36; show Calls _ _ _ wb.drew _; refine H36.out.mono ?_; rintro e w4 ⟨v4, rfl, hown4, hb4⟩; obtain ⟨A4, q4, rfl, -⟩ := ownsRow_slice hown4; have m4 := below_undrew hb4; have k4 := Hold.out w4 m4; have Hown4 := Lib.hid (ownsRow_srcs hown4 (one_i64 _)); have M4 := Lib.hid m4; clear hown4 hb4 m4)
            | (go_at_call 70; show Calls _ _ _ w4 _; refine (H70.out w4 A4 q4 M4.out Hown4.out).mono ?_; rintro e w5 ⟨rfl, hb5⟩; have m5 := M4.out.trans (hb5.mono M4.out.size); have k5 := Hold.out w5 m5; have M5 := Lib.hid m5; clear m5 hb5)
            | (go_at_call 72; show Calls _ _ _ w5 _; refine (H72.out w5).mono ?_; rintro e w6 ⟨rfl, hb6⟩; have m6 := M5.out.trans (hb6.mono M5.out.size); have k6 := Hold.out w6 m6; have M6 := Lib.hid m6; clear m6 hb6)
            | (go_at_call 71; show Calls _ _ _ w6 _; refine (H71.out w6 M6.out).mono ?_; rintro e w7 ⟨rfl, hb7⟩; have m7 := M6.out.trans (hb7.mono M6.out.size); have k7 := Hold.out w7 m7; have M7 := Lib.hid m7; clear m7 hb7)))
  go_wp2
  go_ret
  exact ⟨rfl, Hb0.out.trans (M7.out.mono Hb0.out.size)⟩
end Go.Proofs.Ytkefciacdmbidaa
