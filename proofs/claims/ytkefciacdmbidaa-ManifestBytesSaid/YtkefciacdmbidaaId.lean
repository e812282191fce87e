/- Decode, as the document says it. -/
import Derived.Test.YtkefciacdmbidaaIa
import Derived.Test.YtkefciacdmbidaaGg
namespace Go.Proofs.Ytkefciacdmbidaa
open Go.RowKit Go.WideMaps Go.Maps Go.Lib

def RDecPost (w : World) (d : Option MS) (e : Ending) (w' : World) : Prop :=
  Below w.heap.size w w' ∧ match d with
  | none => e = .returned (.tuple #[zeroMS, .bool false])
  | some s => ∃ A c, e = .returned (.tuple #[stV s.gen s.applied s.next (.slice A s.tables.length c), .bool true]) ∧ IntsAt w' (.slice A s.tables.length c) s.tables ∧ ∀ ad, A = some ad → 0 < s.tables.length → w.heap.size ≤ ad.block ∧ ad.block < w'.heap.size
theorem res2r {fn : Func} {p u : Tmp} (h : fn.results = #[.cell p 59, .tmp u]) (tmps : Array Value) (w : World) (g : Nat) (a b c d : Value) (fr : Nat × Nat)
    (hp : tmps.getD p undef = .pointer (some ⟨g, 0, none⟩)) (hg : w.heap[g]? = some (.cells #[a, b, c, d] 59 fr)) :
    (results fn tmps).run Try.prog w = .ok (.tuple #[.agg #[a, b, c, d], tmps.getD u undef]) w := by
  rw [results_cell_tmp h, hp]
  simp [asAddr, run_loadVar_row w g 59 59 #[a, b, c, d] fr _ hg Try.underlying59 rfl info59, Result.andThen]
theorem ints_keep {w w' : World} {A : Option Addr} {c : Nat} {xs : List Int} (h : IntsAt w (.slice A xs.length c) xs) (hk : ∀ ad, A = some ad → 0 < xs.length → w'.heap[ad.block]? = w.heap[ad.block]?) : IntsAt w' (.slice A xs.length c) xs := by
  rcases h with h1 | ⟨ad, c', e, hc, hl, hcell, h1⟩
  · exact Or.inl h1
  · refine Or.inr ⟨ad, c', e, hc, hl, fun j u hj => ?_, h1⟩
    have hn : 0 < xs.length := by
      have := (List.getElem?_eq_some_iff.1 hj).1
      simp at this
      omega
    simp only [Value.slice.injEq] at e
    have eb : (ad.add j).block = ad.block := by unfold Addr.add; split <;> rfl
    rw [World.cell?_of_block (w := w) (by rw [eb]; exact hk ad e.1 hn)]
    exact hcell j u hj
/-- a state laid into a block of its own -/
def RCut (w wr wx : World) (T : MS) (p : Value) : Prop :=
  ∃ gn A c, p = .pointer (some ⟨gn, 0, none⟩) ∧ wr.heap.size ≤ gn ∧ wx.heap[gn]? = some (.cells #[.int .i64 T.gen, .int .i64 T.applied, .int .i64 T.next, .slice A T.tables.length c] 59 (0, 0)) ∧ Below wr.heap.size wr wx ∧ IntsAt wx (.slice A T.tables.length c) T.tables ∧ ∀ ad, A = some ad → 0 < T.tables.length → w.heap.size < ad.block ∧ ad.block < wr.heap.size
theorem RCut.new {w wr : World} {T : MS} {A : Option Addr} {c : Nat} (hti : IntsAt wr (.slice A T.tables.length c) T.tables) (hlo : ∀ ad, A = some ad → 0 < T.tables.length → w.heap.size < ad.block ∧ ad.block < wr.heap.size) :
    RCut w wr (wr.alloc (.cells #[.int .i64 T.gen, .int .i64 T.applied, .int .i64 T.next, .slice A T.tables.length c] 59)).drew T (.pointer (some ⟨wr.heap.size, 0, none⟩)) :=
  ⟨wr.heap.size, A, c, rfl, Nat.le_refl _, heap_alloc_new wr _, ((Below.refl _ _).alloc (Nat.le_refl _) _).drew, hti.alloc _, hlo⟩

open Classical in
set_option maxRecDepth 100000 in
set_option maxHeartbeats 2000000 in
theorem rdecode_any (w : World) (v : Value) (xs : List Int) (h : BytesAt w v xs) (ho : Octets xs) (hn : xs.length ≤ 1000000) : Calls Try.prog 39 #[v] w (RDecPost w (decB xs)) := by
  obtain ⟨A, cap, rfl, -⟩ := Srcs.slice h
  obtain ⟨wb, hwb⟩ : ∃ wb, wb = w.alloc (.cells #[.int .i64 0, .int .i64 0, .int .i64 0, .slice none 0 0] 59) := ⟨_, rfl⟩
  have hb0 : Below w.heap.size w wb := by rw [hwb]; exact (Below.refl _ _).alloc (Nat.le_refl _) _
  have hwl : w.heap.size < wb.heap.size := by rw [hwb]; simp
  have hblk : wb.heap[w.heap.size]? = some (.cells #[.int .i64 0, .int .i64 0, .int .i64 0, .slice none 0 0] 59 (0, 0)) := by rw [hwb]; exact heap_alloc_new w _
  have h0 : DecAt wb (wb.alloc (.cells #[] 3)) xs (.slice (some ⟨w.heap.size + 1, 0, none⟩) 0 0) (.slice A xs.length cap) [] xs := by
    rw [show w.heap.size + 1 = wb.heap.size by rw [hwb]; simp]
    exact ⟨by simp, Buf.made 3 1 (Below.refl _ _), (srcs_below h hb0).alloc _, ho, by simp, fun x hx => by simp at hx⟩
  obtain ⟨D, hD⟩ : ∃ D, D = decB xs := ⟨_, rfl⟩
  rw [← hD]
  unfold decB at hD
  have HD := Lib.hid hD
  have H0 := Lib.hid h0
  have Hb0 := Lib.hid hb0
  have Hwb := Lib.hid hwb
  have Hblk := Lib.hid hblk
  clear h ho h0 hb0 hD hblk
  go_enter Try.func39, Try.ntmps39
  go_wp2_with fail
  rw [← hwb]
  clear hwb
  go_loopw [4, 5] (fun o r wr => ∃ (B : Option Addr) (bc : Nat) (R : Option Addr) (rc : Nat) (l ys : List Int), o = .slice B l.length bc ∧ r = .slice R ys.length rc ∧ DecAt wb wr xs (.slice B l.length bc) (.slice R ys.length rc) l ys) (fun _ r _ => match r with | .slice _ n _ => n | _ => 0)
  case atStart => exact ⟨_, _, _, _, [], xs, rfl, rfl, H0.out⟩
  case round =>
    obtain ⟨B, bc, R, rc, l, ys, rfl, rfl, hat⟩ := hrel
    have hle := hat.len
    have Hat := Lib.hid hat
    have hbk : wr.heap[w.heap.size]? = some (.cells #[.int .i64 0, .int .i64 0, .int .i64 0, .slice none 0 0] 59 (0, 0)) := (hat.row.below.block w.heap.size hwl).trans Hblk.out
    have Hbk := Lib.hid hbk
    clear hat H0 hbk
    by_cases hlt : 0 < ys.length
    · have hne : ys ≠ [] := fun e => by rw [e] at hlt; simp at hlt
      have hst := tks_step hne
      have htk := rtake_any wr _ ys Hat.out.rest Hat.out.oct (by omega)
      have Hst := Lib.hid hst
      have Htk := Lib.hid htk
      clear hst htk hne
      go_wp2_with fail
      refine Htk.out.mono ?_
      intro e w1 hp
      cases hN : takeN ys 0 0 with
      | none =>
        rw [hN] at hp
        obtain ⟨rfl, hb1⟩ := hp
        have hst2 := Hst.out
        rw [hN] at hst2
        have hDn : D = none := by
          rw [HD.out, Hat.out.eq, hst2]
          rfl
        have hbk1 := (hb1.block w.heap.size (Nat.lt_of_lt_of_le hwl Hat.out.row.below.size)).trans Hbk.out
        have f0 := free_of hbk1 0
        have f1 := free_of hbk1 1
        have f2 := free_of hbk1 2
        have f3 := free_of hbk1 3
        have c0 : w1.cell? ⟨w.heap.size, 0, none⟩ = some (.int .i64 0) := by rw [cell_of hbk1]; rfl
        have c1 : w1.cell? ⟨w.heap.size, 1, none⟩ = some (.int .i64 0) := by rw [cell_of hbk1]; rfl
        have c2 : w1.cell? ⟨w.heap.size, 2, none⟩ = some (.int .i64 0) := by rw [cell_of hbk1]; rfl
        have c3 : w1.cell? ⟨w.heap.size, 3, none⟩ = some (.slice none 0 0) := by rw [cell_of hbk1]; rfl
        have Hb1 := Lib.hid hb1
        have HDn := Lib.hid hDn
        clear hst2 hDn hb1
        have hset := set4 hbk1 (.int .i64 0) (.int .i64 0) (.int .i64 0) (.slice none 0 0)
        have Hset := Lib.hid hset
        clear hset hbk1
        go_wp2
        refine bodyPost_ret (res2r rfl _ _ w.heap.size _ _ _ _ (0, 0) rfl Hset.out) rfl ?_
        rw [HDn.out]
        exact ⟨below_set4 (Hb0.out.trans ((Hat.out.row.below.trans (Hb1.out.mono Hat.out.row.below.size)).mono (Nat.le_of_lt hwl))) (Nat.le_refl _) _ _ _ _, rfl⟩
      | some p =>
        obtain ⟨n, r⟩ := p
        rw [hN] at hp
        obtain ⟨v2, rfl, hown, hb1⟩ := hp
        obtain ⟨R2, rc2, rfl, -⟩ := ownsRow_slice hown
        have hst2 := Hst.out
        rw [hN] at hst2
        obtain ⟨hsh, j, hj⟩ := takeN_shorter hN
        have hn9 := takeN_lt hN (by omega) (by decide)
        have hrow1 := Hat.out.row.step hb1
        have Hst2 := Lib.hid hst2
        have Hj := Lib.hid hj
        have Hown := Lib.hid hown
        have Hb1 := Lib.hid hb1
        have Hrow1 := Lib.hid hrow1
        have hn63 : n ≤ 9223372036854775807 := by omega
        clear hst2 hj hown hb1 hrow1 hn9
        go_wp2_with (first | (at_builtin; refine wpList_app _ rfl _ _ 57 rfl 3 1 8 _ Try.underlying57 info3 rfl (by decide) _ l.length (l.map (Value.int .i64)) rfl ?hrow _ 1 [.int .i64 n] rfl ?hsrc ?h63 ?hby ?_))
        case hrow => exact (ownsRow_base0 Hrow1.out.own).alloc _
        case hsrc => exact one_new w1 _ rfl
        case h63 => unfold maxLen; omega
        case hby => omega
        intro o' w7 ha
        have hrow7 := Hrow1.out.app ((Below.refl _ w1).alloc (Nat.le_refl _) _) ha
        have hr7 : BytesAt w7 (.slice R2 r.length rc2) r := by
          refine ownsRow_srcs (ownsRow_block Hown.out fun k hk => ?_) (one_u8 _)
          have h1 := Hown.out.lt k hk
          refine (ha.grown.block k (by simp; omega) fun e => ?_).trans (Below.heap_alloc w1 _ k h1.2)
          have := (Hat.out.row.own.lt k e.symm).2
          omega
        have e1 : l.map (Value.int .i64) ++ [.int .i64 (n : Int)] = (l ++ [(n : Int)]).map (Value.int .i64) := by simp
        rw [e1, show l.length + 1 = (l ++ [(n : Int)]).length by simp] at hrow7
        obtain ⟨B7, c7, rfl⟩ := hrow7.slice
        have Hrow7 := Lib.hid hrow7
        have Hr7 := Lib.hid hr7
        clear hrow7 hr7 ha e1
        go_wp2
        refine ⟨⟨B7, c7, R2, rc2, l ++ [(n : Int)], r, rfl, rfl, ⟨?_, Hrow7.out, Hr7.out, ?_, ?_, ?_⟩⟩, hsh⟩
        · rw [Hat.out.eq, Hst2.out]
          simp [Option.map_map, Function.comp_def]
        · rw [Hj.out]
          exact Hat.out.oct.drop j
        · rw [List.length_append, List.length_singleton]
          omega
        · intro x hx
          rcases List.mem_append.1 hx with h1 | h1
          · exact Hat.out.rng x h1
          · simp at h1
            omega
    · have hy : ys = [] := List.length_eq_zero_iff.1 (by omega)
      subst hy
      have hteq : tks xs = some l := by rw [Hat.out.eq, tks_nil]; simp
      have hD2 := HD.out
      rw [hteq] at hD2
      simp only at hD2
      have HD2 := Lib.hid hD2
      have c0 : wr.cell? ⟨w.heap.size, 0, none⟩ = some (.int .i64 0) := by rw [cell_of Hbk.out]; rfl
      have c1 : wr.cell? ⟨w.heap.size, 1, none⟩ = some (.int .i64 0) := by rw [cell_of Hbk.out]; rfl
      have c2 : wr.cell? ⟨w.heap.size, 2, none⟩ = some (.int .i64 0) := by rw [cell_of Hbk.out]; rfl
      have c3 : wr.cell? ⟨w.heap.size, 3, none⟩ = some (.slice none 0 0) := by rw [cell_of Hbk.out]; rfl
      have f0 := free_of Hbk.out 0
      have f1 := free_of Hbk.out 1
      have f2 := free_of Hbk.out 2
      have f3 := free_of Hbk.out 3
      have hset := set4 Hbk.out (.int .i64 0) (.int .i64 0) (.int .i64 0) (.slice none 0 0)
      have Hset := Lib.hid hset
      have hbelr : Below w.heap.size w wr := Hb0.out.trans (Hat.out.row.below.mono (Nat.le_of_lt hwl))
      have Hbelr := Lib.hid hbelr
      clear hset hteq hD2 hbelr
      by_cases h4 : l.length < 4
      · have hDn : D = none := by
          rw [HD2.out, if_neg (fun e => by have := e.1; omega)]
        have HDn := Lib.hid hDn
        clear hDn
        go_wp2
        refine bodyPost_ret (res2r rfl _ _ w.heap.size _ _ _ _ (0, 0) rfl Hset.out) rfl ?_
        rw [HDn.out]
        exact ⟨below_set4 Hbelr.out (Nat.le_refl _) _ _ _ _, rfl⟩
      · obtain ⟨g, rfl, d3⟩ := row_cell Hat.out.row.own (k := 3) (by omega)
        have hx3 := Hat.out.rng l[3] (List.getElem_mem (by omega))
        have hg3 : l.getD 3 0 = l[3]'(by omega) := by simp [show 3 < l.length by omega]
        obtain ⟨x3, hx3e⟩ : ∃ x, x = l[3]'(by omega) := ⟨_, rfl⟩
        rw [← hx3e] at d3 hx3 hg3
        have Hg3 := Lib.hid hg3
        clear hx3e hg3
        by_cases h34 : x3 = (l.length : Int) - 4
        · have tb : ((l.length : Int) - 4 != x3) = false := by simp [h34]
          obtain ⟨g', e', d0⟩ := row_cell Hat.out.row.own (k := 0) (by omega)
          cases e'
          obtain ⟨g', e', d1⟩ := row_cell Hat.out.row.own (k := 1) (by omega)
          cases e'
          obtain ⟨g', e', d2⟩ := row_cell Hat.out.row.own (k := 2) (by omega)
          cases e'
          have hl4 : 4 ≤ l.length := by omega
          have hs0 : (stateOfL l).gen = l[0]'(by omega) := by simp [stateOfL, show 0 < l.length by omega]
          have hs1 : (stateOfL l).applied = l[1]'(by omega) := by simp [stateOfL, show 1 < l.length by omega]
          have hs2 : (stateOfL l).next = l[2]'(by omega) := by simp [stateOfL, show 2 < l.length by omega]
          have hs3 : (stateOfL l).tables = l.drop 4 := rfl
          rw [← hs0] at d0
          rw [← hs1] at d1
          rw [← hs2] at d2
          have hDr : D = if (stateOfL l).Right then some (stateOfL l) else none := by
            rw [HD2.out]
            by_cases hR : (stateOfL l).Right
            · rw [if_pos hR, if_pos ⟨hl4, by rw [Hg3.out]; exact h34, hR⟩]
            · rw [if_neg hR, if_neg fun e => hR e.2.2]
          obtain ⟨T, hT⟩ : ∃ T, T = stateOfL l := ⟨_, rfl⟩
          rw [← hT] at d0 d1 d2 hs3 hDr
          have hglt : g < wr.heap.size := (Hat.out.row.own.lt g rfl).2
          have hi0 : (0 : Int) < (l.length : Int) := by omega
          have hgne : g ≠ wr.heap.size := Nat.ne_of_lt hglt
          have hgne' : wr.heap.size ≠ g := (Nat.ne_of_lt hglt).symm
          have hne : l ≠ [] := fun e => by rw [e] at hl4; simp at hl4
          have hj0 : 0 < l.length := by omega
          have hj1 : 1 < l.length := by omega
          have hj2 : 2 < l.length := by omega
          have hi1 : (1 : Int) < (l.length : Int) := by omega
          have hi2 : (2 : Int) < (l.length : Int) := by omega
          have hi3 : (3 : Int) < (l.length : Int) := by omega
          have hi4 : (4 : Int) ≤ (l.length : Int) := by omega
          have hbc : l.length ≤ bc := by
            obtain ⟨A', c', e, h⟩ := ownsRow_slice Hat.out.row.own
            simp only [Value.slice.injEq] at e
            rw [e.2.2]
            exact h
          have hints : IntsAt wr (.slice (some ⟨g, 0, none⟩) l.length bc) l := ownsRow_srcs Hat.out.row.own (one_i64 _)
          have HDr := Lib.hid hDr
          have Hs3 := Lib.hid hs3
          have Hints := Lib.hid hints
          have hlow : w.heap.size < g := Nat.lt_of_lt_of_le hwl (Hat.out.row.own.lt g rfl).1
          clear hDr hs0 hs1 hs2 hs3 hints hT h34
          go_upto_region 11 with (fail)
          go_cut [9] from 42 (fun p wx => RCut w wr wx T p)
          case first =>
            by_cases hbc4 : bc = 4
            · subst hbc4
              have hl0 : l.length = 4 := by omega
              have ht0 : T.tables = [] := by rw [Hs3.out, List.drop_eq_nil_of_le (by omega)]
              have Ht0 := Lib.hid ht0
              clear hl0 ht0
              go_wp2_with fail
              go_region_held3 (fun w' => w'.cell? ⟨g, 0, none⟩ = some (.int .i64 T.gen) ∧ w'.cell? ⟨g, 1, none⟩ = some (.int .i64 T.applied) ∧ w'.cell? ⟨g, 2, none⟩ = some (.int .i64 T.next)) ((first | with_reducible exact ⟨d0, d1, d2⟩ | exact ⟨cell_alloc d0, cell_alloc d1, cell_alloc d2⟩ | go_keep)) ((first | fail))
              go_wp2_with fail
              go_meet
              have h := RCut.new (w := w) (wr := wr) (T := T) (A := some ⟨g, 0, none⟩) (c := 0) (by rw [Ht0.out]; exact Or.inr ⟨_, _, rfl, Nat.le_refl _, rfl, fun i u hi => by simp at hi, fun u hu => by simp at hu⟩) (fun ad e h0 => by rw [Ht0.out] at h0; exact absurd h0 (by decide))
              rw [Ht0.out] at h
              exact h
            · go_wp2_with fail
              go_region_held3 (fun w' => w'.cell? ⟨g, 0, none⟩ = some (.int .i64 T.gen) ∧ w'.cell? ⟨g, 1, none⟩ = some (.int .i64 T.applied) ∧ w'.cell? ⟨g, 2, none⟩ = some (.int .i64 T.next)) ((first | with_reducible exact ⟨d0, d1, d2⟩ | exact ⟨cell_alloc d0, cell_alloc d1, cell_alloc d2⟩ | go_keep)) ((first | fail))
              go_wp2_with fail
              go_meet
              have hlt : T.tables.length = l.length - 4 := by rw [Hs3.out, List.length_drop]
              have h := RCut.new (w := w) (wr := wr) (T := T) (A := some ⟨g, 4, none⟩) (c := bc - 4) (by rw [hlt, Hs3.out]; exact ints_drop Hints.out hl4) (fun ad e h0 => by cases e; exact ⟨hlow, hglt⟩)
              rw [hlt] at h
              exact h
          case rest =>
            obtain ⟨gn, A4, c4, rfl, hgn, hT, hbx, hti, hlo⟩ := hcut
            have hblk := (hbx.block w.heap.size (Nat.lt_of_lt_of_le hwl Hat.out.row.below.size)).trans Hbk.out
            have t0 : wc.cell? ⟨gn, 0, none⟩ = some (.int .i64 T.gen) := by rw [cell_of hT]; rfl
            have t1 : wc.cell? ⟨gn, 1, none⟩ = some (.int .i64 T.applied) := by rw [cell_of hT]; rfl
            have t2 : wc.cell? ⟨gn, 2, none⟩ = some (.int .i64 T.next) := by rw [cell_of hT]; rfl
            have t3 : wc.cell? ⟨gn, 3, none⟩ = some (.slice A4 T.tables.length c4) := by rw [cell_of hT]; rfl
            have hri := rright_any wc T _ hti (by rw [Hs3.out, List.length_drop]; omega)
            have hwc : Below w.heap.size w wc := Hbelr.out.trans (hbx.mono Hbelr.out.size)
            have hlo2 : ∀ ad, A4 = some ad → 0 < T.tables.length → w.heap.size < ad.block ∧ ad.block < wc.heap.size := fun ad e h0 => ⟨(hlo ad e h0).1, Nat.lt_of_lt_of_le (hlo ad e h0).2 hbx.size⟩
            have Hri := Lib.hid hri
            have Hblk := Lib.hid hblk
            have HT := Lib.hid hT
            have Hwc := Lib.hid hwc
            have Hti := Lib.hid hti
            have Hlo := Lib.hid hlo2
            have hltc : w.heap.size < wc.heap.size := (Array.getElem?_eq_some_iff.1 hblk).1
            have hltg : gn < wc.heap.size := (Array.getElem?_eq_some_iff.1 hT).1
            have Hlt := Lib.hid (And.intro hltc hltg)
            unfold stV at Hri
            clear hri hblk hT hbx hti hlo hlo2 hwc hgn hltc hltg c0 c1 c2 c3 f0 f1 f2 f3 d0 d1 d2 d3
            go_wp2_with fail
            refine Hri.out.mono ?_
            rintro e w5 ⟨rfl, hb5⟩
            have hk5 := (hb5.block w.heap.size Hlt.out.1).trans Hblk.out
            have hT5 := (hb5.block gn Hlt.out.2).trans HT.out
            have hti5 := srcs_below Hti.out hb5
            have hset := set4 hk5 (.int .i64 T.gen) (.int .i64 T.applied) (.int .i64 T.next) (.slice A4 T.tables.length c4)
            have hset0 := set4 hk5 (.int .i64 0) (.int .i64 0) (.int .i64 0) (.slice none 0 0)
            have hbw5 := Hwc.out.trans (hb5.mono Hwc.out.size)
            have hlo5 : ∀ ad, A4 = some ad → 0 < T.tables.length → w.heap.size < ad.block ∧ ad.block < w5.heap.size := fun ad e h0 => ⟨(Hlo.out ad e h0).1, Nat.lt_of_lt_of_le (Hlo.out ad e h0).2 hb5.size⟩
            have b0 : w5.cell? ⟨w.heap.size, 0, none⟩ = some (.int .i64 0) := by rw [cell_of hk5]; rfl
            have b1 : w5.cell? ⟨w.heap.size, 1, none⟩ = some (.int .i64 0) := by rw [cell_of hk5]; rfl
            have b2 : w5.cell? ⟨w.heap.size, 2, none⟩ = some (.int .i64 0) := by rw [cell_of hk5]; rfl
            have b3 : w5.cell? ⟨w.heap.size, 3, none⟩ = some (.slice none 0 0) := by rw [cell_of hk5]; rfl
            have e0 := free_of hk5 0
            have e1 := free_of hk5 1
            have e2 := free_of hk5 2
            have e3 := free_of hk5 3
            have t0 : w5.cell? ⟨gn, 0, none⟩ = some (.int .i64 T.gen) := by rw [cell_of hT5]; rfl
            have t1 : w5.cell? ⟨gn, 1, none⟩ = some (.int .i64 T.applied) := by rw [cell_of hT5]; rfl
            have t2 : w5.cell? ⟨gn, 2, none⟩ = some (.int .i64 T.next) := by rw [cell_of hT5]; rfl
            have t3 : w5.cell? ⟨gn, 3, none⟩ = some (.slice A4 T.tables.length c4) := by rw [cell_of hT5]; rfl
            have Hset := Lib.hid hset
            have Hset0 := Lib.hid hset0
            have Hbw5 := Lib.hid hbw5
            have Hti5 := Lib.hid hti5
            have Hlo5 := Lib.hid hlo5
            clear hset hset0 hbw5 hti5 hlo5 hk5 hT5 hb5
            by_cases hR : T.Right
            · have hDs : D = some T := by rw [HDr.out, if_pos hR]
              have HDs := Lib.hid hDs
              rw [rightM_true.2 hR]
              clear hDs hR
              go_wp2
              refine bodyPost_ret (res2r rfl _ _ w.heap.size _ _ _ _ (0, 0) rfl Hset.out) rfl ?_
              rw [HDs.out]
              refine ⟨below_set4 Hbw5.out (Nat.le_refl _) _ _ _ _, _, _, rfl, ints_keep Hti5.out fun ad e h0 => set4_other (Nat.ne_of_lt (Hlo5.out ad e h0).1) _ _ _ _, fun ad e h0 => ⟨Nat.le_of_lt (Hlo5.out ad e h0).1, ?_⟩⟩
              have := (Hlo5.out ad e h0).2
              simpa [World.setCell] using this
            · have hDs : D = none := by rw [HDr.out, if_neg hR]
              have HDs := Lib.hid hDs
              rw [rightM_no hR]
              clear hDs hR
              go_wp2
              refine bodyPost_ret (res2r rfl _ _ w.heap.size _ _ _ _ (0, 0) rfl Hset0.out) rfl ?_
              rw [HDs.out]
              exact ⟨below_set4 Hbw5.out (Nat.le_refl _) _ _ _ _, rfl⟩
        · have tb : ((l.length : Int) - 4 != x3) = true := by simp; omega
          have hDn : D = none := by
            rw [HD2.out, if_neg (fun e => h34 (by rw [← Hg3.out]; exact e.2.1))]
          have HDn := Lib.hid hDn
          have hi3 : (3 : Int) < (l.length : Int) := by omega
          clear hDn h34
          go_wp2
          refine bodyPost_ret (res2r rfl _ _ w.heap.size _ _ _ _ (0, 0) rfl Hset.out) rfl ?_
          rw [HDn.out]
          exact ⟨below_set4 Hbelr.out (Nat.le_refl _) _ _ _ _, rfl⟩
end Go.Proofs.Ytkefciacdmbidaa
