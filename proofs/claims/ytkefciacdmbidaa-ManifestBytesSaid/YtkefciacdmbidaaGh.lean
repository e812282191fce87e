/- Decode: the state of bytes. Read: the last state of a manifest's bytes. -/
import Derived.Test.YtkefciacdmbidaaGf
import Derived.Test.YtkefciacdmbidaaGg
import Derived.Deep.RegionHeld3
import Derived.Test.YtkefciacdmbidaaGe
namespace Go.Proofs.Ytkefciacdmbidaa
open Go.RowKit Go.WideMaps Go.Maps Go.Lib

/-- all numbers of bytes -/
def tksF : Nat → List Int → Option (List Int)
  | _, [] => some []
  | 0, _ :: _ => none
  | k + 1, c :: t => match takeN (c :: t) 0 0 with
    | none => none
    | some (n, r) => (tksF k r).map fun l => (n : Int) :: l
def tks (xs : List Int) : Option (List Int) := tksF xs.length xs
theorem takeN_shorter {xs : List Int} {n : Nat} {r : List Int} (h : takeN xs 0 0 = some (n, r)) : r.length < xs.length ∧ ∃ j, r = xs.drop j := by
  obtain ⟨j, hj, e⟩ := takeN_rest h
  have h0 : xs ≠ [] := fun e0 => by rw [e0] at h; simp [takeN] at h
  have h1 : 0 < xs.length := List.length_pos_iff.2 h0
  exact ⟨by rw [e, List.length_drop]; omega, j, e⟩
theorem tksF_enough : ∀ (n k m : Nat) (xs : List Int), xs.length ≤ n → xs.length ≤ k → xs.length ≤ m → tksF k xs = tksF m xs := by
  intro n
  induction n with
  | zero =>
    intro k m xs h0 _ _
    have : xs = [] := by simpa using h0
    subst this
    cases k <;> cases m <;> rfl
  | succ n ih =>
    intro k m xs h0 h1 h2
    cases xs with
    | nil => cases k <;> cases m <;> rfl
    | cons c t =>
      cases k with
      | zero => simp at h1
      | succ k =>
        cases m with
        | zero => simp at h2
        | succ m =>
          unfold tksF
          cases hn : takeN (c :: t) 0 0 with
          | none => rfl
          | some p =>
            obtain ⟨q, r⟩ := p
            have hs := (takeN_shorter hn).1
            simp only
            rw [ih k m r (by simp at h0 hs ⊢; omega) (by simp at h1 hs ⊢; omega) (by simp at h2 hs ⊢; omega)]
theorem tks_nil : tks [] = some [] := rfl
theorem tks_step {xs : List Int} (h : xs ≠ []) : tks xs = match takeN xs 0 0 with
    | none => none
    | some (n, r) => (tks r).map fun l => (n : Int) :: l := by
  cases xs with
  | nil => exact absurd rfl h
  | cons c t =>
    show tksF (t.length + 1) (c :: t) = _
    unfold tksF
    cases hn : takeN (c :: t) 0 0 with
    | none => rfl
    | some p =>
      obtain ⟨q, r⟩ := p
      have hs := (takeN_shorter hn).1
      simp only
      rw [show tks r = tksF t.length r from tksF_enough r.length r.length t.length r (Nat.le_refl _) (Nat.le_refl _) (by simp at hs; omega)]

/-- the state of numbers -/
def stateOfL (l : List Int) : MS := ⟨l.getD 0 0, l.getD 1 0, l.getD 2 0, l.drop 4⟩
open Classical in
noncomputable def decB (xs : List Int) : Option MS :=
  match tks xs with
  | none => none
  | some l => if 4 ≤ l.length ∧ l.getD 3 0 = (l.length : Int) - 4 ∧ (stateOfL l).Right then some (stateOfL l) else none

def zeroMS : Value := .agg #[.int .i64 0, .int .i64 0, .int .i64 0, .slice none 0 0]
def DecPost (w : World) (d : Option MS) (e : Ending) (w' : World) : Prop :=
  Below w.heap.size w w' ∧ match d with
  | none => e = .returned (.tuple #[zeroMS, .bool false])
  | some s => ∃ tv, e = .returned (.tuple #[msV s tv, .bool true]) ∧ w'.ownsRow w.heap.size 3 1 tv s.tables.length (s.tables.map (Value.int .i64))

theorem ints_drop {w : World} {g cap j : Nat} {xs : List Int} (h : IntsAt w (.slice (some ⟨g, 0, none⟩) xs.length cap) xs) (hj : j ≤ xs.length) : IntsAt w (.slice (some ⟨g, j, none⟩) (xs.length - j) (cap - j)) (xs.drop j) := by
  rcases h with ⟨h1, -, -⟩ | ⟨ad, c, h1, hc, hl, hcell, -⟩
  · cases h1
  · cases h1
    refine Or.inr ⟨_, _, by rw [List.length_drop], by rw [List.length_drop]; omega, by simp, fun i u hi => ?_, one_i64 _⟩
    have := hcell (j + i) u (by rw [← List.getElem?_drop, ← List.map_drop]; exact hi)
    rw [add_flat', Nat.zero_add] at this
    rw [add_flat']
    exact this
theorem ints_end {w : World} {g j : Nat} {xs : List Int} (h : xs.length ≤ j) : IntsAt w (.slice (some ⟨g, 0, none⟩) (xs.length - j) 0) (xs.drop j) := by
  rw [List.drop_eq_nil_of_le h, show xs.length - j = 0 by omega]
  exact Or.inr ⟨_, _, rfl, Nat.le_refl _, rfl, fun i u hi => by simp at hi, fun u hu => by simp at hu⟩

/-- a state that was made and laid into a block of its own -/
def StCut (wr wx : World) (T : MS) (p : Value) : Prop :=
  ∃ gn A c, p = .pointer (some ⟨gn, 0, none⟩) ∧ wr.heap.size ≤ gn ∧ wx.heap[gn]? = some (.cells #[.int .i64 T.gen, .int .i64 T.applied, .int .i64 T.next, .slice A T.tables.length c] 61 (0, 0)) ∧ Below wr.heap.size wr wx ∧ wx.ownsRow wr.heap.size 3 1 (.slice A T.tables.length c) T.tables.length (T.tables.map (Value.int .i64))
theorem StCut.new {wr w4 : World} {T : MS} {A : Option Addr} {c : Nat} (hb : Below wr.heap.size wr.drew w4) (ho : w4.ownsRow wr.heap.size 3 1 (.slice A T.tables.length c) T.tables.length (T.tables.map (Value.int .i64))) :
    StCut wr (w4.alloc (.cells #[.int .i64 T.gen, .int .i64 T.applied, .int .i64 T.next, .slice A T.tables.length c] 61)) T (.pointer (some ⟨w4.heap.size, 0, none⟩)) :=
  ⟨w4.heap.size, A, c, rfl, (below_undrew hb).size, heap_alloc_new _ _, (below_undrew hb).alloc (below_undrew hb).size _, ho.alloc _⟩
theorem StCut.old {wr w4 : World} {T : MS} {A : Option Addr} {c : Nat} {o : Obj} (ho : o = .cells #[.int .i64 0, .int .i64 0, .int .i64 0, .slice none 0 0] 61) (hb : Below (wr.alloc o).drew.heap.size (wr.alloc o).drew w4) (hr : w4.ownsRow (wr.alloc o).drew.heap.size 3 1 (.slice A T.tables.length c) T.tables.length (T.tables.map (Value.int .i64))) :
    StCut wr ((((w4.setCell ⟨wr.heap.size, 0, none⟩ (.int .i64 T.gen)).setCell ⟨wr.heap.size, 1, none⟩ (.int .i64 T.applied)).setCell ⟨wr.heap.size, 2, none⟩ (.int .i64 T.next)).setCell ⟨wr.heap.size, 3, none⟩ (.slice A T.tables.length c)) T (.pointer (some ⟨wr.heap.size, 0, none⟩)) := by
  have hsz : (wr.alloc o).drew.heap.size = wr.heap.size + 1 := by
    show (wr.alloc o).heap.size = _
    simp
  have h0 : w4.heap[wr.heap.size]? = some (.cells #[.int .i64 0, .int .i64 0, .int .i64 0, .slice none 0 0] 61 (0, 0)) := by
    rw [hb.block wr.heap.size (by omega), ← ho]
    exact heap_alloc_new wr o
  have hbb : Below wr.heap.size wr w4 := (((Below.refl _ _).alloc (Nat.le_refl _) o).drew).trans (hb.mono (by omega))
  refine ⟨wr.heap.size, A, c, rfl, Nat.le_refl _, set4 h0 _ _ _ _, below_set4 hbb (Nat.le_refl _) _ _ _ _, ownsRow_rebase (ownsRow_block hr fun k hk => set4_other ?_ _ _ _ _) fun k hk => ?_⟩
  · have := (hr.lt k hk).1
    omega
  · have := (hr.lt k hk).1
    omega

/-- how Decode runs -/
structure DecAt (w1 wr : World) (xs : List Int) (o rv : Value) (l ys : List Int) : Prop where
  eq : tks xs = (tks ys).map fun m => l ++ m
  row : Buf 3 1 w1 wr o l.length (l.map (Value.int .i64))
  rest : BytesAt wr rv ys
  oct : Octets ys
  len : ys.length + l.length ≤ xs.length
  rng : ∀ x ∈ l, 0 ≤ x ∧ x ≤ 9223372036854775807

open Classical in
set_option maxRecDepth 100000 in
set_option maxHeartbeats 2000000 in
theorem mdecode_any (w : World) (v : Value) (xs : List Int) (h : BytesAt w v xs) (ho : Octets xs) (hn : xs.length ≤ 1000000000) : Calls Try.prog 38 #[v] w (DecPost w (decB xs)) := by
  obtain ⟨A, cap, rfl, -⟩ := Srcs.slice h
  obtain ⟨wb, hwb⟩ : ∃ wb, wb = w.alloc (.cells #[.int .i64 0, .int .i64 0, .int .i64 0, .slice none 0 0] 61) := ⟨_, rfl⟩
  have hb0 : Below w.heap.size w wb := by rw [hwb]; exact (Below.refl _ _).alloc (Nat.le_refl _) _
  have hwl : w.heap.size < wb.heap.size := by rw [hwb]; simp
  have hblk : wb.heap[w.heap.size]? = some (.cells #[.int .i64 0, .int .i64 0, .int .i64 0, .slice none 0 0] 61 (0, 0)) := by rw [hwb]; exact heap_alloc_new w _
  have h0 : DecAt wb wb xs (.slice none 0 0) (.slice A xs.length cap) [] xs := ⟨by simp, Buf.nil 3 1 (Below.refl _ _), srcs_below h hb0, ho, by simp, fun x hx => by simp at hx⟩
  obtain ⟨D, hD⟩ : ∃ D, D = decB xs := ⟨_, rfl⟩
  rw [← hD]
  unfold decB at hD
  have HD := Lib.hid hD
  have H0 := Lib.hid h0
  have Hb0 := Lib.hid hb0
  have Hwb := Lib.hid hwb
  have Hblk := Lib.hid hblk
  clear h ho h0 hb0 hD hblk
  go_enter Try.func38, Try.ntmps38
  go_wp2_with fail
  rw [← hwb]
  clear hwb
  go_loopw [0, 4] (fun r o wr => ∃ (B : Option Addr) (bc : Nat) (R : Option Addr) (rc : Nat) (l ys : List Int), o = .slice B l.length bc ∧ r = .slice R ys.length rc ∧ DecAt wb wr xs (.slice B l.length bc) (.slice R ys.length rc) l ys) (fun r _ _ => match r with | .slice _ n _ => n | _ => 0)
  case atStart => exact ⟨_, _, _, _, [], xs, rfl, rfl, H0.out⟩
  case round =>
    obtain ⟨B, bc, R, rc, l, ys, rfl, rfl, hat⟩ := hrel
    have hle := hat.len
    have Hat := Lib.hid hat
    have hbk : wr.heap[w.heap.size]? = some (.cells #[.int .i64 0, .int .i64 0, .int .i64 0, .slice none 0 0] 61 (0, 0)) := (hat.row.below.block w.heap.size hwl).trans Hblk.out
    have Hbk := Lib.hid hbk
    clear hat H0 hbk
    by_cases hlt : 0 < ys.length
    · have hne : ys ≠ [] := fun e => by rw [e] at hlt; simp at hlt
      have hst := tks_step hne
      have htk := take_any wr _ ys Hat.out.rest Hat.out.oct (by omega)
      have Hst := Lib.hid hst
      have Htk := Lib.hid htk
      clear hst htk hne
      go_wp2_with fail
      refine Htk.out.mono ?_
      intro e w1 hp
      cases hN : takeN ys 0 0 with
      | none =>
        rw [hN] at hp
        obtain ⟨rfl, hb1⟩ := hp
        have hst2 := Hst.out
        rw [hN] at hst2
        have hDn : D = none := by
          rw [HD.out, Hat.out.eq, hst2]
          rfl
        have hbk1 := (hb1.block w.heap.size (Nat.lt_of_lt_of_le hwl Hat.out.row.below.size)).trans Hbk.out
        have f0 := free_of hbk1 0
        have f1 := free_of hbk1 1
        have f2 := free_of hbk1 2
        have f3 := free_of hbk1 3
        have c0 : w1.cell? ⟨w.heap.size, 0, none⟩ = some (.int .i64 0) := by rw [cell_of hbk1]; rfl
        have c1 : w1.cell? ⟨w.heap.size, 1, none⟩ = some (.int .i64 0) := by rw [cell_of hbk1]; rfl
        have c2 : w1.cell? ⟨w.heap.size, 2, none⟩ = some (.int .i64 0) := by rw [cell_of hbk1]; rfl
        have c3 : w1.cell? ⟨w.heap.size, 3, none⟩ = some (.slice none 0 0) := by rw [cell_of hbk1]; rfl
        have Hb1 := Lib.hid hb1
        have HDn := Lib.hid hDn
        clear hst2 hDn hb1
        have hset := set4 hbk1 (.int .i64 0) (.int .i64 0) (.int .i64 0) (.slice none 0 0)
        have Hset := Lib.hid hset
        clear hset hbk1
        go_wp2
        refine bodyPost_ret (res2 rfl _ _ w.heap.size _ _ _ _ (0, 0) rfl Hset.out) rfl ?_
        rw [HDn.out]
        exact ⟨below_set4 (Hb0.out.trans ((Hat.out.row.below.trans (Hb1.out.mono Hat.out.row.below.size)).mono (Nat.le_of_lt hwl))) (Nat.le_refl _) _ _ _ _, rfl⟩
      | some p =>
        obtain ⟨n, r⟩ := p
        rw [hN] at hp
        obtain ⟨v2, rfl, hown, hb1⟩ := hp
        obtain ⟨R2, rc2, rfl, -⟩ := ownsRow_slice hown
        have hst2 := Hst.out
        rw [hN] at hst2
        obtain ⟨hsh, j, hj⟩ := takeN_shorter hN
        have hn9 := takeN_lt hN (by omega) (by decide)
        have hrow1 := Hat.out.row.step hb1
        have Hst2 := Lib.hid hst2
        have Hj := Lib.hid hj
        have Hown := Lib.hid hown
        have Hb1 := Lib.hid hb1
        have Hrow1 := Lib.hid hrow1
        have hn63 : n ≤ 9223372036854775807 := by omega
        clear hst2 hj hown hb1 hrow1 hn9
        go_wp2_with (first | (at_builtin; refine wpList_app _ rfl _ _ 57 rfl 3 1 8 _ Try.underlying57 info3 rfl (by decide) _ l.length (l.map (Value.int .i64)) rfl ?hrow _ 1 [.int .i64 n] rfl ?hsrc ?h63 ?hby ?_))
        case hrow => exact (ownsRow_base0 Hrow1.out.own).alloc _
        case hsrc => exact one_new w1 _ rfl
        case h63 => unfold maxLen; omega
        case hby => omega
        intro o' w7 ha
        have hrow7 := Hrow1.out.app ((Below.refl _ w1).alloc (Nat.le_refl _) _) ha
        have hr7 : BytesAt w7 (.slice R2 r.length rc2) r := by
          refine ownsRow_srcs (ownsRow_block Hown.out fun k hk => ?_) (one_u8 _)
          have h1 := Hown.out.lt k hk
          refine (ha.grown.block k (by simp; omega) fun e => ?_).trans (Below.heap_alloc w1 _ k h1.2)
          have := (Hat.out.row.own.lt k e.symm).2
          omega
        have e1 : l.map (Value.int .i64) ++ [.int .i64 (n : Int)] = (l ++ [(n : Int)]).map (Value.int .i64) := by simp
        rw [e1, show l.length + 1 = (l ++ [(n : Int)]).length by simp] at hrow7
        obtain ⟨B7, c7, rfl⟩ := hrow7.slice
        have Hrow7 := Lib.hid hrow7
        have Hr7 := Lib.hid hr7
        clear hrow7 hr7 ha e1
        go_wp2
        refine ⟨⟨B7, c7, R2, rc2, l ++ [(n : Int)], r, rfl, rfl, ⟨?_, Hrow7.out, Hr7.out, ?_, ?_, ?_⟩⟩, hsh⟩
        · rw [Hat.out.eq, Hst2.out]
          simp [Option.map_map, Function.comp_def]
        · rw [Hj.out]
          exact Hat.out.oct.drop j
        · rw [List.length_append, List.length_singleton]
          omega
        · intro x hx
          rcases List.mem_append.1 hx with h1 | h1
          · exact Hat.out.rng x h1
          · simp at h1
            omega
    · have hy : ys = [] := List.length_eq_zero_iff.1 (by omega)
      subst hy
      have hteq : tks xs = some l := by rw [Hat.out.eq, tks_nil]; simp
      have hD2 := HD.out
      rw [hteq] at hD2
      simp only at hD2
      have HD2 := Lib.hid hD2
      have c0 : wr.cell? ⟨w.heap.size, 0, none⟩ = some (.int .i64 0) := by rw [cell_of Hbk.out]; rfl
      have c1 : wr.cell? ⟨w.heap.size, 1, none⟩ = some (.int .i64 0) := by rw [cell_of Hbk.out]; rfl
      have c2 : wr.cell? ⟨w.heap.size, 2, none⟩ = some (.int .i64 0) := by rw [cell_of Hbk.out]; rfl
      have c3 : wr.cell? ⟨w.heap.size, 3, none⟩ = some (.slice none 0 0) := by rw [cell_of Hbk.out]; rfl
      have f0 := free_of Hbk.out 0
      have f1 := free_of Hbk.out 1
      have f2 := free_of Hbk.out 2
      have f3 := free_of Hbk.out 3
      have hset := set4 Hbk.out (.int .i64 0) (.int .i64 0) (.int .i64 0) (.slice none 0 0)
      have Hset := Lib.hid hset
      have hbelr : Below w.heap.size w wr := Hb0.out.trans (Hat.out.row.below.mono (Nat.le_of_lt hwl))
      have Hbelr := Lib.hid hbelr
      clear hset hteq hD2 hbelr
      by_cases h4 : l.length < 4
      · have hDn : D = none := by
          rw [HD2.out, if_neg (fun e => by have := e.1; omega)]
        have HDn := Lib.hid hDn
        clear hDn
        go_wp2
        refine bodyPost_ret (res2 rfl _ _ w.heap.size _ _ _ _ (0, 0) rfl Hset.out) rfl ?_
        rw [HDn.out]
        exact ⟨below_set4 Hbelr.out (Nat.le_refl _) _ _ _ _, rfl⟩
      · obtain ⟨g, rfl, d3⟩ := row_cell Hat.out.row.own (k := 3) (by omega)
        have hx3 := Hat.out.rng l[3] (List.getElem_mem (by omega))
        have hg3 : l.getD 3 0 = l[3]'(by omega) := by simp [show 3 < l.length by omega]
        obtain ⟨x3, hx3e⟩ : ∃ x, x = l[3]'(by omega) := ⟨_, rfl⟩
        rw [← hx3e] at d3 hx3 hg3
        have Hg3 := Lib.hid hg3
        clear hx3e hg3
        by_cases h34 : x3 = (l.length : Int) - 4
        · have tb : (x3 != (l.length : Int) - 4) = false := by simp [h34]
          obtain ⟨g', e', d0⟩ := row_cell Hat.out.row.own (k := 0) (by omega)
          cases e'
          obtain ⟨g', e', d1⟩ := row_cell Hat.out.row.own (k := 1) (by omega)
          cases e'
          obtain ⟨g', e', d2⟩ := row_cell Hat.out.row.own (k := 2) (by omega)
          cases e'
          have hl4 : 4 ≤ l.length := by omega
          have hs0 : (stateOfL l).gen = l[0]'(by omega) := by simp [stateOfL, show 0 < l.length by omega]
          have hs1 : (stateOfL l).applied = l[1]'(by omega) := by simp [stateOfL, show 1 < l.length by omega]
          have hs2 : (stateOfL l).next = l[2]'(by omega) := by simp [stateOfL, show 2 < l.length by omega]
          have hs3 : (stateOfL l).tables = l.drop 4 := rfl
          rw [← hs0] at d0
          rw [← hs1] at d1
          rw [← hs2] at d2
          have hDr : D = if (stateOfL l).Right then some (stateOfL l) else none := by
            rw [HD2.out]
            by_cases hR : (stateOfL l).Right
            · rw [if_pos hR, if_pos ⟨hl4, by rw [Hg3.out]; exact h34, hR⟩]
            · rw [if_neg hR, if_neg fun e => hR e.2.2]
          obtain ⟨T, hT⟩ : ∃ T, T = stateOfL l := ⟨_, rfl⟩
          rw [← hT] at d0 d1 d2 hs3 hDr
          have hglt : g < wr.heap.size := (Hat.out.row.own.lt g rfl).2
          have hi0 : (0 : Int) < (l.length : Int) := by omega
          have hgne : g ≠ wr.heap.size := Nat.ne_of_lt hglt
          have hgne' : wr.heap.size ≠ g := (Nat.ne_of_lt hglt).symm
          have hne : l ≠ [] := fun e => by rw [e] at hl4; simp at hl4
          have hj0 : 0 < l.length := by omega
          have hj1 : 1 < l.length := by omega
          have hj2 : 2 < l.length := by omega
          have hi1 : (1 : Int) < (l.length : Int) := by omega
          have hi2 : (2 : Int) < (l.length : Int) := by omega
          have hi3 : (3 : Int) < (l.length : Int) := by omega
          have hi4 : (4 : Int) ≤ (l.length : Int) := by omega
          have hbc : l.length ≤ bc := by
            obtain ⟨A', c', e, h⟩ := ownsRow_slice Hat.out.row.own
            simp only [Value.slice.injEq] at e
            rw [e.2.2]
            exact h
          have hints : IntsAt wr (.slice (some ⟨g, 0, none⟩) l.length bc) l := ownsRow_srcs Hat.out.row.own (one_i64 _)
          have hzero : ∀ W w4 : World, (wr.alloc (.cells #[.int .i64 0, .int .i64 0, .int .i64 0, .slice none 0 0] 61)).heap[wr.heap.size]? = some (.cells #[.int .i64 0, .int .i64 0, .int .i64 0, .slice none 0 0] 61 (0, 0)) → Below (wr.alloc (.cells #[.int .i64 0, .int .i64 0, .int .i64 0, .slice none 0 0] 61)).drew.heap.size (wr.alloc (.cells #[.int .i64 0, .int .i64 0, .int .i64 0, .slice none 0 0] 61)).drew w4 →
              (w4.cell? ⟨wr.heap.size, 0, none⟩ = some (.int .i64 0) ∧ w4.cell? ⟨wr.heap.size, 1, none⟩ = some (.int .i64 0) ∧ w4.cell? ⟨wr.heap.size, 2, none⟩ = some (.int .i64 0) ∧ w4.cell? ⟨wr.heap.size, 3, none⟩ = some (.slice none 0 0)) ∧
              (w4.frozen? ⟨wr.heap.size, 0, none⟩ = false ∧ w4.frozen? ⟨wr.heap.size, 1, none⟩ = false ∧ w4.frozen? ⟨wr.heap.size, 2, none⟩ = false ∧ w4.frozen? ⟨wr.heap.size, 3, none⟩ = false) := fun W w4 hW hb => by
            have hk := (hb.block wr.heap.size (Array.getElem?_eq_some_iff.1 hW).1).trans hW
            exact ⟨⟨by rw [cell_of hk]; rfl, by rw [cell_of hk]; rfl, by rw [cell_of hk]; rfl, by rw [cell_of hk]; rfl⟩, free_of hk 0, free_of hk 1, free_of hk 2, free_of hk 3⟩
          have Hzero := Lib.hid hzero
          clear hzero
          have hcells : ∀ W w4 : World, Below wr.heap.size wr W → Below W.heap.size W w4 → w4.cell? ⟨g, 0, none⟩ = some (.int .i64 T.gen) ∧ w4.cell? ⟨g, 1, none⟩ = some (.int .i64 T.applied) ∧ w4.cell? ⟨g, 2, none⟩ = some (.int .i64 T.next) ∧ g < w4.heap.size := fun W w4 hW hb => by
            have hgW : g < W.heap.size := Nat.lt_of_lt_of_le hglt hW.size
            have hk : ∀ k, w4.cell? ⟨g, k, none⟩ = wr.cell? ⟨g, k, none⟩ := fun k => (hb.cell (p := ⟨g, k, none⟩) hgW).trans (hW.cell (p := ⟨g, k, none⟩) hglt)
            exact ⟨(hk 0).trans d0, (hk 1).trans d1, (hk 2).trans d2, Nat.lt_of_lt_of_le hgW hb.size⟩
          have HDr := Lib.hid hDr
          have Hs3 := Lib.hid hs3
          have Hcells := Lib.hid hcells
          have Hints := Lib.hid hints
          clear hDr hs0 hs1 hs2 hs3 hcells hints hT h34
          go_upto_region 10 with (fail)
          go_cut [8] from 39 (fun p wx => StCut wr wx T p)
          case first =>
            by_cases hbc4 : bc = 4
            · subst hbc4
              have hcl : ∀ W : World, Below wr.heap.size wr W → Calls Try.prog 64 #[.slice (some ⟨g, 0, none⟩) 0 0] W (NewRow W 3 1 T.tables.length (T.tables.map (Value.int .i64))) := fun W hW => by
                rw [Hs3.out, show (0 : Nat) = l.length - 4 by omega]
                have := srcs_below (ints_end (w := wr) (g := g) (j := 4) (xs := l) hbc) hW
                rw [show l.length - 4 = 0 by omega] at this ⊢
                exact clone64_any W _ _ this (by rw [List.length_drop]; omega)
              have Hcl := Lib.hid hcl
              clear hcl
              go_wp2_with fail
              go_region_held3 (fun w' => w'.cell? ⟨g, 0, none⟩ = some (.int .i64 T.gen) ∧ w'.cell? ⟨g, 1, none⟩ = some (.int .i64 T.applied) ∧ w'.cell? ⟨g, 2, none⟩ = some (.int .i64 T.next)) ((first | with_reducible exact ⟨d0, d1, d2⟩ | with_reducible exact ⟨k0, k1, k2⟩ | go_keep)) ((first | (go_at_call 64; show Calls _ _ _ (World.drew wr) _; refine (Hcl.out _ (Below.refl _ wr).drew).mono ?_; rintro e w4 ⟨v4, rfl, hown4, hb4⟩; obtain ⟨A4, c4, rfl, -⟩ := ownsRow_slice hown4; have hk := Hcells.out _ _ ((Below.refl _ wr).drew) hb4; have k0 := hk.1; have k1 := hk.2.1; have k2 := hk.2.2.1; have k3 := hk.2.2.2; have k5 := Nat.ne_of_lt hk.2.2.2; have Hown4 := Lib.hid hown4; have Hb4 := Lib.hid hb4; clear hk hown4 hb4) | (go_at_call 64; show Calls _ _ _ (World.drew (World.alloc wr (.cells #[.int .i64 0, .int .i64 0, .int .i64 0, .slice none 0 0] 61))) _; refine (Hcl.out _ ((Below.refl wr.heap.size wr).alloc (Nat.le_refl _) _).drew).mono ?_; rintro e w4 ⟨v4, rfl, hown4, hb4⟩; obtain ⟨A4, c4, rfl, -⟩ := ownsRow_slice hown4; have hk := Hcells.out _ _ (((Below.refl wr.heap.size wr).alloc (Nat.le_refl _) _).drew) hb4; have k0 := hk.1; have k1 := hk.2.1; have k2 := hk.2.2.1; have k3 := hk.2.2.2; have k5 := Nat.ne_of_lt hk.2.2.2; have hz := Hzero.out wr _ (heap_alloc_new wr _) hb4; have z0 := hz.1.1; have z1 := hz.1.2.1; have z2 := hz.1.2.2.1; have z3 := hz.1.2.2.2; have y0 := hz.2.1; have y1 := hz.2.2.1; have y2 := hz.2.2.2.1; have y3 := hz.2.2.2.2; have Hown4 := Lib.hid hown4; have Hb4 := Lib.hid hb4; clear hk hz hown4 hb4)))
              · go_wp2_with fail
                go_meet
                exact StCut.new Hb4.out Hown4.out
              · go_wp2_with fail
                go_meet
                exact StCut.old rfl Hb4.out Hown4.out
            · have hcl : ∀ W : World, Below wr.heap.size wr W → Calls Try.prog 64 #[.slice (some ⟨g, 4, none⟩) (l.length - 4) (bc - 4)] W (NewRow W 3 1 T.tables.length (T.tables.map (Value.int .i64))) := fun W hW => by
                rw [Hs3.out]
                exact clone64_any W _ _ (srcs_below (ints_drop Hints.out hl4) hW) (by rw [List.length_drop]; omega)
              have Hcl := Lib.hid hcl
              clear hcl
              go_wp2_with fail
              go_region_held3 (fun w' => w'.cell? ⟨g, 0, none⟩ = some (.int .i64 T.gen) ∧ w'.cell? ⟨g, 1, none⟩ = some (.int .i64 T.applied) ∧ w'.cell? ⟨g, 2, none⟩ = some (.int .i64 T.next)) ((first | with_reducible exact ⟨d0, d1, d2⟩ | with_reducible exact ⟨k0, k1, k2⟩ | go_keep)) ((first | (go_at_call 64; show Calls _ _ _ (World.drew wr) _; refine (Hcl.out _ (Below.refl _ wr).drew).mono ?_; rintro e w4 ⟨v4, rfl, hown4, hb4⟩; obtain ⟨A4, c4, rfl, -⟩ := ownsRow_slice hown4; have hk := Hcells.out _ _ ((Below.refl _ wr).drew) hb4; have k0 := hk.1; have k1 := hk.2.1; have k2 := hk.2.2.1; have k3 := hk.2.2.2; have k5 := Nat.ne_of_lt hk.2.2.2; have Hown4 := Lib.hid hown4; have Hb4 := Lib.hid hb4; clear hk hown4 hb4) | (go_at_call 64; show Calls _ _ _ (World.drew (World.alloc wr (.cells #[.int .i64 0, .int .i64 0, .int .i64 0, .slice none 0 0] 61))) _; refine (Hcl.out _ ((Below.refl wr.heap.size wr).alloc (Nat.le_refl _) _).drew).mono ?_; rintro e w4 ⟨v4, rfl, hown4, hb4⟩; obtain ⟨A4, c4, rfl, -⟩ := ownsRow_slice hown4; have hk := Hcells.out _ _ (((Below.refl wr.heap.size wr).alloc (Nat.le_refl _) _).drew) hb4; have k0 := hk.1; have k1 := hk.2.1; have k2 := hk.2.2.1; have k3 := hk.2.2.2; have k5 := Nat.ne_of_lt hk.2.2.2; have hz := Hzero.out wr _ (heap_alloc_new wr _) hb4; have z0 := hz.1.1; have z1 := hz.1.2.1; have z2 := hz.1.2.2.1; have z3 := hz.1.2.2.2; have y0 := hz.2.1; have y1 := hz.2.2.1; have y2 := hz.2.2.2.1; have y3 := hz.2.2.2.2; have Hown4 := Lib.hid hown4; have Hb4 := Lib.hid hb4; clear hk hz hown4 hb4)))
              · go_wp2_with fail
                go_meet
                exact StCut.new Hb4.out Hown4.out
              · go_wp2_with fail
                go_meet
                exact StCut.old rfl Hb4.out Hown4.out
          case rest =>
            obtain ⟨gn, A4, c4, rfl, hgn, hT, hbx, hown⟩ := hcut
            have hblk := (hbx.block w.heap.size (Nat.lt_of_lt_of_le hwl Hat.out.row.below.size)).trans Hbk.out
            have t0 : wc.cell? ⟨gn, 0, none⟩ = some (.int .i64 T.gen) := by rw [cell_of hT]; rfl
            have t1 : wc.cell? ⟨gn, 1, none⟩ = some (.int .i64 T.applied) := by rw [cell_of hT]; rfl
            have t2 : wc.cell? ⟨gn, 2, none⟩ = some (.int .i64 T.next) := by rw [cell_of hT]; rfl
            have t3 : wc.cell? ⟨gn, 3, none⟩ = some (.slice A4 T.tables.length c4) := by rw [cell_of hT]; rfl
            have hri := mright_any wc T _ (ownsRow_srcs hown (one_i64 _)) (by rw [Hs3.out, List.length_drop]; omega)
            have hwc : Below w.heap.size w wc := Hbelr.out.trans (hbx.mono Hbelr.out.size)
            have hown' := ownsRow_rebase hown fun k hk => Nat.le_trans Hbelr.out.size (hown.lt k hk).1
            have Hri := Lib.hid hri
            have Hblk := Lib.hid hblk
            have HT := Lib.hid hT
            have Hwc := Lib.hid hwc
            have Hown := Lib.hid hown'
            have hltc : w.heap.size < wc.heap.size := (Array.getElem?_eq_some_iff.1 hblk).1
            have hltg : gn < wc.heap.size := (Array.getElem?_eq_some_iff.1 hT).1
            have Hlt := Lib.hid (And.intro hltc hltg)
            unfold msV at Hri
            clear hri hblk hT hbx hown hwc hown' hgn hltc hltg c0 c1 c2 c3 f0 f1 f2 f3 d0 d1 d2 d3
            go_wp2_with fail
            refine Hri.out.mono ?_
            rintro e w5 ⟨rfl, hb5⟩
            have hk5 := (hb5.block w.heap.size Hlt.out.1).trans Hblk.out
            have hT5 := (hb5.block gn Hlt.out.2).trans HT.out
            have hown5 : w5.ownsRow w.heap.size 3 1 (.slice A4 T.tables.length c4) T.tables.length (T.tables.map (Value.int .i64)) := ownsRow_block Hown.out fun k hk => hb5.block k (Hown.out.lt k hk).2
            have hne5 : ∀ k, (Value.slice A4 T.tables.length c4).ownBlock = some k → w.heap.size ≠ k := fun k hk e => by
              obtain ⟨cs, h1⟩ := ownsRow_type hown5 hk
              rw [← e, hk5] at h1
              cases h1
            have hset := set4 hk5 (.int .i64 T.gen) (.int .i64 T.applied) (.int .i64 T.next) (.slice A4 T.tables.length c4)
            have hset0 := set4 hk5 (.int .i64 0) (.int .i64 0) (.int .i64 0) (.slice none 0 0)
            have hbw5 := Hwc.out.trans (hb5.mono Hwc.out.size)
            have b0 : w5.cell? ⟨w.heap.size, 0, none⟩ = some (.int .i64 0) := by rw [cell_of hk5]; rfl
            have b1 : w5.cell? ⟨w.heap.size, 1, none⟩ = some (.int .i64 0) := by rw [cell_of hk5]; rfl
            have b2 : w5.cell? ⟨w.heap.size, 2, none⟩ = some (.int .i64 0) := by rw [cell_of hk5]; rfl
            have b3 : w5.cell? ⟨w.heap.size, 3, none⟩ = some (.slice none 0 0) := by rw [cell_of hk5]; rfl
            have e0 := free_of hk5 0
            have e1 := free_of hk5 1
            have e2 := free_of hk5 2
            have e3 := free_of hk5 3
            have t0 : w5.cell? ⟨gn, 0, none⟩ = some (.int .i64 T.gen) := by rw [cell_of hT5]; rfl
            have t1 : w5.cell? ⟨gn, 1, none⟩ = some (.int .i64 T.applied) := by rw [cell_of hT5]; rfl
            have t2 : w5.cell? ⟨gn, 2, none⟩ = some (.int .i64 T.next) := by rw [cell_of hT5]; rfl
            have t3 : w5.cell? ⟨gn, 3, none⟩ = some (.slice A4 T.tables.length c4) := by rw [cell_of hT5]; rfl
            have Hset := Lib.hid hset
            have Hset0 := Lib.hid hset0
            have Hbw5 := Lib.hid hbw5
            have Hown5 := Lib.hid hown5
            have Hne5 := Lib.hid hne5
            clear hset hset0 hbw5 hown5 hne5 hk5 hT5 hb5
            by_cases hR : T.Right
            · have hDs : D = some T := by rw [HDr.out, if_pos hR]
              have HDs := Lib.hid hDs
              rw [rightM_true.2 hR]
              clear hDs hR
              go_wp2
              refine bodyPost_ret (res2 rfl _ _ w.heap.size _ _ _ _ (0, 0) rfl Hset.out) rfl ?_
              rw [HDs.out]
              exact ⟨below_set4 Hbw5.out (Nat.le_refl _) _ _ _ _, _, rfl, ownsRow_block Hown5.out fun k hk => set4_other (Hne5.out k hk) _ _ _ _⟩
            · have hDs : D = none := by rw [HDr.out, if_neg hR]
              have HDs := Lib.hid hDs
              rw [rightM_no hR]
              clear hDs hR
              go_wp2
              refine bodyPost_ret (res2 rfl _ _ w.heap.size _ _ _ _ (0, 0) rfl Hset0.out) rfl ?_
              rw [HDs.out]
              exact ⟨below_set4 Hbw5.out (Nat.le_refl _) _ _ _ _, rfl⟩
        · have tb : (x3 != (l.length : Int) - 4) = true := by simp [h34]
          have hDn : D = none := by
            rw [HD2.out, if_neg (fun e => h34 (by rw [← Hg3.out]; exact e.2.1))]
          have HDn := Lib.hid hDn
          have hi3 : (3 : Int) < (l.length : Int) := by omega
          clear hDn h34
          go_wp2
          refine bodyPost_ret (res2 rfl _ _ w.heap.size _ _ _ _ (0, 0) rfl Hset.out) rfl ?_
          rw [HDn.out]
          exact ⟨below_set4 Hbelr.out (Nat.le_refl _) _ _ _ _, rfl⟩
end Go.Proofs.Ytkefciacdmbidaa

namespace Go.Proofs.Ytkefciacdmbidaa
open Go.RowKit Go.WideMaps Go.Maps Go.Lib

noncomputable def readF : Bool → MS → List (List Int) → Option MS
  | _, last, [] => some last
  | first, last, f :: t => match decB f with
    | none => none
    | some s => if first = false ∧ s.gen ≠ last.gen + 1 then none else readF false s t
def ms0 : MS := ⟨0, 0, 1, []⟩
noncomputable def readB (xs : List Int) : Option (MS × Int) :=
  if (allB xs).2.2 = 2 then none else (readF true ms0 (allB xs).1).map fun s => (s, (xs.length : Int) - (allB xs).2.1.length)
def MReadPost (w : World) (r : Option (MS × Int)) (e : Ending) (w' : World) : Prop :=
  Below w.heap.size w w' ∧ match r with
  | none => e = .returned (.tuple #[zeroMS, .int .i64 0, .int .i64 20])
  | some (s, n) => ∃ tv, e = .returned (.tuple #[msV s tv, .int .i64 n, .int .i64 0]) ∧ w'.ownsRow w.heap.size 3 1 tv s.tables.length (s.tables.map (Value.int .i64))

theorem allB_code : ∀ xs : List Int, (allB xs).2.2 = 0 ∨ (allB xs).2.2 = 1 ∨ (allB xs).2.2 = 2 := fun xs => by
  have : ∀ (k : Nat) (xs : List Int), (allF k xs).2.2 = 0 ∨ (allF k xs).2.2 = 1 ∨ (allF k xs).2.2 = 2 := fun k => by
    induction k with
    | zero => exact fun xs => Or.inl rfl
    | succ k ih =>
      intro xs
      unfold allF
      split
      · exact Or.inl rfl
      · split
        · exact Or.inr (Or.inl rfl)
        · exact Or.inr (Or.inr rfl)
        · exact ih _
  exact this xs.length xs

/-- each frame is some of the bytes -/
theorem nextB_sub {xs f r : List Int} (h : nextB xs = .whole f r) : ∃ i n, f = (xs.drop i).take n := by
  unfold nextB at h
  split at h
  · simp at h
  · cases ht : takeN xs 0 0 with
    | none => rw [ht] at h; simp at h
    | some p =>
      obtain ⟨n, q⟩ := p
      rw [ht] at h
      simp only at h
      split at h
      · simp at h
      · split at h
        · simp at h
        · split at h
          · simp only [NextR.whole.injEq] at h
            obtain ⟨j, hj, e⟩ := takeN_rest ht
            exact ⟨j, n, by rw [← h.1, e]⟩
          · simp at h
theorem allB_sub : ∀ (k : Nat) (xs : List Int), ∀ f ∈ (allF k xs).1, ∃ i n, f = (xs.drop i).take n := fun k => by
  induction k with
  | zero => exact fun xs f hf => by simp [allF] at hf
  | succ k ih =>
    intro xs f hf
    unfold allF at hf
    split at hf
    · simp at hf
    · split at hf
      · simp at hf
      · simp at hf
      · rename_i f' r hn
        rcases List.mem_cons.1 hf with rfl | hf
        · exact nextB_sub hn
        · obtain ⟨i, n, e⟩ := ih r f hf
          obtain ⟨-, j, hj⟩ := nextB_shorter hn
          exact ⟨j + i, n, by rw [e, hj, List.drop_drop]⟩
theorem allB_oct {xs : List Int} (ho : Octets xs) : ∀ f ∈ (allB xs).1, Octets f ∧ f.length ≤ xs.length := fun f hf => by
  obtain ⟨i, n, e⟩ := allB_sub _ _ f hf
  rw [e]
  exact ⟨fun x hx => ho x (List.mem_of_mem_drop (List.mem_of_mem_take hx)), by rw [List.length_take, List.length_drop]; omega⟩
theorem decB_right {xs : List Int} {s : MS} (h : decB xs = some s) : s.Right := by
  unfold decB at h
  split at h
  · simp at h
  · split at h
    · simp only [Option.some.injEq] at h
      rename_i h1
      rw [← h]
      exact h1.2.2
    · simp at h

theorem allF_len : ∀ (k : Nat) (xs : List Int), (allF k xs).1.length ≤ xs.length := fun k => by
  induction k with
  | zero => exact fun xs => by simp [allF]
  | succ k ih =>
    intro xs
    unfold allF
    split
    · simp
    · split
      · simp
      · simp
      · rename_i f r hn
        have := ih r
        have := (nextB_shorter hn).1
        simp only [List.length_cons]
        omega

theorem RowsAt.cell {w : World} {v : Value} {ds : List (List Int)} (h : RowsAt w v ds) : ∃ A c, v = .slice A ds.length c ∧ ∀ k (hk : k < ds.length), ∃ b off u, A = some ⟨b, off, none⟩ ∧ b < w.heap.size ∧ w.cell? ⟨b, off + k, none⟩ = some u ∧ BytesAt w u ds[k] := by
  obtain ⟨A, c, rfl, h1⟩ := h
  refine ⟨A, c, rfl, fun k hk => ?_⟩
  obtain ⟨b, off, e, hb, h2⟩ := h1 (fun e => by rw [e] at hk; simp at hk)
  obtain ⟨u, hu, hB⟩ := h2 k hk
  exact ⟨b, off, u, e, hb, hu, hB⟩
end Go.Proofs.Ytkefciacdmbidaa
