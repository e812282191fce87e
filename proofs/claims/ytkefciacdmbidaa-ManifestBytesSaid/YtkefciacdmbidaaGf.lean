/- DERIVED: THE SHELF's CONTRACTS AT THIS DUMP, IN PLAIN WORDS (tools/lay-plain.mjs out of 'YtkefciacdmbidaaIts.lean', which tools/lay-shelf.mjs wrote): THE SAME DECLARATIONS UNDER THE SAME NAMES: 'impor Sort, Compact of whole numbers, on a row that was made. Right: is a state right? Encode: a state's bytes. -/
import Derived.Shelf.Sort.Plain
import Derived.Shelf.Slices.Equal
import Derived.Ground.Names2Prog
import Derived.Shelf.Slices.CompactI
import Derived.Shelf.Slices.Cells
import Derived.Shelf.Slices.In.SortNone
import Derived.Shelf.Slices.Empties2
import Derived.Test.YtkefciacdmbidaaProg
import Derived.Test.YtkefciacdmbidaaGe
import Derived.Lib.OwnBridge
namespace Go.Proofs
open Go.Shelf
def Try.lays189_ren : Go.Shelf.Ren := ⟨fun | 189 => 68 | 125 => 86 | 257 => 85 | 128 => 107 | 129 => 108 | 294 => 98 | 295 => 99 | 296 => 100 | 297 => 101 | 298 => 102 | 299 => 103 | 216 => 104 | 300 => 105 | 301 => 106 | 328 => 123 | 329 => 124 | 330 => 125 | 331 => 126 | 332 => 127 | 215 => 128 | 343 => 135 | n => n, fun | 28 => 57 | 3 => 3 | 46 => 77 | 0 => 0 | 51 => 141 | 53 => 143 | 4 => 4 | 183 => 134 | 182 => 133 | 131 => 89 | 5 => 5 | 9 => 9 | 218 => 154 | 222 => 158 | 228 => 165 | 229 => 166 | n => n, fun | n => n⟩
theorem Try.lays189 : Go.Proofs.Lays.n189 Try.prog Try.lays189_ren := {
  mixed := by kernel_rfl
  f125 := Try.func86.trans (congrArg some (by kernel_rfl))
  f128 := Try.func107.trans (congrArg some (by kernel_rfl))
  f129 := Try.func108.trans (congrArg some (by kernel_rfl))
  f189 := Try.func68.trans (congrArg some (by kernel_rfl))
  f215 := Try.func128.trans (congrArg some (by kernel_rfl))
  f216 := Try.func104.trans (congrArg some (by kernel_rfl))
  f257 := Try.func85.trans (congrArg some (by kernel_rfl))
  f294 := Try.func98.trans (congrArg some (by kernel_rfl))
  f295 := Try.func99.trans (congrArg some (by kernel_rfl))
  f296 := Try.func100.trans (congrArg some (by kernel_rfl))
  f297 := Try.func101.trans (congrArg some (by kernel_rfl))
  f298 := Try.func102.trans (congrArg some (by kernel_rfl))
  f299 := Try.func103.trans (congrArg some (by kernel_rfl))
  f300 := Try.func105.trans (congrArg some (by kernel_rfl))
  f301 := Try.func106.trans (congrArg some (by kernel_rfl))
  f328 := Try.func123.trans (congrArg some (by kernel_rfl))
  f329 := Try.func124.trans (congrArg some (by kernel_rfl))
  f330 := Try.func125.trans (congrArg some (by kernel_rfl))
  f331 := Try.func126.trans (congrArg some (by kernel_rfl))
  f332 := Try.func127.trans (congrArg some (by kernel_rfl))
  f343 := Try.func135.trans (congrArg some (by kernel_rfl))
  t0 := Try.underlying0
  a0 := Try.isAgg0
  z0 := Try.sizeOf0
  v0 := Try.zeroValue0
  t3 := Try.underlying3
  a3 := Try.isAgg3
  z3 := Try.sizeOf3
  v3 := Try.zeroValue3
  t4 := Try.underlying4
  a4 := Try.isAgg4
  z4 := Try.sizeOf4
  v4 := Try.zeroValue4
  t5 := Try.underlying5
  a5 := Try.isAgg5
  z5 := Try.sizeOf5
  v5 := Try.zeroValue5
  t9 := Try.underlying9
  a9 := Try.isAgg9
  z9 := Try.sizeOf9
  v9 := Try.zeroValue9
  t28 := Try.underlying57
  a28 := Try.isAgg57
  z28 := Try.sizeOf57
  v28 := Try.zeroValue57
  t46 := Try.underlying77
  a46 := Try.isAgg77
  z46 := Try.sizeOf77
  v46 := Try.zeroValue77
  t51 := Try.underlying141
  a51 := Try.isAgg141
  z51 := Try.sizeOf141
  v51 := Try.zeroValue141
  t53 := Try.underlying143
  a53 := Try.isAgg143
  z53 := Try.sizeOf143
  v53 := Try.zeroValue143
  t131 := Try.underlying89
  a131 := Try.isAgg89
  z131 := Try.sizeOf89
  v131 := Try.zeroValue89
  t182 := Try.underlying133
  a182 := Try.isAgg133
  z182 := Try.sizeOf133
  v182 := Try.zeroValue133
  t183 := Try.underlying134
  a183 := Try.isAgg134
  z183 := Try.sizeOf134
  v183 := Try.zeroValue134
  t218 := Try.underlying154
  a218 := Try.isAgg154
  z218 := Try.sizeOf154
  v218 := Try.zeroValue154
  t222 := Try.underlying158
  a222 := Try.isAgg158
  z222 := Try.sizeOf158
  v222 := Try.zeroValue158
  t228 := Try.underlying165
  a228 := Try.isAgg165
  z228 := Try.sizeOf165
  v228 := Try.zeroValue165
  t229 := Try.underlying166
  a229 := Try.isAgg166
  z229 := Try.sizeOf166
  v229 := Try.zeroValue166 }
def Try.lays111_ren : Go.Shelf.Ren := ⟨fun | 111 => 87 | n => n, fun | 28 => 57 | 3 => 3 | 4 => 4 | 0 => 0 | n => n, fun | n => n⟩
theorem Try.lays111 : Go.Proofs.Lays.n111 Try.prog Try.lays111_ren := {
  mixed := by kernel_rfl
  f111 := Try.func87.trans (congrArg some (by kernel_rfl))
  t0 := Try.underlying0
  a0 := Try.isAgg0
  z0 := Try.sizeOf0
  v0 := Try.zeroValue0
  t3 := Try.underlying3
  a3 := Try.isAgg3
  z3 := Try.sizeOf3
  v3 := Try.zeroValue3
  t4 := Try.underlying4
  a4 := Try.isAgg4
  z4 := Try.sizeOf4
  v4 := Try.zeroValue4
  t28 := Try.underlying57
  a28 := Try.isAgg57
  z28 := Try.sizeOf57
  v28 := Try.zeroValue57 }
def Try.laysNm220_ren : Go.Shelf.Ren := ⟨fun | 20 => 69 | n => n, fun | 22 => 57 | 3 => 3 | 4 => 4 | 0 => 0 | n => n, fun | n => n⟩
theorem Try.laysNm220 : Go.Proofs.Lays2.n20 Try.prog Try.laysNm220_ren := {
  mixed := by kernel_rfl
  f20 := Try.func69.trans (congrArg some (by kernel_rfl))
  t0 := Try.underlying0
  a0 := Try.isAgg0
  z0 := Try.sizeOf0
  v0 := Try.zeroValue0
  t3 := Try.underlying3
  a3 := Try.isAgg3
  z3 := Try.sizeOf3
  v3 := Try.zeroValue3
  t4 := Try.underlying4
  a4 := Try.isAgg4
  z4 := Try.sizeOf4
  v4 := Try.zeroValue4
  t22 := Try.underlying57
  a22 := Try.isAgg57
  z22 := Try.sizeOf57
  v22 := Try.zeroValue57
  i3 := by kernel_rfl }
open Go.Sort Go.RowKit in
theorem Try.slices_Sort_int (blk off cap : Nat) (zs : List Int) (w : World) (hH : Holds (Value.int .i64) w blk off zs.toArray) (hblk : blk < w.heap.size) (hsz : zs.length < 4611686018427387904) :
    Calls Try.prog 68 #[.slice (some ⟨blk, off, none⟩) zs.length cap] w fun e w' =>
      e = .returned (.tuple #[]) ∧ ∃ n os, w' = grow (putRow (Value.int .i64) (Sort.ahead w n) blk off (zs.mergeSort fun x y => decide (x ≤ y)).toArray) os := Any.slices_Sort_int Try.lays189 blk off cap zs w hH hblk hsz
open Go.RowKit Go.Sort in
theorem Try.slices_Sort_int_none (p : Option Addr) (cap : Nat) (w : World) :
    Calls Try.prog 68 #[.slice p 0 cap] w fun e w' => e = .returned (.tuple #[]) ∧ w' = w := Any.slices_Sort_int_none Try.lays189 p cap w
open Go.RowKit Go.Lib in
theorem Try.slices_Equal_int (b1 o1 n c b2 o2 m d : Nat) (xs ys : List Int) (w : World) (hx : n ≤ xs.length) (hy : m ≤ ys.length) (hbig : n ≤ 9223372036854775807) (hbig2 : m ≤ 9223372036854775807) (hc1 : ∀ j, j < xs.length → w.cell? ⟨b1, o1 + j, none⟩ = some (.int .i64 (xs.getD j 0))) (hc2 : ∀ j, j < ys.length → w.cell? ⟨b2, o2 + j, none⟩ = some (.int .i64 (ys.getD j 0))) :
    Calls Try.prog 87 #[.slice (some ⟨b1, o1, none⟩) n c, .slice (some ⟨b2, o2, none⟩) m d] w fun e w' => e = .returned (.bool (xs.take n == ys.take m)) ∧ ∃ q, w' = w.drewN q := Any.slices_Equal_int Try.lays111 b1 o1 n c b2 o2 m d xs ys w hx hy hbig hbig2 hc1 hc2
open Go.RowKit Go.Lib in
theorem Try.slices_Equal_int_empty (a1 a2 : Option Addr) (c m d : Nat) (w : World) (hbig2 : m ≤ 9223372036854775807) :
    Calls Try.prog 87 #[.slice a1 0 c, .slice a2 m d] w fun e w' => e = .returned (.bool (decide (m = 0))) ∧ w' = w := Any.slices_Equal_int_empty Try.lays111 a1 a2 c m d w hbig2
open Go.RowKit Go.Lib in
theorem Try.slices_Equal_int_lens (a1 a2 : Option Addr) (n c m d : Nat) (w : World) (hnm : n ≠ m) :
    Calls Try.prog 87 #[.slice a1 n c, .slice a2 m d] w fun e w' => e = .returned (.bool false) ∧ w' = w := Any.slices_Equal_int_lens Try.lays111 a1 a2 n c m d w hnm
open Go.RowKit Go.Lib Go.Sort in
theorem Try.slices_Compact_int (blk off cap : Nat) (zs : List Int) (w : World) (hH : Holds (Value.int .i64) w blk off zs.toArray) (hsz : zs.length ≤ 9223372036854775807) (hcap : zs.length ≤ cap) :
    Calls Try.prog 69 #[.slice (some ⟨blk, off, none⟩) zs.length cap] w fun e w' => e = .returned (.slice (some ⟨blk, off, none⟩) (Lib.compact zs).length cap) ∧ ∃ q, w' = putRow (Value.int .i64) (Sort.ahead w q) blk off (Lib.compact zs ++ List.replicate (zs.length - (Lib.compact zs).length) 0).toArray := Any.slices_Compact_int Try.laysNm220 blk off cap zs w hH hsz hcap
open Go.RowKit Go.Lib Go.Sort in
theorem Try.slices_Compact_int_empty (a : Option Addr) (cap : Nat) (w : World) :
    Calls Try.prog 69 #[.slice a 0 cap] w fun e w' => e = .returned (.slice a 0 cap) ∧ w' = w := Any.slices_Compact_int_empty Try.laysNm220 a cap w
end Go.Proofs

namespace Go.Proofs.Ytkefciacdmbidaa
open Go.RowKit Go.WideMaps Go.Maps Go.Sort Go.Lib

def sortI (zs : List Int) : List Int := zs.mergeSort fun x y => decide (x ≤ y)
theorem sortI_perm (zs : List Int) : (sortI zs).Perm zs := List.mergeSort_perm _ _
theorem sortI_length (zs : List Int) : (sortI zs).length = zs.length := (sortI_perm zs).length_eq
theorem sortI_sorted (zs : List Int) : (sortI zs).Pairwise (· ≤ ·) := by
  have := List.pairwise_mergeSort (le := fun x y : Int => decide (x ≤ y)) (fun a b c h1 h2 => by simp at *; omega) (fun a b => by simp; omega) zs
  exact this.imp fun h => by simpa using h

theorem ownsRow_grow {w : World} {base : Nat} {e : TypeId} {size : Nat} {v : Value} {n : Nat} {xs : List Value} (h : w.ownsRow base e size v n xs) (os : Array Obj) : (grow w os).ownsRow base e size v n xs :=
  ownsRow_block h fun g hg => heap_grow_old _ _ (h.lt g hg).2

/-- a row that was made, changed in place -/
def Turned (w : World) (B : Nat) (v : Value) (xs : List Int) (w' : World) : Prop :=
  w'.ownsRow B 3 1 v xs.length (xs.map (Value.int .i64)) ∧ ∀ w0, Below B w0 w → Below B w0 w'

theorem sortI_any (w : World) (B : Nat) (v : Value) (zs : List Int) (h : w.ownsRow B 3 1 v zs.length (zs.map (Value.int .i64))) (hn : zs.length ≤ 1000000) :
    Calls Try.prog 68 #[v] w fun e w' => e = .returned (.tuple #[]) ∧ Turned w B v (sortI zs) w' := by
  by_cases h0 : v = .slice none 0 0
  · subst h0
    have hz : zs = [] := by
      rcases h.2 with ⟨_, e⟩ | ⟨g, cap, cur, e, _⟩
      · exact List.length_eq_zero_iff.1 e
      · cases e
    subst hz
    exact (Try.slices_Sort_int_none none 0 w).mono fun e w' ⟨he, hw⟩ => by
      subst hw
      have e0 : sortI ([] : List Int) = [] := by simp [sortI]
      rw [e0]
      exact ⟨he, h, fun w0 hb => hb⟩
  · obtain ⟨g, cap, rfl, hb, hlt, hc, hm, hl, hH⟩ := holds_of_ownsRow h h0
    refine (Try.slices_Sort_int g 0 cap zs w hH hlt (by omega)).mono fun e w' ⟨he, n, os, hw⟩ => ?_
    subst hw
    have h1 := ownsRow_putRow (q := n) (k := zs.length) (ys := sortI zs) h (sortI_length zs) (Nat.le_refl _)
    rw [List.take_of_length_le (by rw [sortI_length]; exact Nat.le_refl _)] at h1
    refine ⟨he, ?_, fun w0 h2 => ?_⟩
    · rw [sortI_length]
      exact ownsRow_grow h1 os
    · exact (below_putRow h2 hb).trans ⟨rfl, rfl, rfl, by simp [grow], fun k hk => heap_grow_old _ _ (by simp; omega)⟩

theorem compactI_any (w : World) (B : Nat) (v : Value) (zs : List Int) (h : w.ownsRow B 3 1 v zs.length (zs.map (Value.int .i64))) (hn : zs.length ≤ 1000000) :
    Calls Try.prog 69 #[v] w fun e w' => ∃ A c, e = .returned (.slice A (compact zs).length c) ∧ ∀ w0, Below B w0 w → Below B w0 w' := by
  by_cases h0 : v = .slice none 0 0
  · subst h0
    have hz : zs = [] := by
      rcases h.2 with ⟨_, e⟩ | ⟨g, cap, cur, e, _⟩
      · exact List.length_eq_zero_iff.1 e
      · cases e
    subst hz
    exact (Try.slices_Compact_int_empty none 0 w).mono fun e w' ⟨he, hw⟩ => by
      subst hw
      exact ⟨none, 0, he, fun w0 hb => hb⟩
  · obtain ⟨g, cap, rfl, hb, hlt, hc, hm, hl, hH⟩ := holds_of_ownsRow h h0
    refine (Try.slices_Compact_int g 0 cap zs w hH (by omega) hc).mono fun e w' ⟨he, n, hw⟩ => ?_
    subst hw
    exact ⟨_, _, he, fun w0 h2 => below_putRow h2 hb⟩

/-! sorted rows without two alike -/
theorem compact_nodup {zs : List Int} (h : zs.Nodup) : compact zs = zs := by
  refine compact_all zs fun j hj => ?_
  by_cases h0 : j = 0
  · simp [keeps, h0]
  · refine keeps_pos fun e => ?_
    have h1 : zs[j]'hj = zs[j - 1]'(by omega) := by
      simpa [hj, show j - 1 < zs.length by omega] using e
    exact List.pairwise_iff_getElem.1 h (j - 1) j (by omega) hj (by omega) h1.symm
theorem compactUpTo_le (d : Array Int) (m : Nat) : (compactUpTo d m).length ≤ m := by
  unfold compactUpTo
  rw [List.length_map]
  exact Nat.le_trans (List.length_filter_le _ _) (by simp)
theorem compactUpTo_full (d : Array Int) : ∀ m, (compactUpTo d m).length = m → ∀ j, j < m → keeps d j = true
  | 0, _, j, hj => absurd hj (Nat.not_lt_zero _)
  | m + 1, h, j, hj => by
    rw [compactUpTo_succ, List.length_append] at h
    have hle := compactUpTo_le d m
    by_cases hk : keeps d m = true
    · rw [if_pos hk] at h
      simp at h
      by_cases hjm : j = m
      · rw [hjm]
        exact hk
      · exact compactUpTo_full d m h j (by omega)
    · rw [if_neg hk] at h
      simp at h
      omega
theorem sorted_nodup {zs : List Int} (hs : zs.Pairwise (· ≤ ·)) : (compact zs).length = zs.length ↔ zs.Nodup := by
  constructor
  · intro h
    have hk := compactUpTo_full zs.toArray zs.length h
    have hstep : ∀ j (h1 : j + 1 < zs.length), zs[j]'(by omega) < zs[j + 1] := fun j h1 => by
      have h2 := hk (j + 1) h1
      simp [keeps] at h2
      have h3 := List.pairwise_iff_getElem.1 hs j (j + 1) (by omega) h1 (by omega)
      have h4 : zs[j + 1]?.getD default ≠ zs[j]?.getD default := by simpa using h2
      simp [h1, show j < zs.length by omega] at h4
      omega
    have hlt : ∀ (i k : Nat) (hk : i + k + 1 < zs.length), zs[i]'(by omega) < zs[i + k + 1] := fun i k => by
      induction k with
      | zero => exact fun hk => hstep i hk
      | succ k ih => exact fun hk => Int.lt_trans (ih (by omega)) (hstep (i + k + 1) hk)
    rw [List.Nodup, List.pairwise_iff_getElem]
    intro i j hi hj hij e
    obtain ⟨k, rfl⟩ : ∃ k, j = i + k + 1 := ⟨j - i - 1, by omega⟩
    have := hlt i k hj
    omega
  · intro h
    rw [compact_nodup h]
end Go.Proofs.Ytkefciacdmbidaa

namespace Go.Proofs.Ytkefciacdmbidaa
open Go.RowKit Go.WideMaps Go.Maps Go.Lib

structure MS where
  gen : Int
  applied : Int
  next : Int
  tables : List Int
structure MS.Basic (s : MS) : Prop where
  g1 : 1 ≤ s.gen
  g2 : s.gen ≤ 1099511627776
  a1 : 0 ≤ s.applied
  a2 : s.applied ≤ 1099511627776
  n1 : 1 ≤ s.next
  n2 : s.next ≤ 999999
  t : s.tables.length ≤ 50
structure MS.Right (s : MS) : Prop where
  basic : s.Basic
  range : ∀ t ∈ s.tables, 1 ≤ t ∧ t < s.next
  nodup : s.tables.Nodup
noncomputable def rightM (s : MS) : Bool := @decide s.Right (Classical.propDecidable _)
theorem rightM_true {s : MS} : rightM s = true ↔ s.Right := by simp [rightM]
theorem rightM_false {s : MS} : rightM s = false ↔ ¬ s.Right := by simp [rightM]
theorem rightM_no {s : MS} (h : ¬ s.Right) : rightM s = false := rightM_false.2 h

def msV (s : MS) (tv : Value) : Value := .agg #[.int .i64 s.gen, .int .i64 s.applied, .int .i64 s.next, tv]

theorem row_cell {w : World} {B n c : Nat} {A : Option Addr} {zs : List Int} (h : w.ownsRow B 3 1 (.slice A n c) n (zs.map (Value.int .i64))) {k : Nat} (hk : k < zs.length) : ∃ g, A = some ⟨g, 0, none⟩ ∧ w.cell? ⟨g, k, none⟩ = some (.int .i64 zs[k]) := by
  have hl : zs.length = n := by simpa using h.1
  rcases h.2 with ⟨e1, e2⟩ | ⟨g, cap, cur, e1, _⟩
  · omega
  · simp only [Value.slice.injEq] at e1
    refine ⟨g, e1.1, ?_⟩
    have h2 := h.cells (g := g) (by rw [e1.1]; rfl) k (.int .i64 zs[k]) (by simp [hk])
    rw [add_flat', Nat.zero_add] at h2
    exact h2

theorem rightM_end {s : MS} (hb : s.Basic) (hr : ∀ t ∈ s.tables, 1 ≤ t ∧ t < s.next) : (((compact (sortI s.tables)).length : Int) == (s.tables.length : Int)) = rightM s := by
  have h1 := sorted_nodup (sortI_sorted s.tables)
  rw [sortI_length] at h1
  by_cases hn : s.tables.Nodup
  · have h2 : (sortI s.tables).Nodup := (sortI_perm s.tables).nodup_iff.2 hn
    rw [rightM_true.2 ⟨hb, hr, hn⟩, h1.2 h2]
    simp
  · have h2 : ¬ (sortI s.tables).Nodup := fun h => hn ((sortI_perm s.tables).nodup_iff.1 h)
    rw [rightM_no fun h => hn h.nodup]
    rw [beq_eq_false_iff_ne]
    exact fun e => h2 (h1.1 (by omega))

set_option maxRecDepth 100000 in
set_option maxHeartbeats 2000000 in
theorem mright_any (w : World) (s : MS) (tv : Value) (h : IntsAt w tv s.tables) (hn : s.tables.length * 8 ≤ 140737488355328) : Calls Try.prog 42 #[msV s tv] w (IsB w (rightM s)) := by
  obtain ⟨A, c, rfl, -⟩ := Srcs.slice h
  have hb0 : Below w.heap.size w (w.alloc (.cells #[.int .i64 s.gen, .int .i64 s.applied, .int .i64 s.next, .slice A s.tables.length c] 61)) := (Below.refl _ _).alloc (Nat.le_refl _) _
  have hcl := clone64_any _ _ _ (srcs_below h hb0) hn
  obtain ⟨wb, hwb⟩ : ∃ wb, wb = w.alloc (.cells #[.int .i64 s.gen, .int .i64 s.applied, .int .i64 s.next, .slice A s.tables.length c] 61) := ⟨_, rfl⟩
  have hc2 : wb.cell? ⟨w.heap.size, 2, none⟩ = some (.int .i64 s.next) := by rw [hwb, cell_of (heap_alloc_new w _)]; rfl
  have hc3 : wb.cell? ⟨w.heap.size, 3, none⟩ = some (.slice A s.tables.length c) := by rw [hwb, cell_of (heap_alloc_new w _)]; rfl
  have hwl : w.heap.size < wb.heap.size := by rw [hwb]; simp
  have Hb0 := Lib.hid hb0
  have Hcl := Lib.hid hcl
  have Hwb := Lib.hid hwb
  have Hc2 := Lib.hid hc2
  have Hc3 := Lib.hid hc3
  clear hb0 hcl h hwb hc2 hc3
  unfold msV
  by_cases c1 : s.gen < 1
  · go_enter Try.func42, Try.ntmps42
    go_wp2
    go_ret
    exact ⟨ret_bool (rightM_no fun h => by have := h.basic.g1; omega).symm, Hb0.out⟩
  by_cases c2 : 1099511627776 < s.gen
  · go_enter Try.func42, Try.ntmps42
    go_wp2
    go_ret
    exact ⟨ret_bool (rightM_no fun h => by have := h.basic.g2; omega).symm, Hb0.out⟩
  by_cases c3 : s.applied < 0
  · go_enter Try.func42, Try.ntmps42
    go_wp2
    go_ret
    exact ⟨ret_bool (rightM_no fun h => by have := h.basic.a1; omega).symm, Hb0.out⟩
  by_cases c4 : 1099511627776 < s.applied
  · go_enter Try.func42, Try.ntmps42
    go_wp2
    go_ret
    exact ⟨ret_bool (rightM_no fun h => by have := h.basic.a2; omega).symm, Hb0.out⟩
  by_cases c5 : s.next < 1
  · go_enter Try.func42, Try.ntmps42
    go_wp2
    go_ret
    exact ⟨ret_bool (rightM_no fun h => by have := h.basic.n1; omega).symm, Hb0.out⟩
  by_cases c6 : 999999 < s.next
  · go_enter Try.func42, Try.ntmps42
    go_wp2
    go_ret
    exact ⟨ret_bool (rightM_no fun h => by have := h.basic.n2; omega).symm, Hb0.out⟩
  by_cases c7 : 50 < s.tables.length
  · go_enter Try.func42, Try.ntmps42
    go_wp2
    go_ret
    exact ⟨ret_bool (rightM_no fun h => by have := h.basic.t; omega).symm, Hb0.out⟩
  have hbasic : s.Basic := ⟨by omega, by omega, by omega, by omega, by omega, by omega, by omega⟩
  have Hbasic := Lib.hid hbasic
  clear hbasic
  go_enter Try.func42, Try.ntmps42
  go_wp2_with fail
  refine Hcl.out.mono ?_
  rintro e w1 ⟨v, rfl, hown, hb1⟩
  rw [← Hwb.out] at hown hb1
  have hso := sortI_any w1 wb.heap.size v s.tables hown (by omega)
  obtain ⟨D, dc, rfl, -⟩ := ownsRow_slice hown
  have Hso := Lib.hid hso
  have Hb1 := Lib.hid hb1
  clear hso hb1 hown Hcl
  go_wp2_with fail
  refine Hso.out.mono ?_
  rintro e w2 ⟨rfl, hown2, hbel2⟩
  have hb2 := hbel2 _ Hb1.out
  obtain ⟨n, hnn⟩ : ∃ n, n = s.tables.length := ⟨_, rfl⟩
  have hlen : (sortI s.tables).length = n := by rw [sortI_length, hnn]
  have d2 : w2.cell? ⟨w.heap.size, 2, none⟩ = some (.int .i64 s.next) := (hb2.cell (p := ⟨w.heap.size, 2, none⟩) hwl).trans Hc2.out
  have d3 : w2.cell? ⟨w.heap.size, 3, none⟩ = some (.slice A s.tables.length c) := (hb2.cell (p := ⟨w.heap.size, 3, none⟩) hwl).trans Hc3.out
  rw [hlen, ← hnn] at hown2
  rw [← hnn] at d3 c7
  rw [← hnn]
  obtain ⟨zs, hzs⟩ : ∃ zs, zs = sortI s.tables := ⟨_, rfl⟩
  rw [← hzs] at hown2 hlen
  have hcomp := fun (W : World) (hW : W.heap = w2.heap) => compactI_any W wb.heap.size (.slice D n dc) zs (by rw [hlen]; exact ownsRow_block hown2 fun g _ => by rw [hW]) (by omega)
  have hb2w : ∀ m : Nat, Below wb.heap.size wb (w2.drewN m) := fun m => ⟨hb2.os, hb2.tape, hb2.output, hb2.size, hb2.block⟩
  have Hb2w := Lib.hid hb2w
  have Hown2 := Lib.hid hown2
  have Hb2 := Lib.hid hb2
  have Hnn := Lib.hid hnn
  have Hzs := Lib.hid hzs
  have Hlen := Lib.hid hlen
  have Hcomp := Lib.hid hcomp
  clear hown2 hbel2 hb2 hb2w hnn hzs hlen hcomp Hso Hb1
  have hcell : ∀ W W' : World, Below wb.heap.size wb W → (∀ w0, Below wb.heap.size w0 W → Below wb.heap.size w0 W') → W'.cell? ⟨w.heap.size, 3, none⟩ = some (.slice A n c) ∧ Below w.heap.size w W' := fun W W' h1 hB => by
    have h2 := hB wb h1
    have h3 : Below w.heap.size w wb := by rw [Hwb.out]; exact Hb0.out
    exact ⟨(h2.cell (p := ⟨w.heap.size, 3, none⟩) hwl).trans (by rw [Hc3.out, Hnn.out]), h3.trans (h2.mono (Nat.le_of_lt hwl))⟩
  have Hcell := Lib.hid hcell
  clear hcell
  have hmem : ∀ t ∈ zs, t ∈ s.tables := fun t ht => (sortI_perm s.tables).mem_iff.1 (by rw [← Hzs.out]; exact ht)
  have hbw : ∀ k : Nat, Below w.heap.size w (w2.drewN k) := fun k => by
    have h3 : Below w.heap.size w wb := by rw [Hwb.out]; exact Hb0.out
    exact h3.trans ((Hb2w.out k).mono (Nat.le_of_lt hwl))
  have Hmem := Lib.hid hmem
  have Hbw := Lib.hid hbw
  clear hmem hbw
  by_cases h0 : n = 0
  · have hg0 : decide ((0 : Int) < (n : Int)) = false := by simp [h0]
    have hn0 : ¬ 0 < n := by omega
    have H0 := Lib.hid h0
    clear h0
    go_wp2_with fail
    go_quiet (fail)
    go_wp2_with fail
    go_region_with (go_at_call 69; refine (Hcomp.out _ ?_).mono ?_; exact rfl; rintro e w4 ⟨CA, cc, rfl, hb4⟩; have hx := Hcell.out _ _ (Hb2w.out _) hb4; have Hx := Lib.hid hx.2; have hx1 := hx.1; clear hx hb4)
    all_goals (
      go_wp2
      go_ret
      refine ⟨ret_bool ?_, Hx.out⟩
      rw [Hzs.out, Hnn.out]
      exact rightM_end Hbasic.out fun t ht => by
        have := Hnn.out
        rw [H0.out] at this
        rw [List.length_eq_zero_iff.1 this.symm] at ht
        exact absurd ht List.not_mem_nil)
  · obtain ⟨m, rfl⟩ : ∃ m, n = m + 1 := ⟨n - 1, by omega⟩
    have hg0 : decide ((0 : Int) < ((m + 1 : Nat) : Int)) = true := by simp
    have hlz : 0 < zs.length := by rw [Hlen.out]; omega
    have hlz2 : m < zs.length := by rw [Hlen.out]; omega
    obtain ⟨g, rfl, hcell0⟩ := row_cell Hown2.out hlz
    obtain ⟨g', e', hcellm⟩ := row_cell Hown2.out hlz2
    cases e'
    obtain ⟨a, ha⟩ : ∃ a, a = zs[0] := ⟨_, rfl⟩
    obtain ⟨b, hb⟩ : ∃ b, b = zs[m] := ⟨_, rfl⟩
    rw [← ha] at hcell0
    rw [← hb] at hcellm
    have Ha := Lib.hid ha
    have Hb := Lib.hid hb
    have hcast : ((m + 1 : Nat) : Int) - 1 = (m : Int) := by omega
    have hi1 : (m : Int) < ((m + 1 : Nat) : Int) := by omega
    clear ha hb
    by_cases ha1 : a < 1
    · have hda : decide (a < 1) = true := by simp [ha1]
      go_wp2_with fail
      go_quiet (fail)
      go_wp2_with fail
      go_ret
      refine ⟨ret_bool (rightM_no fun h => ?_).symm, Hbw.out _⟩
      have := (h.range a (Hmem.out a (by rw [Ha.out]; exact List.getElem_mem hlz))).1
      omega
    · have hda : decide (a < 1) = false := by simp [ha1]
      by_cases hb1 : s.next ≤ b
      · have hdb : decide (s.next ≤ b) = true := by simp [hb1]
        go_wp2_with fail
        go_quiet (fail)
        go_wp2_with fail
        go_ret
        refine ⟨ret_bool (rightM_no fun h => ?_).symm, Hbw.out _⟩
        have := (h.range b (Hmem.out b (by rw [Hb.out]; exact List.getElem_mem hlz2))).2
        omega
      · have hdb : decide (s.next ≤ b) = false := by simp [hb1]
        have hrange : ∀ t ∈ s.tables, 1 ≤ t ∧ t < s.next := fun t ht => by
          have h1 : t ∈ zs := by rw [Hzs.out]; exact (sortI_perm s.tables).mem_iff.2 ht
          obtain ⟨k, hk, e⟩ := List.mem_iff_getElem.1 h1
          have h2 : zs.Pairwise (· ≤ ·) := by rw [Hzs.out]; exact sortI_sorted _
          have hkm : k ≤ m := by have := Hlen.out; omega
          have h3 : zs[0] ≤ t := by
            rcases Nat.eq_zero_or_pos k with h4 | h4
            · subst h4
              rw [e]
              exact Int.le_refl _
            · rw [← e]
              exact List.pairwise_iff_getElem.1 h2 0 k hlz hk h4
          have h5 : t ≤ zs[m] := by
            rcases Nat.lt_or_ge k m with h4 | h4
            · rw [← e]
              exact List.pairwise_iff_getElem.1 h2 k m hk hlz2 h4
            · have h6 : k = m := by omega
              subst h6
              rw [e]
              exact Int.le_refl _
          rw [← Ha.out] at h3
          rw [← Hb.out] at h5
          omega
        have Hrange := Lib.hid hrange
        clear hrange
        go_wp2_with fail
        go_quiet (fail)
        go_wp2_with fail
        go_region_with (go_at_call 69; refine (Hcomp.out _ ?_).mono ?_; exact rfl; rintro e w4 ⟨CA, cc, rfl, hb4⟩; have hx := Hcell.out _ _ (Hb2w.out _) hb4; have Hx := Lib.hid hx.2; have hx1 := hx.1; clear hx hb4)
        all_goals (
          go_wp2
          go_ret
          refine ⟨ret_bool ?_, Hx.out⟩
          have e5 := rightM_end Hbasic.out Hrange.out
          rw [← Hzs.out, ← Hnn.out] at e5
          simpa using e5)
end Go.Proofs.Ytkefciacdmbidaa

namespace Go.Proofs.Ytkefciacdmbidaa
open Go.RowKit Go.WideMaps Go.Maps Go.Lib

def MS.nums (s : MS) : List Int := [s.gen, s.applied, s.next, (s.tables.length : Int)] ++ s.tables
def encL (l : List Int) : List Int := l.flatMap fun n => numN n.toNat
def encB (s : MS) : List Int := encL s.nums
theorem encL_take {l : List Int} {k : Nat} (h : k < l.length) : encL (l.take (k + 1)) = encL (l.take k) ++ numN l[k].toNat := by
  unfold encL
  rw [List.take_succ_eq_append_getElem h, List.flatMap_append]
  simp
theorem encL_len : ∀ l : List Int, (∀ x ∈ l, x ≤ 9223372036854775807) → (encL l).length ≤ 9 * l.length
  | [], _ => by simp [encL]
  | a :: r, h => by
    have h1 := encL_len r fun x hx => h x (List.mem_cons_of_mem _ hx)
    have h2 := numN_len 8 a.toNat (by have := h a List.mem_cons_self; omega)
    unfold encL at h1 ⊢
    rw [List.flatMap_cons, List.length_append, List.length_cons]
    omega
theorem MS.Right.nums {s : MS} (h : s.Right) : ∀ x ∈ s.nums, 0 ≤ x ∧ x ≤ 1099511627776 := fun x hx => by
  have hb := h.basic
  have h1 := hb.g1; have h2 := hb.g2; have h3 := hb.a1; have h4 := hb.a2; have h5 := hb.n1; have h6 := hb.n2; have h7 := hb.t
  unfold MS.nums at hx
  simp only [List.cons_append, List.nil_append, List.mem_cons] at hx
  rcases hx with rfl | rfl | rfl | rfl | hx
  · omega
  · omega
  · omega
  · omega
  · have := h.range x hx
    omega
theorem MS.nums_length (s : MS) : s.nums.length = s.tables.length + 4 := by simp [MS.nums]

def EncPost (w : World) (s : MS) (e : Ending) (w' : World) : Prop :=
  Below w.heap.size w w' ∧ ((s.Right ∧ ∃ v, e = .returned (.tuple #[v, .bool true]) ∧ w'.ownsRow w.heap.size 5 1 v (encB s).length ((encB s).map (Value.int .u8))) ∨ (¬ s.Right ∧ e = .returned (.tuple #[.slice none 0 0, .bool false])))

theorem ints_cell {w : World} {A : Option Addr} {c n : Nat} {zs : List Int} (h : IntsAt w (.slice A n c) zs) {k : Nat} (hk : k < zs.length) : ∃ b off, A = some ⟨b, off, none⟩ ∧ w.cell? ⟨b, off + k, none⟩ = some (.int .i64 zs[k]) := by
  obtain ⟨A', c', e, -, h2⟩ := srcs_at h
  cases e
  obtain ⟨b, off, e, -, h3⟩ := h2 (by omega)
  exact ⟨b, off, e, h3 k _ (by simp [hk])⟩

set_option maxRecDepth 100000 in
set_option maxHeartbeats 1000000 in
theorem mencode_any (w : World) (s : MS) (tv : Value) (h : IntsAt w tv s.tables) (hn : s.tables.length * 8 ≤ 140737488355328) : Calls Try.prog 35 #[msV s tv] w (EncPost w s) := by
  obtain ⟨A, c, rfl, -⟩ := Srcs.slice h
  obtain ⟨wb, hwb⟩ : ∃ wb, wb = w.alloc (.cells #[.int .i64 s.gen, .int .i64 s.applied, .int .i64 s.next, .slice A s.tables.length c] 61) := ⟨_, rfl⟩
  have hb0 : Below w.heap.size w wb := by rw [hwb]; exact (Below.refl _ _).alloc (Nat.le_refl _) _
  have hwl : w.heap.size < wb.heap.size := by rw [hwb]; simp
  have hcells : ∀ j, wb.cell? ⟨w.heap.size, j, none⟩ = #[Value.int .i64 s.gen, .int .i64 s.applied, .int .i64 s.next, .slice A s.tables.length c][j]? := fun j => by rw [hwb, cell_of (heap_alloc_new w _)]
  have hri := mright_any wb s _ (srcs_below h hb0) hn
  have Hri := Lib.hid hri
  have Hwb := Lib.hid hwb
  have Hb0 := Lib.hid hb0
  have Hcells := Lib.hid hcells
  have H := Lib.hid h
  clear hri hb0 hcells h
  unfold msV at Hri ⊢
  rw [hwb] at Hri
  clear hwb
  go_enter Try.func35, Try.ntmps35
  go_wp2_with fail
  refine Hri.out.mono ?_
  rintro e w1 ⟨rfl, hb1⟩
  rw [← Hwb.out] at hb1
  have hb01 := Hb0.out.trans (hb1.mono (Nat.le_of_lt hwl))
  have Hb01 := Lib.hid hb01
  cases hR : rightM s with
  | false =>
    have Hno := Lib.hid (rightM_false.1 hR)
    clear hR hb1 hb01 Hri
    go_wp2
    go_ret2
    exact ⟨Hb01.out, Or.inr ⟨Hno.out, rfl⟩⟩
  | true =>
    have hR := rightM_true.1 hR
    have hcell : ∀ j, w1.cell? ⟨w.heap.size, j, none⟩ = #[Value.int .i64 s.gen, .int .i64 s.applied, .int .i64 s.next, .slice A s.tables.length c][j]? := fun j => (hb1.cell (p := ⟨w.heap.size, j, none⟩) hwl).trans (Hcells.out j)
    have d0 : w1.cell? ⟨w.heap.size, 0, none⟩ = some (.int .i64 s.gen) := hcell 0
    have d1 : w1.cell? ⟨w.heap.size, 1, none⟩ = some (.int .i64 s.applied) := hcell 1
    have d2 : w1.cell? ⟨w.heap.size, 2, none⟩ = some (.int .i64 s.next) := hcell 2
    have d3 : w1.cell? ⟨w.heap.size, 3, none⟩ = some (.slice A s.tables.length c) := hcell 3
    have d3' : (w1.alloc (.cells #[.int .i64 s.gen, .int .i64 s.applied, .int .i64 s.next, .int .i64 s.tables.length] 3)).cell? ⟨w.heap.size, 3, none⟩ = some (.slice A s.tables.length c) := cell_alloc d3
    have hti := srcs_below H.out hb01
    have h50 := hR.basic.t
    have HR := Lib.hid hR
    have Hti := Lib.hid hti
    clear hR hb1 hb01 hcell hti Hri Hcells
    go_wp2_with (first | (at_builtin; go_loud (refine wpList_app _ rfl _ _ 57 rfl 3 1 8 _ Try.underlying57 info3 rfl (by decide) _ 4 [.int .i64 s.gen, .int .i64 s.applied, .int .i64 s.next, .int .i64 s.tables.length] rfl ?hrow _ s.tables.length (s.tables.map (Value.int .i64)) rfl ?hsrc ?h63 ?hby ?_)))
    case hrow => exact ownsRow_base0 (row_built w1 #[.int .i64 s.gen, .int .i64 s.applied, .int .i64 s.next, .int .i64 s.tables.length] 3 four_le)
    case hsrc => exact Hti.out.alloc _
    case h63 => unfold maxLen; omega
    case hby => omega
    intro o2 w2 ha
    have hL : Value.int .i64 s.gen :: .int .i64 s.applied :: .int .i64 s.next :: .int .i64 s.tables.length :: s.tables.map (Value.int .i64) = s.nums.map (Value.int .i64) := by simp [MS.nums]
    have hown : w2.ownsRow 0 3 1 o2 s.nums.length (s.nums.map (Value.int .i64)) := by
      have := ha.own
      rw [hL] at this
      rw [MS.nums_length, Nat.add_comm]
      exact this
    obtain ⟨L, hLd⟩ : ∃ L, L = s.nums := ⟨_, rfl⟩
    rw [← hLd] at hown
    have hLl : L.length = 4 + s.tables.length := by rw [hLd, MS.nums_length, Nat.add_comm]
    obtain ⟨B, bc, rfl, -⟩ := ownsRow_slice hown
    have hints : IntsAt w2 (.slice B L.length bc) L := ownsRow_srcs hown (one_i64 _)
    have hb12 : Below w1.heap.size w1 w2 := by
      have hb := (Below.refl w1.heap.size w1).alloc (Nat.le_refl _) (.cells #[.int .i64 s.gen, .int .i64 s.applied, .int .i64 s.next, .int .i64 s.tables.length] 3)
      exact hb.trans ⟨ha.grown.os, ha.grown.tape, ha.grown.output, ha.grown.size, fun k hk => ha.grown.block k (Nat.lt_of_lt_of_le hk hb.size) fun e => by
        cases e
        exact Nat.lt_irrefl _ hk⟩
    have hb02 := Hb01.out.trans (hb12.mono Hb01.out.size)
    have hrange := HR.out.nums
    rw [← hLd] at hrange
    have Hints := Lib.hid hints
    have Hb02 := Lib.hid hb02
    have Hrange := Lib.hid hrange
    have HLd := Lib.hid hLd
    have hL54 : L.length ≤ 54 := by omega
    clear ha hL hown hints hb12 hb02 hrange hLd hLl Hti H d0 d1 d2 d3 d3'
    go_wp2_with fail
    go_loopw [4, 24] (fun o i wr => ∃ (k n : Nat) (E : Option Addr) (ec : Nat) (es : List Int), k ≤ L.length ∧ i = .int .i64 k ∧ o = .slice E n ec ∧ Buf 5 1 w2 wr (.slice E n ec) n (es.map (Value.int .u8)) ∧ es = encL (L.take k) ∧ n = es.length) (fun _ i _ => L.length - (intOf i).toNat)
    case atStart => exact ⟨0, 0, _, _, [], Nat.zero_le _, rfl, rfl, Buf.nil 5 1 (Below.refl _ _), rfl, rfl⟩
    case round =>
      obtain ⟨k, n, E, ec, es, hk, rfl, rfl, hbuf, hes, hne⟩ := hrel
      have hsmall : n ≤ 1000 := by
        have h1 := encL_len (L.take k) fun x hx => by have := Hrange.out x (List.mem_of_mem_take hx); omega
        rw [← hes, ← hne, List.length_take] at h1
        omega
      have Hbuf := Lib.hid hbuf
      have Hes := Lib.hid hes
      have Hne := Lib.hid hne
      clear hbuf hes hne
      by_cases hlt : k < L.length
      · obtain ⟨b, off, rfl, hc⟩ := ints_cell (srcs_below Hints.out Hbuf.out.below) hlt
        have hr := Hrange.out L[k] (List.getElem_mem hlt)
        have htk := encL_take hlt
        obtain ⟨x, hx⟩ : ∃ x, x = L[k] := ⟨_, rfl⟩
        rw [← hx] at hc hr htk
        obtain ⟨y, rfl⟩ := Int.eq_ofNat_of_zero_le hr.1
        have hnum := num_any y wr (by omega)
        have hl9 := numN_len 8 y (by omega)
        have htk2 : encL (L.take (k + 1)) = es ++ numN y := by rw [htk, ← Hes.out]; rfl
        have Hnum := Lib.hid hnum
        have Htk := Lib.hid htk2
        clear hnum htk htk2 hx
        go_wp2_with fail
        refine Hnum.out.mono ?_
        rintro e w4 ⟨v4, rfl, hown4, hb4⟩
        have hbuf4 := Hbuf.out.step hb4
        have hsrc := ownsRow_srcs hown4 (one_u8 _)
        obtain ⟨q, hq⟩ : ∃ q, q = (numN y).length := ⟨_, rfl⟩
        rw [← hq] at hsrc hown4 hl9
        obtain ⟨D, dc, rfl, -⟩ := ownsRow_slice hown4
        have Hbuf4 := Lib.hid hbuf4
        have Hsrc := Lib.hid hsrc
        have Hq := Lib.hid hq
        clear hbuf4 hsrc hown4 hb4 hq Hnum Hbuf
        go_wp2_with (first | (at_builtin; refine wpList_app _ rfl _ _ 32 rfl 5 1 1 _ Try.underlying32 info5 rfl (by decide) _ n (es.map (Value.int .u8)) rfl (ownsRow_base0 Hbuf4.out.own) _ q ((numN y).map (Value.int .u8)) rfl Hsrc.out ?h63 ?hby ?_))
        case h63 => unfold maxLen; omega
        case hby => omega
        intro o5 w5 ha5
        have hbuf5 := Hbuf4.out.app (Below.refl _ _) ha5
        rw [← List.map_append, ← Htk.out] at hbuf5
        obtain ⟨E5, ec5, rfl⟩ := hbuf5.slice
        have Hbuf5 := Lib.hid hbuf5
        clear ha5 hbuf5
        go_wp2
        exact ⟨⟨k + 1, n + q, E5, ec5, _, by omega, by go_num, rfl, Hbuf5.out, rfl, by rw [Htk.out, List.length_append, Hne.out, Hq.out]⟩, by simp [intOf]; omega⟩
      · have hkl : k = L.length := by omega
        subst hkl
        go_wp2
        go_ret2
        have e1 : es = encB s := by
          rw [Hes.out, List.take_length, HLd.out]
          rfl
        have e2 := Hbuf.out
        rw [Hne.out, e1] at e2
        refine ⟨Hb02.out.trans (Hbuf.out.below.mono Hb02.out.size), Or.inl ⟨HR.out, _, ?_, ownsRow_rebase e2.own fun g hg => Nat.le_trans Hb02.out.size (e2.own.lt g hg).1⟩⟩
        rw [← e1, ← Hne.out]
        rfl
end Go.Proofs.Ytkefciacdmbidaa
