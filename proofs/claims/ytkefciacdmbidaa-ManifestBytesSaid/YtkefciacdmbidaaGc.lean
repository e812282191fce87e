/- DERIVED: THE SHELF's CONTRACTS AT THIS DUMP, IN PLAIN WORDS (tools/lay-plain.mjs out of 'YtkefciacdmbidaaIter.lean', which tools/lay-shelf.mjs wrote): THE SAME DECLARATIONS UNDER THE SAME NAMES: 'impo Names: the names of all files, in order. SameBytes, CopyBytes: helpers of the references. SameTexts. Texts: the order of two texts. alive: a disk that loses a byte. -/
import Derived.Shelf.SlIter.Nil
import Derived.Shelf.SortM.Plain
import Derived.Shelf.SortM.SortNone
import Derived.Ground.GgzProg
import Derived.Ground.SlgmProg
import Derived.Shelf.SlGeneric
import Derived.Test.YtkefciacdmbidaaProg
import Derived.Test.YtkefciacdmbidaaGa
import Derived.Test.YtkefciacdmbidaaGb
import Derived.Laws.BytesArg
import Derived.Lib.SlBytesConst
namespace Go.Proofs
open Go.Shelf
def Try.keys58_ren : Go.Shelf.Ren := ⟨fun | 7 => 58 | 10 => 81 | n => n, fun | 23 => 85 | 26 => 9 | 3 => 101 | 28 => 99 | 0 => 0 | 27 => 98 | 33 => 119 | 4 => 4 | n => n, fun | n => n⟩
theorem Try.keys58 : Go.Proofs.SlLaysZ.n7 Try.prog Try.keys58_ren := {
  mixed := by kernel_rfl
  f7 := ⟨Try.f58.name, by decide, Try.func58.trans (congrArg some (by kernel_rfl))⟩
  f10 := ⟨Try.f81.name, by decide, Try.func81.trans (congrArg some (by kernel_rfl))⟩
  t0 := Try.underlying0
  a0 := Try.isAgg0
  z0 := Try.sizeOf0
  v0 := Try.zeroValue0
  t4 := Try.underlying4
  a4 := Try.isAgg4
  z4 := Try.sizeOf4
  v4 := Try.zeroValue4
  t23 := Try.underlying85
  a23 := Try.isAgg85
  z23 := Try.sizeOf85
  v23 := Try.zeroValue85
  t26 := Try.underlying9
  a26 := Try.isAgg9
  z26 := Try.sizeOf9
  v26 := Try.zeroValue9
  t27 := Try.underlying98
  a27 := Try.isAgg98
  z27 := Try.sizeOf98
  v27 := Try.zeroValue98
  t28 := Try.underlying99
  a28 := Try.isAgg99
  z28 := Try.sizeOf99
  v28 := Try.zeroValue99
  t33 := Try.underlying119
  a33 := Try.isAgg119
  z33 := Try.sizeOf119
  v33 := Try.zeroValue119 }
def Try.sorted57_ren : Go.Shelf.Ren := ⟨fun | 6 => 57 | 8 => 79 | 9 => 80 | 11 => 92 | 13 => 86 | 12 => 93 | 23 => 107 | 24 => 108 | 14 => 111 | 15 => 112 | 16 => 113 | 17 => 114 | 18 => 115 | 19 => 116 | 20 => 117 | 21 => 118 | 22 => 119 | 25 => 130 | 26 => 124 | 27 => 125 | 28 => 131 | 29 => 132 | 30 => 133 | 31 => 136 | n => n, fun | 26 => 9 | 28 => 99 | 24 => 42 | 0 => 0 | 3 => 3 | 37 => 77 | 48 => 141 | 50 => 143 | 4 => 4 | 40 => 134 | 39 => 133 | 45 => 89 | 5 => 5 | 9 => 9 | 51 => 154 | 55 => 158 | 57 => 165 | 58 => 166 | 33 => 119 | n => n, fun | n => n⟩
theorem Try.sorted57 : Go.Proofs.SlLaysZ.n6 Try.prog Try.sorted57_ren := {
  mixed := by kernel_rfl
  f6 := ⟨Try.f57.name, by decide, Try.func57.trans (congrArg some (by kernel_rfl))⟩
  f8 := ⟨Try.f79.name, by decide, Try.func79.trans (congrArg some (by kernel_rfl))⟩
  f11 := ⟨Try.f92.name, by decide, Try.func92.trans (congrArg some (by kernel_rfl))⟩
  t0 := Try.underlying0
  a0 := Try.isAgg0
  z0 := Try.sizeOf0
  v0 := Try.zeroValue0
  t24 := Try.underlying42
  a24 := Try.isAgg42
  z24 := Try.sizeOf42
  v24 := Try.zeroValue42
  t26 := Try.underlying9
  a26 := Try.isAgg9
  z26 := Try.sizeOf9
  v26 := Try.zeroValue9
  t28 := Try.underlying99
  a28 := Try.isAgg99
  z28 := Try.sizeOf99
  v28 := Try.zeroValue99
  i26 := by kernel_rfl }
def Try.sort80_ren : Go.Shelf.Ren := ⟨fun | 6 => 80 | 8 => 86 | 9 => 93 | 19 => 107 | 20 => 108 | 21 => 111 | 22 => 112 | 23 => 113 | 24 => 114 | 25 => 115 | 26 => 116 | 27 => 117 | 28 => 118 | 29 => 119 | 36 => 130 | 31 => 124 | 32 => 125 | 37 => 131 | 38 => 132 | 39 => 133 | 41 => 136 | n => n, fun | 27 => 42 | 29 => 9 | 3 => 3 | 32 => 77 | 26 => 42 | 0 => 0 | 44 => 141 | 46 => 143 | 4 => 4 | 36 => 134 | 35 => 133 | 41 => 89 | 5 => 5 | 9 => 9 | 53 => 154 | 57 => 158 | 63 => 165 | 64 => 166 | n => n, fun | n => n⟩
theorem Try.sort80 : Go.Proofs.SlLaysM.n6 Try.prog Try.sort80_ren := {
  mixed := by kernel_rfl
  f6 := ⟨Try.f80.name, by decide, Try.func80.trans (congrArg some (by kernel_rfl))⟩
  f8 := Try.func86.trans (congrArg some (by kernel_rfl))
  f9 := ⟨Try.f93.name, by decide, Try.func93.trans (congrArg some (by kernel_rfl))⟩
  f19 := Try.func107.trans (congrArg some (by kernel_rfl))
  f20 := Try.func108.trans (congrArg some (by kernel_rfl))
  f21 := ⟨Try.f111.name, by decide, Try.func111.trans (congrArg some (by kernel_rfl))⟩
  f22 := ⟨Try.f112.name, by decide, Try.func112.trans (congrArg some (by kernel_rfl))⟩
  f23 := ⟨Try.f113.name, by decide, Try.func113.trans (congrArg some (by kernel_rfl))⟩
  f24 := ⟨Try.f114.name, by decide, Try.func114.trans (congrArg some (by kernel_rfl))⟩
  f25 := ⟨Try.f115.name, by decide, Try.func115.trans (congrArg some (by kernel_rfl))⟩
  f26 := ⟨Try.f116.name, by decide, Try.func116.trans (congrArg some (by kernel_rfl))⟩
  f27 := ⟨Try.f117.name, by decide, Try.func117.trans (congrArg some (by kernel_rfl))⟩
  f28 := ⟨Try.f118.name, by decide, Try.func118.trans (congrArg some (by kernel_rfl))⟩
  f29 := ⟨Try.f119.name, by decide, Try.func119.trans (congrArg some (by kernel_rfl))⟩
  f31 := Try.func124.trans (congrArg some (by kernel_rfl))
  f32 := Try.func125.trans (congrArg some (by kernel_rfl))
  f36 := ⟨Try.f130.name, by decide, Try.func130.trans (congrArg some (by kernel_rfl))⟩
  f37 := ⟨Try.f131.name, by decide, Try.func131.trans (congrArg some (by kernel_rfl))⟩
  f38 := ⟨Try.f132.name, by decide, Try.func132.trans (congrArg some (by kernel_rfl))⟩
  f39 := ⟨Try.f133.name, by decide, Try.func133.trans (congrArg some (by kernel_rfl))⟩
  f41 := ⟨Try.f136.name, by decide, Try.func136.trans (congrArg some (by kernel_rfl))⟩
  t0 := Try.underlying0
  a0 := Try.isAgg0
  z0 := Try.sizeOf0
  v0 := Try.zeroValue0
  t3 := Try.underlying3
  a3 := Try.isAgg3
  z3 := Try.sizeOf3
  v3 := Try.zeroValue3
  t4 := Try.underlying4
  a4 := Try.isAgg4
  z4 := Try.sizeOf4
  v4 := Try.zeroValue4
  t5 := Try.underlying5
  a5 := Try.isAgg5
  z5 := Try.sizeOf5
  v5 := Try.zeroValue5
  t9 := Try.underlying9
  a9 := Try.isAgg9
  z9 := Try.sizeOf9
  v9 := Try.zeroValue9
  t26 := Try.underlying42
  a26 := Try.isAgg42
  z26 := Try.sizeOf42
  v26 := Try.zeroValue42
  t27 := Try.underlying42
  a27 := Try.isAgg42
  z27 := Try.sizeOf42
  v27 := Try.zeroValue42
  t29 := Try.underlying9
  a29 := Try.isAgg9
  z29 := Try.sizeOf9
  v29 := Try.zeroValue9
  t32 := Try.underlying77
  a32 := Try.isAgg77
  z32 := Try.sizeOf77
  v32 := Try.zeroValue77
  t35 := Try.underlying133
  a35 := Try.isAgg133
  z35 := Try.sizeOf133
  v35 := Try.zeroValue133
  t36 := Try.underlying134
  a36 := Try.isAgg134
  z36 := Try.sizeOf134
  v36 := Try.zeroValue134
  t41 := Try.underlying89
  a41 := Try.isAgg89
  z41 := Try.sizeOf89
  v41 := Try.zeroValue89
  t44 := Try.underlying141
  a44 := Try.isAgg141
  z44 := Try.sizeOf141
  v44 := Try.zeroValue141
  t46 := Try.underlying143
  a46 := Try.isAgg143
  z46 := Try.sizeOf143
  v46 := Try.zeroValue143
  t53 := Try.underlying154
  a53 := Try.isAgg154
  z53 := Try.sizeOf154
  v53 := Try.zeroValue154
  t57 := Try.underlying158
  a57 := Try.isAgg158
  z57 := Try.sizeOf158
  v57 := Try.zeroValue158
  t63 := Try.underlying165
  a63 := Try.isAgg165
  z63 := Try.sizeOf165
  v63 := Try.zeroValue165
  t64 := Try.underlying166
  a64 := Try.isAgg166
  z64 := Try.sizeOf166
  v64 := Try.zeroValue166 }
end Go.Proofs

namespace Go.Proofs
open Go.RowKit Go.Maps Go.Sort Go.Shelf
theorem Try.sorts57 (m : Nat) : AnyZ.SortsIn Try.prog Try.sorted57_ren Fence.wide m :=
  ⟨fun blk off cap ss W hH hblk hsz => callsIn_wide.2 (AnyM.slices_Sort_string Try.sort80 blk off cap ss W hH hblk hsz),
   fun p cap W => callsIn_wide.2 (AnyM.slices_Sort_string_none Try.sort80 p cap W)⟩
theorem Try.maps_Keys_58 (mb : Option Nat) (W : World) : CallsIn Fence.wide 5 Try.prog 58 #[.map mb] W fun e w' => e = .returned (.func (.func 81) #[] #[.pointer (some ⟨W.heap.size, 0, none⟩)]) ∧ w' = W.alloc (.cells #[.map mb] 85) :=
  AnyZ.keys_in Try.keys58 Fence.wide 5 trivial rfl mb W
set_option maxHeartbeats 1000000 in
theorem Try.slices_Sorted_keys_57_58 {H : Type} (b nn : Nat) (D0 : DataW H) (R : Value → Option (DataW H × List MemPlace)) (w : World) (hown : w.ownsMap Try.prog 9 R b nn D0) (hmax : Maps.size D0 ≤ maxLen) (hbytes : Maps.size D0 * 16 ≤ 140737488355328) :
    CallsIn Fence.wide 5 Try.prog 57 #[.func (.func 81) #[] #[.pointer (some ⟨w.heap.size, 0, none⟩)]] (w.alloc (.cells #[.map (some b)] 85)) fun e w' => ∃ (v : Value) (ss : List (List UInt8)), e = .returned v ∧ ss.Perm (strKeys D0) ∧
      w'.ownsRow (w.alloc (.cells #[.map (some b)] 85)).heap.size 9 1 v ss.length ((ss.mergeSort (fun x y => decide (x ≤ y))).map encStr) ∧ (v = .slice none 0 0 ↔ ss = []) ∧ Below (w.alloc (.cells #[.map (some b)] 85)).heap.size (w.alloc (.cells #[.map (some b)] 85)) w' := by
  have hbl := hown.lt
  have hseq : SeqGives Fence.wide 2 Try.prog 81 #[.pointer (some ⟨w.heap.size, 0, none⟩)] encStr (fun ss => ss.Perm (strKeys D0)) (Maps.size D0) (w.alloc (.cells #[.map (some b)] 85)) :=
    AnyZ.keys_gives (ρ := Try.keys58_ren) { Try.keys58 with } Fence.wide _ trivial rfl (by omega) w.heap.size b nn D0 _ (by simp) (by simp) (by
      obtain ⟨es, clock, hb, Ft, hs, hD⟩ := hown
      exact ⟨es, clock, (Below.heap_alloc _ _ b hbl).trans hb, Ft, hs, hD⟩)
  exact AnyZ.sorted_in Try.sorted57 Fence.wide 5 trivial trivial trivial trivial rfl (by omega) (Try.sorts57 _) (enters_of Try.func80 (by kernel_rfl) rfl) 81 #[.pointer (some ⟨w.heap.size, 0, none⟩)] trivial (enters_of Try.func81 (by kernel_rfl) rfl) _ _ hmax hbytes _ hseq
end Go.Proofs

namespace Go.Proofs.Ytkefciacdmbidaa
open Go.RowKit Go.WideMaps Go.Maps Go.Sort

theorem before_lt : ∀ {a b : List UInt8}, Go.bytesBefore a b = true → a < b
  | [], [], h => by simp [Go.bytesBefore] at h
  | [], _ :: _, _ => by simp
  | _ :: _, [], h => by simp [Go.bytesBefore] at h
  | a :: r, b :: s, h => by
    simp only [Go.bytesBefore, Bool.or_eq_true, decide_eq_true_eq, Bool.and_eq_true, beq_iff_eq] at h
    rw [List.cons_lt_cons_iff]
    rcases h with h | ⟨h1, h2⟩
    · exact Or.inl h
    · exact Or.inr ⟨h1, before_lt h2⟩

theorem names_sorted {S : SD} (hok : S.Ok) {ss : List (List UInt8)} (h : ss.Perm (S.files.map (·.1))) : ss.mergeSort (fun x y => decide (x ≤ y)) = S.files.map (·.1) := by
  refine List.Perm.eq_of_pairwise (le := fun a b => a ≤ b) (fun a b _ _ h1 h2 => List.le_antisymm h1 h2) ?_ ?_ ((List.mergeSort_perm _ _).trans h)
  · refine (List.pairwise_mergeSort (le := fun x y => decide (x ≤ y)) ?_ ?_ ss).imp (fun h => of_decide_eq_true h)
    · intro a b c h1 h2
      simp only [decide_eq_true_eq] at *
      exact List.le_trans h1 h2
    · intro a b
      simp only [Bool.or_eq_true, decide_eq_true_eq]
      exact List.le_total a b
  · exact List.pairwise_map.2 (hok.sorted.imp fun h => List.le_of_lt (before_lt h))

def nameV (k : List UInt8) : Value := .string ⟨k.toArray⟩

theorem names_any {F : Nat → Prop} {d : Nat} {S : SD} {w : World} (hd : DiskAt F w d S) (hok : S.Ok) (hlen : S.files.length ≤ 16777216) :
    Calls Try.prog 23 #[.pointer (some ⟨d, 0, none⟩)] w (NewRow w 9 1 S.files.length (S.files.map fun p => nameV p.1)) := by
  obtain ⟨role, m, lv, hd, -⟩ := hd
  have c0 := hd.c0
  have hsz : Maps.size (encM S.ids) = S.files.length := by simp [Maps.size, encM, SD.ids]
  have hk := callsIn_wide.1 (Try.maps_Keys_58 (some m) w)
  have hs := callsIn_wide.1 (Try.slices_Sorted_keys_57_58 m S.ids.length (encM S.ids) ptrR w hd.map (by rw [hsz]; unfold maxLen; omega) (by rw [hsz]; omega))
  have Hk := Lib.hid hk
  have Hs := Lib.hid hs
  have Hd := Lib.hid hd
  clear hk hs hd hsz
  go_enter Try.func23, Try.ntmps23
  go_wp2_with fail
  refine Hk.out.mono ?_
  rintro e w' ⟨rfl, rfl⟩
  go_wp2_with fail
  refine Hs.out.mono ?_
  rintro e w' ⟨v, ss, rfl, hS, hrow, hnil, hb⟩
  go_wp2_with fail
  go_ret
  have hkeys : strKeys (encM S.ids) = S.files.map (·.1) := by simp [strKeys, encM, SD.ids, encE, idp, strOf]
  rw [hkeys] at hS
  have hl : ss.length = S.files.length := by rw [hS.length_eq]; simp
  rw [names_sorted hok hS, hl] at hrow
  refine ⟨v, rfl, ?_, ((Below.refl _ _).alloc (Nat.le_refl _) _).trans (hb.mono (by simp))⟩
  rw [List.map_map] at hrow
  exact ownsRow_rebase hrow fun g hg => by have := (hrow.lt g hg).1; simp at this; omega
end Go.Proofs.Ytkefciacdmbidaa

namespace Go.Proofs.Ytkefciacdmbidaa
open Go.RowKit Go.WideMaps Go.Maps

theorem srcs_at {w : World} {v : Value} {m : Nat} {news : List Value} (h : Srcs w v 1 m news) : ∃ A c, v = .slice A m c ∧ m ≤ c ∧ (0 < m → ∃ b off, A = some ⟨b, off, none⟩ ∧ b < w.heap.size ∧ ∀ j u, news[j]? = some u → w.cell? ⟨b, off + j, none⟩ = some u) := by
  rcases h with ⟨rfl, rfl, rfl⟩ | ⟨ad, c, rfl, hc, hl, hcell, _⟩
  · exact ⟨none, 0, rfl, Nat.le_refl _, fun h => absurd h (Nat.lt_irrefl _)⟩
  · refine ⟨some ad, c, rfl, hc, fun hm => ?_⟩
    have h0 := hcell 0 _ (List.getElem?_eq_getElem (show 0 < news.length by omega))
    have hlt := World.block_lt_of_cell? w _ h0
    obtain ⟨b, off, sp⟩ := ad
    have hsp : sp = none := by
      cases sp with
      | none => rfl
      | some x =>
        exfalso
        simp only [Addr.add, if_true] at h0
        simp only [World.cell?] at h0
        split at h0
        · simp at h0
        · cases h0
    subst hsp
    refine ⟨b, off, rfl, by simpa [Addr.add] using hlt, fun j u hj => ?_⟩
    have := hcell j u hj
    have e : (⟨b, off, none⟩ : Addr).add j = ⟨b, off + j, none⟩ := by unfold Addr.add; split <;> simp_all
    rw [e] at this
    exact this

theorem take_eq_step {α : Type} [DecidableEq α] {xs ys : List α} {k : Nat} (h1 : k < xs.length) (h2 : k < ys.length) (h : xs.take k = ys.take k) : xs.take (k + 1) = ys.take (k + 1) ↔ xs[k] = ys[k] := by
  have e1 := List.take_succ_eq_append_getElem h1
  have e2 := List.take_succ_eq_append_getElem h2
  rw [e1, e2, h]
  constructor
  · intro e
    have := List.append_cancel_left e
    simpa using this
  · intro e
    rw [e]

def IsB (w : World) (b : Bool) (e : Ending) (w' : World) : Prop := e = .returned (.bool b) ∧ Below w.heap.size w w'

theorem sameBytes_any (w : World) (va vb : Value) (xs ys : List Int) (ha : BytesAt w va xs) (hb : BytesAt w vb ys) (hx : xs.length ≤ 140737488355328) (hy : ys.length ≤ 140737488355328) :
    Calls Try.prog 22 #[va, vb] w (IsB w (decide (xs = ys))) := by
  obtain ⟨A, ca, rfl, hca, hA⟩ := srcs_at ha
  obtain ⟨B, cb, rfl, hcb, hB⟩ := srcs_at hb
  have HA := Lib.hid hA
  have HB := Lib.hid hB
  clear ha hb hA hB
  by_cases hl : xs.length = ys.length
  · have hne : (((xs.length : Nat) : Int) != ((ys.length : Nat) : Int)) = false := by simp [hl]
    have Hl := Lib.hid hl
    clear hl
    go_enter Try.func22, Try.ntmps22
    go_wp2_with fail
    go_loopw [5] (fun i wr => ∃ k : Nat, k ≤ xs.length ∧ i = .int .i64 k ∧ xs.take k = ys.take k ∧ Below w.heap.size w wr) (fun i _ => xs.length - (intOf i).toNat)
    case atStart => exact ⟨0, Nat.zero_le _, rfl, rfl, Below.refl _ _⟩
    case round =>
      obtain ⟨k, hk, rfl, heq, hnx⟩ := hrel
      by_cases hlt : k < xs.length
      · have hlt2 : k < ys.length := by have := Hl.out; omega
        obtain ⟨b1, o1, rfl, hb1, hc1⟩ := HA.out (by omega)
        obtain ⟨b2, o2, rfl, hb2, hc2⟩ := HB.out (by omega)
        have d1 : wr.cell? ⟨b1, o1 + k, none⟩ = some (.int .u8 xs[k]) := by
          rw [hnx.cell (p := ⟨b1, o1 + k, none⟩) hb1]
          exact hc1 k _ (by simp [hlt])
        have d2 : wr.cell? ⟨b2, o2 + k, none⟩ = some (.int .u8 ys[k]) := by
          rw [hnx.cell (p := ⟨b2, o2 + k, none⟩) hb2]
          exact hc2 k _ (by simp [hlt2])
        have hst := take_eq_step hlt hlt2 heq
        obtain ⟨x, hx⟩ : ∃ x, xs[k] = x := ⟨_, rfl⟩
        obtain ⟨y, hy⟩ : ∃ y, ys[k] = y := ⟨_, rfl⟩
        rw [hx] at d1 hst
        rw [hy] at d2 hst
        have Hst := Lib.hid hst
        have Hnx := Lib.hid hnx
        clear hst hx hy hc1 hc2 heq hnx
        by_cases hxy : x = y
        · have ht : (x != y) = false := by simp [hxy]
          have Hxy := Lib.hid hxy
          clear hxy
          go_wp2
          go_region
          go_wp2
          exact ⟨⟨k + 1, by omega, by go_num, Hst.out.2 Hxy.out, Hnx.out.drew⟩, by simp [intOf]; omega⟩
        · have ht : (x != y) = true := by simp [hxy]
          have Hxy := Lib.hid hxy
          clear hxy
          go_wp2
          go_region
          go_wp2
          go_ret
          exact ⟨ret_bool (by
            have : xs ≠ ys := fun e => Hxy.out (Hst.out.1 (by rw [e]))
            simp [this]), Hnx.out.drew⟩
      · go_wp2
        go_ret
        have hk1 : k = xs.length := by omega
        refine ⟨ret_bool ?_, hnx⟩
        rw [hk1, List.take_length, Hl.out, List.take_length] at heq
        simp [heq]
  · have hne : (((xs.length : Nat) : Int) != ((ys.length : Nat) : Int)) = true := by simp; omega
    have Hl := Lib.hid hl
    clear hl
    go_enter Try.func22, Try.ntmps22
    go_wp2
    go_ret
    exact ⟨ret_bool (by
      have : xs ≠ ys := fun e => Hl.out (by rw [e])
      simp [this]), Below.refl _ _⟩
end Go.Proofs.Ytkefciacdmbidaa

namespace Go.Proofs.Ytkefciacdmbidaa
open Go.RowKit Go.WideMaps Go.Maps

def TextsAt (w : World) (v : Value) (xs : List ByteArray) : Prop := Srcs w v 1 xs.length (xs.map Value.string)
theorem toList_inj {x y : ByteArray} (h : x.toList = y.toList) : x = y := by
  rw [Lib.toList_data, Lib.toList_data] at h
  cases x
  cases y
  congr 1
  exact Array.toList_inj.1 h

theorem sameTexts_any (w : World) (va vb : Value) (xs ys : List ByteArray) (ha : TextsAt w va xs) (hb : TextsAt w vb ys) (hx : xs.length ≤ 140737488355328) (hy : ys.length ≤ 140737488355328) :
    Calls Try.prog 24 #[va, vb] w (IsB w (decide (xs = ys))) := by
  obtain ⟨A, ca, rfl, hca, hA⟩ := srcs_at ha
  obtain ⟨B, cb, rfl, hcb, hB⟩ := srcs_at hb
  have HA := Lib.hid hA
  have HB := Lib.hid hB
  clear ha hb hA hB
  by_cases hl : xs.length = ys.length
  · have hne : (((xs.length : Nat) : Int) != ((ys.length : Nat) : Int)) = false := by simp [hl]
    have Hl := Lib.hid hl
    clear hl
    go_enter Try.func24, Try.ntmps24
    go_wp2_with fail
    go_loopw [5] (fun i wr => ∃ k : Nat, k ≤ xs.length ∧ i = .int .i64 k ∧ xs.take k = ys.take k ∧ Below w.heap.size w wr) (fun i _ => xs.length - (intOf i).toNat)
    case atStart => exact ⟨0, Nat.zero_le _, rfl, rfl, Below.refl _ _⟩
    case round =>
      obtain ⟨k, hk, rfl, heq, hnx⟩ := hrel
      by_cases hlt : k < xs.length
      · have hlt2 : k < ys.length := by have := Hl.out; omega
        obtain ⟨b1, o1, rfl, hb1, hc1⟩ := HA.out (by omega)
        obtain ⟨b2, o2, rfl, hb2, hc2⟩ := HB.out (by omega)
        have d1 : wr.cell? ⟨b1, o1 + k, none⟩ = some (.string xs[k]) := by
          rw [hnx.cell (p := ⟨b1, o1 + k, none⟩) hb1]
          exact hc1 k _ (by simp [hlt])
        have d2 : wr.cell? ⟨b2, o2 + k, none⟩ = some (.string ys[k]) := by
          rw [hnx.cell (p := ⟨b2, o2 + k, none⟩) hb2]
          exact hc2 k _ (by simp [hlt2])
        have hst := take_eq_step hlt hlt2 heq
        obtain ⟨x, hx⟩ : ∃ x, xs[k] = x := ⟨_, rfl⟩
        obtain ⟨y, hy⟩ : ∃ y, ys[k] = y := ⟨_, rfl⟩
        rw [hx] at d1 hst
        rw [hy] at d2 hst
        have Hst := Lib.hid hst
        have Hnx := Lib.hid hnx
        clear hst hx hy hc1 hc2 heq hnx
        by_cases hxy : x = y
        · have ht : (x.toList == y.toList) = true := by simp [hxy]
          have Hxy := Lib.hid hxy
          clear hxy
          go_wp2
          go_region
          go_wp2
          exact ⟨⟨k + 1, by omega, by go_num, Hst.out.2 Hxy.out, Hnx.out.drew⟩, by simp [intOf]; omega⟩
        · have ht : (x.toList == y.toList) = false := by
            rw [beq_eq_false_iff_ne]
            exact fun e => hxy (toList_inj e)
          have Hxy := Lib.hid hxy
          clear hxy
          go_wp2
          go_region
          go_wp2
          go_ret
          exact ⟨ret_bool (by
            have : xs ≠ ys := fun e => Hxy.out (Hst.out.1 (by rw [e]))
            simp [this]), Hnx.out.drew⟩
      · go_wp2
        go_ret
        have hk1 : k = xs.length := by omega
        refine ⟨ret_bool ?_, hnx⟩
        rw [hk1, List.take_length, Hl.out, List.take_length] at heq
        simp [heq]
  · have hne : (((xs.length : Nat) : Int) != ((ys.length : Nat) : Int)) = true := by simp; omega
    have Hl := Lib.hid hl
    clear hl
    go_enter Try.func24, Try.ntmps24
    go_wp2
    go_ret
    exact ⟨ret_bool (by
      have : xs ≠ ys := fun e => Hl.out (by rw [e])
      simp [this]), Below.refl _ _⟩
end Go.Proofs.Ytkefciacdmbidaa

namespace Go.Proofs.Ytkefciacdmbidaa
open Go.RowKit Go.WideMaps Go.Maps

def texts : List UInt8 → List UInt8 → Int
  | [], [] => 0
  | [], _ :: _ => -1
  | _ :: _, [] => 1
  | a :: r, b :: s => if a = b then texts r s else if a < b then -1 else 1

theorem texts_self : ∀ a : List UInt8, texts a a = 0
  | [] => rfl
  | a :: r => by simp [texts, texts_self r]
theorem texts_zero : ∀ {a b : List UInt8}, texts a b = 0 → a = b
  | [], [], _ => rfl
  | [], _ :: _, h => by simp [texts] at h
  | _ :: _, [], h => by simp [texts] at h
  | a :: r, b :: s, h => by
    unfold texts at h
    by_cases e : a = b
    · rw [if_pos e] at h
      rw [e, texts_zero h]
    · rw [if_neg e] at h
      split at h <;> simp at h
theorem texts_before : ∀ {a b : List UInt8}, Go.bytesBefore a b = true → texts a b = -1
  | [], [], h => by simp [Go.bytesBefore] at h
  | [], _ :: _, _ => rfl
  | _ :: _, [], h => by simp [Go.bytesBefore] at h
  | a :: r, b :: s, h => by
    simp only [Go.bytesBefore, Bool.or_eq_true, decide_eq_true_eq, Bool.and_eq_true, beq_iff_eq] at h
    unfold texts
    rcases h with h | ⟨h1, h2⟩
    · have hne : a ≠ b := fun e => by rw [e] at h; exact absurd h (UInt8.lt_irrefl _)
      rw [if_neg hne, if_pos h]
    · rw [if_pos h1, texts_before h2]
theorem texts_after : ∀ {a b : List UInt8}, Go.bytesBefore b a = true → texts a b = 1
  | [], [], h => by simp [Go.bytesBefore] at h
  | _ :: _, [], _ => rfl
  | [], _ :: _, h => by simp [Go.bytesBefore] at h
  | a :: r, b :: s, h => by
    simp only [Go.bytesBefore, Bool.or_eq_true, decide_eq_true_eq, Bool.and_eq_true, beq_iff_eq] at h
    unfold texts
    rcases h with h | ⟨h1, h2⟩
    · have hne : a ≠ b := fun e => by rw [e] at h; exact absurd h (UInt8.lt_irrefl _)
      have hnl : ¬ a < b := fun e => absurd (UInt8.lt_trans e h) (UInt8.lt_irrefl _)
      rw [if_neg hne, if_neg hnl]
    · rw [if_pos h1.symm, texts_after h2]

theorem texts_drop {a b : List UInt8} {k : Nat} (h1 : k < a.length) (h2 : k < b.length) : texts (a.drop k) (b.drop k) = if a[k] = b[k] then texts (a.drop (k + 1)) (b.drop (k + 1)) else if a[k] < b[k] then -1 else 1 := by
  rw [List.drop_eq_getElem_cons h1, List.drop_eq_getElem_cons h2, texts]

def IsI (w : World) (n : Int) (e : Ending) (w' : World) : Prop := e = .returned (.int .i64 n) ∧ Below w.heap.size w w'

def IsQ (w : World) (n : Int) (e : Ending) (w' : World) : Prop := e = .returned (.int .i64 n) ∧ ∃ m, w' = w.drewN m
theorem IsQ.isI {w w' : World} {n : Int} {e : Ending} (h : IsQ w n e w') : IsI w n e w' := by
  obtain ⟨he, m, rfl⟩ := h
  exact ⟨he, rfl, rfl, rfl, Nat.le_refl _, fun _ _ => rfl⟩

theorem texts_quiet (w : World) (s t : ByteArray) (hs : s.size ≤ 140737488355328) :
    Calls Try.prog 33 #[.string s, .string t] w (IsQ w (texts s.data.toList t.data.toList)) := by
  go_enter Try.func33, Try.ntmps33
  go_wp2_with fail
  go_loopw [5] (fun i wr => ∃ k : Nat, k ≤ s.size ∧ k ≤ t.size ∧ i = .int .i64 k ∧ texts s.data.toList t.data.toList = texts (s.data.toList.drop k) (t.data.toList.drop k) ∧ ∃ m, wr = w.drewN m) (fun i _ => s.size - (intOf i).toNat)
  case atStart => exact ⟨0, Nat.zero_le _, Nat.zero_le _, rfl, rfl, 0, rfl⟩
  case round =>
    obtain ⟨k, hk1, hk2, rfl, heq, dm, rfl⟩ := hrel
    have Heq := Lib.hid heq
    clear heq
    by_cases h1 : k < s.size
    · by_cases h2 : k < t.size
      · have hd := texts_drop (a := s.data.toList) (b := t.data.toList) (k := k) h1 h2
        have e1 : s.data.toList[k]'h1 = s[k] := rfl
        have e2 : t.data.toList[k]'h2 = t[k] := rfl
        rw [e1, e2] at hd
        have Hd := Lib.hid hd
        clear hd e1 e2
        by_cases hxy : s[k] = t[k]
        · have hne : (((s[k].toNat : Nat) : Int) != ((t[k].toNat : Nat) : Int)) = false := by simp [hxy]
          have Hxy := Lib.hid hxy
          clear hxy
          go_wp2
          go_region
          go_wp2
          go_roundw
          case rel => exact ⟨k + 1, by omega, by omega, by go_num, by rw [Heq.out, Hd.out, if_pos Hxy.out], _, rfl⟩
          case measure => simp [intOf]; omega
        · have hnn : s[k].toNat ≠ t[k].toNat := fun e => hxy (UInt8.toNat_inj.1 e)
          have hne : (((s[k].toNat : Nat) : Int) != ((t[k].toNat : Nat) : Int)) = true := by simp; omega
          have Hxy := Lib.hid hxy
          by_cases hlt : s[k].toNat < t[k].toNat
          · have Hlt := Lib.hid (show s[k] < t[k] from hlt)
            clear hxy hnn
            go_wp2
            go_region
            go_wp2
            go_region
            go_wp2
            go_ret
            exact ⟨ret_int (by rw [Heq.out, Hd.out, if_neg Hxy.out, if_pos Hlt.out]), _, rfl⟩
          · have Hlt := Lib.hid (show ¬ s[k] < t[k] from hlt)
            clear hxy hnn
            go_wp2
            go_region
            go_wp2
            go_region
            go_wp2
            go_ret
            exact ⟨ret_int (by rw [Heq.out, Hd.out, if_neg Hxy.out, if_neg Hlt.out]), _, rfl⟩
      · have hk : k = t.size := by omega
        have hend : texts (s.data.toList.drop k) (t.data.toList.drop k) = 1 := by
          have l1 : s.data.toList.length = s.size := rfl
          have l2 : t.data.toList.length = t.size := rfl
          rw [show t.data.toList.drop k = [] from List.drop_eq_nil_of_le (by omega), List.drop_eq_getElem_cons (l := s.data.toList) (by omega)]
          rfl
        have Hend := Lib.hid hend
        have h3 : ¬ s.size < t.size := by omega
        have h4 : t.size < s.size := by omega
        clear hend hk
        go_wp2
        go_ret
        exact ⟨ret_int (by rw [Heq.out, Hend.out]), _, rfl⟩
    · have hk : k = s.size := by omega
      have l1 : s.data.toList.length = s.size := rfl
      have l2 : t.data.toList.length = t.size := rfl
      by_cases h2 : k < t.size
      · have hend : texts (s.data.toList.drop k) (t.data.toList.drop k) = -1 := by
          rw [show s.data.toList.drop k = [] from List.drop_eq_nil_of_le (by omega), List.drop_eq_getElem_cons (l := t.data.toList) (by omega)]
          rfl
        have Hend := Lib.hid hend
        have h3 : s.size < t.size := by omega
        clear hend hk l1 l2
        go_wp2
        go_ret
        exact ⟨ret_int (by rw [Heq.out, Hend.out]), _, rfl⟩
      · have hend : texts (s.data.toList.drop k) (t.data.toList.drop k) = 0 := by
          rw [show s.data.toList.drop k = [] from List.drop_eq_nil_of_le (by omega), show t.data.toList.drop k = [] from List.drop_eq_nil_of_le (by omega)]
          rfl
        have Hend := Lib.hid hend
        have h3 : ¬ s.size < t.size := by omega
        have h4 : ¬ t.size < s.size := by omega
        clear hend hk l1 l2
        go_wp2
        go_ret
        exact ⟨ret_int (by rw [Heq.out, Hend.out]), _, rfl⟩

theorem texts_any (w : World) (s t : ByteArray) (hs : s.size ≤ 140737488355328) :
    Calls Try.prog 33 #[.string s, .string t] w (IsI w (texts s.data.toList t.data.toList)) := (texts_quiet w s t hs).mono fun _ _ h => h.isI
end Go.Proofs.Ytkefciacdmbidaa

namespace Go.Proofs.Ytkefciacdmbidaa
open Go.RowKit Go.WideMaps Go.Maps

theorem werr0 : SD.werr ⟨[], [], 9⟩ [120] 2 = 0 := by decide
theorem write1 (i : Nat) : SD.write ⟨[], [], 9⟩ i [120] [97, 98] = ⟨[([120], ⟨i, [97, 98], 0, false⟩)], [(i, 2)], 9⟩ := rfl
theorem werr1 (i : Nat) : SD.werr ⟨[([120], ⟨i, [97, 98], 0, false⟩)], [(i, 2)], 9⟩ [121] 2 = 0 := rfl
theorem write2 (i j : Nat) : SD.write ⟨[([120], ⟨i, [97, 98], 0, false⟩)], [(i, 2)], 9⟩ j [121] [99, 100] = ⟨[([120], ⟨i, [97, 98], 0, false⟩), ([121], ⟨j, [99, 100], 0, false⟩)], [(i, 2), (j, 2)], 9⟩ := rfl
theorem crash3 (i j : Nat) (h : i ≠ j) : SD.crash ⟨[([120], ⟨i, [97, 98], 0, false⟩), ([121], ⟨j, [99, 100], 0, false⟩)], [(i, 2), (j, 2)], 9⟩ 3 = ⟨[([120], ⟨i, [97, 98], 2, true⟩), ([121], ⟨j, [99], 1, true⟩)], [], 9⟩ := by
  simp [SD.crash, cred, credS, updF, credF, finish, trunc, h, h.symm]
theorem nil_ok : SD.Ok ⟨[], [], 9⟩ := ⟨List.Pairwise.nil, List.Pairwise.nil, fun _ h => by simp at h, fun _ h => by simp at h, fun _ h => by simp at h, by decide, by decide⟩

theorem conv_bytes {w : World} {v : Value} {xs : List Int} (h : BytesAt w v xs) : (convert 32 9 v).run Try.prog w = .ok (.string (strOfNums xs)) w := by
  obtain ⟨A, c, rfl, hc, hcell⟩ := srcs_at h
  rcases Nat.eq_zero_or_pos xs.length with h0 | h0
  · have hx : xs = [] := by simpa using h0
    subst hx
    cases A with
    | none => exact run_convert_bytes_nil (P := Try.prog) w 32 5 Try.underlying32 Try.underlying5 0 c 9 Try.underlying9
    | some ad =>
      have := run_convert_bytes_string (P := Try.prog) w 32 9 5 (some ad) 0 c Try.underlying32 Try.underlying5 Try.underlying9
      rw [show ([] : List Int).length = 0 from rfl, this]
      have := run_bytesToString (P := Try.prog) w ad 0 c [] (by simp [loadCells, loadCellsFrom])
      rw [this]
      rfl
  · obtain ⟨b, off, rfl, _, hcs⟩ := hcell h0
    exact run_convert_bytes_arg (P := Try.prog) w 32 5 Try.underlying32 Try.underlying5 b off _ c xs rfl (fun i hi => hcs i _ (by simp [hi])) 9 Try.underlying9

theorem srcs_below {w w' : World} {v : Value} {size m : Nat} {news : List Value} (h : Srcs w v size m news) (hb : Below w.heap.size w w') : Srcs w' v size m news := by
  rcases h with h | ⟨ad, c, rfl, hc, hl, hcell, h1⟩
  · exact Or.inl h
  · refine Or.inr ⟨ad, c, rfl, hc, hl, fun j u hj => ?_, h1⟩
    have h2 := hcell j u hj
    rw [hb.cell (World.block_lt_of_cell? w _ h2)]
    exact h2

theorem Upd.fb {F F' : Nat → Prop} {w w' : World} (h : Upd F F' w w') {B : Nat} (hF : ∀ k, F k → B ≤ k) (hB : B ≤ w.heap.size) : ∀ k, F' k → B ≤ k := fun k hk => by
  rcases h.sub k hk with h1 | h1
  · exact hF k h1
  · omega

/-- two bytes in a new block -/
theorem two_bytes (w : World) (a b : Int) : BytesAt (w.alloc (.cells #[.int .u8 a, .int .u8 b] 5 (2, 3))) (.slice (some ⟨w.heap.size, 0, none⟩) 2 2) [a, b] := by
  refine Or.inr ⟨_, 2, rfl, Nat.le_refl _, rfl, fun j u hj => ?_, one_u8 [a, b]⟩
  rw [add0, cell_of (heap_alloc_new w _)]
  simpa using hj

theorem outside_new {F : Nat → Prop} {w : World} (hF : ∀ k, F k → k < w.heap.size) (a b : Int) : Outside F (w.alloc (.cells #[.int .u8 a, .int .u8 b] 5 (2, 3))) (.slice (some ⟨w.heap.size, 0, none⟩) 2 2) [a, b] :=
  ⟨two_bytes w a b, fun ad n c e _ => by
    cases e
    exact ⟨fun h => Nat.lt_irrefl _ (hF _ h), by simp⟩⟩

set_option maxRecDepth 100000 in
set_option maxHeartbeats 1000000 in
theorem alive_any (w : World) : Calls Try.prog 11 #[] w (IsB w true) := by
  have kc := fun (w : World) (C : Array Value) (n c : Nat) => Lib.run_convert_bytes_const (P := Try.prog) w 32 5 C n c Try.underlying32 Try.underlying5
  have Hnew := Lib.hid (new_any 9 w)
  go_enter Try.func11, Try.ntmps11
  go_wp2_with fail
  refine Hnew.out.mono ?_
  rintro e w1 hp
  rcases hp with ⟨h, -, -⟩ | ⟨-, -, F, d, rfl, hd1, hF, hb1⟩
  · omega
  have hd1' : DiskAt F (w1.alloc (.cells #[.int .u8 97, .int .u8 98] 5 (2, 3))) d ⟨[], [], 9⟩ := hd1.below ((Below.refl _ _).alloc (Nat.le_refl _) _)
  have Hw1 := Lib.hid (write_any hd1' nil_ok ⟨#[120]⟩ (by unfold maxLen; decide) _ _ (outside_new hd1.lt 97 98) (by decide) (by decide))
  have HF := Lib.hid hF
  have Hb1 := Lib.hid hb1
  clear hd1 hd1' hF hb1
  go_wp2_with fail
  refine Hw1.out.mono ?_
  rintro e w2 ⟨he, F2, i, -, hd2, hu2⟩
  replace he : e = .returned (.int .i64 0) := he
  replace hd2 : DiskAt F2 w2 d ⟨[([120], ⟨i, [97, 98], 0, false⟩)], [(i, 2)], 9⟩ := hd2
  subst he
  have hok2 : SD.Ok ⟨[([120], ⟨i, [97, 98], 0, false⟩)], [(i, 2)], 9⟩ := by
    have := write_ok nil_ok (i := i) (by simp) (nm := [120]) (xs := [97, 98]) werr0
    rw [write1] at this
    exact this
  have hd2' := hd2.below ((Below.refl _ w2).alloc (Nat.le_refl _) (.cells #[.int .u8 99, .int .u8 100] 5 (2, 3)))
  have Hw2 := Lib.hid (write_any hd2' hok2 ⟨#[121]⟩ (by unfold maxLen; decide) _ _ (outside_new hd2.lt 99 100) (by simp) (by simp))
  have Hu2 := Lib.hid hu2
  have Hok2 := Lib.hid hok2
  clear hd2 hd2' hu2 hok2
  go_wp2_with fail
  refine Hw2.out.mono ?_
  rintro e w3 ⟨he, F3, j, hij, hd3, hu3⟩
  have Hij : i ≠ j := hij ([120], ⟨i, [97, 98], 0, false⟩) (by simp)
  replace he : e = .returned (.int .i64 0) := he
  replace hd3 : DiskAt F3 w3 d ⟨[([120], ⟨i, [97, 98], 0, false⟩), ([121], ⟨j, [99, 100], 0, false⟩)], [(i, 2), (j, 2)], 9⟩ := hd3
  subst he
  have hok3 : SD.Ok ⟨[([120], ⟨i, [97, 98], 0, false⟩), ([121], ⟨j, [99, 100], 0, false⟩)], [(i, 2), (j, 2)], 9⟩ := by
    have := write_ok Hok2.out (i := j) (by simpa using Hij) (nm := [121]) (xs := [99, 100]) (werr1 i)
    rw [write2] at this
    exact this
  have Hl := Lib.hid (loose_any hd3 (by simp [SD.nloose]) (by simp))
  have Hij2 := Lib.hid Hij
  have Hd3 := Lib.hid hd3
  have Hu3 := Lib.hid hu3
  have Hok3 := Lib.hid hok3
  clear hd3 hu3 hok3 hij Hij
  go_wp2_with fail
  refine Hl.out.mono ?_
  rintro e w4 ⟨he, hb4⟩
  replace he : e = .returned (.int .i64 4) := he
  subst he
  have Hd4 := Lib.hid (Hd3.out.below hb4)
  have Hc := Lib.hid (crash_any Hd4.out Hok3.out (by simp) 3 (by omega) (by omega))
  have Hb4 := Lib.hid hb4
  clear hb4
  go_wp2_with fail
  refine Hc.out.mono ?_
  rintro e w5 ⟨rfl, F5, hd5, hu5⟩
  rw [crash3 i j Hij2.out] at hd5
  have hok5 := crash_ok Hok3.out 3
  rw [crash3 i j Hij2.out] at hok5
  have Hr5 := Lib.hid (read_any hd5 hok5 ⟨#[120]⟩ (by unfold maxLen; decide))
  have Hd5 := Lib.hid hd5
  have Hu5 := Lib.hid hu5
  have Hok5 := Lib.hid hok5
  clear hd5 hu5 hok5
  go_wp2_with fail
  refine Hr5.out.mono ?_
  rintro e w6 ⟨v6, rfl, ho6, hb6⟩
  replace ho6 : w6.ownsRow w5.heap.size 5 1 v6 2 ([97, 98].map (Value.int .u8)) := ho6
  have Hd6 := Lib.hid (Hd5.out.below hb6)
  have Hr6 := Lib.hid (read_any Hd6.out Hok5.out ⟨#[121]⟩ (by unfold maxLen; decide))
  have Hx6 := Lib.hid (show BytesAt w6 v6 [97, 98] from ownsRow_srcs ho6 (one_u8 [97, 98]))
  have Hb6 := Lib.hid hb6
  clear ho6 hb6
  go_wp2_with fail
  refine Hr6.out.mono ?_
  rintro e w7 ⟨v7, he, ho7, hb7⟩
  replace he : e = .returned (.tuple #[v7, .bool true]) := he
  subst he
  replace ho7 : w7.ownsRow w6.heap.size 5 1 v7 1 ([99].map (Value.int .u8)) := ho7
  have hx7 : BytesAt w7 v7 [99] := ownsRow_srcs ho7 (one_u8 [99])
  have hy7 : BytesAt w7 v6 [97, 98] := srcs_below Hx6.out hb7
  have hc7 : (convert 32 9 v7).run Try.prog w7 = .ok (.string ⟨#[99]⟩) w7 := conv_bytes hx7
  have hc6 : (convert 32 9 v6).run Try.prog w7 = .ok (.string ⟨#[97, 98]⟩) w7 := conv_bytes hy7
  have Hd7 := Lib.hid (Hd6.out.below hb7)
  have Hs7 := Lib.hid (size_any Hd7.out Hok5.out)
  have Hb7 := Lib.hid hb7
  clear ho7 hx7 hy7 hb7
  go_wp2_with fail
  refine Hs7.out.mono ?_
  rintro e w8 ⟨he, hb8⟩
  replace he : e = .returned (.int .i64 3) := he
  subst he
  have Hd8 := Lib.hid (Hd7.out.below hb8)
  have Hs8 := Lib.hid (room_any Hd8.out Hok5.out)
  have Hb8 := Lib.hid hb8
  clear hb8 hc6 hc7
  go_wp2_with fail
  refine Hs8.out.mono ?_
  rintro e w9 ⟨he, hb9⟩
  replace he : e = .returned (.int .i64 6) := he
  subst he
  have Hd9 := Lib.hid (Hd8.out.below hb9)
  have Hs9 := Lib.hid (names_any Hd9.out Hok5.out (by simp))
  have Hb9 := Lib.hid hb9
  clear hb9
  go_wp2_with fail
  refine Hs9.out.mono ?_
  rintro e w10 ⟨v10, rfl, ho10, hb10⟩
  obtain ⟨A10, c10, hv10, -⟩ := ownsRow_slice ho10
  replace hv10 : v10 = .slice A10 2 c10 := hv10
  subst hv10
  have Hd10 := Lib.hid (Hd9.out.below hb10)
  have Hs10 := Lib.hid (sync_any Hd10.out Hok5.out (by simp) ⟨#[122]⟩ (by unfold maxLen; decide))
  have Hb10 := Lib.hid hb10
  clear ho10 hb10
  go_wp2_with fail
  refine Hs10.out.mono ?_
  rintro e w11 ⟨he, F11, hd11, hu11⟩
  replace he : e = .returned (.int .i64 12) := he
  subst he
  have Hu11 := Lib.hid hu11
  clear hd11 hu11
  go_wp2
  go_ret
  have a1 := Hb1.out.alloc Hb1.out.size (.cells #[.int .u8 97, .int .u8 98] 5 (2, 3))
  have b2 := a1.trans (Hu2.out.below HF.out a1.size)
  have f2 := Hu2.out.fb HF.out a1.size
  have a2 := b2.alloc b2.size (.cells #[.int .u8 99, .int .u8 100] 5 (2, 3))
  have b3 := a2.trans (Hu3.out.below f2 a2.size)
  have f3 := Hu3.out.fb f2 a2.size
  have b4 := b3.trans (Hb4.out.mono b3.size)
  have b5 := b4.trans (Hu5.out.below f3 b4.size)
  have f5 := Hu5.out.fb f3 b4.size
  have b6 := b5.trans (Hb6.out.mono b5.size)
  have b7 := b6.trans (Hb7.out.mono b6.size)
  have b8 := b7.trans (Hb8.out.mono b7.size)
  have b9 := b8.trans (Hb9.out.mono b8.size)
  have b10 := b9.trans (Hb10.out.mono b9.size)
  exact ⟨rfl, b10.trans (Hu11.out.below f5 b10.size)⟩
end Go.Proofs.Ytkefciacdmbidaa
