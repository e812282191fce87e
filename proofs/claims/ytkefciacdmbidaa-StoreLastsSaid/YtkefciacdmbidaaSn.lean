/- Names: the names of all files, in order. -/
import Derived.Test.YtkefciacdmbidaaIt
import Derived.Test.YtkefciacdmbidaaSc
namespace Go.Proofs
open Go.RowKit Go.Maps Go.Sort Go.Shelf
theorem Try.sorts57 (m : Nat) : AnyZ.SortsIn Try.prog Try.sorted57_ren Fence.wide m :=
  ⟨fun blk off cap ss W hH hblk hsz => callsIn_wide.2 (AnyM.slices_Sort_string Try.sort80 blk off cap ss W hH hblk hsz),
   fun p cap W => callsIn_wide.2 (AnyM.slices_Sort_string_none Try.sort80 p cap W)⟩
theorem Try.maps_Keys_58 (mb : Option Nat) (W : World) : CallsIn Fence.wide 5 Try.prog 58 #[.map mb] W fun e w' => e = .returned (.func (.func 81) #[] #[.pointer (some ⟨W.heap.size, 0, none⟩)]) ∧ w' = W.alloc (.cells #[.map mb] 85) :=
  AnyZ.keys_in Try.keys58 Fence.wide 5 trivial rfl mb W
set_option maxHeartbeats 1000000 in
theorem Try.slices_Sorted_keys_57_58 {H : Type} (b nn : Nat) (D0 : DataW H) (R : Value → Option (DataW H × List MemPlace)) (w : World) (hown : w.ownsMap Try.prog 9 R b nn D0) (hmax : Maps.size D0 ≤ maxLen) (hbytes : Maps.size D0 * 16 ≤ 140737488355328) :
    CallsIn Fence.wide 5 Try.prog 57 #[.func (.func 81) #[] #[.pointer (some ⟨w.heap.size, 0, none⟩)]] (w.alloc (.cells #[.map (some b)] 85)) fun e w' => ∃ (v : Value) (ss : List (List UInt8)), e = .returned v ∧ ss.Perm (strKeys D0) ∧
      w'.ownsRow (w.alloc (.cells #[.map (some b)] 85)).heap.size 9 1 v ss.length ((ss.mergeSort (fun x y => decide (x ≤ y))).map encStr) ∧ (v = .slice none 0 0 ↔ ss = []) ∧ Below (w.alloc (.cells #[.map (some b)] 85)).heap.size (w.alloc (.cells #[.map (some b)] 85)) w' := by
  have hbl := hown.lt
  have hseq : SeqGives Fence.wide 2 Try.prog 81 #[.pointer (some ⟨w.heap.size, 0, none⟩)] encStr (fun ss => ss.Perm (strKeys D0)) (Maps.size D0) (w.alloc (.cells #[.map (some b)] 85)) :=
    AnyZ.keys_gives (ρ := Try.keys58_ren) { Try.keys58 with } Fence.wide _ trivial rfl (by omega) w.heap.size b nn D0 _ (by simp) (by simp) (by
      obtain ⟨es, clock, hb, Ft, hs, hD⟩ := hown
      exact ⟨es, clock, (Below.heap_alloc _ _ b hbl).trans hb, Ft, hs, hD⟩)
  exact AnyZ.sorted_in Try.sorted57 Fence.wide 5 trivial trivial trivial trivial rfl (by omega) (Try.sorts57 _) (enters_of Try.func80 (by kernel_rfl) rfl) 81 #[.pointer (some ⟨w.heap.size, 0, none⟩)] trivial (enters_of Try.func81 (by kernel_rfl) rfl) _ _ hmax hbytes _ hseq
end Go.Proofs

namespace Go.Proofs.Ytkefciacdmbidaa
open Go.RowKit Go.WideMaps Go.Maps Go.Sort

theorem before_lt : ∀ {a b : List UInt8}, Go.bytesBefore a b = true → a < b
  | [], [], h => by simp [Go.bytesBefore] at h
  | [], _ :: _, _ => by simp
  | _ :: _, [], h => by simp [Go.bytesBefore] at h
  | a :: r, b :: s, h => by
    simp only [Go.bytesBefore, Bool.or_eq_true, decide_eq_true_eq, Bool.and_eq_true, beq_iff_eq] at h
    rw [List.cons_lt_cons_iff]
    rcases h with h | ⟨h1, h2⟩
    · exact Or.inl h
    · exact Or.inr ⟨h1, before_lt h2⟩

theorem names_sorted {S : SD} (hok : S.Ok) {ss : List (List UInt8)} (h : ss.Perm (S.files.map (·.1))) : ss.mergeSort (fun x y => decide (x ≤ y)) = S.files.map (·.1) := by
  refine List.Perm.eq_of_pairwise (le := fun a b => a ≤ b) (fun a b _ _ h1 h2 => List.le_antisymm h1 h2) ?_ ?_ ((List.mergeSort_perm _ _).trans h)
  · refine (List.pairwise_mergeSort (le := fun x y => decide (x ≤ y)) ?_ ?_ ss).imp (fun h => of_decide_eq_true h)
    · intro a b c h1 h2
      simp only [decide_eq_true_eq] at *
      exact List.le_trans h1 h2
    · intro a b
      simp only [Bool.or_eq_true, decide_eq_true_eq]
      exact List.le_total a b
  · exact List.pairwise_map.2 (hok.sorted.imp fun h => List.le_of_lt (before_lt h))

def nameV (k : List UInt8) : Value := .string ⟨k.toArray⟩

theorem names_any {F : Nat → Prop} {d : Nat} {S : SD} {w : World} (hd : DiskAt F w d S) (hok : S.Ok) (hlen : S.files.length ≤ 16777216) :
    Calls Try.prog 23 #[.pointer (some ⟨d, 0, none⟩)] w (NewRow w 9 1 S.files.length (S.files.map fun p => nameV p.1)) := by
  obtain ⟨role, m, lv, hd, -⟩ := hd
  have c0 := hd.c0
  have hsz : Maps.size (encM S.ids) = S.files.length := by simp [Maps.size, encM, SD.ids]
  have hk := callsIn_wide.1 (Try.maps_Keys_58 (some m) w)
  have hs := callsIn_wide.1 (Try.slices_Sorted_keys_57_58 m S.ids.length (encM S.ids) ptrR w hd.map (by rw [hsz]; unfold maxLen; omega) (by rw [hsz]; omega))
  have Hk := Lib.hid hk
  have Hs := Lib.hid hs
  have Hd := Lib.hid hd
  clear hk hs hd hsz
  go_enter Try.func23, Try.ntmps23
  go_wp2_with fail
  refine Hk.out.mono ?_
  rintro e w' ⟨rfl, rfl⟩
  go_wp2_with fail
  refine Hs.out.mono ?_
  rintro e w' ⟨v, ss, rfl, hS, hrow, hnil, hb⟩
  go_wp2_with fail
  go_ret
  have hkeys : strKeys (encM S.ids) = S.files.map (·.1) := by simp [strKeys, encM, SD.ids, encE, idp, strOf]
  rw [hkeys] at hS
  have hl : ss.length = S.files.length := by rw [hS.length_eq]; simp
  rw [names_sorted hok hS, hl] at hrow
  refine ⟨v, rfl, ?_, ((Below.refl _ _).alloc (Nat.le_refl _) _).trans (hb.mono (by simp))⟩
  rw [List.map_map] at hrow
  exact ownsRow_rebase hrow fun g hg => by have := (hrow.lt g hg).1; simp at this; omega
end Go.Proofs.Ytkefciacdmbidaa
