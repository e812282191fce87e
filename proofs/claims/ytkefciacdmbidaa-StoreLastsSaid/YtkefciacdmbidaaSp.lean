/- Write in all cases; New. -/
import Derived.Test.YtkefciacdmbidaaSo
namespace Go.Proofs.Ytkefciacdmbidaa
open Go.RowKit Go.WideMaps Go.Maps

theorem write_any {F : Nat → Prop} {d : Nat} {S : SD} {w : World} (hd : DiskAt F w d S) (hok : S.Ok) (nm : ByteArray) (hn : nm.size ≤ maxLen) (v : Value) (xs : List Int) (hv : Outside F w v xs)
    (hlen : S.loose.length ≤ 16777216) (hlen2 : S.files.length ≤ 16777216) :
    Calls Try.prog 49 #[.pointer (some ⟨d, 0, none⟩), .string nm, v] w (WritePost F w d S nm.data.toList xs) := by
  cases hr : goodName nm.data.toList with
  | false => exact write_bad hd nm hn v xs hr
  | true =>
    by_cases hf : S.limit < S.size + xs.length
    · obtain ⟨A, c, rfl, -⟩ := Srcs.slice hv.bytes
      exact write_full hd hok nm hn _ xs ⟨_, _, rfl⟩ hr hf
    · cases hg : getF nm.data.toList S.files with
      | some f => exact write_old hd hok nm hn v xs hv hr hf hlen hg
      | none => exact write_new hd hok nm hn v xs hv hr hf hlen hlen2 hg

def NewPost (w : World) (room : Int) (e : Ending) (w' : World) : Prop :=
  (¬ (0 ≤ room ∧ room ≤ 16777216) ∧ e = .returned (.tuple #[.pointer none, .int .i64 11]) ∧ Below w.heap.size w w') ∨
  (0 ≤ room ∧ room ≤ 16777216 ∧ ∃ F d, e = .returned (.tuple #[.pointer (some ⟨d, 0, none⟩), .int .i64 0]) ∧ DiskAt F w' d ⟨[], [], room.toNat⟩ ∧ (∀ k, F k → w.heap.size ≤ k) ∧ Below w.heap.size w w')

theorem new_any (room : Int) (w : World) : Calls Try.prog 13 #[.int .i64 room] w (NewPost w room) := by
  have hmm := @run_makeMap Try.prog
  by_cases h0 : room < 0
  · go_enter Try.func13, Try.ntmps13
    go_wp2
    go_ret2
    exact Or.inl ⟨by omega, rfl, Below.refl _ _⟩
  · by_cases h1 : 16777216 < room
    · go_enter Try.func13, Try.ntmps13
      go_wp2
      go_ret2
      exact Or.inl ⟨by omega, rfl, Below.refl _ _⟩
    · go_enter Try.func13, Try.ntmps13
      go_wp2
      go_ret2
      refine Or.inr ⟨by omega, by omega, fun k => k = w.heap.size ∨ k = w.heap.size + 1, w.heap.size + 1, rfl, ?_, ?_, ?_⟩
      · refine ⟨fun k => if k = w.heap.size + 1 then 1 else if k = w.heap.size then 2 else 0, w.heap.size, .slice none 0 0, ?_, ?_⟩
        · exact {
            lt := fun k hk => by
              simp only [World.size_alloc]
              split at hk
              · omega
              · split at hk
                · omega
                · exact absurd rfl hk
            rd := by simp
            rm := by rw [if_neg (by omega), if_pos rfl]
            rl := fun g hg => by simp [Value.ownBlock] at hg
            disk := by
              have := heap_alloc_new (w.alloc (.map #[] 0)) (.cells #[.map (some w.heap.size), .slice none 0 0, .int .i64 room] 88)
              rw [World.size_alloc] at this
              rw [this]
              have e : ((room.toNat : Nat) : Int) = room := by omega
              show _ = some (Obj.cells #[.map (some w.heap.size), .slice none 0 0, .int .i64 ((room.toNat : Nat) : Int)] 88 (0, 0))
              rw [e]
            map := (MapIs.made w).block (Below.heap_alloc _ _ _ (by simp))
            loose := World.ownsRow_nil _ _ _ _
            file := fun p hp => by simp at hp }
        · intro k
          show (k = w.heap.size ∨ k = w.heap.size + 1) ↔ (if k = w.heap.size + 1 then 1 else if k = w.heap.size then 2 else 0) ≠ 0
          by_cases e1 : k = w.heap.size + 1
          · simp [e1]
          · by_cases e2 : k = w.heap.size
            · simp [e2]
            · simp [e1, e2]
      · rintro k (rfl | rfl) <;> omega
      · exact ((Below.refl _ w).alloc (Nat.le_refl _) _).alloc (by simp) _
end Go.Proofs.Ytkefciacdmbidaa
