/- Take, as the document says it. -/
import Derived.Test.YtkefciacdmbidaaGj
namespace Go.Proofs.Ytkefciacdmbidaa
open Go.RowKit Go.WideMaps Go.Maps

set_option maxHeartbeats 1000000 in
theorem copyBytes_any (w : World) (v : Value) (xs : List Int) (h : BytesAt w v xs) (hn : xs.length ≤ 140737488355328) : Calls Try.prog 15 #[v] w (NewRow w 5 1 xs.length (xs.map (Value.int .u8))) := by
  obtain ⟨A, c, rfl, -⟩ := Srcs.slice h
  have H := Lib.hid h
  clear h
  go_enter Try.func15, Try.ntmps15
  go_wp2_with (first | (at_builtin; refine wpList_app _ rfl _ _ 32 rfl 5 1 1 _ Try.underlying32 info5 rfl (by decide) _ 0 [] rfl ?hrow _ xs.length (xs.map (Value.int .u8)) rfl ?hsrc ?h63 ?hby ?_))
  case hrow => exact ownsRow_base0 (Buf.made 5 1 (Below.refl w.heap.size w)).own
  case hsrc => exact H.out.alloc _
  case h63 => unfold maxLen; omega
  case hby => omega
  intro o' w' ha
  have hb := (Buf.made 5 1 (Below.refl w.heap.size w)).app (Below.refl _ _) ha
  obtain ⟨A', c', rfl⟩ := hb.slice
  have Hb := Lib.hid hb
  clear hb ha
  go_wp2
  go_ret
  have := Hb.out.newRow
  rw [Nat.zero_add, List.nil_append] at this
  rw [Nat.zero_add]
  exact this

set_option maxRecDepth 10000 in
theorem rtake_any (w : World) (v : Value) (xs : List Int) (h : BytesAt w v xs) (ho : Octets xs) (hn : xs.length ≤ 140737488355328) : Calls Try.prog 65 #[v] w (TakePost w (takeN xs 0 0)) := by
  obtain ⟨A, cap, rfl, hcap, hcell⟩ := srcs_at h
  have Hcell := Lib.hid hcell
  have Ho := Lib.hid ho
  have H := Lib.hid h
  clear h hcell ho
  go_enter Try.func65, Try.ntmps65
  go_wp2_with fail
  go_loop [5, 6, 7] (fun n p i => ∃ (k acc : Nat) (pl : Int), k ≤ 9 ∧ k ≤ xs.length ∧ i = .int .i64 k ∧ n = .int .i64 acc ∧ p = .int .i64 pl ∧ (k < 9 → pl = 128 ^ k) ∧ acc < 128 ^ k ∧ takeN xs 0 0 = takeN (xs.drop k) k acc) (fun _ _ i => 9 - (intOf i).toNat)
  case atStart => exact ⟨0, 0, 1, Nat.zero_le _, Nat.zero_le _, rfl, rfl, rfl, fun _ => rfl, by decide, rfl⟩
  case round =>
    obtain ⟨k, acc, pl, hk, hkl, rfl, rfl, rfl, hpl, hacc, htk⟩ := hrel
    have Htk := Lib.hid htk
    have Hacc := Lib.hid hacc
    have Hpl := Lib.hid hpl
    clear htk hacc hpl
    by_cases hlt : k < xs.length
    · by_cases h9 : k < 9
      · obtain ⟨b, off, rfl, hb, hc⟩ := Hcell.out (by omega)
        have d := hc k (.int .u8 xs[k]) (by simp [hlt])
        have hox := Ho.out xs[k] (List.getElem_mem hlt)
        have hdr := List.drop_eq_getElem_cons hlt
        obtain ⟨x, hx⟩ : ∃ x, x = xs[k] := ⟨_, rfl⟩
        rw [← hx] at d hox hdr
        have Hdr := Lib.hid hdr
        clear hc hx hdr
        have hac := takeN_acc (x := x) Hacc.out hox.1
        have htn : takeN xs 0 0 = takeN (x :: xs.drop (k + 1)) k acc := by rw [Htk.out, Hdr.out]
        rw [takeN, if_neg (show ¬ 9 ≤ k by omega)] at htn
        have hm : x.tmod 128 = x % 128 := Int.tmod_eq_emod_of_nonneg hox.1
        obtain ⟨y, hy⟩ : ∃ y : Int, y = x % 128 := ⟨_, rfl⟩
        have hy0 : 0 ≤ y := by omega
        have hy1 : y ≤ 127 := by omega
        rw [← hy] at hm hac htn
        have hp0 : pl = 128 ^ k := Hpl.out h9
        have hprod : (y.toNat * 128 ^ k : Nat) = y * pl := by rw [hp0]; push_cast; rw [Int.toNat_of_nonneg hy0]
        have h128 : 128 ^ (k + 1) ≤ 128 ^ 9 := Nat.pow_le_pow_right (by decide) (by omega)
        obtain ⟨z, hz⟩ : ∃ z : Nat, z = acc + y.toNat * 128 ^ k := ⟨_, rfl⟩
        rw [← hz] at hac htn
        have hz1 : (acc : Int) + y * pl = (z : Int) := by rw [hz, ← hprod]; push_cast; rfl
        have hz9 : z < 9223372036854775808 := by omega
        have hyp : y * pl ≤ z := by omega
        have hyp0 : 0 ≤ y * pl := by rw [← hprod]; omega
        have hw1 : IntKind.i64.wrap (y * pl) = y * pl := IntWalk.i64_in _ (by omega)
        have hw2 : IntKind.i64.wrap ((acc : Int) + y * pl) = (z : Int) := by rw [hz1]; exact IntWalk.i64_in _ (by omega)
        have Hac := Lib.hid hac
        have Htn := Lib.hid htn
        clear hac htn hz hz1 hprod h128 hy hp0
        obtain ⟨q, hq⟩ : ∃ q, q = wrap64 (pl * 128) := ⟨_, rfl⟩
        have hqn : k + 1 < 9 → q = 128 ^ (k + 1) := fun h => by
          rw [hq, Hpl.out h9]
          have h1 : (128 : Int) ^ k * 128 = 128 ^ (k + 1) := (Int.pow_succ _ _).symm
          rw [h1]
          have h2 : ((128 ^ (k + 1) : Nat) : Int) = (128 : Int) ^ (k + 1) := by simp
          have h3 : 128 ^ (k + 1) ≤ 128 ^ 8 := Nat.pow_le_pow_right (by decide) (by omega)
          obtain ⟨P, hP⟩ : ∃ P : Nat, P = 128 ^ (k + 1) := ⟨_, rfl⟩
          rw [← hP] at h2 h3
          have h4 : wrap64 (P : Int) = (P : Int) := IntWalk.wrap64_in _ (by omega)
          rw [← h2]
          exact h4
        have hq1 : wrap64 (pl * 128) = q := hq.symm
        have Hqn := Lib.hid hqn
        have hk9 : (k : Int) < 9 := by omega
        have hkx : (k : Int) < (xs.length : Int) := by omega
        clear hqn hq
        by_cases hx128 : x < 128
        · rw [if_neg (show ¬ 128 ≤ x by omega)] at Htn
          have hcl : ∀ v, BytesAt w v (xs.drop (k + 1)) → Calls Try.prog 15 #[v] w (NewRow w 5 1 (xs.drop (k + 1)).length ((xs.drop (k + 1)).map (Value.int .u8))) := fun v hv => copyBytes_any w v _ hv (by simp; omega)
          have Hcl := Lib.hid hcl
          clear hcl
          by_cases hz : 0 < k ∧ x = 0
          · rw [if_pos hz] at Htn
            obtain ⟨hz1, hz2⟩ := hz
            have tz : (x == 0) = true := by simp [hz2]
            have tk : decide ((0 : Int) < (k : Int)) = true := by simp; omega
            go_wp2
            go_ret3
            rw [Htn.out]
            exact ⟨rfl, Below.refl _ _⟩
          · rw [if_neg hz] at Htn
            have Hz := Lib.hid hz
            clear hz
            by_cases hck : cap = k + 1
            · have hv : BytesAt w (.slice (some ⟨b, off, none⟩) (xs.length - (k + 1)) 0) (xs.drop (k + 1)) := bytes_end (by omega)
              have Hv := Lib.hid hv
              clear hv
              by_cases hk0 : 0 < k
              · have tz : (x == 0) = false := by have := Hz.out; simp; omega
                go_wp2_with fail
                refine (Hcl.out _ Hv.out).mono ?_
                rintro e w' ⟨v, rfl, hown, hbel⟩
                go_wp2
                go_ret3
                rw [Htn.out]
                exact ⟨_, rfl, hown, hbel⟩
              · go_wp2_with fail
                refine (Hcl.out _ Hv.out).mono ?_
                rintro e w' ⟨v, rfl, hown, hbel⟩
                go_wp2
                go_ret3
                rw [Htn.out]
                exact ⟨_, rfl, hown, hbel⟩
            · have hv : BytesAt w (.slice (some ⟨b, off + (k + 1), none⟩) (xs.length - (k + 1)) (cap - (k + 1))) (xs.drop (k + 1)) := bytes_drop H.out (by omega)
              have Hv := Lib.hid hv
              clear hv
              by_cases hk0 : 0 < k
              · have tz : (x == 0) = false := by have := Hz.out; simp; omega
                go_wp2_with fail
                refine (Hcl.out _ Hv.out).mono ?_
                rintro e w' ⟨v, rfl, hown, hbel⟩
                go_wp2
                go_ret3
                rw [Htn.out]
                exact ⟨_, rfl, hown, hbel⟩
              · go_wp2_with fail
                refine (Hcl.out _ Hv.out).mono ?_
                rintro e w' ⟨v, rfl, hown, hbel⟩
                go_wp2
                go_ret3
                rw [Htn.out]
                exact ⟨_, rfl, hown, hbel⟩
        · rw [if_pos (show 128 ≤ x by omega)] at Htn
          go_wp2
          exact ⟨⟨k + 1, z, q, by omega, by omega, by go_num, rfl, by rw [hq1], Hqn.out, Hac.out, Htn.out⟩, by simp [intOf]; omega⟩
      · have hk9 : ¬ (k : Int) < 9 := by omega
        have htn : takeN xs 0 0 = none := by
          rw [Htk.out, List.drop_eq_getElem_cons hlt, takeN, if_pos (by omega)]
        have Htn := Lib.hid htn
        clear htn
        go_wp2
        go_ret3
        rw [Htn.out]
        exact ⟨rfl, Below.refl _ _⟩
    · have htn : takeN xs 0 0 = none := by
        rw [Htk.out, List.drop_eq_nil_of_le (by omega), takeN]
      have Htn := Lib.hid htn
      clear htn
      go_wp2
      go_ret3
      rw [Htn.out]
      exact ⟨rfl, Below.refl _ _⟩
end Go.Proofs.Ytkefciacdmbidaa
