/- Rows that are made: what grows; numbers' bytes. Numbers' bytes: the document's. Take: the number at the beginning of bytes. Sum, ending: the sum of bytes. ending, four; the document's sum. Grow, Concat: rows of bytes, one behind the other. Frame: the program's and the document's. Frame: the document's. -/
import Derived.Test.YtkefciacdmbidaaGa
import Derived.Test.YtkefciacdmbidaaGc
import Derived.OwnWalk
import Derived.Lib.AppendZerosOnto
import Derived.Lib.Walk
namespace Go.Proofs.Ytkefciacdmbidaa
open Go.RowKit Go.WideMaps Go.Maps

/-- a row that was made since, and all else as it was -/
structure Buf (e size : Nat) (w wr : World) (o : Value) (n : Nat) (vs : List Value) : Prop where
  own : wr.ownsRow w.heap.size e size o n vs
  below : Below w.heap.size w wr

theorem Buf.nil (e size : Nat) {w wr : World} (h : Below w.heap.size w wr) : Buf e size w wr (.slice none 0 0) 0 [] := ⟨World.ownsRow_nil _ _ _ _, h⟩
theorem Buf.made (e size : Nat) {w wr : World} (h : Below w.heap.size w wr) : Buf e size w (wr.alloc (.cells #[] e)) (.slice (some ⟨wr.heap.size, 0, none⟩) 0 0) 0 [] :=
  ⟨World.ownsRow_made wr #[] 0 h.size (Nat.zero_le _) (by simp), h.trans (((Below.refl _ _).alloc (Nat.le_refl _) _).mono h.size)⟩
theorem Buf.step {e size : Nat} {w wr w' : World} {o : Value} {n : Nat} {vs : List Value} (h : Buf e size w wr o n vs) (hb : Below wr.heap.size wr w') : Buf e size w w' o n vs :=
  ⟨ownsRow_block h.own fun g hg => hb.block g (h.own.lt g hg).2, h.below.trans (hb.mono h.below.size)⟩
theorem Buf.app {e size : Nat} {w wr w1 w' : World} {o o' : Value} {n m : Nat} {vs news : List Value} (h : Buf e size w wr o n vs) (hb : Below wr.heap.size wr w1) (ha : Appended w1 w' o o' e size n m (vs ++ news)) : Buf e size w w' o' (n + m) (vs ++ news) := by
  have h1 := h.step hb
  refine ⟨ownsRow_rebase ha.own fun g hg => ?_, h1.below.trans ⟨ha.grown.os, ha.grown.tape, ha.grown.output, ha.grown.size, fun k hk => ha.grown.block k (Nat.lt_of_lt_of_le hk h1.below.size) fun e => ?_⟩⟩
  · rcases ha.loc with hl | hl
    · exact (h1.own.lt g (by rw [← hl]; exact hg)).1
    · rw [hl] at hg
      cases hg
      exact h1.below.size
  · have := (h1.own.lt k e.symm).1
    omega
theorem Buf.slice {e size : Nat} {w wr : World} {o : Value} {n : Nat} {vs : List Value} (h : Buf e size w wr o n vs) : ∃ A c, o = .slice A n c := by
  obtain ⟨A, c, rfl, _⟩ := ownsRow_slice h.own
  exact ⟨A, c, rfl⟩
theorem Buf.newRow {e size : Nat} {w wr : World} {o : Value} {n : Nat} {vs : List Value} (h : Buf e size w wr o n vs) : NewRow w e size n vs (.returned o) wr := ⟨o, rfl, h.own, h.below⟩

/-- one byte, or one number, in a block of its own -/
theorem one_new {t : TypeId} (w : World) (v : Value) (h : v.oneCell' = true) : Srcs (w.alloc (.cells #[v] t)) (.slice (some ⟨w.heap.size, 0, none⟩) 1 1) 1 1 [v] := by
  refine Or.inr ⟨_, 1, rfl, Nat.le_refl _, rfl, fun j u hj => ?_, fun u hu => by simp at hu; rw [hu]; exact h⟩
  rw [add0, cell_of (heap_alloc_new w _)]
  simpa using hj

/-! bits -/
theorem wraps_i64' (n : Int) (h0 : 0 ≤ n) (h1 : n < 2 ^ 63) : IntKind.i64.wrap n = n := by rw [IntKind.wrap_i64]; omega
theorem and127 {m : Nat} (h : m ≤ 9223372036854775807) : bits .and .i64 (m : Int) 127 = (m : Int) % 128 := by
  have := bits_mask .i64 63 (by decide) wraps_i64' 7 (by decide) (m : Int) (by omega) (by omega)
  rw [show ((2 : Int) ^ 7 - 1) = 127 from rfl, show ((2 : Int) ^ 7) = 128 from rfl] at this
  exact this
theorem or128 (n : Nat) : bits .or .i64 ((n : Int) % 128) 128 = (n : Int) % 128 + 128 := by
  obtain ⟨m, hm⟩ : ∃ m, m = n % 128 := ⟨_, rfl⟩
  have h : m < 128 := by omega
  have hc : (n : Int) % 128 = (m : Int) := by omega
  rw [hc]
  have h1 := (bits_nat .i64 63 (by decide) wraps_i64' m 128 (by omega) (by decide)).2
  have h2 := bits_join .i64 63 (by decide) wraps_i64' 7 128 (m : Int) (by decide) (by decide) (by decide) (by omega) (by omega) (by omega)
  have h3 := (bits_nat .i64 63 (by decide) wraps_i64' 128 m (by decide) (by omega)).2
  rw [Nat.or_comm] at h1
  have e : ((128 : Nat) : Int) = 128 := rfl
  rw [e] at h1 h3
  rw [h1, ← h3, h2]
  omega

/-! numbers' bytes -/
def numN (n : Nat) : List Int := if n < 128 then [(n : Int)] else ((n : Int) % 128 + 128) :: numN (n / 128)
termination_by n
decreasing_by omega

theorem numN_more {n : Nat} (h : 127 < n) : numN n = ((n : Int) % 128 + 128) :: numN (n / 128) := by
  rw [numN, if_neg (by omega)]
theorem numN_last {n : Nat} (h : ¬ 127 < n) : numN n = [(n : Int)] := by
  rw [numN, if_pos (by omega)]
theorem numN_len : ∀ (j n : Nat), n < 128 ^ (j + 1) → (numN n).length ≤ j + 1
  | 0, n, h => by
    rw [numN_last (by omega)]
    exact Nat.le_refl _
  | j + 1, n, h => by
    by_cases h1 : 127 < n
    · rw [numN_more h1, List.length_cons]
      have := numN_len j (n / 128) (by
        rw [Nat.pow_succ] at h
        exact Nat.div_lt_of_lt_mul (by omega))
      omega
    · rw [numN_last h1]
      simp

set_option maxRecDepth 10000 in
theorem num_any (n : Nat) (w : World) (hn : n ≤ 9223372036854775807) : Calls Try.prog 60 #[.int .i64 n] w (NewRow w 5 1 (numN n).length ((numN n).map (Value.int .u8))) := by
  go_enter Try.func60, Try.ntmps60
  go_wp2_with fail
  go_loopw [0, 3] (fun i o wr => ∃ (m : Nat) (A : Option Addr) (k c : Nat) (xs : List Int), m ≤ n ∧ i = .int .i64 m ∧ o = .slice A k c ∧ Buf 5 1 w wr (.slice A k c) k (xs.map (Value.int .u8)) ∧ numN n = xs ++ numN m ∧ k = xs.length) (fun i _ _ => (intOf i).toNat)
  case atStart => exact ⟨n, _, _, _, [], Nat.le_refl _, rfl, rfl, Buf.nil 5 1 (Below.refl _ _), rfl, rfl⟩
  case round =>
    obtain ⟨m, A, k, c, xs, hm, rfl, rfl, hbuf, hxs, hk⟩ := hrel
    have hk9 : k ≤ 9 := by
      have h1 := numN_len 8 n (by omega)
      rw [hxs, List.length_append] at h1
      omega
    have Hbuf := Lib.hid hbuf
    have Hxs := Lib.hid hxs
    have Hk := Lib.hid hk
    clear hbuf hxs hk
    have ha := and127 (m := m) (by omega)
    have hb := or128 m
    have hc : ((m : Int) % 128 + 128) % 256 = (m : Int) % 128 + 128 := by omega
    by_cases h : 127 < m
    · go_wp2_with (first | (at_builtin; refine wpList_app _ rfl _ _ 32 rfl 5 1 1 _ Try.underlying32 info5 rfl (by decide) _ k (xs.map (Value.int .u8)) rfl ?hrow _ 1 [.int .u8 ((m : Int) % 128 + 128)] rfl ?hsrc ?h63 ?hby ?_))
      case hrow => exact (ownsRow_base0 Hbuf.out.own).alloc _
      case hsrc => exact one_new wr _ rfl
      case h63 => unfold maxLen; omega
      case hby => omega
      intro o' w7 ha
      have hb7 := Hbuf.out.app ((Below.refl _ wr).alloc (Nat.le_refl _) _) ha
      obtain ⟨A', c', rfl⟩ := hb7.slice
      have Hb7 := Lib.hid hb7
      clear ha hb7
      go_wp2
      exact ⟨⟨m / 128, A', k + 1, c', xs ++ [(m : Int) % 128 + 128], by omega, by rw [Int.natCast_ediv]; rfl, rfl, by simpa using Hb7.out, by rw [Hxs.out, numN_more h, List.append_assoc]; rfl, by rw [Hk.out, List.length_append]; rfl⟩, by simp [intOf]; omega⟩
    · have hc2 : (m : Int) % 256 = (m : Int) := by omega
      go_wp2_with (first | (at_builtin; refine wpList_app _ rfl _ _ 32 rfl 5 1 1 _ Try.underlying32 info5 rfl (by decide) _ k (xs.map (Value.int .u8)) rfl ?hrow _ 1 [.int .u8 (m : Int)] rfl ?hsrc ?h63 ?hby ?_))
      case hrow => exact (ownsRow_base0 Hbuf.out.own).alloc _
      case hsrc => exact one_new wr _ rfl
      case h63 => unfold maxLen; omega
      case hby => omega
      intro o' w7 ha
      have hb7 := Hbuf.out.app ((Below.refl _ wr).alloc (Nat.le_refl _) _) ha
      have Hb7 := Lib.hid hb7
      clear ha hb7
      go_wp2
      go_ret
      have e : numN n = xs ++ [(m : Int)] := by rw [Hxs.out, numN_last h]
      rw [e, List.length_append, List.map_append, ← Hk.out]
      exact Hb7.out.newRow
end Go.Proofs.Ytkefciacdmbidaa

namespace Go.Proofs.Ytkefciacdmbidaa
open Go.RowKit Go.WideMaps Go.Maps

set_option maxRecDepth 10000 in
theorem rnum_any (n : Nat) (w : World) (hn : n ≤ 9223372036854775807) : Calls Try.prog 62 #[.int .i64 n] w (NewRow w 5 1 (numN n).length ((numN n).map (Value.int .u8))) := by
  go_enter Try.func62, Try.ntmps62
  go_wp2_with fail
  go_loopw [0, 3] (fun i o wr => ∃ (m : Nat) (A : Option Addr) (k c : Nat) (xs : List Int), m ≤ n ∧ i = .int .i64 m ∧ o = .slice A k c ∧ Buf 5 1 w wr (.slice A k c) k (xs.map (Value.int .u8)) ∧ numN n = xs ++ numN m ∧ k = xs.length) (fun i _ _ => (intOf i).toNat)
  case atStart => exact ⟨n, _, _, _, [], Nat.le_refl _, rfl, rfl, Buf.made 5 1 (Below.refl _ _), rfl, rfl⟩
  case round =>
    obtain ⟨m, A, k, c, xs, hm, rfl, rfl, hbuf, hxs, hk⟩ := hrel
    have hk9 : k ≤ 9 := by
      have h1 := numN_len 8 n (by omega)
      rw [hxs, List.length_append] at h1
      omega
    have Hbuf := Lib.hid hbuf
    have Hxs := Lib.hid hxs
    have Hk := Lib.hid hk
    clear hbuf hxs hk
    have ha : (m : Int).tmod 128 = (m : Int) % 128 := Int.tmod_eq_emod_of_nonneg (by omega)
    have hb : (m : Int).tdiv 128 = (m : Int) / 128 := Int.tdiv_eq_ediv_of_nonneg (by omega)
    have hc : (128 + (m : Int) % 128) % 256 = 128 + (m : Int) % 128 := by omega
    by_cases h : 128 ≤ m
    · go_wp2_with (first | (at_builtin; refine wpList_app _ rfl _ _ 32 rfl 5 1 1 _ Try.underlying32 info5 rfl (by decide) _ k (xs.map (Value.int .u8)) rfl ?hrow _ 1 [.int .u8 (128 + (m : Int) % 128)] rfl ?hsrc ?h63 ?hby ?_))
      case hrow => exact (ownsRow_base0 Hbuf.out.own).alloc _
      case hsrc => exact one_new wr _ rfl
      case h63 => unfold maxLen; omega
      case hby => omega
      intro o' w7 ha
      have hb7 := Hbuf.out.app ((Below.refl _ wr).alloc (Nat.le_refl _) _) ha
      obtain ⟨A', c', rfl⟩ := hb7.slice
      have Hb7 := Lib.hid hb7
      clear ha hb7
      go_wp2
      exact ⟨⟨m / 128, A', k + 1, c', xs ++ [(m : Int) % 128 + 128], by omega, by rw [Int.natCast_ediv]; rfl, rfl, by rw [show 128 + (m : Int) % 128 = (m : Int) % 128 + 128 by omega] at Hb7; simpa using Hb7.out, by rw [Hxs.out, numN_more (show 127 < m from h), List.append_assoc]; rfl, by rw [Hk.out, List.length_append]; rfl⟩, by simp [intOf]; omega⟩
    · have hc2 : (m : Int) % 256 = (m : Int) := by omega
      go_wp2_with (first | (at_builtin; refine wpList_app _ rfl _ _ 32 rfl 5 1 1 _ Try.underlying32 info5 rfl (by decide) _ k (xs.map (Value.int .u8)) rfl ?hrow _ 1 [.int .u8 (m : Int)] rfl ?hsrc ?h63 ?hby ?_))
      case hrow => exact (ownsRow_base0 Hbuf.out.own).alloc _
      case hsrc => exact one_new wr _ rfl
      case h63 => unfold maxLen; omega
      case hby => omega
      intro o' w7 ha
      have hb7 := Hbuf.out.app ((Below.refl _ wr).alloc (Nat.le_refl _) _) ha
      have Hb7 := Lib.hid hb7
      clear ha hb7
      go_wp2
      go_ret
      have e : numN n = xs ++ [(m : Int)] := by rw [Hxs.out, numN_last (show ¬ 127 < m from h)]
      rw [e, List.length_append, List.map_append, ← Hk.out]
      exact Hb7.out.newRow
end Go.Proofs.Ytkefciacdmbidaa

namespace Go.Proofs.Ytkefciacdmbidaa
open Go.RowKit Go.WideMaps Go.Maps

/-- bytes -/
def Octets (xs : List Int) : Prop := ∀ x ∈ xs, 0 ≤ x ∧ x < 256

theorem and127b {x : Int} (h0 : 0 ≤ x) (h1 : x < 256) : bits .and .u8 x 127 = x % 128 := bits_mask .u8 8 (by decide) wraps_u8 7 (by decide) x h0 h1
theorem and128b {x : Int} (h0 : 0 ≤ x) (h1 : x < 256) : bits .and .u8 x 128 = if x < 128 then 0 else 128 := by
  obtain ⟨n, rfl⟩ := Int.eq_ofNat_of_zero_le h0
  have h2 : n < 256 := by omega
  have h3 := (bits_nat .u8 8 (by decide) wraps_u8 n 128 (by omega) (by decide)).1
  have h4 : ∀ k : Fin 256, k.val &&& 128 = if k.val < 128 then 0 else 128 := by decide +kernel
  have h5 := h4 ⟨n, h2⟩
  simp only at h5
  have e : ((128 : Nat) : Int) = 128 := rfl
  rw [e] at h3
  rw [h3, h5]
  by_cases h : n < 128
  · rw [if_pos h, if_pos (by omega)]
    rfl
  · rw [if_neg h, if_neg (by omega)]
    rfl

theorem add_flat' (b off i : Nat) : (⟨b, off, none⟩ : Addr).add i = ⟨b, off + i, none⟩ := by
  unfold Addr.add
  split
  · subst_vars
    rfl
  · rfl

/-- the number at the beginning of bytes, from the i-th on -/
def takeN : List Int → Nat → Nat → Option (Nat × List Int)
  | [], _, _ => none
  | c :: r, i, acc => if 9 ≤ i then none else if 128 ≤ c then takeN r (i + 1) (acc + (c % 128).toNat * 128 ^ i) else if 0 < i ∧ c = 0 then none else some (acc + (c % 128).toNat * 128 ^ i, r)

theorem takeN_acc {x : Int} {acc k : Nat} (h : acc < 128 ^ k) (_ : 0 ≤ x) : acc + (x % 128).toNat * 128 ^ k < 128 ^ (k + 1) := by
  have h1 : (x % 128).toNat ≤ 127 := by omega
  have h2 : (x % 128).toNat * 128 ^ k ≤ 127 * 128 ^ k := Nat.mul_le_mul_right _ h1
  rw [Nat.pow_succ]
  omega
theorem or_shift {x : Int} {acc k : Nat} (h : acc < 128 ^ k) (hk : k < 9) (h0 : 0 ≤ x) : bits .or .i64 (acc : Int) (wrap64 (x % 128 * 2 ^ (7 * k))) = ((acc + (x % 128).toNat * 128 ^ k : Nat) : Int) := by
  have hlt := takeN_acc h h0
  have hle : 128 ^ (k + 1) ≤ 128 ^ 9 := Nat.pow_le_pow_right (by decide) (by omega)
  have h9 : 128 ^ 9 = 2 ^ 63 := by decide
  obtain ⟨y, hy⟩ : ∃ y : Nat, y = (x % 128).toNat := ⟨_, rfl⟩
  have hxy : x % 128 = (y : Int) := by omega
  have hp : (2 : Nat) ^ (7 * k) = 128 ^ k := by rw [Nat.pow_mul]
  rw [← hy] at hlt
  rw [hxy, Int.toNat_natCast]
  have hcast : (y : Int) * 2 ^ (7 * k) = ((y * 128 ^ k : Nat) : Int) := by
    rw [← hp]
    simp
  rw [hcast, IntWalk.wrap64_in _ (by omega)]
  have h1 := (bits_nat .i64 63 (by decide) wraps_i64' acc (y * 128 ^ k) (by omega) (by omega)).2
  have h2 := (bits_nat .i64 63 (by decide) wraps_i64' (y * 128 ^ k) acc (by omega) (by omega)).2
  have h3 := bits_join .i64 63 (by decide) wraps_i64' (7 * k) ((y * 128 ^ k : Nat) : Int) (acc : Int) (by omega) (by
    have e : ((2 : Int) ^ (7 * k)) = ((128 ^ k : Nat) : Int) := by rw [← hp]; simp
    rw [e, ← Int.natCast_emod, Nat.mul_mod_left]
    rfl) (by omega) (by omega) (by
    have e : ((2 : Int) ^ (7 * k)) = ((128 ^ k : Nat) : Int) := by rw [← hp]; simp
    rw [e]
    omega) (by omega)
  rw [h1, Nat.or_comm, ← h2, h3]
  omega

theorem bytes_drop {w : World} {b off cap j : Nat} {xs : List Int} (h : BytesAt w (.slice (some ⟨b, off, none⟩) xs.length cap) xs) (hj : j ≤ xs.length) : BytesAt w (.slice (some ⟨b, off + j, none⟩) (xs.length - j) (cap - j)) (xs.drop j) := by
  rcases h with ⟨h1, -, -⟩ | ⟨ad, c, h1, hc, hl, hcell, -⟩
  · cases h1
  · cases h1
    refine Or.inr ⟨_, _, by rw [List.length_drop], by rw [List.length_drop]; omega, by simp, fun i u hi => ?_, one_u8 _⟩
    have := hcell (j + i) u (by rw [← List.getElem?_drop, ← List.map_drop]; exact hi)
    rw [add_flat'] at this ⊢
    rw [show off + j + i = off + (j + i) by omega]
    exact this
theorem bytes_end {w : World} {b off j : Nat} {xs : List Int} (h : xs.length ≤ j) : BytesAt w (.slice (some ⟨b, off, none⟩) (xs.length - j) 0) (xs.drop j) := by
  rw [List.drop_eq_nil_of_le h, show xs.length - j = 0 by omega]
  exact Or.inr ⟨_, _, rfl, Nat.le_refl _, rfl, fun i u hi => by simp at hi, fun u hu => by simp at hu⟩

def TakePost (w : World) (t : Option (Nat × List Int)) (e : Ending) (w' : World) : Prop :=
  match t with
  | none => e = .returned (.tuple #[.int .i64 0, .slice none 0 0, .bool false]) ∧ Below w.heap.size w w'
  | some (n, r) => ∃ v, e = .returned (.tuple #[.int .i64 n, v, .bool true]) ∧ w'.ownsRow w.heap.size 5 1 v r.length (r.map (Value.int .u8)) ∧ Below w.heap.size w w'

set_option maxRecDepth 10000 in
theorem take_any (w : World) (v : Value) (xs : List Int) (h : BytesAt w v xs) (ho : Octets xs) (hn : xs.length ≤ 140737488355328) : Calls Try.prog 63 #[v] w (TakePost w (takeN xs 0 0)) := by
  obtain ⟨A, cap, rfl, hcap, hcell⟩ := srcs_at h
  have Hcell := Lib.hid hcell
  have Ho := Lib.hid ho
  have H := Lib.hid h
  clear h hcell ho
  obtain ⟨m, hm⟩ : ∃ m : Nat, m = min xs.length 9 := ⟨_, rfl⟩
  have hmi : min ((xs.length : Nat) : Int) 9 = (m : Int) := by omega
  have hmx : max (m : Int) 0 = (m : Int) := by omega
  have hm9 : m ≤ 9 := by omega
  have hml : m ≤ xs.length := by omega
  have Hm := Lib.hid hm
  clear hm
  go_enter Try.func63, Try.ntmps63
  go_wp2_with fail
  go_loop [5, 14] (fun n i => ∃ k acc : Nat, k ≤ m ∧ i = .int .i64 k ∧ n = .int .i64 acc ∧ acc < 128 ^ k ∧ takeN xs 0 0 = takeN (xs.drop k) k acc) (fun _ i => m - (intOf i).toNat)
  case atStart => exact ⟨0, 0, Nat.zero_le _, rfl, rfl, by decide, rfl⟩
  case round =>
    obtain ⟨k, acc, hk, rfl, rfl, hacc, htk⟩ := hrel
    have Htk := Lib.hid htk
    have Hacc := Lib.hid hacc
    clear htk hacc
    by_cases hlt : k < m
    · obtain ⟨b, off, rfl, hb, hc⟩ := Hcell.out (by omega)
      have hkx : k < xs.length := by omega
      have d := hc k (.int .u8 xs[k]) (by simp [hkx])
      have hox := Ho.out xs[k] (List.getElem_mem hkx)
      have hdr := List.drop_eq_getElem_cons hkx
      obtain ⟨x, hx⟩ : ∃ x, x = xs[k] := ⟨_, rfl⟩
      rw [← hx] at d hox hdr
      have h1 := and127b hox.1 hox.2
      have h2 := and128b hox.1 hox.2
      have Hdr := Lib.hid hdr
      clear hc hx hdr
      have hos := or_shift (x := x) Hacc.out (show k < 9 by omega) hox.1
      have hac := takeN_acc (x := x) Hacc.out hox.1
      have htn : takeN xs 0 0 = takeN (x :: xs.drop (k + 1)) k acc := by rw [Htk.out, Hdr.out]
      rw [takeN, if_neg (show ¬ 9 ≤ k by omega)] at htn
      obtain ⟨z, hz⟩ : ∃ z : Nat, z = acc + (x % 128).toNat * 128 ^ k := ⟨_, rfl⟩
      rw [← hz] at hos hac htn
      clear hz
      have Hac := Lib.hid hac
      have Htn := Lib.hid htn
      clear hac htn
      by_cases hx128 : x < 128
      · rw [if_pos hx128] at h2
        rw [if_neg (show ¬ 128 ≤ x by omega)] at Htn
        by_cases hz : 0 < k ∧ x = 0
        · rw [if_pos hz] at Htn
          obtain ⟨hz1, hz2⟩ := hz
          have tz : (x == 0) = true := by simp [hz2]
          go_wp2
          go_ret3
          rw [Htn.out]
          exact ⟨rfl, Below.refl _ _⟩
        · rw [if_neg hz] at Htn
          have Hz := Lib.hid hz
          clear hz
          have hcl : ∀ v, BytesAt w v (xs.drop (k + 1)) → Calls Try.prog 82 #[v] w (NewRow w 5 1 (xs.drop (k + 1)).length ((xs.drop (k + 1)).map (Value.int .u8))) := fun v hv => clone82_any w v _ hv (by simp; omega)
          have Hcl := Lib.hid hcl
          clear hcl
          by_cases hck : cap = k + 1
          · have hv : BytesAt w (.slice (some ⟨b, off, none⟩) (xs.length - (k + 1)) 0) (xs.drop (k + 1)) := bytes_end (by omega)
            have Hv := Lib.hid hv
            clear hv
            by_cases hk0 : 0 < k
            · have tz : (x == 0) = false := by have := Hz.out; simp; omega
              go_wp2_with fail
              refine (Hcl.out _ Hv.out).mono ?_
              rintro e w' ⟨v, rfl, hown, hbel⟩
              go_wp2
              go_ret3
              rw [Htn.out]
              exact ⟨_, rfl, hown, hbel⟩
            · go_wp2_with fail
              refine (Hcl.out _ Hv.out).mono ?_
              rintro e w' ⟨v, rfl, hown, hbel⟩
              go_wp2
              go_ret3
              rw [Htn.out]
              exact ⟨_, rfl, hown, hbel⟩
          · have hv : BytesAt w (.slice (some ⟨b, off + (k + 1), none⟩) (xs.length - (k + 1)) (cap - (k + 1))) (xs.drop (k + 1)) := bytes_drop H.out (by omega)
            have Hv := Lib.hid hv
            clear hv
            by_cases hk0 : 0 < k
            · have tz : (x == 0) = false := by have := Hz.out; simp; omega
              go_wp2_with fail
              refine (Hcl.out _ Hv.out).mono ?_
              rintro e w' ⟨v, rfl, hown, hbel⟩
              go_wp2
              go_ret3
              rw [Htn.out]
              exact ⟨_, rfl, hown, hbel⟩
            · go_wp2_with fail
              refine (Hcl.out _ Hv.out).mono ?_
              rintro e w' ⟨v, rfl, hown, hbel⟩
              go_wp2
              go_ret3
              rw [Htn.out]
              exact ⟨_, rfl, hown, hbel⟩
      · rw [if_neg hx128] at h2
        have hx128' : 128 ≤ x := by omega
        go_wp2
        exact ⟨⟨k + 1, z, by omega, by go_num, rfl, Hac.out, by rw [Htn.out, if_pos hx128']⟩, by simp [intOf]; omega⟩
    · have hkm : k = m := by omega
      subst hkm
      go_wp2
      go_ret3
      have hend : takeN xs 0 0 = none := by
        rw [Htk.out]
        have := Hm.out
        by_cases h9 : k = 9
        · cases hd : xs.drop k with
          | nil => rfl
          | cons c r => rw [takeN, if_pos (by omega)]
        · rw [List.drop_eq_nil_of_le (by omega)]
          rfl
      rw [hend]
      exact ⟨rfl, Below.refl _ _⟩
end Go.Proofs.Ytkefciacdmbidaa

namespace Go.Proofs.Ytkefciacdmbidaa
open Go.RowKit Go.WideMaps Go.Maps

def sumStep (s : Int × Int) (c : Int) : Int × Int := ((s.1 + c) % 65521, (s.2 + (s.1 + c)) % 65521)
def sumP (xs : List Int) : Int × Int := xs.foldl sumStep (1, 0)
def sumB (xs : List Int) : Int := (sumP xs).2 * 65536 + (sumP xs).1
theorem sumP_take {xs : List Int} {k : Nat} (h : k < xs.length) : sumP (xs.take (k + 1)) = sumStep (sumP (xs.take k)) xs[k] := by
  unfold sumP
  rw [List.take_succ_eq_append_getElem h, List.foldl_append]
  rfl
theorem sumP_range : ∀ xs : List Int, (0 ≤ (sumP xs).1 ∧ (sumP xs).1 < 65521) ∧ (0 ≤ (sumP xs).2 ∧ (sumP xs).2 < 65521) := fun xs => by
  have : ∀ (l : List Int) (s : Int × Int), (0 ≤ s.1 ∧ s.1 < 65521) ∧ (0 ≤ s.2 ∧ s.2 < 65521) → (0 ≤ (l.foldl sumStep s).1 ∧ (l.foldl sumStep s).1 < 65521) ∧ (0 ≤ (l.foldl sumStep s).2 ∧ (l.foldl sumStep s).2 < 65521) := fun l => by
    induction l with
    | nil => exact fun s h => h
    | cons c r ih =>
      intro s _
      refine ih (sumStep s c) ?_
      unfold sumStep
      simp only
      omega
  exact this xs (1, 0) (by decide)
theorem sumB_range (xs : List Int) : 0 ≤ sumB xs ∧ sumB xs < 4294967296 := by
  have := sumP_range xs
  unfold sumB
  omega

theorem or_sum {a b : Int} (ha : 0 ≤ a ∧ a < 65521) (hb : 0 ≤ b ∧ b < 65521) : bits .or .i64 (b * 65536) a = b * 65536 + a :=
  bits_join .i64 63 (by decide) wraps_i64' 16 (b * 65536) a (by omega) (by omega) (by omega) ha.1 (by omega) (by omega)

set_option maxRecDepth 10000 in
theorem sum_any (w : World) (v : Value) (xs : List Int) (h : BytesAt w v xs) (ho : Octets xs) (hn : xs.length ≤ 140737488355328) : Calls Try.prog 122 #[v] w fun e w' => e = .returned (.int .i64 (sumB xs)) ∧ w' = w := by
  obtain ⟨A, cap, rfl, hcap, hcell⟩ := srcs_at h
  have Hcell := Lib.hid hcell
  have Ho := Lib.hid ho
  clear h hcell ho
  go_enter Try.func122, Try.ntmps122
  go_wp2_with fail
  go_loop [3, 4, 9] (fun x y i => ∃ (k : Nat) (a b : Int), k ≤ xs.length ∧ i = .int .i64 k ∧ x = .int .i64 a ∧ y = .int .i64 b ∧ sumP (xs.take k) = (a, b)) (fun _ _ i => xs.length - (intOf i).toNat)
  case atStart => exact ⟨0, _, _, Nat.zero_le _, rfl, rfl, rfl, rfl⟩
  case round =>
    obtain ⟨k, a, b, hk, rfl, rfl, rfl, hs⟩ := hrel
    have hr := sumP_range (xs.take k)
    rw [hs] at hr
    simp only at hr
    have Hs := Lib.hid hs
    clear hs
    by_cases hlt : k < xs.length
    · obtain ⟨b', off, rfl, hb, hc⟩ := Hcell.out (by omega)
      have d := hc k (.int .u8 xs[k]) (by simp [hlt])
      have hox := Ho.out xs[k] (List.getElem_mem hlt)
      have htk := sumP_take hlt
      obtain ⟨x, hx⟩ : ∃ x, x = xs[k] := ⟨_, rfl⟩
      rw [← hx] at d hox htk
      rw [Hs.out] at htk
      have Htk := Lib.hid htk
      have h1 : (a + x).tmod 65521 = (a + x) % 65521 := Int.tmod_eq_emod_of_nonneg (by omega)
      have h2 : (b + (a + x) % 65521).tmod 65521 = (b + (a + x) % 65521) % 65521 := Int.tmod_eq_emod_of_nonneg (by omega)
      clear hc hx htk
      go_wp2
      exact ⟨⟨k + 1, _, _, by omega, by go_num, rfl, rfl, Htk.out⟩, by simp [intOf]; omega⟩
    · have hkm : k = xs.length := by omega
      subst hkm
      have ho := or_sum hr.1 hr.2
      go_wp2
      go_ret
      have e := Hs.out
      rw [List.take_length] at e
      refine ⟨ret_int ?_, rfl⟩
      unfold sumB
      rw [e]
end Go.Proofs.Ytkefciacdmbidaa

namespace Go.Proofs.Ytkefciacdmbidaa
open Go.RowKit Go.WideMaps Go.Maps

set_option maxRecDepth 10000 in
theorem rsum_any (w : World) (v : Value) (xs : List Int) (h : BytesAt w v xs) (ho : Octets xs) (hn : xs.length ≤ 140737488355328) : Calls Try.prog 74 #[v] w fun e w' => e = .returned (.int .i64 (sumB xs)) ∧ w' = w := by
  obtain ⟨A, cap, rfl, hcap, hcell⟩ := srcs_at h
  have Hcell := Lib.hid hcell
  have Ho := Lib.hid ho
  clear h hcell ho
  go_enter Try.func74, Try.ntmps74
  go_wp2_with fail
  go_loop [3, 4, 5] (fun x y i => ∃ (k : Nat) (a b : Int), k ≤ xs.length ∧ i = .int .i64 k ∧ x = .int .i64 a ∧ y = .int .i64 b ∧ sumP (xs.take k) = (a, b)) (fun _ _ i => xs.length - (intOf i).toNat)
  case atStart => exact ⟨0, _, _, Nat.zero_le _, rfl, rfl, rfl, rfl⟩
  case round =>
    obtain ⟨k, a, b, hk, rfl, rfl, rfl, hs⟩ := hrel
    have hr := sumP_range (xs.take k)
    rw [hs] at hr
    simp only at hr
    have Hs := Lib.hid hs
    clear hs
    by_cases hlt : k < xs.length
    · obtain ⟨b', off, rfl, hb, hc⟩ := Hcell.out (by omega)
      have d := hc k (.int .u8 xs[k]) (by simp [hlt])
      have hox := Ho.out xs[k] (List.getElem_mem hlt)
      have htk := sumP_take hlt
      obtain ⟨x, hx⟩ : ∃ x, x = xs[k] := ⟨_, rfl⟩
      rw [← hx] at d hox htk
      rw [Hs.out] at htk
      have Htk := Lib.hid htk
      have h1 : (a + x).tmod 65521 = (a + x) % 65521 := Int.tmod_eq_emod_of_nonneg (by omega)
      have h2 : (b + (a + x) % 65521).tmod 65521 = (b + (a + x) % 65521) % 65521 := Int.tmod_eq_emod_of_nonneg (by omega)
      clear hc hx htk
      go_wp2
      exact ⟨⟨k + 1, _, _, by omega, by go_num, rfl, rfl, Htk.out⟩, by simp [intOf]; omega⟩
    · have hkm : k = xs.length := by omega
      subst hkm
      go_wp2
      go_ret
      have e := Hs.out
      rw [List.take_length] at e
      refine ⟨ret_int ?_, rfl⟩
      unfold sumB
      rw [e]

/-- a row that was built -/
theorem row_built (w : World) (cur : Array Value) (e : TypeId) (h : cur.size ≤ maxLen) : (w.alloc (.cells cur e)).ownsRow w.heap.size e 1 (.slice (some ⟨w.heap.size, 0, none⟩) cur.size cur.size) cur.size cur.toList := by
  refine ⟨by simp, Or.inr ⟨w.heap.size, cur.size, cur, rfl, Nat.le_refl _, heap_alloc_new w _, Nat.le_refl _, h, by simp, by rw [Nat.mul_one, ← Array.length_toList, List.take_length]⟩⟩

theorem four_le {a b c d : Value} : (#[a, b, c, d] : Array Value).size ≤ maxLen := by
  show 4 ≤ maxLen
  decide

def endN (n : Int) : List Int := [n / 16777216, n / 65536 % 256, n / 256 % 256, n % 256]
def endB (xs : List Int) : List Int := endN (sumB xs)

theorem ending_any (w : World) (v : Value) (xs : List Int) (h : BytesAt w v xs) (ho : Octets xs) (hn : xs.length ≤ 140737488355328) : Calls Try.prog 96 #[v] w (NewRow w 5 1 4 ((endB xs).map (Value.int .u8))) := by
  have hs := sum_any w v xs h ho hn
  have hr := sumB_range xs
  have Hs := Lib.hid hs
  unfold endB
  obtain ⟨n, hn⟩ : ∃ n, n = sumB xs := ⟨_, rfl⟩
  rw [← hn] at Hs hr ⊢
  clear h ho hs hn
  go_enter Try.func96, Try.ntmps96
  go_wp2_with fail
  refine Hs.out.mono ?_
  rintro e w' ⟨rfl, rfl⟩
  go_wp2
  go_ret
  exact ⟨_, rfl, row_built w' #[_, _, _, _] 5 four_le, (Below.refl _ _).alloc (Nat.le_refl _) _⟩

theorem four_any (w : World) (n : Int) (h : 0 ≤ n ∧ n < 4294967296) : Calls Try.prog 73 #[.int .i64 n] w (NewRow w 5 1 4 ((endN n).map (Value.int .u8))) := by
  have h1 : n.tdiv 16777216 = n / 16777216 := Int.tdiv_eq_ediv_of_nonneg (by omega)
  have h2 : n.tdiv 65536 = n / 65536 := Int.tdiv_eq_ediv_of_nonneg (by omega)
  have h3 : n.tdiv 256 = n / 256 := Int.tdiv_eq_ediv_of_nonneg (by omega)
  have h4 : (n / 16777216).tmod 256 = n / 16777216 := by
    rw [Int.tmod_eq_emod_of_nonneg (by omega)]
    omega
  have h5 : (n / 65536).tmod 256 = n / 65536 % 256 := Int.tmod_eq_emod_of_nonneg (by omega)
  have h6 : (n / 256).tmod 256 = n / 256 % 256 := Int.tmod_eq_emod_of_nonneg (by omega)
  have h7 : n.tmod 256 = n % 256 := Int.tmod_eq_emod_of_nonneg (by omega)
  go_enter Try.func73, Try.ntmps73
  go_wp2
  go_ret
  exact ⟨_, rfl, row_built w #[_, _, _, _] 5 four_le, (Below.refl _ _).alloc (Nat.le_refl _) _⟩
end Go.Proofs.Ytkefciacdmbidaa

namespace Go.Proofs.Ytkefciacdmbidaa
open Go.RowKit Go.WideMaps Go.Maps

def GrowPost (w : World) (e : Ending) (w' : World) : Prop := ∃ v, e = .returned v ∧ Buf 5 1 w w' v 0 []

set_option maxRecDepth 10000 in
theorem grow_any (w : World) (n : Nat) (h0 : 0 < n) (hn : n ≤ 140737488355328) : Calls Try.prog 129 #[.slice none 0 0, .int .i64 n] w (GrowPost w) := by
  obtain ⟨i, hi, hz1, hz2, hz3⟩ := info_parts info5
  have hrun : ∀ ty, (Builtin.append_ #[32, 3] ty #[.slice none 0 0, .int .i64 n]).run Try.prog w = .ok (.slice (some ⟨w.heap.size, 0, none⟩) n (grownCap w n 0 5)) (w.drew.alloc (.cells (#[] ++ Builtin.zeroCells (Value.int .u8 0).cells n ++ Builtin.zeroCells (Value.int .u8 0).cells (grownCap w n 0 5 - n)) 5)) := fun ty => by
    have h := Lib.run_append_grow_zeros w 32 3 ty 5 i (.int .u8 0) .i64 .i64 Try.underlying32 Try.underlying3 hi hz1 none 0 0 [] (run_firstCells_none w.drew i.size 0 0 0) n h0 (by rw [hz2]; decide) (by omega) (by omega)
      (by rw [hz3]; omega) (by rw [hz3]; exact growslice_fits (by omega) (by omega))
    rw [Nat.zero_add] at h
    exact h
  have hcap : n ≤ grownCap w n 0 5 := grownCap_ge w _ _ _
  have hcap2 := grownCap_le_maxLen w n 0 5 (by unfold maxLen; omega)
  obtain ⟨G, hG⟩ : ∃ G, G = grownCap w n 0 5 := ⟨_, rfl⟩
  rw [← hG] at hrun hcap hcap2
  have hG63 : G ≤ 9223372036854775807 := by unfold maxLen at hcap2; omega
  clear hG hi hz1 hz2 hz3
  go_enter Try.func129, Try.ntmps129
  go_wp2_with (at_builtin; refine Lib.wpList_append_run _ rfl _ _ _ _ rfl _ _ rfl rfl _ _ (hrun _) ?_)
  go_ret
  refine ⟨_, rfl, ?_, ?_⟩
  · refine World.ownsRow_made w _ G (Nat.le_refl _) hcap2 ?_
    rw [Array.size_append, size_zeroCells, size_zeroCells]
    simp
    omega
  · exact ((Below.refl w.heap.size w).alloc (Nat.le_refl _) _).drew

/-- a row of rows of bytes -/
structure RowsAt (w : World) (v : Value) (ds : List (List Int)) : Prop where
  at_ : ∃ A c, v = .slice A ds.length c ∧ (ds ≠ [] → ∃ b off, A = some ⟨b, off, none⟩ ∧ b < w.heap.size ∧ ∀ j (h : j < ds.length), ∃ u, w.cell? ⟨b, off + j, none⟩ = some u ∧ BytesAt w u ds[j])
theorem RowsAt.below {w w' : World} {v : Value} {ds : List (List Int)} (h : RowsAt w v ds) (hb : Below w.heap.size w w') : RowsAt w' v ds := by
  obtain ⟨A, c, e, h⟩ := h.at_
  refine ⟨A, c, e, fun hne => ?_⟩
  obtain ⟨b, off, e2, hlt, h⟩ := h hne
  refine ⟨b, off, e2, Nat.lt_of_lt_of_le hlt hb.size, fun j hj => ?_⟩
  obtain ⟨u, h1, h2⟩ := h j hj
  exact ⟨u, by rw [hb.cell (p := ⟨b, off + j, none⟩) hlt]; exact h1, srcs_below h2 hb⟩

def blen (ds : List (List Int)) : Nat := (ds.map List.length).sum
theorem blen_take {ds : List (List Int)} {k : Nat} (h : k < ds.length) : blen (ds.take (k + 1)) = blen (ds.take k) + ds[k].length := by
  unfold blen
  rw [List.take_succ_eq_append_getElem h, List.map_append, List.sum_append]
  simp
theorem blen_take_le (ds : List (List Int)) (k : Nat) : blen (ds.take k) ≤ blen ds := by
  have e : blen ds = blen (ds.take k) + blen (ds.drop k) := by
    unfold blen
    rw [← List.sum_append, ← List.map_append, List.take_append_drop]
  omega
theorem flat_length (ds : List (List Int)) : ds.flatten.length = blen ds := by simp [blen, List.length_flatten]
theorem flat_take {ds : List (List Int)} {k : Nat} (h : k < ds.length) : (ds.take (k + 1)).flatten = (ds.take k).flatten ++ ds[k] := by
  rw [List.take_succ_eq_append_getElem h, List.flatten_append, List.flatten_cons, List.flatten_nil, List.append_nil]

set_option maxRecDepth 10000 in
theorem concat_any (w : World) (v : Value) (ds : List (List Int)) (h : RowsAt w v ds) (h0 : 0 < blen ds) (hn : blen ds ≤ 140737488355328) (hl : ds.length ≤ 1000) : Calls Try.prog 109 #[v] w (NewRow w 5 1 ds.flatten.length (ds.flatten.map (Value.int .u8))) := by
  obtain ⟨A, c, rfl, hr⟩ := h.at_
  have H := Lib.hid h
  have Hr := Lib.hid hr
  clear h hr
  go_enter Try.func109, Try.ntmps109
  go_wp2_with fail
  go_loop [3, 11] (fun n i => ∃ k : Nat, k ≤ ds.length ∧ i = .int .i64 k ∧ n = .int .i64 (blen (ds.take k))) (fun _ i => ds.length - (intOf i).toNat)
  case atStart => exact ⟨0, Nat.zero_le _, rfl, rfl⟩
  case round =>
    obtain ⟨k, hk, rfl, rfl⟩ := hrel
    have hle := blen_take_le ds k
    by_cases hlt : k < ds.length
    · obtain ⟨b, off, rfl, hb, hc⟩ := Hr.out (fun e => by rw [e] at hlt; simp at hlt)
      obtain ⟨u, hcell, hu⟩ := hc k hlt
      obtain ⟨B, cb, rfl, -⟩ := Srcs.slice hu
      have hbt := blen_take hlt
      have hle2 := blen_take_le ds (k + 1)
      obtain ⟨x, hx⟩ : ∃ x, x = ds[k] := ⟨_, rfl⟩
      rw [← hx] at hcell hbt
      have Hbt := Lib.hid hbt
      have hb2 : blen (ds.take k) + x.length ≤ 140737488355328 := by omega
      clear hc hu hx hbt hle2
      go_wp2
      exact ⟨⟨k + 1, by omega, by go_num, by rw [Hbt.out]; go_num⟩, by simp [intOf]; omega⟩
    · have hkm : k = ds.length := by omega
      subst hkm
      rw [List.take_length]
      have hg := grow_any w (blen ds) h0 hn
      have Hg := Lib.hid hg
      clear hg hle
      go_wp2_with fail
      refine Hg.out.mono ?_
      rintro e w1 ⟨v, rfl, hbuf⟩
      obtain ⟨C, cc, rfl⟩ := hbuf.slice
      have Hbuf := Lib.hid hbuf
      clear hbuf
      go_wp2_with fail
      go_loopw [6, 27] (fun o i wr => ∃ (k : Nat) (B : Option Addr) (bc : Nat), k ≤ ds.length ∧ i = .int .i64 k ∧ o = .slice B (blen (ds.take k)) bc ∧ Buf 5 1 w wr (.slice B (blen (ds.take k)) bc) (blen (ds.take k)) ((ds.take k).flatten.map (Value.int .u8))) (fun _ i _ => ds.length - (intOf i).toNat)
      case atStart => exact ⟨0, _, _, Nat.zero_le _, rfl, rfl, Hbuf.out⟩
      case round =>
        obtain ⟨k, B, bc, hk, rfl, rfl, hb1⟩ := hrel
        have Hb1 := Lib.hid hb1
        clear hb1 Hbuf
        by_cases hlt : k < ds.length
        · obtain ⟨A', c', e1, hr2⟩ := (H.out.below Hb1.out.below).at_
          cases e1
          obtain ⟨b, off, rfl, hb, hc⟩ := hr2 (fun e => by rw [e] at hlt; simp at hlt)
          obtain ⟨u, hcell, hu⟩ := hc k hlt
          obtain ⟨D, cd, rfl, -⟩ := Srcs.slice hu
          have hbt := blen_take hlt
          have hft := flat_take hlt
          have hle2 := blen_take_le ds (k + 1)
          obtain ⟨x, hx⟩ : ∃ x, x = ds[k] := ⟨_, rfl⟩
          rw [← hx] at hcell hbt hft hu
          have hb2 : blen (ds.take k) + x.length ≤ 140737488355328 := by omega
          have Hbt := Lib.hid hbt
          obtain ⟨ys, hys⟩ : ∃ ys, ys = (ds.take k).flatten := ⟨_, rfl⟩
          have hbk := Hb1.out
          rw [← hys] at hft hbk
          have Hbk := Lib.hid hbk
          have Hft := Lib.hid hft
          have Hu := Lib.hid hu
          clear hc hu hx hbt hft hle2 hr2 hys hbk Hb1
          go_wp2_with (first | (at_builtin; refine wpList_app _ rfl _ _ 32 rfl 5 1 1 _ Try.underlying32 info5 rfl (by decide) _ (blen (ds.take k)) (ys.map (Value.int .u8)) rfl (ownsRow_base0 Hbk.out.own) _ x.length (x.map (Value.int .u8)) rfl Hu.out ?h63 ?hby ?_))
          case h63 => unfold maxLen; omega
          case hby => omega
          intro o' w7 ha
          have hb7 := Hbk.out.app (Below.refl _ _) ha
          rw [← Hbt.out, ← List.map_append, ← Hft.out] at hb7
          obtain ⟨A7, c7, rfl⟩ := hb7.slice
          have Hb7 := Lib.hid hb7
          clear ha hb7
          go_wp2
          exact ⟨⟨k + 1, A7, c7, by omega, by go_num, rfl, Hb7.out⟩, by simp [intOf]; omega⟩
        · have hkm : k = ds.length := by omega
          subst hkm
          go_wp2
          go_ret
          have e := Hb1.out
          rw [List.take_length, ← flat_length] at e
          rw [List.take_length, ← flat_length]
          exact e.newRow
end Go.Proofs.Ytkefciacdmbidaa

namespace Go.Proofs.Ytkefciacdmbidaa
open Go.RowKit Go.WideMaps Go.Maps

def frameB (xs : List Int) : List Int := numN xs.length ++ (xs ++ endB xs)
theorem numN_small {n : Nat} (h : n ≤ 140737488355328) : (numN n).length ≤ 9 := numN_len 8 n (by omega)
theorem numN_pos (n : Nat) : 0 < (numN n).length := by
  rw [numN]
  split <;> simp

def FramePost (w : World) (xs : List Int) (e : Ending) (w' : World) : Prop :=
  ∃ v, e = .returned (.tuple #[v, .bool true]) ∧ w'.ownsRow w.heap.size 5 1 v (frameB xs).length ((frameB xs).map (Value.int .u8)) ∧ Below w.heap.size w w'

theorem srcs_low' {w w' : World} {v : Value} {size m : Nat} {news : List Value} (h : Srcs w v size m news) (hb : Below w.heap.size w w') : Srcs w' v size m news := srcs_below h hb

theorem three_rows {w : World} {u0 u1 u2 : Value} {d0 d1 d2 : List Int} (h0 : BytesAt w u0 d0) (h1 : BytesAt w u1 d1) (h2 : BytesAt w u2 d2) : RowsAt (w.alloc (.cells #[u0, u1, u2] 32)) (.slice (some ⟨w.heap.size, 0, none⟩) 3 3) [d0, d1, d2] := by
  refine ⟨_, 3, rfl, fun _ => ⟨w.heap.size, 0, rfl, by simp, fun j hj => ?_⟩⟩
  have hc : (w.alloc (.cells #[u0, u1, u2] 32)).cell? ⟨w.heap.size, 0 + j, none⟩ = #[u0, u1, u2][0 + j]? := cell_of (heap_alloc_new w _) _
  match j, hj with
  | 0, _ => exact ⟨u0, hc, h0.alloc _⟩
  | 1, _ => exact ⟨u1, hc, h1.alloc _⟩
  | 2, _ => exact ⟨u2, hc, h2.alloc _⟩

theorem frame_any (w : World) (v : Value) (xs : List Int) (h : BytesAt w v xs) (ho : Octets xs) (hn : xs.length ≤ 65536) : Calls Try.prog 89 #[v] w (FramePost w xs) := by
  have hnum := num_any xs.length w (by omega)
  obtain ⟨A, cap, rfl, -⟩ := Srcs.slice h
  have H := Lib.hid h
  have Ho := Lib.hid ho
  have Hnum := Lib.hid hnum
  have h16 : ¬ 65536 < xs.length := by omega
  clear h ho hnum
  go_enter Try.func89, Try.ntmps89
  go_wp2_with fail
  refine Hnum.out.mono ?_
  rintro e w1 ⟨v1, rfl, hown1, hb1⟩
  obtain ⟨A1, c1, rfl, -⟩ := ownsRow_slice hown1
  have h1 := srcs_below H.out hb1
  have hen := ending_any w1 _ xs h1 Ho.out (by omega)
  have H1 := Lib.hid h1
  have Hen := Lib.hid hen
  have Hown1 := Lib.hid hown1
  have Hb1 := Lib.hid hb1
  clear h1 hen hown1 hb1 Hnum H
  go_wp2_with fail
  refine Hen.out.mono ?_
  rintro e w2 ⟨v2, rfl, hown2, hb2⟩
  obtain ⟨A2, c2, rfl, -⟩ := ownsRow_slice hown2
  have hrows := three_rows (srcs_below (ownsRow_srcs Hown1.out (one_u8 _)) hb2) (srcs_below H1.out hb2) (ownsRow_srcs hown2 (one_u8 _))
  have e3 : [numN xs.length, xs, endB xs].flatten = frameB xs := by simp [frameB]
  have hl3 : blen [numN xs.length, xs, endB xs] = (numN xs.length).length + (xs.length + 4) := rfl
  have hsm := numN_small (n := xs.length) (by omega)
  have hcat := concat_any _ _ _ hrows (by omega) (by omega) (show 3 ≤ 1000 by decide)
  rw [e3] at hcat
  have hbel := Hb1.out.trans (hb2.mono Hb1.out.size)
  have hb3 := hbel.trans (((Below.refl _ w2).alloc (Nat.le_refl _) (.cells #[.slice A1 (numN xs.length).length c1, .slice A xs.length cap, .slice A2 4 c2] 32)).mono hbel.size)
  have Hcat := Lib.hid hcat
  have Hb3 := Lib.hid hb3
  clear hrows e3 hl3 hsm hcat hbel hb3 hown2 hb2 Hown1 H1 Hen Hb1
  go_wp2_with fail
  refine Hcat.out.mono ?_
  rintro e w3 ⟨v3, rfl, hown3, hb4⟩
  go_wp2
  go_ret2
  exact ⟨_, rfl, ownsRow_rebase hown3 fun g hg => Nat.le_trans Hb3.out.size (hown3.lt g hg).1, Hb3.out.trans (hb4.mono Hb3.out.size)⟩
end Go.Proofs.Ytkefciacdmbidaa

namespace Go.Proofs.Ytkefciacdmbidaa
open Go.RowKit Go.WideMaps Go.Maps

theorem rframe_any (w : World) (v : Value) (xs : List Int) (h : BytesAt w v xs) (ho : Octets xs) (hn : xs.length ≤ 65536) : Calls Try.prog 45 #[v] w (FramePost w xs) := by
  have hnum := rnum_any xs.length w (by omega)
  obtain ⟨A, cap, rfl, -⟩ := Srcs.slice h
  have H := Lib.hid h
  have Ho := Lib.hid ho
  have Hnum := Lib.hid hnum
  have h16 : ¬ 65536 < xs.length := by omega
  have hsm := numN_small (n := xs.length) (by omega)
  clear h ho hnum
  go_enter Try.func45, Try.ntmps45
  go_wp2_with fail
  refine Hnum.out.mono ?_
  rintro e w1 ⟨v1, rfl, hown1, hb1⟩
  have hbuf : Buf 5 1 w w1 v1 (numN xs.length).length ((numN xs.length).map (Value.int .u8)) := ⟨hown1, hb1⟩
  obtain ⟨n, hnn⟩ : ∃ n, n = (numN xs.length).length := ⟨_, rfl⟩
  rw [← hnn] at hbuf hsm
  obtain ⟨A1, c1, rfl, -⟩ := ownsRow_slice hbuf.own
  have h1 := srcs_below H.out hb1
  have Hbuf := Lib.hid hbuf
  have H1 := Lib.hid h1
  have Hnn := Lib.hid hnn
  clear hbuf h1 hown1 hb1 hnn Hnum
  go_wp2_with (first | (at_builtin; refine wpList_app _ rfl _ _ 32 rfl 5 1 1 _ Try.underlying32 info5 rfl (by decide) _ n ((numN xs.length).map (Value.int .u8)) rfl (ownsRow_base0 Hbuf.out.own) _ xs.length (xs.map (Value.int .u8)) rfl H1.out ?h63 ?hby ?_))
  case h63 => unfold maxLen; omega
  case hby => omega
  intro o2 w2 ha2
  have hbuf2 := Hbuf.out.app (Below.refl _ _) ha2
  obtain ⟨A2, c2, rfl⟩ := hbuf2.slice
  have hs2 := rsum_any w2 _ xs (srcs_below H.out hbuf2.below) Ho.out (by omega)
  have Hbuf2 := Lib.hid hbuf2
  have Hs2 := Lib.hid hs2
  clear ha2 hbuf2 hs2 Hbuf H1 H
  go_wp2_with fail
  refine Hs2.out.mono ?_
  rintro e w2' ⟨rfl, rfl⟩
  have hf := four_any w2' (sumB xs) (sumB_range xs)
  have Hf := Lib.hid hf
  clear hf Hs2
  go_wp2_with fail
  refine Hf.out.mono ?_
  rintro e w3 ⟨v3, rfl, hown3, hb3⟩
  have hbuf3 := Hbuf2.out.step hb3
  have hsrc := ownsRow_srcs hown3 (one_u8 _)
  obtain ⟨A3, c3, rfl, -⟩ := ownsRow_slice hown3
  have Hbuf3 := Lib.hid hbuf3
  have Hsrc := Lib.hid hsrc
  clear hbuf3 hsrc hown3 hb3 Hf Hbuf2
  go_wp2_with (first | (at_builtin; refine wpList_app _ rfl _ _ 32 rfl 5 1 1 _ Try.underlying32 info5 rfl (by decide) _ (n + xs.length) ((numN xs.length).map (Value.int .u8) ++ xs.map (Value.int .u8)) rfl (ownsRow_base0 Hbuf3.out.own) _ 4 ((endB xs).map (Value.int .u8)) rfl Hsrc.out ?h63 ?hby ?_))
  case h63 => unfold maxLen; omega
  case hby => omega
  intro o4 w4 ha4
  rw [← List.append_assoc] at ha4
  have hbuf4 := Hbuf3.out.app (Below.refl _ _) ha4
  rw [List.append_assoc, ← List.map_append, ← List.map_append] at hbuf4
  have hl : n + xs.length + 4 = (frameB xs).length := by
    have e4 : (endB xs).length = 4 := rfl
    unfold frameB
    rw [List.length_append, List.length_append, Hnn.out, e4]
    omega
  rw [hl] at hbuf4
  have Hbuf4 := Lib.hid hbuf4
  clear ha4 hbuf4 hl
  go_wp2
  go_ret2
  exact ⟨_, rfl, Hbuf4.out.own, Hbuf4.out.below⟩
end Go.Proofs.Ytkefciacdmbidaa
