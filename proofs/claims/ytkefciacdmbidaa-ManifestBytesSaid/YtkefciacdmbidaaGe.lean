/- begun: may bytes be the beginning of a number? bytes.Equal. Next: what stands at the beginning of bytes. great, do: the calls of a law. do: one call on a disk. What the laws of store share: a disk under way, names, rows of bytes. StoreTwice: the walk. All: the frames of bytes. All: the walk. -/
import Derived.Test.YtkefciacdmbidaaGd
import Derived.Test.YtkefciacdmbidaaGc
namespace Go.Proofs.Ytkefciacdmbidaa
open Go.RowKit Go.WideMaps Go.Maps

def lowF : Value := .func (.func 121) #[] #[]
def isLow (c : Int) : Bool := decide (c < 128)
def lowOf (xs : List Int) : Nat := xs.findIdx isLow
def firstLow (xs : List Int) : Int := if lowOf xs < xs.length then (lowOf xs : Int) else -1
def begunB (xs : List Int) : Bool := decide (xs.length ≤ 8) && !decide (lowOf xs < xs.length)

theorem low_any (c : Int) (w : World) : Calls Try.prog 121 #[.int .u8 c] w fun e w' => e = .returned (.bool (isLow c)) ∧ w' = w := by
  go_enter Try.func121, Try.ntmps121
  go_wp2
  go_ret
  exact ⟨rfl, rfl⟩

theorem low_next {xs : List Int} {k : Nat} (h : k < xs.length) (hk : k ≤ lowOf xs) : if isLow xs[k] then lowOf xs = k else k + 1 ≤ lowOf xs := by
  by_cases hc : isLow xs[k] = true
  · rw [if_pos hc]
    refine Nat.le_antisymm ?_ hk
    rcases Nat.lt_or_ge k (lowOf xs) with h1 | h1
    · exact absurd hc (by rw [List.not_of_lt_findIdx h1]; decide)
    · exact h1
  · rw [if_neg hc]
    rcases Nat.lt_or_ge k (lowOf xs) with h1 | h1
    · exact h1
    · have e : lowOf xs = k := Nat.le_antisymm h1 hk
      have h2 : lowOf xs < xs.length := by omega
      have h3 : isLow (xs[lowOf xs]'h2) = true := List.findIdx_getElem (w := h2)
      simp only [e] at h3
      exact absurd h3 hc

set_option maxRecDepth 10000 in
theorem lowIndex_any (w : World) (v : Value) (xs : List Int) (h : BytesAt w v xs) (hn : xs.length ≤ 140737488355328) : Calls Try.prog 134 #[v, lowF] w fun e w' => e = .returned (.int .i64 (firstLow xs)) ∧ w' = w := by
  obtain ⟨A, cap, rfl, hcap, hcell⟩ := srcs_at h
  have Hcell := Lib.hid hcell
  clear h hcell
  unfold lowF
  go_enter Try.func134, Try.ntmps134
  go_wp2_with fail
  go_loop [8] (fun i => ∃ k : Nat, k ≤ xs.length ∧ i = .int .i64 k ∧ k ≤ lowOf xs) (fun i => xs.length - (intOf i).toNat)
  case atStart => exact ⟨0, Nat.zero_le _, rfl, Nat.zero_le _⟩
  case round =>
    obtain ⟨k, hk, rfl, hkf⟩ := hrel
    by_cases hlt : k < xs.length
    · obtain ⟨b', off, rfl, hb, hc⟩ := Hcell.out (by omega)
      have d := hc k (.int .u8 xs[k]) (by simp [hlt])
      have hnx := low_next hlt hkf
      obtain ⟨x, hx⟩ : ∃ x, x = xs[k] := ⟨_, rfl⟩
      rw [← hx] at d hnx
      have hcall := low_any x w
      have Hcall := Lib.hid hcall
      have Hnx := Lib.hid hnx
      clear hc hx hnx hcall
      go_wp2_with fail
      refine Hcall.out.mono ?_
      rintro e w' ⟨rfl, rfl⟩
      cases hl : isLow x with
      | true =>
        have e1 := Hnx.out
        rw [if_pos hl] at e1
        go_wp2
        go_ret
        exact ⟨ret_int (by unfold firstLow; rw [e1, if_pos hlt]), rfl⟩
      | false =>
        have e1 := Hnx.out
        rw [if_neg (by rw [hl]; decide)] at e1
        go_wp2
        exact ⟨⟨k + 1, by omega, by go_num, e1⟩, by simp [intOf]; omega⟩
    · go_wp2
      go_ret
      exact ⟨ret_int (by unfold firstLow; rw [if_neg (by omega)]), rfl⟩

theorem lowContains_any (w : World) (v : Value) (xs : List Int) (h : BytesAt w v xs) (hn : xs.length ≤ 140737488355328) : Calls Try.prog 120 #[v, lowF] w fun e w' => e = .returned (.bool (decide (lowOf xs < xs.length))) ∧ w' = w := by
  have hi := lowIndex_any w v xs h hn
  have Hi := Lib.hid hi
  clear hi h
  unfold lowF at Hi ⊢
  go_enter Try.func120, Try.ntmps120
  go_wp2_with fail
  refine Hi.out.mono ?_
  rintro e w' ⟨rfl, rfl⟩
  by_cases hl : lowOf xs < xs.length
  · have e1 : firstLow xs = (lowOf xs : Int) := by unfold firstLow; rw [if_pos hl]
    rw [e1]
    go_wp2
    go_ret
    exact ⟨ret_bool (by simp [hl]), rfl⟩
  · have e1 : firstLow xs = -1 := by unfold firstLow; rw [if_neg hl]
    rw [e1]
    go_wp2
    go_ret
    exact ⟨ret_bool (by simp [hl]), rfl⟩

theorem begun_any (w : World) (v : Value) (xs : List Int) (h : BytesAt w v xs) (hn : xs.length ≤ 140737488355328) : Calls Try.prog 94 #[v] w fun e w' => e = .returned (.bool (begunB xs)) ∧ w' = w := by
  have hi := lowContains_any w v xs h hn
  obtain ⟨A, cap, rfl, -⟩ := Srcs.slice h
  have Hi := Lib.hid hi
  clear hi h
  unfold lowF at Hi
  by_cases h8 : xs.length ≤ 8
  · go_enter Try.func94, Try.ntmps94
    go_wp2_with fail
    refine Hi.out.mono ?_
    rintro e w' ⟨rfl, rfl⟩
    go_wp2
    go_ret
    exact ⟨ret_bool (by simp [begunB, h8]), rfl⟩
  · go_enter Try.func94, Try.ntmps94
    go_wp2_with fail
    go_ret
    exact ⟨ret_bool (by simp [begunB, h8]), rfl⟩
end Go.Proofs.Ytkefciacdmbidaa

namespace Go.Proofs.Ytkefciacdmbidaa
open Go.RowKit Go.WideMaps Go.Maps

theorem octet_inj : ∀ {xs ys : List Int}, Octets xs → Octets ys → xs.map (fun n => UInt8.ofNat n.toNat) = ys.map (fun n => UInt8.ofNat n.toNat) → xs = ys
  | [], [], _, _, _ => rfl
  | [], _ :: _, _, _, h => by simp at h
  | _ :: _, [], _, _, h => by simp at h
  | a :: r, b :: t, hx, hy, h => by
    simp only [List.map_cons, List.cons.injEq] at h
    have ha := hx a List.mem_cons_self
    have hb := hy b List.mem_cons_self
    have e : a = b := by
      have h1 := congrArg UInt8.toNat h.1
      rw [UInt8.toNat_ofNat_of_lt' (by simp [UInt8.size]; omega), UInt8.toNat_ofNat_of_lt' (by simp [UInt8.size]; omega)] at h1
      omega
    rw [e, octet_inj (fun x hx' => hx x (List.mem_cons_of_mem _ hx')) (fun x hx' => hy x (List.mem_cons_of_mem _ hx')) h.2]
theorem nums_inj {xs ys : List Int} (hx : Octets xs) (hy : Octets ys) (h : strOfNums xs = strOfNums ys) : xs = ys := by
  refine octet_inj hx hy ?_
  rw [← strOfNums_data, ← strOfNums_data, h]

theorem equal_any (w : World) (va vb : Value) (xs ys : List Int) (ha : BytesAt w va xs) (hb : BytesAt w vb ys) (hx : Octets xs) (hy : Octets ys) : Calls Try.prog 95 #[va, vb] w fun e w' => e = .returned (.bool (decide (xs = ys))) ∧ w' = w := by
  have ka := conv_bytes ha
  have kb := conv_bytes hb
  by_cases h : xs = ys
  · subst h
    have ht : ((strOfNums xs).toList == (strOfNums xs).toList) = true := by simp
    clear ha hb hx hy
    go_enter Try.func95, Try.ntmps95
    go_wp2
    go_ret
    exact ⟨ret_bool (by simp), rfl⟩
  · have ht : ((strOfNums xs).toList == (strOfNums ys).toList) = false := by
      rw [beq_eq_false_iff_ne]
      exact fun e => h (nums_inj hx hy (toList_inj e))
    clear ha hb hx hy
    go_enter Try.func95, Try.ntmps95
    go_wp2
    go_ret
    exact ⟨ret_bool (by simp [h]), rfl⟩
end Go.Proofs.Ytkefciacdmbidaa

namespace Go.Proofs.Ytkefciacdmbidaa
open Go.RowKit Go.WideMaps Go.Maps

inductive NextR where
  | torn : NextR
  | bad : NextR
  | whole : List Int → List Int → NextR

def nextB (xs : List Int) : NextR :=
  if begunB xs then .torn else
  match takeN xs 0 0 with
  | none => .bad
  | some (n, r) => if 65536 < n then .bad else if r.length < n + 4 then .torn else if endB (r.take n) = (r.drop n).take 4 then .whole (r.take n) (r.drop (n + 4)) else .bad

theorem takeN_rest : ∀ {xs : List Int} {i acc n : Nat} {r : List Int}, takeN xs i acc = some (n, r) → ∃ j, 0 < j ∧ r = xs.drop j
  | [], _, _, _, _, h => by simp [takeN] at h
  | c :: t, i, acc, n, r, h => by
    rw [takeN] at h
    split at h
    · simp at h
    · split at h
      · obtain ⟨j, _, e⟩ := takeN_rest h
        exact ⟨j + 1, Nat.succ_pos _, by rw [e]; rfl⟩
      · split at h
        · simp at h
        · simp only [Option.some.injEq, Prod.mk.injEq] at h
          exact ⟨1, Nat.one_pos, h.2.symm⟩
theorem takeN_lt : ∀ {xs : List Int} {i acc n : Nat} {r : List Int}, takeN xs i acc = some (n, r) → i ≤ 9 → acc < 128 ^ i → n < 128 ^ 9
  | [], _, _, _, _, h, _, _ => by simp [takeN] at h
  | c :: t, i, acc, n, r, h, hi, ha => by
    rw [takeN] at h
    have h1 : (c % 128).toNat ≤ 127 := by omega
    have h2 : acc + (c % 128).toNat * 128 ^ i < 128 ^ (i + 1) := by
      have h2 : (c % 128).toNat * 128 ^ i ≤ 127 * 128 ^ i := Nat.mul_le_mul_right _ h1
      rw [Nat.pow_succ]
      omega
    split at h
    · simp at h
    · split at h
      · exact takeN_lt h (by omega) h2
      · split at h
        · simp at h
        · simp only [Option.some.injEq, Prod.mk.injEq] at h
          rw [← h.1]
          exact Nat.lt_of_lt_of_le h2 (Nat.pow_le_pow_right (by decide) (by omega))

theorem Octets.drop {xs : List Int} (h : Octets xs) (k : Nat) : Octets (xs.drop k) := fun x hx => h x (List.mem_of_mem_drop hx)
theorem Octets.take {xs : List Int} (h : Octets xs) (k : Nat) : Octets (xs.take k) := fun x hx => h x (List.mem_of_mem_take hx)
theorem Octets.app {xs ys : List Int} (h : Octets xs) (h' : Octets ys) : Octets (xs ++ ys) := fun x hx => (List.mem_append.1 hx).elim (h x) (h' x)
theorem endN_octets {n : Int} (h : 0 ≤ n ∧ n < 4294967296) : Octets (endN n) := fun x hx => by
  simp [endN] at hx
  omega
theorem numN_octets : ∀ (j n : Nat), n < 128 ^ (j + 1) → Octets (numN n)
  | 0, n, h => by
    rw [numN_last (by omega)]
    intro x hx
    simp at hx
    omega
  | j + 1, n, h => by
    by_cases h1 : 127 < n
    · rw [numN_more h1]
      intro x hx
      rcases List.mem_cons.1 hx with h2 | h2
      · omega
      · exact numN_octets j (n / 128) (by
          rw [Nat.pow_succ] at h
          exact Nat.div_lt_of_lt_mul (by omega)) x h2
    · rw [numN_last h1]
      intro x hx
      simp at hx
      omega

theorem bytes_take {w : World} {A : Option Addr} {cap cap' n : Nat} {xs : List Int} (h : BytesAt w (.slice A xs.length cap) xs) (hn : n ≤ xs.length) (hc : n ≤ cap') (hA : A ≠ none) : BytesAt w (.slice A n cap') (xs.take n) := by
  have hl : (xs.take n).length = n := by rw [List.length_take]; omega
  rcases h with ⟨h1, -, -⟩ | ⟨ad, c, h1, -, -, hcell, -⟩
  · simp only [Value.slice.injEq] at h1
    exact absurd h1.1 hA
  · simp only [Value.slice.injEq] at h1
    obtain ⟨rfl, -, -⟩ := h1
    refine Or.inr ⟨ad, cap', by rw [hl], by rw [hl]; exact hc, by simp, fun i u hi => hcell i u ?_, one_u8 _⟩
    rw [List.map_take, List.getElem?_take] at hi
    split at hi
    · exact hi
    · simp at hi

theorem srcs_heap {w w' : World} {v : Value} {size m : Nat} {news : List Value} (h : Srcs w v size m news) (hh : w'.heap = w.heap) : Srcs w' v size m news := by
  rcases h with h | ⟨ad, c, rfl, hc, hl, hcell, h1⟩
  · exact Or.inl h
  · exact Or.inr ⟨ad, c, rfl, hc, hl, fun j u hj => by rw [World.cell?_of_block (w := w) (by rw [hh])]; exact hcell j u hj, h1⟩

theorem below_undrew' {B : Nat} {w w' : World} (h : Below B w.drew w') : Below B w w' := ⟨h.os, h.tape, h.output, h.size, h.block⟩

def NextPost (w : World) (r : NextR) (e : Ending) (w' : World) : Prop :=
  Below w.heap.size w w' ∧ match r with
  | .torn => e = .returned (.tuple #[.slice none 0 0, .slice none 0 0, .int .i64 1])
  | .bad => e = .returned (.tuple #[.slice none 0 0, .slice none 0 0, .int .i64 2])
  | .whole f r => ∃ g n v2, e = .returned (.tuple #[.slice (some ⟨g, 0, none⟩) n n, v2, .int .i64 0]) ∧ BytesAt w' (.slice (some ⟨g, 0, none⟩) n n) f ∧ w'.ownsRow w.heap.size 5 1 v2 r.length (r.map (Value.int .u8)) ∧ w.heap.size ≤ g ∧ g < w'.heap.size

set_option maxRecDepth 10000 in
set_option maxHeartbeats 4000000 in
theorem next_any (w : World) (v : Value) (xs : List Int) (h : BytesAt w v xs) (ho : Octets xs) (hn : xs.length ≤ 140737488355328) : Calls Try.prog 83 #[v] w (NextPost w (nextB xs)) := by
  have hb := begun_any w v xs h hn
  have ht := take_any w v xs h ho hn
  obtain ⟨A, cap, rfl, hcap⟩ := Srcs.slice h
  have Hb := Lib.hid hb
  have Ht := Lib.hid ht
  have Ho := Lib.hid ho
  obtain ⟨N, hN⟩ : ∃ N, N = nextB xs := ⟨_, rfl⟩
  rw [← hN]
  unfold nextB at hN
  have HN := Lib.hid hN
  clear hb ht h ho hN
  go_enter Try.func83, Try.ntmps83
  go_wp2_with fail
  refine Hb.out.mono ?_
  rintro e w' ⟨rfl, rfl⟩
  cases hbg : begunB xs with
  | true =>
    rw [hbg] at HN
    go_wp2
    go_ret3
    rw [HN.out]
    exact ⟨Below.refl _ _, rfl⟩
  | false =>
  rw [hbg] at HN
  go_wp2_with fail
  refine Ht.out.mono ?_
  intro e w1 hp
  cases htk : takeN xs 0 0 with
  | none =>
    rw [htk] at hp HN
    obtain ⟨rfl, hb1⟩ := hp
    have Hb1 := Lib.hid hb1
    clear hb1
    go_wp2
    go_ret3
    rw [HN.out]
    exact ⟨Hb1.out, rfl⟩
  | some p =>
    obtain ⟨n, r⟩ := p
    rw [htk] at hp HN
    obtain ⟨v2, rfl, hown, hb1⟩ := hp
    have hn9 := takeN_lt htk (by omega) (by decide)
    obtain ⟨j, -, hr⟩ := takeN_rest htk
    have hor := Ho.out.drop j
    rw [← hr] at hor
    have hrl : r.length ≤ 140737488355328 := by rw [hr, List.length_drop]; omega
    have hsrc := ownsRow_srcs hown (one_u8 _)
    obtain ⟨R, rc, rfl, hrc⟩ := ownsRow_slice hown
    have Hor := Lib.hid hor
    have Hsrc := Lib.hid hsrc
    have Hb1 := Lib.hid hb1
    have hn63 : n ≤ 9223372036854775807 := by omega
    clear hn9 hr hor hsrc hb1 htk Hb Ht Ho
    have hN2 : N = if 65536 < n then .bad else if r.length < n + 4 then .torn else if endB (r.take n) = (r.drop n).take 4 then .whole (r.take n) (r.drop (n + 4)) else .bad := HN.out
    have HN2 := Lib.hid hN2
    clear hN2 HN
    by_cases hbig : 65536 < n
    · rw [if_pos hbig] at HN2
      go_wp2
      go_ret3
      rw [HN2.out]
      exact ⟨Hb1.out, rfl⟩
    · rw [if_neg hbig] at HN2
      by_cases hshort : r.length < n + 4
      · rw [if_pos hshort] at HN2
        go_wp2
        go_ret3
        rw [HN2.out]
        exact ⟨Hb1.out, rfl⟩
      · rw [if_neg hshort] at HN2
        have hbr : BytesAt w1 (.slice R r.length rc) r := Hsrc.out
        obtain ⟨g, rfl⟩ : ∃ g, R = some ⟨g, 0, none⟩ := by
          rcases hown.2 with ⟨e1, e2⟩ | ⟨g, c, cur, e1, -⟩
          · exfalso
            omega
          · simp only [Value.slice.injEq] at e1
            exact ⟨g, e1.1⟩
        have hgl := hown.lt g rfl
        have Hgl := Lib.hid hgl
        clear hgl
        have hf1 : BytesAt w1 (.slice (some ⟨g, 0, none⟩) n rc) (r.take n) := bytes_take hbr (by omega) (by omega) (by simp)
        have hd4 := bytes_drop (j := n) hbr (by omega)
        have hf2 : BytesAt w1 (.slice (some ⟨g, n, none⟩) 4 (rc - n)) ((r.drop n).take 4) := by
          rw [Nat.zero_add, show r.length - n = (r.drop n).length by simp] at hd4
          exact bytes_take hd4 (by simp; omega) (by omega) (by simp)
        have hen : ∀ w0 : World, w0.heap = w1.heap → Calls Try.prog 96 #[.slice (some ⟨g, 0, none⟩) n rc] w0 (NewRow w0 5 1 4 ((endB (r.take n)).map (Value.int .u8))) := fun w0 h0 => ending_any w0 _ _ (srcs_heap hf1 h0) (Hor.out.take n) (by simp; omega)
        have heq : ∀ (w0 w2 : World) (v3 : Value), w0.heap = w1.heap → w2.ownsRow w0.heap.size 5 1 v3 4 ((endB (r.take n)).map (Value.int .u8)) → Below w0.heap.size w0 w2 → Calls Try.prog 95 #[v3, .slice (some ⟨g, n, none⟩) 4 (rc - n)] w2 fun e w' => e = .returned (.bool (decide (endB (r.take n) = (r.drop n).take 4))) ∧ w' = w2 := fun w0 w2 v3 h0 hv hb =>
          equal_any w2 _ _ _ _ (ownsRow_srcs hv (one_u8 _)) (srcs_below (srcs_heap hf2 h0) hb) (endN_octets (sumB_range _)) ((Hor.out.drop n).take 4)
        obtain ⟨q, hq⟩ : ∃ q, q = decide (endB (r.take n) = (r.drop n).take 4) := ⟨_, rfl⟩
        rw [← hq] at heq
        have Hq := Lib.hid hq
        have hf1' := bytes_take (n := n) (cap' := n) hbr (by omega) (Nat.le_refl _) (by simp)
        have Hf1 := Lib.hid hf1'
        have Hbr := Lib.hid hbr
        clear hq hf1'
        have hne : ¬ rc = n := by omega
        have hw4 : IntKind.i64.wrap ((n : Int) + 4) = (n : Int) + 4 := IntWalk.i64_in _ (by omega)
        have hw5 : wrap64 ((n : Int) + 4) = (n : Int) + 4 := IntWalk.wrap64_in _ (by omega)
        have hi1 : (n : Int) + 4 ≤ (rc : Int) := by omega
        have hi2 : (0 : Int) ≤ (n : Int) + 4 := by omega
        have hi3 : (n : Int) ≤ (n : Int) + 4 := by omega
        have hi4 : ((n : Int) + 4).toNat = n + 4 := by omega
        have hi5 : n + 4 - n = 4 := by omega
        have hi6 : (n : Int) ≤ (rc : Int) := by omega
        have Hen := Lib.hid hen
        have Heq := Lib.hid heq
        clear hen heq hf1 hf2 hd4 hbr
        go_wp2_with fail
        go_region_with (first | (go_at_call 96; refine (Hen.out _ ?_).mono ?_; exact rfl; rintro e w2 ⟨v3, rfl, hown3, hb3⟩; obtain ⟨A3, c3, rfl, -⟩ := ownsRow_slice hown3; have Hown3 := Lib.hid hown3; have Hb3 := Lib.hid hb3; clear hown3 hb3) | (go_at_call 95; refine (Heq.out _ _ _ ?_ Hown3.out Hb3.out).mono ?_; exact rfl; rintro e w3 ⟨rfl, rfl⟩))
        cases q with
        | false =>
          rw [if_neg (of_decide_eq_false Hq.out.symm)] at HN2
          go_wp2
          go_ret3
          rw [HN2.out]
          exact ⟨Hb1.out.trans ((below_undrew Hb3.out).mono Hb1.out.size), rfl⟩
        | true =>
          rw [if_pos (of_decide_eq_true Hq.out.symm)] at HN2
          have hb23 := Hb1.out.trans ((below_undrew Hb3.out).mono Hb1.out.size)
          have hf23 : ∀ w0 : World, w0.heap = w3.heap → BytesAt w0 (.slice (some ⟨g, 0, none⟩) n n) (r.take n) := fun w0 h0 => srcs_heap (srcs_below Hf1.out (below_undrew Hb3.out)) h0
          have Hb23 := Lib.hid hb23
          have Hf23 := Lib.hid hf23
          clear hb23 hf23
          by_cases hrc : rc = n + 4
          · have hcl : ∀ w0 : World, w0.heap = w3.heap → Calls Try.prog 82 #[.slice (some ⟨g, 0, none⟩) (r.length - (n + 4)) 0] w0 (NewRow w0 5 1 (r.drop (n + 4)).length ((r.drop (n + 4)).map (Value.int .u8))) := fun w0 h0 =>
              clone82_any w0 _ _ (srcs_heap (bytes_end (by omega)) h0) (by simp; omega)
            have Hcl := Lib.hid hcl
            clear hcl
            go_wp2_with fail
            go_region_with (go_at_call 82; refine (Hcl.out _ ?_).mono ?_; exact rfl; rintro e w4 ⟨v4, rfl, hown4, hb4⟩; obtain ⟨A4, c4, rfl, -⟩ := ownsRow_slice hown4; have Hown4 := Lib.hid hown4; have Hb4 := Lib.hid hb4; clear hown4 hb4)
            all_goals (
              go_wp2
              go_ret3
              rw [HN2.out]
              have hb5 : w4.ownsRow w'.heap.size 5 1 (.slice A4 (r.drop (n + 4)).length c4) (r.drop (n + 4)).length ((r.drop (n + 4)).map (Value.int .u8)) := ownsRow_rebase Hown4.out fun k hk => Nat.le_trans Hb23.out.size (Hown4.out.lt k hk).1
              rw [show Value.slice A4 (r.drop (n + 4)).length c4 = .slice A4 (r.length - (n + 4)) c4 by rw [List.length_drop]] at hb5
              exact ⟨Hb23.out.trans ((below_undrew' Hb4.out).mono Hb23.out.size), g, n, _, rfl, srcs_below (Hf23.out _ rfl) (below_undrew' Hb4.out), hb5, Hgl.out.1, Nat.lt_of_lt_of_le Hgl.out.2 (Nat.le_trans Hb3.out.size Hb4.out.size)⟩)
          · have hcl : ∀ w0 : World, w0.heap = w3.heap → Calls Try.prog 82 #[.slice (some ⟨g, n + 4, none⟩) (r.length - (n + 4)) (rc - (n + 4))] w0 (NewRow w0 5 1 (r.drop (n + 4)).length ((r.drop (n + 4)).map (Value.int .u8))) := fun w0 h0 =>
              clone82_any w0 _ _ (srcs_heap (srcs_below (by have := bytes_drop (j := n + 4) Hbr.out (by omega); rw [Nat.zero_add] at this; exact this) (below_undrew Hb3.out)) h0) (by simp; omega)
            have Hcl := Lib.hid hcl
            clear hcl
            go_wp2_with fail
            go_region_with (go_at_call 82; refine (Hcl.out _ ?_).mono ?_; exact rfl; rintro e w4 ⟨v4, rfl, hown4, hb4⟩; obtain ⟨A4, c4, rfl, -⟩ := ownsRow_slice hown4; have Hown4 := Lib.hid hown4; have Hb4 := Lib.hid hb4; clear hown4 hb4)
            all_goals (
              go_wp2
              go_ret3
              rw [HN2.out]
              have hb5 : w4.ownsRow w'.heap.size 5 1 (.slice A4 (r.drop (n + 4)).length c4) (r.drop (n + 4)).length ((r.drop (n + 4)).map (Value.int .u8)) := ownsRow_rebase Hown4.out fun k hk => Nat.le_trans Hb23.out.size (Hown4.out.lt k hk).1
              rw [show Value.slice A4 (r.drop (n + 4)).length c4 = .slice A4 (r.length - (n + 4)) c4 by rw [List.length_drop]] at hb5
              exact ⟨Hb23.out.trans ((below_undrew' Hb4.out).mono Hb23.out.size), g, n, _, rfl, srcs_below (Hf23.out _ rfl) (below_undrew' Hb4.out), hb5, Hgl.out.1, Nat.lt_of_lt_of_le Hgl.out.2 (Nat.le_trans Hb3.out.size Hb4.out.size)⟩)
end Go.Proofs.Ytkefciacdmbidaa

namespace Go.Proofs.Ytkefciacdmbidaa
open Go.RowKit Go.WideMaps Go.Maps

structure CallM where
  what : Int
  nm : ByteArray
  to : ByteArray
  dv : Value
  data : List Int
  n : Int

/-- a call that lies at an address, below block number B -/
structure CallAt (w : World) (B b off : Nat) (c : CallM) : Prop where
  c0 : w.cell? ⟨b, off, none⟩ = some (.int .i64 c.what)
  c1 : w.cell? ⟨b, off + 1, none⟩ = some (.string c.nm)
  c2 : w.cell? ⟨b, off + 2, none⟩ = some (.string c.to)
  c3 : w.cell? ⟨b, off + 3, none⟩ = some c.dv
  c4 : w.cell? ⟨b, off + 4, none⟩ = some (.int .i64 c.n)
  data : BytesAt w c.dv c.data
  low : ∀ ad n k, c.dv = .slice (some ad) n k → 0 < n → ad.block < B
  blk : b < B
  nmsz : c.nm.size ≤ 140737488351232
  tosz : c.to.size ≤ 140737488351232
  dsz : c.data.length ≤ 140737488351232
  lo : -9223372036854775808 ≤ c.n
  hi : c.n ≤ 9223372036854775807

structure CallsAt (w : World) (B : Nat) (A : Option Addr) (cs : List CallM) : Prop where
  at_ : cs ≠ [] → ∃ b off, A = some ⟨b, off, none⟩ ∧ ∀ i (h : i < cs.length), CallAt w B b (off + i * 5) cs[i]

theorem srcs_low {w w' : World} {v : Value} {size m B : Nat} {news : List Value} (h : Srcs w v size m news) (hl : ∀ ad n k, v = .slice (some ad) n k → 0 < n → ad.block < B) (hb : Below B w w') : Srcs w' v size m news := by
  rcases h with h | ⟨ad, c, rfl, hc, hlen, hcell, h1⟩
  · exact Or.inl h
  · refine Or.inr ⟨ad, c, rfl, hc, hlen, fun j u hj => ?_, h1⟩
    have h2 := hcell j u hj
    have e : (ad.add j).block = ad.block := by unfold Addr.add; split <;> rfl
    have h0 : 0 < m := by
      have h3 := (List.getElem?_eq_some_iff.1 hj).1
      rcases Nat.eq_zero_or_pos m with h4 | h4
      · subst h4
        omega
      · exact h4
    rw [hb.cell (by rw [e]; exact hl ad m c rfl h0)]
    exact h2

theorem CallAt.below {w w' : World} {B b off : Nat} {c : CallM} (h : CallAt w B b off c) (hb : Below B w w') : CallAt w' B b off c where
  c0 := (hb.cell (p := ⟨b, _, none⟩) h.blk).trans h.c0
  c1 := (hb.cell (p := ⟨b, _, none⟩) h.blk).trans h.c1
  c2 := (hb.cell (p := ⟨b, _, none⟩) h.blk).trans h.c2
  c3 := (hb.cell (p := ⟨b, _, none⟩) h.blk).trans h.c3
  c4 := (hb.cell (p := ⟨b, _, none⟩) h.blk).trans h.c4
  data := srcs_low h.data h.low hb
  low := h.low
  blk := h.blk
  nmsz := h.nmsz
  tosz := h.tosz
  dsz := h.dsz
  lo := h.lo
  hi := h.hi
theorem CallsAt.below {w w' : World} {B : Nat} {A : Option Addr} {cs : List CallM} (h : CallsAt w B A cs) (hb : Below B w w') : CallsAt w' B A cs :=
  ⟨fun hne => by
    obtain ⟨b, off, e, hc⟩ := h.at_ hne
    exact ⟨b, off, e, fun i hi => (hc i hi).below hb⟩⟩

def dlen (cs : List CallM) : Nat := (cs.map fun c => c.data.length).sum
theorem dlen_take (cs : List CallM) (k : Nat) (h : k < cs.length) : dlen (cs.take (k + 1)) = dlen (cs.take k) + cs[k].data.length := by
  unfold dlen
  rw [List.take_succ_eq_append_getElem h, List.map_append, List.sum_append]
  simp

/-- calls that are looked at -/
structure Small (cs : List CallM) : Prop where
  len : cs.length ≤ 80
  sum : dlen cs ≤ 3000
  nm : ∀ c ∈ cs, c.nm.size ≤ 100
  to : ∀ c ∈ cs, c.to.size ≤ 100

structure GreatAt (cs : List CallM) (k : Nat) : Prop where
  sum : dlen (cs.take k) ≤ 3000
  nm : ∀ c ∈ cs.take k, c.nm.size ≤ 100 ∧ c.to.size ≤ 100

def GreatPost (w : World) (cs : List CallM) (e : Ending) (w' : World) : Prop := ∃ b, e = .returned (.bool b) ∧ (b = false → Small cs) ∧ w = w'

theorem GreatAt.next {cs : List CallM} {k : Nat} (h : GreatAt cs k) (hk : k < cs.length) (h1 : dlen (cs.take k) + cs[k].data.length ≤ 3000) (h2 : cs[k].nm.size ≤ 100) (h3 : cs[k].to.size ≤ 100) : GreatAt cs (k + 1) :=
  ⟨by rw [dlen_take _ _ hk]; exact h1, fun c hc => by
    rw [List.take_succ_eq_append_getElem hk] at hc
    rcases List.mem_append.1 hc with hc | hc
    · exact h.nm c hc
    · simp at hc
      rw [hc]
      exact ⟨h2, h3⟩⟩

set_option maxRecDepth 100000 in
set_option maxHeartbeats 1000000 in
theorem great_any (w : World) (B : Nat) (A : Option Addr) (c : Nat) (cs : List CallM) (h : CallsAt w B A cs) (hlen : cs.length ≤ 140737488351232) : Calls Try.prog 12 #[.slice A cs.length c] w (GreatPost w cs) := by
  have H := Lib.hid h
  clear h
  by_cases h80 : 80 < cs.length
  · go_enter Try.func12, Try.ntmps12
    go_wp2
    go_ret
    exact ⟨true, rfl, (fun h => by cases h), rfl⟩
  · go_enter Try.func12, Try.ntmps12
    go_wp2_with fail
    go_loop [3, 4] (fun n i => ∃ k : Nat, k ≤ cs.length ∧ i = .int .i64 k ∧ n = .int .i64 (dlen (cs.take k)) ∧ GreatAt cs k) (fun _ i => cs.length - (intOf i).toNat)
    case atStart => exact ⟨0, Nat.zero_le _, rfl, rfl, ⟨Nat.zero_le _, fun _ h => by simp at h⟩⟩
    case round =>
      obtain ⟨k, hk, rfl, rfl, hg⟩ := hrel
      by_cases hlt : k < cs.length
      · obtain ⟨b, off, rfl, hc⟩ := H.out.at_ (fun e => by rw [e] at hlt; simp at hlt)
        have hck := hc k hlt
        obtain ⟨x, hx⟩ : ∃ x, cs[k] = x := ⟨_, rfl⟩
        rw [hx] at hck
        have d1 := hck.c1
        have d2 := hck.c2
        have d3 := hck.c3
        obtain ⟨A1, c1, hdv, -⟩ := Srcs.slice hck.data
        rw [hdv] at d3
        have hs1 := hck.nmsz
        have hs2 := hck.tosz
        have hs3 := hck.dsz
        have hsum := hg.sum
        have Hx := Lib.hid hx
        have Hg := Lib.hid hg
        clear hc hck hx hdv hg
        by_cases t1 : 3000 < dlen (cs.take k) + x.data.length
        · go_wp2
          go_ret
          exact ⟨true, rfl, (fun h => by cases h), rfl⟩
        · by_cases t2 : 100 < x.nm.size
          · go_wp2
            go_ret
            exact ⟨true, rfl, (fun h => by cases h), rfl⟩
          · by_cases t3 : 100 < x.to.size
            · go_wp2
              go_ret
              exact ⟨true, rfl, (fun h => by cases h), rfl⟩
            · go_wp2
              have hsm := dlen_take cs k hlt
              rw [Hx.out] at hsm
              exact ⟨⟨k + 1, by omega, by go_num, by rw [hsm]; go_num, Hg.out.next hlt (by rw [Hx.out]; omega) (by rw [Hx.out]; omega) (by rw [Hx.out]; omega)⟩, by simp [intOf]; omega⟩
      · go_wp2
        go_ret
        have hk1 : k = cs.length := by omega
        subst hk1
        refine ⟨false, rfl, fun _ => ⟨by omega, ?_, fun c hc => ?_, fun c hc => ?_⟩, rfl⟩
        · have := hg.sum
          rw [List.take_length] at this
          exact this
        · have := hg.nm c (by rw [List.take_length]; exact hc)
          exact this.1
        · have := hg.nm c (by rw [List.take_length]; exact hc)
          exact this.2
end Go.Proofs.Ytkefciacdmbidaa

namespace Go.Proofs.Ytkefciacdmbidaa
open Go.RowKit Go.WideMaps Go.Maps

def SD.act (S : SD) (i : Nat) (c : CallM) : Int × SD :=
  if c.what = 0 then (S.werr c.nm.data.toList c.data.length, if S.werr c.nm.data.toList c.data.length = 0 then S.write i c.nm.data.toList c.data else S)
  else if c.what = 1 then (errOf S c.nm.data.toList, S.sync c.nm.data.toList)
  else if c.what = 2 then (errOf S c.nm.data.toList, S.remove c.nm.data.toList)
  else if c.what = 3 then S.rename c.nm.data.toList c.to.data.toList
  else if c.what = 4 then (0, S.crash c.n)
  else (0, S)

theorem act_ok {S : SD} (h : S.Ok) {i : Nat} (hi : ∀ p ∈ S.files, p.2.id ≠ i) (c : CallM) : (S.act i c).2.Ok := by
  unfold SD.act
  split
  · simp only
    split
    · exact write_ok h hi (by assumption)
    · exact h
  · split
    · exact sync_ok h _
    · split
      · exact remove_ok h _
      · split
        · exact rename_ok h _ _
        · split
          · exact crash_ok h _
          · exact h

theorem updF_length (i : Nat) (g : SF → SF) (L : Files) : (updF i g L).length = L.length := by simp [updF]
theorem keepL_length (i : Nat) (l : List (Nat × Nat)) : (keepL i l).length ≤ l.length := List.length_filter_le _ _
theorem finish_length (L : Files) : (finish L).length ≤ L.length := by
  unfold finish
  rw [List.length_map]
  exact List.length_filter_le _ _
theorem cred_length (l : List (Nat × Nat)) (keep : Int) (L : Files) : (cred l keep L).2.length = L.length := by
  unfold cred
  induction l generalizing keep L with
  | nil => rfl
  | cons p r ih =>
    rw [List.foldl_cons]
    have := ih (credS (keep, L) p).1 (credS (keep, L) p).2
    rw [show ((credS (keep, L) p).1, (credS (keep, L) p).2) = credS (keep, L) p from rfl] at this
    rw [this]
    exact updF_length _ _ _

theorem act_sizes (S : SD) (i : Nat) (c : CallM) : (S.act i c).2.files.length ≤ S.files.length + 1 ∧ (S.act i c).2.loose.length ≤ S.loose.length + 1 := by
  unfold SD.act
  split
  · simp only
    split
    · unfold SD.write
      split
      · exact ⟨by rw [updF_length]; omega, by simp⟩
      · refine ⟨?_, by simp⟩
        rw [sins_length]
        have := ers_length c.nm.data.toList S.files
        omega
    · exact ⟨Nat.le_succ _, Nat.le_succ _⟩
  · split
    · unfold SD.sync
      split
      · exact ⟨Nat.le_succ _, Nat.le_succ _⟩
      · exact ⟨by rw [updF_length]; omega, Nat.le_succ_of_le (keepL_length _ _)⟩
    · split
      · unfold SD.remove
        split
        · exact ⟨Nat.le_succ _, Nat.le_succ _⟩
        · exact ⟨Nat.le_succ_of_le (ers_length _ _), Nat.le_succ_of_le (keepL_length _ _)⟩
      · split
        · unfold SD.rename
          split
          · split
            · exact ⟨Nat.le_succ _, Nat.le_succ _⟩
            · refine ⟨?_, ?_⟩
              · rw [sins_length]
                have h1 := ers_length c.to.data.toList (SD.remove { S with files := ers c.nm.data.toList S.files } c.to.data.toList).files
                have h2 := remove_length { S with files := ers c.nm.data.toList S.files } c.to.data.toList
                have h3 := ers_length c.nm.data.toList S.files
                simp only at h2
                omega
              · unfold SD.remove
                split
                · exact Nat.le_succ _
                · exact Nat.le_succ_of_le (keepL_length _ _)
          · exact ⟨Nat.le_succ _, Nat.le_succ _⟩
        · split
          · refine ⟨?_, Nat.zero_le _⟩
            have h1 := finish_length (cred S.loose c.n S.files).2
            rw [cred_length] at h1
            exact Nat.le_succ_of_le h1
          · exact ⟨Nat.le_succ _, Nat.le_succ _⟩

def callV (c : CallM) : Value := .agg #[.int .i64 c.what, .string c.nm, .string c.to, c.dv, .int .i64 c.n]

def DoPost (F : Nat → Prop) (w : World) (d : Nat) (S : SD) (c : CallM) (e : Ending) (w' : World) : Prop :=
  ∃ F' i, (∀ p ∈ S.files, p.2.id ≠ i) ∧ e = .returned (.int .i64 (S.act i c).1) ∧ DiskAt F' w' d (S.act i c).2 ∧ Upd F F' w w'

theorem DiskAt.fresh {F : Nat → Prop} {w : World} {d : Nat} {S : SD} (h : DiskAt F w d S) {i : Nat} (hi : w.heap.size ≤ i) : ∀ p ∈ S.files, p.2.id ≠ i := fun p hp e => by
  obtain ⟨role, m, lv, hd, _⟩ := h
  have := hd.lt p.2.id (by rw [(hd.file p hp).1]; decide)
  omega

theorem Outside.below {F : Nat → Prop} {w w' : World} {v : Value} {xs : List Int} (h : Outside F w v xs) (hb : Below w.heap.size w w') : Outside F w' v xs :=
  ⟨h.same (Same.of_below hb _), fun ad n c e h0 => ⟨(h.out ad n c e h0).1, Nat.lt_of_lt_of_le (h.out ad n c e h0).2 hb.size⟩⟩

set_option maxRecDepth 100000 in
set_option maxHeartbeats 1000000 in
theorem do_any {F : Nat → Prop} {d : Nat} {S : SD} {w : World} (hd : DiskAt F w d S) (hok : S.Ok) (c : CallM) (hv : Outside F w c.dv c.data) (hn : c.nm.size ≤ 140737488351232) (ht : c.to.size ≤ 140737488351232)
    (hlo : -9223372036854775808 ≤ c.n) (hhi : c.n ≤ 9223372036854775807) (hlen : S.loose.length ≤ 1000000) (hlen2 : S.files.length ≤ 1000000) : Calls Try.prog 16 #[.pointer (some ⟨d, 0, none⟩), callV c] w (DoPost F w d S c) := by
  have hb0 : Below w.heap.size w (w.alloc (.cells #[.int .i64 c.what, .string c.nm, .string c.to, c.dv, .int .i64 c.n] 34)) := (Below.refl _ _).alloc (Nat.le_refl _) _
  have hd0 := hd.below hb0
  have hv0 := hv.below hb0
  have hn' : c.nm.size ≤ maxLen := by unfold maxLen; omega
  have ht' : c.to.size ≤ maxLen := by unfold maxLen; omega
  have hfr := hd.fresh (Nat.le_refl _)
  have Hb0 := Lib.hid hb0
  have Hfr := Lib.hid hfr
  obtain ⟨what, nm, to, dv, data, n⟩ := c
  simp only at hv hn ht hlo hhi hd0 hv0 hn' ht' Hb0
  unfold callV
  simp only
  by_cases h0 : what = 0
  · have hw := write_any hd0 hok nm hn' dv data hv0 (by omega) (by omega)
    have Hw := Lib.hid hw
    have H0 := Lib.hid h0
    have t0 : (what == 0) = true := by simp [h0]
    clear hb0 hd0 hv0 hn' ht' hfr hd hok hv hn ht hw h0
    go_enter Try.func16, Try.ntmps16
    go_wp2_with fail
    refine Hw.out.mono ?_
    rintro e w1 ⟨rfl, F1, i, hi, hd1, hu1⟩
    have Hd1 := Lib.hid hd1
    have Hu1 := Lib.hid hu1
    have Hi := Lib.hid hi
    clear hd1 hu1 hi
    go_wp2
    go_ret
    refine ⟨F1, i, Hi.out, ret_int ?_, ?_, (Upd.of_below Hb0.out).trans Hu1.out⟩
    · unfold SD.act
      rw [if_pos H0.out]
    · unfold SD.act
      rw [if_pos H0.out]
      exact Hd1.out
  · have t0 : (what == 0) = false := by simp [h0]
    have H0 := Lib.hid h0
    clear h0
    by_cases h1 : what = 1
    · have hw := sync_any hd0 hok (by omega) nm hn'
      have Hw := Lib.hid hw
      have t1 : (what == 1) = true := by simp [h1]
      have H1 := Lib.hid h1
      clear hb0 hd0 hv0 hn' ht' hfr hd hok hv hn ht hw h1
      go_enter Try.func16, Try.ntmps16
      go_wp2_with fail
      refine Hw.out.mono ?_
      rintro e w1 ⟨rfl, F1, hd1, hu1⟩
      have Hd1 := Lib.hid hd1
      have Hu1 := Lib.hid hu1
      clear hd1 hu1
      go_wp2
      go_ret
      refine ⟨F1, w.heap.size, Hfr.out, ret_int ?_, ?_, (Upd.of_below Hb0.out).trans Hu1.out⟩
      · unfold SD.act
        rw [if_neg H0.out, if_pos H1.out]
      · unfold SD.act
        rw [if_neg H0.out, if_pos H1.out]
        exact Hd1.out
    have t1 : (what == 1) = false := by simp [h1]
    have H1 := Lib.hid h1
    clear h1
    by_cases h2 : what = 2
    · have hw := remove_any hd0 hok (by omega) nm hn'
      have Hw := Lib.hid hw
      have t2 : (what == 2) = true := by simp [h2]
      have H2 := Lib.hid h2
      clear hb0 hd0 hv0 hn' ht' hfr hd hok hv hn ht hw h2
      go_enter Try.func16, Try.ntmps16
      go_wp2_with fail
      refine Hw.out.mono ?_
      rintro e w1 ⟨rfl, F1, hd1, hu1⟩
      have Hd1 := Lib.hid hd1
      have Hu1 := Lib.hid hu1
      clear hd1 hu1
      go_wp2
      go_ret
      refine ⟨F1, w.heap.size, Hfr.out, ret_int ?_, ?_, (Upd.of_below Hb0.out).trans Hu1.out⟩
      · unfold SD.act
        rw [if_neg H0.out, if_neg H1.out, if_pos H2.out]
      · unfold SD.act
        rw [if_neg H0.out, if_neg H1.out, if_pos H2.out]
        exact Hd1.out
    have t2 : (what == 2) = false := by simp [h2]
    have H2 := Lib.hid h2
    clear h2
    by_cases h3 : what = 3
    · have hw := rename_any hd0 hok (by omega) (by omega) nm to hn' ht'
      have Hw := Lib.hid hw
      have t3 : (what == 3) = true := by simp [h3]
      have H3 := Lib.hid h3
      clear hb0 hd0 hv0 hn' ht' hfr hd hok hv hn ht hw h3
      go_enter Try.func16, Try.ntmps16
      go_wp2_with fail
      refine Hw.out.mono ?_
      rintro e w1 ⟨rfl, F1, hd1, hu1⟩
      have Hd1 := Lib.hid hd1
      have Hu1 := Lib.hid hu1
      clear hd1 hu1
      go_wp2
      go_ret
      refine ⟨F1, w.heap.size, Hfr.out, ret_int ?_, ?_, (Upd.of_below Hb0.out).trans Hu1.out⟩
      · unfold SD.act
        rw [if_neg H0.out, if_neg H1.out, if_neg H2.out, if_pos H3.out]
      · unfold SD.act
        rw [if_neg H0.out, if_neg H1.out, if_neg H2.out, if_pos H3.out]
        exact Hd1.out
    have t3 : (what == 3) = false := by simp [h3]
    have H3 := Lib.hid h3
    clear h3
    by_cases h4 : what = 4
    · have hw := crash_any hd0 hok (by omega) n hlo hhi
      have Hw := Lib.hid hw
      have t4 : (what == 4) = true := by simp [h4]
      have H4 := Lib.hid h4
      clear hb0 hd0 hv0 hn' ht' hfr hd hok hv hn ht hw h4
      go_enter Try.func16, Try.ntmps16
      go_wp2_with fail
      refine Hw.out.mono ?_
      rintro e w1 ⟨rfl, F1, hd1, hu1⟩
      have Hd1 := Lib.hid hd1
      have Hu1 := Lib.hid hu1
      clear hd1 hu1
      go_wp2
      go_ret
      refine ⟨F1, w.heap.size, Hfr.out, ret_int ?_, ?_, (Upd.of_below Hb0.out).trans Hu1.out⟩
      · unfold SD.act
        rw [if_neg H0.out, if_neg H1.out, if_neg H2.out, if_neg H3.out, if_pos H4.out]
      · unfold SD.act
        rw [if_neg H0.out, if_neg H1.out, if_neg H2.out, if_neg H3.out, if_pos H4.out]
        exact Hd1.out
    have t4 : (what == 4) = false := by simp [h4]
    have H4 := Lib.hid h4
    clear h4
    have Hd0 := Lib.hid hd0
    clear hb0 hd0 hv0 hn' ht' hfr hd hok hv hn ht
    go_enter Try.func16, Try.ntmps16
    go_wp2
    go_ret
    refine ⟨F, w.heap.size, Hfr.out, ret_int ?_, ?_, Upd.of_below Hb0.out⟩
    · unfold SD.act
      rw [if_neg H0.out, if_neg H1.out, if_neg H2.out, if_neg H3.out, if_neg H4.out]
    · unfold SD.act
      rw [if_neg H0.out, if_neg H1.out, if_neg H2.out, if_neg H3.out, if_neg H4.out]
      exact Hd0.out
end Go.Proofs.Ytkefciacdmbidaa

namespace Go.Proofs.Ytkefciacdmbidaa
open Go.RowKit Go.WideMaps Go.Maps

/-- a disk of a law, behind k calls -/
structure DS (w0 wr : World) (d : Nat) (F : Nat → Prop) (S : SD) (k : Nat) : Prop where
  disk : DiskAt F wr d S
  ok : S.Ok
  nf : S.files.length ≤ k
  nl : S.loose.length ≤ k
  fb : ∀ k, F k → w0.heap.size ≤ k
  below : Below w0.heap.size w0 wr

theorem DS.step {w0 wr w' : World} {d : Nat} {F : Nat → Prop} {S : SD} {k : Nat} (h : DS w0 wr d F S k) (hb : Below wr.heap.size wr w') : DS w0 w' d F S k :=
  ⟨h.disk.below hb, h.ok, h.nf, h.nl, h.fb, h.below.trans (hb.mono h.below.size)⟩

theorem DS.act {w0 wr w' : World} {d : Nat} {F F' : Nat → Prop} {S : SD} {k : Nat} (h : DS w0 wr d F S k) {c : CallM} {i : Nat} (hi : ∀ p ∈ S.files, p.2.id ≠ i) (hd : DiskAt F' w' d (S.act i c).2) (hu : Upd F F' wr w') : DS w0 w' d F' (S.act i c).2 (k + 1) := by
  have hs := act_sizes S i c
  exact ⟨hd, act_ok h.ok hi c, Nat.le_trans hs.1 (Nat.succ_le_succ h.nf), Nat.le_trans hs.2 (Nat.succ_le_succ h.nl), hu.fb h.fb h.below.size, h.below.trans (hu.below h.fb h.below.size)⟩

theorem DS.crash {w0 wr w' : World} {d : Nat} {F F' : Nat → Prop} {S : SD} {k : Nat} (h : DS w0 wr d F S k) {keep : Int} (hd : DiskAt F' w' d (S.crash keep)) (hu : Upd F F' wr w') : DS w0 w' d F' (S.crash keep) k := by
  have h1 := finish_length (cred S.loose keep S.files).2
  rw [cred_length] at h1
  exact ⟨hd, crash_ok h.ok keep, Nat.le_trans h1 h.nf, Nat.zero_le _, hu.fb h.fb h.below.size, h.below.trans (hu.below h.fb h.below.size)⟩

theorem CallAt.outside {w0 wr : World} {d : Nat} {F : Nat → Prop} {S : SD} {k b off : Nat} {c : CallM} (h : CallAt w0 w0.heap.size b off c) (hd : DS w0 wr d F S k) : Outside F wr c.dv c.data :=
  ⟨(h.below hd.below).data, fun ad n k e h0 => by
    have := h.low ad n k e h0
    exact ⟨fun hF => by have := hd.fb _ hF; omega, Nat.lt_of_lt_of_le this hd.below.size⟩⟩

/-! names -/
def nameBs (S : SD) : List ByteArray := S.files.map fun p => ⟨p.1.toArray⟩
theorem nameBs_map (S : SD) : (nameBs S).map Value.string = S.files.map fun p => nameV p.1 := by
  unfold nameBs
  rw [List.map_map]
  rfl
theorem nameBs_length (S : SD) : (nameBs S).length = S.files.length := by simp [nameBs]

theorem getF_mem {α : Type} {L : List (List UInt8 × α)} (h : L.Pairwise (fun p q => p.1 ≠ q.1)) {k : List UInt8} {a : α} (hm : (k, a) ∈ L) : getF k L = some a := by
  cases hg : getF k L with
  | none => exact absurd rfl (getF_none hg _ hm)
  | some b =>
    have := pair_one (g := Prod.fst) h (getF_some hg) hm rfl
    simp only [Prod.mk.injEq] at this
    rw [this.2]

/-- the row of names that Names has made -/
structure NamesAt (F : Nat → Prop) (w : World) (A : Option Addr) (n c : Nat) (S : SD) : Prop where
  own : w.ownsRow 0 9 1 (.slice A n c) n ((nameBs S).map Value.string)
  out : ∀ g, (Value.slice A n c).ownBlock = some g → ¬ F g
  len : n = S.files.length

theorem one_string (xs : List ByteArray) : ∀ u ∈ xs.map Value.string, u.oneCell' = true := by simp [Value.oneCell']

theorem NamesAt.same {F : Nat → Prop} {w w' : World} {A : Option Addr} {n c : Nat} {S : SD} (h : NamesAt F w A n c S) (hs : Same (fun k => ¬ F k) w w') : NamesAt F w' A n c S :=
  ⟨ownsRow_block h.own fun g hg => hs.block g (h.own.lt g hg).2 (h.out g hg), h.out, h.len⟩
theorem NamesAt.below {F : Nat → Prop} {w w' : World} {A : Option Addr} {n c : Nat} {S : SD} (h : NamesAt F w A n c S) (hb : Below w.heap.size w w') : NamesAt F w' A n c S := h.same (Same.of_below hb _)
theorem NamesAt.texts {F : Nat → Prop} {w : World} {A : Option Addr} {n c : Nat} {S : SD} (h : NamesAt F w A n c S) : TextsAt w (.slice A n c) (nameBs S) := by
  have := ownsRow_srcs h.own (one_string _)
  rw [h.len, ← nameBs_length S] at this
  rw [h.len, ← nameBs_length S]
  exact this

theorem NamesAt.made {F : Nat → Prop} {w w' : World} {d : Nat} {S : SD} {v : Value} (hd : DiskAt F w d S) (h : w'.ownsRow w.heap.size 9 1 v S.files.length (S.files.map fun p => nameV p.1)) : ∃ A c, v = .slice A S.files.length c ∧ NamesAt F w' A S.files.length c S := by
  obtain ⟨A, c, rfl, _⟩ := ownsRow_slice h
  refine ⟨A, c, rfl, by rw [nameBs_map]; exact ownsRow_base0 h, fun g hg hF => ?_, rfl⟩
  have h1 := (h.lt g hg).1
  have h2 := hd.lt g hF
  omega

theorem NamesAt.at_ {F : Nat → Prop} {w : World} {A : Option Addr} {n c : Nat} {S : SD} (h : NamesAt F w A n c S) {k : Nat} (hk : k < n) : ∃ g, A = some ⟨g, 0, none⟩ ∧ g < w.heap.size ∧ ¬ F g ∧ w.cell? ⟨g, k, none⟩ = some (.string ⟨(S.files[k]'(by rw [← h.len]; exact hk)).1.toArray⟩) := by
  have hl := h.len
  rcases h.own.2 with ⟨e, e2⟩ | ⟨g, cap, cur, e, _⟩
  · omega
  · cases e
    refine ⟨g, rfl, (h.own.lt g rfl).2, h.out g rfl, ?_⟩
    have := h.own.cells (g := g) rfl k (.string ⟨(S.files[k]'(by rw [← hl]; exact hk)).1.toArray⟩) (by simp [nameBs, show k < S.files.length by omega])
    rw [add0] at this
    exact this

/-- the data of the k-th file -/
theorem SD.data_at {S : SD} (h : S.Ok) {k : Nat} (hk : k < S.files.length) : S.data S.files[k].1 = S.files[k].2.data ∧ (getF S.files[k].1 S.files).isSome = true := by
  have := getF_mem h.names_ne (k := S.files[k].1) (a := S.files[k].2) (List.getElem_mem hk)
  unfold SD.data
  rw [this]
  exact ⟨rfl, rfl⟩

/-! a crash that nothing follows -/
theorem finish_again {L : Files} (h : ∀ p ∈ L, p.2.safe ≤ p.2.data.length) : finish (finish L) = finish L := by
  unfold finish
  rw [List.filter_map, List.map_map]
  have e : ((fun p : List UInt8 × SF => p.2.stays) ∘ fun p : List UInt8 × SF => (p.1, trunc p.2)) = fun p : List UInt8 × SF => p.2.stays := by funext p; rfl
  rw [e, List.filter_filter]
  have e2 : (fun a : List UInt8 × SF => a.2.stays && a.2.stays) = fun a => a.2.stays := by funext a; cases a.2.stays <;> rfl
  rw [e2]
  apply List.map_congr_left
  intro p hp
  have := h p (List.mem_filter.1 hp).1
  simp [trunc, List.take_take]
theorem crash_twice {S : SD} (h : S.Ok) (a b : Int) : (S.crash a).crash b = S.crash a := by
  have hinv := cred_inv h a
  have := finish_again (L := (cred S.loose a S.files).2) fun p hp => Nat.le_trans (Nat.le_add_right _ _) (hinv.safe p hp)
  show SD.mk (finish (cred [] b (finish (cred S.loose a S.files).2)).2) [] S.limit = SD.mk (finish (cred S.loose a S.files).2) [] S.limit
  rw [show (cred [] b (finish (cred S.loose a S.files).2)).2 = finish (cred S.loose a S.files).2 from rfl, this]
end Go.Proofs.Ytkefciacdmbidaa

namespace Go.Proofs.Ytkefciacdmbidaa
open Go.RowKit Go.WideMaps Go.Maps

theorem start_ok : SD.Ok ⟨[], [], 16777216⟩ := ⟨List.Pairwise.nil, List.Pairwise.nil, fun _ h => by simp at h, fun _ h => by simp at h, fun _ h => by simp at h, by decide, by decide⟩

theorem ownsRow_type {w : World} {base : Nat} {e : TypeId} {size : Nat} {v : Value} {n : Nat} {xs : List Value} (h : w.ownsRow base e size v n xs) {g : Nat} (hg : v.ownBlock = some g) : ∃ cs, w.heap[g]? = some (.cells cs e (0, 0)) := by
  rcases h.2 with ⟨rfl, _⟩ | ⟨g', cap, cur, rfl, _, hb, _⟩
  · simp [Value.ownBlock] at hg
  · cases hg
    exact ⟨_, hb⟩

theorem ownsRow_apart {w : World} {b b' : Nat} {e e' : TypeId} {s s' : Nat} {v v' : Value} {n n' : Nat} {xs xs' : List Value} (h : w.ownsRow b e s v n xs) (h' : w.ownsRow b' e' s' v' n' xs') (hne : e ≠ e') {g : Nat} (hg : v.ownBlock = some g) : some g ≠ v'.ownBlock := fun hg' => by
  obtain ⟨cs, h1⟩ := ownsRow_type h hg
  obtain ⟨cs', h2⟩ := ownsRow_type h' hg'.symm
  rw [h1] at h2
  cases h2
  exact hne rfl

/-- a row of rows of bytes: of the first k files -/
structure OldAt (F : Nat → Prop) (w : World) (o : Value) (k : Nat) (vs : List Value) (ds : List (List Int)) : Prop where
  own : w.ownsRow 0 32 1 o k vs
  out : ∀ g, o.ownBlock = some g → ¬ F g
  len : ds.length = k
  vlen : vs.length = k
  each : ∀ j (h : j < ds.length), ∃ v, vs[j]? = some v ∧ w.ownsRow 0 5 1 v ds[j].length (ds[j].map (Value.int .u8)) ∧ ∀ g, v.ownBlock = some g → ¬ F g

theorem OldAt.same {F : Nat → Prop} {w w' : World} {o : Value} {k : Nat} {vs : List Value} {ds : List (List Int)} (h : OldAt F w o k vs ds) (hs : Same (fun k => ¬ F k) w w') : OldAt F w' o k vs ds :=
  ⟨ownsRow_block h.own fun g hg => hs.block g (h.own.lt g hg).2 (h.out g hg), h.out, h.len, h.vlen, fun j hj => by
    obtain ⟨v, h1, h2, h3⟩ := h.each j hj
    exact ⟨v, h1, ownsRow_block h2 fun g hg => hs.block g (h2.lt g hg).2 (h3 g hg), h3⟩⟩
theorem OldAt.foot {F F' : Nat → Prop} {w w' : World} {o : Value} {k : Nat} {vs : List Value} {ds : List (List Int)} (h : OldAt F w o k vs ds) (hu : Upd F F' w w') : OldAt F' w' o k vs ds := by
  have h' := h.same ⟨hu.os, hu.tape, hu.output, hu.size, hu.block⟩
  have hF : ∀ g, g < w.heap.size → ¬ F g → ¬ F' g := fun g hg hn hF => by
    rcases hu.sub g hF with h1 | h1
    · exact hn h1
    · omega
  refine ⟨h'.own, fun g hg => hF g (h.own.lt g hg).2 (h.out g hg), h.len, h.vlen, fun j hj => ?_⟩
  obtain ⟨v, h1, h2, h3⟩ := h.each j hj
  exact ⟨v, h1, ownsRow_block h2 fun g hg => hu.block g (h2.lt g hg).2 (h3 g hg), fun g hg => hF g (h2.lt g hg).2 (h3 g hg)⟩
theorem NamesAt.foot {F F' : Nat → Prop} {w w' : World} {A : Option Addr} {n c : Nat} {S : SD} (h : NamesAt F w A n c S) (hu : Upd F F' w w') : NamesAt F' w' A n c S := by
  have h' := h.same ⟨hu.os, hu.tape, hu.output, hu.size, hu.block⟩
  refine ⟨h'.own, fun g hg hF => ?_, h.len⟩
  rcases hu.sub g hF with h1 | h1
  · exact h.out g hg h1
  · have := (h.own.lt g hg).2
    omega

theorem OldAt.slice {F : Nat → Prop} {w : World} {o : Value} {k : Nat} {vs : List Value} {ds : List (List Int)} (h : OldAt F w o k vs ds) : ∃ A c, o = .slice A k c := by
  obtain ⟨A, c, rfl, _⟩ := ownsRow_slice h.own
  exact ⟨A, c, rfl⟩

theorem OldAt.at_ {F : Nat → Prop} {w : World} {A : Option Addr} {c : Nat} {k : Nat} {vs : List Value} {ds : List (List Int)} (h : OldAt F w (.slice A k c) k vs ds) {j : Nat} (hj : j < k) :
    ∃ g v, A = some ⟨g, 0, none⟩ ∧ w.cell? ⟨g, j, none⟩ = some v ∧ BytesAt w v (ds.getD j []) := by
  obtain ⟨v, h1, h2, -⟩ := h.each j (by rw [h.len]; exact hj)
  have e : ds[j]'(by rw [h.len]; exact hj) = ds.getD j [] := by simp [h.len, hj]
  rcases h.own.2 with ⟨e1, e2⟩ | ⟨g, cap, cur, e1, _⟩
  · omega
  · cases e1
    have := h.own.cells (g := g) rfl j v h1
    rw [add0] at this
    refine ⟨g, v, rfl, this, ?_⟩
    have := ownsRow_srcs h2 (one_u8 _)
    rw [e] at this
    exact this

/-- a new row goes behind -/
theorem OldAt.app {F : Nat → Prop} {w w' : World} {o o' v : Value} {k : Nat} {vs : List Value} {ds : List (List Int)} {d : List Int} (h : OldAt F w o k vs ds) (ha : Appended w w' o o' 32 1 k 1 (vs ++ [v]))
    (hv : w.ownsRow 0 5 1 v d.length (d.map (Value.int .u8))) (hvo : ∀ g, v.ownBlock = some g → ¬ F g) (hF : ∀ g, F g → g < w.heap.size) : OldAt F w' o' (k + 1) (vs ++ [v]) (ds ++ [d]) := by
  refine ⟨ha.own, fun g hg hFg => ?_, by simp [h.len], by simp [h.vlen], fun j hj => ?_⟩
  · rcases ha.loc with hl | hl
    · exact h.out g (by rw [← hl]; exact hg) hFg
    · rw [hl] at hg
      cases hg
      exact Nat.lt_irrefl _ (hF _ hFg)
  · rw [List.length_append, List.length_singleton] at hj
    by_cases hlt : j < ds.length
    · obtain ⟨u, h1, h2, h3⟩ := h.each j hlt
      refine ⟨u, by rw [List.getElem?_append_left (by rw [h.vlen, ← h.len]; exact hlt)]; exact h1, ?_, h3⟩
      rw [List.getElem_append_left hlt]
      exact ownsRow_block h2 fun g hg => ha.grown.block g (h2.lt g hg).2 (ownsRow_apart h2 h.own (by decide) hg)
    · have e : j = ds.length := by omega
      subst e
      refine ⟨v, by rw [List.getElem?_append_right (by rw [h.vlen, h.len]; exact Nat.le_refl _), h.vlen, h.len]; simp, ?_, hvo⟩
      rw [List.getElem_append_right (Nat.le_refl _)]
      simp only [Nat.sub_self, List.getElem_singleton]
      exact ownsRow_block hv fun g hg => ha.grown.block g (hv.lt g hg).2 (ownsRow_apart hv h.own (by decide) hg)
theorem NamesAt.app {F : Nat → Prop} {w w' : World} {o : Value} {A : Option Addr} {n c k : Nat} {vs : List Value} {S : SD} (h : NamesAt F w A n c S) (ho : w.ownsRow 0 32 1 o k vs) (hg : w.grownBy w' o.ownBlock) : NamesAt F w' A n c S :=
  ⟨ownsRow_block h.own fun g hgg => hg.block g (h.own.lt g hgg).2 (ownsRow_apart h.own ho (by decide) hgg), h.out, h.len⟩
theorem DiskAt.app {F : Nat → Prop} {w w' : World} {o : Value} {d : Nat} {S : SD} (h : DiskAt F w d S) (ho : ∀ g, o.ownBlock = some g → ¬ F g) (hg : w.grownBy w' o.ownBlock) : DiskAt F w' d S :=
  h.keep hg.size fun k hk => hg.block k (h.lt k hk) fun e => ho k e.symm hk

/-- the rows that Read has made of the first k names -/
structure Olds (F : Nat → Prop) (w0 w : World) (d : Nat) (S : SD) (A : Option Addr) (n c : Nat) (o : Value) (k : Nat) (vs : List Value) : Prop where
  disk : DiskAt F w d S
  names : NamesAt F w A n c S
  old : OldAt F w o k vs ((S.files.map fun p => p.2.data).take k)
  fb : ∀ k, F k → w0.heap.size ≤ k
  ob : ∀ g, o.ownBlock = some g → w0.heap.size ≤ g
  below : Below w0.heap.size w0 w
end Go.Proofs.Ytkefciacdmbidaa

namespace Go.Proofs.Ytkefciacdmbidaa
open Go.RowKit Go.WideMaps Go.Maps

/-- the frames, the bytes behind them, and what stands there -/
def allF : Nat → List Int → List (List Int) × List Int × Int
  | 0, xs => ([], xs, 0)
  | k + 1, xs => if xs = [] then ([], [], 0) else match nextB xs with
    | .torn => ([], xs, 1)
    | .bad => ([], xs, 2)
    | .whole f r => (f :: (allF k r).1, (allF k r).2)
def allB (xs : List Int) : List (List Int) × List Int × Int := allF xs.length xs

theorem nextB_shorter {xs f r : List Int} (h : nextB xs = .whole f r) : r.length < xs.length ∧ ∃ j, r = xs.drop j := by
  unfold nextB at h
  split at h
  · simp at h
  · cases ht : takeN xs 0 0 with
    | none => rw [ht] at h; simp at h
    | some p =>
      obtain ⟨n, q⟩ := p
      rw [ht] at h
      simp only at h
      split at h
      · simp at h
      · split at h
        · simp at h
        · split at h
          · simp only [NextR.whole.injEq] at h
            obtain ⟨j, hj, e⟩ := takeN_rest ht
            have h0 : xs ≠ [] := fun e0 => by rw [e0] at ht; simp [takeN] at ht
            have h1 : 0 < xs.length := List.length_pos_iff.2 h0
            rw [← h.2, e]
            refine ⟨by rw [List.length_drop, List.length_drop]; omega, j + (n + 4), by rw [List.drop_drop]⟩
          · simp at h

theorem allF_enough : ∀ (k : Nat) (xs : List Int), xs.length ≤ k → allF k xs = allB xs := by
  have main : ∀ (n k m : Nat) (xs : List Int), xs.length ≤ n → xs.length ≤ k → xs.length ≤ m → allF k xs = allF m xs := by
    intro n
    induction n with
    | zero =>
      intro k m xs h0 _ _
      have : xs = [] := by simpa using h0
      subst this
      cases k <;> cases m <;> rfl
    | succ n ih =>
      intro k m xs h0 h1 h2
      cases xs with
      | nil => cases k <;> cases m <;> rfl
      | cons c t =>
        cases k with
        | zero => simp at h1
        | succ k =>
          cases m with
          | zero => simp at h2
          | succ m =>
            unfold allF
            rw [if_neg (by simp), if_neg (by simp)]
            cases hn : nextB (c :: t) with
            | torn => rfl
            | bad => rfl
            | whole f r =>
              have hs := (nextB_shorter hn).1
              simp only
              rw [ih k m r (by simp at h0 hs ⊢; omega) (by simp at h1 hs ⊢; omega) (by simp at h2 hs ⊢; omega)]
  exact fun k xs h => main xs.length k xs.length xs (Nat.le_refl _) h (Nat.le_refl _)
theorem allB_nil : allB [] = ([], [], 0) := rfl
theorem allB_step {xs : List Int} (h : xs ≠ []) : allB xs = match nextB xs with
    | .torn => ([], xs, 1)
    | .bad => ([], xs, 2)
    | .whole f r => (f :: (allB r).1, (allB r).2) := by
  cases xs with
  | nil => exact absurd rfl h
  | cons c t =>
    show allF (t.length + 1) (c :: t) = _
    rw [allF, if_neg (by simp)]
    cases hn : nextB (c :: t) with
    | torn => rfl
    | bad => rfl
    | whole f r =>
      have hs := (nextB_shorter hn).1
      simp only
      rw [allF_enough t.length r (by simp at hs; omega)]

/-- rows of bytes that were made since, in a row that was made since -/
structure Frames (w wr : World) (o : Value) (fs : List (List Int)) (vs : List Value) : Prop where
  row : Buf 32 1 w wr o fs.length vs
  len : vs.length = fs.length
  each : ∀ j (h : j < fs.length), ∃ g n, vs[j]? = some (.slice (some ⟨g, 0, none⟩) n n) ∧ BytesAt wr (.slice (some ⟨g, 0, none⟩) n n) fs[j] ∧ g < wr.heap.size ∧ o.ownBlock ≠ some g

theorem Frames.step {w wr w' : World} {o : Value} {fs : List (List Int)} {vs : List Value} (h : Frames w wr o fs vs) (hb : Below wr.heap.size wr w') : Frames w w' o fs vs :=
  ⟨h.row.step hb, h.len, fun j hj => by
    obtain ⟨g, n, h1, h2, h3, h4⟩ := h.each j hj
    exact ⟨g, n, h1, srcs_below h2 hb, Nat.lt_of_lt_of_le h3 hb.size, h4⟩⟩

theorem bytes_block {w w' : World} {g n c : Nat} {xs : List Int} (h : BytesAt w (.slice (some ⟨g, 0, none⟩) n c) xs) (hb : w'.heap[g]? = w.heap[g]?) : BytesAt w' (.slice (some ⟨g, 0, none⟩) n c) xs := by
  rcases h with h | ⟨ad, c', e, hc, hl, hcell, h1⟩
  · exact Or.inl h
  · simp only [Value.slice.injEq] at e
    obtain ⟨e1, e2, e3⟩ := e
    cases e1
    exact Or.inr ⟨⟨g, 0, none⟩, c', by rw [e2, e3], hc, hl, fun j u hj => by
      rw [World.cell?_of_block (w := w) (by rw [add_flat']; exact hb)]
      exact hcell j u hj, h1⟩

theorem Frames.app {w wr w' : World} {o o' : Value} {fs : List (List Int)} {vs : List Value} {g n : Nat} {f : List Int} (h : Frames w wr o fs vs) (hf : BytesAt wr (.slice (some ⟨g, 0, none⟩) n n) f) (hg : g < wr.heap.size) (hgo : o.ownBlock ≠ some g)
    (ha : Appended (wr.alloc (.cells #[.slice (some ⟨g, 0, none⟩) n n] 32)) w' o o' 32 1 fs.length 1 (vs ++ [.slice (some ⟨g, 0, none⟩) n n])) : Frames w w' o' (fs ++ [f]) (vs ++ [.slice (some ⟨g, 0, none⟩) n n]) := by
  have hb : Below wr.heap.size wr (wr.alloc (.cells #[.slice (some ⟨g, 0, none⟩) n n] 32)) := (Below.refl _ _).alloc (Nat.le_refl _) _
  have hrow := h.row.app hb ha
  have hkeep : ∀ k, k < wr.heap.size → o.ownBlock ≠ some k → w'.heap[k]? = wr.heap[k]? ∧ k < w'.heap.size ∧ o'.ownBlock ≠ some k := fun k hk hko => by
    have hk1 : k < (wr.alloc (.cells #[.slice (some ⟨g, 0, none⟩) n n] 32)).heap.size := Nat.lt_of_lt_of_le hk hb.size
    refine ⟨(ha.grown.block k hk1 fun e => hko e.symm).trans (hb.block k hk), Nat.lt_of_lt_of_le hk1 ha.grown.size, fun e => ?_⟩
    rcases ha.loc with hl | hl
    · exact hko (by rw [← hl]; exact e)
    · rw [hl] at e
      cases e
      exact Nat.lt_irrefl _ hk1
  refine ⟨by rw [List.length_append]; exact hrow, by simp [h.len], fun j hj => ?_⟩
  rw [List.length_append, List.length_singleton] at hj
  by_cases hlt : j < fs.length
  · obtain ⟨g', n', h1, h2, h3, h4⟩ := h.each j hlt
    obtain ⟨k1, k2, k3⟩ := hkeep g' h3 h4
    refine ⟨g', n', by rw [List.getElem?_append_left (by rw [h.len]; exact hlt)]; exact h1, ?_, k2, k3⟩
    rw [List.getElem_append_left hlt]
    exact bytes_block h2 k1
  · have e : j = fs.length := by omega
    subst e
    obtain ⟨k1, k2, k3⟩ := hkeep g hg hgo
    refine ⟨g, n, by rw [List.getElem?_append_right (by rw [h.len]; exact Nat.le_refl _), h.len]; simp, ?_, k2, k3⟩
    rw [List.getElem_append_right (Nat.le_refl _)]
    simp only [Nat.sub_self, List.getElem_singleton]
    exact bytes_block hf k1

theorem Frames.rows {w wr : World} {o : Value} {fs : List (List Int)} {vs : List Value} (h : Frames w wr o fs vs) : RowsAt wr o fs := by
  obtain ⟨A, c, rfl⟩ := h.row.slice
  refine ⟨A, c, rfl, fun hne => ?_⟩
  have h0 : 0 < fs.length := List.length_pos_iff.2 hne
  rcases h.row.own.2 with ⟨e1, e2⟩ | ⟨g, cap, cur, e1, -, hg, -⟩
  · omega
  · simp only [Value.slice.injEq] at e1
    obtain ⟨rfl, -, -⟩ := e1
    refine ⟨g, 0, rfl, (Array.getElem?_eq_some_iff.1 hg).1, fun j hj => ?_⟩
    obtain ⟨g', n', h1, h2, -⟩ := h.each j hj
    have := h.row.own.cells (g := g) rfl j _ h1
    rw [add_flat'] at this
    exact ⟨_, this, h2⟩

def AllPost (w : World) (len : Nat) (t : List (List Int) × List Int × Int) (e : Ending) (w' : World) : Prop :=
  ∃ v, e = .returned (.tuple #[v, .int .i64 ((len : Int) - t.2.1.length), .int .i64 t.2.2]) ∧ RowsAt w' v t.1 ∧ Below w.heap.size w w'
end Go.Proofs.Ytkefciacdmbidaa

namespace Go.Proofs.Ytkefciacdmbidaa
open Go.RowKit Go.WideMaps Go.Maps

/-- how All runs -/
structure AllAt (w wr : World) (xs : List Int) (o rv : Value) (fs : List (List Int)) (ys : List Int) : Prop where
  eq : allB xs = (fs ++ (allB ys).1, (allB ys).2)
  fr : ∃ vs, Frames w wr o fs vs
  rest : BytesAt wr rv ys
  oct : Octets ys
  len : ys.length + fs.length ≤ xs.length

set_option maxRecDepth 10000 in
set_option maxHeartbeats 1000000 in
theorem all_any (w : World) (v : Value) (xs : List Int) (h : BytesAt w v xs) (ho : Octets xs) (hn : xs.length ≤ 1000000000) : Calls Try.prog 66 #[v] w (AllPost w xs.length (allB xs)) := by
  obtain ⟨A, cap, rfl, hcap⟩ := Srcs.slice h
  have h0 : AllAt w w xs (.slice none 0 0) (.slice A xs.length cap) [] xs := ⟨rfl, ⟨[], Buf.nil 32 1 (Below.refl _ _), rfl, fun j hj => by simp at hj⟩, h, ho, by simp⟩
  have H0 := Lib.hid h0
  clear h ho h0
  go_enter Try.func66, Try.ntmps66
  go_wp2_with fail
  go_loopw [5, 6] (fun o r wr => ∃ (B : Option Addr) (bc : Nat) (R : Option Addr) (rc : Nat) (fs : List (List Int)) (ys : List Int), o = .slice B fs.length bc ∧ r = .slice R ys.length rc ∧ AllAt w wr xs (.slice B fs.length bc) (.slice R ys.length rc) fs ys) (fun _ r _ => match r with | .slice _ n _ => n | _ => 0)
  case atStart => exact ⟨_, _, _, _, [], xs, rfl, rfl, H0.out⟩
  case round =>
    obtain ⟨B, bc, R, rc, fs, ys, rfl, rfl, hat⟩ := hrel
    have hle := hat.len
    have Hat := Lib.hid hat
    clear hat H0
    by_cases hlt : 0 < ys.length
    · have hne : ys ≠ [] := fun e => by rw [e] at hlt; simp at hlt
      have hst := allB_step hne
      have hnx := next_any wr _ ys Hat.out.rest Hat.out.oct (by omega)
      have Hst := Lib.hid hst
      have Hnx := Lib.hid hnx
      clear hst hnx hne
      go_wp2_with fail
      refine Hnx.out.mono ?_
      intro e w1 hp
      cases hN : nextB ys with
      | torn =>
        rw [hN] at hp
        obtain ⟨hb1, rfl⟩ := hp
        have Hb1 := Lib.hid hb1
        have hst2 := Hst.out
        rw [hN] at hst2
        have Hst2 := Lib.hid hst2
        clear hb1 hst2
        go_wp2
        go_ret3
        obtain ⟨vs, hfr⟩ := Hat.out.fr
        have heq := Hat.out.eq
        rw [Hst2.out, List.append_nil] at heq
        rw [heq]
        exact ⟨_, rfl, ((hfr.step Hb1.out).rows), (hfr.step Hb1.out).row.below⟩
      | bad =>
        rw [hN] at hp
        obtain ⟨hb1, rfl⟩ := hp
        have Hb1 := Lib.hid hb1
        have hst2 := Hst.out
        rw [hN] at hst2
        have Hst2 := Lib.hid hst2
        clear hb1 hst2
        go_wp2
        go_ret3
        obtain ⟨vs, hfr⟩ := Hat.out.fr
        have heq := Hat.out.eq
        rw [Hst2.out, List.append_nil] at heq
        rw [heq]
        exact ⟨_, rfl, ((hfr.step Hb1.out).rows), (hfr.step Hb1.out).row.below⟩
      | whole f r =>
        rw [hN] at hp
        obtain ⟨hb1, g, n, v2, rfl, hf, hr, hg1, hg2⟩ := hp
        obtain ⟨R2, rc2, rfl, -⟩ := ownsRow_slice hr
        have hst2 := Hst.out
        rw [hN] at hst2
        obtain ⟨hsh, j, hj⟩ := nextB_shorter hN
        obtain ⟨vs, hfr⟩ := Hat.out.fr
        have hfr1 := hfr.step hb1
        have Hfr0 := Lib.hid hfr
        have hgo : (Value.slice B fs.length bc).ownBlock ≠ some g := fun e => by
          have := (hfr.row.own.lt g e).2
          omega
        have Hst2 := Lib.hid hst2
        have Hf := Lib.hid hf
        have Hr := Lib.hid hr
        have Hj := Lib.hid hj
        have Hfr1 := Lib.hid hfr1
        have Hgo := Lib.hid hgo
        clear hst2 hb1 hf hr hg1 hj hfr hfr1 hgo
        go_wp2_with (first | (at_builtin; refine wpList_app _ rfl _ _ 54 rfl 32 1 24 _ Try.underlying54 info32 rfl (by decide) _ fs.length vs rfl ((ownsRow_base0 Hfr1.out.row.own).alloc _) _ 1 [.slice (some ⟨g, 0, none⟩) n n] rfl (one_new w1 _ rfl) ?h63 ?hby ?_))
        case h63 => unfold maxLen; omega
        case hby => omega
        intro o' w7 ha
        have hfr7 := Hfr1.out.app Hf.out hg2 Hgo.out ha
        obtain ⟨A7, c7, rfl⟩ := hfr7.row.slice
        have hr7 : BytesAt w7 (.slice R2 r.length rc2) r := by
          refine ownsRow_srcs (ownsRow_block Hr.out fun k hk => ?_) (one_u8 _)
          have h1 := Hr.out.lt k hk
          refine (ha.grown.block k (by simp; omega) fun e => ?_).trans (Below.heap_alloc w1 _ k h1.2)
          have := (Hfr0.out.row.own.lt k e.symm).2
          omega
        have Hfr7 := Lib.hid hfr7
        have Hr7 := Lib.hid hr7
        clear hfr7 hr7 ha
        go_wp2
        have heq := Hat.out.eq
        rw [Hst2.out] at heq
        refine ⟨⟨A7, c7, R2, rc2, fs ++ [f], r, by simp, rfl, ⟨by rw [heq, List.append_assoc]; rfl, ⟨_, Hfr7.out⟩, Hr7.out, ?_, ?_⟩⟩, hsh⟩
        · rw [Hj.out]
          exact Hat.out.oct.drop j
        · rw [List.length_append, List.length_singleton]
          omega
    · have hy : ys = [] := List.length_eq_zero_iff.1 (by omega)
      subst hy
      go_wp2
      go_ret3
      obtain ⟨vs, hfr⟩ := Hat.out.fr
      have heq := Hat.out.eq
      rw [allB_nil, List.append_nil] at heq
      rw [heq]
      exact ⟨_, by simp, hfr.rows, hfr.row.below⟩
end Go.Proofs.Ytkefciacdmbidaa
