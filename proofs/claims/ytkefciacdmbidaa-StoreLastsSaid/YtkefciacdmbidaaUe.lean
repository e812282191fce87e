/- great, do: the calls of a law. -/
import Derived.Test.YtkefciacdmbidaaUd
namespace Go.Proofs.Ytkefciacdmbidaa
open Go.RowKit Go.WideMaps Go.Maps

structure CallM where
  what : Int
  nm : ByteArray
  to : ByteArray
  dv : Value
  data : List Int
  n : Int

/-- a call that lies at an address, below block number B -/
structure CallAt (w : World) (B b off : Nat) (c : CallM) : Prop where
  c0 : w.cell? ⟨b, off, none⟩ = some (.int .i64 c.what)
  c1 : w.cell? ⟨b, off + 1, none⟩ = some (.string c.nm)
  c2 : w.cell? ⟨b, off + 2, none⟩ = some (.string c.to)
  c3 : w.cell? ⟨b, off + 3, none⟩ = some c.dv
  c4 : w.cell? ⟨b, off + 4, none⟩ = some (.int .i64 c.n)
  data : BytesAt w c.dv c.data
  low : ∀ ad n k, c.dv = .slice (some ad) n k → 0 < n → ad.block < B
  blk : b < B
  nmsz : c.nm.size ≤ 140737488351232
  tosz : c.to.size ≤ 140737488351232
  dsz : c.data.length ≤ 140737488351232
  lo : -9223372036854775808 ≤ c.n
  hi : c.n ≤ 9223372036854775807

structure CallsAt (w : World) (B : Nat) (A : Option Addr) (cs : List CallM) : Prop where
  at_ : cs ≠ [] → ∃ b off, A = some ⟨b, off, none⟩ ∧ ∀ i (h : i < cs.length), CallAt w B b (off + i * 5) cs[i]

theorem srcs_low {w w' : World} {v : Value} {size m B : Nat} {news : List Value} (h : Srcs w v size m news) (hl : ∀ ad n k, v = .slice (some ad) n k → 0 < n → ad.block < B) (hb : Below B w w') : Srcs w' v size m news := by
  rcases h with h | ⟨ad, c, rfl, hc, hlen, hcell, h1⟩
  · exact Or.inl h
  · refine Or.inr ⟨ad, c, rfl, hc, hlen, fun j u hj => ?_, h1⟩
    have h2 := hcell j u hj
    have e : (ad.add j).block = ad.block := by unfold Addr.add; split <;> rfl
    have h0 : 0 < m := by
      have h3 := (List.getElem?_eq_some_iff.1 hj).1
      rcases Nat.eq_zero_or_pos m with h4 | h4
      · subst h4
        omega
      · exact h4
    rw [hb.cell (by rw [e]; exact hl ad m c rfl h0)]
    exact h2

theorem CallAt.below {w w' : World} {B b off : Nat} {c : CallM} (h : CallAt w B b off c) (hb : Below B w w') : CallAt w' B b off c where
  c0 := (hb.cell (p := ⟨b, _, none⟩) h.blk).trans h.c0
  c1 := (hb.cell (p := ⟨b, _, none⟩) h.blk).trans h.c1
  c2 := (hb.cell (p := ⟨b, _, none⟩) h.blk).trans h.c2
  c3 := (hb.cell (p := ⟨b, _, none⟩) h.blk).trans h.c3
  c4 := (hb.cell (p := ⟨b, _, none⟩) h.blk).trans h.c4
  data := srcs_low h.data h.low hb
  low := h.low
  blk := h.blk
  nmsz := h.nmsz
  tosz := h.tosz
  dsz := h.dsz
  lo := h.lo
  hi := h.hi
theorem CallsAt.below {w w' : World} {B : Nat} {A : Option Addr} {cs : List CallM} (h : CallsAt w B A cs) (hb : Below B w w') : CallsAt w' B A cs :=
  ⟨fun hne => by
    obtain ⟨b, off, e, hc⟩ := h.at_ hne
    exact ⟨b, off, e, fun i hi => (hc i hi).below hb⟩⟩

def dlen (cs : List CallM) : Nat := (cs.map fun c => c.data.length).sum
theorem dlen_take (cs : List CallM) (k : Nat) (h : k < cs.length) : dlen (cs.take (k + 1)) = dlen (cs.take k) + cs[k].data.length := by
  unfold dlen
  rw [List.take_succ_eq_append_getElem h, List.map_append, List.sum_append]
  simp

/-- calls that are looked at -/
structure Small (cs : List CallM) : Prop where
  len : cs.length ≤ 80
  sum : dlen cs ≤ 3000
  nm : ∀ c ∈ cs, c.nm.size ≤ 100
  to : ∀ c ∈ cs, c.to.size ≤ 100

structure GreatAt (cs : List CallM) (k : Nat) : Prop where
  sum : dlen (cs.take k) ≤ 3000
  nm : ∀ c ∈ cs.take k, c.nm.size ≤ 100 ∧ c.to.size ≤ 100

def GreatPost (w : World) (cs : List CallM) (e : Ending) (w' : World) : Prop := ∃ b, e = .returned (.bool b) ∧ (b = false → Small cs) ∧ w = w'

theorem GreatAt.next {cs : List CallM} {k : Nat} (h : GreatAt cs k) (hk : k < cs.length) (h1 : dlen (cs.take k) + cs[k].data.length ≤ 3000) (h2 : cs[k].nm.size ≤ 100) (h3 : cs[k].to.size ≤ 100) : GreatAt cs (k + 1) :=
  ⟨by rw [dlen_take _ _ hk]; exact h1, fun c hc => by
    rw [List.take_succ_eq_append_getElem hk] at hc
    rcases List.mem_append.1 hc with hc | hc
    · exact h.nm c hc
    · simp at hc
      rw [hc]
      exact ⟨h2, h3⟩⟩

set_option maxRecDepth 100000 in
set_option maxHeartbeats 1000000 in
theorem great_any (w : World) (B : Nat) (A : Option Addr) (c : Nat) (cs : List CallM) (h : CallsAt w B A cs) (hlen : cs.length ≤ 140737488351232) : Calls Try.prog 12 #[.slice A cs.length c] w (GreatPost w cs) := by
  have H := Lib.hid h
  clear h
  by_cases h80 : 80 < cs.length
  · go_enter Try.func12, Try.ntmps12
    go_wp2
    go_ret
    exact ⟨true, rfl, (fun h => by cases h), rfl⟩
  · go_enter Try.func12, Try.ntmps12
    go_wp2_with fail
    go_loop [3, 4] (fun n i => ∃ k : Nat, k ≤ cs.length ∧ i = .int .i64 k ∧ n = .int .i64 (dlen (cs.take k)) ∧ GreatAt cs k) (fun _ i => cs.length - (intOf i).toNat)
    case atStart => exact ⟨0, Nat.zero_le _, rfl, rfl, ⟨Nat.zero_le _, fun _ h => by simp at h⟩⟩
    case round =>
      obtain ⟨k, hk, rfl, rfl, hg⟩ := hrel
      by_cases hlt : k < cs.length
      · obtain ⟨b, off, rfl, hc⟩ := H.out.at_ (fun e => by rw [e] at hlt; simp at hlt)
        have hck := hc k hlt
        obtain ⟨x, hx⟩ : ∃ x, cs[k] = x := ⟨_, rfl⟩
        rw [hx] at hck
        have d1 := hck.c1
        have d2 := hck.c2
        have d3 := hck.c3
        obtain ⟨A1, c1, hdv, -⟩ := Srcs.slice hck.data
        rw [hdv] at d3
        have hs1 := hck.nmsz
        have hs2 := hck.tosz
        have hs3 := hck.dsz
        have hsum := hg.sum
        have Hx := Lib.hid hx
        have Hg := Lib.hid hg
        clear hc hck hx hdv hg
        by_cases t1 : 3000 < dlen (cs.take k) + x.data.length
        · go_wp2
          go_ret
          exact ⟨true, rfl, (fun h => by cases h), rfl⟩
        · by_cases t2 : 100 < x.nm.size
          · go_wp2
            go_ret
            exact ⟨true, rfl, (fun h => by cases h), rfl⟩
          · by_cases t3 : 100 < x.to.size
            · go_wp2
              go_ret
              exact ⟨true, rfl, (fun h => by cases h), rfl⟩
            · go_wp2
              have hsm := dlen_take cs k hlt
              rw [Hx.out] at hsm
              exact ⟨⟨k + 1, by omega, by go_num, by rw [hsm]; go_num, Hg.out.next hlt (by rw [Hx.out]; omega) (by rw [Hx.out]; omega) (by rw [Hx.out]; omega)⟩, by simp [intOf]; omega⟩
      · go_wp2
        go_ret
        have hk1 : k = cs.length := by omega
        subst hk1
        refine ⟨false, rfl, fun _ => ⟨by omega, ?_, fun c hc => ?_, fun c hc => ?_⟩, rfl⟩
        · have := hg.sum
          rw [List.take_length] at this
          exact this
        · have := hg.nm c (by rw [List.take_length]; exact hc)
          exact this.1
        · have := hg.nm c (by rw [List.take_length]; exact hc)
          exact this.2
end Go.Proofs.Ytkefciacdmbidaa
